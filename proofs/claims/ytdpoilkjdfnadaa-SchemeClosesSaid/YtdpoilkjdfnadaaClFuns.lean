/- All printed functions. -/
import Derived.Test.YtdpoilkjdfnadaaClFuns0
import Derived.Test.YtdpoilkjdfnadaaClFuns1
import Derived.Test.YtdpoilkjdfnadaaClFuns2
import Derived.Test.YtdpoilkjdfnadaaClFuns3
import Derived.Test.YtdpoilkjdfnadaaClFuns4
