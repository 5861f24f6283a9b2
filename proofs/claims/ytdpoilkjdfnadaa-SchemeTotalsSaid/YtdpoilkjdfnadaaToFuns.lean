/- All printed functions. -/
import Derived.Test.YtdpoilkjdfnadaaToFuns0
import Derived.Test.YtdpoilkjdfnadaaToFuns1
import Derived.Test.YtdpoilkjdfnadaaToFuns2
import Derived.Test.YtdpoilkjdfnadaaToFuns3
import Derived.Test.YtdpoilkjdfnadaaToFuns4
