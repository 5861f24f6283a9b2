/- All printed functions. -/
import Derived.Test.YtdpoilkjdfnadaaVaFuns0
import Derived.Test.YtdpoilkjdfnadaaVaFuns1
import Derived.Test.YtdpoilkjdfnadaaVaFuns2
import Derived.Test.YtdpoilkjdfnadaaVaFuns3
import Derived.Test.YtdpoilkjdfnadaaVaFuns4
