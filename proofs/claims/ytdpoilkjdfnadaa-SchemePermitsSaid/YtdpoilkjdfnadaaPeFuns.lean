/- All printed functions. -/
import Derived.Test.YtdpoilkjdfnadaaPeFuns0
import Derived.Test.YtdpoilkjdfnadaaPeFuns1
import Derived.Test.YtdpoilkjdfnadaaPeFuns2
import Derived.Test.YtdpoilkjdfnadaaPeFuns3
import Derived.Test.YtdpoilkjdfnadaaPeFuns4
