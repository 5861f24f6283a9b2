/- All printed functions. -/
import Derived.Test.YtdpoilkjdfnadaaSFuns0
import Derived.Test.YtdpoilkjdfnadaaSFuns1
import Derived.Test.YtdpoilkjdfnadaaSFuns2
import Derived.Test.YtdpoilkjdfnadaaSFuns3
import Derived.Test.YtdpoilkjdfnadaaSFuns4
import Derived.Test.YtdpoilkjdfnadaaSFuns5
import Derived.Test.YtdpoilkjdfnadaaSFuns6
