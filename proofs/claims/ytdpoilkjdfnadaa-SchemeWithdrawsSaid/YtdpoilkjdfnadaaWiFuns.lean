/- All printed functions. -/
import Derived.Test.YtdpoilkjdfnadaaWiFuns0
import Derived.Test.YtdpoilkjdfnadaaWiFuns1
import Derived.Test.YtdpoilkjdfnadaaWiFuns2
import Derived.Test.YtdpoilkjdfnadaaWiFuns3
import Derived.Test.YtdpoilkjdfnadaaWiFuns4
