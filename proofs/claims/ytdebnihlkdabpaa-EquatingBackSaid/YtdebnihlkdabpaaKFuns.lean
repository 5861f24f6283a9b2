/- All printed functions. -/
import Derived.Test.YtdebnihlkdabpaaKFuns0
import Derived.Test.YtdebnihlkdabpaaKFuns1
import Derived.Test.YtdebnihlkdabpaaKFuns2
import Derived.Test.YtdebnihlkdabpaaKFuns3
import Derived.Test.YtdebnihlkdabpaaKFuns4
import Derived.Test.YtdebnihlkdabpaaKFuns5
