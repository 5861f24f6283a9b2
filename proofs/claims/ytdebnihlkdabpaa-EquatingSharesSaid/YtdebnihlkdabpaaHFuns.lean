/- All printed functions. -/
import Derived.Test.YtdebnihlkdabpaaHFuns0
import Derived.Test.YtdebnihlkdabpaaHFuns1
import Derived.Test.YtdebnihlkdabpaaHFuns2
import Derived.Test.YtdebnihlkdabpaaHFuns3
import Derived.Test.YtdebnihlkdabpaaHFuns4
import Derived.Test.YtdebnihlkdabpaaHFuns5
