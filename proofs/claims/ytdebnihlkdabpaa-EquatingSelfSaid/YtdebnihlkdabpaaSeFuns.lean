/- All printed functions. -/
import Derived.Test.YtdebnihlkdabpaaSeFuns0
import Derived.Test.YtdebnihlkdabpaaSeFuns1
import Derived.Test.YtdebnihlkdabpaaSeFuns2
import Derived.Test.YtdebnihlkdabpaaSeFuns3
import Derived.Test.YtdebnihlkdabpaaSeFuns4
import Derived.Test.YtdebnihlkdabpaaSeFuns5
