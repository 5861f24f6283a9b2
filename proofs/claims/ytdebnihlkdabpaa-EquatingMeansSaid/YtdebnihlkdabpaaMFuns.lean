/- All printed functions. -/
import Derived.Test.YtdebnihlkdabpaaMFuns0
import Derived.Test.YtdebnihlkdabpaaMFuns1
import Derived.Test.YtdebnihlkdabpaaMFuns2
import Derived.Test.YtdebnihlkdabpaaMFuns3
import Derived.Test.YtdebnihlkdabpaaMFuns4
import Derived.Test.YtdebnihlkdabpaaMFuns5
import Derived.Test.YtdebnihlkdabpaaMFuns6
