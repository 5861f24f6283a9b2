/- All printed functions. -/
import Derived.Test.YtoffminccignfaaCFuns0
import Derived.Test.YtoffminccignfaaCFuns1
import Derived.Test.YtoffminccignfaaCFuns2
import Derived.Test.YtoffminccignfaaCFuns3
import Derived.Test.YtoffminccignfaaCFuns4
import Derived.Test.YtoffminccignfaaCFuns5
import Derived.Test.YtoffminccignfaaCFuns6
