/- All printed functions. -/
import Derived.Test.YtoffminccignfaaIFuns0
import Derived.Test.YtoffminccignfaaIFuns1
import Derived.Test.YtoffminccignfaaIFuns2
import Derived.Test.YtoffminccignfaaIFuns3
import Derived.Test.YtoffminccignfaaIFuns4
