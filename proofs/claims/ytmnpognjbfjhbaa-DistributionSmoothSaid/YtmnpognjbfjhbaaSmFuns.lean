/- All printed functions. -/
import Derived.Test.YtmnpognjbfjhbaaSmFuns0
import Derived.Test.YtmnpognjbfjhbaaSmFuns1
import Derived.Test.YtmnpognjbfjhbaaSmFuns2
import Derived.Test.YtmnpognjbfjhbaaSmFuns3
