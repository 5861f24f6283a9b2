/- All printed functions. -/
import Derived.Test.YteofgcpnhiplkaaFuns0
import Derived.Test.YteofgcpnhiplkaaFuns1
import Derived.Test.YteofgcpnhiplkaaFuns2
