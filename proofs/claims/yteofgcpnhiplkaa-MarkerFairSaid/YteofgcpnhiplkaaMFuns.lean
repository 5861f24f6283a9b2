/- All printed functions. -/
import Derived.Test.YteofgcpnhiplkaaMFuns0
import Derived.Test.YteofgcpnhiplkaaMFuns1
import Derived.Test.YteofgcpnhiplkaaMFuns2
import Derived.Test.YteofgcpnhiplkaaMFuns3
import Derived.Test.YteofgcpnhiplkaaMFuns4
import Derived.Test.YteofgcpnhiplkaaMFuns5
