/- All printed functions. -/
import Derived.Test.YtgfejdekpmkffaaBFuns0
import Derived.Test.YtgfejdekpmkffaaBFuns1
import Derived.Test.YtgfejdekpmkffaaBFuns2
import Derived.Test.YtgfejdekpmkffaaBFuns3
import Derived.Test.YtgfejdekpmkffaaBFuns4
import Derived.Test.YtgfejdekpmkffaaBFuns5
import Derived.Test.YtgfejdekpmkffaaBFuns6
import Derived.Test.YtgfejdekpmkffaaBFuns7
