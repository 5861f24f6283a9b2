/- All printed functions. -/
import Derived.Test.YtgfejdekpmkffaaRFuns0
import Derived.Test.YtgfejdekpmkffaaRFuns1
import Derived.Test.YtgfejdekpmkffaaRFuns2
import Derived.Test.YtgfejdekpmkffaaRFuns3
import Derived.Test.YtgfejdekpmkffaaRFuns4
