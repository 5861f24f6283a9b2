/- All printed functions. -/
import Derived.Test.YtmnpognjbfjhbaaDFuns0
import Derived.Test.YtmnpognjbfjhbaaDFuns1
import Derived.Test.YtmnpognjbfjhbaaDFuns2
import Derived.Test.YtmnpognjbfjhbaaDFuns3
import Derived.Test.YtmnpognjbfjhbaaDFuns4
import Derived.Test.YtmnpognjbfjhbaaDFuns5
import Derived.Test.YtmnpognjbfjhbaaDFuns6
