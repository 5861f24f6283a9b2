/- Shorter forms of the rules that are met most. -/
import Derived.Test.YtdebnihlkdabpaaEngW
namespace Go.VM
section
variable {R : Type} {E : R → V × List Blk} {o : Option R} {P : Program} {f : FuncId} {N m : Nat} {T U : Tm} {H H0 : List Blk} {k : List VI} {all : Array Oper} {st : List (Nat × Nat)} {lv : List Nat}
theorem oP {i : Nat} {q : Oper} {l : List Oper} (v : V) (hp : PureV P q T H v) (h : GoesO P f N m (.ops all (i + 1) l :: k) (tput T q.dst v) H E o) (hw : vwanted T all q = some true := by kernel_rfl) (hN : inN N q.dst = true := by kernel_rfl) : GoesO P f N m (.ops all i (q :: l) :: k) T H E o := oOp v hw hN hp.does h
theorem oQ {i : Nat} {q : Oper} {l : List Oper} {bs : List Nat} (v : V) (hp : Quiet P q T H bs v) (h : GoesO P f N m (.ops all (i + 1) l :: k) (tput T q.dst v) H E o) (hw : vwanted T all q = some true := by kernel_rfl) (hN : inN N q.dst = true := by kernel_rfl) : GoesO P f N m (.ops all i (q :: l) :: k) T H E o := oOp v hw hN hp.does h
theorem oD {i : Nat} {q : Oper} {l : List Oper} {H' : List Blk} {tc : List Nat} (v : V) (hp : Does P q T H v H' tc) (h : GoesO P f N m (.ops all (i + 1) l :: k) (tput T q.dst v) H' E o) (hw : vwanted T all q = some true := by kernel_rfl) (hN : inN N q.dst = true := by kernel_rfl) : GoesO P f N m (.ops all i (q :: l) :: k) T H E o := oOp v hw hN hp h
theorem oSR {id : Nat} {c2 : Code} {all : Array Oper} {l : List Oper} (hl : all.toList = l) (h : GoesO P f N m (.ops all 0 l :: .code c2 :: k) T H E o) : GoesO P f N m (.code (.seq (.region id all false) c2) :: k) T H E o := oSeq (oRegion hl h)
theorem aQ (i : Nat) (bs : List Nat) {q : Oper} (v : V) (hi : all[i]? = some q) (hp : Quiet P q U H0 bs v) (h : AnyO P f N m all st H0 (i :: lv) k (tput T q.dst v) (tput U q.dst v) H E o) (hun : lv.contains i = false := by kernel_rfl) (hpre : predsV all lv q = true := by kernel_rfl) (hfree : freeV all lv i q = true := by kernel_rfl) (hsel : Region.noSelect all = true := by kernel_rfl) (hN : inN N q.dst = true := by kernel_rfl) (hw : vwanted T all q = some true := by kernel_rfl)
    (hst : takesV all st lv i bs = true := by kernel_rfl) : AnyO P f N m all st H0 lv k T U H E o := aTakeL v hi hun hpre hfree hsel hN hw hst hp h
theorem aP (i : Nat) {q : Oper} (v : V) (hi : all[i]? = some q) (hp : PureV P q U H0 v) (h : AnyO P f N m all st H0 (i :: lv) k (tput T q.dst v) (tput U q.dst v) H E o) (hun : lv.contains i = false := by kernel_rfl) (hpre : predsV all lv q = true := by kernel_rfl) (hfree : freeV all lv i q = true := by kernel_rfl) (hsel : Region.noSelect all = true := by kernel_rfl) (hN : inN N q.dst = true := by kernel_rfl) (hw : vwanted T all q = some true := by kernel_rfl)
    (hst : takesV all st lv i [] = true := by kernel_rfl) : AnyO P f N m all st H0 lv k T U H E o := aTakeL v hi hun hpre hfree hsel hN hw hst (hp.quiet []) h
end
end Go.VM
