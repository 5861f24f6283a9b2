/- Plain functions that answer as the program's functions do, and the proof that they do. -/
import Derived.Test.YtdpoilkjdfnadaaProg
import Derived.KernelRfl
import Derived.Test.YtdpoilkjdfnadaaEngS
import Derived.Test.YtdpoilkjdfnadaaSFacts
namespace Go.VM
open Go.Proofs
set_option linter.unusedVariables false
set_option linter.unusedSimpArgs false
set_option maxRecDepth 100000
/-- awardingbody/awardingbodymake.New -/
def make_New (k : Nat) (l : (List Int)) : Option ((List Int)) := Option.bind (bif (decide (((List.length l) : Int) > 600)) then gcut 0 600 ((List.length l) : Int) (some (List.take (Int.toNat 600) l)) else some l : Option ((List Int))) (fun l2 => some l2)
def make_New_E (l : (List Int)) : (List Int) → V × List Blk := fun x => (.ptr 0 0, [.box [.d (.lit (List.map e_i64 x)), .d (.int .i64 0)]])
theorem make_New_goes (k : Nat) (l : (List Int)) : RunsO Try.prog 12 [.d (.lit (List.map e_i64 l))] [] (make_New_E l) (make_New k l) := by
  refine RunsO.of_goes (N := 11) (m := 0) (T := [(0, .d (.lit (List.map e_i64 l)))]) Try.func12 rfl rfl (by kernel_rfl) (by kernel_rfl) (by kernel_rfl) ?_
  unfold make_New
  refine bStart ?_
  refine oSeq ?_
  refine oRegion rfl ?_
  refine oOp (.nilptr) (by kernel_rfl) (by kernel_rfl) (PureV.does (p_assign (by kernel_rfl))) ?_
  refine oEnd ?_
  refine oSeq ?_
  refine oSeq ?_
  refine oRegion rfl ?_
  refine oOp (.d (.lit (List.map e_i64 l))) (by kernel_rfl) (by kernel_rfl) (PureV.does (p_move (by kernel_rfl))) ?_
  refine oOp (.d (.int .i64 ((List.length l) : Int))) (by kernel_rfl) (by kernel_rfl) (PureV.does (k_lenLit (enc := e_i64) l (by kernel_rfl) Try.underlying22)) ?_
  refine oOp (.d (.bool (decide (((List.length l) : Int) > 600)))) (by kernel_rfl) (by kernel_rfl) (PureV.does (p_int (k := .i64) (p := ((List.length l) : Int)) (q := 600) (by kernel_rfl) (by kernel_rfl) (by kernel_rfl))) ?_
  refine oEnd ?_
  refine bJoin ((fun (l2 : (List Int)) => [(0, .d (.lit (List.map e_i64 l2)))])) ((fun (l2 : (List Int)) => [])) (fun s => s) (fun l2 => ?_) (fun hj2 => ?_)
  · refine oView (T' := [(0, .d (.lit (List.map e_i64 l2)))]) (H' := []) (by kernel_rfl) (by kernel_rfl) ?_
    refine oSeq ?_
    refine oRegion rfl ?_
    refine oOp (.d (.lit (List.map e_i64 l2))) (by kernel_rfl) (by kernel_rfl) (PureV.does (p_move (by kernel_rfl))) ?_
    refine oOp (.agg [.d (.lit (List.map e_i64 l2)), .d (.int .i64 0)]) (by kernel_rfl) (by kernel_rfl) (PureV.does (p_build bld56 (by kernel_rfl))) ?_
    refine oOp (.ptr 0 0) (by kernel_rfl) (by kernel_rfl) (k_box (H' := [.box [.d (.lit (List.map e_i64 l2)), .d (.int .i64 0)]]) (cells := [.d (.lit (List.map e_i64 l2)), .d (.int .i64 0)]) (by kernel_rfl) (by kernel_rfl) (by kernel_rfl)) ?_
    refine oOp (.ptr 0 0) (by kernel_rfl) (by kernel_rfl) (PureV.does (p_assign (by kernel_rfl))) ?_
    refine oEnd ?_
    exact oRet (r0 := l2) (rv := .ptr 0 0) (B := [.box [.d (.lit (List.map e_i64 l2)), .d (.int .i64 0)]]) (vs := [.ptr 0 0]) (σ := [0]) (by kernel_rfl) Try.func12 rfl (.cons _ _ _ _ (.tmp 2 _ (by kernel_rfl)) .nil) (by kernel_rfl) (by kernel_rfl) (by kernel_rfl) (by kernel_rfl) (by decide) (by kernel_rfl) (by kernel_rfl)
  · refine bSplit 5 (by kernel_rfl) (fun hc => ?_) (fun hc => ?_)
    · refine oCondT (by kernel_rfl) ?_
      refine oRegion rfl ?_
      refine oOp (.d (.lit (List.map e_i64 l))) (by kernel_rfl) (by kernel_rfl) (PureV.does (p_move (by kernel_rfl))) ?_
      refine bCut (fun h16 h17 h18 => ?_)
      refine oOp (.d (.lit (List.map e_i64 (List.take (Int.toNat 600) l)))) (by kernel_rfl) (by kernel_rfl) (PureV.does (k_cutH (k2 := .i64) (h := 600) e_i64_len l (by kernel_rfl) (by kernel_rfl) Try.underlying22 ty3 h17 h18)) ?_
      refine oOp (.d (.lit (List.map e_i64 (List.take (Int.toNat 600) l)))) (by kernel_rfl) (by kernel_rfl) (PureV.does (p_assign (by kernel_rfl))) ?_
      refine oEnd ?_
      refine oHead [0] [] (T' := [(0, .d (.lit (List.map e_i64 (List.take (Int.toNat 600) l))))]) (H' := []) (by kernel_rfl) (by kernel_rfl) (by kernel_rfl) (by kernel_rfl) (by decide) (by kernel_rfl) (by kernel_rfl) ?_
      exact hj2 (List.take (Int.toNat 600) l)
    · refine oCondF (by kernel_rfl) ?_
      refine oSkip ?_
      refine oHead [0] [] (T' := [(0, .d (.lit (List.map e_i64 l)))]) (H' := []) (by kernel_rfl) (by kernel_rfl) (by kernel_rfl) (by kernel_rfl) (by decide) (by kernel_rfl) (by kernel_rfl) ?_
      exact hj2 l

/-- (*awardingbody/awardingbodymake.Tape).Raw -/
def make_Tape_Raw (k : Nat) (x : (List Int)) (x1 : Int) : Option (Int × Int) := bif (decide (x1 ≥ ((List.length x) : Int))) then some (0, x1) else gidx x (IntKind.wrap .i64 ((IntKind.wrap .i64 (x1 + 1)) - 1)) fun e1 => some (e1, (IntKind.wrap .i64 (x1 + 1)))
def make_Tape_Raw_E (x : (List Int)) (x1 : Int) : Int × Int → V × List Blk := uc fun r1 => fun x2 => (.d (.int .i64 r1), [.box [.d (.lit (List.map e_i64 x)), .d (.int .i64 x2)]])
theorem make_Tape_Raw_goes (k : Nat) (x : (List Int)) (x1 : Int) : RunsO Try.prog 57 [.ptr 0 0] [.box [.d (.lit (List.map e_i64 x)), .d (.int .i64 x1)]] (make_Tape_Raw_E x x1) (make_Tape_Raw k x x1) := by
  refine RunsO.of_goes (N := 31) (m := 1) (T := [(0, .ptr 0 0)]) Try.func57 rfl rfl (by kernel_rfl) (by kernel_rfl) (by kernel_rfl) ?_
  unfold make_Tape_Raw
  refine bStart ?_
  refine oSeq ?_
  refine oRegion rfl ?_
  refine oOp (.d (.int .i64 0)) (by kernel_rfl) (by kernel_rfl) (PureV.does (p_assign (by kernel_rfl))) ?_
  refine oEnd ?_
  refine oSeq ?_
  refine oSeq ?_
  refine oDraw [(0, 10)] rfl ?_
  refine aTakeL (i := 0) (st' := []) (.ptr 0 0) rfl (by kernel_rfl) (by kernel_rfl) (by kernel_rfl) (by kernel_rfl) (by kernel_rfl) (by kernel_rfl) (by kernel_rfl) (PureV.quiet (p_move (by kernel_rfl)) []) ?_
  refine aTakeL (i := 1) (st' := []) (.ptr 0 0) rfl (by kernel_rfl) (by kernel_rfl) (by kernel_rfl) (by kernel_rfl) (by kernel_rfl) (by kernel_rfl) (by kernel_rfl) (PureV.quiet (k_nilCheck 0 0 (by kernel_rfl) (by kernel_rfl)) []) ?_
  refine aTakeL (i := 2) (st' := []) (.ptr 0 1) rfl (by kernel_rfl) (by kernel_rfl) (by kernel_rfl) (by kernel_rfl) (by kernel_rfl) (by kernel_rfl) (by kernel_rfl) (PureV.quiet (k_fieldAddr 0 0 (by kernel_rfl) Try.underlying56 rfl ty3 (by kernel_rfl)) []) ?_
  refine aTakeL (i := 3) (st' := [0]) (.d (.int .i64 x1)) rfl (by kernel_rfl) (by kernel_rfl) (by kernel_rfl) (by kernel_rfl) (by kernel_rfl) (by kernel_rfl) (by kernel_rfl) (k_load 0 1 (by kernel_rfl) Try.underlying3 (by kernel_rfl) (by kernel_rfl)) ?_
  refine aTakeL (i := 4) (st' := []) (.ptr 0 0) rfl (by kernel_rfl) (by kernel_rfl) (by kernel_rfl) (by kernel_rfl) (by kernel_rfl) (by kernel_rfl) (by kernel_rfl) (PureV.quiet (p_move (by kernel_rfl)) []) ?_
  refine aTakeL (i := 5) (st' := []) (.ptr 0 0) rfl (by kernel_rfl) (by kernel_rfl) (by kernel_rfl) (by kernel_rfl) (by kernel_rfl) (by kernel_rfl) (by kernel_rfl) (PureV.quiet (k_nilCheck 0 0 (by kernel_rfl) (by kernel_rfl)) []) ?_
  refine aTakeL (i := 6) (st' := []) (.ptr 0 0) rfl (by kernel_rfl) (by kernel_rfl) (by kernel_rfl) (by kernel_rfl) (by kernel_rfl) (by kernel_rfl) (by kernel_rfl) (PureV.quiet (k_fieldAddr 0 0 (by kernel_rfl) Try.underlying56 rfl ty22 (by kernel_rfl)) []) ?_
  refine aTakeL (i := 7) (st' := [0]) (.d (.lit (List.map e_i64 x))) rfl (by kernel_rfl) (by kernel_rfl) (by kernel_rfl) (by kernel_rfl) (by kernel_rfl) (by kernel_rfl) (by kernel_rfl) (k_load 0 0 (by kernel_rfl) Try.underlying22 (by kernel_rfl) (by kernel_rfl)) ?_
  refine aTakeL (i := 8) (st' := []) (.d (.int .i64 ((List.length x) : Int))) rfl (by kernel_rfl) (by kernel_rfl) (by kernel_rfl) (by kernel_rfl) (by kernel_rfl) (by kernel_rfl) (by kernel_rfl) (PureV.quiet (k_lenLit (enc := e_i64) x (by kernel_rfl) Try.underlying22) []) ?_
  refine aTakeL (i := 9) (st' := []) (.d (.bool (decide (x1 ≥ ((List.length x) : Int))))) rfl (by kernel_rfl) (by kernel_rfl) (by kernel_rfl) (by kernel_rfl) (by kernel_rfl) (by kernel_rfl) (by kernel_rfl) (PureV.quiet (p_int (k := .i64) (p := x1) (q := ((List.length x) : Int)) (by kernel_rfl) (by kernel_rfl) (by kernel_rfl)) []) ?_
  refine aDone (by kernel_rfl) ?_
  refine bSplit 12 (by kernel_rfl) (fun hc => ?_) (fun hc => ?_)
  · refine oCondT (by kernel_rfl) ?_
    refine oSeq ?_
    refine oRegion rfl ?_
    refine oOp (.d (.int .i64 0)) (by kernel_rfl) (by kernel_rfl) (PureV.does (p_assign (by kernel_rfl))) ?_
    refine oEnd ?_
    exact oRet (r0 := (0, x1)) (rv := .d (.int .i64 0)) (B := [.box [.d (.lit (List.map e_i64 x)), .d (.int .i64 x1)]]) (vs := [.d (.int .i64 0)]) (σ := [0]) (by kernel_rfl) Try.func57 rfl (.cons _ _ _ _ (.tmp 2 _ (by kernel_rfl)) .nil) (by kernel_rfl) (by kernel_rfl) (by kernel_rfl) (by kernel_rfl) (by decide) (by kernel_rfl) (by kernel_rfl)
  · refine oCondF (by kernel_rfl) ?_
    refine oSkip ?_
    refine oSeq ?_
    refine oRegion rfl ?_
    refine oOp (.ptr 0 0) (by kernel_rfl) (by kernel_rfl) (PureV.does (p_move (by kernel_rfl))) ?_
    refine oOp (.ptr 0 0) (by kernel_rfl) (by kernel_rfl) (PureV.does (k_nilCheck 0 0 (by kernel_rfl) (by kernel_rfl))) ?_
    refine oOp (.ptr 0 1) (by kernel_rfl) (by kernel_rfl) (PureV.does (k_fieldAddr 0 0 (by kernel_rfl) Try.underlying56 rfl ty3 (by kernel_rfl))) ?_
    refine oOp (.d (.int .i64 x1)) (by kernel_rfl) (by kernel_rfl) (Quiet.does (k_load 0 1 (by kernel_rfl) Try.underlying3 (by kernel_rfl) (by kernel_rfl))) ?_
    refine oOp (.d (.int .i64 (IntKind.wrap .i64 (x1 + 1)))) (by kernel_rfl) (by kernel_rfl) (PureV.does (p_int (k := .i64) (p := x1) (q := 1) (by kernel_rfl) (by kernel_rfl) (by kernel_rfl))) ?_
    refine oOp (.ptr 0 0) (by kernel_rfl) (by kernel_rfl) (PureV.does (k_nilCheck 0 0 (by kernel_rfl) (by kernel_rfl))) ?_
    refine oOp (.ptr 0 1) (by kernel_rfl) (by kernel_rfl) (PureV.does (k_fieldAddr 0 0 (by kernel_rfl) Try.underlying56 rfl ty3 (by kernel_rfl))) ?_
    refine oOp (.undef) (by kernel_rfl) (by kernel_rfl) (k_store (vs := [.d (.int .i64 (IntKind.wrap .i64 (x1 + 1)))]) (H' := [.box [.d (.lit (List.map e_i64 x)), .d (.int .i64 (IntKind.wrap .i64 (x1 + 1)))]]) 0 1 (by kernel_rfl) ty3 (by kernel_rfl) (by kernel_rfl) (by kernel_rfl)) ?_
    refine oEnd ?_
    refine oSeq ?_
    refine oDraw [(0, 12)] rfl ?_
    refine aTakeL (i := 0) (st' := []) (.ptr 0 0) rfl (by kernel_rfl) (by kernel_rfl) (by kernel_rfl) (by kernel_rfl) (by kernel_rfl) (by kernel_rfl) (by kernel_rfl) (PureV.quiet (p_move (by kernel_rfl)) []) ?_
    refine aTakeL (i := 1) (st' := []) (.ptr 0 0) rfl (by kernel_rfl) (by kernel_rfl) (by kernel_rfl) (by kernel_rfl) (by kernel_rfl) (by kernel_rfl) (by kernel_rfl) (PureV.quiet (k_nilCheck 0 0 (by kernel_rfl) (by kernel_rfl)) []) ?_
    refine aTakeL (i := 2) (st' := []) (.ptr 0 0) rfl (by kernel_rfl) (by kernel_rfl) (by kernel_rfl) (by kernel_rfl) (by kernel_rfl) (by kernel_rfl) (by kernel_rfl) (PureV.quiet (k_fieldAddr 0 0 (by kernel_rfl) Try.underlying56 rfl ty22 (by kernel_rfl)) []) ?_
    refine aTakeL (i := 3) (st' := [0]) (.d (.lit (List.map e_i64 x))) rfl (by kernel_rfl) (by kernel_rfl) (by kernel_rfl) (by kernel_rfl) (by kernel_rfl) (by kernel_rfl) (by kernel_rfl) (k_load 0 0 (by kernel_rfl) Try.underlying22 (by kernel_rfl) (by kernel_rfl)) ?_
    refine aTakeL (i := 4) (st' := []) (.ptr 0 0) rfl (by kernel_rfl) (by kernel_rfl) (by kernel_rfl) (by kernel_rfl) (by kernel_rfl) (by kernel_rfl) (by kernel_rfl) (PureV.quiet (p_move (by kernel_rfl)) []) ?_
    refine aTakeL (i := 5) (st' := []) (.ptr 0 0) rfl (by kernel_rfl) (by kernel_rfl) (by kernel_rfl) (by kernel_rfl) (by kernel_rfl) (by kernel_rfl) (by kernel_rfl) (PureV.quiet (k_nilCheck 0 0 (by kernel_rfl) (by kernel_rfl)) []) ?_
    refine aTakeL (i := 6) (st' := []) (.ptr 0 1) rfl (by kernel_rfl) (by kernel_rfl) (by kernel_rfl) (by kernel_rfl) (by kernel_rfl) (by kernel_rfl) (by kernel_rfl) (PureV.quiet (k_fieldAddr 0 0 (by kernel_rfl) Try.underlying56 rfl ty3 (by kernel_rfl)) []) ?_
    refine aTakeL (i := 7) (st' := [0]) (.d (.int .i64 (IntKind.wrap .i64 (x1 + 1)))) rfl (by kernel_rfl) (by kernel_rfl) (by kernel_rfl) (by kernel_rfl) (by kernel_rfl) (by kernel_rfl) (by kernel_rfl) (k_load 0 1 (by kernel_rfl) Try.underlying3 (by kernel_rfl) (by kernel_rfl)) ?_
    refine aTakeL (i := 8) (st' := []) (.d (.int .i64 (IntKind.wrap .i64 ((IntKind.wrap .i64 (x1 + 1)) - 1)))) rfl (by kernel_rfl) (by kernel_rfl) (by kernel_rfl) (by kernel_rfl) (by kernel_rfl) (by kernel_rfl) (by kernel_rfl) (PureV.quiet (p_int (k := .i64) (p := (IntKind.wrap .i64 (x1 + 1))) (q := 1) (by kernel_rfl) (by kernel_rfl) (by kernel_rfl)) []) ?_
    refine dIdx (fun e1 h1 h11 => ?_)
    refine aTakeL (i := 9) (st' := []) (.lptr (e_i64 e1) 0) rfl (by kernel_rfl) (by kernel_rfl) (by kernel_rfl) (by kernel_rfl) (by kernel_rfl) (by kernel_rfl) (by kernel_rfl) (PureV.quiet (k_idxLit e_i64_len x (a := e1) (by kernel_rfl) (k := .i64) (i := (IntKind.wrap .i64 ((IntKind.wrap .i64 (x1 + 1)) - 1))) (by kernel_rfl) Try.underlying22 ty3 h1 h11) []) ?_
    refine aTakeL (i := 10) (st' := []) (.d (.int .i64 e1)) rfl (by kernel_rfl) (by kernel_rfl) (by kernel_rfl) (by kernel_rfl) (by kernel_rfl) (by kernel_rfl) (by kernel_rfl) (k_loadL (cells := e_i64 e1) 0 (by kernel_rfl) Try.underlying3 (by kernel_rfl) (by kernel_rfl)) ?_
    refine aTakeL (i := 11) (st' := []) (.d (.int .i64 e1)) rfl (by kernel_rfl) (by kernel_rfl) (by kernel_rfl) (by kernel_rfl) (by kernel_rfl) (by kernel_rfl) (by kernel_rfl) (PureV.quiet (p_assign (by kernel_rfl)) []) ?_
    refine aDone (by kernel_rfl) ?_
    exact oRet (r0 := (e1, (IntKind.wrap .i64 (x1 + 1)))) (rv := .d (.int .i64 e1)) (B := [.box [.d (.lit (List.map e_i64 x)), .d (.int .i64 (IntKind.wrap .i64 (x1 + 1)))]]) (vs := [.d (.int .i64 e1)]) (σ := [0]) (by kernel_rfl) Try.func57 rfl (.cons _ _ _ _ (.tmp 2 _ (by kernel_rfl)) .nil) (by kernel_rfl) (by kernel_rfl) (by kernel_rfl) (by kernel_rfl) (by decide) (by kernel_rfl) (by kernel_rfl)

/-- awardingbody/awardingbodymake.Cut -/
def make_Cut (k : Nat) (x : Int) (n : Int) : Option (Int) := bif (decide (n < 1)) then some 0 else gnz n (Option.bind (bif (decide ((Int.tmod x n) < 0)) then some (IntKind.wrap .i64 ((Int.tmod x n) + n)) else some (Int.tmod x n) : Option (Int)) (fun x2 => some x2))
def make_Cut_E (x : Int) (n : Int) : Int → V × List Blk := fun r1 => (.d (.int .i64 r1), [])
theorem make_Cut_goes (k : Nat) (x : Int) (n : Int) : RunsO Try.prog 25 [.d (.int .i64 x), .d (.int .i64 n)] [] (make_Cut_E x n) (make_Cut k x n) := by
  refine RunsO.of_goes (N := 16) (m := 0) (T := [(0, .d (.int .i64 x)), (1, .d (.int .i64 n))]) Try.func25 rfl rfl (by kernel_rfl) (by kernel_rfl) (by kernel_rfl) ?_
  unfold make_Cut
  refine bStart ?_
  refine oSeq ?_
  refine oRegion rfl ?_
  refine oOp (.d (.int .i64 0)) (by kernel_rfl) (by kernel_rfl) (PureV.does (p_assign (by kernel_rfl))) ?_
  refine oEnd ?_
  refine oSeq ?_
  refine oSeq ?_
  refine oRegion rfl ?_
  refine oOp (.d (.int .i64 n)) (by kernel_rfl) (by kernel_rfl) (PureV.does (p_move (by kernel_rfl))) ?_
  refine oOp (.d (.bool (decide (n < 1)))) (by kernel_rfl) (by kernel_rfl) (PureV.does (p_int (k := .i64) (p := n) (q := 1) (by kernel_rfl) (by kernel_rfl) (by kernel_rfl))) ?_
  refine oEnd ?_
  refine bSplit 6 (by kernel_rfl) (fun hc => ?_) (fun hc => ?_)
  · refine oCondT (by kernel_rfl) ?_
    refine oSeq ?_
    refine oRegion rfl ?_
    refine oOp (.d (.int .i64 0)) (by kernel_rfl) (by kernel_rfl) (PureV.does (p_assign (by kernel_rfl))) ?_
    refine oEnd ?_
    exact oRet (r0 := 0) (rv := .d (.int .i64 0)) (B := []) (vs := [.d (.int .i64 0)]) (σ := []) (by kernel_rfl) Try.func25 rfl (.cons _ _ _ _ (.tmp 4 _ (by kernel_rfl)) .nil) (by kernel_rfl) (by kernel_rfl) (by kernel_rfl) (by kernel_rfl) (by decide) (by kernel_rfl) (by kernel_rfl)
  · refine oCondF (by kernel_rfl) ?_
    refine oSkip ?_
    refine oSeq ?_
    refine oRegion rfl ?_
    refine oOp (.d (.int .i64 x)) (by kernel_rfl) (by kernel_rfl) (PureV.does (p_move (by kernel_rfl))) ?_
    refine oOp (.d (.int .i64 n)) (by kernel_rfl) (by kernel_rfl) (PureV.does (p_move (by kernel_rfl))) ?_
    refine bNz (fun h11 => ?_)
    refine oOp (.d (.int .i64 (Int.tmod x n))) (by kernel_rfl) (by kernel_rfl) (PureV.does (p_rem (k := .i64) (p := x) (q := n) (by kernel_rfl) (by kernel_rfl) h11 (by kernel_rfl))) ?_
    refine oOp (.d (.int .i64 (Int.tmod x n))) (by kernel_rfl) (by kernel_rfl) (PureV.does (p_assign (by kernel_rfl))) ?_
    refine oEnd ?_
    refine oSeq ?_
    refine oSeq ?_
    refine oRegion rfl ?_
    refine oOp (.d (.int .i64 (Int.tmod x n))) (by kernel_rfl) (by kernel_rfl) (PureV.does (p_move (by kernel_rfl))) ?_
    refine oOp (.d (.bool (decide ((Int.tmod x n) < 0)))) (by kernel_rfl) (by kernel_rfl) (PureV.does (p_int (k := .i64) (p := (Int.tmod x n)) (q := 0) (by kernel_rfl) (by kernel_rfl) (by kernel_rfl))) ?_
    refine oEnd ?_
    refine bJoin ((fun (x2 : Int) => [(0, .d (.int .i64 x2))])) ((fun (x2 : Int) => [])) (fun s => s) (fun x2 => ?_) (fun hj2 => ?_)
    · refine oView (T' := [(0, .d (.int .i64 x2))]) (H' := []) (by kernel_rfl) (by kernel_rfl) ?_
      refine oSeq ?_
      refine oRegion rfl ?_
      refine oOp (.d (.int .i64 x2)) (by kernel_rfl) (by kernel_rfl) (PureV.does (p_move (by kernel_rfl))) ?_
      refine oOp (.d (.int .i64 x2)) (by kernel_rfl) (by kernel_rfl) (PureV.does (p_assign (by kernel_rfl))) ?_
      refine oEnd ?_
      exact oRet (r0 := x2) (rv := .d (.int .i64 x2)) (B := []) (vs := [.d (.int .i64 x2)]) (σ := []) (by kernel_rfl) Try.func25 rfl (.cons _ _ _ _ (.tmp 4 _ (by kernel_rfl)) .nil) (by kernel_rfl) (by kernel_rfl) (by kernel_rfl) (by kernel_rfl) (by decide) (by kernel_rfl) (by kernel_rfl)
    · refine bSplit 11 (by kernel_rfl) (fun hc => ?_) (fun hc => ?_)
      · refine oCondT (by kernel_rfl) ?_
        refine oRegion rfl ?_
        refine oOp (.d (.int .i64 (Int.tmod x n))) (by kernel_rfl) (by kernel_rfl) (PureV.does (p_move (by kernel_rfl))) ?_
        refine oOp (.d (.int .i64 n)) (by kernel_rfl) (by kernel_rfl) (PureV.does (p_move (by kernel_rfl))) ?_
        refine oOp (.d (.int .i64 (IntKind.wrap .i64 ((Int.tmod x n) + n)))) (by kernel_rfl) (by kernel_rfl) (PureV.does (p_int (k := .i64) (p := (Int.tmod x n)) (q := n) (by kernel_rfl) (by kernel_rfl) (by kernel_rfl))) ?_
        refine oOp (.d (.int .i64 (IntKind.wrap .i64 ((Int.tmod x n) + n)))) (by kernel_rfl) (by kernel_rfl) (PureV.does (p_assign (by kernel_rfl))) ?_
        refine oEnd ?_
        refine oHead [0] [] (T' := [(0, .d (.int .i64 (IntKind.wrap .i64 ((Int.tmod x n) + n))))]) (H' := []) (by kernel_rfl) (by kernel_rfl) (by kernel_rfl) (by kernel_rfl) (by decide) (by kernel_rfl) (by kernel_rfl) ?_
        exact hj2 (IntKind.wrap .i64 ((Int.tmod x n) + n))
      · refine oCondF (by kernel_rfl) ?_
        refine oSkip ?_
        refine oHead [0] [] (T' := [(0, .d (.int .i64 (Int.tmod x n)))]) (H' := []) (by kernel_rfl) (by kernel_rfl) (by kernel_rfl) (by kernel_rfl) (by decide) (by kernel_rfl) (by kernel_rfl) ?_
        exact hj2 (Int.tmod x n)

/-- (*awardingbody/awardingbodymake.Tape).Next -/
def make_Tape_Next (k : Nat) (n : Int) (x : (List Int)) (x1 : Int) : Option (Int × Int) := Option.bind (make_Tape_Raw k x x1) (uc fun r13 => fun x21 => Option.bind (make_Cut k r13 n) (fun r14 => some (r14, x21)))
def make_Tape_Next_E (n : Int) (x : (List Int)) (x1 : Int) : Int × Int → V × List Blk := uc fun r12 => fun x3 => (.d (.int .i64 r12), [.box [.d (.lit (List.map e_i64 x)), .d (.int .i64 x3)]])
theorem make_Tape_Next_goes (k : Nat) (n : Int) (x : (List Int)) (x1 : Int) : RunsO Try.prog 39 [.ptr 0 0, .d (.int .i64 n)] [.box [.d (.lit (List.map e_i64 x)), .d (.int .i64 x1)]] (make_Tape_Next_E n x x1) (make_Tape_Next k n x x1) := by
  refine RunsO.of_goes (N := 9) (m := 1) (T := [(0, .ptr 0 0), (1, .d (.int .i64 n))]) Try.func39 rfl rfl (by kernel_rfl) (by kernel_rfl) (by kernel_rfl) ?_
  unfold make_Tape_Next
  refine bStart ?_
  refine oSeq ?_
  refine oRegion rfl ?_
  refine oOp (.d (.int .i64 0)) (by kernel_rfl) (by kernel_rfl) (PureV.does (p_assign (by kernel_rfl))) ?_
  refine oEnd ?_
  refine oSeq ?_
  refine oRegion rfl ?_
  refine oOp (.ptr 0 0) (by kernel_rfl) (by kernel_rfl) (PureV.does (p_move (by kernel_rfl))) ?_
  refine bCall (caps := []) (v := (uc fun (r13 : Int) => (fun (x21 : Int) => (.d (.int .i64 r13) : V)))) (H' := (uc fun (r13 : Int) => (fun (x21 : Int) => ([.box [.d (.lit (List.map e_i64 x)), .d (.int .i64 x21)]] : List Blk)))) [0] _ (make_Tape_Raw_goes k x x1) (by kernel_rfl) (by kernel_rfl) rfl (by kernel_rfl) Try.func57 rfl (by kernel_rfl) (ConvRs.refl _ _) (by kernel_rfl) (by kernel_rfl) (by kernel_rfl) (by decide) (by kernel_rfl) (by kernel_rfl) (fun _ => (by kernel_rfl)) (fun _ => (by kernel_rfl)) (fun _ => (by kernel_rfl)) (fun r => ?_)
  obtain ⟨r13, x21⟩ := r
  refine bUc ?_
  refine oOp (.d (.int .i64 n)) (by kernel_rfl) (by kernel_rfl) (PureV.does (p_move (by kernel_rfl))) ?_
  refine bCall (caps := []) (v := (fun (r14 : Int) => (.d (.int .i64 r14) : V))) (H' := (fun (r14 : Int) => ([.box [.d (.lit (List.map e_i64 x)), .d (.int .i64 x21)]] : List Blk))) [] _ (make_Cut_goes k r13 n) (by kernel_rfl) (by kernel_rfl) rfl (by kernel_rfl) Try.func25 rfl (by kernel_rfl) (ConvRs.refl _ _) (by kernel_rfl) (by kernel_rfl) (by kernel_rfl) (by decide) (by kernel_rfl) (by kernel_rfl) (fun _ => (by kernel_rfl)) (fun _ => (by kernel_rfl)) (fun _ => (by kernel_rfl)) (fun r14 => ?_)
  refine oOp (.d (.int .i64 r14)) (by kernel_rfl) (by kernel_rfl) (PureV.does (p_assign (by kernel_rfl))) ?_
  refine oEnd ?_
  exact oRet (r0 := (r14, x21)) (rv := .d (.int .i64 r14)) (B := [.box [.d (.lit (List.map e_i64 x)), .d (.int .i64 x21)]]) (vs := [.d (.int .i64 r14)]) (σ := [0]) (by kernel_rfl) Try.func39 rfl (.cons _ _ _ _ (.tmp 4 _ (by kernel_rfl)) .nil) (by kernel_rfl) (by kernel_rfl) (by kernel_rfl) (by kernel_rfl) (by decide) (by kernel_rfl) (by kernel_rfl)

/-- (*awardingbody/awardingbodymake.Tape).Range -/
def make_Tape_Range (k : Nat) (low : Int) (high : Int) (x : (List Int)) (x1 : Int) : Option (Int × Int) := Option.bind (make_Tape_Next k (IntKind.wrap .i64 ((IntKind.wrap .i64 (high - low)) + 1)) x x1) (uc fun r121 => fun x31 => some ((IntKind.wrap .i64 (low + r121)), x31))
def make_Tape_Range_E (low : Int) (high : Int) (x : (List Int)) (x1 : Int) : Int × Int → V × List Blk := uc fun r1 => fun x2 => (.d (.int .i64 r1), [.box [.d (.lit (List.map e_i64 x)), .d (.int .i64 x2)]])
theorem make_Tape_Range_goes (k : Nat) (low : Int) (high : Int) (x : (List Int)) (x1 : Int) : RunsO Try.prog 38 [.ptr 0 0, .d (.int .i64 low), .d (.int .i64 high)] [.box [.d (.lit (List.map e_i64 x)), .d (.int .i64 x1)]] (make_Tape_Range_E low high x x1) (make_Tape_Range k low high x x1) := by
  refine RunsO.of_goes (N := 15) (m := 1) (T := [(0, .ptr 0 0), (1, .d (.int .i64 low)), (2, .d (.int .i64 high))]) Try.func38 rfl rfl (by kernel_rfl) (by kernel_rfl) (by kernel_rfl) ?_
  unfold make_Tape_Range
  refine bStart ?_
  refine oSeq ?_
  refine oRegion rfl ?_
  refine oOp (.d (.int .i64 0)) (by kernel_rfl) (by kernel_rfl) (PureV.does (p_assign (by kernel_rfl))) ?_
  refine oEnd ?_
  refine oSeq ?_
  refine oRegion rfl ?_
  refine oOp (.d (.int .i64 low)) (by kernel_rfl) (by kernel_rfl) (PureV.does (p_move (by kernel_rfl))) ?_
  refine oOp (.ptr 0 0) (by kernel_rfl) (by kernel_rfl) (PureV.does (p_move (by kernel_rfl))) ?_
  refine oOp (.d (.int .i64 high)) (by kernel_rfl) (by kernel_rfl) (PureV.does (p_move (by kernel_rfl))) ?_
  refine oOp (.d (.int .i64 low)) (by kernel_rfl) (by kernel_rfl) (PureV.does (p_move (by kernel_rfl))) ?_
  refine oOp (.d (.int .i64 (IntKind.wrap .i64 (high - low)))) (by kernel_rfl) (by kernel_rfl) (PureV.does (p_int (k := .i64) (p := high) (q := low) (by kernel_rfl) (by kernel_rfl) (by kernel_rfl))) ?_
  refine oOp (.d (.int .i64 (IntKind.wrap .i64 ((IntKind.wrap .i64 (high - low)) + 1)))) (by kernel_rfl) (by kernel_rfl) (PureV.does (p_int (k := .i64) (p := (IntKind.wrap .i64 (high - low))) (q := 1) (by kernel_rfl) (by kernel_rfl) (by kernel_rfl))) ?_
  refine bCall (caps := []) (v := (uc fun (r121 : Int) => (fun (x31 : Int) => (.d (.int .i64 r121) : V)))) (H' := (uc fun (r121 : Int) => (fun (x31 : Int) => ([.box [.d (.lit (List.map e_i64 x)), .d (.int .i64 x31)]] : List Blk)))) [0] _ (make_Tape_Next_goes k (IntKind.wrap .i64 ((IntKind.wrap .i64 (high - low)) + 1)) x x1) (by kernel_rfl) (by kernel_rfl) rfl (by kernel_rfl) Try.func39 rfl (by kernel_rfl) (ConvRs.refl _ _) (by kernel_rfl) (by kernel_rfl) (by kernel_rfl) (by decide) (by kernel_rfl) (by kernel_rfl) (fun _ => (by kernel_rfl)) (fun _ => (by kernel_rfl)) (fun _ => (by kernel_rfl)) (fun r => ?_)
  obtain ⟨r121, x31⟩ := r
  refine bUc ?_
  refine oOp (.d (.int .i64 (IntKind.wrap .i64 (low + r121)))) (by kernel_rfl) (by kernel_rfl) (PureV.does (p_int (k := .i64) (p := low) (q := r121) (by kernel_rfl) (by kernel_rfl) (by kernel_rfl))) ?_
  refine oOp (.d (.int .i64 (IntKind.wrap .i64 (low + r121)))) (by kernel_rfl) (by kernel_rfl) (PureV.does (p_assign (by kernel_rfl))) ?_
  refine oEnd ?_
  exact oRet (r0 := ((IntKind.wrap .i64 (low + r121)), x31)) (rv := .d (.int .i64 (IntKind.wrap .i64 (low + r121)))) (B := [.box [.d (.lit (List.map e_i64 x)), .d (.int .i64 x31)]]) (vs := [.d (.int .i64 (IntKind.wrap .i64 (low + r121)))]) (σ := [0]) (by kernel_rfl) Try.func38 rfl (.cons _ _ _ _ (.tmp 6 _ (by kernel_rfl)) .nil) (by kernel_rfl) (by kernel_rfl) (by kernel_rfl) (by kernel_rfl) (by decide) (by kernel_rfl) (by kernel_rfl)

/-- (*awardingbody/awardingbodymake.Tape).Part -/
def make_Tape_Part (k : Nat) (x : (List Int)) (x1 : Int) : Option (Int × Int × Int × Int × Int × Int × Int) := Option.bind (make_Tape_Range k 1 12 x x1) (uc fun r110 => fun x23 => Option.bind (make_Tape_Next k 4 x x23) (uc fun r124 => fun x34 => Option.bind (make_Tape_Next k 3 x x34) (uc fun r125 => fun x35 => Option.bind (make_Tape_Next k 3 x x35) (uc fun r126 => fun x36 => Option.bind (bif (r126 == 0) then Option.bind (make_Tape_Range k 2 5 x x36) (uc fun r113 => fun x26 => Option.bind (make_Tape_Next k r113 x x26) (uc fun r128 => fun x38 => Option.bind (make_Tape_Range k 1 3 x x38) (uc fun r114 => fun x27 => some (x27, 2, r114, r113, r128)))) else some (x36, 1, r110, 0, 0) : Option (Int × Int × Int × Int × Int)) (uc fun x10 => uc fun x11 => uc fun x12 => uc fun x13 => fun x14 => some (x11, x12, r124, r125, x13, x14, x10))))))
def make_Tape_Part_E (x : (List Int)) (x1 : Int) : Int × Int × Int × Int × Int × Int × Int → V × List Blk := uc fun r14 => uc fun r15 => uc fun r16 => uc fun r17 => uc fun r18 => uc fun r19 => fun x9 => (.agg [.d (.int .i64 r14), .d (.int .i64 r15), .d (.int .i64 r16), .d (.int .i64 r17), .d (.int .i64 r18), .d (.int .i64 r19)], [.box [.d (.lit (List.map e_i64 x)), .d (.int .i64 x9)]])
theorem make_Tape_Part_goes (k : Nat) (x : (List Int)) (x1 : Int) : RunsO Try.prog 42 [.ptr 0 0, .d (.int .i64 0)] [.box [.d (.lit (List.map e_i64 x)), .d (.int .i64 x1)]] (make_Tape_Part_E x x1) (make_Tape_Part k x x1) := by
  refine RunsO.of_goes (N := 67) (m := 1) (T := [(0, .ptr 0 0), (1, .d (.int .i64 0))]) Try.func42 rfl rfl (by kernel_rfl) (by kernel_rfl) (by kernel_rfl) ?_
  unfold make_Tape_Part
  refine bStart ?_
  refine oSeq ?_
  refine oRegion rfl ?_
  refine oOp (.ptr 1 0) (by kernel_rfl) (by kernel_rfl) (k_alloc (H' := [.box [.d (.lit (List.map e_i64 x)), .d (.int .i64 x1)], .box [.d (.int .i64 0), .d (.int .i64 0), .d (.int .i64 0), .d (.int .i64 0), .d (.int .i64 0), .d (.int .i64 0)]]) ty49 (by kernel_rfl) (by kernel_rfl)) ?_
  refine oEnd ?_
  refine oSeq ?_
  refine oRegion rfl ?_
  refine oOp (.ptr 0 0) (by kernel_rfl) (by kernel_rfl) (PureV.does (p_move (by kernel_rfl))) ?_
  refine bCall (caps := []) (v := (uc fun (r110 : Int) => (fun (x23 : Int) => (.d (.int .i64 r110) : V)))) (H' := (uc fun (r110 : Int) => (fun (x23 : Int) => ([.box [.d (.lit (List.map e_i64 x)), .d (.int .i64 x23)], .box [.d (.int .i64 0), .d (.int .i64 0), .d (.int .i64 0), .d (.int .i64 0), .d (.int .i64 0), .d (.int .i64 0)]] : List Blk)))) [0] _ (make_Tape_Range_goes k 1 12 x x1) (by kernel_rfl) (by kernel_rfl) rfl (by kernel_rfl) Try.func38 rfl (by kernel_rfl) (ConvRs.refl _ _) (by kernel_rfl) (by kernel_rfl) (by kernel_rfl) (by decide) (by kernel_rfl) (by kernel_rfl) (fun _ => (by kernel_rfl)) (fun _ => (by kernel_rfl)) (fun _ => (by kernel_rfl)) (fun r => ?_)
  obtain ⟨r110, x23⟩ := r
  refine bUc ?_
  refine oOp (.ptr 0 0) (by kernel_rfl) (by kernel_rfl) (PureV.does (p_move (by kernel_rfl))) ?_
  refine bCall (caps := []) (v := (uc fun (r124 : Int) => (fun (x34 : Int) => (.d (.int .i64 r124) : V)))) (H' := (uc fun (r124 : Int) => (fun (x34 : Int) => ([.box [.d (.lit (List.map e_i64 x)), .d (.int .i64 x34)], .box [.d (.int .i64 0), .d (.int .i64 0), .d (.int .i64 0), .d (.int .i64 0), .d (.int .i64 0), .d (.int .i64 0)]] : List Blk)))) [0] _ (make_Tape_Next_goes k 4 x x23) (by kernel_rfl) (by kernel_rfl) rfl (by kernel_rfl) Try.func39 rfl (by kernel_rfl) (ConvRs.refl _ _) (by kernel_rfl) (by kernel_rfl) (by kernel_rfl) (by decide) (by kernel_rfl) (by kernel_rfl) (fun _ => (by kernel_rfl)) (fun _ => (by kernel_rfl)) (fun _ => (by kernel_rfl)) (fun r => ?_)
  obtain ⟨r124, x34⟩ := r
  refine bUc ?_
  refine oOp (.ptr 0 0) (by kernel_rfl) (by kernel_rfl) (PureV.does (p_move (by kernel_rfl))) ?_
  refine bCall (caps := []) (v := (uc fun (r125 : Int) => (fun (x35 : Int) => (.d (.int .i64 r125) : V)))) (H' := (uc fun (r125 : Int) => (fun (x35 : Int) => ([.box [.d (.lit (List.map e_i64 x)), .d (.int .i64 x35)], .box [.d (.int .i64 0), .d (.int .i64 0), .d (.int .i64 0), .d (.int .i64 0), .d (.int .i64 0), .d (.int .i64 0)]] : List Blk)))) [0] _ (make_Tape_Next_goes k 3 x x34) (by kernel_rfl) (by kernel_rfl) rfl (by kernel_rfl) Try.func39 rfl (by kernel_rfl) (ConvRs.refl _ _) (by kernel_rfl) (by kernel_rfl) (by kernel_rfl) (by decide) (by kernel_rfl) (by kernel_rfl) (fun _ => (by kernel_rfl)) (fun _ => (by kernel_rfl)) (fun _ => (by kernel_rfl)) (fun r => ?_)
  obtain ⟨r125, x35⟩ := r
  refine bUc ?_
  refine oOp (.agg [.d (.int .i64 1), .d (.int .i64 r110), .d (.int .i64 r124), .d (.int .i64 r125), .d (.int .i64 0), .d (.int .i64 0)]) (by kernel_rfl) (by kernel_rfl) (PureV.does (p_build bld49 (by kernel_rfl))) ?_
  refine oOp (.ptr 2 0) (by kernel_rfl) (by kernel_rfl) (k_alloc (H' := [.box [.d (.lit (List.map e_i64 x)), .d (.int .i64 x35)], .box [.d (.int .i64 0), .d (.int .i64 0), .d (.int .i64 0), .d (.int .i64 0), .d (.int .i64 0), .d (.int .i64 0)], .box [.d (.int .i64 0), .d (.int .i64 0), .d (.int .i64 0), .d (.int .i64 0), .d (.int .i64 0), .d (.int .i64 0)]]) ty49 (by kernel_rfl) (by kernel_rfl)) ?_
  refine oOp (.undef) (by kernel_rfl) (by kernel_rfl) (k_store (vs := [.d (.int .i64 1), .d (.int .i64 r110), .d (.int .i64 r124), .d (.int .i64 r125), .d (.int .i64 0), .d (.int .i64 0)]) (H' := [.box [.d (.lit (List.map e_i64 x)), .d (.int .i64 x35)], .box [.d (.int .i64 0), .d (.int .i64 0), .d (.int .i64 0), .d (.int .i64 0), .d (.int .i64 0), .d (.int .i64 0)], .box [.d (.int .i64 1), .d (.int .i64 r110), .d (.int .i64 r124), .d (.int .i64 r125), .d (.int .i64 0), .d (.int .i64 0)]]) 2 0 (by kernel_rfl) ty49 (by kernel_rfl) (by kernel_rfl) (by kernel_rfl)) ?_
  refine oEnd ?_
  refine oSeq ?_
  refine oSeq ?_
  refine oRegion rfl ?_
  refine oOp (.ptr 0 0) (by kernel_rfl) (by kernel_rfl) (PureV.does (p_move (by kernel_rfl))) ?_
  refine bCall (caps := []) (v := (uc fun (r126 : Int) => (fun (x36 : Int) => (.d (.int .i64 r126) : V)))) (H' := (uc fun (r126 : Int) => (fun (x36 : Int) => ([.box [.d (.lit (List.map e_i64 x)), .d (.int .i64 x36)], .box [.d (.int .i64 0), .d (.int .i64 0), .d (.int .i64 0), .d (.int .i64 0), .d (.int .i64 0), .d (.int .i64 0)], .box [.d (.int .i64 1), .d (.int .i64 r110), .d (.int .i64 r124), .d (.int .i64 r125), .d (.int .i64 0), .d (.int .i64 0)]] : List Blk)))) [0] _ (make_Tape_Next_goes k 3 x x35) (by kernel_rfl) (by kernel_rfl) rfl (by kernel_rfl) Try.func39 rfl (by kernel_rfl) (ConvRs.refl _ _) (by kernel_rfl) (by kernel_rfl) (by kernel_rfl) (by decide) (by kernel_rfl) (by kernel_rfl) (fun _ => (by kernel_rfl)) (fun _ => (by kernel_rfl)) (fun _ => (by kernel_rfl)) (fun r => ?_)
  obtain ⟨r126, x36⟩ := r
  refine bUc ?_
  refine oOp (.d (.bool (r126 == 0))) (by kernel_rfl) (by kernel_rfl) (PureV.does (p_int (k := .i64) (p := r126) (q := 0) (by kernel_rfl) (by kernel_rfl) (by kernel_rfl))) ?_
  refine oEnd ?_
  refine bJoin ((uc fun (x10 : Int) => (uc fun (x11 : Int) => (uc fun (x12 : Int) => (uc fun (x13 : Int) => (fun (x14 : Int) => [(0, .ptr 0 0), (1, .d (.int .i64 0)), (4, .ptr 1 0), (5, .ptr 2 0)])))))) ((uc fun (x10 : Int) => (uc fun (x11 : Int) => (uc fun (x12 : Int) => (uc fun (x13 : Int) => (fun (x14 : Int) => [.box [.d (.lit (List.map e_i64 x)), .d (.int .i64 x10)], .box [.d (.int .i64 0), .d (.int .i64 0), .d (.int .i64 0), .d (.int .i64 0), .d (.int .i64 0), .d (.int .i64 0)], .box [.d (.int .i64 x11), .d (.int .i64 x12), .d (.int .i64 r124), .d (.int .i64 r125), .d (.int .i64 x13), .d (.int .i64 x14)]])))))) (fun s => s) (fun s => ?_) (fun hj2 => ?_)
  · obtain ⟨x10, x11, x12, x13, x14⟩ := s
    refine bUc ?_
    refine bUc ?_
    refine bUc ?_
    refine bUc ?_
    refine oView (T' := [(0, .ptr 0 0), (1, .d (.int .i64 0)), (4, .ptr 1 0), (5, .ptr 2 0)]) (H' := [.box [.d (.lit (List.map e_i64 x)), .d (.int .i64 x10)], .box [.d (.int .i64 0), .d (.int .i64 0), .d (.int .i64 0), .d (.int .i64 0), .d (.int .i64 0), .d (.int .i64 0)], .box [.d (.int .i64 x11), .d (.int .i64 x12), .d (.int .i64 r124), .d (.int .i64 r125), .d (.int .i64 x13), .d (.int .i64 x14)]]) (by kernel_rfl) (by kernel_rfl) ?_
    refine oSeq ?_
    refine oSeq ?_
    refine oRegion rfl ?_
    refine oOp (.d (.int .i64 0)) (by kernel_rfl) (by kernel_rfl) (PureV.does (p_move (by kernel_rfl))) ?_
    refine oOp (.d (.bool false)) (by kernel_rfl) (by kernel_rfl) (PureV.does (p_int (k := .i64) (p := 0) (q := 0) (by kernel_rfl) (by kernel_rfl) (by kernel_rfl))) ?_
    refine oOp (.d (.bool false)) (by kernel_rfl) (by kernel_rfl) (PureV.does (p_move (by kernel_rfl))) ?_
    refine oNot (by kernel_rfl) (by kernel_rfl) ?_
    refine oNot (by kernel_rfl) (by kernel_rfl) ?_
    refine oNot (by kernel_rfl) (by kernel_rfl) ?_
    refine oOp (.d (.bool false)) (by kernel_rfl) (by kernel_rfl) (PureV.does (p_pick (b := false) (by kernel_rfl) (by kernel_rfl))) ?_
    refine oEnd ?_
    refine oCondF (by kernel_rfl) ?_
    refine oSkip ?_
    refine oSeq ?_
    refine oRegion rfl ?_
    refine oOp (.agg [.d (.int .i64 x11), .d (.int .i64 x12), .d (.int .i64 r124), .d (.int .i64 r125), .d (.int .i64 x13), .d (.int .i64 x14)]) (by kernel_rfl) (by kernel_rfl) (Quiet.does (k_loadAgg 2 0 (by kernel_rfl) Try.underlying49 (by kernel_rfl) ty49 (by kernel_rfl))) ?_
    refine oOp (.undef) (by kernel_rfl) (by kernel_rfl) (k_store (vs := [.d (.int .i64 x11), .d (.int .i64 x12), .d (.int .i64 r124), .d (.int .i64 r125), .d (.int .i64 x13), .d (.int .i64 x14)]) (H' := [.box [.d (.lit (List.map e_i64 x)), .d (.int .i64 x10)], .box [.d (.int .i64 x11), .d (.int .i64 x12), .d (.int .i64 r124), .d (.int .i64 r125), .d (.int .i64 x13), .d (.int .i64 x14)], .box [.d (.int .i64 x11), .d (.int .i64 x12), .d (.int .i64 r124), .d (.int .i64 r125), .d (.int .i64 x13), .d (.int .i64 x14)]]) 1 0 (by kernel_rfl) ty49 (by kernel_rfl) (by kernel_rfl) (by kernel_rfl)) ?_
    refine oEnd ?_
    exact oRet (r0 := (x11, x12, r124, r125, x13, x14, x10)) (rv := .agg [.d (.int .i64 x11), .d (.int .i64 x12), .d (.int .i64 r124), .d (.int .i64 r125), .d (.int .i64 x13), .d (.int .i64 x14)]) (B := [.box [.d (.lit (List.map e_i64 x)), .d (.int .i64 x10)]]) (vs := [.agg [.d (.int .i64 x11), .d (.int .i64 x12), .d (.int .i64 r124), .d (.int .i64 r125), .d (.int .i64 x13), .d (.int .i64 x14)]]) (σ := [0]) (by kernel_rfl) Try.func42 rfl (.cons _ _ _ _ (.agg 4 49 1 0 [.d (.int .i64 x11), .d (.int .i64 x12), .d (.int .i64 r124), .d (.int .i64 r125), .d (.int .i64 x13), .d (.int .i64 x14)] [.d (.int .i64 x11), .d (.int .i64 x12), .d (.int .i64 r124), .d (.int .i64 r125), .d (.int .i64 x13), .d (.int .i64 x14)] _ _ _ _ (by kernel_rfl) (by kernel_rfl) Try.underlying49 (by kernel_rfl) ty49 (by kernel_rfl) (by kernel_rfl)) .nil) (by kernel_rfl) (by kernel_rfl) (by kernel_rfl) (by kernel_rfl) (by decide) (by kernel_rfl) (by kernel_rfl)
  · refine bSplit 15 (by kernel_rfl) (fun hc => ?_) (fun hc => ?_)
    · refine oCondT (by kernel_rfl) ?_
      refine oSeq ?_
      refine oRegion rfl ?_
      refine oOp (.ptr 0 0) (by kernel_rfl) (by kernel_rfl) (PureV.does (p_move (by kernel_rfl))) ?_
      refine bCall (caps := []) (v := (uc fun (r113 : Int) => (fun (x26 : Int) => (.d (.int .i64 r113) : V)))) (H' := (uc fun (r113 : Int) => (fun (x26 : Int) => ([.box [.d (.lit (List.map e_i64 x)), .d (.int .i64 x26)], .box [.d (.int .i64 0), .d (.int .i64 0), .d (.int .i64 0), .d (.int .i64 0), .d (.int .i64 0), .d (.int .i64 0)], .box [.d (.int .i64 1), .d (.int .i64 r110), .d (.int .i64 r124), .d (.int .i64 r125), .d (.int .i64 0), .d (.int .i64 0)]] : List Blk)))) [0] _ (make_Tape_Range_goes k 2 5 x x36) (by kernel_rfl) (by kernel_rfl) rfl (by kernel_rfl) Try.func38 rfl (by kernel_rfl) (ConvRs.refl _ _) (by kernel_rfl) (by kernel_rfl) (by kernel_rfl) (by decide) (by kernel_rfl) (by kernel_rfl) (fun _ => (by kernel_rfl)) (fun _ => (by kernel_rfl)) (fun _ => (by kernel_rfl)) (fun r => ?_)
      obtain ⟨r113, x26⟩ := r
      refine bUc ?_
      refine oOp (.ptr 2 0) (by kernel_rfl) (by kernel_rfl) (PureV.does (k_fieldAddr 2 0 (by kernel_rfl) Try.underlying49 rfl ty3 (by kernel_rfl))) ?_
      refine oOp (.undef) (by kernel_rfl) (by kernel_rfl) (k_store (vs := [.d (.int .i64 2)]) (H' := [.box [.d (.lit (List.map e_i64 x)), .d (.int .i64 x26)], .box [.d (.int .i64 0), .d (.int .i64 0), .d (.int .i64 0), .d (.int .i64 0), .d (.int .i64 0), .d (.int .i64 0)], .box [.d (.int .i64 2), .d (.int .i64 r110), .d (.int .i64 r124), .d (.int .i64 r125), .d (.int .i64 0), .d (.int .i64 0)]]) 2 0 (by kernel_rfl) ty3 (by kernel_rfl) (by kernel_rfl) (by kernel_rfl)) ?_
      refine oOp (.ptr 2 4) (by kernel_rfl) (by kernel_rfl) (PureV.does (k_fieldAddr 2 0 (by kernel_rfl) Try.underlying49 rfl ty3 (by kernel_rfl))) ?_
      refine oOp (.undef) (by kernel_rfl) (by kernel_rfl) (k_store (vs := [.d (.int .i64 r113)]) (H' := [.box [.d (.lit (List.map e_i64 x)), .d (.int .i64 x26)], .box [.d (.int .i64 0), .d (.int .i64 0), .d (.int .i64 0), .d (.int .i64 0), .d (.int .i64 0), .d (.int .i64 0)], .box [.d (.int .i64 2), .d (.int .i64 r110), .d (.int .i64 r124), .d (.int .i64 r125), .d (.int .i64 r113), .d (.int .i64 0)]]) 2 4 (by kernel_rfl) ty3 (by kernel_rfl) (by kernel_rfl) (by kernel_rfl)) ?_
      refine oEnd ?_
      refine oRegion rfl ?_
      refine oOp (.ptr 0 0) (by kernel_rfl) (by kernel_rfl) (PureV.does (p_move (by kernel_rfl))) ?_
      refine oOp (.ptr 2 4) (by kernel_rfl) (by kernel_rfl) (PureV.does (k_fieldAddr 2 0 (by kernel_rfl) Try.underlying49 rfl ty3 (by kernel_rfl))) ?_
      refine oOp (.d (.int .i64 r113)) (by kernel_rfl) (by kernel_rfl) (Quiet.does (k_load 2 4 (by kernel_rfl) Try.underlying3 (by kernel_rfl) (by kernel_rfl))) ?_
      refine bCall (caps := []) (v := (uc fun (r128 : Int) => (fun (x38 : Int) => (.d (.int .i64 r128) : V)))) (H' := (uc fun (r128 : Int) => (fun (x38 : Int) => ([.box [.d (.lit (List.map e_i64 x)), .d (.int .i64 x38)], .box [.d (.int .i64 0), .d (.int .i64 0), .d (.int .i64 0), .d (.int .i64 0), .d (.int .i64 0), .d (.int .i64 0)], .box [.d (.int .i64 2), .d (.int .i64 r110), .d (.int .i64 r124), .d (.int .i64 r125), .d (.int .i64 r113), .d (.int .i64 0)]] : List Blk)))) [0] _ (make_Tape_Next_goes k r113 x x26) (by kernel_rfl) (by kernel_rfl) rfl (by kernel_rfl) Try.func39 rfl (by kernel_rfl) (ConvRs.refl _ _) (by kernel_rfl) (by kernel_rfl) (by kernel_rfl) (by decide) (by kernel_rfl) (by kernel_rfl) (fun _ => (by kernel_rfl)) (fun _ => (by kernel_rfl)) (fun _ => (by kernel_rfl)) (fun r => ?_)
      obtain ⟨r128, x38⟩ := r
      refine bUc ?_
      refine oOp (.ptr 0 0) (by kernel_rfl) (by kernel_rfl) (PureV.does (p_move (by kernel_rfl))) ?_
      refine bCall (caps := []) (v := (uc fun (r114 : Int) => (fun (x27 : Int) => (.d (.int .i64 r114) : V)))) (H' := (uc fun (r114 : Int) => (fun (x27 : Int) => ([.box [.d (.lit (List.map e_i64 x)), .d (.int .i64 x27)], .box [.d (.int .i64 0), .d (.int .i64 0), .d (.int .i64 0), .d (.int .i64 0), .d (.int .i64 0), .d (.int .i64 0)], .box [.d (.int .i64 2), .d (.int .i64 r110), .d (.int .i64 r124), .d (.int .i64 r125), .d (.int .i64 r113), .d (.int .i64 0)]] : List Blk)))) [0] _ (make_Tape_Range_goes k 1 3 x x38) (by kernel_rfl) (by kernel_rfl) rfl (by kernel_rfl) Try.func38 rfl (by kernel_rfl) (ConvRs.refl _ _) (by kernel_rfl) (by kernel_rfl) (by kernel_rfl) (by decide) (by kernel_rfl) (by kernel_rfl) (fun _ => (by kernel_rfl)) (fun _ => (by kernel_rfl)) (fun _ => (by kernel_rfl)) (fun r => ?_)
      obtain ⟨r114, x27⟩ := r
      refine bUc ?_
      refine oOp (.ptr 2 5) (by kernel_rfl) (by kernel_rfl) (PureV.does (k_fieldAddr 2 0 (by kernel_rfl) Try.underlying49 rfl ty3 (by kernel_rfl))) ?_
      refine oOp (.undef) (by kernel_rfl) (by kernel_rfl) (k_store (vs := [.d (.int .i64 r128)]) (H' := [.box [.d (.lit (List.map e_i64 x)), .d (.int .i64 x27)], .box [.d (.int .i64 0), .d (.int .i64 0), .d (.int .i64 0), .d (.int .i64 0), .d (.int .i64 0), .d (.int .i64 0)], .box [.d (.int .i64 2), .d (.int .i64 r110), .d (.int .i64 r124), .d (.int .i64 r125), .d (.int .i64 r113), .d (.int .i64 r128)]]) 2 5 (by kernel_rfl) ty3 (by kernel_rfl) (by kernel_rfl) (by kernel_rfl)) ?_
      refine oOp (.ptr 2 1) (by kernel_rfl) (by kernel_rfl) (PureV.does (k_fieldAddr 2 0 (by kernel_rfl) Try.underlying49 rfl ty3 (by kernel_rfl))) ?_
      refine oOp (.undef) (by kernel_rfl) (by kernel_rfl) (k_store (vs := [.d (.int .i64 r114)]) (H' := [.box [.d (.lit (List.map e_i64 x)), .d (.int .i64 x27)], .box [.d (.int .i64 0), .d (.int .i64 0), .d (.int .i64 0), .d (.int .i64 0), .d (.int .i64 0), .d (.int .i64 0)], .box [.d (.int .i64 2), .d (.int .i64 r114), .d (.int .i64 r124), .d (.int .i64 r125), .d (.int .i64 r113), .d (.int .i64 r128)]]) 2 1 (by kernel_rfl) ty3 (by kernel_rfl) (by kernel_rfl) (by kernel_rfl)) ?_
      refine oEnd ?_
      refine oHead [0, 1, 4, 5] [0, 1, 2] (T' := [(0, .ptr 0 0), (1, .d (.int .i64 0)), (4, .ptr 1 0), (5, .ptr 2 0)]) (H' := [.box [.d (.lit (List.map e_i64 x)), .d (.int .i64 x27)], .box [.d (.int .i64 0), .d (.int .i64 0), .d (.int .i64 0), .d (.int .i64 0), .d (.int .i64 0), .d (.int .i64 0)], .box [.d (.int .i64 2), .d (.int .i64 r114), .d (.int .i64 r124), .d (.int .i64 r125), .d (.int .i64 r113), .d (.int .i64 r128)]]) (by kernel_rfl) (by kernel_rfl) (by kernel_rfl) (by kernel_rfl) (by decide) (by kernel_rfl) (by kernel_rfl) ?_
      exact hj2 (x27, 2, r114, r113, r128)
    · refine oCondF (by kernel_rfl) ?_
      refine oSkip ?_
      refine oHead [0, 1, 4, 5] [0, 1, 2] (T' := [(0, .ptr 0 0), (1, .d (.int .i64 0)), (4, .ptr 1 0), (5, .ptr 2 0)]) (H' := [.box [.d (.lit (List.map e_i64 x)), .d (.int .i64 x36)], .box [.d (.int .i64 0), .d (.int .i64 0), .d (.int .i64 0), .d (.int .i64 0), .d (.int .i64 0), .d (.int .i64 0)], .box [.d (.int .i64 1), .d (.int .i64 r110), .d (.int .i64 r124), .d (.int .i64 r125), .d (.int .i64 0), .d (.int .i64 0)]]) (by kernel_rfl) (by kernel_rfl) (by kernel_rfl) (by kernel_rfl) (by decide) (by kernel_rfl) (by kernel_rfl) ?_
      exact hj2 (x36, 1, r110, 0, 0)

/-- (*awardingbody/awardingbodymake.Tape).Paper -/
def make_Tape_Paper_b1 (k : Nat) (x : (List Int)) (again : Int × Int × (List SPart) → Option (Int × (List SPart))) : Int × Int × (List SPart) → Option (Int × (List SPart)) := uc fun i4 => uc fun x11 => fun xs6 => bif (decide (i4 > 0)) then Option.bind (make_Tape_Part k x x11) (uc fun r14 => uc fun r15 => uc fun r16 => uc fun r17 => uc fun r18 => uc fun r19 => fun x9 => gcap (List.length (xs6 ++ ([(⟨r14, r15, r16, r17, r18, r19⟩ : SPart)] : List SPart))) 48 (again ((IntKind.wrap .i64 (i4 - 1)), x9, (xs6 ++ ([(⟨r14, r15, r16, r17, r18, r19⟩ : SPart)] : List SPart))))) else some (x11, xs6)
def make_Tape_Paper (k : Nat) (x : (List Int)) (x1 : Int) : Option ((List SPart) × Int) := Option.bind (make_Tape_Range k 1 6 x x1) (uc fun r12 => fun x21 => Option.bind (gloop (make_Tape_Paper_b1 k x) k (r12, x21, ([] : List SPart)) : Option (Int × (List SPart))) (uc fun x10 => fun xs5 => some (xs5, x10)))
def make_Tape_Paper_E (x : (List Int)) (x1 : Int) : (List SPart) × Int → V × List Blk := uc fun r11 => fun x6 => (.agg [.d (.int .i64 0), .d (.int .i64 0), .d (.lit (List.map e_SPart r11))], [.box [.d (.lit (List.map e_i64 x)), .d (.int .i64 x6)]])
theorem make_Tape_Paper_goes (k : Nat) (x : (List Int)) (x1 : Int) : RunsO Try.prog 29 [.ptr 0 0, .d (.int .i64 0), .d (.int .i64 0)] [.box [.d (.lit (List.map e_i64 x)), .d (.int .i64 x1)]] (make_Tape_Paper_E x x1) (make_Tape_Paper k x x1) := by
  refine RunsO.of_goes (N := 26) (m := 1) (T := [(0, .ptr 0 0), (1, .d (.int .i64 0)), (2, .d (.int .i64 0))]) Try.func29 rfl rfl (by kernel_rfl) (by kernel_rfl) (by kernel_rfl) ?_
  unfold make_Tape_Paper
  refine bStart ?_
  refine oSeq ?_
  refine oRegion rfl ?_
  refine oOp (.ptr 1 0) (by kernel_rfl) (by kernel_rfl) (k_alloc (H' := [.box [.d (.lit (List.map e_i64 x)), .d (.int .i64 x1)], .box [.d (.int .i64 0), .d (.int .i64 0), .nilc]]) ty27 (by kernel_rfl) (by kernel_rfl)) ?_
  refine oEnd ?_
  refine oSeq ?_
  refine oRegion rfl ?_
  refine oOp (.d (.int .i64 0)) (by kernel_rfl) (by kernel_rfl) (PureV.does (p_move (by kernel_rfl))) ?_
  refine oOp (.d (.int .i64 0)) (by kernel_rfl) (by kernel_rfl) (PureV.does (p_move (by kernel_rfl))) ?_
  refine oOp (.agg [.d (.int .i64 0), .d (.int .i64 0), .nilc]) (by kernel_rfl) (by kernel_rfl) (PureV.does (p_build bld27 (by kernel_rfl))) ?_
  refine oOp (.ptr 2 0) (by kernel_rfl) (by kernel_rfl) (k_alloc (H' := [.box [.d (.lit (List.map e_i64 x)), .d (.int .i64 x1)], .box [.d (.int .i64 0), .d (.int .i64 0), .nilc], .box [.d (.int .i64 0), .d (.int .i64 0), .nilc]]) ty27 (by kernel_rfl) (by kernel_rfl)) ?_
  refine oOp (.undef) (by kernel_rfl) (by kernel_rfl) (k_store (vs := [.d (.int .i64 0), .d (.int .i64 0), .nilc]) (H' := [.box [.d (.lit (List.map e_i64 x)), .d (.int .i64 x1)], .box [.d (.int .i64 0), .d (.int .i64 0), .nilc], .box [.d (.int .i64 0), .d (.int .i64 0), .nilc]]) 2 0 (by kernel_rfl) ty27 (by kernel_rfl) (by kernel_rfl) (by kernel_rfl)) ?_
  refine oEnd ?_
  refine oSeq ?_
  refine oSeq ?_
  refine oRegion rfl ?_
  refine oOp (.ptr 0 0) (by kernel_rfl) (by kernel_rfl) (PureV.does (p_move (by kernel_rfl))) ?_
  refine bCall (caps := []) (v := (uc fun (r12 : Int) => (fun (x21 : Int) => (.d (.int .i64 r12) : V)))) (H' := (uc fun (r12 : Int) => (fun (x21 : Int) => ([.box [.d (.lit (List.map e_i64 x)), .d (.int .i64 x21)], .box [.d (.int .i64 0), .d (.int .i64 0), .nilc], .box [.d (.int .i64 0), .d (.int .i64 0), .nilc]] : List Blk)))) [0] _ (make_Tape_Range_goes k 1 6 x x1) (by kernel_rfl) (by kernel_rfl) rfl (by kernel_rfl) Try.func38 rfl (by kernel_rfl) (ConvRs.refl _ _) (by kernel_rfl) (by kernel_rfl) (by kernel_rfl) (by decide) (by kernel_rfl) (by kernel_rfl) (fun _ => (by kernel_rfl)) (fun _ => (by kernel_rfl)) (fun _ => (by kernel_rfl)) (fun r => ?_)
  obtain ⟨r12, x21⟩ := r
  refine bUc ?_
  refine oOp (.d (.int .i64 r12)) (by kernel_rfl) (by kernel_rfl) (PureV.does (p_assign (by kernel_rfl))) ?_
  refine oEnd ?_
  refine bJoin ((uc fun (x10 : Int) => (fun (xs5 : (List SPart)) => [(6, .ptr 1 0), (7, .ptr 2 0)]))) ((uc fun (x10 : Int) => (fun (xs5 : (List SPart)) => [.box [.d (.lit (List.map e_i64 x)), .d (.int .i64 x10)], .box [.d (.int .i64 0), .d (.int .i64 0), .nilc], .box [.d (.int .i64 0), .d (.int .i64 0), .ref 3 (List.length xs5) 0 (List.length xs5)], .sl 6 (List.map e_SPart xs5) false]))) (fun s => s) (fun s => ?_) (fun hj2 => ?_)
  · obtain ⟨x10, xs5⟩ := s
    refine bUc ?_
    refine oView (T' := [(6, .ptr 1 0), (7, .ptr 2 0)]) (H' := [.box [.d (.lit (List.map e_i64 x)), .d (.int .i64 x10)], .box [.d (.int .i64 0), .d (.int .i64 0), .nilc], .box [.d (.int .i64 0), .d (.int .i64 0), .ref 3 (List.length xs5) 0 (List.length xs5)], .sl 6 (List.map e_SPart xs5) false]) (by kernel_rfl) (by kernel_rfl) ?_
    refine oSeq ?_
    refine oRegion rfl ?_
    refine oOp (.agg [.d (.int .i64 0), .d (.int .i64 0), .ref 3 (List.length xs5) 0 (List.length xs5)]) (by kernel_rfl) (by kernel_rfl) (Quiet.does (k_loadAgg 2 0 (by kernel_rfl) Try.underlying27 (by kernel_rfl) ty27 (by kernel_rfl))) ?_
    refine oOp (.undef) (by kernel_rfl) (by kernel_rfl) (k_store (vs := [.d (.int .i64 0), .d (.int .i64 0), .ref 3 (List.length xs5) 0 (List.length xs5)]) (H' := [.box [.d (.lit (List.map e_i64 x)), .d (.int .i64 x10)], .box [.d (.int .i64 0), .d (.int .i64 0), .ref 3 (List.length xs5) 0 (List.length xs5)], .box [.d (.int .i64 0), .d (.int .i64 0), .ref 3 (List.length xs5) 0 (List.length xs5)], .sl 6 (List.map e_SPart xs5) false]) 1 0 (by kernel_rfl) ty27 (by kernel_rfl) (by kernel_rfl) (by kernel_rfl)) ?_
    refine oEnd ?_
    refine oFreeze 3 (esz := 6) (xs := List.map e_SPart xs5) (by kernel_rfl) ?_
    refine oView (H' := [.box [.d (.lit (List.map e_i64 x)), .d (.int .i64 x10)], .box [.d (.int .i64 0), .d (.int .i64 0), .ref 3 (List.length xs5) 0 (List.length xs5)], .box [.d (.int .i64 0), .d (.int .i64 0), .ref 3 (List.length xs5) 0 (List.length xs5)], .sl 6 (List.map e_SPart xs5) true]) rfl (by kernel_rfl) ?_
    refine oConvB 1 (cells := [.d (.int .i64 0), .d (.int .i64 0), .ref 3 (List.length xs5) 0 (List.length xs5)]) (cells' := [.d (.int .i64 0), .d (.int .i64 0), .d (.lit (List.map e_SPart xs5))]) (by kernel_rfl) (.cons _ _ _ _ (.same _) (.cons _ _ _ _ (.same _) (.cons _ _ _ _ (k_lit (enc := e_SPart) (sz := 6) 3 xs5 (by kernel_rfl)) .nil))) ?_
    refine oView (H' := [.box [.d (.lit (List.map e_i64 x)), .d (.int .i64 x10)], .box [.d (.int .i64 0), .d (.int .i64 0), .d (.lit (List.map e_SPart xs5))], .box [.d (.int .i64 0), .d (.int .i64 0), .ref 3 (List.length xs5) 0 (List.length xs5)], .sl 6 (List.map e_SPart xs5) true]) rfl (by kernel_rfl) ?_
    exact oRet (r0 := (xs5, x10)) (rv := .agg [.d (.int .i64 0), .d (.int .i64 0), .d (.lit (List.map e_SPart xs5))]) (B := [.box [.d (.lit (List.map e_i64 x)), .d (.int .i64 x10)]]) (vs := [.agg [.d (.int .i64 0), .d (.int .i64 0), .d (.lit (List.map e_SPart xs5))]]) (σ := [0]) (by kernel_rfl) Try.func29 rfl (.cons _ _ _ _ (.agg 6 27 1 0 [.d (.int .i64 0), .d (.int .i64 0), .d (.lit (List.map e_SPart xs5))] [.d (.int .i64 0), .d (.int .i64 0), .d (.lit (List.map e_SPart xs5))] _ _ _ _ (by kernel_rfl) (by kernel_rfl) Try.underlying27 (by kernel_rfl) ty27 (by kernel_rfl) (by kernel_rfl)) .nil) (by kernel_rfl) (by kernel_rfl) (by kernel_rfl) (by kernel_rfl) (by decide) (by kernel_rfl) (by kernel_rfl)
  · refine oBlock ?_
    refine oLoop ?_
    refine oVirtB (esz := 6) 2 2 (cells := [.d (.int .i64 0), .d (.int .i64 0), .nilc]) (by kernel_rfl) (by kernel_rfl) ?_
    refine oView (H' := [.box [.d (.lit (List.map e_i64 x)), .d (.int .i64 x21)], .box [.d (.int .i64 0), .d (.int .i64 0), .nilc], .box [.d (.int .i64 0), .d (.int .i64 0), .ref 3 (List.length ([] : List SPart)) 0 (List.length ([] : List SPart))], .sl 6 (List.map e_SPart ([] : List SPart)) false]) rfl (by kernel_rfl) ?_
    refine oHead [0, 6, 7, 8] [0, 1, 2, 3] (T' := [(0, .ptr 0 0), (6, .ptr 1 0), (7, .ptr 2 0), (8, .d (.int .i64 r12))]) (H' := [.box [.d (.lit (List.map e_i64 x)), .d (.int .i64 x21)], .box [.d (.int .i64 0), .d (.int .i64 0), .nilc], .box [.d (.int .i64 0), .d (.int .i64 0), .ref 3 (List.length ([] : List SPart)) 0 (List.length ([] : List SPart))], .sl 6 (List.map e_SPart ([] : List SPart)) false]) (by kernel_rfl) (by kernel_rfl) (by kernel_rfl) (by kernel_rfl) (by decide) (by kernel_rfl) (by kernel_rfl) ?_
    refine bLoop (body := make_Tape_Paper_b1 k x) ((uc fun (i4 : Int) => (uc fun (x11 : Int) => (fun (xs6 : (List SPart)) => [(0, .ptr 0 0), (6, .ptr 1 0), (7, .ptr 2 0), (8, .d (.int .i64 i4))])))) ((uc fun (i4 : Int) => (uc fun (x11 : Int) => (fun (xs6 : (List SPart)) => [.box [.d (.lit (List.map e_i64 x)), .d (.int .i64 x11)], .box [.d (.int .i64 0), .d (.int .i64 0), .nilc], .box [.d (.int .i64 0), .d (.int .i64 0), .ref 3 (List.length xs6) 0 (List.length xs6)], .sl 6 (List.map e_SPart xs6) false])))) (fun again hag1 s => ?_) k (r12, x21, ([] : List SPart))
    · unfold make_Tape_Paper_b1
      obtain ⟨i4, x11, xs6⟩ := s
      refine bUc ?_
      refine bUc ?_
      refine oView (T' := [(0, .ptr 0 0), (6, .ptr 1 0), (7, .ptr 2 0), (8, .d (.int .i64 i4))]) (H' := [.box [.d (.lit (List.map e_i64 x)), .d (.int .i64 x11)], .box [.d (.int .i64 0), .d (.int .i64 0), .nilc], .box [.d (.int .i64 0), .d (.int .i64 0), .ref 3 (List.length xs6) 0 (List.length xs6)], .sl 6 (List.map e_SPart xs6) false]) (by kernel_rfl) (by kernel_rfl) ?_
      refine oSeq ?_
      refine oSeq ?_
      refine oRegion rfl ?_
      refine oOp (.d (.int .i64 i4)) (by kernel_rfl) (by kernel_rfl) (PureV.does (p_move (by kernel_rfl))) ?_
      refine oOp (.d (.bool (decide (i4 > 0)))) (by kernel_rfl) (by kernel_rfl) (PureV.does (p_int (k := .i64) (p := i4) (q := 0) (by kernel_rfl) (by kernel_rfl) (by kernel_rfl))) ?_
      refine oEnd ?_
      refine bSplit 15 (by kernel_rfl) (fun hc => ?_) (fun hc => ?_)
      · refine oCondT (by kernel_rfl) ?_
        refine oSkip ?_
        refine oSeq ?_
        refine oBlock ?_
        refine oDraw [(0, 3), (1, 8), (2, 7), (3, 5)] rfl ?_
        refine aTakeL (i := 0) (st' := []) (.ptr 2 2) rfl (by kernel_rfl) (by kernel_rfl) (by kernel_rfl) (by kernel_rfl) (by kernel_rfl) (by kernel_rfl) (by kernel_rfl) (PureV.quiet (k_fieldAddr 2 0 (by kernel_rfl) Try.underlying27 rfl ty25 (by kernel_rfl)) []) ?_
        refine aTakeL (i := 1) (st' := [2]) (.ref 3 (List.length xs6) 0 (List.length xs6)) rfl (by kernel_rfl) (by kernel_rfl) (by kernel_rfl) (by kernel_rfl) (by kernel_rfl) (by kernel_rfl) (by kernel_rfl) (k_load 2 2 (by kernel_rfl) Try.underlying25 (by kernel_rfl) (by kernel_rfl)) ?_
        refine aTakeL (i := 2) (st' := []) (.ptr 0 0) rfl (by kernel_rfl) (by kernel_rfl) (by kernel_rfl) (by kernel_rfl) (by kernel_rfl) (by kernel_rfl) (by kernel_rfl) (PureV.quiet (p_move (by kernel_rfl)) []) ?_
        refine dCall (i := 3) (caps := []) (v := (uc fun (r14 : Int) => (uc fun (r15 : Int) => (uc fun (r16 : Int) => (uc fun (r17 : Int) => (uc fun (r18 : Int) => (uc fun (r19 : Int) => (fun (x9 : Int) => (.agg [.d (.int .i64 r14), .d (.int .i64 r15), .d (.int .i64 r16), .d (.int .i64 r17), .d (.int .i64 r18), .d (.int .i64 r19)] : V))))))))) (H' := (uc fun (r14 : Int) => (uc fun (r15 : Int) => (uc fun (r16 : Int) => (uc fun (r17 : Int) => (uc fun (r18 : Int) => (uc fun (r19 : Int) => (fun (x9 : Int) => ([.box [.d (.lit (List.map e_i64 x)), .d (.int .i64 x9)], .box [.d (.int .i64 0), .d (.int .i64 0), .nilc], .box [.d (.int .i64 0), .d (.int .i64 0), .ref 3 (List.length xs6) 0 (List.length xs6)], .sl 6 (List.map e_SPart xs6) false] : List Blk))))))))) [0] _ (make_Tape_Part_goes k x x11) rfl (by kernel_rfl) (by kernel_rfl) (by kernel_rfl) (by kernel_rfl) (by kernel_rfl) (by kernel_rfl) (by kernel_rfl) (by kernel_rfl) rfl (by kernel_rfl) Try.func42 rfl (by kernel_rfl) (ConvRs.refl _ _) (by kernel_rfl) (by kernel_rfl) (by kernel_rfl) (by decide) (by kernel_rfl) (by kernel_rfl) (fun _ => (by kernel_rfl)) (fun _ => (by kernel_rfl)) (fun _ => (by kernel_rfl)) (fun r => ?_)
        obtain ⟨r14, r15, r16, r17, r18, r19, x9⟩ := r
        refine dUc ?_
        refine dUc ?_
        refine dUc ?_
        refine dUc ?_
        refine dUc ?_
        refine dUc ?_
        refine aOne (i := 4) (v := .ref 4 (List.length ([(⟨r14, r15, r16, r17, r18, r19⟩ : SPart)] : List SPart)) 0 (List.length ([(⟨r14, r15, r16, r17, r18, r19⟩ : SPart)] : List SPart))) rfl (by kernel_rfl) (by kernel_rfl) (by kernel_rfl) (by kernel_rfl) (by kernel_rfl) (by kernel_rfl) (by kernel_rfl) (Does.acts (k_buildSlice (H' := [.box [.d (.lit (List.map e_i64 x)), .d (.int .i64 x9)], .box [.d (.int .i64 0), .d (.int .i64 0), .nilc], .box [.d (.int .i64 0), .d (.int .i64 0), .ref 3 (List.length xs6) 0 (List.length xs6)], .sl 6 (List.map e_SPart xs6) false, .sl 6 (List.map e_SPart ([(⟨r14, r15, r16, r17, r18, r19⟩ : SPart)] : List SPart)) false]) (List.map e_SPart ([(⟨r14, r15, r16, r17, r18, r19⟩ : SPart)] : List SPart)) Try.underlying25 ty49 (by kernel_rfl) (by kernel_rfl) (by kernel_rfl))) (by kernel_rfl) ?_
        refine dCap (fun h1 => ?_)
        refine aOne (i := 5) (v := .ref 3 (List.length (xs6 ++ ([(⟨r14, r15, r16, r17, r18, r19⟩ : SPart)] : List SPart))) 0 (List.length (xs6 ++ ([(⟨r14, r15, r16, r17, r18, r19⟩ : SPart)] : List SPart)))) rfl (by kernel_rfl) (by kernel_rfl) (by kernel_rfl) (by kernel_rfl) (by kernel_rfl) (by kernel_rfl) (by kernel_rfl) (Does.acts (k_append (H' := [.box [.d (.lit (List.map e_i64 x)), .d (.int .i64 x9)], .box [.d (.int .i64 0), .d (.int .i64 0), .nilc], .box [.d (.int .i64 0), .d (.int .i64 0), .ref 3 (List.length xs6) 0 (List.length xs6)], .sl 6 (List.map e_SPart (xs6 ++ ([(⟨r14, r15, r16, r17, r18, r19⟩ : SPart)] : List SPart))) false, .sl 6 (List.map e_SPart ([(⟨r14, r15, r16, r17, r18, r19⟩ : SPart)] : List SPart)) false]) (enc := e_SPart) 3 xs6 ([(⟨r14, r15, r16, r17, r18, r19⟩ : SPart)] : List SPart) Try.underlying25 Try.underlying25 ty49 (by kernel_rfl) (by kernel_rfl) (by kernel_rfl) (holdsRef (enc := e_SPart) 4 ([(⟨r14, r15, r16, r17, r18, r19⟩ : SPart)] : List SPart) false (by kernel_rfl) (by kernel_rfl)) h1 (by kernel_rfl))) (by kernel_rfl) ?_
        refine aTakeL (i := 6) (st' := []) (.ptr 2 2) rfl (by kernel_rfl) (by kernel_rfl) (by kernel_rfl) (by kernel_rfl) (by kernel_rfl) (by kernel_rfl) (by kernel_rfl) (PureV.quiet (k_fieldAddr 2 0 (by kernel_rfl) Try.underlying27 rfl ty25 (by kernel_rfl)) []) ?_
        refine aOne (i := 7) (v := .undef) rfl (by kernel_rfl) (by kernel_rfl) (by kernel_rfl) (by kernel_rfl) (by kernel_rfl) (by kernel_rfl) (by kernel_rfl) (Does.acts (k_store (vs := [.ref 3 (List.length (xs6 ++ ([(⟨r14, r15, r16, r17, r18, r19⟩ : SPart)] : List SPart))) 0 (List.length (xs6 ++ ([(⟨r14, r15, r16, r17, r18, r19⟩ : SPart)] : List SPart)))]) (H' := [.box [.d (.lit (List.map e_i64 x)), .d (.int .i64 x9)], .box [.d (.int .i64 0), .d (.int .i64 0), .nilc], .box [.d (.int .i64 0), .d (.int .i64 0), .ref 3 (List.length (xs6 ++ ([(⟨r14, r15, r16, r17, r18, r19⟩ : SPart)] : List SPart))) 0 (List.length (xs6 ++ ([(⟨r14, r15, r16, r17, r18, r19⟩ : SPart)] : List SPart)))], .sl 6 (List.map e_SPart (xs6 ++ ([(⟨r14, r15, r16, r17, r18, r19⟩ : SPart)] : List SPart))) false, .sl 6 (List.map e_SPart ([(⟨r14, r15, r16, r17, r18, r19⟩ : SPart)] : List SPart)) false]) 2 2 (by kernel_rfl) ty25 (by kernel_rfl) (by kernel_rfl) (by kernel_rfl))) (by kernel_rfl) ?_
        refine aDone (by kernel_rfl) ?_
        refine oBlk ?_
        refine oRegion rfl ?_
        refine oOp (.d (.int .i64 i4)) (by kernel_rfl) (by kernel_rfl) (PureV.does (p_move (by kernel_rfl))) ?_
        refine oOp (.d (.int .i64 (IntKind.wrap .i64 (i4 - 1)))) (by kernel_rfl) (by kernel_rfl) (PureV.does (p_int (k := .i64) (p := i4) (q := 1) (by kernel_rfl) (by kernel_rfl) (by kernel_rfl))) ?_
        refine oOp (.d (.int .i64 (IntKind.wrap .i64 (i4 - 1)))) (by kernel_rfl) (by kernel_rfl) (PureV.does (p_assign (by kernel_rfl))) ?_
        refine oEnd ?_
        refine oAgain ?_
        refine oHead [0, 6, 7, 8] [0, 1, 2, 3] (T' := [(0, .ptr 0 0), (6, .ptr 1 0), (7, .ptr 2 0), (8, .d (.int .i64 (IntKind.wrap .i64 (i4 - 1))))]) (H' := [.box [.d (.lit (List.map e_i64 x)), .d (.int .i64 x9)], .box [.d (.int .i64 0), .d (.int .i64 0), .nilc], .box [.d (.int .i64 0), .d (.int .i64 0), .ref 3 (List.length (xs6 ++ ([(⟨r14, r15, r16, r17, r18, r19⟩ : SPart)] : List SPart))) 0 (List.length (xs6 ++ ([(⟨r14, r15, r16, r17, r18, r19⟩ : SPart)] : List SPart)))], .sl 6 (List.map e_SPart (xs6 ++ ([(⟨r14, r15, r16, r17, r18, r19⟩ : SPart)] : List SPart))) false]) (by kernel_rfl) (by kernel_rfl) (by kernel_rfl) (by kernel_rfl) (by decide) (by kernel_rfl) (by kernel_rfl) ?_
        exact hag1 ((IntKind.wrap .i64 (i4 - 1)), x9, (xs6 ++ ([(⟨r14, r15, r16, r17, r18, r19⟩ : SPart)] : List SPart)))
      · refine oCondF (by kernel_rfl) ?_
        refine oExit rfl ?_
        refine oHead [6, 7] [0, 1, 2, 3] (T' := [(6, .ptr 1 0), (7, .ptr 2 0)]) (H' := [.box [.d (.lit (List.map e_i64 x)), .d (.int .i64 x11)], .box [.d (.int .i64 0), .d (.int .i64 0), .nilc], .box [.d (.int .i64 0), .d (.int .i64 0), .ref 3 (List.length xs6) 0 (List.length xs6)], .sl 6 (List.map e_SPart xs6) false]) (by kernel_rfl) (by kernel_rfl) (by kernel_rfl) (by kernel_rfl) (by decide) (by kernel_rfl) (by kernel_rfl) ?_
        exact hj2 (x11, xs6)

/-- (*awardingbody/awardingbodymake.Tape).Pick -/
def make_Tape_Pick (k : Nat) (x : (List Int)) (x1 : Int) (xs : (List Int)) : Option (Int × Int) := Option.bind (make_Tape_Next k ((List.length xs) : Int) x x1) (uc fun r121 => fun x31 => gidx xs r121 fun e11 => some (e11, x31))
def make_Tape_Pick_E (x : (List Int)) (x1 : Int) (xs : (List Int)) : Int × Int → V × List Blk := uc fun r1 => fun x2 => (.d (.int .i64 r1), [.box [.d (.lit (List.map e_i64 x)), .d (.int .i64 x2)], .sl 1 (List.map e_i64 xs) false])
theorem make_Tape_Pick_goes (k : Nat) (x : (List Int)) (x1 : Int) (xs : (List Int)) : RunsO Try.prog 43 [.ptr 0 0, .ref 1 (List.length xs) 0 (List.length xs)] [.box [.d (.lit (List.map e_i64 x)), .d (.int .i64 x1)], .sl 1 (List.map e_i64 xs) false] (make_Tape_Pick_E x x1 xs) (make_Tape_Pick k x x1 xs) := by
  refine RunsO.of_goes (N := 12) (m := 2) (T := [(0, .ptr 0 0), (1, .ref 1 (List.length xs) 0 (List.length xs))]) Try.func43 rfl rfl (by kernel_rfl) (by kernel_rfl) (by kernel_rfl) ?_
  unfold make_Tape_Pick
  refine bStart ?_
  refine oSeq ?_
  refine oRegion rfl ?_
  refine oOp (.d (.int .i64 0)) (by kernel_rfl) (by kernel_rfl) (PureV.does (p_assign (by kernel_rfl))) ?_
  refine oEnd ?_
  refine oSeq ?_
  refine oRegion rfl ?_
  refine oOp (.ref 1 (List.length xs) 0 (List.length xs)) (by kernel_rfl) (by kernel_rfl) (PureV.does (p_move (by kernel_rfl))) ?_
  refine oOp (.ptr 0 0) (by kernel_rfl) (by kernel_rfl) (PureV.does (p_move (by kernel_rfl))) ?_
  refine oOp (.ref 1 (List.length xs) 0 (List.length xs)) (by kernel_rfl) (by kernel_rfl) (PureV.does (p_move (by kernel_rfl))) ?_
  refine oOp (.d (.int .i64 ((List.length xs) : Int))) (by kernel_rfl) (by kernel_rfl) (PureV.does (k_lenRef (enc := e_i64) (sz := 1) (fro := false) 1 xs (by kernel_rfl) (by kernel_rfl) Try.underlying22)) ?_
  refine bCall (caps := []) (v := (uc fun (r121 : Int) => (fun (x31 : Int) => (.d (.int .i64 r121) : V)))) (H' := (uc fun (r121 : Int) => (fun (x31 : Int) => ([.box [.d (.lit (List.map e_i64 x)), .d (.int .i64 x31)], .sl 1 (List.map e_i64 xs) false] : List Blk)))) [0] _ (make_Tape_Next_goes k ((List.length xs) : Int) x x1) (by kernel_rfl) (by kernel_rfl) rfl (by kernel_rfl) Try.func39 rfl (by kernel_rfl) (ConvRs.refl _ _) (by kernel_rfl) (by kernel_rfl) (by kernel_rfl) (by decide) (by kernel_rfl) (by kernel_rfl) (fun _ => (by kernel_rfl)) (fun _ => (by kernel_rfl)) (fun _ => (by kernel_rfl)) (fun r => ?_)
  obtain ⟨r121, x31⟩ := r
  refine bUc ?_
  refine bIdx (fun e11 h12 h13 => ?_)
  refine oOp (.eptr 1 (List.length xs) (Int.toNat r121) 0) (by kernel_rfl) (by kernel_rfl) (PureV.does (k_idxRef (enc := e_i64) (fro := false) xs (a := e11) (by kernel_rfl) (k := .i64) (i := r121) (by kernel_rfl) (by kernel_rfl) Try.underlying22 ty3 h12 h13)) ?_
  refine oOp (.d (.int .i64 e11)) (by kernel_rfl) (by kernel_rfl) (Quiet.does (k_loadE (enc := e_i64) (sz := 1) (fro := false) 1 0 xs (by kernel_rfl) (by kernel_rfl) Try.underlying3 (by kernel_rfl) h13 (by kernel_rfl))) ?_
  refine oOp (.d (.int .i64 e11)) (by kernel_rfl) (by kernel_rfl) (PureV.does (p_assign (by kernel_rfl))) ?_
  refine oEnd ?_
  exact oRet (r0 := (e11, x31)) (rv := .d (.int .i64 e11)) (B := [.box [.d (.lit (List.map e_i64 x)), .d (.int .i64 x31)], .sl 1 (List.map e_i64 xs) false]) (vs := [.d (.int .i64 e11)]) (σ := [0, 1]) (by kernel_rfl) Try.func43 rfl (.cons _ _ _ _ (.tmp 4 _ (by kernel_rfl)) .nil) (by kernel_rfl) (by kernel_rfl) (by kernel_rfl) (by kernel_rfl) (by decide) (by kernel_rfl) (by kernel_rfl)

/-- (*awardingbody/awardingbodymake.Tape).Scheme -/
def make_Tape_Scheme_b2 (k : Nat) (p2 : (List SPart)) (x : (List Int)) (i4 : Int) (again : Int × Int × (List Int) → Option (Int × (List Int))) : Int × Int × (List Int) → Option (Int × (List Int)) := uc fun k130 => uc fun x153 => fun xs120 => gidx p2 i4 fun e146 => bif (decide (k130 < e146.Options)) then Option.bind (Option.bind (make_Tape_Next k 2 x x153) (uc fun r1247 => fun x348 => bif (r1247 == 0) then gcap (List.length (xs120 ++ ([k130] : List Int))) 8 (some (x348, (xs120 ++ ([k130] : List Int)))) else some (x348, xs120)) : Option (Int × (List Int))) (uc fun x156 => fun xs123 => again ((IntKind.wrap .i64 (k130 + 1)), x156, xs123)) else some (x153, xs120)
def make_Tape_Scheme_b1 (k : Nat) (p2 : (List SPart)) (x : (List Int)) (again : Int × Int × (List (List Int)) × (List Int) → Option (Int × (List (List Int)) × (List Int))) : Int × Int × (List (List Int)) × (List Int) → Option (Int × (List (List Int)) × (List Int)) := uc fun i4 => uc fun x109 => uc fun xs82 => fun xs83 => bif (decide (i4 < ((List.length p2) : Int))) then gidx p2 i4 fun e139 => Option.bind (bif (e139.Kind == 2) then Option.bind (make_Tape_Next k 3 x x109) (uc fun r1248 => fun x349 => some ((r1248 == 0), x349)) else some (false, x109) : Option (Bool × Int)) (uc fun x138 => fun x139 => Option.bind (bif x138 then Option.bind (gloop (make_Tape_Scheme_b2 k p2 x i4) k (0, x139, ([] : List Int)) : Option (Int × (List Int))) (uc fun x151 => fun xs118 => some (x151, xs118)) else some (x139, ([] : List Int)) : Option (Int × (List Int))) (uc fun x145 => fun xs112 => Option.bind (gcap (List.length (xs82 ++ ([xs112] : List (List Int)))) 24 (Option.bind (make_Tape_Pick k x x145 ([0, 0, 0, 0, 1, 2] : List Int)) (uc fun r1 => fun x21 => gcap (List.length (xs83 ++ ([r1] : List Int))) 8 (some (x21, (xs83 ++ ([r1] : List Int)))))) : Option (Int × (List Int))) (uc fun x146 => fun xs113 => again ((IntKind.wrap .i64 (i4 + 1)), x146, (xs82 ++ ([xs112] : List (List Int))), xs113)))) else some (x109, xs82, xs83)
def make_Tape_Scheme (k : Nat) (p2 : (List SPart)) (x : (List Int)) (x1 : Int) : Option ((List (List Int)) × (List Int) × Int) := Option.bind (gloop (make_Tape_Scheme_b1 k p2 x) k (0, x1, ([] : List (List Int)), ([] : List Int)) : Option (Int × (List (List Int)) × (List Int))) (uc fun x90 => uc fun xs66 => fun xs67 => some (xs66, xs67, x90))
def make_Tape_Scheme_E (p2 : (List SPart)) (x : (List Int)) (x1 : Int) : (List (List Int)) × (List Int) × Int → V × List Blk := uc fun r11 => uc fun r13 => fun x51 => (.agg [.d (.lit (List.map e_Li64 r11)), .d (.lit (List.map e_i64 r13))], [.box [.d (.lit (List.map e_i64 x)), .d (.int .i64 x51)]])
theorem make_Tape_Scheme_goes (k : Nat) (p2 : (List SPart)) (x : (List Int)) (x1 : Int) : RunsO Try.prog 14 [.ptr 0 0, .agg [.d (.int .i64 0), .d (.int .i64 0), .d (.lit (List.map e_SPart p2))], .d (.int .i64 0)] [.box [.d (.lit (List.map e_i64 x)), .d (.int .i64 x1)]] (make_Tape_Scheme_E p2 x x1) (make_Tape_Scheme k p2 x x1) := by
  refine RunsO.of_goes (N := 115) (m := 1) (T := [(0, .ptr 0 0), (1, .agg [.d (.int .i64 0), .d (.int .i64 0), .d (.lit (List.map e_SPart p2))]), (2, .d (.int .i64 0))]) Try.func14 rfl rfl (by kernel_rfl) (by kernel_rfl) (by kernel_rfl) ?_
  unfold make_Tape_Scheme
  refine bStart ?_
  refine oSeq ?_
  refine oRegion rfl ?_
  refine oOp (.ptr 1 0) (by kernel_rfl) (by kernel_rfl) (k_box (H' := [.box [.d (.lit (List.map e_i64 x)), .d (.int .i64 x1)], .box [.d (.int .i64 0), .d (.int .i64 0), .d (.lit (List.map e_SPart p2))]]) (cells := [.d (.int .i64 0), .d (.int .i64 0), .d (.lit (List.map e_SPart p2))]) (by kernel_rfl) (by kernel_rfl) (by kernel_rfl)) ?_
  refine oOp (.ptr 2 0) (by kernel_rfl) (by kernel_rfl) (k_alloc (H' := [.box [.d (.lit (List.map e_i64 x)), .d (.int .i64 x1)], .box [.d (.int .i64 0), .d (.int .i64 0), .d (.lit (List.map e_SPart p2))], .box [.nilc, .nilc]]) ty31 (by kernel_rfl) (by kernel_rfl)) ?_
  refine oEnd ?_
  refine oSeq ?_
  refine oRegion rfl ?_
  refine oOp (.ptr 3 0) (by kernel_rfl) (by kernel_rfl) (k_alloc (H' := [.box [.d (.lit (List.map e_i64 x)), .d (.int .i64 x1)], .box [.d (.int .i64 0), .d (.int .i64 0), .d (.lit (List.map e_SPart p2))], .box [.nilc, .nilc], .box [.nilc, .nilc]]) ty31 (by kernel_rfl) (by kernel_rfl)) ?_
  refine oEnd ?_
  refine oSeq ?_
  refine oSeq ?_
  refine oRegion rfl ?_
  refine oOp (.d (.int .i64 0)) (by kernel_rfl) (by kernel_rfl) (PureV.does (p_assign (by kernel_rfl))) ?_
  refine oEnd ?_
  refine bJoin ((uc fun (x90 : Int) => (uc fun (xs66 : (List (List Int))) => (fun (xs67 : (List Int)) => [(0, .ptr 0 0), (2, .d (.int .i64 0)), (6, .ptr 1 0), (7, .ptr 2 0)])))) ((uc fun (x90 : Int) => (uc fun (xs66 : (List (List Int))) => (fun (xs67 : (List Int)) => [.box [.d (.lit (List.map e_i64 x)), .d (.int .i64 x90)], .box [.nilc, .nilc], .box [.ref 3 (List.length xs66) 0 (List.length xs66), .ref 4 (List.length xs67) 0 (List.length xs67)], .sl 1 (List.map e_Li64 xs66) false, .sl 1 (List.map e_i64 xs67) false])))) (fun s => s) (fun s => ?_) (fun hj42 => ?_)
  · obtain ⟨x90, xs66, xs67⟩ := s
    refine bUc ?_
    refine bUc ?_
    refine oView (T' := [(0, .ptr 0 0), (2, .d (.int .i64 0)), (6, .ptr 1 0), (7, .ptr 2 0)]) (H' := [.box [.d (.lit (List.map e_i64 x)), .d (.int .i64 x90)], .box [.nilc, .nilc], .box [.ref 3 (List.length xs66) 0 (List.length xs66), .ref 4 (List.length xs67) 0 (List.length xs67)], .sl 1 (List.map e_Li64 xs66) false, .sl 1 (List.map e_i64 xs67) false]) (by kernel_rfl) (by kernel_rfl) ?_
    refine oSeq ?_
    refine oSeq ?_
    refine oRegion rfl ?_
    refine oOp (.d (.int .i64 0)) (by kernel_rfl) (by kernel_rfl) (PureV.does (p_move (by kernel_rfl))) ?_
    refine oOp (.d (.bool false)) (by kernel_rfl) (by kernel_rfl) (PureV.does (p_int (k := .i64) (p := 0) (q := 0) (by kernel_rfl) (by kernel_rfl) (by kernel_rfl))) ?_
    refine oOp (.d (.bool false)) (by kernel_rfl) (by kernel_rfl) (PureV.does (p_move (by kernel_rfl))) ?_
    refine oNot (by kernel_rfl) (by kernel_rfl) ?_
    refine oNot (by kernel_rfl) (by kernel_rfl) ?_
    refine oNot (by kernel_rfl) (by kernel_rfl) ?_
    refine oOp (.d (.bool false)) (by kernel_rfl) (by kernel_rfl) (PureV.does (p_pick (b := false) (by kernel_rfl) (by kernel_rfl))) ?_
    refine oOp (.d (.bool false)) (by kernel_rfl) (by kernel_rfl) (PureV.does (p_move (by kernel_rfl))) ?_
    refine oNot (by kernel_rfl) (by kernel_rfl) ?_
    refine oNot (by kernel_rfl) (by kernel_rfl) ?_
    refine oNot (by kernel_rfl) (by kernel_rfl) ?_
    refine oNot (by kernel_rfl) (by kernel_rfl) ?_
    refine oOp (.d (.bool false)) (by kernel_rfl) (by kernel_rfl) (PureV.does (p_pick (b := false) (by kernel_rfl) (by kernel_rfl))) ?_
    refine oEnd ?_
    refine oCondF (by kernel_rfl) ?_
    refine oSkip ?_
    refine oSeq ?_
    refine oRegion rfl ?_
    refine oOp (.agg [.ref 3 (List.length xs66) 0 (List.length xs66), .ref 4 (List.length xs67) 0 (List.length xs67)]) (by kernel_rfl) (by kernel_rfl) (Quiet.does (k_loadAgg 2 0 (by kernel_rfl) Try.underlying31 (by kernel_rfl) ty31 (by kernel_rfl))) ?_
    refine oOp (.undef) (by kernel_rfl) (by kernel_rfl) (k_store (vs := [.ref 3 (List.length xs66) 0 (List.length xs66), .ref 4 (List.length xs67) 0 (List.length xs67)]) (H' := [.box [.d (.lit (List.map e_i64 x)), .d (.int .i64 x90)], .box [.ref 3 (List.length xs66) 0 (List.length xs66), .ref 4 (List.length xs67) 0 (List.length xs67)], .box [.ref 3 (List.length xs66) 0 (List.length xs66), .ref 4 (List.length xs67) 0 (List.length xs67)], .sl 1 (List.map e_Li64 xs66) false, .sl 1 (List.map e_i64 xs67) false]) 1 0 (by kernel_rfl) ty31 (by kernel_rfl) (by kernel_rfl) (by kernel_rfl)) ?_
    refine oEnd ?_
    refine oFreeze 3 (esz := 1) (xs := List.map e_Li64 xs66) (by kernel_rfl) ?_
    refine oView (H' := [.box [.d (.lit (List.map e_i64 x)), .d (.int .i64 x90)], .box [.ref 3 (List.length xs66) 0 (List.length xs66), .ref 4 (List.length xs67) 0 (List.length xs67)], .box [.ref 3 (List.length xs66) 0 (List.length xs66), .ref 4 (List.length xs67) 0 (List.length xs67)], .sl 1 (List.map e_Li64 xs66) true, .sl 1 (List.map e_i64 xs67) false]) rfl (by kernel_rfl) ?_
    refine oFreeze 4 (esz := 1) (xs := List.map e_i64 xs67) (by kernel_rfl) ?_
    refine oView (H' := [.box [.d (.lit (List.map e_i64 x)), .d (.int .i64 x90)], .box [.ref 3 (List.length xs66) 0 (List.length xs66), .ref 4 (List.length xs67) 0 (List.length xs67)], .box [.ref 3 (List.length xs66) 0 (List.length xs66), .ref 4 (List.length xs67) 0 (List.length xs67)], .sl 1 (List.map e_Li64 xs66) true, .sl 1 (List.map e_i64 xs67) true]) rfl (by kernel_rfl) ?_
    refine oConvB 1 (cells := [.ref 3 (List.length xs66) 0 (List.length xs66), .ref 4 (List.length xs67) 0 (List.length xs67)]) (cells' := [.d (.lit (List.map e_Li64 xs66)), .d (.lit (List.map e_i64 xs67))]) (by kernel_rfl) (.cons _ _ _ _ (k_lit (enc := e_Li64) (sz := 1) 3 xs66 (by kernel_rfl)) (.cons _ _ _ _ (k_lit (enc := e_i64) (sz := 1) 4 xs67 (by kernel_rfl)) .nil)) ?_
    refine oView (H' := [.box [.d (.lit (List.map e_i64 x)), .d (.int .i64 x90)], .box [.d (.lit (List.map e_Li64 xs66)), .d (.lit (List.map e_i64 xs67))], .box [.ref 3 (List.length xs66) 0 (List.length xs66), .ref 4 (List.length xs67) 0 (List.length xs67)], .sl 1 (List.map e_Li64 xs66) true, .sl 1 (List.map e_i64 xs67) true]) rfl (by kernel_rfl) ?_
    exact oRet (r0 := (xs66, xs67, x90)) (rv := .agg [.d (.lit (List.map e_Li64 xs66)), .d (.lit (List.map e_i64 xs67))]) (B := [.box [.d (.lit (List.map e_i64 x)), .d (.int .i64 x90)]]) (vs := [.agg [.d (.lit (List.map e_Li64 xs66)), .d (.lit (List.map e_i64 xs67))]]) (σ := [0]) (by kernel_rfl) Try.func14 rfl (.cons _ _ _ _ (.agg 6 31 1 0 [.d (.lit (List.map e_Li64 xs66)), .d (.lit (List.map e_i64 xs67))] [.d (.lit (List.map e_Li64 xs66)), .d (.lit (List.map e_i64 xs67))] _ _ _ _ (by kernel_rfl) (by kernel_rfl) Try.underlying31 (by kernel_rfl) ty31 (by kernel_rfl) (by kernel_rfl)) .nil) (by kernel_rfl) (by kernel_rfl) (by kernel_rfl) (by kernel_rfl) (by decide) (by kernel_rfl) (by kernel_rfl)
  · refine oBlock ?_
    refine oLoop ?_
    refine oVirtB (esz := 1) 3 0 (cells := [.nilc, .nilc]) (by kernel_rfl) (by kernel_rfl) ?_
    refine oView (H' := [.box [.d (.lit (List.map e_i64 x)), .d (.int .i64 x1)], .box [.d (.int .i64 0), .d (.int .i64 0), .d (.lit (List.map e_SPart p2))], .box [.nilc, .nilc], .box [.ref 4 (List.length ([] : List (List Int))) 0 (List.length ([] : List (List Int))), .nilc], .sl 1 (List.map e_Li64 ([] : List (List Int))) false]) rfl (by kernel_rfl) ?_
    refine oVirtB (esz := 1) 3 1 (cells := [.ref 4 (List.length ([] : List (List Int))) 0 (List.length ([] : List (List Int))), .nilc]) (by kernel_rfl) (by kernel_rfl) ?_
    refine oView (H' := [.box [.d (.lit (List.map e_i64 x)), .d (.int .i64 x1)], .box [.d (.int .i64 0), .d (.int .i64 0), .d (.lit (List.map e_SPart p2))], .box [.nilc, .nilc], .box [.ref 4 (List.length ([] : List (List Int))) 0 (List.length ([] : List (List Int))), .ref 5 (List.length ([] : List Int)) 0 (List.length ([] : List Int))], .sl 1 (List.map e_Li64 ([] : List (List Int))) false, .sl 1 (List.map e_i64 ([] : List Int)) false]) rfl (by kernel_rfl) ?_
    refine oHead [0, 2, 4, 6, 7, 8] [0, 1, 2, 3, 4, 5] (T' := [(0, .ptr 0 0), (2, .d (.int .i64 0)), (4, .ptr 1 0), (6, .ptr 2 0), (7, .ptr 3 0), (8, .d (.int .i64 0))]) (H' := [.box [.d (.lit (List.map e_i64 x)), .d (.int .i64 x1)], .box [.d (.int .i64 0), .d (.int .i64 0), .d (.lit (List.map e_SPart p2))], .box [.nilc, .nilc], .box [.ref 4 (List.length ([] : List (List Int))) 0 (List.length ([] : List (List Int))), .ref 5 (List.length ([] : List Int)) 0 (List.length ([] : List Int))], .sl 1 (List.map e_Li64 ([] : List (List Int))) false, .sl 1 (List.map e_i64 ([] : List Int)) false]) (by kernel_rfl) (by kernel_rfl) (by kernel_rfl) (by kernel_rfl) (by decide) (by kernel_rfl) (by kernel_rfl) ?_
    refine bLoop (body := make_Tape_Scheme_b1 k p2 x) ((uc fun (i4 : Int) => (uc fun (x109 : Int) => (uc fun (xs82 : (List (List Int))) => (fun (xs83 : (List Int)) => [(0, .ptr 0 0), (2, .d (.int .i64 0)), (4, .ptr 1 0), (6, .ptr 2 0), (7, .ptr 3 0), (8, .d (.int .i64 i4))]))))) ((uc fun (i4 : Int) => (uc fun (x109 : Int) => (uc fun (xs82 : (List (List Int))) => (fun (xs83 : (List Int)) => [.box [.d (.lit (List.map e_i64 x)), .d (.int .i64 x109)], .box [.d (.int .i64 0), .d (.int .i64 0), .d (.lit (List.map e_SPart p2))], .box [.nilc, .nilc], .box [.ref 4 (List.length xs82) 0 (List.length xs82), .ref 5 (List.length xs83) 0 (List.length xs83)], .sl 1 (List.map e_Li64 xs82) false, .sl 1 (List.map e_i64 xs83) false]))))) (fun again hag1 s => ?_) k (0, x1, ([] : List (List Int)), ([] : List Int))
    · unfold make_Tape_Scheme_b1
      obtain ⟨i4, x109, xs82, xs83⟩ := s
      refine bUc ?_
      refine bUc ?_
      refine bUc ?_
      refine oView (T' := [(0, .ptr 0 0), (2, .d (.int .i64 0)), (4, .ptr 1 0), (6, .ptr 2 0), (7, .ptr 3 0), (8, .d (.int .i64 i4))]) (H' := [.box [.d (.lit (List.map e_i64 x)), .d (.int .i64 x109)], .box [.d (.int .i64 0), .d (.int .i64 0), .d (.lit (List.map e_SPart p2))], .box [.nilc, .nilc], .box [.ref 4 (List.length xs82) 0 (List.length xs82), .ref 5 (List.length xs83) 0 (List.length xs83)], .sl 1 (List.map e_Li64 xs82) false, .sl 1 (List.map e_i64 xs83) false]) (by kernel_rfl) (by kernel_rfl) ?_
      refine oSeq ?_
      refine oSeq ?_
      refine oRegion rfl ?_
      refine oOp (.d (.int .i64 i4)) (by kernel_rfl) (by kernel_rfl) (PureV.does (p_move (by kernel_rfl))) ?_
      refine oOp (.ptr 1 2) (by kernel_rfl) (by kernel_rfl) (PureV.does (k_fieldAddr 1 0 (by kernel_rfl) Try.underlying27 rfl ty25 (by kernel_rfl))) ?_
      refine oOp (.d (.lit (List.map e_SPart p2))) (by kernel_rfl) (by kernel_rfl) (Quiet.does (k_load 1 2 (by kernel_rfl) Try.underlying25 (by kernel_rfl) (by kernel_rfl))) ?_
      refine oOp (.d (.int .i64 ((List.length p2) : Int))) (by kernel_rfl) (by kernel_rfl) (PureV.does (k_lenLit (enc := e_SPart) p2 (by kernel_rfl) Try.underlying25)) ?_
      refine oOp (.d (.bool (decide (i4 < ((List.length p2) : Int))))) (by kernel_rfl) (by kernel_rfl) (PureV.does (p_int (k := .i64) (p := i4) (q := ((List.length p2) : Int)) (by kernel_rfl) (by kernel_rfl) (by kernel_rfl))) ?_
      refine oEnd ?_
      refine bSplit 16 (by kernel_rfl) (fun hc => ?_) (fun hc => ?_)
      · refine oCondT (by kernel_rfl) ?_
        refine oSkip ?_
        refine oSeq ?_
        refine oBlock ?_
        refine oSeq ?_
        refine oRegion rfl ?_
        refine oOp (.nilc) (by kernel_rfl) (by kernel_rfl) (PureV.does (p_assign (by kernel_rfl))) ?_
        refine oEnd ?_
        refine oSeq ?_
        refine oSeq ?_
        refine oRegion rfl ?_
        refine oOp (.ptr 1 2) (by kernel_rfl) (by kernel_rfl) (PureV.does (k_fieldAddr 1 0 (by kernel_rfl) Try.underlying27 rfl ty25 (by kernel_rfl))) ?_
        refine oOp (.d (.lit (List.map e_SPart p2))) (by kernel_rfl) (by kernel_rfl) (Quiet.does (k_load 1 2 (by kernel_rfl) Try.underlying25 (by kernel_rfl) (by kernel_rfl))) ?_
        refine oOp (.d (.int .i64 i4)) (by kernel_rfl) (by kernel_rfl) (PureV.does (p_move (by kernel_rfl))) ?_
        refine bIdx (fun e139 h1106 h1107 => ?_)
        refine oOp (.lptr (e_SPart e139) 0) (by kernel_rfl) (by kernel_rfl) (PureV.does (k_idxLit e_SPart_len p2 (a := e139) (by kernel_rfl) (k := .i64) (i := i4) (by kernel_rfl) Try.underlying25 ty49 h1106 h1107)) ?_
        refine oOp (.lptr (e_SPart e139) 0) (by kernel_rfl) (by kernel_rfl) (PureV.does (k_fieldAddrL (cells := e_SPart e139) 0 (by kernel_rfl) Try.underlying49 rfl ty3 (by kernel_rfl))) ?_
        refine oOp (.d (.int .i64 e139.Kind)) (by kernel_rfl) (by kernel_rfl) (Quiet.does (k_loadL (cells := e_SPart e139) 0 (by kernel_rfl) Try.underlying3 (by kernel_rfl) (by kernel_rfl))) ?_
        refine oOp (.d (.bool (e139.Kind == 2))) (by kernel_rfl) (by kernel_rfl) (PureV.does (p_int (k := .i64) (p := e139.Kind) (q := 2) (by kernel_rfl) (by kernel_rfl) (by kernel_rfl))) ?_
        refine oOp (.d (.bool (e139.Kind == 2))) (by kernel_rfl) (by kernel_rfl) (PureV.does (p_move (by kernel_rfl))) ?_
        refine bMeet 4 rfl ((uc fun (x138 : Bool) => (fun (x139 : Int) => [(0, .ptr 0 0), (2, .d (.int .i64 0)), (4, .ptr 1 0), (6, .ptr 2 0), (7, .ptr 3 0), (8, .d (.int .i64 i4)), (9, .nilc), (30, .d (.bool x138))]))) ((uc fun (x138 : Bool) => (fun (x139 : Int) => [.box [.d (.lit (List.map e_i64 x)), .d (.int .i64 x139)], .box [.d (.int .i64 0), .d (.int .i64 0), .d (.lit (List.map e_SPart p2))], .box [.nilc, .nilc], .box [.ref 4 (List.length xs82) 0 (List.length xs82), .ref 5 (List.length xs83) 0 (List.length xs83)], .sl 1 (List.map e_Li64 xs82) false, .sl 1 (List.map e_i64 xs83) false]))) (fun s => s) (fun s => ?_) (fun hj79 => ?_)
        · obtain ⟨x138, x139⟩ := s
          refine bUc ?_
          refine oView (T' := [(0, .ptr 0 0), (2, .d (.int .i64 0)), (4, .ptr 1 0), (6, .ptr 2 0), (7, .ptr 3 0), (8, .d (.int .i64 i4)), (9, .nilc), (30, .d (.bool x138))]) (H' := [.box [.d (.lit (List.map e_i64 x)), .d (.int .i64 x139)], .box [.d (.int .i64 0), .d (.int .i64 0), .d (.lit (List.map e_SPart p2))], .box [.nilc, .nilc], .box [.ref 4 (List.length xs82) 0 (List.length xs82), .ref 5 (List.length xs83) 0 (List.length xs83)], .sl 1 (List.map e_Li64 xs82) false, .sl 1 (List.map e_i64 xs83) false]) (by kernel_rfl) (by kernel_rfl) ?_
          refine oEnd ?_
          refine bJoin ((uc fun (x145 : Int) => (fun (xs112 : (List Int)) => [(0, .ptr 0 0), (2, .d (.int .i64 0)), (4, .ptr 1 0), (6, .ptr 2 0), (7, .ptr 3 0), (8, .d (.int .i64 i4)), (9, .ref 4 (List.length xs112) 0 (List.length xs112))]))) ((uc fun (x145 : Int) => (fun (xs112 : (List Int)) => [.box [.d (.lit (List.map e_i64 x)), .d (.int .i64 x145)], .box [.d (.int .i64 0), .d (.int .i64 0), .d (.lit (List.map e_SPart p2))], .box [.nilc, .nilc], .box [.ref 5 (List.length xs82) 0 (List.length xs82), .ref 6 (List.length xs83) 0 (List.length xs83)], .sl 1 (List.map e_i64 xs112) false, .sl 1 (List.map e_Li64 xs82) false, .sl 1 (List.map e_i64 xs83) false]))) (fun s => s) (fun s => ?_) (fun hj71 => ?_)
          · obtain ⟨x145, xs112⟩ := s
            refine bUc ?_
            refine oView (T' := [(0, .ptr 0 0), (2, .d (.int .i64 0)), (4, .ptr 1 0), (6, .ptr 2 0), (7, .ptr 3 0), (8, .d (.int .i64 i4)), (9, .ref 4 (List.length xs112) 0 (List.length xs112))]) (H' := [.box [.d (.lit (List.map e_i64 x)), .d (.int .i64 x145)], .box [.d (.int .i64 0), .d (.int .i64 0), .d (.lit (List.map e_SPart p2))], .box [.nilc, .nilc], .box [.ref 5 (List.length xs82) 0 (List.length xs82), .ref 6 (List.length xs83) 0 (List.length xs83)], .sl 1 (List.map e_i64 xs112) false, .sl 1 (List.map e_Li64 xs82) false, .sl 1 (List.map e_i64 xs83) false]) (by kernel_rfl) (by kernel_rfl) ?_
            refine bJoin ((uc fun (x146 : Int) => (fun (xs113 : (List Int)) => [(0, .ptr 0 0), (2, .d (.int .i64 0)), (4, .ptr 1 0), (6, .ptr 2 0), (7, .ptr 3 0), (8, .d (.int .i64 i4))]))) ((uc fun (x146 : Int) => (fun (xs113 : (List Int)) => [.box [.d (.lit (List.map e_i64 x)), .d (.int .i64 x146)], .box [.d (.int .i64 0), .d (.int .i64 0), .d (.lit (List.map e_SPart p2))], .box [.nilc, .nilc], .box [.ref 4 (List.length (xs82 ++ ([xs112] : List (List Int)))) 0 (List.length (xs82 ++ ([xs112] : List (List Int)))), .ref 5 (List.length xs113) 0 (List.length xs113)], .sl 1 (List.map e_Li64 (xs82 ++ ([xs112] : List (List Int)))) false, .sl 1 (List.map e_i64 xs113) false]))) (fun s => s) (fun s => ?_) (fun hj72 => ?_)
            · obtain ⟨x146, xs113⟩ := s
              refine bUc ?_
              refine oView (T' := [(0, .ptr 0 0), (2, .d (.int .i64 0)), (4, .ptr 1 0), (6, .ptr 2 0), (7, .ptr 3 0), (8, .d (.int .i64 i4))]) (H' := [.box [.d (.lit (List.map e_i64 x)), .d (.int .i64 x146)], .box [.d (.int .i64 0), .d (.int .i64 0), .d (.lit (List.map e_SPart p2))], .box [.nilc, .nilc], .box [.ref 4 (List.length (xs82 ++ ([xs112] : List (List Int)))) 0 (List.length (xs82 ++ ([xs112] : List (List Int)))), .ref 5 (List.length xs113) 0 (List.length xs113)], .sl 1 (List.map e_Li64 (xs82 ++ ([xs112] : List (List Int)))) false, .sl 1 (List.map e_i64 xs113) false]) (by kernel_rfl) (by kernel_rfl) ?_
              refine oBlk ?_
              refine oRegion rfl ?_
              refine oOp (.d (.int .i64 i4)) (by kernel_rfl) (by kernel_rfl) (PureV.does (p_move (by kernel_rfl))) ?_
              refine oOp (.d (.int .i64 (IntKind.wrap .i64 (i4 + 1)))) (by kernel_rfl) (by kernel_rfl) (PureV.does (p_int (k := .i64) (p := i4) (q := 1) (by kernel_rfl) (by kernel_rfl) (by kernel_rfl))) ?_
              refine oOp (.d (.int .i64 (IntKind.wrap .i64 (i4 + 1)))) (by kernel_rfl) (by kernel_rfl) (PureV.does (p_assign (by kernel_rfl))) ?_
              refine oEnd ?_
              refine oAgain ?_
              refine oHead [0, 2, 4, 6, 7, 8] [0, 1, 2, 3, 4, 5] (T' := [(0, .ptr 0 0), (2, .d (.int .i64 0)), (4, .ptr 1 0), (6, .ptr 2 0), (7, .ptr 3 0), (8, .d (.int .i64 (IntKind.wrap .i64 (i4 + 1))))]) (H' := [.box [.d (.lit (List.map e_i64 x)), .d (.int .i64 x146)], .box [.d (.int .i64 0), .d (.int .i64 0), .d (.lit (List.map e_SPart p2))], .box [.nilc, .nilc], .box [.ref 4 (List.length (xs82 ++ ([xs112] : List (List Int)))) 0 (List.length (xs82 ++ ([xs112] : List (List Int)))), .ref 5 (List.length xs113) 0 (List.length xs113)], .sl 1 (List.map e_Li64 (xs82 ++ ([xs112] : List (List Int)))) false, .sl 1 (List.map e_i64 xs113) false]) (by kernel_rfl) (by kernel_rfl) (by kernel_rfl) (by kernel_rfl) (by decide) (by kernel_rfl) (by kernel_rfl) ?_
              exact hag1 ((IntKind.wrap .i64 (i4 + 1)), x146, (xs82 ++ ([xs112] : List (List Int))), xs113)
            · refine oFreeze 4 (esz := 1) (xs := List.map e_i64 xs112) (by kernel_rfl) ?_
              refine oView (H' := [.box [.d (.lit (List.map e_i64 x)), .d (.int .i64 x145)], .box [.d (.int .i64 0), .d (.int .i64 0), .d (.lit (List.map e_SPart p2))], .box [.nilc, .nilc], .box [.ref 5 (List.length xs82) 0 (List.length xs82), .ref 6 (List.length xs83) 0 (List.length xs83)], .sl 1 (List.map e_i64 xs112) true, .sl 1 (List.map e_Li64 xs82) false, .sl 1 (List.map e_i64 xs83) false]) rfl (by kernel_rfl) ?_
              refine oConv 9 (v := .ref 4 (List.length xs112) 0 (List.length xs112)) (v' := .d (.lit (List.map e_i64 xs112))) (by kernel_rfl) (k_lit (enc := e_i64) (sz := 1) 4 xs112 (by kernel_rfl)) ?_
              refine oDraw [(0, 9), (1, 16), (2, 16), (3, 13), (4, 16), (5, 4), (6, 11)] rfl ?_
              refine aTakeL (i := 0) (st' := []) (.ptr 3 0) rfl (by kernel_rfl) (by kernel_rfl) (by kernel_rfl) (by kernel_rfl) (by kernel_rfl) (by kernel_rfl) (by kernel_rfl) (PureV.quiet (k_fieldAddr 3 0 (by kernel_rfl) Try.underlying31 rfl ty29 (by kernel_rfl)) []) ?_
              refine aTakeL (i := 1) (st' := [3]) (.ref 5 (List.length xs82) 0 (List.length xs82)) rfl (by kernel_rfl) (by kernel_rfl) (by kernel_rfl) (by kernel_rfl) (by kernel_rfl) (by kernel_rfl) (by kernel_rfl) (k_load 3 0 (by kernel_rfl) Try.underlying29 (by kernel_rfl) (by kernel_rfl)) ?_
              refine aTakeL (i := 2) (st' := []) (.d (.lit (List.map e_i64 xs112))) rfl (by kernel_rfl) (by kernel_rfl) (by kernel_rfl) (by kernel_rfl) (by kernel_rfl) (by kernel_rfl) (by kernel_rfl) (PureV.quiet (p_move (by kernel_rfl)) []) ?_
              refine aTakeL (i := 5) (st' := []) (.ptr 3 1) rfl (by kernel_rfl) (by kernel_rfl) (by kernel_rfl) (by kernel_rfl) (by kernel_rfl) (by kernel_rfl) (by kernel_rfl) (PureV.quiet (k_fieldAddr 3 0 (by kernel_rfl) Try.underlying31 rfl ty22 (by kernel_rfl)) []) ?_
              refine aTakeL (i := 6) (st' := [3]) (.ref 6 (List.length xs83) 0 (List.length xs83)) rfl (by kernel_rfl) (by kernel_rfl) (by kernel_rfl) (by kernel_rfl) (by kernel_rfl) (by kernel_rfl) (by kernel_rfl) (k_load 3 1 (by kernel_rfl) Try.underlying22 (by kernel_rfl) (by kernel_rfl)) ?_
              refine aTakeL (i := 7) (st' := []) (.ptr 0 0) rfl (by kernel_rfl) (by kernel_rfl) (by kernel_rfl) (by kernel_rfl) (by kernel_rfl) (by kernel_rfl) (by kernel_rfl) (PureV.quiet (p_move (by kernel_rfl)) []) ?_
              refine aMany [3, 8] (by kernel_rfl) (by kernel_rfl) (by kernel_rfl) (by kernel_rfl) (.cons _ _ ?_ (.cons _ _ ?_ .nil))
              · refine sOne (i := 3) (v := .ref 7 (List.length ([xs112] : List (List Int))) 0 (List.length ([xs112] : List (List Int)))) rfl (by kernel_rfl) (by kernel_rfl) (by kernel_rfl) (by kernel_rfl) (by kernel_rfl) (Does.acts (k_buildSlice (H' := [.box [.d (.lit (List.map e_i64 x)), .d (.int .i64 x145)], .box [.d (.int .i64 0), .d (.int .i64 0), .d (.lit (List.map e_SPart p2))], .box [.nilc, .nilc], .box [.ref 5 (List.length xs82) 0 (List.length xs82), .ref 6 (List.length xs83) 0 (List.length xs83)], .sl 1 (List.map e_i64 xs112) true, .sl 1 (List.map e_Li64 xs82) false, .sl 1 (List.map e_i64 xs83) false, .sl 1 (List.map e_Li64 ([xs112] : List (List Int))) false]) (List.map e_Li64 ([xs112] : List (List Int))) Try.underlying29 ty22 (by kernel_rfl) (by kernel_rfl) (by kernel_rfl))) (by kernel_rfl) ?_
                refine dCap (fun h18 => ?_)
                refine aMany [4, 8] (by kernel_rfl) (by kernel_rfl) (by kernel_rfl) (by kernel_rfl) (.cons _ _ ?_ (.cons _ _ ?_ .nil))
                · refine sOne (i := 4) (v := .ref 5 (List.length (xs82 ++ ([xs112] : List (List Int)))) 0 (List.length (xs82 ++ ([xs112] : List (List Int))))) rfl (by kernel_rfl) (by kernel_rfl) (by kernel_rfl) (by kernel_rfl) (by kernel_rfl) (Does.acts (k_append (H' := [.box [.d (.lit (List.map e_i64 x)), .d (.int .i64 x145)], .box [.d (.int .i64 0), .d (.int .i64 0), .d (.lit (List.map e_SPart p2))], .box [.nilc, .nilc], .box [.ref 5 (List.length xs82) 0 (List.length xs82), .ref 6 (List.length xs83) 0 (List.length xs83)], .sl 1 (List.map e_i64 xs112) true, .sl 1 (List.map e_Li64 (xs82 ++ ([xs112] : List (List Int)))) false, .sl 1 (List.map e_i64 xs83) false, .sl 1 (List.map e_Li64 ([xs112] : List (List Int))) false]) (enc := e_Li64) 5 xs82 ([xs112] : List (List Int)) Try.underlying29 Try.underlying29 ty22 (by kernel_rfl) (by kernel_rfl) (by kernel_rfl) (holdsRef (enc := e_Li64) 7 ([xs112] : List (List Int)) false (by kernel_rfl) (by kernel_rfl)) h18 (by kernel_rfl))) (by kernel_rfl) ?_
                  refine aTakeL (i := 12) (st' := []) (.ptr 3 0) rfl (by kernel_rfl) (by kernel_rfl) (by kernel_rfl) (by kernel_rfl) (by kernel_rfl) (by kernel_rfl) (by kernel_rfl) (PureV.quiet (k_fieldAddr 3 0 (by kernel_rfl) Try.underlying31 rfl ty29 (by kernel_rfl)) []) ?_
                  refine aOne (i := 8) (v := .ref 8 (List.length ([0, 0, 0, 0, 1, 2] : List Int)) 0 (List.length ([0, 0, 0, 0, 1, 2] : List Int))) rfl (by kernel_rfl) (by kernel_rfl) (by kernel_rfl) (by kernel_rfl) (by kernel_rfl) (by kernel_rfl) (by kernel_rfl) (Does.acts (k_buildSlice (H' := [.box [.d (.lit (List.map e_i64 x)), .d (.int .i64 x145)], .box [.d (.int .i64 0), .d (.int .i64 0), .d (.lit (List.map e_SPart p2))], .box [.nilc, .nilc], .box [.ref 5 (List.length xs82) 0 (List.length xs82), .ref 6 (List.length xs83) 0 (List.length xs83)], .sl 1 (List.map e_i64 xs112) true, .sl 1 (List.map e_Li64 (xs82 ++ ([xs112] : List (List Int)))) false, .sl 1 (List.map e_i64 xs83) false, .sl 1 (List.map e_Li64 ([xs112] : List (List Int))) false, .sl 1 (List.map e_i64 ([0, 0, 0, 0, 1, 2] : List Int)) false]) (List.map e_i64 ([0, 0, 0, 0, 1, 2] : List Int)) Try.underlying22 ty3 (by kernel_rfl) (by kernel_rfl) (by kernel_rfl))) (by kernel_rfl) ?_
                  refine dCall (i := 9) (caps := []) (v := (uc fun (r1 : Int) => (fun (x21 : Int) => (.d (.int .i64 r1) : V)))) (H' := (uc fun (r1 : Int) => (fun (x21 : Int) => ([.box [.d (.lit (List.map e_i64 x)), .d (.int .i64 x21)], .box [.d (.int .i64 0), .d (.int .i64 0), .d (.lit (List.map e_SPart p2))], .box [.nilc, .nilc], .box [.ref 5 (List.length xs82) 0 (List.length xs82), .ref 6 (List.length xs83) 0 (List.length xs83)], .sl 1 (List.map e_i64 xs112) true, .sl 1 (List.map e_Li64 (xs82 ++ ([xs112] : List (List Int)))) false, .sl 1 (List.map e_i64 xs83) false, .sl 1 (List.map e_Li64 ([xs112] : List (List Int))) false, .sl 1 (List.map e_i64 ([0, 0, 0, 0, 1, 2] : List Int)) false] : List Blk)))) [0, 8] _ (make_Tape_Pick_goes k x x145 ([0, 0, 0, 0, 1, 2] : List Int)) rfl (by kernel_rfl) (by kernel_rfl) (by kernel_rfl) (by kernel_rfl) (by kernel_rfl) (by kernel_rfl) (by kernel_rfl) (by kernel_rfl) rfl (by kernel_rfl) Try.func43 rfl (by kernel_rfl) (ConvRs.refl _ _) (by kernel_rfl) (by kernel_rfl) (by kernel_rfl) (by decide) (by kernel_rfl) (by kernel_rfl) (fun _ => (by kernel_rfl)) (fun _ => (by kernel_rfl)) (fun _ => (by kernel_rfl)) (fun r => ?_)
                  obtain ⟨r1, x21⟩ := r
                  refine dUc ?_
                  refine aOne (i := 10) (v := .ref 9 (List.length ([r1] : List Int)) 0 (List.length ([r1] : List Int))) rfl (by kernel_rfl) (by kernel_rfl) (by kernel_rfl) (by kernel_rfl) (by kernel_rfl) (by kernel_rfl) (by kernel_rfl) (Does.acts (k_buildSlice (H' := [.box [.d (.lit (List.map e_i64 x)), .d (.int .i64 x21)], .box [.d (.int .i64 0), .d (.int .i64 0), .d (.lit (List.map e_SPart p2))], .box [.nilc, .nilc], .box [.ref 5 (List.length xs82) 0 (List.length xs82), .ref 6 (List.length xs83) 0 (List.length xs83)], .sl 1 (List.map e_i64 xs112) true, .sl 1 (List.map e_Li64 (xs82 ++ ([xs112] : List (List Int)))) false, .sl 1 (List.map e_i64 xs83) false, .sl 1 (List.map e_Li64 ([xs112] : List (List Int))) false, .sl 1 (List.map e_i64 ([0, 0, 0, 0, 1, 2] : List Int)) false, .sl 1 (List.map e_i64 ([r1] : List Int)) false]) (List.map e_i64 ([r1] : List Int)) Try.underlying22 ty3 (by kernel_rfl) (by kernel_rfl) (by kernel_rfl))) (by kernel_rfl) ?_
                  refine dCap (fun h19 => ?_)
                  refine aOne (i := 11) (v := .ref 6 (List.length (xs83 ++ ([r1] : List Int))) 0 (List.length (xs83 ++ ([r1] : List Int)))) rfl (by kernel_rfl) (by kernel_rfl) (by kernel_rfl) (by kernel_rfl) (by kernel_rfl) (by kernel_rfl) (by kernel_rfl) (Does.acts (k_append (H' := [.box [.d (.lit (List.map e_i64 x)), .d (.int .i64 x21)], .box [.d (.int .i64 0), .d (.int .i64 0), .d (.lit (List.map e_SPart p2))], .box [.nilc, .nilc], .box [.ref 5 (List.length xs82) 0 (List.length xs82), .ref 6 (List.length xs83) 0 (List.length xs83)], .sl 1 (List.map e_i64 xs112) true, .sl 1 (List.map e_Li64 (xs82 ++ ([xs112] : List (List Int)))) false, .sl 1 (List.map e_i64 (xs83 ++ ([r1] : List Int))) false, .sl 1 (List.map e_Li64 ([xs112] : List (List Int))) false, .sl 1 (List.map e_i64 ([0, 0, 0, 0, 1, 2] : List Int)) false, .sl 1 (List.map e_i64 ([r1] : List Int)) false]) (enc := e_i64) 6 xs83 ([r1] : List Int) Try.underlying22 Try.underlying22 ty3 (by kernel_rfl) (by kernel_rfl) (by kernel_rfl) (holdsRef (enc := e_i64) 9 ([r1] : List Int) false (by kernel_rfl) (by kernel_rfl)) h19 (by kernel_rfl))) (by kernel_rfl) ?_
                  refine aOne (i := 13) (v := .undef) rfl (by kernel_rfl) (by kernel_rfl) (by kernel_rfl) (by kernel_rfl) (by kernel_rfl) (by kernel_rfl) (by kernel_rfl) (Does.acts (k_store (vs := [.ref 5 (List.length (xs82 ++ ([xs112] : List (List Int)))) 0 (List.length (xs82 ++ ([xs112] : List (List Int))))]) (H' := [.box [.d (.lit (List.map e_i64 x)), .d (.int .i64 x21)], .box [.d (.int .i64 0), .d (.int .i64 0), .d (.lit (List.map e_SPart p2))], .box [.nilc, .nilc], .box [.ref 5 (List.length (xs82 ++ ([xs112] : List (List Int)))) 0 (List.length (xs82 ++ ([xs112] : List (List Int)))), .ref 6 (List.length xs83) 0 (List.length xs83)], .sl 1 (List.map e_i64 xs112) true, .sl 1 (List.map e_Li64 (xs82 ++ ([xs112] : List (List Int)))) false, .sl 1 (List.map e_i64 (xs83 ++ ([r1] : List Int))) false, .sl 1 (List.map e_Li64 ([xs112] : List (List Int))) false, .sl 1 (List.map e_i64 ([0, 0, 0, 0, 1, 2] : List Int)) false, .sl 1 (List.map e_i64 ([r1] : List Int)) false]) 3 0 (by kernel_rfl) ty29 (by kernel_rfl) (by kernel_rfl) (by kernel_rfl))) (by kernel_rfl) ?_
                  refine aTakeL (i := 14) (st' := []) (.ptr 3 1) rfl (by kernel_rfl) (by kernel_rfl) (by kernel_rfl) (by kernel_rfl) (by kernel_rfl) (by kernel_rfl) (by kernel_rfl) (PureV.quiet (k_fieldAddr 3 0 (by kernel_rfl) Try.underlying31 rfl ty22 (by kernel_rfl)) []) ?_
                  refine aOne (i := 15) (v := .undef) rfl (by kernel_rfl) (by kernel_rfl) (by kernel_rfl) (by kernel_rfl) (by kernel_rfl) (by kernel_rfl) (by kernel_rfl) (Does.acts (k_store (vs := [.ref 6 (List.length (xs83 ++ ([r1] : List Int))) 0 (List.length (xs83 ++ ([r1] : List Int)))]) (H' := [.box [.d (.lit (List.map e_i64 x)), .d (.int .i64 x21)], .box [.d (.int .i64 0), .d (.int .i64 0), .d (.lit (List.map e_SPart p2))], .box [.nilc, .nilc], .box [.ref 5 (List.length (xs82 ++ ([xs112] : List (List Int)))) 0 (List.length (xs82 ++ ([xs112] : List (List Int)))), .ref 6 (List.length (xs83 ++ ([r1] : List Int))) 0 (List.length (xs83 ++ ([r1] : List Int)))], .sl 1 (List.map e_i64 xs112) true, .sl 1 (List.map e_Li64 (xs82 ++ ([xs112] : List (List Int)))) false, .sl 1 (List.map e_i64 (xs83 ++ ([r1] : List Int))) false, .sl 1 (List.map e_Li64 ([xs112] : List (List Int))) false, .sl 1 (List.map e_i64 ([0, 0, 0, 0, 1, 2] : List Int)) false, .sl 1 (List.map e_i64 ([r1] : List Int)) false]) 3 1 (by kernel_rfl) ty22 (by kernel_rfl) (by kernel_rfl) (by kernel_rfl))) (by kernel_rfl) ?_
                  refine aDone (by kernel_rfl) ?_
                  refine oHead [0, 2, 4, 6, 7, 8] [0, 1, 2, 3, 5, 6] (T' := [(0, .ptr 0 0), (2, .d (.int .i64 0)), (4, .ptr 1 0), (6, .ptr 2 0), (7, .ptr 3 0), (8, .d (.int .i64 i4))]) (H' := [.box [.d (.lit (List.map e_i64 x)), .d (.int .i64 x21)], .box [.d (.int .i64 0), .d (.int .i64 0), .d (.lit (List.map e_SPart p2))], .box [.nilc, .nilc], .box [.ref 4 (List.length (xs82 ++ ([xs112] : List (List Int)))) 0 (List.length (xs82 ++ ([xs112] : List (List Int)))), .ref 5 (List.length (xs83 ++ ([r1] : List Int))) 0 (List.length (xs83 ++ ([r1] : List Int)))], .sl 1 (List.map e_Li64 (xs82 ++ ([xs112] : List (List Int)))) false, .sl 1 (List.map e_i64 (xs83 ++ ([r1] : List Int))) false]) (by kernel_rfl) (by kernel_rfl) (by kernel_rfl) (by kernel_rfl) (by decide) (by kernel_rfl) (by kernel_rfl) ?_
                  exact hj72 (x21, (xs83 ++ ([r1] : List Int)))
                · refine sOne (i := 8) (v := .ref 8 (List.length ([0, 0, 0, 0, 1, 2] : List Int)) 0 (List.length ([0, 0, 0, 0, 1, 2] : List Int))) rfl (by kernel_rfl) (by kernel_rfl) (by kernel_rfl) (by kernel_rfl) (by kernel_rfl) (Does.acts (k_buildSlice (H' := [.box [.d (.lit (List.map e_i64 x)), .d (.int .i64 x145)], .box [.d (.int .i64 0), .d (.int .i64 0), .d (.lit (List.map e_SPart p2))], .box [.nilc, .nilc], .box [.ref 5 (List.length xs82) 0 (List.length xs82), .ref 6 (List.length xs83) 0 (List.length xs83)], .sl 1 (List.map e_i64 xs112) true, .sl 1 (List.map e_Li64 xs82) false, .sl 1 (List.map e_i64 xs83) false, .sl 1 (List.map e_Li64 ([xs112] : List (List Int))) false, .sl 1 (List.map e_i64 ([0, 0, 0, 0, 1, 2] : List Int)) false]) (List.map e_i64 ([0, 0, 0, 0, 1, 2] : List Int)) Try.underlying22 ty3 (by kernel_rfl) (by kernel_rfl) (by kernel_rfl))) (by kernel_rfl) ?_
                  refine aOne (i := 4) (v := .ref 5 (List.length (xs82 ++ ([xs112] : List (List Int)))) 0 (List.length (xs82 ++ ([xs112] : List (List Int))))) rfl (by kernel_rfl) (by kernel_rfl) (by kernel_rfl) (by kernel_rfl) (by kernel_rfl) (by kernel_rfl) (by kernel_rfl) (Does.acts (k_append (H' := [.box [.d (.lit (List.map e_i64 x)), .d (.int .i64 x145)], .box [.d (.int .i64 0), .d (.int .i64 0), .d (.lit (List.map e_SPart p2))], .box [.nilc, .nilc], .box [.ref 5 (List.length xs82) 0 (List.length xs82), .ref 6 (List.length xs83) 0 (List.length xs83)], .sl 1 (List.map e_i64 xs112) true, .sl 1 (List.map e_Li64 (xs82 ++ ([xs112] : List (List Int)))) false, .sl 1 (List.map e_i64 xs83) false, .sl 1 (List.map e_Li64 ([xs112] : List (List Int))) false, .sl 1 (List.map e_i64 ([0, 0, 0, 0, 1, 2] : List Int)) false]) (enc := e_Li64) 5 xs82 ([xs112] : List (List Int)) Try.underlying29 Try.underlying29 ty22 (by kernel_rfl) (by kernel_rfl) (by kernel_rfl) (holdsRef (enc := e_Li64) 7 ([xs112] : List (List Int)) false (by kernel_rfl) (by kernel_rfl)) h18 (by kernel_rfl))) (by kernel_rfl) ?_
                  refine aTakeL (i := 12) (st' := []) (.ptr 3 0) rfl (by kernel_rfl) (by kernel_rfl) (by kernel_rfl) (by kernel_rfl) (by kernel_rfl) (by kernel_rfl) (by kernel_rfl) (PureV.quiet (k_fieldAddr 3 0 (by kernel_rfl) Try.underlying31 rfl ty29 (by kernel_rfl)) []) ?_
                  refine dCall (i := 9) (caps := []) (v := (uc fun (r1 : Int) => (fun (x21 : Int) => (.d (.int .i64 r1) : V)))) (H' := (uc fun (r1 : Int) => (fun (x21 : Int) => ([.box [.d (.lit (List.map e_i64 x)), .d (.int .i64 x21)], .box [.d (.int .i64 0), .d (.int .i64 0), .d (.lit (List.map e_SPart p2))], .box [.nilc, .nilc], .box [.ref 5 (List.length xs82) 0 (List.length xs82), .ref 6 (List.length xs83) 0 (List.length xs83)], .sl 1 (List.map e_i64 xs112) true, .sl 1 (List.map e_Li64 (xs82 ++ ([xs112] : List (List Int)))) false, .sl 1 (List.map e_i64 xs83) false, .sl 1 (List.map e_Li64 ([xs112] : List (List Int))) false, .sl 1 (List.map e_i64 ([0, 0, 0, 0, 1, 2] : List Int)) false] : List Blk)))) [0, 8] _ (make_Tape_Pick_goes k x x145 ([0, 0, 0, 0, 1, 2] : List Int)) rfl (by kernel_rfl) (by kernel_rfl) (by kernel_rfl) (by kernel_rfl) (by kernel_rfl) (by kernel_rfl) (by kernel_rfl) (by kernel_rfl) rfl (by kernel_rfl) Try.func43 rfl (by kernel_rfl) (ConvRs.refl _ _) (by kernel_rfl) (by kernel_rfl) (by kernel_rfl) (by decide) (by kernel_rfl) (by kernel_rfl) (fun _ => (by kernel_rfl)) (fun _ => (by kernel_rfl)) (fun _ => (by kernel_rfl)) (fun r => ?_)
                  obtain ⟨r1, x21⟩ := r
                  refine dUc ?_
                  refine aOne (i := 10) (v := .ref 9 (List.length ([r1] : List Int)) 0 (List.length ([r1] : List Int))) rfl (by kernel_rfl) (by kernel_rfl) (by kernel_rfl) (by kernel_rfl) (by kernel_rfl) (by kernel_rfl) (by kernel_rfl) (Does.acts (k_buildSlice (H' := [.box [.d (.lit (List.map e_i64 x)), .d (.int .i64 x21)], .box [.d (.int .i64 0), .d (.int .i64 0), .d (.lit (List.map e_SPart p2))], .box [.nilc, .nilc], .box [.ref 5 (List.length xs82) 0 (List.length xs82), .ref 6 (List.length xs83) 0 (List.length xs83)], .sl 1 (List.map e_i64 xs112) true, .sl 1 (List.map e_Li64 (xs82 ++ ([xs112] : List (List Int)))) false, .sl 1 (List.map e_i64 xs83) false, .sl 1 (List.map e_Li64 ([xs112] : List (List Int))) false, .sl 1 (List.map e_i64 ([0, 0, 0, 0, 1, 2] : List Int)) false, .sl 1 (List.map e_i64 ([r1] : List Int)) false]) (List.map e_i64 ([r1] : List Int)) Try.underlying22 ty3 (by kernel_rfl) (by kernel_rfl) (by kernel_rfl))) (by kernel_rfl) ?_
                  refine dCap (fun h19 => ?_)
                  refine aOne (i := 11) (v := .ref 6 (List.length (xs83 ++ ([r1] : List Int))) 0 (List.length (xs83 ++ ([r1] : List Int)))) rfl (by kernel_rfl) (by kernel_rfl) (by kernel_rfl) (by kernel_rfl) (by kernel_rfl) (by kernel_rfl) (by kernel_rfl) (Does.acts (k_append (H' := [.box [.d (.lit (List.map e_i64 x)), .d (.int .i64 x21)], .box [.d (.int .i64 0), .d (.int .i64 0), .d (.lit (List.map e_SPart p2))], .box [.nilc, .nilc], .box [.ref 5 (List.length xs82) 0 (List.length xs82), .ref 6 (List.length xs83) 0 (List.length xs83)], .sl 1 (List.map e_i64 xs112) true, .sl 1 (List.map e_Li64 (xs82 ++ ([xs112] : List (List Int)))) false, .sl 1 (List.map e_i64 (xs83 ++ ([r1] : List Int))) false, .sl 1 (List.map e_Li64 ([xs112] : List (List Int))) false, .sl 1 (List.map e_i64 ([0, 0, 0, 0, 1, 2] : List Int)) false, .sl 1 (List.map e_i64 ([r1] : List Int)) false]) (enc := e_i64) 6 xs83 ([r1] : List Int) Try.underlying22 Try.underlying22 ty3 (by kernel_rfl) (by kernel_rfl) (by kernel_rfl) (holdsRef (enc := e_i64) 9 ([r1] : List Int) false (by kernel_rfl) (by kernel_rfl)) h19 (by kernel_rfl))) (by kernel_rfl) ?_
                  refine aOne (i := 13) (v := .undef) rfl (by kernel_rfl) (by kernel_rfl) (by kernel_rfl) (by kernel_rfl) (by kernel_rfl) (by kernel_rfl) (by kernel_rfl) (Does.acts (k_store (vs := [.ref 5 (List.length (xs82 ++ ([xs112] : List (List Int)))) 0 (List.length (xs82 ++ ([xs112] : List (List Int))))]) (H' := [.box [.d (.lit (List.map e_i64 x)), .d (.int .i64 x21)], .box [.d (.int .i64 0), .d (.int .i64 0), .d (.lit (List.map e_SPart p2))], .box [.nilc, .nilc], .box [.ref 5 (List.length (xs82 ++ ([xs112] : List (List Int)))) 0 (List.length (xs82 ++ ([xs112] : List (List Int)))), .ref 6 (List.length xs83) 0 (List.length xs83)], .sl 1 (List.map e_i64 xs112) true, .sl 1 (List.map e_Li64 (xs82 ++ ([xs112] : List (List Int)))) false, .sl 1 (List.map e_i64 (xs83 ++ ([r1] : List Int))) false, .sl 1 (List.map e_Li64 ([xs112] : List (List Int))) false, .sl 1 (List.map e_i64 ([0, 0, 0, 0, 1, 2] : List Int)) false, .sl 1 (List.map e_i64 ([r1] : List Int)) false]) 3 0 (by kernel_rfl) ty29 (by kernel_rfl) (by kernel_rfl) (by kernel_rfl))) (by kernel_rfl) ?_
                  refine aTakeL (i := 14) (st' := []) (.ptr 3 1) rfl (by kernel_rfl) (by kernel_rfl) (by kernel_rfl) (by kernel_rfl) (by kernel_rfl) (by kernel_rfl) (by kernel_rfl) (PureV.quiet (k_fieldAddr 3 0 (by kernel_rfl) Try.underlying31 rfl ty22 (by kernel_rfl)) []) ?_
                  refine aOne (i := 15) (v := .undef) rfl (by kernel_rfl) (by kernel_rfl) (by kernel_rfl) (by kernel_rfl) (by kernel_rfl) (by kernel_rfl) (by kernel_rfl) (Does.acts (k_store (vs := [.ref 6 (List.length (xs83 ++ ([r1] : List Int))) 0 (List.length (xs83 ++ ([r1] : List Int)))]) (H' := [.box [.d (.lit (List.map e_i64 x)), .d (.int .i64 x21)], .box [.d (.int .i64 0), .d (.int .i64 0), .d (.lit (List.map e_SPart p2))], .box [.nilc, .nilc], .box [.ref 5 (List.length (xs82 ++ ([xs112] : List (List Int)))) 0 (List.length (xs82 ++ ([xs112] : List (List Int)))), .ref 6 (List.length (xs83 ++ ([r1] : List Int))) 0 (List.length (xs83 ++ ([r1] : List Int)))], .sl 1 (List.map e_i64 xs112) true, .sl 1 (List.map e_Li64 (xs82 ++ ([xs112] : List (List Int)))) false, .sl 1 (List.map e_i64 (xs83 ++ ([r1] : List Int))) false, .sl 1 (List.map e_Li64 ([xs112] : List (List Int))) false, .sl 1 (List.map e_i64 ([0, 0, 0, 0, 1, 2] : List Int)) false, .sl 1 (List.map e_i64 ([r1] : List Int)) false]) 3 1 (by kernel_rfl) ty22 (by kernel_rfl) (by kernel_rfl) (by kernel_rfl))) (by kernel_rfl) ?_
                  refine aDone (by kernel_rfl) ?_
                  refine oHead [0, 2, 4, 6, 7, 8] [0, 1, 2, 3, 5, 6] (T' := [(0, .ptr 0 0), (2, .d (.int .i64 0)), (4, .ptr 1 0), (6, .ptr 2 0), (7, .ptr 3 0), (8, .d (.int .i64 i4))]) (H' := [.box [.d (.lit (List.map e_i64 x)), .d (.int .i64 x21)], .box [.d (.int .i64 0), .d (.int .i64 0), .d (.lit (List.map e_SPart p2))], .box [.nilc, .nilc], .box [.ref 4 (List.length (xs82 ++ ([xs112] : List (List Int)))) 0 (List.length (xs82 ++ ([xs112] : List (List Int)))), .ref 5 (List.length (xs83 ++ ([r1] : List Int))) 0 (List.length (xs83 ++ ([r1] : List Int)))], .sl 1 (List.map e_Li64 (xs82 ++ ([xs112] : List (List Int)))) false, .sl 1 (List.map e_i64 (xs83 ++ ([r1] : List Int))) false]) (by kernel_rfl) (by kernel_rfl) (by kernel_rfl) (by kernel_rfl) (by decide) (by kernel_rfl) (by kernel_rfl) ?_
                  exact hj72 (x21, (xs83 ++ ([r1] : List Int)))
              · refine sOne (i := 8) (v := .ref 7 (List.length ([0, 0, 0, 0, 1, 2] : List Int)) 0 (List.length ([0, 0, 0, 0, 1, 2] : List Int))) rfl (by kernel_rfl) (by kernel_rfl) (by kernel_rfl) (by kernel_rfl) (by kernel_rfl) (Does.acts (k_buildSlice (H' := [.box [.d (.lit (List.map e_i64 x)), .d (.int .i64 x145)], .box [.d (.int .i64 0), .d (.int .i64 0), .d (.lit (List.map e_SPart p2))], .box [.nilc, .nilc], .box [.ref 5 (List.length xs82) 0 (List.length xs82), .ref 6 (List.length xs83) 0 (List.length xs83)], .sl 1 (List.map e_i64 xs112) true, .sl 1 (List.map e_Li64 xs82) false, .sl 1 (List.map e_i64 xs83) false, .sl 1 (List.map e_i64 ([0, 0, 0, 0, 1, 2] : List Int)) false]) (List.map e_i64 ([0, 0, 0, 0, 1, 2] : List Int)) Try.underlying22 ty3 (by kernel_rfl) (by kernel_rfl) (by kernel_rfl))) (by kernel_rfl) ?_
                refine aOne (i := 3) (v := .ref 8 (List.length ([xs112] : List (List Int))) 0 (List.length ([xs112] : List (List Int)))) rfl (by kernel_rfl) (by kernel_rfl) (by kernel_rfl) (by kernel_rfl) (by kernel_rfl) (by kernel_rfl) (by kernel_rfl) (Does.acts (k_buildSlice (H' := [.box [.d (.lit (List.map e_i64 x)), .d (.int .i64 x145)], .box [.d (.int .i64 0), .d (.int .i64 0), .d (.lit (List.map e_SPart p2))], .box [.nilc, .nilc], .box [.ref 5 (List.length xs82) 0 (List.length xs82), .ref 6 (List.length xs83) 0 (List.length xs83)], .sl 1 (List.map e_i64 xs112) true, .sl 1 (List.map e_Li64 xs82) false, .sl 1 (List.map e_i64 xs83) false, .sl 1 (List.map e_i64 ([0, 0, 0, 0, 1, 2] : List Int)) false, .sl 1 (List.map e_Li64 ([xs112] : List (List Int))) false]) (List.map e_Li64 ([xs112] : List (List Int))) Try.underlying29 ty22 (by kernel_rfl) (by kernel_rfl) (by kernel_rfl))) (by kernel_rfl) ?_
                refine dCap (fun h18 => ?_)
                refine aOne (i := 4) (v := .ref 5 (List.length (xs82 ++ ([xs112] : List (List Int)))) 0 (List.length (xs82 ++ ([xs112] : List (List Int))))) rfl (by kernel_rfl) (by kernel_rfl) (by kernel_rfl) (by kernel_rfl) (by kernel_rfl) (by kernel_rfl) (by kernel_rfl) (Does.acts (k_append (H' := [.box [.d (.lit (List.map e_i64 x)), .d (.int .i64 x145)], .box [.d (.int .i64 0), .d (.int .i64 0), .d (.lit (List.map e_SPart p2))], .box [.nilc, .nilc], .box [.ref 5 (List.length xs82) 0 (List.length xs82), .ref 6 (List.length xs83) 0 (List.length xs83)], .sl 1 (List.map e_i64 xs112) true, .sl 1 (List.map e_Li64 (xs82 ++ ([xs112] : List (List Int)))) false, .sl 1 (List.map e_i64 xs83) false, .sl 1 (List.map e_i64 ([0, 0, 0, 0, 1, 2] : List Int)) false, .sl 1 (List.map e_Li64 ([xs112] : List (List Int))) false]) (enc := e_Li64) 5 xs82 ([xs112] : List (List Int)) Try.underlying29 Try.underlying29 ty22 (by kernel_rfl) (by kernel_rfl) (by kernel_rfl) (holdsRef (enc := e_Li64) 8 ([xs112] : List (List Int)) false (by kernel_rfl) (by kernel_rfl)) h18 (by kernel_rfl))) (by kernel_rfl) ?_
                refine aTakeL (i := 12) (st' := []) (.ptr 3 0) rfl (by kernel_rfl) (by kernel_rfl) (by kernel_rfl) (by kernel_rfl) (by kernel_rfl) (by kernel_rfl) (by kernel_rfl) (PureV.quiet (k_fieldAddr 3 0 (by kernel_rfl) Try.underlying31 rfl ty29 (by kernel_rfl)) []) ?_
                refine dCall (i := 9) (caps := []) (v := (uc fun (r1 : Int) => (fun (x21 : Int) => (.d (.int .i64 r1) : V)))) (H' := (uc fun (r1 : Int) => (fun (x21 : Int) => ([.box [.d (.lit (List.map e_i64 x)), .d (.int .i64 x21)], .box [.d (.int .i64 0), .d (.int .i64 0), .d (.lit (List.map e_SPart p2))], .box [.nilc, .nilc], .box [.ref 5 (List.length xs82) 0 (List.length xs82), .ref 6 (List.length xs83) 0 (List.length xs83)], .sl 1 (List.map e_i64 xs112) true, .sl 1 (List.map e_Li64 (xs82 ++ ([xs112] : List (List Int)))) false, .sl 1 (List.map e_i64 xs83) false, .sl 1 (List.map e_i64 ([0, 0, 0, 0, 1, 2] : List Int)) false, .sl 1 (List.map e_Li64 ([xs112] : List (List Int))) false] : List Blk)))) [0, 7] _ (make_Tape_Pick_goes k x x145 ([0, 0, 0, 0, 1, 2] : List Int)) rfl (by kernel_rfl) (by kernel_rfl) (by kernel_rfl) (by kernel_rfl) (by kernel_rfl) (by kernel_rfl) (by kernel_rfl) (by kernel_rfl) rfl (by kernel_rfl) Try.func43 rfl (by kernel_rfl) (ConvRs.refl _ _) (by kernel_rfl) (by kernel_rfl) (by kernel_rfl) (by decide) (by kernel_rfl) (by kernel_rfl) (fun _ => (by kernel_rfl)) (fun _ => (by kernel_rfl)) (fun _ => (by kernel_rfl)) (fun r => ?_)
                obtain ⟨r1, x21⟩ := r
                refine dUc ?_
                refine aOne (i := 10) (v := .ref 9 (List.length ([r1] : List Int)) 0 (List.length ([r1] : List Int))) rfl (by kernel_rfl) (by kernel_rfl) (by kernel_rfl) (by kernel_rfl) (by kernel_rfl) (by kernel_rfl) (by kernel_rfl) (Does.acts (k_buildSlice (H' := [.box [.d (.lit (List.map e_i64 x)), .d (.int .i64 x21)], .box [.d (.int .i64 0), .d (.int .i64 0), .d (.lit (List.map e_SPart p2))], .box [.nilc, .nilc], .box [.ref 5 (List.length xs82) 0 (List.length xs82), .ref 6 (List.length xs83) 0 (List.length xs83)], .sl 1 (List.map e_i64 xs112) true, .sl 1 (List.map e_Li64 (xs82 ++ ([xs112] : List (List Int)))) false, .sl 1 (List.map e_i64 xs83) false, .sl 1 (List.map e_i64 ([0, 0, 0, 0, 1, 2] : List Int)) false, .sl 1 (List.map e_Li64 ([xs112] : List (List Int))) false, .sl 1 (List.map e_i64 ([r1] : List Int)) false]) (List.map e_i64 ([r1] : List Int)) Try.underlying22 ty3 (by kernel_rfl) (by kernel_rfl) (by kernel_rfl))) (by kernel_rfl) ?_
                refine dCap (fun h19 => ?_)
                refine aOne (i := 11) (v := .ref 6 (List.length (xs83 ++ ([r1] : List Int))) 0 (List.length (xs83 ++ ([r1] : List Int)))) rfl (by kernel_rfl) (by kernel_rfl) (by kernel_rfl) (by kernel_rfl) (by kernel_rfl) (by kernel_rfl) (by kernel_rfl) (Does.acts (k_append (H' := [.box [.d (.lit (List.map e_i64 x)), .d (.int .i64 x21)], .box [.d (.int .i64 0), .d (.int .i64 0), .d (.lit (List.map e_SPart p2))], .box [.nilc, .nilc], .box [.ref 5 (List.length xs82) 0 (List.length xs82), .ref 6 (List.length xs83) 0 (List.length xs83)], .sl 1 (List.map e_i64 xs112) true, .sl 1 (List.map e_Li64 (xs82 ++ ([xs112] : List (List Int)))) false, .sl 1 (List.map e_i64 (xs83 ++ ([r1] : List Int))) false, .sl 1 (List.map e_i64 ([0, 0, 0, 0, 1, 2] : List Int)) false, .sl 1 (List.map e_Li64 ([xs112] : List (List Int))) false, .sl 1 (List.map e_i64 ([r1] : List Int)) false]) (enc := e_i64) 6 xs83 ([r1] : List Int) Try.underlying22 Try.underlying22 ty3 (by kernel_rfl) (by kernel_rfl) (by kernel_rfl) (holdsRef (enc := e_i64) 9 ([r1] : List Int) false (by kernel_rfl) (by kernel_rfl)) h19 (by kernel_rfl))) (by kernel_rfl) ?_
                refine aOne (i := 13) (v := .undef) rfl (by kernel_rfl) (by kernel_rfl) (by kernel_rfl) (by kernel_rfl) (by kernel_rfl) (by kernel_rfl) (by kernel_rfl) (Does.acts (k_store (vs := [.ref 5 (List.length (xs82 ++ ([xs112] : List (List Int)))) 0 (List.length (xs82 ++ ([xs112] : List (List Int))))]) (H' := [.box [.d (.lit (List.map e_i64 x)), .d (.int .i64 x21)], .box [.d (.int .i64 0), .d (.int .i64 0), .d (.lit (List.map e_SPart p2))], .box [.nilc, .nilc], .box [.ref 5 (List.length (xs82 ++ ([xs112] : List (List Int)))) 0 (List.length (xs82 ++ ([xs112] : List (List Int)))), .ref 6 (List.length xs83) 0 (List.length xs83)], .sl 1 (List.map e_i64 xs112) true, .sl 1 (List.map e_Li64 (xs82 ++ ([xs112] : List (List Int)))) false, .sl 1 (List.map e_i64 (xs83 ++ ([r1] : List Int))) false, .sl 1 (List.map e_i64 ([0, 0, 0, 0, 1, 2] : List Int)) false, .sl 1 (List.map e_Li64 ([xs112] : List (List Int))) false, .sl 1 (List.map e_i64 ([r1] : List Int)) false]) 3 0 (by kernel_rfl) ty29 (by kernel_rfl) (by kernel_rfl) (by kernel_rfl))) (by kernel_rfl) ?_
                refine aTakeL (i := 14) (st' := []) (.ptr 3 1) rfl (by kernel_rfl) (by kernel_rfl) (by kernel_rfl) (by kernel_rfl) (by kernel_rfl) (by kernel_rfl) (by kernel_rfl) (PureV.quiet (k_fieldAddr 3 0 (by kernel_rfl) Try.underlying31 rfl ty22 (by kernel_rfl)) []) ?_
                refine aOne (i := 15) (v := .undef) rfl (by kernel_rfl) (by kernel_rfl) (by kernel_rfl) (by kernel_rfl) (by kernel_rfl) (by kernel_rfl) (by kernel_rfl) (Does.acts (k_store (vs := [.ref 6 (List.length (xs83 ++ ([r1] : List Int))) 0 (List.length (xs83 ++ ([r1] : List Int)))]) (H' := [.box [.d (.lit (List.map e_i64 x)), .d (.int .i64 x21)], .box [.d (.int .i64 0), .d (.int .i64 0), .d (.lit (List.map e_SPart p2))], .box [.nilc, .nilc], .box [.ref 5 (List.length (xs82 ++ ([xs112] : List (List Int)))) 0 (List.length (xs82 ++ ([xs112] : List (List Int)))), .ref 6 (List.length (xs83 ++ ([r1] : List Int))) 0 (List.length (xs83 ++ ([r1] : List Int)))], .sl 1 (List.map e_i64 xs112) true, .sl 1 (List.map e_Li64 (xs82 ++ ([xs112] : List (List Int)))) false, .sl 1 (List.map e_i64 (xs83 ++ ([r1] : List Int))) false, .sl 1 (List.map e_i64 ([0, 0, 0, 0, 1, 2] : List Int)) false, .sl 1 (List.map e_Li64 ([xs112] : List (List Int))) false, .sl 1 (List.map e_i64 ([r1] : List Int)) false]) 3 1 (by kernel_rfl) ty22 (by kernel_rfl) (by kernel_rfl) (by kernel_rfl))) (by kernel_rfl) ?_
                refine aDone (by kernel_rfl) ?_
                refine oHead [0, 2, 4, 6, 7, 8] [0, 1, 2, 3, 5, 6] (T' := [(0, .ptr 0 0), (2, .d (.int .i64 0)), (4, .ptr 1 0), (6, .ptr 2 0), (7, .ptr 3 0), (8, .d (.int .i64 i4))]) (H' := [.box [.d (.lit (List.map e_i64 x)), .d (.int .i64 x21)], .box [.d (.int .i64 0), .d (.int .i64 0), .d (.lit (List.map e_SPart p2))], .box [.nilc, .nilc], .box [.ref 4 (List.length (xs82 ++ ([xs112] : List (List Int)))) 0 (List.length (xs82 ++ ([xs112] : List (List Int)))), .ref 5 (List.length (xs83 ++ ([r1] : List Int))) 0 (List.length (xs83 ++ ([r1] : List Int)))], .sl 1 (List.map e_Li64 (xs82 ++ ([xs112] : List (List Int)))) false, .sl 1 (List.map e_i64 (xs83 ++ ([r1] : List Int))) false]) (by kernel_rfl) (by kernel_rfl) (by kernel_rfl) (by kernel_rfl) (by decide) (by kernel_rfl) (by kernel_rfl) ?_
                exact hj72 (x21, (xs83 ++ ([r1] : List Int)))
          · refine bSplit 30 (by kernel_rfl) (fun hc => ?_) (fun hc => ?_)
            · refine oCondT (by kernel_rfl) ?_
              refine oSeq ?_
              refine oRegion rfl ?_
              refine oOp (.d (.int .i64 0)) (by kernel_rfl) (by kernel_rfl) (PureV.does (p_assign (by kernel_rfl))) ?_
              refine oEnd ?_
              refine bJoin ((uc fun (x151 : Int) => (fun (xs118 : (List Int)) => [(0, .ptr 0 0), (2, .d (.int .i64 0)), (4, .ptr 1 0), (6, .ptr 2 0), (7, .ptr 3 0), (8, .d (.int .i64 i4)), (9, .ref 4 (List.length xs118) 0 (List.length xs118))]))) ((uc fun (x151 : Int) => (fun (xs118 : (List Int)) => [.box [.d (.lit (List.map e_i64 x)), .d (.int .i64 x151)], .box [.d (.int .i64 0), .d (.int .i64 0), .d (.lit (List.map e_SPart p2))], .box [.nilc, .nilc], .box [.ref 5 (List.length xs82) 0 (List.length xs82), .ref 6 (List.length xs83) 0 (List.length xs83)], .sl 1 (List.map e_i64 xs118) false, .sl 1 (List.map e_Li64 xs82) false, .sl 1 (List.map e_i64 xs83) false]))) (fun s => s) (fun s => ?_) (fun hj75 => ?_)
              · obtain ⟨x151, xs118⟩ := s
                refine bUc ?_
                refine oView (T' := [(0, .ptr 0 0), (2, .d (.int .i64 0)), (4, .ptr 1 0), (6, .ptr 2 0), (7, .ptr 3 0), (8, .d (.int .i64 i4)), (9, .ref 4 (List.length xs118) 0 (List.length xs118))]) (H' := [.box [.d (.lit (List.map e_i64 x)), .d (.int .i64 x151)], .box [.d (.int .i64 0), .d (.int .i64 0), .d (.lit (List.map e_SPart p2))], .box [.nilc, .nilc], .box [.ref 5 (List.length xs82) 0 (List.length xs82), .ref 6 (List.length xs83) 0 (List.length xs83)], .sl 1 (List.map e_i64 xs118) false, .sl 1 (List.map e_Li64 xs82) false, .sl 1 (List.map e_i64 xs83) false]) (by kernel_rfl) (by kernel_rfl) ?_
                refine oHead [0, 2, 4, 6, 7, 8, 9] [0, 1, 2, 3, 4, 5, 6] (T' := [(0, .ptr 0 0), (2, .d (.int .i64 0)), (4, .ptr 1 0), (6, .ptr 2 0), (7, .ptr 3 0), (8, .d (.int .i64 i4)), (9, .ref 4 (List.length xs118) 0 (List.length xs118))]) (H' := [.box [.d (.lit (List.map e_i64 x)), .d (.int .i64 x151)], .box [.d (.int .i64 0), .d (.int .i64 0), .d (.lit (List.map e_SPart p2))], .box [.nilc, .nilc], .box [.ref 5 (List.length xs82) 0 (List.length xs82), .ref 6 (List.length xs83) 0 (List.length xs83)], .sl 1 (List.map e_i64 xs118) false, .sl 1 (List.map e_Li64 xs82) false, .sl 1 (List.map e_i64 xs83) false]) (by kernel_rfl) (by kernel_rfl) (by kernel_rfl) (by kernel_rfl) (by decide) (by kernel_rfl) (by kernel_rfl) ?_
                exact hj71 (x151, xs118)
              · refine oBlock ?_
                refine oLoop ?_
                refine oVirt (esz := 1) 9 (by kernel_rfl) ?_
                refine oView (H' := [.box [.d (.lit (List.map e_i64 x)), .d (.int .i64 x139)], .box [.d (.int .i64 0), .d (.int .i64 0), .d (.lit (List.map e_SPart p2))], .box [.nilc, .nilc], .box [.ref 4 (List.length xs82) 0 (List.length xs82), .ref 5 (List.length xs83) 0 (List.length xs83)], .sl 1 (List.map e_Li64 xs82) false, .sl 1 (List.map e_i64 xs83) false, .sl 1 (List.map e_i64 ([] : List Int)) false]) rfl (by kernel_rfl) ?_
                refine oHead [0, 2, 4, 6, 7, 8, 9, 10] [0, 1, 2, 3, 6, 4, 5] (T' := [(0, .ptr 0 0), (2, .d (.int .i64 0)), (4, .ptr 1 0), (6, .ptr 2 0), (7, .ptr 3 0), (8, .d (.int .i64 i4)), (9, .ref 4 (List.length ([] : List Int)) 0 (List.length ([] : List Int))), (10, .d (.int .i64 0))]) (H' := [.box [.d (.lit (List.map e_i64 x)), .d (.int .i64 x139)], .box [.d (.int .i64 0), .d (.int .i64 0), .d (.lit (List.map e_SPart p2))], .box [.nilc, .nilc], .box [.ref 5 (List.length xs82) 0 (List.length xs82), .ref 6 (List.length xs83) 0 (List.length xs83)], .sl 1 (List.map e_i64 ([] : List Int)) false, .sl 1 (List.map e_Li64 xs82) false, .sl 1 (List.map e_i64 xs83) false]) (by kernel_rfl) (by kernel_rfl) (by kernel_rfl) (by kernel_rfl) (by decide) (by kernel_rfl) (by kernel_rfl) ?_
                refine bLoop (body := make_Tape_Scheme_b2 k p2 x i4) ((uc fun (k130 : Int) => (uc fun (x153 : Int) => (fun (xs120 : (List Int)) => [(0, .ptr 0 0), (2, .d (.int .i64 0)), (4, .ptr 1 0), (6, .ptr 2 0), (7, .ptr 3 0), (8, .d (.int .i64 i4)), (9, .ref 4 (List.length xs120) 0 (List.length xs120)), (10, .d (.int .i64 k130))])))) ((uc fun (k130 : Int) => (uc fun (x153 : Int) => (fun (xs120 : (List Int)) => [.box [.d (.lit (List.map e_i64 x)), .d (.int .i64 x153)], .box [.d (.int .i64 0), .d (.int .i64 0), .d (.lit (List.map e_SPart p2))], .box [.nilc, .nilc], .box [.ref 5 (List.length xs82) 0 (List.length xs82), .ref 6 (List.length xs83) 0 (List.length xs83)], .sl 1 (List.map e_i64 xs120) false, .sl 1 (List.map e_Li64 xs82) false, .sl 1 (List.map e_i64 xs83) false])))) (fun again hag2 s => ?_) k (0, x139, ([] : List Int))
                · unfold make_Tape_Scheme_b2
                  obtain ⟨k130, x153, xs120⟩ := s
                  refine bUc ?_
                  refine bUc ?_
                  refine oView (T' := [(0, .ptr 0 0), (2, .d (.int .i64 0)), (4, .ptr 1 0), (6, .ptr 2 0), (7, .ptr 3 0), (8, .d (.int .i64 i4)), (9, .ref 4 (List.length xs120) 0 (List.length xs120)), (10, .d (.int .i64 k130))]) (H' := [.box [.d (.lit (List.map e_i64 x)), .d (.int .i64 x153)], .box [.d (.int .i64 0), .d (.int .i64 0), .d (.lit (List.map e_SPart p2))], .box [.nilc, .nilc], .box [.ref 5 (List.length xs82) 0 (List.length xs82), .ref 6 (List.length xs83) 0 (List.length xs83)], .sl 1 (List.map e_i64 xs120) false, .sl 1 (List.map e_Li64 xs82) false, .sl 1 (List.map e_i64 xs83) false]) (by kernel_rfl) (by kernel_rfl) ?_
                  refine oSeq ?_
                  refine oSeq ?_
                  refine oRegion rfl ?_
                  refine oOp (.d (.int .i64 k130)) (by kernel_rfl) (by kernel_rfl) (PureV.does (p_move (by kernel_rfl))) ?_
                  refine oOp (.ptr 1 2) (by kernel_rfl) (by kernel_rfl) (PureV.does (k_fieldAddr 1 0 (by kernel_rfl) Try.underlying27 rfl ty25 (by kernel_rfl))) ?_
                  refine oOp (.d (.lit (List.map e_SPart p2))) (by kernel_rfl) (by kernel_rfl) (Quiet.does (k_load 1 2 (by kernel_rfl) Try.underlying25 (by kernel_rfl) (by kernel_rfl))) ?_
                  refine oOp (.d (.int .i64 i4)) (by kernel_rfl) (by kernel_rfl) (PureV.does (p_move (by kernel_rfl))) ?_
                  refine bIdx (fun e146 h1126 h1127 => ?_)
                  refine oOp (.lptr (e_SPart e146) 0) (by kernel_rfl) (by kernel_rfl) (PureV.does (k_idxLit e_SPart_len p2 (a := e146) (by kernel_rfl) (k := .i64) (i := i4) (by kernel_rfl) Try.underlying25 ty49 h1126 h1127)) ?_
                  refine oOp (.lptr (e_SPart e146) 4) (by kernel_rfl) (by kernel_rfl) (PureV.does (k_fieldAddrL (cells := e_SPart e146) 0 (by kernel_rfl) Try.underlying49 rfl ty3 (by kernel_rfl))) ?_
                  refine oOp (.d (.int .i64 e146.Options)) (by kernel_rfl) (by kernel_rfl) (Quiet.does (k_loadL (cells := e_SPart e146) 4 (by kernel_rfl) Try.underlying3 (by kernel_rfl) (by kernel_rfl))) ?_
                  refine oOp (.d (.bool (decide (k130 < e146.Options)))) (by kernel_rfl) (by kernel_rfl) (PureV.does (p_int (k := .i64) (p := k130) (q := e146.Options) (by kernel_rfl) (by kernel_rfl) (by kernel_rfl))) ?_
                  refine oEnd ?_
                  refine bSplit 38 (by kernel_rfl) (fun hc => ?_) (fun hc => ?_)
                  · refine oCondT (by kernel_rfl) ?_
                    refine oSkip ?_
                    refine oSeq ?_
                    refine bJoin ((uc fun (x156 : Int) => (fun (xs123 : (List Int)) => [(0, .ptr 0 0), (2, .d (.int .i64 0)), (4, .ptr 1 0), (6, .ptr 2 0), (7, .ptr 3 0), (8, .d (.int .i64 i4)), (9, .ref 4 (List.length xs123) 0 (List.length xs123)), (10, .d (.int .i64 k130))]))) ((uc fun (x156 : Int) => (fun (xs123 : (List Int)) => [.box [.d (.lit (List.map e_i64 x)), .d (.int .i64 x156)], .box [.d (.int .i64 0), .d (.int .i64 0), .d (.lit (List.map e_SPart p2))], .box [.nilc, .nilc], .box [.ref 5 (List.length xs82) 0 (List.length xs82), .ref 6 (List.length xs83) 0 (List.length xs83)], .sl 1 (List.map e_i64 xs123) false, .sl 1 (List.map e_Li64 xs82) false, .sl 1 (List.map e_i64 xs83) false]))) (fun s => s) (fun s => ?_) (fun hj78 => ?_)
                    · obtain ⟨x156, xs123⟩ := s
                      refine bUc ?_
                      refine oView (T' := [(0, .ptr 0 0), (2, .d (.int .i64 0)), (4, .ptr 1 0), (6, .ptr 2 0), (7, .ptr 3 0), (8, .d (.int .i64 i4)), (9, .ref 4 (List.length xs123) 0 (List.length xs123)), (10, .d (.int .i64 k130))]) (H' := [.box [.d (.lit (List.map e_i64 x)), .d (.int .i64 x156)], .box [.d (.int .i64 0), .d (.int .i64 0), .d (.lit (List.map e_SPart p2))], .box [.nilc, .nilc], .box [.ref 5 (List.length xs82) 0 (List.length xs82), .ref 6 (List.length xs83) 0 (List.length xs83)], .sl 1 (List.map e_i64 xs123) false, .sl 1 (List.map e_Li64 xs82) false, .sl 1 (List.map e_i64 xs83) false]) (by kernel_rfl) (by kernel_rfl) ?_
                      refine oRegion rfl ?_
                      refine oOp (.d (.int .i64 k130)) (by kernel_rfl) (by kernel_rfl) (PureV.does (p_move (by kernel_rfl))) ?_
                      refine oOp (.d (.int .i64 (IntKind.wrap .i64 (k130 + 1)))) (by kernel_rfl) (by kernel_rfl) (PureV.does (p_int (k := .i64) (p := k130) (q := 1) (by kernel_rfl) (by kernel_rfl) (by kernel_rfl))) ?_
                      refine oOp (.d (.int .i64 (IntKind.wrap .i64 (k130 + 1)))) (by kernel_rfl) (by kernel_rfl) (PureV.does (p_assign (by kernel_rfl))) ?_
                      refine oEnd ?_
                      refine oAgain ?_
                      refine oHead [0, 2, 4, 6, 7, 8, 9, 10] [0, 1, 2, 3, 4, 5, 6] (T' := [(0, .ptr 0 0), (2, .d (.int .i64 0)), (4, .ptr 1 0), (6, .ptr 2 0), (7, .ptr 3 0), (8, .d (.int .i64 i4)), (9, .ref 4 (List.length xs123) 0 (List.length xs123)), (10, .d (.int .i64 (IntKind.wrap .i64 (k130 + 1))))]) (H' := [.box [.d (.lit (List.map e_i64 x)), .d (.int .i64 x156)], .box [.d (.int .i64 0), .d (.int .i64 0), .d (.lit (List.map e_SPart p2))], .box [.nilc, .nilc], .box [.ref 5 (List.length xs82) 0 (List.length xs82), .ref 6 (List.length xs83) 0 (List.length xs83)], .sl 1 (List.map e_i64 xs123) false, .sl 1 (List.map e_Li64 xs82) false, .sl 1 (List.map e_i64 xs83) false]) (by kernel_rfl) (by kernel_rfl) (by kernel_rfl) (by kernel_rfl) (by decide) (by kernel_rfl) (by kernel_rfl) ?_
                      exact hag2 ((IntKind.wrap .i64 (k130 + 1)), x156, xs123)
                    · refine oBlock ?_
                      refine oSeq ?_
                      refine oRegion rfl ?_
                      refine oOp (.ptr 0 0) (by kernel_rfl) (by kernel_rfl) (PureV.does (p_move (by kernel_rfl))) ?_
                      refine bCall (caps := []) (v := (uc fun (r1247 : Int) => (fun (x348 : Int) => (.d (.int .i64 r1247) : V)))) (H' := (uc fun (r1247 : Int) => (fun (x348 : Int) => ([.box [.d (.lit (List.map e_i64 x)), .d (.int .i64 x348)], .box [.d (.int .i64 0), .d (.int .i64 0), .d (.lit (List.map e_SPart p2))], .box [.nilc, .nilc], .box [.ref 5 (List.length xs82) 0 (List.length xs82), .ref 6 (List.length xs83) 0 (List.length xs83)], .sl 1 (List.map e_i64 xs120) false, .sl 1 (List.map e_Li64 xs82) false, .sl 1 (List.map e_i64 xs83) false] : List Blk)))) [0] _ (make_Tape_Next_goes k 2 x x153) (by kernel_rfl) (by kernel_rfl) rfl (by kernel_rfl) Try.func39 rfl (by kernel_rfl) (ConvRs.refl _ _) (by kernel_rfl) (by kernel_rfl) (by kernel_rfl) (by decide) (by kernel_rfl) (by kernel_rfl) (fun _ => (by kernel_rfl)) (fun _ => (by kernel_rfl)) (fun _ => (by kernel_rfl)) (fun r => ?_)
                      obtain ⟨r1247, x348⟩ := r
                      refine bUc ?_
                      refine oOp (.d (.bool (r1247 == 0))) (by kernel_rfl) (by kernel_rfl) (PureV.does (p_int (k := .i64) (p := r1247) (q := 0) (by kernel_rfl) (by kernel_rfl) (by kernel_rfl))) ?_
                      refine oEnd ?_
                      refine bSplit 43 (by kernel_rfl) (fun hc => ?_) (fun hc => ?_)
                      · refine oCondT (by kernel_rfl) ?_
                        refine oRegion rfl ?_
                        refine oOp (.ref 4 (List.length xs120) 0 (List.length xs120)) (by kernel_rfl) (by kernel_rfl) (PureV.does (p_move (by kernel_rfl))) ?_
                        refine oOp (.d (.int .i64 k130)) (by kernel_rfl) (by kernel_rfl) (PureV.does (p_move (by kernel_rfl))) ?_
                        refine oOp (.ref 7 (List.length ([k130] : List Int)) 0 (List.length ([k130] : List Int))) (by kernel_rfl) (by kernel_rfl) (k_buildSlice (H' := [.box [.d (.lit (List.map e_i64 x)), .d (.int .i64 x348)], .box [.d (.int .i64 0), .d (.int .i64 0), .d (.lit (List.map e_SPart p2))], .box [.nilc, .nilc], .box [.ref 5 (List.length xs82) 0 (List.length xs82), .ref 6 (List.length xs83) 0 (List.length xs83)], .sl 1 (List.map e_i64 xs120) false, .sl 1 (List.map e_Li64 xs82) false, .sl 1 (List.map e_i64 xs83) false, .sl 1 (List.map e_i64 ([k130] : List Int)) false]) (List.map e_i64 ([k130] : List Int)) Try.underlying22 ty3 (by kernel_rfl) (by kernel_rfl) (by kernel_rfl)) ?_
                        refine bCap (fun h1129 => ?_)
                        refine oOp (.ref 4 (List.length (xs120 ++ ([k130] : List Int))) 0 (List.length (xs120 ++ ([k130] : List Int)))) (by kernel_rfl) (by kernel_rfl) (k_append (H' := [.box [.d (.lit (List.map e_i64 x)), .d (.int .i64 x348)], .box [.d (.int .i64 0), .d (.int .i64 0), .d (.lit (List.map e_SPart p2))], .box [.nilc, .nilc], .box [.ref 5 (List.length xs82) 0 (List.length xs82), .ref 6 (List.length xs83) 0 (List.length xs83)], .sl 1 (List.map e_i64 (xs120 ++ ([k130] : List Int))) false, .sl 1 (List.map e_Li64 xs82) false, .sl 1 (List.map e_i64 xs83) false, .sl 1 (List.map e_i64 ([k130] : List Int)) false]) (enc := e_i64) 4 xs120 ([k130] : List Int) Try.underlying22 Try.underlying22 ty3 (by kernel_rfl) (by kernel_rfl) (by kernel_rfl) (holdsRef (enc := e_i64) 7 ([k130] : List Int) false (by kernel_rfl) (by kernel_rfl)) h1129 (by kernel_rfl)) ?_
                        refine oOp (.ref 4 (List.length (xs120 ++ ([k130] : List Int))) 0 (List.length (xs120 ++ ([k130] : List Int)))) (by kernel_rfl) (by kernel_rfl) (PureV.does (p_assign (by kernel_rfl))) ?_
                        refine oEnd ?_
                        refine oBlk ?_
                        refine oHead [0, 2, 4, 6, 7, 8, 9, 10] [0, 1, 2, 3, 4, 5, 6] (T' := [(0, .ptr 0 0), (2, .d (.int .i64 0)), (4, .ptr 1 0), (6, .ptr 2 0), (7, .ptr 3 0), (8, .d (.int .i64 i4)), (9, .ref 4 (List.length (xs120 ++ ([k130] : List Int))) 0 (List.length (xs120 ++ ([k130] : List Int)))), (10, .d (.int .i64 k130))]) (H' := [.box [.d (.lit (List.map e_i64 x)), .d (.int .i64 x348)], .box [.d (.int .i64 0), .d (.int .i64 0), .d (.lit (List.map e_SPart p2))], .box [.nilc, .nilc], .box [.ref 5 (List.length xs82) 0 (List.length xs82), .ref 6 (List.length xs83) 0 (List.length xs83)], .sl 1 (List.map e_i64 (xs120 ++ ([k130] : List Int))) false, .sl 1 (List.map e_Li64 xs82) false, .sl 1 (List.map e_i64 xs83) false]) (by kernel_rfl) (by kernel_rfl) (by kernel_rfl) (by kernel_rfl) (by decide) (by kernel_rfl) (by kernel_rfl) ?_
                        exact hj78 (x348, (xs120 ++ ([k130] : List Int)))
                      · refine oCondF (by kernel_rfl) ?_
                        refine oSkip ?_
                        refine oBlk ?_
                        refine oHead [0, 2, 4, 6, 7, 8, 9, 10] [0, 1, 2, 3, 4, 5, 6] (T' := [(0, .ptr 0 0), (2, .d (.int .i64 0)), (4, .ptr 1 0), (6, .ptr 2 0), (7, .ptr 3 0), (8, .d (.int .i64 i4)), (9, .ref 4 (List.length xs120) 0 (List.length xs120)), (10, .d (.int .i64 k130))]) (H' := [.box [.d (.lit (List.map e_i64 x)), .d (.int .i64 x348)], .box [.d (.int .i64 0), .d (.int .i64 0), .d (.lit (List.map e_SPart p2))], .box [.nilc, .nilc], .box [.ref 5 (List.length xs82) 0 (List.length xs82), .ref 6 (List.length xs83) 0 (List.length xs83)], .sl 1 (List.map e_i64 xs120) false, .sl 1 (List.map e_Li64 xs82) false, .sl 1 (List.map e_i64 xs83) false]) (by kernel_rfl) (by kernel_rfl) (by kernel_rfl) (by kernel_rfl) (by decide) (by kernel_rfl) (by kernel_rfl) ?_
                        exact hj78 (x348, xs120)
                  · refine oCondF (by kernel_rfl) ?_
                    refine oExit rfl ?_
                    refine oHead [0, 2, 4, 6, 7, 8, 9] [0, 1, 2, 3, 4, 5, 6] (T' := [(0, .ptr 0 0), (2, .d (.int .i64 0)), (4, .ptr 1 0), (6, .ptr 2 0), (7, .ptr 3 0), (8, .d (.int .i64 i4)), (9, .ref 4 (List.length xs120) 0 (List.length xs120))]) (H' := [.box [.d (.lit (List.map e_i64 x)), .d (.int .i64 x153)], .box [.d (.int .i64 0), .d (.int .i64 0), .d (.lit (List.map e_SPart p2))], .box [.nilc, .nilc], .box [.ref 5 (List.length xs82) 0 (List.length xs82), .ref 6 (List.length xs83) 0 (List.length xs83)], .sl 1 (List.map e_i64 xs120) false, .sl 1 (List.map e_Li64 xs82) false, .sl 1 (List.map e_i64 xs83) false]) (by kernel_rfl) (by kernel_rfl) (by kernel_rfl) (by kernel_rfl) (by decide) (by kernel_rfl) (by kernel_rfl) ?_
                    exact hj75 (x153, xs120)
            · refine oCondF (by kernel_rfl) ?_
              refine oSkip ?_
              refine oVirt (esz := 1) 9 (by kernel_rfl) ?_
              refine oView (H' := [.box [.d (.lit (List.map e_i64 x)), .d (.int .i64 x139)], .box [.d (.int .i64 0), .d (.int .i64 0), .d (.lit (List.map e_SPart p2))], .box [.nilc, .nilc], .box [.ref 4 (List.length xs82) 0 (List.length xs82), .ref 5 (List.length xs83) 0 (List.length xs83)], .sl 1 (List.map e_Li64 xs82) false, .sl 1 (List.map e_i64 xs83) false, .sl 1 (List.map e_i64 ([] : List Int)) false]) rfl (by kernel_rfl) ?_
              refine oHead [0, 2, 4, 6, 7, 8, 9] [0, 1, 2, 3, 6, 4, 5] (T' := [(0, .ptr 0 0), (2, .d (.int .i64 0)), (4, .ptr 1 0), (6, .ptr 2 0), (7, .ptr 3 0), (8, .d (.int .i64 i4)), (9, .ref 4 (List.length ([] : List Int)) 0 (List.length ([] : List Int)))]) (H' := [.box [.d (.lit (List.map e_i64 x)), .d (.int .i64 x139)], .box [.d (.int .i64 0), .d (.int .i64 0), .d (.lit (List.map e_SPart p2))], .box [.nilc, .nilc], .box [.ref 5 (List.length xs82) 0 (List.length xs82), .ref 6 (List.length xs83) 0 (List.length xs83)], .sl 1 (List.map e_i64 ([] : List Int)) false, .sl 1 (List.map e_Li64 xs82) false, .sl 1 (List.map e_i64 xs83) false]) (by kernel_rfl) (by kernel_rfl) (by kernel_rfl) (by kernel_rfl) (by decide) (by kernel_rfl) (by kernel_rfl) ?_
              exact hj71 (x139, ([] : List Int))
        · refine bSplit 26 (by kernel_rfl) (fun hc => ?_) (fun hc => ?_)
          · refine oOp (.ptr 0 0) (by kernel_rfl) (by kernel_rfl) (PureV.does (p_move (by kernel_rfl))) ?_
            refine bCall (caps := []) (v := (uc fun (r1248 : Int) => (fun (x349 : Int) => (.d (.int .i64 r1248) : V)))) (H' := (uc fun (r1248 : Int) => (fun (x349 : Int) => ([.box [.d (.lit (List.map e_i64 x)), .d (.int .i64 x349)], .box [.d (.int .i64 0), .d (.int .i64 0), .d (.lit (List.map e_SPart p2))], .box [.nilc, .nilc], .box [.ref 4 (List.length xs82) 0 (List.length xs82), .ref 5 (List.length xs83) 0 (List.length xs83)], .sl 1 (List.map e_Li64 xs82) false, .sl 1 (List.map e_i64 xs83) false] : List Blk)))) [0] _ (make_Tape_Next_goes k 3 x x109) (by kernel_rfl) (by kernel_rfl) rfl (by kernel_rfl) Try.func39 rfl (by kernel_rfl) (ConvRs.refl _ _) (by kernel_rfl) (by kernel_rfl) (by kernel_rfl) (by decide) (by kernel_rfl) (by kernel_rfl) (fun _ => (by kernel_rfl)) (fun _ => (by kernel_rfl)) (fun _ => (by kernel_rfl)) (fun r => ?_)
            obtain ⟨r1248, x349⟩ := r
            refine bUc ?_
            refine oOp (.d (.bool (r1248 == 0))) (by kernel_rfl) (by kernel_rfl) (PureV.does (p_int (k := .i64) (p := r1248) (q := 0) (by kernel_rfl) (by kernel_rfl) (by kernel_rfl))) ?_
            refine oOp (.d (.bool (r1248 == 0))) (by kernel_rfl) (by kernel_rfl) (PureV.does (p_pick (b := true) (by kernel_rfl) (by kernel_rfl))) ?_
            refine oHead [0, 2, 4, 6, 7, 8, 9, 30] [0, 1, 2, 3, 4, 5] (T' := [(0, .ptr 0 0), (2, .d (.int .i64 0)), (4, .ptr 1 0), (6, .ptr 2 0), (7, .ptr 3 0), (8, .d (.int .i64 i4)), (9, .nilc), (30, .d (.bool (r1248 == 0)))]) (H' := [.box [.d (.lit (List.map e_i64 x)), .d (.int .i64 x349)], .box [.d (.int .i64 0), .d (.int .i64 0), .d (.lit (List.map e_SPart p2))], .box [.nilc, .nilc], .box [.ref 4 (List.length xs82) 0 (List.length xs82), .ref 5 (List.length xs83) 0 (List.length xs83)], .sl 1 (List.map e_Li64 xs82) false, .sl 1 (List.map e_i64 xs83) false]) (by kernel_rfl) (by kernel_rfl) (by kernel_rfl) (by kernel_rfl) (by decide) (by kernel_rfl) (by kernel_rfl) ?_
            exact hj79 ((r1248 == 0), x349)
          · refine oNot (by kernel_rfl) (by kernel_rfl) ?_
            refine oNot (by kernel_rfl) (by kernel_rfl) ?_
            refine oNot (by kernel_rfl) (by kernel_rfl) ?_
            refine oOp (.d (.bool false)) (by kernel_rfl) (by kernel_rfl) (PureV.does (p_pick (b := false) (by kernel_rfl) (by kernel_rfl))) ?_
            refine oHead [0, 2, 4, 6, 7, 8, 9, 30] [0, 1, 2, 3, 4, 5] (T' := [(0, .ptr 0 0), (2, .d (.int .i64 0)), (4, .ptr 1 0), (6, .ptr 2 0), (7, .ptr 3 0), (8, .d (.int .i64 i4)), (9, .nilc), (30, .d (.bool false))]) (H' := [.box [.d (.lit (List.map e_i64 x)), .d (.int .i64 x109)], .box [.d (.int .i64 0), .d (.int .i64 0), .d (.lit (List.map e_SPart p2))], .box [.nilc, .nilc], .box [.ref 4 (List.length xs82) 0 (List.length xs82), .ref 5 (List.length xs83) 0 (List.length xs83)], .sl 1 (List.map e_Li64 xs82) false, .sl 1 (List.map e_i64 xs83) false]) (by kernel_rfl) (by kernel_rfl) (by kernel_rfl) (by kernel_rfl) (by decide) (by kernel_rfl) (by kernel_rfl) ?_
            exact hj79 (false, x109)
      · refine oCondF (by kernel_rfl) ?_
        refine oExit rfl ?_
        refine oHead [0, 2, 6, 7] [0, 2, 3, 4, 5] (T' := [(0, .ptr 0 0), (2, .d (.int .i64 0)), (6, .ptr 1 0), (7, .ptr 2 0)]) (H' := [.box [.d (.lit (List.map e_i64 x)), .d (.int .i64 x109)], .box [.nilc, .nilc], .box [.ref 3 (List.length xs82) 0 (List.length xs82), .ref 4 (List.length xs83) 0 (List.length xs83)], .sl 1 (List.map e_Li64 xs82) false, .sl 1 (List.map e_i64 xs83) false]) (by kernel_rfl) (by kernel_rfl) (by kernel_rfl) (by kernel_rfl) (by decide) (by kernel_rfl) (by kernel_rfl) ?_
        exact hj42 (x109, xs82, xs83)

end Go.VM
