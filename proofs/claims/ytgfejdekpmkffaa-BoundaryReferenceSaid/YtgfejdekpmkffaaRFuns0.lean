/- Plain functions that answer as the program's functions do, and the proof that they do. -/
import Derived.Test.YtgfejdekpmkffaaProg
import Derived.KernelRfl
import Derived.Test.YtgfejdekpmkffaaEngW
import Derived.Test.YtgfejdekpmkffaaRFacts
namespace Go.VM
open Go.Proofs
set_option linter.unusedVariables false
set_option linter.unusedSimpArgs false
set_option maxRecDepth 100000
/-- awardingbody/awardingbodymark.Light -/
def mark_Light (k : Nat) (l : (List Int)) : Option (Unit) := some ()
def mark_Light_E (l : (List Int)) : Unit → V × List Blk := u0 ((.d (.bool (decide (((List.length l) : Int) ≤ 600))), []))
theorem mark_Light_goes (k : Nat) (l : (List Int)) : RunsO Try.prog 7 [.d (.lit (List.map e_i64 l))] [] (mark_Light_E l) (mark_Light k l) := by
  refine RunsO.of_goes (N := 6) (m := 0) (T := [(0, .d (.lit (List.map e_i64 l)))]) Try.func7 rfl rfl (by kernel_rfl) (by kernel_rfl) (by kernel_rfl) ?_
  unfold mark_Light
  refine bStart ?_
  refine oSeq ?_
  refine oRegion rfl ?_
  refine oOp (.d (.bool false)) (by kernel_rfl) (by kernel_rfl) (PureV.does (p_assign (by kernel_rfl))) ?_
  refine oEnd ?_
  refine oSeq ?_
  refine oRegion rfl ?_
  refine oOp (.d (.lit (List.map e_i64 l))) (by kernel_rfl) (by kernel_rfl) (PureV.does (p_move (by kernel_rfl))) ?_
  refine oOp (.d (.int .i64 ((List.length l) : Int))) (by kernel_rfl) (by kernel_rfl) (PureV.does (k_lenLit (enc := e_i64) l (by kernel_rfl) Try.underlying22)) ?_
  refine oOp (.d (.bool (decide (((List.length l) : Int) ≤ 600)))) (by kernel_rfl) (by kernel_rfl) (PureV.does (p_int (k := .i64) (p := ((List.length l) : Int)) (q := 600) (by kernel_rfl) (by kernel_rfl) (by kernel_rfl))) ?_
  refine oOp (.d (.bool (decide (((List.length l) : Int) ≤ 600)))) (by kernel_rfl) (by kernel_rfl) (PureV.does (p_assign (by kernel_rfl))) ?_
  refine oEnd ?_
  exact oRet (r0 := ()) (rv := .d (.bool (decide (((List.length l) : Int) ≤ 600)))) (B := []) (vs := [.d (.bool (decide (((List.length l) : Int) ≤ 600)))]) (σ := []) (by kernel_rfl) Try.func7 rfl (.cons _ _ _ _ (.tmp 2 _ (by kernel_rfl)) .nil) (by kernel_rfl) (by kernel_rfl) (by kernel_rfl) (by kernel_rfl) (by decide) (by kernel_rfl) (by kernel_rfl)

/-- awardingbody/distribution.Valid$1 -/
def distribution_Valid_1 (k : Nat) (n : Int) : Option (Bool) := blet ((decide (n < 0)) || (decide (n > 1048576))) fun x1 => some x1
def distribution_Valid_1_E (n : Int) : Bool → V × List Blk := fun r1 => (.d (.bool r1), [])
theorem distribution_Valid_1_goes (k : Nat) (n : Int) : RunsO Try.prog 39 [.d (.int .i64 n)] [] (distribution_Valid_1_E n) (distribution_Valid_1 k n) := by
  refine RunsO.of_goes (N := 9) (m := 0) (T := [(0, .d (.int .i64 n))]) Try.func39 rfl rfl (by kernel_rfl) (by kernel_rfl) (by kernel_rfl) ?_
  unfold distribution_Valid_1
  refine bStart ?_
  refine oSeq ?_
  refine oRegion rfl ?_
  refine oOp (.d (.bool false)) (by kernel_rfl) (by kernel_rfl) (PureV.does (p_assign (by kernel_rfl))) ?_
  refine oEnd ?_
  refine oSeq ?_
  refine oRegion rfl ?_
  refine oOp (.d (.int .i64 n)) (by kernel_rfl) (by kernel_rfl) (PureV.does (p_move (by kernel_rfl))) ?_
  refine oOp (.d (.bool (decide (n < 0)))) (by kernel_rfl) (by kernel_rfl) (PureV.does (p_int (k := .i64) (p := n) (q := 0) (by kernel_rfl) (by kernel_rfl) (by kernel_rfl))) ?_
  refine oOp (.d (.bool (decide (n < 0)))) (by kernel_rfl) (by kernel_rfl) (PureV.does (p_move (by kernel_rfl))) ?_
  refine bMeetF (H' := []) 3 rfl ((fun (x1 : Bool) => [(8, .d (.bool x1))])) (fun x1 => ?_) (fun F hj1 => ?_)
  · refine oView (T' := [(8, .d (.bool x1))]) (H' := []) (by kernel_rfl) (by kernel_rfl) ?_
    refine oOp (.d (.bool x1)) (by kernel_rfl) (by kernel_rfl) (PureV.does (p_assign (by kernel_rfl))) ?_
    refine oEnd ?_
    exact oRet (r0 := x1) (rv := .d (.bool x1)) (B := []) (vs := [.d (.bool x1)]) (σ := []) (by kernel_rfl) Try.func39 rfl (.cons _ _ _ _ (.tmp 2 _ (by kernel_rfl)) .nil) (by kernel_rfl) (by kernel_rfl) (by kernel_rfl) (by kernel_rfl) (by decide) (by kernel_rfl) (by kernel_rfl)
  · refine bPickF 5 (fun c => F (c || (decide (n > 1048576)))) (by kernel_rfl) (fun hc => ?_) (fun hc => ?_)
    · refine oNot (by kernel_rfl) (by kernel_rfl) ?_
      refine oNot (by kernel_rfl) (by kernel_rfl) ?_
      refine oOp (.d (.bool true)) (by kernel_rfl) (by kernel_rfl) (PureV.does (p_pick (b := true) (by kernel_rfl) (by kernel_rfl))) ?_
      refine oHead [8] [] (T' := [(8, .d (.bool true))]) (H' := []) (by kernel_rfl) (by kernel_rfl) (by kernel_rfl) (by kernel_rfl) (by decide) (by kernel_rfl) (by kernel_rfl) ?_
      exact hj1 true
    · refine oOp (.d (.int .i64 n)) (by kernel_rfl) (by kernel_rfl) (PureV.does (p_move (by kernel_rfl))) ?_
      refine oOp (.d (.bool (decide (n > 1048576)))) (by kernel_rfl) (by kernel_rfl) (PureV.does (p_int (k := .i64) (p := n) (q := 1048576) (by kernel_rfl) (by kernel_rfl) (by kernel_rfl))) ?_
      refine oOp (.d (.bool (decide (n > 1048576)))) (by kernel_rfl) (by kernel_rfl) (PureV.does (p_pick (b := false) (by kernel_rfl) (by kernel_rfl))) ?_
      refine oHead [8] [] (T' := [(8, .d (.bool (decide (n > 1048576))))]) (H' := []) (by kernel_rfl) (by kernel_rfl) (by kernel_rfl) (by kernel_rfl) (by decide) (by kernel_rfl) (by kernel_rfl) ?_
      exact hj1 (decide (n > 1048576))

/-- slices.IndexFunc[[]int,int] -/
def slices_IndexFunc_int_b1 (k : Nat) (s1 : (List Int)) (again : Int → Option ((Unit) ⊕ (Int))) : Int → Option ((Unit) ⊕ (Int)) := fun x4 => bif (decide (x4 < ((List.length s1) : Int))) then gidx s1 x4 fun e113 => Option.bind (distribution_Valid_1 k e113) (fun r114 => bif r114 then some (Sum.inr x4) else again (IntKind.wrap .i64 (x4 + 1))) else some (Sum.inl ())
def slices_IndexFunc_int (k : Nat) (s1 : (List Int)) : Option (Int) := Option.bind (gloop (slices_IndexFunc_int_b1 k s1) k 0 : Option ((Unit) ⊕ (Int))) (Sum.elim (u0 (some (-1))) (fun r => some r))
def slices_IndexFunc_int_E (s1 : (List Int)) : Int → V × List Blk := fun r14 => (.d (.int .i64 r14), [])
theorem slices_IndexFunc_int_goes (k : Nat) (s1 : (List Int)) : RunsO Try.prog 48 [.d (.lit (List.map e_i64 s1)), .fn 39 []] [] (slices_IndexFunc_int_E s1) (slices_IndexFunc_int k s1) := by
  refine RunsO.of_goes (N := 19) (m := 0) (T := [(0, .d (.lit (List.map e_i64 s1))), (1, .fn 39 [])]) Try.func48 rfl rfl (by kernel_rfl) (by kernel_rfl) (by kernel_rfl) ?_
  unfold slices_IndexFunc_int
  refine bStart ?_
  refine oSeq ?_
  refine oRegion rfl ?_
  refine oOp (.d (.int .i64 0)) (by kernel_rfl) (by kernel_rfl) (PureV.does (p_assign (by kernel_rfl))) ?_
  refine oEnd ?_
  refine oSeq ?_
  refine oSeq ?_
  refine oRegion rfl ?_
  refine oOp (.d (.lit (List.map e_i64 s1))) (by kernel_rfl) (by kernel_rfl) (PureV.does (p_move (by kernel_rfl))) ?_
  refine oOp (.d (.int .i64 ((List.length s1) : Int))) (by kernel_rfl) (by kernel_rfl) (PureV.does (k_lenLit (enc := e_i64) s1 (by kernel_rfl) Try.underlying22)) ?_
  refine oOp (.d (.int .i64 0)) (by kernel_rfl) (by kernel_rfl) (PureV.does (p_move (by kernel_rfl))) ?_
  refine oEnd ?_
  refine bJoin ((u0 ([]))) ((u0 ([]))) Sum.inl (fun s => ?_) (fun hj2 => ?_)
  · cases s
    refine bInl ?_
    refine bU0 ?_
    refine oView (T' := []) (H' := []) (by kernel_rfl) (by kernel_rfl) ?_
    refine oSeq ?_
    refine oRegion rfl ?_
    refine oOp (.d (.int .i64 (-1))) (by kernel_rfl) (by kernel_rfl) (PureV.does (p_assign (by kernel_rfl))) ?_
    refine oEnd ?_
    exact oRet (r0 := (-1)) (rv := .d (.int .i64 (-1))) (B := []) (vs := [.d (.int .i64 (-1))]) (σ := []) (by kernel_rfl) Try.func48 rfl (.cons _ _ _ _ (.tmp 4 _ (by kernel_rfl)) .nil) (by kernel_rfl) (by kernel_rfl) (by kernel_rfl) (by kernel_rfl) (by decide) (by kernel_rfl) (by kernel_rfl)
  · refine oBlock ?_
    refine oLoop ?_
    refine oHead [0, 1, 7, 8] [] (T' := [(0, .d (.lit (List.map e_i64 s1))), (1, .fn 39 []), (7, .d (.int .i64 ((List.length s1) : Int))), (8, .d (.int .i64 0))]) (H' := []) (by kernel_rfl) (by kernel_rfl) (by kernel_rfl) (by kernel_rfl) (by decide) (by kernel_rfl) (by kernel_rfl) ?_
    refine bLoop (body := slices_IndexFunc_int_b1 k s1) ((fun (x4 : Int) => [(0, .d (.lit (List.map e_i64 s1))), (1, .fn 39 []), (7, .d (.int .i64 ((List.length s1) : Int))), (8, .d (.int .i64 x4))])) ((fun (x4 : Int) => [])) (fun again hag1 x4 => ?_) k 0
    · unfold slices_IndexFunc_int_b1
      refine oView (T' := [(0, .d (.lit (List.map e_i64 s1))), (1, .fn 39 []), (7, .d (.int .i64 ((List.length s1) : Int))), (8, .d (.int .i64 x4))]) (H' := []) (by kernel_rfl) (by kernel_rfl) ?_
      refine oSeq ?_
      refine oRegion rfl ?_
      refine oOp (.d (.bool (decide (x4 < ((List.length s1) : Int))))) (by kernel_rfl) (by kernel_rfl) (PureV.does (p_int (k := .i64) (p := x4) (q := ((List.length s1) : Int)) (by kernel_rfl) (by kernel_rfl) (by kernel_rfl))) ?_
      refine oEnd ?_
      refine oSeq ?_
      refine bSplit 9 (by kernel_rfl) (fun hc => ?_) (fun hc => ?_)
      · refine oCondT (by kernel_rfl) ?_
        refine oSkip ?_
        refine oSeq ?_
        refine oBlock ?_
        refine oSeq ?_
        refine oRegion rfl ?_
        refine oOp (.d (.int .i64 x4)) (by kernel_rfl) (by kernel_rfl) (PureV.does (p_move (by kernel_rfl))) ?_
        refine oOp (.d (.int .i64 x4)) (by kernel_rfl) (by kernel_rfl) (PureV.does (p_assign (by kernel_rfl))) ?_
        refine oEnd ?_
        refine oSeq ?_
        refine oRegion rfl ?_
        refine oOp (.fn 39 []) (by kernel_rfl) (by kernel_rfl) (PureV.does (p_move (by kernel_rfl))) ?_
        refine oOp (.d (.lit (List.map e_i64 s1))) (by kernel_rfl) (by kernel_rfl) (PureV.does (p_move (by kernel_rfl))) ?_
        refine oOp (.d (.int .i64 x4)) (by kernel_rfl) (by kernel_rfl) (PureV.does (p_move (by kernel_rfl))) ?_
        refine bIdx (fun e113 h126 h127 => ?_)
        refine oOp (.lptr (e_i64 e113) 0) (by kernel_rfl) (by kernel_rfl) (PureV.does (k_idxLit e_i64_len s1 (a := e113) (by kernel_rfl) (k := .i64) (i := x4) (by kernel_rfl) Try.underlying22 ty3 h126 h127)) ?_
        refine oOp (.d (.int .i64 e113)) (by kernel_rfl) (by kernel_rfl) (Quiet.does (k_loadL (cells := e_i64 e113) 0 (by kernel_rfl) Try.underlying3 (by kernel_rfl) (by kernel_rfl))) ?_
        refine bCall (caps := []) (v := (fun (r114 : Bool) => (.d (.bool r114) : V))) (H' := (fun (r114 : Bool) => ([] : List Blk))) [] _ (distribution_Valid_1_goes k e113) (by kernel_rfl) (by kernel_rfl) rfl (by kernel_rfl) Try.func39 rfl (by kernel_rfl) (ConvRs.refl _ _) (by kernel_rfl) (by kernel_rfl) (by kernel_rfl) (by decide) (by kernel_rfl) (by kernel_rfl) (fun _ => (by kernel_rfl)) (fun _ => (by kernel_rfl)) (fun _ => (by kernel_rfl)) (fun r114 => ?_)
        refine oEnd ?_
        refine bSplit 16 (by kernel_rfl) (fun hc => ?_) (fun hc => ?_)
        · refine oCondT (by kernel_rfl) ?_
          refine oSeq ?_
          refine oRegion rfl ?_
          refine oOp (.d (.int .i64 x4)) (by kernel_rfl) (by kernel_rfl) (PureV.does (p_move (by kernel_rfl))) ?_
          refine oOp (.d (.int .i64 x4)) (by kernel_rfl) (by kernel_rfl) (PureV.does (p_assign (by kernel_rfl))) ?_
          refine oEnd ?_
          exact oRet (r0 := x4) (rv := .d (.int .i64 x4)) (B := []) (vs := [.d (.int .i64 x4)]) (σ := []) (by kernel_rfl) Try.func48 rfl (.cons _ _ _ _ (.tmp 4 _ (by kernel_rfl)) .nil) (by kernel_rfl) (by kernel_rfl) (by kernel_rfl) (by kernel_rfl) (by decide) (by kernel_rfl) (by kernel_rfl)
        · refine oCondF (by kernel_rfl) ?_
          refine oSkip ?_
          refine oBlk ?_
          refine oRegion rfl ?_
          refine oOp (.d (.int .i64 (IntKind.wrap .i64 (x4 + 1)))) (by kernel_rfl) (by kernel_rfl) (PureV.does (p_int (k := .i64) (p := x4) (q := 1) (by kernel_rfl) (by kernel_rfl) (by kernel_rfl))) ?_
          refine oOp (.d (.int .i64 (IntKind.wrap .i64 (x4 + 1)))) (by kernel_rfl) (by kernel_rfl) (PureV.does (p_move (by kernel_rfl))) ?_
          refine oEnd ?_
          refine oAgain ?_
          refine oHead [0, 1, 7, 8] [] (T' := [(0, .d (.lit (List.map e_i64 s1))), (1, .fn 39 []), (7, .d (.int .i64 ((List.length s1) : Int))), (8, .d (.int .i64 (IntKind.wrap .i64 (x4 + 1))))]) (H' := []) (by kernel_rfl) (by kernel_rfl) (by kernel_rfl) (by kernel_rfl) (by decide) (by kernel_rfl) (by kernel_rfl) ?_
          exact hag1 (IntKind.wrap .i64 (x4 + 1))
      · refine oCondF (by kernel_rfl) ?_
        refine oExit rfl ?_
        refine oHead [] [] (T' := []) (H' := []) (by kernel_rfl) (by kernel_rfl) (by kernel_rfl) (by kernel_rfl) (by decide) (by kernel_rfl) (by kernel_rfl) ?_
        exact hj2 ()

/-- slices.ContainsFunc[[]int,int] -/
def slices_ContainsFunc_int (k : Nat) (s1 : (List Int)) : Option (Bool) := Option.bind (slices_IndexFunc_int k s1) (fun r141 => some (decide (r141 ≥ 0)))
def slices_ContainsFunc_int_E (s1 : (List Int)) : Bool → V × List Blk := fun r1 => (.d (.bool r1), [])
theorem slices_ContainsFunc_int_goes (k : Nat) (s1 : (List Int)) : RunsO Try.prog 37 [.d (.lit (List.map e_i64 s1)), .fn 39 []] [] (slices_ContainsFunc_int_E s1) (slices_ContainsFunc_int k s1) := by
  refine RunsO.of_goes (N := 9) (m := 0) (T := [(0, .d (.lit (List.map e_i64 s1))), (1, .fn 39 [])]) Try.func37 rfl rfl (by kernel_rfl) (by kernel_rfl) (by kernel_rfl) ?_
  unfold slices_ContainsFunc_int
  refine bStart ?_
  refine oSeq ?_
  refine oRegion rfl ?_
  refine oOp (.d (.bool false)) (by kernel_rfl) (by kernel_rfl) (PureV.does (p_assign (by kernel_rfl))) ?_
  refine oEnd ?_
  refine oSeq ?_
  refine oRegion rfl ?_
  refine oOp (.d (.lit (List.map e_i64 s1))) (by kernel_rfl) (by kernel_rfl) (PureV.does (p_move (by kernel_rfl))) ?_
  refine oOp (.fn 39 []) (by kernel_rfl) (by kernel_rfl) (PureV.does (p_move (by kernel_rfl))) ?_
  refine bCall (caps := []) (v := (fun (r141 : Int) => (.d (.int .i64 r141) : V))) (H' := (fun (r141 : Int) => ([] : List Blk))) [] _ (slices_IndexFunc_int_goes k s1) (by kernel_rfl) (by kernel_rfl) rfl (by kernel_rfl) Try.func48 rfl (by kernel_rfl) (ConvRs.refl _ _) (by kernel_rfl) (by kernel_rfl) (by kernel_rfl) (by decide) (by kernel_rfl) (by kernel_rfl) (fun _ => (by kernel_rfl)) (fun _ => (by kernel_rfl)) (fun _ => (by kernel_rfl)) (fun r141 => ?_)
  refine oOp (.d (.bool (decide (r141 ≥ 0)))) (by kernel_rfl) (by kernel_rfl) (PureV.does (p_int (k := .i64) (p := r141) (q := 0) (by kernel_rfl) (by kernel_rfl) (by kernel_rfl))) ?_
  refine oOp (.d (.bool (decide (r141 ≥ 0)))) (by kernel_rfl) (by kernel_rfl) (PureV.does (p_assign (by kernel_rfl))) ?_
  refine oEnd ?_
  exact oRet (r0 := (decide (r141 ≥ 0))) (rv := .d (.bool (decide (r141 ≥ 0)))) (B := []) (vs := [.d (.bool (decide (r141 ≥ 0)))]) (σ := []) (by kernel_rfl) Try.func37 rfl (.cons _ _ _ _ (.tmp 4 _ (by kernel_rfl)) .nil) (by kernel_rfl) (by kernel_rfl) (by kernel_rfl) (by kernel_rfl) (by decide) (by kernel_rfl) (by kernel_rfl)

/-- awardingbody/distribution.sum -/
def distribution_sum_b1 (k : Nat) (l : (List Int)) (again : Int × Int → Option (Int)) : Int × Int → Option (Int) := uc fun n6 => fun x4 => bif (decide (x4 < ((List.length l) : Int))) then gidx l x4 fun e113 => again ((IntKind.wrap .i64 (n6 + e113)), (IntKind.wrap .i64 (x4 + 1))) else some n6
def distribution_sum (k : Nat) (l : (List Int)) : Option (Int) := Option.bind (gloop (distribution_sum_b1 k l) k (0, 0) : Option (Int)) (fun n5 => some n5)
def distribution_sum_E (l : (List Int)) : Int → V × List Blk := fun r1 => (.d (.int .i64 r1), [])
theorem distribution_sum_goes (k : Nat) (l : (List Int)) : RunsO Try.prog 40 [.d (.lit (List.map e_i64 l))] [] (distribution_sum_E l) (distribution_sum k l) := by
  refine RunsO.of_goes (N := 17) (m := 0) (T := [(0, .d (.lit (List.map e_i64 l)))]) Try.func40 rfl rfl (by kernel_rfl) (by kernel_rfl) (by kernel_rfl) ?_
  unfold distribution_sum
  refine bStart ?_
  refine oSeq ?_
  refine oRegion rfl ?_
  refine oOp (.d (.int .i64 0)) (by kernel_rfl) (by kernel_rfl) (PureV.does (p_assign (by kernel_rfl))) ?_
  refine oEnd ?_
  refine oSeq ?_
  refine oRegion rfl ?_
  refine oOp (.d (.int .i64 0)) (by kernel_rfl) (by kernel_rfl) (PureV.does (p_assign (by kernel_rfl))) ?_
  refine oEnd ?_
  refine oSeq ?_
  refine oSeq ?_
  refine oRegion rfl ?_
  refine oOp (.d (.lit (List.map e_i64 l))) (by kernel_rfl) (by kernel_rfl) (PureV.does (p_move (by kernel_rfl))) ?_
  refine oOp (.d (.int .i64 ((List.length l) : Int))) (by kernel_rfl) (by kernel_rfl) (PureV.does (k_lenLit (enc := e_i64) l (by kernel_rfl) Try.underlying22)) ?_
  refine oOp (.d (.int .i64 0)) (by kernel_rfl) (by kernel_rfl) (PureV.does (p_move (by kernel_rfl))) ?_
  refine oEnd ?_
  refine bJoin ((fun (n5 : Int) => [(3, .d (.int .i64 n5))])) ((fun (n5 : Int) => [])) (fun s => s) (fun n5 => ?_) (fun hj2 => ?_)
  · refine oView (T' := [(3, .d (.int .i64 n5))]) (H' := []) (by kernel_rfl) (by kernel_rfl) ?_
    refine oSeq ?_
    refine oRegion rfl ?_
    refine oOp (.d (.int .i64 n5)) (by kernel_rfl) (by kernel_rfl) (PureV.does (p_move (by kernel_rfl))) ?_
    refine oOp (.d (.int .i64 n5)) (by kernel_rfl) (by kernel_rfl) (PureV.does (p_assign (by kernel_rfl))) ?_
    refine oEnd ?_
    exact oRet (r0 := n5) (rv := .d (.int .i64 n5)) (B := []) (vs := [.d (.int .i64 n5)]) (σ := []) (by kernel_rfl) Try.func40 rfl (.cons _ _ _ _ (.tmp 2 _ (by kernel_rfl)) .nil) (by kernel_rfl) (by kernel_rfl) (by kernel_rfl) (by kernel_rfl) (by decide) (by kernel_rfl) (by kernel_rfl)
  · refine oBlock ?_
    refine oLoop ?_
    refine oHead [3, 6, 7, 8] [] (T' := [(3, .d (.int .i64 0)), (6, .d (.lit (List.map e_i64 l))), (7, .d (.int .i64 ((List.length l) : Int))), (8, .d (.int .i64 0))]) (H' := []) (by kernel_rfl) (by kernel_rfl) (by kernel_rfl) (by kernel_rfl) (by decide) (by kernel_rfl) (by kernel_rfl) ?_
    refine bLoop (body := distribution_sum_b1 k l) ((uc fun (n6 : Int) => (fun (x4 : Int) => [(3, .d (.int .i64 n6)), (6, .d (.lit (List.map e_i64 l))), (7, .d (.int .i64 ((List.length l) : Int))), (8, .d (.int .i64 x4))]))) ((uc fun (n6 : Int) => (fun (x4 : Int) => []))) (fun again hag1 s => ?_) k (0, 0)
    · unfold distribution_sum_b1
      obtain ⟨n6, x4⟩ := s
      refine bUc ?_
      refine oView (T' := [(3, .d (.int .i64 n6)), (6, .d (.lit (List.map e_i64 l))), (7, .d (.int .i64 ((List.length l) : Int))), (8, .d (.int .i64 x4))]) (H' := []) (by kernel_rfl) (by kernel_rfl) ?_
      refine oSeq ?_
      refine oRegion rfl ?_
      refine oOp (.d (.bool (decide (x4 < ((List.length l) : Int))))) (by kernel_rfl) (by kernel_rfl) (PureV.does (p_int (k := .i64) (p := x4) (q := ((List.length l) : Int)) (by kernel_rfl) (by kernel_rfl) (by kernel_rfl))) ?_
      refine oEnd ?_
      refine oSeq ?_
      refine bSplit 9 (by kernel_rfl) (fun hc => ?_) (fun hc => ?_)
      · refine oCondT (by kernel_rfl) ?_
        refine oSkip ?_
        refine oSeq ?_
        refine oBlock ?_
        refine oSeq ?_
        refine oRegion rfl ?_
        refine bIdx (fun e113 h126 h127 => ?_)
        refine oOp (.lptr (e_i64 e113) 0) (by kernel_rfl) (by kernel_rfl) (PureV.does (k_idxLit e_i64_len l (a := e113) (by kernel_rfl) (k := .i64) (i := x4) (by kernel_rfl) Try.underlying22 ty3 h126 h127)) ?_
        refine oOp (.d (.int .i64 e113)) (by kernel_rfl) (by kernel_rfl) (Quiet.does (k_loadL (cells := e_i64 e113) 0 (by kernel_rfl) Try.underlying3 (by kernel_rfl) (by kernel_rfl))) ?_
        refine oOp (.d (.int .i64 e113)) (by kernel_rfl) (by kernel_rfl) (PureV.does (p_assign (by kernel_rfl))) ?_
        refine oEnd ?_
        refine oRegion rfl ?_
        refine oOp (.d (.int .i64 n6)) (by kernel_rfl) (by kernel_rfl) (PureV.does (p_move (by kernel_rfl))) ?_
        refine oOp (.d (.int .i64 e113)) (by kernel_rfl) (by kernel_rfl) (PureV.does (p_move (by kernel_rfl))) ?_
        refine oOp (.d (.int .i64 (IntKind.wrap .i64 (n6 + e113)))) (by kernel_rfl) (by kernel_rfl) (PureV.does (p_int (k := .i64) (p := n6) (q := e113) (by kernel_rfl) (by kernel_rfl) (by kernel_rfl))) ?_
        refine oOp (.d (.int .i64 (IntKind.wrap .i64 (n6 + e113)))) (by kernel_rfl) (by kernel_rfl) (PureV.does (p_assign (by kernel_rfl))) ?_
        refine oEnd ?_
        refine oBlk ?_
        refine oRegion rfl ?_
        refine oOp (.d (.int .i64 (IntKind.wrap .i64 (x4 + 1)))) (by kernel_rfl) (by kernel_rfl) (PureV.does (p_int (k := .i64) (p := x4) (q := 1) (by kernel_rfl) (by kernel_rfl) (by kernel_rfl))) ?_
        refine oOp (.d (.int .i64 (IntKind.wrap .i64 (x4 + 1)))) (by kernel_rfl) (by kernel_rfl) (PureV.does (p_move (by kernel_rfl))) ?_
        refine oEnd ?_
        refine oAgain ?_
        refine oHead [3, 6, 7, 8] [] (T' := [(3, .d (.int .i64 (IntKind.wrap .i64 (n6 + e113)))), (6, .d (.lit (List.map e_i64 l))), (7, .d (.int .i64 ((List.length l) : Int))), (8, .d (.int .i64 (IntKind.wrap .i64 (x4 + 1))))]) (H' := []) (by kernel_rfl) (by kernel_rfl) (by kernel_rfl) (by kernel_rfl) (by decide) (by kernel_rfl) (by kernel_rfl) ?_
        exact hag1 ((IntKind.wrap .i64 (n6 + e113)), (IntKind.wrap .i64 (x4 + 1)))
      · refine oCondF (by kernel_rfl) ?_
        refine oExit rfl ?_
        refine oHead [3] [] (T' := [(3, .d (.int .i64 n6))]) (H' := []) (by kernel_rfl) (by kernel_rfl) (by kernel_rfl) (by kernel_rfl) (by decide) (by kernel_rfl) (by kernel_rfl) ?_
        exact hj2 n6

/-- awardingbody/distribution.Valid -/
def distribution_Valid (k : Nat) (d0 : (List Int)) : Option (Bool) := blet ((((List.length d0) : Int) == 0) || (decide (((List.length d0) : Int) > 201))) fun x1 => bif x1 then some false else Option.bind (slices_ContainsFunc_int k d0) (fun r13 => bif r13 then some false else Option.bind (distribution_sum k d0) (fun r14 => some (decide (r14 ≤ 1048576))))
def distribution_Valid_E (d0 : (List Int)) : Bool → V × List Blk := fun r12 => (.d (.bool r12), [])
theorem distribution_Valid_goes (k : Nat) (d0 : (List Int)) : RunsO Try.prog 27 [.agg [.d (.lit (List.map e_i64 d0))]] [] (distribution_Valid_E d0) (distribution_Valid k d0) := by
  refine RunsO.of_goes (N := 20) (m := 0) (T := [(0, .agg [.d (.lit (List.map e_i64 d0))])]) Try.func27 rfl rfl (by kernel_rfl) (by kernel_rfl) (by kernel_rfl) ?_
  unfold distribution_Valid
  refine bStart ?_
  refine oSeq ?_
  refine oRegion rfl ?_
  refine oOp (.ptr 0 0) (by kernel_rfl) (by kernel_rfl) (k_box (H' := [.box [.d (.lit (List.map e_i64 d0))]]) (cells := [.d (.lit (List.map e_i64 d0))]) (by kernel_rfl) (by kernel_rfl) (by kernel_rfl)) ?_
  refine oOp (.d (.bool false)) (by kernel_rfl) (by kernel_rfl) (PureV.does (p_assign (by kernel_rfl))) ?_
  refine oEnd ?_
  refine oSeq ?_
  refine oSeq ?_
  refine oRegion rfl ?_
  refine oOp (.ptr 0 0) (by kernel_rfl) (by kernel_rfl) (PureV.does (k_fieldAddr 0 0 (by kernel_rfl) Try.underlying28 rfl ty22 (by kernel_rfl))) ?_
  refine oOp (.d (.lit (List.map e_i64 d0))) (by kernel_rfl) (by kernel_rfl) (Quiet.does (k_load 0 0 (by kernel_rfl) Try.underlying22 (by kernel_rfl) (by kernel_rfl))) ?_
  refine oOp (.d (.int .i64 ((List.length d0) : Int))) (by kernel_rfl) (by kernel_rfl) (PureV.does (k_lenLit (enc := e_i64) d0 (by kernel_rfl) Try.underlying22)) ?_
  refine oOp (.d (.bool (((List.length d0) : Int) == 0))) (by kernel_rfl) (by kernel_rfl) (PureV.does (p_int (k := .i64) (p := ((List.length d0) : Int)) (q := 0) (by kernel_rfl) (by kernel_rfl) (by kernel_rfl))) ?_
  refine oOp (.d (.bool (((List.length d0) : Int) == 0))) (by kernel_rfl) (by kernel_rfl) (PureV.does (p_move (by kernel_rfl))) ?_
  refine bMeetF (H' := [.box [.d (.lit (List.map e_i64 d0))]]) 5 rfl ((fun (x1 : Bool) => [(1, .ptr 0 0), (12, .d (.bool x1))])) (fun x1 => ?_) (fun F hj1 => ?_)
  · refine oView (T' := [(1, .ptr 0 0), (12, .d (.bool x1))]) (H' := [.box [.d (.lit (List.map e_i64 d0))]]) (by kernel_rfl) (by kernel_rfl) ?_
    refine oEnd ?_
    refine bSplit 12 (by kernel_rfl) (fun hc => ?_) (fun hc => ?_)
    · refine oCondT (by kernel_rfl) ?_
      refine oSeq ?_
      refine oRegion rfl ?_
      refine oOp (.d (.bool false)) (by kernel_rfl) (by kernel_rfl) (PureV.does (p_assign (by kernel_rfl))) ?_
      refine oEnd ?_
      exact oRet (r0 := false) (rv := .d (.bool false)) (B := []) (vs := [.d (.bool false)]) (σ := []) (by kernel_rfl) Try.func27 rfl (.cons _ _ _ _ (.tmp 2 _ (by kernel_rfl)) .nil) (by kernel_rfl) (by kernel_rfl) (by kernel_rfl) (by kernel_rfl) (by decide) (by kernel_rfl) (by kernel_rfl)
    · refine oCondF (by kernel_rfl) ?_
      refine oSkip ?_
      refine oSeq ?_
      refine oSeq ?_
      refine oRegion rfl ?_
      refine oOp (.ptr 0 0) (by kernel_rfl) (by kernel_rfl) (PureV.does (k_fieldAddr 0 0 (by kernel_rfl) Try.underlying28 rfl ty22 (by kernel_rfl))) ?_
      refine oOp (.d (.lit (List.map e_i64 d0))) (by kernel_rfl) (by kernel_rfl) (Quiet.does (k_load 0 0 (by kernel_rfl) Try.underlying22 (by kernel_rfl) (by kernel_rfl))) ?_
      refine bCall (caps := []) (v := (fun (r13 : Bool) => (.d (.bool r13) : V))) (H' := (fun (r13 : Bool) => ([.box [.d (.lit (List.map e_i64 d0))]] : List Blk))) [] _ (slices_ContainsFunc_int_goes k d0) (by kernel_rfl) (by kernel_rfl) rfl (by kernel_rfl) Try.func37 rfl (by kernel_rfl) (ConvRs.refl _ _) (by kernel_rfl) (by kernel_rfl) (by kernel_rfl) (by decide) (by kernel_rfl) (by kernel_rfl) (fun _ => (by kernel_rfl)) (fun _ => (by kernel_rfl)) (fun _ => (by kernel_rfl)) (fun r13 => ?_)
      refine oEnd ?_
      refine bSplit 15 (by kernel_rfl) (fun hc => ?_) (fun hc => ?_)
      · refine oCondT (by kernel_rfl) ?_
        refine oSeq ?_
        refine oRegion rfl ?_
        refine oOp (.d (.bool false)) (by kernel_rfl) (by kernel_rfl) (PureV.does (p_assign (by kernel_rfl))) ?_
        refine oEnd ?_
        exact oRet (r0 := false) (rv := .d (.bool false)) (B := []) (vs := [.d (.bool false)]) (σ := []) (by kernel_rfl) Try.func27 rfl (.cons _ _ _ _ (.tmp 2 _ (by kernel_rfl)) .nil) (by kernel_rfl) (by kernel_rfl) (by kernel_rfl) (by kernel_rfl) (by decide) (by kernel_rfl) (by kernel_rfl)
      · refine oCondF (by kernel_rfl) ?_
        refine oSkip ?_
        refine oSeq ?_
        refine oRegion rfl ?_
        refine oOp (.ptr 0 0) (by kernel_rfl) (by kernel_rfl) (PureV.does (k_fieldAddr 0 0 (by kernel_rfl) Try.underlying28 rfl ty22 (by kernel_rfl))) ?_
        refine oOp (.d (.lit (List.map e_i64 d0))) (by kernel_rfl) (by kernel_rfl) (Quiet.does (k_load 0 0 (by kernel_rfl) Try.underlying22 (by kernel_rfl) (by kernel_rfl))) ?_
        refine bCall (caps := []) (v := (fun (r14 : Int) => (.d (.int .i64 r14) : V))) (H' := (fun (r14 : Int) => ([.box [.d (.lit (List.map e_i64 d0))]] : List Blk))) [] _ (distribution_sum_goes k d0) (by kernel_rfl) (by kernel_rfl) rfl (by kernel_rfl) Try.func40 rfl (by kernel_rfl) (ConvRs.refl _ _) (by kernel_rfl) (by kernel_rfl) (by kernel_rfl) (by decide) (by kernel_rfl) (by kernel_rfl) (fun _ => (by kernel_rfl)) (fun _ => (by kernel_rfl)) (fun _ => (by kernel_rfl)) (fun r14 => ?_)
        refine oOp (.d (.bool (decide (r14 ≤ 1048576)))) (by kernel_rfl) (by kernel_rfl) (PureV.does (p_int (k := .i64) (p := r14) (q := 1048576) (by kernel_rfl) (by kernel_rfl) (by kernel_rfl))) ?_
        refine oOp (.d (.bool (decide (r14 ≤ 1048576)))) (by kernel_rfl) (by kernel_rfl) (PureV.does (p_assign (by kernel_rfl))) ?_
        refine oEnd ?_
        exact oRet (r0 := (decide (r14 ≤ 1048576))) (rv := .d (.bool (decide (r14 ≤ 1048576)))) (B := []) (vs := [.d (.bool (decide (r14 ≤ 1048576)))]) (σ := []) (by kernel_rfl) Try.func27 rfl (.cons _ _ _ _ (.tmp 2 _ (by kernel_rfl)) .nil) (by kernel_rfl) (by kernel_rfl) (by kernel_rfl) (by kernel_rfl) (by decide) (by kernel_rfl) (by kernel_rfl)
  · refine bPickF 7 (fun c => F (c || (decide (((List.length d0) : Int) > 201)))) (by kernel_rfl) (fun hc => ?_) (fun hc => ?_)
    · refine oNot (by kernel_rfl) (by kernel_rfl) ?_
      refine oNot (by kernel_rfl) (by kernel_rfl) ?_
      refine oNot (by kernel_rfl) (by kernel_rfl) ?_
      refine oNot (by kernel_rfl) (by kernel_rfl) ?_
      refine oOp (.d (.bool true)) (by kernel_rfl) (by kernel_rfl) (PureV.does (p_pick (b := true) (by kernel_rfl) (by kernel_rfl))) ?_
      refine oHead [1, 12] [0] (T' := [(1, .ptr 0 0), (12, .d (.bool true))]) (H' := [.box [.d (.lit (List.map e_i64 d0))]]) (by kernel_rfl) (by kernel_rfl) (by kernel_rfl) (by kernel_rfl) (by decide) (by kernel_rfl) (by kernel_rfl) ?_
      exact hj1 true
    · refine oOp (.ptr 0 0) (by kernel_rfl) (by kernel_rfl) (PureV.does (k_fieldAddr 0 0 (by kernel_rfl) Try.underlying28 rfl ty22 (by kernel_rfl))) ?_
      refine oOp (.d (.lit (List.map e_i64 d0))) (by kernel_rfl) (by kernel_rfl) (Quiet.does (k_load 0 0 (by kernel_rfl) Try.underlying22 (by kernel_rfl) (by kernel_rfl))) ?_
      refine oOp (.d (.int .i64 ((List.length d0) : Int))) (by kernel_rfl) (by kernel_rfl) (PureV.does (k_lenLit (enc := e_i64) d0 (by kernel_rfl) Try.underlying22)) ?_
      refine oOp (.d (.bool (decide (((List.length d0) : Int) > 201)))) (by kernel_rfl) (by kernel_rfl) (PureV.does (p_int (k := .i64) (p := ((List.length d0) : Int)) (q := 201) (by kernel_rfl) (by kernel_rfl) (by kernel_rfl))) ?_
      refine oOp (.d (.bool (decide (((List.length d0) : Int) > 201)))) (by kernel_rfl) (by kernel_rfl) (PureV.does (p_pick (b := false) (by kernel_rfl) (by kernel_rfl))) ?_
      refine oHead [1, 12] [0] (T' := [(1, .ptr 0 0), (12, .d (.bool (decide (((List.length d0) : Int) > 201))))]) (H' := [.box [.d (.lit (List.map e_i64 d0))]]) (by kernel_rfl) (by kernel_rfl) (by kernel_rfl) (by kernel_rfl) (by decide) (by kernel_rfl) (by kernel_rfl) ?_
      exact hj1 (decide (((List.length d0) : Int) > 201))

/-- awardingbody/ratio.abs -/
def ratio_abs (k : Nat) (n : Int) : Option (Int) := bif (decide (n < 0)) then some (IntKind.wrap .u64 (IntKind.wrap .i64 (0 - n))) else some (IntKind.wrap .u64 n)
def ratio_abs_E (n : Int) : Int → V × List Blk := fun r1 => (.d (.int .u64 r1), [])
theorem ratio_abs_goes (k : Nat) (n : Int) : RunsO Try.prog 45 [.d (.int .i64 n)] [] (ratio_abs_E n) (ratio_abs k n) := by
  refine RunsO.of_goes (N := 10) (m := 0) (T := [(0, .d (.int .i64 n))]) Try.func45 rfl rfl (by kernel_rfl) (by kernel_rfl) (by kernel_rfl) ?_
  unfold ratio_abs
  refine bStart ?_
  refine oSeq ?_
  refine oRegion rfl ?_
  refine oOp (.d (.int .u64 0)) (by kernel_rfl) (by kernel_rfl) (PureV.does (p_assign (by kernel_rfl))) ?_
  refine oEnd ?_
  refine oSeq ?_
  refine oSeq ?_
  refine oRegion rfl ?_
  refine oOp (.d (.int .i64 n)) (by kernel_rfl) (by kernel_rfl) (PureV.does (p_move (by kernel_rfl))) ?_
  refine oOp (.d (.bool (decide (n < 0)))) (by kernel_rfl) (by kernel_rfl) (PureV.does (p_int (k := .i64) (p := n) (q := 0) (by kernel_rfl) (by kernel_rfl) (by kernel_rfl))) ?_
  refine oEnd ?_
  refine bSplit 4 (by kernel_rfl) (fun hc => ?_) (fun hc => ?_)
  · refine oCondT (by kernel_rfl) ?_
    refine oSeq ?_
    refine oRegion rfl ?_
    refine oOp (.d (.int .i64 n)) (by kernel_rfl) (by kernel_rfl) (PureV.does (p_move (by kernel_rfl))) ?_
    refine oOp (.d (.int .i64 (IntKind.wrap .i64 (0 - n)))) (by kernel_rfl) (by kernel_rfl) (PureV.does (p_neg (k := .i64) (p := n) (by kernel_rfl) (by kernel_rfl))) ?_
    refine oOp (.d (.int .u64 (IntKind.wrap .u64 (IntKind.wrap .i64 (0 - n))))) (by kernel_rfl) (by kernel_rfl) (PureV.does (p_conv (k := .i64) (p := (IntKind.wrap .i64 (0 - n))) (by kernel_rfl) Try.underlying3 Try.underlying56 (by kernel_rfl))) ?_
    refine oOp (.d (.int .u64 (IntKind.wrap .u64 (IntKind.wrap .i64 (0 - n))))) (by kernel_rfl) (by kernel_rfl) (PureV.does (p_assign (by kernel_rfl))) ?_
    refine oEnd ?_
    exact oRet (r0 := (IntKind.wrap .u64 (IntKind.wrap .i64 (0 - n)))) (rv := .d (.int .u64 (IntKind.wrap .u64 (IntKind.wrap .i64 (0 - n))))) (B := []) (vs := [.d (.int .u64 (IntKind.wrap .u64 (IntKind.wrap .i64 (0 - n))))]) (σ := []) (by kernel_rfl) Try.func45 rfl (.cons _ _ _ _ (.tmp 2 _ (by kernel_rfl)) .nil) (by kernel_rfl) (by kernel_rfl) (by kernel_rfl) (by kernel_rfl) (by decide) (by kernel_rfl) (by kernel_rfl)
  · refine oCondF (by kernel_rfl) ?_
    refine oSkip ?_
    refine oSeq ?_
    refine oRegion rfl ?_
    refine oOp (.d (.int .i64 n)) (by kernel_rfl) (by kernel_rfl) (PureV.does (p_move (by kernel_rfl))) ?_
    refine oOp (.d (.int .u64 (IntKind.wrap .u64 n))) (by kernel_rfl) (by kernel_rfl) (PureV.does (p_conv (k := .i64) (p := n) (by kernel_rfl) Try.underlying3 Try.underlying56 (by kernel_rfl))) ?_
    refine oOp (.d (.int .u64 (IntKind.wrap .u64 n))) (by kernel_rfl) (by kernel_rfl) (PureV.does (p_assign (by kernel_rfl))) ?_
    refine oEnd ?_
    exact oRet (r0 := (IntKind.wrap .u64 n)) (rv := .d (.int .u64 (IntKind.wrap .u64 n))) (B := []) (vs := [.d (.int .u64 (IntKind.wrap .u64 n))]) (σ := []) (by kernel_rfl) Try.func45 rfl (.cons _ _ _ _ (.tmp 2 _ (by kernel_rfl)) .nil) (by kernel_rfl) (by kernel_rfl) (by kernel_rfl) (by kernel_rfl) (by decide) (by kernel_rfl) (by kernel_rfl)

/-- awardingbody/ratio.gcd -/
def ratio_gcd_b1 (k : Nat) (again : Int × Int → Option (Int)) : Int × Int → Option (Int) := uc fun a7 => fun b5 => bif (b5 != 0) then gnz b5 (again (b5, (Int.tmod a7 b5))) else some a7
def ratio_gcd (k : Nat) (a : Int) (b : Int) : Option (Int) := Option.bind (gloop (ratio_gcd_b1 k) k (a, b) : Option (Int)) (fun a6 => some a6)
def ratio_gcd_E (a : Int) (b : Int) : Int → V × List Blk := fun r1 => (.d (.int .u64 r1), [])
theorem ratio_gcd_goes (k : Nat) (a : Int) (b : Int) : RunsO Try.prog 52 [.d (.int .u64 a), .d (.int .u64 b)] [] (ratio_gcd_E a b) (ratio_gcd k a b) := by
  refine RunsO.of_goes (N := 12) (m := 0) (T := [(0, .d (.int .u64 a)), (1, .d (.int .u64 b))]) Try.func52 rfl rfl (by kernel_rfl) (by kernel_rfl) (by kernel_rfl) ?_
  unfold ratio_gcd
  refine bStart ?_
  refine oSeq ?_
  refine oRegion rfl ?_
  refine oOp (.d (.int .u64 0)) (by kernel_rfl) (by kernel_rfl) (PureV.does (p_assign (by kernel_rfl))) ?_
  refine oEnd ?_
  refine oSeq ?_
  refine bJoin ((fun (a6 : Int) => [(0, .d (.int .u64 a6))])) ((fun (a6 : Int) => [])) (fun s => s) (fun a6 => ?_) (fun hj2 => ?_)
  · refine oView (T' := [(0, .d (.int .u64 a6))]) (H' := []) (by kernel_rfl) (by kernel_rfl) ?_
    refine oSeq ?_
    refine oRegion rfl ?_
    refine oOp (.d (.int .u64 a6)) (by kernel_rfl) (by kernel_rfl) (PureV.does (p_move (by kernel_rfl))) ?_
    refine oOp (.d (.int .u64 a6)) (by kernel_rfl) (by kernel_rfl) (PureV.does (p_assign (by kernel_rfl))) ?_
    refine oEnd ?_
    exact oRet (r0 := a6) (rv := .d (.int .u64 a6)) (B := []) (vs := [.d (.int .u64 a6)]) (σ := []) (by kernel_rfl) Try.func52 rfl (.cons _ _ _ _ (.tmp 4 _ (by kernel_rfl)) .nil) (by kernel_rfl) (by kernel_rfl) (by kernel_rfl) (by kernel_rfl) (by decide) (by kernel_rfl) (by kernel_rfl)
  · refine oBlock ?_
    refine oLoop ?_
    refine oHead [0, 1] [] (T' := [(0, .d (.int .u64 a)), (1, .d (.int .u64 b))]) (H' := []) (by kernel_rfl) (by kernel_rfl) (by kernel_rfl) (by kernel_rfl) (by decide) (by kernel_rfl) (by kernel_rfl) ?_
    refine bLoop (body := ratio_gcd_b1 k) ((uc fun (a7 : Int) => (fun (b5 : Int) => [(0, .d (.int .u64 a7)), (1, .d (.int .u64 b5))]))) ((uc fun (a7 : Int) => (fun (b5 : Int) => []))) (fun again hag1 s => ?_) k (a, b)
    · unfold ratio_gcd_b1
      obtain ⟨a7, b5⟩ := s
      refine bUc ?_
      refine oView (T' := [(0, .d (.int .u64 a7)), (1, .d (.int .u64 b5))]) (H' := []) (by kernel_rfl) (by kernel_rfl) ?_
      refine oSeq ?_
      refine oSeq ?_
      refine oRegion rfl ?_
      refine oOp (.d (.int .u64 b5)) (by kernel_rfl) (by kernel_rfl) (PureV.does (p_move (by kernel_rfl))) ?_
      refine oOp (.d (.bool (b5 != 0))) (by kernel_rfl) (by kernel_rfl) (PureV.does (p_int (k := .u64) (p := b5) (q := 0) (by kernel_rfl) (by kernel_rfl) (by kernel_rfl))) ?_
      refine oEnd ?_
      refine bSplit 6 (by kernel_rfl) (fun hc => ?_) (fun hc => ?_)
      · refine oCondT (by kernel_rfl) ?_
        refine oSkip ?_
        refine oBlock ?_
        refine oDraw [] rfl ?_
        refine aTakeL (i := 0) (st' := []) (.d (.int .u64 b5)) rfl (by kernel_rfl) (by kernel_rfl) (by kernel_rfl) (by kernel_rfl) (by kernel_rfl) (by kernel_rfl) (by kernel_rfl) (PureV.quiet (p_move (by kernel_rfl)) []) ?_
        refine aTakeL (i := 1) (st' := []) (.d (.int .u64 a7)) rfl (by kernel_rfl) (by kernel_rfl) (by kernel_rfl) (by kernel_rfl) (by kernel_rfl) (by kernel_rfl) (by kernel_rfl) (PureV.quiet (p_move (by kernel_rfl)) []) ?_
        refine aTakeL (i := 2) (st' := []) (.d (.int .u64 b5)) rfl (by kernel_rfl) (by kernel_rfl) (by kernel_rfl) (by kernel_rfl) (by kernel_rfl) (by kernel_rfl) (by kernel_rfl) (PureV.quiet (p_move (by kernel_rfl)) []) ?_
        refine dNz (fun h1 => ?_)
        refine aTakeP (i := 3) (.d (.int .u64 (Int.tmod a7 b5))) rfl (by kernel_rfl) (by kernel_rfl) (by kernel_rfl) (by kernel_rfl) (by kernel_rfl) (by kernel_rfl) (by kernel_rfl) (p_rem (k := .u64) (p := a7) (q := b5) (by kernel_rfl) (by kernel_rfl) h1 (by kernel_rfl)) ?_
        refine aTakeL (i := 4) (st' := []) (.d (.int .u64 b5)) rfl (by kernel_rfl) (by kernel_rfl) (by kernel_rfl) (by kernel_rfl) (by kernel_rfl) (by kernel_rfl) (by kernel_rfl) (PureV.quiet (p_assign (by kernel_rfl)) []) ?_
        refine aTakeL (i := 5) (st' := []) (.d (.int .u64 (Int.tmod a7 b5))) rfl (by kernel_rfl) (by kernel_rfl) (by kernel_rfl) (by kernel_rfl) (by kernel_rfl) (by kernel_rfl) (by kernel_rfl) (PureV.quiet (p_assign (by kernel_rfl)) []) ?_
        refine aDone (by kernel_rfl) ?_
        refine oBlk ?_
        refine oAgain ?_
        refine oHead [0, 1] [] (T' := [(0, .d (.int .u64 b5)), (1, .d (.int .u64 (Int.tmod a7 b5)))]) (H' := []) (by kernel_rfl) (by kernel_rfl) (by kernel_rfl) (by kernel_rfl) (by decide) (by kernel_rfl) (by kernel_rfl) ?_
        exact hag1 (b5, (Int.tmod a7 b5))
      · refine oCondF (by kernel_rfl) ?_
        refine oExit rfl ?_
        refine oHead [0] [] (T' := [(0, .d (.int .u64 a7))]) (H' := []) (by kernel_rfl) (by kernel_rfl) (by kernel_rfl) (by kernel_rfl) (by decide) (by kernel_rfl) (by kernel_rfl) ?_
        exact hj2 a7

/-- awardingbody/ratio.Valid -/
def ratio_Valid (k : Nat) (a0 : Int) (a1 : Int) : Option (Bool) := blet ((decide (a1 ≥ 1)) && (decide (a1 ≤ 1152921504606846976))) fun x12 => blet (x12 && (decide (a0 ≥ (-1152921504606846976)))) fun x13 => blet (x13 && (decide (a0 ≤ 1152921504606846976))) fun x14 => Option.bind (bif x14 then Option.bind (ratio_abs k a0) (fun r1 => Option.bind (ratio_gcd k r1 (IntKind.wrap .u64 a1)) (fun r11 => some (r11 == 1))) else some false : Option Bool) (fun x15 => some x15)
def ratio_Valid_E (a0 : Int) (a1 : Int) : Bool → V × List Blk := fun r12 => (.d (.bool r12), [])
theorem ratio_Valid_goes (k : Nat) (a0 : Int) (a1 : Int) : RunsO Try.prog 43 [.agg [.d (.int .i64 a0), .d (.int .i64 a1)]] [] (ratio_Valid_E a0 a1) (ratio_Valid k a0 a1) := by
  refine RunsO.of_goes (N := 31) (m := 0) (T := [(0, .agg [.d (.int .i64 a0), .d (.int .i64 a1)])]) Try.func43 rfl rfl (by kernel_rfl) (by kernel_rfl) (by kernel_rfl) ?_
  unfold ratio_Valid
  refine bStart ?_
  refine oSeq ?_
  refine oRegion rfl ?_
  refine oOp (.ptr 0 0) (by kernel_rfl) (by kernel_rfl) (k_box (H' := [.box [.d (.int .i64 a0), .d (.int .i64 a1)]]) (cells := [.d (.int .i64 a0), .d (.int .i64 a1)]) (by kernel_rfl) (by kernel_rfl) (by kernel_rfl)) ?_
  refine oOp (.d (.bool false)) (by kernel_rfl) (by kernel_rfl) (PureV.does (p_assign (by kernel_rfl))) ?_
  refine oEnd ?_
  refine oSeq ?_
  refine oDraw [(0, 29)] rfl ?_
  refine aTakeL (i := 0) (st' := []) (.ptr 0 1) rfl (by kernel_rfl) (by kernel_rfl) (by kernel_rfl) (by kernel_rfl) (by kernel_rfl) (by kernel_rfl) (by kernel_rfl) (PureV.quiet (k_fieldAddr 0 0 (by kernel_rfl) Try.underlying40 rfl ty3 (by kernel_rfl)) []) ?_
  refine aTakeL (i := 1) (st' := [0]) (.d (.int .i64 a1)) rfl (by kernel_rfl) (by kernel_rfl) (by kernel_rfl) (by kernel_rfl) (by kernel_rfl) (by kernel_rfl) (by kernel_rfl) (k_load 0 1 (by kernel_rfl) Try.underlying3 (by kernel_rfl) (by kernel_rfl)) ?_
  refine aTakeL (i := 2) (st' := []) (.d (.bool (decide (a1 ≥ 1)))) rfl (by kernel_rfl) (by kernel_rfl) (by kernel_rfl) (by kernel_rfl) (by kernel_rfl) (by kernel_rfl) (by kernel_rfl) (PureV.quiet (p_int (k := .i64) (p := a1) (q := 1) (by kernel_rfl) (by kernel_rfl) (by kernel_rfl)) []) ?_
  refine aTakeL (i := 3) (st' := []) (.d (.bool (decide (a1 ≥ 1)))) rfl (by kernel_rfl) (by kernel_rfl) (by kernel_rfl) (by kernel_rfl) (by kernel_rfl) (by kernel_rfl) (by kernel_rfl) (PureV.quiet (p_move (by kernel_rfl)) []) ?_
  refine dMeetF [7, 6, 5, 4, 3, 2, 1, 0] (fun (x12 : Bool) => [(1, .ptr 0 0), (10, .d (.bool x12))]) (fun (x12 : Bool) => [(1, .ptr 0 0), (10, .d (.bool x12))]) (H' := [.box [.d (.int .i64 a0), .d (.int .i64 a1)]]) (fun x12 => ?_) (fun F hj5 => ?_)
  · refine aTakeL (i := 8) (st' := []) (.d (.bool x12)) rfl (by kernel_rfl) (by kernel_rfl) (by kernel_rfl) (by kernel_rfl) (by kernel_rfl) (by kernel_rfl) (by kernel_rfl) (PureV.quiet (p_move (by kernel_rfl)) []) ?_
    refine dMeetF [12, 11, 10, 9, 8, 7, 6, 5, 4, 3, 2, 1, 0] (fun (x13 : Bool) => [(1, .ptr 0 0), (15, .d (.bool x13))]) (fun (x13 : Bool) => [(1, .ptr 0 0), (15, .d (.bool x13))]) (H' := [.box [.d (.int .i64 a0), .d (.int .i64 a1)]]) (fun x13 => ?_) (fun F hj6 => ?_)
    · refine aTakeL (i := 13) (st' := []) (.d (.bool x13)) rfl (by kernel_rfl) (by kernel_rfl) (by kernel_rfl) (by kernel_rfl) (by kernel_rfl) (by kernel_rfl) (by kernel_rfl) (PureV.quiet (p_move (by kernel_rfl)) []) ?_
      refine dMeetF [17, 16, 15, 14, 13, 12, 11, 10, 9, 8, 7, 6, 5, 4, 3, 2, 1, 0] (fun (x14 : Bool) => [(1, .ptr 0 0), (20, .d (.bool x14))]) (fun (x14 : Bool) => [(1, .ptr 0 0), (20, .d (.bool x14))]) (H' := [.box [.d (.int .i64 a0), .d (.int .i64 a1)]]) (fun x14 => ?_) (fun F hj7 => ?_)
      · refine aTakeL (i := 18) (st' := []) (.d (.bool x14)) rfl (by kernel_rfl) (by kernel_rfl) (by kernel_rfl) (by kernel_rfl) (by kernel_rfl) (by kernel_rfl) (by kernel_rfl) (PureV.quiet (p_move (by kernel_rfl)) []) ?_
        refine dMeet [27, 26, 25, 21, 24, 23, 22, 20, 19, 18, 17, 16, 15, 14, 13, 12, 11, 10, 9, 8, 7, 6, 5, 4, 3, 2, 1, 0] (fun (x15 : Bool) => [(30, .d (.bool x15))]) (fun (x15 : Bool) => [(30, .d (.bool x15))]) (fun _ => [.box [.d (.int .i64 a0), .d (.int .i64 a1)]]) (fun s => s) (fun x15 => ?_) (fun hj8 => ?_)
        · refine aTakeL (i := 28) (st' := []) (.d (.bool x15)) rfl (by kernel_rfl) (by kernel_rfl) (by kernel_rfl) (by kernel_rfl) (by kernel_rfl) (by kernel_rfl) (by kernel_rfl) (PureV.quiet (p_assign (by kernel_rfl)) []) ?_
          refine aDone (by kernel_rfl) ?_
          exact oRet (r0 := x15) (rv := .d (.bool x15)) (B := []) (vs := [.d (.bool x15)]) (σ := []) (by kernel_rfl) Try.func43 rfl (.cons _ _ _ _ (.tmp 2 _ (by kernel_rfl)) .nil) (by kernel_rfl) (by kernel_rfl) (by kernel_rfl) (by kernel_rfl) (by decide) (by kernel_rfl) (by kernel_rfl)
        · refine dSplit 21 (by kernel_rfl) (by kernel_rfl) (fun hc => ?_) (fun hc => ?_)
          · refine aTakeL (i := 19) (st' := []) (.ptr 0 0) rfl (by kernel_rfl) (by kernel_rfl) (by kernel_rfl) (by kernel_rfl) (by kernel_rfl) (by kernel_rfl) (by kernel_rfl) (PureV.quiet (k_fieldAddr 0 0 (by kernel_rfl) Try.underlying40 rfl ty3 (by kernel_rfl)) []) ?_
            refine aTakeL (i := 20) (st' := [0]) (.d (.int .i64 a0)) rfl (by kernel_rfl) (by kernel_rfl) (by kernel_rfl) (by kernel_rfl) (by kernel_rfl) (by kernel_rfl) (by kernel_rfl) (k_load 0 0 (by kernel_rfl) Try.underlying3 (by kernel_rfl) (by kernel_rfl)) ?_
            refine aTakeL (i := 22) (st' := []) (.ptr 0 1) rfl (by kernel_rfl) (by kernel_rfl) (by kernel_rfl) (by kernel_rfl) (by kernel_rfl) (by kernel_rfl) (by kernel_rfl) (PureV.quiet (k_fieldAddr 0 0 (by kernel_rfl) Try.underlying40 rfl ty3 (by kernel_rfl)) []) ?_
            refine aTakeL (i := 23) (st' := [0]) (.d (.int .i64 a1)) rfl (by kernel_rfl) (by kernel_rfl) (by kernel_rfl) (by kernel_rfl) (by kernel_rfl) (by kernel_rfl) (by kernel_rfl) (k_load 0 1 (by kernel_rfl) Try.underlying3 (by kernel_rfl) (by kernel_rfl)) ?_
            refine aTakeL (i := 24) (st' := []) (.d (.int .u64 (IntKind.wrap .u64 a1))) rfl (by kernel_rfl) (by kernel_rfl) (by kernel_rfl) (by kernel_rfl) (by kernel_rfl) (by kernel_rfl) (by kernel_rfl) (PureV.quiet (p_conv (k := .i64) (p := a1) (by kernel_rfl) Try.underlying3 Try.underlying56 (by kernel_rfl)) []) ?_
            refine dCall (i := 21) (caps := []) (v := (fun (r1 : Int) => (.d (.int .u64 r1) : V))) (H' := (fun (r1 : Int) => ([.box [.d (.int .i64 a0), .d (.int .i64 a1)]] : List Blk))) [] _ (ratio_abs_goes k a0) rfl (by kernel_rfl) (by kernel_rfl) (by kernel_rfl) (by kernel_rfl) (by kernel_rfl) (by kernel_rfl) (by kernel_rfl) (by kernel_rfl) rfl (by kernel_rfl) Try.func45 rfl (by kernel_rfl) (ConvRs.refl _ _) (by kernel_rfl) (by kernel_rfl) (by kernel_rfl) (by decide) (by kernel_rfl) (by kernel_rfl) (fun _ => (by kernel_rfl)) (fun _ => (by kernel_rfl)) (fun _ => (by kernel_rfl)) (fun r1 => ?_)
            refine dCall (i := 25) (caps := []) (v := (fun (r11 : Int) => (.d (.int .u64 r11) : V))) (H' := (fun (r11 : Int) => ([.box [.d (.int .i64 a0), .d (.int .i64 a1)]] : List Blk))) [] _ (ratio_gcd_goes k r1 (IntKind.wrap .u64 a1)) rfl (by kernel_rfl) (by kernel_rfl) (by kernel_rfl) (by kernel_rfl) (by kernel_rfl) (by kernel_rfl) (by kernel_rfl) (by kernel_rfl) rfl (by kernel_rfl) Try.func52 rfl (by kernel_rfl) (ConvRs.refl _ _) (by kernel_rfl) (by kernel_rfl) (by kernel_rfl) (by decide) (by kernel_rfl) (by kernel_rfl) (fun _ => (by kernel_rfl)) (fun _ => (by kernel_rfl)) (fun _ => (by kernel_rfl)) (fun r11 => ?_)
            refine aTakeL (i := 26) (st' := []) (.d (.bool (r11 == 1))) rfl (by kernel_rfl) (by kernel_rfl) (by kernel_rfl) (by kernel_rfl) (by kernel_rfl) (by kernel_rfl) (by kernel_rfl) (PureV.quiet (p_int (k := .u64) (p := r11) (q := 1) (by kernel_rfl) (by kernel_rfl) (by kernel_rfl)) []) ?_
            refine aTakeL (i := 27) (st' := []) (.d (.bool (r11 == 1))) rfl (by kernel_rfl) (by kernel_rfl) (by kernel_rfl) (by kernel_rfl) (by kernel_rfl) (by kernel_rfl) (by kernel_rfl) (PureV.quiet (p_pick (b := true) (by kernel_rfl) (by kernel_rfl)) []) ?_
            refine dDrop [30] [30] (T' := [(30, .d (.bool (r11 == 1)))]) (U' := [(30, .d (.bool (r11 == 1)))]) (by kernel_rfl) (by kernel_rfl) ?_
            exact hj8 (r11 == 1)
          · refine aTakeNot (i := 19) rfl (by kernel_rfl) (by kernel_rfl) (by kernel_rfl) (by kernel_rfl) (by kernel_rfl) (by kernel_rfl) (by kernel_rfl) ?_
            refine aTakeNot (i := 20) rfl (by kernel_rfl) (by kernel_rfl) (by kernel_rfl) (by kernel_rfl) (by kernel_rfl) (by kernel_rfl) (by kernel_rfl) ?_
            refine aTakeNot (i := 21) rfl (by kernel_rfl) (by kernel_rfl) (by kernel_rfl) (by kernel_rfl) (by kernel_rfl) (by kernel_rfl) (by kernel_rfl) ?_
            refine aTakeNot (i := 22) rfl (by kernel_rfl) (by kernel_rfl) (by kernel_rfl) (by kernel_rfl) (by kernel_rfl) (by kernel_rfl) (by kernel_rfl) ?_
            refine aTakeNot (i := 23) rfl (by kernel_rfl) (by kernel_rfl) (by kernel_rfl) (by kernel_rfl) (by kernel_rfl) (by kernel_rfl) (by kernel_rfl) ?_
            refine aTakeNot (i := 24) rfl (by kernel_rfl) (by kernel_rfl) (by kernel_rfl) (by kernel_rfl) (by kernel_rfl) (by kernel_rfl) (by kernel_rfl) ?_
            refine aTakeNot (i := 25) rfl (by kernel_rfl) (by kernel_rfl) (by kernel_rfl) (by kernel_rfl) (by kernel_rfl) (by kernel_rfl) (by kernel_rfl) ?_
            refine aTakeNot (i := 26) rfl (by kernel_rfl) (by kernel_rfl) (by kernel_rfl) (by kernel_rfl) (by kernel_rfl) (by kernel_rfl) (by kernel_rfl) ?_
            refine aTakeL (i := 27) (st' := []) (.d (.bool false)) rfl (by kernel_rfl) (by kernel_rfl) (by kernel_rfl) (by kernel_rfl) (by kernel_rfl) (by kernel_rfl) (by kernel_rfl) (PureV.quiet (p_pick (b := false) (by kernel_rfl) (by kernel_rfl)) []) ?_
            refine dDrop [30] [30] (T' := [(30, .d (.bool false))]) (U' := [(30, .d (.bool false))]) (by kernel_rfl) (by kernel_rfl) ?_
            refine dLv [27, 26, 25, 21, 24, 23, 22, 20, 19, 18, 17, 16, 15, 14, 13, 12, 11, 10, 9, 8, 7, 6, 5, 4, 3, 2, 1, 0] (by kernel_rfl) ?_
            exact hj8 false
      · refine dPickF 16 (fun c => F (c && (decide (a0 ≤ 1152921504606846976)))) (by kernel_rfl) (by kernel_rfl) (fun hc => ?_) (fun hc => ?_)
        · refine aTakeL (i := 14) (st' := []) (.ptr 0 0) rfl (by kernel_rfl) (by kernel_rfl) (by kernel_rfl) (by kernel_rfl) (by kernel_rfl) (by kernel_rfl) (by kernel_rfl) (PureV.quiet (k_fieldAddr 0 0 (by kernel_rfl) Try.underlying40 rfl ty3 (by kernel_rfl)) []) ?_
          refine aTakeL (i := 15) (st' := [0]) (.d (.int .i64 a0)) rfl (by kernel_rfl) (by kernel_rfl) (by kernel_rfl) (by kernel_rfl) (by kernel_rfl) (by kernel_rfl) (by kernel_rfl) (k_load 0 0 (by kernel_rfl) Try.underlying3 (by kernel_rfl) (by kernel_rfl)) ?_
          refine aTakeL (i := 16) (st' := []) (.d (.bool (decide (a0 ≤ 1152921504606846976)))) rfl (by kernel_rfl) (by kernel_rfl) (by kernel_rfl) (by kernel_rfl) (by kernel_rfl) (by kernel_rfl) (by kernel_rfl) (PureV.quiet (p_int (k := .i64) (p := a0) (q := 1152921504606846976) (by kernel_rfl) (by kernel_rfl) (by kernel_rfl)) []) ?_
          refine aTakeL (i := 17) (st' := []) (.d (.bool (decide (a0 ≤ 1152921504606846976)))) rfl (by kernel_rfl) (by kernel_rfl) (by kernel_rfl) (by kernel_rfl) (by kernel_rfl) (by kernel_rfl) (by kernel_rfl) (PureV.quiet (p_pick (b := true) (by kernel_rfl) (by kernel_rfl)) []) ?_
          refine dDrop [1, 20] [1, 20] (T' := [(1, .ptr 0 0), (20, .d (.bool (decide (a0 ≤ 1152921504606846976))))]) (U' := [(1, .ptr 0 0), (20, .d (.bool (decide (a0 ≤ 1152921504606846976))))]) (by kernel_rfl) (by kernel_rfl) ?_
          exact hj7 (decide (a0 ≤ 1152921504606846976))
        · refine aTakeNot (i := 14) rfl (by kernel_rfl) (by kernel_rfl) (by kernel_rfl) (by kernel_rfl) (by kernel_rfl) (by kernel_rfl) (by kernel_rfl) ?_
          refine aTakeNot (i := 15) rfl (by kernel_rfl) (by kernel_rfl) (by kernel_rfl) (by kernel_rfl) (by kernel_rfl) (by kernel_rfl) (by kernel_rfl) ?_
          refine aTakeNot (i := 16) rfl (by kernel_rfl) (by kernel_rfl) (by kernel_rfl) (by kernel_rfl) (by kernel_rfl) (by kernel_rfl) (by kernel_rfl) ?_
          refine aTakeL (i := 17) (st' := []) (.d (.bool false)) rfl (by kernel_rfl) (by kernel_rfl) (by kernel_rfl) (by kernel_rfl) (by kernel_rfl) (by kernel_rfl) (by kernel_rfl) (PureV.quiet (p_pick (b := false) (by kernel_rfl) (by kernel_rfl)) []) ?_
          refine dDrop [1, 20] [1, 20] (T' := [(1, .ptr 0 0), (20, .d (.bool false))]) (U' := [(1, .ptr 0 0), (20, .d (.bool false))]) (by kernel_rfl) (by kernel_rfl) ?_
          exact hj7 false
    · refine dPickF 11 (fun c => F (c && (decide (a0 ≥ (-1152921504606846976))))) (by kernel_rfl) (by kernel_rfl) (fun hc => ?_) (fun hc => ?_)
      · refine aTakeL (i := 9) (st' := []) (.ptr 0 0) rfl (by kernel_rfl) (by kernel_rfl) (by kernel_rfl) (by kernel_rfl) (by kernel_rfl) (by kernel_rfl) (by kernel_rfl) (PureV.quiet (k_fieldAddr 0 0 (by kernel_rfl) Try.underlying40 rfl ty3 (by kernel_rfl)) []) ?_
        refine aTakeL (i := 10) (st' := [0]) (.d (.int .i64 a0)) rfl (by kernel_rfl) (by kernel_rfl) (by kernel_rfl) (by kernel_rfl) (by kernel_rfl) (by kernel_rfl) (by kernel_rfl) (k_load 0 0 (by kernel_rfl) Try.underlying3 (by kernel_rfl) (by kernel_rfl)) ?_
        refine aTakeL (i := 11) (st' := []) (.d (.bool (decide (a0 ≥ (-1152921504606846976))))) rfl (by kernel_rfl) (by kernel_rfl) (by kernel_rfl) (by kernel_rfl) (by kernel_rfl) (by kernel_rfl) (by kernel_rfl) (PureV.quiet (p_int (k := .i64) (p := a0) (q := (-1152921504606846976)) (by kernel_rfl) (by kernel_rfl) (by kernel_rfl)) []) ?_
        refine aTakeL (i := 12) (st' := []) (.d (.bool (decide (a0 ≥ (-1152921504606846976))))) rfl (by kernel_rfl) (by kernel_rfl) (by kernel_rfl) (by kernel_rfl) (by kernel_rfl) (by kernel_rfl) (by kernel_rfl) (PureV.quiet (p_pick (b := true) (by kernel_rfl) (by kernel_rfl)) []) ?_
        refine dDrop [1, 15] [1, 15] (T' := [(1, .ptr 0 0), (15, .d (.bool (decide (a0 ≥ (-1152921504606846976)))))]) (U' := [(1, .ptr 0 0), (15, .d (.bool (decide (a0 ≥ (-1152921504606846976)))))]) (by kernel_rfl) (by kernel_rfl) ?_
        exact hj6 (decide (a0 ≥ (-1152921504606846976)))
      · refine aTakeNot (i := 9) rfl (by kernel_rfl) (by kernel_rfl) (by kernel_rfl) (by kernel_rfl) (by kernel_rfl) (by kernel_rfl) (by kernel_rfl) ?_
        refine aTakeNot (i := 10) rfl (by kernel_rfl) (by kernel_rfl) (by kernel_rfl) (by kernel_rfl) (by kernel_rfl) (by kernel_rfl) (by kernel_rfl) ?_
        refine aTakeNot (i := 11) rfl (by kernel_rfl) (by kernel_rfl) (by kernel_rfl) (by kernel_rfl) (by kernel_rfl) (by kernel_rfl) (by kernel_rfl) ?_
        refine aTakeL (i := 12) (st' := []) (.d (.bool false)) rfl (by kernel_rfl) (by kernel_rfl) (by kernel_rfl) (by kernel_rfl) (by kernel_rfl) (by kernel_rfl) (by kernel_rfl) (PureV.quiet (p_pick (b := false) (by kernel_rfl) (by kernel_rfl)) []) ?_
        refine dDrop [1, 15] [1, 15] (T' := [(1, .ptr 0 0), (15, .d (.bool false))]) (U' := [(1, .ptr 0 0), (15, .d (.bool false))]) (by kernel_rfl) (by kernel_rfl) ?_
        exact hj6 false
  · refine dPickF 6 (fun c => F (c && (decide (a1 ≤ 1152921504606846976)))) (by kernel_rfl) (by kernel_rfl) (fun hc => ?_) (fun hc => ?_)
    · refine aTakeL (i := 4) (st' := []) (.ptr 0 1) rfl (by kernel_rfl) (by kernel_rfl) (by kernel_rfl) (by kernel_rfl) (by kernel_rfl) (by kernel_rfl) (by kernel_rfl) (PureV.quiet (k_fieldAddr 0 0 (by kernel_rfl) Try.underlying40 rfl ty3 (by kernel_rfl)) []) ?_
      refine aTakeL (i := 5) (st' := [0]) (.d (.int .i64 a1)) rfl (by kernel_rfl) (by kernel_rfl) (by kernel_rfl) (by kernel_rfl) (by kernel_rfl) (by kernel_rfl) (by kernel_rfl) (k_load 0 1 (by kernel_rfl) Try.underlying3 (by kernel_rfl) (by kernel_rfl)) ?_
      refine aTakeL (i := 6) (st' := []) (.d (.bool (decide (a1 ≤ 1152921504606846976)))) rfl (by kernel_rfl) (by kernel_rfl) (by kernel_rfl) (by kernel_rfl) (by kernel_rfl) (by kernel_rfl) (by kernel_rfl) (PureV.quiet (p_int (k := .i64) (p := a1) (q := 1152921504606846976) (by kernel_rfl) (by kernel_rfl) (by kernel_rfl)) []) ?_
      refine aTakeL (i := 7) (st' := []) (.d (.bool (decide (a1 ≤ 1152921504606846976)))) rfl (by kernel_rfl) (by kernel_rfl) (by kernel_rfl) (by kernel_rfl) (by kernel_rfl) (by kernel_rfl) (by kernel_rfl) (PureV.quiet (p_pick (b := true) (by kernel_rfl) (by kernel_rfl)) []) ?_
      refine dDrop [1, 10] [1, 10] (T' := [(1, .ptr 0 0), (10, .d (.bool (decide (a1 ≤ 1152921504606846976))))]) (U' := [(1, .ptr 0 0), (10, .d (.bool (decide (a1 ≤ 1152921504606846976))))]) (by kernel_rfl) (by kernel_rfl) ?_
      exact hj5 (decide (a1 ≤ 1152921504606846976))
    · refine aTakeNot (i := 4) rfl (by kernel_rfl) (by kernel_rfl) (by kernel_rfl) (by kernel_rfl) (by kernel_rfl) (by kernel_rfl) (by kernel_rfl) ?_
      refine aTakeNot (i := 5) rfl (by kernel_rfl) (by kernel_rfl) (by kernel_rfl) (by kernel_rfl) (by kernel_rfl) (by kernel_rfl) (by kernel_rfl) ?_
      refine aTakeNot (i := 6) rfl (by kernel_rfl) (by kernel_rfl) (by kernel_rfl) (by kernel_rfl) (by kernel_rfl) (by kernel_rfl) (by kernel_rfl) ?_
      refine aTakeL (i := 7) (st' := []) (.d (.bool false)) rfl (by kernel_rfl) (by kernel_rfl) (by kernel_rfl) (by kernel_rfl) (by kernel_rfl) (by kernel_rfl) (by kernel_rfl) (PureV.quiet (p_pick (b := false) (by kernel_rfl) (by kernel_rfl)) []) ?_
      refine dDrop [1, 10] [1, 10] (T' := [(1, .ptr 0 0), (10, .d (.bool false))]) (U' := [(1, .ptr 0 0), (10, .d (.bool false))]) (by kernel_rfl) (by kernel_rfl) ?_
      exact hj5 false

/-- awardingbody/distribution.Count -/
def distribution_Count (k : Nat) (d0 : (List Int)) : Option (Int) := Option.bind (distribution_Valid k d0) (fun r121 => bif (!r121) then some 0 else Option.bind (distribution_sum k d0) (fun r13 => some r13))
def distribution_Count_E (d0 : (List Int)) : Int → V × List Blk := fun r11 => (.d (.int .i64 r11), [])
theorem distribution_Count_goes (k : Nat) (d0 : (List Int)) : RunsO Try.prog 34 [.agg [.d (.lit (List.map e_i64 d0))]] [] (distribution_Count_E d0) (distribution_Count k d0) := by
  refine RunsO.of_goes (N := 9) (m := 0) (T := [(0, .agg [.d (.lit (List.map e_i64 d0))])]) Try.func34 rfl rfl (by kernel_rfl) (by kernel_rfl) (by kernel_rfl) ?_
  unfold distribution_Count
  refine bStart ?_
  refine oSeq ?_
  refine oRegion rfl ?_
  refine oOp (.ptr 0 0) (by kernel_rfl) (by kernel_rfl) (k_box (H' := [.box [.d (.lit (List.map e_i64 d0))]]) (cells := [.d (.lit (List.map e_i64 d0))]) (by kernel_rfl) (by kernel_rfl) (by kernel_rfl)) ?_
  refine oOp (.d (.int .i64 0)) (by kernel_rfl) (by kernel_rfl) (PureV.does (p_assign (by kernel_rfl))) ?_
  refine oEnd ?_
  refine oSeq ?_
  refine oSeq ?_
  refine oRegion rfl ?_
  refine oOp (.agg [.d (.lit (List.map e_i64 d0))]) (by kernel_rfl) (by kernel_rfl) (Quiet.does (k_loadAgg 0 0 (by kernel_rfl) Try.underlying28 (by kernel_rfl) ty28 (by kernel_rfl))) ?_
  refine bCall (caps := []) (v := (fun (r121 : Bool) => (.d (.bool r121) : V))) (H' := (fun (r121 : Bool) => ([.box [.d (.lit (List.map e_i64 d0))]] : List Blk))) [] _ (distribution_Valid_goes k d0) (by kernel_rfl) (by kernel_rfl) rfl (by kernel_rfl) Try.func27 rfl (by kernel_rfl) (ConvRs.refl _ _) (by kernel_rfl) (by kernel_rfl) (by kernel_rfl) (by decide) (by kernel_rfl) (by kernel_rfl) (fun _ => (by kernel_rfl)) (fun _ => (by kernel_rfl)) (fun _ => (by kernel_rfl)) (fun r121 => ?_)
  refine oOp (.d (.bool (!r121))) (by kernel_rfl) (by kernel_rfl) (PureV.does (p_not (p := r121) (by kernel_rfl) (by kernel_rfl))) ?_
  refine oEnd ?_
  refine bSplit 5 (by kernel_rfl) (fun hc => ?_) (fun hc => ?_)
  · refine oCondT (by kernel_rfl) ?_
    refine oSeq ?_
    refine oRegion rfl ?_
    refine oOp (.d (.int .i64 0)) (by kernel_rfl) (by kernel_rfl) (PureV.does (p_assign (by kernel_rfl))) ?_
    refine oEnd ?_
    exact oRet (r0 := 0) (rv := .d (.int .i64 0)) (B := []) (vs := [.d (.int .i64 0)]) (σ := []) (by kernel_rfl) Try.func34 rfl (.cons _ _ _ _ (.tmp 2 _ (by kernel_rfl)) .nil) (by kernel_rfl) (by kernel_rfl) (by kernel_rfl) (by kernel_rfl) (by decide) (by kernel_rfl) (by kernel_rfl)
  · refine oCondF (by kernel_rfl) ?_
    refine oSkip ?_
    refine oSeq ?_
    refine oRegion rfl ?_
    refine oOp (.ptr 0 0) (by kernel_rfl) (by kernel_rfl) (PureV.does (k_fieldAddr 0 0 (by kernel_rfl) Try.underlying28 rfl ty22 (by kernel_rfl))) ?_
    refine oOp (.d (.lit (List.map e_i64 d0))) (by kernel_rfl) (by kernel_rfl) (Quiet.does (k_load 0 0 (by kernel_rfl) Try.underlying22 (by kernel_rfl) (by kernel_rfl))) ?_
    refine bCall (caps := []) (v := (fun (r13 : Int) => (.d (.int .i64 r13) : V))) (H' := (fun (r13 : Int) => ([.box [.d (.lit (List.map e_i64 d0))]] : List Blk))) [] _ (distribution_sum_goes k d0) (by kernel_rfl) (by kernel_rfl) rfl (by kernel_rfl) Try.func40 rfl (by kernel_rfl) (ConvRs.refl _ _) (by kernel_rfl) (by kernel_rfl) (by kernel_rfl) (by decide) (by kernel_rfl) (by kernel_rfl) (fun _ => (by kernel_rfl)) (fun _ => (by kernel_rfl)) (fun _ => (by kernel_rfl)) (fun r13 => ?_)
    refine oOp (.d (.int .i64 r13)) (by kernel_rfl) (by kernel_rfl) (PureV.does (p_assign (by kernel_rfl))) ?_
    refine oEnd ?_
    exact oRet (r0 := r13) (rv := .d (.int .i64 r13)) (B := []) (vs := [.d (.int .i64 r13)]) (σ := []) (by kernel_rfl) Try.func34 rfl (.cons _ _ _ _ (.tmp 2 _ (by kernel_rfl)) .nil) (by kernel_rfl) (by kernel_rfl) (by kernel_rfl) (by kernel_rfl) (by decide) (by kernel_rfl) (by kernel_rfl)

/-- awardingbody/boundary.check -/
def boundary_check (k : Nat) (d0 : (List Int)) (share0 : Int) (share1 : Int) : Option (Int) := Option.bind (distribution_Valid k d0) (fun r126 => Option.bind (bif (!r126) then some true else Option.bind (ratio_Valid k share0 share1) (fun r128 => some (!r128)) : Option (Bool)) (fun x8 => bif x8 then some 1 else Option.bind (distribution_Count k d0) (fun r115 => bif (r115 == 0) then some 10 else blet ((decide (share0 < 0)) || (decide (share0 > share1))) fun x11 => bif x11 then some 2 else some 0)))
def boundary_check_E (d0 : (List Int)) (share0 : Int) (share1 : Int) : Int → V × List Blk := fun r1 => (.d (.int .i64 r1), [])
theorem boundary_check_goes (k : Nat) (d0 : (List Int)) (share0 : Int) (share1 : Int) : RunsO Try.prog 31 [.agg [.d (.lit (List.map e_i64 d0))], .agg [.d (.int .i64 share0), .d (.int .i64 share1)]] [] (boundary_check_E d0 share0 share1) (boundary_check k d0 share0 share1) := by
  refine RunsO.of_goes (N := 29) (m := 0) (T := [(0, .agg [.d (.lit (List.map e_i64 d0))]), (1, .agg [.d (.int .i64 share0), .d (.int .i64 share1)])]) Try.func31 rfl rfl (by kernel_rfl) (by kernel_rfl) (by kernel_rfl) ?_
  unfold boundary_check
  refine bStart ?_
  refine oSeq ?_
  refine oRegion rfl ?_
  refine oOp (.ptr 0 0) (by kernel_rfl) (by kernel_rfl) (k_box (H' := [.box [.d (.lit (List.map e_i64 d0))]]) (cells := [.d (.lit (List.map e_i64 d0))]) (by kernel_rfl) (by kernel_rfl) (by kernel_rfl)) ?_
  refine oOp (.ptr 1 0) (by kernel_rfl) (by kernel_rfl) (k_box (H' := [.box [.d (.lit (List.map e_i64 d0))], .box [.d (.int .i64 share0), .d (.int .i64 share1)]]) (cells := [.d (.int .i64 share0), .d (.int .i64 share1)]) (by kernel_rfl) (by kernel_rfl) (by kernel_rfl)) ?_
  refine oOp (.d (.int .i64 0)) (by kernel_rfl) (by kernel_rfl) (PureV.does (p_assign (by kernel_rfl))) ?_
  refine oEnd ?_
  refine oSeq ?_
  refine oBlock ?_
  refine oSeq ?_
  refine oRegion rfl ?_
  refine oOp (.agg [.d (.lit (List.map e_i64 d0))]) (by kernel_rfl) (by kernel_rfl) (Quiet.does (k_loadAgg 0 0 (by kernel_rfl) Try.underlying28 (by kernel_rfl) ty28 (by kernel_rfl))) ?_
  refine bCall (caps := []) (v := (fun (r126 : Bool) => (.d (.bool r126) : V))) (H' := (fun (r126 : Bool) => ([.box [.d (.lit (List.map e_i64 d0))], .box [.d (.int .i64 share0), .d (.int .i64 share1)]] : List Blk))) [] _ (distribution_Valid_goes k d0) (by kernel_rfl) (by kernel_rfl) rfl (by kernel_rfl) Try.func27 rfl (by kernel_rfl) (ConvRs.refl _ _) (by kernel_rfl) (by kernel_rfl) (by kernel_rfl) (by decide) (by kernel_rfl) (by kernel_rfl) (fun _ => (by kernel_rfl)) (fun _ => (by kernel_rfl)) (fun _ => (by kernel_rfl)) (fun r126 => ?_)
  refine oOp (.d (.bool (!r126))) (by kernel_rfl) (by kernel_rfl) (PureV.does (p_not (p := r126) (by kernel_rfl) (by kernel_rfl))) ?_
  refine oOp (.d (.bool (!r126))) (by kernel_rfl) (by kernel_rfl) (PureV.does (p_move (by kernel_rfl))) ?_
  refine bMeet 4 rfl ((fun (x8 : Bool) => [(2, .ptr 0 0), (3, .ptr 1 0), (13, .d (.bool x8))])) ((fun (x8 : Bool) => [.box [.d (.lit (List.map e_i64 d0))], .box [.d (.int .i64 share0), .d (.int .i64 share1)]])) (fun s => s) (fun x8 => ?_) (fun hj2 => ?_)
  · refine oView (T' := [(2, .ptr 0 0), (3, .ptr 1 0), (13, .d (.bool x8))]) (H' := [.box [.d (.lit (List.map e_i64 d0))], .box [.d (.int .i64 share0), .d (.int .i64 share1)]]) (by kernel_rfl) (by kernel_rfl) ?_
    refine oOp (.d (.bool x8)) (by kernel_rfl) (by kernel_rfl) (PureV.does (p_assign (by kernel_rfl))) ?_
    refine oEnd ?_
    refine bSplit 5 (by kernel_rfl) (fun hc => ?_) (fun hc => ?_)
    · refine oCondT (by kernel_rfl) ?_
      refine oSeq ?_
      refine oRegion rfl ?_
      refine oOp (.d (.int .i64 1)) (by kernel_rfl) (by kernel_rfl) (PureV.does (p_assign (by kernel_rfl))) ?_
      refine oEnd ?_
      exact oRet (r0 := 1) (rv := .d (.int .i64 1)) (B := []) (vs := [.d (.int .i64 1)]) (σ := []) (by kernel_rfl) Try.func31 rfl (.cons _ _ _ _ (.tmp 4 _ (by kernel_rfl)) .nil) (by kernel_rfl) (by kernel_rfl) (by kernel_rfl) (by kernel_rfl) (by decide) (by kernel_rfl) (by kernel_rfl)
    · refine oCondF (by kernel_rfl) ?_
      refine oSeq ?_
      refine oRegion rfl ?_
      refine oOp (.agg [.d (.lit (List.map e_i64 d0))]) (by kernel_rfl) (by kernel_rfl) (Quiet.does (k_loadAgg 0 0 (by kernel_rfl) Try.underlying28 (by kernel_rfl) ty28 (by kernel_rfl))) ?_
      refine bCall (caps := []) (v := (fun (r115 : Int) => (.d (.int .i64 r115) : V))) (H' := (fun (r115 : Int) => ([.box [.d (.lit (List.map e_i64 d0))], .box [.d (.int .i64 share0), .d (.int .i64 share1)]] : List Blk))) [] _ (distribution_Count_goes k d0) (by kernel_rfl) (by kernel_rfl) rfl (by kernel_rfl) Try.func34 rfl (by kernel_rfl) (ConvRs.refl _ _) (by kernel_rfl) (by kernel_rfl) (by kernel_rfl) (by decide) (by kernel_rfl) (by kernel_rfl) (fun _ => (by kernel_rfl)) (fun _ => (by kernel_rfl)) (fun _ => (by kernel_rfl)) (fun r115 => ?_)
      refine oOp (.d (.bool (r115 == 0))) (by kernel_rfl) (by kernel_rfl) (PureV.does (p_int (k := .i64) (p := r115) (q := 0) (by kernel_rfl) (by kernel_rfl) (by kernel_rfl))) ?_
      refine oOp (.d (.bool (r115 == 0))) (by kernel_rfl) (by kernel_rfl) (PureV.does (p_assign (by kernel_rfl))) ?_
      refine oEnd ?_
      refine bSplit 14 (by kernel_rfl) (fun hc => ?_) (fun hc => ?_)
      · refine oCondT (by kernel_rfl) ?_
        refine oSeq ?_
        refine oRegion rfl ?_
        refine oOp (.d (.int .i64 10)) (by kernel_rfl) (by kernel_rfl) (PureV.does (p_assign (by kernel_rfl))) ?_
        refine oEnd ?_
        exact oRet (r0 := 10) (rv := .d (.int .i64 10)) (B := []) (vs := [.d (.int .i64 10)]) (σ := []) (by kernel_rfl) Try.func31 rfl (.cons _ _ _ _ (.tmp 4 _ (by kernel_rfl)) .nil) (by kernel_rfl) (by kernel_rfl) (by kernel_rfl) (by kernel_rfl) (by decide) (by kernel_rfl) (by kernel_rfl)
      · refine oCondF (by kernel_rfl) ?_
        refine oSeq ?_
        refine oRegion rfl ?_
        refine oOp (.ptr 1 0) (by kernel_rfl) (by kernel_rfl) (PureV.does (k_fieldAddr 1 0 (by kernel_rfl) Try.underlying40 rfl ty3 (by kernel_rfl))) ?_
        refine oOp (.d (.int .i64 share0)) (by kernel_rfl) (by kernel_rfl) (Quiet.does (k_load 1 0 (by kernel_rfl) Try.underlying3 (by kernel_rfl) (by kernel_rfl))) ?_
        refine oOp (.d (.bool (decide (share0 < 0)))) (by kernel_rfl) (by kernel_rfl) (PureV.does (p_int (k := .i64) (p := share0) (q := 0) (by kernel_rfl) (by kernel_rfl) (by kernel_rfl))) ?_
        refine oOp (.d (.bool (decide (share0 < 0)))) (by kernel_rfl) (by kernel_rfl) (PureV.does (p_move (by kernel_rfl))) ?_
        refine bMeetF (H' := []) 6 rfl ((fun (x11 : Bool) => [(28, .d (.bool x11))])) (fun x11 => ?_) (fun F hj1 => ?_)
        · refine oView (T' := [(28, .d (.bool x11))]) (H' := []) (by kernel_rfl) (by kernel_rfl) ?_
          refine oOp (.d (.bool x11)) (by kernel_rfl) (by kernel_rfl) (PureV.does (p_assign (by kernel_rfl))) ?_
          refine oEnd ?_
          refine bSplit 18 (by kernel_rfl) (fun hc => ?_) (fun hc => ?_)
          · refine oCondT (by kernel_rfl) ?_
            refine oSeq ?_
            refine oRegion rfl ?_
            refine oOp (.d (.int .i64 2)) (by kernel_rfl) (by kernel_rfl) (PureV.does (p_assign (by kernel_rfl))) ?_
            refine oEnd ?_
            exact oRet (r0 := 2) (rv := .d (.int .i64 2)) (B := []) (vs := [.d (.int .i64 2)]) (σ := []) (by kernel_rfl) Try.func31 rfl (.cons _ _ _ _ (.tmp 4 _ (by kernel_rfl)) .nil) (by kernel_rfl) (by kernel_rfl) (by kernel_rfl) (by kernel_rfl) (by decide) (by kernel_rfl) (by kernel_rfl)
          · refine oCondF (by kernel_rfl) ?_
            refine oSkip ?_
            refine oBlk ?_
            refine oSeq ?_
            refine oRegion rfl ?_
            refine oOp (.d (.int .i64 0)) (by kernel_rfl) (by kernel_rfl) (PureV.does (p_assign (by kernel_rfl))) ?_
            refine oEnd ?_
            exact oRet (r0 := 0) (rv := .d (.int .i64 0)) (B := []) (vs := [.d (.int .i64 0)]) (σ := []) (by kernel_rfl) Try.func31 rfl (.cons _ _ _ _ (.tmp 4 _ (by kernel_rfl)) .nil) (by kernel_rfl) (by kernel_rfl) (by kernel_rfl) (by kernel_rfl) (by decide) (by kernel_rfl) (by kernel_rfl)
        · refine bPickF 22 (fun c => F (c || (decide (share0 > share1)))) (by kernel_rfl) (fun hc => ?_) (fun hc => ?_)
          · refine oNot (by kernel_rfl) (by kernel_rfl) ?_
            refine oNot (by kernel_rfl) (by kernel_rfl) ?_
            refine oNot (by kernel_rfl) (by kernel_rfl) ?_
            refine oNot (by kernel_rfl) (by kernel_rfl) ?_
            refine oNot (by kernel_rfl) (by kernel_rfl) ?_
            refine oOp (.d (.bool true)) (by kernel_rfl) (by kernel_rfl) (PureV.does (p_pick (b := true) (by kernel_rfl) (by kernel_rfl))) ?_
            refine oHead [28] [] (T' := [(28, .d (.bool true))]) (H' := []) (by kernel_rfl) (by kernel_rfl) (by kernel_rfl) (by kernel_rfl) (by decide) (by kernel_rfl) (by kernel_rfl) ?_
            exact hj1 true
          · refine oOp (.ptr 1 0) (by kernel_rfl) (by kernel_rfl) (PureV.does (k_fieldAddr 1 0 (by kernel_rfl) Try.underlying40 rfl ty3 (by kernel_rfl))) ?_
            refine oOp (.d (.int .i64 share0)) (by kernel_rfl) (by kernel_rfl) (Quiet.does (k_load 1 0 (by kernel_rfl) Try.underlying3 (by kernel_rfl) (by kernel_rfl))) ?_
            refine oOp (.ptr 1 1) (by kernel_rfl) (by kernel_rfl) (PureV.does (k_fieldAddr 1 0 (by kernel_rfl) Try.underlying40 rfl ty3 (by kernel_rfl))) ?_
            refine oOp (.d (.int .i64 share1)) (by kernel_rfl) (by kernel_rfl) (Quiet.does (k_load 1 1 (by kernel_rfl) Try.underlying3 (by kernel_rfl) (by kernel_rfl))) ?_
            refine oOp (.d (.bool (decide (share0 > share1)))) (by kernel_rfl) (by kernel_rfl) (PureV.does (p_int (k := .i64) (p := share0) (q := share1) (by kernel_rfl) (by kernel_rfl) (by kernel_rfl))) ?_
            refine oOp (.d (.bool (decide (share0 > share1)))) (by kernel_rfl) (by kernel_rfl) (PureV.does (p_pick (b := false) (by kernel_rfl) (by kernel_rfl))) ?_
            refine oHead [28] [] (T' := [(28, .d (.bool (decide (share0 > share1))))]) (H' := []) (by kernel_rfl) (by kernel_rfl) (by kernel_rfl) (by kernel_rfl) (by decide) (by kernel_rfl) (by kernel_rfl) ?_
            exact hj1 (decide (share0 > share1))
  · refine bSplit 9 (by kernel_rfl) (fun hc => ?_) (fun hc => ?_)
    · refine oNot (by kernel_rfl) (by kernel_rfl) ?_
      refine oNot (by kernel_rfl) (by kernel_rfl) ?_
      refine oNot (by kernel_rfl) (by kernel_rfl) ?_
      refine oOp (.d (.bool true)) (by kernel_rfl) (by kernel_rfl) (PureV.does (p_pick (b := true) (by kernel_rfl) (by kernel_rfl))) ?_
      refine oHead [2, 3, 13] [0, 1] (T' := [(2, .ptr 0 0), (3, .ptr 1 0), (13, .d (.bool true))]) (H' := [.box [.d (.lit (List.map e_i64 d0))], .box [.d (.int .i64 share0), .d (.int .i64 share1)]]) (by kernel_rfl) (by kernel_rfl) (by kernel_rfl) (by kernel_rfl) (by decide) (by kernel_rfl) (by kernel_rfl) ?_
      exact hj2 true
    · refine oOp (.agg [.d (.int .i64 share0), .d (.int .i64 share1)]) (by kernel_rfl) (by kernel_rfl) (Quiet.does (k_loadAgg 1 0 (by kernel_rfl) Try.underlying40 (by kernel_rfl) ty40 (by kernel_rfl))) ?_
      refine bCall (caps := []) (v := (fun (r128 : Bool) => (.d (.bool r128) : V))) (H' := (fun (r128 : Bool) => ([.box [.d (.lit (List.map e_i64 d0))], .box [.d (.int .i64 share0), .d (.int .i64 share1)]] : List Blk))) [] _ (ratio_Valid_goes k share0 share1) (by kernel_rfl) (by kernel_rfl) rfl (by kernel_rfl) Try.func43 rfl (by kernel_rfl) (ConvRs.refl _ _) (by kernel_rfl) (by kernel_rfl) (by kernel_rfl) (by decide) (by kernel_rfl) (by kernel_rfl) (fun _ => (by kernel_rfl)) (fun _ => (by kernel_rfl)) (fun _ => (by kernel_rfl)) (fun r128 => ?_)
      refine oOp (.d (.bool (!r128))) (by kernel_rfl) (by kernel_rfl) (PureV.does (p_not (p := r128) (by kernel_rfl) (by kernel_rfl))) ?_
      refine oOp (.d (.bool (!r128))) (by kernel_rfl) (by kernel_rfl) (PureV.does (p_pick (b := false) (by kernel_rfl) (by kernel_rfl))) ?_
      refine oHead [2, 3, 13] [0, 1] (T' := [(2, .ptr 0 0), (3, .ptr 1 0), (13, .d (.bool (!r128)))]) (H' := [.box [.d (.lit (List.map e_i64 d0))], .box [.d (.int .i64 share0), .d (.int .i64 share1)]]) (by kernel_rfl) (by kernel_rfl) (by kernel_rfl) (by kernel_rfl) (by decide) (by kernel_rfl) (by kernel_rfl) ?_
      exact hj2 (!r128)

/-- awardingbody/distribution.Below -/
def distribution_Below (k : Nat) (d0 : (List Int)) (score : Int) : Option (Int) := Option.bind (distribution_Valid k d0) (fun r121 => bif (!r121) then some 0 else gcut 0 (gmin (gmax score 0) ((List.length d0) : Int)) ((List.length d0) : Int) (Option.bind (distribution_sum k (List.take (Int.toNat (gmin (gmax score 0) ((List.length d0) : Int))) d0)) (fun r13 => some r13)))
def distribution_Below_E (d0 : (List Int)) (score : Int) : Int → V × List Blk := fun r11 => (.d (.int .i64 r11), [])
theorem distribution_Below_goes (k : Nat) (d0 : (List Int)) (score : Int) : RunsO Try.prog 46 [.agg [.d (.lit (List.map e_i64 d0))], .d (.int .i64 score)] [] (distribution_Below_E d0 score) (distribution_Below k d0 score) := by
  refine RunsO.of_goes (N := 18) (m := 0) (T := [(0, .agg [.d (.lit (List.map e_i64 d0))]), (1, .d (.int .i64 score))]) Try.func46 rfl rfl (by kernel_rfl) (by kernel_rfl) (by kernel_rfl) ?_
  unfold distribution_Below
  refine bStart ?_
  refine oSeq ?_
  refine oRegion rfl ?_
  refine oOp (.ptr 0 0) (by kernel_rfl) (by kernel_rfl) (k_box (H' := [.box [.d (.lit (List.map e_i64 d0))]]) (cells := [.d (.lit (List.map e_i64 d0))]) (by kernel_rfl) (by kernel_rfl) (by kernel_rfl)) ?_
  refine oOp (.d (.int .i64 0)) (by kernel_rfl) (by kernel_rfl) (PureV.does (p_assign (by kernel_rfl))) ?_
  refine oEnd ?_
  refine oSeq ?_
  refine oSeq ?_
  refine oRegion rfl ?_
  refine oOp (.agg [.d (.lit (List.map e_i64 d0))]) (by kernel_rfl) (by kernel_rfl) (Quiet.does (k_loadAgg 0 0 (by kernel_rfl) Try.underlying28 (by kernel_rfl) ty28 (by kernel_rfl))) ?_
  refine bCall (caps := []) (v := (fun (r121 : Bool) => (.d (.bool r121) : V))) (H' := (fun (r121 : Bool) => ([.box [.d (.lit (List.map e_i64 d0))]] : List Blk))) [] _ (distribution_Valid_goes k d0) (by kernel_rfl) (by kernel_rfl) rfl (by kernel_rfl) Try.func27 rfl (by kernel_rfl) (ConvRs.refl _ _) (by kernel_rfl) (by kernel_rfl) (by kernel_rfl) (by decide) (by kernel_rfl) (by kernel_rfl) (fun _ => (by kernel_rfl)) (fun _ => (by kernel_rfl)) (fun _ => (by kernel_rfl)) (fun r121 => ?_)
  refine oOp (.d (.bool (!r121))) (by kernel_rfl) (by kernel_rfl) (PureV.does (p_not (p := r121) (by kernel_rfl) (by kernel_rfl))) ?_
  refine oEnd ?_
  refine bSplit 7 (by kernel_rfl) (fun hc => ?_) (fun hc => ?_)
  · refine oCondT (by kernel_rfl) ?_
    refine oSeq ?_
    refine oRegion rfl ?_
    refine oOp (.d (.int .i64 0)) (by kernel_rfl) (by kernel_rfl) (PureV.does (p_assign (by kernel_rfl))) ?_
    refine oEnd ?_
    exact oRet (r0 := 0) (rv := .d (.int .i64 0)) (B := []) (vs := [.d (.int .i64 0)]) (σ := []) (by kernel_rfl) Try.func46 rfl (.cons _ _ _ _ (.tmp 4 _ (by kernel_rfl)) .nil) (by kernel_rfl) (by kernel_rfl) (by kernel_rfl) (by kernel_rfl) (by decide) (by kernel_rfl) (by kernel_rfl)
  · refine oCondF (by kernel_rfl) ?_
    refine oSkip ?_
    refine oSeq ?_
    refine oRegion rfl ?_
    refine oOp (.ptr 0 0) (by kernel_rfl) (by kernel_rfl) (PureV.does (k_fieldAddr 0 0 (by kernel_rfl) Try.underlying28 rfl ty22 (by kernel_rfl))) ?_
    refine oOp (.d (.lit (List.map e_i64 d0))) (by kernel_rfl) (by kernel_rfl) (Quiet.does (k_load 0 0 (by kernel_rfl) Try.underlying22 (by kernel_rfl) (by kernel_rfl))) ?_
    refine oOp (.d (.int .i64 score)) (by kernel_rfl) (by kernel_rfl) (PureV.does (p_move (by kernel_rfl))) ?_
    refine oOp (.d (.int .i64 (gmax score 0))) (by kernel_rfl) (by kernel_rfl) (PureV.does (p_max2 (k := .i64) (p := score) (q := 0) (by kernel_rfl) (by kernel_rfl) (by kernel_rfl))) ?_
    refine oOp (.ptr 0 0) (by kernel_rfl) (by kernel_rfl) (PureV.does (k_fieldAddr 0 0 (by kernel_rfl) Try.underlying28 rfl ty22 (by kernel_rfl))) ?_
    refine oOp (.d (.lit (List.map e_i64 d0))) (by kernel_rfl) (by kernel_rfl) (Quiet.does (k_load 0 0 (by kernel_rfl) Try.underlying22 (by kernel_rfl) (by kernel_rfl))) ?_
    refine oOp (.d (.int .i64 ((List.length d0) : Int))) (by kernel_rfl) (by kernel_rfl) (PureV.does (k_lenLit (enc := e_i64) d0 (by kernel_rfl) Try.underlying22)) ?_
    refine oOp (.d (.int .i64 (gmin (gmax score 0) ((List.length d0) : Int)))) (by kernel_rfl) (by kernel_rfl) (PureV.does (p_min2 (k := .i64) (p := (gmax score 0)) (q := ((List.length d0) : Int)) (by kernel_rfl) (by kernel_rfl) (by kernel_rfl))) ?_
    refine bCut (fun h13 h14 h15 => ?_)
    refine oOp (.d (.lit (List.map e_i64 (List.take (Int.toNat (gmin (gmax score 0) ((List.length d0) : Int))) d0)))) (by kernel_rfl) (by kernel_rfl) (PureV.does (k_cutH (k2 := .i64) (h := (gmin (gmax score 0) ((List.length d0) : Int))) e_i64_len d0 (by kernel_rfl) (by kernel_rfl) Try.underlying22 ty3 h14 h15)) ?_
    refine bCall (caps := []) (v := (fun (r13 : Int) => (.d (.int .i64 r13) : V))) (H' := (fun (r13 : Int) => ([.box [.d (.lit (List.map e_i64 d0))]] : List Blk))) [] _ (distribution_sum_goes k (List.take (Int.toNat (gmin (gmax score 0) ((List.length d0) : Int))) d0)) (by kernel_rfl) (by kernel_rfl) rfl (by kernel_rfl) Try.func40 rfl (by kernel_rfl) (ConvRs.refl _ _) (by kernel_rfl) (by kernel_rfl) (by kernel_rfl) (by decide) (by kernel_rfl) (by kernel_rfl) (fun _ => (by kernel_rfl)) (fun _ => (by kernel_rfl)) (fun _ => (by kernel_rfl)) (fun r13 => ?_)
    refine oOp (.d (.int .i64 r13)) (by kernel_rfl) (by kernel_rfl) (PureV.does (p_assign (by kernel_rfl))) ?_
    refine oEnd ?_
    exact oRet (r0 := r13) (rv := .d (.int .i64 r13)) (B := []) (vs := [.d (.int .i64 r13)]) (σ := []) (by kernel_rfl) Try.func46 rfl (.cons _ _ _ _ (.tmp 4 _ (by kernel_rfl)) .nil) (by kernel_rfl) (by kernel_rfl) (by kernel_rfl) (by kernel_rfl) (by decide) (by kernel_rfl) (by kernel_rfl)

/-- awardingbody/boundary.reach -/
def boundary_reach (k : Nat) (d0 : (List Int)) (b : Int) : Option (Int) := Option.bind (distribution_Count k d0) (fun r11 => Option.bind (distribution_Below k d0 b) (fun r111 => some (IntKind.wrap .i64 (r11 - r111))))
def boundary_reach_E (d0 : (List Int)) (b : Int) : Int → V × List Blk := fun r1 => (.d (.int .i64 r1), [])
theorem boundary_reach_goes (k : Nat) (d0 : (List Int)) (b : Int) : RunsO Try.prog 33 [.agg [.d (.lit (List.map e_i64 d0))], .d (.int .i64 b)] [] (boundary_reach_E d0 b) (boundary_reach k d0 b) := by
  refine RunsO.of_goes (N := 11) (m := 0) (T := [(0, .agg [.d (.lit (List.map e_i64 d0))]), (1, .d (.int .i64 b))]) Try.func33 rfl rfl (by kernel_rfl) (by kernel_rfl) (by kernel_rfl) ?_
  unfold boundary_reach
  refine bStart ?_
  refine oSeq ?_
  refine oRegion rfl ?_
  refine oOp (.ptr 0 0) (by kernel_rfl) (by kernel_rfl) (k_box (H' := [.box [.d (.lit (List.map e_i64 d0))]]) (cells := [.d (.lit (List.map e_i64 d0))]) (by kernel_rfl) (by kernel_rfl) (by kernel_rfl)) ?_
  refine oOp (.d (.int .i64 0)) (by kernel_rfl) (by kernel_rfl) (PureV.does (p_assign (by kernel_rfl))) ?_
  refine oEnd ?_
  refine oSeq ?_
  refine oDraw [(0, 7)] rfl ?_
  refine aTakeL (i := 0) (st' := [0]) (.agg [.d (.lit (List.map e_i64 d0))]) rfl (by kernel_rfl) (by kernel_rfl) (by kernel_rfl) (by kernel_rfl) (by kernel_rfl) (by kernel_rfl) (by kernel_rfl) (k_loadAgg 0 0 (by kernel_rfl) Try.underlying28 (by kernel_rfl) ty28 (by kernel_rfl)) ?_
  refine aTakeL (i := 2) (st' := [0]) (.agg [.d (.lit (List.map e_i64 d0))]) rfl (by kernel_rfl) (by kernel_rfl) (by kernel_rfl) (by kernel_rfl) (by kernel_rfl) (by kernel_rfl) (by kernel_rfl) (k_loadAgg 0 0 (by kernel_rfl) Try.underlying28 (by kernel_rfl) ty28 (by kernel_rfl)) ?_
  refine aTakeL (i := 3) (st' := []) (.d (.int .i64 b)) rfl (by kernel_rfl) (by kernel_rfl) (by kernel_rfl) (by kernel_rfl) (by kernel_rfl) (by kernel_rfl) (by kernel_rfl) (PureV.quiet (p_move (by kernel_rfl)) []) ?_
  refine dCall (i := 1) (caps := []) (v := (fun (r11 : Int) => (.d (.int .i64 r11) : V))) (H' := (fun (r11 : Int) => ([.box [.d (.lit (List.map e_i64 d0))]] : List Blk))) [] _ (distribution_Count_goes k d0) rfl (by kernel_rfl) (by kernel_rfl) (by kernel_rfl) (by kernel_rfl) (by kernel_rfl) (by kernel_rfl) (by kernel_rfl) (by kernel_rfl) rfl (by kernel_rfl) Try.func34 rfl (by kernel_rfl) (ConvRs.refl _ _) (by kernel_rfl) (by kernel_rfl) (by kernel_rfl) (by decide) (by kernel_rfl) (by kernel_rfl) (fun _ => (by kernel_rfl)) (fun _ => (by kernel_rfl)) (fun _ => (by kernel_rfl)) (fun r11 => ?_)
  refine dCall (i := 4) (caps := []) (v := (fun (r111 : Int) => (.d (.int .i64 r111) : V))) (H' := (fun (r111 : Int) => ([.box [.d (.lit (List.map e_i64 d0))]] : List Blk))) [] _ (distribution_Below_goes k d0 b) rfl (by kernel_rfl) (by kernel_rfl) (by kernel_rfl) (by kernel_rfl) (by kernel_rfl) (by kernel_rfl) (by kernel_rfl) (by kernel_rfl) rfl (by kernel_rfl) Try.func46 rfl (by kernel_rfl) (ConvRs.refl _ _) (by kernel_rfl) (by kernel_rfl) (by kernel_rfl) (by decide) (by kernel_rfl) (by kernel_rfl) (fun _ => (by kernel_rfl)) (fun _ => (by kernel_rfl)) (fun _ => (by kernel_rfl)) (fun r111 => ?_)
  refine aTakeL (i := 5) (st' := []) (.d (.int .i64 (IntKind.wrap .i64 (r11 - r111)))) rfl (by kernel_rfl) (by kernel_rfl) (by kernel_rfl) (by kernel_rfl) (by kernel_rfl) (by kernel_rfl) (by kernel_rfl) (PureV.quiet (p_int (k := .i64) (p := r11) (q := r111) (by kernel_rfl) (by kernel_rfl) (by kernel_rfl)) []) ?_
  refine aTakeL (i := 6) (st' := []) (.d (.int .i64 (IntKind.wrap .i64 (r11 - r111)))) rfl (by kernel_rfl) (by kernel_rfl) (by kernel_rfl) (by kernel_rfl) (by kernel_rfl) (by kernel_rfl) (by kernel_rfl) (PureV.quiet (p_assign (by kernel_rfl)) []) ?_
  refine aDone (by kernel_rfl) ?_
  exact oRet (r0 := (IntKind.wrap .i64 (r11 - r111))) (rv := .d (.int .i64 (IntKind.wrap .i64 (r11 - r111)))) (B := []) (vs := [.d (.int .i64 (IntKind.wrap .i64 (r11 - r111)))]) (σ := []) (by kernel_rfl) Try.func33 rfl (.cons _ _ _ _ (.tmp 4 _ (by kernel_rfl)) .nil) (by kernel_rfl) (by kernel_rfl) (by kernel_rfl) (by kernel_rfl) (by decide) (by kernel_rfl) (by kernel_rfl)

/-- math/bits.Len64 -/
def math_bits_Len64 (k : Nat) (x : Int) : Option (Int) := Option.bind (bif (decide (x ≥ 4294967296)) then some ((Int.fdiv x (2 ^ (min (Int.toNat 32) (IntKind.bits .u64)))), 32) else some (x, 0) : Option (Int × Int)) (uc fun x4 => fun n3 => Option.bind (bif (decide (x4 ≥ 65536)) then some ((Int.fdiv x4 (2 ^ (min (Int.toNat 16) (IntKind.bits .u64)))), (IntKind.wrap .i64 (n3 + 16))) else some (x4, n3) : Option (Int × Int)) (uc fun x5 => fun n4 => Option.bind (bif (decide (x5 ≥ 256)) then some ((Int.fdiv x5 (2 ^ (min (Int.toNat 8) (IntKind.bits .u64)))), (IntKind.wrap .i64 (n4 + 8))) else some (x5, n4) : Option (Int × Int)) (uc fun x6 => fun n5 => gidx tab0 (IntKind.wrap .u8 x6) fun e11 => some (IntKind.wrap .i64 (n5 + (IntKind.wrap .i64 e11))))))
def math_bits_Len64_E (x : Int) : Int → V × List Blk := fun r1 => (.d (.int .i64 r1), [])
theorem math_bits_Len64_goes (k : Nat) (x : Int) : RunsO Try.prog 61 [.d (.int .u64 x)] [] (math_bits_Len64_E x) (math_bits_Len64 k x) := by
  refine RunsO.of_goes (N := 25) (m := 0) (T := [(0, .d (.int .u64 x))]) Try.func61 rfl rfl (by kernel_rfl) (by kernel_rfl) (by kernel_rfl) ?_
  unfold math_bits_Len64
  refine bStart ?_
  refine oSeq ?_
  refine oRegion rfl ?_
  refine oOp (.d (.int .i64 0)) (by kernel_rfl) (by kernel_rfl) (PureV.does (p_assign (by kernel_rfl))) ?_
  refine oEnd ?_
  refine oSeq ?_
  refine oSeq ?_
  refine oRegion rfl ?_
  refine oOp (.d (.int .u64 x)) (by kernel_rfl) (by kernel_rfl) (PureV.does (p_move (by kernel_rfl))) ?_
  refine oOp (.d (.bool (decide (x ≥ 4294967296)))) (by kernel_rfl) (by kernel_rfl) (PureV.does (p_int (k := .u64) (p := x) (q := 4294967296) (by kernel_rfl) (by kernel_rfl) (by kernel_rfl))) ?_
  refine oEnd ?_
  refine bJoin ((uc fun (x4 : Int) => (fun (n3 : Int) => [(0, .d (.int .u64 x4)), (2, .d (.int .i64 n3))]))) ((uc fun (x4 : Int) => (fun (n3 : Int) => []))) (fun s => s) (fun s => ?_) (fun hj4 => ?_)
  · obtain ⟨x4, n3⟩ := s
    refine bUc ?_
    refine oView (T' := [(0, .d (.int .u64 x4)), (2, .d (.int .i64 n3))]) (H' := []) (by kernel_rfl) (by kernel_rfl) ?_
    refine oSeq ?_
    refine oSeq ?_
    refine oRegion rfl ?_
    refine oOp (.d (.int .u64 x4)) (by kernel_rfl) (by kernel_rfl) (PureV.does (p_move (by kernel_rfl))) ?_
    refine oOp (.d (.bool (decide (x4 ≥ 65536)))) (by kernel_rfl) (by kernel_rfl) (PureV.does (p_int (k := .u64) (p := x4) (q := 65536) (by kernel_rfl) (by kernel_rfl) (by kernel_rfl))) ?_
    refine oEnd ?_
    refine bJoin ((uc fun (x5 : Int) => (fun (n4 : Int) => [(0, .d (.int .u64 x5)), (2, .d (.int .i64 n4))]))) ((uc fun (x5 : Int) => (fun (n4 : Int) => []))) (fun s => s) (fun s => ?_) (fun hj5 => ?_)
    · obtain ⟨x5, n4⟩ := s
      refine bUc ?_
      refine oView (T' := [(0, .d (.int .u64 x5)), (2, .d (.int .i64 n4))]) (H' := []) (by kernel_rfl) (by kernel_rfl) ?_
      refine oSeq ?_
      refine oSeq ?_
      refine oRegion rfl ?_
      refine oOp (.d (.int .u64 x5)) (by kernel_rfl) (by kernel_rfl) (PureV.does (p_move (by kernel_rfl))) ?_
      refine oOp (.d (.bool (decide (x5 ≥ 256)))) (by kernel_rfl) (by kernel_rfl) (PureV.does (p_int (k := .u64) (p := x5) (q := 256) (by kernel_rfl) (by kernel_rfl) (by kernel_rfl))) ?_
      refine oEnd ?_
      refine bJoin ((uc fun (x6 : Int) => (fun (n5 : Int) => [(0, .d (.int .u64 x6)), (2, .d (.int .i64 n5))]))) ((uc fun (x6 : Int) => (fun (n5 : Int) => []))) (fun s => s) (fun s => ?_) (fun hj6 => ?_)
      · obtain ⟨x6, n5⟩ := s
        refine bUc ?_
        refine oView (T' := [(0, .d (.int .u64 x6)), (2, .d (.int .i64 n5))]) (H' := []) (by kernel_rfl) (by kernel_rfl) ?_
        refine oSeq ?_
        refine oRegion rfl ?_
        refine oOp (.d (.int .i64 n5)) (by kernel_rfl) (by kernel_rfl) (PureV.does (p_move (by kernel_rfl))) ?_
        refine oOp (.d (.int .u64 x6)) (by kernel_rfl) (by kernel_rfl) (PureV.does (p_move (by kernel_rfl))) ?_
        refine oOp (.d (.int .u8 (IntKind.wrap .u8 x6))) (by kernel_rfl) (by kernel_rfl) (PureV.does (p_conv (k := .u64) (p := x6) (by kernel_rfl) Try.underlying56 Try.underlying5 (by kernel_rfl))) ?_
        refine bIdx (fun e11 h12 h13 => ?_)
        refine oOp (.d (.int .u8 e11)) (by kernel_rfl) (by kernel_rfl) (PureV.does (k_idxStr (xs := tab0) (k := .u8) (i := (IntKind.wrap .u8 x6)) (by kernel_rfl) (by kernel_rfl) Try.underlying9 h12 h13)) ?_
        refine oOp (.d (.int .i64 (IntKind.wrap .i64 e11))) (by kernel_rfl) (by kernel_rfl) (PureV.does (p_conv (k := .u8) (p := e11) (by kernel_rfl) Try.underlying5 Try.underlying3 (by kernel_rfl))) ?_
        refine oOp (.d (.int .i64 (IntKind.wrap .i64 (n5 + (IntKind.wrap .i64 e11))))) (by kernel_rfl) (by kernel_rfl) (PureV.does (p_int (k := .i64) (p := n5) (q := (IntKind.wrap .i64 e11)) (by kernel_rfl) (by kernel_rfl) (by kernel_rfl))) ?_
        refine oOp (.d (.int .i64 (IntKind.wrap .i64 (n5 + (IntKind.wrap .i64 e11))))) (by kernel_rfl) (by kernel_rfl) (PureV.does (p_assign (by kernel_rfl))) ?_
        refine oEnd ?_
        exact oRet (r0 := (IntKind.wrap .i64 (n5 + (IntKind.wrap .i64 e11)))) (rv := .d (.int .i64 (IntKind.wrap .i64 (n5 + (IntKind.wrap .i64 e11))))) (B := []) (vs := [.d (.int .i64 (IntKind.wrap .i64 (n5 + (IntKind.wrap .i64 e11))))]) (σ := []) (by kernel_rfl) Try.func61 rfl (.cons _ _ _ _ (.tmp 2 _ (by kernel_rfl)) .nil) (by kernel_rfl) (by kernel_rfl) (by kernel_rfl) (by kernel_rfl) (by decide) (by kernel_rfl) (by kernel_rfl)
      · refine bSplit 14 (by kernel_rfl) (fun hc => ?_) (fun hc => ?_)
        · refine oCondT (by kernel_rfl) ?_
          refine oSeq ?_
          refine oRegion rfl ?_
          refine oOp (.d (.int .u64 x5)) (by kernel_rfl) (by kernel_rfl) (PureV.does (p_move (by kernel_rfl))) ?_
          refine oOp (.d (.int .u64 (Int.fdiv x5 (2 ^ (min (Int.toNat 8) (IntKind.bits .u64)))))) (by kernel_rfl) (by kernel_rfl) (PureV.does (p_shr (k := .u64) (k2 := .u64) (p := x5) (q := 8) (by kernel_rfl) (by kernel_rfl) (by decide) (by kernel_rfl))) ?_
          refine oOp (.d (.int .u64 (Int.fdiv x5 (2 ^ (min (Int.toNat 8) (IntKind.bits .u64)))))) (by kernel_rfl) (by kernel_rfl) (PureV.does (p_assign (by kernel_rfl))) ?_
          refine oEnd ?_
          refine oRegion rfl ?_
          refine oOp (.d (.int .i64 n4)) (by kernel_rfl) (by kernel_rfl) (PureV.does (p_move (by kernel_rfl))) ?_
          refine oOp (.d (.int .i64 (IntKind.wrap .i64 (n4 + 8)))) (by kernel_rfl) (by kernel_rfl) (PureV.does (p_int (k := .i64) (p := n4) (q := 8) (by kernel_rfl) (by kernel_rfl) (by kernel_rfl))) ?_
          refine oOp (.d (.int .i64 (IntKind.wrap .i64 (n4 + 8)))) (by kernel_rfl) (by kernel_rfl) (PureV.does (p_assign (by kernel_rfl))) ?_
          refine oEnd ?_
          refine oHead [0, 2] [] (T' := [(0, .d (.int .u64 (Int.fdiv x5 (2 ^ (min (Int.toNat 8) (IntKind.bits .u64)))))), (2, .d (.int .i64 (IntKind.wrap .i64 (n4 + 8))))]) (H' := []) (by kernel_rfl) (by kernel_rfl) (by kernel_rfl) (by kernel_rfl) (by decide) (by kernel_rfl) (by kernel_rfl) ?_
          exact hj6 ((Int.fdiv x5 (2 ^ (min (Int.toNat 8) (IntKind.bits .u64)))), (IntKind.wrap .i64 (n4 + 8)))
        · refine oCondF (by kernel_rfl) ?_
          refine oSkip ?_
          refine oHead [0, 2] [] (T' := [(0, .d (.int .u64 x5)), (2, .d (.int .i64 n4))]) (H' := []) (by kernel_rfl) (by kernel_rfl) (by kernel_rfl) (by kernel_rfl) (by decide) (by kernel_rfl) (by kernel_rfl) ?_
          exact hj6 (x5, n4)
    · refine bSplit 8 (by kernel_rfl) (fun hc => ?_) (fun hc => ?_)
      · refine oCondT (by kernel_rfl) ?_
        refine oSeq ?_
        refine oRegion rfl ?_
        refine oOp (.d (.int .u64 x4)) (by kernel_rfl) (by kernel_rfl) (PureV.does (p_move (by kernel_rfl))) ?_
        refine oOp (.d (.int .u64 (Int.fdiv x4 (2 ^ (min (Int.toNat 16) (IntKind.bits .u64)))))) (by kernel_rfl) (by kernel_rfl) (PureV.does (p_shr (k := .u64) (k2 := .u64) (p := x4) (q := 16) (by kernel_rfl) (by kernel_rfl) (by decide) (by kernel_rfl))) ?_
        refine oOp (.d (.int .u64 (Int.fdiv x4 (2 ^ (min (Int.toNat 16) (IntKind.bits .u64)))))) (by kernel_rfl) (by kernel_rfl) (PureV.does (p_assign (by kernel_rfl))) ?_
        refine oEnd ?_
        refine oRegion rfl ?_
        refine oOp (.d (.int .i64 n3)) (by kernel_rfl) (by kernel_rfl) (PureV.does (p_move (by kernel_rfl))) ?_
        refine oOp (.d (.int .i64 (IntKind.wrap .i64 (n3 + 16)))) (by kernel_rfl) (by kernel_rfl) (PureV.does (p_int (k := .i64) (p := n3) (q := 16) (by kernel_rfl) (by kernel_rfl) (by kernel_rfl))) ?_
        refine oOp (.d (.int .i64 (IntKind.wrap .i64 (n3 + 16)))) (by kernel_rfl) (by kernel_rfl) (PureV.does (p_assign (by kernel_rfl))) ?_
        refine oEnd ?_
        refine oHead [0, 2] [] (T' := [(0, .d (.int .u64 (Int.fdiv x4 (2 ^ (min (Int.toNat 16) (IntKind.bits .u64)))))), (2, .d (.int .i64 (IntKind.wrap .i64 (n3 + 16))))]) (H' := []) (by kernel_rfl) (by kernel_rfl) (by kernel_rfl) (by kernel_rfl) (by decide) (by kernel_rfl) (by kernel_rfl) ?_
        exact hj5 ((Int.fdiv x4 (2 ^ (min (Int.toNat 16) (IntKind.bits .u64)))), (IntKind.wrap .i64 (n3 + 16)))
      · refine oCondF (by kernel_rfl) ?_
        refine oSkip ?_
        refine oHead [0, 2] [] (T' := [(0, .d (.int .u64 x4)), (2, .d (.int .i64 n3))]) (H' := []) (by kernel_rfl) (by kernel_rfl) (by kernel_rfl) (by kernel_rfl) (by decide) (by kernel_rfl) (by kernel_rfl) ?_
        exact hj5 (x4, n3)
  · refine bSplit 4 (by kernel_rfl) (fun hc => ?_) (fun hc => ?_)
    · refine oCondT (by kernel_rfl) ?_
      refine oSeq ?_
      refine oRegion rfl ?_
      refine oOp (.d (.int .u64 x)) (by kernel_rfl) (by kernel_rfl) (PureV.does (p_move (by kernel_rfl))) ?_
      refine oOp (.d (.int .u64 (Int.fdiv x (2 ^ (min (Int.toNat 32) (IntKind.bits .u64)))))) (by kernel_rfl) (by kernel_rfl) (PureV.does (p_shr (k := .u64) (k2 := .u64) (p := x) (q := 32) (by kernel_rfl) (by kernel_rfl) (by decide) (by kernel_rfl))) ?_
      refine oOp (.d (.int .u64 (Int.fdiv x (2 ^ (min (Int.toNat 32) (IntKind.bits .u64)))))) (by kernel_rfl) (by kernel_rfl) (PureV.does (p_assign (by kernel_rfl))) ?_
      refine oEnd ?_
      refine oRegion rfl ?_
      refine oOp (.d (.int .i64 32)) (by kernel_rfl) (by kernel_rfl) (PureV.does (p_assign (by kernel_rfl))) ?_
      refine oEnd ?_
      refine oHead [0, 2] [] (T' := [(0, .d (.int .u64 (Int.fdiv x (2 ^ (min (Int.toNat 32) (IntKind.bits .u64)))))), (2, .d (.int .i64 32))]) (H' := []) (by kernel_rfl) (by kernel_rfl) (by kernel_rfl) (by kernel_rfl) (by decide) (by kernel_rfl) (by kernel_rfl) ?_
      exact hj4 ((Int.fdiv x (2 ^ (min (Int.toNat 32) (IntKind.bits .u64)))), 32)
    · refine oCondF (by kernel_rfl) ?_
      refine oSkip ?_
      refine oHead [0, 2] [] (T' := [(0, .d (.int .u64 x)), (2, .d (.int .i64 0))]) (H' := []) (by kernel_rfl) (by kernel_rfl) (by kernel_rfl) (by kernel_rfl) (by decide) (by kernel_rfl) (by kernel_rfl) ?_
      exact hj4 (x, 0)

/-- math/bits.LeadingZeros64 -/
def math_bits_LeadingZeros64 (k : Nat) (x : Int) : Option (Int) := Option.bind (math_bits_Len64 k x) (fun r12 => some (IntKind.wrap .i64 (64 - r12)))
def math_bits_LeadingZeros64_E (x : Int) : Int → V × List Blk := fun r11 => (.d (.int .i64 r11), [])
theorem math_bits_LeadingZeros64_goes (k : Nat) (x : Int) : RunsO Try.prog 60 [.d (.int .u64 x)] [] (math_bits_LeadingZeros64_E x) (math_bits_LeadingZeros64 k x) := by
  refine RunsO.of_goes (N := 6) (m := 0) (T := [(0, .d (.int .u64 x))]) Try.func60 rfl rfl (by kernel_rfl) (by kernel_rfl) (by kernel_rfl) ?_
  unfold math_bits_LeadingZeros64
  refine bStart ?_
  refine oSeq ?_
  refine oRegion rfl ?_
  refine oOp (.d (.int .i64 0)) (by kernel_rfl) (by kernel_rfl) (PureV.does (p_assign (by kernel_rfl))) ?_
  refine oEnd ?_
  refine oSeq ?_
  refine oRegion rfl ?_
  refine oOp (.d (.int .u64 x)) (by kernel_rfl) (by kernel_rfl) (PureV.does (p_move (by kernel_rfl))) ?_
  refine bCall (caps := []) (v := (fun (r12 : Int) => (.d (.int .i64 r12) : V))) (H' := (fun (r12 : Int) => ([] : List Blk))) [] _ (math_bits_Len64_goes k x) (by kernel_rfl) (by kernel_rfl) rfl (by kernel_rfl) Try.func61 rfl (by kernel_rfl) (ConvRs.refl _ _) (by kernel_rfl) (by kernel_rfl) (by kernel_rfl) (by decide) (by kernel_rfl) (by kernel_rfl) (fun _ => (by kernel_rfl)) (fun _ => (by kernel_rfl)) (fun _ => (by kernel_rfl)) (fun r12 => ?_)
  refine oOp (.d (.int .i64 (IntKind.wrap .i64 (64 - r12)))) (by kernel_rfl) (by kernel_rfl) (PureV.does (p_int (k := .i64) (p := 64) (q := r12) (by kernel_rfl) (by kernel_rfl) (by kernel_rfl))) ?_
  refine oOp (.d (.int .i64 (IntKind.wrap .i64 (64 - r12)))) (by kernel_rfl) (by kernel_rfl) (PureV.does (p_assign (by kernel_rfl))) ?_
  refine oEnd ?_
  exact oRet (r0 := (IntKind.wrap .i64 (64 - r12))) (rv := .d (.int .i64 (IntKind.wrap .i64 (64 - r12)))) (B := []) (vs := [.d (.int .i64 (IntKind.wrap .i64 (64 - r12)))]) (σ := []) (by kernel_rfl) Try.func60 rfl (.cons _ _ _ _ (.tmp 2 _ (by kernel_rfl)) .nil) (by kernel_rfl) (by kernel_rfl) (by kernel_rfl) (by kernel_rfl) (by decide) (by kernel_rfl) (by kernel_rfl)

end Go.VM
