/- Plain functions that answer as the program's functions do, and the proof that they do. -/
import Derived.Test.YteofgcpnhiplkaaProg
import Derived.KernelRfl
import Derived.Test.YteofgcpnhiplkaaEngS
import Derived.Test.YteofgcpnhiplkaaMFacts
namespace Go.VM
open Go.Proofs
set_option linter.unusedVariables false
set_option linter.unusedSimpArgs false
set_option maxRecDepth 100000
/-- awardingbody/awardingbodymark.Light -/
def mark_Light (k : Nat) (l : (List Int)) : Option (Unit) := some ()
def mark_Light_E (l : (List Int)) : Unit → V × List Blk := u0 ((.d (.bool (decide (((List.length l) : Int) ≤ 600))), []))
theorem mark_Light_goes (k : Nat) (l : (List Int)) : RunsO Try.prog 8 [.d (.lit (List.map e_i64 l))] [] (mark_Light_E l) (mark_Light k l) := by
  refine RunsO.of_goes (N := 6) (m := 0) (T := [(0, .d (.lit (List.map e_i64 l)))]) Try.func8 rfl rfl (by kernel_rfl) (by kernel_rfl) (by kernel_rfl) ?_
  unfold mark_Light
  refine bStart ?_
  refine oSeq ?_
  refine oRegion rfl ?_
  refine oOp (.d (.bool false)) (by kernel_rfl) (by kernel_rfl) (PureV.does (p_assign (by kernel_rfl))) ?_
  refine oEnd ?_
  refine oSeq ?_
  refine oRegion rfl ?_
  refine oOp (.d (.lit (List.map e_i64 l))) (by kernel_rfl) (by kernel_rfl) (PureV.does (p_move (by kernel_rfl))) ?_
  refine oOp (.d (.int .i64 ((List.length l) : Int))) (by kernel_rfl) (by kernel_rfl) (PureV.does (k_lenLit (enc := e_i64) l (by kernel_rfl) Try.underlying22)) ?_
  refine oOp (.d (.bool (decide (((List.length l) : Int) ≤ 600)))) (by kernel_rfl) (by kernel_rfl) (PureV.does (p_int (k := .i64) (p := ((List.length l) : Int)) (q := 600) (by kernel_rfl) (by kernel_rfl) (by kernel_rfl))) ?_
  refine oOp (.d (.bool (decide (((List.length l) : Int) ≤ 600)))) (by kernel_rfl) (by kernel_rfl) (PureV.does (p_assign (by kernel_rfl))) ?_
  refine oEnd ?_
  exact oRet (r0 := ()) (rv := .d (.bool (decide (((List.length l) : Int) ≤ 600)))) (B := []) (vs := [.d (.bool (decide (((List.length l) : Int) ≤ 600)))]) (σ := []) (by kernel_rfl) Try.func8 rfl (.cons _ _ _ _ (.tmp 2 _ (by kernel_rfl)) .nil) (by kernel_rfl) (by kernel_rfl) (by kernel_rfl) (by kernel_rfl) (by decide) (by kernel_rfl) (by kernel_rfl)

/-- awardingbody/marker.in -/
def marker_in (k : Nat) (n : Int) (low : Int) (high : Int) : Option (Bool) := blet ((decide (n ≥ low)) && (decide (n ≤ high))) fun x1 => some x1
def marker_in_E (n : Int) (low : Int) (high : Int) : Bool → V × List Blk := fun r1 => (.d (.bool r1), [])
theorem marker_in_goes (k : Nat) (n : Int) (low : Int) (high : Int) : RunsO Try.prog 34 [.d (.int .i64 n), .d (.int .i64 low), .d (.int .i64 high)] [] (marker_in_E n low high) (marker_in k n low high) := by
  refine RunsO.of_goes (N := 15) (m := 0) (T := [(0, .d (.int .i64 n)), (1, .d (.int .i64 low)), (2, .d (.int .i64 high))]) Try.func34 rfl rfl (by kernel_rfl) (by kernel_rfl) (by kernel_rfl) ?_
  unfold marker_in
  refine bStart ?_
  refine oSeq ?_
  refine oRegion rfl ?_
  refine oOp (.d (.bool false)) (by kernel_rfl) (by kernel_rfl) (PureV.does (p_assign (by kernel_rfl))) ?_
  refine oEnd ?_
  refine oSeq ?_
  refine oRegion rfl ?_
  refine oOp (.d (.int .i64 n)) (by kernel_rfl) (by kernel_rfl) (PureV.does (p_move (by kernel_rfl))) ?_
  refine oOp (.d (.int .i64 low)) (by kernel_rfl) (by kernel_rfl) (PureV.does (p_move (by kernel_rfl))) ?_
  refine oOp (.d (.bool (decide (n ≥ low)))) (by kernel_rfl) (by kernel_rfl) (PureV.does (p_int (k := .i64) (p := n) (q := low) (by kernel_rfl) (by kernel_rfl) (by kernel_rfl))) ?_
  refine oOp (.d (.bool (decide (n ≥ low)))) (by kernel_rfl) (by kernel_rfl) (PureV.does (p_move (by kernel_rfl))) ?_
  refine bMeetF (H' := []) 4 rfl ((fun (x1 : Bool) => [(14, .d (.bool x1))])) (fun x1 => ?_) (fun F hj1 => ?_)
  · refine oView (T' := [(14, .d (.bool x1))]) (H' := []) (by kernel_rfl) (by kernel_rfl) ?_
    refine oOp (.d (.bool x1)) (by kernel_rfl) (by kernel_rfl) (PureV.does (p_assign (by kernel_rfl))) ?_
    refine oEnd ?_
    exact oRet (r0 := x1) (rv := .d (.bool x1)) (B := []) (vs := [.d (.bool x1)]) (σ := []) (by kernel_rfl) Try.func34 rfl (.cons _ _ _ _ (.tmp 6 _ (by kernel_rfl)) .nil) (by kernel_rfl) (by kernel_rfl) (by kernel_rfl) (by kernel_rfl) (by decide) (by kernel_rfl) (by kernel_rfl)
  · refine bPickF 10 (fun c => F (c && (decide (n ≤ high)))) (by kernel_rfl) (fun hc => ?_) (fun hc => ?_)
    · refine oOp (.d (.int .i64 n)) (by kernel_rfl) (by kernel_rfl) (PureV.does (p_move (by kernel_rfl))) ?_
      refine oOp (.d (.int .i64 high)) (by kernel_rfl) (by kernel_rfl) (PureV.does (p_move (by kernel_rfl))) ?_
      refine oOp (.d (.bool (decide (n ≤ high)))) (by kernel_rfl) (by kernel_rfl) (PureV.does (p_int (k := .i64) (p := n) (q := high) (by kernel_rfl) (by kernel_rfl) (by kernel_rfl))) ?_
      refine oOp (.d (.bool (decide (n ≤ high)))) (by kernel_rfl) (by kernel_rfl) (PureV.does (p_pick (b := true) (by kernel_rfl) (by kernel_rfl))) ?_
      refine oHead [14] [] (T' := [(14, .d (.bool (decide (n ≤ high))))]) (H' := []) (by kernel_rfl) (by kernel_rfl) (by kernel_rfl) (by kernel_rfl) (by decide) (by kernel_rfl) (by kernel_rfl) ?_
      exact hj1 (decide (n ≤ high))
    · refine oNot (by kernel_rfl) (by kernel_rfl) ?_
      refine oNot (by kernel_rfl) (by kernel_rfl) ?_
      refine oNot (by kernel_rfl) (by kernel_rfl) ?_
      refine oOp (.d (.bool false)) (by kernel_rfl) (by kernel_rfl) (PureV.does (p_pick (b := false) (by kernel_rfl) (by kernel_rfl))) ?_
      refine oHead [14] [] (T' := [(14, .d (.bool false))]) (H' := []) (by kernel_rfl) (by kernel_rfl) (by kernel_rfl) (by kernel_rfl) (by decide) (by kernel_rfl) (by kernel_rfl) ?_
      exact hj1 false

/-- awardingbody/marker.Check$1 -/
def marker_Check_1 (k : Nat) (p : Int) : Option (Bool) := Option.bind (marker_in k p 0 31) (fun r12 => some (!r12))
def marker_Check_1_E (p : Int) : Bool → V × List Blk := fun r11 => (.d (.bool r11), [])
theorem marker_Check_1_goes (k : Nat) (p : Int) : RunsO Try.prog 36 [.d (.int .i64 p)] [] (marker_Check_1_E p) (marker_Check_1 k p) := by
  refine RunsO.of_goes (N := 6) (m := 0) (T := [(0, .d (.int .i64 p))]) Try.func36 rfl rfl (by kernel_rfl) (by kernel_rfl) (by kernel_rfl) ?_
  unfold marker_Check_1
  refine bStart ?_
  refine oSeq ?_
  refine oRegion rfl ?_
  refine oOp (.d (.bool false)) (by kernel_rfl) (by kernel_rfl) (PureV.does (p_assign (by kernel_rfl))) ?_
  refine oEnd ?_
  refine oSeq ?_
  refine oRegion rfl ?_
  refine oOp (.d (.int .i64 p)) (by kernel_rfl) (by kernel_rfl) (PureV.does (p_move (by kernel_rfl))) ?_
  refine bCall (caps := []) (v := (fun (r12 : Bool) => (.d (.bool r12) : V))) (H' := (fun (r12 : Bool) => ([] : List Blk))) [] _ (marker_in_goes k p 0 31) (by kernel_rfl) (by kernel_rfl) rfl (by kernel_rfl) Try.func34 rfl (by kernel_rfl) (ConvRs.refl _ _) (by kernel_rfl) (by kernel_rfl) (by kernel_rfl) (by decide) (by kernel_rfl) (by kernel_rfl) (fun _ => (by kernel_rfl)) (fun _ => (by kernel_rfl)) (fun _ => (by kernel_rfl)) (fun r12 => ?_)
  refine oOp (.d (.bool (!r12))) (by kernel_rfl) (by kernel_rfl) (PureV.does (p_not (p := r12) (by kernel_rfl) (by kernel_rfl))) ?_
  refine oOp (.d (.bool (!r12))) (by kernel_rfl) (by kernel_rfl) (PureV.does (p_assign (by kernel_rfl))) ?_
  refine oEnd ?_
  exact oRet (r0 := (!r12)) (rv := .d (.bool (!r12))) (B := []) (vs := [.d (.bool (!r12))]) (σ := []) (by kernel_rfl) Try.func36 rfl (.cons _ _ _ _ (.tmp 2 _ (by kernel_rfl)) .nil) (by kernel_rfl) (by kernel_rfl) (by kernel_rfl) (by kernel_rfl) (by decide) (by kernel_rfl) (by kernel_rfl)

/-- slices.IndexFunc[[]int,int] -/
def slices_IndexFunc_int_b1 (k : Nat) (s1 : (List Int)) (again : Int → Option ((Unit) ⊕ (Int))) : Int → Option ((Unit) ⊕ (Int)) := fun x4 => bif (decide (x4 < ((List.length s1) : Int))) then gidx s1 x4 fun e113 => Option.bind (marker_Check_1 k e113) (fun r1113 => bif r1113 then some (Sum.inr x4) else again (IntKind.wrap .i64 (x4 + 1))) else some (Sum.inl ())
def slices_IndexFunc_int (k : Nat) (s1 : (List Int)) : Option (Int) := Option.bind (gloop (slices_IndexFunc_int_b1 k s1) k 0 : Option ((Unit) ⊕ (Int))) (Sum.elim (u0 (some (-1))) (fun r => some r))
def slices_IndexFunc_int_E (s1 : (List Int)) : Int → V × List Blk := fun r1 => (.d (.int .i64 r1), [])
theorem slices_IndexFunc_int_goes (k : Nat) (s1 : (List Int)) : RunsO Try.prog 42 [.d (.lit (List.map e_i64 s1)), .fn 36 []] [] (slices_IndexFunc_int_E s1) (slices_IndexFunc_int k s1) := by
  refine RunsO.of_goes (N := 19) (m := 0) (T := [(0, .d (.lit (List.map e_i64 s1))), (1, .fn 36 [])]) Try.func42 rfl rfl (by kernel_rfl) (by kernel_rfl) (by kernel_rfl) ?_
  unfold slices_IndexFunc_int
  refine bStart ?_
  refine oSeq ?_
  refine oRegion rfl ?_
  refine oOp (.d (.int .i64 0)) (by kernel_rfl) (by kernel_rfl) (PureV.does (p_assign (by kernel_rfl))) ?_
  refine oEnd ?_
  refine oSeq ?_
  refine oSeq ?_
  refine oRegion rfl ?_
  refine oOp (.d (.lit (List.map e_i64 s1))) (by kernel_rfl) (by kernel_rfl) (PureV.does (p_move (by kernel_rfl))) ?_
  refine oOp (.d (.int .i64 ((List.length s1) : Int))) (by kernel_rfl) (by kernel_rfl) (PureV.does (k_lenLit (enc := e_i64) s1 (by kernel_rfl) Try.underlying22)) ?_
  refine oOp (.d (.int .i64 0)) (by kernel_rfl) (by kernel_rfl) (PureV.does (p_move (by kernel_rfl))) ?_
  refine oEnd ?_
  refine bJoin ((u0 ([]))) ((u0 ([]))) Sum.inl (fun s => ?_) (fun hj2 => ?_)
  · cases s
    refine bInl ?_
    refine bU0 ?_
    refine oView (T' := []) (H' := []) (by kernel_rfl) (by kernel_rfl) ?_
    refine oSeq ?_
    refine oRegion rfl ?_
    refine oOp (.d (.int .i64 (-1))) (by kernel_rfl) (by kernel_rfl) (PureV.does (p_assign (by kernel_rfl))) ?_
    refine oEnd ?_
    exact oRet (r0 := (-1)) (rv := .d (.int .i64 (-1))) (B := []) (vs := [.d (.int .i64 (-1))]) (σ := []) (by kernel_rfl) Try.func42 rfl (.cons _ _ _ _ (.tmp 4 _ (by kernel_rfl)) .nil) (by kernel_rfl) (by kernel_rfl) (by kernel_rfl) (by kernel_rfl) (by decide) (by kernel_rfl) (by kernel_rfl)
  · refine oBlock ?_
    refine oLoop ?_
    refine oHead [0, 1, 7, 8] [] (T' := [(0, .d (.lit (List.map e_i64 s1))), (1, .fn 36 []), (7, .d (.int .i64 ((List.length s1) : Int))), (8, .d (.int .i64 0))]) (H' := []) (by kernel_rfl) (by kernel_rfl) (by kernel_rfl) (by kernel_rfl) (by decide) (by kernel_rfl) (by kernel_rfl) ?_
    refine bLoop (body := slices_IndexFunc_int_b1 k s1) ((fun (x4 : Int) => [(0, .d (.lit (List.map e_i64 s1))), (1, .fn 36 []), (7, .d (.int .i64 ((List.length s1) : Int))), (8, .d (.int .i64 x4))])) ((fun (x4 : Int) => [])) (fun again hag1 x4 => ?_) k 0
    · unfold slices_IndexFunc_int_b1
      refine oView (T' := [(0, .d (.lit (List.map e_i64 s1))), (1, .fn 36 []), (7, .d (.int .i64 ((List.length s1) : Int))), (8, .d (.int .i64 x4))]) (H' := []) (by kernel_rfl) (by kernel_rfl) ?_
      refine oSeq ?_
      refine oRegion rfl ?_
      refine oOp (.d (.bool (decide (x4 < ((List.length s1) : Int))))) (by kernel_rfl) (by kernel_rfl) (PureV.does (p_int (k := .i64) (p := x4) (q := ((List.length s1) : Int)) (by kernel_rfl) (by kernel_rfl) (by kernel_rfl))) ?_
      refine oEnd ?_
      refine oSeq ?_
      refine bSplit 9 (by kernel_rfl) (fun hc => ?_) (fun hc => ?_)
      · refine oCondT (by kernel_rfl) ?_
        refine oSkip ?_
        refine oSeq ?_
        refine oBlock ?_
        refine oSeq ?_
        refine oRegion rfl ?_
        refine oOp (.d (.int .i64 x4)) (by kernel_rfl) (by kernel_rfl) (PureV.does (p_move (by kernel_rfl))) ?_
        refine oOp (.d (.int .i64 x4)) (by kernel_rfl) (by kernel_rfl) (PureV.does (p_assign (by kernel_rfl))) ?_
        refine oEnd ?_
        refine oSeq ?_
        refine oRegion rfl ?_
        refine oOp (.fn 36 []) (by kernel_rfl) (by kernel_rfl) (PureV.does (p_move (by kernel_rfl))) ?_
        refine oOp (.d (.lit (List.map e_i64 s1))) (by kernel_rfl) (by kernel_rfl) (PureV.does (p_move (by kernel_rfl))) ?_
        refine oOp (.d (.int .i64 x4)) (by kernel_rfl) (by kernel_rfl) (PureV.does (p_move (by kernel_rfl))) ?_
        refine bIdx (fun e113 h126 h127 => ?_)
        refine oOp (.lptr (e_i64 e113) 0) (by kernel_rfl) (by kernel_rfl) (PureV.does (k_idxLit e_i64_len s1 (a := e113) (by kernel_rfl) (k := .i64) (i := x4) (by kernel_rfl) Try.underlying22 ty3 h126 h127)) ?_
        refine oOp (.d (.int .i64 e113)) (by kernel_rfl) (by kernel_rfl) (Quiet.does (k_loadL (cells := e_i64 e113) 0 (by kernel_rfl) Try.underlying3 (by kernel_rfl) (by kernel_rfl))) ?_
        refine bCall (caps := []) (v := (fun (r1113 : Bool) => (.d (.bool r1113) : V))) (H' := (fun (r1113 : Bool) => ([] : List Blk))) [] _ (marker_Check_1_goes k e113) (by kernel_rfl) (by kernel_rfl) rfl (by kernel_rfl) Try.func36 rfl (by kernel_rfl) (ConvRs.refl _ _) (by kernel_rfl) (by kernel_rfl) (by kernel_rfl) (by decide) (by kernel_rfl) (by kernel_rfl) (fun _ => (by kernel_rfl)) (fun _ => (by kernel_rfl)) (fun _ => (by kernel_rfl)) (fun r1113 => ?_)
        refine oEnd ?_
        refine bSplit 16 (by kernel_rfl) (fun hc => ?_) (fun hc => ?_)
        · refine oCondT (by kernel_rfl) ?_
          refine oSeq ?_
          refine oRegion rfl ?_
          refine oOp (.d (.int .i64 x4)) (by kernel_rfl) (by kernel_rfl) (PureV.does (p_move (by kernel_rfl))) ?_
          refine oOp (.d (.int .i64 x4)) (by kernel_rfl) (by kernel_rfl) (PureV.does (p_assign (by kernel_rfl))) ?_
          refine oEnd ?_
          exact oRet (r0 := x4) (rv := .d (.int .i64 x4)) (B := []) (vs := [.d (.int .i64 x4)]) (σ := []) (by kernel_rfl) Try.func42 rfl (.cons _ _ _ _ (.tmp 4 _ (by kernel_rfl)) .nil) (by kernel_rfl) (by kernel_rfl) (by kernel_rfl) (by kernel_rfl) (by decide) (by kernel_rfl) (by kernel_rfl)
        · refine oCondF (by kernel_rfl) ?_
          refine oSkip ?_
          refine oBlk ?_
          refine oRegion rfl ?_
          refine oOp (.d (.int .i64 (IntKind.wrap .i64 (x4 + 1)))) (by kernel_rfl) (by kernel_rfl) (PureV.does (p_int (k := .i64) (p := x4) (q := 1) (by kernel_rfl) (by kernel_rfl) (by kernel_rfl))) ?_
          refine oOp (.d (.int .i64 (IntKind.wrap .i64 (x4 + 1)))) (by kernel_rfl) (by kernel_rfl) (PureV.does (p_move (by kernel_rfl))) ?_
          refine oEnd ?_
          refine oAgain ?_
          refine oHead [0, 1, 7, 8] [] (T' := [(0, .d (.lit (List.map e_i64 s1))), (1, .fn 36 []), (7, .d (.int .i64 ((List.length s1) : Int))), (8, .d (.int .i64 (IntKind.wrap .i64 (x4 + 1))))]) (H' := []) (by kernel_rfl) (by kernel_rfl) (by kernel_rfl) (by kernel_rfl) (by decide) (by kernel_rfl) (by kernel_rfl) ?_
          exact hag1 (IntKind.wrap .i64 (x4 + 1))
      · refine oCondF (by kernel_rfl) ?_
        refine oExit rfl ?_
        refine oHead [] [] (T' := []) (H' := []) (by kernel_rfl) (by kernel_rfl) (by kernel_rfl) (by kernel_rfl) (by decide) (by kernel_rfl) (by kernel_rfl) ?_
        exact hj2 ()

/-- slices.ContainsFunc[[]int,int] -/
def slices_ContainsFunc_int (k : Nat) (s1 : (List Int)) : Option (Bool) := Option.bind (slices_IndexFunc_int k s1) (fun r12 => some (decide (r12 ≥ 0)))
def slices_ContainsFunc_int_E (s1 : (List Int)) : Bool → V × List Blk := fun r11 => (.d (.bool r11), [])
theorem slices_ContainsFunc_int_goes (k : Nat) (s1 : (List Int)) : RunsO Try.prog 35 [.d (.lit (List.map e_i64 s1)), .fn 36 []] [] (slices_ContainsFunc_int_E s1) (slices_ContainsFunc_int k s1) := by
  refine RunsO.of_goes (N := 9) (m := 0) (T := [(0, .d (.lit (List.map e_i64 s1))), (1, .fn 36 [])]) Try.func35 rfl rfl (by kernel_rfl) (by kernel_rfl) (by kernel_rfl) ?_
  unfold slices_ContainsFunc_int
  refine bStart ?_
  refine oSeq ?_
  refine oRegion rfl ?_
  refine oOp (.d (.bool false)) (by kernel_rfl) (by kernel_rfl) (PureV.does (p_assign (by kernel_rfl))) ?_
  refine oEnd ?_
  refine oSeq ?_
  refine oRegion rfl ?_
  refine oOp (.d (.lit (List.map e_i64 s1))) (by kernel_rfl) (by kernel_rfl) (PureV.does (p_move (by kernel_rfl))) ?_
  refine oOp (.fn 36 []) (by kernel_rfl) (by kernel_rfl) (PureV.does (p_move (by kernel_rfl))) ?_
  refine bCall (caps := []) (v := (fun (r12 : Int) => (.d (.int .i64 r12) : V))) (H' := (fun (r12 : Int) => ([] : List Blk))) [] _ (slices_IndexFunc_int_goes k s1) (by kernel_rfl) (by kernel_rfl) rfl (by kernel_rfl) Try.func42 rfl (by kernel_rfl) (ConvRs.refl _ _) (by kernel_rfl) (by kernel_rfl) (by kernel_rfl) (by decide) (by kernel_rfl) (by kernel_rfl) (fun _ => (by kernel_rfl)) (fun _ => (by kernel_rfl)) (fun _ => (by kernel_rfl)) (fun r12 => ?_)
  refine oOp (.d (.bool (decide (r12 ≥ 0)))) (by kernel_rfl) (by kernel_rfl) (PureV.does (p_int (k := .i64) (p := r12) (q := 0) (by kernel_rfl) (by kernel_rfl) (by kernel_rfl))) ?_
  refine oOp (.d (.bool (decide (r12 ≥ 0)))) (by kernel_rfl) (by kernel_rfl) (PureV.does (p_assign (by kernel_rfl))) ?_
  refine oEnd ?_
  exact oRet (r0 := (decide (r12 ≥ 0))) (rv := .d (.bool (decide (r12 ≥ 0)))) (B := []) (vs := [.d (.bool (decide (r12 ≥ 0)))]) (σ := []) (by kernel_rfl) Try.func35 rfl (.cons _ _ _ _ (.tmp 4 _ (by kernel_rfl)) .nil) (by kernel_rfl) (by kernel_rfl) (by kernel_rfl) (by kernel_rfl) (by decide) (by kernel_rfl) (by kernel_rfl)

/-- awardingbody/marker.ascends -/
def marker_ascends_b1 (k : Nat) (l : (List Int)) (again : Int → Option ((Unit) ⊕ (Bool))) : Int → Option ((Unit) ⊕ (Bool)) := fun x4 => bif (decide (x4 < ((List.length l) : Int))) then gidx l x4 fun e1 => gidx l (IntKind.wrap .i64 (x4 - 1)) fun e11 => bif (decide (e1 ≤ e11)) then some (Sum.inr false) else again (IntKind.wrap .i64 (x4 + 1)) else some (Sum.inl ())
def marker_ascends (k : Nat) (l : (List Int)) : Option (Bool) := Option.bind (gloop (marker_ascends_b1 k l) k 1 : Option ((Unit) ⊕ (Bool))) (Sum.elim (u0 (some true)) (fun r => some r))
def marker_ascends_E (l : (List Int)) : Bool → V × List Blk := fun r1 => (.d (.bool r1), [])
theorem marker_ascends_goes (k : Nat) (l : (List Int)) : RunsO Try.prog 37 [.d (.lit (List.map e_i64 l))] [] (marker_ascends_E l) (marker_ascends k l) := by
  refine RunsO.of_goes (N := 20) (m := 0) (T := [(0, .d (.lit (List.map e_i64 l)))]) Try.func37 rfl rfl (by kernel_rfl) (by kernel_rfl) (by kernel_rfl) ?_
  unfold marker_ascends
  refine bStart ?_
  refine oSeq ?_
  refine oRegion rfl ?_
  refine oOp (.d (.bool false)) (by kernel_rfl) (by kernel_rfl) (PureV.does (p_assign (by kernel_rfl))) ?_
  refine oEnd ?_
  refine oSeq ?_
  refine oSeq ?_
  refine oRegion rfl ?_
  refine oOp (.d (.int .i64 1)) (by kernel_rfl) (by kernel_rfl) (PureV.does (p_assign (by kernel_rfl))) ?_
  refine oEnd ?_
  refine bJoin ((u0 ([]))) ((u0 ([]))) Sum.inl (fun s => ?_) (fun hj2 => ?_)
  · cases s
    refine bInl ?_
    refine bU0 ?_
    refine oView (T' := []) (H' := []) (by kernel_rfl) (by kernel_rfl) ?_
    refine oSeq ?_
    refine oRegion rfl ?_
    refine oOp (.d (.bool true)) (by kernel_rfl) (by kernel_rfl) (PureV.does (p_assign (by kernel_rfl))) ?_
    refine oEnd ?_
    exact oRet (r0 := true) (rv := .d (.bool true)) (B := []) (vs := [.d (.bool true)]) (σ := []) (by kernel_rfl) Try.func37 rfl (.cons _ _ _ _ (.tmp 2 _ (by kernel_rfl)) .nil) (by kernel_rfl) (by kernel_rfl) (by kernel_rfl) (by kernel_rfl) (by decide) (by kernel_rfl) (by kernel_rfl)
  · refine oBlock ?_
    refine oLoop ?_
    refine oHead [0, 3] [] (T' := [(0, .d (.lit (List.map e_i64 l))), (3, .d (.int .i64 1))]) (H' := []) (by kernel_rfl) (by kernel_rfl) (by kernel_rfl) (by kernel_rfl) (by decide) (by kernel_rfl) (by kernel_rfl) ?_
    refine bLoop (body := marker_ascends_b1 k l) ((fun (x4 : Int) => [(0, .d (.lit (List.map e_i64 l))), (3, .d (.int .i64 x4))])) ((fun (x4 : Int) => [])) (fun again hag1 x4 => ?_) k 1
    · unfold marker_ascends_b1
      refine oView (T' := [(0, .d (.lit (List.map e_i64 l))), (3, .d (.int .i64 x4))]) (H' := []) (by kernel_rfl) (by kernel_rfl) ?_
      refine oSeq ?_
      refine oSeq ?_
      refine oRegion rfl ?_
      refine oOp (.d (.int .i64 x4)) (by kernel_rfl) (by kernel_rfl) (PureV.does (p_move (by kernel_rfl))) ?_
      refine oOp (.d (.lit (List.map e_i64 l))) (by kernel_rfl) (by kernel_rfl) (PureV.does (p_move (by kernel_rfl))) ?_
      refine oOp (.d (.int .i64 ((List.length l) : Int))) (by kernel_rfl) (by kernel_rfl) (PureV.does (k_lenLit (enc := e_i64) l (by kernel_rfl) Try.underlying22)) ?_
      refine oOp (.d (.bool (decide (x4 < ((List.length l) : Int))))) (by kernel_rfl) (by kernel_rfl) (PureV.does (p_int (k := .i64) (p := x4) (q := ((List.length l) : Int)) (by kernel_rfl) (by kernel_rfl) (by kernel_rfl))) ?_
      refine oEnd ?_
      refine bSplit 7 (by kernel_rfl) (fun hc => ?_) (fun hc => ?_)
      · refine oCondT (by kernel_rfl) ?_
        refine oSkip ?_
        refine oSeq ?_
        refine oBlock ?_
        refine oSeq ?_
        refine oDraw [] rfl ?_
        refine aTakeL (i := 0) (st' := []) (.d (.lit (List.map e_i64 l))) rfl (by kernel_rfl) (by kernel_rfl) (by kernel_rfl) (by kernel_rfl) (by kernel_rfl) (by kernel_rfl) (by kernel_rfl) (PureV.quiet (p_move (by kernel_rfl)) []) ?_
        refine aTakeL (i := 1) (st' := []) (.d (.int .i64 x4)) rfl (by kernel_rfl) (by kernel_rfl) (by kernel_rfl) (by kernel_rfl) (by kernel_rfl) (by kernel_rfl) (by kernel_rfl) (PureV.quiet (p_move (by kernel_rfl)) []) ?_
        refine dIdx (fun e1 h1 h11 => ?_)
        refine aTakeL (i := 2) (st' := []) (.lptr (e_i64 e1) 0) rfl (by kernel_rfl) (by kernel_rfl) (by kernel_rfl) (by kernel_rfl) (by kernel_rfl) (by kernel_rfl) (by kernel_rfl) (PureV.quiet (k_idxLit e_i64_len l (a := e1) (by kernel_rfl) (k := .i64) (i := x4) (by kernel_rfl) Try.underlying22 ty3 h1 h11) []) ?_
        refine aTakeL (i := 3) (st' := []) (.d (.int .i64 e1)) rfl (by kernel_rfl) (by kernel_rfl) (by kernel_rfl) (by kernel_rfl) (by kernel_rfl) (by kernel_rfl) (by kernel_rfl) (k_loadL (cells := e_i64 e1) 0 (by kernel_rfl) Try.underlying3 (by kernel_rfl) (by kernel_rfl)) ?_
        refine aTakeL (i := 4) (st' := []) (.d (.lit (List.map e_i64 l))) rfl (by kernel_rfl) (by kernel_rfl) (by kernel_rfl) (by kernel_rfl) (by kernel_rfl) (by kernel_rfl) (by kernel_rfl) (PureV.quiet (p_move (by kernel_rfl)) []) ?_
        refine aTakeL (i := 5) (st' := []) (.d (.int .i64 x4)) rfl (by kernel_rfl) (by kernel_rfl) (by kernel_rfl) (by kernel_rfl) (by kernel_rfl) (by kernel_rfl) (by kernel_rfl) (PureV.quiet (p_move (by kernel_rfl)) []) ?_
        refine aTakeL (i := 6) (st' := []) (.d (.int .i64 (IntKind.wrap .i64 (x4 - 1)))) rfl (by kernel_rfl) (by kernel_rfl) (by kernel_rfl) (by kernel_rfl) (by kernel_rfl) (by kernel_rfl) (by kernel_rfl) (PureV.quiet (p_int (k := .i64) (p := x4) (q := 1) (by kernel_rfl) (by kernel_rfl) (by kernel_rfl)) []) ?_
        refine dIdx (fun e11 h12 h13 => ?_)
        refine aTakeL (i := 7) (st' := []) (.lptr (e_i64 e11) 0) rfl (by kernel_rfl) (by kernel_rfl) (by kernel_rfl) (by kernel_rfl) (by kernel_rfl) (by kernel_rfl) (by kernel_rfl) (PureV.quiet (k_idxLit e_i64_len l (a := e11) (by kernel_rfl) (k := .i64) (i := (IntKind.wrap .i64 (x4 - 1))) (by kernel_rfl) Try.underlying22 ty3 h12 h13) []) ?_
        refine aTakeL (i := 8) (st' := []) (.d (.int .i64 e11)) rfl (by kernel_rfl) (by kernel_rfl) (by kernel_rfl) (by kernel_rfl) (by kernel_rfl) (by kernel_rfl) (by kernel_rfl) (k_loadL (cells := e_i64 e11) 0 (by kernel_rfl) Try.underlying3 (by kernel_rfl) (by kernel_rfl)) ?_
        refine aTakeL (i := 9) (st' := []) (.d (.bool (decide (e1 ≤ e11)))) rfl (by kernel_rfl) (by kernel_rfl) (by kernel_rfl) (by kernel_rfl) (by kernel_rfl) (by kernel_rfl) (by kernel_rfl) (PureV.quiet (p_int (k := .i64) (p := e1) (q := e11) (by kernel_rfl) (by kernel_rfl) (by kernel_rfl)) []) ?_
        refine aDone (by kernel_rfl) ?_
        refine bSplit 19 (by kernel_rfl) (fun hc => ?_) (fun hc => ?_)
        · refine oCondT (by kernel_rfl) ?_
          refine oSeq ?_
          refine oRegion rfl ?_
          refine oOp (.d (.bool false)) (by kernel_rfl) (by kernel_rfl) (PureV.does (p_assign (by kernel_rfl))) ?_
          refine oEnd ?_
          exact oRet (r0 := false) (rv := .d (.bool false)) (B := []) (vs := [.d (.bool false)]) (σ := []) (by kernel_rfl) Try.func37 rfl (.cons _ _ _ _ (.tmp 2 _ (by kernel_rfl)) .nil) (by kernel_rfl) (by kernel_rfl) (by kernel_rfl) (by kernel_rfl) (by decide) (by kernel_rfl) (by kernel_rfl)
        · refine oCondF (by kernel_rfl) ?_
          refine oSkip ?_
          refine oBlk ?_
          refine oRegion rfl ?_
          refine oOp (.d (.int .i64 x4)) (by kernel_rfl) (by kernel_rfl) (PureV.does (p_move (by kernel_rfl))) ?_
          refine oOp (.d (.int .i64 (IntKind.wrap .i64 (x4 + 1)))) (by kernel_rfl) (by kernel_rfl) (PureV.does (p_int (k := .i64) (p := x4) (q := 1) (by kernel_rfl) (by kernel_rfl) (by kernel_rfl))) ?_
          refine oOp (.d (.int .i64 (IntKind.wrap .i64 (x4 + 1)))) (by kernel_rfl) (by kernel_rfl) (PureV.does (p_assign (by kernel_rfl))) ?_
          refine oEnd ?_
          refine oAgain ?_
          refine oHead [0, 3] [] (T' := [(0, .d (.lit (List.map e_i64 l))), (3, .d (.int .i64 (IntKind.wrap .i64 (x4 + 1))))]) (H' := []) (by kernel_rfl) (by kernel_rfl) (by kernel_rfl) (by kernel_rfl) (by decide) (by kernel_rfl) (by kernel_rfl) ?_
          exact hag1 (IntKind.wrap .i64 (x4 + 1))
      · refine oCondF (by kernel_rfl) ?_
        refine oExit rfl ?_
        refine oHead [] [] (T' := []) (H' := []) (by kernel_rfl) (by kernel_rfl) (by kernel_rfl) (by kernel_rfl) (by decide) (by kernel_rfl) (by kernel_rfl) ?_
        exact hj2 ()

/-- awardingbody/marker.Check -/
def marker_Check_b1 (k : Nat) (l : (List SMarker)) (again : Int → Option ((Unit) ⊕ (Int))) : Int → Option ((Unit) ⊕ (Int)) := fun x174 => bif (decide (x174 < ((List.length l) : Int))) then gidx l x174 fun e114 => Option.bind (marker_in k e114.ID 1 99) (fun r186 => Option.bind (bif (!r186) then some true else Option.bind (marker_in k e114.Centre (-1) 99) (fun r192 => some (!r192)) : Option (Bool)) (fun x226 => Option.bind (bif x226 then some true else Option.bind (marker_in k e114.Level 1 3) (fun r191 => some (!r191)) : Option (Bool)) (fun x227 => Option.bind (bif x227 then some true else Option.bind (marker_in k e114.Capacity 0 60) (fun r190 => some (!r190)) : Option (Bool)) (fun x228 => bif x228 then some (Sum.inr 2) else Option.bind (slices_ContainsFunc_int k e114.Papers) (fun r1133 => bif r1133 then some (Sum.inr 2) else Option.bind (marker_ascends k e114.Papers) (fun r14 => Option.bind (bif (!r14) then some true else Option.bind (bif (decide (x174 > 0)) then gidx l (IntKind.wrap .i64 (x174 - 1)) fun e11 => some (decide (e114.ID ≤ e11.ID)) else some false : Option Bool) (fun x243 => some x243) : Option Bool) (fun x242 => bif x242 then some (Sum.inr 43) else again (IntKind.wrap .i64 (x174 + 1))))))))) else some (Sum.inl ())
def marker_Check (k : Nat) (l : (List SMarker)) : Option (Int) := bif (decide (((List.length l) : Int) > 16)) then some 3 else Option.bind (gloop (marker_Check_b1 k l) k 0 : Option ((Unit) ⊕ (Int))) (Sum.elim (u0 (some 0)) (fun r => some r))
def marker_Check_E (l : (List SMarker)) : Int → V × List Blk := fun r129 => (.d (.int .i64 r129), [])
theorem marker_Check_goes (k : Nat) (l : (List SMarker)) : RunsO Try.prog 22 [.d (.lit (List.map e_SMarker l))] [] (marker_Check_E l) (marker_Check k l) := by
  refine RunsO.of_goes (N := 63) (m := 0) (T := [(0, .d (.lit (List.map e_SMarker l)))]) Try.func22 rfl rfl (by kernel_rfl) (by kernel_rfl) (by kernel_rfl) ?_
  unfold marker_Check
  refine bStart ?_
  refine oSeq ?_
  refine oRegion rfl ?_
  refine oOp (.d (.int .i64 0)) (by kernel_rfl) (by kernel_rfl) (PureV.does (p_assign (by kernel_rfl))) ?_
  refine oEnd ?_
  refine oSeq ?_
  refine oSeq ?_
  refine oRegion rfl ?_
  refine oOp (.d (.lit (List.map e_SMarker l))) (by kernel_rfl) (by kernel_rfl) (PureV.does (p_move (by kernel_rfl))) ?_
  refine oOp (.d (.int .i64 ((List.length l) : Int))) (by kernel_rfl) (by kernel_rfl) (PureV.does (k_lenLit (enc := e_SMarker) l (by kernel_rfl) Try.underlying41)) ?_
  refine oOp (.d (.bool (decide (((List.length l) : Int) > 16)))) (by kernel_rfl) (by kernel_rfl) (PureV.does (p_int (k := .i64) (p := ((List.length l) : Int)) (q := 16) (by kernel_rfl) (by kernel_rfl) (by kernel_rfl))) ?_
  refine oEnd ?_
  refine bSplit 7 (by kernel_rfl) (fun hc => ?_) (fun hc => ?_)
  · refine oCondT (by kernel_rfl) ?_
    refine oSeq ?_
    refine oRegion rfl ?_
    refine oOp (.d (.int .i64 3)) (by kernel_rfl) (by kernel_rfl) (PureV.does (p_assign (by kernel_rfl))) ?_
    refine oEnd ?_
    exact oRet (r0 := 3) (rv := .d (.int .i64 3)) (B := []) (vs := [.d (.int .i64 3)]) (σ := []) (by kernel_rfl) Try.func22 rfl (.cons _ _ _ _ (.tmp 2 _ (by kernel_rfl)) .nil) (by kernel_rfl) (by kernel_rfl) (by kernel_rfl) (by kernel_rfl) (by decide) (by kernel_rfl) (by kernel_rfl)
  · refine oCondF (by kernel_rfl) ?_
    refine oSkip ?_
    refine oSeq ?_
    refine oSeq ?_
    refine oRegion rfl ?_
    refine oOp (.d (.lit (List.map e_SMarker l))) (by kernel_rfl) (by kernel_rfl) (PureV.does (p_move (by kernel_rfl))) ?_
    refine oOp (.d (.int .i64 ((List.length l) : Int))) (by kernel_rfl) (by kernel_rfl) (PureV.does (k_lenLit (enc := e_SMarker) l (by kernel_rfl) Try.underlying41)) ?_
    refine oOp (.d (.int .i64 0)) (by kernel_rfl) (by kernel_rfl) (PureV.does (p_move (by kernel_rfl))) ?_
    refine oEnd ?_
    refine bJoin ((u0 ([]))) ((u0 ([]))) Sum.inl (fun s => ?_) (fun hj62 => ?_)
    · cases s
      refine bInl ?_
      refine bU0 ?_
      refine oView (T' := []) (H' := []) (by kernel_rfl) (by kernel_rfl) ?_
      refine oSeq ?_
      refine oRegion rfl ?_
      refine oOp (.d (.int .i64 0)) (by kernel_rfl) (by kernel_rfl) (PureV.does (p_assign (by kernel_rfl))) ?_
      refine oEnd ?_
      exact oRet (r0 := 0) (rv := .d (.int .i64 0)) (B := []) (vs := [.d (.int .i64 0)]) (σ := []) (by kernel_rfl) Try.func22 rfl (.cons _ _ _ _ (.tmp 2 _ (by kernel_rfl)) .nil) (by kernel_rfl) (by kernel_rfl) (by kernel_rfl) (by kernel_rfl) (by decide) (by kernel_rfl) (by kernel_rfl)
    · refine oBlock ?_
      refine oLoop ?_
      refine oHead [0, 8, 9, 10] [] (T' := [(0, .d (.lit (List.map e_SMarker l))), (8, .d (.lit (List.map e_SMarker l))), (9, .d (.int .i64 ((List.length l) : Int))), (10, .d (.int .i64 0))]) (H' := []) (by kernel_rfl) (by kernel_rfl) (by kernel_rfl) (by kernel_rfl) (by decide) (by kernel_rfl) (by kernel_rfl) ?_
      refine bLoop (body := marker_Check_b1 k l) ((fun (x174 : Int) => [(0, .d (.lit (List.map e_SMarker l))), (8, .d (.lit (List.map e_SMarker l))), (9, .d (.int .i64 ((List.length l) : Int))), (10, .d (.int .i64 x174))])) ((fun (x174 : Int) => [])) (fun again hag1 x174 => ?_) k 0
      · unfold marker_Check_b1
        refine oView (T' := [(0, .d (.lit (List.map e_SMarker l))), (8, .d (.lit (List.map e_SMarker l))), (9, .d (.int .i64 ((List.length l) : Int))), (10, .d (.int .i64 x174))]) (H' := []) (by kernel_rfl) (by kernel_rfl) ?_
        refine oSeq ?_
        refine oRegion rfl ?_
        refine oOp (.d (.bool (decide (x174 < ((List.length l) : Int))))) (by kernel_rfl) (by kernel_rfl) (PureV.does (p_int (k := .i64) (p := x174) (q := ((List.length l) : Int)) (by kernel_rfl) (by kernel_rfl) (by kernel_rfl))) ?_
        refine oEnd ?_
        refine oSeq ?_
        refine bSplit 11 (by kernel_rfl) (fun hc => ?_) (fun hc => ?_)
        · refine oCondT (by kernel_rfl) ?_
          refine oSkip ?_
          refine oSeq ?_
          refine oBlock ?_
          refine oSeq ?_
          refine oRegion rfl ?_
          refine oOp (.d (.int .i64 x174)) (by kernel_rfl) (by kernel_rfl) (PureV.does (p_move (by kernel_rfl))) ?_
          refine bIdx (fun e114 h128 h129 => ?_)
          refine oOp (.lptr (e_SMarker e114) 0) (by kernel_rfl) (by kernel_rfl) (PureV.does (k_idxLit e_SMarker_len l (a := e114) (by kernel_rfl) (k := .i64) (i := x174) (by kernel_rfl) Try.underlying41 ty52 h128 h129)) ?_
          refine oOp (.agg [.d (.int .i64 e114.ID), .d (.int .i64 e114.Centre), .d (.int .i64 e114.Level), .d (.int .i64 e114.Capacity), .d (.lit (List.map e_i64 e114.Papers))]) (by kernel_rfl) (by kernel_rfl) (Quiet.does (k_loadLAgg (cells := e_SMarker e114) 0 [(.int .i64 e114.ID), (.int .i64 e114.Centre), (.int .i64 e114.Level), (.int .i64 e114.Capacity), (.lit (List.map e_i64 e114.Papers))] (by kernel_rfl) Try.underlying52 (by kernel_rfl) ty52 (by kernel_rfl) (by kernel_rfl) (by kernel_rfl))) ?_
          refine oOp (.ptr 0 0) (by kernel_rfl) (by kernel_rfl) (k_alloc (H' := [.box [.d (.int .i64 0), .d (.int .i64 0), .d (.int .i64 0), .d (.int .i64 0), .nilc]]) ty52 (by kernel_rfl) (by kernel_rfl)) ?_
          refine oOp (.d (.int .i64 x174)) (by kernel_rfl) (by kernel_rfl) (PureV.does (p_assign (by kernel_rfl))) ?_
          refine oOp (.undef) (by kernel_rfl) (by kernel_rfl) (k_store (vs := [.d (.int .i64 e114.ID), .d (.int .i64 e114.Centre), .d (.int .i64 e114.Level), .d (.int .i64 e114.Capacity), .d (.lit (List.map e_i64 e114.Papers))]) (H' := [.box [.d (.int .i64 e114.ID), .d (.int .i64 e114.Centre), .d (.int .i64 e114.Level), .d (.int .i64 e114.Capacity), .d (.lit (List.map e_i64 e114.Papers))]]) 0 0 (by kernel_rfl) ty52 (by kernel_rfl) (by kernel_rfl) (by kernel_rfl)) ?_
          refine oEnd ?_
          refine oBlock ?_
          refine oSeq ?_
          refine oRegion rfl ?_
          refine oOp (.ptr 0 0) (by kernel_rfl) (by kernel_rfl) (PureV.does (k_fieldAddr 0 0 (by kernel_rfl) Try.underlying52 rfl ty3 (by kernel_rfl))) ?_
          refine oOp (.d (.int .i64 e114.ID)) (by kernel_rfl) (by kernel_rfl) (Quiet.does (k_load 0 0 (by kernel_rfl) Try.underlying3 (by kernel_rfl) (by kernel_rfl))) ?_
          refine bCall (caps := []) (v := (fun (r186 : Bool) => (.d (.bool r186) : V))) (H' := (fun (r186 : Bool) => ([.box [.d (.int .i64 e114.ID), .d (.int .i64 e114.Centre), .d (.int .i64 e114.Level), .d (.int .i64 e114.Capacity), .d (.lit (List.map e_i64 e114.Papers))]] : List Blk))) [] _ (marker_in_goes k e114.ID 1 99) (by kernel_rfl) (by kernel_rfl) rfl (by kernel_rfl) Try.func34 rfl (by kernel_rfl) (ConvRs.refl _ _) (by kernel_rfl) (by kernel_rfl) (by kernel_rfl) (by decide) (by kernel_rfl) (by kernel_rfl) (fun _ => (by kernel_rfl)) (fun _ => (by kernel_rfl)) (fun _ => (by kernel_rfl)) (fun r186 => ?_)
          refine oOp (.d (.bool (!r186))) (by kernel_rfl) (by kernel_rfl) (PureV.does (p_not (p := r186) (by kernel_rfl) (by kernel_rfl))) ?_
          refine oOp (.d (.bool (!r186))) (by kernel_rfl) (by kernel_rfl) (PureV.does (p_move (by kernel_rfl))) ?_
          refine bMeet 5 rfl ((fun (x226 : Bool) => [(0, .d (.lit (List.map e_SMarker l))), (3, .d (.int .i64 x174)), (4, .ptr 0 0), (8, .d (.lit (List.map e_SMarker l))), (9, .d (.int .i64 ((List.length l) : Int))), (10, .d (.int .i64 x174)), (25, .d (.bool x226))])) ((fun (x226 : Bool) => [.box [.d (.int .i64 e114.ID), .d (.int .i64 e114.Centre), .d (.int .i64 e114.Level), .d (.int .i64 e114.Capacity), .d (.lit (List.map e_i64 e114.Papers))]])) (fun s => s) (fun x226 => ?_) (fun hj110 => ?_)
          · refine oView (T' := [(0, .d (.lit (List.map e_SMarker l))), (3, .d (.int .i64 x174)), (4, .ptr 0 0), (8, .d (.lit (List.map e_SMarker l))), (9, .d (.int .i64 ((List.length l) : Int))), (10, .d (.int .i64 x174)), (25, .d (.bool x226))]) (H' := [.box [.d (.int .i64 e114.ID), .d (.int .i64 e114.Centre), .d (.int .i64 e114.Level), .d (.int .i64 e114.Capacity), .d (.lit (List.map e_i64 e114.Papers))]]) (by kernel_rfl) (by kernel_rfl) ?_
            refine oOp (.d (.bool x226)) (by kernel_rfl) (by kernel_rfl) (PureV.does (p_move (by kernel_rfl))) ?_
            refine bMeet 5 rfl ((fun (x227 : Bool) => [(0, .d (.lit (List.map e_SMarker l))), (3, .d (.int .i64 x174)), (4, .ptr 0 0), (8, .d (.lit (List.map e_SMarker l))), (9, .d (.int .i64 ((List.length l) : Int))), (10, .d (.int .i64 x174)), (31, .d (.bool x227))])) ((fun (x227 : Bool) => [.box [.d (.int .i64 e114.ID), .d (.int .i64 e114.Centre), .d (.int .i64 e114.Level), .d (.int .i64 e114.Capacity), .d (.lit (List.map e_i64 e114.Papers))]])) (fun s => s) (fun x227 => ?_) (fun hj109 => ?_)
            · refine oView (T' := [(0, .d (.lit (List.map e_SMarker l))), (3, .d (.int .i64 x174)), (4, .ptr 0 0), (8, .d (.lit (List.map e_SMarker l))), (9, .d (.int .i64 ((List.length l) : Int))), (10, .d (.int .i64 x174)), (31, .d (.bool x227))]) (H' := [.box [.d (.int .i64 e114.ID), .d (.int .i64 e114.Centre), .d (.int .i64 e114.Level), .d (.int .i64 e114.Capacity), .d (.lit (List.map e_i64 e114.Papers))]]) (by kernel_rfl) (by kernel_rfl) ?_
              refine oOp (.d (.bool x227)) (by kernel_rfl) (by kernel_rfl) (PureV.does (p_move (by kernel_rfl))) ?_
              refine bMeet 5 rfl ((fun (x228 : Bool) => [(0, .d (.lit (List.map e_SMarker l))), (3, .d (.int .i64 x174)), (4, .ptr 0 0), (8, .d (.lit (List.map e_SMarker l))), (9, .d (.int .i64 ((List.length l) : Int))), (10, .d (.int .i64 x174)), (37, .d (.bool x228))])) ((fun (x228 : Bool) => [.box [.d (.int .i64 e114.ID), .d (.int .i64 e114.Centre), .d (.int .i64 e114.Level), .d (.int .i64 e114.Capacity), .d (.lit (List.map e_i64 e114.Papers))]])) (fun s => s) (fun x228 => ?_) (fun hj108 => ?_)
              · refine oView (T' := [(0, .d (.lit (List.map e_SMarker l))), (3, .d (.int .i64 x174)), (4, .ptr 0 0), (8, .d (.lit (List.map e_SMarker l))), (9, .d (.int .i64 ((List.length l) : Int))), (10, .d (.int .i64 x174)), (37, .d (.bool x228))]) (H' := [.box [.d (.int .i64 e114.ID), .d (.int .i64 e114.Centre), .d (.int .i64 e114.Level), .d (.int .i64 e114.Capacity), .d (.lit (List.map e_i64 e114.Papers))]]) (by kernel_rfl) (by kernel_rfl) ?_
                refine oOp (.d (.bool x228)) (by kernel_rfl) (by kernel_rfl) (PureV.does (p_assign (by kernel_rfl))) ?_
                refine oEnd ?_
                refine bSplit 15 (by kernel_rfl) (fun hc => ?_) (fun hc => ?_)
                · refine oCondT (by kernel_rfl) ?_
                  refine oSeq ?_
                  refine oRegion rfl ?_
                  refine oOp (.d (.int .i64 2)) (by kernel_rfl) (by kernel_rfl) (PureV.does (p_assign (by kernel_rfl))) ?_
                  refine oEnd ?_
                  exact oRet (r0 := 2) (rv := .d (.int .i64 2)) (B := []) (vs := [.d (.int .i64 2)]) (σ := []) (by kernel_rfl) Try.func22 rfl (.cons _ _ _ _ (.tmp 2 _ (by kernel_rfl)) .nil) (by kernel_rfl) (by kernel_rfl) (by kernel_rfl) (by kernel_rfl) (by decide) (by kernel_rfl) (by kernel_rfl)
                · refine oCondF (by kernel_rfl) ?_
                  refine oSeq ?_
                  refine oRegion rfl ?_
                  refine oOp (.ptr 0 4) (by kernel_rfl) (by kernel_rfl) (PureV.does (k_fieldAddr 0 0 (by kernel_rfl) Try.underlying52 rfl ty22 (by kernel_rfl))) ?_
                  refine oOp (.d (.lit (List.map e_i64 e114.Papers))) (by kernel_rfl) (by kernel_rfl) (Quiet.does (k_load 0 4 (by kernel_rfl) Try.underlying22 (by kernel_rfl) (by kernel_rfl))) ?_
                  refine bCall (caps := []) (v := (fun (r1133 : Bool) => (.d (.bool r1133) : V))) (H' := (fun (r1133 : Bool) => ([.box [.d (.int .i64 e114.ID), .d (.int .i64 e114.Centre), .d (.int .i64 e114.Level), .d (.int .i64 e114.Capacity), .d (.lit (List.map e_i64 e114.Papers))]] : List Blk))) [] _ (slices_ContainsFunc_int_goes k e114.Papers) (by kernel_rfl) (by kernel_rfl) rfl (by kernel_rfl) Try.func35 rfl (by kernel_rfl) (ConvRs.refl _ _) (by kernel_rfl) (by kernel_rfl) (by kernel_rfl) (by decide) (by kernel_rfl) (by kernel_rfl) (fun _ => (by kernel_rfl)) (fun _ => (by kernel_rfl)) (fun _ => (by kernel_rfl)) (fun r1133 => ?_)
                  refine oOp (.d (.bool r1133)) (by kernel_rfl) (by kernel_rfl) (PureV.does (p_assign (by kernel_rfl))) ?_
                  refine oEnd ?_
                  refine bSplit 38 (by kernel_rfl) (fun hc => ?_) (fun hc => ?_)
                  · refine oCondT (by kernel_rfl) ?_
                    refine oSeq ?_
                    refine oRegion rfl ?_
                    refine oOp (.d (.int .i64 2)) (by kernel_rfl) (by kernel_rfl) (PureV.does (p_assign (by kernel_rfl))) ?_
                    refine oEnd ?_
                    exact oRet (r0 := 2) (rv := .d (.int .i64 2)) (B := []) (vs := [.d (.int .i64 2)]) (σ := []) (by kernel_rfl) Try.func22 rfl (.cons _ _ _ _ (.tmp 2 _ (by kernel_rfl)) .nil) (by kernel_rfl) (by kernel_rfl) (by kernel_rfl) (by kernel_rfl) (by decide) (by kernel_rfl) (by kernel_rfl)
                  · refine oCondF (by kernel_rfl) ?_
                    refine oSeq ?_
                    refine oDraw [(0, 20)] rfl ?_
                    refine aTakeL (i := 0) (st' := []) (.ptr 0 4) rfl (by kernel_rfl) (by kernel_rfl) (by kernel_rfl) (by kernel_rfl) (by kernel_rfl) (by kernel_rfl) (by kernel_rfl) (PureV.quiet (k_fieldAddr 0 0 (by kernel_rfl) Try.underlying52 rfl ty22 (by kernel_rfl)) []) ?_
                    refine aTakeL (i := 1) (st' := [0]) (.d (.lit (List.map e_i64 e114.Papers))) rfl (by kernel_rfl) (by kernel_rfl) (by kernel_rfl) (by kernel_rfl) (by kernel_rfl) (by kernel_rfl) (by kernel_rfl) (k_load 0 4 (by kernel_rfl) Try.underlying22 (by kernel_rfl) (by kernel_rfl)) ?_
                    refine dCall (i := 2) (caps := []) (v := (fun (r14 : Bool) => (.d (.bool r14) : V))) (H' := (fun (r14 : Bool) => ([.box [.d (.int .i64 e114.ID), .d (.int .i64 e114.Centre), .d (.int .i64 e114.Level), .d (.int .i64 e114.Capacity), .d (.lit (List.map e_i64 e114.Papers))]] : List Blk))) [] _ (marker_ascends_goes k e114.Papers) rfl (by kernel_rfl) (by kernel_rfl) (by kernel_rfl) (by kernel_rfl) (by kernel_rfl) (by kernel_rfl) (by kernel_rfl) (by kernel_rfl) rfl (by kernel_rfl) Try.func37 rfl (by kernel_rfl) (ConvRs.refl _ _) (by kernel_rfl) (by kernel_rfl) (by kernel_rfl) (by decide) (by kernel_rfl) (by kernel_rfl) (fun _ => (by kernel_rfl)) (fun _ => (by kernel_rfl)) (fun _ => (by kernel_rfl)) (fun r14 => ?_)
                    refine aTakeL (i := 3) (st' := []) (.d (.bool (!r14))) rfl (by kernel_rfl) (by kernel_rfl) (by kernel_rfl) (by kernel_rfl) (by kernel_rfl) (by kernel_rfl) (by kernel_rfl) (PureV.quiet (p_not (p := r14) (by kernel_rfl) (by kernel_rfl)) []) ?_
                    refine aTakeL (i := 4) (st' := []) (.d (.bool (!r14))) rfl (by kernel_rfl) (by kernel_rfl) (by kernel_rfl) (by kernel_rfl) (by kernel_rfl) (by kernel_rfl) (by kernel_rfl) (PureV.quiet (p_move (by kernel_rfl)) []) ?_
                    refine dMeet [18, 17, 16, 15, 14, 13, 12, 11, 10, 9, 8, 7, 6, 5, 4, 3, 2, 1, 0] (fun (x242 : Bool) => [(0, .d (.lit (List.map e_SMarker l))), (8, .d (.lit (List.map e_SMarker l))), (9, .d (.int .i64 ((List.length l) : Int))), (10, .d (.int .i64 x174)), (61, .d (.bool x242))]) (fun (x242 : Bool) => [(0, .d (.lit (List.map e_SMarker l))), (8, .d (.lit (List.map e_SMarker l))), (9, .d (.int .i64 ((List.length l) : Int))), (10, .d (.int .i64 x174)), (61, .d (.bool x242))]) (fun _ => [.box [.d (.int .i64 e114.ID), .d (.int .i64 e114.Centre), .d (.int .i64 e114.Level), .d (.int .i64 e114.Capacity), .d (.lit (List.map e_i64 e114.Papers))]]) (fun s => s) (fun x242 => ?_) (fun hj106 => ?_)
                    · refine aTakeL (i := 19) (st' := []) (.d (.bool x242)) rfl (by kernel_rfl) (by kernel_rfl) (by kernel_rfl) (by kernel_rfl) (by kernel_rfl) (by kernel_rfl) (by kernel_rfl) (PureV.quiet (p_assign (by kernel_rfl)) []) ?_
                      refine aDone (by kernel_rfl) ?_
                      refine bSplit 42 (by kernel_rfl) (fun hc => ?_) (fun hc => ?_)
                      · refine oCondT (by kernel_rfl) ?_
                        refine oSeq ?_
                        refine oRegion rfl ?_
                        refine oOp (.d (.int .i64 43)) (by kernel_rfl) (by kernel_rfl) (PureV.does (p_assign (by kernel_rfl))) ?_
                        refine oEnd ?_
                        exact oRet (r0 := 43) (rv := .d (.int .i64 43)) (B := []) (vs := [.d (.int .i64 43)]) (σ := []) (by kernel_rfl) Try.func22 rfl (.cons _ _ _ _ (.tmp 2 _ (by kernel_rfl)) .nil) (by kernel_rfl) (by kernel_rfl) (by kernel_rfl) (by kernel_rfl) (by decide) (by kernel_rfl) (by kernel_rfl)
                      · refine oCondF (by kernel_rfl) ?_
                        refine oSkip ?_
                        refine oBlk ?_
                        refine oBlk ?_
                        refine oRegion rfl ?_
                        refine oOp (.d (.int .i64 (IntKind.wrap .i64 (x174 + 1)))) (by kernel_rfl) (by kernel_rfl) (PureV.does (p_int (k := .i64) (p := x174) (q := 1) (by kernel_rfl) (by kernel_rfl) (by kernel_rfl))) ?_
                        refine oOp (.d (.int .i64 (IntKind.wrap .i64 (x174 + 1)))) (by kernel_rfl) (by kernel_rfl) (PureV.does (p_move (by kernel_rfl))) ?_
                        refine oEnd ?_
                        refine oAgain ?_
                        refine oHead [0, 8, 9, 10] [] (T' := [(0, .d (.lit (List.map e_SMarker l))), (8, .d (.lit (List.map e_SMarker l))), (9, .d (.int .i64 ((List.length l) : Int))), (10, .d (.int .i64 (IntKind.wrap .i64 (x174 + 1))))]) (H' := []) (by kernel_rfl) (by kernel_rfl) (by kernel_rfl) (by kernel_rfl) (by decide) (by kernel_rfl) (by kernel_rfl) ?_
                        exact hag1 (IntKind.wrap .i64 (x174 + 1))
                    · refine dSplit 47 (by kernel_rfl) (by kernel_rfl) (fun hc => ?_) (fun hc => ?_)
                      · refine aTakeNot (i := 5) rfl (by kernel_rfl) (by kernel_rfl) (by kernel_rfl) (by kernel_rfl) (by kernel_rfl) (by kernel_rfl) (by kernel_rfl) ?_
                        refine aTakeNot (i := 6) rfl (by kernel_rfl) (by kernel_rfl) (by kernel_rfl) (by kernel_rfl) (by kernel_rfl) (by kernel_rfl) (by kernel_rfl) ?_
                        refine aTakeNot (i := 7) rfl (by kernel_rfl) (by kernel_rfl) (by kernel_rfl) (by kernel_rfl) (by kernel_rfl) (by kernel_rfl) (by kernel_rfl) ?_
                        refine aTakeNot (i := 8) rfl (by kernel_rfl) (by kernel_rfl) (by kernel_rfl) (by kernel_rfl) (by kernel_rfl) (by kernel_rfl) (by kernel_rfl) ?_
                        refine aTakeNot (i := 9) rfl (by kernel_rfl) (by kernel_rfl) (by kernel_rfl) (by kernel_rfl) (by kernel_rfl) (by kernel_rfl) (by kernel_rfl) ?_
                        refine aTakeNot (i := 10) rfl (by kernel_rfl) (by kernel_rfl) (by kernel_rfl) (by kernel_rfl) (by kernel_rfl) (by kernel_rfl) (by kernel_rfl) ?_
                        refine aTakeNot (i := 11) rfl (by kernel_rfl) (by kernel_rfl) (by kernel_rfl) (by kernel_rfl) (by kernel_rfl) (by kernel_rfl) (by kernel_rfl) ?_
                        refine aTakeNot (i := 12) rfl (by kernel_rfl) (by kernel_rfl) (by kernel_rfl) (by kernel_rfl) (by kernel_rfl) (by kernel_rfl) (by kernel_rfl) ?_
                        refine aTakeNot (i := 13) rfl (by kernel_rfl) (by kernel_rfl) (by kernel_rfl) (by kernel_rfl) (by kernel_rfl) (by kernel_rfl) (by kernel_rfl) ?_
                        refine aTakeNot (i := 14) rfl (by kernel_rfl) (by kernel_rfl) (by kernel_rfl) (by kernel_rfl) (by kernel_rfl) (by kernel_rfl) (by kernel_rfl) ?_
                        refine aTakeNot (i := 15) rfl (by kernel_rfl) (by kernel_rfl) (by kernel_rfl) (by kernel_rfl) (by kernel_rfl) (by kernel_rfl) (by kernel_rfl) ?_
                        refine aTakeNot (i := 16) rfl (by kernel_rfl) (by kernel_rfl) (by kernel_rfl) (by kernel_rfl) (by kernel_rfl) (by kernel_rfl) (by kernel_rfl) ?_
                        refine aTakeNot (i := 17) rfl (by kernel_rfl) (by kernel_rfl) (by kernel_rfl) (by kernel_rfl) (by kernel_rfl) (by kernel_rfl) (by kernel_rfl) ?_
                        refine aTakeL (i := 18) (st' := []) (.d (.bool true)) rfl (by kernel_rfl) (by kernel_rfl) (by kernel_rfl) (by kernel_rfl) (by kernel_rfl) (by kernel_rfl) (by kernel_rfl) (PureV.quiet (p_pick (b := true) (by kernel_rfl) (by kernel_rfl)) []) ?_
                        refine dDrop [0, 8, 9, 10, 61] [0, 8, 9, 10, 61] (T' := [(0, .d (.lit (List.map e_SMarker l))), (8, .d (.lit (List.map e_SMarker l))), (9, .d (.int .i64 ((List.length l) : Int))), (10, .d (.int .i64 x174)), (61, .d (.bool true))]) (U' := [(0, .d (.lit (List.map e_SMarker l))), (8, .d (.lit (List.map e_SMarker l))), (9, .d (.int .i64 ((List.length l) : Int))), (10, .d (.int .i64 x174)), (61, .d (.bool true))]) (by kernel_rfl) (by kernel_rfl) ?_
                        exact hj106 true
                      · refine aTakeL (i := 5) (st' := []) (.d (.int .i64 x174)) rfl (by kernel_rfl) (by kernel_rfl) (by kernel_rfl) (by kernel_rfl) (by kernel_rfl) (by kernel_rfl) (by kernel_rfl) (PureV.quiet (p_move (by kernel_rfl)) []) ?_
                        refine aTakeL (i := 6) (st' := []) (.d (.bool (decide (x174 > 0)))) rfl (by kernel_rfl) (by kernel_rfl) (by kernel_rfl) (by kernel_rfl) (by kernel_rfl) (by kernel_rfl) (by kernel_rfl) (PureV.quiet (p_int (k := .i64) (p := x174) (q := 0) (by kernel_rfl) (by kernel_rfl) (by kernel_rfl)) []) ?_
                        refine aTakeL (i := 7) (st' := []) (.d (.bool (decide (x174 > 0)))) rfl (by kernel_rfl) (by kernel_rfl) (by kernel_rfl) (by kernel_rfl) (by kernel_rfl) (by kernel_rfl) (by kernel_rfl) (PureV.quiet (p_move (by kernel_rfl)) []) ?_
                        refine dMeet [17, 16, 15, 14, 13, 12, 11, 10, 9, 8, 7, 6, 5, 4, 3, 2, 1, 0] (fun (x243 : Bool) => [(0, .d (.lit (List.map e_SMarker l))), (8, .d (.lit (List.map e_SMarker l))), (9, .d (.int .i64 ((List.length l) : Int))), (10, .d (.int .i64 x174)), (47, .d (.bool false)), (60, .d (.bool x243))]) (fun (x243 : Bool) => [(0, .d (.lit (List.map e_SMarker l))), (8, .d (.lit (List.map e_SMarker l))), (9, .d (.int .i64 ((List.length l) : Int))), (10, .d (.int .i64 x174)), (47, .d (.bool false)), (60, .d (.bool x243))]) (fun _ => [.box [.d (.int .i64 e114.ID), .d (.int .i64 e114.Centre), .d (.int .i64 e114.Level), .d (.int .i64 e114.Capacity), .d (.lit (List.map e_i64 e114.Papers))]]) (fun s => s) (fun x243 => ?_) (fun hj107 => ?_)
                        · refine aTakeL (i := 18) (st' := []) (.d (.bool x243)) rfl (by kernel_rfl) (by kernel_rfl) (by kernel_rfl) (by kernel_rfl) (by kernel_rfl) (by kernel_rfl) (by kernel_rfl) (PureV.quiet (p_pick (b := false) (by kernel_rfl) (by kernel_rfl)) []) ?_
                          refine dDrop [0, 8, 9, 10, 61] [0, 8, 9, 10, 61] (T' := [(0, .d (.lit (List.map e_SMarker l))), (8, .d (.lit (List.map e_SMarker l))), (9, .d (.int .i64 ((List.length l) : Int))), (10, .d (.int .i64 x174)), (61, .d (.bool x243))]) (U' := [(0, .d (.lit (List.map e_SMarker l))), (8, .d (.lit (List.map e_SMarker l))), (9, .d (.int .i64 ((List.length l) : Int))), (10, .d (.int .i64 x174)), (61, .d (.bool x243))]) (by kernel_rfl) (by kernel_rfl) ?_
                          exact hj106 x243
                        · refine dSplit 50 (by kernel_rfl) (by kernel_rfl) (fun hc => ?_) (fun hc => ?_)
                          · refine aTakeL (i := 8) (st' := []) (.ptr 0 0) rfl (by kernel_rfl) (by kernel_rfl) (by kernel_rfl) (by kernel_rfl) (by kernel_rfl) (by kernel_rfl) (by kernel_rfl) (PureV.quiet (k_fieldAddr 0 0 (by kernel_rfl) Try.underlying52 rfl ty3 (by kernel_rfl)) []) ?_
                            refine aTakeL (i := 9) (st' := [0]) (.d (.int .i64 e114.ID)) rfl (by kernel_rfl) (by kernel_rfl) (by kernel_rfl) (by kernel_rfl) (by kernel_rfl) (by kernel_rfl) (by kernel_rfl) (k_load 0 0 (by kernel_rfl) Try.underlying3 (by kernel_rfl) (by kernel_rfl)) ?_
                            refine aTakeL (i := 10) (st' := []) (.d (.lit (List.map e_SMarker l))) rfl (by kernel_rfl) (by kernel_rfl) (by kernel_rfl) (by kernel_rfl) (by kernel_rfl) (by kernel_rfl) (by kernel_rfl) (PureV.quiet (p_move (by kernel_rfl)) []) ?_
                            refine aTakeL (i := 11) (st' := []) (.d (.int .i64 x174)) rfl (by kernel_rfl) (by kernel_rfl) (by kernel_rfl) (by kernel_rfl) (by kernel_rfl) (by kernel_rfl) (by kernel_rfl) (PureV.quiet (p_move (by kernel_rfl)) []) ?_
                            refine aTakeL (i := 12) (st' := []) (.d (.int .i64 (IntKind.wrap .i64 (x174 - 1)))) rfl (by kernel_rfl) (by kernel_rfl) (by kernel_rfl) (by kernel_rfl) (by kernel_rfl) (by kernel_rfl) (by kernel_rfl) (PureV.quiet (p_int (k := .i64) (p := x174) (q := 1) (by kernel_rfl) (by kernel_rfl) (by kernel_rfl)) []) ?_
                            refine dIdx (fun e11 h12 h13 => ?_)
                            refine aTakeL (i := 13) (st' := []) (.lptr (e_SMarker e11) 0) rfl (by kernel_rfl) (by kernel_rfl) (by kernel_rfl) (by kernel_rfl) (by kernel_rfl) (by kernel_rfl) (by kernel_rfl) (PureV.quiet (k_idxLit e_SMarker_len l (a := e11) (by kernel_rfl) (k := .i64) (i := (IntKind.wrap .i64 (x174 - 1))) (by kernel_rfl) Try.underlying41 ty52 h12 h13) []) ?_
                            refine aTakeL (i := 14) (st' := []) (.lptr (e_SMarker e11) 0) rfl (by kernel_rfl) (by kernel_rfl) (by kernel_rfl) (by kernel_rfl) (by kernel_rfl) (by kernel_rfl) (by kernel_rfl) (PureV.quiet (k_fieldAddrL (cells := e_SMarker e11) 0 (by kernel_rfl) Try.underlying52 rfl ty3 (by kernel_rfl)) []) ?_
                            refine aTakeL (i := 15) (st' := []) (.d (.int .i64 e11.ID)) rfl (by kernel_rfl) (by kernel_rfl) (by kernel_rfl) (by kernel_rfl) (by kernel_rfl) (by kernel_rfl) (by kernel_rfl) (k_loadL (cells := e_SMarker e11) 0 (by kernel_rfl) Try.underlying3 (by kernel_rfl) (by kernel_rfl)) ?_
                            refine aTakeL (i := 16) (st' := []) (.d (.bool (decide (e114.ID ≤ e11.ID)))) rfl (by kernel_rfl) (by kernel_rfl) (by kernel_rfl) (by kernel_rfl) (by kernel_rfl) (by kernel_rfl) (by kernel_rfl) (PureV.quiet (p_int (k := .i64) (p := e114.ID) (q := e11.ID) (by kernel_rfl) (by kernel_rfl) (by kernel_rfl)) []) ?_
                            refine aTakeL (i := 17) (st' := []) (.d (.bool (decide (e114.ID ≤ e11.ID)))) rfl (by kernel_rfl) (by kernel_rfl) (by kernel_rfl) (by kernel_rfl) (by kernel_rfl) (by kernel_rfl) (by kernel_rfl) (PureV.quiet (p_pick (b := true) (by kernel_rfl) (by kernel_rfl)) []) ?_
                            refine dDrop [0, 8, 9, 10, 47, 60] [0, 8, 9, 10, 47, 60] (T' := [(0, .d (.lit (List.map e_SMarker l))), (8, .d (.lit (List.map e_SMarker l))), (9, .d (.int .i64 ((List.length l) : Int))), (10, .d (.int .i64 x174)), (47, .d (.bool false)), (60, .d (.bool (decide (e114.ID ≤ e11.ID))))]) (U' := [(0, .d (.lit (List.map e_SMarker l))), (8, .d (.lit (List.map e_SMarker l))), (9, .d (.int .i64 ((List.length l) : Int))), (10, .d (.int .i64 x174)), (47, .d (.bool false)), (60, .d (.bool (decide (e114.ID ≤ e11.ID))))]) (by kernel_rfl) (by kernel_rfl) ?_
                            exact hj107 (decide (e114.ID ≤ e11.ID))
                          · refine aTakeNot (i := 8) rfl (by kernel_rfl) (by kernel_rfl) (by kernel_rfl) (by kernel_rfl) (by kernel_rfl) (by kernel_rfl) (by kernel_rfl) ?_
                            refine aTakeNot (i := 9) rfl (by kernel_rfl) (by kernel_rfl) (by kernel_rfl) (by kernel_rfl) (by kernel_rfl) (by kernel_rfl) (by kernel_rfl) ?_
                            refine aTakeNot (i := 10) rfl (by kernel_rfl) (by kernel_rfl) (by kernel_rfl) (by kernel_rfl) (by kernel_rfl) (by kernel_rfl) (by kernel_rfl) ?_
                            refine aTakeNot (i := 11) rfl (by kernel_rfl) (by kernel_rfl) (by kernel_rfl) (by kernel_rfl) (by kernel_rfl) (by kernel_rfl) (by kernel_rfl) ?_
                            refine aTakeNot (i := 12) rfl (by kernel_rfl) (by kernel_rfl) (by kernel_rfl) (by kernel_rfl) (by kernel_rfl) (by kernel_rfl) (by kernel_rfl) ?_
                            refine aTakeNot (i := 13) rfl (by kernel_rfl) (by kernel_rfl) (by kernel_rfl) (by kernel_rfl) (by kernel_rfl) (by kernel_rfl) (by kernel_rfl) ?_
                            refine aTakeNot (i := 14) rfl (by kernel_rfl) (by kernel_rfl) (by kernel_rfl) (by kernel_rfl) (by kernel_rfl) (by kernel_rfl) (by kernel_rfl) ?_
                            refine aTakeNot (i := 15) rfl (by kernel_rfl) (by kernel_rfl) (by kernel_rfl) (by kernel_rfl) (by kernel_rfl) (by kernel_rfl) (by kernel_rfl) ?_
                            refine aTakeNot (i := 16) rfl (by kernel_rfl) (by kernel_rfl) (by kernel_rfl) (by kernel_rfl) (by kernel_rfl) (by kernel_rfl) (by kernel_rfl) ?_
                            refine aTakeL (i := 17) (st' := []) (.d (.bool false)) rfl (by kernel_rfl) (by kernel_rfl) (by kernel_rfl) (by kernel_rfl) (by kernel_rfl) (by kernel_rfl) (by kernel_rfl) (PureV.quiet (p_pick (b := false) (by kernel_rfl) (by kernel_rfl)) []) ?_
                            refine dDrop [0, 8, 9, 10, 47, 60] [0, 8, 9, 10, 47, 60] (T' := [(0, .d (.lit (List.map e_SMarker l))), (8, .d (.lit (List.map e_SMarker l))), (9, .d (.int .i64 ((List.length l) : Int))), (10, .d (.int .i64 x174)), (47, .d (.bool false)), (60, .d (.bool false))]) (U' := [(0, .d (.lit (List.map e_SMarker l))), (8, .d (.lit (List.map e_SMarker l))), (9, .d (.int .i64 ((List.length l) : Int))), (10, .d (.int .i64 x174)), (47, .d (.bool false)), (60, .d (.bool false))]) (by kernel_rfl) (by kernel_rfl) ?_
                            exact hj107 false
              · refine bSplit 32 (by kernel_rfl) (fun hc => ?_) (fun hc => ?_)
                · refine oNot (by kernel_rfl) (by kernel_rfl) ?_
                  refine oNot (by kernel_rfl) (by kernel_rfl) ?_
                  refine oNot (by kernel_rfl) (by kernel_rfl) ?_
                  refine oNot (by kernel_rfl) (by kernel_rfl) ?_
                  refine oOp (.d (.bool true)) (by kernel_rfl) (by kernel_rfl) (PureV.does (p_pick (b := true) (by kernel_rfl) (by kernel_rfl))) ?_
                  refine oHead [0, 3, 4, 8, 9, 10, 37] [0] (T' := [(0, .d (.lit (List.map e_SMarker l))), (3, .d (.int .i64 x174)), (4, .ptr 0 0), (8, .d (.lit (List.map e_SMarker l))), (9, .d (.int .i64 ((List.length l) : Int))), (10, .d (.int .i64 x174)), (37, .d (.bool true))]) (H' := [.box [.d (.int .i64 e114.ID), .d (.int .i64 e114.Centre), .d (.int .i64 e114.Level), .d (.int .i64 e114.Capacity), .d (.lit (List.map e_i64 e114.Papers))]]) (by kernel_rfl) (by kernel_rfl) (by kernel_rfl) (by kernel_rfl) (by decide) (by kernel_rfl) (by kernel_rfl) ?_
                  exact hj108 true
                · refine oOp (.ptr 0 3) (by kernel_rfl) (by kernel_rfl) (PureV.does (k_fieldAddr 0 0 (by kernel_rfl) Try.underlying52 rfl ty3 (by kernel_rfl))) ?_
                  refine oOp (.d (.int .i64 e114.Capacity)) (by kernel_rfl) (by kernel_rfl) (Quiet.does (k_load 0 3 (by kernel_rfl) Try.underlying3 (by kernel_rfl) (by kernel_rfl))) ?_
                  refine bCall (caps := []) (v := (fun (r190 : Bool) => (.d (.bool r190) : V))) (H' := (fun (r190 : Bool) => ([.box [.d (.int .i64 e114.ID), .d (.int .i64 e114.Centre), .d (.int .i64 e114.Level), .d (.int .i64 e114.Capacity), .d (.lit (List.map e_i64 e114.Papers))]] : List Blk))) [] _ (marker_in_goes k e114.Capacity 0 60) (by kernel_rfl) (by kernel_rfl) rfl (by kernel_rfl) Try.func34 rfl (by kernel_rfl) (ConvRs.refl _ _) (by kernel_rfl) (by kernel_rfl) (by kernel_rfl) (by decide) (by kernel_rfl) (by kernel_rfl) (fun _ => (by kernel_rfl)) (fun _ => (by kernel_rfl)) (fun _ => (by kernel_rfl)) (fun r190 => ?_)
                  refine oOp (.d (.bool (!r190))) (by kernel_rfl) (by kernel_rfl) (PureV.does (p_not (p := r190) (by kernel_rfl) (by kernel_rfl))) ?_
                  refine oOp (.d (.bool (!r190))) (by kernel_rfl) (by kernel_rfl) (PureV.does (p_pick (b := false) (by kernel_rfl) (by kernel_rfl))) ?_
                  refine oHead [0, 3, 4, 8, 9, 10, 37] [0] (T' := [(0, .d (.lit (List.map e_SMarker l))), (3, .d (.int .i64 x174)), (4, .ptr 0 0), (8, .d (.lit (List.map e_SMarker l))), (9, .d (.int .i64 ((List.length l) : Int))), (10, .d (.int .i64 x174)), (37, .d (.bool (!r190)))]) (H' := [.box [.d (.int .i64 e114.ID), .d (.int .i64 e114.Centre), .d (.int .i64 e114.Level), .d (.int .i64 e114.Capacity), .d (.lit (List.map e_i64 e114.Papers))]]) (by kernel_rfl) (by kernel_rfl) (by kernel_rfl) (by kernel_rfl) (by decide) (by kernel_rfl) (by kernel_rfl) ?_
                  exact hj108 (!r190)
            · refine bSplit 26 (by kernel_rfl) (fun hc => ?_) (fun hc => ?_)
              · refine oNot (by kernel_rfl) (by kernel_rfl) ?_
                refine oNot (by kernel_rfl) (by kernel_rfl) ?_
                refine oNot (by kernel_rfl) (by kernel_rfl) ?_
                refine oNot (by kernel_rfl) (by kernel_rfl) ?_
                refine oOp (.d (.bool true)) (by kernel_rfl) (by kernel_rfl) (PureV.does (p_pick (b := true) (by kernel_rfl) (by kernel_rfl))) ?_
                refine oHead [0, 3, 4, 8, 9, 10, 31] [0] (T' := [(0, .d (.lit (List.map e_SMarker l))), (3, .d (.int .i64 x174)), (4, .ptr 0 0), (8, .d (.lit (List.map e_SMarker l))), (9, .d (.int .i64 ((List.length l) : Int))), (10, .d (.int .i64 x174)), (31, .d (.bool true))]) (H' := [.box [.d (.int .i64 e114.ID), .d (.int .i64 e114.Centre), .d (.int .i64 e114.Level), .d (.int .i64 e114.Capacity), .d (.lit (List.map e_i64 e114.Papers))]]) (by kernel_rfl) (by kernel_rfl) (by kernel_rfl) (by kernel_rfl) (by decide) (by kernel_rfl) (by kernel_rfl) ?_
                exact hj109 true
              · refine oOp (.ptr 0 2) (by kernel_rfl) (by kernel_rfl) (PureV.does (k_fieldAddr 0 0 (by kernel_rfl) Try.underlying52 rfl ty3 (by kernel_rfl))) ?_
                refine oOp (.d (.int .i64 e114.Level)) (by kernel_rfl) (by kernel_rfl) (Quiet.does (k_load 0 2 (by kernel_rfl) Try.underlying3 (by kernel_rfl) (by kernel_rfl))) ?_
                refine bCall (caps := []) (v := (fun (r191 : Bool) => (.d (.bool r191) : V))) (H' := (fun (r191 : Bool) => ([.box [.d (.int .i64 e114.ID), .d (.int .i64 e114.Centre), .d (.int .i64 e114.Level), .d (.int .i64 e114.Capacity), .d (.lit (List.map e_i64 e114.Papers))]] : List Blk))) [] _ (marker_in_goes k e114.Level 1 3) (by kernel_rfl) (by kernel_rfl) rfl (by kernel_rfl) Try.func34 rfl (by kernel_rfl) (ConvRs.refl _ _) (by kernel_rfl) (by kernel_rfl) (by kernel_rfl) (by decide) (by kernel_rfl) (by kernel_rfl) (fun _ => (by kernel_rfl)) (fun _ => (by kernel_rfl)) (fun _ => (by kernel_rfl)) (fun r191 => ?_)
                refine oOp (.d (.bool (!r191))) (by kernel_rfl) (by kernel_rfl) (PureV.does (p_not (p := r191) (by kernel_rfl) (by kernel_rfl))) ?_
                refine oOp (.d (.bool (!r191))) (by kernel_rfl) (by kernel_rfl) (PureV.does (p_pick (b := false) (by kernel_rfl) (by kernel_rfl))) ?_
                refine oHead [0, 3, 4, 8, 9, 10, 31] [0] (T' := [(0, .d (.lit (List.map e_SMarker l))), (3, .d (.int .i64 x174)), (4, .ptr 0 0), (8, .d (.lit (List.map e_SMarker l))), (9, .d (.int .i64 ((List.length l) : Int))), (10, .d (.int .i64 x174)), (31, .d (.bool (!r191)))]) (H' := [.box [.d (.int .i64 e114.ID), .d (.int .i64 e114.Centre), .d (.int .i64 e114.Level), .d (.int .i64 e114.Capacity), .d (.lit (List.map e_i64 e114.Papers))]]) (by kernel_rfl) (by kernel_rfl) (by kernel_rfl) (by kernel_rfl) (by decide) (by kernel_rfl) (by kernel_rfl) ?_
                exact hj109 (!r191)
          · refine bSplit 20 (by kernel_rfl) (fun hc => ?_) (fun hc => ?_)
            · refine oNot (by kernel_rfl) (by kernel_rfl) ?_
              refine oNot (by kernel_rfl) (by kernel_rfl) ?_
              refine oNot (by kernel_rfl) (by kernel_rfl) ?_
              refine oNot (by kernel_rfl) (by kernel_rfl) ?_
              refine oOp (.d (.bool true)) (by kernel_rfl) (by kernel_rfl) (PureV.does (p_pick (b := true) (by kernel_rfl) (by kernel_rfl))) ?_
              refine oHead [0, 3, 4, 8, 9, 10, 25] [0] (T' := [(0, .d (.lit (List.map e_SMarker l))), (3, .d (.int .i64 x174)), (4, .ptr 0 0), (8, .d (.lit (List.map e_SMarker l))), (9, .d (.int .i64 ((List.length l) : Int))), (10, .d (.int .i64 x174)), (25, .d (.bool true))]) (H' := [.box [.d (.int .i64 e114.ID), .d (.int .i64 e114.Centre), .d (.int .i64 e114.Level), .d (.int .i64 e114.Capacity), .d (.lit (List.map e_i64 e114.Papers))]]) (by kernel_rfl) (by kernel_rfl) (by kernel_rfl) (by kernel_rfl) (by decide) (by kernel_rfl) (by kernel_rfl) ?_
              exact hj110 true
            · refine oOp (.ptr 0 1) (by kernel_rfl) (by kernel_rfl) (PureV.does (k_fieldAddr 0 0 (by kernel_rfl) Try.underlying52 rfl ty3 (by kernel_rfl))) ?_
              refine oOp (.d (.int .i64 e114.Centre)) (by kernel_rfl) (by kernel_rfl) (Quiet.does (k_load 0 1 (by kernel_rfl) Try.underlying3 (by kernel_rfl) (by kernel_rfl))) ?_
              refine bCall (caps := []) (v := (fun (r192 : Bool) => (.d (.bool r192) : V))) (H' := (fun (r192 : Bool) => ([.box [.d (.int .i64 e114.ID), .d (.int .i64 e114.Centre), .d (.int .i64 e114.Level), .d (.int .i64 e114.Capacity), .d (.lit (List.map e_i64 e114.Papers))]] : List Blk))) [] _ (marker_in_goes k e114.Centre (-1) 99) (by kernel_rfl) (by kernel_rfl) rfl (by kernel_rfl) Try.func34 rfl (by kernel_rfl) (ConvRs.refl _ _) (by kernel_rfl) (by kernel_rfl) (by kernel_rfl) (by decide) (by kernel_rfl) (by kernel_rfl) (fun _ => (by kernel_rfl)) (fun _ => (by kernel_rfl)) (fun _ => (by kernel_rfl)) (fun r192 => ?_)
              refine oOp (.d (.bool (!r192))) (by kernel_rfl) (by kernel_rfl) (PureV.does (p_not (p := r192) (by kernel_rfl) (by kernel_rfl))) ?_
              refine oOp (.d (.bool (!r192))) (by kernel_rfl) (by kernel_rfl) (PureV.does (p_pick (b := false) (by kernel_rfl) (by kernel_rfl))) ?_
              refine oHead [0, 3, 4, 8, 9, 10, 25] [0] (T' := [(0, .d (.lit (List.map e_SMarker l))), (3, .d (.int .i64 x174)), (4, .ptr 0 0), (8, .d (.lit (List.map e_SMarker l))), (9, .d (.int .i64 ((List.length l) : Int))), (10, .d (.int .i64 x174)), (25, .d (.bool (!r192)))]) (H' := [.box [.d (.int .i64 e114.ID), .d (.int .i64 e114.Centre), .d (.int .i64 e114.Level), .d (.int .i64 e114.Capacity), .d (.lit (List.map e_i64 e114.Papers))]]) (by kernel_rfl) (by kernel_rfl) (by kernel_rfl) (by kernel_rfl) (by decide) (by kernel_rfl) (by kernel_rfl) ?_
              exact hj110 (!r192)
        · refine oCondF (by kernel_rfl) ?_
          refine oExit rfl ?_
          refine oHead [] [] (T' := []) (H' := []) (by kernel_rfl) (by kernel_rfl) (by kernel_rfl) (by kernel_rfl) (by decide) (by kernel_rfl) (by kernel_rfl) ?_
          exact hj62 ()

/-- awardingbody/marker.right -/
def marker_right (k : Nat) (s0 : Int) (s1 : Int) (s2 : Int) (s3 : Int) (s4 : Int) (s5 : (List Int)) (s6 : (List Int)) : Option (Bool) := Option.bind (marker_in k s1 0 31) (fun r15 => Option.bind (bif r15 then Option.bind (marker_in k s2 0 9999) (fun r111 => some r111) else some false : Option (Bool)) (fun x3 => Option.bind (bif x3 then Option.bind (marker_in k s3 0 99) (fun r110 => some r110) else some false : Option (Bool)) (fun x4 => Option.bind (bif x4 then Option.bind (marker_in k s4 0 31) (fun r19 => some r19) else some false : Option (Bool)) (fun x5 => some x5))))
def marker_right_E (s0 : Int) (s1 : Int) (s2 : Int) (s3 : Int) (s4 : Int) (s5 : (List Int)) (s6 : (List Int)) : Bool → V × List Blk := fun r14 => (.d (.bool r14), [])
theorem marker_right_goes (k : Nat) (s0 : Int) (s1 : Int) (s2 : Int) (s3 : Int) (s4 : Int) (s5 : (List Int)) (s6 : (List Int)) : RunsO Try.prog 38 [.agg [.d (.int .i64 s0), .d (.int .i64 s1), .d (.int .i64 s2), .d (.int .i64 s3), .d (.int .i64 s4), .d (.lit (List.map e_i64 s5)), .d (.lit (List.map e_i64 s6))]] [] (marker_right_E s0 s1 s2 s3 s4 s5 s6) (marker_right k s0 s1 s2 s3 s4 s5 s6) := by
  refine RunsO.of_goes (N := 21) (m := 0) (T := [(0, .agg [.d (.int .i64 s0), .d (.int .i64 s1), .d (.int .i64 s2), .d (.int .i64 s3), .d (.int .i64 s4), .d (.lit (List.map e_i64 s5)), .d (.lit (List.map e_i64 s6))])]) Try.func38 rfl rfl (by kernel_rfl) (by kernel_rfl) (by kernel_rfl) ?_
  unfold marker_right
  refine bStart ?_
  refine oSeq ?_
  refine oRegion rfl ?_
  refine oOp (.ptr 0 0) (by kernel_rfl) (by kernel_rfl) (k_box (H' := [.box [.d (.int .i64 s0), .d (.int .i64 s1), .d (.int .i64 s2), .d (.int .i64 s3), .d (.int .i64 s4), .d (.lit (List.map e_i64 s5)), .d (.lit (List.map e_i64 s6))]]) (cells := [.d (.int .i64 s0), .d (.int .i64 s1), .d (.int .i64 s2), .d (.int .i64 s3), .d (.int .i64 s4), .d (.lit (List.map e_i64 s5)), .d (.lit (List.map e_i64 s6))]) (by kernel_rfl) (by kernel_rfl) (by kernel_rfl)) ?_
  refine oOp (.d (.bool false)) (by kernel_rfl) (by kernel_rfl) (PureV.does (p_assign (by kernel_rfl))) ?_
  refine oEnd ?_
  refine oSeq ?_
  refine oRegion rfl ?_
  refine oOp (.ptr 0 1) (by kernel_rfl) (by kernel_rfl) (PureV.does (k_fieldAddr 0 0 (by kernel_rfl) Try.underlying50 rfl ty3 (by kernel_rfl))) ?_
  refine oOp (.d (.int .i64 s1)) (by kernel_rfl) (by kernel_rfl) (Quiet.does (k_load 0 1 (by kernel_rfl) Try.underlying3 (by kernel_rfl) (by kernel_rfl))) ?_
  refine bCall (caps := []) (v := (fun (r15 : Bool) => (.d (.bool r15) : V))) (H' := (fun (r15 : Bool) => ([.box [.d (.int .i64 s0), .d (.int .i64 s1), .d (.int .i64 s2), .d (.int .i64 s3), .d (.int .i64 s4), .d (.lit (List.map e_i64 s5)), .d (.lit (List.map e_i64 s6))]] : List Blk))) [] _ (marker_in_goes k s1 0 31) (by kernel_rfl) (by kernel_rfl) rfl (by kernel_rfl) Try.func34 rfl (by kernel_rfl) (ConvRs.refl _ _) (by kernel_rfl) (by kernel_rfl) (by kernel_rfl) (by decide) (by kernel_rfl) (by kernel_rfl) (fun _ => (by kernel_rfl)) (fun _ => (by kernel_rfl)) (fun _ => (by kernel_rfl)) (fun r15 => ?_)
  refine oOp (.d (.bool r15)) (by kernel_rfl) (by kernel_rfl) (PureV.does (p_move (by kernel_rfl))) ?_
  refine bMeet 4 rfl ((fun (x3 : Bool) => [(1, .ptr 0 0), (10, .d (.bool x3))])) ((fun (x3 : Bool) => [.box [.d (.int .i64 s0), .d (.int .i64 s1), .d (.int .i64 s2), .d (.int .i64 s3), .d (.int .i64 s4), .d (.lit (List.map e_i64 s5)), .d (.lit (List.map e_i64 s6))]])) (fun s => s) (fun x3 => ?_) (fun hj3 => ?_)
  · refine oView (T' := [(1, .ptr 0 0), (10, .d (.bool x3))]) (H' := [.box [.d (.int .i64 s0), .d (.int .i64 s1), .d (.int .i64 s2), .d (.int .i64 s3), .d (.int .i64 s4), .d (.lit (List.map e_i64 s5)), .d (.lit (List.map e_i64 s6))]]) (by kernel_rfl) (by kernel_rfl) ?_
    refine oOp (.d (.bool x3)) (by kernel_rfl) (by kernel_rfl) (PureV.does (p_move (by kernel_rfl))) ?_
    refine bMeet 4 rfl ((fun (x4 : Bool) => [(1, .ptr 0 0), (15, .d (.bool x4))])) ((fun (x4 : Bool) => [.box [.d (.int .i64 s0), .d (.int .i64 s1), .d (.int .i64 s2), .d (.int .i64 s3), .d (.int .i64 s4), .d (.lit (List.map e_i64 s5)), .d (.lit (List.map e_i64 s6))]])) (fun s => s) (fun x4 => ?_) (fun hj2 => ?_)
    · refine oView (T' := [(1, .ptr 0 0), (15, .d (.bool x4))]) (H' := [.box [.d (.int .i64 s0), .d (.int .i64 s1), .d (.int .i64 s2), .d (.int .i64 s3), .d (.int .i64 s4), .d (.lit (List.map e_i64 s5)), .d (.lit (List.map e_i64 s6))]]) (by kernel_rfl) (by kernel_rfl) ?_
      refine oOp (.d (.bool x4)) (by kernel_rfl) (by kernel_rfl) (PureV.does (p_move (by kernel_rfl))) ?_
      refine bMeet 4 rfl ((fun (x5 : Bool) => [(20, .d (.bool x5))])) ((fun (x5 : Bool) => [])) (fun s => s) (fun x5 => ?_) (fun hj1 => ?_)
      · refine oView (T' := [(20, .d (.bool x5))]) (H' := []) (by kernel_rfl) (by kernel_rfl) ?_
        refine oOp (.d (.bool x5)) (by kernel_rfl) (by kernel_rfl) (PureV.does (p_assign (by kernel_rfl))) ?_
        refine oEnd ?_
        exact oRet (r0 := x5) (rv := .d (.bool x5)) (B := []) (vs := [.d (.bool x5)]) (σ := []) (by kernel_rfl) Try.func38 rfl (.cons _ _ _ _ (.tmp 2 _ (by kernel_rfl)) .nil) (by kernel_rfl) (by kernel_rfl) (by kernel_rfl) (by kernel_rfl) (by decide) (by kernel_rfl) (by kernel_rfl)
      · refine bSplit 16 (by kernel_rfl) (fun hc => ?_) (fun hc => ?_)
        · refine oOp (.ptr 0 4) (by kernel_rfl) (by kernel_rfl) (PureV.does (k_fieldAddr 0 0 (by kernel_rfl) Try.underlying50 rfl ty3 (by kernel_rfl))) ?_
          refine oOp (.d (.int .i64 s4)) (by kernel_rfl) (by kernel_rfl) (Quiet.does (k_load 0 4 (by kernel_rfl) Try.underlying3 (by kernel_rfl) (by kernel_rfl))) ?_
          refine bCall (caps := []) (v := (fun (r19 : Bool) => (.d (.bool r19) : V))) (H' := (fun (r19 : Bool) => ([.box [.d (.int .i64 s0), .d (.int .i64 s1), .d (.int .i64 s2), .d (.int .i64 s3), .d (.int .i64 s4), .d (.lit (List.map e_i64 s5)), .d (.lit (List.map e_i64 s6))]] : List Blk))) [] _ (marker_in_goes k s4 0 31) (by kernel_rfl) (by kernel_rfl) rfl (by kernel_rfl) Try.func34 rfl (by kernel_rfl) (ConvRs.refl _ _) (by kernel_rfl) (by kernel_rfl) (by kernel_rfl) (by decide) (by kernel_rfl) (by kernel_rfl) (fun _ => (by kernel_rfl)) (fun _ => (by kernel_rfl)) (fun _ => (by kernel_rfl)) (fun r19 => ?_)
          refine oOp (.d (.bool r19)) (by kernel_rfl) (by kernel_rfl) (PureV.does (p_pick (b := true) (by kernel_rfl) (by kernel_rfl))) ?_
          refine oHead [20] [] (T' := [(20, .d (.bool r19))]) (H' := []) (by kernel_rfl) (by kernel_rfl) (by kernel_rfl) (by kernel_rfl) (by decide) (by kernel_rfl) (by kernel_rfl) ?_
          exact hj1 r19
        · refine oNot (by kernel_rfl) (by kernel_rfl) ?_
          refine oNot (by kernel_rfl) (by kernel_rfl) ?_
          refine oNot (by kernel_rfl) (by kernel_rfl) ?_
          refine oOp (.d (.bool false)) (by kernel_rfl) (by kernel_rfl) (PureV.does (p_pick (b := false) (by kernel_rfl) (by kernel_rfl))) ?_
          refine oHead [20] [] (T' := [(20, .d (.bool false))]) (H' := []) (by kernel_rfl) (by kernel_rfl) (by kernel_rfl) (by kernel_rfl) (by decide) (by kernel_rfl) (by kernel_rfl) ?_
          exact hj1 false
    · refine bSplit 11 (by kernel_rfl) (fun hc => ?_) (fun hc => ?_)
      · refine oOp (.ptr 0 3) (by kernel_rfl) (by kernel_rfl) (PureV.does (k_fieldAddr 0 0 (by kernel_rfl) Try.underlying50 rfl ty3 (by kernel_rfl))) ?_
        refine oOp (.d (.int .i64 s3)) (by kernel_rfl) (by kernel_rfl) (Quiet.does (k_load 0 3 (by kernel_rfl) Try.underlying3 (by kernel_rfl) (by kernel_rfl))) ?_
        refine bCall (caps := []) (v := (fun (r110 : Bool) => (.d (.bool r110) : V))) (H' := (fun (r110 : Bool) => ([.box [.d (.int .i64 s0), .d (.int .i64 s1), .d (.int .i64 s2), .d (.int .i64 s3), .d (.int .i64 s4), .d (.lit (List.map e_i64 s5)), .d (.lit (List.map e_i64 s6))]] : List Blk))) [] _ (marker_in_goes k s3 0 99) (by kernel_rfl) (by kernel_rfl) rfl (by kernel_rfl) Try.func34 rfl (by kernel_rfl) (ConvRs.refl _ _) (by kernel_rfl) (by kernel_rfl) (by kernel_rfl) (by decide) (by kernel_rfl) (by kernel_rfl) (fun _ => (by kernel_rfl)) (fun _ => (by kernel_rfl)) (fun _ => (by kernel_rfl)) (fun r110 => ?_)
        refine oOp (.d (.bool r110)) (by kernel_rfl) (by kernel_rfl) (PureV.does (p_pick (b := true) (by kernel_rfl) (by kernel_rfl))) ?_
        refine oHead [1, 15] [0] (T' := [(1, .ptr 0 0), (15, .d (.bool r110))]) (H' := [.box [.d (.int .i64 s0), .d (.int .i64 s1), .d (.int .i64 s2), .d (.int .i64 s3), .d (.int .i64 s4), .d (.lit (List.map e_i64 s5)), .d (.lit (List.map e_i64 s6))]]) (by kernel_rfl) (by kernel_rfl) (by kernel_rfl) (by kernel_rfl) (by decide) (by kernel_rfl) (by kernel_rfl) ?_
        exact hj2 r110
      · refine oNot (by kernel_rfl) (by kernel_rfl) ?_
        refine oNot (by kernel_rfl) (by kernel_rfl) ?_
        refine oNot (by kernel_rfl) (by kernel_rfl) ?_
        refine oOp (.d (.bool false)) (by kernel_rfl) (by kernel_rfl) (PureV.does (p_pick (b := false) (by kernel_rfl) (by kernel_rfl))) ?_
        refine oHead [1, 15] [0] (T' := [(1, .ptr 0 0), (15, .d (.bool false))]) (H' := [.box [.d (.int .i64 s0), .d (.int .i64 s1), .d (.int .i64 s2), .d (.int .i64 s3), .d (.int .i64 s4), .d (.lit (List.map e_i64 s5)), .d (.lit (List.map e_i64 s6))]]) (by kernel_rfl) (by kernel_rfl) (by kernel_rfl) (by kernel_rfl) (by decide) (by kernel_rfl) (by kernel_rfl) ?_
        exact hj2 false
  · refine bSplit 6 (by kernel_rfl) (fun hc => ?_) (fun hc => ?_)
    · refine oOp (.ptr 0 2) (by kernel_rfl) (by kernel_rfl) (PureV.does (k_fieldAddr 0 0 (by kernel_rfl) Try.underlying50 rfl ty3 (by kernel_rfl))) ?_
      refine oOp (.d (.int .i64 s2)) (by kernel_rfl) (by kernel_rfl) (Quiet.does (k_load 0 2 (by kernel_rfl) Try.underlying3 (by kernel_rfl) (by kernel_rfl))) ?_
      refine bCall (caps := []) (v := (fun (r111 : Bool) => (.d (.bool r111) : V))) (H' := (fun (r111 : Bool) => ([.box [.d (.int .i64 s0), .d (.int .i64 s1), .d (.int .i64 s2), .d (.int .i64 s3), .d (.int .i64 s4), .d (.lit (List.map e_i64 s5)), .d (.lit (List.map e_i64 s6))]] : List Blk))) [] _ (marker_in_goes k s2 0 9999) (by kernel_rfl) (by kernel_rfl) rfl (by kernel_rfl) Try.func34 rfl (by kernel_rfl) (ConvRs.refl _ _) (by kernel_rfl) (by kernel_rfl) (by kernel_rfl) (by decide) (by kernel_rfl) (by kernel_rfl) (fun _ => (by kernel_rfl)) (fun _ => (by kernel_rfl)) (fun _ => (by kernel_rfl)) (fun r111 => ?_)
      refine oOp (.d (.bool r111)) (by kernel_rfl) (by kernel_rfl) (PureV.does (p_pick (b := true) (by kernel_rfl) (by kernel_rfl))) ?_
      refine oHead [1, 10] [0] (T' := [(1, .ptr 0 0), (10, .d (.bool r111))]) (H' := [.box [.d (.int .i64 s0), .d (.int .i64 s1), .d (.int .i64 s2), .d (.int .i64 s3), .d (.int .i64 s4), .d (.lit (List.map e_i64 s5)), .d (.lit (List.map e_i64 s6))]]) (by kernel_rfl) (by kernel_rfl) (by kernel_rfl) (by kernel_rfl) (by decide) (by kernel_rfl) (by kernel_rfl) ?_
      exact hj3 r111
    · refine oNot (by kernel_rfl) (by kernel_rfl) ?_
      refine oNot (by kernel_rfl) (by kernel_rfl) ?_
      refine oNot (by kernel_rfl) (by kernel_rfl) ?_
      refine oOp (.d (.bool false)) (by kernel_rfl) (by kernel_rfl) (PureV.does (p_pick (b := false) (by kernel_rfl) (by kernel_rfl))) ?_
      refine oHead [1, 10] [0] (T' := [(1, .ptr 0 0), (10, .d (.bool false))]) (H' := [.box [.d (.int .i64 s0), .d (.int .i64 s1), .d (.int .i64 s2), .d (.int .i64 s3), .d (.int .i64 s4), .d (.lit (List.map e_i64 s5)), .d (.lit (List.map e_i64 s6))]]) (by kernel_rfl) (by kernel_rfl) (by kernel_rfl) (by kernel_rfl) (by decide) (by kernel_rfl) (by kernel_rfl) ?_
      exact hj3 false

/-- awardingbody/marker.CheckScripts -/
def marker_CheckScripts_b1 (k : Nat) (l : (List SScript)) (again : Int → Option ((Unit) ⊕ (Int))) : Int → Option ((Unit) ⊕ (Int)) := fun x74 => bif (decide (x74 < ((List.length l) : Int))) then gidx l x74 fun e114 => Option.bind (marker_right k e114.Number e114.Paper e114.Candidate e114.Centre e114.Variant e114.Pages e114.Answers) (fun r1420 => bif (!r1420) then some (Sum.inr 2) else blet ((e114.Number != (IntKind.wrap .i64 ((IntKind.wrap .i64 (e114.Paper * 10000)) + e114.Candidate))) || (decide (((List.length e114.Pages) : Int) > 12))) fun x99 => bif x99 then some (Sum.inr 1) else Option.bind (bif (decide (x74 > 0)) then gidx l (IntKind.wrap .i64 (x74 - 1)) fun e11 => some (decide (e114.Number ≤ e11.Number)) else some false : Option Bool) (fun x103 => bif x103 then some (Sum.inr 43) else again (IntKind.wrap .i64 (x74 + 1)))) else some (Sum.inl ())
def marker_CheckScripts (k : Nat) (l : (List SScript)) : Option (Int) := bif (decide (((List.length l) : Int) > 60)) then some 3 else Option.bind (gloop (marker_CheckScripts_b1 k l) k 0 : Option ((Unit) ⊕ (Int))) (Sum.elim (u0 (some 0)) (fun r => some r))
def marker_CheckScripts_E (l : (List SScript)) : Int → V × List Blk := fun r1 => (.d (.int .i64 r1), [])
theorem marker_CheckScripts_goes (k : Nat) (l : (List SScript)) : RunsO Try.prog 23 [.d (.lit (List.map e_SScript l))] [] (marker_CheckScripts_E l) (marker_CheckScripts k l) := by
  refine RunsO.of_goes (N := 50) (m := 0) (T := [(0, .d (.lit (List.map e_SScript l)))]) Try.func23 rfl rfl (by kernel_rfl) (by kernel_rfl) (by kernel_rfl) ?_
  unfold marker_CheckScripts
  refine bStart ?_
  refine oSeq ?_
  refine oRegion rfl ?_
  refine oOp (.d (.int .i64 0)) (by kernel_rfl) (by kernel_rfl) (PureV.does (p_assign (by kernel_rfl))) ?_
  refine oEnd ?_
  refine oSeq ?_
  refine oSeq ?_
  refine oRegion rfl ?_
  refine oOp (.d (.lit (List.map e_SScript l))) (by kernel_rfl) (by kernel_rfl) (PureV.does (p_move (by kernel_rfl))) ?_
  refine oOp (.d (.int .i64 ((List.length l) : Int))) (by kernel_rfl) (by kernel_rfl) (PureV.does (k_lenLit (enc := e_SScript) l (by kernel_rfl) Try.underlying47)) ?_
  refine oOp (.d (.bool (decide (((List.length l) : Int) > 60)))) (by kernel_rfl) (by kernel_rfl) (PureV.does (p_int (k := .i64) (p := ((List.length l) : Int)) (q := 60) (by kernel_rfl) (by kernel_rfl) (by kernel_rfl))) ?_
  refine oEnd ?_
  refine bSplit 7 (by kernel_rfl) (fun hc => ?_) (fun hc => ?_)
  · refine oCondT (by kernel_rfl) ?_
    refine oSeq ?_
    refine oRegion rfl ?_
    refine oOp (.d (.int .i64 3)) (by kernel_rfl) (by kernel_rfl) (PureV.does (p_assign (by kernel_rfl))) ?_
    refine oEnd ?_
    exact oRet (r0 := 3) (rv := .d (.int .i64 3)) (B := []) (vs := [.d (.int .i64 3)]) (σ := []) (by kernel_rfl) Try.func23 rfl (.cons _ _ _ _ (.tmp 2 _ (by kernel_rfl)) .nil) (by kernel_rfl) (by kernel_rfl) (by kernel_rfl) (by kernel_rfl) (by decide) (by kernel_rfl) (by kernel_rfl)
  · refine oCondF (by kernel_rfl) ?_
    refine oSkip ?_
    refine oSeq ?_
    refine oSeq ?_
    refine oRegion rfl ?_
    refine oOp (.d (.lit (List.map e_SScript l))) (by kernel_rfl) (by kernel_rfl) (PureV.does (p_move (by kernel_rfl))) ?_
    refine oOp (.d (.int .i64 ((List.length l) : Int))) (by kernel_rfl) (by kernel_rfl) (PureV.does (k_lenLit (enc := e_SScript) l (by kernel_rfl) Try.underlying47)) ?_
    refine oOp (.d (.int .i64 0)) (by kernel_rfl) (by kernel_rfl) (PureV.does (p_move (by kernel_rfl))) ?_
    refine oEnd ?_
    refine bJoin ((u0 ([]))) ((u0 ([]))) Sum.inl (fun s => ?_) (fun hj22 => ?_)
    · cases s
      refine bInl ?_
      refine bU0 ?_
      refine oView (T' := []) (H' := []) (by kernel_rfl) (by kernel_rfl) ?_
      refine oSeq ?_
      refine oRegion rfl ?_
      refine oOp (.d (.int .i64 0)) (by kernel_rfl) (by kernel_rfl) (PureV.does (p_assign (by kernel_rfl))) ?_
      refine oEnd ?_
      exact oRet (r0 := 0) (rv := .d (.int .i64 0)) (B := []) (vs := [.d (.int .i64 0)]) (σ := []) (by kernel_rfl) Try.func23 rfl (.cons _ _ _ _ (.tmp 2 _ (by kernel_rfl)) .nil) (by kernel_rfl) (by kernel_rfl) (by kernel_rfl) (by kernel_rfl) (by decide) (by kernel_rfl) (by kernel_rfl)
    · refine oBlock ?_
      refine oLoop ?_
      refine oHead [0, 8, 9, 10] [] (T' := [(0, .d (.lit (List.map e_SScript l))), (8, .d (.lit (List.map e_SScript l))), (9, .d (.int .i64 ((List.length l) : Int))), (10, .d (.int .i64 0))]) (H' := []) (by kernel_rfl) (by kernel_rfl) (by kernel_rfl) (by kernel_rfl) (by decide) (by kernel_rfl) (by kernel_rfl) ?_
      refine bLoop (body := marker_CheckScripts_b1 k l) ((fun (x74 : Int) => [(0, .d (.lit (List.map e_SScript l))), (8, .d (.lit (List.map e_SScript l))), (9, .d (.int .i64 ((List.length l) : Int))), (10, .d (.int .i64 x74))])) ((fun (x74 : Int) => [])) (fun again hag1 x74 => ?_) k 0
      · unfold marker_CheckScripts_b1
        refine oView (T' := [(0, .d (.lit (List.map e_SScript l))), (8, .d (.lit (List.map e_SScript l))), (9, .d (.int .i64 ((List.length l) : Int))), (10, .d (.int .i64 x74))]) (H' := []) (by kernel_rfl) (by kernel_rfl) ?_
        refine oSeq ?_
        refine oRegion rfl ?_
        refine oOp (.d (.bool (decide (x74 < ((List.length l) : Int))))) (by kernel_rfl) (by kernel_rfl) (PureV.does (p_int (k := .i64) (p := x74) (q := ((List.length l) : Int)) (by kernel_rfl) (by kernel_rfl) (by kernel_rfl))) ?_
        refine oEnd ?_
        refine oSeq ?_
        refine bSplit 11 (by kernel_rfl) (fun hc => ?_) (fun hc => ?_)
        · refine oCondT (by kernel_rfl) ?_
          refine oSkip ?_
          refine oSeq ?_
          refine oBlock ?_
          refine oSeq ?_
          refine oRegion rfl ?_
          refine oOp (.d (.int .i64 x74)) (by kernel_rfl) (by kernel_rfl) (PureV.does (p_move (by kernel_rfl))) ?_
          refine bIdx (fun e114 h128 h129 => ?_)
          refine oOp (.lptr (e_SScript e114) 0) (by kernel_rfl) (by kernel_rfl) (PureV.does (k_idxLit e_SScript_len l (a := e114) (by kernel_rfl) (k := .i64) (i := x74) (by kernel_rfl) Try.underlying47 ty50 h128 h129)) ?_
          refine oOp (.agg [.d (.int .i64 e114.Number), .d (.int .i64 e114.Paper), .d (.int .i64 e114.Candidate), .d (.int .i64 e114.Centre), .d (.int .i64 e114.Variant), .d (.lit (List.map e_i64 e114.Pages)), .d (.lit (List.map e_i64 e114.Answers))]) (by kernel_rfl) (by kernel_rfl) (Quiet.does (k_loadLAgg (cells := e_SScript e114) 0 [(.int .i64 e114.Number), (.int .i64 e114.Paper), (.int .i64 e114.Candidate), (.int .i64 e114.Centre), (.int .i64 e114.Variant), (.lit (List.map e_i64 e114.Pages)), (.lit (List.map e_i64 e114.Answers))] (by kernel_rfl) Try.underlying50 (by kernel_rfl) ty50 (by kernel_rfl) (by kernel_rfl) (by kernel_rfl))) ?_
          refine oOp (.ptr 0 0) (by kernel_rfl) (by kernel_rfl) (k_alloc (H' := [.box [.d (.int .i64 0), .d (.int .i64 0), .d (.int .i64 0), .d (.int .i64 0), .d (.int .i64 0), .nilc, .nilc]]) ty50 (by kernel_rfl) (by kernel_rfl)) ?_
          refine oOp (.d (.int .i64 x74)) (by kernel_rfl) (by kernel_rfl) (PureV.does (p_assign (by kernel_rfl))) ?_
          refine oOp (.undef) (by kernel_rfl) (by kernel_rfl) (k_store (vs := [.d (.int .i64 e114.Number), .d (.int .i64 e114.Paper), .d (.int .i64 e114.Candidate), .d (.int .i64 e114.Centre), .d (.int .i64 e114.Variant), .d (.lit (List.map e_i64 e114.Pages)), .d (.lit (List.map e_i64 e114.Answers))]) (H' := [.box [.d (.int .i64 e114.Number), .d (.int .i64 e114.Paper), .d (.int .i64 e114.Candidate), .d (.int .i64 e114.Centre), .d (.int .i64 e114.Variant), .d (.lit (List.map e_i64 e114.Pages)), .d (.lit (List.map e_i64 e114.Answers))]]) 0 0 (by kernel_rfl) ty50 (by kernel_rfl) (by kernel_rfl) (by kernel_rfl)) ?_
          refine oEnd ?_
          refine oBlock ?_
          refine oSeq ?_
          refine oRegion rfl ?_
          refine oOp (.agg [.d (.int .i64 e114.Number), .d (.int .i64 e114.Paper), .d (.int .i64 e114.Candidate), .d (.int .i64 e114.Centre), .d (.int .i64 e114.Variant), .d (.lit (List.map e_i64 e114.Pages)), .d (.lit (List.map e_i64 e114.Answers))]) (by kernel_rfl) (by kernel_rfl) (Quiet.does (k_loadAgg 0 0 (by kernel_rfl) Try.underlying50 (by kernel_rfl) ty50 (by kernel_rfl))) ?_
          refine bCall (caps := []) (v := (fun (r1420 : Bool) => (.d (.bool r1420) : V))) (H' := (fun (r1420 : Bool) => ([.box [.d (.int .i64 e114.Number), .d (.int .i64 e114.Paper), .d (.int .i64 e114.Candidate), .d (.int .i64 e114.Centre), .d (.int .i64 e114.Variant), .d (.lit (List.map e_i64 e114.Pages)), .d (.lit (List.map e_i64 e114.Answers))]] : List Blk))) [] _ (marker_right_goes k e114.Number e114.Paper e114.Candidate e114.Centre e114.Variant e114.Pages e114.Answers) (by kernel_rfl) (by kernel_rfl) rfl (by kernel_rfl) Try.func38 rfl (by kernel_rfl) (ConvRs.refl _ _) (by kernel_rfl) (by kernel_rfl) (by kernel_rfl) (by decide) (by kernel_rfl) (by kernel_rfl) (fun _ => (by kernel_rfl)) (fun _ => (by kernel_rfl)) (fun _ => (by kernel_rfl)) (fun r1420 => ?_)
          refine oOp (.d (.bool (!r1420))) (by kernel_rfl) (by kernel_rfl) (PureV.does (p_not (p := r1420) (by kernel_rfl) (by kernel_rfl))) ?_
          refine oOp (.d (.bool (!r1420))) (by kernel_rfl) (by kernel_rfl) (PureV.does (p_assign (by kernel_rfl))) ?_
          refine oEnd ?_
          refine bSplit 15 (by kernel_rfl) (fun hc => ?_) (fun hc => ?_)
          · refine oCondT (by kernel_rfl) ?_
            refine oSeq ?_
            refine oRegion rfl ?_
            refine oOp (.d (.int .i64 2)) (by kernel_rfl) (by kernel_rfl) (PureV.does (p_assign (by kernel_rfl))) ?_
            refine oEnd ?_
            exact oRet (r0 := 2) (rv := .d (.int .i64 2)) (B := []) (vs := [.d (.int .i64 2)]) (σ := []) (by kernel_rfl) Try.func23 rfl (.cons _ _ _ _ (.tmp 2 _ (by kernel_rfl)) .nil) (by kernel_rfl) (by kernel_rfl) (by kernel_rfl) (by kernel_rfl) (by decide) (by kernel_rfl) (by kernel_rfl)
          · refine oCondF (by kernel_rfl) ?_
            refine oSeq ?_
            refine oRegion rfl ?_
            refine oOp (.ptr 0 0) (by kernel_rfl) (by kernel_rfl) (PureV.does (k_fieldAddr 0 0 (by kernel_rfl) Try.underlying50 rfl ty3 (by kernel_rfl))) ?_
            refine oOp (.d (.int .i64 e114.Number)) (by kernel_rfl) (by kernel_rfl) (Quiet.does (k_load 0 0 (by kernel_rfl) Try.underlying3 (by kernel_rfl) (by kernel_rfl))) ?_
            refine oOp (.ptr 0 1) (by kernel_rfl) (by kernel_rfl) (PureV.does (k_fieldAddr 0 0 (by kernel_rfl) Try.underlying50 rfl ty3 (by kernel_rfl))) ?_
            refine oOp (.d (.int .i64 e114.Paper)) (by kernel_rfl) (by kernel_rfl) (Quiet.does (k_load 0 1 (by kernel_rfl) Try.underlying3 (by kernel_rfl) (by kernel_rfl))) ?_
            refine oOp (.d (.int .i64 (IntKind.wrap .i64 (e114.Paper * 10000)))) (by kernel_rfl) (by kernel_rfl) (PureV.does (p_int (k := .i64) (p := e114.Paper) (q := 10000) (by kernel_rfl) (by kernel_rfl) (by kernel_rfl))) ?_
            refine oOp (.ptr 0 2) (by kernel_rfl) (by kernel_rfl) (PureV.does (k_fieldAddr 0 0 (by kernel_rfl) Try.underlying50 rfl ty3 (by kernel_rfl))) ?_
            refine oOp (.d (.int .i64 e114.Candidate)) (by kernel_rfl) (by kernel_rfl) (Quiet.does (k_load 0 2 (by kernel_rfl) Try.underlying3 (by kernel_rfl) (by kernel_rfl))) ?_
            refine oOp (.d (.int .i64 (IntKind.wrap .i64 ((IntKind.wrap .i64 (e114.Paper * 10000)) + e114.Candidate)))) (by kernel_rfl) (by kernel_rfl) (PureV.does (p_int (k := .i64) (p := (IntKind.wrap .i64 (e114.Paper * 10000))) (q := e114.Candidate) (by kernel_rfl) (by kernel_rfl) (by kernel_rfl))) ?_
            refine oOp (.d (.bool (e114.Number != (IntKind.wrap .i64 ((IntKind.wrap .i64 (e114.Paper * 10000)) + e114.Candidate))))) (by kernel_rfl) (by kernel_rfl) (PureV.does (p_int (k := .i64) (p := e114.Number) (q := (IntKind.wrap .i64 ((IntKind.wrap .i64 (e114.Paper * 10000)) + e114.Candidate))) (by kernel_rfl) (by kernel_rfl) (by kernel_rfl))) ?_
            refine oOp (.d (.bool (e114.Number != (IntKind.wrap .i64 ((IntKind.wrap .i64 (e114.Paper * 10000)) + e114.Candidate))))) (by kernel_rfl) (by kernel_rfl) (PureV.does (p_move (by kernel_rfl))) ?_
            refine bMeetF (H' := [.box [.d (.int .i64 e114.Number), .d (.int .i64 e114.Paper), .d (.int .i64 e114.Candidate), .d (.int .i64 e114.Centre), .d (.int .i64 e114.Variant), .d (.lit (List.map e_i64 e114.Pages)), .d (.lit (List.map e_i64 e114.Answers))]]) 5 rfl ((fun (x99 : Bool) => [(0, .d (.lit (List.map e_SScript l))), (3, .d (.int .i64 x74)), (4, .ptr 0 0), (8, .d (.lit (List.map e_SScript l))), (9, .d (.int .i64 ((List.length l) : Int))), (10, .d (.int .i64 x74)), (34, .d (.bool x99))])) (fun x99 => ?_) (fun F hj36 => ?_)
            · refine oView (T' := [(0, .d (.lit (List.map e_SScript l))), (3, .d (.int .i64 x74)), (4, .ptr 0 0), (8, .d (.lit (List.map e_SScript l))), (9, .d (.int .i64 ((List.length l) : Int))), (10, .d (.int .i64 x74)), (34, .d (.bool x99))]) (H' := [.box [.d (.int .i64 e114.Number), .d (.int .i64 e114.Paper), .d (.int .i64 e114.Candidate), .d (.int .i64 e114.Centre), .d (.int .i64 e114.Variant), .d (.lit (List.map e_i64 e114.Pages)), .d (.lit (List.map e_i64 e114.Answers))]]) (by kernel_rfl) (by kernel_rfl) ?_
              refine oOp (.d (.bool x99)) (by kernel_rfl) (by kernel_rfl) (PureV.does (p_assign (by kernel_rfl))) ?_
              refine oEnd ?_
              refine bSplit 19 (by kernel_rfl) (fun hc => ?_) (fun hc => ?_)
              · refine oCondT (by kernel_rfl) ?_
                refine oSeq ?_
                refine oRegion rfl ?_
                refine oOp (.d (.int .i64 1)) (by kernel_rfl) (by kernel_rfl) (PureV.does (p_assign (by kernel_rfl))) ?_
                refine oEnd ?_
                exact oRet (r0 := 1) (rv := .d (.int .i64 1)) (B := []) (vs := [.d (.int .i64 1)]) (σ := []) (by kernel_rfl) Try.func23 rfl (.cons _ _ _ _ (.tmp 2 _ (by kernel_rfl)) .nil) (by kernel_rfl) (by kernel_rfl) (by kernel_rfl) (by kernel_rfl) (by decide) (by kernel_rfl) (by kernel_rfl)
              · refine oCondF (by kernel_rfl) ?_
                refine oSeq ?_
                refine oDraw [(0, 14)] rfl ?_
                refine aTakeL (i := 0) (st' := []) (.d (.int .i64 x74)) rfl (by kernel_rfl) (by kernel_rfl) (by kernel_rfl) (by kernel_rfl) (by kernel_rfl) (by kernel_rfl) (by kernel_rfl) (PureV.quiet (p_move (by kernel_rfl)) []) ?_
                refine aTakeL (i := 1) (st' := []) (.d (.bool (decide (x74 > 0)))) rfl (by kernel_rfl) (by kernel_rfl) (by kernel_rfl) (by kernel_rfl) (by kernel_rfl) (by kernel_rfl) (by kernel_rfl) (PureV.quiet (p_int (k := .i64) (p := x74) (q := 0) (by kernel_rfl) (by kernel_rfl) (by kernel_rfl)) []) ?_
                refine aTakeL (i := 2) (st' := []) (.d (.bool (decide (x74 > 0)))) rfl (by kernel_rfl) (by kernel_rfl) (by kernel_rfl) (by kernel_rfl) (by kernel_rfl) (by kernel_rfl) (by kernel_rfl) (PureV.quiet (p_move (by kernel_rfl)) []) ?_
                refine dMeet [12, 11, 10, 9, 8, 7, 6, 5, 4, 3, 2, 1, 0] (fun (x103 : Bool) => [(0, .d (.lit (List.map e_SScript l))), (8, .d (.lit (List.map e_SScript l))), (9, .d (.int .i64 ((List.length l) : Int))), (10, .d (.int .i64 x74)), (48, .d (.bool x103))]) (fun (x103 : Bool) => [(0, .d (.lit (List.map e_SScript l))), (8, .d (.lit (List.map e_SScript l))), (9, .d (.int .i64 ((List.length l) : Int))), (10, .d (.int .i64 x74)), (48, .d (.bool x103))]) (fun _ => [.box [.d (.int .i64 e114.Number), .d (.int .i64 e114.Paper), .d (.int .i64 e114.Candidate), .d (.int .i64 e114.Centre), .d (.int .i64 e114.Variant), .d (.lit (List.map e_i64 e114.Pages)), .d (.lit (List.map e_i64 e114.Answers))]]) (fun s => s) (fun x103 => ?_) (fun hj38 => ?_)
                · refine aTakeL (i := 13) (st' := []) (.d (.bool x103)) rfl (by kernel_rfl) (by kernel_rfl) (by kernel_rfl) (by kernel_rfl) (by kernel_rfl) (by kernel_rfl) (by kernel_rfl) (PureV.quiet (p_assign (by kernel_rfl)) []) ?_
                  refine aDone (by kernel_rfl) ?_
                  refine bSplit 35 (by kernel_rfl) (fun hc => ?_) (fun hc => ?_)
                  · refine oCondT (by kernel_rfl) ?_
                    refine oSeq ?_
                    refine oRegion rfl ?_
                    refine oOp (.d (.int .i64 43)) (by kernel_rfl) (by kernel_rfl) (PureV.does (p_assign (by kernel_rfl))) ?_
                    refine oEnd ?_
                    exact oRet (r0 := 43) (rv := .d (.int .i64 43)) (B := []) (vs := [.d (.int .i64 43)]) (σ := []) (by kernel_rfl) Try.func23 rfl (.cons _ _ _ _ (.tmp 2 _ (by kernel_rfl)) .nil) (by kernel_rfl) (by kernel_rfl) (by kernel_rfl) (by kernel_rfl) (by decide) (by kernel_rfl) (by kernel_rfl)
                  · refine oCondF (by kernel_rfl) ?_
                    refine oSkip ?_
                    refine oBlk ?_
                    refine oBlk ?_
                    refine oRegion rfl ?_
                    refine oOp (.d (.int .i64 (IntKind.wrap .i64 (x74 + 1)))) (by kernel_rfl) (by kernel_rfl) (PureV.does (p_int (k := .i64) (p := x74) (q := 1) (by kernel_rfl) (by kernel_rfl) (by kernel_rfl))) ?_
                    refine oOp (.d (.int .i64 (IntKind.wrap .i64 (x74 + 1)))) (by kernel_rfl) (by kernel_rfl) (PureV.does (p_move (by kernel_rfl))) ?_
                    refine oEnd ?_
                    refine oAgain ?_
                    refine oHead [0, 8, 9, 10] [] (T' := [(0, .d (.lit (List.map e_SScript l))), (8, .d (.lit (List.map e_SScript l))), (9, .d (.int .i64 ((List.length l) : Int))), (10, .d (.int .i64 (IntKind.wrap .i64 (x74 + 1))))]) (H' := []) (by kernel_rfl) (by kernel_rfl) (by kernel_rfl) (by kernel_rfl) (by decide) (by kernel_rfl) (by kernel_rfl) ?_
                    exact hag1 (IntKind.wrap .i64 (x74 + 1))
                · refine dSplit 38 (by kernel_rfl) (by kernel_rfl) (fun hc => ?_) (fun hc => ?_)
                  · refine aTakeL (i := 3) (st' := []) (.ptr 0 0) rfl (by kernel_rfl) (by kernel_rfl) (by kernel_rfl) (by kernel_rfl) (by kernel_rfl) (by kernel_rfl) (by kernel_rfl) (PureV.quiet (k_fieldAddr 0 0 (by kernel_rfl) Try.underlying50 rfl ty3 (by kernel_rfl)) []) ?_
                    refine aTakeL (i := 4) (st' := [0]) (.d (.int .i64 e114.Number)) rfl (by kernel_rfl) (by kernel_rfl) (by kernel_rfl) (by kernel_rfl) (by kernel_rfl) (by kernel_rfl) (by kernel_rfl) (k_load 0 0 (by kernel_rfl) Try.underlying3 (by kernel_rfl) (by kernel_rfl)) ?_
                    refine aTakeL (i := 5) (st' := []) (.d (.lit (List.map e_SScript l))) rfl (by kernel_rfl) (by kernel_rfl) (by kernel_rfl) (by kernel_rfl) (by kernel_rfl) (by kernel_rfl) (by kernel_rfl) (PureV.quiet (p_move (by kernel_rfl)) []) ?_
                    refine aTakeL (i := 6) (st' := []) (.d (.int .i64 x74)) rfl (by kernel_rfl) (by kernel_rfl) (by kernel_rfl) (by kernel_rfl) (by kernel_rfl) (by kernel_rfl) (by kernel_rfl) (PureV.quiet (p_move (by kernel_rfl)) []) ?_
                    refine aTakeL (i := 7) (st' := []) (.d (.int .i64 (IntKind.wrap .i64 (x74 - 1)))) rfl (by kernel_rfl) (by kernel_rfl) (by kernel_rfl) (by kernel_rfl) (by kernel_rfl) (by kernel_rfl) (by kernel_rfl) (PureV.quiet (p_int (k := .i64) (p := x74) (q := 1) (by kernel_rfl) (by kernel_rfl) (by kernel_rfl)) []) ?_
                    refine dIdx (fun e11 h12 h13 => ?_)
                    refine aTakeL (i := 8) (st' := []) (.lptr (e_SScript e11) 0) rfl (by kernel_rfl) (by kernel_rfl) (by kernel_rfl) (by kernel_rfl) (by kernel_rfl) (by kernel_rfl) (by kernel_rfl) (PureV.quiet (k_idxLit e_SScript_len l (a := e11) (by kernel_rfl) (k := .i64) (i := (IntKind.wrap .i64 (x74 - 1))) (by kernel_rfl) Try.underlying47 ty50 h12 h13) []) ?_
                    refine aTakeL (i := 9) (st' := []) (.lptr (e_SScript e11) 0) rfl (by kernel_rfl) (by kernel_rfl) (by kernel_rfl) (by kernel_rfl) (by kernel_rfl) (by kernel_rfl) (by kernel_rfl) (PureV.quiet (k_fieldAddrL (cells := e_SScript e11) 0 (by kernel_rfl) Try.underlying50 rfl ty3 (by kernel_rfl)) []) ?_
                    refine aTakeL (i := 10) (st' := []) (.d (.int .i64 e11.Number)) rfl (by kernel_rfl) (by kernel_rfl) (by kernel_rfl) (by kernel_rfl) (by kernel_rfl) (by kernel_rfl) (by kernel_rfl) (k_loadL (cells := e_SScript e11) 0 (by kernel_rfl) Try.underlying3 (by kernel_rfl) (by kernel_rfl)) ?_
                    refine aTakeL (i := 11) (st' := []) (.d (.bool (decide (e114.Number ≤ e11.Number)))) rfl (by kernel_rfl) (by kernel_rfl) (by kernel_rfl) (by kernel_rfl) (by kernel_rfl) (by kernel_rfl) (by kernel_rfl) (PureV.quiet (p_int (k := .i64) (p := e114.Number) (q := e11.Number) (by kernel_rfl) (by kernel_rfl) (by kernel_rfl)) []) ?_
                    refine aTakeL (i := 12) (st' := []) (.d (.bool (decide (e114.Number ≤ e11.Number)))) rfl (by kernel_rfl) (by kernel_rfl) (by kernel_rfl) (by kernel_rfl) (by kernel_rfl) (by kernel_rfl) (by kernel_rfl) (PureV.quiet (p_pick (b := true) (by kernel_rfl) (by kernel_rfl)) []) ?_
                    refine dDrop [0, 8, 9, 10, 48] [0, 8, 9, 10, 48] (T' := [(0, .d (.lit (List.map e_SScript l))), (8, .d (.lit (List.map e_SScript l))), (9, .d (.int .i64 ((List.length l) : Int))), (10, .d (.int .i64 x74)), (48, .d (.bool (decide (e114.Number ≤ e11.Number))))]) (U' := [(0, .d (.lit (List.map e_SScript l))), (8, .d (.lit (List.map e_SScript l))), (9, .d (.int .i64 ((List.length l) : Int))), (10, .d (.int .i64 x74)), (48, .d (.bool (decide (e114.Number ≤ e11.Number))))]) (by kernel_rfl) (by kernel_rfl) ?_
                    exact hj38 (decide (e114.Number ≤ e11.Number))
                  · refine aTakeNot (i := 3) rfl (by kernel_rfl) (by kernel_rfl) (by kernel_rfl) (by kernel_rfl) (by kernel_rfl) (by kernel_rfl) (by kernel_rfl) ?_
                    refine aTakeNot (i := 4) rfl (by kernel_rfl) (by kernel_rfl) (by kernel_rfl) (by kernel_rfl) (by kernel_rfl) (by kernel_rfl) (by kernel_rfl) ?_
                    refine aTakeNot (i := 5) rfl (by kernel_rfl) (by kernel_rfl) (by kernel_rfl) (by kernel_rfl) (by kernel_rfl) (by kernel_rfl) (by kernel_rfl) ?_
                    refine aTakeNot (i := 6) rfl (by kernel_rfl) (by kernel_rfl) (by kernel_rfl) (by kernel_rfl) (by kernel_rfl) (by kernel_rfl) (by kernel_rfl) ?_
                    refine aTakeNot (i := 7) rfl (by kernel_rfl) (by kernel_rfl) (by kernel_rfl) (by kernel_rfl) (by kernel_rfl) (by kernel_rfl) (by kernel_rfl) ?_
                    refine aTakeNot (i := 8) rfl (by kernel_rfl) (by kernel_rfl) (by kernel_rfl) (by kernel_rfl) (by kernel_rfl) (by kernel_rfl) (by kernel_rfl) ?_
                    refine aTakeNot (i := 9) rfl (by kernel_rfl) (by kernel_rfl) (by kernel_rfl) (by kernel_rfl) (by kernel_rfl) (by kernel_rfl) (by kernel_rfl) ?_
                    refine aTakeNot (i := 10) rfl (by kernel_rfl) (by kernel_rfl) (by kernel_rfl) (by kernel_rfl) (by kernel_rfl) (by kernel_rfl) (by kernel_rfl) ?_
                    refine aTakeNot (i := 11) rfl (by kernel_rfl) (by kernel_rfl) (by kernel_rfl) (by kernel_rfl) (by kernel_rfl) (by kernel_rfl) (by kernel_rfl) ?_
                    refine aTakeL (i := 12) (st' := []) (.d (.bool false)) rfl (by kernel_rfl) (by kernel_rfl) (by kernel_rfl) (by kernel_rfl) (by kernel_rfl) (by kernel_rfl) (by kernel_rfl) (PureV.quiet (p_pick (b := false) (by kernel_rfl) (by kernel_rfl)) []) ?_
                    refine dDrop [0, 8, 9, 10, 48] [0, 8, 9, 10, 48] (T' := [(0, .d (.lit (List.map e_SScript l))), (8, .d (.lit (List.map e_SScript l))), (9, .d (.int .i64 ((List.length l) : Int))), (10, .d (.int .i64 x74)), (48, .d (.bool false))]) (U' := [(0, .d (.lit (List.map e_SScript l))), (8, .d (.lit (List.map e_SScript l))), (9, .d (.int .i64 ((List.length l) : Int))), (10, .d (.int .i64 x74)), (48, .d (.bool false))]) (by kernel_rfl) (by kernel_rfl) ?_
                    exact hj38 false
            · refine bPickF 29 (fun c => F (c || (decide (((List.length e114.Pages) : Int) > 12)))) (by kernel_rfl) (fun hc => ?_) (fun hc => ?_)
              · refine oNot (by kernel_rfl) (by kernel_rfl) ?_
                refine oNot (by kernel_rfl) (by kernel_rfl) ?_
                refine oNot (by kernel_rfl) (by kernel_rfl) ?_
                refine oNot (by kernel_rfl) (by kernel_rfl) ?_
                refine oOp (.d (.bool true)) (by kernel_rfl) (by kernel_rfl) (PureV.does (p_pick (b := true) (by kernel_rfl) (by kernel_rfl))) ?_
                refine oHead [0, 3, 4, 8, 9, 10, 34] [0] (T' := [(0, .d (.lit (List.map e_SScript l))), (3, .d (.int .i64 x74)), (4, .ptr 0 0), (8, .d (.lit (List.map e_SScript l))), (9, .d (.int .i64 ((List.length l) : Int))), (10, .d (.int .i64 x74)), (34, .d (.bool true))]) (H' := [.box [.d (.int .i64 e114.Number), .d (.int .i64 e114.Paper), .d (.int .i64 e114.Candidate), .d (.int .i64 e114.Centre), .d (.int .i64 e114.Variant), .d (.lit (List.map e_i64 e114.Pages)), .d (.lit (List.map e_i64 e114.Answers))]]) (by kernel_rfl) (by kernel_rfl) (by kernel_rfl) (by kernel_rfl) (by decide) (by kernel_rfl) (by kernel_rfl) ?_
                exact hj36 true
              · refine oOp (.ptr 0 5) (by kernel_rfl) (by kernel_rfl) (PureV.does (k_fieldAddr 0 0 (by kernel_rfl) Try.underlying50 rfl ty22 (by kernel_rfl))) ?_
                refine oOp (.d (.lit (List.map e_i64 e114.Pages))) (by kernel_rfl) (by kernel_rfl) (Quiet.does (k_load 0 5 (by kernel_rfl) Try.underlying22 (by kernel_rfl) (by kernel_rfl))) ?_
                refine oOp (.d (.int .i64 ((List.length e114.Pages) : Int))) (by kernel_rfl) (by kernel_rfl) (PureV.does (k_lenLit (enc := e_i64) e114.Pages (by kernel_rfl) Try.underlying22)) ?_
                refine oOp (.d (.bool (decide (((List.length e114.Pages) : Int) > 12)))) (by kernel_rfl) (by kernel_rfl) (PureV.does (p_int (k := .i64) (p := ((List.length e114.Pages) : Int)) (q := 12) (by kernel_rfl) (by kernel_rfl) (by kernel_rfl))) ?_
                refine oOp (.d (.bool (decide (((List.length e114.Pages) : Int) > 12)))) (by kernel_rfl) (by kernel_rfl) (PureV.does (p_pick (b := false) (by kernel_rfl) (by kernel_rfl))) ?_
                refine oHead [0, 3, 4, 8, 9, 10, 34] [0] (T' := [(0, .d (.lit (List.map e_SScript l))), (3, .d (.int .i64 x74)), (4, .ptr 0 0), (8, .d (.lit (List.map e_SScript l))), (9, .d (.int .i64 ((List.length l) : Int))), (10, .d (.int .i64 x74)), (34, .d (.bool (decide (((List.length e114.Pages) : Int) > 12))))]) (H' := [.box [.d (.int .i64 e114.Number), .d (.int .i64 e114.Paper), .d (.int .i64 e114.Candidate), .d (.int .i64 e114.Centre), .d (.int .i64 e114.Variant), .d (.lit (List.map e_i64 e114.Pages)), .d (.lit (List.map e_i64 e114.Answers))]]) (by kernel_rfl) (by kernel_rfl) (by kernel_rfl) (by kernel_rfl) (by decide) (by kernel_rfl) (by kernel_rfl) ?_
                exact hj36 (decide (((List.length e114.Pages) : Int) > 12))
        · refine oCondF (by kernel_rfl) ?_
          refine oExit rfl ?_
          refine oHead [] [] (T' := []) (H' := []) (by kernel_rfl) (by kernel_rfl) (by kernel_rfl) (by kernel_rfl) (by decide) (by kernel_rfl) (by kernel_rfl) ?_
          exact hj22 ()

/-- slices.Clone[[]int,int] -/
def slices_Clone_int (k : Nat) (s1 : (List Int)) : Option ((List Int)) := gcap (List.length s1) 8 (some s1)
def slices_Clone_int_E (s1 : (List Int)) : (List Int) → V × List Blk := fun r1 => (.d (.lit (List.map e_i64 r1)), [])
theorem slices_Clone_int_goes (k : Nat) (s1 : (List Int)) : RunsO Try.prog 40 [.d (.lit (List.map e_i64 s1))] [] (slices_Clone_int_E s1) (slices_Clone_int k s1) := by
  refine RunsO.of_goes (N := 8) (m := 0) (T := [(0, .d (.lit (List.map e_i64 s1)))]) Try.func40 rfl rfl (by kernel_rfl) (by kernel_rfl) (by kernel_rfl) ?_
  unfold slices_Clone_int
  refine bStart ?_
  refine oSeq ?_
  refine oRegion rfl ?_
  refine oOp (.nilc) (by kernel_rfl) (by kernel_rfl) (PureV.does (p_assign (by kernel_rfl))) ?_
  refine oEnd ?_
  refine oSeq ?_
  refine oSeq ?_
  refine oRegion rfl ?_
  refine oOp (.d (.lit (List.map e_i64 s1))) (by kernel_rfl) (by kernel_rfl) (PureV.does (p_move (by kernel_rfl))) ?_
  refine oNil (xs := List.map e_i64 s1) Try.underlying22 (by kernel_rfl) (by kernel_rfl) (by kernel_rfl) (fun β hβ => ?_)
  cases β
  · refine oEnd ?_
    refine oCondF (by kernel_rfl) ?_
    refine oSkip ?_
    refine oSeq ?_
    refine oRegion rfl ?_
    refine oOp (.ref 0 (List.length ([] : List Int)) 0 (List.length ([] : List Int))) (by kernel_rfl) (by kernel_rfl) (k_buildSlice (H' := [.sl 1 (List.map e_i64 ([] : List Int)) false]) (List.map e_i64 ([] : List Int)) Try.underlying22 ty3 (by kernel_rfl) (by kernel_rfl) (by kernel_rfl)) ?_
    refine oOp (.d (.lit (List.map e_i64 s1))) (by kernel_rfl) (by kernel_rfl) (PureV.does (p_move (by kernel_rfl))) ?_
    refine bCap (fun h11 => ?_)
    refine oOp (.ref 0 (List.length s1) 0 (List.length s1)) (by kernel_rfl) (by kernel_rfl) (k_append (H' := [.sl 1 (List.map e_i64 s1) false]) (enc := e_i64) 0 ([] : List Int) s1 Try.underlying22 Try.underlying22 ty3 (by kernel_rfl) (by kernel_rfl) (by kernel_rfl) (holdsLit e_i64_len s1 (by kernel_rfl)) h11 (by kernel_rfl)) ?_
    refine oOp (.ref 0 (List.length s1) 0 (List.length s1)) (by kernel_rfl) (by kernel_rfl) (PureV.does (p_assign (by kernel_rfl))) ?_
    refine oEnd ?_
    refine oFreeze 0 (esz := 1) (xs := List.map e_i64 s1) (by kernel_rfl) ?_
    refine oView (H' := [.sl 1 (List.map e_i64 s1) true]) rfl (by kernel_rfl) ?_
    refine oConv 2 (v := .ref 0 (List.length s1) 0 (List.length s1)) (v' := .d (.lit (List.map e_i64 s1))) (by kernel_rfl) (k_lit (enc := e_i64) (sz := 1) 0 s1 (by kernel_rfl)) ?_
    exact oRet (r0 := s1) (rv := .d (.lit (List.map e_i64 s1))) (B := []) (vs := [.d (.lit (List.map e_i64 s1))]) (σ := []) (by kernel_rfl) Try.func40 rfl (.cons _ _ _ _ (.tmp 2 _ (by kernel_rfl)) .nil) (by kernel_rfl) (by kernel_rfl) (by kernel_rfl) (by kernel_rfl) (by decide) (by kernel_rfl) (by kernel_rfl)
  · have hs0 : s1 = [] := by cases s1 with | nil => rfl | cons a0 l0 => exact absurd (hβ (by simp)) (by simp)
    subst hs0
    refine bCap (fun _ => ?_)
    refine oEnd ?_
    refine oCondT (by kernel_rfl) ?_
    refine oSeq ?_
    refine oRegion rfl ?_
    refine oOp (.nilc) (by kernel_rfl) (by kernel_rfl) (PureV.does (p_assign (by kernel_rfl))) ?_
    refine oEnd ?_
    refine oConv 2 (v := .nilc) (v' := .d (.lit (List.map e_i64 []))) (by kernel_rfl) .nil ?_
    exact oRet (r0 := []) (rv := .d (.lit (List.map e_i64 []))) (B := []) (vs := [.d (.lit (List.map e_i64 []))]) (σ := []) (by kernel_rfl) Try.func40 rfl (.cons _ _ _ _ (.tmp 2 _ (by kernel_rfl)) .nil) (by kernel_rfl) (by kernel_rfl) (by kernel_rfl) (by kernel_rfl) (by decide) (by kernel_rfl) (by kernel_rfl)

/-- awardingbody/marker.Find -/
def marker_Find_b1 (k : Nat) (l : (List SMarker)) (id : Int) (again : Int → Option ((Unit) ⊕ (Int × Int × Int × Int × (List Int) × Bool))) : Int → Option ((Unit) ⊕ (Int × Int × Int × Int × (List Int) × Bool)) := fun x4 => bif (decide (x4 < ((List.length l) : Int))) then gidx l x4 fun e113 => bif (e113.ID == id) then Option.bind (slices_Clone_int k e113.Papers) (fun r126 => some (Sum.inr (e113.ID, e113.Centre, e113.Level, e113.Capacity, r126, true))) else again (IntKind.wrap .i64 (x4 + 1)) else some (Sum.inl ())
def marker_Find (k : Nat) (l : (List SMarker)) (id : Int) : Option (Int × Int × Int × Int × (List Int) × Bool) := Option.bind (gloop (marker_Find_b1 k l id) k 0 : Option ((Unit) ⊕ (Int × Int × Int × Int × (List Int) × Bool))) (Sum.elim (u0 (some (0, 0, 0, 0, [], false))) (fun r => some r))
def marker_Find_E (l : (List SMarker)) (id : Int) : Int × Int × Int × Int × (List Int) × Bool → V × List Blk := uc fun r16 => uc fun r17 => uc fun r18 => uc fun r19 => uc fun r110 => fun r111 => (.tuple [.agg [.d (.int .i64 r16), .d (.int .i64 r17), .d (.int .i64 r18), .d (.int .i64 r19), .d (.lit (List.map e_i64 r110))], .d (.bool r111)], [])
theorem marker_Find_goes (k : Nat) (l : (List SMarker)) (id : Int) : RunsO Try.prog 32 [.d (.lit (List.map e_SMarker l)), .d (.int .i64 id)] [] (marker_Find_E l id) (marker_Find k l id) := by
  refine RunsO.of_goes (N := 25) (m := 0) (T := [(0, .d (.lit (List.map e_SMarker l))), (1, .d (.int .i64 id))]) Try.func32 rfl rfl (by kernel_rfl) (by kernel_rfl) (by kernel_rfl) ?_
  unfold marker_Find
  refine bStart ?_
  refine oSeq ?_
  refine oRegion rfl ?_
  refine oOp (.ptr 0 0) (by kernel_rfl) (by kernel_rfl) (k_alloc (H' := [.box [.d (.int .i64 0), .d (.int .i64 0), .d (.int .i64 0), .d (.int .i64 0), .nilc]]) ty52 (by kernel_rfl) (by kernel_rfl)) ?_
  refine oOp (.d (.bool false)) (by kernel_rfl) (by kernel_rfl) (PureV.does (p_assign (by kernel_rfl))) ?_
  refine oEnd ?_
  refine oSeq ?_
  refine oSeq ?_
  refine oRegion rfl ?_
  refine oOp (.d (.lit (List.map e_SMarker l))) (by kernel_rfl) (by kernel_rfl) (PureV.does (p_move (by kernel_rfl))) ?_
  refine oOp (.d (.int .i64 ((List.length l) : Int))) (by kernel_rfl) (by kernel_rfl) (PureV.does (k_lenLit (enc := e_SMarker) l (by kernel_rfl) Try.underlying41)) ?_
  refine oOp (.d (.int .i64 0)) (by kernel_rfl) (by kernel_rfl) (PureV.does (p_move (by kernel_rfl))) ?_
  refine oEnd ?_
  refine bJoin ((u0 ([(4, .ptr 0 0)]))) ((u0 ([.box [.d (.int .i64 0), .d (.int .i64 0), .d (.int .i64 0), .d (.int .i64 0), .nilc]]))) Sum.inl (fun s => ?_) (fun hj2 => ?_)
  · cases s
    refine bInl ?_
    refine bU0 ?_
    refine oView (T' := [(4, .ptr 0 0)]) (H' := [.box [.d (.int .i64 0), .d (.int .i64 0), .d (.int .i64 0), .d (.int .i64 0), .nilc]]) (by kernel_rfl) (by kernel_rfl) ?_
    refine oSeq ?_
    refine oRegion rfl ?_
    refine oOp (.agg [.d (.int .i64 0), .d (.int .i64 0), .d (.int .i64 0), .d (.int .i64 0), .nilc]) (by kernel_rfl) (by kernel_rfl) (PureV.does (p_build bld52 (by kernel_rfl))) ?_
    refine oOp (.undef) (by kernel_rfl) (by kernel_rfl) (k_store (vs := [.d (.int .i64 0), .d (.int .i64 0), .d (.int .i64 0), .d (.int .i64 0), .nilc]) (H' := [.box [.d (.int .i64 0), .d (.int .i64 0), .d (.int .i64 0), .d (.int .i64 0), .nilc]]) 0 0 (by kernel_rfl) ty52 (by kernel_rfl) (by kernel_rfl) (by kernel_rfl)) ?_
    refine oOp (.d (.bool false)) (by kernel_rfl) (by kernel_rfl) (PureV.does (p_assign (by kernel_rfl))) ?_
    refine oEnd ?_
    refine oConvB 0 (cells := [.d (.int .i64 0), .d (.int .i64 0), .d (.int .i64 0), .d (.int .i64 0), .nilc]) (cells' := [.d (.int .i64 0), .d (.int .i64 0), .d (.int .i64 0), .d (.int .i64 0), .d (.lit (List.map e_i64 []))]) (by kernel_rfl) (.cons _ _ _ _ (.same _) (.cons _ _ _ _ (.same _) (.cons _ _ _ _ (.same _) (.cons _ _ _ _ (.same _) (.cons _ _ _ _ .nil .nil))))) ?_
    refine oView (H' := [.box [.d (.int .i64 0), .d (.int .i64 0), .d (.int .i64 0), .d (.int .i64 0), .d (.lit (List.map e_i64 []))]]) rfl (by kernel_rfl) ?_
    exact oRet (r0 := (0, 0, 0, 0, [], false)) (rv := .tuple [.agg [.d (.int .i64 0), .d (.int .i64 0), .d (.int .i64 0), .d (.int .i64 0), .d (.lit (List.map e_i64 []))], .d (.bool false)]) (B := []) (vs := [.agg [.d (.int .i64 0), .d (.int .i64 0), .d (.int .i64 0), .d (.int .i64 0), .d (.lit (List.map e_i64 []))], .d (.bool false)]) (σ := []) (by kernel_rfl) Try.func32 rfl (.cons _ _ _ _ (.agg 4 52 0 0 [.d (.int .i64 0), .d (.int .i64 0), .d (.int .i64 0), .d (.int .i64 0), .d (.lit (List.map e_i64 []))] [.d (.int .i64 0), .d (.int .i64 0), .d (.int .i64 0), .d (.int .i64 0), .d (.lit (List.map e_i64 []))] _ _ _ _ (by kernel_rfl) (by kernel_rfl) Try.underlying52 (by kernel_rfl) ty52 (by kernel_rfl) (by kernel_rfl)) (.cons _ _ _ _ (.tmp 5 _ (by kernel_rfl)) .nil)) (by kernel_rfl) (by kernel_rfl) (by kernel_rfl) (by kernel_rfl) (by decide) (by kernel_rfl) (by kernel_rfl)
  · refine oBlock ?_
    refine oLoop ?_
    refine oHead [1, 4, 8, 9, 10] [0] (T' := [(1, .d (.int .i64 id)), (4, .ptr 0 0), (8, .d (.lit (List.map e_SMarker l))), (9, .d (.int .i64 ((List.length l) : Int))), (10, .d (.int .i64 0))]) (H' := [.box [.d (.int .i64 0), .d (.int .i64 0), .d (.int .i64 0), .d (.int .i64 0), .nilc]]) (by kernel_rfl) (by kernel_rfl) (by kernel_rfl) (by kernel_rfl) (by decide) (by kernel_rfl) (by kernel_rfl) ?_
    refine bLoop (body := marker_Find_b1 k l id) ((fun (x4 : Int) => [(1, .d (.int .i64 id)), (4, .ptr 0 0), (8, .d (.lit (List.map e_SMarker l))), (9, .d (.int .i64 ((List.length l) : Int))), (10, .d (.int .i64 x4))])) ((fun (x4 : Int) => [.box [.d (.int .i64 0), .d (.int .i64 0), .d (.int .i64 0), .d (.int .i64 0), .nilc]])) (fun again hag1 x4 => ?_) k 0
    · unfold marker_Find_b1
      refine oView (T' := [(1, .d (.int .i64 id)), (4, .ptr 0 0), (8, .d (.lit (List.map e_SMarker l))), (9, .d (.int .i64 ((List.length l) : Int))), (10, .d (.int .i64 x4))]) (H' := [.box [.d (.int .i64 0), .d (.int .i64 0), .d (.int .i64 0), .d (.int .i64 0), .nilc]]) (by kernel_rfl) (by kernel_rfl) ?_
      refine oSeq ?_
      refine oRegion rfl ?_
      refine oOp (.d (.bool (decide (x4 < ((List.length l) : Int))))) (by kernel_rfl) (by kernel_rfl) (PureV.does (p_int (k := .i64) (p := x4) (q := ((List.length l) : Int)) (by kernel_rfl) (by kernel_rfl) (by kernel_rfl))) ?_
      refine oEnd ?_
      refine oSeq ?_
      refine bSplit 11 (by kernel_rfl) (fun hc => ?_) (fun hc => ?_)
      · refine oCondT (by kernel_rfl) ?_
        refine oSkip ?_
        refine oSeq ?_
        refine oBlock ?_
        refine oSeq ?_
        refine oRegion rfl ?_
        refine bIdx (fun e113 h126 h127 => ?_)
        refine oOp (.lptr (e_SMarker e113) 0) (by kernel_rfl) (by kernel_rfl) (PureV.does (k_idxLit e_SMarker_len l (a := e113) (by kernel_rfl) (k := .i64) (i := x4) (by kernel_rfl) Try.underlying41 ty52 h126 h127)) ?_
        refine oOp (.agg [.d (.int .i64 e113.ID), .d (.int .i64 e113.Centre), .d (.int .i64 e113.Level), .d (.int .i64 e113.Capacity), .d (.lit (List.map e_i64 e113.Papers))]) (by kernel_rfl) (by kernel_rfl) (Quiet.does (k_loadLAgg (cells := e_SMarker e113) 0 [(.int .i64 e113.ID), (.int .i64 e113.Centre), (.int .i64 e113.Level), (.int .i64 e113.Capacity), (.lit (List.map e_i64 e113.Papers))] (by kernel_rfl) Try.underlying52 (by kernel_rfl) ty52 (by kernel_rfl) (by kernel_rfl) (by kernel_rfl))) ?_
        refine oOp (.ptr 1 0) (by kernel_rfl) (by kernel_rfl) (k_alloc (H' := [.box [.d (.int .i64 0), .d (.int .i64 0), .d (.int .i64 0), .d (.int .i64 0), .nilc], .box [.d (.int .i64 0), .d (.int .i64 0), .d (.int .i64 0), .d (.int .i64 0), .nilc]]) ty52 (by kernel_rfl) (by kernel_rfl)) ?_
        refine oOp (.undef) (by kernel_rfl) (by kernel_rfl) (k_store (vs := [.d (.int .i64 e113.ID), .d (.int .i64 e113.Centre), .d (.int .i64 e113.Level), .d (.int .i64 e113.Capacity), .d (.lit (List.map e_i64 e113.Papers))]) (H' := [.box [.d (.int .i64 0), .d (.int .i64 0), .d (.int .i64 0), .d (.int .i64 0), .nilc], .box [.d (.int .i64 e113.ID), .d (.int .i64 e113.Centre), .d (.int .i64 e113.Level), .d (.int .i64 e113.Capacity), .d (.lit (List.map e_i64 e113.Papers))]]) 1 0 (by kernel_rfl) ty52 (by kernel_rfl) (by kernel_rfl) (by kernel_rfl)) ?_
        refine oEnd ?_
        refine oSeq ?_
        refine oRegion rfl ?_
        refine oOp (.ptr 1 0) (by kernel_rfl) (by kernel_rfl) (PureV.does (k_fieldAddr 1 0 (by kernel_rfl) Try.underlying52 rfl ty3 (by kernel_rfl))) ?_
        refine oOp (.d (.int .i64 e113.ID)) (by kernel_rfl) (by kernel_rfl) (Quiet.does (k_load 1 0 (by kernel_rfl) Try.underlying3 (by kernel_rfl) (by kernel_rfl))) ?_
        refine oOp (.d (.int .i64 id)) (by kernel_rfl) (by kernel_rfl) (PureV.does (p_move (by kernel_rfl))) ?_
        refine oOp (.d (.bool (e113.ID == id))) (by kernel_rfl) (by kernel_rfl) (PureV.does (p_int (k := .i64) (p := e113.ID) (q := id) (by kernel_rfl) (by kernel_rfl) (by kernel_rfl))) ?_
        refine oEnd ?_
        refine bSplit 17 (by kernel_rfl) (fun hc => ?_) (fun hc => ?_)
        · refine oCondT (by kernel_rfl) ?_
          refine oSeq ?_
          refine oRegion rfl ?_
          refine oOp (.ptr 1 4) (by kernel_rfl) (by kernel_rfl) (PureV.does (k_fieldAddr 1 0 (by kernel_rfl) Try.underlying52 rfl ty22 (by kernel_rfl))) ?_
          refine oOp (.d (.lit (List.map e_i64 e113.Papers))) (by kernel_rfl) (by kernel_rfl) (Quiet.does (k_load 1 4 (by kernel_rfl) Try.underlying22 (by kernel_rfl) (by kernel_rfl))) ?_
          refine bCall (caps := []) (v := (fun (r126 : (List Int)) => (.d (.lit (List.map e_i64 r126)) : V))) (H' := (fun (r126 : (List Int)) => ([.box [.d (.int .i64 0), .d (.int .i64 0), .d (.int .i64 0), .d (.int .i64 0), .nilc], .box [.d (.int .i64 e113.ID), .d (.int .i64 e113.Centre), .d (.int .i64 e113.Level), .d (.int .i64 e113.Capacity), .d (.lit (List.map e_i64 e113.Papers))]] : List Blk))) [] _ (slices_Clone_int_goes k e113.Papers) (by kernel_rfl) (by kernel_rfl) rfl (by kernel_rfl) Try.func40 rfl (by kernel_rfl) (ConvRs.refl _ _) (by kernel_rfl) (by kernel_rfl) (by kernel_rfl) (by decide) (by kernel_rfl) (by kernel_rfl) (fun _ => (by kernel_rfl)) (fun _ => (by kernel_rfl)) (fun _ => (by kernel_rfl)) (fun r126 => ?_)
          refine oOp (.ptr 1 4) (by kernel_rfl) (by kernel_rfl) (PureV.does (k_fieldAddr 1 0 (by kernel_rfl) Try.underlying52 rfl ty22 (by kernel_rfl))) ?_
          refine oOp (.undef) (by kernel_rfl) (by kernel_rfl) (k_store (vs := [.d (.lit (List.map e_i64 r126))]) (H' := [.box [.d (.int .i64 0), .d (.int .i64 0), .d (.int .i64 0), .d (.int .i64 0), .nilc], .box [.d (.int .i64 e113.ID), .d (.int .i64 e113.Centre), .d (.int .i64 e113.Level), .d (.int .i64 e113.Capacity), .d (.lit (List.map e_i64 r126))]]) 1 4 (by kernel_rfl) ty22 (by kernel_rfl) (by kernel_rfl) (by kernel_rfl)) ?_
          refine oEnd ?_
          refine oSeq ?_
          refine oRegion rfl ?_
          refine oOp (.agg [.d (.int .i64 e113.ID), .d (.int .i64 e113.Centre), .d (.int .i64 e113.Level), .d (.int .i64 e113.Capacity), .d (.lit (List.map e_i64 r126))]) (by kernel_rfl) (by kernel_rfl) (Quiet.does (k_loadAgg 1 0 (by kernel_rfl) Try.underlying52 (by kernel_rfl) ty52 (by kernel_rfl))) ?_
          refine oOp (.undef) (by kernel_rfl) (by kernel_rfl) (k_store (vs := [.d (.int .i64 e113.ID), .d (.int .i64 e113.Centre), .d (.int .i64 e113.Level), .d (.int .i64 e113.Capacity), .d (.lit (List.map e_i64 r126))]) (H' := [.box [.d (.int .i64 e113.ID), .d (.int .i64 e113.Centre), .d (.int .i64 e113.Level), .d (.int .i64 e113.Capacity), .d (.lit (List.map e_i64 r126))], .box [.d (.int .i64 e113.ID), .d (.int .i64 e113.Centre), .d (.int .i64 e113.Level), .d (.int .i64 e113.Capacity), .d (.lit (List.map e_i64 r126))]]) 0 0 (by kernel_rfl) ty52 (by kernel_rfl) (by kernel_rfl) (by kernel_rfl)) ?_
          refine oOp (.d (.bool true)) (by kernel_rfl) (by kernel_rfl) (PureV.does (p_assign (by kernel_rfl))) ?_
          refine oEnd ?_
          exact oRet (r0 := (e113.ID, e113.Centre, e113.Level, e113.Capacity, r126, true)) (rv := .tuple [.agg [.d (.int .i64 e113.ID), .d (.int .i64 e113.Centre), .d (.int .i64 e113.Level), .d (.int .i64 e113.Capacity), .d (.lit (List.map e_i64 r126))], .d (.bool true)]) (B := []) (vs := [.agg [.d (.int .i64 e113.ID), .d (.int .i64 e113.Centre), .d (.int .i64 e113.Level), .d (.int .i64 e113.Capacity), .d (.lit (List.map e_i64 r126))], .d (.bool true)]) (σ := []) (by kernel_rfl) Try.func32 rfl (.cons _ _ _ _ (.agg 4 52 0 0 [.d (.int .i64 e113.ID), .d (.int .i64 e113.Centre), .d (.int .i64 e113.Level), .d (.int .i64 e113.Capacity), .d (.lit (List.map e_i64 r126))] [.d (.int .i64 e113.ID), .d (.int .i64 e113.Centre), .d (.int .i64 e113.Level), .d (.int .i64 e113.Capacity), .d (.lit (List.map e_i64 r126))] _ _ _ _ (by kernel_rfl) (by kernel_rfl) Try.underlying52 (by kernel_rfl) ty52 (by kernel_rfl) (by kernel_rfl)) (.cons _ _ _ _ (.tmp 5 _ (by kernel_rfl)) .nil)) (by kernel_rfl) (by kernel_rfl) (by kernel_rfl) (by kernel_rfl) (by decide) (by kernel_rfl) (by kernel_rfl)
        · refine oCondF (by kernel_rfl) ?_
          refine oSkip ?_
          refine oBlk ?_
          refine oRegion rfl ?_
          refine oOp (.d (.int .i64 (IntKind.wrap .i64 (x4 + 1)))) (by kernel_rfl) (by kernel_rfl) (PureV.does (p_int (k := .i64) (p := x4) (q := 1) (by kernel_rfl) (by kernel_rfl) (by kernel_rfl))) ?_
          refine oOp (.d (.int .i64 (IntKind.wrap .i64 (x4 + 1)))) (by kernel_rfl) (by kernel_rfl) (PureV.does (p_move (by kernel_rfl))) ?_
          refine oEnd ?_
          refine oAgain ?_
          refine oHead [1, 4, 8, 9, 10] [0] (T' := [(1, .d (.int .i64 id)), (4, .ptr 0 0), (8, .d (.lit (List.map e_SMarker l))), (9, .d (.int .i64 ((List.length l) : Int))), (10, .d (.int .i64 (IntKind.wrap .i64 (x4 + 1))))]) (H' := [.box [.d (.int .i64 0), .d (.int .i64 0), .d (.int .i64 0), .d (.int .i64 0), .nilc]]) (by kernel_rfl) (by kernel_rfl) (by kernel_rfl) (by kernel_rfl) (by decide) (by kernel_rfl) (by kernel_rfl) ?_
          exact hag1 (IntKind.wrap .i64 (x4 + 1))
      · refine oCondF (by kernel_rfl) ?_
        refine oExit rfl ?_
        refine oHead [4] [0] (T' := [(4, .ptr 0 0)]) (H' := [.box [.d (.int .i64 0), .d (.int .i64 0), .d (.int .i64 0), .d (.int .i64 0), .nilc]]) (by kernel_rfl) (by kernel_rfl) (by kernel_rfl) (by kernel_rfl) (by decide) (by kernel_rfl) (by kernel_rfl) ?_
        exact hj2 ()

/-- slices.Index[[]int,int] -/
def slices_Index_int_b1 (k : Nat) (s1 : (List Int)) (v : Int) (again : Int → Option ((Unit) ⊕ (Int))) : Int → Option ((Unit) ⊕ (Int)) := fun x4 => bif (decide (x4 < ((List.length s1) : Int))) then gidx s1 x4 fun e113 => bif (v == e113) then some (Sum.inr x4) else again (IntKind.wrap .i64 (x4 + 1)) else some (Sum.inl ())
def slices_Index_int (k : Nat) (s1 : (List Int)) (v : Int) : Option (Int) := Option.bind (gloop (slices_Index_int_b1 k s1 v) k 0 : Option ((Unit) ⊕ (Int))) (Sum.elim (u0 (some (-1))) (fun r => some r))
def slices_Index_int_E (s1 : (List Int)) (v : Int) : Int → V × List Blk := fun r1 => (.d (.int .i64 r1), [])
theorem slices_Index_int_goes (k : Nat) (s1 : (List Int)) (v : Int) : RunsO Try.prog 45 [.d (.lit (List.map e_i64 s1)), .d (.int .i64 v)] [] (slices_Index_int_E s1 v) (slices_Index_int k s1 v) := by
  refine RunsO.of_goes (N := 19) (m := 0) (T := [(0, .d (.lit (List.map e_i64 s1))), (1, .d (.int .i64 v))]) Try.func45 rfl rfl (by kernel_rfl) (by kernel_rfl) (by kernel_rfl) ?_
  unfold slices_Index_int
  refine bStart ?_
  refine oSeq ?_
  refine oRegion rfl ?_
  refine oOp (.d (.int .i64 0)) (by kernel_rfl) (by kernel_rfl) (PureV.does (p_assign (by kernel_rfl))) ?_
  refine oEnd ?_
  refine oSeq ?_
  refine oSeq ?_
  refine oRegion rfl ?_
  refine oOp (.d (.lit (List.map e_i64 s1))) (by kernel_rfl) (by kernel_rfl) (PureV.does (p_move (by kernel_rfl))) ?_
  refine oOp (.d (.int .i64 ((List.length s1) : Int))) (by kernel_rfl) (by kernel_rfl) (PureV.does (k_lenLit (enc := e_i64) s1 (by kernel_rfl) Try.underlying22)) ?_
  refine oOp (.d (.int .i64 0)) (by kernel_rfl) (by kernel_rfl) (PureV.does (p_move (by kernel_rfl))) ?_
  refine oEnd ?_
  refine bJoin ((u0 ([]))) ((u0 ([]))) Sum.inl (fun s => ?_) (fun hj2 => ?_)
  · cases s
    refine bInl ?_
    refine bU0 ?_
    refine oView (T' := []) (H' := []) (by kernel_rfl) (by kernel_rfl) ?_
    refine oSeq ?_
    refine oRegion rfl ?_
    refine oOp (.d (.int .i64 (-1))) (by kernel_rfl) (by kernel_rfl) (PureV.does (p_assign (by kernel_rfl))) ?_
    refine oEnd ?_
    exact oRet (r0 := (-1)) (rv := .d (.int .i64 (-1))) (B := []) (vs := [.d (.int .i64 (-1))]) (σ := []) (by kernel_rfl) Try.func45 rfl (.cons _ _ _ _ (.tmp 4 _ (by kernel_rfl)) .nil) (by kernel_rfl) (by kernel_rfl) (by kernel_rfl) (by kernel_rfl) (by decide) (by kernel_rfl) (by kernel_rfl)
  · refine oBlock ?_
    refine oLoop ?_
    refine oHead [0, 1, 7, 8] [] (T' := [(0, .d (.lit (List.map e_i64 s1))), (1, .d (.int .i64 v)), (7, .d (.int .i64 ((List.length s1) : Int))), (8, .d (.int .i64 0))]) (H' := []) (by kernel_rfl) (by kernel_rfl) (by kernel_rfl) (by kernel_rfl) (by decide) (by kernel_rfl) (by kernel_rfl) ?_
    refine bLoop (body := slices_Index_int_b1 k s1 v) ((fun (x4 : Int) => [(0, .d (.lit (List.map e_i64 s1))), (1, .d (.int .i64 v)), (7, .d (.int .i64 ((List.length s1) : Int))), (8, .d (.int .i64 x4))])) ((fun (x4 : Int) => [])) (fun again hag1 x4 => ?_) k 0
    · unfold slices_Index_int_b1
      refine oView (T' := [(0, .d (.lit (List.map e_i64 s1))), (1, .d (.int .i64 v)), (7, .d (.int .i64 ((List.length s1) : Int))), (8, .d (.int .i64 x4))]) (H' := []) (by kernel_rfl) (by kernel_rfl) ?_
      refine oSeq ?_
      refine oRegion rfl ?_
      refine oOp (.d (.bool (decide (x4 < ((List.length s1) : Int))))) (by kernel_rfl) (by kernel_rfl) (PureV.does (p_int (k := .i64) (p := x4) (q := ((List.length s1) : Int)) (by kernel_rfl) (by kernel_rfl) (by kernel_rfl))) ?_
      refine oEnd ?_
      refine oSeq ?_
      refine bSplit 9 (by kernel_rfl) (fun hc => ?_) (fun hc => ?_)
      · refine oCondT (by kernel_rfl) ?_
        refine oSkip ?_
        refine oSeq ?_
        refine oBlock ?_
        refine oSeq ?_
        refine oRegion rfl ?_
        refine oOp (.d (.int .i64 x4)) (by kernel_rfl) (by kernel_rfl) (PureV.does (p_move (by kernel_rfl))) ?_
        refine oOp (.d (.int .i64 x4)) (by kernel_rfl) (by kernel_rfl) (PureV.does (p_assign (by kernel_rfl))) ?_
        refine oEnd ?_
        refine oSeq ?_
        refine oRegion rfl ?_
        refine oOp (.d (.int .i64 v)) (by kernel_rfl) (by kernel_rfl) (PureV.does (p_move (by kernel_rfl))) ?_
        refine oOp (.d (.lit (List.map e_i64 s1))) (by kernel_rfl) (by kernel_rfl) (PureV.does (p_move (by kernel_rfl))) ?_
        refine oOp (.d (.int .i64 x4)) (by kernel_rfl) (by kernel_rfl) (PureV.does (p_move (by kernel_rfl))) ?_
        refine bIdx (fun e113 h126 h127 => ?_)
        refine oOp (.lptr (e_i64 e113) 0) (by kernel_rfl) (by kernel_rfl) (PureV.does (k_idxLit e_i64_len s1 (a := e113) (by kernel_rfl) (k := .i64) (i := x4) (by kernel_rfl) Try.underlying22 ty3 h126 h127)) ?_
        refine oOp (.d (.int .i64 e113)) (by kernel_rfl) (by kernel_rfl) (Quiet.does (k_loadL (cells := e_i64 e113) 0 (by kernel_rfl) Try.underlying3 (by kernel_rfl) (by kernel_rfl))) ?_
        refine oOp (.d (.bool (v == e113))) (by kernel_rfl) (by kernel_rfl) (PureV.does (p_int (k := .i64) (p := v) (q := e113) (by kernel_rfl) (by kernel_rfl) (by kernel_rfl))) ?_
        refine oEnd ?_
        refine bSplit 16 (by kernel_rfl) (fun hc => ?_) (fun hc => ?_)
        · refine oCondT (by kernel_rfl) ?_
          refine oSeq ?_
          refine oRegion rfl ?_
          refine oOp (.d (.int .i64 x4)) (by kernel_rfl) (by kernel_rfl) (PureV.does (p_move (by kernel_rfl))) ?_
          refine oOp (.d (.int .i64 x4)) (by kernel_rfl) (by kernel_rfl) (PureV.does (p_assign (by kernel_rfl))) ?_
          refine oEnd ?_
          exact oRet (r0 := x4) (rv := .d (.int .i64 x4)) (B := []) (vs := [.d (.int .i64 x4)]) (σ := []) (by kernel_rfl) Try.func45 rfl (.cons _ _ _ _ (.tmp 4 _ (by kernel_rfl)) .nil) (by kernel_rfl) (by kernel_rfl) (by kernel_rfl) (by kernel_rfl) (by decide) (by kernel_rfl) (by kernel_rfl)
        · refine oCondF (by kernel_rfl) ?_
          refine oSkip ?_
          refine oBlk ?_
          refine oRegion rfl ?_
          refine oOp (.d (.int .i64 (IntKind.wrap .i64 (x4 + 1)))) (by kernel_rfl) (by kernel_rfl) (PureV.does (p_int (k := .i64) (p := x4) (q := 1) (by kernel_rfl) (by kernel_rfl) (by kernel_rfl))) ?_
          refine oOp (.d (.int .i64 (IntKind.wrap .i64 (x4 + 1)))) (by kernel_rfl) (by kernel_rfl) (PureV.does (p_move (by kernel_rfl))) ?_
          refine oEnd ?_
          refine oAgain ?_
          refine oHead [0, 1, 7, 8] [] (T' := [(0, .d (.lit (List.map e_i64 s1))), (1, .d (.int .i64 v)), (7, .d (.int .i64 ((List.length s1) : Int))), (8, .d (.int .i64 (IntKind.wrap .i64 (x4 + 1))))]) (H' := []) (by kernel_rfl) (by kernel_rfl) (by kernel_rfl) (by kernel_rfl) (by decide) (by kernel_rfl) (by kernel_rfl) ?_
          exact hag1 (IntKind.wrap .i64 (x4 + 1))
      · refine oCondF (by kernel_rfl) ?_
        refine oExit rfl ?_
        refine oHead [] [] (T' := []) (H' := []) (by kernel_rfl) (by kernel_rfl) (by kernel_rfl) (by kernel_rfl) (by decide) (by kernel_rfl) (by kernel_rfl) ?_
        exact hj2 ()

/-- slices.Contains[[]int,int] -/
def slices_Contains_int (k : Nat) (s1 : (List Int)) (v : Int) : Option (Bool) := Option.bind (slices_Index_int k s1 v) (fun r12 => some (decide (r12 ≥ 0)))
def slices_Contains_int_E (s1 : (List Int)) (v : Int) : Bool → V × List Blk := fun r11 => (.d (.bool r11), [])
theorem slices_Contains_int_goes (k : Nat) (s1 : (List Int)) (v : Int) : RunsO Try.prog 41 [.d (.lit (List.map e_i64 s1)), .d (.int .i64 v)] [] (slices_Contains_int_E s1 v) (slices_Contains_int k s1 v) := by
  refine RunsO.of_goes (N := 9) (m := 0) (T := [(0, .d (.lit (List.map e_i64 s1))), (1, .d (.int .i64 v))]) Try.func41 rfl rfl (by kernel_rfl) (by kernel_rfl) (by kernel_rfl) ?_
  unfold slices_Contains_int
  refine bStart ?_
  refine oSeq ?_
  refine oRegion rfl ?_
  refine oOp (.d (.bool false)) (by kernel_rfl) (by kernel_rfl) (PureV.does (p_assign (by kernel_rfl))) ?_
  refine oEnd ?_
  refine oSeq ?_
  refine oRegion rfl ?_
  refine oOp (.d (.lit (List.map e_i64 s1))) (by kernel_rfl) (by kernel_rfl) (PureV.does (p_move (by kernel_rfl))) ?_
  refine oOp (.d (.int .i64 v)) (by kernel_rfl) (by kernel_rfl) (PureV.does (p_move (by kernel_rfl))) ?_
  refine bCall (caps := []) (v := (fun (r12 : Int) => (.d (.int .i64 r12) : V))) (H' := (fun (r12 : Int) => ([] : List Blk))) [] _ (slices_Index_int_goes k s1 v) (by kernel_rfl) (by kernel_rfl) rfl (by kernel_rfl) Try.func45 rfl (by kernel_rfl) (ConvRs.refl _ _) (by kernel_rfl) (by kernel_rfl) (by kernel_rfl) (by decide) (by kernel_rfl) (by kernel_rfl) (fun _ => (by kernel_rfl)) (fun _ => (by kernel_rfl)) (fun _ => (by kernel_rfl)) (fun r12 => ?_)
  refine oOp (.d (.bool (decide (r12 ≥ 0)))) (by kernel_rfl) (by kernel_rfl) (PureV.does (p_int (k := .i64) (p := r12) (q := 0) (by kernel_rfl) (by kernel_rfl) (by kernel_rfl))) ?_
  refine oOp (.d (.bool (decide (r12 ≥ 0)))) (by kernel_rfl) (by kernel_rfl) (PureV.does (p_assign (by kernel_rfl))) ?_
  refine oEnd ?_
  exact oRet (r0 := (decide (r12 ≥ 0))) (rv := .d (.bool (decide (r12 ≥ 0)))) (B := []) (vs := [.d (.bool (decide (r12 ≥ 0)))]) (σ := []) (by kernel_rfl) Try.func41 rfl (.cons _ _ _ _ (.tmp 4 _ (by kernel_rfl)) .nil) (by kernel_rfl) (by kernel_rfl) (by kernel_rfl) (by kernel_rfl) (by decide) (by kernel_rfl) (by kernel_rfl)

/-- awardingbody/marker.may -/
def marker_may (k : Nat) (m0 : Int) (m1 : Int) (m2 : Int) (m3 : Int) (m4 : (List Int)) (s0 : Int) (s1 : Int) (s2 : Int) (s3 : Int) (s4 : Int) (s5 : (List Int)) (s6 : (List Int)) : Option (Bool) := Option.bind (slices_Contains_int k m4 s1) (fun r111 => blet (r111 && (m1 != s3)) fun x1 => some x1)
def marker_may_E (m0 : Int) (m1 : Int) (m2 : Int) (m3 : Int) (m4 : (List Int)) (s0 : Int) (s1 : Int) (s2 : Int) (s3 : Int) (s4 : Int) (s5 : (List Int)) (s6 : (List Int)) : Bool → V × List Blk := fun r1 => (.d (.bool r1), [])
theorem marker_may_goes (k : Nat) (m0 : Int) (m1 : Int) (m2 : Int) (m3 : Int) (m4 : (List Int)) (s0 : Int) (s1 : Int) (s2 : Int) (s3 : Int) (s4 : Int) (s5 : (List Int)) (s6 : (List Int)) : RunsO Try.prog 33 [.agg [.d (.int .i64 m0), .d (.int .i64 m1), .d (.int .i64 m2), .d (.int .i64 m3), .d (.lit (List.map e_i64 m4))], .agg [.d (.int .i64 s0), .d (.int .i64 s1), .d (.int .i64 s2), .d (.int .i64 s3), .d (.int .i64 s4), .d (.lit (List.map e_i64 s5)), .d (.lit (List.map e_i64 s6))]] [] (marker_may_E m0 m1 m2 m3 m4 s0 s1 s2 s3 s4 s5 s6) (marker_may k m0 m1 m2 m3 m4 s0 s1 s2 s3 s4 s5 s6) := by
  refine RunsO.of_goes (N := 17) (m := 0) (T := [(0, .agg [.d (.int .i64 m0), .d (.int .i64 m1), .d (.int .i64 m2), .d (.int .i64 m3), .d (.lit (List.map e_i64 m4))]), (1, .agg [.d (.int .i64 s0), .d (.int .i64 s1), .d (.int .i64 s2), .d (.int .i64 s3), .d (.int .i64 s4), .d (.lit (List.map e_i64 s5)), .d (.lit (List.map e_i64 s6))])]) Try.func33 rfl rfl (by kernel_rfl) (by kernel_rfl) (by kernel_rfl) ?_
  unfold marker_may
  refine bStart ?_
  refine oSeq ?_
  refine oRegion rfl ?_
  refine oOp (.ptr 0 0) (by kernel_rfl) (by kernel_rfl) (k_box (H' := [.box [.d (.int .i64 m0), .d (.int .i64 m1), .d (.int .i64 m2), .d (.int .i64 m3), .d (.lit (List.map e_i64 m4))]]) (cells := [.d (.int .i64 m0), .d (.int .i64 m1), .d (.int .i64 m2), .d (.int .i64 m3), .d (.lit (List.map e_i64 m4))]) (by kernel_rfl) (by kernel_rfl) (by kernel_rfl)) ?_
  refine oOp (.ptr 1 0) (by kernel_rfl) (by kernel_rfl) (k_box (H' := [.box [.d (.int .i64 m0), .d (.int .i64 m1), .d (.int .i64 m2), .d (.int .i64 m3), .d (.lit (List.map e_i64 m4))], .box [.d (.int .i64 s0), .d (.int .i64 s1), .d (.int .i64 s2), .d (.int .i64 s3), .d (.int .i64 s4), .d (.lit (List.map e_i64 s5)), .d (.lit (List.map e_i64 s6))]]) (cells := [.d (.int .i64 s0), .d (.int .i64 s1), .d (.int .i64 s2), .d (.int .i64 s3), .d (.int .i64 s4), .d (.lit (List.map e_i64 s5)), .d (.lit (List.map e_i64 s6))]) (by kernel_rfl) (by kernel_rfl) (by kernel_rfl)) ?_
  refine oOp (.d (.bool false)) (by kernel_rfl) (by kernel_rfl) (PureV.does (p_assign (by kernel_rfl))) ?_
  refine oEnd ?_
  refine oSeq ?_
  refine oRegion rfl ?_
  refine oOp (.ptr 0 4) (by kernel_rfl) (by kernel_rfl) (PureV.does (k_fieldAddr 0 0 (by kernel_rfl) Try.underlying52 rfl ty22 (by kernel_rfl))) ?_
  refine oOp (.d (.lit (List.map e_i64 m4))) (by kernel_rfl) (by kernel_rfl) (Quiet.does (k_load 0 4 (by kernel_rfl) Try.underlying22 (by kernel_rfl) (by kernel_rfl))) ?_
  refine oOp (.ptr 1 1) (by kernel_rfl) (by kernel_rfl) (PureV.does (k_fieldAddr 1 0 (by kernel_rfl) Try.underlying50 rfl ty3 (by kernel_rfl))) ?_
  refine oOp (.d (.int .i64 s1)) (by kernel_rfl) (by kernel_rfl) (Quiet.does (k_load 1 1 (by kernel_rfl) Try.underlying3 (by kernel_rfl) (by kernel_rfl))) ?_
  refine bCall (caps := []) (v := (fun (r111 : Bool) => (.d (.bool r111) : V))) (H' := (fun (r111 : Bool) => ([.box [.d (.int .i64 m0), .d (.int .i64 m1), .d (.int .i64 m2), .d (.int .i64 m3), .d (.lit (List.map e_i64 m4))], .box [.d (.int .i64 s0), .d (.int .i64 s1), .d (.int .i64 s2), .d (.int .i64 s3), .d (.int .i64 s4), .d (.lit (List.map e_i64 s5)), .d (.lit (List.map e_i64 s6))]] : List Blk))) [] _ (slices_Contains_int_goes k m4 s1) (by kernel_rfl) (by kernel_rfl) rfl (by kernel_rfl) Try.func41 rfl (by kernel_rfl) (ConvRs.refl _ _) (by kernel_rfl) (by kernel_rfl) (by kernel_rfl) (by decide) (by kernel_rfl) (by kernel_rfl) (fun _ => (by kernel_rfl)) (fun _ => (by kernel_rfl)) (fun _ => (by kernel_rfl)) (fun r111 => ?_)
  refine oOp (.d (.bool r111)) (by kernel_rfl) (by kernel_rfl) (PureV.does (p_move (by kernel_rfl))) ?_
  refine bMeetF (H' := []) 6 rfl ((fun (x1 : Bool) => [(16, .d (.bool x1))])) (fun x1 => ?_) (fun F hj1 => ?_)
  · refine oView (T' := [(16, .d (.bool x1))]) (H' := []) (by kernel_rfl) (by kernel_rfl) ?_
    refine oOp (.d (.bool x1)) (by kernel_rfl) (by kernel_rfl) (PureV.does (p_assign (by kernel_rfl))) ?_
    refine oEnd ?_
    exact oRet (r0 := x1) (rv := .d (.bool x1)) (B := []) (vs := [.d (.bool x1)]) (σ := []) (by kernel_rfl) Try.func33 rfl (.cons _ _ _ _ (.tmp 4 _ (by kernel_rfl)) .nil) (by kernel_rfl) (by kernel_rfl) (by kernel_rfl) (by kernel_rfl) (by decide) (by kernel_rfl) (by kernel_rfl)
  · refine bPickF 10 (fun c => F (c && (m1 != s3))) (by kernel_rfl) (fun hc => ?_) (fun hc => ?_)
    · refine oOp (.ptr 0 1) (by kernel_rfl) (by kernel_rfl) (PureV.does (k_fieldAddr 0 0 (by kernel_rfl) Try.underlying52 rfl ty3 (by kernel_rfl))) ?_
      refine oOp (.d (.int .i64 m1)) (by kernel_rfl) (by kernel_rfl) (Quiet.does (k_load 0 1 (by kernel_rfl) Try.underlying3 (by kernel_rfl) (by kernel_rfl))) ?_
      refine oOp (.ptr 1 3) (by kernel_rfl) (by kernel_rfl) (PureV.does (k_fieldAddr 1 0 (by kernel_rfl) Try.underlying50 rfl ty3 (by kernel_rfl))) ?_
      refine oOp (.d (.int .i64 s3)) (by kernel_rfl) (by kernel_rfl) (Quiet.does (k_load 1 3 (by kernel_rfl) Try.underlying3 (by kernel_rfl) (by kernel_rfl))) ?_
      refine oOp (.d (.bool (m1 != s3))) (by kernel_rfl) (by kernel_rfl) (PureV.does (p_int (k := .i64) (p := m1) (q := s3) (by kernel_rfl) (by kernel_rfl) (by kernel_rfl))) ?_
      refine oOp (.d (.bool (m1 != s3))) (by kernel_rfl) (by kernel_rfl) (PureV.does (p_pick (b := true) (by kernel_rfl) (by kernel_rfl))) ?_
      refine oHead [16] [] (T' := [(16, .d (.bool (m1 != s3)))]) (H' := []) (by kernel_rfl) (by kernel_rfl) (by kernel_rfl) (by kernel_rfl) (by decide) (by kernel_rfl) (by kernel_rfl) ?_
      exact hj1 (m1 != s3)
    · refine oNot (by kernel_rfl) (by kernel_rfl) ?_
      refine oNot (by kernel_rfl) (by kernel_rfl) ?_
      refine oNot (by kernel_rfl) (by kernel_rfl) ?_
      refine oNot (by kernel_rfl) (by kernel_rfl) ?_
      refine oNot (by kernel_rfl) (by kernel_rfl) ?_
      refine oOp (.d (.bool false)) (by kernel_rfl) (by kernel_rfl) (PureV.does (p_pick (b := false) (by kernel_rfl) (by kernel_rfl))) ?_
      refine oHead [16] [] (T' := [(16, .d (.bool false))]) (H' := []) (by kernel_rfl) (by kernel_rfl) (by kernel_rfl) (by kernel_rfl) (by decide) (by kernel_rfl) (by kernel_rfl) ?_
      exact hj1 false

/-- awardingbody/marker.Eligible -/
def marker_Eligible (k : Nat) (l : (List SMarker)) (id : Int) (s0 : Int) (s1 : Int) (s2 : Int) (s3 : Int) (s4 : Int) (s5 : (List Int)) (s6 : (List Int)) : Option (Bool) := Option.bind (marker_Find k l id) (uc fun r161 => uc fun r171 => uc fun r181 => uc fun r191 => uc fun r1101 => fun r1111 => Option.bind (bif r1111 then Option.bind (marker_may k r161 r171 r181 r191 r1101 s0 s1 s2 s3 s4 s5 s6) (fun r13 => some r13) else some false : Option (Bool)) (fun x1 => some x1))
def marker_Eligible_E (l : (List SMarker)) (id : Int) (s0 : Int) (s1 : Int) (s2 : Int) (s3 : Int) (s4 : Int) (s5 : (List Int)) (s6 : (List Int)) : Bool → V × List Blk := fun r11 => (.d (.bool r11), [])
theorem marker_Eligible_goes (k : Nat) (l : (List SMarker)) (id : Int) (s0 : Int) (s1 : Int) (s2 : Int) (s3 : Int) (s4 : Int) (s5 : (List Int)) (s6 : (List Int)) : RunsO Try.prog 18 [.d (.lit (List.map e_SMarker l)), .d (.int .i64 id), .agg [.d (.int .i64 s0), .d (.int .i64 s1), .d (.int .i64 s2), .d (.int .i64 s3), .d (.int .i64 s4), .d (.lit (List.map e_i64 s5)), .d (.lit (List.map e_i64 s6))]] [] (marker_Eligible_E l id s0 s1 s2 s3 s4 s5 s6) (marker_Eligible k l id s0 s1 s2 s3 s4 s5 s6) := by
  refine RunsO.of_goes (N := 21) (m := 0) (T := [(0, .d (.lit (List.map e_SMarker l))), (1, .d (.int .i64 id)), (2, .agg [.d (.int .i64 s0), .d (.int .i64 s1), .d (.int .i64 s2), .d (.int .i64 s3), .d (.int .i64 s4), .d (.lit (List.map e_i64 s5)), .d (.lit (List.map e_i64 s6))])]) Try.func18 rfl rfl (by kernel_rfl) (by kernel_rfl) (by kernel_rfl) ?_
  unfold marker_Eligible
  refine bStart ?_
  refine oSeq ?_
  refine oRegion rfl ?_
  refine oOp (.ptr 0 0) (by kernel_rfl) (by kernel_rfl) (k_box (H' := [.box [.d (.int .i64 s0), .d (.int .i64 s1), .d (.int .i64 s2), .d (.int .i64 s3), .d (.int .i64 s4), .d (.lit (List.map e_i64 s5)), .d (.lit (List.map e_i64 s6))]]) (cells := [.d (.int .i64 s0), .d (.int .i64 s1), .d (.int .i64 s2), .d (.int .i64 s3), .d (.int .i64 s4), .d (.lit (List.map e_i64 s5)), .d (.lit (List.map e_i64 s6))]) (by kernel_rfl) (by kernel_rfl) (by kernel_rfl)) ?_
  refine oOp (.d (.bool false)) (by kernel_rfl) (by kernel_rfl) (PureV.does (p_assign (by kernel_rfl))) ?_
  refine oEnd ?_
  refine oSeq ?_
  refine oRegion rfl ?_
  refine oOp (.d (.lit (List.map e_SMarker l))) (by kernel_rfl) (by kernel_rfl) (PureV.does (p_move (by kernel_rfl))) ?_
  refine oOp (.d (.int .i64 id)) (by kernel_rfl) (by kernel_rfl) (PureV.does (p_move (by kernel_rfl))) ?_
  refine bCall (caps := []) (v := (uc fun (r161 : Int) => (uc fun (r171 : Int) => (uc fun (r181 : Int) => (uc fun (r191 : Int) => (uc fun (r1101 : (List Int)) => (fun (r1111 : Bool) => (.tuple [.agg [.d (.int .i64 r161), .d (.int .i64 r171), .d (.int .i64 r181), .d (.int .i64 r191), .d (.lit (List.map e_i64 r1101))], .d (.bool r1111)] : V)))))))) (H' := (uc fun (r161 : Int) => (uc fun (r171 : Int) => (uc fun (r181 : Int) => (uc fun (r191 : Int) => (uc fun (r1101 : (List Int)) => (fun (r1111 : Bool) => ([.box [.d (.int .i64 s0), .d (.int .i64 s1), .d (.int .i64 s2), .d (.int .i64 s3), .d (.int .i64 s4), .d (.lit (List.map e_i64 s5)), .d (.lit (List.map e_i64 s6))]] : List Blk)))))))) [] _ (marker_Find_goes k l id) (by kernel_rfl) (by kernel_rfl) rfl (by kernel_rfl) Try.func32 rfl (by kernel_rfl) (ConvRs.refl _ _) (by kernel_rfl) (by kernel_rfl) (by kernel_rfl) (by decide) (by kernel_rfl) (by kernel_rfl) (fun _ => (by kernel_rfl)) (fun _ => (by kernel_rfl)) (fun _ => (by kernel_rfl)) (fun r => ?_)
  obtain ⟨r161, r171, r181, r191, r1101, r1111⟩ := r
  refine bUc ?_
  refine bUc ?_
  refine bUc ?_
  refine bUc ?_
  refine bUc ?_
  refine oOp (.tuple [.agg [.d (.int .i64 r161), .d (.int .i64 r171), .d (.int .i64 r181), .d (.int .i64 r191), .d (.lit (List.map e_i64 r1101))], .d (.bool r1111)]) (by kernel_rfl) (by kernel_rfl) (PureV.does (p_move (by kernel_rfl))) ?_
  refine oOp (.agg [.d (.int .i64 r161), .d (.int .i64 r171), .d (.int .i64 r181), .d (.int .i64 r191), .d (.lit (List.map e_i64 r1101))]) (by kernel_rfl) (by kernel_rfl) (PureV.does (k_extract (by kernel_rfl))) ?_
  refine oOp (.d (.bool r1111)) (by kernel_rfl) (by kernel_rfl) (PureV.does (k_extract (by kernel_rfl))) ?_
  refine oOp (.ptr 1 0) (by kernel_rfl) (by kernel_rfl) (k_alloc (H' := [.box [.d (.int .i64 s0), .d (.int .i64 s1), .d (.int .i64 s2), .d (.int .i64 s3), .d (.int .i64 s4), .d (.lit (List.map e_i64 s5)), .d (.lit (List.map e_i64 s6))], .box [.d (.int .i64 0), .d (.int .i64 0), .d (.int .i64 0), .d (.int .i64 0), .nilc]]) ty52 (by kernel_rfl) (by kernel_rfl)) ?_
  refine oOp (.undef) (by kernel_rfl) (by kernel_rfl) (k_store (vs := [.d (.int .i64 r161), .d (.int .i64 r171), .d (.int .i64 r181), .d (.int .i64 r191), .d (.lit (List.map e_i64 r1101))]) (H' := [.box [.d (.int .i64 s0), .d (.int .i64 s1), .d (.int .i64 s2), .d (.int .i64 s3), .d (.int .i64 s4), .d (.lit (List.map e_i64 s5)), .d (.lit (List.map e_i64 s6))], .box [.d (.int .i64 r161), .d (.int .i64 r171), .d (.int .i64 r181), .d (.int .i64 r191), .d (.lit (List.map e_i64 r1101))]]) 1 0 (by kernel_rfl) ty52 (by kernel_rfl) (by kernel_rfl) (by kernel_rfl)) ?_
  refine oOp (.d (.bool r1111)) (by kernel_rfl) (by kernel_rfl) (PureV.does (p_assign (by kernel_rfl))) ?_
  refine oEnd ?_
  refine oSeq ?_
  refine oRegion rfl ?_
  refine oOp (.d (.bool r1111)) (by kernel_rfl) (by kernel_rfl) (PureV.does (p_move (by kernel_rfl))) ?_
  refine oOp (.d (.bool r1111)) (by kernel_rfl) (by kernel_rfl) (PureV.does (p_move (by kernel_rfl))) ?_
  refine bMeet 4 rfl ((fun (x1 : Bool) => [(20, .d (.bool x1))])) ((fun (x1 : Bool) => [])) (fun s => s) (fun x1 => ?_) (fun hj1 => ?_)
  · refine oView (T' := [(20, .d (.bool x1))]) (H' := []) (by kernel_rfl) (by kernel_rfl) ?_
    refine oOp (.d (.bool x1)) (by kernel_rfl) (by kernel_rfl) (PureV.does (p_assign (by kernel_rfl))) ?_
    refine oEnd ?_
    exact oRet (r0 := x1) (rv := .d (.bool x1)) (B := []) (vs := [.d (.bool x1)]) (σ := []) (by kernel_rfl) Try.func18 rfl (.cons _ _ _ _ (.tmp 6 _ (by kernel_rfl)) .nil) (by kernel_rfl) (by kernel_rfl) (by kernel_rfl) (by kernel_rfl) (by decide) (by kernel_rfl) (by kernel_rfl)
  · refine bSplit 16 (by kernel_rfl) (fun hc => ?_) (fun hc => ?_)
    · refine oOp (.agg [.d (.int .i64 r161), .d (.int .i64 r171), .d (.int .i64 r181), .d (.int .i64 r191), .d (.lit (List.map e_i64 r1101))]) (by kernel_rfl) (by kernel_rfl) (Quiet.does (k_loadAgg 1 0 (by kernel_rfl) Try.underlying52 (by kernel_rfl) ty52 (by kernel_rfl))) ?_
      refine oOp (.agg [.d (.int .i64 s0), .d (.int .i64 s1), .d (.int .i64 s2), .d (.int .i64 s3), .d (.int .i64 s4), .d (.lit (List.map e_i64 s5)), .d (.lit (List.map e_i64 s6))]) (by kernel_rfl) (by kernel_rfl) (Quiet.does (k_loadAgg 0 0 (by kernel_rfl) Try.underlying50 (by kernel_rfl) ty50 (by kernel_rfl))) ?_
      refine bCall (caps := []) (v := (fun (r13 : Bool) => (.d (.bool r13) : V))) (H' := (fun (r13 : Bool) => ([.box [.d (.int .i64 s0), .d (.int .i64 s1), .d (.int .i64 s2), .d (.int .i64 s3), .d (.int .i64 s4), .d (.lit (List.map e_i64 s5)), .d (.lit (List.map e_i64 s6))], .box [.d (.int .i64 r161), .d (.int .i64 r171), .d (.int .i64 r181), .d (.int .i64 r191), .d (.lit (List.map e_i64 r1101))]] : List Blk))) [] _ (marker_may_goes k r161 r171 r181 r191 r1101 s0 s1 s2 s3 s4 s5 s6) (by kernel_rfl) (by kernel_rfl) rfl (by kernel_rfl) Try.func33 rfl (by kernel_rfl) (ConvRs.refl _ _) (by kernel_rfl) (by kernel_rfl) (by kernel_rfl) (by decide) (by kernel_rfl) (by kernel_rfl) (fun _ => (by kernel_rfl)) (fun _ => (by kernel_rfl)) (fun _ => (by kernel_rfl)) (fun r13 => ?_)
      refine oOp (.d (.bool r13)) (by kernel_rfl) (by kernel_rfl) (PureV.does (p_pick (b := true) (by kernel_rfl) (by kernel_rfl))) ?_
      refine oHead [20] [] (T' := [(20, .d (.bool r13))]) (H' := []) (by kernel_rfl) (by kernel_rfl) (by kernel_rfl) (by kernel_rfl) (by decide) (by kernel_rfl) (by kernel_rfl) ?_
      exact hj1 r13
    · refine oNot (by kernel_rfl) (by kernel_rfl) ?_
      refine oNot (by kernel_rfl) (by kernel_rfl) ?_
      refine oNot (by kernel_rfl) (by kernel_rfl) ?_
      refine oOp (.d (.bool false)) (by kernel_rfl) (by kernel_rfl) (PureV.does (p_pick (b := false) (by kernel_rfl) (by kernel_rfl))) ?_
      refine oHead [20] [] (T' := [(20, .d (.bool false))]) (H' := []) (by kernel_rfl) (by kernel_rfl) (by kernel_rfl) (by kernel_rfl) (by decide) (by kernel_rfl) (by kernel_rfl) ?_
      exact hj1 false

end Go.VM
