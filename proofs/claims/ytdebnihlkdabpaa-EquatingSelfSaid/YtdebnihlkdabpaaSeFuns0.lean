/- Plain functions that answer as the program's functions do, and the proof that they do. -/
import Derived.Test.YtdebnihlkdabpaaProg
import Derived.KernelRfl
import Derived.Test.YtdebnihlkdabpaaEngYM
import Derived.Test.YtdebnihlkdabpaaSeFacts
namespace Go.VM
open Go.Proofs
set_option linter.unusedVariables false
set_option linter.unusedSimpArgs false
set_option maxRecDepth 100000
/-- awardingbody/awardingbodymark.Light -/
def mark_Light (k : Nat) (l : (List Int)) : Option (Unit) := some ()
def mark_Light_E (l : (List Int)) : Unit → V × List Blk := u0 ((.d (.bool (decide (((List.length l) : Int) ≤ 600))), []))
theorem mark_Light_goes (k : Nat) (l : (List Int)) : RunsO Try.prog 7 [.d (.lit (List.map e_i64 l))] [] (mark_Light_E l) (mark_Light k l) := by
  refine RunsO.of_goes (N := 6) (m := 0) (T := [(0, .d (.lit (List.map e_i64 l)))]) Try.func7 rfl rfl (h := ?_)
  unfold mark_Light
  refine bStart ?_
  refine oSR rfl ?_
  refine oP (.d (.bool false)) p_assign ?_
  refine oEnd ?_
  refine oSR rfl ?_
  refine oP (.d (.lit (List.map e_i64 l))) p_move ?_
  refine oP (.d (.int .i64 ((List.length l) : Int))) (k_lenLit (enc := e_i64) l (hu := Try.underlying22)) ?_
  refine oP (.d (.bool (decide (((List.length l) : Int) ≤ 600)))) (p_int (k := .i64) (p := ((List.length l) : Int)) (q := 600)) ?_
  refine oP (.d (.bool (decide (((List.length l) : Int) ≤ 600)))) p_assign ?_
  refine oEnd ?_
  exact oRet (r0 := ()) (rv := .d (.bool (decide (((List.length l) : Int) ≤ 600)))) (B := []) (vs := [.d (.bool (decide (((List.length l) : Int) ≤ 600)))]) (σ := []) (hf := Try.func7) (hrs := rfl) (hres := .cons _ _ _ _ (.tmp 2 _ (by kernel_rfl)) .nil) (hnd := by decide)

/-- awardingbody/distribution.Valid$1 -/
def distribution_Valid_1 (k : Nat) (n : Int) : Option (Bool) := blet ((decide (n < 0)) || (decide (n > 1048576))) fun x1 => some x1
def distribution_Valid_1_E (n : Int) : Bool → V × List Blk := fun r1 => (.d (.bool r1), [])
theorem distribution_Valid_1_goes (k : Nat) (n : Int) : RunsO Try.prog 58 [.d (.int .i64 n)] [] (distribution_Valid_1_E n) (distribution_Valid_1 k n) := by
  refine RunsO.of_goes (N := 9) (m := 0) (T := [(0, .d (.int .i64 n))]) Try.func58 rfl rfl (h := ?_)
  unfold distribution_Valid_1
  refine bStart ?_
  refine oSR rfl ?_
  refine oP (.d (.bool false)) p_assign ?_
  refine oEnd ?_
  refine oSR rfl ?_
  refine oP (.d (.int .i64 n)) p_move ?_
  refine oP (.d (.bool (decide (n < 0)))) (p_int (k := .i64) (p := n) (q := 0)) ?_
  refine oP (.d (.bool (decide (n < 0)))) p_move ?_
  refine bMeetF (H' := []) 3 rfl ((fun (x1 : Bool) => [(8, .d (.bool x1))])) (fun x1 => ?_) (fun F hj1 => ?_)
  ·refine oView (T' := [(8, .d (.bool x1))]) (H' := []) (h := ?_)
   refine oP (.d (.bool x1)) p_assign ?_
   refine oEnd ?_
   exact oRet (r0 := x1) (rv := .d (.bool x1)) (B := []) (vs := [.d (.bool x1)]) (σ := []) (hf := Try.func58) (hrs := rfl) (hres := .cons _ _ _ _ (.tmp 2 _ (by kernel_rfl)) .nil) (hnd := by decide)
  ·refine bPickF 5 (fun c => F (c || (decide (n > 1048576)))) (h1 := fun hc => ?_) (h2 := fun hc => ?_)
   ·refine oNot (h := ?_)
    refine oNot (h := ?_)
    refine oP (.d (.bool true)) (p_pick (b := true)) ?_
    refine oHead [8] [] (T' := [(8, .d (.bool true))]) (H' := []) (hnd := by decide) (h := ?_)
    exact hj1 true
   ·refine oP (.d (.int .i64 n)) p_move ?_
    refine oP (.d (.bool (decide (n > 1048576)))) (p_int (k := .i64) (p := n) (q := 1048576)) ?_
    refine oP (.d (.bool (decide (n > 1048576)))) (p_pick (b := false)) ?_
    refine oHead [8] [] (T' := [(8, .d (.bool (decide (n > 1048576))))]) (H' := []) (hnd := by decide) (h := ?_)
    exact hj1 (decide (n > 1048576))

/-- slices.IndexFunc[[]int,int] -/
def slices_IndexFunc_int_b1 (k : Nat) (s1 : (List Int)) (again : Int → Option ((Unit) ⊕ (Int))) : Int → Option ((Unit) ⊕ (Int)) := fun x4 => bif (decide (x4 < ((List.length s1) : Int))) then gidx s1 x4 fun e113 => Option.bind (distribution_Valid_1 k e113) (fun r114 => bif r114 then some (Sum.inr x4) else again (IntKind.wrap .i64 (x4 + 1))) else some (Sum.inl ())
def slices_IndexFunc_int (k : Nat) (s1 : (List Int)) : Option (Int) := Option.bind (gloop (slices_IndexFunc_int_b1 k s1) k 0 : Option ((Unit) ⊕ (Int))) (Sum.elim (u0 (some (-1))) (fun r => some r))
def slices_IndexFunc_int_E (s1 : (List Int)) : Int → V × List Blk := fun r14 => (.d (.int .i64 r14), [])
theorem slices_IndexFunc_int_goes (k : Nat) (s1 : (List Int)) : RunsO Try.prog 88 [.d (.lit (List.map e_i64 s1)), .fn 58 []] [] (slices_IndexFunc_int_E s1) (slices_IndexFunc_int k s1) := by
  refine RunsO.of_goes (N := 19) (m := 0) (T := [(0, .d (.lit (List.map e_i64 s1))), (1, .fn 58 [])]) Try.func88 rfl rfl (h := ?_)
  unfold slices_IndexFunc_int
  refine bStart ?_
  refine oSR rfl ?_
  refine oP (.d (.int .i64 0)) p_assign ?_
  refine oEnd ?_
  refine oSeq ?_
  refine oSR rfl ?_
  refine oP (.d (.lit (List.map e_i64 s1))) p_move ?_
  refine oP (.d (.int .i64 ((List.length s1) : Int))) (k_lenLit (enc := e_i64) s1 (hu := Try.underlying22)) ?_
  refine oP (.d (.int .i64 0)) p_move ?_
  refine oEnd ?_
  refine bJoin ((u0 ([]))) ((u0 ([]))) Sum.inl (fun s => ?_) (fun hj2 => ?_)
  ·cases s
   refine bInl ?_
   refine bU0 ?_
   refine oView (T' := []) (H' := []) (h := ?_)
   refine oSR rfl ?_
   refine oP (.d (.int .i64 (-1))) p_assign ?_
   refine oEnd ?_
   exact oRet (r0 := (-1)) (rv := .d (.int .i64 (-1))) (B := []) (vs := [.d (.int .i64 (-1))]) (σ := []) (hf := Try.func88) (hrs := rfl) (hres := .cons _ _ _ _ (.tmp 4 _ (by kernel_rfl)) .nil) (hnd := by decide)
  ·refine oBlock ?_
   refine oLoop ?_
   refine oHead [0, 1, 7, 8] [] (T' := [(0, .d (.lit (List.map e_i64 s1))), (1, .fn 58 []), (7, .d (.int .i64 ((List.length s1) : Int))), (8, .d (.int .i64 0))]) (H' := []) (hnd := by decide) (h := ?_)
   refine bLoop (body := slices_IndexFunc_int_b1 k s1) ((fun (x4 : Int) => [(0, .d (.lit (List.map e_i64 s1))), (1, .fn 58 []), (7, .d (.int .i64 ((List.length s1) : Int))), (8, .d (.int .i64 x4))])) ((fun (x4 : Int) => [])) (fun again hag1 x4 => ?_) k 0
   ·unfold slices_IndexFunc_int_b1
    refine oView (T' := [(0, .d (.lit (List.map e_i64 s1))), (1, .fn 58 []), (7, .d (.int .i64 ((List.length s1) : Int))), (8, .d (.int .i64 x4))]) (H' := []) (h := ?_)
    refine oSR rfl ?_
    refine oP (.d (.bool (decide (x4 < ((List.length s1) : Int))))) (p_int (k := .i64) (p := x4) (q := ((List.length s1) : Int))) ?_
    refine oEnd ?_
    refine oSeq ?_
    refine bSplit 9 (h1 := fun hc => ?_) (h2 := fun hc => ?_)
    ·refine oCondT (h := ?_)
     refine oSkip ?_
     refine oSeq ?_
     refine oBlock ?_
     refine oSR rfl ?_
     refine oP (.d (.int .i64 x4)) p_move ?_
     refine oP (.d (.int .i64 x4)) p_assign ?_
     refine oEnd ?_
     refine oSR rfl ?_
     refine oP (.fn 58 []) p_move ?_
     refine oP (.d (.lit (List.map e_i64 s1))) p_move ?_
     refine oP (.d (.int .i64 x4)) p_move ?_
     refine bIdx (fun e113 h126 h127 => ?_)
     refine oP (.lptr (e_i64 e113) 0) (k_idxLit e_i64_len s1 (a := e113) (k := .i64) (i := x4) (hu := Try.underlying22) (hi := ty3) (h0 := h126) (he := h127)) ?_
     refine oQ (.d (.int .i64 e113)) (k_loadL (cells := e_i64 e113) 0 (hu := Try.underlying3)) ?_
     refine bCall (caps := []) (v := (fun (r114 : Bool) => (.d (.bool r114) : V))) (H' := (fun (r114 : Bool) => ([] : List Blk))) [] _ (distribution_Valid_1_goes k e113) (ho := rfl) (hfn := Try.func58) (hb := rfl) (hconv := ConvRs.refl _ _) (hnd := by decide) (hBl := fun _ => (by kernel_rfl)) (hv := fun _ => (by kernel_rfl)) (hH' := fun _ => (by kernel_rfl)) (h := fun r114 => ?_)
     refine oEnd ?_
     refine bSplit 16 (h1 := fun hc => ?_) (h2 := fun hc => ?_)
     ·refine oCondT (h := ?_)
      refine oSR rfl ?_
      refine oP (.d (.int .i64 x4)) p_move ?_
      refine oP (.d (.int .i64 x4)) p_assign ?_
      refine oEnd ?_
      exact oRet (r0 := x4) (rv := .d (.int .i64 x4)) (B := []) (vs := [.d (.int .i64 x4)]) (σ := []) (hf := Try.func88) (hrs := rfl) (hres := .cons _ _ _ _ (.tmp 4 _ (by kernel_rfl)) .nil) (hnd := by decide)
     ·refine oCondF (h := ?_)
      refine oSkip ?_
      refine oBlk ?_
      refine oRegion rfl ?_
      refine oP (.d (.int .i64 (IntKind.wrap .i64 (x4 + 1)))) (p_int (k := .i64) (p := x4) (q := 1)) ?_
      refine oP (.d (.int .i64 (IntKind.wrap .i64 (x4 + 1)))) p_move ?_
      refine oEnd ?_
      refine oAgain ?_
      refine oHead [0, 1, 7, 8] [] (T' := [(0, .d (.lit (List.map e_i64 s1))), (1, .fn 58 []), (7, .d (.int .i64 ((List.length s1) : Int))), (8, .d (.int .i64 (IntKind.wrap .i64 (x4 + 1))))]) (H' := []) (hnd := by decide) (h := ?_)
      exact hag1 (IntKind.wrap .i64 (x4 + 1))
    ·refine oCondF (h := ?_)
     refine oExit rfl ?_
     refine oHead [] [] (T' := []) (H' := []) (hnd := by decide) (h := ?_)
     exact hj2 ()

/-- slices.ContainsFunc[[]int,int] -/
def slices_ContainsFunc_int (k : Nat) (s1 : (List Int)) : Option (Bool) := Option.bind (slices_IndexFunc_int k s1) (fun r141 => some (decide (r141 ≥ 0)))
def slices_ContainsFunc_int_E (s1 : (List Int)) : Bool → V × List Blk := fun r1 => (.d (.bool r1), [])
theorem slices_ContainsFunc_int_goes (k : Nat) (s1 : (List Int)) : RunsO Try.prog 57 [.d (.lit (List.map e_i64 s1)), .fn 58 []] [] (slices_ContainsFunc_int_E s1) (slices_ContainsFunc_int k s1) := by
  refine RunsO.of_goes (N := 9) (m := 0) (T := [(0, .d (.lit (List.map e_i64 s1))), (1, .fn 58 [])]) Try.func57 rfl rfl (h := ?_)
  unfold slices_ContainsFunc_int
  refine bStart ?_
  refine oSR rfl ?_
  refine oP (.d (.bool false)) p_assign ?_
  refine oEnd ?_
  refine oSR rfl ?_
  refine oP (.d (.lit (List.map e_i64 s1))) p_move ?_
  refine oP (.fn 58 []) p_move ?_
  refine bCall (caps := []) (v := (fun (r141 : Int) => (.d (.int .i64 r141) : V))) (H' := (fun (r141 : Int) => ([] : List Blk))) [] _ (slices_IndexFunc_int_goes k s1) (ho := rfl) (hfn := Try.func88) (hb := rfl) (hconv := ConvRs.refl _ _) (hnd := by decide) (hBl := fun _ => (by kernel_rfl)) (hv := fun _ => (by kernel_rfl)) (hH' := fun _ => (by kernel_rfl)) (h := fun r141 => ?_)
  refine oP (.d (.bool (decide (r141 ≥ 0)))) (p_int (k := .i64) (p := r141) (q := 0)) ?_
  refine oP (.d (.bool (decide (r141 ≥ 0)))) p_assign ?_
  refine oEnd ?_
  exact oRet (r0 := (decide (r141 ≥ 0))) (rv := .d (.bool (decide (r141 ≥ 0)))) (B := []) (vs := [.d (.bool (decide (r141 ≥ 0)))]) (σ := []) (hf := Try.func57) (hrs := rfl) (hres := .cons _ _ _ _ (.tmp 4 _ (by kernel_rfl)) .nil) (hnd := by decide)

/-- awardingbody/distribution.sum -/
def distribution_sum_b1 (k : Nat) (l : (List Int)) (again : Int × Int → Option (Int)) : Int × Int → Option (Int) := uc fun n6 => fun x4 => bif (decide (x4 < ((List.length l) : Int))) then gidx l x4 fun e113 => again ((IntKind.wrap .i64 (n6 + e113)), (IntKind.wrap .i64 (x4 + 1))) else some n6
def distribution_sum (k : Nat) (l : (List Int)) : Option (Int) := Option.bind (gloop (distribution_sum_b1 k l) k (0, 0) : Option (Int)) (fun n5 => some n5)
def distribution_sum_E (l : (List Int)) : Int → V × List Blk := fun r1 => (.d (.int .i64 r1), [])
theorem distribution_sum_goes (k : Nat) (l : (List Int)) : RunsO Try.prog 59 [.d (.lit (List.map e_i64 l))] [] (distribution_sum_E l) (distribution_sum k l) := by
  refine RunsO.of_goes (N := 17) (m := 0) (T := [(0, .d (.lit (List.map e_i64 l)))]) Try.func59 rfl rfl (h := ?_)
  unfold distribution_sum
  refine bStart ?_
  refine oSR rfl ?_
  refine oP (.d (.int .i64 0)) p_assign ?_
  refine oEnd ?_
  refine oSR rfl ?_
  refine oP (.d (.int .i64 0)) p_assign ?_
  refine oEnd ?_
  refine oSeq ?_
  refine oSR rfl ?_
  refine oP (.d (.lit (List.map e_i64 l))) p_move ?_
  refine oP (.d (.int .i64 ((List.length l) : Int))) (k_lenLit (enc := e_i64) l (hu := Try.underlying22)) ?_
  refine oP (.d (.int .i64 0)) p_move ?_
  refine oEnd ?_
  refine bJoin ((fun (n5 : Int) => [(3, .d (.int .i64 n5))])) ((fun (n5 : Int) => [])) (fun s => s) (fun n5 => ?_) (fun hj2 => ?_)
  ·refine oView (T' := [(3, .d (.int .i64 n5))]) (H' := []) (h := ?_)
   refine oSR rfl ?_
   refine oP (.d (.int .i64 n5)) p_move ?_
   refine oP (.d (.int .i64 n5)) p_assign ?_
   refine oEnd ?_
   exact oRet (r0 := n5) (rv := .d (.int .i64 n5)) (B := []) (vs := [.d (.int .i64 n5)]) (σ := []) (hf := Try.func59) (hrs := rfl) (hres := .cons _ _ _ _ (.tmp 2 _ (by kernel_rfl)) .nil) (hnd := by decide)
  ·refine oBlock ?_
   refine oLoop ?_
   refine oHead [3, 6, 7, 8] [] (T' := [(3, .d (.int .i64 0)), (6, .d (.lit (List.map e_i64 l))), (7, .d (.int .i64 ((List.length l) : Int))), (8, .d (.int .i64 0))]) (H' := []) (hnd := by decide) (h := ?_)
   refine bLoop (body := distribution_sum_b1 k l) ((uc fun (n6 : Int) => (fun (x4 : Int) => [(3, .d (.int .i64 n6)), (6, .d (.lit (List.map e_i64 l))), (7, .d (.int .i64 ((List.length l) : Int))), (8, .d (.int .i64 x4))]))) ((uc fun (n6 : Int) => (fun (x4 : Int) => []))) (fun again hag1 s => ?_) k (0, 0)
   ·unfold distribution_sum_b1
    obtain ⟨n6, x4⟩ := s
    refine bUc ?_
    refine oView (T' := [(3, .d (.int .i64 n6)), (6, .d (.lit (List.map e_i64 l))), (7, .d (.int .i64 ((List.length l) : Int))), (8, .d (.int .i64 x4))]) (H' := []) (h := ?_)
    refine oSR rfl ?_
    refine oP (.d (.bool (decide (x4 < ((List.length l) : Int))))) (p_int (k := .i64) (p := x4) (q := ((List.length l) : Int))) ?_
    refine oEnd ?_
    refine oSeq ?_
    refine bSplit 9 (h1 := fun hc => ?_) (h2 := fun hc => ?_)
    ·refine oCondT (h := ?_)
     refine oSkip ?_
     refine oSeq ?_
     refine oBlock ?_
     refine oSR rfl ?_
     refine bIdx (fun e113 h126 h127 => ?_)
     refine oP (.lptr (e_i64 e113) 0) (k_idxLit e_i64_len l (a := e113) (k := .i64) (i := x4) (hu := Try.underlying22) (hi := ty3) (h0 := h126) (he := h127)) ?_
     refine oQ (.d (.int .i64 e113)) (k_loadL (cells := e_i64 e113) 0 (hu := Try.underlying3)) ?_
     refine oP (.d (.int .i64 e113)) p_assign ?_
     refine oEnd ?_
     refine oRegion rfl ?_
     refine oP (.d (.int .i64 n6)) p_move ?_
     refine oP (.d (.int .i64 e113)) p_move ?_
     refine oP (.d (.int .i64 (IntKind.wrap .i64 (n6 + e113)))) (p_int (k := .i64) (p := n6) (q := e113)) ?_
     refine oP (.d (.int .i64 (IntKind.wrap .i64 (n6 + e113)))) p_assign ?_
     refine oEnd ?_
     refine oBlk ?_
     refine oRegion rfl ?_
     refine oP (.d (.int .i64 (IntKind.wrap .i64 (x4 + 1)))) (p_int (k := .i64) (p := x4) (q := 1)) ?_
     refine oP (.d (.int .i64 (IntKind.wrap .i64 (x4 + 1)))) p_move ?_
     refine oEnd ?_
     refine oAgain ?_
     refine oHead [3, 6, 7, 8] [] (T' := [(3, .d (.int .i64 (IntKind.wrap .i64 (n6 + e113)))), (6, .d (.lit (List.map e_i64 l))), (7, .d (.int .i64 ((List.length l) : Int))), (8, .d (.int .i64 (IntKind.wrap .i64 (x4 + 1))))]) (H' := []) (hnd := by decide) (h := ?_)
     exact hag1 ((IntKind.wrap .i64 (n6 + e113)), (IntKind.wrap .i64 (x4 + 1)))
    ·refine oCondF (h := ?_)
     refine oExit rfl ?_
     refine oHead [3] [] (T' := [(3, .d (.int .i64 n6))]) (H' := []) (hnd := by decide) (h := ?_)
     exact hj2 n6

/-- awardingbody/distribution.Valid -/
def distribution_Valid (k : Nat) (d0 : (List Int)) : Option (Bool) := blet ((((List.length d0) : Int) == 0) || (decide (((List.length d0) : Int) > 201))) fun x1 => bif x1 then some false else Option.bind (slices_ContainsFunc_int k d0) (fun r13 => bif r13 then some false else Option.bind (distribution_sum k d0) (fun r14 => some (decide (r14 ≤ 1048576))))
def distribution_Valid_E (d0 : (List Int)) : Bool → V × List Blk := fun r12 => (.d (.bool r12), [])
theorem distribution_Valid_goes (k : Nat) (d0 : (List Int)) : RunsO Try.prog 30 [.agg [.d (.lit (List.map e_i64 d0))]] [] (distribution_Valid_E d0) (distribution_Valid k d0) := by
  refine RunsO.of_goes (N := 20) (m := 0) (T := [(0, .agg [.d (.lit (List.map e_i64 d0))])]) Try.func30 rfl rfl (h := ?_)
  unfold distribution_Valid
  refine bStart ?_
  refine oSR rfl ?_
  refine oD (.ptr 0 0) (k_box (H' := [.box [.d (.lit (List.map e_i64 d0))]]) (cells := [.d (.lit (List.map e_i64 d0))])) ?_
  refine oP (.d (.bool false)) p_assign ?_
  refine oEnd ?_
  refine oSeq ?_
  refine oSR rfl ?_
  refine oP (.ptr 0 0) (k_fieldAddr 0 0 (hu := Try.underlying28) (hf := rfl) (hi := ty22)) ?_
  refine oQ (.d (.lit (List.map e_i64 d0))) (k_load 0 0 (hu := Try.underlying22)) ?_
  refine oP (.d (.int .i64 ((List.length d0) : Int))) (k_lenLit (enc := e_i64) d0 (hu := Try.underlying22)) ?_
  refine oP (.d (.bool (((List.length d0) : Int) == 0))) (p_int (k := .i64) (p := ((List.length d0) : Int)) (q := 0)) ?_
  refine oP (.d (.bool (((List.length d0) : Int) == 0))) p_move ?_
  refine bMeetF (H' := [.box [.d (.lit (List.map e_i64 d0))]]) 5 rfl ((fun (x1 : Bool) => [(1, .ptr 0 0), (12, .d (.bool x1))])) (fun x1 => ?_) (fun F hj1 => ?_)
  ·refine oView (T' := [(1, .ptr 0 0), (12, .d (.bool x1))]) (H' := [.box [.d (.lit (List.map e_i64 d0))]]) (h := ?_)
   refine oEnd ?_
   refine bSplit 12 (h1 := fun hc => ?_) (h2 := fun hc => ?_)
   ·refine oCondT (h := ?_)
    refine oSR rfl ?_
    refine oP (.d (.bool false)) p_assign ?_
    refine oEnd ?_
    exact oRet (r0 := false) (rv := .d (.bool false)) (B := []) (vs := [.d (.bool false)]) (σ := []) (hf := Try.func30) (hrs := rfl) (hres := .cons _ _ _ _ (.tmp 2 _ (by kernel_rfl)) .nil) (hnd := by decide)
   ·refine oCondF (h := ?_)
    refine oSkip ?_
    refine oSeq ?_
    refine oSR rfl ?_
    refine oP (.ptr 0 0) (k_fieldAddr 0 0 (hu := Try.underlying28) (hf := rfl) (hi := ty22)) ?_
    refine oQ (.d (.lit (List.map e_i64 d0))) (k_load 0 0 (hu := Try.underlying22)) ?_
    refine bCall (caps := []) (v := (fun (r13 : Bool) => (.d (.bool r13) : V))) (H' := (fun (r13 : Bool) => ([.box [.d (.lit (List.map e_i64 d0))]] : List Blk))) [] _ (slices_ContainsFunc_int_goes k d0) (ho := rfl) (hfn := Try.func57) (hb := rfl) (hconv := ConvRs.refl _ _) (hnd := by decide) (hBl := fun _ => (by kernel_rfl)) (hv := fun _ => (by kernel_rfl)) (hH' := fun _ => (by kernel_rfl)) (h := fun r13 => ?_)
    refine oEnd ?_
    refine bSplit 15 (h1 := fun hc => ?_) (h2 := fun hc => ?_)
    ·refine oCondT (h := ?_)
     refine oSR rfl ?_
     refine oP (.d (.bool false)) p_assign ?_
     refine oEnd ?_
     exact oRet (r0 := false) (rv := .d (.bool false)) (B := []) (vs := [.d (.bool false)]) (σ := []) (hf := Try.func30) (hrs := rfl) (hres := .cons _ _ _ _ (.tmp 2 _ (by kernel_rfl)) .nil) (hnd := by decide)
    ·refine oCondF (h := ?_)
     refine oSkip ?_
     refine oSR rfl ?_
     refine oP (.ptr 0 0) (k_fieldAddr 0 0 (hu := Try.underlying28) (hf := rfl) (hi := ty22)) ?_
     refine oQ (.d (.lit (List.map e_i64 d0))) (k_load 0 0 (hu := Try.underlying22)) ?_
     refine bCall (caps := []) (v := (fun (r14 : Int) => (.d (.int .i64 r14) : V))) (H' := (fun (r14 : Int) => ([.box [.d (.lit (List.map e_i64 d0))]] : List Blk))) [] _ (distribution_sum_goes k d0) (ho := rfl) (hfn := Try.func59) (hb := rfl) (hconv := ConvRs.refl _ _) (hnd := by decide) (hBl := fun _ => (by kernel_rfl)) (hv := fun _ => (by kernel_rfl)) (hH' := fun _ => (by kernel_rfl)) (h := fun r14 => ?_)
     refine oP (.d (.bool (decide (r14 ≤ 1048576)))) (p_int (k := .i64) (p := r14) (q := 1048576)) ?_
     refine oP (.d (.bool (decide (r14 ≤ 1048576)))) p_assign ?_
     refine oEnd ?_
     exact oRet (r0 := (decide (r14 ≤ 1048576))) (rv := .d (.bool (decide (r14 ≤ 1048576)))) (B := []) (vs := [.d (.bool (decide (r14 ≤ 1048576)))]) (σ := []) (hf := Try.func30) (hrs := rfl) (hres := .cons _ _ _ _ (.tmp 2 _ (by kernel_rfl)) .nil) (hnd := by decide)
  ·refine bPickF 7 (fun c => F (c || (decide (((List.length d0) : Int) > 201)))) (h1 := fun hc => ?_) (h2 := fun hc => ?_)
   ·refine oNot (h := ?_)
    refine oNot (h := ?_)
    refine oNot (h := ?_)
    refine oNot (h := ?_)
    refine oP (.d (.bool true)) (p_pick (b := true)) ?_
    refine oHead [1, 12] [0] (T' := [(1, .ptr 0 0), (12, .d (.bool true))]) (H' := [.box [.d (.lit (List.map e_i64 d0))]]) (hnd := by decide) (h := ?_)
    exact hj1 true
   ·refine oP (.ptr 0 0) (k_fieldAddr 0 0 (hu := Try.underlying28) (hf := rfl) (hi := ty22)) ?_
    refine oQ (.d (.lit (List.map e_i64 d0))) (k_load 0 0 (hu := Try.underlying22)) ?_
    refine oP (.d (.int .i64 ((List.length d0) : Int))) (k_lenLit (enc := e_i64) d0 (hu := Try.underlying22)) ?_
    refine oP (.d (.bool (decide (((List.length d0) : Int) > 201)))) (p_int (k := .i64) (p := ((List.length d0) : Int)) (q := 201)) ?_
    refine oP (.d (.bool (decide (((List.length d0) : Int) > 201)))) (p_pick (b := false)) ?_
    refine oHead [1, 12] [0] (T' := [(1, .ptr 0 0), (12, .d (.bool (decide (((List.length d0) : Int) > 201))))]) (H' := [.box [.d (.lit (List.map e_i64 d0))]]) (hnd := by decide) (h := ?_)
    exact hj1 (decide (((List.length d0) : Int) > 201))

/-- slices.Index[[]int,int] -/
def slices_Index_int_b1 (k : Nat) (s1 : (List Int)) (v : Int) (again : Int → Option ((Unit) ⊕ (Int))) : Int → Option ((Unit) ⊕ (Int)) := fun x4 => bif (decide (x4 < ((List.length s1) : Int))) then gidx s1 x4 fun e113 => bif (v == e113) then some (Sum.inr x4) else again (IntKind.wrap .i64 (x4 + 1)) else some (Sum.inl ())
def slices_Index_int (k : Nat) (s1 : (List Int)) (v : Int) : Option (Int) := Option.bind (gloop (slices_Index_int_b1 k s1 v) k 0 : Option ((Unit) ⊕ (Int))) (Sum.elim (u0 (some (-1))) (fun r => some r))
def slices_Index_int_E (s1 : (List Int)) (v : Int) : Int → V × List Blk := fun r1 => (.d (.int .i64 r1), [])
theorem slices_Index_int_goes (k : Nat) (s1 : (List Int)) (v : Int) : RunsO Try.prog 60 [.d (.lit (List.map e_i64 s1)), .d (.int .i64 v)] [] (slices_Index_int_E s1 v) (slices_Index_int k s1 v) := by
  refine RunsO.of_goes (N := 19) (m := 0) (T := [(0, .d (.lit (List.map e_i64 s1))), (1, .d (.int .i64 v))]) Try.func60 rfl rfl (h := ?_)
  unfold slices_Index_int
  refine bStart ?_
  refine oSR rfl ?_
  refine oP (.d (.int .i64 0)) p_assign ?_
  refine oEnd ?_
  refine oSeq ?_
  refine oSR rfl ?_
  refine oP (.d (.lit (List.map e_i64 s1))) p_move ?_
  refine oP (.d (.int .i64 ((List.length s1) : Int))) (k_lenLit (enc := e_i64) s1 (hu := Try.underlying22)) ?_
  refine oP (.d (.int .i64 0)) p_move ?_
  refine oEnd ?_
  refine bJoin ((u0 ([]))) ((u0 ([]))) Sum.inl (fun s => ?_) (fun hj2 => ?_)
  ·cases s
   refine bInl ?_
   refine bU0 ?_
   refine oView (T' := []) (H' := []) (h := ?_)
   refine oSR rfl ?_
   refine oP (.d (.int .i64 (-1))) p_assign ?_
   refine oEnd ?_
   exact oRet (r0 := (-1)) (rv := .d (.int .i64 (-1))) (B := []) (vs := [.d (.int .i64 (-1))]) (σ := []) (hf := Try.func60) (hrs := rfl) (hres := .cons _ _ _ _ (.tmp 4 _ (by kernel_rfl)) .nil) (hnd := by decide)
  ·refine oBlock ?_
   refine oLoop ?_
   refine oHead [0, 1, 7, 8] [] (T' := [(0, .d (.lit (List.map e_i64 s1))), (1, .d (.int .i64 v)), (7, .d (.int .i64 ((List.length s1) : Int))), (8, .d (.int .i64 0))]) (H' := []) (hnd := by decide) (h := ?_)
   refine bLoop (body := slices_Index_int_b1 k s1 v) ((fun (x4 : Int) => [(0, .d (.lit (List.map e_i64 s1))), (1, .d (.int .i64 v)), (7, .d (.int .i64 ((List.length s1) : Int))), (8, .d (.int .i64 x4))])) ((fun (x4 : Int) => [])) (fun again hag1 x4 => ?_) k 0
   ·unfold slices_Index_int_b1
    refine oView (T' := [(0, .d (.lit (List.map e_i64 s1))), (1, .d (.int .i64 v)), (7, .d (.int .i64 ((List.length s1) : Int))), (8, .d (.int .i64 x4))]) (H' := []) (h := ?_)
    refine oSR rfl ?_
    refine oP (.d (.bool (decide (x4 < ((List.length s1) : Int))))) (p_int (k := .i64) (p := x4) (q := ((List.length s1) : Int))) ?_
    refine oEnd ?_
    refine oSeq ?_
    refine bSplit 9 (h1 := fun hc => ?_) (h2 := fun hc => ?_)
    ·refine oCondT (h := ?_)
     refine oSkip ?_
     refine oSeq ?_
     refine oBlock ?_
     refine oSR rfl ?_
     refine oP (.d (.int .i64 x4)) p_move ?_
     refine oP (.d (.int .i64 x4)) p_assign ?_
     refine oEnd ?_
     refine oSR rfl ?_
     refine oP (.d (.int .i64 v)) p_move ?_
     refine oP (.d (.lit (List.map e_i64 s1))) p_move ?_
     refine oP (.d (.int .i64 x4)) p_move ?_
     refine bIdx (fun e113 h126 h127 => ?_)
     refine oP (.lptr (e_i64 e113) 0) (k_idxLit e_i64_len s1 (a := e113) (k := .i64) (i := x4) (hu := Try.underlying22) (hi := ty3) (h0 := h126) (he := h127)) ?_
     refine oQ (.d (.int .i64 e113)) (k_loadL (cells := e_i64 e113) 0 (hu := Try.underlying3)) ?_
     refine oP (.d (.bool (v == e113))) (p_int (k := .i64) (p := v) (q := e113)) ?_
     refine oEnd ?_
     refine bSplit 16 (h1 := fun hc => ?_) (h2 := fun hc => ?_)
     ·refine oCondT (h := ?_)
      refine oSR rfl ?_
      refine oP (.d (.int .i64 x4)) p_move ?_
      refine oP (.d (.int .i64 x4)) p_assign ?_
      refine oEnd ?_
      exact oRet (r0 := x4) (rv := .d (.int .i64 x4)) (B := []) (vs := [.d (.int .i64 x4)]) (σ := []) (hf := Try.func60) (hrs := rfl) (hres := .cons _ _ _ _ (.tmp 4 _ (by kernel_rfl)) .nil) (hnd := by decide)
     ·refine oCondF (h := ?_)
      refine oSkip ?_
      refine oBlk ?_
      refine oRegion rfl ?_
      refine oP (.d (.int .i64 (IntKind.wrap .i64 (x4 + 1)))) (p_int (k := .i64) (p := x4) (q := 1)) ?_
      refine oP (.d (.int .i64 (IntKind.wrap .i64 (x4 + 1)))) p_move ?_
      refine oEnd ?_
      refine oAgain ?_
      refine oHead [0, 1, 7, 8] [] (T' := [(0, .d (.lit (List.map e_i64 s1))), (1, .d (.int .i64 v)), (7, .d (.int .i64 ((List.length s1) : Int))), (8, .d (.int .i64 (IntKind.wrap .i64 (x4 + 1))))]) (H' := []) (hnd := by decide) (h := ?_)
      exact hag1 (IntKind.wrap .i64 (x4 + 1))
    ·refine oCondF (h := ?_)
     refine oExit rfl ?_
     refine oHead [] [] (T' := []) (H' := []) (hnd := by decide) (h := ?_)
     exact hj2 ()

/-- slices.Contains[[]int,int] -/
def slices_Contains_int (k : Nat) (s1 : (List Int)) (v : Int) : Option (Bool) := Option.bind (slices_Index_int k s1 v) (fun r12 => some (decide (r12 ≥ 0)))
def slices_Contains_int_E (s1 : (List Int)) (v : Int) : Bool → V × List Blk := fun r11 => (.d (.bool r11), [])
theorem slices_Contains_int_goes (k : Nat) (s1 : (List Int)) (v : Int) : RunsO Try.prog 31 [.d (.lit (List.map e_i64 s1)), .d (.int .i64 v)] [] (slices_Contains_int_E s1 v) (slices_Contains_int k s1 v) := by
  refine RunsO.of_goes (N := 9) (m := 0) (T := [(0, .d (.lit (List.map e_i64 s1))), (1, .d (.int .i64 v))]) Try.func31 rfl rfl (h := ?_)
  unfold slices_Contains_int
  refine bStart ?_
  refine oSR rfl ?_
  refine oP (.d (.bool false)) p_assign ?_
  refine oEnd ?_
  refine oSR rfl ?_
  refine oP (.d (.lit (List.map e_i64 s1))) p_move ?_
  refine oP (.d (.int .i64 v)) p_move ?_
  refine bCall (caps := []) (v := (fun (r12 : Int) => (.d (.int .i64 r12) : V))) (H' := (fun (r12 : Int) => ([] : List Blk))) [] _ (slices_Index_int_goes k s1 v) (ho := rfl) (hfn := Try.func60) (hb := rfl) (hconv := ConvRs.refl _ _) (hnd := by decide) (hBl := fun _ => (by kernel_rfl)) (hv := fun _ => (by kernel_rfl)) (hH' := fun _ => (by kernel_rfl)) (h := fun r12 => ?_)
  refine oP (.d (.bool (decide (r12 ≥ 0)))) (p_int (k := .i64) (p := r12) (q := 0)) ?_
  refine oP (.d (.bool (decide (r12 ≥ 0)))) p_assign ?_
  refine oEnd ?_
  exact oRet (r0 := (decide (r12 ≥ 0))) (rv := .d (.bool (decide (r12 ≥ 0)))) (B := []) (vs := [.d (.bool (decide (r12 ≥ 0)))]) (σ := []) (hf := Try.func31) (hrs := rfl) (hres := .cons _ _ _ _ (.tmp 4 _ (by kernel_rfl)) .nil) (hnd := by decide)

/-- awardingbody/distribution.Count -/
def distribution_Count (k : Nat) (d0 : (List Int)) : Option (Int) := Option.bind (distribution_Valid k d0) (fun r121 => bif (!r121) then some 0 else Option.bind (distribution_sum k d0) (fun r13 => some r13))
def distribution_Count_E (d0 : (List Int)) : Int → V × List Blk := fun r11 => (.d (.int .i64 r11), [])
theorem distribution_Count_goes (k : Nat) (d0 : (List Int)) : RunsO Try.prog 32 [.agg [.d (.lit (List.map e_i64 d0))]] [] (distribution_Count_E d0) (distribution_Count k d0) := by
  refine RunsO.of_goes (N := 9) (m := 0) (T := [(0, .agg [.d (.lit (List.map e_i64 d0))])]) Try.func32 rfl rfl (h := ?_)
  unfold distribution_Count
  refine bStart ?_
  refine oSR rfl ?_
  refine oD (.ptr 0 0) (k_box (H' := [.box [.d (.lit (List.map e_i64 d0))]]) (cells := [.d (.lit (List.map e_i64 d0))])) ?_
  refine oP (.d (.int .i64 0)) p_assign ?_
  refine oEnd ?_
  refine oSeq ?_
  refine oSR rfl ?_
  refine oQ (.agg [.d (.lit (List.map e_i64 d0))]) (k_loadAgg 0 0 (hu := Try.underlying28) (hi := ty28)) ?_
  refine bCall (caps := []) (v := (fun (r121 : Bool) => (.d (.bool r121) : V))) (H' := (fun (r121 : Bool) => ([.box [.d (.lit (List.map e_i64 d0))]] : List Blk))) [] _ (distribution_Valid_goes k d0) (ho := rfl) (hfn := Try.func30) (hb := rfl) (hconv := ConvRs.refl _ _) (hnd := by decide) (hBl := fun _ => (by kernel_rfl)) (hv := fun _ => (by kernel_rfl)) (hH' := fun _ => (by kernel_rfl)) (h := fun r121 => ?_)
  refine oP (.d (.bool (!r121))) (p_not (p := r121)) ?_
  refine oEnd ?_
  refine bSplit 5 (h1 := fun hc => ?_) (h2 := fun hc => ?_)
  ·refine oCondT (h := ?_)
   refine oSR rfl ?_
   refine oP (.d (.int .i64 0)) p_assign ?_
   refine oEnd ?_
   exact oRet (r0 := 0) (rv := .d (.int .i64 0)) (B := []) (vs := [.d (.int .i64 0)]) (σ := []) (hf := Try.func32) (hrs := rfl) (hres := .cons _ _ _ _ (.tmp 2 _ (by kernel_rfl)) .nil) (hnd := by decide)
  ·refine oCondF (h := ?_)
   refine oSkip ?_
   refine oSR rfl ?_
   refine oP (.ptr 0 0) (k_fieldAddr 0 0 (hu := Try.underlying28) (hf := rfl) (hi := ty22)) ?_
   refine oQ (.d (.lit (List.map e_i64 d0))) (k_load 0 0 (hu := Try.underlying22)) ?_
   refine bCall (caps := []) (v := (fun (r13 : Int) => (.d (.int .i64 r13) : V))) (H' := (fun (r13 : Int) => ([.box [.d (.lit (List.map e_i64 d0))]] : List Blk))) [] _ (distribution_sum_goes k d0) (ho := rfl) (hfn := Try.func59) (hb := rfl) (hconv := ConvRs.refl _ _) (hnd := by decide) (hBl := fun _ => (by kernel_rfl)) (hv := fun _ => (by kernel_rfl)) (hH' := fun _ => (by kernel_rfl)) (h := fun r13 => ?_)
   refine oP (.d (.int .i64 r13)) p_assign ?_
   refine oEnd ?_
   exact oRet (r0 := r13) (rv := .d (.int .i64 r13)) (B := []) (vs := [.d (.int .i64 r13)]) (σ := []) (hf := Try.func32) (hrs := rfl) (hres := .cons _ _ _ _ (.tmp 2 _ (by kernel_rfl)) .nil) (hnd := by decide)

/-- awardingbody/distribution.Below -/
def distribution_Below (k : Nat) (d0 : (List Int)) (score : Int) : Option (Int) := Option.bind (distribution_Valid k d0) (fun r121 => bif (!r121) then some 0 else gcut 0 (gmin (gmax score 0) ((List.length d0) : Int)) ((List.length d0) : Int) (Option.bind (distribution_sum k (List.take (Int.toNat (gmin (gmax score 0) ((List.length d0) : Int))) d0)) (fun r13 => some r13)))
def distribution_Below_E (d0 : (List Int)) (score : Int) : Int → V × List Blk := fun r11 => (.d (.int .i64 r11), [])
theorem distribution_Below_goes (k : Nat) (d0 : (List Int)) (score : Int) : RunsO Try.prog 33 [.agg [.d (.lit (List.map e_i64 d0))], .d (.int .i64 score)] [] (distribution_Below_E d0 score) (distribution_Below k d0 score) := by
  refine RunsO.of_goes (N := 18) (m := 0) (T := [(0, .agg [.d (.lit (List.map e_i64 d0))]), (1, .d (.int .i64 score))]) Try.func33 rfl rfl (h := ?_)
  unfold distribution_Below
  refine bStart ?_
  refine oSR rfl ?_
  refine oD (.ptr 0 0) (k_box (H' := [.box [.d (.lit (List.map e_i64 d0))]]) (cells := [.d (.lit (List.map e_i64 d0))])) ?_
  refine oP (.d (.int .i64 0)) p_assign ?_
  refine oEnd ?_
  refine oSeq ?_
  refine oSR rfl ?_
  refine oQ (.agg [.d (.lit (List.map e_i64 d0))]) (k_loadAgg 0 0 (hu := Try.underlying28) (hi := ty28)) ?_
  refine bCall (caps := []) (v := (fun (r121 : Bool) => (.d (.bool r121) : V))) (H' := (fun (r121 : Bool) => ([.box [.d (.lit (List.map e_i64 d0))]] : List Blk))) [] _ (distribution_Valid_goes k d0) (ho := rfl) (hfn := Try.func30) (hb := rfl) (hconv := ConvRs.refl _ _) (hnd := by decide) (hBl := fun _ => (by kernel_rfl)) (hv := fun _ => (by kernel_rfl)) (hH' := fun _ => (by kernel_rfl)) (h := fun r121 => ?_)
  refine oP (.d (.bool (!r121))) (p_not (p := r121)) ?_
  refine oEnd ?_
  refine bSplit 7 (h1 := fun hc => ?_) (h2 := fun hc => ?_)
  ·refine oCondT (h := ?_)
   refine oSR rfl ?_
   refine oP (.d (.int .i64 0)) p_assign ?_
   refine oEnd ?_
   exact oRet (r0 := 0) (rv := .d (.int .i64 0)) (B := []) (vs := [.d (.int .i64 0)]) (σ := []) (hf := Try.func33) (hrs := rfl) (hres := .cons _ _ _ _ (.tmp 4 _ (by kernel_rfl)) .nil) (hnd := by decide)
  ·refine oCondF (h := ?_)
   refine oSkip ?_
   refine oSR rfl ?_
   refine oP (.ptr 0 0) (k_fieldAddr 0 0 (hu := Try.underlying28) (hf := rfl) (hi := ty22)) ?_
   refine oQ (.d (.lit (List.map e_i64 d0))) (k_load 0 0 (hu := Try.underlying22)) ?_
   refine oP (.d (.int .i64 score)) p_move ?_
   refine oP (.d (.int .i64 (gmax score 0))) (p_max2 (k := .i64) (p := score) (q := 0)) ?_
   refine oP (.ptr 0 0) (k_fieldAddr 0 0 (hu := Try.underlying28) (hf := rfl) (hi := ty22)) ?_
   refine oQ (.d (.lit (List.map e_i64 d0))) (k_load 0 0 (hu := Try.underlying22)) ?_
   refine oP (.d (.int .i64 ((List.length d0) : Int))) (k_lenLit (enc := e_i64) d0 (hu := Try.underlying22)) ?_
   refine oP (.d (.int .i64 (gmin (gmax score 0) ((List.length d0) : Int)))) (p_min2 (k := .i64) (p := (gmax score 0)) (q := ((List.length d0) : Int))) ?_
   refine bCut (fun h13 h14 h15 => ?_)
   refine oP (.d (.lit (List.map e_i64 (List.take (Int.toNat (gmin (gmax score 0) ((List.length d0) : Int))) d0)))) (k_cutH (k2 := .i64) (h := (gmin (gmax score 0) ((List.length d0) : Int))) e_i64_len d0 (hu := Try.underlying22) (hi := ty3) (h1 := h14) (h2 := h15)) ?_
   refine bCall (caps := []) (v := (fun (r13 : Int) => (.d (.int .i64 r13) : V))) (H' := (fun (r13 : Int) => ([.box [.d (.lit (List.map e_i64 d0))]] : List Blk))) [] _ (distribution_sum_goes k (List.take (Int.toNat (gmin (gmax score 0) ((List.length d0) : Int))) d0)) (ho := rfl) (hfn := Try.func59) (hb := rfl) (hconv := ConvRs.refl _ _) (hnd := by decide) (hBl := fun _ => (by kernel_rfl)) (hv := fun _ => (by kernel_rfl)) (hH' := fun _ => (by kernel_rfl)) (h := fun r13 => ?_)
   refine oP (.d (.int .i64 r13)) p_assign ?_
   refine oEnd ?_
   exact oRet (r0 := r13) (rv := .d (.int .i64 r13)) (B := []) (vs := [.d (.int .i64 r13)]) (σ := []) (hf := Try.func33) (hrs := rfl) (hres := .cons _ _ _ _ (.tmp 4 _ (by kernel_rfl)) .nil) (hnd := by decide)

/-- awardingbody/ratio.abs -/
def ratio_abs (k : Nat) (n : Int) : Option (Int) := bif (decide (n < 0)) then some (IntKind.wrap .u64 (IntKind.wrap .i64 (0 - n))) else some (IntKind.wrap .u64 n)
def ratio_abs_E (n : Int) : Int → V × List Blk := fun r1 => (.d (.int .u64 r1), [])
theorem ratio_abs_goes (k : Nat) (n : Int) : RunsO Try.prog 66 [.d (.int .i64 n)] [] (ratio_abs_E n) (ratio_abs k n) := by
  refine RunsO.of_goes (N := 10) (m := 0) (T := [(0, .d (.int .i64 n))]) Try.func66 rfl rfl (h := ?_)
  unfold ratio_abs
  refine bStart ?_
  refine oSR rfl ?_
  refine oP (.d (.int .u64 0)) p_assign ?_
  refine oEnd ?_
  refine oSeq ?_
  refine oSR rfl ?_
  refine oP (.d (.int .i64 n)) p_move ?_
  refine oP (.d (.bool (decide (n < 0)))) (p_int (k := .i64) (p := n) (q := 0)) ?_
  refine oEnd ?_
  refine bSplit 4 (h1 := fun hc => ?_) (h2 := fun hc => ?_)
  ·refine oCondT (h := ?_)
   refine oSR rfl ?_
   refine oP (.d (.int .i64 n)) p_move ?_
   refine oP (.d (.int .i64 (IntKind.wrap .i64 (0 - n)))) (p_neg (k := .i64) (p := n)) ?_
   refine oP (.d (.int .u64 (IntKind.wrap .u64 (IntKind.wrap .i64 (0 - n))))) (p_conv (k := .i64) (p := (IntKind.wrap .i64 (0 - n))) (hu1 := Try.underlying3) (hu2 := Try.underlying62)) ?_
   refine oP (.d (.int .u64 (IntKind.wrap .u64 (IntKind.wrap .i64 (0 - n))))) p_assign ?_
   refine oEnd ?_
   exact oRet (r0 := (IntKind.wrap .u64 (IntKind.wrap .i64 (0 - n)))) (rv := .d (.int .u64 (IntKind.wrap .u64 (IntKind.wrap .i64 (0 - n))))) (B := []) (vs := [.d (.int .u64 (IntKind.wrap .u64 (IntKind.wrap .i64 (0 - n))))]) (σ := []) (hf := Try.func66) (hrs := rfl) (hres := .cons _ _ _ _ (.tmp 2 _ (by kernel_rfl)) .nil) (hnd := by decide)
  ·refine oCondF (h := ?_)
   refine oSkip ?_
   refine oSR rfl ?_
   refine oP (.d (.int .i64 n)) p_move ?_
   refine oP (.d (.int .u64 (IntKind.wrap .u64 n))) (p_conv (k := .i64) (p := n) (hu1 := Try.underlying3) (hu2 := Try.underlying62)) ?_
   refine oP (.d (.int .u64 (IntKind.wrap .u64 n))) p_assign ?_
   refine oEnd ?_
   exact oRet (r0 := (IntKind.wrap .u64 n)) (rv := .d (.int .u64 (IntKind.wrap .u64 n))) (B := []) (vs := [.d (.int .u64 (IntKind.wrap .u64 n))]) (σ := []) (hf := Try.func66) (hrs := rfl) (hres := .cons _ _ _ _ (.tmp 2 _ (by kernel_rfl)) .nil) (hnd := by decide)

/-- math/bits.Len64 -/
def math_bits_Len64 (k : Nat) (x : Int) : Option (Int) := Option.bind (bif (decide (x ≥ 4294967296)) then some ((Int.fdiv x (2 ^ (min (Int.toNat 32) (IntKind.bits .u64)))), 32) else some (x, 0) : Option (Int × Int)) (uc fun x4 => fun n3 => Option.bind (bif (decide (x4 ≥ 65536)) then some ((Int.fdiv x4 (2 ^ (min (Int.toNat 16) (IntKind.bits .u64)))), (IntKind.wrap .i64 (n3 + 16))) else some (x4, n3) : Option (Int × Int)) (uc fun x5 => fun n4 => Option.bind (bif (decide (x5 ≥ 256)) then some ((Int.fdiv x5 (2 ^ (min (Int.toNat 8) (IntKind.bits .u64)))), (IntKind.wrap .i64 (n4 + 8))) else some (x5, n4) : Option (Int × Int)) (uc fun x6 => fun n5 => gidx tab0 (IntKind.wrap .u8 x6) fun e11 => some (IntKind.wrap .i64 (n5 + (IntKind.wrap .i64 e11))))))
def math_bits_Len64_E (x : Int) : Int → V × List Blk := fun r1 => (.d (.int .i64 r1), [])
theorem math_bits_Len64_goes (k : Nat) (x : Int) : RunsO Try.prog 111 [.d (.int .u64 x)] [] (math_bits_Len64_E x) (math_bits_Len64 k x) := by
  refine RunsO.of_goes (N := 25) (m := 0) (T := [(0, .d (.int .u64 x))]) Try.func111 rfl rfl (h := ?_)
  unfold math_bits_Len64
  refine bStart ?_
  refine oSR rfl ?_
  refine oP (.d (.int .i64 0)) p_assign ?_
  refine oEnd ?_
  refine oSeq ?_
  refine oSR rfl ?_
  refine oP (.d (.int .u64 x)) p_move ?_
  refine oP (.d (.bool (decide (x ≥ 4294967296)))) (p_int (k := .u64) (p := x) (q := 4294967296)) ?_
  refine oEnd ?_
  refine bJoin ((uc fun (x4 : Int) => (fun (n3 : Int) => [(0, .d (.int .u64 x4)), (2, .d (.int .i64 n3))]))) ((uc fun (x4 : Int) => (fun (n3 : Int) => []))) (fun s => s) (fun s => ?_) (fun hj4 => ?_)
  ·obtain ⟨x4, n3⟩ := s
   refine bUc ?_
   refine oView (T' := [(0, .d (.int .u64 x4)), (2, .d (.int .i64 n3))]) (H' := []) (h := ?_)
   refine oSeq ?_
   refine oSR rfl ?_
   refine oP (.d (.int .u64 x4)) p_move ?_
   refine oP (.d (.bool (decide (x4 ≥ 65536)))) (p_int (k := .u64) (p := x4) (q := 65536)) ?_
   refine oEnd ?_
   refine bJoin ((uc fun (x5 : Int) => (fun (n4 : Int) => [(0, .d (.int .u64 x5)), (2, .d (.int .i64 n4))]))) ((uc fun (x5 : Int) => (fun (n4 : Int) => []))) (fun s => s) (fun s => ?_) (fun hj5 => ?_)
   ·obtain ⟨x5, n4⟩ := s
    refine bUc ?_
    refine oView (T' := [(0, .d (.int .u64 x5)), (2, .d (.int .i64 n4))]) (H' := []) (h := ?_)
    refine oSeq ?_
    refine oSR rfl ?_
    refine oP (.d (.int .u64 x5)) p_move ?_
    refine oP (.d (.bool (decide (x5 ≥ 256)))) (p_int (k := .u64) (p := x5) (q := 256)) ?_
    refine oEnd ?_
    refine bJoin ((uc fun (x6 : Int) => (fun (n5 : Int) => [(0, .d (.int .u64 x6)), (2, .d (.int .i64 n5))]))) ((uc fun (x6 : Int) => (fun (n5 : Int) => []))) (fun s => s) (fun s => ?_) (fun hj6 => ?_)
    ·obtain ⟨x6, n5⟩ := s
     refine bUc ?_
     refine oView (T' := [(0, .d (.int .u64 x6)), (2, .d (.int .i64 n5))]) (H' := []) (h := ?_)
     refine oSR rfl ?_
     refine oP (.d (.int .i64 n5)) p_move ?_
     refine oP (.d (.int .u64 x6)) p_move ?_
     refine oP (.d (.int .u8 (IntKind.wrap .u8 x6))) (p_conv (k := .u64) (p := x6) (hu1 := Try.underlying62) (hu2 := Try.underlying5)) ?_
     refine bIdx (fun e11 h12 h13 => ?_)
     refine oP (.d (.int .u8 e11)) (k_idxStr (xs := tab0) (k := .u8) (i := (IntKind.wrap .u8 x6)) (hu := Try.underlying9) (h0 := h12) (he := h13)) ?_
     refine oP (.d (.int .i64 (IntKind.wrap .i64 e11))) (p_conv (k := .u8) (p := e11) (hu1 := Try.underlying5) (hu2 := Try.underlying3)) ?_
     refine oP (.d (.int .i64 (IntKind.wrap .i64 (n5 + (IntKind.wrap .i64 e11))))) (p_int (k := .i64) (p := n5) (q := (IntKind.wrap .i64 e11))) ?_
     refine oP (.d (.int .i64 (IntKind.wrap .i64 (n5 + (IntKind.wrap .i64 e11))))) p_assign ?_
     refine oEnd ?_
     exact oRet (r0 := (IntKind.wrap .i64 (n5 + (IntKind.wrap .i64 e11)))) (rv := .d (.int .i64 (IntKind.wrap .i64 (n5 + (IntKind.wrap .i64 e11))))) (B := []) (vs := [.d (.int .i64 (IntKind.wrap .i64 (n5 + (IntKind.wrap .i64 e11))))]) (σ := []) (hf := Try.func111) (hrs := rfl) (hres := .cons _ _ _ _ (.tmp 2 _ (by kernel_rfl)) .nil) (hnd := by decide)
    ·refine bSplit 14 (h1 := fun hc => ?_) (h2 := fun hc => ?_)
     ·refine oCondT (h := ?_)
      refine oSR rfl ?_
      refine oP (.d (.int .u64 x5)) p_move ?_
      refine oP (.d (.int .u64 (Int.fdiv x5 (2 ^ (min (Int.toNat 8) (IntKind.bits .u64)))))) (p_shr (k := .u64) (k2 := .u64) (p := x5) (q := 8) (hq := by decide)) ?_
      refine oP (.d (.int .u64 (Int.fdiv x5 (2 ^ (min (Int.toNat 8) (IntKind.bits .u64)))))) p_assign ?_
      refine oEnd ?_
      refine oRegion rfl ?_
      refine oP (.d (.int .i64 n4)) p_move ?_
      refine oP (.d (.int .i64 (IntKind.wrap .i64 (n4 + 8)))) (p_int (k := .i64) (p := n4) (q := 8)) ?_
      refine oP (.d (.int .i64 (IntKind.wrap .i64 (n4 + 8)))) p_assign ?_
      refine oEnd ?_
      refine oHead [0, 2] [] (T' := [(0, .d (.int .u64 (Int.fdiv x5 (2 ^ (min (Int.toNat 8) (IntKind.bits .u64)))))), (2, .d (.int .i64 (IntKind.wrap .i64 (n4 + 8))))]) (H' := []) (hnd := by decide) (h := ?_)
      exact hj6 ((Int.fdiv x5 (2 ^ (min (Int.toNat 8) (IntKind.bits .u64)))), (IntKind.wrap .i64 (n4 + 8)))
     ·refine oCondF (h := ?_)
      refine oSkip ?_
      refine oHead [0, 2] [] (T' := [(0, .d (.int .u64 x5)), (2, .d (.int .i64 n4))]) (H' := []) (hnd := by decide) (h := ?_)
      exact hj6 (x5, n4)
   ·refine bSplit 8 (h1 := fun hc => ?_) (h2 := fun hc => ?_)
    ·refine oCondT (h := ?_)
     refine oSR rfl ?_
     refine oP (.d (.int .u64 x4)) p_move ?_
     refine oP (.d (.int .u64 (Int.fdiv x4 (2 ^ (min (Int.toNat 16) (IntKind.bits .u64)))))) (p_shr (k := .u64) (k2 := .u64) (p := x4) (q := 16) (hq := by decide)) ?_
     refine oP (.d (.int .u64 (Int.fdiv x4 (2 ^ (min (Int.toNat 16) (IntKind.bits .u64)))))) p_assign ?_
     refine oEnd ?_
     refine oRegion rfl ?_
     refine oP (.d (.int .i64 n3)) p_move ?_
     refine oP (.d (.int .i64 (IntKind.wrap .i64 (n3 + 16)))) (p_int (k := .i64) (p := n3) (q := 16)) ?_
     refine oP (.d (.int .i64 (IntKind.wrap .i64 (n3 + 16)))) p_assign ?_
     refine oEnd ?_
     refine oHead [0, 2] [] (T' := [(0, .d (.int .u64 (Int.fdiv x4 (2 ^ (min (Int.toNat 16) (IntKind.bits .u64)))))), (2, .d (.int .i64 (IntKind.wrap .i64 (n3 + 16))))]) (H' := []) (hnd := by decide) (h := ?_)
     exact hj5 ((Int.fdiv x4 (2 ^ (min (Int.toNat 16) (IntKind.bits .u64)))), (IntKind.wrap .i64 (n3 + 16)))
    ·refine oCondF (h := ?_)
     refine oSkip ?_
     refine oHead [0, 2] [] (T' := [(0, .d (.int .u64 x4)), (2, .d (.int .i64 n3))]) (H' := []) (hnd := by decide) (h := ?_)
     exact hj5 (x4, n3)
  ·refine bSplit 4 (h1 := fun hc => ?_) (h2 := fun hc => ?_)
   ·refine oCondT (h := ?_)
    refine oSR rfl ?_
    refine oP (.d (.int .u64 x)) p_move ?_
    refine oP (.d (.int .u64 (Int.fdiv x (2 ^ (min (Int.toNat 32) (IntKind.bits .u64)))))) (p_shr (k := .u64) (k2 := .u64) (p := x) (q := 32) (hq := by decide)) ?_
    refine oP (.d (.int .u64 (Int.fdiv x (2 ^ (min (Int.toNat 32) (IntKind.bits .u64)))))) p_assign ?_
    refine oEnd ?_
    refine oRegion rfl ?_
    refine oP (.d (.int .i64 32)) p_assign ?_
    refine oEnd ?_
    refine oHead [0, 2] [] (T' := [(0, .d (.int .u64 (Int.fdiv x (2 ^ (min (Int.toNat 32) (IntKind.bits .u64)))))), (2, .d (.int .i64 32))]) (H' := []) (hnd := by decide) (h := ?_)
    exact hj4 ((Int.fdiv x (2 ^ (min (Int.toNat 32) (IntKind.bits .u64)))), 32)
   ·refine oCondF (h := ?_)
    refine oSkip ?_
    refine oHead [0, 2] [] (T' := [(0, .d (.int .u64 x)), (2, .d (.int .i64 0))]) (H' := []) (hnd := by decide) (h := ?_)
    exact hj4 (x, 0)

/-- math/bits.LeadingZeros64 -/
def math_bits_LeadingZeros64 (k : Nat) (x : Int) : Option (Int) := Option.bind (math_bits_Len64 k x) (fun r12 => some (IntKind.wrap .i64 (64 - r12)))
def math_bits_LeadingZeros64_E (x : Int) : Int → V × List Blk := fun r11 => (.d (.int .i64 r11), [])
theorem math_bits_LeadingZeros64_goes (k : Nat) (x : Int) : RunsO Try.prog 112 [.d (.int .u64 x)] [] (math_bits_LeadingZeros64_E x) (math_bits_LeadingZeros64 k x) := by
  refine RunsO.of_goes (N := 6) (m := 0) (T := [(0, .d (.int .u64 x))]) Try.func112 rfl rfl (h := ?_)
  unfold math_bits_LeadingZeros64
  refine bStart ?_
  refine oSR rfl ?_
  refine oP (.d (.int .i64 0)) p_assign ?_
  refine oEnd ?_
  refine oSR rfl ?_
  refine oP (.d (.int .u64 x)) p_move ?_
  refine bCall (caps := []) (v := (fun (r12 : Int) => (.d (.int .i64 r12) : V))) (H' := (fun (r12 : Int) => ([] : List Blk))) [] _ (math_bits_Len64_goes k x) (ho := rfl) (hfn := Try.func111) (hb := rfl) (hconv := ConvRs.refl _ _) (hnd := by decide) (hBl := fun _ => (by kernel_rfl)) (hv := fun _ => (by kernel_rfl)) (hH' := fun _ => (by kernel_rfl)) (h := fun r12 => ?_)
  refine oP (.d (.int .i64 (IntKind.wrap .i64 (64 - r12)))) (p_int (k := .i64) (p := 64) (q := r12)) ?_
  refine oP (.d (.int .i64 (IntKind.wrap .i64 (64 - r12)))) p_assign ?_
  refine oEnd ?_
  exact oRet (r0 := (IntKind.wrap .i64 (64 - r12))) (rv := .d (.int .i64 (IntKind.wrap .i64 (64 - r12)))) (B := []) (vs := [.d (.int .i64 (IntKind.wrap .i64 (64 - r12)))]) (σ := []) (hf := Try.func112) (hrs := rfl) (hres := .cons _ _ _ _ (.tmp 2 _ (by kernel_rfl)) .nil) (hnd := by decide)

/-- math/bits.Div64 -/
def math_bits_Div64_b1 (k : Nat) (yn15 : Int) (yn05 : Int) (un05 : Int) (again : Int × Int × Int → Option (Int × Int)) : Int × Int × Int → Option (Int × Int) := uc fun rhat8 => uc fun un216 => fun q06 => Option.bind (bif (decide (q06 ≥ 4294967296)) then some true else some (decide ((IntKind.wrap .u64 (q06 * yn05)) > (IntKind.wrap .u64 ((IntKind.wrap .u64 (4294967296 * rhat8)) + un05)))) : Option (Bool)) (fun x5 => bif x5 then bif (decide ((IntKind.wrap .u64 (rhat8 + yn15)) ≥ 4294967296)) then some (un216, (IntKind.wrap .u64 (q06 - 1))) else again ((IntKind.wrap .u64 (rhat8 + yn15)), un216, (IntKind.wrap .u64 (q06 - 1))) else some (un216, q06))
def math_bits_Div64_b2 (k : Nat) (again : Int × Int × Int × Int × Int × Int × Int × Int × Int → Option (Int × Int × Int × Int × Int × Int × Int × Int)) : Int × Int × Int × Int × Int × Int × Int × Int × Int → Option (Int × Int × Int × Int × Int × Int × Int × Int) := uc fun y7 => uc fun s16 => uc fun yn16 => uc fun yn06 => uc fun un326 => uc fun un16 => uc fun un06 => uc fun q16 => fun rhat10 => Option.bind (bif (decide (q16 ≥ 4294967296)) then some true else some (decide ((IntKind.wrap .u64 (q16 * yn06)) > (IntKind.wrap .u64 ((IntKind.wrap .u64 (4294967296 * rhat10)) + un16)))) : Option (Bool)) (fun x7 => bif x7 then bif (decide ((IntKind.wrap .u64 (rhat10 + yn16)) ≥ 4294967296)) then some (y7, s16, yn16, yn06, un326, un16, un06, (IntKind.wrap .u64 (q16 - 1))) else again (y7, s16, yn16, yn06, un326, un16, un06, (IntKind.wrap .u64 (q16 - 1)), (IntKind.wrap .u64 (rhat10 + yn16))) else some (y7, s16, yn16, yn06, un326, un16, un06, q16))
def math_bits_Div64 (k : Nat) (hi : Int) (lo : Int) (y : Int) : Option (Int × Int) := bif (y == 0) then none else bif (decide (y ≤ hi)) then none else bif (hi == 0) then gnz y (gnz y (some ((IntKind.wrap .u64 (Int.tdiv lo y)), (Int.tmod lo y)))) else Option.bind (math_bits_LeadingZeros64 k y) (fun r111 => gnn (IntKind.wrap .u64 r111) (gnn (IntKind.wrap .u64 r111) (gnn (IntKind.wrap .u64 (64 - (IntKind.wrap .u64 r111))) (gnn (IntKind.wrap .u64 r111) (gnz (Int.fdiv (IntKind.wrap .u64 (y * 2 ^ (min (Int.toNat (IntKind.wrap .u64 r111)) (IntKind.bits .u64)))) (2 ^ (min (Int.toNat 32) (IntKind.bits .u64)))) (Option.bind (gloop (math_bits_Div64_b2 k) k ((IntKind.wrap .u64 (y * 2 ^ (min (Int.toNat (IntKind.wrap .u64 r111)) (IntKind.bits .u64)))), (IntKind.wrap .u64 r111), (Int.fdiv (IntKind.wrap .u64 (y * 2 ^ (min (Int.toNat (IntKind.wrap .u64 r111)) (IntKind.bits .u64)))) (2 ^ (min (Int.toNat 32) (IntKind.bits .u64)))), (iand .u64 (IntKind.wrap .u64 (y * 2 ^ (min (Int.toNat (IntKind.wrap .u64 r111)) (IntKind.bits .u64)))) 4294967295), (ior .u64 (IntKind.wrap .u64 (hi * 2 ^ (min (Int.toNat (IntKind.wrap .u64 r111)) (IntKind.bits .u64)))) (Int.fdiv lo (2 ^ (min (Int.toNat (IntKind.wrap .u64 (64 - (IntKind.wrap .u64 r111)))) (IntKind.bits .u64))))), (Int.fdiv (IntKind.wrap .u64 (lo * 2 ^ (min (Int.toNat (IntKind.wrap .u64 r111)) (IntKind.bits .u64)))) (2 ^ (min (Int.toNat 32) (IntKind.bits .u64)))), (iand .u64 (IntKind.wrap .u64 (lo * 2 ^ (min (Int.toNat (IntKind.wrap .u64 r111)) (IntKind.bits .u64)))) 4294967295), (IntKind.wrap .u64 (Int.tdiv (ior .u64 (IntKind.wrap .u64 (hi * 2 ^ (min (Int.toNat (IntKind.wrap .u64 r111)) (IntKind.bits .u64)))) (Int.fdiv lo (2 ^ (min (Int.toNat (IntKind.wrap .u64 (64 - (IntKind.wrap .u64 r111)))) (IntKind.bits .u64))))) (Int.fdiv (IntKind.wrap .u64 (y * 2 ^ (min (Int.toNat (IntKind.wrap .u64 r111)) (IntKind.bits .u64)))) (2 ^ (min (Int.toNat 32) (IntKind.bits .u64)))))), (IntKind.wrap .u64 ((ior .u64 (IntKind.wrap .u64 (hi * 2 ^ (min (Int.toNat (IntKind.wrap .u64 r111)) (IntKind.bits .u64)))) (Int.fdiv lo (2 ^ (min (Int.toNat (IntKind.wrap .u64 (64 - (IntKind.wrap .u64 r111)))) (IntKind.bits .u64))))) - (IntKind.wrap .u64 ((IntKind.wrap .u64 (Int.tdiv (ior .u64 (IntKind.wrap .u64 (hi * 2 ^ (min (Int.toNat (IntKind.wrap .u64 r111)) (IntKind.bits .u64)))) (Int.fdiv lo (2 ^ (min (Int.toNat (IntKind.wrap .u64 (64 - (IntKind.wrap .u64 r111)))) (IntKind.bits .u64))))) (Int.fdiv (IntKind.wrap .u64 (y * 2 ^ (min (Int.toNat (IntKind.wrap .u64 r111)) (IntKind.bits .u64)))) (2 ^ (min (Int.toNat 32) (IntKind.bits .u64)))))) * (Int.fdiv (IntKind.wrap .u64 (y * 2 ^ (min (Int.toNat (IntKind.wrap .u64 r111)) (IntKind.bits .u64)))) (2 ^ (min (Int.toNat 32) (IntKind.bits .u64))))))))) : Option (Int × Int × Int × Int × Int × Int × Int × Int)) (uc fun y6 => uc fun s15 => uc fun yn15 => uc fun yn05 => uc fun un325 => uc fun un15 => uc fun un05 => fun q15 => gnz yn15 (Option.bind (gloop (math_bits_Div64_b1 k yn15 yn05 un05) k ((IntKind.wrap .u64 ((IntKind.wrap .u64 ((IntKind.wrap .u64 ((IntKind.wrap .u64 (un325 * 4294967296)) + un15)) - (IntKind.wrap .u64 (q15 * y6)))) - (IntKind.wrap .u64 ((IntKind.wrap .u64 (Int.tdiv (IntKind.wrap .u64 ((IntKind.wrap .u64 ((IntKind.wrap .u64 (un325 * 4294967296)) + un15)) - (IntKind.wrap .u64 (q15 * y6)))) yn15)) * yn15)))), (IntKind.wrap .u64 ((IntKind.wrap .u64 ((IntKind.wrap .u64 (un325 * 4294967296)) + un15)) - (IntKind.wrap .u64 (q15 * y6)))), (IntKind.wrap .u64 (Int.tdiv (IntKind.wrap .u64 ((IntKind.wrap .u64 ((IntKind.wrap .u64 (un325 * 4294967296)) + un15)) - (IntKind.wrap .u64 (q15 * y6)))) yn15))) : Option (Int × Int)) (uc fun un215 => fun q05 => gnn s15 (some ((IntKind.wrap .u64 ((IntKind.wrap .u64 (q15 * 4294967296)) + q05)), (Int.fdiv (IntKind.wrap .u64 ((IntKind.wrap .u64 ((IntKind.wrap .u64 (un215 * 4294967296)) + un05)) - (IntKind.wrap .u64 (q05 * y6)))) (2 ^ (min (Int.toNat s15) (IntKind.bits .u64)))))))))))))))
def math_bits_Div64_E (hi : Int) (lo : Int) (y : Int) : Int × Int → V × List Blk := uc fun r1 => fun r12 => (.tuple [.d (.int .u64 r1), .d (.int .u64 r12)], [])
theorem math_bits_Div64_goes (k : Nat) (hi : Int) (lo : Int) (y : Int) : RunsO Try.prog 101 [.d (.int .u64 hi), .d (.int .u64 lo), .d (.int .u64 y)] [] (math_bits_Div64_E hi lo y) (math_bits_Div64 k hi lo y) := by
  refine RunsO.of_goes (N := 135) (m := 0) (T := [(0, .d (.int .u64 hi)), (1, .d (.int .u64 lo)), (2, .d (.int .u64 y))]) Try.func101 rfl rfl (h := ?_)
  unfold math_bits_Div64
  refine bStart ?_
  refine oSR rfl ?_
  refine oP (.d (.int .u64 0)) p_assign ?_
  refine oP (.d (.int .u64 0)) p_assign ?_
  refine oEnd ?_
  refine oSeq ?_
  refine oSR rfl ?_
  refine oP (.d (.int .u64 y)) p_move ?_
  refine oP (.d (.bool (y == 0))) (p_int (k := .u64) (p := y) (q := 0)) ?_
  refine oEnd ?_
  refine bSplit 20 (h1 := fun hc => ?_) (h2 := fun hc => ?_)
  ·refine oCondT (h := ?_)
   exact bNone
  ·refine oCondF (h := ?_)
   refine oSkip ?_
   refine oSeq ?_
   refine oSR rfl ?_
   refine oP (.d (.int .u64 y)) p_move ?_
   refine oP (.d (.int .u64 hi)) p_move ?_
   refine oP (.d (.bool (decide (y ≤ hi)))) (p_int (k := .u64) (p := y) (q := hi)) ?_
   refine oEnd ?_
   refine bSplit 24 (h1 := fun hc => ?_) (h2 := fun hc => ?_)
   ·refine oCondT (h := ?_)
    exact bNone
   ·refine oCondF (h := ?_)
    refine oSkip ?_
    refine oSeq ?_
    refine oSR rfl ?_
    refine oP (.d (.int .u64 hi)) p_move ?_
    refine oP (.d (.bool (hi == 0))) (p_int (k := .u64) (p := hi) (q := 0)) ?_
    refine oEnd ?_
    refine bSplit 27 (h1 := fun hc => ?_) (h2 := fun hc => ?_)
    ·refine oCondT (h := ?_)
     refine oSeq ?_
     refine oDraw [] rfl ?_
     refine aP 0 (.d (.int .u64 lo)) rfl p_move ?_
     refine aP 1 (.d (.int .u64 y)) rfl p_move ?_
     refine dNz (fun h1 => ?_)
     refine aTakeP (i := 2) (.d (.int .u64 (IntKind.wrap .u64 (Int.tdiv lo y)))) rfl (hp := p_quo (k := .u64) (p := lo) (q := y) (hq := h1)) (h := ?_)
     refine aP 3 (.d (.int .u64 lo)) rfl p_move ?_
     refine aP 4 (.d (.int .u64 y)) rfl p_move ?_
     refine dNz (fun h12 => ?_)
     refine aTakeP (i := 5) (.d (.int .u64 (Int.tmod lo y))) rfl (hp := p_rem (k := .u64) (p := lo) (q := y) (hq := h12)) (h := ?_)
     refine aP 6 (.d (.int .u64 (IntKind.wrap .u64 (Int.tdiv lo y)))) rfl p_assign ?_
     refine aP 7 (.d (.int .u64 (Int.tmod lo y))) rfl p_assign ?_
     refine aDone (h := ?_)
     exact oRet (r0 := ((IntKind.wrap .u64 (Int.tdiv lo y)), (Int.tmod lo y))) (rv := .tuple [.d (.int .u64 (IntKind.wrap .u64 (Int.tdiv lo y))), .d (.int .u64 (Int.tmod lo y))]) (B := []) (vs := [.d (.int .u64 (IntKind.wrap .u64 (Int.tdiv lo y))), .d (.int .u64 (Int.tmod lo y))]) (σ := []) (hf := Try.func101) (hrs := rfl) (hres := .cons _ _ _ _ (.tmp 6 _ (by kernel_rfl)) (.cons _ _ _ _ (.tmp 7 _ (by kernel_rfl)) .nil)) (hnd := by decide)
    ·refine oCondF (h := ?_)
     refine oSkip ?_
     refine oSR rfl ?_
     refine oP (.d (.int .u64 y)) p_move ?_
     refine bCall (caps := []) (v := (fun (r111 : Int) => (.d (.int .i64 r111) : V))) (H' := (fun (r111 : Int) => ([] : List Blk))) [] _ (math_bits_LeadingZeros64_goes k y) (ho := rfl) (hfn := Try.func112) (hb := rfl) (hconv := ConvRs.refl _ _) (hnd := by decide) (hBl := fun _ => (by kernel_rfl)) (hv := fun _ => (by kernel_rfl)) (hH' := fun _ => (by kernel_rfl)) (h := fun r111 => ?_)
     refine oP (.d (.int .u64 (IntKind.wrap .u64 r111))) (p_conv (k := .i64) (p := r111) (hu1 := Try.underlying3) (hu2 := Try.underlying107)) ?_
     refine oP (.d (.int .u64 (IntKind.wrap .u64 r111))) p_assign ?_
     refine oEnd ?_
     refine oSR rfl ?_
     refine oP (.d (.int .u64 y)) p_move ?_
     refine oP (.d (.int .u64 (IntKind.wrap .u64 r111))) p_move ?_
     refine bNn (fun h125 => ?_)
     refine oP (.d (.int .u64 (IntKind.wrap .u64 (y * 2 ^ (min (Int.toNat (IntKind.wrap .u64 r111)) (IntKind.bits .u64)))))) (p_shl (k := .u64) (k2 := .u64) (p := y) (q := (IntKind.wrap .u64 r111)) (hq := h125)) ?_
     refine oP (.d (.int .u64 (IntKind.wrap .u64 (y * 2 ^ (min (Int.toNat (IntKind.wrap .u64 r111)) (IntKind.bits .u64)))))) p_assign ?_
     refine oEnd ?_
     refine oSR rfl ?_
     refine oP (.d (.int .u64 (IntKind.wrap .u64 (y * 2 ^ (min (Int.toNat (IntKind.wrap .u64 r111)) (IntKind.bits .u64)))))) p_move ?_
     refine oP (.d (.int .u64 (Int.fdiv (IntKind.wrap .u64 (y * 2 ^ (min (Int.toNat (IntKind.wrap .u64 r111)) (IntKind.bits .u64)))) (2 ^ (min (Int.toNat 32) (IntKind.bits .u64)))))) (p_shr (k := .u64) (k2 := .u64) (p := (IntKind.wrap .u64 (y * 2 ^ (min (Int.toNat (IntKind.wrap .u64 r111)) (IntKind.bits .u64))))) (q := 32) (hq := by decide)) ?_
     refine oP (.d (.int .u64 (Int.fdiv (IntKind.wrap .u64 (y * 2 ^ (min (Int.toNat (IntKind.wrap .u64 r111)) (IntKind.bits .u64)))) (2 ^ (min (Int.toNat 32) (IntKind.bits .u64)))))) p_assign ?_
     refine oEnd ?_
     refine oSR rfl ?_
     refine oP (.d (.int .u64 (IntKind.wrap .u64 (y * 2 ^ (min (Int.toNat (IntKind.wrap .u64 r111)) (IntKind.bits .u64)))))) p_move ?_
     refine oP (.d (.int .u64 (iand .u64 (IntKind.wrap .u64 (y * 2 ^ (min (Int.toNat (IntKind.wrap .u64 r111)) (IntKind.bits .u64)))) 4294967295))) (p_int (k := .u64) (p := (IntKind.wrap .u64 (y * 2 ^ (min (Int.toNat (IntKind.wrap .u64 r111)) (IntKind.bits .u64))))) (q := 4294967295)) ?_
     refine oP (.d (.int .u64 (iand .u64 (IntKind.wrap .u64 (y * 2 ^ (min (Int.toNat (IntKind.wrap .u64 r111)) (IntKind.bits .u64)))) 4294967295))) p_assign ?_
     refine oEnd ?_
     refine oSR rfl ?_
     refine oP (.d (.int .u64 hi)) p_move ?_
     refine oP (.d (.int .u64 (IntKind.wrap .u64 r111))) p_move ?_
     refine bNn (fun h126 => ?_)
     refine oP (.d (.int .u64 (IntKind.wrap .u64 (hi * 2 ^ (min (Int.toNat (IntKind.wrap .u64 r111)) (IntKind.bits .u64)))))) (p_shl (k := .u64) (k2 := .u64) (p := hi) (q := (IntKind.wrap .u64 r111)) (hq := h126)) ?_
     refine oP (.d (.int .u64 lo)) p_move ?_
     refine oP (.d (.int .u64 (IntKind.wrap .u64 r111))) p_move ?_
     refine oP (.d (.int .u64 (IntKind.wrap .u64 (64 - (IntKind.wrap .u64 r111))))) (p_int (k := .u64) (p := 64) (q := (IntKind.wrap .u64 r111))) ?_
     refine bNn (fun h127 => ?_)
     refine oP (.d (.int .u64 (Int.fdiv lo (2 ^ (min (Int.toNat (IntKind.wrap .u64 (64 - (IntKind.wrap .u64 r111)))) (IntKind.bits .u64)))))) (p_shr (k := .u64) (k2 := .u64) (p := lo) (q := (IntKind.wrap .u64 (64 - (IntKind.wrap .u64 r111)))) (hq := h127)) ?_
     refine oP (.d (.int .u64 (ior .u64 (IntKind.wrap .u64 (hi * 2 ^ (min (Int.toNat (IntKind.wrap .u64 r111)) (IntKind.bits .u64)))) (Int.fdiv lo (2 ^ (min (Int.toNat (IntKind.wrap .u64 (64 - (IntKind.wrap .u64 r111)))) (IntKind.bits .u64))))))) (p_int (k := .u64) (p := (IntKind.wrap .u64 (hi * 2 ^ (min (Int.toNat (IntKind.wrap .u64 r111)) (IntKind.bits .u64))))) (q := (Int.fdiv lo (2 ^ (min (Int.toNat (IntKind.wrap .u64 (64 - (IntKind.wrap .u64 r111)))) (IntKind.bits .u64)))))) ?_
     refine oP (.d (.int .u64 (ior .u64 (IntKind.wrap .u64 (hi * 2 ^ (min (Int.toNat (IntKind.wrap .u64 r111)) (IntKind.bits .u64)))) (Int.fdiv lo (2 ^ (min (Int.toNat (IntKind.wrap .u64 (64 - (IntKind.wrap .u64 r111)))) (IntKind.bits .u64))))))) p_assign ?_
     refine oEnd ?_
     refine oSR rfl ?_
     refine oP (.d (.int .u64 lo)) p_move ?_
     refine oP (.d (.int .u64 (IntKind.wrap .u64 r111))) p_move ?_
     refine bNn (fun h128 => ?_)
     refine oP (.d (.int .u64 (IntKind.wrap .u64 (lo * 2 ^ (min (Int.toNat (IntKind.wrap .u64 r111)) (IntKind.bits .u64)))))) (p_shl (k := .u64) (k2 := .u64) (p := lo) (q := (IntKind.wrap .u64 r111)) (hq := h128)) ?_
     refine oP (.d (.int .u64 (IntKind.wrap .u64 (lo * 2 ^ (min (Int.toNat (IntKind.wrap .u64 r111)) (IntKind.bits .u64)))))) p_assign ?_
     refine oEnd ?_
     refine oSR rfl ?_
     refine oP (.d (.int .u64 (IntKind.wrap .u64 (lo * 2 ^ (min (Int.toNat (IntKind.wrap .u64 r111)) (IntKind.bits .u64)))))) p_move ?_
     refine oP (.d (.int .u64 (Int.fdiv (IntKind.wrap .u64 (lo * 2 ^ (min (Int.toNat (IntKind.wrap .u64 r111)) (IntKind.bits .u64)))) (2 ^ (min (Int.toNat 32) (IntKind.bits .u64)))))) (p_shr (k := .u64) (k2 := .u64) (p := (IntKind.wrap .u64 (lo * 2 ^ (min (Int.toNat (IntKind.wrap .u64 r111)) (IntKind.bits .u64))))) (q := 32) (hq := by decide)) ?_
     refine oP (.d (.int .u64 (Int.fdiv (IntKind.wrap .u64 (lo * 2 ^ (min (Int.toNat (IntKind.wrap .u64 r111)) (IntKind.bits .u64)))) (2 ^ (min (Int.toNat 32) (IntKind.bits .u64)))))) p_assign ?_
     refine oEnd ?_
     refine oSR rfl ?_
     refine oP (.d (.int .u64 (IntKind.wrap .u64 (lo * 2 ^ (min (Int.toNat (IntKind.wrap .u64 r111)) (IntKind.bits .u64)))))) p_move ?_
     refine oP (.d (.int .u64 (iand .u64 (IntKind.wrap .u64 (lo * 2 ^ (min (Int.toNat (IntKind.wrap .u64 r111)) (IntKind.bits .u64)))) 4294967295))) (p_int (k := .u64) (p := (IntKind.wrap .u64 (lo * 2 ^ (min (Int.toNat (IntKind.wrap .u64 r111)) (IntKind.bits .u64))))) (q := 4294967295)) ?_
     refine oP (.d (.int .u64 (iand .u64 (IntKind.wrap .u64 (lo * 2 ^ (min (Int.toNat (IntKind.wrap .u64 r111)) (IntKind.bits .u64)))) 4294967295))) p_assign ?_
     refine oEnd ?_
     refine oSR rfl ?_
     refine oP (.d (.int .u64 (ior .u64 (IntKind.wrap .u64 (hi * 2 ^ (min (Int.toNat (IntKind.wrap .u64 r111)) (IntKind.bits .u64)))) (Int.fdiv lo (2 ^ (min (Int.toNat (IntKind.wrap .u64 (64 - (IntKind.wrap .u64 r111)))) (IntKind.bits .u64))))))) p_move ?_
     refine oP (.d (.int .u64 (Int.fdiv (IntKind.wrap .u64 (y * 2 ^ (min (Int.toNat (IntKind.wrap .u64 r111)) (IntKind.bits .u64)))) (2 ^ (min (Int.toNat 32) (IntKind.bits .u64)))))) p_move ?_
     refine bNz (fun h129 => ?_)
     refine oP (.d (.int .u64 (IntKind.wrap .u64 (Int.tdiv (ior .u64 (IntKind.wrap .u64 (hi * 2 ^ (min (Int.toNat (IntKind.wrap .u64 r111)) (IntKind.bits .u64)))) (Int.fdiv lo (2 ^ (min (Int.toNat (IntKind.wrap .u64 (64 - (IntKind.wrap .u64 r111)))) (IntKind.bits .u64))))) (Int.fdiv (IntKind.wrap .u64 (y * 2 ^ (min (Int.toNat (IntKind.wrap .u64 r111)) (IntKind.bits .u64)))) (2 ^ (min (Int.toNat 32) (IntKind.bits .u64)))))))) (p_quo (k := .u64) (p := (ior .u64 (IntKind.wrap .u64 (hi * 2 ^ (min (Int.toNat (IntKind.wrap .u64 r111)) (IntKind.bits .u64)))) (Int.fdiv lo (2 ^ (min (Int.toNat (IntKind.wrap .u64 (64 - (IntKind.wrap .u64 r111)))) (IntKind.bits .u64)))))) (q := (Int.fdiv (IntKind.wrap .u64 (y * 2 ^ (min (Int.toNat (IntKind.wrap .u64 r111)) (IntKind.bits .u64)))) (2 ^ (min (Int.toNat 32) (IntKind.bits .u64))))) (hq := h129)) ?_
     refine oP (.d (.int .u64 (IntKind.wrap .u64 (Int.tdiv (ior .u64 (IntKind.wrap .u64 (hi * 2 ^ (min (Int.toNat (IntKind.wrap .u64 r111)) (IntKind.bits .u64)))) (Int.fdiv lo (2 ^ (min (Int.toNat (IntKind.wrap .u64 (64 - (IntKind.wrap .u64 r111)))) (IntKind.bits .u64))))) (Int.fdiv (IntKind.wrap .u64 (y * 2 ^ (min (Int.toNat (IntKind.wrap .u64 r111)) (IntKind.bits .u64)))) (2 ^ (min (Int.toNat 32) (IntKind.bits .u64)))))))) p_assign ?_
     refine oEnd ?_
     refine oSR rfl ?_
     refine oP (.d (.int .u64 (ior .u64 (IntKind.wrap .u64 (hi * 2 ^ (min (Int.toNat (IntKind.wrap .u64 r111)) (IntKind.bits .u64)))) (Int.fdiv lo (2 ^ (min (Int.toNat (IntKind.wrap .u64 (64 - (IntKind.wrap .u64 r111)))) (IntKind.bits .u64))))))) p_move ?_
     refine oP (.d (.int .u64 (IntKind.wrap .u64 (Int.tdiv (ior .u64 (IntKind.wrap .u64 (hi * 2 ^ (min (Int.toNat (IntKind.wrap .u64 r111)) (IntKind.bits .u64)))) (Int.fdiv lo (2 ^ (min (Int.toNat (IntKind.wrap .u64 (64 - (IntKind.wrap .u64 r111)))) (IntKind.bits .u64))))) (Int.fdiv (IntKind.wrap .u64 (y * 2 ^ (min (Int.toNat (IntKind.wrap .u64 r111)) (IntKind.bits .u64)))) (2 ^ (min (Int.toNat 32) (IntKind.bits .u64)))))))) p_move ?_
     refine oP (.d (.int .u64 (Int.fdiv (IntKind.wrap .u64 (y * 2 ^ (min (Int.toNat (IntKind.wrap .u64 r111)) (IntKind.bits .u64)))) (2 ^ (min (Int.toNat 32) (IntKind.bits .u64)))))) p_move ?_
     refine oP (.d (.int .u64 (IntKind.wrap .u64 ((IntKind.wrap .u64 (Int.tdiv (ior .u64 (IntKind.wrap .u64 (hi * 2 ^ (min (Int.toNat (IntKind.wrap .u64 r111)) (IntKind.bits .u64)))) (Int.fdiv lo (2 ^ (min (Int.toNat (IntKind.wrap .u64 (64 - (IntKind.wrap .u64 r111)))) (IntKind.bits .u64))))) (Int.fdiv (IntKind.wrap .u64 (y * 2 ^ (min (Int.toNat (IntKind.wrap .u64 r111)) (IntKind.bits .u64)))) (2 ^ (min (Int.toNat 32) (IntKind.bits .u64)))))) * (Int.fdiv (IntKind.wrap .u64 (y * 2 ^ (min (Int.toNat (IntKind.wrap .u64 r111)) (IntKind.bits .u64)))) (2 ^ (min (Int.toNat 32) (IntKind.bits .u64)))))))) (p_int (k := .u64) (p := (IntKind.wrap .u64 (Int.tdiv (ior .u64 (IntKind.wrap .u64 (hi * 2 ^ (min (Int.toNat (IntKind.wrap .u64 r111)) (IntKind.bits .u64)))) (Int.fdiv lo (2 ^ (min (Int.toNat (IntKind.wrap .u64 (64 - (IntKind.wrap .u64 r111)))) (IntKind.bits .u64))))) (Int.fdiv (IntKind.wrap .u64 (y * 2 ^ (min (Int.toNat (IntKind.wrap .u64 r111)) (IntKind.bits .u64)))) (2 ^ (min (Int.toNat 32) (IntKind.bits .u64))))))) (q := (Int.fdiv (IntKind.wrap .u64 (y * 2 ^ (min (Int.toNat (IntKind.wrap .u64 r111)) (IntKind.bits .u64)))) (2 ^ (min (Int.toNat 32) (IntKind.bits .u64)))))) ?_
     refine oP (.d (.int .u64 (IntKind.wrap .u64 ((ior .u64 (IntKind.wrap .u64 (hi * 2 ^ (min (Int.toNat (IntKind.wrap .u64 r111)) (IntKind.bits .u64)))) (Int.fdiv lo (2 ^ (min (Int.toNat (IntKind.wrap .u64 (64 - (IntKind.wrap .u64 r111)))) (IntKind.bits .u64))))) - (IntKind.wrap .u64 ((IntKind.wrap .u64 (Int.tdiv (ior .u64 (IntKind.wrap .u64 (hi * 2 ^ (min (Int.toNat (IntKind.wrap .u64 r111)) (IntKind.bits .u64)))) (Int.fdiv lo (2 ^ (min (Int.toNat (IntKind.wrap .u64 (64 - (IntKind.wrap .u64 r111)))) (IntKind.bits .u64))))) (Int.fdiv (IntKind.wrap .u64 (y * 2 ^ (min (Int.toNat (IntKind.wrap .u64 r111)) (IntKind.bits .u64)))) (2 ^ (min (Int.toNat 32) (IntKind.bits .u64)))))) * (Int.fdiv (IntKind.wrap .u64 (y * 2 ^ (min (Int.toNat (IntKind.wrap .u64 r111)) (IntKind.bits .u64)))) (2 ^ (min (Int.toNat 32) (IntKind.bits .u64)))))))))) (p_int (k := .u64) (p := (ior .u64 (IntKind.wrap .u64 (hi * 2 ^ (min (Int.toNat (IntKind.wrap .u64 r111)) (IntKind.bits .u64)))) (Int.fdiv lo (2 ^ (min (Int.toNat (IntKind.wrap .u64 (64 - (IntKind.wrap .u64 r111)))) (IntKind.bits .u64)))))) (q := (IntKind.wrap .u64 ((IntKind.wrap .u64 (Int.tdiv (ior .u64 (IntKind.wrap .u64 (hi * 2 ^ (min (Int.toNat (IntKind.wrap .u64 r111)) (IntKind.bits .u64)))) (Int.fdiv lo (2 ^ (min (Int.toNat (IntKind.wrap .u64 (64 - (IntKind.wrap .u64 r111)))) (IntKind.bits .u64))))) (Int.fdiv (IntKind.wrap .u64 (y * 2 ^ (min (Int.toNat (IntKind.wrap .u64 r111)) (IntKind.bits .u64)))) (2 ^ (min (Int.toNat 32) (IntKind.bits .u64)))))) * (Int.fdiv (IntKind.wrap .u64 (y * 2 ^ (min (Int.toNat (IntKind.wrap .u64 r111)) (IntKind.bits .u64)))) (2 ^ (min (Int.toNat 32) (IntKind.bits .u64)))))))) ?_
     refine oP (.d (.int .u64 (IntKind.wrap .u64 ((ior .u64 (IntKind.wrap .u64 (hi * 2 ^ (min (Int.toNat (IntKind.wrap .u64 r111)) (IntKind.bits .u64)))) (Int.fdiv lo (2 ^ (min (Int.toNat (IntKind.wrap .u64 (64 - (IntKind.wrap .u64 r111)))) (IntKind.bits .u64))))) - (IntKind.wrap .u64 ((IntKind.wrap .u64 (Int.tdiv (ior .u64 (IntKind.wrap .u64 (hi * 2 ^ (min (Int.toNat (IntKind.wrap .u64 r111)) (IntKind.bits .u64)))) (Int.fdiv lo (2 ^ (min (Int.toNat (IntKind.wrap .u64 (64 - (IntKind.wrap .u64 r111)))) (IntKind.bits .u64))))) (Int.fdiv (IntKind.wrap .u64 (y * 2 ^ (min (Int.toNat (IntKind.wrap .u64 r111)) (IntKind.bits .u64)))) (2 ^ (min (Int.toNat 32) (IntKind.bits .u64)))))) * (Int.fdiv (IntKind.wrap .u64 (y * 2 ^ (min (Int.toNat (IntKind.wrap .u64 r111)) (IntKind.bits .u64)))) (2 ^ (min (Int.toNat 32) (IntKind.bits .u64)))))))))) p_assign ?_
     refine oEnd ?_
     refine oSeq ?_
     refine bJoin ((uc fun (y6 : Int) => (uc fun (s15 : Int) => (uc fun (yn15 : Int) => (uc fun (yn05 : Int) => (uc fun (un325 : Int) => (uc fun (un15 : Int) => (uc fun (un05 : Int) => (fun (q15 : Int) => [(2, .d (.int .u64 y6)), (8, .d (.int .u64 s15)), (9, .d (.int .u64 yn15)), (10, .d (.int .u64 yn05)), (11, .d (.int .u64 un325)), (13, .d (.int .u64 un15)), (14, .d (.int .u64 un05)), (15, .d (.int .u64 q15))]))))))))) ((uc fun (y6 : Int) => (uc fun (s15 : Int) => (uc fun (yn15 : Int) => (uc fun (yn05 : Int) => (uc fun (un325 : Int) => (uc fun (un15 : Int) => (uc fun (un05 : Int) => (fun (q15 : Int) => []))))))))) (fun s => s) (fun s => ?_) (fun hj3 => ?_)
     ·obtain ⟨y6, s15, yn15, yn05, un325, un15, un05, q15⟩ := s
      refine bUc ?_
      refine bUc ?_
      refine bUc ?_
      refine bUc ?_
      refine bUc ?_
      refine bUc ?_
      refine bUc ?_
      refine oView (T' := [(2, .d (.int .u64 y6)), (8, .d (.int .u64 s15)), (9, .d (.int .u64 yn15)), (10, .d (.int .u64 yn05)), (11, .d (.int .u64 un325)), (13, .d (.int .u64 un15)), (14, .d (.int .u64 un05)), (15, .d (.int .u64 q15))]) (H' := []) (h := ?_)
      refine oSR rfl ?_
      refine oP (.d (.int .u64 un325)) p_move ?_
      refine oP (.d (.int .u64 (IntKind.wrap .u64 (un325 * 4294967296)))) (p_int (k := .u64) (p := un325) (q := 4294967296)) ?_
      refine oP (.d (.int .u64 un15)) p_move ?_
      refine oP (.d (.int .u64 (IntKind.wrap .u64 ((IntKind.wrap .u64 (un325 * 4294967296)) + un15)))) (p_int (k := .u64) (p := (IntKind.wrap .u64 (un325 * 4294967296))) (q := un15)) ?_
      refine oP (.d (.int .u64 q15)) p_move ?_
      refine oP (.d (.int .u64 y6)) p_move ?_
      refine oP (.d (.int .u64 (IntKind.wrap .u64 (q15 * y6)))) (p_int (k := .u64) (p := q15) (q := y6)) ?_
      refine oP (.d (.int .u64 (IntKind.wrap .u64 ((IntKind.wrap .u64 ((IntKind.wrap .u64 (un325 * 4294967296)) + un15)) - (IntKind.wrap .u64 (q15 * y6)))))) (p_int (k := .u64) (p := (IntKind.wrap .u64 ((IntKind.wrap .u64 (un325 * 4294967296)) + un15))) (q := (IntKind.wrap .u64 (q15 * y6)))) ?_
      refine oP (.d (.int .u64 (IntKind.wrap .u64 ((IntKind.wrap .u64 ((IntKind.wrap .u64 (un325 * 4294967296)) + un15)) - (IntKind.wrap .u64 (q15 * y6)))))) p_assign ?_
      refine oEnd ?_
      refine oSR rfl ?_
      refine oP (.d (.int .u64 (IntKind.wrap .u64 ((IntKind.wrap .u64 ((IntKind.wrap .u64 (un325 * 4294967296)) + un15)) - (IntKind.wrap .u64 (q15 * y6)))))) p_move ?_
      refine oP (.d (.int .u64 yn15)) p_move ?_
      refine bNz (fun h130 => ?_)
      refine oP (.d (.int .u64 (IntKind.wrap .u64 (Int.tdiv (IntKind.wrap .u64 ((IntKind.wrap .u64 ((IntKind.wrap .u64 (un325 * 4294967296)) + un15)) - (IntKind.wrap .u64 (q15 * y6)))) yn15)))) (p_quo (k := .u64) (p := (IntKind.wrap .u64 ((IntKind.wrap .u64 ((IntKind.wrap .u64 (un325 * 4294967296)) + un15)) - (IntKind.wrap .u64 (q15 * y6))))) (q := yn15) (hq := h130)) ?_
      refine oP (.d (.int .u64 (IntKind.wrap .u64 (Int.tdiv (IntKind.wrap .u64 ((IntKind.wrap .u64 ((IntKind.wrap .u64 (un325 * 4294967296)) + un15)) - (IntKind.wrap .u64 (q15 * y6)))) yn15)))) p_assign ?_
      refine oEnd ?_
      refine oSR rfl ?_
      refine oP (.d (.int .u64 (IntKind.wrap .u64 ((IntKind.wrap .u64 ((IntKind.wrap .u64 (un325 * 4294967296)) + un15)) - (IntKind.wrap .u64 (q15 * y6)))))) p_move ?_
      refine oP (.d (.int .u64 (IntKind.wrap .u64 (Int.tdiv (IntKind.wrap .u64 ((IntKind.wrap .u64 ((IntKind.wrap .u64 (un325 * 4294967296)) + un15)) - (IntKind.wrap .u64 (q15 * y6)))) yn15)))) p_move ?_
      refine oP (.d (.int .u64 yn15)) p_move ?_
      refine oP (.d (.int .u64 (IntKind.wrap .u64 ((IntKind.wrap .u64 (Int.tdiv (IntKind.wrap .u64 ((IntKind.wrap .u64 ((IntKind.wrap .u64 (un325 * 4294967296)) + un15)) - (IntKind.wrap .u64 (q15 * y6)))) yn15)) * yn15)))) (p_int (k := .u64) (p := (IntKind.wrap .u64 (Int.tdiv (IntKind.wrap .u64 ((IntKind.wrap .u64 ((IntKind.wrap .u64 (un325 * 4294967296)) + un15)) - (IntKind.wrap .u64 (q15 * y6)))) yn15))) (q := yn15)) ?_
      refine oP (.d (.int .u64 (IntKind.wrap .u64 ((IntKind.wrap .u64 ((IntKind.wrap .u64 ((IntKind.wrap .u64 (un325 * 4294967296)) + un15)) - (IntKind.wrap .u64 (q15 * y6)))) - (IntKind.wrap .u64 ((IntKind.wrap .u64 (Int.tdiv (IntKind.wrap .u64 ((IntKind.wrap .u64 ((IntKind.wrap .u64 (un325 * 4294967296)) + un15)) - (IntKind.wrap .u64 (q15 * y6)))) yn15)) * yn15)))))) (p_int (k := .u64) (p := (IntKind.wrap .u64 ((IntKind.wrap .u64 ((IntKind.wrap .u64 (un325 * 4294967296)) + un15)) - (IntKind.wrap .u64 (q15 * y6))))) (q := (IntKind.wrap .u64 ((IntKind.wrap .u64 (Int.tdiv (IntKind.wrap .u64 ((IntKind.wrap .u64 ((IntKind.wrap .u64 (un325 * 4294967296)) + un15)) - (IntKind.wrap .u64 (q15 * y6)))) yn15)) * yn15)))) ?_
      refine oP (.d (.int .u64 (IntKind.wrap .u64 ((IntKind.wrap .u64 ((IntKind.wrap .u64 ((IntKind.wrap .u64 (un325 * 4294967296)) + un15)) - (IntKind.wrap .u64 (q15 * y6)))) - (IntKind.wrap .u64 ((IntKind.wrap .u64 (Int.tdiv (IntKind.wrap .u64 ((IntKind.wrap .u64 ((IntKind.wrap .u64 (un325 * 4294967296)) + un15)) - (IntKind.wrap .u64 (q15 * y6)))) yn15)) * yn15)))))) p_assign ?_
      refine oEnd ?_
      refine oSeq ?_
      refine bJoin ((uc fun (un215 : Int) => (fun (q05 : Int) => [(2, .d (.int .u64 y6)), (8, .d (.int .u64 s15)), (14, .d (.int .u64 un05)), (15, .d (.int .u64 q15)), (17, .d (.int .u64 un215)), (18, .d (.int .u64 q05))]))) ((uc fun (un215 : Int) => (fun (q05 : Int) => []))) (fun s => s) (fun s => ?_) (fun hj4 => ?_)
      ·obtain ⟨un215, q05⟩ := s
       refine bUc ?_
       refine oView (T' := [(2, .d (.int .u64 y6)), (8, .d (.int .u64 s15)), (14, .d (.int .u64 un05)), (15, .d (.int .u64 q15)), (17, .d (.int .u64 un215)), (18, .d (.int .u64 q05))]) (H' := []) (h := ?_)
       refine oSR rfl ?_
       refine oP (.d (.int .u64 q15)) p_move ?_
       refine oP (.d (.int .u64 (IntKind.wrap .u64 (q15 * 4294967296)))) (p_int (k := .u64) (p := q15) (q := 4294967296)) ?_
       refine oP (.d (.int .u64 q05)) p_move ?_
       refine oP (.d (.int .u64 (IntKind.wrap .u64 ((IntKind.wrap .u64 (q15 * 4294967296)) + q05)))) (p_int (k := .u64) (p := (IntKind.wrap .u64 (q15 * 4294967296))) (q := q05)) ?_
       refine oP (.d (.int .u64 un215)) p_move ?_
       refine oP (.d (.int .u64 (IntKind.wrap .u64 (un215 * 4294967296)))) (p_int (k := .u64) (p := un215) (q := 4294967296)) ?_
       refine oP (.d (.int .u64 un05)) p_move ?_
       refine oP (.d (.int .u64 (IntKind.wrap .u64 ((IntKind.wrap .u64 (un215 * 4294967296)) + un05)))) (p_int (k := .u64) (p := (IntKind.wrap .u64 (un215 * 4294967296))) (q := un05)) ?_
       refine oP (.d (.int .u64 q05)) p_move ?_
       refine oP (.d (.int .u64 y6)) p_move ?_
       refine oP (.d (.int .u64 (IntKind.wrap .u64 (q05 * y6)))) (p_int (k := .u64) (p := q05) (q := y6)) ?_
       refine oP (.d (.int .u64 (IntKind.wrap .u64 ((IntKind.wrap .u64 ((IntKind.wrap .u64 (un215 * 4294967296)) + un05)) - (IntKind.wrap .u64 (q05 * y6)))))) (p_int (k := .u64) (p := (IntKind.wrap .u64 ((IntKind.wrap .u64 (un215 * 4294967296)) + un05))) (q := (IntKind.wrap .u64 (q05 * y6)))) ?_
       refine oP (.d (.int .u64 s15)) p_move ?_
       refine bNn (fun h131 => ?_)
       refine oP (.d (.int .u64 (Int.fdiv (IntKind.wrap .u64 ((IntKind.wrap .u64 ((IntKind.wrap .u64 (un215 * 4294967296)) + un05)) - (IntKind.wrap .u64 (q05 * y6)))) (2 ^ (min (Int.toNat s15) (IntKind.bits .u64)))))) (p_shr (k := .u64) (k2 := .u64) (p := (IntKind.wrap .u64 ((IntKind.wrap .u64 ((IntKind.wrap .u64 (un215 * 4294967296)) + un05)) - (IntKind.wrap .u64 (q05 * y6))))) (q := s15) (hq := h131)) ?_
       refine oP (.d (.int .u64 (IntKind.wrap .u64 ((IntKind.wrap .u64 (q15 * 4294967296)) + q05)))) p_assign ?_
       refine oP (.d (.int .u64 (Int.fdiv (IntKind.wrap .u64 ((IntKind.wrap .u64 ((IntKind.wrap .u64 (un215 * 4294967296)) + un05)) - (IntKind.wrap .u64 (q05 * y6)))) (2 ^ (min (Int.toNat s15) (IntKind.bits .u64)))))) p_assign ?_
       refine oEnd ?_
       exact oRet (r0 := ((IntKind.wrap .u64 ((IntKind.wrap .u64 (q15 * 4294967296)) + q05)), (Int.fdiv (IntKind.wrap .u64 ((IntKind.wrap .u64 ((IntKind.wrap .u64 (un215 * 4294967296)) + un05)) - (IntKind.wrap .u64 (q05 * y6)))) (2 ^ (min (Int.toNat s15) (IntKind.bits .u64)))))) (rv := .tuple [.d (.int .u64 (IntKind.wrap .u64 ((IntKind.wrap .u64 (q15 * 4294967296)) + q05))), .d (.int .u64 (Int.fdiv (IntKind.wrap .u64 ((IntKind.wrap .u64 ((IntKind.wrap .u64 (un215 * 4294967296)) + un05)) - (IntKind.wrap .u64 (q05 * y6)))) (2 ^ (min (Int.toNat s15) (IntKind.bits .u64)))))]) (B := []) (vs := [.d (.int .u64 (IntKind.wrap .u64 ((IntKind.wrap .u64 (q15 * 4294967296)) + q05))), .d (.int .u64 (Int.fdiv (IntKind.wrap .u64 ((IntKind.wrap .u64 ((IntKind.wrap .u64 (un215 * 4294967296)) + un05)) - (IntKind.wrap .u64 (q05 * y6)))) (2 ^ (min (Int.toNat s15) (IntKind.bits .u64)))))]) (σ := []) (hf := Try.func101) (hrs := rfl) (hres := .cons _ _ _ _ (.tmp 6 _ (by kernel_rfl)) (.cons _ _ _ _ (.tmp 7 _ (by kernel_rfl)) .nil)) (hnd := by decide)
      ·refine oBlock ?_
       refine oLoop ?_
       refine oHead [2, 8, 9, 10, 14, 15, 16, 17, 18] [] (T' := [(2, .d (.int .u64 y6)), (8, .d (.int .u64 s15)), (9, .d (.int .u64 yn15)), (10, .d (.int .u64 yn05)), (14, .d (.int .u64 un05)), (15, .d (.int .u64 q15)), (16, .d (.int .u64 (IntKind.wrap .u64 ((IntKind.wrap .u64 ((IntKind.wrap .u64 ((IntKind.wrap .u64 (un325 * 4294967296)) + un15)) - (IntKind.wrap .u64 (q15 * y6)))) - (IntKind.wrap .u64 ((IntKind.wrap .u64 (Int.tdiv (IntKind.wrap .u64 ((IntKind.wrap .u64 ((IntKind.wrap .u64 (un325 * 4294967296)) + un15)) - (IntKind.wrap .u64 (q15 * y6)))) yn15)) * yn15)))))), (17, .d (.int .u64 (IntKind.wrap .u64 ((IntKind.wrap .u64 ((IntKind.wrap .u64 (un325 * 4294967296)) + un15)) - (IntKind.wrap .u64 (q15 * y6)))))), (18, .d (.int .u64 (IntKind.wrap .u64 (Int.tdiv (IntKind.wrap .u64 ((IntKind.wrap .u64 ((IntKind.wrap .u64 (un325 * 4294967296)) + un15)) - (IntKind.wrap .u64 (q15 * y6)))) yn15))))]) (H' := []) (hnd := by decide) (h := ?_)
       refine bLoop (body := math_bits_Div64_b1 k yn15 yn05 un05) ((uc fun (rhat8 : Int) => (uc fun (un216 : Int) => (fun (q06 : Int) => [(2, .d (.int .u64 y6)), (8, .d (.int .u64 s15)), (9, .d (.int .u64 yn15)), (10, .d (.int .u64 yn05)), (14, .d (.int .u64 un05)), (15, .d (.int .u64 q15)), (16, .d (.int .u64 rhat8)), (17, .d (.int .u64 un216)), (18, .d (.int .u64 q06))])))) ((uc fun (rhat8 : Int) => (uc fun (un216 : Int) => (fun (q06 : Int) => [])))) (fun again hag1 s => ?_) k ((IntKind.wrap .u64 ((IntKind.wrap .u64 ((IntKind.wrap .u64 ((IntKind.wrap .u64 (un325 * 4294967296)) + un15)) - (IntKind.wrap .u64 (q15 * y6)))) - (IntKind.wrap .u64 ((IntKind.wrap .u64 (Int.tdiv (IntKind.wrap .u64 ((IntKind.wrap .u64 ((IntKind.wrap .u64 (un325 * 4294967296)) + un15)) - (IntKind.wrap .u64 (q15 * y6)))) yn15)) * yn15)))), (IntKind.wrap .u64 ((IntKind.wrap .u64 ((IntKind.wrap .u64 (un325 * 4294967296)) + un15)) - (IntKind.wrap .u64 (q15 * y6)))), (IntKind.wrap .u64 (Int.tdiv (IntKind.wrap .u64 ((IntKind.wrap .u64 ((IntKind.wrap .u64 (un325 * 4294967296)) + un15)) - (IntKind.wrap .u64 (q15 * y6)))) yn15)))
       ·unfold math_bits_Div64_b1
        obtain ⟨rhat8, un216, q06⟩ := s
        refine bUc ?_
        refine bUc ?_
        refine oView (T' := [(2, .d (.int .u64 y6)), (8, .d (.int .u64 s15)), (9, .d (.int .u64 yn15)), (10, .d (.int .u64 yn05)), (14, .d (.int .u64 un05)), (15, .d (.int .u64 q15)), (16, .d (.int .u64 rhat8)), (17, .d (.int .u64 un216)), (18, .d (.int .u64 q06))]) (H' := []) (h := ?_)
        refine oSeq ?_
        refine oSR rfl ?_
        refine oP (.d (.int .u64 q06)) p_move ?_
        refine oP (.d (.bool (decide (q06 ≥ 4294967296)))) (p_int (k := .u64) (p := q06) (q := 4294967296)) ?_
        refine oP (.d (.bool (decide (q06 ≥ 4294967296)))) p_move ?_
        refine bMeet 9 rfl ((fun (x5 : Bool) => [(2, .d (.int .u64 y6)), (8, .d (.int .u64 s15)), (9, .d (.int .u64 yn15)), (10, .d (.int .u64 yn05)), (14, .d (.int .u64 un05)), (15, .d (.int .u64 q15)), (16, .d (.int .u64 rhat8)), (17, .d (.int .u64 un216)), (18, .d (.int .u64 q06)), (113, .d (.bool x5))])) ((fun (x5 : Bool) => [])) (fun s => s) (fun x5 => ?_) (fun hj5 => ?_)
        ·refine oView (T' := [(2, .d (.int .u64 y6)), (8, .d (.int .u64 s15)), (9, .d (.int .u64 yn15)), (10, .d (.int .u64 yn05)), (14, .d (.int .u64 un05)), (15, .d (.int .u64 q15)), (16, .d (.int .u64 rhat8)), (17, .d (.int .u64 un216)), (18, .d (.int .u64 q06)), (113, .d (.bool x5))]) (H' := []) (h := ?_)
         refine oEnd ?_
         refine bSplit 113 (h1 := fun hc => ?_) (h2 := fun hc => ?_)
         ·refine oCondT (h := ?_)
          refine oSkip ?_
          refine oBlock ?_
          refine oSR rfl ?_
          refine oP (.d (.int .u64 q06)) p_move ?_
          refine oP (.d (.int .u64 (IntKind.wrap .u64 (q06 - 1)))) (p_int (k := .u64) (p := q06) (q := 1)) ?_
          refine oP (.d (.int .u64 (IntKind.wrap .u64 (q06 - 1)))) p_assign ?_
          refine oEnd ?_
          refine oSR rfl ?_
          refine oP (.d (.int .u64 rhat8)) p_move ?_
          refine oP (.d (.int .u64 yn15)) p_move ?_
          refine oP (.d (.int .u64 (IntKind.wrap .u64 (rhat8 + yn15)))) (p_int (k := .u64) (p := rhat8) (q := yn15)) ?_
          refine oP (.d (.int .u64 (IntKind.wrap .u64 (rhat8 + yn15)))) p_assign ?_
          refine oEnd ?_
          refine oSR rfl ?_
          refine oP (.d (.int .u64 (IntKind.wrap .u64 (rhat8 + yn15)))) p_move ?_
          refine oP (.d (.bool (decide ((IntKind.wrap .u64 (rhat8 + yn15)) ≥ 4294967296)))) (p_int (k := .u64) (p := (IntKind.wrap .u64 (rhat8 + yn15))) (q := 4294967296)) ?_
          refine oEnd ?_
          refine bSplit 120 (h1 := fun hc => ?_) (h2 := fun hc => ?_)
          ·refine oCondT (h := ?_)
           refine oExit rfl ?_
           refine oHead [2, 8, 14, 15, 17, 18] [] (T' := [(2, .d (.int .u64 y6)), (8, .d (.int .u64 s15)), (14, .d (.int .u64 un05)), (15, .d (.int .u64 q15)), (17, .d (.int .u64 un216)), (18, .d (.int .u64 (IntKind.wrap .u64 (q06 - 1))))]) (H' := []) (hnd := by decide) (h := ?_)
           exact hj4 (un216, (IntKind.wrap .u64 (q06 - 1)))
          ·refine oCondF (h := ?_)
           refine oSkip ?_
           refine oBlk ?_
           refine oAgain ?_
           refine oHead [2, 8, 9, 10, 14, 15, 16, 17, 18] [] (T' := [(2, .d (.int .u64 y6)), (8, .d (.int .u64 s15)), (9, .d (.int .u64 yn15)), (10, .d (.int .u64 yn05)), (14, .d (.int .u64 un05)), (15, .d (.int .u64 q15)), (16, .d (.int .u64 (IntKind.wrap .u64 (rhat8 + yn15)))), (17, .d (.int .u64 un216)), (18, .d (.int .u64 (IntKind.wrap .u64 (q06 - 1))))]) (H' := []) (hnd := by decide) (h := ?_)
           exact hag1 ((IntKind.wrap .u64 (rhat8 + yn15)), un216, (IntKind.wrap .u64 (q06 - 1)))
         ·refine oCondF (h := ?_)
          refine oExit rfl ?_
          refine oHead [2, 8, 14, 15, 17, 18] [] (T' := [(2, .d (.int .u64 y6)), (8, .d (.int .u64 s15)), (14, .d (.int .u64 un05)), (15, .d (.int .u64 q15)), (17, .d (.int .u64 un216)), (18, .d (.int .u64 q06))]) (H' := []) (hnd := by decide) (h := ?_)
          exact hj4 (un216, q06)
        ·refine bSplit 104 (h1 := fun hc => ?_) (h2 := fun hc => ?_)
         ·refine oNot (h := ?_)
          refine oNot (h := ?_)
          refine oNot (h := ?_)
          refine oNot (h := ?_)
          refine oNot (h := ?_)
          refine oNot (h := ?_)
          refine oNot (h := ?_)
          refine oNot (h := ?_)
          refine oP (.d (.bool true)) (p_pick (b := true)) ?_
          refine oHead [2, 8, 9, 10, 14, 15, 16, 17, 18, 113] [] (T' := [(2, .d (.int .u64 y6)), (8, .d (.int .u64 s15)), (9, .d (.int .u64 yn15)), (10, .d (.int .u64 yn05)), (14, .d (.int .u64 un05)), (15, .d (.int .u64 q15)), (16, .d (.int .u64 rhat8)), (17, .d (.int .u64 un216)), (18, .d (.int .u64 q06)), (113, .d (.bool true))]) (H' := []) (hnd := by decide) (h := ?_)
          exact hj5 true
         ·refine oP (.d (.int .u64 q06)) p_move ?_
          refine oP (.d (.int .u64 yn05)) p_move ?_
          refine oP (.d (.int .u64 (IntKind.wrap .u64 (q06 * yn05)))) (p_int (k := .u64) (p := q06) (q := yn05)) ?_
          refine oP (.d (.int .u64 rhat8)) p_move ?_
          refine oP (.d (.int .u64 (IntKind.wrap .u64 (4294967296 * rhat8)))) (p_int (k := .u64) (p := 4294967296) (q := rhat8)) ?_
          refine oP (.d (.int .u64 un05)) p_move ?_
          refine oP (.d (.int .u64 (IntKind.wrap .u64 ((IntKind.wrap .u64 (4294967296 * rhat8)) + un05)))) (p_int (k := .u64) (p := (IntKind.wrap .u64 (4294967296 * rhat8))) (q := un05)) ?_
          refine oP (.d (.bool (decide ((IntKind.wrap .u64 (q06 * yn05)) > (IntKind.wrap .u64 ((IntKind.wrap .u64 (4294967296 * rhat8)) + un05)))))) (p_int (k := .u64) (p := (IntKind.wrap .u64 (q06 * yn05))) (q := (IntKind.wrap .u64 ((IntKind.wrap .u64 (4294967296 * rhat8)) + un05)))) ?_
          refine oP (.d (.bool (decide ((IntKind.wrap .u64 (q06 * yn05)) > (IntKind.wrap .u64 ((IntKind.wrap .u64 (4294967296 * rhat8)) + un05)))))) (p_pick (b := false)) ?_
          refine oHead [2, 8, 9, 10, 14, 15, 16, 17, 18, 113] [] (T' := [(2, .d (.int .u64 y6)), (8, .d (.int .u64 s15)), (9, .d (.int .u64 yn15)), (10, .d (.int .u64 yn05)), (14, .d (.int .u64 un05)), (15, .d (.int .u64 q15)), (16, .d (.int .u64 rhat8)), (17, .d (.int .u64 un216)), (18, .d (.int .u64 q06)), (113, .d (.bool (decide ((IntKind.wrap .u64 (q06 * yn05)) > (IntKind.wrap .u64 ((IntKind.wrap .u64 (4294967296 * rhat8)) + un05))))))]) (H' := []) (hnd := by decide) (h := ?_)
          exact hj5 (decide ((IntKind.wrap .u64 (q06 * yn05)) > (IntKind.wrap .u64 ((IntKind.wrap .u64 (4294967296 * rhat8)) + un05))))
     ·refine oBlock ?_
      refine oLoop ?_
      refine oHead [2, 8, 9, 10, 11, 13, 14, 15, 16] [] (T' := [(2, .d (.int .u64 (IntKind.wrap .u64 (y * 2 ^ (min (Int.toNat (IntKind.wrap .u64 r111)) (IntKind.bits .u64)))))), (8, .d (.int .u64 (IntKind.wrap .u64 r111))), (9, .d (.int .u64 (Int.fdiv (IntKind.wrap .u64 (y * 2 ^ (min (Int.toNat (IntKind.wrap .u64 r111)) (IntKind.bits .u64)))) (2 ^ (min (Int.toNat 32) (IntKind.bits .u64)))))), (10, .d (.int .u64 (iand .u64 (IntKind.wrap .u64 (y * 2 ^ (min (Int.toNat (IntKind.wrap .u64 r111)) (IntKind.bits .u64)))) 4294967295))), (11, .d (.int .u64 (ior .u64 (IntKind.wrap .u64 (hi * 2 ^ (min (Int.toNat (IntKind.wrap .u64 r111)) (IntKind.bits .u64)))) (Int.fdiv lo (2 ^ (min (Int.toNat (IntKind.wrap .u64 (64 - (IntKind.wrap .u64 r111)))) (IntKind.bits .u64))))))), (13, .d (.int .u64 (Int.fdiv (IntKind.wrap .u64 (lo * 2 ^ (min (Int.toNat (IntKind.wrap .u64 r111)) (IntKind.bits .u64)))) (2 ^ (min (Int.toNat 32) (IntKind.bits .u64)))))), (14, .d (.int .u64 (iand .u64 (IntKind.wrap .u64 (lo * 2 ^ (min (Int.toNat (IntKind.wrap .u64 r111)) (IntKind.bits .u64)))) 4294967295))), (15, .d (.int .u64 (IntKind.wrap .u64 (Int.tdiv (ior .u64 (IntKind.wrap .u64 (hi * 2 ^ (min (Int.toNat (IntKind.wrap .u64 r111)) (IntKind.bits .u64)))) (Int.fdiv lo (2 ^ (min (Int.toNat (IntKind.wrap .u64 (64 - (IntKind.wrap .u64 r111)))) (IntKind.bits .u64))))) (Int.fdiv (IntKind.wrap .u64 (y * 2 ^ (min (Int.toNat (IntKind.wrap .u64 r111)) (IntKind.bits .u64)))) (2 ^ (min (Int.toNat 32) (IntKind.bits .u64)))))))), (16, .d (.int .u64 (IntKind.wrap .u64 ((ior .u64 (IntKind.wrap .u64 (hi * 2 ^ (min (Int.toNat (IntKind.wrap .u64 r111)) (IntKind.bits .u64)))) (Int.fdiv lo (2 ^ (min (Int.toNat (IntKind.wrap .u64 (64 - (IntKind.wrap .u64 r111)))) (IntKind.bits .u64))))) - (IntKind.wrap .u64 ((IntKind.wrap .u64 (Int.tdiv (ior .u64 (IntKind.wrap .u64 (hi * 2 ^ (min (Int.toNat (IntKind.wrap .u64 r111)) (IntKind.bits .u64)))) (Int.fdiv lo (2 ^ (min (Int.toNat (IntKind.wrap .u64 (64 - (IntKind.wrap .u64 r111)))) (IntKind.bits .u64))))) (Int.fdiv (IntKind.wrap .u64 (y * 2 ^ (min (Int.toNat (IntKind.wrap .u64 r111)) (IntKind.bits .u64)))) (2 ^ (min (Int.toNat 32) (IntKind.bits .u64)))))) * (Int.fdiv (IntKind.wrap .u64 (y * 2 ^ (min (Int.toNat (IntKind.wrap .u64 r111)) (IntKind.bits .u64)))) (2 ^ (min (Int.toNat 32) (IntKind.bits .u64))))))))))]) (H' := []) (hnd := by decide) (h := ?_)
      refine bLoop (body := math_bits_Div64_b2 k) ((uc fun (y7 : Int) => (uc fun (s16 : Int) => (uc fun (yn16 : Int) => (uc fun (yn06 : Int) => (uc fun (un326 : Int) => (uc fun (un16 : Int) => (uc fun (un06 : Int) => (uc fun (q16 : Int) => (fun (rhat10 : Int) => [(2, .d (.int .u64 y7)), (8, .d (.int .u64 s16)), (9, .d (.int .u64 yn16)), (10, .d (.int .u64 yn06)), (11, .d (.int .u64 un326)), (13, .d (.int .u64 un16)), (14, .d (.int .u64 un06)), (15, .d (.int .u64 q16)), (16, .d (.int .u64 rhat10))])))))))))) ((uc fun (y7 : Int) => (uc fun (s16 : Int) => (uc fun (yn16 : Int) => (uc fun (yn06 : Int) => (uc fun (un326 : Int) => (uc fun (un16 : Int) => (uc fun (un06 : Int) => (uc fun (q16 : Int) => (fun (rhat10 : Int) => [])))))))))) (fun again hag2 s => ?_) k ((IntKind.wrap .u64 (y * 2 ^ (min (Int.toNat (IntKind.wrap .u64 r111)) (IntKind.bits .u64)))), (IntKind.wrap .u64 r111), (Int.fdiv (IntKind.wrap .u64 (y * 2 ^ (min (Int.toNat (IntKind.wrap .u64 r111)) (IntKind.bits .u64)))) (2 ^ (min (Int.toNat 32) (IntKind.bits .u64)))), (iand .u64 (IntKind.wrap .u64 (y * 2 ^ (min (Int.toNat (IntKind.wrap .u64 r111)) (IntKind.bits .u64)))) 4294967295), (ior .u64 (IntKind.wrap .u64 (hi * 2 ^ (min (Int.toNat (IntKind.wrap .u64 r111)) (IntKind.bits .u64)))) (Int.fdiv lo (2 ^ (min (Int.toNat (IntKind.wrap .u64 (64 - (IntKind.wrap .u64 r111)))) (IntKind.bits .u64))))), (Int.fdiv (IntKind.wrap .u64 (lo * 2 ^ (min (Int.toNat (IntKind.wrap .u64 r111)) (IntKind.bits .u64)))) (2 ^ (min (Int.toNat 32) (IntKind.bits .u64)))), (iand .u64 (IntKind.wrap .u64 (lo * 2 ^ (min (Int.toNat (IntKind.wrap .u64 r111)) (IntKind.bits .u64)))) 4294967295), (IntKind.wrap .u64 (Int.tdiv (ior .u64 (IntKind.wrap .u64 (hi * 2 ^ (min (Int.toNat (IntKind.wrap .u64 r111)) (IntKind.bits .u64)))) (Int.fdiv lo (2 ^ (min (Int.toNat (IntKind.wrap .u64 (64 - (IntKind.wrap .u64 r111)))) (IntKind.bits .u64))))) (Int.fdiv (IntKind.wrap .u64 (y * 2 ^ (min (Int.toNat (IntKind.wrap .u64 r111)) (IntKind.bits .u64)))) (2 ^ (min (Int.toNat 32) (IntKind.bits .u64)))))), (IntKind.wrap .u64 ((ior .u64 (IntKind.wrap .u64 (hi * 2 ^ (min (Int.toNat (IntKind.wrap .u64 r111)) (IntKind.bits .u64)))) (Int.fdiv lo (2 ^ (min (Int.toNat (IntKind.wrap .u64 (64 - (IntKind.wrap .u64 r111)))) (IntKind.bits .u64))))) - (IntKind.wrap .u64 ((IntKind.wrap .u64 (Int.tdiv (ior .u64 (IntKind.wrap .u64 (hi * 2 ^ (min (Int.toNat (IntKind.wrap .u64 r111)) (IntKind.bits .u64)))) (Int.fdiv lo (2 ^ (min (Int.toNat (IntKind.wrap .u64 (64 - (IntKind.wrap .u64 r111)))) (IntKind.bits .u64))))) (Int.fdiv (IntKind.wrap .u64 (y * 2 ^ (min (Int.toNat (IntKind.wrap .u64 r111)) (IntKind.bits .u64)))) (2 ^ (min (Int.toNat 32) (IntKind.bits .u64)))))) * (Int.fdiv (IntKind.wrap .u64 (y * 2 ^ (min (Int.toNat (IntKind.wrap .u64 r111)) (IntKind.bits .u64)))) (2 ^ (min (Int.toNat 32) (IntKind.bits .u64)))))))))
      ·unfold math_bits_Div64_b2
       obtain ⟨y7, s16, yn16, yn06, un326, un16, un06, q16, rhat10⟩ := s
       refine bUc ?_
       refine bUc ?_
       refine bUc ?_
       refine bUc ?_
       refine bUc ?_
       refine bUc ?_
       refine bUc ?_
       refine bUc ?_
       refine oView (T' := [(2, .d (.int .u64 y7)), (8, .d (.int .u64 s16)), (9, .d (.int .u64 yn16)), (10, .d (.int .u64 yn06)), (11, .d (.int .u64 un326)), (13, .d (.int .u64 un16)), (14, .d (.int .u64 un06)), (15, .d (.int .u64 q16)), (16, .d (.int .u64 rhat10))]) (H' := []) (h := ?_)
       refine oSeq ?_
       refine oSR rfl ?_
       refine oP (.d (.int .u64 q16)) p_move ?_
       refine oP (.d (.bool (decide (q16 ≥ 4294967296)))) (p_int (k := .u64) (p := q16) (q := 4294967296)) ?_
       refine oP (.d (.bool (decide (q16 ≥ 4294967296)))) p_move ?_
       refine bMeet 9 rfl ((fun (x7 : Bool) => [(2, .d (.int .u64 y7)), (8, .d (.int .u64 s16)), (9, .d (.int .u64 yn16)), (10, .d (.int .u64 yn06)), (11, .d (.int .u64 un326)), (13, .d (.int .u64 un16)), (14, .d (.int .u64 un06)), (15, .d (.int .u64 q16)), (16, .d (.int .u64 rhat10)), (78, .d (.bool x7))])) ((fun (x7 : Bool) => [])) (fun s => s) (fun x7 => ?_) (fun hj6 => ?_)
       ·refine oView (T' := [(2, .d (.int .u64 y7)), (8, .d (.int .u64 s16)), (9, .d (.int .u64 yn16)), (10, .d (.int .u64 yn06)), (11, .d (.int .u64 un326)), (13, .d (.int .u64 un16)), (14, .d (.int .u64 un06)), (15, .d (.int .u64 q16)), (16, .d (.int .u64 rhat10)), (78, .d (.bool x7))]) (H' := []) (h := ?_)
        refine oEnd ?_
        refine bSplit 78 (h1 := fun hc => ?_) (h2 := fun hc => ?_)
        ·refine oCondT (h := ?_)
         refine oSkip ?_
         refine oBlock ?_
         refine oSR rfl ?_
         refine oP (.d (.int .u64 q16)) p_move ?_
         refine oP (.d (.int .u64 (IntKind.wrap .u64 (q16 - 1)))) (p_int (k := .u64) (p := q16) (q := 1)) ?_
         refine oP (.d (.int .u64 (IntKind.wrap .u64 (q16 - 1)))) p_assign ?_
         refine oEnd ?_
         refine oSR rfl ?_
         refine oP (.d (.int .u64 rhat10)) p_move ?_
         refine oP (.d (.int .u64 yn16)) p_move ?_
         refine oP (.d (.int .u64 (IntKind.wrap .u64 (rhat10 + yn16)))) (p_int (k := .u64) (p := rhat10) (q := yn16)) ?_
         refine oP (.d (.int .u64 (IntKind.wrap .u64 (rhat10 + yn16)))) p_assign ?_
         refine oEnd ?_
         refine oSR rfl ?_
         refine oP (.d (.int .u64 (IntKind.wrap .u64 (rhat10 + yn16)))) p_move ?_
         refine oP (.d (.bool (decide ((IntKind.wrap .u64 (rhat10 + yn16)) ≥ 4294967296)))) (p_int (k := .u64) (p := (IntKind.wrap .u64 (rhat10 + yn16))) (q := 4294967296)) ?_
         refine oEnd ?_
         refine bSplit 85 (h1 := fun hc => ?_) (h2 := fun hc => ?_)
         ·refine oCondT (h := ?_)
          refine oExit rfl ?_
          refine oHead [2, 8, 9, 10, 11, 13, 14, 15] [] (T' := [(2, .d (.int .u64 y7)), (8, .d (.int .u64 s16)), (9, .d (.int .u64 yn16)), (10, .d (.int .u64 yn06)), (11, .d (.int .u64 un326)), (13, .d (.int .u64 un16)), (14, .d (.int .u64 un06)), (15, .d (.int .u64 (IntKind.wrap .u64 (q16 - 1))))]) (H' := []) (hnd := by decide) (h := ?_)
          exact hj3 (y7, s16, yn16, yn06, un326, un16, un06, (IntKind.wrap .u64 (q16 - 1)))
         ·refine oCondF (h := ?_)
          refine oSkip ?_
          refine oBlk ?_
          refine oAgain ?_
          refine oHead [2, 8, 9, 10, 11, 13, 14, 15, 16] [] (T' := [(2, .d (.int .u64 y7)), (8, .d (.int .u64 s16)), (9, .d (.int .u64 yn16)), (10, .d (.int .u64 yn06)), (11, .d (.int .u64 un326)), (13, .d (.int .u64 un16)), (14, .d (.int .u64 un06)), (15, .d (.int .u64 (IntKind.wrap .u64 (q16 - 1)))), (16, .d (.int .u64 (IntKind.wrap .u64 (rhat10 + yn16))))]) (H' := []) (hnd := by decide) (h := ?_)
          exact hag2 (y7, s16, yn16, yn06, un326, un16, un06, (IntKind.wrap .u64 (q16 - 1)), (IntKind.wrap .u64 (rhat10 + yn16)))
        ·refine oCondF (h := ?_)
         refine oExit rfl ?_
         refine oHead [2, 8, 9, 10, 11, 13, 14, 15] [] (T' := [(2, .d (.int .u64 y7)), (8, .d (.int .u64 s16)), (9, .d (.int .u64 yn16)), (10, .d (.int .u64 yn06)), (11, .d (.int .u64 un326)), (13, .d (.int .u64 un16)), (14, .d (.int .u64 un06)), (15, .d (.int .u64 q16))]) (H' := []) (hnd := by decide) (h := ?_)
         exact hj3 (y7, s16, yn16, yn06, un326, un16, un06, q16)
       ·refine bSplit 69 (h1 := fun hc => ?_) (h2 := fun hc => ?_)
        ·refine oNot (h := ?_)
         refine oNot (h := ?_)
         refine oNot (h := ?_)
         refine oNot (h := ?_)
         refine oNot (h := ?_)
         refine oNot (h := ?_)
         refine oNot (h := ?_)
         refine oNot (h := ?_)
         refine oP (.d (.bool true)) (p_pick (b := true)) ?_
         refine oHead [2, 8, 9, 10, 11, 13, 14, 15, 16, 78] [] (T' := [(2, .d (.int .u64 y7)), (8, .d (.int .u64 s16)), (9, .d (.int .u64 yn16)), (10, .d (.int .u64 yn06)), (11, .d (.int .u64 un326)), (13, .d (.int .u64 un16)), (14, .d (.int .u64 un06)), (15, .d (.int .u64 q16)), (16, .d (.int .u64 rhat10)), (78, .d (.bool true))]) (H' := []) (hnd := by decide) (h := ?_)
         exact hj6 true
        ·refine oP (.d (.int .u64 q16)) p_move ?_
         refine oP (.d (.int .u64 yn06)) p_move ?_
         refine oP (.d (.int .u64 (IntKind.wrap .u64 (q16 * yn06)))) (p_int (k := .u64) (p := q16) (q := yn06)) ?_
         refine oP (.d (.int .u64 rhat10)) p_move ?_
         refine oP (.d (.int .u64 (IntKind.wrap .u64 (4294967296 * rhat10)))) (p_int (k := .u64) (p := 4294967296) (q := rhat10)) ?_
         refine oP (.d (.int .u64 un16)) p_move ?_
         refine oP (.d (.int .u64 (IntKind.wrap .u64 ((IntKind.wrap .u64 (4294967296 * rhat10)) + un16)))) (p_int (k := .u64) (p := (IntKind.wrap .u64 (4294967296 * rhat10))) (q := un16)) ?_
         refine oP (.d (.bool (decide ((IntKind.wrap .u64 (q16 * yn06)) > (IntKind.wrap .u64 ((IntKind.wrap .u64 (4294967296 * rhat10)) + un16)))))) (p_int (k := .u64) (p := (IntKind.wrap .u64 (q16 * yn06))) (q := (IntKind.wrap .u64 ((IntKind.wrap .u64 (4294967296 * rhat10)) + un16)))) ?_
         refine oP (.d (.bool (decide ((IntKind.wrap .u64 (q16 * yn06)) > (IntKind.wrap .u64 ((IntKind.wrap .u64 (4294967296 * rhat10)) + un16)))))) (p_pick (b := false)) ?_
         refine oHead [2, 8, 9, 10, 11, 13, 14, 15, 16, 78] [] (T' := [(2, .d (.int .u64 y7)), (8, .d (.int .u64 s16)), (9, .d (.int .u64 yn16)), (10, .d (.int .u64 yn06)), (11, .d (.int .u64 un326)), (13, .d (.int .u64 un16)), (14, .d (.int .u64 un06)), (15, .d (.int .u64 q16)), (16, .d (.int .u64 rhat10)), (78, .d (.bool (decide ((IntKind.wrap .u64 (q16 * yn06)) > (IntKind.wrap .u64 ((IntKind.wrap .u64 (4294967296 * rhat10)) + un16))))))]) (H' := []) (hnd := by decide) (h := ?_)
         exact hj6 (decide ((IntKind.wrap .u64 (q16 * yn06)) > (IntKind.wrap .u64 ((IntKind.wrap .u64 (4294967296 * rhat10)) + un16))))

/-- math/bits.Rem64 -/
def math_bits_Rem64 (k : Nat) (hi : Int) (lo : Int) (y : Int) : Option (Int) := gnz y (Option.bind (math_bits_Div64 k (Int.tmod hi y) lo y) (uc fun r13 => fun r121 => some r121))
def math_bits_Rem64_E (hi : Int) (lo : Int) (y : Int) : Int → V × List Blk := fun r11 => (.d (.int .u64 r11), [])
theorem math_bits_Rem64_goes (k : Nat) (hi : Int) (lo : Int) (y : Int) : RunsO Try.prog 96 [.d (.int .u64 hi), .d (.int .u64 lo), .d (.int .u64 y)] [] (math_bits_Rem64_E hi lo y) (math_bits_Rem64 k hi lo y) := by
  refine RunsO.of_goes (N := 19) (m := 0) (T := [(0, .d (.int .u64 hi)), (1, .d (.int .u64 lo)), (2, .d (.int .u64 y))]) Try.func96 rfl rfl (h := ?_)
  unfold math_bits_Rem64
  refine bStart ?_
  refine oSR rfl ?_
  refine oP (.d (.int .u64 0)) p_assign ?_
  refine oEnd ?_
  refine oSR rfl ?_
  refine oP (.d (.int .u64 hi)) p_move ?_
  refine oP (.d (.int .u64 y)) p_move ?_
  refine bNz (fun h11 => ?_)
  refine oP (.d (.int .u64 (Int.tmod hi y))) (p_rem (k := .u64) (p := hi) (q := y) (hq := h11)) ?_
  refine oP (.d (.int .u64 lo)) p_move ?_
  refine oP (.d (.int .u64 y)) p_move ?_
  refine bCall (caps := []) (v := (uc fun (r13 : Int) => (fun (r121 : Int) => (.tuple [.d (.int .u64 r13), .d (.int .u64 r121)] : V)))) (H' := (uc fun (r13 : Int) => (fun (r121 : Int) => ([] : List Blk)))) [] _ (math_bits_Div64_goes k (Int.tmod hi y) lo y) (ho := rfl) (hfn := Try.func101) (hb := rfl) (hconv := ConvRs.refl _ _) (hnd := by decide) (hBl := fun _ => (by kernel_rfl)) (hv := fun _ => (by kernel_rfl)) (hH' := fun _ => (by kernel_rfl)) (h := fun r => ?_)
  obtain ⟨r13, r121⟩ := r
  refine bUc ?_
  refine oP (.tuple [.d (.int .u64 r13), .d (.int .u64 r121)]) p_move ?_
  refine oP (.d (.int .u64 r13)) k_extract ?_
  refine oP (.d (.int .u64 r121)) k_extract ?_
  refine oP (.d (.int .u64 r13)) p_assign ?_
  refine oP (.d (.int .u64 r121)) p_assign ?_
  refine oEnd ?_
  refine oSR rfl ?_
  refine oP (.d (.int .u64 r121)) p_move ?_
  refine oP (.d (.int .u64 r121)) p_assign ?_
  refine oEnd ?_
  exact oRet (r0 := r121) (rv := .d (.int .u64 r121)) (B := []) (vs := [.d (.int .u64 r121)]) (σ := []) (hf := Try.func96) (hrs := rfl) (hres := .cons _ _ _ _ (.tmp 6 _ (by kernel_rfl)) .nil) (hnd := by decide)

/-- awardingbody/ratio.gcd -/
def ratio_gcd_b1 (k : Nat) (again : Int × Int → Option (Int)) : Int × Int → Option (Int) := uc fun a7 => fun b5 => bif (b5 != 0) then gnz b5 (again (b5, (Int.tmod a7 b5))) else some a7
def ratio_gcd (k : Nat) (a : Int) (b : Int) : Option (Int) := Option.bind (gloop (ratio_gcd_b1 k) k (a, b) : Option (Int)) (fun a6 => some a6)
def ratio_gcd_E (a : Int) (b : Int) : Int → V × List Blk := fun r1 => (.d (.int .u64 r1), [])
theorem ratio_gcd_goes (k : Nat) (a : Int) (b : Int) : RunsO Try.prog 65 [.d (.int .u64 a), .d (.int .u64 b)] [] (ratio_gcd_E a b) (ratio_gcd k a b) := by
  refine RunsO.of_goes (N := 12) (m := 0) (T := [(0, .d (.int .u64 a)), (1, .d (.int .u64 b))]) Try.func65 rfl rfl (h := ?_)
  unfold ratio_gcd
  refine bStart ?_
  refine oSR rfl ?_
  refine oP (.d (.int .u64 0)) p_assign ?_
  refine oEnd ?_
  refine oSeq ?_
  refine bJoin ((fun (a6 : Int) => [(0, .d (.int .u64 a6))])) ((fun (a6 : Int) => [])) (fun s => s) (fun a6 => ?_) (fun hj2 => ?_)
  ·refine oView (T' := [(0, .d (.int .u64 a6))]) (H' := []) (h := ?_)
   refine oSR rfl ?_
   refine oP (.d (.int .u64 a6)) p_move ?_
   refine oP (.d (.int .u64 a6)) p_assign ?_
   refine oEnd ?_
   exact oRet (r0 := a6) (rv := .d (.int .u64 a6)) (B := []) (vs := [.d (.int .u64 a6)]) (σ := []) (hf := Try.func65) (hrs := rfl) (hres := .cons _ _ _ _ (.tmp 4 _ (by kernel_rfl)) .nil) (hnd := by decide)
  ·refine oBlock ?_
   refine oLoop ?_
   refine oHead [0, 1] [] (T' := [(0, .d (.int .u64 a)), (1, .d (.int .u64 b))]) (H' := []) (hnd := by decide) (h := ?_)
   refine bLoop (body := ratio_gcd_b1 k) ((uc fun (a7 : Int) => (fun (b5 : Int) => [(0, .d (.int .u64 a7)), (1, .d (.int .u64 b5))]))) ((uc fun (a7 : Int) => (fun (b5 : Int) => []))) (fun again hag1 s => ?_) k (a, b)
   ·unfold ratio_gcd_b1
    obtain ⟨a7, b5⟩ := s
    refine bUc ?_
    refine oView (T' := [(0, .d (.int .u64 a7)), (1, .d (.int .u64 b5))]) (H' := []) (h := ?_)
    refine oSeq ?_
    refine oSR rfl ?_
    refine oP (.d (.int .u64 b5)) p_move ?_
    refine oP (.d (.bool (b5 != 0))) (p_int (k := .u64) (p := b5) (q := 0)) ?_
    refine oEnd ?_
    refine bSplit 6 (h1 := fun hc => ?_) (h2 := fun hc => ?_)
    ·refine oCondT (h := ?_)
     refine oSkip ?_
     refine oBlock ?_
     refine oDraw [] rfl ?_
     refine aP 0 (.d (.int .u64 b5)) rfl p_move ?_
     refine aP 1 (.d (.int .u64 a7)) rfl p_move ?_
     refine aP 2 (.d (.int .u64 b5)) rfl p_move ?_
     refine dNz (fun h1 => ?_)
     refine aTakeP (i := 3) (.d (.int .u64 (Int.tmod a7 b5))) rfl (hp := p_rem (k := .u64) (p := a7) (q := b5) (hq := h1)) (h := ?_)
     refine aP 4 (.d (.int .u64 b5)) rfl p_assign ?_
     refine aP 5 (.d (.int .u64 (Int.tmod a7 b5))) rfl p_assign ?_
     refine aDone (h := ?_)
     refine oBlk ?_
     refine oAgain ?_
     refine oHead [0, 1] [] (T' := [(0, .d (.int .u64 b5)), (1, .d (.int .u64 (Int.tmod a7 b5)))]) (H' := []) (hnd := by decide) (h := ?_)
     exact hag1 (b5, (Int.tmod a7 b5))
    ·refine oCondF (h := ?_)
     refine oExit rfl ?_
     refine oHead [0] [] (T' := [(0, .d (.int .u64 a7))]) (H' := []) (hnd := by decide) (h := ?_)
     exact hj2 a7

/-- (awardingbody/ratio.wide).over -/
def ratio_wide_over (k : Nat) (w0 : Bool) (w1 : Int) (w2 : Int) (d : Int) : Option (Int × Int) := gnz d (Option.bind (math_bits_Div64 k (Int.tmod w1 d) w2 d) (uc fun r1 => fun r12 => gnz d (some ((IntKind.wrap .u64 (Int.tdiv w1 d)), r1))))
def ratio_wide_over_E (w0 : Bool) (w1 : Int) (w2 : Int) (d : Int) : Int × Int → V × List Blk := uc fun r11 => fun r13 => (.agg [.d (.bool w0), .d (.int .u64 r11), .d (.int .u64 r13)], [])
theorem ratio_wide_over_goes (k : Nat) (w0 : Bool) (w1 : Int) (w2 : Int) (d : Int) : RunsO Try.prog 97 [.agg [.d (.bool w0), .d (.int .u64 w1), .d (.int .u64 w2)], .d (.int .u64 d)] [] (ratio_wide_over_E w0 w1 w2 d) (ratio_wide_over k w0 w1 w2 d) := by
  refine RunsO.of_goes (N := 26) (m := 0) (T := [(0, .agg [.d (.bool w0), .d (.int .u64 w1), .d (.int .u64 w2)]), (1, .d (.int .u64 d))]) Try.func97 rfl rfl (h := ?_)
  unfold ratio_wide_over
  refine bStart ?_
  refine oSR rfl ?_
  refine oD (.ptr 0 0) (k_box (H' := [.box [.d (.bool w0), .d (.int .u64 w1), .d (.int .u64 w2)]]) (cells := [.d (.bool w0), .d (.int .u64 w1), .d (.int .u64 w2)])) ?_
  refine oD (.ptr 1 0) (k_alloc (H' := [.box [.d (.bool w0), .d (.int .u64 w1), .d (.int .u64 w2)], .box [.d (.bool false), .d (.int .u64 0), .d (.int .u64 0)]]) ty106) ?_
  refine oEnd ?_
  refine oSeq ?_
  refine oDraw [(0, 13), (1, 13)] rfl ?_
  refine aP 0 (.ptr 0 1) rfl (k_fieldAddr 0 0 (hu := Try.underlying106) (hf := rfl) (hi := ty62)) ?_
  refine aQ 1 [0] (.d (.int .u64 w1)) rfl (k_load 0 1 (hu := Try.underlying62)) ?_
  refine aP 2 (.d (.int .u64 d)) rfl p_move ?_
  refine dNz (fun h1 => ?_)
  refine aTakeP (i := 3) (.d (.int .u64 (Int.tmod w1 d))) rfl (hp := p_rem (k := .u64) (p := w1) (q := d) (hq := h1)) (h := ?_)
  refine aP 4 (.ptr 0 2) rfl (k_fieldAddr 0 0 (hu := Try.underlying106) (hf := rfl) (hi := ty62)) ?_
  refine aQ 5 [0] (.d (.int .u64 w2)) rfl (k_load 0 2 (hu := Try.underlying62)) ?_
  refine aP 6 (.d (.int .u64 d)) rfl p_move ?_
  refine dCall (i := 7) (caps := []) (v := (uc fun (r1 : Int) => (fun (r12 : Int) => (.tuple [.d (.int .u64 r1), .d (.int .u64 r12)] : V)))) (H' := (uc fun (r1 : Int) => (fun (r12 : Int) => ([.box [.d (.bool w0), .d (.int .u64 w1), .d (.int .u64 w2)], .box [.d (.bool false), .d (.int .u64 0), .d (.int .u64 0)]] : List Blk)))) [] _ (math_bits_Div64_goes k (Int.tmod w1 d) w2 d) rfl (ho := rfl) (hfn := Try.func101) (hb := rfl) (hconv := ConvRs.refl _ _) (hnd := by decide) (hBl := fun _ => (by kernel_rfl)) (hv := fun _ => (by kernel_rfl)) (hH' := fun _ => (by kernel_rfl)) (h := fun r => ?_)
  obtain ⟨r1, r12⟩ := r
  refine dUc ?_
  refine aTakeP (i := 8) (.tuple [.d (.int .u64 r1), .d (.int .u64 r12)]) rfl (hp := p_move) (h := ?_)
  refine aTakeP (i := 9) (.d (.int .u64 r1)) rfl (hp := k_extract) (h := ?_)
  refine aTakeP (i := 10) (.d (.int .u64 r12)) rfl (hp := k_extract) (h := ?_)
  refine aP 11 (.d (.int .u64 r1)) rfl p_assign ?_
  refine aP 12 (.d (.int .u64 r12)) rfl p_assign ?_
  refine aDone (h := ?_)
  refine oSeq ?_
  refine oDraw [(0, 9), (1, 8)] rfl ?_
  refine aP 0 (.ptr 0 0) rfl (k_fieldAddr 0 0 (hu := Try.underlying106) (hf := rfl) (hi := ty4)) ?_
  refine aQ 1 [0] (.d (.bool w0)) rfl (k_load 0 0 (hu := Try.underlying4)) ?_
  refine aP 2 (.ptr 0 1) rfl (k_fieldAddr 0 0 (hu := Try.underlying106) (hf := rfl) (hi := ty62)) ?_
  refine aQ 3 [0] (.d (.int .u64 w1)) rfl (k_load 0 1 (hu := Try.underlying62)) ?_
  refine aP 4 (.d (.int .u64 d)) rfl p_move ?_
  refine dNz (fun h13 => ?_)
  refine aTakeP (i := 5) (.d (.int .u64 (IntKind.wrap .u64 (Int.tdiv w1 d)))) rfl (hp := p_quo (k := .u64) (p := w1) (q := d) (hq := h13)) (h := ?_)
  refine aP 6 (.d (.int .u64 r1)) rfl p_move ?_
  refine aP 7 (.agg [.d (.bool w0), .d (.int .u64 (IntKind.wrap .u64 (Int.tdiv w1 d))), .d (.int .u64 r1)]) rfl (p_build bld106) ?_
  refine aOne (i := 8) (v := .undef) rfl (hac := Does.acts (k_store (vs := [.d (.bool w0), .d (.int .u64 (IntKind.wrap .u64 (Int.tdiv w1 d))), .d (.int .u64 r1)]) (H' := [.box [.d (.bool w0), .d (.int .u64 w1), .d (.int .u64 w2)], .box [.d (.bool w0), .d (.int .u64 (IntKind.wrap .u64 (Int.tdiv w1 d))), .d (.int .u64 r1)]]) 1 0 (hi := ty106))) (h := ?_)
  refine aDone (h := ?_)
  exact oRet (r0 := ((IntKind.wrap .u64 (Int.tdiv w1 d)), r1)) (rv := .agg [.d (.bool w0), .d (.int .u64 (IntKind.wrap .u64 (Int.tdiv w1 d))), .d (.int .u64 r1)]) (B := []) (vs := [.agg [.d (.bool w0), .d (.int .u64 (IntKind.wrap .u64 (Int.tdiv w1 d))), .d (.int .u64 r1)]]) (σ := []) (hf := Try.func97) (hrs := rfl) (hres := .cons _ _ _ _ (.agg 4 106 1 0 [.d (.bool w0), .d (.int .u64 (IntKind.wrap .u64 (Int.tdiv w1 d))), .d (.int .u64 r1)] [.d (.bool w0), .d (.int .u64 (IntKind.wrap .u64 (Int.tdiv w1 d))), .d (.int .u64 r1)] _ _ _ _ (by kernel_rfl) (by kernel_rfl) Try.underlying106 (by kernel_rfl) ty106 (by kernel_rfl) (by kernel_rfl)) .nil) (hnd := by decide)

/-- awardingbody/ratio.lowest -/
def ratio_lowest (k : Nat) (num0 : Bool) (num1 : Int) (num2 : Int) (den : Int) : Option (Int × Int × Int) := Option.bind (math_bits_Rem64 k num1 num2 den) (fun r112 => Option.bind (ratio_gcd k den r112) (fun r16 => gnz r16 (Option.bind (ratio_wide_over k num0 num1 num2 r16) (uc fun r111 => fun r13 => Option.bind (bif (r111 != 0) then some ((IntKind.wrap .u64 (Int.tdiv den r16)), true) else some ((IntKind.wrap .u64 (Int.tdiv den r16)), (decide (r13 > 1152921504606846976))) : Option (Int × Bool)) (uc fun den4 => fun x4 => blet (x4 || (decide (den4 > 1152921504606846976))) fun x5 => bif x5 then some (0, 0, 6) else Option.bind (bif num0 then some (IntKind.wrap .i64 (0 - (IntKind.wrap .i64 r13))) else some (IntKind.wrap .i64 r13) : Option (Int)) (fun n1 => some (n1, (IntKind.wrap .i64 den4), 0)))))))
def ratio_lowest_E (num0 : Bool) (num1 : Int) (num2 : Int) (den : Int) : Int × Int × Int → V × List Blk := uc fun r12 => uc fun r14 => fun r15 => (.tuple [.agg [.d (.int .i64 r12), .d (.int .i64 r14)], .d (.int .i64 r15)], [])
theorem ratio_lowest_goes (k : Nat) (num0 : Bool) (num1 : Int) (num2 : Int) (den : Int) : RunsO Try.prog 89 [.agg [.d (.bool num0), .d (.int .u64 num1), .d (.int .u64 num2)], .d (.int .u64 den)] [] (ratio_lowest_E num0 num1 num2 den) (ratio_lowest k num0 num1 num2 den) := by
  refine RunsO.of_goes (N := 46) (m := 0) (T := [(0, .agg [.d (.bool num0), .d (.int .u64 num1), .d (.int .u64 num2)]), (1, .d (.int .u64 den))]) Try.func89 rfl rfl (h := ?_)
  unfold ratio_lowest
  refine bStart ?_
  refine oSR rfl ?_
  refine oD (.ptr 0 0) (k_box (H' := [.box [.d (.bool num0), .d (.int .u64 num1), .d (.int .u64 num2)]]) (cells := [.d (.bool num0), .d (.int .u64 num1), .d (.int .u64 num2)])) ?_
  refine oD (.ptr 1 0) (k_alloc (H' := [.box [.d (.bool num0), .d (.int .u64 num1), .d (.int .u64 num2)], .box [.d (.int .i64 0), .d (.int .i64 0)]]) ty38) ?_
  refine oP (.d (.int .i64 0)) p_assign ?_
  refine oEnd ?_
  refine oSR rfl ?_
  refine oP (.d (.int .u64 den)) p_move ?_
  refine oP (.ptr 0 1) (k_fieldAddr 0 0 (hu := Try.underlying106) (hf := rfl) (hi := ty62)) ?_
  refine oQ (.d (.int .u64 num1)) (k_load 0 1 (hu := Try.underlying62)) ?_
  refine oP (.ptr 0 2) (k_fieldAddr 0 0 (hu := Try.underlying106) (hf := rfl) (hi := ty62)) ?_
  refine oQ (.d (.int .u64 num2)) (k_load 0 2 (hu := Try.underlying62)) ?_
  refine oP (.d (.int .u64 den)) p_move ?_
  refine bCall (caps := []) (v := (fun (r112 : Int) => (.d (.int .u64 r112) : V))) (H' := (fun (r112 : Int) => ([.box [.d (.bool num0), .d (.int .u64 num1), .d (.int .u64 num2)], .box [.d (.int .i64 0), .d (.int .i64 0)]] : List Blk))) [] _ (math_bits_Rem64_goes k num1 num2 den) (ho := rfl) (hfn := Try.func96) (hb := rfl) (hconv := ConvRs.refl _ _) (hnd := by decide) (hBl := fun _ => (by kernel_rfl)) (hv := fun _ => (by kernel_rfl)) (hH' := fun _ => (by kernel_rfl)) (h := fun r112 => ?_)
  refine bCall (caps := []) (v := (fun (r16 : Int) => (.d (.int .u64 r16) : V))) (H' := (fun (r16 : Int) => ([.box [.d (.bool num0), .d (.int .u64 num1), .d (.int .u64 num2)], .box [.d (.int .i64 0), .d (.int .i64 0)]] : List Blk))) [] _ (ratio_gcd_goes k den r112) (ho := rfl) (hfn := Try.func65) (hb := rfl) (hconv := ConvRs.refl _ _) (hnd := by decide) (hBl := fun _ => (by kernel_rfl)) (hv := fun _ => (by kernel_rfl)) (hH' := fun _ => (by kernel_rfl)) (h := fun r16 => ?_)
  refine oP (.d (.int .u64 r16)) p_assign ?_
  refine oEnd ?_
  refine oSeq ?_
  refine oDraw [(0, 6), (1, 8)] rfl ?_
  refine aQ 0 [0] (.agg [.d (.bool num0), .d (.int .u64 num1), .d (.int .u64 num2)]) rfl (k_loadAgg 0 0 (hu := Try.underlying106) (hi := ty106)) ?_
  refine aP 1 (.d (.int .u64 r16)) rfl p_move ?_
  refine aP 3 (.d (.int .u64 den)) rfl p_move ?_
  refine aP 4 (.d (.int .u64 r16)) rfl p_move ?_
  refine dNz (fun h1 => ?_)
  refine aTakeP (i := 5) (.d (.int .u64 (IntKind.wrap .u64 (Int.tdiv den r16)))) rfl (hp := p_quo (k := .u64) (p := den) (q := r16) (hq := h1)) (h := ?_)
  refine dCall (i := 2) (caps := []) (v := (uc fun (r111 : Int) => (fun (r13 : Int) => (.agg [.d (.bool num0), .d (.int .u64 r111), .d (.int .u64 r13)] : V)))) (H' := (uc fun (r111 : Int) => (fun (r13 : Int) => ([.box [.d (.bool num0), .d (.int .u64 num1), .d (.int .u64 num2)], .box [.d (.int .i64 0), .d (.int .i64 0)]] : List Blk)))) [] _ (ratio_wide_over_goes k num0 num1 num2 r16) rfl (ho := rfl) (hfn := Try.func97) (hb := rfl) (hconv := ConvRs.refl _ _) (hnd := by decide) (hBl := fun _ => (by kernel_rfl)) (hv := fun _ => (by kernel_rfl)) (hH' := fun _ => (by kernel_rfl)) (h := fun r => ?_)
  obtain ⟨r111, r13⟩ := r
  refine dUc ?_
  refine aOne (i := 6) (v := .undef) rfl (hac := Does.acts (k_store (vs := [.d (.bool num0), .d (.int .u64 r111), .d (.int .u64 r13)]) (H' := [.box [.d (.bool num0), .d (.int .u64 r111), .d (.int .u64 r13)], .box [.d (.int .i64 0), .d (.int .i64 0)]]) 0 0 (hi := ty106))) (h := ?_)
  refine aP 7 (.d (.int .u64 (IntKind.wrap .u64 (Int.tdiv den r16)))) rfl p_assign ?_
  refine aDone (h := ?_)
  refine oSeq ?_
  refine oSR rfl ?_
  refine oP (.ptr 0 1) (k_fieldAddr 0 0 (hu := Try.underlying106) (hf := rfl) (hi := ty62)) ?_
  refine oQ (.d (.int .u64 r111)) (k_load 0 1 (hu := Try.underlying62)) ?_
  refine oP (.d (.bool (r111 != 0))) (p_int (k := .u64) (p := r111) (q := 0)) ?_
  refine oP (.d (.bool (r111 != 0))) p_move ?_
  refine bMeet 4 rfl ((uc fun (den4 : Int) => (fun (x4 : Bool) => [(1, .d (.int .u64 den4)), (2, .ptr 0 0), (4, .ptr 1 0), (29, .d (.bool x4))]))) ((uc fun (den4 : Int) => (fun (x4 : Bool) => [.box [.d (.bool num0), .d (.int .u64 r111), .d (.int .u64 r13)], .box [.d (.int .i64 0), .d (.int .i64 0)]]))) (fun s => s) (fun s => ?_) (fun hj4 => ?_)
  ·obtain ⟨den4, x4⟩ := s
   refine bUc ?_
   refine oView (T' := [(1, .d (.int .u64 den4)), (2, .ptr 0 0), (4, .ptr 1 0), (29, .d (.bool x4))]) (H' := [.box [.d (.bool num0), .d (.int .u64 r111), .d (.int .u64 r13)], .box [.d (.int .i64 0), .d (.int .i64 0)]]) (h := ?_)
   refine oP (.d (.bool x4)) p_move ?_
   refine bMeetF (H' := [.box [.d (.bool num0), .d (.int .u64 r111), .d (.int .u64 r13)], .box [.d (.int .i64 0), .d (.int .i64 0)]]) 3 rfl ((fun (x5 : Bool) => [(1, .d (.int .u64 den4)), (2, .ptr 0 0), (4, .ptr 1 0), (33, .d (.bool x5))])) (fun x5 => ?_) (fun F hj2 => ?_)
   ·refine oView (T' := [(1, .d (.int .u64 den4)), (2, .ptr 0 0), (4, .ptr 1 0), (33, .d (.bool x5))]) (H' := [.box [.d (.bool num0), .d (.int .u64 r111), .d (.int .u64 r13)], .box [.d (.int .i64 0), .d (.int .i64 0)]]) (h := ?_)
    refine oEnd ?_
    refine bSplit 33 (h1 := fun hc => ?_) (h2 := fun hc => ?_)
    ·refine oCondT (h := ?_)
     refine oSR rfl ?_
     refine oP (.agg [.d (.int .i64 0), .d (.int .i64 0)]) (p_build bld38) ?_
     refine oD (.undef) (k_store (vs := [.d (.int .i64 0), .d (.int .i64 0)]) (H' := [.box [.d (.bool num0), .d (.int .u64 r111), .d (.int .u64 r13)], .box [.d (.int .i64 0), .d (.int .i64 0)]]) 1 0 (hi := ty38)) ?_
     refine oP (.d (.int .i64 6)) p_assign ?_
     refine oEnd ?_
     exact oRet (r0 := (0, 0, 6)) (rv := .tuple [.agg [.d (.int .i64 0), .d (.int .i64 0)], .d (.int .i64 6)]) (B := []) (vs := [.agg [.d (.int .i64 0), .d (.int .i64 0)], .d (.int .i64 6)]) (σ := []) (hf := Try.func89) (hrs := rfl) (hres := .cons _ _ _ _ (.agg 4 38 1 0 [.d (.int .i64 0), .d (.int .i64 0)] [.d (.int .i64 0), .d (.int .i64 0)] _ _ _ _ (by kernel_rfl) (by kernel_rfl) Try.underlying38 (by kernel_rfl) ty38 (by kernel_rfl) (by kernel_rfl)) (.cons _ _ _ _ (.tmp 5 _ (by kernel_rfl)) .nil)) (hnd := by decide)
    ·refine oCondF (h := ?_)
     refine oSkip ?_
     refine oSR rfl ?_
     refine oP (.ptr 0 2) (k_fieldAddr 0 0 (hu := Try.underlying106) (hf := rfl) (hi := ty62)) ?_
     refine oQ (.d (.int .u64 r13)) (k_load 0 2 (hu := Try.underlying62)) ?_
     refine oP (.d (.int .i64 (IntKind.wrap .i64 r13))) (p_conv (k := .u64) (p := r13) (hu1 := Try.underlying62) (hu2 := Try.underlying3)) ?_
     refine oP (.d (.int .i64 (IntKind.wrap .i64 r13))) p_assign ?_
     refine oEnd ?_
     refine oSeq ?_
     refine oSR rfl ?_
     refine oP (.ptr 0 0) (k_fieldAddr 0 0 (hu := Try.underlying106) (hf := rfl) (hi := ty4)) ?_
     refine oQ (.d (.bool num0)) (k_load 0 0 (hu := Try.underlying4)) ?_
     refine oEnd ?_
     refine bJoin ((fun (n1 : Int) => [(1, .d (.int .u64 den4)), (4, .ptr 0 0), (7, .d (.int .i64 n1))])) ((fun (n1 : Int) => [.box [.d (.int .i64 0), .d (.int .i64 0)]])) (fun s => s) (fun n1 => ?_) (fun hj3 => ?_)
     ·refine oView (T' := [(1, .d (.int .u64 den4)), (4, .ptr 0 0), (7, .d (.int .i64 n1))]) (H' := [.box [.d (.int .i64 0), .d (.int .i64 0)]]) (h := ?_)
      refine oSR rfl ?_
      refine oP (.d (.int .i64 n1)) p_move ?_
      refine oP (.d (.int .u64 den4)) p_move ?_
      refine oP (.d (.int .i64 (IntKind.wrap .i64 den4))) (p_conv (k := .u64) (p := den4) (hu1 := Try.underlying62) (hu2 := Try.underlying3)) ?_
      refine oP (.agg [.d (.int .i64 n1), .d (.int .i64 (IntKind.wrap .i64 den4))]) (p_build bld38) ?_
      refine oD (.undef) (k_store (vs := [.d (.int .i64 n1), .d (.int .i64 (IntKind.wrap .i64 den4))]) (H' := [.box [.d (.int .i64 n1), .d (.int .i64 (IntKind.wrap .i64 den4))]]) 0 0 (hi := ty38)) ?_
      refine oP (.d (.int .i64 0)) p_assign ?_
      refine oEnd ?_
      exact oRet (r0 := (n1, (IntKind.wrap .i64 den4), 0)) (rv := .tuple [.agg [.d (.int .i64 n1), .d (.int .i64 (IntKind.wrap .i64 den4))], .d (.int .i64 0)]) (B := []) (vs := [.agg [.d (.int .i64 n1), .d (.int .i64 (IntKind.wrap .i64 den4))], .d (.int .i64 0)]) (σ := []) (hf := Try.func89) (hrs := rfl) (hres := .cons _ _ _ _ (.agg 4 38 0 0 [.d (.int .i64 n1), .d (.int .i64 (IntKind.wrap .i64 den4))] [.d (.int .i64 n1), .d (.int .i64 (IntKind.wrap .i64 den4))] _ _ _ _ (by kernel_rfl) (by kernel_rfl) Try.underlying38 (by kernel_rfl) ty38 (by kernel_rfl) (by kernel_rfl)) (.cons _ _ _ _ (.tmp 5 _ (by kernel_rfl)) .nil)) (hnd := by decide)
     ·refine bSplit 39 (h1 := fun hc => ?_) (h2 := fun hc => ?_)
      ·refine oCondT (h := ?_)
       refine oRegion rfl ?_
       refine oP (.d (.int .i64 (IntKind.wrap .i64 r13))) p_move ?_
       refine oP (.d (.int .i64 (IntKind.wrap .i64 (0 - (IntKind.wrap .i64 r13))))) (p_neg (k := .i64) (p := (IntKind.wrap .i64 r13))) ?_
       refine oP (.d (.int .i64 (IntKind.wrap .i64 (0 - (IntKind.wrap .i64 r13))))) p_assign ?_
       refine oEnd ?_
       refine oHead [1, 4, 7] [1] (T' := [(1, .d (.int .u64 den4)), (4, .ptr 0 0), (7, .d (.int .i64 (IntKind.wrap .i64 (0 - (IntKind.wrap .i64 r13)))))]) (H' := [.box [.d (.int .i64 0), .d (.int .i64 0)]]) (hnd := by decide) (h := ?_)
       exact hj3 (IntKind.wrap .i64 (0 - (IntKind.wrap .i64 r13)))
      ·refine oCondF (h := ?_)
       refine oSkip ?_
       refine oHead [1, 4, 7] [1] (T' := [(1, .d (.int .u64 den4)), (4, .ptr 0 0), (7, .d (.int .i64 (IntKind.wrap .i64 r13)))]) (H' := [.box [.d (.int .i64 0), .d (.int .i64 0)]]) (hnd := by decide) (h := ?_)
       exact hj3 (IntKind.wrap .i64 r13)
   ·refine bPickF 30 (fun c => F (c || (decide (den4 > 1152921504606846976)))) (h1 := fun hc => ?_) (h2 := fun hc => ?_)
    ·refine oNot (h := ?_)
     refine oNot (h := ?_)
     refine oP (.d (.bool true)) (p_pick (b := true)) ?_
     refine oHead [1, 2, 4, 33] [0, 1] (T' := [(1, .d (.int .u64 den4)), (2, .ptr 0 0), (4, .ptr 1 0), (33, .d (.bool true))]) (H' := [.box [.d (.bool num0), .d (.int .u64 r111), .d (.int .u64 r13)], .box [.d (.int .i64 0), .d (.int .i64 0)]]) (hnd := by decide) (h := ?_)
     exact hj2 true
    ·refine oP (.d (.int .u64 den4)) p_move ?_
     refine oP (.d (.bool (decide (den4 > 1152921504606846976)))) (p_int (k := .u64) (p := den4) (q := 1152921504606846976)) ?_
     refine oP (.d (.bool (decide (den4 > 1152921504606846976)))) (p_pick (b := false)) ?_
     refine oHead [1, 2, 4, 33] [0, 1] (T' := [(1, .d (.int .u64 den4)), (2, .ptr 0 0), (4, .ptr 1 0), (33, .d (.bool (decide (den4 > 1152921504606846976))))]) (H' := [.box [.d (.bool num0), .d (.int .u64 r111), .d (.int .u64 r13)], .box [.d (.int .i64 0), .d (.int .i64 0)]]) (hnd := by decide) (h := ?_)
     exact hj2 (decide (den4 > 1152921504606846976))
  ·refine bSplit 25 (h1 := fun hc => ?_) (h2 := fun hc => ?_)
   ·refine oNot (h := ?_)
    refine oNot (h := ?_)
    refine oNot (h := ?_)
    refine oP (.d (.bool true)) (p_pick (b := true)) ?_
    refine oHead [1, 2, 4, 29] [0, 1] (T' := [(1, .d (.int .u64 (IntKind.wrap .u64 (Int.tdiv den r16)))), (2, .ptr 0 0), (4, .ptr 1 0), (29, .d (.bool true))]) (H' := [.box [.d (.bool num0), .d (.int .u64 r111), .d (.int .u64 r13)], .box [.d (.int .i64 0), .d (.int .i64 0)]]) (hnd := by decide) (h := ?_)
    exact hj4 ((IntKind.wrap .u64 (Int.tdiv den r16)), true)
   ·refine oP (.ptr 0 2) (k_fieldAddr 0 0 (hu := Try.underlying106) (hf := rfl) (hi := ty62)) ?_
    refine oQ (.d (.int .u64 r13)) (k_load 0 2 (hu := Try.underlying62)) ?_
    refine oP (.d (.bool (decide (r13 > 1152921504606846976)))) (p_int (k := .u64) (p := r13) (q := 1152921504606846976)) ?_
    refine oP (.d (.bool (decide (r13 > 1152921504606846976)))) (p_pick (b := false)) ?_
    refine oHead [1, 2, 4, 29] [0, 1] (T' := [(1, .d (.int .u64 (IntKind.wrap .u64 (Int.tdiv den r16)))), (2, .ptr 0 0), (4, .ptr 1 0), (29, .d (.bool (decide (r13 > 1152921504606846976))))]) (H' := [.box [.d (.bool num0), .d (.int .u64 r111), .d (.int .u64 r13)], .box [.d (.int .i64 0), .d (.int .i64 0)]]) (hnd := by decide) (h := ?_)
    exact hj4 ((IntKind.wrap .u64 (Int.tdiv den r16)), (decide (r13 > 1152921504606846976)))

/-- awardingbody/ratio.New -/
def ratio_New (k : Nat) (num : Int) (den : Int) : Option (Int × Int × Int) := bif (den == 0) then some (0, 0, 2) else Option.bind (ratio_abs k num) (fun r18 => Option.bind (ratio_abs k den) (fun r19 => Option.bind (ratio_lowest k (!((decide (num < 0)) == (decide (den < 0)))) 0 r18 r19) (uc fun r121 => uc fun r141 => fun r151 => some (r121, r141, r151))))
def ratio_New_E (num : Int) (den : Int) : Int × Int × Int → V × List Blk := uc fun r13 => uc fun r16 => fun r17 => (.tuple [.agg [.d (.int .i64 r13), .d (.int .i64 r16)], .d (.int .i64 r17)], [])
theorem ratio_New_goes (k : Nat) (num : Int) (den : Int) : RunsO Try.prog 61 [.d (.int .i64 num), .d (.int .i64 den)] [] (ratio_New_E num den) (ratio_New k num den) := by
  refine RunsO.of_goes (N := 22) (m := 0) (T := [(0, .d (.int .i64 num)), (1, .d (.int .i64 den))]) Try.func61 rfl rfl (h := ?_)
  unfold ratio_New
  refine bStart ?_
  refine oSR rfl ?_
  refine oD (.ptr 0 0) (k_alloc (H' := [.box [.d (.int .i64 0), .d (.int .i64 0)]]) ty38) ?_
  refine oP (.d (.int .i64 0)) p_assign ?_
  refine oEnd ?_
  refine oSeq ?_
  refine oSR rfl ?_
  refine oP (.d (.int .i64 den)) p_move ?_
  refine oP (.d (.bool (den == 0))) (p_int (k := .i64) (p := den) (q := 0)) ?_
  refine oEnd ?_
  refine bSplit 7 (h1 := fun hc => ?_) (h2 := fun hc => ?_)
  ·refine oCondT (h := ?_)
   refine oSR rfl ?_
   refine oP (.agg [.d (.int .i64 0), .d (.int .i64 0)]) (p_build bld38) ?_
   refine oD (.undef) (k_store (vs := [.d (.int .i64 0), .d (.int .i64 0)]) (H' := [.box [.d (.int .i64 0), .d (.int .i64 0)]]) 0 0 (hi := ty38)) ?_
   refine oP (.d (.int .i64 2)) p_assign ?_
   refine oEnd ?_
   exact oRet (r0 := (0, 0, 2)) (rv := .tuple [.agg [.d (.int .i64 0), .d (.int .i64 0)], .d (.int .i64 2)]) (B := []) (vs := [.agg [.d (.int .i64 0), .d (.int .i64 0)], .d (.int .i64 2)]) (σ := []) (hf := Try.func61) (hrs := rfl) (hres := .cons _ _ _ _ (.agg 4 38 0 0 [.d (.int .i64 0), .d (.int .i64 0)] [.d (.int .i64 0), .d (.int .i64 0)] _ _ _ _ (by kernel_rfl) (by kernel_rfl) Try.underlying38 (by kernel_rfl) ty38 (by kernel_rfl) (by kernel_rfl)) (.cons _ _ _ _ (.tmp 5 _ (by kernel_rfl)) .nil)) (hnd := by decide)
  ·refine oCondF (h := ?_)
   refine oSkip ?_
   refine oSR rfl ?_
   refine oP (.d (.int .i64 num)) p_move ?_
   refine oP (.d (.bool (decide (num < 0)))) (p_int (k := .i64) (p := num) (q := 0)) ?_
   refine oP (.d (.int .i64 den)) p_move ?_
   refine oP (.d (.bool (decide (den < 0)))) (p_int (k := .i64) (p := den) (q := 0)) ?_
   refine oP (.d (.bool (!((decide (num < 0)) == (decide (den < 0)))))) (p_boolNe (p := (decide (num < 0))) (q := (decide (den < 0))) (hu := Try.underlying4)) ?_
   refine oP (.d (.int .i64 num)) p_move ?_
   refine bCall (caps := []) (v := (fun (r18 : Int) => (.d (.int .u64 r18) : V))) (H' := (fun (r18 : Int) => ([.box [.d (.int .i64 0), .d (.int .i64 0)]] : List Blk))) [] _ (ratio_abs_goes k num) (ho := rfl) (hfn := Try.func66) (hb := rfl) (hconv := ConvRs.refl _ _) (hnd := by decide) (hBl := fun _ => (by kernel_rfl)) (hv := fun _ => (by kernel_rfl)) (hH' := fun _ => (by kernel_rfl)) (h := fun r18 => ?_)
   refine oP (.agg [.d (.bool (!((decide (num < 0)) == (decide (den < 0))))), .d (.int .u64 0), .d (.int .u64 r18)]) (p_build bld106) ?_
   refine oP (.d (.int .i64 den)) p_move ?_
   refine bCall (caps := []) (v := (fun (r19 : Int) => (.d (.int .u64 r19) : V))) (H' := (fun (r19 : Int) => ([.box [.d (.int .i64 0), .d (.int .i64 0)]] : List Blk))) [] _ (ratio_abs_goes k den) (ho := rfl) (hfn := Try.func66) (hb := rfl) (hconv := ConvRs.refl _ _) (hnd := by decide) (hBl := fun _ => (by kernel_rfl)) (hv := fun _ => (by kernel_rfl)) (hH' := fun _ => (by kernel_rfl)) (h := fun r19 => ?_)
   refine bCall (caps := []) (v := (uc fun (r121 : Int) => (uc fun (r141 : Int) => (fun (r151 : Int) => (.tuple [.agg [.d (.int .i64 r121), .d (.int .i64 r141)], .d (.int .i64 r151)] : V))))) (H' := (uc fun (r121 : Int) => (uc fun (r141 : Int) => (fun (r151 : Int) => ([.box [.d (.int .i64 0), .d (.int .i64 0)]] : List Blk))))) [] _ (ratio_lowest_goes k (!((decide (num < 0)) == (decide (den < 0)))) 0 r18 r19) (ho := rfl) (hfn := Try.func89) (hb := rfl) (hconv := ConvRs.refl _ _) (hnd := by decide) (hBl := fun _ => (by kernel_rfl)) (hv := fun _ => (by kernel_rfl)) (hH' := fun _ => (by kernel_rfl)) (h := fun r => ?_)
   obtain ⟨r121, r141, r151⟩ := r
   refine bUc ?_
   refine bUc ?_
   refine oP (.agg [.d (.int .i64 r121), .d (.int .i64 r141)]) k_extract ?_
   refine oP (.d (.int .i64 r151)) k_extract ?_
   refine oD (.undef) (k_store (vs := [.d (.int .i64 r121), .d (.int .i64 r141)]) (H' := [.box [.d (.int .i64 r121), .d (.int .i64 r141)]]) 0 0 (hi := ty38)) ?_
   refine oP (.d (.int .i64 r151)) p_assign ?_
   refine oEnd ?_
   exact oRet (r0 := (r121, r141, r151)) (rv := .tuple [.agg [.d (.int .i64 r121), .d (.int .i64 r141)], .d (.int .i64 r151)]) (B := []) (vs := [.agg [.d (.int .i64 r121), .d (.int .i64 r141)], .d (.int .i64 r151)]) (σ := []) (hf := Try.func61) (hrs := rfl) (hres := .cons _ _ _ _ (.agg 4 38 0 0 [.d (.int .i64 r121), .d (.int .i64 r141)] [.d (.int .i64 r121), .d (.int .i64 r141)] _ _ _ _ (by kernel_rfl) (by kernel_rfl) Try.underlying38 (by kernel_rfl) ty38 (by kernel_rfl) (by kernel_rfl)) (.cons _ _ _ _ (.tmp 5 _ (by kernel_rfl)) .nil)) (hnd := by decide)

/-- awardingbody/equating.within -/
def equating_within (k : Nat) (s1 : Int) (part : Int) (count : Int) : Option (Int × Int × Int) := Option.bind (ratio_New k (IntKind.wrap .i64 ((IntKind.wrap .i64 ((IntKind.wrap .i64 ((IntKind.wrap .i64 (2 * s1)) - 1)) * count)) + (IntKind.wrap .i64 (2 * part)))) (IntKind.wrap .i64 (2 * count))) (uc fun r131 => uc fun r161 => fun r171 => some (r131, r161, r171))
def equating_within_E (s1 : Int) (part : Int) (count : Int) : Int × Int × Int → V × List Blk := uc fun r1 => uc fun r11 => fun r12 => (.tuple [.agg [.d (.int .i64 r1), .d (.int .i64 r11)], .d (.int .i64 r12)], [])
theorem equating_within_goes (k : Nat) (s1 : Int) (part : Int) (count : Int) : RunsO Try.prog 34 [.d (.int .i64 s1), .d (.int .i64 part), .d (.int .i64 count)] [] (equating_within_E s1 part count) (equating_within k s1 part count) := by
  refine RunsO.of_goes (N := 21) (m := 0) (T := [(0, .d (.int .i64 s1)), (1, .d (.int .i64 part)), (2, .d (.int .i64 count))]) Try.func34 rfl rfl (h := ?_)
  unfold equating_within
  refine bStart ?_
  refine oSR rfl ?_
  refine oD (.ptr 0 0) (k_alloc (H' := [.box [.d (.int .i64 0), .d (.int .i64 0)]]) ty38) ?_
  refine oP (.d (.int .i64 0)) p_assign ?_
  refine oEnd ?_
  refine oSR rfl ?_
  refine oP (.d (.int .i64 s1)) p_move ?_
  refine oP (.d (.int .i64 (IntKind.wrap .i64 (2 * s1)))) (p_int (k := .i64) (p := 2) (q := s1)) ?_
  refine oP (.d (.int .i64 (IntKind.wrap .i64 ((IntKind.wrap .i64 (2 * s1)) - 1)))) (p_int (k := .i64) (p := (IntKind.wrap .i64 (2 * s1))) (q := 1)) ?_
  refine oP (.d (.int .i64 count)) p_move ?_
  refine oP (.d (.int .i64 (IntKind.wrap .i64 ((IntKind.wrap .i64 ((IntKind.wrap .i64 (2 * s1)) - 1)) * count)))) (p_int (k := .i64) (p := (IntKind.wrap .i64 ((IntKind.wrap .i64 (2 * s1)) - 1))) (q := count)) ?_
  refine oP (.d (.int .i64 part)) p_move ?_
  refine oP (.d (.int .i64 (IntKind.wrap .i64 (2 * part)))) (p_int (k := .i64) (p := 2) (q := part)) ?_
  refine oP (.d (.int .i64 (IntKind.wrap .i64 ((IntKind.wrap .i64 ((IntKind.wrap .i64 ((IntKind.wrap .i64 (2 * s1)) - 1)) * count)) + (IntKind.wrap .i64 (2 * part)))))) (p_int (k := .i64) (p := (IntKind.wrap .i64 ((IntKind.wrap .i64 ((IntKind.wrap .i64 (2 * s1)) - 1)) * count))) (q := (IntKind.wrap .i64 (2 * part)))) ?_
  refine oP (.d (.int .i64 count)) p_move ?_
  refine oP (.d (.int .i64 (IntKind.wrap .i64 (2 * count)))) (p_int (k := .i64) (p := 2) (q := count)) ?_
  refine bCall (caps := []) (v := (uc fun (r131 : Int) => (uc fun (r161 : Int) => (fun (r171 : Int) => (.tuple [.agg [.d (.int .i64 r131), .d (.int .i64 r161)], .d (.int .i64 r171)] : V))))) (H' := (uc fun (r131 : Int) => (uc fun (r161 : Int) => (fun (r171 : Int) => ([.box [.d (.int .i64 0), .d (.int .i64 0)]] : List Blk))))) [] _ (ratio_New_goes k (IntKind.wrap .i64 ((IntKind.wrap .i64 ((IntKind.wrap .i64 ((IntKind.wrap .i64 (2 * s1)) - 1)) * count)) + (IntKind.wrap .i64 (2 * part)))) (IntKind.wrap .i64 (2 * count))) (ho := rfl) (hfn := Try.func61) (hb := rfl) (hconv := ConvRs.refl _ _) (hnd := by decide) (hBl := fun _ => (by kernel_rfl)) (hv := fun _ => (by kernel_rfl)) (hH' := fun _ => (by kernel_rfl)) (h := fun r => ?_)
  obtain ⟨r131, r161, r171⟩ := r
  refine bUc ?_
  refine bUc ?_
  refine oP (.agg [.d (.int .i64 r131), .d (.int .i64 r161)]) k_extract ?_
  refine oP (.d (.int .i64 r171)) k_extract ?_
  refine oD (.undef) (k_store (vs := [.d (.int .i64 r131), .d (.int .i64 r161)]) (H' := [.box [.d (.int .i64 r131), .d (.int .i64 r161)]]) 0 0 (hi := ty38)) ?_
  refine oP (.d (.int .i64 r171)) p_assign ?_
  refine oEnd ?_
  exact oRet (r0 := (r131, r161, r171)) (rv := .tuple [.agg [.d (.int .i64 r131), .d (.int .i64 r161)], .d (.int .i64 r171)]) (B := []) (vs := [.agg [.d (.int .i64 r131), .d (.int .i64 r161)], .d (.int .i64 r171)]) (σ := []) (hf := Try.func34) (hrs := rfl) (hres := .cons _ _ _ _ (.agg 6 38 0 0 [.d (.int .i64 r131), .d (.int .i64 r161)] [.d (.int .i64 r131), .d (.int .i64 r161)] _ _ _ _ (by kernel_rfl) (by kernel_rfl) Try.underlying38 (by kernel_rfl) ty38 (by kernel_rfl) (by kernel_rfl)) (.cons _ _ _ _ (.tmp 7 _ (by kernel_rfl)) .nil)) (hnd := by decide)

/-- awardingbody/ratio.Valid -/
def ratio_Valid (k : Nat) (a0 : Int) (a1 : Int) : Option (Bool) := blet ((decide (a1 ≥ 1)) && (decide (a1 ≤ 1152921504606846976))) fun x12 => blet (x12 && (decide (a0 ≥ (-1152921504606846976)))) fun x13 => blet (x13 && (decide (a0 ≤ 1152921504606846976))) fun x14 => Option.bind (bif x14 then Option.bind (ratio_abs k a0) (fun r1 => Option.bind (ratio_gcd k r1 (IntKind.wrap .u64 a1)) (fun r11 => some (r11 == 1))) else some false : Option Bool) (fun x15 => some x15)
def ratio_Valid_E (a0 : Int) (a1 : Int) : Bool → V × List Blk := fun r12 => (.d (.bool r12), [])
theorem ratio_Valid_goes (k : Nat) (a0 : Int) (a1 : Int) : RunsO Try.prog 39 [.agg [.d (.int .i64 a0), .d (.int .i64 a1)]] [] (ratio_Valid_E a0 a1) (ratio_Valid k a0 a1) := by
  refine RunsO.of_goes (N := 31) (m := 0) (T := [(0, .agg [.d (.int .i64 a0), .d (.int .i64 a1)])]) Try.func39 rfl rfl (h := ?_)
  unfold ratio_Valid
  refine bStart ?_
  refine oSR rfl ?_
  refine oD (.ptr 0 0) (k_box (H' := [.box [.d (.int .i64 a0), .d (.int .i64 a1)]]) (cells := [.d (.int .i64 a0), .d (.int .i64 a1)])) ?_
  refine oP (.d (.bool false)) p_assign ?_
  refine oEnd ?_
  refine oSeq ?_
  refine oDraw [(0, 29)] rfl ?_
  refine aP 0 (.ptr 0 1) rfl (k_fieldAddr 0 0 (hu := Try.underlying38) (hf := rfl) (hi := ty3)) ?_
  refine aQ 1 [0] (.d (.int .i64 a1)) rfl (k_load 0 1 (hu := Try.underlying3)) ?_
  refine aP 2 (.d (.bool (decide (a1 ≥ 1)))) rfl (p_int (k := .i64) (p := a1) (q := 1)) ?_
  refine aP 3 (.d (.bool (decide (a1 ≥ 1)))) rfl p_move ?_
  refine dMeetF [7, 6, 5, 4, 3, 2, 1, 0] (fun (x12 : Bool) => [(1, .ptr 0 0), (10, .d (.bool x12))]) (fun (x12 : Bool) => [(1, .ptr 0 0), (10, .d (.bool x12))]) (H' := [.box [.d (.int .i64 a0), .d (.int .i64 a1)]]) (fun x12 => ?_) (fun F hj5 => ?_)
  ·refine aP 8 (.d (.bool x12)) rfl p_move ?_
   refine dMeetF [12, 11, 10, 9, 8, 7, 6, 5, 4, 3, 2, 1, 0] (fun (x13 : Bool) => [(1, .ptr 0 0), (15, .d (.bool x13))]) (fun (x13 : Bool) => [(1, .ptr 0 0), (15, .d (.bool x13))]) (H' := [.box [.d (.int .i64 a0), .d (.int .i64 a1)]]) (fun x13 => ?_) (fun F hj6 => ?_)
   ·refine aP 13 (.d (.bool x13)) rfl p_move ?_
    refine dMeetF [17, 16, 15, 14, 13, 12, 11, 10, 9, 8, 7, 6, 5, 4, 3, 2, 1, 0] (fun (x14 : Bool) => [(1, .ptr 0 0), (20, .d (.bool x14))]) (fun (x14 : Bool) => [(1, .ptr 0 0), (20, .d (.bool x14))]) (H' := [.box [.d (.int .i64 a0), .d (.int .i64 a1)]]) (fun x14 => ?_) (fun F hj7 => ?_)
    ·refine aP 18 (.d (.bool x14)) rfl p_move ?_
     refine dMeet [27, 26, 25, 21, 24, 23, 22, 20, 19, 18, 17, 16, 15, 14, 13, 12, 11, 10, 9, 8, 7, 6, 5, 4, 3, 2, 1, 0] (fun (x15 : Bool) => [(30, .d (.bool x15))]) (fun (x15 : Bool) => [(30, .d (.bool x15))]) (fun _ => [.box [.d (.int .i64 a0), .d (.int .i64 a1)]]) (fun s => s) (fun x15 => ?_) (fun hj8 => ?_)
     ·refine aP 28 (.d (.bool x15)) rfl p_assign ?_
      refine aDone (h := ?_)
      exact oRet (r0 := x15) (rv := .d (.bool x15)) (B := []) (vs := [.d (.bool x15)]) (σ := []) (hf := Try.func39) (hrs := rfl) (hres := .cons _ _ _ _ (.tmp 2 _ (by kernel_rfl)) .nil) (hnd := by decide)
     ·refine dSplit 21 (h1 := fun hc => ?_) (h2 := fun hc => ?_)
      ·refine aP 19 (.ptr 0 0) rfl (k_fieldAddr 0 0 (hu := Try.underlying38) (hf := rfl) (hi := ty3)) ?_
       refine aQ 20 [0] (.d (.int .i64 a0)) rfl (k_load 0 0 (hu := Try.underlying3)) ?_
       refine aP 22 (.ptr 0 1) rfl (k_fieldAddr 0 0 (hu := Try.underlying38) (hf := rfl) (hi := ty3)) ?_
       refine aQ 23 [0] (.d (.int .i64 a1)) rfl (k_load 0 1 (hu := Try.underlying3)) ?_
       refine aP 24 (.d (.int .u64 (IntKind.wrap .u64 a1))) rfl (p_conv (k := .i64) (p := a1) (hu1 := Try.underlying3) (hu2 := Try.underlying62)) ?_
       refine dCall (i := 21) (caps := []) (v := (fun (r1 : Int) => (.d (.int .u64 r1) : V))) (H' := (fun (r1 : Int) => ([.box [.d (.int .i64 a0), .d (.int .i64 a1)]] : List Blk))) [] _ (ratio_abs_goes k a0) rfl (ho := rfl) (hfn := Try.func66) (hb := rfl) (hconv := ConvRs.refl _ _) (hnd := by decide) (hBl := fun _ => (by kernel_rfl)) (hv := fun _ => (by kernel_rfl)) (hH' := fun _ => (by kernel_rfl)) (h := fun r1 => ?_)
       refine dCall (i := 25) (caps := []) (v := (fun (r11 : Int) => (.d (.int .u64 r11) : V))) (H' := (fun (r11 : Int) => ([.box [.d (.int .i64 a0), .d (.int .i64 a1)]] : List Blk))) [] _ (ratio_gcd_goes k r1 (IntKind.wrap .u64 a1)) rfl (ho := rfl) (hfn := Try.func65) (hb := rfl) (hconv := ConvRs.refl _ _) (hnd := by decide) (hBl := fun _ => (by kernel_rfl)) (hv := fun _ => (by kernel_rfl)) (hH' := fun _ => (by kernel_rfl)) (h := fun r11 => ?_)
       refine aP 26 (.d (.bool (r11 == 1))) rfl (p_int (k := .u64) (p := r11) (q := 1)) ?_
       refine aP 27 (.d (.bool (r11 == 1))) rfl (p_pick (b := true)) ?_
       refine dDrop [30] [30] (T' := [(30, .d (.bool (r11 == 1)))]) (U' := [(30, .d (.bool (r11 == 1)))]) (h := ?_)
       exact hj8 (r11 == 1)
      ·refine aTakeNot (i := 19) rfl (h := ?_)
       refine aTakeNot (i := 20) rfl (h := ?_)
       refine aTakeNot (i := 21) rfl (h := ?_)
       refine aTakeNot (i := 22) rfl (h := ?_)
       refine aTakeNot (i := 23) rfl (h := ?_)
       refine aTakeNot (i := 24) rfl (h := ?_)
       refine aTakeNot (i := 25) rfl (h := ?_)
       refine aTakeNot (i := 26) rfl (h := ?_)
       refine aP 27 (.d (.bool false)) rfl (p_pick (b := false)) ?_
       refine dDrop [30] [30] (T' := [(30, .d (.bool false))]) (U' := [(30, .d (.bool false))]) (h := ?_)
       refine dLv [27, 26, 25, 21, 24, 23, 22, 20, 19, 18, 17, 16, 15, 14, 13, 12, 11, 10, 9, 8, 7, 6, 5, 4, 3, 2, 1, 0] (h1 := ?_)
       exact hj8 false
    ·refine dPickF 16 (fun c => F (c && (decide (a0 ≤ 1152921504606846976)))) (h1 := fun hc => ?_) (h2 := fun hc => ?_)
     ·refine aP 14 (.ptr 0 0) rfl (k_fieldAddr 0 0 (hu := Try.underlying38) (hf := rfl) (hi := ty3)) ?_
      refine aQ 15 [0] (.d (.int .i64 a0)) rfl (k_load 0 0 (hu := Try.underlying3)) ?_
      refine aP 16 (.d (.bool (decide (a0 ≤ 1152921504606846976)))) rfl (p_int (k := .i64) (p := a0) (q := 1152921504606846976)) ?_
      refine aP 17 (.d (.bool (decide (a0 ≤ 1152921504606846976)))) rfl (p_pick (b := true)) ?_
      refine dDrop [1, 20] [1, 20] (T' := [(1, .ptr 0 0), (20, .d (.bool (decide (a0 ≤ 1152921504606846976))))]) (U' := [(1, .ptr 0 0), (20, .d (.bool (decide (a0 ≤ 1152921504606846976))))]) (h := ?_)
      exact hj7 (decide (a0 ≤ 1152921504606846976))
     ·refine aTakeNot (i := 14) rfl (h := ?_)
      refine aTakeNot (i := 15) rfl (h := ?_)
      refine aTakeNot (i := 16) rfl (h := ?_)
      refine aP 17 (.d (.bool false)) rfl (p_pick (b := false)) ?_
      refine dDrop [1, 20] [1, 20] (T' := [(1, .ptr 0 0), (20, .d (.bool false))]) (U' := [(1, .ptr 0 0), (20, .d (.bool false))]) (h := ?_)
      exact hj7 false
   ·refine dPickF 11 (fun c => F (c && (decide (a0 ≥ (-1152921504606846976))))) (h1 := fun hc => ?_) (h2 := fun hc => ?_)
    ·refine aP 9 (.ptr 0 0) rfl (k_fieldAddr 0 0 (hu := Try.underlying38) (hf := rfl) (hi := ty3)) ?_
     refine aQ 10 [0] (.d (.int .i64 a0)) rfl (k_load 0 0 (hu := Try.underlying3)) ?_
     refine aP 11 (.d (.bool (decide (a0 ≥ (-1152921504606846976))))) rfl (p_int (k := .i64) (p := a0) (q := (-1152921504606846976))) ?_
     refine aP 12 (.d (.bool (decide (a0 ≥ (-1152921504606846976))))) rfl (p_pick (b := true)) ?_
     refine dDrop [1, 15] [1, 15] (T' := [(1, .ptr 0 0), (15, .d (.bool (decide (a0 ≥ (-1152921504606846976)))))]) (U' := [(1, .ptr 0 0), (15, .d (.bool (decide (a0 ≥ (-1152921504606846976)))))]) (h := ?_)
     exact hj6 (decide (a0 ≥ (-1152921504606846976)))
    ·refine aTakeNot (i := 9) rfl (h := ?_)
     refine aTakeNot (i := 10) rfl (h := ?_)
     refine aTakeNot (i := 11) rfl (h := ?_)
     refine aP 12 (.d (.bool false)) rfl (p_pick (b := false)) ?_
     refine dDrop [1, 15] [1, 15] (T' := [(1, .ptr 0 0), (15, .d (.bool false))]) (U' := [(1, .ptr 0 0), (15, .d (.bool false))]) (h := ?_)
     exact hj6 false
  ·refine dPickF 6 (fun c => F (c && (decide (a1 ≤ 1152921504606846976)))) (h1 := fun hc => ?_) (h2 := fun hc => ?_)
   ·refine aP 4 (.ptr 0 1) rfl (k_fieldAddr 0 0 (hu := Try.underlying38) (hf := rfl) (hi := ty3)) ?_
    refine aQ 5 [0] (.d (.int .i64 a1)) rfl (k_load 0 1 (hu := Try.underlying3)) ?_
    refine aP 6 (.d (.bool (decide (a1 ≤ 1152921504606846976)))) rfl (p_int (k := .i64) (p := a1) (q := 1152921504606846976)) ?_
    refine aP 7 (.d (.bool (decide (a1 ≤ 1152921504606846976)))) rfl (p_pick (b := true)) ?_
    refine dDrop [1, 10] [1, 10] (T' := [(1, .ptr 0 0), (10, .d (.bool (decide (a1 ≤ 1152921504606846976))))]) (U' := [(1, .ptr 0 0), (10, .d (.bool (decide (a1 ≤ 1152921504606846976))))]) (h := ?_)
    exact hj5 (decide (a1 ≤ 1152921504606846976))
   ·refine aTakeNot (i := 4) rfl (h := ?_)
    refine aTakeNot (i := 5) rfl (h := ?_)
    refine aTakeNot (i := 6) rfl (h := ?_)
    refine aP 7 (.d (.bool false)) rfl (p_pick (b := false)) ?_
    refine dDrop [1, 10] [1, 10] (T' := [(1, .ptr 0 0), (10, .d (.bool false))]) (U' := [(1, .ptr 0 0), (10, .d (.bool false))]) (h := ?_)
    exact hj5 false

end Go.VM
