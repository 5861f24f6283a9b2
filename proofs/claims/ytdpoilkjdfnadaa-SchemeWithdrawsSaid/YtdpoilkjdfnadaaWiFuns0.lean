/- Plain functions that answer as the program's functions do, and the proof that they do. -/
import Derived.Test.YtdpoilkjdfnadaaProg
import Derived.KernelRfl
import Derived.Test.YtdpoilkjdfnadaaEngDeepCM
import Derived.Test.YtdpoilkjdfnadaaWiFacts
namespace Go.VM
open Go.Proofs
set_option linter.unusedVariables false
set_option linter.unusedSimpArgs false
set_option maxRecDepth 100000
/-- awardingbody/awardingbodymake.New -/
def make_New (k : Nat) (l : (List Int)) : Option ((List Int)) := Option.bind (bif (decide (((List.length l) : Int) > 600)) then gcut 0 600 ((List.length l) : Int) (some (List.take (Int.toNat 600) l)) else some l : Option ((List Int))) (fun l2 => some l2)
def make_New_E (l : (List Int)) : (List Int) → V × List Blk := fun x => (.ptr 0 0, [.box [.d (.lit (List.map e_i64 x)), .d (.int .i64 0)]])
theorem make_New_goes (k : Nat) (l : (List Int)) : RunsO Try.prog 12 [.d (.lit (List.map e_i64 l))] [] (make_New_E l) (make_New k l) := by
  refine RunsO.of_goes (N := 11) (m := 0) (T := [(0, .d (.lit (List.map e_i64 l)))]) Try.func12 rfl rfl (h := ?_)
  unfold make_New
  refine bStart ?_
  refine oSR rfl ?_
  refine oP (.nilptr) p_assign ?_
  refine oEnd ?_
  refine oSeq ?_
  refine oSR rfl ?_
  refine oP (.d (.lit (List.map e_i64 l))) p_move ?_
  refine oP (.d (.int .i64 ((List.length l) : Int))) (k_lenLit (enc := e_i64) l (hu := Try.underlying22)) ?_
  refine oP (.d (.bool (decide (((List.length l) : Int) > 600)))) (p_int (k := .i64) (p := ((List.length l) : Int)) (q := 600)) ?_
  refine oEnd ?_
  refine bJoin ((fun (l2 : (List Int)) => [(0, .d (.lit (List.map e_i64 l2)))])) ((fun (l2 : (List Int)) => [])) (fun s => s) (fun l2 => ?_) (fun hj2 => ?_)
  ·refine oView (T' := [(0, .d (.lit (List.map e_i64 l2)))]) (H' := []) (h := ?_)
   refine oSR rfl ?_
   refine oP (.d (.lit (List.map e_i64 l2))) p_move ?_
   refine oP (.agg [.d (.lit (List.map e_i64 l2)), .d (.int .i64 0)]) (p_build bld56) ?_
   refine oD (.ptr 0 0) (k_box (H' := [.box [.d (.lit (List.map e_i64 l2)), .d (.int .i64 0)]]) (cells := [.d (.lit (List.map e_i64 l2)), .d (.int .i64 0)])) ?_
   refine oP (.ptr 0 0) p_assign ?_
   refine oEnd ?_
   exact oRet (r0 := l2) (rv := .ptr 0 0) (B := [.box [.d (.lit (List.map e_i64 l2)), .d (.int .i64 0)]]) (vs := [.ptr 0 0]) (σ := [0]) (hf := Try.func12) (hrs := rfl) (hres := .cons _ _ _ _ (.tmp 2 _ (by kernel_rfl)) .nil) (hnd := by decide)
  ·refine bSplit 5 (h1 := fun hc => ?_) (h2 := fun hc => ?_)
   ·refine oCondT (h := ?_)
    refine oRegion rfl ?_
    refine oP (.d (.lit (List.map e_i64 l))) p_move ?_
    refine bCut (fun h16 h17 h18 => ?_)
    refine oP (.d (.lit (List.map e_i64 (List.take (Int.toNat 600) l)))) (k_cutH (k2 := .i64) (h := 600) e_i64_len l (hu := Try.underlying22) (hi := ty3) (h1 := h17) (h2 := h18)) ?_
    refine oP (.d (.lit (List.map e_i64 (List.take (Int.toNat 600) l)))) p_assign ?_
    refine oEnd ?_
    refine oHead [0] [] (T' := [(0, .d (.lit (List.map e_i64 (List.take (Int.toNat 600) l))))]) (H' := []) (hnd := by decide) (h := ?_)
    exact hj2 (List.take (Int.toNat 600) l)
   ·refine oCondF (h := ?_)
    refine oSkip ?_
    refine oHead [0] [] (T' := [(0, .d (.lit (List.map e_i64 l)))]) (H' := []) (hnd := by decide) (h := ?_)
    exact hj2 l

/-- (*awardingbody/awardingbodymake.Tape).Raw -/
def make_Tape_Raw (k : Nat) (x : (List Int)) (x1 : Int) : Option (Int × Int) := bif (decide (x1 ≥ ((List.length x) : Int))) then some (0, x1) else gidx x (IntKind.wrap .i64 ((IntKind.wrap .i64 (x1 + 1)) - 1)) fun e1 => some (e1, (IntKind.wrap .i64 (x1 + 1)))
def make_Tape_Raw_E (x : (List Int)) (x1 : Int) : Int × Int → V × List Blk := uc fun r1 => fun x2 => (.d (.int .i64 r1), [.box [.d (.lit (List.map e_i64 x)), .d (.int .i64 x2)]])
theorem make_Tape_Raw_goes (k : Nat) (x : (List Int)) (x1 : Int) : RunsO Try.prog 57 [.ptr 0 0] [.box [.d (.lit (List.map e_i64 x)), .d (.int .i64 x1)]] (make_Tape_Raw_E x x1) (make_Tape_Raw k x x1) := by
  refine RunsO.of_goes (N := 31) (m := 1) (T := [(0, .ptr 0 0)]) Try.func57 rfl rfl (h := ?_)
  unfold make_Tape_Raw
  refine bStart ?_
  refine oSR rfl ?_
  refine oP (.d (.int .i64 0)) p_assign ?_
  refine oEnd ?_
  refine oSeq ?_
  refine oSeq ?_
  refine oDraw [(0, 10)] rfl ?_
  refine aP 0 (.ptr 0 0) rfl p_move ?_
  refine aP 1 (.ptr 0 0) rfl (k_nilCheck 0 0) ?_
  refine aP 2 (.ptr 0 1) rfl (k_fieldAddr 0 0 (hu := Try.underlying56) (hf := rfl) (hi := ty3)) ?_
  refine aQ 3 [0] (.d (.int .i64 x1)) rfl (k_load 0 1 (hu := Try.underlying3)) ?_
  refine aP 4 (.ptr 0 0) rfl p_move ?_
  refine aP 5 (.ptr 0 0) rfl (k_nilCheck 0 0) ?_
  refine aP 6 (.ptr 0 0) rfl (k_fieldAddr 0 0 (hu := Try.underlying56) (hf := rfl) (hi := ty22)) ?_
  refine aQ 7 [0] (.d (.lit (List.map e_i64 x))) rfl (k_load 0 0 (hu := Try.underlying22)) ?_
  refine aP 8 (.d (.int .i64 ((List.length x) : Int))) rfl (k_lenLit (enc := e_i64) x (hu := Try.underlying22)) ?_
  refine aP 9 (.d (.bool (decide (x1 ≥ ((List.length x) : Int))))) rfl (p_int (k := .i64) (p := x1) (q := ((List.length x) : Int))) ?_
  refine aDone (h := ?_)
  refine bSplit 12 (h1 := fun hc => ?_) (h2 := fun hc => ?_)
  ·refine oCondT (h := ?_)
   refine oSR rfl ?_
   refine oP (.d (.int .i64 0)) p_assign ?_
   refine oEnd ?_
   exact oRet (r0 := (0, x1)) (rv := .d (.int .i64 0)) (B := [.box [.d (.lit (List.map e_i64 x)), .d (.int .i64 x1)]]) (vs := [.d (.int .i64 0)]) (σ := [0]) (hf := Try.func57) (hrs := rfl) (hres := .cons _ _ _ _ (.tmp 2 _ (by kernel_rfl)) .nil) (hnd := by decide)
  ·refine oCondF (h := ?_)
   refine oSkip ?_
   refine oSR rfl ?_
   refine oP (.ptr 0 0) p_move ?_
   refine oP (.ptr 0 0) (k_nilCheck 0 0) ?_
   refine oP (.ptr 0 1) (k_fieldAddr 0 0 (hu := Try.underlying56) (hf := rfl) (hi := ty3)) ?_
   refine oQ (.d (.int .i64 x1)) (k_load 0 1 (hu := Try.underlying3)) ?_
   refine oP (.d (.int .i64 (IntKind.wrap .i64 (x1 + 1)))) (p_int (k := .i64) (p := x1) (q := 1)) ?_
   refine oP (.ptr 0 0) (k_nilCheck 0 0) ?_
   refine oP (.ptr 0 1) (k_fieldAddr 0 0 (hu := Try.underlying56) (hf := rfl) (hi := ty3)) ?_
   refine oD (.undef) (k_store (vs := [.d (.int .i64 (IntKind.wrap .i64 (x1 + 1)))]) (H' := [.box [.d (.lit (List.map e_i64 x)), .d (.int .i64 (IntKind.wrap .i64 (x1 + 1)))]]) 0 1 (hi := ty3)) ?_
   refine oEnd ?_
   refine oSeq ?_
   refine oDraw [(0, 12)] rfl ?_
   refine aP 0 (.ptr 0 0) rfl p_move ?_
   refine aP 1 (.ptr 0 0) rfl (k_nilCheck 0 0) ?_
   refine aP 2 (.ptr 0 0) rfl (k_fieldAddr 0 0 (hu := Try.underlying56) (hf := rfl) (hi := ty22)) ?_
   refine aQ 3 [0] (.d (.lit (List.map e_i64 x))) rfl (k_load 0 0 (hu := Try.underlying22)) ?_
   refine aP 4 (.ptr 0 0) rfl p_move ?_
   refine aP 5 (.ptr 0 0) rfl (k_nilCheck 0 0) ?_
   refine aP 6 (.ptr 0 1) rfl (k_fieldAddr 0 0 (hu := Try.underlying56) (hf := rfl) (hi := ty3)) ?_
   refine aQ 7 [0] (.d (.int .i64 (IntKind.wrap .i64 (x1 + 1)))) rfl (k_load 0 1 (hu := Try.underlying3)) ?_
   refine aP 8 (.d (.int .i64 (IntKind.wrap .i64 ((IntKind.wrap .i64 (x1 + 1)) - 1)))) rfl (p_int (k := .i64) (p := (IntKind.wrap .i64 (x1 + 1))) (q := 1)) ?_
   refine dIdx (fun e1 h1 h11 => ?_)
   refine aP 9 (.lptr (e_i64 e1) 0) rfl (k_idxLit e_i64_len x (a := e1) (k := .i64) (i := (IntKind.wrap .i64 ((IntKind.wrap .i64 (x1 + 1)) - 1))) (hu := Try.underlying22) (hi := ty3) (h0 := h1) (he := h11)) ?_
   refine aQ 10 [] (.d (.int .i64 e1)) rfl (k_loadL (cells := e_i64 e1) 0 (hu := Try.underlying3)) ?_
   refine aP 11 (.d (.int .i64 e1)) rfl p_assign ?_
   refine aDone (h := ?_)
   exact oRet (r0 := (e1, (IntKind.wrap .i64 (x1 + 1)))) (rv := .d (.int .i64 e1)) (B := [.box [.d (.lit (List.map e_i64 x)), .d (.int .i64 (IntKind.wrap .i64 (x1 + 1)))]]) (vs := [.d (.int .i64 e1)]) (σ := [0]) (hf := Try.func57) (hrs := rfl) (hres := .cons _ _ _ _ (.tmp 2 _ (by kernel_rfl)) .nil) (hnd := by decide)

/-- awardingbody/awardingbodymake.Cut -/
def make_Cut (k : Nat) (x : Int) (n : Int) : Option (Int) := bif (decide (n < 1)) then some 0 else gnz n (Option.bind (bif (decide ((Int.tmod x n) < 0)) then some (IntKind.wrap .i64 ((Int.tmod x n) + n)) else some (Int.tmod x n) : Option (Int)) (fun x2 => some x2))
def make_Cut_E (x : Int) (n : Int) : Int → V × List Blk := fun r1 => (.d (.int .i64 r1), [])
theorem make_Cut_goes (k : Nat) (x : Int) (n : Int) : RunsO Try.prog 25 [.d (.int .i64 x), .d (.int .i64 n)] [] (make_Cut_E x n) (make_Cut k x n) := by
  refine RunsO.of_goes (N := 16) (m := 0) (T := [(0, .d (.int .i64 x)), (1, .d (.int .i64 n))]) Try.func25 rfl rfl (h := ?_)
  unfold make_Cut
  refine bStart ?_
  refine oSR rfl ?_
  refine oP (.d (.int .i64 0)) p_assign ?_
  refine oEnd ?_
  refine oSeq ?_
  refine oSR rfl ?_
  refine oP (.d (.int .i64 n)) p_move ?_
  refine oP (.d (.bool (decide (n < 1)))) (p_int (k := .i64) (p := n) (q := 1)) ?_
  refine oEnd ?_
  refine bSplit 6 (h1 := fun hc => ?_) (h2 := fun hc => ?_)
  ·refine oCondT (h := ?_)
   refine oSR rfl ?_
   refine oP (.d (.int .i64 0)) p_assign ?_
   refine oEnd ?_
   exact oRet (r0 := 0) (rv := .d (.int .i64 0)) (B := []) (vs := [.d (.int .i64 0)]) (σ := []) (hf := Try.func25) (hrs := rfl) (hres := .cons _ _ _ _ (.tmp 4 _ (by kernel_rfl)) .nil) (hnd := by decide)
  ·refine oCondF (h := ?_)
   refine oSkip ?_
   refine oSR rfl ?_
   refine oP (.d (.int .i64 x)) p_move ?_
   refine oP (.d (.int .i64 n)) p_move ?_
   refine bNz (fun h11 => ?_)
   refine oP (.d (.int .i64 (Int.tmod x n))) (p_rem (k := .i64) (p := x) (q := n) (hq := h11)) ?_
   refine oP (.d (.int .i64 (Int.tmod x n))) p_assign ?_
   refine oEnd ?_
   refine oSeq ?_
   refine oSR rfl ?_
   refine oP (.d (.int .i64 (Int.tmod x n))) p_move ?_
   refine oP (.d (.bool (decide ((Int.tmod x n) < 0)))) (p_int (k := .i64) (p := (Int.tmod x n)) (q := 0)) ?_
   refine oEnd ?_
   refine bJoin ((fun (x2 : Int) => [(0, .d (.int .i64 x2))])) ((fun (x2 : Int) => [])) (fun s => s) (fun x2 => ?_) (fun hj2 => ?_)
   ·refine oView (T' := [(0, .d (.int .i64 x2))]) (H' := []) (h := ?_)
    refine oSR rfl ?_
    refine oP (.d (.int .i64 x2)) p_move ?_
    refine oP (.d (.int .i64 x2)) p_assign ?_
    refine oEnd ?_
    exact oRet (r0 := x2) (rv := .d (.int .i64 x2)) (B := []) (vs := [.d (.int .i64 x2)]) (σ := []) (hf := Try.func25) (hrs := rfl) (hres := .cons _ _ _ _ (.tmp 4 _ (by kernel_rfl)) .nil) (hnd := by decide)
   ·refine bSplit 11 (h1 := fun hc => ?_) (h2 := fun hc => ?_)
    ·refine oCondT (h := ?_)
     refine oRegion rfl ?_
     refine oP (.d (.int .i64 (Int.tmod x n))) p_move ?_
     refine oP (.d (.int .i64 n)) p_move ?_
     refine oP (.d (.int .i64 (IntKind.wrap .i64 ((Int.tmod x n) + n)))) (p_int (k := .i64) (p := (Int.tmod x n)) (q := n)) ?_
     refine oP (.d (.int .i64 (IntKind.wrap .i64 ((Int.tmod x n) + n)))) p_assign ?_
     refine oEnd ?_
     refine oHead [0] [] (T' := [(0, .d (.int .i64 (IntKind.wrap .i64 ((Int.tmod x n) + n))))]) (H' := []) (hnd := by decide) (h := ?_)
     exact hj2 (IntKind.wrap .i64 ((Int.tmod x n) + n))
    ·refine oCondF (h := ?_)
     refine oSkip ?_
     refine oHead [0] [] (T' := [(0, .d (.int .i64 (Int.tmod x n)))]) (H' := []) (hnd := by decide) (h := ?_)
     exact hj2 (Int.tmod x n)

/-- (*awardingbody/awardingbodymake.Tape).Next -/
def make_Tape_Next (k : Nat) (n : Int) (x : (List Int)) (x1 : Int) : Option (Int × Int) := Option.bind (make_Tape_Raw k x x1) (uc fun r13 => fun x21 => Option.bind (make_Cut k r13 n) (fun r14 => some (r14, x21)))
def make_Tape_Next_E (n : Int) (x : (List Int)) (x1 : Int) : Int × Int → V × List Blk := uc fun r12 => fun x3 => (.d (.int .i64 r12), [.box [.d (.lit (List.map e_i64 x)), .d (.int .i64 x3)]])
theorem make_Tape_Next_goes (k : Nat) (n : Int) (x : (List Int)) (x1 : Int) : RunsO Try.prog 39 [.ptr 0 0, .d (.int .i64 n)] [.box [.d (.lit (List.map e_i64 x)), .d (.int .i64 x1)]] (make_Tape_Next_E n x x1) (make_Tape_Next k n x x1) := by
  refine RunsO.of_goes (N := 9) (m := 1) (T := [(0, .ptr 0 0), (1, .d (.int .i64 n))]) Try.func39 rfl rfl (h := ?_)
  unfold make_Tape_Next
  refine bStart ?_
  refine oSR rfl ?_
  refine oP (.d (.int .i64 0)) p_assign ?_
  refine oEnd ?_
  refine oSR rfl ?_
  refine oP (.ptr 0 0) p_move ?_
  refine bCall (caps := []) (v := (uc fun (r13 : Int) => (fun (x21 : Int) => (.d (.int .i64 r13) : V)))) (H' := (uc fun (r13 : Int) => (fun (x21 : Int) => ([.box [.d (.lit (List.map e_i64 x)), .d (.int .i64 x21)]] : List Blk)))) [0] _ (make_Tape_Raw_goes k x x1) (ho := rfl) (hfn := Try.func57) (hb := rfl) (hconv := ConvRs.refl _ _) (hnd := by decide) (hBl := fun _ => (by kernel_rfl)) (hv := fun _ => (by kernel_rfl)) (hH' := fun _ => (by kernel_rfl)) (h := fun r => ?_)
  obtain ⟨r13, x21⟩ := r
  refine bUc ?_
  refine oP (.d (.int .i64 n)) p_move ?_
  refine bCall (caps := []) (v := (fun (r14 : Int) => (.d (.int .i64 r14) : V))) (H' := (fun (r14 : Int) => ([.box [.d (.lit (List.map e_i64 x)), .d (.int .i64 x21)]] : List Blk))) [] _ (make_Cut_goes k r13 n) (ho := rfl) (hfn := Try.func25) (hb := rfl) (hconv := ConvRs.refl _ _) (hnd := by decide) (hBl := fun _ => (by kernel_rfl)) (hv := fun _ => (by kernel_rfl)) (hH' := fun _ => (by kernel_rfl)) (h := fun r14 => ?_)
  refine oP (.d (.int .i64 r14)) p_assign ?_
  refine oEnd ?_
  exact oRet (r0 := (r14, x21)) (rv := .d (.int .i64 r14)) (B := [.box [.d (.lit (List.map e_i64 x)), .d (.int .i64 x21)]]) (vs := [.d (.int .i64 r14)]) (σ := [0]) (hf := Try.func39) (hrs := rfl) (hres := .cons _ _ _ _ (.tmp 4 _ (by kernel_rfl)) .nil) (hnd := by decide)

/-- (*awardingbody/awardingbodymake.Tape).Range -/
def make_Tape_Range (k : Nat) (low : Int) (high : Int) (x : (List Int)) (x1 : Int) : Option (Int × Int) := Option.bind (make_Tape_Next k (IntKind.wrap .i64 ((IntKind.wrap .i64 (high - low)) + 1)) x x1) (uc fun r121 => fun x31 => some ((IntKind.wrap .i64 (low + r121)), x31))
def make_Tape_Range_E (low : Int) (high : Int) (x : (List Int)) (x1 : Int) : Int × Int → V × List Blk := uc fun r1 => fun x2 => (.d (.int .i64 r1), [.box [.d (.lit (List.map e_i64 x)), .d (.int .i64 x2)]])
theorem make_Tape_Range_goes (k : Nat) (low : Int) (high : Int) (x : (List Int)) (x1 : Int) : RunsO Try.prog 38 [.ptr 0 0, .d (.int .i64 low), .d (.int .i64 high)] [.box [.d (.lit (List.map e_i64 x)), .d (.int .i64 x1)]] (make_Tape_Range_E low high x x1) (make_Tape_Range k low high x x1) := by
  refine RunsO.of_goes (N := 15) (m := 1) (T := [(0, .ptr 0 0), (1, .d (.int .i64 low)), (2, .d (.int .i64 high))]) Try.func38 rfl rfl (h := ?_)
  unfold make_Tape_Range
  refine bStart ?_
  refine oSR rfl ?_
  refine oP (.d (.int .i64 0)) p_assign ?_
  refine oEnd ?_
  refine oSR rfl ?_
  refine oP (.d (.int .i64 low)) p_move ?_
  refine oP (.ptr 0 0) p_move ?_
  refine oP (.d (.int .i64 high)) p_move ?_
  refine oP (.d (.int .i64 low)) p_move ?_
  refine oP (.d (.int .i64 (IntKind.wrap .i64 (high - low)))) (p_int (k := .i64) (p := high) (q := low)) ?_
  refine oP (.d (.int .i64 (IntKind.wrap .i64 ((IntKind.wrap .i64 (high - low)) + 1)))) (p_int (k := .i64) (p := (IntKind.wrap .i64 (high - low))) (q := 1)) ?_
  refine bCall (caps := []) (v := (uc fun (r121 : Int) => (fun (x31 : Int) => (.d (.int .i64 r121) : V)))) (H' := (uc fun (r121 : Int) => (fun (x31 : Int) => ([.box [.d (.lit (List.map e_i64 x)), .d (.int .i64 x31)]] : List Blk)))) [0] _ (make_Tape_Next_goes k (IntKind.wrap .i64 ((IntKind.wrap .i64 (high - low)) + 1)) x x1) (ho := rfl) (hfn := Try.func39) (hb := rfl) (hconv := ConvRs.refl _ _) (hnd := by decide) (hBl := fun _ => (by kernel_rfl)) (hv := fun _ => (by kernel_rfl)) (hH' := fun _ => (by kernel_rfl)) (h := fun r => ?_)
  obtain ⟨r121, x31⟩ := r
  refine bUc ?_
  refine oP (.d (.int .i64 (IntKind.wrap .i64 (low + r121)))) (p_int (k := .i64) (p := low) (q := r121)) ?_
  refine oP (.d (.int .i64 (IntKind.wrap .i64 (low + r121)))) p_assign ?_
  refine oEnd ?_
  exact oRet (r0 := ((IntKind.wrap .i64 (low + r121)), x31)) (rv := .d (.int .i64 (IntKind.wrap .i64 (low + r121)))) (B := [.box [.d (.lit (List.map e_i64 x)), .d (.int .i64 x31)]]) (vs := [.d (.int .i64 (IntKind.wrap .i64 (low + r121)))]) (σ := [0]) (hf := Try.func38) (hrs := rfl) (hres := .cons _ _ _ _ (.tmp 6 _ (by kernel_rfl)) .nil) (hnd := by decide)

/-- (*awardingbody/awardingbodymake.Tape).Part -/
def make_Tape_Part (k : Nat) (x : (List Int)) (x1 : Int) : Option (Int × Int × Int × Int × Int × Int × Int) := Option.bind (make_Tape_Range k 1 12 x x1) (uc fun r110 => fun x23 => Option.bind (make_Tape_Next k 4 x x23) (uc fun r124 => fun x34 => Option.bind (make_Tape_Next k 3 x x34) (uc fun r125 => fun x35 => Option.bind (make_Tape_Next k 3 x x35) (uc fun r126 => fun x36 => Option.bind (bif (r126 == 0) then Option.bind (make_Tape_Range k 2 5 x x36) (uc fun r113 => fun x26 => Option.bind (make_Tape_Next k r113 x x26) (uc fun r128 => fun x38 => Option.bind (make_Tape_Range k 1 3 x x38) (uc fun r114 => fun x27 => some (x27, 2, r114, r113, r128)))) else some (x36, 1, r110, 0, 0) : Option (Int × Int × Int × Int × Int)) (uc fun x10 => uc fun x11 => uc fun x12 => uc fun x13 => fun x14 => some (x11, x12, r124, r125, x13, x14, x10))))))
def make_Tape_Part_E (x : (List Int)) (x1 : Int) : Int × Int × Int × Int × Int × Int × Int → V × List Blk := uc fun r14 => uc fun r15 => uc fun r16 => uc fun r17 => uc fun r18 => uc fun r19 => fun x9 => (.agg [.d (.int .i64 r14), .d (.int .i64 r15), .d (.int .i64 r16), .d (.int .i64 r17), .d (.int .i64 r18), .d (.int .i64 r19)], [.box [.d (.lit (List.map e_i64 x)), .d (.int .i64 x9)]])
theorem make_Tape_Part_goes (k : Nat) (x : (List Int)) (x1 : Int) : RunsO Try.prog 42 [.ptr 0 0, .d (.int .i64 0)] [.box [.d (.lit (List.map e_i64 x)), .d (.int .i64 x1)]] (make_Tape_Part_E x x1) (make_Tape_Part k x x1) := by
  refine RunsO.of_goes (N := 67) (m := 1) (T := [(0, .ptr 0 0), (1, .d (.int .i64 0))]) Try.func42 rfl rfl (h := ?_)
  unfold make_Tape_Part
  refine bStart ?_
  refine oSR rfl ?_
  refine oD (.ptr 1 0) (k_alloc (H' := [.box [.d (.lit (List.map e_i64 x)), .d (.int .i64 x1)], .box [.d (.int .i64 0), .d (.int .i64 0), .d (.int .i64 0), .d (.int .i64 0), .d (.int .i64 0), .d (.int .i64 0)]]) ty49) ?_
  refine oEnd ?_
  refine oSR rfl ?_
  refine oP (.ptr 0 0) p_move ?_
  refine bCall (caps := []) (v := (uc fun (r110 : Int) => (fun (x23 : Int) => (.d (.int .i64 r110) : V)))) (H' := (uc fun (r110 : Int) => (fun (x23 : Int) => ([.box [.d (.lit (List.map e_i64 x)), .d (.int .i64 x23)], .box [.d (.int .i64 0), .d (.int .i64 0), .d (.int .i64 0), .d (.int .i64 0), .d (.int .i64 0), .d (.int .i64 0)]] : List Blk)))) [0] _ (make_Tape_Range_goes k 1 12 x x1) (ho := rfl) (hfn := Try.func38) (hb := rfl) (hconv := ConvRs.refl _ _) (hnd := by decide) (hBl := fun _ => (by kernel_rfl)) (hv := fun _ => (by kernel_rfl)) (hH' := fun _ => (by kernel_rfl)) (h := fun r => ?_)
  obtain ⟨r110, x23⟩ := r
  refine bUc ?_
  refine oP (.ptr 0 0) p_move ?_
  refine bCall (caps := []) (v := (uc fun (r124 : Int) => (fun (x34 : Int) => (.d (.int .i64 r124) : V)))) (H' := (uc fun (r124 : Int) => (fun (x34 : Int) => ([.box [.d (.lit (List.map e_i64 x)), .d (.int .i64 x34)], .box [.d (.int .i64 0), .d (.int .i64 0), .d (.int .i64 0), .d (.int .i64 0), .d (.int .i64 0), .d (.int .i64 0)]] : List Blk)))) [0] _ (make_Tape_Next_goes k 4 x x23) (ho := rfl) (hfn := Try.func39) (hb := rfl) (hconv := ConvRs.refl _ _) (hnd := by decide) (hBl := fun _ => (by kernel_rfl)) (hv := fun _ => (by kernel_rfl)) (hH' := fun _ => (by kernel_rfl)) (h := fun r => ?_)
  obtain ⟨r124, x34⟩ := r
  refine bUc ?_
  refine oP (.ptr 0 0) p_move ?_
  refine bCall (caps := []) (v := (uc fun (r125 : Int) => (fun (x35 : Int) => (.d (.int .i64 r125) : V)))) (H' := (uc fun (r125 : Int) => (fun (x35 : Int) => ([.box [.d (.lit (List.map e_i64 x)), .d (.int .i64 x35)], .box [.d (.int .i64 0), .d (.int .i64 0), .d (.int .i64 0), .d (.int .i64 0), .d (.int .i64 0), .d (.int .i64 0)]] : List Blk)))) [0] _ (make_Tape_Next_goes k 3 x x34) (ho := rfl) (hfn := Try.func39) (hb := rfl) (hconv := ConvRs.refl _ _) (hnd := by decide) (hBl := fun _ => (by kernel_rfl)) (hv := fun _ => (by kernel_rfl)) (hH' := fun _ => (by kernel_rfl)) (h := fun r => ?_)
  obtain ⟨r125, x35⟩ := r
  refine bUc ?_
  refine oP (.agg [.d (.int .i64 1), .d (.int .i64 r110), .d (.int .i64 r124), .d (.int .i64 r125), .d (.int .i64 0), .d (.int .i64 0)]) (p_build bld49) ?_
  refine oD (.ptr 2 0) (k_alloc (H' := [.box [.d (.lit (List.map e_i64 x)), .d (.int .i64 x35)], .box [.d (.int .i64 0), .d (.int .i64 0), .d (.int .i64 0), .d (.int .i64 0), .d (.int .i64 0), .d (.int .i64 0)], .box [.d (.int .i64 0), .d (.int .i64 0), .d (.int .i64 0), .d (.int .i64 0), .d (.int .i64 0), .d (.int .i64 0)]]) ty49) ?_
  refine oD (.undef) (k_store (vs := [.d (.int .i64 1), .d (.int .i64 r110), .d (.int .i64 r124), .d (.int .i64 r125), .d (.int .i64 0), .d (.int .i64 0)]) (H' := [.box [.d (.lit (List.map e_i64 x)), .d (.int .i64 x35)], .box [.d (.int .i64 0), .d (.int .i64 0), .d (.int .i64 0), .d (.int .i64 0), .d (.int .i64 0), .d (.int .i64 0)], .box [.d (.int .i64 1), .d (.int .i64 r110), .d (.int .i64 r124), .d (.int .i64 r125), .d (.int .i64 0), .d (.int .i64 0)]]) 2 0 (hi := ty49)) ?_
  refine oEnd ?_
  refine oSeq ?_
  refine oSR rfl ?_
  refine oP (.ptr 0 0) p_move ?_
  refine bCall (caps := []) (v := (uc fun (r126 : Int) => (fun (x36 : Int) => (.d (.int .i64 r126) : V)))) (H' := (uc fun (r126 : Int) => (fun (x36 : Int) => ([.box [.d (.lit (List.map e_i64 x)), .d (.int .i64 x36)], .box [.d (.int .i64 0), .d (.int .i64 0), .d (.int .i64 0), .d (.int .i64 0), .d (.int .i64 0), .d (.int .i64 0)], .box [.d (.int .i64 1), .d (.int .i64 r110), .d (.int .i64 r124), .d (.int .i64 r125), .d (.int .i64 0), .d (.int .i64 0)]] : List Blk)))) [0] _ (make_Tape_Next_goes k 3 x x35) (ho := rfl) (hfn := Try.func39) (hb := rfl) (hconv := ConvRs.refl _ _) (hnd := by decide) (hBl := fun _ => (by kernel_rfl)) (hv := fun _ => (by kernel_rfl)) (hH' := fun _ => (by kernel_rfl)) (h := fun r => ?_)
  obtain ⟨r126, x36⟩ := r
  refine bUc ?_
  refine oP (.d (.bool (r126 == 0))) (p_int (k := .i64) (p := r126) (q := 0)) ?_
  refine oEnd ?_
  refine bJoin ((uc fun (x10 : Int) => (uc fun (x11 : Int) => (uc fun (x12 : Int) => (uc fun (x13 : Int) => (fun (x14 : Int) => [(0, .ptr 0 0), (1, .d (.int .i64 0)), (4, .ptr 1 0), (5, .ptr 2 0)])))))) ((uc fun (x10 : Int) => (uc fun (x11 : Int) => (uc fun (x12 : Int) => (uc fun (x13 : Int) => (fun (x14 : Int) => [.box [.d (.lit (List.map e_i64 x)), .d (.int .i64 x10)], .box [.d (.int .i64 0), .d (.int .i64 0), .d (.int .i64 0), .d (.int .i64 0), .d (.int .i64 0), .d (.int .i64 0)], .box [.d (.int .i64 x11), .d (.int .i64 x12), .d (.int .i64 r124), .d (.int .i64 r125), .d (.int .i64 x13), .d (.int .i64 x14)]])))))) (fun s => s) (fun s => ?_) (fun hj2 => ?_)
  ·obtain ⟨x10, x11, x12, x13, x14⟩ := s
   refine bUc ?_
   refine bUc ?_
   refine bUc ?_
   refine bUc ?_
   refine oView (T' := [(0, .ptr 0 0), (1, .d (.int .i64 0)), (4, .ptr 1 0), (5, .ptr 2 0)]) (H' := [.box [.d (.lit (List.map e_i64 x)), .d (.int .i64 x10)], .box [.d (.int .i64 0), .d (.int .i64 0), .d (.int .i64 0), .d (.int .i64 0), .d (.int .i64 0), .d (.int .i64 0)], .box [.d (.int .i64 x11), .d (.int .i64 x12), .d (.int .i64 r124), .d (.int .i64 r125), .d (.int .i64 x13), .d (.int .i64 x14)]]) (h := ?_)
   refine oSeq ?_
   refine oSR rfl ?_
   refine oP (.d (.int .i64 0)) p_move ?_
   refine oP (.d (.bool false)) (p_int (k := .i64) (p := 0) (q := 0)) ?_
   refine oP (.d (.bool false)) p_move ?_
   refine oNot (h := ?_)
   refine oNot (h := ?_)
   refine oNot (h := ?_)
   refine oP (.d (.bool false)) (p_pick (b := false)) ?_
   refine oEnd ?_
   refine oCondF (h := ?_)
   refine oSkip ?_
   refine oSR rfl ?_
   refine oQ (.agg [.d (.int .i64 x11), .d (.int .i64 x12), .d (.int .i64 r124), .d (.int .i64 r125), .d (.int .i64 x13), .d (.int .i64 x14)]) (k_loadAgg 2 0 (hu := Try.underlying49) (hi := ty49)) ?_
   refine oD (.undef) (k_store (vs := [.d (.int .i64 x11), .d (.int .i64 x12), .d (.int .i64 r124), .d (.int .i64 r125), .d (.int .i64 x13), .d (.int .i64 x14)]) (H' := [.box [.d (.lit (List.map e_i64 x)), .d (.int .i64 x10)], .box [.d (.int .i64 x11), .d (.int .i64 x12), .d (.int .i64 r124), .d (.int .i64 r125), .d (.int .i64 x13), .d (.int .i64 x14)], .box [.d (.int .i64 x11), .d (.int .i64 x12), .d (.int .i64 r124), .d (.int .i64 r125), .d (.int .i64 x13), .d (.int .i64 x14)]]) 1 0 (hi := ty49)) ?_
   refine oEnd ?_
   exact oRet (r0 := (x11, x12, r124, r125, x13, x14, x10)) (rv := .agg [.d (.int .i64 x11), .d (.int .i64 x12), .d (.int .i64 r124), .d (.int .i64 r125), .d (.int .i64 x13), .d (.int .i64 x14)]) (B := [.box [.d (.lit (List.map e_i64 x)), .d (.int .i64 x10)]]) (vs := [.agg [.d (.int .i64 x11), .d (.int .i64 x12), .d (.int .i64 r124), .d (.int .i64 r125), .d (.int .i64 x13), .d (.int .i64 x14)]]) (σ := [0]) (hf := Try.func42) (hrs := rfl) (hres := .cons _ _ _ _ (.agg 4 49 1 0 [.d (.int .i64 x11), .d (.int .i64 x12), .d (.int .i64 r124), .d (.int .i64 r125), .d (.int .i64 x13), .d (.int .i64 x14)] [.d (.int .i64 x11), .d (.int .i64 x12), .d (.int .i64 r124), .d (.int .i64 r125), .d (.int .i64 x13), .d (.int .i64 x14)] _ _ _ _ (by kernel_rfl) (by kernel_rfl) Try.underlying49 (by kernel_rfl) ty49 (by kernel_rfl) (by kernel_rfl)) .nil) (hnd := by decide)
  ·refine bSplit 15 (h1 := fun hc => ?_) (h2 := fun hc => ?_)
   ·refine oCondT (h := ?_)
    refine oSR rfl ?_
    refine oP (.ptr 0 0) p_move ?_
    refine bCall (caps := []) (v := (uc fun (r113 : Int) => (fun (x26 : Int) => (.d (.int .i64 r113) : V)))) (H' := (uc fun (r113 : Int) => (fun (x26 : Int) => ([.box [.d (.lit (List.map e_i64 x)), .d (.int .i64 x26)], .box [.d (.int .i64 0), .d (.int .i64 0), .d (.int .i64 0), .d (.int .i64 0), .d (.int .i64 0), .d (.int .i64 0)], .box [.d (.int .i64 1), .d (.int .i64 r110), .d (.int .i64 r124), .d (.int .i64 r125), .d (.int .i64 0), .d (.int .i64 0)]] : List Blk)))) [0] _ (make_Tape_Range_goes k 2 5 x x36) (ho := rfl) (hfn := Try.func38) (hb := rfl) (hconv := ConvRs.refl _ _) (hnd := by decide) (hBl := fun _ => (by kernel_rfl)) (hv := fun _ => (by kernel_rfl)) (hH' := fun _ => (by kernel_rfl)) (h := fun r => ?_)
    obtain ⟨r113, x26⟩ := r
    refine bUc ?_
    refine oP (.ptr 2 0) (k_fieldAddr 2 0 (hu := Try.underlying49) (hf := rfl) (hi := ty3)) ?_
    refine oD (.undef) (k_store (vs := [.d (.int .i64 2)]) (H' := [.box [.d (.lit (List.map e_i64 x)), .d (.int .i64 x26)], .box [.d (.int .i64 0), .d (.int .i64 0), .d (.int .i64 0), .d (.int .i64 0), .d (.int .i64 0), .d (.int .i64 0)], .box [.d (.int .i64 2), .d (.int .i64 r110), .d (.int .i64 r124), .d (.int .i64 r125), .d (.int .i64 0), .d (.int .i64 0)]]) 2 0 (hi := ty3)) ?_
    refine oP (.ptr 2 4) (k_fieldAddr 2 0 (hu := Try.underlying49) (hf := rfl) (hi := ty3)) ?_
    refine oD (.undef) (k_store (vs := [.d (.int .i64 r113)]) (H' := [.box [.d (.lit (List.map e_i64 x)), .d (.int .i64 x26)], .box [.d (.int .i64 0), .d (.int .i64 0), .d (.int .i64 0), .d (.int .i64 0), .d (.int .i64 0), .d (.int .i64 0)], .box [.d (.int .i64 2), .d (.int .i64 r110), .d (.int .i64 r124), .d (.int .i64 r125), .d (.int .i64 r113), .d (.int .i64 0)]]) 2 4 (hi := ty3)) ?_
    refine oEnd ?_
    refine oRegion rfl ?_
    refine oP (.ptr 0 0) p_move ?_
    refine oP (.ptr 2 4) (k_fieldAddr 2 0 (hu := Try.underlying49) (hf := rfl) (hi := ty3)) ?_
    refine oQ (.d (.int .i64 r113)) (k_load 2 4 (hu := Try.underlying3)) ?_
    refine bCall (caps := []) (v := (uc fun (r128 : Int) => (fun (x38 : Int) => (.d (.int .i64 r128) : V)))) (H' := (uc fun (r128 : Int) => (fun (x38 : Int) => ([.box [.d (.lit (List.map e_i64 x)), .d (.int .i64 x38)], .box [.d (.int .i64 0), .d (.int .i64 0), .d (.int .i64 0), .d (.int .i64 0), .d (.int .i64 0), .d (.int .i64 0)], .box [.d (.int .i64 2), .d (.int .i64 r110), .d (.int .i64 r124), .d (.int .i64 r125), .d (.int .i64 r113), .d (.int .i64 0)]] : List Blk)))) [0] _ (make_Tape_Next_goes k r113 x x26) (ho := rfl) (hfn := Try.func39) (hb := rfl) (hconv := ConvRs.refl _ _) (hnd := by decide) (hBl := fun _ => (by kernel_rfl)) (hv := fun _ => (by kernel_rfl)) (hH' := fun _ => (by kernel_rfl)) (h := fun r => ?_)
    obtain ⟨r128, x38⟩ := r
    refine bUc ?_
    refine oP (.ptr 0 0) p_move ?_
    refine bCall (caps := []) (v := (uc fun (r114 : Int) => (fun (x27 : Int) => (.d (.int .i64 r114) : V)))) (H' := (uc fun (r114 : Int) => (fun (x27 : Int) => ([.box [.d (.lit (List.map e_i64 x)), .d (.int .i64 x27)], .box [.d (.int .i64 0), .d (.int .i64 0), .d (.int .i64 0), .d (.int .i64 0), .d (.int .i64 0), .d (.int .i64 0)], .box [.d (.int .i64 2), .d (.int .i64 r110), .d (.int .i64 r124), .d (.int .i64 r125), .d (.int .i64 r113), .d (.int .i64 0)]] : List Blk)))) [0] _ (make_Tape_Range_goes k 1 3 x x38) (ho := rfl) (hfn := Try.func38) (hb := rfl) (hconv := ConvRs.refl _ _) (hnd := by decide) (hBl := fun _ => (by kernel_rfl)) (hv := fun _ => (by kernel_rfl)) (hH' := fun _ => (by kernel_rfl)) (h := fun r => ?_)
    obtain ⟨r114, x27⟩ := r
    refine bUc ?_
    refine oP (.ptr 2 5) (k_fieldAddr 2 0 (hu := Try.underlying49) (hf := rfl) (hi := ty3)) ?_
    refine oD (.undef) (k_store (vs := [.d (.int .i64 r128)]) (H' := [.box [.d (.lit (List.map e_i64 x)), .d (.int .i64 x27)], .box [.d (.int .i64 0), .d (.int .i64 0), .d (.int .i64 0), .d (.int .i64 0), .d (.int .i64 0), .d (.int .i64 0)], .box [.d (.int .i64 2), .d (.int .i64 r110), .d (.int .i64 r124), .d (.int .i64 r125), .d (.int .i64 r113), .d (.int .i64 r128)]]) 2 5 (hi := ty3)) ?_
    refine oP (.ptr 2 1) (k_fieldAddr 2 0 (hu := Try.underlying49) (hf := rfl) (hi := ty3)) ?_
    refine oD (.undef) (k_store (vs := [.d (.int .i64 r114)]) (H' := [.box [.d (.lit (List.map e_i64 x)), .d (.int .i64 x27)], .box [.d (.int .i64 0), .d (.int .i64 0), .d (.int .i64 0), .d (.int .i64 0), .d (.int .i64 0), .d (.int .i64 0)], .box [.d (.int .i64 2), .d (.int .i64 r114), .d (.int .i64 r124), .d (.int .i64 r125), .d (.int .i64 r113), .d (.int .i64 r128)]]) 2 1 (hi := ty3)) ?_
    refine oEnd ?_
    refine oHead [0, 1, 4, 5] [0, 1, 2] (T' := [(0, .ptr 0 0), (1, .d (.int .i64 0)), (4, .ptr 1 0), (5, .ptr 2 0)]) (H' := [.box [.d (.lit (List.map e_i64 x)), .d (.int .i64 x27)], .box [.d (.int .i64 0), .d (.int .i64 0), .d (.int .i64 0), .d (.int .i64 0), .d (.int .i64 0), .d (.int .i64 0)], .box [.d (.int .i64 2), .d (.int .i64 r114), .d (.int .i64 r124), .d (.int .i64 r125), .d (.int .i64 r113), .d (.int .i64 r128)]]) (hnd := by decide) (h := ?_)
    exact hj2 (x27, 2, r114, r113, r128)
   ·refine oCondF (h := ?_)
    refine oSkip ?_
    refine oHead [0, 1, 4, 5] [0, 1, 2] (T' := [(0, .ptr 0 0), (1, .d (.int .i64 0)), (4, .ptr 1 0), (5, .ptr 2 0)]) (H' := [.box [.d (.lit (List.map e_i64 x)), .d (.int .i64 x36)], .box [.d (.int .i64 0), .d (.int .i64 0), .d (.int .i64 0), .d (.int .i64 0), .d (.int .i64 0), .d (.int .i64 0)], .box [.d (.int .i64 1), .d (.int .i64 r110), .d (.int .i64 r124), .d (.int .i64 r125), .d (.int .i64 0), .d (.int .i64 0)]]) (hnd := by decide) (h := ?_)
    exact hj2 (x36, 1, r110, 0, 0)

/-- (*awardingbody/awardingbodymake.Tape).Paper -/
def make_Tape_Paper_b1 (k : Nat) (x : (List Int)) (again : Int × Int × (List SPart) → Option (Int × (List SPart))) : Int × Int × (List SPart) → Option (Int × (List SPart)) := uc fun i4 => uc fun x11 => fun xs6 => bif (decide (i4 > 0)) then Option.bind (make_Tape_Part k x x11) (uc fun r14 => uc fun r15 => uc fun r16 => uc fun r17 => uc fun r18 => uc fun r19 => fun x9 => gcap (List.length (xs6 ++ ([(⟨r14, r15, r16, r17, r18, r19⟩ : SPart)] : List SPart))) 48 (again ((IntKind.wrap .i64 (i4 - 1)), x9, (xs6 ++ ([(⟨r14, r15, r16, r17, r18, r19⟩ : SPart)] : List SPart))))) else some (x11, xs6)
def make_Tape_Paper (k : Nat) (code : Int) (variant : Int) (x : (List Int)) (x1 : Int) : Option ((List SPart) × Int) := Option.bind (make_Tape_Range k 1 6 x x1) (uc fun r12 => fun x21 => Option.bind (gloop (make_Tape_Paper_b1 k x) k (r12, x21, ([] : List SPart)) : Option (Int × (List SPart))) (uc fun x10 => fun xs5 => some (xs5, x10)))
def make_Tape_Paper_E (code : Int) (variant : Int) (x : (List Int)) (x1 : Int) : (List SPart) × Int → V × List Blk := uc fun r11 => fun x6 => (.agg [.d (.int .i64 code), .d (.int .i64 variant), .d (.lit (List.map e_SPart r11))], [.box [.d (.lit (List.map e_i64 x)), .d (.int .i64 x6)]])
theorem make_Tape_Paper_goes (k : Nat) (code : Int) (variant : Int) (x : (List Int)) (x1 : Int) : RunsO Try.prog 29 [.ptr 0 0, .d (.int .i64 code), .d (.int .i64 variant)] [.box [.d (.lit (List.map e_i64 x)), .d (.int .i64 x1)]] (make_Tape_Paper_E code variant x x1) (make_Tape_Paper k code variant x x1) := by
  refine RunsO.of_goes (N := 26) (m := 1) (T := [(0, .ptr 0 0), (1, .d (.int .i64 code)), (2, .d (.int .i64 variant))]) Try.func29 rfl rfl (h := ?_)
  unfold make_Tape_Paper
  refine bStart ?_
  refine oSR rfl ?_
  refine oD (.ptr 1 0) (k_alloc (H' := [.box [.d (.lit (List.map e_i64 x)), .d (.int .i64 x1)], .box [.d (.int .i64 0), .d (.int .i64 0), .nilc]]) ty27) ?_
  refine oEnd ?_
  refine oSR rfl ?_
  refine oP (.d (.int .i64 code)) p_move ?_
  refine oP (.d (.int .i64 variant)) p_move ?_
  refine oP (.agg [.d (.int .i64 code), .d (.int .i64 variant), .nilc]) (p_build bld27) ?_
  refine oD (.ptr 2 0) (k_alloc (H' := [.box [.d (.lit (List.map e_i64 x)), .d (.int .i64 x1)], .box [.d (.int .i64 0), .d (.int .i64 0), .nilc], .box [.d (.int .i64 0), .d (.int .i64 0), .nilc]]) ty27) ?_
  refine oD (.undef) (k_store (vs := [.d (.int .i64 code), .d (.int .i64 variant), .nilc]) (H' := [.box [.d (.lit (List.map e_i64 x)), .d (.int .i64 x1)], .box [.d (.int .i64 0), .d (.int .i64 0), .nilc], .box [.d (.int .i64 code), .d (.int .i64 variant), .nilc]]) 2 0 (hi := ty27)) ?_
  refine oEnd ?_
  refine oSeq ?_
  refine oSR rfl ?_
  refine oP (.ptr 0 0) p_move ?_
  refine bCall (caps := []) (v := (uc fun (r12 : Int) => (fun (x21 : Int) => (.d (.int .i64 r12) : V)))) (H' := (uc fun (r12 : Int) => (fun (x21 : Int) => ([.box [.d (.lit (List.map e_i64 x)), .d (.int .i64 x21)], .box [.d (.int .i64 0), .d (.int .i64 0), .nilc], .box [.d (.int .i64 code), .d (.int .i64 variant), .nilc]] : List Blk)))) [0] _ (make_Tape_Range_goes k 1 6 x x1) (ho := rfl) (hfn := Try.func38) (hb := rfl) (hconv := ConvRs.refl _ _) (hnd := by decide) (hBl := fun _ => (by kernel_rfl)) (hv := fun _ => (by kernel_rfl)) (hH' := fun _ => (by kernel_rfl)) (h := fun r => ?_)
  obtain ⟨r12, x21⟩ := r
  refine bUc ?_
  refine oP (.d (.int .i64 r12)) p_assign ?_
  refine oEnd ?_
  refine bJoin ((uc fun (x10 : Int) => (fun (xs5 : (List SPart)) => [(6, .ptr 1 0), (7, .ptr 2 0)]))) ((uc fun (x10 : Int) => (fun (xs5 : (List SPart)) => [.box [.d (.lit (List.map e_i64 x)), .d (.int .i64 x10)], .box [.d (.int .i64 0), .d (.int .i64 0), .nilc], .box [.d (.int .i64 code), .d (.int .i64 variant), .ref 3 (List.length xs5) 0 (List.length xs5)], .sl 6 (List.map e_SPart xs5) false]))) (fun s => s) (fun s => ?_) (fun hj2 => ?_)
  ·obtain ⟨x10, xs5⟩ := s
   refine bUc ?_
   refine oView (T' := [(6, .ptr 1 0), (7, .ptr 2 0)]) (H' := [.box [.d (.lit (List.map e_i64 x)), .d (.int .i64 x10)], .box [.d (.int .i64 0), .d (.int .i64 0), .nilc], .box [.d (.int .i64 code), .d (.int .i64 variant), .ref 3 (List.length xs5) 0 (List.length xs5)], .sl 6 (List.map e_SPart xs5) false]) (h := ?_)
   refine oSR rfl ?_
   refine oQ (.agg [.d (.int .i64 code), .d (.int .i64 variant), .ref 3 (List.length xs5) 0 (List.length xs5)]) (k_loadAgg 2 0 (hu := Try.underlying27) (hi := ty27)) ?_
   refine oD (.undef) (k_store (vs := [.d (.int .i64 code), .d (.int .i64 variant), .ref 3 (List.length xs5) 0 (List.length xs5)]) (H' := [.box [.d (.lit (List.map e_i64 x)), .d (.int .i64 x10)], .box [.d (.int .i64 code), .d (.int .i64 variant), .ref 3 (List.length xs5) 0 (List.length xs5)], .box [.d (.int .i64 code), .d (.int .i64 variant), .ref 3 (List.length xs5) 0 (List.length xs5)], .sl 6 (List.map e_SPart xs5) false]) 1 0 (hi := ty27)) ?_
   refine oEnd ?_
   refine oFreeze 3 (esz := 6) (xs := List.map e_SPart xs5) (h := ?_)
   refine oView (H' := [.box [.d (.lit (List.map e_i64 x)), .d (.int .i64 x10)], .box [.d (.int .i64 code), .d (.int .i64 variant), .ref 3 (List.length xs5) 0 (List.length xs5)], .box [.d (.int .i64 code), .d (.int .i64 variant), .ref 3 (List.length xs5) 0 (List.length xs5)], .sl 6 (List.map e_SPart xs5) true]) rfl (h := ?_)
   refine oConvB 1 (cells := [.d (.int .i64 code), .d (.int .i64 variant), .ref 3 (List.length xs5) 0 (List.length xs5)]) (cells' := [.d (.int .i64 code), .d (.int .i64 variant), .d (.lit (List.map e_SPart xs5))]) (hc := .cons _ _ _ _ (.same _) (.cons _ _ _ _ (.same _) (.cons _ _ _ _ (k_lit (enc := e_SPart) (sz := 6) 3 xs5) .nil))) (h := ?_)
   refine oView (H' := [.box [.d (.lit (List.map e_i64 x)), .d (.int .i64 x10)], .box [.d (.int .i64 code), .d (.int .i64 variant), .d (.lit (List.map e_SPart xs5))], .box [.d (.int .i64 code), .d (.int .i64 variant), .ref 3 (List.length xs5) 0 (List.length xs5)], .sl 6 (List.map e_SPart xs5) true]) rfl (h := ?_)
   exact oRet (r0 := (xs5, x10)) (rv := .agg [.d (.int .i64 code), .d (.int .i64 variant), .d (.lit (List.map e_SPart xs5))]) (B := [.box [.d (.lit (List.map e_i64 x)), .d (.int .i64 x10)]]) (vs := [.agg [.d (.int .i64 code), .d (.int .i64 variant), .d (.lit (List.map e_SPart xs5))]]) (σ := [0]) (hf := Try.func29) (hrs := rfl) (hres := .cons _ _ _ _ (.agg 6 27 1 0 [.d (.int .i64 code), .d (.int .i64 variant), .d (.lit (List.map e_SPart xs5))] [.d (.int .i64 code), .d (.int .i64 variant), .d (.lit (List.map e_SPart xs5))] _ _ _ _ (by kernel_rfl) (by kernel_rfl) Try.underlying27 (by kernel_rfl) ty27 (by kernel_rfl) (by kernel_rfl)) .nil) (hnd := by decide)
  ·refine oBlock ?_
   refine oLoop ?_
   refine oVirtB (esz := 6) 2 2 (cells := [.d (.int .i64 code), .d (.int .i64 variant), .nilc]) (h := ?_)
   refine oView (H' := [.box [.d (.lit (List.map e_i64 x)), .d (.int .i64 x21)], .box [.d (.int .i64 0), .d (.int .i64 0), .nilc], .box [.d (.int .i64 code), .d (.int .i64 variant), .ref 3 (List.length ([] : List SPart)) 0 (List.length ([] : List SPart))], .sl 6 (List.map e_SPart ([] : List SPart)) false]) rfl (h := ?_)
   refine oHead [0, 6, 7, 8] [0, 1, 2, 3] (T' := [(0, .ptr 0 0), (6, .ptr 1 0), (7, .ptr 2 0), (8, .d (.int .i64 r12))]) (H' := [.box [.d (.lit (List.map e_i64 x)), .d (.int .i64 x21)], .box [.d (.int .i64 0), .d (.int .i64 0), .nilc], .box [.d (.int .i64 code), .d (.int .i64 variant), .ref 3 (List.length ([] : List SPart)) 0 (List.length ([] : List SPart))], .sl 6 (List.map e_SPart ([] : List SPart)) false]) (hnd := by decide) (h := ?_)
   refine bLoop (body := make_Tape_Paper_b1 k x) ((uc fun (i4 : Int) => (uc fun (x11 : Int) => (fun (xs6 : (List SPart)) => [(0, .ptr 0 0), (6, .ptr 1 0), (7, .ptr 2 0), (8, .d (.int .i64 i4))])))) ((uc fun (i4 : Int) => (uc fun (x11 : Int) => (fun (xs6 : (List SPart)) => [.box [.d (.lit (List.map e_i64 x)), .d (.int .i64 x11)], .box [.d (.int .i64 0), .d (.int .i64 0), .nilc], .box [.d (.int .i64 code), .d (.int .i64 variant), .ref 3 (List.length xs6) 0 (List.length xs6)], .sl 6 (List.map e_SPart xs6) false])))) (fun again hag1 s => ?_) k (r12, x21, ([] : List SPart))
   ·unfold make_Tape_Paper_b1
    obtain ⟨i4, x11, xs6⟩ := s
    refine bUc ?_
    refine bUc ?_
    refine oView (T' := [(0, .ptr 0 0), (6, .ptr 1 0), (7, .ptr 2 0), (8, .d (.int .i64 i4))]) (H' := [.box [.d (.lit (List.map e_i64 x)), .d (.int .i64 x11)], .box [.d (.int .i64 0), .d (.int .i64 0), .nilc], .box [.d (.int .i64 code), .d (.int .i64 variant), .ref 3 (List.length xs6) 0 (List.length xs6)], .sl 6 (List.map e_SPart xs6) false]) (h := ?_)
    refine oSeq ?_
    refine oSR rfl ?_
    refine oP (.d (.int .i64 i4)) p_move ?_
    refine oP (.d (.bool (decide (i4 > 0)))) (p_int (k := .i64) (p := i4) (q := 0)) ?_
    refine oEnd ?_
    refine bSplit 15 (h1 := fun hc => ?_) (h2 := fun hc => ?_)
    ·refine oCondT (h := ?_)
     refine oSkip ?_
     refine oSeq ?_
     refine oBlock ?_
     refine oDraw [(0, 3), (1, 8), (2, 7), (3, 5)] rfl ?_
     refine aP 0 (.ptr 2 2) rfl (k_fieldAddr 2 0 (hu := Try.underlying27) (hf := rfl) (hi := ty25)) ?_
     refine aQ 1 [2] (.ref 3 (List.length xs6) 0 (List.length xs6)) rfl (k_load 2 2 (hu := Try.underlying25)) ?_
     refine aP 2 (.ptr 0 0) rfl p_move ?_
     refine dCall (i := 3) (caps := []) (v := (uc fun (r14 : Int) => (uc fun (r15 : Int) => (uc fun (r16 : Int) => (uc fun (r17 : Int) => (uc fun (r18 : Int) => (uc fun (r19 : Int) => (fun (x9 : Int) => (.agg [.d (.int .i64 r14), .d (.int .i64 r15), .d (.int .i64 r16), .d (.int .i64 r17), .d (.int .i64 r18), .d (.int .i64 r19)] : V))))))))) (H' := (uc fun (r14 : Int) => (uc fun (r15 : Int) => (uc fun (r16 : Int) => (uc fun (r17 : Int) => (uc fun (r18 : Int) => (uc fun (r19 : Int) => (fun (x9 : Int) => ([.box [.d (.lit (List.map e_i64 x)), .d (.int .i64 x9)], .box [.d (.int .i64 0), .d (.int .i64 0), .nilc], .box [.d (.int .i64 code), .d (.int .i64 variant), .ref 3 (List.length xs6) 0 (List.length xs6)], .sl 6 (List.map e_SPart xs6) false] : List Blk))))))))) [0] _ (make_Tape_Part_goes k x x11) rfl (ho := rfl) (hfn := Try.func42) (hb := rfl) (hconv := ConvRs.refl _ _) (hnd := by decide) (hBl := fun _ => (by kernel_rfl)) (hv := fun _ => (by kernel_rfl)) (hH' := fun _ => (by kernel_rfl)) (h := fun r => ?_)
     obtain ⟨r14, r15, r16, r17, r18, r19, x9⟩ := r
     refine dUc ?_
     refine dUc ?_
     refine dUc ?_
     refine dUc ?_
     refine dUc ?_
     refine dUc ?_
     refine aOne (i := 4) (v := .ref 4 (List.length ([(⟨r14, r15, r16, r17, r18, r19⟩ : SPart)] : List SPart)) 0 (List.length ([(⟨r14, r15, r16, r17, r18, r19⟩ : SPart)] : List SPart))) rfl (hac := (Does.acts (k_buildSlice (H' := [.box [.d (.lit (List.map e_i64 x)), .d (.int .i64 x9)], .box [.d (.int .i64 0), .d (.int .i64 0), .nilc], .box [.d (.int .i64 code), .d (.int .i64 variant), .ref 3 (List.length xs6) 0 (List.length xs6)], .sl 6 (List.map e_SPart xs6) false, .sl 6 (List.map e_SPart ([(⟨r14, r15, r16, r17, r18, r19⟩ : SPart)] : List SPart)) false]) (List.map e_SPart ([(⟨r14, r15, r16, r17, r18, r19⟩ : SPart)] : List SPart)) Try.underlying25 ty49))) (h := ?_)
     refine dCap (fun h1 => ?_)
     refine aOne (i := 5) (v := .ref 3 (List.length (xs6 ++ ([(⟨r14, r15, r16, r17, r18, r19⟩ : SPart)] : List SPart))) 0 (List.length (xs6 ++ ([(⟨r14, r15, r16, r17, r18, r19⟩ : SPart)] : List SPart)))) rfl (hac := (Does.acts (k_append (H' := [.box [.d (.lit (List.map e_i64 x)), .d (.int .i64 x9)], .box [.d (.int .i64 0), .d (.int .i64 0), .nilc], .box [.d (.int .i64 code), .d (.int .i64 variant), .ref 3 (List.length xs6) 0 (List.length xs6)], .sl 6 (List.map e_SPart (xs6 ++ ([(⟨r14, r15, r16, r17, r18, r19⟩ : SPart)] : List SPart))) false, .sl 6 (List.map e_SPart ([(⟨r14, r15, r16, r17, r18, r19⟩ : SPart)] : List SPart)) false]) (enc := e_SPart) 3 xs6 ([(⟨r14, r15, r16, r17, r18, r19⟩ : SPart)] : List SPart) Try.underlying25 Try.underlying25 ty49 (hy := (holdsRef (enc := e_SPart) 4 ([(⟨r14, r15, r16, r17, r18, r19⟩ : SPart)] : List SPart) false)) (hfit := h1)))) (h := ?_)
     refine aP 6 (.ptr 2 2) rfl (k_fieldAddr 2 0 (hu := Try.underlying27) (hf := rfl) (hi := ty25)) ?_
     refine aOne (i := 7) (v := .undef) rfl (hac := (Does.acts (k_store (vs := [.ref 3 (List.length (xs6 ++ ([(⟨r14, r15, r16, r17, r18, r19⟩ : SPart)] : List SPart))) 0 (List.length (xs6 ++ ([(⟨r14, r15, r16, r17, r18, r19⟩ : SPart)] : List SPart)))]) (H' := [.box [.d (.lit (List.map e_i64 x)), .d (.int .i64 x9)], .box [.d (.int .i64 0), .d (.int .i64 0), .nilc], .box [.d (.int .i64 code), .d (.int .i64 variant), .ref 3 (List.length (xs6 ++ ([(⟨r14, r15, r16, r17, r18, r19⟩ : SPart)] : List SPart))) 0 (List.length (xs6 ++ ([(⟨r14, r15, r16, r17, r18, r19⟩ : SPart)] : List SPart)))], .sl 6 (List.map e_SPart (xs6 ++ ([(⟨r14, r15, r16, r17, r18, r19⟩ : SPart)] : List SPart))) false, .sl 6 (List.map e_SPart ([(⟨r14, r15, r16, r17, r18, r19⟩ : SPart)] : List SPart)) false]) 2 2 (hi := ty25)))) (h := ?_)
     refine aDone (h := ?_)
     refine oBlk ?_
     refine oRegion rfl ?_
     refine oP (.d (.int .i64 i4)) p_move ?_
     refine oP (.d (.int .i64 (IntKind.wrap .i64 (i4 - 1)))) (p_int (k := .i64) (p := i4) (q := 1)) ?_
     refine oP (.d (.int .i64 (IntKind.wrap .i64 (i4 - 1)))) p_assign ?_
     refine oEnd ?_
     refine oAgain ?_
     refine oHead [0, 6, 7, 8] [0, 1, 2, 3] (T' := [(0, .ptr 0 0), (6, .ptr 1 0), (7, .ptr 2 0), (8, .d (.int .i64 (IntKind.wrap .i64 (i4 - 1))))]) (H' := [.box [.d (.lit (List.map e_i64 x)), .d (.int .i64 x9)], .box [.d (.int .i64 0), .d (.int .i64 0), .nilc], .box [.d (.int .i64 code), .d (.int .i64 variant), .ref 3 (List.length (xs6 ++ ([(⟨r14, r15, r16, r17, r18, r19⟩ : SPart)] : List SPart))) 0 (List.length (xs6 ++ ([(⟨r14, r15, r16, r17, r18, r19⟩ : SPart)] : List SPart)))], .sl 6 (List.map e_SPart (xs6 ++ ([(⟨r14, r15, r16, r17, r18, r19⟩ : SPart)] : List SPart))) false]) (hnd := by decide) (h := ?_)
     exact hag1 ((IntKind.wrap .i64 (i4 - 1)), x9, (xs6 ++ ([(⟨r14, r15, r16, r17, r18, r19⟩ : SPart)] : List SPart)))
    ·refine oCondF (h := ?_)
     refine oExit rfl ?_
     refine oHead [6, 7] [0, 1, 2, 3] (T' := [(6, .ptr 1 0), (7, .ptr 2 0)]) (H' := [.box [.d (.lit (List.map e_i64 x)), .d (.int .i64 x11)], .box [.d (.int .i64 0), .d (.int .i64 0), .nilc], .box [.d (.int .i64 code), .d (.int .i64 variant), .ref 3 (List.length xs6) 0 (List.length xs6)], .sl 6 (List.map e_SPart xs6) false]) (hnd := by decide) (h := ?_)
     exact hj2 (x11, xs6)

/-- (*awardingbody/awardingbodymake.Tape).One -/
def make_Tape_One (k : Nat) (n : Int) (x : (List Int)) (x1 : Int) : Option (Bool × Int) := Option.bind (make_Tape_Next k n x x1) (uc fun r121 => fun x31 => some ((r121 == (IntKind.wrap .i64 (n - 1))), x31))
def make_Tape_One_E (n : Int) (x : (List Int)) (x1 : Int) : Bool × Int → V × List Blk := uc fun r1 => fun x2 => (.d (.bool r1), [.box [.d (.lit (List.map e_i64 x)), .d (.int .i64 x2)]])
theorem make_Tape_One_goes (k : Nat) (n : Int) (x : (List Int)) (x1 : Int) : RunsO Try.prog 40 [.ptr 0 0, .d (.int .i64 n)] [.box [.d (.lit (List.map e_i64 x)), .d (.int .i64 x1)]] (make_Tape_One_E n x x1) (make_Tape_One k n x x1) := by
  refine RunsO.of_goes (N := 11) (m := 1) (T := [(0, .ptr 0 0), (1, .d (.int .i64 n))]) Try.func40 rfl rfl (h := ?_)
  unfold make_Tape_One
  refine bStart ?_
  refine oSR rfl ?_
  refine oP (.d (.bool false)) p_assign ?_
  refine oEnd ?_
  refine oSR rfl ?_
  refine oP (.ptr 0 0) p_move ?_
  refine oP (.d (.int .i64 n)) p_move ?_
  refine bCall (caps := []) (v := (uc fun (r121 : Int) => (fun (x31 : Int) => (.d (.int .i64 r121) : V)))) (H' := (uc fun (r121 : Int) => (fun (x31 : Int) => ([.box [.d (.lit (List.map e_i64 x)), .d (.int .i64 x31)]] : List Blk)))) [0] _ (make_Tape_Next_goes k n x x1) (ho := rfl) (hfn := Try.func39) (hb := rfl) (hconv := ConvRs.refl _ _) (hnd := by decide) (hBl := fun _ => (by kernel_rfl)) (hv := fun _ => (by kernel_rfl)) (hH' := fun _ => (by kernel_rfl)) (h := fun r => ?_)
  obtain ⟨r121, x31⟩ := r
  refine bUc ?_
  refine oP (.d (.int .i64 n)) p_move ?_
  refine oP (.d (.int .i64 (IntKind.wrap .i64 (n - 1)))) (p_int (k := .i64) (p := n) (q := 1)) ?_
  refine oP (.d (.bool (r121 == (IntKind.wrap .i64 (n - 1))))) (p_int (k := .i64) (p := r121) (q := (IntKind.wrap .i64 (n - 1)))) ?_
  refine oP (.d (.bool (r121 == (IntKind.wrap .i64 (n - 1))))) p_assign ?_
  refine oEnd ?_
  exact oRet (r0 := ((r121 == (IntKind.wrap .i64 (n - 1))), x31)) (rv := .d (.bool (r121 == (IntKind.wrap .i64 (n - 1))))) (B := [.box [.d (.lit (List.map e_i64 x)), .d (.int .i64 x31)]]) (vs := [.d (.bool (r121 == (IntKind.wrap .i64 (n - 1))))]) (σ := [0]) (hf := Try.func40) (hrs := rfl) (hres := .cons _ _ _ _ (.tmp 4 _ (by kernel_rfl)) .nil) (hnd := by decide)

/-- (*awardingbody/awardingbodymake.Tape).Pick -/
def make_Tape_Pick (k : Nat) (l : (List Int)) (x : (List Int)) (x1 : Int) : Option (Int × Int) := Option.bind (make_Tape_Next k ((List.length l) : Int) x x1) (uc fun r121 => fun x31 => gidx l r121 fun e11 => some (e11, x31))
def make_Tape_Pick_E (l : (List Int)) (x : (List Int)) (x1 : Int) : Int × Int → V × List Blk := uc fun r1 => fun x2 => (.d (.int .i64 r1), [.box [.d (.lit (List.map e_i64 x)), .d (.int .i64 x2)]])
theorem make_Tape_Pick_goes (k : Nat) (l : (List Int)) (x : (List Int)) (x1 : Int) : RunsO Try.prog 43 [.ptr 0 0, .d (.lit (List.map e_i64 l))] [.box [.d (.lit (List.map e_i64 x)), .d (.int .i64 x1)]] (make_Tape_Pick_E l x x1) (make_Tape_Pick k l x x1) := by
  refine RunsO.of_goes (N := 12) (m := 1) (T := [(0, .ptr 0 0), (1, .d (.lit (List.map e_i64 l)))]) Try.func43 rfl rfl (h := ?_)
  unfold make_Tape_Pick
  refine bStart ?_
  refine oSR rfl ?_
  refine oP (.d (.int .i64 0)) p_assign ?_
  refine oEnd ?_
  refine oSR rfl ?_
  refine oP (.d (.lit (List.map e_i64 l))) p_move ?_
  refine oP (.ptr 0 0) p_move ?_
  refine oP (.d (.lit (List.map e_i64 l))) p_move ?_
  refine oP (.d (.int .i64 ((List.length l) : Int))) (k_lenLit (enc := e_i64) l (hu := Try.underlying22)) ?_
  refine bCall (caps := []) (v := (uc fun (r121 : Int) => (fun (x31 : Int) => (.d (.int .i64 r121) : V)))) (H' := (uc fun (r121 : Int) => (fun (x31 : Int) => ([.box [.d (.lit (List.map e_i64 x)), .d (.int .i64 x31)]] : List Blk)))) [0] _ (make_Tape_Next_goes k ((List.length l) : Int) x x1) (ho := rfl) (hfn := Try.func39) (hb := rfl) (hconv := ConvRs.refl _ _) (hnd := by decide) (hBl := fun _ => (by kernel_rfl)) (hv := fun _ => (by kernel_rfl)) (hH' := fun _ => (by kernel_rfl)) (h := fun r => ?_)
  obtain ⟨r121, x31⟩ := r
  refine bUc ?_
  refine bIdx (fun e11 h12 h13 => ?_)
  refine oP (.lptr (e_i64 e11) 0) (k_idxLit e_i64_len l (a := e11) (k := .i64) (i := r121) (hu := Try.underlying22) (hi := ty3) (h0 := h12) (he := h13)) ?_
  refine oQ (.d (.int .i64 e11)) (k_loadL (cells := e_i64 e11) 0 (hu := Try.underlying3)) ?_
  refine oP (.d (.int .i64 e11)) p_assign ?_
  refine oEnd ?_
  exact oRet (r0 := (e11, x31)) (rv := .d (.int .i64 e11)) (B := [.box [.d (.lit (List.map e_i64 x)), .d (.int .i64 x31)]]) (vs := [.d (.int .i64 e11)]) (σ := [0]) (hf := Try.func43) (hrs := rfl) (hres := .cons _ _ _ _ (.tmp 4 _ (by kernel_rfl)) .nil) (hnd := by decide)

/-- (*awardingbody/awardingbodymake.Tape).Wild -/
def make_Tape_Wild (k : Nat) (x : (List Int)) (x1 : Int) : Option (Int × Int) := Option.bind (make_Tape_Pick k ([(-1), 0, 1, 2, 31, 32, 99, 100, 200, 201, 9999, 10000, 1000000, 1000001, 1152921504606846976, 1152921504606846977, (-1152921504606846976), 9223372036854775807, (-9223372036854775808)] : List Int) x x1) (uc fun r12 => fun x21 => some (r12, x21))
def make_Tape_Wild_E (x : (List Int)) (x1 : Int) : Int × Int → V × List Blk := uc fun r11 => fun x3 => (.d (.int .i64 r11), [.box [.d (.lit (List.map e_i64 x)), .d (.int .i64 x3)]])
theorem make_Tape_Wild_goes (k : Nat) (x : (List Int)) (x1 : Int) : RunsO Try.prog 41 [.ptr 0 0] [.box [.d (.lit (List.map e_i64 x)), .d (.int .i64 x1)]] (make_Tape_Wild_E x x1) (make_Tape_Wild k x x1) := by
  refine RunsO.of_goes (N := 6) (m := 1) (T := [(0, .ptr 0 0)]) Try.func41 rfl rfl (h := ?_)
  unfold make_Tape_Wild
  refine bStart ?_
  refine oSR rfl ?_
  refine oP (.d (.int .i64 0)) p_assign ?_
  refine oEnd ?_
  refine oSR rfl ?_
  refine oP (.ptr 0 0) p_move ?_
  refine oD (.ref 1 (List.length ([(-1), 0, 1, 2, 31, 32, 99, 100, 200, 201, 9999, 10000, 1000000, 1000001, 1152921504606846976, 1152921504606846977, (-1152921504606846976), 9223372036854775807, (-9223372036854775808)] : List Int)) 0 (List.length ([(-1), 0, 1, 2, 31, 32, 99, 100, 200, 201, 9999, 10000, 1000000, 1000001, 1152921504606846976, 1152921504606846977, (-1152921504606846976), 9223372036854775807, (-9223372036854775808)] : List Int))) (k_buildSlice (H' := [.box [.d (.lit (List.map e_i64 x)), .d (.int .i64 x1)], .sl 1 (List.map e_i64 ([(-1), 0, 1, 2, 31, 32, 99, 100, 200, 201, 9999, 10000, 1000000, 1000001, 1152921504606846976, 1152921504606846977, (-1152921504606846976), 9223372036854775807, (-9223372036854775808)] : List Int)) false]) (List.map e_i64 ([(-1), 0, 1, 2, 31, 32, 99, 100, 200, 201, 9999, 10000, 1000000, 1000001, 1152921504606846976, 1152921504606846977, (-1152921504606846976), 9223372036854775807, (-9223372036854775808)] : List Int)) Try.underlying22 ty3) ?_
  refine oFreeze 1 (esz := 1) (xs := List.map e_i64 ([(-1), 0, 1, 2, 31, 32, 99, 100, 200, 201, 9999, 10000, 1000000, 1000001, 1152921504606846976, 1152921504606846977, (-1152921504606846976), 9223372036854775807, (-9223372036854775808)] : List Int)) (h := ?_)
  refine oView (H' := [.box [.d (.lit (List.map e_i64 x)), .d (.int .i64 x1)], .sl 1 (List.map e_i64 ([(-1), 0, 1, 2, 31, 32, 99, 100, 200, 201, 9999, 10000, 1000000, 1000001, 1152921504606846976, 1152921504606846977, (-1152921504606846976), 9223372036854775807, (-9223372036854775808)] : List Int)) true]) rfl (h := ?_)
  refine bCall (caps := []) (v := (uc fun (r12 : Int) => (fun (x21 : Int) => (.d (.int .i64 r12) : V)))) (H' := (uc fun (r12 : Int) => (fun (x21 : Int) => ([.box [.d (.lit (List.map e_i64 x)), .d (.int .i64 x21)], .sl 1 (List.map e_i64 ([(-1), 0, 1, 2, 31, 32, 99, 100, 200, 201, 9999, 10000, 1000000, 1000001, 1152921504606846976, 1152921504606846977, (-1152921504606846976), 9223372036854775807, (-9223372036854775808)] : List Int)) true] : List Blk)))) [0] _ (make_Tape_Pick_goes k ([(-1), 0, 1, 2, 31, 32, 99, 100, 200, 201, 9999, 10000, 1000000, 1000001, 1152921504606846976, 1152921504606846977, (-1152921504606846976), 9223372036854775807, (-9223372036854775808)] : List Int) x x1) (ho := rfl) (hfn := Try.func43) (hb := rfl) (hconv := (convList (vs0 := [.ptr 0 0, .ref 1 (List.length ([(-1), 0, 1, 2, 31, 32, 99, 100, 200, 201, 9999, 10000, 1000000, 1000001, 1152921504606846976, 1152921504606846977, (-1152921504606846976), 9223372036854775807, (-9223372036854775808)] : List Int)) 0 (List.length ([(-1), 0, 1, 2, 31, 32, 99, 100, 200, 201, 9999, 10000, 1000000, 1000001, 1152921504606846976, 1152921504606846977, (-1152921504606846976), 9223372036854775807, (-9223372036854775808)] : List Int))]) (vs := [.ptr 0 0, .d (.lit (List.map e_i64 ([(-1), 0, 1, 2, 31, 32, 99, 100, 200, 201, 9999, 10000, 1000000, 1000001, 1152921504606846976, 1152921504606846977, (-1152921504606846976), 9223372036854775807, (-9223372036854775808)] : List Int)))]) (p := (.cons _ _ _ _ (.same _) (.cons _ _ _ _ (k_lit (enc := e_i64) (sz := 1) 1 ([(-1), 0, 1, 2, 31, 32, 99, 100, 200, 201, 9999, 10000, 1000000, 1000001, 1152921504606846976, 1152921504606846977, (-1152921504606846976), 9223372036854775807, (-9223372036854775808)] : List Int)) .nil))))) (hnd := by decide) (hBl := fun _ => (by kernel_rfl)) (hv := fun _ => (by kernel_rfl)) (hH' := fun _ => (by kernel_rfl)) (h := fun r => ?_)
  obtain ⟨r12, x21⟩ := r
  refine bUc ?_
  refine oP (.d (.int .i64 r12)) p_assign ?_
  refine oEnd ?_
  exact oRet (r0 := (r12, x21)) (rv := .d (.int .i64 r12)) (B := [.box [.d (.lit (List.map e_i64 x)), .d (.int .i64 x21)]]) (vs := [.d (.int .i64 r12)]) (σ := [0]) (hf := Try.func41) (hrs := rfl) (hres := .cons _ _ _ _ (.tmp 2 _ (by kernel_rfl)) .nil) (hnd := by decide)

/-- (*awardingbody/awardingbodymake.Tape).Part -/
def make_Tape_Part_2 (k : Nat) (x : (List Int)) (x1 : Int) : Option (Int × Int × Int × Int × Int × Int × Int) := Option.bind (make_Tape_Range k 1 12 x x1) (uc fun r117 => fun x28 => Option.bind (make_Tape_Next k 4 x x28) (uc fun r125 => fun x37 => Option.bind (make_Tape_Next k 3 x x37) (uc fun r126 => fun x38 => Option.bind (make_Tape_Next k 3 x x38) (uc fun r127 => fun x39 => Option.bind (bif (r127 == 0) then Option.bind (make_Tape_Range k 2 5 x x39) (uc fun r138 => fun x220 => Option.bind (make_Tape_Next k r138 x x220) (uc fun r1211 => fun x317 => Option.bind (make_Tape_Range k 1 3 x x317) (uc fun r139 => fun x221 => some (x221, 2, r139, r138, r1211)))) else some (x39, 1, r117, 0, 0) : Option (Int × Int × Int × Int × Int)) (uc fun x17 => uc fun x18 => uc fun x19 => uc fun x20 => fun x30 => Option.bind (make_Tape_One k 1 x x17) (uc fun r120 => fun x211 => Option.bind (bif r120 then Option.bind (make_Tape_Next k 6 x x211) (uc fun r1210 => fun x314 => bif (r1210 == 0) then Option.bind (make_Tape_Range k (-1) 3 x x314) (uc fun r134 => fun x216 => some (x216, r134, x19, r125, r126, x20, x30)) else bif (r1210 == 1) then Option.bind (make_Tape_Pick k ([0, 40, 41, (-1)] : List Int) x x314) (uc fun r135 => fun x217 => some (x217, x18, r135, r125, r126, x20, x30)) else bif (r1210 == 2) then Option.bind (make_Tape_Wild k x x314) (uc fun r1112 => fun x315 => some (x315, x18, x19, r1112, r126, x20, x30)) else bif (r1210 == 3) then Option.bind (make_Tape_Wild k x x314) (uc fun r1113 => fun x316 => some (x316, x18, x19, r125, r1113, x20, x30)) else bif (r1210 == 4) then Option.bind (make_Tape_Range k (-1) 6 x x314) (uc fun r136 => fun x218 => some (x218, x18, x19, r125, r126, r136, x30)) else Option.bind (make_Tape_Range k (-1) 5 x x314) (uc fun r137 => fun x219 => some (x219, x18, x19, r125, r126, x20, r137))) else some (x211, x18, x19, r125, r126, x20, x30) : Option (Int × Int × Int × Int × Int × Int × Int)) (uc fun x40 => uc fun x41 => uc fun x42 => uc fun x43 => uc fun x44 => uc fun x45 => fun x46 => some (x41, x42, x43, x44, x45, x46, x40))))))))
def make_Tape_Part_2_E (x : (List Int)) (x1 : Int) : Int × Int × Int × Int × Int × Int × Int → V × List Blk := uc fun r19 => uc fun r110 => uc fun r113 => uc fun r114 => uc fun r115 => uc fun r116 => fun x16 => (.agg [.d (.int .i64 r19), .d (.int .i64 r110), .d (.int .i64 r113), .d (.int .i64 r114), .d (.int .i64 r115), .d (.int .i64 r116)], [.box [.d (.lit (List.map e_i64 x)), .d (.int .i64 x16)]])
theorem make_Tape_Part_2_goes (k : Nat) (x : (List Int)) (x1 : Int) : RunsO Try.prog 42 [.ptr 0 0, .d (.int .i64 1)] [.box [.d (.lit (List.map e_i64 x)), .d (.int .i64 x1)]] (make_Tape_Part_2_E x x1) (make_Tape_Part_2 k x x1) := by
  refine RunsO.of_goes (N := 67) (m := 1) (T := [(0, .ptr 0 0), (1, .d (.int .i64 1))]) Try.func42 rfl rfl (h := ?_)
  unfold make_Tape_Part_2
  refine bStart ?_
  refine oSR rfl ?_
  refine oD (.ptr 1 0) (k_alloc (H' := [.box [.d (.lit (List.map e_i64 x)), .d (.int .i64 x1)], .box [.d (.int .i64 0), .d (.int .i64 0), .d (.int .i64 0), .d (.int .i64 0), .d (.int .i64 0), .d (.int .i64 0)]]) ty49) ?_
  refine oEnd ?_
  refine oSR rfl ?_
  refine oP (.ptr 0 0) p_move ?_
  refine bCall (caps := []) (v := (uc fun (r117 : Int) => (fun (x28 : Int) => (.d (.int .i64 r117) : V)))) (H' := (uc fun (r117 : Int) => (fun (x28 : Int) => ([.box [.d (.lit (List.map e_i64 x)), .d (.int .i64 x28)], .box [.d (.int .i64 0), .d (.int .i64 0), .d (.int .i64 0), .d (.int .i64 0), .d (.int .i64 0), .d (.int .i64 0)]] : List Blk)))) [0] _ (make_Tape_Range_goes k 1 12 x x1) (ho := rfl) (hfn := Try.func38) (hb := rfl) (hconv := ConvRs.refl _ _) (hnd := by decide) (hBl := fun _ => (by kernel_rfl)) (hv := fun _ => (by kernel_rfl)) (hH' := fun _ => (by kernel_rfl)) (h := fun r => ?_)
  obtain ⟨r117, x28⟩ := r
  refine bUc ?_
  refine oP (.ptr 0 0) p_move ?_
  refine bCall (caps := []) (v := (uc fun (r125 : Int) => (fun (x37 : Int) => (.d (.int .i64 r125) : V)))) (H' := (uc fun (r125 : Int) => (fun (x37 : Int) => ([.box [.d (.lit (List.map e_i64 x)), .d (.int .i64 x37)], .box [.d (.int .i64 0), .d (.int .i64 0), .d (.int .i64 0), .d (.int .i64 0), .d (.int .i64 0), .d (.int .i64 0)]] : List Blk)))) [0] _ (make_Tape_Next_goes k 4 x x28) (ho := rfl) (hfn := Try.func39) (hb := rfl) (hconv := ConvRs.refl _ _) (hnd := by decide) (hBl := fun _ => (by kernel_rfl)) (hv := fun _ => (by kernel_rfl)) (hH' := fun _ => (by kernel_rfl)) (h := fun r => ?_)
  obtain ⟨r125, x37⟩ := r
  refine bUc ?_
  refine oP (.ptr 0 0) p_move ?_
  refine bCall (caps := []) (v := (uc fun (r126 : Int) => (fun (x38 : Int) => (.d (.int .i64 r126) : V)))) (H' := (uc fun (r126 : Int) => (fun (x38 : Int) => ([.box [.d (.lit (List.map e_i64 x)), .d (.int .i64 x38)], .box [.d (.int .i64 0), .d (.int .i64 0), .d (.int .i64 0), .d (.int .i64 0), .d (.int .i64 0), .d (.int .i64 0)]] : List Blk)))) [0] _ (make_Tape_Next_goes k 3 x x37) (ho := rfl) (hfn := Try.func39) (hb := rfl) (hconv := ConvRs.refl _ _) (hnd := by decide) (hBl := fun _ => (by kernel_rfl)) (hv := fun _ => (by kernel_rfl)) (hH' := fun _ => (by kernel_rfl)) (h := fun r => ?_)
  obtain ⟨r126, x38⟩ := r
  refine bUc ?_
  refine oP (.agg [.d (.int .i64 1), .d (.int .i64 r117), .d (.int .i64 r125), .d (.int .i64 r126), .d (.int .i64 0), .d (.int .i64 0)]) (p_build bld49) ?_
  refine oD (.ptr 2 0) (k_alloc (H' := [.box [.d (.lit (List.map e_i64 x)), .d (.int .i64 x38)], .box [.d (.int .i64 0), .d (.int .i64 0), .d (.int .i64 0), .d (.int .i64 0), .d (.int .i64 0), .d (.int .i64 0)], .box [.d (.int .i64 0), .d (.int .i64 0), .d (.int .i64 0), .d (.int .i64 0), .d (.int .i64 0), .d (.int .i64 0)]]) ty49) ?_
  refine oD (.undef) (k_store (vs := [.d (.int .i64 1), .d (.int .i64 r117), .d (.int .i64 r125), .d (.int .i64 r126), .d (.int .i64 0), .d (.int .i64 0)]) (H' := [.box [.d (.lit (List.map e_i64 x)), .d (.int .i64 x38)], .box [.d (.int .i64 0), .d (.int .i64 0), .d (.int .i64 0), .d (.int .i64 0), .d (.int .i64 0), .d (.int .i64 0)], .box [.d (.int .i64 1), .d (.int .i64 r117), .d (.int .i64 r125), .d (.int .i64 r126), .d (.int .i64 0), .d (.int .i64 0)]]) 2 0 (hi := ty49)) ?_
  refine oEnd ?_
  refine oSeq ?_
  refine oSR rfl ?_
  refine oP (.ptr 0 0) p_move ?_
  refine bCall (caps := []) (v := (uc fun (r127 : Int) => (fun (x39 : Int) => (.d (.int .i64 r127) : V)))) (H' := (uc fun (r127 : Int) => (fun (x39 : Int) => ([.box [.d (.lit (List.map e_i64 x)), .d (.int .i64 x39)], .box [.d (.int .i64 0), .d (.int .i64 0), .d (.int .i64 0), .d (.int .i64 0), .d (.int .i64 0), .d (.int .i64 0)], .box [.d (.int .i64 1), .d (.int .i64 r117), .d (.int .i64 r125), .d (.int .i64 r126), .d (.int .i64 0), .d (.int .i64 0)]] : List Blk)))) [0] _ (make_Tape_Next_goes k 3 x x38) (ho := rfl) (hfn := Try.func39) (hb := rfl) (hconv := ConvRs.refl _ _) (hnd := by decide) (hBl := fun _ => (by kernel_rfl)) (hv := fun _ => (by kernel_rfl)) (hH' := fun _ => (by kernel_rfl)) (h := fun r => ?_)
  obtain ⟨r127, x39⟩ := r
  refine bUc ?_
  refine oP (.d (.bool (r127 == 0))) (p_int (k := .i64) (p := r127) (q := 0)) ?_
  refine oEnd ?_
  refine bJoin ((uc fun (x17 : Int) => (uc fun (x18 : Int) => (uc fun (x19 : Int) => (uc fun (x20 : Int) => (fun (x30 : Int) => [(0, .ptr 0 0), (1, .d (.int .i64 1)), (4, .ptr 1 0), (5, .ptr 2 0)])))))) ((uc fun (x17 : Int) => (uc fun (x18 : Int) => (uc fun (x19 : Int) => (uc fun (x20 : Int) => (fun (x30 : Int) => [.box [.d (.lit (List.map e_i64 x)), .d (.int .i64 x17)], .box [.d (.int .i64 0), .d (.int .i64 0), .d (.int .i64 0), .d (.int .i64 0), .d (.int .i64 0), .d (.int .i64 0)], .box [.d (.int .i64 x18), .d (.int .i64 x19), .d (.int .i64 r125), .d (.int .i64 r126), .d (.int .i64 x20), .d (.int .i64 x30)]])))))) (fun s => s) (fun s => ?_) (fun hj3 => ?_)
  ·obtain ⟨x17, x18, x19, x20, x30⟩ := s
   refine bUc ?_
   refine bUc ?_
   refine bUc ?_
   refine bUc ?_
   refine oView (T' := [(0, .ptr 0 0), (1, .d (.int .i64 1)), (4, .ptr 1 0), (5, .ptr 2 0)]) (H' := [.box [.d (.lit (List.map e_i64 x)), .d (.int .i64 x17)], .box [.d (.int .i64 0), .d (.int .i64 0), .d (.int .i64 0), .d (.int .i64 0), .d (.int .i64 0), .d (.int .i64 0)], .box [.d (.int .i64 x18), .d (.int .i64 x19), .d (.int .i64 r125), .d (.int .i64 r126), .d (.int .i64 x20), .d (.int .i64 x30)]]) (h := ?_)
   refine oSeq ?_
   refine oSR rfl ?_
   refine oP (.d (.int .i64 1)) p_move ?_
   refine oP (.d (.bool true)) (p_int (k := .i64) (p := 1) (q := 0)) ?_
   refine oP (.d (.bool true)) p_move ?_
   refine oP (.ptr 0 0) p_move ?_
   refine oP (.d (.int .i64 1)) p_move ?_
   refine bCall (caps := []) (v := (uc fun (r120 : Bool) => (fun (x211 : Int) => (.d (.bool r120) : V)))) (H' := (uc fun (r120 : Bool) => (fun (x211 : Int) => ([.box [.d (.lit (List.map e_i64 x)), .d (.int .i64 x211)], .box [.d (.int .i64 0), .d (.int .i64 0), .d (.int .i64 0), .d (.int .i64 0), .d (.int .i64 0), .d (.int .i64 0)], .box [.d (.int .i64 x18), .d (.int .i64 x19), .d (.int .i64 r125), .d (.int .i64 r126), .d (.int .i64 x20), .d (.int .i64 x30)]] : List Blk)))) [0] _ (make_Tape_One_goes k 1 x x17) (ho := rfl) (hfn := Try.func40) (hb := rfl) (hconv := ConvRs.refl _ _) (hnd := by decide) (hBl := fun _ => (by kernel_rfl)) (hv := fun _ => (by kernel_rfl)) (hH' := fun _ => (by kernel_rfl)) (h := fun r => ?_)
   obtain ⟨r120, x211⟩ := r
   refine bUc ?_
   refine oP (.d (.bool r120)) (p_pick (b := true)) ?_
   refine oEnd ?_
   refine bJoin ((uc fun (x40 : Int) => (uc fun (x41 : Int) => (uc fun (x42 : Int) => (uc fun (x43 : Int) => (uc fun (x44 : Int) => (uc fun (x45 : Int) => (fun (x46 : Int) => [(4, .ptr 1 0), (5, .ptr 2 0)])))))))) ((uc fun (x40 : Int) => (uc fun (x41 : Int) => (uc fun (x42 : Int) => (uc fun (x43 : Int) => (uc fun (x44 : Int) => (uc fun (x45 : Int) => (fun (x46 : Int) => [.box [.d (.lit (List.map e_i64 x)), .d (.int .i64 x40)], .box [.d (.int .i64 0), .d (.int .i64 0), .d (.int .i64 0), .d (.int .i64 0), .d (.int .i64 0), .d (.int .i64 0)], .box [.d (.int .i64 x41), .d (.int .i64 x42), .d (.int .i64 x43), .d (.int .i64 x44), .d (.int .i64 x45), .d (.int .i64 x46)]])))))))) (fun s => s) (fun s => ?_) (fun hj4 => ?_)
   ·obtain ⟨x40, x41, x42, x43, x44, x45, x46⟩ := s
    refine bUc ?_
    refine bUc ?_
    refine bUc ?_
    refine bUc ?_
    refine bUc ?_
    refine bUc ?_
    refine oView (T' := [(4, .ptr 1 0), (5, .ptr 2 0)]) (H' := [.box [.d (.lit (List.map e_i64 x)), .d (.int .i64 x40)], .box [.d (.int .i64 0), .d (.int .i64 0), .d (.int .i64 0), .d (.int .i64 0), .d (.int .i64 0), .d (.int .i64 0)], .box [.d (.int .i64 x41), .d (.int .i64 x42), .d (.int .i64 x43), .d (.int .i64 x44), .d (.int .i64 x45), .d (.int .i64 x46)]]) (h := ?_)
    refine oSR rfl ?_
    refine oQ (.agg [.d (.int .i64 x41), .d (.int .i64 x42), .d (.int .i64 x43), .d (.int .i64 x44), .d (.int .i64 x45), .d (.int .i64 x46)]) (k_loadAgg 2 0 (hu := Try.underlying49) (hi := ty49)) ?_
    refine oD (.undef) (k_store (vs := [.d (.int .i64 x41), .d (.int .i64 x42), .d (.int .i64 x43), .d (.int .i64 x44), .d (.int .i64 x45), .d (.int .i64 x46)]) (H' := [.box [.d (.lit (List.map e_i64 x)), .d (.int .i64 x40)], .box [.d (.int .i64 x41), .d (.int .i64 x42), .d (.int .i64 x43), .d (.int .i64 x44), .d (.int .i64 x45), .d (.int .i64 x46)], .box [.d (.int .i64 x41), .d (.int .i64 x42), .d (.int .i64 x43), .d (.int .i64 x44), .d (.int .i64 x45), .d (.int .i64 x46)]]) 1 0 (hi := ty49)) ?_
    refine oEnd ?_
    exact oRet (r0 := (x41, x42, x43, x44, x45, x46, x40)) (rv := .agg [.d (.int .i64 x41), .d (.int .i64 x42), .d (.int .i64 x43), .d (.int .i64 x44), .d (.int .i64 x45), .d (.int .i64 x46)]) (B := [.box [.d (.lit (List.map e_i64 x)), .d (.int .i64 x40)]]) (vs := [.agg [.d (.int .i64 x41), .d (.int .i64 x42), .d (.int .i64 x43), .d (.int .i64 x44), .d (.int .i64 x45), .d (.int .i64 x46)]]) (σ := [0]) (hf := Try.func42) (hrs := rfl) (hres := .cons _ _ _ _ (.agg 4 49 1 0 [.d (.int .i64 x41), .d (.int .i64 x42), .d (.int .i64 x43), .d (.int .i64 x44), .d (.int .i64 x45), .d (.int .i64 x46)] [.d (.int .i64 x41), .d (.int .i64 x42), .d (.int .i64 x43), .d (.int .i64 x44), .d (.int .i64 x45), .d (.int .i64 x46)] _ _ _ _ (by kernel_rfl) (by kernel_rfl) Try.underlying49 (by kernel_rfl) ty49 (by kernel_rfl) (by kernel_rfl)) .nil) (hnd := by decide)
   ·refine bSplit 34 (h1 := fun hc => ?_) (h2 := fun hc => ?_)
    ·refine oCondT (h := ?_)
     refine oSR rfl ?_
     refine oP (.ptr 0 0) p_move ?_
     refine bCall (caps := []) (v := (uc fun (r1210 : Int) => (fun (x314 : Int) => (.d (.int .i64 r1210) : V)))) (H' := (uc fun (r1210 : Int) => (fun (x314 : Int) => ([.box [.d (.lit (List.map e_i64 x)), .d (.int .i64 x314)], .box [.d (.int .i64 0), .d (.int .i64 0), .d (.int .i64 0), .d (.int .i64 0), .d (.int .i64 0), .d (.int .i64 0)], .box [.d (.int .i64 x18), .d (.int .i64 x19), .d (.int .i64 r125), .d (.int .i64 r126), .d (.int .i64 x20), .d (.int .i64 x30)]] : List Blk)))) [0] _ (make_Tape_Next_goes k 6 x x211) (ho := rfl) (hfn := Try.func39) (hb := rfl) (hconv := ConvRs.refl _ _) (hnd := by decide) (hBl := fun _ => (by kernel_rfl)) (hv := fun _ => (by kernel_rfl)) (hH' := fun _ => (by kernel_rfl)) (h := fun r => ?_)
     obtain ⟨r1210, x314⟩ := r
     refine bUc ?_
     refine oEnd ?_
     refine oBlock ?_
     refine oSR rfl ?_
     refine oP (.d (.bool (r1210 == 0))) (p_int (k := .i64) (p := r1210) (q := 0)) ?_
     refine oP (.d (.bool (r1210 == 0))) p_assign ?_
     refine oEnd ?_
     refine bSplit 40 (h1 := fun hc => ?_) (h2 := fun hc => ?_)
     ·refine oCondT (h := ?_)
      refine oRegion rfl ?_
      refine oP (.ptr 0 0) p_move ?_
      refine bCall (caps := []) (v := (uc fun (r134 : Int) => (fun (x216 : Int) => (.d (.int .i64 r134) : V)))) (H' := (uc fun (r134 : Int) => (fun (x216 : Int) => ([.box [.d (.lit (List.map e_i64 x)), .d (.int .i64 x216)], .box [.d (.int .i64 0), .d (.int .i64 0), .d (.int .i64 0), .d (.int .i64 0), .d (.int .i64 0), .d (.int .i64 0)], .box [.d (.int .i64 x18), .d (.int .i64 x19), .d (.int .i64 r125), .d (.int .i64 r126), .d (.int .i64 x20), .d (.int .i64 x30)]] : List Blk)))) [0] _ (make_Tape_Range_goes k (-1) 3 x x314) (ho := rfl) (hfn := Try.func38) (hb := rfl) (hconv := ConvRs.refl _ _) (hnd := by decide) (hBl := fun _ => (by kernel_rfl)) (hv := fun _ => (by kernel_rfl)) (hH' := fun _ => (by kernel_rfl)) (h := fun r => ?_)
      obtain ⟨r134, x216⟩ := r
      refine bUc ?_
      refine oP (.ptr 2 0) (k_fieldAddr 2 0 (hu := Try.underlying49) (hf := rfl) (hi := ty3)) ?_
      refine oD (.undef) (k_store (vs := [.d (.int .i64 r134)]) (H' := [.box [.d (.lit (List.map e_i64 x)), .d (.int .i64 x216)], .box [.d (.int .i64 0), .d (.int .i64 0), .d (.int .i64 0), .d (.int .i64 0), .d (.int .i64 0), .d (.int .i64 0)], .box [.d (.int .i64 r134), .d (.int .i64 x19), .d (.int .i64 r125), .d (.int .i64 r126), .d (.int .i64 x20), .d (.int .i64 x30)]]) 2 0 (hi := ty3)) ?_
      refine oEnd ?_
      refine oBlk ?_
      refine oHead [4, 5] [0, 1, 2] (T' := [(4, .ptr 1 0), (5, .ptr 2 0)]) (H' := [.box [.d (.lit (List.map e_i64 x)), .d (.int .i64 x216)], .box [.d (.int .i64 0), .d (.int .i64 0), .d (.int .i64 0), .d (.int .i64 0), .d (.int .i64 0), .d (.int .i64 0)], .box [.d (.int .i64 r134), .d (.int .i64 x19), .d (.int .i64 r125), .d (.int .i64 r126), .d (.int .i64 x20), .d (.int .i64 x30)]]) (hnd := by decide) (h := ?_)
      exact hj4 (x216, r134, x19, r125, r126, x20, x30)
     ·refine oCondF (h := ?_)
      refine oSR rfl ?_
      refine oP (.d (.bool (r1210 == 1))) (p_int (k := .i64) (p := r1210) (q := 1)) ?_
      refine oP (.d (.bool (r1210 == 1))) p_assign ?_
      refine oEnd ?_
      refine bSplit 45 (h1 := fun hc => ?_) (h2 := fun hc => ?_)
      ·refine oCondT (h := ?_)
       refine oRegion rfl ?_
       refine oP (.ptr 0 0) p_move ?_
       refine oD (.ref 3 (List.length ([0, 40, 41, (-1)] : List Int)) 0 (List.length ([0, 40, 41, (-1)] : List Int))) (k_buildSlice (H' := [.box [.d (.lit (List.map e_i64 x)), .d (.int .i64 x314)], .box [.d (.int .i64 0), .d (.int .i64 0), .d (.int .i64 0), .d (.int .i64 0), .d (.int .i64 0), .d (.int .i64 0)], .box [.d (.int .i64 x18), .d (.int .i64 x19), .d (.int .i64 r125), .d (.int .i64 r126), .d (.int .i64 x20), .d (.int .i64 x30)], .sl 1 (List.map e_i64 ([0, 40, 41, (-1)] : List Int)) false]) (List.map e_i64 ([0, 40, 41, (-1)] : List Int)) Try.underlying22 ty3) ?_
       refine oFreeze 3 (esz := 1) (xs := List.map e_i64 ([0, 40, 41, (-1)] : List Int)) (h := ?_)
       refine oView (H' := [.box [.d (.lit (List.map e_i64 x)), .d (.int .i64 x314)], .box [.d (.int .i64 0), .d (.int .i64 0), .d (.int .i64 0), .d (.int .i64 0), .d (.int .i64 0), .d (.int .i64 0)], .box [.d (.int .i64 x18), .d (.int .i64 x19), .d (.int .i64 r125), .d (.int .i64 r126), .d (.int .i64 x20), .d (.int .i64 x30)], .sl 1 (List.map e_i64 ([0, 40, 41, (-1)] : List Int)) true]) rfl (h := ?_)
       refine bCall (caps := []) (v := (uc fun (r135 : Int) => (fun (x217 : Int) => (.d (.int .i64 r135) : V)))) (H' := (uc fun (r135 : Int) => (fun (x217 : Int) => ([.box [.d (.lit (List.map e_i64 x)), .d (.int .i64 x217)], .box [.d (.int .i64 0), .d (.int .i64 0), .d (.int .i64 0), .d (.int .i64 0), .d (.int .i64 0), .d (.int .i64 0)], .box [.d (.int .i64 x18), .d (.int .i64 x19), .d (.int .i64 r125), .d (.int .i64 r126), .d (.int .i64 x20), .d (.int .i64 x30)], .sl 1 (List.map e_i64 ([0, 40, 41, (-1)] : List Int)) true] : List Blk)))) [0] _ (make_Tape_Pick_goes k ([0, 40, 41, (-1)] : List Int) x x314) (ho := rfl) (hfn := Try.func43) (hb := rfl) (hconv := (convList (vs0 := [.ptr 0 0, .ref 3 (List.length ([0, 40, 41, (-1)] : List Int)) 0 (List.length ([0, 40, 41, (-1)] : List Int))]) (vs := [.ptr 0 0, .d (.lit (List.map e_i64 ([0, 40, 41, (-1)] : List Int)))]) (p := (.cons _ _ _ _ (.same _) (.cons _ _ _ _ (k_lit (enc := e_i64) (sz := 1) 3 ([0, 40, 41, (-1)] : List Int)) .nil))))) (hnd := by decide) (hBl := fun _ => (by kernel_rfl)) (hv := fun _ => (by kernel_rfl)) (hH' := fun _ => (by kernel_rfl)) (h := fun r => ?_)
       obtain ⟨r135, x217⟩ := r
       refine bUc ?_
       refine oP (.ptr 2 1) (k_fieldAddr 2 0 (hu := Try.underlying49) (hf := rfl) (hi := ty3)) ?_
       refine oD (.undef) (k_store (vs := [.d (.int .i64 r135)]) (H' := [.box [.d (.lit (List.map e_i64 x)), .d (.int .i64 x217)], .box [.d (.int .i64 0), .d (.int .i64 0), .d (.int .i64 0), .d (.int .i64 0), .d (.int .i64 0), .d (.int .i64 0)], .box [.d (.int .i64 x18), .d (.int .i64 r135), .d (.int .i64 r125), .d (.int .i64 r126), .d (.int .i64 x20), .d (.int .i64 x30)], .sl 1 (List.map e_i64 ([0, 40, 41, (-1)] : List Int)) true]) 2 1 (hi := ty3)) ?_
       refine oEnd ?_
       refine oBlk ?_
       refine oHead [4, 5] [0, 1, 2] (T' := [(4, .ptr 1 0), (5, .ptr 2 0)]) (H' := [.box [.d (.lit (List.map e_i64 x)), .d (.int .i64 x217)], .box [.d (.int .i64 0), .d (.int .i64 0), .d (.int .i64 0), .d (.int .i64 0), .d (.int .i64 0), .d (.int .i64 0)], .box [.d (.int .i64 x18), .d (.int .i64 r135), .d (.int .i64 r125), .d (.int .i64 r126), .d (.int .i64 x20), .d (.int .i64 x30)]]) (hnd := by decide) (h := ?_)
       exact hj4 (x217, x18, r135, r125, r126, x20, x30)
      ·refine oCondF (h := ?_)
       refine oSR rfl ?_
       refine oP (.d (.bool (r1210 == 2))) (p_int (k := .i64) (p := r1210) (q := 2)) ?_
       refine oP (.d (.bool (r1210 == 2))) p_assign ?_
       refine oEnd ?_
       refine bSplit 51 (h1 := fun hc => ?_) (h2 := fun hc => ?_)
       ·refine oCondT (h := ?_)
        refine oRegion rfl ?_
        refine oP (.ptr 0 0) p_move ?_
        refine bCall (caps := []) (v := (uc fun (r1112 : Int) => (fun (x315 : Int) => (.d (.int .i64 r1112) : V)))) (H' := (uc fun (r1112 : Int) => (fun (x315 : Int) => ([.box [.d (.lit (List.map e_i64 x)), .d (.int .i64 x315)], .box [.d (.int .i64 0), .d (.int .i64 0), .d (.int .i64 0), .d (.int .i64 0), .d (.int .i64 0), .d (.int .i64 0)], .box [.d (.int .i64 x18), .d (.int .i64 x19), .d (.int .i64 r125), .d (.int .i64 r126), .d (.int .i64 x20), .d (.int .i64 x30)]] : List Blk)))) [0] _ (make_Tape_Wild_goes k x x314) (ho := rfl) (hfn := Try.func41) (hb := rfl) (hconv := ConvRs.refl _ _) (hnd := by decide) (hBl := fun _ => (by kernel_rfl)) (hv := fun _ => (by kernel_rfl)) (hH' := fun _ => (by kernel_rfl)) (h := fun r => ?_)
        obtain ⟨r1112, x315⟩ := r
        refine bUc ?_
        refine oP (.ptr 2 2) (k_fieldAddr 2 0 (hu := Try.underlying49) (hf := rfl) (hi := ty3)) ?_
        refine oD (.undef) (k_store (vs := [.d (.int .i64 r1112)]) (H' := [.box [.d (.lit (List.map e_i64 x)), .d (.int .i64 x315)], .box [.d (.int .i64 0), .d (.int .i64 0), .d (.int .i64 0), .d (.int .i64 0), .d (.int .i64 0), .d (.int .i64 0)], .box [.d (.int .i64 x18), .d (.int .i64 x19), .d (.int .i64 r1112), .d (.int .i64 r126), .d (.int .i64 x20), .d (.int .i64 x30)]]) 2 2 (hi := ty3)) ?_
        refine oEnd ?_
        refine oBlk ?_
        refine oHead [4, 5] [0, 1, 2] (T' := [(4, .ptr 1 0), (5, .ptr 2 0)]) (H' := [.box [.d (.lit (List.map e_i64 x)), .d (.int .i64 x315)], .box [.d (.int .i64 0), .d (.int .i64 0), .d (.int .i64 0), .d (.int .i64 0), .d (.int .i64 0), .d (.int .i64 0)], .box [.d (.int .i64 x18), .d (.int .i64 x19), .d (.int .i64 r1112), .d (.int .i64 r126), .d (.int .i64 x20), .d (.int .i64 x30)]]) (hnd := by decide) (h := ?_)
        exact hj4 (x315, x18, x19, r1112, r126, x20, x30)
       ·refine oCondF (h := ?_)
        refine oSR rfl ?_
        refine oP (.d (.bool (r1210 == 3))) (p_int (k := .i64) (p := r1210) (q := 3)) ?_
        refine oP (.d (.bool (r1210 == 3))) p_assign ?_
        refine oEnd ?_
        refine bSplit 56 (h1 := fun hc => ?_) (h2 := fun hc => ?_)
        ·refine oCondT (h := ?_)
         refine oRegion rfl ?_
         refine oP (.ptr 0 0) p_move ?_
         refine bCall (caps := []) (v := (uc fun (r1113 : Int) => (fun (x316 : Int) => (.d (.int .i64 r1113) : V)))) (H' := (uc fun (r1113 : Int) => (fun (x316 : Int) => ([.box [.d (.lit (List.map e_i64 x)), .d (.int .i64 x316)], .box [.d (.int .i64 0), .d (.int .i64 0), .d (.int .i64 0), .d (.int .i64 0), .d (.int .i64 0), .d (.int .i64 0)], .box [.d (.int .i64 x18), .d (.int .i64 x19), .d (.int .i64 r125), .d (.int .i64 r126), .d (.int .i64 x20), .d (.int .i64 x30)]] : List Blk)))) [0] _ (make_Tape_Wild_goes k x x314) (ho := rfl) (hfn := Try.func41) (hb := rfl) (hconv := ConvRs.refl _ _) (hnd := by decide) (hBl := fun _ => (by kernel_rfl)) (hv := fun _ => (by kernel_rfl)) (hH' := fun _ => (by kernel_rfl)) (h := fun r => ?_)
         obtain ⟨r1113, x316⟩ := r
         refine bUc ?_
         refine oP (.ptr 2 3) (k_fieldAddr 2 0 (hu := Try.underlying49) (hf := rfl) (hi := ty3)) ?_
         refine oD (.undef) (k_store (vs := [.d (.int .i64 r1113)]) (H' := [.box [.d (.lit (List.map e_i64 x)), .d (.int .i64 x316)], .box [.d (.int .i64 0), .d (.int .i64 0), .d (.int .i64 0), .d (.int .i64 0), .d (.int .i64 0), .d (.int .i64 0)], .box [.d (.int .i64 x18), .d (.int .i64 x19), .d (.int .i64 r125), .d (.int .i64 r1113), .d (.int .i64 x20), .d (.int .i64 x30)]]) 2 3 (hi := ty3)) ?_
         refine oEnd ?_
         refine oBlk ?_
         refine oHead [4, 5] [0, 1, 2] (T' := [(4, .ptr 1 0), (5, .ptr 2 0)]) (H' := [.box [.d (.lit (List.map e_i64 x)), .d (.int .i64 x316)], .box [.d (.int .i64 0), .d (.int .i64 0), .d (.int .i64 0), .d (.int .i64 0), .d (.int .i64 0), .d (.int .i64 0)], .box [.d (.int .i64 x18), .d (.int .i64 x19), .d (.int .i64 r125), .d (.int .i64 r1113), .d (.int .i64 x20), .d (.int .i64 x30)]]) (hnd := by decide) (h := ?_)
         exact hj4 (x316, x18, x19, r125, r1113, x20, x30)
        ·refine oCondF (h := ?_)
         refine oSR rfl ?_
         refine oP (.d (.bool (r1210 == 4))) (p_int (k := .i64) (p := r1210) (q := 4)) ?_
         refine oP (.d (.bool (r1210 == 4))) p_assign ?_
         refine oEnd ?_
         refine bSplit 61 (h1 := fun hc => ?_) (h2 := fun hc => ?_)
         ·refine oCondT (h := ?_)
          refine oRegion rfl ?_
          refine oP (.ptr 0 0) p_move ?_
          refine bCall (caps := []) (v := (uc fun (r136 : Int) => (fun (x218 : Int) => (.d (.int .i64 r136) : V)))) (H' := (uc fun (r136 : Int) => (fun (x218 : Int) => ([.box [.d (.lit (List.map e_i64 x)), .d (.int .i64 x218)], .box [.d (.int .i64 0), .d (.int .i64 0), .d (.int .i64 0), .d (.int .i64 0), .d (.int .i64 0), .d (.int .i64 0)], .box [.d (.int .i64 x18), .d (.int .i64 x19), .d (.int .i64 r125), .d (.int .i64 r126), .d (.int .i64 x20), .d (.int .i64 x30)]] : List Blk)))) [0] _ (make_Tape_Range_goes k (-1) 6 x x314) (ho := rfl) (hfn := Try.func38) (hb := rfl) (hconv := ConvRs.refl _ _) (hnd := by decide) (hBl := fun _ => (by kernel_rfl)) (hv := fun _ => (by kernel_rfl)) (hH' := fun _ => (by kernel_rfl)) (h := fun r => ?_)
          obtain ⟨r136, x218⟩ := r
          refine bUc ?_
          refine oP (.ptr 2 4) (k_fieldAddr 2 0 (hu := Try.underlying49) (hf := rfl) (hi := ty3)) ?_
          refine oD (.undef) (k_store (vs := [.d (.int .i64 r136)]) (H' := [.box [.d (.lit (List.map e_i64 x)), .d (.int .i64 x218)], .box [.d (.int .i64 0), .d (.int .i64 0), .d (.int .i64 0), .d (.int .i64 0), .d (.int .i64 0), .d (.int .i64 0)], .box [.d (.int .i64 x18), .d (.int .i64 x19), .d (.int .i64 r125), .d (.int .i64 r126), .d (.int .i64 r136), .d (.int .i64 x30)]]) 2 4 (hi := ty3)) ?_
          refine oEnd ?_
          refine oBlk ?_
          refine oHead [4, 5] [0, 1, 2] (T' := [(4, .ptr 1 0), (5, .ptr 2 0)]) (H' := [.box [.d (.lit (List.map e_i64 x)), .d (.int .i64 x218)], .box [.d (.int .i64 0), .d (.int .i64 0), .d (.int .i64 0), .d (.int .i64 0), .d (.int .i64 0), .d (.int .i64 0)], .box [.d (.int .i64 x18), .d (.int .i64 x19), .d (.int .i64 r125), .d (.int .i64 r126), .d (.int .i64 r136), .d (.int .i64 x30)]]) (hnd := by decide) (h := ?_)
          exact hj4 (x218, x18, x19, r125, r126, r136, x30)
         ·refine oCondF (h := ?_)
          refine oRegion rfl ?_
          refine oP (.ptr 0 0) p_move ?_
          refine bCall (caps := []) (v := (uc fun (r137 : Int) => (fun (x219 : Int) => (.d (.int .i64 r137) : V)))) (H' := (uc fun (r137 : Int) => (fun (x219 : Int) => ([.box [.d (.lit (List.map e_i64 x)), .d (.int .i64 x219)], .box [.d (.int .i64 0), .d (.int .i64 0), .d (.int .i64 0), .d (.int .i64 0), .d (.int .i64 0), .d (.int .i64 0)], .box [.d (.int .i64 x18), .d (.int .i64 x19), .d (.int .i64 r125), .d (.int .i64 r126), .d (.int .i64 x20), .d (.int .i64 x30)]] : List Blk)))) [0] _ (make_Tape_Range_goes k (-1) 5 x x314) (ho := rfl) (hfn := Try.func38) (hb := rfl) (hconv := ConvRs.refl _ _) (hnd := by decide) (hBl := fun _ => (by kernel_rfl)) (hv := fun _ => (by kernel_rfl)) (hH' := fun _ => (by kernel_rfl)) (h := fun r => ?_)
          obtain ⟨r137, x219⟩ := r
          refine bUc ?_
          refine oP (.ptr 2 5) (k_fieldAddr 2 0 (hu := Try.underlying49) (hf := rfl) (hi := ty3)) ?_
          refine oD (.undef) (k_store (vs := [.d (.int .i64 r137)]) (H' := [.box [.d (.lit (List.map e_i64 x)), .d (.int .i64 x219)], .box [.d (.int .i64 0), .d (.int .i64 0), .d (.int .i64 0), .d (.int .i64 0), .d (.int .i64 0), .d (.int .i64 0)], .box [.d (.int .i64 x18), .d (.int .i64 x19), .d (.int .i64 r125), .d (.int .i64 r126), .d (.int .i64 x20), .d (.int .i64 r137)]]) 2 5 (hi := ty3)) ?_
          refine oEnd ?_
          refine oBlk ?_
          refine oHead [4, 5] [0, 1, 2] (T' := [(4, .ptr 1 0), (5, .ptr 2 0)]) (H' := [.box [.d (.lit (List.map e_i64 x)), .d (.int .i64 x219)], .box [.d (.int .i64 0), .d (.int .i64 0), .d (.int .i64 0), .d (.int .i64 0), .d (.int .i64 0), .d (.int .i64 0)], .box [.d (.int .i64 x18), .d (.int .i64 x19), .d (.int .i64 r125), .d (.int .i64 r126), .d (.int .i64 x20), .d (.int .i64 r137)]]) (hnd := by decide) (h := ?_)
          exact hj4 (x219, x18, x19, r125, r126, x20, r137)
    ·refine oCondF (h := ?_)
     refine oSkip ?_
     refine oHead [4, 5] [0, 1, 2] (T' := [(4, .ptr 1 0), (5, .ptr 2 0)]) (H' := [.box [.d (.lit (List.map e_i64 x)), .d (.int .i64 x211)], .box [.d (.int .i64 0), .d (.int .i64 0), .d (.int .i64 0), .d (.int .i64 0), .d (.int .i64 0), .d (.int .i64 0)], .box [.d (.int .i64 x18), .d (.int .i64 x19), .d (.int .i64 r125), .d (.int .i64 r126), .d (.int .i64 x20), .d (.int .i64 x30)]]) (hnd := by decide) (h := ?_)
     exact hj4 (x211, x18, x19, r125, r126, x20, x30)
  ·refine bSplit 15 (h1 := fun hc => ?_) (h2 := fun hc => ?_)
   ·refine oCondT (h := ?_)
    refine oSR rfl ?_
    refine oP (.ptr 0 0) p_move ?_
    refine bCall (caps := []) (v := (uc fun (r138 : Int) => (fun (x220 : Int) => (.d (.int .i64 r138) : V)))) (H' := (uc fun (r138 : Int) => (fun (x220 : Int) => ([.box [.d (.lit (List.map e_i64 x)), .d (.int .i64 x220)], .box [.d (.int .i64 0), .d (.int .i64 0), .d (.int .i64 0), .d (.int .i64 0), .d (.int .i64 0), .d (.int .i64 0)], .box [.d (.int .i64 1), .d (.int .i64 r117), .d (.int .i64 r125), .d (.int .i64 r126), .d (.int .i64 0), .d (.int .i64 0)]] : List Blk)))) [0] _ (make_Tape_Range_goes k 2 5 x x39) (ho := rfl) (hfn := Try.func38) (hb := rfl) (hconv := ConvRs.refl _ _) (hnd := by decide) (hBl := fun _ => (by kernel_rfl)) (hv := fun _ => (by kernel_rfl)) (hH' := fun _ => (by kernel_rfl)) (h := fun r => ?_)
    obtain ⟨r138, x220⟩ := r
    refine bUc ?_
    refine oP (.ptr 2 0) (k_fieldAddr 2 0 (hu := Try.underlying49) (hf := rfl) (hi := ty3)) ?_
    refine oD (.undef) (k_store (vs := [.d (.int .i64 2)]) (H' := [.box [.d (.lit (List.map e_i64 x)), .d (.int .i64 x220)], .box [.d (.int .i64 0), .d (.int .i64 0), .d (.int .i64 0), .d (.int .i64 0), .d (.int .i64 0), .d (.int .i64 0)], .box [.d (.int .i64 2), .d (.int .i64 r117), .d (.int .i64 r125), .d (.int .i64 r126), .d (.int .i64 0), .d (.int .i64 0)]]) 2 0 (hi := ty3)) ?_
    refine oP (.ptr 2 4) (k_fieldAddr 2 0 (hu := Try.underlying49) (hf := rfl) (hi := ty3)) ?_
    refine oD (.undef) (k_store (vs := [.d (.int .i64 r138)]) (H' := [.box [.d (.lit (List.map e_i64 x)), .d (.int .i64 x220)], .box [.d (.int .i64 0), .d (.int .i64 0), .d (.int .i64 0), .d (.int .i64 0), .d (.int .i64 0), .d (.int .i64 0)], .box [.d (.int .i64 2), .d (.int .i64 r117), .d (.int .i64 r125), .d (.int .i64 r126), .d (.int .i64 r138), .d (.int .i64 0)]]) 2 4 (hi := ty3)) ?_
    refine oEnd ?_
    refine oRegion rfl ?_
    refine oP (.ptr 0 0) p_move ?_
    refine oP (.ptr 2 4) (k_fieldAddr 2 0 (hu := Try.underlying49) (hf := rfl) (hi := ty3)) ?_
    refine oQ (.d (.int .i64 r138)) (k_load 2 4 (hu := Try.underlying3)) ?_
    refine bCall (caps := []) (v := (uc fun (r1211 : Int) => (fun (x317 : Int) => (.d (.int .i64 r1211) : V)))) (H' := (uc fun (r1211 : Int) => (fun (x317 : Int) => ([.box [.d (.lit (List.map e_i64 x)), .d (.int .i64 x317)], .box [.d (.int .i64 0), .d (.int .i64 0), .d (.int .i64 0), .d (.int .i64 0), .d (.int .i64 0), .d (.int .i64 0)], .box [.d (.int .i64 2), .d (.int .i64 r117), .d (.int .i64 r125), .d (.int .i64 r126), .d (.int .i64 r138), .d (.int .i64 0)]] : List Blk)))) [0] _ (make_Tape_Next_goes k r138 x x220) (ho := rfl) (hfn := Try.func39) (hb := rfl) (hconv := ConvRs.refl _ _) (hnd := by decide) (hBl := fun _ => (by kernel_rfl)) (hv := fun _ => (by kernel_rfl)) (hH' := fun _ => (by kernel_rfl)) (h := fun r => ?_)
    obtain ⟨r1211, x317⟩ := r
    refine bUc ?_
    refine oP (.ptr 0 0) p_move ?_
    refine bCall (caps := []) (v := (uc fun (r139 : Int) => (fun (x221 : Int) => (.d (.int .i64 r139) : V)))) (H' := (uc fun (r139 : Int) => (fun (x221 : Int) => ([.box [.d (.lit (List.map e_i64 x)), .d (.int .i64 x221)], .box [.d (.int .i64 0), .d (.int .i64 0), .d (.int .i64 0), .d (.int .i64 0), .d (.int .i64 0), .d (.int .i64 0)], .box [.d (.int .i64 2), .d (.int .i64 r117), .d (.int .i64 r125), .d (.int .i64 r126), .d (.int .i64 r138), .d (.int .i64 0)]] : List Blk)))) [0] _ (make_Tape_Range_goes k 1 3 x x317) (ho := rfl) (hfn := Try.func38) (hb := rfl) (hconv := ConvRs.refl _ _) (hnd := by decide) (hBl := fun _ => (by kernel_rfl)) (hv := fun _ => (by kernel_rfl)) (hH' := fun _ => (by kernel_rfl)) (h := fun r => ?_)
    obtain ⟨r139, x221⟩ := r
    refine bUc ?_
    refine oP (.ptr 2 5) (k_fieldAddr 2 0 (hu := Try.underlying49) (hf := rfl) (hi := ty3)) ?_
    refine oD (.undef) (k_store (vs := [.d (.int .i64 r1211)]) (H' := [.box [.d (.lit (List.map e_i64 x)), .d (.int .i64 x221)], .box [.d (.int .i64 0), .d (.int .i64 0), .d (.int .i64 0), .d (.int .i64 0), .d (.int .i64 0), .d (.int .i64 0)], .box [.d (.int .i64 2), .d (.int .i64 r117), .d (.int .i64 r125), .d (.int .i64 r126), .d (.int .i64 r138), .d (.int .i64 r1211)]]) 2 5 (hi := ty3)) ?_
    refine oP (.ptr 2 1) (k_fieldAddr 2 0 (hu := Try.underlying49) (hf := rfl) (hi := ty3)) ?_
    refine oD (.undef) (k_store (vs := [.d (.int .i64 r139)]) (H' := [.box [.d (.lit (List.map e_i64 x)), .d (.int .i64 x221)], .box [.d (.int .i64 0), .d (.int .i64 0), .d (.int .i64 0), .d (.int .i64 0), .d (.int .i64 0), .d (.int .i64 0)], .box [.d (.int .i64 2), .d (.int .i64 r139), .d (.int .i64 r125), .d (.int .i64 r126), .d (.int .i64 r138), .d (.int .i64 r1211)]]) 2 1 (hi := ty3)) ?_
    refine oEnd ?_
    refine oHead [0, 1, 4, 5] [0, 1, 2] (T' := [(0, .ptr 0 0), (1, .d (.int .i64 1)), (4, .ptr 1 0), (5, .ptr 2 0)]) (H' := [.box [.d (.lit (List.map e_i64 x)), .d (.int .i64 x221)], .box [.d (.int .i64 0), .d (.int .i64 0), .d (.int .i64 0), .d (.int .i64 0), .d (.int .i64 0), .d (.int .i64 0)], .box [.d (.int .i64 2), .d (.int .i64 r139), .d (.int .i64 r125), .d (.int .i64 r126), .d (.int .i64 r138), .d (.int .i64 r1211)]]) (hnd := by decide) (h := ?_)
    exact hj3 (x221, 2, r139, r138, r1211)
   ·refine oCondF (h := ?_)
    refine oSkip ?_
    refine oHead [0, 1, 4, 5] [0, 1, 2] (T' := [(0, .ptr 0 0), (1, .d (.int .i64 1)), (4, .ptr 1 0), (5, .ptr 2 0)]) (H' := [.box [.d (.lit (List.map e_i64 x)), .d (.int .i64 x39)], .box [.d (.int .i64 0), .d (.int .i64 0), .d (.int .i64 0), .d (.int .i64 0), .d (.int .i64 0), .d (.int .i64 0)], .box [.d (.int .i64 1), .d (.int .i64 r117), .d (.int .i64 r125), .d (.int .i64 r126), .d (.int .i64 0), .d (.int .i64 0)]]) (hnd := by decide) (h := ?_)
    exact hj3 (x39, 1, r117, 0, 0)

/-- (*awardingbody/awardingbodymake.Tape).Paper -/
def make_Tape_Paper_2_b1 (k : Nat) (x : (List Int)) (again : Int × Int × (List SPart) → Option (Int × (List SPart))) : Int × Int × (List SPart) → Option (Int × (List SPart)) := uc fun i4 => uc fun x11 => fun xs7 => bif (decide (i4 > 0)) then Option.bind (make_Tape_Part k x x11) (uc fun r14 => uc fun r15 => uc fun r16 => uc fun r17 => uc fun r18 => uc fun r19 => fun x9 => gcap (List.length (xs7 ++ ([(⟨r14, r15, r16, r17, r18, r19⟩ : SPart)] : List SPart))) 48 (again ((IntKind.wrap .i64 (i4 - 1)), x9, (xs7 ++ ([(⟨r14, r15, r16, r17, r18, r19⟩ : SPart)] : List SPart))))) else some (x11, xs7)
def make_Tape_Paper_2 (k : Nat) (code : Int) (variant : Int) (x : (List Int)) (x1 : Int) : Option ((List SPart) × Int) := Option.bind (make_Tape_Range k 1 6 x x1) (uc fun r11 => fun x21 => Option.bind (gloop (make_Tape_Paper_2_b1 k x) k (r11, x21, ([] : List SPart)) : Option (Int × (List SPart))) (uc fun x10 => fun xs6 => some (xs6, x10)))
theorem make_Tape_Paper_2_eq : make_Tape_Paper_2 = make_Tape_Paper := rfl
def make_Tape_Paper_2_E (code : Int) (variant : Int) (x : (List Int)) (x1 : Int) : (List SPart) × Int → V × List Blk := uc fun xs3 => fun x6 => (.agg [.d (.int .i64 code), .d (.int .i64 variant), .ref 1 (List.length xs3) 0 (List.length xs3)], [.box [.d (.lit (List.map e_i64 x)), .d (.int .i64 x6)], .sl 6 (List.map e_SPart xs3) false])
theorem make_Tape_Paper_2_goes (k : Nat) (code : Int) (variant : Int) (x : (List Int)) (x1 : Int) : RunsO Try.prog 29 [.ptr 0 0, .d (.int .i64 code), .d (.int .i64 variant)] [.box [.d (.lit (List.map e_i64 x)), .d (.int .i64 x1)]] (make_Tape_Paper_2_E code variant x x1) (make_Tape_Paper_2 k code variant x x1) := by
  refine RunsO.of_goes (N := 26) (m := 1) (T := [(0, .ptr 0 0), (1, .d (.int .i64 code)), (2, .d (.int .i64 variant))]) Try.func29 rfl rfl (h := ?_)
  unfold make_Tape_Paper_2
  refine bStart ?_
  refine oSR rfl ?_
  refine oD (.ptr 1 0) (k_alloc (H' := [.box [.d (.lit (List.map e_i64 x)), .d (.int .i64 x1)], .box [.d (.int .i64 0), .d (.int .i64 0), .nilc]]) ty27) ?_
  refine oEnd ?_
  refine oSR rfl ?_
  refine oP (.d (.int .i64 code)) p_move ?_
  refine oP (.d (.int .i64 variant)) p_move ?_
  refine oP (.agg [.d (.int .i64 code), .d (.int .i64 variant), .nilc]) (p_build bld27) ?_
  refine oD (.ptr 2 0) (k_alloc (H' := [.box [.d (.lit (List.map e_i64 x)), .d (.int .i64 x1)], .box [.d (.int .i64 0), .d (.int .i64 0), .nilc], .box [.d (.int .i64 0), .d (.int .i64 0), .nilc]]) ty27) ?_
  refine oD (.undef) (k_store (vs := [.d (.int .i64 code), .d (.int .i64 variant), .nilc]) (H' := [.box [.d (.lit (List.map e_i64 x)), .d (.int .i64 x1)], .box [.d (.int .i64 0), .d (.int .i64 0), .nilc], .box [.d (.int .i64 code), .d (.int .i64 variant), .nilc]]) 2 0 (hi := ty27)) ?_
  refine oEnd ?_
  refine oSeq ?_
  refine oSR rfl ?_
  refine oP (.ptr 0 0) p_move ?_
  refine bCall (caps := []) (v := (uc fun (r11 : Int) => (fun (x21 : Int) => (.d (.int .i64 r11) : V)))) (H' := (uc fun (r11 : Int) => (fun (x21 : Int) => ([.box [.d (.lit (List.map e_i64 x)), .d (.int .i64 x21)], .box [.d (.int .i64 0), .d (.int .i64 0), .nilc], .box [.d (.int .i64 code), .d (.int .i64 variant), .nilc]] : List Blk)))) [0] _ (make_Tape_Range_goes k 1 6 x x1) (ho := rfl) (hfn := Try.func38) (hb := rfl) (hconv := ConvRs.refl _ _) (hnd := by decide) (hBl := fun _ => (by kernel_rfl)) (hv := fun _ => (by kernel_rfl)) (hH' := fun _ => (by kernel_rfl)) (h := fun r => ?_)
  obtain ⟨r11, x21⟩ := r
  refine bUc ?_
  refine oP (.d (.int .i64 r11)) p_assign ?_
  refine oEnd ?_
  refine bJoin ((uc fun (x10 : Int) => (fun (xs6 : (List SPart)) => [(6, .ptr 1 0), (7, .ptr 2 0)]))) ((uc fun (x10 : Int) => (fun (xs6 : (List SPart)) => [.box [.d (.lit (List.map e_i64 x)), .d (.int .i64 x10)], .box [.d (.int .i64 0), .d (.int .i64 0), .nilc], .box [.d (.int .i64 code), .d (.int .i64 variant), .ref 3 (List.length xs6) 0 (List.length xs6)], .sl 6 (List.map e_SPart xs6) false]))) (fun s => s) (fun s => ?_) (fun hj2 => ?_)
  ·obtain ⟨x10, xs6⟩ := s
   refine bUc ?_
   refine oView (T' := [(6, .ptr 1 0), (7, .ptr 2 0)]) (H' := [.box [.d (.lit (List.map e_i64 x)), .d (.int .i64 x10)], .box [.d (.int .i64 0), .d (.int .i64 0), .nilc], .box [.d (.int .i64 code), .d (.int .i64 variant), .ref 3 (List.length xs6) 0 (List.length xs6)], .sl 6 (List.map e_SPart xs6) false]) (h := ?_)
   refine oSR rfl ?_
   refine oQ (.agg [.d (.int .i64 code), .d (.int .i64 variant), .ref 3 (List.length xs6) 0 (List.length xs6)]) (k_loadAgg 2 0 (hu := Try.underlying27) (hi := ty27)) ?_
   refine oD (.undef) (k_store (vs := [.d (.int .i64 code), .d (.int .i64 variant), .ref 3 (List.length xs6) 0 (List.length xs6)]) (H' := [.box [.d (.lit (List.map e_i64 x)), .d (.int .i64 x10)], .box [.d (.int .i64 code), .d (.int .i64 variant), .ref 3 (List.length xs6) 0 (List.length xs6)], .box [.d (.int .i64 code), .d (.int .i64 variant), .ref 3 (List.length xs6) 0 (List.length xs6)], .sl 6 (List.map e_SPart xs6) false]) 1 0 (hi := ty27)) ?_
   refine oEnd ?_
   exact oRet (r0 := (xs6, x10)) (rv := .agg [.d (.int .i64 code), .d (.int .i64 variant), .ref 1 (List.length xs6) 0 (List.length xs6)]) (B := [.box [.d (.lit (List.map e_i64 x)), .d (.int .i64 x10)], .sl 6 (List.map e_SPart xs6) false]) (vs := [.agg [.d (.int .i64 code), .d (.int .i64 variant), .ref 3 (List.length xs6) 0 (List.length xs6)]]) (σ := [0, 3]) (hf := Try.func29) (hrs := rfl) (hres := .cons _ _ _ _ (.agg 6 27 1 0 [.d (.int .i64 code), .d (.int .i64 variant), .ref 3 (List.length xs6) 0 (List.length xs6)] [.d (.int .i64 code), .d (.int .i64 variant), .ref 3 (List.length xs6) 0 (List.length xs6)] _ _ _ _ (by kernel_rfl) (by kernel_rfl) Try.underlying27 (by kernel_rfl) ty27 (by kernel_rfl) (by kernel_rfl)) .nil) (hnd := by decide)
  ·refine oBlock ?_
   refine oLoop ?_
   refine oVirtB (esz := 6) 2 2 (cells := [.d (.int .i64 code), .d (.int .i64 variant), .nilc]) (h := ?_)
   refine oView (H' := [.box [.d (.lit (List.map e_i64 x)), .d (.int .i64 x21)], .box [.d (.int .i64 0), .d (.int .i64 0), .nilc], .box [.d (.int .i64 code), .d (.int .i64 variant), .ref 3 (List.length ([] : List SPart)) 0 (List.length ([] : List SPart))], .sl 6 (List.map e_SPart ([] : List SPart)) false]) rfl (h := ?_)
   refine oHead [0, 6, 7, 8] [0, 1, 2, 3] (T' := [(0, .ptr 0 0), (6, .ptr 1 0), (7, .ptr 2 0), (8, .d (.int .i64 r11))]) (H' := [.box [.d (.lit (List.map e_i64 x)), .d (.int .i64 x21)], .box [.d (.int .i64 0), .d (.int .i64 0), .nilc], .box [.d (.int .i64 code), .d (.int .i64 variant), .ref 3 (List.length ([] : List SPart)) 0 (List.length ([] : List SPart))], .sl 6 (List.map e_SPart ([] : List SPart)) false]) (hnd := by decide) (h := ?_)
   refine bLoop (body := make_Tape_Paper_2_b1 k x) ((uc fun (i4 : Int) => (uc fun (x11 : Int) => (fun (xs7 : (List SPart)) => [(0, .ptr 0 0), (6, .ptr 1 0), (7, .ptr 2 0), (8, .d (.int .i64 i4))])))) ((uc fun (i4 : Int) => (uc fun (x11 : Int) => (fun (xs7 : (List SPart)) => [.box [.d (.lit (List.map e_i64 x)), .d (.int .i64 x11)], .box [.d (.int .i64 0), .d (.int .i64 0), .nilc], .box [.d (.int .i64 code), .d (.int .i64 variant), .ref 3 (List.length xs7) 0 (List.length xs7)], .sl 6 (List.map e_SPart xs7) false])))) (fun again hag1 s => ?_) k (r11, x21, ([] : List SPart))
   ·unfold make_Tape_Paper_2_b1
    obtain ⟨i4, x11, xs7⟩ := s
    refine bUc ?_
    refine bUc ?_
    refine oView (T' := [(0, .ptr 0 0), (6, .ptr 1 0), (7, .ptr 2 0), (8, .d (.int .i64 i4))]) (H' := [.box [.d (.lit (List.map e_i64 x)), .d (.int .i64 x11)], .box [.d (.int .i64 0), .d (.int .i64 0), .nilc], .box [.d (.int .i64 code), .d (.int .i64 variant), .ref 3 (List.length xs7) 0 (List.length xs7)], .sl 6 (List.map e_SPart xs7) false]) (h := ?_)
    refine oSeq ?_
    refine oSR rfl ?_
    refine oP (.d (.int .i64 i4)) p_move ?_
    refine oP (.d (.bool (decide (i4 > 0)))) (p_int (k := .i64) (p := i4) (q := 0)) ?_
    refine oEnd ?_
    refine bSplit 15 (h1 := fun hc => ?_) (h2 := fun hc => ?_)
    ·refine oCondT (h := ?_)
     refine oSkip ?_
     refine oSeq ?_
     refine oBlock ?_
     refine oDraw [(0, 3), (1, 8), (2, 7), (3, 5)] rfl ?_
     refine aP 0 (.ptr 2 2) rfl (k_fieldAddr 2 0 (hu := Try.underlying27) (hf := rfl) (hi := ty25)) ?_
     refine aQ 1 [2] (.ref 3 (List.length xs7) 0 (List.length xs7)) rfl (k_load 2 2 (hu := Try.underlying25)) ?_
     refine aP 2 (.ptr 0 0) rfl p_move ?_
     refine dCall (i := 3) (caps := []) (v := (uc fun (r14 : Int) => (uc fun (r15 : Int) => (uc fun (r16 : Int) => (uc fun (r17 : Int) => (uc fun (r18 : Int) => (uc fun (r19 : Int) => (fun (x9 : Int) => (.agg [.d (.int .i64 r14), .d (.int .i64 r15), .d (.int .i64 r16), .d (.int .i64 r17), .d (.int .i64 r18), .d (.int .i64 r19)] : V))))))))) (H' := (uc fun (r14 : Int) => (uc fun (r15 : Int) => (uc fun (r16 : Int) => (uc fun (r17 : Int) => (uc fun (r18 : Int) => (uc fun (r19 : Int) => (fun (x9 : Int) => ([.box [.d (.lit (List.map e_i64 x)), .d (.int .i64 x9)], .box [.d (.int .i64 0), .d (.int .i64 0), .nilc], .box [.d (.int .i64 code), .d (.int .i64 variant), .ref 3 (List.length xs7) 0 (List.length xs7)], .sl 6 (List.map e_SPart xs7) false] : List Blk))))))))) [0] _ (make_Tape_Part_goes k x x11) rfl (ho := rfl) (hfn := Try.func42) (hb := rfl) (hconv := ConvRs.refl _ _) (hnd := by decide) (hBl := fun _ => (by kernel_rfl)) (hv := fun _ => (by kernel_rfl)) (hH' := fun _ => (by kernel_rfl)) (h := fun r => ?_)
     obtain ⟨r14, r15, r16, r17, r18, r19, x9⟩ := r
     refine dUc ?_
     refine dUc ?_
     refine dUc ?_
     refine dUc ?_
     refine dUc ?_
     refine dUc ?_
     refine aOne (i := 4) (v := .ref 4 (List.length ([(⟨r14, r15, r16, r17, r18, r19⟩ : SPart)] : List SPart)) 0 (List.length ([(⟨r14, r15, r16, r17, r18, r19⟩ : SPart)] : List SPart))) rfl (hac := (Does.acts (k_buildSlice (H' := [.box [.d (.lit (List.map e_i64 x)), .d (.int .i64 x9)], .box [.d (.int .i64 0), .d (.int .i64 0), .nilc], .box [.d (.int .i64 code), .d (.int .i64 variant), .ref 3 (List.length xs7) 0 (List.length xs7)], .sl 6 (List.map e_SPart xs7) false, .sl 6 (List.map e_SPart ([(⟨r14, r15, r16, r17, r18, r19⟩ : SPart)] : List SPart)) false]) (List.map e_SPart ([(⟨r14, r15, r16, r17, r18, r19⟩ : SPart)] : List SPart)) Try.underlying25 ty49))) (h := ?_)
     refine dCap (fun h1 => ?_)
     refine aOne (i := 5) (v := .ref 3 (List.length (xs7 ++ ([(⟨r14, r15, r16, r17, r18, r19⟩ : SPart)] : List SPart))) 0 (List.length (xs7 ++ ([(⟨r14, r15, r16, r17, r18, r19⟩ : SPart)] : List SPart)))) rfl (hac := (Does.acts (k_append (H' := [.box [.d (.lit (List.map e_i64 x)), .d (.int .i64 x9)], .box [.d (.int .i64 0), .d (.int .i64 0), .nilc], .box [.d (.int .i64 code), .d (.int .i64 variant), .ref 3 (List.length xs7) 0 (List.length xs7)], .sl 6 (List.map e_SPart (xs7 ++ ([(⟨r14, r15, r16, r17, r18, r19⟩ : SPart)] : List SPart))) false, .sl 6 (List.map e_SPart ([(⟨r14, r15, r16, r17, r18, r19⟩ : SPart)] : List SPart)) false]) (enc := e_SPart) 3 xs7 ([(⟨r14, r15, r16, r17, r18, r19⟩ : SPart)] : List SPart) Try.underlying25 Try.underlying25 ty49 (hy := (holdsRef (enc := e_SPart) 4 ([(⟨r14, r15, r16, r17, r18, r19⟩ : SPart)] : List SPart) false)) (hfit := h1)))) (h := ?_)
     refine aP 6 (.ptr 2 2) rfl (k_fieldAddr 2 0 (hu := Try.underlying27) (hf := rfl) (hi := ty25)) ?_
     refine aOne (i := 7) (v := .undef) rfl (hac := (Does.acts (k_store (vs := [.ref 3 (List.length (xs7 ++ ([(⟨r14, r15, r16, r17, r18, r19⟩ : SPart)] : List SPart))) 0 (List.length (xs7 ++ ([(⟨r14, r15, r16, r17, r18, r19⟩ : SPart)] : List SPart)))]) (H' := [.box [.d (.lit (List.map e_i64 x)), .d (.int .i64 x9)], .box [.d (.int .i64 0), .d (.int .i64 0), .nilc], .box [.d (.int .i64 code), .d (.int .i64 variant), .ref 3 (List.length (xs7 ++ ([(⟨r14, r15, r16, r17, r18, r19⟩ : SPart)] : List SPart))) 0 (List.length (xs7 ++ ([(⟨r14, r15, r16, r17, r18, r19⟩ : SPart)] : List SPart)))], .sl 6 (List.map e_SPart (xs7 ++ ([(⟨r14, r15, r16, r17, r18, r19⟩ : SPart)] : List SPart))) false, .sl 6 (List.map e_SPart ([(⟨r14, r15, r16, r17, r18, r19⟩ : SPart)] : List SPart)) false]) 2 2 (hi := ty25)))) (h := ?_)
     refine aDone (h := ?_)
     refine oBlk ?_
     refine oRegion rfl ?_
     refine oP (.d (.int .i64 i4)) p_move ?_
     refine oP (.d (.int .i64 (IntKind.wrap .i64 (i4 - 1)))) (p_int (k := .i64) (p := i4) (q := 1)) ?_
     refine oP (.d (.int .i64 (IntKind.wrap .i64 (i4 - 1)))) p_assign ?_
     refine oEnd ?_
     refine oAgain ?_
     refine oHead [0, 6, 7, 8] [0, 1, 2, 3] (T' := [(0, .ptr 0 0), (6, .ptr 1 0), (7, .ptr 2 0), (8, .d (.int .i64 (IntKind.wrap .i64 (i4 - 1))))]) (H' := [.box [.d (.lit (List.map e_i64 x)), .d (.int .i64 x9)], .box [.d (.int .i64 0), .d (.int .i64 0), .nilc], .box [.d (.int .i64 code), .d (.int .i64 variant), .ref 3 (List.length (xs7 ++ ([(⟨r14, r15, r16, r17, r18, r19⟩ : SPart)] : List SPart))) 0 (List.length (xs7 ++ ([(⟨r14, r15, r16, r17, r18, r19⟩ : SPart)] : List SPart)))], .sl 6 (List.map e_SPart (xs7 ++ ([(⟨r14, r15, r16, r17, r18, r19⟩ : SPart)] : List SPart))) false]) (hnd := by decide) (h := ?_)
     exact hag1 ((IntKind.wrap .i64 (i4 - 1)), x9, (xs7 ++ ([(⟨r14, r15, r16, r17, r18, r19⟩ : SPart)] : List SPart)))
    ·refine oCondF (h := ?_)
     refine oExit rfl ?_
     refine oHead [6, 7] [0, 1, 2, 3] (T' := [(6, .ptr 1 0), (7, .ptr 2 0)]) (H' := [.box [.d (.lit (List.map e_i64 x)), .d (.int .i64 x11)], .box [.d (.int .i64 0), .d (.int .i64 0), .nilc], .box [.d (.int .i64 code), .d (.int .i64 variant), .ref 3 (List.length xs7) 0 (List.length xs7)], .sl 6 (List.map e_SPart xs7) false]) (hnd := by decide) (h := ?_)
     exact hj2 (x11, xs7)

/-- (*awardingbody/awardingbodymake.Tape).LoosePaper -/
def make_Tape_LoosePaper_b1 (k : Nat) (again : Int × (List SPart) → Option ((List SPart))) : Int × (List SPart) → Option ((List SPart)) := uc fun i8 => fun xs18 => bif (decide (i8 < 6)) then gcap (List.length (xs18 ++ ([(⟨1, 40, 0, 0, 0, 0⟩ : SPart)] : List SPart))) 48 (again ((IntKind.wrap .i64 (i8 + 1)), (xs18 ++ ([(⟨1, 40, 0, 0, 0, 0⟩ : SPart)] : List SPart)))) else some xs18
def make_Tape_LoosePaper (k : Nat) (x : (List Int)) (x1 : Int) : Option (Int × Int × (List SPart) × Int) := Option.bind (make_Tape_Range k 0 3 x x1) (uc fun r17 => fun x23 => Option.bind (make_Tape_Next k 3 x x23) (uc fun r122 => fun x33 => Option.bind (make_Tape_Paper_2 k r17 r122 x x33) (uc fun xs31 => fun x61 => Option.bind (make_Tape_One k 12 x x61) (uc fun r18 => fun x24 => Option.bind (bif r18 then Option.bind (make_Tape_Next k 5 x x24) (uc fun r124 => fun x36 => Option.bind (bif (r124 == 0) then Option.bind (make_Tape_Wild k x x36) (uc fun r1110 => fun x38 => some (x38, r1110, r122, xs31)) else bif (r124 == 1) then Option.bind (make_Tape_Range k (-1) 5 x x36) (uc fun r120 => fun x28 => some (x28, r17, r120, xs31)) else bif (r124 == 2) then some (x36, r17, r122, ([] : List SPart)) else bif (r124 == 3) then Option.bind (make_Tape_Part_2 k x x36) (uc fun r19 => uc fun r110 => uc fun r113 => uc fun r114 => uc fun r115 => uc fun r116 => fun x16 => gcap (List.length (xs31 ++ ([(⟨r19, r110, r113, r114, r115, r116⟩ : SPart)] : List SPart))) 48 (some (x16, r17, r122, (xs31 ++ ([(⟨r19, r110, r113, r114, r115, r116⟩ : SPart)] : List SPart))))) else Option.bind (gloop (make_Tape_LoosePaper_b1 k) k (0, xs31) : Option ((List SPart))) (fun xs17 => some (x36, r17, r122, xs17)) : Option (Int × Int × Int × (List SPart))) (uc fun x19 => uc fun x20 => uc fun x27 => fun xs14 => some (x19, x20, x27, xs14))) else some (x24, r17, r122, xs31) : Option (Int × Int × Int × (List SPart))) (uc fun x15 => uc fun x17 => uc fun x18 => fun xs10 => some (x17, x18, xs10, x15))))))
def make_Tape_LoosePaper_E (x : (List Int)) (x1 : Int) : Int × Int × (List SPart) × Int → V × List Blk := uc fun r14 => uc fun r15 => uc fun r16 => fun x11 => (.agg [.d (.int .i64 r14), .d (.int .i64 r15), .d (.lit (List.map e_SPart r16))], [.box [.d (.lit (List.map e_i64 x)), .d (.int .i64 x11)]])
theorem make_Tape_LoosePaper_goes (k : Nat) (x : (List Int)) (x1 : Int) : RunsO Try.prog 13 [.ptr 0 0, .d (.int .i64 12)] [.box [.d (.lit (List.map e_i64 x)), .d (.int .i64 x1)]] (make_Tape_LoosePaper_E x x1) (make_Tape_LoosePaper k x x1) := by
  refine RunsO.of_goes (N := 55) (m := 1) (T := [(0, .ptr 0 0), (1, .d (.int .i64 12))]) Try.func13 rfl rfl (h := ?_)
  unfold make_Tape_LoosePaper
  refine bStart ?_
  refine oSR rfl ?_
  refine oD (.ptr 1 0) (k_alloc (H' := [.box [.d (.lit (List.map e_i64 x)), .d (.int .i64 x1)], .box [.d (.int .i64 0), .d (.int .i64 0), .nilc]]) ty27) ?_
  refine oEnd ?_
  refine oSR rfl ?_
  refine oP (.ptr 0 0) p_move ?_
  refine oP (.ptr 0 0) p_move ?_
  refine bCall (caps := []) (v := (uc fun (r17 : Int) => (fun (x23 : Int) => (.d (.int .i64 r17) : V)))) (H' := (uc fun (r17 : Int) => (fun (x23 : Int) => ([.box [.d (.lit (List.map e_i64 x)), .d (.int .i64 x23)], .box [.d (.int .i64 0), .d (.int .i64 0), .nilc]] : List Blk)))) [0] _ (make_Tape_Range_goes k 0 3 x x1) (ho := rfl) (hfn := Try.func38) (hb := rfl) (hconv := ConvRs.refl _ _) (hnd := by decide) (hBl := fun _ => (by kernel_rfl)) (hv := fun _ => (by kernel_rfl)) (hH' := fun _ => (by kernel_rfl)) (h := fun r => ?_)
  obtain ⟨r17, x23⟩ := r
  refine bUc ?_
  refine oP (.ptr 0 0) p_move ?_
  refine bCall (caps := []) (v := (uc fun (r122 : Int) => (fun (x33 : Int) => (.d (.int .i64 r122) : V)))) (H' := (uc fun (r122 : Int) => (fun (x33 : Int) => ([.box [.d (.lit (List.map e_i64 x)), .d (.int .i64 x33)], .box [.d (.int .i64 0), .d (.int .i64 0), .nilc]] : List Blk)))) [0] _ (make_Tape_Next_goes k 3 x x23) (ho := rfl) (hfn := Try.func39) (hb := rfl) (hconv := ConvRs.refl _ _) (hnd := by decide) (hBl := fun _ => (by kernel_rfl)) (hv := fun _ => (by kernel_rfl)) (hH' := fun _ => (by kernel_rfl)) (h := fun r => ?_)
  obtain ⟨r122, x33⟩ := r
  refine bUc ?_
  refine bCall (caps := []) (v := (uc fun (xs31 : (List SPart)) => (fun (x61 : Int) => (.agg [.d (.int .i64 r17), .d (.int .i64 r122), .ref 2 (List.length xs31) 0 (List.length xs31)] : V)))) (H' := (uc fun (xs31 : (List SPart)) => (fun (x61 : Int) => ([.box [.d (.lit (List.map e_i64 x)), .d (.int .i64 x61)], .box [.d (.int .i64 0), .d (.int .i64 0), .nilc], .sl 6 (List.map e_SPart xs31) false] : List Blk)))) [0] _ (make_Tape_Paper_2_goes k r17 r122 x x33) (ho := rfl) (hfn := Try.func29) (hb := rfl) (hconv := ConvRs.refl _ _) (hnd := by decide) (hBl := fun _ => (by kernel_rfl)) (hv := fun _ => (by kernel_rfl)) (hH' := fun _ => (by kernel_rfl)) (h := fun r => ?_)
  obtain ⟨xs31, x61⟩ := r
  refine bUc ?_
  refine oD (.ptr 3 0) (k_alloc (H' := [.box [.d (.lit (List.map e_i64 x)), .d (.int .i64 x61)], .box [.d (.int .i64 0), .d (.int .i64 0), .nilc], .sl 6 (List.map e_SPart xs31) false, .box [.d (.int .i64 0), .d (.int .i64 0), .nilc]]) ty27) ?_
  refine oD (.undef) (k_store (vs := [.d (.int .i64 r17), .d (.int .i64 r122), .ref 2 (List.length xs31) 0 (List.length xs31)]) (H' := [.box [.d (.lit (List.map e_i64 x)), .d (.int .i64 x61)], .box [.d (.int .i64 0), .d (.int .i64 0), .nilc], .sl 6 (List.map e_SPart xs31) false, .box [.d (.int .i64 r17), .d (.int .i64 r122), .ref 2 (List.length xs31) 0 (List.length xs31)]]) 3 0 (hi := ty27)) ?_
  refine oEnd ?_
  refine oSeq ?_
  refine oSR rfl ?_
  refine oP (.d (.int .i64 12)) p_move ?_
  refine oP (.d (.bool true)) (p_int (k := .i64) (p := 12) (q := 0)) ?_
  refine oP (.d (.bool true)) p_move ?_
  refine oP (.ptr 0 0) p_move ?_
  refine oP (.d (.int .i64 12)) p_move ?_
  refine bCall (caps := []) (v := (uc fun (r18 : Bool) => (fun (x24 : Int) => (.d (.bool r18) : V)))) (H' := (uc fun (r18 : Bool) => (fun (x24 : Int) => ([.box [.d (.lit (List.map e_i64 x)), .d (.int .i64 x24)], .box [.d (.int .i64 0), .d (.int .i64 0), .nilc], .sl 6 (List.map e_SPart xs31) false, .box [.d (.int .i64 r17), .d (.int .i64 r122), .ref 2 (List.length xs31) 0 (List.length xs31)]] : List Blk)))) [0] _ (make_Tape_One_goes k 12 x x61) (ho := rfl) (hfn := Try.func40) (hb := rfl) (hconv := ConvRs.refl _ _) (hnd := by decide) (hBl := fun _ => (by kernel_rfl)) (hv := fun _ => (by kernel_rfl)) (hH' := fun _ => (by kernel_rfl)) (h := fun r => ?_)
  obtain ⟨r18, x24⟩ := r
  refine bUc ?_
  refine oP (.d (.bool r18)) (p_pick (b := true)) ?_
  refine oEnd ?_
  refine bJoin ((uc fun (x15 : Int) => (uc fun (x17 : Int) => (uc fun (x18 : Int) => (fun (xs10 : (List SPart)) => [(4, .ptr 1 0), (5, .ptr 2 0)]))))) ((uc fun (x15 : Int) => (uc fun (x17 : Int) => (uc fun (x18 : Int) => (fun (xs10 : (List SPart)) => [.box [.d (.lit (List.map e_i64 x)), .d (.int .i64 x15)], .box [.d (.int .i64 0), .d (.int .i64 0), .nilc], .box [.d (.int .i64 x17), .d (.int .i64 x18), .ref 3 (List.length xs10) 0 (List.length xs10)], .sl 6 (List.map e_SPart xs10) false]))))) (fun s => s) (fun s => ?_) (fun hj6 => ?_)
  ·obtain ⟨x15, x17, x18, xs10⟩ := s
   refine bUc ?_
   refine bUc ?_
   refine bUc ?_
   refine oView (T' := [(4, .ptr 1 0), (5, .ptr 2 0)]) (H' := [.box [.d (.lit (List.map e_i64 x)), .d (.int .i64 x15)], .box [.d (.int .i64 0), .d (.int .i64 0), .nilc], .box [.d (.int .i64 x17), .d (.int .i64 x18), .ref 3 (List.length xs10) 0 (List.length xs10)], .sl 6 (List.map e_SPart xs10) false]) (h := ?_)
   refine oSR rfl ?_
   refine oQ (.agg [.d (.int .i64 x17), .d (.int .i64 x18), .ref 3 (List.length xs10) 0 (List.length xs10)]) (k_loadAgg 2 0 (hu := Try.underlying27) (hi := ty27)) ?_
   refine oD (.undef) (k_store (vs := [.d (.int .i64 x17), .d (.int .i64 x18), .ref 3 (List.length xs10) 0 (List.length xs10)]) (H' := [.box [.d (.lit (List.map e_i64 x)), .d (.int .i64 x15)], .box [.d (.int .i64 x17), .d (.int .i64 x18), .ref 3 (List.length xs10) 0 (List.length xs10)], .box [.d (.int .i64 x17), .d (.int .i64 x18), .ref 3 (List.length xs10) 0 (List.length xs10)], .sl 6 (List.map e_SPart xs10) false]) 1 0 (hi := ty27)) ?_
   refine oEnd ?_
   refine oFreeze 3 (esz := 6) (xs := List.map e_SPart xs10) (h := ?_)
   refine oView (H' := [.box [.d (.lit (List.map e_i64 x)), .d (.int .i64 x15)], .box [.d (.int .i64 x17), .d (.int .i64 x18), .ref 3 (List.length xs10) 0 (List.length xs10)], .box [.d (.int .i64 x17), .d (.int .i64 x18), .ref 3 (List.length xs10) 0 (List.length xs10)], .sl 6 (List.map e_SPart xs10) true]) rfl (h := ?_)
   refine oConvB 1 (cells := [.d (.int .i64 x17), .d (.int .i64 x18), .ref 3 (List.length xs10) 0 (List.length xs10)]) (cells' := [.d (.int .i64 x17), .d (.int .i64 x18), .d (.lit (List.map e_SPart xs10))]) (hc := .cons _ _ _ _ (.same _) (.cons _ _ _ _ (.same _) (.cons _ _ _ _ (k_lit (enc := e_SPart) (sz := 6) 3 xs10) .nil))) (h := ?_)
   refine oView (H' := [.box [.d (.lit (List.map e_i64 x)), .d (.int .i64 x15)], .box [.d (.int .i64 x17), .d (.int .i64 x18), .d (.lit (List.map e_SPart xs10))], .box [.d (.int .i64 x17), .d (.int .i64 x18), .ref 3 (List.length xs10) 0 (List.length xs10)], .sl 6 (List.map e_SPart xs10) true]) rfl (h := ?_)
   exact oRet (r0 := (x17, x18, xs10, x15)) (rv := .agg [.d (.int .i64 x17), .d (.int .i64 x18), .d (.lit (List.map e_SPart xs10))]) (B := [.box [.d (.lit (List.map e_i64 x)), .d (.int .i64 x15)]]) (vs := [.agg [.d (.int .i64 x17), .d (.int .i64 x18), .d (.lit (List.map e_SPart xs10))]]) (σ := [0]) (hf := Try.func13) (hrs := rfl) (hres := .cons _ _ _ _ (.agg 4 27 1 0 [.d (.int .i64 x17), .d (.int .i64 x18), .d (.lit (List.map e_SPart xs10))] [.d (.int .i64 x17), .d (.int .i64 x18), .d (.lit (List.map e_SPart xs10))] _ _ _ _ (by kernel_rfl) (by kernel_rfl) Try.underlying27 (by kernel_rfl) ty27 (by kernel_rfl) (by kernel_rfl)) .nil) (hnd := by decide)
  ·refine bSplit 19 (h1 := fun hc => ?_) (h2 := fun hc => ?_)
   ·refine oCondT (h := ?_)
    refine oSR rfl ?_
    refine oP (.ptr 0 0) p_move ?_
    refine bCall (caps := []) (v := (uc fun (r124 : Int) => (fun (x36 : Int) => (.d (.int .i64 r124) : V)))) (H' := (uc fun (r124 : Int) => (fun (x36 : Int) => ([.box [.d (.lit (List.map e_i64 x)), .d (.int .i64 x36)], .box [.d (.int .i64 0), .d (.int .i64 0), .nilc], .sl 6 (List.map e_SPart xs31) false, .box [.d (.int .i64 r17), .d (.int .i64 r122), .ref 2 (List.length xs31) 0 (List.length xs31)]] : List Blk)))) [0] _ (make_Tape_Next_goes k 5 x x24) (ho := rfl) (hfn := Try.func39) (hb := rfl) (hconv := ConvRs.refl _ _) (hnd := by decide) (hBl := fun _ => (by kernel_rfl)) (hv := fun _ => (by kernel_rfl)) (hH' := fun _ => (by kernel_rfl)) (h := fun r => ?_)
    obtain ⟨r124, x36⟩ := r
    refine bUc ?_
    refine oEnd ?_
    refine bJoin ((uc fun (x19 : Int) => (uc fun (x20 : Int) => (uc fun (x27 : Int) => (fun (xs14 : (List SPart)) => [(4, .ptr 1 0), (5, .ptr 2 0)]))))) ((uc fun (x19 : Int) => (uc fun (x20 : Int) => (uc fun (x27 : Int) => (fun (xs14 : (List SPart)) => [.box [.d (.lit (List.map e_i64 x)), .d (.int .i64 x19)], .box [.d (.int .i64 0), .d (.int .i64 0), .nilc], .box [.d (.int .i64 x20), .d (.int .i64 x27), .ref 3 (List.length xs14) 0 (List.length xs14)], .sl 6 (List.map e_SPart xs14) false]))))) (fun s => s) (fun s => ?_) (fun hj8 => ?_)
    ·obtain ⟨x19, x20, x27, xs14⟩ := s
     refine bUc ?_
     refine bUc ?_
     refine bUc ?_
     refine oView (T' := [(4, .ptr 1 0), (5, .ptr 2 0)]) (H' := [.box [.d (.lit (List.map e_i64 x)), .d (.int .i64 x19)], .box [.d (.int .i64 0), .d (.int .i64 0), .nilc], .box [.d (.int .i64 x20), .d (.int .i64 x27), .ref 3 (List.length xs14) 0 (List.length xs14)], .sl 6 (List.map e_SPart xs14) false]) (h := ?_)
     refine oHead [4, 5] [0, 1, 2, 3] (T' := [(4, .ptr 1 0), (5, .ptr 2 0)]) (H' := [.box [.d (.lit (List.map e_i64 x)), .d (.int .i64 x19)], .box [.d (.int .i64 0), .d (.int .i64 0), .nilc], .box [.d (.int .i64 x20), .d (.int .i64 x27), .ref 3 (List.length xs14) 0 (List.length xs14)], .sl 6 (List.map e_SPart xs14) false]) (hnd := by decide) (h := ?_)
     exact hj6 (x19, x20, x27, xs14)
    ·refine oBlock ?_
     refine oSR rfl ?_
     refine oP (.d (.bool (r124 == 0))) (p_int (k := .i64) (p := r124) (q := 0)) ?_
     refine oP (.d (.bool (r124 == 0))) p_assign ?_
     refine oEnd ?_
     refine bSplit 32 (h1 := fun hc => ?_) (h2 := fun hc => ?_)
     ·refine oCondT (h := ?_)
      refine oRegion rfl ?_
      refine oP (.ptr 0 0) p_move ?_
      refine bCall (caps := []) (v := (uc fun (r1110 : Int) => (fun (x38 : Int) => (.d (.int .i64 r1110) : V)))) (H' := (uc fun (r1110 : Int) => (fun (x38 : Int) => ([.box [.d (.lit (List.map e_i64 x)), .d (.int .i64 x38)], .box [.d (.int .i64 0), .d (.int .i64 0), .nilc], .sl 6 (List.map e_SPart xs31) false, .box [.d (.int .i64 r17), .d (.int .i64 r122), .ref 2 (List.length xs31) 0 (List.length xs31)]] : List Blk)))) [0] _ (make_Tape_Wild_goes k x x36) (ho := rfl) (hfn := Try.func41) (hb := rfl) (hconv := ConvRs.refl _ _) (hnd := by decide) (hBl := fun _ => (by kernel_rfl)) (hv := fun _ => (by kernel_rfl)) (hH' := fun _ => (by kernel_rfl)) (h := fun r => ?_)
      obtain ⟨r1110, x38⟩ := r
      refine bUc ?_
      refine oP (.ptr 3 0) (k_fieldAddr 3 0 (hu := Try.underlying27) (hf := rfl) (hi := ty3)) ?_
      refine oD (.undef) (k_store (vs := [.d (.int .i64 r1110)]) (H' := [.box [.d (.lit (List.map e_i64 x)), .d (.int .i64 x38)], .box [.d (.int .i64 0), .d (.int .i64 0), .nilc], .sl 6 (List.map e_SPart xs31) false, .box [.d (.int .i64 r1110), .d (.int .i64 r122), .ref 2 (List.length xs31) 0 (List.length xs31)]]) 3 0 (hi := ty3)) ?_
      refine oEnd ?_
      refine oBlk ?_
      refine oHead [4, 5] [0, 1, 3, 2] (T' := [(4, .ptr 1 0), (5, .ptr 2 0)]) (H' := [.box [.d (.lit (List.map e_i64 x)), .d (.int .i64 x38)], .box [.d (.int .i64 0), .d (.int .i64 0), .nilc], .box [.d (.int .i64 r1110), .d (.int .i64 r122), .ref 3 (List.length xs31) 0 (List.length xs31)], .sl 6 (List.map e_SPart xs31) false]) (hnd := by decide) (h := ?_)
      exact hj8 (x38, r1110, r122, xs31)
     ·refine oCondF (h := ?_)
      refine oSR rfl ?_
      refine oP (.d (.bool (r124 == 1))) (p_int (k := .i64) (p := r124) (q := 1)) ?_
      refine oP (.d (.bool (r124 == 1))) p_assign ?_
      refine oEnd ?_
      refine bSplit 37 (h1 := fun hc => ?_) (h2 := fun hc => ?_)
      ·refine oCondT (h := ?_)
       refine oRegion rfl ?_
       refine oP (.ptr 0 0) p_move ?_
       refine bCall (caps := []) (v := (uc fun (r120 : Int) => (fun (x28 : Int) => (.d (.int .i64 r120) : V)))) (H' := (uc fun (r120 : Int) => (fun (x28 : Int) => ([.box [.d (.lit (List.map e_i64 x)), .d (.int .i64 x28)], .box [.d (.int .i64 0), .d (.int .i64 0), .nilc], .sl 6 (List.map e_SPart xs31) false, .box [.d (.int .i64 r17), .d (.int .i64 r122), .ref 2 (List.length xs31) 0 (List.length xs31)]] : List Blk)))) [0] _ (make_Tape_Range_goes k (-1) 5 x x36) (ho := rfl) (hfn := Try.func38) (hb := rfl) (hconv := ConvRs.refl _ _) (hnd := by decide) (hBl := fun _ => (by kernel_rfl)) (hv := fun _ => (by kernel_rfl)) (hH' := fun _ => (by kernel_rfl)) (h := fun r => ?_)
       obtain ⟨r120, x28⟩ := r
       refine bUc ?_
       refine oP (.ptr 3 1) (k_fieldAddr 3 0 (hu := Try.underlying27) (hf := rfl) (hi := ty3)) ?_
       refine oD (.undef) (k_store (vs := [.d (.int .i64 r120)]) (H' := [.box [.d (.lit (List.map e_i64 x)), .d (.int .i64 x28)], .box [.d (.int .i64 0), .d (.int .i64 0), .nilc], .sl 6 (List.map e_SPart xs31) false, .box [.d (.int .i64 r17), .d (.int .i64 r120), .ref 2 (List.length xs31) 0 (List.length xs31)]]) 3 1 (hi := ty3)) ?_
       refine oEnd ?_
       refine oBlk ?_
       refine oHead [4, 5] [0, 1, 3, 2] (T' := [(4, .ptr 1 0), (5, .ptr 2 0)]) (H' := [.box [.d (.lit (List.map e_i64 x)), .d (.int .i64 x28)], .box [.d (.int .i64 0), .d (.int .i64 0), .nilc], .box [.d (.int .i64 r17), .d (.int .i64 r120), .ref 3 (List.length xs31) 0 (List.length xs31)], .sl 6 (List.map e_SPart xs31) false]) (hnd := by decide) (h := ?_)
       exact hj8 (x28, r17, r120, xs31)
      ·refine oCondF (h := ?_)
       refine oSR rfl ?_
       refine oP (.d (.bool (r124 == 2))) (p_int (k := .i64) (p := r124) (q := 2)) ?_
       refine oP (.d (.bool (r124 == 2))) p_assign ?_
       refine oEnd ?_
       refine bSplit 42 (h1 := fun hc => ?_) (h2 := fun hc => ?_)
       ·refine oCondT (h := ?_)
        refine oRegion rfl ?_
        refine oP (.ptr 3 2) (k_fieldAddr 3 0 (hu := Try.underlying27) (hf := rfl) (hi := ty25)) ?_
        refine oD (.undef) (k_store (vs := [.nilc]) (H' := [.box [.d (.lit (List.map e_i64 x)), .d (.int .i64 x36)], .box [.d (.int .i64 0), .d (.int .i64 0), .nilc], .sl 6 (List.map e_SPart xs31) false, .box [.d (.int .i64 r17), .d (.int .i64 r122), .nilc]]) 3 2 (hi := ty25)) ?_
        refine oEnd ?_
        refine oBlk ?_
        refine oVirtB (esz := 6) 3 2 (cells := [.d (.int .i64 r17), .d (.int .i64 r122), .nilc]) (h := ?_)
        refine oView (H' := [.box [.d (.lit (List.map e_i64 x)), .d (.int .i64 x36)], .box [.d (.int .i64 0), .d (.int .i64 0), .nilc], .sl 6 (List.map e_SPart xs31) false, .box [.d (.int .i64 r17), .d (.int .i64 r122), .ref 4 (List.length ([] : List SPart)) 0 (List.length ([] : List SPart))], .sl 6 (List.map e_SPart ([] : List SPart)) false]) rfl (h := ?_)
        refine oHead [4, 5] [0, 1, 3, 4] (T' := [(4, .ptr 1 0), (5, .ptr 2 0)]) (H' := [.box [.d (.lit (List.map e_i64 x)), .d (.int .i64 x36)], .box [.d (.int .i64 0), .d (.int .i64 0), .nilc], .box [.d (.int .i64 r17), .d (.int .i64 r122), .ref 3 (List.length ([] : List SPart)) 0 (List.length ([] : List SPart))], .sl 6 (List.map e_SPart ([] : List SPart)) false]) (hnd := by decide) (h := ?_)
        exact hj8 (x36, r17, r122, ([] : List SPart))
       ·refine oCondF (h := ?_)
        refine oSR rfl ?_
        refine oP (.d (.bool (r124 == 3))) (p_int (k := .i64) (p := r124) (q := 3)) ?_
        refine oP (.d (.bool (r124 == 3))) p_assign ?_
        refine oEnd ?_
        refine bSplit 45 (h1 := fun hc => ?_) (h2 := fun hc => ?_)
        ·refine oCondT (h := ?_)
         refine oDraw [(0, 3), (1, 8), (2, 5), (3, 7)] rfl ?_
         refine aP 0 (.ptr 3 2) rfl (k_fieldAddr 3 0 (hu := Try.underlying27) (hf := rfl) (hi := ty25)) ?_
         refine aQ 1 [3] (.ref 2 (List.length xs31) 0 (List.length xs31)) rfl (k_load 3 2 (hu := Try.underlying25)) ?_
         refine aP 2 (.ptr 0 0) rfl p_move ?_
         refine dCall (i := 3) (caps := []) (v := (uc fun (r19 : Int) => (uc fun (r110 : Int) => (uc fun (r113 : Int) => (uc fun (r114 : Int) => (uc fun (r115 : Int) => (uc fun (r116 : Int) => (fun (x16 : Int) => (.agg [.d (.int .i64 r19), .d (.int .i64 r110), .d (.int .i64 r113), .d (.int .i64 r114), .d (.int .i64 r115), .d (.int .i64 r116)] : V))))))))) (H' := (uc fun (r19 : Int) => (uc fun (r110 : Int) => (uc fun (r113 : Int) => (uc fun (r114 : Int) => (uc fun (r115 : Int) => (uc fun (r116 : Int) => (fun (x16 : Int) => ([.box [.d (.lit (List.map e_i64 x)), .d (.int .i64 x16)], .box [.d (.int .i64 0), .d (.int .i64 0), .nilc], .sl 6 (List.map e_SPart xs31) false, .box [.d (.int .i64 r17), .d (.int .i64 r122), .ref 2 (List.length xs31) 0 (List.length xs31)]] : List Blk))))))))) [0] _ (make_Tape_Part_2_goes k x x36) rfl (ho := rfl) (hfn := Try.func42) (hb := rfl) (hconv := ConvRs.refl _ _) (hnd := by decide) (hBl := fun _ => (by kernel_rfl)) (hv := fun _ => (by kernel_rfl)) (hH' := fun _ => (by kernel_rfl)) (h := fun r => ?_)
         obtain ⟨r19, r110, r113, r114, r115, r116, x16⟩ := r
         refine dUc ?_
         refine dUc ?_
         refine dUc ?_
         refine dUc ?_
         refine dUc ?_
         refine dUc ?_
         refine aOne (i := 4) (v := .ref 4 (List.length ([(⟨r19, r110, r113, r114, r115, r116⟩ : SPart)] : List SPart)) 0 (List.length ([(⟨r19, r110, r113, r114, r115, r116⟩ : SPart)] : List SPart))) rfl (hac := (Does.acts (k_buildSlice (H' := [.box [.d (.lit (List.map e_i64 x)), .d (.int .i64 x16)], .box [.d (.int .i64 0), .d (.int .i64 0), .nilc], .sl 6 (List.map e_SPart xs31) false, .box [.d (.int .i64 r17), .d (.int .i64 r122), .ref 2 (List.length xs31) 0 (List.length xs31)], .sl 6 (List.map e_SPart ([(⟨r19, r110, r113, r114, r115, r116⟩ : SPart)] : List SPart)) false]) (List.map e_SPart ([(⟨r19, r110, r113, r114, r115, r116⟩ : SPart)] : List SPart)) Try.underlying25 ty49))) (h := ?_)
         refine dCap (fun h1 => ?_)
         refine aOne (i := 5) (v := .ref 2 (List.length (xs31 ++ ([(⟨r19, r110, r113, r114, r115, r116⟩ : SPart)] : List SPart))) 0 (List.length (xs31 ++ ([(⟨r19, r110, r113, r114, r115, r116⟩ : SPart)] : List SPart)))) rfl (hac := (Does.acts (k_append (H' := [.box [.d (.lit (List.map e_i64 x)), .d (.int .i64 x16)], .box [.d (.int .i64 0), .d (.int .i64 0), .nilc], .sl 6 (List.map e_SPart (xs31 ++ ([(⟨r19, r110, r113, r114, r115, r116⟩ : SPart)] : List SPart))) false, .box [.d (.int .i64 r17), .d (.int .i64 r122), .ref 2 (List.length xs31) 0 (List.length xs31)], .sl 6 (List.map e_SPart ([(⟨r19, r110, r113, r114, r115, r116⟩ : SPart)] : List SPart)) false]) (enc := e_SPart) 2 xs31 ([(⟨r19, r110, r113, r114, r115, r116⟩ : SPart)] : List SPart) Try.underlying25 Try.underlying25 ty49 (hy := (holdsRef (enc := e_SPart) 4 ([(⟨r19, r110, r113, r114, r115, r116⟩ : SPart)] : List SPart) false)) (hfit := h1)))) (h := ?_)
         refine aP 6 (.ptr 3 2) rfl (k_fieldAddr 3 0 (hu := Try.underlying27) (hf := rfl) (hi := ty25)) ?_
         refine aOne (i := 7) (v := .undef) rfl (hac := (Does.acts (k_store (vs := [.ref 2 (List.length (xs31 ++ ([(⟨r19, r110, r113, r114, r115, r116⟩ : SPart)] : List SPart))) 0 (List.length (xs31 ++ ([(⟨r19, r110, r113, r114, r115, r116⟩ : SPart)] : List SPart)))]) (H' := [.box [.d (.lit (List.map e_i64 x)), .d (.int .i64 x16)], .box [.d (.int .i64 0), .d (.int .i64 0), .nilc], .sl 6 (List.map e_SPart (xs31 ++ ([(⟨r19, r110, r113, r114, r115, r116⟩ : SPart)] : List SPart))) false, .box [.d (.int .i64 r17), .d (.int .i64 r122), .ref 2 (List.length (xs31 ++ ([(⟨r19, r110, r113, r114, r115, r116⟩ : SPart)] : List SPart))) 0 (List.length (xs31 ++ ([(⟨r19, r110, r113, r114, r115, r116⟩ : SPart)] : List SPart)))], .sl 6 (List.map e_SPart ([(⟨r19, r110, r113, r114, r115, r116⟩ : SPart)] : List SPart)) false]) 3 2 (hi := ty25)))) (h := ?_)
         refine aDone (h := ?_)
         refine oBlk ?_
         refine oHead [4, 5] [0, 1, 3, 2] (T' := [(4, .ptr 1 0), (5, .ptr 2 0)]) (H' := [.box [.d (.lit (List.map e_i64 x)), .d (.int .i64 x16)], .box [.d (.int .i64 0), .d (.int .i64 0), .nilc], .box [.d (.int .i64 r17), .d (.int .i64 r122), .ref 3 (List.length (xs31 ++ ([(⟨r19, r110, r113, r114, r115, r116⟩ : SPart)] : List SPart))) 0 (List.length (xs31 ++ ([(⟨r19, r110, r113, r114, r115, r116⟩ : SPart)] : List SPart)))], .sl 6 (List.map e_SPart (xs31 ++ ([(⟨r19, r110, r113, r114, r115, r116⟩ : SPart)] : List SPart))) false]) (hnd := by decide) (h := ?_)
         exact hj8 (x16, r17, r122, (xs31 ++ ([(⟨r19, r110, r113, r114, r115, r116⟩ : SPart)] : List SPart)))
        ·refine oCondF (h := ?_)
         refine oSR rfl ?_
         refine oP (.d (.int .i64 0)) p_assign ?_
         refine oEnd ?_
         refine bJoin ((fun (xs17 : (List SPart)) => [(4, .ptr 1 0), (5, .ptr 2 0)])) ((fun (xs17 : (List SPart)) => [.box [.d (.lit (List.map e_i64 x)), .d (.int .i64 x36)], .box [.d (.int .i64 0), .d (.int .i64 0), .nilc], .box [.d (.int .i64 r17), .d (.int .i64 r122), .ref 3 (List.length xs17) 0 (List.length xs17)], .sl 6 (List.map e_SPart xs17) false])) (fun s => s) (fun xs17 => ?_) (fun hj9 => ?_)
         ·refine oView (T' := [(4, .ptr 1 0), (5, .ptr 2 0)]) (H' := [.box [.d (.lit (List.map e_i64 x)), .d (.int .i64 x36)], .box [.d (.int .i64 0), .d (.int .i64 0), .nilc], .box [.d (.int .i64 r17), .d (.int .i64 r122), .ref 3 (List.length xs17) 0 (List.length xs17)], .sl 6 (List.map e_SPart xs17) false]) (h := ?_)
          refine oBlk ?_
          refine oHead [4, 5] [0, 1, 2, 3] (T' := [(4, .ptr 1 0), (5, .ptr 2 0)]) (H' := [.box [.d (.lit (List.map e_i64 x)), .d (.int .i64 x36)], .box [.d (.int .i64 0), .d (.int .i64 0), .nilc], .box [.d (.int .i64 r17), .d (.int .i64 r122), .ref 3 (List.length xs17) 0 (List.length xs17)], .sl 6 (List.map e_SPart xs17) false]) (hnd := by decide) (h := ?_)
          exact hj8 (x36, r17, r122, xs17)
         ·refine oBlock ?_
          refine oLoop ?_
          refine oHead [4, 5, 6] [0, 1, 3, 2] (T' := [(4, .ptr 1 0), (5, .ptr 2 0), (6, .d (.int .i64 0))]) (H' := [.box [.d (.lit (List.map e_i64 x)), .d (.int .i64 x36)], .box [.d (.int .i64 0), .d (.int .i64 0), .nilc], .box [.d (.int .i64 r17), .d (.int .i64 r122), .ref 3 (List.length xs31) 0 (List.length xs31)], .sl 6 (List.map e_SPart xs31) false]) (hnd := by decide) (h := ?_)
          refine bLoop (body := make_Tape_LoosePaper_b1 k) ((uc fun (i8 : Int) => (fun (xs18 : (List SPart)) => [(4, .ptr 1 0), (5, .ptr 2 0), (6, .d (.int .i64 i8))]))) ((uc fun (i8 : Int) => (fun (xs18 : (List SPart)) => [.box [.d (.lit (List.map e_i64 x)), .d (.int .i64 x36)], .box [.d (.int .i64 0), .d (.int .i64 0), .nilc], .box [.d (.int .i64 r17), .d (.int .i64 r122), .ref 3 (List.length xs18) 0 (List.length xs18)], .sl 6 (List.map e_SPart xs18) false]))) (fun again hag1 s => ?_) k (0, xs31)
          ·unfold make_Tape_LoosePaper_b1
           obtain ⟨i8, xs18⟩ := s
           refine bUc ?_
           refine oView (T' := [(4, .ptr 1 0), (5, .ptr 2 0), (6, .d (.int .i64 i8))]) (H' := [.box [.d (.lit (List.map e_i64 x)), .d (.int .i64 x36)], .box [.d (.int .i64 0), .d (.int .i64 0), .nilc], .box [.d (.int .i64 r17), .d (.int .i64 r122), .ref 3 (List.length xs18) 0 (List.length xs18)], .sl 6 (List.map e_SPart xs18) false]) (h := ?_)
           refine oSeq ?_
           refine oSR rfl ?_
           refine oP (.d (.int .i64 i8)) p_move ?_
           refine oP (.d (.bool (decide (i8 < 6)))) (p_int (k := .i64) (p := i8) (q := 6)) ?_
           refine oEnd ?_
           refine bSplit 23 (h1 := fun hc => ?_) (h2 := fun hc => ?_)
           ·refine oCondT (h := ?_)
            refine oSkip ?_
            refine oSeq ?_
            refine oBlock ?_
            refine oRegion rfl ?_
            refine oP (.ptr 2 2) (k_fieldAddr 2 0 (hu := Try.underlying27) (hf := rfl) (hi := ty25)) ?_
            refine oQ (.ref 3 (List.length xs18) 0 (List.length xs18)) (k_load 2 2 (hu := Try.underlying25)) ?_
            refine oP (.agg [.d (.int .i64 1), .d (.int .i64 40), .d (.int .i64 0), .d (.int .i64 0), .d (.int .i64 0), .d (.int .i64 0)]) (p_build bld49) ?_
            refine oD (.ref 4 (List.length ([(⟨1, 40, 0, 0, 0, 0⟩ : SPart)] : List SPart)) 0 (List.length ([(⟨1, 40, 0, 0, 0, 0⟩ : SPart)] : List SPart))) (k_buildSlice (H' := [.box [.d (.lit (List.map e_i64 x)), .d (.int .i64 x36)], .box [.d (.int .i64 0), .d (.int .i64 0), .nilc], .box [.d (.int .i64 r17), .d (.int .i64 r122), .ref 3 (List.length xs18) 0 (List.length xs18)], .sl 6 (List.map e_SPart xs18) false, .sl 6 (List.map e_SPart ([(⟨1, 40, 0, 0, 0, 0⟩ : SPart)] : List SPart)) false]) (List.map e_SPart ([(⟨1, 40, 0, 0, 0, 0⟩ : SPart)] : List SPart)) Try.underlying25 ty49) ?_
            refine bCap (fun h122 => ?_)
            refine oD (.ref 3 (List.length (xs18 ++ ([(⟨1, 40, 0, 0, 0, 0⟩ : SPart)] : List SPart))) 0 (List.length (xs18 ++ ([(⟨1, 40, 0, 0, 0, 0⟩ : SPart)] : List SPart)))) (k_append (H' := [.box [.d (.lit (List.map e_i64 x)), .d (.int .i64 x36)], .box [.d (.int .i64 0), .d (.int .i64 0), .nilc], .box [.d (.int .i64 r17), .d (.int .i64 r122), .ref 3 (List.length xs18) 0 (List.length xs18)], .sl 6 (List.map e_SPart (xs18 ++ ([(⟨1, 40, 0, 0, 0, 0⟩ : SPart)] : List SPart))) false, .sl 6 (List.map e_SPart ([(⟨1, 40, 0, 0, 0, 0⟩ : SPart)] : List SPart)) false]) (enc := e_SPart) 3 xs18 ([(⟨1, 40, 0, 0, 0, 0⟩ : SPart)] : List SPart) Try.underlying25 Try.underlying25 ty49 (hy := (holdsRef (enc := e_SPart) 4 ([(⟨1, 40, 0, 0, 0, 0⟩ : SPart)] : List SPart) false)) (hfit := h122)) ?_
            refine oP (.ptr 2 2) (k_fieldAddr 2 0 (hu := Try.underlying27) (hf := rfl) (hi := ty25)) ?_
            refine oD (.undef) (k_store (vs := [.ref 3 (List.length (xs18 ++ ([(⟨1, 40, 0, 0, 0, 0⟩ : SPart)] : List SPart))) 0 (List.length (xs18 ++ ([(⟨1, 40, 0, 0, 0, 0⟩ : SPart)] : List SPart)))]) (H' := [.box [.d (.lit (List.map e_i64 x)), .d (.int .i64 x36)], .box [.d (.int .i64 0), .d (.int .i64 0), .nilc], .box [.d (.int .i64 r17), .d (.int .i64 r122), .ref 3 (List.length (xs18 ++ ([(⟨1, 40, 0, 0, 0, 0⟩ : SPart)] : List SPart))) 0 (List.length (xs18 ++ ([(⟨1, 40, 0, 0, 0, 0⟩ : SPart)] : List SPart)))], .sl 6 (List.map e_SPart (xs18 ++ ([(⟨1, 40, 0, 0, 0, 0⟩ : SPart)] : List SPart))) false, .sl 6 (List.map e_SPart ([(⟨1, 40, 0, 0, 0, 0⟩ : SPart)] : List SPart)) false]) 2 2 (hi := ty25)) ?_
            refine oEnd ?_
            refine oBlk ?_
            refine oRegion rfl ?_
            refine oP (.d (.int .i64 i8)) p_move ?_
            refine oP (.d (.int .i64 (IntKind.wrap .i64 (i8 + 1)))) (p_int (k := .i64) (p := i8) (q := 1)) ?_
            refine oP (.d (.int .i64 (IntKind.wrap .i64 (i8 + 1)))) p_assign ?_
            refine oEnd ?_
            refine oAgain ?_
            refine oHead [4, 5, 6] [0, 1, 2, 3] (T' := [(4, .ptr 1 0), (5, .ptr 2 0), (6, .d (.int .i64 (IntKind.wrap .i64 (i8 + 1))))]) (H' := [.box [.d (.lit (List.map e_i64 x)), .d (.int .i64 x36)], .box [.d (.int .i64 0), .d (.int .i64 0), .nilc], .box [.d (.int .i64 r17), .d (.int .i64 r122), .ref 3 (List.length (xs18 ++ ([(⟨1, 40, 0, 0, 0, 0⟩ : SPart)] : List SPart))) 0 (List.length (xs18 ++ ([(⟨1, 40, 0, 0, 0, 0⟩ : SPart)] : List SPart)))], .sl 6 (List.map e_SPart (xs18 ++ ([(⟨1, 40, 0, 0, 0, 0⟩ : SPart)] : List SPart))) false]) (hnd := by decide) (h := ?_)
            exact hag1 ((IntKind.wrap .i64 (i8 + 1)), (xs18 ++ ([(⟨1, 40, 0, 0, 0, 0⟩ : SPart)] : List SPart)))
           ·refine oCondF (h := ?_)
            refine oExit rfl ?_
            refine oHead [4, 5] [0, 1, 2, 3] (T' := [(4, .ptr 1 0), (5, .ptr 2 0)]) (H' := [.box [.d (.lit (List.map e_i64 x)), .d (.int .i64 x36)], .box [.d (.int .i64 0), .d (.int .i64 0), .nilc], .box [.d (.int .i64 r17), .d (.int .i64 r122), .ref 3 (List.length xs18) 0 (List.length xs18)], .sl 6 (List.map e_SPart xs18) false]) (hnd := by decide) (h := ?_)
            exact hj9 xs18
   ·refine oCondF (h := ?_)
    refine oSkip ?_
    refine oHead [4, 5] [0, 1, 3, 2] (T' := [(4, .ptr 1 0), (5, .ptr 2 0)]) (H' := [.box [.d (.lit (List.map e_i64 x)), .d (.int .i64 x24)], .box [.d (.int .i64 0), .d (.int .i64 0), .nilc], .box [.d (.int .i64 r17), .d (.int .i64 r122), .ref 3 (List.length xs31) 0 (List.length xs31)], .sl 6 (List.map e_SPart xs31) false]) (hnd := by decide) (h := ?_)
    exact hj6 (x24, r17, r122, xs31)

/-- (*awardingbody/awardingbodymake.Tape).Pick -/
def make_Tape_Pick_2 (k : Nat) (x : (List Int)) (x1 : Int) (xs : (List Int)) : Option (Int × Int) := Option.bind (make_Tape_Next k ((List.length xs) : Int) x x1) (uc fun r121 => fun x31 => gidx xs r121 fun e11 => some (e11, x31))
def make_Tape_Pick_2_E (x : (List Int)) (x1 : Int) (xs : (List Int)) : Int × Int → V × List Blk := uc fun r1 => fun x2 => (.d (.int .i64 r1), [.box [.d (.lit (List.map e_i64 x)), .d (.int .i64 x2)], .sl 1 (List.map e_i64 xs) false])
theorem make_Tape_Pick_2_goes (k : Nat) (x : (List Int)) (x1 : Int) (xs : (List Int)) : RunsO Try.prog 43 [.ptr 0 0, .ref 1 (List.length xs) 0 (List.length xs)] [.box [.d (.lit (List.map e_i64 x)), .d (.int .i64 x1)], .sl 1 (List.map e_i64 xs) false] (make_Tape_Pick_2_E x x1 xs) (make_Tape_Pick_2 k x x1 xs) := by
  refine RunsO.of_goes (N := 12) (m := 2) (T := [(0, .ptr 0 0), (1, .ref 1 (List.length xs) 0 (List.length xs))]) Try.func43 rfl rfl (h := ?_)
  unfold make_Tape_Pick_2
  refine bStart ?_
  refine oSR rfl ?_
  refine oP (.d (.int .i64 0)) p_assign ?_
  refine oEnd ?_
  refine oSR rfl ?_
  refine oP (.ref 1 (List.length xs) 0 (List.length xs)) p_move ?_
  refine oP (.ptr 0 0) p_move ?_
  refine oP (.ref 1 (List.length xs) 0 (List.length xs)) p_move ?_
  refine oP (.d (.int .i64 ((List.length xs) : Int))) (k_lenRef (enc := e_i64) (sz := 1) (fro := false) 1 xs (hu := Try.underlying22)) ?_
  refine bCall (caps := []) (v := (uc fun (r121 : Int) => (fun (x31 : Int) => (.d (.int .i64 r121) : V)))) (H' := (uc fun (r121 : Int) => (fun (x31 : Int) => ([.box [.d (.lit (List.map e_i64 x)), .d (.int .i64 x31)], .sl 1 (List.map e_i64 xs) false] : List Blk)))) [0] _ (make_Tape_Next_goes k ((List.length xs) : Int) x x1) (ho := rfl) (hfn := Try.func39) (hb := rfl) (hconv := ConvRs.refl _ _) (hnd := by decide) (hBl := fun _ => (by kernel_rfl)) (hv := fun _ => (by kernel_rfl)) (hH' := fun _ => (by kernel_rfl)) (h := fun r => ?_)
  obtain ⟨r121, x31⟩ := r
  refine bUc ?_
  refine bIdx (fun e11 h12 h13 => ?_)
  refine oP (.eptr 1 (List.length xs) (Int.toNat r121) 0) (k_idxRef (enc := e_i64) (fro := false) xs (a := e11) (k := .i64) (i := r121) (hu := Try.underlying22) (hi := ty3) (h0 := h12) (he := h13)) ?_
  refine oQ (.d (.int .i64 e11)) (k_loadE (enc := e_i64) (sz := 1) (fro := false) 1 0 xs (hu := Try.underlying3) (he := h13)) ?_
  refine oP (.d (.int .i64 e11)) p_assign ?_
  refine oEnd ?_
  exact oRet (r0 := (e11, x31)) (rv := .d (.int .i64 e11)) (B := [.box [.d (.lit (List.map e_i64 x)), .d (.int .i64 x31)], .sl 1 (List.map e_i64 xs) false]) (vs := [.d (.int .i64 e11)]) (σ := [0, 1]) (hf := Try.func43) (hrs := rfl) (hres := .cons _ _ _ _ (.tmp 4 _ (by kernel_rfl)) .nil) (hnd := by decide)

end Go.VM
