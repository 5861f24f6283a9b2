/- Plain functions that answer as the program's functions do, and the proof that they do. -/
import Derived.Test.YtdpoilkjdfnadaaProg
import Derived.KernelRfl
import Derived.Test.YtdpoilkjdfnadaaEngDeepCM
import Derived.Test.YtdpoilkjdfnadaaVaFacts
import Derived.Test.YtdpoilkjdfnadaaVaFuns0
import Derived.Test.YtdpoilkjdfnadaaVaFuns1
import Derived.Test.YtdpoilkjdfnadaaVaFuns2
import Derived.Test.YtdpoilkjdfnadaaVaFuns3
namespace Go.VM
open Go.Proofs
set_option linter.unusedVariables false
set_option linter.unusedSimpArgs false
set_option maxRecDepth 100000
/-- awardingbody/scheme.Maximum -/
def scheme_Maximum (k : Nat) (p0 : Int) (p1 : Int) (p2 : (List SPart)) (s0 : (List (List Int))) (s1 : (List Int)) : Option (Int × Int) := Option.bind (scheme_Valid k p0 p1 p2 s0 s1) (fun r14 => bif (!r14) then some (0, 1) else Option.bind (scheme_sum_2 k p0 p1 p2 s0 s1 p0 p1 p2) (fun r121 => some (r121, 0)))
def scheme_Maximum_E (p0 : Int) (p1 : Int) (p2 : (List SPart)) (s0 : (List (List Int))) (s1 : (List Int)) : Int × Int → V × List Blk := uc fun r11 => fun r13 => (.tuple [.d (.int .i64 r11), .d (.int .i64 r13)], [])
theorem scheme_Maximum_goes (k : Nat) (p0 : Int) (p1 : Int) (p2 : (List SPart)) (s0 : (List (List Int))) (s1 : (List Int)) : RunsO Try.prog 23 [.agg [.d (.int .i64 p0), .d (.int .i64 p1), .d (.lit (List.map e_SPart p2))], .agg [.d (.lit (List.map e_Li64 s0)), .d (.lit (List.map e_i64 s1))]] [] (scheme_Maximum_E p0 p1 p2 s0 s1) (scheme_Maximum k p0 p1 p2 s0 s1) := by
  refine RunsO.of_goes (N := 14) (m := 0) (T := [(0, .agg [.d (.int .i64 p0), .d (.int .i64 p1), .d (.lit (List.map e_SPart p2))]), (1, .agg [.d (.lit (List.map e_Li64 s0)), .d (.lit (List.map e_i64 s1))])]) Try.func23 rfl rfl (h := ?_)
  unfold scheme_Maximum
  refine bStart ?_
  refine oSR rfl ?_
  refine oD (.ptr 0 0) (k_box (H' := [.box [.d (.int .i64 p0), .d (.int .i64 p1), .d (.lit (List.map e_SPart p2))]]) (cells := [.d (.int .i64 p0), .d (.int .i64 p1), .d (.lit (List.map e_SPart p2))])) ?_
  refine oD (.ptr 1 0) (k_box (H' := [.box [.d (.int .i64 p0), .d (.int .i64 p1), .d (.lit (List.map e_SPart p2))], .box [.d (.lit (List.map e_Li64 s0)), .d (.lit (List.map e_i64 s1))]]) (cells := [.d (.lit (List.map e_Li64 s0)), .d (.lit (List.map e_i64 s1))])) ?_
  refine oP (.d (.int .i64 0)) p_assign ?_
  refine oP (.d (.int .i64 0)) p_assign ?_
  refine oEnd ?_
  refine oSeq ?_
  refine oSR rfl ?_
  refine oQ (.agg [.d (.int .i64 p0), .d (.int .i64 p1), .d (.lit (List.map e_SPart p2))]) (k_loadAgg 0 0 (hu := Try.underlying27) (hi := ty27)) ?_
  refine oQ (.agg [.d (.lit (List.map e_Li64 s0)), .d (.lit (List.map e_i64 s1))]) (k_loadAgg 1 0 (hu := Try.underlying31) (hi := ty31)) ?_
  refine bCall (caps := []) (v := (fun (r14 : Bool) => (.d (.bool r14) : V))) (H' := (fun (r14 : Bool) => ([.box [.d (.int .i64 p0), .d (.int .i64 p1), .d (.lit (List.map e_SPart p2))], .box [.d (.lit (List.map e_Li64 s0)), .d (.lit (List.map e_i64 s1))]] : List Blk))) [] _ (scheme_Valid_goes k p0 p1 p2 s0 s1) (ho := rfl) (hfn := Try.func30) (hb := rfl) (hconv := ConvRs.refl _ _) (hnd := by decide) (hBl := fun _ => (by kernel_rfl)) (hv := fun _ => (by kernel_rfl)) (hH' := fun _ => (by kernel_rfl)) (h := fun r14 => ?_)
  refine oP (.d (.bool (!r14))) (p_not (p := r14)) ?_
  refine oEnd ?_
  refine bSplit 9 (h1 := fun hc => ?_) (h2 := fun hc => ?_)
  ·refine oCondT (h := ?_)
   refine oSR rfl ?_
   refine oP (.d (.int .i64 0)) p_assign ?_
   refine oP (.d (.int .i64 1)) p_assign ?_
   refine oEnd ?_
   exact oRet (r0 := (0, 1)) (rv := .tuple [.d (.int .i64 0), .d (.int .i64 1)]) (B := []) (vs := [.d (.int .i64 0), .d (.int .i64 1)]) (σ := []) (hf := Try.func23) (hrs := rfl) (hres := .cons _ _ _ _ (.tmp 4 _ (by kernel_rfl)) (.cons _ _ _ _ (.tmp 5 _ (by kernel_rfl)) .nil)) (hnd := by decide)
  ·refine oCondF (h := ?_)
   refine oSkip ?_
   refine oSR rfl ?_
   refine oQ (.agg [.d (.int .i64 p0), .d (.int .i64 p1), .d (.lit (List.map e_SPart p2))]) (k_loadAgg 0 0 (hu := Try.underlying27) (hi := ty27)) ?_
   refine oQ (.agg [.d (.lit (List.map e_Li64 s0)), .d (.lit (List.map e_i64 s1))]) (k_loadAgg 1 0 (hu := Try.underlying31) (hi := ty31)) ?_
   refine oP (.fn 47 [.ptr 0 0]) p_makeFunc ?_
   refine bCall (caps := []) (v := (fun (r121 : Int) => (.d (.int .i64 r121) : V))) (H' := (fun (r121 : Int) => ([.box [.d (.int .i64 p0), .d (.int .i64 p1), .d (.lit (List.map e_SPart p2))], .box [.d (.lit (List.map e_Li64 s0)), .d (.lit (List.map e_i64 s1))]] : List Blk))) [0] _ (scheme_sum_2_goes k p0 p1 p2 s0 s1 p0 p1 p2) (ho := rfl) (hfn := Try.func45) (hb := rfl) (hconv := ConvRs.refl _ _) (hnd := by decide) (hBl := fun _ => (by kernel_rfl)) (hv := fun _ => (by kernel_rfl)) (hH' := fun _ => (by kernel_rfl)) (h := fun r121 => ?_)
   refine oP (.d (.int .i64 r121)) p_assign ?_
   refine oP (.d (.int .i64 0)) p_assign ?_
   refine oEnd ?_
   exact oRet (r0 := (r121, 0)) (rv := .tuple [.d (.int .i64 r121), .d (.int .i64 0)]) (B := []) (vs := [.d (.int .i64 r121), .d (.int .i64 0)]) (σ := []) (hf := Try.func23) (hrs := rfl) (hres := .cons _ _ _ _ (.tmp 4 _ (by kernel_rfl)) (.cons _ _ _ _ (.tmp 5 _ (by kernel_rfl)) .nil)) (hnd := by decide)

/-- awardingbody/awardingbodyref06.Ints -/
def ref06_Ints_b1 (k : Nat) (a : (List Int)) (b : (List Int)) (again : Int → Option ((Unit) ⊕ (Bool))) : Int → Option ((Unit) ⊕ (Bool)) := fun i4 => bif (decide (i4 < ((List.length a) : Int))) then gidx a i4 fun e1 => gidx b i4 fun e11 => bif (e1 != e11) then some (Sum.inr false) else again (IntKind.wrap .i64 (i4 + 1)) else some (Sum.inl ())
def ref06_Ints (k : Nat) (a : (List Int)) (b : (List Int)) : Option (Bool) := bif (((List.length a) : Int) != ((List.length b) : Int)) then some false else Option.bind (gloop (ref06_Ints_b1 k a b) k 0 : Option ((Unit) ⊕ (Bool))) (Sum.elim (u0 (some true)) (fun r => some r))
def ref06_Ints_E (a : (List Int)) (b : (List Int)) : Bool → V × List Blk := fun r1 => (.d (.bool r1), [])
theorem ref06_Ints_goes (k : Nat) (a : (List Int)) (b : (List Int)) : RunsO Try.prog 18 [.d (.lit (List.map e_i64 a)), .d (.lit (List.map e_i64 b))] [] (ref06_Ints_E a b) (ref06_Ints k a b) := by
  refine RunsO.of_goes (N := 26) (m := 0) (T := [(0, .d (.lit (List.map e_i64 a))), (1, .d (.lit (List.map e_i64 b)))]) Try.func18 rfl rfl (h := ?_)
  unfold ref06_Ints
  refine bStart ?_
  refine oSR rfl ?_
  refine oP (.d (.bool false)) p_assign ?_
  refine oEnd ?_
  refine oSeq ?_
  refine oSR rfl ?_
  refine oP (.d (.lit (List.map e_i64 a))) p_move ?_
  refine oP (.d (.int .i64 ((List.length a) : Int))) (k_lenLit (enc := e_i64) a (hu := Try.underlying22)) ?_
  refine oP (.d (.lit (List.map e_i64 b))) p_move ?_
  refine oP (.d (.int .i64 ((List.length b) : Int))) (k_lenLit (enc := e_i64) b (hu := Try.underlying22)) ?_
  refine oP (.d (.bool (((List.length a) : Int) != ((List.length b) : Int)))) (p_int (k := .i64) (p := ((List.length a) : Int)) (q := ((List.length b) : Int))) ?_
  refine oEnd ?_
  refine bSplit 10 (h1 := fun hc => ?_) (h2 := fun hc => ?_)
  ·refine oCondT (h := ?_)
   refine oSR rfl ?_
   refine oP (.d (.bool false)) p_assign ?_
   refine oEnd ?_
   exact oRet (r0 := false) (rv := .d (.bool false)) (B := []) (vs := [.d (.bool false)]) (σ := []) (hf := Try.func18) (hrs := rfl) (hres := .cons _ _ _ _ (.tmp 4 _ (by kernel_rfl)) .nil) (hnd := by decide)
  ·refine oCondF (h := ?_)
   refine oSkip ?_
   refine oSeq ?_
   refine oSR rfl ?_
   refine oP (.d (.int .i64 0)) p_assign ?_
   refine oEnd ?_
   refine bJoin ((u0 ([]))) ((u0 ([]))) Sum.inl (fun s => ?_) (fun hj2 => ?_)
   ·cases s
    refine bInl ?_
    refine bU0 ?_
    refine oView (T' := []) (H' := []) (h := ?_)
    refine oSR rfl ?_
    refine oP (.d (.bool true)) p_assign ?_
    refine oEnd ?_
    exact oRet (r0 := true) (rv := .d (.bool true)) (B := []) (vs := [.d (.bool true)]) (σ := []) (hf := Try.func18) (hrs := rfl) (hres := .cons _ _ _ _ (.tmp 4 _ (by kernel_rfl)) .nil) (hnd := by decide)
   ·refine oBlock ?_
    refine oLoop ?_
    refine oHead [0, 1, 5] [] (T' := [(0, .d (.lit (List.map e_i64 a))), (1, .d (.lit (List.map e_i64 b))), (5, .d (.int .i64 0))]) (H' := []) (hnd := by decide) (h := ?_)
    refine bLoop (body := ref06_Ints_b1 k a b) ((fun (i4 : Int) => [(0, .d (.lit (List.map e_i64 a))), (1, .d (.lit (List.map e_i64 b))), (5, .d (.int .i64 i4))])) ((fun (i4 : Int) => [])) (fun again hag1 i4 => ?_) k 0
    ·unfold ref06_Ints_b1
     refine oView (T' := [(0, .d (.lit (List.map e_i64 a))), (1, .d (.lit (List.map e_i64 b))), (5, .d (.int .i64 i4))]) (H' := []) (h := ?_)
     refine oSeq ?_
     refine oSR rfl ?_
     refine oP (.d (.int .i64 i4)) p_move ?_
     refine oP (.d (.lit (List.map e_i64 a))) p_move ?_
     refine oP (.d (.int .i64 ((List.length a) : Int))) (k_lenLit (enc := e_i64) a (hu := Try.underlying22)) ?_
     refine oP (.d (.bool (decide (i4 < ((List.length a) : Int))))) (p_int (k := .i64) (p := i4) (q := ((List.length a) : Int))) ?_
     refine oEnd ?_
     refine bSplit 14 (h1 := fun hc => ?_) (h2 := fun hc => ?_)
     ·refine oCondT (h := ?_)
      refine oSkip ?_
      refine oSeq ?_
      refine oBlock ?_
      refine oSeq ?_
      refine oDraw [] rfl ?_
      refine aP 0 (.d (.lit (List.map e_i64 a))) rfl p_move ?_
      refine aP 1 (.d (.int .i64 i4)) rfl p_move ?_
      refine dIdx (fun e1 h1 h11 => ?_)
      refine aP 2 (.lptr (e_i64 e1) 0) rfl (k_idxLit e_i64_len a (a := e1) (k := .i64) (i := i4) (hu := Try.underlying22) (hi := ty3) (h0 := h1) (he := h11)) ?_
      refine aQ 3 [] (.d (.int .i64 e1)) rfl (k_loadL (cells := e_i64 e1) 0 (hu := Try.underlying3)) ?_
      refine aP 4 (.d (.lit (List.map e_i64 b))) rfl p_move ?_
      refine aP 5 (.d (.int .i64 i4)) rfl p_move ?_
      refine dIdx (fun e11 h12 h13 => ?_)
      refine aP 6 (.lptr (e_i64 e11) 0) rfl (k_idxLit e_i64_len b (a := e11) (k := .i64) (i := i4) (hu := Try.underlying22) (hi := ty3) (h0 := h12) (he := h13)) ?_
      refine aQ 7 [] (.d (.int .i64 e11)) rfl (k_loadL (cells := e_i64 e11) 0 (hu := Try.underlying3)) ?_
      refine aP 8 (.d (.bool (e1 != e11))) rfl (p_int (k := .i64) (p := e1) (q := e11)) ?_
      refine aDone (h := ?_)
      refine bSplit 25 (h1 := fun hc => ?_) (h2 := fun hc => ?_)
      ·refine oCondT (h := ?_)
       refine oSR rfl ?_
       refine oP (.d (.bool false)) p_assign ?_
       refine oEnd ?_
       exact oRet (r0 := false) (rv := .d (.bool false)) (B := []) (vs := [.d (.bool false)]) (σ := []) (hf := Try.func18) (hrs := rfl) (hres := .cons _ _ _ _ (.tmp 4 _ (by kernel_rfl)) .nil) (hnd := by decide)
      ·refine oCondF (h := ?_)
       refine oSkip ?_
       refine oBlk ?_
       refine oRegion rfl ?_
       refine oP (.d (.int .i64 i4)) p_move ?_
       refine oP (.d (.int .i64 (IntKind.wrap .i64 (i4 + 1)))) (p_int (k := .i64) (p := i4) (q := 1)) ?_
       refine oP (.d (.int .i64 (IntKind.wrap .i64 (i4 + 1)))) p_assign ?_
       refine oEnd ?_
       refine oAgain ?_
       refine oHead [0, 1, 5] [] (T' := [(0, .d (.lit (List.map e_i64 a))), (1, .d (.lit (List.map e_i64 b))), (5, .d (.int .i64 (IntKind.wrap .i64 (i4 + 1))))]) (H' := []) (hnd := by decide) (h := ?_)
       exact hag1 (IntKind.wrap .i64 (i4 + 1))
     ·refine oCondF (h := ?_)
      refine oExit rfl ?_
      refine oHead [] [] (T' := []) (H' := []) (hnd := by decide) (h := ?_)
      exact hj2 ()

/-- awardingbody/awardingbodylaw23.awake -/
def law23_awake (k : Nat) : Option (Bool) := Option.bind (scheme_Closed k 0 0 ([(⟨1, 4, 0, 0, 0, 0⟩ : SPart), (⟨2, 1, 0, 0, 4, 2⟩ : SPart)] : List SPart) ([[], []] : List (List Int)) ([0, 0] : List Int) ([(-1), 2] : List Int)) (uc fun r133 => fun r142 => Option.bind (scheme_Total k 0 0 ([(⟨1, 4, 0, 0, 0, 0⟩ : SPart), (⟨2, 1, 0, 0, 4, 2⟩ : SPart)] : List SPart) ([[], []] : List (List Int)) ([0, 0] : List Int) ([3, 1] : List Int)) (uc fun r134 => fun r143 => Option.bind (scheme_Withdraw k 0 0 ([(⟨1, 4, 0, 0, 0, 0⟩ : SPart), (⟨2, 1, 0, 0, 4, 2⟩ : SPart)] : List SPart) ([[], []] : List (List Int)) ([0, 0] : List Int) 1 2) (uc fun r1101 => uc fun r1111 => fun r1121 => Option.bind (scheme_Maximum k 0 0 ([(⟨1, 4, 0, 0, 0, 0⟩ : SPart), (⟨2, 1, 0, 0, 4, 2⟩ : SPart)] : List SPart) r1101 r1111) (uc fun r113 => fun r135 => Option.bind (bif (r142 == 0) then Option.bind (ref06_Ints k r133 ([(-2), 1] : List Int)) (fun r16 => some r16) else some false : Option (Bool)) (fun x6 => blet (x6 && (r143 == 0)) fun x7 => blet (x7 && (r134 == 4)) fun x8 => blet (x8 && (r1121 == 0)) fun x9 => blet (x9 && (r135 == 0)) fun x10 => blet (x10 && (r113 == 4)) fun x11 => some x11)))))
def law23_awake_E : Bool → V × List Blk := fun r12 => (.d (.bool r12), [])
theorem law23_awake_goes (k : Nat) : RunsO Try.prog 19 [] [] (law23_awake_E) (law23_awake k) := by
  refine RunsO.of_goes (N := 71) (m := 0) (T := []) Try.func19 rfl rfl (h := ?_)
  unfold law23_awake
  refine bStart ?_
  refine oSR rfl ?_
  refine oP (.d (.bool false)) p_assign ?_
  refine oEnd ?_
  refine oSR rfl ?_
  refine oP (.agg [.d (.int .i64 1), .d (.int .i64 4), .d (.int .i64 0), .d (.int .i64 0), .d (.int .i64 0), .d (.int .i64 0)]) (p_build bld49) ?_
  refine oP (.agg [.d (.int .i64 2), .d (.int .i64 1), .d (.int .i64 0), .d (.int .i64 0), .d (.int .i64 4), .d (.int .i64 2)]) (p_build bld49) ?_
  refine oD (.ref 0 (List.length ([(⟨1, 4, 0, 0, 0, 0⟩ : SPart), (⟨2, 1, 0, 0, 4, 2⟩ : SPart)] : List SPart)) 0 (List.length ([(⟨1, 4, 0, 0, 0, 0⟩ : SPart), (⟨2, 1, 0, 0, 4, 2⟩ : SPart)] : List SPart))) (k_buildSlice (H' := [.sl 6 (List.map e_SPart ([(⟨1, 4, 0, 0, 0, 0⟩ : SPart), (⟨2, 1, 0, 0, 4, 2⟩ : SPart)] : List SPart)) false]) (List.map e_SPart ([(⟨1, 4, 0, 0, 0, 0⟩ : SPart), (⟨2, 1, 0, 0, 4, 2⟩ : SPart)] : List SPart)) Try.underlying25 ty49) ?_
  refine oP (.agg [.d (.int .i64 0), .d (.int .i64 0), .ref 0 (List.length ([(⟨1, 4, 0, 0, 0, 0⟩ : SPart), (⟨2, 1, 0, 0, 4, 2⟩ : SPart)] : List SPart)) 0 (List.length ([(⟨1, 4, 0, 0, 0, 0⟩ : SPart), (⟨2, 1, 0, 0, 4, 2⟩ : SPart)] : List SPart))]) (p_build bld27) ?_
  refine oD (.ptr 1 0) (k_alloc (H' := [.sl 6 (List.map e_SPart ([(⟨1, 4, 0, 0, 0, 0⟩ : SPart), (⟨2, 1, 0, 0, 4, 2⟩ : SPart)] : List SPart)) false, .box [.d (.int .i64 0), .d (.int .i64 0), .nilc]]) ty27) ?_
  refine oD (.undef) (k_store (vs := [.d (.int .i64 0), .d (.int .i64 0), .ref 0 (List.length ([(⟨1, 4, 0, 0, 0, 0⟩ : SPart), (⟨2, 1, 0, 0, 4, 2⟩ : SPart)] : List SPart)) 0 (List.length ([(⟨1, 4, 0, 0, 0, 0⟩ : SPart), (⟨2, 1, 0, 0, 4, 2⟩ : SPart)] : List SPart))]) (H' := [.sl 6 (List.map e_SPart ([(⟨1, 4, 0, 0, 0, 0⟩ : SPart), (⟨2, 1, 0, 0, 4, 2⟩ : SPart)] : List SPart)) false, .box [.d (.int .i64 0), .d (.int .i64 0), .ref 0 (List.length ([(⟨1, 4, 0, 0, 0, 0⟩ : SPart), (⟨2, 1, 0, 0, 4, 2⟩ : SPart)] : List SPart)) 0 (List.length ([(⟨1, 4, 0, 0, 0, 0⟩ : SPart), (⟨2, 1, 0, 0, 4, 2⟩ : SPart)] : List SPart))]]) 1 0 (hi := ty27)) ?_
  refine oEnd ?_
  refine oSR rfl ?_
  refine oD (.ref 2 (List.length ([[], []] : List (List Int))) 0 (List.length ([[], []] : List (List Int)))) (k_buildSlice (H' := [.sl 6 (List.map e_SPart ([(⟨1, 4, 0, 0, 0, 0⟩ : SPart), (⟨2, 1, 0, 0, 4, 2⟩ : SPart)] : List SPart)) false, .box [.d (.int .i64 0), .d (.int .i64 0), .ref 0 (List.length ([(⟨1, 4, 0, 0, 0, 0⟩ : SPart), (⟨2, 1, 0, 0, 4, 2⟩ : SPart)] : List SPart)) 0 (List.length ([(⟨1, 4, 0, 0, 0, 0⟩ : SPart), (⟨2, 1, 0, 0, 4, 2⟩ : SPart)] : List SPart))], .sl 1 (List.map e_Li64 ([[], []] : List (List Int))) false]) (List.map e_Li64 ([[], []] : List (List Int))) Try.underlying29 ty22) ?_
  refine oD (.ref 3 (List.length ([0, 0] : List Int)) 0 (List.length ([0, 0] : List Int))) (k_buildSlice (H' := [.sl 6 (List.map e_SPart ([(⟨1, 4, 0, 0, 0, 0⟩ : SPart), (⟨2, 1, 0, 0, 4, 2⟩ : SPart)] : List SPart)) false, .box [.d (.int .i64 0), .d (.int .i64 0), .ref 0 (List.length ([(⟨1, 4, 0, 0, 0, 0⟩ : SPart), (⟨2, 1, 0, 0, 4, 2⟩ : SPart)] : List SPart)) 0 (List.length ([(⟨1, 4, 0, 0, 0, 0⟩ : SPart), (⟨2, 1, 0, 0, 4, 2⟩ : SPart)] : List SPart))], .sl 1 (List.map e_Li64 ([[], []] : List (List Int))) false, .sl 1 (List.map e_i64 ([0, 0] : List Int)) false]) (List.map e_i64 ([0, 0] : List Int)) Try.underlying22 ty3) ?_
  refine oP (.agg [.ref 2 (List.length ([[], []] : List (List Int))) 0 (List.length ([[], []] : List (List Int))), .ref 3 (List.length ([0, 0] : List Int)) 0 (List.length ([0, 0] : List Int))]) (p_build bld31) ?_
  refine oD (.ptr 4 0) (k_alloc (H' := [.sl 6 (List.map e_SPart ([(⟨1, 4, 0, 0, 0, 0⟩ : SPart), (⟨2, 1, 0, 0, 4, 2⟩ : SPart)] : List SPart)) false, .box [.d (.int .i64 0), .d (.int .i64 0), .ref 0 (List.length ([(⟨1, 4, 0, 0, 0, 0⟩ : SPart), (⟨2, 1, 0, 0, 4, 2⟩ : SPart)] : List SPart)) 0 (List.length ([(⟨1, 4, 0, 0, 0, 0⟩ : SPart), (⟨2, 1, 0, 0, 4, 2⟩ : SPart)] : List SPart))], .sl 1 (List.map e_Li64 ([[], []] : List (List Int))) false, .sl 1 (List.map e_i64 ([0, 0] : List Int)) false, .box [.nilc, .nilc]]) ty31) ?_
  refine oD (.undef) (k_store (vs := [.ref 2 (List.length ([[], []] : List (List Int))) 0 (List.length ([[], []] : List (List Int))), .ref 3 (List.length ([0, 0] : List Int)) 0 (List.length ([0, 0] : List Int))]) (H' := [.sl 6 (List.map e_SPart ([(⟨1, 4, 0, 0, 0, 0⟩ : SPart), (⟨2, 1, 0, 0, 4, 2⟩ : SPart)] : List SPart)) false, .box [.d (.int .i64 0), .d (.int .i64 0), .ref 0 (List.length ([(⟨1, 4, 0, 0, 0, 0⟩ : SPart), (⟨2, 1, 0, 0, 4, 2⟩ : SPart)] : List SPart)) 0 (List.length ([(⟨1, 4, 0, 0, 0, 0⟩ : SPart), (⟨2, 1, 0, 0, 4, 2⟩ : SPart)] : List SPart))], .sl 1 (List.map e_Li64 ([[], []] : List (List Int))) false, .sl 1 (List.map e_i64 ([0, 0] : List Int)) false, .box [.ref 2 (List.length ([[], []] : List (List Int))) 0 (List.length ([[], []] : List (List Int))), .ref 3 (List.length ([0, 0] : List Int)) 0 (List.length ([0, 0] : List Int))]]) 4 0 (hi := ty31)) ?_
  refine oEnd ?_
  refine oSR rfl ?_
  refine oQ (.agg [.d (.int .i64 0), .d (.int .i64 0), .ref 0 (List.length ([(⟨1, 4, 0, 0, 0, 0⟩ : SPart), (⟨2, 1, 0, 0, 4, 2⟩ : SPart)] : List SPart)) 0 (List.length ([(⟨1, 4, 0, 0, 0, 0⟩ : SPart), (⟨2, 1, 0, 0, 4, 2⟩ : SPart)] : List SPart))]) (k_loadAgg 1 0 (hu := Try.underlying27) (hi := ty27)) ?_
  refine oQ (.agg [.ref 2 (List.length ([[], []] : List (List Int))) 0 (List.length ([[], []] : List (List Int))), .ref 3 (List.length ([0, 0] : List Int)) 0 (List.length ([0, 0] : List Int))]) (k_loadAgg 4 0 (hu := Try.underlying31) (hi := ty31)) ?_
  refine oD (.ref 5 (List.length ([(-1), 2] : List Int)) 0 (List.length ([(-1), 2] : List Int))) (k_buildSlice (H' := [.sl 6 (List.map e_SPart ([(⟨1, 4, 0, 0, 0, 0⟩ : SPart), (⟨2, 1, 0, 0, 4, 2⟩ : SPart)] : List SPart)) false, .box [.d (.int .i64 0), .d (.int .i64 0), .ref 0 (List.length ([(⟨1, 4, 0, 0, 0, 0⟩ : SPart), (⟨2, 1, 0, 0, 4, 2⟩ : SPart)] : List SPart)) 0 (List.length ([(⟨1, 4, 0, 0, 0, 0⟩ : SPart), (⟨2, 1, 0, 0, 4, 2⟩ : SPart)] : List SPart))], .sl 1 (List.map e_Li64 ([[], []] : List (List Int))) false, .sl 1 (List.map e_i64 ([0, 0] : List Int)) false, .box [.ref 2 (List.length ([[], []] : List (List Int))) 0 (List.length ([[], []] : List (List Int))), .ref 3 (List.length ([0, 0] : List Int)) 0 (List.length ([0, 0] : List Int))], .sl 1 (List.map e_i64 ([(-1), 2] : List Int)) false]) (List.map e_i64 ([(-1), 2] : List Int)) Try.underlying22 ty3) ?_
  refine oFreeze 0 (esz := 6) (xs := List.map e_SPart ([(⟨1, 4, 0, 0, 0, 0⟩ : SPart), (⟨2, 1, 0, 0, 4, 2⟩ : SPart)] : List SPart)) (h := ?_)
  refine oView (H' := [.sl 6 (List.map e_SPart ([(⟨1, 4, 0, 0, 0, 0⟩ : SPart), (⟨2, 1, 0, 0, 4, 2⟩ : SPart)] : List SPart)) true, .box [.d (.int .i64 0), .d (.int .i64 0), .ref 0 (List.length ([(⟨1, 4, 0, 0, 0, 0⟩ : SPart), (⟨2, 1, 0, 0, 4, 2⟩ : SPart)] : List SPart)) 0 (List.length ([(⟨1, 4, 0, 0, 0, 0⟩ : SPart), (⟨2, 1, 0, 0, 4, 2⟩ : SPart)] : List SPart))], .sl 1 (List.map e_Li64 ([[], []] : List (List Int))) false, .sl 1 (List.map e_i64 ([0, 0] : List Int)) false, .box [.ref 2 (List.length ([[], []] : List (List Int))) 0 (List.length ([[], []] : List (List Int))), .ref 3 (List.length ([0, 0] : List Int)) 0 (List.length ([0, 0] : List Int))], .sl 1 (List.map e_i64 ([(-1), 2] : List Int)) false]) rfl (h := ?_)
  refine oFreeze 2 (esz := 1) (xs := List.map e_Li64 ([[], []] : List (List Int))) (h := ?_)
  refine oView (H' := [.sl 6 (List.map e_SPart ([(⟨1, 4, 0, 0, 0, 0⟩ : SPart), (⟨2, 1, 0, 0, 4, 2⟩ : SPart)] : List SPart)) true, .box [.d (.int .i64 0), .d (.int .i64 0), .ref 0 (List.length ([(⟨1, 4, 0, 0, 0, 0⟩ : SPart), (⟨2, 1, 0, 0, 4, 2⟩ : SPart)] : List SPart)) 0 (List.length ([(⟨1, 4, 0, 0, 0, 0⟩ : SPart), (⟨2, 1, 0, 0, 4, 2⟩ : SPart)] : List SPart))], .sl 1 (List.map e_Li64 ([[], []] : List (List Int))) true, .sl 1 (List.map e_i64 ([0, 0] : List Int)) false, .box [.ref 2 (List.length ([[], []] : List (List Int))) 0 (List.length ([[], []] : List (List Int))), .ref 3 (List.length ([0, 0] : List Int)) 0 (List.length ([0, 0] : List Int))], .sl 1 (List.map e_i64 ([(-1), 2] : List Int)) false]) rfl (h := ?_)
  refine oFreeze 3 (esz := 1) (xs := List.map e_i64 ([0, 0] : List Int)) (h := ?_)
  refine oView (H' := [.sl 6 (List.map e_SPart ([(⟨1, 4, 0, 0, 0, 0⟩ : SPart), (⟨2, 1, 0, 0, 4, 2⟩ : SPart)] : List SPart)) true, .box [.d (.int .i64 0), .d (.int .i64 0), .ref 0 (List.length ([(⟨1, 4, 0, 0, 0, 0⟩ : SPart), (⟨2, 1, 0, 0, 4, 2⟩ : SPart)] : List SPart)) 0 (List.length ([(⟨1, 4, 0, 0, 0, 0⟩ : SPart), (⟨2, 1, 0, 0, 4, 2⟩ : SPart)] : List SPart))], .sl 1 (List.map e_Li64 ([[], []] : List (List Int))) true, .sl 1 (List.map e_i64 ([0, 0] : List Int)) true, .box [.ref 2 (List.length ([[], []] : List (List Int))) 0 (List.length ([[], []] : List (List Int))), .ref 3 (List.length ([0, 0] : List Int)) 0 (List.length ([0, 0] : List Int))], .sl 1 (List.map e_i64 ([(-1), 2] : List Int)) false]) rfl (h := ?_)
  refine oFreeze 5 (esz := 1) (xs := List.map e_i64 ([(-1), 2] : List Int)) (h := ?_)
  refine oView (H' := [.sl 6 (List.map e_SPart ([(⟨1, 4, 0, 0, 0, 0⟩ : SPart), (⟨2, 1, 0, 0, 4, 2⟩ : SPart)] : List SPart)) true, .box [.d (.int .i64 0), .d (.int .i64 0), .ref 0 (List.length ([(⟨1, 4, 0, 0, 0, 0⟩ : SPart), (⟨2, 1, 0, 0, 4, 2⟩ : SPart)] : List SPart)) 0 (List.length ([(⟨1, 4, 0, 0, 0, 0⟩ : SPart), (⟨2, 1, 0, 0, 4, 2⟩ : SPart)] : List SPart))], .sl 1 (List.map e_Li64 ([[], []] : List (List Int))) true, .sl 1 (List.map e_i64 ([0, 0] : List Int)) true, .box [.ref 2 (List.length ([[], []] : List (List Int))) 0 (List.length ([[], []] : List (List Int))), .ref 3 (List.length ([0, 0] : List Int)) 0 (List.length ([0, 0] : List Int))], .sl 1 (List.map e_i64 ([(-1), 2] : List Int)) true]) rfl (h := ?_)
  refine bCall (caps := []) (v := (uc fun (r133 : (List Int)) => (fun (r142 : Int) => (.tuple [.d (.lit (List.map e_i64 r133)), .d (.int .i64 r142)] : V)))) (H' := (uc fun (r133 : (List Int)) => (fun (r142 : Int) => ([.sl 6 (List.map e_SPart ([(⟨1, 4, 0, 0, 0, 0⟩ : SPart), (⟨2, 1, 0, 0, 4, 2⟩ : SPart)] : List SPart)) true, .box [.d (.int .i64 0), .d (.int .i64 0), .ref 0 (List.length ([(⟨1, 4, 0, 0, 0, 0⟩ : SPart), (⟨2, 1, 0, 0, 4, 2⟩ : SPart)] : List SPart)) 0 (List.length ([(⟨1, 4, 0, 0, 0, 0⟩ : SPart), (⟨2, 1, 0, 0, 4, 2⟩ : SPart)] : List SPart))], .sl 1 (List.map e_Li64 ([[], []] : List (List Int))) true, .sl 1 (List.map e_i64 ([0, 0] : List Int)) true, .box [.ref 2 (List.length ([[], []] : List (List Int))) 0 (List.length ([[], []] : List (List Int))), .ref 3 (List.length ([0, 0] : List Int)) 0 (List.length ([0, 0] : List Int))], .sl 1 (List.map e_i64 ([(-1), 2] : List Int)) true] : List Blk)))) [] _ (scheme_Closed_goes k 0 0 ([(⟨1, 4, 0, 0, 0, 0⟩ : SPart), (⟨2, 1, 0, 0, 4, 2⟩ : SPart)] : List SPart) ([[], []] : List (List Int)) ([0, 0] : List Int) ([(-1), 2] : List Int)) (ho := rfl) (hfn := Try.func16) (hb := rfl) (hconv := (convList (vs0 := [.agg [.d (.int .i64 0), .d (.int .i64 0), .ref 0 (List.length ([(⟨1, 4, 0, 0, 0, 0⟩ : SPart), (⟨2, 1, 0, 0, 4, 2⟩ : SPart)] : List SPart)) 0 (List.length ([(⟨1, 4, 0, 0, 0, 0⟩ : SPart), (⟨2, 1, 0, 0, 4, 2⟩ : SPart)] : List SPart))], .agg [.ref 2 (List.length ([[], []] : List (List Int))) 0 (List.length ([[], []] : List (List Int))), .ref 3 (List.length ([0, 0] : List Int)) 0 (List.length ([0, 0] : List Int))], .ref 5 (List.length ([(-1), 2] : List Int)) 0 (List.length ([(-1), 2] : List Int))]) (vs := [.agg [.d (.int .i64 0), .d (.int .i64 0), .d (.lit (List.map e_SPart ([(⟨1, 4, 0, 0, 0, 0⟩ : SPart), (⟨2, 1, 0, 0, 4, 2⟩ : SPart)] : List SPart)))], .agg [.d (.lit (List.map e_Li64 ([[], []] : List (List Int)))), .d (.lit (List.map e_i64 ([0, 0] : List Int)))], .d (.lit (List.map e_i64 ([(-1), 2] : List Int)))]) (p := (.cons _ _ _ _ (.agg _ _ (.cons _ _ _ _ (.same _) (.cons _ _ _ _ (.same _) (.cons _ _ _ _ (k_lit (enc := e_SPart) (sz := 6) 0 ([(⟨1, 4, 0, 0, 0, 0⟩ : SPart), (⟨2, 1, 0, 0, 4, 2⟩ : SPart)] : List SPart)) .nil)))) (.cons _ _ _ _ (.agg _ _ (.cons _ _ _ _ (k_lit (enc := e_Li64) (sz := 1) 2 ([[], []] : List (List Int))) (.cons _ _ _ _ (k_lit (enc := e_i64) (sz := 1) 3 ([0, 0] : List Int)) .nil))) (.cons _ _ _ _ (k_lit (enc := e_i64) (sz := 1) 5 ([(-1), 2] : List Int)) .nil)))))) (hnd := by decide) (hBl := fun _ => (by kernel_rfl)) (hv := fun _ => (by kernel_rfl)) (hH' := fun _ => (by kernel_rfl)) (h := fun r => ?_)
  obtain ⟨r133, r142⟩ := r
  refine bUc ?_
  refine oP (.tuple [.d (.lit (List.map e_i64 r133)), .d (.int .i64 r142)]) p_move ?_
  refine oP (.d (.lit (List.map e_i64 r133))) k_extract ?_
  refine oP (.d (.int .i64 r142)) k_extract ?_
  refine oP (.d (.lit (List.map e_i64 r133))) p_assign ?_
  refine oP (.d (.int .i64 r142)) p_assign ?_
  refine oEnd ?_
  refine oSR rfl ?_
  refine oQ (.agg [.d (.int .i64 0), .d (.int .i64 0), .ref 0 (List.length ([(⟨1, 4, 0, 0, 0, 0⟩ : SPart), (⟨2, 1, 0, 0, 4, 2⟩ : SPart)] : List SPart)) 0 (List.length ([(⟨1, 4, 0, 0, 0, 0⟩ : SPart), (⟨2, 1, 0, 0, 4, 2⟩ : SPart)] : List SPart))]) (k_loadAgg 1 0 (hu := Try.underlying27) (hi := ty27)) ?_
  refine oQ (.agg [.ref 2 (List.length ([[], []] : List (List Int))) 0 (List.length ([[], []] : List (List Int))), .ref 3 (List.length ([0, 0] : List Int)) 0 (List.length ([0, 0] : List Int))]) (k_loadAgg 4 0 (hu := Try.underlying31) (hi := ty31)) ?_
  refine oD (.ref 6 (List.length ([3, 1] : List Int)) 0 (List.length ([3, 1] : List Int))) (k_buildSlice (H' := [.sl 6 (List.map e_SPart ([(⟨1, 4, 0, 0, 0, 0⟩ : SPart), (⟨2, 1, 0, 0, 4, 2⟩ : SPart)] : List SPart)) true, .box [.d (.int .i64 0), .d (.int .i64 0), .ref 0 (List.length ([(⟨1, 4, 0, 0, 0, 0⟩ : SPart), (⟨2, 1, 0, 0, 4, 2⟩ : SPart)] : List SPart)) 0 (List.length ([(⟨1, 4, 0, 0, 0, 0⟩ : SPart), (⟨2, 1, 0, 0, 4, 2⟩ : SPart)] : List SPart))], .sl 1 (List.map e_Li64 ([[], []] : List (List Int))) true, .sl 1 (List.map e_i64 ([0, 0] : List Int)) true, .box [.ref 2 (List.length ([[], []] : List (List Int))) 0 (List.length ([[], []] : List (List Int))), .ref 3 (List.length ([0, 0] : List Int)) 0 (List.length ([0, 0] : List Int))], .sl 1 (List.map e_i64 ([(-1), 2] : List Int)) true, .sl 1 (List.map e_i64 ([3, 1] : List Int)) false]) (List.map e_i64 ([3, 1] : List Int)) Try.underlying22 ty3) ?_
  refine oFreeze 6 (esz := 1) (xs := List.map e_i64 ([3, 1] : List Int)) (h := ?_)
  refine oView (H' := [.sl 6 (List.map e_SPart ([(⟨1, 4, 0, 0, 0, 0⟩ : SPart), (⟨2, 1, 0, 0, 4, 2⟩ : SPart)] : List SPart)) true, .box [.d (.int .i64 0), .d (.int .i64 0), .ref 0 (List.length ([(⟨1, 4, 0, 0, 0, 0⟩ : SPart), (⟨2, 1, 0, 0, 4, 2⟩ : SPart)] : List SPart)) 0 (List.length ([(⟨1, 4, 0, 0, 0, 0⟩ : SPart), (⟨2, 1, 0, 0, 4, 2⟩ : SPart)] : List SPart))], .sl 1 (List.map e_Li64 ([[], []] : List (List Int))) true, .sl 1 (List.map e_i64 ([0, 0] : List Int)) true, .box [.ref 2 (List.length ([[], []] : List (List Int))) 0 (List.length ([[], []] : List (List Int))), .ref 3 (List.length ([0, 0] : List Int)) 0 (List.length ([0, 0] : List Int))], .sl 1 (List.map e_i64 ([(-1), 2] : List Int)) true, .sl 1 (List.map e_i64 ([3, 1] : List Int)) true]) rfl (h := ?_)
  refine bCall (caps := []) (v := (uc fun (r134 : Int) => (fun (r143 : Int) => (.tuple [.d (.int .i64 r134), .d (.int .i64 r143)] : V)))) (H' := (uc fun (r134 : Int) => (fun (r143 : Int) => ([.sl 6 (List.map e_SPart ([(⟨1, 4, 0, 0, 0, 0⟩ : SPart), (⟨2, 1, 0, 0, 4, 2⟩ : SPart)] : List SPart)) true, .box [.d (.int .i64 0), .d (.int .i64 0), .ref 0 (List.length ([(⟨1, 4, 0, 0, 0, 0⟩ : SPart), (⟨2, 1, 0, 0, 4, 2⟩ : SPart)] : List SPart)) 0 (List.length ([(⟨1, 4, 0, 0, 0, 0⟩ : SPart), (⟨2, 1, 0, 0, 4, 2⟩ : SPart)] : List SPart))], .sl 1 (List.map e_Li64 ([[], []] : List (List Int))) true, .sl 1 (List.map e_i64 ([0, 0] : List Int)) true, .box [.ref 2 (List.length ([[], []] : List (List Int))) 0 (List.length ([[], []] : List (List Int))), .ref 3 (List.length ([0, 0] : List Int)) 0 (List.length ([0, 0] : List Int))], .sl 1 (List.map e_i64 ([(-1), 2] : List Int)) true, .sl 1 (List.map e_i64 ([3, 1] : List Int)) true] : List Blk)))) [] _ (scheme_Total_goes k 0 0 ([(⟨1, 4, 0, 0, 0, 0⟩ : SPart), (⟨2, 1, 0, 0, 4, 2⟩ : SPart)] : List SPart) ([[], []] : List (List Int)) ([0, 0] : List Int) ([3, 1] : List Int)) (ho := rfl) (hfn := Try.func21) (hb := rfl) (hconv := (convList (vs0 := [.agg [.d (.int .i64 0), .d (.int .i64 0), .ref 0 (List.length ([(⟨1, 4, 0, 0, 0, 0⟩ : SPart), (⟨2, 1, 0, 0, 4, 2⟩ : SPart)] : List SPart)) 0 (List.length ([(⟨1, 4, 0, 0, 0, 0⟩ : SPart), (⟨2, 1, 0, 0, 4, 2⟩ : SPart)] : List SPart))], .agg [.ref 2 (List.length ([[], []] : List (List Int))) 0 (List.length ([[], []] : List (List Int))), .ref 3 (List.length ([0, 0] : List Int)) 0 (List.length ([0, 0] : List Int))], .ref 6 (List.length ([3, 1] : List Int)) 0 (List.length ([3, 1] : List Int))]) (vs := [.agg [.d (.int .i64 0), .d (.int .i64 0), .d (.lit (List.map e_SPart ([(⟨1, 4, 0, 0, 0, 0⟩ : SPart), (⟨2, 1, 0, 0, 4, 2⟩ : SPart)] : List SPart)))], .agg [.d (.lit (List.map e_Li64 ([[], []] : List (List Int)))), .d (.lit (List.map e_i64 ([0, 0] : List Int)))], .d (.lit (List.map e_i64 ([3, 1] : List Int)))]) (p := (.cons _ _ _ _ (.agg _ _ (.cons _ _ _ _ (.same _) (.cons _ _ _ _ (.same _) (.cons _ _ _ _ (k_lit (enc := e_SPart) (sz := 6) 0 ([(⟨1, 4, 0, 0, 0, 0⟩ : SPart), (⟨2, 1, 0, 0, 4, 2⟩ : SPart)] : List SPart)) .nil)))) (.cons _ _ _ _ (.agg _ _ (.cons _ _ _ _ (k_lit (enc := e_Li64) (sz := 1) 2 ([[], []] : List (List Int))) (.cons _ _ _ _ (k_lit (enc := e_i64) (sz := 1) 3 ([0, 0] : List Int)) .nil))) (.cons _ _ _ _ (k_lit (enc := e_i64) (sz := 1) 6 ([3, 1] : List Int)) .nil)))))) (hnd := by decide) (hBl := fun _ => (by kernel_rfl)) (hv := fun _ => (by kernel_rfl)) (hH' := fun _ => (by kernel_rfl)) (h := fun r => ?_)
  obtain ⟨r134, r143⟩ := r
  refine bUc ?_
  refine oP (.tuple [.d (.int .i64 r134), .d (.int .i64 r143)]) p_move ?_
  refine oP (.d (.int .i64 r134)) k_extract ?_
  refine oP (.d (.int .i64 r143)) k_extract ?_
  refine oP (.d (.int .i64 r134)) p_assign ?_
  refine oP (.d (.int .i64 r143)) p_assign ?_
  refine oEnd ?_
  refine oSR rfl ?_
  refine oQ (.agg [.d (.int .i64 0), .d (.int .i64 0), .ref 0 (List.length ([(⟨1, 4, 0, 0, 0, 0⟩ : SPart), (⟨2, 1, 0, 0, 4, 2⟩ : SPart)] : List SPart)) 0 (List.length ([(⟨1, 4, 0, 0, 0, 0⟩ : SPart), (⟨2, 1, 0, 0, 4, 2⟩ : SPart)] : List SPart))]) (k_loadAgg 1 0 (hu := Try.underlying27) (hi := ty27)) ?_
  refine oQ (.agg [.ref 2 (List.length ([[], []] : List (List Int))) 0 (List.length ([[], []] : List (List Int))), .ref 3 (List.length ([0, 0] : List Int)) 0 (List.length ([0, 0] : List Int))]) (k_loadAgg 4 0 (hu := Try.underlying31) (hi := ty31)) ?_
  refine bCall (caps := []) (v := (uc fun (r1101 : (List (List Int))) => (uc fun (r1111 : (List Int)) => (fun (r1121 : Int) => (.tuple [.agg [.d (.lit (List.map e_Li64 r1101)), .d (.lit (List.map e_i64 r1111))], .d (.int .i64 r1121)] : V))))) (H' := (uc fun (r1101 : (List (List Int))) => (uc fun (r1111 : (List Int)) => (fun (r1121 : Int) => ([.sl 6 (List.map e_SPart ([(⟨1, 4, 0, 0, 0, 0⟩ : SPart), (⟨2, 1, 0, 0, 4, 2⟩ : SPart)] : List SPart)) true, .box [.d (.int .i64 0), .d (.int .i64 0), .ref 0 (List.length ([(⟨1, 4, 0, 0, 0, 0⟩ : SPart), (⟨2, 1, 0, 0, 4, 2⟩ : SPart)] : List SPart)) 0 (List.length ([(⟨1, 4, 0, 0, 0, 0⟩ : SPart), (⟨2, 1, 0, 0, 4, 2⟩ : SPart)] : List SPart))], .sl 1 (List.map e_Li64 ([[], []] : List (List Int))) true, .sl 1 (List.map e_i64 ([0, 0] : List Int)) true, .box [.ref 2 (List.length ([[], []] : List (List Int))) 0 (List.length ([[], []] : List (List Int))), .ref 3 (List.length ([0, 0] : List Int)) 0 (List.length ([0, 0] : List Int))], .sl 1 (List.map e_i64 ([(-1), 2] : List Int)) true, .sl 1 (List.map e_i64 ([3, 1] : List Int)) true] : List Blk))))) [] _ (scheme_Withdraw_goes k 0 0 ([(⟨1, 4, 0, 0, 0, 0⟩ : SPart), (⟨2, 1, 0, 0, 4, 2⟩ : SPart)] : List SPart) ([[], []] : List (List Int)) ([0, 0] : List Int) 1 2) (ho := rfl) (hfn := Try.func26) (hb := rfl) (hconv := (convList (vs0 := [.agg [.d (.int .i64 0), .d (.int .i64 0), .ref 0 (List.length ([(⟨1, 4, 0, 0, 0, 0⟩ : SPart), (⟨2, 1, 0, 0, 4, 2⟩ : SPart)] : List SPart)) 0 (List.length ([(⟨1, 4, 0, 0, 0, 0⟩ : SPart), (⟨2, 1, 0, 0, 4, 2⟩ : SPart)] : List SPart))], .agg [.ref 2 (List.length ([[], []] : List (List Int))) 0 (List.length ([[], []] : List (List Int))), .ref 3 (List.length ([0, 0] : List Int)) 0 (List.length ([0, 0] : List Int))], .d (.int .i64 1), .d (.int .i64 2)]) (vs := [.agg [.d (.int .i64 0), .d (.int .i64 0), .d (.lit (List.map e_SPart ([(⟨1, 4, 0, 0, 0, 0⟩ : SPart), (⟨2, 1, 0, 0, 4, 2⟩ : SPart)] : List SPart)))], .agg [.d (.lit (List.map e_Li64 ([[], []] : List (List Int)))), .d (.lit (List.map e_i64 ([0, 0] : List Int)))], .d (.int .i64 1), .d (.int .i64 2)]) (p := (.cons _ _ _ _ (.agg _ _ (.cons _ _ _ _ (.same _) (.cons _ _ _ _ (.same _) (.cons _ _ _ _ (k_lit (enc := e_SPart) (sz := 6) 0 ([(⟨1, 4, 0, 0, 0, 0⟩ : SPart), (⟨2, 1, 0, 0, 4, 2⟩ : SPart)] : List SPart)) .nil)))) (.cons _ _ _ _ (.agg _ _ (.cons _ _ _ _ (k_lit (enc := e_Li64) (sz := 1) 2 ([[], []] : List (List Int))) (.cons _ _ _ _ (k_lit (enc := e_i64) (sz := 1) 3 ([0, 0] : List Int)) .nil))) (.cons _ _ _ _ (.same _) (.cons _ _ _ _ (.same _) .nil))))))) (hnd := by decide) (hBl := fun _ => (by kernel_rfl)) (hv := fun _ => (by kernel_rfl)) (hH' := fun _ => (by kernel_rfl)) (h := fun r => ?_)
  obtain ⟨r1101, r1111, r1121⟩ := r
  refine bUc ?_
  refine bUc ?_
  refine oP (.tuple [.agg [.d (.lit (List.map e_Li64 r1101)), .d (.lit (List.map e_i64 r1111))], .d (.int .i64 r1121)]) p_move ?_
  refine oP (.agg [.d (.lit (List.map e_Li64 r1101)), .d (.lit (List.map e_i64 r1111))]) k_extract ?_
  refine oP (.d (.int .i64 r1121)) k_extract ?_
  refine oD (.ptr 7 0) (k_alloc (H' := [.sl 6 (List.map e_SPart ([(⟨1, 4, 0, 0, 0, 0⟩ : SPart), (⟨2, 1, 0, 0, 4, 2⟩ : SPart)] : List SPart)) true, .box [.d (.int .i64 0), .d (.int .i64 0), .ref 0 (List.length ([(⟨1, 4, 0, 0, 0, 0⟩ : SPart), (⟨2, 1, 0, 0, 4, 2⟩ : SPart)] : List SPart)) 0 (List.length ([(⟨1, 4, 0, 0, 0, 0⟩ : SPart), (⟨2, 1, 0, 0, 4, 2⟩ : SPart)] : List SPart))], .sl 1 (List.map e_Li64 ([[], []] : List (List Int))) true, .sl 1 (List.map e_i64 ([0, 0] : List Int)) true, .box [.ref 2 (List.length ([[], []] : List (List Int))) 0 (List.length ([[], []] : List (List Int))), .ref 3 (List.length ([0, 0] : List Int)) 0 (List.length ([0, 0] : List Int))], .sl 1 (List.map e_i64 ([(-1), 2] : List Int)) true, .sl 1 (List.map e_i64 ([3, 1] : List Int)) true, .box [.nilc, .nilc]]) ty31) ?_
  refine oD (.undef) (k_store (vs := [.d (.lit (List.map e_Li64 r1101)), .d (.lit (List.map e_i64 r1111))]) (H' := [.sl 6 (List.map e_SPart ([(⟨1, 4, 0, 0, 0, 0⟩ : SPart), (⟨2, 1, 0, 0, 4, 2⟩ : SPart)] : List SPart)) true, .box [.d (.int .i64 0), .d (.int .i64 0), .ref 0 (List.length ([(⟨1, 4, 0, 0, 0, 0⟩ : SPart), (⟨2, 1, 0, 0, 4, 2⟩ : SPart)] : List SPart)) 0 (List.length ([(⟨1, 4, 0, 0, 0, 0⟩ : SPart), (⟨2, 1, 0, 0, 4, 2⟩ : SPart)] : List SPart))], .sl 1 (List.map e_Li64 ([[], []] : List (List Int))) true, .sl 1 (List.map e_i64 ([0, 0] : List Int)) true, .box [.ref 2 (List.length ([[], []] : List (List Int))) 0 (List.length ([[], []] : List (List Int))), .ref 3 (List.length ([0, 0] : List Int)) 0 (List.length ([0, 0] : List Int))], .sl 1 (List.map e_i64 ([(-1), 2] : List Int)) true, .sl 1 (List.map e_i64 ([3, 1] : List Int)) true, .box [.d (.lit (List.map e_Li64 r1101)), .d (.lit (List.map e_i64 r1111))]]) 7 0 (hi := ty31)) ?_
  refine oP (.d (.int .i64 r1121)) p_assign ?_
  refine oEnd ?_
  refine oSR rfl ?_
  refine oQ (.agg [.d (.int .i64 0), .d (.int .i64 0), .ref 0 (List.length ([(⟨1, 4, 0, 0, 0, 0⟩ : SPart), (⟨2, 1, 0, 0, 4, 2⟩ : SPart)] : List SPart)) 0 (List.length ([(⟨1, 4, 0, 0, 0, 0⟩ : SPart), (⟨2, 1, 0, 0, 4, 2⟩ : SPart)] : List SPart))]) (k_loadAgg 1 0 (hu := Try.underlying27) (hi := ty27)) ?_
  refine oQ (.agg [.d (.lit (List.map e_Li64 r1101)), .d (.lit (List.map e_i64 r1111))]) (k_loadAgg 7 0 (hu := Try.underlying31) (hi := ty31)) ?_
  refine bCall (caps := []) (v := (uc fun (r113 : Int) => (fun (r135 : Int) => (.tuple [.d (.int .i64 r113), .d (.int .i64 r135)] : V)))) (H' := (uc fun (r113 : Int) => (fun (r135 : Int) => ([.sl 6 (List.map e_SPart ([(⟨1, 4, 0, 0, 0, 0⟩ : SPart), (⟨2, 1, 0, 0, 4, 2⟩ : SPart)] : List SPart)) true, .box [.d (.int .i64 0), .d (.int .i64 0), .ref 0 (List.length ([(⟨1, 4, 0, 0, 0, 0⟩ : SPart), (⟨2, 1, 0, 0, 4, 2⟩ : SPart)] : List SPart)) 0 (List.length ([(⟨1, 4, 0, 0, 0, 0⟩ : SPart), (⟨2, 1, 0, 0, 4, 2⟩ : SPart)] : List SPart))], .sl 1 (List.map e_Li64 ([[], []] : List (List Int))) true, .sl 1 (List.map e_i64 ([0, 0] : List Int)) true, .box [.ref 2 (List.length ([[], []] : List (List Int))) 0 (List.length ([[], []] : List (List Int))), .ref 3 (List.length ([0, 0] : List Int)) 0 (List.length ([0, 0] : List Int))], .sl 1 (List.map e_i64 ([(-1), 2] : List Int)) true, .sl 1 (List.map e_i64 ([3, 1] : List Int)) true, .box [.d (.lit (List.map e_Li64 r1101)), .d (.lit (List.map e_i64 r1111))]] : List Blk)))) [] _ (scheme_Maximum_goes k 0 0 ([(⟨1, 4, 0, 0, 0, 0⟩ : SPart), (⟨2, 1, 0, 0, 4, 2⟩ : SPart)] : List SPart) r1101 r1111) (ho := rfl) (hfn := Try.func23) (hb := rfl) (hconv := (convList (vs0 := [.agg [.d (.int .i64 0), .d (.int .i64 0), .ref 0 (List.length ([(⟨1, 4, 0, 0, 0, 0⟩ : SPart), (⟨2, 1, 0, 0, 4, 2⟩ : SPart)] : List SPart)) 0 (List.length ([(⟨1, 4, 0, 0, 0, 0⟩ : SPart), (⟨2, 1, 0, 0, 4, 2⟩ : SPart)] : List SPart))], .agg [.d (.lit (List.map e_Li64 r1101)), .d (.lit (List.map e_i64 r1111))]]) (vs := [.agg [.d (.int .i64 0), .d (.int .i64 0), .d (.lit (List.map e_SPart ([(⟨1, 4, 0, 0, 0, 0⟩ : SPart), (⟨2, 1, 0, 0, 4, 2⟩ : SPart)] : List SPart)))], .agg [.d (.lit (List.map e_Li64 r1101)), .d (.lit (List.map e_i64 r1111))]]) (p := (.cons _ _ _ _ (.agg _ _ (.cons _ _ _ _ (.same _) (.cons _ _ _ _ (.same _) (.cons _ _ _ _ (k_lit (enc := e_SPart) (sz := 6) 0 ([(⟨1, 4, 0, 0, 0, 0⟩ : SPart), (⟨2, 1, 0, 0, 4, 2⟩ : SPart)] : List SPart)) .nil)))) (.cons _ _ _ _ (.same _) .nil))))) (hnd := by decide) (hBl := fun _ => (by kernel_rfl)) (hv := fun _ => (by kernel_rfl)) (hH' := fun _ => (by kernel_rfl)) (h := fun r => ?_)
  obtain ⟨r113, r135⟩ := r
  refine bUc ?_
  refine oP (.tuple [.d (.int .i64 r113), .d (.int .i64 r135)]) p_move ?_
  refine oP (.d (.int .i64 r113)) k_extract ?_
  refine oP (.d (.int .i64 r135)) k_extract ?_
  refine oP (.d (.int .i64 r113)) p_assign ?_
  refine oP (.d (.int .i64 r135)) p_assign ?_
  refine oEnd ?_
  refine oSR rfl ?_
  refine oP (.d (.int .i64 r142)) p_move ?_
  refine oP (.d (.bool (r142 == 0))) (p_int (k := .i64) (p := r142) (q := 0)) ?_
  refine oP (.d (.bool (r142 == 0))) p_move ?_
  refine bMeet 4 rfl ((fun (x6 : Bool) => [(5, .d (.int .i64 r134)), (6, .d (.int .i64 r143)), (8, .d (.int .i64 r1121)), (9, .d (.int .i64 r113)), (10, .d (.int .i64 r135)), (50, .d (.bool x6))])) ((fun (x6 : Bool) => [])) (fun s => s) (fun x6 => ?_) (fun hj6 => ?_)
  ·refine oView (T' := [(5, .d (.int .i64 r134)), (6, .d (.int .i64 r143)), (8, .d (.int .i64 r1121)), (9, .d (.int .i64 r113)), (10, .d (.int .i64 r135)), (50, .d (.bool x6))]) (H' := []) (h := ?_)
   refine oP (.d (.bool x6)) p_move ?_
   refine bMeetF (H' := []) 3 rfl ((fun (x7 : Bool) => [(5, .d (.int .i64 r134)), (8, .d (.int .i64 r1121)), (9, .d (.int .i64 r113)), (10, .d (.int .i64 r135)), (54, .d (.bool x7))])) (fun x7 => ?_) (fun F hj1 => ?_)
   ·refine oView (T' := [(5, .d (.int .i64 r134)), (8, .d (.int .i64 r1121)), (9, .d (.int .i64 r113)), (10, .d (.int .i64 r135)), (54, .d (.bool x7))]) (H' := []) (h := ?_)
    refine oP (.d (.bool x7)) p_move ?_
    refine bMeetF (H' := []) 3 rfl ((fun (x8 : Bool) => [(8, .d (.int .i64 r1121)), (9, .d (.int .i64 r113)), (10, .d (.int .i64 r135)), (58, .d (.bool x8))])) (fun x8 => ?_) (fun F hj2 => ?_)
    ·refine oView (T' := [(8, .d (.int .i64 r1121)), (9, .d (.int .i64 r113)), (10, .d (.int .i64 r135)), (58, .d (.bool x8))]) (H' := []) (h := ?_)
     refine oP (.d (.bool x8)) p_move ?_
     refine bMeetF (H' := []) 3 rfl ((fun (x9 : Bool) => [(9, .d (.int .i64 r113)), (10, .d (.int .i64 r135)), (62, .d (.bool x9))])) (fun x9 => ?_) (fun F hj3 => ?_)
     ·refine oView (T' := [(9, .d (.int .i64 r113)), (10, .d (.int .i64 r135)), (62, .d (.bool x9))]) (H' := []) (h := ?_)
      refine oP (.d (.bool x9)) p_move ?_
      refine bMeetF (H' := []) 3 rfl ((fun (x10 : Bool) => [(9, .d (.int .i64 r113)), (66, .d (.bool x10))])) (fun x10 => ?_) (fun F hj4 => ?_)
      ·refine oView (T' := [(9, .d (.int .i64 r113)), (66, .d (.bool x10))]) (H' := []) (h := ?_)
       refine oP (.d (.bool x10)) p_move ?_
       refine bMeetF (H' := []) 3 rfl ((fun (x11 : Bool) => [(70, .d (.bool x11))])) (fun x11 => ?_) (fun F hj5 => ?_)
       ·refine oView (T' := [(70, .d (.bool x11))]) (H' := []) (h := ?_)
        refine oP (.d (.bool x11)) p_assign ?_
        refine oEnd ?_
        exact oRet (r0 := x11) (rv := .d (.bool x11)) (B := []) (vs := [.d (.bool x11)]) (σ := []) (hf := Try.func19) (hrs := rfl) (hres := .cons _ _ _ _ (.tmp 0 _ (by kernel_rfl)) .nil) (hnd := by decide)
       ·refine bPickF 67 (fun c => F (c && (r113 == 4))) (h1 := fun hc => ?_) (h2 := fun hc => ?_)
        ·refine oP (.d (.int .i64 r113)) p_move ?_
         refine oP (.d (.bool (r113 == 4))) (p_int (k := .i64) (p := r113) (q := 4)) ?_
         refine oP (.d (.bool (r113 == 4))) (p_pick (b := true)) ?_
         refine oHead [70] [] (T' := [(70, .d (.bool (r113 == 4)))]) (H' := []) (hnd := by decide) (h := ?_)
         exact hj5 (r113 == 4)
        ·refine oNot (h := ?_)
         refine oNot (h := ?_)
         refine oP (.d (.bool false)) (p_pick (b := false)) ?_
         refine oHead [70] [] (T' := [(70, .d (.bool false))]) (H' := []) (hnd := by decide) (h := ?_)
         exact hj5 false
      ·refine bPickF 63 (fun c => F (c && (r135 == 0))) (h1 := fun hc => ?_) (h2 := fun hc => ?_)
       ·refine oP (.d (.int .i64 r135)) p_move ?_
        refine oP (.d (.bool (r135 == 0))) (p_int (k := .i64) (p := r135) (q := 0)) ?_
        refine oP (.d (.bool (r135 == 0))) (p_pick (b := true)) ?_
        refine oHead [9, 66] [] (T' := [(9, .d (.int .i64 r113)), (66, .d (.bool (r135 == 0)))]) (H' := []) (hnd := by decide) (h := ?_)
        exact hj4 (r135 == 0)
       ·refine oNot (h := ?_)
        refine oNot (h := ?_)
        refine oP (.d (.bool false)) (p_pick (b := false)) ?_
        refine oHead [9, 66] [] (T' := [(9, .d (.int .i64 r113)), (66, .d (.bool false))]) (H' := []) (hnd := by decide) (h := ?_)
        exact hj4 false
     ·refine bPickF 59 (fun c => F (c && (r1121 == 0))) (h1 := fun hc => ?_) (h2 := fun hc => ?_)
      ·refine oP (.d (.int .i64 r1121)) p_move ?_
       refine oP (.d (.bool (r1121 == 0))) (p_int (k := .i64) (p := r1121) (q := 0)) ?_
       refine oP (.d (.bool (r1121 == 0))) (p_pick (b := true)) ?_
       refine oHead [9, 10, 62] [] (T' := [(9, .d (.int .i64 r113)), (10, .d (.int .i64 r135)), (62, .d (.bool (r1121 == 0)))]) (H' := []) (hnd := by decide) (h := ?_)
       exact hj3 (r1121 == 0)
      ·refine oNot (h := ?_)
       refine oNot (h := ?_)
       refine oP (.d (.bool false)) (p_pick (b := false)) ?_
       refine oHead [9, 10, 62] [] (T' := [(9, .d (.int .i64 r113)), (10, .d (.int .i64 r135)), (62, .d (.bool false))]) (H' := []) (hnd := by decide) (h := ?_)
       exact hj3 false
    ·refine bPickF 55 (fun c => F (c && (r134 == 4))) (h1 := fun hc => ?_) (h2 := fun hc => ?_)
     ·refine oP (.d (.int .i64 r134)) p_move ?_
      refine oP (.d (.bool (r134 == 4))) (p_int (k := .i64) (p := r134) (q := 4)) ?_
      refine oP (.d (.bool (r134 == 4))) (p_pick (b := true)) ?_
      refine oHead [8, 9, 10, 58] [] (T' := [(8, .d (.int .i64 r1121)), (9, .d (.int .i64 r113)), (10, .d (.int .i64 r135)), (58, .d (.bool (r134 == 4)))]) (H' := []) (hnd := by decide) (h := ?_)
      exact hj2 (r134 == 4)
     ·refine oNot (h := ?_)
      refine oNot (h := ?_)
      refine oP (.d (.bool false)) (p_pick (b := false)) ?_
      refine oHead [8, 9, 10, 58] [] (T' := [(8, .d (.int .i64 r1121)), (9, .d (.int .i64 r113)), (10, .d (.int .i64 r135)), (58, .d (.bool false))]) (H' := []) (hnd := by decide) (h := ?_)
      exact hj2 false
   ·refine bPickF 51 (fun c => F (c && (r143 == 0))) (h1 := fun hc => ?_) (h2 := fun hc => ?_)
    ·refine oP (.d (.int .i64 r143)) p_move ?_
     refine oP (.d (.bool (r143 == 0))) (p_int (k := .i64) (p := r143) (q := 0)) ?_
     refine oP (.d (.bool (r143 == 0))) (p_pick (b := true)) ?_
     refine oHead [5, 8, 9, 10, 54] [] (T' := [(5, .d (.int .i64 r134)), (8, .d (.int .i64 r1121)), (9, .d (.int .i64 r113)), (10, .d (.int .i64 r135)), (54, .d (.bool (r143 == 0)))]) (H' := []) (hnd := by decide) (h := ?_)
     exact hj1 (r143 == 0)
    ·refine oNot (h := ?_)
     refine oNot (h := ?_)
     refine oP (.d (.bool false)) (p_pick (b := false)) ?_
     refine oHead [5, 8, 9, 10, 54] [] (T' := [(5, .d (.int .i64 r134)), (8, .d (.int .i64 r1121)), (9, .d (.int .i64 r113)), (10, .d (.int .i64 r135)), (54, .d (.bool false))]) (H' := []) (hnd := by decide) (h := ?_)
     exact hj1 false
  ·refine bSplit 46 (h1 := fun hc => ?_) (h2 := fun hc => ?_)
   ·refine oP (.d (.lit (List.map e_i64 r133))) p_move ?_
    refine oD (.ref 8 (List.length ([(-2), 1] : List Int)) 0 (List.length ([(-2), 1] : List Int))) (k_buildSlice (H' := [.sl 6 (List.map e_SPart ([(⟨1, 4, 0, 0, 0, 0⟩ : SPart), (⟨2, 1, 0, 0, 4, 2⟩ : SPart)] : List SPart)) true, .box [.d (.int .i64 0), .d (.int .i64 0), .ref 0 (List.length ([(⟨1, 4, 0, 0, 0, 0⟩ : SPart), (⟨2, 1, 0, 0, 4, 2⟩ : SPart)] : List SPart)) 0 (List.length ([(⟨1, 4, 0, 0, 0, 0⟩ : SPart), (⟨2, 1, 0, 0, 4, 2⟩ : SPart)] : List SPart))], .sl 1 (List.map e_Li64 ([[], []] : List (List Int))) true, .sl 1 (List.map e_i64 ([0, 0] : List Int)) true, .box [.ref 2 (List.length ([[], []] : List (List Int))) 0 (List.length ([[], []] : List (List Int))), .ref 3 (List.length ([0, 0] : List Int)) 0 (List.length ([0, 0] : List Int))], .sl 1 (List.map e_i64 ([(-1), 2] : List Int)) true, .sl 1 (List.map e_i64 ([3, 1] : List Int)) true, .box [.d (.lit (List.map e_Li64 r1101)), .d (.lit (List.map e_i64 r1111))], .sl 1 (List.map e_i64 ([(-2), 1] : List Int)) false]) (List.map e_i64 ([(-2), 1] : List Int)) Try.underlying22 ty3) ?_
    refine oFreeze 8 (esz := 1) (xs := List.map e_i64 ([(-2), 1] : List Int)) (h := ?_)
    refine oView (H' := [.sl 6 (List.map e_SPart ([(⟨1, 4, 0, 0, 0, 0⟩ : SPart), (⟨2, 1, 0, 0, 4, 2⟩ : SPart)] : List SPart)) true, .box [.d (.int .i64 0), .d (.int .i64 0), .ref 0 (List.length ([(⟨1, 4, 0, 0, 0, 0⟩ : SPart), (⟨2, 1, 0, 0, 4, 2⟩ : SPart)] : List SPart)) 0 (List.length ([(⟨1, 4, 0, 0, 0, 0⟩ : SPart), (⟨2, 1, 0, 0, 4, 2⟩ : SPart)] : List SPart))], .sl 1 (List.map e_Li64 ([[], []] : List (List Int))) true, .sl 1 (List.map e_i64 ([0, 0] : List Int)) true, .box [.ref 2 (List.length ([[], []] : List (List Int))) 0 (List.length ([[], []] : List (List Int))), .ref 3 (List.length ([0, 0] : List Int)) 0 (List.length ([0, 0] : List Int))], .sl 1 (List.map e_i64 ([(-1), 2] : List Int)) true, .sl 1 (List.map e_i64 ([3, 1] : List Int)) true, .box [.d (.lit (List.map e_Li64 r1101)), .d (.lit (List.map e_i64 r1111))], .sl 1 (List.map e_i64 ([(-2), 1] : List Int)) true]) rfl (h := ?_)
    refine bCall (caps := []) (v := (fun (r16 : Bool) => (.d (.bool r16) : V))) (H' := (fun (r16 : Bool) => ([.sl 6 (List.map e_SPart ([(⟨1, 4, 0, 0, 0, 0⟩ : SPart), (⟨2, 1, 0, 0, 4, 2⟩ : SPart)] : List SPart)) true, .box [.d (.int .i64 0), .d (.int .i64 0), .ref 0 (List.length ([(⟨1, 4, 0, 0, 0, 0⟩ : SPart), (⟨2, 1, 0, 0, 4, 2⟩ : SPart)] : List SPart)) 0 (List.length ([(⟨1, 4, 0, 0, 0, 0⟩ : SPart), (⟨2, 1, 0, 0, 4, 2⟩ : SPart)] : List SPart))], .sl 1 (List.map e_Li64 ([[], []] : List (List Int))) true, .sl 1 (List.map e_i64 ([0, 0] : List Int)) true, .box [.ref 2 (List.length ([[], []] : List (List Int))) 0 (List.length ([[], []] : List (List Int))), .ref 3 (List.length ([0, 0] : List Int)) 0 (List.length ([0, 0] : List Int))], .sl 1 (List.map e_i64 ([(-1), 2] : List Int)) true, .sl 1 (List.map e_i64 ([3, 1] : List Int)) true, .box [.d (.lit (List.map e_Li64 r1101)), .d (.lit (List.map e_i64 r1111))], .sl 1 (List.map e_i64 ([(-2), 1] : List Int)) true] : List Blk))) [] _ (ref06_Ints_goes k r133 ([(-2), 1] : List Int)) (ho := rfl) (hfn := Try.func18) (hb := rfl) (hconv := (convList (vs0 := [.d (.lit (List.map e_i64 r133)), .ref 8 (List.length ([(-2), 1] : List Int)) 0 (List.length ([(-2), 1] : List Int))]) (vs := [.d (.lit (List.map e_i64 r133)), .d (.lit (List.map e_i64 ([(-2), 1] : List Int)))]) (p := (.cons _ _ _ _ (.same _) (.cons _ _ _ _ (k_lit (enc := e_i64) (sz := 1) 8 ([(-2), 1] : List Int)) .nil))))) (hnd := by decide) (hBl := fun _ => (by kernel_rfl)) (hv := fun _ => (by kernel_rfl)) (hH' := fun _ => (by kernel_rfl)) (h := fun r16 => ?_)
    refine oP (.d (.bool r16)) (p_pick (b := true)) ?_
    refine oHead [5, 6, 8, 9, 10, 50] [] (T' := [(5, .d (.int .i64 r134)), (6, .d (.int .i64 r143)), (8, .d (.int .i64 r1121)), (9, .d (.int .i64 r113)), (10, .d (.int .i64 r135)), (50, .d (.bool r16))]) (H' := []) (hnd := by decide) (h := ?_)
    exact hj6 r16
   ·refine oNot (h := ?_)
    refine oNot (h := ?_)
    refine oNot (h := ?_)
    refine oP (.d (.bool false)) (p_pick (b := false)) ?_
    refine oHead [5, 6, 8, 9, 10, 50] [] (T' := [(5, .d (.int .i64 r134)), (6, .d (.int .i64 r143)), (8, .d (.int .i64 r1121)), (9, .d (.int .i64 r113)), (10, .d (.int .i64 r135)), (50, .d (.bool false))]) (H' := []) (hnd := by decide) (h := ?_)
    exact hj6 false

/-- awardingbody/awardingbodylaw23.SchemeValid -/
def law23_SchemeValid (k : Nat) (t : (List Int)) (part : Int) (answer : Int) : Option (Bool) := Option.bind (make_New k t) (fun x7 => Option.bind (make_Tape_LoosePaper k x7 0) (uc fun r141 => uc fun r152 => uc fun r162 => fun x111 => Option.bind (make_Tape_Scheme k r141 r152 r162 x7 x111) (uc fun r153 => uc fun r163 => fun x561 => Option.bind (make_Cut k part 7) (fun r18 => Option.bind (make_Cut k answer 8) (fun r19 => Option.bind (scheme_Valid k r141 r152 r162 r153 r163) (fun r12 => Option.bind (ref23_Valid k r141 r152 r162 r153 r163) (fun r13 => Option.bind (bif (r12 == r13) then Option.bind (scheme_Accepts k r141 r152 r162 r153 r163 part answer) (fun r131 => Option.bind (ref23_Accepts k r141 r152 r162 r153 r163 part answer) (fun r121 => some (r131 == r121))) else some false : Option Bool) (fun x12 => Option.bind (bif x12 then Option.bind (scheme_Accepts k r141 r152 r162 r153 r163 r18 (IntKind.wrap .i64 (r19 - 2))) (fun r132 => Option.bind (ref23_Accepts k r141 r152 r162 r153 r163 r18 (IntKind.wrap .i64 (r19 - 2))) (fun r122 => some (r132 == r122))) else some false : Option Bool) (fun x13 => Option.bind (bif x13 then Option.bind (law23_awake k) (fun r123 => some r123) else some false : Option Bool) (fun x14 => some x14))))))))))
def law23_SchemeValid_E (t : (List Int)) (part : Int) (answer : Int) : Bool → V × List Blk := fun r17 => (.d (.bool r17), [])
theorem law23_SchemeValid_goes (k : Nat) (t : (List Int)) (part : Int) (answer : Int) : RunsO Try.prog 8 [.d (.lit (List.map e_i64 t)), .d (.int .i64 part), .d (.int .i64 answer)] [] (law23_SchemeValid_E t part answer) (law23_SchemeValid k t part answer) := by
  refine RunsO.of_goes (N := 60) (m := 0) (T := [(0, .d (.lit (List.map e_i64 t))), (1, .d (.int .i64 part)), (2, .d (.int .i64 answer))]) Try.func8 rfl rfl (h := ?_)
  unfold law23_SchemeValid
  refine bStart ?_
  refine oSR rfl ?_
  refine oP (.d (.bool false)) p_assign ?_
  refine oEnd ?_
  refine oSR rfl ?_
  refine oP (.d (.lit (List.map e_i64 t))) p_move ?_
  refine bCall (caps := []) (v := (fun (x7 : (List Int)) => (.ptr 0 0 : V))) (H' := (fun (x7 : (List Int)) => ([.box [.d (.lit (List.map e_i64 x7)), .d (.int .i64 0)]] : List Blk))) [] _ (make_New_goes k t) (ho := rfl) (hfn := Try.func12) (hb := rfl) (hconv := ConvRs.refl _ _) (hnd := by decide) (hBl := fun _ => (by kernel_rfl)) (hv := fun _ => (by kernel_rfl)) (hH' := fun _ => (by kernel_rfl)) (h := fun x7 => ?_)
  refine oP (.ptr 0 0) p_assign ?_
  refine oEnd ?_
  refine oSR rfl ?_
  refine oP (.ptr 0 0) p_move ?_
  refine bCall (caps := []) (v := (uc fun (r141 : Int) => (uc fun (r152 : Int) => (uc fun (r162 : (List SPart)) => (fun (x111 : Int) => (.agg [.d (.int .i64 r141), .d (.int .i64 r152), .d (.lit (List.map e_SPart r162))] : V)))))) (H' := (uc fun (r141 : Int) => (uc fun (r152 : Int) => (uc fun (r162 : (List SPart)) => (fun (x111 : Int) => ([.box [.d (.lit (List.map e_i64 x7)), .d (.int .i64 x111)]] : List Blk)))))) [0] _ (make_Tape_LoosePaper_goes k x7 0) (ho := rfl) (hfn := Try.func13) (hb := rfl) (hconv := ConvRs.refl _ _) (hnd := by decide) (hBl := fun _ => (by kernel_rfl)) (hv := fun _ => (by kernel_rfl)) (hH' := fun _ => (by kernel_rfl)) (h := fun r => ?_)
  obtain ⟨r141, r152, r162, x111⟩ := r
  refine bUc ?_
  refine bUc ?_
  refine bUc ?_
  refine oD (.ptr 1 0) (k_alloc (H' := [.box [.d (.lit (List.map e_i64 x7)), .d (.int .i64 x111)], .box [.d (.int .i64 0), .d (.int .i64 0), .nilc]]) ty27) ?_
  refine oD (.undef) (k_store (vs := [.d (.int .i64 r141), .d (.int .i64 r152), .d (.lit (List.map e_SPart r162))]) (H' := [.box [.d (.lit (List.map e_i64 x7)), .d (.int .i64 x111)], .box [.d (.int .i64 r141), .d (.int .i64 r152), .d (.lit (List.map e_SPart r162))]]) 1 0 (hi := ty27)) ?_
  refine oEnd ?_
  refine oSR rfl ?_
  refine oP (.ptr 0 0) p_move ?_
  refine oQ (.agg [.d (.int .i64 r141), .d (.int .i64 r152), .d (.lit (List.map e_SPart r162))]) (k_loadAgg 1 0 (hu := Try.underlying27) (hi := ty27)) ?_
  refine bCall (caps := []) (v := (uc fun (r153 : (List (List Int))) => (uc fun (r163 : (List Int)) => (fun (x561 : Int) => (.agg [.d (.lit (List.map e_Li64 r153)), .d (.lit (List.map e_i64 r163))] : V))))) (H' := (uc fun (r153 : (List (List Int))) => (uc fun (r163 : (List Int)) => (fun (x561 : Int) => ([.box [.d (.lit (List.map e_i64 x7)), .d (.int .i64 x561)], .box [.d (.int .i64 r141), .d (.int .i64 r152), .d (.lit (List.map e_SPart r162))]] : List Blk))))) [0] _ (make_Tape_Scheme_goes k r141 r152 r162 x7 x111) (ho := rfl) (hfn := Try.func14) (hb := rfl) (hconv := ConvRs.refl _ _) (hnd := by decide) (hBl := fun _ => (by kernel_rfl)) (hv := fun _ => (by kernel_rfl)) (hH' := fun _ => (by kernel_rfl)) (h := fun r => ?_)
  obtain ⟨r153, r163, x561⟩ := r
  refine bUc ?_
  refine bUc ?_
  refine oD (.ptr 2 0) (k_alloc (H' := [.box [.d (.lit (List.map e_i64 x7)), .d (.int .i64 x561)], .box [.d (.int .i64 r141), .d (.int .i64 r152), .d (.lit (List.map e_SPart r162))], .box [.nilc, .nilc]]) ty31) ?_
  refine oD (.undef) (k_store (vs := [.d (.lit (List.map e_Li64 r153)), .d (.lit (List.map e_i64 r163))]) (H' := [.box [.d (.lit (List.map e_i64 x7)), .d (.int .i64 x561)], .box [.d (.int .i64 r141), .d (.int .i64 r152), .d (.lit (List.map e_SPart r162))], .box [.d (.lit (List.map e_Li64 r153)), .d (.lit (List.map e_i64 r163))]]) 2 0 (hi := ty31)) ?_
  refine oEnd ?_
  refine oSR rfl ?_
  refine oP (.d (.int .i64 part)) p_move ?_
  refine bCall (caps := []) (v := (fun (r18 : Int) => (.d (.int .i64 r18) : V))) (H' := (fun (r18 : Int) => ([.box [.d (.lit (List.map e_i64 x7)), .d (.int .i64 x561)], .box [.d (.int .i64 r141), .d (.int .i64 r152), .d (.lit (List.map e_SPart r162))], .box [.d (.lit (List.map e_Li64 r153)), .d (.lit (List.map e_i64 r163))]] : List Blk))) [] _ (make_Cut_goes k part 7) (ho := rfl) (hfn := Try.func25) (hb := rfl) (hconv := ConvRs.refl _ _) (hnd := by decide) (hBl := fun _ => (by kernel_rfl)) (hv := fun _ => (by kernel_rfl)) (hH' := fun _ => (by kernel_rfl)) (h := fun r18 => ?_)
  refine oP (.d (.int .i64 answer)) p_move ?_
  refine bCall (caps := []) (v := (fun (r19 : Int) => (.d (.int .i64 r19) : V))) (H' := (fun (r19 : Int) => ([.box [.d (.lit (List.map e_i64 x7)), .d (.int .i64 x561)], .box [.d (.int .i64 r141), .d (.int .i64 r152), .d (.lit (List.map e_SPart r162))], .box [.d (.lit (List.map e_Li64 r153)), .d (.lit (List.map e_i64 r163))]] : List Blk))) [] _ (make_Cut_goes k answer 8) (ho := rfl) (hfn := Try.func25) (hb := rfl) (hconv := ConvRs.refl _ _) (hnd := by decide) (hBl := fun _ => (by kernel_rfl)) (hv := fun _ => (by kernel_rfl)) (hH' := fun _ => (by kernel_rfl)) (h := fun r19 => ?_)
  refine oP (.d (.int .i64 (IntKind.wrap .i64 (r19 - 2)))) (p_int (k := .i64) (p := r19) (q := 2)) ?_
  refine oP (.d (.int .i64 r18)) p_assign ?_
  refine oP (.d (.int .i64 (IntKind.wrap .i64 (r19 - 2)))) p_assign ?_
  refine oEnd ?_
  refine oSeq ?_
  refine oDraw [(0, 37), (1, 37), (2, 37)] rfl ?_
  refine aQ 0 [1] (.agg [.d (.int .i64 r141), .d (.int .i64 r152), .d (.lit (List.map e_SPart r162))]) rfl (k_loadAgg 1 0 (hu := Try.underlying27) (hi := ty27)) ?_
  refine aQ 1 [2] (.agg [.d (.lit (List.map e_Li64 r153)), .d (.lit (List.map e_i64 r163))]) rfl (k_loadAgg 2 0 (hu := Try.underlying31) (hi := ty31)) ?_
  refine aQ 3 [1] (.agg [.d (.int .i64 r141), .d (.int .i64 r152), .d (.lit (List.map e_SPart r162))]) rfl (k_loadAgg 1 0 (hu := Try.underlying27) (hi := ty27)) ?_
  refine aQ 4 [2] (.agg [.d (.lit (List.map e_Li64 r153)), .d (.lit (List.map e_i64 r163))]) rfl (k_loadAgg 2 0 (hu := Try.underlying31) (hi := ty31)) ?_
  refine dCall (i := 2) (caps := []) (v := (fun (r12 : Bool) => (.d (.bool r12) : V))) (H' := (fun (r12 : Bool) => ([.box [.d (.lit (List.map e_i64 x7)), .d (.int .i64 x561)], .box [.d (.int .i64 r141), .d (.int .i64 r152), .d (.lit (List.map e_SPart r162))], .box [.d (.lit (List.map e_Li64 r153)), .d (.lit (List.map e_i64 r163))]] : List Blk))) [] _ (scheme_Valid_goes k r141 r152 r162 r153 r163) rfl (ho := rfl) (hfn := Try.func30) (hb := rfl) (hconv := ConvRs.refl _ _) (hnd := by decide) (hBl := fun _ => (by kernel_rfl)) (hv := fun _ => (by kernel_rfl)) (hH' := fun _ => (by kernel_rfl)) (h := fun r12 => ?_)
  refine dCall (i := 5) (caps := []) (v := (fun (r13 : Bool) => (.d (.bool r13) : V))) (H' := (fun (r13 : Bool) => ([.box [.d (.lit (List.map e_i64 x7)), .d (.int .i64 x561)], .box [.d (.int .i64 r141), .d (.int .i64 r152), .d (.lit (List.map e_SPart r162))], .box [.d (.lit (List.map e_Li64 r153)), .d (.lit (List.map e_i64 r163))]] : List Blk))) [] _ (ref23_Valid_goes k r141 r152 r162 r153 r163) rfl (ho := rfl) (hfn := Try.func31) (hb := rfl) (hconv := ConvRs.refl _ _) (hnd := by decide) (hBl := fun _ => (by kernel_rfl)) (hv := fun _ => (by kernel_rfl)) (hH' := fun _ => (by kernel_rfl)) (h := fun r13 => ?_)
  refine aP 6 (.d (.bool (r12 == r13))) rfl (p_boolEq (p := r12) (q := r13) (hu := Try.underlying4)) ?_
  refine aP 7 (.d (.bool (r12 == r13))) rfl p_move ?_
  refine dMeet [19, 18, 17, 12, 16, 15, 14, 13, 11, 10, 9, 8, 7, 6, 5, 2, 4, 3, 1, 0] (fun (x12 : Bool) => [(8, .ptr 1 0), (9, .ptr 2 0), (10, .d (.int .i64 r18)), (11, .d (.int .i64 (IntKind.wrap .i64 (r19 - 2)))), (43, .d (.bool x12))]) (fun (x12 : Bool) => [(8, .ptr 1 0), (9, .ptr 2 0), (10, .d (.int .i64 r18)), (11, .d (.int .i64 (IntKind.wrap .i64 (r19 - 2)))), (43, .d (.bool x12))]) (fun _ => [.box [.d (.lit (List.map e_i64 x7)), .d (.int .i64 x561)], .box [.d (.int .i64 r141), .d (.int .i64 r152), .d (.lit (List.map e_SPart r162))], .box [.d (.lit (List.map e_Li64 r153)), .d (.lit (List.map e_i64 r163))]]) (fun s => s) (fun x12 => ?_) (fun hj4 => ?_)
  ·refine aP 20 (.d (.bool x12)) rfl p_move ?_
   refine dMeet [32, 31, 30, 25, 29, 28, 27, 26, 24, 23, 22, 21, 20, 19, 18, 17, 12, 16, 15, 14, 13, 11, 10, 9, 8, 7, 6, 5, 2, 4, 3, 1, 0] (fun (x13 : Bool) => [(56, .d (.bool x13))]) (fun (x13 : Bool) => [(56, .d (.bool x13))]) (fun _ => [.box [.d (.lit (List.map e_i64 x7)), .d (.int .i64 x561)], .box [.d (.int .i64 r141), .d (.int .i64 r152), .d (.lit (List.map e_SPart r162))], .box [.d (.lit (List.map e_Li64 r153)), .d (.lit (List.map e_i64 r163))]]) (fun s => s) (fun x13 => ?_) (fun hj5 => ?_)
   ·refine aP 33 (.d (.bool x13)) rfl p_move ?_
    refine dMeet [35, 34, 33, 32, 31, 30, 25, 29, 28, 27, 26, 24, 23, 22, 21, 20, 19, 18, 17, 12, 16, 15, 14, 13, 11, 10, 9, 8, 7, 6, 5, 2, 4, 3, 1, 0] (fun (x14 : Bool) => [(59, .d (.bool x14))]) (fun (x14 : Bool) => [(59, .d (.bool x14))]) (fun _ => [.box [.d (.lit (List.map e_i64 x7)), .d (.int .i64 x561)], .box [.d (.int .i64 r141), .d (.int .i64 r152), .d (.lit (List.map e_SPart r162))], .box [.d (.lit (List.map e_Li64 r153)), .d (.lit (List.map e_i64 r163))]]) (fun s => s) (fun x14 => ?_) (fun hj6 => ?_)
    ·refine aP 36 (.d (.bool x14)) rfl p_assign ?_
     refine aDone (h := ?_)
     exact oRet (r0 := x14) (rv := .d (.bool x14)) (B := []) (vs := [.d (.bool x14)]) (σ := []) (hf := Try.func8) (hrs := rfl) (hres := .cons _ _ _ _ (.tmp 6 _ (by kernel_rfl)) .nil) (hnd := by decide)
    ·refine dSplit 57 (h1 := fun hc => ?_) (h2 := fun hc => ?_)
     ·refine dCall (i := 34) (caps := []) (v := (fun (r123 : Bool) => (.d (.bool r123) : V))) (H' := (fun (r123 : Bool) => ([.box [.d (.lit (List.map e_i64 x7)), .d (.int .i64 x561)], .box [.d (.int .i64 r141), .d (.int .i64 r152), .d (.lit (List.map e_SPart r162))], .box [.d (.lit (List.map e_Li64 r153)), .d (.lit (List.map e_i64 r163))]] : List Blk))) [] _ (law23_awake_goes k) rfl (ho := rfl) (hfn := Try.func19) (hb := rfl) (hconv := ConvRs.refl _ _) (hnd := by decide) (hBl := fun _ => (by kernel_rfl)) (hv := fun _ => (by kernel_rfl)) (hH' := fun _ => (by kernel_rfl)) (h := fun r123 => ?_)
      refine aP 35 (.d (.bool r123)) rfl (p_pick (b := true)) ?_
      refine dDrop [59] [59] (T' := [(59, .d (.bool r123))]) (U' := [(59, .d (.bool r123))]) (h := ?_)
      exact hj6 r123
     ·refine aTakeNot (i := 34) rfl (h := ?_)
      refine aP 35 (.d (.bool false)) rfl (p_pick (b := false)) ?_
      refine dDrop [59] [59] (T' := [(59, .d (.bool false))]) (U' := [(59, .d (.bool false))]) (h := ?_)
      exact hj6 false
   ·refine dSplit 44 (h1 := fun hc => ?_) (h2 := fun hc => ?_)
    ·refine aQ 21 [1] (.agg [.d (.int .i64 r141), .d (.int .i64 r152), .d (.lit (List.map e_SPart r162))]) rfl (k_loadAgg 1 0 (hu := Try.underlying27) (hi := ty27)) ?_
     refine aQ 22 [2] (.agg [.d (.lit (List.map e_Li64 r153)), .d (.lit (List.map e_i64 r163))]) rfl (k_loadAgg 2 0 (hu := Try.underlying31) (hi := ty31)) ?_
     refine aP 23 (.d (.int .i64 r18)) rfl p_move ?_
     refine aP 24 (.d (.int .i64 (IntKind.wrap .i64 (r19 - 2)))) rfl p_move ?_
     refine aQ 26 [1] (.agg [.d (.int .i64 r141), .d (.int .i64 r152), .d (.lit (List.map e_SPart r162))]) rfl (k_loadAgg 1 0 (hu := Try.underlying27) (hi := ty27)) ?_
     refine aQ 27 [2] (.agg [.d (.lit (List.map e_Li64 r153)), .d (.lit (List.map e_i64 r163))]) rfl (k_loadAgg 2 0 (hu := Try.underlying31) (hi := ty31)) ?_
     refine aP 28 (.d (.int .i64 r18)) rfl p_move ?_
     refine aP 29 (.d (.int .i64 (IntKind.wrap .i64 (r19 - 2)))) rfl p_move ?_
     refine dCall (i := 25) (caps := []) (v := (fun (r132 : Bool) => (.d (.bool r132) : V))) (H' := (fun (r132 : Bool) => ([.box [.d (.lit (List.map e_i64 x7)), .d (.int .i64 x561)], .box [.d (.int .i64 r141), .d (.int .i64 r152), .d (.lit (List.map e_SPart r162))], .box [.d (.lit (List.map e_Li64 r153)), .d (.lit (List.map e_i64 r163))]] : List Blk))) [] _ (scheme_Accepts_goes k r141 r152 r162 r153 r163 r18 (IntKind.wrap .i64 (r19 - 2))) rfl (ho := rfl) (hfn := Try.func32) (hb := rfl) (hconv := ConvRs.refl _ _) (hnd := by decide) (hBl := fun _ => (by kernel_rfl)) (hv := fun _ => (by kernel_rfl)) (hH' := fun _ => (by kernel_rfl)) (h := fun r132 => ?_)
     refine dCall (i := 30) (caps := []) (v := (fun (r122 : Bool) => (.d (.bool r122) : V))) (H' := (fun (r122 : Bool) => ([.box [.d (.lit (List.map e_i64 x7)), .d (.int .i64 x561)], .box [.d (.int .i64 r141), .d (.int .i64 r152), .d (.lit (List.map e_SPart r162))], .box [.d (.lit (List.map e_Li64 r153)), .d (.lit (List.map e_i64 r163))]] : List Blk))) [] _ (ref23_Accepts_goes k r141 r152 r162 r153 r163 r18 (IntKind.wrap .i64 (r19 - 2))) rfl (ho := rfl) (hfn := Try.func33) (hb := rfl) (hconv := ConvRs.refl _ _) (hnd := by decide) (hBl := fun _ => (by kernel_rfl)) (hv := fun _ => (by kernel_rfl)) (hH' := fun _ => (by kernel_rfl)) (h := fun r122 => ?_)
     refine aP 31 (.d (.bool (r132 == r122))) rfl (p_boolEq (p := r132) (q := r122) (hu := Try.underlying4)) ?_
     refine aP 32 (.d (.bool (r132 == r122))) rfl (p_pick (b := true)) ?_
     refine dDrop [56] [56] (T' := [(56, .d (.bool (r132 == r122)))]) (U' := [(56, .d (.bool (r132 == r122)))]) (h := ?_)
     exact hj5 (r132 == r122)
    ·refine aTakeNot (i := 21) rfl (h := ?_)
     refine aTakeNot (i := 22) rfl (h := ?_)
     refine aTakeNot (i := 23) rfl (h := ?_)
     refine aTakeNot (i := 24) rfl (h := ?_)
     refine aTakeNot (i := 25) rfl (h := ?_)
     refine aTakeNot (i := 26) rfl (h := ?_)
     refine aTakeNot (i := 27) rfl (h := ?_)
     refine aTakeNot (i := 28) rfl (h := ?_)
     refine aTakeNot (i := 29) rfl (h := ?_)
     refine aTakeNot (i := 30) rfl (h := ?_)
     refine aTakeNot (i := 31) rfl (h := ?_)
     refine aP 32 (.d (.bool false)) rfl (p_pick (b := false)) ?_
     refine dDrop [56] [56] (T' := [(56, .d (.bool false))]) (U' := [(56, .d (.bool false))]) (h := ?_)
     refine dLv [32, 31, 30, 25, 29, 28, 27, 26, 24, 23, 22, 21, 20, 19, 18, 17, 12, 16, 15, 14, 13, 11, 10, 9, 8, 7, 6, 5, 2, 4, 3, 1, 0] (h1 := ?_)
     exact hj5 false
  ·refine dSplit 31 (h1 := fun hc => ?_) (h2 := fun hc => ?_)
   ·refine aQ 8 [1] (.agg [.d (.int .i64 r141), .d (.int .i64 r152), .d (.lit (List.map e_SPart r162))]) rfl (k_loadAgg 1 0 (hu := Try.underlying27) (hi := ty27)) ?_
    refine aQ 9 [2] (.agg [.d (.lit (List.map e_Li64 r153)), .d (.lit (List.map e_i64 r163))]) rfl (k_loadAgg 2 0 (hu := Try.underlying31) (hi := ty31)) ?_
    refine aP 10 (.d (.int .i64 part)) rfl p_move ?_
    refine aP 11 (.d (.int .i64 answer)) rfl p_move ?_
    refine aQ 13 [1] (.agg [.d (.int .i64 r141), .d (.int .i64 r152), .d (.lit (List.map e_SPart r162))]) rfl (k_loadAgg 1 0 (hu := Try.underlying27) (hi := ty27)) ?_
    refine aQ 14 [2] (.agg [.d (.lit (List.map e_Li64 r153)), .d (.lit (List.map e_i64 r163))]) rfl (k_loadAgg 2 0 (hu := Try.underlying31) (hi := ty31)) ?_
    refine aP 15 (.d (.int .i64 part)) rfl p_move ?_
    refine aP 16 (.d (.int .i64 answer)) rfl p_move ?_
    refine dCall (i := 12) (caps := []) (v := (fun (r131 : Bool) => (.d (.bool r131) : V))) (H' := (fun (r131 : Bool) => ([.box [.d (.lit (List.map e_i64 x7)), .d (.int .i64 x561)], .box [.d (.int .i64 r141), .d (.int .i64 r152), .d (.lit (List.map e_SPart r162))], .box [.d (.lit (List.map e_Li64 r153)), .d (.lit (List.map e_i64 r163))]] : List Blk))) [] _ (scheme_Accepts_goes k r141 r152 r162 r153 r163 part answer) rfl (ho := rfl) (hfn := Try.func32) (hb := rfl) (hconv := ConvRs.refl _ _) (hnd := by decide) (hBl := fun _ => (by kernel_rfl)) (hv := fun _ => (by kernel_rfl)) (hH' := fun _ => (by kernel_rfl)) (h := fun r131 => ?_)
    refine dCall (i := 17) (caps := []) (v := (fun (r121 : Bool) => (.d (.bool r121) : V))) (H' := (fun (r121 : Bool) => ([.box [.d (.lit (List.map e_i64 x7)), .d (.int .i64 x561)], .box [.d (.int .i64 r141), .d (.int .i64 r152), .d (.lit (List.map e_SPart r162))], .box [.d (.lit (List.map e_Li64 r153)), .d (.lit (List.map e_i64 r163))]] : List Blk))) [] _ (ref23_Accepts_goes k r141 r152 r162 r153 r163 part answer) rfl (ho := rfl) (hfn := Try.func33) (hb := rfl) (hconv := ConvRs.refl _ _) (hnd := by decide) (hBl := fun _ => (by kernel_rfl)) (hv := fun _ => (by kernel_rfl)) (hH' := fun _ => (by kernel_rfl)) (h := fun r121 => ?_)
    refine aP 18 (.d (.bool (r131 == r121))) rfl (p_boolEq (p := r131) (q := r121) (hu := Try.underlying4)) ?_
    refine aP 19 (.d (.bool (r131 == r121))) rfl (p_pick (b := true)) ?_
    refine dDrop [8, 9, 10, 11, 43] [8, 9, 10, 11, 43] (T' := [(8, .ptr 1 0), (9, .ptr 2 0), (10, .d (.int .i64 r18)), (11, .d (.int .i64 (IntKind.wrap .i64 (r19 - 2)))), (43, .d (.bool (r131 == r121)))]) (U' := [(8, .ptr 1 0), (9, .ptr 2 0), (10, .d (.int .i64 r18)), (11, .d (.int .i64 (IntKind.wrap .i64 (r19 - 2)))), (43, .d (.bool (r131 == r121)))]) (h := ?_)
    exact hj4 (r131 == r121)
   ·refine aTakeNot (i := 8) rfl (h := ?_)
    refine aTakeNot (i := 9) rfl (h := ?_)
    refine aTakeNot (i := 10) rfl (h := ?_)
    refine aTakeNot (i := 11) rfl (h := ?_)
    refine aTakeNot (i := 12) rfl (h := ?_)
    refine aTakeNot (i := 13) rfl (h := ?_)
    refine aTakeNot (i := 14) rfl (h := ?_)
    refine aTakeNot (i := 15) rfl (h := ?_)
    refine aTakeNot (i := 16) rfl (h := ?_)
    refine aTakeNot (i := 17) rfl (h := ?_)
    refine aTakeNot (i := 18) rfl (h := ?_)
    refine aP 19 (.d (.bool false)) rfl (p_pick (b := false)) ?_
    refine dDrop [8, 9, 10, 11, 43] [8, 9, 10, 11, 43] (T' := [(8, .ptr 1 0), (9, .ptr 2 0), (10, .d (.int .i64 r18)), (11, .d (.int .i64 (IntKind.wrap .i64 (r19 - 2)))), (43, .d (.bool false))]) (U' := [(8, .ptr 1 0), (9, .ptr 2 0), (10, .d (.int .i64 r18)), (11, .d (.int .i64 (IntKind.wrap .i64 (r19 - 2)))), (43, .d (.bool false))]) (h := ?_)
    refine dLv [19, 18, 17, 12, 16, 15, 14, 13, 11, 10, 9, 8, 7, 6, 5, 2, 4, 3, 1, 0] (h1 := ?_)
    exact hj4 false

end Go.VM
