/- Plain functions that answer as the program's functions do, and the proof that they do. -/
import Derived.Test.YtdpoilkjdfnadaaProg
import Derived.KernelRfl
import Derived.Test.YtdpoilkjdfnadaaEngDeepCM
import Derived.Test.YtdpoilkjdfnadaaWiFacts
import Derived.Test.YtdpoilkjdfnadaaWiFuns0
import Derived.Test.YtdpoilkjdfnadaaWiFuns1
import Derived.Test.YtdpoilkjdfnadaaWiFuns2
import Derived.Test.YtdpoilkjdfnadaaWiFuns3
namespace Go.VM
open Go.Proofs
set_option linter.unusedVariables false
set_option linter.unusedSimpArgs false
set_option maxRecDepth 100000
/-- awardingbody/scheme.Maximum -/
def scheme_Maximum (k : Nat) (p0 : Int) (p1 : Int) (p2 : (List SPart)) (s0 : (List (List Int))) (s1 : (List Int)) : Option (Int × Int) := Option.bind (scheme_Valid k p0 p1 p2 s0 s1) (fun r14 => bif (!r14) then some (0, 1) else Option.bind (scheme_sum_2 k p0 p1 p2 s0 s1 p0 p1 p2) (fun r121 => some (r121, 0)))
def scheme_Maximum_E (p0 : Int) (p1 : Int) (p2 : (List SPart)) (s0 : (List (List Int))) (s1 : (List Int)) : Int × Int → V × List Blk := uc fun r11 => fun r13 => (.tuple [.d (.int .i64 r11), .d (.int .i64 r13)], [])
theorem scheme_Maximum_goes (k : Nat) (p0 : Int) (p1 : Int) (p2 : (List SPart)) (s0 : (List (List Int))) (s1 : (List Int)) : RunsO Try.prog 23 [.agg [.d (.int .i64 p0), .d (.int .i64 p1), .d (.lit (List.map e_SPart p2))], .agg [.d (.lit (List.map e_Li64 s0)), .d (.lit (List.map e_i64 s1))]] [] (scheme_Maximum_E p0 p1 p2 s0 s1) (scheme_Maximum k p0 p1 p2 s0 s1) := by
  refine RunsO.of_goes (N := 14) (m := 0) (T := [(0, .agg [.d (.int .i64 p0), .d (.int .i64 p1), .d (.lit (List.map e_SPart p2))]), (1, .agg [.d (.lit (List.map e_Li64 s0)), .d (.lit (List.map e_i64 s1))])]) Try.func23 rfl rfl (h := ?_)
  unfold scheme_Maximum
  refine bStart ?_
  refine oSR rfl ?_
  refine oD (.ptr 0 0) (k_box (H' := [.box [.d (.int .i64 p0), .d (.int .i64 p1), .d (.lit (List.map e_SPart p2))]]) (cells := [.d (.int .i64 p0), .d (.int .i64 p1), .d (.lit (List.map e_SPart p2))])) ?_
  refine oD (.ptr 1 0) (k_box (H' := [.box [.d (.int .i64 p0), .d (.int .i64 p1), .d (.lit (List.map e_SPart p2))], .box [.d (.lit (List.map e_Li64 s0)), .d (.lit (List.map e_i64 s1))]]) (cells := [.d (.lit (List.map e_Li64 s0)), .d (.lit (List.map e_i64 s1))])) ?_
  refine oP (.d (.int .i64 0)) p_assign ?_
  refine oP (.d (.int .i64 0)) p_assign ?_
  refine oEnd ?_
  refine oSeq ?_
  refine oSR rfl ?_
  refine oQ (.agg [.d (.int .i64 p0), .d (.int .i64 p1), .d (.lit (List.map e_SPart p2))]) (k_loadAgg 0 0 (hu := Try.underlying27) (hi := ty27)) ?_
  refine oQ (.agg [.d (.lit (List.map e_Li64 s0)), .d (.lit (List.map e_i64 s1))]) (k_loadAgg 1 0 (hu := Try.underlying31) (hi := ty31)) ?_
  refine bCall (caps := []) (v := (fun (r14 : Bool) => (.d (.bool r14) : V))) (H' := (fun (r14 : Bool) => ([.box [.d (.int .i64 p0), .d (.int .i64 p1), .d (.lit (List.map e_SPart p2))], .box [.d (.lit (List.map e_Li64 s0)), .d (.lit (List.map e_i64 s1))]] : List Blk))) [] _ (scheme_Valid_goes k p0 p1 p2 s0 s1) (ho := rfl) (hfn := Try.func30) (hb := rfl) (hconv := ConvRs.refl _ _) (hnd := by decide) (hBl := fun _ => (by kernel_rfl)) (hv := fun _ => (by kernel_rfl)) (hH' := fun _ => (by kernel_rfl)) (h := fun r14 => ?_)
  refine oP (.d (.bool (!r14))) (p_not (p := r14)) ?_
  refine oEnd ?_
  refine bSplit 9 (h1 := fun hc => ?_) (h2 := fun hc => ?_)
  ·refine oCondT (h := ?_)
   refine oSR rfl ?_
   refine oP (.d (.int .i64 0)) p_assign ?_
   refine oP (.d (.int .i64 1)) p_assign ?_
   refine oEnd ?_
   exact oRet (r0 := (0, 1)) (rv := .tuple [.d (.int .i64 0), .d (.int .i64 1)]) (B := []) (vs := [.d (.int .i64 0), .d (.int .i64 1)]) (σ := []) (hf := Try.func23) (hrs := rfl) (hres := .cons _ _ _ _ (.tmp 4 _ (by kernel_rfl)) (.cons _ _ _ _ (.tmp 5 _ (by kernel_rfl)) .nil)) (hnd := by decide)
  ·refine oCondF (h := ?_)
   refine oSkip ?_
   refine oSR rfl ?_
   refine oQ (.agg [.d (.int .i64 p0), .d (.int .i64 p1), .d (.lit (List.map e_SPart p2))]) (k_loadAgg 0 0 (hu := Try.underlying27) (hi := ty27)) ?_
   refine oQ (.agg [.d (.lit (List.map e_Li64 s0)), .d (.lit (List.map e_i64 s1))]) (k_loadAgg 1 0 (hu := Try.underlying31) (hi := ty31)) ?_
   refine oP (.fn 47 [.ptr 0 0]) p_makeFunc ?_
   refine bCall (caps := []) (v := (fun (r121 : Int) => (.d (.int .i64 r121) : V))) (H' := (fun (r121 : Int) => ([.box [.d (.int .i64 p0), .d (.int .i64 p1), .d (.lit (List.map e_SPart p2))], .box [.d (.lit (List.map e_Li64 s0)), .d (.lit (List.map e_i64 s1))]] : List Blk))) [0] _ (scheme_sum_2_goes k p0 p1 p2 s0 s1 p0 p1 p2) (ho := rfl) (hfn := Try.func45) (hb := rfl) (hconv := ConvRs.refl _ _) (hnd := by decide) (hBl := fun _ => (by kernel_rfl)) (hv := fun _ => (by kernel_rfl)) (hH' := fun _ => (by kernel_rfl)) (h := fun r121 => ?_)
   refine oP (.d (.int .i64 r121)) p_assign ?_
   refine oP (.d (.int .i64 0)) p_assign ?_
   refine oEnd ?_
   exact oRet (r0 := (r121, 0)) (rv := .tuple [.d (.int .i64 r121), .d (.int .i64 0)]) (B := []) (vs := [.d (.int .i64 r121), .d (.int .i64 0)]) (σ := []) (hf := Try.func23) (hrs := rfl) (hres := .cons _ _ _ _ (.tmp 4 _ (by kernel_rfl)) (.cons _ _ _ _ (.tmp 5 _ (by kernel_rfl)) .nil)) (hnd := by decide)

/-- awardingbody/awardingbodylaw23.awake -/
def law23_awake (k : Nat) : Option (Bool) := Option.bind (scheme_Closed k 0 0 ([(⟨1, 4, 0, 0, 0, 0⟩ : SPart), (⟨2, 1, 0, 0, 4, 2⟩ : SPart)] : List SPart) ([[], []] : List (List Int)) ([0, 0] : List Int) ([(-1), 2] : List Int)) (uc fun r133 => fun r142 => Option.bind (scheme_Total k 0 0 ([(⟨1, 4, 0, 0, 0, 0⟩ : SPart), (⟨2, 1, 0, 0, 4, 2⟩ : SPart)] : List SPart) ([[], []] : List (List Int)) ([0, 0] : List Int) ([3, 1] : List Int)) (uc fun r134 => fun r143 => Option.bind (scheme_Withdraw k 0 0 ([(⟨1, 4, 0, 0, 0, 0⟩ : SPart), (⟨2, 1, 0, 0, 4, 2⟩ : SPart)] : List SPart) ([[], []] : List (List Int)) ([0, 0] : List Int) 1 2) (uc fun r1101 => uc fun r1111 => fun r1121 => Option.bind (scheme_Maximum k 0 0 ([(⟨1, 4, 0, 0, 0, 0⟩ : SPart), (⟨2, 1, 0, 0, 4, 2⟩ : SPart)] : List SPart) r1101 r1111) (uc fun r113 => fun r135 => Option.bind (bif (r142 == 0) then Option.bind (ref06_Ints k r133 ([(-2), 1] : List Int)) (fun r16 => some r16) else some false : Option (Bool)) (fun x6 => blet (x6 && (r143 == 0)) fun x7 => blet (x7 && (r134 == 4)) fun x8 => blet (x8 && (r1121 == 0)) fun x9 => blet (x9 && (r135 == 0)) fun x10 => blet (x10 && (r113 == 4)) fun x11 => some x11)))))
def law23_awake_E : Bool → V × List Blk := fun r12 => (.d (.bool r12), [])
theorem law23_awake_goes (k : Nat) : RunsO Try.prog 19 [] [] (law23_awake_E) (law23_awake k) := by
  refine RunsO.of_goes (N := 71) (m := 0) (T := []) Try.func19 rfl rfl (h := ?_)
  unfold law23_awake
  refine bStart ?_
  refine oSR rfl ?_
  refine oP (.d (.bool false)) p_assign ?_
  refine oEnd ?_
  refine oSR rfl ?_
  refine oP (.agg [.d (.int .i64 1), .d (.int .i64 4), .d (.int .i64 0), .d (.int .i64 0), .d (.int .i64 0), .d (.int .i64 0)]) (p_build bld49) ?_
  refine oP (.agg [.d (.int .i64 2), .d (.int .i64 1), .d (.int .i64 0), .d (.int .i64 0), .d (.int .i64 4), .d (.int .i64 2)]) (p_build bld49) ?_
  refine oD (.ref 0 (List.length ([(⟨1, 4, 0, 0, 0, 0⟩ : SPart), (⟨2, 1, 0, 0, 4, 2⟩ : SPart)] : List SPart)) 0 (List.length ([(⟨1, 4, 0, 0, 0, 0⟩ : SPart), (⟨2, 1, 0, 0, 4, 2⟩ : SPart)] : List SPart))) (k_buildSlice (H' := [.sl 6 (List.map e_SPart ([(⟨1, 4, 0, 0, 0, 0⟩ : SPart), (⟨2, 1, 0, 0, 4, 2⟩ : SPart)] : List SPart)) false]) (List.map e_SPart ([(⟨1, 4, 0, 0, 0, 0⟩ : SPart), (⟨2, 1, 0, 0, 4, 2⟩ : SPart)] : List SPart)) Try.underlying25 ty49) ?_
  refine oP (.agg [.d (.int .i64 0), .d (.int .i64 0), .ref 0 (List.length ([(⟨1, 4, 0, 0, 0, 0⟩ : SPart), (⟨2, 1, 0, 0, 4, 2⟩ : SPart)] : List SPart)) 0 (List.length ([(⟨1, 4, 0, 0, 0, 0⟩ : SPart), (⟨2, 1, 0, 0, 4, 2⟩ : SPart)] : List SPart))]) (p_build bld27) ?_
  refine oD (.ptr 1 0) (k_alloc (H' := [.sl 6 (List.map e_SPart ([(⟨1, 4, 0, 0, 0, 0⟩ : SPart), (⟨2, 1, 0, 0, 4, 2⟩ : SPart)] : List SPart)) false, .box [.d (.int .i64 0), .d (.int .i64 0), .nilc]]) ty27) ?_
  refine oD (.undef) (k_store (vs := [.d (.int .i64 0), .d (.int .i64 0), .ref 0 (List.length ([(⟨1, 4, 0, 0, 0, 0⟩ : SPart), (⟨2, 1, 0, 0, 4, 2⟩ : SPart)] : List SPart)) 0 (List.length ([(⟨1, 4, 0, 0, 0, 0⟩ : SPart), (⟨2, 1, 0, 0, 4, 2⟩ : SPart)] : List SPart))]) (H' := [.sl 6 (List.map e_SPart ([(⟨1, 4, 0, 0, 0, 0⟩ : SPart), (⟨2, 1, 0, 0, 4, 2⟩ : SPart)] : List SPart)) false, .box [.d (.int .i64 0), .d (.int .i64 0), .ref 0 (List.length ([(⟨1, 4, 0, 0, 0, 0⟩ : SPart), (⟨2, 1, 0, 0, 4, 2⟩ : SPart)] : List SPart)) 0 (List.length ([(⟨1, 4, 0, 0, 0, 0⟩ : SPart), (⟨2, 1, 0, 0, 4, 2⟩ : SPart)] : List SPart))]]) 1 0 (hi := ty27)) ?_
  refine oEnd ?_
  refine oSR rfl ?_
  refine oD (.ref 2 (List.length ([[], []] : List (List Int))) 0 (List.length ([[], []] : List (List Int)))) (k_buildSlice (H' := [.sl 6 (List.map e_SPart ([(⟨1, 4, 0, 0, 0, 0⟩ : SPart), (⟨2, 1, 0, 0, 4, 2⟩ : SPart)] : List SPart)) false, .box [.d (.int .i64 0), .d (.int .i64 0), .ref 0 (List.length ([(⟨1, 4, 0, 0, 0, 0⟩ : SPart), (⟨2, 1, 0, 0, 4, 2⟩ : SPart)] : List SPart)) 0 (List.length ([(⟨1, 4, 0, 0, 0, 0⟩ : SPart), (⟨2, 1, 0, 0, 4, 2⟩ : SPart)] : List SPart))], .sl 1 (List.map e_Li64 ([[], []] : List (List Int))) false]) (List.map e_Li64 ([[], []] : List (List Int))) Try.underlying29 ty22) ?_
  refine oD (.ref 3 (List.length ([0, 0] : List Int)) 0 (List.length ([0, 0] : List Int))) (k_buildSlice (H' := [.sl 6 (List.map e_SPart ([(⟨1, 4, 0, 0, 0, 0⟩ : SPart), (⟨2, 1, 0, 0, 4, 2⟩ : SPart)] : List SPart)) false, .box [.d (.int .i64 0), .d (.int .i64 0), .ref 0 (List.length ([(⟨1, 4, 0, 0, 0, 0⟩ : SPart), (⟨2, 1, 0, 0, 4, 2⟩ : SPart)] : List SPart)) 0 (List.length ([(⟨1, 4, 0, 0, 0, 0⟩ : SPart), (⟨2, 1, 0, 0, 4, 2⟩ : SPart)] : List SPart))], .sl 1 (List.map e_Li64 ([[], []] : List (List Int))) false, .sl 1 (List.map e_i64 ([0, 0] : List Int)) false]) (List.map e_i64 ([0, 0] : List Int)) Try.underlying22 ty3) ?_
  refine oP (.agg [.ref 2 (List.length ([[], []] : List (List Int))) 0 (List.length ([[], []] : List (List Int))), .ref 3 (List.length ([0, 0] : List Int)) 0 (List.length ([0, 0] : List Int))]) (p_build bld31) ?_
  refine oD (.ptr 4 0) (k_alloc (H' := [.sl 6 (List.map e_SPart ([(⟨1, 4, 0, 0, 0, 0⟩ : SPart), (⟨2, 1, 0, 0, 4, 2⟩ : SPart)] : List SPart)) false, .box [.d (.int .i64 0), .d (.int .i64 0), .ref 0 (List.length ([(⟨1, 4, 0, 0, 0, 0⟩ : SPart), (⟨2, 1, 0, 0, 4, 2⟩ : SPart)] : List SPart)) 0 (List.length ([(⟨1, 4, 0, 0, 0, 0⟩ : SPart), (⟨2, 1, 0, 0, 4, 2⟩ : SPart)] : List SPart))], .sl 1 (List.map e_Li64 ([[], []] : List (List Int))) false, .sl 1 (List.map e_i64 ([0, 0] : List Int)) false, .box [.nilc, .nilc]]) ty31) ?_
  refine oD (.undef) (k_store (vs := [.ref 2 (List.length ([[], []] : List (List Int))) 0 (List.length ([[], []] : List (List Int))), .ref 3 (List.length ([0, 0] : List Int)) 0 (List.length ([0, 0] : List Int))]) (H' := [.sl 6 (List.map e_SPart ([(⟨1, 4, 0, 0, 0, 0⟩ : SPart), (⟨2, 1, 0, 0, 4, 2⟩ : SPart)] : List SPart)) false, .box [.d (.int .i64 0), .d (.int .i64 0), .ref 0 (List.length ([(⟨1, 4, 0, 0, 0, 0⟩ : SPart), (⟨2, 1, 0, 0, 4, 2⟩ : SPart)] : List SPart)) 0 (List.length ([(⟨1, 4, 0, 0, 0, 0⟩ : SPart), (⟨2, 1, 0, 0, 4, 2⟩ : SPart)] : List SPart))], .sl 1 (List.map e_Li64 ([[], []] : List (List Int))) false, .sl 1 (List.map e_i64 ([0, 0] : List Int)) false, .box [.ref 2 (List.length ([[], []] : List (List Int))) 0 (List.length ([[], []] : List (List Int))), .ref 3 (List.length ([0, 0] : List Int)) 0 (List.length ([0, 0] : List Int))]]) 4 0 (hi := ty31)) ?_
  refine oEnd ?_
  refine oSR rfl ?_
  refine oQ (.agg [.d (.int .i64 0), .d (.int .i64 0), .ref 0 (List.length ([(⟨1, 4, 0, 0, 0, 0⟩ : SPart), (⟨2, 1, 0, 0, 4, 2⟩ : SPart)] : List SPart)) 0 (List.length ([(⟨1, 4, 0, 0, 0, 0⟩ : SPart), (⟨2, 1, 0, 0, 4, 2⟩ : SPart)] : List SPart))]) (k_loadAgg 1 0 (hu := Try.underlying27) (hi := ty27)) ?_
  refine oQ (.agg [.ref 2 (List.length ([[], []] : List (List Int))) 0 (List.length ([[], []] : List (List Int))), .ref 3 (List.length ([0, 0] : List Int)) 0 (List.length ([0, 0] : List Int))]) (k_loadAgg 4 0 (hu := Try.underlying31) (hi := ty31)) ?_
  refine oD (.ref 5 (List.length ([(-1), 2] : List Int)) 0 (List.length ([(-1), 2] : List Int))) (k_buildSlice (H' := [.sl 6 (List.map e_SPart ([(⟨1, 4, 0, 0, 0, 0⟩ : SPart), (⟨2, 1, 0, 0, 4, 2⟩ : SPart)] : List SPart)) false, .box [.d (.int .i64 0), .d (.int .i64 0), .ref 0 (List.length ([(⟨1, 4, 0, 0, 0, 0⟩ : SPart), (⟨2, 1, 0, 0, 4, 2⟩ : SPart)] : List SPart)) 0 (List.length ([(⟨1, 4, 0, 0, 0, 0⟩ : SPart), (⟨2, 1, 0, 0, 4, 2⟩ : SPart)] : List SPart))], .sl 1 (List.map e_Li64 ([[], []] : List (List Int))) false, .sl 1 (List.map e_i64 ([0, 0] : List Int)) false, .box [.ref 2 (List.length ([[], []] : List (List Int))) 0 (List.length ([[], []] : List (List Int))), .ref 3 (List.length ([0, 0] : List Int)) 0 (List.length ([0, 0] : List Int))], .sl 1 (List.map e_i64 ([(-1), 2] : List Int)) false]) (List.map e_i64 ([(-1), 2] : List Int)) Try.underlying22 ty3) ?_
  refine oFreeze 0 (esz := 6) (xs := List.map e_SPart ([(⟨1, 4, 0, 0, 0, 0⟩ : SPart), (⟨2, 1, 0, 0, 4, 2⟩ : SPart)] : List SPart)) (h := ?_)
  refine oView (H' := [.sl 6 (List.map e_SPart ([(⟨1, 4, 0, 0, 0, 0⟩ : SPart), (⟨2, 1, 0, 0, 4, 2⟩ : SPart)] : List SPart)) true, .box [.d (.int .i64 0), .d (.int .i64 0), .ref 0 (List.length ([(⟨1, 4, 0, 0, 0, 0⟩ : SPart), (⟨2, 1, 0, 0, 4, 2⟩ : SPart)] : List SPart)) 0 (List.length ([(⟨1, 4, 0, 0, 0, 0⟩ : SPart), (⟨2, 1, 0, 0, 4, 2⟩ : SPart)] : List SPart))], .sl 1 (List.map e_Li64 ([[], []] : List (List Int))) false, .sl 1 (List.map e_i64 ([0, 0] : List Int)) false, .box [.ref 2 (List.length ([[], []] : List (List Int))) 0 (List.length ([[], []] : List (List Int))), .ref 3 (List.length ([0, 0] : List Int)) 0 (List.length ([0, 0] : List Int))], .sl 1 (List.map e_i64 ([(-1), 2] : List Int)) false]) rfl (h := ?_)
  refine oFreeze 2 (esz := 1) (xs := List.map e_Li64 ([[], []] : List (List Int))) (h := ?_)
  refine oView (H' := [.sl 6 (List.map e_SPart ([(⟨1, 4, 0, 0, 0, 0⟩ : SPart), (⟨2, 1, 0, 0, 4, 2⟩ : SPart)] : List SPart)) true, .box [.d (.int .i64 0), .d (.int .i64 0), .ref 0 (List.length ([(⟨1, 4, 0, 0, 0, 0⟩ : SPart), (⟨2, 1, 0, 0, 4, 2⟩ : SPart)] : List SPart)) 0 (List.length ([(⟨1, 4, 0, 0, 0, 0⟩ : SPart), (⟨2, 1, 0, 0, 4, 2⟩ : SPart)] : List SPart))], .sl 1 (List.map e_Li64 ([[], []] : List (List Int))) true, .sl 1 (List.map e_i64 ([0, 0] : List Int)) false, .box [.ref 2 (List.length ([[], []] : List (List Int))) 0 (List.length ([[], []] : List (List Int))), .ref 3 (List.length ([0, 0] : List Int)) 0 (List.length ([0, 0] : List Int))], .sl 1 (List.map e_i64 ([(-1), 2] : List Int)) false]) rfl (h := ?_)
  refine oFreeze 3 (esz := 1) (xs := List.map e_i64 ([0, 0] : List Int)) (h := ?_)
  refine oView (H' := [.sl 6 (List.map e_SPart ([(⟨1, 4, 0, 0, 0, 0⟩ : SPart), (⟨2, 1, 0, 0, 4, 2⟩ : SPart)] : List SPart)) true, .box [.d (.int .i64 0), .d (.int .i64 0), .ref 0 (List.length ([(⟨1, 4, 0, 0, 0, 0⟩ : SPart), (⟨2, 1, 0, 0, 4, 2⟩ : SPart)] : List SPart)) 0 (List.length ([(⟨1, 4, 0, 0, 0, 0⟩ : SPart), (⟨2, 1, 0, 0, 4, 2⟩ : SPart)] : List SPart))], .sl 1 (List.map e_Li64 ([[], []] : List (List Int))) true, .sl 1 (List.map e_i64 ([0, 0] : List Int)) true, .box [.ref 2 (List.length ([[], []] : List (List Int))) 0 (List.length ([[], []] : List (List Int))), .ref 3 (List.length ([0, 0] : List Int)) 0 (List.length ([0, 0] : List Int))], .sl 1 (List.map e_i64 ([(-1), 2] : List Int)) false]) rfl (h := ?_)
  refine oFreeze 5 (esz := 1) (xs := List.map e_i64 ([(-1), 2] : List Int)) (h := ?_)
  refine oView (H' := [.sl 6 (List.map e_SPart ([(⟨1, 4, 0, 0, 0, 0⟩ : SPart), (⟨2, 1, 0, 0, 4, 2⟩ : SPart)] : List SPart)) true, .box [.d (.int .i64 0), .d (.int .i64 0), .ref 0 (List.length ([(⟨1, 4, 0, 0, 0, 0⟩ : SPart), (⟨2, 1, 0, 0, 4, 2⟩ : SPart)] : List SPart)) 0 (List.length ([(⟨1, 4, 0, 0, 0, 0⟩ : SPart), (⟨2, 1, 0, 0, 4, 2⟩ : SPart)] : List SPart))], .sl 1 (List.map e_Li64 ([[], []] : List (List Int))) true, .sl 1 (List.map e_i64 ([0, 0] : List Int)) true, .box [.ref 2 (List.length ([[], []] : List (List Int))) 0 (List.length ([[], []] : List (List Int))), .ref 3 (List.length ([0, 0] : List Int)) 0 (List.length ([0, 0] : List Int))], .sl 1 (List.map e_i64 ([(-1), 2] : List Int)) true]) rfl (h := ?_)
  refine bCall (caps := []) (v := (uc fun (r133 : (List Int)) => (fun (r142 : Int) => (.tuple [.d (.lit (List.map e_i64 r133)), .d (.int .i64 r142)] : V)))) (H' := (uc fun (r133 : (List Int)) => (fun (r142 : Int) => ([.sl 6 (List.map e_SPart ([(⟨1, 4, 0, 0, 0, 0⟩ : SPart), (⟨2, 1, 0, 0, 4, 2⟩ : SPart)] : List SPart)) true, .box [.d (.int .i64 0), .d (.int .i64 0), .ref 0 (List.length ([(⟨1, 4, 0, 0, 0, 0⟩ : SPart), (⟨2, 1, 0, 0, 4, 2⟩ : SPart)] : List SPart)) 0 (List.length ([(⟨1, 4, 0, 0, 0, 0⟩ : SPart), (⟨2, 1, 0, 0, 4, 2⟩ : SPart)] : List SPart))], .sl 1 (List.map e_Li64 ([[], []] : List (List Int))) true, .sl 1 (List.map e_i64 ([0, 0] : List Int)) true, .box [.ref 2 (List.length ([[], []] : List (List Int))) 0 (List.length ([[], []] : List (List Int))), .ref 3 (List.length ([0, 0] : List Int)) 0 (List.length ([0, 0] : List Int))], .sl 1 (List.map e_i64 ([(-1), 2] : List Int)) true] : List Blk)))) [] _ (scheme_Closed_goes k 0 0 ([(⟨1, 4, 0, 0, 0, 0⟩ : SPart), (⟨2, 1, 0, 0, 4, 2⟩ : SPart)] : List SPart) ([[], []] : List (List Int)) ([0, 0] : List Int) ([(-1), 2] : List Int)) (ho := rfl) (hfn := Try.func16) (hb := rfl) (hconv := (convList (vs0 := [.agg [.d (.int .i64 0), .d (.int .i64 0), .ref 0 (List.length ([(⟨1, 4, 0, 0, 0, 0⟩ : SPart), (⟨2, 1, 0, 0, 4, 2⟩ : SPart)] : List SPart)) 0 (List.length ([(⟨1, 4, 0, 0, 0, 0⟩ : SPart), (⟨2, 1, 0, 0, 4, 2⟩ : SPart)] : List SPart))], .agg [.ref 2 (List.length ([[], []] : List (List Int))) 0 (List.length ([[], []] : List (List Int))), .ref 3 (List.length ([0, 0] : List Int)) 0 (List.length ([0, 0] : List Int))], .ref 5 (List.length ([(-1), 2] : List Int)) 0 (List.length ([(-1), 2] : List Int))]) (vs := [.agg [.d (.int .i64 0), .d (.int .i64 0), .d (.lit (List.map e_SPart ([(⟨1, 4, 0, 0, 0, 0⟩ : SPart), (⟨2, 1, 0, 0, 4, 2⟩ : SPart)] : List SPart)))], .agg [.d (.lit (List.map e_Li64 ([[], []] : List (List Int)))), .d (.lit (List.map e_i64 ([0, 0] : List Int)))], .d (.lit (List.map e_i64 ([(-1), 2] : List Int)))]) (p := (.cons _ _ _ _ (.agg _ _ (.cons _ _ _ _ (.same _) (.cons _ _ _ _ (.same _) (.cons _ _ _ _ (k_lit (enc := e_SPart) (sz := 6) 0 ([(⟨1, 4, 0, 0, 0, 0⟩ : SPart), (⟨2, 1, 0, 0, 4, 2⟩ : SPart)] : List SPart)) .nil)))) (.cons _ _ _ _ (.agg _ _ (.cons _ _ _ _ (k_lit (enc := e_Li64) (sz := 1) 2 ([[], []] : List (List Int))) (.cons _ _ _ _ (k_lit (enc := e_i64) (sz := 1) 3 ([0, 0] : List Int)) .nil))) (.cons _ _ _ _ (k_lit (enc := e_i64) (sz := 1) 5 ([(-1), 2] : List Int)) .nil)))))) (hnd := by decide) (hBl := fun _ => (by kernel_rfl)) (hv := fun _ => (by kernel_rfl)) (hH' := fun _ => (by kernel_rfl)) (h := fun r => ?_)
  obtain ⟨r133, r142⟩ := r
  refine bUc ?_
  refine oP (.tuple [.d (.lit (List.map e_i64 r133)), .d (.int .i64 r142)]) p_move ?_
  refine oP (.d (.lit (List.map e_i64 r133))) k_extract ?_
  refine oP (.d (.int .i64 r142)) k_extract ?_
  refine oP (.d (.lit (List.map e_i64 r133))) p_assign ?_
  refine oP (.d (.int .i64 r142)) p_assign ?_
  refine oEnd ?_
  refine oSR rfl ?_
  refine oQ (.agg [.d (.int .i64 0), .d (.int .i64 0), .ref 0 (List.length ([(⟨1, 4, 0, 0, 0, 0⟩ : SPart), (⟨2, 1, 0, 0, 4, 2⟩ : SPart)] : List SPart)) 0 (List.length ([(⟨1, 4, 0, 0, 0, 0⟩ : SPart), (⟨2, 1, 0, 0, 4, 2⟩ : SPart)] : List SPart))]) (k_loadAgg 1 0 (hu := Try.underlying27) (hi := ty27)) ?_
  refine oQ (.agg [.ref 2 (List.length ([[], []] : List (List Int))) 0 (List.length ([[], []] : List (List Int))), .ref 3 (List.length ([0, 0] : List Int)) 0 (List.length ([0, 0] : List Int))]) (k_loadAgg 4 0 (hu := Try.underlying31) (hi := ty31)) ?_
  refine oD (.ref 6 (List.length ([3, 1] : List Int)) 0 (List.length ([3, 1] : List Int))) (k_buildSlice (H' := [.sl 6 (List.map e_SPart ([(⟨1, 4, 0, 0, 0, 0⟩ : SPart), (⟨2, 1, 0, 0, 4, 2⟩ : SPart)] : List SPart)) true, .box [.d (.int .i64 0), .d (.int .i64 0), .ref 0 (List.length ([(⟨1, 4, 0, 0, 0, 0⟩ : SPart), (⟨2, 1, 0, 0, 4, 2⟩ : SPart)] : List SPart)) 0 (List.length ([(⟨1, 4, 0, 0, 0, 0⟩ : SPart), (⟨2, 1, 0, 0, 4, 2⟩ : SPart)] : List SPart))], .sl 1 (List.map e_Li64 ([[], []] : List (List Int))) true, .sl 1 (List.map e_i64 ([0, 0] : List Int)) true, .box [.ref 2 (List.length ([[], []] : List (List Int))) 0 (List.length ([[], []] : List (List Int))), .ref 3 (List.length ([0, 0] : List Int)) 0 (List.length ([0, 0] : List Int))], .sl 1 (List.map e_i64 ([(-1), 2] : List Int)) true, .sl 1 (List.map e_i64 ([3, 1] : List Int)) false]) (List.map e_i64 ([3, 1] : List Int)) Try.underlying22 ty3) ?_
  refine oFreeze 6 (esz := 1) (xs := List.map e_i64 ([3, 1] : List Int)) (h := ?_)
  refine oView (H' := [.sl 6 (List.map e_SPart ([(⟨1, 4, 0, 0, 0, 0⟩ : SPart), (⟨2, 1, 0, 0, 4, 2⟩ : SPart)] : List SPart)) true, .box [.d (.int .i64 0), .d (.int .i64 0), .ref 0 (List.length ([(⟨1, 4, 0, 0, 0, 0⟩ : SPart), (⟨2, 1, 0, 0, 4, 2⟩ : SPart)] : List SPart)) 0 (List.length ([(⟨1, 4, 0, 0, 0, 0⟩ : SPart), (⟨2, 1, 0, 0, 4, 2⟩ : SPart)] : List SPart))], .sl 1 (List.map e_Li64 ([[], []] : List (List Int))) true, .sl 1 (List.map e_i64 ([0, 0] : List Int)) true, .box [.ref 2 (List.length ([[], []] : List (List Int))) 0 (List.length ([[], []] : List (List Int))), .ref 3 (List.length ([0, 0] : List Int)) 0 (List.length ([0, 0] : List Int))], .sl 1 (List.map e_i64 ([(-1), 2] : List Int)) true, .sl 1 (List.map e_i64 ([3, 1] : List Int)) true]) rfl (h := ?_)
  refine bCall (caps := []) (v := (uc fun (r134 : Int) => (fun (r143 : Int) => (.tuple [.d (.int .i64 r134), .d (.int .i64 r143)] : V)))) (H' := (uc fun (r134 : Int) => (fun (r143 : Int) => ([.sl 6 (List.map e_SPart ([(⟨1, 4, 0, 0, 0, 0⟩ : SPart), (⟨2, 1, 0, 0, 4, 2⟩ : SPart)] : List SPart)) true, .box [.d (.int .i64 0), .d (.int .i64 0), .ref 0 (List.length ([(⟨1, 4, 0, 0, 0, 0⟩ : SPart), (⟨2, 1, 0, 0, 4, 2⟩ : SPart)] : List SPart)) 0 (List.length ([(⟨1, 4, 0, 0, 0, 0⟩ : SPart), (⟨2, 1, 0, 0, 4, 2⟩ : SPart)] : List SPart))], .sl 1 (List.map e_Li64 ([[], []] : List (List Int))) true, .sl 1 (List.map e_i64 ([0, 0] : List Int)) true, .box [.ref 2 (List.length ([[], []] : List (List Int))) 0 (List.length ([[], []] : List (List Int))), .ref 3 (List.length ([0, 0] : List Int)) 0 (List.length ([0, 0] : List Int))], .sl 1 (List.map e_i64 ([(-1), 2] : List Int)) true, .sl 1 (List.map e_i64 ([3, 1] : List Int)) true] : List Blk)))) [] _ (scheme_Total_goes k 0 0 ([(⟨1, 4, 0, 0, 0, 0⟩ : SPart), (⟨2, 1, 0, 0, 4, 2⟩ : SPart)] : List SPart) ([[], []] : List (List Int)) ([0, 0] : List Int) ([3, 1] : List Int)) (ho := rfl) (hfn := Try.func21) (hb := rfl) (hconv := (convList (vs0 := [.agg [.d (.int .i64 0), .d (.int .i64 0), .ref 0 (List.length ([(⟨1, 4, 0, 0, 0, 0⟩ : SPart), (⟨2, 1, 0, 0, 4, 2⟩ : SPart)] : List SPart)) 0 (List.length ([(⟨1, 4, 0, 0, 0, 0⟩ : SPart), (⟨2, 1, 0, 0, 4, 2⟩ : SPart)] : List SPart))], .agg [.ref 2 (List.length ([[], []] : List (List Int))) 0 (List.length ([[], []] : List (List Int))), .ref 3 (List.length ([0, 0] : List Int)) 0 (List.length ([0, 0] : List Int))], .ref 6 (List.length ([3, 1] : List Int)) 0 (List.length ([3, 1] : List Int))]) (vs := [.agg [.d (.int .i64 0), .d (.int .i64 0), .d (.lit (List.map e_SPart ([(⟨1, 4, 0, 0, 0, 0⟩ : SPart), (⟨2, 1, 0, 0, 4, 2⟩ : SPart)] : List SPart)))], .agg [.d (.lit (List.map e_Li64 ([[], []] : List (List Int)))), .d (.lit (List.map e_i64 ([0, 0] : List Int)))], .d (.lit (List.map e_i64 ([3, 1] : List Int)))]) (p := (.cons _ _ _ _ (.agg _ _ (.cons _ _ _ _ (.same _) (.cons _ _ _ _ (.same _) (.cons _ _ _ _ (k_lit (enc := e_SPart) (sz := 6) 0 ([(⟨1, 4, 0, 0, 0, 0⟩ : SPart), (⟨2, 1, 0, 0, 4, 2⟩ : SPart)] : List SPart)) .nil)))) (.cons _ _ _ _ (.agg _ _ (.cons _ _ _ _ (k_lit (enc := e_Li64) (sz := 1) 2 ([[], []] : List (List Int))) (.cons _ _ _ _ (k_lit (enc := e_i64) (sz := 1) 3 ([0, 0] : List Int)) .nil))) (.cons _ _ _ _ (k_lit (enc := e_i64) (sz := 1) 6 ([3, 1] : List Int)) .nil)))))) (hnd := by decide) (hBl := fun _ => (by kernel_rfl)) (hv := fun _ => (by kernel_rfl)) (hH' := fun _ => (by kernel_rfl)) (h := fun r => ?_)
  obtain ⟨r134, r143⟩ := r
  refine bUc ?_
  refine oP (.tuple [.d (.int .i64 r134), .d (.int .i64 r143)]) p_move ?_
  refine oP (.d (.int .i64 r134)) k_extract ?_
  refine oP (.d (.int .i64 r143)) k_extract ?_
  refine oP (.d (.int .i64 r134)) p_assign ?_
  refine oP (.d (.int .i64 r143)) p_assign ?_
  refine oEnd ?_
  refine oSR rfl ?_
  refine oQ (.agg [.d (.int .i64 0), .d (.int .i64 0), .ref 0 (List.length ([(⟨1, 4, 0, 0, 0, 0⟩ : SPart), (⟨2, 1, 0, 0, 4, 2⟩ : SPart)] : List SPart)) 0 (List.length ([(⟨1, 4, 0, 0, 0, 0⟩ : SPart), (⟨2, 1, 0, 0, 4, 2⟩ : SPart)] : List SPart))]) (k_loadAgg 1 0 (hu := Try.underlying27) (hi := ty27)) ?_
  refine oQ (.agg [.ref 2 (List.length ([[], []] : List (List Int))) 0 (List.length ([[], []] : List (List Int))), .ref 3 (List.length ([0, 0] : List Int)) 0 (List.length ([0, 0] : List Int))]) (k_loadAgg 4 0 (hu := Try.underlying31) (hi := ty31)) ?_
  refine bCall (caps := []) (v := (uc fun (r1101 : (List (List Int))) => (uc fun (r1111 : (List Int)) => (fun (r1121 : Int) => (.tuple [.agg [.d (.lit (List.map e_Li64 r1101)), .d (.lit (List.map e_i64 r1111))], .d (.int .i64 r1121)] : V))))) (H' := (uc fun (r1101 : (List (List Int))) => (uc fun (r1111 : (List Int)) => (fun (r1121 : Int) => ([.sl 6 (List.map e_SPart ([(⟨1, 4, 0, 0, 0, 0⟩ : SPart), (⟨2, 1, 0, 0, 4, 2⟩ : SPart)] : List SPart)) true, .box [.d (.int .i64 0), .d (.int .i64 0), .ref 0 (List.length ([(⟨1, 4, 0, 0, 0, 0⟩ : SPart), (⟨2, 1, 0, 0, 4, 2⟩ : SPart)] : List SPart)) 0 (List.length ([(⟨1, 4, 0, 0, 0, 0⟩ : SPart), (⟨2, 1, 0, 0, 4, 2⟩ : SPart)] : List SPart))], .sl 1 (List.map e_Li64 ([[], []] : List (List Int))) true, .sl 1 (List.map e_i64 ([0, 0] : List Int)) true, .box [.ref 2 (List.length ([[], []] : List (List Int))) 0 (List.length ([[], []] : List (List Int))), .ref 3 (List.length ([0, 0] : List Int)) 0 (List.length ([0, 0] : List Int))], .sl 1 (List.map e_i64 ([(-1), 2] : List Int)) true, .sl 1 (List.map e_i64 ([3, 1] : List Int)) true] : List Blk))))) [] _ (scheme_Withdraw_goes k 0 0 ([(⟨1, 4, 0, 0, 0, 0⟩ : SPart), (⟨2, 1, 0, 0, 4, 2⟩ : SPart)] : List SPart) ([[], []] : List (List Int)) ([0, 0] : List Int) 1 2) (ho := rfl) (hfn := Try.func26) (hb := rfl) (hconv := (convList (vs0 := [.agg [.d (.int .i64 0), .d (.int .i64 0), .ref 0 (List.length ([(⟨1, 4, 0, 0, 0, 0⟩ : SPart), (⟨2, 1, 0, 0, 4, 2⟩ : SPart)] : List SPart)) 0 (List.length ([(⟨1, 4, 0, 0, 0, 0⟩ : SPart), (⟨2, 1, 0, 0, 4, 2⟩ : SPart)] : List SPart))], .agg [.ref 2 (List.length ([[], []] : List (List Int))) 0 (List.length ([[], []] : List (List Int))), .ref 3 (List.length ([0, 0] : List Int)) 0 (List.length ([0, 0] : List Int))], .d (.int .i64 1), .d (.int .i64 2)]) (vs := [.agg [.d (.int .i64 0), .d (.int .i64 0), .d (.lit (List.map e_SPart ([(⟨1, 4, 0, 0, 0, 0⟩ : SPart), (⟨2, 1, 0, 0, 4, 2⟩ : SPart)] : List SPart)))], .agg [.d (.lit (List.map e_Li64 ([[], []] : List (List Int)))), .d (.lit (List.map e_i64 ([0, 0] : List Int)))], .d (.int .i64 1), .d (.int .i64 2)]) (p := (.cons _ _ _ _ (.agg _ _ (.cons _ _ _ _ (.same _) (.cons _ _ _ _ (.same _) (.cons _ _ _ _ (k_lit (enc := e_SPart) (sz := 6) 0 ([(⟨1, 4, 0, 0, 0, 0⟩ : SPart), (⟨2, 1, 0, 0, 4, 2⟩ : SPart)] : List SPart)) .nil)))) (.cons _ _ _ _ (.agg _ _ (.cons _ _ _ _ (k_lit (enc := e_Li64) (sz := 1) 2 ([[], []] : List (List Int))) (.cons _ _ _ _ (k_lit (enc := e_i64) (sz := 1) 3 ([0, 0] : List Int)) .nil))) (.cons _ _ _ _ (.same _) (.cons _ _ _ _ (.same _) .nil))))))) (hnd := by decide) (hBl := fun _ => (by kernel_rfl)) (hv := fun _ => (by kernel_rfl)) (hH' := fun _ => (by kernel_rfl)) (h := fun r => ?_)
  obtain ⟨r1101, r1111, r1121⟩ := r
  refine bUc ?_
  refine bUc ?_
  refine oP (.tuple [.agg [.d (.lit (List.map e_Li64 r1101)), .d (.lit (List.map e_i64 r1111))], .d (.int .i64 r1121)]) p_move ?_
  refine oP (.agg [.d (.lit (List.map e_Li64 r1101)), .d (.lit (List.map e_i64 r1111))]) k_extract ?_
  refine oP (.d (.int .i64 r1121)) k_extract ?_
  refine oD (.ptr 7 0) (k_alloc (H' := [.sl 6 (List.map e_SPart ([(⟨1, 4, 0, 0, 0, 0⟩ : SPart), (⟨2, 1, 0, 0, 4, 2⟩ : SPart)] : List SPart)) true, .box [.d (.int .i64 0), .d (.int .i64 0), .ref 0 (List.length ([(⟨1, 4, 0, 0, 0, 0⟩ : SPart), (⟨2, 1, 0, 0, 4, 2⟩ : SPart)] : List SPart)) 0 (List.length ([(⟨1, 4, 0, 0, 0, 0⟩ : SPart), (⟨2, 1, 0, 0, 4, 2⟩ : SPart)] : List SPart))], .sl 1 (List.map e_Li64 ([[], []] : List (List Int))) true, .sl 1 (List.map e_i64 ([0, 0] : List Int)) true, .box [.ref 2 (List.length ([[], []] : List (List Int))) 0 (List.length ([[], []] : List (List Int))), .ref 3 (List.length ([0, 0] : List Int)) 0 (List.length ([0, 0] : List Int))], .sl 1 (List.map e_i64 ([(-1), 2] : List Int)) true, .sl 1 (List.map e_i64 ([3, 1] : List Int)) true, .box [.nilc, .nilc]]) ty31) ?_
  refine oD (.undef) (k_store (vs := [.d (.lit (List.map e_Li64 r1101)), .d (.lit (List.map e_i64 r1111))]) (H' := [.sl 6 (List.map e_SPart ([(⟨1, 4, 0, 0, 0, 0⟩ : SPart), (⟨2, 1, 0, 0, 4, 2⟩ : SPart)] : List SPart)) true, .box [.d (.int .i64 0), .d (.int .i64 0), .ref 0 (List.length ([(⟨1, 4, 0, 0, 0, 0⟩ : SPart), (⟨2, 1, 0, 0, 4, 2⟩ : SPart)] : List SPart)) 0 (List.length ([(⟨1, 4, 0, 0, 0, 0⟩ : SPart), (⟨2, 1, 0, 0, 4, 2⟩ : SPart)] : List SPart))], .sl 1 (List.map e_Li64 ([[], []] : List (List Int))) true, .sl 1 (List.map e_i64 ([0, 0] : List Int)) true, .box [.ref 2 (List.length ([[], []] : List (List Int))) 0 (List.length ([[], []] : List (List Int))), .ref 3 (List.length ([0, 0] : List Int)) 0 (List.length ([0, 0] : List Int))], .sl 1 (List.map e_i64 ([(-1), 2] : List Int)) true, .sl 1 (List.map e_i64 ([3, 1] : List Int)) true, .box [.d (.lit (List.map e_Li64 r1101)), .d (.lit (List.map e_i64 r1111))]]) 7 0 (hi := ty31)) ?_
  refine oP (.d (.int .i64 r1121)) p_assign ?_
  refine oEnd ?_
  refine oSR rfl ?_
  refine oQ (.agg [.d (.int .i64 0), .d (.int .i64 0), .ref 0 (List.length ([(⟨1, 4, 0, 0, 0, 0⟩ : SPart), (⟨2, 1, 0, 0, 4, 2⟩ : SPart)] : List SPart)) 0 (List.length ([(⟨1, 4, 0, 0, 0, 0⟩ : SPart), (⟨2, 1, 0, 0, 4, 2⟩ : SPart)] : List SPart))]) (k_loadAgg 1 0 (hu := Try.underlying27) (hi := ty27)) ?_
  refine oQ (.agg [.d (.lit (List.map e_Li64 r1101)), .d (.lit (List.map e_i64 r1111))]) (k_loadAgg 7 0 (hu := Try.underlying31) (hi := ty31)) ?_
  refine bCall (caps := []) (v := (uc fun (r113 : Int) => (fun (r135 : Int) => (.tuple [.d (.int .i64 r113), .d (.int .i64 r135)] : V)))) (H' := (uc fun (r113 : Int) => (fun (r135 : Int) => ([.sl 6 (List.map e_SPart ([(⟨1, 4, 0, 0, 0, 0⟩ : SPart), (⟨2, 1, 0, 0, 4, 2⟩ : SPart)] : List SPart)) true, .box [.d (.int .i64 0), .d (.int .i64 0), .ref 0 (List.length ([(⟨1, 4, 0, 0, 0, 0⟩ : SPart), (⟨2, 1, 0, 0, 4, 2⟩ : SPart)] : List SPart)) 0 (List.length ([(⟨1, 4, 0, 0, 0, 0⟩ : SPart), (⟨2, 1, 0, 0, 4, 2⟩ : SPart)] : List SPart))], .sl 1 (List.map e_Li64 ([[], []] : List (List Int))) true, .sl 1 (List.map e_i64 ([0, 0] : List Int)) true, .box [.ref 2 (List.length ([[], []] : List (List Int))) 0 (List.length ([[], []] : List (List Int))), .ref 3 (List.length ([0, 0] : List Int)) 0 (List.length ([0, 0] : List Int))], .sl 1 (List.map e_i64 ([(-1), 2] : List Int)) true, .sl 1 (List.map e_i64 ([3, 1] : List Int)) true, .box [.d (.lit (List.map e_Li64 r1101)), .d (.lit (List.map e_i64 r1111))]] : List Blk)))) [] _ (scheme_Maximum_goes k 0 0 ([(⟨1, 4, 0, 0, 0, 0⟩ : SPart), (⟨2, 1, 0, 0, 4, 2⟩ : SPart)] : List SPart) r1101 r1111) (ho := rfl) (hfn := Try.func23) (hb := rfl) (hconv := (convList (vs0 := [.agg [.d (.int .i64 0), .d (.int .i64 0), .ref 0 (List.length ([(⟨1, 4, 0, 0, 0, 0⟩ : SPart), (⟨2, 1, 0, 0, 4, 2⟩ : SPart)] : List SPart)) 0 (List.length ([(⟨1, 4, 0, 0, 0, 0⟩ : SPart), (⟨2, 1, 0, 0, 4, 2⟩ : SPart)] : List SPart))], .agg [.d (.lit (List.map e_Li64 r1101)), .d (.lit (List.map e_i64 r1111))]]) (vs := [.agg [.d (.int .i64 0), .d (.int .i64 0), .d (.lit (List.map e_SPart ([(⟨1, 4, 0, 0, 0, 0⟩ : SPart), (⟨2, 1, 0, 0, 4, 2⟩ : SPart)] : List SPart)))], .agg [.d (.lit (List.map e_Li64 r1101)), .d (.lit (List.map e_i64 r1111))]]) (p := (.cons _ _ _ _ (.agg _ _ (.cons _ _ _ _ (.same _) (.cons _ _ _ _ (.same _) (.cons _ _ _ _ (k_lit (enc := e_SPart) (sz := 6) 0 ([(⟨1, 4, 0, 0, 0, 0⟩ : SPart), (⟨2, 1, 0, 0, 4, 2⟩ : SPart)] : List SPart)) .nil)))) (.cons _ _ _ _ (.same _) .nil))))) (hnd := by decide) (hBl := fun _ => (by kernel_rfl)) (hv := fun _ => (by kernel_rfl)) (hH' := fun _ => (by kernel_rfl)) (h := fun r => ?_)
  obtain ⟨r113, r135⟩ := r
  refine bUc ?_
  refine oP (.tuple [.d (.int .i64 r113), .d (.int .i64 r135)]) p_move ?_
  refine oP (.d (.int .i64 r113)) k_extract ?_
  refine oP (.d (.int .i64 r135)) k_extract ?_
  refine oP (.d (.int .i64 r113)) p_assign ?_
  refine oP (.d (.int .i64 r135)) p_assign ?_
  refine oEnd ?_
  refine oSR rfl ?_
  refine oP (.d (.int .i64 r142)) p_move ?_
  refine oP (.d (.bool (r142 == 0))) (p_int (k := .i64) (p := r142) (q := 0)) ?_
  refine oP (.d (.bool (r142 == 0))) p_move ?_
  refine bMeet 4 rfl ((fun (x6 : Bool) => [(5, .d (.int .i64 r134)), (6, .d (.int .i64 r143)), (8, .d (.int .i64 r1121)), (9, .d (.int .i64 r113)), (10, .d (.int .i64 r135)), (50, .d (.bool x6))])) ((fun (x6 : Bool) => [])) (fun s => s) (fun x6 => ?_) (fun hj6 => ?_)
  ·refine oView (T' := [(5, .d (.int .i64 r134)), (6, .d (.int .i64 r143)), (8, .d (.int .i64 r1121)), (9, .d (.int .i64 r113)), (10, .d (.int .i64 r135)), (50, .d (.bool x6))]) (H' := []) (h := ?_)
   refine oP (.d (.bool x6)) p_move ?_
   refine bMeetF (H' := []) 3 rfl ((fun (x7 : Bool) => [(5, .d (.int .i64 r134)), (8, .d (.int .i64 r1121)), (9, .d (.int .i64 r113)), (10, .d (.int .i64 r135)), (54, .d (.bool x7))])) (fun x7 => ?_) (fun F hj1 => ?_)
   ·refine oView (T' := [(5, .d (.int .i64 r134)), (8, .d (.int .i64 r1121)), (9, .d (.int .i64 r113)), (10, .d (.int .i64 r135)), (54, .d (.bool x7))]) (H' := []) (h := ?_)
    refine oP (.d (.bool x7)) p_move ?_
    refine bMeetF (H' := []) 3 rfl ((fun (x8 : Bool) => [(8, .d (.int .i64 r1121)), (9, .d (.int .i64 r113)), (10, .d (.int .i64 r135)), (58, .d (.bool x8))])) (fun x8 => ?_) (fun F hj2 => ?_)
    ·refine oView (T' := [(8, .d (.int .i64 r1121)), (9, .d (.int .i64 r113)), (10, .d (.int .i64 r135)), (58, .d (.bool x8))]) (H' := []) (h := ?_)
     refine oP (.d (.bool x8)) p_move ?_
     refine bMeetF (H' := []) 3 rfl ((fun (x9 : Bool) => [(9, .d (.int .i64 r113)), (10, .d (.int .i64 r135)), (62, .d (.bool x9))])) (fun x9 => ?_) (fun F hj3 => ?_)
     ·refine oView (T' := [(9, .d (.int .i64 r113)), (10, .d (.int .i64 r135)), (62, .d (.bool x9))]) (H' := []) (h := ?_)
      refine oP (.d (.bool x9)) p_move ?_
      refine bMeetF (H' := []) 3 rfl ((fun (x10 : Bool) => [(9, .d (.int .i64 r113)), (66, .d (.bool x10))])) (fun x10 => ?_) (fun F hj4 => ?_)
      ·refine oView (T' := [(9, .d (.int .i64 r113)), (66, .d (.bool x10))]) (H' := []) (h := ?_)
       refine oP (.d (.bool x10)) p_move ?_
       refine bMeetF (H' := []) 3 rfl ((fun (x11 : Bool) => [(70, .d (.bool x11))])) (fun x11 => ?_) (fun F hj5 => ?_)
       ·refine oView (T' := [(70, .d (.bool x11))]) (H' := []) (h := ?_)
        refine oP (.d (.bool x11)) p_assign ?_
        refine oEnd ?_
        exact oRet (r0 := x11) (rv := .d (.bool x11)) (B := []) (vs := [.d (.bool x11)]) (σ := []) (hf := Try.func19) (hrs := rfl) (hres := .cons _ _ _ _ (.tmp 0 _ (by kernel_rfl)) .nil) (hnd := by decide)
       ·refine bPickF 67 (fun c => F (c && (r113 == 4))) (h1 := fun hc => ?_) (h2 := fun hc => ?_)
        ·refine oP (.d (.int .i64 r113)) p_move ?_
         refine oP (.d (.bool (r113 == 4))) (p_int (k := .i64) (p := r113) (q := 4)) ?_
         refine oP (.d (.bool (r113 == 4))) (p_pick (b := true)) ?_
         refine oHead [70] [] (T' := [(70, .d (.bool (r113 == 4)))]) (H' := []) (hnd := by decide) (h := ?_)
         exact hj5 (r113 == 4)
        ·refine oNot (h := ?_)
         refine oNot (h := ?_)
         refine oP (.d (.bool false)) (p_pick (b := false)) ?_
         refine oHead [70] [] (T' := [(70, .d (.bool false))]) (H' := []) (hnd := by decide) (h := ?_)
         exact hj5 false
      ·refine bPickF 63 (fun c => F (c && (r135 == 0))) (h1 := fun hc => ?_) (h2 := fun hc => ?_)
       ·refine oP (.d (.int .i64 r135)) p_move ?_
        refine oP (.d (.bool (r135 == 0))) (p_int (k := .i64) (p := r135) (q := 0)) ?_
        refine oP (.d (.bool (r135 == 0))) (p_pick (b := true)) ?_
        refine oHead [9, 66] [] (T' := [(9, .d (.int .i64 r113)), (66, .d (.bool (r135 == 0)))]) (H' := []) (hnd := by decide) (h := ?_)
        exact hj4 (r135 == 0)
       ·refine oNot (h := ?_)
        refine oNot (h := ?_)
        refine oP (.d (.bool false)) (p_pick (b := false)) ?_
        refine oHead [9, 66] [] (T' := [(9, .d (.int .i64 r113)), (66, .d (.bool false))]) (H' := []) (hnd := by decide) (h := ?_)
        exact hj4 false
     ·refine bPickF 59 (fun c => F (c && (r1121 == 0))) (h1 := fun hc => ?_) (h2 := fun hc => ?_)
      ·refine oP (.d (.int .i64 r1121)) p_move ?_
       refine oP (.d (.bool (r1121 == 0))) (p_int (k := .i64) (p := r1121) (q := 0)) ?_
       refine oP (.d (.bool (r1121 == 0))) (p_pick (b := true)) ?_
       refine oHead [9, 10, 62] [] (T' := [(9, .d (.int .i64 r113)), (10, .d (.int .i64 r135)), (62, .d (.bool (r1121 == 0)))]) (H' := []) (hnd := by decide) (h := ?_)
       exact hj3 (r1121 == 0)
      ·refine oNot (h := ?_)
       refine oNot (h := ?_)
       refine oP (.d (.bool false)) (p_pick (b := false)) ?_
       refine oHead [9, 10, 62] [] (T' := [(9, .d (.int .i64 r113)), (10, .d (.int .i64 r135)), (62, .d (.bool false))]) (H' := []) (hnd := by decide) (h := ?_)
       exact hj3 false
    ·refine bPickF 55 (fun c => F (c && (r134 == 4))) (h1 := fun hc => ?_) (h2 := fun hc => ?_)
     ·refine oP (.d (.int .i64 r134)) p_move ?_
      refine oP (.d (.bool (r134 == 4))) (p_int (k := .i64) (p := r134) (q := 4)) ?_
      refine oP (.d (.bool (r134 == 4))) (p_pick (b := true)) ?_
      refine oHead [8, 9, 10, 58] [] (T' := [(8, .d (.int .i64 r1121)), (9, .d (.int .i64 r113)), (10, .d (.int .i64 r135)), (58, .d (.bool (r134 == 4)))]) (H' := []) (hnd := by decide) (h := ?_)
      exact hj2 (r134 == 4)
     ·refine oNot (h := ?_)
      refine oNot (h := ?_)
      refine oP (.d (.bool false)) (p_pick (b := false)) ?_
      refine oHead [8, 9, 10, 58] [] (T' := [(8, .d (.int .i64 r1121)), (9, .d (.int .i64 r113)), (10, .d (.int .i64 r135)), (58, .d (.bool false))]) (H' := []) (hnd := by decide) (h := ?_)
      exact hj2 false
   ·refine bPickF 51 (fun c => F (c && (r143 == 0))) (h1 := fun hc => ?_) (h2 := fun hc => ?_)
    ·refine oP (.d (.int .i64 r143)) p_move ?_
     refine oP (.d (.bool (r143 == 0))) (p_int (k := .i64) (p := r143) (q := 0)) ?_
     refine oP (.d (.bool (r143 == 0))) (p_pick (b := true)) ?_
     refine oHead [5, 8, 9, 10, 54] [] (T' := [(5, .d (.int .i64 r134)), (8, .d (.int .i64 r1121)), (9, .d (.int .i64 r113)), (10, .d (.int .i64 r135)), (54, .d (.bool (r143 == 0)))]) (H' := []) (hnd := by decide) (h := ?_)
     exact hj1 (r143 == 0)
    ·refine oNot (h := ?_)
     refine oNot (h := ?_)
     refine oP (.d (.bool false)) (p_pick (b := false)) ?_
     refine oHead [5, 8, 9, 10, 54] [] (T' := [(5, .d (.int .i64 r134)), (8, .d (.int .i64 r1121)), (9, .d (.int .i64 r113)), (10, .d (.int .i64 r135)), (54, .d (.bool false))]) (H' := []) (hnd := by decide) (h := ?_)
     exact hj1 false
  ·refine bSplit 46 (h1 := fun hc => ?_) (h2 := fun hc => ?_)
   ·refine oP (.d (.lit (List.map e_i64 r133))) p_move ?_
    refine oD (.ref 8 (List.length ([(-2), 1] : List Int)) 0 (List.length ([(-2), 1] : List Int))) (k_buildSlice (H' := [.sl 6 (List.map e_SPart ([(⟨1, 4, 0, 0, 0, 0⟩ : SPart), (⟨2, 1, 0, 0, 4, 2⟩ : SPart)] : List SPart)) true, .box [.d (.int .i64 0), .d (.int .i64 0), .ref 0 (List.length ([(⟨1, 4, 0, 0, 0, 0⟩ : SPart), (⟨2, 1, 0, 0, 4, 2⟩ : SPart)] : List SPart)) 0 (List.length ([(⟨1, 4, 0, 0, 0, 0⟩ : SPart), (⟨2, 1, 0, 0, 4, 2⟩ : SPart)] : List SPart))], .sl 1 (List.map e_Li64 ([[], []] : List (List Int))) true, .sl 1 (List.map e_i64 ([0, 0] : List Int)) true, .box [.ref 2 (List.length ([[], []] : List (List Int))) 0 (List.length ([[], []] : List (List Int))), .ref 3 (List.length ([0, 0] : List Int)) 0 (List.length ([0, 0] : List Int))], .sl 1 (List.map e_i64 ([(-1), 2] : List Int)) true, .sl 1 (List.map e_i64 ([3, 1] : List Int)) true, .box [.d (.lit (List.map e_Li64 r1101)), .d (.lit (List.map e_i64 r1111))], .sl 1 (List.map e_i64 ([(-2), 1] : List Int)) false]) (List.map e_i64 ([(-2), 1] : List Int)) Try.underlying22 ty3) ?_
    refine oFreeze 8 (esz := 1) (xs := List.map e_i64 ([(-2), 1] : List Int)) (h := ?_)
    refine oView (H' := [.sl 6 (List.map e_SPart ([(⟨1, 4, 0, 0, 0, 0⟩ : SPart), (⟨2, 1, 0, 0, 4, 2⟩ : SPart)] : List SPart)) true, .box [.d (.int .i64 0), .d (.int .i64 0), .ref 0 (List.length ([(⟨1, 4, 0, 0, 0, 0⟩ : SPart), (⟨2, 1, 0, 0, 4, 2⟩ : SPart)] : List SPart)) 0 (List.length ([(⟨1, 4, 0, 0, 0, 0⟩ : SPart), (⟨2, 1, 0, 0, 4, 2⟩ : SPart)] : List SPart))], .sl 1 (List.map e_Li64 ([[], []] : List (List Int))) true, .sl 1 (List.map e_i64 ([0, 0] : List Int)) true, .box [.ref 2 (List.length ([[], []] : List (List Int))) 0 (List.length ([[], []] : List (List Int))), .ref 3 (List.length ([0, 0] : List Int)) 0 (List.length ([0, 0] : List Int))], .sl 1 (List.map e_i64 ([(-1), 2] : List Int)) true, .sl 1 (List.map e_i64 ([3, 1] : List Int)) true, .box [.d (.lit (List.map e_Li64 r1101)), .d (.lit (List.map e_i64 r1111))], .sl 1 (List.map e_i64 ([(-2), 1] : List Int)) true]) rfl (h := ?_)
    refine bCall (caps := []) (v := (fun (r16 : Bool) => (.d (.bool r16) : V))) (H' := (fun (r16 : Bool) => ([.sl 6 (List.map e_SPart ([(⟨1, 4, 0, 0, 0, 0⟩ : SPart), (⟨2, 1, 0, 0, 4, 2⟩ : SPart)] : List SPart)) true, .box [.d (.int .i64 0), .d (.int .i64 0), .ref 0 (List.length ([(⟨1, 4, 0, 0, 0, 0⟩ : SPart), (⟨2, 1, 0, 0, 4, 2⟩ : SPart)] : List SPart)) 0 (List.length ([(⟨1, 4, 0, 0, 0, 0⟩ : SPart), (⟨2, 1, 0, 0, 4, 2⟩ : SPart)] : List SPart))], .sl 1 (List.map e_Li64 ([[], []] : List (List Int))) true, .sl 1 (List.map e_i64 ([0, 0] : List Int)) true, .box [.ref 2 (List.length ([[], []] : List (List Int))) 0 (List.length ([[], []] : List (List Int))), .ref 3 (List.length ([0, 0] : List Int)) 0 (List.length ([0, 0] : List Int))], .sl 1 (List.map e_i64 ([(-1), 2] : List Int)) true, .sl 1 (List.map e_i64 ([3, 1] : List Int)) true, .box [.d (.lit (List.map e_Li64 r1101)), .d (.lit (List.map e_i64 r1111))], .sl 1 (List.map e_i64 ([(-2), 1] : List Int)) true] : List Blk))) [] _ (ref06_Ints_goes k r133 ([(-2), 1] : List Int)) (ho := rfl) (hfn := Try.func18) (hb := rfl) (hconv := (convList (vs0 := [.d (.lit (List.map e_i64 r133)), .ref 8 (List.length ([(-2), 1] : List Int)) 0 (List.length ([(-2), 1] : List Int))]) (vs := [.d (.lit (List.map e_i64 r133)), .d (.lit (List.map e_i64 ([(-2), 1] : List Int)))]) (p := (.cons _ _ _ _ (.same _) (.cons _ _ _ _ (k_lit (enc := e_i64) (sz := 1) 8 ([(-2), 1] : List Int)) .nil))))) (hnd := by decide) (hBl := fun _ => (by kernel_rfl)) (hv := fun _ => (by kernel_rfl)) (hH' := fun _ => (by kernel_rfl)) (h := fun r16 => ?_)
    refine oP (.d (.bool r16)) (p_pick (b := true)) ?_
    refine oHead [5, 6, 8, 9, 10, 50] [] (T' := [(5, .d (.int .i64 r134)), (6, .d (.int .i64 r143)), (8, .d (.int .i64 r1121)), (9, .d (.int .i64 r113)), (10, .d (.int .i64 r135)), (50, .d (.bool r16))]) (H' := []) (hnd := by decide) (h := ?_)
    exact hj6 r16
   ·refine oNot (h := ?_)
    refine oNot (h := ?_)
    refine oNot (h := ?_)
    refine oP (.d (.bool false)) (p_pick (b := false)) ?_
    refine oHead [5, 6, 8, 9, 10, 50] [] (T' := [(5, .d (.int .i64 r134)), (6, .d (.int .i64 r143)), (8, .d (.int .i64 r1121)), (9, .d (.int .i64 r113)), (10, .d (.int .i64 r135)), (50, .d (.bool false))]) (H' := []) (hnd := by decide) (h := ?_)
    exact hj6 false

/-- awardingbody/awardingbodylaw23.SchemeWithdraws -/
def law23_SchemeWithdraws (k : Nat) (t : (List Int)) (part : Int) (kind : Int) : Option (Bool) := Option.bind (make_New k t) (fun x5 => Option.bind (make_Tape_LoosePaper k x5 0) (uc fun r141 => uc fun r152 => uc fun r162 => fun x111 => Option.bind (make_Tape_Scheme k r141 r152 r162 x5 x111) (uc fun r153 => uc fun r163 => fun x561 => Option.bind (make_Cut k part 7) (fun r18 => Option.bind (make_Cut k kind 5) (fun r19 => Option.bind (scheme_Withdraw k r141 r152 r162 r153 r163 part kind) (uc fun r1102 => uc fun r1112 => fun r1122 => Option.bind (ref23_Withdraw k r141 r152 r162 r153 r163 part kind) (uc fun r115 => uc fun r125 => fun r132 => Option.bind (scheme_Withdraw k r141 r152 r162 r153 r163 r18 (IntKind.wrap .i64 (r19 - 1))) (uc fun r1103 => uc fun r1113 => fun r1123 => Option.bind (ref23_Withdraw k r141 r152 r162 r153 r163 r18 (IntKind.wrap .i64 (r19 - 1))) (uc fun r116 => uc fun r126 => fun r133 => Option.bind (law23_same k r1102 r1112 r115 r125) (fun r127 => blet (r127 && (r1122 == r132)) fun x6 => Option.bind (bif x6 then Option.bind (law23_same k r1103 r1113 r116 r126) (fun r1211 => some r1211) else some false : Option (Bool)) (fun x7 => blet (x7 && (r1123 == r133)) fun x8 => Option.bind (bif x8 then Option.bind (law23_awake k) (fun r1210 => some r1210) else some false : Option (Bool)) (fun x9 => some x9))))))))))))
def law23_SchemeWithdraws_E (t : (List Int)) (part : Int) (kind : Int) : Bool → V × List Blk := fun r17 => (.d (.bool r17), [])
theorem law23_SchemeWithdraws_goes (k : Nat) (t : (List Int)) (part : Int) (kind : Int) : RunsO Try.prog 5 [.d (.lit (List.map e_i64 t)), .d (.int .i64 part), .d (.int .i64 kind)] [] (law23_SchemeWithdraws_E t part kind) (law23_SchemeWithdraws k t part kind) := by
  refine RunsO.of_goes (N := 85) (m := 0) (T := [(0, .d (.lit (List.map e_i64 t))), (1, .d (.int .i64 part)), (2, .d (.int .i64 kind))]) Try.func5 rfl rfl (h := ?_)
  unfold law23_SchemeWithdraws
  refine bStart ?_
  refine oSR rfl ?_
  refine oP (.d (.bool false)) p_assign ?_
  refine oEnd ?_
  refine oSR rfl ?_
  refine oP (.d (.lit (List.map e_i64 t))) p_move ?_
  refine bCall (caps := []) (v := (fun (x5 : (List Int)) => (.ptr 0 0 : V))) (H' := (fun (x5 : (List Int)) => ([.box [.d (.lit (List.map e_i64 x5)), .d (.int .i64 0)]] : List Blk))) [] _ (make_New_goes k t) (ho := rfl) (hfn := Try.func12) (hb := rfl) (hconv := ConvRs.refl _ _) (hnd := by decide) (hBl := fun _ => (by kernel_rfl)) (hv := fun _ => (by kernel_rfl)) (hH' := fun _ => (by kernel_rfl)) (h := fun x5 => ?_)
  refine oP (.ptr 0 0) p_assign ?_
  refine oEnd ?_
  refine oSR rfl ?_
  refine oP (.ptr 0 0) p_move ?_
  refine bCall (caps := []) (v := (uc fun (r141 : Int) => (uc fun (r152 : Int) => (uc fun (r162 : (List SPart)) => (fun (x111 : Int) => (.agg [.d (.int .i64 r141), .d (.int .i64 r152), .d (.lit (List.map e_SPart r162))] : V)))))) (H' := (uc fun (r141 : Int) => (uc fun (r152 : Int) => (uc fun (r162 : (List SPart)) => (fun (x111 : Int) => ([.box [.d (.lit (List.map e_i64 x5)), .d (.int .i64 x111)]] : List Blk)))))) [0] _ (make_Tape_LoosePaper_goes k x5 0) (ho := rfl) (hfn := Try.func13) (hb := rfl) (hconv := ConvRs.refl _ _) (hnd := by decide) (hBl := fun _ => (by kernel_rfl)) (hv := fun _ => (by kernel_rfl)) (hH' := fun _ => (by kernel_rfl)) (h := fun r => ?_)
  obtain ⟨r141, r152, r162, x111⟩ := r
  refine bUc ?_
  refine bUc ?_
  refine bUc ?_
  refine oD (.ptr 1 0) (k_alloc (H' := [.box [.d (.lit (List.map e_i64 x5)), .d (.int .i64 x111)], .box [.d (.int .i64 0), .d (.int .i64 0), .nilc]]) ty27) ?_
  refine oD (.undef) (k_store (vs := [.d (.int .i64 r141), .d (.int .i64 r152), .d (.lit (List.map e_SPart r162))]) (H' := [.box [.d (.lit (List.map e_i64 x5)), .d (.int .i64 x111)], .box [.d (.int .i64 r141), .d (.int .i64 r152), .d (.lit (List.map e_SPart r162))]]) 1 0 (hi := ty27)) ?_
  refine oEnd ?_
  refine oSR rfl ?_
  refine oP (.ptr 0 0) p_move ?_
  refine oQ (.agg [.d (.int .i64 r141), .d (.int .i64 r152), .d (.lit (List.map e_SPart r162))]) (k_loadAgg 1 0 (hu := Try.underlying27) (hi := ty27)) ?_
  refine bCall (caps := []) (v := (uc fun (r153 : (List (List Int))) => (uc fun (r163 : (List Int)) => (fun (x561 : Int) => (.agg [.d (.lit (List.map e_Li64 r153)), .d (.lit (List.map e_i64 r163))] : V))))) (H' := (uc fun (r153 : (List (List Int))) => (uc fun (r163 : (List Int)) => (fun (x561 : Int) => ([.box [.d (.lit (List.map e_i64 x5)), .d (.int .i64 x561)], .box [.d (.int .i64 r141), .d (.int .i64 r152), .d (.lit (List.map e_SPart r162))]] : List Blk))))) [0] _ (make_Tape_Scheme_goes k r141 r152 r162 x5 x111) (ho := rfl) (hfn := Try.func14) (hb := rfl) (hconv := ConvRs.refl _ _) (hnd := by decide) (hBl := fun _ => (by kernel_rfl)) (hv := fun _ => (by kernel_rfl)) (hH' := fun _ => (by kernel_rfl)) (h := fun r => ?_)
  obtain ⟨r153, r163, x561⟩ := r
  refine bUc ?_
  refine bUc ?_
  refine oD (.ptr 2 0) (k_alloc (H' := [.box [.d (.lit (List.map e_i64 x5)), .d (.int .i64 x561)], .box [.d (.int .i64 r141), .d (.int .i64 r152), .d (.lit (List.map e_SPart r162))], .box [.nilc, .nilc]]) ty31) ?_
  refine oD (.undef) (k_store (vs := [.d (.lit (List.map e_Li64 r153)), .d (.lit (List.map e_i64 r163))]) (H' := [.box [.d (.lit (List.map e_i64 x5)), .d (.int .i64 x561)], .box [.d (.int .i64 r141), .d (.int .i64 r152), .d (.lit (List.map e_SPart r162))], .box [.d (.lit (List.map e_Li64 r153)), .d (.lit (List.map e_i64 r163))]]) 2 0 (hi := ty31)) ?_
  refine oEnd ?_
  refine oSR rfl ?_
  refine oP (.d (.int .i64 part)) p_move ?_
  refine bCall (caps := []) (v := (fun (r18 : Int) => (.d (.int .i64 r18) : V))) (H' := (fun (r18 : Int) => ([.box [.d (.lit (List.map e_i64 x5)), .d (.int .i64 x561)], .box [.d (.int .i64 r141), .d (.int .i64 r152), .d (.lit (List.map e_SPart r162))], .box [.d (.lit (List.map e_Li64 r153)), .d (.lit (List.map e_i64 r163))]] : List Blk))) [] _ (make_Cut_goes k part 7) (ho := rfl) (hfn := Try.func25) (hb := rfl) (hconv := ConvRs.refl _ _) (hnd := by decide) (hBl := fun _ => (by kernel_rfl)) (hv := fun _ => (by kernel_rfl)) (hH' := fun _ => (by kernel_rfl)) (h := fun r18 => ?_)
  refine oP (.d (.int .i64 kind)) p_move ?_
  refine bCall (caps := []) (v := (fun (r19 : Int) => (.d (.int .i64 r19) : V))) (H' := (fun (r19 : Int) => ([.box [.d (.lit (List.map e_i64 x5)), .d (.int .i64 x561)], .box [.d (.int .i64 r141), .d (.int .i64 r152), .d (.lit (List.map e_SPart r162))], .box [.d (.lit (List.map e_Li64 r153)), .d (.lit (List.map e_i64 r163))]] : List Blk))) [] _ (make_Cut_goes k kind 5) (ho := rfl) (hfn := Try.func25) (hb := rfl) (hconv := ConvRs.refl _ _) (hnd := by decide) (hBl := fun _ => (by kernel_rfl)) (hv := fun _ => (by kernel_rfl)) (hH' := fun _ => (by kernel_rfl)) (h := fun r19 => ?_)
  refine oP (.d (.int .i64 (IntKind.wrap .i64 (r19 - 1)))) (p_int (k := .i64) (p := r19) (q := 1)) ?_
  refine oP (.d (.int .i64 r18)) p_assign ?_
  refine oP (.d (.int .i64 (IntKind.wrap .i64 (r19 - 1)))) p_assign ?_
  refine oEnd ?_
  refine oSR rfl ?_
  refine oQ (.agg [.d (.int .i64 r141), .d (.int .i64 r152), .d (.lit (List.map e_SPart r162))]) (k_loadAgg 1 0 (hu := Try.underlying27) (hi := ty27)) ?_
  refine oQ (.agg [.d (.lit (List.map e_Li64 r153)), .d (.lit (List.map e_i64 r163))]) (k_loadAgg 2 0 (hu := Try.underlying31) (hi := ty31)) ?_
  refine oP (.d (.int .i64 part)) p_move ?_
  refine oP (.d (.int .i64 kind)) p_move ?_
  refine bCall (caps := []) (v := (uc fun (r1102 : (List (List Int))) => (uc fun (r1112 : (List Int)) => (fun (r1122 : Int) => (.tuple [.agg [.d (.lit (List.map e_Li64 r1102)), .d (.lit (List.map e_i64 r1112))], .d (.int .i64 r1122)] : V))))) (H' := (uc fun (r1102 : (List (List Int))) => (uc fun (r1112 : (List Int)) => (fun (r1122 : Int) => ([.box [.d (.lit (List.map e_i64 x5)), .d (.int .i64 x561)], .box [.d (.int .i64 r141), .d (.int .i64 r152), .d (.lit (List.map e_SPart r162))], .box [.d (.lit (List.map e_Li64 r153)), .d (.lit (List.map e_i64 r163))]] : List Blk))))) [] _ (scheme_Withdraw_goes k r141 r152 r162 r153 r163 part kind) (ho := rfl) (hfn := Try.func26) (hb := rfl) (hconv := ConvRs.refl _ _) (hnd := by decide) (hBl := fun _ => (by kernel_rfl)) (hv := fun _ => (by kernel_rfl)) (hH' := fun _ => (by kernel_rfl)) (h := fun r => ?_)
  obtain ⟨r1102, r1112, r1122⟩ := r
  refine bUc ?_
  refine bUc ?_
  refine oP (.tuple [.agg [.d (.lit (List.map e_Li64 r1102)), .d (.lit (List.map e_i64 r1112))], .d (.int .i64 r1122)]) p_move ?_
  refine oP (.agg [.d (.lit (List.map e_Li64 r1102)), .d (.lit (List.map e_i64 r1112))]) k_extract ?_
  refine oP (.d (.int .i64 r1122)) k_extract ?_
  refine oD (.ptr 3 0) (k_alloc (H' := [.box [.d (.lit (List.map e_i64 x5)), .d (.int .i64 x561)], .box [.d (.int .i64 r141), .d (.int .i64 r152), .d (.lit (List.map e_SPart r162))], .box [.d (.lit (List.map e_Li64 r153)), .d (.lit (List.map e_i64 r163))], .box [.nilc, .nilc]]) ty31) ?_
  refine oD (.undef) (k_store (vs := [.d (.lit (List.map e_Li64 r1102)), .d (.lit (List.map e_i64 r1112))]) (H' := [.box [.d (.lit (List.map e_i64 x5)), .d (.int .i64 x561)], .box [.d (.int .i64 r141), .d (.int .i64 r152), .d (.lit (List.map e_SPart r162))], .box [.d (.lit (List.map e_Li64 r153)), .d (.lit (List.map e_i64 r163))], .box [.d (.lit (List.map e_Li64 r1102)), .d (.lit (List.map e_i64 r1112))]]) 3 0 (hi := ty31)) ?_
  refine oP (.d (.int .i64 r1122)) p_assign ?_
  refine oEnd ?_
  refine oSR rfl ?_
  refine oQ (.agg [.d (.int .i64 r141), .d (.int .i64 r152), .d (.lit (List.map e_SPart r162))]) (k_loadAgg 1 0 (hu := Try.underlying27) (hi := ty27)) ?_
  refine oQ (.agg [.d (.lit (List.map e_Li64 r153)), .d (.lit (List.map e_i64 r163))]) (k_loadAgg 2 0 (hu := Try.underlying31) (hi := ty31)) ?_
  refine oP (.d (.int .i64 part)) p_move ?_
  refine oP (.d (.int .i64 kind)) p_move ?_
  refine bCall (caps := []) (v := (uc fun (r115 : (List (List Int))) => (uc fun (r125 : (List Int)) => (fun (r132 : Int) => (.tuple [.agg [.d (.lit (List.map e_Li64 r115)), .d (.lit (List.map e_i64 r125))], .d (.int .i64 r132)] : V))))) (H' := (uc fun (r115 : (List (List Int))) => (uc fun (r125 : (List Int)) => (fun (r132 : Int) => ([.box [.d (.lit (List.map e_i64 x5)), .d (.int .i64 x561)], .box [.d (.int .i64 r141), .d (.int .i64 r152), .d (.lit (List.map e_SPart r162))], .box [.d (.lit (List.map e_Li64 r153)), .d (.lit (List.map e_i64 r163))], .box [.d (.lit (List.map e_Li64 r1102)), .d (.lit (List.map e_i64 r1112))]] : List Blk))))) [] _ (ref23_Withdraw_goes k r141 r152 r162 r153 r163 part kind) (ho := rfl) (hfn := Try.func27) (hb := rfl) (hconv := ConvRs.refl _ _) (hnd := by decide) (hBl := fun _ => (by kernel_rfl)) (hv := fun _ => (by kernel_rfl)) (hH' := fun _ => (by kernel_rfl)) (h := fun r => ?_)
  obtain ⟨r115, r125, r132⟩ := r
  refine bUc ?_
  refine bUc ?_
  refine oP (.tuple [.agg [.d (.lit (List.map e_Li64 r115)), .d (.lit (List.map e_i64 r125))], .d (.int .i64 r132)]) p_move ?_
  refine oP (.agg [.d (.lit (List.map e_Li64 r115)), .d (.lit (List.map e_i64 r125))]) k_extract ?_
  refine oP (.d (.int .i64 r132)) k_extract ?_
  refine oD (.ptr 4 0) (k_alloc (H' := [.box [.d (.lit (List.map e_i64 x5)), .d (.int .i64 x561)], .box [.d (.int .i64 r141), .d (.int .i64 r152), .d (.lit (List.map e_SPart r162))], .box [.d (.lit (List.map e_Li64 r153)), .d (.lit (List.map e_i64 r163))], .box [.d (.lit (List.map e_Li64 r1102)), .d (.lit (List.map e_i64 r1112))], .box [.nilc, .nilc]]) ty31) ?_
  refine oD (.undef) (k_store (vs := [.d (.lit (List.map e_Li64 r115)), .d (.lit (List.map e_i64 r125))]) (H' := [.box [.d (.lit (List.map e_i64 x5)), .d (.int .i64 x561)], .box [.d (.int .i64 r141), .d (.int .i64 r152), .d (.lit (List.map e_SPart r162))], .box [.d (.lit (List.map e_Li64 r153)), .d (.lit (List.map e_i64 r163))], .box [.d (.lit (List.map e_Li64 r1102)), .d (.lit (List.map e_i64 r1112))], .box [.d (.lit (List.map e_Li64 r115)), .d (.lit (List.map e_i64 r125))]]) 4 0 (hi := ty31)) ?_
  refine oP (.d (.int .i64 r132)) p_assign ?_
  refine oEnd ?_
  refine oSR rfl ?_
  refine oQ (.agg [.d (.int .i64 r141), .d (.int .i64 r152), .d (.lit (List.map e_SPart r162))]) (k_loadAgg 1 0 (hu := Try.underlying27) (hi := ty27)) ?_
  refine oQ (.agg [.d (.lit (List.map e_Li64 r153)), .d (.lit (List.map e_i64 r163))]) (k_loadAgg 2 0 (hu := Try.underlying31) (hi := ty31)) ?_
  refine oP (.d (.int .i64 r18)) p_move ?_
  refine oP (.d (.int .i64 (IntKind.wrap .i64 (r19 - 1)))) p_move ?_
  refine bCall (caps := []) (v := (uc fun (r1103 : (List (List Int))) => (uc fun (r1113 : (List Int)) => (fun (r1123 : Int) => (.tuple [.agg [.d (.lit (List.map e_Li64 r1103)), .d (.lit (List.map e_i64 r1113))], .d (.int .i64 r1123)] : V))))) (H' := (uc fun (r1103 : (List (List Int))) => (uc fun (r1113 : (List Int)) => (fun (r1123 : Int) => ([.box [.d (.lit (List.map e_i64 x5)), .d (.int .i64 x561)], .box [.d (.int .i64 r141), .d (.int .i64 r152), .d (.lit (List.map e_SPart r162))], .box [.d (.lit (List.map e_Li64 r153)), .d (.lit (List.map e_i64 r163))], .box [.d (.lit (List.map e_Li64 r1102)), .d (.lit (List.map e_i64 r1112))], .box [.d (.lit (List.map e_Li64 r115)), .d (.lit (List.map e_i64 r125))]] : List Blk))))) [] _ (scheme_Withdraw_goes k r141 r152 r162 r153 r163 r18 (IntKind.wrap .i64 (r19 - 1))) (ho := rfl) (hfn := Try.func26) (hb := rfl) (hconv := ConvRs.refl _ _) (hnd := by decide) (hBl := fun _ => (by kernel_rfl)) (hv := fun _ => (by kernel_rfl)) (hH' := fun _ => (by kernel_rfl)) (h := fun r => ?_)
  obtain ⟨r1103, r1113, r1123⟩ := r
  refine bUc ?_
  refine bUc ?_
  refine oP (.tuple [.agg [.d (.lit (List.map e_Li64 r1103)), .d (.lit (List.map e_i64 r1113))], .d (.int .i64 r1123)]) p_move ?_
  refine oP (.agg [.d (.lit (List.map e_Li64 r1103)), .d (.lit (List.map e_i64 r1113))]) k_extract ?_
  refine oP (.d (.int .i64 r1123)) k_extract ?_
  refine oD (.ptr 5 0) (k_alloc (H' := [.box [.d (.lit (List.map e_i64 x5)), .d (.int .i64 x561)], .box [.d (.int .i64 r141), .d (.int .i64 r152), .d (.lit (List.map e_SPart r162))], .box [.d (.lit (List.map e_Li64 r153)), .d (.lit (List.map e_i64 r163))], .box [.d (.lit (List.map e_Li64 r1102)), .d (.lit (List.map e_i64 r1112))], .box [.d (.lit (List.map e_Li64 r115)), .d (.lit (List.map e_i64 r125))], .box [.nilc, .nilc]]) ty31) ?_
  refine oD (.undef) (k_store (vs := [.d (.lit (List.map e_Li64 r1103)), .d (.lit (List.map e_i64 r1113))]) (H' := [.box [.d (.lit (List.map e_i64 x5)), .d (.int .i64 x561)], .box [.d (.int .i64 r141), .d (.int .i64 r152), .d (.lit (List.map e_SPart r162))], .box [.d (.lit (List.map e_Li64 r153)), .d (.lit (List.map e_i64 r163))], .box [.d (.lit (List.map e_Li64 r1102)), .d (.lit (List.map e_i64 r1112))], .box [.d (.lit (List.map e_Li64 r115)), .d (.lit (List.map e_i64 r125))], .box [.d (.lit (List.map e_Li64 r1103)), .d (.lit (List.map e_i64 r1113))]]) 5 0 (hi := ty31)) ?_
  refine oP (.d (.int .i64 r1123)) p_assign ?_
  refine oEnd ?_
  refine oSR rfl ?_
  refine oQ (.agg [.d (.int .i64 r141), .d (.int .i64 r152), .d (.lit (List.map e_SPart r162))]) (k_loadAgg 1 0 (hu := Try.underlying27) (hi := ty27)) ?_
  refine oQ (.agg [.d (.lit (List.map e_Li64 r153)), .d (.lit (List.map e_i64 r163))]) (k_loadAgg 2 0 (hu := Try.underlying31) (hi := ty31)) ?_
  refine oP (.d (.int .i64 r18)) p_move ?_
  refine oP (.d (.int .i64 (IntKind.wrap .i64 (r19 - 1)))) p_move ?_
  refine bCall (caps := []) (v := (uc fun (r116 : (List (List Int))) => (uc fun (r126 : (List Int)) => (fun (r133 : Int) => (.tuple [.agg [.d (.lit (List.map e_Li64 r116)), .d (.lit (List.map e_i64 r126))], .d (.int .i64 r133)] : V))))) (H' := (uc fun (r116 : (List (List Int))) => (uc fun (r126 : (List Int)) => (fun (r133 : Int) => ([.box [.d (.lit (List.map e_i64 x5)), .d (.int .i64 x561)], .box [.d (.int .i64 r141), .d (.int .i64 r152), .d (.lit (List.map e_SPart r162))], .box [.d (.lit (List.map e_Li64 r153)), .d (.lit (List.map e_i64 r163))], .box [.d (.lit (List.map e_Li64 r1102)), .d (.lit (List.map e_i64 r1112))], .box [.d (.lit (List.map e_Li64 r115)), .d (.lit (List.map e_i64 r125))], .box [.d (.lit (List.map e_Li64 r1103)), .d (.lit (List.map e_i64 r1113))]] : List Blk))))) [] _ (ref23_Withdraw_goes k r141 r152 r162 r153 r163 r18 (IntKind.wrap .i64 (r19 - 1))) (ho := rfl) (hfn := Try.func27) (hb := rfl) (hconv := ConvRs.refl _ _) (hnd := by decide) (hBl := fun _ => (by kernel_rfl)) (hv := fun _ => (by kernel_rfl)) (hH' := fun _ => (by kernel_rfl)) (h := fun r => ?_)
  obtain ⟨r116, r126, r133⟩ := r
  refine bUc ?_
  refine bUc ?_
  refine oP (.tuple [.agg [.d (.lit (List.map e_Li64 r116)), .d (.lit (List.map e_i64 r126))], .d (.int .i64 r133)]) p_move ?_
  refine oP (.agg [.d (.lit (List.map e_Li64 r116)), .d (.lit (List.map e_i64 r126))]) k_extract ?_
  refine oP (.d (.int .i64 r133)) k_extract ?_
  refine oD (.ptr 6 0) (k_alloc (H' := [.box [.d (.lit (List.map e_i64 x5)), .d (.int .i64 x561)], .box [.d (.int .i64 r141), .d (.int .i64 r152), .d (.lit (List.map e_SPart r162))], .box [.d (.lit (List.map e_Li64 r153)), .d (.lit (List.map e_i64 r163))], .box [.d (.lit (List.map e_Li64 r1102)), .d (.lit (List.map e_i64 r1112))], .box [.d (.lit (List.map e_Li64 r115)), .d (.lit (List.map e_i64 r125))], .box [.d (.lit (List.map e_Li64 r1103)), .d (.lit (List.map e_i64 r1113))], .box [.nilc, .nilc]]) ty31) ?_
  refine oD (.undef) (k_store (vs := [.d (.lit (List.map e_Li64 r116)), .d (.lit (List.map e_i64 r126))]) (H' := [.box [.d (.lit (List.map e_i64 x5)), .d (.int .i64 x561)], .box [.d (.int .i64 r141), .d (.int .i64 r152), .d (.lit (List.map e_SPart r162))], .box [.d (.lit (List.map e_Li64 r153)), .d (.lit (List.map e_i64 r163))], .box [.d (.lit (List.map e_Li64 r1102)), .d (.lit (List.map e_i64 r1112))], .box [.d (.lit (List.map e_Li64 r115)), .d (.lit (List.map e_i64 r125))], .box [.d (.lit (List.map e_Li64 r1103)), .d (.lit (List.map e_i64 r1113))], .box [.d (.lit (List.map e_Li64 r116)), .d (.lit (List.map e_i64 r126))]]) 6 0 (hi := ty31)) ?_
  refine oP (.d (.int .i64 r133)) p_assign ?_
  refine oEnd ?_
  refine oSR rfl ?_
  refine oQ (.agg [.d (.lit (List.map e_Li64 r1102)), .d (.lit (List.map e_i64 r1112))]) (k_loadAgg 3 0 (hu := Try.underlying31) (hi := ty31)) ?_
  refine oQ (.agg [.d (.lit (List.map e_Li64 r115)), .d (.lit (List.map e_i64 r125))]) (k_loadAgg 4 0 (hu := Try.underlying31) (hi := ty31)) ?_
  refine bCall (caps := []) (v := (fun (r127 : Bool) => (.d (.bool r127) : V))) (H' := (fun (r127 : Bool) => ([.box [.d (.lit (List.map e_i64 x5)), .d (.int .i64 x561)], .box [.d (.int .i64 r141), .d (.int .i64 r152), .d (.lit (List.map e_SPart r162))], .box [.d (.lit (List.map e_Li64 r153)), .d (.lit (List.map e_i64 r163))], .box [.d (.lit (List.map e_Li64 r1102)), .d (.lit (List.map e_i64 r1112))], .box [.d (.lit (List.map e_Li64 r115)), .d (.lit (List.map e_i64 r125))], .box [.d (.lit (List.map e_Li64 r1103)), .d (.lit (List.map e_i64 r1113))], .box [.d (.lit (List.map e_Li64 r116)), .d (.lit (List.map e_i64 r126))]] : List Blk))) [] _ (law23_same_goes k r1102 r1112 r115 r125) (ho := rfl) (hfn := Try.func28) (hb := rfl) (hconv := ConvRs.refl _ _) (hnd := by decide) (hBl := fun _ => (by kernel_rfl)) (hv := fun _ => (by kernel_rfl)) (hH' := fun _ => (by kernel_rfl)) (h := fun r127 => ?_)
  refine oP (.d (.bool r127)) p_move ?_
  refine bMeetF (H' := [.box [.d (.lit (List.map e_Li64 r1103)), .d (.lit (List.map e_i64 r1113))], .box [.d (.lit (List.map e_Li64 r116)), .d (.lit (List.map e_i64 r126))]]) 4 rfl ((fun (x6 : Bool) => [(16, .ptr 0 0), (17, .d (.int .i64 r1123)), (18, .ptr 1 0), (19, .d (.int .i64 r133)), (71, .d (.bool x6))])) (fun x6 => ?_) (fun F hj1 => ?_)
  ·refine oView (T' := [(16, .ptr 0 0), (17, .d (.int .i64 r1123)), (18, .ptr 1 0), (19, .d (.int .i64 r133)), (71, .d (.bool x6))]) (H' := [.box [.d (.lit (List.map e_Li64 r1103)), .d (.lit (List.map e_i64 r1113))], .box [.d (.lit (List.map e_Li64 r116)), .d (.lit (List.map e_i64 r126))]]) (h := ?_)
   refine oP (.d (.bool x6)) p_move ?_
   refine bMeet 4 rfl ((fun (x7 : Bool) => [(17, .d (.int .i64 r1123)), (19, .d (.int .i64 r133)), (76, .d (.bool x7))])) ((fun (x7 : Bool) => [])) (fun s => s) (fun x7 => ?_) (fun hj4 => ?_)
   ·refine oView (T' := [(17, .d (.int .i64 r1123)), (19, .d (.int .i64 r133)), (76, .d (.bool x7))]) (H' := []) (h := ?_)
    refine oP (.d (.bool x7)) p_move ?_
    refine bMeetF (H' := []) 4 rfl ((fun (x8 : Bool) => [(81, .d (.bool x8))])) (fun x8 => ?_) (fun F hj2 => ?_)
    ·refine oView (T' := [(81, .d (.bool x8))]) (H' := []) (h := ?_)
     refine oP (.d (.bool x8)) p_move ?_
     refine bMeet 2 rfl ((fun (x9 : Bool) => [(84, .d (.bool x9))])) ((fun (x9 : Bool) => [])) (fun s => s) (fun x9 => ?_) (fun hj3 => ?_)
     ·refine oView (T' := [(84, .d (.bool x9))]) (H' := []) (h := ?_)
      refine oP (.d (.bool x9)) p_assign ?_
      refine oEnd ?_
      exact oRet (r0 := x9) (rv := .d (.bool x9)) (B := []) (vs := [.d (.bool x9)]) (σ := []) (hf := Try.func5) (hrs := rfl) (hres := .cons _ _ _ _ (.tmp 6 _ (by kernel_rfl)) .nil) (hnd := by decide)
     ·refine bSplit 82 (h1 := fun hc => ?_) (h2 := fun hc => ?_)
      ·refine bCall (caps := []) (v := (fun (r1210 : Bool) => (.d (.bool r1210) : V))) (H' := (fun (r1210 : Bool) => ([] : List Blk))) [] _ (law23_awake_goes k) (ho := rfl) (hfn := Try.func19) (hb := rfl) (hconv := ConvRs.refl _ _) (hnd := by decide) (hBl := fun _ => (by kernel_rfl)) (hv := fun _ => (by kernel_rfl)) (hH' := fun _ => (by kernel_rfl)) (h := fun r1210 => ?_)
       refine oP (.d (.bool r1210)) (p_pick (b := true)) ?_
       refine oHead [84] [] (T' := [(84, .d (.bool r1210))]) (H' := []) (hnd := by decide) (h := ?_)
       exact hj3 r1210
      ·refine oNot (h := ?_)
       refine oP (.d (.bool false)) (p_pick (b := false)) ?_
       refine oHead [84] [] (T' := [(84, .d (.bool false))]) (H' := []) (hnd := by decide) (h := ?_)
       exact hj3 false
    ·refine bPickF 77 (fun c => F (c && (r1123 == r133))) (h1 := fun hc => ?_) (h2 := fun hc => ?_)
     ·refine oP (.d (.int .i64 r1123)) p_move ?_
      refine oP (.d (.int .i64 r133)) p_move ?_
      refine oP (.d (.bool (r1123 == r133))) (p_int (k := .i64) (p := r1123) (q := r133)) ?_
      refine oP (.d (.bool (r1123 == r133))) (p_pick (b := true)) ?_
      refine oHead [81] [] (T' := [(81, .d (.bool (r1123 == r133)))]) (H' := []) (hnd := by decide) (h := ?_)
      exact hj2 (r1123 == r133)
     ·refine oNot (h := ?_)
      refine oNot (h := ?_)
      refine oNot (h := ?_)
      refine oP (.d (.bool false)) (p_pick (b := false)) ?_
      refine oHead [81] [] (T' := [(81, .d (.bool false))]) (H' := []) (hnd := by decide) (h := ?_)
      exact hj2 false
   ·refine bSplit 72 (h1 := fun hc => ?_) (h2 := fun hc => ?_)
    ·refine oQ (.agg [.d (.lit (List.map e_Li64 r1103)), .d (.lit (List.map e_i64 r1113))]) (k_loadAgg 0 0 (hu := Try.underlying31) (hi := ty31)) ?_
     refine oQ (.agg [.d (.lit (List.map e_Li64 r116)), .d (.lit (List.map e_i64 r126))]) (k_loadAgg 1 0 (hu := Try.underlying31) (hi := ty31)) ?_
     refine bCall (caps := []) (v := (fun (r1211 : Bool) => (.d (.bool r1211) : V))) (H' := (fun (r1211 : Bool) => ([.box [.d (.lit (List.map e_Li64 r1103)), .d (.lit (List.map e_i64 r1113))], .box [.d (.lit (List.map e_Li64 r116)), .d (.lit (List.map e_i64 r126))]] : List Blk))) [] _ (law23_same_goes k r1103 r1113 r116 r126) (ho := rfl) (hfn := Try.func28) (hb := rfl) (hconv := ConvRs.refl _ _) (hnd := by decide) (hBl := fun _ => (by kernel_rfl)) (hv := fun _ => (by kernel_rfl)) (hH' := fun _ => (by kernel_rfl)) (h := fun r1211 => ?_)
     refine oP (.d (.bool r1211)) (p_pick (b := true)) ?_
     refine oHead [17, 19, 76] [] (T' := [(17, .d (.int .i64 r1123)), (19, .d (.int .i64 r133)), (76, .d (.bool r1211))]) (H' := []) (hnd := by decide) (h := ?_)
     exact hj4 r1211
    ·refine oNot (h := ?_)
     refine oNot (h := ?_)
     refine oNot (h := ?_)
     refine oP (.d (.bool false)) (p_pick (b := false)) ?_
     refine oHead [17, 19, 76] [] (T' := [(17, .d (.int .i64 r1123)), (19, .d (.int .i64 r133)), (76, .d (.bool false))]) (H' := []) (hnd := by decide) (h := ?_)
     exact hj4 false
  ·refine bPickF 67 (fun c => F (c && (r1122 == r132))) (h1 := fun hc => ?_) (h2 := fun hc => ?_)
   ·refine oP (.d (.int .i64 r1122)) p_move ?_
    refine oP (.d (.int .i64 r132)) p_move ?_
    refine oP (.d (.bool (r1122 == r132))) (p_int (k := .i64) (p := r1122) (q := r132)) ?_
    refine oP (.d (.bool (r1122 == r132))) (p_pick (b := true)) ?_
    refine oHead [16, 17, 18, 19, 71] [5, 6] (T' := [(16, .ptr 0 0), (17, .d (.int .i64 r1123)), (18, .ptr 1 0), (19, .d (.int .i64 r133)), (71, .d (.bool (r1122 == r132)))]) (H' := [.box [.d (.lit (List.map e_Li64 r1103)), .d (.lit (List.map e_i64 r1113))], .box [.d (.lit (List.map e_Li64 r116)), .d (.lit (List.map e_i64 r126))]]) (hnd := by decide) (h := ?_)
    exact hj1 (r1122 == r132)
   ·refine oNot (h := ?_)
    refine oNot (h := ?_)
    refine oNot (h := ?_)
    refine oP (.d (.bool false)) (p_pick (b := false)) ?_
    refine oHead [16, 17, 18, 19, 71] [5, 6] (T' := [(16, .ptr 0 0), (17, .d (.int .i64 r1123)), (18, .ptr 1 0), (19, .d (.int .i64 r133)), (71, .d (.bool false))]) (H' := [.box [.d (.lit (List.map e_Li64 r1103)), .d (.lit (List.map e_i64 r1113))], .box [.d (.lit (List.map e_Li64 r116)), .d (.lit (List.map e_i64 r126))]]) (hnd := by decide) (h := ?_)
    exact hj1 false

end Go.VM
