/- Plain functions that answer as the program's functions do, and the proof that they do. -/
import Derived.Test.YtdpoilkjdfnadaaProg
import Derived.KernelRfl
import Derived.Test.YtdpoilkjdfnadaaEngDeepCM
import Derived.Test.YtdpoilkjdfnadaaClFacts
import Derived.Test.YtdpoilkjdfnadaaClFuns0
import Derived.Test.YtdpoilkjdfnadaaClFuns1
import Derived.Test.YtdpoilkjdfnadaaClFuns2
import Derived.Test.YtdpoilkjdfnadaaClFuns3
namespace Go.VM
open Go.Proofs
set_option linter.unusedVariables false
set_option linter.unusedSimpArgs false
set_option maxRecDepth 100000
/-- awardingbody/scheme.Total -/
def scheme_Total (k : Nat) (p0 : Int) (p1 : Int) (p2 : (List SPart)) (s0 : (List (List Int))) (s1 : (List Int)) (marks : (List Int)) : Option (Int × Int) := Option.bind (scheme_Valid k p0 p1 p2 s0 s1) (fun r16 => bif (!r16) then some (0, 1) else bif (((List.length marks) : Int) != ((List.length p2) : Int)) then some (0, 22) else Option.bind (scheme_Marked k p0 p1 p2 s0 s1 marks) (fun r128 => bif (!r128) then some (0, 8) else Option.bind (scheme_sum k p0 p1 p2 s0 s1 marks) (fun r129 => some (r129, 0))))
def scheme_Total_E (p0 : Int) (p1 : Int) (p2 : (List SPart)) (s0 : (List (List Int))) (s1 : (List Int)) (marks : (List Int)) : Int × Int → V × List Blk := uc fun r13 => fun r14 => (.tuple [.d (.int .i64 r13), .d (.int .i64 r14)], [])
theorem scheme_Total_goes (k : Nat) (p0 : Int) (p1 : Int) (p2 : (List SPart)) (s0 : (List (List Int))) (s1 : (List Int)) (marks : (List Int)) : RunsO Try.prog 21 [.agg [.d (.int .i64 p0), .d (.int .i64 p1), .d (.lit (List.map e_SPart p2))], .agg [.d (.lit (List.map e_Li64 s0)), .d (.lit (List.map e_i64 s1))], .d (.lit (List.map e_i64 marks))] [] (scheme_Total_E p0 p1 p2 s0 s1 marks) (scheme_Total k p0 p1 p2 s0 s1 marks) := by
  refine RunsO.of_goes (N := 30) (m := 0) (T := [(0, .agg [.d (.int .i64 p0), .d (.int .i64 p1), .d (.lit (List.map e_SPart p2))]), (1, .agg [.d (.lit (List.map e_Li64 s0)), .d (.lit (List.map e_i64 s1))]), (2, .d (.lit (List.map e_i64 marks)))]) Try.func21 rfl rfl (h := ?_)
  unfold scheme_Total
  refine bStart ?_
  refine oSR rfl ?_
  refine oD (.ptr 0 0) (k_box (H' := [.box [.d (.int .i64 p0), .d (.int .i64 p1), .d (.lit (List.map e_SPart p2))]]) (cells := [.d (.int .i64 p0), .d (.int .i64 p1), .d (.lit (List.map e_SPart p2))])) ?_
  refine oD (.ptr 1 0) (k_box (H' := [.box [.d (.int .i64 p0), .d (.int .i64 p1), .d (.lit (List.map e_SPart p2))], .box [.d (.lit (List.map e_Li64 s0)), .d (.lit (List.map e_i64 s1))]]) (cells := [.d (.lit (List.map e_Li64 s0)), .d (.lit (List.map e_i64 s1))])) ?_
  refine oD (.ptr 2 0) (k_box (H' := [.box [.d (.int .i64 p0), .d (.int .i64 p1), .d (.lit (List.map e_SPart p2))], .box [.d (.lit (List.map e_Li64 s0)), .d (.lit (List.map e_i64 s1))], .box [.d (.lit (List.map e_i64 marks))]]) (cells := [.d (.lit (List.map e_i64 marks))])) ?_
  refine oP (.d (.int .i64 0)) p_assign ?_
  refine oP (.d (.int .i64 0)) p_assign ?_
  refine oEnd ?_
  refine oSeq ?_
  refine oBlock ?_
  refine oSR rfl ?_
  refine oQ (.agg [.d (.int .i64 p0), .d (.int .i64 p1), .d (.lit (List.map e_SPart p2))]) (k_loadAgg 0 0 (hu := Try.underlying27) (hi := ty27)) ?_
  refine oQ (.agg [.d (.lit (List.map e_Li64 s0)), .d (.lit (List.map e_i64 s1))]) (k_loadAgg 1 0 (hu := Try.underlying31) (hi := ty31)) ?_
  refine bCall (caps := []) (v := (fun (r16 : Bool) => (.d (.bool r16) : V))) (H' := (fun (r16 : Bool) => ([.box [.d (.int .i64 p0), .d (.int .i64 p1), .d (.lit (List.map e_SPart p2))], .box [.d (.lit (List.map e_Li64 s0)), .d (.lit (List.map e_i64 s1))], .box [.d (.lit (List.map e_i64 marks))]] : List Blk))) [] _ (scheme_Valid_goes k p0 p1 p2 s0 s1) (ho := rfl) (hfn := Try.func30) (hb := rfl) (hconv := ConvRs.refl _ _) (hnd := by decide) (hBl := fun _ => (by kernel_rfl)) (hv := fun _ => (by kernel_rfl)) (hH' := fun _ => (by kernel_rfl)) (h := fun r16 => ?_)
  refine oP (.d (.bool (!r16))) (p_not (p := r16)) ?_
  refine oP (.d (.bool (!r16))) p_assign ?_
  refine oEnd ?_
  refine bSplit 8 (h1 := fun hc => ?_) (h2 := fun hc => ?_)
  ·refine oCondT (h := ?_)
   refine oSR rfl ?_
   refine oP (.d (.int .i64 0)) p_assign ?_
   refine oP (.d (.int .i64 1)) p_assign ?_
   refine oEnd ?_
   exact oRet (r0 := (0, 1)) (rv := .tuple [.d (.int .i64 0), .d (.int .i64 1)]) (B := []) (vs := [.d (.int .i64 0), .d (.int .i64 1)]) (σ := []) (hf := Try.func21) (hrs := rfl) (hres := .cons _ _ _ _ (.tmp 6 _ (by kernel_rfl)) (.cons _ _ _ _ (.tmp 7 _ (by kernel_rfl)) .nil)) (hnd := by decide)
  ·refine oCondF (h := ?_)
   refine oSR rfl ?_
   refine oQ (.d (.lit (List.map e_i64 marks))) (k_load 2 0 (hu := Try.underlying22)) ?_
   refine oP (.d (.int .i64 ((List.length marks) : Int))) (k_lenLit (enc := e_i64) marks (hu := Try.underlying22)) ?_
   refine oP (.ptr 0 2) (k_fieldAddr 0 0 (hu := Try.underlying27) (hf := rfl) (hi := ty25)) ?_
   refine oQ (.d (.lit (List.map e_SPart p2))) (k_load 0 2 (hu := Try.underlying25)) ?_
   refine oP (.d (.int .i64 ((List.length p2) : Int))) (k_lenLit (enc := e_SPart) p2 (hu := Try.underlying25)) ?_
   refine oP (.d (.bool (((List.length marks) : Int) != ((List.length p2) : Int)))) (p_int (k := .i64) (p := ((List.length marks) : Int)) (q := ((List.length p2) : Int))) ?_
   refine oP (.d (.bool (((List.length marks) : Int) != ((List.length p2) : Int)))) p_assign ?_
   refine oEnd ?_
   refine bSplit 13 (h1 := fun hc => ?_) (h2 := fun hc => ?_)
   ·refine oCondT (h := ?_)
    refine oSR rfl ?_
    refine oP (.d (.int .i64 0)) p_assign ?_
    refine oP (.d (.int .i64 22)) p_assign ?_
    refine oEnd ?_
    exact oRet (r0 := (0, 22)) (rv := .tuple [.d (.int .i64 0), .d (.int .i64 22)]) (B := []) (vs := [.d (.int .i64 0), .d (.int .i64 22)]) (σ := []) (hf := Try.func21) (hrs := rfl) (hres := .cons _ _ _ _ (.tmp 6 _ (by kernel_rfl)) (.cons _ _ _ _ (.tmp 7 _ (by kernel_rfl)) .nil)) (hnd := by decide)
   ·refine oCondF (h := ?_)
    refine oSR rfl ?_
    refine oQ (.agg [.d (.int .i64 p0), .d (.int .i64 p1), .d (.lit (List.map e_SPart p2))]) (k_loadAgg 0 0 (hu := Try.underlying27) (hi := ty27)) ?_
    refine oQ (.agg [.d (.lit (List.map e_Li64 s0)), .d (.lit (List.map e_i64 s1))]) (k_loadAgg 1 0 (hu := Try.underlying31) (hi := ty31)) ?_
    refine oQ (.d (.lit (List.map e_i64 marks))) (k_load 2 0 (hu := Try.underlying22)) ?_
    refine bCall (caps := []) (v := (fun (r128 : Bool) => (.d (.bool r128) : V))) (H' := (fun (r128 : Bool) => ([.box [.d (.int .i64 p0), .d (.int .i64 p1), .d (.lit (List.map e_SPart p2))], .box [.d (.lit (List.map e_Li64 s0)), .d (.lit (List.map e_i64 s1))], .box [.d (.lit (List.map e_i64 marks))]] : List Blk))) [] _ (scheme_Marked_goes k p0 p1 p2 s0 s1 marks) (ho := rfl) (hfn := Try.func36) (hb := rfl) (hconv := ConvRs.refl _ _) (hnd := by decide) (hBl := fun _ => (by kernel_rfl)) (hv := fun _ => (by kernel_rfl)) (hH' := fun _ => (by kernel_rfl)) (h := fun r128 => ?_)
    refine oP (.d (.bool (!r128))) (p_not (p := r128)) ?_
    refine oP (.d (.bool (!r128))) p_assign ?_
    refine oEnd ?_
    refine bSplit 20 (h1 := fun hc => ?_) (h2 := fun hc => ?_)
    ·refine oCondT (h := ?_)
     refine oSR rfl ?_
     refine oP (.d (.int .i64 0)) p_assign ?_
     refine oP (.d (.int .i64 8)) p_assign ?_
     refine oEnd ?_
     exact oRet (r0 := (0, 8)) (rv := .tuple [.d (.int .i64 0), .d (.int .i64 8)]) (B := []) (vs := [.d (.int .i64 0), .d (.int .i64 8)]) (σ := []) (hf := Try.func21) (hrs := rfl) (hres := .cons _ _ _ _ (.tmp 6 _ (by kernel_rfl)) (.cons _ _ _ _ (.tmp 7 _ (by kernel_rfl)) .nil)) (hnd := by decide)
    ·refine oCondF (h := ?_)
     refine oSkip ?_
     refine oBlk ?_
     refine oSR rfl ?_
     refine oQ (.agg [.d (.int .i64 p0), .d (.int .i64 p1), .d (.lit (List.map e_SPart p2))]) (k_loadAgg 0 0 (hu := Try.underlying27) (hi := ty27)) ?_
     refine oQ (.agg [.d (.lit (List.map e_Li64 s0)), .d (.lit (List.map e_i64 s1))]) (k_loadAgg 1 0 (hu := Try.underlying31) (hi := ty31)) ?_
     refine oP (.fn 46 [.ptr 2 0]) p_makeFunc ?_
     refine bCall (caps := []) (v := (fun (r129 : Int) => (.d (.int .i64 r129) : V))) (H' := (fun (r129 : Int) => ([.box [.d (.int .i64 p0), .d (.int .i64 p1), .d (.lit (List.map e_SPart p2))], .box [.d (.lit (List.map e_Li64 s0)), .d (.lit (List.map e_i64 s1))], .box [.d (.lit (List.map e_i64 marks))]] : List Blk))) [2] _ (scheme_sum_goes k p0 p1 p2 s0 s1 marks) (ho := rfl) (hfn := Try.func45) (hb := rfl) (hconv := ConvRs.refl _ _) (hnd := by decide) (hBl := fun _ => (by kernel_rfl)) (hv := fun _ => (by kernel_rfl)) (hH' := fun _ => (by kernel_rfl)) (h := fun r129 => ?_)
     refine oP (.d (.int .i64 r129)) p_assign ?_
     refine oP (.d (.int .i64 0)) p_assign ?_
     refine oEnd ?_
     exact oRet (r0 := (r129, 0)) (rv := .tuple [.d (.int .i64 r129), .d (.int .i64 0)]) (B := []) (vs := [.d (.int .i64 r129), .d (.int .i64 0)]) (σ := []) (hf := Try.func21) (hrs := rfl) (hres := .cons _ _ _ _ (.tmp 6 _ (by kernel_rfl)) (.cons _ _ _ _ (.tmp 7 _ (by kernel_rfl)) .nil)) (hnd := by decide)

/-- awardingbody/scheme.there -/
def scheme_there (k : Nat) (p0 : Int) (p1 : Int) (p2 : (List SPart)) (part : Int) : Option (Bool) := blet ((decide (part ≥ 0)) && (decide (part < ((List.length p2) : Int)))) fun x1 => some x1
def scheme_there_E (p0 : Int) (p1 : Int) (p2 : (List SPart)) (part : Int) : Bool → V × List Blk := fun r1 => (.d (.bool r1), [])
theorem scheme_there_goes (k : Nat) (p0 : Int) (p1 : Int) (p2 : (List SPart)) (part : Int) : RunsO Try.prog 48 [.agg [.d (.int .i64 p0), .d (.int .i64 p1), .d (.lit (List.map e_SPart p2))], .d (.int .i64 part)] [] (scheme_there_E p0 p1 p2 part) (scheme_there k p0 p1 p2 part) := by
  refine RunsO.of_goes (N := 14) (m := 0) (T := [(0, .agg [.d (.int .i64 p0), .d (.int .i64 p1), .d (.lit (List.map e_SPart p2))]), (1, .d (.int .i64 part))]) Try.func48 rfl rfl (h := ?_)
  unfold scheme_there
  refine bStart ?_
  refine oSR rfl ?_
  refine oD (.ptr 0 0) (k_box (H' := [.box [.d (.int .i64 p0), .d (.int .i64 p1), .d (.lit (List.map e_SPart p2))]]) (cells := [.d (.int .i64 p0), .d (.int .i64 p1), .d (.lit (List.map e_SPart p2))])) ?_
  refine oP (.d (.bool false)) p_assign ?_
  refine oEnd ?_
  refine oSR rfl ?_
  refine oP (.d (.int .i64 part)) p_move ?_
  refine oP (.d (.bool (decide (part ≥ 0)))) (p_int (k := .i64) (p := part) (q := 0)) ?_
  refine oP (.d (.bool (decide (part ≥ 0)))) p_move ?_
  refine bMeetF (H' := []) 6 rfl ((fun (x1 : Bool) => [(13, .d (.bool x1))])) (fun x1 => ?_) (fun F hj1 => ?_)
  ·refine oView (T' := [(13, .d (.bool x1))]) (H' := []) (h := ?_)
   refine oP (.d (.bool x1)) p_assign ?_
   refine oEnd ?_
   exact oRet (r0 := x1) (rv := .d (.bool x1)) (B := []) (vs := [.d (.bool x1)]) (σ := []) (hf := Try.func48) (hrs := rfl) (hres := .cons _ _ _ _ (.tmp 4 _ (by kernel_rfl)) .nil) (hnd := by decide)
  ·refine bPickF 7 (fun c => F (c && (decide (part < ((List.length p2) : Int))))) (h1 := fun hc => ?_) (h2 := fun hc => ?_)
   ·refine oP (.d (.int .i64 part)) p_move ?_
    refine oP (.ptr 0 2) (k_fieldAddr 0 0 (hu := Try.underlying27) (hf := rfl) (hi := ty25)) ?_
    refine oQ (.d (.lit (List.map e_SPart p2))) (k_load 0 2 (hu := Try.underlying25)) ?_
    refine oP (.d (.int .i64 ((List.length p2) : Int))) (k_lenLit (enc := e_SPart) p2 (hu := Try.underlying25)) ?_
    refine oP (.d (.bool (decide (part < ((List.length p2) : Int))))) (p_int (k := .i64) (p := part) (q := ((List.length p2) : Int))) ?_
    refine oP (.d (.bool (decide (part < ((List.length p2) : Int))))) (p_pick (b := true)) ?_
    refine oHead [13] [] (T' := [(13, .d (.bool (decide (part < ((List.length p2) : Int)))))]) (H' := []) (hnd := by decide) (h := ?_)
    exact hj1 (decide (part < ((List.length p2) : Int)))
   ·refine oNot (h := ?_)
    refine oNot (h := ?_)
    refine oNot (h := ?_)
    refine oNot (h := ?_)
    refine oNot (h := ?_)
    refine oP (.d (.bool false)) (p_pick (b := false)) ?_
    refine oHead [13] [] (T' := [(13, .d (.bool false))]) (H' := []) (hnd := by decide) (h := ?_)
    exact hj1 false

/-- slices.Clone[[]int,int] -/
def slices_Clone_int (k : Nat) (s1 : (List Int)) : Option ((List Int)) := gcap (List.length s1) 8 (some s1)
def slices_Clone_int_E (s1 : (List Int)) : (List Int) → V × List Blk := fun r1 => (.d (.lit (List.map e_i64 r1)), [])
theorem slices_Clone_int_goes (k : Nat) (s1 : (List Int)) : RunsO Try.prog 50 [.d (.lit (List.map e_i64 s1))] [] (slices_Clone_int_E s1) (slices_Clone_int k s1) := by
  refine RunsO.of_goes (N := 8) (m := 0) (T := [(0, .d (.lit (List.map e_i64 s1)))]) Try.func50 rfl rfl (h := ?_)
  unfold slices_Clone_int
  refine bStart ?_
  refine oSR rfl ?_
  refine oP (.nilc) p_assign ?_
  refine oEnd ?_
  refine oSeq ?_
  refine oSR rfl ?_
  refine oP (.d (.lit (List.map e_i64 s1))) p_move ?_
  refine oNil (xs := List.map e_i64 s1) Try.underlying22 (h := fun β hβ => ?_)
  cases β
  ·refine oEnd ?_
   refine oCondF (h := ?_)
   refine oSkip ?_
   refine oSR rfl ?_
   refine oD (.ref 0 (List.length ([] : List Int)) 0 (List.length ([] : List Int))) (k_buildSlice (H' := [.sl 1 (List.map e_i64 ([] : List Int)) false]) (List.map e_i64 ([] : List Int)) Try.underlying22 ty3) ?_
   refine oP (.d (.lit (List.map e_i64 s1))) p_move ?_
   refine bCap (fun h11 => ?_)
   refine oD (.ref 0 (List.length s1) 0 (List.length s1)) (k_append (H' := [.sl 1 (List.map e_i64 s1) false]) (enc := e_i64) 0 ([] : List Int) s1 Try.underlying22 Try.underlying22 ty3 (hy := holdsLit e_i64_len s1) (hfit := h11)) ?_
   refine oP (.ref 0 (List.length s1) 0 (List.length s1)) p_assign ?_
   refine oEnd ?_
   refine oFreeze 0 (esz := 1) (xs := List.map e_i64 s1) (h := ?_)
   refine oView (H' := [.sl 1 (List.map e_i64 s1) true]) rfl (h := ?_)
   refine oConv 2 (v := .ref 0 (List.length s1) 0 (List.length s1)) (v' := .d (.lit (List.map e_i64 s1))) (hc := k_lit (enc := e_i64) (sz := 1) 0 s1) (h := ?_)
   exact oRet (r0 := s1) (rv := .d (.lit (List.map e_i64 s1))) (B := []) (vs := [.d (.lit (List.map e_i64 s1))]) (σ := []) (hf := Try.func50) (hrs := rfl) (hres := .cons _ _ _ _ (.tmp 2 _ (by kernel_rfl)) .nil) (hnd := by decide)
  ·have hs0 : s1 = [] := by cases s1 with | nil => rfl | cons a0 l0 => exact absurd (hβ (by simp)) (by simp)
   subst hs0
   refine bCap (fun _ => ?_)
   refine oEnd ?_
   refine oCondT (h := ?_)
   refine oSR rfl ?_
   refine oP (.nilc) p_assign ?_
   refine oEnd ?_
   refine oConv 2 (v := .nilc) (v' := .d (.lit (List.map e_i64 []))) (hc := .nil) (h := ?_)
   exact oRet (r0 := []) (rv := .d (.lit (List.map e_i64 []))) (B := []) (vs := [.d (.lit (List.map e_i64 []))]) (σ := []) (hf := Try.func50) (hrs := rfl) (hres := .cons _ _ _ _ (.tmp 2 _ (by kernel_rfl)) .nil) (hnd := by decide)

/-- slices.Clone[[]int,int] -/
def slices_Clone_int_2 (k : Nat) (s1 : (List Int)) : Option ((List Int)) := gcap (List.length s1) 8 (some s1)
theorem slices_Clone_int_2_eq : slices_Clone_int_2 = slices_Clone_int := rfl
def slices_Clone_int_2_E (s1 : (List Int)) : (List Int) → V × List Blk := fun xs => (.ref 0 (List.length xs) 0 (List.length xs), [.sl 1 (List.map e_i64 xs) false])
theorem slices_Clone_int_2_goes (k : Nat) (s1 : (List Int)) : RunsO Try.prog 50 [.d (.lit (List.map e_i64 s1))] [] (slices_Clone_int_2_E s1) (slices_Clone_int_2 k s1) := by
  refine RunsO.of_goes (N := 8) (m := 0) (T := [(0, .d (.lit (List.map e_i64 s1)))]) Try.func50 rfl rfl (h := ?_)
  unfold slices_Clone_int_2
  refine bStart ?_
  refine oSR rfl ?_
  refine oP (.nilc) p_assign ?_
  refine oEnd ?_
  refine oSeq ?_
  refine oSR rfl ?_
  refine oP (.d (.lit (List.map e_i64 s1))) p_move ?_
  refine oNil (xs := List.map e_i64 s1) Try.underlying22 (h := fun β hβ => ?_)
  cases β
  ·refine oEnd ?_
   refine oCondF (h := ?_)
   refine oSkip ?_
   refine oSR rfl ?_
   refine oD (.ref 0 (List.length ([] : List Int)) 0 (List.length ([] : List Int))) (k_buildSlice (H' := [.sl 1 (List.map e_i64 ([] : List Int)) false]) (List.map e_i64 ([] : List Int)) Try.underlying22 ty3) ?_
   refine oP (.d (.lit (List.map e_i64 s1))) p_move ?_
   refine bCap (fun h11 => ?_)
   refine oD (.ref 0 (List.length s1) 0 (List.length s1)) (k_append (H' := [.sl 1 (List.map e_i64 s1) false]) (enc := e_i64) 0 ([] : List Int) s1 Try.underlying22 Try.underlying22 ty3 (hy := holdsLit e_i64_len s1) (hfit := h11)) ?_
   refine oP (.ref 0 (List.length s1) 0 (List.length s1)) p_assign ?_
   refine oEnd ?_
   exact oRet (r0 := s1) (rv := .ref 0 (List.length s1) 0 (List.length s1)) (B := [.sl 1 (List.map e_i64 s1) false]) (vs := [.ref 0 (List.length s1) 0 (List.length s1)]) (σ := [0]) (hf := Try.func50) (hrs := rfl) (hres := .cons _ _ _ _ (.tmp 2 _ (by kernel_rfl)) .nil) (hnd := by decide)
  ·have hs0 : s1 = [] := by cases s1 with | nil => rfl | cons a0 l0 => exact absurd (hβ (by simp)) (by simp)
   subst hs0
   refine bCap (fun _ => ?_)
   refine oEnd ?_
   refine oCondT (h := ?_)
   refine oSR rfl ?_
   refine oP (.nilc) p_assign ?_
   refine oEnd ?_
   refine oVirt (esz := 1) 2 (h := ?_)
   refine oView (H' := [.sl 1 (List.map e_i64 ([] : List Int)) false]) rfl (h := ?_)
   exact oRet (r0 := ([] : List Int)) (rv := .ref 0 (List.length ([] : List Int)) 0 (List.length ([] : List Int))) (B := [.sl 1 (List.map e_i64 ([] : List Int)) false]) (vs := [.ref 0 (List.length ([] : List Int)) 0 (List.length ([] : List Int))]) (σ := [0]) (hf := Try.func50) (hrs := rfl) (hres := .cons _ _ _ _ (.tmp 2 _ (by kernel_rfl)) .nil) (hnd := by decide)

/-- awardingbody/scheme.Withdraw -/
def scheme_Withdraw_b1 (k : Nat) (s0 : (List (List Int))) (again : Int × (List (List Int)) → Option ((List (List Int)))) : Int × (List (List Int)) → Option ((List (List Int))) := uc fun x4 => fun xs10 => bif (decide (x4 < ((List.length s0) : Int))) then gidx s0 x4 fun e115 => Option.bind (slices_Clone_int k e115) (fun r19 => gcap (List.length (xs10 ++ ([r19] : List (List Int)))) 24 (again ((IntKind.wrap .i64 (x4 + 1)), (xs10 ++ ([r19] : List (List Int)))))) else some xs10
def scheme_Withdraw (k : Nat) (p0 : Int) (p1 : Int) (p2 : (List SPart)) (s0 : (List (List Int))) (s1 : (List Int)) (part : Int) (kind : Int) : Option ((List (List Int)) × (List Int) × Int) := Option.bind (scheme_Valid k p0 p1 p2 s0 s1) (fun r116 => bif (!r116) then some ([], [], 1) else Option.bind (scheme_there k p0 p1 p2 part) (fun r119 => bif (!r119) then some ([], [], 4) else Option.bind (scheme_known k kind) (fun r121 => bif (!r121) then some ([], [], 2) else Option.bind (slices_Clone_int_2 k s1) (fun xs5 => Option.bind (gloop (scheme_Withdraw_b1 k s0) k (0, ([] : List (List Int))) : Option ((List (List Int)))) (fun xs8 => gidx xs5 part fun e19 => blet (List.set xs5 (Int.toNat part) kind) fun xs9 => some (xs8, xs9, 0))))))
def scheme_Withdraw_E (p0 : Int) (p1 : Int) (p2 : (List SPart)) (s0 : (List (List Int))) (s1 : (List Int)) (part : Int) (kind : Int) : (List (List Int)) × (List Int) × Int → V × List Blk := uc fun r110 => uc fun r111 => fun r112 => (.tuple [.agg [.d (.lit (List.map e_Li64 r110)), .d (.lit (List.map e_i64 r111))], .d (.int .i64 r112)], [])
theorem scheme_Withdraw_goes (k : Nat) (p0 : Int) (p1 : Int) (p2 : (List SPart)) (s0 : (List (List Int))) (s1 : (List Int)) (part : Int) (kind : Int) : RunsO Try.prog 26 [.agg [.d (.int .i64 p0), .d (.int .i64 p1), .d (.lit (List.map e_SPart p2))], .agg [.d (.lit (List.map e_Li64 s0)), .d (.lit (List.map e_i64 s1))], .d (.int .i64 part), .d (.int .i64 kind)] [] (scheme_Withdraw_E p0 p1 p2 s0 s1 part kind) (scheme_Withdraw k p0 p1 p2 s0 s1 part kind) := by
  refine RunsO.of_goes (N := 55) (m := 0) (T := [(0, .agg [.d (.int .i64 p0), .d (.int .i64 p1), .d (.lit (List.map e_SPart p2))]), (1, .agg [.d (.lit (List.map e_Li64 s0)), .d (.lit (List.map e_i64 s1))]), (2, .d (.int .i64 part)), (3, .d (.int .i64 kind))]) Try.func26 rfl rfl (h := ?_)
  unfold scheme_Withdraw
  refine bStart ?_
  refine oSR rfl ?_
  refine oD (.ptr 0 0) (k_box (H' := [.box [.d (.int .i64 p0), .d (.int .i64 p1), .d (.lit (List.map e_SPart p2))]]) (cells := [.d (.int .i64 p0), .d (.int .i64 p1), .d (.lit (List.map e_SPart p2))])) ?_
  refine oD (.ptr 1 0) (k_box (H' := [.box [.d (.int .i64 p0), .d (.int .i64 p1), .d (.lit (List.map e_SPart p2))], .box [.d (.lit (List.map e_Li64 s0)), .d (.lit (List.map e_i64 s1))]]) (cells := [.d (.lit (List.map e_Li64 s0)), .d (.lit (List.map e_i64 s1))])) ?_
  refine oD (.ptr 2 0) (k_alloc (H' := [.box [.d (.int .i64 p0), .d (.int .i64 p1), .d (.lit (List.map e_SPart p2))], .box [.d (.lit (List.map e_Li64 s0)), .d (.lit (List.map e_i64 s1))], .box [.nilc, .nilc]]) ty31) ?_
  refine oP (.d (.int .i64 0)) p_assign ?_
  refine oEnd ?_
  refine oSeq ?_
  refine oBlock ?_
  refine oSR rfl ?_
  refine oQ (.agg [.d (.int .i64 p0), .d (.int .i64 p1), .d (.lit (List.map e_SPart p2))]) (k_loadAgg 0 0 (hu := Try.underlying27) (hi := ty27)) ?_
  refine oQ (.agg [.d (.lit (List.map e_Li64 s0)), .d (.lit (List.map e_i64 s1))]) (k_loadAgg 1 0 (hu := Try.underlying31) (hi := ty31)) ?_
  refine bCall (caps := []) (v := (fun (r116 : Bool) => (.d (.bool r116) : V))) (H' := (fun (r116 : Bool) => ([.box [.d (.int .i64 p0), .d (.int .i64 p1), .d (.lit (List.map e_SPart p2))], .box [.d (.lit (List.map e_Li64 s0)), .d (.lit (List.map e_i64 s1))], .box [.nilc, .nilc]] : List Blk))) [] _ (scheme_Valid_goes k p0 p1 p2 s0 s1) (ho := rfl) (hfn := Try.func30) (hb := rfl) (hconv := ConvRs.refl _ _) (hnd := by decide) (hBl := fun _ => (by kernel_rfl)) (hv := fun _ => (by kernel_rfl)) (hH' := fun _ => (by kernel_rfl)) (h := fun r116 => ?_)
  refine oP (.d (.bool (!r116))) (p_not (p := r116)) ?_
  refine oP (.d (.bool (!r116))) p_assign ?_
  refine oEnd ?_
  refine bSplit 13 (h1 := fun hc => ?_) (h2 := fun hc => ?_)
  ·refine oCondT (h := ?_)
   refine oSR rfl ?_
   refine oP (.agg [.nilc, .nilc]) (p_build bld31) ?_
   refine oD (.undef) (k_store (vs := [.nilc, .nilc]) (H' := [.box [.d (.int .i64 p0), .d (.int .i64 p1), .d (.lit (List.map e_SPart p2))], .box [.d (.lit (List.map e_Li64 s0)), .d (.lit (List.map e_i64 s1))], .box [.nilc, .nilc]]) 2 0 (hi := ty31)) ?_
   refine oP (.d (.int .i64 1)) p_assign ?_
   refine oEnd ?_
   refine oConvB 2 (cells := [.nilc, .nilc]) (cells' := [.d (.lit (List.map e_Li64 [])), .d (.lit (List.map e_i64 []))]) (hc := .cons _ _ _ _ .nil (.cons _ _ _ _ .nil .nil)) (h := ?_)
   refine oView (H' := [.box [.d (.int .i64 p0), .d (.int .i64 p1), .d (.lit (List.map e_SPart p2))], .box [.d (.lit (List.map e_Li64 s0)), .d (.lit (List.map e_i64 s1))], .box [.d (.lit (List.map e_Li64 [])), .d (.lit (List.map e_i64 []))]]) rfl (h := ?_)
   exact oRet (r0 := ([], [], 1)) (rv := .tuple [.agg [.d (.lit (List.map e_Li64 [])), .d (.lit (List.map e_i64 []))], .d (.int .i64 1)]) (B := []) (vs := [.agg [.d (.lit (List.map e_Li64 [])), .d (.lit (List.map e_i64 []))], .d (.int .i64 1)]) (σ := []) (hf := Try.func26) (hrs := rfl) (hres := .cons _ _ _ _ (.agg 8 31 2 0 [.d (.lit (List.map e_Li64 [])), .d (.lit (List.map e_i64 []))] [.d (.lit (List.map e_Li64 [])), .d (.lit (List.map e_i64 []))] _ _ _ _ (by kernel_rfl) (by kernel_rfl) Try.underlying31 (by kernel_rfl) ty31 (by kernel_rfl) (by kernel_rfl)) (.cons _ _ _ _ (.tmp 9 _ (by kernel_rfl)) .nil)) (hnd := by decide)
  ·refine oCondF (h := ?_)
   refine oSR rfl ?_
   refine oQ (.agg [.d (.int .i64 p0), .d (.int .i64 p1), .d (.lit (List.map e_SPart p2))]) (k_loadAgg 0 0 (hu := Try.underlying27) (hi := ty27)) ?_
   refine oP (.d (.int .i64 part)) p_move ?_
   refine bCall (caps := []) (v := (fun (r119 : Bool) => (.d (.bool r119) : V))) (H' := (fun (r119 : Bool) => ([.box [.d (.int .i64 p0), .d (.int .i64 p1), .d (.lit (List.map e_SPart p2))], .box [.d (.lit (List.map e_Li64 s0)), .d (.lit (List.map e_i64 s1))], .box [.nilc, .nilc]] : List Blk))) [] _ (scheme_there_goes k p0 p1 p2 part) (ho := rfl) (hfn := Try.func48) (hb := rfl) (hconv := ConvRs.refl _ _) (hnd := by decide) (hBl := fun _ => (by kernel_rfl)) (hv := fun _ => (by kernel_rfl)) (hH' := fun _ => (by kernel_rfl)) (h := fun r119 => ?_)
   refine oP (.d (.bool (!r119))) (p_not (p := r119)) ?_
   refine oP (.d (.bool (!r119))) p_assign ?_
   refine oEnd ?_
   refine bSplit 19 (h1 := fun hc => ?_) (h2 := fun hc => ?_)
   ·refine oCondT (h := ?_)
    refine oSR rfl ?_
    refine oP (.agg [.nilc, .nilc]) (p_build bld31) ?_
    refine oD (.undef) (k_store (vs := [.nilc, .nilc]) (H' := [.box [.d (.int .i64 p0), .d (.int .i64 p1), .d (.lit (List.map e_SPart p2))], .box [.d (.lit (List.map e_Li64 s0)), .d (.lit (List.map e_i64 s1))], .box [.nilc, .nilc]]) 2 0 (hi := ty31)) ?_
    refine oP (.d (.int .i64 4)) p_assign ?_
    refine oEnd ?_
    refine oConvB 2 (cells := [.nilc, .nilc]) (cells' := [.d (.lit (List.map e_Li64 [])), .d (.lit (List.map e_i64 []))]) (hc := .cons _ _ _ _ .nil (.cons _ _ _ _ .nil .nil)) (h := ?_)
    refine oView (H' := [.box [.d (.int .i64 p0), .d (.int .i64 p1), .d (.lit (List.map e_SPart p2))], .box [.d (.lit (List.map e_Li64 s0)), .d (.lit (List.map e_i64 s1))], .box [.d (.lit (List.map e_Li64 [])), .d (.lit (List.map e_i64 []))]]) rfl (h := ?_)
    exact oRet (r0 := ([], [], 4)) (rv := .tuple [.agg [.d (.lit (List.map e_Li64 [])), .d (.lit (List.map e_i64 []))], .d (.int .i64 4)]) (B := []) (vs := [.agg [.d (.lit (List.map e_Li64 [])), .d (.lit (List.map e_i64 []))], .d (.int .i64 4)]) (σ := []) (hf := Try.func26) (hrs := rfl) (hres := .cons _ _ _ _ (.agg 8 31 2 0 [.d (.lit (List.map e_Li64 [])), .d (.lit (List.map e_i64 []))] [.d (.lit (List.map e_Li64 [])), .d (.lit (List.map e_i64 []))] _ _ _ _ (by kernel_rfl) (by kernel_rfl) Try.underlying31 (by kernel_rfl) ty31 (by kernel_rfl) (by kernel_rfl)) (.cons _ _ _ _ (.tmp 9 _ (by kernel_rfl)) .nil)) (hnd := by decide)
   ·refine oCondF (h := ?_)
    refine oSR rfl ?_
    refine oP (.d (.int .i64 kind)) p_move ?_
    refine bCall (caps := []) (v := (fun (r121 : Bool) => (.d (.bool r121) : V))) (H' := (fun (r121 : Bool) => ([.box [.d (.int .i64 p0), .d (.int .i64 p1), .d (.lit (List.map e_SPart p2))], .box [.d (.lit (List.map e_Li64 s0)), .d (.lit (List.map e_i64 s1))], .box [.nilc, .nilc]] : List Blk))) [] _ (scheme_known_goes k kind) (ho := rfl) (hfn := Try.func49) (hb := rfl) (hconv := ConvRs.refl _ _) (hnd := by decide) (hBl := fun _ => (by kernel_rfl)) (hv := fun _ => (by kernel_rfl)) (hH' := fun _ => (by kernel_rfl)) (h := fun r121 => ?_)
    refine oP (.d (.bool (!r121))) (p_not (p := r121)) ?_
    refine oP (.d (.bool (!r121))) p_assign ?_
    refine oEnd ?_
    refine bSplit 25 (h1 := fun hc => ?_) (h2 := fun hc => ?_)
    ·refine oCondT (h := ?_)
     refine oSR rfl ?_
     refine oP (.agg [.nilc, .nilc]) (p_build bld31) ?_
     refine oD (.undef) (k_store (vs := [.nilc, .nilc]) (H' := [.box [.d (.int .i64 p0), .d (.int .i64 p1), .d (.lit (List.map e_SPart p2))], .box [.d (.lit (List.map e_Li64 s0)), .d (.lit (List.map e_i64 s1))], .box [.nilc, .nilc]]) 2 0 (hi := ty31)) ?_
     refine oP (.d (.int .i64 2)) p_assign ?_
     refine oEnd ?_
     refine oConvB 2 (cells := [.nilc, .nilc]) (cells' := [.d (.lit (List.map e_Li64 [])), .d (.lit (List.map e_i64 []))]) (hc := .cons _ _ _ _ .nil (.cons _ _ _ _ .nil .nil)) (h := ?_)
     refine oView (H' := [.box [.d (.int .i64 p0), .d (.int .i64 p1), .d (.lit (List.map e_SPart p2))], .box [.d (.lit (List.map e_Li64 s0)), .d (.lit (List.map e_i64 s1))], .box [.d (.lit (List.map e_Li64 [])), .d (.lit (List.map e_i64 []))]]) rfl (h := ?_)
     exact oRet (r0 := ([], [], 2)) (rv := .tuple [.agg [.d (.lit (List.map e_Li64 [])), .d (.lit (List.map e_i64 []))], .d (.int .i64 2)]) (B := []) (vs := [.agg [.d (.lit (List.map e_Li64 [])), .d (.lit (List.map e_i64 []))], .d (.int .i64 2)]) (σ := []) (hf := Try.func26) (hrs := rfl) (hres := .cons _ _ _ _ (.agg 8 31 2 0 [.d (.lit (List.map e_Li64 [])), .d (.lit (List.map e_i64 []))] [.d (.lit (List.map e_Li64 [])), .d (.lit (List.map e_i64 []))] _ _ _ _ (by kernel_rfl) (by kernel_rfl) Try.underlying31 (by kernel_rfl) ty31 (by kernel_rfl) (by kernel_rfl)) (.cons _ _ _ _ (.tmp 9 _ (by kernel_rfl)) .nil)) (hnd := by decide)
    ·refine oCondF (h := ?_)
     refine oSkip ?_
     refine oBlk ?_
     refine oSR rfl ?_
     refine oP (.ptr 1 1) (k_fieldAddr 1 0 (hu := Try.underlying31) (hf := rfl) (hi := ty22)) ?_
     refine oQ (.d (.lit (List.map e_i64 s1))) (k_load 1 1 (hu := Try.underlying22)) ?_
     refine bCall (caps := []) (v := (fun (xs5 : (List Int)) => (.ref 3 (List.length xs5) 0 (List.length xs5) : V))) (H' := (fun (xs5 : (List Int)) => ([.box [.d (.int .i64 p0), .d (.int .i64 p1), .d (.lit (List.map e_SPart p2))], .box [.d (.lit (List.map e_Li64 s0)), .d (.lit (List.map e_i64 s1))], .box [.nilc, .nilc], .sl 1 (List.map e_i64 xs5) false] : List Blk))) [] _ (slices_Clone_int_2_goes k s1) (ho := rfl) (hfn := Try.func50) (hb := rfl) (hconv := ConvRs.refl _ _) (hnd := by decide) (hBl := fun _ => (by kernel_rfl)) (hv := fun _ => (by kernel_rfl)) (hH' := fun _ => (by kernel_rfl)) (h := fun xs5 => ?_)
     refine oP (.agg [.nilc, .ref 3 (List.length xs5) 0 (List.length xs5)]) (p_build bld31) ?_
     refine oD (.ptr 4 0) (k_alloc (H' := [.box [.d (.int .i64 p0), .d (.int .i64 p1), .d (.lit (List.map e_SPart p2))], .box [.d (.lit (List.map e_Li64 s0)), .d (.lit (List.map e_i64 s1))], .box [.nilc, .nilc], .sl 1 (List.map e_i64 xs5) false, .box [.nilc, .nilc]]) ty31) ?_
     refine oD (.undef) (k_store (vs := [.nilc, .ref 3 (List.length xs5) 0 (List.length xs5)]) (H' := [.box [.d (.int .i64 p0), .d (.int .i64 p1), .d (.lit (List.map e_SPart p2))], .box [.d (.lit (List.map e_Li64 s0)), .d (.lit (List.map e_i64 s1))], .box [.nilc, .nilc], .sl 1 (List.map e_i64 xs5) false, .box [.nilc, .ref 3 (List.length xs5) 0 (List.length xs5)]]) 4 0 (hi := ty31)) ?_
     refine oEnd ?_
     refine oSeq ?_
     refine oSR rfl ?_
     refine oP (.ptr 1 0) (k_fieldAddr 1 0 (hu := Try.underlying31) (hf := rfl) (hi := ty29)) ?_
     refine oQ (.d (.lit (List.map e_Li64 s0))) (k_load 1 0 (hu := Try.underlying29)) ?_
     refine oP (.d (.int .i64 ((List.length s0) : Int))) (k_lenLit (enc := e_Li64) s0 (hu := Try.underlying29)) ?_
     refine oP (.d (.int .i64 0)) p_move ?_
     refine oEnd ?_
     refine bJoin ((fun (xs8 : (List (List Int))) => [(2, .d (.int .i64 part)), (3, .d (.int .i64 kind)), (8, .ptr 0 0), (10, .ptr 1 0)])) ((fun (xs8 : (List (List Int))) => [.box [.nilc, .nilc], .box [.ref 2 (List.length xs8) 0 (List.length xs8), .ref 3 (List.length xs5) 0 (List.length xs5)], .sl 1 (List.map e_Li64 xs8) false, .sl 1 (List.map e_i64 xs5) false])) (fun s => s) (fun xs8 => ?_) (fun hj2 => ?_)
     ·refine oView (T' := [(2, .d (.int .i64 part)), (3, .d (.int .i64 kind)), (8, .ptr 0 0), (10, .ptr 1 0)]) (H' := [.box [.nilc, .nilc], .box [.ref 2 (List.length xs8) 0 (List.length xs8), .ref 3 (List.length xs5) 0 (List.length xs5)], .sl 1 (List.map e_Li64 xs8) false, .sl 1 (List.map e_i64 xs5) false]) (h := ?_)
      refine oSR rfl ?_
      refine oP (.ptr 1 1) (k_fieldAddr 1 0 (hu := Try.underlying31) (hf := rfl) (hi := ty22)) ?_
      refine oQ (.ref 3 (List.length xs5) 0 (List.length xs5)) (k_load 1 1 (hu := Try.underlying22)) ?_
      refine oP (.d (.int .i64 part)) p_move ?_
      refine oP (.d (.int .i64 kind)) p_move ?_
      refine bIdx (fun e19 h119 h120 => ?_)
      refine oP (.eptr 3 (List.length xs5) (Int.toNat part) 0) (k_idxRef (enc := e_i64) (fro := false) xs5 (a := e19) (k := .i64) (i := part) (hu := Try.underlying22) (hi := ty3) (h0 := h119) (he := h120)) ?_
      refine bSet _ (fun xs9 hs1 => ?_)
      refine oD (.undef) (k_storeE (H' := [.box [.nilc, .nilc], .box [.ref 2 (List.length xs8) 0 (List.length xs8), .ref 3 (List.length xs5) 0 (List.length xs5)], .sl 1 (List.map e_Li64 xs8) false, .sl 1 (List.map e_i64 xs9) false]) 3 0 xs5 kind [(.int .i64 kind)] e_i64_len (he := h120) (hi := ty3) (hxs := hs1)) ?_
      refine oHead [8, 10] [0, 1, 2, 3] (T' := [(8, .ptr 0 0), (10, .ptr 1 0)]) (H' := [.box [.nilc, .nilc], .box [.ref 2 (List.length xs8) 0 (List.length xs8), .ref 3 (List.length xs5) 0 (List.length xs5)], .sl 1 (List.map e_Li64 xs8) false, .sl 1 (List.map e_i64 xs9) false]) (hnd := by decide) (h := ?_)
      refine oView (T' := [(8, .ptr 0 0), (10, .ptr 1 0)]) (H' := [.box [.nilc, .nilc], .box [.ref 2 (List.length xs8) 0 (List.length xs8), .ref 3 (List.length xs9) 0 (List.length xs9)], .sl 1 (List.map e_Li64 xs8) false, .sl 1 (List.map e_i64 xs9) false]) (by first | rw [(set_len hs1)] | rfl) (by first | rw [(set_len hs1)] | rfl) ?_
      refine oEnd ?_
      refine oSR rfl ?_
      refine oQ (.agg [.ref 2 (List.length xs8) 0 (List.length xs8), .ref 3 (List.length xs9) 0 (List.length xs9)]) (k_loadAgg 1 0 (hu := Try.underlying31) (hi := ty31)) ?_
      refine oD (.undef) (k_store (vs := [.ref 2 (List.length xs8) 0 (List.length xs8), .ref 3 (List.length xs9) 0 (List.length xs9)]) (H' := [.box [.ref 2 (List.length xs8) 0 (List.length xs8), .ref 3 (List.length xs9) 0 (List.length xs9)], .box [.ref 2 (List.length xs8) 0 (List.length xs8), .ref 3 (List.length xs9) 0 (List.length xs9)], .sl 1 (List.map e_Li64 xs8) false, .sl 1 (List.map e_i64 xs9) false]) 0 0 (hi := ty31)) ?_
      refine oP (.d (.int .i64 0)) p_assign ?_
      refine oEnd ?_
      refine oFreeze 2 (esz := 1) (xs := List.map e_Li64 xs8) (h := ?_)
      refine oView (H' := [.box [.ref 2 (List.length xs8) 0 (List.length xs8), .ref 3 (List.length xs9) 0 (List.length xs9)], .box [.ref 2 (List.length xs8) 0 (List.length xs8), .ref 3 (List.length xs9) 0 (List.length xs9)], .sl 1 (List.map e_Li64 xs8) true, .sl 1 (List.map e_i64 xs9) false]) rfl (h := ?_)
      refine oFreeze 3 (esz := 1) (xs := List.map e_i64 xs9) (h := ?_)
      refine oView (H' := [.box [.ref 2 (List.length xs8) 0 (List.length xs8), .ref 3 (List.length xs9) 0 (List.length xs9)], .box [.ref 2 (List.length xs8) 0 (List.length xs8), .ref 3 (List.length xs9) 0 (List.length xs9)], .sl 1 (List.map e_Li64 xs8) true, .sl 1 (List.map e_i64 xs9) true]) rfl (h := ?_)
      refine oConvB 0 (cells := [.ref 2 (List.length xs8) 0 (List.length xs8), .ref 3 (List.length xs9) 0 (List.length xs9)]) (cells' := [.d (.lit (List.map e_Li64 xs8)), .d (.lit (List.map e_i64 xs9))]) (hc := .cons _ _ _ _ (k_lit (enc := e_Li64) (sz := 1) 2 xs8) (.cons _ _ _ _ (k_lit (enc := e_i64) (sz := 1) 3 xs9) .nil)) (h := ?_)
      refine oView (H' := [.box [.d (.lit (List.map e_Li64 xs8)), .d (.lit (List.map e_i64 xs9))], .box [.ref 2 (List.length xs8) 0 (List.length xs8), .ref 3 (List.length xs9) 0 (List.length xs9)], .sl 1 (List.map e_Li64 xs8) true, .sl 1 (List.map e_i64 xs9) true]) rfl (h := ?_)
      exact oRet (r0 := (xs8, xs9, 0)) (rv := .tuple [.agg [.d (.lit (List.map e_Li64 xs8)), .d (.lit (List.map e_i64 xs9))], .d (.int .i64 0)]) (B := []) (vs := [.agg [.d (.lit (List.map e_Li64 xs8)), .d (.lit (List.map e_i64 xs9))], .d (.int .i64 0)]) (σ := []) (hf := Try.func26) (hrs := rfl) (hres := .cons _ _ _ _ (.agg 8 31 0 0 [.d (.lit (List.map e_Li64 xs8)), .d (.lit (List.map e_i64 xs9))] [.d (.lit (List.map e_Li64 xs8)), .d (.lit (List.map e_i64 xs9))] _ _ _ _ (by kernel_rfl) (by kernel_rfl) Try.underlying31 (by kernel_rfl) ty31 (by kernel_rfl) (by kernel_rfl)) (.cons _ _ _ _ (.tmp 9 _ (by kernel_rfl)) .nil)) (hnd := by decide)
     ·refine oBlock ?_
      refine oLoop ?_
      refine oVirtB (esz := 1) 4 0 (cells := [.nilc, .ref 3 (List.length xs5) 0 (List.length xs5)]) (h := ?_)
      refine oView (H' := [.box [.d (.int .i64 p0), .d (.int .i64 p1), .d (.lit (List.map e_SPart p2))], .box [.d (.lit (List.map e_Li64 s0)), .d (.lit (List.map e_i64 s1))], .box [.nilc, .nilc], .sl 1 (List.map e_i64 xs5) false, .box [.ref 5 (List.length ([] : List (List Int))) 0 (List.length ([] : List (List Int))), .ref 3 (List.length xs5) 0 (List.length xs5)], .sl 1 (List.map e_Li64 ([] : List (List Int))) false]) rfl (h := ?_)
      refine oHead [2, 3, 8, 10, 35, 36, 37] [2, 4, 5, 3] (T' := [(2, .d (.int .i64 part)), (3, .d (.int .i64 kind)), (8, .ptr 0 0), (10, .ptr 1 0), (35, .d (.lit (List.map e_Li64 s0))), (36, .d (.int .i64 ((List.length s0) : Int))), (37, .d (.int .i64 0))]) (H' := [.box [.nilc, .nilc], .box [.ref 2 (List.length ([] : List (List Int))) 0 (List.length ([] : List (List Int))), .ref 3 (List.length xs5) 0 (List.length xs5)], .sl 1 (List.map e_Li64 ([] : List (List Int))) false, .sl 1 (List.map e_i64 xs5) false]) (hnd := by decide) (h := ?_)
      refine bLoop (body := scheme_Withdraw_b1 k s0) ((uc fun (x4 : Int) => (fun (xs10 : (List (List Int))) => [(2, .d (.int .i64 part)), (3, .d (.int .i64 kind)), (8, .ptr 0 0), (10, .ptr 1 0), (35, .d (.lit (List.map e_Li64 s0))), (36, .d (.int .i64 ((List.length s0) : Int))), (37, .d (.int .i64 x4))]))) ((uc fun (x4 : Int) => (fun (xs10 : (List (List Int))) => [.box [.nilc, .nilc], .box [.ref 2 (List.length xs10) 0 (List.length xs10), .ref 3 (List.length xs5) 0 (List.length xs5)], .sl 1 (List.map e_Li64 xs10) false, .sl 1 (List.map e_i64 xs5) false]))) (fun again hag1 s => ?_) k (0, ([] : List (List Int)))
      ·unfold scheme_Withdraw_b1
       obtain ⟨x4, xs10⟩ := s
       refine bUc ?_
       refine oView (T' := [(2, .d (.int .i64 part)), (3, .d (.int .i64 kind)), (8, .ptr 0 0), (10, .ptr 1 0), (35, .d (.lit (List.map e_Li64 s0))), (36, .d (.int .i64 ((List.length s0) : Int))), (37, .d (.int .i64 x4))]) (H' := [.box [.nilc, .nilc], .box [.ref 2 (List.length xs10) 0 (List.length xs10), .ref 3 (List.length xs5) 0 (List.length xs5)], .sl 1 (List.map e_Li64 xs10) false, .sl 1 (List.map e_i64 xs5) false]) (h := ?_)
       refine oSR rfl ?_
       refine oP (.d (.bool (decide (x4 < ((List.length s0) : Int))))) (p_int (k := .i64) (p := x4) (q := ((List.length s0) : Int))) ?_
       refine oEnd ?_
       refine oSeq ?_
       refine bSplit 38 (h1 := fun hc => ?_) (h2 := fun hc => ?_)
       ·refine oCondT (h := ?_)
        refine oSkip ?_
        refine oSeq ?_
        refine oBlock ?_
        refine oSR rfl ?_
        refine bIdx (fun e115 h131 h132 => ?_)
        refine oP (.lptr (e_Li64 e115) 0) (k_idxLit e_Li64_len s0 (a := e115) (k := .i64) (i := x4) (hu := Try.underlying29) (hi := ty22) (h0 := h131) (he := h132)) ?_
        refine oQ (.d (.lit (List.map e_i64 e115))) (k_loadL (cells := e_Li64 e115) 0 (hu := Try.underlying22)) ?_
        refine oP (.d (.lit (List.map e_i64 e115))) p_assign ?_
        refine oEnd ?_
        refine oDraw [(0, 8), (1, 7), (2, 5), (3, 8)] rfl ?_
        refine aP 0 (.ptr 1 0) rfl (k_fieldAddr 1 0 (hu := Try.underlying31) (hf := rfl) (hi := ty29)) ?_
        refine aQ 1 [1] (.ref 2 (List.length xs10) 0 (List.length xs10)) rfl (k_load 1 0 (hu := Try.underlying29)) ?_
        refine aP 2 (.d (.lit (List.map e_i64 e115))) rfl p_move ?_
        refine dCall (i := 3) (caps := []) (v := (fun (r19 : (List Int)) => (.d (.lit (List.map e_i64 r19)) : V))) (H' := (fun (r19 : (List Int)) => ([.box [.nilc, .nilc], .box [.ref 2 (List.length xs10) 0 (List.length xs10), .ref 3 (List.length xs5) 0 (List.length xs5)], .sl 1 (List.map e_Li64 xs10) false, .sl 1 (List.map e_i64 xs5) false] : List Blk))) [] _ (slices_Clone_int_goes k e115) rfl (ho := rfl) (hfn := Try.func50) (hb := rfl) (hconv := ConvRs.refl _ _) (hnd := by decide) (hBl := fun _ => (by kernel_rfl)) (hv := fun _ => (by kernel_rfl)) (hH' := fun _ => (by kernel_rfl)) (h := fun r19 => ?_)
        refine aOne (i := 4) (v := .ref 4 (List.length ([r19] : List (List Int))) 0 (List.length ([r19] : List (List Int)))) rfl (hac := (Does.acts (k_buildSlice (H' := [.box [.nilc, .nilc], .box [.ref 2 (List.length xs10) 0 (List.length xs10), .ref 3 (List.length xs5) 0 (List.length xs5)], .sl 1 (List.map e_Li64 xs10) false, .sl 1 (List.map e_i64 xs5) false, .sl 1 (List.map e_Li64 ([r19] : List (List Int))) false]) (List.map e_Li64 ([r19] : List (List Int))) Try.underlying29 ty22))) (h := ?_)
        refine dCap (fun h12 => ?_)
        refine aOne (i := 5) (v := .ref 2 (List.length (xs10 ++ ([r19] : List (List Int)))) 0 (List.length (xs10 ++ ([r19] : List (List Int))))) rfl (hac := (Does.acts (k_append (H' := [.box [.nilc, .nilc], .box [.ref 2 (List.length xs10) 0 (List.length xs10), .ref 3 (List.length xs5) 0 (List.length xs5)], .sl 1 (List.map e_Li64 (xs10 ++ ([r19] : List (List Int)))) false, .sl 1 (List.map e_i64 xs5) false, .sl 1 (List.map e_Li64 ([r19] : List (List Int))) false]) (enc := e_Li64) 2 xs10 ([r19] : List (List Int)) Try.underlying29 Try.underlying29 ty22 (hy := (holdsRef (enc := e_Li64) 4 ([r19] : List (List Int)) false)) (hfit := h12)))) (h := ?_)
        refine aP 6 (.ptr 1 0) rfl (k_fieldAddr 1 0 (hu := Try.underlying31) (hf := rfl) (hi := ty29)) ?_
        refine aOne (i := 7) (v := .undef) rfl (hac := (Does.acts (k_store (vs := [.ref 2 (List.length (xs10 ++ ([r19] : List (List Int)))) 0 (List.length (xs10 ++ ([r19] : List (List Int))))]) (H' := [.box [.nilc, .nilc], .box [.ref 2 (List.length (xs10 ++ ([r19] : List (List Int)))) 0 (List.length (xs10 ++ ([r19] : List (List Int)))), .ref 3 (List.length xs5) 0 (List.length xs5)], .sl 1 (List.map e_Li64 (xs10 ++ ([r19] : List (List Int)))) false, .sl 1 (List.map e_i64 xs5) false, .sl 1 (List.map e_Li64 ([r19] : List (List Int))) false]) 1 0 (hi := ty29)))) (h := ?_)
        refine aDone (h := ?_)
        refine oBlk ?_
        refine oRegion rfl ?_
        refine oP (.d (.int .i64 (IntKind.wrap .i64 (x4 + 1)))) (p_int (k := .i64) (p := x4) (q := 1)) ?_
        refine oP (.d (.int .i64 (IntKind.wrap .i64 (x4 + 1)))) p_move ?_
        refine oEnd ?_
        refine oAgain ?_
        refine oHead [2, 3, 8, 10, 35, 36, 37] [0, 1, 2, 3] (T' := [(2, .d (.int .i64 part)), (3, .d (.int .i64 kind)), (8, .ptr 0 0), (10, .ptr 1 0), (35, .d (.lit (List.map e_Li64 s0))), (36, .d (.int .i64 ((List.length s0) : Int))), (37, .d (.int .i64 (IntKind.wrap .i64 (x4 + 1))))]) (H' := [.box [.nilc, .nilc], .box [.ref 2 (List.length (xs10 ++ ([r19] : List (List Int)))) 0 (List.length (xs10 ++ ([r19] : List (List Int)))), .ref 3 (List.length xs5) 0 (List.length xs5)], .sl 1 (List.map e_Li64 (xs10 ++ ([r19] : List (List Int)))) false, .sl 1 (List.map e_i64 xs5) false]) (hnd := by decide) (h := ?_)
        exact hag1 ((IntKind.wrap .i64 (x4 + 1)), (xs10 ++ ([r19] : List (List Int))))
       ·refine oCondF (h := ?_)
        refine oExit rfl ?_
        refine oHead [2, 3, 8, 10] [0, 1, 2, 3] (T' := [(2, .d (.int .i64 part)), (3, .d (.int .i64 kind)), (8, .ptr 0 0), (10, .ptr 1 0)]) (H' := [.box [.nilc, .nilc], .box [.ref 2 (List.length xs10) 0 (List.length xs10), .ref 3 (List.length xs5) 0 (List.length xs5)], .sl 1 (List.map e_Li64 xs10) false, .sl 1 (List.map e_i64 xs5) false]) (hnd := by decide) (h := ?_)
        exact hj2 xs10

/-- awardingbody/scheme.Maximum$1 -/
def scheme_Maximum_1 (k : Nat) (i : Int) (x : Int) (x1 : Int) (x2 : (List SPart)) : Option (Int) := gidx x2 i fun e11 => some e11.Max
def scheme_Maximum_1_E (i : Int) (x : Int) (x1 : Int) (x2 : (List SPart)) : Int → V × List Blk := fun r1 => (.d (.int .i64 r1), [.box [.d (.int .i64 x), .d (.int .i64 x1), .d (.lit (List.map e_SPart x2))]])
theorem scheme_Maximum_1_goes (k : Nat) (i : Int) (x : Int) (x1 : Int) (x2 : (List SPart)) : RunsO Try.prog 47 [.d (.int .i64 i), .ptr 0 0] [.box [.d (.int .i64 x), .d (.int .i64 x1), .d (.lit (List.map e_SPart x2))]] (scheme_Maximum_1_E i x x1 x2) (scheme_Maximum_1 k i x x1 x2) := by
  refine RunsO.of_goes (N := 10) (m := 1) (T := [(0, .d (.int .i64 i)), (1, .ptr 0 0)]) Try.func47 rfl rfl (h := ?_)
  unfold scheme_Maximum_1
  refine bStart ?_
  refine oSR rfl ?_
  refine oP (.d (.int .i64 0)) p_assign ?_
  refine oEnd ?_
  refine oSR rfl ?_
  refine oP (.ptr 0 2) (k_fieldAddr 0 0 (hu := Try.underlying27) (hf := rfl) (hi := ty25)) ?_
  refine oQ (.d (.lit (List.map e_SPart x2))) (k_load 0 2 (hu := Try.underlying25)) ?_
  refine oP (.d (.int .i64 i)) p_move ?_
  refine bIdx (fun e11 h12 h13 => ?_)
  refine oP (.lptr (e_SPart e11) 0) (k_idxLit e_SPart_len x2 (a := e11) (k := .i64) (i := i) (hu := Try.underlying25) (hi := ty49) (h0 := h12) (he := h13)) ?_
  refine oP (.lptr (e_SPart e11) 1) (k_fieldAddrL (cells := e_SPart e11) 0 (hu := Try.underlying49) (hf := rfl) (hi := ty3)) ?_
  refine oQ (.d (.int .i64 e11.Max)) (k_loadL (cells := e_SPart e11) 1 (hu := Try.underlying3)) ?_
  refine oP (.d (.int .i64 e11.Max)) p_assign ?_
  refine oEnd ?_
  exact oRet (r0 := e11.Max) (rv := .d (.int .i64 e11.Max)) (B := [.box [.d (.int .i64 x), .d (.int .i64 x1), .d (.lit (List.map e_SPart x2))]]) (vs := [.d (.int .i64 e11.Max)]) (σ := [0]) (hf := Try.func47) (hrs := rfl) (hres := .cons _ _ _ _ (.tmp 3 _ (by kernel_rfl)) .nil) (hnd := by decide)

/-- awardingbody/scheme.sum -/
def scheme_sum_2_b1 (k : Nat) (p2 : (List SPart)) (s1 : (List Int)) (x : Int) (x1 : Int) (x2 : (List SPart)) (again : Int × Int → Option (Int)) : Int × Int → Option (Int) := uc fun n11 => fun x7 => bif (decide (x7 < ((List.length p2) : Int))) then Option.bind (gidx p2 x7 fun e114 => gidx s1 x7 fun e115 => bif (e115 == 0) then Option.bind (scheme_Maximum_1 k x7 x x1 x2) (fun r18 => some (IntKind.wrap .i64 (n11 + r18))) else bif (e115 == 1) then some (IntKind.wrap .i64 (n11 + e114.Max)) else bif (e115 == 2) then some n11 else some n11 : Option (Int)) (fun n14 => again (n14, (IntKind.wrap .i64 (x7 + 1)))) else some n11
def scheme_sum_2 (k : Nat) (p0 : Int) (p1 : Int) (p2 : (List SPart)) (s0 : (List (List Int))) (s1 : (List Int)) (x : Int) (x1 : Int) (x2 : (List SPart)) : Option (Int) := Option.bind (gloop (scheme_sum_2_b1 k p2 s1 x x1 x2) k (0, 0) : Option (Int)) (fun n9 => some n9)
def scheme_sum_2_E (p0 : Int) (p1 : Int) (p2 : (List SPart)) (s0 : (List (List Int))) (s1 : (List Int)) (x : Int) (x1 : Int) (x2 : (List SPart)) : Int → V × List Blk := fun r12 => (.d (.int .i64 r12), [.box [.d (.int .i64 x), .d (.int .i64 x1), .d (.lit (List.map e_SPart x2))]])
theorem scheme_sum_2_goes (k : Nat) (p0 : Int) (p1 : Int) (p2 : (List SPart)) (s0 : (List (List Int))) (s1 : (List Int)) (x : Int) (x1 : Int) (x2 : (List SPart)) : RunsO Try.prog 45 [.agg [.d (.int .i64 p0), .d (.int .i64 p1), .d (.lit (List.map e_SPart p2))], .agg [.d (.lit (List.map e_Li64 s0)), .d (.lit (List.map e_i64 s1))], .fn 47 [.ptr 0 0]] [.box [.d (.int .i64 x), .d (.int .i64 x1), .d (.lit (List.map e_SPart x2))]] (scheme_sum_2_E p0 p1 p2 s0 s1 x x1 x2) (scheme_sum_2 k p0 p1 p2 s0 s1 x x1 x2) := by
  refine RunsO.of_goes (N := 40) (m := 1) (T := [(0, .agg [.d (.int .i64 p0), .d (.int .i64 p1), .d (.lit (List.map e_SPart p2))]), (1, .agg [.d (.lit (List.map e_Li64 s0)), .d (.lit (List.map e_i64 s1))]), (2, .fn 47 [.ptr 0 0])]) Try.func45 rfl rfl (h := ?_)
  unfold scheme_sum_2
  refine bStart ?_
  refine oSR rfl ?_
  refine oD (.ptr 1 0) (k_box (H' := [.box [.d (.int .i64 x), .d (.int .i64 x1), .d (.lit (List.map e_SPart x2))], .box [.d (.int .i64 p0), .d (.int .i64 p1), .d (.lit (List.map e_SPart p2))]]) (cells := [.d (.int .i64 p0), .d (.int .i64 p1), .d (.lit (List.map e_SPart p2))])) ?_
  refine oD (.ptr 2 0) (k_box (H' := [.box [.d (.int .i64 x), .d (.int .i64 x1), .d (.lit (List.map e_SPart x2))], .box [.d (.int .i64 p0), .d (.int .i64 p1), .d (.lit (List.map e_SPart p2))], .box [.d (.lit (List.map e_Li64 s0)), .d (.lit (List.map e_i64 s1))]]) (cells := [.d (.lit (List.map e_Li64 s0)), .d (.lit (List.map e_i64 s1))])) ?_
  refine oP (.d (.int .i64 0)) p_assign ?_
  refine oEnd ?_
  refine oSR rfl ?_
  refine oP (.d (.int .i64 0)) p_assign ?_
  refine oEnd ?_
  refine oSeq ?_
  refine oSR rfl ?_
  refine oP (.ptr 1 2) (k_fieldAddr 1 0 (hu := Try.underlying27) (hf := rfl) (hi := ty25)) ?_
  refine oQ (.d (.lit (List.map e_SPart p2))) (k_load 1 2 (hu := Try.underlying25)) ?_
  refine oP (.d (.int .i64 ((List.length p2) : Int))) (k_lenLit (enc := e_SPart) p2 (hu := Try.underlying25)) ?_
  refine oP (.d (.int .i64 0)) p_move ?_
  refine oEnd ?_
  refine bJoin ((fun (n9 : Int) => [(7, .d (.int .i64 n9))])) ((fun (n9 : Int) => [.box [.d (.int .i64 x), .d (.int .i64 x1), .d (.lit (List.map e_SPart x2))]])) (fun s => s) (fun n9 => ?_) (fun hj6 => ?_)
  ·refine oView (T' := [(7, .d (.int .i64 n9))]) (H' := [.box [.d (.int .i64 x), .d (.int .i64 x1), .d (.lit (List.map e_SPart x2))]]) (h := ?_)
   refine oSR rfl ?_
   refine oP (.d (.int .i64 n9)) p_move ?_
   refine oP (.d (.int .i64 n9)) p_assign ?_
   refine oEnd ?_
   exact oRet (r0 := n9) (rv := .d (.int .i64 n9)) (B := [.box [.d (.int .i64 x), .d (.int .i64 x1), .d (.lit (List.map e_SPart x2))]]) (vs := [.d (.int .i64 n9)]) (σ := [0]) (hf := Try.func45) (hrs := rfl) (hres := .cons _ _ _ _ (.tmp 6 _ (by kernel_rfl)) .nil) (hnd := by decide)
  ·refine oBlock ?_
   refine oLoop ?_
   refine oHead [2, 4, 7, 11, 12, 13] [0, 2] (T' := [(2, .fn 47 [.ptr 0 0]), (4, .ptr 1 0), (7, .d (.int .i64 0)), (11, .d (.lit (List.map e_SPart p2))), (12, .d (.int .i64 ((List.length p2) : Int))), (13, .d (.int .i64 0))]) (H' := [.box [.d (.int .i64 x), .d (.int .i64 x1), .d (.lit (List.map e_SPart x2))], .box [.d (.lit (List.map e_Li64 s0)), .d (.lit (List.map e_i64 s1))]]) (hnd := by decide) (h := ?_)
   refine bLoop (body := scheme_sum_2_b1 k p2 s1 x x1 x2) ((uc fun (n11 : Int) => (fun (x7 : Int) => [(2, .fn 47 [.ptr 0 0]), (4, .ptr 1 0), (7, .d (.int .i64 n11)), (11, .d (.lit (List.map e_SPart p2))), (12, .d (.int .i64 ((List.length p2) : Int))), (13, .d (.int .i64 x7))]))) ((uc fun (n11 : Int) => (fun (x7 : Int) => [.box [.d (.int .i64 x), .d (.int .i64 x1), .d (.lit (List.map e_SPart x2))], .box [.d (.lit (List.map e_Li64 s0)), .d (.lit (List.map e_i64 s1))]]))) (fun again hag1 s => ?_) k (0, 0)
   ·unfold scheme_sum_2_b1
    obtain ⟨n11, x7⟩ := s
    refine bUc ?_
    refine oView (T' := [(2, .fn 47 [.ptr 0 0]), (4, .ptr 1 0), (7, .d (.int .i64 n11)), (11, .d (.lit (List.map e_SPart p2))), (12, .d (.int .i64 ((List.length p2) : Int))), (13, .d (.int .i64 x7))]) (H' := [.box [.d (.int .i64 x), .d (.int .i64 x1), .d (.lit (List.map e_SPart x2))], .box [.d (.lit (List.map e_Li64 s0)), .d (.lit (List.map e_i64 s1))]]) (h := ?_)
    refine oSR rfl ?_
    refine oP (.d (.bool (decide (x7 < ((List.length p2) : Int))))) (p_int (k := .i64) (p := x7) (q := ((List.length p2) : Int))) ?_
    refine oEnd ?_
    refine oSeq ?_
    refine bSplit 14 (h1 := fun hc => ?_) (h2 := fun hc => ?_)
    ·refine oCondT (h := ?_)
     refine oSkip ?_
     refine oSeq ?_
     refine bJoin ((fun (n14 : Int) => [(2, .fn 47 [.ptr 0 0]), (4, .ptr 1 0), (7, .d (.int .i64 n14)), (11, .d (.lit (List.map e_SPart p2))), (12, .d (.int .i64 ((List.length p2) : Int))), (13, .d (.int .i64 x7))])) ((fun (n14 : Int) => [.box [.d (.int .i64 x), .d (.int .i64 x1), .d (.lit (List.map e_SPart x2))], .box [.d (.lit (List.map e_Li64 s0)), .d (.lit (List.map e_i64 s1))]])) (fun s => s) (fun n14 => ?_) (fun hj9 => ?_)
     ·refine oView (T' := [(2, .fn 47 [.ptr 0 0]), (4, .ptr 1 0), (7, .d (.int .i64 n14)), (11, .d (.lit (List.map e_SPart p2))), (12, .d (.int .i64 ((List.length p2) : Int))), (13, .d (.int .i64 x7))]) (H' := [.box [.d (.int .i64 x), .d (.int .i64 x1), .d (.lit (List.map e_SPart x2))], .box [.d (.lit (List.map e_Li64 s0)), .d (.lit (List.map e_i64 s1))]]) (h := ?_)
      refine oRegion rfl ?_
      refine oP (.d (.int .i64 (IntKind.wrap .i64 (x7 + 1)))) (p_int (k := .i64) (p := x7) (q := 1)) ?_
      refine oP (.d (.int .i64 (IntKind.wrap .i64 (x7 + 1)))) p_move ?_
      refine oEnd ?_
      refine oAgain ?_
      refine oHead [2, 4, 7, 11, 12, 13] [0, 1] (T' := [(2, .fn 47 [.ptr 0 0]), (4, .ptr 1 0), (7, .d (.int .i64 n14)), (11, .d (.lit (List.map e_SPart p2))), (12, .d (.int .i64 ((List.length p2) : Int))), (13, .d (.int .i64 (IntKind.wrap .i64 (x7 + 1))))]) (H' := [.box [.d (.int .i64 x), .d (.int .i64 x1), .d (.lit (List.map e_SPart x2))], .box [.d (.lit (List.map e_Li64 s0)), .d (.lit (List.map e_i64 s1))]]) (hnd := by decide) (h := ?_)
      exact hag1 (n14, (IntKind.wrap .i64 (x7 + 1)))
     ·refine oBlock ?_
      refine oSR rfl ?_
      refine oP (.d (.int .i64 x7)) p_move ?_
      refine bIdx (fun e114 h128 h129 => ?_)
      refine oP (.lptr (e_SPart e114) 0) (k_idxLit e_SPart_len p2 (a := e114) (k := .i64) (i := x7) (hu := Try.underlying25) (hi := ty49) (h0 := h128) (he := h129)) ?_
      refine oQ (.agg [.d (.int .i64 e114.Kind), .d (.int .i64 e114.Max), .d (.int .i64 e114.Topic), .d (.int .i64 e114.Objective), .d (.int .i64 e114.Options), .d (.int .i64 e114.Key)]) (k_loadLAgg (cells := e_SPart e114) 0 [(.int .i64 e114.Kind), (.int .i64 e114.Max), (.int .i64 e114.Topic), (.int .i64 e114.Objective), (.int .i64 e114.Options), (.int .i64 e114.Key)] (hu := Try.underlying49) (hi := ty49)) ?_
      refine oD (.ptr 2 0) (k_alloc (H' := [.box [.d (.int .i64 x), .d (.int .i64 x1), .d (.lit (List.map e_SPart x2))], .box [.d (.lit (List.map e_Li64 s0)), .d (.lit (List.map e_i64 s1))], .box [.d (.int .i64 0), .d (.int .i64 0), .d (.int .i64 0), .d (.int .i64 0), .d (.int .i64 0), .d (.int .i64 0)]]) ty49) ?_
      refine oP (.d (.int .i64 x7)) p_assign ?_
      refine oD (.undef) (k_store (vs := [.d (.int .i64 e114.Kind), .d (.int .i64 e114.Max), .d (.int .i64 e114.Topic), .d (.int .i64 e114.Objective), .d (.int .i64 e114.Options), .d (.int .i64 e114.Key)]) (H' := [.box [.d (.int .i64 x), .d (.int .i64 x1), .d (.lit (List.map e_SPart x2))], .box [.d (.lit (List.map e_Li64 s0)), .d (.lit (List.map e_i64 s1))], .box [.d (.int .i64 e114.Kind), .d (.int .i64 e114.Max), .d (.int .i64 e114.Topic), .d (.int .i64 e114.Objective), .d (.int .i64 e114.Options), .d (.int .i64 e114.Key)]]) 2 0 (hi := ty49)) ?_
      refine oEnd ?_
      refine oSR rfl ?_
      refine oP (.ptr 1 1) (k_fieldAddr 1 0 (hu := Try.underlying31) (hf := rfl) (hi := ty22)) ?_
      refine oQ (.d (.lit (List.map e_i64 s1))) (k_load 1 1 (hu := Try.underlying22)) ?_
      refine oP (.d (.int .i64 x7)) p_move ?_
      refine bIdx (fun e115 h130 h131 => ?_)
      refine oP (.lptr (e_i64 e115) 0) (k_idxLit e_i64_len s1 (a := e115) (k := .i64) (i := x7) (hu := Try.underlying22) (hi := ty3) (h0 := h130) (he := h131)) ?_
      refine oQ (.d (.int .i64 e115)) (k_loadL (cells := e_i64 e115) 0 (hu := Try.underlying3)) ?_
      refine oEnd ?_
      refine oBlock ?_
      refine oSR rfl ?_
      refine oP (.d (.bool (e115 == 0))) (p_int (k := .i64) (p := e115) (q := 0)) ?_
      refine oP (.d (.bool (e115 == 0))) p_assign ?_
      refine oEnd ?_
      refine bSplit 23 (h1 := fun hc => ?_) (h2 := fun hc => ?_)
      ·refine oCondT (h := ?_)
       refine oRegion rfl ?_
       refine oP (.d (.int .i64 n11)) p_move ?_
       refine oP (.fn 47 [.ptr 0 0]) p_move ?_
       refine oP (.d (.int .i64 x7)) p_move ?_
       refine bCall (caps := [.ptr 0 0]) (v := (fun (r18 : Int) => (.d (.int .i64 r18) : V))) (H' := (fun (r18 : Int) => ([.box [.d (.int .i64 x), .d (.int .i64 x1), .d (.lit (List.map e_SPart x2))], .box [.d (.lit (List.map e_Li64 s0)), .d (.lit (List.map e_i64 s1))], .box [.d (.int .i64 e114.Kind), .d (.int .i64 e114.Max), .d (.int .i64 e114.Topic), .d (.int .i64 e114.Objective), .d (.int .i64 e114.Options), .d (.int .i64 e114.Key)]] : List Blk))) [0] _ (scheme_Maximum_1_goes k x7 x x1 x2) (ho := rfl) (hfn := Try.func47) (hb := rfl) (hconv := ConvRs.refl _ _) (hnd := by decide) (hBl := fun _ => (by kernel_rfl)) (hv := fun _ => (by kernel_rfl)) (hH' := fun _ => (by kernel_rfl)) (h := fun r18 => ?_)
       refine oP (.d (.int .i64 (IntKind.wrap .i64 (n11 + r18)))) (p_int (k := .i64) (p := n11) (q := r18)) ?_
       refine oP (.d (.int .i64 (IntKind.wrap .i64 (n11 + r18)))) p_assign ?_
       refine oEnd ?_
       refine oBlk ?_
       refine oBlk ?_
       refine oHead [2, 4, 7, 11, 12, 13] [0, 1] (T' := [(2, .fn 47 [.ptr 0 0]), (4, .ptr 1 0), (7, .d (.int .i64 (IntKind.wrap .i64 (n11 + r18)))), (11, .d (.lit (List.map e_SPart p2))), (12, .d (.int .i64 ((List.length p2) : Int))), (13, .d (.int .i64 x7))]) (H' := [.box [.d (.int .i64 x), .d (.int .i64 x1), .d (.lit (List.map e_SPart x2))], .box [.d (.lit (List.map e_Li64 s0)), .d (.lit (List.map e_i64 s1))]]) (hnd := by decide) (h := ?_)
       exact hj9 (IntKind.wrap .i64 (n11 + r18))
      ·refine oCondF (h := ?_)
       refine oSR rfl ?_
       refine oP (.d (.bool (e115 == 1))) (p_int (k := .i64) (p := e115) (q := 1)) ?_
       refine oP (.d (.bool (e115 == 1))) p_assign ?_
       refine oEnd ?_
       refine bSplit 30 (h1 := fun hc => ?_) (h2 := fun hc => ?_)
       ·refine oCondT (h := ?_)
        refine oRegion rfl ?_
        refine oP (.d (.int .i64 n11)) p_move ?_
        refine oP (.ptr 2 1) (k_fieldAddr 2 0 (hu := Try.underlying49) (hf := rfl) (hi := ty3)) ?_
        refine oQ (.d (.int .i64 e114.Max)) (k_load 2 1 (hu := Try.underlying3)) ?_
        refine oP (.d (.int .i64 (IntKind.wrap .i64 (n11 + e114.Max)))) (p_int (k := .i64) (p := n11) (q := e114.Max)) ?_
        refine oP (.d (.int .i64 (IntKind.wrap .i64 (n11 + e114.Max)))) p_assign ?_
        refine oEnd ?_
        refine oBlk ?_
        refine oBlk ?_
        refine oHead [2, 4, 7, 11, 12, 13] [0, 1] (T' := [(2, .fn 47 [.ptr 0 0]), (4, .ptr 1 0), (7, .d (.int .i64 (IntKind.wrap .i64 (n11 + e114.Max)))), (11, .d (.lit (List.map e_SPart p2))), (12, .d (.int .i64 ((List.length p2) : Int))), (13, .d (.int .i64 x7))]) (H' := [.box [.d (.int .i64 x), .d (.int .i64 x1), .d (.lit (List.map e_SPart x2))], .box [.d (.lit (List.map e_Li64 s0)), .d (.lit (List.map e_i64 s1))]]) (hnd := by decide) (h := ?_)
        exact hj9 (IntKind.wrap .i64 (n11 + e114.Max))
       ·refine oCondF (h := ?_)
        refine oSR rfl ?_
        refine oP (.d (.bool (e115 == 2))) (p_int (k := .i64) (p := e115) (q := 2)) ?_
        refine oP (.d (.bool (e115 == 2))) p_assign ?_
        refine oEnd ?_
        refine bSplit 36 (h1 := fun hc => ?_) (h2 := fun hc => ?_)
        ·refine oCondT (h := ?_)
         refine oSkip ?_
         refine oBlk ?_
         refine oBlk ?_
         refine oHead [2, 4, 7, 11, 12, 13] [0, 1] (T' := [(2, .fn 47 [.ptr 0 0]), (4, .ptr 1 0), (7, .d (.int .i64 n11)), (11, .d (.lit (List.map e_SPart p2))), (12, .d (.int .i64 ((List.length p2) : Int))), (13, .d (.int .i64 x7))]) (H' := [.box [.d (.int .i64 x), .d (.int .i64 x1), .d (.lit (List.map e_SPart x2))], .box [.d (.lit (List.map e_Li64 s0)), .d (.lit (List.map e_i64 s1))]]) (hnd := by decide) (h := ?_)
         exact hj9 n11
        ·refine oCondF (h := ?_)
         refine oSkip ?_
         refine oBlk ?_
         refine oBlk ?_
         refine oHead [2, 4, 7, 11, 12, 13] [0, 1] (T' := [(2, .fn 47 [.ptr 0 0]), (4, .ptr 1 0), (7, .d (.int .i64 n11)), (11, .d (.lit (List.map e_SPart p2))), (12, .d (.int .i64 ((List.length p2) : Int))), (13, .d (.int .i64 x7))]) (H' := [.box [.d (.int .i64 x), .d (.int .i64 x1), .d (.lit (List.map e_SPart x2))], .box [.d (.lit (List.map e_Li64 s0)), .d (.lit (List.map e_i64 s1))]]) (hnd := by decide) (h := ?_)
         exact hj9 n11
    ·refine oCondF (h := ?_)
     refine oExit rfl ?_
     refine oHead [7] [0] (T' := [(7, .d (.int .i64 n11))]) (H' := [.box [.d (.int .i64 x), .d (.int .i64 x1), .d (.lit (List.map e_SPart x2))]]) (hnd := by decide) (h := ?_)
     exact hj6 n11

/-- awardingbody/scheme.Maximum -/
def scheme_Maximum (k : Nat) (p0 : Int) (p1 : Int) (p2 : (List SPart)) (s0 : (List (List Int))) (s1 : (List Int)) : Option (Int × Int) := Option.bind (scheme_Valid k p0 p1 p2 s0 s1) (fun r14 => bif (!r14) then some (0, 1) else Option.bind (scheme_sum_2 k p0 p1 p2 s0 s1 p0 p1 p2) (fun r121 => some (r121, 0)))
def scheme_Maximum_E (p0 : Int) (p1 : Int) (p2 : (List SPart)) (s0 : (List (List Int))) (s1 : (List Int)) : Int × Int → V × List Blk := uc fun r11 => fun r13 => (.tuple [.d (.int .i64 r11), .d (.int .i64 r13)], [])
theorem scheme_Maximum_goes (k : Nat) (p0 : Int) (p1 : Int) (p2 : (List SPart)) (s0 : (List (List Int))) (s1 : (List Int)) : RunsO Try.prog 23 [.agg [.d (.int .i64 p0), .d (.int .i64 p1), .d (.lit (List.map e_SPart p2))], .agg [.d (.lit (List.map e_Li64 s0)), .d (.lit (List.map e_i64 s1))]] [] (scheme_Maximum_E p0 p1 p2 s0 s1) (scheme_Maximum k p0 p1 p2 s0 s1) := by
  refine RunsO.of_goes (N := 14) (m := 0) (T := [(0, .agg [.d (.int .i64 p0), .d (.int .i64 p1), .d (.lit (List.map e_SPart p2))]), (1, .agg [.d (.lit (List.map e_Li64 s0)), .d (.lit (List.map e_i64 s1))])]) Try.func23 rfl rfl (h := ?_)
  unfold scheme_Maximum
  refine bStart ?_
  refine oSR rfl ?_
  refine oD (.ptr 0 0) (k_box (H' := [.box [.d (.int .i64 p0), .d (.int .i64 p1), .d (.lit (List.map e_SPart p2))]]) (cells := [.d (.int .i64 p0), .d (.int .i64 p1), .d (.lit (List.map e_SPart p2))])) ?_
  refine oD (.ptr 1 0) (k_box (H' := [.box [.d (.int .i64 p0), .d (.int .i64 p1), .d (.lit (List.map e_SPart p2))], .box [.d (.lit (List.map e_Li64 s0)), .d (.lit (List.map e_i64 s1))]]) (cells := [.d (.lit (List.map e_Li64 s0)), .d (.lit (List.map e_i64 s1))])) ?_
  refine oP (.d (.int .i64 0)) p_assign ?_
  refine oP (.d (.int .i64 0)) p_assign ?_
  refine oEnd ?_
  refine oSeq ?_
  refine oSR rfl ?_
  refine oQ (.agg [.d (.int .i64 p0), .d (.int .i64 p1), .d (.lit (List.map e_SPart p2))]) (k_loadAgg 0 0 (hu := Try.underlying27) (hi := ty27)) ?_
  refine oQ (.agg [.d (.lit (List.map e_Li64 s0)), .d (.lit (List.map e_i64 s1))]) (k_loadAgg 1 0 (hu := Try.underlying31) (hi := ty31)) ?_
  refine bCall (caps := []) (v := (fun (r14 : Bool) => (.d (.bool r14) : V))) (H' := (fun (r14 : Bool) => ([.box [.d (.int .i64 p0), .d (.int .i64 p1), .d (.lit (List.map e_SPart p2))], .box [.d (.lit (List.map e_Li64 s0)), .d (.lit (List.map e_i64 s1))]] : List Blk))) [] _ (scheme_Valid_goes k p0 p1 p2 s0 s1) (ho := rfl) (hfn := Try.func30) (hb := rfl) (hconv := ConvRs.refl _ _) (hnd := by decide) (hBl := fun _ => (by kernel_rfl)) (hv := fun _ => (by kernel_rfl)) (hH' := fun _ => (by kernel_rfl)) (h := fun r14 => ?_)
  refine oP (.d (.bool (!r14))) (p_not (p := r14)) ?_
  refine oEnd ?_
  refine bSplit 9 (h1 := fun hc => ?_) (h2 := fun hc => ?_)
  ·refine oCondT (h := ?_)
   refine oSR rfl ?_
   refine oP (.d (.int .i64 0)) p_assign ?_
   refine oP (.d (.int .i64 1)) p_assign ?_
   refine oEnd ?_
   exact oRet (r0 := (0, 1)) (rv := .tuple [.d (.int .i64 0), .d (.int .i64 1)]) (B := []) (vs := [.d (.int .i64 0), .d (.int .i64 1)]) (σ := []) (hf := Try.func23) (hrs := rfl) (hres := .cons _ _ _ _ (.tmp 4 _ (by kernel_rfl)) (.cons _ _ _ _ (.tmp 5 _ (by kernel_rfl)) .nil)) (hnd := by decide)
  ·refine oCondF (h := ?_)
   refine oSkip ?_
   refine oSR rfl ?_
   refine oQ (.agg [.d (.int .i64 p0), .d (.int .i64 p1), .d (.lit (List.map e_SPart p2))]) (k_loadAgg 0 0 (hu := Try.underlying27) (hi := ty27)) ?_
   refine oQ (.agg [.d (.lit (List.map e_Li64 s0)), .d (.lit (List.map e_i64 s1))]) (k_loadAgg 1 0 (hu := Try.underlying31) (hi := ty31)) ?_
   refine oP (.fn 47 [.ptr 0 0]) p_makeFunc ?_
   refine bCall (caps := []) (v := (fun (r121 : Int) => (.d (.int .i64 r121) : V))) (H' := (fun (r121 : Int) => ([.box [.d (.int .i64 p0), .d (.int .i64 p1), .d (.lit (List.map e_SPart p2))], .box [.d (.lit (List.map e_Li64 s0)), .d (.lit (List.map e_i64 s1))]] : List Blk))) [0] _ (scheme_sum_2_goes k p0 p1 p2 s0 s1 p0 p1 p2) (ho := rfl) (hfn := Try.func45) (hb := rfl) (hconv := ConvRs.refl _ _) (hnd := by decide) (hBl := fun _ => (by kernel_rfl)) (hv := fun _ => (by kernel_rfl)) (hH' := fun _ => (by kernel_rfl)) (h := fun r121 => ?_)
   refine oP (.d (.int .i64 r121)) p_assign ?_
   refine oP (.d (.int .i64 0)) p_assign ?_
   refine oEnd ?_
   exact oRet (r0 := (r121, 0)) (rv := .tuple [.d (.int .i64 r121), .d (.int .i64 0)]) (B := []) (vs := [.d (.int .i64 r121), .d (.int .i64 0)]) (σ := []) (hf := Try.func23) (hrs := rfl) (hres := .cons _ _ _ _ (.tmp 4 _ (by kernel_rfl)) (.cons _ _ _ _ (.tmp 5 _ (by kernel_rfl)) .nil)) (hnd := by decide)

/-- awardingbody/awardingbodylaw23.awake -/
def law23_awake (k : Nat) : Option (Bool) := Option.bind (scheme_Closed k 0 0 ([(⟨1, 4, 0, 0, 0, 0⟩ : SPart), (⟨2, 1, 0, 0, 4, 2⟩ : SPart)] : List SPart) ([[], []] : List (List Int)) ([0, 0] : List Int) ([(-1), 2] : List Int)) (uc fun r133 => fun r142 => Option.bind (scheme_Total k 0 0 ([(⟨1, 4, 0, 0, 0, 0⟩ : SPart), (⟨2, 1, 0, 0, 4, 2⟩ : SPart)] : List SPart) ([[], []] : List (List Int)) ([0, 0] : List Int) ([3, 1] : List Int)) (uc fun r134 => fun r143 => Option.bind (scheme_Withdraw k 0 0 ([(⟨1, 4, 0, 0, 0, 0⟩ : SPart), (⟨2, 1, 0, 0, 4, 2⟩ : SPart)] : List SPart) ([[], []] : List (List Int)) ([0, 0] : List Int) 1 2) (uc fun r1101 => uc fun r1111 => fun r1121 => Option.bind (scheme_Maximum k 0 0 ([(⟨1, 4, 0, 0, 0, 0⟩ : SPart), (⟨2, 1, 0, 0, 4, 2⟩ : SPart)] : List SPart) r1101 r1111) (uc fun r113 => fun r135 => Option.bind (bif (r142 == 0) then Option.bind (ref06_Ints k r133 ([(-2), 1] : List Int)) (fun r16 => some r16) else some false : Option (Bool)) (fun x6 => blet (x6 && (r143 == 0)) fun x7 => blet (x7 && (r134 == 4)) fun x8 => blet (x8 && (r1121 == 0)) fun x9 => blet (x9 && (r135 == 0)) fun x10 => blet (x10 && (r113 == 4)) fun x11 => some x11)))))
def law23_awake_E : Bool → V × List Blk := fun r12 => (.d (.bool r12), [])
theorem law23_awake_goes (k : Nat) : RunsO Try.prog 19 [] [] (law23_awake_E) (law23_awake k) := by
  refine RunsO.of_goes (N := 71) (m := 0) (T := []) Try.func19 rfl rfl (h := ?_)
  unfold law23_awake
  refine bStart ?_
  refine oSR rfl ?_
  refine oP (.d (.bool false)) p_assign ?_
  refine oEnd ?_
  refine oSR rfl ?_
  refine oP (.agg [.d (.int .i64 1), .d (.int .i64 4), .d (.int .i64 0), .d (.int .i64 0), .d (.int .i64 0), .d (.int .i64 0)]) (p_build bld49) ?_
  refine oP (.agg [.d (.int .i64 2), .d (.int .i64 1), .d (.int .i64 0), .d (.int .i64 0), .d (.int .i64 4), .d (.int .i64 2)]) (p_build bld49) ?_
  refine oD (.ref 0 (List.length ([(⟨1, 4, 0, 0, 0, 0⟩ : SPart), (⟨2, 1, 0, 0, 4, 2⟩ : SPart)] : List SPart)) 0 (List.length ([(⟨1, 4, 0, 0, 0, 0⟩ : SPart), (⟨2, 1, 0, 0, 4, 2⟩ : SPart)] : List SPart))) (k_buildSlice (H' := [.sl 6 (List.map e_SPart ([(⟨1, 4, 0, 0, 0, 0⟩ : SPart), (⟨2, 1, 0, 0, 4, 2⟩ : SPart)] : List SPart)) false]) (List.map e_SPart ([(⟨1, 4, 0, 0, 0, 0⟩ : SPart), (⟨2, 1, 0, 0, 4, 2⟩ : SPart)] : List SPart)) Try.underlying25 ty49) ?_
  refine oP (.agg [.d (.int .i64 0), .d (.int .i64 0), .ref 0 (List.length ([(⟨1, 4, 0, 0, 0, 0⟩ : SPart), (⟨2, 1, 0, 0, 4, 2⟩ : SPart)] : List SPart)) 0 (List.length ([(⟨1, 4, 0, 0, 0, 0⟩ : SPart), (⟨2, 1, 0, 0, 4, 2⟩ : SPart)] : List SPart))]) (p_build bld27) ?_
  refine oD (.ptr 1 0) (k_alloc (H' := [.sl 6 (List.map e_SPart ([(⟨1, 4, 0, 0, 0, 0⟩ : SPart), (⟨2, 1, 0, 0, 4, 2⟩ : SPart)] : List SPart)) false, .box [.d (.int .i64 0), .d (.int .i64 0), .nilc]]) ty27) ?_
  refine oD (.undef) (k_store (vs := [.d (.int .i64 0), .d (.int .i64 0), .ref 0 (List.length ([(⟨1, 4, 0, 0, 0, 0⟩ : SPart), (⟨2, 1, 0, 0, 4, 2⟩ : SPart)] : List SPart)) 0 (List.length ([(⟨1, 4, 0, 0, 0, 0⟩ : SPart), (⟨2, 1, 0, 0, 4, 2⟩ : SPart)] : List SPart))]) (H' := [.sl 6 (List.map e_SPart ([(⟨1, 4, 0, 0, 0, 0⟩ : SPart), (⟨2, 1, 0, 0, 4, 2⟩ : SPart)] : List SPart)) false, .box [.d (.int .i64 0), .d (.int .i64 0), .ref 0 (List.length ([(⟨1, 4, 0, 0, 0, 0⟩ : SPart), (⟨2, 1, 0, 0, 4, 2⟩ : SPart)] : List SPart)) 0 (List.length ([(⟨1, 4, 0, 0, 0, 0⟩ : SPart), (⟨2, 1, 0, 0, 4, 2⟩ : SPart)] : List SPart))]]) 1 0 (hi := ty27)) ?_
  refine oEnd ?_
  refine oSR rfl ?_
  refine oD (.ref 2 (List.length ([[], []] : List (List Int))) 0 (List.length ([[], []] : List (List Int)))) (k_buildSlice (H' := [.sl 6 (List.map e_SPart ([(⟨1, 4, 0, 0, 0, 0⟩ : SPart), (⟨2, 1, 0, 0, 4, 2⟩ : SPart)] : List SPart)) false, .box [.d (.int .i64 0), .d (.int .i64 0), .ref 0 (List.length ([(⟨1, 4, 0, 0, 0, 0⟩ : SPart), (⟨2, 1, 0, 0, 4, 2⟩ : SPart)] : List SPart)) 0 (List.length ([(⟨1, 4, 0, 0, 0, 0⟩ : SPart), (⟨2, 1, 0, 0, 4, 2⟩ : SPart)] : List SPart))], .sl 1 (List.map e_Li64 ([[], []] : List (List Int))) false]) (List.map e_Li64 ([[], []] : List (List Int))) Try.underlying29 ty22) ?_
  refine oD (.ref 3 (List.length ([0, 0] : List Int)) 0 (List.length ([0, 0] : List Int))) (k_buildSlice (H' := [.sl 6 (List.map e_SPart ([(⟨1, 4, 0, 0, 0, 0⟩ : SPart), (⟨2, 1, 0, 0, 4, 2⟩ : SPart)] : List SPart)) false, .box [.d (.int .i64 0), .d (.int .i64 0), .ref 0 (List.length ([(⟨1, 4, 0, 0, 0, 0⟩ : SPart), (⟨2, 1, 0, 0, 4, 2⟩ : SPart)] : List SPart)) 0 (List.length ([(⟨1, 4, 0, 0, 0, 0⟩ : SPart), (⟨2, 1, 0, 0, 4, 2⟩ : SPart)] : List SPart))], .sl 1 (List.map e_Li64 ([[], []] : List (List Int))) false, .sl 1 (List.map e_i64 ([0, 0] : List Int)) false]) (List.map e_i64 ([0, 0] : List Int)) Try.underlying22 ty3) ?_
  refine oP (.agg [.ref 2 (List.length ([[], []] : List (List Int))) 0 (List.length ([[], []] : List (List Int))), .ref 3 (List.length ([0, 0] : List Int)) 0 (List.length ([0, 0] : List Int))]) (p_build bld31) ?_
  refine oD (.ptr 4 0) (k_alloc (H' := [.sl 6 (List.map e_SPart ([(⟨1, 4, 0, 0, 0, 0⟩ : SPart), (⟨2, 1, 0, 0, 4, 2⟩ : SPart)] : List SPart)) false, .box [.d (.int .i64 0), .d (.int .i64 0), .ref 0 (List.length ([(⟨1, 4, 0, 0, 0, 0⟩ : SPart), (⟨2, 1, 0, 0, 4, 2⟩ : SPart)] : List SPart)) 0 (List.length ([(⟨1, 4, 0, 0, 0, 0⟩ : SPart), (⟨2, 1, 0, 0, 4, 2⟩ : SPart)] : List SPart))], .sl 1 (List.map e_Li64 ([[], []] : List (List Int))) false, .sl 1 (List.map e_i64 ([0, 0] : List Int)) false, .box [.nilc, .nilc]]) ty31) ?_
  refine oD (.undef) (k_store (vs := [.ref 2 (List.length ([[], []] : List (List Int))) 0 (List.length ([[], []] : List (List Int))), .ref 3 (List.length ([0, 0] : List Int)) 0 (List.length ([0, 0] : List Int))]) (H' := [.sl 6 (List.map e_SPart ([(⟨1, 4, 0, 0, 0, 0⟩ : SPart), (⟨2, 1, 0, 0, 4, 2⟩ : SPart)] : List SPart)) false, .box [.d (.int .i64 0), .d (.int .i64 0), .ref 0 (List.length ([(⟨1, 4, 0, 0, 0, 0⟩ : SPart), (⟨2, 1, 0, 0, 4, 2⟩ : SPart)] : List SPart)) 0 (List.length ([(⟨1, 4, 0, 0, 0, 0⟩ : SPart), (⟨2, 1, 0, 0, 4, 2⟩ : SPart)] : List SPart))], .sl 1 (List.map e_Li64 ([[], []] : List (List Int))) false, .sl 1 (List.map e_i64 ([0, 0] : List Int)) false, .box [.ref 2 (List.length ([[], []] : List (List Int))) 0 (List.length ([[], []] : List (List Int))), .ref 3 (List.length ([0, 0] : List Int)) 0 (List.length ([0, 0] : List Int))]]) 4 0 (hi := ty31)) ?_
  refine oEnd ?_
  refine oSR rfl ?_
  refine oQ (.agg [.d (.int .i64 0), .d (.int .i64 0), .ref 0 (List.length ([(⟨1, 4, 0, 0, 0, 0⟩ : SPart), (⟨2, 1, 0, 0, 4, 2⟩ : SPart)] : List SPart)) 0 (List.length ([(⟨1, 4, 0, 0, 0, 0⟩ : SPart), (⟨2, 1, 0, 0, 4, 2⟩ : SPart)] : List SPart))]) (k_loadAgg 1 0 (hu := Try.underlying27) (hi := ty27)) ?_
  refine oQ (.agg [.ref 2 (List.length ([[], []] : List (List Int))) 0 (List.length ([[], []] : List (List Int))), .ref 3 (List.length ([0, 0] : List Int)) 0 (List.length ([0, 0] : List Int))]) (k_loadAgg 4 0 (hu := Try.underlying31) (hi := ty31)) ?_
  refine oD (.ref 5 (List.length ([(-1), 2] : List Int)) 0 (List.length ([(-1), 2] : List Int))) (k_buildSlice (H' := [.sl 6 (List.map e_SPart ([(⟨1, 4, 0, 0, 0, 0⟩ : SPart), (⟨2, 1, 0, 0, 4, 2⟩ : SPart)] : List SPart)) false, .box [.d (.int .i64 0), .d (.int .i64 0), .ref 0 (List.length ([(⟨1, 4, 0, 0, 0, 0⟩ : SPart), (⟨2, 1, 0, 0, 4, 2⟩ : SPart)] : List SPart)) 0 (List.length ([(⟨1, 4, 0, 0, 0, 0⟩ : SPart), (⟨2, 1, 0, 0, 4, 2⟩ : SPart)] : List SPart))], .sl 1 (List.map e_Li64 ([[], []] : List (List Int))) false, .sl 1 (List.map e_i64 ([0, 0] : List Int)) false, .box [.ref 2 (List.length ([[], []] : List (List Int))) 0 (List.length ([[], []] : List (List Int))), .ref 3 (List.length ([0, 0] : List Int)) 0 (List.length ([0, 0] : List Int))], .sl 1 (List.map e_i64 ([(-1), 2] : List Int)) false]) (List.map e_i64 ([(-1), 2] : List Int)) Try.underlying22 ty3) ?_
  refine oFreeze 0 (esz := 6) (xs := List.map e_SPart ([(⟨1, 4, 0, 0, 0, 0⟩ : SPart), (⟨2, 1, 0, 0, 4, 2⟩ : SPart)] : List SPart)) (h := ?_)
  refine oView (H' := [.sl 6 (List.map e_SPart ([(⟨1, 4, 0, 0, 0, 0⟩ : SPart), (⟨2, 1, 0, 0, 4, 2⟩ : SPart)] : List SPart)) true, .box [.d (.int .i64 0), .d (.int .i64 0), .ref 0 (List.length ([(⟨1, 4, 0, 0, 0, 0⟩ : SPart), (⟨2, 1, 0, 0, 4, 2⟩ : SPart)] : List SPart)) 0 (List.length ([(⟨1, 4, 0, 0, 0, 0⟩ : SPart), (⟨2, 1, 0, 0, 4, 2⟩ : SPart)] : List SPart))], .sl 1 (List.map e_Li64 ([[], []] : List (List Int))) false, .sl 1 (List.map e_i64 ([0, 0] : List Int)) false, .box [.ref 2 (List.length ([[], []] : List (List Int))) 0 (List.length ([[], []] : List (List Int))), .ref 3 (List.length ([0, 0] : List Int)) 0 (List.length ([0, 0] : List Int))], .sl 1 (List.map e_i64 ([(-1), 2] : List Int)) false]) rfl (h := ?_)
  refine oFreeze 2 (esz := 1) (xs := List.map e_Li64 ([[], []] : List (List Int))) (h := ?_)
  refine oView (H' := [.sl 6 (List.map e_SPart ([(⟨1, 4, 0, 0, 0, 0⟩ : SPart), (⟨2, 1, 0, 0, 4, 2⟩ : SPart)] : List SPart)) true, .box [.d (.int .i64 0), .d (.int .i64 0), .ref 0 (List.length ([(⟨1, 4, 0, 0, 0, 0⟩ : SPart), (⟨2, 1, 0, 0, 4, 2⟩ : SPart)] : List SPart)) 0 (List.length ([(⟨1, 4, 0, 0, 0, 0⟩ : SPart), (⟨2, 1, 0, 0, 4, 2⟩ : SPart)] : List SPart))], .sl 1 (List.map e_Li64 ([[], []] : List (List Int))) true, .sl 1 (List.map e_i64 ([0, 0] : List Int)) false, .box [.ref 2 (List.length ([[], []] : List (List Int))) 0 (List.length ([[], []] : List (List Int))), .ref 3 (List.length ([0, 0] : List Int)) 0 (List.length ([0, 0] : List Int))], .sl 1 (List.map e_i64 ([(-1), 2] : List Int)) false]) rfl (h := ?_)
  refine oFreeze 3 (esz := 1) (xs := List.map e_i64 ([0, 0] : List Int)) (h := ?_)
  refine oView (H' := [.sl 6 (List.map e_SPart ([(⟨1, 4, 0, 0, 0, 0⟩ : SPart), (⟨2, 1, 0, 0, 4, 2⟩ : SPart)] : List SPart)) true, .box [.d (.int .i64 0), .d (.int .i64 0), .ref 0 (List.length ([(⟨1, 4, 0, 0, 0, 0⟩ : SPart), (⟨2, 1, 0, 0, 4, 2⟩ : SPart)] : List SPart)) 0 (List.length ([(⟨1, 4, 0, 0, 0, 0⟩ : SPart), (⟨2, 1, 0, 0, 4, 2⟩ : SPart)] : List SPart))], .sl 1 (List.map e_Li64 ([[], []] : List (List Int))) true, .sl 1 (List.map e_i64 ([0, 0] : List Int)) true, .box [.ref 2 (List.length ([[], []] : List (List Int))) 0 (List.length ([[], []] : List (List Int))), .ref 3 (List.length ([0, 0] : List Int)) 0 (List.length ([0, 0] : List Int))], .sl 1 (List.map e_i64 ([(-1), 2] : List Int)) false]) rfl (h := ?_)
  refine oFreeze 5 (esz := 1) (xs := List.map e_i64 ([(-1), 2] : List Int)) (h := ?_)
  refine oView (H' := [.sl 6 (List.map e_SPart ([(⟨1, 4, 0, 0, 0, 0⟩ : SPart), (⟨2, 1, 0, 0, 4, 2⟩ : SPart)] : List SPart)) true, .box [.d (.int .i64 0), .d (.int .i64 0), .ref 0 (List.length ([(⟨1, 4, 0, 0, 0, 0⟩ : SPart), (⟨2, 1, 0, 0, 4, 2⟩ : SPart)] : List SPart)) 0 (List.length ([(⟨1, 4, 0, 0, 0, 0⟩ : SPart), (⟨2, 1, 0, 0, 4, 2⟩ : SPart)] : List SPart))], .sl 1 (List.map e_Li64 ([[], []] : List (List Int))) true, .sl 1 (List.map e_i64 ([0, 0] : List Int)) true, .box [.ref 2 (List.length ([[], []] : List (List Int))) 0 (List.length ([[], []] : List (List Int))), .ref 3 (List.length ([0, 0] : List Int)) 0 (List.length ([0, 0] : List Int))], .sl 1 (List.map e_i64 ([(-1), 2] : List Int)) true]) rfl (h := ?_)
  refine bCall (caps := []) (v := (uc fun (r133 : (List Int)) => (fun (r142 : Int) => (.tuple [.d (.lit (List.map e_i64 r133)), .d (.int .i64 r142)] : V)))) (H' := (uc fun (r133 : (List Int)) => (fun (r142 : Int) => ([.sl 6 (List.map e_SPart ([(⟨1, 4, 0, 0, 0, 0⟩ : SPart), (⟨2, 1, 0, 0, 4, 2⟩ : SPart)] : List SPart)) true, .box [.d (.int .i64 0), .d (.int .i64 0), .ref 0 (List.length ([(⟨1, 4, 0, 0, 0, 0⟩ : SPart), (⟨2, 1, 0, 0, 4, 2⟩ : SPart)] : List SPart)) 0 (List.length ([(⟨1, 4, 0, 0, 0, 0⟩ : SPart), (⟨2, 1, 0, 0, 4, 2⟩ : SPart)] : List SPart))], .sl 1 (List.map e_Li64 ([[], []] : List (List Int))) true, .sl 1 (List.map e_i64 ([0, 0] : List Int)) true, .box [.ref 2 (List.length ([[], []] : List (List Int))) 0 (List.length ([[], []] : List (List Int))), .ref 3 (List.length ([0, 0] : List Int)) 0 (List.length ([0, 0] : List Int))], .sl 1 (List.map e_i64 ([(-1), 2] : List Int)) true] : List Blk)))) [] _ (scheme_Closed_goes k 0 0 ([(⟨1, 4, 0, 0, 0, 0⟩ : SPart), (⟨2, 1, 0, 0, 4, 2⟩ : SPart)] : List SPart) ([[], []] : List (List Int)) ([0, 0] : List Int) ([(-1), 2] : List Int)) (ho := rfl) (hfn := Try.func16) (hb := rfl) (hconv := (convList (vs0 := [.agg [.d (.int .i64 0), .d (.int .i64 0), .ref 0 (List.length ([(⟨1, 4, 0, 0, 0, 0⟩ : SPart), (⟨2, 1, 0, 0, 4, 2⟩ : SPart)] : List SPart)) 0 (List.length ([(⟨1, 4, 0, 0, 0, 0⟩ : SPart), (⟨2, 1, 0, 0, 4, 2⟩ : SPart)] : List SPart))], .agg [.ref 2 (List.length ([[], []] : List (List Int))) 0 (List.length ([[], []] : List (List Int))), .ref 3 (List.length ([0, 0] : List Int)) 0 (List.length ([0, 0] : List Int))], .ref 5 (List.length ([(-1), 2] : List Int)) 0 (List.length ([(-1), 2] : List Int))]) (vs := [.agg [.d (.int .i64 0), .d (.int .i64 0), .d (.lit (List.map e_SPart ([(⟨1, 4, 0, 0, 0, 0⟩ : SPart), (⟨2, 1, 0, 0, 4, 2⟩ : SPart)] : List SPart)))], .agg [.d (.lit (List.map e_Li64 ([[], []] : List (List Int)))), .d (.lit (List.map e_i64 ([0, 0] : List Int)))], .d (.lit (List.map e_i64 ([(-1), 2] : List Int)))]) (p := (.cons _ _ _ _ (.agg _ _ (.cons _ _ _ _ (.same _) (.cons _ _ _ _ (.same _) (.cons _ _ _ _ (k_lit (enc := e_SPart) (sz := 6) 0 ([(⟨1, 4, 0, 0, 0, 0⟩ : SPart), (⟨2, 1, 0, 0, 4, 2⟩ : SPart)] : List SPart)) .nil)))) (.cons _ _ _ _ (.agg _ _ (.cons _ _ _ _ (k_lit (enc := e_Li64) (sz := 1) 2 ([[], []] : List (List Int))) (.cons _ _ _ _ (k_lit (enc := e_i64) (sz := 1) 3 ([0, 0] : List Int)) .nil))) (.cons _ _ _ _ (k_lit (enc := e_i64) (sz := 1) 5 ([(-1), 2] : List Int)) .nil)))))) (hnd := by decide) (hBl := fun _ => (by kernel_rfl)) (hv := fun _ => (by kernel_rfl)) (hH' := fun _ => (by kernel_rfl)) (h := fun r => ?_)
  obtain ⟨r133, r142⟩ := r
  refine bUc ?_
  refine oP (.tuple [.d (.lit (List.map e_i64 r133)), .d (.int .i64 r142)]) p_move ?_
  refine oP (.d (.lit (List.map e_i64 r133))) k_extract ?_
  refine oP (.d (.int .i64 r142)) k_extract ?_
  refine oP (.d (.lit (List.map e_i64 r133))) p_assign ?_
  refine oP (.d (.int .i64 r142)) p_assign ?_
  refine oEnd ?_
  refine oSR rfl ?_
  refine oQ (.agg [.d (.int .i64 0), .d (.int .i64 0), .ref 0 (List.length ([(⟨1, 4, 0, 0, 0, 0⟩ : SPart), (⟨2, 1, 0, 0, 4, 2⟩ : SPart)] : List SPart)) 0 (List.length ([(⟨1, 4, 0, 0, 0, 0⟩ : SPart), (⟨2, 1, 0, 0, 4, 2⟩ : SPart)] : List SPart))]) (k_loadAgg 1 0 (hu := Try.underlying27) (hi := ty27)) ?_
  refine oQ (.agg [.ref 2 (List.length ([[], []] : List (List Int))) 0 (List.length ([[], []] : List (List Int))), .ref 3 (List.length ([0, 0] : List Int)) 0 (List.length ([0, 0] : List Int))]) (k_loadAgg 4 0 (hu := Try.underlying31) (hi := ty31)) ?_
  refine oD (.ref 6 (List.length ([3, 1] : List Int)) 0 (List.length ([3, 1] : List Int))) (k_buildSlice (H' := [.sl 6 (List.map e_SPart ([(⟨1, 4, 0, 0, 0, 0⟩ : SPart), (⟨2, 1, 0, 0, 4, 2⟩ : SPart)] : List SPart)) true, .box [.d (.int .i64 0), .d (.int .i64 0), .ref 0 (List.length ([(⟨1, 4, 0, 0, 0, 0⟩ : SPart), (⟨2, 1, 0, 0, 4, 2⟩ : SPart)] : List SPart)) 0 (List.length ([(⟨1, 4, 0, 0, 0, 0⟩ : SPart), (⟨2, 1, 0, 0, 4, 2⟩ : SPart)] : List SPart))], .sl 1 (List.map e_Li64 ([[], []] : List (List Int))) true, .sl 1 (List.map e_i64 ([0, 0] : List Int)) true, .box [.ref 2 (List.length ([[], []] : List (List Int))) 0 (List.length ([[], []] : List (List Int))), .ref 3 (List.length ([0, 0] : List Int)) 0 (List.length ([0, 0] : List Int))], .sl 1 (List.map e_i64 ([(-1), 2] : List Int)) true, .sl 1 (List.map e_i64 ([3, 1] : List Int)) false]) (List.map e_i64 ([3, 1] : List Int)) Try.underlying22 ty3) ?_
  refine oFreeze 6 (esz := 1) (xs := List.map e_i64 ([3, 1] : List Int)) (h := ?_)
  refine oView (H' := [.sl 6 (List.map e_SPart ([(⟨1, 4, 0, 0, 0, 0⟩ : SPart), (⟨2, 1, 0, 0, 4, 2⟩ : SPart)] : List SPart)) true, .box [.d (.int .i64 0), .d (.int .i64 0), .ref 0 (List.length ([(⟨1, 4, 0, 0, 0, 0⟩ : SPart), (⟨2, 1, 0, 0, 4, 2⟩ : SPart)] : List SPart)) 0 (List.length ([(⟨1, 4, 0, 0, 0, 0⟩ : SPart), (⟨2, 1, 0, 0, 4, 2⟩ : SPart)] : List SPart))], .sl 1 (List.map e_Li64 ([[], []] : List (List Int))) true, .sl 1 (List.map e_i64 ([0, 0] : List Int)) true, .box [.ref 2 (List.length ([[], []] : List (List Int))) 0 (List.length ([[], []] : List (List Int))), .ref 3 (List.length ([0, 0] : List Int)) 0 (List.length ([0, 0] : List Int))], .sl 1 (List.map e_i64 ([(-1), 2] : List Int)) true, .sl 1 (List.map e_i64 ([3, 1] : List Int)) true]) rfl (h := ?_)
  refine bCall (caps := []) (v := (uc fun (r134 : Int) => (fun (r143 : Int) => (.tuple [.d (.int .i64 r134), .d (.int .i64 r143)] : V)))) (H' := (uc fun (r134 : Int) => (fun (r143 : Int) => ([.sl 6 (List.map e_SPart ([(⟨1, 4, 0, 0, 0, 0⟩ : SPart), (⟨2, 1, 0, 0, 4, 2⟩ : SPart)] : List SPart)) true, .box [.d (.int .i64 0), .d (.int .i64 0), .ref 0 (List.length ([(⟨1, 4, 0, 0, 0, 0⟩ : SPart), (⟨2, 1, 0, 0, 4, 2⟩ : SPart)] : List SPart)) 0 (List.length ([(⟨1, 4, 0, 0, 0, 0⟩ : SPart), (⟨2, 1, 0, 0, 4, 2⟩ : SPart)] : List SPart))], .sl 1 (List.map e_Li64 ([[], []] : List (List Int))) true, .sl 1 (List.map e_i64 ([0, 0] : List Int)) true, .box [.ref 2 (List.length ([[], []] : List (List Int))) 0 (List.length ([[], []] : List (List Int))), .ref 3 (List.length ([0, 0] : List Int)) 0 (List.length ([0, 0] : List Int))], .sl 1 (List.map e_i64 ([(-1), 2] : List Int)) true, .sl 1 (List.map e_i64 ([3, 1] : List Int)) true] : List Blk)))) [] _ (scheme_Total_goes k 0 0 ([(⟨1, 4, 0, 0, 0, 0⟩ : SPart), (⟨2, 1, 0, 0, 4, 2⟩ : SPart)] : List SPart) ([[], []] : List (List Int)) ([0, 0] : List Int) ([3, 1] : List Int)) (ho := rfl) (hfn := Try.func21) (hb := rfl) (hconv := (convList (vs0 := [.agg [.d (.int .i64 0), .d (.int .i64 0), .ref 0 (List.length ([(⟨1, 4, 0, 0, 0, 0⟩ : SPart), (⟨2, 1, 0, 0, 4, 2⟩ : SPart)] : List SPart)) 0 (List.length ([(⟨1, 4, 0, 0, 0, 0⟩ : SPart), (⟨2, 1, 0, 0, 4, 2⟩ : SPart)] : List SPart))], .agg [.ref 2 (List.length ([[], []] : List (List Int))) 0 (List.length ([[], []] : List (List Int))), .ref 3 (List.length ([0, 0] : List Int)) 0 (List.length ([0, 0] : List Int))], .ref 6 (List.length ([3, 1] : List Int)) 0 (List.length ([3, 1] : List Int))]) (vs := [.agg [.d (.int .i64 0), .d (.int .i64 0), .d (.lit (List.map e_SPart ([(⟨1, 4, 0, 0, 0, 0⟩ : SPart), (⟨2, 1, 0, 0, 4, 2⟩ : SPart)] : List SPart)))], .agg [.d (.lit (List.map e_Li64 ([[], []] : List (List Int)))), .d (.lit (List.map e_i64 ([0, 0] : List Int)))], .d (.lit (List.map e_i64 ([3, 1] : List Int)))]) (p := (.cons _ _ _ _ (.agg _ _ (.cons _ _ _ _ (.same _) (.cons _ _ _ _ (.same _) (.cons _ _ _ _ (k_lit (enc := e_SPart) (sz := 6) 0 ([(⟨1, 4, 0, 0, 0, 0⟩ : SPart), (⟨2, 1, 0, 0, 4, 2⟩ : SPart)] : List SPart)) .nil)))) (.cons _ _ _ _ (.agg _ _ (.cons _ _ _ _ (k_lit (enc := e_Li64) (sz := 1) 2 ([[], []] : List (List Int))) (.cons _ _ _ _ (k_lit (enc := e_i64) (sz := 1) 3 ([0, 0] : List Int)) .nil))) (.cons _ _ _ _ (k_lit (enc := e_i64) (sz := 1) 6 ([3, 1] : List Int)) .nil)))))) (hnd := by decide) (hBl := fun _ => (by kernel_rfl)) (hv := fun _ => (by kernel_rfl)) (hH' := fun _ => (by kernel_rfl)) (h := fun r => ?_)
  obtain ⟨r134, r143⟩ := r
  refine bUc ?_
  refine oP (.tuple [.d (.int .i64 r134), .d (.int .i64 r143)]) p_move ?_
  refine oP (.d (.int .i64 r134)) k_extract ?_
  refine oP (.d (.int .i64 r143)) k_extract ?_
  refine oP (.d (.int .i64 r134)) p_assign ?_
  refine oP (.d (.int .i64 r143)) p_assign ?_
  refine oEnd ?_
  refine oSR rfl ?_
  refine oQ (.agg [.d (.int .i64 0), .d (.int .i64 0), .ref 0 (List.length ([(⟨1, 4, 0, 0, 0, 0⟩ : SPart), (⟨2, 1, 0, 0, 4, 2⟩ : SPart)] : List SPart)) 0 (List.length ([(⟨1, 4, 0, 0, 0, 0⟩ : SPart), (⟨2, 1, 0, 0, 4, 2⟩ : SPart)] : List SPart))]) (k_loadAgg 1 0 (hu := Try.underlying27) (hi := ty27)) ?_
  refine oQ (.agg [.ref 2 (List.length ([[], []] : List (List Int))) 0 (List.length ([[], []] : List (List Int))), .ref 3 (List.length ([0, 0] : List Int)) 0 (List.length ([0, 0] : List Int))]) (k_loadAgg 4 0 (hu := Try.underlying31) (hi := ty31)) ?_
  refine bCall (caps := []) (v := (uc fun (r1101 : (List (List Int))) => (uc fun (r1111 : (List Int)) => (fun (r1121 : Int) => (.tuple [.agg [.d (.lit (List.map e_Li64 r1101)), .d (.lit (List.map e_i64 r1111))], .d (.int .i64 r1121)] : V))))) (H' := (uc fun (r1101 : (List (List Int))) => (uc fun (r1111 : (List Int)) => (fun (r1121 : Int) => ([.sl 6 (List.map e_SPart ([(⟨1, 4, 0, 0, 0, 0⟩ : SPart), (⟨2, 1, 0, 0, 4, 2⟩ : SPart)] : List SPart)) true, .box [.d (.int .i64 0), .d (.int .i64 0), .ref 0 (List.length ([(⟨1, 4, 0, 0, 0, 0⟩ : SPart), (⟨2, 1, 0, 0, 4, 2⟩ : SPart)] : List SPart)) 0 (List.length ([(⟨1, 4, 0, 0, 0, 0⟩ : SPart), (⟨2, 1, 0, 0, 4, 2⟩ : SPart)] : List SPart))], .sl 1 (List.map e_Li64 ([[], []] : List (List Int))) true, .sl 1 (List.map e_i64 ([0, 0] : List Int)) true, .box [.ref 2 (List.length ([[], []] : List (List Int))) 0 (List.length ([[], []] : List (List Int))), .ref 3 (List.length ([0, 0] : List Int)) 0 (List.length ([0, 0] : List Int))], .sl 1 (List.map e_i64 ([(-1), 2] : List Int)) true, .sl 1 (List.map e_i64 ([3, 1] : List Int)) true] : List Blk))))) [] _ (scheme_Withdraw_goes k 0 0 ([(⟨1, 4, 0, 0, 0, 0⟩ : SPart), (⟨2, 1, 0, 0, 4, 2⟩ : SPart)] : List SPart) ([[], []] : List (List Int)) ([0, 0] : List Int) 1 2) (ho := rfl) (hfn := Try.func26) (hb := rfl) (hconv := (convList (vs0 := [.agg [.d (.int .i64 0), .d (.int .i64 0), .ref 0 (List.length ([(⟨1, 4, 0, 0, 0, 0⟩ : SPart), (⟨2, 1, 0, 0, 4, 2⟩ : SPart)] : List SPart)) 0 (List.length ([(⟨1, 4, 0, 0, 0, 0⟩ : SPart), (⟨2, 1, 0, 0, 4, 2⟩ : SPart)] : List SPart))], .agg [.ref 2 (List.length ([[], []] : List (List Int))) 0 (List.length ([[], []] : List (List Int))), .ref 3 (List.length ([0, 0] : List Int)) 0 (List.length ([0, 0] : List Int))], .d (.int .i64 1), .d (.int .i64 2)]) (vs := [.agg [.d (.int .i64 0), .d (.int .i64 0), .d (.lit (List.map e_SPart ([(⟨1, 4, 0, 0, 0, 0⟩ : SPart), (⟨2, 1, 0, 0, 4, 2⟩ : SPart)] : List SPart)))], .agg [.d (.lit (List.map e_Li64 ([[], []] : List (List Int)))), .d (.lit (List.map e_i64 ([0, 0] : List Int)))], .d (.int .i64 1), .d (.int .i64 2)]) (p := (.cons _ _ _ _ (.agg _ _ (.cons _ _ _ _ (.same _) (.cons _ _ _ _ (.same _) (.cons _ _ _ _ (k_lit (enc := e_SPart) (sz := 6) 0 ([(⟨1, 4, 0, 0, 0, 0⟩ : SPart), (⟨2, 1, 0, 0, 4, 2⟩ : SPart)] : List SPart)) .nil)))) (.cons _ _ _ _ (.agg _ _ (.cons _ _ _ _ (k_lit (enc := e_Li64) (sz := 1) 2 ([[], []] : List (List Int))) (.cons _ _ _ _ (k_lit (enc := e_i64) (sz := 1) 3 ([0, 0] : List Int)) .nil))) (.cons _ _ _ _ (.same _) (.cons _ _ _ _ (.same _) .nil))))))) (hnd := by decide) (hBl := fun _ => (by kernel_rfl)) (hv := fun _ => (by kernel_rfl)) (hH' := fun _ => (by kernel_rfl)) (h := fun r => ?_)
  obtain ⟨r1101, r1111, r1121⟩ := r
  refine bUc ?_
  refine bUc ?_
  refine oP (.tuple [.agg [.d (.lit (List.map e_Li64 r1101)), .d (.lit (List.map e_i64 r1111))], .d (.int .i64 r1121)]) p_move ?_
  refine oP (.agg [.d (.lit (List.map e_Li64 r1101)), .d (.lit (List.map e_i64 r1111))]) k_extract ?_
  refine oP (.d (.int .i64 r1121)) k_extract ?_
  refine oD (.ptr 7 0) (k_alloc (H' := [.sl 6 (List.map e_SPart ([(⟨1, 4, 0, 0, 0, 0⟩ : SPart), (⟨2, 1, 0, 0, 4, 2⟩ : SPart)] : List SPart)) true, .box [.d (.int .i64 0), .d (.int .i64 0), .ref 0 (List.length ([(⟨1, 4, 0, 0, 0, 0⟩ : SPart), (⟨2, 1, 0, 0, 4, 2⟩ : SPart)] : List SPart)) 0 (List.length ([(⟨1, 4, 0, 0, 0, 0⟩ : SPart), (⟨2, 1, 0, 0, 4, 2⟩ : SPart)] : List SPart))], .sl 1 (List.map e_Li64 ([[], []] : List (List Int))) true, .sl 1 (List.map e_i64 ([0, 0] : List Int)) true, .box [.ref 2 (List.length ([[], []] : List (List Int))) 0 (List.length ([[], []] : List (List Int))), .ref 3 (List.length ([0, 0] : List Int)) 0 (List.length ([0, 0] : List Int))], .sl 1 (List.map e_i64 ([(-1), 2] : List Int)) true, .sl 1 (List.map e_i64 ([3, 1] : List Int)) true, .box [.nilc, .nilc]]) ty31) ?_
  refine oD (.undef) (k_store (vs := [.d (.lit (List.map e_Li64 r1101)), .d (.lit (List.map e_i64 r1111))]) (H' := [.sl 6 (List.map e_SPart ([(⟨1, 4, 0, 0, 0, 0⟩ : SPart), (⟨2, 1, 0, 0, 4, 2⟩ : SPart)] : List SPart)) true, .box [.d (.int .i64 0), .d (.int .i64 0), .ref 0 (List.length ([(⟨1, 4, 0, 0, 0, 0⟩ : SPart), (⟨2, 1, 0, 0, 4, 2⟩ : SPart)] : List SPart)) 0 (List.length ([(⟨1, 4, 0, 0, 0, 0⟩ : SPart), (⟨2, 1, 0, 0, 4, 2⟩ : SPart)] : List SPart))], .sl 1 (List.map e_Li64 ([[], []] : List (List Int))) true, .sl 1 (List.map e_i64 ([0, 0] : List Int)) true, .box [.ref 2 (List.length ([[], []] : List (List Int))) 0 (List.length ([[], []] : List (List Int))), .ref 3 (List.length ([0, 0] : List Int)) 0 (List.length ([0, 0] : List Int))], .sl 1 (List.map e_i64 ([(-1), 2] : List Int)) true, .sl 1 (List.map e_i64 ([3, 1] : List Int)) true, .box [.d (.lit (List.map e_Li64 r1101)), .d (.lit (List.map e_i64 r1111))]]) 7 0 (hi := ty31)) ?_
  refine oP (.d (.int .i64 r1121)) p_assign ?_
  refine oEnd ?_
  refine oSR rfl ?_
  refine oQ (.agg [.d (.int .i64 0), .d (.int .i64 0), .ref 0 (List.length ([(⟨1, 4, 0, 0, 0, 0⟩ : SPart), (⟨2, 1, 0, 0, 4, 2⟩ : SPart)] : List SPart)) 0 (List.length ([(⟨1, 4, 0, 0, 0, 0⟩ : SPart), (⟨2, 1, 0, 0, 4, 2⟩ : SPart)] : List SPart))]) (k_loadAgg 1 0 (hu := Try.underlying27) (hi := ty27)) ?_
  refine oQ (.agg [.d (.lit (List.map e_Li64 r1101)), .d (.lit (List.map e_i64 r1111))]) (k_loadAgg 7 0 (hu := Try.underlying31) (hi := ty31)) ?_
  refine bCall (caps := []) (v := (uc fun (r113 : Int) => (fun (r135 : Int) => (.tuple [.d (.int .i64 r113), .d (.int .i64 r135)] : V)))) (H' := (uc fun (r113 : Int) => (fun (r135 : Int) => ([.sl 6 (List.map e_SPart ([(⟨1, 4, 0, 0, 0, 0⟩ : SPart), (⟨2, 1, 0, 0, 4, 2⟩ : SPart)] : List SPart)) true, .box [.d (.int .i64 0), .d (.int .i64 0), .ref 0 (List.length ([(⟨1, 4, 0, 0, 0, 0⟩ : SPart), (⟨2, 1, 0, 0, 4, 2⟩ : SPart)] : List SPart)) 0 (List.length ([(⟨1, 4, 0, 0, 0, 0⟩ : SPart), (⟨2, 1, 0, 0, 4, 2⟩ : SPart)] : List SPart))], .sl 1 (List.map e_Li64 ([[], []] : List (List Int))) true, .sl 1 (List.map e_i64 ([0, 0] : List Int)) true, .box [.ref 2 (List.length ([[], []] : List (List Int))) 0 (List.length ([[], []] : List (List Int))), .ref 3 (List.length ([0, 0] : List Int)) 0 (List.length ([0, 0] : List Int))], .sl 1 (List.map e_i64 ([(-1), 2] : List Int)) true, .sl 1 (List.map e_i64 ([3, 1] : List Int)) true, .box [.d (.lit (List.map e_Li64 r1101)), .d (.lit (List.map e_i64 r1111))]] : List Blk)))) [] _ (scheme_Maximum_goes k 0 0 ([(⟨1, 4, 0, 0, 0, 0⟩ : SPart), (⟨2, 1, 0, 0, 4, 2⟩ : SPart)] : List SPart) r1101 r1111) (ho := rfl) (hfn := Try.func23) (hb := rfl) (hconv := (convList (vs0 := [.agg [.d (.int .i64 0), .d (.int .i64 0), .ref 0 (List.length ([(⟨1, 4, 0, 0, 0, 0⟩ : SPart), (⟨2, 1, 0, 0, 4, 2⟩ : SPart)] : List SPart)) 0 (List.length ([(⟨1, 4, 0, 0, 0, 0⟩ : SPart), (⟨2, 1, 0, 0, 4, 2⟩ : SPart)] : List SPart))], .agg [.d (.lit (List.map e_Li64 r1101)), .d (.lit (List.map e_i64 r1111))]]) (vs := [.agg [.d (.int .i64 0), .d (.int .i64 0), .d (.lit (List.map e_SPart ([(⟨1, 4, 0, 0, 0, 0⟩ : SPart), (⟨2, 1, 0, 0, 4, 2⟩ : SPart)] : List SPart)))], .agg [.d (.lit (List.map e_Li64 r1101)), .d (.lit (List.map e_i64 r1111))]]) (p := (.cons _ _ _ _ (.agg _ _ (.cons _ _ _ _ (.same _) (.cons _ _ _ _ (.same _) (.cons _ _ _ _ (k_lit (enc := e_SPart) (sz := 6) 0 ([(⟨1, 4, 0, 0, 0, 0⟩ : SPart), (⟨2, 1, 0, 0, 4, 2⟩ : SPart)] : List SPart)) .nil)))) (.cons _ _ _ _ (.same _) .nil))))) (hnd := by decide) (hBl := fun _ => (by kernel_rfl)) (hv := fun _ => (by kernel_rfl)) (hH' := fun _ => (by kernel_rfl)) (h := fun r => ?_)
  obtain ⟨r113, r135⟩ := r
  refine bUc ?_
  refine oP (.tuple [.d (.int .i64 r113), .d (.int .i64 r135)]) p_move ?_
  refine oP (.d (.int .i64 r113)) k_extract ?_
  refine oP (.d (.int .i64 r135)) k_extract ?_
  refine oP (.d (.int .i64 r113)) p_assign ?_
  refine oP (.d (.int .i64 r135)) p_assign ?_
  refine oEnd ?_
  refine oSR rfl ?_
  refine oP (.d (.int .i64 r142)) p_move ?_
  refine oP (.d (.bool (r142 == 0))) (p_int (k := .i64) (p := r142) (q := 0)) ?_
  refine oP (.d (.bool (r142 == 0))) p_move ?_
  refine bMeet 4 rfl ((fun (x6 : Bool) => [(5, .d (.int .i64 r134)), (6, .d (.int .i64 r143)), (8, .d (.int .i64 r1121)), (9, .d (.int .i64 r113)), (10, .d (.int .i64 r135)), (50, .d (.bool x6))])) ((fun (x6 : Bool) => [])) (fun s => s) (fun x6 => ?_) (fun hj6 => ?_)
  ·refine oView (T' := [(5, .d (.int .i64 r134)), (6, .d (.int .i64 r143)), (8, .d (.int .i64 r1121)), (9, .d (.int .i64 r113)), (10, .d (.int .i64 r135)), (50, .d (.bool x6))]) (H' := []) (h := ?_)
   refine oP (.d (.bool x6)) p_move ?_
   refine bMeetF (H' := []) 3 rfl ((fun (x7 : Bool) => [(5, .d (.int .i64 r134)), (8, .d (.int .i64 r1121)), (9, .d (.int .i64 r113)), (10, .d (.int .i64 r135)), (54, .d (.bool x7))])) (fun x7 => ?_) (fun F hj1 => ?_)
   ·refine oView (T' := [(5, .d (.int .i64 r134)), (8, .d (.int .i64 r1121)), (9, .d (.int .i64 r113)), (10, .d (.int .i64 r135)), (54, .d (.bool x7))]) (H' := []) (h := ?_)
    refine oP (.d (.bool x7)) p_move ?_
    refine bMeetF (H' := []) 3 rfl ((fun (x8 : Bool) => [(8, .d (.int .i64 r1121)), (9, .d (.int .i64 r113)), (10, .d (.int .i64 r135)), (58, .d (.bool x8))])) (fun x8 => ?_) (fun F hj2 => ?_)
    ·refine oView (T' := [(8, .d (.int .i64 r1121)), (9, .d (.int .i64 r113)), (10, .d (.int .i64 r135)), (58, .d (.bool x8))]) (H' := []) (h := ?_)
     refine oP (.d (.bool x8)) p_move ?_
     refine bMeetF (H' := []) 3 rfl ((fun (x9 : Bool) => [(9, .d (.int .i64 r113)), (10, .d (.int .i64 r135)), (62, .d (.bool x9))])) (fun x9 => ?_) (fun F hj3 => ?_)
     ·refine oView (T' := [(9, .d (.int .i64 r113)), (10, .d (.int .i64 r135)), (62, .d (.bool x9))]) (H' := []) (h := ?_)
      refine oP (.d (.bool x9)) p_move ?_
      refine bMeetF (H' := []) 3 rfl ((fun (x10 : Bool) => [(9, .d (.int .i64 r113)), (66, .d (.bool x10))])) (fun x10 => ?_) (fun F hj4 => ?_)
      ·refine oView (T' := [(9, .d (.int .i64 r113)), (66, .d (.bool x10))]) (H' := []) (h := ?_)
       refine oP (.d (.bool x10)) p_move ?_
       refine bMeetF (H' := []) 3 rfl ((fun (x11 : Bool) => [(70, .d (.bool x11))])) (fun x11 => ?_) (fun F hj5 => ?_)
       ·refine oView (T' := [(70, .d (.bool x11))]) (H' := []) (h := ?_)
        refine oP (.d (.bool x11)) p_assign ?_
        refine oEnd ?_
        exact oRet (r0 := x11) (rv := .d (.bool x11)) (B := []) (vs := [.d (.bool x11)]) (σ := []) (hf := Try.func19) (hrs := rfl) (hres := .cons _ _ _ _ (.tmp 0 _ (by kernel_rfl)) .nil) (hnd := by decide)
       ·refine bPickF 67 (fun c => F (c && (r113 == 4))) (h1 := fun hc => ?_) (h2 := fun hc => ?_)
        ·refine oP (.d (.int .i64 r113)) p_move ?_
         refine oP (.d (.bool (r113 == 4))) (p_int (k := .i64) (p := r113) (q := 4)) ?_
         refine oP (.d (.bool (r113 == 4))) (p_pick (b := true)) ?_
         refine oHead [70] [] (T' := [(70, .d (.bool (r113 == 4)))]) (H' := []) (hnd := by decide) (h := ?_)
         exact hj5 (r113 == 4)
        ·refine oNot (h := ?_)
         refine oNot (h := ?_)
         refine oP (.d (.bool false)) (p_pick (b := false)) ?_
         refine oHead [70] [] (T' := [(70, .d (.bool false))]) (H' := []) (hnd := by decide) (h := ?_)
         exact hj5 false
      ·refine bPickF 63 (fun c => F (c && (r135 == 0))) (h1 := fun hc => ?_) (h2 := fun hc => ?_)
       ·refine oP (.d (.int .i64 r135)) p_move ?_
        refine oP (.d (.bool (r135 == 0))) (p_int (k := .i64) (p := r135) (q := 0)) ?_
        refine oP (.d (.bool (r135 == 0))) (p_pick (b := true)) ?_
        refine oHead [9, 66] [] (T' := [(9, .d (.int .i64 r113)), (66, .d (.bool (r135 == 0)))]) (H' := []) (hnd := by decide) (h := ?_)
        exact hj4 (r135 == 0)
       ·refine oNot (h := ?_)
        refine oNot (h := ?_)
        refine oP (.d (.bool false)) (p_pick (b := false)) ?_
        refine oHead [9, 66] [] (T' := [(9, .d (.int .i64 r113)), (66, .d (.bool false))]) (H' := []) (hnd := by decide) (h := ?_)
        exact hj4 false
     ·refine bPickF 59 (fun c => F (c && (r1121 == 0))) (h1 := fun hc => ?_) (h2 := fun hc => ?_)
      ·refine oP (.d (.int .i64 r1121)) p_move ?_
       refine oP (.d (.bool (r1121 == 0))) (p_int (k := .i64) (p := r1121) (q := 0)) ?_
       refine oP (.d (.bool (r1121 == 0))) (p_pick (b := true)) ?_
       refine oHead [9, 10, 62] [] (T' := [(9, .d (.int .i64 r113)), (10, .d (.int .i64 r135)), (62, .d (.bool (r1121 == 0)))]) (H' := []) (hnd := by decide) (h := ?_)
       exact hj3 (r1121 == 0)
      ·refine oNot (h := ?_)
       refine oNot (h := ?_)
       refine oP (.d (.bool false)) (p_pick (b := false)) ?_
       refine oHead [9, 10, 62] [] (T' := [(9, .d (.int .i64 r113)), (10, .d (.int .i64 r135)), (62, .d (.bool false))]) (H' := []) (hnd := by decide) (h := ?_)
       exact hj3 false
    ·refine bPickF 55 (fun c => F (c && (r134 == 4))) (h1 := fun hc => ?_) (h2 := fun hc => ?_)
     ·refine oP (.d (.int .i64 r134)) p_move ?_
      refine oP (.d (.bool (r134 == 4))) (p_int (k := .i64) (p := r134) (q := 4)) ?_
      refine oP (.d (.bool (r134 == 4))) (p_pick (b := true)) ?_
      refine oHead [8, 9, 10, 58] [] (T' := [(8, .d (.int .i64 r1121)), (9, .d (.int .i64 r113)), (10, .d (.int .i64 r135)), (58, .d (.bool (r134 == 4)))]) (H' := []) (hnd := by decide) (h := ?_)
      exact hj2 (r134 == 4)
     ·refine oNot (h := ?_)
      refine oNot (h := ?_)
      refine oP (.d (.bool false)) (p_pick (b := false)) ?_
      refine oHead [8, 9, 10, 58] [] (T' := [(8, .d (.int .i64 r1121)), (9, .d (.int .i64 r113)), (10, .d (.int .i64 r135)), (58, .d (.bool false))]) (H' := []) (hnd := by decide) (h := ?_)
      exact hj2 false
   ·refine bPickF 51 (fun c => F (c && (r143 == 0))) (h1 := fun hc => ?_) (h2 := fun hc => ?_)
    ·refine oP (.d (.int .i64 r143)) p_move ?_
     refine oP (.d (.bool (r143 == 0))) (p_int (k := .i64) (p := r143) (q := 0)) ?_
     refine oP (.d (.bool (r143 == 0))) (p_pick (b := true)) ?_
     refine oHead [5, 8, 9, 10, 54] [] (T' := [(5, .d (.int .i64 r134)), (8, .d (.int .i64 r1121)), (9, .d (.int .i64 r113)), (10, .d (.int .i64 r135)), (54, .d (.bool (r143 == 0)))]) (H' := []) (hnd := by decide) (h := ?_)
     exact hj1 (r143 == 0)
    ·refine oNot (h := ?_)
     refine oNot (h := ?_)
     refine oP (.d (.bool false)) (p_pick (b := false)) ?_
     refine oHead [5, 8, 9, 10, 54] [] (T' := [(5, .d (.int .i64 r134)), (8, .d (.int .i64 r1121)), (9, .d (.int .i64 r113)), (10, .d (.int .i64 r135)), (54, .d (.bool false))]) (H' := []) (hnd := by decide) (h := ?_)
     exact hj1 false
  ·refine bSplit 46 (h1 := fun hc => ?_) (h2 := fun hc => ?_)
   ·refine oP (.d (.lit (List.map e_i64 r133))) p_move ?_
    refine oD (.ref 8 (List.length ([(-2), 1] : List Int)) 0 (List.length ([(-2), 1] : List Int))) (k_buildSlice (H' := [.sl 6 (List.map e_SPart ([(⟨1, 4, 0, 0, 0, 0⟩ : SPart), (⟨2, 1, 0, 0, 4, 2⟩ : SPart)] : List SPart)) true, .box [.d (.int .i64 0), .d (.int .i64 0), .ref 0 (List.length ([(⟨1, 4, 0, 0, 0, 0⟩ : SPart), (⟨2, 1, 0, 0, 4, 2⟩ : SPart)] : List SPart)) 0 (List.length ([(⟨1, 4, 0, 0, 0, 0⟩ : SPart), (⟨2, 1, 0, 0, 4, 2⟩ : SPart)] : List SPart))], .sl 1 (List.map e_Li64 ([[], []] : List (List Int))) true, .sl 1 (List.map e_i64 ([0, 0] : List Int)) true, .box [.ref 2 (List.length ([[], []] : List (List Int))) 0 (List.length ([[], []] : List (List Int))), .ref 3 (List.length ([0, 0] : List Int)) 0 (List.length ([0, 0] : List Int))], .sl 1 (List.map e_i64 ([(-1), 2] : List Int)) true, .sl 1 (List.map e_i64 ([3, 1] : List Int)) true, .box [.d (.lit (List.map e_Li64 r1101)), .d (.lit (List.map e_i64 r1111))], .sl 1 (List.map e_i64 ([(-2), 1] : List Int)) false]) (List.map e_i64 ([(-2), 1] : List Int)) Try.underlying22 ty3) ?_
    refine oFreeze 8 (esz := 1) (xs := List.map e_i64 ([(-2), 1] : List Int)) (h := ?_)
    refine oView (H' := [.sl 6 (List.map e_SPart ([(⟨1, 4, 0, 0, 0, 0⟩ : SPart), (⟨2, 1, 0, 0, 4, 2⟩ : SPart)] : List SPart)) true, .box [.d (.int .i64 0), .d (.int .i64 0), .ref 0 (List.length ([(⟨1, 4, 0, 0, 0, 0⟩ : SPart), (⟨2, 1, 0, 0, 4, 2⟩ : SPart)] : List SPart)) 0 (List.length ([(⟨1, 4, 0, 0, 0, 0⟩ : SPart), (⟨2, 1, 0, 0, 4, 2⟩ : SPart)] : List SPart))], .sl 1 (List.map e_Li64 ([[], []] : List (List Int))) true, .sl 1 (List.map e_i64 ([0, 0] : List Int)) true, .box [.ref 2 (List.length ([[], []] : List (List Int))) 0 (List.length ([[], []] : List (List Int))), .ref 3 (List.length ([0, 0] : List Int)) 0 (List.length ([0, 0] : List Int))], .sl 1 (List.map e_i64 ([(-1), 2] : List Int)) true, .sl 1 (List.map e_i64 ([3, 1] : List Int)) true, .box [.d (.lit (List.map e_Li64 r1101)), .d (.lit (List.map e_i64 r1111))], .sl 1 (List.map e_i64 ([(-2), 1] : List Int)) true]) rfl (h := ?_)
    refine bCall (caps := []) (v := (fun (r16 : Bool) => (.d (.bool r16) : V))) (H' := (fun (r16 : Bool) => ([.sl 6 (List.map e_SPart ([(⟨1, 4, 0, 0, 0, 0⟩ : SPart), (⟨2, 1, 0, 0, 4, 2⟩ : SPart)] : List SPart)) true, .box [.d (.int .i64 0), .d (.int .i64 0), .ref 0 (List.length ([(⟨1, 4, 0, 0, 0, 0⟩ : SPart), (⟨2, 1, 0, 0, 4, 2⟩ : SPart)] : List SPart)) 0 (List.length ([(⟨1, 4, 0, 0, 0, 0⟩ : SPart), (⟨2, 1, 0, 0, 4, 2⟩ : SPart)] : List SPart))], .sl 1 (List.map e_Li64 ([[], []] : List (List Int))) true, .sl 1 (List.map e_i64 ([0, 0] : List Int)) true, .box [.ref 2 (List.length ([[], []] : List (List Int))) 0 (List.length ([[], []] : List (List Int))), .ref 3 (List.length ([0, 0] : List Int)) 0 (List.length ([0, 0] : List Int))], .sl 1 (List.map e_i64 ([(-1), 2] : List Int)) true, .sl 1 (List.map e_i64 ([3, 1] : List Int)) true, .box [.d (.lit (List.map e_Li64 r1101)), .d (.lit (List.map e_i64 r1111))], .sl 1 (List.map e_i64 ([(-2), 1] : List Int)) true] : List Blk))) [] _ (ref06_Ints_goes k r133 ([(-2), 1] : List Int)) (ho := rfl) (hfn := Try.func18) (hb := rfl) (hconv := (convList (vs0 := [.d (.lit (List.map e_i64 r133)), .ref 8 (List.length ([(-2), 1] : List Int)) 0 (List.length ([(-2), 1] : List Int))]) (vs := [.d (.lit (List.map e_i64 r133)), .d (.lit (List.map e_i64 ([(-2), 1] : List Int)))]) (p := (.cons _ _ _ _ (.same _) (.cons _ _ _ _ (k_lit (enc := e_i64) (sz := 1) 8 ([(-2), 1] : List Int)) .nil))))) (hnd := by decide) (hBl := fun _ => (by kernel_rfl)) (hv := fun _ => (by kernel_rfl)) (hH' := fun _ => (by kernel_rfl)) (h := fun r16 => ?_)
    refine oP (.d (.bool r16)) (p_pick (b := true)) ?_
    refine oHead [5, 6, 8, 9, 10, 50] [] (T' := [(5, .d (.int .i64 r134)), (6, .d (.int .i64 r143)), (8, .d (.int .i64 r1121)), (9, .d (.int .i64 r113)), (10, .d (.int .i64 r135)), (50, .d (.bool r16))]) (H' := []) (hnd := by decide) (h := ?_)
    exact hj6 r16
   ·refine oNot (h := ?_)
    refine oNot (h := ?_)
    refine oNot (h := ?_)
    refine oP (.d (.bool false)) (p_pick (b := false)) ?_
    refine oHead [5, 6, 8, 9, 10, 50] [] (T' := [(5, .d (.int .i64 r134)), (6, .d (.int .i64 r143)), (8, .d (.int .i64 r1121)), (9, .d (.int .i64 r113)), (10, .d (.int .i64 r135)), (50, .d (.bool false))]) (H' := []) (hnd := by decide) (h := ?_)
    exact hj6 false

/-- awardingbody/awardingbodylaw23.SchemeCloses -/
def law23_SchemeCloses (k : Nat) (t : (List Int)) (answers : (List Int)) : Option (Bool) := Option.bind (make_New k t) (fun x5 => Option.bind (make_Tape_LoosePaper k x5 0) (uc fun r143 => uc fun r152 => uc fun r162 => fun x111 => Option.bind (make_Tape_Scheme k r143 r152 r162 x5 x111) (uc fun r153 => uc fun r163 => fun x561 => Option.bind (make_Tape_Given k r143 r152 r162 x5 x561) (uc fun r1101 => fun x121 => Option.bind (scheme_Closed k r143 r152 r162 r153 r163 r1101) (uc fun r134 => fun r144 => Option.bind (ref23_Closed k r143 r152 r162 r153 r163 r1101) (uc fun r112 => fun r135 => Option.bind (scheme_Closed k r143 r152 r162 r153 r163 answers) (uc fun r136 => fun r145 => Option.bind (ref23_Closed k r143 r152 r162 r153 r163 answers) (uc fun r113 => fun r137 => Option.bind (ref06_Ints k r134 r112) (fun r18 => blet (r18 && (r144 == r135)) fun x6 => Option.bind (bif x6 then Option.bind (ref06_Ints k r136 r113) (fun r114 => some r114) else some false : Option (Bool)) (fun x7 => blet (x7 && (r145 == r137)) fun x8 => Option.bind (bif x8 then Option.bind (law23_awake k) (fun r123 => some r123) else some false : Option (Bool)) (fun x9 => some x9)))))))))))
def law23_SchemeCloses_E (t : (List Int)) (answers : (List Int)) : Bool → V × List Blk := fun r17 => (.d (.bool r17), [])
theorem law23_SchemeCloses_goes (k : Nat) (t : (List Int)) (answers : (List Int)) : RunsO Try.prog 3 [.d (.lit (List.map e_i64 t)), .d (.lit (List.map e_i64 answers))] [] (law23_SchemeCloses_E t answers) (law23_SchemeCloses k t answers) := by
  refine RunsO.of_goes (N := 76) (m := 0) (T := [(0, .d (.lit (List.map e_i64 t))), (1, .d (.lit (List.map e_i64 answers)))]) Try.func3 rfl rfl (h := ?_)
  unfold law23_SchemeCloses
  refine bStart ?_
  refine oSR rfl ?_
  refine oP (.d (.bool false)) p_assign ?_
  refine oEnd ?_
  refine oSR rfl ?_
  refine oP (.d (.lit (List.map e_i64 t))) p_move ?_
  refine bCall (caps := []) (v := (fun (x5 : (List Int)) => (.ptr 0 0 : V))) (H' := (fun (x5 : (List Int)) => ([.box [.d (.lit (List.map e_i64 x5)), .d (.int .i64 0)]] : List Blk))) [] _ (make_New_goes k t) (ho := rfl) (hfn := Try.func12) (hb := rfl) (hconv := ConvRs.refl _ _) (hnd := by decide) (hBl := fun _ => (by kernel_rfl)) (hv := fun _ => (by kernel_rfl)) (hH' := fun _ => (by kernel_rfl)) (h := fun x5 => ?_)
  refine oP (.ptr 0 0) p_assign ?_
  refine oEnd ?_
  refine oSR rfl ?_
  refine oP (.ptr 0 0) p_move ?_
  refine bCall (caps := []) (v := (uc fun (r143 : Int) => (uc fun (r152 : Int) => (uc fun (r162 : (List SPart)) => (fun (x111 : Int) => (.agg [.d (.int .i64 r143), .d (.int .i64 r152), .d (.lit (List.map e_SPart r162))] : V)))))) (H' := (uc fun (r143 : Int) => (uc fun (r152 : Int) => (uc fun (r162 : (List SPart)) => (fun (x111 : Int) => ([.box [.d (.lit (List.map e_i64 x5)), .d (.int .i64 x111)]] : List Blk)))))) [0] _ (make_Tape_LoosePaper_goes k x5 0) (ho := rfl) (hfn := Try.func13) (hb := rfl) (hconv := ConvRs.refl _ _) (hnd := by decide) (hBl := fun _ => (by kernel_rfl)) (hv := fun _ => (by kernel_rfl)) (hH' := fun _ => (by kernel_rfl)) (h := fun r => ?_)
  obtain ⟨r143, r152, r162, x111⟩ := r
  refine bUc ?_
  refine bUc ?_
  refine bUc ?_
  refine oD (.ptr 1 0) (k_alloc (H' := [.box [.d (.lit (List.map e_i64 x5)), .d (.int .i64 x111)], .box [.d (.int .i64 0), .d (.int .i64 0), .nilc]]) ty27) ?_
  refine oD (.undef) (k_store (vs := [.d (.int .i64 r143), .d (.int .i64 r152), .d (.lit (List.map e_SPart r162))]) (H' := [.box [.d (.lit (List.map e_i64 x5)), .d (.int .i64 x111)], .box [.d (.int .i64 r143), .d (.int .i64 r152), .d (.lit (List.map e_SPart r162))]]) 1 0 (hi := ty27)) ?_
  refine oEnd ?_
  refine oSR rfl ?_
  refine oP (.ptr 0 0) p_move ?_
  refine oQ (.agg [.d (.int .i64 r143), .d (.int .i64 r152), .d (.lit (List.map e_SPart r162))]) (k_loadAgg 1 0 (hu := Try.underlying27) (hi := ty27)) ?_
  refine bCall (caps := []) (v := (uc fun (r153 : (List (List Int))) => (uc fun (r163 : (List Int)) => (fun (x561 : Int) => (.agg [.d (.lit (List.map e_Li64 r153)), .d (.lit (List.map e_i64 r163))] : V))))) (H' := (uc fun (r153 : (List (List Int))) => (uc fun (r163 : (List Int)) => (fun (x561 : Int) => ([.box [.d (.lit (List.map e_i64 x5)), .d (.int .i64 x561)], .box [.d (.int .i64 r143), .d (.int .i64 r152), .d (.lit (List.map e_SPart r162))]] : List Blk))))) [0] _ (make_Tape_Scheme_goes k r143 r152 r162 x5 x111) (ho := rfl) (hfn := Try.func14) (hb := rfl) (hconv := ConvRs.refl _ _) (hnd := by decide) (hBl := fun _ => (by kernel_rfl)) (hv := fun _ => (by kernel_rfl)) (hH' := fun _ => (by kernel_rfl)) (h := fun r => ?_)
  obtain ⟨r153, r163, x561⟩ := r
  refine bUc ?_
  refine bUc ?_
  refine oD (.ptr 2 0) (k_alloc (H' := [.box [.d (.lit (List.map e_i64 x5)), .d (.int .i64 x561)], .box [.d (.int .i64 r143), .d (.int .i64 r152), .d (.lit (List.map e_SPart r162))], .box [.nilc, .nilc]]) ty31) ?_
  refine oD (.undef) (k_store (vs := [.d (.lit (List.map e_Li64 r153)), .d (.lit (List.map e_i64 r163))]) (H' := [.box [.d (.lit (List.map e_i64 x5)), .d (.int .i64 x561)], .box [.d (.int .i64 r143), .d (.int .i64 r152), .d (.lit (List.map e_SPart r162))], .box [.d (.lit (List.map e_Li64 r153)), .d (.lit (List.map e_i64 r163))]]) 2 0 (hi := ty31)) ?_
  refine oEnd ?_
  refine oSR rfl ?_
  refine oP (.ptr 0 0) p_move ?_
  refine oQ (.agg [.d (.int .i64 r143), .d (.int .i64 r152), .d (.lit (List.map e_SPart r162))]) (k_loadAgg 1 0 (hu := Try.underlying27) (hi := ty27)) ?_
  refine bCall (caps := []) (v := (uc fun (r1101 : (List Int)) => (fun (x121 : Int) => (.d (.lit (List.map e_i64 r1101)) : V)))) (H' := (uc fun (r1101 : (List Int)) => (fun (x121 : Int) => ([.box [.d (.lit (List.map e_i64 x5)), .d (.int .i64 x121)], .box [.d (.int .i64 r143), .d (.int .i64 r152), .d (.lit (List.map e_SPart r162))], .box [.d (.lit (List.map e_Li64 r153)), .d (.lit (List.map e_i64 r163))]] : List Blk)))) [0] _ (make_Tape_Given_goes k r143 r152 r162 x5 x561) (ho := rfl) (hfn := Try.func15) (hb := rfl) (hconv := ConvRs.refl _ _) (hnd := by decide) (hBl := fun _ => (by kernel_rfl)) (hv := fun _ => (by kernel_rfl)) (hH' := fun _ => (by kernel_rfl)) (h := fun r => ?_)
  obtain ⟨r1101, x121⟩ := r
  refine bUc ?_
  refine oP (.d (.lit (List.map e_i64 r1101))) p_assign ?_
  refine oEnd ?_
  refine oSR rfl ?_
  refine oQ (.agg [.d (.int .i64 r143), .d (.int .i64 r152), .d (.lit (List.map e_SPart r162))]) (k_loadAgg 1 0 (hu := Try.underlying27) (hi := ty27)) ?_
  refine oQ (.agg [.d (.lit (List.map e_Li64 r153)), .d (.lit (List.map e_i64 r163))]) (k_loadAgg 2 0 (hu := Try.underlying31) (hi := ty31)) ?_
  refine oP (.d (.lit (List.map e_i64 r1101))) p_move ?_
  refine bCall (caps := []) (v := (uc fun (r134 : (List Int)) => (fun (r144 : Int) => (.tuple [.d (.lit (List.map e_i64 r134)), .d (.int .i64 r144)] : V)))) (H' := (uc fun (r134 : (List Int)) => (fun (r144 : Int) => ([.box [.d (.lit (List.map e_i64 x5)), .d (.int .i64 x121)], .box [.d (.int .i64 r143), .d (.int .i64 r152), .d (.lit (List.map e_SPart r162))], .box [.d (.lit (List.map e_Li64 r153)), .d (.lit (List.map e_i64 r163))]] : List Blk)))) [] _ (scheme_Closed_goes k r143 r152 r162 r153 r163 r1101) (ho := rfl) (hfn := Try.func16) (hb := rfl) (hconv := ConvRs.refl _ _) (hnd := by decide) (hBl := fun _ => (by kernel_rfl)) (hv := fun _ => (by kernel_rfl)) (hH' := fun _ => (by kernel_rfl)) (h := fun r => ?_)
  obtain ⟨r134, r144⟩ := r
  refine bUc ?_
  refine oP (.tuple [.d (.lit (List.map e_i64 r134)), .d (.int .i64 r144)]) p_move ?_
  refine oP (.d (.lit (List.map e_i64 r134))) k_extract ?_
  refine oP (.d (.int .i64 r144)) k_extract ?_
  refine oP (.d (.lit (List.map e_i64 r134))) p_assign ?_
  refine oP (.d (.int .i64 r144)) p_assign ?_
  refine oEnd ?_
  refine oSR rfl ?_
  refine oQ (.agg [.d (.int .i64 r143), .d (.int .i64 r152), .d (.lit (List.map e_SPart r162))]) (k_loadAgg 1 0 (hu := Try.underlying27) (hi := ty27)) ?_
  refine oQ (.agg [.d (.lit (List.map e_Li64 r153)), .d (.lit (List.map e_i64 r163))]) (k_loadAgg 2 0 (hu := Try.underlying31) (hi := ty31)) ?_
  refine oP (.d (.lit (List.map e_i64 r1101))) p_move ?_
  refine bCall (caps := []) (v := (uc fun (r112 : (List Int)) => (fun (r135 : Int) => (.tuple [.d (.lit (List.map e_i64 r112)), .d (.int .i64 r135)] : V)))) (H' := (uc fun (r112 : (List Int)) => (fun (r135 : Int) => ([.box [.d (.lit (List.map e_i64 x5)), .d (.int .i64 x121)], .box [.d (.int .i64 r143), .d (.int .i64 r152), .d (.lit (List.map e_SPart r162))], .box [.d (.lit (List.map e_Li64 r153)), .d (.lit (List.map e_i64 r163))]] : List Blk)))) [] _ (ref23_Closed_goes k r143 r152 r162 r153 r163 r1101) (ho := rfl) (hfn := Try.func17) (hb := rfl) (hconv := ConvRs.refl _ _) (hnd := by decide) (hBl := fun _ => (by kernel_rfl)) (hv := fun _ => (by kernel_rfl)) (hH' := fun _ => (by kernel_rfl)) (h := fun r => ?_)
  obtain ⟨r112, r135⟩ := r
  refine bUc ?_
  refine oP (.tuple [.d (.lit (List.map e_i64 r112)), .d (.int .i64 r135)]) p_move ?_
  refine oP (.d (.lit (List.map e_i64 r112))) k_extract ?_
  refine oP (.d (.int .i64 r135)) k_extract ?_
  refine oP (.d (.lit (List.map e_i64 r112))) p_assign ?_
  refine oP (.d (.int .i64 r135)) p_assign ?_
  refine oEnd ?_
  refine oSR rfl ?_
  refine oQ (.agg [.d (.int .i64 r143), .d (.int .i64 r152), .d (.lit (List.map e_SPart r162))]) (k_loadAgg 1 0 (hu := Try.underlying27) (hi := ty27)) ?_
  refine oQ (.agg [.d (.lit (List.map e_Li64 r153)), .d (.lit (List.map e_i64 r163))]) (k_loadAgg 2 0 (hu := Try.underlying31) (hi := ty31)) ?_
  refine oP (.d (.lit (List.map e_i64 answers))) p_move ?_
  refine bCall (caps := []) (v := (uc fun (r136 : (List Int)) => (fun (r145 : Int) => (.tuple [.d (.lit (List.map e_i64 r136)), .d (.int .i64 r145)] : V)))) (H' := (uc fun (r136 : (List Int)) => (fun (r145 : Int) => ([.box [.d (.lit (List.map e_i64 x5)), .d (.int .i64 x121)], .box [.d (.int .i64 r143), .d (.int .i64 r152), .d (.lit (List.map e_SPart r162))], .box [.d (.lit (List.map e_Li64 r153)), .d (.lit (List.map e_i64 r163))]] : List Blk)))) [] _ (scheme_Closed_goes k r143 r152 r162 r153 r163 answers) (ho := rfl) (hfn := Try.func16) (hb := rfl) (hconv := ConvRs.refl _ _) (hnd := by decide) (hBl := fun _ => (by kernel_rfl)) (hv := fun _ => (by kernel_rfl)) (hH' := fun _ => (by kernel_rfl)) (h := fun r => ?_)
  obtain ⟨r136, r145⟩ := r
  refine bUc ?_
  refine oP (.tuple [.d (.lit (List.map e_i64 r136)), .d (.int .i64 r145)]) p_move ?_
  refine oP (.d (.lit (List.map e_i64 r136))) k_extract ?_
  refine oP (.d (.int .i64 r145)) k_extract ?_
  refine oP (.d (.lit (List.map e_i64 r136))) p_assign ?_
  refine oP (.d (.int .i64 r145)) p_assign ?_
  refine oEnd ?_
  refine oSR rfl ?_
  refine oQ (.agg [.d (.int .i64 r143), .d (.int .i64 r152), .d (.lit (List.map e_SPart r162))]) (k_loadAgg 1 0 (hu := Try.underlying27) (hi := ty27)) ?_
  refine oQ (.agg [.d (.lit (List.map e_Li64 r153)), .d (.lit (List.map e_i64 r163))]) (k_loadAgg 2 0 (hu := Try.underlying31) (hi := ty31)) ?_
  refine oP (.d (.lit (List.map e_i64 answers))) p_move ?_
  refine bCall (caps := []) (v := (uc fun (r113 : (List Int)) => (fun (r137 : Int) => (.tuple [.d (.lit (List.map e_i64 r113)), .d (.int .i64 r137)] : V)))) (H' := (uc fun (r113 : (List Int)) => (fun (r137 : Int) => ([.box [.d (.lit (List.map e_i64 x5)), .d (.int .i64 x121)], .box [.d (.int .i64 r143), .d (.int .i64 r152), .d (.lit (List.map e_SPart r162))], .box [.d (.lit (List.map e_Li64 r153)), .d (.lit (List.map e_i64 r163))]] : List Blk)))) [] _ (ref23_Closed_goes k r143 r152 r162 r153 r163 answers) (ho := rfl) (hfn := Try.func17) (hb := rfl) (hconv := ConvRs.refl _ _) (hnd := by decide) (hBl := fun _ => (by kernel_rfl)) (hv := fun _ => (by kernel_rfl)) (hH' := fun _ => (by kernel_rfl)) (h := fun r => ?_)
  obtain ⟨r113, r137⟩ := r
  refine bUc ?_
  refine oP (.tuple [.d (.lit (List.map e_i64 r113)), .d (.int .i64 r137)]) p_move ?_
  refine oP (.d (.lit (List.map e_i64 r113))) k_extract ?_
  refine oP (.d (.int .i64 r137)) k_extract ?_
  refine oP (.d (.lit (List.map e_i64 r113))) p_assign ?_
  refine oP (.d (.int .i64 r137)) p_assign ?_
  refine oEnd ?_
  refine oSR rfl ?_
  refine oP (.d (.lit (List.map e_i64 r134))) p_move ?_
  refine oP (.d (.lit (List.map e_i64 r112))) p_move ?_
  refine bCall (caps := []) (v := (fun (r18 : Bool) => (.d (.bool r18) : V))) (H' := (fun (r18 : Bool) => ([.box [.d (.lit (List.map e_i64 x5)), .d (.int .i64 x121)], .box [.d (.int .i64 r143), .d (.int .i64 r152), .d (.lit (List.map e_SPart r162))], .box [.d (.lit (List.map e_Li64 r153)), .d (.lit (List.map e_i64 r163))]] : List Blk))) [] _ (ref06_Ints_goes k r134 r112) (ho := rfl) (hfn := Try.func18) (hb := rfl) (hconv := ConvRs.refl _ _) (hnd := by decide) (hBl := fun _ => (by kernel_rfl)) (hv := fun _ => (by kernel_rfl)) (hH' := fun _ => (by kernel_rfl)) (h := fun r18 => ?_)
  refine oP (.d (.bool r18)) p_move ?_
  refine bMeetF (H' := []) 4 rfl ((fun (x6 : Bool) => [(13, .d (.lit (List.map e_i64 r136))), (14, .d (.int .i64 r145)), (15, .d (.lit (List.map e_i64 r113))), (16, .d (.int .i64 r137)), (62, .d (.bool x6))])) (fun x6 => ?_) (fun F hj1 => ?_)
  ·refine oView (T' := [(13, .d (.lit (List.map e_i64 r136))), (14, .d (.int .i64 r145)), (15, .d (.lit (List.map e_i64 r113))), (16, .d (.int .i64 r137)), (62, .d (.bool x6))]) (H' := []) (h := ?_)
   refine oP (.d (.bool x6)) p_move ?_
   refine bMeet 4 rfl ((fun (x7 : Bool) => [(14, .d (.int .i64 r145)), (16, .d (.int .i64 r137)), (67, .d (.bool x7))])) ((fun (x7 : Bool) => [])) (fun s => s) (fun x7 => ?_) (fun hj4 => ?_)
   ·refine oView (T' := [(14, .d (.int .i64 r145)), (16, .d (.int .i64 r137)), (67, .d (.bool x7))]) (H' := []) (h := ?_)
    refine oP (.d (.bool x7)) p_move ?_
    refine bMeetF (H' := []) 4 rfl ((fun (x8 : Bool) => [(72, .d (.bool x8))])) (fun x8 => ?_) (fun F hj2 => ?_)
    ·refine oView (T' := [(72, .d (.bool x8))]) (H' := []) (h := ?_)
     refine oP (.d (.bool x8)) p_move ?_
     refine bMeet 2 rfl ((fun (x9 : Bool) => [(75, .d (.bool x9))])) ((fun (x9 : Bool) => [])) (fun s => s) (fun x9 => ?_) (fun hj3 => ?_)
     ·refine oView (T' := [(75, .d (.bool x9))]) (H' := []) (h := ?_)
      refine oP (.d (.bool x9)) p_assign ?_
      refine oEnd ?_
      exact oRet (r0 := x9) (rv := .d (.bool x9)) (B := []) (vs := [.d (.bool x9)]) (σ := []) (hf := Try.func3) (hrs := rfl) (hres := .cons _ _ _ _ (.tmp 4 _ (by kernel_rfl)) .nil) (hnd := by decide)
     ·refine bSplit 73 (h1 := fun hc => ?_) (h2 := fun hc => ?_)
      ·refine bCall (caps := []) (v := (fun (r123 : Bool) => (.d (.bool r123) : V))) (H' := (fun (r123 : Bool) => ([] : List Blk))) [] _ (law23_awake_goes k) (ho := rfl) (hfn := Try.func19) (hb := rfl) (hconv := ConvRs.refl _ _) (hnd := by decide) (hBl := fun _ => (by kernel_rfl)) (hv := fun _ => (by kernel_rfl)) (hH' := fun _ => (by kernel_rfl)) (h := fun r123 => ?_)
       refine oP (.d (.bool r123)) (p_pick (b := true)) ?_
       refine oHead [75] [] (T' := [(75, .d (.bool r123))]) (H' := []) (hnd := by decide) (h := ?_)
       exact hj3 r123
      ·refine oNot (h := ?_)
       refine oP (.d (.bool false)) (p_pick (b := false)) ?_
       refine oHead [75] [] (T' := [(75, .d (.bool false))]) (H' := []) (hnd := by decide) (h := ?_)
       exact hj3 false
    ·refine bPickF 68 (fun c => F (c && (r145 == r137))) (h1 := fun hc => ?_) (h2 := fun hc => ?_)
     ·refine oP (.d (.int .i64 r145)) p_move ?_
      refine oP (.d (.int .i64 r137)) p_move ?_
      refine oP (.d (.bool (r145 == r137))) (p_int (k := .i64) (p := r145) (q := r137)) ?_
      refine oP (.d (.bool (r145 == r137))) (p_pick (b := true)) ?_
      refine oHead [72] [] (T' := [(72, .d (.bool (r145 == r137)))]) (H' := []) (hnd := by decide) (h := ?_)
      exact hj2 (r145 == r137)
     ·refine oNot (h := ?_)
      refine oNot (h := ?_)
      refine oNot (h := ?_)
      refine oP (.d (.bool false)) (p_pick (b := false)) ?_
      refine oHead [72] [] (T' := [(72, .d (.bool false))]) (H' := []) (hnd := by decide) (h := ?_)
      exact hj2 false
   ·refine bSplit 63 (h1 := fun hc => ?_) (h2 := fun hc => ?_)
    ·refine oP (.d (.lit (List.map e_i64 r136))) p_move ?_
     refine oP (.d (.lit (List.map e_i64 r113))) p_move ?_
     refine bCall (caps := []) (v := (fun (r114 : Bool) => (.d (.bool r114) : V))) (H' := (fun (r114 : Bool) => ([] : List Blk))) [] _ (ref06_Ints_goes k r136 r113) (ho := rfl) (hfn := Try.func18) (hb := rfl) (hconv := ConvRs.refl _ _) (hnd := by decide) (hBl := fun _ => (by kernel_rfl)) (hv := fun _ => (by kernel_rfl)) (hH' := fun _ => (by kernel_rfl)) (h := fun r114 => ?_)
     refine oP (.d (.bool r114)) (p_pick (b := true)) ?_
     refine oHead [14, 16, 67] [] (T' := [(14, .d (.int .i64 r145)), (16, .d (.int .i64 r137)), (67, .d (.bool r114))]) (H' := []) (hnd := by decide) (h := ?_)
     exact hj4 r114
    ·refine oNot (h := ?_)
     refine oNot (h := ?_)
     refine oNot (h := ?_)
     refine oP (.d (.bool false)) (p_pick (b := false)) ?_
     refine oHead [14, 16, 67] [] (T' := [(14, .d (.int .i64 r145)), (16, .d (.int .i64 r137)), (67, .d (.bool false))]) (H' := []) (hnd := by decide) (h := ?_)
     exact hj4 false
  ·refine bPickF 58 (fun c => F (c && (r144 == r135))) (h1 := fun hc => ?_) (h2 := fun hc => ?_)
   ·refine oP (.d (.int .i64 r144)) p_move ?_
    refine oP (.d (.int .i64 r135)) p_move ?_
    refine oP (.d (.bool (r144 == r135))) (p_int (k := .i64) (p := r144) (q := r135)) ?_
    refine oP (.d (.bool (r144 == r135))) (p_pick (b := true)) ?_
    refine oHead [13, 14, 15, 16, 62] [] (T' := [(13, .d (.lit (List.map e_i64 r136))), (14, .d (.int .i64 r145)), (15, .d (.lit (List.map e_i64 r113))), (16, .d (.int .i64 r137)), (62, .d (.bool (r144 == r135)))]) (H' := []) (hnd := by decide) (h := ?_)
    exact hj1 (r144 == r135)
   ·refine oNot (h := ?_)
    refine oNot (h := ?_)
    refine oNot (h := ?_)
    refine oP (.d (.bool false)) (p_pick (b := false)) ?_
    refine oHead [13, 14, 15, 16, 62] [] (T' := [(13, .d (.lit (List.map e_i64 r136))), (14, .d (.int .i64 r145)), (15, .d (.lit (List.map e_i64 r113))), (16, .d (.int .i64 r137)), (62, .d (.bool false))]) (H' := []) (hnd := by decide) (h := ?_)
    exact hj1 false

end Go.VM
