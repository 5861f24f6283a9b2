/- Plain functions that answer as the program's functions do, and the proof that they do. -/
import Derived.Test.YtdpoilkjdfnadaaProg
import Derived.KernelRfl
import Derived.Test.YtdpoilkjdfnadaaEngDeepCM
import Derived.Test.YtdpoilkjdfnadaaPeFacts
import Derived.Test.YtdpoilkjdfnadaaPeFuns0
import Derived.Test.YtdpoilkjdfnadaaPeFuns1
import Derived.Test.YtdpoilkjdfnadaaPeFuns2
import Derived.Test.YtdpoilkjdfnadaaPeFuns3
namespace Go.VM
open Go.Proofs
set_option linter.unusedVariables false
set_option linter.unusedSimpArgs false
set_option maxRecDepth 100000
/-- awardingbody/scheme.Total -/
def scheme_Total (k : Nat) (p0 : Int) (p1 : Int) (p2 : (List SPart)) (s0 : (List (List Int))) (s1 : (List Int)) (marks : (List Int)) : Option (Int × Int) := Option.bind (scheme_Valid k p0 p1 p2 s0 s1) (fun r16 => bif (!r16) then some (0, 1) else bif (((List.length marks) : Int) != ((List.length p2) : Int)) then some (0, 22) else Option.bind (scheme_Marked k p0 p1 p2 s0 s1 marks) (fun r128 => bif (!r128) then some (0, 8) else Option.bind (scheme_sum k p0 p1 p2 s0 s1 marks) (fun r129 => some (r129, 0))))
def scheme_Total_E (p0 : Int) (p1 : Int) (p2 : (List SPart)) (s0 : (List (List Int))) (s1 : (List Int)) (marks : (List Int)) : Int × Int → V × List Blk := uc fun r13 => fun r14 => (.tuple [.d (.int .i64 r13), .d (.int .i64 r14)], [])
theorem scheme_Total_goes (k : Nat) (p0 : Int) (p1 : Int) (p2 : (List SPart)) (s0 : (List (List Int))) (s1 : (List Int)) (marks : (List Int)) : RunsO Try.prog 21 [.agg [.d (.int .i64 p0), .d (.int .i64 p1), .d (.lit (List.map e_SPart p2))], .agg [.d (.lit (List.map e_Li64 s0)), .d (.lit (List.map e_i64 s1))], .d (.lit (List.map e_i64 marks))] [] (scheme_Total_E p0 p1 p2 s0 s1 marks) (scheme_Total k p0 p1 p2 s0 s1 marks) := by
  refine RunsO.of_goes (N := 30) (m := 0) (T := [(0, .agg [.d (.int .i64 p0), .d (.int .i64 p1), .d (.lit (List.map e_SPart p2))]), (1, .agg [.d (.lit (List.map e_Li64 s0)), .d (.lit (List.map e_i64 s1))]), (2, .d (.lit (List.map e_i64 marks)))]) Try.func21 rfl rfl (h := ?_)
  unfold scheme_Total
  refine bStart ?_
  refine oSR rfl ?_
  refine oD (.ptr 0 0) (k_box (H' := [.box [.d (.int .i64 p0), .d (.int .i64 p1), .d (.lit (List.map e_SPart p2))]]) (cells := [.d (.int .i64 p0), .d (.int .i64 p1), .d (.lit (List.map e_SPart p2))])) ?_
  refine oD (.ptr 1 0) (k_box (H' := [.box [.d (.int .i64 p0), .d (.int .i64 p1), .d (.lit (List.map e_SPart p2))], .box [.d (.lit (List.map e_Li64 s0)), .d (.lit (List.map e_i64 s1))]]) (cells := [.d (.lit (List.map e_Li64 s0)), .d (.lit (List.map e_i64 s1))])) ?_
  refine oD (.ptr 2 0) (k_box (H' := [.box [.d (.int .i64 p0), .d (.int .i64 p1), .d (.lit (List.map e_SPart p2))], .box [.d (.lit (List.map e_Li64 s0)), .d (.lit (List.map e_i64 s1))], .box [.d (.lit (List.map e_i64 marks))]]) (cells := [.d (.lit (List.map e_i64 marks))])) ?_
  refine oP (.d (.int .i64 0)) p_assign ?_
  refine oP (.d (.int .i64 0)) p_assign ?_
  refine oEnd ?_
  refine oSeq ?_
  refine oBlock ?_
  refine oSR rfl ?_
  refine oQ (.agg [.d (.int .i64 p0), .d (.int .i64 p1), .d (.lit (List.map e_SPart p2))]) (k_loadAgg 0 0 (hu := Try.underlying27) (hi := ty27)) ?_
  refine oQ (.agg [.d (.lit (List.map e_Li64 s0)), .d (.lit (List.map e_i64 s1))]) (k_loadAgg 1 0 (hu := Try.underlying31) (hi := ty31)) ?_
  refine bCall (caps := []) (v := (fun (r16 : Bool) => (.d (.bool r16) : V))) (H' := (fun (r16 : Bool) => ([.box [.d (.int .i64 p0), .d (.int .i64 p1), .d (.lit (List.map e_SPart p2))], .box [.d (.lit (List.map e_Li64 s0)), .d (.lit (List.map e_i64 s1))], .box [.d (.lit (List.map e_i64 marks))]] : List Blk))) [] _ (scheme_Valid_goes k p0 p1 p2 s0 s1) (ho := rfl) (hfn := Try.func30) (hb := rfl) (hconv := ConvRs.refl _ _) (hnd := by decide) (hBl := fun _ => (by kernel_rfl)) (hv := fun _ => (by kernel_rfl)) (hH' := fun _ => (by kernel_rfl)) (h := fun r16 => ?_)
  refine oP (.d (.bool (!r16))) (p_not (p := r16)) ?_
  refine oP (.d (.bool (!r16))) p_assign ?_
  refine oEnd ?_
  refine bSplit 8 (h1 := fun hc => ?_) (h2 := fun hc => ?_)
  ·refine oCondT (h := ?_)
   refine oSR rfl ?_
   refine oP (.d (.int .i64 0)) p_assign ?_
   refine oP (.d (.int .i64 1)) p_assign ?_
   refine oEnd ?_
   exact oRet (r0 := (0, 1)) (rv := .tuple [.d (.int .i64 0), .d (.int .i64 1)]) (B := []) (vs := [.d (.int .i64 0), .d (.int .i64 1)]) (σ := []) (hf := Try.func21) (hrs := rfl) (hres := .cons _ _ _ _ (.tmp 6 _ (by kernel_rfl)) (.cons _ _ _ _ (.tmp 7 _ (by kernel_rfl)) .nil)) (hnd := by decide)
  ·refine oCondF (h := ?_)
   refine oSR rfl ?_
   refine oQ (.d (.lit (List.map e_i64 marks))) (k_load 2 0 (hu := Try.underlying22)) ?_
   refine oP (.d (.int .i64 ((List.length marks) : Int))) (k_lenLit (enc := e_i64) marks (hu := Try.underlying22)) ?_
   refine oP (.ptr 0 2) (k_fieldAddr 0 0 (hu := Try.underlying27) (hf := rfl) (hi := ty25)) ?_
   refine oQ (.d (.lit (List.map e_SPart p2))) (k_load 0 2 (hu := Try.underlying25)) ?_
   refine oP (.d (.int .i64 ((List.length p2) : Int))) (k_lenLit (enc := e_SPart) p2 (hu := Try.underlying25)) ?_
   refine oP (.d (.bool (((List.length marks) : Int) != ((List.length p2) : Int)))) (p_int (k := .i64) (p := ((List.length marks) : Int)) (q := ((List.length p2) : Int))) ?_
   refine oP (.d (.bool (((List.length marks) : Int) != ((List.length p2) : Int)))) p_assign ?_
   refine oEnd ?_
   refine bSplit 13 (h1 := fun hc => ?_) (h2 := fun hc => ?_)
   ·refine oCondT (h := ?_)
    refine oSR rfl ?_
    refine oP (.d (.int .i64 0)) p_assign ?_
    refine oP (.d (.int .i64 22)) p_assign ?_
    refine oEnd ?_
    exact oRet (r0 := (0, 22)) (rv := .tuple [.d (.int .i64 0), .d (.int .i64 22)]) (B := []) (vs := [.d (.int .i64 0), .d (.int .i64 22)]) (σ := []) (hf := Try.func21) (hrs := rfl) (hres := .cons _ _ _ _ (.tmp 6 _ (by kernel_rfl)) (.cons _ _ _ _ (.tmp 7 _ (by kernel_rfl)) .nil)) (hnd := by decide)
   ·refine oCondF (h := ?_)
    refine oSR rfl ?_
    refine oQ (.agg [.d (.int .i64 p0), .d (.int .i64 p1), .d (.lit (List.map e_SPart p2))]) (k_loadAgg 0 0 (hu := Try.underlying27) (hi := ty27)) ?_
    refine oQ (.agg [.d (.lit (List.map e_Li64 s0)), .d (.lit (List.map e_i64 s1))]) (k_loadAgg 1 0 (hu := Try.underlying31) (hi := ty31)) ?_
    refine oQ (.d (.lit (List.map e_i64 marks))) (k_load 2 0 (hu := Try.underlying22)) ?_
    refine bCall (caps := []) (v := (fun (r128 : Bool) => (.d (.bool r128) : V))) (H' := (fun (r128 : Bool) => ([.box [.d (.int .i64 p0), .d (.int .i64 p1), .d (.lit (List.map e_SPart p2))], .box [.d (.lit (List.map e_Li64 s0)), .d (.lit (List.map e_i64 s1))], .box [.d (.lit (List.map e_i64 marks))]] : List Blk))) [] _ (scheme_Marked_goes k p0 p1 p2 s0 s1 marks) (ho := rfl) (hfn := Try.func36) (hb := rfl) (hconv := ConvRs.refl _ _) (hnd := by decide) (hBl := fun _ => (by kernel_rfl)) (hv := fun _ => (by kernel_rfl)) (hH' := fun _ => (by kernel_rfl)) (h := fun r128 => ?_)
    refine oP (.d (.bool (!r128))) (p_not (p := r128)) ?_
    refine oP (.d (.bool (!r128))) p_assign ?_
    refine oEnd ?_
    refine bSplit 20 (h1 := fun hc => ?_) (h2 := fun hc => ?_)
    ·refine oCondT (h := ?_)
     refine oSR rfl ?_
     refine oP (.d (.int .i64 0)) p_assign ?_
     refine oP (.d (.int .i64 8)) p_assign ?_
     refine oEnd ?_
     exact oRet (r0 := (0, 8)) (rv := .tuple [.d (.int .i64 0), .d (.int .i64 8)]) (B := []) (vs := [.d (.int .i64 0), .d (.int .i64 8)]) (σ := []) (hf := Try.func21) (hrs := rfl) (hres := .cons _ _ _ _ (.tmp 6 _ (by kernel_rfl)) (.cons _ _ _ _ (.tmp 7 _ (by kernel_rfl)) .nil)) (hnd := by decide)
    ·refine oCondF (h := ?_)
     refine oSkip ?_
     refine oBlk ?_
     refine oSR rfl ?_
     refine oQ (.agg [.d (.int .i64 p0), .d (.int .i64 p1), .d (.lit (List.map e_SPart p2))]) (k_loadAgg 0 0 (hu := Try.underlying27) (hi := ty27)) ?_
     refine oQ (.agg [.d (.lit (List.map e_Li64 s0)), .d (.lit (List.map e_i64 s1))]) (k_loadAgg 1 0 (hu := Try.underlying31) (hi := ty31)) ?_
     refine oP (.fn 46 [.ptr 2 0]) p_makeFunc ?_
     refine bCall (caps := []) (v := (fun (r129 : Int) => (.d (.int .i64 r129) : V))) (H' := (fun (r129 : Int) => ([.box [.d (.int .i64 p0), .d (.int .i64 p1), .d (.lit (List.map e_SPart p2))], .box [.d (.lit (List.map e_Li64 s0)), .d (.lit (List.map e_i64 s1))], .box [.d (.lit (List.map e_i64 marks))]] : List Blk))) [2] _ (scheme_sum_goes k p0 p1 p2 s0 s1 marks) (ho := rfl) (hfn := Try.func45) (hb := rfl) (hconv := ConvRs.refl _ _) (hnd := by decide) (hBl := fun _ => (by kernel_rfl)) (hv := fun _ => (by kernel_rfl)) (hH' := fun _ => (by kernel_rfl)) (h := fun r129 => ?_)
     refine oP (.d (.int .i64 r129)) p_assign ?_
     refine oP (.d (.int .i64 0)) p_assign ?_
     refine oEnd ?_
     exact oRet (r0 := (r129, 0)) (rv := .tuple [.d (.int .i64 r129), .d (.int .i64 0)]) (B := []) (vs := [.d (.int .i64 r129), .d (.int .i64 0)]) (σ := []) (hf := Try.func21) (hrs := rfl) (hres := .cons _ _ _ _ (.tmp 6 _ (by kernel_rfl)) (.cons _ _ _ _ (.tmp 7 _ (by kernel_rfl)) .nil)) (hnd := by decide)

/-- slices.Clone[[]int,int] -/
def slices_Clone_int (k : Nat) (s1 : (List Int)) : Option ((List Int)) := gcap (List.length s1) 8 (some s1)
def slices_Clone_int_E (s1 : (List Int)) : (List Int) → V × List Blk := fun r1 => (.d (.lit (List.map e_i64 r1)), [])
theorem slices_Clone_int_goes (k : Nat) (s1 : (List Int)) : RunsO Try.prog 50 [.d (.lit (List.map e_i64 s1))] [] (slices_Clone_int_E s1) (slices_Clone_int k s1) := by
  refine RunsO.of_goes (N := 8) (m := 0) (T := [(0, .d (.lit (List.map e_i64 s1)))]) Try.func50 rfl rfl (h := ?_)
  unfold slices_Clone_int
  refine bStart ?_
  refine oSR rfl ?_
  refine oP (.nilc) p_assign ?_
  refine oEnd ?_
  refine oSeq ?_
  refine oSR rfl ?_
  refine oP (.d (.lit (List.map e_i64 s1))) p_move ?_
  refine oNil (xs := List.map e_i64 s1) Try.underlying22 (h := fun β hβ => ?_)
  cases β
  ·refine oEnd ?_
   refine oCondF (h := ?_)
   refine oSkip ?_
   refine oSR rfl ?_
   refine oD (.ref 0 (List.length ([] : List Int)) 0 (List.length ([] : List Int))) (k_buildSlice (H' := [.sl 1 (List.map e_i64 ([] : List Int)) false]) (List.map e_i64 ([] : List Int)) Try.underlying22 ty3) ?_
   refine oP (.d (.lit (List.map e_i64 s1))) p_move ?_
   refine bCap (fun h11 => ?_)
   refine oD (.ref 0 (List.length s1) 0 (List.length s1)) (k_append (H' := [.sl 1 (List.map e_i64 s1) false]) (enc := e_i64) 0 ([] : List Int) s1 Try.underlying22 Try.underlying22 ty3 (hy := holdsLit e_i64_len s1) (hfit := h11)) ?_
   refine oP (.ref 0 (List.length s1) 0 (List.length s1)) p_assign ?_
   refine oEnd ?_
   refine oFreeze 0 (esz := 1) (xs := List.map e_i64 s1) (h := ?_)
   refine oView (H' := [.sl 1 (List.map e_i64 s1) true]) rfl (h := ?_)
   refine oConv 2 (v := .ref 0 (List.length s1) 0 (List.length s1)) (v' := .d (.lit (List.map e_i64 s1))) (hc := k_lit (enc := e_i64) (sz := 1) 0 s1) (h := ?_)
   exact oRet (r0 := s1) (rv := .d (.lit (List.map e_i64 s1))) (B := []) (vs := [.d (.lit (List.map e_i64 s1))]) (σ := []) (hf := Try.func50) (hrs := rfl) (hres := .cons _ _ _ _ (.tmp 2 _ (by kernel_rfl)) .nil) (hnd := by decide)
  ·have hs0 : s1 = [] := by cases s1 with | nil => rfl | cons a0 l0 => exact absurd (hβ (by simp)) (by simp)
   subst hs0
   refine bCap (fun _ => ?_)
   refine oEnd ?_
   refine oCondT (h := ?_)
   refine oSR rfl ?_
   refine oP (.nilc) p_assign ?_
   refine oEnd ?_
   refine oConv 2 (v := .nilc) (v' := .d (.lit (List.map e_i64 []))) (hc := .nil) (h := ?_)
   exact oRet (r0 := []) (rv := .d (.lit (List.map e_i64 []))) (B := []) (vs := [.d (.lit (List.map e_i64 []))]) (σ := []) (hf := Try.func50) (hrs := rfl) (hres := .cons _ _ _ _ (.tmp 2 _ (by kernel_rfl)) .nil) (hnd := by decide)

/-- slices.Clone[[]int,int] -/
def slices_Clone_int_2 (k : Nat) (s1 : (List Int)) : Option ((List Int)) := gcap (List.length s1) 8 (some s1)
theorem slices_Clone_int_2_eq : slices_Clone_int_2 = slices_Clone_int := rfl
def slices_Clone_int_2_E (s1 : (List Int)) : (List Int) → V × List Blk := fun xs => (.ref 0 (List.length xs) 0 (List.length xs), [.sl 1 (List.map e_i64 xs) false])
theorem slices_Clone_int_2_goes (k : Nat) (s1 : (List Int)) : RunsO Try.prog 50 [.d (.lit (List.map e_i64 s1))] [] (slices_Clone_int_2_E s1) (slices_Clone_int_2 k s1) := by
  refine RunsO.of_goes (N := 8) (m := 0) (T := [(0, .d (.lit (List.map e_i64 s1)))]) Try.func50 rfl rfl (h := ?_)
  unfold slices_Clone_int_2
  refine bStart ?_
  refine oSR rfl ?_
  refine oP (.nilc) p_assign ?_
  refine oEnd ?_
  refine oSeq ?_
  refine oSR rfl ?_
  refine oP (.d (.lit (List.map e_i64 s1))) p_move ?_
  refine oNil (xs := List.map e_i64 s1) Try.underlying22 (h := fun β hβ => ?_)
  cases β
  ·refine oEnd ?_
   refine oCondF (h := ?_)
   refine oSkip ?_
   refine oSR rfl ?_
   refine oD (.ref 0 (List.length ([] : List Int)) 0 (List.length ([] : List Int))) (k_buildSlice (H' := [.sl 1 (List.map e_i64 ([] : List Int)) false]) (List.map e_i64 ([] : List Int)) Try.underlying22 ty3) ?_
   refine oP (.d (.lit (List.map e_i64 s1))) p_move ?_
   refine bCap (fun h11 => ?_)
   refine oD (.ref 0 (List.length s1) 0 (List.length s1)) (k_append (H' := [.sl 1 (List.map e_i64 s1) false]) (enc := e_i64) 0 ([] : List Int) s1 Try.underlying22 Try.underlying22 ty3 (hy := holdsLit e_i64_len s1) (hfit := h11)) ?_
   refine oP (.ref 0 (List.length s1) 0 (List.length s1)) p_assign ?_
   refine oEnd ?_
   exact oRet (r0 := s1) (rv := .ref 0 (List.length s1) 0 (List.length s1)) (B := [.sl 1 (List.map e_i64 s1) false]) (vs := [.ref 0 (List.length s1) 0 (List.length s1)]) (σ := [0]) (hf := Try.func50) (hrs := rfl) (hres := .cons _ _ _ _ (.tmp 2 _ (by kernel_rfl)) .nil) (hnd := by decide)
  ·have hs0 : s1 = [] := by cases s1 with | nil => rfl | cons a0 l0 => exact absurd (hβ (by simp)) (by simp)
   subst hs0
   refine bCap (fun _ => ?_)
   refine oEnd ?_
   refine oCondT (h := ?_)
   refine oSR rfl ?_
   refine oP (.nilc) p_assign ?_
   refine oEnd ?_
   refine oVirt (esz := 1) 2 (h := ?_)
   refine oView (H' := [.sl 1 (List.map e_i64 ([] : List Int)) false]) rfl (h := ?_)
   exact oRet (r0 := ([] : List Int)) (rv := .ref 0 (List.length ([] : List Int)) 0 (List.length ([] : List Int))) (B := [.sl 1 (List.map e_i64 ([] : List Int)) false]) (vs := [.ref 0 (List.length ([] : List Int)) 0 (List.length ([] : List Int))]) (σ := [0]) (hf := Try.func50) (hrs := rfl) (hres := .cons _ _ _ _ (.tmp 2 _ (by kernel_rfl)) .nil) (hnd := by decide)

/-- awardingbody/scheme.Withdraw -/
def scheme_Withdraw_b1 (k : Nat) (s0 : (List (List Int))) (again : Int × (List (List Int)) → Option ((List (List Int)))) : Int × (List (List Int)) → Option ((List (List Int))) := uc fun x4 => fun xs10 => bif (decide (x4 < ((List.length s0) : Int))) then gidx s0 x4 fun e115 => Option.bind (slices_Clone_int k e115) (fun r19 => gcap (List.length (xs10 ++ ([r19] : List (List Int)))) 24 (again ((IntKind.wrap .i64 (x4 + 1)), (xs10 ++ ([r19] : List (List Int)))))) else some xs10
def scheme_Withdraw (k : Nat) (p0 : Int) (p1 : Int) (p2 : (List SPart)) (s0 : (List (List Int))) (s1 : (List Int)) (part : Int) (kind : Int) : Option ((List (List Int)) × (List Int) × Int) := Option.bind (scheme_Valid k p0 p1 p2 s0 s1) (fun r116 => bif (!r116) then some ([], [], 1) else Option.bind (scheme_there k p0 p1 p2 part) (fun r119 => bif (!r119) then some ([], [], 4) else Option.bind (scheme_known k kind) (fun r121 => bif (!r121) then some ([], [], 2) else Option.bind (slices_Clone_int_2 k s1) (fun xs5 => Option.bind (gloop (scheme_Withdraw_b1 k s0) k (0, ([] : List (List Int))) : Option ((List (List Int)))) (fun xs8 => gidx xs5 part fun e19 => blet (List.set xs5 (Int.toNat part) kind) fun xs9 => some (xs8, xs9, 0))))))
def scheme_Withdraw_E (p0 : Int) (p1 : Int) (p2 : (List SPart)) (s0 : (List (List Int))) (s1 : (List Int)) (part : Int) (kind : Int) : (List (List Int)) × (List Int) × Int → V × List Blk := uc fun r110 => uc fun r111 => fun r112 => (.tuple [.agg [.d (.lit (List.map e_Li64 r110)), .d (.lit (List.map e_i64 r111))], .d (.int .i64 r112)], [])
theorem scheme_Withdraw_goes (k : Nat) (p0 : Int) (p1 : Int) (p2 : (List SPart)) (s0 : (List (List Int))) (s1 : (List Int)) (part : Int) (kind : Int) : RunsO Try.prog 26 [.agg [.d (.int .i64 p0), .d (.int .i64 p1), .d (.lit (List.map e_SPart p2))], .agg [.d (.lit (List.map e_Li64 s0)), .d (.lit (List.map e_i64 s1))], .d (.int .i64 part), .d (.int .i64 kind)] [] (scheme_Withdraw_E p0 p1 p2 s0 s1 part kind) (scheme_Withdraw k p0 p1 p2 s0 s1 part kind) := by
  refine RunsO.of_goes (N := 55) (m := 0) (T := [(0, .agg [.d (.int .i64 p0), .d (.int .i64 p1), .d (.lit (List.map e_SPart p2))]), (1, .agg [.d (.lit (List.map e_Li64 s0)), .d (.lit (List.map e_i64 s1))]), (2, .d (.int .i64 part)), (3, .d (.int .i64 kind))]) Try.func26 rfl rfl (h := ?_)
  unfold scheme_Withdraw
  refine bStart ?_
  refine oSR rfl ?_
  refine oD (.ptr 0 0) (k_box (H' := [.box [.d (.int .i64 p0), .d (.int .i64 p1), .d (.lit (List.map e_SPart p2))]]) (cells := [.d (.int .i64 p0), .d (.int .i64 p1), .d (.lit (List.map e_SPart p2))])) ?_
  refine oD (.ptr 1 0) (k_box (H' := [.box [.d (.int .i64 p0), .d (.int .i64 p1), .d (.lit (List.map e_SPart p2))], .box [.d (.lit (List.map e_Li64 s0)), .d (.lit (List.map e_i64 s1))]]) (cells := [.d (.lit (List.map e_Li64 s0)), .d (.lit (List.map e_i64 s1))])) ?_
  refine oD (.ptr 2 0) (k_alloc (H' := [.box [.d (.int .i64 p0), .d (.int .i64 p1), .d (.lit (List.map e_SPart p2))], .box [.d (.lit (List.map e_Li64 s0)), .d (.lit (List.map e_i64 s1))], .box [.nilc, .nilc]]) ty31) ?_
  refine oP (.d (.int .i64 0)) p_assign ?_
  refine oEnd ?_
  refine oSeq ?_
  refine oBlock ?_
  refine oSR rfl ?_
  refine oQ (.agg [.d (.int .i64 p0), .d (.int .i64 p1), .d (.lit (List.map e_SPart p2))]) (k_loadAgg 0 0 (hu := Try.underlying27) (hi := ty27)) ?_
  refine oQ (.agg [.d (.lit (List.map e_Li64 s0)), .d (.lit (List.map e_i64 s1))]) (k_loadAgg 1 0 (hu := Try.underlying31) (hi := ty31)) ?_
  refine bCall (caps := []) (v := (fun (r116 : Bool) => (.d (.bool r116) : V))) (H' := (fun (r116 : Bool) => ([.box [.d (.int .i64 p0), .d (.int .i64 p1), .d (.lit (List.map e_SPart p2))], .box [.d (.lit (List.map e_Li64 s0)), .d (.lit (List.map e_i64 s1))], .box [.nilc, .nilc]] : List Blk))) [] _ (scheme_Valid_goes k p0 p1 p2 s0 s1) (ho := rfl) (hfn := Try.func30) (hb := rfl) (hconv := ConvRs.refl _ _) (hnd := by decide) (hBl := fun _ => (by kernel_rfl)) (hv := fun _ => (by kernel_rfl)) (hH' := fun _ => (by kernel_rfl)) (h := fun r116 => ?_)
  refine oP (.d (.bool (!r116))) (p_not (p := r116)) ?_
  refine oP (.d (.bool (!r116))) p_assign ?_
  refine oEnd ?_
  refine bSplit 13 (h1 := fun hc => ?_) (h2 := fun hc => ?_)
  ·refine oCondT (h := ?_)
   refine oSR rfl ?_
   refine oP (.agg [.nilc, .nilc]) (p_build bld31) ?_
   refine oD (.undef) (k_store (vs := [.nilc, .nilc]) (H' := [.box [.d (.int .i64 p0), .d (.int .i64 p1), .d (.lit (List.map e_SPart p2))], .box [.d (.lit (List.map e_Li64 s0)), .d (.lit (List.map e_i64 s1))], .box [.nilc, .nilc]]) 2 0 (hi := ty31)) ?_
   refine oP (.d (.int .i64 1)) p_assign ?_
   refine oEnd ?_
   refine oConvB 2 (cells := [.nilc, .nilc]) (cells' := [.d (.lit (List.map e_Li64 [])), .d (.lit (List.map e_i64 []))]) (hc := .cons _ _ _ _ .nil (.cons _ _ _ _ .nil .nil)) (h := ?_)
   refine oView (H' := [.box [.d (.int .i64 p0), .d (.int .i64 p1), .d (.lit (List.map e_SPart p2))], .box [.d (.lit (List.map e_Li64 s0)), .d (.lit (List.map e_i64 s1))], .box [.d (.lit (List.map e_Li64 [])), .d (.lit (List.map e_i64 []))]]) rfl (h := ?_)
   exact oRet (r0 := ([], [], 1)) (rv := .tuple [.agg [.d (.lit (List.map e_Li64 [])), .d (.lit (List.map e_i64 []))], .d (.int .i64 1)]) (B := []) (vs := [.agg [.d (.lit (List.map e_Li64 [])), .d (.lit (List.map e_i64 []))], .d (.int .i64 1)]) (σ := []) (hf := Try.func26) (hrs := rfl) (hres := .cons _ _ _ _ (.agg 8 31 2 0 [.d (.lit (List.map e_Li64 [])), .d (.lit (List.map e_i64 []))] [.d (.lit (List.map e_Li64 [])), .d (.lit (List.map e_i64 []))] _ _ _ _ (by kernel_rfl) (by kernel_rfl) Try.underlying31 (by kernel_rfl) ty31 (by kernel_rfl) (by kernel_rfl)) (.cons _ _ _ _ (.tmp 9 _ (by kernel_rfl)) .nil)) (hnd := by decide)
  ·refine oCondF (h := ?_)
   refine oSR rfl ?_
   refine oQ (.agg [.d (.int .i64 p0), .d (.int .i64 p1), .d (.lit (List.map e_SPart p2))]) (k_loadAgg 0 0 (hu := Try.underlying27) (hi := ty27)) ?_
   refine oP (.d (.int .i64 part)) p_move ?_
   refine bCall (caps := []) (v := (fun (r119 : Bool) => (.d (.bool r119) : V))) (H' := (fun (r119 : Bool) => ([.box [.d (.int .i64 p0), .d (.int .i64 p1), .d (.lit (List.map e_SPart p2))], .box [.d (.lit (List.map e_Li64 s0)), .d (.lit (List.map e_i64 s1))], .box [.nilc, .nilc]] : List Blk))) [] _ (scheme_there_goes k p0 p1 p2 part) (ho := rfl) (hfn := Try.func48) (hb := rfl) (hconv := ConvRs.refl _ _) (hnd := by decide) (hBl := fun _ => (by kernel_rfl)) (hv := fun _ => (by kernel_rfl)) (hH' := fun _ => (by kernel_rfl)) (h := fun r119 => ?_)
   refine oP (.d (.bool (!r119))) (p_not (p := r119)) ?_
   refine oP (.d (.bool (!r119))) p_assign ?_
   refine oEnd ?_
   refine bSplit 19 (h1 := fun hc => ?_) (h2 := fun hc => ?_)
   ·refine oCondT (h := ?_)
    refine oSR rfl ?_
    refine oP (.agg [.nilc, .nilc]) (p_build bld31) ?_
    refine oD (.undef) (k_store (vs := [.nilc, .nilc]) (H' := [.box [.d (.int .i64 p0), .d (.int .i64 p1), .d (.lit (List.map e_SPart p2))], .box [.d (.lit (List.map e_Li64 s0)), .d (.lit (List.map e_i64 s1))], .box [.nilc, .nilc]]) 2 0 (hi := ty31)) ?_
    refine oP (.d (.int .i64 4)) p_assign ?_
    refine oEnd ?_
    refine oConvB 2 (cells := [.nilc, .nilc]) (cells' := [.d (.lit (List.map e_Li64 [])), .d (.lit (List.map e_i64 []))]) (hc := .cons _ _ _ _ .nil (.cons _ _ _ _ .nil .nil)) (h := ?_)
    refine oView (H' := [.box [.d (.int .i64 p0), .d (.int .i64 p1), .d (.lit (List.map e_SPart p2))], .box [.d (.lit (List.map e_Li64 s0)), .d (.lit (List.map e_i64 s1))], .box [.d (.lit (List.map e_Li64 [])), .d (.lit (List.map e_i64 []))]]) rfl (h := ?_)
    exact oRet (r0 := ([], [], 4)) (rv := .tuple [.agg [.d (.lit (List.map e_Li64 [])), .d (.lit (List.map e_i64 []))], .d (.int .i64 4)]) (B := []) (vs := [.agg [.d (.lit (List.map e_Li64 [])), .d (.lit (List.map e_i64 []))], .d (.int .i64 4)]) (σ := []) (hf := Try.func26) (hrs := rfl) (hres := .cons _ _ _ _ (.agg 8 31 2 0 [.d (.lit (List.map e_Li64 [])), .d (.lit (List.map e_i64 []))] [.d (.lit (List.map e_Li64 [])), .d (.lit (List.map e_i64 []))] _ _ _ _ (by kernel_rfl) (by kernel_rfl) Try.underlying31 (by kernel_rfl) ty31 (by kernel_rfl) (by kernel_rfl)) (.cons _ _ _ _ (.tmp 9 _ (by kernel_rfl)) .nil)) (hnd := by decide)
   ·refine oCondF (h := ?_)
    refine oSR rfl ?_
    refine oP (.d (.int .i64 kind)) p_move ?_
    refine bCall (caps := []) (v := (fun (r121 : Bool) => (.d (.bool r121) : V))) (H' := (fun (r121 : Bool) => ([.box [.d (.int .i64 p0), .d (.int .i64 p1), .d (.lit (List.map e_SPart p2))], .box [.d (.lit (List.map e_Li64 s0)), .d (.lit (List.map e_i64 s1))], .box [.nilc, .nilc]] : List Blk))) [] _ (scheme_known_goes k kind) (ho := rfl) (hfn := Try.func49) (hb := rfl) (hconv := ConvRs.refl _ _) (hnd := by decide) (hBl := fun _ => (by kernel_rfl)) (hv := fun _ => (by kernel_rfl)) (hH' := fun _ => (by kernel_rfl)) (h := fun r121 => ?_)
    refine oP (.d (.bool (!r121))) (p_not (p := r121)) ?_
    refine oP (.d (.bool (!r121))) p_assign ?_
    refine oEnd ?_
    refine bSplit 25 (h1 := fun hc => ?_) (h2 := fun hc => ?_)
    ·refine oCondT (h := ?_)
     refine oSR rfl ?_
     refine oP (.agg [.nilc, .nilc]) (p_build bld31) ?_
     refine oD (.undef) (k_store (vs := [.nilc, .nilc]) (H' := [.box [.d (.int .i64 p0), .d (.int .i64 p1), .d (.lit (List.map e_SPart p2))], .box [.d (.lit (List.map e_Li64 s0)), .d (.lit (List.map e_i64 s1))], .box [.nilc, .nilc]]) 2 0 (hi := ty31)) ?_
     refine oP (.d (.int .i64 2)) p_assign ?_
     refine oEnd ?_
     refine oConvB 2 (cells := [.nilc, .nilc]) (cells' := [.d (.lit (List.map e_Li64 [])), .d (.lit (List.map e_i64 []))]) (hc := .cons _ _ _ _ .nil (.cons _ _ _ _ .nil .nil)) (h := ?_)
     refine oView (H' := [.box [.d (.int .i64 p0), .d (.int .i64 p1), .d (.lit (List.map e_SPart p2))], .box [.d (.lit (List.map e_Li64 s0)), .d (.lit (List.map e_i64 s1))], .box [.d (.lit (List.map e_Li64 [])), .d (.lit (List.map e_i64 []))]]) rfl (h := ?_)
     exact oRet (r0 := ([], [], 2)) (rv := .tuple [.agg [.d (.lit (List.map e_Li64 [])), .d (.lit (List.map e_i64 []))], .d (.int .i64 2)]) (B := []) (vs := [.agg [.d (.lit (List.map e_Li64 [])), .d (.lit (List.map e_i64 []))], .d (.int .i64 2)]) (σ := []) (hf := Try.func26) (hrs := rfl) (hres := .cons _ _ _ _ (.agg 8 31 2 0 [.d (.lit (List.map e_Li64 [])), .d (.lit (List.map e_i64 []))] [.d (.lit (List.map e_Li64 [])), .d (.lit (List.map e_i64 []))] _ _ _ _ (by kernel_rfl) (by kernel_rfl) Try.underlying31 (by kernel_rfl) ty31 (by kernel_rfl) (by kernel_rfl)) (.cons _ _ _ _ (.tmp 9 _ (by kernel_rfl)) .nil)) (hnd := by decide)
    ·refine oCondF (h := ?_)
     refine oSkip ?_
     refine oBlk ?_
     refine oSR rfl ?_
     refine oP (.ptr 1 1) (k_fieldAddr 1 0 (hu := Try.underlying31) (hf := rfl) (hi := ty22)) ?_
     refine oQ (.d (.lit (List.map e_i64 s1))) (k_load 1 1 (hu := Try.underlying22)) ?_
     refine bCall (caps := []) (v := (fun (xs5 : (List Int)) => (.ref 3 (List.length xs5) 0 (List.length xs5) : V))) (H' := (fun (xs5 : (List Int)) => ([.box [.d (.int .i64 p0), .d (.int .i64 p1), .d (.lit (List.map e_SPart p2))], .box [.d (.lit (List.map e_Li64 s0)), .d (.lit (List.map e_i64 s1))], .box [.nilc, .nilc], .sl 1 (List.map e_i64 xs5) false] : List Blk))) [] _ (slices_Clone_int_2_goes k s1) (ho := rfl) (hfn := Try.func50) (hb := rfl) (hconv := ConvRs.refl _ _) (hnd := by decide) (hBl := fun _ => (by kernel_rfl)) (hv := fun _ => (by kernel_rfl)) (hH' := fun _ => (by kernel_rfl)) (h := fun xs5 => ?_)
     refine oP (.agg [.nilc, .ref 3 (List.length xs5) 0 (List.length xs5)]) (p_build bld31) ?_
     refine oD (.ptr 4 0) (k_alloc (H' := [.box [.d (.int .i64 p0), .d (.int .i64 p1), .d (.lit (List.map e_SPart p2))], .box [.d (.lit (List.map e_Li64 s0)), .d (.lit (List.map e_i64 s1))], .box [.nilc, .nilc], .sl 1 (List.map e_i64 xs5) false, .box [.nilc, .nilc]]) ty31) ?_
     refine oD (.undef) (k_store (vs := [.nilc, .ref 3 (List.length xs5) 0 (List.length xs5)]) (H' := [.box [.d (.int .i64 p0), .d (.int .i64 p1), .d (.lit (List.map e_SPart p2))], .box [.d (.lit (List.map e_Li64 s0)), .d (.lit (List.map e_i64 s1))], .box [.nilc, .nilc], .sl 1 (List.map e_i64 xs5) false, .box [.nilc, .ref 3 (List.length xs5) 0 (List.length xs5)]]) 4 0 (hi := ty31)) ?_
     refine oEnd ?_
     refine oSeq ?_
     refine oSR rfl ?_
     refine oP (.ptr 1 0) (k_fieldAddr 1 0 (hu := Try.underlying31) (hf := rfl) (hi := ty29)) ?_
     refine oQ (.d (.lit (List.map e_Li64 s0))) (k_load 1 0 (hu := Try.underlying29)) ?_
     refine oP (.d (.int .i64 ((List.length s0) : Int))) (k_lenLit (enc := e_Li64) s0 (hu := Try.underlying29)) ?_
     refine oP (.d (.int .i64 0)) p_move ?_
     refine oEnd ?_
     refine bJoin ((fun (xs8 : (List (List Int))) => [(2, .d (.int .i64 part)), (3, .d (.int .i64 kind)), (8, .ptr 0 0), (10, .ptr 1 0)])) ((fun (xs8 : (List (List Int))) => [.box [.nilc, .nilc], .box [.ref 2 (List.length xs8) 0 (List.length xs8), .ref 3 (List.length xs5) 0 (List.length xs5)], .sl 1 (List.map e_Li64 xs8) false, .sl 1 (List.map e_i64 xs5) false])) (fun s => s) (fun xs8 => ?_) (fun hj2 => ?_)
     ·refine oView (T' := [(2, .d (.int .i64 part)), (3, .d (.int .i64 kind)), (8, .ptr 0 0), (10, .ptr 1 0)]) (H' := [.box [.nilc, .nilc], .box [.ref 2 (List.length xs8) 0 (List.length xs8), .ref 3 (List.length xs5) 0 (List.length xs5)], .sl 1 (List.map e_Li64 xs8) false, .sl 1 (List.map e_i64 xs5) false]) (h := ?_)
      refine oSR rfl ?_
      refine oP (.ptr 1 1) (k_fieldAddr 1 0 (hu := Try.underlying31) (hf := rfl) (hi := ty22)) ?_
      refine oQ (.ref 3 (List.length xs5) 0 (List.length xs5)) (k_load 1 1 (hu := Try.underlying22)) ?_
      refine oP (.d (.int .i64 part)) p_move ?_
      refine oP (.d (.int .i64 kind)) p_move ?_
      refine bIdx (fun e19 h119 h120 => ?_)
      refine oP (.eptr 3 (List.length xs5) (Int.toNat part) 0) (k_idxRef (enc := e_i64) (fro := false) xs5 (a := e19) (k := .i64) (i := part) (hu := Try.underlying22) (hi := ty3) (h0 := h119) (he := h120)) ?_
      refine bSet _ (fun xs9 hs1 => ?_)
      refine oD (.undef) (k_storeE (H' := [.box [.nilc, .nilc], .box [.ref 2 (List.length xs8) 0 (List.length xs8), .ref 3 (List.length xs5) 0 (List.length xs5)], .sl 1 (List.map e_Li64 xs8) false, .sl 1 (List.map e_i64 xs9) false]) 3 0 xs5 kind [(.int .i64 kind)] e_i64_len (he := h120) (hi := ty3) (hxs := hs1)) ?_
      refine oHead [8, 10] [0, 1, 2, 3] (T' := [(8, .ptr 0 0), (10, .ptr 1 0)]) (H' := [.box [.nilc, .nilc], .box [.ref 2 (List.length xs8) 0 (List.length xs8), .ref 3 (List.length xs5) 0 (List.length xs5)], .sl 1 (List.map e_Li64 xs8) false, .sl 1 (List.map e_i64 xs9) false]) (hnd := by decide) (h := ?_)
      refine oView (T' := [(8, .ptr 0 0), (10, .ptr 1 0)]) (H' := [.box [.nilc, .nilc], .box [.ref 2 (List.length xs8) 0 (List.length xs8), .ref 3 (List.length xs9) 0 (List.length xs9)], .sl 1 (List.map e_Li64 xs8) false, .sl 1 (List.map e_i64 xs9) false]) (by first | rw [(set_len hs1)] | rfl) (by first | rw [(set_len hs1)] | rfl) ?_
      refine oEnd ?_
      refine oSR rfl ?_
      refine oQ (.agg [.ref 2 (List.length xs8) 0 (List.length xs8), .ref 3 (List.length xs9) 0 (List.length xs9)]) (k_loadAgg 1 0 (hu := Try.underlying31) (hi := ty31)) ?_
      refine oD (.undef) (k_store (vs := [.ref 2 (List.length xs8) 0 (List.length xs8), .ref 3 (List.length xs9) 0 (List.length xs9)]) (H' := [.box [.ref 2 (List.length xs8) 0 (List.length xs8), .ref 3 (List.length xs9) 0 (List.length xs9)], .box [.ref 2 (List.length xs8) 0 (List.length xs8), .ref 3 (List.length xs9) 0 (List.length xs9)], .sl 1 (List.map e_Li64 xs8) false, .sl 1 (List.map e_i64 xs9) false]) 0 0 (hi := ty31)) ?_
      refine oP (.d (.int .i64 0)) p_assign ?_
      refine oEnd ?_
      refine oFreeze 2 (esz := 1) (xs := List.map e_Li64 xs8) (h := ?_)
      refine oView (H' := [.box [.ref 2 (List.length xs8) 0 (List.length xs8), .ref 3 (List.length xs9) 0 (List.length xs9)], .box [.ref 2 (List.length xs8) 0 (List.length xs8), .ref 3 (List.length xs9) 0 (List.length xs9)], .sl 1 (List.map e_Li64 xs8) true, .sl 1 (List.map e_i64 xs9) false]) rfl (h := ?_)
      refine oFreeze 3 (esz := 1) (xs := List.map e_i64 xs9) (h := ?_)
      refine oView (H' := [.box [.ref 2 (List.length xs8) 0 (List.length xs8), .ref 3 (List.length xs9) 0 (List.length xs9)], .box [.ref 2 (List.length xs8) 0 (List.length xs8), .ref 3 (List.length xs9) 0 (List.length xs9)], .sl 1 (List.map e_Li64 xs8) true, .sl 1 (List.map e_i64 xs9) true]) rfl (h := ?_)
      refine oConvB 0 (cells := [.ref 2 (List.length xs8) 0 (List.length xs8), .ref 3 (List.length xs9) 0 (List.length xs9)]) (cells' := [.d (.lit (List.map e_Li64 xs8)), .d (.lit (List.map e_i64 xs9))]) (hc := .cons _ _ _ _ (k_lit (enc := e_Li64) (sz := 1) 2 xs8) (.cons _ _ _ _ (k_lit (enc := e_i64) (sz := 1) 3 xs9) .nil)) (h := ?_)
      refine oView (H' := [.box [.d (.lit (List.map e_Li64 xs8)), .d (.lit (List.map e_i64 xs9))], .box [.ref 2 (List.length xs8) 0 (List.length xs8), .ref 3 (List.length xs9) 0 (List.length xs9)], .sl 1 (List.map e_Li64 xs8) true, .sl 1 (List.map e_i64 xs9) true]) rfl (h := ?_)
      exact oRet (r0 := (xs8, xs9, 0)) (rv := .tuple [.agg [.d (.lit (List.map e_Li64 xs8)), .d (.lit (List.map e_i64 xs9))], .d (.int .i64 0)]) (B := []) (vs := [.agg [.d (.lit (List.map e_Li64 xs8)), .d (.lit (List.map e_i64 xs9))], .d (.int .i64 0)]) (σ := []) (hf := Try.func26) (hrs := rfl) (hres := .cons _ _ _ _ (.agg 8 31 0 0 [.d (.lit (List.map e_Li64 xs8)), .d (.lit (List.map e_i64 xs9))] [.d (.lit (List.map e_Li64 xs8)), .d (.lit (List.map e_i64 xs9))] _ _ _ _ (by kernel_rfl) (by kernel_rfl) Try.underlying31 (by kernel_rfl) ty31 (by kernel_rfl) (by kernel_rfl)) (.cons _ _ _ _ (.tmp 9 _ (by kernel_rfl)) .nil)) (hnd := by decide)
     ·refine oBlock ?_
      refine oLoop ?_
      refine oVirtB (esz := 1) 4 0 (cells := [.nilc, .ref 3 (List.length xs5) 0 (List.length xs5)]) (h := ?_)
      refine oView (H' := [.box [.d (.int .i64 p0), .d (.int .i64 p1), .d (.lit (List.map e_SPart p2))], .box [.d (.lit (List.map e_Li64 s0)), .d (.lit (List.map e_i64 s1))], .box [.nilc, .nilc], .sl 1 (List.map e_i64 xs5) false, .box [.ref 5 (List.length ([] : List (List Int))) 0 (List.length ([] : List (List Int))), .ref 3 (List.length xs5) 0 (List.length xs5)], .sl 1 (List.map e_Li64 ([] : List (List Int))) false]) rfl (h := ?_)
      refine oHead [2, 3, 8, 10, 35, 36, 37] [2, 4, 5, 3] (T' := [(2, .d (.int .i64 part)), (3, .d (.int .i64 kind)), (8, .ptr 0 0), (10, .ptr 1 0), (35, .d (.lit (List.map e_Li64 s0))), (36, .d (.int .i64 ((List.length s0) : Int))), (37, .d (.int .i64 0))]) (H' := [.box [.nilc, .nilc], .box [.ref 2 (List.length ([] : List (List Int))) 0 (List.length ([] : List (List Int))), .ref 3 (List.length xs5) 0 (List.length xs5)], .sl 1 (List.map e_Li64 ([] : List (List Int))) false, .sl 1 (List.map e_i64 xs5) false]) (hnd := by decide) (h := ?_)
      refine bLoop (body := scheme_Withdraw_b1 k s0) ((uc fun (x4 : Int) => (fun (xs10 : (List (List Int))) => [(2, .d (.int .i64 part)), (3, .d (.int .i64 kind)), (8, .ptr 0 0), (10, .ptr 1 0), (35, .d (.lit (List.map e_Li64 s0))), (36, .d (.int .i64 ((List.length s0) : Int))), (37, .d (.int .i64 x4))]))) ((uc fun (x4 : Int) => (fun (xs10 : (List (List Int))) => [.box [.nilc, .nilc], .box [.ref 2 (List.length xs10) 0 (List.length xs10), .ref 3 (List.length xs5) 0 (List.length xs5)], .sl 1 (List.map e_Li64 xs10) false, .sl 1 (List.map e_i64 xs5) false]))) (fun again hag1 s => ?_) k (0, ([] : List (List Int)))
      ·unfold scheme_Withdraw_b1
       obtain ⟨x4, xs10⟩ := s
       refine bUc ?_
       refine oView (T' := [(2, .d (.int .i64 part)), (3, .d (.int .i64 kind)), (8, .ptr 0 0), (10, .ptr 1 0), (35, .d (.lit (List.map e_Li64 s0))), (36, .d (.int .i64 ((List.length s0) : Int))), (37, .d (.int .i64 x4))]) (H' := [.box [.nilc, .nilc], .box [.ref 2 (List.length xs10) 0 (List.length xs10), .ref 3 (List.length xs5) 0 (List.length xs5)], .sl 1 (List.map e_Li64 xs10) false, .sl 1 (List.map e_i64 xs5) false]) (h := ?_)
       refine oSR rfl ?_
       refine oP (.d (.bool (decide (x4 < ((List.length s0) : Int))))) (p_int (k := .i64) (p := x4) (q := ((List.length s0) : Int))) ?_
       refine oEnd ?_
       refine oSeq ?_
       refine bSplit 38 (h1 := fun hc => ?_) (h2 := fun hc => ?_)
       ·refine oCondT (h := ?_)
        refine oSkip ?_
        refine oSeq ?_
        refine oBlock ?_
        refine oSR rfl ?_
        refine bIdx (fun e115 h131 h132 => ?_)
        refine oP (.lptr (e_Li64 e115) 0) (k_idxLit e_Li64_len s0 (a := e115) (k := .i64) (i := x4) (hu := Try.underlying29) (hi := ty22) (h0 := h131) (he := h132)) ?_
        refine oQ (.d (.lit (List.map e_i64 e115))) (k_loadL (cells := e_Li64 e115) 0 (hu := Try.underlying22)) ?_
        refine oP (.d (.lit (List.map e_i64 e115))) p_assign ?_
        refine oEnd ?_
        refine oDraw [(0, 8), (1, 7), (2, 5), (3, 8)] rfl ?_
        refine aP 0 (.ptr 1 0) rfl (k_fieldAddr 1 0 (hu := Try.underlying31) (hf := rfl) (hi := ty29)) ?_
        refine aQ 1 [1] (.ref 2 (List.length xs10) 0 (List.length xs10)) rfl (k_load 1 0 (hu := Try.underlying29)) ?_
        refine aP 2 (.d (.lit (List.map e_i64 e115))) rfl p_move ?_
        refine dCall (i := 3) (caps := []) (v := (fun (r19 : (List Int)) => (.d (.lit (List.map e_i64 r19)) : V))) (H' := (fun (r19 : (List Int)) => ([.box [.nilc, .nilc], .box [.ref 2 (List.length xs10) 0 (List.length xs10), .ref 3 (List.length xs5) 0 (List.length xs5)], .sl 1 (List.map e_Li64 xs10) false, .sl 1 (List.map e_i64 xs5) false] : List Blk))) [] _ (slices_Clone_int_goes k e115) rfl (ho := rfl) (hfn := Try.func50) (hb := rfl) (hconv := ConvRs.refl _ _) (hnd := by decide) (hBl := fun _ => (by kernel_rfl)) (hv := fun _ => (by kernel_rfl)) (hH' := fun _ => (by kernel_rfl)) (h := fun r19 => ?_)
        refine aOne (i := 4) (v := .ref 4 (List.length ([r19] : List (List Int))) 0 (List.length ([r19] : List (List Int)))) rfl (hac := (Does.acts (k_buildSlice (H' := [.box [.nilc, .nilc], .box [.ref 2 (List.length xs10) 0 (List.length xs10), .ref 3 (List.length xs5) 0 (List.length xs5)], .sl 1 (List.map e_Li64 xs10) false, .sl 1 (List.map e_i64 xs5) false, .sl 1 (List.map e_Li64 ([r19] : List (List Int))) false]) (List.map e_Li64 ([r19] : List (List Int))) Try.underlying29 ty22))) (h := ?_)
        refine dCap (fun h12 => ?_)
        refine aOne (i := 5) (v := .ref 2 (List.length (xs10 ++ ([r19] : List (List Int)))) 0 (List.length (xs10 ++ ([r19] : List (List Int))))) rfl (hac := (Does.acts (k_append (H' := [.box [.nilc, .nilc], .box [.ref 2 (List.length xs10) 0 (List.length xs10), .ref 3 (List.length xs5) 0 (List.length xs5)], .sl 1 (List.map e_Li64 (xs10 ++ ([r19] : List (List Int)))) false, .sl 1 (List.map e_i64 xs5) false, .sl 1 (List.map e_Li64 ([r19] : List (List Int))) false]) (enc := e_Li64) 2 xs10 ([r19] : List (List Int)) Try.underlying29 Try.underlying29 ty22 (hy := (holdsRef (enc := e_Li64) 4 ([r19] : List (List Int)) false)) (hfit := h12)))) (h := ?_)
        refine aP 6 (.ptr 1 0) rfl (k_fieldAddr 1 0 (hu := Try.underlying31) (hf := rfl) (hi := ty29)) ?_
        refine aOne (i := 7) (v := .undef) rfl (hac := (Does.acts (k_store (vs := [.ref 2 (List.length (xs10 ++ ([r19] : List (List Int)))) 0 (List.length (xs10 ++ ([r19] : List (List Int))))]) (H' := [.box [.nilc, .nilc], .box [.ref 2 (List.length (xs10 ++ ([r19] : List (List Int)))) 0 (List.length (xs10 ++ ([r19] : List (List Int)))), .ref 3 (List.length xs5) 0 (List.length xs5)], .sl 1 (List.map e_Li64 (xs10 ++ ([r19] : List (List Int)))) false, .sl 1 (List.map e_i64 xs5) false, .sl 1 (List.map e_Li64 ([r19] : List (List Int))) false]) 1 0 (hi := ty29)))) (h := ?_)
        refine aDone (h := ?_)
        refine oBlk ?_
        refine oRegion rfl ?_
        refine oP (.d (.int .i64 (IntKind.wrap .i64 (x4 + 1)))) (p_int (k := .i64) (p := x4) (q := 1)) ?_
        refine oP (.d (.int .i64 (IntKind.wrap .i64 (x4 + 1)))) p_move ?_
        refine oEnd ?_
        refine oAgain ?_
        refine oHead [2, 3, 8, 10, 35, 36, 37] [0, 1, 2, 3] (T' := [(2, .d (.int .i64 part)), (3, .d (.int .i64 kind)), (8, .ptr 0 0), (10, .ptr 1 0), (35, .d (.lit (List.map e_Li64 s0))), (36, .d (.int .i64 ((List.length s0) : Int))), (37, .d (.int .i64 (IntKind.wrap .i64 (x4 + 1))))]) (H' := [.box [.nilc, .nilc], .box [.ref 2 (List.length (xs10 ++ ([r19] : List (List Int)))) 0 (List.length (xs10 ++ ([r19] : List (List Int)))), .ref 3 (List.length xs5) 0 (List.length xs5)], .sl 1 (List.map e_Li64 (xs10 ++ ([r19] : List (List Int)))) false, .sl 1 (List.map e_i64 xs5) false]) (hnd := by decide) (h := ?_)
        exact hag1 ((IntKind.wrap .i64 (x4 + 1)), (xs10 ++ ([r19] : List (List Int))))
       ·refine oCondF (h := ?_)
        refine oExit rfl ?_
        refine oHead [2, 3, 8, 10] [0, 1, 2, 3] (T' := [(2, .d (.int .i64 part)), (3, .d (.int .i64 kind)), (8, .ptr 0 0), (10, .ptr 1 0)]) (H' := [.box [.nilc, .nilc], .box [.ref 2 (List.length xs10) 0 (List.length xs10), .ref 3 (List.length xs5) 0 (List.length xs5)], .sl 1 (List.map e_Li64 xs10) false, .sl 1 (List.map e_i64 xs5) false]) (hnd := by decide) (h := ?_)
        exact hj2 xs10

/-- awardingbody/scheme.Maximum$1 -/
def scheme_Maximum_1 (k : Nat) (i : Int) (x : Int) (x1 : Int) (x2 : (List SPart)) : Option (Int) := gidx x2 i fun e11 => some e11.Max
def scheme_Maximum_1_E (i : Int) (x : Int) (x1 : Int) (x2 : (List SPart)) : Int → V × List Blk := fun r1 => (.d (.int .i64 r1), [.box [.d (.int .i64 x), .d (.int .i64 x1), .d (.lit (List.map e_SPart x2))]])
theorem scheme_Maximum_1_goes (k : Nat) (i : Int) (x : Int) (x1 : Int) (x2 : (List SPart)) : RunsO Try.prog 47 [.d (.int .i64 i), .ptr 0 0] [.box [.d (.int .i64 x), .d (.int .i64 x1), .d (.lit (List.map e_SPart x2))]] (scheme_Maximum_1_E i x x1 x2) (scheme_Maximum_1 k i x x1 x2) := by
  refine RunsO.of_goes (N := 10) (m := 1) (T := [(0, .d (.int .i64 i)), (1, .ptr 0 0)]) Try.func47 rfl rfl (h := ?_)
  unfold scheme_Maximum_1
  refine bStart ?_
  refine oSR rfl ?_
  refine oP (.d (.int .i64 0)) p_assign ?_
  refine oEnd ?_
  refine oSR rfl ?_
  refine oP (.ptr 0 2) (k_fieldAddr 0 0 (hu := Try.underlying27) (hf := rfl) (hi := ty25)) ?_
  refine oQ (.d (.lit (List.map e_SPart x2))) (k_load 0 2 (hu := Try.underlying25)) ?_
  refine oP (.d (.int .i64 i)) p_move ?_
  refine bIdx (fun e11 h12 h13 => ?_)
  refine oP (.lptr (e_SPart e11) 0) (k_idxLit e_SPart_len x2 (a := e11) (k := .i64) (i := i) (hu := Try.underlying25) (hi := ty49) (h0 := h12) (he := h13)) ?_
  refine oP (.lptr (e_SPart e11) 1) (k_fieldAddrL (cells := e_SPart e11) 0 (hu := Try.underlying49) (hf := rfl) (hi := ty3)) ?_
  refine oQ (.d (.int .i64 e11.Max)) (k_loadL (cells := e_SPart e11) 1 (hu := Try.underlying3)) ?_
  refine oP (.d (.int .i64 e11.Max)) p_assign ?_
  refine oEnd ?_
  exact oRet (r0 := e11.Max) (rv := .d (.int .i64 e11.Max)) (B := [.box [.d (.int .i64 x), .d (.int .i64 x1), .d (.lit (List.map e_SPart x2))]]) (vs := [.d (.int .i64 e11.Max)]) (σ := [0]) (hf := Try.func47) (hrs := rfl) (hres := .cons _ _ _ _ (.tmp 3 _ (by kernel_rfl)) .nil) (hnd := by decide)

/-- awardingbody/scheme.sum -/
def scheme_sum_2_b1 (k : Nat) (p2 : (List SPart)) (s1 : (List Int)) (x : Int) (x1 : Int) (x2 : (List SPart)) (again : Int × Int → Option (Int)) : Int × Int → Option (Int) := uc fun n11 => fun x7 => bif (decide (x7 < ((List.length p2) : Int))) then Option.bind (gidx p2 x7 fun e114 => gidx s1 x7 fun e115 => bif (e115 == 0) then Option.bind (scheme_Maximum_1 k x7 x x1 x2) (fun r18 => some (IntKind.wrap .i64 (n11 + r18))) else bif (e115 == 1) then some (IntKind.wrap .i64 (n11 + e114.Max)) else bif (e115 == 2) then some n11 else some n11 : Option (Int)) (fun n14 => again (n14, (IntKind.wrap .i64 (x7 + 1)))) else some n11
def scheme_sum_2 (k : Nat) (p0 : Int) (p1 : Int) (p2 : (List SPart)) (s0 : (List (List Int))) (s1 : (List Int)) (x : Int) (x1 : Int) (x2 : (List SPart)) : Option (Int) := Option.bind (gloop (scheme_sum_2_b1 k p2 s1 x x1 x2) k (0, 0) : Option (Int)) (fun n9 => some n9)
def scheme_sum_2_E (p0 : Int) (p1 : Int) (p2 : (List SPart)) (s0 : (List (List Int))) (s1 : (List Int)) (x : Int) (x1 : Int) (x2 : (List SPart)) : Int → V × List Blk := fun r12 => (.d (.int .i64 r12), [.box [.d (.int .i64 x), .d (.int .i64 x1), .d (.lit (List.map e_SPart x2))]])
theorem scheme_sum_2_goes (k : Nat) (p0 : Int) (p1 : Int) (p2 : (List SPart)) (s0 : (List (List Int))) (s1 : (List Int)) (x : Int) (x1 : Int) (x2 : (List SPart)) : RunsO Try.prog 45 [.agg [.d (.int .i64 p0), .d (.int .i64 p1), .d (.lit (List.map e_SPart p2))], .agg [.d (.lit (List.map e_Li64 s0)), .d (.lit (List.map e_i64 s1))], .fn 47 [.ptr 0 0]] [.box [.d (.int .i64 x), .d (.int .i64 x1), .d (.lit (List.map e_SPart x2))]] (scheme_sum_2_E p0 p1 p2 s0 s1 x x1 x2) (scheme_sum_2 k p0 p1 p2 s0 s1 x x1 x2) := by
  refine RunsO.of_goes (N := 40) (m := 1) (T := [(0, .agg [.d (.int .i64 p0), .d (.int .i64 p1), .d (.lit (List.map e_SPart p2))]), (1, .agg [.d (.lit (List.map e_Li64 s0)), .d (.lit (List.map e_i64 s1))]), (2, .fn 47 [.ptr 0 0])]) Try.func45 rfl rfl (h := ?_)
  unfold scheme_sum_2
  refine bStart ?_
  refine oSR rfl ?_
  refine oD (.ptr 1 0) (k_box (H' := [.box [.d (.int .i64 x), .d (.int .i64 x1), .d (.lit (List.map e_SPart x2))], .box [.d (.int .i64 p0), .d (.int .i64 p1), .d (.lit (List.map e_SPart p2))]]) (cells := [.d (.int .i64 p0), .d (.int .i64 p1), .d (.lit (List.map e_SPart p2))])) ?_
  refine oD (.ptr 2 0) (k_box (H' := [.box [.d (.int .i64 x), .d (.int .i64 x1), .d (.lit (List.map e_SPart x2))], .box [.d (.int .i64 p0), .d (.int .i64 p1), .d (.lit (List.map e_SPart p2))], .box [.d (.lit (List.map e_Li64 s0)), .d (.lit (List.map e_i64 s1))]]) (cells := [.d (.lit (List.map e_Li64 s0)), .d (.lit (List.map e_i64 s1))])) ?_
  refine oP (.d (.int .i64 0)) p_assign ?_
  refine oEnd ?_
  refine oSR rfl ?_
  refine oP (.d (.int .i64 0)) p_assign ?_
  refine oEnd ?_
  refine oSeq ?_
  refine oSR rfl ?_
  refine oP (.ptr 1 2) (k_fieldAddr 1 0 (hu := Try.underlying27) (hf := rfl) (hi := ty25)) ?_
  refine oQ (.d (.lit (List.map e_SPart p2))) (k_load 1 2 (hu := Try.underlying25)) ?_
  refine oP (.d (.int .i64 ((List.length p2) : Int))) (k_lenLit (enc := e_SPart) p2 (hu := Try.underlying25)) ?_
  refine oP (.d (.int .i64 0)) p_move ?_
  refine oEnd ?_
  refine bJoin ((fun (n9 : Int) => [(7, .d (.int .i64 n9))])) ((fun (n9 : Int) => [.box [.d (.int .i64 x), .d (.int .i64 x1), .d (.lit (List.map e_SPart x2))]])) (fun s => s) (fun n9 => ?_) (fun hj6 => ?_)
  ·refine oView (T' := [(7, .d (.int .i64 n9))]) (H' := [.box [.d (.int .i64 x), .d (.int .i64 x1), .d (.lit (List.map e_SPart x2))]]) (h := ?_)
   refine oSR rfl ?_
   refine oP (.d (.int .i64 n9)) p_move ?_
   refine oP (.d (.int .i64 n9)) p_assign ?_
   refine oEnd ?_
   exact oRet (r0 := n9) (rv := .d (.int .i64 n9)) (B := [.box [.d (.int .i64 x), .d (.int .i64 x1), .d (.lit (List.map e_SPart x2))]]) (vs := [.d (.int .i64 n9)]) (σ := [0]) (hf := Try.func45) (hrs := rfl) (hres := .cons _ _ _ _ (.tmp 6 _ (by kernel_rfl)) .nil) (hnd := by decide)
  ·refine oBlock ?_
   refine oLoop ?_
   refine oHead [2, 4, 7, 11, 12, 13] [0, 2] (T' := [(2, .fn 47 [.ptr 0 0]), (4, .ptr 1 0), (7, .d (.int .i64 0)), (11, .d (.lit (List.map e_SPart p2))), (12, .d (.int .i64 ((List.length p2) : Int))), (13, .d (.int .i64 0))]) (H' := [.box [.d (.int .i64 x), .d (.int .i64 x1), .d (.lit (List.map e_SPart x2))], .box [.d (.lit (List.map e_Li64 s0)), .d (.lit (List.map e_i64 s1))]]) (hnd := by decide) (h := ?_)
   refine bLoop (body := scheme_sum_2_b1 k p2 s1 x x1 x2) ((uc fun (n11 : Int) => (fun (x7 : Int) => [(2, .fn 47 [.ptr 0 0]), (4, .ptr 1 0), (7, .d (.int .i64 n11)), (11, .d (.lit (List.map e_SPart p2))), (12, .d (.int .i64 ((List.length p2) : Int))), (13, .d (.int .i64 x7))]))) ((uc fun (n11 : Int) => (fun (x7 : Int) => [.box [.d (.int .i64 x), .d (.int .i64 x1), .d (.lit (List.map e_SPart x2))], .box [.d (.lit (List.map e_Li64 s0)), .d (.lit (List.map e_i64 s1))]]))) (fun again hag1 s => ?_) k (0, 0)
   ·unfold scheme_sum_2_b1
    obtain ⟨n11, x7⟩ := s
    refine bUc ?_
    refine oView (T' := [(2, .fn 47 [.ptr 0 0]), (4, .ptr 1 0), (7, .d (.int .i64 n11)), (11, .d (.lit (List.map e_SPart p2))), (12, .d (.int .i64 ((List.length p2) : Int))), (13, .d (.int .i64 x7))]) (H' := [.box [.d (.int .i64 x), .d (.int .i64 x1), .d (.lit (List.map e_SPart x2))], .box [.d (.lit (List.map e_Li64 s0)), .d (.lit (List.map e_i64 s1))]]) (h := ?_)
    refine oSR rfl ?_
    refine oP (.d (.bool (decide (x7 < ((List.length p2) : Int))))) (p_int (k := .i64) (p := x7) (q := ((List.length p2) : Int))) ?_
    refine oEnd ?_
    refine oSeq ?_
    refine bSplit 14 (h1 := fun hc => ?_) (h2 := fun hc => ?_)
    ·refine oCondT (h := ?_)
     refine oSkip ?_
     refine oSeq ?_
     refine bJoin ((fun (n14 : Int) => [(2, .fn 47 [.ptr 0 0]), (4, .ptr 1 0), (7, .d (.int .i64 n14)), (11, .d (.lit (List.map e_SPart p2))), (12, .d (.int .i64 ((List.length p2) : Int))), (13, .d (.int .i64 x7))])) ((fun (n14 : Int) => [.box [.d (.int .i64 x), .d (.int .i64 x1), .d (.lit (List.map e_SPart x2))], .box [.d (.lit (List.map e_Li64 s0)), .d (.lit (List.map e_i64 s1))]])) (fun s => s) (fun n14 => ?_) (fun hj9 => ?_)
     ·refine oView (T' := [(2, .fn 47 [.ptr 0 0]), (4, .ptr 1 0), (7, .d (.int .i64 n14)), (11, .d (.lit (List.map e_SPart p2))), (12, .d (.int .i64 ((List.length p2) : Int))), (13, .d (.int .i64 x7))]) (H' := [.box [.d (.int .i64 x), .d (.int .i64 x1), .d (.lit (List.map e_SPart x2))], .box [.d (.lit (List.map e_Li64 s0)), .d (.lit (List.map e_i64 s1))]]) (h := ?_)
      refine oRegion rfl ?_
      refine oP (.d (.int .i64 (IntKind.wrap .i64 (x7 + 1)))) (p_int (k := .i64) (p := x7) (q := 1)) ?_
      refine oP (.d (.int .i64 (IntKind.wrap .i64 (x7 + 1)))) p_move ?_
      refine oEnd ?_
      refine oAgain ?_
      refine oHead [2, 4, 7, 11, 12, 13] [0, 1] (T' := [(2, .fn 47 [.ptr 0 0]), (4, .ptr 1 0), (7, .d (.int .i64 n14)), (11, .d (.lit (List.map e_SPart p2))), (12, .d (.int .i64 ((List.length p2) : Int))), (13, .d (.int .i64 (IntKind.wrap .i64 (x7 + 1))))]) (H' := [.box [.d (.int .i64 x), .d (.int .i64 x1), .d (.lit (List.map e_SPart x2))], .box [.d (.lit (List.map e_Li64 s0)), .d (.lit (List.map e_i64 s1))]]) (hnd := by decide) (h := ?_)
      exact hag1 (n14, (IntKind.wrap .i64 (x7 + 1)))
     ·refine oBlock ?_
      refine oSR rfl ?_
      refine oP (.d (.int .i64 x7)) p_move ?_
      refine bIdx (fun e114 h128 h129 => ?_)
      refine oP (.lptr (e_SPart e114) 0) (k_idxLit e_SPart_len p2 (a := e114) (k := .i64) (i := x7) (hu := Try.underlying25) (hi := ty49) (h0 := h128) (he := h129)) ?_
      refine oQ (.agg [.d (.int .i64 e114.Kind), .d (.int .i64 e114.Max), .d (.int .i64 e114.Topic), .d (.int .i64 e114.Objective), .d (.int .i64 e114.Options), .d (.int .i64 e114.Key)]) (k_loadLAgg (cells := e_SPart e114) 0 [(.int .i64 e114.Kind), (.int .i64 e114.Max), (.int .i64 e114.Topic), (.int .i64 e114.Objective), (.int .i64 e114.Options), (.int .i64 e114.Key)] (hu := Try.underlying49) (hi := ty49)) ?_
      refine oD (.ptr 2 0) (k_alloc (H' := [.box [.d (.int .i64 x), .d (.int .i64 x1), .d (.lit (List.map e_SPart x2))], .box [.d (.lit (List.map e_Li64 s0)), .d (.lit (List.map e_i64 s1))], .box [.d (.int .i64 0), .d (.int .i64 0), .d (.int .i64 0), .d (.int .i64 0), .d (.int .i64 0), .d (.int .i64 0)]]) ty49) ?_
      refine oP (.d (.int .i64 x7)) p_assign ?_
      refine oD (.undef) (k_store (vs := [.d (.int .i64 e114.Kind), .d (.int .i64 e114.Max), .d (.int .i64 e114.Topic), .d (.int .i64 e114.Objective), .d (.int .i64 e114.Options), .d (.int .i64 e114.Key)]) (H' := [.box [.d (.int .i64 x), .d (.int .i64 x1), .d (.lit (List.map e_SPart x2))], .box [.d (.lit (List.map e_Li64 s0)), .d (.lit (List.map e_i64 s1))], .box [.d (.int .i64 e114.Kind), .d (.int .i64 e114.Max), .d (.int .i64 e114.Topic), .d (.int .i64 e114.Objective), .d (.int .i64 e114.Options), .d (.int .i64 e114.Key)]]) 2 0 (hi := ty49)) ?_
      refine oEnd ?_
      refine oSR rfl ?_
      refine oP (.ptr 1 1) (k_fieldAddr 1 0 (hu := Try.underlying31) (hf := rfl) (hi := ty22)) ?_
      refine oQ (.d (.lit (List.map e_i64 s1))) (k_load 1 1 (hu := Try.underlying22)) ?_
      refine oP (.d (.int .i64 x7)) p_move ?_
      refine bIdx (fun e115 h130 h131 => ?_)
      refine oP (.lptr (e_i64 e115) 0) (k_idxLit e_i64_len s1 (a := e115) (k := .i64) (i := x7) (hu := Try.underlying22) (hi := ty3) (h0 := h130) (he := h131)) ?_
      refine oQ (.d (.int .i64 e115)) (k_loadL (cells := e_i64 e115) 0 (hu := Try.underlying3)) ?_
      refine oEnd ?_
      refine oBlock ?_
      refine oSR rfl ?_
      refine oP (.d (.bool (e115 == 0))) (p_int (k := .i64) (p := e115) (q := 0)) ?_
      refine oP (.d (.bool (e115 == 0))) p_assign ?_
      refine oEnd ?_
      refine bSplit 23 (h1 := fun hc => ?_) (h2 := fun hc => ?_)
      ·refine oCondT (h := ?_)
       refine oRegion rfl ?_
       refine oP (.d (.int .i64 n11)) p_move ?_
       refine oP (.fn 47 [.ptr 0 0]) p_move ?_
       refine oP (.d (.int .i64 x7)) p_move ?_
       refine bCall (caps := [.ptr 0 0]) (v := (fun (r18 : Int) => (.d (.int .i64 r18) : V))) (H' := (fun (r18 : Int) => ([.box [.d (.int .i64 x), .d (.int .i64 x1), .d (.lit (List.map e_SPart x2))], .box [.d (.lit (List.map e_Li64 s0)), .d (.lit (List.map e_i64 s1))], .box [.d (.int .i64 e114.Kind), .d (.int .i64 e114.Max), .d (.int .i64 e114.Topic), .d (.int .i64 e114.Objective), .d (.int .i64 e114.Options), .d (.int .i64 e114.Key)]] : List Blk))) [0] _ (scheme_Maximum_1_goes k x7 x x1 x2) (ho := rfl) (hfn := Try.func47) (hb := rfl) (hconv := ConvRs.refl _ _) (hnd := by decide) (hBl := fun _ => (by kernel_rfl)) (hv := fun _ => (by kernel_rfl)) (hH' := fun _ => (by kernel_rfl)) (h := fun r18 => ?_)
       refine oP (.d (.int .i64 (IntKind.wrap .i64 (n11 + r18)))) (p_int (k := .i64) (p := n11) (q := r18)) ?_
       refine oP (.d (.int .i64 (IntKind.wrap .i64 (n11 + r18)))) p_assign ?_
       refine oEnd ?_
       refine oBlk ?_
       refine oBlk ?_
       refine oHead [2, 4, 7, 11, 12, 13] [0, 1] (T' := [(2, .fn 47 [.ptr 0 0]), (4, .ptr 1 0), (7, .d (.int .i64 (IntKind.wrap .i64 (n11 + r18)))), (11, .d (.lit (List.map e_SPart p2))), (12, .d (.int .i64 ((List.length p2) : Int))), (13, .d (.int .i64 x7))]) (H' := [.box [.d (.int .i64 x), .d (.int .i64 x1), .d (.lit (List.map e_SPart x2))], .box [.d (.lit (List.map e_Li64 s0)), .d (.lit (List.map e_i64 s1))]]) (hnd := by decide) (h := ?_)
       exact hj9 (IntKind.wrap .i64 (n11 + r18))
      ·refine oCondF (h := ?_)
       refine oSR rfl ?_
       refine oP (.d (.bool (e115 == 1))) (p_int (k := .i64) (p := e115) (q := 1)) ?_
       refine oP (.d (.bool (e115 == 1))) p_assign ?_
       refine oEnd ?_
       refine bSplit 30 (h1 := fun hc => ?_) (h2 := fun hc => ?_)
       ·refine oCondT (h := ?_)
        refine oRegion rfl ?_
        refine oP (.d (.int .i64 n11)) p_move ?_
        refine oP (.ptr 2 1) (k_fieldAddr 2 0 (hu := Try.underlying49) (hf := rfl) (hi := ty3)) ?_
        refine oQ (.d (.int .i64 e114.Max)) (k_load 2 1 (hu := Try.underlying3)) ?_
        refine oP (.d (.int .i64 (IntKind.wrap .i64 (n11 + e114.Max)))) (p_int (k := .i64) (p := n11) (q := e114.Max)) ?_
        refine oP (.d (.int .i64 (IntKind.wrap .i64 (n11 + e114.Max)))) p_assign ?_
        refine oEnd ?_
        refine oBlk ?_
        refine oBlk ?_
        refine oHead [2, 4, 7, 11, 12, 13] [0, 1] (T' := [(2, .fn 47 [.ptr 0 0]), (4, .ptr 1 0), (7, .d (.int .i64 (IntKind.wrap .i64 (n11 + e114.Max)))), (11, .d (.lit (List.map e_SPart p2))), (12, .d (.int .i64 ((List.length p2) : Int))), (13, .d (.int .i64 x7))]) (H' := [.box [.d (.int .i64 x), .d (.int .i64 x1), .d (.lit (List.map e_SPart x2))], .box [.d (.lit (List.map e_Li64 s0)), .d (.lit (List.map e_i64 s1))]]) (hnd := by decide) (h := ?_)
        exact hj9 (IntKind.wrap .i64 (n11 + e114.Max))
       ·refine oCondF (h := ?_)
        refine oSR rfl ?_
        refine oP (.d (.bool (e115 == 2))) (p_int (k := .i64) (p := e115) (q := 2)) ?_
        refine oP (.d (.bool (e115 == 2))) p_assign ?_
        refine oEnd ?_
        refine bSplit 36 (h1 := fun hc => ?_) (h2 := fun hc => ?_)
        ·refine oCondT (h := ?_)
         refine oSkip ?_
         refine oBlk ?_
         refine oBlk ?_
         refine oHead [2, 4, 7, 11, 12, 13] [0, 1] (T' := [(2, .fn 47 [.ptr 0 0]), (4, .ptr 1 0), (7, .d (.int .i64 n11)), (11, .d (.lit (List.map e_SPart p2))), (12, .d (.int .i64 ((List.length p2) : Int))), (13, .d (.int .i64 x7))]) (H' := [.box [.d (.int .i64 x), .d (.int .i64 x1), .d (.lit (List.map e_SPart x2))], .box [.d (.lit (List.map e_Li64 s0)), .d (.lit (List.map e_i64 s1))]]) (hnd := by decide) (h := ?_)
         exact hj9 n11
        ·refine oCondF (h := ?_)
         refine oSkip ?_
         refine oBlk ?_
         refine oBlk ?_
         refine oHead [2, 4, 7, 11, 12, 13] [0, 1] (T' := [(2, .fn 47 [.ptr 0 0]), (4, .ptr 1 0), (7, .d (.int .i64 n11)), (11, .d (.lit (List.map e_SPart p2))), (12, .d (.int .i64 ((List.length p2) : Int))), (13, .d (.int .i64 x7))]) (H' := [.box [.d (.int .i64 x), .d (.int .i64 x1), .d (.lit (List.map e_SPart x2))], .box [.d (.lit (List.map e_Li64 s0)), .d (.lit (List.map e_i64 s1))]]) (hnd := by decide) (h := ?_)
         exact hj9 n11
    ·refine oCondF (h := ?_)
     refine oExit rfl ?_
     refine oHead [7] [0] (T' := [(7, .d (.int .i64 n11))]) (H' := [.box [.d (.int .i64 x), .d (.int .i64 x1), .d (.lit (List.map e_SPart x2))]]) (hnd := by decide) (h := ?_)
     exact hj6 n11

/-- awardingbody/scheme.Maximum -/
def scheme_Maximum (k : Nat) (p0 : Int) (p1 : Int) (p2 : (List SPart)) (s0 : (List (List Int))) (s1 : (List Int)) : Option (Int × Int) := Option.bind (scheme_Valid k p0 p1 p2 s0 s1) (fun r14 => bif (!r14) then some (0, 1) else Option.bind (scheme_sum_2 k p0 p1 p2 s0 s1 p0 p1 p2) (fun r121 => some (r121, 0)))
def scheme_Maximum_E (p0 : Int) (p1 : Int) (p2 : (List SPart)) (s0 : (List (List Int))) (s1 : (List Int)) : Int × Int → V × List Blk := uc fun r11 => fun r13 => (.tuple [.d (.int .i64 r11), .d (.int .i64 r13)], [])
theorem scheme_Maximum_goes (k : Nat) (p0 : Int) (p1 : Int) (p2 : (List SPart)) (s0 : (List (List Int))) (s1 : (List Int)) : RunsO Try.prog 23 [.agg [.d (.int .i64 p0), .d (.int .i64 p1), .d (.lit (List.map e_SPart p2))], .agg [.d (.lit (List.map e_Li64 s0)), .d (.lit (List.map e_i64 s1))]] [] (scheme_Maximum_E p0 p1 p2 s0 s1) (scheme_Maximum k p0 p1 p2 s0 s1) := by
  refine RunsO.of_goes (N := 14) (m := 0) (T := [(0, .agg [.d (.int .i64 p0), .d (.int .i64 p1), .d (.lit (List.map e_SPart p2))]), (1, .agg [.d (.lit (List.map e_Li64 s0)), .d (.lit (List.map e_i64 s1))])]) Try.func23 rfl rfl (h := ?_)
  unfold scheme_Maximum
  refine bStart ?_
  refine oSR rfl ?_
  refine oD (.ptr 0 0) (k_box (H' := [.box [.d (.int .i64 p0), .d (.int .i64 p1), .d (.lit (List.map e_SPart p2))]]) (cells := [.d (.int .i64 p0), .d (.int .i64 p1), .d (.lit (List.map e_SPart p2))])) ?_
  refine oD (.ptr 1 0) (k_box (H' := [.box [.d (.int .i64 p0), .d (.int .i64 p1), .d (.lit (List.map e_SPart p2))], .box [.d (.lit (List.map e_Li64 s0)), .d (.lit (List.map e_i64 s1))]]) (cells := [.d (.lit (List.map e_Li64 s0)), .d (.lit (List.map e_i64 s1))])) ?_
  refine oP (.d (.int .i64 0)) p_assign ?_
  refine oP (.d (.int .i64 0)) p_assign ?_
  refine oEnd ?_
  refine oSeq ?_
  refine oSR rfl ?_
  refine oQ (.agg [.d (.int .i64 p0), .d (.int .i64 p1), .d (.lit (List.map e_SPart p2))]) (k_loadAgg 0 0 (hu := Try.underlying27) (hi := ty27)) ?_
  refine oQ (.agg [.d (.lit (List.map e_Li64 s0)), .d (.lit (List.map e_i64 s1))]) (k_loadAgg 1 0 (hu := Try.underlying31) (hi := ty31)) ?_
  refine bCall (caps := []) (v := (fun (r14 : Bool) => (.d (.bool r14) : V))) (H' := (fun (r14 : Bool) => ([.box [.d (.int .i64 p0), .d (.int .i64 p1), .d (.lit (List.map e_SPart p2))], .box [.d (.lit (List.map e_Li64 s0)), .d (.lit (List.map e_i64 s1))]] : List Blk))) [] _ (scheme_Valid_goes k p0 p1 p2 s0 s1) (ho := rfl) (hfn := Try.func30) (hb := rfl) (hconv := ConvRs.refl _ _) (hnd := by decide) (hBl := fun _ => (by kernel_rfl)) (hv := fun _ => (by kernel_rfl)) (hH' := fun _ => (by kernel_rfl)) (h := fun r14 => ?_)
  refine oP (.d (.bool (!r14))) (p_not (p := r14)) ?_
  refine oEnd ?_
  refine bSplit 9 (h1 := fun hc => ?_) (h2 := fun hc => ?_)
  ·refine oCondT (h := ?_)
   refine oSR rfl ?_
   refine oP (.d (.int .i64 0)) p_assign ?_
   refine oP (.d (.int .i64 1)) p_assign ?_
   refine oEnd ?_
   exact oRet (r0 := (0, 1)) (rv := .tuple [.d (.int .i64 0), .d (.int .i64 1)]) (B := []) (vs := [.d (.int .i64 0), .d (.int .i64 1)]) (σ := []) (hf := Try.func23) (hrs := rfl) (hres := .cons _ _ _ _ (.tmp 4 _ (by kernel_rfl)) (.cons _ _ _ _ (.tmp 5 _ (by kernel_rfl)) .nil)) (hnd := by decide)
  ·refine oCondF (h := ?_)
   refine oSkip ?_
   refine oSR rfl ?_
   refine oQ (.agg [.d (.int .i64 p0), .d (.int .i64 p1), .d (.lit (List.map e_SPart p2))]) (k_loadAgg 0 0 (hu := Try.underlying27) (hi := ty27)) ?_
   refine oQ (.agg [.d (.lit (List.map e_Li64 s0)), .d (.lit (List.map e_i64 s1))]) (k_loadAgg 1 0 (hu := Try.underlying31) (hi := ty31)) ?_
   refine oP (.fn 47 [.ptr 0 0]) p_makeFunc ?_
   refine bCall (caps := []) (v := (fun (r121 : Int) => (.d (.int .i64 r121) : V))) (H' := (fun (r121 : Int) => ([.box [.d (.int .i64 p0), .d (.int .i64 p1), .d (.lit (List.map e_SPart p2))], .box [.d (.lit (List.map e_Li64 s0)), .d (.lit (List.map e_i64 s1))]] : List Blk))) [0] _ (scheme_sum_2_goes k p0 p1 p2 s0 s1 p0 p1 p2) (ho := rfl) (hfn := Try.func45) (hb := rfl) (hconv := ConvRs.refl _ _) (hnd := by decide) (hBl := fun _ => (by kernel_rfl)) (hv := fun _ => (by kernel_rfl)) (hH' := fun _ => (by kernel_rfl)) (h := fun r121 => ?_)
   refine oP (.d (.int .i64 r121)) p_assign ?_
   refine oP (.d (.int .i64 0)) p_assign ?_
   refine oEnd ?_
   exact oRet (r0 := (r121, 0)) (rv := .tuple [.d (.int .i64 r121), .d (.int .i64 0)]) (B := []) (vs := [.d (.int .i64 r121), .d (.int .i64 0)]) (σ := []) (hf := Try.func23) (hrs := rfl) (hres := .cons _ _ _ _ (.tmp 4 _ (by kernel_rfl)) (.cons _ _ _ _ (.tmp 5 _ (by kernel_rfl)) .nil)) (hnd := by decide)

/-- awardingbody/awardingbodyref06.Ints -/
def ref06_Ints_b1 (k : Nat) (a : (List Int)) (b : (List Int)) (again : Int → Option ((Unit) ⊕ (Bool))) : Int → Option ((Unit) ⊕ (Bool)) := fun i4 => bif (decide (i4 < ((List.length a) : Int))) then gidx a i4 fun e1 => gidx b i4 fun e11 => bif (e1 != e11) then some (Sum.inr false) else again (IntKind.wrap .i64 (i4 + 1)) else some (Sum.inl ())
def ref06_Ints (k : Nat) (a : (List Int)) (b : (List Int)) : Option (Bool) := bif (((List.length a) : Int) != ((List.length b) : Int)) then some false else Option.bind (gloop (ref06_Ints_b1 k a b) k 0 : Option ((Unit) ⊕ (Bool))) (Sum.elim (u0 (some true)) (fun r => some r))
def ref06_Ints_E (a : (List Int)) (b : (List Int)) : Bool → V × List Blk := fun r1 => (.d (.bool r1), [])
theorem ref06_Ints_goes (k : Nat) (a : (List Int)) (b : (List Int)) : RunsO Try.prog 18 [.d (.lit (List.map e_i64 a)), .d (.lit (List.map e_i64 b))] [] (ref06_Ints_E a b) (ref06_Ints k a b) := by
  refine RunsO.of_goes (N := 26) (m := 0) (T := [(0, .d (.lit (List.map e_i64 a))), (1, .d (.lit (List.map e_i64 b)))]) Try.func18 rfl rfl (h := ?_)
  unfold ref06_Ints
  refine bStart ?_
  refine oSR rfl ?_
  refine oP (.d (.bool false)) p_assign ?_
  refine oEnd ?_
  refine oSeq ?_
  refine oSR rfl ?_
  refine oP (.d (.lit (List.map e_i64 a))) p_move ?_
  refine oP (.d (.int .i64 ((List.length a) : Int))) (k_lenLit (enc := e_i64) a (hu := Try.underlying22)) ?_
  refine oP (.d (.lit (List.map e_i64 b))) p_move ?_
  refine oP (.d (.int .i64 ((List.length b) : Int))) (k_lenLit (enc := e_i64) b (hu := Try.underlying22)) ?_
  refine oP (.d (.bool (((List.length a) : Int) != ((List.length b) : Int)))) (p_int (k := .i64) (p := ((List.length a) : Int)) (q := ((List.length b) : Int))) ?_
  refine oEnd ?_
  refine bSplit 10 (h1 := fun hc => ?_) (h2 := fun hc => ?_)
  ·refine oCondT (h := ?_)
   refine oSR rfl ?_
   refine oP (.d (.bool false)) p_assign ?_
   refine oEnd ?_
   exact oRet (r0 := false) (rv := .d (.bool false)) (B := []) (vs := [.d (.bool false)]) (σ := []) (hf := Try.func18) (hrs := rfl) (hres := .cons _ _ _ _ (.tmp 4 _ (by kernel_rfl)) .nil) (hnd := by decide)
  ·refine oCondF (h := ?_)
   refine oSkip ?_
   refine oSeq ?_
   refine oSR rfl ?_
   refine oP (.d (.int .i64 0)) p_assign ?_
   refine oEnd ?_
   refine bJoin ((u0 ([]))) ((u0 ([]))) Sum.inl (fun s => ?_) (fun hj2 => ?_)
   ·cases s
    refine bInl ?_
    refine bU0 ?_
    refine oView (T' := []) (H' := []) (h := ?_)
    refine oSR rfl ?_
    refine oP (.d (.bool true)) p_assign ?_
    refine oEnd ?_
    exact oRet (r0 := true) (rv := .d (.bool true)) (B := []) (vs := [.d (.bool true)]) (σ := []) (hf := Try.func18) (hrs := rfl) (hres := .cons _ _ _ _ (.tmp 4 _ (by kernel_rfl)) .nil) (hnd := by decide)
   ·refine oBlock ?_
    refine oLoop ?_
    refine oHead [0, 1, 5] [] (T' := [(0, .d (.lit (List.map e_i64 a))), (1, .d (.lit (List.map e_i64 b))), (5, .d (.int .i64 0))]) (H' := []) (hnd := by decide) (h := ?_)
    refine bLoop (body := ref06_Ints_b1 k a b) ((fun (i4 : Int) => [(0, .d (.lit (List.map e_i64 a))), (1, .d (.lit (List.map e_i64 b))), (5, .d (.int .i64 i4))])) ((fun (i4 : Int) => [])) (fun again hag1 i4 => ?_) k 0
    ·unfold ref06_Ints_b1
     refine oView (T' := [(0, .d (.lit (List.map e_i64 a))), (1, .d (.lit (List.map e_i64 b))), (5, .d (.int .i64 i4))]) (H' := []) (h := ?_)
     refine oSeq ?_
     refine oSR rfl ?_
     refine oP (.d (.int .i64 i4)) p_move ?_
     refine oP (.d (.lit (List.map e_i64 a))) p_move ?_
     refine oP (.d (.int .i64 ((List.length a) : Int))) (k_lenLit (enc := e_i64) a (hu := Try.underlying22)) ?_
     refine oP (.d (.bool (decide (i4 < ((List.length a) : Int))))) (p_int (k := .i64) (p := i4) (q := ((List.length a) : Int))) ?_
     refine oEnd ?_
     refine bSplit 14 (h1 := fun hc => ?_) (h2 := fun hc => ?_)
     ·refine oCondT (h := ?_)
      refine oSkip ?_
      refine oSeq ?_
      refine oBlock ?_
      refine oSeq ?_
      refine oDraw [] rfl ?_
      refine aP 0 (.d (.lit (List.map e_i64 a))) rfl p_move ?_
      refine aP 1 (.d (.int .i64 i4)) rfl p_move ?_
      refine dIdx (fun e1 h1 h11 => ?_)
      refine aP 2 (.lptr (e_i64 e1) 0) rfl (k_idxLit e_i64_len a (a := e1) (k := .i64) (i := i4) (hu := Try.underlying22) (hi := ty3) (h0 := h1) (he := h11)) ?_
      refine aQ 3 [] (.d (.int .i64 e1)) rfl (k_loadL (cells := e_i64 e1) 0 (hu := Try.underlying3)) ?_
      refine aP 4 (.d (.lit (List.map e_i64 b))) rfl p_move ?_
      refine aP 5 (.d (.int .i64 i4)) rfl p_move ?_
      refine dIdx (fun e11 h12 h13 => ?_)
      refine aP 6 (.lptr (e_i64 e11) 0) rfl (k_idxLit e_i64_len b (a := e11) (k := .i64) (i := i4) (hu := Try.underlying22) (hi := ty3) (h0 := h12) (he := h13)) ?_
      refine aQ 7 [] (.d (.int .i64 e11)) rfl (k_loadL (cells := e_i64 e11) 0 (hu := Try.underlying3)) ?_
      refine aP 8 (.d (.bool (e1 != e11))) rfl (p_int (k := .i64) (p := e1) (q := e11)) ?_
      refine aDone (h := ?_)
      refine bSplit 25 (h1 := fun hc => ?_) (h2 := fun hc => ?_)
      ·refine oCondT (h := ?_)
       refine oSR rfl ?_
       refine oP (.d (.bool false)) p_assign ?_
       refine oEnd ?_
       exact oRet (r0 := false) (rv := .d (.bool false)) (B := []) (vs := [.d (.bool false)]) (σ := []) (hf := Try.func18) (hrs := rfl) (hres := .cons _ _ _ _ (.tmp 4 _ (by kernel_rfl)) .nil) (hnd := by decide)
      ·refine oCondF (h := ?_)
       refine oSkip ?_
       refine oBlk ?_
       refine oRegion rfl ?_
       refine oP (.d (.int .i64 i4)) p_move ?_
       refine oP (.d (.int .i64 (IntKind.wrap .i64 (i4 + 1)))) (p_int (k := .i64) (p := i4) (q := 1)) ?_
       refine oP (.d (.int .i64 (IntKind.wrap .i64 (i4 + 1)))) p_assign ?_
       refine oEnd ?_
       refine oAgain ?_
       refine oHead [0, 1, 5] [] (T' := [(0, .d (.lit (List.map e_i64 a))), (1, .d (.lit (List.map e_i64 b))), (5, .d (.int .i64 (IntKind.wrap .i64 (i4 + 1))))]) (H' := []) (hnd := by decide) (h := ?_)
       exact hag1 (IntKind.wrap .i64 (i4 + 1))
     ·refine oCondF (h := ?_)
      refine oExit rfl ?_
      refine oHead [] [] (T' := []) (H' := []) (hnd := by decide) (h := ?_)
      exact hj2 ()

/-- awardingbody/awardingbodylaw23.awake -/
def law23_awake (k : Nat) : Option (Bool) := Option.bind (scheme_Closed k 0 0 ([(⟨1, 4, 0, 0, 0, 0⟩ : SPart), (⟨2, 1, 0, 0, 4, 2⟩ : SPart)] : List SPart) ([[], []] : List (List Int)) ([0, 0] : List Int) ([(-1), 2] : List Int)) (uc fun r133 => fun r142 => Option.bind (scheme_Total k 0 0 ([(⟨1, 4, 0, 0, 0, 0⟩ : SPart), (⟨2, 1, 0, 0, 4, 2⟩ : SPart)] : List SPart) ([[], []] : List (List Int)) ([0, 0] : List Int) ([3, 1] : List Int)) (uc fun r134 => fun r143 => Option.bind (scheme_Withdraw k 0 0 ([(⟨1, 4, 0, 0, 0, 0⟩ : SPart), (⟨2, 1, 0, 0, 4, 2⟩ : SPart)] : List SPart) ([[], []] : List (List Int)) ([0, 0] : List Int) 1 2) (uc fun r1101 => uc fun r1111 => fun r1121 => Option.bind (scheme_Maximum k 0 0 ([(⟨1, 4, 0, 0, 0, 0⟩ : SPart), (⟨2, 1, 0, 0, 4, 2⟩ : SPart)] : List SPart) r1101 r1111) (uc fun r113 => fun r135 => Option.bind (bif (r142 == 0) then Option.bind (ref06_Ints k r133 ([(-2), 1] : List Int)) (fun r16 => some r16) else some false : Option (Bool)) (fun x6 => blet (x6 && (r143 == 0)) fun x7 => blet (x7 && (r134 == 4)) fun x8 => blet (x8 && (r1121 == 0)) fun x9 => blet (x9 && (r135 == 0)) fun x10 => blet (x10 && (r113 == 4)) fun x11 => some x11)))))
def law23_awake_E : Bool → V × List Blk := fun r12 => (.d (.bool r12), [])
theorem law23_awake_goes (k : Nat) : RunsO Try.prog 19 [] [] (law23_awake_E) (law23_awake k) := by
  refine RunsO.of_goes (N := 71) (m := 0) (T := []) Try.func19 rfl rfl (h := ?_)
  unfold law23_awake
  refine bStart ?_
  refine oSR rfl ?_
  refine oP (.d (.bool false)) p_assign ?_
  refine oEnd ?_
  refine oSR rfl ?_
  refine oP (.agg [.d (.int .i64 1), .d (.int .i64 4), .d (.int .i64 0), .d (.int .i64 0), .d (.int .i64 0), .d (.int .i64 0)]) (p_build bld49) ?_
  refine oP (.agg [.d (.int .i64 2), .d (.int .i64 1), .d (.int .i64 0), .d (.int .i64 0), .d (.int .i64 4), .d (.int .i64 2)]) (p_build bld49) ?_
  refine oD (.ref 0 (List.length ([(⟨1, 4, 0, 0, 0, 0⟩ : SPart), (⟨2, 1, 0, 0, 4, 2⟩ : SPart)] : List SPart)) 0 (List.length ([(⟨1, 4, 0, 0, 0, 0⟩ : SPart), (⟨2, 1, 0, 0, 4, 2⟩ : SPart)] : List SPart))) (k_buildSlice (H' := [.sl 6 (List.map e_SPart ([(⟨1, 4, 0, 0, 0, 0⟩ : SPart), (⟨2, 1, 0, 0, 4, 2⟩ : SPart)] : List SPart)) false]) (List.map e_SPart ([(⟨1, 4, 0, 0, 0, 0⟩ : SPart), (⟨2, 1, 0, 0, 4, 2⟩ : SPart)] : List SPart)) Try.underlying25 ty49) ?_
  refine oP (.agg [.d (.int .i64 0), .d (.int .i64 0), .ref 0 (List.length ([(⟨1, 4, 0, 0, 0, 0⟩ : SPart), (⟨2, 1, 0, 0, 4, 2⟩ : SPart)] : List SPart)) 0 (List.length ([(⟨1, 4, 0, 0, 0, 0⟩ : SPart), (⟨2, 1, 0, 0, 4, 2⟩ : SPart)] : List SPart))]) (p_build bld27) ?_
  refine oD (.ptr 1 0) (k_alloc (H' := [.sl 6 (List.map e_SPart ([(⟨1, 4, 0, 0, 0, 0⟩ : SPart), (⟨2, 1, 0, 0, 4, 2⟩ : SPart)] : List SPart)) false, .box [.d (.int .i64 0), .d (.int .i64 0), .nilc]]) ty27) ?_
  refine oD (.undef) (k_store (vs := [.d (.int .i64 0), .d (.int .i64 0), .ref 0 (List.length ([(⟨1, 4, 0, 0, 0, 0⟩ : SPart), (⟨2, 1, 0, 0, 4, 2⟩ : SPart)] : List SPart)) 0 (List.length ([(⟨1, 4, 0, 0, 0, 0⟩ : SPart), (⟨2, 1, 0, 0, 4, 2⟩ : SPart)] : List SPart))]) (H' := [.sl 6 (List.map e_SPart ([(⟨1, 4, 0, 0, 0, 0⟩ : SPart), (⟨2, 1, 0, 0, 4, 2⟩ : SPart)] : List SPart)) false, .box [.d (.int .i64 0), .d (.int .i64 0), .ref 0 (List.length ([(⟨1, 4, 0, 0, 0, 0⟩ : SPart), (⟨2, 1, 0, 0, 4, 2⟩ : SPart)] : List SPart)) 0 (List.length ([(⟨1, 4, 0, 0, 0, 0⟩ : SPart), (⟨2, 1, 0, 0, 4, 2⟩ : SPart)] : List SPart))]]) 1 0 (hi := ty27)) ?_
  refine oEnd ?_
  refine oSR rfl ?_
  refine oD (.ref 2 (List.length ([[], []] : List (List Int))) 0 (List.length ([[], []] : List (List Int)))) (k_buildSlice (H' := [.sl 6 (List.map e_SPart ([(⟨1, 4, 0, 0, 0, 0⟩ : SPart), (⟨2, 1, 0, 0, 4, 2⟩ : SPart)] : List SPart)) false, .box [.d (.int .i64 0), .d (.int .i64 0), .ref 0 (List.length ([(⟨1, 4, 0, 0, 0, 0⟩ : SPart), (⟨2, 1, 0, 0, 4, 2⟩ : SPart)] : List SPart)) 0 (List.length ([(⟨1, 4, 0, 0, 0, 0⟩ : SPart), (⟨2, 1, 0, 0, 4, 2⟩ : SPart)] : List SPart))], .sl 1 (List.map e_Li64 ([[], []] : List (List Int))) false]) (List.map e_Li64 ([[], []] : List (List Int))) Try.underlying29 ty22) ?_
  refine oD (.ref 3 (List.length ([0, 0] : List Int)) 0 (List.length ([0, 0] : List Int))) (k_buildSlice (H' := [.sl 6 (List.map e_SPart ([(⟨1, 4, 0, 0, 0, 0⟩ : SPart), (⟨2, 1, 0, 0, 4, 2⟩ : SPart)] : List SPart)) false, .box [.d (.int .i64 0), .d (.int .i64 0), .ref 0 (List.length ([(⟨1, 4, 0, 0, 0, 0⟩ : SPart), (⟨2, 1, 0, 0, 4, 2⟩ : SPart)] : List SPart)) 0 (List.length ([(⟨1, 4, 0, 0, 0, 0⟩ : SPart), (⟨2, 1, 0, 0, 4, 2⟩ : SPart)] : List SPart))], .sl 1 (List.map e_Li64 ([[], []] : List (List Int))) false, .sl 1 (List.map e_i64 ([0, 0] : List Int)) false]) (List.map e_i64 ([0, 0] : List Int)) Try.underlying22 ty3) ?_
  refine oP (.agg [.ref 2 (List.length ([[], []] : List (List Int))) 0 (List.length ([[], []] : List (List Int))), .ref 3 (List.length ([0, 0] : List Int)) 0 (List.length ([0, 0] : List Int))]) (p_build bld31) ?_
  refine oD (.ptr 4 0) (k_alloc (H' := [.sl 6 (List.map e_SPart ([(⟨1, 4, 0, 0, 0, 0⟩ : SPart), (⟨2, 1, 0, 0, 4, 2⟩ : SPart)] : List SPart)) false, .box [.d (.int .i64 0), .d (.int .i64 0), .ref 0 (List.length ([(⟨1, 4, 0, 0, 0, 0⟩ : SPart), (⟨2, 1, 0, 0, 4, 2⟩ : SPart)] : List SPart)) 0 (List.length ([(⟨1, 4, 0, 0, 0, 0⟩ : SPart), (⟨2, 1, 0, 0, 4, 2⟩ : SPart)] : List SPart))], .sl 1 (List.map e_Li64 ([[], []] : List (List Int))) false, .sl 1 (List.map e_i64 ([0, 0] : List Int)) false, .box [.nilc, .nilc]]) ty31) ?_
  refine oD (.undef) (k_store (vs := [.ref 2 (List.length ([[], []] : List (List Int))) 0 (List.length ([[], []] : List (List Int))), .ref 3 (List.length ([0, 0] : List Int)) 0 (List.length ([0, 0] : List Int))]) (H' := [.sl 6 (List.map e_SPart ([(⟨1, 4, 0, 0, 0, 0⟩ : SPart), (⟨2, 1, 0, 0, 4, 2⟩ : SPart)] : List SPart)) false, .box [.d (.int .i64 0), .d (.int .i64 0), .ref 0 (List.length ([(⟨1, 4, 0, 0, 0, 0⟩ : SPart), (⟨2, 1, 0, 0, 4, 2⟩ : SPart)] : List SPart)) 0 (List.length ([(⟨1, 4, 0, 0, 0, 0⟩ : SPart), (⟨2, 1, 0, 0, 4, 2⟩ : SPart)] : List SPart))], .sl 1 (List.map e_Li64 ([[], []] : List (List Int))) false, .sl 1 (List.map e_i64 ([0, 0] : List Int)) false, .box [.ref 2 (List.length ([[], []] : List (List Int))) 0 (List.length ([[], []] : List (List Int))), .ref 3 (List.length ([0, 0] : List Int)) 0 (List.length ([0, 0] : List Int))]]) 4 0 (hi := ty31)) ?_
  refine oEnd ?_
  refine oSR rfl ?_
  refine oQ (.agg [.d (.int .i64 0), .d (.int .i64 0), .ref 0 (List.length ([(⟨1, 4, 0, 0, 0, 0⟩ : SPart), (⟨2, 1, 0, 0, 4, 2⟩ : SPart)] : List SPart)) 0 (List.length ([(⟨1, 4, 0, 0, 0, 0⟩ : SPart), (⟨2, 1, 0, 0, 4, 2⟩ : SPart)] : List SPart))]) (k_loadAgg 1 0 (hu := Try.underlying27) (hi := ty27)) ?_
  refine oQ (.agg [.ref 2 (List.length ([[], []] : List (List Int))) 0 (List.length ([[], []] : List (List Int))), .ref 3 (List.length ([0, 0] : List Int)) 0 (List.length ([0, 0] : List Int))]) (k_loadAgg 4 0 (hu := Try.underlying31) (hi := ty31)) ?_
  refine oD (.ref 5 (List.length ([(-1), 2] : List Int)) 0 (List.length ([(-1), 2] : List Int))) (k_buildSlice (H' := [.sl 6 (List.map e_SPart ([(⟨1, 4, 0, 0, 0, 0⟩ : SPart), (⟨2, 1, 0, 0, 4, 2⟩ : SPart)] : List SPart)) false, .box [.d (.int .i64 0), .d (.int .i64 0), .ref 0 (List.length ([(⟨1, 4, 0, 0, 0, 0⟩ : SPart), (⟨2, 1, 0, 0, 4, 2⟩ : SPart)] : List SPart)) 0 (List.length ([(⟨1, 4, 0, 0, 0, 0⟩ : SPart), (⟨2, 1, 0, 0, 4, 2⟩ : SPart)] : List SPart))], .sl 1 (List.map e_Li64 ([[], []] : List (List Int))) false, .sl 1 (List.map e_i64 ([0, 0] : List Int)) false, .box [.ref 2 (List.length ([[], []] : List (List Int))) 0 (List.length ([[], []] : List (List Int))), .ref 3 (List.length ([0, 0] : List Int)) 0 (List.length ([0, 0] : List Int))], .sl 1 (List.map e_i64 ([(-1), 2] : List Int)) false]) (List.map e_i64 ([(-1), 2] : List Int)) Try.underlying22 ty3) ?_
  refine oFreeze 0 (esz := 6) (xs := List.map e_SPart ([(⟨1, 4, 0, 0, 0, 0⟩ : SPart), (⟨2, 1, 0, 0, 4, 2⟩ : SPart)] : List SPart)) (h := ?_)
  refine oView (H' := [.sl 6 (List.map e_SPart ([(⟨1, 4, 0, 0, 0, 0⟩ : SPart), (⟨2, 1, 0, 0, 4, 2⟩ : SPart)] : List SPart)) true, .box [.d (.int .i64 0), .d (.int .i64 0), .ref 0 (List.length ([(⟨1, 4, 0, 0, 0, 0⟩ : SPart), (⟨2, 1, 0, 0, 4, 2⟩ : SPart)] : List SPart)) 0 (List.length ([(⟨1, 4, 0, 0, 0, 0⟩ : SPart), (⟨2, 1, 0, 0, 4, 2⟩ : SPart)] : List SPart))], .sl 1 (List.map e_Li64 ([[], []] : List (List Int))) false, .sl 1 (List.map e_i64 ([0, 0] : List Int)) false, .box [.ref 2 (List.length ([[], []] : List (List Int))) 0 (List.length ([[], []] : List (List Int))), .ref 3 (List.length ([0, 0] : List Int)) 0 (List.length ([0, 0] : List Int))], .sl 1 (List.map e_i64 ([(-1), 2] : List Int)) false]) rfl (h := ?_)
  refine oFreeze 2 (esz := 1) (xs := List.map e_Li64 ([[], []] : List (List Int))) (h := ?_)
  refine oView (H' := [.sl 6 (List.map e_SPart ([(⟨1, 4, 0, 0, 0, 0⟩ : SPart), (⟨2, 1, 0, 0, 4, 2⟩ : SPart)] : List SPart)) true, .box [.d (.int .i64 0), .d (.int .i64 0), .ref 0 (List.length ([(⟨1, 4, 0, 0, 0, 0⟩ : SPart), (⟨2, 1, 0, 0, 4, 2⟩ : SPart)] : List SPart)) 0 (List.length ([(⟨1, 4, 0, 0, 0, 0⟩ : SPart), (⟨2, 1, 0, 0, 4, 2⟩ : SPart)] : List SPart))], .sl 1 (List.map e_Li64 ([[], []] : List (List Int))) true, .sl 1 (List.map e_i64 ([0, 0] : List Int)) false, .box [.ref 2 (List.length ([[], []] : List (List Int))) 0 (List.length ([[], []] : List (List Int))), .ref 3 (List.length ([0, 0] : List Int)) 0 (List.length ([0, 0] : List Int))], .sl 1 (List.map e_i64 ([(-1), 2] : List Int)) false]) rfl (h := ?_)
  refine oFreeze 3 (esz := 1) (xs := List.map e_i64 ([0, 0] : List Int)) (h := ?_)
  refine oView (H' := [.sl 6 (List.map e_SPart ([(⟨1, 4, 0, 0, 0, 0⟩ : SPart), (⟨2, 1, 0, 0, 4, 2⟩ : SPart)] : List SPart)) true, .box [.d (.int .i64 0), .d (.int .i64 0), .ref 0 (List.length ([(⟨1, 4, 0, 0, 0, 0⟩ : SPart), (⟨2, 1, 0, 0, 4, 2⟩ : SPart)] : List SPart)) 0 (List.length ([(⟨1, 4, 0, 0, 0, 0⟩ : SPart), (⟨2, 1, 0, 0, 4, 2⟩ : SPart)] : List SPart))], .sl 1 (List.map e_Li64 ([[], []] : List (List Int))) true, .sl 1 (List.map e_i64 ([0, 0] : List Int)) true, .box [.ref 2 (List.length ([[], []] : List (List Int))) 0 (List.length ([[], []] : List (List Int))), .ref 3 (List.length ([0, 0] : List Int)) 0 (List.length ([0, 0] : List Int))], .sl 1 (List.map e_i64 ([(-1), 2] : List Int)) false]) rfl (h := ?_)
  refine oFreeze 5 (esz := 1) (xs := List.map e_i64 ([(-1), 2] : List Int)) (h := ?_)
  refine oView (H' := [.sl 6 (List.map e_SPart ([(⟨1, 4, 0, 0, 0, 0⟩ : SPart), (⟨2, 1, 0, 0, 4, 2⟩ : SPart)] : List SPart)) true, .box [.d (.int .i64 0), .d (.int .i64 0), .ref 0 (List.length ([(⟨1, 4, 0, 0, 0, 0⟩ : SPart), (⟨2, 1, 0, 0, 4, 2⟩ : SPart)] : List SPart)) 0 (List.length ([(⟨1, 4, 0, 0, 0, 0⟩ : SPart), (⟨2, 1, 0, 0, 4, 2⟩ : SPart)] : List SPart))], .sl 1 (List.map e_Li64 ([[], []] : List (List Int))) true, .sl 1 (List.map e_i64 ([0, 0] : List Int)) true, .box [.ref 2 (List.length ([[], []] : List (List Int))) 0 (List.length ([[], []] : List (List Int))), .ref 3 (List.length ([0, 0] : List Int)) 0 (List.length ([0, 0] : List Int))], .sl 1 (List.map e_i64 ([(-1), 2] : List Int)) true]) rfl (h := ?_)
  refine bCall (caps := []) (v := (uc fun (r133 : (List Int)) => (fun (r142 : Int) => (.tuple [.d (.lit (List.map e_i64 r133)), .d (.int .i64 r142)] : V)))) (H' := (uc fun (r133 : (List Int)) => (fun (r142 : Int) => ([.sl 6 (List.map e_SPart ([(⟨1, 4, 0, 0, 0, 0⟩ : SPart), (⟨2, 1, 0, 0, 4, 2⟩ : SPart)] : List SPart)) true, .box [.d (.int .i64 0), .d (.int .i64 0), .ref 0 (List.length ([(⟨1, 4, 0, 0, 0, 0⟩ : SPart), (⟨2, 1, 0, 0, 4, 2⟩ : SPart)] : List SPart)) 0 (List.length ([(⟨1, 4, 0, 0, 0, 0⟩ : SPart), (⟨2, 1, 0, 0, 4, 2⟩ : SPart)] : List SPart))], .sl 1 (List.map e_Li64 ([[], []] : List (List Int))) true, .sl 1 (List.map e_i64 ([0, 0] : List Int)) true, .box [.ref 2 (List.length ([[], []] : List (List Int))) 0 (List.length ([[], []] : List (List Int))), .ref 3 (List.length ([0, 0] : List Int)) 0 (List.length ([0, 0] : List Int))], .sl 1 (List.map e_i64 ([(-1), 2] : List Int)) true] : List Blk)))) [] _ (scheme_Closed_goes k 0 0 ([(⟨1, 4, 0, 0, 0, 0⟩ : SPart), (⟨2, 1, 0, 0, 4, 2⟩ : SPart)] : List SPart) ([[], []] : List (List Int)) ([0, 0] : List Int) ([(-1), 2] : List Int)) (ho := rfl) (hfn := Try.func16) (hb := rfl) (hconv := (convList (vs0 := [.agg [.d (.int .i64 0), .d (.int .i64 0), .ref 0 (List.length ([(⟨1, 4, 0, 0, 0, 0⟩ : SPart), (⟨2, 1, 0, 0, 4, 2⟩ : SPart)] : List SPart)) 0 (List.length ([(⟨1, 4, 0, 0, 0, 0⟩ : SPart), (⟨2, 1, 0, 0, 4, 2⟩ : SPart)] : List SPart))], .agg [.ref 2 (List.length ([[], []] : List (List Int))) 0 (List.length ([[], []] : List (List Int))), .ref 3 (List.length ([0, 0] : List Int)) 0 (List.length ([0, 0] : List Int))], .ref 5 (List.length ([(-1), 2] : List Int)) 0 (List.length ([(-1), 2] : List Int))]) (vs := [.agg [.d (.int .i64 0), .d (.int .i64 0), .d (.lit (List.map e_SPart ([(⟨1, 4, 0, 0, 0, 0⟩ : SPart), (⟨2, 1, 0, 0, 4, 2⟩ : SPart)] : List SPart)))], .agg [.d (.lit (List.map e_Li64 ([[], []] : List (List Int)))), .d (.lit (List.map e_i64 ([0, 0] : List Int)))], .d (.lit (List.map e_i64 ([(-1), 2] : List Int)))]) (p := (.cons _ _ _ _ (.agg _ _ (.cons _ _ _ _ (.same _) (.cons _ _ _ _ (.same _) (.cons _ _ _ _ (k_lit (enc := e_SPart) (sz := 6) 0 ([(⟨1, 4, 0, 0, 0, 0⟩ : SPart), (⟨2, 1, 0, 0, 4, 2⟩ : SPart)] : List SPart)) .nil)))) (.cons _ _ _ _ (.agg _ _ (.cons _ _ _ _ (k_lit (enc := e_Li64) (sz := 1) 2 ([[], []] : List (List Int))) (.cons _ _ _ _ (k_lit (enc := e_i64) (sz := 1) 3 ([0, 0] : List Int)) .nil))) (.cons _ _ _ _ (k_lit (enc := e_i64) (sz := 1) 5 ([(-1), 2] : List Int)) .nil)))))) (hnd := by decide) (hBl := fun _ => (by kernel_rfl)) (hv := fun _ => (by kernel_rfl)) (hH' := fun _ => (by kernel_rfl)) (h := fun r => ?_)
  obtain ⟨r133, r142⟩ := r
  refine bUc ?_
  refine oP (.tuple [.d (.lit (List.map e_i64 r133)), .d (.int .i64 r142)]) p_move ?_
  refine oP (.d (.lit (List.map e_i64 r133))) k_extract ?_
  refine oP (.d (.int .i64 r142)) k_extract ?_
  refine oP (.d (.lit (List.map e_i64 r133))) p_assign ?_
  refine oP (.d (.int .i64 r142)) p_assign ?_
  refine oEnd ?_
  refine oSR rfl ?_
  refine oQ (.agg [.d (.int .i64 0), .d (.int .i64 0), .ref 0 (List.length ([(⟨1, 4, 0, 0, 0, 0⟩ : SPart), (⟨2, 1, 0, 0, 4, 2⟩ : SPart)] : List SPart)) 0 (List.length ([(⟨1, 4, 0, 0, 0, 0⟩ : SPart), (⟨2, 1, 0, 0, 4, 2⟩ : SPart)] : List SPart))]) (k_loadAgg 1 0 (hu := Try.underlying27) (hi := ty27)) ?_
  refine oQ (.agg [.ref 2 (List.length ([[], []] : List (List Int))) 0 (List.length ([[], []] : List (List Int))), .ref 3 (List.length ([0, 0] : List Int)) 0 (List.length ([0, 0] : List Int))]) (k_loadAgg 4 0 (hu := Try.underlying31) (hi := ty31)) ?_
  refine oD (.ref 6 (List.length ([3, 1] : List Int)) 0 (List.length ([3, 1] : List Int))) (k_buildSlice (H' := [.sl 6 (List.map e_SPart ([(⟨1, 4, 0, 0, 0, 0⟩ : SPart), (⟨2, 1, 0, 0, 4, 2⟩ : SPart)] : List SPart)) true, .box [.d (.int .i64 0), .d (.int .i64 0), .ref 0 (List.length ([(⟨1, 4, 0, 0, 0, 0⟩ : SPart), (⟨2, 1, 0, 0, 4, 2⟩ : SPart)] : List SPart)) 0 (List.length ([(⟨1, 4, 0, 0, 0, 0⟩ : SPart), (⟨2, 1, 0, 0, 4, 2⟩ : SPart)] : List SPart))], .sl 1 (List.map e_Li64 ([[], []] : List (List Int))) true, .sl 1 (List.map e_i64 ([0, 0] : List Int)) true, .box [.ref 2 (List.length ([[], []] : List (List Int))) 0 (List.length ([[], []] : List (List Int))), .ref 3 (List.length ([0, 0] : List Int)) 0 (List.length ([0, 0] : List Int))], .sl 1 (List.map e_i64 ([(-1), 2] : List Int)) true, .sl 1 (List.map e_i64 ([3, 1] : List Int)) false]) (List.map e_i64 ([3, 1] : List Int)) Try.underlying22 ty3) ?_
  refine oFreeze 6 (esz := 1) (xs := List.map e_i64 ([3, 1] : List Int)) (h := ?_)
  refine oView (H' := [.sl 6 (List.map e_SPart ([(⟨1, 4, 0, 0, 0, 0⟩ : SPart), (⟨2, 1, 0, 0, 4, 2⟩ : SPart)] : List SPart)) true, .box [.d (.int .i64 0), .d (.int .i64 0), .ref 0 (List.length ([(⟨1, 4, 0, 0, 0, 0⟩ : SPart), (⟨2, 1, 0, 0, 4, 2⟩ : SPart)] : List SPart)) 0 (List.length ([(⟨1, 4, 0, 0, 0, 0⟩ : SPart), (⟨2, 1, 0, 0, 4, 2⟩ : SPart)] : List SPart))], .sl 1 (List.map e_Li64 ([[], []] : List (List Int))) true, .sl 1 (List.map e_i64 ([0, 0] : List Int)) true, .box [.ref 2 (List.length ([[], []] : List (List Int))) 0 (List.length ([[], []] : List (List Int))), .ref 3 (List.length ([0, 0] : List Int)) 0 (List.length ([0, 0] : List Int))], .sl 1 (List.map e_i64 ([(-1), 2] : List Int)) true, .sl 1 (List.map e_i64 ([3, 1] : List Int)) true]) rfl (h := ?_)
  refine bCall (caps := []) (v := (uc fun (r134 : Int) => (fun (r143 : Int) => (.tuple [.d (.int .i64 r134), .d (.int .i64 r143)] : V)))) (H' := (uc fun (r134 : Int) => (fun (r143 : Int) => ([.sl 6 (List.map e_SPart ([(⟨1, 4, 0, 0, 0, 0⟩ : SPart), (⟨2, 1, 0, 0, 4, 2⟩ : SPart)] : List SPart)) true, .box [.d (.int .i64 0), .d (.int .i64 0), .ref 0 (List.length ([(⟨1, 4, 0, 0, 0, 0⟩ : SPart), (⟨2, 1, 0, 0, 4, 2⟩ : SPart)] : List SPart)) 0 (List.length ([(⟨1, 4, 0, 0, 0, 0⟩ : SPart), (⟨2, 1, 0, 0, 4, 2⟩ : SPart)] : List SPart))], .sl 1 (List.map e_Li64 ([[], []] : List (List Int))) true, .sl 1 (List.map e_i64 ([0, 0] : List Int)) true, .box [.ref 2 (List.length ([[], []] : List (List Int))) 0 (List.length ([[], []] : List (List Int))), .ref 3 (List.length ([0, 0] : List Int)) 0 (List.length ([0, 0] : List Int))], .sl 1 (List.map e_i64 ([(-1), 2] : List Int)) true, .sl 1 (List.map e_i64 ([3, 1] : List Int)) true] : List Blk)))) [] _ (scheme_Total_goes k 0 0 ([(⟨1, 4, 0, 0, 0, 0⟩ : SPart), (⟨2, 1, 0, 0, 4, 2⟩ : SPart)] : List SPart) ([[], []] : List (List Int)) ([0, 0] : List Int) ([3, 1] : List Int)) (ho := rfl) (hfn := Try.func21) (hb := rfl) (hconv := (convList (vs0 := [.agg [.d (.int .i64 0), .d (.int .i64 0), .ref 0 (List.length ([(⟨1, 4, 0, 0, 0, 0⟩ : SPart), (⟨2, 1, 0, 0, 4, 2⟩ : SPart)] : List SPart)) 0 (List.length ([(⟨1, 4, 0, 0, 0, 0⟩ : SPart), (⟨2, 1, 0, 0, 4, 2⟩ : SPart)] : List SPart))], .agg [.ref 2 (List.length ([[], []] : List (List Int))) 0 (List.length ([[], []] : List (List Int))), .ref 3 (List.length ([0, 0] : List Int)) 0 (List.length ([0, 0] : List Int))], .ref 6 (List.length ([3, 1] : List Int)) 0 (List.length ([3, 1] : List Int))]) (vs := [.agg [.d (.int .i64 0), .d (.int .i64 0), .d (.lit (List.map e_SPart ([(⟨1, 4, 0, 0, 0, 0⟩ : SPart), (⟨2, 1, 0, 0, 4, 2⟩ : SPart)] : List SPart)))], .agg [.d (.lit (List.map e_Li64 ([[], []] : List (List Int)))), .d (.lit (List.map e_i64 ([0, 0] : List Int)))], .d (.lit (List.map e_i64 ([3, 1] : List Int)))]) (p := (.cons _ _ _ _ (.agg _ _ (.cons _ _ _ _ (.same _) (.cons _ _ _ _ (.same _) (.cons _ _ _ _ (k_lit (enc := e_SPart) (sz := 6) 0 ([(⟨1, 4, 0, 0, 0, 0⟩ : SPart), (⟨2, 1, 0, 0, 4, 2⟩ : SPart)] : List SPart)) .nil)))) (.cons _ _ _ _ (.agg _ _ (.cons _ _ _ _ (k_lit (enc := e_Li64) (sz := 1) 2 ([[], []] : List (List Int))) (.cons _ _ _ _ (k_lit (enc := e_i64) (sz := 1) 3 ([0, 0] : List Int)) .nil))) (.cons _ _ _ _ (k_lit (enc := e_i64) (sz := 1) 6 ([3, 1] : List Int)) .nil)))))) (hnd := by decide) (hBl := fun _ => (by kernel_rfl)) (hv := fun _ => (by kernel_rfl)) (hH' := fun _ => (by kernel_rfl)) (h := fun r => ?_)
  obtain ⟨r134, r143⟩ := r
  refine bUc ?_
  refine oP (.tuple [.d (.int .i64 r134), .d (.int .i64 r143)]) p_move ?_
  refine oP (.d (.int .i64 r134)) k_extract ?_
  refine oP (.d (.int .i64 r143)) k_extract ?_
  refine oP (.d (.int .i64 r134)) p_assign ?_
  refine oP (.d (.int .i64 r143)) p_assign ?_
  refine oEnd ?_
  refine oSR rfl ?_
  refine oQ (.agg [.d (.int .i64 0), .d (.int .i64 0), .ref 0 (List.length ([(⟨1, 4, 0, 0, 0, 0⟩ : SPart), (⟨2, 1, 0, 0, 4, 2⟩ : SPart)] : List SPart)) 0 (List.length ([(⟨1, 4, 0, 0, 0, 0⟩ : SPart), (⟨2, 1, 0, 0, 4, 2⟩ : SPart)] : List SPart))]) (k_loadAgg 1 0 (hu := Try.underlying27) (hi := ty27)) ?_
  refine oQ (.agg [.ref 2 (List.length ([[], []] : List (List Int))) 0 (List.length ([[], []] : List (List Int))), .ref 3 (List.length ([0, 0] : List Int)) 0 (List.length ([0, 0] : List Int))]) (k_loadAgg 4 0 (hu := Try.underlying31) (hi := ty31)) ?_
  refine bCall (caps := []) (v := (uc fun (r1101 : (List (List Int))) => (uc fun (r1111 : (List Int)) => (fun (r1121 : Int) => (.tuple [.agg [.d (.lit (List.map e_Li64 r1101)), .d (.lit (List.map e_i64 r1111))], .d (.int .i64 r1121)] : V))))) (H' := (uc fun (r1101 : (List (List Int))) => (uc fun (r1111 : (List Int)) => (fun (r1121 : Int) => ([.sl 6 (List.map e_SPart ([(⟨1, 4, 0, 0, 0, 0⟩ : SPart), (⟨2, 1, 0, 0, 4, 2⟩ : SPart)] : List SPart)) true, .box [.d (.int .i64 0), .d (.int .i64 0), .ref 0 (List.length ([(⟨1, 4, 0, 0, 0, 0⟩ : SPart), (⟨2, 1, 0, 0, 4, 2⟩ : SPart)] : List SPart)) 0 (List.length ([(⟨1, 4, 0, 0, 0, 0⟩ : SPart), (⟨2, 1, 0, 0, 4, 2⟩ : SPart)] : List SPart))], .sl 1 (List.map e_Li64 ([[], []] : List (List Int))) true, .sl 1 (List.map e_i64 ([0, 0] : List Int)) true, .box [.ref 2 (List.length ([[], []] : List (List Int))) 0 (List.length ([[], []] : List (List Int))), .ref 3 (List.length ([0, 0] : List Int)) 0 (List.length ([0, 0] : List Int))], .sl 1 (List.map e_i64 ([(-1), 2] : List Int)) true, .sl 1 (List.map e_i64 ([3, 1] : List Int)) true] : List Blk))))) [] _ (scheme_Withdraw_goes k 0 0 ([(⟨1, 4, 0, 0, 0, 0⟩ : SPart), (⟨2, 1, 0, 0, 4, 2⟩ : SPart)] : List SPart) ([[], []] : List (List Int)) ([0, 0] : List Int) 1 2) (ho := rfl) (hfn := Try.func26) (hb := rfl) (hconv := (convList (vs0 := [.agg [.d (.int .i64 0), .d (.int .i64 0), .ref 0 (List.length ([(⟨1, 4, 0, 0, 0, 0⟩ : SPart), (⟨2, 1, 0, 0, 4, 2⟩ : SPart)] : List SPart)) 0 (List.length ([(⟨1, 4, 0, 0, 0, 0⟩ : SPart), (⟨2, 1, 0, 0, 4, 2⟩ : SPart)] : List SPart))], .agg [.ref 2 (List.length ([[], []] : List (List Int))) 0 (List.length ([[], []] : List (List Int))), .ref 3 (List.length ([0, 0] : List Int)) 0 (List.length ([0, 0] : List Int))], .d (.int .i64 1), .d (.int .i64 2)]) (vs := [.agg [.d (.int .i64 0), .d (.int .i64 0), .d (.lit (List.map e_SPart ([(⟨1, 4, 0, 0, 0, 0⟩ : SPart), (⟨2, 1, 0, 0, 4, 2⟩ : SPart)] : List SPart)))], .agg [.d (.lit (List.map e_Li64 ([[], []] : List (List Int)))), .d (.lit (List.map e_i64 ([0, 0] : List Int)))], .d (.int .i64 1), .d (.int .i64 2)]) (p := (.cons _ _ _ _ (.agg _ _ (.cons _ _ _ _ (.same _) (.cons _ _ _ _ (.same _) (.cons _ _ _ _ (k_lit (enc := e_SPart) (sz := 6) 0 ([(⟨1, 4, 0, 0, 0, 0⟩ : SPart), (⟨2, 1, 0, 0, 4, 2⟩ : SPart)] : List SPart)) .nil)))) (.cons _ _ _ _ (.agg _ _ (.cons _ _ _ _ (k_lit (enc := e_Li64) (sz := 1) 2 ([[], []] : List (List Int))) (.cons _ _ _ _ (k_lit (enc := e_i64) (sz := 1) 3 ([0, 0] : List Int)) .nil))) (.cons _ _ _ _ (.same _) (.cons _ _ _ _ (.same _) .nil))))))) (hnd := by decide) (hBl := fun _ => (by kernel_rfl)) (hv := fun _ => (by kernel_rfl)) (hH' := fun _ => (by kernel_rfl)) (h := fun r => ?_)
  obtain ⟨r1101, r1111, r1121⟩ := r
  refine bUc ?_
  refine bUc ?_
  refine oP (.tuple [.agg [.d (.lit (List.map e_Li64 r1101)), .d (.lit (List.map e_i64 r1111))], .d (.int .i64 r1121)]) p_move ?_
  refine oP (.agg [.d (.lit (List.map e_Li64 r1101)), .d (.lit (List.map e_i64 r1111))]) k_extract ?_
  refine oP (.d (.int .i64 r1121)) k_extract ?_
  refine oD (.ptr 7 0) (k_alloc (H' := [.sl 6 (List.map e_SPart ([(⟨1, 4, 0, 0, 0, 0⟩ : SPart), (⟨2, 1, 0, 0, 4, 2⟩ : SPart)] : List SPart)) true, .box [.d (.int .i64 0), .d (.int .i64 0), .ref 0 (List.length ([(⟨1, 4, 0, 0, 0, 0⟩ : SPart), (⟨2, 1, 0, 0, 4, 2⟩ : SPart)] : List SPart)) 0 (List.length ([(⟨1, 4, 0, 0, 0, 0⟩ : SPart), (⟨2, 1, 0, 0, 4, 2⟩ : SPart)] : List SPart))], .sl 1 (List.map e_Li64 ([[], []] : List (List Int))) true, .sl 1 (List.map e_i64 ([0, 0] : List Int)) true, .box [.ref 2 (List.length ([[], []] : List (List Int))) 0 (List.length ([[], []] : List (List Int))), .ref 3 (List.length ([0, 0] : List Int)) 0 (List.length ([0, 0] : List Int))], .sl 1 (List.map e_i64 ([(-1), 2] : List Int)) true, .sl 1 (List.map e_i64 ([3, 1] : List Int)) true, .box [.nilc, .nilc]]) ty31) ?_
  refine oD (.undef) (k_store (vs := [.d (.lit (List.map e_Li64 r1101)), .d (.lit (List.map e_i64 r1111))]) (H' := [.sl 6 (List.map e_SPart ([(⟨1, 4, 0, 0, 0, 0⟩ : SPart), (⟨2, 1, 0, 0, 4, 2⟩ : SPart)] : List SPart)) true, .box [.d (.int .i64 0), .d (.int .i64 0), .ref 0 (List.length ([(⟨1, 4, 0, 0, 0, 0⟩ : SPart), (⟨2, 1, 0, 0, 4, 2⟩ : SPart)] : List SPart)) 0 (List.length ([(⟨1, 4, 0, 0, 0, 0⟩ : SPart), (⟨2, 1, 0, 0, 4, 2⟩ : SPart)] : List SPart))], .sl 1 (List.map e_Li64 ([[], []] : List (List Int))) true, .sl 1 (List.map e_i64 ([0, 0] : List Int)) true, .box [.ref 2 (List.length ([[], []] : List (List Int))) 0 (List.length ([[], []] : List (List Int))), .ref 3 (List.length ([0, 0] : List Int)) 0 (List.length ([0, 0] : List Int))], .sl 1 (List.map e_i64 ([(-1), 2] : List Int)) true, .sl 1 (List.map e_i64 ([3, 1] : List Int)) true, .box [.d (.lit (List.map e_Li64 r1101)), .d (.lit (List.map e_i64 r1111))]]) 7 0 (hi := ty31)) ?_
  refine oP (.d (.int .i64 r1121)) p_assign ?_
  refine oEnd ?_
  refine oSR rfl ?_
  refine oQ (.agg [.d (.int .i64 0), .d (.int .i64 0), .ref 0 (List.length ([(⟨1, 4, 0, 0, 0, 0⟩ : SPart), (⟨2, 1, 0, 0, 4, 2⟩ : SPart)] : List SPart)) 0 (List.length ([(⟨1, 4, 0, 0, 0, 0⟩ : SPart), (⟨2, 1, 0, 0, 4, 2⟩ : SPart)] : List SPart))]) (k_loadAgg 1 0 (hu := Try.underlying27) (hi := ty27)) ?_
  refine oQ (.agg [.d (.lit (List.map e_Li64 r1101)), .d (.lit (List.map e_i64 r1111))]) (k_loadAgg 7 0 (hu := Try.underlying31) (hi := ty31)) ?_
  refine bCall (caps := []) (v := (uc fun (r113 : Int) => (fun (r135 : Int) => (.tuple [.d (.int .i64 r113), .d (.int .i64 r135)] : V)))) (H' := (uc fun (r113 : Int) => (fun (r135 : Int) => ([.sl 6 (List.map e_SPart ([(⟨1, 4, 0, 0, 0, 0⟩ : SPart), (⟨2, 1, 0, 0, 4, 2⟩ : SPart)] : List SPart)) true, .box [.d (.int .i64 0), .d (.int .i64 0), .ref 0 (List.length ([(⟨1, 4, 0, 0, 0, 0⟩ : SPart), (⟨2, 1, 0, 0, 4, 2⟩ : SPart)] : List SPart)) 0 (List.length ([(⟨1, 4, 0, 0, 0, 0⟩ : SPart), (⟨2, 1, 0, 0, 4, 2⟩ : SPart)] : List SPart))], .sl 1 (List.map e_Li64 ([[], []] : List (List Int))) true, .sl 1 (List.map e_i64 ([0, 0] : List Int)) true, .box [.ref 2 (List.length ([[], []] : List (List Int))) 0 (List.length ([[], []] : List (List Int))), .ref 3 (List.length ([0, 0] : List Int)) 0 (List.length ([0, 0] : List Int))], .sl 1 (List.map e_i64 ([(-1), 2] : List Int)) true, .sl 1 (List.map e_i64 ([3, 1] : List Int)) true, .box [.d (.lit (List.map e_Li64 r1101)), .d (.lit (List.map e_i64 r1111))]] : List Blk)))) [] _ (scheme_Maximum_goes k 0 0 ([(⟨1, 4, 0, 0, 0, 0⟩ : SPart), (⟨2, 1, 0, 0, 4, 2⟩ : SPart)] : List SPart) r1101 r1111) (ho := rfl) (hfn := Try.func23) (hb := rfl) (hconv := (convList (vs0 := [.agg [.d (.int .i64 0), .d (.int .i64 0), .ref 0 (List.length ([(⟨1, 4, 0, 0, 0, 0⟩ : SPart), (⟨2, 1, 0, 0, 4, 2⟩ : SPart)] : List SPart)) 0 (List.length ([(⟨1, 4, 0, 0, 0, 0⟩ : SPart), (⟨2, 1, 0, 0, 4, 2⟩ : SPart)] : List SPart))], .agg [.d (.lit (List.map e_Li64 r1101)), .d (.lit (List.map e_i64 r1111))]]) (vs := [.agg [.d (.int .i64 0), .d (.int .i64 0), .d (.lit (List.map e_SPart ([(⟨1, 4, 0, 0, 0, 0⟩ : SPart), (⟨2, 1, 0, 0, 4, 2⟩ : SPart)] : List SPart)))], .agg [.d (.lit (List.map e_Li64 r1101)), .d (.lit (List.map e_i64 r1111))]]) (p := (.cons _ _ _ _ (.agg _ _ (.cons _ _ _ _ (.same _) (.cons _ _ _ _ (.same _) (.cons _ _ _ _ (k_lit (enc := e_SPart) (sz := 6) 0 ([(⟨1, 4, 0, 0, 0, 0⟩ : SPart), (⟨2, 1, 0, 0, 4, 2⟩ : SPart)] : List SPart)) .nil)))) (.cons _ _ _ _ (.same _) .nil))))) (hnd := by decide) (hBl := fun _ => (by kernel_rfl)) (hv := fun _ => (by kernel_rfl)) (hH' := fun _ => (by kernel_rfl)) (h := fun r => ?_)
  obtain ⟨r113, r135⟩ := r
  refine bUc ?_
  refine oP (.tuple [.d (.int .i64 r113), .d (.int .i64 r135)]) p_move ?_
  refine oP (.d (.int .i64 r113)) k_extract ?_
  refine oP (.d (.int .i64 r135)) k_extract ?_
  refine oP (.d (.int .i64 r113)) p_assign ?_
  refine oP (.d (.int .i64 r135)) p_assign ?_
  refine oEnd ?_
  refine oSR rfl ?_
  refine oP (.d (.int .i64 r142)) p_move ?_
  refine oP (.d (.bool (r142 == 0))) (p_int (k := .i64) (p := r142) (q := 0)) ?_
  refine oP (.d (.bool (r142 == 0))) p_move ?_
  refine bMeet 4 rfl ((fun (x6 : Bool) => [(5, .d (.int .i64 r134)), (6, .d (.int .i64 r143)), (8, .d (.int .i64 r1121)), (9, .d (.int .i64 r113)), (10, .d (.int .i64 r135)), (50, .d (.bool x6))])) ((fun (x6 : Bool) => [])) (fun s => s) (fun x6 => ?_) (fun hj6 => ?_)
  ·refine oView (T' := [(5, .d (.int .i64 r134)), (6, .d (.int .i64 r143)), (8, .d (.int .i64 r1121)), (9, .d (.int .i64 r113)), (10, .d (.int .i64 r135)), (50, .d (.bool x6))]) (H' := []) (h := ?_)
   refine oP (.d (.bool x6)) p_move ?_
   refine bMeetF (H' := []) 3 rfl ((fun (x7 : Bool) => [(5, .d (.int .i64 r134)), (8, .d (.int .i64 r1121)), (9, .d (.int .i64 r113)), (10, .d (.int .i64 r135)), (54, .d (.bool x7))])) (fun x7 => ?_) (fun F hj1 => ?_)
   ·refine oView (T' := [(5, .d (.int .i64 r134)), (8, .d (.int .i64 r1121)), (9, .d (.int .i64 r113)), (10, .d (.int .i64 r135)), (54, .d (.bool x7))]) (H' := []) (h := ?_)
    refine oP (.d (.bool x7)) p_move ?_
    refine bMeetF (H' := []) 3 rfl ((fun (x8 : Bool) => [(8, .d (.int .i64 r1121)), (9, .d (.int .i64 r113)), (10, .d (.int .i64 r135)), (58, .d (.bool x8))])) (fun x8 => ?_) (fun F hj2 => ?_)
    ·refine oView (T' := [(8, .d (.int .i64 r1121)), (9, .d (.int .i64 r113)), (10, .d (.int .i64 r135)), (58, .d (.bool x8))]) (H' := []) (h := ?_)
     refine oP (.d (.bool x8)) p_move ?_
     refine bMeetF (H' := []) 3 rfl ((fun (x9 : Bool) => [(9, .d (.int .i64 r113)), (10, .d (.int .i64 r135)), (62, .d (.bool x9))])) (fun x9 => ?_) (fun F hj3 => ?_)
     ·refine oView (T' := [(9, .d (.int .i64 r113)), (10, .d (.int .i64 r135)), (62, .d (.bool x9))]) (H' := []) (h := ?_)
      refine oP (.d (.bool x9)) p_move ?_
      refine bMeetF (H' := []) 3 rfl ((fun (x10 : Bool) => [(9, .d (.int .i64 r113)), (66, .d (.bool x10))])) (fun x10 => ?_) (fun F hj4 => ?_)
      ·refine oView (T' := [(9, .d (.int .i64 r113)), (66, .d (.bool x10))]) (H' := []) (h := ?_)
       refine oP (.d (.bool x10)) p_move ?_
       refine bMeetF (H' := []) 3 rfl ((fun (x11 : Bool) => [(70, .d (.bool x11))])) (fun x11 => ?_) (fun F hj5 => ?_)
       ·refine oView (T' := [(70, .d (.bool x11))]) (H' := []) (h := ?_)
        refine oP (.d (.bool x11)) p_assign ?_
        refine oEnd ?_
        exact oRet (r0 := x11) (rv := .d (.bool x11)) (B := []) (vs := [.d (.bool x11)]) (σ := []) (hf := Try.func19) (hrs := rfl) (hres := .cons _ _ _ _ (.tmp 0 _ (by kernel_rfl)) .nil) (hnd := by decide)
       ·refine bPickF 67 (fun c => F (c && (r113 == 4))) (h1 := fun hc => ?_) (h2 := fun hc => ?_)
        ·refine oP (.d (.int .i64 r113)) p_move ?_
         refine oP (.d (.bool (r113 == 4))) (p_int (k := .i64) (p := r113) (q := 4)) ?_
         refine oP (.d (.bool (r113 == 4))) (p_pick (b := true)) ?_
         refine oHead [70] [] (T' := [(70, .d (.bool (r113 == 4)))]) (H' := []) (hnd := by decide) (h := ?_)
         exact hj5 (r113 == 4)
        ·refine oNot (h := ?_)
         refine oNot (h := ?_)
         refine oP (.d (.bool false)) (p_pick (b := false)) ?_
         refine oHead [70] [] (T' := [(70, .d (.bool false))]) (H' := []) (hnd := by decide) (h := ?_)
         exact hj5 false
      ·refine bPickF 63 (fun c => F (c && (r135 == 0))) (h1 := fun hc => ?_) (h2 := fun hc => ?_)
       ·refine oP (.d (.int .i64 r135)) p_move ?_
        refine oP (.d (.bool (r135 == 0))) (p_int (k := .i64) (p := r135) (q := 0)) ?_
        refine oP (.d (.bool (r135 == 0))) (p_pick (b := true)) ?_
        refine oHead [9, 66] [] (T' := [(9, .d (.int .i64 r113)), (66, .d (.bool (r135 == 0)))]) (H' := []) (hnd := by decide) (h := ?_)
        exact hj4 (r135 == 0)
       ·refine oNot (h := ?_)
        refine oNot (h := ?_)
        refine oP (.d (.bool false)) (p_pick (b := false)) ?_
        refine oHead [9, 66] [] (T' := [(9, .d (.int .i64 r113)), (66, .d (.bool false))]) (H' := []) (hnd := by decide) (h := ?_)
        exact hj4 false
     ·refine bPickF 59 (fun c => F (c && (r1121 == 0))) (h1 := fun hc => ?_) (h2 := fun hc => ?_)
      ·refine oP (.d (.int .i64 r1121)) p_move ?_
       refine oP (.d (.bool (r1121 == 0))) (p_int (k := .i64) (p := r1121) (q := 0)) ?_
       refine oP (.d (.bool (r1121 == 0))) (p_pick (b := true)) ?_
       refine oHead [9, 10, 62] [] (T' := [(9, .d (.int .i64 r113)), (10, .d (.int .i64 r135)), (62, .d (.bool (r1121 == 0)))]) (H' := []) (hnd := by decide) (h := ?_)
       exact hj3 (r1121 == 0)
      ·refine oNot (h := ?_)
       refine oNot (h := ?_)
       refine oP (.d (.bool false)) (p_pick (b := false)) ?_
       refine oHead [9, 10, 62] [] (T' := [(9, .d (.int .i64 r113)), (10, .d (.int .i64 r135)), (62, .d (.bool false))]) (H' := []) (hnd := by decide) (h := ?_)
       exact hj3 false
    ·refine bPickF 55 (fun c => F (c && (r134 == 4))) (h1 := fun hc => ?_) (h2 := fun hc => ?_)
     ·refine oP (.d (.int .i64 r134)) p_move ?_
      refine oP (.d (.bool (r134 == 4))) (p_int (k := .i64) (p := r134) (q := 4)) ?_
      refine oP (.d (.bool (r134 == 4))) (p_pick (b := true)) ?_
      refine oHead [8, 9, 10, 58] [] (T' := [(8, .d (.int .i64 r1121)), (9, .d (.int .i64 r113)), (10, .d (.int .i64 r135)), (58, .d (.bool (r134 == 4)))]) (H' := []) (hnd := by decide) (h := ?_)
      exact hj2 (r134 == 4)
     ·refine oNot (h := ?_)
      refine oNot (h := ?_)
      refine oP (.d (.bool false)) (p_pick (b := false)) ?_
      refine oHead [8, 9, 10, 58] [] (T' := [(8, .d (.int .i64 r1121)), (9, .d (.int .i64 r113)), (10, .d (.int .i64 r135)), (58, .d (.bool false))]) (H' := []) (hnd := by decide) (h := ?_)
      exact hj2 false
   ·refine bPickF 51 (fun c => F (c && (r143 == 0))) (h1 := fun hc => ?_) (h2 := fun hc => ?_)
    ·refine oP (.d (.int .i64 r143)) p_move ?_
     refine oP (.d (.bool (r143 == 0))) (p_int (k := .i64) (p := r143) (q := 0)) ?_
     refine oP (.d (.bool (r143 == 0))) (p_pick (b := true)) ?_
     refine oHead [5, 8, 9, 10, 54] [] (T' := [(5, .d (.int .i64 r134)), (8, .d (.int .i64 r1121)), (9, .d (.int .i64 r113)), (10, .d (.int .i64 r135)), (54, .d (.bool (r143 == 0)))]) (H' := []) (hnd := by decide) (h := ?_)
     exact hj1 (r143 == 0)
    ·refine oNot (h := ?_)
     refine oNot (h := ?_)
     refine oP (.d (.bool false)) (p_pick (b := false)) ?_
     refine oHead [5, 8, 9, 10, 54] [] (T' := [(5, .d (.int .i64 r134)), (8, .d (.int .i64 r1121)), (9, .d (.int .i64 r113)), (10, .d (.int .i64 r135)), (54, .d (.bool false))]) (H' := []) (hnd := by decide) (h := ?_)
     exact hj1 false
  ·refine bSplit 46 (h1 := fun hc => ?_) (h2 := fun hc => ?_)
   ·refine oP (.d (.lit (List.map e_i64 r133))) p_move ?_
    refine oD (.ref 8 (List.length ([(-2), 1] : List Int)) 0 (List.length ([(-2), 1] : List Int))) (k_buildSlice (H' := [.sl 6 (List.map e_SPart ([(⟨1, 4, 0, 0, 0, 0⟩ : SPart), (⟨2, 1, 0, 0, 4, 2⟩ : SPart)] : List SPart)) true, .box [.d (.int .i64 0), .d (.int .i64 0), .ref 0 (List.length ([(⟨1, 4, 0, 0, 0, 0⟩ : SPart), (⟨2, 1, 0, 0, 4, 2⟩ : SPart)] : List SPart)) 0 (List.length ([(⟨1, 4, 0, 0, 0, 0⟩ : SPart), (⟨2, 1, 0, 0, 4, 2⟩ : SPart)] : List SPart))], .sl 1 (List.map e_Li64 ([[], []] : List (List Int))) true, .sl 1 (List.map e_i64 ([0, 0] : List Int)) true, .box [.ref 2 (List.length ([[], []] : List (List Int))) 0 (List.length ([[], []] : List (List Int))), .ref 3 (List.length ([0, 0] : List Int)) 0 (List.length ([0, 0] : List Int))], .sl 1 (List.map e_i64 ([(-1), 2] : List Int)) true, .sl 1 (List.map e_i64 ([3, 1] : List Int)) true, .box [.d (.lit (List.map e_Li64 r1101)), .d (.lit (List.map e_i64 r1111))], .sl 1 (List.map e_i64 ([(-2), 1] : List Int)) false]) (List.map e_i64 ([(-2), 1] : List Int)) Try.underlying22 ty3) ?_
    refine oFreeze 8 (esz := 1) (xs := List.map e_i64 ([(-2), 1] : List Int)) (h := ?_)
    refine oView (H' := [.sl 6 (List.map e_SPart ([(⟨1, 4, 0, 0, 0, 0⟩ : SPart), (⟨2, 1, 0, 0, 4, 2⟩ : SPart)] : List SPart)) true, .box [.d (.int .i64 0), .d (.int .i64 0), .ref 0 (List.length ([(⟨1, 4, 0, 0, 0, 0⟩ : SPart), (⟨2, 1, 0, 0, 4, 2⟩ : SPart)] : List SPart)) 0 (List.length ([(⟨1, 4, 0, 0, 0, 0⟩ : SPart), (⟨2, 1, 0, 0, 4, 2⟩ : SPart)] : List SPart))], .sl 1 (List.map e_Li64 ([[], []] : List (List Int))) true, .sl 1 (List.map e_i64 ([0, 0] : List Int)) true, .box [.ref 2 (List.length ([[], []] : List (List Int))) 0 (List.length ([[], []] : List (List Int))), .ref 3 (List.length ([0, 0] : List Int)) 0 (List.length ([0, 0] : List Int))], .sl 1 (List.map e_i64 ([(-1), 2] : List Int)) true, .sl 1 (List.map e_i64 ([3, 1] : List Int)) true, .box [.d (.lit (List.map e_Li64 r1101)), .d (.lit (List.map e_i64 r1111))], .sl 1 (List.map e_i64 ([(-2), 1] : List Int)) true]) rfl (h := ?_)
    refine bCall (caps := []) (v := (fun (r16 : Bool) => (.d (.bool r16) : V))) (H' := (fun (r16 : Bool) => ([.sl 6 (List.map e_SPart ([(⟨1, 4, 0, 0, 0, 0⟩ : SPart), (⟨2, 1, 0, 0, 4, 2⟩ : SPart)] : List SPart)) true, .box [.d (.int .i64 0), .d (.int .i64 0), .ref 0 (List.length ([(⟨1, 4, 0, 0, 0, 0⟩ : SPart), (⟨2, 1, 0, 0, 4, 2⟩ : SPart)] : List SPart)) 0 (List.length ([(⟨1, 4, 0, 0, 0, 0⟩ : SPart), (⟨2, 1, 0, 0, 4, 2⟩ : SPart)] : List SPart))], .sl 1 (List.map e_Li64 ([[], []] : List (List Int))) true, .sl 1 (List.map e_i64 ([0, 0] : List Int)) true, .box [.ref 2 (List.length ([[], []] : List (List Int))) 0 (List.length ([[], []] : List (List Int))), .ref 3 (List.length ([0, 0] : List Int)) 0 (List.length ([0, 0] : List Int))], .sl 1 (List.map e_i64 ([(-1), 2] : List Int)) true, .sl 1 (List.map e_i64 ([3, 1] : List Int)) true, .box [.d (.lit (List.map e_Li64 r1101)), .d (.lit (List.map e_i64 r1111))], .sl 1 (List.map e_i64 ([(-2), 1] : List Int)) true] : List Blk))) [] _ (ref06_Ints_goes k r133 ([(-2), 1] : List Int)) (ho := rfl) (hfn := Try.func18) (hb := rfl) (hconv := (convList (vs0 := [.d (.lit (List.map e_i64 r133)), .ref 8 (List.length ([(-2), 1] : List Int)) 0 (List.length ([(-2), 1] : List Int))]) (vs := [.d (.lit (List.map e_i64 r133)), .d (.lit (List.map e_i64 ([(-2), 1] : List Int)))]) (p := (.cons _ _ _ _ (.same _) (.cons _ _ _ _ (k_lit (enc := e_i64) (sz := 1) 8 ([(-2), 1] : List Int)) .nil))))) (hnd := by decide) (hBl := fun _ => (by kernel_rfl)) (hv := fun _ => (by kernel_rfl)) (hH' := fun _ => (by kernel_rfl)) (h := fun r16 => ?_)
    refine oP (.d (.bool r16)) (p_pick (b := true)) ?_
    refine oHead [5, 6, 8, 9, 10, 50] [] (T' := [(5, .d (.int .i64 r134)), (6, .d (.int .i64 r143)), (8, .d (.int .i64 r1121)), (9, .d (.int .i64 r113)), (10, .d (.int .i64 r135)), (50, .d (.bool r16))]) (H' := []) (hnd := by decide) (h := ?_)
    exact hj6 r16
   ·refine oNot (h := ?_)
    refine oNot (h := ?_)
    refine oNot (h := ?_)
    refine oP (.d (.bool false)) (p_pick (b := false)) ?_
    refine oHead [5, 6, 8, 9, 10, 50] [] (T' := [(5, .d (.int .i64 r134)), (6, .d (.int .i64 r143)), (8, .d (.int .i64 r1121)), (9, .d (.int .i64 r113)), (10, .d (.int .i64 r135)), (50, .d (.bool false))]) (H' := []) (hnd := by decide) (h := ?_)
    exact hj6 false

/-- awardingbody/awardingbodylaw23.SchemePermits -/
def law23_SchemePermits (k : Nat) (t : (List Int)) (part : Int) (mark1 : Int) : Option (Bool) := Option.bind (make_New k t) (fun x7 => Option.bind (make_Tape_LoosePaper k x7 0) (uc fun r141 => uc fun r152 => uc fun r163 => fun x111 => Option.bind (make_Tape_Scheme k r141 r152 r163 x7 x111) (uc fun r153 => uc fun r164 => fun x561 => Option.bind (make_Tape_Marks k r141 r152 r163 x7 x561) (uc fun r165 => fun x121 => Option.bind (make_Cut k part 7) (fun r18 => Option.bind (make_Cut k mark1 16) (fun r19 => Option.bind (scheme_Permitted k r141 r152 r163 r153 r164 part mark1) (fun r13 => Option.bind (ref23_Permitted k r141 r152 r163 r153 r164 part mark1) (fun r111 => Option.bind (bif (r13 == r111) then Option.bind (scheme_Permitted k r141 r152 r163 r153 r164 r18 (IntKind.wrap .i64 (r19 - 3))) (fun r131 => Option.bind (ref23_Permitted k r141 r152 r163 r153 r164 r18 (IntKind.wrap .i64 (r19 - 3))) (fun r112 => some (r131 == r112))) else some false : Option Bool) (fun x13 => Option.bind (bif x13 then Option.bind (scheme_Marked k r141 r152 r163 r153 r164 r165) (fun r12 => Option.bind (ref23_Marked k r141 r152 r163 r153 r164 r165) (fun r121 => some (r12 == r121))) else some false : Option Bool) (fun x14 => Option.bind (bif x14 then Option.bind (law23_awake k) (fun r122 => some r122) else some false : Option Bool) (fun x15 => some x15)))))))))))
def law23_SchemePermits_E (t : (List Int)) (part : Int) (mark1 : Int) : Bool → V × List Blk := fun r17 => (.d (.bool r17), [])
theorem law23_SchemePermits_goes (k : Nat) (t : (List Int)) (part : Int) (mark1 : Int) : RunsO Try.prog 9 [.d (.lit (List.map e_i64 t)), .d (.int .i64 part), .d (.int .i64 mark1)] [] (law23_SchemePermits_E t part mark1) (law23_SchemePermits k t part mark1) := by
  refine RunsO.of_goes (N := 66) (m := 0) (T := [(0, .d (.lit (List.map e_i64 t))), (1, .d (.int .i64 part)), (2, .d (.int .i64 mark1))]) Try.func9 rfl rfl (h := ?_)
  unfold law23_SchemePermits
  refine bStart ?_
  refine oSR rfl ?_
  refine oP (.d (.bool false)) p_assign ?_
  refine oEnd ?_
  refine oSR rfl ?_
  refine oP (.d (.lit (List.map e_i64 t))) p_move ?_
  refine bCall (caps := []) (v := (fun (x7 : (List Int)) => (.ptr 0 0 : V))) (H' := (fun (x7 : (List Int)) => ([.box [.d (.lit (List.map e_i64 x7)), .d (.int .i64 0)]] : List Blk))) [] _ (make_New_goes k t) (ho := rfl) (hfn := Try.func12) (hb := rfl) (hconv := ConvRs.refl _ _) (hnd := by decide) (hBl := fun _ => (by kernel_rfl)) (hv := fun _ => (by kernel_rfl)) (hH' := fun _ => (by kernel_rfl)) (h := fun x7 => ?_)
  refine oP (.ptr 0 0) p_assign ?_
  refine oEnd ?_
  refine oSR rfl ?_
  refine oP (.ptr 0 0) p_move ?_
  refine bCall (caps := []) (v := (uc fun (r141 : Int) => (uc fun (r152 : Int) => (uc fun (r163 : (List SPart)) => (fun (x111 : Int) => (.agg [.d (.int .i64 r141), .d (.int .i64 r152), .d (.lit (List.map e_SPart r163))] : V)))))) (H' := (uc fun (r141 : Int) => (uc fun (r152 : Int) => (uc fun (r163 : (List SPart)) => (fun (x111 : Int) => ([.box [.d (.lit (List.map e_i64 x7)), .d (.int .i64 x111)]] : List Blk)))))) [0] _ (make_Tape_LoosePaper_goes k x7 0) (ho := rfl) (hfn := Try.func13) (hb := rfl) (hconv := ConvRs.refl _ _) (hnd := by decide) (hBl := fun _ => (by kernel_rfl)) (hv := fun _ => (by kernel_rfl)) (hH' := fun _ => (by kernel_rfl)) (h := fun r => ?_)
  obtain ⟨r141, r152, r163, x111⟩ := r
  refine bUc ?_
  refine bUc ?_
  refine bUc ?_
  refine oD (.ptr 1 0) (k_alloc (H' := [.box [.d (.lit (List.map e_i64 x7)), .d (.int .i64 x111)], .box [.d (.int .i64 0), .d (.int .i64 0), .nilc]]) ty27) ?_
  refine oD (.undef) (k_store (vs := [.d (.int .i64 r141), .d (.int .i64 r152), .d (.lit (List.map e_SPart r163))]) (H' := [.box [.d (.lit (List.map e_i64 x7)), .d (.int .i64 x111)], .box [.d (.int .i64 r141), .d (.int .i64 r152), .d (.lit (List.map e_SPart r163))]]) 1 0 (hi := ty27)) ?_
  refine oEnd ?_
  refine oSR rfl ?_
  refine oP (.ptr 0 0) p_move ?_
  refine oQ (.agg [.d (.int .i64 r141), .d (.int .i64 r152), .d (.lit (List.map e_SPart r163))]) (k_loadAgg 1 0 (hu := Try.underlying27) (hi := ty27)) ?_
  refine bCall (caps := []) (v := (uc fun (r153 : (List (List Int))) => (uc fun (r164 : (List Int)) => (fun (x561 : Int) => (.agg [.d (.lit (List.map e_Li64 r153)), .d (.lit (List.map e_i64 r164))] : V))))) (H' := (uc fun (r153 : (List (List Int))) => (uc fun (r164 : (List Int)) => (fun (x561 : Int) => ([.box [.d (.lit (List.map e_i64 x7)), .d (.int .i64 x561)], .box [.d (.int .i64 r141), .d (.int .i64 r152), .d (.lit (List.map e_SPart r163))]] : List Blk))))) [0] _ (make_Tape_Scheme_goes k r141 r152 r163 x7 x111) (ho := rfl) (hfn := Try.func14) (hb := rfl) (hconv := ConvRs.refl _ _) (hnd := by decide) (hBl := fun _ => (by kernel_rfl)) (hv := fun _ => (by kernel_rfl)) (hH' := fun _ => (by kernel_rfl)) (h := fun r => ?_)
  obtain ⟨r153, r164, x561⟩ := r
  refine bUc ?_
  refine bUc ?_
  refine oD (.ptr 2 0) (k_alloc (H' := [.box [.d (.lit (List.map e_i64 x7)), .d (.int .i64 x561)], .box [.d (.int .i64 r141), .d (.int .i64 r152), .d (.lit (List.map e_SPart r163))], .box [.nilc, .nilc]]) ty31) ?_
  refine oD (.undef) (k_store (vs := [.d (.lit (List.map e_Li64 r153)), .d (.lit (List.map e_i64 r164))]) (H' := [.box [.d (.lit (List.map e_i64 x7)), .d (.int .i64 x561)], .box [.d (.int .i64 r141), .d (.int .i64 r152), .d (.lit (List.map e_SPart r163))], .box [.d (.lit (List.map e_Li64 r153)), .d (.lit (List.map e_i64 r164))]]) 2 0 (hi := ty31)) ?_
  refine oEnd ?_
  refine oSR rfl ?_
  refine oP (.ptr 0 0) p_move ?_
  refine oQ (.agg [.d (.int .i64 r141), .d (.int .i64 r152), .d (.lit (List.map e_SPart r163))]) (k_loadAgg 1 0 (hu := Try.underlying27) (hi := ty27)) ?_
  refine bCall (caps := []) (v := (uc fun (r165 : (List Int)) => (fun (x121 : Int) => (.d (.lit (List.map e_i64 r165)) : V)))) (H' := (uc fun (r165 : (List Int)) => (fun (x121 : Int) => ([.box [.d (.lit (List.map e_i64 x7)), .d (.int .i64 x121)], .box [.d (.int .i64 r141), .d (.int .i64 r152), .d (.lit (List.map e_SPart r163))], .box [.d (.lit (List.map e_Li64 r153)), .d (.lit (List.map e_i64 r164))]] : List Blk)))) [0] _ (make_Tape_Marks_goes k r141 r152 r163 x7 x561) (ho := rfl) (hfn := Try.func20) (hb := rfl) (hconv := ConvRs.refl _ _) (hnd := by decide) (hBl := fun _ => (by kernel_rfl)) (hv := fun _ => (by kernel_rfl)) (hH' := fun _ => (by kernel_rfl)) (h := fun r => ?_)
  obtain ⟨r165, x121⟩ := r
  refine bUc ?_
  refine oP (.d (.lit (List.map e_i64 r165))) p_assign ?_
  refine oEnd ?_
  refine oSR rfl ?_
  refine oP (.d (.int .i64 part)) p_move ?_
  refine bCall (caps := []) (v := (fun (r18 : Int) => (.d (.int .i64 r18) : V))) (H' := (fun (r18 : Int) => ([.box [.d (.lit (List.map e_i64 x7)), .d (.int .i64 x121)], .box [.d (.int .i64 r141), .d (.int .i64 r152), .d (.lit (List.map e_SPart r163))], .box [.d (.lit (List.map e_Li64 r153)), .d (.lit (List.map e_i64 r164))]] : List Blk))) [] _ (make_Cut_goes k part 7) (ho := rfl) (hfn := Try.func25) (hb := rfl) (hconv := ConvRs.refl _ _) (hnd := by decide) (hBl := fun _ => (by kernel_rfl)) (hv := fun _ => (by kernel_rfl)) (hH' := fun _ => (by kernel_rfl)) (h := fun r18 => ?_)
  refine oP (.d (.int .i64 mark1)) p_move ?_
  refine bCall (caps := []) (v := (fun (r19 : Int) => (.d (.int .i64 r19) : V))) (H' := (fun (r19 : Int) => ([.box [.d (.lit (List.map e_i64 x7)), .d (.int .i64 x121)], .box [.d (.int .i64 r141), .d (.int .i64 r152), .d (.lit (List.map e_SPart r163))], .box [.d (.lit (List.map e_Li64 r153)), .d (.lit (List.map e_i64 r164))]] : List Blk))) [] _ (make_Cut_goes k mark1 16) (ho := rfl) (hfn := Try.func25) (hb := rfl) (hconv := ConvRs.refl _ _) (hnd := by decide) (hBl := fun _ => (by kernel_rfl)) (hv := fun _ => (by kernel_rfl)) (hH' := fun _ => (by kernel_rfl)) (h := fun r19 => ?_)
  refine oP (.d (.int .i64 (IntKind.wrap .i64 (r19 - 3)))) (p_int (k := .i64) (p := r19) (q := 3)) ?_
  refine oP (.d (.int .i64 r18)) p_assign ?_
  refine oP (.d (.int .i64 (IntKind.wrap .i64 (r19 - 3)))) p_assign ?_
  refine oEnd ?_
  refine oSeq ?_
  refine oDraw [(0, 39), (1, 39), (2, 39)] rfl ?_
  refine aQ 0 [1] (.agg [.d (.int .i64 r141), .d (.int .i64 r152), .d (.lit (List.map e_SPart r163))]) rfl (k_loadAgg 1 0 (hu := Try.underlying27) (hi := ty27)) ?_
  refine aQ 1 [2] (.agg [.d (.lit (List.map e_Li64 r153)), .d (.lit (List.map e_i64 r164))]) rfl (k_loadAgg 2 0 (hu := Try.underlying31) (hi := ty31)) ?_
  refine aP 2 (.d (.int .i64 part)) rfl p_move ?_
  refine aP 3 (.d (.int .i64 mark1)) rfl p_move ?_
  refine aQ 5 [1] (.agg [.d (.int .i64 r141), .d (.int .i64 r152), .d (.lit (List.map e_SPart r163))]) rfl (k_loadAgg 1 0 (hu := Try.underlying27) (hi := ty27)) ?_
  refine aQ 6 [2] (.agg [.d (.lit (List.map e_Li64 r153)), .d (.lit (List.map e_i64 r164))]) rfl (k_loadAgg 2 0 (hu := Try.underlying31) (hi := ty31)) ?_
  refine aP 7 (.d (.int .i64 part)) rfl p_move ?_
  refine aP 8 (.d (.int .i64 mark1)) rfl p_move ?_
  refine dCall (i := 4) (caps := []) (v := (fun (r13 : Bool) => (.d (.bool r13) : V))) (H' := (fun (r13 : Bool) => ([.box [.d (.lit (List.map e_i64 x7)), .d (.int .i64 x121)], .box [.d (.int .i64 r141), .d (.int .i64 r152), .d (.lit (List.map e_SPart r163))], .box [.d (.lit (List.map e_Li64 r153)), .d (.lit (List.map e_i64 r164))]] : List Blk))) [] _ (scheme_Permitted_goes k r141 r152 r163 r153 r164 part mark1) rfl (ho := rfl) (hfn := Try.func34) (hb := rfl) (hconv := ConvRs.refl _ _) (hnd := by decide) (hBl := fun _ => (by kernel_rfl)) (hv := fun _ => (by kernel_rfl)) (hH' := fun _ => (by kernel_rfl)) (h := fun r13 => ?_)
  refine dCall (i := 9) (caps := []) (v := (fun (r111 : Bool) => (.d (.bool r111) : V))) (H' := (fun (r111 : Bool) => ([.box [.d (.lit (List.map e_i64 x7)), .d (.int .i64 x121)], .box [.d (.int .i64 r141), .d (.int .i64 r152), .d (.lit (List.map e_SPart r163))], .box [.d (.lit (List.map e_Li64 r153)), .d (.lit (List.map e_i64 r164))]] : List Blk))) [] _ (ref23_Permitted_goes k r141 r152 r163 r153 r164 part mark1) rfl (ho := rfl) (hfn := Try.func35) (hb := rfl) (hconv := ConvRs.refl _ _) (hnd := by decide) (hBl := fun _ => (by kernel_rfl)) (hv := fun _ => (by kernel_rfl)) (hH' := fun _ => (by kernel_rfl)) (h := fun r111 => ?_)
  refine aP 10 (.d (.bool (r13 == r111))) rfl (p_boolEq (p := r13) (q := r111) (hu := Try.underlying4)) ?_
  refine aP 11 (.d (.bool (r13 == r111))) rfl p_move ?_
  refine dMeet [23, 22, 21, 16, 20, 19, 18, 17, 15, 14, 13, 12, 11, 10, 9, 4, 8, 7, 6, 5, 3, 2, 1, 0] (fun (x13 : Bool) => [(8, .ptr 1 0), (9, .ptr 2 0), (10, .d (.lit (List.map e_i64 r165))), (51, .d (.bool x13))]) (fun (x13 : Bool) => [(8, .ptr 1 0), (9, .ptr 2 0), (10, .d (.lit (List.map e_i64 r165))), (51, .d (.bool x13))]) (fun _ => [.box [.d (.lit (List.map e_i64 x7)), .d (.int .i64 x121)], .box [.d (.int .i64 r141), .d (.int .i64 r152), .d (.lit (List.map e_SPart r163))], .box [.d (.lit (List.map e_Li64 r153)), .d (.lit (List.map e_i64 r164))]]) (fun s => s) (fun x13 => ?_) (fun hj4 => ?_)
  ·refine aP 24 (.d (.bool x13)) rfl p_move ?_
   refine dMeet [34, 33, 32, 28, 31, 30, 29, 27, 26, 25, 24, 23, 22, 21, 16, 20, 19, 18, 17, 15, 14, 13, 12, 11, 10, 9, 4, 8, 7, 6, 5, 3, 2, 1, 0] (fun (x14 : Bool) => [(62, .d (.bool x14))]) (fun (x14 : Bool) => [(62, .d (.bool x14))]) (fun _ => [.box [.d (.lit (List.map e_i64 x7)), .d (.int .i64 x121)], .box [.d (.int .i64 r141), .d (.int .i64 r152), .d (.lit (List.map e_SPart r163))], .box [.d (.lit (List.map e_Li64 r153)), .d (.lit (List.map e_i64 r164))]]) (fun s => s) (fun x14 => ?_) (fun hj5 => ?_)
   ·refine aP 35 (.d (.bool x14)) rfl p_move ?_
    refine dMeet [37, 36, 35, 34, 33, 32, 28, 31, 30, 29, 27, 26, 25, 24, 23, 22, 21, 16, 20, 19, 18, 17, 15, 14, 13, 12, 11, 10, 9, 4, 8, 7, 6, 5, 3, 2, 1, 0] (fun (x15 : Bool) => [(65, .d (.bool x15))]) (fun (x15 : Bool) => [(65, .d (.bool x15))]) (fun _ => [.box [.d (.lit (List.map e_i64 x7)), .d (.int .i64 x121)], .box [.d (.int .i64 r141), .d (.int .i64 r152), .d (.lit (List.map e_SPart r163))], .box [.d (.lit (List.map e_Li64 r153)), .d (.lit (List.map e_i64 r164))]]) (fun s => s) (fun x15 => ?_) (fun hj6 => ?_)
    ·refine aP 38 (.d (.bool x15)) rfl p_assign ?_
     refine aDone (h := ?_)
     exact oRet (r0 := x15) (rv := .d (.bool x15)) (B := []) (vs := [.d (.bool x15)]) (σ := []) (hf := Try.func9) (hrs := rfl) (hres := .cons _ _ _ _ (.tmp 6 _ (by kernel_rfl)) .nil) (hnd := by decide)
    ·refine dSplit 63 (h1 := fun hc => ?_) (h2 := fun hc => ?_)
     ·refine dCall (i := 36) (caps := []) (v := (fun (r122 : Bool) => (.d (.bool r122) : V))) (H' := (fun (r122 : Bool) => ([.box [.d (.lit (List.map e_i64 x7)), .d (.int .i64 x121)], .box [.d (.int .i64 r141), .d (.int .i64 r152), .d (.lit (List.map e_SPart r163))], .box [.d (.lit (List.map e_Li64 r153)), .d (.lit (List.map e_i64 r164))]] : List Blk))) [] _ (law23_awake_goes k) rfl (ho := rfl) (hfn := Try.func19) (hb := rfl) (hconv := ConvRs.refl _ _) (hnd := by decide) (hBl := fun _ => (by kernel_rfl)) (hv := fun _ => (by kernel_rfl)) (hH' := fun _ => (by kernel_rfl)) (h := fun r122 => ?_)
      refine aP 37 (.d (.bool r122)) rfl (p_pick (b := true)) ?_
      refine dDrop [65] [65] (T' := [(65, .d (.bool r122))]) (U' := [(65, .d (.bool r122))]) (h := ?_)
      exact hj6 r122
     ·refine aTakeNot (i := 36) rfl (h := ?_)
      refine aP 37 (.d (.bool false)) rfl (p_pick (b := false)) ?_
      refine dDrop [65] [65] (T' := [(65, .d (.bool false))]) (U' := [(65, .d (.bool false))]) (h := ?_)
      exact hj6 false
   ·refine dSplit 52 (h1 := fun hc => ?_) (h2 := fun hc => ?_)
    ·refine aQ 25 [1] (.agg [.d (.int .i64 r141), .d (.int .i64 r152), .d (.lit (List.map e_SPart r163))]) rfl (k_loadAgg 1 0 (hu := Try.underlying27) (hi := ty27)) ?_
     refine aQ 26 [2] (.agg [.d (.lit (List.map e_Li64 r153)), .d (.lit (List.map e_i64 r164))]) rfl (k_loadAgg 2 0 (hu := Try.underlying31) (hi := ty31)) ?_
     refine aP 27 (.d (.lit (List.map e_i64 r165))) rfl p_move ?_
     refine aQ 29 [1] (.agg [.d (.int .i64 r141), .d (.int .i64 r152), .d (.lit (List.map e_SPart r163))]) rfl (k_loadAgg 1 0 (hu := Try.underlying27) (hi := ty27)) ?_
     refine aQ 30 [2] (.agg [.d (.lit (List.map e_Li64 r153)), .d (.lit (List.map e_i64 r164))]) rfl (k_loadAgg 2 0 (hu := Try.underlying31) (hi := ty31)) ?_
     refine aP 31 (.d (.lit (List.map e_i64 r165))) rfl p_move ?_
     refine dCall (i := 28) (caps := []) (v := (fun (r12 : Bool) => (.d (.bool r12) : V))) (H' := (fun (r12 : Bool) => ([.box [.d (.lit (List.map e_i64 x7)), .d (.int .i64 x121)], .box [.d (.int .i64 r141), .d (.int .i64 r152), .d (.lit (List.map e_SPart r163))], .box [.d (.lit (List.map e_Li64 r153)), .d (.lit (List.map e_i64 r164))]] : List Blk))) [] _ (scheme_Marked_goes k r141 r152 r163 r153 r164 r165) rfl (ho := rfl) (hfn := Try.func36) (hb := rfl) (hconv := ConvRs.refl _ _) (hnd := by decide) (hBl := fun _ => (by kernel_rfl)) (hv := fun _ => (by kernel_rfl)) (hH' := fun _ => (by kernel_rfl)) (h := fun r12 => ?_)
     refine dCall (i := 32) (caps := []) (v := (fun (r121 : Bool) => (.d (.bool r121) : V))) (H' := (fun (r121 : Bool) => ([.box [.d (.lit (List.map e_i64 x7)), .d (.int .i64 x121)], .box [.d (.int .i64 r141), .d (.int .i64 r152), .d (.lit (List.map e_SPart r163))], .box [.d (.lit (List.map e_Li64 r153)), .d (.lit (List.map e_i64 r164))]] : List Blk))) [] _ (ref23_Marked_goes k r141 r152 r163 r153 r164 r165) rfl (ho := rfl) (hfn := Try.func37) (hb := rfl) (hconv := ConvRs.refl _ _) (hnd := by decide) (hBl := fun _ => (by kernel_rfl)) (hv := fun _ => (by kernel_rfl)) (hH' := fun _ => (by kernel_rfl)) (h := fun r121 => ?_)
     refine aP 33 (.d (.bool (r12 == r121))) rfl (p_boolEq (p := r12) (q := r121) (hu := Try.underlying4)) ?_
     refine aP 34 (.d (.bool (r12 == r121))) rfl (p_pick (b := true)) ?_
     refine dDrop [62] [62] (T' := [(62, .d (.bool (r12 == r121)))]) (U' := [(62, .d (.bool (r12 == r121)))]) (h := ?_)
     exact hj5 (r12 == r121)
    ·refine aTakeNot (i := 25) rfl (h := ?_)
     refine aTakeNot (i := 26) rfl (h := ?_)
     refine aTakeNot (i := 27) rfl (h := ?_)
     refine aTakeNot (i := 28) rfl (h := ?_)
     refine aTakeNot (i := 29) rfl (h := ?_)
     refine aTakeNot (i := 30) rfl (h := ?_)
     refine aTakeNot (i := 31) rfl (h := ?_)
     refine aTakeNot (i := 32) rfl (h := ?_)
     refine aTakeNot (i := 33) rfl (h := ?_)
     refine aP 34 (.d (.bool false)) rfl (p_pick (b := false)) ?_
     refine dDrop [62] [62] (T' := [(62, .d (.bool false))]) (U' := [(62, .d (.bool false))]) (h := ?_)
     refine dLv [34, 33, 32, 28, 31, 30, 29, 27, 26, 25, 24, 23, 22, 21, 16, 20, 19, 18, 17, 15, 14, 13, 12, 11, 10, 9, 4, 8, 7, 6, 5, 3, 2, 1, 0] (h1 := ?_)
     exact hj5 false
  ·refine dSplit 39 (h1 := fun hc => ?_) (h2 := fun hc => ?_)
   ·refine aQ 12 [1] (.agg [.d (.int .i64 r141), .d (.int .i64 r152), .d (.lit (List.map e_SPart r163))]) rfl (k_loadAgg 1 0 (hu := Try.underlying27) (hi := ty27)) ?_
    refine aQ 13 [2] (.agg [.d (.lit (List.map e_Li64 r153)), .d (.lit (List.map e_i64 r164))]) rfl (k_loadAgg 2 0 (hu := Try.underlying31) (hi := ty31)) ?_
    refine aP 14 (.d (.int .i64 r18)) rfl p_move ?_
    refine aP 15 (.d (.int .i64 (IntKind.wrap .i64 (r19 - 3)))) rfl p_move ?_
    refine aQ 17 [1] (.agg [.d (.int .i64 r141), .d (.int .i64 r152), .d (.lit (List.map e_SPart r163))]) rfl (k_loadAgg 1 0 (hu := Try.underlying27) (hi := ty27)) ?_
    refine aQ 18 [2] (.agg [.d (.lit (List.map e_Li64 r153)), .d (.lit (List.map e_i64 r164))]) rfl (k_loadAgg 2 0 (hu := Try.underlying31) (hi := ty31)) ?_
    refine aP 19 (.d (.int .i64 r18)) rfl p_move ?_
    refine aP 20 (.d (.int .i64 (IntKind.wrap .i64 (r19 - 3)))) rfl p_move ?_
    refine dCall (i := 16) (caps := []) (v := (fun (r131 : Bool) => (.d (.bool r131) : V))) (H' := (fun (r131 : Bool) => ([.box [.d (.lit (List.map e_i64 x7)), .d (.int .i64 x121)], .box [.d (.int .i64 r141), .d (.int .i64 r152), .d (.lit (List.map e_SPart r163))], .box [.d (.lit (List.map e_Li64 r153)), .d (.lit (List.map e_i64 r164))]] : List Blk))) [] _ (scheme_Permitted_goes k r141 r152 r163 r153 r164 r18 (IntKind.wrap .i64 (r19 - 3))) rfl (ho := rfl) (hfn := Try.func34) (hb := rfl) (hconv := ConvRs.refl _ _) (hnd := by decide) (hBl := fun _ => (by kernel_rfl)) (hv := fun _ => (by kernel_rfl)) (hH' := fun _ => (by kernel_rfl)) (h := fun r131 => ?_)
    refine dCall (i := 21) (caps := []) (v := (fun (r112 : Bool) => (.d (.bool r112) : V))) (H' := (fun (r112 : Bool) => ([.box [.d (.lit (List.map e_i64 x7)), .d (.int .i64 x121)], .box [.d (.int .i64 r141), .d (.int .i64 r152), .d (.lit (List.map e_SPart r163))], .box [.d (.lit (List.map e_Li64 r153)), .d (.lit (List.map e_i64 r164))]] : List Blk))) [] _ (ref23_Permitted_goes k r141 r152 r163 r153 r164 r18 (IntKind.wrap .i64 (r19 - 3))) rfl (ho := rfl) (hfn := Try.func35) (hb := rfl) (hconv := ConvRs.refl _ _) (hnd := by decide) (hBl := fun _ => (by kernel_rfl)) (hv := fun _ => (by kernel_rfl)) (hH' := fun _ => (by kernel_rfl)) (h := fun r112 => ?_)
    refine aP 22 (.d (.bool (r131 == r112))) rfl (p_boolEq (p := r131) (q := r112) (hu := Try.underlying4)) ?_
    refine aP 23 (.d (.bool (r131 == r112))) rfl (p_pick (b := true)) ?_
    refine dDrop [8, 9, 10, 51] [8, 9, 10, 51] (T' := [(8, .ptr 1 0), (9, .ptr 2 0), (10, .d (.lit (List.map e_i64 r165))), (51, .d (.bool (r131 == r112)))]) (U' := [(8, .ptr 1 0), (9, .ptr 2 0), (10, .d (.lit (List.map e_i64 r165))), (51, .d (.bool (r131 == r112)))]) (h := ?_)
    exact hj4 (r131 == r112)
   ·refine aTakeNot (i := 12) rfl (h := ?_)
    refine aTakeNot (i := 13) rfl (h := ?_)
    refine aTakeNot (i := 14) rfl (h := ?_)
    refine aTakeNot (i := 15) rfl (h := ?_)
    refine aTakeNot (i := 16) rfl (h := ?_)
    refine aTakeNot (i := 17) rfl (h := ?_)
    refine aTakeNot (i := 18) rfl (h := ?_)
    refine aTakeNot (i := 19) rfl (h := ?_)
    refine aTakeNot (i := 20) rfl (h := ?_)
    refine aTakeNot (i := 21) rfl (h := ?_)
    refine aTakeNot (i := 22) rfl (h := ?_)
    refine aP 23 (.d (.bool false)) rfl (p_pick (b := false)) ?_
    refine dDrop [8, 9, 10, 51] [8, 9, 10, 51] (T' := [(8, .ptr 1 0), (9, .ptr 2 0), (10, .d (.lit (List.map e_i64 r165))), (51, .d (.bool false))]) (U' := [(8, .ptr 1 0), (9, .ptr 2 0), (10, .d (.lit (List.map e_i64 r165))), (51, .d (.bool false))]) (h := ?_)
    refine dLv [23, 22, 21, 16, 20, 19, 18, 17, 15, 14, 13, 12, 11, 10, 9, 4, 8, 7, 6, 5, 3, 2, 1, 0] (h1 := ?_)
    exact hj4 false

end Go.VM
