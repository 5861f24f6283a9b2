/- Plain functions that answer as the program's functions do, and the proof that they do. -/
import Derived.Test.YtdpoilkjdfnadaaProg
import Derived.KernelRfl
import Derived.Test.YtdpoilkjdfnadaaEngDeepCM
import Derived.Test.YtdpoilkjdfnadaaWiFacts
import Derived.Test.YtdpoilkjdfnadaaWiFuns2
namespace Go.VM
open Go.Proofs
set_option linter.unusedVariables false
set_option linter.unusedSimpArgs false
set_option maxRecDepth 100000
/-- awardingbody/awardingbodyref23.Withdraw -/
def ref23_Withdraw (k : Nat) (p0 : Int) (p1 : Int) (p2 : (List SPart)) (s0 : (List (List Int))) (s1 : (List Int)) (part : Int) (kind : Int) : Option ((List (List Int)) × (List Int) × Int) := Option.bind (ref23_Valid k p0 p1 p2 s0 s1) (fun r14 => bif (!r14) then some ([], [], 1) else blet ((decide (part < 0)) || (decide (part ≥ ((List.length p2) : Int)))) fun x2 => bif x2 then some ([], [], 4) else blet ((decide (kind < 0)) || (decide (kind > 2))) fun x3 => bif x3 then some ([], [], 2) else gcap (List.length s1) 8 (gidx s1 part fun e11 => blet (List.set s1 (Int.toNat part) kind) fun xs1 => some (s0, xs1, 0)))
def ref23_Withdraw_E (p0 : Int) (p1 : Int) (p2 : (List SPart)) (s0 : (List (List Int))) (s1 : (List Int)) (part : Int) (kind : Int) : (List (List Int)) × (List Int) × Int → V × List Blk := uc fun r11 => uc fun r12 => fun r13 => (.tuple [.agg [.d (.lit (List.map e_Li64 r11)), .d (.lit (List.map e_i64 r12))], .d (.int .i64 r13)], [])
theorem ref23_Withdraw_goes (k : Nat) (p0 : Int) (p1 : Int) (p2 : (List SPart)) (s0 : (List (List Int))) (s1 : (List Int)) (part : Int) (kind : Int) : RunsO Try.prog 27 [.agg [.d (.int .i64 p0), .d (.int .i64 p1), .d (.lit (List.map e_SPart p2))], .agg [.d (.lit (List.map e_Li64 s0)), .d (.lit (List.map e_i64 s1))], .d (.int .i64 part), .d (.int .i64 kind)] [] (ref23_Withdraw_E p0 p1 p2 s0 s1 part kind) (ref23_Withdraw k p0 p1 p2 s0 s1 part kind) := by
  refine RunsO.of_goes (N := 45) (m := 0) (T := [(0, .agg [.d (.int .i64 p0), .d (.int .i64 p1), .d (.lit (List.map e_SPart p2))]), (1, .agg [.d (.lit (List.map e_Li64 s0)), .d (.lit (List.map e_i64 s1))]), (2, .d (.int .i64 part)), (3, .d (.int .i64 kind))]) Try.func27 rfl rfl (h := ?_)
  unfold ref23_Withdraw
  refine bStart ?_
  refine oSR rfl ?_
  refine oD (.ptr 0 0) (k_box (H' := [.box [.d (.int .i64 p0), .d (.int .i64 p1), .d (.lit (List.map e_SPart p2))]]) (cells := [.d (.int .i64 p0), .d (.int .i64 p1), .d (.lit (List.map e_SPart p2))])) ?_
  refine oD (.ptr 1 0) (k_box (H' := [.box [.d (.int .i64 p0), .d (.int .i64 p1), .d (.lit (List.map e_SPart p2))], .box [.d (.lit (List.map e_Li64 s0)), .d (.lit (List.map e_i64 s1))]]) (cells := [.d (.lit (List.map e_Li64 s0)), .d (.lit (List.map e_i64 s1))])) ?_
  refine oD (.ptr 2 0) (k_alloc (H' := [.box [.d (.int .i64 p0), .d (.int .i64 p1), .d (.lit (List.map e_SPart p2))], .box [.d (.lit (List.map e_Li64 s0)), .d (.lit (List.map e_i64 s1))], .box [.nilc, .nilc]]) ty31) ?_
  refine oP (.d (.int .i64 0)) p_assign ?_
  refine oEnd ?_
  refine oSeq ?_
  refine oSR rfl ?_
  refine oQ (.agg [.d (.int .i64 p0), .d (.int .i64 p1), .d (.lit (List.map e_SPart p2))]) (k_loadAgg 0 0 (hu := Try.underlying27) (hi := ty27)) ?_
  refine oQ (.agg [.d (.lit (List.map e_Li64 s0)), .d (.lit (List.map e_i64 s1))]) (k_loadAgg 1 0 (hu := Try.underlying31) (hi := ty31)) ?_
  refine bCall (caps := []) (v := (fun (r14 : Bool) => (.d (.bool r14) : V))) (H' := (fun (r14 : Bool) => ([.box [.d (.int .i64 p0), .d (.int .i64 p1), .d (.lit (List.map e_SPart p2))], .box [.d (.lit (List.map e_Li64 s0)), .d (.lit (List.map e_i64 s1))], .box [.nilc, .nilc]] : List Blk))) [] _ (ref23_Valid_goes k p0 p1 p2 s0 s1) (ho := rfl) (hfn := Try.func31) (hb := rfl) (hconv := ConvRs.refl _ _) (hnd := by decide) (hBl := fun _ => (by kernel_rfl)) (hv := fun _ => (by kernel_rfl)) (hH' := fun _ => (by kernel_rfl)) (h := fun r14 => ?_)
  refine oP (.d (.bool (!r14))) (p_not (p := r14)) ?_
  refine oEnd ?_
  refine bSplit 14 (h1 := fun hc => ?_) (h2 := fun hc => ?_)
  ·refine oCondT (h := ?_)
   refine oSR rfl ?_
   refine oP (.agg [.nilc, .nilc]) (p_build bld31) ?_
   refine oD (.undef) (k_store (vs := [.nilc, .nilc]) (H' := [.box [.d (.int .i64 p0), .d (.int .i64 p1), .d (.lit (List.map e_SPart p2))], .box [.d (.lit (List.map e_Li64 s0)), .d (.lit (List.map e_i64 s1))], .box [.nilc, .nilc]]) 2 0 (hi := ty31)) ?_
   refine oP (.d (.int .i64 1)) p_assign ?_
   refine oEnd ?_
   refine oConvB 2 (cells := [.nilc, .nilc]) (cells' := [.d (.lit (List.map e_Li64 [])), .d (.lit (List.map e_i64 []))]) (hc := .cons _ _ _ _ .nil (.cons _ _ _ _ .nil .nil)) (h := ?_)
   refine oView (H' := [.box [.d (.int .i64 p0), .d (.int .i64 p1), .d (.lit (List.map e_SPart p2))], .box [.d (.lit (List.map e_Li64 s0)), .d (.lit (List.map e_i64 s1))], .box [.d (.lit (List.map e_Li64 [])), .d (.lit (List.map e_i64 []))]]) rfl (h := ?_)
   exact oRet (r0 := ([], [], 1)) (rv := .tuple [.agg [.d (.lit (List.map e_Li64 [])), .d (.lit (List.map e_i64 []))], .d (.int .i64 1)]) (B := []) (vs := [.agg [.d (.lit (List.map e_Li64 [])), .d (.lit (List.map e_i64 []))], .d (.int .i64 1)]) (σ := []) (hf := Try.func27) (hrs := rfl) (hres := .cons _ _ _ _ (.agg 8 31 2 0 [.d (.lit (List.map e_Li64 [])), .d (.lit (List.map e_i64 []))] [.d (.lit (List.map e_Li64 [])), .d (.lit (List.map e_i64 []))] _ _ _ _ (by kernel_rfl) (by kernel_rfl) Try.underlying31 (by kernel_rfl) ty31 (by kernel_rfl) (by kernel_rfl)) (.cons _ _ _ _ (.tmp 9 _ (by kernel_rfl)) .nil)) (hnd := by decide)
  ·refine oCondF (h := ?_)
   refine oSkip ?_
   refine oSeq ?_
   refine oSR rfl ?_
   refine oP (.d (.int .i64 part)) p_move ?_
   refine oP (.d (.bool (decide (part < 0)))) (p_int (k := .i64) (p := part) (q := 0)) ?_
   refine oP (.d (.bool (decide (part < 0)))) p_move ?_
   refine bMeetF (H' := [.box [.d (.lit (List.map e_Li64 s0)), .d (.lit (List.map e_i64 s1))], .box [.nilc, .nilc]]) 6 rfl ((fun (x2 : Bool) => [(2, .d (.int .i64 part)), (3, .d (.int .i64 kind)), (5, .ptr 0 0), (8, .ptr 1 0), (24, .d (.bool x2))])) (fun x2 => ?_) (fun F hj1 => ?_)
   ·refine oView (T' := [(2, .d (.int .i64 part)), (3, .d (.int .i64 kind)), (5, .ptr 0 0), (8, .ptr 1 0), (24, .d (.bool x2))]) (H' := [.box [.d (.lit (List.map e_Li64 s0)), .d (.lit (List.map e_i64 s1))], .box [.nilc, .nilc]]) (h := ?_)
    refine oEnd ?_
    refine bSplit 24 (h1 := fun hc => ?_) (h2 := fun hc => ?_)
    ·refine oCondT (h := ?_)
     refine oSR rfl ?_
     refine oP (.agg [.nilc, .nilc]) (p_build bld31) ?_
     refine oD (.undef) (k_store (vs := [.nilc, .nilc]) (H' := [.box [.d (.lit (List.map e_Li64 s0)), .d (.lit (List.map e_i64 s1))], .box [.nilc, .nilc]]) 1 0 (hi := ty31)) ?_
     refine oP (.d (.int .i64 4)) p_assign ?_
     refine oEnd ?_
     refine oConvB 1 (cells := [.nilc, .nilc]) (cells' := [.d (.lit (List.map e_Li64 [])), .d (.lit (List.map e_i64 []))]) (hc := .cons _ _ _ _ .nil (.cons _ _ _ _ .nil .nil)) (h := ?_)
     refine oView (H' := [.box [.d (.lit (List.map e_Li64 s0)), .d (.lit (List.map e_i64 s1))], .box [.d (.lit (List.map e_Li64 [])), .d (.lit (List.map e_i64 []))]]) rfl (h := ?_)
     exact oRet (r0 := ([], [], 4)) (rv := .tuple [.agg [.d (.lit (List.map e_Li64 [])), .d (.lit (List.map e_i64 []))], .d (.int .i64 4)]) (B := []) (vs := [.agg [.d (.lit (List.map e_Li64 [])), .d (.lit (List.map e_i64 []))], .d (.int .i64 4)]) (σ := []) (hf := Try.func27) (hrs := rfl) (hres := .cons _ _ _ _ (.agg 8 31 1 0 [.d (.lit (List.map e_Li64 [])), .d (.lit (List.map e_i64 []))] [.d (.lit (List.map e_Li64 [])), .d (.lit (List.map e_i64 []))] _ _ _ _ (by kernel_rfl) (by kernel_rfl) Try.underlying31 (by kernel_rfl) ty31 (by kernel_rfl) (by kernel_rfl)) (.cons _ _ _ _ (.tmp 9 _ (by kernel_rfl)) .nil)) (hnd := by decide)
    ·refine oCondF (h := ?_)
     refine oSkip ?_
     refine oSeq ?_
     refine oSR rfl ?_
     refine oP (.d (.int .i64 kind)) p_move ?_
     refine oP (.d (.bool (decide (kind < 0)))) (p_int (k := .i64) (p := kind) (q := 0)) ?_
     refine oP (.d (.bool (decide (kind < 0)))) p_move ?_
     refine bMeetF (H' := [.box [.d (.lit (List.map e_Li64 s0)), .d (.lit (List.map e_i64 s1))], .box [.nilc, .nilc]]) 3 rfl ((fun (x3 : Bool) => [(2, .d (.int .i64 part)), (3, .d (.int .i64 kind)), (5, .ptr 0 0), (8, .ptr 1 0), (31, .d (.bool x3))])) (fun x3 => ?_) (fun F hj2 => ?_)
     ·refine oView (T' := [(2, .d (.int .i64 part)), (3, .d (.int .i64 kind)), (5, .ptr 0 0), (8, .ptr 1 0), (31, .d (.bool x3))]) (H' := [.box [.d (.lit (List.map e_Li64 s0)), .d (.lit (List.map e_i64 s1))], .box [.nilc, .nilc]]) (h := ?_)
      refine oEnd ?_
      refine bSplit 31 (h1 := fun hc => ?_) (h2 := fun hc => ?_)
      ·refine oCondT (h := ?_)
       refine oSR rfl ?_
       refine oP (.agg [.nilc, .nilc]) (p_build bld31) ?_
       refine oD (.undef) (k_store (vs := [.nilc, .nilc]) (H' := [.box [.d (.lit (List.map e_Li64 s0)), .d (.lit (List.map e_i64 s1))], .box [.nilc, .nilc]]) 1 0 (hi := ty31)) ?_
       refine oP (.d (.int .i64 2)) p_assign ?_
       refine oEnd ?_
       refine oConvB 1 (cells := [.nilc, .nilc]) (cells' := [.d (.lit (List.map e_Li64 [])), .d (.lit (List.map e_i64 []))]) (hc := .cons _ _ _ _ .nil (.cons _ _ _ _ .nil .nil)) (h := ?_)
       refine oView (H' := [.box [.d (.lit (List.map e_Li64 s0)), .d (.lit (List.map e_i64 s1))], .box [.d (.lit (List.map e_Li64 [])), .d (.lit (List.map e_i64 []))]]) rfl (h := ?_)
       exact oRet (r0 := ([], [], 2)) (rv := .tuple [.agg [.d (.lit (List.map e_Li64 [])), .d (.lit (List.map e_i64 []))], .d (.int .i64 2)]) (B := []) (vs := [.agg [.d (.lit (List.map e_Li64 [])), .d (.lit (List.map e_i64 []))], .d (.int .i64 2)]) (σ := []) (hf := Try.func27) (hrs := rfl) (hres := .cons _ _ _ _ (.agg 8 31 1 0 [.d (.lit (List.map e_Li64 [])), .d (.lit (List.map e_i64 []))] [.d (.lit (List.map e_Li64 [])), .d (.lit (List.map e_i64 []))] _ _ _ _ (by kernel_rfl) (by kernel_rfl) Try.underlying31 (by kernel_rfl) ty31 (by kernel_rfl) (by kernel_rfl)) (.cons _ _ _ _ (.tmp 9 _ (by kernel_rfl)) .nil)) (hnd := by decide)
      ·refine oCondF (h := ?_)
       refine oSkip ?_
       refine oSR rfl ?_
       refine oP (.nilc) p_assign ?_
       refine oEnd ?_
       refine oSR rfl ?_
       refine oP (.nilc) p_move ?_
       refine oP (.ptr 0 1) (k_fieldAddr 0 0 (hu := Try.underlying31) (hf := rfl) (hi := ty22)) ?_
       refine oQ (.d (.lit (List.map e_i64 s1))) (k_load 0 1 (hu := Try.underlying22)) ?_
       refine bCap (fun h13 => ?_)
       refine oD (.ref 2 (List.length s1) 0 (List.length s1)) (k_appendNil (H' := [.box [.d (.lit (List.map e_Li64 s0)), .d (.lit (List.map e_i64 s1))], .box [.nilc, .nilc], .sl 1 (List.map e_i64 s1) false]) (enc := e_i64) s1 Try.underlying22 Try.underlying22 ty3 (hy := holdsLit e_i64_len s1) (hfit := h13)) ?_
       refine oP (.ref 2 (List.length s1) 0 (List.length s1)) p_assign ?_
       refine oEnd ?_
       refine oSR rfl ?_
       refine oP (.ref 2 (List.length s1) 0 (List.length s1)) p_move ?_
       refine oP (.d (.int .i64 part)) p_move ?_
       refine oP (.d (.int .i64 kind)) p_move ?_
       refine bIdx (fun e11 h14 h15 => ?_)
       refine oP (.eptr 2 (List.length s1) (Int.toNat part) 0) (k_idxRef (enc := e_i64) (fro := false) s1 (a := e11) (k := .i64) (i := part) (hu := Try.underlying22) (hi := ty3) (h0 := h14) (he := h15)) ?_
       refine bSet _ (fun xs1 hs1 => ?_)
       refine oD (.undef) (k_storeE (H' := [.box [.d (.lit (List.map e_Li64 s0)), .d (.lit (List.map e_i64 s1))], .box [.nilc, .nilc], .sl 1 (List.map e_i64 xs1) false]) 2 0 s1 kind [(.int .i64 kind)] e_i64_len (he := h15) (hi := ty3) (hxs := hs1)) ?_
       refine oHead [5, 8, 10] [0, 1, 2] (T' := [(5, .ptr 0 0), (8, .ptr 1 0), (10, .ref 2 (List.length s1) 0 (List.length s1))]) (H' := [.box [.d (.lit (List.map e_Li64 s0)), .d (.lit (List.map e_i64 s1))], .box [.nilc, .nilc], .sl 1 (List.map e_i64 xs1) false]) (hnd := by decide) (h := ?_)
       refine oView (T' := [(5, .ptr 0 0), (8, .ptr 1 0), (10, .ref 2 (List.length xs1) 0 (List.length xs1))]) (H' := [.box [.d (.lit (List.map e_Li64 s0)), .d (.lit (List.map e_i64 s1))], .box [.nilc, .nilc], .sl 1 (List.map e_i64 xs1) false]) (by first | rw [(set_len hs1)] | rfl) (by first | rw [(set_len hs1)] | rfl) ?_
       refine oEnd ?_
       refine oSR rfl ?_
       refine oP (.ptr 0 0) (k_fieldAddr 0 0 (hu := Try.underlying31) (hf := rfl) (hi := ty29)) ?_
       refine oQ (.d (.lit (List.map e_Li64 s0))) (k_load 0 0 (hu := Try.underlying29)) ?_
       refine oP (.ref 2 (List.length xs1) 0 (List.length xs1)) p_move ?_
       refine oP (.agg [.d (.lit (List.map e_Li64 s0)), .ref 2 (List.length xs1) 0 (List.length xs1)]) (p_build bld31) ?_
       refine oD (.undef) (k_store (vs := [.d (.lit (List.map e_Li64 s0)), .ref 2 (List.length xs1) 0 (List.length xs1)]) (H' := [.box [.d (.lit (List.map e_Li64 s0)), .d (.lit (List.map e_i64 s1))], .box [.d (.lit (List.map e_Li64 s0)), .ref 2 (List.length xs1) 0 (List.length xs1)], .sl 1 (List.map e_i64 xs1) false]) 1 0 (hi := ty31)) ?_
       refine oP (.d (.int .i64 0)) p_assign ?_
       refine oEnd ?_
       refine oFreeze 2 (esz := 1) (xs := List.map e_i64 xs1) (h := ?_)
       refine oView (H' := [.box [.d (.lit (List.map e_Li64 s0)), .d (.lit (List.map e_i64 s1))], .box [.d (.lit (List.map e_Li64 s0)), .ref 2 (List.length xs1) 0 (List.length xs1)], .sl 1 (List.map e_i64 xs1) true]) rfl (h := ?_)
       refine oConvB 1 (cells := [.d (.lit (List.map e_Li64 s0)), .ref 2 (List.length xs1) 0 (List.length xs1)]) (cells' := [.d (.lit (List.map e_Li64 s0)), .d (.lit (List.map e_i64 xs1))]) (hc := .cons _ _ _ _ (.same _) (.cons _ _ _ _ (k_lit (enc := e_i64) (sz := 1) 2 xs1) .nil)) (h := ?_)
       refine oView (H' := [.box [.d (.lit (List.map e_Li64 s0)), .d (.lit (List.map e_i64 s1))], .box [.d (.lit (List.map e_Li64 s0)), .d (.lit (List.map e_i64 xs1))], .sl 1 (List.map e_i64 xs1) true]) rfl (h := ?_)
       exact oRet (r0 := (s0, xs1, 0)) (rv := .tuple [.agg [.d (.lit (List.map e_Li64 s0)), .d (.lit (List.map e_i64 xs1))], .d (.int .i64 0)]) (B := []) (vs := [.agg [.d (.lit (List.map e_Li64 s0)), .d (.lit (List.map e_i64 xs1))], .d (.int .i64 0)]) (σ := []) (hf := Try.func27) (hrs := rfl) (hres := .cons _ _ _ _ (.agg 8 31 1 0 [.d (.lit (List.map e_Li64 s0)), .d (.lit (List.map e_i64 xs1))] [.d (.lit (List.map e_Li64 s0)), .d (.lit (List.map e_i64 xs1))] _ _ _ _ (by kernel_rfl) (by kernel_rfl) Try.underlying31 (by kernel_rfl) ty31 (by kernel_rfl) (by kernel_rfl)) (.cons _ _ _ _ (.tmp 9 _ (by kernel_rfl)) .nil)) (hnd := by decide)
     ·refine bPickF 28 (fun c => F (c || (decide (kind > 2)))) (h1 := fun hc => ?_) (h2 := fun hc => ?_)
      ·refine oNot (h := ?_)
       refine oNot (h := ?_)
       refine oP (.d (.bool true)) (p_pick (b := true)) ?_
       refine oHead [2, 3, 5, 8, 31] [0, 1] (T' := [(2, .d (.int .i64 part)), (3, .d (.int .i64 kind)), (5, .ptr 0 0), (8, .ptr 1 0), (31, .d (.bool true))]) (H' := [.box [.d (.lit (List.map e_Li64 s0)), .d (.lit (List.map e_i64 s1))], .box [.nilc, .nilc]]) (hnd := by decide) (h := ?_)
       exact hj2 true
      ·refine oP (.d (.int .i64 kind)) p_move ?_
       refine oP (.d (.bool (decide (kind > 2)))) (p_int (k := .i64) (p := kind) (q := 2)) ?_
       refine oP (.d (.bool (decide (kind > 2)))) (p_pick (b := false)) ?_
       refine oHead [2, 3, 5, 8, 31] [0, 1] (T' := [(2, .d (.int .i64 part)), (3, .d (.int .i64 kind)), (5, .ptr 0 0), (8, .ptr 1 0), (31, .d (.bool (decide (kind > 2))))]) (H' := [.box [.d (.lit (List.map e_Li64 s0)), .d (.lit (List.map e_i64 s1))], .box [.nilc, .nilc]]) (hnd := by decide) (h := ?_)
       exact hj2 (decide (kind > 2))
   ·refine bPickF 18 (fun c => F (c || (decide (part ≥ ((List.length p2) : Int))))) (h1 := fun hc => ?_) (h2 := fun hc => ?_)
    ·refine oNot (h := ?_)
     refine oNot (h := ?_)
     refine oNot (h := ?_)
     refine oNot (h := ?_)
     refine oNot (h := ?_)
     refine oP (.d (.bool true)) (p_pick (b := true)) ?_
     refine oHead [2, 3, 5, 8, 24] [1, 2] (T' := [(2, .d (.int .i64 part)), (3, .d (.int .i64 kind)), (5, .ptr 0 0), (8, .ptr 1 0), (24, .d (.bool true))]) (H' := [.box [.d (.lit (List.map e_Li64 s0)), .d (.lit (List.map e_i64 s1))], .box [.nilc, .nilc]]) (hnd := by decide) (h := ?_)
     exact hj1 true
    ·refine oP (.d (.int .i64 part)) p_move ?_
     refine oP (.ptr 0 2) (k_fieldAddr 0 0 (hu := Try.underlying27) (hf := rfl) (hi := ty25)) ?_
     refine oQ (.d (.lit (List.map e_SPart p2))) (k_load 0 2 (hu := Try.underlying25)) ?_
     refine oP (.d (.int .i64 ((List.length p2) : Int))) (k_lenLit (enc := e_SPart) p2 (hu := Try.underlying25)) ?_
     refine oP (.d (.bool (decide (part ≥ ((List.length p2) : Int))))) (p_int (k := .i64) (p := part) (q := ((List.length p2) : Int))) ?_
     refine oP (.d (.bool (decide (part ≥ ((List.length p2) : Int))))) (p_pick (b := false)) ?_
     refine oHead [2, 3, 5, 8, 24] [1, 2] (T' := [(2, .d (.int .i64 part)), (3, .d (.int .i64 kind)), (5, .ptr 0 0), (8, .ptr 1 0), (24, .d (.bool (decide (part ≥ ((List.length p2) : Int)))))]) (H' := [.box [.d (.lit (List.map e_Li64 s0)), .d (.lit (List.map e_i64 s1))], .box [.nilc, .nilc]]) (hnd := by decide) (h := ?_)
     exact hj1 (decide (part ≥ ((List.length p2) : Int)))

/-- awardingbody/awardingbodyref06.Ints -/
def ref06_Ints_b1 (k : Nat) (a : (List Int)) (b : (List Int)) (again : Int → Option ((Unit) ⊕ (Bool))) : Int → Option ((Unit) ⊕ (Bool)) := fun i4 => bif (decide (i4 < ((List.length a) : Int))) then gidx a i4 fun e1 => gidx b i4 fun e11 => bif (e1 != e11) then some (Sum.inr false) else again (IntKind.wrap .i64 (i4 + 1)) else some (Sum.inl ())
def ref06_Ints (k : Nat) (a : (List Int)) (b : (List Int)) : Option (Bool) := bif (((List.length a) : Int) != ((List.length b) : Int)) then some false else Option.bind (gloop (ref06_Ints_b1 k a b) k 0 : Option ((Unit) ⊕ (Bool))) (Sum.elim (u0 (some true)) (fun r => some r))
def ref06_Ints_E (a : (List Int)) (b : (List Int)) : Bool → V × List Blk := fun r1 => (.d (.bool r1), [])
theorem ref06_Ints_goes (k : Nat) (a : (List Int)) (b : (List Int)) : RunsO Try.prog 18 [.d (.lit (List.map e_i64 a)), .d (.lit (List.map e_i64 b))] [] (ref06_Ints_E a b) (ref06_Ints k a b) := by
  refine RunsO.of_goes (N := 26) (m := 0) (T := [(0, .d (.lit (List.map e_i64 a))), (1, .d (.lit (List.map e_i64 b)))]) Try.func18 rfl rfl (h := ?_)
  unfold ref06_Ints
  refine bStart ?_
  refine oSR rfl ?_
  refine oP (.d (.bool false)) p_assign ?_
  refine oEnd ?_
  refine oSeq ?_
  refine oSR rfl ?_
  refine oP (.d (.lit (List.map e_i64 a))) p_move ?_
  refine oP (.d (.int .i64 ((List.length a) : Int))) (k_lenLit (enc := e_i64) a (hu := Try.underlying22)) ?_
  refine oP (.d (.lit (List.map e_i64 b))) p_move ?_
  refine oP (.d (.int .i64 ((List.length b) : Int))) (k_lenLit (enc := e_i64) b (hu := Try.underlying22)) ?_
  refine oP (.d (.bool (((List.length a) : Int) != ((List.length b) : Int)))) (p_int (k := .i64) (p := ((List.length a) : Int)) (q := ((List.length b) : Int))) ?_
  refine oEnd ?_
  refine bSplit 10 (h1 := fun hc => ?_) (h2 := fun hc => ?_)
  ·refine oCondT (h := ?_)
   refine oSR rfl ?_
   refine oP (.d (.bool false)) p_assign ?_
   refine oEnd ?_
   exact oRet (r0 := false) (rv := .d (.bool false)) (B := []) (vs := [.d (.bool false)]) (σ := []) (hf := Try.func18) (hrs := rfl) (hres := .cons _ _ _ _ (.tmp 4 _ (by kernel_rfl)) .nil) (hnd := by decide)
  ·refine oCondF (h := ?_)
   refine oSkip ?_
   refine oSeq ?_
   refine oSR rfl ?_
   refine oP (.d (.int .i64 0)) p_assign ?_
   refine oEnd ?_
   refine bJoin ((u0 ([]))) ((u0 ([]))) Sum.inl (fun s => ?_) (fun hj2 => ?_)
   ·cases s
    refine bInl ?_
    refine bU0 ?_
    refine oView (T' := []) (H' := []) (h := ?_)
    refine oSR rfl ?_
    refine oP (.d (.bool true)) p_assign ?_
    refine oEnd ?_
    exact oRet (r0 := true) (rv := .d (.bool true)) (B := []) (vs := [.d (.bool true)]) (σ := []) (hf := Try.func18) (hrs := rfl) (hres := .cons _ _ _ _ (.tmp 4 _ (by kernel_rfl)) .nil) (hnd := by decide)
   ·refine oBlock ?_
    refine oLoop ?_
    refine oHead [0, 1, 5] [] (T' := [(0, .d (.lit (List.map e_i64 a))), (1, .d (.lit (List.map e_i64 b))), (5, .d (.int .i64 0))]) (H' := []) (hnd := by decide) (h := ?_)
    refine bLoop (body := ref06_Ints_b1 k a b) ((fun (i4 : Int) => [(0, .d (.lit (List.map e_i64 a))), (1, .d (.lit (List.map e_i64 b))), (5, .d (.int .i64 i4))])) ((fun (i4 : Int) => [])) (fun again hag1 i4 => ?_) k 0
    ·unfold ref06_Ints_b1
     refine oView (T' := [(0, .d (.lit (List.map e_i64 a))), (1, .d (.lit (List.map e_i64 b))), (5, .d (.int .i64 i4))]) (H' := []) (h := ?_)
     refine oSeq ?_
     refine oSR rfl ?_
     refine oP (.d (.int .i64 i4)) p_move ?_
     refine oP (.d (.lit (List.map e_i64 a))) p_move ?_
     refine oP (.d (.int .i64 ((List.length a) : Int))) (k_lenLit (enc := e_i64) a (hu := Try.underlying22)) ?_
     refine oP (.d (.bool (decide (i4 < ((List.length a) : Int))))) (p_int (k := .i64) (p := i4) (q := ((List.length a) : Int))) ?_
     refine oEnd ?_
     refine bSplit 14 (h1 := fun hc => ?_) (h2 := fun hc => ?_)
     ·refine oCondT (h := ?_)
      refine oSkip ?_
      refine oSeq ?_
      refine oBlock ?_
      refine oSeq ?_
      refine oDraw [] rfl ?_
      refine aP 0 (.d (.lit (List.map e_i64 a))) rfl p_move ?_
      refine aP 1 (.d (.int .i64 i4)) rfl p_move ?_
      refine dIdx (fun e1 h1 h11 => ?_)
      refine aP 2 (.lptr (e_i64 e1) 0) rfl (k_idxLit e_i64_len a (a := e1) (k := .i64) (i := i4) (hu := Try.underlying22) (hi := ty3) (h0 := h1) (he := h11)) ?_
      refine aQ 3 [] (.d (.int .i64 e1)) rfl (k_loadL (cells := e_i64 e1) 0 (hu := Try.underlying3)) ?_
      refine aP 4 (.d (.lit (List.map e_i64 b))) rfl p_move ?_
      refine aP 5 (.d (.int .i64 i4)) rfl p_move ?_
      refine dIdx (fun e11 h12 h13 => ?_)
      refine aP 6 (.lptr (e_i64 e11) 0) rfl (k_idxLit e_i64_len b (a := e11) (k := .i64) (i := i4) (hu := Try.underlying22) (hi := ty3) (h0 := h12) (he := h13)) ?_
      refine aQ 7 [] (.d (.int .i64 e11)) rfl (k_loadL (cells := e_i64 e11) 0 (hu := Try.underlying3)) ?_
      refine aP 8 (.d (.bool (e1 != e11))) rfl (p_int (k := .i64) (p := e1) (q := e11)) ?_
      refine aDone (h := ?_)
      refine bSplit 25 (h1 := fun hc => ?_) (h2 := fun hc => ?_)
      ·refine oCondT (h := ?_)
       refine oSR rfl ?_
       refine oP (.d (.bool false)) p_assign ?_
       refine oEnd ?_
       exact oRet (r0 := false) (rv := .d (.bool false)) (B := []) (vs := [.d (.bool false)]) (σ := []) (hf := Try.func18) (hrs := rfl) (hres := .cons _ _ _ _ (.tmp 4 _ (by kernel_rfl)) .nil) (hnd := by decide)
      ·refine oCondF (h := ?_)
       refine oSkip ?_
       refine oBlk ?_
       refine oRegion rfl ?_
       refine oP (.d (.int .i64 i4)) p_move ?_
       refine oP (.d (.int .i64 (IntKind.wrap .i64 (i4 + 1)))) (p_int (k := .i64) (p := i4) (q := 1)) ?_
       refine oP (.d (.int .i64 (IntKind.wrap .i64 (i4 + 1)))) p_assign ?_
       refine oEnd ?_
       refine oAgain ?_
       refine oHead [0, 1, 5] [] (T' := [(0, .d (.lit (List.map e_i64 a))), (1, .d (.lit (List.map e_i64 b))), (5, .d (.int .i64 (IntKind.wrap .i64 (i4 + 1))))]) (H' := []) (hnd := by decide) (h := ?_)
       exact hag1 (IntKind.wrap .i64 (i4 + 1))
     ·refine oCondF (h := ?_)
      refine oExit rfl ?_
      refine oHead [] [] (T' := []) (H' := []) (hnd := by decide) (h := ?_)
      exact hj2 ()

/-- awardingbody/awardingbodylaw23.same -/
def law23_same_b1 (k : Nat) (a0 : (List (List Int))) (b0 : (List (List Int))) (again : Int → Option ((Unit) ⊕ (Bool))) : Int → Option ((Unit) ⊕ (Bool)) := fun i4 => bif (decide (i4 < ((List.length a0) : Int))) then gidx a0 i4 fun e1 => gidx b0 i4 fun e11 => Option.bind (ref06_Ints k e1 e11) (fun r11 => bif (!r11) then some (Sum.inr false) else again (IntKind.wrap .i64 (i4 + 1))) else some (Sum.inl ())
def law23_same (k : Nat) (a0 : (List (List Int))) (a1 : (List Int)) (b0 : (List (List Int))) (b1 : (List Int)) : Option (Bool) := Option.bind (bif (((List.length a0) : Int) != ((List.length b0) : Int)) then some true else Option.bind (ref06_Ints k a1 b1) (fun r14 => some (!r14)) : Option (Bool)) (fun x1 => bif x1 then some false else Option.bind (gloop (law23_same_b1 k a0 b0) k 0 : Option ((Unit) ⊕ (Bool))) (Sum.elim (u0 (some true)) (fun r => some r)))
def law23_same_E (a0 : (List (List Int))) (a1 : (List Int)) (b0 : (List (List Int))) (b1 : (List Int)) : Bool → V × List Blk := fun r12 => (.d (.bool r12), [])
theorem law23_same_goes (k : Nat) (a0 : (List (List Int))) (a1 : (List Int)) (b0 : (List (List Int))) (b1 : (List Int)) : RunsO Try.prog 28 [.agg [.d (.lit (List.map e_Li64 a0)), .d (.lit (List.map e_i64 a1))], .agg [.d (.lit (List.map e_Li64 b0)), .d (.lit (List.map e_i64 b1))]] [] (law23_same_E a0 a1 b0 b1) (law23_same k a0 a1 b0 b1) := by
  refine RunsO.of_goes (N := 40) (m := 0) (T := [(0, .agg [.d (.lit (List.map e_Li64 a0)), .d (.lit (List.map e_i64 a1))]), (1, .agg [.d (.lit (List.map e_Li64 b0)), .d (.lit (List.map e_i64 b1))])]) Try.func28 rfl rfl (h := ?_)
  unfold law23_same
  refine bStart ?_
  refine oSR rfl ?_
  refine oD (.ptr 0 0) (k_box (H' := [.box [.d (.lit (List.map e_Li64 a0)), .d (.lit (List.map e_i64 a1))]]) (cells := [.d (.lit (List.map e_Li64 a0)), .d (.lit (List.map e_i64 a1))])) ?_
  refine oD (.ptr 1 0) (k_box (H' := [.box [.d (.lit (List.map e_Li64 a0)), .d (.lit (List.map e_i64 a1))], .box [.d (.lit (List.map e_Li64 b0)), .d (.lit (List.map e_i64 b1))]]) (cells := [.d (.lit (List.map e_Li64 b0)), .d (.lit (List.map e_i64 b1))])) ?_
  refine oP (.d (.bool false)) p_assign ?_
  refine oEnd ?_
  refine oSeq ?_
  refine oSR rfl ?_
  refine oP (.ptr 0 0) (k_fieldAddr 0 0 (hu := Try.underlying31) (hf := rfl) (hi := ty29)) ?_
  refine oQ (.d (.lit (List.map e_Li64 a0))) (k_load 0 0 (hu := Try.underlying29)) ?_
  refine oP (.d (.int .i64 ((List.length a0) : Int))) (k_lenLit (enc := e_Li64) a0 (hu := Try.underlying29)) ?_
  refine oP (.ptr 1 0) (k_fieldAddr 1 0 (hu := Try.underlying31) (hf := rfl) (hi := ty29)) ?_
  refine oQ (.d (.lit (List.map e_Li64 b0))) (k_load 1 0 (hu := Try.underlying29)) ?_
  refine oP (.d (.int .i64 ((List.length b0) : Int))) (k_lenLit (enc := e_Li64) b0 (hu := Try.underlying29)) ?_
  refine oP (.d (.bool (((List.length a0) : Int) != ((List.length b0) : Int)))) (p_int (k := .i64) (p := ((List.length a0) : Int)) (q := ((List.length b0) : Int))) ?_
  refine oP (.d (.bool (((List.length a0) : Int) != ((List.length b0) : Int)))) p_move ?_
  refine bMeet 7 rfl ((fun (x1 : Bool) => [(2, .ptr 0 0), (3, .ptr 1 0), (20, .d (.bool x1))])) ((fun (x1 : Bool) => [.box [.d (.lit (List.map e_Li64 a0)), .d (.lit (List.map e_i64 a1))], .box [.d (.lit (List.map e_Li64 b0)), .d (.lit (List.map e_i64 b1))]])) (fun s => s) (fun x1 => ?_) (fun hj3 => ?_)
  ·refine oView (T' := [(2, .ptr 0 0), (3, .ptr 1 0), (20, .d (.bool x1))]) (H' := [.box [.d (.lit (List.map e_Li64 a0)), .d (.lit (List.map e_i64 a1))], .box [.d (.lit (List.map e_Li64 b0)), .d (.lit (List.map e_i64 b1))]]) (h := ?_)
   refine oEnd ?_
   refine bSplit 20 (h1 := fun hc => ?_) (h2 := fun hc => ?_)
   ·refine oCondT (h := ?_)
    refine oSR rfl ?_
    refine oP (.d (.bool false)) p_assign ?_
    refine oEnd ?_
    exact oRet (r0 := false) (rv := .d (.bool false)) (B := []) (vs := [.d (.bool false)]) (σ := []) (hf := Try.func28) (hrs := rfl) (hres := .cons _ _ _ _ (.tmp 4 _ (by kernel_rfl)) .nil) (hnd := by decide)
   ·refine oCondF (h := ?_)
    refine oSkip ?_
    refine oSeq ?_
    refine oSR rfl ?_
    refine oP (.d (.int .i64 0)) p_assign ?_
    refine oEnd ?_
    refine bJoin ((u0 ([]))) ((u0 ([]))) Sum.inl (fun s => ?_) (fun hj2 => ?_)
    ·cases s
     refine bInl ?_
     refine bU0 ?_
     refine oView (T' := []) (H' := []) (h := ?_)
     refine oSR rfl ?_
     refine oP (.d (.bool true)) p_assign ?_
     refine oEnd ?_
     exact oRet (r0 := true) (rv := .d (.bool true)) (B := []) (vs := [.d (.bool true)]) (σ := []) (hf := Try.func28) (hrs := rfl) (hres := .cons _ _ _ _ (.tmp 4 _ (by kernel_rfl)) .nil) (hnd := by decide)
    ·refine oBlock ?_
     refine oLoop ?_
     refine oHead [2, 3, 5] [0, 1] (T' := [(2, .ptr 0 0), (3, .ptr 1 0), (5, .d (.int .i64 0))]) (H' := [.box [.d (.lit (List.map e_Li64 a0)), .d (.lit (List.map e_i64 a1))], .box [.d (.lit (List.map e_Li64 b0)), .d (.lit (List.map e_i64 b1))]]) (hnd := by decide) (h := ?_)
     refine bLoop (body := law23_same_b1 k a0 b0) ((fun (i4 : Int) => [(2, .ptr 0 0), (3, .ptr 1 0), (5, .d (.int .i64 i4))])) ((fun (i4 : Int) => [.box [.d (.lit (List.map e_Li64 a0)), .d (.lit (List.map e_i64 a1))], .box [.d (.lit (List.map e_Li64 b0)), .d (.lit (List.map e_i64 b1))]])) (fun again hag1 i4 => ?_) k 0
     ·unfold law23_same_b1
      refine oView (T' := [(2, .ptr 0 0), (3, .ptr 1 0), (5, .d (.int .i64 i4))]) (H' := [.box [.d (.lit (List.map e_Li64 a0)), .d (.lit (List.map e_i64 a1))], .box [.d (.lit (List.map e_Li64 b0)), .d (.lit (List.map e_i64 b1))]]) (h := ?_)
      refine oSeq ?_
      refine oSR rfl ?_
      refine oP (.d (.int .i64 i4)) p_move ?_
      refine oP (.ptr 0 0) (k_fieldAddr 0 0 (hu := Try.underlying31) (hf := rfl) (hi := ty29)) ?_
      refine oQ (.d (.lit (List.map e_Li64 a0))) (k_load 0 0 (hu := Try.underlying29)) ?_
      refine oP (.d (.int .i64 ((List.length a0) : Int))) (k_lenLit (enc := e_Li64) a0 (hu := Try.underlying29)) ?_
      refine oP (.d (.bool (decide (i4 < ((List.length a0) : Int))))) (p_int (k := .i64) (p := i4) (q := ((List.length a0) : Int))) ?_
      refine oEnd ?_
      refine bSplit 25 (h1 := fun hc => ?_) (h2 := fun hc => ?_)
      ·refine oCondT (h := ?_)
       refine oSkip ?_
       refine oSeq ?_
       refine oBlock ?_
       refine oSeq ?_
       refine oDraw [(0, 12), (1, 12)] rfl ?_
       refine aP 0 (.ptr 0 0) rfl (k_fieldAddr 0 0 (hu := Try.underlying31) (hf := rfl) (hi := ty29)) ?_
       refine aQ 1 [0] (.d (.lit (List.map e_Li64 a0))) rfl (k_load 0 0 (hu := Try.underlying29)) ?_
       refine aP 2 (.d (.int .i64 i4)) rfl p_move ?_
       refine dIdx (fun e1 h1 h11 => ?_)
       refine aP 3 (.lptr (e_Li64 e1) 0) rfl (k_idxLit e_Li64_len a0 (a := e1) (k := .i64) (i := i4) (hu := Try.underlying29) (hi := ty22) (h0 := h1) (he := h11)) ?_
       refine aQ 4 [] (.d (.lit (List.map e_i64 e1))) rfl (k_loadL (cells := e_Li64 e1) 0 (hu := Try.underlying22)) ?_
       refine aP 5 (.ptr 1 0) rfl (k_fieldAddr 1 0 (hu := Try.underlying31) (hf := rfl) (hi := ty29)) ?_
       refine aQ 6 [1] (.d (.lit (List.map e_Li64 b0))) rfl (k_load 1 0 (hu := Try.underlying29)) ?_
       refine aP 7 (.d (.int .i64 i4)) rfl p_move ?_
       refine dIdx (fun e11 h12 h13 => ?_)
       refine aP 8 (.lptr (e_Li64 e11) 0) rfl (k_idxLit e_Li64_len b0 (a := e11) (k := .i64) (i := i4) (hu := Try.underlying29) (hi := ty22) (h0 := h12) (he := h13)) ?_
       refine aQ 9 [] (.d (.lit (List.map e_i64 e11))) rfl (k_loadL (cells := e_Li64 e11) 0 (hu := Try.underlying22)) ?_
       refine dCall (i := 10) (caps := []) (v := (fun (r11 : Bool) => (.d (.bool r11) : V))) (H' := (fun (r11 : Bool) => ([.box [.d (.lit (List.map e_Li64 a0)), .d (.lit (List.map e_i64 a1))], .box [.d (.lit (List.map e_Li64 b0)), .d (.lit (List.map e_i64 b1))]] : List Blk))) [] _ (ref06_Ints_goes k e1 e11) rfl (ho := rfl) (hfn := Try.func18) (hb := rfl) (hconv := ConvRs.refl _ _) (hnd := by decide) (hBl := fun _ => (by kernel_rfl)) (hv := fun _ => (by kernel_rfl)) (hH' := fun _ => (by kernel_rfl)) (h := fun r11 => ?_)
       refine aP 11 (.d (.bool (!r11))) rfl (p_not (p := r11)) ?_
       refine aDone (h := ?_)
       refine bSplit 39 (h1 := fun hc => ?_) (h2 := fun hc => ?_)
       ·refine oCondT (h := ?_)
        refine oSR rfl ?_
        refine oP (.d (.bool false)) p_assign ?_
        refine oEnd ?_
        exact oRet (r0 := false) (rv := .d (.bool false)) (B := []) (vs := [.d (.bool false)]) (σ := []) (hf := Try.func28) (hrs := rfl) (hres := .cons _ _ _ _ (.tmp 4 _ (by kernel_rfl)) .nil) (hnd := by decide)
       ·refine oCondF (h := ?_)
        refine oSkip ?_
        refine oBlk ?_
        refine oRegion rfl ?_
        refine oP (.d (.int .i64 i4)) p_move ?_
        refine oP (.d (.int .i64 (IntKind.wrap .i64 (i4 + 1)))) (p_int (k := .i64) (p := i4) (q := 1)) ?_
        refine oP (.d (.int .i64 (IntKind.wrap .i64 (i4 + 1)))) p_assign ?_
        refine oEnd ?_
        refine oAgain ?_
        refine oHead [2, 3, 5] [0, 1] (T' := [(2, .ptr 0 0), (3, .ptr 1 0), (5, .d (.int .i64 (IntKind.wrap .i64 (i4 + 1))))]) (H' := [.box [.d (.lit (List.map e_Li64 a0)), .d (.lit (List.map e_i64 a1))], .box [.d (.lit (List.map e_Li64 b0)), .d (.lit (List.map e_i64 b1))]]) (hnd := by decide) (h := ?_)
        exact hag1 (IntKind.wrap .i64 (i4 + 1))
      ·refine oCondF (h := ?_)
       refine oExit rfl ?_
       refine oHead [] [] (T' := []) (H' := []) (hnd := by decide) (h := ?_)
       exact hj2 ()
  ·refine bSplit 13 (h1 := fun hc => ?_) (h2 := fun hc => ?_)
   ·refine oNot (h := ?_)
    refine oNot (h := ?_)
    refine oNot (h := ?_)
    refine oNot (h := ?_)
    refine oNot (h := ?_)
    refine oNot (h := ?_)
    refine oP (.d (.bool true)) (p_pick (b := true)) ?_
    refine oHead [2, 3, 20] [0, 1] (T' := [(2, .ptr 0 0), (3, .ptr 1 0), (20, .d (.bool true))]) (H' := [.box [.d (.lit (List.map e_Li64 a0)), .d (.lit (List.map e_i64 a1))], .box [.d (.lit (List.map e_Li64 b0)), .d (.lit (List.map e_i64 b1))]]) (hnd := by decide) (h := ?_)
    exact hj3 true
   ·refine oP (.ptr 0 1) (k_fieldAddr 0 0 (hu := Try.underlying31) (hf := rfl) (hi := ty22)) ?_
    refine oQ (.d (.lit (List.map e_i64 a1))) (k_load 0 1 (hu := Try.underlying22)) ?_
    refine oP (.ptr 1 1) (k_fieldAddr 1 0 (hu := Try.underlying31) (hf := rfl) (hi := ty22)) ?_
    refine oQ (.d (.lit (List.map e_i64 b1))) (k_load 1 1 (hu := Try.underlying22)) ?_
    refine bCall (caps := []) (v := (fun (r14 : Bool) => (.d (.bool r14) : V))) (H' := (fun (r14 : Bool) => ([.box [.d (.lit (List.map e_Li64 a0)), .d (.lit (List.map e_i64 a1))], .box [.d (.lit (List.map e_Li64 b0)), .d (.lit (List.map e_i64 b1))]] : List Blk))) [] _ (ref06_Ints_goes k a1 b1) (ho := rfl) (hfn := Try.func18) (hb := rfl) (hconv := ConvRs.refl _ _) (hnd := by decide) (hBl := fun _ => (by kernel_rfl)) (hv := fun _ => (by kernel_rfl)) (hH' := fun _ => (by kernel_rfl)) (h := fun r14 => ?_)
    refine oP (.d (.bool (!r14))) (p_not (p := r14)) ?_
    refine oP (.d (.bool (!r14))) (p_pick (b := false)) ?_
    refine oHead [2, 3, 20] [0, 1] (T' := [(2, .ptr 0 0), (3, .ptr 1 0), (20, .d (.bool (!r14)))]) (H' := [.box [.d (.lit (List.map e_Li64 a0)), .d (.lit (List.map e_i64 a1))], .box [.d (.lit (List.map e_Li64 b0)), .d (.lit (List.map e_i64 b1))]]) (hnd := by decide) (h := ?_)
    exact hj3 (!r14)

/-- slices.Index[[]int,int] -/
def slices_Index_int_b1 (k : Nat) (s1 : (List Int)) (v : Int) (again : Int → Option ((Unit) ⊕ (Int))) : Int → Option ((Unit) ⊕ (Int)) := fun x4 => bif (decide (x4 < ((List.length s1) : Int))) then gidx s1 x4 fun e113 => bif (v == e113) then some (Sum.inr x4) else again (IntKind.wrap .i64 (x4 + 1)) else some (Sum.inl ())
def slices_Index_int (k : Nat) (s1 : (List Int)) (v : Int) : Option (Int) := Option.bind (gloop (slices_Index_int_b1 k s1 v) k 0 : Option ((Unit) ⊕ (Int))) (Sum.elim (u0 (some (-1))) (fun r => some r))
def slices_Index_int_E (s1 : (List Int)) (v : Int) : Int → V × List Blk := fun r1 => (.d (.int .i64 r1), [])
theorem slices_Index_int_goes (k : Nat) (s1 : (List Int)) (v : Int) : RunsO Try.prog 65 [.d (.lit (List.map e_i64 s1)), .d (.int .i64 v)] [] (slices_Index_int_E s1 v) (slices_Index_int k s1 v) := by
  refine RunsO.of_goes (N := 19) (m := 0) (T := [(0, .d (.lit (List.map e_i64 s1))), (1, .d (.int .i64 v))]) Try.func65 rfl rfl (h := ?_)
  unfold slices_Index_int
  refine bStart ?_
  refine oSR rfl ?_
  refine oP (.d (.int .i64 0)) p_assign ?_
  refine oEnd ?_
  refine oSeq ?_
  refine oSR rfl ?_
  refine oP (.d (.lit (List.map e_i64 s1))) p_move ?_
  refine oP (.d (.int .i64 ((List.length s1) : Int))) (k_lenLit (enc := e_i64) s1 (hu := Try.underlying22)) ?_
  refine oP (.d (.int .i64 0)) p_move ?_
  refine oEnd ?_
  refine bJoin ((u0 ([]))) ((u0 ([]))) Sum.inl (fun s => ?_) (fun hj2 => ?_)
  ·cases s
   refine bInl ?_
   refine bU0 ?_
   refine oView (T' := []) (H' := []) (h := ?_)
   refine oSR rfl ?_
   refine oP (.d (.int .i64 (-1))) p_assign ?_
   refine oEnd ?_
   exact oRet (r0 := (-1)) (rv := .d (.int .i64 (-1))) (B := []) (vs := [.d (.int .i64 (-1))]) (σ := []) (hf := Try.func65) (hrs := rfl) (hres := .cons _ _ _ _ (.tmp 4 _ (by kernel_rfl)) .nil) (hnd := by decide)
  ·refine oBlock ?_
   refine oLoop ?_
   refine oHead [0, 1, 7, 8] [] (T' := [(0, .d (.lit (List.map e_i64 s1))), (1, .d (.int .i64 v)), (7, .d (.int .i64 ((List.length s1) : Int))), (8, .d (.int .i64 0))]) (H' := []) (hnd := by decide) (h := ?_)
   refine bLoop (body := slices_Index_int_b1 k s1 v) ((fun (x4 : Int) => [(0, .d (.lit (List.map e_i64 s1))), (1, .d (.int .i64 v)), (7, .d (.int .i64 ((List.length s1) : Int))), (8, .d (.int .i64 x4))])) ((fun (x4 : Int) => [])) (fun again hag1 x4 => ?_) k 0
   ·unfold slices_Index_int_b1
    refine oView (T' := [(0, .d (.lit (List.map e_i64 s1))), (1, .d (.int .i64 v)), (7, .d (.int .i64 ((List.length s1) : Int))), (8, .d (.int .i64 x4))]) (H' := []) (h := ?_)
    refine oSR rfl ?_
    refine oP (.d (.bool (decide (x4 < ((List.length s1) : Int))))) (p_int (k := .i64) (p := x4) (q := ((List.length s1) : Int))) ?_
    refine oEnd ?_
    refine oSeq ?_
    refine bSplit 9 (h1 := fun hc => ?_) (h2 := fun hc => ?_)
    ·refine oCondT (h := ?_)
     refine oSkip ?_
     refine oSeq ?_
     refine oBlock ?_
     refine oSR rfl ?_
     refine oP (.d (.int .i64 x4)) p_move ?_
     refine oP (.d (.int .i64 x4)) p_assign ?_
     refine oEnd ?_
     refine oSR rfl ?_
     refine oP (.d (.int .i64 v)) p_move ?_
     refine oP (.d (.lit (List.map e_i64 s1))) p_move ?_
     refine oP (.d (.int .i64 x4)) p_move ?_
     refine bIdx (fun e113 h126 h127 => ?_)
     refine oP (.lptr (e_i64 e113) 0) (k_idxLit e_i64_len s1 (a := e113) (k := .i64) (i := x4) (hu := Try.underlying22) (hi := ty3) (h0 := h126) (he := h127)) ?_
     refine oQ (.d (.int .i64 e113)) (k_loadL (cells := e_i64 e113) 0 (hu := Try.underlying3)) ?_
     refine oP (.d (.bool (v == e113))) (p_int (k := .i64) (p := v) (q := e113)) ?_
     refine oEnd ?_
     refine bSplit 16 (h1 := fun hc => ?_) (h2 := fun hc => ?_)
     ·refine oCondT (h := ?_)
      refine oSR rfl ?_
      refine oP (.d (.int .i64 x4)) p_move ?_
      refine oP (.d (.int .i64 x4)) p_assign ?_
      refine oEnd ?_
      exact oRet (r0 := x4) (rv := .d (.int .i64 x4)) (B := []) (vs := [.d (.int .i64 x4)]) (σ := []) (hf := Try.func65) (hrs := rfl) (hres := .cons _ _ _ _ (.tmp 4 _ (by kernel_rfl)) .nil) (hnd := by decide)
     ·refine oCondF (h := ?_)
      refine oSkip ?_
      refine oBlk ?_
      refine oRegion rfl ?_
      refine oP (.d (.int .i64 (IntKind.wrap .i64 (x4 + 1)))) (p_int (k := .i64) (p := x4) (q := 1)) ?_
      refine oP (.d (.int .i64 (IntKind.wrap .i64 (x4 + 1)))) p_move ?_
      refine oEnd ?_
      refine oAgain ?_
      refine oHead [0, 1, 7, 8] [] (T' := [(0, .d (.lit (List.map e_i64 s1))), (1, .d (.int .i64 v)), (7, .d (.int .i64 ((List.length s1) : Int))), (8, .d (.int .i64 (IntKind.wrap .i64 (x4 + 1))))]) (H' := []) (hnd := by decide) (h := ?_)
      exact hag1 (IntKind.wrap .i64 (x4 + 1))
    ·refine oCondF (h := ?_)
     refine oExit rfl ?_
     refine oHead [] [] (T' := []) (H' := []) (hnd := by decide) (h := ?_)
     exact hj2 ()

/-- slices.Contains[[]int,int] -/
def slices_Contains_int (k : Nat) (s1 : (List Int)) (v : Int) : Option (Bool) := Option.bind (slices_Index_int k s1 v) (fun r12 => some (decide (r12 ≥ 0)))
def slices_Contains_int_E (s1 : (List Int)) (v : Int) : Bool → V × List Blk := fun r11 => (.d (.bool r11), [])
theorem slices_Contains_int_goes (k : Nat) (s1 : (List Int)) (v : Int) : RunsO Try.prog 58 [.d (.lit (List.map e_i64 s1)), .d (.int .i64 v)] [] (slices_Contains_int_E s1 v) (slices_Contains_int k s1 v) := by
  refine RunsO.of_goes (N := 9) (m := 0) (T := [(0, .d (.lit (List.map e_i64 s1))), (1, .d (.int .i64 v))]) Try.func58 rfl rfl (h := ?_)
  unfold slices_Contains_int
  refine bStart ?_
  refine oSR rfl ?_
  refine oP (.d (.bool false)) p_assign ?_
  refine oEnd ?_
  refine oSR rfl ?_
  refine oP (.d (.lit (List.map e_i64 s1))) p_move ?_
  refine oP (.d (.int .i64 v)) p_move ?_
  refine bCall (caps := []) (v := (fun (r12 : Int) => (.d (.int .i64 r12) : V))) (H' := (fun (r12 : Int) => ([] : List Blk))) [] _ (slices_Index_int_goes k s1 v) (ho := rfl) (hfn := Try.func65) (hb := rfl) (hconv := ConvRs.refl _ _) (hnd := by decide) (hBl := fun _ => (by kernel_rfl)) (hv := fun _ => (by kernel_rfl)) (hH' := fun _ => (by kernel_rfl)) (h := fun r12 => ?_)
  refine oP (.d (.bool (decide (r12 ≥ 0)))) (p_int (k := .i64) (p := r12) (q := 0)) ?_
  refine oP (.d (.bool (decide (r12 ≥ 0)))) p_assign ?_
  refine oEnd ?_
  exact oRet (r0 := (decide (r12 ≥ 0))) (rv := .d (.bool (decide (r12 ≥ 0)))) (B := []) (vs := [.d (.bool (decide (r12 ≥ 0)))]) (σ := []) (hf := Try.func58) (hrs := rfl) (hres := .cons _ _ _ _ (.tmp 4 _ (by kernel_rfl)) .nil) (hnd := by decide)

/-- awardingbody/scheme.accepts -/
def scheme_accepts (k : Nat) (x0 : Int) (x1 : Int) (x2 : Int) (x3 : Int) (x4 : Int) (x5 : Int) (keys : (List Int)) (answer : Int) : Option (Bool) := bif (((List.length keys) : Int) == 0) then some (answer == x5) else Option.bind (slices_Contains_int k keys answer) (fun r111 => some r111)
def scheme_accepts_E (x0 : Int) (x1 : Int) (x2 : Int) (x3 : Int) (x4 : Int) (x5 : Int) (keys : (List Int)) (answer : Int) : Bool → V × List Blk := fun r1 => (.d (.bool r1), [])
theorem scheme_accepts_goes (k : Nat) (x0 : Int) (x1 : Int) (x2 : Int) (x3 : Int) (x4 : Int) (x5 : Int) (keys : (List Int)) (answer : Int) : RunsO Try.prog 44 [.agg [.d (.int .i64 x0), .d (.int .i64 x1), .d (.int .i64 x2), .d (.int .i64 x3), .d (.int .i64 x4), .d (.int .i64 x5)], .d (.lit (List.map e_i64 keys)), .d (.int .i64 answer)] [] (scheme_accepts_E x0 x1 x2 x3 x4 x5 keys answer) (scheme_accepts k x0 x1 x2 x3 x4 x5 keys answer) := by
  refine RunsO.of_goes (N := 17) (m := 0) (T := [(0, .agg [.d (.int .i64 x0), .d (.int .i64 x1), .d (.int .i64 x2), .d (.int .i64 x3), .d (.int .i64 x4), .d (.int .i64 x5)]), (1, .d (.lit (List.map e_i64 keys))), (2, .d (.int .i64 answer))]) Try.func44 rfl rfl (h := ?_)
  unfold scheme_accepts
  refine bStart ?_
  refine oSR rfl ?_
  refine oD (.ptr 0 0) (k_box (H' := [.box [.d (.int .i64 x0), .d (.int .i64 x1), .d (.int .i64 x2), .d (.int .i64 x3), .d (.int .i64 x4), .d (.int .i64 x5)]]) (cells := [.d (.int .i64 x0), .d (.int .i64 x1), .d (.int .i64 x2), .d (.int .i64 x3), .d (.int .i64 x4), .d (.int .i64 x5)])) ?_
  refine oP (.d (.bool false)) p_assign ?_
  refine oEnd ?_
  refine oSeq ?_
  refine oSR rfl ?_
  refine oP (.d (.lit (List.map e_i64 keys))) p_move ?_
  refine oP (.d (.int .i64 ((List.length keys) : Int))) (k_lenLit (enc := e_i64) keys (hu := Try.underlying22)) ?_
  refine oP (.d (.bool (((List.length keys) : Int) == 0))) (p_int (k := .i64) (p := ((List.length keys) : Int)) (q := 0)) ?_
  refine oEnd ?_
  refine bSplit 9 (h1 := fun hc => ?_) (h2 := fun hc => ?_)
  ·refine oCondT (h := ?_)
   refine oSR rfl ?_
   refine oP (.d (.int .i64 answer)) p_move ?_
   refine oP (.ptr 0 5) (k_fieldAddr 0 0 (hu := Try.underlying49) (hf := rfl) (hi := ty3)) ?_
   refine oQ (.d (.int .i64 x5)) (k_load 0 5 (hu := Try.underlying3)) ?_
   refine oP (.d (.bool (answer == x5))) (p_int (k := .i64) (p := answer) (q := x5)) ?_
   refine oP (.d (.bool (answer == x5))) p_assign ?_
   refine oEnd ?_
   exact oRet (r0 := (answer == x5)) (rv := .d (.bool (answer == x5))) (B := []) (vs := [.d (.bool (answer == x5))]) (σ := []) (hf := Try.func44) (hrs := rfl) (hres := .cons _ _ _ _ (.tmp 6 _ (by kernel_rfl)) .nil) (hnd := by decide)
  ·refine oCondF (h := ?_)
   refine oSkip ?_
   refine oSR rfl ?_
   refine oP (.d (.lit (List.map e_i64 keys))) p_move ?_
   refine oP (.d (.int .i64 answer)) p_move ?_
   refine bCall (caps := []) (v := (fun (r111 : Bool) => (.d (.bool r111) : V))) (H' := (fun (r111 : Bool) => ([.box [.d (.int .i64 x0), .d (.int .i64 x1), .d (.int .i64 x2), .d (.int .i64 x3), .d (.int .i64 x4), .d (.int .i64 x5)]] : List Blk))) [] _ (slices_Contains_int_goes k keys answer) (ho := rfl) (hfn := Try.func58) (hb := rfl) (hconv := ConvRs.refl _ _) (hnd := by decide) (hBl := fun _ => (by kernel_rfl)) (hv := fun _ => (by kernel_rfl)) (hH' := fun _ => (by kernel_rfl)) (h := fun r111 => ?_)
   refine oP (.d (.bool r111)) p_assign ?_
   refine oEnd ?_
   exact oRet (r0 := r111) (rv := .d (.bool r111)) (B := []) (vs := [.d (.bool r111)]) (σ := []) (hf := Try.func44) (hrs := rfl) (hres := .cons _ _ _ _ (.tmp 6 _ (by kernel_rfl)) .nil) (hnd := by decide)

/-- awardingbody/scheme.Closed -/
def scheme_Closed_b1 (k : Nat) (p2 : (List SPart)) (s0 : (List (List Int))) (answers : (List Int)) (again : Int × (List Int) → Option (((List Int)) ⊕ ((List Int) × Int))) : Int × (List Int) → Option (((List Int)) ⊕ ((List Int) × Int)) := uc fun x19 => fun xs11 => bif (decide (x19 < ((List.length p2) : Int))) then Option.bind (gidx p2 x19 fun e115 => gidx answers x19 fun e116 => bif (e115.Kind == 1) then gcap (List.length (xs11 ++ ([(-2)] : List Int))) 8 (some (Sum.inl (xs11 ++ ([(-2)] : List Int)))) else blet ((e116 != (-2)) && (e116 != (-1))) fun x27 => Option.bind (bif x27 then blet ((decide (e116 < 0)) || (decide (e116 ≥ e115.Options))) fun x30 => some x30 else some false : Option (Bool)) (fun x29 => bif x29 then some (Sum.inr ([], 2)) else bif (e116 == (-1)) then gcap (List.length (xs11 ++ ([(-1)] : List Int))) 8 (some (Sum.inl (xs11 ++ ([(-1)] : List Int)))) else gidx s0 x19 fun e12 => Option.bind (scheme_accepts k e115.Kind e115.Max e115.Topic e115.Objective e115.Options e115.Key e12 e116) (fun r12 => bif r12 then gcap (List.length (xs11 ++ ([e115.Max] : List Int))) 8 (some (Sum.inl (xs11 ++ ([e115.Max] : List Int)))) else gcap (List.length (xs11 ++ ([0] : List Int))) 8 (some (Sum.inl (xs11 ++ ([0] : List Int)))))) : Option (((List Int)) ⊕ ((List Int) × Int))) (Sum.elim (fun xs14 => again ((IntKind.wrap .i64 (x19 + 1)), xs14)) (fun r => some (Sum.inr r))) else some (Sum.inl xs11)
def scheme_Closed (k : Nat) (p0 : Int) (p1 : Int) (p2 : (List SPart)) (s0 : (List (List Int))) (s1 : (List Int)) (answers : (List Int)) : Option ((List Int) × Int) := Option.bind (scheme_Valid k p0 p1 p2 s0 s1) (fun r16 => bif (!r16) then some ([], 1) else bif (((List.length answers) : Int) != ((List.length p2) : Int)) then some ([], 22) else Option.bind (gloop (scheme_Closed_b1 k p2 s0 answers) k (0, ([] : List Int)) : Option (((List Int)) ⊕ ((List Int) × Int))) (Sum.elim (fun xs9 => some (xs9, 0)) (fun r => some r)))
def scheme_Closed_E (p0 : Int) (p1 : Int) (p2 : (List SPart)) (s0 : (List (List Int))) (s1 : (List Int)) (answers : (List Int)) : (List Int) × Int → V × List Blk := uc fun r13 => fun r14 => (.tuple [.d (.lit (List.map e_i64 r13)), .d (.int .i64 r14)], [])
theorem scheme_Closed_goes (k : Nat) (p0 : Int) (p1 : Int) (p2 : (List SPart)) (s0 : (List (List Int))) (s1 : (List Int)) (answers : (List Int)) : RunsO Try.prog 16 [.agg [.d (.int .i64 p0), .d (.int .i64 p1), .d (.lit (List.map e_SPart p2))], .agg [.d (.lit (List.map e_Li64 s0)), .d (.lit (List.map e_i64 s1))], .d (.lit (List.map e_i64 answers))] [] (scheme_Closed_E p0 p1 p2 s0 s1 answers) (scheme_Closed k p0 p1 p2 s0 s1 answers) := by
  refine RunsO.of_goes (N := 85) (m := 0) (T := [(0, .agg [.d (.int .i64 p0), .d (.int .i64 p1), .d (.lit (List.map e_SPart p2))]), (1, .agg [.d (.lit (List.map e_Li64 s0)), .d (.lit (List.map e_i64 s1))]), (2, .d (.lit (List.map e_i64 answers)))]) Try.func16 rfl rfl (h := ?_)
  unfold scheme_Closed
  refine bStart ?_
  refine oSR rfl ?_
  refine oD (.ptr 0 0) (k_box (H' := [.box [.d (.int .i64 p0), .d (.int .i64 p1), .d (.lit (List.map e_SPart p2))]]) (cells := [.d (.int .i64 p0), .d (.int .i64 p1), .d (.lit (List.map e_SPart p2))])) ?_
  refine oD (.ptr 1 0) (k_box (H' := [.box [.d (.int .i64 p0), .d (.int .i64 p1), .d (.lit (List.map e_SPart p2))], .box [.d (.lit (List.map e_Li64 s0)), .d (.lit (List.map e_i64 s1))]]) (cells := [.d (.lit (List.map e_Li64 s0)), .d (.lit (List.map e_i64 s1))])) ?_
  refine oP (.nilc) p_assign ?_
  refine oP (.d (.int .i64 0)) p_assign ?_
  refine oEnd ?_
  refine oSeq ?_
  refine oBlock ?_
  refine oSR rfl ?_
  refine oQ (.agg [.d (.int .i64 p0), .d (.int .i64 p1), .d (.lit (List.map e_SPart p2))]) (k_loadAgg 0 0 (hu := Try.underlying27) (hi := ty27)) ?_
  refine oQ (.agg [.d (.lit (List.map e_Li64 s0)), .d (.lit (List.map e_i64 s1))]) (k_loadAgg 1 0 (hu := Try.underlying31) (hi := ty31)) ?_
  refine bCall (caps := []) (v := (fun (r16 : Bool) => (.d (.bool r16) : V))) (H' := (fun (r16 : Bool) => ([.box [.d (.int .i64 p0), .d (.int .i64 p1), .d (.lit (List.map e_SPart p2))], .box [.d (.lit (List.map e_Li64 s0)), .d (.lit (List.map e_i64 s1))]] : List Blk))) [] _ (scheme_Valid_goes k p0 p1 p2 s0 s1) (ho := rfl) (hfn := Try.func30) (hb := rfl) (hconv := ConvRs.refl _ _) (hnd := by decide) (hBl := fun _ => (by kernel_rfl)) (hv := fun _ => (by kernel_rfl)) (hH' := fun _ => (by kernel_rfl)) (h := fun r16 => ?_)
  refine oP (.d (.bool (!r16))) (p_not (p := r16)) ?_
  refine oP (.d (.bool (!r16))) p_assign ?_
  refine oEnd ?_
  refine bSplit 12 (h1 := fun hc => ?_) (h2 := fun hc => ?_)
  ·refine oCondT (h := ?_)
   refine oSR rfl ?_
   refine oP (.nilc) p_assign ?_
   refine oP (.d (.int .i64 1)) p_assign ?_
   refine oEnd ?_
   refine oConv 6 (v := .nilc) (v' := .d (.lit (List.map e_i64 []))) (hc := .nil) (h := ?_)
   exact oRet (r0 := ([], 1)) (rv := .tuple [.d (.lit (List.map e_i64 [])), .d (.int .i64 1)]) (B := []) (vs := [.d (.lit (List.map e_i64 [])), .d (.int .i64 1)]) (σ := []) (hf := Try.func16) (hrs := rfl) (hres := .cons _ _ _ _ (.tmp 6 _ (by kernel_rfl)) (.cons _ _ _ _ (.tmp 7 _ (by kernel_rfl)) .nil)) (hnd := by decide)
  ·refine oCondF (h := ?_)
   refine oSR rfl ?_
   refine oP (.d (.lit (List.map e_i64 answers))) p_move ?_
   refine oP (.d (.int .i64 ((List.length answers) : Int))) (k_lenLit (enc := e_i64) answers (hu := Try.underlying22)) ?_
   refine oP (.ptr 0 2) (k_fieldAddr 0 0 (hu := Try.underlying27) (hf := rfl) (hi := ty25)) ?_
   refine oQ (.d (.lit (List.map e_SPart p2))) (k_load 0 2 (hu := Try.underlying25)) ?_
   refine oP (.d (.int .i64 ((List.length p2) : Int))) (k_lenLit (enc := e_SPart) p2 (hu := Try.underlying25)) ?_
   refine oP (.d (.bool (((List.length answers) : Int) != ((List.length p2) : Int)))) (p_int (k := .i64) (p := ((List.length answers) : Int)) (q := ((List.length p2) : Int))) ?_
   refine oP (.d (.bool (((List.length answers) : Int) != ((List.length p2) : Int)))) p_assign ?_
   refine oEnd ?_
   refine bSplit 17 (h1 := fun hc => ?_) (h2 := fun hc => ?_)
   ·refine oCondT (h := ?_)
    refine oSR rfl ?_
    refine oP (.nilc) p_assign ?_
    refine oP (.d (.int .i64 22)) p_assign ?_
    refine oEnd ?_
    refine oConv 6 (v := .nilc) (v' := .d (.lit (List.map e_i64 []))) (hc := .nil) (h := ?_)
    exact oRet (r0 := ([], 22)) (rv := .tuple [.d (.lit (List.map e_i64 [])), .d (.int .i64 22)]) (B := []) (vs := [.d (.lit (List.map e_i64 [])), .d (.int .i64 22)]) (σ := []) (hf := Try.func16) (hrs := rfl) (hres := .cons _ _ _ _ (.tmp 6 _ (by kernel_rfl)) (.cons _ _ _ _ (.tmp 7 _ (by kernel_rfl)) .nil)) (hnd := by decide)
   ·refine oCondF (h := ?_)
    refine oSkip ?_
    refine oBlk ?_
    refine oSR rfl ?_
    refine oP (.nilc) p_assign ?_
    refine oEnd ?_
    refine oSeq ?_
    refine oSR rfl ?_
    refine oP (.ptr 0 2) (k_fieldAddr 0 0 (hu := Try.underlying27) (hf := rfl) (hi := ty25)) ?_
    refine oQ (.d (.lit (List.map e_SPart p2))) (k_load 0 2 (hu := Try.underlying25)) ?_
    refine oP (.d (.int .i64 ((List.length p2) : Int))) (k_lenLit (enc := e_SPart) p2 (hu := Try.underlying25)) ?_
    refine oP (.d (.int .i64 0)) p_move ?_
    refine oEnd ?_
    refine bJoin ((fun (xs9 : (List Int)) => [(8, .ref 0 (List.length xs9) 0 (List.length xs9))])) ((fun (xs9 : (List Int)) => [.sl 1 (List.map e_i64 xs9) false])) Sum.inl (fun xs9 => ?_) (fun hj6 => ?_)
    ·refine bInl ?_
     refine oView (T' := [(8, .ref 0 (List.length xs9) 0 (List.length xs9))]) (H' := [.sl 1 (List.map e_i64 xs9) false]) (h := ?_)
     refine oSR rfl ?_
     refine oP (.ref 0 (List.length xs9) 0 (List.length xs9)) p_move ?_
     refine oP (.ref 0 (List.length xs9) 0 (List.length xs9)) p_assign ?_
     refine oP (.d (.int .i64 0)) p_assign ?_
     refine oEnd ?_
     refine oFreeze 0 (esz := 1) (xs := List.map e_i64 xs9) (h := ?_)
     refine oView (H' := [.sl 1 (List.map e_i64 xs9) true]) rfl (h := ?_)
     refine oConv 6 (v := .ref 0 (List.length xs9) 0 (List.length xs9)) (v' := .d (.lit (List.map e_i64 xs9))) (hc := k_lit (enc := e_i64) (sz := 1) 0 xs9) (h := ?_)
     exact oRet (r0 := (xs9, 0)) (rv := .tuple [.d (.lit (List.map e_i64 xs9)), .d (.int .i64 0)]) (B := []) (vs := [.d (.lit (List.map e_i64 xs9)), .d (.int .i64 0)]) (σ := []) (hf := Try.func16) (hrs := rfl) (hres := .cons _ _ _ _ (.tmp 6 _ (by kernel_rfl)) (.cons _ _ _ _ (.tmp 7 _ (by kernel_rfl)) .nil)) (hnd := by decide)
    ·refine oBlock ?_
     refine oLoop ?_
     refine oVirt (esz := 1) 8 (h := ?_)
     refine oView (H' := [.box [.d (.int .i64 p0), .d (.int .i64 p1), .d (.lit (List.map e_SPart p2))], .box [.d (.lit (List.map e_Li64 s0)), .d (.lit (List.map e_i64 s1))], .sl 1 (List.map e_i64 ([] : List Int)) false]) rfl (h := ?_)
     refine oHead [2, 4, 8, 25, 26, 27] [1, 2] (T' := [(2, .d (.lit (List.map e_i64 answers))), (4, .ptr 0 0), (8, .ref 1 (List.length ([] : List Int)) 0 (List.length ([] : List Int))), (25, .d (.lit (List.map e_SPart p2))), (26, .d (.int .i64 ((List.length p2) : Int))), (27, .d (.int .i64 0))]) (H' := [.box [.d (.lit (List.map e_Li64 s0)), .d (.lit (List.map e_i64 s1))], .sl 1 (List.map e_i64 ([] : List Int)) false]) (hnd := by decide) (h := ?_)
     refine bLoop (body := scheme_Closed_b1 k p2 s0 answers) ((uc fun (x19 : Int) => (fun (xs11 : (List Int)) => [(2, .d (.lit (List.map e_i64 answers))), (4, .ptr 0 0), (8, .ref 1 (List.length xs11) 0 (List.length xs11)), (25, .d (.lit (List.map e_SPart p2))), (26, .d (.int .i64 ((List.length p2) : Int))), (27, .d (.int .i64 x19))]))) ((uc fun (x19 : Int) => (fun (xs11 : (List Int)) => [.box [.d (.lit (List.map e_Li64 s0)), .d (.lit (List.map e_i64 s1))], .sl 1 (List.map e_i64 xs11) false]))) (fun again hag1 s => ?_) k (0, ([] : List Int))
     ·unfold scheme_Closed_b1
      obtain ⟨x19, xs11⟩ := s
      refine bUc ?_
      refine oView (T' := [(2, .d (.lit (List.map e_i64 answers))), (4, .ptr 0 0), (8, .ref 1 (List.length xs11) 0 (List.length xs11)), (25, .d (.lit (List.map e_SPart p2))), (26, .d (.int .i64 ((List.length p2) : Int))), (27, .d (.int .i64 x19))]) (H' := [.box [.d (.lit (List.map e_Li64 s0)), .d (.lit (List.map e_i64 s1))], .sl 1 (List.map e_i64 xs11) false]) (h := ?_)
      refine oSR rfl ?_
      refine oP (.d (.bool (decide (x19 < ((List.length p2) : Int))))) (p_int (k := .i64) (p := x19) (q := ((List.length p2) : Int))) ?_
      refine oEnd ?_
      refine oSeq ?_
      refine bSplit 28 (h1 := fun hc => ?_) (h2 := fun hc => ?_)
      ·refine oCondT (h := ?_)
       refine oSkip ?_
       refine oSeq ?_
       refine bJoin ((fun (xs14 : (List Int)) => [(2, .d (.lit (List.map e_i64 answers))), (4, .ptr 0 0), (8, .ref 1 (List.length xs14) 0 (List.length xs14)), (25, .d (.lit (List.map e_SPart p2))), (26, .d (.int .i64 ((List.length p2) : Int))), (27, .d (.int .i64 x19))])) ((fun (xs14 : (List Int)) => [.box [.d (.lit (List.map e_Li64 s0)), .d (.lit (List.map e_i64 s1))], .sl 1 (List.map e_i64 xs14) false])) Sum.inl (fun xs14 => ?_) (fun hj9 => ?_)
       ·refine bInl ?_
        refine oView (T' := [(2, .d (.lit (List.map e_i64 answers))), (4, .ptr 0 0), (8, .ref 1 (List.length xs14) 0 (List.length xs14)), (25, .d (.lit (List.map e_SPart p2))), (26, .d (.int .i64 ((List.length p2) : Int))), (27, .d (.int .i64 x19))]) (H' := [.box [.d (.lit (List.map e_Li64 s0)), .d (.lit (List.map e_i64 s1))], .sl 1 (List.map e_i64 xs14) false]) (h := ?_)
        refine oRegion rfl ?_
        refine oP (.d (.int .i64 (IntKind.wrap .i64 (x19 + 1)))) (p_int (k := .i64) (p := x19) (q := 1)) ?_
        refine oP (.d (.int .i64 (IntKind.wrap .i64 (x19 + 1)))) p_move ?_
        refine oEnd ?_
        refine oAgain ?_
        refine oHead [2, 4, 8, 25, 26, 27] [0, 1] (T' := [(2, .d (.lit (List.map e_i64 answers))), (4, .ptr 0 0), (8, .ref 1 (List.length xs14) 0 (List.length xs14)), (25, .d (.lit (List.map e_SPart p2))), (26, .d (.int .i64 ((List.length p2) : Int))), (27, .d (.int .i64 (IntKind.wrap .i64 (x19 + 1))))]) (H' := [.box [.d (.lit (List.map e_Li64 s0)), .d (.lit (List.map e_i64 s1))], .sl 1 (List.map e_i64 xs14) false]) (hnd := by decide) (h := ?_)
        exact hag1 ((IntKind.wrap .i64 (x19 + 1)), xs14)
       ·refine oBlock ?_
        refine oSR rfl ?_
        refine oP (.d (.int .i64 x19)) p_move ?_
        refine bIdx (fun e115 h158 h159 => ?_)
        refine oP (.lptr (e_SPart e115) 0) (k_idxLit e_SPart_len p2 (a := e115) (k := .i64) (i := x19) (hu := Try.underlying25) (hi := ty49) (h0 := h158) (he := h159)) ?_
        refine oQ (.agg [.d (.int .i64 e115.Kind), .d (.int .i64 e115.Max), .d (.int .i64 e115.Topic), .d (.int .i64 e115.Objective), .d (.int .i64 e115.Options), .d (.int .i64 e115.Key)]) (k_loadLAgg (cells := e_SPart e115) 0 [(.int .i64 e115.Kind), (.int .i64 e115.Max), (.int .i64 e115.Topic), (.int .i64 e115.Objective), (.int .i64 e115.Options), (.int .i64 e115.Key)] (hu := Try.underlying49) (hi := ty49)) ?_
        refine oD (.ptr 2 0) (k_alloc (H' := [.box [.d (.lit (List.map e_Li64 s0)), .d (.lit (List.map e_i64 s1))], .sl 1 (List.map e_i64 xs11) false, .box [.d (.int .i64 0), .d (.int .i64 0), .d (.int .i64 0), .d (.int .i64 0), .d (.int .i64 0), .d (.int .i64 0)]]) ty49) ?_
        refine oP (.d (.int .i64 x19)) p_assign ?_
        refine oD (.undef) (k_store (vs := [.d (.int .i64 e115.Kind), .d (.int .i64 e115.Max), .d (.int .i64 e115.Topic), .d (.int .i64 e115.Objective), .d (.int .i64 e115.Options), .d (.int .i64 e115.Key)]) (H' := [.box [.d (.lit (List.map e_Li64 s0)), .d (.lit (List.map e_i64 s1))], .sl 1 (List.map e_i64 xs11) false, .box [.d (.int .i64 e115.Kind), .d (.int .i64 e115.Max), .d (.int .i64 e115.Topic), .d (.int .i64 e115.Objective), .d (.int .i64 e115.Options), .d (.int .i64 e115.Key)]]) 2 0 (hi := ty49)) ?_
        refine oEnd ?_
        refine oSR rfl ?_
        refine oP (.d (.lit (List.map e_i64 answers))) p_move ?_
        refine oP (.d (.int .i64 x19)) p_move ?_
        refine bIdx (fun e116 h160 h161 => ?_)
        refine oP (.lptr (e_i64 e116) 0) (k_idxLit e_i64_len answers (a := e116) (k := .i64) (i := x19) (hu := Try.underlying22) (hi := ty3) (h0 := h160) (he := h161)) ?_
        refine oQ (.d (.int .i64 e116)) (k_loadL (cells := e_i64 e116) 0 (hu := Try.underlying3)) ?_
        refine oP (.d (.int .i64 e116)) p_assign ?_
        refine oEnd ?_
        refine oBlock ?_
        refine oSR rfl ?_
        refine oP (.ptr 2 0) (k_fieldAddr 2 0 (hu := Try.underlying49) (hf := rfl) (hi := ty3)) ?_
        refine oQ (.d (.int .i64 e115.Kind)) (k_load 2 0 (hu := Try.underlying3)) ?_
        refine oP (.d (.bool (e115.Kind == 1))) (p_int (k := .i64) (p := e115.Kind) (q := 1)) ?_
        refine oP (.d (.bool (e115.Kind == 1))) p_assign ?_
        refine oEnd ?_
        refine bSplit 39 (h1 := fun hc => ?_) (h2 := fun hc => ?_)
        ·refine oCondT (h := ?_)
         refine oRegion rfl ?_
         refine oP (.ref 1 (List.length xs11) 0 (List.length xs11)) p_move ?_
         refine oD (.ref 3 (List.length ([(-2)] : List Int)) 0 (List.length ([(-2)] : List Int))) (k_buildSlice (H' := [.box [.d (.lit (List.map e_Li64 s0)), .d (.lit (List.map e_i64 s1))], .sl 1 (List.map e_i64 xs11) false, .box [.d (.int .i64 e115.Kind), .d (.int .i64 e115.Max), .d (.int .i64 e115.Topic), .d (.int .i64 e115.Objective), .d (.int .i64 e115.Options), .d (.int .i64 e115.Key)], .sl 1 (List.map e_i64 ([(-2)] : List Int)) false]) (List.map e_i64 ([(-2)] : List Int)) Try.underlying22 ty3) ?_
         refine bCap (fun h162 => ?_)
         refine oD (.ref 1 (List.length (xs11 ++ ([(-2)] : List Int))) 0 (List.length (xs11 ++ ([(-2)] : List Int)))) (k_append (H' := [.box [.d (.lit (List.map e_Li64 s0)), .d (.lit (List.map e_i64 s1))], .sl 1 (List.map e_i64 (xs11 ++ ([(-2)] : List Int))) false, .box [.d (.int .i64 e115.Kind), .d (.int .i64 e115.Max), .d (.int .i64 e115.Topic), .d (.int .i64 e115.Objective), .d (.int .i64 e115.Options), .d (.int .i64 e115.Key)], .sl 1 (List.map e_i64 ([(-2)] : List Int)) false]) (enc := e_i64) 1 xs11 ([(-2)] : List Int) Try.underlying22 Try.underlying22 ty3 (hy := (holdsRef (enc := e_i64) 3 ([(-2)] : List Int) false)) (hfit := h162)) ?_
         refine oP (.ref 1 (List.length (xs11 ++ ([(-2)] : List Int))) 0 (List.length (xs11 ++ ([(-2)] : List Int)))) p_assign ?_
         refine oEnd ?_
         refine oBlk ?_
         refine oBlk ?_
         refine oHead [2, 4, 8, 25, 26, 27] [0, 1] (T' := [(2, .d (.lit (List.map e_i64 answers))), (4, .ptr 0 0), (8, .ref 1 (List.length (xs11 ++ ([(-2)] : List Int))) 0 (List.length (xs11 ++ ([(-2)] : List Int)))), (25, .d (.lit (List.map e_SPart p2))), (26, .d (.int .i64 ((List.length p2) : Int))), (27, .d (.int .i64 x19))]) (H' := [.box [.d (.lit (List.map e_Li64 s0)), .d (.lit (List.map e_i64 s1))], .sl 1 (List.map e_i64 (xs11 ++ ([(-2)] : List Int))) false]) (hnd := by decide) (h := ?_)
         exact hj9 (xs11 ++ ([(-2)] : List Int))
        ·refine oCondF (h := ?_)
         refine oSR rfl ?_
         refine oP (.d (.int .i64 e116)) p_move ?_
         refine oP (.d (.bool (e116 != (-2)))) (p_int (k := .i64) (p := e116) (q := (-2))) ?_
         refine oP (.d (.bool (e116 != (-2)))) p_move ?_
         refine bMeetF (H' := [.box [.d (.lit (List.map e_Li64 s0)), .d (.lit (List.map e_i64 s1))], .sl 1 (List.map e_i64 xs11) false, .box [.d (.int .i64 e115.Kind), .d (.int .i64 e115.Max), .d (.int .i64 e115.Topic), .d (.int .i64 e115.Objective), .d (.int .i64 e115.Options), .d (.int .i64 e115.Key)]]) 3 rfl ((fun (x27 : Bool) => [(2, .d (.lit (List.map e_i64 answers))), (4, .ptr 0 0), (8, .ref 1 (List.length xs11) 0 (List.length xs11)), (9, .d (.int .i64 x19)), (10, .ptr 2 0), (11, .d (.int .i64 e116)), (25, .d (.lit (List.map e_SPart p2))), (26, .d (.int .i64 ((List.length p2) : Int))), (27, .d (.int .i64 x19)), (52, .d (.bool x27))])) (fun x27 => ?_) (fun F hj10 => ?_)
         ·refine oView (T' := [(2, .d (.lit (List.map e_i64 answers))), (4, .ptr 0 0), (8, .ref 1 (List.length xs11) 0 (List.length xs11)), (9, .d (.int .i64 x19)), (10, .ptr 2 0), (11, .d (.int .i64 e116)), (25, .d (.lit (List.map e_SPart p2))), (26, .d (.int .i64 ((List.length p2) : Int))), (27, .d (.int .i64 x19)), (52, .d (.bool x27))]) (H' := [.box [.d (.lit (List.map e_Li64 s0)), .d (.lit (List.map e_i64 s1))], .sl 1 (List.map e_i64 xs11) false, .box [.d (.int .i64 e115.Kind), .d (.int .i64 e115.Max), .d (.int .i64 e115.Topic), .d (.int .i64 e115.Objective), .d (.int .i64 e115.Options), .d (.int .i64 e115.Key)]]) (h := ?_)
          refine oP (.d (.bool x27)) p_move ?_
          refine bMeet 9 rfl ((fun (x29 : Bool) => [(2, .d (.lit (List.map e_i64 answers))), (4, .ptr 0 0), (8, .ref 1 (List.length xs11) 0 (List.length xs11)), (9, .d (.int .i64 x19)), (10, .ptr 2 0), (11, .d (.int .i64 e116)), (25, .d (.lit (List.map e_SPart p2))), (26, .d (.int .i64 ((List.length p2) : Int))), (27, .d (.int .i64 x19)), (62, .d (.bool x29))])) ((fun (x29 : Bool) => [.box [.d (.lit (List.map e_Li64 s0)), .d (.lit (List.map e_i64 s1))], .sl 1 (List.map e_i64 xs11) false, .box [.d (.int .i64 e115.Kind), .d (.int .i64 e115.Max), .d (.int .i64 e115.Topic), .d (.int .i64 e115.Objective), .d (.int .i64 e115.Options), .d (.int .i64 e115.Key)]])) (fun s => s) (fun x29 => ?_) (fun hj11 => ?_)
          ·refine oView (T' := [(2, .d (.lit (List.map e_i64 answers))), (4, .ptr 0 0), (8, .ref 1 (List.length xs11) 0 (List.length xs11)), (9, .d (.int .i64 x19)), (10, .ptr 2 0), (11, .d (.int .i64 e116)), (25, .d (.lit (List.map e_SPart p2))), (26, .d (.int .i64 ((List.length p2) : Int))), (27, .d (.int .i64 x19)), (62, .d (.bool x29))]) (H' := [.box [.d (.lit (List.map e_Li64 s0)), .d (.lit (List.map e_i64 s1))], .sl 1 (List.map e_i64 xs11) false, .box [.d (.int .i64 e115.Kind), .d (.int .i64 e115.Max), .d (.int .i64 e115.Topic), .d (.int .i64 e115.Objective), .d (.int .i64 e115.Options), .d (.int .i64 e115.Key)]]) (h := ?_)
           refine oP (.d (.bool x29)) p_assign ?_
           refine oEnd ?_
           refine bSplit 46 (h1 := fun hc => ?_) (h2 := fun hc => ?_)
           ·refine oCondT (h := ?_)
            refine oSR rfl ?_
            refine oP (.nilc) p_assign ?_
            refine oP (.d (.int .i64 2)) p_assign ?_
            refine oEnd ?_
            refine oConv 6 (v := .nilc) (v' := .d (.lit (List.map e_i64 []))) (hc := .nil) (h := ?_)
            exact oRet (r0 := ([], 2)) (rv := .tuple [.d (.lit (List.map e_i64 [])), .d (.int .i64 2)]) (B := []) (vs := [.d (.lit (List.map e_i64 [])), .d (.int .i64 2)]) (σ := []) (hf := Try.func16) (hrs := rfl) (hres := .cons _ _ _ _ (.tmp 6 _ (by kernel_rfl)) (.cons _ _ _ _ (.tmp 7 _ (by kernel_rfl)) .nil)) (hnd := by decide)
           ·refine oCondF (h := ?_)
            refine oSR rfl ?_
            refine oP (.d (.int .i64 e116)) p_move ?_
            refine oP (.d (.bool (e116 == (-1)))) (p_int (k := .i64) (p := e116) (q := (-1))) ?_
            refine oP (.d (.bool (e116 == (-1)))) p_assign ?_
            refine oEnd ?_
            refine bSplit 63 (h1 := fun hc => ?_) (h2 := fun hc => ?_)
            ·refine oCondT (h := ?_)
             refine oRegion rfl ?_
             refine oP (.ref 1 (List.length xs11) 0 (List.length xs11)) p_move ?_
             refine oD (.ref 3 (List.length ([(-1)] : List Int)) 0 (List.length ([(-1)] : List Int))) (k_buildSlice (H' := [.box [.d (.lit (List.map e_Li64 s0)), .d (.lit (List.map e_i64 s1))], .sl 1 (List.map e_i64 xs11) false, .box [.d (.int .i64 e115.Kind), .d (.int .i64 e115.Max), .d (.int .i64 e115.Topic), .d (.int .i64 e115.Objective), .d (.int .i64 e115.Options), .d (.int .i64 e115.Key)], .sl 1 (List.map e_i64 ([(-1)] : List Int)) false]) (List.map e_i64 ([(-1)] : List Int)) Try.underlying22 ty3) ?_
             refine bCap (fun h163 => ?_)
             refine oD (.ref 1 (List.length (xs11 ++ ([(-1)] : List Int))) 0 (List.length (xs11 ++ ([(-1)] : List Int)))) (k_append (H' := [.box [.d (.lit (List.map e_Li64 s0)), .d (.lit (List.map e_i64 s1))], .sl 1 (List.map e_i64 (xs11 ++ ([(-1)] : List Int))) false, .box [.d (.int .i64 e115.Kind), .d (.int .i64 e115.Max), .d (.int .i64 e115.Topic), .d (.int .i64 e115.Objective), .d (.int .i64 e115.Options), .d (.int .i64 e115.Key)], .sl 1 (List.map e_i64 ([(-1)] : List Int)) false]) (enc := e_i64) 1 xs11 ([(-1)] : List Int) Try.underlying22 Try.underlying22 ty3 (hy := (holdsRef (enc := e_i64) 3 ([(-1)] : List Int) false)) (hfit := h163)) ?_
             refine oP (.ref 1 (List.length (xs11 ++ ([(-1)] : List Int))) 0 (List.length (xs11 ++ ([(-1)] : List Int)))) p_assign ?_
             refine oEnd ?_
             refine oBlk ?_
             refine oBlk ?_
             refine oHead [2, 4, 8, 25, 26, 27] [0, 1] (T' := [(2, .d (.lit (List.map e_i64 answers))), (4, .ptr 0 0), (8, .ref 1 (List.length (xs11 ++ ([(-1)] : List Int))) 0 (List.length (xs11 ++ ([(-1)] : List Int)))), (25, .d (.lit (List.map e_SPart p2))), (26, .d (.int .i64 ((List.length p2) : Int))), (27, .d (.int .i64 x19))]) (H' := [.box [.d (.lit (List.map e_Li64 s0)), .d (.lit (List.map e_i64 s1))], .sl 1 (List.map e_i64 (xs11 ++ ([(-1)] : List Int))) false]) (hnd := by decide) (h := ?_)
             exact hj9 (xs11 ++ ([(-1)] : List Int))
            ·refine oCondF (h := ?_)
             refine oSeq ?_
             refine oDraw [(0, 9), (1, 9), (2, 9)] rfl ?_
             refine aQ 0 [2] (.agg [.d (.int .i64 e115.Kind), .d (.int .i64 e115.Max), .d (.int .i64 e115.Topic), .d (.int .i64 e115.Objective), .d (.int .i64 e115.Options), .d (.int .i64 e115.Key)]) rfl (k_loadAgg 2 0 (hu := Try.underlying49) (hi := ty49)) ?_
             refine aP 1 (.ptr 0 0) rfl (k_fieldAddr 0 0 (hu := Try.underlying31) (hf := rfl) (hi := ty29)) ?_
             refine aQ 2 [0] (.d (.lit (List.map e_Li64 s0))) rfl (k_load 0 0 (hu := Try.underlying29)) ?_
             refine aP 3 (.d (.int .i64 x19)) rfl p_move ?_
             refine dIdx (fun e12 h16 h17 => ?_)
             refine aP 4 (.lptr (e_Li64 e12) 0) rfl (k_idxLit e_Li64_len s0 (a := e12) (k := .i64) (i := x19) (hu := Try.underlying29) (hi := ty22) (h0 := h16) (he := h17)) ?_
             refine aQ 5 [] (.d (.lit (List.map e_i64 e12))) rfl (k_loadL (cells := e_Li64 e12) 0 (hu := Try.underlying22)) ?_
             refine aP 6 (.d (.int .i64 e116)) rfl p_move ?_
             refine dCall (i := 7) (caps := []) (v := (fun (r12 : Bool) => (.d (.bool r12) : V))) (H' := (fun (r12 : Bool) => ([.box [.d (.lit (List.map e_Li64 s0)), .d (.lit (List.map e_i64 s1))], .sl 1 (List.map e_i64 xs11) false, .box [.d (.int .i64 e115.Kind), .d (.int .i64 e115.Max), .d (.int .i64 e115.Topic), .d (.int .i64 e115.Objective), .d (.int .i64 e115.Options), .d (.int .i64 e115.Key)]] : List Blk))) [] _ (scheme_accepts_goes k e115.Kind e115.Max e115.Topic e115.Objective e115.Options e115.Key e12 e116) rfl (ho := rfl) (hfn := Try.func44) (hb := rfl) (hconv := ConvRs.refl _ _) (hnd := by decide) (hBl := fun _ => (by kernel_rfl)) (hv := fun _ => (by kernel_rfl)) (hH' := fun _ => (by kernel_rfl)) (h := fun r12 => ?_)
             refine aP 8 (.d (.bool r12)) rfl p_assign ?_
             refine aDone (h := ?_)
             refine bSplit 69 (h1 := fun hc => ?_) (h2 := fun hc => ?_)
             ·refine oCondT (h := ?_)
              refine oRegion rfl ?_
              refine oP (.ref 1 (List.length xs11) 0 (List.length xs11)) p_move ?_
              refine oP (.ptr 2 1) (k_fieldAddr 2 0 (hu := Try.underlying49) (hf := rfl) (hi := ty3)) ?_
              refine oQ (.d (.int .i64 e115.Max)) (k_load 2 1 (hu := Try.underlying3)) ?_
              refine oD (.ref 3 (List.length ([e115.Max] : List Int)) 0 (List.length ([e115.Max] : List Int))) (k_buildSlice (H' := [.box [.d (.lit (List.map e_Li64 s0)), .d (.lit (List.map e_i64 s1))], .sl 1 (List.map e_i64 xs11) false, .box [.d (.int .i64 e115.Kind), .d (.int .i64 e115.Max), .d (.int .i64 e115.Topic), .d (.int .i64 e115.Objective), .d (.int .i64 e115.Options), .d (.int .i64 e115.Key)], .sl 1 (List.map e_i64 ([e115.Max] : List Int)) false]) (List.map e_i64 ([e115.Max] : List Int)) Try.underlying22 ty3) ?_
              refine bCap (fun h164 => ?_)
              refine oD (.ref 1 (List.length (xs11 ++ ([e115.Max] : List Int))) 0 (List.length (xs11 ++ ([e115.Max] : List Int)))) (k_append (H' := [.box [.d (.lit (List.map e_Li64 s0)), .d (.lit (List.map e_i64 s1))], .sl 1 (List.map e_i64 (xs11 ++ ([e115.Max] : List Int))) false, .box [.d (.int .i64 e115.Kind), .d (.int .i64 e115.Max), .d (.int .i64 e115.Topic), .d (.int .i64 e115.Objective), .d (.int .i64 e115.Options), .d (.int .i64 e115.Key)], .sl 1 (List.map e_i64 ([e115.Max] : List Int)) false]) (enc := e_i64) 1 xs11 ([e115.Max] : List Int) Try.underlying22 Try.underlying22 ty3 (hy := (holdsRef (enc := e_i64) 3 ([e115.Max] : List Int) false)) (hfit := h164)) ?_
              refine oP (.ref 1 (List.length (xs11 ++ ([e115.Max] : List Int))) 0 (List.length (xs11 ++ ([e115.Max] : List Int)))) p_assign ?_
              refine oEnd ?_
              refine oBlk ?_
              refine oBlk ?_
              refine oHead [2, 4, 8, 25, 26, 27] [0, 1] (T' := [(2, .d (.lit (List.map e_i64 answers))), (4, .ptr 0 0), (8, .ref 1 (List.length (xs11 ++ ([e115.Max] : List Int))) 0 (List.length (xs11 ++ ([e115.Max] : List Int)))), (25, .d (.lit (List.map e_SPart p2))), (26, .d (.int .i64 ((List.length p2) : Int))), (27, .d (.int .i64 x19))]) (H' := [.box [.d (.lit (List.map e_Li64 s0)), .d (.lit (List.map e_i64 s1))], .sl 1 (List.map e_i64 (xs11 ++ ([e115.Max] : List Int))) false]) (hnd := by decide) (h := ?_)
              exact hj9 (xs11 ++ ([e115.Max] : List Int))
             ·refine oCondF (h := ?_)
              refine oRegion rfl ?_
              refine oP (.ref 1 (List.length xs11) 0 (List.length xs11)) p_move ?_
              refine oD (.ref 3 (List.length ([0] : List Int)) 0 (List.length ([0] : List Int))) (k_buildSlice (H' := [.box [.d (.lit (List.map e_Li64 s0)), .d (.lit (List.map e_i64 s1))], .sl 1 (List.map e_i64 xs11) false, .box [.d (.int .i64 e115.Kind), .d (.int .i64 e115.Max), .d (.int .i64 e115.Topic), .d (.int .i64 e115.Objective), .d (.int .i64 e115.Options), .d (.int .i64 e115.Key)], .sl 1 (List.map e_i64 ([0] : List Int)) false]) (List.map e_i64 ([0] : List Int)) Try.underlying22 ty3) ?_
              refine bCap (fun h165 => ?_)
              refine oD (.ref 1 (List.length (xs11 ++ ([0] : List Int))) 0 (List.length (xs11 ++ ([0] : List Int)))) (k_append (H' := [.box [.d (.lit (List.map e_Li64 s0)), .d (.lit (List.map e_i64 s1))], .sl 1 (List.map e_i64 (xs11 ++ ([0] : List Int))) false, .box [.d (.int .i64 e115.Kind), .d (.int .i64 e115.Max), .d (.int .i64 e115.Topic), .d (.int .i64 e115.Objective), .d (.int .i64 e115.Options), .d (.int .i64 e115.Key)], .sl 1 (List.map e_i64 ([0] : List Int)) false]) (enc := e_i64) 1 xs11 ([0] : List Int) Try.underlying22 Try.underlying22 ty3 (hy := (holdsRef (enc := e_i64) 3 ([0] : List Int) false)) (hfit := h165)) ?_
              refine oP (.ref 1 (List.length (xs11 ++ ([0] : List Int))) 0 (List.length (xs11 ++ ([0] : List Int)))) p_assign ?_
              refine oEnd ?_
              refine oBlk ?_
              refine oBlk ?_
              refine oHead [2, 4, 8, 25, 26, 27] [0, 1] (T' := [(2, .d (.lit (List.map e_i64 answers))), (4, .ptr 0 0), (8, .ref 1 (List.length (xs11 ++ ([0] : List Int))) 0 (List.length (xs11 ++ ([0] : List Int)))), (25, .d (.lit (List.map e_SPart p2))), (26, .d (.int .i64 ((List.length p2) : Int))), (27, .d (.int .i64 x19))]) (H' := [.box [.d (.lit (List.map e_Li64 s0)), .d (.lit (List.map e_i64 s1))], .sl 1 (List.map e_i64 (xs11 ++ ([0] : List Int))) false]) (hnd := by decide) (h := ?_)
              exact hj9 (xs11 ++ ([0] : List Int))
          ·refine bSplit 53 (h1 := fun hc => ?_) (h2 := fun hc => ?_)
           ·refine oP (.d (.int .i64 e116)) p_move ?_
            refine oP (.d (.bool (decide (e116 < 0)))) (p_int (k := .i64) (p := e116) (q := 0)) ?_
            refine oP (.d (.bool (decide (e116 < 0)))) p_move ?_
            refine bMeetF (H' := [.box [.d (.lit (List.map e_Li64 s0)), .d (.lit (List.map e_i64 s1))], .sl 1 (List.map e_i64 xs11) false, .box [.d (.int .i64 e115.Kind), .d (.int .i64 e115.Max), .d (.int .i64 e115.Topic), .d (.int .i64 e115.Objective), .d (.int .i64 e115.Options), .d (.int .i64 e115.Key)]]) 5 rfl ((fun (x30 : Bool) => [(2, .d (.lit (List.map e_i64 answers))), (4, .ptr 0 0), (8, .ref 1 (List.length xs11) 0 (List.length xs11)), (9, .d (.int .i64 x19)), (10, .ptr 2 0), (11, .d (.int .i64 e116)), (25, .d (.lit (List.map e_SPart p2))), (26, .d (.int .i64 ((List.length p2) : Int))), (27, .d (.int .i64 x19)), (53, .d (.bool true)), (61, .d (.bool x30))])) (fun x30 => ?_) (fun F hj12 => ?_)
            ·refine oView (T' := [(2, .d (.lit (List.map e_i64 answers))), (4, .ptr 0 0), (8, .ref 1 (List.length xs11) 0 (List.length xs11)), (9, .d (.int .i64 x19)), (10, .ptr 2 0), (11, .d (.int .i64 e116)), (25, .d (.lit (List.map e_SPart p2))), (26, .d (.int .i64 ((List.length p2) : Int))), (27, .d (.int .i64 x19)), (53, .d (.bool true)), (61, .d (.bool x30))]) (H' := [.box [.d (.lit (List.map e_Li64 s0)), .d (.lit (List.map e_i64 s1))], .sl 1 (List.map e_i64 xs11) false, .box [.d (.int .i64 e115.Kind), .d (.int .i64 e115.Max), .d (.int .i64 e115.Topic), .d (.int .i64 e115.Objective), .d (.int .i64 e115.Options), .d (.int .i64 e115.Key)]]) (h := ?_)
             refine oP (.d (.bool x30)) (p_pick (b := true)) ?_
             refine oHead [2, 4, 8, 9, 10, 11, 25, 26, 27, 62] [0, 1, 2] (T' := [(2, .d (.lit (List.map e_i64 answers))), (4, .ptr 0 0), (8, .ref 1 (List.length xs11) 0 (List.length xs11)), (9, .d (.int .i64 x19)), (10, .ptr 2 0), (11, .d (.int .i64 e116)), (25, .d (.lit (List.map e_SPart p2))), (26, .d (.int .i64 ((List.length p2) : Int))), (27, .d (.int .i64 x19)), (62, .d (.bool x30))]) (H' := [.box [.d (.lit (List.map e_Li64 s0)), .d (.lit (List.map e_i64 s1))], .sl 1 (List.map e_i64 xs11) false, .box [.d (.int .i64 e115.Kind), .d (.int .i64 e115.Max), .d (.int .i64 e115.Topic), .d (.int .i64 e115.Objective), .d (.int .i64 e115.Options), .d (.int .i64 e115.Key)]]) (hnd := by decide) (h := ?_)
             exact hj11 x30
            ·refine bPickF 56 (fun c => F (c || (decide (e116 ≥ e115.Options)))) (h1 := fun hc => ?_) (h2 := fun hc => ?_)
             ·refine oNot (h := ?_)
              refine oNot (h := ?_)
              refine oNot (h := ?_)
              refine oNot (h := ?_)
              refine oP (.d (.bool true)) (p_pick (b := true)) ?_
              refine oHead [2, 4, 8, 9, 10, 11, 25, 26, 27, 53, 61] [0, 1, 2] (T' := [(2, .d (.lit (List.map e_i64 answers))), (4, .ptr 0 0), (8, .ref 1 (List.length xs11) 0 (List.length xs11)), (9, .d (.int .i64 x19)), (10, .ptr 2 0), (11, .d (.int .i64 e116)), (25, .d (.lit (List.map e_SPart p2))), (26, .d (.int .i64 ((List.length p2) : Int))), (27, .d (.int .i64 x19)), (53, .d (.bool true)), (61, .d (.bool true))]) (H' := [.box [.d (.lit (List.map e_Li64 s0)), .d (.lit (List.map e_i64 s1))], .sl 1 (List.map e_i64 xs11) false, .box [.d (.int .i64 e115.Kind), .d (.int .i64 e115.Max), .d (.int .i64 e115.Topic), .d (.int .i64 e115.Objective), .d (.int .i64 e115.Options), .d (.int .i64 e115.Key)]]) (hnd := by decide) (h := ?_)
              exact hj12 true
             ·refine oP (.d (.int .i64 e116)) p_move ?_
              refine oP (.ptr 2 4) (k_fieldAddr 2 0 (hu := Try.underlying49) (hf := rfl) (hi := ty3)) ?_
              refine oQ (.d (.int .i64 e115.Options)) (k_load 2 4 (hu := Try.underlying3)) ?_
              refine oP (.d (.bool (decide (e116 ≥ e115.Options)))) (p_int (k := .i64) (p := e116) (q := e115.Options)) ?_
              refine oP (.d (.bool (decide (e116 ≥ e115.Options)))) (p_pick (b := false)) ?_
              refine oHead [2, 4, 8, 9, 10, 11, 25, 26, 27, 53, 61] [0, 1, 2] (T' := [(2, .d (.lit (List.map e_i64 answers))), (4, .ptr 0 0), (8, .ref 1 (List.length xs11) 0 (List.length xs11)), (9, .d (.int .i64 x19)), (10, .ptr 2 0), (11, .d (.int .i64 e116)), (25, .d (.lit (List.map e_SPart p2))), (26, .d (.int .i64 ((List.length p2) : Int))), (27, .d (.int .i64 x19)), (53, .d (.bool true)), (61, .d (.bool (decide (e116 ≥ e115.Options))))]) (H' := [.box [.d (.lit (List.map e_Li64 s0)), .d (.lit (List.map e_i64 s1))], .sl 1 (List.map e_i64 xs11) false, .box [.d (.int .i64 e115.Kind), .d (.int .i64 e115.Max), .d (.int .i64 e115.Topic), .d (.int .i64 e115.Objective), .d (.int .i64 e115.Options), .d (.int .i64 e115.Key)]]) (hnd := by decide) (h := ?_)
              exact hj12 (decide (e116 ≥ e115.Options))
           ·refine oNot (h := ?_)
            refine oNot (h := ?_)
            refine oNot (h := ?_)
            refine oNot (h := ?_)
            refine oNot (h := ?_)
            refine oNot (h := ?_)
            refine oNot (h := ?_)
            refine oNot (h := ?_)
            refine oP (.d (.bool false)) (p_pick (b := false)) ?_
            refine oHead [2, 4, 8, 9, 10, 11, 25, 26, 27, 62] [0, 1, 2] (T' := [(2, .d (.lit (List.map e_i64 answers))), (4, .ptr 0 0), (8, .ref 1 (List.length xs11) 0 (List.length xs11)), (9, .d (.int .i64 x19)), (10, .ptr 2 0), (11, .d (.int .i64 e116)), (25, .d (.lit (List.map e_SPart p2))), (26, .d (.int .i64 ((List.length p2) : Int))), (27, .d (.int .i64 x19)), (62, .d (.bool false))]) (H' := [.box [.d (.lit (List.map e_Li64 s0)), .d (.lit (List.map e_i64 s1))], .sl 1 (List.map e_i64 xs11) false, .box [.d (.int .i64 e115.Kind), .d (.int .i64 e115.Max), .d (.int .i64 e115.Topic), .d (.int .i64 e115.Objective), .d (.int .i64 e115.Options), .d (.int .i64 e115.Key)]]) (hnd := by decide) (h := ?_)
            exact hj11 false
         ·refine bPickF 49 (fun c => F (c && (e116 != (-1)))) (h1 := fun hc => ?_) (h2 := fun hc => ?_)
          ·refine oP (.d (.int .i64 e116)) p_move ?_
           refine oP (.d (.bool (e116 != (-1)))) (p_int (k := .i64) (p := e116) (q := (-1))) ?_
           refine oP (.d (.bool (e116 != (-1)))) (p_pick (b := true)) ?_
           refine oHead [2, 4, 8, 9, 10, 11, 25, 26, 27, 52] [0, 1, 2] (T' := [(2, .d (.lit (List.map e_i64 answers))), (4, .ptr 0 0), (8, .ref 1 (List.length xs11) 0 (List.length xs11)), (9, .d (.int .i64 x19)), (10, .ptr 2 0), (11, .d (.int .i64 e116)), (25, .d (.lit (List.map e_SPart p2))), (26, .d (.int .i64 ((List.length p2) : Int))), (27, .d (.int .i64 x19)), (52, .d (.bool (e116 != (-1))))]) (H' := [.box [.d (.lit (List.map e_Li64 s0)), .d (.lit (List.map e_i64 s1))], .sl 1 (List.map e_i64 xs11) false, .box [.d (.int .i64 e115.Kind), .d (.int .i64 e115.Max), .d (.int .i64 e115.Topic), .d (.int .i64 e115.Objective), .d (.int .i64 e115.Options), .d (.int .i64 e115.Key)]]) (hnd := by decide) (h := ?_)
           exact hj10 (e116 != (-1))
          ·refine oNot (h := ?_)
           refine oNot (h := ?_)
           refine oP (.d (.bool false)) (p_pick (b := false)) ?_
           refine oHead [2, 4, 8, 9, 10, 11, 25, 26, 27, 52] [0, 1, 2] (T' := [(2, .d (.lit (List.map e_i64 answers))), (4, .ptr 0 0), (8, .ref 1 (List.length xs11) 0 (List.length xs11)), (9, .d (.int .i64 x19)), (10, .ptr 2 0), (11, .d (.int .i64 e116)), (25, .d (.lit (List.map e_SPart p2))), (26, .d (.int .i64 ((List.length p2) : Int))), (27, .d (.int .i64 x19)), (52, .d (.bool false))]) (H' := [.box [.d (.lit (List.map e_Li64 s0)), .d (.lit (List.map e_i64 s1))], .sl 1 (List.map e_i64 xs11) false, .box [.d (.int .i64 e115.Kind), .d (.int .i64 e115.Max), .d (.int .i64 e115.Topic), .d (.int .i64 e115.Objective), .d (.int .i64 e115.Options), .d (.int .i64 e115.Key)]]) (hnd := by decide) (h := ?_)
           exact hj10 false
      ·refine oCondF (h := ?_)
       refine oExit rfl ?_
       refine oHead [8] [1] (T' := [(8, .ref 0 (List.length xs11) 0 (List.length xs11))]) (H' := [.sl 1 (List.map e_i64 xs11) false]) (hnd := by decide) (h := ?_)
       exact hj6 xs11

/-- awardingbody/scheme.permitted -/
def scheme_permitted (k : Nat) (x0 : Int) (x1 : Int) (x2 : Int) (x3 : Int) (x4 : Int) (x5 : Int) (mark1 : Int) : Option (Bool) := blet ((mark1 == (-1)) || (mark1 == 0)) fun x10 => blet (x10 || (mark1 == x1)) fun x11 => Option.bind (bif x11 then some true else blet ((x0 == 1) && (decide (mark1 > 0))) fun x15 => blet (x15 && (decide (mark1 < x1))) fun x16 => some x16 : Option (Bool)) (fun x14 => some x14)
def scheme_permitted_E (x0 : Int) (x1 : Int) (x2 : Int) (x3 : Int) (x4 : Int) (x5 : Int) (mark1 : Int) : Bool → V × List Blk := fun r1 => (.d (.bool r1), [])
theorem scheme_permitted_goes (k : Nat) (x0 : Int) (x1 : Int) (x2 : Int) (x3 : Int) (x4 : Int) (x5 : Int) (mark1 : Int) : RunsO Try.prog 56 [.agg [.d (.int .i64 x0), .d (.int .i64 x1), .d (.int .i64 x2), .d (.int .i64 x3), .d (.int .i64 x4), .d (.int .i64 x5)], .d (.int .i64 mark1)] [] (scheme_permitted_E x0 x1 x2 x3 x4 x5 mark1) (scheme_permitted k x0 x1 x2 x3 x4 x5 mark1) := by
  refine RunsO.of_goes (N := 32) (m := 0) (T := [(0, .agg [.d (.int .i64 x0), .d (.int .i64 x1), .d (.int .i64 x2), .d (.int .i64 x3), .d (.int .i64 x4), .d (.int .i64 x5)]), (1, .d (.int .i64 mark1))]) Try.func56 rfl rfl (h := ?_)
  unfold scheme_permitted
  refine bStart ?_
  refine oSR rfl ?_
  refine oD (.ptr 0 0) (k_box (H' := [.box [.d (.int .i64 x0), .d (.int .i64 x1), .d (.int .i64 x2), .d (.int .i64 x3), .d (.int .i64 x4), .d (.int .i64 x5)]]) (cells := [.d (.int .i64 x0), .d (.int .i64 x1), .d (.int .i64 x2), .d (.int .i64 x3), .d (.int .i64 x4), .d (.int .i64 x5)])) ?_
  refine oP (.d (.bool false)) p_assign ?_
  refine oEnd ?_
  refine oSR rfl ?_
  refine oP (.d (.int .i64 mark1)) p_move ?_
  refine oP (.d (.bool (mark1 == (-1)))) (p_int (k := .i64) (p := mark1) (q := (-1))) ?_
  refine oP (.d (.bool (mark1 == (-1)))) p_move ?_
  refine bMeetF (H' := [.box [.d (.int .i64 x0), .d (.int .i64 x1), .d (.int .i64 x2), .d (.int .i64 x3), .d (.int .i64 x4), .d (.int .i64 x5)]]) 3 rfl ((fun (x10 : Bool) => [(1, .d (.int .i64 mark1)), (2, .ptr 0 0), (10, .d (.bool x10))])) (fun x10 => ?_) (fun F hj1 => ?_)
  ·refine oView (T' := [(1, .d (.int .i64 mark1)), (2, .ptr 0 0), (10, .d (.bool x10))]) (H' := [.box [.d (.int .i64 x0), .d (.int .i64 x1), .d (.int .i64 x2), .d (.int .i64 x3), .d (.int .i64 x4), .d (.int .i64 x5)]]) (h := ?_)
   refine oP (.d (.bool x10)) p_move ?_
   refine bMeetF (H' := [.box [.d (.int .i64 x0), .d (.int .i64 x1), .d (.int .i64 x2), .d (.int .i64 x3), .d (.int .i64 x4), .d (.int .i64 x5)]]) 5 rfl ((fun (x11 : Bool) => [(1, .d (.int .i64 mark1)), (2, .ptr 0 0), (16, .d (.bool x11))])) (fun x11 => ?_) (fun F hj2 => ?_)
   ·refine oView (T' := [(1, .d (.int .i64 mark1)), (2, .ptr 0 0), (16, .d (.bool x11))]) (H' := [.box [.d (.int .i64 x0), .d (.int .i64 x1), .d (.int .i64 x2), .d (.int .i64 x3), .d (.int .i64 x4), .d (.int .i64 x5)]]) (h := ?_)
    refine oP (.d (.bool x11)) p_move ?_
    refine bMeet 14 rfl ((fun (x14 : Bool) => [(31, .d (.bool x14))])) ((fun (x14 : Bool) => [])) (fun s => s) (fun x14 => ?_) (fun hj3 => ?_)
    ·refine oView (T' := [(31, .d (.bool x14))]) (H' := []) (h := ?_)
     refine oP (.d (.bool x14)) p_assign ?_
     refine oEnd ?_
     exact oRet (r0 := x14) (rv := .d (.bool x14)) (B := []) (vs := [.d (.bool x14)]) (σ := []) (hf := Try.func56) (hrs := rfl) (hres := .cons _ _ _ _ (.tmp 4 _ (by kernel_rfl)) .nil) (hnd := by decide)
    ·refine bSplit 17 (h1 := fun hc => ?_) (h2 := fun hc => ?_)
     ·refine oNot (h := ?_)
      refine oNot (h := ?_)
      refine oNot (h := ?_)
      refine oNot (h := ?_)
      refine oNot (h := ?_)
      refine oNot (h := ?_)
      refine oNot (h := ?_)
      refine oNot (h := ?_)
      refine oNot (h := ?_)
      refine oNot (h := ?_)
      refine oNot (h := ?_)
      refine oNot (h := ?_)
      refine oNot (h := ?_)
      refine oP (.d (.bool true)) (p_pick (b := true)) ?_
      refine oHead [31] [] (T' := [(31, .d (.bool true))]) (H' := []) (hnd := by decide) (h := ?_)
      exact hj3 true
     ·refine oP (.ptr 0 0) (k_fieldAddr 0 0 (hu := Try.underlying49) (hf := rfl) (hi := ty3)) ?_
      refine oQ (.d (.int .i64 x0)) (k_load 0 0 (hu := Try.underlying3)) ?_
      refine oP (.d (.bool (x0 == 1))) (p_int (k := .i64) (p := x0) (q := 1)) ?_
      refine oP (.d (.bool (x0 == 1))) p_move ?_
      refine bMeetF (H' := [.box [.d (.int .i64 x0), .d (.int .i64 x1), .d (.int .i64 x2), .d (.int .i64 x3), .d (.int .i64 x4), .d (.int .i64 x5)]]) 3 rfl ((fun (x15 : Bool) => [(1, .d (.int .i64 mark1)), (2, .ptr 0 0), (17, .d (.bool false)), (24, .d (.bool x15))])) (fun x15 => ?_) (fun F hj4 => ?_)
      ·refine oView (T' := [(1, .d (.int .i64 mark1)), (2, .ptr 0 0), (17, .d (.bool false)), (24, .d (.bool x15))]) (H' := [.box [.d (.int .i64 x0), .d (.int .i64 x1), .d (.int .i64 x2), .d (.int .i64 x3), .d (.int .i64 x4), .d (.int .i64 x5)]]) (h := ?_)
       refine oP (.d (.bool x15)) p_move ?_
       refine bMeetF (H' := []) 5 rfl ((fun (x16 : Bool) => [(17, .d (.bool false)), (30, .d (.bool x16))])) (fun x16 => ?_) (fun F hj5 => ?_)
       ·refine oView (T' := [(17, .d (.bool false)), (30, .d (.bool x16))]) (H' := []) (h := ?_)
        refine oP (.d (.bool x16)) (p_pick (b := false)) ?_
        refine oHead [31] [] (T' := [(31, .d (.bool x16))]) (H' := []) (hnd := by decide) (h := ?_)
        exact hj3 x16
       ·refine bPickF 25 (fun c => F (c && (decide (mark1 < x1)))) (h1 := fun hc => ?_) (h2 := fun hc => ?_)
        ·refine oP (.d (.int .i64 mark1)) p_move ?_
         refine oP (.ptr 0 1) (k_fieldAddr 0 0 (hu := Try.underlying49) (hf := rfl) (hi := ty3)) ?_
         refine oQ (.d (.int .i64 x1)) (k_load 0 1 (hu := Try.underlying3)) ?_
         refine oP (.d (.bool (decide (mark1 < x1)))) (p_int (k := .i64) (p := mark1) (q := x1)) ?_
         refine oP (.d (.bool (decide (mark1 < x1)))) (p_pick (b := true)) ?_
         refine oHead [17, 30] [] (T' := [(17, .d (.bool false)), (30, .d (.bool (decide (mark1 < x1))))]) (H' := []) (hnd := by decide) (h := ?_)
         exact hj5 (decide (mark1 < x1))
        ·refine oNot (h := ?_)
         refine oNot (h := ?_)
         refine oNot (h := ?_)
         refine oNot (h := ?_)
         refine oP (.d (.bool false)) (p_pick (b := false)) ?_
         refine oHead [17, 30] [] (T' := [(17, .d (.bool false)), (30, .d (.bool false))]) (H' := []) (hnd := by decide) (h := ?_)
         exact hj5 false
      ·refine bPickF 21 (fun c => F (c && (decide (mark1 > 0)))) (h1 := fun hc => ?_) (h2 := fun hc => ?_)
       ·refine oP (.d (.int .i64 mark1)) p_move ?_
        refine oP (.d (.bool (decide (mark1 > 0)))) (p_int (k := .i64) (p := mark1) (q := 0)) ?_
        refine oP (.d (.bool (decide (mark1 > 0)))) (p_pick (b := true)) ?_
        refine oHead [1, 2, 17, 24] [0] (T' := [(1, .d (.int .i64 mark1)), (2, .ptr 0 0), (17, .d (.bool false)), (24, .d (.bool (decide (mark1 > 0))))]) (H' := [.box [.d (.int .i64 x0), .d (.int .i64 x1), .d (.int .i64 x2), .d (.int .i64 x3), .d (.int .i64 x4), .d (.int .i64 x5)]]) (hnd := by decide) (h := ?_)
        exact hj4 (decide (mark1 > 0))
       ·refine oNot (h := ?_)
        refine oNot (h := ?_)
        refine oP (.d (.bool false)) (p_pick (b := false)) ?_
        refine oHead [1, 2, 17, 24] [0] (T' := [(1, .d (.int .i64 mark1)), (2, .ptr 0 0), (17, .d (.bool false)), (24, .d (.bool false))]) (H' := [.box [.d (.int .i64 x0), .d (.int .i64 x1), .d (.int .i64 x2), .d (.int .i64 x3), .d (.int .i64 x4), .d (.int .i64 x5)]]) (hnd := by decide) (h := ?_)
        exact hj4 false
   ·refine bPickF 11 (fun c => F (c || (mark1 == x1))) (h1 := fun hc => ?_) (h2 := fun hc => ?_)
    ·refine oNot (h := ?_)
     refine oNot (h := ?_)
     refine oNot (h := ?_)
     refine oNot (h := ?_)
     refine oP (.d (.bool true)) (p_pick (b := true)) ?_
     refine oHead [1, 2, 16] [0] (T' := [(1, .d (.int .i64 mark1)), (2, .ptr 0 0), (16, .d (.bool true))]) (H' := [.box [.d (.int .i64 x0), .d (.int .i64 x1), .d (.int .i64 x2), .d (.int .i64 x3), .d (.int .i64 x4), .d (.int .i64 x5)]]) (hnd := by decide) (h := ?_)
     exact hj2 true
    ·refine oP (.d (.int .i64 mark1)) p_move ?_
     refine oP (.ptr 0 1) (k_fieldAddr 0 0 (hu := Try.underlying49) (hf := rfl) (hi := ty3)) ?_
     refine oQ (.d (.int .i64 x1)) (k_load 0 1 (hu := Try.underlying3)) ?_
     refine oP (.d (.bool (mark1 == x1))) (p_int (k := .i64) (p := mark1) (q := x1)) ?_
     refine oP (.d (.bool (mark1 == x1))) (p_pick (b := false)) ?_
     refine oHead [1, 2, 16] [0] (T' := [(1, .d (.int .i64 mark1)), (2, .ptr 0 0), (16, .d (.bool (mark1 == x1)))]) (H' := [.box [.d (.int .i64 x0), .d (.int .i64 x1), .d (.int .i64 x2), .d (.int .i64 x3), .d (.int .i64 x4), .d (.int .i64 x5)]]) (hnd := by decide) (h := ?_)
     exact hj2 (mark1 == x1)
  ·refine bPickF 7 (fun c => F (c || (mark1 == 0))) (h1 := fun hc => ?_) (h2 := fun hc => ?_)
   ·refine oNot (h := ?_)
    refine oNot (h := ?_)
    refine oP (.d (.bool true)) (p_pick (b := true)) ?_
    refine oHead [1, 2, 10] [0] (T' := [(1, .d (.int .i64 mark1)), (2, .ptr 0 0), (10, .d (.bool true))]) (H' := [.box [.d (.int .i64 x0), .d (.int .i64 x1), .d (.int .i64 x2), .d (.int .i64 x3), .d (.int .i64 x4), .d (.int .i64 x5)]]) (hnd := by decide) (h := ?_)
    exact hj1 true
   ·refine oP (.d (.int .i64 mark1)) p_move ?_
    refine oP (.d (.bool (mark1 == 0))) (p_int (k := .i64) (p := mark1) (q := 0)) ?_
    refine oP (.d (.bool (mark1 == 0))) (p_pick (b := false)) ?_
    refine oHead [1, 2, 10] [0] (T' := [(1, .d (.int .i64 mark1)), (2, .ptr 0 0), (10, .d (.bool (mark1 == 0)))]) (H' := [.box [.d (.int .i64 x0), .d (.int .i64 x1), .d (.int .i64 x2), .d (.int .i64 x3), .d (.int .i64 x4), .d (.int .i64 x5)]]) (hnd := by decide) (h := ?_)
    exact hj1 (mark1 == 0)

/-- awardingbody/scheme.Marked -/
def scheme_Marked_b1 (k : Nat) (p2 : (List SPart)) (s1 : (List Int)) (marks : (List Int)) (again : Int → Option ((Unit) ⊕ (Bool))) : Int → Option ((Unit) ⊕ (Bool)) := fun x26 => bif (decide (x26 < ((List.length p2) : Int))) then gidx p2 x26 fun e115 => gidx s1 x26 fun e11 => Option.bind (bif (e11 == 0) then gidx marks x26 fun e12 => Option.bind (scheme_permitted k e115.Kind e115.Max e115.Topic e115.Objective e115.Options e115.Key e12) (fun r11 => some (!r11)) else some false : Option Bool) (fun x35 => bif x35 then some (Sum.inr false) else again (IntKind.wrap .i64 (x26 + 1))) else some (Sum.inl ())
def scheme_Marked (k : Nat) (p0 : Int) (p1 : Int) (p2 : (List SPart)) (s0 : (List (List Int))) (s1 : (List Int)) (marks : (List Int)) : Option (Bool) := Option.bind (scheme_Valid k p0 p1 p2 s0 s1) (fun r13 => blet ((!r13) || (((List.length marks) : Int) != ((List.length p2) : Int))) fun x11 => bif x11 then some false else Option.bind (gloop (scheme_Marked_b1 k p2 s1 marks) k 0 : Option ((Unit) ⊕ (Bool))) (Sum.elim (u0 (some true)) (fun r => some r)))
def scheme_Marked_E (p0 : Int) (p1 : Int) (p2 : (List SPart)) (s0 : (List (List Int))) (s1 : (List Int)) (marks : (List Int)) : Bool → V × List Blk := fun r12 => (.d (.bool r12), [])
theorem scheme_Marked_goes (k : Nat) (p0 : Int) (p1 : Int) (p2 : (List SPart)) (s0 : (List (List Int))) (s1 : (List Int)) (marks : (List Int)) : RunsO Try.prog 36 [.agg [.d (.int .i64 p0), .d (.int .i64 p1), .d (.lit (List.map e_SPart p2))], .agg [.d (.lit (List.map e_Li64 s0)), .d (.lit (List.map e_i64 s1))], .d (.lit (List.map e_i64 marks))] [] (scheme_Marked_E p0 p1 p2 s0 s1 marks) (scheme_Marked k p0 p1 p2 s0 s1 marks) := by
  refine RunsO.of_goes (N := 45) (m := 0) (T := [(0, .agg [.d (.int .i64 p0), .d (.int .i64 p1), .d (.lit (List.map e_SPart p2))]), (1, .agg [.d (.lit (List.map e_Li64 s0)), .d (.lit (List.map e_i64 s1))]), (2, .d (.lit (List.map e_i64 marks)))]) Try.func36 rfl rfl (h := ?_)
  unfold scheme_Marked
  refine bStart ?_
  refine oSR rfl ?_
  refine oD (.ptr 0 0) (k_box (H' := [.box [.d (.int .i64 p0), .d (.int .i64 p1), .d (.lit (List.map e_SPart p2))]]) (cells := [.d (.int .i64 p0), .d (.int .i64 p1), .d (.lit (List.map e_SPart p2))])) ?_
  refine oD (.ptr 1 0) (k_box (H' := [.box [.d (.int .i64 p0), .d (.int .i64 p1), .d (.lit (List.map e_SPart p2))], .box [.d (.lit (List.map e_Li64 s0)), .d (.lit (List.map e_i64 s1))]]) (cells := [.d (.lit (List.map e_Li64 s0)), .d (.lit (List.map e_i64 s1))])) ?_
  refine oP (.d (.bool false)) p_assign ?_
  refine oEnd ?_
  refine oSeq ?_
  refine oSR rfl ?_
  refine oQ (.agg [.d (.int .i64 p0), .d (.int .i64 p1), .d (.lit (List.map e_SPart p2))]) (k_loadAgg 0 0 (hu := Try.underlying27) (hi := ty27)) ?_
  refine oQ (.agg [.d (.lit (List.map e_Li64 s0)), .d (.lit (List.map e_i64 s1))]) (k_loadAgg 1 0 (hu := Try.underlying31) (hi := ty31)) ?_
  refine bCall (caps := []) (v := (fun (r13 : Bool) => (.d (.bool r13) : V))) (H' := (fun (r13 : Bool) => ([.box [.d (.int .i64 p0), .d (.int .i64 p1), .d (.lit (List.map e_SPart p2))], .box [.d (.lit (List.map e_Li64 s0)), .d (.lit (List.map e_i64 s1))]] : List Blk))) [] _ (scheme_Valid_goes k p0 p1 p2 s0 s1) (ho := rfl) (hfn := Try.func30) (hb := rfl) (hconv := ConvRs.refl _ _) (hnd := by decide) (hBl := fun _ => (by kernel_rfl)) (hv := fun _ => (by kernel_rfl)) (hH' := fun _ => (by kernel_rfl)) (h := fun r13 => ?_)
  refine oP (.d (.bool (!r13))) (p_not (p := r13)) ?_
  refine oP (.d (.bool (!r13))) p_move ?_
  refine bMeetF (H' := [.box [.d (.int .i64 p0), .d (.int .i64 p1), .d (.lit (List.map e_SPart p2))], .box [.d (.lit (List.map e_Li64 s0)), .d (.lit (List.map e_i64 s1))]]) 7 rfl ((fun (x11 : Bool) => [(2, .d (.lit (List.map e_i64 marks))), (3, .ptr 0 0), (4, .ptr 1 0), (20, .d (.bool x11))])) (fun x11 => ?_) (fun F hj6 => ?_)
  ·refine oView (T' := [(2, .d (.lit (List.map e_i64 marks))), (3, .ptr 0 0), (4, .ptr 1 0), (20, .d (.bool x11))]) (H' := [.box [.d (.int .i64 p0), .d (.int .i64 p1), .d (.lit (List.map e_SPart p2))], .box [.d (.lit (List.map e_Li64 s0)), .d (.lit (List.map e_i64 s1))]]) (h := ?_)
   refine oEnd ?_
   refine bSplit 20 (h1 := fun hc => ?_) (h2 := fun hc => ?_)
   ·refine oCondT (h := ?_)
    refine oSR rfl ?_
    refine oP (.d (.bool false)) p_assign ?_
    refine oEnd ?_
    exact oRet (r0 := false) (rv := .d (.bool false)) (B := []) (vs := [.d (.bool false)]) (σ := []) (hf := Try.func36) (hrs := rfl) (hres := .cons _ _ _ _ (.tmp 6 _ (by kernel_rfl)) .nil) (hnd := by decide)
   ·refine oCondF (h := ?_)
    refine oSkip ?_
    refine oSeq ?_
    refine oSR rfl ?_
    refine oP (.ptr 0 2) (k_fieldAddr 0 0 (hu := Try.underlying27) (hf := rfl) (hi := ty25)) ?_
    refine oQ (.d (.lit (List.map e_SPart p2))) (k_load 0 2 (hu := Try.underlying25)) ?_
    refine oP (.d (.int .i64 ((List.length p2) : Int))) (k_lenLit (enc := e_SPart) p2 (hu := Try.underlying25)) ?_
    refine oP (.d (.int .i64 0)) p_move ?_
    refine oEnd ?_
    refine bJoin ((u0 ([]))) ((u0 ([]))) Sum.inl (fun s => ?_) (fun hj11 => ?_)
    ·cases s
     refine bInl ?_
     refine bU0 ?_
     refine oView (T' := []) (H' := []) (h := ?_)
     refine oSR rfl ?_
     refine oP (.d (.bool true)) p_assign ?_
     refine oEnd ?_
     exact oRet (r0 := true) (rv := .d (.bool true)) (B := []) (vs := [.d (.bool true)]) (σ := []) (hf := Try.func36) (hrs := rfl) (hres := .cons _ _ _ _ (.tmp 6 _ (by kernel_rfl)) .nil) (hnd := by decide)
    ·refine oBlock ?_
     refine oLoop ?_
     refine oHead [2, 4, 22, 23, 24] [1] (T' := [(2, .d (.lit (List.map e_i64 marks))), (4, .ptr 0 0), (22, .d (.lit (List.map e_SPart p2))), (23, .d (.int .i64 ((List.length p2) : Int))), (24, .d (.int .i64 0))]) (H' := [.box [.d (.lit (List.map e_Li64 s0)), .d (.lit (List.map e_i64 s1))]]) (hnd := by decide) (h := ?_)
     refine bLoop (body := scheme_Marked_b1 k p2 s1 marks) ((fun (x26 : Int) => [(2, .d (.lit (List.map e_i64 marks))), (4, .ptr 0 0), (22, .d (.lit (List.map e_SPart p2))), (23, .d (.int .i64 ((List.length p2) : Int))), (24, .d (.int .i64 x26))])) ((fun (x26 : Int) => [.box [.d (.lit (List.map e_Li64 s0)), .d (.lit (List.map e_i64 s1))]])) (fun again hag1 x26 => ?_) k 0
     ·unfold scheme_Marked_b1
      refine oView (T' := [(2, .d (.lit (List.map e_i64 marks))), (4, .ptr 0 0), (22, .d (.lit (List.map e_SPart p2))), (23, .d (.int .i64 ((List.length p2) : Int))), (24, .d (.int .i64 x26))]) (H' := [.box [.d (.lit (List.map e_Li64 s0)), .d (.lit (List.map e_i64 s1))]]) (h := ?_)
      refine oSR rfl ?_
      refine oP (.d (.bool (decide (x26 < ((List.length p2) : Int))))) (p_int (k := .i64) (p := x26) (q := ((List.length p2) : Int))) ?_
      refine oEnd ?_
      refine oSeq ?_
      refine bSplit 25 (h1 := fun hc => ?_) (h2 := fun hc => ?_)
      ·refine oCondT (h := ?_)
       refine oSkip ?_
       refine oSeq ?_
       refine oBlock ?_
       refine oSR rfl ?_
       refine oP (.d (.int .i64 x26)) p_move ?_
       refine bIdx (fun e115 h130 h131 => ?_)
       refine oP (.lptr (e_SPart e115) 0) (k_idxLit e_SPart_len p2 (a := e115) (k := .i64) (i := x26) (hu := Try.underlying25) (hi := ty49) (h0 := h130) (he := h131)) ?_
       refine oQ (.agg [.d (.int .i64 e115.Kind), .d (.int .i64 e115.Max), .d (.int .i64 e115.Topic), .d (.int .i64 e115.Objective), .d (.int .i64 e115.Options), .d (.int .i64 e115.Key)]) (k_loadLAgg (cells := e_SPart e115) 0 [(.int .i64 e115.Kind), (.int .i64 e115.Max), (.int .i64 e115.Topic), (.int .i64 e115.Objective), (.int .i64 e115.Options), (.int .i64 e115.Key)] (hu := Try.underlying49) (hi := ty49)) ?_
       refine oD (.ptr 1 0) (k_alloc (H' := [.box [.d (.lit (List.map e_Li64 s0)), .d (.lit (List.map e_i64 s1))], .box [.d (.int .i64 0), .d (.int .i64 0), .d (.int .i64 0), .d (.int .i64 0), .d (.int .i64 0), .d (.int .i64 0)]]) ty49) ?_
       refine oP (.d (.int .i64 x26)) p_assign ?_
       refine oD (.undef) (k_store (vs := [.d (.int .i64 e115.Kind), .d (.int .i64 e115.Max), .d (.int .i64 e115.Topic), .d (.int .i64 e115.Objective), .d (.int .i64 e115.Options), .d (.int .i64 e115.Key)]) (H' := [.box [.d (.lit (List.map e_Li64 s0)), .d (.lit (List.map e_i64 s1))], .box [.d (.int .i64 e115.Kind), .d (.int .i64 e115.Max), .d (.int .i64 e115.Topic), .d (.int .i64 e115.Objective), .d (.int .i64 e115.Options), .d (.int .i64 e115.Key)]]) 1 0 (hi := ty49)) ?_
       refine oEnd ?_
       refine oSeq ?_
       refine oDraw [(0, 15), (1, 15)] rfl ?_
       refine aP 0 (.ptr 0 1) rfl (k_fieldAddr 0 0 (hu := Try.underlying31) (hf := rfl) (hi := ty22)) ?_
       refine aQ 1 [0] (.d (.lit (List.map e_i64 s1))) rfl (k_load 0 1 (hu := Try.underlying22)) ?_
       refine aP 2 (.d (.int .i64 x26)) rfl p_move ?_
       refine dIdx (fun e11 h12 h13 => ?_)
       refine aP 3 (.lptr (e_i64 e11) 0) rfl (k_idxLit e_i64_len s1 (a := e11) (k := .i64) (i := x26) (hu := Try.underlying22) (hi := ty3) (h0 := h12) (he := h13)) ?_
       refine aQ 4 [] (.d (.int .i64 e11)) rfl (k_loadL (cells := e_i64 e11) 0 (hu := Try.underlying3)) ?_
       refine aP 5 (.d (.bool (e11 == 0))) rfl (p_int (k := .i64) (p := e11) (q := 0)) ?_
       refine aP 6 (.d (.bool (e11 == 0))) rfl p_move ?_
       refine dMeet [14, 13, 12, 11, 10, 9, 8, 7, 6, 5, 4, 3, 2, 1, 0] (fun (x35 : Bool) => [(2, .d (.lit (List.map e_i64 marks))), (4, .ptr 0 0), (22, .d (.lit (List.map e_SPart p2))), (23, .d (.int .i64 ((List.length p2) : Int))), (24, .d (.int .i64 x26)), (43, .d (.bool x35))]) (fun (x35 : Bool) => [(2, .d (.lit (List.map e_i64 marks))), (4, .ptr 0 0), (22, .d (.lit (List.map e_SPart p2))), (23, .d (.int .i64 ((List.length p2) : Int))), (24, .d (.int .i64 x26)), (43, .d (.bool x35))]) (fun _ => [.box [.d (.lit (List.map e_Li64 s0)), .d (.lit (List.map e_i64 s1))], .box [.d (.int .i64 e115.Kind), .d (.int .i64 e115.Max), .d (.int .i64 e115.Topic), .d (.int .i64 e115.Objective), .d (.int .i64 e115.Options), .d (.int .i64 e115.Key)]]) (fun s => s) (fun x35 => ?_) (fun hj17 => ?_)
       ·refine aDone (h := ?_)
        refine bSplit 43 (h1 := fun hc => ?_) (h2 := fun hc => ?_)
        ·refine oCondT (h := ?_)
         refine oSR rfl ?_
         refine oP (.d (.bool false)) p_assign ?_
         refine oEnd ?_
         exact oRet (r0 := false) (rv := .d (.bool false)) (B := []) (vs := [.d (.bool false)]) (σ := []) (hf := Try.func36) (hrs := rfl) (hres := .cons _ _ _ _ (.tmp 6 _ (by kernel_rfl)) .nil) (hnd := by decide)
        ·refine oCondF (h := ?_)
         refine oSkip ?_
         refine oBlk ?_
         refine oRegion rfl ?_
         refine oP (.d (.int .i64 (IntKind.wrap .i64 (x26 + 1)))) (p_int (k := .i64) (p := x26) (q := 1)) ?_
         refine oP (.d (.int .i64 (IntKind.wrap .i64 (x26 + 1)))) p_move ?_
         refine oEnd ?_
         refine oAgain ?_
         refine oHead [2, 4, 22, 23, 24] [0] (T' := [(2, .d (.lit (List.map e_i64 marks))), (4, .ptr 0 0), (22, .d (.lit (List.map e_SPart p2))), (23, .d (.int .i64 ((List.length p2) : Int))), (24, .d (.int .i64 (IntKind.wrap .i64 (x26 + 1))))]) (H' := [.box [.d (.lit (List.map e_Li64 s0)), .d (.lit (List.map e_i64 s1))]]) (hnd := by decide) (h := ?_)
         exact hag1 (IntKind.wrap .i64 (x26 + 1))
       ·refine dSplit 35 (h1 := fun hc => ?_) (h2 := fun hc => ?_)
        ·refine aQ 7 [1] (.agg [.d (.int .i64 e115.Kind), .d (.int .i64 e115.Max), .d (.int .i64 e115.Topic), .d (.int .i64 e115.Objective), .d (.int .i64 e115.Options), .d (.int .i64 e115.Key)]) rfl (k_loadAgg 1 0 (hu := Try.underlying49) (hi := ty49)) ?_
         refine aP 8 (.d (.lit (List.map e_i64 marks))) rfl p_move ?_
         refine aP 9 (.d (.int .i64 x26)) rfl p_move ?_
         refine dIdx (fun e12 h14 h15 => ?_)
         refine aP 10 (.lptr (e_i64 e12) 0) rfl (k_idxLit e_i64_len marks (a := e12) (k := .i64) (i := x26) (hu := Try.underlying22) (hi := ty3) (h0 := h14) (he := h15)) ?_
         refine aQ 11 [] (.d (.int .i64 e12)) rfl (k_loadL (cells := e_i64 e12) 0 (hu := Try.underlying3)) ?_
         refine dCall (i := 12) (caps := []) (v := (fun (r11 : Bool) => (.d (.bool r11) : V))) (H' := (fun (r11 : Bool) => ([.box [.d (.lit (List.map e_Li64 s0)), .d (.lit (List.map e_i64 s1))], .box [.d (.int .i64 e115.Kind), .d (.int .i64 e115.Max), .d (.int .i64 e115.Topic), .d (.int .i64 e115.Objective), .d (.int .i64 e115.Options), .d (.int .i64 e115.Key)]] : List Blk))) [] _ (scheme_permitted_goes k e115.Kind e115.Max e115.Topic e115.Objective e115.Options e115.Key e12) rfl (ho := rfl) (hfn := Try.func56) (hb := rfl) (hconv := ConvRs.refl _ _) (hnd := by decide) (hBl := fun _ => (by kernel_rfl)) (hv := fun _ => (by kernel_rfl)) (hH' := fun _ => (by kernel_rfl)) (h := fun r11 => ?_)
         refine aP 13 (.d (.bool (!r11))) rfl (p_not (p := r11)) ?_
         refine aP 14 (.d (.bool (!r11))) rfl (p_pick (b := true)) ?_
         refine dDrop [2, 4, 22, 23, 24, 43] [2, 4, 22, 23, 24, 43] (T' := [(2, .d (.lit (List.map e_i64 marks))), (4, .ptr 0 0), (22, .d (.lit (List.map e_SPart p2))), (23, .d (.int .i64 ((List.length p2) : Int))), (24, .d (.int .i64 x26)), (43, .d (.bool (!r11)))]) (U' := [(2, .d (.lit (List.map e_i64 marks))), (4, .ptr 0 0), (22, .d (.lit (List.map e_SPart p2))), (23, .d (.int .i64 ((List.length p2) : Int))), (24, .d (.int .i64 x26)), (43, .d (.bool (!r11)))]) (h := ?_)
         exact hj17 (!r11)
        ·refine aTakeNot (i := 7) rfl (h := ?_)
         refine aTakeNot (i := 8) rfl (h := ?_)
         refine aTakeNot (i := 9) rfl (h := ?_)
         refine aTakeNot (i := 10) rfl (h := ?_)
         refine aTakeNot (i := 11) rfl (h := ?_)
         refine aTakeNot (i := 12) rfl (h := ?_)
         refine aTakeNot (i := 13) rfl (h := ?_)
         refine aP 14 (.d (.bool false)) rfl (p_pick (b := false)) ?_
         refine dDrop [2, 4, 22, 23, 24, 43] [2, 4, 22, 23, 24, 43] (T' := [(2, .d (.lit (List.map e_i64 marks))), (4, .ptr 0 0), (22, .d (.lit (List.map e_SPart p2))), (23, .d (.int .i64 ((List.length p2) : Int))), (24, .d (.int .i64 x26)), (43, .d (.bool false))]) (U' := [(2, .d (.lit (List.map e_i64 marks))), (4, .ptr 0 0), (22, .d (.lit (List.map e_SPart p2))), (23, .d (.int .i64 ((List.length p2) : Int))), (24, .d (.int .i64 x26)), (43, .d (.bool false))]) (h := ?_)
         exact hj17 false
      ·refine oCondF (h := ?_)
       refine oExit rfl ?_
       refine oHead [] [] (T' := []) (H' := []) (hnd := by decide) (h := ?_)
       exact hj11 ()
  ·refine bPickF 13 (fun c => F (c || (((List.length marks) : Int) != ((List.length p2) : Int)))) (h1 := fun hc => ?_) (h2 := fun hc => ?_)
   ·refine oNot (h := ?_)
    refine oNot (h := ?_)
    refine oNot (h := ?_)
    refine oNot (h := ?_)
    refine oNot (h := ?_)
    refine oNot (h := ?_)
    refine oP (.d (.bool true)) (p_pick (b := true)) ?_
    refine oHead [2, 3, 4, 20] [0, 1] (T' := [(2, .d (.lit (List.map e_i64 marks))), (3, .ptr 0 0), (4, .ptr 1 0), (20, .d (.bool true))]) (H' := [.box [.d (.int .i64 p0), .d (.int .i64 p1), .d (.lit (List.map e_SPart p2))], .box [.d (.lit (List.map e_Li64 s0)), .d (.lit (List.map e_i64 s1))]]) (hnd := by decide) (h := ?_)
    exact hj6 true
   ·refine oP (.d (.lit (List.map e_i64 marks))) p_move ?_
    refine oP (.d (.int .i64 ((List.length marks) : Int))) (k_lenLit (enc := e_i64) marks (hu := Try.underlying22)) ?_
    refine oP (.ptr 0 2) (k_fieldAddr 0 0 (hu := Try.underlying27) (hf := rfl) (hi := ty25)) ?_
    refine oQ (.d (.lit (List.map e_SPart p2))) (k_load 0 2 (hu := Try.underlying25)) ?_
    refine oP (.d (.int .i64 ((List.length p2) : Int))) (k_lenLit (enc := e_SPart) p2 (hu := Try.underlying25)) ?_
    refine oP (.d (.bool (((List.length marks) : Int) != ((List.length p2) : Int)))) (p_int (k := .i64) (p := ((List.length marks) : Int)) (q := ((List.length p2) : Int))) ?_
    refine oP (.d (.bool (((List.length marks) : Int) != ((List.length p2) : Int)))) (p_pick (b := false)) ?_
    refine oHead [2, 3, 4, 20] [0, 1] (T' := [(2, .d (.lit (List.map e_i64 marks))), (3, .ptr 0 0), (4, .ptr 1 0), (20, .d (.bool (((List.length marks) : Int) != ((List.length p2) : Int))))]) (H' := [.box [.d (.int .i64 p0), .d (.int .i64 p1), .d (.lit (List.map e_SPart p2))], .box [.d (.lit (List.map e_Li64 s0)), .d (.lit (List.map e_i64 s1))]]) (hnd := by decide) (h := ?_)
    exact hj6 (((List.length marks) : Int) != ((List.length p2) : Int))

/-- awardingbody/scheme.Total$1 -/
def scheme_Total_1 (k : Nat) (i : Int) (x : (List Int)) : Option (Int) := gidx x i fun e11 => some (gmax e11 0)
def scheme_Total_1_E (i : Int) (x : (List Int)) : Int → V × List Blk := fun r1 => (.d (.int .i64 r1), [.box [.d (.lit (List.map e_i64 x))]])
theorem scheme_Total_1_goes (k : Nat) (i : Int) (x : (List Int)) : RunsO Try.prog 46 [.d (.int .i64 i), .ptr 0 0] [.box [.d (.lit (List.map e_i64 x))]] (scheme_Total_1_E i x) (scheme_Total_1 k i x) := by
  refine RunsO.of_goes (N := 9) (m := 1) (T := [(0, .d (.int .i64 i)), (1, .ptr 0 0)]) Try.func46 rfl rfl (h := ?_)
  unfold scheme_Total_1
  refine bStart ?_
  refine oSR rfl ?_
  refine oP (.d (.int .i64 0)) p_assign ?_
  refine oEnd ?_
  refine oSR rfl ?_
  refine oQ (.d (.lit (List.map e_i64 x))) (k_load 0 0 (hu := Try.underlying22)) ?_
  refine oP (.d (.int .i64 i)) p_move ?_
  refine bIdx (fun e11 h12 h13 => ?_)
  refine oP (.lptr (e_i64 e11) 0) (k_idxLit e_i64_len x (a := e11) (k := .i64) (i := i) (hu := Try.underlying22) (hi := ty3) (h0 := h12) (he := h13)) ?_
  refine oQ (.d (.int .i64 e11)) (k_loadL (cells := e_i64 e11) 0 (hu := Try.underlying3)) ?_
  refine oP (.d (.int .i64 (gmax e11 0))) (p_max2 (k := .i64) (p := e11) (q := 0)) ?_
  refine oP (.d (.int .i64 (gmax e11 0))) p_assign ?_
  refine oEnd ?_
  exact oRet (r0 := (gmax e11 0)) (rv := .d (.int .i64 (gmax e11 0))) (B := [.box [.d (.lit (List.map e_i64 x))]]) (vs := [.d (.int .i64 (gmax e11 0))]) (σ := [0]) (hf := Try.func46) (hrs := rfl) (hres := .cons _ _ _ _ (.tmp 3 _ (by kernel_rfl)) .nil) (hnd := by decide)

/-- awardingbody/scheme.sum -/
def scheme_sum_b1 (k : Nat) (p2 : (List SPart)) (s1 : (List Int)) (x : (List Int)) (again : Int × Int → Option (Int)) : Int × Int → Option (Int) := uc fun n11 => fun x5 => bif (decide (x5 < ((List.length p2) : Int))) then Option.bind (gidx p2 x5 fun e114 => gidx s1 x5 fun e115 => bif (e115 == 0) then Option.bind (scheme_Total_1 k x5 x) (fun r18 => some (IntKind.wrap .i64 (n11 + r18))) else bif (e115 == 1) then some (IntKind.wrap .i64 (n11 + e114.Max)) else bif (e115 == 2) then some n11 else some n11 : Option (Int)) (fun n14 => again (n14, (IntKind.wrap .i64 (x5 + 1)))) else some n11
def scheme_sum (k : Nat) (p0 : Int) (p1 : Int) (p2 : (List SPart)) (s0 : (List (List Int))) (s1 : (List Int)) (x : (List Int)) : Option (Int) := Option.bind (gloop (scheme_sum_b1 k p2 s1 x) k (0, 0) : Option (Int)) (fun n9 => some n9)
def scheme_sum_E (p0 : Int) (p1 : Int) (p2 : (List SPart)) (s0 : (List (List Int))) (s1 : (List Int)) (x : (List Int)) : Int → V × List Blk := fun r12 => (.d (.int .i64 r12), [.box [.d (.lit (List.map e_i64 x))]])
theorem scheme_sum_goes (k : Nat) (p0 : Int) (p1 : Int) (p2 : (List SPart)) (s0 : (List (List Int))) (s1 : (List Int)) (x : (List Int)) : RunsO Try.prog 45 [.agg [.d (.int .i64 p0), .d (.int .i64 p1), .d (.lit (List.map e_SPart p2))], .agg [.d (.lit (List.map e_Li64 s0)), .d (.lit (List.map e_i64 s1))], .fn 46 [.ptr 0 0]] [.box [.d (.lit (List.map e_i64 x))]] (scheme_sum_E p0 p1 p2 s0 s1 x) (scheme_sum k p0 p1 p2 s0 s1 x) := by
  refine RunsO.of_goes (N := 40) (m := 1) (T := [(0, .agg [.d (.int .i64 p0), .d (.int .i64 p1), .d (.lit (List.map e_SPart p2))]), (1, .agg [.d (.lit (List.map e_Li64 s0)), .d (.lit (List.map e_i64 s1))]), (2, .fn 46 [.ptr 0 0])]) Try.func45 rfl rfl (h := ?_)
  unfold scheme_sum
  refine bStart ?_
  refine oSR rfl ?_
  refine oD (.ptr 1 0) (k_box (H' := [.box [.d (.lit (List.map e_i64 x))], .box [.d (.int .i64 p0), .d (.int .i64 p1), .d (.lit (List.map e_SPart p2))]]) (cells := [.d (.int .i64 p0), .d (.int .i64 p1), .d (.lit (List.map e_SPart p2))])) ?_
  refine oD (.ptr 2 0) (k_box (H' := [.box [.d (.lit (List.map e_i64 x))], .box [.d (.int .i64 p0), .d (.int .i64 p1), .d (.lit (List.map e_SPart p2))], .box [.d (.lit (List.map e_Li64 s0)), .d (.lit (List.map e_i64 s1))]]) (cells := [.d (.lit (List.map e_Li64 s0)), .d (.lit (List.map e_i64 s1))])) ?_
  refine oP (.d (.int .i64 0)) p_assign ?_
  refine oEnd ?_
  refine oSR rfl ?_
  refine oP (.d (.int .i64 0)) p_assign ?_
  refine oEnd ?_
  refine oSeq ?_
  refine oSR rfl ?_
  refine oP (.ptr 1 2) (k_fieldAddr 1 0 (hu := Try.underlying27) (hf := rfl) (hi := ty25)) ?_
  refine oQ (.d (.lit (List.map e_SPart p2))) (k_load 1 2 (hu := Try.underlying25)) ?_
  refine oP (.d (.int .i64 ((List.length p2) : Int))) (k_lenLit (enc := e_SPart) p2 (hu := Try.underlying25)) ?_
  refine oP (.d (.int .i64 0)) p_move ?_
  refine oEnd ?_
  refine bJoin ((fun (n9 : Int) => [(7, .d (.int .i64 n9))])) ((fun (n9 : Int) => [.box [.d (.lit (List.map e_i64 x))]])) (fun s => s) (fun n9 => ?_) (fun hj6 => ?_)
  ·refine oView (T' := [(7, .d (.int .i64 n9))]) (H' := [.box [.d (.lit (List.map e_i64 x))]]) (h := ?_)
   refine oSR rfl ?_
   refine oP (.d (.int .i64 n9)) p_move ?_
   refine oP (.d (.int .i64 n9)) p_assign ?_
   refine oEnd ?_
   exact oRet (r0 := n9) (rv := .d (.int .i64 n9)) (B := [.box [.d (.lit (List.map e_i64 x))]]) (vs := [.d (.int .i64 n9)]) (σ := [0]) (hf := Try.func45) (hrs := rfl) (hres := .cons _ _ _ _ (.tmp 6 _ (by kernel_rfl)) .nil) (hnd := by decide)
  ·refine oBlock ?_
   refine oLoop ?_
   refine oHead [2, 4, 7, 11, 12, 13] [0, 2] (T' := [(2, .fn 46 [.ptr 0 0]), (4, .ptr 1 0), (7, .d (.int .i64 0)), (11, .d (.lit (List.map e_SPart p2))), (12, .d (.int .i64 ((List.length p2) : Int))), (13, .d (.int .i64 0))]) (H' := [.box [.d (.lit (List.map e_i64 x))], .box [.d (.lit (List.map e_Li64 s0)), .d (.lit (List.map e_i64 s1))]]) (hnd := by decide) (h := ?_)
   refine bLoop (body := scheme_sum_b1 k p2 s1 x) ((uc fun (n11 : Int) => (fun (x5 : Int) => [(2, .fn 46 [.ptr 0 0]), (4, .ptr 1 0), (7, .d (.int .i64 n11)), (11, .d (.lit (List.map e_SPart p2))), (12, .d (.int .i64 ((List.length p2) : Int))), (13, .d (.int .i64 x5))]))) ((uc fun (n11 : Int) => (fun (x5 : Int) => [.box [.d (.lit (List.map e_i64 x))], .box [.d (.lit (List.map e_Li64 s0)), .d (.lit (List.map e_i64 s1))]]))) (fun again hag1 s => ?_) k (0, 0)
   ·unfold scheme_sum_b1
    obtain ⟨n11, x5⟩ := s
    refine bUc ?_
    refine oView (T' := [(2, .fn 46 [.ptr 0 0]), (4, .ptr 1 0), (7, .d (.int .i64 n11)), (11, .d (.lit (List.map e_SPart p2))), (12, .d (.int .i64 ((List.length p2) : Int))), (13, .d (.int .i64 x5))]) (H' := [.box [.d (.lit (List.map e_i64 x))], .box [.d (.lit (List.map e_Li64 s0)), .d (.lit (List.map e_i64 s1))]]) (h := ?_)
    refine oSR rfl ?_
    refine oP (.d (.bool (decide (x5 < ((List.length p2) : Int))))) (p_int (k := .i64) (p := x5) (q := ((List.length p2) : Int))) ?_
    refine oEnd ?_
    refine oSeq ?_
    refine bSplit 14 (h1 := fun hc => ?_) (h2 := fun hc => ?_)
    ·refine oCondT (h := ?_)
     refine oSkip ?_
     refine oSeq ?_
     refine bJoin ((fun (n14 : Int) => [(2, .fn 46 [.ptr 0 0]), (4, .ptr 1 0), (7, .d (.int .i64 n14)), (11, .d (.lit (List.map e_SPart p2))), (12, .d (.int .i64 ((List.length p2) : Int))), (13, .d (.int .i64 x5))])) ((fun (n14 : Int) => [.box [.d (.lit (List.map e_i64 x))], .box [.d (.lit (List.map e_Li64 s0)), .d (.lit (List.map e_i64 s1))]])) (fun s => s) (fun n14 => ?_) (fun hj9 => ?_)
     ·refine oView (T' := [(2, .fn 46 [.ptr 0 0]), (4, .ptr 1 0), (7, .d (.int .i64 n14)), (11, .d (.lit (List.map e_SPart p2))), (12, .d (.int .i64 ((List.length p2) : Int))), (13, .d (.int .i64 x5))]) (H' := [.box [.d (.lit (List.map e_i64 x))], .box [.d (.lit (List.map e_Li64 s0)), .d (.lit (List.map e_i64 s1))]]) (h := ?_)
      refine oRegion rfl ?_
      refine oP (.d (.int .i64 (IntKind.wrap .i64 (x5 + 1)))) (p_int (k := .i64) (p := x5) (q := 1)) ?_
      refine oP (.d (.int .i64 (IntKind.wrap .i64 (x5 + 1)))) p_move ?_
      refine oEnd ?_
      refine oAgain ?_
      refine oHead [2, 4, 7, 11, 12, 13] [0, 1] (T' := [(2, .fn 46 [.ptr 0 0]), (4, .ptr 1 0), (7, .d (.int .i64 n14)), (11, .d (.lit (List.map e_SPart p2))), (12, .d (.int .i64 ((List.length p2) : Int))), (13, .d (.int .i64 (IntKind.wrap .i64 (x5 + 1))))]) (H' := [.box [.d (.lit (List.map e_i64 x))], .box [.d (.lit (List.map e_Li64 s0)), .d (.lit (List.map e_i64 s1))]]) (hnd := by decide) (h := ?_)
      exact hag1 (n14, (IntKind.wrap .i64 (x5 + 1)))
     ·refine oBlock ?_
      refine oSR rfl ?_
      refine oP (.d (.int .i64 x5)) p_move ?_
      refine bIdx (fun e114 h128 h129 => ?_)
      refine oP (.lptr (e_SPart e114) 0) (k_idxLit e_SPart_len p2 (a := e114) (k := .i64) (i := x5) (hu := Try.underlying25) (hi := ty49) (h0 := h128) (he := h129)) ?_
      refine oQ (.agg [.d (.int .i64 e114.Kind), .d (.int .i64 e114.Max), .d (.int .i64 e114.Topic), .d (.int .i64 e114.Objective), .d (.int .i64 e114.Options), .d (.int .i64 e114.Key)]) (k_loadLAgg (cells := e_SPart e114) 0 [(.int .i64 e114.Kind), (.int .i64 e114.Max), (.int .i64 e114.Topic), (.int .i64 e114.Objective), (.int .i64 e114.Options), (.int .i64 e114.Key)] (hu := Try.underlying49) (hi := ty49)) ?_
      refine oD (.ptr 2 0) (k_alloc (H' := [.box [.d (.lit (List.map e_i64 x))], .box [.d (.lit (List.map e_Li64 s0)), .d (.lit (List.map e_i64 s1))], .box [.d (.int .i64 0), .d (.int .i64 0), .d (.int .i64 0), .d (.int .i64 0), .d (.int .i64 0), .d (.int .i64 0)]]) ty49) ?_
      refine oP (.d (.int .i64 x5)) p_assign ?_
      refine oD (.undef) (k_store (vs := [.d (.int .i64 e114.Kind), .d (.int .i64 e114.Max), .d (.int .i64 e114.Topic), .d (.int .i64 e114.Objective), .d (.int .i64 e114.Options), .d (.int .i64 e114.Key)]) (H' := [.box [.d (.lit (List.map e_i64 x))], .box [.d (.lit (List.map e_Li64 s0)), .d (.lit (List.map e_i64 s1))], .box [.d (.int .i64 e114.Kind), .d (.int .i64 e114.Max), .d (.int .i64 e114.Topic), .d (.int .i64 e114.Objective), .d (.int .i64 e114.Options), .d (.int .i64 e114.Key)]]) 2 0 (hi := ty49)) ?_
      refine oEnd ?_
      refine oSR rfl ?_
      refine oP (.ptr 1 1) (k_fieldAddr 1 0 (hu := Try.underlying31) (hf := rfl) (hi := ty22)) ?_
      refine oQ (.d (.lit (List.map e_i64 s1))) (k_load 1 1 (hu := Try.underlying22)) ?_
      refine oP (.d (.int .i64 x5)) p_move ?_
      refine bIdx (fun e115 h130 h131 => ?_)
      refine oP (.lptr (e_i64 e115) 0) (k_idxLit e_i64_len s1 (a := e115) (k := .i64) (i := x5) (hu := Try.underlying22) (hi := ty3) (h0 := h130) (he := h131)) ?_
      refine oQ (.d (.int .i64 e115)) (k_loadL (cells := e_i64 e115) 0 (hu := Try.underlying3)) ?_
      refine oEnd ?_
      refine oBlock ?_
      refine oSR rfl ?_
      refine oP (.d (.bool (e115 == 0))) (p_int (k := .i64) (p := e115) (q := 0)) ?_
      refine oP (.d (.bool (e115 == 0))) p_assign ?_
      refine oEnd ?_
      refine bSplit 23 (h1 := fun hc => ?_) (h2 := fun hc => ?_)
      ·refine oCondT (h := ?_)
       refine oRegion rfl ?_
       refine oP (.d (.int .i64 n11)) p_move ?_
       refine oP (.fn 46 [.ptr 0 0]) p_move ?_
       refine oP (.d (.int .i64 x5)) p_move ?_
       refine bCall (caps := [.ptr 0 0]) (v := (fun (r18 : Int) => (.d (.int .i64 r18) : V))) (H' := (fun (r18 : Int) => ([.box [.d (.lit (List.map e_i64 x))], .box [.d (.lit (List.map e_Li64 s0)), .d (.lit (List.map e_i64 s1))], .box [.d (.int .i64 e114.Kind), .d (.int .i64 e114.Max), .d (.int .i64 e114.Topic), .d (.int .i64 e114.Objective), .d (.int .i64 e114.Options), .d (.int .i64 e114.Key)]] : List Blk))) [0] _ (scheme_Total_1_goes k x5 x) (ho := rfl) (hfn := Try.func46) (hb := rfl) (hconv := ConvRs.refl _ _) (hnd := by decide) (hBl := fun _ => (by kernel_rfl)) (hv := fun _ => (by kernel_rfl)) (hH' := fun _ => (by kernel_rfl)) (h := fun r18 => ?_)
       refine oP (.d (.int .i64 (IntKind.wrap .i64 (n11 + r18)))) (p_int (k := .i64) (p := n11) (q := r18)) ?_
       refine oP (.d (.int .i64 (IntKind.wrap .i64 (n11 + r18)))) p_assign ?_
       refine oEnd ?_
       refine oBlk ?_
       refine oBlk ?_
       refine oHead [2, 4, 7, 11, 12, 13] [0, 1] (T' := [(2, .fn 46 [.ptr 0 0]), (4, .ptr 1 0), (7, .d (.int .i64 (IntKind.wrap .i64 (n11 + r18)))), (11, .d (.lit (List.map e_SPart p2))), (12, .d (.int .i64 ((List.length p2) : Int))), (13, .d (.int .i64 x5))]) (H' := [.box [.d (.lit (List.map e_i64 x))], .box [.d (.lit (List.map e_Li64 s0)), .d (.lit (List.map e_i64 s1))]]) (hnd := by decide) (h := ?_)
       exact hj9 (IntKind.wrap .i64 (n11 + r18))
      ·refine oCondF (h := ?_)
       refine oSR rfl ?_
       refine oP (.d (.bool (e115 == 1))) (p_int (k := .i64) (p := e115) (q := 1)) ?_
       refine oP (.d (.bool (e115 == 1))) p_assign ?_
       refine oEnd ?_
       refine bSplit 30 (h1 := fun hc => ?_) (h2 := fun hc => ?_)
       ·refine oCondT (h := ?_)
        refine oRegion rfl ?_
        refine oP (.d (.int .i64 n11)) p_move ?_
        refine oP (.ptr 2 1) (k_fieldAddr 2 0 (hu := Try.underlying49) (hf := rfl) (hi := ty3)) ?_
        refine oQ (.d (.int .i64 e114.Max)) (k_load 2 1 (hu := Try.underlying3)) ?_
        refine oP (.d (.int .i64 (IntKind.wrap .i64 (n11 + e114.Max)))) (p_int (k := .i64) (p := n11) (q := e114.Max)) ?_
        refine oP (.d (.int .i64 (IntKind.wrap .i64 (n11 + e114.Max)))) p_assign ?_
        refine oEnd ?_
        refine oBlk ?_
        refine oBlk ?_
        refine oHead [2, 4, 7, 11, 12, 13] [0, 1] (T' := [(2, .fn 46 [.ptr 0 0]), (4, .ptr 1 0), (7, .d (.int .i64 (IntKind.wrap .i64 (n11 + e114.Max)))), (11, .d (.lit (List.map e_SPart p2))), (12, .d (.int .i64 ((List.length p2) : Int))), (13, .d (.int .i64 x5))]) (H' := [.box [.d (.lit (List.map e_i64 x))], .box [.d (.lit (List.map e_Li64 s0)), .d (.lit (List.map e_i64 s1))]]) (hnd := by decide) (h := ?_)
        exact hj9 (IntKind.wrap .i64 (n11 + e114.Max))
       ·refine oCondF (h := ?_)
        refine oSR rfl ?_
        refine oP (.d (.bool (e115 == 2))) (p_int (k := .i64) (p := e115) (q := 2)) ?_
        refine oP (.d (.bool (e115 == 2))) p_assign ?_
        refine oEnd ?_
        refine bSplit 36 (h1 := fun hc => ?_) (h2 := fun hc => ?_)
        ·refine oCondT (h := ?_)
         refine oSkip ?_
         refine oBlk ?_
         refine oBlk ?_
         refine oHead [2, 4, 7, 11, 12, 13] [0, 1] (T' := [(2, .fn 46 [.ptr 0 0]), (4, .ptr 1 0), (7, .d (.int .i64 n11)), (11, .d (.lit (List.map e_SPart p2))), (12, .d (.int .i64 ((List.length p2) : Int))), (13, .d (.int .i64 x5))]) (H' := [.box [.d (.lit (List.map e_i64 x))], .box [.d (.lit (List.map e_Li64 s0)), .d (.lit (List.map e_i64 s1))]]) (hnd := by decide) (h := ?_)
         exact hj9 n11
        ·refine oCondF (h := ?_)
         refine oSkip ?_
         refine oBlk ?_
         refine oBlk ?_
         refine oHead [2, 4, 7, 11, 12, 13] [0, 1] (T' := [(2, .fn 46 [.ptr 0 0]), (4, .ptr 1 0), (7, .d (.int .i64 n11)), (11, .d (.lit (List.map e_SPart p2))), (12, .d (.int .i64 ((List.length p2) : Int))), (13, .d (.int .i64 x5))]) (H' := [.box [.d (.lit (List.map e_i64 x))], .box [.d (.lit (List.map e_Li64 s0)), .d (.lit (List.map e_i64 s1))]]) (hnd := by decide) (h := ?_)
         exact hj9 n11
    ·refine oCondF (h := ?_)
     refine oExit rfl ?_
     refine oHead [7] [0] (T' := [(7, .d (.int .i64 n11))]) (H' := [.box [.d (.lit (List.map e_i64 x))]]) (hnd := by decide) (h := ?_)
     exact hj6 n11

/-- awardingbody/scheme.Total -/
def scheme_Total (k : Nat) (p0 : Int) (p1 : Int) (p2 : (List SPart)) (s0 : (List (List Int))) (s1 : (List Int)) (marks : (List Int)) : Option (Int × Int) := Option.bind (scheme_Valid k p0 p1 p2 s0 s1) (fun r16 => bif (!r16) then some (0, 1) else bif (((List.length marks) : Int) != ((List.length p2) : Int)) then some (0, 22) else Option.bind (scheme_Marked k p0 p1 p2 s0 s1 marks) (fun r128 => bif (!r128) then some (0, 8) else Option.bind (scheme_sum k p0 p1 p2 s0 s1 marks) (fun r129 => some (r129, 0))))
def scheme_Total_E (p0 : Int) (p1 : Int) (p2 : (List SPart)) (s0 : (List (List Int))) (s1 : (List Int)) (marks : (List Int)) : Int × Int → V × List Blk := uc fun r13 => fun r14 => (.tuple [.d (.int .i64 r13), .d (.int .i64 r14)], [])
theorem scheme_Total_goes (k : Nat) (p0 : Int) (p1 : Int) (p2 : (List SPart)) (s0 : (List (List Int))) (s1 : (List Int)) (marks : (List Int)) : RunsO Try.prog 21 [.agg [.d (.int .i64 p0), .d (.int .i64 p1), .d (.lit (List.map e_SPart p2))], .agg [.d (.lit (List.map e_Li64 s0)), .d (.lit (List.map e_i64 s1))], .d (.lit (List.map e_i64 marks))] [] (scheme_Total_E p0 p1 p2 s0 s1 marks) (scheme_Total k p0 p1 p2 s0 s1 marks) := by
  refine RunsO.of_goes (N := 30) (m := 0) (T := [(0, .agg [.d (.int .i64 p0), .d (.int .i64 p1), .d (.lit (List.map e_SPart p2))]), (1, .agg [.d (.lit (List.map e_Li64 s0)), .d (.lit (List.map e_i64 s1))]), (2, .d (.lit (List.map e_i64 marks)))]) Try.func21 rfl rfl (h := ?_)
  unfold scheme_Total
  refine bStart ?_
  refine oSR rfl ?_
  refine oD (.ptr 0 0) (k_box (H' := [.box [.d (.int .i64 p0), .d (.int .i64 p1), .d (.lit (List.map e_SPart p2))]]) (cells := [.d (.int .i64 p0), .d (.int .i64 p1), .d (.lit (List.map e_SPart p2))])) ?_
  refine oD (.ptr 1 0) (k_box (H' := [.box [.d (.int .i64 p0), .d (.int .i64 p1), .d (.lit (List.map e_SPart p2))], .box [.d (.lit (List.map e_Li64 s0)), .d (.lit (List.map e_i64 s1))]]) (cells := [.d (.lit (List.map e_Li64 s0)), .d (.lit (List.map e_i64 s1))])) ?_
  refine oD (.ptr 2 0) (k_box (H' := [.box [.d (.int .i64 p0), .d (.int .i64 p1), .d (.lit (List.map e_SPart p2))], .box [.d (.lit (List.map e_Li64 s0)), .d (.lit (List.map e_i64 s1))], .box [.d (.lit (List.map e_i64 marks))]]) (cells := [.d (.lit (List.map e_i64 marks))])) ?_
  refine oP (.d (.int .i64 0)) p_assign ?_
  refine oP (.d (.int .i64 0)) p_assign ?_
  refine oEnd ?_
  refine oSeq ?_
  refine oBlock ?_
  refine oSR rfl ?_
  refine oQ (.agg [.d (.int .i64 p0), .d (.int .i64 p1), .d (.lit (List.map e_SPart p2))]) (k_loadAgg 0 0 (hu := Try.underlying27) (hi := ty27)) ?_
  refine oQ (.agg [.d (.lit (List.map e_Li64 s0)), .d (.lit (List.map e_i64 s1))]) (k_loadAgg 1 0 (hu := Try.underlying31) (hi := ty31)) ?_
  refine bCall (caps := []) (v := (fun (r16 : Bool) => (.d (.bool r16) : V))) (H' := (fun (r16 : Bool) => ([.box [.d (.int .i64 p0), .d (.int .i64 p1), .d (.lit (List.map e_SPart p2))], .box [.d (.lit (List.map e_Li64 s0)), .d (.lit (List.map e_i64 s1))], .box [.d (.lit (List.map e_i64 marks))]] : List Blk))) [] _ (scheme_Valid_goes k p0 p1 p2 s0 s1) (ho := rfl) (hfn := Try.func30) (hb := rfl) (hconv := ConvRs.refl _ _) (hnd := by decide) (hBl := fun _ => (by kernel_rfl)) (hv := fun _ => (by kernel_rfl)) (hH' := fun _ => (by kernel_rfl)) (h := fun r16 => ?_)
  refine oP (.d (.bool (!r16))) (p_not (p := r16)) ?_
  refine oP (.d (.bool (!r16))) p_assign ?_
  refine oEnd ?_
  refine bSplit 8 (h1 := fun hc => ?_) (h2 := fun hc => ?_)
  ·refine oCondT (h := ?_)
   refine oSR rfl ?_
   refine oP (.d (.int .i64 0)) p_assign ?_
   refine oP (.d (.int .i64 1)) p_assign ?_
   refine oEnd ?_
   exact oRet (r0 := (0, 1)) (rv := .tuple [.d (.int .i64 0), .d (.int .i64 1)]) (B := []) (vs := [.d (.int .i64 0), .d (.int .i64 1)]) (σ := []) (hf := Try.func21) (hrs := rfl) (hres := .cons _ _ _ _ (.tmp 6 _ (by kernel_rfl)) (.cons _ _ _ _ (.tmp 7 _ (by kernel_rfl)) .nil)) (hnd := by decide)
  ·refine oCondF (h := ?_)
   refine oSR rfl ?_
   refine oQ (.d (.lit (List.map e_i64 marks))) (k_load 2 0 (hu := Try.underlying22)) ?_
   refine oP (.d (.int .i64 ((List.length marks) : Int))) (k_lenLit (enc := e_i64) marks (hu := Try.underlying22)) ?_
   refine oP (.ptr 0 2) (k_fieldAddr 0 0 (hu := Try.underlying27) (hf := rfl) (hi := ty25)) ?_
   refine oQ (.d (.lit (List.map e_SPart p2))) (k_load 0 2 (hu := Try.underlying25)) ?_
   refine oP (.d (.int .i64 ((List.length p2) : Int))) (k_lenLit (enc := e_SPart) p2 (hu := Try.underlying25)) ?_
   refine oP (.d (.bool (((List.length marks) : Int) != ((List.length p2) : Int)))) (p_int (k := .i64) (p := ((List.length marks) : Int)) (q := ((List.length p2) : Int))) ?_
   refine oP (.d (.bool (((List.length marks) : Int) != ((List.length p2) : Int)))) p_assign ?_
   refine oEnd ?_
   refine bSplit 13 (h1 := fun hc => ?_) (h2 := fun hc => ?_)
   ·refine oCondT (h := ?_)
    refine oSR rfl ?_
    refine oP (.d (.int .i64 0)) p_assign ?_
    refine oP (.d (.int .i64 22)) p_assign ?_
    refine oEnd ?_
    exact oRet (r0 := (0, 22)) (rv := .tuple [.d (.int .i64 0), .d (.int .i64 22)]) (B := []) (vs := [.d (.int .i64 0), .d (.int .i64 22)]) (σ := []) (hf := Try.func21) (hrs := rfl) (hres := .cons _ _ _ _ (.tmp 6 _ (by kernel_rfl)) (.cons _ _ _ _ (.tmp 7 _ (by kernel_rfl)) .nil)) (hnd := by decide)
   ·refine oCondF (h := ?_)
    refine oSR rfl ?_
    refine oQ (.agg [.d (.int .i64 p0), .d (.int .i64 p1), .d (.lit (List.map e_SPart p2))]) (k_loadAgg 0 0 (hu := Try.underlying27) (hi := ty27)) ?_
    refine oQ (.agg [.d (.lit (List.map e_Li64 s0)), .d (.lit (List.map e_i64 s1))]) (k_loadAgg 1 0 (hu := Try.underlying31) (hi := ty31)) ?_
    refine oQ (.d (.lit (List.map e_i64 marks))) (k_load 2 0 (hu := Try.underlying22)) ?_
    refine bCall (caps := []) (v := (fun (r128 : Bool) => (.d (.bool r128) : V))) (H' := (fun (r128 : Bool) => ([.box [.d (.int .i64 p0), .d (.int .i64 p1), .d (.lit (List.map e_SPart p2))], .box [.d (.lit (List.map e_Li64 s0)), .d (.lit (List.map e_i64 s1))], .box [.d (.lit (List.map e_i64 marks))]] : List Blk))) [] _ (scheme_Marked_goes k p0 p1 p2 s0 s1 marks) (ho := rfl) (hfn := Try.func36) (hb := rfl) (hconv := ConvRs.refl _ _) (hnd := by decide) (hBl := fun _ => (by kernel_rfl)) (hv := fun _ => (by kernel_rfl)) (hH' := fun _ => (by kernel_rfl)) (h := fun r128 => ?_)
    refine oP (.d (.bool (!r128))) (p_not (p := r128)) ?_
    refine oP (.d (.bool (!r128))) p_assign ?_
    refine oEnd ?_
    refine bSplit 20 (h1 := fun hc => ?_) (h2 := fun hc => ?_)
    ·refine oCondT (h := ?_)
     refine oSR rfl ?_
     refine oP (.d (.int .i64 0)) p_assign ?_
     refine oP (.d (.int .i64 8)) p_assign ?_
     refine oEnd ?_
     exact oRet (r0 := (0, 8)) (rv := .tuple [.d (.int .i64 0), .d (.int .i64 8)]) (B := []) (vs := [.d (.int .i64 0), .d (.int .i64 8)]) (σ := []) (hf := Try.func21) (hrs := rfl) (hres := .cons _ _ _ _ (.tmp 6 _ (by kernel_rfl)) (.cons _ _ _ _ (.tmp 7 _ (by kernel_rfl)) .nil)) (hnd := by decide)
    ·refine oCondF (h := ?_)
     refine oSkip ?_
     refine oBlk ?_
     refine oSR rfl ?_
     refine oQ (.agg [.d (.int .i64 p0), .d (.int .i64 p1), .d (.lit (List.map e_SPart p2))]) (k_loadAgg 0 0 (hu := Try.underlying27) (hi := ty27)) ?_
     refine oQ (.agg [.d (.lit (List.map e_Li64 s0)), .d (.lit (List.map e_i64 s1))]) (k_loadAgg 1 0 (hu := Try.underlying31) (hi := ty31)) ?_
     refine oP (.fn 46 [.ptr 2 0]) p_makeFunc ?_
     refine bCall (caps := []) (v := (fun (r129 : Int) => (.d (.int .i64 r129) : V))) (H' := (fun (r129 : Int) => ([.box [.d (.int .i64 p0), .d (.int .i64 p1), .d (.lit (List.map e_SPart p2))], .box [.d (.lit (List.map e_Li64 s0)), .d (.lit (List.map e_i64 s1))], .box [.d (.lit (List.map e_i64 marks))]] : List Blk))) [2] _ (scheme_sum_goes k p0 p1 p2 s0 s1 marks) (ho := rfl) (hfn := Try.func45) (hb := rfl) (hconv := ConvRs.refl _ _) (hnd := by decide) (hBl := fun _ => (by kernel_rfl)) (hv := fun _ => (by kernel_rfl)) (hH' := fun _ => (by kernel_rfl)) (h := fun r129 => ?_)
     refine oP (.d (.int .i64 r129)) p_assign ?_
     refine oP (.d (.int .i64 0)) p_assign ?_
     refine oEnd ?_
     exact oRet (r0 := (r129, 0)) (rv := .tuple [.d (.int .i64 r129), .d (.int .i64 0)]) (B := []) (vs := [.d (.int .i64 r129), .d (.int .i64 0)]) (σ := []) (hf := Try.func21) (hrs := rfl) (hres := .cons _ _ _ _ (.tmp 6 _ (by kernel_rfl)) (.cons _ _ _ _ (.tmp 7 _ (by kernel_rfl)) .nil)) (hnd := by decide)

/-- awardingbody/scheme.Maximum$1 -/
def scheme_Maximum_1 (k : Nat) (i : Int) (x : Int) (x1 : Int) (x2 : (List SPart)) : Option (Int) := gidx x2 i fun e11 => some e11.Max
def scheme_Maximum_1_E (i : Int) (x : Int) (x1 : Int) (x2 : (List SPart)) : Int → V × List Blk := fun r1 => (.d (.int .i64 r1), [.box [.d (.int .i64 x), .d (.int .i64 x1), .d (.lit (List.map e_SPart x2))]])
theorem scheme_Maximum_1_goes (k : Nat) (i : Int) (x : Int) (x1 : Int) (x2 : (List SPart)) : RunsO Try.prog 47 [.d (.int .i64 i), .ptr 0 0] [.box [.d (.int .i64 x), .d (.int .i64 x1), .d (.lit (List.map e_SPart x2))]] (scheme_Maximum_1_E i x x1 x2) (scheme_Maximum_1 k i x x1 x2) := by
  refine RunsO.of_goes (N := 10) (m := 1) (T := [(0, .d (.int .i64 i)), (1, .ptr 0 0)]) Try.func47 rfl rfl (h := ?_)
  unfold scheme_Maximum_1
  refine bStart ?_
  refine oSR rfl ?_
  refine oP (.d (.int .i64 0)) p_assign ?_
  refine oEnd ?_
  refine oSR rfl ?_
  refine oP (.ptr 0 2) (k_fieldAddr 0 0 (hu := Try.underlying27) (hf := rfl) (hi := ty25)) ?_
  refine oQ (.d (.lit (List.map e_SPart x2))) (k_load 0 2 (hu := Try.underlying25)) ?_
  refine oP (.d (.int .i64 i)) p_move ?_
  refine bIdx (fun e11 h12 h13 => ?_)
  refine oP (.lptr (e_SPart e11) 0) (k_idxLit e_SPart_len x2 (a := e11) (k := .i64) (i := i) (hu := Try.underlying25) (hi := ty49) (h0 := h12) (he := h13)) ?_
  refine oP (.lptr (e_SPart e11) 1) (k_fieldAddrL (cells := e_SPart e11) 0 (hu := Try.underlying49) (hf := rfl) (hi := ty3)) ?_
  refine oQ (.d (.int .i64 e11.Max)) (k_loadL (cells := e_SPart e11) 1 (hu := Try.underlying3)) ?_
  refine oP (.d (.int .i64 e11.Max)) p_assign ?_
  refine oEnd ?_
  exact oRet (r0 := e11.Max) (rv := .d (.int .i64 e11.Max)) (B := [.box [.d (.int .i64 x), .d (.int .i64 x1), .d (.lit (List.map e_SPart x2))]]) (vs := [.d (.int .i64 e11.Max)]) (σ := [0]) (hf := Try.func47) (hrs := rfl) (hres := .cons _ _ _ _ (.tmp 3 _ (by kernel_rfl)) .nil) (hnd := by decide)

/-- awardingbody/scheme.sum -/
def scheme_sum_2_b1 (k : Nat) (p2 : (List SPart)) (s1 : (List Int)) (x : Int) (x1 : Int) (x2 : (List SPart)) (again : Int × Int → Option (Int)) : Int × Int → Option (Int) := uc fun n11 => fun x7 => bif (decide (x7 < ((List.length p2) : Int))) then Option.bind (gidx p2 x7 fun e114 => gidx s1 x7 fun e115 => bif (e115 == 0) then Option.bind (scheme_Maximum_1 k x7 x x1 x2) (fun r18 => some (IntKind.wrap .i64 (n11 + r18))) else bif (e115 == 1) then some (IntKind.wrap .i64 (n11 + e114.Max)) else bif (e115 == 2) then some n11 else some n11 : Option (Int)) (fun n14 => again (n14, (IntKind.wrap .i64 (x7 + 1)))) else some n11
def scheme_sum_2 (k : Nat) (p0 : Int) (p1 : Int) (p2 : (List SPart)) (s0 : (List (List Int))) (s1 : (List Int)) (x : Int) (x1 : Int) (x2 : (List SPart)) : Option (Int) := Option.bind (gloop (scheme_sum_2_b1 k p2 s1 x x1 x2) k (0, 0) : Option (Int)) (fun n9 => some n9)
def scheme_sum_2_E (p0 : Int) (p1 : Int) (p2 : (List SPart)) (s0 : (List (List Int))) (s1 : (List Int)) (x : Int) (x1 : Int) (x2 : (List SPart)) : Int → V × List Blk := fun r12 => (.d (.int .i64 r12), [.box [.d (.int .i64 x), .d (.int .i64 x1), .d (.lit (List.map e_SPart x2))]])
theorem scheme_sum_2_goes (k : Nat) (p0 : Int) (p1 : Int) (p2 : (List SPart)) (s0 : (List (List Int))) (s1 : (List Int)) (x : Int) (x1 : Int) (x2 : (List SPart)) : RunsO Try.prog 45 [.agg [.d (.int .i64 p0), .d (.int .i64 p1), .d (.lit (List.map e_SPart p2))], .agg [.d (.lit (List.map e_Li64 s0)), .d (.lit (List.map e_i64 s1))], .fn 47 [.ptr 0 0]] [.box [.d (.int .i64 x), .d (.int .i64 x1), .d (.lit (List.map e_SPart x2))]] (scheme_sum_2_E p0 p1 p2 s0 s1 x x1 x2) (scheme_sum_2 k p0 p1 p2 s0 s1 x x1 x2) := by
  refine RunsO.of_goes (N := 40) (m := 1) (T := [(0, .agg [.d (.int .i64 p0), .d (.int .i64 p1), .d (.lit (List.map e_SPart p2))]), (1, .agg [.d (.lit (List.map e_Li64 s0)), .d (.lit (List.map e_i64 s1))]), (2, .fn 47 [.ptr 0 0])]) Try.func45 rfl rfl (h := ?_)
  unfold scheme_sum_2
  refine bStart ?_
  refine oSR rfl ?_
  refine oD (.ptr 1 0) (k_box (H' := [.box [.d (.int .i64 x), .d (.int .i64 x1), .d (.lit (List.map e_SPart x2))], .box [.d (.int .i64 p0), .d (.int .i64 p1), .d (.lit (List.map e_SPart p2))]]) (cells := [.d (.int .i64 p0), .d (.int .i64 p1), .d (.lit (List.map e_SPart p2))])) ?_
  refine oD (.ptr 2 0) (k_box (H' := [.box [.d (.int .i64 x), .d (.int .i64 x1), .d (.lit (List.map e_SPart x2))], .box [.d (.int .i64 p0), .d (.int .i64 p1), .d (.lit (List.map e_SPart p2))], .box [.d (.lit (List.map e_Li64 s0)), .d (.lit (List.map e_i64 s1))]]) (cells := [.d (.lit (List.map e_Li64 s0)), .d (.lit (List.map e_i64 s1))])) ?_
  refine oP (.d (.int .i64 0)) p_assign ?_
  refine oEnd ?_
  refine oSR rfl ?_
  refine oP (.d (.int .i64 0)) p_assign ?_
  refine oEnd ?_
  refine oSeq ?_
  refine oSR rfl ?_
  refine oP (.ptr 1 2) (k_fieldAddr 1 0 (hu := Try.underlying27) (hf := rfl) (hi := ty25)) ?_
  refine oQ (.d (.lit (List.map e_SPart p2))) (k_load 1 2 (hu := Try.underlying25)) ?_
  refine oP (.d (.int .i64 ((List.length p2) : Int))) (k_lenLit (enc := e_SPart) p2 (hu := Try.underlying25)) ?_
  refine oP (.d (.int .i64 0)) p_move ?_
  refine oEnd ?_
  refine bJoin ((fun (n9 : Int) => [(7, .d (.int .i64 n9))])) ((fun (n9 : Int) => [.box [.d (.int .i64 x), .d (.int .i64 x1), .d (.lit (List.map e_SPart x2))]])) (fun s => s) (fun n9 => ?_) (fun hj6 => ?_)
  ·refine oView (T' := [(7, .d (.int .i64 n9))]) (H' := [.box [.d (.int .i64 x), .d (.int .i64 x1), .d (.lit (List.map e_SPart x2))]]) (h := ?_)
   refine oSR rfl ?_
   refine oP (.d (.int .i64 n9)) p_move ?_
   refine oP (.d (.int .i64 n9)) p_assign ?_
   refine oEnd ?_
   exact oRet (r0 := n9) (rv := .d (.int .i64 n9)) (B := [.box [.d (.int .i64 x), .d (.int .i64 x1), .d (.lit (List.map e_SPart x2))]]) (vs := [.d (.int .i64 n9)]) (σ := [0]) (hf := Try.func45) (hrs := rfl) (hres := .cons _ _ _ _ (.tmp 6 _ (by kernel_rfl)) .nil) (hnd := by decide)
  ·refine oBlock ?_
   refine oLoop ?_
   refine oHead [2, 4, 7, 11, 12, 13] [0, 2] (T' := [(2, .fn 47 [.ptr 0 0]), (4, .ptr 1 0), (7, .d (.int .i64 0)), (11, .d (.lit (List.map e_SPart p2))), (12, .d (.int .i64 ((List.length p2) : Int))), (13, .d (.int .i64 0))]) (H' := [.box [.d (.int .i64 x), .d (.int .i64 x1), .d (.lit (List.map e_SPart x2))], .box [.d (.lit (List.map e_Li64 s0)), .d (.lit (List.map e_i64 s1))]]) (hnd := by decide) (h := ?_)
   refine bLoop (body := scheme_sum_2_b1 k p2 s1 x x1 x2) ((uc fun (n11 : Int) => (fun (x7 : Int) => [(2, .fn 47 [.ptr 0 0]), (4, .ptr 1 0), (7, .d (.int .i64 n11)), (11, .d (.lit (List.map e_SPart p2))), (12, .d (.int .i64 ((List.length p2) : Int))), (13, .d (.int .i64 x7))]))) ((uc fun (n11 : Int) => (fun (x7 : Int) => [.box [.d (.int .i64 x), .d (.int .i64 x1), .d (.lit (List.map e_SPart x2))], .box [.d (.lit (List.map e_Li64 s0)), .d (.lit (List.map e_i64 s1))]]))) (fun again hag1 s => ?_) k (0, 0)
   ·unfold scheme_sum_2_b1
    obtain ⟨n11, x7⟩ := s
    refine bUc ?_
    refine oView (T' := [(2, .fn 47 [.ptr 0 0]), (4, .ptr 1 0), (7, .d (.int .i64 n11)), (11, .d (.lit (List.map e_SPart p2))), (12, .d (.int .i64 ((List.length p2) : Int))), (13, .d (.int .i64 x7))]) (H' := [.box [.d (.int .i64 x), .d (.int .i64 x1), .d (.lit (List.map e_SPart x2))], .box [.d (.lit (List.map e_Li64 s0)), .d (.lit (List.map e_i64 s1))]]) (h := ?_)
    refine oSR rfl ?_
    refine oP (.d (.bool (decide (x7 < ((List.length p2) : Int))))) (p_int (k := .i64) (p := x7) (q := ((List.length p2) : Int))) ?_
    refine oEnd ?_
    refine oSeq ?_
    refine bSplit 14 (h1 := fun hc => ?_) (h2 := fun hc => ?_)
    ·refine oCondT (h := ?_)
     refine oSkip ?_
     refine oSeq ?_
     refine bJoin ((fun (n14 : Int) => [(2, .fn 47 [.ptr 0 0]), (4, .ptr 1 0), (7, .d (.int .i64 n14)), (11, .d (.lit (List.map e_SPart p2))), (12, .d (.int .i64 ((List.length p2) : Int))), (13, .d (.int .i64 x7))])) ((fun (n14 : Int) => [.box [.d (.int .i64 x), .d (.int .i64 x1), .d (.lit (List.map e_SPart x2))], .box [.d (.lit (List.map e_Li64 s0)), .d (.lit (List.map e_i64 s1))]])) (fun s => s) (fun n14 => ?_) (fun hj9 => ?_)
     ·refine oView (T' := [(2, .fn 47 [.ptr 0 0]), (4, .ptr 1 0), (7, .d (.int .i64 n14)), (11, .d (.lit (List.map e_SPart p2))), (12, .d (.int .i64 ((List.length p2) : Int))), (13, .d (.int .i64 x7))]) (H' := [.box [.d (.int .i64 x), .d (.int .i64 x1), .d (.lit (List.map e_SPart x2))], .box [.d (.lit (List.map e_Li64 s0)), .d (.lit (List.map e_i64 s1))]]) (h := ?_)
      refine oRegion rfl ?_
      refine oP (.d (.int .i64 (IntKind.wrap .i64 (x7 + 1)))) (p_int (k := .i64) (p := x7) (q := 1)) ?_
      refine oP (.d (.int .i64 (IntKind.wrap .i64 (x7 + 1)))) p_move ?_
      refine oEnd ?_
      refine oAgain ?_
      refine oHead [2, 4, 7, 11, 12, 13] [0, 1] (T' := [(2, .fn 47 [.ptr 0 0]), (4, .ptr 1 0), (7, .d (.int .i64 n14)), (11, .d (.lit (List.map e_SPart p2))), (12, .d (.int .i64 ((List.length p2) : Int))), (13, .d (.int .i64 (IntKind.wrap .i64 (x7 + 1))))]) (H' := [.box [.d (.int .i64 x), .d (.int .i64 x1), .d (.lit (List.map e_SPart x2))], .box [.d (.lit (List.map e_Li64 s0)), .d (.lit (List.map e_i64 s1))]]) (hnd := by decide) (h := ?_)
      exact hag1 (n14, (IntKind.wrap .i64 (x7 + 1)))
     ·refine oBlock ?_
      refine oSR rfl ?_
      refine oP (.d (.int .i64 x7)) p_move ?_
      refine bIdx (fun e114 h128 h129 => ?_)
      refine oP (.lptr (e_SPart e114) 0) (k_idxLit e_SPart_len p2 (a := e114) (k := .i64) (i := x7) (hu := Try.underlying25) (hi := ty49) (h0 := h128) (he := h129)) ?_
      refine oQ (.agg [.d (.int .i64 e114.Kind), .d (.int .i64 e114.Max), .d (.int .i64 e114.Topic), .d (.int .i64 e114.Objective), .d (.int .i64 e114.Options), .d (.int .i64 e114.Key)]) (k_loadLAgg (cells := e_SPart e114) 0 [(.int .i64 e114.Kind), (.int .i64 e114.Max), (.int .i64 e114.Topic), (.int .i64 e114.Objective), (.int .i64 e114.Options), (.int .i64 e114.Key)] (hu := Try.underlying49) (hi := ty49)) ?_
      refine oD (.ptr 2 0) (k_alloc (H' := [.box [.d (.int .i64 x), .d (.int .i64 x1), .d (.lit (List.map e_SPart x2))], .box [.d (.lit (List.map e_Li64 s0)), .d (.lit (List.map e_i64 s1))], .box [.d (.int .i64 0), .d (.int .i64 0), .d (.int .i64 0), .d (.int .i64 0), .d (.int .i64 0), .d (.int .i64 0)]]) ty49) ?_
      refine oP (.d (.int .i64 x7)) p_assign ?_
      refine oD (.undef) (k_store (vs := [.d (.int .i64 e114.Kind), .d (.int .i64 e114.Max), .d (.int .i64 e114.Topic), .d (.int .i64 e114.Objective), .d (.int .i64 e114.Options), .d (.int .i64 e114.Key)]) (H' := [.box [.d (.int .i64 x), .d (.int .i64 x1), .d (.lit (List.map e_SPart x2))], .box [.d (.lit (List.map e_Li64 s0)), .d (.lit (List.map e_i64 s1))], .box [.d (.int .i64 e114.Kind), .d (.int .i64 e114.Max), .d (.int .i64 e114.Topic), .d (.int .i64 e114.Objective), .d (.int .i64 e114.Options), .d (.int .i64 e114.Key)]]) 2 0 (hi := ty49)) ?_
      refine oEnd ?_
      refine oSR rfl ?_
      refine oP (.ptr 1 1) (k_fieldAddr 1 0 (hu := Try.underlying31) (hf := rfl) (hi := ty22)) ?_
      refine oQ (.d (.lit (List.map e_i64 s1))) (k_load 1 1 (hu := Try.underlying22)) ?_
      refine oP (.d (.int .i64 x7)) p_move ?_
      refine bIdx (fun e115 h130 h131 => ?_)
      refine oP (.lptr (e_i64 e115) 0) (k_idxLit e_i64_len s1 (a := e115) (k := .i64) (i := x7) (hu := Try.underlying22) (hi := ty3) (h0 := h130) (he := h131)) ?_
      refine oQ (.d (.int .i64 e115)) (k_loadL (cells := e_i64 e115) 0 (hu := Try.underlying3)) ?_
      refine oEnd ?_
      refine oBlock ?_
      refine oSR rfl ?_
      refine oP (.d (.bool (e115 == 0))) (p_int (k := .i64) (p := e115) (q := 0)) ?_
      refine oP (.d (.bool (e115 == 0))) p_assign ?_
      refine oEnd ?_
      refine bSplit 23 (h1 := fun hc => ?_) (h2 := fun hc => ?_)
      ·refine oCondT (h := ?_)
       refine oRegion rfl ?_
       refine oP (.d (.int .i64 n11)) p_move ?_
       refine oP (.fn 47 [.ptr 0 0]) p_move ?_
       refine oP (.d (.int .i64 x7)) p_move ?_
       refine bCall (caps := [.ptr 0 0]) (v := (fun (r18 : Int) => (.d (.int .i64 r18) : V))) (H' := (fun (r18 : Int) => ([.box [.d (.int .i64 x), .d (.int .i64 x1), .d (.lit (List.map e_SPart x2))], .box [.d (.lit (List.map e_Li64 s0)), .d (.lit (List.map e_i64 s1))], .box [.d (.int .i64 e114.Kind), .d (.int .i64 e114.Max), .d (.int .i64 e114.Topic), .d (.int .i64 e114.Objective), .d (.int .i64 e114.Options), .d (.int .i64 e114.Key)]] : List Blk))) [0] _ (scheme_Maximum_1_goes k x7 x x1 x2) (ho := rfl) (hfn := Try.func47) (hb := rfl) (hconv := ConvRs.refl _ _) (hnd := by decide) (hBl := fun _ => (by kernel_rfl)) (hv := fun _ => (by kernel_rfl)) (hH' := fun _ => (by kernel_rfl)) (h := fun r18 => ?_)
       refine oP (.d (.int .i64 (IntKind.wrap .i64 (n11 + r18)))) (p_int (k := .i64) (p := n11) (q := r18)) ?_
       refine oP (.d (.int .i64 (IntKind.wrap .i64 (n11 + r18)))) p_assign ?_
       refine oEnd ?_
       refine oBlk ?_
       refine oBlk ?_
       refine oHead [2, 4, 7, 11, 12, 13] [0, 1] (T' := [(2, .fn 47 [.ptr 0 0]), (4, .ptr 1 0), (7, .d (.int .i64 (IntKind.wrap .i64 (n11 + r18)))), (11, .d (.lit (List.map e_SPart p2))), (12, .d (.int .i64 ((List.length p2) : Int))), (13, .d (.int .i64 x7))]) (H' := [.box [.d (.int .i64 x), .d (.int .i64 x1), .d (.lit (List.map e_SPart x2))], .box [.d (.lit (List.map e_Li64 s0)), .d (.lit (List.map e_i64 s1))]]) (hnd := by decide) (h := ?_)
       exact hj9 (IntKind.wrap .i64 (n11 + r18))
      ·refine oCondF (h := ?_)
       refine oSR rfl ?_
       refine oP (.d (.bool (e115 == 1))) (p_int (k := .i64) (p := e115) (q := 1)) ?_
       refine oP (.d (.bool (e115 == 1))) p_assign ?_
       refine oEnd ?_
       refine bSplit 30 (h1 := fun hc => ?_) (h2 := fun hc => ?_)
       ·refine oCondT (h := ?_)
        refine oRegion rfl ?_
        refine oP (.d (.int .i64 n11)) p_move ?_
        refine oP (.ptr 2 1) (k_fieldAddr 2 0 (hu := Try.underlying49) (hf := rfl) (hi := ty3)) ?_
        refine oQ (.d (.int .i64 e114.Max)) (k_load 2 1 (hu := Try.underlying3)) ?_
        refine oP (.d (.int .i64 (IntKind.wrap .i64 (n11 + e114.Max)))) (p_int (k := .i64) (p := n11) (q := e114.Max)) ?_
        refine oP (.d (.int .i64 (IntKind.wrap .i64 (n11 + e114.Max)))) p_assign ?_
        refine oEnd ?_
        refine oBlk ?_
        refine oBlk ?_
        refine oHead [2, 4, 7, 11, 12, 13] [0, 1] (T' := [(2, .fn 47 [.ptr 0 0]), (4, .ptr 1 0), (7, .d (.int .i64 (IntKind.wrap .i64 (n11 + e114.Max)))), (11, .d (.lit (List.map e_SPart p2))), (12, .d (.int .i64 ((List.length p2) : Int))), (13, .d (.int .i64 x7))]) (H' := [.box [.d (.int .i64 x), .d (.int .i64 x1), .d (.lit (List.map e_SPart x2))], .box [.d (.lit (List.map e_Li64 s0)), .d (.lit (List.map e_i64 s1))]]) (hnd := by decide) (h := ?_)
        exact hj9 (IntKind.wrap .i64 (n11 + e114.Max))
       ·refine oCondF (h := ?_)
        refine oSR rfl ?_
        refine oP (.d (.bool (e115 == 2))) (p_int (k := .i64) (p := e115) (q := 2)) ?_
        refine oP (.d (.bool (e115 == 2))) p_assign ?_
        refine oEnd ?_
        refine bSplit 36 (h1 := fun hc => ?_) (h2 := fun hc => ?_)
        ·refine oCondT (h := ?_)
         refine oSkip ?_
         refine oBlk ?_
         refine oBlk ?_
         refine oHead [2, 4, 7, 11, 12, 13] [0, 1] (T' := [(2, .fn 47 [.ptr 0 0]), (4, .ptr 1 0), (7, .d (.int .i64 n11)), (11, .d (.lit (List.map e_SPart p2))), (12, .d (.int .i64 ((List.length p2) : Int))), (13, .d (.int .i64 x7))]) (H' := [.box [.d (.int .i64 x), .d (.int .i64 x1), .d (.lit (List.map e_SPart x2))], .box [.d (.lit (List.map e_Li64 s0)), .d (.lit (List.map e_i64 s1))]]) (hnd := by decide) (h := ?_)
         exact hj9 n11
        ·refine oCondF (h := ?_)
         refine oSkip ?_
         refine oBlk ?_
         refine oBlk ?_
         refine oHead [2, 4, 7, 11, 12, 13] [0, 1] (T' := [(2, .fn 47 [.ptr 0 0]), (4, .ptr 1 0), (7, .d (.int .i64 n11)), (11, .d (.lit (List.map e_SPart p2))), (12, .d (.int .i64 ((List.length p2) : Int))), (13, .d (.int .i64 x7))]) (H' := [.box [.d (.int .i64 x), .d (.int .i64 x1), .d (.lit (List.map e_SPart x2))], .box [.d (.lit (List.map e_Li64 s0)), .d (.lit (List.map e_i64 s1))]]) (hnd := by decide) (h := ?_)
         exact hj9 n11
    ·refine oCondF (h := ?_)
     refine oExit rfl ?_
     refine oHead [7] [0] (T' := [(7, .d (.int .i64 n11))]) (H' := [.box [.d (.int .i64 x), .d (.int .i64 x1), .d (.lit (List.map e_SPart x2))]]) (hnd := by decide) (h := ?_)
     exact hj6 n11

end Go.VM
