/- Plain functions that answer as the program's functions do, and the proof that they do. -/
import Derived.Test.YtmnpognjbfjhbaaProg
import Derived.KernelRfl
import Derived.Test.YtmnpognjbfjhbaaEngOM
import Derived.Test.YtmnpognjbfjhbaaSmFacts
import Derived.Test.YtmnpognjbfjhbaaSmFuns0
namespace Go.VM
open Go.Proofs
set_option linter.unusedVariables false
set_option linter.unusedSimpArgs false
set_option maxRecDepth 100000
/-- awardingbody/distribution.Rank -/
def distribution_Rank (k : Nat) (d0 : (List Int)) (score : Int) : Option (Int × Int × Int) := Option.bind (distribution_check k d0) (fun r18 => bif (r18 != 0) then some (0, 0, r18) else Option.bind (distribution_Below k d0 score) (fun r112 => blet ((decide (score ≥ 0)) && (decide (score < ((List.length d0) : Int)))) fun x1 => Option.bind (bif x1 then gidx d0 score fun e12 => some (IntKind.wrap .i64 (r112 + e12)) else some r112 : Option (Int)) (fun high1 => Option.bind (distribution_Count k d0) (fun r113 => Option.bind (ratio_New k (IntKind.wrap .i64 (r112 + high1)) (IntKind.wrap .i64 (2 * r113))) (uc fun r131 => uc fun r161 => fun r171 => some (r131, r161, r171))))))
def distribution_Rank_E (d0 : (List Int)) (score : Int) : Int × Int × Int → V × List Blk := uc fun r12 => uc fun r14 => fun r15 => (.tuple [.agg [.d (.int .i64 r12), .d (.int .i64 r14)], .d (.int .i64 r15)], [])
theorem distribution_Rank_goes (k : Nat) (d0 : (List Int)) (score : Int) : RunsO Try.prog 23 [.agg [.d (.lit (List.map e_i64 d0))], .d (.int .i64 score)] [] (distribution_Rank_E d0 score) (distribution_Rank k d0 score) := by
  refine RunsO.of_goes (N := 44) (m := 0) (T := [(0, .agg [.d (.lit (List.map e_i64 d0))]), (1, .d (.int .i64 score))]) Try.func23 rfl rfl (h := ?_)
  unfold distribution_Rank
  refine bStart ?_
  refine oSR rfl ?_
  refine oD (.ptr 0 0) (k_box (H' := [.box [.d (.lit (List.map e_i64 d0))]]) (cells := [.d (.lit (List.map e_i64 d0))])) ?_
  refine oD (.ptr 1 0) (k_alloc (H' := [.box [.d (.lit (List.map e_i64 d0))], .box [.d (.int .i64 0), .d (.int .i64 0)]]) ty31) ?_
  refine oP (.d (.int .i64 0)) p_assign ?_
  refine oEnd ?_
  refine oSeq ?_
  refine oSR rfl ?_
  refine oQ (.agg [.d (.lit (List.map e_i64 d0))]) (k_loadAgg 0 0 (hu := Try.underlying26) (hi := ty26)) ?_
  refine bCall (caps := []) (v := (fun (r18 : Int) => (.d (.int .i64 r18) : V))) (H' := (fun (r18 : Int) => ([.box [.d (.lit (List.map e_i64 d0))], .box [.d (.int .i64 0), .d (.int .i64 0)]] : List Blk))) [] _ (distribution_check_goes k d0) (ho := rfl) (hfn := Try.func44) (hb := rfl) (hconv := ConvRs.refl _ _) (hnd := by decide) (hBl := fun _ => (by kernel_rfl)) (hv := fun _ => (by kernel_rfl)) (hH' := fun _ => (by kernel_rfl)) (h := fun r18 => ?_)
  refine oP (.d (.int .i64 r18)) p_assign ?_
  refine oEnd ?_
  refine oSR rfl ?_
  refine oP (.d (.int .i64 r18)) p_move ?_
  refine oP (.d (.bool (r18 != 0))) (p_int (k := .i64) (p := r18) (q := 0)) ?_
  refine oEnd ?_
  refine bSplit 12 (h1 := fun hc => ?_) (h2 := fun hc => ?_)
  ·refine oCondT (h := ?_)
   refine oSR rfl ?_
   refine oP (.agg [.d (.int .i64 0), .d (.int .i64 0)]) (p_build bld31) ?_
   refine oP (.d (.int .i64 r18)) p_move ?_
   refine oD (.undef) (k_store (vs := [.d (.int .i64 0), .d (.int .i64 0)]) (H' := [.box [.d (.lit (List.map e_i64 d0))], .box [.d (.int .i64 0), .d (.int .i64 0)]]) 1 0 (hi := ty31)) ?_
   refine oP (.d (.int .i64 r18)) p_assign ?_
   refine oEnd ?_
   exact oRet (r0 := (0, 0, r18)) (rv := .tuple [.agg [.d (.int .i64 0), .d (.int .i64 0)], .d (.int .i64 r18)]) (B := []) (vs := [.agg [.d (.int .i64 0), .d (.int .i64 0)], .d (.int .i64 r18)]) (σ := []) (hf := Try.func23) (hrs := rfl) (hres := .cons _ _ _ _ (.agg 4 31 1 0 [.d (.int .i64 0), .d (.int .i64 0)] [.d (.int .i64 0), .d (.int .i64 0)] _ _ _ _ (by kernel_rfl) (by kernel_rfl) Try.underlying31 (by kernel_rfl) ty31 (by kernel_rfl) (by kernel_rfl)) (.cons _ _ _ _ (.tmp 5 _ (by kernel_rfl)) .nil)) (hnd := by decide)
  ·refine oCondF (h := ?_)
   refine oSkip ?_
   refine oSR rfl ?_
   refine oQ (.agg [.d (.lit (List.map e_i64 d0))]) (k_loadAgg 0 0 (hu := Try.underlying26) (hi := ty26)) ?_
   refine oP (.d (.int .i64 score)) p_move ?_
   refine bCall (caps := []) (v := (fun (r112 : Int) => (.d (.int .i64 r112) : V))) (H' := (fun (r112 : Int) => ([.box [.d (.lit (List.map e_i64 d0))], .box [.d (.int .i64 0), .d (.int .i64 0)]] : List Blk))) [] _ (distribution_Below_goes k d0 score) (ho := rfl) (hfn := Try.func16) (hb := rfl) (hconv := ConvRs.refl _ _) (hnd := by decide) (hBl := fun _ => (by kernel_rfl)) (hv := fun _ => (by kernel_rfl)) (hH' := fun _ => (by kernel_rfl)) (h := fun r112 => ?_)
   refine oP (.d (.int .i64 r112)) p_assign ?_
   refine oEnd ?_
   refine oSR rfl ?_
   refine oP (.d (.int .i64 r112)) p_move ?_
   refine oP (.d (.int .i64 r112)) p_assign ?_
   refine oEnd ?_
   refine oSeq ?_
   refine oSR rfl ?_
   refine oP (.d (.int .i64 score)) p_move ?_
   refine oP (.d (.bool (decide (score ≥ 0)))) (p_int (k := .i64) (p := score) (q := 0)) ?_
   refine oP (.d (.bool (decide (score ≥ 0)))) p_move ?_
   refine bMeetF (H' := [.box [.d (.lit (List.map e_i64 d0))], .box [.d (.int .i64 0), .d (.int .i64 0)]]) 6 rfl ((fun (x1 : Bool) => [(1, .d (.int .i64 score)), (2, .ptr 0 0), (4, .ptr 1 0), (7, .d (.int .i64 r112)), (8, .d (.int .i64 r112)), (27, .d (.bool x1))])) (fun x1 => ?_) (fun F hj2 => ?_)
   ·refine oView (T' := [(1, .d (.int .i64 score)), (2, .ptr 0 0), (4, .ptr 1 0), (7, .d (.int .i64 r112)), (8, .d (.int .i64 r112)), (27, .d (.bool x1))]) (H' := [.box [.d (.lit (List.map e_i64 d0))], .box [.d (.int .i64 0), .d (.int .i64 0)]]) (h := ?_)
    refine oEnd ?_
    refine bJoin ((fun (high1 : Int) => [(2, .ptr 0 0), (4, .ptr 1 0), (7, .d (.int .i64 r112)), (8, .d (.int .i64 high1))])) ((fun (high1 : Int) => [.box [.d (.lit (List.map e_i64 d0))], .box [.d (.int .i64 0), .d (.int .i64 0)]])) (fun s => s) (fun high1 => ?_) (fun hj3 => ?_)
    ·refine oView (T' := [(2, .ptr 0 0), (4, .ptr 1 0), (7, .d (.int .i64 r112)), (8, .d (.int .i64 high1))]) (H' := [.box [.d (.lit (List.map e_i64 d0))], .box [.d (.int .i64 0), .d (.int .i64 0)]]) (h := ?_)
     refine oSR rfl ?_
     refine oP (.d (.int .i64 r112)) p_move ?_
     refine oP (.d (.int .i64 high1)) p_move ?_
     refine oP (.d (.int .i64 (IntKind.wrap .i64 (r112 + high1)))) (p_int (k := .i64) (p := r112) (q := high1)) ?_
     refine oQ (.agg [.d (.lit (List.map e_i64 d0))]) (k_loadAgg 0 0 (hu := Try.underlying26) (hi := ty26)) ?_
     refine bCall (caps := []) (v := (fun (r113 : Int) => (.d (.int .i64 r113) : V))) (H' := (fun (r113 : Int) => ([.box [.d (.lit (List.map e_i64 d0))], .box [.d (.int .i64 0), .d (.int .i64 0)]] : List Blk))) [] _ (distribution_Count_goes k d0) (ho := rfl) (hfn := Try.func15) (hb := rfl) (hconv := ConvRs.refl _ _) (hnd := by decide) (hBl := fun _ => (by kernel_rfl)) (hv := fun _ => (by kernel_rfl)) (hH' := fun _ => (by kernel_rfl)) (h := fun r113 => ?_)
     refine oP (.d (.int .i64 (IntKind.wrap .i64 (2 * r113)))) (p_int (k := .i64) (p := 2) (q := r113)) ?_
     refine bCall (caps := []) (v := (uc fun (r131 : Int) => (uc fun (r161 : Int) => (fun (r171 : Int) => (.tuple [.agg [.d (.int .i64 r131), .d (.int .i64 r161)], .d (.int .i64 r171)] : V))))) (H' := (uc fun (r131 : Int) => (uc fun (r161 : Int) => (fun (r171 : Int) => ([.box [.d (.lit (List.map e_i64 d0))], .box [.d (.int .i64 0), .d (.int .i64 0)]] : List Blk))))) [] _ (ratio_New_goes k (IntKind.wrap .i64 (r112 + high1)) (IntKind.wrap .i64 (2 * r113))) (ho := rfl) (hfn := Try.func45) (hb := rfl) (hconv := ConvRs.refl _ _) (hnd := by decide) (hBl := fun _ => (by kernel_rfl)) (hv := fun _ => (by kernel_rfl)) (hH' := fun _ => (by kernel_rfl)) (h := fun r => ?_)
     obtain ⟨r131, r161, r171⟩ := r
     refine bUc ?_
     refine bUc ?_
     refine oP (.agg [.d (.int .i64 r131), .d (.int .i64 r161)]) k_extract ?_
     refine oP (.d (.int .i64 r171)) k_extract ?_
     refine oD (.undef) (k_store (vs := [.d (.int .i64 r131), .d (.int .i64 r161)]) (H' := [.box [.d (.lit (List.map e_i64 d0))], .box [.d (.int .i64 r131), .d (.int .i64 r161)]]) 1 0 (hi := ty31)) ?_
     refine oP (.d (.int .i64 r171)) p_assign ?_
     refine oEnd ?_
     exact oRet (r0 := (r131, r161, r171)) (rv := .tuple [.agg [.d (.int .i64 r131), .d (.int .i64 r161)], .d (.int .i64 r171)]) (B := []) (vs := [.agg [.d (.int .i64 r131), .d (.int .i64 r161)], .d (.int .i64 r171)]) (σ := []) (hf := Try.func23) (hrs := rfl) (hres := .cons _ _ _ _ (.agg 4 31 1 0 [.d (.int .i64 r131), .d (.int .i64 r161)] [.d (.int .i64 r131), .d (.int .i64 r161)] _ _ _ _ (by kernel_rfl) (by kernel_rfl) Try.underlying31 (by kernel_rfl) ty31 (by kernel_rfl) (by kernel_rfl)) (.cons _ _ _ _ (.tmp 5 _ (by kernel_rfl)) .nil)) (hnd := by decide)
    ·refine bSplit 27 (h1 := fun hc => ?_) (h2 := fun hc => ?_)
     ·refine oCondT (h := ?_)
      refine oRegion rfl ?_
      refine oP (.d (.int .i64 r112)) p_move ?_
      refine oP (.ptr 0 0) (k_fieldAddr 0 0 (hu := Try.underlying26) (hf := rfl) (hi := ty22)) ?_
      refine oQ (.d (.lit (List.map e_i64 d0))) (k_load 0 0 (hu := Try.underlying22)) ?_
      refine oP (.d (.int .i64 score)) p_move ?_
      refine bIdx (fun e12 h14 h15 => ?_)
      refine oP (.lptr (e_i64 e12) 0) (k_idxLit e_i64_len d0 (a := e12) (k := .i64) (i := score) (hu := Try.underlying22) (hi := ty3) (h0 := h14) (he := h15)) ?_
      refine oQ (.d (.int .i64 e12)) (k_loadL (cells := e_i64 e12) 0 (hu := Try.underlying3)) ?_
      refine oP (.d (.int .i64 (IntKind.wrap .i64 (r112 + e12)))) (p_int (k := .i64) (p := r112) (q := e12)) ?_
      refine oP (.d (.int .i64 (IntKind.wrap .i64 (r112 + e12)))) p_assign ?_
      refine oEnd ?_
      refine oHead [2, 4, 7, 8] [0, 1] (T' := [(2, .ptr 0 0), (4, .ptr 1 0), (7, .d (.int .i64 r112)), (8, .d (.int .i64 (IntKind.wrap .i64 (r112 + e12))))]) (H' := [.box [.d (.lit (List.map e_i64 d0))], .box [.d (.int .i64 0), .d (.int .i64 0)]]) (hnd := by decide) (h := ?_)
      exact hj3 (IntKind.wrap .i64 (r112 + e12))
     ·refine oCondF (h := ?_)
      refine oSkip ?_
      refine oHead [2, 4, 7, 8] [0, 1] (T' := [(2, .ptr 0 0), (4, .ptr 1 0), (7, .d (.int .i64 r112)), (8, .d (.int .i64 r112))]) (H' := [.box [.d (.lit (List.map e_i64 d0))], .box [.d (.int .i64 0), .d (.int .i64 0)]]) (hnd := by decide) (h := ?_)
      exact hj3 r112
   ·refine bPickF 21 (fun c => F (c && (decide (score < ((List.length d0) : Int))))) (h1 := fun hc => ?_) (h2 := fun hc => ?_)
    ·refine oP (.d (.int .i64 score)) p_move ?_
     refine oP (.ptr 0 0) (k_fieldAddr 0 0 (hu := Try.underlying26) (hf := rfl) (hi := ty22)) ?_
     refine oQ (.d (.lit (List.map e_i64 d0))) (k_load 0 0 (hu := Try.underlying22)) ?_
     refine oP (.d (.int .i64 ((List.length d0) : Int))) (k_lenLit (enc := e_i64) d0 (hu := Try.underlying22)) ?_
     refine oP (.d (.bool (decide (score < ((List.length d0) : Int))))) (p_int (k := .i64) (p := score) (q := ((List.length d0) : Int))) ?_
     refine oP (.d (.bool (decide (score < ((List.length d0) : Int))))) (p_pick (b := true)) ?_
     refine oHead [1, 2, 4, 7, 8, 27] [0, 1] (T' := [(1, .d (.int .i64 score)), (2, .ptr 0 0), (4, .ptr 1 0), (7, .d (.int .i64 r112)), (8, .d (.int .i64 r112)), (27, .d (.bool (decide (score < ((List.length d0) : Int)))))]) (H' := [.box [.d (.lit (List.map e_i64 d0))], .box [.d (.int .i64 0), .d (.int .i64 0)]]) (hnd := by decide) (h := ?_)
     exact hj2 (decide (score < ((List.length d0) : Int)))
    ·refine oNot (h := ?_)
     refine oNot (h := ?_)
     refine oNot (h := ?_)
     refine oNot (h := ?_)
     refine oNot (h := ?_)
     refine oP (.d (.bool false)) (p_pick (b := false)) ?_
     refine oHead [1, 2, 4, 7, 8, 27] [0, 1] (T' := [(1, .d (.int .i64 score)), (2, .ptr 0 0), (4, .ptr 1 0), (7, .d (.int .i64 r112)), (8, .d (.int .i64 r112)), (27, .d (.bool false))]) (H' := [.box [.d (.lit (List.map e_i64 d0))], .box [.d (.int .i64 0), .d (.int .i64 0)]]) (hnd := by decide) (h := ?_)
     exact hj2 false

/-- awardingbody/ratio.Valid -/
def ratio_Valid (k : Nat) (a0 : Int) (a1 : Int) : Option (Bool) := blet ((decide (a1 ≥ 1)) && (decide (a1 ≤ 1152921504606846976))) fun x12 => blet (x12 && (decide (a0 ≥ (-1152921504606846976)))) fun x13 => blet (x13 && (decide (a0 ≤ 1152921504606846976))) fun x14 => Option.bind (bif x14 then Option.bind (ratio_abs k a0) (fun r1 => Option.bind (ratio_gcd k r1 (IntKind.wrap .u64 a1)) (fun r11 => some (r11 == 1))) else some false : Option Bool) (fun x15 => some x15)
def ratio_Valid_E (a0 : Int) (a1 : Int) : Bool → V × List Blk := fun r12 => (.d (.bool r12), [])
theorem ratio_Valid_goes (k : Nat) (a0 : Int) (a1 : Int) : RunsO Try.prog 43 [.agg [.d (.int .i64 a0), .d (.int .i64 a1)]] [] (ratio_Valid_E a0 a1) (ratio_Valid k a0 a1) := by
  refine RunsO.of_goes (N := 31) (m := 0) (T := [(0, .agg [.d (.int .i64 a0), .d (.int .i64 a1)])]) Try.func43 rfl rfl (h := ?_)
  unfold ratio_Valid
  refine bStart ?_
  refine oSR rfl ?_
  refine oD (.ptr 0 0) (k_box (H' := [.box [.d (.int .i64 a0), .d (.int .i64 a1)]]) (cells := [.d (.int .i64 a0), .d (.int .i64 a1)])) ?_
  refine oP (.d (.bool false)) p_assign ?_
  refine oEnd ?_
  refine oSeq ?_
  refine oDraw [(0, 29)] rfl ?_
  refine aP 0 (.ptr 0 1) rfl (k_fieldAddr 0 0 (hu := Try.underlying31) (hf := rfl) (hi := ty3)) ?_
  refine aQ 1 [0] (.d (.int .i64 a1)) rfl (k_load 0 1 (hu := Try.underlying3)) ?_
  refine aP 2 (.d (.bool (decide (a1 ≥ 1)))) rfl (p_int (k := .i64) (p := a1) (q := 1)) ?_
  refine aP 3 (.d (.bool (decide (a1 ≥ 1)))) rfl p_move ?_
  refine dMeetF [7, 6, 5, 4, 3, 2, 1, 0] (fun (x12 : Bool) => [(1, .ptr 0 0), (10, .d (.bool x12))]) (fun (x12 : Bool) => [(1, .ptr 0 0), (10, .d (.bool x12))]) (H' := [.box [.d (.int .i64 a0), .d (.int .i64 a1)]]) (fun x12 => ?_) (fun F hj5 => ?_)
  ·refine aP 8 (.d (.bool x12)) rfl p_move ?_
   refine dMeetF [12, 11, 10, 9, 8, 7, 6, 5, 4, 3, 2, 1, 0] (fun (x13 : Bool) => [(1, .ptr 0 0), (15, .d (.bool x13))]) (fun (x13 : Bool) => [(1, .ptr 0 0), (15, .d (.bool x13))]) (H' := [.box [.d (.int .i64 a0), .d (.int .i64 a1)]]) (fun x13 => ?_) (fun F hj6 => ?_)
   ·refine aP 13 (.d (.bool x13)) rfl p_move ?_
    refine dMeetF [17, 16, 15, 14, 13, 12, 11, 10, 9, 8, 7, 6, 5, 4, 3, 2, 1, 0] (fun (x14 : Bool) => [(1, .ptr 0 0), (20, .d (.bool x14))]) (fun (x14 : Bool) => [(1, .ptr 0 0), (20, .d (.bool x14))]) (H' := [.box [.d (.int .i64 a0), .d (.int .i64 a1)]]) (fun x14 => ?_) (fun F hj7 => ?_)
    ·refine aP 18 (.d (.bool x14)) rfl p_move ?_
     refine dMeet [27, 26, 25, 21, 24, 23, 22, 20, 19, 18, 17, 16, 15, 14, 13, 12, 11, 10, 9, 8, 7, 6, 5, 4, 3, 2, 1, 0] (fun (x15 : Bool) => [(30, .d (.bool x15))]) (fun (x15 : Bool) => [(30, .d (.bool x15))]) (fun _ => [.box [.d (.int .i64 a0), .d (.int .i64 a1)]]) (fun s => s) (fun x15 => ?_) (fun hj8 => ?_)
     ·refine aP 28 (.d (.bool x15)) rfl p_assign ?_
      refine aDone (h := ?_)
      exact oRet (r0 := x15) (rv := .d (.bool x15)) (B := []) (vs := [.d (.bool x15)]) (σ := []) (hf := Try.func43) (hrs := rfl) (hres := .cons _ _ _ _ (.tmp 2 _ (by kernel_rfl)) .nil) (hnd := by decide)
     ·refine dSplit 21 (h1 := fun hc => ?_) (h2 := fun hc => ?_)
      ·refine aP 19 (.ptr 0 0) rfl (k_fieldAddr 0 0 (hu := Try.underlying31) (hf := rfl) (hi := ty3)) ?_
       refine aQ 20 [0] (.d (.int .i64 a0)) rfl (k_load 0 0 (hu := Try.underlying3)) ?_
       refine aP 22 (.ptr 0 1) rfl (k_fieldAddr 0 0 (hu := Try.underlying31) (hf := rfl) (hi := ty3)) ?_
       refine aQ 23 [0] (.d (.int .i64 a1)) rfl (k_load 0 1 (hu := Try.underlying3)) ?_
       refine aP 24 (.d (.int .u64 (IntKind.wrap .u64 a1))) rfl (p_conv (k := .i64) (p := a1) (hu1 := Try.underlying3) (hu2 := Try.underlying61)) ?_
       refine dCall (i := 21) (caps := []) (v := (fun (r1 : Int) => (.d (.int .u64 r1) : V))) (H' := (fun (r1 : Int) => ([.box [.d (.int .i64 a0), .d (.int .i64 a1)]] : List Blk))) [] _ (ratio_abs_goes k a0) rfl (ho := rfl) (hfn := Try.func62) (hb := rfl) (hconv := ConvRs.refl _ _) (hnd := by decide) (hBl := fun _ => (by kernel_rfl)) (hv := fun _ => (by kernel_rfl)) (hH' := fun _ => (by kernel_rfl)) (h := fun r1 => ?_)
       refine dCall (i := 25) (caps := []) (v := (fun (r11 : Int) => (.d (.int .u64 r11) : V))) (H' := (fun (r11 : Int) => ([.box [.d (.int .i64 a0), .d (.int .i64 a1)]] : List Blk))) [] _ (ratio_gcd_goes k r1 (IntKind.wrap .u64 a1)) rfl (ho := rfl) (hfn := Try.func61) (hb := rfl) (hconv := ConvRs.refl _ _) (hnd := by decide) (hBl := fun _ => (by kernel_rfl)) (hv := fun _ => (by kernel_rfl)) (hH' := fun _ => (by kernel_rfl)) (h := fun r11 => ?_)
       refine aP 26 (.d (.bool (r11 == 1))) rfl (p_int (k := .u64) (p := r11) (q := 1)) ?_
       refine aP 27 (.d (.bool (r11 == 1))) rfl (p_pick (b := true)) ?_
       refine dDrop [30] [30] (T' := [(30, .d (.bool (r11 == 1)))]) (U' := [(30, .d (.bool (r11 == 1)))]) (h := ?_)
       exact hj8 (r11 == 1)
      ·refine aTakeNot (i := 19) rfl (h := ?_)
       refine aTakeNot (i := 20) rfl (h := ?_)
       refine aTakeNot (i := 21) rfl (h := ?_)
       refine aTakeNot (i := 22) rfl (h := ?_)
       refine aTakeNot (i := 23) rfl (h := ?_)
       refine aTakeNot (i := 24) rfl (h := ?_)
       refine aTakeNot (i := 25) rfl (h := ?_)
       refine aTakeNot (i := 26) rfl (h := ?_)
       refine aP 27 (.d (.bool false)) rfl (p_pick (b := false)) ?_
       refine dDrop [30] [30] (T' := [(30, .d (.bool false))]) (U' := [(30, .d (.bool false))]) (h := ?_)
       refine dLv [27, 26, 25, 21, 24, 23, 22, 20, 19, 18, 17, 16, 15, 14, 13, 12, 11, 10, 9, 8, 7, 6, 5, 4, 3, 2, 1, 0] (h1 := ?_)
       exact hj8 false
    ·refine dPickF 16 (fun c => F (c && (decide (a0 ≤ 1152921504606846976)))) (h1 := fun hc => ?_) (h2 := fun hc => ?_)
     ·refine aP 14 (.ptr 0 0) rfl (k_fieldAddr 0 0 (hu := Try.underlying31) (hf := rfl) (hi := ty3)) ?_
      refine aQ 15 [0] (.d (.int .i64 a0)) rfl (k_load 0 0 (hu := Try.underlying3)) ?_
      refine aP 16 (.d (.bool (decide (a0 ≤ 1152921504606846976)))) rfl (p_int (k := .i64) (p := a0) (q := 1152921504606846976)) ?_
      refine aP 17 (.d (.bool (decide (a0 ≤ 1152921504606846976)))) rfl (p_pick (b := true)) ?_
      refine dDrop [1, 20] [1, 20] (T' := [(1, .ptr 0 0), (20, .d (.bool (decide (a0 ≤ 1152921504606846976))))]) (U' := [(1, .ptr 0 0), (20, .d (.bool (decide (a0 ≤ 1152921504606846976))))]) (h := ?_)
      exact hj7 (decide (a0 ≤ 1152921504606846976))
     ·refine aTakeNot (i := 14) rfl (h := ?_)
      refine aTakeNot (i := 15) rfl (h := ?_)
      refine aTakeNot (i := 16) rfl (h := ?_)
      refine aP 17 (.d (.bool false)) rfl (p_pick (b := false)) ?_
      refine dDrop [1, 20] [1, 20] (T' := [(1, .ptr 0 0), (20, .d (.bool false))]) (U' := [(1, .ptr 0 0), (20, .d (.bool false))]) (h := ?_)
      exact hj7 false
   ·refine dPickF 11 (fun c => F (c && (decide (a0 ≥ (-1152921504606846976))))) (h1 := fun hc => ?_) (h2 := fun hc => ?_)
    ·refine aP 9 (.ptr 0 0) rfl (k_fieldAddr 0 0 (hu := Try.underlying31) (hf := rfl) (hi := ty3)) ?_
     refine aQ 10 [0] (.d (.int .i64 a0)) rfl (k_load 0 0 (hu := Try.underlying3)) ?_
     refine aP 11 (.d (.bool (decide (a0 ≥ (-1152921504606846976))))) rfl (p_int (k := .i64) (p := a0) (q := (-1152921504606846976))) ?_
     refine aP 12 (.d (.bool (decide (a0 ≥ (-1152921504606846976))))) rfl (p_pick (b := true)) ?_
     refine dDrop [1, 15] [1, 15] (T' := [(1, .ptr 0 0), (15, .d (.bool (decide (a0 ≥ (-1152921504606846976)))))]) (U' := [(1, .ptr 0 0), (15, .d (.bool (decide (a0 ≥ (-1152921504606846976)))))]) (h := ?_)
     exact hj6 (decide (a0 ≥ (-1152921504606846976)))
    ·refine aTakeNot (i := 9) rfl (h := ?_)
     refine aTakeNot (i := 10) rfl (h := ?_)
     refine aTakeNot (i := 11) rfl (h := ?_)
     refine aP 12 (.d (.bool false)) rfl (p_pick (b := false)) ?_
     refine dDrop [1, 15] [1, 15] (T' := [(1, .ptr 0 0), (15, .d (.bool false))]) (U' := [(1, .ptr 0 0), (15, .d (.bool false))]) (h := ?_)
     exact hj6 false
  ·refine dPickF 6 (fun c => F (c && (decide (a1 ≤ 1152921504606846976)))) (h1 := fun hc => ?_) (h2 := fun hc => ?_)
   ·refine aP 4 (.ptr 0 1) rfl (k_fieldAddr 0 0 (hu := Try.underlying31) (hf := rfl) (hi := ty3)) ?_
    refine aQ 5 [0] (.d (.int .i64 a1)) rfl (k_load 0 1 (hu := Try.underlying3)) ?_
    refine aP 6 (.d (.bool (decide (a1 ≤ 1152921504606846976)))) rfl (p_int (k := .i64) (p := a1) (q := 1152921504606846976)) ?_
    refine aP 7 (.d (.bool (decide (a1 ≤ 1152921504606846976)))) rfl (p_pick (b := true)) ?_
    refine dDrop [1, 10] [1, 10] (T' := [(1, .ptr 0 0), (10, .d (.bool (decide (a1 ≤ 1152921504606846976))))]) (U' := [(1, .ptr 0 0), (10, .d (.bool (decide (a1 ≤ 1152921504606846976))))]) (h := ?_)
    exact hj5 (decide (a1 ≤ 1152921504606846976))
   ·refine aTakeNot (i := 4) rfl (h := ?_)
    refine aTakeNot (i := 5) rfl (h := ?_)
    refine aTakeNot (i := 6) rfl (h := ?_)
    refine aP 7 (.d (.bool false)) rfl (p_pick (b := false)) ?_
    refine dDrop [1, 10] [1, 10] (T' := [(1, .ptr 0 0), (10, .d (.bool false))]) (U' := [(1, .ptr 0 0), (10, .d (.bool false))]) (h := ?_)
    exact hj5 false

/-- math/bits.Mul64 -/
def math_bits_Mul64 (k : Nat) (x : Int) (y : Int) : Option (Int × Int) := some ((IntKind.wrap .u64 ((IntKind.wrap .u64 ((IntKind.wrap .u64 ((Int.fdiv x (2 ^ (min (Int.toNat 32) (IntKind.bits .u64)))) * (Int.fdiv y (2 ^ (min (Int.toNat 32) (IntKind.bits .u64)))))) + (Int.fdiv (IntKind.wrap .u64 ((IntKind.wrap .u64 ((Int.fdiv x (2 ^ (min (Int.toNat 32) (IntKind.bits .u64)))) * (iand .u64 y 4294967295))) + (Int.fdiv (IntKind.wrap .u64 ((iand .u64 x 4294967295) * (iand .u64 y 4294967295))) (2 ^ (min (Int.toNat 32) (IntKind.bits .u64)))))) (2 ^ (min (Int.toNat 32) (IntKind.bits .u64)))))) + (Int.fdiv (IntKind.wrap .u64 ((iand .u64 (IntKind.wrap .u64 ((IntKind.wrap .u64 ((Int.fdiv x (2 ^ (min (Int.toNat 32) (IntKind.bits .u64)))) * (iand .u64 y 4294967295))) + (Int.fdiv (IntKind.wrap .u64 ((iand .u64 x 4294967295) * (iand .u64 y 4294967295))) (2 ^ (min (Int.toNat 32) (IntKind.bits .u64)))))) 4294967295) + (IntKind.wrap .u64 ((iand .u64 x 4294967295) * (Int.fdiv y (2 ^ (min (Int.toNat 32) (IntKind.bits .u64)))))))) (2 ^ (min (Int.toNat 32) (IntKind.bits .u64)))))), (IntKind.wrap .u64 (x * y)))
def math_bits_Mul64_E (x : Int) (y : Int) : Int × Int → V × List Blk := uc fun r1 => fun r11 => (.tuple [.d (.int .u64 r1), .d (.int .u64 r11)], [])
theorem math_bits_Mul64_goes (k : Nat) (x : Int) (y : Int) : RunsO Try.prog 77 [.d (.int .u64 x), .d (.int .u64 y)] [] (math_bits_Mul64_E x y) (math_bits_Mul64 k x y) := by
  refine RunsO.of_goes (N := 51) (m := 0) (T := [(0, .d (.int .u64 x)), (1, .d (.int .u64 y))]) Try.func77 rfl rfl (h := ?_)
  unfold math_bits_Mul64
  refine bStart ?_
  refine oSR rfl ?_
  refine oP (.d (.int .u64 0)) p_assign ?_
  refine oP (.d (.int .u64 0)) p_assign ?_
  refine oEnd ?_
  refine oSR rfl ?_
  refine oP (.d (.int .u64 x)) p_move ?_
  refine oP (.d (.int .u64 (iand .u64 x 4294967295))) (p_int (k := .u64) (p := x) (q := 4294967295)) ?_
  refine oP (.d (.int .u64 (iand .u64 x 4294967295))) p_assign ?_
  refine oEnd ?_
  refine oSR rfl ?_
  refine oP (.d (.int .u64 x)) p_move ?_
  refine oP (.d (.int .u64 (Int.fdiv x (2 ^ (min (Int.toNat 32) (IntKind.bits .u64)))))) (p_shr (k := .u64) (k2 := .u64) (p := x) (q := 32) (hq := by decide)) ?_
  refine oP (.d (.int .u64 (Int.fdiv x (2 ^ (min (Int.toNat 32) (IntKind.bits .u64)))))) p_assign ?_
  refine oEnd ?_
  refine oSR rfl ?_
  refine oP (.d (.int .u64 y)) p_move ?_
  refine oP (.d (.int .u64 (iand .u64 y 4294967295))) (p_int (k := .u64) (p := y) (q := 4294967295)) ?_
  refine oP (.d (.int .u64 (iand .u64 y 4294967295))) p_assign ?_
  refine oEnd ?_
  refine oSR rfl ?_
  refine oP (.d (.int .u64 y)) p_move ?_
  refine oP (.d (.int .u64 (Int.fdiv y (2 ^ (min (Int.toNat 32) (IntKind.bits .u64)))))) (p_shr (k := .u64) (k2 := .u64) (p := y) (q := 32) (hq := by decide)) ?_
  refine oP (.d (.int .u64 (Int.fdiv y (2 ^ (min (Int.toNat 32) (IntKind.bits .u64)))))) p_assign ?_
  refine oEnd ?_
  refine oSR rfl ?_
  refine oP (.d (.int .u64 (iand .u64 x 4294967295))) p_move ?_
  refine oP (.d (.int .u64 (iand .u64 y 4294967295))) p_move ?_
  refine oP (.d (.int .u64 (IntKind.wrap .u64 ((iand .u64 x 4294967295) * (iand .u64 y 4294967295))))) (p_int (k := .u64) (p := (iand .u64 x 4294967295)) (q := (iand .u64 y 4294967295))) ?_
  refine oP (.d (.int .u64 (IntKind.wrap .u64 ((iand .u64 x 4294967295) * (iand .u64 y 4294967295))))) p_assign ?_
  refine oEnd ?_
  refine oSR rfl ?_
  refine oP (.d (.int .u64 (Int.fdiv x (2 ^ (min (Int.toNat 32) (IntKind.bits .u64)))))) p_move ?_
  refine oP (.d (.int .u64 (iand .u64 y 4294967295))) p_move ?_
  refine oP (.d (.int .u64 (IntKind.wrap .u64 ((Int.fdiv x (2 ^ (min (Int.toNat 32) (IntKind.bits .u64)))) * (iand .u64 y 4294967295))))) (p_int (k := .u64) (p := (Int.fdiv x (2 ^ (min (Int.toNat 32) (IntKind.bits .u64))))) (q := (iand .u64 y 4294967295))) ?_
  refine oP (.d (.int .u64 (IntKind.wrap .u64 ((iand .u64 x 4294967295) * (iand .u64 y 4294967295))))) p_move ?_
  refine oP (.d (.int .u64 (Int.fdiv (IntKind.wrap .u64 ((iand .u64 x 4294967295) * (iand .u64 y 4294967295))) (2 ^ (min (Int.toNat 32) (IntKind.bits .u64)))))) (p_shr (k := .u64) (k2 := .u64) (p := (IntKind.wrap .u64 ((iand .u64 x 4294967295) * (iand .u64 y 4294967295)))) (q := 32) (hq := by decide)) ?_
  refine oP (.d (.int .u64 (IntKind.wrap .u64 ((IntKind.wrap .u64 ((Int.fdiv x (2 ^ (min (Int.toNat 32) (IntKind.bits .u64)))) * (iand .u64 y 4294967295))) + (Int.fdiv (IntKind.wrap .u64 ((iand .u64 x 4294967295) * (iand .u64 y 4294967295))) (2 ^ (min (Int.toNat 32) (IntKind.bits .u64)))))))) (p_int (k := .u64) (p := (IntKind.wrap .u64 ((Int.fdiv x (2 ^ (min (Int.toNat 32) (IntKind.bits .u64)))) * (iand .u64 y 4294967295)))) (q := (Int.fdiv (IntKind.wrap .u64 ((iand .u64 x 4294967295) * (iand .u64 y 4294967295))) (2 ^ (min (Int.toNat 32) (IntKind.bits .u64)))))) ?_
  refine oP (.d (.int .u64 (IntKind.wrap .u64 ((IntKind.wrap .u64 ((Int.fdiv x (2 ^ (min (Int.toNat 32) (IntKind.bits .u64)))) * (iand .u64 y 4294967295))) + (Int.fdiv (IntKind.wrap .u64 ((iand .u64 x 4294967295) * (iand .u64 y 4294967295))) (2 ^ (min (Int.toNat 32) (IntKind.bits .u64)))))))) p_assign ?_
  refine oEnd ?_
  refine oSR rfl ?_
  refine oP (.d (.int .u64 (IntKind.wrap .u64 ((IntKind.wrap .u64 ((Int.fdiv x (2 ^ (min (Int.toNat 32) (IntKind.bits .u64)))) * (iand .u64 y 4294967295))) + (Int.fdiv (IntKind.wrap .u64 ((iand .u64 x 4294967295) * (iand .u64 y 4294967295))) (2 ^ (min (Int.toNat 32) (IntKind.bits .u64)))))))) p_move ?_
  refine oP (.d (.int .u64 (iand .u64 (IntKind.wrap .u64 ((IntKind.wrap .u64 ((Int.fdiv x (2 ^ (min (Int.toNat 32) (IntKind.bits .u64)))) * (iand .u64 y 4294967295))) + (Int.fdiv (IntKind.wrap .u64 ((iand .u64 x 4294967295) * (iand .u64 y 4294967295))) (2 ^ (min (Int.toNat 32) (IntKind.bits .u64)))))) 4294967295))) (p_int (k := .u64) (p := (IntKind.wrap .u64 ((IntKind.wrap .u64 ((Int.fdiv x (2 ^ (min (Int.toNat 32) (IntKind.bits .u64)))) * (iand .u64 y 4294967295))) + (Int.fdiv (IntKind.wrap .u64 ((iand .u64 x 4294967295) * (iand .u64 y 4294967295))) (2 ^ (min (Int.toNat 32) (IntKind.bits .u64))))))) (q := 4294967295)) ?_
  refine oP (.d (.int .u64 (iand .u64 (IntKind.wrap .u64 ((IntKind.wrap .u64 ((Int.fdiv x (2 ^ (min (Int.toNat 32) (IntKind.bits .u64)))) * (iand .u64 y 4294967295))) + (Int.fdiv (IntKind.wrap .u64 ((iand .u64 x 4294967295) * (iand .u64 y 4294967295))) (2 ^ (min (Int.toNat 32) (IntKind.bits .u64)))))) 4294967295))) p_assign ?_
  refine oEnd ?_
  refine oSR rfl ?_
  refine oP (.d (.int .u64 (IntKind.wrap .u64 ((IntKind.wrap .u64 ((Int.fdiv x (2 ^ (min (Int.toNat 32) (IntKind.bits .u64)))) * (iand .u64 y 4294967295))) + (Int.fdiv (IntKind.wrap .u64 ((iand .u64 x 4294967295) * (iand .u64 y 4294967295))) (2 ^ (min (Int.toNat 32) (IntKind.bits .u64)))))))) p_move ?_
  refine oP (.d (.int .u64 (Int.fdiv (IntKind.wrap .u64 ((IntKind.wrap .u64 ((Int.fdiv x (2 ^ (min (Int.toNat 32) (IntKind.bits .u64)))) * (iand .u64 y 4294967295))) + (Int.fdiv (IntKind.wrap .u64 ((iand .u64 x 4294967295) * (iand .u64 y 4294967295))) (2 ^ (min (Int.toNat 32) (IntKind.bits .u64)))))) (2 ^ (min (Int.toNat 32) (IntKind.bits .u64)))))) (p_shr (k := .u64) (k2 := .u64) (p := (IntKind.wrap .u64 ((IntKind.wrap .u64 ((Int.fdiv x (2 ^ (min (Int.toNat 32) (IntKind.bits .u64)))) * (iand .u64 y 4294967295))) + (Int.fdiv (IntKind.wrap .u64 ((iand .u64 x 4294967295) * (iand .u64 y 4294967295))) (2 ^ (min (Int.toNat 32) (IntKind.bits .u64))))))) (q := 32) (hq := by decide)) ?_
  refine oP (.d (.int .u64 (Int.fdiv (IntKind.wrap .u64 ((IntKind.wrap .u64 ((Int.fdiv x (2 ^ (min (Int.toNat 32) (IntKind.bits .u64)))) * (iand .u64 y 4294967295))) + (Int.fdiv (IntKind.wrap .u64 ((iand .u64 x 4294967295) * (iand .u64 y 4294967295))) (2 ^ (min (Int.toNat 32) (IntKind.bits .u64)))))) (2 ^ (min (Int.toNat 32) (IntKind.bits .u64)))))) p_assign ?_
  refine oEnd ?_
  refine oSR rfl ?_
  refine oP (.d (.int .u64 (iand .u64 (IntKind.wrap .u64 ((IntKind.wrap .u64 ((Int.fdiv x (2 ^ (min (Int.toNat 32) (IntKind.bits .u64)))) * (iand .u64 y 4294967295))) + (Int.fdiv (IntKind.wrap .u64 ((iand .u64 x 4294967295) * (iand .u64 y 4294967295))) (2 ^ (min (Int.toNat 32) (IntKind.bits .u64)))))) 4294967295))) p_move ?_
  refine oP (.d (.int .u64 (iand .u64 x 4294967295))) p_move ?_
  refine oP (.d (.int .u64 (Int.fdiv y (2 ^ (min (Int.toNat 32) (IntKind.bits .u64)))))) p_move ?_
  refine oP (.d (.int .u64 (IntKind.wrap .u64 ((iand .u64 x 4294967295) * (Int.fdiv y (2 ^ (min (Int.toNat 32) (IntKind.bits .u64)))))))) (p_int (k := .u64) (p := (iand .u64 x 4294967295)) (q := (Int.fdiv y (2 ^ (min (Int.toNat 32) (IntKind.bits .u64)))))) ?_
  refine oP (.d (.int .u64 (IntKind.wrap .u64 ((iand .u64 (IntKind.wrap .u64 ((IntKind.wrap .u64 ((Int.fdiv x (2 ^ (min (Int.toNat 32) (IntKind.bits .u64)))) * (iand .u64 y 4294967295))) + (Int.fdiv (IntKind.wrap .u64 ((iand .u64 x 4294967295) * (iand .u64 y 4294967295))) (2 ^ (min (Int.toNat 32) (IntKind.bits .u64)))))) 4294967295) + (IntKind.wrap .u64 ((iand .u64 x 4294967295) * (Int.fdiv y (2 ^ (min (Int.toNat 32) (IntKind.bits .u64)))))))))) (p_int (k := .u64) (p := (iand .u64 (IntKind.wrap .u64 ((IntKind.wrap .u64 ((Int.fdiv x (2 ^ (min (Int.toNat 32) (IntKind.bits .u64)))) * (iand .u64 y 4294967295))) + (Int.fdiv (IntKind.wrap .u64 ((iand .u64 x 4294967295) * (iand .u64 y 4294967295))) (2 ^ (min (Int.toNat 32) (IntKind.bits .u64)))))) 4294967295)) (q := (IntKind.wrap .u64 ((iand .u64 x 4294967295) * (Int.fdiv y (2 ^ (min (Int.toNat 32) (IntKind.bits .u64)))))))) ?_
  refine oP (.d (.int .u64 (IntKind.wrap .u64 ((iand .u64 (IntKind.wrap .u64 ((IntKind.wrap .u64 ((Int.fdiv x (2 ^ (min (Int.toNat 32) (IntKind.bits .u64)))) * (iand .u64 y 4294967295))) + (Int.fdiv (IntKind.wrap .u64 ((iand .u64 x 4294967295) * (iand .u64 y 4294967295))) (2 ^ (min (Int.toNat 32) (IntKind.bits .u64)))))) 4294967295) + (IntKind.wrap .u64 ((iand .u64 x 4294967295) * (Int.fdiv y (2 ^ (min (Int.toNat 32) (IntKind.bits .u64)))))))))) p_assign ?_
  refine oEnd ?_
  refine oSR rfl ?_
  refine oP (.d (.int .u64 (Int.fdiv x (2 ^ (min (Int.toNat 32) (IntKind.bits .u64)))))) p_move ?_
  refine oP (.d (.int .u64 (Int.fdiv y (2 ^ (min (Int.toNat 32) (IntKind.bits .u64)))))) p_move ?_
  refine oP (.d (.int .u64 (IntKind.wrap .u64 ((Int.fdiv x (2 ^ (min (Int.toNat 32) (IntKind.bits .u64)))) * (Int.fdiv y (2 ^ (min (Int.toNat 32) (IntKind.bits .u64)))))))) (p_int (k := .u64) (p := (Int.fdiv x (2 ^ (min (Int.toNat 32) (IntKind.bits .u64))))) (q := (Int.fdiv y (2 ^ (min (Int.toNat 32) (IntKind.bits .u64)))))) ?_
  refine oP (.d (.int .u64 (Int.fdiv (IntKind.wrap .u64 ((IntKind.wrap .u64 ((Int.fdiv x (2 ^ (min (Int.toNat 32) (IntKind.bits .u64)))) * (iand .u64 y 4294967295))) + (Int.fdiv (IntKind.wrap .u64 ((iand .u64 x 4294967295) * (iand .u64 y 4294967295))) (2 ^ (min (Int.toNat 32) (IntKind.bits .u64)))))) (2 ^ (min (Int.toNat 32) (IntKind.bits .u64)))))) p_move ?_
  refine oP (.d (.int .u64 (IntKind.wrap .u64 ((IntKind.wrap .u64 ((Int.fdiv x (2 ^ (min (Int.toNat 32) (IntKind.bits .u64)))) * (Int.fdiv y (2 ^ (min (Int.toNat 32) (IntKind.bits .u64)))))) + (Int.fdiv (IntKind.wrap .u64 ((IntKind.wrap .u64 ((Int.fdiv x (2 ^ (min (Int.toNat 32) (IntKind.bits .u64)))) * (iand .u64 y 4294967295))) + (Int.fdiv (IntKind.wrap .u64 ((iand .u64 x 4294967295) * (iand .u64 y 4294967295))) (2 ^ (min (Int.toNat 32) (IntKind.bits .u64)))))) (2 ^ (min (Int.toNat 32) (IntKind.bits .u64)))))))) (p_int (k := .u64) (p := (IntKind.wrap .u64 ((Int.fdiv x (2 ^ (min (Int.toNat 32) (IntKind.bits .u64)))) * (Int.fdiv y (2 ^ (min (Int.toNat 32) (IntKind.bits .u64))))))) (q := (Int.fdiv (IntKind.wrap .u64 ((IntKind.wrap .u64 ((Int.fdiv x (2 ^ (min (Int.toNat 32) (IntKind.bits .u64)))) * (iand .u64 y 4294967295))) + (Int.fdiv (IntKind.wrap .u64 ((iand .u64 x 4294967295) * (iand .u64 y 4294967295))) (2 ^ (min (Int.toNat 32) (IntKind.bits .u64)))))) (2 ^ (min (Int.toNat 32) (IntKind.bits .u64)))))) ?_
  refine oP (.d (.int .u64 (IntKind.wrap .u64 ((iand .u64 (IntKind.wrap .u64 ((IntKind.wrap .u64 ((Int.fdiv x (2 ^ (min (Int.toNat 32) (IntKind.bits .u64)))) * (iand .u64 y 4294967295))) + (Int.fdiv (IntKind.wrap .u64 ((iand .u64 x 4294967295) * (iand .u64 y 4294967295))) (2 ^ (min (Int.toNat 32) (IntKind.bits .u64)))))) 4294967295) + (IntKind.wrap .u64 ((iand .u64 x 4294967295) * (Int.fdiv y (2 ^ (min (Int.toNat 32) (IntKind.bits .u64)))))))))) p_move ?_
  refine oP (.d (.int .u64 (Int.fdiv (IntKind.wrap .u64 ((iand .u64 (IntKind.wrap .u64 ((IntKind.wrap .u64 ((Int.fdiv x (2 ^ (min (Int.toNat 32) (IntKind.bits .u64)))) * (iand .u64 y 4294967295))) + (Int.fdiv (IntKind.wrap .u64 ((iand .u64 x 4294967295) * (iand .u64 y 4294967295))) (2 ^ (min (Int.toNat 32) (IntKind.bits .u64)))))) 4294967295) + (IntKind.wrap .u64 ((iand .u64 x 4294967295) * (Int.fdiv y (2 ^ (min (Int.toNat 32) (IntKind.bits .u64)))))))) (2 ^ (min (Int.toNat 32) (IntKind.bits .u64)))))) (p_shr (k := .u64) (k2 := .u64) (p := (IntKind.wrap .u64 ((iand .u64 (IntKind.wrap .u64 ((IntKind.wrap .u64 ((Int.fdiv x (2 ^ (min (Int.toNat 32) (IntKind.bits .u64)))) * (iand .u64 y 4294967295))) + (Int.fdiv (IntKind.wrap .u64 ((iand .u64 x 4294967295) * (iand .u64 y 4294967295))) (2 ^ (min (Int.toNat 32) (IntKind.bits .u64)))))) 4294967295) + (IntKind.wrap .u64 ((iand .u64 x 4294967295) * (Int.fdiv y (2 ^ (min (Int.toNat 32) (IntKind.bits .u64))))))))) (q := 32) (hq := by decide)) ?_
  refine oP (.d (.int .u64 (IntKind.wrap .u64 ((IntKind.wrap .u64 ((IntKind.wrap .u64 ((Int.fdiv x (2 ^ (min (Int.toNat 32) (IntKind.bits .u64)))) * (Int.fdiv y (2 ^ (min (Int.toNat 32) (IntKind.bits .u64)))))) + (Int.fdiv (IntKind.wrap .u64 ((IntKind.wrap .u64 ((Int.fdiv x (2 ^ (min (Int.toNat 32) (IntKind.bits .u64)))) * (iand .u64 y 4294967295))) + (Int.fdiv (IntKind.wrap .u64 ((iand .u64 x 4294967295) * (iand .u64 y 4294967295))) (2 ^ (min (Int.toNat 32) (IntKind.bits .u64)))))) (2 ^ (min (Int.toNat 32) (IntKind.bits .u64)))))) + (Int.fdiv (IntKind.wrap .u64 ((iand .u64 (IntKind.wrap .u64 ((IntKind.wrap .u64 ((Int.fdiv x (2 ^ (min (Int.toNat 32) (IntKind.bits .u64)))) * (iand .u64 y 4294967295))) + (Int.fdiv (IntKind.wrap .u64 ((iand .u64 x 4294967295) * (iand .u64 y 4294967295))) (2 ^ (min (Int.toNat 32) (IntKind.bits .u64)))))) 4294967295) + (IntKind.wrap .u64 ((iand .u64 x 4294967295) * (Int.fdiv y (2 ^ (min (Int.toNat 32) (IntKind.bits .u64)))))))) (2 ^ (min (Int.toNat 32) (IntKind.bits .u64)))))))) (p_int (k := .u64) (p := (IntKind.wrap .u64 ((IntKind.wrap .u64 ((Int.fdiv x (2 ^ (min (Int.toNat 32) (IntKind.bits .u64)))) * (Int.fdiv y (2 ^ (min (Int.toNat 32) (IntKind.bits .u64)))))) + (Int.fdiv (IntKind.wrap .u64 ((IntKind.wrap .u64 ((Int.fdiv x (2 ^ (min (Int.toNat 32) (IntKind.bits .u64)))) * (iand .u64 y 4294967295))) + (Int.fdiv (IntKind.wrap .u64 ((iand .u64 x 4294967295) * (iand .u64 y 4294967295))) (2 ^ (min (Int.toNat 32) (IntKind.bits .u64)))))) (2 ^ (min (Int.toNat 32) (IntKind.bits .u64))))))) (q := (Int.fdiv (IntKind.wrap .u64 ((iand .u64 (IntKind.wrap .u64 ((IntKind.wrap .u64 ((Int.fdiv x (2 ^ (min (Int.toNat 32) (IntKind.bits .u64)))) * (iand .u64 y 4294967295))) + (Int.fdiv (IntKind.wrap .u64 ((iand .u64 x 4294967295) * (iand .u64 y 4294967295))) (2 ^ (min (Int.toNat 32) (IntKind.bits .u64)))))) 4294967295) + (IntKind.wrap .u64 ((iand .u64 x 4294967295) * (Int.fdiv y (2 ^ (min (Int.toNat 32) (IntKind.bits .u64)))))))) (2 ^ (min (Int.toNat 32) (IntKind.bits .u64)))))) ?_
  refine oP (.d (.int .u64 (IntKind.wrap .u64 ((IntKind.wrap .u64 ((IntKind.wrap .u64 ((Int.fdiv x (2 ^ (min (Int.toNat 32) (IntKind.bits .u64)))) * (Int.fdiv y (2 ^ (min (Int.toNat 32) (IntKind.bits .u64)))))) + (Int.fdiv (IntKind.wrap .u64 ((IntKind.wrap .u64 ((Int.fdiv x (2 ^ (min (Int.toNat 32) (IntKind.bits .u64)))) * (iand .u64 y 4294967295))) + (Int.fdiv (IntKind.wrap .u64 ((iand .u64 x 4294967295) * (iand .u64 y 4294967295))) (2 ^ (min (Int.toNat 32) (IntKind.bits .u64)))))) (2 ^ (min (Int.toNat 32) (IntKind.bits .u64)))))) + (Int.fdiv (IntKind.wrap .u64 ((iand .u64 (IntKind.wrap .u64 ((IntKind.wrap .u64 ((Int.fdiv x (2 ^ (min (Int.toNat 32) (IntKind.bits .u64)))) * (iand .u64 y 4294967295))) + (Int.fdiv (IntKind.wrap .u64 ((iand .u64 x 4294967295) * (iand .u64 y 4294967295))) (2 ^ (min (Int.toNat 32) (IntKind.bits .u64)))))) 4294967295) + (IntKind.wrap .u64 ((iand .u64 x 4294967295) * (Int.fdiv y (2 ^ (min (Int.toNat 32) (IntKind.bits .u64)))))))) (2 ^ (min (Int.toNat 32) (IntKind.bits .u64)))))))) p_assign ?_
  refine oEnd ?_
  refine oSR rfl ?_
  refine oP (.d (.int .u64 x)) p_move ?_
  refine oP (.d (.int .u64 y)) p_move ?_
  refine oP (.d (.int .u64 (IntKind.wrap .u64 (x * y)))) (p_int (k := .u64) (p := x) (q := y)) ?_
  refine oP (.d (.int .u64 (IntKind.wrap .u64 (x * y)))) p_assign ?_
  refine oEnd ?_
  exact oRet (r0 := ((IntKind.wrap .u64 ((IntKind.wrap .u64 ((IntKind.wrap .u64 ((Int.fdiv x (2 ^ (min (Int.toNat 32) (IntKind.bits .u64)))) * (Int.fdiv y (2 ^ (min (Int.toNat 32) (IntKind.bits .u64)))))) + (Int.fdiv (IntKind.wrap .u64 ((IntKind.wrap .u64 ((Int.fdiv x (2 ^ (min (Int.toNat 32) (IntKind.bits .u64)))) * (iand .u64 y 4294967295))) + (Int.fdiv (IntKind.wrap .u64 ((iand .u64 x 4294967295) * (iand .u64 y 4294967295))) (2 ^ (min (Int.toNat 32) (IntKind.bits .u64)))))) (2 ^ (min (Int.toNat 32) (IntKind.bits .u64)))))) + (Int.fdiv (IntKind.wrap .u64 ((iand .u64 (IntKind.wrap .u64 ((IntKind.wrap .u64 ((Int.fdiv x (2 ^ (min (Int.toNat 32) (IntKind.bits .u64)))) * (iand .u64 y 4294967295))) + (Int.fdiv (IntKind.wrap .u64 ((iand .u64 x 4294967295) * (iand .u64 y 4294967295))) (2 ^ (min (Int.toNat 32) (IntKind.bits .u64)))))) 4294967295) + (IntKind.wrap .u64 ((iand .u64 x 4294967295) * (Int.fdiv y (2 ^ (min (Int.toNat 32) (IntKind.bits .u64)))))))) (2 ^ (min (Int.toNat 32) (IntKind.bits .u64)))))), (IntKind.wrap .u64 (x * y)))) (rv := .tuple [.d (.int .u64 (IntKind.wrap .u64 ((IntKind.wrap .u64 ((IntKind.wrap .u64 ((Int.fdiv x (2 ^ (min (Int.toNat 32) (IntKind.bits .u64)))) * (Int.fdiv y (2 ^ (min (Int.toNat 32) (IntKind.bits .u64)))))) + (Int.fdiv (IntKind.wrap .u64 ((IntKind.wrap .u64 ((Int.fdiv x (2 ^ (min (Int.toNat 32) (IntKind.bits .u64)))) * (iand .u64 y 4294967295))) + (Int.fdiv (IntKind.wrap .u64 ((iand .u64 x 4294967295) * (iand .u64 y 4294967295))) (2 ^ (min (Int.toNat 32) (IntKind.bits .u64)))))) (2 ^ (min (Int.toNat 32) (IntKind.bits .u64)))))) + (Int.fdiv (IntKind.wrap .u64 ((iand .u64 (IntKind.wrap .u64 ((IntKind.wrap .u64 ((Int.fdiv x (2 ^ (min (Int.toNat 32) (IntKind.bits .u64)))) * (iand .u64 y 4294967295))) + (Int.fdiv (IntKind.wrap .u64 ((iand .u64 x 4294967295) * (iand .u64 y 4294967295))) (2 ^ (min (Int.toNat 32) (IntKind.bits .u64)))))) 4294967295) + (IntKind.wrap .u64 ((iand .u64 x 4294967295) * (Int.fdiv y (2 ^ (min (Int.toNat 32) (IntKind.bits .u64)))))))) (2 ^ (min (Int.toNat 32) (IntKind.bits .u64))))))), .d (.int .u64 (IntKind.wrap .u64 (x * y)))]) (B := []) (vs := [.d (.int .u64 (IntKind.wrap .u64 ((IntKind.wrap .u64 ((IntKind.wrap .u64 ((Int.fdiv x (2 ^ (min (Int.toNat 32) (IntKind.bits .u64)))) * (Int.fdiv y (2 ^ (min (Int.toNat 32) (IntKind.bits .u64)))))) + (Int.fdiv (IntKind.wrap .u64 ((IntKind.wrap .u64 ((Int.fdiv x (2 ^ (min (Int.toNat 32) (IntKind.bits .u64)))) * (iand .u64 y 4294967295))) + (Int.fdiv (IntKind.wrap .u64 ((iand .u64 x 4294967295) * (iand .u64 y 4294967295))) (2 ^ (min (Int.toNat 32) (IntKind.bits .u64)))))) (2 ^ (min (Int.toNat 32) (IntKind.bits .u64)))))) + (Int.fdiv (IntKind.wrap .u64 ((iand .u64 (IntKind.wrap .u64 ((IntKind.wrap .u64 ((Int.fdiv x (2 ^ (min (Int.toNat 32) (IntKind.bits .u64)))) * (iand .u64 y 4294967295))) + (Int.fdiv (IntKind.wrap .u64 ((iand .u64 x 4294967295) * (iand .u64 y 4294967295))) (2 ^ (min (Int.toNat 32) (IntKind.bits .u64)))))) 4294967295) + (IntKind.wrap .u64 ((iand .u64 x 4294967295) * (Int.fdiv y (2 ^ (min (Int.toNat 32) (IntKind.bits .u64)))))))) (2 ^ (min (Int.toNat 32) (IntKind.bits .u64))))))), .d (.int .u64 (IntKind.wrap .u64 (x * y)))]) (σ := []) (hf := Try.func77) (hrs := rfl) (hres := .cons _ _ _ _ (.tmp 4 _ (by kernel_rfl)) (.cons _ _ _ _ (.tmp 5 _ (by kernel_rfl)) .nil)) (hnd := by decide)

/-- awardingbody/ratio.times -/
def ratio_times (k : Nat) (n : Int) (by1 : Int) : Option (Int × Int) := Option.bind (ratio_abs k n) (fun r14 => Option.bind (math_bits_Mul64 k r14 by1) (uc fun r15 => fun r112 => some (r15, r112)))
def ratio_times_E (n : Int) (by1 : Int) : Int × Int → V × List Blk := uc fun r12 => fun r13 => (.agg [.d (.bool (decide (n < 0))), .d (.int .u64 r12), .d (.int .u64 r13)], [])
theorem ratio_times_goes (k : Nat) (n : Int) (by1 : Int) : RunsO Try.prog 74 [.d (.int .i64 n), .d (.int .u64 by1)] [] (ratio_times_E n by1) (ratio_times k n by1) := by
  refine RunsO.of_goes (N := 19) (m := 0) (T := [(0, .d (.int .i64 n)), (1, .d (.int .u64 by1))]) Try.func74 rfl rfl (h := ?_)
  unfold ratio_times
  refine bStart ?_
  refine oSR rfl ?_
  refine oD (.ptr 0 0) (k_alloc (H' := [.box [.d (.bool false), .d (.int .u64 0), .d (.int .u64 0)]]) ty80) ?_
  refine oEnd ?_
  refine oSR rfl ?_
  refine oP (.d (.int .i64 n)) p_move ?_
  refine bCall (caps := []) (v := (fun (r14 : Int) => (.d (.int .u64 r14) : V))) (H' := (fun (r14 : Int) => ([.box [.d (.bool false), .d (.int .u64 0), .d (.int .u64 0)]] : List Blk))) [] _ (ratio_abs_goes k n) (ho := rfl) (hfn := Try.func62) (hb := rfl) (hconv := ConvRs.refl _ _) (hnd := by decide) (hBl := fun _ => (by kernel_rfl)) (hv := fun _ => (by kernel_rfl)) (hH' := fun _ => (by kernel_rfl)) (h := fun r14 => ?_)
  refine oP (.d (.int .u64 by1)) p_move ?_
  refine bCall (caps := []) (v := (uc fun (r15 : Int) => (fun (r112 : Int) => (.tuple [.d (.int .u64 r15), .d (.int .u64 r112)] : V)))) (H' := (uc fun (r15 : Int) => (fun (r112 : Int) => ([.box [.d (.bool false), .d (.int .u64 0), .d (.int .u64 0)]] : List Blk)))) [] _ (math_bits_Mul64_goes k r14 by1) (ho := rfl) (hfn := Try.func77) (hb := rfl) (hconv := ConvRs.refl _ _) (hnd := by decide) (hBl := fun _ => (by kernel_rfl)) (hv := fun _ => (by kernel_rfl)) (hH' := fun _ => (by kernel_rfl)) (h := fun r => ?_)
  obtain ⟨r15, r112⟩ := r
  refine bUc ?_
  refine oP (.tuple [.d (.int .u64 r15), .d (.int .u64 r112)]) p_move ?_
  refine oP (.d (.int .u64 r15)) k_extract ?_
  refine oP (.d (.int .u64 r112)) k_extract ?_
  refine oP (.d (.int .u64 r15)) p_assign ?_
  refine oP (.d (.int .u64 r112)) p_assign ?_
  refine oEnd ?_
  refine oSR rfl ?_
  refine oP (.d (.int .i64 n)) p_move ?_
  refine oP (.d (.bool (decide (n < 0)))) (p_int (k := .i64) (p := n) (q := 0)) ?_
  refine oP (.d (.int .u64 r15)) p_move ?_
  refine oP (.d (.int .u64 r112)) p_move ?_
  refine oP (.agg [.d (.bool (decide (n < 0))), .d (.int .u64 r15), .d (.int .u64 r112)]) (p_build bld80) ?_
  refine oD (.undef) (k_store (vs := [.d (.bool (decide (n < 0))), .d (.int .u64 r15), .d (.int .u64 r112)]) (H' := [.box [.d (.bool (decide (n < 0))), .d (.int .u64 r15), .d (.int .u64 r112)]]) 0 0 (hi := ty80)) ?_
  refine oEnd ?_
  exact oRet (r0 := (r15, r112)) (rv := .agg [.d (.bool (decide (n < 0))), .d (.int .u64 r15), .d (.int .u64 r112)]) (B := []) (vs := [.agg [.d (.bool (decide (n < 0))), .d (.int .u64 r15), .d (.int .u64 r112)]]) (σ := []) (hf := Try.func74) (hrs := rfl) (hres := .cons _ _ _ _ (.agg 4 80 0 0 [.d (.bool (decide (n < 0))), .d (.int .u64 r15), .d (.int .u64 r112)] [.d (.bool (decide (n < 0))), .d (.int .u64 r15), .d (.int .u64 r112)] _ _ _ _ (by kernel_rfl) (by kernel_rfl) Try.underlying80 (by kernel_rfl) ty80 (by kernel_rfl) (by kernel_rfl)) .nil) (hnd := by decide)

/-- (awardingbody/ratio.wide).compare -/
def ratio_wide_compare (k : Nat) (w0 : Bool) (w1 : Int) (w2 : Int) (v0 : Bool) (v1 : Int) (v2 : Int) : Option (Int) := blet ((w1 != v1) && (decide (w1 < v1))) fun x13 => Option.bind (bif x13 then some true else blet ((w1 == v1) && (decide (w2 < v2))) fun x18 => some x18 : Option (Bool)) (fun x15 => bif x15 then some (-1) else blet ((w1 == v1) && (w2 == v2)) fun x17 => bif x17 then some 0 else some 1)
def ratio_wide_compare_E (w0 : Bool) (w1 : Int) (w2 : Int) (v0 : Bool) (v1 : Int) (v2 : Int) : Int → V × List Blk := fun r1 => (.d (.int .i64 r1), [])
theorem ratio_wide_compare_goes (k : Nat) (w0 : Bool) (w1 : Int) (w2 : Int) (v0 : Bool) (v1 : Int) (v2 : Int) : RunsO Try.prog 75 [.agg [.d (.bool w0), .d (.int .u64 w1), .d (.int .u64 w2)], .agg [.d (.bool v0), .d (.int .u64 v1), .d (.int .u64 v2)]] [] (ratio_wide_compare_E w0 w1 w2 v0 v1 v2) (ratio_wide_compare k w0 w1 w2 v0 v1 v2) := by
  refine RunsO.of_goes (N := 43) (m := 0) (T := [(0, .agg [.d (.bool w0), .d (.int .u64 w1), .d (.int .u64 w2)]), (1, .agg [.d (.bool v0), .d (.int .u64 v1), .d (.int .u64 v2)])]) Try.func75 rfl rfl (h := ?_)
  unfold ratio_wide_compare
  refine bStart ?_
  refine oSR rfl ?_
  refine oD (.ptr 0 0) (k_box (H' := [.box [.d (.bool w0), .d (.int .u64 w1), .d (.int .u64 w2)]]) (cells := [.d (.bool w0), .d (.int .u64 w1), .d (.int .u64 w2)])) ?_
  refine oD (.ptr 1 0) (k_box (H' := [.box [.d (.bool w0), .d (.int .u64 w1), .d (.int .u64 w2)], .box [.d (.bool v0), .d (.int .u64 v1), .d (.int .u64 v2)]]) (cells := [.d (.bool v0), .d (.int .u64 v1), .d (.int .u64 v2)])) ?_
  refine oP (.d (.int .i64 0)) p_assign ?_
  refine oEnd ?_
  refine oSeq ?_
  refine oBlock ?_
  refine oSeq ?_
  refine oSR rfl ?_
  refine oP (.ptr 0 1) (k_fieldAddr 0 0 (hu := Try.underlying80) (hf := rfl) (hi := ty61)) ?_
  refine oQ (.d (.int .u64 w1)) (k_load 0 1 (hu := Try.underlying61)) ?_
  refine oP (.ptr 1 1) (k_fieldAddr 1 0 (hu := Try.underlying80) (hf := rfl) (hi := ty61)) ?_
  refine oQ (.d (.int .u64 v1)) (k_load 1 1 (hu := Try.underlying61)) ?_
  refine oP (.d (.bool (w1 != v1))) (p_int (k := .u64) (p := w1) (q := v1)) ?_
  refine oP (.d (.bool (w1 != v1))) p_move ?_
  refine bMeetF (H' := [.box [.d (.bool w0), .d (.int .u64 w1), .d (.int .u64 w2)], .box [.d (.bool v0), .d (.int .u64 v1), .d (.int .u64 v2)]]) 6 rfl ((fun (x13 : Bool) => [(2, .ptr 0 0), (3, .ptr 1 0), (17, .d (.bool x13))])) (fun x13 => ?_) (fun F hj4 => ?_)
  ·refine oView (T' := [(2, .ptr 0 0), (3, .ptr 1 0), (17, .d (.bool x13))]) (H' := [.box [.d (.bool w0), .d (.int .u64 w1), .d (.int .u64 w2)], .box [.d (.bool v0), .d (.int .u64 v1), .d (.int .u64 v2)]]) (h := ?_)
   refine oP (.d (.bool x13)) p_assign ?_
   refine oEnd ?_
   refine bJoin ((fun (x15 : Bool) => [(2, .ptr 0 0), (3, .ptr 1 0), (5, .d (.bool x15))])) ((fun (x15 : Bool) => [.box [.d (.bool w0), .d (.int .u64 w1), .d (.int .u64 w2)], .box [.d (.bool v0), .d (.int .u64 v1), .d (.int .u64 v2)]])) (fun s => s) (fun x15 => ?_) (fun hj5 => ?_)
   ·refine oView (T' := [(2, .ptr 0 0), (3, .ptr 1 0), (5, .d (.bool x15))]) (H' := [.box [.d (.bool w0), .d (.int .u64 w1), .d (.int .u64 w2)], .box [.d (.bool v0), .d (.int .u64 v1), .d (.int .u64 v2)]]) (h := ?_)
    refine bSplit 5 (h1 := fun hc => ?_) (h2 := fun hc => ?_)
    ·refine oCondT (h := ?_)
     refine oSR rfl ?_
     refine oP (.d (.int .i64 (-1))) p_assign ?_
     refine oEnd ?_
     exact oRet (r0 := (-1)) (rv := .d (.int .i64 (-1))) (B := []) (vs := [.d (.int .i64 (-1))]) (σ := []) (hf := Try.func75) (hrs := rfl) (hres := .cons _ _ _ _ (.tmp 4 _ (by kernel_rfl)) .nil) (hnd := by decide)
    ·refine oCondF (h := ?_)
     refine oSR rfl ?_
     refine oP (.ptr 0 1) (k_fieldAddr 0 0 (hu := Try.underlying80) (hf := rfl) (hi := ty61)) ?_
     refine oQ (.d (.int .u64 w1)) (k_load 0 1 (hu := Try.underlying61)) ?_
     refine oP (.ptr 1 1) (k_fieldAddr 1 0 (hu := Try.underlying80) (hf := rfl) (hi := ty61)) ?_
     refine oQ (.d (.int .u64 v1)) (k_load 1 1 (hu := Try.underlying61)) ?_
     refine oP (.d (.bool (w1 == v1))) (p_int (k := .u64) (p := w1) (q := v1)) ?_
     refine oP (.d (.bool (w1 == v1))) p_move ?_
     refine bMeetF (H' := []) 6 rfl ((fun (x17 : Bool) => [(42, .d (.bool x17))])) (fun x17 => ?_) (fun F hj6 => ?_)
     ·refine oView (T' := [(42, .d (.bool x17))]) (H' := []) (h := ?_)
      refine oP (.d (.bool x17)) p_assign ?_
      refine oEnd ?_
      refine bSplit 30 (h1 := fun hc => ?_) (h2 := fun hc => ?_)
      ·refine oCondT (h := ?_)
       refine oSR rfl ?_
       refine oP (.d (.int .i64 0)) p_assign ?_
       refine oEnd ?_
       exact oRet (r0 := 0) (rv := .d (.int .i64 0)) (B := []) (vs := [.d (.int .i64 0)]) (σ := []) (hf := Try.func75) (hrs := rfl) (hres := .cons _ _ _ _ (.tmp 4 _ (by kernel_rfl)) .nil) (hnd := by decide)
      ·refine oCondF (h := ?_)
       refine oSkip ?_
       refine oBlk ?_
       refine oSR rfl ?_
       refine oP (.d (.int .i64 1)) p_assign ?_
       refine oEnd ?_
       exact oRet (r0 := 1) (rv := .d (.int .i64 1)) (B := []) (vs := [.d (.int .i64 1)]) (σ := []) (hf := Try.func75) (hrs := rfl) (hres := .cons _ _ _ _ (.tmp 4 _ (by kernel_rfl)) .nil) (hnd := by decide)
     ·refine bPickF 36 (fun c => F (c && (w2 == v2))) (h1 := fun hc => ?_) (h2 := fun hc => ?_)
      ·refine oP (.ptr 0 2) (k_fieldAddr 0 0 (hu := Try.underlying80) (hf := rfl) (hi := ty61)) ?_
       refine oQ (.d (.int .u64 w2)) (k_load 0 2 (hu := Try.underlying61)) ?_
       refine oP (.ptr 1 2) (k_fieldAddr 1 0 (hu := Try.underlying80) (hf := rfl) (hi := ty61)) ?_
       refine oQ (.d (.int .u64 v2)) (k_load 1 2 (hu := Try.underlying61)) ?_
       refine oP (.d (.bool (w2 == v2))) (p_int (k := .u64) (p := w2) (q := v2)) ?_
       refine oP (.d (.bool (w2 == v2))) (p_pick (b := true)) ?_
       refine oHead [42] [] (T' := [(42, .d (.bool (w2 == v2)))]) (H' := []) (hnd := by decide) (h := ?_)
       exact hj6 (w2 == v2)
      ·refine oNot (h := ?_)
       refine oNot (h := ?_)
       refine oNot (h := ?_)
       refine oNot (h := ?_)
       refine oNot (h := ?_)
       refine oP (.d (.bool false)) (p_pick (b := false)) ?_
       refine oHead [42] [] (T' := [(42, .d (.bool false))]) (H' := []) (hnd := by decide) (h := ?_)
       exact hj6 false
   ·refine bSplit 5 (h1 := fun hc => ?_) (h2 := fun hc => ?_)
    ·refine oCondT (h := ?_)
     refine oSkip ?_
     refine oHead [2, 3, 5] [0, 1] (T' := [(2, .ptr 0 0), (3, .ptr 1 0), (5, .d (.bool true))]) (H' := [.box [.d (.bool w0), .d (.int .u64 w1), .d (.int .u64 w2)], .box [.d (.bool v0), .d (.int .u64 v1), .d (.int .u64 v2)]]) (hnd := by decide) (h := ?_)
     exact hj5 true
    ·refine oCondF (h := ?_)
     refine oRegion rfl ?_
     refine oP (.ptr 0 1) (k_fieldAddr 0 0 (hu := Try.underlying80) (hf := rfl) (hi := ty61)) ?_
     refine oQ (.d (.int .u64 w1)) (k_load 0 1 (hu := Try.underlying61)) ?_
     refine oP (.ptr 1 1) (k_fieldAddr 1 0 (hu := Try.underlying80) (hf := rfl) (hi := ty61)) ?_
     refine oQ (.d (.int .u64 v1)) (k_load 1 1 (hu := Try.underlying61)) ?_
     refine oP (.d (.bool (w1 == v1))) (p_int (k := .u64) (p := w1) (q := v1)) ?_
     refine oP (.d (.bool (w1 == v1))) p_move ?_
     refine bMeetF (H' := [.box [.d (.bool w0), .d (.int .u64 w1), .d (.int .u64 w2)], .box [.d (.bool v0), .d (.int .u64 v1), .d (.int .u64 v2)]]) 6 rfl ((fun (x18 : Bool) => [(2, .ptr 0 0), (3, .ptr 1 0), (29, .d (.bool x18))])) (fun x18 => ?_) (fun F hj7 => ?_)
     ·refine oView (T' := [(2, .ptr 0 0), (3, .ptr 1 0), (29, .d (.bool x18))]) (H' := [.box [.d (.bool w0), .d (.int .u64 w1), .d (.int .u64 w2)], .box [.d (.bool v0), .d (.int .u64 v1), .d (.int .u64 v2)]]) (h := ?_)
      refine oP (.d (.bool x18)) p_assign ?_
      refine oEnd ?_
      refine oHead [2, 3, 5] [0, 1] (T' := [(2, .ptr 0 0), (3, .ptr 1 0), (5, .d (.bool x18))]) (H' := [.box [.d (.bool w0), .d (.int .u64 w1), .d (.int .u64 w2)], .box [.d (.bool v0), .d (.int .u64 v1), .d (.int .u64 v2)]]) (hnd := by decide) (h := ?_)
      exact hj5 x18
     ·refine bPickF 23 (fun c => F (c && (decide (w2 < v2)))) (h1 := fun hc => ?_) (h2 := fun hc => ?_)
      ·refine oP (.ptr 0 2) (k_fieldAddr 0 0 (hu := Try.underlying80) (hf := rfl) (hi := ty61)) ?_
       refine oQ (.d (.int .u64 w2)) (k_load 0 2 (hu := Try.underlying61)) ?_
       refine oP (.ptr 1 2) (k_fieldAddr 1 0 (hu := Try.underlying80) (hf := rfl) (hi := ty61)) ?_
       refine oQ (.d (.int .u64 v2)) (k_load 1 2 (hu := Try.underlying61)) ?_
       refine oP (.d (.bool (decide (w2 < v2)))) (p_int (k := .u64) (p := w2) (q := v2)) ?_
       refine oP (.d (.bool (decide (w2 < v2)))) (p_pick (b := true)) ?_
       refine oHead [2, 3, 29] [0, 1] (T' := [(2, .ptr 0 0), (3, .ptr 1 0), (29, .d (.bool (decide (w2 < v2))))]) (H' := [.box [.d (.bool w0), .d (.int .u64 w1), .d (.int .u64 w2)], .box [.d (.bool v0), .d (.int .u64 v1), .d (.int .u64 v2)]]) (hnd := by decide) (h := ?_)
       exact hj7 (decide (w2 < v2))
      ·refine oNot (h := ?_)
       refine oNot (h := ?_)
       refine oNot (h := ?_)
       refine oNot (h := ?_)
       refine oNot (h := ?_)
       refine oP (.d (.bool false)) (p_pick (b := false)) ?_
       refine oHead [2, 3, 29] [0, 1] (T' := [(2, .ptr 0 0), (3, .ptr 1 0), (29, .d (.bool false))]) (H' := [.box [.d (.bool w0), .d (.int .u64 w1), .d (.int .u64 w2)], .box [.d (.bool v0), .d (.int .u64 v1), .d (.int .u64 v2)]]) (hnd := by decide) (h := ?_)
       exact hj7 false
  ·refine bPickF 11 (fun c => F (c && (decide (w1 < v1)))) (h1 := fun hc => ?_) (h2 := fun hc => ?_)
   ·refine oP (.ptr 0 1) (k_fieldAddr 0 0 (hu := Try.underlying80) (hf := rfl) (hi := ty61)) ?_
    refine oQ (.d (.int .u64 w1)) (k_load 0 1 (hu := Try.underlying61)) ?_
    refine oP (.ptr 1 1) (k_fieldAddr 1 0 (hu := Try.underlying80) (hf := rfl) (hi := ty61)) ?_
    refine oQ (.d (.int .u64 v1)) (k_load 1 1 (hu := Try.underlying61)) ?_
    refine oP (.d (.bool (decide (w1 < v1)))) (p_int (k := .u64) (p := w1) (q := v1)) ?_
    refine oP (.d (.bool (decide (w1 < v1)))) (p_pick (b := true)) ?_
    refine oHead [2, 3, 17] [0, 1] (T' := [(2, .ptr 0 0), (3, .ptr 1 0), (17, .d (.bool (decide (w1 < v1))))]) (H' := [.box [.d (.bool w0), .d (.int .u64 w1), .d (.int .u64 w2)], .box [.d (.bool v0), .d (.int .u64 v1), .d (.int .u64 v2)]]) (hnd := by decide) (h := ?_)
    exact hj4 (decide (w1 < v1))
   ·refine oNot (h := ?_)
    refine oNot (h := ?_)
    refine oNot (h := ?_)
    refine oNot (h := ?_)
    refine oNot (h := ?_)
    refine oP (.d (.bool false)) (p_pick (b := false)) ?_
    refine oHead [2, 3, 17] [0, 1] (T' := [(2, .ptr 0 0), (3, .ptr 1 0), (17, .d (.bool false))]) (H' := [.box [.d (.bool w0), .d (.int .u64 w1), .d (.int .u64 w2)], .box [.d (.bool v0), .d (.int .u64 v1), .d (.int .u64 v2)]]) (hnd := by decide) (h := ?_)
    exact hj4 false

/-- awardingbody/ratio.Compare -/
def ratio_Compare (k : Nat) (a0 : Int) (a1 : Int) (b0 : Int) (b1 : Int) : Option (Int) := Option.bind (ratio_Valid k a0 a1) (fun r124 => Option.bind (bif (!r124) then some true else Option.bind (ratio_Valid k b0 b1) (fun r126 => some (!r126)) : Option (Bool)) (fun x6 => bif x6 then some 0 else Option.bind (ratio_times k a0 (IntKind.wrap .u64 b1)) (uc fun r122 => fun r13 => Option.bind (ratio_times k b0 (IntKind.wrap .u64 a1)) (uc fun r123 => fun r131 => blet ((decide (a0 < 0)) && (!(decide (b0 < 0)))) fun x9 => bif x9 then some (-1) else blet ((decide (b0 < 0)) && (!(decide (a0 < 0)))) fun x11 => bif x11 then some 1 else bif (decide (a0 < 0)) then Option.bind (ratio_wide_compare k (decide (b0 < 0)) r123 r131 (decide (a0 < 0)) r122 r13) (fun r113 => some r113) else Option.bind (ratio_wide_compare k (decide (a0 < 0)) r122 r13 (decide (b0 < 0)) r123 r131) (fun r114 => some r114)))))
def ratio_Compare_E (a0 : Int) (a1 : Int) (b0 : Int) (b1 : Int) : Int → V × List Blk := fun r18 => (.d (.int .i64 r18), [])
theorem ratio_Compare_goes (k : Nat) (a0 : Int) (a1 : Int) (b0 : Int) (b1 : Int) : RunsO Try.prog 64 [.agg [.d (.int .i64 a0), .d (.int .i64 a1)], .agg [.d (.int .i64 b0), .d (.int .i64 b1)]] [] (ratio_Compare_E a0 a1 b0 b1) (ratio_Compare k a0 a1 b0 b1) := by
  refine RunsO.of_goes (N := 52) (m := 0) (T := [(0, .agg [.d (.int .i64 a0), .d (.int .i64 a1)]), (1, .agg [.d (.int .i64 b0), .d (.int .i64 b1)])]) Try.func64 rfl rfl (h := ?_)
  unfold ratio_Compare
  refine bStart ?_
  refine oSR rfl ?_
  refine oD (.ptr 0 0) (k_box (H' := [.box [.d (.int .i64 a0), .d (.int .i64 a1)]]) (cells := [.d (.int .i64 a0), .d (.int .i64 a1)])) ?_
  refine oD (.ptr 1 0) (k_box (H' := [.box [.d (.int .i64 a0), .d (.int .i64 a1)], .box [.d (.int .i64 b0), .d (.int .i64 b1)]]) (cells := [.d (.int .i64 b0), .d (.int .i64 b1)])) ?_
  refine oP (.d (.int .i64 0)) p_assign ?_
  refine oEnd ?_
  refine oSeq ?_
  refine oSR rfl ?_
  refine oQ (.agg [.d (.int .i64 a0), .d (.int .i64 a1)]) (k_loadAgg 0 0 (hu := Try.underlying31) (hi := ty31)) ?_
  refine bCall (caps := []) (v := (fun (r124 : Bool) => (.d (.bool r124) : V))) (H' := (fun (r124 : Bool) => ([.box [.d (.int .i64 a0), .d (.int .i64 a1)], .box [.d (.int .i64 b0), .d (.int .i64 b1)]] : List Blk))) [] _ (ratio_Valid_goes k a0 a1) (ho := rfl) (hfn := Try.func43) (hb := rfl) (hconv := ConvRs.refl _ _) (hnd := by decide) (hBl := fun _ => (by kernel_rfl)) (hv := fun _ => (by kernel_rfl)) (hH' := fun _ => (by kernel_rfl)) (h := fun r124 => ?_)
  refine oP (.d (.bool (!r124))) (p_not (p := r124)) ?_
  refine oP (.d (.bool (!r124))) p_move ?_
  refine bMeet 4 rfl ((fun (x6 : Bool) => [(2, .ptr 0 0), (3, .ptr 1 0), (14, .d (.bool x6))])) ((fun (x6 : Bool) => [.box [.d (.int .i64 a0), .d (.int .i64 a1)], .box [.d (.int .i64 b0), .d (.int .i64 b1)]])) (fun s => s) (fun x6 => ?_) (fun hj3 => ?_)
  ·refine oView (T' := [(2, .ptr 0 0), (3, .ptr 1 0), (14, .d (.bool x6))]) (H' := [.box [.d (.int .i64 a0), .d (.int .i64 a1)], .box [.d (.int .i64 b0), .d (.int .i64 b1)]]) (h := ?_)
   refine oEnd ?_
   refine bSplit 14 (h1 := fun hc => ?_) (h2 := fun hc => ?_)
   ·refine oCondT (h := ?_)
    refine oSR rfl ?_
    refine oP (.d (.int .i64 0)) p_assign ?_
    refine oEnd ?_
    exact oRet (r0 := 0) (rv := .d (.int .i64 0)) (B := []) (vs := [.d (.int .i64 0)]) (σ := []) (hf := Try.func64) (hrs := rfl) (hres := .cons _ _ _ _ (.tmp 4 _ (by kernel_rfl)) .nil) (hnd := by decide)
   ·refine oCondF (h := ?_)
    refine oSkip ?_
    refine oSeq ?_
    refine oDraw [(0, 16), (1, 16)] rfl ?_
    refine aP 0 (.ptr 0 0) rfl (k_fieldAddr 0 0 (hu := Try.underlying31) (hf := rfl) (hi := ty3)) ?_
    refine aQ 1 [0] (.d (.int .i64 a0)) rfl (k_load 0 0 (hu := Try.underlying3)) ?_
    refine aP 2 (.ptr 1 1) rfl (k_fieldAddr 1 0 (hu := Try.underlying31) (hf := rfl) (hi := ty3)) ?_
    refine aQ 3 [1] (.d (.int .i64 b1)) rfl (k_load 1 1 (hu := Try.underlying3)) ?_
    refine aP 4 (.d (.int .u64 (IntKind.wrap .u64 b1))) rfl (p_conv (k := .i64) (p := b1) (hu1 := Try.underlying3) (hu2 := Try.underlying61)) ?_
    refine aP 6 (.ptr 1 0) rfl (k_fieldAddr 1 0 (hu := Try.underlying31) (hf := rfl) (hi := ty3)) ?_
    refine aQ 7 [1] (.d (.int .i64 b0)) rfl (k_load 1 0 (hu := Try.underlying3)) ?_
    refine aP 8 (.ptr 0 1) rfl (k_fieldAddr 0 0 (hu := Try.underlying31) (hf := rfl) (hi := ty3)) ?_
    refine aQ 9 [0] (.d (.int .i64 a1)) rfl (k_load 0 1 (hu := Try.underlying3)) ?_
    refine aP 10 (.d (.int .u64 (IntKind.wrap .u64 a1))) rfl (p_conv (k := .i64) (p := a1) (hu1 := Try.underlying3) (hu2 := Try.underlying61)) ?_
    refine dCall (i := 5) (caps := []) (v := (uc fun (r122 : Int) => (fun (r13 : Int) => (.agg [.d (.bool (decide (a0 < 0))), .d (.int .u64 r122), .d (.int .u64 r13)] : V)))) (H' := (uc fun (r122 : Int) => (fun (r13 : Int) => ([.box [.d (.int .i64 a0), .d (.int .i64 a1)], .box [.d (.int .i64 b0), .d (.int .i64 b1)]] : List Blk)))) [] _ (ratio_times_goes k a0 (IntKind.wrap .u64 b1)) rfl (ho := rfl) (hfn := Try.func74) (hb := rfl) (hconv := ConvRs.refl _ _) (hnd := by decide) (hBl := fun _ => (by kernel_rfl)) (hv := fun _ => (by kernel_rfl)) (hH' := fun _ => (by kernel_rfl)) (h := fun r => ?_)
    obtain ⟨r122, r13⟩ := r
    refine dUc ?_
    refine dCall (i := 11) (caps := []) (v := (uc fun (r123 : Int) => (fun (r131 : Int) => (.agg [.d (.bool (decide (b0 < 0))), .d (.int .u64 r123), .d (.int .u64 r131)] : V)))) (H' := (uc fun (r123 : Int) => (fun (r131 : Int) => ([.box [.d (.int .i64 a0), .d (.int .i64 a1)], .box [.d (.int .i64 b0), .d (.int .i64 b1)]] : List Blk)))) [] _ (ratio_times_goes k b0 (IntKind.wrap .u64 a1)) rfl (ho := rfl) (hfn := Try.func74) (hb := rfl) (hconv := ConvRs.refl _ _) (hnd := by decide) (hBl := fun _ => (by kernel_rfl)) (hv := fun _ => (by kernel_rfl)) (hH' := fun _ => (by kernel_rfl)) (h := fun r => ?_)
    obtain ⟨r123, r131⟩ := r
    refine dUc ?_
    refine aAlloc (i := 12) (d := 5) rfl (hop := rfl) (hd := rfl) (hty := ty80) (cells := [.d (.bool false), .d (.int .u64 0), .d (.int .u64 0)]) (h := ?_)
    refine dView (H' := [.box [.d (.int .i64 a0), .d (.int .i64 a1)], .box [.d (.int .i64 b0), .d (.int .i64 b1)], .box [.d (.bool false), .d (.int .u64 0), .d (.int .u64 0)]]) rfl rfl (h := ?_)
    refine aAlloc (i := 13) (d := 6) rfl (hop := rfl) (hd := rfl) (hty := ty80) (cells := [.d (.bool false), .d (.int .u64 0), .d (.int .u64 0)]) (h := ?_)
    refine dView (H' := [.box [.d (.int .i64 a0), .d (.int .i64 a1)], .box [.d (.int .i64 b0), .d (.int .i64 b1)], .box [.d (.bool false), .d (.int .u64 0), .d (.int .u64 0)], .box [.d (.bool false), .d (.int .u64 0), .d (.int .u64 0)]]) rfl rfl (h := ?_)
    refine aOne (i := 14) (v := .undef) rfl (hac := Does.acts (k_store (vs := [.d (.bool (decide (a0 < 0))), .d (.int .u64 r122), .d (.int .u64 r13)]) (H' := [.box [.d (.int .i64 a0), .d (.int .i64 a1)], .box [.d (.int .i64 b0), .d (.int .i64 b1)], .box [.d (.bool (decide (a0 < 0))), .d (.int .u64 r122), .d (.int .u64 r13)], .box [.d (.bool false), .d (.int .u64 0), .d (.int .u64 0)]]) 2 0 (hi := ty80))) (h := ?_)
    refine aOne (i := 15) (v := .undef) rfl (hac := Does.acts (k_store (vs := [.d (.bool (decide (b0 < 0))), .d (.int .u64 r123), .d (.int .u64 r131)]) (H' := [.box [.d (.int .i64 a0), .d (.int .i64 a1)], .box [.d (.int .i64 b0), .d (.int .i64 b1)], .box [.d (.bool (decide (a0 < 0))), .d (.int .u64 r122), .d (.int .u64 r13)], .box [.d (.bool (decide (b0 < 0))), .d (.int .u64 r123), .d (.int .u64 r131)]]) 3 0 (hi := ty80))) (h := ?_)
    refine aDone (h := ?_)
    refine oSeq ?_
    refine oBlock ?_
    refine oSR rfl ?_
    refine oP (.ptr 2 0) (k_fieldAddr 2 0 (hu := Try.underlying80) (hf := rfl) (hi := ty4)) ?_
    refine oQ (.d (.bool (decide (a0 < 0)))) (k_load 2 0 (hu := Try.underlying4)) ?_
    refine oP (.d (.bool (decide (a0 < 0)))) p_move ?_
    refine bMeetF (H' := [.box [.d (.bool (decide (a0 < 0))), .d (.int .u64 r122), .d (.int .u64 r13)], .box [.d (.bool (decide (b0 < 0))), .d (.int .u64 r123), .d (.int .u64 r131)]]) 4 rfl ((fun (x9 : Bool) => [(5, .ptr 0 0), (6, .ptr 1 0), (34, .d (.bool x9))])) (fun x9 => ?_) (fun F hj1 => ?_)
    ·refine oView (T' := [(5, .ptr 0 0), (6, .ptr 1 0), (34, .d (.bool x9))]) (H' := [.box [.d (.bool (decide (a0 < 0))), .d (.int .u64 r122), .d (.int .u64 r13)], .box [.d (.bool (decide (b0 < 0))), .d (.int .u64 r123), .d (.int .u64 r131)]]) (h := ?_)
     refine oP (.d (.bool x9)) p_assign ?_
     refine oEnd ?_
     refine bSplit 27 (h1 := fun hc => ?_) (h2 := fun hc => ?_)
     ·refine oCondT (h := ?_)
      refine oSR rfl ?_
      refine oP (.d (.int .i64 (-1))) p_assign ?_
      refine oEnd ?_
      exact oRet (r0 := (-1)) (rv := .d (.int .i64 (-1))) (B := []) (vs := [.d (.int .i64 (-1))]) (σ := []) (hf := Try.func64) (hrs := rfl) (hres := .cons _ _ _ _ (.tmp 4 _ (by kernel_rfl)) .nil) (hnd := by decide)
     ·refine oCondF (h := ?_)
      refine oSR rfl ?_
      refine oP (.ptr 1 0) (k_fieldAddr 1 0 (hu := Try.underlying80) (hf := rfl) (hi := ty4)) ?_
      refine oQ (.d (.bool (decide (b0 < 0)))) (k_load 1 0 (hu := Try.underlying4)) ?_
      refine oP (.d (.bool (decide (b0 < 0)))) p_move ?_
      refine bMeetF (H' := [.box [.d (.bool (decide (a0 < 0))), .d (.int .u64 r122), .d (.int .u64 r13)], .box [.d (.bool (decide (b0 < 0))), .d (.int .u64 r123), .d (.int .u64 r131)]]) 4 rfl ((fun (x11 : Bool) => [(5, .ptr 0 0), (6, .ptr 1 0), (42, .d (.bool x11))])) (fun x11 => ?_) (fun F hj2 => ?_)
      ·refine oView (T' := [(5, .ptr 0 0), (6, .ptr 1 0), (42, .d (.bool x11))]) (H' := [.box [.d (.bool (decide (a0 < 0))), .d (.int .u64 r122), .d (.int .u64 r13)], .box [.d (.bool (decide (b0 < 0))), .d (.int .u64 r123), .d (.int .u64 r131)]]) (h := ?_)
       refine oP (.d (.bool x11)) p_assign ?_
       refine oEnd ?_
       refine bSplit 35 (h1 := fun hc => ?_) (h2 := fun hc => ?_)
       ·refine oCondT (h := ?_)
        refine oSR rfl ?_
        refine oP (.d (.int .i64 1)) p_assign ?_
        refine oEnd ?_
        exact oRet (r0 := 1) (rv := .d (.int .i64 1)) (B := []) (vs := [.d (.int .i64 1)]) (σ := []) (hf := Try.func64) (hrs := rfl) (hres := .cons _ _ _ _ (.tmp 4 _ (by kernel_rfl)) .nil) (hnd := by decide)
       ·refine oCondF (h := ?_)
        refine oSR rfl ?_
        refine oP (.ptr 0 0) (k_fieldAddr 0 0 (hu := Try.underlying80) (hf := rfl) (hi := ty4)) ?_
        refine oQ (.d (.bool (decide (a0 < 0)))) (k_load 0 0 (hu := Try.underlying4)) ?_
        refine oP (.d (.bool (decide (a0 < 0)))) p_assign ?_
        refine oEnd ?_
        refine bSplit 43 (h1 := fun hc => ?_) (h2 := fun hc => ?_)
        ·refine oCondT (h := ?_)
         refine oSR rfl ?_
         refine oQ (.agg [.d (.bool (decide (b0 < 0))), .d (.int .u64 r123), .d (.int .u64 r131)]) (k_loadAgg 1 0 (hu := Try.underlying80) (hi := ty80)) ?_
         refine oQ (.agg [.d (.bool (decide (a0 < 0))), .d (.int .u64 r122), .d (.int .u64 r13)]) (k_loadAgg 0 0 (hu := Try.underlying80) (hi := ty80)) ?_
         refine bCall (caps := []) (v := (fun (r113 : Int) => (.d (.int .i64 r113) : V))) (H' := (fun (r113 : Int) => ([.box [.d (.bool (decide (a0 < 0))), .d (.int .u64 r122), .d (.int .u64 r13)], .box [.d (.bool (decide (b0 < 0))), .d (.int .u64 r123), .d (.int .u64 r131)]] : List Blk))) [] _ (ratio_wide_compare_goes k (decide (b0 < 0)) r123 r131 (decide (a0 < 0)) r122 r13) (ho := rfl) (hfn := Try.func75) (hb := rfl) (hconv := ConvRs.refl _ _) (hnd := by decide) (hBl := fun _ => (by kernel_rfl)) (hv := fun _ => (by kernel_rfl)) (hH' := fun _ => (by kernel_rfl)) (h := fun r113 => ?_)
         refine oP (.d (.int .i64 r113)) p_assign ?_
         refine oEnd ?_
         exact oRet (r0 := r113) (rv := .d (.int .i64 r113)) (B := []) (vs := [.d (.int .i64 r113)]) (σ := []) (hf := Try.func64) (hrs := rfl) (hres := .cons _ _ _ _ (.tmp 4 _ (by kernel_rfl)) .nil) (hnd := by decide)
        ·refine oCondF (h := ?_)
         refine oSkip ?_
         refine oBlk ?_
         refine oSR rfl ?_
         refine oQ (.agg [.d (.bool (decide (a0 < 0))), .d (.int .u64 r122), .d (.int .u64 r13)]) (k_loadAgg 0 0 (hu := Try.underlying80) (hi := ty80)) ?_
         refine oQ (.agg [.d (.bool (decide (b0 < 0))), .d (.int .u64 r123), .d (.int .u64 r131)]) (k_loadAgg 1 0 (hu := Try.underlying80) (hi := ty80)) ?_
         refine bCall (caps := []) (v := (fun (r114 : Int) => (.d (.int .i64 r114) : V))) (H' := (fun (r114 : Int) => ([.box [.d (.bool (decide (a0 < 0))), .d (.int .u64 r122), .d (.int .u64 r13)], .box [.d (.bool (decide (b0 < 0))), .d (.int .u64 r123), .d (.int .u64 r131)]] : List Blk))) [] _ (ratio_wide_compare_goes k (decide (a0 < 0)) r122 r13 (decide (b0 < 0)) r123 r131) (ho := rfl) (hfn := Try.func75) (hb := rfl) (hconv := ConvRs.refl _ _) (hnd := by decide) (hBl := fun _ => (by kernel_rfl)) (hv := fun _ => (by kernel_rfl)) (hH' := fun _ => (by kernel_rfl)) (h := fun r114 => ?_)
         refine oP (.d (.int .i64 r114)) p_assign ?_
         refine oEnd ?_
         exact oRet (r0 := r114) (rv := .d (.int .i64 r114)) (B := []) (vs := [.d (.int .i64 r114)]) (σ := []) (hf := Try.func64) (hrs := rfl) (hres := .cons _ _ _ _ (.tmp 4 _ (by kernel_rfl)) .nil) (hnd := by decide)
      ·refine bPickF 38 (fun c => F (c && (!(decide (a0 < 0))))) (h1 := fun hc => ?_) (h2 := fun hc => ?_)
       ·refine oP (.ptr 0 0) (k_fieldAddr 0 0 (hu := Try.underlying80) (hf := rfl) (hi := ty4)) ?_
        refine oQ (.d (.bool (decide (a0 < 0)))) (k_load 0 0 (hu := Try.underlying4)) ?_
        refine oP (.d (.bool (!(decide (a0 < 0))))) (p_not (p := (decide (a0 < 0)))) ?_
        refine oP (.d (.bool (!(decide (a0 < 0))))) (p_pick (b := true)) ?_
        refine oHead [5, 6, 42] [0, 1] (T' := [(5, .ptr 0 0), (6, .ptr 1 0), (42, .d (.bool (!(decide (a0 < 0)))))]) (H' := [.box [.d (.bool (decide (a0 < 0))), .d (.int .u64 r122), .d (.int .u64 r13)], .box [.d (.bool (decide (b0 < 0))), .d (.int .u64 r123), .d (.int .u64 r131)]]) (hnd := by decide) (h := ?_)
        exact hj2 (!(decide (a0 < 0)))
       ·refine oNot (h := ?_)
        refine oNot (h := ?_)
        refine oNot (h := ?_)
        refine oP (.d (.bool false)) (p_pick (b := false)) ?_
        refine oHead [5, 6, 42] [0, 1] (T' := [(5, .ptr 0 0), (6, .ptr 1 0), (42, .d (.bool false))]) (H' := [.box [.d (.bool (decide (a0 < 0))), .d (.int .u64 r122), .d (.int .u64 r13)], .box [.d (.bool (decide (b0 < 0))), .d (.int .u64 r123), .d (.int .u64 r131)]]) (hnd := by decide) (h := ?_)
        exact hj2 false
    ·refine bPickF 30 (fun c => F (c && (!(decide (b0 < 0))))) (h1 := fun hc => ?_) (h2 := fun hc => ?_)
     ·refine oP (.ptr 3 0) (k_fieldAddr 3 0 (hu := Try.underlying80) (hf := rfl) (hi := ty4)) ?_
      refine oQ (.d (.bool (decide (b0 < 0)))) (k_load 3 0 (hu := Try.underlying4)) ?_
      refine oP (.d (.bool (!(decide (b0 < 0))))) (p_not (p := (decide (b0 < 0)))) ?_
      refine oP (.d (.bool (!(decide (b0 < 0))))) (p_pick (b := true)) ?_
      refine oHead [5, 6, 34] [2, 3] (T' := [(5, .ptr 0 0), (6, .ptr 1 0), (34, .d (.bool (!(decide (b0 < 0)))))]) (H' := [.box [.d (.bool (decide (a0 < 0))), .d (.int .u64 r122), .d (.int .u64 r13)], .box [.d (.bool (decide (b0 < 0))), .d (.int .u64 r123), .d (.int .u64 r131)]]) (hnd := by decide) (h := ?_)
      exact hj1 (!(decide (b0 < 0)))
     ·refine oNot (h := ?_)
      refine oNot (h := ?_)
      refine oNot (h := ?_)
      refine oP (.d (.bool false)) (p_pick (b := false)) ?_
      refine oHead [5, 6, 34] [2, 3] (T' := [(5, .ptr 0 0), (6, .ptr 1 0), (34, .d (.bool false))]) (H' := [.box [.d (.bool (decide (a0 < 0))), .d (.int .u64 r122), .d (.int .u64 r13)], .box [.d (.bool (decide (b0 < 0))), .d (.int .u64 r123), .d (.int .u64 r131)]]) (hnd := by decide) (h := ?_)
      exact hj1 false
  ·refine bSplit 10 (h1 := fun hc => ?_) (h2 := fun hc => ?_)
   ·refine oNot (h := ?_)
    refine oNot (h := ?_)
    refine oNot (h := ?_)
    refine oP (.d (.bool true)) (p_pick (b := true)) ?_
    refine oHead [2, 3, 14] [0, 1] (T' := [(2, .ptr 0 0), (3, .ptr 1 0), (14, .d (.bool true))]) (H' := [.box [.d (.int .i64 a0), .d (.int .i64 a1)], .box [.d (.int .i64 b0), .d (.int .i64 b1)]]) (hnd := by decide) (h := ?_)
    exact hj3 true
   ·refine oQ (.agg [.d (.int .i64 b0), .d (.int .i64 b1)]) (k_loadAgg 1 0 (hu := Try.underlying31) (hi := ty31)) ?_
    refine bCall (caps := []) (v := (fun (r126 : Bool) => (.d (.bool r126) : V))) (H' := (fun (r126 : Bool) => ([.box [.d (.int .i64 a0), .d (.int .i64 a1)], .box [.d (.int .i64 b0), .d (.int .i64 b1)]] : List Blk))) [] _ (ratio_Valid_goes k b0 b1) (ho := rfl) (hfn := Try.func43) (hb := rfl) (hconv := ConvRs.refl _ _) (hnd := by decide) (hBl := fun _ => (by kernel_rfl)) (hv := fun _ => (by kernel_rfl)) (hH' := fun _ => (by kernel_rfl)) (h := fun r126 => ?_)
    refine oP (.d (.bool (!r126))) (p_not (p := r126)) ?_
    refine oP (.d (.bool (!r126))) (p_pick (b := false)) ?_
    refine oHead [2, 3, 14] [0, 1] (T' := [(2, .ptr 0 0), (3, .ptr 1 0), (14, .d (.bool (!r126)))]) (H' := [.box [.d (.int .i64 a0), .d (.int .i64 a1)], .box [.d (.int .i64 b0), .d (.int .i64 b1)]]) (hnd := by decide) (h := ?_)
    exact hj3 (!r126)

/-- awardingbody/ratio.Less -/
def ratio_Less (k : Nat) (a0 : Int) (a1 : Int) (b0 : Int) (b1 : Int) : Option (Bool) := Option.bind (ratio_Compare k a0 a1 b0 b1) (fun r181 => some (r181 == (-1)))
def ratio_Less_E (a0 : Int) (a1 : Int) (b0 : Int) (b1 : Int) : Bool → V × List Blk := fun r1 => (.d (.bool r1), [])
theorem ratio_Less_goes (k : Nat) (a0 : Int) (a1 : Int) (b0 : Int) (b1 : Int) : RunsO Try.prog 46 [.agg [.d (.int .i64 a0), .d (.int .i64 a1)], .agg [.d (.int .i64 b0), .d (.int .i64 b1)]] [] (ratio_Less_E a0 a1 b0 b1) (ratio_Less k a0 a1 b0 b1) := by
  refine RunsO.of_goes (N := 9) (m := 0) (T := [(0, .agg [.d (.int .i64 a0), .d (.int .i64 a1)]), (1, .agg [.d (.int .i64 b0), .d (.int .i64 b1)])]) Try.func46 rfl rfl (h := ?_)
  unfold ratio_Less
  refine bStart ?_
  refine oSR rfl ?_
  refine oD (.ptr 0 0) (k_box (H' := [.box [.d (.int .i64 a0), .d (.int .i64 a1)]]) (cells := [.d (.int .i64 a0), .d (.int .i64 a1)])) ?_
  refine oD (.ptr 1 0) (k_box (H' := [.box [.d (.int .i64 a0), .d (.int .i64 a1)], .box [.d (.int .i64 b0), .d (.int .i64 b1)]]) (cells := [.d (.int .i64 b0), .d (.int .i64 b1)])) ?_
  refine oP (.d (.bool false)) p_assign ?_
  refine oEnd ?_
  refine oSR rfl ?_
  refine oQ (.agg [.d (.int .i64 a0), .d (.int .i64 a1)]) (k_loadAgg 0 0 (hu := Try.underlying31) (hi := ty31)) ?_
  refine oQ (.agg [.d (.int .i64 b0), .d (.int .i64 b1)]) (k_loadAgg 1 0 (hu := Try.underlying31) (hi := ty31)) ?_
  refine bCall (caps := []) (v := (fun (r181 : Int) => (.d (.int .i64 r181) : V))) (H' := (fun (r181 : Int) => ([.box [.d (.int .i64 a0), .d (.int .i64 a1)], .box [.d (.int .i64 b0), .d (.int .i64 b1)]] : List Blk))) [] _ (ratio_Compare_goes k a0 a1 b0 b1) (ho := rfl) (hfn := Try.func64) (hb := rfl) (hconv := ConvRs.refl _ _) (hnd := by decide) (hBl := fun _ => (by kernel_rfl)) (hv := fun _ => (by kernel_rfl)) (hH' := fun _ => (by kernel_rfl)) (h := fun r181 => ?_)
  refine oP (.d (.bool (r181 == (-1)))) (p_int (k := .i64) (p := r181) (q := (-1))) ?_
  refine oP (.d (.bool (r181 == (-1)))) p_assign ?_
  refine oEnd ?_
  exact oRet (r0 := (r181 == (-1))) (rv := .d (.bool (r181 == (-1)))) (B := []) (vs := [.d (.bool (r181 == (-1)))]) (σ := []) (hf := Try.func46) (hrs := rfl) (hres := .cons _ _ _ _ (.tmp 4 _ (by kernel_rfl)) .nil) (hnd := by decide)

/-- awardingbody/distribution.Quantile -/
def distribution_Quantile_b1 (k : Nat) (d0 : (List Int)) (share0 : Int) (share1 : Int) (r113 : Int) (again : Int × Int → Option ((Unit) ⊕ (Int × Int))) : Int × Int → Option ((Unit) ⊕ (Int × Int)) := uc fun low4 => fun x8 => bif (decide (x8 < ((List.length d0) : Int))) then gidx d0 x8 fun e113 => Option.bind (ratio_New k (IntKind.wrap .i64 (low4 + e113)) r113) (uc fun r1313 => uc fun r1613 => fun r1713 => Option.bind (ratio_Less k r1313 r1613 share0 share1) (fun r126 => bif (!r126) then some (Sum.inr (x8, 0)) else again ((IntKind.wrap .i64 (low4 + e113)), (IntKind.wrap .i64 (x8 + 1))))) else some (Sum.inl ())
def distribution_Quantile (k : Nat) (d0 : (List Int)) (share0 : Int) (share1 : Int) : Option (Int × Int) := Option.bind (distribution_Valid k d0) (fun r122 => Option.bind (bif (!r122) then some true else Option.bind (ratio_Valid k share0 share1) (fun r127 => some (!r127)) : Option (Bool)) (fun x4 => bif x4 then some (0, 1) else Option.bind (distribution_check k d0) (fun r112 => bif (r112 != 0) then some (0, r112) else blet ((decide (share0 < 0)) || (decide (share0 > share1))) fun x5 => bif x5 then some (0, 2) else Option.bind (distribution_Count k d0) (fun r113 => Option.bind (gloop (distribution_Quantile_b1 k d0 share0 share1 r113) k (0, 0) : Option ((Unit) ⊕ (Int × Int))) (Sum.elim (u0 (some ((IntKind.wrap .i64 (((List.length d0) : Int) - 1)), 0))) (fun r => some r))))))
def distribution_Quantile_E (d0 : (List Int)) (share0 : Int) (share1 : Int) : Int × Int → V × List Blk := uc fun r110 => fun r111 => (.tuple [.d (.int .i64 r110), .d (.int .i64 r111)], [])
theorem distribution_Quantile_goes (k : Nat) (d0 : (List Int)) (share0 : Int) (share1 : Int) : RunsO Try.prog 14 [.agg [.d (.lit (List.map e_i64 d0))], .agg [.d (.int .i64 share0), .d (.int .i64 share1)]] [] (distribution_Quantile_E d0 share0 share1) (distribution_Quantile k d0 share0 share1) := by
  refine RunsO.of_goes (N := 65) (m := 0) (T := [(0, .agg [.d (.lit (List.map e_i64 d0))]), (1, .agg [.d (.int .i64 share0), .d (.int .i64 share1)])]) Try.func14 rfl rfl (h := ?_)
  unfold distribution_Quantile
  refine bStart ?_
  refine oSR rfl ?_
  refine oD (.ptr 0 0) (k_box (H' := [.box [.d (.lit (List.map e_i64 d0))]]) (cells := [.d (.lit (List.map e_i64 d0))])) ?_
  refine oD (.ptr 1 0) (k_box (H' := [.box [.d (.lit (List.map e_i64 d0))], .box [.d (.int .i64 share0), .d (.int .i64 share1)]]) (cells := [.d (.int .i64 share0), .d (.int .i64 share1)])) ?_
  refine oP (.d (.int .i64 0)) p_assign ?_
  refine oP (.d (.int .i64 0)) p_assign ?_
  refine oEnd ?_
  refine oSeq ?_
  refine oSR rfl ?_
  refine oQ (.agg [.d (.lit (List.map e_i64 d0))]) (k_loadAgg 0 0 (hu := Try.underlying26) (hi := ty26)) ?_
  refine bCall (caps := []) (v := (fun (r122 : Bool) => (.d (.bool r122) : V))) (H' := (fun (r122 : Bool) => ([.box [.d (.lit (List.map e_i64 d0))], .box [.d (.int .i64 share0), .d (.int .i64 share1)]] : List Blk))) [] _ (distribution_Valid_goes k d0) (ho := rfl) (hfn := Try.func28) (hb := rfl) (hconv := ConvRs.refl _ _) (hnd := by decide) (hBl := fun _ => (by kernel_rfl)) (hv := fun _ => (by kernel_rfl)) (hH' := fun _ => (by kernel_rfl)) (h := fun r122 => ?_)
  refine oP (.d (.bool (!r122))) (p_not (p := r122)) ?_
  refine oP (.d (.bool (!r122))) p_move ?_
  refine bMeet 4 rfl ((fun (x4 : Bool) => [(2, .ptr 0 0), (3, .ptr 1 0), (20, .d (.bool x4))])) ((fun (x4 : Bool) => [.box [.d (.lit (List.map e_i64 d0))], .box [.d (.int .i64 share0), .d (.int .i64 share1)]])) (fun s => s) (fun x4 => ?_) (fun hj4 => ?_)
  ·refine oView (T' := [(2, .ptr 0 0), (3, .ptr 1 0), (20, .d (.bool x4))]) (H' := [.box [.d (.lit (List.map e_i64 d0))], .box [.d (.int .i64 share0), .d (.int .i64 share1)]]) (h := ?_)
   refine oEnd ?_
   refine bSplit 20 (h1 := fun hc => ?_) (h2 := fun hc => ?_)
   ·refine oCondT (h := ?_)
    refine oSR rfl ?_
    refine oP (.d (.int .i64 0)) p_assign ?_
    refine oP (.d (.int .i64 1)) p_assign ?_
    refine oEnd ?_
    exact oRet (r0 := (0, 1)) (rv := .tuple [.d (.int .i64 0), .d (.int .i64 1)]) (B := []) (vs := [.d (.int .i64 0), .d (.int .i64 1)]) (σ := []) (hf := Try.func14) (hrs := rfl) (hres := .cons _ _ _ _ (.tmp 4 _ (by kernel_rfl)) (.cons _ _ _ _ (.tmp 5 _ (by kernel_rfl)) .nil)) (hnd := by decide)
   ·refine oCondF (h := ?_)
    refine oSkip ?_
    refine oSeq ?_
    refine oSR rfl ?_
    refine oQ (.agg [.d (.lit (List.map e_i64 d0))]) (k_loadAgg 0 0 (hu := Try.underlying26) (hi := ty26)) ?_
    refine bCall (caps := []) (v := (fun (r112 : Int) => (.d (.int .i64 r112) : V))) (H' := (fun (r112 : Int) => ([.box [.d (.lit (List.map e_i64 d0))], .box [.d (.int .i64 share0), .d (.int .i64 share1)]] : List Blk))) [] _ (distribution_check_goes k d0) (ho := rfl) (hfn := Try.func44) (hb := rfl) (hconv := ConvRs.refl _ _) (hnd := by decide) (hBl := fun _ => (by kernel_rfl)) (hv := fun _ => (by kernel_rfl)) (hH' := fun _ => (by kernel_rfl)) (h := fun r112 => ?_)
    refine oP (.d (.int .i64 r112)) p_assign ?_
    refine oEnd ?_
    refine oSR rfl ?_
    refine oP (.d (.int .i64 r112)) p_move ?_
    refine oP (.d (.bool (r112 != 0))) (p_int (k := .i64) (p := r112) (q := 0)) ?_
    refine oEnd ?_
    refine bSplit 24 (h1 := fun hc => ?_) (h2 := fun hc => ?_)
    ·refine oCondT (h := ?_)
     refine oSR rfl ?_
     refine oP (.d (.int .i64 r112)) p_move ?_
     refine oP (.d (.int .i64 0)) p_assign ?_
     refine oP (.d (.int .i64 r112)) p_assign ?_
     refine oEnd ?_
     exact oRet (r0 := (0, r112)) (rv := .tuple [.d (.int .i64 0), .d (.int .i64 r112)]) (B := []) (vs := [.d (.int .i64 0), .d (.int .i64 r112)]) (σ := []) (hf := Try.func14) (hrs := rfl) (hres := .cons _ _ _ _ (.tmp 4 _ (by kernel_rfl)) (.cons _ _ _ _ (.tmp 5 _ (by kernel_rfl)) .nil)) (hnd := by decide)
    ·refine oCondF (h := ?_)
     refine oSkip ?_
     refine oSeq ?_
     refine oSR rfl ?_
     refine oP (.ptr 1 0) (k_fieldAddr 1 0 (hu := Try.underlying31) (hf := rfl) (hi := ty3)) ?_
     refine oQ (.d (.int .i64 share0)) (k_load 1 0 (hu := Try.underlying3)) ?_
     refine oP (.d (.bool (decide (share0 < 0)))) (p_int (k := .i64) (p := share0) (q := 0)) ?_
     refine oP (.d (.bool (decide (share0 < 0)))) p_move ?_
     refine bMeetF (H' := [.box [.d (.lit (List.map e_i64 d0))], .box [.d (.int .i64 share0), .d (.int .i64 share1)]]) 6 rfl ((fun (x5 : Bool) => [(2, .ptr 0 0), (3, .ptr 1 0), (35, .d (.bool x5))])) (fun x5 => ?_) (fun F hj2 => ?_)
     ·refine oView (T' := [(2, .ptr 0 0), (3, .ptr 1 0), (35, .d (.bool x5))]) (H' := [.box [.d (.lit (List.map e_i64 d0))], .box [.d (.int .i64 share0), .d (.int .i64 share1)]]) (h := ?_)
      refine oEnd ?_
      refine bSplit 35 (h1 := fun hc => ?_) (h2 := fun hc => ?_)
      ·refine oCondT (h := ?_)
       refine oSR rfl ?_
       refine oP (.d (.int .i64 0)) p_assign ?_
       refine oP (.d (.int .i64 2)) p_assign ?_
       refine oEnd ?_
       exact oRet (r0 := (0, 2)) (rv := .tuple [.d (.int .i64 0), .d (.int .i64 2)]) (B := []) (vs := [.d (.int .i64 0), .d (.int .i64 2)]) (σ := []) (hf := Try.func14) (hrs := rfl) (hres := .cons _ _ _ _ (.tmp 4 _ (by kernel_rfl)) (.cons _ _ _ _ (.tmp 5 _ (by kernel_rfl)) .nil)) (hnd := by decide)
      ·refine oCondF (h := ?_)
       refine oSkip ?_
       refine oSR rfl ?_
       refine oQ (.agg [.d (.lit (List.map e_i64 d0))]) (k_loadAgg 0 0 (hu := Try.underlying26) (hi := ty26)) ?_
       refine bCall (caps := []) (v := (fun (r113 : Int) => (.d (.int .i64 r113) : V))) (H' := (fun (r113 : Int) => ([.box [.d (.lit (List.map e_i64 d0))], .box [.d (.int .i64 share0), .d (.int .i64 share1)]] : List Blk))) [] _ (distribution_Count_goes k d0) (ho := rfl) (hfn := Try.func15) (hb := rfl) (hconv := ConvRs.refl _ _) (hnd := by decide) (hBl := fun _ => (by kernel_rfl)) (hv := fun _ => (by kernel_rfl)) (hH' := fun _ => (by kernel_rfl)) (h := fun r113 => ?_)
       refine oP (.d (.int .i64 0)) p_assign ?_
       refine oP (.d (.int .i64 r113)) p_assign ?_
       refine oEnd ?_
       refine oSeq ?_
       refine oSR rfl ?_
       refine oP (.ptr 0 0) (k_fieldAddr 0 0 (hu := Try.underlying26) (hf := rfl) (hi := ty22)) ?_
       refine oQ (.d (.lit (List.map e_i64 d0))) (k_load 0 0 (hu := Try.underlying22)) ?_
       refine oP (.d (.int .i64 ((List.length d0) : Int))) (k_lenLit (enc := e_i64) d0 (hu := Try.underlying22)) ?_
       refine oP (.d (.int .i64 0)) p_move ?_
       refine oEnd ?_
       refine bJoin ((u0 ([(2, .ptr 0 0)]))) ((u0 ([.box [.d (.lit (List.map e_i64 d0))]]))) Sum.inl (fun s => ?_) (fun hj3 => ?_)
       ·cases s
        refine bInl ?_
        refine bU0 ?_
        refine oView (T' := [(2, .ptr 0 0)]) (H' := [.box [.d (.lit (List.map e_i64 d0))]]) (h := ?_)
        refine oSR rfl ?_
        refine oP (.ptr 0 0) (k_fieldAddr 0 0 (hu := Try.underlying26) (hf := rfl) (hi := ty22)) ?_
        refine oQ (.d (.lit (List.map e_i64 d0))) (k_load 0 0 (hu := Try.underlying22)) ?_
        refine oP (.d (.int .i64 ((List.length d0) : Int))) (k_lenLit (enc := e_i64) d0 (hu := Try.underlying22)) ?_
        refine oP (.d (.int .i64 (IntKind.wrap .i64 (((List.length d0) : Int) - 1)))) (p_int (k := .i64) (p := ((List.length d0) : Int)) (q := 1)) ?_
        refine oP (.d (.int .i64 (IntKind.wrap .i64 (((List.length d0) : Int) - 1)))) p_assign ?_
        refine oP (.d (.int .i64 0)) p_assign ?_
        refine oEnd ?_
        exact oRet (r0 := ((IntKind.wrap .i64 (((List.length d0) : Int) - 1)), 0)) (rv := .tuple [.d (.int .i64 (IntKind.wrap .i64 (((List.length d0) : Int) - 1))), .d (.int .i64 0)]) (B := []) (vs := [.d (.int .i64 (IntKind.wrap .i64 (((List.length d0) : Int) - 1))), .d (.int .i64 0)]) (σ := []) (hf := Try.func14) (hrs := rfl) (hres := .cons _ _ _ _ (.tmp 4 _ (by kernel_rfl)) (.cons _ _ _ _ (.tmp 5 _ (by kernel_rfl)) .nil)) (hnd := by decide)
       ·refine oBlock ?_
        refine oLoop ?_
        refine oHead [2, 3, 7, 8, 39, 40, 41] [0, 1] (T' := [(2, .ptr 0 0), (3, .ptr 1 0), (7, .d (.int .i64 0)), (8, .d (.int .i64 r113)), (39, .d (.lit (List.map e_i64 d0))), (40, .d (.int .i64 ((List.length d0) : Int))), (41, .d (.int .i64 0))]) (H' := [.box [.d (.lit (List.map e_i64 d0))], .box [.d (.int .i64 share0), .d (.int .i64 share1)]]) (hnd := by decide) (h := ?_)
        refine bLoop (body := distribution_Quantile_b1 k d0 share0 share1 r113) ((uc fun (low4 : Int) => (fun (x8 : Int) => [(2, .ptr 0 0), (3, .ptr 1 0), (7, .d (.int .i64 low4)), (8, .d (.int .i64 r113)), (39, .d (.lit (List.map e_i64 d0))), (40, .d (.int .i64 ((List.length d0) : Int))), (41, .d (.int .i64 x8))]))) ((uc fun (low4 : Int) => (fun (x8 : Int) => [.box [.d (.lit (List.map e_i64 d0))], .box [.d (.int .i64 share0), .d (.int .i64 share1)]]))) (fun again hag1 s => ?_) k (0, 0)
        ·unfold distribution_Quantile_b1
         obtain ⟨low4, x8⟩ := s
         refine bUc ?_
         refine oView (T' := [(2, .ptr 0 0), (3, .ptr 1 0), (7, .d (.int .i64 low4)), (8, .d (.int .i64 r113)), (39, .d (.lit (List.map e_i64 d0))), (40, .d (.int .i64 ((List.length d0) : Int))), (41, .d (.int .i64 x8))]) (H' := [.box [.d (.lit (List.map e_i64 d0))], .box [.d (.int .i64 share0), .d (.int .i64 share1)]]) (h := ?_)
         refine oSR rfl ?_
         refine oP (.d (.bool (decide (x8 < ((List.length d0) : Int))))) (p_int (k := .i64) (p := x8) (q := ((List.length d0) : Int))) ?_
         refine oEnd ?_
         refine oSeq ?_
         refine bSplit 42 (h1 := fun hc => ?_) (h2 := fun hc => ?_)
         ·refine oCondT (h := ?_)
          refine oSkip ?_
          refine oSeq ?_
          refine oBlock ?_
          refine oSR rfl ?_
          refine oP (.d (.int .i64 x8)) p_move ?_
          refine bIdx (fun e113 h126 h127 => ?_)
          refine oP (.lptr (e_i64 e113) 0) (k_idxLit e_i64_len d0 (a := e113) (k := .i64) (i := x8) (hu := Try.underlying22) (hi := ty3) (h0 := h126) (he := h127)) ?_
          refine oQ (.d (.int .i64 e113)) (k_loadL (cells := e_i64 e113) 0 (hu := Try.underlying3)) ?_
          refine oP (.d (.int .i64 x8)) p_assign ?_
          refine oP (.d (.int .i64 e113)) p_assign ?_
          refine oEnd ?_
          refine oSR rfl ?_
          refine oP (.d (.int .i64 low4)) p_move ?_
          refine oP (.d (.int .i64 e113)) p_move ?_
          refine oP (.d (.int .i64 (IntKind.wrap .i64 (low4 + e113)))) (p_int (k := .i64) (p := low4) (q := e113)) ?_
          refine oP (.d (.int .i64 (IntKind.wrap .i64 (low4 + e113)))) p_assign ?_
          refine oEnd ?_
          refine oSR rfl ?_
          refine oP (.d (.int .i64 (IntKind.wrap .i64 (low4 + e113)))) p_move ?_
          refine oP (.d (.int .i64 r113)) p_move ?_
          refine bCall (caps := []) (v := (uc fun (r1313 : Int) => (uc fun (r1613 : Int) => (fun (r1713 : Int) => (.tuple [.agg [.d (.int .i64 r1313), .d (.int .i64 r1613)], .d (.int .i64 r1713)] : V))))) (H' := (uc fun (r1313 : Int) => (uc fun (r1613 : Int) => (fun (r1713 : Int) => ([.box [.d (.lit (List.map e_i64 d0))], .box [.d (.int .i64 share0), .d (.int .i64 share1)]] : List Blk))))) [] _ (ratio_New_goes k (IntKind.wrap .i64 (low4 + e113)) r113) (ho := rfl) (hfn := Try.func45) (hb := rfl) (hconv := ConvRs.refl _ _) (hnd := by decide) (hBl := fun _ => (by kernel_rfl)) (hv := fun _ => (by kernel_rfl)) (hH' := fun _ => (by kernel_rfl)) (h := fun r => ?_)
          obtain ⟨r1313, r1613, r1713⟩ := r
          refine bUc ?_
          refine bUc ?_
          refine oP (.tuple [.agg [.d (.int .i64 r1313), .d (.int .i64 r1613)], .d (.int .i64 r1713)]) p_move ?_
          refine oP (.agg [.d (.int .i64 r1313), .d (.int .i64 r1613)]) k_extract ?_
          refine oP (.d (.int .i64 r1713)) k_extract ?_
          refine oD (.ptr 2 0) (k_alloc (H' := [.box [.d (.lit (List.map e_i64 d0))], .box [.d (.int .i64 share0), .d (.int .i64 share1)], .box [.d (.int .i64 0), .d (.int .i64 0)]]) ty31) ?_
          refine oD (.undef) (k_store (vs := [.d (.int .i64 r1313), .d (.int .i64 r1613)]) (H' := [.box [.d (.lit (List.map e_i64 d0))], .box [.d (.int .i64 share0), .d (.int .i64 share1)], .box [.d (.int .i64 r1313), .d (.int .i64 r1613)]]) 2 0 (hi := ty31)) ?_
          refine oP (.d (.int .i64 r1713)) p_assign ?_
          refine oEnd ?_
          refine oSR rfl ?_
          refine oQ (.agg [.d (.int .i64 r1313), .d (.int .i64 r1613)]) (k_loadAgg 2 0 (hu := Try.underlying31) (hi := ty31)) ?_
          refine oQ (.agg [.d (.int .i64 share0), .d (.int .i64 share1)]) (k_loadAgg 1 0 (hu := Try.underlying31) (hi := ty31)) ?_
          refine bCall (caps := []) (v := (fun (r126 : Bool) => (.d (.bool r126) : V))) (H' := (fun (r126 : Bool) => ([.box [.d (.lit (List.map e_i64 d0))], .box [.d (.int .i64 share0), .d (.int .i64 share1)], .box [.d (.int .i64 r1313), .d (.int .i64 r1613)]] : List Blk))) [] _ (ratio_Less_goes k r1313 r1613 share0 share1) (ho := rfl) (hfn := Try.func46) (hb := rfl) (hconv := ConvRs.refl _ _) (hnd := by decide) (hBl := fun _ => (by kernel_rfl)) (hv := fun _ => (by kernel_rfl)) (hH' := fun _ => (by kernel_rfl)) (h := fun r126 => ?_)
          refine oP (.d (.bool (!r126))) (p_not (p := r126)) ?_
          refine oEnd ?_
          refine bSplit 58 (h1 := fun hc => ?_) (h2 := fun hc => ?_)
          ·refine oCondT (h := ?_)
           refine oSR rfl ?_
           refine oP (.d (.int .i64 x8)) p_move ?_
           refine oP (.d (.int .i64 x8)) p_assign ?_
           refine oP (.d (.int .i64 0)) p_assign ?_
           refine oEnd ?_
           exact oRet (r0 := (x8, 0)) (rv := .tuple [.d (.int .i64 x8), .d (.int .i64 0)]) (B := []) (vs := [.d (.int .i64 x8), .d (.int .i64 0)]) (σ := []) (hf := Try.func14) (hrs := rfl) (hres := .cons _ _ _ _ (.tmp 4 _ (by kernel_rfl)) (.cons _ _ _ _ (.tmp 5 _ (by kernel_rfl)) .nil)) (hnd := by decide)
          ·refine oCondF (h := ?_)
           refine oSkip ?_
           refine oBlk ?_
           refine oRegion rfl ?_
           refine oP (.d (.int .i64 (IntKind.wrap .i64 (x8 + 1)))) (p_int (k := .i64) (p := x8) (q := 1)) ?_
           refine oP (.d (.int .i64 (IntKind.wrap .i64 (x8 + 1)))) p_move ?_
           refine oEnd ?_
           refine oAgain ?_
           refine oHead [2, 3, 7, 8, 39, 40, 41] [0, 1] (T' := [(2, .ptr 0 0), (3, .ptr 1 0), (7, .d (.int .i64 (IntKind.wrap .i64 (low4 + e113)))), (8, .d (.int .i64 r113)), (39, .d (.lit (List.map e_i64 d0))), (40, .d (.int .i64 ((List.length d0) : Int))), (41, .d (.int .i64 (IntKind.wrap .i64 (x8 + 1))))]) (H' := [.box [.d (.lit (List.map e_i64 d0))], .box [.d (.int .i64 share0), .d (.int .i64 share1)]]) (hnd := by decide) (h := ?_)
           exact hag1 ((IntKind.wrap .i64 (low4 + e113)), (IntKind.wrap .i64 (x8 + 1)))
         ·refine oCondF (h := ?_)
          refine oExit rfl ?_
          refine oHead [2] [0] (T' := [(2, .ptr 0 0)]) (H' := [.box [.d (.lit (List.map e_i64 d0))]]) (hnd := by decide) (h := ?_)
          exact hj3 ()
     ·refine bPickF 29 (fun c => F (c || (decide (share0 > share1)))) (h1 := fun hc => ?_) (h2 := fun hc => ?_)
      ·refine oNot (h := ?_)
       refine oNot (h := ?_)
       refine oNot (h := ?_)
       refine oNot (h := ?_)
       refine oNot (h := ?_)
       refine oP (.d (.bool true)) (p_pick (b := true)) ?_
       refine oHead [2, 3, 35] [0, 1] (T' := [(2, .ptr 0 0), (3, .ptr 1 0), (35, .d (.bool true))]) (H' := [.box [.d (.lit (List.map e_i64 d0))], .box [.d (.int .i64 share0), .d (.int .i64 share1)]]) (hnd := by decide) (h := ?_)
       exact hj2 true
      ·refine oP (.ptr 1 0) (k_fieldAddr 1 0 (hu := Try.underlying31) (hf := rfl) (hi := ty3)) ?_
       refine oQ (.d (.int .i64 share0)) (k_load 1 0 (hu := Try.underlying3)) ?_
       refine oP (.ptr 1 1) (k_fieldAddr 1 0 (hu := Try.underlying31) (hf := rfl) (hi := ty3)) ?_
       refine oQ (.d (.int .i64 share1)) (k_load 1 1 (hu := Try.underlying3)) ?_
       refine oP (.d (.bool (decide (share0 > share1)))) (p_int (k := .i64) (p := share0) (q := share1)) ?_
       refine oP (.d (.bool (decide (share0 > share1)))) (p_pick (b := false)) ?_
       refine oHead [2, 3, 35] [0, 1] (T' := [(2, .ptr 0 0), (3, .ptr 1 0), (35, .d (.bool (decide (share0 > share1))))]) (H' := [.box [.d (.lit (List.map e_i64 d0))], .box [.d (.int .i64 share0), .d (.int .i64 share1)]]) (hnd := by decide) (h := ?_)
       exact hj2 (decide (share0 > share1))
  ·refine bSplit 16 (h1 := fun hc => ?_) (h2 := fun hc => ?_)
   ·refine oNot (h := ?_)
    refine oNot (h := ?_)
    refine oNot (h := ?_)
    refine oP (.d (.bool true)) (p_pick (b := true)) ?_
    refine oHead [2, 3, 20] [0, 1] (T' := [(2, .ptr 0 0), (3, .ptr 1 0), (20, .d (.bool true))]) (H' := [.box [.d (.lit (List.map e_i64 d0))], .box [.d (.int .i64 share0), .d (.int .i64 share1)]]) (hnd := by decide) (h := ?_)
    exact hj4 true
   ·refine oQ (.agg [.d (.int .i64 share0), .d (.int .i64 share1)]) (k_loadAgg 1 0 (hu := Try.underlying31) (hi := ty31)) ?_
    refine bCall (caps := []) (v := (fun (r127 : Bool) => (.d (.bool r127) : V))) (H' := (fun (r127 : Bool) => ([.box [.d (.lit (List.map e_i64 d0))], .box [.d (.int .i64 share0), .d (.int .i64 share1)]] : List Blk))) [] _ (ratio_Valid_goes k share0 share1) (ho := rfl) (hfn := Try.func43) (hb := rfl) (hconv := ConvRs.refl _ _) (hnd := by decide) (hBl := fun _ => (by kernel_rfl)) (hv := fun _ => (by kernel_rfl)) (hH' := fun _ => (by kernel_rfl)) (h := fun r127 => ?_)
    refine oP (.d (.bool (!r127))) (p_not (p := r127)) ?_
    refine oP (.d (.bool (!r127))) (p_pick (b := false)) ?_
    refine oHead [2, 3, 20] [0, 1] (T' := [(2, .ptr 0 0), (3, .ptr 1 0), (20, .d (.bool (!r127)))]) (H' := [.box [.d (.lit (List.map e_i64 d0))], .box [.d (.int .i64 share0), .d (.int .i64 share1)]]) (hnd := by decide) (h := ?_)
    exact hj4 (!r127)

/-- awardingbody/awardingbodylaw32.sane -/
def law32_sane (k : Nat) : Option (Bool) := Option.bind (distribution_Mean k ([1, 2, 1] : List Int)) (uc fun r122 => uc fun r143 => fun r153 => Option.bind (distribution_Deviation k ([1, 2, 1] : List Int)) (uc fun r144 => uc fun r154 => fun r181 => Option.bind (distribution_Rank k ([1, 2, 1] : List Int) 1) (uc fun r123 => uc fun r145 => fun r155 => Option.bind (distribution_Quantile k ([1, 2, 1] : List Int) 1 4) (uc fun r1102 => fun r1112 => Option.bind (distribution_Quantile k ([1, 2, 1] : List Int) 1 2) (uc fun r1103 => fun r1113 => blet ((r153 == 0) && (r181 == 0)) fun x9 => blet (x9 && (r155 == 0)) fun x10 => blet (x10 && (r1112 == 0)) fun x11 => blet (x11 && (r1113 == 0)) fun x12 => blet (x12 && ((r122 == 1) && ((r143 == 1) && true))) fun x13 => blet (x13 && ((r144 == 1) && ((r154 == 2) && true))) fun x14 => blet (x14 && ((r123 == 1) && ((r145 == 2) && true))) fun x15 => blet (x15 && (r1102 == 0)) fun x16 => blet (x16 && (r1103 == 1)) fun x17 => some x17)))))
def law32_sane_E : Bool → V × List Blk := fun r1 => (.d (.bool r1), [])
theorem law32_sane_goes (k : Nat) : RunsO Try.prog 10 [] [] (law32_sane_E) (law32_sane k) := by
  refine RunsO.of_goes (N := 84) (m := 0) (T := []) Try.func10 rfl rfl (h := ?_)
  unfold law32_sane
  refine bStart ?_
  refine oSR rfl ?_
  refine oP (.d (.bool false)) p_assign ?_
  refine oEnd ?_
  refine oSR rfl ?_
  refine oD (.ref 0 (List.length ([1, 2, 1] : List Int)) 0 (List.length ([1, 2, 1] : List Int))) (k_buildSlice (H' := [.sl 1 (List.map e_i64 ([1, 2, 1] : List Int)) false]) (List.map e_i64 ([1, 2, 1] : List Int)) Try.underlying22 ty3) ?_
  refine oP (.agg [.ref 0 (List.length ([1, 2, 1] : List Int)) 0 (List.length ([1, 2, 1] : List Int))]) (p_build bld26) ?_
  refine oD (.ptr 1 0) (k_alloc (H' := [.sl 1 (List.map e_i64 ([1, 2, 1] : List Int)) false, .box [.nilc]]) ty26) ?_
  refine oD (.undef) (k_store (vs := [.ref 0 (List.length ([1, 2, 1] : List Int)) 0 (List.length ([1, 2, 1] : List Int))]) (H' := [.sl 1 (List.map e_i64 ([1, 2, 1] : List Int)) false, .box [.ref 0 (List.length ([1, 2, 1] : List Int)) 0 (List.length ([1, 2, 1] : List Int))]]) 1 0 (hi := ty26)) ?_
  refine oEnd ?_
  refine oSR rfl ?_
  refine oQ (.agg [.ref 0 (List.length ([1, 2, 1] : List Int)) 0 (List.length ([1, 2, 1] : List Int))]) (k_loadAgg 1 0 (hu := Try.underlying26) (hi := ty26)) ?_
  refine oFreeze 0 (esz := 1) (xs := List.map e_i64 ([1, 2, 1] : List Int)) (h := ?_)
  refine oView (H' := [.sl 1 (List.map e_i64 ([1, 2, 1] : List Int)) true, .box [.ref 0 (List.length ([1, 2, 1] : List Int)) 0 (List.length ([1, 2, 1] : List Int))]]) rfl (h := ?_)
  refine bCall (caps := []) (v := (uc fun (r122 : Int) => (uc fun (r143 : Int) => (fun (r153 : Int) => (.tuple [.agg [.d (.int .i64 r122), .d (.int .i64 r143)], .d (.int .i64 r153)] : V))))) (H' := (uc fun (r122 : Int) => (uc fun (r143 : Int) => (fun (r153 : Int) => ([.sl 1 (List.map e_i64 ([1, 2, 1] : List Int)) true, .box [.ref 0 (List.length ([1, 2, 1] : List Int)) 0 (List.length ([1, 2, 1] : List Int))]] : List Blk))))) [] _ (distribution_Mean_goes k ([1, 2, 1] : List Int)) (ho := rfl) (hfn := Try.func19) (hb := rfl) (hconv := (convList (vs0 := [.agg [.ref 0 (List.length ([1, 2, 1] : List Int)) 0 (List.length ([1, 2, 1] : List Int))]]) (vs := [.agg [.d (.lit (List.map e_i64 ([1, 2, 1] : List Int)))]]) (p := (.cons _ _ _ _ (.agg _ _ (.cons _ _ _ _ (k_lit (enc := e_i64) (sz := 1) 0 ([1, 2, 1] : List Int)) .nil)) .nil)))) (hnd := by decide) (hBl := fun _ => (by kernel_rfl)) (hv := fun _ => (by kernel_rfl)) (hH' := fun _ => (by kernel_rfl)) (h := fun r => ?_)
  obtain ⟨r122, r143, r153⟩ := r
  refine bUc ?_
  refine bUc ?_
  refine oP (.tuple [.agg [.d (.int .i64 r122), .d (.int .i64 r143)], .d (.int .i64 r153)]) p_move ?_
  refine oP (.agg [.d (.int .i64 r122), .d (.int .i64 r143)]) k_extract ?_
  refine oP (.d (.int .i64 r153)) k_extract ?_
  refine oD (.ptr 2 0) (k_alloc (H' := [.sl 1 (List.map e_i64 ([1, 2, 1] : List Int)) true, .box [.ref 0 (List.length ([1, 2, 1] : List Int)) 0 (List.length ([1, 2, 1] : List Int))], .box [.d (.int .i64 0), .d (.int .i64 0)]]) ty31) ?_
  refine oD (.undef) (k_store (vs := [.d (.int .i64 r122), .d (.int .i64 r143)]) (H' := [.sl 1 (List.map e_i64 ([1, 2, 1] : List Int)) true, .box [.ref 0 (List.length ([1, 2, 1] : List Int)) 0 (List.length ([1, 2, 1] : List Int))], .box [.d (.int .i64 r122), .d (.int .i64 r143)]]) 2 0 (hi := ty31)) ?_
  refine oP (.d (.int .i64 r153)) p_assign ?_
  refine oEnd ?_
  refine oSR rfl ?_
  refine oQ (.agg [.ref 0 (List.length ([1, 2, 1] : List Int)) 0 (List.length ([1, 2, 1] : List Int))]) (k_loadAgg 1 0 (hu := Try.underlying26) (hi := ty26)) ?_
  refine bCall (caps := []) (v := (uc fun (r144 : Int) => (uc fun (r154 : Int) => (fun (r181 : Int) => (.tuple [.agg [.d (.int .i64 r144), .d (.int .i64 r154)], .d (.int .i64 r181)] : V))))) (H' := (uc fun (r144 : Int) => (uc fun (r154 : Int) => (fun (r181 : Int) => ([.sl 1 (List.map e_i64 ([1, 2, 1] : List Int)) true, .box [.ref 0 (List.length ([1, 2, 1] : List Int)) 0 (List.length ([1, 2, 1] : List Int))], .box [.d (.int .i64 r122), .d (.int .i64 r143)]] : List Blk))))) [] _ (distribution_Deviation_goes k ([1, 2, 1] : List Int)) (ho := rfl) (hfn := Try.func34) (hb := rfl) (hconv := (convList (vs0 := [.agg [.ref 0 (List.length ([1, 2, 1] : List Int)) 0 (List.length ([1, 2, 1] : List Int))]]) (vs := [.agg [.d (.lit (List.map e_i64 ([1, 2, 1] : List Int)))]]) (p := (.cons _ _ _ _ (.agg _ _ (.cons _ _ _ _ (k_lit (enc := e_i64) (sz := 1) 0 ([1, 2, 1] : List Int)) .nil)) .nil)))) (hnd := by decide) (hBl := fun _ => (by kernel_rfl)) (hv := fun _ => (by kernel_rfl)) (hH' := fun _ => (by kernel_rfl)) (h := fun r => ?_)
  obtain ⟨r144, r154, r181⟩ := r
  refine bUc ?_
  refine bUc ?_
  refine oP (.tuple [.agg [.d (.int .i64 r144), .d (.int .i64 r154)], .d (.int .i64 r181)]) p_move ?_
  refine oP (.agg [.d (.int .i64 r144), .d (.int .i64 r154)]) k_extract ?_
  refine oP (.d (.int .i64 r181)) k_extract ?_
  refine oD (.ptr 3 0) (k_alloc (H' := [.sl 1 (List.map e_i64 ([1, 2, 1] : List Int)) true, .box [.ref 0 (List.length ([1, 2, 1] : List Int)) 0 (List.length ([1, 2, 1] : List Int))], .box [.d (.int .i64 r122), .d (.int .i64 r143)], .box [.d (.int .i64 0), .d (.int .i64 0)]]) ty31) ?_
  refine oD (.undef) (k_store (vs := [.d (.int .i64 r144), .d (.int .i64 r154)]) (H' := [.sl 1 (List.map e_i64 ([1, 2, 1] : List Int)) true, .box [.ref 0 (List.length ([1, 2, 1] : List Int)) 0 (List.length ([1, 2, 1] : List Int))], .box [.d (.int .i64 r122), .d (.int .i64 r143)], .box [.d (.int .i64 r144), .d (.int .i64 r154)]]) 3 0 (hi := ty31)) ?_
  refine oP (.d (.int .i64 r181)) p_assign ?_
  refine oEnd ?_
  refine oSR rfl ?_
  refine oQ (.agg [.ref 0 (List.length ([1, 2, 1] : List Int)) 0 (List.length ([1, 2, 1] : List Int))]) (k_loadAgg 1 0 (hu := Try.underlying26) (hi := ty26)) ?_
  refine bCall (caps := []) (v := (uc fun (r123 : Int) => (uc fun (r145 : Int) => (fun (r155 : Int) => (.tuple [.agg [.d (.int .i64 r123), .d (.int .i64 r145)], .d (.int .i64 r155)] : V))))) (H' := (uc fun (r123 : Int) => (uc fun (r145 : Int) => (fun (r155 : Int) => ([.sl 1 (List.map e_i64 ([1, 2, 1] : List Int)) true, .box [.ref 0 (List.length ([1, 2, 1] : List Int)) 0 (List.length ([1, 2, 1] : List Int))], .box [.d (.int .i64 r122), .d (.int .i64 r143)], .box [.d (.int .i64 r144), .d (.int .i64 r154)]] : List Blk))))) [] _ (distribution_Rank_goes k ([1, 2, 1] : List Int) 1) (ho := rfl) (hfn := Try.func23) (hb := rfl) (hconv := (convList (vs0 := [.agg [.ref 0 (List.length ([1, 2, 1] : List Int)) 0 (List.length ([1, 2, 1] : List Int))], .d (.int .i64 1)]) (vs := [.agg [.d (.lit (List.map e_i64 ([1, 2, 1] : List Int)))], .d (.int .i64 1)]) (p := (.cons _ _ _ _ (.agg _ _ (.cons _ _ _ _ (k_lit (enc := e_i64) (sz := 1) 0 ([1, 2, 1] : List Int)) .nil)) (.cons _ _ _ _ (.same _) .nil))))) (hnd := by decide) (hBl := fun _ => (by kernel_rfl)) (hv := fun _ => (by kernel_rfl)) (hH' := fun _ => (by kernel_rfl)) (h := fun r => ?_)
  obtain ⟨r123, r145, r155⟩ := r
  refine bUc ?_
  refine bUc ?_
  refine oP (.tuple [.agg [.d (.int .i64 r123), .d (.int .i64 r145)], .d (.int .i64 r155)]) p_move ?_
  refine oP (.agg [.d (.int .i64 r123), .d (.int .i64 r145)]) k_extract ?_
  refine oP (.d (.int .i64 r155)) k_extract ?_
  refine oD (.ptr 4 0) (k_alloc (H' := [.sl 1 (List.map e_i64 ([1, 2, 1] : List Int)) true, .box [.ref 0 (List.length ([1, 2, 1] : List Int)) 0 (List.length ([1, 2, 1] : List Int))], .box [.d (.int .i64 r122), .d (.int .i64 r143)], .box [.d (.int .i64 r144), .d (.int .i64 r154)], .box [.d (.int .i64 0), .d (.int .i64 0)]]) ty31) ?_
  refine oD (.undef) (k_store (vs := [.d (.int .i64 r123), .d (.int .i64 r145)]) (H' := [.sl 1 (List.map e_i64 ([1, 2, 1] : List Int)) true, .box [.ref 0 (List.length ([1, 2, 1] : List Int)) 0 (List.length ([1, 2, 1] : List Int))], .box [.d (.int .i64 r122), .d (.int .i64 r143)], .box [.d (.int .i64 r144), .d (.int .i64 r154)], .box [.d (.int .i64 r123), .d (.int .i64 r145)]]) 4 0 (hi := ty31)) ?_
  refine oP (.d (.int .i64 r155)) p_assign ?_
  refine oEnd ?_
  refine oSR rfl ?_
  refine oQ (.agg [.ref 0 (List.length ([1, 2, 1] : List Int)) 0 (List.length ([1, 2, 1] : List Int))]) (k_loadAgg 1 0 (hu := Try.underlying26) (hi := ty26)) ?_
  refine oP (.agg [.d (.int .i64 1), .d (.int .i64 4)]) (p_build bld31) ?_
  refine bCall (caps := []) (v := (uc fun (r1102 : Int) => (fun (r1112 : Int) => (.tuple [.d (.int .i64 r1102), .d (.int .i64 r1112)] : V)))) (H' := (uc fun (r1102 : Int) => (fun (r1112 : Int) => ([.sl 1 (List.map e_i64 ([1, 2, 1] : List Int)) true, .box [.ref 0 (List.length ([1, 2, 1] : List Int)) 0 (List.length ([1, 2, 1] : List Int))], .box [.d (.int .i64 r122), .d (.int .i64 r143)], .box [.d (.int .i64 r144), .d (.int .i64 r154)], .box [.d (.int .i64 r123), .d (.int .i64 r145)]] : List Blk)))) [] _ (distribution_Quantile_goes k ([1, 2, 1] : List Int) 1 4) (ho := rfl) (hfn := Try.func14) (hb := rfl) (hconv := (convList (vs0 := [.agg [.ref 0 (List.length ([1, 2, 1] : List Int)) 0 (List.length ([1, 2, 1] : List Int))], .agg [.d (.int .i64 1), .d (.int .i64 4)]]) (vs := [.agg [.d (.lit (List.map e_i64 ([1, 2, 1] : List Int)))], .agg [.d (.int .i64 1), .d (.int .i64 4)]]) (p := (.cons _ _ _ _ (.agg _ _ (.cons _ _ _ _ (k_lit (enc := e_i64) (sz := 1) 0 ([1, 2, 1] : List Int)) .nil)) (.cons _ _ _ _ (.same _) .nil))))) (hnd := by decide) (hBl := fun _ => (by kernel_rfl)) (hv := fun _ => (by kernel_rfl)) (hH' := fun _ => (by kernel_rfl)) (h := fun r => ?_)
  obtain ⟨r1102, r1112⟩ := r
  refine bUc ?_
  refine oP (.tuple [.d (.int .i64 r1102), .d (.int .i64 r1112)]) p_move ?_
  refine oP (.d (.int .i64 r1102)) k_extract ?_
  refine oP (.d (.int .i64 r1112)) k_extract ?_
  refine oP (.d (.int .i64 r1102)) p_assign ?_
  refine oP (.d (.int .i64 r1112)) p_assign ?_
  refine oEnd ?_
  refine oSR rfl ?_
  refine oQ (.agg [.ref 0 (List.length ([1, 2, 1] : List Int)) 0 (List.length ([1, 2, 1] : List Int))]) (k_loadAgg 1 0 (hu := Try.underlying26) (hi := ty26)) ?_
  refine oP (.agg [.d (.int .i64 1), .d (.int .i64 2)]) (p_build bld31) ?_
  refine bCall (caps := []) (v := (uc fun (r1103 : Int) => (fun (r1113 : Int) => (.tuple [.d (.int .i64 r1103), .d (.int .i64 r1113)] : V)))) (H' := (uc fun (r1103 : Int) => (fun (r1113 : Int) => ([.sl 1 (List.map e_i64 ([1, 2, 1] : List Int)) true, .box [.ref 0 (List.length ([1, 2, 1] : List Int)) 0 (List.length ([1, 2, 1] : List Int))], .box [.d (.int .i64 r122), .d (.int .i64 r143)], .box [.d (.int .i64 r144), .d (.int .i64 r154)], .box [.d (.int .i64 r123), .d (.int .i64 r145)]] : List Blk)))) [] _ (distribution_Quantile_goes k ([1, 2, 1] : List Int) 1 2) (ho := rfl) (hfn := Try.func14) (hb := rfl) (hconv := (convList (vs0 := [.agg [.ref 0 (List.length ([1, 2, 1] : List Int)) 0 (List.length ([1, 2, 1] : List Int))], .agg [.d (.int .i64 1), .d (.int .i64 2)]]) (vs := [.agg [.d (.lit (List.map e_i64 ([1, 2, 1] : List Int)))], .agg [.d (.int .i64 1), .d (.int .i64 2)]]) (p := (.cons _ _ _ _ (.agg _ _ (.cons _ _ _ _ (k_lit (enc := e_i64) (sz := 1) 0 ([1, 2, 1] : List Int)) .nil)) (.cons _ _ _ _ (.same _) .nil))))) (hnd := by decide) (hBl := fun _ => (by kernel_rfl)) (hv := fun _ => (by kernel_rfl)) (hH' := fun _ => (by kernel_rfl)) (h := fun r => ?_)
  obtain ⟨r1103, r1113⟩ := r
  refine bUc ?_
  refine oP (.tuple [.d (.int .i64 r1103), .d (.int .i64 r1113)]) p_move ?_
  refine oP (.d (.int .i64 r1103)) k_extract ?_
  refine oP (.d (.int .i64 r1113)) k_extract ?_
  refine oP (.d (.int .i64 r1103)) p_assign ?_
  refine oP (.d (.int .i64 r1113)) p_assign ?_
  refine oEnd ?_
  refine oSR rfl ?_
  refine oP (.agg [.d (.int .i64 1), .d (.int .i64 2)]) (p_build bld31) ?_
  refine oD (.ptr 5 0) (k_alloc (H' := [.sl 1 (List.map e_i64 ([1, 2, 1] : List Int)) true, .box [.ref 0 (List.length ([1, 2, 1] : List Int)) 0 (List.length ([1, 2, 1] : List Int))], .box [.d (.int .i64 r122), .d (.int .i64 r143)], .box [.d (.int .i64 r144), .d (.int .i64 r154)], .box [.d (.int .i64 r123), .d (.int .i64 r145)], .box [.d (.int .i64 0), .d (.int .i64 0)]]) ty31) ?_
  refine oD (.undef) (k_store (vs := [.d (.int .i64 1), .d (.int .i64 2)]) (H' := [.sl 1 (List.map e_i64 ([1, 2, 1] : List Int)) true, .box [.ref 0 (List.length ([1, 2, 1] : List Int)) 0 (List.length ([1, 2, 1] : List Int))], .box [.d (.int .i64 r122), .d (.int .i64 r143)], .box [.d (.int .i64 r144), .d (.int .i64 r154)], .box [.d (.int .i64 r123), .d (.int .i64 r145)], .box [.d (.int .i64 1), .d (.int .i64 2)]]) 5 0 (hi := ty31)) ?_
  refine oEnd ?_
  refine oSR rfl ?_
  refine oP (.d (.int .i64 r153)) p_move ?_
  refine oP (.d (.bool (r153 == 0))) (p_int (k := .i64) (p := r153) (q := 0)) ?_
  refine oP (.d (.bool (r153 == 0))) p_move ?_
  refine bMeetF (H' := [.box [.d (.int .i64 r122), .d (.int .i64 r143)], .box [.d (.int .i64 r144), .d (.int .i64 r154)], .box [.d (.int .i64 r123), .d (.int .i64 r145)], .box [.d (.int .i64 1), .d (.int .i64 2)]]) 3 rfl ((fun (x9 : Bool) => [(2, .ptr 0 0), (4, .ptr 1 0), (6, .ptr 2 0), (7, .d (.int .i64 r155)), (8, .d (.int .i64 r1102)), (9, .d (.int .i64 r1112)), (10, .d (.int .i64 r1103)), (11, .d (.int .i64 r1113)), (12, .ptr 3 0), (48, .d (.bool x9))])) (fun x9 => ?_) (fun F hj1 => ?_)
  ·refine oView (T' := [(2, .ptr 0 0), (4, .ptr 1 0), (6, .ptr 2 0), (7, .d (.int .i64 r155)), (8, .d (.int .i64 r1102)), (9, .d (.int .i64 r1112)), (10, .d (.int .i64 r1103)), (11, .d (.int .i64 r1113)), (12, .ptr 3 0), (48, .d (.bool x9))]) (H' := [.box [.d (.int .i64 r122), .d (.int .i64 r143)], .box [.d (.int .i64 r144), .d (.int .i64 r154)], .box [.d (.int .i64 r123), .d (.int .i64 r145)], .box [.d (.int .i64 1), .d (.int .i64 2)]]) (h := ?_)
   refine oP (.d (.bool x9)) p_move ?_
   refine bMeetF (H' := [.box [.d (.int .i64 r122), .d (.int .i64 r143)], .box [.d (.int .i64 r144), .d (.int .i64 r154)], .box [.d (.int .i64 r123), .d (.int .i64 r145)], .box [.d (.int .i64 1), .d (.int .i64 2)]]) 3 rfl ((fun (x10 : Bool) => [(2, .ptr 0 0), (4, .ptr 1 0), (6, .ptr 2 0), (8, .d (.int .i64 r1102)), (9, .d (.int .i64 r1112)), (10, .d (.int .i64 r1103)), (11, .d (.int .i64 r1113)), (12, .ptr 3 0), (52, .d (.bool x10))])) (fun x10 => ?_) (fun F hj2 => ?_)
   ·refine oView (T' := [(2, .ptr 0 0), (4, .ptr 1 0), (6, .ptr 2 0), (8, .d (.int .i64 r1102)), (9, .d (.int .i64 r1112)), (10, .d (.int .i64 r1103)), (11, .d (.int .i64 r1113)), (12, .ptr 3 0), (52, .d (.bool x10))]) (H' := [.box [.d (.int .i64 r122), .d (.int .i64 r143)], .box [.d (.int .i64 r144), .d (.int .i64 r154)], .box [.d (.int .i64 r123), .d (.int .i64 r145)], .box [.d (.int .i64 1), .d (.int .i64 2)]]) (h := ?_)
    refine oP (.d (.bool x10)) p_move ?_
    refine bMeetF (H' := [.box [.d (.int .i64 r122), .d (.int .i64 r143)], .box [.d (.int .i64 r144), .d (.int .i64 r154)], .box [.d (.int .i64 r123), .d (.int .i64 r145)], .box [.d (.int .i64 1), .d (.int .i64 2)]]) 3 rfl ((fun (x11 : Bool) => [(2, .ptr 0 0), (4, .ptr 1 0), (6, .ptr 2 0), (8, .d (.int .i64 r1102)), (10, .d (.int .i64 r1103)), (11, .d (.int .i64 r1113)), (12, .ptr 3 0), (56, .d (.bool x11))])) (fun x11 => ?_) (fun F hj3 => ?_)
    ·refine oView (T' := [(2, .ptr 0 0), (4, .ptr 1 0), (6, .ptr 2 0), (8, .d (.int .i64 r1102)), (10, .d (.int .i64 r1103)), (11, .d (.int .i64 r1113)), (12, .ptr 3 0), (56, .d (.bool x11))]) (H' := [.box [.d (.int .i64 r122), .d (.int .i64 r143)], .box [.d (.int .i64 r144), .d (.int .i64 r154)], .box [.d (.int .i64 r123), .d (.int .i64 r145)], .box [.d (.int .i64 1), .d (.int .i64 2)]]) (h := ?_)
     refine oP (.d (.bool x11)) p_move ?_
     refine bMeetF (H' := [.box [.d (.int .i64 r122), .d (.int .i64 r143)], .box [.d (.int .i64 r144), .d (.int .i64 r154)], .box [.d (.int .i64 r123), .d (.int .i64 r145)], .box [.d (.int .i64 1), .d (.int .i64 2)]]) 3 rfl ((fun (x12 : Bool) => [(2, .ptr 0 0), (4, .ptr 1 0), (6, .ptr 2 0), (8, .d (.int .i64 r1102)), (10, .d (.int .i64 r1103)), (12, .ptr 3 0), (60, .d (.bool x12))])) (fun x12 => ?_) (fun F hj4 => ?_)
     ·refine oView (T' := [(2, .ptr 0 0), (4, .ptr 1 0), (6, .ptr 2 0), (8, .d (.int .i64 r1102)), (10, .d (.int .i64 r1103)), (12, .ptr 3 0), (60, .d (.bool x12))]) (H' := [.box [.d (.int .i64 r122), .d (.int .i64 r143)], .box [.d (.int .i64 r144), .d (.int .i64 r154)], .box [.d (.int .i64 r123), .d (.int .i64 r145)], .box [.d (.int .i64 1), .d (.int .i64 2)]]) (h := ?_)
      refine oP (.d (.bool x12)) p_move ?_
      refine bMeetF (H' := [.box [.d (.int .i64 r144), .d (.int .i64 r154)], .box [.d (.int .i64 r123), .d (.int .i64 r145)], .box [.d (.int .i64 1), .d (.int .i64 2)]]) 4 rfl ((fun (x13 : Bool) => [(4, .ptr 0 0), (6, .ptr 1 0), (8, .d (.int .i64 r1102)), (10, .d (.int .i64 r1103)), (12, .ptr 2 0), (65, .d (.bool x13))])) (fun x13 => ?_) (fun F hj5 => ?_)
      ·refine oView (T' := [(4, .ptr 0 0), (6, .ptr 1 0), (8, .d (.int .i64 r1102)), (10, .d (.int .i64 r1103)), (12, .ptr 2 0), (65, .d (.bool x13))]) (H' := [.box [.d (.int .i64 r144), .d (.int .i64 r154)], .box [.d (.int .i64 r123), .d (.int .i64 r145)], .box [.d (.int .i64 1), .d (.int .i64 2)]]) (h := ?_)
       refine oP (.d (.bool x13)) p_move ?_
       refine bMeetF (H' := [.box [.d (.int .i64 r123), .d (.int .i64 r145)], .box [.d (.int .i64 1), .d (.int .i64 2)]]) 4 rfl ((fun (x14 : Bool) => [(6, .ptr 0 0), (8, .d (.int .i64 r1102)), (10, .d (.int .i64 r1103)), (12, .ptr 1 0), (70, .d (.bool x14))])) (fun x14 => ?_) (fun F hj6 => ?_)
       ·refine oView (T' := [(6, .ptr 0 0), (8, .d (.int .i64 r1102)), (10, .d (.int .i64 r1103)), (12, .ptr 1 0), (70, .d (.bool x14))]) (H' := [.box [.d (.int .i64 r123), .d (.int .i64 r145)], .box [.d (.int .i64 1), .d (.int .i64 2)]]) (h := ?_)
        refine oP (.d (.bool x14)) p_move ?_
        refine bMeetF (H' := []) 4 rfl ((fun (x15 : Bool) => [(8, .d (.int .i64 r1102)), (10, .d (.int .i64 r1103)), (75, .d (.bool x15))])) (fun x15 => ?_) (fun F hj7 => ?_)
        ·refine oView (T' := [(8, .d (.int .i64 r1102)), (10, .d (.int .i64 r1103)), (75, .d (.bool x15))]) (H' := []) (h := ?_)
         refine oP (.d (.bool x15)) p_move ?_
         refine bMeetF (H' := []) 3 rfl ((fun (x16 : Bool) => [(10, .d (.int .i64 r1103)), (79, .d (.bool x16))])) (fun x16 => ?_) (fun F hj8 => ?_)
         ·refine oView (T' := [(10, .d (.int .i64 r1103)), (79, .d (.bool x16))]) (H' := []) (h := ?_)
          refine oP (.d (.bool x16)) p_move ?_
          refine bMeetF (H' := []) 3 rfl ((fun (x17 : Bool) => [(83, .d (.bool x17))])) (fun x17 => ?_) (fun F hj9 => ?_)
          ·refine oView (T' := [(83, .d (.bool x17))]) (H' := []) (h := ?_)
           refine oP (.d (.bool x17)) p_assign ?_
           refine oEnd ?_
           exact oRet (r0 := x17) (rv := .d (.bool x17)) (B := []) (vs := [.d (.bool x17)]) (σ := []) (hf := Try.func10) (hrs := rfl) (hres := .cons _ _ _ _ (.tmp 0 _ (by kernel_rfl)) .nil) (hnd := by decide)
          ·refine bPickF 80 (fun c => F (c && (r1103 == 1))) (h1 := fun hc => ?_) (h2 := fun hc => ?_)
           ·refine oP (.d (.int .i64 r1103)) p_move ?_
            refine oP (.d (.bool (r1103 == 1))) (p_int (k := .i64) (p := r1103) (q := 1)) ?_
            refine oP (.d (.bool (r1103 == 1))) (p_pick (b := true)) ?_
            refine oHead [83] [] (T' := [(83, .d (.bool (r1103 == 1)))]) (H' := []) (hnd := by decide) (h := ?_)
            exact hj9 (r1103 == 1)
           ·refine oNot (h := ?_)
            refine oNot (h := ?_)
            refine oP (.d (.bool false)) (p_pick (b := false)) ?_
            refine oHead [83] [] (T' := [(83, .d (.bool false))]) (H' := []) (hnd := by decide) (h := ?_)
            exact hj9 false
         ·refine bPickF 76 (fun c => F (c && (r1102 == 0))) (h1 := fun hc => ?_) (h2 := fun hc => ?_)
          ·refine oP (.d (.int .i64 r1102)) p_move ?_
           refine oP (.d (.bool (r1102 == 0))) (p_int (k := .i64) (p := r1102) (q := 0)) ?_
           refine oP (.d (.bool (r1102 == 0))) (p_pick (b := true)) ?_
           refine oHead [10, 79] [] (T' := [(10, .d (.int .i64 r1103)), (79, .d (.bool (r1102 == 0)))]) (H' := []) (hnd := by decide) (h := ?_)
           exact hj8 (r1102 == 0)
          ·refine oNot (h := ?_)
           refine oNot (h := ?_)
           refine oP (.d (.bool false)) (p_pick (b := false)) ?_
           refine oHead [10, 79] [] (T' := [(10, .d (.int .i64 r1103)), (79, .d (.bool false))]) (H' := []) (hnd := by decide) (h := ?_)
           exact hj8 false
        ·refine bPickF 71 (fun c => F (c && ((r123 == 1) && ((r145 == 2) && true)))) (h1 := fun hc => ?_) (h2 := fun hc => ?_)
         ·refine oQ (.agg [.d (.int .i64 r123), .d (.int .i64 r145)]) (k_loadAgg 0 0 (hu := Try.underlying31) (hi := ty31)) ?_
          refine oQ (.agg [.d (.int .i64 1), .d (.int .i64 2)]) (k_loadAgg 1 0 (hu := Try.underlying31) (hi := ty31)) ?_
          refine oP (.d (.bool ((r123 == 1) && ((r145 == 2) && true)))) (k_eqAgg (hg := Try.eqGuardType31) (h := EqV.struct 1 31 [.d (.int .i64 r123), .d (.int .i64 r145)] [.d (.int .i64 1), .d (.int .i64 2)] _ ((r123 == 1) && ((r145 == 2) && true)) Try.underlying31 Try.stoodInHeld31 (EqF.one 1 1 _ _ _ _ _ _ _ (r123 == 1) ((r145 == 2) && true) (by kernel_rfl) Try.underlying3 (by kernel_rfl) (by kernel_rfl) (by kernel_rfl) (by kernel_rfl) (EqV.int 3 .i64 .i64 r123 1 Try.underlying3) (EqF.one 1 1 _ _ _ _ _ _ _ (r145 == 2) true (by kernel_rfl) Try.underlying3 (by kernel_rfl) (by kernel_rfl) (by kernel_rfl) (by kernel_rfl) (EqV.int 3 .i64 .i64 r145 2 Try.underlying3) (EqF.nil 1 _ _))))) ?_
          refine oP (.d (.bool ((r123 == 1) && ((r145 == 2) && true)))) (p_pick (b := true)) ?_
          refine oHead [8, 10, 75] [] (T' := [(8, .d (.int .i64 r1102)), (10, .d (.int .i64 r1103)), (75, .d (.bool ((r123 == 1) && ((r145 == 2) && true))))]) (H' := []) (hnd := by decide) (h := ?_)
          exact hj7 ((r123 == 1) && ((r145 == 2) && true))
         ·refine oNot (h := ?_)
          refine oNot (h := ?_)
          refine oNot (h := ?_)
          refine oP (.d (.bool false)) (p_pick (b := false)) ?_
          refine oHead [8, 10, 75] [] (T' := [(8, .d (.int .i64 r1102)), (10, .d (.int .i64 r1103)), (75, .d (.bool false))]) (H' := []) (hnd := by decide) (h := ?_)
          exact hj7 false
       ·refine bPickF 66 (fun c => F (c && ((r144 == 1) && ((r154 == 2) && true)))) (h1 := fun hc => ?_) (h2 := fun hc => ?_)
        ·refine oQ (.agg [.d (.int .i64 r144), .d (.int .i64 r154)]) (k_loadAgg 0 0 (hu := Try.underlying31) (hi := ty31)) ?_
         refine oQ (.agg [.d (.int .i64 1), .d (.int .i64 2)]) (k_loadAgg 2 0 (hu := Try.underlying31) (hi := ty31)) ?_
         refine oP (.d (.bool ((r144 == 1) && ((r154 == 2) && true)))) (k_eqAgg (hg := Try.eqGuardType31) (h := EqV.struct 1 31 [.d (.int .i64 r144), .d (.int .i64 r154)] [.d (.int .i64 1), .d (.int .i64 2)] _ ((r144 == 1) && ((r154 == 2) && true)) Try.underlying31 Try.stoodInHeld31 (EqF.one 1 1 _ _ _ _ _ _ _ (r144 == 1) ((r154 == 2) && true) (by kernel_rfl) Try.underlying3 (by kernel_rfl) (by kernel_rfl) (by kernel_rfl) (by kernel_rfl) (EqV.int 3 .i64 .i64 r144 1 Try.underlying3) (EqF.one 1 1 _ _ _ _ _ _ _ (r154 == 2) true (by kernel_rfl) Try.underlying3 (by kernel_rfl) (by kernel_rfl) (by kernel_rfl) (by kernel_rfl) (EqV.int 3 .i64 .i64 r154 2 Try.underlying3) (EqF.nil 1 _ _))))) ?_
         refine oP (.d (.bool ((r144 == 1) && ((r154 == 2) && true)))) (p_pick (b := true)) ?_
         refine oHead [6, 8, 10, 12, 70] [1, 2] (T' := [(6, .ptr 0 0), (8, .d (.int .i64 r1102)), (10, .d (.int .i64 r1103)), (12, .ptr 1 0), (70, .d (.bool ((r144 == 1) && ((r154 == 2) && true))))]) (H' := [.box [.d (.int .i64 r123), .d (.int .i64 r145)], .box [.d (.int .i64 1), .d (.int .i64 2)]]) (hnd := by decide) (h := ?_)
         exact hj6 ((r144 == 1) && ((r154 == 2) && true))
        ·refine oNot (h := ?_)
         refine oNot (h := ?_)
         refine oNot (h := ?_)
         refine oP (.d (.bool false)) (p_pick (b := false)) ?_
         refine oHead [6, 8, 10, 12, 70] [1, 2] (T' := [(6, .ptr 0 0), (8, .d (.int .i64 r1102)), (10, .d (.int .i64 r1103)), (12, .ptr 1 0), (70, .d (.bool false))]) (H' := [.box [.d (.int .i64 r123), .d (.int .i64 r145)], .box [.d (.int .i64 1), .d (.int .i64 2)]]) (hnd := by decide) (h := ?_)
         exact hj6 false
      ·refine bPickF 61 (fun c => F (c && ((r122 == 1) && ((r143 == 1) && true)))) (h1 := fun hc => ?_) (h2 := fun hc => ?_)
       ·refine oQ (.agg [.d (.int .i64 r122), .d (.int .i64 r143)]) (k_loadAgg 0 0 (hu := Try.underlying31) (hi := ty31)) ?_
        refine oP (.agg [.d (.int .i64 1), .d (.int .i64 1)]) (p_build bld31) ?_
        refine oP (.d (.bool ((r122 == 1) && ((r143 == 1) && true)))) (k_eqAgg (hg := Try.eqGuardType31) (h := EqV.struct 1 31 [.d (.int .i64 r122), .d (.int .i64 r143)] [.d (.int .i64 1), .d (.int .i64 1)] _ ((r122 == 1) && ((r143 == 1) && true)) Try.underlying31 Try.stoodInHeld31 (EqF.one 1 1 _ _ _ _ _ _ _ (r122 == 1) ((r143 == 1) && true) (by kernel_rfl) Try.underlying3 (by kernel_rfl) (by kernel_rfl) (by kernel_rfl) (by kernel_rfl) (EqV.int 3 .i64 .i64 r122 1 Try.underlying3) (EqF.one 1 1 _ _ _ _ _ _ _ (r143 == 1) true (by kernel_rfl) Try.underlying3 (by kernel_rfl) (by kernel_rfl) (by kernel_rfl) (by kernel_rfl) (EqV.int 3 .i64 .i64 r143 1 Try.underlying3) (EqF.nil 1 _ _))))) ?_
        refine oP (.d (.bool ((r122 == 1) && ((r143 == 1) && true)))) (p_pick (b := true)) ?_
        refine oHead [4, 6, 8, 10, 12, 65] [1, 2, 3] (T' := [(4, .ptr 0 0), (6, .ptr 1 0), (8, .d (.int .i64 r1102)), (10, .d (.int .i64 r1103)), (12, .ptr 2 0), (65, .d (.bool ((r122 == 1) && ((r143 == 1) && true))))]) (H' := [.box [.d (.int .i64 r144), .d (.int .i64 r154)], .box [.d (.int .i64 r123), .d (.int .i64 r145)], .box [.d (.int .i64 1), .d (.int .i64 2)]]) (hnd := by decide) (h := ?_)
        exact hj5 ((r122 == 1) && ((r143 == 1) && true))
       ·refine oNot (h := ?_)
        refine oNot (h := ?_)
        refine oNot (h := ?_)
        refine oP (.d (.bool false)) (p_pick (b := false)) ?_
        refine oHead [4, 6, 8, 10, 12, 65] [1, 2, 3] (T' := [(4, .ptr 0 0), (6, .ptr 1 0), (8, .d (.int .i64 r1102)), (10, .d (.int .i64 r1103)), (12, .ptr 2 0), (65, .d (.bool false))]) (H' := [.box [.d (.int .i64 r144), .d (.int .i64 r154)], .box [.d (.int .i64 r123), .d (.int .i64 r145)], .box [.d (.int .i64 1), .d (.int .i64 2)]]) (hnd := by decide) (h := ?_)
        exact hj5 false
     ·refine bPickF 57 (fun c => F (c && (r1113 == 0))) (h1 := fun hc => ?_) (h2 := fun hc => ?_)
      ·refine oP (.d (.int .i64 r1113)) p_move ?_
       refine oP (.d (.bool (r1113 == 0))) (p_int (k := .i64) (p := r1113) (q := 0)) ?_
       refine oP (.d (.bool (r1113 == 0))) (p_pick (b := true)) ?_
       refine oHead [2, 4, 6, 8, 10, 12, 60] [0, 1, 2, 3] (T' := [(2, .ptr 0 0), (4, .ptr 1 0), (6, .ptr 2 0), (8, .d (.int .i64 r1102)), (10, .d (.int .i64 r1103)), (12, .ptr 3 0), (60, .d (.bool (r1113 == 0)))]) (H' := [.box [.d (.int .i64 r122), .d (.int .i64 r143)], .box [.d (.int .i64 r144), .d (.int .i64 r154)], .box [.d (.int .i64 r123), .d (.int .i64 r145)], .box [.d (.int .i64 1), .d (.int .i64 2)]]) (hnd := by decide) (h := ?_)
       exact hj4 (r1113 == 0)
      ·refine oNot (h := ?_)
       refine oNot (h := ?_)
       refine oP (.d (.bool false)) (p_pick (b := false)) ?_
       refine oHead [2, 4, 6, 8, 10, 12, 60] [0, 1, 2, 3] (T' := [(2, .ptr 0 0), (4, .ptr 1 0), (6, .ptr 2 0), (8, .d (.int .i64 r1102)), (10, .d (.int .i64 r1103)), (12, .ptr 3 0), (60, .d (.bool false))]) (H' := [.box [.d (.int .i64 r122), .d (.int .i64 r143)], .box [.d (.int .i64 r144), .d (.int .i64 r154)], .box [.d (.int .i64 r123), .d (.int .i64 r145)], .box [.d (.int .i64 1), .d (.int .i64 2)]]) (hnd := by decide) (h := ?_)
       exact hj4 false
    ·refine bPickF 53 (fun c => F (c && (r1112 == 0))) (h1 := fun hc => ?_) (h2 := fun hc => ?_)
     ·refine oP (.d (.int .i64 r1112)) p_move ?_
      refine oP (.d (.bool (r1112 == 0))) (p_int (k := .i64) (p := r1112) (q := 0)) ?_
      refine oP (.d (.bool (r1112 == 0))) (p_pick (b := true)) ?_
      refine oHead [2, 4, 6, 8, 10, 11, 12, 56] [0, 1, 2, 3] (T' := [(2, .ptr 0 0), (4, .ptr 1 0), (6, .ptr 2 0), (8, .d (.int .i64 r1102)), (10, .d (.int .i64 r1103)), (11, .d (.int .i64 r1113)), (12, .ptr 3 0), (56, .d (.bool (r1112 == 0)))]) (H' := [.box [.d (.int .i64 r122), .d (.int .i64 r143)], .box [.d (.int .i64 r144), .d (.int .i64 r154)], .box [.d (.int .i64 r123), .d (.int .i64 r145)], .box [.d (.int .i64 1), .d (.int .i64 2)]]) (hnd := by decide) (h := ?_)
      exact hj3 (r1112 == 0)
     ·refine oNot (h := ?_)
      refine oNot (h := ?_)
      refine oP (.d (.bool false)) (p_pick (b := false)) ?_
      refine oHead [2, 4, 6, 8, 10, 11, 12, 56] [0, 1, 2, 3] (T' := [(2, .ptr 0 0), (4, .ptr 1 0), (6, .ptr 2 0), (8, .d (.int .i64 r1102)), (10, .d (.int .i64 r1103)), (11, .d (.int .i64 r1113)), (12, .ptr 3 0), (56, .d (.bool false))]) (H' := [.box [.d (.int .i64 r122), .d (.int .i64 r143)], .box [.d (.int .i64 r144), .d (.int .i64 r154)], .box [.d (.int .i64 r123), .d (.int .i64 r145)], .box [.d (.int .i64 1), .d (.int .i64 2)]]) (hnd := by decide) (h := ?_)
      exact hj3 false
   ·refine bPickF 49 (fun c => F (c && (r155 == 0))) (h1 := fun hc => ?_) (h2 := fun hc => ?_)
    ·refine oP (.d (.int .i64 r155)) p_move ?_
     refine oP (.d (.bool (r155 == 0))) (p_int (k := .i64) (p := r155) (q := 0)) ?_
     refine oP (.d (.bool (r155 == 0))) (p_pick (b := true)) ?_
     refine oHead [2, 4, 6, 8, 9, 10, 11, 12, 52] [0, 1, 2, 3] (T' := [(2, .ptr 0 0), (4, .ptr 1 0), (6, .ptr 2 0), (8, .d (.int .i64 r1102)), (9, .d (.int .i64 r1112)), (10, .d (.int .i64 r1103)), (11, .d (.int .i64 r1113)), (12, .ptr 3 0), (52, .d (.bool (r155 == 0)))]) (H' := [.box [.d (.int .i64 r122), .d (.int .i64 r143)], .box [.d (.int .i64 r144), .d (.int .i64 r154)], .box [.d (.int .i64 r123), .d (.int .i64 r145)], .box [.d (.int .i64 1), .d (.int .i64 2)]]) (hnd := by decide) (h := ?_)
     exact hj2 (r155 == 0)
    ·refine oNot (h := ?_)
     refine oNot (h := ?_)
     refine oP (.d (.bool false)) (p_pick (b := false)) ?_
     refine oHead [2, 4, 6, 8, 9, 10, 11, 12, 52] [0, 1, 2, 3] (T' := [(2, .ptr 0 0), (4, .ptr 1 0), (6, .ptr 2 0), (8, .d (.int .i64 r1102)), (9, .d (.int .i64 r1112)), (10, .d (.int .i64 r1103)), (11, .d (.int .i64 r1113)), (12, .ptr 3 0), (52, .d (.bool false))]) (H' := [.box [.d (.int .i64 r122), .d (.int .i64 r143)], .box [.d (.int .i64 r144), .d (.int .i64 r154)], .box [.d (.int .i64 r123), .d (.int .i64 r145)], .box [.d (.int .i64 1), .d (.int .i64 2)]]) (hnd := by decide) (h := ?_)
     exact hj2 false
  ·refine bPickF 45 (fun c => F (c && (r181 == 0))) (h1 := fun hc => ?_) (h2 := fun hc => ?_)
   ·refine oP (.d (.int .i64 r181)) p_move ?_
    refine oP (.d (.bool (r181 == 0))) (p_int (k := .i64) (p := r181) (q := 0)) ?_
    refine oP (.d (.bool (r181 == 0))) (p_pick (b := true)) ?_
    refine oHead [2, 4, 6, 7, 8, 9, 10, 11, 12, 48] [2, 3, 4, 5] (T' := [(2, .ptr 0 0), (4, .ptr 1 0), (6, .ptr 2 0), (7, .d (.int .i64 r155)), (8, .d (.int .i64 r1102)), (9, .d (.int .i64 r1112)), (10, .d (.int .i64 r1103)), (11, .d (.int .i64 r1113)), (12, .ptr 3 0), (48, .d (.bool (r181 == 0)))]) (H' := [.box [.d (.int .i64 r122), .d (.int .i64 r143)], .box [.d (.int .i64 r144), .d (.int .i64 r154)], .box [.d (.int .i64 r123), .d (.int .i64 r145)], .box [.d (.int .i64 1), .d (.int .i64 2)]]) (hnd := by decide) (h := ?_)
    exact hj1 (r181 == 0)
   ·refine oNot (h := ?_)
    refine oNot (h := ?_)
    refine oP (.d (.bool false)) (p_pick (b := false)) ?_
    refine oHead [2, 4, 6, 7, 8, 9, 10, 11, 12, 48] [2, 3, 4, 5] (T' := [(2, .ptr 0 0), (4, .ptr 1 0), (6, .ptr 2 0), (7, .d (.int .i64 r155)), (8, .d (.int .i64 r1102)), (9, .d (.int .i64 r1112)), (10, .d (.int .i64 r1103)), (11, .d (.int .i64 r1113)), (12, .ptr 3 0), (48, .d (.bool false))]) (H' := [.box [.d (.int .i64 r122), .d (.int .i64 r143)], .box [.d (.int .i64 r144), .d (.int .i64 r154)], .box [.d (.int .i64 r123), .d (.int .i64 r145)], .box [.d (.int .i64 1), .d (.int .i64 2)]]) (hnd := by decide) (h := ?_)
    exact hj1 false

/-- awardingbody/awardingbodymark.Roll -/
def mark_Roll (k : Nat) (l : (List Int)) : Option (Unit) := some ()
def mark_Roll_E (l : (List Int)) : Unit → V × List Blk := u0 ((.ptr 0 0, [.box [.d (.lit (List.map e_i64 l)), .d (.int .i64 0)]]))
theorem mark_Roll_goes (k : Nat) (l : (List Int)) : RunsO Try.prog 11 [.d (.lit (List.map e_i64 l))] [] (mark_Roll_E l) (mark_Roll k l) := by
  refine RunsO.of_goes (N := 6) (m := 0) (T := [(0, .d (.lit (List.map e_i64 l)))]) Try.func11 rfl rfl (h := ?_)
  unfold mark_Roll
  refine bStart ?_
  refine oSR rfl ?_
  refine oP (.nilptr) p_assign ?_
  refine oEnd ?_
  refine oSR rfl ?_
  refine oP (.d (.lit (List.map e_i64 l))) p_move ?_
  refine oP (.agg [.d (.lit (List.map e_i64 l)), .d (.int .i64 0)]) (p_build bld58) ?_
  refine oD (.ptr 0 0) (k_box (H' := [.box [.d (.lit (List.map e_i64 l)), .d (.int .i64 0)]]) (cells := [.d (.lit (List.map e_i64 l)), .d (.int .i64 0)])) ?_
  refine oP (.ptr 0 0) p_assign ?_
  refine oEnd ?_
  exact oRet (r0 := ()) (rv := .ptr 0 0) (B := [.box [.d (.lit (List.map e_i64 l)), .d (.int .i64 0)]]) (vs := [.ptr 0 0]) (σ := [0]) (hf := Try.func11) (hrs := rfl) (hres := .cons _ _ _ _ (.tmp 2 _ (by kernel_rfl)) .nil) (hnd := by decide)

/-- (*awardingbody/awardingbodymark.Dice).Next -/
def mark_Dice_Next (k : Nat) (n : Int) (x : (List Int)) (x1 : Int) : Option (Int × Int) := blet ((decide (x1 ≥ ((List.length x) : Int))) || (decide (n < 1))) fun x8 => bif x8 then some (0, x1) else gidx x x1 fun e1 => gnz n (Option.bind (bif (decide ((Int.tmod e1 n) < 0)) then some ((IntKind.wrap .i64 ((Int.tmod e1 n) + n)), (IntKind.wrap .i64 (x1 + 1))) else some ((Int.tmod e1 n), (IntKind.wrap .i64 (x1 + 1))) : Option (Int × Int)) (uc fun x9 => fun x10 => some (x9, x10)))
def mark_Dice_Next_E (n : Int) (x : (List Int)) (x1 : Int) : Int × Int → V × List Blk := uc fun r1 => fun x6 => (.d (.int .i64 r1), [.box [.d (.lit (List.map e_i64 x)), .d (.int .i64 x6)]])
theorem mark_Dice_Next_goes (k : Nat) (n : Int) (x : (List Int)) (x1 : Int) : RunsO Try.prog 26 [.ptr 0 0, .d (.int .i64 n)] [.box [.d (.lit (List.map e_i64 x)), .d (.int .i64 x1)]] (mark_Dice_Next_E n x x1) (mark_Dice_Next k n x x1) := by
  refine RunsO.of_goes (N := 45) (m := 1) (T := [(0, .ptr 0 0), (1, .d (.int .i64 n))]) Try.func26 rfl rfl (h := ?_)
  unfold mark_Dice_Next
  refine bStart ?_
  refine oSR rfl ?_
  refine oP (.d (.int .i64 0)) p_assign ?_
  refine oEnd ?_
  refine oSeq ?_
  refine oSeq ?_
  refine oDraw [(0, 14)] rfl ?_
  refine aP 0 (.ptr 0 0) rfl p_move ?_
  refine aP 1 (.ptr 0 0) rfl (k_nilCheck 0 0) ?_
  refine aP 2 (.ptr 0 1) rfl (k_fieldAddr 0 0 (hu := Try.underlying58) (hf := rfl) (hi := ty3)) ?_
  refine aQ 3 [0] (.d (.int .i64 x1)) rfl (k_load 0 1 (hu := Try.underlying3)) ?_
  refine aP 4 (.ptr 0 0) rfl p_move ?_
  refine aP 5 (.ptr 0 0) rfl (k_nilCheck 0 0) ?_
  refine aP 6 (.ptr 0 0) rfl (k_fieldAddr 0 0 (hu := Try.underlying58) (hf := rfl) (hi := ty22)) ?_
  refine aQ 7 [0] (.d (.lit (List.map e_i64 x))) rfl (k_load 0 0 (hu := Try.underlying22)) ?_
  refine aP 8 (.d (.int .i64 ((List.length x) : Int))) rfl (k_lenLit (enc := e_i64) x (hu := Try.underlying22)) ?_
  refine aP 9 (.d (.bool (decide (x1 ≥ ((List.length x) : Int))))) rfl (p_int (k := .i64) (p := x1) (q := ((List.length x) : Int))) ?_
  refine aP 10 (.d (.bool (decide (x1 ≥ ((List.length x) : Int))))) rfl p_move ?_
  refine dMeetF [13, 12, 11, 10, 9, 8, 7, 6, 5, 4, 3, 2, 1, 0] (fun (x8 : Bool) => [(0, .ptr 0 0), (1, .d (.int .i64 n)), (19, .d (.bool x8))]) (fun (x8 : Bool) => [(0, .ptr 0 0), (1, .d (.int .i64 n)), (19, .d (.bool x8))]) (H' := [.box [.d (.lit (List.map e_i64 x)), .d (.int .i64 x1)]]) (fun x8 => ?_) (fun F hj3 => ?_)
  ·refine aDone (h := ?_)
   refine bSplit 19 (h1 := fun hc => ?_) (h2 := fun hc => ?_)
   ·refine oCondT (h := ?_)
    refine oSR rfl ?_
    refine oP (.d (.int .i64 0)) p_assign ?_
    refine oEnd ?_
    exact oRet (r0 := (0, x1)) (rv := .d (.int .i64 0)) (B := [.box [.d (.lit (List.map e_i64 x)), .d (.int .i64 x1)]]) (vs := [.d (.int .i64 0)]) (σ := [0]) (hf := Try.func26) (hrs := rfl) (hres := .cons _ _ _ _ (.tmp 4 _ (by kernel_rfl)) .nil) (hnd := by decide)
   ·refine oCondF (h := ?_)
    refine oSkip ?_
    refine oSeq ?_
    refine oDraw [(0, 13)] rfl ?_
    refine aP 0 (.ptr 0 0) rfl p_move ?_
    refine aP 1 (.ptr 0 0) rfl (k_nilCheck 0 0) ?_
    refine aP 2 (.ptr 0 0) rfl (k_fieldAddr 0 0 (hu := Try.underlying58) (hf := rfl) (hi := ty22)) ?_
    refine aQ 3 [0] (.d (.lit (List.map e_i64 x))) rfl (k_load 0 0 (hu := Try.underlying22)) ?_
    refine aP 4 (.ptr 0 0) rfl p_move ?_
    refine aP 5 (.ptr 0 0) rfl (k_nilCheck 0 0) ?_
    refine aP 6 (.ptr 0 1) rfl (k_fieldAddr 0 0 (hu := Try.underlying58) (hf := rfl) (hi := ty3)) ?_
    refine aQ 7 [0] (.d (.int .i64 x1)) rfl (k_load 0 1 (hu := Try.underlying3)) ?_
    refine dIdx (fun e1 h1 h11 => ?_)
    refine aP 8 (.lptr (e_i64 e1) 0) rfl (k_idxLit e_i64_len x (a := e1) (k := .i64) (i := x1) (hu := Try.underlying22) (hi := ty3) (h0 := h1) (he := h11)) ?_
    refine aQ 9 [] (.d (.int .i64 e1)) rfl (k_loadL (cells := e_i64 e1) 0 (hu := Try.underlying3)) ?_
    refine aP 10 (.d (.int .i64 n)) rfl p_move ?_
    refine dNz (fun h12 => ?_)
    refine aTakeP (i := 11) (.d (.int .i64 (Int.tmod e1 n))) rfl (hp := p_rem (k := .i64) (p := e1) (q := n) (hq := h12)) (h := ?_)
    refine aP 12 (.d (.int .i64 (Int.tmod e1 n))) rfl p_assign ?_
    refine aDone (h := ?_)
    refine oSR rfl ?_
    refine oP (.ptr 0 0) p_move ?_
    refine oP (.ptr 0 0) (k_nilCheck 0 0) ?_
    refine oP (.ptr 0 1) (k_fieldAddr 0 0 (hu := Try.underlying58) (hf := rfl) (hi := ty3)) ?_
    refine oQ (.d (.int .i64 x1)) (k_load 0 1 (hu := Try.underlying3)) ?_
    refine oP (.d (.int .i64 (IntKind.wrap .i64 (x1 + 1)))) (p_int (k := .i64) (p := x1) (q := 1)) ?_
    refine oP (.ptr 0 0) (k_nilCheck 0 0) ?_
    refine oP (.ptr 0 1) (k_fieldAddr 0 0 (hu := Try.underlying58) (hf := rfl) (hi := ty3)) ?_
    refine oD (.undef) (k_store (vs := [.d (.int .i64 (IntKind.wrap .i64 (x1 + 1)))]) (H' := [.box [.d (.lit (List.map e_i64 x)), .d (.int .i64 (IntKind.wrap .i64 (x1 + 1)))]]) 0 1 (hi := ty3)) ?_
    refine oEnd ?_
    refine oSeq ?_
    refine oSR rfl ?_
    refine oP (.d (.int .i64 (Int.tmod e1 n))) p_move ?_
    refine oP (.d (.bool (decide ((Int.tmod e1 n) < 0)))) (p_int (k := .i64) (p := (Int.tmod e1 n)) (q := 0)) ?_
    refine oEnd ?_
    refine bJoin ((uc fun (x9 : Int) => (fun (x10 : Int) => [(5, .d (.int .i64 x9))]))) ((uc fun (x9 : Int) => (fun (x10 : Int) => [.box [.d (.lit (List.map e_i64 x)), .d (.int .i64 x10)]]))) (fun s => s) (fun s => ?_) (fun hj4 => ?_)
    ·obtain ⟨x9, x10⟩ := s
     refine bUc ?_
     refine oView (T' := [(5, .d (.int .i64 x9))]) (H' := [.box [.d (.lit (List.map e_i64 x)), .d (.int .i64 x10)]]) (h := ?_)
     refine oSR rfl ?_
     refine oP (.d (.int .i64 x9)) p_move ?_
     refine oP (.d (.int .i64 x9)) p_assign ?_
     refine oEnd ?_
     exact oRet (r0 := (x9, x10)) (rv := .d (.int .i64 x9)) (B := [.box [.d (.lit (List.map e_i64 x)), .d (.int .i64 x10)]]) (vs := [.d (.int .i64 x9)]) (σ := [0]) (hf := Try.func26) (hrs := rfl) (hres := .cons _ _ _ _ (.tmp 4 _ (by kernel_rfl)) .nil) (hnd := by decide)
    ·refine bSplit 40 (h1 := fun hc => ?_) (h2 := fun hc => ?_)
     ·refine oCondT (h := ?_)
      refine oRegion rfl ?_
      refine oP (.d (.int .i64 (Int.tmod e1 n))) p_move ?_
      refine oP (.d (.int .i64 n)) p_move ?_
      refine oP (.d (.int .i64 (IntKind.wrap .i64 ((Int.tmod e1 n) + n)))) (p_int (k := .i64) (p := (Int.tmod e1 n)) (q := n)) ?_
      refine oP (.d (.int .i64 (IntKind.wrap .i64 ((Int.tmod e1 n) + n)))) p_assign ?_
      refine oEnd ?_
      refine oHead [5] [0] (T' := [(5, .d (.int .i64 (IntKind.wrap .i64 ((Int.tmod e1 n) + n))))]) (H' := [.box [.d (.lit (List.map e_i64 x)), .d (.int .i64 (IntKind.wrap .i64 (x1 + 1)))]]) (hnd := by decide) (h := ?_)
      exact hj4 ((IntKind.wrap .i64 ((Int.tmod e1 n) + n)), (IntKind.wrap .i64 (x1 + 1)))
     ·refine oCondF (h := ?_)
      refine oSkip ?_
      refine oHead [5] [0] (T' := [(5, .d (.int .i64 (Int.tmod e1 n)))]) (H' := [.box [.d (.lit (List.map e_i64 x)), .d (.int .i64 (IntKind.wrap .i64 (x1 + 1)))]]) (hnd := by decide) (h := ?_)
      exact hj4 ((Int.tmod e1 n), (IntKind.wrap .i64 (x1 + 1)))
  ·refine dPickF 16 (fun c => F (c || (decide (n < 1)))) (h1 := fun hc => ?_) (h2 := fun hc => ?_)
   ·refine aTakeNot (i := 11) rfl (h := ?_)
    refine aTakeNot (i := 12) rfl (h := ?_)
    refine aP 13 (.d (.bool true)) rfl (p_pick (b := true)) ?_
    refine dDrop [0, 1, 19] [0, 1, 19] (T' := [(0, .ptr 0 0), (1, .d (.int .i64 n)), (19, .d (.bool true))]) (U' := [(0, .ptr 0 0), (1, .d (.int .i64 n)), (19, .d (.bool true))]) (h := ?_)
    exact hj3 true
   ·refine aP 11 (.d (.int .i64 n)) rfl p_move ?_
    refine aP 12 (.d (.bool (decide (n < 1)))) rfl (p_int (k := .i64) (p := n) (q := 1)) ?_
    refine aP 13 (.d (.bool (decide (n < 1)))) rfl (p_pick (b := false)) ?_
    refine dDrop [0, 1, 19] [0, 1, 19] (T' := [(0, .ptr 0 0), (1, .d (.int .i64 n)), (19, .d (.bool (decide (n < 1))))]) (U' := [(0, .ptr 0 0), (1, .d (.int .i64 n)), (19, .d (.bool (decide (n < 1))))]) (h := ?_)
    exact hj3 (decide (n < 1))

/-- (*awardingbody/awardingbodymark.Dice).Pick -/
def mark_Dice_Pick (k : Nat) (x : (List Int)) (x1 : Int) (xs : (List Int)) : Option (Int × Int) := Option.bind (mark_Dice_Next k ((List.length xs) : Int) x x1) (uc fun r12 => fun x61 => gidx xs r12 fun e11 => some (e11, x61))
def mark_Dice_Pick_E (x : (List Int)) (x1 : Int) (xs : (List Int)) : Int × Int → V × List Blk := uc fun r11 => fun x2 => (.d (.int .i64 r11), [.box [.d (.lit (List.map e_i64 x)), .d (.int .i64 x2)], .sl 1 (List.map e_i64 xs) false])
theorem mark_Dice_Pick_goes (k : Nat) (x : (List Int)) (x1 : Int) (xs : (List Int)) : RunsO Try.prog 40 [.ptr 0 0, .ref 1 (List.length xs) 0 (List.length xs)] [.box [.d (.lit (List.map e_i64 x)), .d (.int .i64 x1)], .sl 1 (List.map e_i64 xs) false] (mark_Dice_Pick_E x x1 xs) (mark_Dice_Pick k x x1 xs) := by
  refine RunsO.of_goes (N := 12) (m := 2) (T := [(0, .ptr 0 0), (1, .ref 1 (List.length xs) 0 (List.length xs))]) Try.func40 rfl rfl (h := ?_)
  unfold mark_Dice_Pick
  refine bStart ?_
  refine oSR rfl ?_
  refine oP (.d (.int .i64 0)) p_assign ?_
  refine oEnd ?_
  refine oSR rfl ?_
  refine oP (.ref 1 (List.length xs) 0 (List.length xs)) p_move ?_
  refine oP (.ptr 0 0) p_move ?_
  refine oP (.ref 1 (List.length xs) 0 (List.length xs)) p_move ?_
  refine oP (.d (.int .i64 ((List.length xs) : Int))) (k_lenRef (enc := e_i64) (sz := 1) (fro := false) 1 xs (hu := Try.underlying22)) ?_
  refine bCall (caps := []) (v := (uc fun (r12 : Int) => (fun (x61 : Int) => (.d (.int .i64 r12) : V)))) (H' := (uc fun (r12 : Int) => (fun (x61 : Int) => ([.box [.d (.lit (List.map e_i64 x)), .d (.int .i64 x61)], .sl 1 (List.map e_i64 xs) false] : List Blk)))) [0] _ (mark_Dice_Next_goes k ((List.length xs) : Int) x x1) (ho := rfl) (hfn := Try.func26) (hb := rfl) (hconv := ConvRs.refl _ _) (hnd := by decide) (hBl := fun _ => (by kernel_rfl)) (hv := fun _ => (by kernel_rfl)) (hH' := fun _ => (by kernel_rfl)) (h := fun r => ?_)
  obtain ⟨r12, x61⟩ := r
  refine bUc ?_
  refine bIdx (fun e11 h12 h13 => ?_)
  refine oP (.eptr 1 (List.length xs) (Int.toNat r12) 0) (k_idxRef (enc := e_i64) (fro := false) xs (a := e11) (k := .i64) (i := r12) (hu := Try.underlying22) (hi := ty3) (h0 := h12) (he := h13)) ?_
  refine oQ (.d (.int .i64 e11)) (k_loadE (enc := e_i64) (sz := 1) (fro := false) 1 0 xs (hu := Try.underlying3) (he := h13)) ?_
  refine oP (.d (.int .i64 e11)) p_assign ?_
  refine oEnd ?_
  exact oRet (r0 := (e11, x61)) (rv := .d (.int .i64 e11)) (B := [.box [.d (.lit (List.map e_i64 x)), .d (.int .i64 x61)], .sl 1 (List.map e_i64 xs) false]) (vs := [.d (.int .i64 e11)]) (σ := [0, 1]) (hf := Try.func40) (hrs := rfl) (hres := .cons _ _ _ _ (.tmp 4 _ (by kernel_rfl)) .nil) (hnd := by decide)

end Go.VM
