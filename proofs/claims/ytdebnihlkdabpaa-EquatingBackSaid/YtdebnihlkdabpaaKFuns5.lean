/- Plain functions that answer as the program's functions do, and the proof that they do. -/
import Derived.Test.YtdebnihlkdabpaaProg
import Derived.KernelRfl
import Derived.Test.YtdebnihlkdabpaaEngOM
import Derived.Test.YtdebnihlkdabpaaKFacts
import Derived.Test.YtdebnihlkdabpaaKFuns0
import Derived.Test.YtdebnihlkdabpaaKFuns4
namespace Go.VM
open Go.Proofs
set_option linter.unusedVariables false
set_option linter.unusedSimpArgs false
set_option maxRecDepth 100000
/-- awardingbody/awardingbodylaw34.EquatingBack -/
def law34_EquatingBack (k : Nat) (t : (List Int)) (kind : Int) : Option (Bool) := Option.bind (mark_Light k t) (u0 (bif (!(decide (((List.length t) : Int) ≤ 600))) then Option.bind (law34_sane k) (fun r110 => some r110) else Option.bind (mark_Roll k t) (u0 (Option.bind (mark_Dice_Distribution k 6 true t 0) (uc fun r122 => fun x72 => Option.bind (mark_Dice_Distribution k 6 true t x72) (uc fun r123 => fun x73 => Option.bind (equating_Equate k (IntKind.wrap .i64 (Int.tmod kind 3)) r122 r123) (uc fun r112 => fun r134 => Option.bind (equating_Equate k (IntKind.wrap .i64 (Int.tmod kind 3)) r123 r122) (uc fun r113 => fun r135 => Option.bind (bif (r134 != 0) then some ((IntKind.wrap .i64 (Int.tmod kind 3)), true) else some ((IntKind.wrap .i64 (Int.tmod kind 3)), (r135 != 0)) : Option (Int × Bool)) (uc fun k13 => fun x12 => bif x12 then blet ((r134 == r135) && (r134 == 10)) fun x16 => blet (x16 && (k13 == 1)) fun x17 => Option.bind (bif x17 then Option.bind (law34_sane k) (fun r116 => some r116) else some false : Option (Bool)) (fun x18 => some x18) else Option.bind (conversion_Inverse k r112) (uc fun r136 => fun r142 => Option.bind (bif (r142 == 0) then Option.bind (conversion_Same k r113 r136) (fun r1110 => some r1110) else some false : Option (Bool)) (fun x19 => Option.bind (bif x19 then Option.bind (law34_sane k) (fun r119 => some r119) else some false : Option (Bool)) (fun x20 => some x20))))))))))))
def law34_EquatingBack_E (t : (List Int)) (kind : Int) : Bool → V × List Blk := fun r18 => (.d (.bool r18), [])
theorem law34_EquatingBack_goes (k : Nat) (t : (List Int)) (kind : Int) : RunsO Try.prog 5 [.d (.lit (List.map e_i64 t)), .d (.int .u8 kind)] [] (law34_EquatingBack_E t kind) (law34_EquatingBack k t kind) := by
  refine RunsO.of_goes (N := 77) (m := 0) (T := [(0, .d (.lit (List.map e_i64 t))), (1, .d (.int .u8 kind))]) Try.func5 rfl rfl (h := ?_)
  unfold law34_EquatingBack
  refine bStart ?_
  refine oSR rfl ?_
  refine oP (.d (.bool false)) p_assign ?_
  refine oEnd ?_
  refine oSeq ?_
  refine oSR rfl ?_
  refine oP (.d (.lit (List.map e_i64 t))) p_move ?_
  refine bCall (caps := []) (v := (u0 ((.d (.bool (decide (((List.length t) : Int) ≤ 600))) : V)))) (H' := (u0 (([] : List Blk)))) [] _ (mark_Light_goes k t) (ho := rfl) (hfn := Try.func7) (hb := rfl) (hconv := ConvRs.refl _ _) (hnd := by decide) (hBl := fun _ => (by kernel_rfl)) (hv := fun _ => (by kernel_rfl)) (hH' := fun _ => (by kernel_rfl)) (h := fun r => ?_)
  cases r
  refine bU0 ?_
  refine oP (.d (.bool (!(decide (((List.length t) : Int) ≤ 600))))) (p_not (p := (decide (((List.length t) : Int) ≤ 600)))) ?_
  refine oEnd ?_
  refine bSplit 17 (h1 := fun hc => ?_) (h2 := fun hc => ?_)
  ·refine oCondT (h := ?_)
   refine oSR rfl ?_
   refine bCall (caps := []) (v := (fun (r110 : Bool) => (.d (.bool r110) : V))) (H' := (fun (r110 : Bool) => ([] : List Blk))) [] _ (law34_sane_goes k) (ho := rfl) (hfn := Try.func8) (hb := rfl) (hconv := ConvRs.refl _ _) (hnd := by decide) (hBl := fun _ => (by kernel_rfl)) (hv := fun _ => (by kernel_rfl)) (hH' := fun _ => (by kernel_rfl)) (h := fun r110 => ?_)
   refine oP (.d (.bool r110)) p_assign ?_
   refine oEnd ?_
   exact oRet (r0 := r110) (rv := .d (.bool r110)) (B := []) (vs := [.d (.bool r110)]) (σ := []) (hf := Try.func5) (hrs := rfl) (hres := .cons _ _ _ _ (.tmp 4 _ (by kernel_rfl)) .nil) (hnd := by decide)
  ·refine oCondF (h := ?_)
   refine oSkip ?_
   refine oSR rfl ?_
   refine oP (.d (.lit (List.map e_i64 t))) p_move ?_
   refine bCall (caps := []) (v := (u0 ((.ptr 0 0 : V)))) (H' := (u0 (([.box [.d (.lit (List.map e_i64 t)), .d (.int .i64 0)]] : List Blk)))) [] _ (mark_Roll_goes k t) (ho := rfl) (hfn := Try.func9) (hb := rfl) (hconv := ConvRs.refl _ _) (hnd := by decide) (hBl := fun _ => (by kernel_rfl)) (hv := fun _ => (by kernel_rfl)) (hH' := fun _ => (by kernel_rfl)) (h := fun r => ?_)
   cases r
   refine bU0 ?_
   refine oP (.ptr 0 0) p_assign ?_
   refine oEnd ?_
   refine oSR rfl ?_
   refine oP (.ptr 0 0) p_move ?_
   refine bCall (caps := []) (v := (uc fun (r122 : (List Int)) => (fun (x72 : Int) => (.agg [.d (.lit (List.map e_i64 r122))] : V)))) (H' := (uc fun (r122 : (List Int)) => (fun (x72 : Int) => ([.box [.d (.lit (List.map e_i64 t)), .d (.int .i64 x72)]] : List Blk)))) [0] _ (mark_Dice_Distribution_goes k 6 true t 0) (ho := rfl) (hfn := Try.func10) (hb := rfl) (hconv := ConvRs.refl _ _) (hnd := by decide) (hBl := fun _ => (by kernel_rfl)) (hv := fun _ => (by kernel_rfl)) (hH' := fun _ => (by kernel_rfl)) (h := fun r => ?_)
   obtain ⟨r122, x72⟩ := r
   refine bUc ?_
   refine oP (.ptr 0 0) p_move ?_
   refine bCall (caps := []) (v := (uc fun (r123 : (List Int)) => (fun (x73 : Int) => (.agg [.d (.lit (List.map e_i64 r123))] : V)))) (H' := (uc fun (r123 : (List Int)) => (fun (x73 : Int) => ([.box [.d (.lit (List.map e_i64 t)), .d (.int .i64 x73)]] : List Blk)))) [0] _ (mark_Dice_Distribution_goes k 6 true t x72) (ho := rfl) (hfn := Try.func10) (hb := rfl) (hconv := ConvRs.refl _ _) (hnd := by decide) (hBl := fun _ => (by kernel_rfl)) (hv := fun _ => (by kernel_rfl)) (hH' := fun _ => (by kernel_rfl)) (h := fun r => ?_)
   obtain ⟨r123, x73⟩ := r
   refine bUc ?_
   refine oD (.ptr 1 0) (k_alloc (H' := [.box [.d (.lit (List.map e_i64 t)), .d (.int .i64 x73)], .box [.nilc]]) ty28) ?_
   refine oD (.ptr 2 0) (k_alloc (H' := [.box [.d (.lit (List.map e_i64 t)), .d (.int .i64 x73)], .box [.nilc], .box [.nilc]]) ty28) ?_
   refine oD (.undef) (k_store (vs := [.d (.lit (List.map e_i64 r122))]) (H' := [.box [.d (.lit (List.map e_i64 t)), .d (.int .i64 x73)], .box [.d (.lit (List.map e_i64 r122))], .box [.nilc]]) 1 0 (hi := ty28)) ?_
   refine oD (.undef) (k_store (vs := [.d (.lit (List.map e_i64 r123))]) (H' := [.box [.d (.lit (List.map e_i64 t)), .d (.int .i64 x73)], .box [.d (.lit (List.map e_i64 r122))], .box [.d (.lit (List.map e_i64 r123))]]) 2 0 (hi := ty28)) ?_
   refine oEnd ?_
   refine oSR rfl ?_
   refine oP (.d (.int .u8 kind)) p_move ?_
   refine oP (.d (.int .u8 (Int.tmod kind 3))) (p_rem (k := .u8) (p := kind) (q := 3) (hq := by decide)) ?_
   refine oP (.d (.int .i64 (IntKind.wrap .i64 (Int.tmod kind 3)))) (p_conv (k := .u8) (p := (Int.tmod kind 3)) (hu1 := Try.underlying5) (hu2 := Try.underlying3)) ?_
   refine oP (.d (.int .i64 (IntKind.wrap .i64 (Int.tmod kind 3)))) p_assign ?_
   refine oEnd ?_
   refine oSR rfl ?_
   refine oP (.d (.int .i64 (IntKind.wrap .i64 (Int.tmod kind 3)))) p_move ?_
   refine oQ (.agg [.d (.lit (List.map e_i64 r122))]) (k_loadAgg 1 0 (hu := Try.underlying28) (hi := ty28)) ?_
   refine oQ (.agg [.d (.lit (List.map e_i64 r123))]) (k_loadAgg 2 0 (hu := Try.underlying28) (hi := ty28)) ?_
   refine bCall (caps := []) (v := (uc fun (r112 : (List SPoint)) => (fun (r134 : Int) => (.tuple [.agg [.d (.lit (List.map e_SPoint r112))], .d (.int .i64 r134)] : V)))) (H' := (uc fun (r112 : (List SPoint)) => (fun (r134 : Int) => ([.box [.d (.lit (List.map e_i64 t)), .d (.int .i64 x73)], .box [.d (.lit (List.map e_i64 r122))], .box [.d (.lit (List.map e_i64 r123))]] : List Blk)))) [] _ (equating_Equate_goes k (IntKind.wrap .i64 (Int.tmod kind 3)) r122 r123) (ho := rfl) (hfn := Try.func23) (hb := rfl) (hconv := ConvRs.refl _ _) (hnd := by decide) (hBl := fun _ => (by kernel_rfl)) (hv := fun _ => (by kernel_rfl)) (hH' := fun _ => (by kernel_rfl)) (h := fun r => ?_)
   obtain ⟨r112, r134⟩ := r
   refine bUc ?_
   refine oP (.tuple [.agg [.d (.lit (List.map e_SPoint r112))], .d (.int .i64 r134)]) p_move ?_
   refine oP (.agg [.d (.lit (List.map e_SPoint r112))]) k_extract ?_
   refine oP (.d (.int .i64 r134)) k_extract ?_
   refine oD (.ptr 3 0) (k_alloc (H' := [.box [.d (.lit (List.map e_i64 t)), .d (.int .i64 x73)], .box [.d (.lit (List.map e_i64 r122))], .box [.d (.lit (List.map e_i64 r123))], .box [.nilc]]) ty32) ?_
   refine oD (.undef) (k_store (vs := [.d (.lit (List.map e_SPoint r112))]) (H' := [.box [.d (.lit (List.map e_i64 t)), .d (.int .i64 x73)], .box [.d (.lit (List.map e_i64 r122))], .box [.d (.lit (List.map e_i64 r123))], .box [.d (.lit (List.map e_SPoint r112))]]) 3 0 (hi := ty32)) ?_
   refine oP (.d (.int .i64 r134)) p_assign ?_
   refine oEnd ?_
   refine oSR rfl ?_
   refine oP (.d (.int .i64 (IntKind.wrap .i64 (Int.tmod kind 3)))) p_move ?_
   refine oQ (.agg [.d (.lit (List.map e_i64 r123))]) (k_loadAgg 2 0 (hu := Try.underlying28) (hi := ty28)) ?_
   refine oQ (.agg [.d (.lit (List.map e_i64 r122))]) (k_loadAgg 1 0 (hu := Try.underlying28) (hi := ty28)) ?_
   refine bCall (caps := []) (v := (uc fun (r113 : (List SPoint)) => (fun (r135 : Int) => (.tuple [.agg [.d (.lit (List.map e_SPoint r113))], .d (.int .i64 r135)] : V)))) (H' := (uc fun (r113 : (List SPoint)) => (fun (r135 : Int) => ([.box [.d (.lit (List.map e_i64 t)), .d (.int .i64 x73)], .box [.d (.lit (List.map e_i64 r122))], .box [.d (.lit (List.map e_i64 r123))], .box [.d (.lit (List.map e_SPoint r112))]] : List Blk)))) [] _ (equating_Equate_goes k (IntKind.wrap .i64 (Int.tmod kind 3)) r123 r122) (ho := rfl) (hfn := Try.func23) (hb := rfl) (hconv := ConvRs.refl _ _) (hnd := by decide) (hBl := fun _ => (by kernel_rfl)) (hv := fun _ => (by kernel_rfl)) (hH' := fun _ => (by kernel_rfl)) (h := fun r => ?_)
   obtain ⟨r113, r135⟩ := r
   refine bUc ?_
   refine oP (.tuple [.agg [.d (.lit (List.map e_SPoint r113))], .d (.int .i64 r135)]) p_move ?_
   refine oP (.agg [.d (.lit (List.map e_SPoint r113))]) k_extract ?_
   refine oP (.d (.int .i64 r135)) k_extract ?_
   refine oD (.ptr 4 0) (k_alloc (H' := [.box [.d (.lit (List.map e_i64 t)), .d (.int .i64 x73)], .box [.d (.lit (List.map e_i64 r122))], .box [.d (.lit (List.map e_i64 r123))], .box [.d (.lit (List.map e_SPoint r112))], .box [.nilc]]) ty32) ?_
   refine oD (.undef) (k_store (vs := [.d (.lit (List.map e_SPoint r113))]) (H' := [.box [.d (.lit (List.map e_i64 t)), .d (.int .i64 x73)], .box [.d (.lit (List.map e_i64 r122))], .box [.d (.lit (List.map e_i64 r123))], .box [.d (.lit (List.map e_SPoint r112))], .box [.d (.lit (List.map e_SPoint r113))]]) 4 0 (hi := ty32)) ?_
   refine oP (.d (.int .i64 r135)) p_assign ?_
   refine oEnd ?_
   refine oSeq ?_
   refine oSR rfl ?_
   refine oP (.d (.int .i64 r134)) p_move ?_
   refine oP (.d (.bool (r134 != 0))) (p_int (k := .i64) (p := r134) (q := 0)) ?_
   refine oP (.d (.bool (r134 != 0))) p_move ?_
   refine bMeet 3 rfl ((uc fun (k13 : Int) => (fun (x12 : Bool) => [(8, .d (.int .i64 k13)), (9, .ptr 0 0), (10, .d (.int .i64 r134)), (11, .ptr 1 0), (12, .d (.int .i64 r135)), (47, .d (.bool x12))]))) ((uc fun (k13 : Int) => (fun (x12 : Bool) => [.box [.d (.lit (List.map e_SPoint r112))], .box [.d (.lit (List.map e_SPoint r113))]]))) (fun s => s) (fun s => ?_) (fun hj6 => ?_)
   ·obtain ⟨k13, x12⟩ := s
    refine bUc ?_
    refine oView (T' := [(8, .d (.int .i64 k13)), (9, .ptr 0 0), (10, .d (.int .i64 r134)), (11, .ptr 1 0), (12, .d (.int .i64 r135)), (47, .d (.bool x12))]) (H' := [.box [.d (.lit (List.map e_SPoint r112))], .box [.d (.lit (List.map e_SPoint r113))]]) (h := ?_)
    refine oEnd ?_
    refine bSplit 47 (h1 := fun hc => ?_) (h2 := fun hc => ?_)
    ·refine oCondT (h := ?_)
     refine oSR rfl ?_
     refine oP (.d (.int .i64 r134)) p_move ?_
     refine oP (.d (.int .i64 r135)) p_move ?_
     refine oP (.d (.bool (r134 == r135))) (p_int (k := .i64) (p := r134) (q := r135)) ?_
     refine oP (.d (.bool (r134 == r135))) p_move ?_
     refine bMeetF (H' := []) 3 rfl ((fun (x16 : Bool) => [(8, .d (.int .i64 k13)), (54, .d (.bool x16))])) (fun x16 => ?_) (fun F hj1 => ?_)
     ·refine oView (T' := [(8, .d (.int .i64 k13)), (54, .d (.bool x16))]) (H' := []) (h := ?_)
      refine oP (.d (.bool x16)) p_move ?_
      refine bMeetF (H' := []) 3 rfl ((fun (x17 : Bool) => [(58, .d (.bool x17))])) (fun x17 => ?_) (fun F hj2 => ?_)
      ·refine oView (T' := [(58, .d (.bool x17))]) (H' := []) (h := ?_)
       refine oP (.d (.bool x17)) p_move ?_
       refine bMeet 2 rfl ((fun (x18 : Bool) => [(61, .d (.bool x18))])) ((fun (x18 : Bool) => [])) (fun s => s) (fun x18 => ?_) (fun hj3 => ?_)
       ·refine oView (T' := [(61, .d (.bool x18))]) (H' := []) (h := ?_)
        refine oP (.d (.bool x18)) p_assign ?_
        refine oEnd ?_
        exact oRet (r0 := x18) (rv := .d (.bool x18)) (B := []) (vs := [.d (.bool x18)]) (σ := []) (hf := Try.func5) (hrs := rfl) (hres := .cons _ _ _ _ (.tmp 4 _ (by kernel_rfl)) .nil) (hnd := by decide)
       ·refine bSplit 59 (h1 := fun hc => ?_) (h2 := fun hc => ?_)
        ·refine bCall (caps := []) (v := (fun (r116 : Bool) => (.d (.bool r116) : V))) (H' := (fun (r116 : Bool) => ([] : List Blk))) [] _ (law34_sane_goes k) (ho := rfl) (hfn := Try.func8) (hb := rfl) (hconv := ConvRs.refl _ _) (hnd := by decide) (hBl := fun _ => (by kernel_rfl)) (hv := fun _ => (by kernel_rfl)) (hH' := fun _ => (by kernel_rfl)) (h := fun r116 => ?_)
         refine oP (.d (.bool r116)) (p_pick (b := true)) ?_
         refine oHead [61] [] (T' := [(61, .d (.bool r116))]) (H' := []) (hnd := by decide) (h := ?_)
         exact hj3 r116
        ·refine oNot (h := ?_)
         refine oP (.d (.bool false)) (p_pick (b := false)) ?_
         refine oHead [61] [] (T' := [(61, .d (.bool false))]) (H' := []) (hnd := by decide) (h := ?_)
         exact hj3 false
      ·refine bPickF 55 (fun c => F (c && (k13 == 1))) (h1 := fun hc => ?_) (h2 := fun hc => ?_)
       ·refine oP (.d (.int .i64 k13)) p_move ?_
        refine oP (.d (.bool (k13 == 1))) (p_int (k := .i64) (p := k13) (q := 1)) ?_
        refine oP (.d (.bool (k13 == 1))) (p_pick (b := true)) ?_
        refine oHead [58] [] (T' := [(58, .d (.bool (k13 == 1)))]) (H' := []) (hnd := by decide) (h := ?_)
        exact hj2 (k13 == 1)
       ·refine oNot (h := ?_)
        refine oNot (h := ?_)
        refine oP (.d (.bool false)) (p_pick (b := false)) ?_
        refine oHead [58] [] (T' := [(58, .d (.bool false))]) (H' := []) (hnd := by decide) (h := ?_)
        exact hj2 false
     ·refine bPickF 51 (fun c => F (c && (r134 == 10))) (h1 := fun hc => ?_) (h2 := fun hc => ?_)
      ·refine oP (.d (.int .i64 r134)) p_move ?_
       refine oP (.d (.bool (r134 == 10))) (p_int (k := .i64) (p := r134) (q := 10)) ?_
       refine oP (.d (.bool (r134 == 10))) (p_pick (b := true)) ?_
       refine oHead [8, 54] [] (T' := [(8, .d (.int .i64 k13)), (54, .d (.bool (r134 == 10)))]) (H' := []) (hnd := by decide) (h := ?_)
       exact hj1 (r134 == 10)
      ·refine oNot (h := ?_)
       refine oNot (h := ?_)
       refine oP (.d (.bool false)) (p_pick (b := false)) ?_
       refine oHead [8, 54] [] (T' := [(8, .d (.int .i64 k13)), (54, .d (.bool false))]) (H' := []) (hnd := by decide) (h := ?_)
       exact hj1 false
    ·refine oCondF (h := ?_)
     refine oSkip ?_
     refine oSR rfl ?_
     refine oQ (.agg [.d (.lit (List.map e_SPoint r112))]) (k_loadAgg 0 0 (hu := Try.underlying32) (hi := ty32)) ?_
     refine bCall (caps := []) (v := (uc fun (r136 : (List SPoint)) => (fun (r142 : Int) => (.tuple [.agg [.d (.lit (List.map e_SPoint r136))], .d (.int .i64 r142)] : V)))) (H' := (uc fun (r136 : (List SPoint)) => (fun (r142 : Int) => ([.box [.d (.lit (List.map e_SPoint r112))], .box [.d (.lit (List.map e_SPoint r113))]] : List Blk)))) [] _ (conversion_Inverse_goes k r112) (ho := rfl) (hfn := Try.func24) (hb := rfl) (hconv := ConvRs.refl _ _) (hnd := by decide) (hBl := fun _ => (by kernel_rfl)) (hv := fun _ => (by kernel_rfl)) (hH' := fun _ => (by kernel_rfl)) (h := fun r => ?_)
     obtain ⟨r136, r142⟩ := r
     refine bUc ?_
     refine oP (.tuple [.agg [.d (.lit (List.map e_SPoint r136))], .d (.int .i64 r142)]) p_move ?_
     refine oP (.agg [.d (.lit (List.map e_SPoint r136))]) k_extract ?_
     refine oP (.d (.int .i64 r142)) k_extract ?_
     refine oD (.ptr 2 0) (k_alloc (H' := [.box [.d (.lit (List.map e_SPoint r112))], .box [.d (.lit (List.map e_SPoint r113))], .box [.nilc]]) ty32) ?_
     refine oD (.undef) (k_store (vs := [.d (.lit (List.map e_SPoint r136))]) (H' := [.box [.d (.lit (List.map e_SPoint r112))], .box [.d (.lit (List.map e_SPoint r113))], .box [.d (.lit (List.map e_SPoint r136))]]) 2 0 (hi := ty32)) ?_
     refine oP (.d (.int .i64 r142)) p_assign ?_
     refine oEnd ?_
     refine oSR rfl ?_
     refine oP (.d (.int .i64 r142)) p_move ?_
     refine oP (.d (.bool (r142 == 0))) (p_int (k := .i64) (p := r142) (q := 0)) ?_
     refine oP (.d (.bool (r142 == 0))) p_move ?_
     refine bMeet 4 rfl ((fun (x19 : Bool) => [(73, .d (.bool x19))])) ((fun (x19 : Bool) => [])) (fun s => s) (fun x19 => ?_) (fun hj5 => ?_)
     ·refine oView (T' := [(73, .d (.bool x19))]) (H' := []) (h := ?_)
      refine oP (.d (.bool x19)) p_move ?_
      refine bMeet 2 rfl ((fun (x20 : Bool) => [(76, .d (.bool x20))])) ((fun (x20 : Bool) => [])) (fun s => s) (fun x20 => ?_) (fun hj4 => ?_)
      ·refine oView (T' := [(76, .d (.bool x20))]) (H' := []) (h := ?_)
       refine oP (.d (.bool x20)) p_assign ?_
       refine oEnd ?_
       exact oRet (r0 := x20) (rv := .d (.bool x20)) (B := []) (vs := [.d (.bool x20)]) (σ := []) (hf := Try.func5) (hrs := rfl) (hres := .cons _ _ _ _ (.tmp 4 _ (by kernel_rfl)) .nil) (hnd := by decide)
      ·refine bSplit 74 (h1 := fun hc => ?_) (h2 := fun hc => ?_)
       ·refine bCall (caps := []) (v := (fun (r119 : Bool) => (.d (.bool r119) : V))) (H' := (fun (r119 : Bool) => ([] : List Blk))) [] _ (law34_sane_goes k) (ho := rfl) (hfn := Try.func8) (hb := rfl) (hconv := ConvRs.refl _ _) (hnd := by decide) (hBl := fun _ => (by kernel_rfl)) (hv := fun _ => (by kernel_rfl)) (hH' := fun _ => (by kernel_rfl)) (h := fun r119 => ?_)
        refine oP (.d (.bool r119)) (p_pick (b := true)) ?_
        refine oHead [76] [] (T' := [(76, .d (.bool r119))]) (H' := []) (hnd := by decide) (h := ?_)
        exact hj4 r119
       ·refine oNot (h := ?_)
        refine oP (.d (.bool false)) (p_pick (b := false)) ?_
        refine oHead [76] [] (T' := [(76, .d (.bool false))]) (H' := []) (hnd := by decide) (h := ?_)
        exact hj4 false
     ·refine bSplit 69 (h1 := fun hc => ?_) (h2 := fun hc => ?_)
      ·refine oQ (.agg [.d (.lit (List.map e_SPoint r113))]) (k_loadAgg 1 0 (hu := Try.underlying32) (hi := ty32)) ?_
       refine oQ (.agg [.d (.lit (List.map e_SPoint r136))]) (k_loadAgg 2 0 (hu := Try.underlying32) (hi := ty32)) ?_
       refine bCall (caps := []) (v := (fun (r1110 : Bool) => (.d (.bool r1110) : V))) (H' := (fun (r1110 : Bool) => ([.box [.d (.lit (List.map e_SPoint r112))], .box [.d (.lit (List.map e_SPoint r113))], .box [.d (.lit (List.map e_SPoint r136))]] : List Blk))) [] _ (conversion_Same_goes k r113 r136) (ho := rfl) (hfn := Try.func25) (hb := rfl) (hconv := ConvRs.refl _ _) (hnd := by decide) (hBl := fun _ => (by kernel_rfl)) (hv := fun _ => (by kernel_rfl)) (hH' := fun _ => (by kernel_rfl)) (h := fun r1110 => ?_)
       refine oP (.d (.bool r1110)) (p_pick (b := true)) ?_
       refine oHead [73] [] (T' := [(73, .d (.bool r1110))]) (H' := []) (hnd := by decide) (h := ?_)
       exact hj5 r1110
      ·refine oNot (h := ?_)
       refine oNot (h := ?_)
       refine oNot (h := ?_)
       refine oP (.d (.bool false)) (p_pick (b := false)) ?_
       refine oHead [73] [] (T' := [(73, .d (.bool false))]) (H' := []) (hnd := by decide) (h := ?_)
       exact hj5 false
   ·refine bSplit 44 (h1 := fun hc => ?_) (h2 := fun hc => ?_)
    ·refine oNot (h := ?_)
     refine oNot (h := ?_)
     refine oP (.d (.bool true)) (p_pick (b := true)) ?_
     refine oHead [8, 9, 10, 11, 12, 47] [3, 4] (T' := [(8, .d (.int .i64 (IntKind.wrap .i64 (Int.tmod kind 3)))), (9, .ptr 0 0), (10, .d (.int .i64 r134)), (11, .ptr 1 0), (12, .d (.int .i64 r135)), (47, .d (.bool true))]) (H' := [.box [.d (.lit (List.map e_SPoint r112))], .box [.d (.lit (List.map e_SPoint r113))]]) (hnd := by decide) (h := ?_)
     exact hj6 ((IntKind.wrap .i64 (Int.tmod kind 3)), true)
    ·refine oP (.d (.int .i64 r135)) p_move ?_
     refine oP (.d (.bool (r135 != 0))) (p_int (k := .i64) (p := r135) (q := 0)) ?_
     refine oP (.d (.bool (r135 != 0))) (p_pick (b := false)) ?_
     refine oHead [8, 9, 10, 11, 12, 47] [3, 4] (T' := [(8, .d (.int .i64 (IntKind.wrap .i64 (Int.tmod kind 3)))), (9, .ptr 0 0), (10, .d (.int .i64 r134)), (11, .ptr 1 0), (12, .d (.int .i64 r135)), (47, .d (.bool (r135 != 0)))]) (H' := [.box [.d (.lit (List.map e_SPoint r112))], .box [.d (.lit (List.map e_SPoint r113))]]) (hnd := by decide) (h := ?_)
     exact hj6 ((IntKind.wrap .i64 (Int.tmod kind 3)), (r135 != 0))

end Go.VM
