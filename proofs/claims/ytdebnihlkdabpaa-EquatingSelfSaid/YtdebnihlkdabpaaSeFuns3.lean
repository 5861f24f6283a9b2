/- Plain functions that answer as the program's functions do, and the proof that they do. -/
import Derived.Test.YtdebnihlkdabpaaProg
import Derived.KernelRfl
import Derived.Test.YtdebnihlkdabpaaEngYM
import Derived.Test.YtdebnihlkdabpaaSeFacts
import Derived.Test.YtdebnihlkdabpaaSeFuns0
import Derived.Test.YtdebnihlkdabpaaSeFuns1
import Derived.Test.YtdebnihlkdabpaaSeFuns2
namespace Go.VM
open Go.Proofs
set_option linter.unusedVariables false
set_option linter.unusedSimpArgs false
set_option maxRecDepth 100000
/-- awardingbody/equating.Percentile -/
def equating_Percentile_b1 (k : Nat) (x0 : (List Int)) (y0 : (List Int)) (r112 : Int) (r113 : Int) (again : Int × Int × (List SPoint) → Option (((List SPoint)) ⊕ ((List SPoint) × Int))) : Int × Int × (List SPoint) → Option (((List SPoint)) ⊕ ((List SPoint) × Int)) := uc fun i9 => uc fun k19 => fun xs6 => blet ((decide (i9 ≤ ((List.length x0) : Int))) && (decide (k19 ≤ ((List.length y0) : Int)))) fun x40 => bif x40 then Option.bind (distribution_Below k x0 i9) (fun r114 => Option.bind (distribution_Below k y0 k19) (fun r115 => Option.bind (equating_within k i9 0 1) (uc fun r138 => uc fun r1124 => fun r1220 => Option.bind (equating_within k k19 0 1) (uc fun r139 => uc fun r1125 => fun r1221 => Option.bind (bif (decide ((IntKind.wrap .i64 (r114 * r113)) < (IntKind.wrap .i64 (r115 * r112)))) then gidx y0 (IntKind.wrap .i64 (k19 - 1)) fun e1 => Option.bind (distribution_Below k y0 (IntKind.wrap .i64 (k19 - 1))) (fun r118 => Option.bind (equating_within k (IntKind.wrap .i64 (k19 - 1)) (IntKind.wrap .i64 ((IntKind.wrap .i64 (r114 * r113)) - (IntKind.wrap .i64 (r118 * r112)))) (IntKind.wrap .i64 (e1 * r112))) (uc fun r14 => uc fun r119 => fun r124 => some ((IntKind.wrap .i64 (i9 + 1)), k19, r1220, r124, r138, r1124, r14, r119))) else bif (decide ((IntKind.wrap .i64 (r115 * r112)) < (IntKind.wrap .i64 (r114 * r113)))) then gidx x0 (IntKind.wrap .i64 (i9 - 1)) fun e11 => Option.bind (distribution_Below k x0 (IntKind.wrap .i64 (i9 - 1))) (fun r1110 => Option.bind (equating_within k (IntKind.wrap .i64 (i9 - 1)) (IntKind.wrap .i64 ((IntKind.wrap .i64 (r115 * r112)) - (IntKind.wrap .i64 (r1110 * r113)))) (IntKind.wrap .i64 (e11 * r113))) (uc fun r15 => uc fun r1111 => fun r125 => some (i9, (IntKind.wrap .i64 (k19 + 1)), r125, r1221, r15, r1111, r139, r1125))) else some ((IntKind.wrap .i64 (i9 + 1)), (IntKind.wrap .i64 (k19 + 1)), r1220, r1221, r138, r1124, r139, r1125) : Option (Int × Int × Int × Int × Int × Int × Int × Int)) (uc fun i12 => uc fun k112 => uc fun e18 => uc fun f6 => uc fun x41 => uc fun x42 => uc fun x43 => fun x44 => blet ((e18 != 0) || (f6 != 0)) fun x45 => bif x45 then some (Sum.inr ([], 6)) else gcap (List.length (xs6 ++ ([(⟨x41, x42, x43, x44⟩ : SPoint)] : List SPoint))) 32 (again (i12, k112, (xs6 ++ ([(⟨x41, x42, x43, x44⟩ : SPoint)] : List SPoint))))))))) else some (Sum.inl xs6)
def equating_Percentile (k : Nat) (x0 : (List Int)) (y0 : (List Int)) : Option ((List SPoint) × Int) := Option.bind (distribution_Valid k x0) (fun r129 => Option.bind (bif (!r129) then some true else Option.bind (distribution_Valid k y0) (fun r1222 => some (!r1222)) : Option (Bool)) (fun x14 => bif x14 then some ([], 1) else Option.bind (slices_Contains_int k x0 0) (fun r1114 => Option.bind (bif r1114 then some true else Option.bind (slices_Contains_int k y0 0) (fun r1126 => some r1126) : Option (Bool)) (fun x15 => bif x15 then some ([], 10) else Option.bind (distribution_Count k x0) (fun r112 => Option.bind (distribution_Count k y0) (fun r113 => Option.bind (gloop (equating_Percentile_b1 k x0 y0 r112 r113) k (0, 0, ([] : List SPoint)) : Option (((List SPoint)) ⊕ ((List SPoint) × Int))) (Sum.elim (fun xs5 => Option.bind (conversion_Normal k xs5) (uc fun r1215 => fun r133 => some (r1215, r133))) (fun r => some r))))))))
def equating_Percentile_E (x0 : (List Int)) (y0 : (List Int)) : (List SPoint) × Int → V × List Blk := uc fun r18 => fun r19 => (.tuple [.agg [.d (.lit (List.map e_SPoint r18))], .d (.int .i64 r19)], [])
theorem equating_Percentile_goes (k : Nat) (x0 : (List Int)) (y0 : (List Int)) : RunsO Try.prog 11 [.agg [.d (.lit (List.map e_i64 x0))], .agg [.d (.lit (List.map e_i64 y0))]] [] (equating_Percentile_E x0 y0) (equating_Percentile k x0 y0) := by
  refine RunsO.of_goes (N := 150) (m := 0) (T := [(0, .agg [.d (.lit (List.map e_i64 x0))]), (1, .agg [.d (.lit (List.map e_i64 y0))])]) Try.func11 rfl rfl (h := ?_)
  unfold equating_Percentile
  refine bStart ?_
  refine oSR rfl ?_
  refine oD (.ptr 0 0) (k_box (H' := [.box [.d (.lit (List.map e_i64 x0))]]) (cells := [.d (.lit (List.map e_i64 x0))])) ?_
  refine oD (.ptr 1 0) (k_box (H' := [.box [.d (.lit (List.map e_i64 x0))], .box [.d (.lit (List.map e_i64 y0))]]) (cells := [.d (.lit (List.map e_i64 y0))])) ?_
  refine oD (.ptr 2 0) (k_alloc (H' := [.box [.d (.lit (List.map e_i64 x0))], .box [.d (.lit (List.map e_i64 y0))], .box [.nilc]]) ty32) ?_
  refine oP (.d (.int .i64 0)) p_assign ?_
  refine oEnd ?_
  refine oSeq ?_
  refine oSR rfl ?_
  refine oQ (.agg [.d (.lit (List.map e_i64 x0))]) (k_loadAgg 0 0 (hu := Try.underlying28) (hi := ty28)) ?_
  refine bCall (caps := []) (v := (fun (r129 : Bool) => (.d (.bool r129) : V))) (H' := (fun (r129 : Bool) => ([.box [.d (.lit (List.map e_i64 x0))], .box [.d (.lit (List.map e_i64 y0))], .box [.nilc]] : List Blk))) [] _ (distribution_Valid_goes k x0) (ho := rfl) (hfn := Try.func30) (hb := rfl) (hconv := ConvRs.refl _ _) (hnd := by decide) (hBl := fun _ => (by kernel_rfl)) (hv := fun _ => (by kernel_rfl)) (hH' := fun _ => (by kernel_rfl)) (h := fun r129 => ?_)
  refine oP (.d (.bool (!r129))) (p_not (p := r129)) ?_
  refine oP (.d (.bool (!r129))) p_move ?_
  refine bMeet 4 rfl ((fun (x14 : Bool) => [(2, .ptr 0 0), (3, .ptr 1 0), (4, .ptr 2 0), (24, .d (.bool x14))])) ((fun (x14 : Bool) => [.box [.d (.lit (List.map e_i64 x0))], .box [.d (.lit (List.map e_i64 y0))], .box [.nilc]])) (fun s => s) (fun x14 => ?_) (fun hj13 => ?_)
  ·refine oView (T' := [(2, .ptr 0 0), (3, .ptr 1 0), (4, .ptr 2 0), (24, .d (.bool x14))]) (H' := [.box [.d (.lit (List.map e_i64 x0))], .box [.d (.lit (List.map e_i64 y0))], .box [.nilc]]) (h := ?_)
   refine oEnd ?_
   refine bSplit 24 (h1 := fun hc => ?_) (h2 := fun hc => ?_)
   ·refine oCondT (h := ?_)
    refine oSR rfl ?_
    refine oP (.agg [.nilc]) (p_build bld32) ?_
    refine oD (.undef) (k_store (vs := [.nilc]) (H' := [.box [.d (.lit (List.map e_i64 x0))], .box [.d (.lit (List.map e_i64 y0))], .box [.nilc]]) 2 0 (hi := ty32)) ?_
    refine oP (.d (.int .i64 1)) p_assign ?_
    refine oEnd ?_
    refine oConvB 2 (cells := [.nilc]) (cells' := [.d (.lit (List.map e_SPoint []))]) (hc := .cons _ _ _ _ .nil .nil) (h := ?_)
    refine oView (H' := [.box [.d (.lit (List.map e_i64 x0))], .box [.d (.lit (List.map e_i64 y0))], .box [.d (.lit (List.map e_SPoint []))]]) rfl (h := ?_)
    exact oRet (r0 := ([], 1)) (rv := .tuple [.agg [.d (.lit (List.map e_SPoint []))], .d (.int .i64 1)]) (B := []) (vs := [.agg [.d (.lit (List.map e_SPoint []))], .d (.int .i64 1)]) (σ := []) (hf := Try.func11) (hrs := rfl) (hres := .cons _ _ _ _ (.agg 4 32 2 0 [.d (.lit (List.map e_SPoint []))] [.d (.lit (List.map e_SPoint []))] _ _ _ _ (by kernel_rfl) (by kernel_rfl) Try.underlying32 (by kernel_rfl) ty32 (by kernel_rfl) (by kernel_rfl)) (.cons _ _ _ _ (.tmp 5 _ (by kernel_rfl)) .nil)) (hnd := by decide)
   ·refine oCondF (h := ?_)
    refine oSkip ?_
    refine oSeq ?_
    refine oSR rfl ?_
    refine oP (.ptr 0 0) (k_fieldAddr 0 0 (hu := Try.underlying28) (hf := rfl) (hi := ty22)) ?_
    refine oQ (.d (.lit (List.map e_i64 x0))) (k_load 0 0 (hu := Try.underlying22)) ?_
    refine bCall (caps := []) (v := (fun (r1114 : Bool) => (.d (.bool r1114) : V))) (H' := (fun (r1114 : Bool) => ([.box [.d (.lit (List.map e_i64 x0))], .box [.d (.lit (List.map e_i64 y0))], .box [.nilc]] : List Blk))) [] _ (slices_Contains_int_goes k x0 0) (ho := rfl) (hfn := Try.func31) (hb := rfl) (hconv := ConvRs.refl _ _) (hnd := by decide) (hBl := fun _ => (by kernel_rfl)) (hv := fun _ => (by kernel_rfl)) (hH' := fun _ => (by kernel_rfl)) (h := fun r1114 => ?_)
    refine oP (.d (.bool r1114)) p_move ?_
    refine bMeet 4 rfl ((fun (x15 : Bool) => [(2, .ptr 0 0), (3, .ptr 1 0), (4, .ptr 2 0), (33, .d (.bool x15))])) ((fun (x15 : Bool) => [.box [.d (.lit (List.map e_i64 x0))], .box [.d (.lit (List.map e_i64 y0))], .box [.nilc]])) (fun s => s) (fun x15 => ?_) (fun hj12 => ?_)
    ·refine oView (T' := [(2, .ptr 0 0), (3, .ptr 1 0), (4, .ptr 2 0), (33, .d (.bool x15))]) (H' := [.box [.d (.lit (List.map e_i64 x0))], .box [.d (.lit (List.map e_i64 y0))], .box [.nilc]]) (h := ?_)
     refine oEnd ?_
     refine bSplit 33 (h1 := fun hc => ?_) (h2 := fun hc => ?_)
     ·refine oCondT (h := ?_)
      refine oSR rfl ?_
      refine oP (.agg [.nilc]) (p_build bld32) ?_
      refine oD (.undef) (k_store (vs := [.nilc]) (H' := [.box [.d (.lit (List.map e_i64 x0))], .box [.d (.lit (List.map e_i64 y0))], .box [.nilc]]) 2 0 (hi := ty32)) ?_
      refine oP (.d (.int .i64 10)) p_assign ?_
      refine oEnd ?_
      refine oConvB 2 (cells := [.nilc]) (cells' := [.d (.lit (List.map e_SPoint []))]) (hc := .cons _ _ _ _ .nil .nil) (h := ?_)
      refine oView (H' := [.box [.d (.lit (List.map e_i64 x0))], .box [.d (.lit (List.map e_i64 y0))], .box [.d (.lit (List.map e_SPoint []))]]) rfl (h := ?_)
      exact oRet (r0 := ([], 10)) (rv := .tuple [.agg [.d (.lit (List.map e_SPoint []))], .d (.int .i64 10)]) (B := []) (vs := [.agg [.d (.lit (List.map e_SPoint []))], .d (.int .i64 10)]) (σ := []) (hf := Try.func11) (hrs := rfl) (hres := .cons _ _ _ _ (.agg 4 32 2 0 [.d (.lit (List.map e_SPoint []))] [.d (.lit (List.map e_SPoint []))] _ _ _ _ (by kernel_rfl) (by kernel_rfl) Try.underlying32 (by kernel_rfl) ty32 (by kernel_rfl) (by kernel_rfl)) (.cons _ _ _ _ (.tmp 5 _ (by kernel_rfl)) .nil)) (hnd := by decide)
     ·refine oCondF (h := ?_)
      refine oSkip ?_
      refine oSeq ?_
      refine oDraw [(0, 6), (1, 6), (2, 6)] rfl ?_
      refine aQ 0 [0] (.agg [.d (.lit (List.map e_i64 x0))]) rfl (k_loadAgg 0 0 (hu := Try.underlying28) (hi := ty28)) ?_
      refine aQ 2 [1] (.agg [.d (.lit (List.map e_i64 y0))]) rfl (k_loadAgg 1 0 (hu := Try.underlying28) (hi := ty28)) ?_
      refine dCall (i := 1) (caps := []) (v := (fun (r112 : Int) => (.d (.int .i64 r112) : V))) (H' := (fun (r112 : Int) => ([.box [.d (.lit (List.map e_i64 x0))], .box [.d (.lit (List.map e_i64 y0))], .box [.nilc]] : List Blk))) [] _ (distribution_Count_goes k x0) rfl (ho := rfl) (hfn := Try.func32) (hb := rfl) (hconv := ConvRs.refl _ _) (hnd := by decide) (hBl := fun _ => (by kernel_rfl)) (hv := fun _ => (by kernel_rfl)) (hH' := fun _ => (by kernel_rfl)) (h := fun r112 => ?_)
      refine dCall (i := 3) (caps := []) (v := (fun (r113 : Int) => (.d (.int .i64 r113) : V))) (H' := (fun (r113 : Int) => ([.box [.d (.lit (List.map e_i64 x0))], .box [.d (.lit (List.map e_i64 y0))], .box [.nilc]] : List Blk))) [] _ (distribution_Count_goes k y0) rfl (ho := rfl) (hfn := Try.func32) (hb := rfl) (hconv := ConvRs.refl _ _) (hnd := by decide) (hBl := fun _ => (by kernel_rfl)) (hv := fun _ => (by kernel_rfl)) (hH' := fun _ => (by kernel_rfl)) (h := fun r113 => ?_)
      refine aP 4 (.d (.int .i64 r112)) rfl p_assign ?_
      refine aP 5 (.d (.int .i64 r113)) rfl p_assign ?_
      refine aDone (h := ?_)
      refine oSR rfl ?_
      refine oD (.ptr 3 0) (k_alloc (H' := [.box [.d (.lit (List.map e_i64 x0))], .box [.d (.lit (List.map e_i64 y0))], .box [.nilc], .box [.nilc]]) ty32) ?_
      refine oEnd ?_
      refine oSeq ?_
      refine oSR rfl ?_
      refine oP (.d (.int .i64 0)) p_assign ?_
      refine oP (.d (.int .i64 0)) p_assign ?_
      refine oEnd ?_
      refine bJoin ((fun (xs5 : (List SPoint)) => [(4, .ptr 0 0), (8, .ptr 1 0)])) ((fun (xs5 : (List SPoint)) => [.box [.nilc], .box [.ref 2 (List.length xs5) 0 (List.length xs5)], .sl 4 (List.map e_SPoint xs5) false])) Sum.inl (fun xs5 => ?_) (fun hj6 => ?_)
      ·refine bInl ?_
       refine oView (T' := [(4, .ptr 0 0), (8, .ptr 1 0)]) (H' := [.box [.nilc], .box [.ref 2 (List.length xs5) 0 (List.length xs5)], .sl 4 (List.map e_SPoint xs5) false]) (h := ?_)
       refine oSR rfl ?_
       refine oQ (.agg [.ref 2 (List.length xs5) 0 (List.length xs5)]) (k_loadAgg 1 0 (hu := Try.underlying32) (hi := ty32)) ?_
       refine oFreeze 2 (esz := 4) (xs := List.map e_SPoint xs5) (h := ?_)
       refine oView (H' := [.box [.nilc], .box [.ref 2 (List.length xs5) 0 (List.length xs5)], .sl 4 (List.map e_SPoint xs5) true]) rfl (h := ?_)
       refine bCall (caps := []) (v := (uc fun (r1215 : (List SPoint)) => (fun (r133 : Int) => (.tuple [.agg [.d (.lit (List.map e_SPoint r1215))], .d (.int .i64 r133)] : V)))) (H' := (uc fun (r1215 : (List SPoint)) => (fun (r133 : Int) => ([.box [.nilc], .box [.ref 2 (List.length xs5) 0 (List.length xs5)], .sl 4 (List.map e_SPoint xs5) true] : List Blk)))) [] _ (conversion_Normal_goes k xs5) (ho := rfl) (hfn := Try.func35) (hb := rfl) (hconv := convList (vs0 := [.agg [.ref 2 (List.length xs5) 0 (List.length xs5)]]) (vs := [.agg [.d (.lit (List.map e_SPoint xs5))]]) (p := .cons _ _ _ _ (.agg _ _ (.cons _ _ _ _ (k_lit (enc := e_SPoint) (sz := 4) 2 xs5) .nil)) .nil)) (hnd := by decide) (hBl := fun _ => (by kernel_rfl)) (hv := fun _ => (by kernel_rfl)) (hH' := fun _ => (by kernel_rfl)) (h := fun r => ?_)
       obtain ⟨r1215, r133⟩ := r
       refine bUc ?_
       refine oP (.agg [.d (.lit (List.map e_SPoint r1215))]) k_extract ?_
       refine oP (.d (.int .i64 r133)) k_extract ?_
       refine oD (.undef) (k_store (vs := [.d (.lit (List.map e_SPoint r1215))]) (H' := [.box [.d (.lit (List.map e_SPoint r1215))], .box [.ref 2 (List.length xs5) 0 (List.length xs5)], .sl 4 (List.map e_SPoint xs5) true]) 0 0 (hi := ty32)) ?_
       refine oP (.d (.int .i64 r133)) p_assign ?_
       refine oEnd ?_
       exact oRet (r0 := (r1215, r133)) (rv := .tuple [.agg [.d (.lit (List.map e_SPoint r1215))], .d (.int .i64 r133)]) (B := []) (vs := [.agg [.d (.lit (List.map e_SPoint r1215))], .d (.int .i64 r133)]) (σ := []) (hf := Try.func11) (hrs := rfl) (hres := .cons _ _ _ _ (.agg 4 32 0 0 [.d (.lit (List.map e_SPoint r1215))] [.d (.lit (List.map e_SPoint r1215))] _ _ _ _ (by kernel_rfl) (by kernel_rfl) Try.underlying32 (by kernel_rfl) ty32 (by kernel_rfl) (by kernel_rfl)) (.cons _ _ _ _ (.tmp 5 _ (by kernel_rfl)) .nil)) (hnd := by decide)
      ·refine oBlock ?_
       refine oLoop ?_
       refine oVirtB (esz := 4) 3 0 (cells := [.nilc]) (h := ?_)
       refine oView (H' := [.box [.d (.lit (List.map e_i64 x0))], .box [.d (.lit (List.map e_i64 y0))], .box [.nilc], .box [.ref 4 (List.length ([] : List SPoint)) 0 (List.length ([] : List SPoint))], .sl 4 (List.map e_SPoint ([] : List SPoint)) false]) rfl (h := ?_)
       refine oHead [2, 3, 4, 6, 7, 8, 9, 10] [0, 1, 2, 3, 4] (T' := [(2, .ptr 0 0), (3, .ptr 1 0), (4, .ptr 2 0), (6, .d (.int .i64 r112)), (7, .d (.int .i64 r113)), (8, .ptr 3 0), (9, .d (.int .i64 0)), (10, .d (.int .i64 0))]) (H' := [.box [.d (.lit (List.map e_i64 x0))], .box [.d (.lit (List.map e_i64 y0))], .box [.nilc], .box [.ref 4 (List.length ([] : List SPoint)) 0 (List.length ([] : List SPoint))], .sl 4 (List.map e_SPoint ([] : List SPoint)) false]) (hnd := by decide) (h := ?_)
       refine bLoop (body := equating_Percentile_b1 k x0 y0 r112 r113) ((uc fun (i9 : Int) => (uc fun (k19 : Int) => (fun (xs6 : (List SPoint)) => [(2, .ptr 0 0), (3, .ptr 1 0), (4, .ptr 2 0), (6, .d (.int .i64 r112)), (7, .d (.int .i64 r113)), (8, .ptr 3 0), (9, .d (.int .i64 i9)), (10, .d (.int .i64 k19))])))) ((uc fun (i9 : Int) => (uc fun (k19 : Int) => (fun (xs6 : (List SPoint)) => [.box [.d (.lit (List.map e_i64 x0))], .box [.d (.lit (List.map e_i64 y0))], .box [.nilc], .box [.ref 4 (List.length xs6) 0 (List.length xs6)], .sl 4 (List.map e_SPoint xs6) false])))) (fun again hag1 s => ?_) k (0, 0, ([] : List SPoint))
       ·unfold equating_Percentile_b1
        obtain ⟨i9, k19, xs6⟩ := s
        refine bUc ?_
        refine bUc ?_
        refine oView (T' := [(2, .ptr 0 0), (3, .ptr 1 0), (4, .ptr 2 0), (6, .d (.int .i64 r112)), (7, .d (.int .i64 r113)), (8, .ptr 3 0), (9, .d (.int .i64 i9)), (10, .d (.int .i64 k19))]) (H' := [.box [.d (.lit (List.map e_i64 x0))], .box [.d (.lit (List.map e_i64 y0))], .box [.nilc], .box [.ref 4 (List.length xs6) 0 (List.length xs6)], .sl 4 (List.map e_SPoint xs6) false]) (h := ?_)
        refine oSeq ?_
        refine oSR rfl ?_
        refine oP (.d (.int .i64 i9)) p_move ?_
        refine oP (.ptr 0 0) (k_fieldAddr 0 0 (hu := Try.underlying28) (hf := rfl) (hi := ty22)) ?_
        refine oQ (.d (.lit (List.map e_i64 x0))) (k_load 0 0 (hu := Try.underlying22)) ?_
        refine oP (.d (.int .i64 ((List.length x0) : Int))) (k_lenLit (enc := e_i64) x0 (hu := Try.underlying22)) ?_
        refine oP (.d (.bool (decide (i9 ≤ ((List.length x0) : Int))))) (p_int (k := .i64) (p := i9) (q := ((List.length x0) : Int))) ?_
        refine oP (.d (.bool (decide (i9 ≤ ((List.length x0) : Int))))) p_move ?_
        refine bMeetF (H' := [.box [.d (.lit (List.map e_i64 x0))], .box [.d (.lit (List.map e_i64 y0))], .box [.nilc], .box [.ref 4 (List.length xs6) 0 (List.length xs6)], .sl 4 (List.map e_SPoint xs6) false]) 6 rfl ((fun (x40 : Bool) => [(2, .ptr 0 0), (3, .ptr 1 0), (4, .ptr 2 0), (6, .d (.int .i64 r112)), (7, .d (.int .i64 r113)), (8, .ptr 3 0), (9, .d (.int .i64 i9)), (10, .d (.int .i64 k19)), (50, .d (.bool x40))])) (fun x40 => ?_) (fun F hj9 => ?_)
        ·refine oView (T' := [(2, .ptr 0 0), (3, .ptr 1 0), (4, .ptr 2 0), (6, .d (.int .i64 r112)), (7, .d (.int .i64 r113)), (8, .ptr 3 0), (9, .d (.int .i64 i9)), (10, .d (.int .i64 k19)), (50, .d (.bool x40))]) (H' := [.box [.d (.lit (List.map e_i64 x0))], .box [.d (.lit (List.map e_i64 y0))], .box [.nilc], .box [.ref 4 (List.length xs6) 0 (List.length xs6)], .sl 4 (List.map e_SPoint xs6) false]) (h := ?_)
         refine oEnd ?_
         refine bSplit 50 (h1 := fun hc => ?_) (h2 := fun hc => ?_)
         ·refine oCondT (h := ?_)
          refine oSkip ?_
          refine oBlock ?_
          refine oSeq ?_
          refine oDraw [(0, 12), (1, 12), (2, 12), (3, 12), (4, 12)] rfl ?_
          refine aQ 0 [0] (.agg [.d (.lit (List.map e_i64 x0))]) rfl (k_loadAgg 0 0 (hu := Try.underlying28) (hi := ty28)) ?_
          refine aP 1 (.d (.int .i64 i9)) rfl p_move ?_
          refine aP 3 (.d (.int .i64 r113)) rfl p_move ?_
          refine aQ 5 [1] (.agg [.d (.lit (List.map e_i64 y0))]) rfl (k_loadAgg 1 0 (hu := Try.underlying28) (hi := ty28)) ?_
          refine aP 6 (.d (.int .i64 k19)) rfl p_move ?_
          refine aP 8 (.d (.int .i64 r112)) rfl p_move ?_
          refine dCall (i := 2) (caps := []) (v := (fun (r114 : Int) => (.d (.int .i64 r114) : V))) (H' := (fun (r114 : Int) => ([.box [.d (.lit (List.map e_i64 x0))], .box [.d (.lit (List.map e_i64 y0))], .box [.nilc], .box [.ref 4 (List.length xs6) 0 (List.length xs6)], .sl 4 (List.map e_SPoint xs6) false] : List Blk))) [] _ (distribution_Below_goes k x0 i9) rfl (ho := rfl) (hfn := Try.func33) (hb := rfl) (hconv := ConvRs.refl _ _) (hnd := by decide) (hBl := fun _ => (by kernel_rfl)) (hv := fun _ => (by kernel_rfl)) (hH' := fun _ => (by kernel_rfl)) (h := fun r114 => ?_)
          refine aP 4 (.d (.int .i64 (IntKind.wrap .i64 (r114 * r113)))) rfl (p_int (k := .i64) (p := r114) (q := r113)) ?_
          refine dCall (i := 7) (caps := []) (v := (fun (r115 : Int) => (.d (.int .i64 r115) : V))) (H' := (fun (r115 : Int) => ([.box [.d (.lit (List.map e_i64 x0))], .box [.d (.lit (List.map e_i64 y0))], .box [.nilc], .box [.ref 4 (List.length xs6) 0 (List.length xs6)], .sl 4 (List.map e_SPoint xs6) false] : List Blk))) [] _ (distribution_Below_goes k y0 k19) rfl (ho := rfl) (hfn := Try.func33) (hb := rfl) (hconv := ConvRs.refl _ _) (hnd := by decide) (hBl := fun _ => (by kernel_rfl)) (hv := fun _ => (by kernel_rfl)) (hH' := fun _ => (by kernel_rfl)) (h := fun r115 => ?_)
          refine aP 9 (.d (.int .i64 (IntKind.wrap .i64 (r115 * r112)))) rfl (p_int (k := .i64) (p := r115) (q := r112)) ?_
          refine aP 10 (.d (.int .i64 (IntKind.wrap .i64 (r114 * r113)))) rfl p_assign ?_
          refine aP 11 (.d (.int .i64 (IntKind.wrap .i64 (r115 * r112)))) rfl p_assign ?_
          refine aDone (h := ?_)
          refine oSR rfl ?_
          refine oP (.d (.int .i64 i9)) p_move ?_
          refine bCall (caps := []) (v := (uc fun (r138 : Int) => (uc fun (r1124 : Int) => (fun (r1220 : Int) => (.tuple [.agg [.d (.int .i64 r138), .d (.int .i64 r1124)], .d (.int .i64 r1220)] : V))))) (H' := (uc fun (r138 : Int) => (uc fun (r1124 : Int) => (fun (r1220 : Int) => ([.box [.d (.lit (List.map e_i64 x0))], .box [.d (.lit (List.map e_i64 y0))], .box [.nilc], .box [.ref 4 (List.length xs6) 0 (List.length xs6)], .sl 4 (List.map e_SPoint xs6) false] : List Blk))))) [] _ (equating_within_goes k i9 0 1) (ho := rfl) (hfn := Try.func34) (hb := rfl) (hconv := ConvRs.refl _ _) (hnd := by decide) (hBl := fun _ => (by kernel_rfl)) (hv := fun _ => (by kernel_rfl)) (hH' := fun _ => (by kernel_rfl)) (h := fun r => ?_)
          obtain ⟨r138, r1124, r1220⟩ := r
          refine bUc ?_
          refine bUc ?_
          refine oP (.tuple [.agg [.d (.int .i64 r138), .d (.int .i64 r1124)], .d (.int .i64 r1220)]) p_move ?_
          refine oP (.agg [.d (.int .i64 r138), .d (.int .i64 r1124)]) k_extract ?_
          refine oP (.d (.int .i64 r1220)) k_extract ?_
          refine oD (.ptr 5 0) (k_alloc (H' := [.box [.d (.lit (List.map e_i64 x0))], .box [.d (.lit (List.map e_i64 y0))], .box [.nilc], .box [.ref 4 (List.length xs6) 0 (List.length xs6)], .sl 4 (List.map e_SPoint xs6) false, .box [.d (.int .i64 0), .d (.int .i64 0)]]) ty38) ?_
          refine oD (.undef) (k_store (vs := [.d (.int .i64 r138), .d (.int .i64 r1124)]) (H' := [.box [.d (.lit (List.map e_i64 x0))], .box [.d (.lit (List.map e_i64 y0))], .box [.nilc], .box [.ref 4 (List.length xs6) 0 (List.length xs6)], .sl 4 (List.map e_SPoint xs6) false, .box [.d (.int .i64 r138), .d (.int .i64 r1124)]]) 5 0 (hi := ty38)) ?_
          refine oP (.d (.int .i64 r1220)) p_assign ?_
          refine oEnd ?_
          refine oSR rfl ?_
          refine oP (.d (.int .i64 k19)) p_move ?_
          refine bCall (caps := []) (v := (uc fun (r139 : Int) => (uc fun (r1125 : Int) => (fun (r1221 : Int) => (.tuple [.agg [.d (.int .i64 r139), .d (.int .i64 r1125)], .d (.int .i64 r1221)] : V))))) (H' := (uc fun (r139 : Int) => (uc fun (r1125 : Int) => (fun (r1221 : Int) => ([.box [.d (.lit (List.map e_i64 x0))], .box [.d (.lit (List.map e_i64 y0))], .box [.nilc], .box [.ref 4 (List.length xs6) 0 (List.length xs6)], .sl 4 (List.map e_SPoint xs6) false, .box [.d (.int .i64 r138), .d (.int .i64 r1124)]] : List Blk))))) [] _ (equating_within_goes k k19 0 1) (ho := rfl) (hfn := Try.func34) (hb := rfl) (hconv := ConvRs.refl _ _) (hnd := by decide) (hBl := fun _ => (by kernel_rfl)) (hv := fun _ => (by kernel_rfl)) (hH' := fun _ => (by kernel_rfl)) (h := fun r => ?_)
          obtain ⟨r139, r1125, r1221⟩ := r
          refine bUc ?_
          refine bUc ?_
          refine oP (.tuple [.agg [.d (.int .i64 r139), .d (.int .i64 r1125)], .d (.int .i64 r1221)]) p_move ?_
          refine oP (.agg [.d (.int .i64 r139), .d (.int .i64 r1125)]) k_extract ?_
          refine oP (.d (.int .i64 r1221)) k_extract ?_
          refine oD (.ptr 6 0) (k_alloc (H' := [.box [.d (.lit (List.map e_i64 x0))], .box [.d (.lit (List.map e_i64 y0))], .box [.nilc], .box [.ref 4 (List.length xs6) 0 (List.length xs6)], .sl 4 (List.map e_SPoint xs6) false, .box [.d (.int .i64 r138), .d (.int .i64 r1124)], .box [.d (.int .i64 0), .d (.int .i64 0)]]) ty38) ?_
          refine oD (.undef) (k_store (vs := [.d (.int .i64 r139), .d (.int .i64 r1125)]) (H' := [.box [.d (.lit (List.map e_i64 x0))], .box [.d (.lit (List.map e_i64 y0))], .box [.nilc], .box [.ref 4 (List.length xs6) 0 (List.length xs6)], .sl 4 (List.map e_SPoint xs6) false, .box [.d (.int .i64 r138), .d (.int .i64 r1124)], .box [.d (.int .i64 r139), .d (.int .i64 r1125)]]) 6 0 (hi := ty38)) ?_
          refine oP (.d (.int .i64 r1221)) p_assign ?_
          refine oEnd ?_
          refine oSeq ?_
          refine bJoin ((uc fun (i12 : Int) => (uc fun (k112 : Int) => (uc fun (e18 : Int) => (uc fun (f6 : Int) => (uc fun (x41 : Int) => (uc fun (x42 : Int) => (uc fun (x43 : Int) => (fun (x44 : Int) => [(2, .ptr 0 0), (3, .ptr 1 0), (4, .ptr 2 0), (6, .d (.int .i64 r112)), (7, .d (.int .i64 r113)), (8, .ptr 3 0), (9, .d (.int .i64 i12)), (10, .d (.int .i64 k112)), (13, .ptr 4 0), (14, .d (.int .i64 e18)), (15, .ptr 5 0), (16, .d (.int .i64 f6))]))))))))) ((uc fun (i12 : Int) => (uc fun (k112 : Int) => (uc fun (e18 : Int) => (uc fun (f6 : Int) => (uc fun (x41 : Int) => (uc fun (x42 : Int) => (uc fun (x43 : Int) => (fun (x44 : Int) => [.box [.d (.lit (List.map e_i64 x0))], .box [.d (.lit (List.map e_i64 y0))], .box [.nilc], .box [.ref 6 (List.length xs6) 0 (List.length xs6)], .box [.d (.int .i64 x41), .d (.int .i64 x42)], .box [.d (.int .i64 x43), .d (.int .i64 x44)], .sl 4 (List.map e_SPoint xs6) false]))))))))) (fun s => s) (fun s => ?_) (fun hj10 => ?_)
          ·obtain ⟨i12, k112, e18, f6, x41, x42, x43, x44⟩ := s
           refine bUc ?_
           refine bUc ?_
           refine bUc ?_
           refine bUc ?_
           refine bUc ?_
           refine bUc ?_
           refine bUc ?_
           refine oView (T' := [(2, .ptr 0 0), (3, .ptr 1 0), (4, .ptr 2 0), (6, .d (.int .i64 r112)), (7, .d (.int .i64 r113)), (8, .ptr 3 0), (9, .d (.int .i64 i12)), (10, .d (.int .i64 k112)), (13, .ptr 4 0), (14, .d (.int .i64 e18)), (15, .ptr 5 0), (16, .d (.int .i64 f6))]) (H' := [.box [.d (.lit (List.map e_i64 x0))], .box [.d (.lit (List.map e_i64 y0))], .box [.nilc], .box [.ref 6 (List.length xs6) 0 (List.length xs6)], .box [.d (.int .i64 x41), .d (.int .i64 x42)], .box [.d (.int .i64 x43), .d (.int .i64 x44)], .sl 4 (List.map e_SPoint xs6) false]) (h := ?_)
           refine oSeq ?_
           refine oSR rfl ?_
           refine oP (.d (.int .i64 e18)) p_move ?_
           refine oP (.d (.bool (e18 != 0))) (p_int (k := .i64) (p := e18) (q := 0)) ?_
           refine oP (.d (.bool (e18 != 0))) p_move ?_
           refine bMeetF (H' := [.box [.d (.lit (List.map e_i64 x0))], .box [.d (.lit (List.map e_i64 y0))], .box [.nilc], .box [.ref 6 (List.length xs6) 0 (List.length xs6)], .box [.d (.int .i64 x41), .d (.int .i64 x42)], .box [.d (.int .i64 x43), .d (.int .i64 x44)], .sl 4 (List.map e_SPoint xs6) false]) 3 rfl ((fun (x45 : Bool) => [(2, .ptr 0 0), (3, .ptr 1 0), (4, .ptr 2 0), (6, .d (.int .i64 r112)), (7, .d (.int .i64 r113)), (8, .ptr 3 0), (9, .d (.int .i64 i12)), (10, .d (.int .i64 k112)), (13, .ptr 4 0), (15, .ptr 5 0), (136, .d (.bool x45))])) (fun x45 => ?_) (fun F hj11 => ?_)
           ·refine oView (T' := [(2, .ptr 0 0), (3, .ptr 1 0), (4, .ptr 2 0), (6, .d (.int .i64 r112)), (7, .d (.int .i64 r113)), (8, .ptr 3 0), (9, .d (.int .i64 i12)), (10, .d (.int .i64 k112)), (13, .ptr 4 0), (15, .ptr 5 0), (136, .d (.bool x45))]) (H' := [.box [.d (.lit (List.map e_i64 x0))], .box [.d (.lit (List.map e_i64 y0))], .box [.nilc], .box [.ref 6 (List.length xs6) 0 (List.length xs6)], .box [.d (.int .i64 x41), .d (.int .i64 x42)], .box [.d (.int .i64 x43), .d (.int .i64 x44)], .sl 4 (List.map e_SPoint xs6) false]) (h := ?_)
            refine oEnd ?_
            refine bSplit 136 (h1 := fun hc => ?_) (h2 := fun hc => ?_)
            ·refine oCondT (h := ?_)
             refine oSR rfl ?_
             refine oP (.agg [.nilc]) (p_build bld32) ?_
             refine oD (.undef) (k_store (vs := [.nilc]) (H' := [.box [.d (.lit (List.map e_i64 x0))], .box [.d (.lit (List.map e_i64 y0))], .box [.nilc], .box [.ref 6 (List.length xs6) 0 (List.length xs6)], .box [.d (.int .i64 x41), .d (.int .i64 x42)], .box [.d (.int .i64 x43), .d (.int .i64 x44)], .sl 4 (List.map e_SPoint xs6) false]) 2 0 (hi := ty32)) ?_
             refine oP (.d (.int .i64 6)) p_assign ?_
             refine oEnd ?_
             refine oConvB 2 (cells := [.nilc]) (cells' := [.d (.lit (List.map e_SPoint []))]) (hc := .cons _ _ _ _ .nil .nil) (h := ?_)
             refine oView (H' := [.box [.d (.lit (List.map e_i64 x0))], .box [.d (.lit (List.map e_i64 y0))], .box [.d (.lit (List.map e_SPoint []))], .box [.ref 6 (List.length xs6) 0 (List.length xs6)], .box [.d (.int .i64 x41), .d (.int .i64 x42)], .box [.d (.int .i64 x43), .d (.int .i64 x44)], .sl 4 (List.map e_SPoint xs6) false]) rfl (h := ?_)
             exact oRet (r0 := ([], 6)) (rv := .tuple [.agg [.d (.lit (List.map e_SPoint []))], .d (.int .i64 6)]) (B := []) (vs := [.agg [.d (.lit (List.map e_SPoint []))], .d (.int .i64 6)]) (σ := []) (hf := Try.func11) (hrs := rfl) (hres := .cons _ _ _ _ (.agg 4 32 2 0 [.d (.lit (List.map e_SPoint []))] [.d (.lit (List.map e_SPoint []))] _ _ _ _ (by kernel_rfl) (by kernel_rfl) Try.underlying32 (by kernel_rfl) ty32 (by kernel_rfl) (by kernel_rfl)) (.cons _ _ _ _ (.tmp 5 _ (by kernel_rfl)) .nil)) (hnd := by decide)
            ·refine oCondF (h := ?_)
             refine oSkip ?_
             refine oRegion rfl ?_
             refine oP (.ptr 3 0) (k_fieldAddr 3 0 (hu := Try.underlying32) (hf := rfl) (hi := ty30)) ?_
             refine oQ (.ref 6 (List.length xs6) 0 (List.length xs6)) (k_load 3 0 (hu := Try.underlying30)) ?_
             refine oQ (.agg [.d (.int .i64 x41), .d (.int .i64 x42)]) (k_loadAgg 4 0 (hu := Try.underlying38) (hi := ty38)) ?_
             refine oQ (.agg [.d (.int .i64 x43), .d (.int .i64 x44)]) (k_loadAgg 5 0 (hu := Try.underlying38) (hi := ty38)) ?_
             refine oP (.agg [.d (.int .i64 x41), .d (.int .i64 x42), .d (.int .i64 x43), .d (.int .i64 x44)]) (p_build bld60) ?_
             refine oD (.ref 7 (List.length ([(⟨x41, x42, x43, x44⟩ : SPoint)] : List SPoint)) 0 (List.length ([(⟨x41, x42, x43, x44⟩ : SPoint)] : List SPoint))) (k_buildSlice (H' := [.box [.d (.lit (List.map e_i64 x0))], .box [.d (.lit (List.map e_i64 y0))], .box [.nilc], .box [.ref 6 (List.length xs6) 0 (List.length xs6)], .box [.d (.int .i64 x41), .d (.int .i64 x42)], .box [.d (.int .i64 x43), .d (.int .i64 x44)], .sl 4 (List.map e_SPoint xs6) false, .sl 4 (List.map e_SPoint ([(⟨x41, x42, x43, x44⟩ : SPoint)] : List SPoint)) false]) (List.map e_SPoint ([(⟨x41, x42, x43, x44⟩ : SPoint)] : List SPoint)) Try.underlying30 ty60) ?_
             refine bCap (fun h110 => ?_)
             refine oD (.ref 6 (List.length (xs6 ++ ([(⟨x41, x42, x43, x44⟩ : SPoint)] : List SPoint))) 0 (List.length (xs6 ++ ([(⟨x41, x42, x43, x44⟩ : SPoint)] : List SPoint)))) (k_append (H' := [.box [.d (.lit (List.map e_i64 x0))], .box [.d (.lit (List.map e_i64 y0))], .box [.nilc], .box [.ref 6 (List.length xs6) 0 (List.length xs6)], .box [.d (.int .i64 x41), .d (.int .i64 x42)], .box [.d (.int .i64 x43), .d (.int .i64 x44)], .sl 4 (List.map e_SPoint (xs6 ++ ([(⟨x41, x42, x43, x44⟩ : SPoint)] : List SPoint))) false, .sl 4 (List.map e_SPoint ([(⟨x41, x42, x43, x44⟩ : SPoint)] : List SPoint)) false]) (enc := e_SPoint) 6 xs6 ([(⟨x41, x42, x43, x44⟩ : SPoint)] : List SPoint) Try.underlying30 Try.underlying30 ty60 (hy := (holdsRef (enc := e_SPoint) 7 ([(⟨x41, x42, x43, x44⟩ : SPoint)] : List SPoint) false)) (hfit := h110)) ?_
             refine oP (.ptr 3 0) (k_fieldAddr 3 0 (hu := Try.underlying32) (hf := rfl) (hi := ty30)) ?_
             refine oD (.undef) (k_store (vs := [.ref 6 (List.length (xs6 ++ ([(⟨x41, x42, x43, x44⟩ : SPoint)] : List SPoint))) 0 (List.length (xs6 ++ ([(⟨x41, x42, x43, x44⟩ : SPoint)] : List SPoint)))]) (H' := [.box [.d (.lit (List.map e_i64 x0))], .box [.d (.lit (List.map e_i64 y0))], .box [.nilc], .box [.ref 6 (List.length (xs6 ++ ([(⟨x41, x42, x43, x44⟩ : SPoint)] : List SPoint))) 0 (List.length (xs6 ++ ([(⟨x41, x42, x43, x44⟩ : SPoint)] : List SPoint)))], .box [.d (.int .i64 x41), .d (.int .i64 x42)], .box [.d (.int .i64 x43), .d (.int .i64 x44)], .sl 4 (List.map e_SPoint (xs6 ++ ([(⟨x41, x42, x43, x44⟩ : SPoint)] : List SPoint))) false, .sl 4 (List.map e_SPoint ([(⟨x41, x42, x43, x44⟩ : SPoint)] : List SPoint)) false]) 3 0 (hi := ty30)) ?_
             refine oEnd ?_
             refine oBlk ?_
             refine oAgain ?_
             refine oHead [2, 3, 4, 6, 7, 8, 9, 10] [0, 1, 2, 3, 6] (T' := [(2, .ptr 0 0), (3, .ptr 1 0), (4, .ptr 2 0), (6, .d (.int .i64 r112)), (7, .d (.int .i64 r113)), (8, .ptr 3 0), (9, .d (.int .i64 i12)), (10, .d (.int .i64 k112))]) (H' := [.box [.d (.lit (List.map e_i64 x0))], .box [.d (.lit (List.map e_i64 y0))], .box [.nilc], .box [.ref 4 (List.length (xs6 ++ ([(⟨x41, x42, x43, x44⟩ : SPoint)] : List SPoint))) 0 (List.length (xs6 ++ ([(⟨x41, x42, x43, x44⟩ : SPoint)] : List SPoint)))], .sl 4 (List.map e_SPoint (xs6 ++ ([(⟨x41, x42, x43, x44⟩ : SPoint)] : List SPoint))) false]) (hnd := by decide) (h := ?_)
             exact hag1 (i12, k112, (xs6 ++ ([(⟨x41, x42, x43, x44⟩ : SPoint)] : List SPoint)))
           ·refine bPickF 133 (fun c => F (c || (f6 != 0))) (h1 := fun hc => ?_) (h2 := fun hc => ?_)
            ·refine oNot (h := ?_)
             refine oNot (h := ?_)
             refine oP (.d (.bool true)) (p_pick (b := true)) ?_
             refine oHead [2, 3, 4, 6, 7, 8, 9, 10, 13, 15, 136] [0, 1, 2, 3, 4, 5, 6] (T' := [(2, .ptr 0 0), (3, .ptr 1 0), (4, .ptr 2 0), (6, .d (.int .i64 r112)), (7, .d (.int .i64 r113)), (8, .ptr 3 0), (9, .d (.int .i64 i12)), (10, .d (.int .i64 k112)), (13, .ptr 4 0), (15, .ptr 5 0), (136, .d (.bool true))]) (H' := [.box [.d (.lit (List.map e_i64 x0))], .box [.d (.lit (List.map e_i64 y0))], .box [.nilc], .box [.ref 6 (List.length xs6) 0 (List.length xs6)], .box [.d (.int .i64 x41), .d (.int .i64 x42)], .box [.d (.int .i64 x43), .d (.int .i64 x44)], .sl 4 (List.map e_SPoint xs6) false]) (hnd := by decide) (h := ?_)
             exact hj11 true
            ·refine oP (.d (.int .i64 f6)) p_move ?_
             refine oP (.d (.bool (f6 != 0))) (p_int (k := .i64) (p := f6) (q := 0)) ?_
             refine oP (.d (.bool (f6 != 0))) (p_pick (b := false)) ?_
             refine oHead [2, 3, 4, 6, 7, 8, 9, 10, 13, 15, 136] [0, 1, 2, 3, 4, 5, 6] (T' := [(2, .ptr 0 0), (3, .ptr 1 0), (4, .ptr 2 0), (6, .d (.int .i64 r112)), (7, .d (.int .i64 r113)), (8, .ptr 3 0), (9, .d (.int .i64 i12)), (10, .d (.int .i64 k112)), (13, .ptr 4 0), (15, .ptr 5 0), (136, .d (.bool (f6 != 0)))]) (H' := [.box [.d (.lit (List.map e_i64 x0))], .box [.d (.lit (List.map e_i64 y0))], .box [.nilc], .box [.ref 6 (List.length xs6) 0 (List.length xs6)], .box [.d (.int .i64 x41), .d (.int .i64 x42)], .box [.d (.int .i64 x43), .d (.int .i64 x44)], .sl 4 (List.map e_SPoint xs6) false]) (hnd := by decide) (h := ?_)
             exact hj11 (f6 != 0)
          ·refine oBlock ?_
           refine oSR rfl ?_
           refine oP (.d (.int .i64 (IntKind.wrap .i64 (r114 * r113)))) p_move ?_
           refine oP (.d (.int .i64 (IntKind.wrap .i64 (r115 * r112)))) p_move ?_
           refine oP (.d (.bool (decide ((IntKind.wrap .i64 (r114 * r113)) < (IntKind.wrap .i64 (r115 * r112)))))) (p_int (k := .i64) (p := (IntKind.wrap .i64 (r114 * r113))) (q := (IntKind.wrap .i64 (r115 * r112)))) ?_
           refine oP (.d (.bool (decide ((IntKind.wrap .i64 (r114 * r113)) < (IntKind.wrap .i64 (r115 * r112)))))) p_assign ?_
           refine oEnd ?_
           refine bSplit 75 (h1 := fun hc => ?_) (h2 := fun hc => ?_)
           ·refine oCondT (h := ?_)
            refine oSeq ?_
            refine oDraw [(0, 24), (1, 24), (2, 24), (3, 24), (4, 24), (5, 24), (6, 22)] rfl ?_
            refine aP 0 (.d (.int .i64 k19)) rfl p_move ?_
            refine aP 1 (.d (.int .i64 (IntKind.wrap .i64 (k19 - 1)))) rfl (p_int (k := .i64) (p := k19) (q := 1)) ?_
            refine aP 2 (.d (.int .i64 (IntKind.wrap .i64 (r114 * r113)))) rfl p_move ?_
            refine aQ 3 [1] (.agg [.d (.lit (List.map e_i64 y0))]) rfl (k_loadAgg 1 0 (hu := Try.underlying28) (hi := ty28)) ?_
            refine aP 4 (.d (.int .i64 k19)) rfl p_move ?_
            refine aP 5 (.d (.int .i64 (IntKind.wrap .i64 (k19 - 1)))) rfl (p_int (k := .i64) (p := k19) (q := 1)) ?_
            refine aP 7 (.d (.int .i64 r112)) rfl p_move ?_
            refine aP 10 (.ptr 1 0) rfl (k_fieldAddr 1 0 (hu := Try.underlying28) (hf := rfl) (hi := ty22)) ?_
            refine aQ 11 [1] (.d (.lit (List.map e_i64 y0))) rfl (k_load 1 0 (hu := Try.underlying22)) ?_
            refine aP 12 (.d (.int .i64 k19)) rfl p_move ?_
            refine aP 13 (.d (.int .i64 (IntKind.wrap .i64 (k19 - 1)))) rfl (p_int (k := .i64) (p := k19) (q := 1)) ?_
            refine dIdx (fun e1 h1 h11 => ?_)
            refine aP 14 (.lptr (e_i64 e1) 0) rfl (k_idxLit e_i64_len y0 (a := e1) (k := .i64) (i := (IntKind.wrap .i64 (k19 - 1))) (hu := Try.underlying22) (hi := ty3) (h0 := h1) (he := h11)) ?_
            refine aQ 15 [] (.d (.int .i64 e1)) rfl (k_loadL (cells := e_i64 e1) 0 (hu := Try.underlying3)) ?_
            refine aP 16 (.d (.int .i64 r112)) rfl p_move ?_
            refine aP 17 (.d (.int .i64 (IntKind.wrap .i64 (e1 * r112)))) rfl (p_int (k := .i64) (p := e1) (q := r112)) ?_
            refine dCall (i := 6) (caps := []) (v := (fun (r118 : Int) => (.d (.int .i64 r118) : V))) (H' := (fun (r118 : Int) => ([.box [.d (.lit (List.map e_i64 x0))], .box [.d (.lit (List.map e_i64 y0))], .box [.nilc], .box [.ref 4 (List.length xs6) 0 (List.length xs6)], .sl 4 (List.map e_SPoint xs6) false, .box [.d (.int .i64 r138), .d (.int .i64 r1124)], .box [.d (.int .i64 r139), .d (.int .i64 r1125)]] : List Blk))) [] _ (distribution_Below_goes k y0 (IntKind.wrap .i64 (k19 - 1))) rfl (ho := rfl) (hfn := Try.func33) (hb := rfl) (hconv := ConvRs.refl _ _) (hnd := by decide) (hBl := fun _ => (by kernel_rfl)) (hv := fun _ => (by kernel_rfl)) (hH' := fun _ => (by kernel_rfl)) (h := fun r118 => ?_)
            refine aP 8 (.d (.int .i64 (IntKind.wrap .i64 (r118 * r112)))) rfl (p_int (k := .i64) (p := r118) (q := r112)) ?_
            refine aP 9 (.d (.int .i64 (IntKind.wrap .i64 ((IntKind.wrap .i64 (r114 * r113)) - (IntKind.wrap .i64 (r118 * r112)))))) rfl (p_int (k := .i64) (p := (IntKind.wrap .i64 (r114 * r113))) (q := (IntKind.wrap .i64 (r118 * r112)))) ?_
            refine dCall (i := 18) (caps := []) (v := (uc fun (r14 : Int) => (uc fun (r119 : Int) => (fun (r124 : Int) => (.tuple [.agg [.d (.int .i64 r14), .d (.int .i64 r119)], .d (.int .i64 r124)] : V))))) (H' := (uc fun (r14 : Int) => (uc fun (r119 : Int) => (fun (r124 : Int) => ([.box [.d (.lit (List.map e_i64 x0))], .box [.d (.lit (List.map e_i64 y0))], .box [.nilc], .box [.ref 4 (List.length xs6) 0 (List.length xs6)], .sl 4 (List.map e_SPoint xs6) false, .box [.d (.int .i64 r138), .d (.int .i64 r1124)], .box [.d (.int .i64 r139), .d (.int .i64 r1125)]] : List Blk))))) [] _ (equating_within_goes k (IntKind.wrap .i64 (k19 - 1)) (IntKind.wrap .i64 ((IntKind.wrap .i64 (r114 * r113)) - (IntKind.wrap .i64 (r118 * r112)))) (IntKind.wrap .i64 (e1 * r112))) rfl (ho := rfl) (hfn := Try.func34) (hb := rfl) (hconv := ConvRs.refl _ _) (hnd := by decide) (hBl := fun _ => (by kernel_rfl)) (hv := fun _ => (by kernel_rfl)) (hH' := fun _ => (by kernel_rfl)) (h := fun r => ?_)
            obtain ⟨r14, r119, r124⟩ := r
            refine dUc ?_
            refine dUc ?_
            refine aTakeP (i := 19) (.tuple [.agg [.d (.int .i64 r14), .d (.int .i64 r119)], .d (.int .i64 r124)]) rfl (hp := p_move) (h := ?_)
            refine aTakeP (i := 20) (.agg [.d (.int .i64 r14), .d (.int .i64 r119)]) rfl (hp := k_extract) (h := ?_)
            refine aTakeP (i := 21) (.d (.int .i64 r124)) rfl (hp := k_extract) (h := ?_)
            refine aOne (i := 22) (v := .undef) rfl (hac := Does.acts (k_store (vs := [.d (.int .i64 r14), .d (.int .i64 r119)]) (H' := [.box [.d (.lit (List.map e_i64 x0))], .box [.d (.lit (List.map e_i64 y0))], .box [.nilc], .box [.ref 4 (List.length xs6) 0 (List.length xs6)], .sl 4 (List.map e_SPoint xs6) false, .box [.d (.int .i64 r138), .d (.int .i64 r1124)], .box [.d (.int .i64 r14), .d (.int .i64 r119)]]) 6 0 (hi := ty38))) (h := ?_)
            refine aP 23 (.d (.int .i64 r124)) rfl p_assign ?_
            refine aDone (h := ?_)
            refine oRegion rfl ?_
            refine oP (.d (.int .i64 i9)) p_move ?_
            refine oP (.d (.int .i64 (IntKind.wrap .i64 (i9 + 1)))) (p_int (k := .i64) (p := i9) (q := 1)) ?_
            refine oP (.d (.int .i64 (IntKind.wrap .i64 (i9 + 1)))) p_assign ?_
            refine oEnd ?_
            refine oBlk ?_
            refine oHead [2, 3, 4, 6, 7, 8, 9, 10, 13, 14, 15, 16] [0, 1, 2, 3, 5, 6, 4] (T' := [(2, .ptr 0 0), (3, .ptr 1 0), (4, .ptr 2 0), (6, .d (.int .i64 r112)), (7, .d (.int .i64 r113)), (8, .ptr 3 0), (9, .d (.int .i64 (IntKind.wrap .i64 (i9 + 1)))), (10, .d (.int .i64 k19)), (13, .ptr 4 0), (14, .d (.int .i64 r1220)), (15, .ptr 5 0), (16, .d (.int .i64 r124))]) (H' := [.box [.d (.lit (List.map e_i64 x0))], .box [.d (.lit (List.map e_i64 y0))], .box [.nilc], .box [.ref 6 (List.length xs6) 0 (List.length xs6)], .box [.d (.int .i64 r138), .d (.int .i64 r1124)], .box [.d (.int .i64 r14), .d (.int .i64 r119)], .sl 4 (List.map e_SPoint xs6) false]) (hnd := by decide) (h := ?_)
            exact hj10 ((IntKind.wrap .i64 (i9 + 1)), k19, r1220, r124, r138, r1124, r14, r119)
           ·refine oCondF (h := ?_)
            refine oSR rfl ?_
            refine oP (.d (.int .i64 (IntKind.wrap .i64 (r115 * r112)))) p_move ?_
            refine oP (.d (.int .i64 (IntKind.wrap .i64 (r114 * r113)))) p_move ?_
            refine oP (.d (.bool (decide ((IntKind.wrap .i64 (r115 * r112)) < (IntKind.wrap .i64 (r114 * r113)))))) (p_int (k := .i64) (p := (IntKind.wrap .i64 (r115 * r112))) (q := (IntKind.wrap .i64 (r114 * r113)))) ?_
            refine oP (.d (.bool (decide ((IntKind.wrap .i64 (r115 * r112)) < (IntKind.wrap .i64 (r114 * r113)))))) p_assign ?_
            refine oEnd ?_
            refine bSplit 103 (h1 := fun hc => ?_) (h2 := fun hc => ?_)
            ·refine oCondT (h := ?_)
             refine oSeq ?_
             refine oDraw [(0, 24), (1, 24), (2, 24), (3, 24), (4, 24), (5, 22), (6, 24)] rfl ?_
             refine aP 0 (.d (.int .i64 i9)) rfl p_move ?_
             refine aP 1 (.d (.int .i64 (IntKind.wrap .i64 (i9 - 1)))) rfl (p_int (k := .i64) (p := i9) (q := 1)) ?_
             refine aP 2 (.d (.int .i64 (IntKind.wrap .i64 (r115 * r112)))) rfl p_move ?_
             refine aQ 3 [0] (.agg [.d (.lit (List.map e_i64 x0))]) rfl (k_loadAgg 0 0 (hu := Try.underlying28) (hi := ty28)) ?_
             refine aP 4 (.d (.int .i64 i9)) rfl p_move ?_
             refine aP 5 (.d (.int .i64 (IntKind.wrap .i64 (i9 - 1)))) rfl (p_int (k := .i64) (p := i9) (q := 1)) ?_
             refine aP 7 (.d (.int .i64 r113)) rfl p_move ?_
             refine aP 10 (.ptr 0 0) rfl (k_fieldAddr 0 0 (hu := Try.underlying28) (hf := rfl) (hi := ty22)) ?_
             refine aQ 11 [0] (.d (.lit (List.map e_i64 x0))) rfl (k_load 0 0 (hu := Try.underlying22)) ?_
             refine aP 12 (.d (.int .i64 i9)) rfl p_move ?_
             refine aP 13 (.d (.int .i64 (IntKind.wrap .i64 (i9 - 1)))) rfl (p_int (k := .i64) (p := i9) (q := 1)) ?_
             refine dIdx (fun e11 h12 h13 => ?_)
             refine aP 14 (.lptr (e_i64 e11) 0) rfl (k_idxLit e_i64_len x0 (a := e11) (k := .i64) (i := (IntKind.wrap .i64 (i9 - 1))) (hu := Try.underlying22) (hi := ty3) (h0 := h12) (he := h13)) ?_
             refine aQ 15 [] (.d (.int .i64 e11)) rfl (k_loadL (cells := e_i64 e11) 0 (hu := Try.underlying3)) ?_
             refine aP 16 (.d (.int .i64 r113)) rfl p_move ?_
             refine aP 17 (.d (.int .i64 (IntKind.wrap .i64 (e11 * r113)))) rfl (p_int (k := .i64) (p := e11) (q := r113)) ?_
             refine dCall (i := 6) (caps := []) (v := (fun (r1110 : Int) => (.d (.int .i64 r1110) : V))) (H' := (fun (r1110 : Int) => ([.box [.d (.lit (List.map e_i64 x0))], .box [.d (.lit (List.map e_i64 y0))], .box [.nilc], .box [.ref 4 (List.length xs6) 0 (List.length xs6)], .sl 4 (List.map e_SPoint xs6) false, .box [.d (.int .i64 r138), .d (.int .i64 r1124)], .box [.d (.int .i64 r139), .d (.int .i64 r1125)]] : List Blk))) [] _ (distribution_Below_goes k x0 (IntKind.wrap .i64 (i9 - 1))) rfl (ho := rfl) (hfn := Try.func33) (hb := rfl) (hconv := ConvRs.refl _ _) (hnd := by decide) (hBl := fun _ => (by kernel_rfl)) (hv := fun _ => (by kernel_rfl)) (hH' := fun _ => (by kernel_rfl)) (h := fun r1110 => ?_)
             refine aP 8 (.d (.int .i64 (IntKind.wrap .i64 (r1110 * r113)))) rfl (p_int (k := .i64) (p := r1110) (q := r113)) ?_
             refine aP 9 (.d (.int .i64 (IntKind.wrap .i64 ((IntKind.wrap .i64 (r115 * r112)) - (IntKind.wrap .i64 (r1110 * r113)))))) rfl (p_int (k := .i64) (p := (IntKind.wrap .i64 (r115 * r112))) (q := (IntKind.wrap .i64 (r1110 * r113)))) ?_
             refine dCall (i := 18) (caps := []) (v := (uc fun (r15 : Int) => (uc fun (r1111 : Int) => (fun (r125 : Int) => (.tuple [.agg [.d (.int .i64 r15), .d (.int .i64 r1111)], .d (.int .i64 r125)] : V))))) (H' := (uc fun (r15 : Int) => (uc fun (r1111 : Int) => (fun (r125 : Int) => ([.box [.d (.lit (List.map e_i64 x0))], .box [.d (.lit (List.map e_i64 y0))], .box [.nilc], .box [.ref 4 (List.length xs6) 0 (List.length xs6)], .sl 4 (List.map e_SPoint xs6) false, .box [.d (.int .i64 r138), .d (.int .i64 r1124)], .box [.d (.int .i64 r139), .d (.int .i64 r1125)]] : List Blk))))) [] _ (equating_within_goes k (IntKind.wrap .i64 (i9 - 1)) (IntKind.wrap .i64 ((IntKind.wrap .i64 (r115 * r112)) - (IntKind.wrap .i64 (r1110 * r113)))) (IntKind.wrap .i64 (e11 * r113))) rfl (ho := rfl) (hfn := Try.func34) (hb := rfl) (hconv := ConvRs.refl _ _) (hnd := by decide) (hBl := fun _ => (by kernel_rfl)) (hv := fun _ => (by kernel_rfl)) (hH' := fun _ => (by kernel_rfl)) (h := fun r => ?_)
             obtain ⟨r15, r1111, r125⟩ := r
             refine dUc ?_
             refine dUc ?_
             refine aTakeP (i := 19) (.tuple [.agg [.d (.int .i64 r15), .d (.int .i64 r1111)], .d (.int .i64 r125)]) rfl (hp := p_move) (h := ?_)
             refine aTakeP (i := 20) (.agg [.d (.int .i64 r15), .d (.int .i64 r1111)]) rfl (hp := k_extract) (h := ?_)
             refine aTakeP (i := 21) (.d (.int .i64 r125)) rfl (hp := k_extract) (h := ?_)
             refine aOne (i := 22) (v := .undef) rfl (hac := Does.acts (k_store (vs := [.d (.int .i64 r15), .d (.int .i64 r1111)]) (H' := [.box [.d (.lit (List.map e_i64 x0))], .box [.d (.lit (List.map e_i64 y0))], .box [.nilc], .box [.ref 4 (List.length xs6) 0 (List.length xs6)], .sl 4 (List.map e_SPoint xs6) false, .box [.d (.int .i64 r15), .d (.int .i64 r1111)], .box [.d (.int .i64 r139), .d (.int .i64 r1125)]]) 5 0 (hi := ty38))) (h := ?_)
             refine aP 23 (.d (.int .i64 r125)) rfl p_assign ?_
             refine aDone (h := ?_)
             refine oRegion rfl ?_
             refine oP (.d (.int .i64 k19)) p_move ?_
             refine oP (.d (.int .i64 (IntKind.wrap .i64 (k19 + 1)))) (p_int (k := .i64) (p := k19) (q := 1)) ?_
             refine oP (.d (.int .i64 (IntKind.wrap .i64 (k19 + 1)))) p_assign ?_
             refine oEnd ?_
             refine oBlk ?_
             refine oHead [2, 3, 4, 6, 7, 8, 9, 10, 13, 14, 15, 16] [0, 1, 2, 3, 5, 6, 4] (T' := [(2, .ptr 0 0), (3, .ptr 1 0), (4, .ptr 2 0), (6, .d (.int .i64 r112)), (7, .d (.int .i64 r113)), (8, .ptr 3 0), (9, .d (.int .i64 i9)), (10, .d (.int .i64 (IntKind.wrap .i64 (k19 + 1)))), (13, .ptr 4 0), (14, .d (.int .i64 r125)), (15, .ptr 5 0), (16, .d (.int .i64 r1221))]) (H' := [.box [.d (.lit (List.map e_i64 x0))], .box [.d (.lit (List.map e_i64 y0))], .box [.nilc], .box [.ref 6 (List.length xs6) 0 (List.length xs6)], .box [.d (.int .i64 r15), .d (.int .i64 r1111)], .box [.d (.int .i64 r139), .d (.int .i64 r1125)], .sl 4 (List.map e_SPoint xs6) false]) (hnd := by decide) (h := ?_)
             exact hj10 (i9, (IntKind.wrap .i64 (k19 + 1)), r125, r1221, r15, r1111, r139, r1125)
            ·refine oCondF (h := ?_)
             refine oRegion rfl ?_
             refine oP (.d (.int .i64 i9)) p_move ?_
             refine oP (.d (.int .i64 (IntKind.wrap .i64 (i9 + 1)))) (p_int (k := .i64) (p := i9) (q := 1)) ?_
             refine oP (.d (.int .i64 k19)) p_move ?_
             refine oP (.d (.int .i64 (IntKind.wrap .i64 (k19 + 1)))) (p_int (k := .i64) (p := k19) (q := 1)) ?_
             refine oP (.d (.int .i64 (IntKind.wrap .i64 (i9 + 1)))) p_assign ?_
             refine oP (.d (.int .i64 (IntKind.wrap .i64 (k19 + 1)))) p_assign ?_
             refine oEnd ?_
             refine oBlk ?_
             refine oHead [2, 3, 4, 6, 7, 8, 9, 10, 13, 14, 15, 16] [0, 1, 2, 3, 5, 6, 4] (T' := [(2, .ptr 0 0), (3, .ptr 1 0), (4, .ptr 2 0), (6, .d (.int .i64 r112)), (7, .d (.int .i64 r113)), (8, .ptr 3 0), (9, .d (.int .i64 (IntKind.wrap .i64 (i9 + 1)))), (10, .d (.int .i64 (IntKind.wrap .i64 (k19 + 1)))), (13, .ptr 4 0), (14, .d (.int .i64 r1220)), (15, .ptr 5 0), (16, .d (.int .i64 r1221))]) (H' := [.box [.d (.lit (List.map e_i64 x0))], .box [.d (.lit (List.map e_i64 y0))], .box [.nilc], .box [.ref 6 (List.length xs6) 0 (List.length xs6)], .box [.d (.int .i64 r138), .d (.int .i64 r1124)], .box [.d (.int .i64 r139), .d (.int .i64 r1125)], .sl 4 (List.map e_SPoint xs6) false]) (hnd := by decide) (h := ?_)
             exact hj10 ((IntKind.wrap .i64 (i9 + 1)), (IntKind.wrap .i64 (k19 + 1)), r1220, r1221, r138, r1124, r139, r1125)
         ·refine oCondF (h := ?_)
          refine oExit rfl ?_
          refine oHead [4, 8] [2, 3, 4] (T' := [(4, .ptr 0 0), (8, .ptr 1 0)]) (H' := [.box [.nilc], .box [.ref 2 (List.length xs6) 0 (List.length xs6)], .sl 4 (List.map e_SPoint xs6) false]) (hnd := by decide) (h := ?_)
          exact hj6 xs6
        ·refine bPickF 44 (fun c => F (c && (decide (k19 ≤ ((List.length y0) : Int))))) (h1 := fun hc => ?_) (h2 := fun hc => ?_)
         ·refine oP (.d (.int .i64 k19)) p_move ?_
          refine oP (.ptr 1 0) (k_fieldAddr 1 0 (hu := Try.underlying28) (hf := rfl) (hi := ty22)) ?_
          refine oQ (.d (.lit (List.map e_i64 y0))) (k_load 1 0 (hu := Try.underlying22)) ?_
          refine oP (.d (.int .i64 ((List.length y0) : Int))) (k_lenLit (enc := e_i64) y0 (hu := Try.underlying22)) ?_
          refine oP (.d (.bool (decide (k19 ≤ ((List.length y0) : Int))))) (p_int (k := .i64) (p := k19) (q := ((List.length y0) : Int))) ?_
          refine oP (.d (.bool (decide (k19 ≤ ((List.length y0) : Int))))) (p_pick (b := true)) ?_
          refine oHead [2, 3, 4, 6, 7, 8, 9, 10, 50] [0, 1, 2, 3, 4] (T' := [(2, .ptr 0 0), (3, .ptr 1 0), (4, .ptr 2 0), (6, .d (.int .i64 r112)), (7, .d (.int .i64 r113)), (8, .ptr 3 0), (9, .d (.int .i64 i9)), (10, .d (.int .i64 k19)), (50, .d (.bool (decide (k19 ≤ ((List.length y0) : Int)))))]) (H' := [.box [.d (.lit (List.map e_i64 x0))], .box [.d (.lit (List.map e_i64 y0))], .box [.nilc], .box [.ref 4 (List.length xs6) 0 (List.length xs6)], .sl 4 (List.map e_SPoint xs6) false]) (hnd := by decide) (h := ?_)
          exact hj9 (decide (k19 ≤ ((List.length y0) : Int)))
         ·refine oNot (h := ?_)
          refine oNot (h := ?_)
          refine oNot (h := ?_)
          refine oNot (h := ?_)
          refine oNot (h := ?_)
          refine oP (.d (.bool false)) (p_pick (b := false)) ?_
          refine oHead [2, 3, 4, 6, 7, 8, 9, 10, 50] [0, 1, 2, 3, 4] (T' := [(2, .ptr 0 0), (3, .ptr 1 0), (4, .ptr 2 0), (6, .d (.int .i64 r112)), (7, .d (.int .i64 r113)), (8, .ptr 3 0), (9, .d (.int .i64 i9)), (10, .d (.int .i64 k19)), (50, .d (.bool false))]) (H' := [.box [.d (.lit (List.map e_i64 x0))], .box [.d (.lit (List.map e_i64 y0))], .box [.nilc], .box [.ref 4 (List.length xs6) 0 (List.length xs6)], .sl 4 (List.map e_SPoint xs6) false]) (hnd := by decide) (h := ?_)
          exact hj9 false
    ·refine bSplit 29 (h1 := fun hc => ?_) (h2 := fun hc => ?_)
     ·refine oNot (h := ?_)
      refine oNot (h := ?_)
      refine oNot (h := ?_)
      refine oP (.d (.bool true)) (p_pick (b := true)) ?_
      refine oHead [2, 3, 4, 33] [0, 1, 2] (T' := [(2, .ptr 0 0), (3, .ptr 1 0), (4, .ptr 2 0), (33, .d (.bool true))]) (H' := [.box [.d (.lit (List.map e_i64 x0))], .box [.d (.lit (List.map e_i64 y0))], .box [.nilc]]) (hnd := by decide) (h := ?_)
      exact hj12 true
     ·refine oP (.ptr 1 0) (k_fieldAddr 1 0 (hu := Try.underlying28) (hf := rfl) (hi := ty22)) ?_
      refine oQ (.d (.lit (List.map e_i64 y0))) (k_load 1 0 (hu := Try.underlying22)) ?_
      refine bCall (caps := []) (v := (fun (r1126 : Bool) => (.d (.bool r1126) : V))) (H' := (fun (r1126 : Bool) => ([.box [.d (.lit (List.map e_i64 x0))], .box [.d (.lit (List.map e_i64 y0))], .box [.nilc]] : List Blk))) [] _ (slices_Contains_int_goes k y0 0) (ho := rfl) (hfn := Try.func31) (hb := rfl) (hconv := ConvRs.refl _ _) (hnd := by decide) (hBl := fun _ => (by kernel_rfl)) (hv := fun _ => (by kernel_rfl)) (hH' := fun _ => (by kernel_rfl)) (h := fun r1126 => ?_)
      refine oP (.d (.bool r1126)) (p_pick (b := false)) ?_
      refine oHead [2, 3, 4, 33] [0, 1, 2] (T' := [(2, .ptr 0 0), (3, .ptr 1 0), (4, .ptr 2 0), (33, .d (.bool r1126))]) (H' := [.box [.d (.lit (List.map e_i64 x0))], .box [.d (.lit (List.map e_i64 y0))], .box [.nilc]]) (hnd := by decide) (h := ?_)
      exact hj12 r1126
  ·refine bSplit 20 (h1 := fun hc => ?_) (h2 := fun hc => ?_)
   ·refine oNot (h := ?_)
    refine oNot (h := ?_)
    refine oNot (h := ?_)
    refine oP (.d (.bool true)) (p_pick (b := true)) ?_
    refine oHead [2, 3, 4, 24] [0, 1, 2] (T' := [(2, .ptr 0 0), (3, .ptr 1 0), (4, .ptr 2 0), (24, .d (.bool true))]) (H' := [.box [.d (.lit (List.map e_i64 x0))], .box [.d (.lit (List.map e_i64 y0))], .box [.nilc]]) (hnd := by decide) (h := ?_)
    exact hj13 true
   ·refine oQ (.agg [.d (.lit (List.map e_i64 y0))]) (k_loadAgg 1 0 (hu := Try.underlying28) (hi := ty28)) ?_
    refine bCall (caps := []) (v := (fun (r1222 : Bool) => (.d (.bool r1222) : V))) (H' := (fun (r1222 : Bool) => ([.box [.d (.lit (List.map e_i64 x0))], .box [.d (.lit (List.map e_i64 y0))], .box [.nilc]] : List Blk))) [] _ (distribution_Valid_goes k y0) (ho := rfl) (hfn := Try.func30) (hb := rfl) (hconv := ConvRs.refl _ _) (hnd := by decide) (hBl := fun _ => (by kernel_rfl)) (hv := fun _ => (by kernel_rfl)) (hH' := fun _ => (by kernel_rfl)) (h := fun r1222 => ?_)
    refine oP (.d (.bool (!r1222))) (p_not (p := r1222)) ?_
    refine oP (.d (.bool (!r1222))) (p_pick (b := false)) ?_
    refine oHead [2, 3, 4, 24] [0, 1, 2] (T' := [(2, .ptr 0 0), (3, .ptr 1 0), (4, .ptr 2 0), (24, .d (.bool (!r1222)))]) (H' := [.box [.d (.lit (List.map e_i64 x0))], .box [.d (.lit (List.map e_i64 y0))], .box [.nilc]]) (hnd := by decide) (h := ?_)
    exact hj13 (!r1222)

/-- awardingbody/awardingbodylaw34.whole -/
def law34_whole (k : Nat) (n : Int) : Option (Unit) := some ()
def law34_whole_E (n : Int) : Unit → V × List Blk := u0 ((.agg [.d (.int .i64 n), .d (.int .i64 1)], []))
theorem law34_whole_goes (k : Nat) (n : Int) : RunsO Try.prog 19 [.d (.int .i64 n)] [] (law34_whole_E n) (law34_whole k n) := by
  refine RunsO.of_goes (N := 5) (m := 0) (T := [(0, .d (.int .i64 n))]) Try.func19 rfl rfl (h := ?_)
  unfold law34_whole
  refine bStart ?_
  refine oSR rfl ?_
  refine oD (.ptr 0 0) (k_alloc (H' := [.box [.d (.int .i64 0), .d (.int .i64 0)]]) ty38) ?_
  refine oEnd ?_
  refine oSR rfl ?_
  refine oP (.d (.int .i64 n)) p_move ?_
  refine oP (.agg [.d (.int .i64 n), .d (.int .i64 1)]) (p_build bld38) ?_
  refine oD (.undef) (k_store (vs := [.d (.int .i64 n), .d (.int .i64 1)]) (H' := [.box [.d (.int .i64 n), .d (.int .i64 1)]]) 0 0 (hi := ty38)) ?_
  refine oEnd ?_
  exact oRet (r0 := ()) (rv := .agg [.d (.int .i64 n), .d (.int .i64 1)]) (B := []) (vs := [.agg [.d (.int .i64 n), .d (.int .i64 1)]]) (σ := []) (hf := Try.func19) (hrs := rfl) (hres := .cons _ _ _ _ (.agg 2 38 0 0 [.d (.int .i64 n), .d (.int .i64 1)] [.d (.int .i64 n), .d (.int .i64 1)] _ _ _ _ (by kernel_rfl) (by kernel_rfl) Try.underlying38 (by kernel_rfl) ty38 (by kernel_rfl) (by kernel_rfl)) .nil) (hnd := by decide)

/-- awardingbody/conversion.Eval -/
def conversion_Eval (k : Nat) (c0 : (List SPoint)) (x0 : Int) (x1 : Int) : Option (Int × Int × Int) := Option.bind (conversion_Valid k c0) (fun r15 => Option.bind (bif (!r15) then some true else Option.bind (ratio_Valid k x0 x1) (fun r122 => some (!r122)) : Option (Bool)) (fun x2 => bif x2 then some (0, 0, 1) else Option.bind (conversion_calc_eval k c0 x0 x1 0) (uc fun r161 => uc fun r171 => fun x31 => bif (x31 != 0) then some (0, 0, x31) else some (r161, r171, 0))))
def conversion_Eval_E (c0 : (List SPoint)) (x0 : Int) (x1 : Int) : Int × Int × Int → V × List Blk := uc fun r11 => uc fun r13 => fun r14 => (.tuple [.agg [.d (.int .i64 r11), .d (.int .i64 r13)], .d (.int .i64 r14)], [])
theorem conversion_Eval_goes (k : Nat) (c0 : (List SPoint)) (x0 : Int) (x1 : Int) : RunsO Try.prog 14 [.agg [.d (.lit (List.map e_SPoint c0))], .agg [.d (.int .i64 x0), .d (.int .i64 x1)]] [] (conversion_Eval_E c0 x0 x1) (conversion_Eval k c0 x0 x1) := by
  refine RunsO.of_goes (N := 28) (m := 0) (T := [(0, .agg [.d (.lit (List.map e_SPoint c0))]), (1, .agg [.d (.int .i64 x0), .d (.int .i64 x1)])]) Try.func14 rfl rfl (h := ?_)
  unfold conversion_Eval
  refine bStart ?_
  refine oSR rfl ?_
  refine oD (.ptr 0 0) (k_box (H' := [.box [.d (.lit (List.map e_SPoint c0))]]) (cells := [.d (.lit (List.map e_SPoint c0))])) ?_
  refine oD (.ptr 1 0) (k_box (H' := [.box [.d (.lit (List.map e_SPoint c0))], .box [.d (.int .i64 x0), .d (.int .i64 x1)]]) (cells := [.d (.int .i64 x0), .d (.int .i64 x1)])) ?_
  refine oD (.ptr 2 0) (k_alloc (H' := [.box [.d (.lit (List.map e_SPoint c0))], .box [.d (.int .i64 x0), .d (.int .i64 x1)], .box [.d (.int .i64 0), .d (.int .i64 0)]]) ty38) ?_
  refine oP (.d (.int .i64 0)) p_assign ?_
  refine oEnd ?_
  refine oSeq ?_
  refine oSR rfl ?_
  refine oQ (.agg [.d (.lit (List.map e_SPoint c0))]) (k_loadAgg 0 0 (hu := Try.underlying32) (hi := ty32)) ?_
  refine bCall (caps := []) (v := (fun (r15 : Bool) => (.d (.bool r15) : V))) (H' := (fun (r15 : Bool) => ([.box [.d (.lit (List.map e_SPoint c0))], .box [.d (.int .i64 x0), .d (.int .i64 x1)], .box [.d (.int .i64 0), .d (.int .i64 0)]] : List Blk))) [] _ (conversion_Valid_goes k c0) (ho := rfl) (hfn := Try.func38) (hb := rfl) (hconv := ConvRs.refl _ _) (hnd := by decide) (hBl := fun _ => (by kernel_rfl)) (hv := fun _ => (by kernel_rfl)) (hH' := fun _ => (by kernel_rfl)) (h := fun r15 => ?_)
  refine oP (.d (.bool (!r15))) (p_not (p := r15)) ?_
  refine oP (.d (.bool (!r15))) p_move ?_
  refine bMeet 4 rfl ((fun (x2 : Bool) => [(2, .ptr 0 0), (3, .ptr 1 0), (4, .ptr 2 0), (15, .d (.bool x2))])) ((fun (x2 : Bool) => [.box [.d (.lit (List.map e_SPoint c0))], .box [.d (.int .i64 x0), .d (.int .i64 x1)], .box [.d (.int .i64 0), .d (.int .i64 0)]])) (fun s => s) (fun x2 => ?_) (fun hj1 => ?_)
  ·refine oView (T' := [(2, .ptr 0 0), (3, .ptr 1 0), (4, .ptr 2 0), (15, .d (.bool x2))]) (H' := [.box [.d (.lit (List.map e_SPoint c0))], .box [.d (.int .i64 x0), .d (.int .i64 x1)], .box [.d (.int .i64 0), .d (.int .i64 0)]]) (h := ?_)
   refine oEnd ?_
   refine bSplit 15 (h1 := fun hc => ?_) (h2 := fun hc => ?_)
   ·refine oCondT (h := ?_)
    refine oSR rfl ?_
    refine oP (.agg [.d (.int .i64 0), .d (.int .i64 0)]) (p_build bld38) ?_
    refine oD (.undef) (k_store (vs := [.d (.int .i64 0), .d (.int .i64 0)]) (H' := [.box [.d (.lit (List.map e_SPoint c0))], .box [.d (.int .i64 x0), .d (.int .i64 x1)], .box [.d (.int .i64 0), .d (.int .i64 0)]]) 2 0 (hi := ty38)) ?_
    refine oP (.d (.int .i64 1)) p_assign ?_
    refine oEnd ?_
    exact oRet (r0 := (0, 0, 1)) (rv := .tuple [.agg [.d (.int .i64 0), .d (.int .i64 0)], .d (.int .i64 1)]) (B := []) (vs := [.agg [.d (.int .i64 0), .d (.int .i64 0)], .d (.int .i64 1)]) (σ := []) (hf := Try.func14) (hrs := rfl) (hres := .cons _ _ _ _ (.agg 4 38 2 0 [.d (.int .i64 0), .d (.int .i64 0)] [.d (.int .i64 0), .d (.int .i64 0)] _ _ _ _ (by kernel_rfl) (by kernel_rfl) Try.underlying38 (by kernel_rfl) ty38 (by kernel_rfl) (by kernel_rfl)) (.cons _ _ _ _ (.tmp 5 _ (by kernel_rfl)) .nil)) (hnd := by decide)
   ·refine oCondF (h := ?_)
    refine oSkip ?_
    refine oSR rfl ?_
    refine oD (.ptr 3 0) (k_alloc (H' := [.box [.d (.lit (List.map e_SPoint c0))], .box [.d (.int .i64 x0), .d (.int .i64 x1)], .box [.d (.int .i64 0), .d (.int .i64 0)], .box [.d (.int .i64 0)]]) ty69) ?_
    refine oEnd ?_
    refine oSR rfl ?_
    refine oP (.ptr 0 0) (k_fieldAddr 0 0 (hu := Try.underlying32) (hf := rfl) (hi := ty30)) ?_
    refine oQ (.d (.lit (List.map e_SPoint c0))) (k_load 0 0 (hu := Try.underlying30)) ?_
    refine oQ (.agg [.d (.int .i64 x0), .d (.int .i64 x1)]) (k_loadAgg 1 0 (hu := Try.underlying38) (hi := ty38)) ?_
    refine bCall (caps := []) (v := (uc fun (r161 : Int) => (uc fun (r171 : Int) => (fun (x31 : Int) => (.agg [.d (.int .i64 r161), .d (.int .i64 r171)] : V))))) (H' := (uc fun (r161 : Int) => (uc fun (r171 : Int) => (fun (x31 : Int) => ([.box [.d (.lit (List.map e_SPoint c0))], .box [.d (.int .i64 x0), .d (.int .i64 x1)], .box [.d (.int .i64 0), .d (.int .i64 0)], .box [.d (.int .i64 x31)]] : List Blk))))) [3] _ (conversion_calc_eval_goes k c0 x0 x1 0) (ho := rfl) (hfn := Try.func40) (hb := rfl) (hconv := ConvRs.refl _ _) (hnd := by decide) (hBl := fun _ => (by kernel_rfl)) (hv := fun _ => (by kernel_rfl)) (hH' := fun _ => (by kernel_rfl)) (h := fun r => ?_)
    obtain ⟨r161, r171, x31⟩ := r
    refine bUc ?_
    refine bUc ?_
    refine oD (.ptr 4 0) (k_alloc (H' := [.box [.d (.lit (List.map e_SPoint c0))], .box [.d (.int .i64 x0), .d (.int .i64 x1)], .box [.d (.int .i64 0), .d (.int .i64 0)], .box [.d (.int .i64 x31)], .box [.d (.int .i64 0), .d (.int .i64 0)]]) ty38) ?_
    refine oD (.undef) (k_store (vs := [.d (.int .i64 r161), .d (.int .i64 r171)]) (H' := [.box [.d (.lit (List.map e_SPoint c0))], .box [.d (.int .i64 x0), .d (.int .i64 x1)], .box [.d (.int .i64 0), .d (.int .i64 0)], .box [.d (.int .i64 x31)], .box [.d (.int .i64 r161), .d (.int .i64 r171)]]) 4 0 (hi := ty38)) ?_
    refine oEnd ?_
    refine oSeq ?_
    refine oSR rfl ?_
    refine oP (.ptr 3 0) (k_fieldAddr 3 0 (hu := Try.underlying69) (hf := rfl) (hi := ty33)) ?_
    refine oQ (.d (.int .i64 x31)) (k_load 3 0 (hu := Try.underlying33)) ?_
    refine oP (.d (.bool (x31 != 0))) (p_int (k := .i64) (p := x31) (q := 0)) ?_
    refine oEnd ?_
    refine bSplit 23 (h1 := fun hc => ?_) (h2 := fun hc => ?_)
    ·refine oCondT (h := ?_)
     refine oSeq ?_
     refine oDraw [(0, 5), (1, 5), (2, 3), (3, 5), (4, 5)] rfl ?_
     refine aP 0 (.agg [.d (.int .i64 0), .d (.int .i64 0)]) rfl (p_build bld38) ?_
     refine aP 1 (.ptr 3 0) rfl (k_fieldAddr 3 0 (hu := Try.underlying69) (hf := rfl) (hi := ty33)) ?_
     refine aQ 2 [3] (.d (.int .i64 x31)) rfl (k_load 3 0 (hu := Try.underlying33)) ?_
     refine aOne (i := 3) (v := .undef) rfl (hac := Does.acts (k_store (vs := [.d (.int .i64 0), .d (.int .i64 0)]) (H' := [.box [.d (.lit (List.map e_SPoint c0))], .box [.d (.int .i64 x0), .d (.int .i64 x1)], .box [.d (.int .i64 0), .d (.int .i64 0)], .box [.d (.int .i64 x31)], .box [.d (.int .i64 r161), .d (.int .i64 r171)]]) 2 0 (hi := ty38))) (h := ?_)
     refine aP 4 (.d (.int .i64 x31)) rfl p_assign ?_
     refine aDone (h := ?_)
     exact oRet (r0 := (0, 0, x31)) (rv := .tuple [.agg [.d (.int .i64 0), .d (.int .i64 0)], .d (.int .i64 x31)]) (B := []) (vs := [.agg [.d (.int .i64 0), .d (.int .i64 0)], .d (.int .i64 x31)]) (σ := []) (hf := Try.func14) (hrs := rfl) (hres := .cons _ _ _ _ (.agg 4 38 2 0 [.d (.int .i64 0), .d (.int .i64 0)] [.d (.int .i64 0), .d (.int .i64 0)] _ _ _ _ (by kernel_rfl) (by kernel_rfl) Try.underlying38 (by kernel_rfl) ty38 (by kernel_rfl) (by kernel_rfl)) (.cons _ _ _ _ (.tmp 5 _ (by kernel_rfl)) .nil)) (hnd := by decide)
    ·refine oCondF (h := ?_)
     refine oSkip ?_
     refine oSR rfl ?_
     refine oQ (.agg [.d (.int .i64 r161), .d (.int .i64 r171)]) (k_loadAgg 4 0 (hu := Try.underlying38) (hi := ty38)) ?_
     refine oD (.undef) (k_store (vs := [.d (.int .i64 r161), .d (.int .i64 r171)]) (H' := [.box [.d (.lit (List.map e_SPoint c0))], .box [.d (.int .i64 x0), .d (.int .i64 x1)], .box [.d (.int .i64 r161), .d (.int .i64 r171)], .box [.d (.int .i64 x31)], .box [.d (.int .i64 r161), .d (.int .i64 r171)]]) 2 0 (hi := ty38)) ?_
     refine oP (.d (.int .i64 0)) p_assign ?_
     refine oEnd ?_
     exact oRet (r0 := (r161, r171, 0)) (rv := .tuple [.agg [.d (.int .i64 r161), .d (.int .i64 r171)], .d (.int .i64 0)]) (B := []) (vs := [.agg [.d (.int .i64 r161), .d (.int .i64 r171)], .d (.int .i64 0)]) (σ := []) (hf := Try.func14) (hrs := rfl) (hres := .cons _ _ _ _ (.agg 4 38 2 0 [.d (.int .i64 r161), .d (.int .i64 r171)] [.d (.int .i64 r161), .d (.int .i64 r171)] _ _ _ _ (by kernel_rfl) (by kernel_rfl) Try.underlying38 (by kernel_rfl) ty38 (by kernel_rfl) (by kernel_rfl)) (.cons _ _ _ _ (.tmp 5 _ (by kernel_rfl)) .nil)) (hnd := by decide)
  ·refine bSplit 11 (h1 := fun hc => ?_) (h2 := fun hc => ?_)
   ·refine oNot (h := ?_)
    refine oNot (h := ?_)
    refine oNot (h := ?_)
    refine oP (.d (.bool true)) (p_pick (b := true)) ?_
    refine oHead [2, 3, 4, 15] [0, 1, 2] (T' := [(2, .ptr 0 0), (3, .ptr 1 0), (4, .ptr 2 0), (15, .d (.bool true))]) (H' := [.box [.d (.lit (List.map e_SPoint c0))], .box [.d (.int .i64 x0), .d (.int .i64 x1)], .box [.d (.int .i64 0), .d (.int .i64 0)]]) (hnd := by decide) (h := ?_)
    exact hj1 true
   ·refine oQ (.agg [.d (.int .i64 x0), .d (.int .i64 x1)]) (k_loadAgg 1 0 (hu := Try.underlying38) (hi := ty38)) ?_
    refine bCall (caps := []) (v := (fun (r122 : Bool) => (.d (.bool r122) : V))) (H' := (fun (r122 : Bool) => ([.box [.d (.lit (List.map e_SPoint c0))], .box [.d (.int .i64 x0), .d (.int .i64 x1)], .box [.d (.int .i64 0), .d (.int .i64 0)]] : List Blk))) [] _ (ratio_Valid_goes k x0 x1) (ho := rfl) (hfn := Try.func39) (hb := rfl) (hconv := ConvRs.refl _ _) (hnd := by decide) (hBl := fun _ => (by kernel_rfl)) (hv := fun _ => (by kernel_rfl)) (hH' := fun _ => (by kernel_rfl)) (h := fun r122 => ?_)
    refine oP (.d (.bool (!r122))) (p_not (p := r122)) ?_
    refine oP (.d (.bool (!r122))) (p_pick (b := false)) ?_
    refine oHead [2, 3, 4, 15] [0, 1, 2] (T' := [(2, .ptr 0 0), (3, .ptr 1 0), (4, .ptr 2 0), (15, .d (.bool (!r122)))]) (H' := [.box [.d (.lit (List.map e_SPoint c0))], .box [.d (.int .i64 x0), .d (.int .i64 x1)], .box [.d (.int .i64 0), .d (.int .i64 0)]]) (hnd := by decide) (h := ?_)
    exact hj1 (!r122)

/-- awardingbody/equating.check -/
def equating_check (k : Nat) (x0 : (List Int)) (y0 : (List Int)) : Option (Int) := Option.bind (distribution_Valid k x0) (fun r126 => Option.bind (bif (!r126) then some true else Option.bind (distribution_Valid k y0) (fun r128 => some (!r128)) : Option (Bool)) (fun x7 => bif x7 then some 1 else Option.bind (distribution_Count k x0) (fun r1110 => Option.bind (bif (r1110 == 0) then some true else Option.bind (distribution_Count k y0) (fun r1112 => some (r1112 == 0)) : Option (Bool)) (fun x9 => bif x9 then some 10 else some 0))))
def equating_check_E (x0 : (List Int)) (y0 : (List Int)) : Int → V × List Blk := fun r1 => (.d (.int .i64 r1), [])
theorem equating_check_goes (k : Nat) (x0 : (List Int)) (y0 : (List Int)) : RunsO Try.prog 42 [.agg [.d (.lit (List.map e_i64 x0))], .agg [.d (.lit (List.map e_i64 y0))]] [] (equating_check_E x0 y0) (equating_check k x0 y0) := by
  refine RunsO.of_goes (N := 23) (m := 0) (T := [(0, .agg [.d (.lit (List.map e_i64 x0))]), (1, .agg [.d (.lit (List.map e_i64 y0))])]) Try.func42 rfl rfl (h := ?_)
  unfold equating_check
  refine bStart ?_
  refine oSR rfl ?_
  refine oD (.ptr 0 0) (k_box (H' := [.box [.d (.lit (List.map e_i64 x0))]]) (cells := [.d (.lit (List.map e_i64 x0))])) ?_
  refine oD (.ptr 1 0) (k_box (H' := [.box [.d (.lit (List.map e_i64 x0))], .box [.d (.lit (List.map e_i64 y0))]]) (cells := [.d (.lit (List.map e_i64 y0))])) ?_
  refine oP (.d (.int .i64 0)) p_assign ?_
  refine oEnd ?_
  refine oSeq ?_
  refine oBlock ?_
  refine oSR rfl ?_
  refine oQ (.agg [.d (.lit (List.map e_i64 x0))]) (k_loadAgg 0 0 (hu := Try.underlying28) (hi := ty28)) ?_
  refine bCall (caps := []) (v := (fun (r126 : Bool) => (.d (.bool r126) : V))) (H' := (fun (r126 : Bool) => ([.box [.d (.lit (List.map e_i64 x0))], .box [.d (.lit (List.map e_i64 y0))]] : List Blk))) [] _ (distribution_Valid_goes k x0) (ho := rfl) (hfn := Try.func30) (hb := rfl) (hconv := ConvRs.refl _ _) (hnd := by decide) (hBl := fun _ => (by kernel_rfl)) (hv := fun _ => (by kernel_rfl)) (hH' := fun _ => (by kernel_rfl)) (h := fun r126 => ?_)
  refine oP (.d (.bool (!r126))) (p_not (p := r126)) ?_
  refine oP (.d (.bool (!r126))) p_move ?_
  refine bMeet 4 rfl ((fun (x7 : Bool) => [(2, .ptr 0 0), (3, .ptr 1 0), (13, .d (.bool x7))])) ((fun (x7 : Bool) => [.box [.d (.lit (List.map e_i64 x0))], .box [.d (.lit (List.map e_i64 y0))]])) (fun s => s) (fun x7 => ?_) (fun hj2 => ?_)
  ·refine oView (T' := [(2, .ptr 0 0), (3, .ptr 1 0), (13, .d (.bool x7))]) (H' := [.box [.d (.lit (List.map e_i64 x0))], .box [.d (.lit (List.map e_i64 y0))]]) (h := ?_)
   refine oP (.d (.bool x7)) p_assign ?_
   refine oEnd ?_
   refine bSplit 5 (h1 := fun hc => ?_) (h2 := fun hc => ?_)
   ·refine oCondT (h := ?_)
    refine oSR rfl ?_
    refine oP (.d (.int .i64 1)) p_assign ?_
    refine oEnd ?_
    exact oRet (r0 := 1) (rv := .d (.int .i64 1)) (B := []) (vs := [.d (.int .i64 1)]) (σ := []) (hf := Try.func42) (hrs := rfl) (hres := .cons _ _ _ _ (.tmp 4 _ (by kernel_rfl)) .nil) (hnd := by decide)
   ·refine oCondF (h := ?_)
    refine oSR rfl ?_
    refine oQ (.agg [.d (.lit (List.map e_i64 x0))]) (k_loadAgg 0 0 (hu := Try.underlying28) (hi := ty28)) ?_
    refine bCall (caps := []) (v := (fun (r1110 : Int) => (.d (.int .i64 r1110) : V))) (H' := (fun (r1110 : Int) => ([.box [.d (.lit (List.map e_i64 x0))], .box [.d (.lit (List.map e_i64 y0))]] : List Blk))) [] _ (distribution_Count_goes k x0) (ho := rfl) (hfn := Try.func32) (hb := rfl) (hconv := ConvRs.refl _ _) (hnd := by decide) (hBl := fun _ => (by kernel_rfl)) (hv := fun _ => (by kernel_rfl)) (hH' := fun _ => (by kernel_rfl)) (h := fun r1110 => ?_)
    refine oP (.d (.bool (r1110 == 0))) (p_int (k := .i64) (p := r1110) (q := 0)) ?_
    refine oP (.d (.bool (r1110 == 0))) p_move ?_
    refine bMeet 4 rfl ((fun (x9 : Bool) => [(22, .d (.bool x9))])) ((fun (x9 : Bool) => [])) (fun s => s) (fun x9 => ?_) (fun hj1 => ?_)
    ·refine oView (T' := [(22, .d (.bool x9))]) (H' := []) (h := ?_)
     refine oP (.d (.bool x9)) p_assign ?_
     refine oEnd ?_
     refine bSplit 14 (h1 := fun hc => ?_) (h2 := fun hc => ?_)
     ·refine oCondT (h := ?_)
      refine oSR rfl ?_
      refine oP (.d (.int .i64 10)) p_assign ?_
      refine oEnd ?_
      exact oRet (r0 := 10) (rv := .d (.int .i64 10)) (B := []) (vs := [.d (.int .i64 10)]) (σ := []) (hf := Try.func42) (hrs := rfl) (hres := .cons _ _ _ _ (.tmp 4 _ (by kernel_rfl)) .nil) (hnd := by decide)
     ·refine oCondF (h := ?_)
      refine oSkip ?_
      refine oBlk ?_
      refine oSR rfl ?_
      refine oP (.d (.int .i64 0)) p_assign ?_
      refine oEnd ?_
      exact oRet (r0 := 0) (rv := .d (.int .i64 0)) (B := []) (vs := [.d (.int .i64 0)]) (σ := []) (hf := Try.func42) (hrs := rfl) (hres := .cons _ _ _ _ (.tmp 4 _ (by kernel_rfl)) .nil) (hnd := by decide)
    ·refine bSplit 18 (h1 := fun hc => ?_) (h2 := fun hc => ?_)
     ·refine oNot (h := ?_)
      refine oNot (h := ?_)
      refine oNot (h := ?_)
      refine oP (.d (.bool true)) (p_pick (b := true)) ?_
      refine oHead [22] [] (T' := [(22, .d (.bool true))]) (H' := []) (hnd := by decide) (h := ?_)
      exact hj1 true
     ·refine oQ (.agg [.d (.lit (List.map e_i64 y0))]) (k_loadAgg 1 0 (hu := Try.underlying28) (hi := ty28)) ?_
      refine bCall (caps := []) (v := (fun (r1112 : Int) => (.d (.int .i64 r1112) : V))) (H' := (fun (r1112 : Int) => ([.box [.d (.lit (List.map e_i64 x0))], .box [.d (.lit (List.map e_i64 y0))]] : List Blk))) [] _ (distribution_Count_goes k y0) (ho := rfl) (hfn := Try.func32) (hb := rfl) (hconv := ConvRs.refl _ _) (hnd := by decide) (hBl := fun _ => (by kernel_rfl)) (hv := fun _ => (by kernel_rfl)) (hH' := fun _ => (by kernel_rfl)) (h := fun r1112 => ?_)
      refine oP (.d (.bool (r1112 == 0))) (p_int (k := .i64) (p := r1112) (q := 0)) ?_
      refine oP (.d (.bool (r1112 == 0))) (p_pick (b := false)) ?_
      refine oHead [22] [] (T' := [(22, .d (.bool (r1112 == 0)))]) (H' := []) (hnd := by decide) (h := ?_)
      exact hj1 (r1112 == 0)
  ·refine bSplit 9 (h1 := fun hc => ?_) (h2 := fun hc => ?_)
   ·refine oNot (h := ?_)
    refine oNot (h := ?_)
    refine oNot (h := ?_)
    refine oP (.d (.bool true)) (p_pick (b := true)) ?_
    refine oHead [2, 3, 13] [0, 1] (T' := [(2, .ptr 0 0), (3, .ptr 1 0), (13, .d (.bool true))]) (H' := [.box [.d (.lit (List.map e_i64 x0))], .box [.d (.lit (List.map e_i64 y0))]]) (hnd := by decide) (h := ?_)
    exact hj2 true
   ·refine oQ (.agg [.d (.lit (List.map e_i64 y0))]) (k_loadAgg 1 0 (hu := Try.underlying28) (hi := ty28)) ?_
    refine bCall (caps := []) (v := (fun (r128 : Bool) => (.d (.bool r128) : V))) (H' := (fun (r128 : Bool) => ([.box [.d (.lit (List.map e_i64 x0))], .box [.d (.lit (List.map e_i64 y0))]] : List Blk))) [] _ (distribution_Valid_goes k y0) (ho := rfl) (hfn := Try.func30) (hb := rfl) (hconv := ConvRs.refl _ _) (hnd := by decide) (hBl := fun _ => (by kernel_rfl)) (hv := fun _ => (by kernel_rfl)) (hH' := fun _ => (by kernel_rfl)) (h := fun r128 => ?_)
    refine oP (.d (.bool (!r128))) (p_not (p := r128)) ?_
    refine oP (.d (.bool (!r128))) (p_pick (b := false)) ?_
    refine oHead [2, 3, 13] [0, 1] (T' := [(2, .ptr 0 0), (3, .ptr 1 0), (13, .d (.bool (!r128)))]) (H' := [.box [.d (.lit (List.map e_i64 x0))], .box [.d (.lit (List.map e_i64 y0))]]) (hnd := by decide) (h := ?_)
    exact hj2 (!r128)

/-- awardingbody/distribution.check -/
def distribution_check (k : Nat) (d0 : (List Int)) : Option (Int) := Option.bind (distribution_Valid k d0) (fun r123 => bif (!r123) then some 1 else Option.bind (distribution_Count k d0) (fun r115 => bif (r115 == 0) then some 10 else some 0))
def distribution_check_E (d0 : (List Int)) : Int → V × List Blk := fun r1 => (.d (.int .i64 r1), [])
theorem distribution_check_goes (k : Nat) (d0 : (List Int)) : RunsO Try.prog 76 [.agg [.d (.lit (List.map e_i64 d0))]] [] (distribution_check_E d0) (distribution_check k d0) := by
  refine RunsO.of_goes (N := 11) (m := 0) (T := [(0, .agg [.d (.lit (List.map e_i64 d0))])]) Try.func76 rfl rfl (h := ?_)
  unfold distribution_check
  refine bStart ?_
  refine oSR rfl ?_
  refine oD (.ptr 0 0) (k_box (H' := [.box [.d (.lit (List.map e_i64 d0))]]) (cells := [.d (.lit (List.map e_i64 d0))])) ?_
  refine oP (.d (.int .i64 0)) p_assign ?_
  refine oEnd ?_
  refine oSeq ?_
  refine oBlock ?_
  refine oSR rfl ?_
  refine oQ (.agg [.d (.lit (List.map e_i64 d0))]) (k_loadAgg 0 0 (hu := Try.underlying28) (hi := ty28)) ?_
  refine bCall (caps := []) (v := (fun (r123 : Bool) => (.d (.bool r123) : V))) (H' := (fun (r123 : Bool) => ([.box [.d (.lit (List.map e_i64 d0))]] : List Blk))) [] _ (distribution_Valid_goes k d0) (ho := rfl) (hfn := Try.func30) (hb := rfl) (hconv := ConvRs.refl _ _) (hnd := by decide) (hBl := fun _ => (by kernel_rfl)) (hv := fun _ => (by kernel_rfl)) (hH' := fun _ => (by kernel_rfl)) (h := fun r123 => ?_)
  refine oP (.d (.bool (!r123))) (p_not (p := r123)) ?_
  refine oP (.d (.bool (!r123))) p_assign ?_
  refine oEnd ?_
  refine bSplit 3 (h1 := fun hc => ?_) (h2 := fun hc => ?_)
  ·refine oCondT (h := ?_)
   refine oSR rfl ?_
   refine oP (.d (.int .i64 1)) p_assign ?_
   refine oEnd ?_
   exact oRet (r0 := 1) (rv := .d (.int .i64 1)) (B := []) (vs := [.d (.int .i64 1)]) (σ := []) (hf := Try.func76) (hrs := rfl) (hres := .cons _ _ _ _ (.tmp 2 _ (by kernel_rfl)) .nil) (hnd := by decide)
  ·refine oCondF (h := ?_)
   refine oSR rfl ?_
   refine oQ (.agg [.d (.lit (List.map e_i64 d0))]) (k_loadAgg 0 0 (hu := Try.underlying28) (hi := ty28)) ?_
   refine bCall (caps := []) (v := (fun (r115 : Int) => (.d (.int .i64 r115) : V))) (H' := (fun (r115 : Int) => ([.box [.d (.lit (List.map e_i64 d0))]] : List Blk))) [] _ (distribution_Count_goes k d0) (ho := rfl) (hfn := Try.func32) (hb := rfl) (hconv := ConvRs.refl _ _) (hnd := by decide) (hBl := fun _ => (by kernel_rfl)) (hv := fun _ => (by kernel_rfl)) (hH' := fun _ => (by kernel_rfl)) (h := fun r115 => ?_)
   refine oP (.d (.bool (r115 == 0))) (p_int (k := .i64) (p := r115) (q := 0)) ?_
   refine oP (.d (.bool (r115 == 0))) p_assign ?_
   refine oEnd ?_
   refine bSplit 7 (h1 := fun hc => ?_) (h2 := fun hc => ?_)
   ·refine oCondT (h := ?_)
    refine oSR rfl ?_
    refine oP (.d (.int .i64 10)) p_assign ?_
    refine oEnd ?_
    exact oRet (r0 := 10) (rv := .d (.int .i64 10)) (B := []) (vs := [.d (.int .i64 10)]) (σ := []) (hf := Try.func76) (hrs := rfl) (hres := .cons _ _ _ _ (.tmp 2 _ (by kernel_rfl)) .nil) (hnd := by decide)
   ·refine oCondF (h := ?_)
    refine oSkip ?_
    refine oBlk ?_
    refine oSR rfl ?_
    refine oP (.d (.int .i64 0)) p_assign ?_
    refine oEnd ?_
    exact oRet (r0 := 0) (rv := .d (.int .i64 0)) (B := []) (vs := [.d (.int .i64 0)]) (σ := []) (hf := Try.func76) (hrs := rfl) (hres := .cons _ _ _ _ (.tmp 2 _ (by kernel_rfl)) .nil) (hnd := by decide)

/-- awardingbody/distribution.points -/
def distribution_points_b1 (k : Nat) (d0 : (List Int)) (again : Int × Int → Option (Int)) : Int × Int → Option (Int) := uc fun n6 => fun x4 => bif (decide (x4 < ((List.length d0) : Int))) then gidx d0 x4 fun e113 => again ((IntKind.wrap .i64 (n6 + (IntKind.wrap .i64 (x4 * e113)))), (IntKind.wrap .i64 (x4 + 1))) else some n6
def distribution_points (k : Nat) (d0 : (List Int)) : Option (Int) := Option.bind (gloop (distribution_points_b1 k d0) k (0, 0) : Option (Int)) (fun n5 => some n5)
def distribution_points_E (d0 : (List Int)) : Int → V × List Blk := fun r1 => (.d (.int .i64 r1), [])
theorem distribution_points_goes (k : Nat) (d0 : (List Int)) : RunsO Try.prog 77 [.agg [.d (.lit (List.map e_i64 d0))]] [] (distribution_points_E d0) (distribution_points k d0) := by
  refine RunsO.of_goes (N := 21) (m := 0) (T := [(0, .agg [.d (.lit (List.map e_i64 d0))])]) Try.func77 rfl rfl (h := ?_)
  unfold distribution_points
  refine bStart ?_
  refine oSR rfl ?_
  refine oD (.ptr 0 0) (k_box (H' := [.box [.d (.lit (List.map e_i64 d0))]]) (cells := [.d (.lit (List.map e_i64 d0))])) ?_
  refine oP (.d (.int .i64 0)) p_assign ?_
  refine oEnd ?_
  refine oSR rfl ?_
  refine oP (.d (.int .i64 0)) p_assign ?_
  refine oEnd ?_
  refine oSeq ?_
  refine oSR rfl ?_
  refine oP (.ptr 0 0) (k_fieldAddr 0 0 (hu := Try.underlying28) (hf := rfl) (hi := ty22)) ?_
  refine oQ (.d (.lit (List.map e_i64 d0))) (k_load 0 0 (hu := Try.underlying22)) ?_
  refine oP (.d (.int .i64 ((List.length d0) : Int))) (k_lenLit (enc := e_i64) d0 (hu := Try.underlying22)) ?_
  refine oP (.d (.int .i64 0)) p_move ?_
  refine oEnd ?_
  refine bJoin ((fun (n5 : Int) => [(3, .d (.int .i64 n5))])) ((fun (n5 : Int) => [])) (fun s => s) (fun n5 => ?_) (fun hj2 => ?_)
  ·refine oView (T' := [(3, .d (.int .i64 n5))]) (H' := []) (h := ?_)
   refine oSR rfl ?_
   refine oP (.d (.int .i64 n5)) p_move ?_
   refine oP (.d (.int .i64 n5)) p_assign ?_
   refine oEnd ?_
   exact oRet (r0 := n5) (rv := .d (.int .i64 n5)) (B := []) (vs := [.d (.int .i64 n5)]) (σ := []) (hf := Try.func77) (hrs := rfl) (hres := .cons _ _ _ _ (.tmp 2 _ (by kernel_rfl)) .nil) (hnd := by decide)
  ·refine oBlock ?_
   refine oLoop ?_
   refine oHead [3, 7, 8, 9] [] (T' := [(3, .d (.int .i64 0)), (7, .d (.lit (List.map e_i64 d0))), (8, .d (.int .i64 ((List.length d0) : Int))), (9, .d (.int .i64 0))]) (H' := []) (hnd := by decide) (h := ?_)
   refine bLoop (body := distribution_points_b1 k d0) ((uc fun (n6 : Int) => (fun (x4 : Int) => [(3, .d (.int .i64 n6)), (7, .d (.lit (List.map e_i64 d0))), (8, .d (.int .i64 ((List.length d0) : Int))), (9, .d (.int .i64 x4))]))) ((uc fun (n6 : Int) => (fun (x4 : Int) => []))) (fun again hag1 s => ?_) k (0, 0)
   ·unfold distribution_points_b1
    obtain ⟨n6, x4⟩ := s
    refine bUc ?_
    refine oView (T' := [(3, .d (.int .i64 n6)), (7, .d (.lit (List.map e_i64 d0))), (8, .d (.int .i64 ((List.length d0) : Int))), (9, .d (.int .i64 x4))]) (H' := []) (h := ?_)
    refine oSR rfl ?_
    refine oP (.d (.bool (decide (x4 < ((List.length d0) : Int))))) (p_int (k := .i64) (p := x4) (q := ((List.length d0) : Int))) ?_
    refine oEnd ?_
    refine oSeq ?_
    refine bSplit 10 (h1 := fun hc => ?_) (h2 := fun hc => ?_)
    ·refine oCondT (h := ?_)
     refine oSkip ?_
     refine oSeq ?_
     refine oBlock ?_
     refine oSR rfl ?_
     refine oP (.d (.int .i64 x4)) p_move ?_
     refine bIdx (fun e113 h126 h127 => ?_)
     refine oP (.lptr (e_i64 e113) 0) (k_idxLit e_i64_len d0 (a := e113) (k := .i64) (i := x4) (hu := Try.underlying22) (hi := ty3) (h0 := h126) (he := h127)) ?_
     refine oQ (.d (.int .i64 e113)) (k_loadL (cells := e_i64 e113) 0 (hu := Try.underlying3)) ?_
     refine oP (.d (.int .i64 x4)) p_assign ?_
     refine oP (.d (.int .i64 e113)) p_assign ?_
     refine oEnd ?_
     refine oRegion rfl ?_
     refine oP (.d (.int .i64 n6)) p_move ?_
     refine oP (.d (.int .i64 x4)) p_move ?_
     refine oP (.d (.int .i64 e113)) p_move ?_
     refine oP (.d (.int .i64 (IntKind.wrap .i64 (x4 * e113)))) (p_int (k := .i64) (p := x4) (q := e113)) ?_
     refine oP (.d (.int .i64 (IntKind.wrap .i64 (n6 + (IntKind.wrap .i64 (x4 * e113)))))) (p_int (k := .i64) (p := n6) (q := (IntKind.wrap .i64 (x4 * e113)))) ?_
     refine oP (.d (.int .i64 (IntKind.wrap .i64 (n6 + (IntKind.wrap .i64 (x4 * e113)))))) p_assign ?_
     refine oEnd ?_
     refine oBlk ?_
     refine oRegion rfl ?_
     refine oP (.d (.int .i64 (IntKind.wrap .i64 (x4 + 1)))) (p_int (k := .i64) (p := x4) (q := 1)) ?_
     refine oP (.d (.int .i64 (IntKind.wrap .i64 (x4 + 1)))) p_move ?_
     refine oEnd ?_
     refine oAgain ?_
     refine oHead [3, 7, 8, 9] [] (T' := [(3, .d (.int .i64 (IntKind.wrap .i64 (n6 + (IntKind.wrap .i64 (x4 * e113)))))), (7, .d (.lit (List.map e_i64 d0))), (8, .d (.int .i64 ((List.length d0) : Int))), (9, .d (.int .i64 (IntKind.wrap .i64 (x4 + 1))))]) (H' := []) (hnd := by decide) (h := ?_)
     exact hag1 ((IntKind.wrap .i64 (n6 + (IntKind.wrap .i64 (x4 * e113)))), (IntKind.wrap .i64 (x4 + 1)))
    ·refine oCondF (h := ?_)
     refine oExit rfl ?_
     refine oHead [3] [] (T' := [(3, .d (.int .i64 n6))]) (H' := []) (hnd := by decide) (h := ?_)
     exact hj2 n6

/-- awardingbody/distribution.Mean -/
def distribution_Mean (k : Nat) (d0 : (List Int)) : Option (Int × Int × Int) := Option.bind (distribution_check k d0) (fun r18 => bif (r18 != 0) then some (0, 0, r18) else Option.bind (distribution_points k d0) (fun r11 => Option.bind (distribution_Count k d0) (fun r111 => Option.bind (ratio_New k r11 r111) (uc fun r13 => uc fun r16 => fun r17 => some (r13, r16, r17)))))
def distribution_Mean_E (d0 : (List Int)) : Int × Int × Int → V × List Blk := uc fun r12 => uc fun r14 => fun r15 => (.tuple [.agg [.d (.int .i64 r12), .d (.int .i64 r14)], .d (.int .i64 r15)], [])
theorem distribution_Mean_goes (k : Nat) (d0 : (List Int)) : RunsO Try.prog 73 [.agg [.d (.lit (List.map e_i64 d0))]] [] (distribution_Mean_E d0) (distribution_Mean k d0) := by
  refine RunsO.of_goes (N := 18) (m := 0) (T := [(0, .agg [.d (.lit (List.map e_i64 d0))])]) Try.func73 rfl rfl (h := ?_)
  unfold distribution_Mean
  refine bStart ?_
  refine oSR rfl ?_
  refine oD (.ptr 0 0) (k_box (H' := [.box [.d (.lit (List.map e_i64 d0))]]) (cells := [.d (.lit (List.map e_i64 d0))])) ?_
  refine oD (.ptr 1 0) (k_alloc (H' := [.box [.d (.lit (List.map e_i64 d0))], .box [.d (.int .i64 0), .d (.int .i64 0)]]) ty38) ?_
  refine oP (.d (.int .i64 0)) p_assign ?_
  refine oEnd ?_
  refine oSeq ?_
  refine oSR rfl ?_
  refine oQ (.agg [.d (.lit (List.map e_i64 d0))]) (k_loadAgg 0 0 (hu := Try.underlying28) (hi := ty28)) ?_
  refine bCall (caps := []) (v := (fun (r18 : Int) => (.d (.int .i64 r18) : V))) (H' := (fun (r18 : Int) => ([.box [.d (.lit (List.map e_i64 d0))], .box [.d (.int .i64 0), .d (.int .i64 0)]] : List Blk))) [] _ (distribution_check_goes k d0) (ho := rfl) (hfn := Try.func76) (hb := rfl) (hconv := ConvRs.refl _ _) (hnd := by decide) (hBl := fun _ => (by kernel_rfl)) (hv := fun _ => (by kernel_rfl)) (hH' := fun _ => (by kernel_rfl)) (h := fun r18 => ?_)
  refine oP (.d (.int .i64 r18)) p_assign ?_
  refine oEnd ?_
  refine oSR rfl ?_
  refine oP (.d (.int .i64 r18)) p_move ?_
  refine oP (.d (.bool (r18 != 0))) (p_int (k := .i64) (p := r18) (q := 0)) ?_
  refine oEnd ?_
  refine bSplit 8 (h1 := fun hc => ?_) (h2 := fun hc => ?_)
  ·refine oCondT (h := ?_)
   refine oSR rfl ?_
   refine oP (.agg [.d (.int .i64 0), .d (.int .i64 0)]) (p_build bld38) ?_
   refine oP (.d (.int .i64 r18)) p_move ?_
   refine oD (.undef) (k_store (vs := [.d (.int .i64 0), .d (.int .i64 0)]) (H' := [.box [.d (.lit (List.map e_i64 d0))], .box [.d (.int .i64 0), .d (.int .i64 0)]]) 1 0 (hi := ty38)) ?_
   refine oP (.d (.int .i64 r18)) p_assign ?_
   refine oEnd ?_
   exact oRet (r0 := (0, 0, r18)) (rv := .tuple [.agg [.d (.int .i64 0), .d (.int .i64 0)], .d (.int .i64 r18)]) (B := []) (vs := [.agg [.d (.int .i64 0), .d (.int .i64 0)], .d (.int .i64 r18)]) (σ := []) (hf := Try.func73) (hrs := rfl) (hres := .cons _ _ _ _ (.agg 2 38 1 0 [.d (.int .i64 0), .d (.int .i64 0)] [.d (.int .i64 0), .d (.int .i64 0)] _ _ _ _ (by kernel_rfl) (by kernel_rfl) Try.underlying38 (by kernel_rfl) ty38 (by kernel_rfl) (by kernel_rfl)) (.cons _ _ _ _ (.tmp 3 _ (by kernel_rfl)) .nil)) (hnd := by decide)
  ·refine oCondF (h := ?_)
   refine oSkip ?_
   refine oSeq ?_
   refine oDraw [(0, 9), (1, 7)] rfl ?_
   refine aQ 0 [0] (.agg [.d (.lit (List.map e_i64 d0))]) rfl (k_loadAgg 0 0 (hu := Try.underlying28) (hi := ty28)) ?_
   refine aQ 2 [0] (.agg [.d (.lit (List.map e_i64 d0))]) rfl (k_loadAgg 0 0 (hu := Try.underlying28) (hi := ty28)) ?_
   refine dCall (i := 1) (caps := []) (v := (fun (r11 : Int) => (.d (.int .i64 r11) : V))) (H' := (fun (r11 : Int) => ([.box [.d (.lit (List.map e_i64 d0))], .box [.d (.int .i64 0), .d (.int .i64 0)]] : List Blk))) [] _ (distribution_points_goes k d0) rfl (ho := rfl) (hfn := Try.func77) (hb := rfl) (hconv := ConvRs.refl _ _) (hnd := by decide) (hBl := fun _ => (by kernel_rfl)) (hv := fun _ => (by kernel_rfl)) (hH' := fun _ => (by kernel_rfl)) (h := fun r11 => ?_)
   refine dCall (i := 3) (caps := []) (v := (fun (r111 : Int) => (.d (.int .i64 r111) : V))) (H' := (fun (r111 : Int) => ([.box [.d (.lit (List.map e_i64 d0))], .box [.d (.int .i64 0), .d (.int .i64 0)]] : List Blk))) [] _ (distribution_Count_goes k d0) rfl (ho := rfl) (hfn := Try.func32) (hb := rfl) (hconv := ConvRs.refl _ _) (hnd := by decide) (hBl := fun _ => (by kernel_rfl)) (hv := fun _ => (by kernel_rfl)) (hH' := fun _ => (by kernel_rfl)) (h := fun r111 => ?_)
   refine dCall (i := 4) (caps := []) (v := (uc fun (r13 : Int) => (uc fun (r16 : Int) => (fun (r17 : Int) => (.tuple [.agg [.d (.int .i64 r13), .d (.int .i64 r16)], .d (.int .i64 r17)] : V))))) (H' := (uc fun (r13 : Int) => (uc fun (r16 : Int) => (fun (r17 : Int) => ([.box [.d (.lit (List.map e_i64 d0))], .box [.d (.int .i64 0), .d (.int .i64 0)]] : List Blk))))) [] _ (ratio_New_goes k r11 r111) rfl (ho := rfl) (hfn := Try.func61) (hb := rfl) (hconv := ConvRs.refl _ _) (hnd := by decide) (hBl := fun _ => (by kernel_rfl)) (hv := fun _ => (by kernel_rfl)) (hH' := fun _ => (by kernel_rfl)) (h := fun r => ?_)
   obtain ⟨r13, r16, r17⟩ := r
   refine dUc ?_
   refine dUc ?_
   refine aTakeP (i := 5) (.agg [.d (.int .i64 r13), .d (.int .i64 r16)]) rfl (hp := k_extract) (h := ?_)
   refine aTakeP (i := 6) (.d (.int .i64 r17)) rfl (hp := k_extract) (h := ?_)
   refine aOne (i := 7) (v := .undef) rfl (hac := Does.acts (k_store (vs := [.d (.int .i64 r13), .d (.int .i64 r16)]) (H' := [.box [.d (.lit (List.map e_i64 d0))], .box [.d (.int .i64 r13), .d (.int .i64 r16)]]) 1 0 (hi := ty38))) (h := ?_)
   refine aP 8 (.d (.int .i64 r17)) rfl p_assign ?_
   refine aDone (h := ?_)
   exact oRet (r0 := (r13, r16, r17)) (rv := .tuple [.agg [.d (.int .i64 r13), .d (.int .i64 r16)], .d (.int .i64 r17)]) (B := []) (vs := [.agg [.d (.int .i64 r13), .d (.int .i64 r16)], .d (.int .i64 r17)]) (σ := []) (hf := Try.func73) (hrs := rfl) (hres := .cons _ _ _ _ (.agg 2 38 1 0 [.d (.int .i64 r13), .d (.int .i64 r16)] [.d (.int .i64 r13), .d (.int .i64 r16)] _ _ _ _ (by kernel_rfl) (by kernel_rfl) Try.underlying38 (by kernel_rfl) ty38 (by kernel_rfl) (by kernel_rfl)) (.cons _ _ _ _ (.tmp 3 _ (by kernel_rfl)) .nil)) (hnd := by decide)

/-- awardingbody/conversion.Line -/
def conversion_Line (k : Nat) (slope0 : Int) (slope1 : Int) (at0 : Int) (at1 : Int) : Option ((List SPoint) × Int) := Option.bind (ratio_Valid k slope0 slope1) (fun r126 => Option.bind (bif (!r126) then some true else Option.bind (ratio_Valid k at0 at1) (fun r128 => some (!r128)) : Option (Bool)) (fun x3 => bif x3 then some ([], 1) else bif (decide (slope0 ≤ 0)) then some ([], 2) else Option.bind (conversion_calc_add k slope0 slope1 at0 at1 0) (uc fun r15 => uc fun r111 => fun x12 => bif (x12 != 0) then some ([], x12) else Option.bind (conversion_whole k 0) (u0 (Option.bind (conversion_whole k 1) (u0 (some (([(⟨0, 1, at0, at1⟩ : SPoint), (⟨1, 1, r15, r111⟩ : SPoint)] : List SPoint), 0))))))))
def conversion_Line_E (slope0 : Int) (slope1 : Int) (at0 : Int) (at1 : Int) : (List SPoint) × Int → V × List Blk := uc fun r13 => fun r14 => (.tuple [.agg [.d (.lit (List.map e_SPoint r13))], .d (.int .i64 r14)], [])
theorem conversion_Line_goes (k : Nat) (slope0 : Int) (slope1 : Int) (at0 : Int) (at1 : Int) : RunsO Try.prog 26 [.agg [.d (.int .i64 slope0), .d (.int .i64 slope1)], .agg [.d (.int .i64 at0), .d (.int .i64 at1)]] [] (conversion_Line_E slope0 slope1 at0 at1) (conversion_Line k slope0 slope1 at0 at1) := by
  refine RunsO.of_goes (N := 40) (m := 0) (T := [(0, .agg [.d (.int .i64 slope0), .d (.int .i64 slope1)]), (1, .agg [.d (.int .i64 at0), .d (.int .i64 at1)])]) Try.func26 rfl rfl (h := ?_)
  unfold conversion_Line
  refine bStart ?_
  refine oSR rfl ?_
  refine oD (.ptr 0 0) (k_box (H' := [.box [.d (.int .i64 slope0), .d (.int .i64 slope1)]]) (cells := [.d (.int .i64 slope0), .d (.int .i64 slope1)])) ?_
  refine oD (.ptr 1 0) (k_box (H' := [.box [.d (.int .i64 slope0), .d (.int .i64 slope1)], .box [.d (.int .i64 at0), .d (.int .i64 at1)]]) (cells := [.d (.int .i64 at0), .d (.int .i64 at1)])) ?_
  refine oD (.ptr 2 0) (k_alloc (H' := [.box [.d (.int .i64 slope0), .d (.int .i64 slope1)], .box [.d (.int .i64 at0), .d (.int .i64 at1)], .box [.nilc]]) ty32) ?_
  refine oP (.d (.int .i64 0)) p_assign ?_
  refine oEnd ?_
  refine oSeq ?_
  refine oBlock ?_
  refine oSR rfl ?_
  refine oQ (.agg [.d (.int .i64 slope0), .d (.int .i64 slope1)]) (k_loadAgg 0 0 (hu := Try.underlying38) (hi := ty38)) ?_
  refine bCall (caps := []) (v := (fun (r126 : Bool) => (.d (.bool r126) : V))) (H' := (fun (r126 : Bool) => ([.box [.d (.int .i64 slope0), .d (.int .i64 slope1)], .box [.d (.int .i64 at0), .d (.int .i64 at1)], .box [.nilc]] : List Blk))) [] _ (ratio_Valid_goes k slope0 slope1) (ho := rfl) (hfn := Try.func39) (hb := rfl) (hconv := ConvRs.refl _ _) (hnd := by decide) (hBl := fun _ => (by kernel_rfl)) (hv := fun _ => (by kernel_rfl)) (hH' := fun _ => (by kernel_rfl)) (h := fun r126 => ?_)
  refine oP (.d (.bool (!r126))) (p_not (p := r126)) ?_
  refine oP (.d (.bool (!r126))) p_move ?_
  refine bMeet 4 rfl ((fun (x3 : Bool) => [(2, .ptr 0 0), (3, .ptr 1 0), (4, .ptr 2 0), (16, .d (.bool x3))])) ((fun (x3 : Bool) => [.box [.d (.int .i64 slope0), .d (.int .i64 slope1)], .box [.d (.int .i64 at0), .d (.int .i64 at1)], .box [.nilc]])) (fun s => s) (fun x3 => ?_) (fun hj1 => ?_)
  ·refine oView (T' := [(2, .ptr 0 0), (3, .ptr 1 0), (4, .ptr 2 0), (16, .d (.bool x3))]) (H' := [.box [.d (.int .i64 slope0), .d (.int .i64 slope1)], .box [.d (.int .i64 at0), .d (.int .i64 at1)], .box [.nilc]]) (h := ?_)
   refine oP (.d (.bool x3)) p_assign ?_
   refine oEnd ?_
   refine bSplit 8 (h1 := fun hc => ?_) (h2 := fun hc => ?_)
   ·refine oCondT (h := ?_)
    refine oSR rfl ?_
    refine oP (.agg [.nilc]) (p_build bld32) ?_
    refine oD (.undef) (k_store (vs := [.nilc]) (H' := [.box [.d (.int .i64 slope0), .d (.int .i64 slope1)], .box [.d (.int .i64 at0), .d (.int .i64 at1)], .box [.nilc]]) 2 0 (hi := ty32)) ?_
    refine oP (.d (.int .i64 1)) p_assign ?_
    refine oEnd ?_
    refine oConvB 2 (cells := [.nilc]) (cells' := [.d (.lit (List.map e_SPoint []))]) (hc := .cons _ _ _ _ .nil .nil) (h := ?_)
    refine oView (H' := [.box [.d (.int .i64 slope0), .d (.int .i64 slope1)], .box [.d (.int .i64 at0), .d (.int .i64 at1)], .box [.d (.lit (List.map e_SPoint []))]]) rfl (h := ?_)
    exact oRet (r0 := ([], 1)) (rv := .tuple [.agg [.d (.lit (List.map e_SPoint []))], .d (.int .i64 1)]) (B := []) (vs := [.agg [.d (.lit (List.map e_SPoint []))], .d (.int .i64 1)]) (σ := []) (hf := Try.func26) (hrs := rfl) (hres := .cons _ _ _ _ (.agg 4 32 2 0 [.d (.lit (List.map e_SPoint []))] [.d (.lit (List.map e_SPoint []))] _ _ _ _ (by kernel_rfl) (by kernel_rfl) Try.underlying32 (by kernel_rfl) ty32 (by kernel_rfl) (by kernel_rfl)) (.cons _ _ _ _ (.tmp 5 _ (by kernel_rfl)) .nil)) (hnd := by decide)
   ·refine oCondF (h := ?_)
    refine oSR rfl ?_
    refine oP (.ptr 0 0) (k_fieldAddr 0 0 (hu := Try.underlying38) (hf := rfl) (hi := ty3)) ?_
    refine oQ (.d (.int .i64 slope0)) (k_load 0 0 (hu := Try.underlying3)) ?_
    refine oP (.d (.bool (decide (slope0 ≤ 0)))) (p_int (k := .i64) (p := slope0) (q := 0)) ?_
    refine oP (.d (.bool (decide (slope0 ≤ 0)))) p_assign ?_
    refine oEnd ?_
    refine bSplit 18 (h1 := fun hc => ?_) (h2 := fun hc => ?_)
    ·refine oCondT (h := ?_)
     refine oSR rfl ?_
     refine oP (.agg [.nilc]) (p_build bld32) ?_
     refine oD (.undef) (k_store (vs := [.nilc]) (H' := [.box [.d (.int .i64 slope0), .d (.int .i64 slope1)], .box [.d (.int .i64 at0), .d (.int .i64 at1)], .box [.nilc]]) 2 0 (hi := ty32)) ?_
     refine oP (.d (.int .i64 2)) p_assign ?_
     refine oEnd ?_
     refine oConvB 2 (cells := [.nilc]) (cells' := [.d (.lit (List.map e_SPoint []))]) (hc := .cons _ _ _ _ .nil .nil) (h := ?_)
     refine oView (H' := [.box [.d (.int .i64 slope0), .d (.int .i64 slope1)], .box [.d (.int .i64 at0), .d (.int .i64 at1)], .box [.d (.lit (List.map e_SPoint []))]]) rfl (h := ?_)
     exact oRet (r0 := ([], 2)) (rv := .tuple [.agg [.d (.lit (List.map e_SPoint []))], .d (.int .i64 2)]) (B := []) (vs := [.agg [.d (.lit (List.map e_SPoint []))], .d (.int .i64 2)]) (σ := []) (hf := Try.func26) (hrs := rfl) (hres := .cons _ _ _ _ (.agg 4 32 2 0 [.d (.lit (List.map e_SPoint []))] [.d (.lit (List.map e_SPoint []))] _ _ _ _ (by kernel_rfl) (by kernel_rfl) Try.underlying32 (by kernel_rfl) ty32 (by kernel_rfl) (by kernel_rfl)) (.cons _ _ _ _ (.tmp 5 _ (by kernel_rfl)) .nil)) (hnd := by decide)
    ·refine oCondF (h := ?_)
     refine oSkip ?_
     refine oBlk ?_
     refine oSR rfl ?_
     refine oD (.ptr 3 0) (k_alloc (H' := [.box [.d (.int .i64 slope0), .d (.int .i64 slope1)], .box [.d (.int .i64 at0), .d (.int .i64 at1)], .box [.nilc], .box [.d (.int .i64 0)]]) ty69) ?_
     refine oEnd ?_
     refine oSR rfl ?_
     refine oQ (.agg [.d (.int .i64 slope0), .d (.int .i64 slope1)]) (k_loadAgg 0 0 (hu := Try.underlying38) (hi := ty38)) ?_
     refine oQ (.agg [.d (.int .i64 at0), .d (.int .i64 at1)]) (k_loadAgg 1 0 (hu := Try.underlying38) (hi := ty38)) ?_
     refine bCall (caps := []) (v := (uc fun (r15 : Int) => (uc fun (r111 : Int) => (fun (x12 : Int) => (.agg [.d (.int .i64 r15), .d (.int .i64 r111)] : V))))) (H' := (uc fun (r15 : Int) => (uc fun (r111 : Int) => (fun (x12 : Int) => ([.box [.d (.int .i64 slope0), .d (.int .i64 slope1)], .box [.d (.int .i64 at0), .d (.int .i64 at1)], .box [.nilc], .box [.d (.int .i64 x12)]] : List Blk))))) [3] _ (conversion_calc_add_goes k slope0 slope1 at0 at1 0) (ho := rfl) (hfn := Try.func54) (hb := rfl) (hconv := ConvRs.refl _ _) (hnd := by decide) (hBl := fun _ => (by kernel_rfl)) (hv := fun _ => (by kernel_rfl)) (hH' := fun _ => (by kernel_rfl)) (h := fun r => ?_)
     obtain ⟨r15, r111, x12⟩ := r
     refine bUc ?_
     refine bUc ?_
     refine oD (.ptr 4 0) (k_alloc (H' := [.box [.d (.int .i64 slope0), .d (.int .i64 slope1)], .box [.d (.int .i64 at0), .d (.int .i64 at1)], .box [.nilc], .box [.d (.int .i64 x12)], .box [.d (.int .i64 0), .d (.int .i64 0)]]) ty38) ?_
     refine oD (.undef) (k_store (vs := [.d (.int .i64 r15), .d (.int .i64 r111)]) (H' := [.box [.d (.int .i64 slope0), .d (.int .i64 slope1)], .box [.d (.int .i64 at0), .d (.int .i64 at1)], .box [.nilc], .box [.d (.int .i64 x12)], .box [.d (.int .i64 r15), .d (.int .i64 r111)]]) 4 0 (hi := ty38)) ?_
     refine oEnd ?_
     refine oSeq ?_
     refine oSR rfl ?_
     refine oP (.ptr 3 0) (k_fieldAddr 3 0 (hu := Try.underlying69) (hf := rfl) (hi := ty33)) ?_
     refine oQ (.d (.int .i64 x12)) (k_load 3 0 (hu := Try.underlying33)) ?_
     refine oP (.d (.bool (x12 != 0))) (p_int (k := .i64) (p := x12) (q := 0)) ?_
     refine oEnd ?_
     refine bSplit 28 (h1 := fun hc => ?_) (h2 := fun hc => ?_)
     ·refine oCondT (h := ?_)
      refine oSeq ?_
      refine oDraw [(0, 5), (1, 5), (2, 3), (3, 5), (4, 5)] rfl ?_
      refine aP 0 (.agg [.nilc]) rfl (p_build bld32) ?_
      refine aP 1 (.ptr 3 0) rfl (k_fieldAddr 3 0 (hu := Try.underlying69) (hf := rfl) (hi := ty33)) ?_
      refine aQ 2 [3] (.d (.int .i64 x12)) rfl (k_load 3 0 (hu := Try.underlying33)) ?_
      refine aOne (i := 3) (v := .undef) rfl (hac := Does.acts (k_store (vs := [.nilc]) (H' := [.box [.d (.int .i64 slope0), .d (.int .i64 slope1)], .box [.d (.int .i64 at0), .d (.int .i64 at1)], .box [.nilc], .box [.d (.int .i64 x12)], .box [.d (.int .i64 r15), .d (.int .i64 r111)]]) 2 0 (hi := ty32))) (h := ?_)
      refine aP 4 (.d (.int .i64 x12)) rfl p_assign ?_
      refine aDone (h := ?_)
      refine oConvB 2 (cells := [.nilc]) (cells' := [.d (.lit (List.map e_SPoint []))]) (hc := .cons _ _ _ _ .nil .nil) (h := ?_)
      refine oView (H' := [.box [.d (.int .i64 slope0), .d (.int .i64 slope1)], .box [.d (.int .i64 at0), .d (.int .i64 at1)], .box [.d (.lit (List.map e_SPoint []))], .box [.d (.int .i64 x12)], .box [.d (.int .i64 r15), .d (.int .i64 r111)]]) rfl (h := ?_)
      exact oRet (r0 := ([], x12)) (rv := .tuple [.agg [.d (.lit (List.map e_SPoint []))], .d (.int .i64 x12)]) (B := []) (vs := [.agg [.d (.lit (List.map e_SPoint []))], .d (.int .i64 x12)]) (σ := []) (hf := Try.func26) (hrs := rfl) (hres := .cons _ _ _ _ (.agg 4 32 2 0 [.d (.lit (List.map e_SPoint []))] [.d (.lit (List.map e_SPoint []))] _ _ _ _ (by kernel_rfl) (by kernel_rfl) Try.underlying32 (by kernel_rfl) ty32 (by kernel_rfl) (by kernel_rfl)) (.cons _ _ _ _ (.tmp 5 _ (by kernel_rfl)) .nil)) (hnd := by decide)
     ·refine oCondF (h := ?_)
      refine oSkip ?_
      refine oSeq ?_
      refine oDraw [(0, 10), (1, 10), (2, 8), (3, 10), (4, 10)] rfl ?_
      refine aQ 1 [1] (.agg [.d (.int .i64 at0), .d (.int .i64 at1)]) rfl (k_loadAgg 1 0 (hu := Try.underlying38) (hi := ty38)) ?_
      refine aQ 4 [4] (.agg [.d (.int .i64 r15), .d (.int .i64 r111)]) rfl (k_loadAgg 4 0 (hu := Try.underlying38) (hi := ty38)) ?_
      refine dCall (i := 0) (caps := []) (v := (u0 ((.agg [.d (.int .i64 0), .d (.int .i64 1)] : V)))) (H' := (u0 (([.box [.d (.int .i64 slope0), .d (.int .i64 slope1)], .box [.d (.int .i64 at0), .d (.int .i64 at1)], .box [.nilc], .box [.d (.int .i64 x12)], .box [.d (.int .i64 r15), .d (.int .i64 r111)]] : List Blk)))) [] _ (conversion_whole_goes k 0) rfl (ho := rfl) (hfn := Try.func55) (hb := rfl) (hconv := ConvRs.refl _ _) (hnd := by decide) (hBl := fun _ => (by kernel_rfl)) (hv := fun _ => (by kernel_rfl)) (hH' := fun _ => (by kernel_rfl)) (h := fun r => ?_)
      cases r
      refine dU0 ?_
      refine aTakeP (i := 2) (.agg [.d (.int .i64 0), .d (.int .i64 1), .d (.int .i64 at0), .d (.int .i64 at1)]) rfl (hp := p_build bld60) (h := ?_)
      refine dCall (i := 3) (caps := []) (v := (u0 ((.agg [.d (.int .i64 1), .d (.int .i64 1)] : V)))) (H' := (u0 (([.box [.d (.int .i64 slope0), .d (.int .i64 slope1)], .box [.d (.int .i64 at0), .d (.int .i64 at1)], .box [.nilc], .box [.d (.int .i64 x12)], .box [.d (.int .i64 r15), .d (.int .i64 r111)]] : List Blk)))) [] _ (conversion_whole_goes k 1) rfl (ho := rfl) (hfn := Try.func55) (hb := rfl) (hconv := ConvRs.refl _ _) (hnd := by decide) (hBl := fun _ => (by kernel_rfl)) (hv := fun _ => (by kernel_rfl)) (hH' := fun _ => (by kernel_rfl)) (h := fun r => ?_)
      cases r
      refine dU0 ?_
      refine aTakeP (i := 5) (.agg [.d (.int .i64 1), .d (.int .i64 1), .d (.int .i64 r15), .d (.int .i64 r111)]) rfl (hp := p_build bld60) (h := ?_)
      refine aOne (i := 6) (v := .ref 5 (List.length ([(⟨0, 1, at0, at1⟩ : SPoint), (⟨1, 1, r15, r111⟩ : SPoint)] : List SPoint)) 0 (List.length ([(⟨0, 1, at0, at1⟩ : SPoint), (⟨1, 1, r15, r111⟩ : SPoint)] : List SPoint))) rfl (hac := (Does.acts (k_buildSlice (H' := [.box [.d (.int .i64 slope0), .d (.int .i64 slope1)], .box [.d (.int .i64 at0), .d (.int .i64 at1)], .box [.nilc], .box [.d (.int .i64 x12)], .box [.d (.int .i64 r15), .d (.int .i64 r111)], .sl 4 (List.map e_SPoint ([(⟨0, 1, at0, at1⟩ : SPoint), (⟨1, 1, r15, r111⟩ : SPoint)] : List SPoint)) false]) (List.map e_SPoint ([(⟨0, 1, at0, at1⟩ : SPoint), (⟨1, 1, r15, r111⟩ : SPoint)] : List SPoint)) Try.underlying30 ty60))) (h := ?_)
      refine aTakeP (i := 7) (.agg [.ref 5 (List.length ([(⟨0, 1, at0, at1⟩ : SPoint), (⟨1, 1, r15, r111⟩ : SPoint)] : List SPoint)) 0 (List.length ([(⟨0, 1, at0, at1⟩ : SPoint), (⟨1, 1, r15, r111⟩ : SPoint)] : List SPoint))]) rfl (hp := p_build bld32) (h := ?_)
      refine aOne (i := 8) (v := .undef) rfl (hac := (Does.acts (k_store (vs := [.ref 5 (List.length ([(⟨0, 1, at0, at1⟩ : SPoint), (⟨1, 1, r15, r111⟩ : SPoint)] : List SPoint)) 0 (List.length ([(⟨0, 1, at0, at1⟩ : SPoint), (⟨1, 1, r15, r111⟩ : SPoint)] : List SPoint))]) (H' := [.box [.d (.int .i64 slope0), .d (.int .i64 slope1)], .box [.d (.int .i64 at0), .d (.int .i64 at1)], .box [.ref 5 (List.length ([(⟨0, 1, at0, at1⟩ : SPoint), (⟨1, 1, r15, r111⟩ : SPoint)] : List SPoint)) 0 (List.length ([(⟨0, 1, at0, at1⟩ : SPoint), (⟨1, 1, r15, r111⟩ : SPoint)] : List SPoint))], .box [.d (.int .i64 x12)], .box [.d (.int .i64 r15), .d (.int .i64 r111)], .sl 4 (List.map e_SPoint ([(⟨0, 1, at0, at1⟩ : SPoint), (⟨1, 1, r15, r111⟩ : SPoint)] : List SPoint)) false]) 2 0 (hi := ty32)))) (h := ?_)
      refine aP 9 (.d (.int .i64 0)) rfl p_assign ?_
      refine aDone (h := ?_)
      refine oFreeze 5 (esz := 4) (xs := List.map e_SPoint ([(⟨0, 1, at0, at1⟩ : SPoint), (⟨1, 1, r15, r111⟩ : SPoint)] : List SPoint)) (h := ?_)
      refine oView (H' := [.box [.d (.int .i64 slope0), .d (.int .i64 slope1)], .box [.d (.int .i64 at0), .d (.int .i64 at1)], .box [.ref 5 (List.length ([(⟨0, 1, at0, at1⟩ : SPoint), (⟨1, 1, r15, r111⟩ : SPoint)] : List SPoint)) 0 (List.length ([(⟨0, 1, at0, at1⟩ : SPoint), (⟨1, 1, r15, r111⟩ : SPoint)] : List SPoint))], .box [.d (.int .i64 x12)], .box [.d (.int .i64 r15), .d (.int .i64 r111)], .sl 4 (List.map e_SPoint ([(⟨0, 1, at0, at1⟩ : SPoint), (⟨1, 1, r15, r111⟩ : SPoint)] : List SPoint)) true]) rfl (h := ?_)
      refine oConvB 2 (cells := [.ref 5 (List.length ([(⟨0, 1, at0, at1⟩ : SPoint), (⟨1, 1, r15, r111⟩ : SPoint)] : List SPoint)) 0 (List.length ([(⟨0, 1, at0, at1⟩ : SPoint), (⟨1, 1, r15, r111⟩ : SPoint)] : List SPoint))]) (cells' := [.d (.lit (List.map e_SPoint ([(⟨0, 1, at0, at1⟩ : SPoint), (⟨1, 1, r15, r111⟩ : SPoint)] : List SPoint)))]) (hc := (.cons _ _ _ _ (k_lit (enc := e_SPoint) (sz := 4) 5 ([(⟨0, 1, at0, at1⟩ : SPoint), (⟨1, 1, r15, r111⟩ : SPoint)] : List SPoint)) .nil)) (h := ?_)
      refine oView (H' := [.box [.d (.int .i64 slope0), .d (.int .i64 slope1)], .box [.d (.int .i64 at0), .d (.int .i64 at1)], .box [.d (.lit (List.map e_SPoint ([(⟨0, 1, at0, at1⟩ : SPoint), (⟨1, 1, r15, r111⟩ : SPoint)] : List SPoint)))], .box [.d (.int .i64 x12)], .box [.d (.int .i64 r15), .d (.int .i64 r111)], .sl 4 (List.map e_SPoint ([(⟨0, 1, at0, at1⟩ : SPoint), (⟨1, 1, r15, r111⟩ : SPoint)] : List SPoint)) true]) rfl (h := ?_)
      exact oRet (r0 := (([(⟨0, 1, at0, at1⟩ : SPoint), (⟨1, 1, r15, r111⟩ : SPoint)] : List SPoint), 0)) (rv := .tuple [.agg [.d (.lit (List.map e_SPoint ([(⟨0, 1, at0, at1⟩ : SPoint), (⟨1, 1, r15, r111⟩ : SPoint)] : List SPoint)))], .d (.int .i64 0)]) (B := []) (vs := [.agg [.d (.lit (List.map e_SPoint ([(⟨0, 1, at0, at1⟩ : SPoint), (⟨1, 1, r15, r111⟩ : SPoint)] : List SPoint)))], .d (.int .i64 0)]) (σ := []) (hf := Try.func26) (hrs := rfl) (hres := (.cons _ _ _ _ (.agg 4 32 2 0 [.d (.lit (List.map e_SPoint ([(⟨0, 1, at0, at1⟩ : SPoint), (⟨1, 1, r15, r111⟩ : SPoint)] : List SPoint)))] [.d (.lit (List.map e_SPoint ([(⟨0, 1, at0, at1⟩ : SPoint), (⟨1, 1, r15, r111⟩ : SPoint)] : List SPoint)))] _ _ _ _ (by kernel_rfl) (by kernel_rfl) Try.underlying32 (by kernel_rfl) ty32 (by kernel_rfl) (by kernel_rfl)) (.cons _ _ _ _ (.tmp 5 _ (by kernel_rfl)) .nil))) (hnd := by decide)
  ·refine bSplit 12 (h1 := fun hc => ?_) (h2 := fun hc => ?_)
   ·refine oNot (h := ?_)
    refine oNot (h := ?_)
    refine oNot (h := ?_)
    refine oP (.d (.bool true)) (p_pick (b := true)) ?_
    refine oHead [2, 3, 4, 16] [0, 1, 2] (T' := [(2, .ptr 0 0), (3, .ptr 1 0), (4, .ptr 2 0), (16, .d (.bool true))]) (H' := [.box [.d (.int .i64 slope0), .d (.int .i64 slope1)], .box [.d (.int .i64 at0), .d (.int .i64 at1)], .box [.nilc]]) (hnd := by decide) (h := ?_)
    exact hj1 true
   ·refine oQ (.agg [.d (.int .i64 at0), .d (.int .i64 at1)]) (k_loadAgg 1 0 (hu := Try.underlying38) (hi := ty38)) ?_
    refine bCall (caps := []) (v := (fun (r128 : Bool) => (.d (.bool r128) : V))) (H' := (fun (r128 : Bool) => ([.box [.d (.int .i64 slope0), .d (.int .i64 slope1)], .box [.d (.int .i64 at0), .d (.int .i64 at1)], .box [.nilc]] : List Blk))) [] _ (ratio_Valid_goes k at0 at1) (ho := rfl) (hfn := Try.func39) (hb := rfl) (hconv := ConvRs.refl _ _) (hnd := by decide) (hBl := fun _ => (by kernel_rfl)) (hv := fun _ => (by kernel_rfl)) (hH' := fun _ => (by kernel_rfl)) (h := fun r128 => ?_)
    refine oP (.d (.bool (!r128))) (p_not (p := r128)) ?_
    refine oP (.d (.bool (!r128))) (p_pick (b := false)) ?_
    refine oHead [2, 3, 4, 16] [0, 1, 2] (T' := [(2, .ptr 0 0), (3, .ptr 1 0), (4, .ptr 2 0), (16, .d (.bool (!r128)))]) (H' := [.box [.d (.int .i64 slope0), .d (.int .i64 slope1)], .box [.d (.int .i64 at0), .d (.int .i64 at1)], .box [.nilc]]) (hnd := by decide) (h := ?_)
    exact hj1 (!r128)

/-- awardingbody/equating.through -/
def equating_through (k : Nat) (x0 : (List Int)) (y0 : (List Int)) (slope0 : Int) (slope1 : Int) : Option ((List SPoint) × Int) := Option.bind (distribution_Mean k x0) (uc fun r122 => uc fun r143 => fun r152 => bif (r152 != 0) then some ([], r152) else Option.bind (distribution_Mean k y0) (uc fun r123 => uc fun r144 => fun r153 => bif (r153 != 0) then some ([], r153) else Option.bind (ratio_Mul k slope0 slope1 r122 r143) (uc fun r171 => uc fun r181 => fun r191 => bif (r191 != 0) then some ([], r191) else Option.bind (ratio_Sub k r123 r144 r171 r181) (uc fun r111 => uc fun r112 => fun r132 => bif (r132 != 0) then some ([], r132) else Option.bind (conversion_Line k slope0 slope1 r111 r112) (uc fun r133 => fun r145 => some (r133, r145))))))
def equating_through_E (x0 : (List Int)) (y0 : (List Int)) (slope0 : Int) (slope1 : Int) : (List SPoint) × Int → V × List Blk := uc fun r16 => fun r110 => (.tuple [.agg [.d (.lit (List.map e_SPoint r16))], .d (.int .i64 r110)], [])
theorem equating_through_goes (k : Nat) (x0 : (List Int)) (y0 : (List Int)) (slope0 : Int) (slope1 : Int) : RunsO Try.prog 43 [.agg [.d (.lit (List.map e_i64 x0))], .agg [.d (.lit (List.map e_i64 y0))], .agg [.d (.int .i64 slope0), .d (.int .i64 slope1)]] [] (equating_through_E x0 y0 slope0 slope1) (equating_through k x0 y0 slope0 slope1) := by
  refine RunsO.of_goes (N := 55) (m := 0) (T := [(0, .agg [.d (.lit (List.map e_i64 x0))]), (1, .agg [.d (.lit (List.map e_i64 y0))]), (2, .agg [.d (.int .i64 slope0), .d (.int .i64 slope1)])]) Try.func43 rfl rfl (h := ?_)
  unfold equating_through
  refine bStart ?_
  refine oSR rfl ?_
  refine oD (.ptr 0 0) (k_box (H' := [.box [.d (.lit (List.map e_i64 x0))]]) (cells := [.d (.lit (List.map e_i64 x0))])) ?_
  refine oD (.ptr 1 0) (k_box (H' := [.box [.d (.lit (List.map e_i64 x0))], .box [.d (.lit (List.map e_i64 y0))]]) (cells := [.d (.lit (List.map e_i64 y0))])) ?_
  refine oD (.ptr 2 0) (k_box (H' := [.box [.d (.lit (List.map e_i64 x0))], .box [.d (.lit (List.map e_i64 y0))], .box [.d (.int .i64 slope0), .d (.int .i64 slope1)]]) (cells := [.d (.int .i64 slope0), .d (.int .i64 slope1)])) ?_
  refine oD (.ptr 3 0) (k_alloc (H' := [.box [.d (.lit (List.map e_i64 x0))], .box [.d (.lit (List.map e_i64 y0))], .box [.d (.int .i64 slope0), .d (.int .i64 slope1)], .box [.nilc]]) ty32) ?_
  refine oP (.d (.int .i64 0)) p_assign ?_
  refine oEnd ?_
  refine oSR rfl ?_
  refine oQ (.agg [.d (.lit (List.map e_i64 x0))]) (k_loadAgg 0 0 (hu := Try.underlying28) (hi := ty28)) ?_
  refine bCall (caps := []) (v := (uc fun (r122 : Int) => (uc fun (r143 : Int) => (fun (r152 : Int) => (.tuple [.agg [.d (.int .i64 r122), .d (.int .i64 r143)], .d (.int .i64 r152)] : V))))) (H' := (uc fun (r122 : Int) => (uc fun (r143 : Int) => (fun (r152 : Int) => ([.box [.d (.lit (List.map e_i64 x0))], .box [.d (.lit (List.map e_i64 y0))], .box [.d (.int .i64 slope0), .d (.int .i64 slope1)], .box [.nilc]] : List Blk))))) [] _ (distribution_Mean_goes k x0) (ho := rfl) (hfn := Try.func73) (hb := rfl) (hconv := ConvRs.refl _ _) (hnd := by decide) (hBl := fun _ => (by kernel_rfl)) (hv := fun _ => (by kernel_rfl)) (hH' := fun _ => (by kernel_rfl)) (h := fun r => ?_)
  obtain ⟨r122, r143, r152⟩ := r
  refine bUc ?_
  refine bUc ?_
  refine oP (.tuple [.agg [.d (.int .i64 r122), .d (.int .i64 r143)], .d (.int .i64 r152)]) p_move ?_
  refine oP (.agg [.d (.int .i64 r122), .d (.int .i64 r143)]) k_extract ?_
  refine oP (.d (.int .i64 r152)) k_extract ?_
  refine oD (.ptr 4 0) (k_alloc (H' := [.box [.d (.lit (List.map e_i64 x0))], .box [.d (.lit (List.map e_i64 y0))], .box [.d (.int .i64 slope0), .d (.int .i64 slope1)], .box [.nilc], .box [.d (.int .i64 0), .d (.int .i64 0)]]) ty38) ?_
  refine oD (.undef) (k_store (vs := [.d (.int .i64 r122), .d (.int .i64 r143)]) (H' := [.box [.d (.lit (List.map e_i64 x0))], .box [.d (.lit (List.map e_i64 y0))], .box [.d (.int .i64 slope0), .d (.int .i64 slope1)], .box [.nilc], .box [.d (.int .i64 r122), .d (.int .i64 r143)]]) 4 0 (hi := ty38)) ?_
  refine oP (.d (.int .i64 r152)) p_assign ?_
  refine oEnd ?_
  refine oSeq ?_
  refine oSR rfl ?_
  refine oP (.d (.int .i64 r152)) p_move ?_
  refine oP (.d (.bool (r152 != 0))) (p_int (k := .i64) (p := r152) (q := 0)) ?_
  refine oEnd ?_
  refine bSplit 18 (h1 := fun hc => ?_) (h2 := fun hc => ?_)
  ·refine oCondT (h := ?_)
   refine oSR rfl ?_
   refine oP (.agg [.nilc]) (p_build bld32) ?_
   refine oP (.d (.int .i64 r152)) p_move ?_
   refine oD (.undef) (k_store (vs := [.nilc]) (H' := [.box [.d (.lit (List.map e_i64 x0))], .box [.d (.lit (List.map e_i64 y0))], .box [.d (.int .i64 slope0), .d (.int .i64 slope1)], .box [.nilc], .box [.d (.int .i64 r122), .d (.int .i64 r143)]]) 3 0 (hi := ty32)) ?_
   refine oP (.d (.int .i64 r152)) p_assign ?_
   refine oEnd ?_
   refine oConvB 3 (cells := [.nilc]) (cells' := [.d (.lit (List.map e_SPoint []))]) (hc := .cons _ _ _ _ .nil .nil) (h := ?_)
   refine oView (H' := [.box [.d (.lit (List.map e_i64 x0))], .box [.d (.lit (List.map e_i64 y0))], .box [.d (.int .i64 slope0), .d (.int .i64 slope1)], .box [.d (.lit (List.map e_SPoint []))], .box [.d (.int .i64 r122), .d (.int .i64 r143)]]) rfl (h := ?_)
   exact oRet (r0 := ([], r152)) (rv := .tuple [.agg [.d (.lit (List.map e_SPoint []))], .d (.int .i64 r152)]) (B := []) (vs := [.agg [.d (.lit (List.map e_SPoint []))], .d (.int .i64 r152)]) (σ := []) (hf := Try.func43) (hrs := rfl) (hres := .cons _ _ _ _ (.agg 6 32 3 0 [.d (.lit (List.map e_SPoint []))] [.d (.lit (List.map e_SPoint []))] _ _ _ _ (by kernel_rfl) (by kernel_rfl) Try.underlying32 (by kernel_rfl) ty32 (by kernel_rfl) (by kernel_rfl)) (.cons _ _ _ _ (.tmp 7 _ (by kernel_rfl)) .nil)) (hnd := by decide)
  ·refine oCondF (h := ?_)
   refine oSkip ?_
   refine oSR rfl ?_
   refine oQ (.agg [.d (.lit (List.map e_i64 y0))]) (k_loadAgg 1 0 (hu := Try.underlying28) (hi := ty28)) ?_
   refine bCall (caps := []) (v := (uc fun (r123 : Int) => (uc fun (r144 : Int) => (fun (r153 : Int) => (.tuple [.agg [.d (.int .i64 r123), .d (.int .i64 r144)], .d (.int .i64 r153)] : V))))) (H' := (uc fun (r123 : Int) => (uc fun (r144 : Int) => (fun (r153 : Int) => ([.box [.d (.lit (List.map e_i64 x0))], .box [.d (.lit (List.map e_i64 y0))], .box [.d (.int .i64 slope0), .d (.int .i64 slope1)], .box [.nilc], .box [.d (.int .i64 r122), .d (.int .i64 r143)]] : List Blk))))) [] _ (distribution_Mean_goes k y0) (ho := rfl) (hfn := Try.func73) (hb := rfl) (hconv := ConvRs.refl _ _) (hnd := by decide) (hBl := fun _ => (by kernel_rfl)) (hv := fun _ => (by kernel_rfl)) (hH' := fun _ => (by kernel_rfl)) (h := fun r => ?_)
   obtain ⟨r123, r144, r153⟩ := r
   refine bUc ?_
   refine bUc ?_
   refine oP (.tuple [.agg [.d (.int .i64 r123), .d (.int .i64 r144)], .d (.int .i64 r153)]) p_move ?_
   refine oP (.agg [.d (.int .i64 r123), .d (.int .i64 r144)]) k_extract ?_
   refine oP (.d (.int .i64 r153)) k_extract ?_
   refine oD (.ptr 5 0) (k_alloc (H' := [.box [.d (.lit (List.map e_i64 x0))], .box [.d (.lit (List.map e_i64 y0))], .box [.d (.int .i64 slope0), .d (.int .i64 slope1)], .box [.nilc], .box [.d (.int .i64 r122), .d (.int .i64 r143)], .box [.d (.int .i64 0), .d (.int .i64 0)]]) ty38) ?_
   refine oD (.undef) (k_store (vs := [.d (.int .i64 r123), .d (.int .i64 r144)]) (H' := [.box [.d (.lit (List.map e_i64 x0))], .box [.d (.lit (List.map e_i64 y0))], .box [.d (.int .i64 slope0), .d (.int .i64 slope1)], .box [.nilc], .box [.d (.int .i64 r122), .d (.int .i64 r143)], .box [.d (.int .i64 r123), .d (.int .i64 r144)]]) 5 0 (hi := ty38)) ?_
   refine oP (.d (.int .i64 r153)) p_assign ?_
   refine oEnd ?_
   refine oSeq ?_
   refine oSR rfl ?_
   refine oP (.d (.int .i64 r153)) p_move ?_
   refine oP (.d (.bool (r153 != 0))) (p_int (k := .i64) (p := r153) (q := 0)) ?_
   refine oEnd ?_
   refine bSplit 27 (h1 := fun hc => ?_) (h2 := fun hc => ?_)
   ·refine oCondT (h := ?_)
    refine oSR rfl ?_
    refine oP (.agg [.nilc]) (p_build bld32) ?_
    refine oP (.d (.int .i64 r153)) p_move ?_
    refine oD (.undef) (k_store (vs := [.nilc]) (H' := [.box [.d (.lit (List.map e_i64 x0))], .box [.d (.lit (List.map e_i64 y0))], .box [.d (.int .i64 slope0), .d (.int .i64 slope1)], .box [.nilc], .box [.d (.int .i64 r122), .d (.int .i64 r143)], .box [.d (.int .i64 r123), .d (.int .i64 r144)]]) 3 0 (hi := ty32)) ?_
    refine oP (.d (.int .i64 r153)) p_assign ?_
    refine oEnd ?_
    refine oConvB 3 (cells := [.nilc]) (cells' := [.d (.lit (List.map e_SPoint []))]) (hc := .cons _ _ _ _ .nil .nil) (h := ?_)
    refine oView (H' := [.box [.d (.lit (List.map e_i64 x0))], .box [.d (.lit (List.map e_i64 y0))], .box [.d (.int .i64 slope0), .d (.int .i64 slope1)], .box [.d (.lit (List.map e_SPoint []))], .box [.d (.int .i64 r122), .d (.int .i64 r143)], .box [.d (.int .i64 r123), .d (.int .i64 r144)]]) rfl (h := ?_)
    exact oRet (r0 := ([], r153)) (rv := .tuple [.agg [.d (.lit (List.map e_SPoint []))], .d (.int .i64 r153)]) (B := []) (vs := [.agg [.d (.lit (List.map e_SPoint []))], .d (.int .i64 r153)]) (σ := []) (hf := Try.func43) (hrs := rfl) (hres := .cons _ _ _ _ (.agg 6 32 3 0 [.d (.lit (List.map e_SPoint []))] [.d (.lit (List.map e_SPoint []))] _ _ _ _ (by kernel_rfl) (by kernel_rfl) Try.underlying32 (by kernel_rfl) ty32 (by kernel_rfl) (by kernel_rfl)) (.cons _ _ _ _ (.tmp 7 _ (by kernel_rfl)) .nil)) (hnd := by decide)
   ·refine oCondF (h := ?_)
    refine oSkip ?_
    refine oSeq ?_
    refine oSR rfl ?_
    refine oQ (.agg [.d (.int .i64 slope0), .d (.int .i64 slope1)]) (k_loadAgg 2 0 (hu := Try.underlying38) (hi := ty38)) ?_
    refine oQ (.agg [.d (.int .i64 r122), .d (.int .i64 r143)]) (k_loadAgg 4 0 (hu := Try.underlying38) (hi := ty38)) ?_
    refine bCall (caps := []) (v := (uc fun (r171 : Int) => (uc fun (r181 : Int) => (fun (r191 : Int) => (.tuple [.agg [.d (.int .i64 r171), .d (.int .i64 r181)], .d (.int .i64 r191)] : V))))) (H' := (uc fun (r171 : Int) => (uc fun (r181 : Int) => (fun (r191 : Int) => ([.box [.d (.lit (List.map e_i64 x0))], .box [.d (.lit (List.map e_i64 y0))], .box [.d (.int .i64 slope0), .d (.int .i64 slope1)], .box [.nilc], .box [.d (.int .i64 r122), .d (.int .i64 r143)], .box [.d (.int .i64 r123), .d (.int .i64 r144)]] : List Blk))))) [] _ (ratio_Mul_goes k slope0 slope1 r122 r143) (ho := rfl) (hfn := Try.func74) (hb := rfl) (hconv := ConvRs.refl _ _) (hnd := by decide) (hBl := fun _ => (by kernel_rfl)) (hv := fun _ => (by kernel_rfl)) (hH' := fun _ => (by kernel_rfl)) (h := fun r => ?_)
    obtain ⟨r171, r181, r191⟩ := r
    refine bUc ?_
    refine bUc ?_
    refine oP (.tuple [.agg [.d (.int .i64 r171), .d (.int .i64 r181)], .d (.int .i64 r191)]) p_move ?_
    refine oP (.agg [.d (.int .i64 r171), .d (.int .i64 r181)]) k_extract ?_
    refine oP (.d (.int .i64 r191)) k_extract ?_
    refine oD (.undef) (k_store (vs := [.d (.int .i64 r171), .d (.int .i64 r181)]) (H' := [.box [.d (.lit (List.map e_i64 x0))], .box [.d (.lit (List.map e_i64 y0))], .box [.d (.int .i64 slope0), .d (.int .i64 slope1)], .box [.nilc], .box [.d (.int .i64 r171), .d (.int .i64 r181)], .box [.d (.int .i64 r123), .d (.int .i64 r144)]]) 4 0 (hi := ty38)) ?_
    refine oP (.d (.int .i64 r191)) p_assign ?_
    refine oEnd ?_
    refine oSR rfl ?_
    refine oP (.d (.int .i64 r191)) p_move ?_
    refine oP (.d (.bool (r191 != 0))) (p_int (k := .i64) (p := r191) (q := 0)) ?_
    refine oEnd ?_
    refine bSplit 37 (h1 := fun hc => ?_) (h2 := fun hc => ?_)
    ·refine oCondT (h := ?_)
     refine oSR rfl ?_
     refine oP (.agg [.nilc]) (p_build bld32) ?_
     refine oP (.d (.int .i64 r191)) p_move ?_
     refine oD (.undef) (k_store (vs := [.nilc]) (H' := [.box [.d (.lit (List.map e_i64 x0))], .box [.d (.lit (List.map e_i64 y0))], .box [.d (.int .i64 slope0), .d (.int .i64 slope1)], .box [.nilc], .box [.d (.int .i64 r171), .d (.int .i64 r181)], .box [.d (.int .i64 r123), .d (.int .i64 r144)]]) 3 0 (hi := ty32)) ?_
     refine oP (.d (.int .i64 r191)) p_assign ?_
     refine oEnd ?_
     refine oConvB 3 (cells := [.nilc]) (cells' := [.d (.lit (List.map e_SPoint []))]) (hc := .cons _ _ _ _ .nil .nil) (h := ?_)
     refine oView (H' := [.box [.d (.lit (List.map e_i64 x0))], .box [.d (.lit (List.map e_i64 y0))], .box [.d (.int .i64 slope0), .d (.int .i64 slope1)], .box [.d (.lit (List.map e_SPoint []))], .box [.d (.int .i64 r171), .d (.int .i64 r181)], .box [.d (.int .i64 r123), .d (.int .i64 r144)]]) rfl (h := ?_)
     exact oRet (r0 := ([], r191)) (rv := .tuple [.agg [.d (.lit (List.map e_SPoint []))], .d (.int .i64 r191)]) (B := []) (vs := [.agg [.d (.lit (List.map e_SPoint []))], .d (.int .i64 r191)]) (σ := []) (hf := Try.func43) (hrs := rfl) (hres := .cons _ _ _ _ (.agg 6 32 3 0 [.d (.lit (List.map e_SPoint []))] [.d (.lit (List.map e_SPoint []))] _ _ _ _ (by kernel_rfl) (by kernel_rfl) Try.underlying32 (by kernel_rfl) ty32 (by kernel_rfl) (by kernel_rfl)) (.cons _ _ _ _ (.tmp 7 _ (by kernel_rfl)) .nil)) (hnd := by decide)
    ·refine oCondF (h := ?_)
     refine oSkip ?_
     refine oSR rfl ?_
     refine oQ (.agg [.d (.int .i64 r123), .d (.int .i64 r144)]) (k_loadAgg 5 0 (hu := Try.underlying38) (hi := ty38)) ?_
     refine oQ (.agg [.d (.int .i64 r171), .d (.int .i64 r181)]) (k_loadAgg 4 0 (hu := Try.underlying38) (hi := ty38)) ?_
     refine bCall (caps := []) (v := (uc fun (r111 : Int) => (uc fun (r112 : Int) => (fun (r132 : Int) => (.tuple [.agg [.d (.int .i64 r111), .d (.int .i64 r112)], .d (.int .i64 r132)] : V))))) (H' := (uc fun (r111 : Int) => (uc fun (r112 : Int) => (fun (r132 : Int) => ([.box [.d (.lit (List.map e_i64 x0))], .box [.d (.lit (List.map e_i64 y0))], .box [.d (.int .i64 slope0), .d (.int .i64 slope1)], .box [.nilc], .box [.d (.int .i64 r171), .d (.int .i64 r181)], .box [.d (.int .i64 r123), .d (.int .i64 r144)]] : List Blk))))) [] _ (ratio_Sub_goes k r123 r144 r171 r181) (ho := rfl) (hfn := Try.func75) (hb := rfl) (hconv := ConvRs.refl _ _) (hnd := by decide) (hBl := fun _ => (by kernel_rfl)) (hv := fun _ => (by kernel_rfl)) (hH' := fun _ => (by kernel_rfl)) (h := fun r => ?_)
     obtain ⟨r111, r112, r132⟩ := r
     refine bUc ?_
     refine bUc ?_
     refine oP (.tuple [.agg [.d (.int .i64 r111), .d (.int .i64 r112)], .d (.int .i64 r132)]) p_move ?_
     refine oP (.agg [.d (.int .i64 r111), .d (.int .i64 r112)]) k_extract ?_
     refine oP (.d (.int .i64 r132)) k_extract ?_
     refine oD (.ptr 6 0) (k_alloc (H' := [.box [.d (.lit (List.map e_i64 x0))], .box [.d (.lit (List.map e_i64 y0))], .box [.d (.int .i64 slope0), .d (.int .i64 slope1)], .box [.nilc], .box [.d (.int .i64 r171), .d (.int .i64 r181)], .box [.d (.int .i64 r123), .d (.int .i64 r144)], .box [.d (.int .i64 0), .d (.int .i64 0)]]) ty38) ?_
     refine oD (.undef) (k_store (vs := [.d (.int .i64 r111), .d (.int .i64 r112)]) (H' := [.box [.d (.lit (List.map e_i64 x0))], .box [.d (.lit (List.map e_i64 y0))], .box [.d (.int .i64 slope0), .d (.int .i64 slope1)], .box [.nilc], .box [.d (.int .i64 r171), .d (.int .i64 r181)], .box [.d (.int .i64 r123), .d (.int .i64 r144)], .box [.d (.int .i64 r111), .d (.int .i64 r112)]]) 6 0 (hi := ty38)) ?_
     refine oP (.d (.int .i64 r132)) p_assign ?_
     refine oEnd ?_
     refine oSeq ?_
     refine oSR rfl ?_
     refine oP (.d (.int .i64 r132)) p_move ?_
     refine oP (.d (.bool (r132 != 0))) (p_int (k := .i64) (p := r132) (q := 0)) ?_
     refine oEnd ?_
     refine bSplit 47 (h1 := fun hc => ?_) (h2 := fun hc => ?_)
     ·refine oCondT (h := ?_)
      refine oSR rfl ?_
      refine oP (.agg [.nilc]) (p_build bld32) ?_
      refine oP (.d (.int .i64 r132)) p_move ?_
      refine oD (.undef) (k_store (vs := [.nilc]) (H' := [.box [.d (.lit (List.map e_i64 x0))], .box [.d (.lit (List.map e_i64 y0))], .box [.d (.int .i64 slope0), .d (.int .i64 slope1)], .box [.nilc], .box [.d (.int .i64 r171), .d (.int .i64 r181)], .box [.d (.int .i64 r123), .d (.int .i64 r144)], .box [.d (.int .i64 r111), .d (.int .i64 r112)]]) 3 0 (hi := ty32)) ?_
      refine oP (.d (.int .i64 r132)) p_assign ?_
      refine oEnd ?_
      refine oConvB 3 (cells := [.nilc]) (cells' := [.d (.lit (List.map e_SPoint []))]) (hc := .cons _ _ _ _ .nil .nil) (h := ?_)
      refine oView (H' := [.box [.d (.lit (List.map e_i64 x0))], .box [.d (.lit (List.map e_i64 y0))], .box [.d (.int .i64 slope0), .d (.int .i64 slope1)], .box [.d (.lit (List.map e_SPoint []))], .box [.d (.int .i64 r171), .d (.int .i64 r181)], .box [.d (.int .i64 r123), .d (.int .i64 r144)], .box [.d (.int .i64 r111), .d (.int .i64 r112)]]) rfl (h := ?_)
      exact oRet (r0 := ([], r132)) (rv := .tuple [.agg [.d (.lit (List.map e_SPoint []))], .d (.int .i64 r132)]) (B := []) (vs := [.agg [.d (.lit (List.map e_SPoint []))], .d (.int .i64 r132)]) (σ := []) (hf := Try.func43) (hrs := rfl) (hres := .cons _ _ _ _ (.agg 6 32 3 0 [.d (.lit (List.map e_SPoint []))] [.d (.lit (List.map e_SPoint []))] _ _ _ _ (by kernel_rfl) (by kernel_rfl) Try.underlying32 (by kernel_rfl) ty32 (by kernel_rfl) (by kernel_rfl)) (.cons _ _ _ _ (.tmp 7 _ (by kernel_rfl)) .nil)) (hnd := by decide)
     ·refine oCondF (h := ?_)
      refine oSkip ?_
      refine oSR rfl ?_
      refine oQ (.agg [.d (.int .i64 slope0), .d (.int .i64 slope1)]) (k_loadAgg 2 0 (hu := Try.underlying38) (hi := ty38)) ?_
      refine oQ (.agg [.d (.int .i64 r111), .d (.int .i64 r112)]) (k_loadAgg 6 0 (hu := Try.underlying38) (hi := ty38)) ?_
      refine bCall (caps := []) (v := (uc fun (r133 : (List SPoint)) => (fun (r145 : Int) => (.tuple [.agg [.d (.lit (List.map e_SPoint r133))], .d (.int .i64 r145)] : V)))) (H' := (uc fun (r133 : (List SPoint)) => (fun (r145 : Int) => ([.box [.d (.lit (List.map e_i64 x0))], .box [.d (.lit (List.map e_i64 y0))], .box [.d (.int .i64 slope0), .d (.int .i64 slope1)], .box [.nilc], .box [.d (.int .i64 r171), .d (.int .i64 r181)], .box [.d (.int .i64 r123), .d (.int .i64 r144)], .box [.d (.int .i64 r111), .d (.int .i64 r112)]] : List Blk)))) [] _ (conversion_Line_goes k slope0 slope1 r111 r112) (ho := rfl) (hfn := Try.func26) (hb := rfl) (hconv := ConvRs.refl _ _) (hnd := by decide) (hBl := fun _ => (by kernel_rfl)) (hv := fun _ => (by kernel_rfl)) (hH' := fun _ => (by kernel_rfl)) (h := fun r => ?_)
      obtain ⟨r133, r145⟩ := r
      refine bUc ?_
      refine oP (.agg [.d (.lit (List.map e_SPoint r133))]) k_extract ?_
      refine oP (.d (.int .i64 r145)) k_extract ?_
      refine oD (.undef) (k_store (vs := [.d (.lit (List.map e_SPoint r133))]) (H' := [.box [.d (.lit (List.map e_i64 x0))], .box [.d (.lit (List.map e_i64 y0))], .box [.d (.int .i64 slope0), .d (.int .i64 slope1)], .box [.d (.lit (List.map e_SPoint r133))], .box [.d (.int .i64 r171), .d (.int .i64 r181)], .box [.d (.int .i64 r123), .d (.int .i64 r144)], .box [.d (.int .i64 r111), .d (.int .i64 r112)]]) 3 0 (hi := ty32)) ?_
      refine oP (.d (.int .i64 r145)) p_assign ?_
      refine oEnd ?_
      exact oRet (r0 := (r133, r145)) (rv := .tuple [.agg [.d (.lit (List.map e_SPoint r133))], .d (.int .i64 r145)]) (B := []) (vs := [.agg [.d (.lit (List.map e_SPoint r133))], .d (.int .i64 r145)]) (σ := []) (hf := Try.func43) (hrs := rfl) (hres := .cons _ _ _ _ (.agg 6 32 3 0 [.d (.lit (List.map e_SPoint r133))] [.d (.lit (List.map e_SPoint r133))] _ _ _ _ (by kernel_rfl) (by kernel_rfl) Try.underlying32 (by kernel_rfl) ty32 (by kernel_rfl) (by kernel_rfl)) (.cons _ _ _ _ (.tmp 7 _ (by kernel_rfl)) .nil)) (hnd := by decide)

/-- awardingbody/equating.Mean -/
def equating_Mean (k : Nat) (x0 : (List Int)) (y0 : (List Int)) : Option ((List SPoint) × Int) := Option.bind (equating_check k x0 y0) (fun r13 => bif (r13 != 0) then some ([], r13) else Option.bind (equating_through k x0 y0 1 1) (uc fun r161 => fun r1101 => some (r161, r1101)))
def equating_Mean_E (x0 : (List Int)) (y0 : (List Int)) : (List SPoint) × Int → V × List Blk := uc fun r11 => fun r12 => (.tuple [.agg [.d (.lit (List.map e_SPoint r11))], .d (.int .i64 r12)], [])
theorem equating_Mean_goes (k : Nat) (x0 : (List Int)) (y0 : (List Int)) : RunsO Try.prog 16 [.agg [.d (.lit (List.map e_i64 x0))], .agg [.d (.lit (List.map e_i64 y0))]] [] (equating_Mean_E x0 y0) (equating_Mean k x0 y0) := by
  refine RunsO.of_goes (N := 20) (m := 0) (T := [(0, .agg [.d (.lit (List.map e_i64 x0))]), (1, .agg [.d (.lit (List.map e_i64 y0))])]) Try.func16 rfl rfl (h := ?_)
  unfold equating_Mean
  refine bStart ?_
  refine oSR rfl ?_
  refine oD (.ptr 0 0) (k_box (H' := [.box [.d (.lit (List.map e_i64 x0))]]) (cells := [.d (.lit (List.map e_i64 x0))])) ?_
  refine oD (.ptr 1 0) (k_box (H' := [.box [.d (.lit (List.map e_i64 x0))], .box [.d (.lit (List.map e_i64 y0))]]) (cells := [.d (.lit (List.map e_i64 y0))])) ?_
  refine oD (.ptr 2 0) (k_alloc (H' := [.box [.d (.lit (List.map e_i64 x0))], .box [.d (.lit (List.map e_i64 y0))], .box [.nilc]]) ty32) ?_
  refine oP (.d (.int .i64 0)) p_assign ?_
  refine oEnd ?_
  refine oSeq ?_
  refine oSR rfl ?_
  refine oQ (.agg [.d (.lit (List.map e_i64 x0))]) (k_loadAgg 0 0 (hu := Try.underlying28) (hi := ty28)) ?_
  refine oQ (.agg [.d (.lit (List.map e_i64 y0))]) (k_loadAgg 1 0 (hu := Try.underlying28) (hi := ty28)) ?_
  refine bCall (caps := []) (v := (fun (r13 : Int) => (.d (.int .i64 r13) : V))) (H' := (fun (r13 : Int) => ([.box [.d (.lit (List.map e_i64 x0))], .box [.d (.lit (List.map e_i64 y0))], .box [.nilc]] : List Blk))) [] _ (equating_check_goes k x0 y0) (ho := rfl) (hfn := Try.func42) (hb := rfl) (hconv := ConvRs.refl _ _) (hnd := by decide) (hBl := fun _ => (by kernel_rfl)) (hv := fun _ => (by kernel_rfl)) (hH' := fun _ => (by kernel_rfl)) (h := fun r13 => ?_)
  refine oP (.d (.int .i64 r13)) p_assign ?_
  refine oEnd ?_
  refine oSR rfl ?_
  refine oP (.d (.int .i64 r13)) p_move ?_
  refine oP (.d (.bool (r13 != 0))) (p_int (k := .i64) (p := r13) (q := 0)) ?_
  refine oEnd ?_
  refine bSplit 11 (h1 := fun hc => ?_) (h2 := fun hc => ?_)
  ·refine oCondT (h := ?_)
   refine oSR rfl ?_
   refine oP (.agg [.nilc]) (p_build bld32) ?_
   refine oP (.d (.int .i64 r13)) p_move ?_
   refine oD (.undef) (k_store (vs := [.nilc]) (H' := [.box [.d (.lit (List.map e_i64 x0))], .box [.d (.lit (List.map e_i64 y0))], .box [.nilc]]) 2 0 (hi := ty32)) ?_
   refine oP (.d (.int .i64 r13)) p_assign ?_
   refine oEnd ?_
   refine oConvB 2 (cells := [.nilc]) (cells' := [.d (.lit (List.map e_SPoint []))]) (hc := .cons _ _ _ _ .nil .nil) (h := ?_)
   refine oView (H' := [.box [.d (.lit (List.map e_i64 x0))], .box [.d (.lit (List.map e_i64 y0))], .box [.d (.lit (List.map e_SPoint []))]]) rfl (h := ?_)
   exact oRet (r0 := ([], r13)) (rv := .tuple [.agg [.d (.lit (List.map e_SPoint []))], .d (.int .i64 r13)]) (B := []) (vs := [.agg [.d (.lit (List.map e_SPoint []))], .d (.int .i64 r13)]) (σ := []) (hf := Try.func16) (hrs := rfl) (hres := .cons _ _ _ _ (.agg 4 32 2 0 [.d (.lit (List.map e_SPoint []))] [.d (.lit (List.map e_SPoint []))] _ _ _ _ (by kernel_rfl) (by kernel_rfl) Try.underlying32 (by kernel_rfl) ty32 (by kernel_rfl) (by kernel_rfl)) (.cons _ _ _ _ (.tmp 5 _ (by kernel_rfl)) .nil)) (hnd := by decide)
  ·refine oCondF (h := ?_)
   refine oSkip ?_
   refine oSR rfl ?_
   refine oQ (.agg [.d (.lit (List.map e_i64 x0))]) (k_loadAgg 0 0 (hu := Try.underlying28) (hi := ty28)) ?_
   refine oQ (.agg [.d (.lit (List.map e_i64 y0))]) (k_loadAgg 1 0 (hu := Try.underlying28) (hi := ty28)) ?_
   refine oP (.agg [.d (.int .i64 1), .d (.int .i64 1)]) (p_build bld38) ?_
   refine bCall (caps := []) (v := (uc fun (r161 : (List SPoint)) => (fun (r1101 : Int) => (.tuple [.agg [.d (.lit (List.map e_SPoint r161))], .d (.int .i64 r1101)] : V)))) (H' := (uc fun (r161 : (List SPoint)) => (fun (r1101 : Int) => ([.box [.d (.lit (List.map e_i64 x0))], .box [.d (.lit (List.map e_i64 y0))], .box [.nilc]] : List Blk)))) [] _ (equating_through_goes k x0 y0 1 1) (ho := rfl) (hfn := Try.func43) (hb := rfl) (hconv := ConvRs.refl _ _) (hnd := by decide) (hBl := fun _ => (by kernel_rfl)) (hv := fun _ => (by kernel_rfl)) (hH' := fun _ => (by kernel_rfl)) (h := fun r => ?_)
   obtain ⟨r161, r1101⟩ := r
   refine bUc ?_
   refine oP (.agg [.d (.lit (List.map e_SPoint r161))]) k_extract ?_
   refine oP (.d (.int .i64 r1101)) k_extract ?_
   refine oD (.undef) (k_store (vs := [.d (.lit (List.map e_SPoint r161))]) (H' := [.box [.d (.lit (List.map e_i64 x0))], .box [.d (.lit (List.map e_i64 y0))], .box [.d (.lit (List.map e_SPoint r161))]]) 2 0 (hi := ty32)) ?_
   refine oP (.d (.int .i64 r1101)) p_assign ?_
   refine oEnd ?_
   exact oRet (r0 := (r161, r1101)) (rv := .tuple [.agg [.d (.lit (List.map e_SPoint r161))], .d (.int .i64 r1101)]) (B := []) (vs := [.agg [.d (.lit (List.map e_SPoint r161))], .d (.int .i64 r1101)]) (σ := []) (hf := Try.func16) (hrs := rfl) (hres := .cons _ _ _ _ (.agg 4 32 2 0 [.d (.lit (List.map e_SPoint r161))] [.d (.lit (List.map e_SPoint r161))] _ _ _ _ (by kernel_rfl) (by kernel_rfl) Try.underlying32 (by kernel_rfl) ty32 (by kernel_rfl) (by kernel_rfl)) (.cons _ _ _ _ (.tmp 5 _ (by kernel_rfl)) .nil)) (hnd := by decide)

end Go.VM
