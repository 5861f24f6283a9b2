/- Plain functions that answer as the program's functions do, and the proof that they do. -/
import Derived.Test.YtdebnihlkdabpaaProg
import Derived.KernelRfl
import Derived.Test.YtdebnihlkdabpaaEngX
import Derived.Test.YtdebnihlkdabpaaHFacts
import Derived.Test.YtdebnihlkdabpaaHFuns3
namespace Go.VM
open Go.Proofs
set_option linter.unusedVariables false
set_option linter.unusedSimpArgs false
set_option maxRecDepth 100000
/-- awardingbody/awardingbodylaw34.sane -/
def law34_sane (k : Nat) : Option (Bool) := Option.bind (equating_Percentile k ([1, 1] : List Int) ([1, 1, 1, 1] : List Int)) (uc fun r181 => fun r191 => Option.bind (law34_whole k 0) (u0 (Option.bind (conversion_Eval k r181 0 1) (uc fun r11 => uc fun r13 => fun r14 => Option.bind (equating_Mean k ([1, 1] : List Int) ([1, 1, 1, 1] : List Int)) (uc fun r113 => fun r121 => Option.bind (law34_whole k 5) (u0 (Option.bind (conversion_Eval k r113 5 1) (uc fun r112 => uc fun r131 => fun r141 => blet ((r191 == 0) && (r14 == 0)) fun x15 => blet (x15 && (r121 == 0)) fun x16 => blet (x16 && (r141 == 0)) fun x17 => blet (x17 && ((r11 == 1) && ((r13 == 2) && true))) fun x18 => Option.bind (bif x18 then Option.bind (law34_whole k 6) (u0 (some ((r112 == 6) && ((r131 == 1) && true)))) else some false : Option Bool) (fun x19 => some x19)))))))))
def law34_sane_E : Bool → V × List Blk := fun r1 => (.d (.bool r1), [])
theorem law34_sane_goes (k : Nat) : RunsO Try.prog 8 [] [] (law34_sane_E) (law34_sane k) := by
  refine RunsO.of_goes (N := 63) (m := 0) (T := []) Try.func8 rfl rfl (h := ?_)
  unfold law34_sane
  refine bStart ?_
  refine oSR rfl ?_
  refine oP (.d (.bool false)) p_assign ?_
  refine oEnd ?_
  refine oSR rfl ?_
  refine oD (.ref 0 (List.length ([1, 1] : List Int)) 0 (List.length ([1, 1] : List Int))) (k_buildSlice (H' := [.sl 1 (List.map e_i64 ([1, 1] : List Int)) false]) (List.map e_i64 ([1, 1] : List Int)) Try.underlying22 ty3) ?_
  refine oP (.agg [.ref 0 (List.length ([1, 1] : List Int)) 0 (List.length ([1, 1] : List Int))]) (p_build bld28) ?_
  refine oD (.ref 1 (List.length ([1, 1, 1, 1] : List Int)) 0 (List.length ([1, 1, 1, 1] : List Int))) (k_buildSlice (H' := [.sl 1 (List.map e_i64 ([1, 1] : List Int)) false, .sl 1 (List.map e_i64 ([1, 1, 1, 1] : List Int)) false]) (List.map e_i64 ([1, 1, 1, 1] : List Int)) Try.underlying22 ty3) ?_
  refine oP (.agg [.ref 1 (List.length ([1, 1, 1, 1] : List Int)) 0 (List.length ([1, 1, 1, 1] : List Int))]) (p_build bld28) ?_
  refine oD (.ptr 2 0) (k_alloc (H' := [.sl 1 (List.map e_i64 ([1, 1] : List Int)) false, .sl 1 (List.map e_i64 ([1, 1, 1, 1] : List Int)) false, .box [.nilc]]) ty28) ?_
  refine oD (.ptr 3 0) (k_alloc (H' := [.sl 1 (List.map e_i64 ([1, 1] : List Int)) false, .sl 1 (List.map e_i64 ([1, 1, 1, 1] : List Int)) false, .box [.nilc], .box [.nilc]]) ty28) ?_
  refine oD (.undef) (k_store (vs := [.ref 0 (List.length ([1, 1] : List Int)) 0 (List.length ([1, 1] : List Int))]) (H' := [.sl 1 (List.map e_i64 ([1, 1] : List Int)) false, .sl 1 (List.map e_i64 ([1, 1, 1, 1] : List Int)) false, .box [.ref 0 (List.length ([1, 1] : List Int)) 0 (List.length ([1, 1] : List Int))], .box [.nilc]]) 2 0 (hi := ty28)) ?_
  refine oD (.undef) (k_store (vs := [.ref 1 (List.length ([1, 1, 1, 1] : List Int)) 0 (List.length ([1, 1, 1, 1] : List Int))]) (H' := [.sl 1 (List.map e_i64 ([1, 1] : List Int)) false, .sl 1 (List.map e_i64 ([1, 1, 1, 1] : List Int)) false, .box [.ref 0 (List.length ([1, 1] : List Int)) 0 (List.length ([1, 1] : List Int))], .box [.ref 1 (List.length ([1, 1, 1, 1] : List Int)) 0 (List.length ([1, 1, 1, 1] : List Int))]]) 3 0 (hi := ty28)) ?_
  refine oEnd ?_
  refine oSR rfl ?_
  refine oQ (.agg [.ref 0 (List.length ([1, 1] : List Int)) 0 (List.length ([1, 1] : List Int))]) (k_loadAgg 2 0 (hu := Try.underlying28) (hi := ty28)) ?_
  refine oQ (.agg [.ref 1 (List.length ([1, 1, 1, 1] : List Int)) 0 (List.length ([1, 1, 1, 1] : List Int))]) (k_loadAgg 3 0 (hu := Try.underlying28) (hi := ty28)) ?_
  refine oFreeze 0 (esz := 1) (xs := List.map e_i64 ([1, 1] : List Int)) (h := ?_)
  refine oView (H' := [.sl 1 (List.map e_i64 ([1, 1] : List Int)) true, .sl 1 (List.map e_i64 ([1, 1, 1, 1] : List Int)) false, .box [.ref 0 (List.length ([1, 1] : List Int)) 0 (List.length ([1, 1] : List Int))], .box [.ref 1 (List.length ([1, 1, 1, 1] : List Int)) 0 (List.length ([1, 1, 1, 1] : List Int))]]) rfl (h := ?_)
  refine oFreeze 1 (esz := 1) (xs := List.map e_i64 ([1, 1, 1, 1] : List Int)) (h := ?_)
  refine oView (H' := [.sl 1 (List.map e_i64 ([1, 1] : List Int)) true, .sl 1 (List.map e_i64 ([1, 1, 1, 1] : List Int)) true, .box [.ref 0 (List.length ([1, 1] : List Int)) 0 (List.length ([1, 1] : List Int))], .box [.ref 1 (List.length ([1, 1, 1, 1] : List Int)) 0 (List.length ([1, 1, 1, 1] : List Int))]]) rfl (h := ?_)
  refine bCall (caps := []) (v := (uc fun (r181 : (List SPoint)) => (fun (r191 : Int) => (.tuple [.agg [.d (.lit (List.map e_SPoint r181))], .d (.int .i64 r191)] : V)))) (H' := (uc fun (r181 : (List SPoint)) => (fun (r191 : Int) => ([.sl 1 (List.map e_i64 ([1, 1] : List Int)) true, .sl 1 (List.map e_i64 ([1, 1, 1, 1] : List Int)) true, .box [.ref 0 (List.length ([1, 1] : List Int)) 0 (List.length ([1, 1] : List Int))], .box [.ref 1 (List.length ([1, 1, 1, 1] : List Int)) 0 (List.length ([1, 1, 1, 1] : List Int))]] : List Blk)))) [] _ (equating_Percentile_goes k ([1, 1] : List Int) ([1, 1, 1, 1] : List Int)) (ho := rfl) (hfn := Try.func11) (hb := rfl) (hconv := (convList (vs0 := [.agg [.ref 0 (List.length ([1, 1] : List Int)) 0 (List.length ([1, 1] : List Int))], .agg [.ref 1 (List.length ([1, 1, 1, 1] : List Int)) 0 (List.length ([1, 1, 1, 1] : List Int))]]) (vs := [.agg [.d (.lit (List.map e_i64 ([1, 1] : List Int)))], .agg [.d (.lit (List.map e_i64 ([1, 1, 1, 1] : List Int)))]]) (p := (.cons _ _ _ _ (.agg _ _ (.cons _ _ _ _ (k_lit (enc := e_i64) (sz := 1) 0 ([1, 1] : List Int)) .nil)) (.cons _ _ _ _ (.agg _ _ (.cons _ _ _ _ (k_lit (enc := e_i64) (sz := 1) 1 ([1, 1, 1, 1] : List Int)) .nil)) .nil))))) (hnd := by decide) (hBl := fun _ => (by kernel_rfl)) (hv := fun _ => (by kernel_rfl)) (hH' := fun _ => (by kernel_rfl)) (h := fun r => ?_)
  obtain ⟨r181, r191⟩ := r
  refine bUc ?_
  refine oP (.tuple [.agg [.d (.lit (List.map e_SPoint r181))], .d (.int .i64 r191)]) p_move ?_
  refine oP (.agg [.d (.lit (List.map e_SPoint r181))]) k_extract ?_
  refine oP (.d (.int .i64 r191)) k_extract ?_
  refine oD (.ptr 4 0) (k_alloc (H' := [.sl 1 (List.map e_i64 ([1, 1] : List Int)) true, .sl 1 (List.map e_i64 ([1, 1, 1, 1] : List Int)) true, .box [.ref 0 (List.length ([1, 1] : List Int)) 0 (List.length ([1, 1] : List Int))], .box [.ref 1 (List.length ([1, 1, 1, 1] : List Int)) 0 (List.length ([1, 1, 1, 1] : List Int))], .box [.nilc]]) ty32) ?_
  refine oD (.undef) (k_store (vs := [.d (.lit (List.map e_SPoint r181))]) (H' := [.sl 1 (List.map e_i64 ([1, 1] : List Int)) true, .sl 1 (List.map e_i64 ([1, 1, 1, 1] : List Int)) true, .box [.ref 0 (List.length ([1, 1] : List Int)) 0 (List.length ([1, 1] : List Int))], .box [.ref 1 (List.length ([1, 1, 1, 1] : List Int)) 0 (List.length ([1, 1, 1, 1] : List Int))], .box [.d (.lit (List.map e_SPoint r181))]]) 4 0 (hi := ty32)) ?_
  refine oP (.d (.int .i64 r191)) p_assign ?_
  refine oEnd ?_
  refine oSeq ?_
  refine oDraw [(0, 9), (1, 9), (2, 9), (3, 9), (4, 9)] rfl ?_
  refine aQ 0 [4] (.agg [.d (.lit (List.map e_SPoint r181))]) rfl (k_loadAgg 4 0 (hu := Try.underlying32) (hi := ty32)) ?_
  refine dCall (i := 1) (caps := []) (v := (u0 ((.agg [.d (.int .i64 0), .d (.int .i64 1)] : V)))) (H' := (u0 (([.sl 1 (List.map e_i64 ([1, 1] : List Int)) true, .sl 1 (List.map e_i64 ([1, 1, 1, 1] : List Int)) true, .box [.ref 0 (List.length ([1, 1] : List Int)) 0 (List.length ([1, 1] : List Int))], .box [.ref 1 (List.length ([1, 1, 1, 1] : List Int)) 0 (List.length ([1, 1, 1, 1] : List Int))], .box [.d (.lit (List.map e_SPoint r181))]] : List Blk)))) [] _ (law34_whole_goes k 0) rfl (ho := rfl) (hfn := Try.func19) (hb := rfl) (hconv := ConvRs.refl _ _) (hnd := by decide) (hBl := fun _ => (by kernel_rfl)) (hv := fun _ => (by kernel_rfl)) (hH' := fun _ => (by kernel_rfl)) (h := fun r => ?_)
  cases r
  refine dU0 ?_
  refine dCall (i := 2) (caps := []) (v := (uc fun (r11 : Int) => (uc fun (r13 : Int) => (fun (r14 : Int) => (.tuple [.agg [.d (.int .i64 r11), .d (.int .i64 r13)], .d (.int .i64 r14)] : V))))) (H' := (uc fun (r11 : Int) => (uc fun (r13 : Int) => (fun (r14 : Int) => ([.sl 1 (List.map e_i64 ([1, 1] : List Int)) true, .sl 1 (List.map e_i64 ([1, 1, 1, 1] : List Int)) true, .box [.ref 0 (List.length ([1, 1] : List Int)) 0 (List.length ([1, 1] : List Int))], .box [.ref 1 (List.length ([1, 1, 1, 1] : List Int)) 0 (List.length ([1, 1, 1, 1] : List Int))], .box [.d (.lit (List.map e_SPoint r181))]] : List Blk))))) [] _ (conversion_Eval_goes k r181 0 1) rfl (ho := rfl) (hfn := Try.func14) (hb := rfl) (hconv := ConvRs.refl _ _) (hnd := by decide) (hBl := fun _ => (by kernel_rfl)) (hv := fun _ => (by kernel_rfl)) (hH' := fun _ => (by kernel_rfl)) (h := fun r => ?_)
  obtain ⟨r11, r13, r14⟩ := r
  refine dUc ?_
  refine dUc ?_
  refine aTakeP (i := 3) (.tuple [.agg [.d (.int .i64 r11), .d (.int .i64 r13)], .d (.int .i64 r14)]) rfl (hp := p_move) (h := ?_)
  refine aTakeP (i := 4) (.agg [.d (.int .i64 r11), .d (.int .i64 r13)]) rfl (hp := k_extract) (h := ?_)
  refine aTakeP (i := 5) (.d (.int .i64 r14)) rfl (hp := k_extract) (h := ?_)
  refine aAlloc (i := 6) (d := 5) rfl (hop := rfl) (hd := rfl) (hty := ty38) (cells := [.d (.int .i64 0), .d (.int .i64 0)]) (h := ?_)
  refine dView (H' := [.sl 1 (List.map e_i64 ([1, 1] : List Int)) true, .sl 1 (List.map e_i64 ([1, 1, 1, 1] : List Int)) true, .box [.ref 0 (List.length ([1, 1] : List Int)) 0 (List.length ([1, 1] : List Int))], .box [.ref 1 (List.length ([1, 1, 1, 1] : List Int)) 0 (List.length ([1, 1, 1, 1] : List Int))], .box [.d (.lit (List.map e_SPoint r181))], .box [.d (.int .i64 0), .d (.int .i64 0)]]) rfl rfl (h := ?_)
  refine aOne (i := 7) (v := .undef) rfl (hac := (Does.acts (k_store (vs := [.d (.int .i64 r11), .d (.int .i64 r13)]) (H' := [.sl 1 (List.map e_i64 ([1, 1] : List Int)) true, .sl 1 (List.map e_i64 ([1, 1, 1, 1] : List Int)) true, .box [.ref 0 (List.length ([1, 1] : List Int)) 0 (List.length ([1, 1] : List Int))], .box [.ref 1 (List.length ([1, 1, 1, 1] : List Int)) 0 (List.length ([1, 1, 1, 1] : List Int))], .box [.d (.lit (List.map e_SPoint r181))], .box [.d (.int .i64 r11), .d (.int .i64 r13)]]) 5 0 (hi := ty38)))) (h := ?_)
  refine aP 8 (.d (.int .i64 r14)) rfl p_assign ?_
  refine aDone (h := ?_)
  refine oSR rfl ?_
  refine oQ (.agg [.ref 0 (List.length ([1, 1] : List Int)) 0 (List.length ([1, 1] : List Int))]) (k_loadAgg 2 0 (hu := Try.underlying28) (hi := ty28)) ?_
  refine oQ (.agg [.ref 1 (List.length ([1, 1, 1, 1] : List Int)) 0 (List.length ([1, 1, 1, 1] : List Int))]) (k_loadAgg 3 0 (hu := Try.underlying28) (hi := ty28)) ?_
  refine bCall (caps := []) (v := (uc fun (r113 : (List SPoint)) => (fun (r121 : Int) => (.tuple [.agg [.d (.lit (List.map e_SPoint r113))], .d (.int .i64 r121)] : V)))) (H' := (uc fun (r113 : (List SPoint)) => (fun (r121 : Int) => ([.sl 1 (List.map e_i64 ([1, 1] : List Int)) true, .sl 1 (List.map e_i64 ([1, 1, 1, 1] : List Int)) true, .box [.ref 0 (List.length ([1, 1] : List Int)) 0 (List.length ([1, 1] : List Int))], .box [.ref 1 (List.length ([1, 1, 1, 1] : List Int)) 0 (List.length ([1, 1, 1, 1] : List Int))], .box [.d (.lit (List.map e_SPoint r181))], .box [.d (.int .i64 r11), .d (.int .i64 r13)]] : List Blk)))) [] _ (equating_Mean_goes k ([1, 1] : List Int) ([1, 1, 1, 1] : List Int)) (ho := rfl) (hfn := Try.func16) (hb := rfl) (hconv := (convList (vs0 := [.agg [.ref 0 (List.length ([1, 1] : List Int)) 0 (List.length ([1, 1] : List Int))], .agg [.ref 1 (List.length ([1, 1, 1, 1] : List Int)) 0 (List.length ([1, 1, 1, 1] : List Int))]]) (vs := [.agg [.d (.lit (List.map e_i64 ([1, 1] : List Int)))], .agg [.d (.lit (List.map e_i64 ([1, 1, 1, 1] : List Int)))]]) (p := (.cons _ _ _ _ (.agg _ _ (.cons _ _ _ _ (k_lit (enc := e_i64) (sz := 1) 0 ([1, 1] : List Int)) .nil)) (.cons _ _ _ _ (.agg _ _ (.cons _ _ _ _ (k_lit (enc := e_i64) (sz := 1) 1 ([1, 1, 1, 1] : List Int)) .nil)) .nil))))) (hnd := by decide) (hBl := fun _ => (by kernel_rfl)) (hv := fun _ => (by kernel_rfl)) (hH' := fun _ => (by kernel_rfl)) (h := fun r => ?_)
  obtain ⟨r113, r121⟩ := r
  refine bUc ?_
  refine oP (.tuple [.agg [.d (.lit (List.map e_SPoint r113))], .d (.int .i64 r121)]) p_move ?_
  refine oP (.agg [.d (.lit (List.map e_SPoint r113))]) k_extract ?_
  refine oP (.d (.int .i64 r121)) k_extract ?_
  refine oD (.ptr 6 0) (k_alloc (H' := [.sl 1 (List.map e_i64 ([1, 1] : List Int)) true, .sl 1 (List.map e_i64 ([1, 1, 1, 1] : List Int)) true, .box [.ref 0 (List.length ([1, 1] : List Int)) 0 (List.length ([1, 1] : List Int))], .box [.ref 1 (List.length ([1, 1, 1, 1] : List Int)) 0 (List.length ([1, 1, 1, 1] : List Int))], .box [.d (.lit (List.map e_SPoint r181))], .box [.d (.int .i64 r11), .d (.int .i64 r13)], .box [.nilc]]) ty32) ?_
  refine oD (.undef) (k_store (vs := [.d (.lit (List.map e_SPoint r113))]) (H' := [.sl 1 (List.map e_i64 ([1, 1] : List Int)) true, .sl 1 (List.map e_i64 ([1, 1, 1, 1] : List Int)) true, .box [.ref 0 (List.length ([1, 1] : List Int)) 0 (List.length ([1, 1] : List Int))], .box [.ref 1 (List.length ([1, 1, 1, 1] : List Int)) 0 (List.length ([1, 1, 1, 1] : List Int))], .box [.d (.lit (List.map e_SPoint r181))], .box [.d (.int .i64 r11), .d (.int .i64 r13)], .box [.d (.lit (List.map e_SPoint r113))]]) 6 0 (hi := ty32)) ?_
  refine oP (.d (.int .i64 r121)) p_assign ?_
  refine oEnd ?_
  refine oSeq ?_
  refine oDraw [(0, 9), (1, 9), (2, 9), (3, 9), (4, 9), (5, 9), (6, 9)] rfl ?_
  refine aQ 0 [6] (.agg [.d (.lit (List.map e_SPoint r113))]) rfl (k_loadAgg 6 0 (hu := Try.underlying32) (hi := ty32)) ?_
  refine dCall (i := 1) (caps := []) (v := (u0 ((.agg [.d (.int .i64 5), .d (.int .i64 1)] : V)))) (H' := (u0 (([.sl 1 (List.map e_i64 ([1, 1] : List Int)) true, .sl 1 (List.map e_i64 ([1, 1, 1, 1] : List Int)) true, .box [.ref 0 (List.length ([1, 1] : List Int)) 0 (List.length ([1, 1] : List Int))], .box [.ref 1 (List.length ([1, 1, 1, 1] : List Int)) 0 (List.length ([1, 1, 1, 1] : List Int))], .box [.d (.lit (List.map e_SPoint r181))], .box [.d (.int .i64 r11), .d (.int .i64 r13)], .box [.d (.lit (List.map e_SPoint r113))]] : List Blk)))) [] _ (law34_whole_goes k 5) rfl (ho := rfl) (hfn := Try.func19) (hb := rfl) (hconv := ConvRs.refl _ _) (hnd := by decide) (hBl := fun _ => (by kernel_rfl)) (hv := fun _ => (by kernel_rfl)) (hH' := fun _ => (by kernel_rfl)) (h := fun r => ?_)
  cases r
  refine dU0 ?_
  refine dCall (i := 2) (caps := []) (v := (uc fun (r112 : Int) => (uc fun (r131 : Int) => (fun (r141 : Int) => (.tuple [.agg [.d (.int .i64 r112), .d (.int .i64 r131)], .d (.int .i64 r141)] : V))))) (H' := (uc fun (r112 : Int) => (uc fun (r131 : Int) => (fun (r141 : Int) => ([.sl 1 (List.map e_i64 ([1, 1] : List Int)) true, .sl 1 (List.map e_i64 ([1, 1, 1, 1] : List Int)) true, .box [.ref 0 (List.length ([1, 1] : List Int)) 0 (List.length ([1, 1] : List Int))], .box [.ref 1 (List.length ([1, 1, 1, 1] : List Int)) 0 (List.length ([1, 1, 1, 1] : List Int))], .box [.d (.lit (List.map e_SPoint r181))], .box [.d (.int .i64 r11), .d (.int .i64 r13)], .box [.d (.lit (List.map e_SPoint r113))]] : List Blk))))) [] _ (conversion_Eval_goes k r113 5 1) rfl (ho := rfl) (hfn := Try.func14) (hb := rfl) (hconv := ConvRs.refl _ _) (hnd := by decide) (hBl := fun _ => (by kernel_rfl)) (hv := fun _ => (by kernel_rfl)) (hH' := fun _ => (by kernel_rfl)) (h := fun r => ?_)
  obtain ⟨r112, r131, r141⟩ := r
  refine dUc ?_
  refine dUc ?_
  refine aTakeP (i := 3) (.tuple [.agg [.d (.int .i64 r112), .d (.int .i64 r131)], .d (.int .i64 r141)]) rfl (hp := p_move) (h := ?_)
  refine aTakeP (i := 4) (.agg [.d (.int .i64 r112), .d (.int .i64 r131)]) rfl (hp := k_extract) (h := ?_)
  refine aTakeP (i := 5) (.d (.int .i64 r141)) rfl (hp := k_extract) (h := ?_)
  refine aAlloc (i := 6) (d := 9) rfl (hop := rfl) (hd := rfl) (hty := ty38) (cells := [.d (.int .i64 0), .d (.int .i64 0)]) (h := ?_)
  refine dView (H' := [.sl 1 (List.map e_i64 ([1, 1] : List Int)) true, .sl 1 (List.map e_i64 ([1, 1, 1, 1] : List Int)) true, .box [.ref 0 (List.length ([1, 1] : List Int)) 0 (List.length ([1, 1] : List Int))], .box [.ref 1 (List.length ([1, 1, 1, 1] : List Int)) 0 (List.length ([1, 1, 1, 1] : List Int))], .box [.d (.lit (List.map e_SPoint r181))], .box [.d (.int .i64 r11), .d (.int .i64 r13)], .box [.d (.lit (List.map e_SPoint r113))], .box [.d (.int .i64 0), .d (.int .i64 0)]]) rfl rfl (h := ?_)
  refine aOne (i := 7) (v := .undef) rfl (hac := (Does.acts (k_store (vs := [.d (.int .i64 r112), .d (.int .i64 r131)]) (H' := [.sl 1 (List.map e_i64 ([1, 1] : List Int)) true, .sl 1 (List.map e_i64 ([1, 1, 1, 1] : List Int)) true, .box [.ref 0 (List.length ([1, 1] : List Int)) 0 (List.length ([1, 1] : List Int))], .box [.ref 1 (List.length ([1, 1, 1, 1] : List Int)) 0 (List.length ([1, 1, 1, 1] : List Int))], .box [.d (.lit (List.map e_SPoint r181))], .box [.d (.int .i64 r11), .d (.int .i64 r13)], .box [.d (.lit (List.map e_SPoint r113))], .box [.d (.int .i64 r112), .d (.int .i64 r131)]]) 7 0 (hi := ty38)))) (h := ?_)
  refine aP 8 (.d (.int .i64 r141)) rfl p_assign ?_
  refine aDone (h := ?_)
  refine oSeq ?_
  refine oDraw [(0, 25), (1, 25), (2, 25), (3, 25), (4, 25), (5, 25), (6, 25), (7, 25)] rfl ?_
  refine aP 0 (.d (.int .i64 r191)) rfl p_move ?_
  refine aP 1 (.d (.bool (r191 == 0))) rfl (p_int (k := .i64) (p := r191) (q := 0)) ?_
  refine aP 2 (.d (.bool (r191 == 0))) rfl p_move ?_
  refine dMeetF [5, 4, 3, 2, 1, 0] (fun (x15 : Bool) => [(5, .ptr 5 0), (8, .d (.int .i64 r121)), (9, .ptr 7 0), (10, .d (.int .i64 r141)), (44, .d (.bool x15))]) (fun (x15 : Bool) => [(5, .ptr 5 0), (8, .d (.int .i64 r121)), (9, .ptr 7 0), (10, .d (.int .i64 r141)), (44, .d (.bool x15))]) (H' := [.sl 1 (List.map e_i64 ([1, 1] : List Int)) true, .sl 1 (List.map e_i64 ([1, 1, 1, 1] : List Int)) true, .box [.ref 0 (List.length ([1, 1] : List Int)) 0 (List.length ([1, 1] : List Int))], .box [.ref 1 (List.length ([1, 1, 1, 1] : List Int)) 0 (List.length ([1, 1, 1, 1] : List Int))], .box [.d (.lit (List.map e_SPoint r181))], .box [.d (.int .i64 r11), .d (.int .i64 r13)], .box [.d (.lit (List.map e_SPoint r113))], .box [.d (.int .i64 r112), .d (.int .i64 r131)]]) (fun x15 => ?_) (fun F hj6 => ?_)
  ·refine aP 6 (.d (.bool x15)) rfl p_move ?_
   refine dMeetF [9, 8, 7, 6, 5, 4, 3, 2, 1, 0] (fun (x16 : Bool) => [(5, .ptr 5 0), (9, .ptr 7 0), (10, .d (.int .i64 r141)), (48, .d (.bool x16))]) (fun (x16 : Bool) => [(5, .ptr 5 0), (9, .ptr 7 0), (10, .d (.int .i64 r141)), (48, .d (.bool x16))]) (H' := [.sl 1 (List.map e_i64 ([1, 1] : List Int)) true, .sl 1 (List.map e_i64 ([1, 1, 1, 1] : List Int)) true, .box [.ref 0 (List.length ([1, 1] : List Int)) 0 (List.length ([1, 1] : List Int))], .box [.ref 1 (List.length ([1, 1, 1, 1] : List Int)) 0 (List.length ([1, 1, 1, 1] : List Int))], .box [.d (.lit (List.map e_SPoint r181))], .box [.d (.int .i64 r11), .d (.int .i64 r13)], .box [.d (.lit (List.map e_SPoint r113))], .box [.d (.int .i64 r112), .d (.int .i64 r131)]]) (fun x16 => ?_) (fun F hj7 => ?_)
   ·refine aP 10 (.d (.bool x16)) rfl p_move ?_
    refine dMeetF [13, 12, 11, 10, 9, 8, 7, 6, 5, 4, 3, 2, 1, 0] (fun (x17 : Bool) => [(5, .ptr 5 0), (9, .ptr 7 0), (52, .d (.bool x17))]) (fun (x17 : Bool) => [(5, .ptr 5 0), (9, .ptr 7 0), (52, .d (.bool x17))]) (H' := [.sl 1 (List.map e_i64 ([1, 1] : List Int)) true, .sl 1 (List.map e_i64 ([1, 1, 1, 1] : List Int)) true, .box [.ref 0 (List.length ([1, 1] : List Int)) 0 (List.length ([1, 1] : List Int))], .box [.ref 1 (List.length ([1, 1, 1, 1] : List Int)) 0 (List.length ([1, 1, 1, 1] : List Int))], .box [.d (.lit (List.map e_SPoint r181))], .box [.d (.int .i64 r11), .d (.int .i64 r13)], .box [.d (.lit (List.map e_SPoint r113))], .box [.d (.int .i64 r112), .d (.int .i64 r131)]]) (fun x17 => ?_) (fun F hj8 => ?_)
    ·refine aP 14 (.d (.bool x17)) rfl p_move ?_
     refine dMeetF [18, 17, 16, 15, 14, 13, 12, 11, 10, 9, 8, 7, 6, 5, 4, 3, 2, 1, 0] (fun (x18 : Bool) => [(9, .ptr 7 0), (57, .d (.bool x18))]) (fun (x18 : Bool) => [(9, .ptr 7 0), (57, .d (.bool x18))]) (H' := [.sl 1 (List.map e_i64 ([1, 1] : List Int)) true, .sl 1 (List.map e_i64 ([1, 1, 1, 1] : List Int)) true, .box [.ref 0 (List.length ([1, 1] : List Int)) 0 (List.length ([1, 1] : List Int))], .box [.ref 1 (List.length ([1, 1, 1, 1] : List Int)) 0 (List.length ([1, 1, 1, 1] : List Int))], .box [.d (.lit (List.map e_SPoint r181))], .box [.d (.int .i64 r11), .d (.int .i64 r13)], .box [.d (.lit (List.map e_SPoint r113))], .box [.d (.int .i64 r112), .d (.int .i64 r131)]]) (fun x18 => ?_) (fun F hj9 => ?_)
     ·refine aP 19 (.d (.bool x18)) rfl p_move ?_
      refine dMeet [23, 22, 21, 20, 19, 18, 17, 16, 15, 14, 13, 12, 11, 10, 9, 8, 7, 6, 5, 4, 3, 2, 1, 0] (fun (x19 : Bool) => [(62, .d (.bool x19))]) (fun (x19 : Bool) => [(62, .d (.bool x19))]) (fun _ => [.sl 1 (List.map e_i64 ([1, 1] : List Int)) true, .sl 1 (List.map e_i64 ([1, 1, 1, 1] : List Int)) true, .box [.ref 0 (List.length ([1, 1] : List Int)) 0 (List.length ([1, 1] : List Int))], .box [.ref 1 (List.length ([1, 1, 1, 1] : List Int)) 0 (List.length ([1, 1, 1, 1] : List Int))], .box [.d (.lit (List.map e_SPoint r181))], .box [.d (.int .i64 r11), .d (.int .i64 r13)], .box [.d (.lit (List.map e_SPoint r113))], .box [.d (.int .i64 r112), .d (.int .i64 r131)]]) (fun s => s) (fun x19 => ?_) (fun hj10 => ?_)
      ·refine aP 24 (.d (.bool x19)) rfl p_assign ?_
       refine aDone (h := ?_)
       exact oRet (r0 := x19) (rv := .d (.bool x19)) (B := []) (vs := [.d (.bool x19)]) (σ := []) (hf := Try.func8) (hrs := rfl) (hres := .cons _ _ _ _ (.tmp 0 _ (by kernel_rfl)) .nil) (hnd := by decide)
      ·refine dSplit 58 (h1 := fun hc => ?_) (h2 := fun hc => ?_)
       ·refine aQ 20 [7] (.agg [.d (.int .i64 r112), .d (.int .i64 r131)]) rfl (k_loadAgg 7 0 (hu := Try.underlying38) (hi := ty38)) ?_
        refine dCall (i := 21) (caps := []) (v := (u0 ((.agg [.d (.int .i64 6), .d (.int .i64 1)] : V)))) (H' := (u0 (([.sl 1 (List.map e_i64 ([1, 1] : List Int)) true, .sl 1 (List.map e_i64 ([1, 1, 1, 1] : List Int)) true, .box [.ref 0 (List.length ([1, 1] : List Int)) 0 (List.length ([1, 1] : List Int))], .box [.ref 1 (List.length ([1, 1, 1, 1] : List Int)) 0 (List.length ([1, 1, 1, 1] : List Int))], .box [.d (.lit (List.map e_SPoint r181))], .box [.d (.int .i64 r11), .d (.int .i64 r13)], .box [.d (.lit (List.map e_SPoint r113))], .box [.d (.int .i64 r112), .d (.int .i64 r131)]] : List Blk)))) [] _ (law34_whole_goes k 6) rfl (ho := rfl) (hfn := Try.func19) (hb := rfl) (hconv := ConvRs.refl _ _) (hnd := by decide) (hBl := fun _ => (by kernel_rfl)) (hv := fun _ => (by kernel_rfl)) (hH' := fun _ => (by kernel_rfl)) (h := fun r => ?_)
        cases r
        refine dU0 ?_
        refine aTakeP (i := 22) (.d (.bool ((r112 == 6) && ((r131 == 1) && true)))) rfl (hp := k_eqAgg (hg := Try.eqGuardType38) (h := EqV.struct 1 38 [.d (.int .i64 r112), .d (.int .i64 r131)] [.d (.int .i64 6), .d (.int .i64 1)] _ ((r112 == 6) && ((r131 == 1) && true)) Try.underlying38 Try.stoodInHeld38 (EqF.one 1 1 _ _ _ _ _ _ _ (r112 == 6) ((r131 == 1) && true) (by kernel_rfl) Try.underlying3 (by kernel_rfl) (by kernel_rfl) (by kernel_rfl) (by kernel_rfl) (EqV.int 3 .i64 .i64 r112 6 Try.underlying3) (EqF.one 1 1 _ _ _ _ _ _ _ (r131 == 1) true (by kernel_rfl) Try.underlying3 (by kernel_rfl) (by kernel_rfl) (by kernel_rfl) (by kernel_rfl) (EqV.int 3 .i64 .i64 r131 1 Try.underlying3) (EqF.nil 1 _ _))))) (h := ?_)
        refine aP 23 (.d (.bool ((r112 == 6) && ((r131 == 1) && true)))) rfl (p_pick (b := true)) ?_
        refine dDrop [62] [62] (T' := [(62, .d (.bool ((r112 == 6) && ((r131 == 1) && true))))]) (U' := [(62, .d (.bool ((r112 == 6) && ((r131 == 1) && true))))]) (h := ?_)
        exact hj10 ((r112 == 6) && ((r131 == 1) && true))
       ·refine aTakeNot (i := 20) rfl (h := ?_)
        refine aTakeNot (i := 21) rfl (h := ?_)
        refine aTakeNot (i := 22) rfl (h := ?_)
        refine aP 23 (.d (.bool false)) rfl (p_pick (b := false)) ?_
        refine dDrop [62] [62] (T' := [(62, .d (.bool false))]) (U' := [(62, .d (.bool false))]) (h := ?_)
        exact hj10 false
     ·refine dPickF 53 (fun c => F (c && ((r11 == 1) && ((r13 == 2) && true)))) (h1 := fun hc => ?_) (h2 := fun hc => ?_)
      ·refine aQ 15 [5] (.agg [.d (.int .i64 r11), .d (.int .i64 r13)]) rfl (k_loadAgg 5 0 (hu := Try.underlying38) (hi := ty38)) ?_
       refine aP 16 (.agg [.d (.int .i64 1), .d (.int .i64 2)]) rfl (p_build bld38) ?_
       refine aP 17 (.d (.bool ((r11 == 1) && ((r13 == 2) && true)))) rfl (k_eqAgg (hg := Try.eqGuardType38) (h := EqV.struct 1 38 [.d (.int .i64 r11), .d (.int .i64 r13)] [.d (.int .i64 1), .d (.int .i64 2)] _ ((r11 == 1) && ((r13 == 2) && true)) Try.underlying38 Try.stoodInHeld38 (EqF.one 1 1 _ _ _ _ _ _ _ (r11 == 1) ((r13 == 2) && true) (by kernel_rfl) Try.underlying3 (by kernel_rfl) (by kernel_rfl) (by kernel_rfl) (by kernel_rfl) (EqV.int 3 .i64 .i64 r11 1 Try.underlying3) (EqF.one 1 1 _ _ _ _ _ _ _ (r13 == 2) true (by kernel_rfl) Try.underlying3 (by kernel_rfl) (by kernel_rfl) (by kernel_rfl) (by kernel_rfl) (EqV.int 3 .i64 .i64 r13 2 Try.underlying3) (EqF.nil 1 _ _))))) ?_
       refine aP 18 (.d (.bool ((r11 == 1) && ((r13 == 2) && true)))) rfl (p_pick (b := true)) ?_
       refine dDrop [9, 57] [9, 57] (T' := [(9, .ptr 7 0), (57, .d (.bool ((r11 == 1) && ((r13 == 2) && true))))]) (U' := [(9, .ptr 7 0), (57, .d (.bool ((r11 == 1) && ((r13 == 2) && true))))]) (h := ?_)
       exact hj9 ((r11 == 1) && ((r13 == 2) && true))
      ·refine aTakeNot (i := 15) rfl (h := ?_)
       refine aTakeNot (i := 16) rfl (h := ?_)
       refine aTakeNot (i := 17) rfl (h := ?_)
       refine aP 18 (.d (.bool false)) rfl (p_pick (b := false)) ?_
       refine dDrop [9, 57] [9, 57] (T' := [(9, .ptr 7 0), (57, .d (.bool false))]) (U' := [(9, .ptr 7 0), (57, .d (.bool false))]) (h := ?_)
       exact hj9 false
    ·refine dPickF 49 (fun c => F (c && (r141 == 0))) (h1 := fun hc => ?_) (h2 := fun hc => ?_)
     ·refine aP 11 (.d (.int .i64 r141)) rfl p_move ?_
      refine aP 12 (.d (.bool (r141 == 0))) rfl (p_int (k := .i64) (p := r141) (q := 0)) ?_
      refine aP 13 (.d (.bool (r141 == 0))) rfl (p_pick (b := true)) ?_
      refine dDrop [5, 9, 52] [5, 9, 52] (T' := [(5, .ptr 5 0), (9, .ptr 7 0), (52, .d (.bool (r141 == 0)))]) (U' := [(5, .ptr 5 0), (9, .ptr 7 0), (52, .d (.bool (r141 == 0)))]) (h := ?_)
      exact hj8 (r141 == 0)
     ·refine aTakeNot (i := 11) rfl (h := ?_)
      refine aTakeNot (i := 12) rfl (h := ?_)
      refine aP 13 (.d (.bool false)) rfl (p_pick (b := false)) ?_
      refine dDrop [5, 9, 52] [5, 9, 52] (T' := [(5, .ptr 5 0), (9, .ptr 7 0), (52, .d (.bool false))]) (U' := [(5, .ptr 5 0), (9, .ptr 7 0), (52, .d (.bool false))]) (h := ?_)
      exact hj8 false
   ·refine dPickF 45 (fun c => F (c && (r121 == 0))) (h1 := fun hc => ?_) (h2 := fun hc => ?_)
    ·refine aP 7 (.d (.int .i64 r121)) rfl p_move ?_
     refine aP 8 (.d (.bool (r121 == 0))) rfl (p_int (k := .i64) (p := r121) (q := 0)) ?_
     refine aP 9 (.d (.bool (r121 == 0))) rfl (p_pick (b := true)) ?_
     refine dDrop [5, 9, 10, 48] [5, 9, 10, 48] (T' := [(5, .ptr 5 0), (9, .ptr 7 0), (10, .d (.int .i64 r141)), (48, .d (.bool (r121 == 0)))]) (U' := [(5, .ptr 5 0), (9, .ptr 7 0), (10, .d (.int .i64 r141)), (48, .d (.bool (r121 == 0)))]) (h := ?_)
     exact hj7 (r121 == 0)
    ·refine aTakeNot (i := 7) rfl (h := ?_)
     refine aTakeNot (i := 8) rfl (h := ?_)
     refine aP 9 (.d (.bool false)) rfl (p_pick (b := false)) ?_
     refine dDrop [5, 9, 10, 48] [5, 9, 10, 48] (T' := [(5, .ptr 5 0), (9, .ptr 7 0), (10, .d (.int .i64 r141)), (48, .d (.bool false))]) (U' := [(5, .ptr 5 0), (9, .ptr 7 0), (10, .d (.int .i64 r141)), (48, .d (.bool false))]) (h := ?_)
     exact hj7 false
  ·refine dPickF 41 (fun c => F (c && (r14 == 0))) (h1 := fun hc => ?_) (h2 := fun hc => ?_)
   ·refine aP 3 (.d (.int .i64 r14)) rfl p_move ?_
    refine aP 4 (.d (.bool (r14 == 0))) rfl (p_int (k := .i64) (p := r14) (q := 0)) ?_
    refine aP 5 (.d (.bool (r14 == 0))) rfl (p_pick (b := true)) ?_
    refine dDrop [5, 8, 9, 10, 44] [5, 8, 9, 10, 44] (T' := [(5, .ptr 5 0), (8, .d (.int .i64 r121)), (9, .ptr 7 0), (10, .d (.int .i64 r141)), (44, .d (.bool (r14 == 0)))]) (U' := [(5, .ptr 5 0), (8, .d (.int .i64 r121)), (9, .ptr 7 0), (10, .d (.int .i64 r141)), (44, .d (.bool (r14 == 0)))]) (h := ?_)
    exact hj6 (r14 == 0)
   ·refine aTakeNot (i := 3) rfl (h := ?_)
    refine aTakeNot (i := 4) rfl (h := ?_)
    refine aP 5 (.d (.bool false)) rfl (p_pick (b := false)) ?_
    refine dDrop [5, 8, 9, 10, 44] [5, 8, 9, 10, 44] (T' := [(5, .ptr 5 0), (8, .d (.int .i64 r121)), (9, .ptr 7 0), (10, .d (.int .i64 r141)), (44, .d (.bool false))]) (U' := [(5, .ptr 5 0), (8, .d (.int .i64 r121)), (9, .ptr 7 0), (10, .d (.int .i64 r141)), (44, .d (.bool false))]) (h := ?_)
    exact hj6 false

/-- awardingbody/awardingbodymark.Roll -/
def mark_Roll (k : Nat) (l : (List Int)) : Option (Unit) := some ()
def mark_Roll_E (l : (List Int)) : Unit → V × List Blk := u0 ((.ptr 0 0, [.box [.d (.lit (List.map e_i64 l)), .d (.int .i64 0)]]))
theorem mark_Roll_goes (k : Nat) (l : (List Int)) : RunsO Try.prog 9 [.d (.lit (List.map e_i64 l))] [] (mark_Roll_E l) (mark_Roll k l) := by
  refine RunsO.of_goes (N := 6) (m := 0) (T := [(0, .d (.lit (List.map e_i64 l)))]) Try.func9 rfl rfl (h := ?_)
  unfold mark_Roll
  refine bStart ?_
  refine oSR rfl ?_
  refine oP (.nilptr) p_assign ?_
  refine oEnd ?_
  refine oSR rfl ?_
  refine oP (.d (.lit (List.map e_i64 l))) p_move ?_
  refine oP (.agg [.d (.lit (List.map e_i64 l)), .d (.int .i64 0)]) (p_build bld53) ?_
  refine oD (.ptr 0 0) (k_box (H' := [.box [.d (.lit (List.map e_i64 l)), .d (.int .i64 0)]]) (cells := [.d (.lit (List.map e_i64 l)), .d (.int .i64 0)])) ?_
  refine oP (.ptr 0 0) p_assign ?_
  refine oEnd ?_
  exact oRet (r0 := ()) (rv := .ptr 0 0) (B := [.box [.d (.lit (List.map e_i64 l)), .d (.int .i64 0)]]) (vs := [.ptr 0 0]) (σ := [0]) (hf := Try.func9) (hrs := rfl) (hres := .cons _ _ _ _ (.tmp 2 _ (by kernel_rfl)) .nil) (hnd := by decide)

/-- (*awardingbody/awardingbodymark.Dice).Next -/
def mark_Dice_Next (k : Nat) (n : Int) (x : (List Int)) (x1 : Int) : Option (Int × Int) := blet ((decide (x1 ≥ ((List.length x) : Int))) || (decide (n < 1))) fun x8 => bif x8 then some (0, x1) else gidx x x1 fun e1 => gnz n (Option.bind (bif (decide ((Int.tmod e1 n) < 0)) then some ((IntKind.wrap .i64 ((Int.tmod e1 n) + n)), (IntKind.wrap .i64 (x1 + 1))) else some ((Int.tmod e1 n), (IntKind.wrap .i64 (x1 + 1))) : Option (Int × Int)) (uc fun x9 => fun x10 => some (x9, x10)))
def mark_Dice_Next_E (n : Int) (x : (List Int)) (x1 : Int) : Int × Int → V × List Blk := uc fun r1 => fun x6 => (.d (.int .i64 r1), [.box [.d (.lit (List.map e_i64 x)), .d (.int .i64 x6)]])
theorem mark_Dice_Next_goes (k : Nat) (n : Int) (x : (List Int)) (x1 : Int) : RunsO Try.prog 28 [.ptr 0 0, .d (.int .i64 n)] [.box [.d (.lit (List.map e_i64 x)), .d (.int .i64 x1)]] (mark_Dice_Next_E n x x1) (mark_Dice_Next k n x x1) := by
  refine RunsO.of_goes (N := 45) (m := 1) (T := [(0, .ptr 0 0), (1, .d (.int .i64 n))]) Try.func28 rfl rfl (h := ?_)
  unfold mark_Dice_Next
  refine bStart ?_
  refine oSR rfl ?_
  refine oP (.d (.int .i64 0)) p_assign ?_
  refine oEnd ?_
  refine oSeq ?_
  refine oSeq ?_
  refine oDraw [(0, 14)] rfl ?_
  refine aP 0 (.ptr 0 0) rfl p_move ?_
  refine aP 1 (.ptr 0 0) rfl (k_nilCheck 0 0) ?_
  refine aP 2 (.ptr 0 1) rfl (k_fieldAddr 0 0 (hu := Try.underlying53) (hf := rfl) (hi := ty3)) ?_
  refine aQ 3 [0] (.d (.int .i64 x1)) rfl (k_load 0 1 (hu := Try.underlying3)) ?_
  refine aP 4 (.ptr 0 0) rfl p_move ?_
  refine aP 5 (.ptr 0 0) rfl (k_nilCheck 0 0) ?_
  refine aP 6 (.ptr 0 0) rfl (k_fieldAddr 0 0 (hu := Try.underlying53) (hf := rfl) (hi := ty22)) ?_
  refine aQ 7 [0] (.d (.lit (List.map e_i64 x))) rfl (k_load 0 0 (hu := Try.underlying22)) ?_
  refine aP 8 (.d (.int .i64 ((List.length x) : Int))) rfl (k_lenLit (enc := e_i64) x (hu := Try.underlying22)) ?_
  refine aP 9 (.d (.bool (decide (x1 ≥ ((List.length x) : Int))))) rfl (p_int (k := .i64) (p := x1) (q := ((List.length x) : Int))) ?_
  refine aP 10 (.d (.bool (decide (x1 ≥ ((List.length x) : Int))))) rfl p_move ?_
  refine dMeetF [13, 12, 11, 10, 9, 8, 7, 6, 5, 4, 3, 2, 1, 0] (fun (x8 : Bool) => [(0, .ptr 0 0), (1, .d (.int .i64 n)), (19, .d (.bool x8))]) (fun (x8 : Bool) => [(0, .ptr 0 0), (1, .d (.int .i64 n)), (19, .d (.bool x8))]) (H' := [.box [.d (.lit (List.map e_i64 x)), .d (.int .i64 x1)]]) (fun x8 => ?_) (fun F hj3 => ?_)
  ·refine aDone (h := ?_)
   refine bSplit 19 (h1 := fun hc => ?_) (h2 := fun hc => ?_)
   ·refine oCondT (h := ?_)
    refine oSR rfl ?_
    refine oP (.d (.int .i64 0)) p_assign ?_
    refine oEnd ?_
    exact oRet (r0 := (0, x1)) (rv := .d (.int .i64 0)) (B := [.box [.d (.lit (List.map e_i64 x)), .d (.int .i64 x1)]]) (vs := [.d (.int .i64 0)]) (σ := [0]) (hf := Try.func28) (hrs := rfl) (hres := .cons _ _ _ _ (.tmp 4 _ (by kernel_rfl)) .nil) (hnd := by decide)
   ·refine oCondF (h := ?_)
    refine oSkip ?_
    refine oSeq ?_
    refine oDraw [(0, 13)] rfl ?_
    refine aP 0 (.ptr 0 0) rfl p_move ?_
    refine aP 1 (.ptr 0 0) rfl (k_nilCheck 0 0) ?_
    refine aP 2 (.ptr 0 0) rfl (k_fieldAddr 0 0 (hu := Try.underlying53) (hf := rfl) (hi := ty22)) ?_
    refine aQ 3 [0] (.d (.lit (List.map e_i64 x))) rfl (k_load 0 0 (hu := Try.underlying22)) ?_
    refine aP 4 (.ptr 0 0) rfl p_move ?_
    refine aP 5 (.ptr 0 0) rfl (k_nilCheck 0 0) ?_
    refine aP 6 (.ptr 0 1) rfl (k_fieldAddr 0 0 (hu := Try.underlying53) (hf := rfl) (hi := ty3)) ?_
    refine aQ 7 [0] (.d (.int .i64 x1)) rfl (k_load 0 1 (hu := Try.underlying3)) ?_
    refine dIdx (fun e1 h1 h11 => ?_)
    refine aP 8 (.lptr (e_i64 e1) 0) rfl (k_idxLit e_i64_len x (a := e1) (k := .i64) (i := x1) (hu := Try.underlying22) (hi := ty3) (h0 := h1) (he := h11)) ?_
    refine aQ 9 [] (.d (.int .i64 e1)) rfl (k_loadL (cells := e_i64 e1) 0 (hu := Try.underlying3)) ?_
    refine aP 10 (.d (.int .i64 n)) rfl p_move ?_
    refine dNz (fun h12 => ?_)
    refine aTakeP (i := 11) (.d (.int .i64 (Int.tmod e1 n))) rfl (hp := p_rem (k := .i64) (p := e1) (q := n) (hq := h12)) (h := ?_)
    refine aP 12 (.d (.int .i64 (Int.tmod e1 n))) rfl p_assign ?_
    refine aDone (h := ?_)
    refine oSR rfl ?_
    refine oP (.ptr 0 0) p_move ?_
    refine oP (.ptr 0 0) (k_nilCheck 0 0) ?_
    refine oP (.ptr 0 1) (k_fieldAddr 0 0 (hu := Try.underlying53) (hf := rfl) (hi := ty3)) ?_
    refine oQ (.d (.int .i64 x1)) (k_load 0 1 (hu := Try.underlying3)) ?_
    refine oP (.d (.int .i64 (IntKind.wrap .i64 (x1 + 1)))) (p_int (k := .i64) (p := x1) (q := 1)) ?_
    refine oP (.ptr 0 0) (k_nilCheck 0 0) ?_
    refine oP (.ptr 0 1) (k_fieldAddr 0 0 (hu := Try.underlying53) (hf := rfl) (hi := ty3)) ?_
    refine oD (.undef) (k_store (vs := [.d (.int .i64 (IntKind.wrap .i64 (x1 + 1)))]) (H' := [.box [.d (.lit (List.map e_i64 x)), .d (.int .i64 (IntKind.wrap .i64 (x1 + 1)))]]) 0 1 (hi := ty3)) ?_
    refine oEnd ?_
    refine oSeq ?_
    refine oSR rfl ?_
    refine oP (.d (.int .i64 (Int.tmod e1 n))) p_move ?_
    refine oP (.d (.bool (decide ((Int.tmod e1 n) < 0)))) (p_int (k := .i64) (p := (Int.tmod e1 n)) (q := 0)) ?_
    refine oEnd ?_
    refine bJoin ((uc fun (x9 : Int) => (fun (x10 : Int) => [(5, .d (.int .i64 x9))]))) ((uc fun (x9 : Int) => (fun (x10 : Int) => [.box [.d (.lit (List.map e_i64 x)), .d (.int .i64 x10)]]))) (fun s => s) (fun s => ?_) (fun hj4 => ?_)
    ·obtain ⟨x9, x10⟩ := s
     refine bUc ?_
     refine oView (T' := [(5, .d (.int .i64 x9))]) (H' := [.box [.d (.lit (List.map e_i64 x)), .d (.int .i64 x10)]]) (h := ?_)
     refine oSR rfl ?_
     refine oP (.d (.int .i64 x9)) p_move ?_
     refine oP (.d (.int .i64 x9)) p_assign ?_
     refine oEnd ?_
     exact oRet (r0 := (x9, x10)) (rv := .d (.int .i64 x9)) (B := [.box [.d (.lit (List.map e_i64 x)), .d (.int .i64 x10)]]) (vs := [.d (.int .i64 x9)]) (σ := [0]) (hf := Try.func28) (hrs := rfl) (hres := .cons _ _ _ _ (.tmp 4 _ (by kernel_rfl)) .nil) (hnd := by decide)
    ·refine bSplit 40 (h1 := fun hc => ?_) (h2 := fun hc => ?_)
     ·refine oCondT (h := ?_)
      refine oRegion rfl ?_
      refine oP (.d (.int .i64 (Int.tmod e1 n))) p_move ?_
      refine oP (.d (.int .i64 n)) p_move ?_
      refine oP (.d (.int .i64 (IntKind.wrap .i64 ((Int.tmod e1 n) + n)))) (p_int (k := .i64) (p := (Int.tmod e1 n)) (q := n)) ?_
      refine oP (.d (.int .i64 (IntKind.wrap .i64 ((Int.tmod e1 n) + n)))) p_assign ?_
      refine oEnd ?_
      refine oHead [5] [0] (T' := [(5, .d (.int .i64 (IntKind.wrap .i64 ((Int.tmod e1 n) + n))))]) (H' := [.box [.d (.lit (List.map e_i64 x)), .d (.int .i64 (IntKind.wrap .i64 (x1 + 1)))]]) (hnd := by decide) (h := ?_)
      exact hj4 ((IntKind.wrap .i64 ((Int.tmod e1 n) + n)), (IntKind.wrap .i64 (x1 + 1)))
     ·refine oCondF (h := ?_)
      refine oSkip ?_
      refine oHead [5] [0] (T' := [(5, .d (.int .i64 (Int.tmod e1 n)))]) (H' := [.box [.d (.lit (List.map e_i64 x)), .d (.int .i64 (IntKind.wrap .i64 (x1 + 1)))]]) (hnd := by decide) (h := ?_)
      exact hj4 ((Int.tmod e1 n), (IntKind.wrap .i64 (x1 + 1)))
  ·refine dPickF 16 (fun c => F (c || (decide (n < 1)))) (h1 := fun hc => ?_) (h2 := fun hc => ?_)
   ·refine aTakeNot (i := 11) rfl (h := ?_)
    refine aTakeNot (i := 12) rfl (h := ?_)
    refine aP 13 (.d (.bool true)) rfl (p_pick (b := true)) ?_
    refine dDrop [0, 1, 19] [0, 1, 19] (T' := [(0, .ptr 0 0), (1, .d (.int .i64 n)), (19, .d (.bool true))]) (U' := [(0, .ptr 0 0), (1, .d (.int .i64 n)), (19, .d (.bool true))]) (h := ?_)
    exact hj3 true
   ·refine aP 11 (.d (.int .i64 n)) rfl p_move ?_
    refine aP 12 (.d (.bool (decide (n < 1)))) rfl (p_int (k := .i64) (p := n) (q := 1)) ?_
    refine aP 13 (.d (.bool (decide (n < 1)))) rfl (p_pick (b := false)) ?_
    refine dDrop [0, 1, 19] [0, 1, 19] (T' := [(0, .ptr 0 0), (1, .d (.int .i64 n)), (19, .d (.bool (decide (n < 1))))]) (U' := [(0, .ptr 0 0), (1, .d (.int .i64 n)), (19, .d (.bool (decide (n < 1))))]) (h := ?_)
    exact hj3 (decide (n < 1))

/-- (*awardingbody/awardingbodymark.Dice).Pick -/
def mark_Dice_Pick (k : Nat) (x : (List Int)) (x1 : Int) (xs : (List Int)) : Option (Int × Int) := Option.bind (mark_Dice_Next k ((List.length xs) : Int) x x1) (uc fun r12 => fun x61 => gidx xs r12 fun e11 => some (e11, x61))
def mark_Dice_Pick_E (x : (List Int)) (x1 : Int) (xs : (List Int)) : Int × Int → V × List Blk := uc fun r11 => fun x2 => (.d (.int .i64 r11), [.box [.d (.lit (List.map e_i64 x)), .d (.int .i64 x2)], .sl 1 (List.map e_i64 xs) false])
theorem mark_Dice_Pick_goes (k : Nat) (x : (List Int)) (x1 : Int) (xs : (List Int)) : RunsO Try.prog 29 [.ptr 0 0, .ref 1 (List.length xs) 0 (List.length xs)] [.box [.d (.lit (List.map e_i64 x)), .d (.int .i64 x1)], .sl 1 (List.map e_i64 xs) false] (mark_Dice_Pick_E x x1 xs) (mark_Dice_Pick k x x1 xs) := by
  refine RunsO.of_goes (N := 12) (m := 2) (T := [(0, .ptr 0 0), (1, .ref 1 (List.length xs) 0 (List.length xs))]) Try.func29 rfl rfl (h := ?_)
  unfold mark_Dice_Pick
  refine bStart ?_
  refine oSR rfl ?_
  refine oP (.d (.int .i64 0)) p_assign ?_
  refine oEnd ?_
  refine oSR rfl ?_
  refine oP (.ref 1 (List.length xs) 0 (List.length xs)) p_move ?_
  refine oP (.ptr 0 0) p_move ?_
  refine oP (.ref 1 (List.length xs) 0 (List.length xs)) p_move ?_
  refine oP (.d (.int .i64 ((List.length xs) : Int))) (k_lenRef (enc := e_i64) (sz := 1) (fro := false) 1 xs (hu := Try.underlying22)) ?_
  refine bCall (caps := []) (v := (uc fun (r12 : Int) => (fun (x61 : Int) => (.d (.int .i64 r12) : V)))) (H' := (uc fun (r12 : Int) => (fun (x61 : Int) => ([.box [.d (.lit (List.map e_i64 x)), .d (.int .i64 x61)], .sl 1 (List.map e_i64 xs) false] : List Blk)))) [0] _ (mark_Dice_Next_goes k ((List.length xs) : Int) x x1) (ho := rfl) (hfn := Try.func28) (hb := rfl) (hconv := ConvRs.refl _ _) (hnd := by decide) (hBl := fun _ => (by kernel_rfl)) (hv := fun _ => (by kernel_rfl)) (hH' := fun _ => (by kernel_rfl)) (h := fun r => ?_)
  obtain ⟨r12, x61⟩ := r
  refine bUc ?_
  refine bIdx (fun e11 h12 h13 => ?_)
  refine oP (.eptr 1 (List.length xs) (Int.toNat r12) 0) (k_idxRef (enc := e_i64) (fro := false) xs (a := e11) (k := .i64) (i := r12) (hu := Try.underlying22) (hi := ty3) (h0 := h12) (he := h13)) ?_
  refine oQ (.d (.int .i64 e11)) (k_loadE (enc := e_i64) (sz := 1) (fro := false) 1 0 xs (hu := Try.underlying3) (he := h13)) ?_
  refine oP (.d (.int .i64 e11)) p_assign ?_
  refine oEnd ?_
  exact oRet (r0 := (e11, x61)) (rv := .d (.int .i64 e11)) (B := [.box [.d (.lit (List.map e_i64 x)), .d (.int .i64 x61)], .sl 1 (List.map e_i64 xs) false]) (vs := [.d (.int .i64 e11)]) (σ := [0, 1]) (hf := Try.func29) (hrs := rfl) (hres := .cons _ _ _ _ (.tmp 4 _ (by kernel_rfl)) .nil) (hnd := by decide)

/-- (*awardingbody/awardingbodymark.Dice).Distribution -/
def mark_Dice_Distribution_b1 (k : Nat) (x : (List Int)) (least1 : Int) (again : Int × Int × (List Int) → Option (Int × (List Int))) : Int × Int × (List Int) → Option (Int × (List Int)) := uc fun i7 => uc fun x11 => fun xs6 => bif (decide (i7 > 0)) then Option.bind (mark_Dice_Pick k x x11 ([0, 1, 2, 5, 0] : List Int)) (uc fun r11 => fun x2 => gcap (List.length (xs6 ++ ([(IntKind.wrap .i64 (least1 + r11))] : List Int))) 8 (again ((IntKind.wrap .i64 (i7 - 1)), x2, (xs6 ++ ([(IntKind.wrap .i64 (least1 + r11))] : List Int))))) else some (x11, xs6)
def mark_Dice_Distribution (k : Nat) (n : Int) (full : Bool) (x : (List Int)) (x1 : Int) : Option ((List Int) × Int) := Option.bind (bif full then some 1 else some 0 : Option (Int)) (fun least1 => Option.bind (mark_Dice_Next k (IntKind.wrap .i64 (n + 1)) x x1) (uc fun r13 => fun x61 => Option.bind (gloop (mark_Dice_Distribution_b1 k x least1) k ((IntKind.wrap .i64 (1 + r13)), x61, ([] : List Int)) : Option (Int × (List Int))) (uc fun x10 => fun xs5 => some (xs5, x10))))
def mark_Dice_Distribution_E (n : Int) (full : Bool) (x : (List Int)) (x1 : Int) : (List Int) × Int → V × List Blk := uc fun r12 => fun x7 => (.agg [.d (.lit (List.map e_i64 r12))], [.box [.d (.lit (List.map e_i64 x)), .d (.int .i64 x7)]])
theorem mark_Dice_Distribution_goes (k : Nat) (n : Int) (full : Bool) (x : (List Int)) (x1 : Int) : RunsO Try.prog 10 [.ptr 0 0, .d (.int .i64 n), .d (.bool full)] [.box [.d (.lit (List.map e_i64 x)), .d (.int .i64 x1)]] (mark_Dice_Distribution_E n full x x1) (mark_Dice_Distribution k n full x x1) := by
  refine RunsO.of_goes (N := 31) (m := 1) (T := [(0, .ptr 0 0), (1, .d (.int .i64 n)), (2, .d (.bool full))]) Try.func10 rfl rfl (h := ?_)
  unfold mark_Dice_Distribution
  refine bStart ?_
  refine oSR rfl ?_
  refine oD (.ptr 1 0) (k_alloc (H' := [.box [.d (.lit (List.map e_i64 x)), .d (.int .i64 x1)], .box [.nilc]]) ty28) ?_
  refine oEnd ?_
  refine oSR rfl ?_
  refine oD (.ptr 2 0) (k_alloc (H' := [.box [.d (.lit (List.map e_i64 x)), .d (.int .i64 x1)], .box [.nilc], .box [.nilc]]) ty28) ?_
  refine oEnd ?_
  refine oSR rfl ?_
  refine oP (.d (.int .i64 0)) p_assign ?_
  refine oEnd ?_
  refine oSeq ?_
  refine oSR rfl ?_
  refine oP (.d (.bool full)) p_move ?_
  refine oEnd ?_
  refine bJoin ((fun (least1 : Int) => [(0, .ptr 0 0), (1, .d (.int .i64 n)), (6, .ptr 1 0), (7, .ptr 2 0), (8, .d (.int .i64 least1))])) ((fun (least1 : Int) => [.box [.d (.lit (List.map e_i64 x)), .d (.int .i64 x1)], .box [.nilc], .box [.nilc]])) (fun s => s) (fun least1 => ?_) (fun hj3 => ?_)
  ·refine oView (T' := [(0, .ptr 0 0), (1, .d (.int .i64 n)), (6, .ptr 1 0), (7, .ptr 2 0), (8, .d (.int .i64 least1))]) (H' := [.box [.d (.lit (List.map e_i64 x)), .d (.int .i64 x1)], .box [.nilc], .box [.nilc]]) (h := ?_)
   refine oSeq ?_
   refine oSR rfl ?_
   refine oP (.ptr 0 0) p_move ?_
   refine oP (.d (.int .i64 n)) p_move ?_
   refine oP (.d (.int .i64 (IntKind.wrap .i64 (n + 1)))) (p_int (k := .i64) (p := n) (q := 1)) ?_
   refine bCall (caps := []) (v := (uc fun (r13 : Int) => (fun (x61 : Int) => (.d (.int .i64 r13) : V)))) (H' := (uc fun (r13 : Int) => (fun (x61 : Int) => ([.box [.d (.lit (List.map e_i64 x)), .d (.int .i64 x61)], .box [.nilc], .box [.nilc]] : List Blk)))) [0] _ (mark_Dice_Next_goes k (IntKind.wrap .i64 (n + 1)) x x1) (ho := rfl) (hfn := Try.func28) (hb := rfl) (hconv := ConvRs.refl _ _) (hnd := by decide) (hBl := fun _ => (by kernel_rfl)) (hv := fun _ => (by kernel_rfl)) (hH' := fun _ => (by kernel_rfl)) (h := fun r => ?_)
   obtain ⟨r13, x61⟩ := r
   refine bUc ?_
   refine oP (.d (.int .i64 (IntKind.wrap .i64 (1 + r13)))) (p_int (k := .i64) (p := 1) (q := r13)) ?_
   refine oP (.d (.int .i64 (IntKind.wrap .i64 (1 + r13)))) p_assign ?_
   refine oEnd ?_
   refine bJoin ((uc fun (x10 : Int) => (fun (xs5 : (List Int)) => [(6, .ptr 1 0), (7, .ptr 2 0)]))) ((uc fun (x10 : Int) => (fun (xs5 : (List Int)) => [.box [.d (.lit (List.map e_i64 x)), .d (.int .i64 x10)], .box [.nilc], .box [.ref 3 (List.length xs5) 0 (List.length xs5)], .sl 1 (List.map e_i64 xs5) false]))) (fun s => s) (fun s => ?_) (fun hj4 => ?_)
   ·obtain ⟨x10, xs5⟩ := s
    refine bUc ?_
    refine oView (T' := [(6, .ptr 1 0), (7, .ptr 2 0)]) (H' := [.box [.d (.lit (List.map e_i64 x)), .d (.int .i64 x10)], .box [.nilc], .box [.ref 3 (List.length xs5) 0 (List.length xs5)], .sl 1 (List.map e_i64 xs5) false]) (h := ?_)
    refine oSR rfl ?_
    refine oQ (.agg [.ref 3 (List.length xs5) 0 (List.length xs5)]) (k_loadAgg 2 0 (hu := Try.underlying28) (hi := ty28)) ?_
    refine oD (.undef) (k_store (vs := [.ref 3 (List.length xs5) 0 (List.length xs5)]) (H' := [.box [.d (.lit (List.map e_i64 x)), .d (.int .i64 x10)], .box [.ref 3 (List.length xs5) 0 (List.length xs5)], .box [.ref 3 (List.length xs5) 0 (List.length xs5)], .sl 1 (List.map e_i64 xs5) false]) 1 0 (hi := ty28)) ?_
    refine oEnd ?_
    refine oFreeze 3 (esz := 1) (xs := List.map e_i64 xs5) (h := ?_)
    refine oView (H' := [.box [.d (.lit (List.map e_i64 x)), .d (.int .i64 x10)], .box [.ref 3 (List.length xs5) 0 (List.length xs5)], .box [.ref 3 (List.length xs5) 0 (List.length xs5)], .sl 1 (List.map e_i64 xs5) true]) rfl (h := ?_)
    refine oConvB 1 (cells := [.ref 3 (List.length xs5) 0 (List.length xs5)]) (cells' := [.d (.lit (List.map e_i64 xs5))]) (hc := .cons _ _ _ _ (k_lit (enc := e_i64) (sz := 1) 3 xs5) .nil) (h := ?_)
    refine oView (H' := [.box [.d (.lit (List.map e_i64 x)), .d (.int .i64 x10)], .box [.d (.lit (List.map e_i64 xs5))], .box [.ref 3 (List.length xs5) 0 (List.length xs5)], .sl 1 (List.map e_i64 xs5) true]) rfl (h := ?_)
    exact oRet (r0 := (xs5, x10)) (rv := .agg [.d (.lit (List.map e_i64 xs5))]) (B := [.box [.d (.lit (List.map e_i64 x)), .d (.int .i64 x10)]]) (vs := [.agg [.d (.lit (List.map e_i64 xs5))]]) (σ := [0]) (hf := Try.func10) (hrs := rfl) (hres := .cons _ _ _ _ (.agg 6 28 1 0 [.d (.lit (List.map e_i64 xs5))] [.d (.lit (List.map e_i64 xs5))] _ _ _ _ (by kernel_rfl) (by kernel_rfl) Try.underlying28 (by kernel_rfl) ty28 (by kernel_rfl) (by kernel_rfl)) .nil) (hnd := by decide)
   ·refine oBlock ?_
    refine oLoop ?_
    refine oVirtB (esz := 1) 2 0 (cells := [.nilc]) (h := ?_)
    refine oView (H' := [.box [.d (.lit (List.map e_i64 x)), .d (.int .i64 x61)], .box [.nilc], .box [.ref 3 (List.length ([] : List Int)) 0 (List.length ([] : List Int))], .sl 1 (List.map e_i64 ([] : List Int)) false]) rfl (h := ?_)
    refine oHead [0, 6, 7, 8, 9] [0, 1, 2, 3] (T' := [(0, .ptr 0 0), (6, .ptr 1 0), (7, .ptr 2 0), (8, .d (.int .i64 least1)), (9, .d (.int .i64 (IntKind.wrap .i64 (1 + r13))))]) (H' := [.box [.d (.lit (List.map e_i64 x)), .d (.int .i64 x61)], .box [.nilc], .box [.ref 3 (List.length ([] : List Int)) 0 (List.length ([] : List Int))], .sl 1 (List.map e_i64 ([] : List Int)) false]) (hnd := by decide) (h := ?_)
    refine bLoop (body := mark_Dice_Distribution_b1 k x least1) ((uc fun (i7 : Int) => (uc fun (x11 : Int) => (fun (xs6 : (List Int)) => [(0, .ptr 0 0), (6, .ptr 1 0), (7, .ptr 2 0), (8, .d (.int .i64 least1)), (9, .d (.int .i64 i7))])))) ((uc fun (i7 : Int) => (uc fun (x11 : Int) => (fun (xs6 : (List Int)) => [.box [.d (.lit (List.map e_i64 x)), .d (.int .i64 x11)], .box [.nilc], .box [.ref 3 (List.length xs6) 0 (List.length xs6)], .sl 1 (List.map e_i64 xs6) false])))) (fun again hag1 s => ?_) k ((IntKind.wrap .i64 (1 + r13)), x61, ([] : List Int))
    ·unfold mark_Dice_Distribution_b1
     obtain ⟨i7, x11, xs6⟩ := s
     refine bUc ?_
     refine bUc ?_
     refine oView (T' := [(0, .ptr 0 0), (6, .ptr 1 0), (7, .ptr 2 0), (8, .d (.int .i64 least1)), (9, .d (.int .i64 i7))]) (H' := [.box [.d (.lit (List.map e_i64 x)), .d (.int .i64 x11)], .box [.nilc], .box [.ref 3 (List.length xs6) 0 (List.length xs6)], .sl 1 (List.map e_i64 xs6) false]) (h := ?_)
     refine oSeq ?_
     refine oSR rfl ?_
     refine oP (.d (.int .i64 i7)) p_move ?_
     refine oP (.d (.bool (decide (i7 > 0)))) (p_int (k := .i64) (p := i7) (q := 0)) ?_
     refine oEnd ?_
     refine bSplit 17 (h1 := fun hc => ?_) (h2 := fun hc => ?_)
     ·refine oCondT (h := ?_)
      refine oSkip ?_
      refine oSeq ?_
      refine oBlock ?_
      refine oDraw [(0, 5), (1, 11), (2, 10), (3, 8)] rfl ?_
      refine aP 0 (.ptr 2 0) rfl (k_fieldAddr 2 0 (hu := Try.underlying28) (hf := rfl) (hi := ty22)) ?_
      refine aQ 1 [2] (.ref 3 (List.length xs6) 0 (List.length xs6)) rfl (k_load 2 0 (hu := Try.underlying22)) ?_
      refine aP 2 (.d (.int .i64 least1)) rfl p_move ?_
      refine aP 3 (.ptr 0 0) rfl p_move ?_
      refine aOne (i := 4) (v := .ref 4 (List.length ([0, 1, 2, 5, 0] : List Int)) 0 (List.length ([0, 1, 2, 5, 0] : List Int))) rfl (hac := (Does.acts (k_buildSlice (H' := [.box [.d (.lit (List.map e_i64 x)), .d (.int .i64 x11)], .box [.nilc], .box [.ref 3 (List.length xs6) 0 (List.length xs6)], .sl 1 (List.map e_i64 xs6) false, .sl 1 (List.map e_i64 ([0, 1, 2, 5, 0] : List Int)) false]) (List.map e_i64 ([0, 1, 2, 5, 0] : List Int)) Try.underlying22 ty3))) (h := ?_)
      refine dCall (i := 5) (caps := []) (v := (uc fun (r11 : Int) => (fun (x2 : Int) => (.d (.int .i64 r11) : V)))) (H' := (uc fun (r11 : Int) => (fun (x2 : Int) => ([.box [.d (.lit (List.map e_i64 x)), .d (.int .i64 x2)], .box [.nilc], .box [.ref 3 (List.length xs6) 0 (List.length xs6)], .sl 1 (List.map e_i64 xs6) false, .sl 1 (List.map e_i64 ([0, 1, 2, 5, 0] : List Int)) false] : List Blk)))) [0, 4] _ (mark_Dice_Pick_goes k x x11 ([0, 1, 2, 5, 0] : List Int)) rfl (ho := rfl) (hfn := Try.func29) (hb := rfl) (hconv := ConvRs.refl _ _) (hnd := by decide) (hBl := fun _ => (by kernel_rfl)) (hv := fun _ => (by kernel_rfl)) (hH' := fun _ => (by kernel_rfl)) (h := fun r => ?_)
      obtain ⟨r11, x2⟩ := r
      refine dUc ?_
      refine aP 6 (.d (.int .i64 (IntKind.wrap .i64 (least1 + r11)))) rfl (p_int (k := .i64) (p := least1) (q := r11)) ?_
      refine aOne (i := 7) (v := .ref 5 (List.length ([(IntKind.wrap .i64 (least1 + r11))] : List Int)) 0 (List.length ([(IntKind.wrap .i64 (least1 + r11))] : List Int))) rfl (hac := (Does.acts (k_buildSlice (H' := [.box [.d (.lit (List.map e_i64 x)), .d (.int .i64 x2)], .box [.nilc], .box [.ref 3 (List.length xs6) 0 (List.length xs6)], .sl 1 (List.map e_i64 xs6) false, .sl 1 (List.map e_i64 ([0, 1, 2, 5, 0] : List Int)) false, .sl 1 (List.map e_i64 ([(IntKind.wrap .i64 (least1 + r11))] : List Int)) false]) (List.map e_i64 ([(IntKind.wrap .i64 (least1 + r11))] : List Int)) Try.underlying22 ty3))) (h := ?_)
      refine dCap (fun h1 => ?_)
      refine aOne (i := 8) (v := .ref 3 (List.length (xs6 ++ ([(IntKind.wrap .i64 (least1 + r11))] : List Int))) 0 (List.length (xs6 ++ ([(IntKind.wrap .i64 (least1 + r11))] : List Int)))) rfl (hac := (Does.acts (k_append (H' := [.box [.d (.lit (List.map e_i64 x)), .d (.int .i64 x2)], .box [.nilc], .box [.ref 3 (List.length xs6) 0 (List.length xs6)], .sl 1 (List.map e_i64 (xs6 ++ ([(IntKind.wrap .i64 (least1 + r11))] : List Int))) false, .sl 1 (List.map e_i64 ([0, 1, 2, 5, 0] : List Int)) false, .sl 1 (List.map e_i64 ([(IntKind.wrap .i64 (least1 + r11))] : List Int)) false]) (enc := e_i64) 3 xs6 ([(IntKind.wrap .i64 (least1 + r11))] : List Int) Try.underlying22 Try.underlying22 ty3 (hy := (holdsRef (enc := e_i64) 5 ([(IntKind.wrap .i64 (least1 + r11))] : List Int) false)) (hfit := h1)))) (h := ?_)
      refine aP 9 (.ptr 2 0) rfl (k_fieldAddr 2 0 (hu := Try.underlying28) (hf := rfl) (hi := ty22)) ?_
      refine aOne (i := 10) (v := .undef) rfl (hac := (Does.acts (k_store (vs := [.ref 3 (List.length (xs6 ++ ([(IntKind.wrap .i64 (least1 + r11))] : List Int))) 0 (List.length (xs6 ++ ([(IntKind.wrap .i64 (least1 + r11))] : List Int)))]) (H' := [.box [.d (.lit (List.map e_i64 x)), .d (.int .i64 x2)], .box [.nilc], .box [.ref 3 (List.length (xs6 ++ ([(IntKind.wrap .i64 (least1 + r11))] : List Int))) 0 (List.length (xs6 ++ ([(IntKind.wrap .i64 (least1 + r11))] : List Int)))], .sl 1 (List.map e_i64 (xs6 ++ ([(IntKind.wrap .i64 (least1 + r11))] : List Int))) false, .sl 1 (List.map e_i64 ([0, 1, 2, 5, 0] : List Int)) false, .sl 1 (List.map e_i64 ([(IntKind.wrap .i64 (least1 + r11))] : List Int)) false]) 2 0 (hi := ty22)))) (h := ?_)
      refine aDone (h := ?_)
      refine oBlk ?_
      refine oRegion rfl ?_
      refine oP (.d (.int .i64 i7)) p_move ?_
      refine oP (.d (.int .i64 (IntKind.wrap .i64 (i7 - 1)))) (p_int (k := .i64) (p := i7) (q := 1)) ?_
      refine oP (.d (.int .i64 (IntKind.wrap .i64 (i7 - 1)))) p_assign ?_
      refine oEnd ?_
      refine oAgain ?_
      refine oHead [0, 6, 7, 8, 9] [0, 1, 2, 3] (T' := [(0, .ptr 0 0), (6, .ptr 1 0), (7, .ptr 2 0), (8, .d (.int .i64 least1)), (9, .d (.int .i64 (IntKind.wrap .i64 (i7 - 1))))]) (H' := [.box [.d (.lit (List.map e_i64 x)), .d (.int .i64 x2)], .box [.nilc], .box [.ref 3 (List.length (xs6 ++ ([(IntKind.wrap .i64 (least1 + r11))] : List Int))) 0 (List.length (xs6 ++ ([(IntKind.wrap .i64 (least1 + r11))] : List Int)))], .sl 1 (List.map e_i64 (xs6 ++ ([(IntKind.wrap .i64 (least1 + r11))] : List Int))) false]) (hnd := by decide) (h := ?_)
      exact hag1 ((IntKind.wrap .i64 (i7 - 1)), x2, (xs6 ++ ([(IntKind.wrap .i64 (least1 + r11))] : List Int)))
     ·refine oCondF (h := ?_)
      refine oExit rfl ?_
      refine oHead [6, 7] [0, 1, 2, 3] (T' := [(6, .ptr 1 0), (7, .ptr 2 0)]) (H' := [.box [.d (.lit (List.map e_i64 x)), .d (.int .i64 x11)], .box [.nilc], .box [.ref 3 (List.length xs6) 0 (List.length xs6)], .sl 1 (List.map e_i64 xs6) false]) (hnd := by decide) (h := ?_)
      exact hj4 (x11, xs6)
  ·refine bSplit 10 (h1 := fun hc => ?_) (h2 := fun hc => ?_)
   ·refine oCondT (h := ?_)
    refine oRegion rfl ?_
    refine oP (.d (.int .i64 1)) p_assign ?_
    refine oEnd ?_
    refine oHead [0, 1, 6, 7, 8] [0, 1, 2] (T' := [(0, .ptr 0 0), (1, .d (.int .i64 n)), (6, .ptr 1 0), (7, .ptr 2 0), (8, .d (.int .i64 1))]) (H' := [.box [.d (.lit (List.map e_i64 x)), .d (.int .i64 x1)], .box [.nilc], .box [.nilc]]) (hnd := by decide) (h := ?_)
    exact hj3 1
   ·refine oCondF (h := ?_)
    refine oSkip ?_
    refine oHead [0, 1, 6, 7, 8] [0, 1, 2] (T' := [(0, .ptr 0 0), (1, .d (.int .i64 n)), (6, .ptr 1 0), (7, .ptr 2 0), (8, .d (.int .i64 0))]) (H' := [.box [.d (.lit (List.map e_i64 x)), .d (.int .i64 x1)], .box [.nilc], .box [.nilc]]) (hnd := by decide) (h := ?_)
    exact hj3 0

/-- awardingbody/awardingbodyref32.Valid -/
def ref32_Valid_b1 (k : Nat) (d0 : (List Int)) (again : Int × Int → Option ((Unit) ⊕ (Bool))) : Int × Int → Option ((Unit) ⊕ (Bool)) := uc fun n4 => fun i4 => bif (decide (i4 < ((List.length d0) : Int))) then gidx d0 i4 fun e126 => Option.bind (bif (decide (e126 < 0)) then some true else some (decide (e126 > (IntKind.wrap .i64 (1048576 - n4)))) : Option (Bool)) (fun x15 => bif x15 then some (Sum.inr false) else gidx d0 i4 fun e127 => again ((IntKind.wrap .i64 (n4 + e127)), (IntKind.wrap .i64 (i4 + 1)))) else some (Sum.inl ())
def ref32_Valid (k : Nat) (d0 : (List Int)) : Option (Bool) := blet ((decide (((List.length d0) : Int) < 1)) || (decide (((List.length d0) : Int) > 201))) fun x5 => bif x5 then some false else Option.bind (gloop (ref32_Valid_b1 k d0) k (0, 0) : Option ((Unit) ⊕ (Bool))) (Sum.elim (u0 (some true)) (fun r => some r))
def ref32_Valid_E (d0 : (List Int)) : Bool → V × List Blk := fun r1 => (.d (.bool r1), [])
theorem ref32_Valid_goes (k : Nat) (d0 : (List Int)) : RunsO Try.prog 41 [.agg [.d (.lit (List.map e_i64 d0))]] [] (ref32_Valid_E d0) (ref32_Valid k d0) := by
  refine RunsO.of_goes (N := 45) (m := 0) (T := [(0, .agg [.d (.lit (List.map e_i64 d0))])]) Try.func41 rfl rfl (h := ?_)
  unfold ref32_Valid
  refine bStart ?_
  refine oSR rfl ?_
  refine oD (.ptr 0 0) (k_box (H' := [.box [.d (.lit (List.map e_i64 d0))]]) (cells := [.d (.lit (List.map e_i64 d0))])) ?_
  refine oP (.d (.bool false)) p_assign ?_
  refine oEnd ?_
  refine oSeq ?_
  refine oSR rfl ?_
  refine oP (.ptr 0 0) (k_fieldAddr 0 0 (hu := Try.underlying28) (hf := rfl) (hi := ty22)) ?_
  refine oQ (.d (.lit (List.map e_i64 d0))) (k_load 0 0 (hu := Try.underlying22)) ?_
  refine oP (.d (.int .i64 ((List.length d0) : Int))) (k_lenLit (enc := e_i64) d0 (hu := Try.underlying22)) ?_
  refine oP (.d (.bool (decide (((List.length d0) : Int) < 1)))) (p_int (k := .i64) (p := ((List.length d0) : Int)) (q := 1)) ?_
  refine oP (.d (.bool (decide (((List.length d0) : Int) < 1)))) p_move ?_
  refine bMeetF (H' := [.box [.d (.lit (List.map e_i64 d0))]]) 5 rfl ((fun (x5 : Bool) => [(1, .ptr 0 0), (14, .d (.bool x5))])) (fun x5 => ?_) (fun F hj2 => ?_)
  ·refine oView (T' := [(1, .ptr 0 0), (14, .d (.bool x5))]) (H' := [.box [.d (.lit (List.map e_i64 d0))]]) (h := ?_)
   refine oEnd ?_
   refine bSplit 14 (h1 := fun hc => ?_) (h2 := fun hc => ?_)
   ·refine oCondT (h := ?_)
    refine oSR rfl ?_
    refine oP (.d (.bool false)) p_assign ?_
    refine oEnd ?_
    exact oRet (r0 := false) (rv := .d (.bool false)) (B := []) (vs := [.d (.bool false)]) (σ := []) (hf := Try.func41) (hrs := rfl) (hres := .cons _ _ _ _ (.tmp 2 _ (by kernel_rfl)) .nil) (hnd := by decide)
   ·refine oCondF (h := ?_)
    refine oSkip ?_
    refine oSR rfl ?_
    refine oP (.d (.int .i64 0)) p_assign ?_
    refine oEnd ?_
    refine oSeq ?_
    refine oSR rfl ?_
    refine oP (.d (.int .i64 0)) p_assign ?_
    refine oEnd ?_
    refine bJoin ((u0 ([]))) ((u0 ([]))) Sum.inl (fun s => ?_) (fun hj3 => ?_)
    ·cases s
     refine bInl ?_
     refine bU0 ?_
     refine oView (T' := []) (H' := []) (h := ?_)
     refine oSR rfl ?_
     refine oP (.d (.bool true)) p_assign ?_
     refine oEnd ?_
     exact oRet (r0 := true) (rv := .d (.bool true)) (B := []) (vs := [.d (.bool true)]) (σ := []) (hf := Try.func41) (hrs := rfl) (hres := .cons _ _ _ _ (.tmp 2 _ (by kernel_rfl)) .nil) (hnd := by decide)
    ·refine oBlock ?_
     refine oLoop ?_
     refine oHead [1, 3, 4] [0] (T' := [(1, .ptr 0 0), (3, .d (.int .i64 0)), (4, .d (.int .i64 0))]) (H' := [.box [.d (.lit (List.map e_i64 d0))]]) (hnd := by decide) (h := ?_)
     refine bLoop (body := ref32_Valid_b1 k d0) ((uc fun (n4 : Int) => (fun (i4 : Int) => [(1, .ptr 0 0), (3, .d (.int .i64 n4)), (4, .d (.int .i64 i4))]))) ((uc fun (n4 : Int) => (fun (i4 : Int) => [.box [.d (.lit (List.map e_i64 d0))]]))) (fun again hag1 s => ?_) k (0, 0)
     ·unfold ref32_Valid_b1
      obtain ⟨n4, i4⟩ := s
      refine bUc ?_
      refine oView (T' := [(1, .ptr 0 0), (3, .d (.int .i64 n4)), (4, .d (.int .i64 i4))]) (H' := [.box [.d (.lit (List.map e_i64 d0))]]) (h := ?_)
      refine oSeq ?_
      refine oSR rfl ?_
      refine oP (.d (.int .i64 i4)) p_move ?_
      refine oP (.ptr 0 0) (k_fieldAddr 0 0 (hu := Try.underlying28) (hf := rfl) (hi := ty22)) ?_
      refine oQ (.d (.lit (List.map e_i64 d0))) (k_load 0 0 (hu := Try.underlying22)) ?_
      refine oP (.d (.int .i64 ((List.length d0) : Int))) (k_lenLit (enc := e_i64) d0 (hu := Try.underlying22)) ?_
      refine oP (.d (.bool (decide (i4 < ((List.length d0) : Int))))) (p_int (k := .i64) (p := i4) (q := ((List.length d0) : Int))) ?_
      refine oEnd ?_
      refine bSplit 19 (h1 := fun hc => ?_) (h2 := fun hc => ?_)
      ·refine oCondT (h := ?_)
       refine oSkip ?_
       refine oSeq ?_
       refine oBlock ?_
       refine oSeq ?_
       refine oSR rfl ?_
       refine oP (.ptr 0 0) (k_fieldAddr 0 0 (hu := Try.underlying28) (hf := rfl) (hi := ty22)) ?_
       refine oQ (.d (.lit (List.map e_i64 d0))) (k_load 0 0 (hu := Try.underlying22)) ?_
       refine oP (.d (.int .i64 i4)) p_move ?_
       refine bIdx (fun e126 h152 h153 => ?_)
       refine oP (.lptr (e_i64 e126) 0) (k_idxLit e_i64_len d0 (a := e126) (k := .i64) (i := i4) (hu := Try.underlying22) (hi := ty3) (h0 := h152) (he := h153)) ?_
       refine oQ (.d (.int .i64 e126)) (k_loadL (cells := e_i64 e126) 0 (hu := Try.underlying3)) ?_
       refine oP (.d (.bool (decide (e126 < 0)))) (p_int (k := .i64) (p := e126) (q := 0)) ?_
       refine oP (.d (.bool (decide (e126 < 0)))) p_move ?_
       refine bMeet 9 rfl ((fun (x15 : Bool) => [(1, .ptr 0 0), (3, .d (.int .i64 n4)), (4, .d (.int .i64 i4)), (37, .d (.bool x15))])) ((fun (x15 : Bool) => [.box [.d (.lit (List.map e_i64 d0))]])) (fun s => s) (fun x15 => ?_) (fun hj4 => ?_)
       ·refine oView (T' := [(1, .ptr 0 0), (3, .d (.int .i64 n4)), (4, .d (.int .i64 i4)), (37, .d (.bool x15))]) (H' := [.box [.d (.lit (List.map e_i64 d0))]]) (h := ?_)
        refine oEnd ?_
        refine bSplit 37 (h1 := fun hc => ?_) (h2 := fun hc => ?_)
        ·refine oCondT (h := ?_)
         refine oSR rfl ?_
         refine oP (.d (.bool false)) p_assign ?_
         refine oEnd ?_
         exact oRet (r0 := false) (rv := .d (.bool false)) (B := []) (vs := [.d (.bool false)]) (σ := []) (hf := Try.func41) (hrs := rfl) (hres := .cons _ _ _ _ (.tmp 2 _ (by kernel_rfl)) .nil) (hnd := by decide)
        ·refine oCondF (h := ?_)
         refine oSkip ?_
         refine oRegion rfl ?_
         refine oP (.d (.int .i64 n4)) p_move ?_
         refine oP (.ptr 0 0) (k_fieldAddr 0 0 (hu := Try.underlying28) (hf := rfl) (hi := ty22)) ?_
         refine oQ (.d (.lit (List.map e_i64 d0))) (k_load 0 0 (hu := Try.underlying22)) ?_
         refine oP (.d (.int .i64 i4)) p_move ?_
         refine bIdx (fun e127 h154 h155 => ?_)
         refine oP (.lptr (e_i64 e127) 0) (k_idxLit e_i64_len d0 (a := e127) (k := .i64) (i := i4) (hu := Try.underlying22) (hi := ty3) (h0 := h154) (he := h155)) ?_
         refine oQ (.d (.int .i64 e127)) (k_loadL (cells := e_i64 e127) 0 (hu := Try.underlying3)) ?_
         refine oP (.d (.int .i64 (IntKind.wrap .i64 (n4 + e127)))) (p_int (k := .i64) (p := n4) (q := e127)) ?_
         refine oP (.d (.int .i64 (IntKind.wrap .i64 (n4 + e127)))) p_assign ?_
         refine oEnd ?_
         refine oBlk ?_
         refine oRegion rfl ?_
         refine oP (.d (.int .i64 i4)) p_move ?_
         refine oP (.d (.int .i64 (IntKind.wrap .i64 (i4 + 1)))) (p_int (k := .i64) (p := i4) (q := 1)) ?_
         refine oP (.d (.int .i64 (IntKind.wrap .i64 (i4 + 1)))) p_assign ?_
         refine oEnd ?_
         refine oAgain ?_
         refine oHead [1, 3, 4] [0] (T' := [(1, .ptr 0 0), (3, .d (.int .i64 (IntKind.wrap .i64 (n4 + e127)))), (4, .d (.int .i64 (IntKind.wrap .i64 (i4 + 1))))]) (H' := [.box [.d (.lit (List.map e_i64 d0))]]) (hnd := by decide) (h := ?_)
         exact hag1 ((IntKind.wrap .i64 (n4 + e127)), (IntKind.wrap .i64 (i4 + 1)))
       ·refine bSplit 28 (h1 := fun hc => ?_) (h2 := fun hc => ?_)
        ·refine oNot (h := ?_)
         refine oNot (h := ?_)
         refine oNot (h := ?_)
         refine oNot (h := ?_)
         refine oNot (h := ?_)
         refine oNot (h := ?_)
         refine oNot (h := ?_)
         refine oNot (h := ?_)
         refine oP (.d (.bool true)) (p_pick (b := true)) ?_
         refine oHead [1, 3, 4, 37] [0] (T' := [(1, .ptr 0 0), (3, .d (.int .i64 n4)), (4, .d (.int .i64 i4)), (37, .d (.bool true))]) (H' := [.box [.d (.lit (List.map e_i64 d0))]]) (hnd := by decide) (h := ?_)
         exact hj4 true
        ·refine oP (.ptr 0 0) (k_fieldAddr 0 0 (hu := Try.underlying28) (hf := rfl) (hi := ty22)) ?_
         refine oQ (.d (.lit (List.map e_i64 d0))) (k_load 0 0 (hu := Try.underlying22)) ?_
         refine oP (.d (.int .i64 i4)) p_move ?_
         refine oP (.lptr (e_i64 e126) 0) (k_idxLit e_i64_len d0 (a := e126) (k := .i64) (i := i4) (hu := Try.underlying22) (hi := ty3) (h0 := h152) (he := h153)) ?_
         refine oQ (.d (.int .i64 e126)) (k_loadL (cells := e_i64 e126) 0 (hu := Try.underlying3)) ?_
         refine oP (.d (.int .i64 n4)) p_move ?_
         refine oP (.d (.int .i64 (IntKind.wrap .i64 (1048576 - n4)))) (p_int (k := .i64) (p := 1048576) (q := n4)) ?_
         refine oP (.d (.bool (decide (e126 > (IntKind.wrap .i64 (1048576 - n4)))))) (p_int (k := .i64) (p := e126) (q := (IntKind.wrap .i64 (1048576 - n4)))) ?_
         refine oP (.d (.bool (decide (e126 > (IntKind.wrap .i64 (1048576 - n4)))))) (p_pick (b := false)) ?_
         refine oHead [1, 3, 4, 37] [0] (T' := [(1, .ptr 0 0), (3, .d (.int .i64 n4)), (4, .d (.int .i64 i4)), (37, .d (.bool (decide (e126 > (IntKind.wrap .i64 (1048576 - n4))))))]) (H' := [.box [.d (.lit (List.map e_i64 d0))]]) (hnd := by decide) (h := ?_)
         exact hj4 (decide (e126 > (IntKind.wrap .i64 (1048576 - n4))))
      ·refine oCondF (h := ?_)
       refine oExit rfl ?_
       refine oHead [] [] (T' := []) (H' := []) (hnd := by decide) (h := ?_)
       exact hj3 ()
  ·refine bPickF 9 (fun c => F (c || (decide (((List.length d0) : Int) > 201)))) (h1 := fun hc => ?_) (h2 := fun hc => ?_)
   ·refine oNot (h := ?_)
    refine oNot (h := ?_)
    refine oNot (h := ?_)
    refine oNot (h := ?_)
    refine oP (.d (.bool true)) (p_pick (b := true)) ?_
    refine oHead [1, 14] [0] (T' := [(1, .ptr 0 0), (14, .d (.bool true))]) (H' := [.box [.d (.lit (List.map e_i64 d0))]]) (hnd := by decide) (h := ?_)
    exact hj2 true
   ·refine oP (.ptr 0 0) (k_fieldAddr 0 0 (hu := Try.underlying28) (hf := rfl) (hi := ty22)) ?_
    refine oQ (.d (.lit (List.map e_i64 d0))) (k_load 0 0 (hu := Try.underlying22)) ?_
    refine oP (.d (.int .i64 ((List.length d0) : Int))) (k_lenLit (enc := e_i64) d0 (hu := Try.underlying22)) ?_
    refine oP (.d (.bool (decide (((List.length d0) : Int) > 201)))) (p_int (k := .i64) (p := ((List.length d0) : Int)) (q := 201)) ?_
    refine oP (.d (.bool (decide (((List.length d0) : Int) > 201)))) (p_pick (b := false)) ?_
    refine oHead [1, 14] [0] (T' := [(1, .ptr 0 0), (14, .d (.bool (decide (((List.length d0) : Int) > 201))))]) (H' := [.box [.d (.lit (List.map e_i64 d0))]]) (hnd := by decide) (h := ?_)
    exact hj2 (decide (((List.length d0) : Int) > 201))

/-- awardingbody/awardingbodyref32.Below -/
def ref32_Below_b1 (k : Nat) (d0 : (List Int)) (score : Int) (again : Int × Int → Option (Int)) : Int × Int → Option (Int) := uc fun n6 => fun i4 => blet ((decide (i4 < ((List.length d0) : Int))) && (decide (i4 < score))) fun x12 => Option.bind (bif x12 then Option.bind (ref32_Valid k d0) (fun r18 => some r18) else some false : Option (Bool)) (fun x13 => bif x13 then gidx d0 i4 fun e113 => again ((IntKind.wrap .i64 (n6 + e113)), (IntKind.wrap .i64 (i4 + 1))) else some n6)
def ref32_Below (k : Nat) (d0 : (List Int)) (score : Int) : Option (Int) := Option.bind (gloop (ref32_Below_b1 k d0 score) k (0, 0) : Option (Int)) (fun n5 => some n5)
def ref32_Below_E (d0 : (List Int)) (score : Int) : Int → V × List Blk := fun r12 => (.d (.int .i64 r12), [])
theorem ref32_Below_goes (k : Nat) (d0 : (List Int)) (score : Int) : RunsO Try.prog 15 [.agg [.d (.lit (List.map e_i64 d0))], .d (.int .i64 score)] [] (ref32_Below_E d0 score) (ref32_Below k d0 score) := by
  refine RunsO.of_goes (N := 31) (m := 0) (T := [(0, .agg [.d (.lit (List.map e_i64 d0))]), (1, .d (.int .i64 score))]) Try.func15 rfl rfl (h := ?_)
  unfold ref32_Below
  refine bStart ?_
  refine oSR rfl ?_
  refine oD (.ptr 0 0) (k_box (H' := [.box [.d (.lit (List.map e_i64 d0))]]) (cells := [.d (.lit (List.map e_i64 d0))])) ?_
  refine oP (.d (.int .i64 0)) p_assign ?_
  refine oEnd ?_
  refine oSR rfl ?_
  refine oP (.d (.int .i64 0)) p_assign ?_
  refine oEnd ?_
  refine oSeq ?_
  refine oSR rfl ?_
  refine oP (.d (.int .i64 0)) p_assign ?_
  refine oEnd ?_
  refine bJoin ((fun (n5 : Int) => [(5, .d (.int .i64 n5))])) ((fun (n5 : Int) => [])) (fun s => s) (fun n5 => ?_) (fun hj2 => ?_)
  ·refine oView (T' := [(5, .d (.int .i64 n5))]) (H' := []) (h := ?_)
   refine oSR rfl ?_
   refine oP (.d (.int .i64 n5)) p_move ?_
   refine oP (.d (.int .i64 n5)) p_assign ?_
   refine oEnd ?_
   exact oRet (r0 := n5) (rv := .d (.int .i64 n5)) (B := []) (vs := [.d (.int .i64 n5)]) (σ := []) (hf := Try.func15) (hrs := rfl) (hres := .cons _ _ _ _ (.tmp 4 _ (by kernel_rfl)) .nil) (hnd := by decide)
  ·refine oBlock ?_
   refine oLoop ?_
   refine oHead [1, 2, 5, 6] [0] (T' := [(1, .d (.int .i64 score)), (2, .ptr 0 0), (5, .d (.int .i64 0)), (6, .d (.int .i64 0))]) (H' := [.box [.d (.lit (List.map e_i64 d0))]]) (hnd := by decide) (h := ?_)
   refine bLoop (body := ref32_Below_b1 k d0 score) ((uc fun (n6 : Int) => (fun (i4 : Int) => [(1, .d (.int .i64 score)), (2, .ptr 0 0), (5, .d (.int .i64 n6)), (6, .d (.int .i64 i4))]))) ((uc fun (n6 : Int) => (fun (i4 : Int) => [.box [.d (.lit (List.map e_i64 d0))]]))) (fun again hag1 s => ?_) k (0, 0)
   ·unfold ref32_Below_b1
    obtain ⟨n6, i4⟩ := s
    refine bUc ?_
    refine oView (T' := [(1, .d (.int .i64 score)), (2, .ptr 0 0), (5, .d (.int .i64 n6)), (6, .d (.int .i64 i4))]) (H' := [.box [.d (.lit (List.map e_i64 d0))]]) (h := ?_)
    refine oSeq ?_
    refine oSR rfl ?_
    refine oP (.d (.int .i64 i4)) p_move ?_
    refine oP (.ptr 0 0) (k_fieldAddr 0 0 (hu := Try.underlying28) (hf := rfl) (hi := ty22)) ?_
    refine oQ (.d (.lit (List.map e_i64 d0))) (k_load 0 0 (hu := Try.underlying22)) ?_
    refine oP (.d (.int .i64 ((List.length d0) : Int))) (k_lenLit (enc := e_i64) d0 (hu := Try.underlying22)) ?_
    refine oP (.d (.bool (decide (i4 < ((List.length d0) : Int))))) (p_int (k := .i64) (p := i4) (q := ((List.length d0) : Int))) ?_
    refine oP (.d (.bool (decide (i4 < ((List.length d0) : Int))))) p_move ?_
    refine bMeetF (H' := [.box [.d (.lit (List.map e_i64 d0))]]) 4 rfl ((fun (x12 : Bool) => [(1, .d (.int .i64 score)), (2, .ptr 0 0), (5, .d (.int .i64 n6)), (6, .d (.int .i64 i4)), (16, .d (.bool x12))])) (fun x12 => ?_) (fun F hj3 => ?_)
    ·refine oView (T' := [(1, .d (.int .i64 score)), (2, .ptr 0 0), (5, .d (.int .i64 n6)), (6, .d (.int .i64 i4)), (16, .d (.bool x12))]) (H' := [.box [.d (.lit (List.map e_i64 d0))]]) (h := ?_)
     refine oP (.d (.bool x12)) p_move ?_
     refine bMeet 3 rfl ((fun (x13 : Bool) => [(1, .d (.int .i64 score)), (2, .ptr 0 0), (5, .d (.int .i64 n6)), (6, .d (.int .i64 i4)), (20, .d (.bool x13))])) ((fun (x13 : Bool) => [.box [.d (.lit (List.map e_i64 d0))]])) (fun s => s) (fun x13 => ?_) (fun hj4 => ?_)
     ·refine oView (T' := [(1, .d (.int .i64 score)), (2, .ptr 0 0), (5, .d (.int .i64 n6)), (6, .d (.int .i64 i4)), (20, .d (.bool x13))]) (H' := [.box [.d (.lit (List.map e_i64 d0))]]) (h := ?_)
      refine oEnd ?_
      refine bSplit 20 (h1 := fun hc => ?_) (h2 := fun hc => ?_)
      ·refine oCondT (h := ?_)
       refine oSkip ?_
       refine oSeq ?_
       refine oBlock ?_
       refine oRegion rfl ?_
       refine oP (.d (.int .i64 n6)) p_move ?_
       refine oP (.ptr 0 0) (k_fieldAddr 0 0 (hu := Try.underlying28) (hf := rfl) (hi := ty22)) ?_
       refine oQ (.d (.lit (List.map e_i64 d0))) (k_load 0 0 (hu := Try.underlying22)) ?_
       refine oP (.d (.int .i64 i4)) p_move ?_
       refine bIdx (fun e113 h126 h127 => ?_)
       refine oP (.lptr (e_i64 e113) 0) (k_idxLit e_i64_len d0 (a := e113) (k := .i64) (i := i4) (hu := Try.underlying22) (hi := ty3) (h0 := h126) (he := h127)) ?_
       refine oQ (.d (.int .i64 e113)) (k_loadL (cells := e_i64 e113) 0 (hu := Try.underlying3)) ?_
       refine oP (.d (.int .i64 (IntKind.wrap .i64 (n6 + e113)))) (p_int (k := .i64) (p := n6) (q := e113)) ?_
       refine oP (.d (.int .i64 (IntKind.wrap .i64 (n6 + e113)))) p_assign ?_
       refine oEnd ?_
       refine oBlk ?_
       refine oRegion rfl ?_
       refine oP (.d (.int .i64 i4)) p_move ?_
       refine oP (.d (.int .i64 (IntKind.wrap .i64 (i4 + 1)))) (p_int (k := .i64) (p := i4) (q := 1)) ?_
       refine oP (.d (.int .i64 (IntKind.wrap .i64 (i4 + 1)))) p_assign ?_
       refine oEnd ?_
       refine oAgain ?_
       refine oHead [1, 2, 5, 6] [0] (T' := [(1, .d (.int .i64 score)), (2, .ptr 0 0), (5, .d (.int .i64 (IntKind.wrap .i64 (n6 + e113)))), (6, .d (.int .i64 (IntKind.wrap .i64 (i4 + 1))))]) (H' := [.box [.d (.lit (List.map e_i64 d0))]]) (hnd := by decide) (h := ?_)
       exact hag1 ((IntKind.wrap .i64 (n6 + e113)), (IntKind.wrap .i64 (i4 + 1)))
      ·refine oCondF (h := ?_)
       refine oExit rfl ?_
       refine oHead [5] [] (T' := [(5, .d (.int .i64 n6))]) (H' := []) (hnd := by decide) (h := ?_)
       exact hj2 n6
     ·refine bSplit 17 (h1 := fun hc => ?_) (h2 := fun hc => ?_)
      ·refine oQ (.agg [.d (.lit (List.map e_i64 d0))]) (k_loadAgg 0 0 (hu := Try.underlying28) (hi := ty28)) ?_
       refine bCall (caps := []) (v := (fun (r18 : Bool) => (.d (.bool r18) : V))) (H' := (fun (r18 : Bool) => ([.box [.d (.lit (List.map e_i64 d0))]] : List Blk))) [] _ (ref32_Valid_goes k d0) (ho := rfl) (hfn := Try.func41) (hb := rfl) (hconv := ConvRs.refl _ _) (hnd := by decide) (hBl := fun _ => (by kernel_rfl)) (hv := fun _ => (by kernel_rfl)) (hH' := fun _ => (by kernel_rfl)) (h := fun r18 => ?_)
       refine oP (.d (.bool r18)) (p_pick (b := true)) ?_
       refine oHead [1, 2, 5, 6, 20] [0] (T' := [(1, .d (.int .i64 score)), (2, .ptr 0 0), (5, .d (.int .i64 n6)), (6, .d (.int .i64 i4)), (20, .d (.bool r18))]) (H' := [.box [.d (.lit (List.map e_i64 d0))]]) (hnd := by decide) (h := ?_)
       exact hj4 r18
      ·refine oNot (h := ?_)
       refine oNot (h := ?_)
       refine oP (.d (.bool false)) (p_pick (b := false)) ?_
       refine oHead [1, 2, 5, 6, 20] [0] (T' := [(1, .d (.int .i64 score)), (2, .ptr 0 0), (5, .d (.int .i64 n6)), (6, .d (.int .i64 i4)), (20, .d (.bool false))]) (H' := [.box [.d (.lit (List.map e_i64 d0))]]) (hnd := by decide) (h := ?_)
       exact hj4 false
    ·refine bPickF 12 (fun c => F (c && (decide (i4 < score)))) (h1 := fun hc => ?_) (h2 := fun hc => ?_)
     ·refine oP (.d (.int .i64 i4)) p_move ?_
      refine oP (.d (.int .i64 score)) p_move ?_
      refine oP (.d (.bool (decide (i4 < score)))) (p_int (k := .i64) (p := i4) (q := score)) ?_
      refine oP (.d (.bool (decide (i4 < score)))) (p_pick (b := true)) ?_
      refine oHead [1, 2, 5, 6, 16] [0] (T' := [(1, .d (.int .i64 score)), (2, .ptr 0 0), (5, .d (.int .i64 n6)), (6, .d (.int .i64 i4)), (16, .d (.bool (decide (i4 < score))))]) (H' := [.box [.d (.lit (List.map e_i64 d0))]]) (hnd := by decide) (h := ?_)
      exact hj3 (decide (i4 < score))
     ·refine oNot (h := ?_)
      refine oNot (h := ?_)
      refine oNot (h := ?_)
      refine oP (.d (.bool false)) (p_pick (b := false)) ?_
      refine oHead [1, 2, 5, 6, 16] [0] (T' := [(1, .d (.int .i64 score)), (2, .ptr 0 0), (5, .d (.int .i64 n6)), (6, .d (.int .i64 i4)), (16, .d (.bool false))]) (H' := [.box [.d (.lit (List.map e_i64 d0))]]) (hnd := by decide) (h := ?_)
      exact hj3 false

/-- awardingbody/awardingbodyref32.Count -/
def ref32_Count (k : Nat) (d0 : (List Int)) : Option (Int) := Option.bind (ref32_Below k d0 ((List.length d0) : Int)) (fun r121 => some r121)
def ref32_Count_E (d0 : (List Int)) : Int → V × List Blk := fun r1 => (.d (.int .i64 r1), [])
theorem ref32_Count_goes (k : Nat) (d0 : (List Int)) : RunsO Try.prog 12 [.agg [.d (.lit (List.map e_i64 d0))]] [] (ref32_Count_E d0) (ref32_Count k d0) := by
  refine RunsO.of_goes (N := 8) (m := 0) (T := [(0, .agg [.d (.lit (List.map e_i64 d0))])]) Try.func12 rfl rfl (h := ?_)
  unfold ref32_Count
  refine bStart ?_
  refine oSR rfl ?_
  refine oD (.ptr 0 0) (k_box (H' := [.box [.d (.lit (List.map e_i64 d0))]]) (cells := [.d (.lit (List.map e_i64 d0))])) ?_
  refine oP (.d (.int .i64 0)) p_assign ?_
  refine oEnd ?_
  refine oSR rfl ?_
  refine oQ (.agg [.d (.lit (List.map e_i64 d0))]) (k_loadAgg 0 0 (hu := Try.underlying28) (hi := ty28)) ?_
  refine oP (.ptr 0 0) (k_fieldAddr 0 0 (hu := Try.underlying28) (hf := rfl) (hi := ty22)) ?_
  refine oQ (.d (.lit (List.map e_i64 d0))) (k_load 0 0 (hu := Try.underlying22)) ?_
  refine oP (.d (.int .i64 ((List.length d0) : Int))) (k_lenLit (enc := e_i64) d0 (hu := Try.underlying22)) ?_
  refine bCall (caps := []) (v := (fun (r121 : Int) => (.d (.int .i64 r121) : V))) (H' := (fun (r121 : Int) => ([.box [.d (.lit (List.map e_i64 d0))]] : List Blk))) [] _ (ref32_Below_goes k d0 ((List.length d0) : Int)) (ho := rfl) (hfn := Try.func15) (hb := rfl) (hconv := ConvRs.refl _ _) (hnd := by decide) (hBl := fun _ => (by kernel_rfl)) (hv := fun _ => (by kernel_rfl)) (hH' := fun _ => (by kernel_rfl)) (h := fun r121 => ?_)
  refine oP (.d (.int .i64 r121)) p_assign ?_
  refine oEnd ?_
  exact oRet (r0 := r121) (rv := .d (.int .i64 r121)) (B := []) (vs := [.d (.int .i64 r121)]) (σ := []) (hf := Try.func12) (hrs := rfl) (hres := .cons _ _ _ _ (.tmp 2 _ (by kernel_rfl)) .nil) (hnd := by decide)

/-- awardingbody/awardingbodyref01.Size -/
def ref01_Size (k : Nat) (n : Int) : Option (Int) := bif (decide (n < 0)) then some (IntKind.wrap .u64 ((IntKind.wrap .u64 (IntKind.wrap .i64 (0 - (IntKind.wrap .i64 (n + 1))))) + 1)) else some (IntKind.wrap .u64 n)
def ref01_Size_E (n : Int) : Int → V × List Blk := fun r1 => (.d (.int .u64 r1), [])
theorem ref01_Size_goes (k : Nat) (n : Int) : RunsO Try.prog 37 [.d (.int .i64 n)] [] (ref01_Size_E n) (ref01_Size k n) := by
  refine RunsO.of_goes (N := 12) (m := 0) (T := [(0, .d (.int .i64 n))]) Try.func37 rfl rfl (h := ?_)
  unfold ref01_Size
  refine bStart ?_
  refine oSR rfl ?_
  refine oP (.d (.int .u64 0)) p_assign ?_
  refine oEnd ?_
  refine oSeq ?_
  refine oSR rfl ?_
  refine oP (.d (.int .i64 n)) p_move ?_
  refine oP (.d (.bool (decide (n < 0)))) (p_int (k := .i64) (p := n) (q := 0)) ?_
  refine oEnd ?_
  refine bSplit 4 (h1 := fun hc => ?_) (h2 := fun hc => ?_)
  ·refine oCondT (h := ?_)
   refine oSR rfl ?_
   refine oP (.d (.int .i64 n)) p_move ?_
   refine oP (.d (.int .i64 (IntKind.wrap .i64 (n + 1)))) (p_int (k := .i64) (p := n) (q := 1)) ?_
   refine oP (.d (.int .i64 (IntKind.wrap .i64 (0 - (IntKind.wrap .i64 (n + 1)))))) (p_neg (k := .i64) (p := (IntKind.wrap .i64 (n + 1)))) ?_
   refine oP (.d (.int .u64 (IntKind.wrap .u64 (IntKind.wrap .i64 (0 - (IntKind.wrap .i64 (n + 1))))))) (p_conv (k := .i64) (p := (IntKind.wrap .i64 (0 - (IntKind.wrap .i64 (n + 1))))) (hu1 := Try.underlying3) (hu2 := Try.underlying62)) ?_
   refine oP (.d (.int .u64 (IntKind.wrap .u64 ((IntKind.wrap .u64 (IntKind.wrap .i64 (0 - (IntKind.wrap .i64 (n + 1))))) + 1)))) (p_int (k := .u64) (p := (IntKind.wrap .u64 (IntKind.wrap .i64 (0 - (IntKind.wrap .i64 (n + 1)))))) (q := 1)) ?_
   refine oP (.d (.int .u64 (IntKind.wrap .u64 ((IntKind.wrap .u64 (IntKind.wrap .i64 (0 - (IntKind.wrap .i64 (n + 1))))) + 1)))) p_assign ?_
   refine oEnd ?_
   exact oRet (r0 := (IntKind.wrap .u64 ((IntKind.wrap .u64 (IntKind.wrap .i64 (0 - (IntKind.wrap .i64 (n + 1))))) + 1))) (rv := .d (.int .u64 (IntKind.wrap .u64 ((IntKind.wrap .u64 (IntKind.wrap .i64 (0 - (IntKind.wrap .i64 (n + 1))))) + 1)))) (B := []) (vs := [.d (.int .u64 (IntKind.wrap .u64 ((IntKind.wrap .u64 (IntKind.wrap .i64 (0 - (IntKind.wrap .i64 (n + 1))))) + 1)))]) (σ := []) (hf := Try.func37) (hrs := rfl) (hres := .cons _ _ _ _ (.tmp 2 _ (by kernel_rfl)) .nil) (hnd := by decide)
  ·refine oCondF (h := ?_)
   refine oSkip ?_
   refine oSR rfl ?_
   refine oP (.d (.int .i64 n)) p_move ?_
   refine oP (.d (.int .u64 (IntKind.wrap .u64 n))) (p_conv (k := .i64) (p := n) (hu1 := Try.underlying3) (hu2 := Try.underlying62)) ?_
   refine oP (.d (.int .u64 (IntKind.wrap .u64 n))) p_assign ?_
   refine oEnd ?_
   exact oRet (r0 := (IntKind.wrap .u64 n)) (rv := .d (.int .u64 (IntKind.wrap .u64 n))) (B := []) (vs := [.d (.int .u64 (IntKind.wrap .u64 n))]) (σ := []) (hf := Try.func37) (hrs := rfl) (hres := .cons _ _ _ _ (.tmp 2 _ (by kernel_rfl)) .nil) (hnd := by decide)

/-- awardingbody/awardingbodyref01.Twice -/
def ref01_Twice (k : Nat) (a0 : Int) (a1 : Int) : Option (Int × Int) := some ((ior .u64 (IntKind.wrap .u64 (a0 * 2 ^ (min (Int.toNat 1) (IntKind.bits .u64)))) (Int.fdiv a1 (2 ^ (min (Int.toNat 63) (IntKind.bits .u64))))), (IntKind.wrap .u64 (a1 * 2 ^ (min (Int.toNat 1) (IntKind.bits .u64)))))
def ref01_Twice_E (a0 : Int) (a1 : Int) : Int × Int → V × List Blk := uc fun r1 => fun r11 => (.agg [.d (.int .u64 r1), .d (.int .u64 r11)], [])
theorem ref01_Twice_goes (k : Nat) (a0 : Int) (a1 : Int) : RunsO Try.prog 90 [.agg [.d (.int .u64 a0), .d (.int .u64 a1)]] [] (ref01_Twice_E a0 a1) (ref01_Twice k a0 a1) := by
  refine RunsO.of_goes (N := 14) (m := 0) (T := [(0, .agg [.d (.int .u64 a0), .d (.int .u64 a1)])]) Try.func90 rfl rfl (h := ?_)
  unfold ref01_Twice
  refine bStart ?_
  refine oSR rfl ?_
  refine oD (.ptr 0 0) (k_box (H' := [.box [.d (.int .u64 a0), .d (.int .u64 a1)]]) (cells := [.d (.int .u64 a0), .d (.int .u64 a1)])) ?_
  refine oD (.ptr 1 0) (k_alloc (H' := [.box [.d (.int .u64 a0), .d (.int .u64 a1)], .box [.d (.int .u64 0), .d (.int .u64 0)]]) ty65) ?_
  refine oEnd ?_
  refine oSR rfl ?_
  refine oP (.ptr 0 0) (k_fieldAddr 0 0 (hu := Try.underlying65) (hf := rfl) (hi := ty62)) ?_
  refine oQ (.d (.int .u64 a0)) (k_load 0 0 (hu := Try.underlying62)) ?_
  refine oP (.d (.int .u64 (IntKind.wrap .u64 (a0 * 2 ^ (min (Int.toNat 1) (IntKind.bits .u64)))))) (p_shl (k := .u64) (k2 := .u64) (p := a0) (q := 1) (hq := by decide)) ?_
  refine oP (.ptr 0 1) (k_fieldAddr 0 0 (hu := Try.underlying65) (hf := rfl) (hi := ty62)) ?_
  refine oQ (.d (.int .u64 a1)) (k_load 0 1 (hu := Try.underlying62)) ?_
  refine oP (.d (.int .u64 (Int.fdiv a1 (2 ^ (min (Int.toNat 63) (IntKind.bits .u64)))))) (p_shr (k := .u64) (k2 := .u64) (p := a1) (q := 63) (hq := by decide)) ?_
  refine oP (.d (.int .u64 (ior .u64 (IntKind.wrap .u64 (a0 * 2 ^ (min (Int.toNat 1) (IntKind.bits .u64)))) (Int.fdiv a1 (2 ^ (min (Int.toNat 63) (IntKind.bits .u64))))))) (p_int (k := .u64) (p := (IntKind.wrap .u64 (a0 * 2 ^ (min (Int.toNat 1) (IntKind.bits .u64))))) (q := (Int.fdiv a1 (2 ^ (min (Int.toNat 63) (IntKind.bits .u64)))))) ?_
  refine oP (.ptr 0 1) (k_fieldAddr 0 0 (hu := Try.underlying65) (hf := rfl) (hi := ty62)) ?_
  refine oQ (.d (.int .u64 a1)) (k_load 0 1 (hu := Try.underlying62)) ?_
  refine oP (.d (.int .u64 (IntKind.wrap .u64 (a1 * 2 ^ (min (Int.toNat 1) (IntKind.bits .u64)))))) (p_shl (k := .u64) (k2 := .u64) (p := a1) (q := 1) (hq := by decide)) ?_
  refine oP (.agg [.d (.int .u64 (ior .u64 (IntKind.wrap .u64 (a0 * 2 ^ (min (Int.toNat 1) (IntKind.bits .u64)))) (Int.fdiv a1 (2 ^ (min (Int.toNat 63) (IntKind.bits .u64)))))), .d (.int .u64 (IntKind.wrap .u64 (a1 * 2 ^ (min (Int.toNat 1) (IntKind.bits .u64)))))]) (p_build bld65) ?_
  refine oD (.undef) (k_store (vs := [.d (.int .u64 (ior .u64 (IntKind.wrap .u64 (a0 * 2 ^ (min (Int.toNat 1) (IntKind.bits .u64)))) (Int.fdiv a1 (2 ^ (min (Int.toNat 63) (IntKind.bits .u64)))))), .d (.int .u64 (IntKind.wrap .u64 (a1 * 2 ^ (min (Int.toNat 1) (IntKind.bits .u64)))))]) (H' := [.box [.d (.int .u64 a0), .d (.int .u64 a1)], .box [.d (.int .u64 (ior .u64 (IntKind.wrap .u64 (a0 * 2 ^ (min (Int.toNat 1) (IntKind.bits .u64)))) (Int.fdiv a1 (2 ^ (min (Int.toNat 63) (IntKind.bits .u64)))))), .d (.int .u64 (IntKind.wrap .u64 (a1 * 2 ^ (min (Int.toNat 1) (IntKind.bits .u64)))))]]) 1 0 (hi := ty65)) ?_
  refine oEnd ?_
  exact oRet (r0 := ((ior .u64 (IntKind.wrap .u64 (a0 * 2 ^ (min (Int.toNat 1) (IntKind.bits .u64)))) (Int.fdiv a1 (2 ^ (min (Int.toNat 63) (IntKind.bits .u64))))), (IntKind.wrap .u64 (a1 * 2 ^ (min (Int.toNat 1) (IntKind.bits .u64)))))) (rv := .agg [.d (.int .u64 (ior .u64 (IntKind.wrap .u64 (a0 * 2 ^ (min (Int.toNat 1) (IntKind.bits .u64)))) (Int.fdiv a1 (2 ^ (min (Int.toNat 63) (IntKind.bits .u64)))))), .d (.int .u64 (IntKind.wrap .u64 (a1 * 2 ^ (min (Int.toNat 1) (IntKind.bits .u64)))))]) (B := []) (vs := [.agg [.d (.int .u64 (ior .u64 (IntKind.wrap .u64 (a0 * 2 ^ (min (Int.toNat 1) (IntKind.bits .u64)))) (Int.fdiv a1 (2 ^ (min (Int.toNat 63) (IntKind.bits .u64)))))), .d (.int .u64 (IntKind.wrap .u64 (a1 * 2 ^ (min (Int.toNat 1) (IntKind.bits .u64)))))]]) (σ := []) (hf := Try.func90) (hrs := rfl) (hres := .cons _ _ _ _ (.agg 2 65 1 0 [.d (.int .u64 (ior .u64 (IntKind.wrap .u64 (a0 * 2 ^ (min (Int.toNat 1) (IntKind.bits .u64)))) (Int.fdiv a1 (2 ^ (min (Int.toNat 63) (IntKind.bits .u64)))))), .d (.int .u64 (IntKind.wrap .u64 (a1 * 2 ^ (min (Int.toNat 1) (IntKind.bits .u64)))))] [.d (.int .u64 (ior .u64 (IntKind.wrap .u64 (a0 * 2 ^ (min (Int.toNat 1) (IntKind.bits .u64)))) (Int.fdiv a1 (2 ^ (min (Int.toNat 63) (IntKind.bits .u64)))))), .d (.int .u64 (IntKind.wrap .u64 (a1 * 2 ^ (min (Int.toNat 1) (IntKind.bits .u64)))))] _ _ _ _ (by kernel_rfl) (by kernel_rfl) Try.underlying65 (by kernel_rfl) ty65 (by kernel_rfl) (by kernel_rfl)) .nil) (hnd := by decide)

/-- awardingbody/awardingbodyref01.Order -/
def ref01_Order (k : Nat) (a0 : Int) (a1 : Int) (b0 : Int) (b1 : Int) : Option (Int) := Option.bind (bif (decide (a0 < b0)) then some true else blet ((a0 == b0) && (decide (a1 < b1))) fun x4 => some x4 : Option (Bool)) (fun x3 => bif x3 then some (-1) else bif ((a0 == b0) && ((a1 == b1) && true)) then some 0 else some 1)
def ref01_Order_E (a0 : Int) (a1 : Int) (b0 : Int) (b1 : Int) : Int → V × List Blk := fun r1 => (.d (.int .i64 r1), [])
theorem ref01_Order_goes (k : Nat) (a0 : Int) (a1 : Int) (b0 : Int) (b1 : Int) : RunsO Try.prog 79 [.agg [.d (.int .u64 a0), .d (.int .u64 a1)], .agg [.d (.int .u64 b0), .d (.int .u64 b1)]] [] (ref01_Order_E a0 a1 b0 b1) (ref01_Order k a0 a1 b0 b1) := by
  refine RunsO.of_goes (N := 27) (m := 0) (T := [(0, .agg [.d (.int .u64 a0), .d (.int .u64 a1)]), (1, .agg [.d (.int .u64 b0), .d (.int .u64 b1)])]) Try.func79 rfl rfl (h := ?_)
  unfold ref01_Order
  refine bStart ?_
  refine oSR rfl ?_
  refine oD (.ptr 0 0) (k_box (H' := [.box [.d (.int .u64 a0), .d (.int .u64 a1)]]) (cells := [.d (.int .u64 a0), .d (.int .u64 a1)])) ?_
  refine oD (.ptr 1 0) (k_box (H' := [.box [.d (.int .u64 a0), .d (.int .u64 a1)], .box [.d (.int .u64 b0), .d (.int .u64 b1)]]) (cells := [.d (.int .u64 b0), .d (.int .u64 b1)])) ?_
  refine oP (.d (.int .i64 0)) p_assign ?_
  refine oEnd ?_
  refine oSeq ?_
  refine oSR rfl ?_
  refine oP (.ptr 0 0) (k_fieldAddr 0 0 (hu := Try.underlying65) (hf := rfl) (hi := ty62)) ?_
  refine oQ (.d (.int .u64 a0)) (k_load 0 0 (hu := Try.underlying62)) ?_
  refine oP (.ptr 1 0) (k_fieldAddr 1 0 (hu := Try.underlying65) (hf := rfl) (hi := ty62)) ?_
  refine oQ (.d (.int .u64 b0)) (k_load 1 0 (hu := Try.underlying62)) ?_
  refine oP (.d (.bool (decide (a0 < b0)))) (p_int (k := .u64) (p := a0) (q := b0)) ?_
  refine oP (.d (.bool (decide (a0 < b0)))) p_move ?_
  refine bMeet 13 rfl ((fun (x3 : Bool) => [(2, .ptr 0 0), (3, .ptr 1 0), (23, .d (.bool x3))])) ((fun (x3 : Bool) => [.box [.d (.int .u64 a0), .d (.int .u64 a1)], .box [.d (.int .u64 b0), .d (.int .u64 b1)]])) (fun s => s) (fun x3 => ?_) (fun hj1 => ?_)
  ·refine oView (T' := [(2, .ptr 0 0), (3, .ptr 1 0), (23, .d (.bool x3))]) (H' := [.box [.d (.int .u64 a0), .d (.int .u64 a1)], .box [.d (.int .u64 b0), .d (.int .u64 b1)]]) (h := ?_)
   refine oEnd ?_
   refine bSplit 23 (h1 := fun hc => ?_) (h2 := fun hc => ?_)
   ·refine oCondT (h := ?_)
    refine oSR rfl ?_
    refine oP (.d (.int .i64 (-1))) p_assign ?_
    refine oEnd ?_
    exact oRet (r0 := (-1)) (rv := .d (.int .i64 (-1))) (B := []) (vs := [.d (.int .i64 (-1))]) (σ := []) (hf := Try.func79) (hrs := rfl) (hres := .cons _ _ _ _ (.tmp 4 _ (by kernel_rfl)) .nil) (hnd := by decide)
   ·refine oCondF (h := ?_)
    refine oSkip ?_
    refine oSeq ?_
    refine oSR rfl ?_
    refine oQ (.agg [.d (.int .u64 a0), .d (.int .u64 a1)]) (k_loadAgg 0 0 (hu := Try.underlying65) (hi := ty65)) ?_
    refine oQ (.agg [.d (.int .u64 b0), .d (.int .u64 b1)]) (k_loadAgg 1 0 (hu := Try.underlying65) (hi := ty65)) ?_
    refine oP (.d (.bool ((a0 == b0) && ((a1 == b1) && true)))) (k_eqAgg (hg := Try.eqGuardType65) (h := EqV.struct 1 65 [.d (.int .u64 a0), .d (.int .u64 a1)] [.d (.int .u64 b0), .d (.int .u64 b1)] _ ((a0 == b0) && ((a1 == b1) && true)) Try.underlying65 Try.stoodInHeld65 (EqF.one 1 1 _ _ _ _ _ _ _ (a0 == b0) ((a1 == b1) && true) (by kernel_rfl) Try.underlying62 (by kernel_rfl) (by kernel_rfl) (by kernel_rfl) (by kernel_rfl) (EqV.int 62 .u64 .u64 a0 b0 Try.underlying62) (EqF.one 1 1 _ _ _ _ _ _ _ (a1 == b1) true (by kernel_rfl) Try.underlying62 (by kernel_rfl) (by kernel_rfl) (by kernel_rfl) (by kernel_rfl) (EqV.int 62 .u64 .u64 a1 b1 Try.underlying62) (EqF.nil 1 _ _))))) ?_
    refine oEnd ?_
    refine bSplit 26 (h1 := fun hc => ?_) (h2 := fun hc => ?_)
    ·refine oCondT (h := ?_)
     refine oSR rfl ?_
     refine oP (.d (.int .i64 0)) p_assign ?_
     refine oEnd ?_
     exact oRet (r0 := 0) (rv := .d (.int .i64 0)) (B := []) (vs := [.d (.int .i64 0)]) (σ := []) (hf := Try.func79) (hrs := rfl) (hres := .cons _ _ _ _ (.tmp 4 _ (by kernel_rfl)) .nil) (hnd := by decide)
    ·refine oCondF (h := ?_)
     refine oSkip ?_
     refine oSR rfl ?_
     refine oP (.d (.int .i64 1)) p_assign ?_
     refine oEnd ?_
     exact oRet (r0 := 1) (rv := .d (.int .i64 1)) (B := []) (vs := [.d (.int .i64 1)]) (σ := []) (hf := Try.func79) (hrs := rfl) (hres := .cons _ _ _ _ (.tmp 4 _ (by kernel_rfl)) .nil) (hnd := by decide)
  ·refine bSplit 10 (h1 := fun hc => ?_) (h2 := fun hc => ?_)
   ·refine oNot (h := ?_)
    refine oNot (h := ?_)
    refine oNot (h := ?_)
    refine oNot (h := ?_)
    refine oNot (h := ?_)
    refine oNot (h := ?_)
    refine oNot (h := ?_)
    refine oNot (h := ?_)
    refine oNot (h := ?_)
    refine oNot (h := ?_)
    refine oNot (h := ?_)
    refine oNot (h := ?_)
    refine oP (.d (.bool true)) (p_pick (b := true)) ?_
    refine oHead [2, 3, 23] [0, 1] (T' := [(2, .ptr 0 0), (3, .ptr 1 0), (23, .d (.bool true))]) (H' := [.box [.d (.int .u64 a0), .d (.int .u64 a1)], .box [.d (.int .u64 b0), .d (.int .u64 b1)]]) (hnd := by decide) (h := ?_)
    exact hj1 true
   ·refine oP (.ptr 0 0) (k_fieldAddr 0 0 (hu := Try.underlying65) (hf := rfl) (hi := ty62)) ?_
    refine oQ (.d (.int .u64 a0)) (k_load 0 0 (hu := Try.underlying62)) ?_
    refine oP (.ptr 1 0) (k_fieldAddr 1 0 (hu := Try.underlying65) (hf := rfl) (hi := ty62)) ?_
    refine oQ (.d (.int .u64 b0)) (k_load 1 0 (hu := Try.underlying62)) ?_
    refine oP (.d (.bool (a0 == b0))) (p_int (k := .u64) (p := a0) (q := b0)) ?_
    refine oP (.d (.bool (a0 == b0))) p_move ?_
    refine bMeetF (H' := [.box [.d (.int .u64 a0), .d (.int .u64 a1)], .box [.d (.int .u64 b0), .d (.int .u64 b1)]]) 6 rfl ((fun (x4 : Bool) => [(2, .ptr 0 0), (3, .ptr 1 0), (10, .d (.bool false)), (22, .d (.bool x4))])) (fun x4 => ?_) (fun F hj2 => ?_)
    ·refine oView (T' := [(2, .ptr 0 0), (3, .ptr 1 0), (10, .d (.bool false)), (22, .d (.bool x4))]) (H' := [.box [.d (.int .u64 a0), .d (.int .u64 a1)], .box [.d (.int .u64 b0), .d (.int .u64 b1)]]) (h := ?_)
     refine oP (.d (.bool x4)) (p_pick (b := false)) ?_
     refine oHead [2, 3, 23] [0, 1] (T' := [(2, .ptr 0 0), (3, .ptr 1 0), (23, .d (.bool x4))]) (H' := [.box [.d (.int .u64 a0), .d (.int .u64 a1)], .box [.d (.int .u64 b0), .d (.int .u64 b1)]]) (hnd := by decide) (h := ?_)
     exact hj1 x4
    ·refine bPickF 16 (fun c => F (c && (decide (a1 < b1)))) (h1 := fun hc => ?_) (h2 := fun hc => ?_)
     ·refine oP (.ptr 0 1) (k_fieldAddr 0 0 (hu := Try.underlying65) (hf := rfl) (hi := ty62)) ?_
      refine oQ (.d (.int .u64 a1)) (k_load 0 1 (hu := Try.underlying62)) ?_
      refine oP (.ptr 1 1) (k_fieldAddr 1 0 (hu := Try.underlying65) (hf := rfl) (hi := ty62)) ?_
      refine oQ (.d (.int .u64 b1)) (k_load 1 1 (hu := Try.underlying62)) ?_
      refine oP (.d (.bool (decide (a1 < b1)))) (p_int (k := .u64) (p := a1) (q := b1)) ?_
      refine oP (.d (.bool (decide (a1 < b1)))) (p_pick (b := true)) ?_
      refine oHead [2, 3, 10, 22] [0, 1] (T' := [(2, .ptr 0 0), (3, .ptr 1 0), (10, .d (.bool false)), (22, .d (.bool (decide (a1 < b1))))]) (H' := [.box [.d (.int .u64 a0), .d (.int .u64 a1)], .box [.d (.int .u64 b0), .d (.int .u64 b1)]]) (hnd := by decide) (h := ?_)
      exact hj2 (decide (a1 < b1))
     ·refine oNot (h := ?_)
      refine oNot (h := ?_)
      refine oNot (h := ?_)
      refine oNot (h := ?_)
      refine oNot (h := ?_)
      refine oP (.d (.bool false)) (p_pick (b := false)) ?_
      refine oHead [2, 3, 10, 22] [0, 1] (T' := [(2, .ptr 0 0), (3, .ptr 1 0), (10, .d (.bool false)), (22, .d (.bool false))]) (H' := [.box [.d (.int .u64 a0), .d (.int .u64 a1)], .box [.d (.int .u64 b0), .d (.int .u64 b1)]]) (hnd := by decide) (h := ?_)
      exact hj2 false

/-- awardingbody/awardingbodyref01.Minus -/
def ref01_Minus (k : Nat) (a0 : Int) (a1 : Int) (b0 : Int) (b1 : Int) : Option (Unit) := gcarry a1 b1 0 (gle b1 18446744073709551615 (gcarry a0 b0 (if a1 < b1 + 0 then 1 else 0) (gle b0 18446744073709551615 (some ()))))
def ref01_Minus_E (a0 : Int) (a1 : Int) (b0 : Int) (b1 : Int) : Unit → V × List Blk := u0 ((.agg [.d (.int .u64 ((a0 - b0 - (if a1 < b1 + 0 then 1 else 0)) % 18446744073709551616)), .d (.int .u64 ((a1 - b1 - 0) % 18446744073709551616))], []))
theorem ref01_Minus_goes (k : Nat) (a0 : Int) (a1 : Int) (b0 : Int) (b1 : Int) : RunsO Try.prog 80 [.agg [.d (.int .u64 a0), .d (.int .u64 a1)], .agg [.d (.int .u64 b0), .d (.int .u64 b1)]] [] (ref01_Minus_E a0 a1 b0 b1) (ref01_Minus k a0 a1 b0 b1) := by
  refine RunsO.of_goes (N := 29) (m := 0) (T := [(0, .agg [.d (.int .u64 a0), .d (.int .u64 a1)]), (1, .agg [.d (.int .u64 b0), .d (.int .u64 b1)])]) Try.func80 rfl rfl (h := ?_)
  unfold ref01_Minus
  refine bStart ?_
  refine oSR rfl ?_
  refine oD (.ptr 0 0) (k_box (H' := [.box [.d (.int .u64 a0), .d (.int .u64 a1)]]) (cells := [.d (.int .u64 a0), .d (.int .u64 a1)])) ?_
  refine oD (.ptr 1 0) (k_box (H' := [.box [.d (.int .u64 a0), .d (.int .u64 a1)], .box [.d (.int .u64 b0), .d (.int .u64 b1)]]) (cells := [.d (.int .u64 b0), .d (.int .u64 b1)])) ?_
  refine oD (.ptr 2 0) (k_alloc (H' := [.box [.d (.int .u64 a0), .d (.int .u64 a1)], .box [.d (.int .u64 b0), .d (.int .u64 b1)], .box [.d (.int .u64 0), .d (.int .u64 0)]]) ty65) ?_
  refine oEnd ?_
  refine oSR rfl ?_
  refine oP (.ptr 0 1) (k_fieldAddr 0 0 (hu := Try.underlying65) (hf := rfl) (hi := ty62)) ?_
  refine oQ (.d (.int .u64 a1)) (k_load 0 1 (hu := Try.underlying62)) ?_
  refine oP (.ptr 1 1) (k_fieldAddr 1 0 (hu := Try.underlying65) (hf := rfl) (hi := ty62)) ?_
  refine oQ (.d (.int .u64 b1)) (k_load 1 1 (hu := Try.underlying62)) ?_
  refine bCarry (fun h14 => ?_)
  refine bLe (fun h15 => ?_)
  refine oP (.tuple [.d (.int .u64 ((a1 - b1 - 0) % 18446744073709551616)), .d (.int .u64 (if a1 < b1 + 0 then 1 else 0))]) (p_sub64 (p := a1) (q := b1) (c := 0) (hfn := Try.func94) (hc := h14) (hq := h15)) ?_
  refine oP (.tuple [.d (.int .u64 ((a1 - b1 - 0) % 18446744073709551616)), .d (.int .u64 (if a1 < b1 + 0 then 1 else 0))]) p_move ?_
  refine oP (.d (.int .u64 ((a1 - b1 - 0) % 18446744073709551616))) k_extract ?_
  refine oP (.d (.int .u64 (if a1 < b1 + 0 then 1 else 0))) k_extract ?_
  refine oP (.d (.int .u64 ((a1 - b1 - 0) % 18446744073709551616))) p_assign ?_
  refine oP (.d (.int .u64 (if a1 < b1 + 0 then 1 else 0))) p_assign ?_
  refine oEnd ?_
  refine oSR rfl ?_
  refine oP (.ptr 0 0) (k_fieldAddr 0 0 (hu := Try.underlying65) (hf := rfl) (hi := ty62)) ?_
  refine oQ (.d (.int .u64 a0)) (k_load 0 0 (hu := Try.underlying62)) ?_
  refine oP (.ptr 1 0) (k_fieldAddr 1 0 (hu := Try.underlying65) (hf := rfl) (hi := ty62)) ?_
  refine oQ (.d (.int .u64 b0)) (k_load 1 0 (hu := Try.underlying62)) ?_
  refine oP (.d (.int .u64 (if a1 < b1 + 0 then 1 else 0))) p_move ?_
  refine bCarry (fun h16 => ?_)
  refine bLe (fun h17 => ?_)
  refine oP (.tuple [.d (.int .u64 ((a0 - b0 - (if a1 < b1 + 0 then 1 else 0)) % 18446744073709551616)), .d (.int .u64 (if a0 < b0 + (if a1 < b1 + 0 then 1 else 0) then 1 else 0))]) (p_sub64 (p := a0) (q := b0) (c := (if a1 < b1 + 0 then 1 else 0)) (hfn := Try.func94) (hc := h16) (hq := h17)) ?_
  refine oP (.tuple [.d (.int .u64 ((a0 - b0 - (if a1 < b1 + 0 then 1 else 0)) % 18446744073709551616)), .d (.int .u64 (if a0 < b0 + (if a1 < b1 + 0 then 1 else 0) then 1 else 0))]) p_move ?_
  refine oP (.d (.int .u64 ((a0 - b0 - (if a1 < b1 + 0 then 1 else 0)) % 18446744073709551616))) k_extract ?_
  refine oP (.d (.int .u64 (if a0 < b0 + (if a1 < b1 + 0 then 1 else 0) then 1 else 0))) k_extract ?_
  refine oP (.d (.int .u64 ((a0 - b0 - (if a1 < b1 + 0 then 1 else 0)) % 18446744073709551616))) p_assign ?_
  refine oP (.d (.int .u64 (if a0 < b0 + (if a1 < b1 + 0 then 1 else 0) then 1 else 0))) p_assign ?_
  refine oEnd ?_
  refine oSR rfl ?_
  refine oP (.d (.int .u64 ((a0 - b0 - (if a1 < b1 + 0 then 1 else 0)) % 18446744073709551616))) p_move ?_
  refine oP (.d (.int .u64 ((a1 - b1 - 0) % 18446744073709551616))) p_move ?_
  refine oP (.agg [.d (.int .u64 ((a0 - b0 - (if a1 < b1 + 0 then 1 else 0)) % 18446744073709551616)), .d (.int .u64 ((a1 - b1 - 0) % 18446744073709551616))]) (p_build bld65) ?_
  refine oD (.undef) (k_store (vs := [.d (.int .u64 ((a0 - b0 - (if a1 < b1 + 0 then 1 else 0)) % 18446744073709551616)), .d (.int .u64 ((a1 - b1 - 0) % 18446744073709551616))]) (H' := [.box [.d (.int .u64 a0), .d (.int .u64 a1)], .box [.d (.int .u64 b0), .d (.int .u64 b1)], .box [.d (.int .u64 ((a0 - b0 - (if a1 < b1 + 0 then 1 else 0)) % 18446744073709551616)), .d (.int .u64 ((a1 - b1 - 0) % 18446744073709551616))]]) 2 0 (hi := ty65)) ?_
  refine oEnd ?_
  exact oRet (r0 := ()) (rv := .agg [.d (.int .u64 ((a0 - b0 - (if a1 < b1 + 0 then 1 else 0)) % 18446744073709551616)), .d (.int .u64 ((a1 - b1 - 0) % 18446744073709551616))]) (B := []) (vs := [.agg [.d (.int .u64 ((a0 - b0 - (if a1 < b1 + 0 then 1 else 0)) % 18446744073709551616)), .d (.int .u64 ((a1 - b1 - 0) % 18446744073709551616))]]) (σ := []) (hf := Try.func80) (hrs := rfl) (hres := .cons _ _ _ _ (.agg 4 65 2 0 [.d (.int .u64 ((a0 - b0 - (if a1 < b1 + 0 then 1 else 0)) % 18446744073709551616)), .d (.int .u64 ((a1 - b1 - 0) % 18446744073709551616))] [.d (.int .u64 ((a0 - b0 - (if a1 < b1 + 0 then 1 else 0)) % 18446744073709551616)), .d (.int .u64 ((a1 - b1 - 0) % 18446744073709551616))] _ _ _ _ (by kernel_rfl) (by kernel_rfl) Try.underlying65 (by kernel_rfl) ty65 (by kernel_rfl) (by kernel_rfl)) .nil) (hnd := by decide)

/-- awardingbody/awardingbodyref01.Divide -/
def ref01_Divide_b1 (k : Nat) (a0 : Int) (a1 : Int) (b0 : Int) (b1 : Int) (again : Int × Int × Int × Int × Int → Option (Int × Int × Int × Int)) : Int × Int × Int × Int × Int → Option (Int × Int × Int × Int) := uc fun i4 => uc fun x56 => uc fun x57 => uc fun x58 => fun x59 => bif (decide (i4 ≥ 0)) then Option.bind (gnn (IntKind.wrap .u64 (Int.tmod i4 64)) (Option.bind (bif (decide (i4 ≥ 64)) then gnn (IntKind.wrap .u64 (IntKind.wrap .i64 (i4 - 64))) (some (iand .u64 (Int.fdiv a0 (2 ^ (min (Int.toNat (IntKind.wrap .u64 (IntKind.wrap .i64 (i4 - 64)))) (IntKind.bits .u64)))) 1)) else some (iand .u64 (Int.fdiv a1 (2 ^ (min (Int.toNat (IntKind.wrap .u64 (Int.tmod i4 64))) (IntKind.bits .u64)))) 1) : Option (Int)) (fun bit4 => Option.bind (ref01_Twice k x58 x59) (uc fun r131 => fun r1118 => Option.bind (ref01_Twice k x56 x57) (uc fun r132 => fun r1119 => Option.bind (bif ((Int.fdiv x58 (2 ^ (min (Int.toNat 63) (IntKind.bits .u64)))) == 1) then some (true, (ior .u64 r1118 bit4)) else Option.bind (ref01_Order k r131 (ior .u64 r1118 bit4) b0 b1) (fun r134 => some ((decide (r134 ≥ 0)), (ior .u64 r1118 bit4))) : Option (Bool × Int)) (uc fun x76 => fun x77 => bif x76 then Option.bind (ref01_Minus k r131 x77 b0 b1) (u0 (some (r132, (ior .u64 r1119 1), ((r131 - b0 - (if x77 < b1 + 0 then 1 else 0)) % 18446744073709551616), ((x77 - b1 - 0) % 18446744073709551616)))) else some (r132, r1119, r131, x77)))))) : Option (Int × Int × Int × Int)) (uc fun x72 => uc fun x73 => uc fun x74 => fun x75 => again ((IntKind.wrap .i64 (i4 - 1)), x72, x73, x74, x75)) else some (x56, x57, x58, x59)
def ref01_Divide (k : Nat) (a0 : Int) (a1 : Int) (b0 : Int) (b1 : Int) : Option (Int × Int × Int × Int) := blet ((a0 == 0) && (b0 == 0)) fun x25 => bif x25 then gnz b1 (gnz b1 (some (0, (IntKind.wrap .u64 (Int.tdiv a1 b1)), 0, (Int.tmod a1 b1)))) else Option.bind (gloop (ref01_Divide_b1 k a0 a1 b0 b1) k (127, 0, 0, 0, 0) : Option (Int × Int × Int × Int)) (uc fun x46 => uc fun x47 => uc fun x48 => fun x49 => some (x46, x47, x48, x49))
def ref01_Divide_E (a0 : Int) (a1 : Int) (b0 : Int) (b1 : Int) : Int × Int × Int × Int → V × List Blk := uc fun r17 => uc fun r18 => uc fun r19 => fun r110 => (.tuple [.agg [.d (.int .u64 r17), .d (.int .u64 r18)], .agg [.d (.int .u64 r19), .d (.int .u64 r110)]], [])
theorem ref01_Divide_goes (k : Nat) (a0 : Int) (a1 : Int) (b0 : Int) (b1 : Int) : RunsO Try.prog 63 [.agg [.d (.int .u64 a0), .d (.int .u64 a1)], .agg [.d (.int .u64 b0), .d (.int .u64 b1)]] [] (ref01_Divide_E a0 a1 b0 b1) (ref01_Divide k a0 a1 b0 b1) := by
  refine RunsO.of_goes (N := 82) (m := 0) (T := [(0, .agg [.d (.int .u64 a0), .d (.int .u64 a1)]), (1, .agg [.d (.int .u64 b0), .d (.int .u64 b1)])]) Try.func63 rfl rfl (h := ?_)
  unfold ref01_Divide
  refine bStart ?_
  refine oSR rfl ?_
  refine oD (.ptr 0 0) (k_box (H' := [.box [.d (.int .u64 a0), .d (.int .u64 a1)]]) (cells := [.d (.int .u64 a0), .d (.int .u64 a1)])) ?_
  refine oD (.ptr 1 0) (k_box (H' := [.box [.d (.int .u64 a0), .d (.int .u64 a1)], .box [.d (.int .u64 b0), .d (.int .u64 b1)]]) (cells := [.d (.int .u64 b0), .d (.int .u64 b1)])) ?_
  refine oD (.ptr 2 0) (k_alloc (H' := [.box [.d (.int .u64 a0), .d (.int .u64 a1)], .box [.d (.int .u64 b0), .d (.int .u64 b1)], .box [.d (.int .u64 0), .d (.int .u64 0)]]) ty65) ?_
  refine oD (.ptr 3 0) (k_alloc (H' := [.box [.d (.int .u64 a0), .d (.int .u64 a1)], .box [.d (.int .u64 b0), .d (.int .u64 b1)], .box [.d (.int .u64 0), .d (.int .u64 0)], .box [.d (.int .u64 0), .d (.int .u64 0)]]) ty65) ?_
  refine oEnd ?_
  refine oSeq ?_
  refine oSR rfl ?_
  refine oP (.ptr 0 0) (k_fieldAddr 0 0 (hu := Try.underlying65) (hf := rfl) (hi := ty62)) ?_
  refine oQ (.d (.int .u64 a0)) (k_load 0 0 (hu := Try.underlying62)) ?_
  refine oP (.d (.bool (a0 == 0))) (p_int (k := .u64) (p := a0) (q := 0)) ?_
  refine oP (.d (.bool (a0 == 0))) p_move ?_
  refine bMeetF (H' := [.box [.d (.int .u64 a0), .d (.int .u64 a1)], .box [.d (.int .u64 b0), .d (.int .u64 b1)], .box [.d (.int .u64 0), .d (.int .u64 0)], .box [.d (.int .u64 0), .d (.int .u64 0)]]) 4 rfl ((fun (x25 : Bool) => [(2, .ptr 0 0), (3, .ptr 1 0), (4, .ptr 2 0), (5, .ptr 3 0), (18, .d (.bool x25))])) (fun x25 => ?_) (fun F hj5 => ?_)
  ·refine oView (T' := [(2, .ptr 0 0), (3, .ptr 1 0), (4, .ptr 2 0), (5, .ptr 3 0), (18, .d (.bool x25))]) (H' := [.box [.d (.int .u64 a0), .d (.int .u64 a1)], .box [.d (.int .u64 b0), .d (.int .u64 b1)], .box [.d (.int .u64 0), .d (.int .u64 0)], .box [.d (.int .u64 0), .d (.int .u64 0)]]) (h := ?_)
   refine oEnd ?_
   refine bSplit 18 (h1 := fun hc => ?_) (h2 := fun hc => ?_)
   ·refine oCondT (h := ?_)
    refine oSeq ?_
    refine oDraw [(0, 14), (1, 14), (2, 12), (3, 13)] rfl ?_
    refine aP 0 (.ptr 0 1) rfl (k_fieldAddr 0 0 (hu := Try.underlying65) (hf := rfl) (hi := ty62)) ?_
    refine aQ 1 [0] (.d (.int .u64 a1)) rfl (k_load 0 1 (hu := Try.underlying62)) ?_
    refine aP 2 (.ptr 1 1) rfl (k_fieldAddr 1 0 (hu := Try.underlying65) (hf := rfl) (hi := ty62)) ?_
    refine aQ 3 [1] (.d (.int .u64 b1)) rfl (k_load 1 1 (hu := Try.underlying62)) ?_
    refine dNz (fun h1 => ?_)
    refine aTakeP (i := 4) (.d (.int .u64 (IntKind.wrap .u64 (Int.tdiv a1 b1)))) rfl (hp := p_quo (k := .u64) (p := a1) (q := b1) (hq := h1)) (h := ?_)
    refine aP 5 (.agg [.d (.int .u64 0), .d (.int .u64 (IntKind.wrap .u64 (Int.tdiv a1 b1)))]) rfl (p_build bld65) ?_
    refine aP 6 (.ptr 0 1) rfl (k_fieldAddr 0 0 (hu := Try.underlying65) (hf := rfl) (hi := ty62)) ?_
    refine aQ 7 [0] (.d (.int .u64 a1)) rfl (k_load 0 1 (hu := Try.underlying62)) ?_
    refine aP 8 (.ptr 1 1) rfl (k_fieldAddr 1 0 (hu := Try.underlying65) (hf := rfl) (hi := ty62)) ?_
    refine aQ 9 [1] (.d (.int .u64 b1)) rfl (k_load 1 1 (hu := Try.underlying62)) ?_
    refine dNz (fun h12 => ?_)
    refine aTakeP (i := 10) (.d (.int .u64 (Int.tmod a1 b1))) rfl (hp := p_rem (k := .u64) (p := a1) (q := b1) (hq := h12)) (h := ?_)
    refine aP 11 (.agg [.d (.int .u64 0), .d (.int .u64 (Int.tmod a1 b1))]) rfl (p_build bld65) ?_
    refine aOne (i := 12) (v := .undef) rfl (hac := Does.acts (k_store (vs := [.d (.int .u64 0), .d (.int .u64 (IntKind.wrap .u64 (Int.tdiv a1 b1)))]) (H' := [.box [.d (.int .u64 a0), .d (.int .u64 a1)], .box [.d (.int .u64 b0), .d (.int .u64 b1)], .box [.d (.int .u64 0), .d (.int .u64 (IntKind.wrap .u64 (Int.tdiv a1 b1)))], .box [.d (.int .u64 0), .d (.int .u64 0)]]) 2 0 (hi := ty65))) (h := ?_)
    refine aOne (i := 13) (v := .undef) rfl (hac := Does.acts (k_store (vs := [.d (.int .u64 0), .d (.int .u64 (Int.tmod a1 b1))]) (H' := [.box [.d (.int .u64 a0), .d (.int .u64 a1)], .box [.d (.int .u64 b0), .d (.int .u64 b1)], .box [.d (.int .u64 0), .d (.int .u64 (IntKind.wrap .u64 (Int.tdiv a1 b1)))], .box [.d (.int .u64 0), .d (.int .u64 (Int.tmod a1 b1))]]) 3 0 (hi := ty65))) (h := ?_)
    refine aDone (h := ?_)
    exact oRet (r0 := (0, (IntKind.wrap .u64 (Int.tdiv a1 b1)), 0, (Int.tmod a1 b1))) (rv := .tuple [.agg [.d (.int .u64 0), .d (.int .u64 (IntKind.wrap .u64 (Int.tdiv a1 b1)))], .agg [.d (.int .u64 0), .d (.int .u64 (Int.tmod a1 b1))]]) (B := []) (vs := [.agg [.d (.int .u64 0), .d (.int .u64 (IntKind.wrap .u64 (Int.tdiv a1 b1)))], .agg [.d (.int .u64 0), .d (.int .u64 (Int.tmod a1 b1))]]) (σ := []) (hf := Try.func63) (hrs := rfl) (hres := .cons _ _ _ _ (.agg 4 65 2 0 [.d (.int .u64 0), .d (.int .u64 (IntKind.wrap .u64 (Int.tdiv a1 b1)))] [.d (.int .u64 0), .d (.int .u64 (IntKind.wrap .u64 (Int.tdiv a1 b1)))] _ _ _ _ (by kernel_rfl) (by kernel_rfl) Try.underlying65 (by kernel_rfl) ty65 (by kernel_rfl) (by kernel_rfl)) (.cons _ _ _ _ (.agg 5 65 3 0 [.d (.int .u64 0), .d (.int .u64 (Int.tmod a1 b1))] [.d (.int .u64 0), .d (.int .u64 (Int.tmod a1 b1))] _ _ _ _ (by kernel_rfl) (by kernel_rfl) Try.underlying65 (by kernel_rfl) ty65 (by kernel_rfl) (by kernel_rfl)) .nil)) (hnd := by decide)
   ·refine oCondF (h := ?_)
    refine oSkip ?_
    refine oSR rfl ?_
    refine oP (.agg [.d (.int .u64 0), .d (.int .u64 0)]) (p_build bld65) ?_
    refine oP (.agg [.d (.int .u64 0), .d (.int .u64 0)]) (p_build bld65) ?_
    refine oD (.ptr 4 0) (k_alloc (H' := [.box [.d (.int .u64 a0), .d (.int .u64 a1)], .box [.d (.int .u64 b0), .d (.int .u64 b1)], .box [.d (.int .u64 0), .d (.int .u64 0)], .box [.d (.int .u64 0), .d (.int .u64 0)], .box [.d (.int .u64 0), .d (.int .u64 0)]]) ty65) ?_
    refine oD (.ptr 5 0) (k_alloc (H' := [.box [.d (.int .u64 a0), .d (.int .u64 a1)], .box [.d (.int .u64 b0), .d (.int .u64 b1)], .box [.d (.int .u64 0), .d (.int .u64 0)], .box [.d (.int .u64 0), .d (.int .u64 0)], .box [.d (.int .u64 0), .d (.int .u64 0)], .box [.d (.int .u64 0), .d (.int .u64 0)]]) ty65) ?_
    refine oD (.undef) (k_store (vs := [.d (.int .u64 0), .d (.int .u64 0)]) (H' := [.box [.d (.int .u64 a0), .d (.int .u64 a1)], .box [.d (.int .u64 b0), .d (.int .u64 b1)], .box [.d (.int .u64 0), .d (.int .u64 0)], .box [.d (.int .u64 0), .d (.int .u64 0)], .box [.d (.int .u64 0), .d (.int .u64 0)], .box [.d (.int .u64 0), .d (.int .u64 0)]]) 4 0 (hi := ty65)) ?_
    refine oD (.undef) (k_store (vs := [.d (.int .u64 0), .d (.int .u64 0)]) (H' := [.box [.d (.int .u64 a0), .d (.int .u64 a1)], .box [.d (.int .u64 b0), .d (.int .u64 b1)], .box [.d (.int .u64 0), .d (.int .u64 0)], .box [.d (.int .u64 0), .d (.int .u64 0)], .box [.d (.int .u64 0), .d (.int .u64 0)], .box [.d (.int .u64 0), .d (.int .u64 0)]]) 5 0 (hi := ty65)) ?_
    refine oEnd ?_
    refine oSeq ?_
    refine oSR rfl ?_
    refine oP (.d (.int .i64 127)) p_assign ?_
    refine oEnd ?_
    refine bJoin ((uc fun (x46 : Int) => (uc fun (x47 : Int) => (uc fun (x48 : Int) => (fun (x49 : Int) => [(4, .ptr 0 0), (5, .ptr 1 0), (6, .ptr 2 0), (7, .ptr 3 0)]))))) ((uc fun (x46 : Int) => (uc fun (x47 : Int) => (uc fun (x48 : Int) => (fun (x49 : Int) => [.box [.d (.int .u64 0), .d (.int .u64 0)], .box [.d (.int .u64 0), .d (.int .u64 0)], .box [.d (.int .u64 x46), .d (.int .u64 x47)], .box [.d (.int .u64 x48), .d (.int .u64 x49)]]))))) (fun s => s) (fun s => ?_) (fun hj9 => ?_)
    ·obtain ⟨x46, x47, x48, x49⟩ := s
     refine bUc ?_
     refine bUc ?_
     refine bUc ?_
     refine oView (T' := [(4, .ptr 0 0), (5, .ptr 1 0), (6, .ptr 2 0), (7, .ptr 3 0)]) (H' := [.box [.d (.int .u64 0), .d (.int .u64 0)], .box [.d (.int .u64 0), .d (.int .u64 0)], .box [.d (.int .u64 x46), .d (.int .u64 x47)], .box [.d (.int .u64 x48), .d (.int .u64 x49)]]) (h := ?_)
     refine oSeq ?_
     refine oDraw [(0, 2), (1, 3), (2, 4), (3, 4)] rfl ?_
     refine aQ 0 [2] (.agg [.d (.int .u64 x46), .d (.int .u64 x47)]) rfl (k_loadAgg 2 0 (hu := Try.underlying65) (hi := ty65)) ?_
     refine aQ 1 [3] (.agg [.d (.int .u64 x48), .d (.int .u64 x49)]) rfl (k_loadAgg 3 0 (hu := Try.underlying65) (hi := ty65)) ?_
     refine aOne (i := 2) (v := .undef) rfl (hac := Does.acts (k_store (vs := [.d (.int .u64 x46), .d (.int .u64 x47)]) (H' := [.box [.d (.int .u64 x46), .d (.int .u64 x47)], .box [.d (.int .u64 0), .d (.int .u64 0)], .box [.d (.int .u64 x46), .d (.int .u64 x47)], .box [.d (.int .u64 x48), .d (.int .u64 x49)]]) 0 0 (hi := ty65))) (h := ?_)
     refine aOne (i := 3) (v := .undef) rfl (hac := Does.acts (k_store (vs := [.d (.int .u64 x48), .d (.int .u64 x49)]) (H' := [.box [.d (.int .u64 x46), .d (.int .u64 x47)], .box [.d (.int .u64 x48), .d (.int .u64 x49)], .box [.d (.int .u64 x46), .d (.int .u64 x47)], .box [.d (.int .u64 x48), .d (.int .u64 x49)]]) 1 0 (hi := ty65))) (h := ?_)
     refine aDone (h := ?_)
     exact oRet (r0 := (x46, x47, x48, x49)) (rv := .tuple [.agg [.d (.int .u64 x46), .d (.int .u64 x47)], .agg [.d (.int .u64 x48), .d (.int .u64 x49)]]) (B := []) (vs := [.agg [.d (.int .u64 x46), .d (.int .u64 x47)], .agg [.d (.int .u64 x48), .d (.int .u64 x49)]]) (σ := []) (hf := Try.func63) (hrs := rfl) (hres := .cons _ _ _ _ (.agg 4 65 0 0 [.d (.int .u64 x46), .d (.int .u64 x47)] [.d (.int .u64 x46), .d (.int .u64 x47)] _ _ _ _ (by kernel_rfl) (by kernel_rfl) Try.underlying65 (by kernel_rfl) ty65 (by kernel_rfl) (by kernel_rfl)) (.cons _ _ _ _ (.agg 5 65 1 0 [.d (.int .u64 x48), .d (.int .u64 x49)] [.d (.int .u64 x48), .d (.int .u64 x49)] _ _ _ _ (by kernel_rfl) (by kernel_rfl) Try.underlying65 (by kernel_rfl) ty65 (by kernel_rfl) (by kernel_rfl)) .nil)) (hnd := by decide)
    ·refine oBlock ?_
     refine oLoop ?_
     refine oHead [2, 3, 4, 5, 6, 7, 8] [0, 1, 2, 3, 4, 5] (T' := [(2, .ptr 0 0), (3, .ptr 1 0), (4, .ptr 2 0), (5, .ptr 3 0), (6, .ptr 4 0), (7, .ptr 5 0), (8, .d (.int .i64 127))]) (H' := [.box [.d (.int .u64 a0), .d (.int .u64 a1)], .box [.d (.int .u64 b0), .d (.int .u64 b1)], .box [.d (.int .u64 0), .d (.int .u64 0)], .box [.d (.int .u64 0), .d (.int .u64 0)], .box [.d (.int .u64 0), .d (.int .u64 0)], .box [.d (.int .u64 0), .d (.int .u64 0)]]) (hnd := by decide) (h := ?_)
     refine bLoop (body := ref01_Divide_b1 k a0 a1 b0 b1) ((uc fun (i4 : Int) => (uc fun (x56 : Int) => (uc fun (x57 : Int) => (uc fun (x58 : Int) => (fun (x59 : Int) => [(2, .ptr 0 0), (3, .ptr 1 0), (4, .ptr 2 0), (5, .ptr 3 0), (6, .ptr 4 0), (7, .ptr 5 0), (8, .d (.int .i64 i4))])))))) ((uc fun (i4 : Int) => (uc fun (x56 : Int) => (uc fun (x57 : Int) => (uc fun (x58 : Int) => (fun (x59 : Int) => [.box [.d (.int .u64 a0), .d (.int .u64 a1)], .box [.d (.int .u64 b0), .d (.int .u64 b1)], .box [.d (.int .u64 0), .d (.int .u64 0)], .box [.d (.int .u64 0), .d (.int .u64 0)], .box [.d (.int .u64 x56), .d (.int .u64 x57)], .box [.d (.int .u64 x58), .d (.int .u64 x59)]])))))) (fun again hag1 s => ?_) k (127, 0, 0, 0, 0)
     ·unfold ref01_Divide_b1
      obtain ⟨i4, x56, x57, x58, x59⟩ := s
      refine bUc ?_
      refine bUc ?_
      refine bUc ?_
      refine bUc ?_
      refine oView (T' := [(2, .ptr 0 0), (3, .ptr 1 0), (4, .ptr 2 0), (5, .ptr 3 0), (6, .ptr 4 0), (7, .ptr 5 0), (8, .d (.int .i64 i4))]) (H' := [.box [.d (.int .u64 a0), .d (.int .u64 a1)], .box [.d (.int .u64 b0), .d (.int .u64 b1)], .box [.d (.int .u64 0), .d (.int .u64 0)], .box [.d (.int .u64 0), .d (.int .u64 0)], .box [.d (.int .u64 x56), .d (.int .u64 x57)], .box [.d (.int .u64 x58), .d (.int .u64 x59)]]) (h := ?_)
      refine oSeq ?_
      refine oSR rfl ?_
      refine oP (.d (.int .i64 i4)) p_move ?_
      refine oP (.d (.bool (decide (i4 ≥ 0)))) (p_int (k := .i64) (p := i4) (q := 0)) ?_
      refine oEnd ?_
      refine bSplit 34 (h1 := fun hc => ?_) (h2 := fun hc => ?_)
      ·refine oCondT (h := ?_)
       refine oSkip ?_
       refine oSeq ?_
       refine bJoin ((uc fun (x72 : Int) => (uc fun (x73 : Int) => (uc fun (x74 : Int) => (fun (x75 : Int) => [(2, .ptr 0 0), (3, .ptr 1 0), (4, .ptr 2 0), (5, .ptr 3 0), (6, .ptr 4 0), (7, .ptr 5 0), (8, .d (.int .i64 i4))]))))) ((uc fun (x72 : Int) => (uc fun (x73 : Int) => (uc fun (x74 : Int) => (fun (x75 : Int) => [.box [.d (.int .u64 a0), .d (.int .u64 a1)], .box [.d (.int .u64 b0), .d (.int .u64 b1)], .box [.d (.int .u64 0), .d (.int .u64 0)], .box [.d (.int .u64 0), .d (.int .u64 0)], .box [.d (.int .u64 x72), .d (.int .u64 x73)], .box [.d (.int .u64 x74), .d (.int .u64 x75)]]))))) (fun s => s) (fun s => ?_) (fun hj14 => ?_)
       ·obtain ⟨x72, x73, x74, x75⟩ := s
        refine bUc ?_
        refine bUc ?_
        refine bUc ?_
        refine oView (T' := [(2, .ptr 0 0), (3, .ptr 1 0), (4, .ptr 2 0), (5, .ptr 3 0), (6, .ptr 4 0), (7, .ptr 5 0), (8, .d (.int .i64 i4))]) (H' := [.box [.d (.int .u64 a0), .d (.int .u64 a1)], .box [.d (.int .u64 b0), .d (.int .u64 b1)], .box [.d (.int .u64 0), .d (.int .u64 0)], .box [.d (.int .u64 0), .d (.int .u64 0)], .box [.d (.int .u64 x72), .d (.int .u64 x73)], .box [.d (.int .u64 x74), .d (.int .u64 x75)]]) (h := ?_)
        refine oRegion rfl ?_
        refine oP (.d (.int .i64 i4)) p_move ?_
        refine oP (.d (.int .i64 (IntKind.wrap .i64 (i4 - 1)))) (p_int (k := .i64) (p := i4) (q := 1)) ?_
        refine oP (.d (.int .i64 (IntKind.wrap .i64 (i4 - 1)))) p_assign ?_
        refine oEnd ?_
        refine oAgain ?_
        refine oHead [2, 3, 4, 5, 6, 7, 8] [0, 1, 2, 3, 4, 5] (T' := [(2, .ptr 0 0), (3, .ptr 1 0), (4, .ptr 2 0), (5, .ptr 3 0), (6, .ptr 4 0), (7, .ptr 5 0), (8, .d (.int .i64 (IntKind.wrap .i64 (i4 - 1))))]) (H' := [.box [.d (.int .u64 a0), .d (.int .u64 a1)], .box [.d (.int .u64 b0), .d (.int .u64 b1)], .box [.d (.int .u64 0), .d (.int .u64 0)], .box [.d (.int .u64 0), .d (.int .u64 0)], .box [.d (.int .u64 x72), .d (.int .u64 x73)], .box [.d (.int .u64 x74), .d (.int .u64 x75)]]) (hnd := by decide) (h := ?_)
        exact hag1 ((IntKind.wrap .i64 (i4 - 1)), x72, x73, x74, x75)
       ·refine oBlock ?_
        refine oSR rfl ?_
        refine oP (.ptr 0 1) (k_fieldAddr 0 0 (hu := Try.underlying65) (hf := rfl) (hi := ty62)) ?_
        refine oQ (.d (.int .u64 a1)) (k_load 0 1 (hu := Try.underlying62)) ?_
        refine oP (.d (.int .i64 i4)) p_move ?_
        refine oP (.d (.int .i64 (Int.tmod i4 64))) (p_rem (k := .i64) (p := i4) (q := 64) (hq := by decide)) ?_
        refine oP (.d (.int .u64 (IntKind.wrap .u64 (Int.tmod i4 64)))) (p_conv (k := .i64) (p := (Int.tmod i4 64)) (hu1 := Try.underlying3) (hu2 := Try.underlying107)) ?_
        refine bNn (fun h132 => ?_)
        refine oP (.d (.int .u64 (Int.fdiv a1 (2 ^ (min (Int.toNat (IntKind.wrap .u64 (Int.tmod i4 64))) (IntKind.bits .u64)))))) (p_shr (k := .u64) (k2 := .u64) (p := a1) (q := (IntKind.wrap .u64 (Int.tmod i4 64))) (hq := h132)) ?_
        refine oP (.d (.int .u64 (iand .u64 (Int.fdiv a1 (2 ^ (min (Int.toNat (IntKind.wrap .u64 (Int.tmod i4 64))) (IntKind.bits .u64)))) 1))) (p_int (k := .u64) (p := (Int.fdiv a1 (2 ^ (min (Int.toNat (IntKind.wrap .u64 (Int.tmod i4 64))) (IntKind.bits .u64))))) (q := 1)) ?_
        refine oP (.d (.int .u64 (iand .u64 (Int.fdiv a1 (2 ^ (min (Int.toNat (IntKind.wrap .u64 (Int.tmod i4 64))) (IntKind.bits .u64)))) 1))) p_assign ?_
        refine oEnd ?_
        refine oSeq ?_
        refine oSR rfl ?_
        refine oP (.d (.int .i64 i4)) p_move ?_
        refine oP (.d (.bool (decide (i4 ≥ 64)))) (p_int (k := .i64) (p := i4) (q := 64)) ?_
        refine oEnd ?_
        refine bJoin ((fun (bit4 : Int) => [(2, .ptr 0 0), (3, .ptr 1 0), (4, .ptr 2 0), (5, .ptr 3 0), (6, .ptr 4 0), (7, .ptr 5 0), (8, .d (.int .i64 i4)), (9, .d (.int .u64 bit4))])) ((fun (bit4 : Int) => [.box [.d (.int .u64 a0), .d (.int .u64 a1)], .box [.d (.int .u64 b0), .d (.int .u64 b1)], .box [.d (.int .u64 0), .d (.int .u64 0)], .box [.d (.int .u64 0), .d (.int .u64 0)], .box [.d (.int .u64 x56), .d (.int .u64 x57)], .box [.d (.int .u64 x58), .d (.int .u64 x59)]])) (fun s => s) (fun bit4 => ?_) (fun hj15 => ?_)
        ·refine oView (T' := [(2, .ptr 0 0), (3, .ptr 1 0), (4, .ptr 2 0), (5, .ptr 3 0), (6, .ptr 4 0), (7, .ptr 5 0), (8, .d (.int .i64 i4)), (9, .d (.int .u64 bit4))]) (H' := [.box [.d (.int .u64 a0), .d (.int .u64 a1)], .box [.d (.int .u64 b0), .d (.int .u64 b1)], .box [.d (.int .u64 0), .d (.int .u64 0)], .box [.d (.int .u64 0), .d (.int .u64 0)], .box [.d (.int .u64 x56), .d (.int .u64 x57)], .box [.d (.int .u64 x58), .d (.int .u64 x59)]]) (h := ?_)
         refine oSR rfl ?_
         refine oP (.ptr 5 0) (k_fieldAddr 5 0 (hu := Try.underlying65) (hf := rfl) (hi := ty62)) ?_
         refine oQ (.d (.int .u64 x58)) (k_load 5 0 (hu := Try.underlying62)) ?_
         refine oP (.d (.int .u64 (Int.fdiv x58 (2 ^ (min (Int.toNat 63) (IntKind.bits .u64)))))) (p_shr (k := .u64) (k2 := .u64) (p := x58) (q := 63) (hq := by decide)) ?_
         refine oP (.d (.bool ((Int.fdiv x58 (2 ^ (min (Int.toNat 63) (IntKind.bits .u64)))) == 1))) (p_int (k := .u64) (p := (Int.fdiv x58 (2 ^ (min (Int.toNat 63) (IntKind.bits .u64))))) (q := 1)) ?_
         refine oP (.d (.bool ((Int.fdiv x58 (2 ^ (min (Int.toNat 63) (IntKind.bits .u64)))) == 1))) p_assign ?_
         refine oEnd ?_
         refine oSR rfl ?_
         refine oQ (.agg [.d (.int .u64 x58), .d (.int .u64 x59)]) (k_loadAgg 5 0 (hu := Try.underlying65) (hi := ty65)) ?_
         refine bCall (caps := []) (v := (uc fun (r131 : Int) => (fun (r1118 : Int) => (.agg [.d (.int .u64 r131), .d (.int .u64 r1118)] : V)))) (H' := (uc fun (r131 : Int) => (fun (r1118 : Int) => ([.box [.d (.int .u64 a0), .d (.int .u64 a1)], .box [.d (.int .u64 b0), .d (.int .u64 b1)], .box [.d (.int .u64 0), .d (.int .u64 0)], .box [.d (.int .u64 0), .d (.int .u64 0)], .box [.d (.int .u64 x56), .d (.int .u64 x57)], .box [.d (.int .u64 x58), .d (.int .u64 x59)]] : List Blk)))) [] _ (ref01_Twice_goes k x58 x59) (ho := rfl) (hfn := Try.func90) (hb := rfl) (hconv := ConvRs.refl _ _) (hnd := by decide) (hBl := fun _ => (by kernel_rfl)) (hv := fun _ => (by kernel_rfl)) (hH' := fun _ => (by kernel_rfl)) (h := fun r => ?_)
         obtain ⟨r131, r1118⟩ := r
         refine bUc ?_
         refine oD (.undef) (k_store (vs := [.d (.int .u64 r131), .d (.int .u64 r1118)]) (H' := [.box [.d (.int .u64 a0), .d (.int .u64 a1)], .box [.d (.int .u64 b0), .d (.int .u64 b1)], .box [.d (.int .u64 0), .d (.int .u64 0)], .box [.d (.int .u64 0), .d (.int .u64 0)], .box [.d (.int .u64 x56), .d (.int .u64 x57)], .box [.d (.int .u64 r131), .d (.int .u64 r1118)]]) 5 0 (hi := ty65)) ?_
         refine oEnd ?_
         refine oSR rfl ?_
         refine oP (.ptr 5 1) (k_fieldAddr 5 0 (hu := Try.underlying65) (hf := rfl) (hi := ty62)) ?_
         refine oQ (.d (.int .u64 r1118)) (k_load 5 1 (hu := Try.underlying62)) ?_
         refine oP (.d (.int .u64 bit4)) p_move ?_
         refine oP (.d (.int .u64 (ior .u64 r1118 bit4))) (p_int (k := .u64) (p := r1118) (q := bit4)) ?_
         refine oP (.ptr 5 1) (k_fieldAddr 5 0 (hu := Try.underlying65) (hf := rfl) (hi := ty62)) ?_
         refine oD (.undef) (k_store (vs := [.d (.int .u64 (ior .u64 r1118 bit4))]) (H' := [.box [.d (.int .u64 a0), .d (.int .u64 a1)], .box [.d (.int .u64 b0), .d (.int .u64 b1)], .box [.d (.int .u64 0), .d (.int .u64 0)], .box [.d (.int .u64 0), .d (.int .u64 0)], .box [.d (.int .u64 x56), .d (.int .u64 x57)], .box [.d (.int .u64 r131), .d (.int .u64 (ior .u64 r1118 bit4))]]) 5 1 (hi := ty62)) ?_
         refine oEnd ?_
         refine oSR rfl ?_
         refine oQ (.agg [.d (.int .u64 x56), .d (.int .u64 x57)]) (k_loadAgg 4 0 (hu := Try.underlying65) (hi := ty65)) ?_
         refine bCall (caps := []) (v := (uc fun (r132 : Int) => (fun (r1119 : Int) => (.agg [.d (.int .u64 r132), .d (.int .u64 r1119)] : V)))) (H' := (uc fun (r132 : Int) => (fun (r1119 : Int) => ([.box [.d (.int .u64 a0), .d (.int .u64 a1)], .box [.d (.int .u64 b0), .d (.int .u64 b1)], .box [.d (.int .u64 0), .d (.int .u64 0)], .box [.d (.int .u64 0), .d (.int .u64 0)], .box [.d (.int .u64 x56), .d (.int .u64 x57)], .box [.d (.int .u64 r131), .d (.int .u64 (ior .u64 r1118 bit4))]] : List Blk)))) [] _ (ref01_Twice_goes k x56 x57) (ho := rfl) (hfn := Try.func90) (hb := rfl) (hconv := ConvRs.refl _ _) (hnd := by decide) (hBl := fun _ => (by kernel_rfl)) (hv := fun _ => (by kernel_rfl)) (hH' := fun _ => (by kernel_rfl)) (h := fun r => ?_)
         obtain ⟨r132, r1119⟩ := r
         refine bUc ?_
         refine oD (.undef) (k_store (vs := [.d (.int .u64 r132), .d (.int .u64 r1119)]) (H' := [.box [.d (.int .u64 a0), .d (.int .u64 a1)], .box [.d (.int .u64 b0), .d (.int .u64 b1)], .box [.d (.int .u64 0), .d (.int .u64 0)], .box [.d (.int .u64 0), .d (.int .u64 0)], .box [.d (.int .u64 r132), .d (.int .u64 r1119)], .box [.d (.int .u64 r131), .d (.int .u64 (ior .u64 r1118 bit4))]]) 4 0 (hi := ty65)) ?_
         refine oEnd ?_
         refine oSR rfl ?_
         refine oP (.d (.bool ((Int.fdiv x58 (2 ^ (min (Int.toNat 63) (IntKind.bits .u64)))) == 1))) p_move ?_
         refine oP (.d (.bool ((Int.fdiv x58 (2 ^ (min (Int.toNat 63) (IntKind.bits .u64)))) == 1))) p_move ?_
         refine bMeet 5 rfl ((uc fun (x76 : Bool) => (fun (x77 : Int) => [(2, .ptr 0 0), (3, .ptr 1 0), (4, .ptr 2 0), (5, .ptr 3 0), (6, .ptr 4 0), (7, .ptr 5 0), (8, .d (.int .i64 i4)), (72, .d (.bool x76))]))) ((uc fun (x76 : Bool) => (fun (x77 : Int) => [.box [.d (.int .u64 a0), .d (.int .u64 a1)], .box [.d (.int .u64 b0), .d (.int .u64 b1)], .box [.d (.int .u64 0), .d (.int .u64 0)], .box [.d (.int .u64 0), .d (.int .u64 0)], .box [.d (.int .u64 r132), .d (.int .u64 r1119)], .box [.d (.int .u64 r131), .d (.int .u64 x77)]]))) (fun s => s) (fun s => ?_) (fun hj16 => ?_)
         ·obtain ⟨x76, x77⟩ := s
          refine bUc ?_
          refine oView (T' := [(2, .ptr 0 0), (3, .ptr 1 0), (4, .ptr 2 0), (5, .ptr 3 0), (6, .ptr 4 0), (7, .ptr 5 0), (8, .d (.int .i64 i4)), (72, .d (.bool x76))]) (H' := [.box [.d (.int .u64 a0), .d (.int .u64 a1)], .box [.d (.int .u64 b0), .d (.int .u64 b1)], .box [.d (.int .u64 0), .d (.int .u64 0)], .box [.d (.int .u64 0), .d (.int .u64 0)], .box [.d (.int .u64 r132), .d (.int .u64 r1119)], .box [.d (.int .u64 r131), .d (.int .u64 x77)]]) (h := ?_)
          refine oEnd ?_
          refine bSplit 72 (h1 := fun hc => ?_) (h2 := fun hc => ?_)
          ·refine oCondT (h := ?_)
           refine oSR rfl ?_
           refine oQ (.agg [.d (.int .u64 r131), .d (.int .u64 x77)]) (k_loadAgg 5 0 (hu := Try.underlying65) (hi := ty65)) ?_
           refine oQ (.agg [.d (.int .u64 b0), .d (.int .u64 b1)]) (k_loadAgg 1 0 (hu := Try.underlying65) (hi := ty65)) ?_
           refine bCall (caps := []) (v := (u0 ((.agg [.d (.int .u64 ((r131 - b0 - (if x77 < b1 + 0 then 1 else 0)) % 18446744073709551616)), .d (.int .u64 ((x77 - b1 - 0) % 18446744073709551616))] : V)))) (H' := (u0 (([.box [.d (.int .u64 a0), .d (.int .u64 a1)], .box [.d (.int .u64 b0), .d (.int .u64 b1)], .box [.d (.int .u64 0), .d (.int .u64 0)], .box [.d (.int .u64 0), .d (.int .u64 0)], .box [.d (.int .u64 r132), .d (.int .u64 r1119)], .box [.d (.int .u64 r131), .d (.int .u64 x77)]] : List Blk)))) [] _ (ref01_Minus_goes k r131 x77 b0 b1) (ho := rfl) (hfn := Try.func80) (hb := rfl) (hconv := ConvRs.refl _ _) (hnd := by decide) (hBl := fun _ => (by kernel_rfl)) (hv := fun _ => (by kernel_rfl)) (hH' := fun _ => (by kernel_rfl)) (h := fun r => ?_)
           cases r
           refine bU0 ?_
           refine oD (.undef) (k_store (vs := [.d (.int .u64 ((r131 - b0 - (if x77 < b1 + 0 then 1 else 0)) % 18446744073709551616)), .d (.int .u64 ((x77 - b1 - 0) % 18446744073709551616))]) (H' := [.box [.d (.int .u64 a0), .d (.int .u64 a1)], .box [.d (.int .u64 b0), .d (.int .u64 b1)], .box [.d (.int .u64 0), .d (.int .u64 0)], .box [.d (.int .u64 0), .d (.int .u64 0)], .box [.d (.int .u64 r132), .d (.int .u64 r1119)], .box [.d (.int .u64 ((r131 - b0 - (if x77 < b1 + 0 then 1 else 0)) % 18446744073709551616)), .d (.int .u64 ((x77 - b1 - 0) % 18446744073709551616))]]) 5 0 (hi := ty65)) ?_
           refine oEnd ?_
           refine oRegion rfl ?_
           refine oP (.ptr 4 1) (k_fieldAddr 4 0 (hu := Try.underlying65) (hf := rfl) (hi := ty62)) ?_
           refine oQ (.d (.int .u64 r1119)) (k_load 4 1 (hu := Try.underlying62)) ?_
           refine oP (.d (.int .u64 (ior .u64 r1119 1))) (p_int (k := .u64) (p := r1119) (q := 1)) ?_
           refine oP (.ptr 4 1) (k_fieldAddr 4 0 (hu := Try.underlying65) (hf := rfl) (hi := ty62)) ?_
           refine oD (.undef) (k_store (vs := [.d (.int .u64 (ior .u64 r1119 1))]) (H' := [.box [.d (.int .u64 a0), .d (.int .u64 a1)], .box [.d (.int .u64 b0), .d (.int .u64 b1)], .box [.d (.int .u64 0), .d (.int .u64 0)], .box [.d (.int .u64 0), .d (.int .u64 0)], .box [.d (.int .u64 r132), .d (.int .u64 (ior .u64 r1119 1))], .box [.d (.int .u64 ((r131 - b0 - (if x77 < b1 + 0 then 1 else 0)) % 18446744073709551616)), .d (.int .u64 ((x77 - b1 - 0) % 18446744073709551616))]]) 4 1 (hi := ty62)) ?_
           refine oEnd ?_
           refine oBlk ?_
           refine oHead [2, 3, 4, 5, 6, 7, 8] [0, 1, 2, 3, 4, 5] (T' := [(2, .ptr 0 0), (3, .ptr 1 0), (4, .ptr 2 0), (5, .ptr 3 0), (6, .ptr 4 0), (7, .ptr 5 0), (8, .d (.int .i64 i4))]) (H' := [.box [.d (.int .u64 a0), .d (.int .u64 a1)], .box [.d (.int .u64 b0), .d (.int .u64 b1)], .box [.d (.int .u64 0), .d (.int .u64 0)], .box [.d (.int .u64 0), .d (.int .u64 0)], .box [.d (.int .u64 r132), .d (.int .u64 (ior .u64 r1119 1))], .box [.d (.int .u64 ((r131 - b0 - (if x77 < b1 + 0 then 1 else 0)) % 18446744073709551616)), .d (.int .u64 ((x77 - b1 - 0) % 18446744073709551616))]]) (hnd := by decide) (h := ?_)
           exact hj14 (r132, (ior .u64 r1119 1), ((r131 - b0 - (if x77 < b1 + 0 then 1 else 0)) % 18446744073709551616), ((x77 - b1 - 0) % 18446744073709551616))
          ·refine oCondF (h := ?_)
           refine oSkip ?_
           refine oBlk ?_
           refine oHead [2, 3, 4, 5, 6, 7, 8] [0, 1, 2, 3, 4, 5] (T' := [(2, .ptr 0 0), (3, .ptr 1 0), (4, .ptr 2 0), (5, .ptr 3 0), (6, .ptr 4 0), (7, .ptr 5 0), (8, .d (.int .i64 i4))]) (H' := [.box [.d (.int .u64 a0), .d (.int .u64 a1)], .box [.d (.int .u64 b0), .d (.int .u64 b1)], .box [.d (.int .u64 0), .d (.int .u64 0)], .box [.d (.int .u64 0), .d (.int .u64 0)], .box [.d (.int .u64 r132), .d (.int .u64 r1119)], .box [.d (.int .u64 r131), .d (.int .u64 x77)]]) (hnd := by decide) (h := ?_)
           exact hj14 (r132, r1119, r131, x77)
         ·refine bSplit 67 (h1 := fun hc => ?_) (h2 := fun hc => ?_)
          ·refine oNot (h := ?_)
           refine oNot (h := ?_)
           refine oNot (h := ?_)
           refine oNot (h := ?_)
           refine oP (.d (.bool true)) (p_pick (b := true)) ?_
           refine oHead [2, 3, 4, 5, 6, 7, 8, 72] [0, 1, 2, 3, 4, 5] (T' := [(2, .ptr 0 0), (3, .ptr 1 0), (4, .ptr 2 0), (5, .ptr 3 0), (6, .ptr 4 0), (7, .ptr 5 0), (8, .d (.int .i64 i4)), (72, .d (.bool true))]) (H' := [.box [.d (.int .u64 a0), .d (.int .u64 a1)], .box [.d (.int .u64 b0), .d (.int .u64 b1)], .box [.d (.int .u64 0), .d (.int .u64 0)], .box [.d (.int .u64 0), .d (.int .u64 0)], .box [.d (.int .u64 r132), .d (.int .u64 r1119)], .box [.d (.int .u64 r131), .d (.int .u64 (ior .u64 r1118 bit4))]]) (hnd := by decide) (h := ?_)
           exact hj16 (true, (ior .u64 r1118 bit4))
          ·refine oQ (.agg [.d (.int .u64 r131), .d (.int .u64 (ior .u64 r1118 bit4))]) (k_loadAgg 5 0 (hu := Try.underlying65) (hi := ty65)) ?_
           refine oQ (.agg [.d (.int .u64 b0), .d (.int .u64 b1)]) (k_loadAgg 1 0 (hu := Try.underlying65) (hi := ty65)) ?_
           refine bCall (caps := []) (v := (fun (r134 : Int) => (.d (.int .i64 r134) : V))) (H' := (fun (r134 : Int) => ([.box [.d (.int .u64 a0), .d (.int .u64 a1)], .box [.d (.int .u64 b0), .d (.int .u64 b1)], .box [.d (.int .u64 0), .d (.int .u64 0)], .box [.d (.int .u64 0), .d (.int .u64 0)], .box [.d (.int .u64 r132), .d (.int .u64 r1119)], .box [.d (.int .u64 r131), .d (.int .u64 (ior .u64 r1118 bit4))]] : List Blk))) [] _ (ref01_Order_goes k r131 (ior .u64 r1118 bit4) b0 b1) (ho := rfl) (hfn := Try.func79) (hb := rfl) (hconv := ConvRs.refl _ _) (hnd := by decide) (hBl := fun _ => (by kernel_rfl)) (hv := fun _ => (by kernel_rfl)) (hH' := fun _ => (by kernel_rfl)) (h := fun r134 => ?_)
           refine oP (.d (.bool (decide (r134 ≥ 0)))) (p_int (k := .i64) (p := r134) (q := 0)) ?_
           refine oP (.d (.bool (decide (r134 ≥ 0)))) (p_pick (b := false)) ?_
           refine oHead [2, 3, 4, 5, 6, 7, 8, 72] [0, 1, 2, 3, 4, 5] (T' := [(2, .ptr 0 0), (3, .ptr 1 0), (4, .ptr 2 0), (5, .ptr 3 0), (6, .ptr 4 0), (7, .ptr 5 0), (8, .d (.int .i64 i4)), (72, .d (.bool (decide (r134 ≥ 0))))]) (H' := [.box [.d (.int .u64 a0), .d (.int .u64 a1)], .box [.d (.int .u64 b0), .d (.int .u64 b1)], .box [.d (.int .u64 0), .d (.int .u64 0)], .box [.d (.int .u64 0), .d (.int .u64 0)], .box [.d (.int .u64 r132), .d (.int .u64 r1119)], .box [.d (.int .u64 r131), .d (.int .u64 (ior .u64 r1118 bit4))]]) (hnd := by decide) (h := ?_)
           exact hj16 ((decide (r134 ≥ 0)), (ior .u64 r1118 bit4))
        ·refine bSplit 45 (h1 := fun hc => ?_) (h2 := fun hc => ?_)
         ·refine oCondT (h := ?_)
          refine oRegion rfl ?_
          refine oP (.ptr 0 0) (k_fieldAddr 0 0 (hu := Try.underlying65) (hf := rfl) (hi := ty62)) ?_
          refine oQ (.d (.int .u64 a0)) (k_load 0 0 (hu := Try.underlying62)) ?_
          refine oP (.d (.int .i64 i4)) p_move ?_
          refine oP (.d (.int .i64 (IntKind.wrap .i64 (i4 - 64)))) (p_int (k := .i64) (p := i4) (q := 64)) ?_
          refine oP (.d (.int .u64 (IntKind.wrap .u64 (IntKind.wrap .i64 (i4 - 64))))) (p_conv (k := .i64) (p := (IntKind.wrap .i64 (i4 - 64))) (hu1 := Try.underlying3) (hu2 := Try.underlying107)) ?_
          refine bNn (fun h134 => ?_)
          refine oP (.d (.int .u64 (Int.fdiv a0 (2 ^ (min (Int.toNat (IntKind.wrap .u64 (IntKind.wrap .i64 (i4 - 64)))) (IntKind.bits .u64)))))) (p_shr (k := .u64) (k2 := .u64) (p := a0) (q := (IntKind.wrap .u64 (IntKind.wrap .i64 (i4 - 64)))) (hq := h134)) ?_
          refine oP (.d (.int .u64 (iand .u64 (Int.fdiv a0 (2 ^ (min (Int.toNat (IntKind.wrap .u64 (IntKind.wrap .i64 (i4 - 64)))) (IntKind.bits .u64)))) 1))) (p_int (k := .u64) (p := (Int.fdiv a0 (2 ^ (min (Int.toNat (IntKind.wrap .u64 (IntKind.wrap .i64 (i4 - 64)))) (IntKind.bits .u64))))) (q := 1)) ?_
          refine oP (.d (.int .u64 (iand .u64 (Int.fdiv a0 (2 ^ (min (Int.toNat (IntKind.wrap .u64 (IntKind.wrap .i64 (i4 - 64)))) (IntKind.bits .u64)))) 1))) p_assign ?_
          refine oEnd ?_
          refine oHead [2, 3, 4, 5, 6, 7, 8, 9] [0, 1, 2, 3, 4, 5] (T' := [(2, .ptr 0 0), (3, .ptr 1 0), (4, .ptr 2 0), (5, .ptr 3 0), (6, .ptr 4 0), (7, .ptr 5 0), (8, .d (.int .i64 i4)), (9, .d (.int .u64 (iand .u64 (Int.fdiv a0 (2 ^ (min (Int.toNat (IntKind.wrap .u64 (IntKind.wrap .i64 (i4 - 64)))) (IntKind.bits .u64)))) 1)))]) (H' := [.box [.d (.int .u64 a0), .d (.int .u64 a1)], .box [.d (.int .u64 b0), .d (.int .u64 b1)], .box [.d (.int .u64 0), .d (.int .u64 0)], .box [.d (.int .u64 0), .d (.int .u64 0)], .box [.d (.int .u64 x56), .d (.int .u64 x57)], .box [.d (.int .u64 x58), .d (.int .u64 x59)]]) (hnd := by decide) (h := ?_)
          exact hj15 (iand .u64 (Int.fdiv a0 (2 ^ (min (Int.toNat (IntKind.wrap .u64 (IntKind.wrap .i64 (i4 - 64)))) (IntKind.bits .u64)))) 1)
         ·refine oCondF (h := ?_)
          refine oSkip ?_
          refine oHead [2, 3, 4, 5, 6, 7, 8, 9] [0, 1, 2, 3, 4, 5] (T' := [(2, .ptr 0 0), (3, .ptr 1 0), (4, .ptr 2 0), (5, .ptr 3 0), (6, .ptr 4 0), (7, .ptr 5 0), (8, .d (.int .i64 i4)), (9, .d (.int .u64 (iand .u64 (Int.fdiv a1 (2 ^ (min (Int.toNat (IntKind.wrap .u64 (Int.tmod i4 64))) (IntKind.bits .u64)))) 1)))]) (H' := [.box [.d (.int .u64 a0), .d (.int .u64 a1)], .box [.d (.int .u64 b0), .d (.int .u64 b1)], .box [.d (.int .u64 0), .d (.int .u64 0)], .box [.d (.int .u64 0), .d (.int .u64 0)], .box [.d (.int .u64 x56), .d (.int .u64 x57)], .box [.d (.int .u64 x58), .d (.int .u64 x59)]]) (hnd := by decide) (h := ?_)
          exact hj15 (iand .u64 (Int.fdiv a1 (2 ^ (min (Int.toNat (IntKind.wrap .u64 (Int.tmod i4 64))) (IntKind.bits .u64)))) 1)
      ·refine oCondF (h := ?_)
       refine oExit rfl ?_
       refine oHead [4, 5, 6, 7] [2, 3, 4, 5] (T' := [(4, .ptr 0 0), (5, .ptr 1 0), (6, .ptr 2 0), (7, .ptr 3 0)]) (H' := [.box [.d (.int .u64 0), .d (.int .u64 0)], .box [.d (.int .u64 0), .d (.int .u64 0)], .box [.d (.int .u64 x56), .d (.int .u64 x57)], .box [.d (.int .u64 x58), .d (.int .u64 x59)]]) (hnd := by decide) (h := ?_)
       exact hj9 (x56, x57, x58, x59)
  ·refine bPickF 14 (fun c => F (c && (b0 == 0))) (h1 := fun hc => ?_) (h2 := fun hc => ?_)
   ·refine oP (.ptr 1 0) (k_fieldAddr 1 0 (hu := Try.underlying65) (hf := rfl) (hi := ty62)) ?_
    refine oQ (.d (.int .u64 b0)) (k_load 1 0 (hu := Try.underlying62)) ?_
    refine oP (.d (.bool (b0 == 0))) (p_int (k := .u64) (p := b0) (q := 0)) ?_
    refine oP (.d (.bool (b0 == 0))) (p_pick (b := true)) ?_
    refine oHead [2, 3, 4, 5, 18] [0, 1, 2, 3] (T' := [(2, .ptr 0 0), (3, .ptr 1 0), (4, .ptr 2 0), (5, .ptr 3 0), (18, .d (.bool (b0 == 0)))]) (H' := [.box [.d (.int .u64 a0), .d (.int .u64 a1)], .box [.d (.int .u64 b0), .d (.int .u64 b1)], .box [.d (.int .u64 0), .d (.int .u64 0)], .box [.d (.int .u64 0), .d (.int .u64 0)]]) (hnd := by decide) (h := ?_)
    exact hj5 (b0 == 0)
   ·refine oNot (h := ?_)
    refine oNot (h := ?_)
    refine oNot (h := ?_)
    refine oP (.d (.bool false)) (p_pick (b := false)) ?_
    refine oHead [2, 3, 4, 5, 18] [0, 1, 2, 3] (T' := [(2, .ptr 0 0), (3, .ptr 1 0), (4, .ptr 2 0), (5, .ptr 3 0), (18, .d (.bool false))]) (H' := [.box [.d (.int .u64 a0), .d (.int .u64 a1)], .box [.d (.int .u64 b0), .d (.int .u64 b1)], .box [.d (.int .u64 0), .d (.int .u64 0)], .box [.d (.int .u64 0), .d (.int .u64 0)]]) (hnd := by decide) (h := ?_)
    exact hj5 false

/-- awardingbody/awardingbodyref01.Divisor -/
def ref01_Divisor_b1 (k : Nat) (again : Int × Int × Int × Int → Option (Int × Int)) : Int × Int × Int × Int → Option (Int × Int) := uc fun x20 => uc fun x21 => uc fun x22 => fun x23 => bif (!((x22 == 0) && ((x23 == 0) && true))) then Option.bind (ref01_Divide k x20 x21 x22 x23) (uc fun r176 => uc fun r186 => uc fun r196 => fun r1106 => again (x22, x23, r196, r1106)) else some (x20, x21)
def ref01_Divisor (k : Nat) (a0 : Int) (a1 : Int) (b0 : Int) (b1 : Int) : Option (Int × Int) := Option.bind (gloop (ref01_Divisor_b1 k) k (a0, a1, b0, b1) : Option (Int × Int)) (uc fun x18 => fun x19 => some (x18, x19))
def ref01_Divisor_E (a0 : Int) (a1 : Int) (b0 : Int) (b1 : Int) : Int × Int → V × List Blk := uc fun r1 => fun r11 => (.agg [.d (.int .u64 r1), .d (.int .u64 r11)], [])
theorem ref01_Divisor_goes (k : Nat) (a0 : Int) (a1 : Int) (b0 : Int) (b1 : Int) : RunsO Try.prog 62 [.agg [.d (.int .u64 a0), .d (.int .u64 a1)], .agg [.d (.int .u64 b0), .d (.int .u64 b1)]] [] (ref01_Divisor_E a0 a1 b0 b1) (ref01_Divisor k a0 a1 b0 b1) := by
  refine RunsO.of_goes (N := 19) (m := 0) (T := [(0, .agg [.d (.int .u64 a0), .d (.int .u64 a1)]), (1, .agg [.d (.int .u64 b0), .d (.int .u64 b1)])]) Try.func62 rfl rfl (h := ?_)
  unfold ref01_Divisor
  refine bStart ?_
  refine oSR rfl ?_
  refine oD (.ptr 0 0) (k_box (H' := [.box [.d (.int .u64 a0), .d (.int .u64 a1)]]) (cells := [.d (.int .u64 a0), .d (.int .u64 a1)])) ?_
  refine oD (.ptr 1 0) (k_box (H' := [.box [.d (.int .u64 a0), .d (.int .u64 a1)], .box [.d (.int .u64 b0), .d (.int .u64 b1)]]) (cells := [.d (.int .u64 b0), .d (.int .u64 b1)])) ?_
  refine oD (.ptr 2 0) (k_alloc (H' := [.box [.d (.int .u64 a0), .d (.int .u64 a1)], .box [.d (.int .u64 b0), .d (.int .u64 b1)], .box [.d (.int .u64 0), .d (.int .u64 0)]]) ty65) ?_
  refine oEnd ?_
  refine oSeq ?_
  refine bJoin ((uc fun (x18 : Int) => (fun (x19 : Int) => [(2, .ptr 0 0), (4, .ptr 1 0)]))) ((uc fun (x18 : Int) => (fun (x19 : Int) => [.box [.d (.int .u64 x18), .d (.int .u64 x19)], .box [.d (.int .u64 0), .d (.int .u64 0)]]))) (fun s => s) (fun s => ?_) (fun hj2 => ?_)
  ·obtain ⟨x18, x19⟩ := s
   refine bUc ?_
   refine oView (T' := [(2, .ptr 0 0), (4, .ptr 1 0)]) (H' := [.box [.d (.int .u64 x18), .d (.int .u64 x19)], .box [.d (.int .u64 0), .d (.int .u64 0)]]) (h := ?_)
   refine oSR rfl ?_
   refine oQ (.agg [.d (.int .u64 x18), .d (.int .u64 x19)]) (k_loadAgg 0 0 (hu := Try.underlying65) (hi := ty65)) ?_
   refine oD (.undef) (k_store (vs := [.d (.int .u64 x18), .d (.int .u64 x19)]) (H' := [.box [.d (.int .u64 x18), .d (.int .u64 x19)], .box [.d (.int .u64 x18), .d (.int .u64 x19)]]) 1 0 (hi := ty65)) ?_
   refine oEnd ?_
   exact oRet (r0 := (x18, x19)) (rv := .agg [.d (.int .u64 x18), .d (.int .u64 x19)]) (B := []) (vs := [.agg [.d (.int .u64 x18), .d (.int .u64 x19)]]) (σ := []) (hf := Try.func62) (hrs := rfl) (hres := .cons _ _ _ _ (.agg 4 65 1 0 [.d (.int .u64 x18), .d (.int .u64 x19)] [.d (.int .u64 x18), .d (.int .u64 x19)] _ _ _ _ (by kernel_rfl) (by kernel_rfl) Try.underlying65 (by kernel_rfl) ty65 (by kernel_rfl) (by kernel_rfl)) .nil) (hnd := by decide)
  ·refine oBlock ?_
   refine oLoop ?_
   refine oHead [2, 3, 4] [0, 1, 2] (T' := [(2, .ptr 0 0), (3, .ptr 1 0), (4, .ptr 2 0)]) (H' := [.box [.d (.int .u64 a0), .d (.int .u64 a1)], .box [.d (.int .u64 b0), .d (.int .u64 b1)], .box [.d (.int .u64 0), .d (.int .u64 0)]]) (hnd := by decide) (h := ?_)
   refine bLoop (body := ref01_Divisor_b1 k) ((uc fun (x20 : Int) => (uc fun (x21 : Int) => (uc fun (x22 : Int) => (fun (x23 : Int) => [(2, .ptr 0 0), (3, .ptr 1 0), (4, .ptr 2 0)]))))) ((uc fun (x20 : Int) => (uc fun (x21 : Int) => (uc fun (x22 : Int) => (fun (x23 : Int) => [.box [.d (.int .u64 x20), .d (.int .u64 x21)], .box [.d (.int .u64 x22), .d (.int .u64 x23)], .box [.d (.int .u64 0), .d (.int .u64 0)]]))))) (fun again hag1 s => ?_) k (a0, a1, b0, b1)
   ·unfold ref01_Divisor_b1
    obtain ⟨x20, x21, x22, x23⟩ := s
    refine bUc ?_
    refine bUc ?_
    refine bUc ?_
    refine oView (T' := [(2, .ptr 0 0), (3, .ptr 1 0), (4, .ptr 2 0)]) (H' := [.box [.d (.int .u64 x20), .d (.int .u64 x21)], .box [.d (.int .u64 x22), .d (.int .u64 x23)], .box [.d (.int .u64 0), .d (.int .u64 0)]]) (h := ?_)
    refine oSeq ?_
    refine oSR rfl ?_
    refine oQ (.agg [.d (.int .u64 x22), .d (.int .u64 x23)]) (k_loadAgg 1 0 (hu := Try.underlying65) (hi := ty65)) ?_
    refine oP (.agg [.d (.int .u64 0), .d (.int .u64 0)]) (p_build bld65) ?_
    refine oP (.d (.bool (!((x22 == 0) && ((x23 == 0) && true))))) (k_neAgg (hg := Try.eqGuardType65) (h := EqV.struct 1 65 [.d (.int .u64 x22), .d (.int .u64 x23)] [.d (.int .u64 0), .d (.int .u64 0)] _ ((x22 == 0) && ((x23 == 0) && true)) Try.underlying65 Try.stoodInHeld65 (EqF.one 1 1 _ _ _ _ _ _ _ (x22 == 0) ((x23 == 0) && true) (by kernel_rfl) Try.underlying62 (by kernel_rfl) (by kernel_rfl) (by kernel_rfl) (by kernel_rfl) (EqV.int 62 .u64 .u64 x22 0 Try.underlying62) (EqF.one 1 1 _ _ _ _ _ _ _ (x23 == 0) true (by kernel_rfl) Try.underlying62 (by kernel_rfl) (by kernel_rfl) (by kernel_rfl) (by kernel_rfl) (EqV.int 62 .u64 .u64 x23 0 Try.underlying62) (EqF.nil 1 _ _))))) ?_
    refine oEnd ?_
    refine bSplit 9 (h1 := fun hc => ?_) (h2 := fun hc => ?_)
    ·refine oCondT (h := ?_)
     refine oSkip ?_
     refine oBlock ?_
     refine oSR rfl ?_
     refine oQ (.agg [.d (.int .u64 x20), .d (.int .u64 x21)]) (k_loadAgg 0 0 (hu := Try.underlying65) (hi := ty65)) ?_
     refine oQ (.agg [.d (.int .u64 x22), .d (.int .u64 x23)]) (k_loadAgg 1 0 (hu := Try.underlying65) (hi := ty65)) ?_
     refine bCall (caps := []) (v := (uc fun (r176 : Int) => (uc fun (r186 : Int) => (uc fun (r196 : Int) => (fun (r1106 : Int) => (.tuple [.agg [.d (.int .u64 r176), .d (.int .u64 r186)], .agg [.d (.int .u64 r196), .d (.int .u64 r1106)]] : V)))))) (H' := (uc fun (r176 : Int) => (uc fun (r186 : Int) => (uc fun (r196 : Int) => (fun (r1106 : Int) => ([.box [.d (.int .u64 x20), .d (.int .u64 x21)], .box [.d (.int .u64 x22), .d (.int .u64 x23)], .box [.d (.int .u64 0), .d (.int .u64 0)]] : List Blk)))))) [] _ (ref01_Divide_goes k x20 x21 x22 x23) (ho := rfl) (hfn := Try.func63) (hb := rfl) (hconv := ConvRs.refl _ _) (hnd := by decide) (hBl := fun _ => (by kernel_rfl)) (hv := fun _ => (by kernel_rfl)) (hH' := fun _ => (by kernel_rfl)) (h := fun r => ?_)
     obtain ⟨r176, r186, r196, r1106⟩ := r
     refine bUc ?_
     refine bUc ?_
     refine bUc ?_
     refine oP (.tuple [.agg [.d (.int .u64 r176), .d (.int .u64 r186)], .agg [.d (.int .u64 r196), .d (.int .u64 r1106)]]) p_move ?_
     refine oP (.agg [.d (.int .u64 r176), .d (.int .u64 r186)]) k_extract ?_
     refine oP (.agg [.d (.int .u64 r196), .d (.int .u64 r1106)]) k_extract ?_
     refine oD (.ptr 3 0) (k_alloc (H' := [.box [.d (.int .u64 x20), .d (.int .u64 x21)], .box [.d (.int .u64 x22), .d (.int .u64 x23)], .box [.d (.int .u64 0), .d (.int .u64 0)], .box [.d (.int .u64 0), .d (.int .u64 0)]]) ty65) ?_
     refine oD (.ptr 4 0) (k_alloc (H' := [.box [.d (.int .u64 x20), .d (.int .u64 x21)], .box [.d (.int .u64 x22), .d (.int .u64 x23)], .box [.d (.int .u64 0), .d (.int .u64 0)], .box [.d (.int .u64 0), .d (.int .u64 0)], .box [.d (.int .u64 0), .d (.int .u64 0)]]) ty65) ?_
     refine oD (.undef) (k_store (vs := [.d (.int .u64 r176), .d (.int .u64 r186)]) (H' := [.box [.d (.int .u64 x20), .d (.int .u64 x21)], .box [.d (.int .u64 x22), .d (.int .u64 x23)], .box [.d (.int .u64 0), .d (.int .u64 0)], .box [.d (.int .u64 r176), .d (.int .u64 r186)], .box [.d (.int .u64 0), .d (.int .u64 0)]]) 3 0 (hi := ty65)) ?_
     refine oD (.undef) (k_store (vs := [.d (.int .u64 r196), .d (.int .u64 r1106)]) (H' := [.box [.d (.int .u64 x20), .d (.int .u64 x21)], .box [.d (.int .u64 x22), .d (.int .u64 x23)], .box [.d (.int .u64 0), .d (.int .u64 0)], .box [.d (.int .u64 r176), .d (.int .u64 r186)], .box [.d (.int .u64 r196), .d (.int .u64 r1106)]]) 4 0 (hi := ty65)) ?_
     refine oEnd ?_
     refine oDraw [(0, 2), (1, 3), (2, 4), (3, 4), (4, 4)] rfl ?_
     refine aQ 0 [1] (.agg [.d (.int .u64 x22), .d (.int .u64 x23)]) rfl (k_loadAgg 1 0 (hu := Try.underlying65) (hi := ty65)) ?_
     refine aQ 1 [4] (.agg [.d (.int .u64 r196), .d (.int .u64 r1106)]) rfl (k_loadAgg 4 0 (hu := Try.underlying65) (hi := ty65)) ?_
     refine aOne (i := 2) (v := .undef) rfl (hac := Does.acts (k_store (vs := [.d (.int .u64 x22), .d (.int .u64 x23)]) (H' := [.box [.d (.int .u64 x22), .d (.int .u64 x23)], .box [.d (.int .u64 x22), .d (.int .u64 x23)], .box [.d (.int .u64 0), .d (.int .u64 0)], .box [.d (.int .u64 r176), .d (.int .u64 r186)], .box [.d (.int .u64 r196), .d (.int .u64 r1106)]]) 0 0 (hi := ty65))) (h := ?_)
     refine aOne (i := 3) (v := .undef) rfl (hac := Does.acts (k_store (vs := [.d (.int .u64 r196), .d (.int .u64 r1106)]) (H' := [.box [.d (.int .u64 x22), .d (.int .u64 x23)], .box [.d (.int .u64 r196), .d (.int .u64 r1106)], .box [.d (.int .u64 0), .d (.int .u64 0)], .box [.d (.int .u64 r176), .d (.int .u64 r186)], .box [.d (.int .u64 r196), .d (.int .u64 r1106)]]) 1 0 (hi := ty65))) (h := ?_)
     refine aDone (h := ?_)
     refine oBlk ?_
     refine oAgain ?_
     refine oHead [2, 3, 4] [0, 1, 2] (T' := [(2, .ptr 0 0), (3, .ptr 1 0), (4, .ptr 2 0)]) (H' := [.box [.d (.int .u64 x22), .d (.int .u64 x23)], .box [.d (.int .u64 r196), .d (.int .u64 r1106)], .box [.d (.int .u64 0), .d (.int .u64 0)]]) (hnd := by decide) (h := ?_)
     exact hag1 (x22, x23, r196, r1106)
    ·refine oCondF (h := ?_)
     refine oExit rfl ?_
     refine oHead [2, 4] [0, 2] (T' := [(2, .ptr 0 0), (4, .ptr 1 0)]) (H' := [.box [.d (.int .u64 x20), .d (.int .u64 x21)], .box [.d (.int .u64 0), .d (.int .u64 0)]]) (hnd := by decide) (h := ?_)
     exact hj2 (x20, x21)

end Go.VM
