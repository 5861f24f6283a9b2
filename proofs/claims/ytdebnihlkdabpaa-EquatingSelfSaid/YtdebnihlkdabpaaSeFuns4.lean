/- Plain functions that answer as the program's functions do, and the proof that they do. -/
import Derived.Test.YtdebnihlkdabpaaProg
import Derived.KernelRfl
import Derived.Test.YtdebnihlkdabpaaEngYM
import Derived.Test.YtdebnihlkdabpaaSortR85
import Derived.Test.YtdebnihlkdabpaaSeFacts
import Derived.Test.YtdebnihlkdabpaaSeFuns0
import Derived.Test.YtdebnihlkdabpaaSeFuns1
import Derived.Test.YtdebnihlkdabpaaSeFuns2
import Derived.Test.YtdebnihlkdabpaaSeFuns3
namespace Go.VM
open Go.Proofs
set_option linter.unusedVariables false
set_option linter.unusedSimpArgs false
set_option maxRecDepth 100000
/-- awardingbody/awardingbodylaw34.sane -/
def law34_sane (k : Nat) : Option (Bool) := Option.bind (equating_Percentile k ([1, 1] : List Int) ([1, 1, 1, 1] : List Int)) (uc fun r181 => fun r191 => Option.bind (law34_whole k 0) (u0 (Option.bind (conversion_Eval k r181 0 1) (uc fun r11 => uc fun r13 => fun r14 => Option.bind (equating_Mean k ([1, 1] : List Int) ([1, 1, 1, 1] : List Int)) (uc fun r113 => fun r121 => Option.bind (law34_whole k 5) (u0 (Option.bind (conversion_Eval k r113 5 1) (uc fun r112 => uc fun r131 => fun r141 => blet ((r191 == 0) && (r14 == 0)) fun x15 => blet (x15 && (r121 == 0)) fun x16 => blet (x16 && (r141 == 0)) fun x17 => blet (x17 && ((r11 == 1) && ((r13 == 2) && true))) fun x18 => Option.bind (bif x18 then Option.bind (law34_whole k 6) (u0 (some ((r112 == 6) && ((r131 == 1) && true)))) else some false : Option Bool) (fun x19 => some x19)))))))))
def law34_sane_E : Bool → V × List Blk := fun r1 => (.d (.bool r1), [])
theorem law34_sane_goes (k : Nat) : RunsO Try.prog 8 [] [] (law34_sane_E) (law34_sane k) := by
  refine RunsO.of_goes (N := 63) (m := 0) (T := []) Try.func8 rfl rfl (h := ?_)
  unfold law34_sane
  refine bStart ?_
  refine oSR rfl ?_
  refine oP (.d (.bool false)) p_assign ?_
  refine oEnd ?_
  refine oSR rfl ?_
  refine oD (.ref 0 (List.length ([1, 1] : List Int)) 0 (List.length ([1, 1] : List Int))) (k_buildSlice (H' := [.sl 1 (List.map e_i64 ([1, 1] : List Int)) false]) (List.map e_i64 ([1, 1] : List Int)) Try.underlying22 ty3) ?_
  refine oP (.agg [.ref 0 (List.length ([1, 1] : List Int)) 0 (List.length ([1, 1] : List Int))]) (p_build bld28) ?_
  refine oD (.ref 1 (List.length ([1, 1, 1, 1] : List Int)) 0 (List.length ([1, 1, 1, 1] : List Int))) (k_buildSlice (H' := [.sl 1 (List.map e_i64 ([1, 1] : List Int)) false, .sl 1 (List.map e_i64 ([1, 1, 1, 1] : List Int)) false]) (List.map e_i64 ([1, 1, 1, 1] : List Int)) Try.underlying22 ty3) ?_
  refine oP (.agg [.ref 1 (List.length ([1, 1, 1, 1] : List Int)) 0 (List.length ([1, 1, 1, 1] : List Int))]) (p_build bld28) ?_
  refine oD (.ptr 2 0) (k_alloc (H' := [.sl 1 (List.map e_i64 ([1, 1] : List Int)) false, .sl 1 (List.map e_i64 ([1, 1, 1, 1] : List Int)) false, .box [.nilc]]) ty28) ?_
  refine oD (.ptr 3 0) (k_alloc (H' := [.sl 1 (List.map e_i64 ([1, 1] : List Int)) false, .sl 1 (List.map e_i64 ([1, 1, 1, 1] : List Int)) false, .box [.nilc], .box [.nilc]]) ty28) ?_
  refine oD (.undef) (k_store (vs := [.ref 0 (List.length ([1, 1] : List Int)) 0 (List.length ([1, 1] : List Int))]) (H' := [.sl 1 (List.map e_i64 ([1, 1] : List Int)) false, .sl 1 (List.map e_i64 ([1, 1, 1, 1] : List Int)) false, .box [.ref 0 (List.length ([1, 1] : List Int)) 0 (List.length ([1, 1] : List Int))], .box [.nilc]]) 2 0 (hi := ty28)) ?_
  refine oD (.undef) (k_store (vs := [.ref 1 (List.length ([1, 1, 1, 1] : List Int)) 0 (List.length ([1, 1, 1, 1] : List Int))]) (H' := [.sl 1 (List.map e_i64 ([1, 1] : List Int)) false, .sl 1 (List.map e_i64 ([1, 1, 1, 1] : List Int)) false, .box [.ref 0 (List.length ([1, 1] : List Int)) 0 (List.length ([1, 1] : List Int))], .box [.ref 1 (List.length ([1, 1, 1, 1] : List Int)) 0 (List.length ([1, 1, 1, 1] : List Int))]]) 3 0 (hi := ty28)) ?_
  refine oEnd ?_
  refine oSR rfl ?_
  refine oQ (.agg [.ref 0 (List.length ([1, 1] : List Int)) 0 (List.length ([1, 1] : List Int))]) (k_loadAgg 2 0 (hu := Try.underlying28) (hi := ty28)) ?_
  refine oQ (.agg [.ref 1 (List.length ([1, 1, 1, 1] : List Int)) 0 (List.length ([1, 1, 1, 1] : List Int))]) (k_loadAgg 3 0 (hu := Try.underlying28) (hi := ty28)) ?_
  refine oFreeze 0 (esz := 1) (xs := List.map e_i64 ([1, 1] : List Int)) (h := ?_)
  refine oView (H' := [.sl 1 (List.map e_i64 ([1, 1] : List Int)) true, .sl 1 (List.map e_i64 ([1, 1, 1, 1] : List Int)) false, .box [.ref 0 (List.length ([1, 1] : List Int)) 0 (List.length ([1, 1] : List Int))], .box [.ref 1 (List.length ([1, 1, 1, 1] : List Int)) 0 (List.length ([1, 1, 1, 1] : List Int))]]) rfl (h := ?_)
  refine oFreeze 1 (esz := 1) (xs := List.map e_i64 ([1, 1, 1, 1] : List Int)) (h := ?_)
  refine oView (H' := [.sl 1 (List.map e_i64 ([1, 1] : List Int)) true, .sl 1 (List.map e_i64 ([1, 1, 1, 1] : List Int)) true, .box [.ref 0 (List.length ([1, 1] : List Int)) 0 (List.length ([1, 1] : List Int))], .box [.ref 1 (List.length ([1, 1, 1, 1] : List Int)) 0 (List.length ([1, 1, 1, 1] : List Int))]]) rfl (h := ?_)
  refine bCall (caps := []) (v := (uc fun (r181 : (List SPoint)) => (fun (r191 : Int) => (.tuple [.agg [.d (.lit (List.map e_SPoint r181))], .d (.int .i64 r191)] : V)))) (H' := (uc fun (r181 : (List SPoint)) => (fun (r191 : Int) => ([.sl 1 (List.map e_i64 ([1, 1] : List Int)) true, .sl 1 (List.map e_i64 ([1, 1, 1, 1] : List Int)) true, .box [.ref 0 (List.length ([1, 1] : List Int)) 0 (List.length ([1, 1] : List Int))], .box [.ref 1 (List.length ([1, 1, 1, 1] : List Int)) 0 (List.length ([1, 1, 1, 1] : List Int))]] : List Blk)))) [] _ (equating_Percentile_goes k ([1, 1] : List Int) ([1, 1, 1, 1] : List Int)) (ho := rfl) (hfn := Try.func11) (hb := rfl) (hconv := (convList (vs0 := [.agg [.ref 0 (List.length ([1, 1] : List Int)) 0 (List.length ([1, 1] : List Int))], .agg [.ref 1 (List.length ([1, 1, 1, 1] : List Int)) 0 (List.length ([1, 1, 1, 1] : List Int))]]) (vs := [.agg [.d (.lit (List.map e_i64 ([1, 1] : List Int)))], .agg [.d (.lit (List.map e_i64 ([1, 1, 1, 1] : List Int)))]]) (p := (.cons _ _ _ _ (.agg _ _ (.cons _ _ _ _ (k_lit (enc := e_i64) (sz := 1) 0 ([1, 1] : List Int)) .nil)) (.cons _ _ _ _ (.agg _ _ (.cons _ _ _ _ (k_lit (enc := e_i64) (sz := 1) 1 ([1, 1, 1, 1] : List Int)) .nil)) .nil))))) (hnd := by decide) (hBl := fun _ => (by kernel_rfl)) (hv := fun _ => (by kernel_rfl)) (hH' := fun _ => (by kernel_rfl)) (h := fun r => ?_)
  obtain ⟨r181, r191⟩ := r
  refine bUc ?_
  refine oP (.tuple [.agg [.d (.lit (List.map e_SPoint r181))], .d (.int .i64 r191)]) p_move ?_
  refine oP (.agg [.d (.lit (List.map e_SPoint r181))]) k_extract ?_
  refine oP (.d (.int .i64 r191)) k_extract ?_
  refine oD (.ptr 4 0) (k_alloc (H' := [.sl 1 (List.map e_i64 ([1, 1] : List Int)) true, .sl 1 (List.map e_i64 ([1, 1, 1, 1] : List Int)) true, .box [.ref 0 (List.length ([1, 1] : List Int)) 0 (List.length ([1, 1] : List Int))], .box [.ref 1 (List.length ([1, 1, 1, 1] : List Int)) 0 (List.length ([1, 1, 1, 1] : List Int))], .box [.nilc]]) ty32) ?_
  refine oD (.undef) (k_store (vs := [.d (.lit (List.map e_SPoint r181))]) (H' := [.sl 1 (List.map e_i64 ([1, 1] : List Int)) true, .sl 1 (List.map e_i64 ([1, 1, 1, 1] : List Int)) true, .box [.ref 0 (List.length ([1, 1] : List Int)) 0 (List.length ([1, 1] : List Int))], .box [.ref 1 (List.length ([1, 1, 1, 1] : List Int)) 0 (List.length ([1, 1, 1, 1] : List Int))], .box [.d (.lit (List.map e_SPoint r181))]]) 4 0 (hi := ty32)) ?_
  refine oP (.d (.int .i64 r191)) p_assign ?_
  refine oEnd ?_
  refine oSeq ?_
  refine oDraw [(0, 9), (1, 9), (2, 9), (3, 9), (4, 9)] rfl ?_
  refine aQ 0 [4] (.agg [.d (.lit (List.map e_SPoint r181))]) rfl (k_loadAgg 4 0 (hu := Try.underlying32) (hi := ty32)) ?_
  refine dCall (i := 1) (caps := []) (v := (u0 ((.agg [.d (.int .i64 0), .d (.int .i64 1)] : V)))) (H' := (u0 (([.sl 1 (List.map e_i64 ([1, 1] : List Int)) true, .sl 1 (List.map e_i64 ([1, 1, 1, 1] : List Int)) true, .box [.ref 0 (List.length ([1, 1] : List Int)) 0 (List.length ([1, 1] : List Int))], .box [.ref 1 (List.length ([1, 1, 1, 1] : List Int)) 0 (List.length ([1, 1, 1, 1] : List Int))], .box [.d (.lit (List.map e_SPoint r181))]] : List Blk)))) [] _ (law34_whole_goes k 0) rfl (ho := rfl) (hfn := Try.func19) (hb := rfl) (hconv := ConvRs.refl _ _) (hnd := by decide) (hBl := fun _ => (by kernel_rfl)) (hv := fun _ => (by kernel_rfl)) (hH' := fun _ => (by kernel_rfl)) (h := fun r => ?_)
  cases r
  refine dU0 ?_
  refine dCall (i := 2) (caps := []) (v := (uc fun (r11 : Int) => (uc fun (r13 : Int) => (fun (r14 : Int) => (.tuple [.agg [.d (.int .i64 r11), .d (.int .i64 r13)], .d (.int .i64 r14)] : V))))) (H' := (uc fun (r11 : Int) => (uc fun (r13 : Int) => (fun (r14 : Int) => ([.sl 1 (List.map e_i64 ([1, 1] : List Int)) true, .sl 1 (List.map e_i64 ([1, 1, 1, 1] : List Int)) true, .box [.ref 0 (List.length ([1, 1] : List Int)) 0 (List.length ([1, 1] : List Int))], .box [.ref 1 (List.length ([1, 1, 1, 1] : List Int)) 0 (List.length ([1, 1, 1, 1] : List Int))], .box [.d (.lit (List.map e_SPoint r181))]] : List Blk))))) [] _ (conversion_Eval_goes k r181 0 1) rfl (ho := rfl) (hfn := Try.func14) (hb := rfl) (hconv := ConvRs.refl _ _) (hnd := by decide) (hBl := fun _ => (by kernel_rfl)) (hv := fun _ => (by kernel_rfl)) (hH' := fun _ => (by kernel_rfl)) (h := fun r => ?_)
  obtain ⟨r11, r13, r14⟩ := r
  refine dUc ?_
  refine dUc ?_
  refine aTakeP (i := 3) (.tuple [.agg [.d (.int .i64 r11), .d (.int .i64 r13)], .d (.int .i64 r14)]) rfl (hp := p_move) (h := ?_)
  refine aTakeP (i := 4) (.agg [.d (.int .i64 r11), .d (.int .i64 r13)]) rfl (hp := k_extract) (h := ?_)
  refine aTakeP (i := 5) (.d (.int .i64 r14)) rfl (hp := k_extract) (h := ?_)
  refine aAlloc (i := 6) (d := 5) rfl (hop := rfl) (hd := rfl) (hty := ty38) (cells := [.d (.int .i64 0), .d (.int .i64 0)]) (h := ?_)
  refine dView (H' := [.sl 1 (List.map e_i64 ([1, 1] : List Int)) true, .sl 1 (List.map e_i64 ([1, 1, 1, 1] : List Int)) true, .box [.ref 0 (List.length ([1, 1] : List Int)) 0 (List.length ([1, 1] : List Int))], .box [.ref 1 (List.length ([1, 1, 1, 1] : List Int)) 0 (List.length ([1, 1, 1, 1] : List Int))], .box [.d (.lit (List.map e_SPoint r181))], .box [.d (.int .i64 0), .d (.int .i64 0)]]) rfl rfl (h := ?_)
  refine aOne (i := 7) (v := .undef) rfl (hac := (Does.acts (k_store (vs := [.d (.int .i64 r11), .d (.int .i64 r13)]) (H' := [.sl 1 (List.map e_i64 ([1, 1] : List Int)) true, .sl 1 (List.map e_i64 ([1, 1, 1, 1] : List Int)) true, .box [.ref 0 (List.length ([1, 1] : List Int)) 0 (List.length ([1, 1] : List Int))], .box [.ref 1 (List.length ([1, 1, 1, 1] : List Int)) 0 (List.length ([1, 1, 1, 1] : List Int))], .box [.d (.lit (List.map e_SPoint r181))], .box [.d (.int .i64 r11), .d (.int .i64 r13)]]) 5 0 (hi := ty38)))) (h := ?_)
  refine aP 8 (.d (.int .i64 r14)) rfl p_assign ?_
  refine aDone (h := ?_)
  refine oSR rfl ?_
  refine oQ (.agg [.ref 0 (List.length ([1, 1] : List Int)) 0 (List.length ([1, 1] : List Int))]) (k_loadAgg 2 0 (hu := Try.underlying28) (hi := ty28)) ?_
  refine oQ (.agg [.ref 1 (List.length ([1, 1, 1, 1] : List Int)) 0 (List.length ([1, 1, 1, 1] : List Int))]) (k_loadAgg 3 0 (hu := Try.underlying28) (hi := ty28)) ?_
  refine bCall (caps := []) (v := (uc fun (r113 : (List SPoint)) => (fun (r121 : Int) => (.tuple [.agg [.d (.lit (List.map e_SPoint r113))], .d (.int .i64 r121)] : V)))) (H' := (uc fun (r113 : (List SPoint)) => (fun (r121 : Int) => ([.sl 1 (List.map e_i64 ([1, 1] : List Int)) true, .sl 1 (List.map e_i64 ([1, 1, 1, 1] : List Int)) true, .box [.ref 0 (List.length ([1, 1] : List Int)) 0 (List.length ([1, 1] : List Int))], .box [.ref 1 (List.length ([1, 1, 1, 1] : List Int)) 0 (List.length ([1, 1, 1, 1] : List Int))], .box [.d (.lit (List.map e_SPoint r181))], .box [.d (.int .i64 r11), .d (.int .i64 r13)]] : List Blk)))) [] _ (equating_Mean_goes k ([1, 1] : List Int) ([1, 1, 1, 1] : List Int)) (ho := rfl) (hfn := Try.func16) (hb := rfl) (hconv := (convList (vs0 := [.agg [.ref 0 (List.length ([1, 1] : List Int)) 0 (List.length ([1, 1] : List Int))], .agg [.ref 1 (List.length ([1, 1, 1, 1] : List Int)) 0 (List.length ([1, 1, 1, 1] : List Int))]]) (vs := [.agg [.d (.lit (List.map e_i64 ([1, 1] : List Int)))], .agg [.d (.lit (List.map e_i64 ([1, 1, 1, 1] : List Int)))]]) (p := (.cons _ _ _ _ (.agg _ _ (.cons _ _ _ _ (k_lit (enc := e_i64) (sz := 1) 0 ([1, 1] : List Int)) .nil)) (.cons _ _ _ _ (.agg _ _ (.cons _ _ _ _ (k_lit (enc := e_i64) (sz := 1) 1 ([1, 1, 1, 1] : List Int)) .nil)) .nil))))) (hnd := by decide) (hBl := fun _ => (by kernel_rfl)) (hv := fun _ => (by kernel_rfl)) (hH' := fun _ => (by kernel_rfl)) (h := fun r => ?_)
  obtain ⟨r113, r121⟩ := r
  refine bUc ?_
  refine oP (.tuple [.agg [.d (.lit (List.map e_SPoint r113))], .d (.int .i64 r121)]) p_move ?_
  refine oP (.agg [.d (.lit (List.map e_SPoint r113))]) k_extract ?_
  refine oP (.d (.int .i64 r121)) k_extract ?_
  refine oD (.ptr 6 0) (k_alloc (H' := [.sl 1 (List.map e_i64 ([1, 1] : List Int)) true, .sl 1 (List.map e_i64 ([1, 1, 1, 1] : List Int)) true, .box [.ref 0 (List.length ([1, 1] : List Int)) 0 (List.length ([1, 1] : List Int))], .box [.ref 1 (List.length ([1, 1, 1, 1] : List Int)) 0 (List.length ([1, 1, 1, 1] : List Int))], .box [.d (.lit (List.map e_SPoint r181))], .box [.d (.int .i64 r11), .d (.int .i64 r13)], .box [.nilc]]) ty32) ?_
  refine oD (.undef) (k_store (vs := [.d (.lit (List.map e_SPoint r113))]) (H' := [.sl 1 (List.map e_i64 ([1, 1] : List Int)) true, .sl 1 (List.map e_i64 ([1, 1, 1, 1] : List Int)) true, .box [.ref 0 (List.length ([1, 1] : List Int)) 0 (List.length ([1, 1] : List Int))], .box [.ref 1 (List.length ([1, 1, 1, 1] : List Int)) 0 (List.length ([1, 1, 1, 1] : List Int))], .box [.d (.lit (List.map e_SPoint r181))], .box [.d (.int .i64 r11), .d (.int .i64 r13)], .box [.d (.lit (List.map e_SPoint r113))]]) 6 0 (hi := ty32)) ?_
  refine oP (.d (.int .i64 r121)) p_assign ?_
  refine oEnd ?_
  refine oSeq ?_
  refine oDraw [(0, 9), (1, 9), (2, 9), (3, 9), (4, 9), (5, 9), (6, 9)] rfl ?_
  refine aQ 0 [6] (.agg [.d (.lit (List.map e_SPoint r113))]) rfl (k_loadAgg 6 0 (hu := Try.underlying32) (hi := ty32)) ?_
  refine dCall (i := 1) (caps := []) (v := (u0 ((.agg [.d (.int .i64 5), .d (.int .i64 1)] : V)))) (H' := (u0 (([.sl 1 (List.map e_i64 ([1, 1] : List Int)) true, .sl 1 (List.map e_i64 ([1, 1, 1, 1] : List Int)) true, .box [.ref 0 (List.length ([1, 1] : List Int)) 0 (List.length ([1, 1] : List Int))], .box [.ref 1 (List.length ([1, 1, 1, 1] : List Int)) 0 (List.length ([1, 1, 1, 1] : List Int))], .box [.d (.lit (List.map e_SPoint r181))], .box [.d (.int .i64 r11), .d (.int .i64 r13)], .box [.d (.lit (List.map e_SPoint r113))]] : List Blk)))) [] _ (law34_whole_goes k 5) rfl (ho := rfl) (hfn := Try.func19) (hb := rfl) (hconv := ConvRs.refl _ _) (hnd := by decide) (hBl := fun _ => (by kernel_rfl)) (hv := fun _ => (by kernel_rfl)) (hH' := fun _ => (by kernel_rfl)) (h := fun r => ?_)
  cases r
  refine dU0 ?_
  refine dCall (i := 2) (caps := []) (v := (uc fun (r112 : Int) => (uc fun (r131 : Int) => (fun (r141 : Int) => (.tuple [.agg [.d (.int .i64 r112), .d (.int .i64 r131)], .d (.int .i64 r141)] : V))))) (H' := (uc fun (r112 : Int) => (uc fun (r131 : Int) => (fun (r141 : Int) => ([.sl 1 (List.map e_i64 ([1, 1] : List Int)) true, .sl 1 (List.map e_i64 ([1, 1, 1, 1] : List Int)) true, .box [.ref 0 (List.length ([1, 1] : List Int)) 0 (List.length ([1, 1] : List Int))], .box [.ref 1 (List.length ([1, 1, 1, 1] : List Int)) 0 (List.length ([1, 1, 1, 1] : List Int))], .box [.d (.lit (List.map e_SPoint r181))], .box [.d (.int .i64 r11), .d (.int .i64 r13)], .box [.d (.lit (List.map e_SPoint r113))]] : List Blk))))) [] _ (conversion_Eval_goes k r113 5 1) rfl (ho := rfl) (hfn := Try.func14) (hb := rfl) (hconv := ConvRs.refl _ _) (hnd := by decide) (hBl := fun _ => (by kernel_rfl)) (hv := fun _ => (by kernel_rfl)) (hH' := fun _ => (by kernel_rfl)) (h := fun r => ?_)
  obtain ⟨r112, r131, r141⟩ := r
  refine dUc ?_
  refine dUc ?_
  refine aTakeP (i := 3) (.tuple [.agg [.d (.int .i64 r112), .d (.int .i64 r131)], .d (.int .i64 r141)]) rfl (hp := p_move) (h := ?_)
  refine aTakeP (i := 4) (.agg [.d (.int .i64 r112), .d (.int .i64 r131)]) rfl (hp := k_extract) (h := ?_)
  refine aTakeP (i := 5) (.d (.int .i64 r141)) rfl (hp := k_extract) (h := ?_)
  refine aAlloc (i := 6) (d := 9) rfl (hop := rfl) (hd := rfl) (hty := ty38) (cells := [.d (.int .i64 0), .d (.int .i64 0)]) (h := ?_)
  refine dView (H' := [.sl 1 (List.map e_i64 ([1, 1] : List Int)) true, .sl 1 (List.map e_i64 ([1, 1, 1, 1] : List Int)) true, .box [.ref 0 (List.length ([1, 1] : List Int)) 0 (List.length ([1, 1] : List Int))], .box [.ref 1 (List.length ([1, 1, 1, 1] : List Int)) 0 (List.length ([1, 1, 1, 1] : List Int))], .box [.d (.lit (List.map e_SPoint r181))], .box [.d (.int .i64 r11), .d (.int .i64 r13)], .box [.d (.lit (List.map e_SPoint r113))], .box [.d (.int .i64 0), .d (.int .i64 0)]]) rfl rfl (h := ?_)
  refine aOne (i := 7) (v := .undef) rfl (hac := (Does.acts (k_store (vs := [.d (.int .i64 r112), .d (.int .i64 r131)]) (H' := [.sl 1 (List.map e_i64 ([1, 1] : List Int)) true, .sl 1 (List.map e_i64 ([1, 1, 1, 1] : List Int)) true, .box [.ref 0 (List.length ([1, 1] : List Int)) 0 (List.length ([1, 1] : List Int))], .box [.ref 1 (List.length ([1, 1, 1, 1] : List Int)) 0 (List.length ([1, 1, 1, 1] : List Int))], .box [.d (.lit (List.map e_SPoint r181))], .box [.d (.int .i64 r11), .d (.int .i64 r13)], .box [.d (.lit (List.map e_SPoint r113))], .box [.d (.int .i64 r112), .d (.int .i64 r131)]]) 7 0 (hi := ty38)))) (h := ?_)
  refine aP 8 (.d (.int .i64 r141)) rfl p_assign ?_
  refine aDone (h := ?_)
  refine oSeq ?_
  refine oDraw [(0, 25), (1, 25), (2, 25), (3, 25), (4, 25), (5, 25), (6, 25), (7, 25)] rfl ?_
  refine aP 0 (.d (.int .i64 r191)) rfl p_move ?_
  refine aP 1 (.d (.bool (r191 == 0))) rfl (p_int (k := .i64) (p := r191) (q := 0)) ?_
  refine aP 2 (.d (.bool (r191 == 0))) rfl p_move ?_
  refine dMeetF [5, 4, 3, 2, 1, 0] (fun (x15 : Bool) => [(5, .ptr 5 0), (8, .d (.int .i64 r121)), (9, .ptr 7 0), (10, .d (.int .i64 r141)), (44, .d (.bool x15))]) (fun (x15 : Bool) => [(5, .ptr 5 0), (8, .d (.int .i64 r121)), (9, .ptr 7 0), (10, .d (.int .i64 r141)), (44, .d (.bool x15))]) (H' := [.sl 1 (List.map e_i64 ([1, 1] : List Int)) true, .sl 1 (List.map e_i64 ([1, 1, 1, 1] : List Int)) true, .box [.ref 0 (List.length ([1, 1] : List Int)) 0 (List.length ([1, 1] : List Int))], .box [.ref 1 (List.length ([1, 1, 1, 1] : List Int)) 0 (List.length ([1, 1, 1, 1] : List Int))], .box [.d (.lit (List.map e_SPoint r181))], .box [.d (.int .i64 r11), .d (.int .i64 r13)], .box [.d (.lit (List.map e_SPoint r113))], .box [.d (.int .i64 r112), .d (.int .i64 r131)]]) (fun x15 => ?_) (fun F hj6 => ?_)
  ·refine aP 6 (.d (.bool x15)) rfl p_move ?_
   refine dMeetF [9, 8, 7, 6, 5, 4, 3, 2, 1, 0] (fun (x16 : Bool) => [(5, .ptr 5 0), (9, .ptr 7 0), (10, .d (.int .i64 r141)), (48, .d (.bool x16))]) (fun (x16 : Bool) => [(5, .ptr 5 0), (9, .ptr 7 0), (10, .d (.int .i64 r141)), (48, .d (.bool x16))]) (H' := [.sl 1 (List.map e_i64 ([1, 1] : List Int)) true, .sl 1 (List.map e_i64 ([1, 1, 1, 1] : List Int)) true, .box [.ref 0 (List.length ([1, 1] : List Int)) 0 (List.length ([1, 1] : List Int))], .box [.ref 1 (List.length ([1, 1, 1, 1] : List Int)) 0 (List.length ([1, 1, 1, 1] : List Int))], .box [.d (.lit (List.map e_SPoint r181))], .box [.d (.int .i64 r11), .d (.int .i64 r13)], .box [.d (.lit (List.map e_SPoint r113))], .box [.d (.int .i64 r112), .d (.int .i64 r131)]]) (fun x16 => ?_) (fun F hj7 => ?_)
   ·refine aP 10 (.d (.bool x16)) rfl p_move ?_
    refine dMeetF [13, 12, 11, 10, 9, 8, 7, 6, 5, 4, 3, 2, 1, 0] (fun (x17 : Bool) => [(5, .ptr 5 0), (9, .ptr 7 0), (52, .d (.bool x17))]) (fun (x17 : Bool) => [(5, .ptr 5 0), (9, .ptr 7 0), (52, .d (.bool x17))]) (H' := [.sl 1 (List.map e_i64 ([1, 1] : List Int)) true, .sl 1 (List.map e_i64 ([1, 1, 1, 1] : List Int)) true, .box [.ref 0 (List.length ([1, 1] : List Int)) 0 (List.length ([1, 1] : List Int))], .box [.ref 1 (List.length ([1, 1, 1, 1] : List Int)) 0 (List.length ([1, 1, 1, 1] : List Int))], .box [.d (.lit (List.map e_SPoint r181))], .box [.d (.int .i64 r11), .d (.int .i64 r13)], .box [.d (.lit (List.map e_SPoint r113))], .box [.d (.int .i64 r112), .d (.int .i64 r131)]]) (fun x17 => ?_) (fun F hj8 => ?_)
    ·refine aP 14 (.d (.bool x17)) rfl p_move ?_
     refine dMeetF [18, 17, 16, 15, 14, 13, 12, 11, 10, 9, 8, 7, 6, 5, 4, 3, 2, 1, 0] (fun (x18 : Bool) => [(9, .ptr 7 0), (57, .d (.bool x18))]) (fun (x18 : Bool) => [(9, .ptr 7 0), (57, .d (.bool x18))]) (H' := [.sl 1 (List.map e_i64 ([1, 1] : List Int)) true, .sl 1 (List.map e_i64 ([1, 1, 1, 1] : List Int)) true, .box [.ref 0 (List.length ([1, 1] : List Int)) 0 (List.length ([1, 1] : List Int))], .box [.ref 1 (List.length ([1, 1, 1, 1] : List Int)) 0 (List.length ([1, 1, 1, 1] : List Int))], .box [.d (.lit (List.map e_SPoint r181))], .box [.d (.int .i64 r11), .d (.int .i64 r13)], .box [.d (.lit (List.map e_SPoint r113))], .box [.d (.int .i64 r112), .d (.int .i64 r131)]]) (fun x18 => ?_) (fun F hj9 => ?_)
     ·refine aP 19 (.d (.bool x18)) rfl p_move ?_
      refine dMeet [23, 22, 21, 20, 19, 18, 17, 16, 15, 14, 13, 12, 11, 10, 9, 8, 7, 6, 5, 4, 3, 2, 1, 0] (fun (x19 : Bool) => [(62, .d (.bool x19))]) (fun (x19 : Bool) => [(62, .d (.bool x19))]) (fun _ => [.sl 1 (List.map e_i64 ([1, 1] : List Int)) true, .sl 1 (List.map e_i64 ([1, 1, 1, 1] : List Int)) true, .box [.ref 0 (List.length ([1, 1] : List Int)) 0 (List.length ([1, 1] : List Int))], .box [.ref 1 (List.length ([1, 1, 1, 1] : List Int)) 0 (List.length ([1, 1, 1, 1] : List Int))], .box [.d (.lit (List.map e_SPoint r181))], .box [.d (.int .i64 r11), .d (.int .i64 r13)], .box [.d (.lit (List.map e_SPoint r113))], .box [.d (.int .i64 r112), .d (.int .i64 r131)]]) (fun s => s) (fun x19 => ?_) (fun hj10 => ?_)
      ·refine aP 24 (.d (.bool x19)) rfl p_assign ?_
       refine aDone (h := ?_)
       exact oRet (r0 := x19) (rv := .d (.bool x19)) (B := []) (vs := [.d (.bool x19)]) (σ := []) (hf := Try.func8) (hrs := rfl) (hres := .cons _ _ _ _ (.tmp 0 _ (by kernel_rfl)) .nil) (hnd := by decide)
      ·refine dSplit 58 (h1 := fun hc => ?_) (h2 := fun hc => ?_)
       ·refine aQ 20 [7] (.agg [.d (.int .i64 r112), .d (.int .i64 r131)]) rfl (k_loadAgg 7 0 (hu := Try.underlying38) (hi := ty38)) ?_
        refine dCall (i := 21) (caps := []) (v := (u0 ((.agg [.d (.int .i64 6), .d (.int .i64 1)] : V)))) (H' := (u0 (([.sl 1 (List.map e_i64 ([1, 1] : List Int)) true, .sl 1 (List.map e_i64 ([1, 1, 1, 1] : List Int)) true, .box [.ref 0 (List.length ([1, 1] : List Int)) 0 (List.length ([1, 1] : List Int))], .box [.ref 1 (List.length ([1, 1, 1, 1] : List Int)) 0 (List.length ([1, 1, 1, 1] : List Int))], .box [.d (.lit (List.map e_SPoint r181))], .box [.d (.int .i64 r11), .d (.int .i64 r13)], .box [.d (.lit (List.map e_SPoint r113))], .box [.d (.int .i64 r112), .d (.int .i64 r131)]] : List Blk)))) [] _ (law34_whole_goes k 6) rfl (ho := rfl) (hfn := Try.func19) (hb := rfl) (hconv := ConvRs.refl _ _) (hnd := by decide) (hBl := fun _ => (by kernel_rfl)) (hv := fun _ => (by kernel_rfl)) (hH' := fun _ => (by kernel_rfl)) (h := fun r => ?_)
        cases r
        refine dU0 ?_
        refine aTakeP (i := 22) (.d (.bool ((r112 == 6) && ((r131 == 1) && true)))) rfl (hp := k_eqAgg (hg := Try.eqGuardType38) (h := EqV.struct 1 38 [.d (.int .i64 r112), .d (.int .i64 r131)] [.d (.int .i64 6), .d (.int .i64 1)] _ ((r112 == 6) && ((r131 == 1) && true)) Try.underlying38 Try.stoodInHeld38 (EqF.one 1 1 _ _ _ _ _ _ _ (r112 == 6) ((r131 == 1) && true) (by kernel_rfl) Try.underlying3 (by kernel_rfl) (by kernel_rfl) (by kernel_rfl) (by kernel_rfl) (EqV.int 3 .i64 .i64 r112 6 Try.underlying3) (EqF.one 1 1 _ _ _ _ _ _ _ (r131 == 1) true (by kernel_rfl) Try.underlying3 (by kernel_rfl) (by kernel_rfl) (by kernel_rfl) (by kernel_rfl) (EqV.int 3 .i64 .i64 r131 1 Try.underlying3) (EqF.nil 1 _ _))))) (h := ?_)
        refine aP 23 (.d (.bool ((r112 == 6) && ((r131 == 1) && true)))) rfl (p_pick (b := true)) ?_
        refine dDrop [62] [62] (T' := [(62, .d (.bool ((r112 == 6) && ((r131 == 1) && true))))]) (U' := [(62, .d (.bool ((r112 == 6) && ((r131 == 1) && true))))]) (h := ?_)
        exact hj10 ((r112 == 6) && ((r131 == 1) && true))
       ·refine aTakeNot (i := 20) rfl (h := ?_)
        refine aTakeNot (i := 21) rfl (h := ?_)
        refine aTakeNot (i := 22) rfl (h := ?_)
        refine aP 23 (.d (.bool false)) rfl (p_pick (b := false)) ?_
        refine dDrop [62] [62] (T' := [(62, .d (.bool false))]) (U' := [(62, .d (.bool false))]) (h := ?_)
        exact hj10 false
     ·refine dPickF 53 (fun c => F (c && ((r11 == 1) && ((r13 == 2) && true)))) (h1 := fun hc => ?_) (h2 := fun hc => ?_)
      ·refine aQ 15 [5] (.agg [.d (.int .i64 r11), .d (.int .i64 r13)]) rfl (k_loadAgg 5 0 (hu := Try.underlying38) (hi := ty38)) ?_
       refine aP 16 (.agg [.d (.int .i64 1), .d (.int .i64 2)]) rfl (p_build bld38) ?_
       refine aP 17 (.d (.bool ((r11 == 1) && ((r13 == 2) && true)))) rfl (k_eqAgg (hg := Try.eqGuardType38) (h := EqV.struct 1 38 [.d (.int .i64 r11), .d (.int .i64 r13)] [.d (.int .i64 1), .d (.int .i64 2)] _ ((r11 == 1) && ((r13 == 2) && true)) Try.underlying38 Try.stoodInHeld38 (EqF.one 1 1 _ _ _ _ _ _ _ (r11 == 1) ((r13 == 2) && true) (by kernel_rfl) Try.underlying3 (by kernel_rfl) (by kernel_rfl) (by kernel_rfl) (by kernel_rfl) (EqV.int 3 .i64 .i64 r11 1 Try.underlying3) (EqF.one 1 1 _ _ _ _ _ _ _ (r13 == 2) true (by kernel_rfl) Try.underlying3 (by kernel_rfl) (by kernel_rfl) (by kernel_rfl) (by kernel_rfl) (EqV.int 3 .i64 .i64 r13 2 Try.underlying3) (EqF.nil 1 _ _))))) ?_
       refine aP 18 (.d (.bool ((r11 == 1) && ((r13 == 2) && true)))) rfl (p_pick (b := true)) ?_
       refine dDrop [9, 57] [9, 57] (T' := [(9, .ptr 7 0), (57, .d (.bool ((r11 == 1) && ((r13 == 2) && true))))]) (U' := [(9, .ptr 7 0), (57, .d (.bool ((r11 == 1) && ((r13 == 2) && true))))]) (h := ?_)
       exact hj9 ((r11 == 1) && ((r13 == 2) && true))
      ·refine aTakeNot (i := 15) rfl (h := ?_)
       refine aTakeNot (i := 16) rfl (h := ?_)
       refine aTakeNot (i := 17) rfl (h := ?_)
       refine aP 18 (.d (.bool false)) rfl (p_pick (b := false)) ?_
       refine dDrop [9, 57] [9, 57] (T' := [(9, .ptr 7 0), (57, .d (.bool false))]) (U' := [(9, .ptr 7 0), (57, .d (.bool false))]) (h := ?_)
       exact hj9 false
    ·refine dPickF 49 (fun c => F (c && (r141 == 0))) (h1 := fun hc => ?_) (h2 := fun hc => ?_)
     ·refine aP 11 (.d (.int .i64 r141)) rfl p_move ?_
      refine aP 12 (.d (.bool (r141 == 0))) rfl (p_int (k := .i64) (p := r141) (q := 0)) ?_
      refine aP 13 (.d (.bool (r141 == 0))) rfl (p_pick (b := true)) ?_
      refine dDrop [5, 9, 52] [5, 9, 52] (T' := [(5, .ptr 5 0), (9, .ptr 7 0), (52, .d (.bool (r141 == 0)))]) (U' := [(5, .ptr 5 0), (9, .ptr 7 0), (52, .d (.bool (r141 == 0)))]) (h := ?_)
      exact hj8 (r141 == 0)
     ·refine aTakeNot (i := 11) rfl (h := ?_)
      refine aTakeNot (i := 12) rfl (h := ?_)
      refine aP 13 (.d (.bool false)) rfl (p_pick (b := false)) ?_
      refine dDrop [5, 9, 52] [5, 9, 52] (T' := [(5, .ptr 5 0), (9, .ptr 7 0), (52, .d (.bool false))]) (U' := [(5, .ptr 5 0), (9, .ptr 7 0), (52, .d (.bool false))]) (h := ?_)
      exact hj8 false
   ·refine dPickF 45 (fun c => F (c && (r121 == 0))) (h1 := fun hc => ?_) (h2 := fun hc => ?_)
    ·refine aP 7 (.d (.int .i64 r121)) rfl p_move ?_
     refine aP 8 (.d (.bool (r121 == 0))) rfl (p_int (k := .i64) (p := r121) (q := 0)) ?_
     refine aP 9 (.d (.bool (r121 == 0))) rfl (p_pick (b := true)) ?_
     refine dDrop [5, 9, 10, 48] [5, 9, 10, 48] (T' := [(5, .ptr 5 0), (9, .ptr 7 0), (10, .d (.int .i64 r141)), (48, .d (.bool (r121 == 0)))]) (U' := [(5, .ptr 5 0), (9, .ptr 7 0), (10, .d (.int .i64 r141)), (48, .d (.bool (r121 == 0)))]) (h := ?_)
     exact hj7 (r121 == 0)
    ·refine aTakeNot (i := 7) rfl (h := ?_)
     refine aTakeNot (i := 8) rfl (h := ?_)
     refine aP 9 (.d (.bool false)) rfl (p_pick (b := false)) ?_
     refine dDrop [5, 9, 10, 48] [5, 9, 10, 48] (T' := [(5, .ptr 5 0), (9, .ptr 7 0), (10, .d (.int .i64 r141)), (48, .d (.bool false))]) (U' := [(5, .ptr 5 0), (9, .ptr 7 0), (10, .d (.int .i64 r141)), (48, .d (.bool false))]) (h := ?_)
     exact hj7 false
  ·refine dPickF 41 (fun c => F (c && (r14 == 0))) (h1 := fun hc => ?_) (h2 := fun hc => ?_)
   ·refine aP 3 (.d (.int .i64 r14)) rfl p_move ?_
    refine aP 4 (.d (.bool (r14 == 0))) rfl (p_int (k := .i64) (p := r14) (q := 0)) ?_
    refine aP 5 (.d (.bool (r14 == 0))) rfl (p_pick (b := true)) ?_
    refine dDrop [5, 8, 9, 10, 44] [5, 8, 9, 10, 44] (T' := [(5, .ptr 5 0), (8, .d (.int .i64 r121)), (9, .ptr 7 0), (10, .d (.int .i64 r141)), (44, .d (.bool (r14 == 0)))]) (U' := [(5, .ptr 5 0), (8, .d (.int .i64 r121)), (9, .ptr 7 0), (10, .d (.int .i64 r141)), (44, .d (.bool (r14 == 0)))]) (h := ?_)
    exact hj6 (r14 == 0)
   ·refine aTakeNot (i := 3) rfl (h := ?_)
    refine aTakeNot (i := 4) rfl (h := ?_)
    refine aP 5 (.d (.bool false)) rfl (p_pick (b := false)) ?_
    refine dDrop [5, 8, 9, 10, 44] [5, 8, 9, 10, 44] (T' := [(5, .ptr 5 0), (8, .d (.int .i64 r121)), (9, .ptr 7 0), (10, .d (.int .i64 r141)), (44, .d (.bool false))]) (U' := [(5, .ptr 5 0), (8, .d (.int .i64 r121)), (9, .ptr 7 0), (10, .d (.int .i64 r141)), (44, .d (.bool false))]) (h := ?_)
    exact hj6 false

/-- awardingbody/awardingbodymark.Roll -/
def mark_Roll (k : Nat) (l : (List Int)) : Option (Unit) := some ()
def mark_Roll_E (l : (List Int)) : Unit → V × List Blk := u0 ((.ptr 0 0, [.box [.d (.lit (List.map e_i64 l)), .d (.int .i64 0)]]))
theorem mark_Roll_goes (k : Nat) (l : (List Int)) : RunsO Try.prog 9 [.d (.lit (List.map e_i64 l))] [] (mark_Roll_E l) (mark_Roll k l) := by
  refine RunsO.of_goes (N := 6) (m := 0) (T := [(0, .d (.lit (List.map e_i64 l)))]) Try.func9 rfl rfl (h := ?_)
  unfold mark_Roll
  refine bStart ?_
  refine oSR rfl ?_
  refine oP (.nilptr) p_assign ?_
  refine oEnd ?_
  refine oSR rfl ?_
  refine oP (.d (.lit (List.map e_i64 l))) p_move ?_
  refine oP (.agg [.d (.lit (List.map e_i64 l)), .d (.int .i64 0)]) (p_build bld53) ?_
  refine oD (.ptr 0 0) (k_box (H' := [.box [.d (.lit (List.map e_i64 l)), .d (.int .i64 0)]]) (cells := [.d (.lit (List.map e_i64 l)), .d (.int .i64 0)])) ?_
  refine oP (.ptr 0 0) p_assign ?_
  refine oEnd ?_
  exact oRet (r0 := ()) (rv := .ptr 0 0) (B := [.box [.d (.lit (List.map e_i64 l)), .d (.int .i64 0)]]) (vs := [.ptr 0 0]) (σ := [0]) (hf := Try.func9) (hrs := rfl) (hres := .cons _ _ _ _ (.tmp 2 _ (by kernel_rfl)) .nil) (hnd := by decide)

/-- (*awardingbody/awardingbodymark.Dice).Next -/
def mark_Dice_Next (k : Nat) (n : Int) (x : (List Int)) (x1 : Int) : Option (Int × Int) := blet ((decide (x1 ≥ ((List.length x) : Int))) || (decide (n < 1))) fun x8 => bif x8 then some (0, x1) else gidx x x1 fun e1 => gnz n (Option.bind (bif (decide ((Int.tmod e1 n) < 0)) then some ((IntKind.wrap .i64 ((Int.tmod e1 n) + n)), (IntKind.wrap .i64 (x1 + 1))) else some ((Int.tmod e1 n), (IntKind.wrap .i64 (x1 + 1))) : Option (Int × Int)) (uc fun x9 => fun x10 => some (x9, x10)))
def mark_Dice_Next_E (n : Int) (x : (List Int)) (x1 : Int) : Int × Int → V × List Blk := uc fun r1 => fun x6 => (.d (.int .i64 r1), [.box [.d (.lit (List.map e_i64 x)), .d (.int .i64 x6)]])
theorem mark_Dice_Next_goes (k : Nat) (n : Int) (x : (List Int)) (x1 : Int) : RunsO Try.prog 28 [.ptr 0 0, .d (.int .i64 n)] [.box [.d (.lit (List.map e_i64 x)), .d (.int .i64 x1)]] (mark_Dice_Next_E n x x1) (mark_Dice_Next k n x x1) := by
  refine RunsO.of_goes (N := 45) (m := 1) (T := [(0, .ptr 0 0), (1, .d (.int .i64 n))]) Try.func28 rfl rfl (h := ?_)
  unfold mark_Dice_Next
  refine bStart ?_
  refine oSR rfl ?_
  refine oP (.d (.int .i64 0)) p_assign ?_
  refine oEnd ?_
  refine oSeq ?_
  refine oSeq ?_
  refine oDraw [(0, 14)] rfl ?_
  refine aP 0 (.ptr 0 0) rfl p_move ?_
  refine aP 1 (.ptr 0 0) rfl (k_nilCheck 0 0) ?_
  refine aP 2 (.ptr 0 1) rfl (k_fieldAddr 0 0 (hu := Try.underlying53) (hf := rfl) (hi := ty3)) ?_
  refine aQ 3 [0] (.d (.int .i64 x1)) rfl (k_load 0 1 (hu := Try.underlying3)) ?_
  refine aP 4 (.ptr 0 0) rfl p_move ?_
  refine aP 5 (.ptr 0 0) rfl (k_nilCheck 0 0) ?_
  refine aP 6 (.ptr 0 0) rfl (k_fieldAddr 0 0 (hu := Try.underlying53) (hf := rfl) (hi := ty22)) ?_
  refine aQ 7 [0] (.d (.lit (List.map e_i64 x))) rfl (k_load 0 0 (hu := Try.underlying22)) ?_
  refine aP 8 (.d (.int .i64 ((List.length x) : Int))) rfl (k_lenLit (enc := e_i64) x (hu := Try.underlying22)) ?_
  refine aP 9 (.d (.bool (decide (x1 ≥ ((List.length x) : Int))))) rfl (p_int (k := .i64) (p := x1) (q := ((List.length x) : Int))) ?_
  refine aP 10 (.d (.bool (decide (x1 ≥ ((List.length x) : Int))))) rfl p_move ?_
  refine dMeetF [13, 12, 11, 10, 9, 8, 7, 6, 5, 4, 3, 2, 1, 0] (fun (x8 : Bool) => [(0, .ptr 0 0), (1, .d (.int .i64 n)), (19, .d (.bool x8))]) (fun (x8 : Bool) => [(0, .ptr 0 0), (1, .d (.int .i64 n)), (19, .d (.bool x8))]) (H' := [.box [.d (.lit (List.map e_i64 x)), .d (.int .i64 x1)]]) (fun x8 => ?_) (fun F hj3 => ?_)
  ·refine aDone (h := ?_)
   refine bSplit 19 (h1 := fun hc => ?_) (h2 := fun hc => ?_)
   ·refine oCondT (h := ?_)
    refine oSR rfl ?_
    refine oP (.d (.int .i64 0)) p_assign ?_
    refine oEnd ?_
    exact oRet (r0 := (0, x1)) (rv := .d (.int .i64 0)) (B := [.box [.d (.lit (List.map e_i64 x)), .d (.int .i64 x1)]]) (vs := [.d (.int .i64 0)]) (σ := [0]) (hf := Try.func28) (hrs := rfl) (hres := .cons _ _ _ _ (.tmp 4 _ (by kernel_rfl)) .nil) (hnd := by decide)
   ·refine oCondF (h := ?_)
    refine oSkip ?_
    refine oSeq ?_
    refine oDraw [(0, 13)] rfl ?_
    refine aP 0 (.ptr 0 0) rfl p_move ?_
    refine aP 1 (.ptr 0 0) rfl (k_nilCheck 0 0) ?_
    refine aP 2 (.ptr 0 0) rfl (k_fieldAddr 0 0 (hu := Try.underlying53) (hf := rfl) (hi := ty22)) ?_
    refine aQ 3 [0] (.d (.lit (List.map e_i64 x))) rfl (k_load 0 0 (hu := Try.underlying22)) ?_
    refine aP 4 (.ptr 0 0) rfl p_move ?_
    refine aP 5 (.ptr 0 0) rfl (k_nilCheck 0 0) ?_
    refine aP 6 (.ptr 0 1) rfl (k_fieldAddr 0 0 (hu := Try.underlying53) (hf := rfl) (hi := ty3)) ?_
    refine aQ 7 [0] (.d (.int .i64 x1)) rfl (k_load 0 1 (hu := Try.underlying3)) ?_
    refine dIdx (fun e1 h1 h11 => ?_)
    refine aP 8 (.lptr (e_i64 e1) 0) rfl (k_idxLit e_i64_len x (a := e1) (k := .i64) (i := x1) (hu := Try.underlying22) (hi := ty3) (h0 := h1) (he := h11)) ?_
    refine aQ 9 [] (.d (.int .i64 e1)) rfl (k_loadL (cells := e_i64 e1) 0 (hu := Try.underlying3)) ?_
    refine aP 10 (.d (.int .i64 n)) rfl p_move ?_
    refine dNz (fun h12 => ?_)
    refine aTakeP (i := 11) (.d (.int .i64 (Int.tmod e1 n))) rfl (hp := p_rem (k := .i64) (p := e1) (q := n) (hq := h12)) (h := ?_)
    refine aP 12 (.d (.int .i64 (Int.tmod e1 n))) rfl p_assign ?_
    refine aDone (h := ?_)
    refine oSR rfl ?_
    refine oP (.ptr 0 0) p_move ?_
    refine oP (.ptr 0 0) (k_nilCheck 0 0) ?_
    refine oP (.ptr 0 1) (k_fieldAddr 0 0 (hu := Try.underlying53) (hf := rfl) (hi := ty3)) ?_
    refine oQ (.d (.int .i64 x1)) (k_load 0 1 (hu := Try.underlying3)) ?_
    refine oP (.d (.int .i64 (IntKind.wrap .i64 (x1 + 1)))) (p_int (k := .i64) (p := x1) (q := 1)) ?_
    refine oP (.ptr 0 0) (k_nilCheck 0 0) ?_
    refine oP (.ptr 0 1) (k_fieldAddr 0 0 (hu := Try.underlying53) (hf := rfl) (hi := ty3)) ?_
    refine oD (.undef) (k_store (vs := [.d (.int .i64 (IntKind.wrap .i64 (x1 + 1)))]) (H' := [.box [.d (.lit (List.map e_i64 x)), .d (.int .i64 (IntKind.wrap .i64 (x1 + 1)))]]) 0 1 (hi := ty3)) ?_
    refine oEnd ?_
    refine oSeq ?_
    refine oSR rfl ?_
    refine oP (.d (.int .i64 (Int.tmod e1 n))) p_move ?_
    refine oP (.d (.bool (decide ((Int.tmod e1 n) < 0)))) (p_int (k := .i64) (p := (Int.tmod e1 n)) (q := 0)) ?_
    refine oEnd ?_
    refine bJoin ((uc fun (x9 : Int) => (fun (x10 : Int) => [(5, .d (.int .i64 x9))]))) ((uc fun (x9 : Int) => (fun (x10 : Int) => [.box [.d (.lit (List.map e_i64 x)), .d (.int .i64 x10)]]))) (fun s => s) (fun s => ?_) (fun hj4 => ?_)
    ·obtain ⟨x9, x10⟩ := s
     refine bUc ?_
     refine oView (T' := [(5, .d (.int .i64 x9))]) (H' := [.box [.d (.lit (List.map e_i64 x)), .d (.int .i64 x10)]]) (h := ?_)
     refine oSR rfl ?_
     refine oP (.d (.int .i64 x9)) p_move ?_
     refine oP (.d (.int .i64 x9)) p_assign ?_
     refine oEnd ?_
     exact oRet (r0 := (x9, x10)) (rv := .d (.int .i64 x9)) (B := [.box [.d (.lit (List.map e_i64 x)), .d (.int .i64 x10)]]) (vs := [.d (.int .i64 x9)]) (σ := [0]) (hf := Try.func28) (hrs := rfl) (hres := .cons _ _ _ _ (.tmp 4 _ (by kernel_rfl)) .nil) (hnd := by decide)
    ·refine bSplit 40 (h1 := fun hc => ?_) (h2 := fun hc => ?_)
     ·refine oCondT (h := ?_)
      refine oRegion rfl ?_
      refine oP (.d (.int .i64 (Int.tmod e1 n))) p_move ?_
      refine oP (.d (.int .i64 n)) p_move ?_
      refine oP (.d (.int .i64 (IntKind.wrap .i64 ((Int.tmod e1 n) + n)))) (p_int (k := .i64) (p := (Int.tmod e1 n)) (q := n)) ?_
      refine oP (.d (.int .i64 (IntKind.wrap .i64 ((Int.tmod e1 n) + n)))) p_assign ?_
      refine oEnd ?_
      refine oHead [5] [0] (T' := [(5, .d (.int .i64 (IntKind.wrap .i64 ((Int.tmod e1 n) + n))))]) (H' := [.box [.d (.lit (List.map e_i64 x)), .d (.int .i64 (IntKind.wrap .i64 (x1 + 1)))]]) (hnd := by decide) (h := ?_)
      exact hj4 ((IntKind.wrap .i64 ((Int.tmod e1 n) + n)), (IntKind.wrap .i64 (x1 + 1)))
     ·refine oCondF (h := ?_)
      refine oSkip ?_
      refine oHead [5] [0] (T' := [(5, .d (.int .i64 (Int.tmod e1 n)))]) (H' := [.box [.d (.lit (List.map e_i64 x)), .d (.int .i64 (IntKind.wrap .i64 (x1 + 1)))]]) (hnd := by decide) (h := ?_)
      exact hj4 ((Int.tmod e1 n), (IntKind.wrap .i64 (x1 + 1)))
  ·refine dPickF 16 (fun c => F (c || (decide (n < 1)))) (h1 := fun hc => ?_) (h2 := fun hc => ?_)
   ·refine aTakeNot (i := 11) rfl (h := ?_)
    refine aTakeNot (i := 12) rfl (h := ?_)
    refine aP 13 (.d (.bool true)) rfl (p_pick (b := true)) ?_
    refine dDrop [0, 1, 19] [0, 1, 19] (T' := [(0, .ptr 0 0), (1, .d (.int .i64 n)), (19, .d (.bool true))]) (U' := [(0, .ptr 0 0), (1, .d (.int .i64 n)), (19, .d (.bool true))]) (h := ?_)
    exact hj3 true
   ·refine aP 11 (.d (.int .i64 n)) rfl p_move ?_
    refine aP 12 (.d (.bool (decide (n < 1)))) rfl (p_int (k := .i64) (p := n) (q := 1)) ?_
    refine aP 13 (.d (.bool (decide (n < 1)))) rfl (p_pick (b := false)) ?_
    refine dDrop [0, 1, 19] [0, 1, 19] (T' := [(0, .ptr 0 0), (1, .d (.int .i64 n)), (19, .d (.bool (decide (n < 1))))]) (U' := [(0, .ptr 0 0), (1, .d (.int .i64 n)), (19, .d (.bool (decide (n < 1))))]) (h := ?_)
    exact hj3 (decide (n < 1))

/-- (*awardingbody/awardingbodymark.Dice).Pick -/
def mark_Dice_Pick (k : Nat) (x : (List Int)) (x1 : Int) (xs : (List Int)) : Option (Int × Int) := Option.bind (mark_Dice_Next k ((List.length xs) : Int) x x1) (uc fun r12 => fun x61 => gidx xs r12 fun e11 => some (e11, x61))
def mark_Dice_Pick_E (x : (List Int)) (x1 : Int) (xs : (List Int)) : Int × Int → V × List Blk := uc fun r11 => fun x2 => (.d (.int .i64 r11), [.box [.d (.lit (List.map e_i64 x)), .d (.int .i64 x2)], .sl 1 (List.map e_i64 xs) false])
theorem mark_Dice_Pick_goes (k : Nat) (x : (List Int)) (x1 : Int) (xs : (List Int)) : RunsO Try.prog 29 [.ptr 0 0, .ref 1 (List.length xs) 0 (List.length xs)] [.box [.d (.lit (List.map e_i64 x)), .d (.int .i64 x1)], .sl 1 (List.map e_i64 xs) false] (mark_Dice_Pick_E x x1 xs) (mark_Dice_Pick k x x1 xs) := by
  refine RunsO.of_goes (N := 12) (m := 2) (T := [(0, .ptr 0 0), (1, .ref 1 (List.length xs) 0 (List.length xs))]) Try.func29 rfl rfl (h := ?_)
  unfold mark_Dice_Pick
  refine bStart ?_
  refine oSR rfl ?_
  refine oP (.d (.int .i64 0)) p_assign ?_
  refine oEnd ?_
  refine oSR rfl ?_
  refine oP (.ref 1 (List.length xs) 0 (List.length xs)) p_move ?_
  refine oP (.ptr 0 0) p_move ?_
  refine oP (.ref 1 (List.length xs) 0 (List.length xs)) p_move ?_
  refine oP (.d (.int .i64 ((List.length xs) : Int))) (k_lenRef (enc := e_i64) (sz := 1) (fro := false) 1 xs (hu := Try.underlying22)) ?_
  refine bCall (caps := []) (v := (uc fun (r12 : Int) => (fun (x61 : Int) => (.d (.int .i64 r12) : V)))) (H' := (uc fun (r12 : Int) => (fun (x61 : Int) => ([.box [.d (.lit (List.map e_i64 x)), .d (.int .i64 x61)], .sl 1 (List.map e_i64 xs) false] : List Blk)))) [0] _ (mark_Dice_Next_goes k ((List.length xs) : Int) x x1) (ho := rfl) (hfn := Try.func28) (hb := rfl) (hconv := ConvRs.refl _ _) (hnd := by decide) (hBl := fun _ => (by kernel_rfl)) (hv := fun _ => (by kernel_rfl)) (hH' := fun _ => (by kernel_rfl)) (h := fun r => ?_)
  obtain ⟨r12, x61⟩ := r
  refine bUc ?_
  refine bIdx (fun e11 h12 h13 => ?_)
  refine oP (.eptr 1 (List.length xs) (Int.toNat r12) 0) (k_idxRef (enc := e_i64) (fro := false) xs (a := e11) (k := .i64) (i := r12) (hu := Try.underlying22) (hi := ty3) (h0 := h12) (he := h13)) ?_
  refine oQ (.d (.int .i64 e11)) (k_loadE (enc := e_i64) (sz := 1) (fro := false) 1 0 xs (hu := Try.underlying3) (he := h13)) ?_
  refine oP (.d (.int .i64 e11)) p_assign ?_
  refine oEnd ?_
  exact oRet (r0 := (e11, x61)) (rv := .d (.int .i64 e11)) (B := [.box [.d (.lit (List.map e_i64 x)), .d (.int .i64 x61)], .sl 1 (List.map e_i64 xs) false]) (vs := [.d (.int .i64 e11)]) (σ := [0, 1]) (hf := Try.func29) (hrs := rfl) (hres := .cons _ _ _ _ (.tmp 4 _ (by kernel_rfl)) .nil) (hnd := by decide)

/-- (*awardingbody/awardingbodymark.Dice).Distribution -/
def mark_Dice_Distribution_b1 (k : Nat) (x : (List Int)) (least1 : Int) (again : Int × Int × (List Int) → Option (Int × (List Int))) : Int × Int × (List Int) → Option (Int × (List Int)) := uc fun i7 => uc fun x11 => fun xs6 => bif (decide (i7 > 0)) then Option.bind (mark_Dice_Pick k x x11 ([0, 1, 2, 5, 0] : List Int)) (uc fun r11 => fun x2 => gcap (List.length (xs6 ++ ([(IntKind.wrap .i64 (least1 + r11))] : List Int))) 8 (again ((IntKind.wrap .i64 (i7 - 1)), x2, (xs6 ++ ([(IntKind.wrap .i64 (least1 + r11))] : List Int))))) else some (x11, xs6)
def mark_Dice_Distribution (k : Nat) (n : Int) (full : Bool) (x : (List Int)) (x1 : Int) : Option ((List Int) × Int) := Option.bind (bif full then some 1 else some 0 : Option (Int)) (fun least1 => Option.bind (mark_Dice_Next k (IntKind.wrap .i64 (n + 1)) x x1) (uc fun r13 => fun x61 => Option.bind (gloop (mark_Dice_Distribution_b1 k x least1) k ((IntKind.wrap .i64 (1 + r13)), x61, ([] : List Int)) : Option (Int × (List Int))) (uc fun x10 => fun xs5 => some (xs5, x10))))
def mark_Dice_Distribution_E (n : Int) (full : Bool) (x : (List Int)) (x1 : Int) : (List Int) × Int → V × List Blk := uc fun r12 => fun x7 => (.agg [.d (.lit (List.map e_i64 r12))], [.box [.d (.lit (List.map e_i64 x)), .d (.int .i64 x7)]])
theorem mark_Dice_Distribution_goes (k : Nat) (n : Int) (full : Bool) (x : (List Int)) (x1 : Int) : RunsO Try.prog 10 [.ptr 0 0, .d (.int .i64 n), .d (.bool full)] [.box [.d (.lit (List.map e_i64 x)), .d (.int .i64 x1)]] (mark_Dice_Distribution_E n full x x1) (mark_Dice_Distribution k n full x x1) := by
  refine RunsO.of_goes (N := 31) (m := 1) (T := [(0, .ptr 0 0), (1, .d (.int .i64 n)), (2, .d (.bool full))]) Try.func10 rfl rfl (h := ?_)
  unfold mark_Dice_Distribution
  refine bStart ?_
  refine oSR rfl ?_
  refine oD (.ptr 1 0) (k_alloc (H' := [.box [.d (.lit (List.map e_i64 x)), .d (.int .i64 x1)], .box [.nilc]]) ty28) ?_
  refine oEnd ?_
  refine oSR rfl ?_
  refine oD (.ptr 2 0) (k_alloc (H' := [.box [.d (.lit (List.map e_i64 x)), .d (.int .i64 x1)], .box [.nilc], .box [.nilc]]) ty28) ?_
  refine oEnd ?_
  refine oSR rfl ?_
  refine oP (.d (.int .i64 0)) p_assign ?_
  refine oEnd ?_
  refine oSeq ?_
  refine oSR rfl ?_
  refine oP (.d (.bool full)) p_move ?_
  refine oEnd ?_
  refine bJoin ((fun (least1 : Int) => [(0, .ptr 0 0), (1, .d (.int .i64 n)), (6, .ptr 1 0), (7, .ptr 2 0), (8, .d (.int .i64 least1))])) ((fun (least1 : Int) => [.box [.d (.lit (List.map e_i64 x)), .d (.int .i64 x1)], .box [.nilc], .box [.nilc]])) (fun s => s) (fun least1 => ?_) (fun hj3 => ?_)
  ·refine oView (T' := [(0, .ptr 0 0), (1, .d (.int .i64 n)), (6, .ptr 1 0), (7, .ptr 2 0), (8, .d (.int .i64 least1))]) (H' := [.box [.d (.lit (List.map e_i64 x)), .d (.int .i64 x1)], .box [.nilc], .box [.nilc]]) (h := ?_)
   refine oSeq ?_
   refine oSR rfl ?_
   refine oP (.ptr 0 0) p_move ?_
   refine oP (.d (.int .i64 n)) p_move ?_
   refine oP (.d (.int .i64 (IntKind.wrap .i64 (n + 1)))) (p_int (k := .i64) (p := n) (q := 1)) ?_
   refine bCall (caps := []) (v := (uc fun (r13 : Int) => (fun (x61 : Int) => (.d (.int .i64 r13) : V)))) (H' := (uc fun (r13 : Int) => (fun (x61 : Int) => ([.box [.d (.lit (List.map e_i64 x)), .d (.int .i64 x61)], .box [.nilc], .box [.nilc]] : List Blk)))) [0] _ (mark_Dice_Next_goes k (IntKind.wrap .i64 (n + 1)) x x1) (ho := rfl) (hfn := Try.func28) (hb := rfl) (hconv := ConvRs.refl _ _) (hnd := by decide) (hBl := fun _ => (by kernel_rfl)) (hv := fun _ => (by kernel_rfl)) (hH' := fun _ => (by kernel_rfl)) (h := fun r => ?_)
   obtain ⟨r13, x61⟩ := r
   refine bUc ?_
   refine oP (.d (.int .i64 (IntKind.wrap .i64 (1 + r13)))) (p_int (k := .i64) (p := 1) (q := r13)) ?_
   refine oP (.d (.int .i64 (IntKind.wrap .i64 (1 + r13)))) p_assign ?_
   refine oEnd ?_
   refine bJoin ((uc fun (x10 : Int) => (fun (xs5 : (List Int)) => [(6, .ptr 1 0), (7, .ptr 2 0)]))) ((uc fun (x10 : Int) => (fun (xs5 : (List Int)) => [.box [.d (.lit (List.map e_i64 x)), .d (.int .i64 x10)], .box [.nilc], .box [.ref 3 (List.length xs5) 0 (List.length xs5)], .sl 1 (List.map e_i64 xs5) false]))) (fun s => s) (fun s => ?_) (fun hj4 => ?_)
   ·obtain ⟨x10, xs5⟩ := s
    refine bUc ?_
    refine oView (T' := [(6, .ptr 1 0), (7, .ptr 2 0)]) (H' := [.box [.d (.lit (List.map e_i64 x)), .d (.int .i64 x10)], .box [.nilc], .box [.ref 3 (List.length xs5) 0 (List.length xs5)], .sl 1 (List.map e_i64 xs5) false]) (h := ?_)
    refine oSR rfl ?_
    refine oQ (.agg [.ref 3 (List.length xs5) 0 (List.length xs5)]) (k_loadAgg 2 0 (hu := Try.underlying28) (hi := ty28)) ?_
    refine oD (.undef) (k_store (vs := [.ref 3 (List.length xs5) 0 (List.length xs5)]) (H' := [.box [.d (.lit (List.map e_i64 x)), .d (.int .i64 x10)], .box [.ref 3 (List.length xs5) 0 (List.length xs5)], .box [.ref 3 (List.length xs5) 0 (List.length xs5)], .sl 1 (List.map e_i64 xs5) false]) 1 0 (hi := ty28)) ?_
    refine oEnd ?_
    refine oFreeze 3 (esz := 1) (xs := List.map e_i64 xs5) (h := ?_)
    refine oView (H' := [.box [.d (.lit (List.map e_i64 x)), .d (.int .i64 x10)], .box [.ref 3 (List.length xs5) 0 (List.length xs5)], .box [.ref 3 (List.length xs5) 0 (List.length xs5)], .sl 1 (List.map e_i64 xs5) true]) rfl (h := ?_)
    refine oConvB 1 (cells := [.ref 3 (List.length xs5) 0 (List.length xs5)]) (cells' := [.d (.lit (List.map e_i64 xs5))]) (hc := .cons _ _ _ _ (k_lit (enc := e_i64) (sz := 1) 3 xs5) .nil) (h := ?_)
    refine oView (H' := [.box [.d (.lit (List.map e_i64 x)), .d (.int .i64 x10)], .box [.d (.lit (List.map e_i64 xs5))], .box [.ref 3 (List.length xs5) 0 (List.length xs5)], .sl 1 (List.map e_i64 xs5) true]) rfl (h := ?_)
    exact oRet (r0 := (xs5, x10)) (rv := .agg [.d (.lit (List.map e_i64 xs5))]) (B := [.box [.d (.lit (List.map e_i64 x)), .d (.int .i64 x10)]]) (vs := [.agg [.d (.lit (List.map e_i64 xs5))]]) (σ := [0]) (hf := Try.func10) (hrs := rfl) (hres := .cons _ _ _ _ (.agg 6 28 1 0 [.d (.lit (List.map e_i64 xs5))] [.d (.lit (List.map e_i64 xs5))] _ _ _ _ (by kernel_rfl) (by kernel_rfl) Try.underlying28 (by kernel_rfl) ty28 (by kernel_rfl) (by kernel_rfl)) .nil) (hnd := by decide)
   ·refine oBlock ?_
    refine oLoop ?_
    refine oVirtB (esz := 1) 2 0 (cells := [.nilc]) (h := ?_)
    refine oView (H' := [.box [.d (.lit (List.map e_i64 x)), .d (.int .i64 x61)], .box [.nilc], .box [.ref 3 (List.length ([] : List Int)) 0 (List.length ([] : List Int))], .sl 1 (List.map e_i64 ([] : List Int)) false]) rfl (h := ?_)
    refine oHead [0, 6, 7, 8, 9] [0, 1, 2, 3] (T' := [(0, .ptr 0 0), (6, .ptr 1 0), (7, .ptr 2 0), (8, .d (.int .i64 least1)), (9, .d (.int .i64 (IntKind.wrap .i64 (1 + r13))))]) (H' := [.box [.d (.lit (List.map e_i64 x)), .d (.int .i64 x61)], .box [.nilc], .box [.ref 3 (List.length ([] : List Int)) 0 (List.length ([] : List Int))], .sl 1 (List.map e_i64 ([] : List Int)) false]) (hnd := by decide) (h := ?_)
    refine bLoop (body := mark_Dice_Distribution_b1 k x least1) ((uc fun (i7 : Int) => (uc fun (x11 : Int) => (fun (xs6 : (List Int)) => [(0, .ptr 0 0), (6, .ptr 1 0), (7, .ptr 2 0), (8, .d (.int .i64 least1)), (9, .d (.int .i64 i7))])))) ((uc fun (i7 : Int) => (uc fun (x11 : Int) => (fun (xs6 : (List Int)) => [.box [.d (.lit (List.map e_i64 x)), .d (.int .i64 x11)], .box [.nilc], .box [.ref 3 (List.length xs6) 0 (List.length xs6)], .sl 1 (List.map e_i64 xs6) false])))) (fun again hag1 s => ?_) k ((IntKind.wrap .i64 (1 + r13)), x61, ([] : List Int))
    ·unfold mark_Dice_Distribution_b1
     obtain ⟨i7, x11, xs6⟩ := s
     refine bUc ?_
     refine bUc ?_
     refine oView (T' := [(0, .ptr 0 0), (6, .ptr 1 0), (7, .ptr 2 0), (8, .d (.int .i64 least1)), (9, .d (.int .i64 i7))]) (H' := [.box [.d (.lit (List.map e_i64 x)), .d (.int .i64 x11)], .box [.nilc], .box [.ref 3 (List.length xs6) 0 (List.length xs6)], .sl 1 (List.map e_i64 xs6) false]) (h := ?_)
     refine oSeq ?_
     refine oSR rfl ?_
     refine oP (.d (.int .i64 i7)) p_move ?_
     refine oP (.d (.bool (decide (i7 > 0)))) (p_int (k := .i64) (p := i7) (q := 0)) ?_
     refine oEnd ?_
     refine bSplit 17 (h1 := fun hc => ?_) (h2 := fun hc => ?_)
     ·refine oCondT (h := ?_)
      refine oSkip ?_
      refine oSeq ?_
      refine oBlock ?_
      refine oDraw [(0, 5), (1, 11), (2, 10), (3, 8)] rfl ?_
      refine aP 0 (.ptr 2 0) rfl (k_fieldAddr 2 0 (hu := Try.underlying28) (hf := rfl) (hi := ty22)) ?_
      refine aQ 1 [2] (.ref 3 (List.length xs6) 0 (List.length xs6)) rfl (k_load 2 0 (hu := Try.underlying22)) ?_
      refine aP 2 (.d (.int .i64 least1)) rfl p_move ?_
      refine aP 3 (.ptr 0 0) rfl p_move ?_
      refine aOne (i := 4) (v := .ref 4 (List.length ([0, 1, 2, 5, 0] : List Int)) 0 (List.length ([0, 1, 2, 5, 0] : List Int))) rfl (hac := (Does.acts (k_buildSlice (H' := [.box [.d (.lit (List.map e_i64 x)), .d (.int .i64 x11)], .box [.nilc], .box [.ref 3 (List.length xs6) 0 (List.length xs6)], .sl 1 (List.map e_i64 xs6) false, .sl 1 (List.map e_i64 ([0, 1, 2, 5, 0] : List Int)) false]) (List.map e_i64 ([0, 1, 2, 5, 0] : List Int)) Try.underlying22 ty3))) (h := ?_)
      refine dCall (i := 5) (caps := []) (v := (uc fun (r11 : Int) => (fun (x2 : Int) => (.d (.int .i64 r11) : V)))) (H' := (uc fun (r11 : Int) => (fun (x2 : Int) => ([.box [.d (.lit (List.map e_i64 x)), .d (.int .i64 x2)], .box [.nilc], .box [.ref 3 (List.length xs6) 0 (List.length xs6)], .sl 1 (List.map e_i64 xs6) false, .sl 1 (List.map e_i64 ([0, 1, 2, 5, 0] : List Int)) false] : List Blk)))) [0, 4] _ (mark_Dice_Pick_goes k x x11 ([0, 1, 2, 5, 0] : List Int)) rfl (ho := rfl) (hfn := Try.func29) (hb := rfl) (hconv := ConvRs.refl _ _) (hnd := by decide) (hBl := fun _ => (by kernel_rfl)) (hv := fun _ => (by kernel_rfl)) (hH' := fun _ => (by kernel_rfl)) (h := fun r => ?_)
      obtain ⟨r11, x2⟩ := r
      refine dUc ?_
      refine aP 6 (.d (.int .i64 (IntKind.wrap .i64 (least1 + r11)))) rfl (p_int (k := .i64) (p := least1) (q := r11)) ?_
      refine aOne (i := 7) (v := .ref 5 (List.length ([(IntKind.wrap .i64 (least1 + r11))] : List Int)) 0 (List.length ([(IntKind.wrap .i64 (least1 + r11))] : List Int))) rfl (hac := (Does.acts (k_buildSlice (H' := [.box [.d (.lit (List.map e_i64 x)), .d (.int .i64 x2)], .box [.nilc], .box [.ref 3 (List.length xs6) 0 (List.length xs6)], .sl 1 (List.map e_i64 xs6) false, .sl 1 (List.map e_i64 ([0, 1, 2, 5, 0] : List Int)) false, .sl 1 (List.map e_i64 ([(IntKind.wrap .i64 (least1 + r11))] : List Int)) false]) (List.map e_i64 ([(IntKind.wrap .i64 (least1 + r11))] : List Int)) Try.underlying22 ty3))) (h := ?_)
      refine dCap (fun h1 => ?_)
      refine aOne (i := 8) (v := .ref 3 (List.length (xs6 ++ ([(IntKind.wrap .i64 (least1 + r11))] : List Int))) 0 (List.length (xs6 ++ ([(IntKind.wrap .i64 (least1 + r11))] : List Int)))) rfl (hac := (Does.acts (k_append (H' := [.box [.d (.lit (List.map e_i64 x)), .d (.int .i64 x2)], .box [.nilc], .box [.ref 3 (List.length xs6) 0 (List.length xs6)], .sl 1 (List.map e_i64 (xs6 ++ ([(IntKind.wrap .i64 (least1 + r11))] : List Int))) false, .sl 1 (List.map e_i64 ([0, 1, 2, 5, 0] : List Int)) false, .sl 1 (List.map e_i64 ([(IntKind.wrap .i64 (least1 + r11))] : List Int)) false]) (enc := e_i64) 3 xs6 ([(IntKind.wrap .i64 (least1 + r11))] : List Int) Try.underlying22 Try.underlying22 ty3 (hy := (holdsRef (enc := e_i64) 5 ([(IntKind.wrap .i64 (least1 + r11))] : List Int) false)) (hfit := h1)))) (h := ?_)
      refine aP 9 (.ptr 2 0) rfl (k_fieldAddr 2 0 (hu := Try.underlying28) (hf := rfl) (hi := ty22)) ?_
      refine aOne (i := 10) (v := .undef) rfl (hac := (Does.acts (k_store (vs := [.ref 3 (List.length (xs6 ++ ([(IntKind.wrap .i64 (least1 + r11))] : List Int))) 0 (List.length (xs6 ++ ([(IntKind.wrap .i64 (least1 + r11))] : List Int)))]) (H' := [.box [.d (.lit (List.map e_i64 x)), .d (.int .i64 x2)], .box [.nilc], .box [.ref 3 (List.length (xs6 ++ ([(IntKind.wrap .i64 (least1 + r11))] : List Int))) 0 (List.length (xs6 ++ ([(IntKind.wrap .i64 (least1 + r11))] : List Int)))], .sl 1 (List.map e_i64 (xs6 ++ ([(IntKind.wrap .i64 (least1 + r11))] : List Int))) false, .sl 1 (List.map e_i64 ([0, 1, 2, 5, 0] : List Int)) false, .sl 1 (List.map e_i64 ([(IntKind.wrap .i64 (least1 + r11))] : List Int)) false]) 2 0 (hi := ty22)))) (h := ?_)
      refine aDone (h := ?_)
      refine oBlk ?_
      refine oRegion rfl ?_
      refine oP (.d (.int .i64 i7)) p_move ?_
      refine oP (.d (.int .i64 (IntKind.wrap .i64 (i7 - 1)))) (p_int (k := .i64) (p := i7) (q := 1)) ?_
      refine oP (.d (.int .i64 (IntKind.wrap .i64 (i7 - 1)))) p_assign ?_
      refine oEnd ?_
      refine oAgain ?_
      refine oHead [0, 6, 7, 8, 9] [0, 1, 2, 3] (T' := [(0, .ptr 0 0), (6, .ptr 1 0), (7, .ptr 2 0), (8, .d (.int .i64 least1)), (9, .d (.int .i64 (IntKind.wrap .i64 (i7 - 1))))]) (H' := [.box [.d (.lit (List.map e_i64 x)), .d (.int .i64 x2)], .box [.nilc], .box [.ref 3 (List.length (xs6 ++ ([(IntKind.wrap .i64 (least1 + r11))] : List Int))) 0 (List.length (xs6 ++ ([(IntKind.wrap .i64 (least1 + r11))] : List Int)))], .sl 1 (List.map e_i64 (xs6 ++ ([(IntKind.wrap .i64 (least1 + r11))] : List Int))) false]) (hnd := by decide) (h := ?_)
      exact hag1 ((IntKind.wrap .i64 (i7 - 1)), x2, (xs6 ++ ([(IntKind.wrap .i64 (least1 + r11))] : List Int)))
     ·refine oCondF (h := ?_)
      refine oExit rfl ?_
      refine oHead [6, 7] [0, 1, 2, 3] (T' := [(6, .ptr 1 0), (7, .ptr 2 0)]) (H' := [.box [.d (.lit (List.map e_i64 x)), .d (.int .i64 x11)], .box [.nilc], .box [.ref 3 (List.length xs6) 0 (List.length xs6)], .sl 1 (List.map e_i64 xs6) false]) (hnd := by decide) (h := ?_)
      exact hj4 (x11, xs6)
  ·refine bSplit 10 (h1 := fun hc => ?_) (h2 := fun hc => ?_)
   ·refine oCondT (h := ?_)
    refine oRegion rfl ?_
    refine oP (.d (.int .i64 1)) p_assign ?_
    refine oEnd ?_
    refine oHead [0, 1, 6, 7, 8] [0, 1, 2] (T' := [(0, .ptr 0 0), (1, .d (.int .i64 n)), (6, .ptr 1 0), (7, .ptr 2 0), (8, .d (.int .i64 1))]) (H' := [.box [.d (.lit (List.map e_i64 x)), .d (.int .i64 x1)], .box [.nilc], .box [.nilc]]) (hnd := by decide) (h := ?_)
    exact hj3 1
   ·refine oCondF (h := ?_)
    refine oSkip ?_
    refine oHead [0, 1, 6, 7, 8] [0, 1, 2] (T' := [(0, .ptr 0 0), (1, .d (.int .i64 n)), (6, .ptr 1 0), (7, .ptr 2 0), (8, .d (.int .i64 0))]) (H' := [.box [.d (.lit (List.map e_i64 x)), .d (.int .i64 x1)], .box [.nilc], .box [.nilc]]) (hnd := by decide) (h := ?_)
    exact hj3 0

/-- awardingbody/distribution.Deviation -/
def distribution_Deviation_b1 (k : Nat) (d0 : (List Int)) (r11 : Int) (r12 : Int) (again : Int × Int → Option (Int)) : Int × Int → Option (Int) := uc fun far6 => fun x4 => bif (decide (x4 < ((List.length d0) : Int))) then gidx d0 x4 fun e113 => again ((IntKind.wrap .i64 (far6 + (IntKind.wrap .i64 (e113 * (gmax (IntKind.wrap .i64 ((IntKind.wrap .i64 (x4 * r11)) - r12)) (IntKind.wrap .i64 (0 - (IntKind.wrap .i64 ((IntKind.wrap .i64 (x4 * r11)) - r12))))))))), (IntKind.wrap .i64 (x4 + 1))) else some far6
def distribution_Deviation (k : Nat) (d0 : (List Int)) : Option (Int × Int × Int) := Option.bind (distribution_check k d0) (fun r19 => bif (r19 != 0) then some (0, 0, r19) else Option.bind (distribution_Count k d0) (fun r11 => Option.bind (distribution_points k d0) (fun r12 => Option.bind (gloop (distribution_Deviation_b1 k d0 r11 r12) k (0, 0) : Option (Int)) (fun far5 => Option.bind (ratio_New k far5 (IntKind.wrap .i64 (r11 * r11))) (uc fun r131 => uc fun r161 => fun r171 => some (r131, r161, r171))))))
def distribution_Deviation_E (d0 : (List Int)) : Int × Int × Int → V × List Blk := uc fun r14 => uc fun r15 => fun r18 => (.tuple [.agg [.d (.int .i64 r14), .d (.int .i64 r15)], .d (.int .i64 r18)], [])
theorem distribution_Deviation_goes (k : Nat) (d0 : (List Int)) : RunsO Try.prog 44 [.agg [.d (.lit (List.map e_i64 d0))]] [] (distribution_Deviation_E d0) (distribution_Deviation k d0) := by
  refine RunsO.of_goes (N := 50) (m := 0) (T := [(0, .agg [.d (.lit (List.map e_i64 d0))])]) Try.func44 rfl rfl (h := ?_)
  unfold distribution_Deviation
  refine bStart ?_
  refine oSR rfl ?_
  refine oD (.ptr 0 0) (k_box (H' := [.box [.d (.lit (List.map e_i64 d0))]]) (cells := [.d (.lit (List.map e_i64 d0))])) ?_
  refine oD (.ptr 1 0) (k_alloc (H' := [.box [.d (.lit (List.map e_i64 d0))], .box [.d (.int .i64 0), .d (.int .i64 0)]]) ty38) ?_
  refine oP (.d (.int .i64 0)) p_assign ?_
  refine oEnd ?_
  refine oSeq ?_
  refine oSR rfl ?_
  refine oQ (.agg [.d (.lit (List.map e_i64 d0))]) (k_loadAgg 0 0 (hu := Try.underlying28) (hi := ty28)) ?_
  refine bCall (caps := []) (v := (fun (r19 : Int) => (.d (.int .i64 r19) : V))) (H' := (fun (r19 : Int) => ([.box [.d (.lit (List.map e_i64 d0))], .box [.d (.int .i64 0), .d (.int .i64 0)]] : List Blk))) [] _ (distribution_check_goes k d0) (ho := rfl) (hfn := Try.func76) (hb := rfl) (hconv := ConvRs.refl _ _) (hnd := by decide) (hBl := fun _ => (by kernel_rfl)) (hv := fun _ => (by kernel_rfl)) (hH' := fun _ => (by kernel_rfl)) (h := fun r19 => ?_)
  refine oP (.d (.int .i64 r19)) p_assign ?_
  refine oEnd ?_
  refine oSR rfl ?_
  refine oP (.d (.int .i64 r19)) p_move ?_
  refine oP (.d (.bool (r19 != 0))) (p_int (k := .i64) (p := r19) (q := 0)) ?_
  refine oEnd ?_
  refine bSplit 14 (h1 := fun hc => ?_) (h2 := fun hc => ?_)
  ·refine oCondT (h := ?_)
   refine oSR rfl ?_
   refine oP (.agg [.d (.int .i64 0), .d (.int .i64 0)]) (p_build bld38) ?_
   refine oP (.d (.int .i64 r19)) p_move ?_
   refine oD (.undef) (k_store (vs := [.d (.int .i64 0), .d (.int .i64 0)]) (H' := [.box [.d (.lit (List.map e_i64 d0))], .box [.d (.int .i64 0), .d (.int .i64 0)]]) 1 0 (hi := ty38)) ?_
   refine oP (.d (.int .i64 r19)) p_assign ?_
   refine oEnd ?_
   exact oRet (r0 := (0, 0, r19)) (rv := .tuple [.agg [.d (.int .i64 0), .d (.int .i64 0)], .d (.int .i64 r19)]) (B := []) (vs := [.agg [.d (.int .i64 0), .d (.int .i64 0)], .d (.int .i64 r19)]) (σ := []) (hf := Try.func44) (hrs := rfl) (hres := .cons _ _ _ _ (.agg 2 38 1 0 [.d (.int .i64 0), .d (.int .i64 0)] [.d (.int .i64 0), .d (.int .i64 0)] _ _ _ _ (by kernel_rfl) (by kernel_rfl) Try.underlying38 (by kernel_rfl) ty38 (by kernel_rfl) (by kernel_rfl)) (.cons _ _ _ _ (.tmp 3 _ (by kernel_rfl)) .nil)) (hnd := by decide)
  ·refine oCondF (h := ?_)
   refine oSkip ?_
   refine oSeq ?_
   refine oDraw [(0, 7), (1, 7)] rfl ?_
   refine aQ 0 [0] (.agg [.d (.lit (List.map e_i64 d0))]) rfl (k_loadAgg 0 0 (hu := Try.underlying28) (hi := ty28)) ?_
   refine aQ 2 [0] (.agg [.d (.lit (List.map e_i64 d0))]) rfl (k_loadAgg 0 0 (hu := Try.underlying28) (hi := ty28)) ?_
   refine dCall (i := 1) (caps := []) (v := (fun (r11 : Int) => (.d (.int .i64 r11) : V))) (H' := (fun (r11 : Int) => ([.box [.d (.lit (List.map e_i64 d0))], .box [.d (.int .i64 0), .d (.int .i64 0)]] : List Blk))) [] _ (distribution_Count_goes k d0) rfl (ho := rfl) (hfn := Try.func32) (hb := rfl) (hconv := ConvRs.refl _ _) (hnd := by decide) (hBl := fun _ => (by kernel_rfl)) (hv := fun _ => (by kernel_rfl)) (hH' := fun _ => (by kernel_rfl)) (h := fun r11 => ?_)
   refine dCall (i := 3) (caps := []) (v := (fun (r12 : Int) => (.d (.int .i64 r12) : V))) (H' := (fun (r12 : Int) => ([.box [.d (.lit (List.map e_i64 d0))], .box [.d (.int .i64 0), .d (.int .i64 0)]] : List Blk))) [] _ (distribution_points_goes k d0) rfl (ho := rfl) (hfn := Try.func77) (hb := rfl) (hconv := ConvRs.refl _ _) (hnd := by decide) (hBl := fun _ => (by kernel_rfl)) (hv := fun _ => (by kernel_rfl)) (hH' := fun _ => (by kernel_rfl)) (h := fun r12 => ?_)
   refine aP 4 (.d (.int .i64 r11)) rfl p_assign ?_
   refine aP 5 (.d (.int .i64 r12)) rfl p_assign ?_
   refine aP 6 (.d (.int .i64 0)) rfl p_assign ?_
   refine aDone (h := ?_)
   refine oSeq ?_
   refine oSR rfl ?_
   refine oP (.ptr 0 0) (k_fieldAddr 0 0 (hu := Try.underlying28) (hf := rfl) (hi := ty22)) ?_
   refine oQ (.d (.lit (List.map e_i64 d0))) (k_load 0 0 (hu := Try.underlying22)) ?_
   refine oP (.d (.int .i64 ((List.length d0) : Int))) (k_lenLit (enc := e_i64) d0 (hu := Try.underlying22)) ?_
   refine oP (.d (.int .i64 0)) p_move ?_
   refine oEnd ?_
   refine bJoin ((fun (far5 : Int) => [(2, .ptr 0 0), (5, .d (.int .i64 r11)), (7, .d (.int .i64 far5))])) ((fun (far5 : Int) => [.box [.d (.int .i64 0), .d (.int .i64 0)]])) (fun s => s) (fun far5 => ?_) (fun hj2 => ?_)
   ·refine oView (T' := [(2, .ptr 0 0), (5, .d (.int .i64 r11)), (7, .d (.int .i64 far5))]) (H' := [.box [.d (.int .i64 0), .d (.int .i64 0)]]) (h := ?_)
    refine oSR rfl ?_
    refine oP (.d (.int .i64 far5)) p_move ?_
    refine oP (.d (.int .i64 r11)) p_move ?_
    refine oP (.d (.int .i64 r11)) p_move ?_
    refine oP (.d (.int .i64 (IntKind.wrap .i64 (r11 * r11)))) (p_int (k := .i64) (p := r11) (q := r11)) ?_
    refine bCall (caps := []) (v := (uc fun (r131 : Int) => (uc fun (r161 : Int) => (fun (r171 : Int) => (.tuple [.agg [.d (.int .i64 r131), .d (.int .i64 r161)], .d (.int .i64 r171)] : V))))) (H' := (uc fun (r131 : Int) => (uc fun (r161 : Int) => (fun (r171 : Int) => ([.box [.d (.int .i64 0), .d (.int .i64 0)]] : List Blk))))) [] _ (ratio_New_goes k far5 (IntKind.wrap .i64 (r11 * r11))) (ho := rfl) (hfn := Try.func61) (hb := rfl) (hconv := ConvRs.refl _ _) (hnd := by decide) (hBl := fun _ => (by kernel_rfl)) (hv := fun _ => (by kernel_rfl)) (hH' := fun _ => (by kernel_rfl)) (h := fun r => ?_)
    obtain ⟨r131, r161, r171⟩ := r
    refine bUc ?_
    refine bUc ?_
    refine oP (.agg [.d (.int .i64 r131), .d (.int .i64 r161)]) k_extract ?_
    refine oP (.d (.int .i64 r171)) k_extract ?_
    refine oD (.undef) (k_store (vs := [.d (.int .i64 r131), .d (.int .i64 r161)]) (H' := [.box [.d (.int .i64 r131), .d (.int .i64 r161)]]) 0 0 (hi := ty38)) ?_
    refine oP (.d (.int .i64 r171)) p_assign ?_
    refine oEnd ?_
    exact oRet (r0 := (r131, r161, r171)) (rv := .tuple [.agg [.d (.int .i64 r131), .d (.int .i64 r161)], .d (.int .i64 r171)]) (B := []) (vs := [.agg [.d (.int .i64 r131), .d (.int .i64 r161)], .d (.int .i64 r171)]) (σ := []) (hf := Try.func44) (hrs := rfl) (hres := .cons _ _ _ _ (.agg 2 38 0 0 [.d (.int .i64 r131), .d (.int .i64 r161)] [.d (.int .i64 r131), .d (.int .i64 r161)] _ _ _ _ (by kernel_rfl) (by kernel_rfl) Try.underlying38 (by kernel_rfl) ty38 (by kernel_rfl) (by kernel_rfl)) (.cons _ _ _ _ (.tmp 3 _ (by kernel_rfl)) .nil)) (hnd := by decide)
   ·refine oBlock ?_
    refine oLoop ?_
    refine oHead [2, 5, 6, 7, 22, 23, 24] [1] (T' := [(2, .ptr 0 0), (5, .d (.int .i64 r11)), (6, .d (.int .i64 r12)), (7, .d (.int .i64 0)), (22, .d (.lit (List.map e_i64 d0))), (23, .d (.int .i64 ((List.length d0) : Int))), (24, .d (.int .i64 0))]) (H' := [.box [.d (.int .i64 0), .d (.int .i64 0)]]) (hnd := by decide) (h := ?_)
    refine bLoop (body := distribution_Deviation_b1 k d0 r11 r12) ((uc fun (far6 : Int) => (fun (x4 : Int) => [(2, .ptr 0 0), (5, .d (.int .i64 r11)), (6, .d (.int .i64 r12)), (7, .d (.int .i64 far6)), (22, .d (.lit (List.map e_i64 d0))), (23, .d (.int .i64 ((List.length d0) : Int))), (24, .d (.int .i64 x4))]))) ((uc fun (far6 : Int) => (fun (x4 : Int) => [.box [.d (.int .i64 0), .d (.int .i64 0)]]))) (fun again hag1 s => ?_) k (0, 0)
    ·unfold distribution_Deviation_b1
     obtain ⟨far6, x4⟩ := s
     refine bUc ?_
     refine oView (T' := [(2, .ptr 0 0), (5, .d (.int .i64 r11)), (6, .d (.int .i64 r12)), (7, .d (.int .i64 far6)), (22, .d (.lit (List.map e_i64 d0))), (23, .d (.int .i64 ((List.length d0) : Int))), (24, .d (.int .i64 x4))]) (H' := [.box [.d (.int .i64 0), .d (.int .i64 0)]]) (h := ?_)
     refine oSR rfl ?_
     refine oP (.d (.bool (decide (x4 < ((List.length d0) : Int))))) (p_int (k := .i64) (p := x4) (q := ((List.length d0) : Int))) ?_
     refine oEnd ?_
     refine oSeq ?_
     refine bSplit 25 (h1 := fun hc => ?_) (h2 := fun hc => ?_)
     ·refine oCondT (h := ?_)
      refine oSkip ?_
      refine oSeq ?_
      refine oBlock ?_
      refine oSR rfl ?_
      refine oP (.d (.int .i64 x4)) p_move ?_
      refine bIdx (fun e113 h126 h127 => ?_)
      refine oP (.lptr (e_i64 e113) 0) (k_idxLit e_i64_len d0 (a := e113) (k := .i64) (i := x4) (hu := Try.underlying22) (hi := ty3) (h0 := h126) (he := h127)) ?_
      refine oQ (.d (.int .i64 e113)) (k_loadL (cells := e_i64 e113) 0 (hu := Try.underlying3)) ?_
      refine oP (.d (.int .i64 x4)) p_assign ?_
      refine oP (.d (.int .i64 e113)) p_assign ?_
      refine oEnd ?_
      refine oSR rfl ?_
      refine oP (.d (.int .i64 x4)) p_move ?_
      refine oP (.d (.int .i64 r11)) p_move ?_
      refine oP (.d (.int .i64 (IntKind.wrap .i64 (x4 * r11)))) (p_int (k := .i64) (p := x4) (q := r11)) ?_
      refine oP (.d (.int .i64 r12)) p_move ?_
      refine oP (.d (.int .i64 (IntKind.wrap .i64 ((IntKind.wrap .i64 (x4 * r11)) - r12)))) (p_int (k := .i64) (p := (IntKind.wrap .i64 (x4 * r11))) (q := r12)) ?_
      refine oP (.d (.int .i64 (IntKind.wrap .i64 ((IntKind.wrap .i64 (x4 * r11)) - r12)))) p_assign ?_
      refine oEnd ?_
      refine oRegion rfl ?_
      refine oP (.d (.int .i64 far6)) p_move ?_
      refine oP (.d (.int .i64 e113)) p_move ?_
      refine oP (.d (.int .i64 (IntKind.wrap .i64 ((IntKind.wrap .i64 (x4 * r11)) - r12)))) p_move ?_
      refine oP (.d (.int .i64 (IntKind.wrap .i64 ((IntKind.wrap .i64 (x4 * r11)) - r12)))) p_move ?_
      refine oP (.d (.int .i64 (IntKind.wrap .i64 (0 - (IntKind.wrap .i64 ((IntKind.wrap .i64 (x4 * r11)) - r12)))))) (p_neg (k := .i64) (p := (IntKind.wrap .i64 ((IntKind.wrap .i64 (x4 * r11)) - r12)))) ?_
      refine oP (.d (.int .i64 (gmax (IntKind.wrap .i64 ((IntKind.wrap .i64 (x4 * r11)) - r12)) (IntKind.wrap .i64 (0 - (IntKind.wrap .i64 ((IntKind.wrap .i64 (x4 * r11)) - r12))))))) (p_max2 (k := .i64) (p := (IntKind.wrap .i64 ((IntKind.wrap .i64 (x4 * r11)) - r12))) (q := (IntKind.wrap .i64 (0 - (IntKind.wrap .i64 ((IntKind.wrap .i64 (x4 * r11)) - r12)))))) ?_
      refine oP (.d (.int .i64 (IntKind.wrap .i64 (e113 * (gmax (IntKind.wrap .i64 ((IntKind.wrap .i64 (x4 * r11)) - r12)) (IntKind.wrap .i64 (0 - (IntKind.wrap .i64 ((IntKind.wrap .i64 (x4 * r11)) - r12))))))))) (p_int (k := .i64) (p := e113) (q := (gmax (IntKind.wrap .i64 ((IntKind.wrap .i64 (x4 * r11)) - r12)) (IntKind.wrap .i64 (0 - (IntKind.wrap .i64 ((IntKind.wrap .i64 (x4 * r11)) - r12))))))) ?_
      refine oP (.d (.int .i64 (IntKind.wrap .i64 (far6 + (IntKind.wrap .i64 (e113 * (gmax (IntKind.wrap .i64 ((IntKind.wrap .i64 (x4 * r11)) - r12)) (IntKind.wrap .i64 (0 - (IntKind.wrap .i64 ((IntKind.wrap .i64 (x4 * r11)) - r12))))))))))) (p_int (k := .i64) (p := far6) (q := (IntKind.wrap .i64 (e113 * (gmax (IntKind.wrap .i64 ((IntKind.wrap .i64 (x4 * r11)) - r12)) (IntKind.wrap .i64 (0 - (IntKind.wrap .i64 ((IntKind.wrap .i64 (x4 * r11)) - r12))))))))) ?_
      refine oP (.d (.int .i64 (IntKind.wrap .i64 (far6 + (IntKind.wrap .i64 (e113 * (gmax (IntKind.wrap .i64 ((IntKind.wrap .i64 (x4 * r11)) - r12)) (IntKind.wrap .i64 (0 - (IntKind.wrap .i64 ((IntKind.wrap .i64 (x4 * r11)) - r12))))))))))) p_assign ?_
      refine oEnd ?_
      refine oBlk ?_
      refine oRegion rfl ?_
      refine oP (.d (.int .i64 (IntKind.wrap .i64 (x4 + 1)))) (p_int (k := .i64) (p := x4) (q := 1)) ?_
      refine oP (.d (.int .i64 (IntKind.wrap .i64 (x4 + 1)))) p_move ?_
      refine oEnd ?_
      refine oAgain ?_
      refine oHead [2, 5, 6, 7, 22, 23, 24] [0] (T' := [(2, .ptr 0 0), (5, .d (.int .i64 r11)), (6, .d (.int .i64 r12)), (7, .d (.int .i64 (IntKind.wrap .i64 (far6 + (IntKind.wrap .i64 (e113 * (gmax (IntKind.wrap .i64 ((IntKind.wrap .i64 (x4 * r11)) - r12)) (IntKind.wrap .i64 (0 - (IntKind.wrap .i64 ((IntKind.wrap .i64 (x4 * r11)) - r12))))))))))), (22, .d (.lit (List.map e_i64 d0))), (23, .d (.int .i64 ((List.length d0) : Int))), (24, .d (.int .i64 (IntKind.wrap .i64 (x4 + 1))))]) (H' := [.box [.d (.int .i64 0), .d (.int .i64 0)]]) (hnd := by decide) (h := ?_)
      exact hag1 ((IntKind.wrap .i64 (far6 + (IntKind.wrap .i64 (e113 * (gmax (IntKind.wrap .i64 ((IntKind.wrap .i64 (x4 * r11)) - r12)) (IntKind.wrap .i64 (0 - (IntKind.wrap .i64 ((IntKind.wrap .i64 (x4 * r11)) - r12))))))))), (IntKind.wrap .i64 (x4 + 1)))
     ·refine oCondF (h := ?_)
      refine oExit rfl ?_
      refine oHead [2, 5, 7] [0] (T' := [(2, .ptr 0 0), (5, .d (.int .i64 r11)), (7, .d (.int .i64 far6))]) (H' := [.box [.d (.int .i64 0), .d (.int .i64 0)]]) (hnd := by decide) (h := ?_)
      exact hj2 far6

/-- awardingbody/equating.Linear -/
def equating_Linear (k : Nat) (x0 : (List Int)) (y0 : (List Int)) : Option ((List SPoint) × Int) := Option.bind (equating_check k x0 y0) (fun r19 => bif (r19 != 0) then some ([], r19) else Option.bind (distribution_Deviation k x0) (uc fun r142 => uc fun r152 => fun r182 => bif (r182 != 0) then some ([], r182) else Option.bind (distribution_Deviation k y0) (uc fun r143 => uc fun r153 => fun r183 => bif (r183 != 0) then some ([], r183) else blet ((r142 == 0) || (r143 == 0)) fun x1 => bif x1 then some ([], 10) else Option.bind (ratio_Div k r143 r153 r142 r152) (uc fun r112 => uc fun r113 => fun r131 => bif (r131 != 0) then some ([], r131) else Option.bind (equating_through k x0 y0 r112 r113) (uc fun r161 => fun r1101 => some (r161, r1101))))))
def equating_Linear_E (x0 : (List Int)) (y0 : (List Int)) : (List SPoint) × Int → V × List Blk := uc fun r12 => fun r17 => (.tuple [.agg [.d (.lit (List.map e_SPoint r12))], .d (.int .i64 r17)], [])
theorem equating_Linear_goes (k : Nat) (x0 : (List Int)) (y0 : (List Int)) : RunsO Try.prog 17 [.agg [.d (.lit (List.map e_i64 x0))], .agg [.d (.lit (List.map e_i64 y0))]] [] (equating_Linear_E x0 y0) (equating_Linear k x0 y0) := by
  refine RunsO.of_goes (N := 61) (m := 0) (T := [(0, .agg [.d (.lit (List.map e_i64 x0))]), (1, .agg [.d (.lit (List.map e_i64 y0))])]) Try.func17 rfl rfl (h := ?_)
  unfold equating_Linear
  refine bStart ?_
  refine oSR rfl ?_
  refine oD (.ptr 0 0) (k_box (H' := [.box [.d (.lit (List.map e_i64 x0))]]) (cells := [.d (.lit (List.map e_i64 x0))])) ?_
  refine oD (.ptr 1 0) (k_box (H' := [.box [.d (.lit (List.map e_i64 x0))], .box [.d (.lit (List.map e_i64 y0))]]) (cells := [.d (.lit (List.map e_i64 y0))])) ?_
  refine oD (.ptr 2 0) (k_alloc (H' := [.box [.d (.lit (List.map e_i64 x0))], .box [.d (.lit (List.map e_i64 y0))], .box [.nilc]]) ty32) ?_
  refine oP (.d (.int .i64 0)) p_assign ?_
  refine oEnd ?_
  refine oSeq ?_
  refine oSR rfl ?_
  refine oQ (.agg [.d (.lit (List.map e_i64 x0))]) (k_loadAgg 0 0 (hu := Try.underlying28) (hi := ty28)) ?_
  refine oQ (.agg [.d (.lit (List.map e_i64 y0))]) (k_loadAgg 1 0 (hu := Try.underlying28) (hi := ty28)) ?_
  refine bCall (caps := []) (v := (fun (r19 : Int) => (.d (.int .i64 r19) : V))) (H' := (fun (r19 : Int) => ([.box [.d (.lit (List.map e_i64 x0))], .box [.d (.lit (List.map e_i64 y0))], .box [.nilc]] : List Blk))) [] _ (equating_check_goes k x0 y0) (ho := rfl) (hfn := Try.func42) (hb := rfl) (hconv := ConvRs.refl _ _) (hnd := by decide) (hBl := fun _ => (by kernel_rfl)) (hv := fun _ => (by kernel_rfl)) (hH' := fun _ => (by kernel_rfl)) (h := fun r19 => ?_)
  refine oP (.d (.int .i64 r19)) p_assign ?_
  refine oEnd ?_
  refine oSR rfl ?_
  refine oP (.d (.int .i64 r19)) p_move ?_
  refine oP (.d (.bool (r19 != 0))) (p_int (k := .i64) (p := r19) (q := 0)) ?_
  refine oEnd ?_
  refine bSplit 15 (h1 := fun hc => ?_) (h2 := fun hc => ?_)
  ·refine oCondT (h := ?_)
   refine oSR rfl ?_
   refine oP (.agg [.nilc]) (p_build bld32) ?_
   refine oP (.d (.int .i64 r19)) p_move ?_
   refine oD (.undef) (k_store (vs := [.nilc]) (H' := [.box [.d (.lit (List.map e_i64 x0))], .box [.d (.lit (List.map e_i64 y0))], .box [.nilc]]) 2 0 (hi := ty32)) ?_
   refine oP (.d (.int .i64 r19)) p_assign ?_
   refine oEnd ?_
   refine oConvB 2 (cells := [.nilc]) (cells' := [.d (.lit (List.map e_SPoint []))]) (hc := .cons _ _ _ _ .nil .nil) (h := ?_)
   refine oView (H' := [.box [.d (.lit (List.map e_i64 x0))], .box [.d (.lit (List.map e_i64 y0))], .box [.d (.lit (List.map e_SPoint []))]]) rfl (h := ?_)
   exact oRet (r0 := ([], r19)) (rv := .tuple [.agg [.d (.lit (List.map e_SPoint []))], .d (.int .i64 r19)]) (B := []) (vs := [.agg [.d (.lit (List.map e_SPoint []))], .d (.int .i64 r19)]) (σ := []) (hf := Try.func17) (hrs := rfl) (hres := .cons _ _ _ _ (.agg 4 32 2 0 [.d (.lit (List.map e_SPoint []))] [.d (.lit (List.map e_SPoint []))] _ _ _ _ (by kernel_rfl) (by kernel_rfl) Try.underlying32 (by kernel_rfl) ty32 (by kernel_rfl) (by kernel_rfl)) (.cons _ _ _ _ (.tmp 5 _ (by kernel_rfl)) .nil)) (hnd := by decide)
  ·refine oCondF (h := ?_)
   refine oSkip ?_
   refine oSR rfl ?_
   refine oQ (.agg [.d (.lit (List.map e_i64 x0))]) (k_loadAgg 0 0 (hu := Try.underlying28) (hi := ty28)) ?_
   refine bCall (caps := []) (v := (uc fun (r142 : Int) => (uc fun (r152 : Int) => (fun (r182 : Int) => (.tuple [.agg [.d (.int .i64 r142), .d (.int .i64 r152)], .d (.int .i64 r182)] : V))))) (H' := (uc fun (r142 : Int) => (uc fun (r152 : Int) => (fun (r182 : Int) => ([.box [.d (.lit (List.map e_i64 x0))], .box [.d (.lit (List.map e_i64 y0))], .box [.nilc]] : List Blk))))) [] _ (distribution_Deviation_goes k x0) (ho := rfl) (hfn := Try.func44) (hb := rfl) (hconv := ConvRs.refl _ _) (hnd := by decide) (hBl := fun _ => (by kernel_rfl)) (hv := fun _ => (by kernel_rfl)) (hH' := fun _ => (by kernel_rfl)) (h := fun r => ?_)
   obtain ⟨r142, r152, r182⟩ := r
   refine bUc ?_
   refine bUc ?_
   refine oP (.tuple [.agg [.d (.int .i64 r142), .d (.int .i64 r152)], .d (.int .i64 r182)]) p_move ?_
   refine oP (.agg [.d (.int .i64 r142), .d (.int .i64 r152)]) k_extract ?_
   refine oP (.d (.int .i64 r182)) k_extract ?_
   refine oD (.ptr 3 0) (k_alloc (H' := [.box [.d (.lit (List.map e_i64 x0))], .box [.d (.lit (List.map e_i64 y0))], .box [.nilc], .box [.d (.int .i64 0), .d (.int .i64 0)]]) ty38) ?_
   refine oD (.undef) (k_store (vs := [.d (.int .i64 r142), .d (.int .i64 r152)]) (H' := [.box [.d (.lit (List.map e_i64 x0))], .box [.d (.lit (List.map e_i64 y0))], .box [.nilc], .box [.d (.int .i64 r142), .d (.int .i64 r152)]]) 3 0 (hi := ty38)) ?_
   refine oP (.d (.int .i64 r182)) p_assign ?_
   refine oEnd ?_
   refine oSeq ?_
   refine oSR rfl ?_
   refine oP (.d (.int .i64 r182)) p_move ?_
   refine oP (.d (.bool (r182 != 0))) (p_int (k := .i64) (p := r182) (q := 0)) ?_
   refine oEnd ?_
   refine bSplit 24 (h1 := fun hc => ?_) (h2 := fun hc => ?_)
   ·refine oCondT (h := ?_)
    refine oSR rfl ?_
    refine oP (.agg [.nilc]) (p_build bld32) ?_
    refine oP (.d (.int .i64 r182)) p_move ?_
    refine oD (.undef) (k_store (vs := [.nilc]) (H' := [.box [.d (.lit (List.map e_i64 x0))], .box [.d (.lit (List.map e_i64 y0))], .box [.nilc], .box [.d (.int .i64 r142), .d (.int .i64 r152)]]) 2 0 (hi := ty32)) ?_
    refine oP (.d (.int .i64 r182)) p_assign ?_
    refine oEnd ?_
    refine oConvB 2 (cells := [.nilc]) (cells' := [.d (.lit (List.map e_SPoint []))]) (hc := .cons _ _ _ _ .nil .nil) (h := ?_)
    refine oView (H' := [.box [.d (.lit (List.map e_i64 x0))], .box [.d (.lit (List.map e_i64 y0))], .box [.d (.lit (List.map e_SPoint []))], .box [.d (.int .i64 r142), .d (.int .i64 r152)]]) rfl (h := ?_)
    exact oRet (r0 := ([], r182)) (rv := .tuple [.agg [.d (.lit (List.map e_SPoint []))], .d (.int .i64 r182)]) (B := []) (vs := [.agg [.d (.lit (List.map e_SPoint []))], .d (.int .i64 r182)]) (σ := []) (hf := Try.func17) (hrs := rfl) (hres := .cons _ _ _ _ (.agg 4 32 2 0 [.d (.lit (List.map e_SPoint []))] [.d (.lit (List.map e_SPoint []))] _ _ _ _ (by kernel_rfl) (by kernel_rfl) Try.underlying32 (by kernel_rfl) ty32 (by kernel_rfl) (by kernel_rfl)) (.cons _ _ _ _ (.tmp 5 _ (by kernel_rfl)) .nil)) (hnd := by decide)
   ·refine oCondF (h := ?_)
    refine oSkip ?_
    refine oSR rfl ?_
    refine oQ (.agg [.d (.lit (List.map e_i64 y0))]) (k_loadAgg 1 0 (hu := Try.underlying28) (hi := ty28)) ?_
    refine bCall (caps := []) (v := (uc fun (r143 : Int) => (uc fun (r153 : Int) => (fun (r183 : Int) => (.tuple [.agg [.d (.int .i64 r143), .d (.int .i64 r153)], .d (.int .i64 r183)] : V))))) (H' := (uc fun (r143 : Int) => (uc fun (r153 : Int) => (fun (r183 : Int) => ([.box [.d (.lit (List.map e_i64 x0))], .box [.d (.lit (List.map e_i64 y0))], .box [.nilc], .box [.d (.int .i64 r142), .d (.int .i64 r152)]] : List Blk))))) [] _ (distribution_Deviation_goes k y0) (ho := rfl) (hfn := Try.func44) (hb := rfl) (hconv := ConvRs.refl _ _) (hnd := by decide) (hBl := fun _ => (by kernel_rfl)) (hv := fun _ => (by kernel_rfl)) (hH' := fun _ => (by kernel_rfl)) (h := fun r => ?_)
    obtain ⟨r143, r153, r183⟩ := r
    refine bUc ?_
    refine bUc ?_
    refine oP (.tuple [.agg [.d (.int .i64 r143), .d (.int .i64 r153)], .d (.int .i64 r183)]) p_move ?_
    refine oP (.agg [.d (.int .i64 r143), .d (.int .i64 r153)]) k_extract ?_
    refine oP (.d (.int .i64 r183)) k_extract ?_
    refine oD (.ptr 4 0) (k_alloc (H' := [.box [.d (.lit (List.map e_i64 x0))], .box [.d (.lit (List.map e_i64 y0))], .box [.nilc], .box [.d (.int .i64 r142), .d (.int .i64 r152)], .box [.d (.int .i64 0), .d (.int .i64 0)]]) ty38) ?_
    refine oD (.undef) (k_store (vs := [.d (.int .i64 r143), .d (.int .i64 r153)]) (H' := [.box [.d (.lit (List.map e_i64 x0))], .box [.d (.lit (List.map e_i64 y0))], .box [.nilc], .box [.d (.int .i64 r142), .d (.int .i64 r152)], .box [.d (.int .i64 r143), .d (.int .i64 r153)]]) 4 0 (hi := ty38)) ?_
    refine oP (.d (.int .i64 r183)) p_assign ?_
    refine oEnd ?_
    refine oSeq ?_
    refine oSR rfl ?_
    refine oP (.d (.int .i64 r183)) p_move ?_
    refine oP (.d (.bool (r183 != 0))) (p_int (k := .i64) (p := r183) (q := 0)) ?_
    refine oEnd ?_
    refine bSplit 33 (h1 := fun hc => ?_) (h2 := fun hc => ?_)
    ·refine oCondT (h := ?_)
     refine oSR rfl ?_
     refine oP (.agg [.nilc]) (p_build bld32) ?_
     refine oP (.d (.int .i64 r183)) p_move ?_
     refine oD (.undef) (k_store (vs := [.nilc]) (H' := [.box [.d (.lit (List.map e_i64 x0))], .box [.d (.lit (List.map e_i64 y0))], .box [.nilc], .box [.d (.int .i64 r142), .d (.int .i64 r152)], .box [.d (.int .i64 r143), .d (.int .i64 r153)]]) 2 0 (hi := ty32)) ?_
     refine oP (.d (.int .i64 r183)) p_assign ?_
     refine oEnd ?_
     refine oConvB 2 (cells := [.nilc]) (cells' := [.d (.lit (List.map e_SPoint []))]) (hc := .cons _ _ _ _ .nil .nil) (h := ?_)
     refine oView (H' := [.box [.d (.lit (List.map e_i64 x0))], .box [.d (.lit (List.map e_i64 y0))], .box [.d (.lit (List.map e_SPoint []))], .box [.d (.int .i64 r142), .d (.int .i64 r152)], .box [.d (.int .i64 r143), .d (.int .i64 r153)]]) rfl (h := ?_)
     exact oRet (r0 := ([], r183)) (rv := .tuple [.agg [.d (.lit (List.map e_SPoint []))], .d (.int .i64 r183)]) (B := []) (vs := [.agg [.d (.lit (List.map e_SPoint []))], .d (.int .i64 r183)]) (σ := []) (hf := Try.func17) (hrs := rfl) (hres := .cons _ _ _ _ (.agg 4 32 2 0 [.d (.lit (List.map e_SPoint []))] [.d (.lit (List.map e_SPoint []))] _ _ _ _ (by kernel_rfl) (by kernel_rfl) Try.underlying32 (by kernel_rfl) ty32 (by kernel_rfl) (by kernel_rfl)) (.cons _ _ _ _ (.tmp 5 _ (by kernel_rfl)) .nil)) (hnd := by decide)
    ·refine oCondF (h := ?_)
     refine oSkip ?_
     refine oSeq ?_
     refine oSR rfl ?_
     refine oP (.ptr 3 0) (k_fieldAddr 3 0 (hu := Try.underlying38) (hf := rfl) (hi := ty3)) ?_
     refine oQ (.d (.int .i64 r142)) (k_load 3 0 (hu := Try.underlying3)) ?_
     refine oP (.d (.bool (r142 == 0))) (p_int (k := .i64) (p := r142) (q := 0)) ?_
     refine oP (.d (.bool (r142 == 0))) p_move ?_
     refine bMeetF (H' := [.box [.d (.lit (List.map e_i64 x0))], .box [.d (.lit (List.map e_i64 y0))], .box [.nilc], .box [.d (.int .i64 r142), .d (.int .i64 r152)], .box [.d (.int .i64 r143), .d (.int .i64 r153)]]) 4 rfl ((fun (x1 : Bool) => [(2, .ptr 0 0), (3, .ptr 1 0), (4, .ptr 2 0), (7, .ptr 3 0), (9, .ptr 4 0), (43, .d (.bool x1))])) (fun x1 => ?_) (fun F hj1 => ?_)
     ·refine oView (T' := [(2, .ptr 0 0), (3, .ptr 1 0), (4, .ptr 2 0), (7, .ptr 3 0), (9, .ptr 4 0), (43, .d (.bool x1))]) (H' := [.box [.d (.lit (List.map e_i64 x0))], .box [.d (.lit (List.map e_i64 y0))], .box [.nilc], .box [.d (.int .i64 r142), .d (.int .i64 r152)], .box [.d (.int .i64 r143), .d (.int .i64 r153)]]) (h := ?_)
      refine oEnd ?_
      refine bSplit 43 (h1 := fun hc => ?_) (h2 := fun hc => ?_)
      ·refine oCondT (h := ?_)
       refine oSR rfl ?_
       refine oP (.agg [.nilc]) (p_build bld32) ?_
       refine oD (.undef) (k_store (vs := [.nilc]) (H' := [.box [.d (.lit (List.map e_i64 x0))], .box [.d (.lit (List.map e_i64 y0))], .box [.nilc], .box [.d (.int .i64 r142), .d (.int .i64 r152)], .box [.d (.int .i64 r143), .d (.int .i64 r153)]]) 2 0 (hi := ty32)) ?_
       refine oP (.d (.int .i64 10)) p_assign ?_
       refine oEnd ?_
       refine oConvB 2 (cells := [.nilc]) (cells' := [.d (.lit (List.map e_SPoint []))]) (hc := .cons _ _ _ _ .nil .nil) (h := ?_)
       refine oView (H' := [.box [.d (.lit (List.map e_i64 x0))], .box [.d (.lit (List.map e_i64 y0))], .box [.d (.lit (List.map e_SPoint []))], .box [.d (.int .i64 r142), .d (.int .i64 r152)], .box [.d (.int .i64 r143), .d (.int .i64 r153)]]) rfl (h := ?_)
       exact oRet (r0 := ([], 10)) (rv := .tuple [.agg [.d (.lit (List.map e_SPoint []))], .d (.int .i64 10)]) (B := []) (vs := [.agg [.d (.lit (List.map e_SPoint []))], .d (.int .i64 10)]) (σ := []) (hf := Try.func17) (hrs := rfl) (hres := .cons _ _ _ _ (.agg 4 32 2 0 [.d (.lit (List.map e_SPoint []))] [.d (.lit (List.map e_SPoint []))] _ _ _ _ (by kernel_rfl) (by kernel_rfl) Try.underlying32 (by kernel_rfl) ty32 (by kernel_rfl) (by kernel_rfl)) (.cons _ _ _ _ (.tmp 5 _ (by kernel_rfl)) .nil)) (hnd := by decide)
      ·refine oCondF (h := ?_)
       refine oSkip ?_
       refine oSR rfl ?_
       refine oQ (.agg [.d (.int .i64 r143), .d (.int .i64 r153)]) (k_loadAgg 4 0 (hu := Try.underlying38) (hi := ty38)) ?_
       refine oQ (.agg [.d (.int .i64 r142), .d (.int .i64 r152)]) (k_loadAgg 3 0 (hu := Try.underlying38) (hi := ty38)) ?_
       refine bCall (caps := []) (v := (uc fun (r112 : Int) => (uc fun (r113 : Int) => (fun (r131 : Int) => (.tuple [.agg [.d (.int .i64 r112), .d (.int .i64 r113)], .d (.int .i64 r131)] : V))))) (H' := (uc fun (r112 : Int) => (uc fun (r113 : Int) => (fun (r131 : Int) => ([.box [.d (.lit (List.map e_i64 x0))], .box [.d (.lit (List.map e_i64 y0))], .box [.nilc], .box [.d (.int .i64 r142), .d (.int .i64 r152)], .box [.d (.int .i64 r143), .d (.int .i64 r153)]] : List Blk))))) [] _ (ratio_Div_goes k r143 r153 r142 r152) (ho := rfl) (hfn := Try.func45) (hb := rfl) (hconv := ConvRs.refl _ _) (hnd := by decide) (hBl := fun _ => (by kernel_rfl)) (hv := fun _ => (by kernel_rfl)) (hH' := fun _ => (by kernel_rfl)) (h := fun r => ?_)
       obtain ⟨r112, r113, r131⟩ := r
       refine bUc ?_
       refine bUc ?_
       refine oP (.tuple [.agg [.d (.int .i64 r112), .d (.int .i64 r113)], .d (.int .i64 r131)]) p_move ?_
       refine oP (.agg [.d (.int .i64 r112), .d (.int .i64 r113)]) k_extract ?_
       refine oP (.d (.int .i64 r131)) k_extract ?_
       refine oD (.ptr 5 0) (k_alloc (H' := [.box [.d (.lit (List.map e_i64 x0))], .box [.d (.lit (List.map e_i64 y0))], .box [.nilc], .box [.d (.int .i64 r142), .d (.int .i64 r152)], .box [.d (.int .i64 r143), .d (.int .i64 r153)], .box [.d (.int .i64 0), .d (.int .i64 0)]]) ty38) ?_
       refine oD (.undef) (k_store (vs := [.d (.int .i64 r112), .d (.int .i64 r113)]) (H' := [.box [.d (.lit (List.map e_i64 x0))], .box [.d (.lit (List.map e_i64 y0))], .box [.nilc], .box [.d (.int .i64 r142), .d (.int .i64 r152)], .box [.d (.int .i64 r143), .d (.int .i64 r153)], .box [.d (.int .i64 r112), .d (.int .i64 r113)]]) 5 0 (hi := ty38)) ?_
       refine oP (.d (.int .i64 r131)) p_assign ?_
       refine oEnd ?_
       refine oSeq ?_
       refine oSR rfl ?_
       refine oP (.d (.int .i64 r131)) p_move ?_
       refine oP (.d (.bool (r131 != 0))) (p_int (k := .i64) (p := r131) (q := 0)) ?_
       refine oEnd ?_
       refine bSplit 52 (h1 := fun hc => ?_) (h2 := fun hc => ?_)
       ·refine oCondT (h := ?_)
        refine oSR rfl ?_
        refine oP (.agg [.nilc]) (p_build bld32) ?_
        refine oP (.d (.int .i64 r131)) p_move ?_
        refine oD (.undef) (k_store (vs := [.nilc]) (H' := [.box [.d (.lit (List.map e_i64 x0))], .box [.d (.lit (List.map e_i64 y0))], .box [.nilc], .box [.d (.int .i64 r142), .d (.int .i64 r152)], .box [.d (.int .i64 r143), .d (.int .i64 r153)], .box [.d (.int .i64 r112), .d (.int .i64 r113)]]) 2 0 (hi := ty32)) ?_
        refine oP (.d (.int .i64 r131)) p_assign ?_
        refine oEnd ?_
        refine oConvB 2 (cells := [.nilc]) (cells' := [.d (.lit (List.map e_SPoint []))]) (hc := .cons _ _ _ _ .nil .nil) (h := ?_)
        refine oView (H' := [.box [.d (.lit (List.map e_i64 x0))], .box [.d (.lit (List.map e_i64 y0))], .box [.d (.lit (List.map e_SPoint []))], .box [.d (.int .i64 r142), .d (.int .i64 r152)], .box [.d (.int .i64 r143), .d (.int .i64 r153)], .box [.d (.int .i64 r112), .d (.int .i64 r113)]]) rfl (h := ?_)
        exact oRet (r0 := ([], r131)) (rv := .tuple [.agg [.d (.lit (List.map e_SPoint []))], .d (.int .i64 r131)]) (B := []) (vs := [.agg [.d (.lit (List.map e_SPoint []))], .d (.int .i64 r131)]) (σ := []) (hf := Try.func17) (hrs := rfl) (hres := .cons _ _ _ _ (.agg 4 32 2 0 [.d (.lit (List.map e_SPoint []))] [.d (.lit (List.map e_SPoint []))] _ _ _ _ (by kernel_rfl) (by kernel_rfl) Try.underlying32 (by kernel_rfl) ty32 (by kernel_rfl) (by kernel_rfl)) (.cons _ _ _ _ (.tmp 5 _ (by kernel_rfl)) .nil)) (hnd := by decide)
       ·refine oCondF (h := ?_)
        refine oSkip ?_
        refine oSR rfl ?_
        refine oQ (.agg [.d (.lit (List.map e_i64 x0))]) (k_loadAgg 0 0 (hu := Try.underlying28) (hi := ty28)) ?_
        refine oQ (.agg [.d (.lit (List.map e_i64 y0))]) (k_loadAgg 1 0 (hu := Try.underlying28) (hi := ty28)) ?_
        refine oQ (.agg [.d (.int .i64 r112), .d (.int .i64 r113)]) (k_loadAgg 5 0 (hu := Try.underlying38) (hi := ty38)) ?_
        refine bCall (caps := []) (v := (uc fun (r161 : (List SPoint)) => (fun (r1101 : Int) => (.tuple [.agg [.d (.lit (List.map e_SPoint r161))], .d (.int .i64 r1101)] : V)))) (H' := (uc fun (r161 : (List SPoint)) => (fun (r1101 : Int) => ([.box [.d (.lit (List.map e_i64 x0))], .box [.d (.lit (List.map e_i64 y0))], .box [.nilc], .box [.d (.int .i64 r142), .d (.int .i64 r152)], .box [.d (.int .i64 r143), .d (.int .i64 r153)], .box [.d (.int .i64 r112), .d (.int .i64 r113)]] : List Blk)))) [] _ (equating_through_goes k x0 y0 r112 r113) (ho := rfl) (hfn := Try.func43) (hb := rfl) (hconv := ConvRs.refl _ _) (hnd := by decide) (hBl := fun _ => (by kernel_rfl)) (hv := fun _ => (by kernel_rfl)) (hH' := fun _ => (by kernel_rfl)) (h := fun r => ?_)
        obtain ⟨r161, r1101⟩ := r
        refine bUc ?_
        refine oP (.agg [.d (.lit (List.map e_SPoint r161))]) k_extract ?_
        refine oP (.d (.int .i64 r1101)) k_extract ?_
        refine oD (.undef) (k_store (vs := [.d (.lit (List.map e_SPoint r161))]) (H' := [.box [.d (.lit (List.map e_i64 x0))], .box [.d (.lit (List.map e_i64 y0))], .box [.d (.lit (List.map e_SPoint r161))], .box [.d (.int .i64 r142), .d (.int .i64 r152)], .box [.d (.int .i64 r143), .d (.int .i64 r153)], .box [.d (.int .i64 r112), .d (.int .i64 r113)]]) 2 0 (hi := ty32)) ?_
        refine oP (.d (.int .i64 r1101)) p_assign ?_
        refine oEnd ?_
        exact oRet (r0 := (r161, r1101)) (rv := .tuple [.agg [.d (.lit (List.map e_SPoint r161))], .d (.int .i64 r1101)]) (B := []) (vs := [.agg [.d (.lit (List.map e_SPoint r161))], .d (.int .i64 r1101)]) (σ := []) (hf := Try.func17) (hrs := rfl) (hres := .cons _ _ _ _ (.agg 4 32 2 0 [.d (.lit (List.map e_SPoint r161))] [.d (.lit (List.map e_SPoint r161))] _ _ _ _ (by kernel_rfl) (by kernel_rfl) Try.underlying32 (by kernel_rfl) ty32 (by kernel_rfl) (by kernel_rfl)) (.cons _ _ _ _ (.tmp 5 _ (by kernel_rfl)) .nil)) (hnd := by decide)
     ·refine bPickF 39 (fun c => F (c || (r143 == 0))) (h1 := fun hc => ?_) (h2 := fun hc => ?_)
      ·refine oNot (h := ?_)
       refine oNot (h := ?_)
       refine oNot (h := ?_)
       refine oP (.d (.bool true)) (p_pick (b := true)) ?_
       refine oHead [2, 3, 4, 7, 9, 43] [0, 1, 2, 3, 4] (T' := [(2, .ptr 0 0), (3, .ptr 1 0), (4, .ptr 2 0), (7, .ptr 3 0), (9, .ptr 4 0), (43, .d (.bool true))]) (H' := [.box [.d (.lit (List.map e_i64 x0))], .box [.d (.lit (List.map e_i64 y0))], .box [.nilc], .box [.d (.int .i64 r142), .d (.int .i64 r152)], .box [.d (.int .i64 r143), .d (.int .i64 r153)]]) (hnd := by decide) (h := ?_)
       exact hj1 true
      ·refine oP (.ptr 4 0) (k_fieldAddr 4 0 (hu := Try.underlying38) (hf := rfl) (hi := ty3)) ?_
       refine oQ (.d (.int .i64 r143)) (k_load 4 0 (hu := Try.underlying3)) ?_
       refine oP (.d (.bool (r143 == 0))) (p_int (k := .i64) (p := r143) (q := 0)) ?_
       refine oP (.d (.bool (r143 == 0))) (p_pick (b := false)) ?_
       refine oHead [2, 3, 4, 7, 9, 43] [0, 1, 2, 3, 4] (T' := [(2, .ptr 0 0), (3, .ptr 1 0), (4, .ptr 2 0), (7, .ptr 3 0), (9, .ptr 4 0), (43, .d (.bool (r143 == 0)))]) (H' := [.box [.d (.lit (List.map e_i64 x0))], .box [.d (.lit (List.map e_i64 y0))], .box [.nilc], .box [.d (.int .i64 r142), .d (.int .i64 r152)], .box [.d (.int .i64 r143), .d (.int .i64 r153)]]) (hnd := by decide) (h := ?_)
       exact hj1 (r143 == 0)

/-- awardingbody/equating.Equate -/
def equating_Equate (k : Nat) (kind : Int) (x0 : (List Int)) (y0 : (List Int)) : Option ((List SPoint) × Int) := bif (kind == 0) then Option.bind (equating_Mean k x0 y0) (uc fun r115 => fun r1211 => some (r115, r1211)) else bif (kind == 1) then Option.bind (equating_Linear k x0 y0) (uc fun r1213 => fun r177 => some (r1213, r177)) else bif (kind == 2) then Option.bind (equating_Percentile k x0 y0) (uc fun r189 => fun r199 => some (r189, r199)) else some ([], 2)
def equating_Equate_E (kind : Int) (x0 : (List Int)) (y0 : (List Int)) : (List SPoint) × Int → V × List Blk := uc fun r1 => fun r13 => (.tuple [.agg [.d (.lit (List.map e_SPoint r1))], .d (.int .i64 r13)], [])
theorem equating_Equate_goes (k : Nat) (kind : Int) (x0 : (List Int)) (y0 : (List Int)) : RunsO Try.prog 23 [.d (.int .i64 kind), .agg [.d (.lit (List.map e_i64 x0))], .agg [.d (.lit (List.map e_i64 y0))]] [] (equating_Equate_E kind x0 y0) (equating_Equate k kind x0 y0) := by
  refine RunsO.of_goes (N := 31) (m := 0) (T := [(0, .d (.int .i64 kind)), (1, .agg [.d (.lit (List.map e_i64 x0))]), (2, .agg [.d (.lit (List.map e_i64 y0))])]) Try.func23 rfl rfl (h := ?_)
  unfold equating_Equate
  refine bStart ?_
  refine oSR rfl ?_
  refine oD (.ptr 0 0) (k_box (H' := [.box [.d (.lit (List.map e_i64 x0))]]) (cells := [.d (.lit (List.map e_i64 x0))])) ?_
  refine oD (.ptr 1 0) (k_box (H' := [.box [.d (.lit (List.map e_i64 x0))], .box [.d (.lit (List.map e_i64 y0))]]) (cells := [.d (.lit (List.map e_i64 y0))])) ?_
  refine oD (.ptr 2 0) (k_alloc (H' := [.box [.d (.lit (List.map e_i64 x0))], .box [.d (.lit (List.map e_i64 y0))], .box [.nilc]]) ty32) ?_
  refine oP (.d (.int .i64 0)) p_assign ?_
  refine oEnd ?_
  refine oSeq ?_
  refine oSR rfl ?_
  refine oP (.d (.int .i64 kind)) p_move ?_
  refine oEnd ?_
  refine oBlock ?_
  refine oSR rfl ?_
  refine oP (.d (.bool (kind == 0))) (p_int (k := .i64) (p := kind) (q := 0)) ?_
  refine oP (.d (.bool (kind == 0))) p_assign ?_
  refine oEnd ?_
  refine bSplit 9 (h1 := fun hc => ?_) (h2 := fun hc => ?_)
  ·refine oCondT (h := ?_)
   refine oSR rfl ?_
   refine oQ (.agg [.d (.lit (List.map e_i64 x0))]) (k_loadAgg 0 0 (hu := Try.underlying28) (hi := ty28)) ?_
   refine oQ (.agg [.d (.lit (List.map e_i64 y0))]) (k_loadAgg 1 0 (hu := Try.underlying28) (hi := ty28)) ?_
   refine bCall (caps := []) (v := (uc fun (r115 : (List SPoint)) => (fun (r1211 : Int) => (.tuple [.agg [.d (.lit (List.map e_SPoint r115))], .d (.int .i64 r1211)] : V)))) (H' := (uc fun (r115 : (List SPoint)) => (fun (r1211 : Int) => ([.box [.d (.lit (List.map e_i64 x0))], .box [.d (.lit (List.map e_i64 y0))], .box [.nilc]] : List Blk)))) [] _ (equating_Mean_goes k x0 y0) (ho := rfl) (hfn := Try.func16) (hb := rfl) (hconv := ConvRs.refl _ _) (hnd := by decide) (hBl := fun _ => (by kernel_rfl)) (hv := fun _ => (by kernel_rfl)) (hH' := fun _ => (by kernel_rfl)) (h := fun r => ?_)
   obtain ⟨r115, r1211⟩ := r
   refine bUc ?_
   refine oP (.agg [.d (.lit (List.map e_SPoint r115))]) k_extract ?_
   refine oP (.d (.int .i64 r1211)) k_extract ?_
   refine oD (.undef) (k_store (vs := [.d (.lit (List.map e_SPoint r115))]) (H' := [.box [.d (.lit (List.map e_i64 x0))], .box [.d (.lit (List.map e_i64 y0))], .box [.d (.lit (List.map e_SPoint r115))]]) 2 0 (hi := ty32)) ?_
   refine oP (.d (.int .i64 r1211)) p_assign ?_
   refine oEnd ?_
   exact oRet (r0 := (r115, r1211)) (rv := .tuple [.agg [.d (.lit (List.map e_SPoint r115))], .d (.int .i64 r1211)]) (B := []) (vs := [.agg [.d (.lit (List.map e_SPoint r115))], .d (.int .i64 r1211)]) (σ := []) (hf := Try.func23) (hrs := rfl) (hres := .cons _ _ _ _ (.agg 6 32 2 0 [.d (.lit (List.map e_SPoint r115))] [.d (.lit (List.map e_SPoint r115))] _ _ _ _ (by kernel_rfl) (by kernel_rfl) Try.underlying32 (by kernel_rfl) ty32 (by kernel_rfl) (by kernel_rfl)) (.cons _ _ _ _ (.tmp 7 _ (by kernel_rfl)) .nil)) (hnd := by decide)
  ·refine oCondF (h := ?_)
   refine oSR rfl ?_
   refine oP (.d (.bool (kind == 1))) (p_int (k := .i64) (p := kind) (q := 1)) ?_
   refine oP (.d (.bool (kind == 1))) p_assign ?_
   refine oEnd ?_
   refine bSplit 16 (h1 := fun hc => ?_) (h2 := fun hc => ?_)
   ·refine oCondT (h := ?_)
    refine oSR rfl ?_
    refine oQ (.agg [.d (.lit (List.map e_i64 x0))]) (k_loadAgg 0 0 (hu := Try.underlying28) (hi := ty28)) ?_
    refine oQ (.agg [.d (.lit (List.map e_i64 y0))]) (k_loadAgg 1 0 (hu := Try.underlying28) (hi := ty28)) ?_
    refine bCall (caps := []) (v := (uc fun (r1213 : (List SPoint)) => (fun (r177 : Int) => (.tuple [.agg [.d (.lit (List.map e_SPoint r1213))], .d (.int .i64 r177)] : V)))) (H' := (uc fun (r1213 : (List SPoint)) => (fun (r177 : Int) => ([.box [.d (.lit (List.map e_i64 x0))], .box [.d (.lit (List.map e_i64 y0))], .box [.nilc]] : List Blk)))) [] _ (equating_Linear_goes k x0 y0) (ho := rfl) (hfn := Try.func17) (hb := rfl) (hconv := ConvRs.refl _ _) (hnd := by decide) (hBl := fun _ => (by kernel_rfl)) (hv := fun _ => (by kernel_rfl)) (hH' := fun _ => (by kernel_rfl)) (h := fun r => ?_)
    obtain ⟨r1213, r177⟩ := r
    refine bUc ?_
    refine oP (.agg [.d (.lit (List.map e_SPoint r1213))]) k_extract ?_
    refine oP (.d (.int .i64 r177)) k_extract ?_
    refine oD (.undef) (k_store (vs := [.d (.lit (List.map e_SPoint r1213))]) (H' := [.box [.d (.lit (List.map e_i64 x0))], .box [.d (.lit (List.map e_i64 y0))], .box [.d (.lit (List.map e_SPoint r1213))]]) 2 0 (hi := ty32)) ?_
    refine oP (.d (.int .i64 r177)) p_assign ?_
    refine oEnd ?_
    exact oRet (r0 := (r1213, r177)) (rv := .tuple [.agg [.d (.lit (List.map e_SPoint r1213))], .d (.int .i64 r177)]) (B := []) (vs := [.agg [.d (.lit (List.map e_SPoint r1213))], .d (.int .i64 r177)]) (σ := []) (hf := Try.func23) (hrs := rfl) (hres := .cons _ _ _ _ (.agg 6 32 2 0 [.d (.lit (List.map e_SPoint r1213))] [.d (.lit (List.map e_SPoint r1213))] _ _ _ _ (by kernel_rfl) (by kernel_rfl) Try.underlying32 (by kernel_rfl) ty32 (by kernel_rfl) (by kernel_rfl)) (.cons _ _ _ _ (.tmp 7 _ (by kernel_rfl)) .nil)) (hnd := by decide)
   ·refine oCondF (h := ?_)
    refine oSR rfl ?_
    refine oP (.d (.bool (kind == 2))) (p_int (k := .i64) (p := kind) (q := 2)) ?_
    refine oP (.d (.bool (kind == 2))) p_assign ?_
    refine oEnd ?_
    refine bSplit 23 (h1 := fun hc => ?_) (h2 := fun hc => ?_)
    ·refine oCondT (h := ?_)
     refine oSR rfl ?_
     refine oQ (.agg [.d (.lit (List.map e_i64 x0))]) (k_loadAgg 0 0 (hu := Try.underlying28) (hi := ty28)) ?_
     refine oQ (.agg [.d (.lit (List.map e_i64 y0))]) (k_loadAgg 1 0 (hu := Try.underlying28) (hi := ty28)) ?_
     refine bCall (caps := []) (v := (uc fun (r189 : (List SPoint)) => (fun (r199 : Int) => (.tuple [.agg [.d (.lit (List.map e_SPoint r189))], .d (.int .i64 r199)] : V)))) (H' := (uc fun (r189 : (List SPoint)) => (fun (r199 : Int) => ([.box [.d (.lit (List.map e_i64 x0))], .box [.d (.lit (List.map e_i64 y0))], .box [.nilc]] : List Blk)))) [] _ (equating_Percentile_goes k x0 y0) (ho := rfl) (hfn := Try.func11) (hb := rfl) (hconv := ConvRs.refl _ _) (hnd := by decide) (hBl := fun _ => (by kernel_rfl)) (hv := fun _ => (by kernel_rfl)) (hH' := fun _ => (by kernel_rfl)) (h := fun r => ?_)
     obtain ⟨r189, r199⟩ := r
     refine bUc ?_
     refine oP (.agg [.d (.lit (List.map e_SPoint r189))]) k_extract ?_
     refine oP (.d (.int .i64 r199)) k_extract ?_
     refine oD (.undef) (k_store (vs := [.d (.lit (List.map e_SPoint r189))]) (H' := [.box [.d (.lit (List.map e_i64 x0))], .box [.d (.lit (List.map e_i64 y0))], .box [.d (.lit (List.map e_SPoint r189))]]) 2 0 (hi := ty32)) ?_
     refine oP (.d (.int .i64 r199)) p_assign ?_
     refine oEnd ?_
     exact oRet (r0 := (r189, r199)) (rv := .tuple [.agg [.d (.lit (List.map e_SPoint r189))], .d (.int .i64 r199)]) (B := []) (vs := [.agg [.d (.lit (List.map e_SPoint r189))], .d (.int .i64 r199)]) (σ := []) (hf := Try.func23) (hrs := rfl) (hres := .cons _ _ _ _ (.agg 6 32 2 0 [.d (.lit (List.map e_SPoint r189))] [.d (.lit (List.map e_SPoint r189))] _ _ _ _ (by kernel_rfl) (by kernel_rfl) Try.underlying32 (by kernel_rfl) ty32 (by kernel_rfl) (by kernel_rfl)) (.cons _ _ _ _ (.tmp 7 _ (by kernel_rfl)) .nil)) (hnd := by decide)
    ·refine oCondF (h := ?_)
     refine oSkip ?_
     refine oBlk ?_
     refine oSR rfl ?_
     refine oP (.agg [.nilc]) (p_build bld32) ?_
     refine oD (.undef) (k_store (vs := [.nilc]) (H' := [.box [.d (.lit (List.map e_i64 x0))], .box [.d (.lit (List.map e_i64 y0))], .box [.nilc]]) 2 0 (hi := ty32)) ?_
     refine oP (.d (.int .i64 2)) p_assign ?_
     refine oEnd ?_
     refine oConvB 2 (cells := [.nilc]) (cells' := [.d (.lit (List.map e_SPoint []))]) (hc := .cons _ _ _ _ .nil .nil) (h := ?_)
     refine oView (H' := [.box [.d (.lit (List.map e_i64 x0))], .box [.d (.lit (List.map e_i64 y0))], .box [.d (.lit (List.map e_SPoint []))]]) rfl (h := ?_)
     exact oRet (r0 := ([], 2)) (rv := .tuple [.agg [.d (.lit (List.map e_SPoint []))], .d (.int .i64 2)]) (B := []) (vs := [.agg [.d (.lit (List.map e_SPoint []))], .d (.int .i64 2)]) (σ := []) (hf := Try.func23) (hrs := rfl) (hres := .cons _ _ _ _ (.agg 6 32 2 0 [.d (.lit (List.map e_SPoint []))] [.d (.lit (List.map e_SPoint []))] _ _ _ _ (by kernel_rfl) (by kernel_rfl) Try.underlying32 (by kernel_rfl) ty32 (by kernel_rfl) (by kernel_rfl)) (.cons _ _ _ _ (.tmp 7 _ (by kernel_rfl)) .nil)) (hnd := by decide)

/-- awardingbody/conversion.turned -/
def conversion_turned_b1 (k : Nat) (l : (List SPoint)) (again : Int × (List SPoint) → Option ((List SPoint))) : Int × (List SPoint) → Option ((List SPoint)) := uc fun x4 => fun xs6 => bif (decide (x4 < ((List.length l) : Int))) then gidx l x4 fun e113 => gcap (List.length (xs6 ++ ([(⟨e113.Y_Num, e113.Y_Den, e113.X_Num, e113.X_Den⟩ : SPoint)] : List SPoint))) 32 (again ((IntKind.wrap .i64 (x4 + 1)), (xs6 ++ ([(⟨e113.Y_Num, e113.Y_Den, e113.X_Num, e113.X_Den⟩ : SPoint)] : List SPoint)))) else some xs6
def conversion_turned (k : Nat) (l : (List SPoint)) : Option ((List SPoint)) := Option.bind (gloop (conversion_turned_b1 k l) k (0, ([] : List SPoint)) : Option ((List SPoint))) (fun xs5 => some xs5)
def conversion_turned_E (l : (List SPoint)) : (List SPoint) → V × List Blk := fun r1 => (.d (.lit (List.map e_SPoint r1)), [])
theorem conversion_turned_goes (k : Nat) (l : (List SPoint)) : RunsO Try.prog 52 [.d (.lit (List.map e_SPoint l))] [] (conversion_turned_E l) (conversion_turned k l) := by
  refine RunsO.of_goes (N := 22) (m := 0) (T := [(0, .d (.lit (List.map e_SPoint l)))]) Try.func52 rfl rfl (h := ?_)
  unfold conversion_turned
  refine bStart ?_
  refine oSR rfl ?_
  refine oP (.nilc) p_assign ?_
  refine oEnd ?_
  refine oSR rfl ?_
  refine oP (.nilc) p_assign ?_
  refine oEnd ?_
  refine oSeq ?_
  refine oSR rfl ?_
  refine oP (.d (.lit (List.map e_SPoint l))) p_move ?_
  refine oP (.d (.int .i64 ((List.length l) : Int))) (k_lenLit (enc := e_SPoint) l (hu := Try.underlying30)) ?_
  refine oP (.d (.int .i64 0)) p_move ?_
  refine oEnd ?_
  refine bJoin ((fun (xs5 : (List SPoint)) => [(3, .ref 0 (List.length xs5) 0 (List.length xs5))])) ((fun (xs5 : (List SPoint)) => [.sl 4 (List.map e_SPoint xs5) false])) (fun s => s) (fun xs5 => ?_) (fun hj2 => ?_)
  ·refine oView (T' := [(3, .ref 0 (List.length xs5) 0 (List.length xs5))]) (H' := [.sl 4 (List.map e_SPoint xs5) false]) (h := ?_)
   refine oSR rfl ?_
   refine oP (.ref 0 (List.length xs5) 0 (List.length xs5)) p_move ?_
   refine oP (.ref 0 (List.length xs5) 0 (List.length xs5)) p_assign ?_
   refine oEnd ?_
   refine oFreeze 0 (esz := 4) (xs := List.map e_SPoint xs5) (h := ?_)
   refine oView (H' := [.sl 4 (List.map e_SPoint xs5) true]) rfl (h := ?_)
   refine oConv 2 (v := .ref 0 (List.length xs5) 0 (List.length xs5)) (v' := .d (.lit (List.map e_SPoint xs5))) (hc := k_lit (enc := e_SPoint) (sz := 4) 0 xs5) (h := ?_)
   exact oRet (r0 := xs5) (rv := .d (.lit (List.map e_SPoint xs5))) (B := []) (vs := [.d (.lit (List.map e_SPoint xs5))]) (σ := []) (hf := Try.func52) (hrs := rfl) (hres := .cons _ _ _ _ (.tmp 2 _ (by kernel_rfl)) .nil) (hnd := by decide)
  ·refine oBlock ?_
   refine oLoop ?_
   refine oVirt (esz := 4) 3 (h := ?_)
   refine oView (H' := [.sl 4 (List.map e_SPoint ([] : List SPoint)) false]) rfl (h := ?_)
   refine oHead [3, 6, 7, 8] [0] (T' := [(3, .ref 0 (List.length ([] : List SPoint)) 0 (List.length ([] : List SPoint))), (6, .d (.lit (List.map e_SPoint l))), (7, .d (.int .i64 ((List.length l) : Int))), (8, .d (.int .i64 0))]) (H' := [.sl 4 (List.map e_SPoint ([] : List SPoint)) false]) (hnd := by decide) (h := ?_)
   refine bLoop (body := conversion_turned_b1 k l) ((uc fun (x4 : Int) => (fun (xs6 : (List SPoint)) => [(3, .ref 0 (List.length xs6) 0 (List.length xs6)), (6, .d (.lit (List.map e_SPoint l))), (7, .d (.int .i64 ((List.length l) : Int))), (8, .d (.int .i64 x4))]))) ((uc fun (x4 : Int) => (fun (xs6 : (List SPoint)) => [.sl 4 (List.map e_SPoint xs6) false]))) (fun again hag1 s => ?_) k (0, ([] : List SPoint))
   ·unfold conversion_turned_b1
    obtain ⟨x4, xs6⟩ := s
    refine bUc ?_
    refine oView (T' := [(3, .ref 0 (List.length xs6) 0 (List.length xs6)), (6, .d (.lit (List.map e_SPoint l))), (7, .d (.int .i64 ((List.length l) : Int))), (8, .d (.int .i64 x4))]) (H' := [.sl 4 (List.map e_SPoint xs6) false]) (h := ?_)
    refine oSR rfl ?_
    refine oP (.d (.bool (decide (x4 < ((List.length l) : Int))))) (p_int (k := .i64) (p := x4) (q := ((List.length l) : Int))) ?_
    refine oEnd ?_
    refine oSeq ?_
    refine bSplit 9 (h1 := fun hc => ?_) (h2 := fun hc => ?_)
    ·refine oCondT (h := ?_)
     refine oSkip ?_
     refine oSeq ?_
     refine oBlock ?_
     refine oSR rfl ?_
     refine bIdx (fun e113 h139 h140 => ?_)
     refine oP (.lptr (e_SPoint e113) 0) (k_idxLit e_SPoint_len l (a := e113) (k := .i64) (i := x4) (hu := Try.underlying30) (hi := ty60) (h0 := h139) (he := h140)) ?_
     refine oQ (.agg [.d (.int .i64 e113.X_Num), .d (.int .i64 e113.X_Den), .d (.int .i64 e113.Y_Num), .d (.int .i64 e113.Y_Den)]) (k_loadLAgg (cells := e_SPoint e113) 0 [(.int .i64 e113.X_Num), (.int .i64 e113.X_Den), (.int .i64 e113.Y_Num), (.int .i64 e113.Y_Den)] (hu := Try.underlying60) (hi := ty60)) ?_
     refine oD (.ptr 1 0) (k_alloc (H' := [.sl 4 (List.map e_SPoint xs6) false, .box [.d (.int .i64 0), .d (.int .i64 0), .d (.int .i64 0), .d (.int .i64 0)]]) ty60) ?_
     refine oD (.undef) (k_store (vs := [.d (.int .i64 e113.X_Num), .d (.int .i64 e113.X_Den), .d (.int .i64 e113.Y_Num), .d (.int .i64 e113.Y_Den)]) (H' := [.sl 4 (List.map e_SPoint xs6) false, .box [.d (.int .i64 e113.X_Num), .d (.int .i64 e113.X_Den), .d (.int .i64 e113.Y_Num), .d (.int .i64 e113.Y_Den)]]) 1 0 (hi := ty60)) ?_
     refine oEnd ?_
     refine oRegion rfl ?_
     refine oP (.ref 0 (List.length xs6) 0 (List.length xs6)) p_move ?_
     refine oP (.ptr 1 2) (k_fieldAddr 1 0 (hu := Try.underlying60) (hf := rfl) (hi := ty38)) ?_
     refine oQ (.agg [.d (.int .i64 e113.Y_Num), .d (.int .i64 e113.Y_Den)]) (k_loadAgg 1 2 (hu := Try.underlying38) (hi := ty38)) ?_
     refine oP (.ptr 1 0) (k_fieldAddr 1 0 (hu := Try.underlying60) (hf := rfl) (hi := ty38)) ?_
     refine oQ (.agg [.d (.int .i64 e113.X_Num), .d (.int .i64 e113.X_Den)]) (k_loadAgg 1 0 (hu := Try.underlying38) (hi := ty38)) ?_
     refine oP (.agg [.d (.int .i64 e113.Y_Num), .d (.int .i64 e113.Y_Den), .d (.int .i64 e113.X_Num), .d (.int .i64 e113.X_Den)]) (p_build bld60) ?_
     refine oD (.ref 2 (List.length ([(⟨e113.Y_Num, e113.Y_Den, e113.X_Num, e113.X_Den⟩ : SPoint)] : List SPoint)) 0 (List.length ([(⟨e113.Y_Num, e113.Y_Den, e113.X_Num, e113.X_Den⟩ : SPoint)] : List SPoint))) (k_buildSlice (H' := [.sl 4 (List.map e_SPoint xs6) false, .box [.d (.int .i64 e113.X_Num), .d (.int .i64 e113.X_Den), .d (.int .i64 e113.Y_Num), .d (.int .i64 e113.Y_Den)], .sl 4 (List.map e_SPoint ([(⟨e113.Y_Num, e113.Y_Den, e113.X_Num, e113.X_Den⟩ : SPoint)] : List SPoint)) false]) (List.map e_SPoint ([(⟨e113.Y_Num, e113.Y_Den, e113.X_Num, e113.X_Den⟩ : SPoint)] : List SPoint)) Try.underlying30 ty60) ?_
     refine bCap (fun h141 => ?_)
     refine oD (.ref 0 (List.length (xs6 ++ ([(⟨e113.Y_Num, e113.Y_Den, e113.X_Num, e113.X_Den⟩ : SPoint)] : List SPoint))) 0 (List.length (xs6 ++ ([(⟨e113.Y_Num, e113.Y_Den, e113.X_Num, e113.X_Den⟩ : SPoint)] : List SPoint)))) (k_append (H' := [.sl 4 (List.map e_SPoint (xs6 ++ ([(⟨e113.Y_Num, e113.Y_Den, e113.X_Num, e113.X_Den⟩ : SPoint)] : List SPoint))) false, .box [.d (.int .i64 e113.X_Num), .d (.int .i64 e113.X_Den), .d (.int .i64 e113.Y_Num), .d (.int .i64 e113.Y_Den)], .sl 4 (List.map e_SPoint ([(⟨e113.Y_Num, e113.Y_Den, e113.X_Num, e113.X_Den⟩ : SPoint)] : List SPoint)) false]) (enc := e_SPoint) 0 xs6 ([(⟨e113.Y_Num, e113.Y_Den, e113.X_Num, e113.X_Den⟩ : SPoint)] : List SPoint) Try.underlying30 Try.underlying30 ty60 (hy := (holdsRef (enc := e_SPoint) 2 ([(⟨e113.Y_Num, e113.Y_Den, e113.X_Num, e113.X_Den⟩ : SPoint)] : List SPoint) false)) (hfit := h141)) ?_
     refine oP (.ref 0 (List.length (xs6 ++ ([(⟨e113.Y_Num, e113.Y_Den, e113.X_Num, e113.X_Den⟩ : SPoint)] : List SPoint))) 0 (List.length (xs6 ++ ([(⟨e113.Y_Num, e113.Y_Den, e113.X_Num, e113.X_Den⟩ : SPoint)] : List SPoint)))) p_assign ?_
     refine oEnd ?_
     refine oBlk ?_
     refine oRegion rfl ?_
     refine oP (.d (.int .i64 (IntKind.wrap .i64 (x4 + 1)))) (p_int (k := .i64) (p := x4) (q := 1)) ?_
     refine oP (.d (.int .i64 (IntKind.wrap .i64 (x4 + 1)))) p_move ?_
     refine oEnd ?_
     refine oAgain ?_
     refine oHead [3, 6, 7, 8] [0] (T' := [(3, .ref 0 (List.length (xs6 ++ ([(⟨e113.Y_Num, e113.Y_Den, e113.X_Num, e113.X_Den⟩ : SPoint)] : List SPoint))) 0 (List.length (xs6 ++ ([(⟨e113.Y_Num, e113.Y_Den, e113.X_Num, e113.X_Den⟩ : SPoint)] : List SPoint)))), (6, .d (.lit (List.map e_SPoint l))), (7, .d (.int .i64 ((List.length l) : Int))), (8, .d (.int .i64 (IntKind.wrap .i64 (x4 + 1))))]) (H' := [.sl 4 (List.map e_SPoint (xs6 ++ ([(⟨e113.Y_Num, e113.Y_Den, e113.X_Num, e113.X_Den⟩ : SPoint)] : List SPoint))) false]) (hnd := by decide) (h := ?_)
     exact hag1 ((IntKind.wrap .i64 (x4 + 1)), (xs6 ++ ([(⟨e113.Y_Num, e113.Y_Den, e113.X_Num, e113.X_Den⟩ : SPoint)] : List SPoint)))
    ·refine oCondF (h := ?_)
     refine oExit rfl ?_
     refine oHead [3] [0] (T' := [(3, .ref 0 (List.length xs6) 0 (List.length xs6))]) (H' := [.sl 4 (List.map e_SPoint xs6) false]) (hnd := by decide) (h := ?_)
     exact hj2 xs6

/-- slices.SortFunc[[]awardingbody/api.Ratio,awardingbody/api.Ratio]: by the contract of the library -/
def slices_SortFunc_api_Ratio_api_Ratio (k : Nat) (xs : (List SRatio)) : Option ((List SRatio)) := gsort (fun x y => ratio_Compare k x.Num x.Den y.Num y.Den) xs
def slices_SortFunc_api_Ratio_api_Ratio_E (xs : (List SRatio)) : (List SRatio) → V × List Blk := fun xs2 => (.tuple [], [.sl 2 (List.map e_SRatio xs2) false])
theorem slices_SortFunc_api_Ratio_api_Ratio_goes (k : Nat) (xs : (List SRatio)) : RunsO Try.prog 85 [.ref 0 (List.length xs) 0 (List.length xs), .fn 86 []] [.sl 2 (List.map e_SRatio xs) false] (slices_SortFunc_api_Ratio_api_Ratio_E xs) (slices_SortFunc_api_Ratio_api_Ratio k xs) :=
  sort_goes (enc := e_SRatio) (k := 2) (g := 86) Try.sortR85 Try.isAgg38 Try.sizeOf38 e_SRatio_len (fun x d hd => by simp only [e_SRatio, List.mem_cons, List.not_mem_nil, or_false] at hd; rcases hd with rfl | rfl <;> rfl) (by decide) (enter_of Try.func86 rfl (by kernel_rfl)) (fun x y => ratio_Compare k x.Num x.Den y.Num y.Den) (fun x y => ratio_Compare_goes k x.Num x.Den y.Num y.Den) rfl xs

/-- slices.Compact[[]awardingbody/api.Ratio,awardingbody/api.Ratio] -/
def slices_Compact_api_Ratio_api_Ratio_b2 (k : Nat) (xs : (List SRatio)) (k179 : Int) (again : Int × Int × (List SRatio) → Option (Int × (List SRatio))) : Int × Int × (List SRatio) → Option (Int × (List SRatio)) := uc fun k1112 => uc fun k242 => fun xs172 => bif (decide (k242 < ((((List.length xs) - Int.toNat k179) : Nat) : Int))) then Option.bind (gidx (List.take ((List.length xs) - Int.toNat k179) (List.drop (0 + Int.toNat k179) xs172)) k242 fun e12 => gidx (List.take ((List.length xs) - Int.toNat k179) (List.drop (0 + Int.toNat k179) xs172)) (IntKind.wrap .i64 (k242 - 1)) fun e13 => bif (!((e12.Num == e13.Num) && ((e12.Den == e13.Den) && true))) then gidx xs172 k1112 fun e149 => blet (List.set xs172 (Int.toNat k1112) e12) fun xs178 => some ((IntKind.wrap .i64 (k1112 + 1)), xs178) else some (k1112, xs172) : Option (Int × (List SRatio))) (uc fun k1115 => fun xs177 => again (k1115, (IntKind.wrap .i64 (k242 + 1)), xs177)) else some (k1112, xs172)
def slices_Compact_api_Ratio_api_Ratio_b1 (k : Nat) (xs : (List SRatio)) (again : Int → Option ((Unit) ⊕ ((List SRatio) × (List SRatio)))) : Int → Option ((Unit) ⊕ ((List SRatio) × (List SRatio))) := fun k179 => bif (decide (k179 < ((List.length xs) : Int))) then gidx xs k179 fun e1 => gidx xs (IntKind.wrap .i64 (k179 - 1)) fun e11 => bif ((e1.Num == e11.Num) && ((e1.Den == e11.Den) && true)) then gcut 0 k179 ((List.length xs) : Int) (Option.bind (gloop (slices_Compact_api_Ratio_api_Ratio_b2 k xs k179) k (k179, 1, xs) : Option (Int × (List SRatio))) (uc fun k1110 => fun xs168 => gcut 0 k1110 ((List.length xs168) : Int) (blet (gclear xs168 (⟨0, 0⟩ : SRatio) (0 + Int.toNat k1110) ((List.length xs168) - Int.toNat k1110)) fun xs169 => gcut 0 k1110 ((List.length xs169) : Int) (some (Sum.inr ((List.take (Int.toNat k1110) (List.drop 0 xs169)), xs169)))))) else again (IntKind.wrap .i64 (k179 + 1)) else some (Sum.inl ())
def slices_Compact_api_Ratio_api_Ratio (k : Nat) (xs : (List SRatio)) : Option ((List SRatio) × (List SRatio)) := bif (decide (((List.length xs) : Int) < 2)) then some (xs, xs) else Option.bind (gloop (slices_Compact_api_Ratio_api_Ratio_b1 k xs) k 1 : Option ((Unit) ⊕ ((List SRatio) × (List SRatio)))) (Sum.elim (u0 (some (xs, xs))) (fun r => some r))
def slices_Compact_api_Ratio_api_Ratio_E (xs : (List SRatio)) : (List SRatio) × (List SRatio) → V × List Blk := uc fun r1 => fun xs49 => (.d (.lit (List.map e_SRatio r1)), [.sl 2 (List.map e_SRatio xs49) true])
theorem slices_Compact_api_Ratio_api_Ratio_goes (k : Nat) (xs : (List SRatio)) : RunsO Try.prog 87 [.ref 0 (List.length xs) 0 (List.length xs)] [.sl 2 (List.map e_SRatio xs) false] (slices_Compact_api_Ratio_api_Ratio_E xs) (slices_Compact_api_Ratio_api_Ratio k xs) := by
  refine RunsO.of_goes (N := 61) (m := 1) (T := [(0, .ref 0 (List.length xs) 0 (List.length xs))]) Try.func87 rfl rfl (h := ?_)
  unfold slices_Compact_api_Ratio_api_Ratio
  refine bStart ?_
  refine oSR rfl ?_
  refine oP (.nilc) p_assign ?_
  refine oEnd ?_
  refine oSeq ?_
  refine oSR rfl ?_
  refine oP (.ref 0 (List.length xs) 0 (List.length xs)) p_move ?_
  refine oP (.d (.int .i64 ((List.length xs) : Int))) (k_lenRef (enc := e_SRatio) (sz := 2) (fro := false) 0 xs (hu := Try.underlying99)) ?_
  refine oP (.d (.bool (decide (((List.length xs) : Int) < 2)))) (p_int (k := .i64) (p := ((List.length xs) : Int)) (q := 2)) ?_
  refine oEnd ?_
  refine bSplit 8 (h1 := fun hc => ?_) (h2 := fun hc => ?_)
  ·refine oCondT (h := ?_)
   refine oSR rfl ?_
   refine oP (.ref 0 (List.length xs) 0 (List.length xs)) p_move ?_
   refine oP (.ref 0 (List.length xs) 0 (List.length xs)) p_assign ?_
   refine oEnd ?_
   refine oFreeze 0 (esz := 2) (xs := List.map e_SRatio xs) (h := ?_)
   refine oView (H' := [.sl 2 (List.map e_SRatio xs) true]) rfl (h := ?_)
   refine oConv 2 (v := .ref 0 (List.length xs) 0 (List.length xs)) (v' := .d (.lit (List.map e_SRatio xs))) (hc := k_lit (enc := e_SRatio) (sz := 2) 0 xs) (h := ?_)
   exact oRet (r0 := (xs, xs)) (rv := .d (.lit (List.map e_SRatio xs))) (B := [.sl 2 (List.map e_SRatio xs) true]) (vs := [.d (.lit (List.map e_SRatio xs))]) (σ := [0]) (hf := Try.func87) (hrs := rfl) (hres := .cons _ _ _ _ (.tmp 2 _ (by kernel_rfl)) .nil) (hnd := by decide)
  ·refine oCondF (h := ?_)
   refine oSkip ?_
   refine oSeq ?_
   refine oSR rfl ?_
   refine oP (.d (.int .i64 1)) p_assign ?_
   refine oEnd ?_
   refine bJoin ((u0 ([(0, .ref 0 (List.length xs) 0 (List.length xs))]))) ((u0 ([.sl 2 (List.map e_SRatio xs) false]))) Sum.inl (fun s => ?_) (fun hj38 => ?_)
   ·cases s
    refine bInl ?_
    refine bU0 ?_
    refine oView (T' := [(0, .ref 0 (List.length xs) 0 (List.length xs))]) (H' := [.sl 2 (List.map e_SRatio xs) false]) (h := ?_)
    refine oSR rfl ?_
    refine oP (.ref 0 (List.length xs) 0 (List.length xs)) p_move ?_
    refine oP (.ref 0 (List.length xs) 0 (List.length xs)) p_assign ?_
    refine oEnd ?_
    refine oFreeze 0 (esz := 2) (xs := List.map e_SRatio xs) (h := ?_)
    refine oView (H' := [.sl 2 (List.map e_SRatio xs) true]) rfl (h := ?_)
    refine oConv 2 (v := .ref 0 (List.length xs) 0 (List.length xs)) (v' := .d (.lit (List.map e_SRatio xs))) (hc := k_lit (enc := e_SRatio) (sz := 2) 0 xs) (h := ?_)
    exact oRet (r0 := (xs, xs)) (rv := .d (.lit (List.map e_SRatio xs))) (B := [.sl 2 (List.map e_SRatio xs) true]) (vs := [.d (.lit (List.map e_SRatio xs))]) (σ := [0]) (hf := Try.func87) (hrs := rfl) (hres := .cons _ _ _ _ (.tmp 2 _ (by kernel_rfl)) .nil) (hnd := by decide)
   ·refine oBlock ?_
    refine oLoop ?_
    refine oHead [0, 3] [0] (T' := [(0, .ref 0 (List.length xs) 0 (List.length xs)), (3, .d (.int .i64 1))]) (H' := [.sl 2 (List.map e_SRatio xs) false]) (hnd := by decide) (h := ?_)
    refine bLoop (body := slices_Compact_api_Ratio_api_Ratio_b1 k xs) ((fun (k179 : Int) => [(0, .ref 0 (List.length xs) 0 (List.length xs)), (3, .d (.int .i64 k179))])) ((fun (k179 : Int) => [.sl 2 (List.map e_SRatio xs) false])) (fun again hag1 k179 => ?_) k 1
    ·unfold slices_Compact_api_Ratio_api_Ratio_b1
     refine oView (T' := [(0, .ref 0 (List.length xs) 0 (List.length xs)), (3, .d (.int .i64 k179))]) (H' := [.sl 2 (List.map e_SRatio xs) false]) (h := ?_)
     refine oSeq ?_
     refine oSR rfl ?_
     refine oP (.d (.int .i64 k179)) p_move ?_
     refine oP (.ref 0 (List.length xs) 0 (List.length xs)) p_move ?_
     refine oP (.d (.int .i64 ((List.length xs) : Int))) (k_lenRef (enc := e_SRatio) (sz := 2) (fro := false) 0 xs (hu := Try.underlying99)) ?_
     refine oP (.d (.bool (decide (k179 < ((List.length xs) : Int))))) (p_int (k := .i64) (p := k179) (q := ((List.length xs) : Int))) ?_
     refine oEnd ?_
     refine bSplit 13 (h1 := fun hc => ?_) (h2 := fun hc => ?_)
     ·refine oCondT (h := ?_)
      refine oSkip ?_
      refine oSeq ?_
      refine oBlock ?_
      refine oSeq ?_
      refine oDraw [(0, 10)] rfl ?_
      refine aP 0 (.ref 0 (List.length xs) 0 (List.length xs)) rfl p_move ?_
      refine aP 1 (.d (.int .i64 k179)) rfl p_move ?_
      refine dIdx (fun e1 h1 h11 => ?_)
      refine aP 2 (.eptr 0 (List.length xs) (Int.toNat k179) 0) rfl (k_idxRef (enc := e_SRatio) (fro := false) xs (a := e1) (k := .i64) (i := k179) (hu := Try.underlying99) (hi := ty38) (h0 := h1) (he := h11)) ?_
      refine aQ 3 [0] (.agg [.d (.int .i64 e1.Num), .d (.int .i64 e1.Den)]) rfl (k_loadEAgg (enc := e_SRatio) (sz0 := 2) (fro := false) 0 0 xs [(.int .i64 e1.Num), (.int .i64 e1.Den)] (hu := Try.underlying38) (hi := ty38) (he := h11)) ?_
      refine aP 4 (.ref 0 (List.length xs) 0 (List.length xs)) rfl p_move ?_
      refine aP 5 (.d (.int .i64 k179)) rfl p_move ?_
      refine aP 6 (.d (.int .i64 (IntKind.wrap .i64 (k179 - 1)))) rfl (p_int (k := .i64) (p := k179) (q := 1)) ?_
      refine dIdx (fun e11 h12 h13 => ?_)
      refine aP 7 (.eptr 0 (List.length xs) (Int.toNat (IntKind.wrap .i64 (k179 - 1))) 0) rfl (k_idxRef (enc := e_SRatio) (fro := false) xs (a := e11) (k := .i64) (i := (IntKind.wrap .i64 (k179 - 1))) (hu := Try.underlying99) (hi := ty38) (h0 := h12) (he := h13)) ?_
      refine aQ 8 [0] (.agg [.d (.int .i64 e11.Num), .d (.int .i64 e11.Den)]) rfl (k_loadEAgg (enc := e_SRatio) (sz0 := 2) (fro := false) 0 0 xs [(.int .i64 e11.Num), (.int .i64 e11.Den)] (hu := Try.underlying38) (hi := ty38) (he := h13)) ?_
      refine aP 9 (.d (.bool ((e1.Num == e11.Num) && ((e1.Den == e11.Den) && true)))) rfl (k_eqAgg (hg := Try.eqGuardType38) (h := EqV.struct 1 38 [.d (.int .i64 e1.Num), .d (.int .i64 e1.Den)] [.d (.int .i64 e11.Num), .d (.int .i64 e11.Den)] _ ((e1.Num == e11.Num) && ((e1.Den == e11.Den) && true)) Try.underlying38 Try.stoodInHeld38 (EqF.one 1 1 _ _ _ _ _ _ _ (e1.Num == e11.Num) ((e1.Den == e11.Den) && true) (by kernel_rfl) Try.underlying3 (by kernel_rfl) (by kernel_rfl) (by kernel_rfl) (by kernel_rfl) (EqV.int 3 .i64 .i64 e1.Num e11.Num Try.underlying3) (EqF.one 1 1 _ _ _ _ _ _ _ (e1.Den == e11.Den) true (by kernel_rfl) Try.underlying3 (by kernel_rfl) (by kernel_rfl) (by kernel_rfl) (by kernel_rfl) (EqV.int 3 .i64 .i64 e1.Den e11.Den Try.underlying3) (EqF.nil 1 _ _))))) ?_
      refine aDone (h := ?_)
      refine bSplit 25 (h1 := fun hc => ?_) (h2 := fun hc => ?_)
      ·refine oCondT (h := ?_)
       refine oSR rfl ?_
       refine oP (.ref 0 (List.length xs) 0 (List.length xs)) p_move ?_
       refine oP (.d (.int .i64 k179)) p_move ?_
       refine bCut (fun h1268 h1269 h1270 => ?_)
       refine oP (.ref 0 (List.length xs) (0 + Int.toNat k179) ((List.length xs) - Int.toNat k179)) (k_partL (enc := e_SRatio) (fro := false) (k1 := .i64) (l := k179) 0 0 (List.length xs) xs (by kernel_rfl) (by kernel_rfl) (by kernel_rfl) Try.underlying99 ty38 h1269 h1270) ?_
       refine oP (.ref 0 (List.length xs) (0 + Int.toNat k179) ((List.length xs) - Int.toNat k179)) p_assign ?_
       refine oEnd ?_
       refine oSeq ?_
       refine oSR rfl ?_
       refine oP (.d (.int .i64 1)) p_assign ?_
       refine oEnd ?_
       refine bJoin ((uc fun (k1110 : Int) => (fun (xs168 : (List SRatio)) => [(0, .ref 0 (List.length xs168) 0 (List.length xs168)), (3, .d (.int .i64 k1110))]))) ((uc fun (k1110 : Int) => (fun (xs168 : (List SRatio)) => [.sl 2 (List.map e_SRatio xs168) false]))) (fun s => s) (fun s => ?_) (fun hj65 => ?_)
       ·obtain ⟨k1110, xs168⟩ := s
        refine bUc ?_
        refine oView (T' := [(0, .ref 0 (List.length xs168) 0 (List.length xs168)), (3, .d (.int .i64 k1110))]) (H' := [.sl 2 (List.map e_SRatio xs168) false]) (h := ?_)
        refine oSR rfl ?_
        refine oP (.ref 0 (List.length xs168) 0 (List.length xs168)) p_move ?_
        refine oP (.d (.int .i64 k1110)) p_move ?_
        refine bCut (fun h1275 h1276 h1277 => ?_)
        refine oP (.ref 0 (List.length xs168) (0 + Int.toNat k1110) ((List.length xs168) - Int.toNat k1110)) (k_partL (enc := e_SRatio) (fro := false) (k1 := .i64) (l := k1110) 0 0 (List.length xs168) xs168 (by kernel_rfl) (by kernel_rfl) (by kernel_rfl) Try.underlying99 ty38 h1276 h1277) ?_
        refine bSet _ (fun xs169 hs62 => ?_)
        refine oD (.tuple []) (k_clear (enc := e_SRatio) (H' := [.sl 2 (List.map e_SRatio xs169) false]) 0 (0 + Int.toNat k1110) ((List.length xs168) - Int.toNat k1110) xs168 (⟨0, 0⟩ : SRatio) [(.int .i64 0), (.int .i64 0)] Try.underlying99 ty38 (by kernel_rfl) (by kernel_rfl) (by kernel_rfl) (by kernel_rfl) (by kernel_rfl) hs62 (by kernel_rfl)) ?_
        refine oHead [0, 3] [0] (T' := [(0, .ref 0 (List.length xs168) 0 (List.length xs168)), (3, .d (.int .i64 k1110))]) (H' := [.sl 2 (List.map e_SRatio xs169) false]) (hnd := by decide) (h := ?_)
        refine oView (T' := [(0, .ref 0 (List.length xs169) 0 (List.length xs169)), (3, .d (.int .i64 k1110))]) (H' := [.sl 2 (List.map e_SRatio xs169) false]) (by first | rw [(clear_len hs62)] | rfl) (by first | rw [(clear_len hs62)] | rfl) ?_
        refine oEnd ?_
        refine oSR rfl ?_
        refine oP (.ref 0 (List.length xs169) 0 (List.length xs169)) p_move ?_
        refine oP (.d (.int .i64 k1110)) p_move ?_
        refine bCut (fun h1278 h1279 h1280 => ?_)
        refine oP (.ref 0 (List.length xs169) 0 (Int.toNat k1110)) (k_partH (enc := e_SRatio) (fro := false) (k2 := .i64) (h := k1110) 0 0 (List.length xs169) xs169 (by kernel_rfl) (by kernel_rfl) (by kernel_rfl) Try.underlying99 ty38 h1279 h1280) ?_
        refine oP (.ref 0 (List.length xs169) 0 (Int.toNat k1110)) p_assign ?_
        refine oEnd ?_
        refine oFreeze 0 (esz := 2) (xs := List.map e_SRatio xs169) (h := ?_)
        refine oView (H' := [.sl 2 (List.map e_SRatio xs169) true]) rfl (h := ?_)
        refine oConv 2 (v := .ref 0 (List.length xs169) 0 (Int.toNat k1110)) (v' := .d (.lit (List.map e_SRatio (List.take (Int.toNat k1110) (List.drop 0 xs169))))) (hc := k_litPart (enc := e_SRatio) (sz := 2) 0 0 (Int.toNat k1110) xs169 (by kernel_rfl) (by omega)) (h := ?_)
        exact oRet (r0 := ((List.take (Int.toNat k1110) (List.drop 0 xs169)), xs169)) (rv := .d (.lit (List.map e_SRatio (List.take (Int.toNat k1110) (List.drop 0 xs169))))) (B := [.sl 2 (List.map e_SRatio xs169) true]) (vs := [.d (.lit (List.map e_SRatio (List.take (Int.toNat k1110) (List.drop 0 xs169))))]) (σ := [0]) (hf := Try.func87) (hrs := rfl) (hres := .cons _ _ _ _ (.tmp 2 _ (by kernel_rfl)) .nil) (hnd := by decide)
       ·refine oBlock ?_
        refine oLoop ?_
        refine oHead [0, 3, 4, 5] [0] (T' := [(0, .ref 0 (List.length xs) 0 (List.length xs)), (3, .d (.int .i64 k179)), (4, .ref 0 (List.length xs) (0 + Int.toNat k179) ((List.length xs) - Int.toNat k179)), (5, .d (.int .i64 1))]) (H' := [.sl 2 (List.map e_SRatio xs) false]) (hnd := by decide) (h := ?_)
        refine bLoop (body := slices_Compact_api_Ratio_api_Ratio_b2 k xs k179) ((uc fun (k1112 : Int) => (uc fun (k242 : Int) => (fun (xs172 : (List SRatio)) => [(0, .ref 0 (List.length xs172) 0 (List.length xs172)), (3, .d (.int .i64 k1112)), (4, .ref 0 (List.length xs172) (0 + Int.toNat k179) ((List.length xs) - Int.toNat k179)), (5, .d (.int .i64 k242))])))) ((uc fun (k1112 : Int) => (uc fun (k242 : Int) => (fun (xs172 : (List SRatio)) => [.sl 2 (List.map e_SRatio xs172) false])))) (fun again hag2 s => ?_) k (k179, 1, xs)
        ·unfold slices_Compact_api_Ratio_api_Ratio_b2
         obtain ⟨k1112, k242, xs172⟩ := s
         refine bUc ?_
         refine bUc ?_
         refine oView (T' := [(0, .ref 0 (List.length xs172) 0 (List.length xs172)), (3, .d (.int .i64 k1112)), (4, .ref 0 (List.length xs172) (0 + Int.toNat k179) ((List.length xs) - Int.toNat k179)), (5, .d (.int .i64 k242))]) (H' := [.sl 2 (List.map e_SRatio xs172) false]) (h := ?_)
         refine oSeq ?_
         refine oSR rfl ?_
         refine oP (.d (.int .i64 k242)) p_move ?_
         refine oP (.ref 0 (List.length xs172) (0 + Int.toNat k179) ((List.length xs) - Int.toNat k179)) p_move ?_
         refine oP (.d (.int .i64 ((((List.length xs) - Int.toNat k179) : Nat) : Int))) (k_lenPart (enc := e_SRatio) (sz := 2) (fro := false) 0 (0 + Int.toNat k179) ((List.length xs) - Int.toNat k179) xs172 (by kernel_rfl) (by kernel_rfl) Try.underlying99) ?_
         refine oP (.d (.bool (decide (k242 < ((((List.length xs) - Int.toNat k179) : Nat) : Int))))) (p_int (k := .i64) (p := k242) (q := ((((List.length xs) - Int.toNat k179) : Nat) : Int))) ?_
         refine oEnd ?_
         refine bSplit 32 (h1 := fun hc => ?_) (h2 := fun hc => ?_)
         ·refine oCondT (h := ?_)
          refine oSkip ?_
          refine oSeq ?_
          refine bJoin ((uc fun (k1115 : Int) => (fun (xs177 : (List SRatio)) => [(0, .ref 0 (List.length xs177) 0 (List.length xs177)), (3, .d (.int .i64 k1115)), (4, .ref 0 (List.length xs177) (0 + Int.toNat k179) ((List.length xs) - Int.toNat k179)), (5, .d (.int .i64 k242))]))) ((uc fun (k1115 : Int) => (fun (xs177 : (List SRatio)) => [.sl 2 (List.map e_SRatio xs177) false]))) (fun s => s) (fun s => ?_) (fun hj68 => ?_)
          ·obtain ⟨k1115, xs177⟩ := s
           refine bUc ?_
           refine oView (T' := [(0, .ref 0 (List.length xs177) 0 (List.length xs177)), (3, .d (.int .i64 k1115)), (4, .ref 0 (List.length xs177) (0 + Int.toNat k179) ((List.length xs) - Int.toNat k179)), (5, .d (.int .i64 k242))]) (H' := [.sl 2 (List.map e_SRatio xs177) false]) (h := ?_)
           refine oRegion rfl ?_
           refine oP (.d (.int .i64 k242)) p_move ?_
           refine oP (.d (.int .i64 (IntKind.wrap .i64 (k242 + 1)))) (p_int (k := .i64) (p := k242) (q := 1)) ?_
           refine oP (.d (.int .i64 (IntKind.wrap .i64 (k242 + 1)))) p_assign ?_
           refine oEnd ?_
           refine oAgain ?_
           refine oHead [0, 3, 4, 5] [0] (T' := [(0, .ref 0 (List.length xs177) 0 (List.length xs177)), (3, .d (.int .i64 k1115)), (4, .ref 0 (List.length xs177) (0 + Int.toNat k179) ((List.length xs) - Int.toNat k179)), (5, .d (.int .i64 (IntKind.wrap .i64 (k242 + 1))))]) (H' := [.sl 2 (List.map e_SRatio xs177) false]) (hnd := by decide) (h := ?_)
           exact hag2 (k1115, (IntKind.wrap .i64 (k242 + 1)), xs177)
          ·refine oBlock ?_
           refine oSeq ?_
           refine oDraw [(0, 10)] rfl ?_
           refine aP 0 (.ref 0 (List.length xs172) (0 + Int.toNat k179) ((List.length xs) - Int.toNat k179)) rfl p_move ?_
           refine aP 1 (.d (.int .i64 k242)) rfl p_move ?_
           refine dIdx (fun e12 h17 h18 => ?_)
           refine aP 2 (.eptr 0 (List.length xs172) ((0 + Int.toNat k179) + Int.toNat k242) 0) rfl (k_idxPart (enc := e_SRatio) (fro := false) 0 (0 + Int.toNat k179) ((List.length xs) - Int.toNat k179) xs172 (a := e12) (by kernel_rfl) (k := .i64) (i := k242) (by kernel_rfl) (by kernel_rfl) Try.underlying99 ty38 h17 h18) ?_
           refine aQ 3 [0] (.agg [.d (.int .i64 e12.Num), .d (.int .i64 e12.Den)]) rfl (k_loadEAgg (enc := e_SRatio) (sz0 := 2) (fro := false) 0 0 xs172 [(.int .i64 e12.Num), (.int .i64 e12.Den)] (hu := Try.underlying38) (hi := ty38) (he := part_get h18)) ?_
           refine aP 4 (.ref 0 (List.length xs172) (0 + Int.toNat k179) ((List.length xs) - Int.toNat k179)) rfl p_move ?_
           refine aP 5 (.d (.int .i64 k242)) rfl p_move ?_
           refine aP 6 (.d (.int .i64 (IntKind.wrap .i64 (k242 - 1)))) rfl (p_int (k := .i64) (p := k242) (q := 1)) ?_
           refine dIdx (fun e13 h19 h110 => ?_)
           refine aP 7 (.eptr 0 (List.length xs172) ((0 + Int.toNat k179) + Int.toNat (IntKind.wrap .i64 (k242 - 1))) 0) rfl (k_idxPart (enc := e_SRatio) (fro := false) 0 (0 + Int.toNat k179) ((List.length xs) - Int.toNat k179) xs172 (a := e13) (by kernel_rfl) (k := .i64) (i := (IntKind.wrap .i64 (k242 - 1))) (by kernel_rfl) (by kernel_rfl) Try.underlying99 ty38 h19 h110) ?_
           refine aQ 8 [0] (.agg [.d (.int .i64 e13.Num), .d (.int .i64 e13.Den)]) rfl (k_loadEAgg (enc := e_SRatio) (sz0 := 2) (fro := false) 0 0 xs172 [(.int .i64 e13.Num), (.int .i64 e13.Den)] (hu := Try.underlying38) (hi := ty38) (he := part_get h110)) ?_
           refine aP 9 (.d (.bool (!((e12.Num == e13.Num) && ((e12.Den == e13.Den) && true))))) rfl (k_neAgg (hg := Try.eqGuardType38) (h := EqV.struct 1 38 [.d (.int .i64 e12.Num), .d (.int .i64 e12.Den)] [.d (.int .i64 e13.Num), .d (.int .i64 e13.Den)] _ ((e12.Num == e13.Num) && ((e12.Den == e13.Den) && true)) Try.underlying38 Try.stoodInHeld38 (EqF.one 1 1 _ _ _ _ _ _ _ (e12.Num == e13.Num) ((e12.Den == e13.Den) && true) (by kernel_rfl) Try.underlying3 (by kernel_rfl) (by kernel_rfl) (by kernel_rfl) (by kernel_rfl) (EqV.int 3 .i64 .i64 e12.Num e13.Num Try.underlying3) (EqF.one 1 1 _ _ _ _ _ _ _ (e12.Den == e13.Den) true (by kernel_rfl) Try.underlying3 (by kernel_rfl) (by kernel_rfl) (by kernel_rfl) (by kernel_rfl) (EqV.int 3 .i64 .i64 e12.Den e13.Den Try.underlying3) (EqF.nil 1 _ _))))) ?_
           refine aDone (h := ?_)
           refine bSplit 44 (h1 := fun hc => ?_) (h2 := fun hc => ?_)
           ·refine oCondT (h := ?_)
            refine oSR rfl ?_
            refine oP (.ref 0 (List.length xs172) 0 (List.length xs172)) p_move ?_
            refine oP (.d (.int .i64 k1112)) p_move ?_
            refine oP (.ref 0 (List.length xs172) (0 + Int.toNat k179) ((List.length xs) - Int.toNat k179)) p_move ?_
            refine oP (.d (.int .i64 k242)) p_move ?_
            refine oP (.eptr 0 (List.length xs172) ((0 + Int.toNat k179) + Int.toNat k242) 0) (k_idxPart (enc := e_SRatio) (fro := false) 0 (0 + Int.toNat k179) ((List.length xs) - Int.toNat k179) xs172 (a := e12) (by kernel_rfl) (k := .i64) (i := k242) (by kernel_rfl) (by kernel_rfl) Try.underlying99 ty38 h17 h18) ?_
            refine oQ (.agg [.d (.int .i64 e12.Num), .d (.int .i64 e12.Den)]) (k_loadEAgg (enc := e_SRatio) (sz0 := 2) (fro := false) 0 0 xs172 [(.int .i64 e12.Num), (.int .i64 e12.Den)] (hu := Try.underlying38) (hi := ty38) (he := part_get h18)) ?_
            refine bIdx (fun e149 h1287 h1288 => ?_)
            refine oP (.eptr 0 (List.length xs172) (Int.toNat k1112) 0) (k_idxRef (enc := e_SRatio) (fro := false) xs172 (a := e149) (k := .i64) (i := k1112) (hu := Try.underlying99) (hi := ty38) (h0 := h1287) (he := h1288)) ?_
            refine bSet _ (fun xs178 hs66 => ?_)
            refine oD (.undef) (k_storeE (H' := [.sl 2 (List.map e_SRatio xs178) false]) 0 0 xs172 e12 [(.int .i64 e12.Num), (.int .i64 e12.Den)] e_SRatio_len (he := h1288) (hi := ty38) (hxs := hs66)) ?_
            refine oHead [0, 3, 4, 5] [0] (T' := [(0, .ref 0 (List.length xs172) 0 (List.length xs172)), (3, .d (.int .i64 k1112)), (4, .ref 0 (List.length xs172) (0 + Int.toNat k179) ((List.length xs) - Int.toNat k179)), (5, .d (.int .i64 k242))]) (H' := [.sl 2 (List.map e_SRatio xs178) false]) (hnd := by decide) (h := ?_)
            refine oView (T' := [(0, .ref 0 (List.length xs178) 0 (List.length xs178)), (3, .d (.int .i64 k1112)), (4, .ref 0 (List.length xs178) (0 + Int.toNat k179) ((List.length xs) - Int.toNat k179)), (5, .d (.int .i64 k242))]) (H' := [.sl 2 (List.map e_SRatio xs178) false]) (by first | rw [(set_len hs66)] | rfl) (by first | rw [(set_len hs66)] | rfl) ?_
            refine oEnd ?_
            refine oRegion rfl ?_
            refine oP (.d (.int .i64 k1112)) p_move ?_
            refine oP (.d (.int .i64 (IntKind.wrap .i64 (k1112 + 1)))) (p_int (k := .i64) (p := k1112) (q := 1)) ?_
            refine oP (.d (.int .i64 (IntKind.wrap .i64 (k1112 + 1)))) p_assign ?_
            refine oEnd ?_
            refine oBlk ?_
            refine oHead [0, 3, 4, 5] [0] (T' := [(0, .ref 0 (List.length xs178) 0 (List.length xs178)), (3, .d (.int .i64 (IntKind.wrap .i64 (k1112 + 1)))), (4, .ref 0 (List.length xs178) (0 + Int.toNat k179) ((List.length xs) - Int.toNat k179)), (5, .d (.int .i64 k242))]) (H' := [.sl 2 (List.map e_SRatio xs178) false]) (hnd := by decide) (h := ?_)
            exact hj68 ((IntKind.wrap .i64 (k1112 + 1)), xs178)
           ·refine oCondF (h := ?_)
            refine oSkip ?_
            refine oBlk ?_
            refine oHead [0, 3, 4, 5] [0] (T' := [(0, .ref 0 (List.length xs172) 0 (List.length xs172)), (3, .d (.int .i64 k1112)), (4, .ref 0 (List.length xs172) (0 + Int.toNat k179) ((List.length xs) - Int.toNat k179)), (5, .d (.int .i64 k242))]) (H' := [.sl 2 (List.map e_SRatio xs172) false]) (hnd := by decide) (h := ?_)
            exact hj68 (k1112, xs172)
         ·refine oCondF (h := ?_)
          refine oExit rfl ?_
          refine oHead [0, 3] [0] (T' := [(0, .ref 0 (List.length xs172) 0 (List.length xs172)), (3, .d (.int .i64 k1112))]) (H' := [.sl 2 (List.map e_SRatio xs172) false]) (hnd := by decide) (h := ?_)
          exact hj65 (k1112, xs172)
      ·refine oCondF (h := ?_)
       refine oSkip ?_
       refine oBlk ?_
       refine oRegion rfl ?_
       refine oP (.d (.int .i64 k179)) p_move ?_
       refine oP (.d (.int .i64 (IntKind.wrap .i64 (k179 + 1)))) (p_int (k := .i64) (p := k179) (q := 1)) ?_
       refine oP (.d (.int .i64 (IntKind.wrap .i64 (k179 + 1)))) p_assign ?_
       refine oEnd ?_
       refine oAgain ?_
       refine oHead [0, 3] [0] (T' := [(0, .ref 0 (List.length xs) 0 (List.length xs)), (3, .d (.int .i64 (IntKind.wrap .i64 (k179 + 1))))]) (H' := [.sl 2 (List.map e_SRatio xs) false]) (hnd := by decide) (h := ?_)
       exact hag1 (IntKind.wrap .i64 (k179 + 1))
     ·refine oCondF (h := ?_)
      refine oExit rfl ?_
      refine oHead [0] [0] (T' := [(0, .ref 0 (List.length xs) 0 (List.length xs))]) (H' := [.sl 2 (List.map e_SRatio xs) false]) (hnd := by decide) (h := ?_)
      exact hj38 ()

end Go.VM
