/- Plain functions that answer as the program's functions do, and the proof that they do. -/
import Derived.Test.YtoffminccignfaaProg
import Derived.KernelRfl
import Derived.Test.YtoffminccignfaaEngPart
import Derived.Test.YtoffminccignfaaIFacts
import Derived.Test.YtoffminccignfaaIFuns0
import Derived.Test.YtoffminccignfaaIFuns2
namespace Go.VM
open Go.Proofs
set_option linter.unusedVariables false
set_option linter.unusedSimpArgs false
set_option maxRecDepth 100000
/-- awardingbody/awardingbodylaw33.sane -/
def law33_sane (k : Nat) : Option (Bool) := Option.bind (law33_whole k 0) (u0 (Option.bind (law33_whole k 0) (u0 (Option.bind (law33_whole k 2) (u0 (Option.bind (law33_whole k 4) (u0 (Option.bind (law33_whole k 3) (u0 (Option.bind (law33_whole k 5) (u0 (Option.bind (law33_whole k 1) (u0 (Option.bind (conversion_Eval k 1 1 ([(⟨0, 1, 0, 1⟩ : SPoint), (⟨2, 1, 4, 1⟩ : SPoint), (⟨3, 1, 5, 1⟩ : SPoint)] : List SPoint)) (uc fun r11 => uc fun r13 => fun r14 => Option.bind (law33_whole k 4) (u0 (Option.bind (conversion_Eval_2 k ([(⟨0, 1, 0, 1⟩ : SPoint), (⟨2, 1, 4, 1⟩ : SPoint), (⟨3, 1, 5, 1⟩ : SPoint)] : List SPoint) 4 1) (uc fun r111 => uc fun r131 => fun r141 => Option.bind (conversion_Normal k ([(⟨0, 1, 0, 1⟩ : SPoint), (⟨2, 1, 4, 1⟩ : SPoint), (⟨3, 1, 5, 1⟩ : SPoint)] : List SPoint)) (uc fun r121 => fun r134 => Option.bind (law33_whole k 2) (u0 (Option.bind (law33_whole k 1) (u0 (Option.bind (conversion_Line k 2 1 1 1) (uc fun r135 => fun r143 => blet ((r14 == 0) && (r141 == 0)) fun x27 => blet (x27 && (r134 == 0)) fun x28 => blet (x28 && (r143 == 0)) fun x29 => Option.bind (bif x29 then Option.bind (law33_whole k 2) (u0 (some ((r11 == 2) && ((r13 == 1) && true)))) else some false : Option Bool) (fun x30 => Option.bind (bif x30 then Option.bind (law33_whole k 6) (u0 (some ((r111 == 6) && ((r131 == 1) && true)))) else some false : Option Bool) (fun x31 => blet (x31 && (((List.length r121) : Int) == 3)) fun x32 => Option.bind (bif x32 then gidx r121 0 fun e1 => Option.bind (law33_whole k 1) (u0 (Option.bind (law33_whole k 2) (u0 (some (((e1.X_Num == 1) && ((e1.X_Den == 1) && true)) && (((e1.Y_Num == 2) && ((e1.Y_Den == 1) && true)) && true)))))) else some false : Option Bool) (fun x33 => blet (x33 && (((List.length r135) : Int) == 2)) fun x34 => Option.bind (bif x34 then gidx r135 1 fun e11 => Option.bind (law33_whole k 1) (u0 (Option.bind (law33_whole k 3) (u0 (some (((e11.X_Num == 1) && ((e11.X_Den == 1) && true)) && (((e11.Y_Num == 3) && ((e11.Y_Den == 1) && true)) && true)))))) else some false : Option Bool) (fun x35 => some x35))))))))))))))))))))))))))))
def law33_sane_E : Bool → V × List Blk := fun r1 => (.d (.bool r1), [])
theorem law33_sane_goes (k : Nat) : RunsO Try.prog 7 [] [] (law33_sane_E) (law33_sane k) := by
  refine RunsO.of_goes (N := 100) (m := 0) (T := []) Try.func7 rfl rfl (h := ?_)
  unfold law33_sane
  refine bStart ?_
  refine oSR rfl ?_
  refine oP (.d (.bool false)) p_assign ?_
  refine oEnd ?_
  refine oSR rfl ?_
  refine bCall (caps := []) (v := (u0 ((.agg [.d (.int .i64 0), .d (.int .i64 1)] : V)))) (H' := (u0 (([] : List Blk)))) [] _ (law33_whole_goes k 0) (ho := rfl) (hfn := Try.func18) (hb := rfl) (hconv := ConvRs.refl _ _) (hnd := by decide) (hBl := fun _ => (by kernel_rfl)) (hv := fun _ => (by kernel_rfl)) (hH' := fun _ => (by kernel_rfl)) (h := fun r => ?_)
  cases r
  refine bU0 ?_
  refine bCall (caps := []) (v := (u0 ((.agg [.d (.int .i64 0), .d (.int .i64 1)] : V)))) (H' := (u0 (([] : List Blk)))) [] _ (law33_whole_goes k 0) (ho := rfl) (hfn := Try.func18) (hb := rfl) (hconv := ConvRs.refl _ _) (hnd := by decide) (hBl := fun _ => (by kernel_rfl)) (hv := fun _ => (by kernel_rfl)) (hH' := fun _ => (by kernel_rfl)) (h := fun r => ?_)
  cases r
  refine bU0 ?_
  refine oP (.agg [.d (.int .i64 0), .d (.int .i64 1), .d (.int .i64 0), .d (.int .i64 1)]) (p_build bld39) ?_
  refine bCall (caps := []) (v := (u0 ((.agg [.d (.int .i64 2), .d (.int .i64 1)] : V)))) (H' := (u0 (([] : List Blk)))) [] _ (law33_whole_goes k 2) (ho := rfl) (hfn := Try.func18) (hb := rfl) (hconv := ConvRs.refl _ _) (hnd := by decide) (hBl := fun _ => (by kernel_rfl)) (hv := fun _ => (by kernel_rfl)) (hH' := fun _ => (by kernel_rfl)) (h := fun r => ?_)
  cases r
  refine bU0 ?_
  refine bCall (caps := []) (v := (u0 ((.agg [.d (.int .i64 4), .d (.int .i64 1)] : V)))) (H' := (u0 (([] : List Blk)))) [] _ (law33_whole_goes k 4) (ho := rfl) (hfn := Try.func18) (hb := rfl) (hconv := ConvRs.refl _ _) (hnd := by decide) (hBl := fun _ => (by kernel_rfl)) (hv := fun _ => (by kernel_rfl)) (hH' := fun _ => (by kernel_rfl)) (h := fun r => ?_)
  cases r
  refine bU0 ?_
  refine oP (.agg [.d (.int .i64 2), .d (.int .i64 1), .d (.int .i64 4), .d (.int .i64 1)]) (p_build bld39) ?_
  refine bCall (caps := []) (v := (u0 ((.agg [.d (.int .i64 3), .d (.int .i64 1)] : V)))) (H' := (u0 (([] : List Blk)))) [] _ (law33_whole_goes k 3) (ho := rfl) (hfn := Try.func18) (hb := rfl) (hconv := ConvRs.refl _ _) (hnd := by decide) (hBl := fun _ => (by kernel_rfl)) (hv := fun _ => (by kernel_rfl)) (hH' := fun _ => (by kernel_rfl)) (h := fun r => ?_)
  cases r
  refine bU0 ?_
  refine bCall (caps := []) (v := (u0 ((.agg [.d (.int .i64 5), .d (.int .i64 1)] : V)))) (H' := (u0 (([] : List Blk)))) [] _ (law33_whole_goes k 5) (ho := rfl) (hfn := Try.func18) (hb := rfl) (hconv := ConvRs.refl _ _) (hnd := by decide) (hBl := fun _ => (by kernel_rfl)) (hv := fun _ => (by kernel_rfl)) (hH' := fun _ => (by kernel_rfl)) (h := fun r => ?_)
  cases r
  refine bU0 ?_
  refine oP (.agg [.d (.int .i64 3), .d (.int .i64 1), .d (.int .i64 5), .d (.int .i64 1)]) (p_build bld39) ?_
  refine oD (.ref 0 (List.length ([(⟨0, 1, 0, 1⟩ : SPoint), (⟨2, 1, 4, 1⟩ : SPoint), (⟨3, 1, 5, 1⟩ : SPoint)] : List SPoint)) 0 (List.length ([(⟨0, 1, 0, 1⟩ : SPoint), (⟨2, 1, 4, 1⟩ : SPoint), (⟨3, 1, 5, 1⟩ : SPoint)] : List SPoint))) (k_buildSlice (H' := [.sl 4 (List.map e_SPoint ([(⟨0, 1, 0, 1⟩ : SPoint), (⟨2, 1, 4, 1⟩ : SPoint), (⟨3, 1, 5, 1⟩ : SPoint)] : List SPoint)) false]) (List.map e_SPoint ([(⟨0, 1, 0, 1⟩ : SPoint), (⟨2, 1, 4, 1⟩ : SPoint), (⟨3, 1, 5, 1⟩ : SPoint)] : List SPoint)) Try.underlying27 ty39) ?_
  refine oP (.agg [.ref 0 (List.length ([(⟨0, 1, 0, 1⟩ : SPoint), (⟨2, 1, 4, 1⟩ : SPoint), (⟨3, 1, 5, 1⟩ : SPoint)] : List SPoint)) 0 (List.length ([(⟨0, 1, 0, 1⟩ : SPoint), (⟨2, 1, 4, 1⟩ : SPoint), (⟨3, 1, 5, 1⟩ : SPoint)] : List SPoint))]) (p_build bld29) ?_
  refine oD (.ptr 1 0) (k_alloc (H' := [.sl 4 (List.map e_SPoint ([(⟨0, 1, 0, 1⟩ : SPoint), (⟨2, 1, 4, 1⟩ : SPoint), (⟨3, 1, 5, 1⟩ : SPoint)] : List SPoint)) false, .box [.nilc]]) ty29) ?_
  refine oD (.undef) (k_store (vs := [.ref 0 (List.length ([(⟨0, 1, 0, 1⟩ : SPoint), (⟨2, 1, 4, 1⟩ : SPoint), (⟨3, 1, 5, 1⟩ : SPoint)] : List SPoint)) 0 (List.length ([(⟨0, 1, 0, 1⟩ : SPoint), (⟨2, 1, 4, 1⟩ : SPoint), (⟨3, 1, 5, 1⟩ : SPoint)] : List SPoint))]) (H' := [.sl 4 (List.map e_SPoint ([(⟨0, 1, 0, 1⟩ : SPoint), (⟨2, 1, 4, 1⟩ : SPoint), (⟨3, 1, 5, 1⟩ : SPoint)] : List SPoint)) false, .box [.ref 0 (List.length ([(⟨0, 1, 0, 1⟩ : SPoint), (⟨2, 1, 4, 1⟩ : SPoint), (⟨3, 1, 5, 1⟩ : SPoint)] : List SPoint)) 0 (List.length ([(⟨0, 1, 0, 1⟩ : SPoint), (⟨2, 1, 4, 1⟩ : SPoint), (⟨3, 1, 5, 1⟩ : SPoint)] : List SPoint))]]) 1 0 (hi := ty29)) ?_
  refine oEnd ?_
  refine oSeq ?_
  refine oDraw [(0, 2), (1, 9)] rfl ?_
  refine aQ 0 [1] (.agg [.ref 0 (List.length ([(⟨0, 1, 0, 1⟩ : SPoint), (⟨2, 1, 4, 1⟩ : SPoint), (⟨3, 1, 5, 1⟩ : SPoint)] : List SPoint)) 0 (List.length ([(⟨0, 1, 0, 1⟩ : SPoint), (⟨2, 1, 4, 1⟩ : SPoint), (⟨3, 1, 5, 1⟩ : SPoint)] : List SPoint))]) rfl (k_loadAgg 1 0 (hu := Try.underlying29) (hi := ty29)) ?_
  refine dCall (i := 1) (caps := []) (v := (u0 ((.agg [.d (.int .i64 1), .d (.int .i64 1)] : V)))) (H' := (u0 (([.sl 4 (List.map e_SPoint ([(⟨0, 1, 0, 1⟩ : SPoint), (⟨2, 1, 4, 1⟩ : SPoint), (⟨3, 1, 5, 1⟩ : SPoint)] : List SPoint)) false, .box [.ref 0 (List.length ([(⟨0, 1, 0, 1⟩ : SPoint), (⟨2, 1, 4, 1⟩ : SPoint), (⟨3, 1, 5, 1⟩ : SPoint)] : List SPoint)) 0 (List.length ([(⟨0, 1, 0, 1⟩ : SPoint), (⟨2, 1, 4, 1⟩ : SPoint), (⟨3, 1, 5, 1⟩ : SPoint)] : List SPoint))]] : List Blk)))) [] _ (law33_whole_goes k 1) rfl (ho := rfl) (hfn := Try.func18) (hb := rfl) (hconv := ConvRs.refl _ _) (hnd := by decide) (hBl := fun _ => (by kernel_rfl)) (hv := fun _ => (by kernel_rfl)) (hH' := fun _ => (by kernel_rfl)) (h := fun r => ?_)
  cases r
  refine dU0 ?_
  refine dCall (i := 2) (caps := []) (v := (uc fun (r11 : Int) => (uc fun (r13 : Int) => (fun (r14 : Int) => (.tuple [.agg [.d (.int .i64 r11), .d (.int .i64 r13)], .d (.int .i64 r14)] : V))))) (H' := (uc fun (r11 : Int) => (uc fun (r13 : Int) => (fun (r14 : Int) => ([.sl 4 (List.map e_SPoint ([(⟨0, 1, 0, 1⟩ : SPoint), (⟨2, 1, 4, 1⟩ : SPoint), (⟨3, 1, 5, 1⟩ : SPoint)] : List SPoint)) true, .box [.ref 0 (List.length ([(⟨0, 1, 0, 1⟩ : SPoint), (⟨2, 1, 4, 1⟩ : SPoint), (⟨3, 1, 5, 1⟩ : SPoint)] : List SPoint)) 0 (List.length ([(⟨0, 1, 0, 1⟩ : SPoint), (⟨2, 1, 4, 1⟩ : SPoint), (⟨3, 1, 5, 1⟩ : SPoint)] : List SPoint))]] : List Blk))))) [0] _ (conversion_Eval_goes k 1 1 ([(⟨0, 1, 0, 1⟩ : SPoint), (⟨2, 1, 4, 1⟩ : SPoint), (⟨3, 1, 5, 1⟩ : SPoint)] : List SPoint)) rfl (ho := rfl) (hfn := Try.func13) (hb := rfl) (hconv := ConvRs.refl _ _) (hnd := by decide) (hBl := fun _ => (by kernel_rfl)) (hv := fun _ => (by kernel_rfl)) (hH' := fun _ => (by kernel_rfl)) (h := fun r => ?_)
  obtain ⟨r11, r13, r14⟩ := r
  refine dUc ?_
  refine dUc ?_
  refine aTakeP (i := 3) (.tuple [.agg [.d (.int .i64 r11), .d (.int .i64 r13)], .d (.int .i64 r14)]) rfl (hp := p_move) (h := ?_)
  refine aTakeP (i := 4) (.agg [.d (.int .i64 r11), .d (.int .i64 r13)]) rfl (hp := k_extract) (h := ?_)
  refine aTakeP (i := 5) (.d (.int .i64 r14)) rfl (hp := k_extract) (h := ?_)
  refine aAlloc (i := 6) (d := 2) rfl (hop := rfl) (hd := rfl) (hty := ty37) (cells := [.d (.int .i64 0), .d (.int .i64 0)]) (h := ?_)
  refine dView (H' := [.sl 4 (List.map e_SPoint ([(⟨0, 1, 0, 1⟩ : SPoint), (⟨2, 1, 4, 1⟩ : SPoint), (⟨3, 1, 5, 1⟩ : SPoint)] : List SPoint)) true, .box [.ref 0 (List.length ([(⟨0, 1, 0, 1⟩ : SPoint), (⟨2, 1, 4, 1⟩ : SPoint), (⟨3, 1, 5, 1⟩ : SPoint)] : List SPoint)) 0 (List.length ([(⟨0, 1, 0, 1⟩ : SPoint), (⟨2, 1, 4, 1⟩ : SPoint), (⟨3, 1, 5, 1⟩ : SPoint)] : List SPoint))], .box [.d (.int .i64 0), .d (.int .i64 0)]]) rfl rfl (h := ?_)
  refine aOne (i := 7) (v := .undef) rfl (hac := (Does.acts (k_store (vs := [.d (.int .i64 r11), .d (.int .i64 r13)]) (H' := [.sl 4 (List.map e_SPoint ([(⟨0, 1, 0, 1⟩ : SPoint), (⟨2, 1, 4, 1⟩ : SPoint), (⟨3, 1, 5, 1⟩ : SPoint)] : List SPoint)) true, .box [.ref 0 (List.length ([(⟨0, 1, 0, 1⟩ : SPoint), (⟨2, 1, 4, 1⟩ : SPoint), (⟨3, 1, 5, 1⟩ : SPoint)] : List SPoint)) 0 (List.length ([(⟨0, 1, 0, 1⟩ : SPoint), (⟨2, 1, 4, 1⟩ : SPoint), (⟨3, 1, 5, 1⟩ : SPoint)] : List SPoint))], .box [.d (.int .i64 r11), .d (.int .i64 r13)]]) 2 0 (hi := ty37)))) (h := ?_)
  refine aP 8 (.d (.int .i64 r14)) rfl p_assign ?_
  refine aDone (h := ?_)
  refine oSeq ?_
  refine oDraw [(0, 9), (1, 9), (2, 9)] rfl ?_
  refine aQ 0 [1] (.agg [.ref 0 (List.length ([(⟨0, 1, 0, 1⟩ : SPoint), (⟨2, 1, 4, 1⟩ : SPoint), (⟨3, 1, 5, 1⟩ : SPoint)] : List SPoint)) 0 (List.length ([(⟨0, 1, 0, 1⟩ : SPoint), (⟨2, 1, 4, 1⟩ : SPoint), (⟨3, 1, 5, 1⟩ : SPoint)] : List SPoint))]) rfl (k_loadAgg 1 0 (hu := Try.underlying29) (hi := ty29)) ?_
  refine dCall (i := 1) (caps := []) (v := (u0 ((.agg [.d (.int .i64 4), .d (.int .i64 1)] : V)))) (H' := (u0 (([.sl 4 (List.map e_SPoint ([(⟨0, 1, 0, 1⟩ : SPoint), (⟨2, 1, 4, 1⟩ : SPoint), (⟨3, 1, 5, 1⟩ : SPoint)] : List SPoint)) true, .box [.ref 0 (List.length ([(⟨0, 1, 0, 1⟩ : SPoint), (⟨2, 1, 4, 1⟩ : SPoint), (⟨3, 1, 5, 1⟩ : SPoint)] : List SPoint)) 0 (List.length ([(⟨0, 1, 0, 1⟩ : SPoint), (⟨2, 1, 4, 1⟩ : SPoint), (⟨3, 1, 5, 1⟩ : SPoint)] : List SPoint))], .box [.d (.int .i64 r11), .d (.int .i64 r13)]] : List Blk)))) [] _ (law33_whole_goes k 4) rfl (ho := rfl) (hfn := Try.func18) (hb := rfl) (hconv := ConvRs.refl _ _) (hnd := by decide) (hBl := fun _ => (by kernel_rfl)) (hv := fun _ => (by kernel_rfl)) (hH' := fun _ => (by kernel_rfl)) (h := fun r => ?_)
  cases r
  refine dU0 ?_
  refine dCall (i := 2) (caps := []) (v := (uc fun (r111 : Int) => (uc fun (r131 : Int) => (fun (r141 : Int) => (.tuple [.agg [.d (.int .i64 r111), .d (.int .i64 r131)], .d (.int .i64 r141)] : V))))) (H' := (uc fun (r111 : Int) => (uc fun (r131 : Int) => (fun (r141 : Int) => ([.sl 4 (List.map e_SPoint ([(⟨0, 1, 0, 1⟩ : SPoint), (⟨2, 1, 4, 1⟩ : SPoint), (⟨3, 1, 5, 1⟩ : SPoint)] : List SPoint)) true, .box [.ref 0 (List.length ([(⟨0, 1, 0, 1⟩ : SPoint), (⟨2, 1, 4, 1⟩ : SPoint), (⟨3, 1, 5, 1⟩ : SPoint)] : List SPoint)) 0 (List.length ([(⟨0, 1, 0, 1⟩ : SPoint), (⟨2, 1, 4, 1⟩ : SPoint), (⟨3, 1, 5, 1⟩ : SPoint)] : List SPoint))], .box [.d (.int .i64 r11), .d (.int .i64 r13)]] : List Blk))))) [] _ (conversion_Eval_2_goes k ([(⟨0, 1, 0, 1⟩ : SPoint), (⟨2, 1, 4, 1⟩ : SPoint), (⟨3, 1, 5, 1⟩ : SPoint)] : List SPoint) 4 1) rfl (ho := rfl) (hfn := Try.func13) (hb := rfl) (hconv := (convList (vs0 := [.agg [.ref 0 (List.length ([(⟨0, 1, 0, 1⟩ : SPoint), (⟨2, 1, 4, 1⟩ : SPoint), (⟨3, 1, 5, 1⟩ : SPoint)] : List SPoint)) 0 (List.length ([(⟨0, 1, 0, 1⟩ : SPoint), (⟨2, 1, 4, 1⟩ : SPoint), (⟨3, 1, 5, 1⟩ : SPoint)] : List SPoint))], .agg [.d (.int .i64 4), .d (.int .i64 1)]]) (vs := [.agg [.d (.lit (List.map e_SPoint ([(⟨0, 1, 0, 1⟩ : SPoint), (⟨2, 1, 4, 1⟩ : SPoint), (⟨3, 1, 5, 1⟩ : SPoint)] : List SPoint)))], .agg [.d (.int .i64 4), .d (.int .i64 1)]]) (p := (.cons _ _ _ _ (.agg _ _ (.cons _ _ _ _ (k_lit (enc := e_SPoint) (sz := 4) 0 ([(⟨0, 1, 0, 1⟩ : SPoint), (⟨2, 1, 4, 1⟩ : SPoint), (⟨3, 1, 5, 1⟩ : SPoint)] : List SPoint)) .nil)) (.cons _ _ _ _ (.same _) .nil))))) (hnd := by decide) (hBl := fun _ => (by kernel_rfl)) (hv := fun _ => (by kernel_rfl)) (hH' := fun _ => (by kernel_rfl)) (h := fun r => ?_)
  obtain ⟨r111, r131, r141⟩ := r
  refine dUc ?_
  refine dUc ?_
  refine aTakeP (i := 3) (.tuple [.agg [.d (.int .i64 r111), .d (.int .i64 r131)], .d (.int .i64 r141)]) rfl (hp := p_move) (h := ?_)
  refine aTakeP (i := 4) (.agg [.d (.int .i64 r111), .d (.int .i64 r131)]) rfl (hp := k_extract) (h := ?_)
  refine aTakeP (i := 5) (.d (.int .i64 r141)) rfl (hp := k_extract) (h := ?_)
  refine aAlloc (i := 6) (d := 4) rfl (hop := rfl) (hd := rfl) (hty := ty37) (cells := [.d (.int .i64 0), .d (.int .i64 0)]) (h := ?_)
  refine dView (H' := [.sl 4 (List.map e_SPoint ([(⟨0, 1, 0, 1⟩ : SPoint), (⟨2, 1, 4, 1⟩ : SPoint), (⟨3, 1, 5, 1⟩ : SPoint)] : List SPoint)) true, .box [.ref 0 (List.length ([(⟨0, 1, 0, 1⟩ : SPoint), (⟨2, 1, 4, 1⟩ : SPoint), (⟨3, 1, 5, 1⟩ : SPoint)] : List SPoint)) 0 (List.length ([(⟨0, 1, 0, 1⟩ : SPoint), (⟨2, 1, 4, 1⟩ : SPoint), (⟨3, 1, 5, 1⟩ : SPoint)] : List SPoint))], .box [.d (.int .i64 r11), .d (.int .i64 r13)], .box [.d (.int .i64 0), .d (.int .i64 0)]]) rfl rfl (h := ?_)
  refine aOne (i := 7) (v := .undef) rfl (hac := (Does.acts (k_store (vs := [.d (.int .i64 r111), .d (.int .i64 r131)]) (H' := [.sl 4 (List.map e_SPoint ([(⟨0, 1, 0, 1⟩ : SPoint), (⟨2, 1, 4, 1⟩ : SPoint), (⟨3, 1, 5, 1⟩ : SPoint)] : List SPoint)) true, .box [.ref 0 (List.length ([(⟨0, 1, 0, 1⟩ : SPoint), (⟨2, 1, 4, 1⟩ : SPoint), (⟨3, 1, 5, 1⟩ : SPoint)] : List SPoint)) 0 (List.length ([(⟨0, 1, 0, 1⟩ : SPoint), (⟨2, 1, 4, 1⟩ : SPoint), (⟨3, 1, 5, 1⟩ : SPoint)] : List SPoint))], .box [.d (.int .i64 r11), .d (.int .i64 r13)], .box [.d (.int .i64 r111), .d (.int .i64 r131)]]) 3 0 (hi := ty37)))) (h := ?_)
  refine aP 8 (.d (.int .i64 r141)) rfl p_assign ?_
  refine aDone (h := ?_)
  refine oSR rfl ?_
  refine oQ (.agg [.ref 0 (List.length ([(⟨0, 1, 0, 1⟩ : SPoint), (⟨2, 1, 4, 1⟩ : SPoint), (⟨3, 1, 5, 1⟩ : SPoint)] : List SPoint)) 0 (List.length ([(⟨0, 1, 0, 1⟩ : SPoint), (⟨2, 1, 4, 1⟩ : SPoint), (⟨3, 1, 5, 1⟩ : SPoint)] : List SPoint))]) (k_loadAgg 1 0 (hu := Try.underlying29) (hi := ty29)) ?_
  refine bCall (caps := []) (v := (uc fun (r121 : (List SPoint)) => (fun (r134 : Int) => (.tuple [.agg [.d (.lit (List.map e_SPoint r121))], .d (.int .i64 r134)] : V)))) (H' := (uc fun (r121 : (List SPoint)) => (fun (r134 : Int) => ([.sl 4 (List.map e_SPoint ([(⟨0, 1, 0, 1⟩ : SPoint), (⟨2, 1, 4, 1⟩ : SPoint), (⟨3, 1, 5, 1⟩ : SPoint)] : List SPoint)) true, .box [.ref 0 (List.length ([(⟨0, 1, 0, 1⟩ : SPoint), (⟨2, 1, 4, 1⟩ : SPoint), (⟨3, 1, 5, 1⟩ : SPoint)] : List SPoint)) 0 (List.length ([(⟨0, 1, 0, 1⟩ : SPoint), (⟨2, 1, 4, 1⟩ : SPoint), (⟨3, 1, 5, 1⟩ : SPoint)] : List SPoint))], .box [.d (.int .i64 r11), .d (.int .i64 r13)], .box [.d (.int .i64 r111), .d (.int .i64 r131)]] : List Blk)))) [] _ (conversion_Normal_goes k ([(⟨0, 1, 0, 1⟩ : SPoint), (⟨2, 1, 4, 1⟩ : SPoint), (⟨3, 1, 5, 1⟩ : SPoint)] : List SPoint)) (ho := rfl) (hfn := Try.func10) (hb := rfl) (hconv := (convList (vs0 := [.agg [.ref 0 (List.length ([(⟨0, 1, 0, 1⟩ : SPoint), (⟨2, 1, 4, 1⟩ : SPoint), (⟨3, 1, 5, 1⟩ : SPoint)] : List SPoint)) 0 (List.length ([(⟨0, 1, 0, 1⟩ : SPoint), (⟨2, 1, 4, 1⟩ : SPoint), (⟨3, 1, 5, 1⟩ : SPoint)] : List SPoint))]]) (vs := [.agg [.d (.lit (List.map e_SPoint ([(⟨0, 1, 0, 1⟩ : SPoint), (⟨2, 1, 4, 1⟩ : SPoint), (⟨3, 1, 5, 1⟩ : SPoint)] : List SPoint)))]]) (p := (.cons _ _ _ _ (.agg _ _ (.cons _ _ _ _ (k_lit (enc := e_SPoint) (sz := 4) 0 ([(⟨0, 1, 0, 1⟩ : SPoint), (⟨2, 1, 4, 1⟩ : SPoint), (⟨3, 1, 5, 1⟩ : SPoint)] : List SPoint)) .nil)) .nil)))) (hnd := by decide) (hBl := fun _ => (by kernel_rfl)) (hv := fun _ => (by kernel_rfl)) (hH' := fun _ => (by kernel_rfl)) (h := fun r => ?_)
  obtain ⟨r121, r134⟩ := r
  refine bUc ?_
  refine oP (.tuple [.agg [.d (.lit (List.map e_SPoint r121))], .d (.int .i64 r134)]) p_move ?_
  refine oP (.agg [.d (.lit (List.map e_SPoint r121))]) k_extract ?_
  refine oP (.d (.int .i64 r134)) k_extract ?_
  refine oD (.ptr 4 0) (k_alloc (H' := [.sl 4 (List.map e_SPoint ([(⟨0, 1, 0, 1⟩ : SPoint), (⟨2, 1, 4, 1⟩ : SPoint), (⟨3, 1, 5, 1⟩ : SPoint)] : List SPoint)) true, .box [.ref 0 (List.length ([(⟨0, 1, 0, 1⟩ : SPoint), (⟨2, 1, 4, 1⟩ : SPoint), (⟨3, 1, 5, 1⟩ : SPoint)] : List SPoint)) 0 (List.length ([(⟨0, 1, 0, 1⟩ : SPoint), (⟨2, 1, 4, 1⟩ : SPoint), (⟨3, 1, 5, 1⟩ : SPoint)] : List SPoint))], .box [.d (.int .i64 r11), .d (.int .i64 r13)], .box [.d (.int .i64 r111), .d (.int .i64 r131)], .box [.nilc]]) ty29) ?_
  refine oD (.undef) (k_store (vs := [.d (.lit (List.map e_SPoint r121))]) (H' := [.sl 4 (List.map e_SPoint ([(⟨0, 1, 0, 1⟩ : SPoint), (⟨2, 1, 4, 1⟩ : SPoint), (⟨3, 1, 5, 1⟩ : SPoint)] : List SPoint)) true, .box [.ref 0 (List.length ([(⟨0, 1, 0, 1⟩ : SPoint), (⟨2, 1, 4, 1⟩ : SPoint), (⟨3, 1, 5, 1⟩ : SPoint)] : List SPoint)) 0 (List.length ([(⟨0, 1, 0, 1⟩ : SPoint), (⟨2, 1, 4, 1⟩ : SPoint), (⟨3, 1, 5, 1⟩ : SPoint)] : List SPoint))], .box [.d (.int .i64 r11), .d (.int .i64 r13)], .box [.d (.int .i64 r111), .d (.int .i64 r131)], .box [.d (.lit (List.map e_SPoint r121))]]) 4 0 (hi := ty29)) ?_
  refine oP (.d (.int .i64 r134)) p_assign ?_
  refine oEnd ?_
  refine oSR rfl ?_
  refine bCall (caps := []) (v := (u0 ((.agg [.d (.int .i64 2), .d (.int .i64 1)] : V)))) (H' := (u0 (([.sl 4 (List.map e_SPoint ([(⟨0, 1, 0, 1⟩ : SPoint), (⟨2, 1, 4, 1⟩ : SPoint), (⟨3, 1, 5, 1⟩ : SPoint)] : List SPoint)) true, .box [.ref 0 (List.length ([(⟨0, 1, 0, 1⟩ : SPoint), (⟨2, 1, 4, 1⟩ : SPoint), (⟨3, 1, 5, 1⟩ : SPoint)] : List SPoint)) 0 (List.length ([(⟨0, 1, 0, 1⟩ : SPoint), (⟨2, 1, 4, 1⟩ : SPoint), (⟨3, 1, 5, 1⟩ : SPoint)] : List SPoint))], .box [.d (.int .i64 r11), .d (.int .i64 r13)], .box [.d (.int .i64 r111), .d (.int .i64 r131)], .box [.d (.lit (List.map e_SPoint r121))]] : List Blk)))) [] _ (law33_whole_goes k 2) (ho := rfl) (hfn := Try.func18) (hb := rfl) (hconv := ConvRs.refl _ _) (hnd := by decide) (hBl := fun _ => (by kernel_rfl)) (hv := fun _ => (by kernel_rfl)) (hH' := fun _ => (by kernel_rfl)) (h := fun r => ?_)
  cases r
  refine bU0 ?_
  refine bCall (caps := []) (v := (u0 ((.agg [.d (.int .i64 1), .d (.int .i64 1)] : V)))) (H' := (u0 (([.sl 4 (List.map e_SPoint ([(⟨0, 1, 0, 1⟩ : SPoint), (⟨2, 1, 4, 1⟩ : SPoint), (⟨3, 1, 5, 1⟩ : SPoint)] : List SPoint)) true, .box [.ref 0 (List.length ([(⟨0, 1, 0, 1⟩ : SPoint), (⟨2, 1, 4, 1⟩ : SPoint), (⟨3, 1, 5, 1⟩ : SPoint)] : List SPoint)) 0 (List.length ([(⟨0, 1, 0, 1⟩ : SPoint), (⟨2, 1, 4, 1⟩ : SPoint), (⟨3, 1, 5, 1⟩ : SPoint)] : List SPoint))], .box [.d (.int .i64 r11), .d (.int .i64 r13)], .box [.d (.int .i64 r111), .d (.int .i64 r131)], .box [.d (.lit (List.map e_SPoint r121))]] : List Blk)))) [] _ (law33_whole_goes k 1) (ho := rfl) (hfn := Try.func18) (hb := rfl) (hconv := ConvRs.refl _ _) (hnd := by decide) (hBl := fun _ => (by kernel_rfl)) (hv := fun _ => (by kernel_rfl)) (hH' := fun _ => (by kernel_rfl)) (h := fun r => ?_)
  cases r
  refine bU0 ?_
  refine bCall (caps := []) (v := (uc fun (r135 : (List SPoint)) => (fun (r143 : Int) => (.tuple [.agg [.d (.lit (List.map e_SPoint r135))], .d (.int .i64 r143)] : V)))) (H' := (uc fun (r135 : (List SPoint)) => (fun (r143 : Int) => ([.sl 4 (List.map e_SPoint ([(⟨0, 1, 0, 1⟩ : SPoint), (⟨2, 1, 4, 1⟩ : SPoint), (⟨3, 1, 5, 1⟩ : SPoint)] : List SPoint)) true, .box [.ref 0 (List.length ([(⟨0, 1, 0, 1⟩ : SPoint), (⟨2, 1, 4, 1⟩ : SPoint), (⟨3, 1, 5, 1⟩ : SPoint)] : List SPoint)) 0 (List.length ([(⟨0, 1, 0, 1⟩ : SPoint), (⟨2, 1, 4, 1⟩ : SPoint), (⟨3, 1, 5, 1⟩ : SPoint)] : List SPoint))], .box [.d (.int .i64 r11), .d (.int .i64 r13)], .box [.d (.int .i64 r111), .d (.int .i64 r131)], .box [.d (.lit (List.map e_SPoint r121))]] : List Blk)))) [] _ (conversion_Line_goes k 2 1 1 1) (ho := rfl) (hfn := Try.func17) (hb := rfl) (hconv := ConvRs.refl _ _) (hnd := by decide) (hBl := fun _ => (by kernel_rfl)) (hv := fun _ => (by kernel_rfl)) (hH' := fun _ => (by kernel_rfl)) (h := fun r => ?_)
  obtain ⟨r135, r143⟩ := r
  refine bUc ?_
  refine oP (.tuple [.agg [.d (.lit (List.map e_SPoint r135))], .d (.int .i64 r143)]) p_move ?_
  refine oP (.agg [.d (.lit (List.map e_SPoint r135))]) k_extract ?_
  refine oP (.d (.int .i64 r143)) k_extract ?_
  refine oD (.ptr 5 0) (k_alloc (H' := [.sl 4 (List.map e_SPoint ([(⟨0, 1, 0, 1⟩ : SPoint), (⟨2, 1, 4, 1⟩ : SPoint), (⟨3, 1, 5, 1⟩ : SPoint)] : List SPoint)) true, .box [.ref 0 (List.length ([(⟨0, 1, 0, 1⟩ : SPoint), (⟨2, 1, 4, 1⟩ : SPoint), (⟨3, 1, 5, 1⟩ : SPoint)] : List SPoint)) 0 (List.length ([(⟨0, 1, 0, 1⟩ : SPoint), (⟨2, 1, 4, 1⟩ : SPoint), (⟨3, 1, 5, 1⟩ : SPoint)] : List SPoint))], .box [.d (.int .i64 r11), .d (.int .i64 r13)], .box [.d (.int .i64 r111), .d (.int .i64 r131)], .box [.d (.lit (List.map e_SPoint r121))], .box [.nilc]]) ty29) ?_
  refine oD (.undef) (k_store (vs := [.d (.lit (List.map e_SPoint r135))]) (H' := [.sl 4 (List.map e_SPoint ([(⟨0, 1, 0, 1⟩ : SPoint), (⟨2, 1, 4, 1⟩ : SPoint), (⟨3, 1, 5, 1⟩ : SPoint)] : List SPoint)) true, .box [.ref 0 (List.length ([(⟨0, 1, 0, 1⟩ : SPoint), (⟨2, 1, 4, 1⟩ : SPoint), (⟨3, 1, 5, 1⟩ : SPoint)] : List SPoint)) 0 (List.length ([(⟨0, 1, 0, 1⟩ : SPoint), (⟨2, 1, 4, 1⟩ : SPoint), (⟨3, 1, 5, 1⟩ : SPoint)] : List SPoint))], .box [.d (.int .i64 r11), .d (.int .i64 r13)], .box [.d (.int .i64 r111), .d (.int .i64 r131)], .box [.d (.lit (List.map e_SPoint r121))], .box [.d (.lit (List.map e_SPoint r135))]]) 5 0 (hi := ty29)) ?_
  refine oP (.d (.int .i64 r143)) p_assign ?_
  refine oEnd ?_
  refine oSeq ?_
  refine oDraw [(0, 57), (1, 57), (2, 57), (3, 57), (4, 57), (5, 57)] rfl ?_
  refine aP 0 (.d (.int .i64 r14)) rfl p_move ?_
  refine aP 1 (.d (.bool (r14 == 0))) rfl (p_int (k := .i64) (p := r14) (q := 0)) ?_
  refine aP 2 (.d (.bool (r14 == 0))) rfl p_move ?_
  refine dMeetF [5, 4, 3, 2, 1, 0] (fun (x27 : Bool) => [(2, .ptr 2 0), (4, .ptr 3 0), (6, .ptr 4 0), (7, .d (.int .i64 r134)), (8, .ptr 5 0), (9, .d (.int .i64 r143)), (49, .d (.bool x27))]) (fun (x27 : Bool) => [(2, .ptr 2 0), (4, .ptr 3 0), (6, .ptr 4 0), (7, .d (.int .i64 r134)), (8, .ptr 5 0), (9, .d (.int .i64 r143)), (49, .d (.bool x27))]) (H' := [.sl 4 (List.map e_SPoint ([(⟨0, 1, 0, 1⟩ : SPoint), (⟨2, 1, 4, 1⟩ : SPoint), (⟨3, 1, 5, 1⟩ : SPoint)] : List SPoint)) true, .box [.ref 0 (List.length ([(⟨0, 1, 0, 1⟩ : SPoint), (⟨2, 1, 4, 1⟩ : SPoint), (⟨3, 1, 5, 1⟩ : SPoint)] : List SPoint)) 0 (List.length ([(⟨0, 1, 0, 1⟩ : SPoint), (⟨2, 1, 4, 1⟩ : SPoint), (⟨3, 1, 5, 1⟩ : SPoint)] : List SPoint))], .box [.d (.int .i64 r11), .d (.int .i64 r13)], .box [.d (.int .i64 r111), .d (.int .i64 r131)], .box [.d (.lit (List.map e_SPoint r121))], .box [.d (.lit (List.map e_SPoint r135))]]) (fun x27 => ?_) (fun F hj10 => ?_)
  ·refine aP 6 (.d (.bool x27)) rfl p_move ?_
   refine dMeetF [9, 8, 7, 6, 5, 4, 3, 2, 1, 0] (fun (x28 : Bool) => [(2, .ptr 2 0), (4, .ptr 3 0), (6, .ptr 4 0), (8, .ptr 5 0), (9, .d (.int .i64 r143)), (53, .d (.bool x28))]) (fun (x28 : Bool) => [(2, .ptr 2 0), (4, .ptr 3 0), (6, .ptr 4 0), (8, .ptr 5 0), (9, .d (.int .i64 r143)), (53, .d (.bool x28))]) (H' := [.sl 4 (List.map e_SPoint ([(⟨0, 1, 0, 1⟩ : SPoint), (⟨2, 1, 4, 1⟩ : SPoint), (⟨3, 1, 5, 1⟩ : SPoint)] : List SPoint)) true, .box [.ref 0 (List.length ([(⟨0, 1, 0, 1⟩ : SPoint), (⟨2, 1, 4, 1⟩ : SPoint), (⟨3, 1, 5, 1⟩ : SPoint)] : List SPoint)) 0 (List.length ([(⟨0, 1, 0, 1⟩ : SPoint), (⟨2, 1, 4, 1⟩ : SPoint), (⟨3, 1, 5, 1⟩ : SPoint)] : List SPoint))], .box [.d (.int .i64 r11), .d (.int .i64 r13)], .box [.d (.int .i64 r111), .d (.int .i64 r131)], .box [.d (.lit (List.map e_SPoint r121))], .box [.d (.lit (List.map e_SPoint r135))]]) (fun x28 => ?_) (fun F hj11 => ?_)
   ·refine aP 10 (.d (.bool x28)) rfl p_move ?_
    refine dMeetF [13, 12, 11, 10, 9, 8, 7, 6, 5, 4, 3, 2, 1, 0] (fun (x29 : Bool) => [(2, .ptr 2 0), (4, .ptr 3 0), (6, .ptr 4 0), (8, .ptr 5 0), (57, .d (.bool x29))]) (fun (x29 : Bool) => [(2, .ptr 2 0), (4, .ptr 3 0), (6, .ptr 4 0), (8, .ptr 5 0), (57, .d (.bool x29))]) (H' := [.sl 4 (List.map e_SPoint ([(⟨0, 1, 0, 1⟩ : SPoint), (⟨2, 1, 4, 1⟩ : SPoint), (⟨3, 1, 5, 1⟩ : SPoint)] : List SPoint)) true, .box [.ref 0 (List.length ([(⟨0, 1, 0, 1⟩ : SPoint), (⟨2, 1, 4, 1⟩ : SPoint), (⟨3, 1, 5, 1⟩ : SPoint)] : List SPoint)) 0 (List.length ([(⟨0, 1, 0, 1⟩ : SPoint), (⟨2, 1, 4, 1⟩ : SPoint), (⟨3, 1, 5, 1⟩ : SPoint)] : List SPoint))], .box [.d (.int .i64 r11), .d (.int .i64 r13)], .box [.d (.int .i64 r111), .d (.int .i64 r131)], .box [.d (.lit (List.map e_SPoint r121))], .box [.d (.lit (List.map e_SPoint r135))]]) (fun x29 => ?_) (fun F hj12 => ?_)
    ·refine aP 14 (.d (.bool x29)) rfl p_move ?_
     refine dMeet [18, 17, 16, 15, 14, 13, 12, 11, 10, 9, 8, 7, 6, 5, 4, 3, 2, 1, 0] (fun (x30 : Bool) => [(4, .ptr 3 0), (6, .ptr 4 0), (8, .ptr 5 0), (62, .d (.bool x30))]) (fun (x30 : Bool) => [(4, .ptr 3 0), (6, .ptr 4 0), (8, .ptr 5 0), (62, .d (.bool x30))]) (fun _ => [.sl 4 (List.map e_SPoint ([(⟨0, 1, 0, 1⟩ : SPoint), (⟨2, 1, 4, 1⟩ : SPoint), (⟨3, 1, 5, 1⟩ : SPoint)] : List SPoint)) true, .box [.ref 0 (List.length ([(⟨0, 1, 0, 1⟩ : SPoint), (⟨2, 1, 4, 1⟩ : SPoint), (⟨3, 1, 5, 1⟩ : SPoint)] : List SPoint)) 0 (List.length ([(⟨0, 1, 0, 1⟩ : SPoint), (⟨2, 1, 4, 1⟩ : SPoint), (⟨3, 1, 5, 1⟩ : SPoint)] : List SPoint))], .box [.d (.int .i64 r11), .d (.int .i64 r13)], .box [.d (.int .i64 r111), .d (.int .i64 r131)], .box [.d (.lit (List.map e_SPoint r121))], .box [.d (.lit (List.map e_SPoint r135))]]) (fun s => s) (fun x30 => ?_) (fun hj13 => ?_)
     ·refine aP 19 (.d (.bool x30)) rfl p_move ?_
      refine dMeet [23, 22, 21, 20, 19, 18, 17, 16, 15, 14, 13, 12, 11, 10, 9, 8, 7, 6, 5, 4, 3, 2, 1, 0] (fun (x31 : Bool) => [(6, .ptr 4 0), (8, .ptr 5 0), (67, .d (.bool x31))]) (fun (x31 : Bool) => [(6, .ptr 4 0), (8, .ptr 5 0), (67, .d (.bool x31))]) (fun _ => [.sl 4 (List.map e_SPoint ([(⟨0, 1, 0, 1⟩ : SPoint), (⟨2, 1, 4, 1⟩ : SPoint), (⟨3, 1, 5, 1⟩ : SPoint)] : List SPoint)) true, .box [.ref 0 (List.length ([(⟨0, 1, 0, 1⟩ : SPoint), (⟨2, 1, 4, 1⟩ : SPoint), (⟨3, 1, 5, 1⟩ : SPoint)] : List SPoint)) 0 (List.length ([(⟨0, 1, 0, 1⟩ : SPoint), (⟨2, 1, 4, 1⟩ : SPoint), (⟨3, 1, 5, 1⟩ : SPoint)] : List SPoint))], .box [.d (.int .i64 r11), .d (.int .i64 r13)], .box [.d (.int .i64 r111), .d (.int .i64 r131)], .box [.d (.lit (List.map e_SPoint r121))], .box [.d (.lit (List.map e_SPoint r135))]]) (fun s => s) (fun x31 => ?_) (fun hj14 => ?_)
      ·refine aP 24 (.d (.bool x31)) rfl p_move ?_
       refine dMeetF [29, 28, 27, 26, 25, 24, 23, 22, 21, 20, 19, 18, 17, 16, 15, 14, 13, 12, 11, 10, 9, 8, 7, 6, 5, 4, 3, 2, 1, 0] (fun (x32 : Bool) => [(6, .ptr 4 0), (8, .ptr 5 0), (73, .d (.bool x32))]) (fun (x32 : Bool) => [(6, .ptr 4 0), (8, .ptr 5 0), (73, .d (.bool x32))]) (H' := [.sl 4 (List.map e_SPoint ([(⟨0, 1, 0, 1⟩ : SPoint), (⟨2, 1, 4, 1⟩ : SPoint), (⟨3, 1, 5, 1⟩ : SPoint)] : List SPoint)) true, .box [.ref 0 (List.length ([(⟨0, 1, 0, 1⟩ : SPoint), (⟨2, 1, 4, 1⟩ : SPoint), (⟨3, 1, 5, 1⟩ : SPoint)] : List SPoint)) 0 (List.length ([(⟨0, 1, 0, 1⟩ : SPoint), (⟨2, 1, 4, 1⟩ : SPoint), (⟨3, 1, 5, 1⟩ : SPoint)] : List SPoint))], .box [.d (.int .i64 r11), .d (.int .i64 r13)], .box [.d (.int .i64 r111), .d (.int .i64 r131)], .box [.d (.lit (List.map e_SPoint r121))], .box [.d (.lit (List.map e_SPoint r135))]]) (fun x32 => ?_) (fun F hj15 => ?_)
       ·refine aP 30 (.d (.bool x32)) rfl p_move ?_
        refine dMeet [39, 38, 37, 36, 35, 34, 33, 32, 31, 30, 29, 28, 27, 26, 25, 24, 23, 22, 21, 20, 19, 18, 17, 16, 15, 14, 13, 12, 11, 10, 9, 8, 7, 6, 5, 4, 3, 2, 1, 0] (fun (x33 : Bool) => [(8, .ptr 5 0), (83, .d (.bool x33))]) (fun (x33 : Bool) => [(8, .ptr 5 0), (83, .d (.bool x33))]) (fun _ => [.sl 4 (List.map e_SPoint ([(⟨0, 1, 0, 1⟩ : SPoint), (⟨2, 1, 4, 1⟩ : SPoint), (⟨3, 1, 5, 1⟩ : SPoint)] : List SPoint)) true, .box [.ref 0 (List.length ([(⟨0, 1, 0, 1⟩ : SPoint), (⟨2, 1, 4, 1⟩ : SPoint), (⟨3, 1, 5, 1⟩ : SPoint)] : List SPoint)) 0 (List.length ([(⟨0, 1, 0, 1⟩ : SPoint), (⟨2, 1, 4, 1⟩ : SPoint), (⟨3, 1, 5, 1⟩ : SPoint)] : List SPoint))], .box [.d (.int .i64 r11), .d (.int .i64 r13)], .box [.d (.int .i64 r111), .d (.int .i64 r131)], .box [.d (.lit (List.map e_SPoint r121))], .box [.d (.lit (List.map e_SPoint r135))]]) (fun s => s) (fun x33 => ?_) (fun hj16 => ?_)
        ·refine aP 40 (.d (.bool x33)) rfl p_move ?_
         refine dMeetF [45, 44, 43, 42, 41, 40, 39, 38, 37, 36, 35, 34, 33, 32, 31, 30, 29, 28, 27, 26, 25, 24, 23, 22, 21, 20, 19, 18, 17, 16, 15, 14, 13, 12, 11, 10, 9, 8, 7, 6, 5, 4, 3, 2, 1, 0] (fun (x34 : Bool) => [(8, .ptr 5 0), (89, .d (.bool x34))]) (fun (x34 : Bool) => [(8, .ptr 5 0), (89, .d (.bool x34))]) (H' := [.sl 4 (List.map e_SPoint ([(⟨0, 1, 0, 1⟩ : SPoint), (⟨2, 1, 4, 1⟩ : SPoint), (⟨3, 1, 5, 1⟩ : SPoint)] : List SPoint)) true, .box [.ref 0 (List.length ([(⟨0, 1, 0, 1⟩ : SPoint), (⟨2, 1, 4, 1⟩ : SPoint), (⟨3, 1, 5, 1⟩ : SPoint)] : List SPoint)) 0 (List.length ([(⟨0, 1, 0, 1⟩ : SPoint), (⟨2, 1, 4, 1⟩ : SPoint), (⟨3, 1, 5, 1⟩ : SPoint)] : List SPoint))], .box [.d (.int .i64 r11), .d (.int .i64 r13)], .box [.d (.int .i64 r111), .d (.int .i64 r131)], .box [.d (.lit (List.map e_SPoint r121))], .box [.d (.lit (List.map e_SPoint r135))]]) (fun x34 => ?_) (fun F hj17 => ?_)
         ·refine aP 46 (.d (.bool x34)) rfl p_move ?_
          refine dMeet [55, 54, 53, 52, 51, 50, 49, 48, 47, 46, 45, 44, 43, 42, 41, 40, 39, 38, 37, 36, 35, 34, 33, 32, 31, 30, 29, 28, 27, 26, 25, 24, 23, 22, 21, 20, 19, 18, 17, 16, 15, 14, 13, 12, 11, 10, 9, 8, 7, 6, 5, 4, 3, 2, 1, 0] (fun (x35 : Bool) => [(99, .d (.bool x35))]) (fun (x35 : Bool) => [(99, .d (.bool x35))]) (fun _ => [.sl 4 (List.map e_SPoint ([(⟨0, 1, 0, 1⟩ : SPoint), (⟨2, 1, 4, 1⟩ : SPoint), (⟨3, 1, 5, 1⟩ : SPoint)] : List SPoint)) true, .box [.ref 0 (List.length ([(⟨0, 1, 0, 1⟩ : SPoint), (⟨2, 1, 4, 1⟩ : SPoint), (⟨3, 1, 5, 1⟩ : SPoint)] : List SPoint)) 0 (List.length ([(⟨0, 1, 0, 1⟩ : SPoint), (⟨2, 1, 4, 1⟩ : SPoint), (⟨3, 1, 5, 1⟩ : SPoint)] : List SPoint))], .box [.d (.int .i64 r11), .d (.int .i64 r13)], .box [.d (.int .i64 r111), .d (.int .i64 r131)], .box [.d (.lit (List.map e_SPoint r121))], .box [.d (.lit (List.map e_SPoint r135))]]) (fun s => s) (fun x35 => ?_) (fun hj18 => ?_)
          ·refine aP 56 (.d (.bool x35)) rfl p_assign ?_
           refine aDone (h := ?_)
           exact oRet (r0 := x35) (rv := .d (.bool x35)) (B := []) (vs := [.d (.bool x35)]) (σ := []) (hf := Try.func7) (hrs := rfl) (hres := .cons _ _ _ _ (.tmp 0 _ (by kernel_rfl)) .nil) (hnd := by decide)
          ·refine dSplit 90 (h1 := fun hc => ?_) (h2 := fun hc => ?_)
           ·refine aP 47 (.ptr 5 0) rfl (k_fieldAddr 5 0 (hu := Try.underlying29) (hf := rfl) (hi := ty27)) ?_
            refine aQ 48 [5] (.d (.lit (List.map e_SPoint r135))) rfl (k_load 5 0 (hu := Try.underlying27)) ?_
            refine dIdx (fun e11 h12 h13 => ?_)
            refine aP 49 (.lptr (e_SPoint e11) 0) rfl (k_idxLit e_SPoint_len r135 (a := e11) (k := .i64) (i := 1) (hu := Try.underlying27) (hi := ty39) (h0 := h12) (he := h13)) ?_
            refine aQ 50 [] (.agg [.d (.int .i64 e11.X_Num), .d (.int .i64 e11.X_Den), .d (.int .i64 e11.Y_Num), .d (.int .i64 e11.Y_Den)]) rfl (k_loadLAgg (cells := e_SPoint e11) 0 [(.int .i64 e11.X_Num), (.int .i64 e11.X_Den), (.int .i64 e11.Y_Num), (.int .i64 e11.Y_Den)] (hu := Try.underlying39) (hi := ty39)) ?_
            refine dCall (i := 51) (caps := []) (v := (u0 ((.agg [.d (.int .i64 1), .d (.int .i64 1)] : V)))) (H' := (u0 (([.sl 4 (List.map e_SPoint ([(⟨0, 1, 0, 1⟩ : SPoint), (⟨2, 1, 4, 1⟩ : SPoint), (⟨3, 1, 5, 1⟩ : SPoint)] : List SPoint)) true, .box [.ref 0 (List.length ([(⟨0, 1, 0, 1⟩ : SPoint), (⟨2, 1, 4, 1⟩ : SPoint), (⟨3, 1, 5, 1⟩ : SPoint)] : List SPoint)) 0 (List.length ([(⟨0, 1, 0, 1⟩ : SPoint), (⟨2, 1, 4, 1⟩ : SPoint), (⟨3, 1, 5, 1⟩ : SPoint)] : List SPoint))], .box [.d (.int .i64 r11), .d (.int .i64 r13)], .box [.d (.int .i64 r111), .d (.int .i64 r131)], .box [.d (.lit (List.map e_SPoint r121))], .box [.d (.lit (List.map e_SPoint r135))]] : List Blk)))) [] _ (law33_whole_goes k 1) rfl (ho := rfl) (hfn := Try.func18) (hb := rfl) (hconv := ConvRs.refl _ _) (hnd := by decide) (hBl := fun _ => (by kernel_rfl)) (hv := fun _ => (by kernel_rfl)) (hH' := fun _ => (by kernel_rfl)) (h := fun r => ?_)
            cases r
            refine dU0 ?_
            refine dCall (i := 52) (caps := []) (v := (u0 ((.agg [.d (.int .i64 3), .d (.int .i64 1)] : V)))) (H' := (u0 (([.sl 4 (List.map e_SPoint ([(⟨0, 1, 0, 1⟩ : SPoint), (⟨2, 1, 4, 1⟩ : SPoint), (⟨3, 1, 5, 1⟩ : SPoint)] : List SPoint)) true, .box [.ref 0 (List.length ([(⟨0, 1, 0, 1⟩ : SPoint), (⟨2, 1, 4, 1⟩ : SPoint), (⟨3, 1, 5, 1⟩ : SPoint)] : List SPoint)) 0 (List.length ([(⟨0, 1, 0, 1⟩ : SPoint), (⟨2, 1, 4, 1⟩ : SPoint), (⟨3, 1, 5, 1⟩ : SPoint)] : List SPoint))], .box [.d (.int .i64 r11), .d (.int .i64 r13)], .box [.d (.int .i64 r111), .d (.int .i64 r131)], .box [.d (.lit (List.map e_SPoint r121))], .box [.d (.lit (List.map e_SPoint r135))]] : List Blk)))) [] _ (law33_whole_goes k 3) rfl (ho := rfl) (hfn := Try.func18) (hb := rfl) (hconv := ConvRs.refl _ _) (hnd := by decide) (hBl := fun _ => (by kernel_rfl)) (hv := fun _ => (by kernel_rfl)) (hH' := fun _ => (by kernel_rfl)) (h := fun r => ?_)
            cases r
            refine dU0 ?_
            refine aTakeP (i := 53) (.agg [.d (.int .i64 1), .d (.int .i64 1), .d (.int .i64 3), .d (.int .i64 1)]) rfl (hp := p_build bld39) (h := ?_)
            refine aTakeP (i := 54) (.d (.bool (((e11.X_Num == 1) && ((e11.X_Den == 1) && true)) && (((e11.Y_Num == 3) && ((e11.Y_Den == 1) && true)) && true)))) rfl (hp := k_eqAgg (hg := Try.eqGuardType39) (h := EqV.struct 2 39 [.d (.int .i64 e11.X_Num), .d (.int .i64 e11.X_Den), .d (.int .i64 e11.Y_Num), .d (.int .i64 e11.Y_Den)] [.d (.int .i64 1), .d (.int .i64 1), .d (.int .i64 3), .d (.int .i64 1)] _ (((e11.X_Num == 1) && ((e11.X_Den == 1) && true)) && (((e11.Y_Num == 3) && ((e11.Y_Den == 1) && true)) && true)) Try.underlying39 Try.stoodInHeld39 (EqF.agg 2 2 _ _ _ _ _ _ _ ((e11.X_Num == 1) && ((e11.X_Den == 1) && true)) (((e11.Y_Num == 3) && ((e11.Y_Den == 1) && true)) && true) _ _ _ (by kernel_rfl) Try.underlying37 (by kernel_rfl) ty37 (by kernel_rfl) (by kernel_rfl) (by kernel_rfl) (by kernel_rfl) (EqV.struct 1 37 [.d (.int .i64 e11.X_Num), .d (.int .i64 e11.X_Den)] [.d (.int .i64 1), .d (.int .i64 1)] _ ((e11.X_Num == 1) && ((e11.X_Den == 1) && true)) Try.underlying37 Try.stoodInHeld37 (EqF.one 1 1 _ _ _ _ _ _ _ (e11.X_Num == 1) ((e11.X_Den == 1) && true) (by kernel_rfl) Try.underlying3 (by kernel_rfl) (by kernel_rfl) (by kernel_rfl) (by kernel_rfl) (EqV.int 3 .i64 .i64 e11.X_Num 1 Try.underlying3) (EqF.one 1 1 _ _ _ _ _ _ _ (e11.X_Den == 1) true (by kernel_rfl) Try.underlying3 (by kernel_rfl) (by kernel_rfl) (by kernel_rfl) (by kernel_rfl) (EqV.int 3 .i64 .i64 e11.X_Den 1 Try.underlying3) (EqF.nil 1 _ _)))) (EqF.agg 2 2 _ _ _ _ _ _ _ ((e11.Y_Num == 3) && ((e11.Y_Den == 1) && true)) true _ _ _ (by kernel_rfl) Try.underlying37 (by kernel_rfl) ty37 (by kernel_rfl) (by kernel_rfl) (by kernel_rfl) (by kernel_rfl) (EqV.struct 1 37 [.d (.int .i64 e11.Y_Num), .d (.int .i64 e11.Y_Den)] [.d (.int .i64 3), .d (.int .i64 1)] _ ((e11.Y_Num == 3) && ((e11.Y_Den == 1) && true)) Try.underlying37 Try.stoodInHeld37 (EqF.one 1 1 _ _ _ _ _ _ _ (e11.Y_Num == 3) ((e11.Y_Den == 1) && true) (by kernel_rfl) Try.underlying3 (by kernel_rfl) (by kernel_rfl) (by kernel_rfl) (by kernel_rfl) (EqV.int 3 .i64 .i64 e11.Y_Num 3 Try.underlying3) (EqF.one 1 1 _ _ _ _ _ _ _ (e11.Y_Den == 1) true (by kernel_rfl) Try.underlying3 (by kernel_rfl) (by kernel_rfl) (by kernel_rfl) (by kernel_rfl) (EqV.int 3 .i64 .i64 e11.Y_Den 1 Try.underlying3) (EqF.nil 1 _ _)))) (EqF.nil 2 _ _))))) (h := ?_)
            refine aP 55 (.d (.bool (((e11.X_Num == 1) && ((e11.X_Den == 1) && true)) && (((e11.Y_Num == 3) && ((e11.Y_Den == 1) && true)) && true)))) rfl (p_pick (b := true)) ?_
            refine dDrop [99] [99] (T' := [(99, .d (.bool (((e11.X_Num == 1) && ((e11.X_Den == 1) && true)) && (((e11.Y_Num == 3) && ((e11.Y_Den == 1) && true)) && true))))]) (U' := [(99, .d (.bool (((e11.X_Num == 1) && ((e11.X_Den == 1) && true)) && (((e11.Y_Num == 3) && ((e11.Y_Den == 1) && true)) && true))))]) (h := ?_)
            exact hj18 (((e11.X_Num == 1) && ((e11.X_Den == 1) && true)) && (((e11.Y_Num == 3) && ((e11.Y_Den == 1) && true)) && true))
           ·refine aTakeNot (i := 47) rfl (h := ?_)
            refine aTakeNot (i := 48) rfl (h := ?_)
            refine aTakeNot (i := 49) rfl (h := ?_)
            refine aTakeNot (i := 50) rfl (h := ?_)
            refine aTakeNot (i := 51) rfl (h := ?_)
            refine aTakeNot (i := 52) rfl (h := ?_)
            refine aTakeNot (i := 53) rfl (h := ?_)
            refine aTakeNot (i := 54) rfl (h := ?_)
            refine aP 55 (.d (.bool false)) rfl (p_pick (b := false)) ?_
            refine dDrop [99] [99] (T' := [(99, .d (.bool false))]) (U' := [(99, .d (.bool false))]) (h := ?_)
            exact hj18 false
         ·refine dPickF 84 (fun c => F (c && (((List.length r135) : Int) == 2))) (h1 := fun hc => ?_) (h2 := fun hc => ?_)
          ·refine aP 41 (.ptr 5 0) rfl (k_fieldAddr 5 0 (hu := Try.underlying29) (hf := rfl) (hi := ty27)) ?_
           refine aQ 42 [5] (.d (.lit (List.map e_SPoint r135))) rfl (k_load 5 0 (hu := Try.underlying27)) ?_
           refine aP 43 (.d (.int .i64 ((List.length r135) : Int))) rfl (k_lenLit (enc := e_SPoint) r135 (hu := Try.underlying27)) ?_
           refine aP 44 (.d (.bool (((List.length r135) : Int) == 2))) rfl (p_int (k := .i64) (p := ((List.length r135) : Int)) (q := 2)) ?_
           refine aP 45 (.d (.bool (((List.length r135) : Int) == 2))) rfl (p_pick (b := true)) ?_
           refine dDrop [8, 89] [8, 89] (T' := [(8, .ptr 5 0), (89, .d (.bool (((List.length r135) : Int) == 2)))]) (U' := [(8, .ptr 5 0), (89, .d (.bool (((List.length r135) : Int) == 2)))]) (h := ?_)
           exact hj17 (((List.length r135) : Int) == 2)
          ·refine aTakeNot (i := 41) rfl (h := ?_)
           refine aTakeNot (i := 42) rfl (h := ?_)
           refine aTakeNot (i := 43) rfl (h := ?_)
           refine aTakeNot (i := 44) rfl (h := ?_)
           refine aP 45 (.d (.bool false)) rfl (p_pick (b := false)) ?_
           refine dDrop [8, 89] [8, 89] (T' := [(8, .ptr 5 0), (89, .d (.bool false))]) (U' := [(8, .ptr 5 0), (89, .d (.bool false))]) (h := ?_)
           exact hj17 false
        ·refine dSplit 74 (h1 := fun hc => ?_) (h2 := fun hc => ?_)
         ·refine aP 31 (.ptr 4 0) rfl (k_fieldAddr 4 0 (hu := Try.underlying29) (hf := rfl) (hi := ty27)) ?_
          refine aQ 32 [4] (.d (.lit (List.map e_SPoint r121))) rfl (k_load 4 0 (hu := Try.underlying27)) ?_
          refine dIdx (fun e1 h1 h11 => ?_)
          refine aP 33 (.lptr (e_SPoint e1) 0) rfl (k_idxLit e_SPoint_len r121 (a := e1) (k := .i64) (i := 0) (hu := Try.underlying27) (hi := ty39) (h0 := h1) (he := h11)) ?_
          refine aQ 34 [] (.agg [.d (.int .i64 e1.X_Num), .d (.int .i64 e1.X_Den), .d (.int .i64 e1.Y_Num), .d (.int .i64 e1.Y_Den)]) rfl (k_loadLAgg (cells := e_SPoint e1) 0 [(.int .i64 e1.X_Num), (.int .i64 e1.X_Den), (.int .i64 e1.Y_Num), (.int .i64 e1.Y_Den)] (hu := Try.underlying39) (hi := ty39)) ?_
          refine dCall (i := 35) (caps := []) (v := (u0 ((.agg [.d (.int .i64 1), .d (.int .i64 1)] : V)))) (H' := (u0 (([.sl 4 (List.map e_SPoint ([(⟨0, 1, 0, 1⟩ : SPoint), (⟨2, 1, 4, 1⟩ : SPoint), (⟨3, 1, 5, 1⟩ : SPoint)] : List SPoint)) true, .box [.ref 0 (List.length ([(⟨0, 1, 0, 1⟩ : SPoint), (⟨2, 1, 4, 1⟩ : SPoint), (⟨3, 1, 5, 1⟩ : SPoint)] : List SPoint)) 0 (List.length ([(⟨0, 1, 0, 1⟩ : SPoint), (⟨2, 1, 4, 1⟩ : SPoint), (⟨3, 1, 5, 1⟩ : SPoint)] : List SPoint))], .box [.d (.int .i64 r11), .d (.int .i64 r13)], .box [.d (.int .i64 r111), .d (.int .i64 r131)], .box [.d (.lit (List.map e_SPoint r121))], .box [.d (.lit (List.map e_SPoint r135))]] : List Blk)))) [] _ (law33_whole_goes k 1) rfl (ho := rfl) (hfn := Try.func18) (hb := rfl) (hconv := ConvRs.refl _ _) (hnd := by decide) (hBl := fun _ => (by kernel_rfl)) (hv := fun _ => (by kernel_rfl)) (hH' := fun _ => (by kernel_rfl)) (h := fun r => ?_)
          cases r
          refine dU0 ?_
          refine dCall (i := 36) (caps := []) (v := (u0 ((.agg [.d (.int .i64 2), .d (.int .i64 1)] : V)))) (H' := (u0 (([.sl 4 (List.map e_SPoint ([(⟨0, 1, 0, 1⟩ : SPoint), (⟨2, 1, 4, 1⟩ : SPoint), (⟨3, 1, 5, 1⟩ : SPoint)] : List SPoint)) true, .box [.ref 0 (List.length ([(⟨0, 1, 0, 1⟩ : SPoint), (⟨2, 1, 4, 1⟩ : SPoint), (⟨3, 1, 5, 1⟩ : SPoint)] : List SPoint)) 0 (List.length ([(⟨0, 1, 0, 1⟩ : SPoint), (⟨2, 1, 4, 1⟩ : SPoint), (⟨3, 1, 5, 1⟩ : SPoint)] : List SPoint))], .box [.d (.int .i64 r11), .d (.int .i64 r13)], .box [.d (.int .i64 r111), .d (.int .i64 r131)], .box [.d (.lit (List.map e_SPoint r121))], .box [.d (.lit (List.map e_SPoint r135))]] : List Blk)))) [] _ (law33_whole_goes k 2) rfl (ho := rfl) (hfn := Try.func18) (hb := rfl) (hconv := ConvRs.refl _ _) (hnd := by decide) (hBl := fun _ => (by kernel_rfl)) (hv := fun _ => (by kernel_rfl)) (hH' := fun _ => (by kernel_rfl)) (h := fun r => ?_)
          cases r
          refine dU0 ?_
          refine aTakeP (i := 37) (.agg [.d (.int .i64 1), .d (.int .i64 1), .d (.int .i64 2), .d (.int .i64 1)]) rfl (hp := p_build bld39) (h := ?_)
          refine aTakeP (i := 38) (.d (.bool (((e1.X_Num == 1) && ((e1.X_Den == 1) && true)) && (((e1.Y_Num == 2) && ((e1.Y_Den == 1) && true)) && true)))) rfl (hp := k_eqAgg (hg := Try.eqGuardType39) (h := EqV.struct 2 39 [.d (.int .i64 e1.X_Num), .d (.int .i64 e1.X_Den), .d (.int .i64 e1.Y_Num), .d (.int .i64 e1.Y_Den)] [.d (.int .i64 1), .d (.int .i64 1), .d (.int .i64 2), .d (.int .i64 1)] _ (((e1.X_Num == 1) && ((e1.X_Den == 1) && true)) && (((e1.Y_Num == 2) && ((e1.Y_Den == 1) && true)) && true)) Try.underlying39 Try.stoodInHeld39 (EqF.agg 2 2 _ _ _ _ _ _ _ ((e1.X_Num == 1) && ((e1.X_Den == 1) && true)) (((e1.Y_Num == 2) && ((e1.Y_Den == 1) && true)) && true) _ _ _ (by kernel_rfl) Try.underlying37 (by kernel_rfl) ty37 (by kernel_rfl) (by kernel_rfl) (by kernel_rfl) (by kernel_rfl) (EqV.struct 1 37 [.d (.int .i64 e1.X_Num), .d (.int .i64 e1.X_Den)] [.d (.int .i64 1), .d (.int .i64 1)] _ ((e1.X_Num == 1) && ((e1.X_Den == 1) && true)) Try.underlying37 Try.stoodInHeld37 (EqF.one 1 1 _ _ _ _ _ _ _ (e1.X_Num == 1) ((e1.X_Den == 1) && true) (by kernel_rfl) Try.underlying3 (by kernel_rfl) (by kernel_rfl) (by kernel_rfl) (by kernel_rfl) (EqV.int 3 .i64 .i64 e1.X_Num 1 Try.underlying3) (EqF.one 1 1 _ _ _ _ _ _ _ (e1.X_Den == 1) true (by kernel_rfl) Try.underlying3 (by kernel_rfl) (by kernel_rfl) (by kernel_rfl) (by kernel_rfl) (EqV.int 3 .i64 .i64 e1.X_Den 1 Try.underlying3) (EqF.nil 1 _ _)))) (EqF.agg 2 2 _ _ _ _ _ _ _ ((e1.Y_Num == 2) && ((e1.Y_Den == 1) && true)) true _ _ _ (by kernel_rfl) Try.underlying37 (by kernel_rfl) ty37 (by kernel_rfl) (by kernel_rfl) (by kernel_rfl) (by kernel_rfl) (EqV.struct 1 37 [.d (.int .i64 e1.Y_Num), .d (.int .i64 e1.Y_Den)] [.d (.int .i64 2), .d (.int .i64 1)] _ ((e1.Y_Num == 2) && ((e1.Y_Den == 1) && true)) Try.underlying37 Try.stoodInHeld37 (EqF.one 1 1 _ _ _ _ _ _ _ (e1.Y_Num == 2) ((e1.Y_Den == 1) && true) (by kernel_rfl) Try.underlying3 (by kernel_rfl) (by kernel_rfl) (by kernel_rfl) (by kernel_rfl) (EqV.int 3 .i64 .i64 e1.Y_Num 2 Try.underlying3) (EqF.one 1 1 _ _ _ _ _ _ _ (e1.Y_Den == 1) true (by kernel_rfl) Try.underlying3 (by kernel_rfl) (by kernel_rfl) (by kernel_rfl) (by kernel_rfl) (EqV.int 3 .i64 .i64 e1.Y_Den 1 Try.underlying3) (EqF.nil 1 _ _)))) (EqF.nil 2 _ _))))) (h := ?_)
          refine aP 39 (.d (.bool (((e1.X_Num == 1) && ((e1.X_Den == 1) && true)) && (((e1.Y_Num == 2) && ((e1.Y_Den == 1) && true)) && true)))) rfl (p_pick (b := true)) ?_
          refine dDrop [8, 83] [8, 83] (T' := [(8, .ptr 5 0), (83, .d (.bool (((e1.X_Num == 1) && ((e1.X_Den == 1) && true)) && (((e1.Y_Num == 2) && ((e1.Y_Den == 1) && true)) && true))))]) (U' := [(8, .ptr 5 0), (83, .d (.bool (((e1.X_Num == 1) && ((e1.X_Den == 1) && true)) && (((e1.Y_Num == 2) && ((e1.Y_Den == 1) && true)) && true))))]) (h := ?_)
          exact hj16 (((e1.X_Num == 1) && ((e1.X_Den == 1) && true)) && (((e1.Y_Num == 2) && ((e1.Y_Den == 1) && true)) && true))
         ·refine aTakeNot (i := 31) rfl (h := ?_)
          refine aTakeNot (i := 32) rfl (h := ?_)
          refine aTakeNot (i := 33) rfl (h := ?_)
          refine aTakeNot (i := 34) rfl (h := ?_)
          refine aTakeNot (i := 35) rfl (h := ?_)
          refine aTakeNot (i := 36) rfl (h := ?_)
          refine aTakeNot (i := 37) rfl (h := ?_)
          refine aTakeNot (i := 38) rfl (h := ?_)
          refine aP 39 (.d (.bool false)) rfl (p_pick (b := false)) ?_
          refine dDrop [8, 83] [8, 83] (T' := [(8, .ptr 5 0), (83, .d (.bool false))]) (U' := [(8, .ptr 5 0), (83, .d (.bool false))]) (h := ?_)
          exact hj16 false
       ·refine dPickF 68 (fun c => F (c && (((List.length r121) : Int) == 3))) (h1 := fun hc => ?_) (h2 := fun hc => ?_)
        ·refine aP 25 (.ptr 4 0) rfl (k_fieldAddr 4 0 (hu := Try.underlying29) (hf := rfl) (hi := ty27)) ?_
         refine aQ 26 [4] (.d (.lit (List.map e_SPoint r121))) rfl (k_load 4 0 (hu := Try.underlying27)) ?_
         refine aP 27 (.d (.int .i64 ((List.length r121) : Int))) rfl (k_lenLit (enc := e_SPoint) r121 (hu := Try.underlying27)) ?_
         refine aP 28 (.d (.bool (((List.length r121) : Int) == 3))) rfl (p_int (k := .i64) (p := ((List.length r121) : Int)) (q := 3)) ?_
         refine aP 29 (.d (.bool (((List.length r121) : Int) == 3))) rfl (p_pick (b := true)) ?_
         refine dDrop [6, 8, 73] [6, 8, 73] (T' := [(6, .ptr 4 0), (8, .ptr 5 0), (73, .d (.bool (((List.length r121) : Int) == 3)))]) (U' := [(6, .ptr 4 0), (8, .ptr 5 0), (73, .d (.bool (((List.length r121) : Int) == 3)))]) (h := ?_)
         exact hj15 (((List.length r121) : Int) == 3)
        ·refine aTakeNot (i := 25) rfl (h := ?_)
         refine aTakeNot (i := 26) rfl (h := ?_)
         refine aTakeNot (i := 27) rfl (h := ?_)
         refine aTakeNot (i := 28) rfl (h := ?_)
         refine aP 29 (.d (.bool false)) rfl (p_pick (b := false)) ?_
         refine dDrop [6, 8, 73] [6, 8, 73] (T' := [(6, .ptr 4 0), (8, .ptr 5 0), (73, .d (.bool false))]) (U' := [(6, .ptr 4 0), (8, .ptr 5 0), (73, .d (.bool false))]) (h := ?_)
         exact hj15 false
      ·refine dSplit 63 (h1 := fun hc => ?_) (h2 := fun hc => ?_)
       ·refine aQ 20 [3] (.agg [.d (.int .i64 r111), .d (.int .i64 r131)]) rfl (k_loadAgg 3 0 (hu := Try.underlying37) (hi := ty37)) ?_
        refine dCall (i := 21) (caps := []) (v := (u0 ((.agg [.d (.int .i64 6), .d (.int .i64 1)] : V)))) (H' := (u0 (([.sl 4 (List.map e_SPoint ([(⟨0, 1, 0, 1⟩ : SPoint), (⟨2, 1, 4, 1⟩ : SPoint), (⟨3, 1, 5, 1⟩ : SPoint)] : List SPoint)) true, .box [.ref 0 (List.length ([(⟨0, 1, 0, 1⟩ : SPoint), (⟨2, 1, 4, 1⟩ : SPoint), (⟨3, 1, 5, 1⟩ : SPoint)] : List SPoint)) 0 (List.length ([(⟨0, 1, 0, 1⟩ : SPoint), (⟨2, 1, 4, 1⟩ : SPoint), (⟨3, 1, 5, 1⟩ : SPoint)] : List SPoint))], .box [.d (.int .i64 r11), .d (.int .i64 r13)], .box [.d (.int .i64 r111), .d (.int .i64 r131)], .box [.d (.lit (List.map e_SPoint r121))], .box [.d (.lit (List.map e_SPoint r135))]] : List Blk)))) [] _ (law33_whole_goes k 6) rfl (ho := rfl) (hfn := Try.func18) (hb := rfl) (hconv := ConvRs.refl _ _) (hnd := by decide) (hBl := fun _ => (by kernel_rfl)) (hv := fun _ => (by kernel_rfl)) (hH' := fun _ => (by kernel_rfl)) (h := fun r => ?_)
        cases r
        refine dU0 ?_
        refine aTakeP (i := 22) (.d (.bool ((r111 == 6) && ((r131 == 1) && true)))) rfl (hp := k_eqAgg (hg := Try.eqGuardType37) (h := EqV.struct 1 37 [.d (.int .i64 r111), .d (.int .i64 r131)] [.d (.int .i64 6), .d (.int .i64 1)] _ ((r111 == 6) && ((r131 == 1) && true)) Try.underlying37 Try.stoodInHeld37 (EqF.one 1 1 _ _ _ _ _ _ _ (r111 == 6) ((r131 == 1) && true) (by kernel_rfl) Try.underlying3 (by kernel_rfl) (by kernel_rfl) (by kernel_rfl) (by kernel_rfl) (EqV.int 3 .i64 .i64 r111 6 Try.underlying3) (EqF.one 1 1 _ _ _ _ _ _ _ (r131 == 1) true (by kernel_rfl) Try.underlying3 (by kernel_rfl) (by kernel_rfl) (by kernel_rfl) (by kernel_rfl) (EqV.int 3 .i64 .i64 r131 1 Try.underlying3) (EqF.nil 1 _ _))))) (h := ?_)
        refine aP 23 (.d (.bool ((r111 == 6) && ((r131 == 1) && true)))) rfl (p_pick (b := true)) ?_
        refine dDrop [6, 8, 67] [6, 8, 67] (T' := [(6, .ptr 4 0), (8, .ptr 5 0), (67, .d (.bool ((r111 == 6) && ((r131 == 1) && true))))]) (U' := [(6, .ptr 4 0), (8, .ptr 5 0), (67, .d (.bool ((r111 == 6) && ((r131 == 1) && true))))]) (h := ?_)
        exact hj14 ((r111 == 6) && ((r131 == 1) && true))
       ·refine aTakeNot (i := 20) rfl (h := ?_)
        refine aTakeNot (i := 21) rfl (h := ?_)
        refine aTakeNot (i := 22) rfl (h := ?_)
        refine aP 23 (.d (.bool false)) rfl (p_pick (b := false)) ?_
        refine dDrop [6, 8, 67] [6, 8, 67] (T' := [(6, .ptr 4 0), (8, .ptr 5 0), (67, .d (.bool false))]) (U' := [(6, .ptr 4 0), (8, .ptr 5 0), (67, .d (.bool false))]) (h := ?_)
        exact hj14 false
     ·refine dSplit 58 (h1 := fun hc => ?_) (h2 := fun hc => ?_)
      ·refine aQ 15 [2] (.agg [.d (.int .i64 r11), .d (.int .i64 r13)]) rfl (k_loadAgg 2 0 (hu := Try.underlying37) (hi := ty37)) ?_
       refine dCall (i := 16) (caps := []) (v := (u0 ((.agg [.d (.int .i64 2), .d (.int .i64 1)] : V)))) (H' := (u0 (([.sl 4 (List.map e_SPoint ([(⟨0, 1, 0, 1⟩ : SPoint), (⟨2, 1, 4, 1⟩ : SPoint), (⟨3, 1, 5, 1⟩ : SPoint)] : List SPoint)) true, .box [.ref 0 (List.length ([(⟨0, 1, 0, 1⟩ : SPoint), (⟨2, 1, 4, 1⟩ : SPoint), (⟨3, 1, 5, 1⟩ : SPoint)] : List SPoint)) 0 (List.length ([(⟨0, 1, 0, 1⟩ : SPoint), (⟨2, 1, 4, 1⟩ : SPoint), (⟨3, 1, 5, 1⟩ : SPoint)] : List SPoint))], .box [.d (.int .i64 r11), .d (.int .i64 r13)], .box [.d (.int .i64 r111), .d (.int .i64 r131)], .box [.d (.lit (List.map e_SPoint r121))], .box [.d (.lit (List.map e_SPoint r135))]] : List Blk)))) [] _ (law33_whole_goes k 2) rfl (ho := rfl) (hfn := Try.func18) (hb := rfl) (hconv := ConvRs.refl _ _) (hnd := by decide) (hBl := fun _ => (by kernel_rfl)) (hv := fun _ => (by kernel_rfl)) (hH' := fun _ => (by kernel_rfl)) (h := fun r => ?_)
       cases r
       refine dU0 ?_
       refine aTakeP (i := 17) (.d (.bool ((r11 == 2) && ((r13 == 1) && true)))) rfl (hp := k_eqAgg (hg := Try.eqGuardType37) (h := EqV.struct 1 37 [.d (.int .i64 r11), .d (.int .i64 r13)] [.d (.int .i64 2), .d (.int .i64 1)] _ ((r11 == 2) && ((r13 == 1) && true)) Try.underlying37 Try.stoodInHeld37 (EqF.one 1 1 _ _ _ _ _ _ _ (r11 == 2) ((r13 == 1) && true) (by kernel_rfl) Try.underlying3 (by kernel_rfl) (by kernel_rfl) (by kernel_rfl) (by kernel_rfl) (EqV.int 3 .i64 .i64 r11 2 Try.underlying3) (EqF.one 1 1 _ _ _ _ _ _ _ (r13 == 1) true (by kernel_rfl) Try.underlying3 (by kernel_rfl) (by kernel_rfl) (by kernel_rfl) (by kernel_rfl) (EqV.int 3 .i64 .i64 r13 1 Try.underlying3) (EqF.nil 1 _ _))))) (h := ?_)
       refine aP 18 (.d (.bool ((r11 == 2) && ((r13 == 1) && true)))) rfl (p_pick (b := true)) ?_
       refine dDrop [4, 6, 8, 62] [4, 6, 8, 62] (T' := [(4, .ptr 3 0), (6, .ptr 4 0), (8, .ptr 5 0), (62, .d (.bool ((r11 == 2) && ((r13 == 1) && true))))]) (U' := [(4, .ptr 3 0), (6, .ptr 4 0), (8, .ptr 5 0), (62, .d (.bool ((r11 == 2) && ((r13 == 1) && true))))]) (h := ?_)
       exact hj13 ((r11 == 2) && ((r13 == 1) && true))
      ·refine aTakeNot (i := 15) rfl (h := ?_)
       refine aTakeNot (i := 16) rfl (h := ?_)
       refine aTakeNot (i := 17) rfl (h := ?_)
       refine aP 18 (.d (.bool false)) rfl (p_pick (b := false)) ?_
       refine dDrop [4, 6, 8, 62] [4, 6, 8, 62] (T' := [(4, .ptr 3 0), (6, .ptr 4 0), (8, .ptr 5 0), (62, .d (.bool false))]) (U' := [(4, .ptr 3 0), (6, .ptr 4 0), (8, .ptr 5 0), (62, .d (.bool false))]) (h := ?_)
       exact hj13 false
    ·refine dPickF 54 (fun c => F (c && (r143 == 0))) (h1 := fun hc => ?_) (h2 := fun hc => ?_)
     ·refine aP 11 (.d (.int .i64 r143)) rfl p_move ?_
      refine aP 12 (.d (.bool (r143 == 0))) rfl (p_int (k := .i64) (p := r143) (q := 0)) ?_
      refine aP 13 (.d (.bool (r143 == 0))) rfl (p_pick (b := true)) ?_
      refine dDrop [2, 4, 6, 8, 57] [2, 4, 6, 8, 57] (T' := [(2, .ptr 2 0), (4, .ptr 3 0), (6, .ptr 4 0), (8, .ptr 5 0), (57, .d (.bool (r143 == 0)))]) (U' := [(2, .ptr 2 0), (4, .ptr 3 0), (6, .ptr 4 0), (8, .ptr 5 0), (57, .d (.bool (r143 == 0)))]) (h := ?_)
      exact hj12 (r143 == 0)
     ·refine aTakeNot (i := 11) rfl (h := ?_)
      refine aTakeNot (i := 12) rfl (h := ?_)
      refine aP 13 (.d (.bool false)) rfl (p_pick (b := false)) ?_
      refine dDrop [2, 4, 6, 8, 57] [2, 4, 6, 8, 57] (T' := [(2, .ptr 2 0), (4, .ptr 3 0), (6, .ptr 4 0), (8, .ptr 5 0), (57, .d (.bool false))]) (U' := [(2, .ptr 2 0), (4, .ptr 3 0), (6, .ptr 4 0), (8, .ptr 5 0), (57, .d (.bool false))]) (h := ?_)
      exact hj12 false
   ·refine dPickF 50 (fun c => F (c && (r134 == 0))) (h1 := fun hc => ?_) (h2 := fun hc => ?_)
    ·refine aP 7 (.d (.int .i64 r134)) rfl p_move ?_
     refine aP 8 (.d (.bool (r134 == 0))) rfl (p_int (k := .i64) (p := r134) (q := 0)) ?_
     refine aP 9 (.d (.bool (r134 == 0))) rfl (p_pick (b := true)) ?_
     refine dDrop [2, 4, 6, 8, 9, 53] [2, 4, 6, 8, 9, 53] (T' := [(2, .ptr 2 0), (4, .ptr 3 0), (6, .ptr 4 0), (8, .ptr 5 0), (9, .d (.int .i64 r143)), (53, .d (.bool (r134 == 0)))]) (U' := [(2, .ptr 2 0), (4, .ptr 3 0), (6, .ptr 4 0), (8, .ptr 5 0), (9, .d (.int .i64 r143)), (53, .d (.bool (r134 == 0)))]) (h := ?_)
     exact hj11 (r134 == 0)
    ·refine aTakeNot (i := 7) rfl (h := ?_)
     refine aTakeNot (i := 8) rfl (h := ?_)
     refine aP 9 (.d (.bool false)) rfl (p_pick (b := false)) ?_
     refine dDrop [2, 4, 6, 8, 9, 53] [2, 4, 6, 8, 9, 53] (T' := [(2, .ptr 2 0), (4, .ptr 3 0), (6, .ptr 4 0), (8, .ptr 5 0), (9, .d (.int .i64 r143)), (53, .d (.bool false))]) (U' := [(2, .ptr 2 0), (4, .ptr 3 0), (6, .ptr 4 0), (8, .ptr 5 0), (9, .d (.int .i64 r143)), (53, .d (.bool false))]) (h := ?_)
     exact hj11 false
  ·refine dPickF 46 (fun c => F (c && (r141 == 0))) (h1 := fun hc => ?_) (h2 := fun hc => ?_)
   ·refine aP 3 (.d (.int .i64 r141)) rfl p_move ?_
    refine aP 4 (.d (.bool (r141 == 0))) rfl (p_int (k := .i64) (p := r141) (q := 0)) ?_
    refine aP 5 (.d (.bool (r141 == 0))) rfl (p_pick (b := true)) ?_
    refine dDrop [2, 4, 6, 7, 8, 9, 49] [2, 4, 6, 7, 8, 9, 49] (T' := [(2, .ptr 2 0), (4, .ptr 3 0), (6, .ptr 4 0), (7, .d (.int .i64 r134)), (8, .ptr 5 0), (9, .d (.int .i64 r143)), (49, .d (.bool (r141 == 0)))]) (U' := [(2, .ptr 2 0), (4, .ptr 3 0), (6, .ptr 4 0), (7, .d (.int .i64 r134)), (8, .ptr 5 0), (9, .d (.int .i64 r143)), (49, .d (.bool (r141 == 0)))]) (h := ?_)
    exact hj10 (r141 == 0)
   ·refine aTakeNot (i := 3) rfl (h := ?_)
    refine aTakeNot (i := 4) rfl (h := ?_)
    refine aP 5 (.d (.bool false)) rfl (p_pick (b := false)) ?_
    refine dDrop [2, 4, 6, 7, 8, 9, 49] [2, 4, 6, 7, 8, 9, 49] (T' := [(2, .ptr 2 0), (4, .ptr 3 0), (6, .ptr 4 0), (7, .d (.int .i64 r134)), (8, .ptr 5 0), (9, .d (.int .i64 r143)), (49, .d (.bool false))]) (U' := [(2, .ptr 2 0), (4, .ptr 3 0), (6, .ptr 4 0), (7, .d (.int .i64 r134)), (8, .ptr 5 0), (9, .d (.int .i64 r143)), (49, .d (.bool false))]) (h := ?_)
    exact hj10 false

/-- awardingbody/awardingbodymark.Roll -/
def mark_Roll (k : Nat) (l : (List Int)) : Option (Unit) := some ()
def mark_Roll_E (l : (List Int)) : Unit → V × List Blk := u0 ((.ptr 0 0, [.box [.d (.lit (List.map e_i64 l)), .d (.int .i64 0)]]))
theorem mark_Roll_goes (k : Nat) (l : (List Int)) : RunsO Try.prog 8 [.d (.lit (List.map e_i64 l))] [] (mark_Roll_E l) (mark_Roll k l) := by
  refine RunsO.of_goes (N := 6) (m := 0) (T := [(0, .d (.lit (List.map e_i64 l)))]) Try.func8 rfl rfl (h := ?_)
  unfold mark_Roll
  refine bStart ?_
  refine oSR rfl ?_
  refine oP (.nilptr) p_assign ?_
  refine oEnd ?_
  refine oSR rfl ?_
  refine oP (.d (.lit (List.map e_i64 l))) p_move ?_
  refine oP (.agg [.d (.lit (List.map e_i64 l)), .d (.int .i64 0)]) (p_build bld49) ?_
  refine oD (.ptr 0 0) (k_box (H' := [.box [.d (.lit (List.map e_i64 l)), .d (.int .i64 0)]]) (cells := [.d (.lit (List.map e_i64 l)), .d (.int .i64 0)])) ?_
  refine oP (.ptr 0 0) p_assign ?_
  refine oEnd ?_
  exact oRet (r0 := ()) (rv := .ptr 0 0) (B := [.box [.d (.lit (List.map e_i64 l)), .d (.int .i64 0)]]) (vs := [.ptr 0 0]) (σ := [0]) (hf := Try.func8) (hrs := rfl) (hres := .cons _ _ _ _ (.tmp 2 _ (by kernel_rfl)) .nil) (hnd := by decide)

/-- (*awardingbody/awardingbodymark.Dice).Next -/
def mark_Dice_Next (k : Nat) (n : Int) (x : (List Int)) (x1 : Int) : Option (Int × Int) := blet ((decide (x1 ≥ ((List.length x) : Int))) || (decide (n < 1))) fun x8 => bif x8 then some (0, x1) else gidx x x1 fun e1 => gnz n (Option.bind (bif (decide ((Int.tmod e1 n) < 0)) then some ((IntKind.wrap .i64 ((Int.tmod e1 n) + n)), (IntKind.wrap .i64 (x1 + 1))) else some ((Int.tmod e1 n), (IntKind.wrap .i64 (x1 + 1))) : Option (Int × Int)) (uc fun x9 => fun x10 => some (x9, x10)))
def mark_Dice_Next_E (n : Int) (x : (List Int)) (x1 : Int) : Int × Int → V × List Blk := uc fun r1 => fun x6 => (.d (.int .i64 r1), [.box [.d (.lit (List.map e_i64 x)), .d (.int .i64 x6)]])
theorem mark_Dice_Next_goes (k : Nat) (n : Int) (x : (List Int)) (x1 : Int) : RunsO Try.prog 20 [.ptr 0 0, .d (.int .i64 n)] [.box [.d (.lit (List.map e_i64 x)), .d (.int .i64 x1)]] (mark_Dice_Next_E n x x1) (mark_Dice_Next k n x x1) := by
  refine RunsO.of_goes (N := 45) (m := 1) (T := [(0, .ptr 0 0), (1, .d (.int .i64 n))]) Try.func20 rfl rfl (h := ?_)
  unfold mark_Dice_Next
  refine bStart ?_
  refine oSR rfl ?_
  refine oP (.d (.int .i64 0)) p_assign ?_
  refine oEnd ?_
  refine oSeq ?_
  refine oSeq ?_
  refine oDraw [(0, 14)] rfl ?_
  refine aP 0 (.ptr 0 0) rfl p_move ?_
  refine aP 1 (.ptr 0 0) rfl (k_nilCheck 0 0) ?_
  refine aP 2 (.ptr 0 1) rfl (k_fieldAddr 0 0 (hu := Try.underlying49) (hf := rfl) (hi := ty3)) ?_
  refine aQ 3 [0] (.d (.int .i64 x1)) rfl (k_load 0 1 (hu := Try.underlying3)) ?_
  refine aP 4 (.ptr 0 0) rfl p_move ?_
  refine aP 5 (.ptr 0 0) rfl (k_nilCheck 0 0) ?_
  refine aP 6 (.ptr 0 0) rfl (k_fieldAddr 0 0 (hu := Try.underlying49) (hf := rfl) (hi := ty22)) ?_
  refine aQ 7 [0] (.d (.lit (List.map e_i64 x))) rfl (k_load 0 0 (hu := Try.underlying22)) ?_
  refine aP 8 (.d (.int .i64 ((List.length x) : Int))) rfl (k_lenLit (enc := e_i64) x (hu := Try.underlying22)) ?_
  refine aP 9 (.d (.bool (decide (x1 ≥ ((List.length x) : Int))))) rfl (p_int (k := .i64) (p := x1) (q := ((List.length x) : Int))) ?_
  refine aP 10 (.d (.bool (decide (x1 ≥ ((List.length x) : Int))))) rfl p_move ?_
  refine dMeetF [13, 12, 11, 10, 9, 8, 7, 6, 5, 4, 3, 2, 1, 0] (fun (x8 : Bool) => [(0, .ptr 0 0), (1, .d (.int .i64 n)), (19, .d (.bool x8))]) (fun (x8 : Bool) => [(0, .ptr 0 0), (1, .d (.int .i64 n)), (19, .d (.bool x8))]) (H' := [.box [.d (.lit (List.map e_i64 x)), .d (.int .i64 x1)]]) (fun x8 => ?_) (fun F hj3 => ?_)
  ·refine aDone (h := ?_)
   refine bSplit 19 (h1 := fun hc => ?_) (h2 := fun hc => ?_)
   ·refine oCondT (h := ?_)
    refine oSR rfl ?_
    refine oP (.d (.int .i64 0)) p_assign ?_
    refine oEnd ?_
    exact oRet (r0 := (0, x1)) (rv := .d (.int .i64 0)) (B := [.box [.d (.lit (List.map e_i64 x)), .d (.int .i64 x1)]]) (vs := [.d (.int .i64 0)]) (σ := [0]) (hf := Try.func20) (hrs := rfl) (hres := .cons _ _ _ _ (.tmp 4 _ (by kernel_rfl)) .nil) (hnd := by decide)
   ·refine oCondF (h := ?_)
    refine oSkip ?_
    refine oSeq ?_
    refine oDraw [(0, 13)] rfl ?_
    refine aP 0 (.ptr 0 0) rfl p_move ?_
    refine aP 1 (.ptr 0 0) rfl (k_nilCheck 0 0) ?_
    refine aP 2 (.ptr 0 0) rfl (k_fieldAddr 0 0 (hu := Try.underlying49) (hf := rfl) (hi := ty22)) ?_
    refine aQ 3 [0] (.d (.lit (List.map e_i64 x))) rfl (k_load 0 0 (hu := Try.underlying22)) ?_
    refine aP 4 (.ptr 0 0) rfl p_move ?_
    refine aP 5 (.ptr 0 0) rfl (k_nilCheck 0 0) ?_
    refine aP 6 (.ptr 0 1) rfl (k_fieldAddr 0 0 (hu := Try.underlying49) (hf := rfl) (hi := ty3)) ?_
    refine aQ 7 [0] (.d (.int .i64 x1)) rfl (k_load 0 1 (hu := Try.underlying3)) ?_
    refine dIdx (fun e1 h1 h11 => ?_)
    refine aP 8 (.lptr (e_i64 e1) 0) rfl (k_idxLit e_i64_len x (a := e1) (k := .i64) (i := x1) (hu := Try.underlying22) (hi := ty3) (h0 := h1) (he := h11)) ?_
    refine aQ 9 [] (.d (.int .i64 e1)) rfl (k_loadL (cells := e_i64 e1) 0 (hu := Try.underlying3)) ?_
    refine aP 10 (.d (.int .i64 n)) rfl p_move ?_
    refine dNz (fun h12 => ?_)
    refine aTakeP (i := 11) (.d (.int .i64 (Int.tmod e1 n))) rfl (hp := p_rem (k := .i64) (p := e1) (q := n) (hq := h12)) (h := ?_)
    refine aP 12 (.d (.int .i64 (Int.tmod e1 n))) rfl p_assign ?_
    refine aDone (h := ?_)
    refine oSR rfl ?_
    refine oP (.ptr 0 0) p_move ?_
    refine oP (.ptr 0 0) (k_nilCheck 0 0) ?_
    refine oP (.ptr 0 1) (k_fieldAddr 0 0 (hu := Try.underlying49) (hf := rfl) (hi := ty3)) ?_
    refine oQ (.d (.int .i64 x1)) (k_load 0 1 (hu := Try.underlying3)) ?_
    refine oP (.d (.int .i64 (IntKind.wrap .i64 (x1 + 1)))) (p_int (k := .i64) (p := x1) (q := 1)) ?_
    refine oP (.ptr 0 0) (k_nilCheck 0 0) ?_
    refine oP (.ptr 0 1) (k_fieldAddr 0 0 (hu := Try.underlying49) (hf := rfl) (hi := ty3)) ?_
    refine oD (.undef) (k_store (vs := [.d (.int .i64 (IntKind.wrap .i64 (x1 + 1)))]) (H' := [.box [.d (.lit (List.map e_i64 x)), .d (.int .i64 (IntKind.wrap .i64 (x1 + 1)))]]) 0 1 (hi := ty3)) ?_
    refine oEnd ?_
    refine oSeq ?_
    refine oSR rfl ?_
    refine oP (.d (.int .i64 (Int.tmod e1 n))) p_move ?_
    refine oP (.d (.bool (decide ((Int.tmod e1 n) < 0)))) (p_int (k := .i64) (p := (Int.tmod e1 n)) (q := 0)) ?_
    refine oEnd ?_
    refine bJoin ((uc fun (x9 : Int) => (fun (x10 : Int) => [(5, .d (.int .i64 x9))]))) ((uc fun (x9 : Int) => (fun (x10 : Int) => [.box [.d (.lit (List.map e_i64 x)), .d (.int .i64 x10)]]))) (fun s => s) (fun s => ?_) (fun hj4 => ?_)
    ·obtain ⟨x9, x10⟩ := s
     refine bUc ?_
     refine oView (T' := [(5, .d (.int .i64 x9))]) (H' := [.box [.d (.lit (List.map e_i64 x)), .d (.int .i64 x10)]]) (h := ?_)
     refine oSR rfl ?_
     refine oP (.d (.int .i64 x9)) p_move ?_
     refine oP (.d (.int .i64 x9)) p_assign ?_
     refine oEnd ?_
     exact oRet (r0 := (x9, x10)) (rv := .d (.int .i64 x9)) (B := [.box [.d (.lit (List.map e_i64 x)), .d (.int .i64 x10)]]) (vs := [.d (.int .i64 x9)]) (σ := [0]) (hf := Try.func20) (hrs := rfl) (hres := .cons _ _ _ _ (.tmp 4 _ (by kernel_rfl)) .nil) (hnd := by decide)
    ·refine bSplit 40 (h1 := fun hc => ?_) (h2 := fun hc => ?_)
     ·refine oCondT (h := ?_)
      refine oRegion rfl ?_
      refine oP (.d (.int .i64 (Int.tmod e1 n))) p_move ?_
      refine oP (.d (.int .i64 n)) p_move ?_
      refine oP (.d (.int .i64 (IntKind.wrap .i64 ((Int.tmod e1 n) + n)))) (p_int (k := .i64) (p := (Int.tmod e1 n)) (q := n)) ?_
      refine oP (.d (.int .i64 (IntKind.wrap .i64 ((Int.tmod e1 n) + n)))) p_assign ?_
      refine oEnd ?_
      refine oHead [5] [0] (T' := [(5, .d (.int .i64 (IntKind.wrap .i64 ((Int.tmod e1 n) + n))))]) (H' := [.box [.d (.lit (List.map e_i64 x)), .d (.int .i64 (IntKind.wrap .i64 (x1 + 1)))]]) (hnd := by decide) (h := ?_)
      exact hj4 ((IntKind.wrap .i64 ((Int.tmod e1 n) + n)), (IntKind.wrap .i64 (x1 + 1)))
     ·refine oCondF (h := ?_)
      refine oSkip ?_
      refine oHead [5] [0] (T' := [(5, .d (.int .i64 (Int.tmod e1 n)))]) (H' := [.box [.d (.lit (List.map e_i64 x)), .d (.int .i64 (IntKind.wrap .i64 (x1 + 1)))]]) (hnd := by decide) (h := ?_)
      exact hj4 ((Int.tmod e1 n), (IntKind.wrap .i64 (x1 + 1)))
  ·refine dPickF 16 (fun c => F (c || (decide (n < 1)))) (h1 := fun hc => ?_) (h2 := fun hc => ?_)
   ·refine aTakeNot (i := 11) rfl (h := ?_)
    refine aTakeNot (i := 12) rfl (h := ?_)
    refine aP 13 (.d (.bool true)) rfl (p_pick (b := true)) ?_
    refine dDrop [0, 1, 19] [0, 1, 19] (T' := [(0, .ptr 0 0), (1, .d (.int .i64 n)), (19, .d (.bool true))]) (U' := [(0, .ptr 0 0), (1, .d (.int .i64 n)), (19, .d (.bool true))]) (h := ?_)
    exact hj3 true
   ·refine aP 11 (.d (.int .i64 n)) rfl p_move ?_
    refine aP 12 (.d (.bool (decide (n < 1)))) rfl (p_int (k := .i64) (p := n) (q := 1)) ?_
    refine aP 13 (.d (.bool (decide (n < 1)))) rfl (p_pick (b := false)) ?_
    refine dDrop [0, 1, 19] [0, 1, 19] (T' := [(0, .ptr 0 0), (1, .d (.int .i64 n)), (19, .d (.bool (decide (n < 1))))]) (U' := [(0, .ptr 0 0), (1, .d (.int .i64 n)), (19, .d (.bool (decide (n < 1))))]) (h := ?_)
    exact hj3 (decide (n < 1))

/-- (*awardingbody/awardingbodymark.Dice).Curve -/
def mark_Dice_Curve_b1 (k : Nat) (x : (List Int)) (again : Int × Int × Int × Int × (List SPoint) → Option (Int × (List SPoint))) : Int × Int × Int × Int × (List SPoint) → Option (Int × (List SPoint)) := uc fun x17 => uc fun y7 => uc fun i7 => uc fun x18 => fun xs9 => bif (decide (i7 > 0)) then Option.bind (mark_Dice_Next k 3 x x18) (uc fun r133 => fun x632 => Option.bind (mark_Dice_Next k 4 x x632) (uc fun r134 => fun x633 => gcap (List.length (xs9 ++ ([(⟨(IntKind.wrap .i64 ((IntKind.wrap .i64 (x17 + 1)) + r133)), 1, (IntKind.wrap .i64 ((IntKind.wrap .i64 (y7 + 1)) + r134)), 1⟩ : SPoint)] : List SPoint))) 32 (again ((IntKind.wrap .i64 ((IntKind.wrap .i64 (x17 + 1)) + r133)), (IntKind.wrap .i64 ((IntKind.wrap .i64 (y7 + 1)) + r134)), (IntKind.wrap .i64 (i7 - 1)), x633, (xs9 ++ ([(⟨(IntKind.wrap .i64 ((IntKind.wrap .i64 (x17 + 1)) + r133)), 1, (IntKind.wrap .i64 ((IntKind.wrap .i64 (y7 + 1)) + r134)), 1⟩ : SPoint)] : List SPoint)))))) else some (x18, xs9)
def mark_Dice_Curve (k : Nat) (x : (List Int)) (x1 : Int) : Option ((List SPoint) × Int) := Option.bind (mark_Dice_Next k 9 x x1) (uc fun r112 => fun x611 => Option.bind (mark_Dice_Next k 9 x x611) (uc fun r113 => fun x612 => Option.bind (mark_Dice_Next k 4 x x612) (uc fun r114 => fun x613 => Option.bind (gloop (mark_Dice_Curve_b1 k x) k ((IntKind.wrap .i64 (r112 - 4)), (IntKind.wrap .i64 (r113 - 4)), (IntKind.wrap .i64 (1 + r114)), x613, ([(⟨(IntKind.wrap .i64 (r112 - 4)), 1, (IntKind.wrap .i64 (r113 - 4)), 1⟩ : SPoint)] : List SPoint)) : Option (Int × (List SPoint))) (uc fun x15 => fun xs7 => some (xs7, x15)))))
def mark_Dice_Curve_E (x : (List Int)) (x1 : Int) : (List SPoint) × Int → V × List Blk := uc fun r111 => fun x9 => (.agg [.d (.lit (List.map e_SPoint r111))], [.box [.d (.lit (List.map e_i64 x)), .d (.int .i64 x9)]])
theorem mark_Dice_Curve_goes (k : Nat) (x : (List Int)) (x1 : Int) : RunsO Try.prog 9 [.ptr 0 0] [.box [.d (.lit (List.map e_i64 x)), .d (.int .i64 x1)]] (mark_Dice_Curve_E x x1) (mark_Dice_Curve k x x1) := by
  refine RunsO.of_goes (N := 48) (m := 1) (T := [(0, .ptr 0 0)]) Try.func9 rfl rfl (h := ?_)
  unfold mark_Dice_Curve
  refine bStart ?_
  refine oSR rfl ?_
  refine oD (.ptr 1 0) (k_alloc (H' := [.box [.d (.lit (List.map e_i64 x)), .d (.int .i64 x1)], .box [.nilc]]) ty29) ?_
  refine oEnd ?_
  refine oSR rfl ?_
  refine oP (.ptr 0 0) p_move ?_
  refine bCall (caps := []) (v := (uc fun (r112 : Int) => (fun (x611 : Int) => (.d (.int .i64 r112) : V)))) (H' := (uc fun (r112 : Int) => (fun (x611 : Int) => ([.box [.d (.lit (List.map e_i64 x)), .d (.int .i64 x611)], .box [.nilc]] : List Blk)))) [0] _ (mark_Dice_Next_goes k 9 x x1) (ho := rfl) (hfn := Try.func20) (hb := rfl) (hconv := ConvRs.refl _ _) (hnd := by decide) (hBl := fun _ => (by kernel_rfl)) (hv := fun _ => (by kernel_rfl)) (hH' := fun _ => (by kernel_rfl)) (h := fun r => ?_)
  obtain ⟨r112, x611⟩ := r
  refine bUc ?_
  refine oP (.d (.int .i64 (IntKind.wrap .i64 (r112 - 4)))) (p_int (k := .i64) (p := r112) (q := 4)) ?_
  refine oP (.ptr 0 0) p_move ?_
  refine bCall (caps := []) (v := (uc fun (r113 : Int) => (fun (x612 : Int) => (.d (.int .i64 r113) : V)))) (H' := (uc fun (r113 : Int) => (fun (x612 : Int) => ([.box [.d (.lit (List.map e_i64 x)), .d (.int .i64 x612)], .box [.nilc]] : List Blk)))) [0] _ (mark_Dice_Next_goes k 9 x x611) (ho := rfl) (hfn := Try.func20) (hb := rfl) (hconv := ConvRs.refl _ _) (hnd := by decide) (hBl := fun _ => (by kernel_rfl)) (hv := fun _ => (by kernel_rfl)) (hH' := fun _ => (by kernel_rfl)) (h := fun r => ?_)
  obtain ⟨r113, x612⟩ := r
  refine bUc ?_
  refine oP (.d (.int .i64 (IntKind.wrap .i64 (r113 - 4)))) (p_int (k := .i64) (p := r113) (q := 4)) ?_
  refine oP (.d (.int .i64 (IntKind.wrap .i64 (r112 - 4)))) p_assign ?_
  refine oP (.d (.int .i64 (IntKind.wrap .i64 (r113 - 4)))) p_assign ?_
  refine oEnd ?_
  refine oSR rfl ?_
  refine oP (.d (.int .i64 (IntKind.wrap .i64 (r112 - 4)))) p_move ?_
  refine oP (.agg [.d (.int .i64 (IntKind.wrap .i64 (r112 - 4))), .d (.int .i64 1)]) (p_build bld37) ?_
  refine oP (.d (.int .i64 (IntKind.wrap .i64 (r113 - 4)))) p_move ?_
  refine oP (.agg [.d (.int .i64 (IntKind.wrap .i64 (r113 - 4))), .d (.int .i64 1)]) (p_build bld37) ?_
  refine oP (.agg [.d (.int .i64 (IntKind.wrap .i64 (r112 - 4))), .d (.int .i64 1), .d (.int .i64 (IntKind.wrap .i64 (r113 - 4))), .d (.int .i64 1)]) (p_build bld39) ?_
  refine oD (.ref 2 (List.length ([(⟨(IntKind.wrap .i64 (r112 - 4)), 1, (IntKind.wrap .i64 (r113 - 4)), 1⟩ : SPoint)] : List SPoint)) 0 (List.length ([(⟨(IntKind.wrap .i64 (r112 - 4)), 1, (IntKind.wrap .i64 (r113 - 4)), 1⟩ : SPoint)] : List SPoint))) (k_buildSlice (H' := [.box [.d (.lit (List.map e_i64 x)), .d (.int .i64 x612)], .box [.nilc], .sl 4 (List.map e_SPoint ([(⟨(IntKind.wrap .i64 (r112 - 4)), 1, (IntKind.wrap .i64 (r113 - 4)), 1⟩ : SPoint)] : List SPoint)) false]) (List.map e_SPoint ([(⟨(IntKind.wrap .i64 (r112 - 4)), 1, (IntKind.wrap .i64 (r113 - 4)), 1⟩ : SPoint)] : List SPoint)) Try.underlying27 ty39) ?_
  refine oP (.agg [.ref 2 (List.length ([(⟨(IntKind.wrap .i64 (r112 - 4)), 1, (IntKind.wrap .i64 (r113 - 4)), 1⟩ : SPoint)] : List SPoint)) 0 (List.length ([(⟨(IntKind.wrap .i64 (r112 - 4)), 1, (IntKind.wrap .i64 (r113 - 4)), 1⟩ : SPoint)] : List SPoint))]) (p_build bld29) ?_
  refine oD (.ptr 3 0) (k_alloc (H' := [.box [.d (.lit (List.map e_i64 x)), .d (.int .i64 x612)], .box [.nilc], .sl 4 (List.map e_SPoint ([(⟨(IntKind.wrap .i64 (r112 - 4)), 1, (IntKind.wrap .i64 (r113 - 4)), 1⟩ : SPoint)] : List SPoint)) false, .box [.nilc]]) ty29) ?_
  refine oD (.undef) (k_store (vs := [.ref 2 (List.length ([(⟨(IntKind.wrap .i64 (r112 - 4)), 1, (IntKind.wrap .i64 (r113 - 4)), 1⟩ : SPoint)] : List SPoint)) 0 (List.length ([(⟨(IntKind.wrap .i64 (r112 - 4)), 1, (IntKind.wrap .i64 (r113 - 4)), 1⟩ : SPoint)] : List SPoint))]) (H' := [.box [.d (.lit (List.map e_i64 x)), .d (.int .i64 x612)], .box [.nilc], .sl 4 (List.map e_SPoint ([(⟨(IntKind.wrap .i64 (r112 - 4)), 1, (IntKind.wrap .i64 (r113 - 4)), 1⟩ : SPoint)] : List SPoint)) false, .box [.ref 2 (List.length ([(⟨(IntKind.wrap .i64 (r112 - 4)), 1, (IntKind.wrap .i64 (r113 - 4)), 1⟩ : SPoint)] : List SPoint)) 0 (List.length ([(⟨(IntKind.wrap .i64 (r112 - 4)), 1, (IntKind.wrap .i64 (r113 - 4)), 1⟩ : SPoint)] : List SPoint))]]) 3 0 (hi := ty29)) ?_
  refine oEnd ?_
  refine oSeq ?_
  refine oSR rfl ?_
  refine oP (.ptr 0 0) p_move ?_
  refine bCall (caps := []) (v := (uc fun (r114 : Int) => (fun (x613 : Int) => (.d (.int .i64 r114) : V)))) (H' := (uc fun (r114 : Int) => (fun (x613 : Int) => ([.box [.d (.lit (List.map e_i64 x)), .d (.int .i64 x613)], .box [.nilc], .sl 4 (List.map e_SPoint ([(⟨(IntKind.wrap .i64 (r112 - 4)), 1, (IntKind.wrap .i64 (r113 - 4)), 1⟩ : SPoint)] : List SPoint)) false, .box [.ref 2 (List.length ([(⟨(IntKind.wrap .i64 (r112 - 4)), 1, (IntKind.wrap .i64 (r113 - 4)), 1⟩ : SPoint)] : List SPoint)) 0 (List.length ([(⟨(IntKind.wrap .i64 (r112 - 4)), 1, (IntKind.wrap .i64 (r113 - 4)), 1⟩ : SPoint)] : List SPoint))]] : List Blk)))) [0] _ (mark_Dice_Next_goes k 4 x x612) (ho := rfl) (hfn := Try.func20) (hb := rfl) (hconv := ConvRs.refl _ _) (hnd := by decide) (hBl := fun _ => (by kernel_rfl)) (hv := fun _ => (by kernel_rfl)) (hH' := fun _ => (by kernel_rfl)) (h := fun r => ?_)
  obtain ⟨r114, x613⟩ := r
  refine bUc ?_
  refine oP (.d (.int .i64 (IntKind.wrap .i64 (1 + r114)))) (p_int (k := .i64) (p := 1) (q := r114)) ?_
  refine oP (.d (.int .i64 (IntKind.wrap .i64 (1 + r114)))) p_assign ?_
  refine oEnd ?_
  refine bJoin ((uc fun (x15 : Int) => (fun (xs7 : (List SPoint)) => [(2, .ptr 1 0), (5, .ptr 2 0)]))) ((uc fun (x15 : Int) => (fun (xs7 : (List SPoint)) => [.box [.d (.lit (List.map e_i64 x)), .d (.int .i64 x15)], .box [.nilc], .box [.ref 3 (List.length xs7) 0 (List.length xs7)], .sl 4 (List.map e_SPoint xs7) false]))) (fun s => s) (fun s => ?_) (fun hj2 => ?_)
  ·obtain ⟨x15, xs7⟩ := s
   refine bUc ?_
   refine oView (T' := [(2, .ptr 1 0), (5, .ptr 2 0)]) (H' := [.box [.d (.lit (List.map e_i64 x)), .d (.int .i64 x15)], .box [.nilc], .box [.ref 3 (List.length xs7) 0 (List.length xs7)], .sl 4 (List.map e_SPoint xs7) false]) (h := ?_)
   refine oSR rfl ?_
   refine oQ (.agg [.ref 3 (List.length xs7) 0 (List.length xs7)]) (k_loadAgg 2 0 (hu := Try.underlying29) (hi := ty29)) ?_
   refine oD (.undef) (k_store (vs := [.ref 3 (List.length xs7) 0 (List.length xs7)]) (H' := [.box [.d (.lit (List.map e_i64 x)), .d (.int .i64 x15)], .box [.ref 3 (List.length xs7) 0 (List.length xs7)], .box [.ref 3 (List.length xs7) 0 (List.length xs7)], .sl 4 (List.map e_SPoint xs7) false]) 1 0 (hi := ty29)) ?_
   refine oEnd ?_
   refine oFreeze 3 (esz := 4) (xs := List.map e_SPoint xs7) (h := ?_)
   refine oView (H' := [.box [.d (.lit (List.map e_i64 x)), .d (.int .i64 x15)], .box [.ref 3 (List.length xs7) 0 (List.length xs7)], .box [.ref 3 (List.length xs7) 0 (List.length xs7)], .sl 4 (List.map e_SPoint xs7) true]) rfl (h := ?_)
   refine oConvB 1 (cells := [.ref 3 (List.length xs7) 0 (List.length xs7)]) (cells' := [.d (.lit (List.map e_SPoint xs7))]) (hc := .cons _ _ _ _ (k_lit (enc := e_SPoint) (sz := 4) 3 xs7) .nil) (h := ?_)
   refine oView (H' := [.box [.d (.lit (List.map e_i64 x)), .d (.int .i64 x15)], .box [.d (.lit (List.map e_SPoint xs7))], .box [.ref 3 (List.length xs7) 0 (List.length xs7)], .sl 4 (List.map e_SPoint xs7) true]) rfl (h := ?_)
   exact oRet (r0 := (xs7, x15)) (rv := .agg [.d (.lit (List.map e_SPoint xs7))]) (B := [.box [.d (.lit (List.map e_i64 x)), .d (.int .i64 x15)]]) (vs := [.agg [.d (.lit (List.map e_SPoint xs7))]]) (σ := [0]) (hf := Try.func9) (hrs := rfl) (hres := .cons _ _ _ _ (.agg 2 29 1 0 [.d (.lit (List.map e_SPoint xs7))] [.d (.lit (List.map e_SPoint xs7))] _ _ _ _ (by kernel_rfl) (by kernel_rfl) Try.underlying29 (by kernel_rfl) ty29 (by kernel_rfl) (by kernel_rfl)) .nil) (hnd := by decide)
  ·refine oBlock ?_
   refine oLoop ?_
   refine oHead [0, 2, 3, 4, 5, 6] [0, 1, 3, 2] (T' := [(0, .ptr 0 0), (2, .ptr 1 0), (3, .d (.int .i64 (IntKind.wrap .i64 (r112 - 4)))), (4, .d (.int .i64 (IntKind.wrap .i64 (r113 - 4)))), (5, .ptr 2 0), (6, .d (.int .i64 (IntKind.wrap .i64 (1 + r114))))]) (H' := [.box [.d (.lit (List.map e_i64 x)), .d (.int .i64 x613)], .box [.nilc], .box [.ref 3 (List.length ([(⟨(IntKind.wrap .i64 (r112 - 4)), 1, (IntKind.wrap .i64 (r113 - 4)), 1⟩ : SPoint)] : List SPoint)) 0 (List.length ([(⟨(IntKind.wrap .i64 (r112 - 4)), 1, (IntKind.wrap .i64 (r113 - 4)), 1⟩ : SPoint)] : List SPoint))], .sl 4 (List.map e_SPoint ([(⟨(IntKind.wrap .i64 (r112 - 4)), 1, (IntKind.wrap .i64 (r113 - 4)), 1⟩ : SPoint)] : List SPoint)) false]) (hnd := by decide) (h := ?_)
   refine bLoop (body := mark_Dice_Curve_b1 k x) ((uc fun (x17 : Int) => (uc fun (y7 : Int) => (uc fun (i7 : Int) => (uc fun (x18 : Int) => (fun (xs9 : (List SPoint)) => [(0, .ptr 0 0), (2, .ptr 1 0), (3, .d (.int .i64 x17)), (4, .d (.int .i64 y7)), (5, .ptr 2 0), (6, .d (.int .i64 i7))])))))) ((uc fun (x17 : Int) => (uc fun (y7 : Int) => (uc fun (i7 : Int) => (uc fun (x18 : Int) => (fun (xs9 : (List SPoint)) => [.box [.d (.lit (List.map e_i64 x)), .d (.int .i64 x18)], .box [.nilc], .box [.ref 3 (List.length xs9) 0 (List.length xs9)], .sl 4 (List.map e_SPoint xs9) false])))))) (fun again hag1 s => ?_) k ((IntKind.wrap .i64 (r112 - 4)), (IntKind.wrap .i64 (r113 - 4)), (IntKind.wrap .i64 (1 + r114)), x613, ([(⟨(IntKind.wrap .i64 (r112 - 4)), 1, (IntKind.wrap .i64 (r113 - 4)), 1⟩ : SPoint)] : List SPoint))
   ·unfold mark_Dice_Curve_b1
    obtain ⟨x17, y7, i7, x18, xs9⟩ := s
    refine bUc ?_
    refine bUc ?_
    refine bUc ?_
    refine bUc ?_
    refine oView (T' := [(0, .ptr 0 0), (2, .ptr 1 0), (3, .d (.int .i64 x17)), (4, .d (.int .i64 y7)), (5, .ptr 2 0), (6, .d (.int .i64 i7))]) (H' := [.box [.d (.lit (List.map e_i64 x)), .d (.int .i64 x18)], .box [.nilc], .box [.ref 3 (List.length xs9) 0 (List.length xs9)], .sl 4 (List.map e_SPoint xs9) false]) (h := ?_)
    refine oSeq ?_
    refine oSR rfl ?_
    refine oP (.d (.int .i64 i7)) p_move ?_
    refine oP (.d (.bool (decide (i7 > 0)))) (p_int (k := .i64) (p := i7) (q := 0)) ?_
    refine oEnd ?_
    refine bSplit 24 (h1 := fun hc => ?_) (h2 := fun hc => ?_)
    ·refine oCondT (h := ?_)
     refine oSkip ?_
     refine oSeq ?_
     refine oBlock ?_
     refine oSR rfl ?_
     refine oP (.d (.int .i64 x17)) p_move ?_
     refine oP (.d (.int .i64 (IntKind.wrap .i64 (x17 + 1)))) (p_int (k := .i64) (p := x17) (q := 1)) ?_
     refine oP (.ptr 0 0) p_move ?_
     refine bCall (caps := []) (v := (uc fun (r133 : Int) => (fun (x632 : Int) => (.d (.int .i64 r133) : V)))) (H' := (uc fun (r133 : Int) => (fun (x632 : Int) => ([.box [.d (.lit (List.map e_i64 x)), .d (.int .i64 x632)], .box [.nilc], .box [.ref 3 (List.length xs9) 0 (List.length xs9)], .sl 4 (List.map e_SPoint xs9) false] : List Blk)))) [0] _ (mark_Dice_Next_goes k 3 x x18) (ho := rfl) (hfn := Try.func20) (hb := rfl) (hconv := ConvRs.refl _ _) (hnd := by decide) (hBl := fun _ => (by kernel_rfl)) (hv := fun _ => (by kernel_rfl)) (hH' := fun _ => (by kernel_rfl)) (h := fun r => ?_)
     obtain ⟨r133, x632⟩ := r
     refine bUc ?_
     refine oP (.d (.int .i64 (IntKind.wrap .i64 ((IntKind.wrap .i64 (x17 + 1)) + r133)))) (p_int (k := .i64) (p := (IntKind.wrap .i64 (x17 + 1))) (q := r133)) ?_
     refine oP (.d (.int .i64 y7)) p_move ?_
     refine oP (.d (.int .i64 (IntKind.wrap .i64 (y7 + 1)))) (p_int (k := .i64) (p := y7) (q := 1)) ?_
     refine oP (.ptr 0 0) p_move ?_
     refine bCall (caps := []) (v := (uc fun (r134 : Int) => (fun (x633 : Int) => (.d (.int .i64 r134) : V)))) (H' := (uc fun (r134 : Int) => (fun (x633 : Int) => ([.box [.d (.lit (List.map e_i64 x)), .d (.int .i64 x633)], .box [.nilc], .box [.ref 3 (List.length xs9) 0 (List.length xs9)], .sl 4 (List.map e_SPoint xs9) false] : List Blk)))) [0] _ (mark_Dice_Next_goes k 4 x x632) (ho := rfl) (hfn := Try.func20) (hb := rfl) (hconv := ConvRs.refl _ _) (hnd := by decide) (hBl := fun _ => (by kernel_rfl)) (hv := fun _ => (by kernel_rfl)) (hH' := fun _ => (by kernel_rfl)) (h := fun r => ?_)
     obtain ⟨r134, x633⟩ := r
     refine bUc ?_
     refine oP (.d (.int .i64 (IntKind.wrap .i64 ((IntKind.wrap .i64 (y7 + 1)) + r134)))) (p_int (k := .i64) (p := (IntKind.wrap .i64 (y7 + 1))) (q := r134)) ?_
     refine oP (.d (.int .i64 (IntKind.wrap .i64 ((IntKind.wrap .i64 (x17 + 1)) + r133)))) p_assign ?_
     refine oP (.d (.int .i64 (IntKind.wrap .i64 ((IntKind.wrap .i64 (y7 + 1)) + r134)))) p_assign ?_
     refine oEnd ?_
     refine oRegion rfl ?_
     refine oP (.ptr 2 0) (k_fieldAddr 2 0 (hu := Try.underlying29) (hf := rfl) (hi := ty27)) ?_
     refine oQ (.ref 3 (List.length xs9) 0 (List.length xs9)) (k_load 2 0 (hu := Try.underlying27)) ?_
     refine oP (.d (.int .i64 (IntKind.wrap .i64 ((IntKind.wrap .i64 (x17 + 1)) + r133)))) p_move ?_
     refine oP (.agg [.d (.int .i64 (IntKind.wrap .i64 ((IntKind.wrap .i64 (x17 + 1)) + r133))), .d (.int .i64 1)]) (p_build bld37) ?_
     refine oP (.d (.int .i64 (IntKind.wrap .i64 ((IntKind.wrap .i64 (y7 + 1)) + r134)))) p_move ?_
     refine oP (.agg [.d (.int .i64 (IntKind.wrap .i64 ((IntKind.wrap .i64 (y7 + 1)) + r134))), .d (.int .i64 1)]) (p_build bld37) ?_
     refine oP (.agg [.d (.int .i64 (IntKind.wrap .i64 ((IntKind.wrap .i64 (x17 + 1)) + r133))), .d (.int .i64 1), .d (.int .i64 (IntKind.wrap .i64 ((IntKind.wrap .i64 (y7 + 1)) + r134))), .d (.int .i64 1)]) (p_build bld39) ?_
     refine oD (.ref 4 (List.length ([(⟨(IntKind.wrap .i64 ((IntKind.wrap .i64 (x17 + 1)) + r133)), 1, (IntKind.wrap .i64 ((IntKind.wrap .i64 (y7 + 1)) + r134)), 1⟩ : SPoint)] : List SPoint)) 0 (List.length ([(⟨(IntKind.wrap .i64 ((IntKind.wrap .i64 (x17 + 1)) + r133)), 1, (IntKind.wrap .i64 ((IntKind.wrap .i64 (y7 + 1)) + r134)), 1⟩ : SPoint)] : List SPoint))) (k_buildSlice (H' := [.box [.d (.lit (List.map e_i64 x)), .d (.int .i64 x633)], .box [.nilc], .box [.ref 3 (List.length xs9) 0 (List.length xs9)], .sl 4 (List.map e_SPoint xs9) false, .sl 4 (List.map e_SPoint ([(⟨(IntKind.wrap .i64 ((IntKind.wrap .i64 (x17 + 1)) + r133)), 1, (IntKind.wrap .i64 ((IntKind.wrap .i64 (y7 + 1)) + r134)), 1⟩ : SPoint)] : List SPoint)) false]) (List.map e_SPoint ([(⟨(IntKind.wrap .i64 ((IntKind.wrap .i64 (x17 + 1)) + r133)), 1, (IntKind.wrap .i64 ((IntKind.wrap .i64 (y7 + 1)) + r134)), 1⟩ : SPoint)] : List SPoint)) Try.underlying27 ty39) ?_
     refine bCap (fun h113 => ?_)
     refine oD (.ref 3 (List.length (xs9 ++ ([(⟨(IntKind.wrap .i64 ((IntKind.wrap .i64 (x17 + 1)) + r133)), 1, (IntKind.wrap .i64 ((IntKind.wrap .i64 (y7 + 1)) + r134)), 1⟩ : SPoint)] : List SPoint))) 0 (List.length (xs9 ++ ([(⟨(IntKind.wrap .i64 ((IntKind.wrap .i64 (x17 + 1)) + r133)), 1, (IntKind.wrap .i64 ((IntKind.wrap .i64 (y7 + 1)) + r134)), 1⟩ : SPoint)] : List SPoint)))) (k_append (H' := [.box [.d (.lit (List.map e_i64 x)), .d (.int .i64 x633)], .box [.nilc], .box [.ref 3 (List.length xs9) 0 (List.length xs9)], .sl 4 (List.map e_SPoint (xs9 ++ ([(⟨(IntKind.wrap .i64 ((IntKind.wrap .i64 (x17 + 1)) + r133)), 1, (IntKind.wrap .i64 ((IntKind.wrap .i64 (y7 + 1)) + r134)), 1⟩ : SPoint)] : List SPoint))) false, .sl 4 (List.map e_SPoint ([(⟨(IntKind.wrap .i64 ((IntKind.wrap .i64 (x17 + 1)) + r133)), 1, (IntKind.wrap .i64 ((IntKind.wrap .i64 (y7 + 1)) + r134)), 1⟩ : SPoint)] : List SPoint)) false]) (enc := e_SPoint) 3 xs9 ([(⟨(IntKind.wrap .i64 ((IntKind.wrap .i64 (x17 + 1)) + r133)), 1, (IntKind.wrap .i64 ((IntKind.wrap .i64 (y7 + 1)) + r134)), 1⟩ : SPoint)] : List SPoint) Try.underlying27 Try.underlying27 ty39 (hy := (holdsRef (enc := e_SPoint) 4 ([(⟨(IntKind.wrap .i64 ((IntKind.wrap .i64 (x17 + 1)) + r133)), 1, (IntKind.wrap .i64 ((IntKind.wrap .i64 (y7 + 1)) + r134)), 1⟩ : SPoint)] : List SPoint) false)) (hfit := h113)) ?_
     refine oP (.ptr 2 0) (k_fieldAddr 2 0 (hu := Try.underlying29) (hf := rfl) (hi := ty27)) ?_
     refine oD (.undef) (k_store (vs := [.ref 3 (List.length (xs9 ++ ([(⟨(IntKind.wrap .i64 ((IntKind.wrap .i64 (x17 + 1)) + r133)), 1, (IntKind.wrap .i64 ((IntKind.wrap .i64 (y7 + 1)) + r134)), 1⟩ : SPoint)] : List SPoint))) 0 (List.length (xs9 ++ ([(⟨(IntKind.wrap .i64 ((IntKind.wrap .i64 (x17 + 1)) + r133)), 1, (IntKind.wrap .i64 ((IntKind.wrap .i64 (y7 + 1)) + r134)), 1⟩ : SPoint)] : List SPoint)))]) (H' := [.box [.d (.lit (List.map e_i64 x)), .d (.int .i64 x633)], .box [.nilc], .box [.ref 3 (List.length (xs9 ++ ([(⟨(IntKind.wrap .i64 ((IntKind.wrap .i64 (x17 + 1)) + r133)), 1, (IntKind.wrap .i64 ((IntKind.wrap .i64 (y7 + 1)) + r134)), 1⟩ : SPoint)] : List SPoint))) 0 (List.length (xs9 ++ ([(⟨(IntKind.wrap .i64 ((IntKind.wrap .i64 (x17 + 1)) + r133)), 1, (IntKind.wrap .i64 ((IntKind.wrap .i64 (y7 + 1)) + r134)), 1⟩ : SPoint)] : List SPoint)))], .sl 4 (List.map e_SPoint (xs9 ++ ([(⟨(IntKind.wrap .i64 ((IntKind.wrap .i64 (x17 + 1)) + r133)), 1, (IntKind.wrap .i64 ((IntKind.wrap .i64 (y7 + 1)) + r134)), 1⟩ : SPoint)] : List SPoint))) false, .sl 4 (List.map e_SPoint ([(⟨(IntKind.wrap .i64 ((IntKind.wrap .i64 (x17 + 1)) + r133)), 1, (IntKind.wrap .i64 ((IntKind.wrap .i64 (y7 + 1)) + r134)), 1⟩ : SPoint)] : List SPoint)) false]) 2 0 (hi := ty27)) ?_
     refine oEnd ?_
     refine oBlk ?_
     refine oRegion rfl ?_
     refine oP (.d (.int .i64 i7)) p_move ?_
     refine oP (.d (.int .i64 (IntKind.wrap .i64 (i7 - 1)))) (p_int (k := .i64) (p := i7) (q := 1)) ?_
     refine oP (.d (.int .i64 (IntKind.wrap .i64 (i7 - 1)))) p_assign ?_
     refine oEnd ?_
     refine oAgain ?_
     refine oHead [0, 2, 3, 4, 5, 6] [0, 1, 2, 3] (T' := [(0, .ptr 0 0), (2, .ptr 1 0), (3, .d (.int .i64 (IntKind.wrap .i64 ((IntKind.wrap .i64 (x17 + 1)) + r133)))), (4, .d (.int .i64 (IntKind.wrap .i64 ((IntKind.wrap .i64 (y7 + 1)) + r134)))), (5, .ptr 2 0), (6, .d (.int .i64 (IntKind.wrap .i64 (i7 - 1))))]) (H' := [.box [.d (.lit (List.map e_i64 x)), .d (.int .i64 x633)], .box [.nilc], .box [.ref 3 (List.length (xs9 ++ ([(⟨(IntKind.wrap .i64 ((IntKind.wrap .i64 (x17 + 1)) + r133)), 1, (IntKind.wrap .i64 ((IntKind.wrap .i64 (y7 + 1)) + r134)), 1⟩ : SPoint)] : List SPoint))) 0 (List.length (xs9 ++ ([(⟨(IntKind.wrap .i64 ((IntKind.wrap .i64 (x17 + 1)) + r133)), 1, (IntKind.wrap .i64 ((IntKind.wrap .i64 (y7 + 1)) + r134)), 1⟩ : SPoint)] : List SPoint)))], .sl 4 (List.map e_SPoint (xs9 ++ ([(⟨(IntKind.wrap .i64 ((IntKind.wrap .i64 (x17 + 1)) + r133)), 1, (IntKind.wrap .i64 ((IntKind.wrap .i64 (y7 + 1)) + r134)), 1⟩ : SPoint)] : List SPoint))) false]) (hnd := by decide) (h := ?_)
     exact hag1 ((IntKind.wrap .i64 ((IntKind.wrap .i64 (x17 + 1)) + r133)), (IntKind.wrap .i64 ((IntKind.wrap .i64 (y7 + 1)) + r134)), (IntKind.wrap .i64 (i7 - 1)), x633, (xs9 ++ ([(⟨(IntKind.wrap .i64 ((IntKind.wrap .i64 (x17 + 1)) + r133)), 1, (IntKind.wrap .i64 ((IntKind.wrap .i64 (y7 + 1)) + r134)), 1⟩ : SPoint)] : List SPoint)))
    ·refine oCondF (h := ?_)
     refine oExit rfl ?_
     refine oHead [2, 5] [0, 1, 2, 3] (T' := [(2, .ptr 1 0), (5, .ptr 2 0)]) (H' := [.box [.d (.lit (List.map e_i64 x)), .d (.int .i64 x18)], .box [.nilc], .box [.ref 3 (List.length xs9) 0 (List.length xs9)], .sl 4 (List.map e_SPoint xs9) false]) (hnd := by decide) (h := ?_)
     exact hj2 (x18, xs9)

/-- awardingbody/conversion.turned -/
def conversion_turned_b1 (k : Nat) (l : (List SPoint)) (again : Int × (List SPoint) → Option ((List SPoint))) : Int × (List SPoint) → Option ((List SPoint)) := uc fun x4 => fun xs6 => bif (decide (x4 < ((List.length l) : Int))) then gidx l x4 fun e113 => gcap (List.length (xs6 ++ ([(⟨e113.Y_Num, e113.Y_Den, e113.X_Num, e113.X_Den⟩ : SPoint)] : List SPoint))) 32 (again ((IntKind.wrap .i64 (x4 + 1)), (xs6 ++ ([(⟨e113.Y_Num, e113.Y_Den, e113.X_Num, e113.X_Den⟩ : SPoint)] : List SPoint)))) else some xs6
def conversion_turned (k : Nat) (l : (List SPoint)) : Option ((List SPoint)) := Option.bind (gloop (conversion_turned_b1 k l) k (0, ([] : List SPoint)) : Option ((List SPoint))) (fun xs5 => some xs5)
def conversion_turned_E (l : (List SPoint)) : (List SPoint) → V × List Blk := fun r1 => (.d (.lit (List.map e_SPoint r1)), [])
theorem conversion_turned_goes (k : Nat) (l : (List SPoint)) : RunsO Try.prog 27 [.d (.lit (List.map e_SPoint l))] [] (conversion_turned_E l) (conversion_turned k l) := by
  refine RunsO.of_goes (N := 22) (m := 0) (T := [(0, .d (.lit (List.map e_SPoint l)))]) Try.func27 rfl rfl (h := ?_)
  unfold conversion_turned
  refine bStart ?_
  refine oSR rfl ?_
  refine oP (.nilc) p_assign ?_
  refine oEnd ?_
  refine oSR rfl ?_
  refine oP (.nilc) p_assign ?_
  refine oEnd ?_
  refine oSeq ?_
  refine oSR rfl ?_
  refine oP (.d (.lit (List.map e_SPoint l))) p_move ?_
  refine oP (.d (.int .i64 ((List.length l) : Int))) (k_lenLit (enc := e_SPoint) l (hu := Try.underlying27)) ?_
  refine oP (.d (.int .i64 0)) p_move ?_
  refine oEnd ?_
  refine bJoin ((fun (xs5 : (List SPoint)) => [(3, .ref 0 (List.length xs5) 0 (List.length xs5))])) ((fun (xs5 : (List SPoint)) => [.sl 4 (List.map e_SPoint xs5) false])) (fun s => s) (fun xs5 => ?_) (fun hj2 => ?_)
  ·refine oView (T' := [(3, .ref 0 (List.length xs5) 0 (List.length xs5))]) (H' := [.sl 4 (List.map e_SPoint xs5) false]) (h := ?_)
   refine oSR rfl ?_
   refine oP (.ref 0 (List.length xs5) 0 (List.length xs5)) p_move ?_
   refine oP (.ref 0 (List.length xs5) 0 (List.length xs5)) p_assign ?_
   refine oEnd ?_
   refine oFreeze 0 (esz := 4) (xs := List.map e_SPoint xs5) (h := ?_)
   refine oView (H' := [.sl 4 (List.map e_SPoint xs5) true]) rfl (h := ?_)
   refine oConv 2 (v := .ref 0 (List.length xs5) 0 (List.length xs5)) (v' := .d (.lit (List.map e_SPoint xs5))) (hc := k_lit (enc := e_SPoint) (sz := 4) 0 xs5) (h := ?_)
   exact oRet (r0 := xs5) (rv := .d (.lit (List.map e_SPoint xs5))) (B := []) (vs := [.d (.lit (List.map e_SPoint xs5))]) (σ := []) (hf := Try.func27) (hrs := rfl) (hres := .cons _ _ _ _ (.tmp 2 _ (by kernel_rfl)) .nil) (hnd := by decide)
  ·refine oBlock ?_
   refine oLoop ?_
   refine oVirt (esz := 4) 3 (h := ?_)
   refine oView (H' := [.sl 4 (List.map e_SPoint ([] : List SPoint)) false]) rfl (h := ?_)
   refine oHead [3, 6, 7, 8] [0] (T' := [(3, .ref 0 (List.length ([] : List SPoint)) 0 (List.length ([] : List SPoint))), (6, .d (.lit (List.map e_SPoint l))), (7, .d (.int .i64 ((List.length l) : Int))), (8, .d (.int .i64 0))]) (H' := [.sl 4 (List.map e_SPoint ([] : List SPoint)) false]) (hnd := by decide) (h := ?_)
   refine bLoop (body := conversion_turned_b1 k l) ((uc fun (x4 : Int) => (fun (xs6 : (List SPoint)) => [(3, .ref 0 (List.length xs6) 0 (List.length xs6)), (6, .d (.lit (List.map e_SPoint l))), (7, .d (.int .i64 ((List.length l) : Int))), (8, .d (.int .i64 x4))]))) ((uc fun (x4 : Int) => (fun (xs6 : (List SPoint)) => [.sl 4 (List.map e_SPoint xs6) false]))) (fun again hag1 s => ?_) k (0, ([] : List SPoint))
   ·unfold conversion_turned_b1
    obtain ⟨x4, xs6⟩ := s
    refine bUc ?_
    refine oView (T' := [(3, .ref 0 (List.length xs6) 0 (List.length xs6)), (6, .d (.lit (List.map e_SPoint l))), (7, .d (.int .i64 ((List.length l) : Int))), (8, .d (.int .i64 x4))]) (H' := [.sl 4 (List.map e_SPoint xs6) false]) (h := ?_)
    refine oSR rfl ?_
    refine oP (.d (.bool (decide (x4 < ((List.length l) : Int))))) (p_int (k := .i64) (p := x4) (q := ((List.length l) : Int))) ?_
    refine oEnd ?_
    refine oSeq ?_
    refine bSplit 9 (h1 := fun hc => ?_) (h2 := fun hc => ?_)
    ·refine oCondT (h := ?_)
     refine oSkip ?_
     refine oSeq ?_
     refine oBlock ?_
     refine oSR rfl ?_
     refine bIdx (fun e113 h139 h140 => ?_)
     refine oP (.lptr (e_SPoint e113) 0) (k_idxLit e_SPoint_len l (a := e113) (k := .i64) (i := x4) (hu := Try.underlying27) (hi := ty39) (h0 := h139) (he := h140)) ?_
     refine oQ (.agg [.d (.int .i64 e113.X_Num), .d (.int .i64 e113.X_Den), .d (.int .i64 e113.Y_Num), .d (.int .i64 e113.Y_Den)]) (k_loadLAgg (cells := e_SPoint e113) 0 [(.int .i64 e113.X_Num), (.int .i64 e113.X_Den), (.int .i64 e113.Y_Num), (.int .i64 e113.Y_Den)] (hu := Try.underlying39) (hi := ty39)) ?_
     refine oD (.ptr 1 0) (k_alloc (H' := [.sl 4 (List.map e_SPoint xs6) false, .box [.d (.int .i64 0), .d (.int .i64 0), .d (.int .i64 0), .d (.int .i64 0)]]) ty39) ?_
     refine oD (.undef) (k_store (vs := [.d (.int .i64 e113.X_Num), .d (.int .i64 e113.X_Den), .d (.int .i64 e113.Y_Num), .d (.int .i64 e113.Y_Den)]) (H' := [.sl 4 (List.map e_SPoint xs6) false, .box [.d (.int .i64 e113.X_Num), .d (.int .i64 e113.X_Den), .d (.int .i64 e113.Y_Num), .d (.int .i64 e113.Y_Den)]]) 1 0 (hi := ty39)) ?_
     refine oEnd ?_
     refine oRegion rfl ?_
     refine oP (.ref 0 (List.length xs6) 0 (List.length xs6)) p_move ?_
     refine oP (.ptr 1 2) (k_fieldAddr 1 0 (hu := Try.underlying39) (hf := rfl) (hi := ty37)) ?_
     refine oQ (.agg [.d (.int .i64 e113.Y_Num), .d (.int .i64 e113.Y_Den)]) (k_loadAgg 1 2 (hu := Try.underlying37) (hi := ty37)) ?_
     refine oP (.ptr 1 0) (k_fieldAddr 1 0 (hu := Try.underlying39) (hf := rfl) (hi := ty37)) ?_
     refine oQ (.agg [.d (.int .i64 e113.X_Num), .d (.int .i64 e113.X_Den)]) (k_loadAgg 1 0 (hu := Try.underlying37) (hi := ty37)) ?_
     refine oP (.agg [.d (.int .i64 e113.Y_Num), .d (.int .i64 e113.Y_Den), .d (.int .i64 e113.X_Num), .d (.int .i64 e113.X_Den)]) (p_build bld39) ?_
     refine oD (.ref 2 (List.length ([(⟨e113.Y_Num, e113.Y_Den, e113.X_Num, e113.X_Den⟩ : SPoint)] : List SPoint)) 0 (List.length ([(⟨e113.Y_Num, e113.Y_Den, e113.X_Num, e113.X_Den⟩ : SPoint)] : List SPoint))) (k_buildSlice (H' := [.sl 4 (List.map e_SPoint xs6) false, .box [.d (.int .i64 e113.X_Num), .d (.int .i64 e113.X_Den), .d (.int .i64 e113.Y_Num), .d (.int .i64 e113.Y_Den)], .sl 4 (List.map e_SPoint ([(⟨e113.Y_Num, e113.Y_Den, e113.X_Num, e113.X_Den⟩ : SPoint)] : List SPoint)) false]) (List.map e_SPoint ([(⟨e113.Y_Num, e113.Y_Den, e113.X_Num, e113.X_Den⟩ : SPoint)] : List SPoint)) Try.underlying27 ty39) ?_
     refine bCap (fun h141 => ?_)
     refine oD (.ref 0 (List.length (xs6 ++ ([(⟨e113.Y_Num, e113.Y_Den, e113.X_Num, e113.X_Den⟩ : SPoint)] : List SPoint))) 0 (List.length (xs6 ++ ([(⟨e113.Y_Num, e113.Y_Den, e113.X_Num, e113.X_Den⟩ : SPoint)] : List SPoint)))) (k_append (H' := [.sl 4 (List.map e_SPoint (xs6 ++ ([(⟨e113.Y_Num, e113.Y_Den, e113.X_Num, e113.X_Den⟩ : SPoint)] : List SPoint))) false, .box [.d (.int .i64 e113.X_Num), .d (.int .i64 e113.X_Den), .d (.int .i64 e113.Y_Num), .d (.int .i64 e113.Y_Den)], .sl 4 (List.map e_SPoint ([(⟨e113.Y_Num, e113.Y_Den, e113.X_Num, e113.X_Den⟩ : SPoint)] : List SPoint)) false]) (enc := e_SPoint) 0 xs6 ([(⟨e113.Y_Num, e113.Y_Den, e113.X_Num, e113.X_Den⟩ : SPoint)] : List SPoint) Try.underlying27 Try.underlying27 ty39 (hy := (holdsRef (enc := e_SPoint) 2 ([(⟨e113.Y_Num, e113.Y_Den, e113.X_Num, e113.X_Den⟩ : SPoint)] : List SPoint) false)) (hfit := h141)) ?_
     refine oP (.ref 0 (List.length (xs6 ++ ([(⟨e113.Y_Num, e113.Y_Den, e113.X_Num, e113.X_Den⟩ : SPoint)] : List SPoint))) 0 (List.length (xs6 ++ ([(⟨e113.Y_Num, e113.Y_Den, e113.X_Num, e113.X_Den⟩ : SPoint)] : List SPoint)))) p_assign ?_
     refine oEnd ?_
     refine oBlk ?_
     refine oRegion rfl ?_
     refine oP (.d (.int .i64 (IntKind.wrap .i64 (x4 + 1)))) (p_int (k := .i64) (p := x4) (q := 1)) ?_
     refine oP (.d (.int .i64 (IntKind.wrap .i64 (x4 + 1)))) p_move ?_
     refine oEnd ?_
     refine oAgain ?_
     refine oHead [3, 6, 7, 8] [0] (T' := [(3, .ref 0 (List.length (xs6 ++ ([(⟨e113.Y_Num, e113.Y_Den, e113.X_Num, e113.X_Den⟩ : SPoint)] : List SPoint))) 0 (List.length (xs6 ++ ([(⟨e113.Y_Num, e113.Y_Den, e113.X_Num, e113.X_Den⟩ : SPoint)] : List SPoint)))), (6, .d (.lit (List.map e_SPoint l))), (7, .d (.int .i64 ((List.length l) : Int))), (8, .d (.int .i64 (IntKind.wrap .i64 (x4 + 1))))]) (H' := [.sl 4 (List.map e_SPoint (xs6 ++ ([(⟨e113.Y_Num, e113.Y_Den, e113.X_Num, e113.X_Den⟩ : SPoint)] : List SPoint))) false]) (hnd := by decide) (h := ?_)
     exact hag1 ((IntKind.wrap .i64 (x4 + 1)), (xs6 ++ ([(⟨e113.Y_Num, e113.Y_Den, e113.X_Num, e113.X_Den⟩ : SPoint)] : List SPoint)))
    ·refine oCondF (h := ?_)
     refine oExit rfl ?_
     refine oHead [3] [0] (T' := [(3, .ref 0 (List.length xs6) 0 (List.length xs6))]) (H' := [.sl 4 (List.map e_SPoint xs6) false]) (hnd := by decide) (h := ?_)
     exact hj2 xs6

/-- awardingbody/conversion.Inverse -/
def conversion_Inverse (k : Nat) (c0 : (List SPoint)) : Option ((List SPoint) × Int) := Option.bind (conversion_Valid k c0) (fun r15 => bif (!r15) then some ([], 1) else Option.bind (conversion_turned k c0) (fun r16 => Option.bind (conversion_formed k r16) (uc fun r17 => fun r112 => some (r17, r112))))
def conversion_Inverse_E (c0 : (List SPoint)) : (List SPoint) × Int → V × List Blk := uc fun r13 => fun r14 => (.tuple [.agg [.d (.lit (List.map e_SPoint r13))], .d (.int .i64 r14)], [])
theorem conversion_Inverse_goes (k : Nat) (c0 : (List SPoint)) : RunsO Try.prog 19 [.agg [.d (.lit (List.map e_SPoint c0))]] [] (conversion_Inverse_E c0) (conversion_Inverse k c0) := by
  refine RunsO.of_goes (N := 14) (m := 0) (T := [(0, .agg [.d (.lit (List.map e_SPoint c0))])]) Try.func19 rfl rfl (h := ?_)
  unfold conversion_Inverse
  refine bStart ?_
  refine oSR rfl ?_
  refine oD (.ptr 0 0) (k_box (H' := [.box [.d (.lit (List.map e_SPoint c0))]]) (cells := [.d (.lit (List.map e_SPoint c0))])) ?_
  refine oD (.ptr 1 0) (k_alloc (H' := [.box [.d (.lit (List.map e_SPoint c0))], .box [.nilc]]) ty29) ?_
  refine oP (.d (.int .i64 0)) p_assign ?_
  refine oEnd ?_
  refine oSeq ?_
  refine oSR rfl ?_
  refine oQ (.agg [.d (.lit (List.map e_SPoint c0))]) (k_loadAgg 0 0 (hu := Try.underlying29) (hi := ty29)) ?_
  refine bCall (caps := []) (v := (fun (r15 : Bool) => (.d (.bool r15) : V))) (H' := (fun (r15 : Bool) => ([.box [.d (.lit (List.map e_SPoint c0))], .box [.nilc]] : List Blk))) [] _ (conversion_Valid_goes k c0) (ho := rfl) (hfn := Try.func12) (hb := rfl) (hconv := ConvRs.refl _ _) (hnd := by decide) (hBl := fun _ => (by kernel_rfl)) (hv := fun _ => (by kernel_rfl)) (hH' := fun _ => (by kernel_rfl)) (h := fun r15 => ?_)
  refine oP (.d (.bool (!r15))) (p_not (p := r15)) ?_
  refine oEnd ?_
  refine bSplit 6 (h1 := fun hc => ?_) (h2 := fun hc => ?_)
  ·refine oCondT (h := ?_)
   refine oSR rfl ?_
   refine oP (.agg [.nilc]) (p_build bld29) ?_
   refine oD (.undef) (k_store (vs := [.nilc]) (H' := [.box [.d (.lit (List.map e_SPoint c0))], .box [.nilc]]) 1 0 (hi := ty29)) ?_
   refine oP (.d (.int .i64 1)) p_assign ?_
   refine oEnd ?_
   refine oConvB 1 (cells := [.nilc]) (cells' := [.d (.lit (List.map e_SPoint []))]) (hc := .cons _ _ _ _ .nil .nil) (h := ?_)
   refine oView (H' := [.box [.d (.lit (List.map e_SPoint c0))], .box [.d (.lit (List.map e_SPoint []))]]) rfl (h := ?_)
   exact oRet (r0 := ([], 1)) (rv := .tuple [.agg [.d (.lit (List.map e_SPoint []))], .d (.int .i64 1)]) (B := []) (vs := [.agg [.d (.lit (List.map e_SPoint []))], .d (.int .i64 1)]) (σ := []) (hf := Try.func19) (hrs := rfl) (hres := .cons _ _ _ _ (.agg 2 29 1 0 [.d (.lit (List.map e_SPoint []))] [.d (.lit (List.map e_SPoint []))] _ _ _ _ (by kernel_rfl) (by kernel_rfl) Try.underlying29 (by kernel_rfl) ty29 (by kernel_rfl) (by kernel_rfl)) (.cons _ _ _ _ (.tmp 3 _ (by kernel_rfl)) .nil)) (hnd := by decide)
  ·refine oCondF (h := ?_)
   refine oSkip ?_
   refine oSR rfl ?_
   refine oP (.ptr 0 0) (k_fieldAddr 0 0 (hu := Try.underlying29) (hf := rfl) (hi := ty27)) ?_
   refine oQ (.d (.lit (List.map e_SPoint c0))) (k_load 0 0 (hu := Try.underlying27)) ?_
   refine bCall (caps := []) (v := (fun (r16 : (List SPoint)) => (.d (.lit (List.map e_SPoint r16)) : V))) (H' := (fun (r16 : (List SPoint)) => ([.box [.d (.lit (List.map e_SPoint c0))], .box [.nilc]] : List Blk))) [] _ (conversion_turned_goes k c0) (ho := rfl) (hfn := Try.func27) (hb := rfl) (hconv := ConvRs.refl _ _) (hnd := by decide) (hBl := fun _ => (by kernel_rfl)) (hv := fun _ => (by kernel_rfl)) (hH' := fun _ => (by kernel_rfl)) (h := fun r16 => ?_)
   refine bCall (caps := []) (v := (uc fun (r17 : (List SPoint)) => (fun (r112 : Int) => (.tuple [.agg [.d (.lit (List.map e_SPoint r17))], .d (.int .i64 r112)] : V)))) (H' := (uc fun (r17 : (List SPoint)) => (fun (r112 : Int) => ([.box [.d (.lit (List.map e_SPoint c0))], .box [.nilc]] : List Blk)))) [] _ (conversion_formed_goes k r16) (ho := rfl) (hfn := Try.func21) (hb := rfl) (hconv := ConvRs.refl _ _) (hnd := by decide) (hBl := fun _ => (by kernel_rfl)) (hv := fun _ => (by kernel_rfl)) (hH' := fun _ => (by kernel_rfl)) (h := fun r => ?_)
   obtain ⟨r17, r112⟩ := r
   refine bUc ?_
   refine oP (.agg [.d (.lit (List.map e_SPoint r17))]) k_extract ?_
   refine oP (.d (.int .i64 r112)) k_extract ?_
   refine oD (.undef) (k_store (vs := [.d (.lit (List.map e_SPoint r17))]) (H' := [.box [.d (.lit (List.map e_SPoint c0))], .box [.d (.lit (List.map e_SPoint r17))]]) 1 0 (hi := ty29)) ?_
   refine oP (.d (.int .i64 r112)) p_assign ?_
   refine oEnd ?_
   exact oRet (r0 := (r17, r112)) (rv := .tuple [.agg [.d (.lit (List.map e_SPoint r17))], .d (.int .i64 r112)]) (B := []) (vs := [.agg [.d (.lit (List.map e_SPoint r17))], .d (.int .i64 r112)]) (σ := []) (hf := Try.func19) (hrs := rfl) (hres := .cons _ _ _ _ (.agg 2 29 1 0 [.d (.lit (List.map e_SPoint r17))] [.d (.lit (List.map e_SPoint r17))] _ _ _ _ (by kernel_rfl) (by kernel_rfl) Try.underlying29 (by kernel_rfl) ty29 (by kernel_rfl) (by kernel_rfl)) (.cons _ _ _ _ (.tmp 3 _ (by kernel_rfl)) .nil)) (hnd := by decide)

/-- (*awardingbody/awardingbodymark.Dice).Ratio -/
def mark_Dice_Ratio_b1 (k : Nat) (again : Int × Int × Int → Option (Int × Int)) : Int × Int × Int → Option (Int × Int) := uc fun n14 => uc fun m16 => fun k14 => bif (decide (k14 > 1)) then Option.bind (gnz k14 (Option.bind (bif ((Int.tmod n14 k14) == 0) then gnz k14 (some ((Int.tmod m16 k14) == 0)) else some false : Option (Bool)) (fun x11 => bif x11 then gnz k14 (gnz k14 (some ((IntKind.wrap .i64 (Int.tdiv n14 k14)), (IntKind.wrap .i64 (Int.tdiv m16 k14))))) else some (n14, m16))) : Option (Int × Int)) (uc fun n17 => fun m19 => again (n17, m19, (IntKind.wrap .i64 (k14 - 1)))) else some (n14, m16)
def mark_Dice_Ratio (k : Nat) (x : (List Int)) (x1 : Int) : Option (Int × Int × Int) := Option.bind (mark_Dice_Next k 21 x x1) (uc fun r14 => fun x62 => Option.bind (mark_Dice_Next k 5 x x62) (uc fun r15 => fun x63 => Option.bind (gloop (mark_Dice_Ratio_b1 k) k ((IntKind.wrap .i64 (r14 - 10)), (IntKind.wrap .i64 (1 + r15)), 5) : Option (Int × Int)) (uc fun n11 => fun m12 => Option.bind (bif (n11 == 0) then some 1 else some m12 : Option (Int)) (fun m13 => some (n11, m13, x63)))))
def mark_Dice_Ratio_E (x : (List Int)) (x1 : Int) : Int × Int × Int → V × List Blk := uc fun r12 => uc fun r13 => fun x4 => (.agg [.d (.int .i64 r12), .d (.int .i64 r13)], [.box [.d (.lit (List.map e_i64 x)), .d (.int .i64 x4)]])
theorem mark_Dice_Ratio_goes (k : Nat) (x : (List Int)) (x1 : Int) : RunsO Try.prog 14 [.ptr 0 0] [.box [.d (.lit (List.map e_i64 x)), .d (.int .i64 x1)]] (mark_Dice_Ratio_E x x1) (mark_Dice_Ratio k x x1) := by
  refine RunsO.of_goes (N := 37) (m := 1) (T := [(0, .ptr 0 0)]) Try.func14 rfl rfl (h := ?_)
  unfold mark_Dice_Ratio
  refine bStart ?_
  refine oSR rfl ?_
  refine oD (.ptr 1 0) (k_alloc (H' := [.box [.d (.lit (List.map e_i64 x)), .d (.int .i64 x1)], .box [.d (.int .i64 0), .d (.int .i64 0)]]) ty37) ?_
  refine oEnd ?_
  refine oSR rfl ?_
  refine oP (.ptr 0 0) p_move ?_
  refine bCall (caps := []) (v := (uc fun (r14 : Int) => (fun (x62 : Int) => (.d (.int .i64 r14) : V)))) (H' := (uc fun (r14 : Int) => (fun (x62 : Int) => ([.box [.d (.lit (List.map e_i64 x)), .d (.int .i64 x62)], .box [.d (.int .i64 0), .d (.int .i64 0)]] : List Blk)))) [0] _ (mark_Dice_Next_goes k 21 x x1) (ho := rfl) (hfn := Try.func20) (hb := rfl) (hconv := ConvRs.refl _ _) (hnd := by decide) (hBl := fun _ => (by kernel_rfl)) (hv := fun _ => (by kernel_rfl)) (hH' := fun _ => (by kernel_rfl)) (h := fun r => ?_)
  obtain ⟨r14, x62⟩ := r
  refine bUc ?_
  refine oP (.d (.int .i64 (IntKind.wrap .i64 (r14 - 10)))) (p_int (k := .i64) (p := r14) (q := 10)) ?_
  refine oP (.ptr 0 0) p_move ?_
  refine bCall (caps := []) (v := (uc fun (r15 : Int) => (fun (x63 : Int) => (.d (.int .i64 r15) : V)))) (H' := (uc fun (r15 : Int) => (fun (x63 : Int) => ([.box [.d (.lit (List.map e_i64 x)), .d (.int .i64 x63)], .box [.d (.int .i64 0), .d (.int .i64 0)]] : List Blk)))) [0] _ (mark_Dice_Next_goes k 5 x x62) (ho := rfl) (hfn := Try.func20) (hb := rfl) (hconv := ConvRs.refl _ _) (hnd := by decide) (hBl := fun _ => (by kernel_rfl)) (hv := fun _ => (by kernel_rfl)) (hH' := fun _ => (by kernel_rfl)) (h := fun r => ?_)
  obtain ⟨r15, x63⟩ := r
  refine bUc ?_
  refine oP (.d (.int .i64 (IntKind.wrap .i64 (1 + r15)))) (p_int (k := .i64) (p := 1) (q := r15)) ?_
  refine oP (.d (.int .i64 (IntKind.wrap .i64 (r14 - 10)))) p_assign ?_
  refine oP (.d (.int .i64 (IntKind.wrap .i64 (1 + r15)))) p_assign ?_
  refine oEnd ?_
  refine oSeq ?_
  refine oSR rfl ?_
  refine oP (.d (.int .i64 5)) p_assign ?_
  refine oEnd ?_
  refine bJoin ((uc fun (n11 : Int) => (fun (m12 : Int) => [(2, .ptr 1 0), (3, .d (.int .i64 n11)), (4, .d (.int .i64 m12))]))) ((uc fun (n11 : Int) => (fun (m12 : Int) => [.box [.d (.lit (List.map e_i64 x)), .d (.int .i64 x63)], .box [.d (.int .i64 0), .d (.int .i64 0)]]))) (fun s => s) (fun s => ?_) (fun hj7 => ?_)
  ·obtain ⟨n11, m12⟩ := s
   refine bUc ?_
   refine oView (T' := [(2, .ptr 1 0), (3, .d (.int .i64 n11)), (4, .d (.int .i64 m12))]) (H' := [.box [.d (.lit (List.map e_i64 x)), .d (.int .i64 x63)], .box [.d (.int .i64 0), .d (.int .i64 0)]]) (h := ?_)
   refine oSeq ?_
   refine oSR rfl ?_
   refine oP (.d (.int .i64 n11)) p_move ?_
   refine oP (.d (.bool (n11 == 0))) (p_int (k := .i64) (p := n11) (q := 0)) ?_
   refine oEnd ?_
   refine bJoin ((fun (m13 : Int) => [(2, .ptr 1 0), (3, .d (.int .i64 n11)), (4, .d (.int .i64 m13))])) ((fun (m13 : Int) => [.box [.d (.lit (List.map e_i64 x)), .d (.int .i64 x63)], .box [.d (.int .i64 0), .d (.int .i64 0)]])) (fun s => s) (fun m13 => ?_) (fun hj8 => ?_)
   ·refine oView (T' := [(2, .ptr 1 0), (3, .d (.int .i64 n11)), (4, .d (.int .i64 m13))]) (H' := [.box [.d (.lit (List.map e_i64 x)), .d (.int .i64 x63)], .box [.d (.int .i64 0), .d (.int .i64 0)]]) (h := ?_)
    refine oSR rfl ?_
    refine oP (.d (.int .i64 n11)) p_move ?_
    refine oP (.d (.int .i64 m13)) p_move ?_
    refine oP (.agg [.d (.int .i64 n11), .d (.int .i64 m13)]) (p_build bld37) ?_
    refine oD (.undef) (k_store (vs := [.d (.int .i64 n11), .d (.int .i64 m13)]) (H' := [.box [.d (.lit (List.map e_i64 x)), .d (.int .i64 x63)], .box [.d (.int .i64 n11), .d (.int .i64 m13)]]) 1 0 (hi := ty37)) ?_
    refine oEnd ?_
    exact oRet (r0 := (n11, m13, x63)) (rv := .agg [.d (.int .i64 n11), .d (.int .i64 m13)]) (B := [.box [.d (.lit (List.map e_i64 x)), .d (.int .i64 x63)]]) (vs := [.agg [.d (.int .i64 n11), .d (.int .i64 m13)]]) (σ := [0]) (hf := Try.func14) (hrs := rfl) (hres := .cons _ _ _ _ (.agg 2 37 1 0 [.d (.int .i64 n11), .d (.int .i64 m13)] [.d (.int .i64 n11), .d (.int .i64 m13)] _ _ _ _ (by kernel_rfl) (by kernel_rfl) Try.underlying37 (by kernel_rfl) ty37 (by kernel_rfl) (by kernel_rfl)) .nil) (hnd := by decide)
   ·refine bSplit 33 (h1 := fun hc => ?_) (h2 := fun hc => ?_)
    ·refine oCondT (h := ?_)
     refine oRegion rfl ?_
     refine oP (.d (.int .i64 1)) p_assign ?_
     refine oEnd ?_
     refine oHead [2, 3, 4] [0, 1] (T' := [(2, .ptr 1 0), (3, .d (.int .i64 n11)), (4, .d (.int .i64 1))]) (H' := [.box [.d (.lit (List.map e_i64 x)), .d (.int .i64 x63)], .box [.d (.int .i64 0), .d (.int .i64 0)]]) (hnd := by decide) (h := ?_)
     exact hj8 1
    ·refine oCondF (h := ?_)
     refine oSkip ?_
     refine oHead [2, 3, 4] [0, 1] (T' := [(2, .ptr 1 0), (3, .d (.int .i64 n11)), (4, .d (.int .i64 m12))]) (H' := [.box [.d (.lit (List.map e_i64 x)), .d (.int .i64 x63)], .box [.d (.int .i64 0), .d (.int .i64 0)]]) (hnd := by decide) (h := ?_)
     exact hj8 m12
  ·refine oBlock ?_
   refine oLoop ?_
   refine oHead [2, 3, 4, 5] [0, 1] (T' := [(2, .ptr 1 0), (3, .d (.int .i64 (IntKind.wrap .i64 (r14 - 10)))), (4, .d (.int .i64 (IntKind.wrap .i64 (1 + r15)))), (5, .d (.int .i64 5))]) (H' := [.box [.d (.lit (List.map e_i64 x)), .d (.int .i64 x63)], .box [.d (.int .i64 0), .d (.int .i64 0)]]) (hnd := by decide) (h := ?_)
   refine bLoop (body := mark_Dice_Ratio_b1 k) ((uc fun (n14 : Int) => (uc fun (m16 : Int) => (fun (k14 : Int) => [(2, .ptr 1 0), (3, .d (.int .i64 n14)), (4, .d (.int .i64 m16)), (5, .d (.int .i64 k14))])))) ((uc fun (n14 : Int) => (uc fun (m16 : Int) => (fun (k14 : Int) => [.box [.d (.lit (List.map e_i64 x)), .d (.int .i64 x63)], .box [.d (.int .i64 0), .d (.int .i64 0)]])))) (fun again hag1 s => ?_) k ((IntKind.wrap .i64 (r14 - 10)), (IntKind.wrap .i64 (1 + r15)), 5)
   ·unfold mark_Dice_Ratio_b1
    obtain ⟨n14, m16, k14⟩ := s
    refine bUc ?_
    refine bUc ?_
    refine oView (T' := [(2, .ptr 1 0), (3, .d (.int .i64 n14)), (4, .d (.int .i64 m16)), (5, .d (.int .i64 k14))]) (H' := [.box [.d (.lit (List.map e_i64 x)), .d (.int .i64 x63)], .box [.d (.int .i64 0), .d (.int .i64 0)]]) (h := ?_)
    refine oSeq ?_
    refine oSR rfl ?_
    refine oP (.d (.int .i64 k14)) p_move ?_
    refine oP (.d (.bool (decide (k14 > 1)))) (p_int (k := .i64) (p := k14) (q := 1)) ?_
    refine oEnd ?_
    refine bSplit 13 (h1 := fun hc => ?_) (h2 := fun hc => ?_)
    ·refine oCondT (h := ?_)
     refine oSkip ?_
     refine oSeq ?_
     refine bJoin ((uc fun (n17 : Int) => (fun (m19 : Int) => [(2, .ptr 1 0), (3, .d (.int .i64 n17)), (4, .d (.int .i64 m19)), (5, .d (.int .i64 k14))]))) ((uc fun (n17 : Int) => (fun (m19 : Int) => [.box [.d (.lit (List.map e_i64 x)), .d (.int .i64 x63)], .box [.d (.int .i64 0), .d (.int .i64 0)]]))) (fun s => s) (fun s => ?_) (fun hj11 => ?_)
     ·obtain ⟨n17, m19⟩ := s
      refine bUc ?_
      refine oView (T' := [(2, .ptr 1 0), (3, .d (.int .i64 n17)), (4, .d (.int .i64 m19)), (5, .d (.int .i64 k14))]) (H' := [.box [.d (.lit (List.map e_i64 x)), .d (.int .i64 x63)], .box [.d (.int .i64 0), .d (.int .i64 0)]]) (h := ?_)
      refine oRegion rfl ?_
      refine oP (.d (.int .i64 k14)) p_move ?_
      refine oP (.d (.int .i64 (IntKind.wrap .i64 (k14 - 1)))) (p_int (k := .i64) (p := k14) (q := 1)) ?_
      refine oP (.d (.int .i64 (IntKind.wrap .i64 (k14 - 1)))) p_assign ?_
      refine oEnd ?_
      refine oAgain ?_
      refine oHead [2, 3, 4, 5] [0, 1] (T' := [(2, .ptr 1 0), (3, .d (.int .i64 n17)), (4, .d (.int .i64 m19)), (5, .d (.int .i64 (IntKind.wrap .i64 (k14 - 1))))]) (H' := [.box [.d (.lit (List.map e_i64 x)), .d (.int .i64 x63)], .box [.d (.int .i64 0), .d (.int .i64 0)]]) (hnd := by decide) (h := ?_)
      exact hag1 (n17, m19, (IntKind.wrap .i64 (k14 - 1)))
     ·refine oBlock ?_
      refine oSR rfl ?_
      refine oP (.d (.int .i64 n14)) p_move ?_
      refine oP (.d (.int .i64 k14)) p_move ?_
      refine bNz (fun h140 => ?_)
      refine oP (.d (.int .i64 (Int.tmod n14 k14))) (p_rem (k := .i64) (p := n14) (q := k14) (hq := h140)) ?_
      refine oP (.d (.bool ((Int.tmod n14 k14) == 0))) (p_int (k := .i64) (p := (Int.tmod n14 k14)) (q := 0)) ?_
      refine oP (.d (.bool ((Int.tmod n14 k14) == 0))) p_move ?_
      refine bMeet 5 rfl ((fun (x11 : Bool) => [(2, .ptr 1 0), (3, .d (.int .i64 n14)), (4, .d (.int .i64 m16)), (5, .d (.int .i64 k14)), (25, .d (.bool x11))])) ((fun (x11 : Bool) => [.box [.d (.lit (List.map e_i64 x)), .d (.int .i64 x63)], .box [.d (.int .i64 0), .d (.int .i64 0)]])) (fun s => s) (fun x11 => ?_) (fun hj12 => ?_)
      ·refine oView (T' := [(2, .ptr 1 0), (3, .d (.int .i64 n14)), (4, .d (.int .i64 m16)), (5, .d (.int .i64 k14)), (25, .d (.bool x11))]) (H' := [.box [.d (.lit (List.map e_i64 x)), .d (.int .i64 x63)], .box [.d (.int .i64 0), .d (.int .i64 0)]]) (h := ?_)
       refine oEnd ?_
       refine bSplit 25 (h1 := fun hc => ?_) (h2 := fun hc => ?_)
       ·refine oCondT (h := ?_)
        refine oDraw [(0, 8), (1, 8)] rfl ?_
        refine aP 0 (.d (.int .i64 n14)) rfl p_move ?_
        refine aP 1 (.d (.int .i64 k14)) rfl p_move ?_
        refine dNz (fun h146 => ?_)
        refine aTakeP (i := 2) (.d (.int .i64 (IntKind.wrap .i64 (Int.tdiv n14 k14)))) rfl (hp := p_quo (k := .i64) (p := n14) (q := k14) (hq := h146)) (h := ?_)
        refine aP 3 (.d (.int .i64 m16)) rfl p_move ?_
        refine aP 4 (.d (.int .i64 k14)) rfl p_move ?_
        refine dNz (fun h148 => ?_)
        refine aTakeP (i := 5) (.d (.int .i64 (IntKind.wrap .i64 (Int.tdiv m16 k14)))) rfl (hp := p_quo (k := .i64) (p := m16) (q := k14) (hq := h148)) (h := ?_)
        refine aP 6 (.d (.int .i64 (IntKind.wrap .i64 (Int.tdiv n14 k14)))) rfl p_assign ?_
        refine aP 7 (.d (.int .i64 (IntKind.wrap .i64 (Int.tdiv m16 k14)))) rfl p_assign ?_
        refine aDone (h := ?_)
        refine oBlk ?_
        refine oHead [2, 3, 4, 5] [0, 1] (T' := [(2, .ptr 1 0), (3, .d (.int .i64 (IntKind.wrap .i64 (Int.tdiv n14 k14)))), (4, .d (.int .i64 (IntKind.wrap .i64 (Int.tdiv m16 k14)))), (5, .d (.int .i64 k14))]) (H' := [.box [.d (.lit (List.map e_i64 x)), .d (.int .i64 x63)], .box [.d (.int .i64 0), .d (.int .i64 0)]]) (hnd := by decide) (h := ?_)
        exact hj11 ((IntKind.wrap .i64 (Int.tdiv n14 k14)), (IntKind.wrap .i64 (Int.tdiv m16 k14)))
       ·refine oCondF (h := ?_)
        refine oSkip ?_
        refine oBlk ?_
        refine oHead [2, 3, 4, 5] [0, 1] (T' := [(2, .ptr 1 0), (3, .d (.int .i64 n14)), (4, .d (.int .i64 m16)), (5, .d (.int .i64 k14))]) (H' := [.box [.d (.lit (List.map e_i64 x)), .d (.int .i64 x63)], .box [.d (.int .i64 0), .d (.int .i64 0)]]) (hnd := by decide) (h := ?_)
        exact hj11 (n14, m16)
      ·refine bSplit 20 (h1 := fun hc => ?_) (h2 := fun hc => ?_)
       ·refine oP (.d (.int .i64 m16)) p_move ?_
        refine oP (.d (.int .i64 k14)) p_move ?_
        refine bNz (fun h150 => ?_)
        refine oP (.d (.int .i64 (Int.tmod m16 k14))) (p_rem (k := .i64) (p := m16) (q := k14) (hq := h150)) ?_
        refine oP (.d (.bool ((Int.tmod m16 k14) == 0))) (p_int (k := .i64) (p := (Int.tmod m16 k14)) (q := 0)) ?_
        refine oP (.d (.bool ((Int.tmod m16 k14) == 0))) (p_pick (b := true)) ?_
        refine oHead [2, 3, 4, 5, 25] [0, 1] (T' := [(2, .ptr 1 0), (3, .d (.int .i64 n14)), (4, .d (.int .i64 m16)), (5, .d (.int .i64 k14)), (25, .d (.bool ((Int.tmod m16 k14) == 0)))]) (H' := [.box [.d (.lit (List.map e_i64 x)), .d (.int .i64 x63)], .box [.d (.int .i64 0), .d (.int .i64 0)]]) (hnd := by decide) (h := ?_)
        exact hj12 ((Int.tmod m16 k14) == 0)
       ·refine oNot (h := ?_)
        refine oNot (h := ?_)
        refine oNot (h := ?_)
        refine oNot (h := ?_)
        refine oP (.d (.bool false)) (p_pick (b := false)) ?_
        refine oHead [2, 3, 4, 5, 25] [0, 1] (T' := [(2, .ptr 1 0), (3, .d (.int .i64 n14)), (4, .d (.int .i64 m16)), (5, .d (.int .i64 k14)), (25, .d (.bool false))]) (H' := [.box [.d (.lit (List.map e_i64 x)), .d (.int .i64 x63)], .box [.d (.int .i64 0), .d (.int .i64 0)]]) (hnd := by decide) (h := ?_)
        exact hj12 false
    ·refine oCondF (h := ?_)
     refine oExit rfl ?_
     refine oHead [2, 3, 4] [0, 1] (T' := [(2, .ptr 1 0), (3, .d (.int .i64 n14)), (4, .d (.int .i64 m16))]) (H' := [.box [.d (.lit (List.map e_i64 x)), .d (.int .i64 x63)], .box [.d (.int .i64 0), .d (.int .i64 0)]]) (hnd := by decide) (h := ?_)
     exact hj7 (n14, m16)

/-- math/bits.Len -/
def math_bits_Len (k : Nat) (x : Int) : Option (Int) := Option.bind (math_bits_Len64 k x) (fun r12 => some r12)
def math_bits_Len_E (x : Int) : Int → V × List Blk := fun r11 => (.d (.int .i64 r11), [])
theorem math_bits_Len_goes (k : Nat) (x : Int) : RunsO Try.prog 47 [.d (.int .u64 x)] [] (math_bits_Len_E x) (math_bits_Len k x) := by
  refine RunsO.of_goes (N := 8) (m := 0) (T := [(0, .d (.int .u64 x))]) Try.func47 rfl rfl (h := ?_)
  unfold math_bits_Len
  refine bStart ?_
  refine oSR rfl ?_
  refine oP (.d (.int .i64 0)) p_assign ?_
  refine oEnd ?_
  refine oSeq ?_
  refine oCondF (h := ?_)
  refine oSkip ?_
  refine oSR rfl ?_
  refine oP (.d (.int .u64 x)) p_move ?_
  refine bCall (caps := []) (v := (fun (r12 : Int) => (.d (.int .i64 r12) : V))) (H' := (fun (r12 : Int) => ([] : List Blk))) [] _ (math_bits_Len64_goes k x) (ho := rfl) (hfn := Try.func69) (hb := rfl) (hconv := ConvRs.refl _ _) (hnd := by decide) (hBl := fun _ => (by kernel_rfl)) (hv := fun _ => (by kernel_rfl)) (hH' := fun _ => (by kernel_rfl)) (h := fun r12 => ?_)
  refine oP (.d (.int .i64 r12)) p_assign ?_
  refine oEnd ?_
  exact oRet (r0 := r12) (rv := .d (.int .i64 r12)) (B := []) (vs := [.d (.int .i64 r12)]) (σ := []) (hf := Try.func47) (hrs := rfl) (hres := .cons _ _ _ _ (.tmp 2 _ (by kernel_rfl)) .nil) (hnd := by decide)

/-- slices.insertionSortCmpFunc[awardingbody/api.Ratio] -/
def slices_insertionSortCmpFunc_api_Ratio_b2 (k : Nat) (a : Int) (again : Int × (List SRatio) → Option ((List SRatio))) : Int × (List SRatio) → Option ((List SRatio)) := uc fun j28 => fun xs54 => Option.bind (bif (decide (j28 > a)) then gidx xs54 j28 fun e1 => gidx xs54 (IntKind.wrap .i64 (j28 - 1)) fun e11 => Option.bind (ratio_Compare k e1.Num e1.Den e11.Num e11.Den) (fun r18 => some (decide (r18 < 0))) else some false : Option Bool) (fun x61 => bif x61 then gidx xs54 (IntKind.wrap .i64 (j28 - 1)) fun e12 => gidx xs54 j28 fun e13 => blet (List.set xs54 (Int.toNat j28) e12) fun xs1 => gidx xs1 (IntKind.wrap .i64 (j28 - 1)) fun e14 => blet (List.set xs1 (Int.toNat (IntKind.wrap .i64 (j28 - 1))) e13) fun xs2 => again ((IntKind.wrap .i64 (j28 - 1)), xs2) else some xs54)
def slices_insertionSortCmpFunc_api_Ratio_b1 (k : Nat) (a : Int) (b : Int) (again : Int × (List SRatio) → Option ((List SRatio))) : Int × (List SRatio) → Option ((List SRatio)) := uc fun i7 => fun xs40 => bif (decide (i7 < b)) then Option.bind (gloop (slices_insertionSortCmpFunc_api_Ratio_b2 k a) k (i7, xs40) : Option ((List SRatio))) (fun xs53 => again ((IntKind.wrap .i64 (i7 + 1)), xs53)) else some xs40
def slices_insertionSortCmpFunc_api_Ratio (k : Nat) (a : Int) (b : Int) (xs : (List SRatio)) : Option ((List SRatio)) := Option.bind (gloop (slices_insertionSortCmpFunc_api_Ratio_b1 k a b) k ((IntKind.wrap .i64 (a + 1)), xs) : Option ((List SRatio))) (fun xs33 => some xs33)
def slices_insertionSortCmpFunc_api_Ratio_E (a : Int) (b : Int) (xs : (List SRatio)) : (List SRatio) → V × List Blk := fun xs18 => (.tuple [], [.sl 2 (List.map e_SRatio xs18) false])
theorem slices_insertionSortCmpFunc_api_Ratio_goes (k : Nat) (a : Int) (b : Int) (xs : (List SRatio)) : RunsO Try.prog 60 [.ref 0 (List.length xs) 0 (List.length xs), .d (.int .i64 a), .d (.int .i64 b), .fn 29 []] [.sl 2 (List.map e_SRatio xs) false] (slices_insertionSortCmpFunc_api_Ratio_E a b xs) (slices_insertionSortCmpFunc_api_Ratio k a b xs) := by
  refine RunsO.of_goes (N := 53) (m := 1) (T := [(0, .ref 0 (List.length xs) 0 (List.length xs)), (1, .d (.int .i64 a)), (2, .d (.int .i64 b)), (3, .fn 29 [])]) Try.func60 rfl rfl (h := ?_)
  unfold slices_insertionSortCmpFunc_api_Ratio
  refine bStart ?_
  refine oSR rfl ?_
  refine oP (.d (.int .i64 a)) p_move ?_
  refine oP (.d (.int .i64 (IntKind.wrap .i64 (a + 1)))) (p_int (k := .i64) (p := a) (q := 1)) ?_
  refine oP (.d (.int .i64 (IntKind.wrap .i64 (a + 1)))) p_assign ?_
  refine oEnd ?_
  refine bJoin ((fun (xs33 : (List SRatio)) => [])) ((fun (xs33 : (List SRatio)) => [.sl 2 (List.map e_SRatio xs33) false])) (fun s => s) (fun xs33 => ?_) (fun hj26 => ?_)
  ·refine oView (T' := []) (H' := [.sl 2 (List.map e_SRatio xs33) false]) (h := ?_)
   exact oFall (r0 := xs33) (rv := .tuple []) (B := [.sl 2 (List.map e_SRatio xs33) false]) (vs := []) (σ := [0]) (by kernel_rfl) Try.func60 rfl .nil (by kernel_rfl) (by kernel_rfl) (by kernel_rfl) (by kernel_rfl) (by decide) (by kernel_rfl) (by kernel_rfl)
  ·refine oBlock ?_
   refine oLoop ?_
   refine oHead [0, 1, 2, 3, 8] [0] (T' := [(0, .ref 0 (List.length xs) 0 (List.length xs)), (1, .d (.int .i64 a)), (2, .d (.int .i64 b)), (3, .fn 29 []), (8, .d (.int .i64 (IntKind.wrap .i64 (a + 1))))]) (H' := [.sl 2 (List.map e_SRatio xs) false]) (hnd := by decide) (h := ?_)
   refine bLoop (body := slices_insertionSortCmpFunc_api_Ratio_b1 k a b) ((uc fun (i7 : Int) => (fun (xs40 : (List SRatio)) => [(0, .ref 0 (List.length xs40) 0 (List.length xs40)), (1, .d (.int .i64 a)), (2, .d (.int .i64 b)), (3, .fn 29 []), (8, .d (.int .i64 i7))]))) ((uc fun (i7 : Int) => (fun (xs40 : (List SRatio)) => [.sl 2 (List.map e_SRatio xs40) false]))) (fun again hag1 s => ?_) k ((IntKind.wrap .i64 (a + 1)), xs)
   ·unfold slices_insertionSortCmpFunc_api_Ratio_b1
    obtain ⟨i7, xs40⟩ := s
    refine bUc ?_
    refine oView (T' := [(0, .ref 0 (List.length xs40) 0 (List.length xs40)), (1, .d (.int .i64 a)), (2, .d (.int .i64 b)), (3, .fn 29 []), (8, .d (.int .i64 i7))]) (H' := [.sl 2 (List.map e_SRatio xs40) false]) (h := ?_)
    refine oSeq ?_
    refine oSR rfl ?_
    refine oP (.d (.int .i64 i7)) p_move ?_
    refine oP (.d (.int .i64 b)) p_move ?_
    refine oP (.d (.bool (decide (i7 < b)))) (p_int (k := .i64) (p := i7) (q := b)) ?_
    refine oEnd ?_
    refine bSplit 14 (h1 := fun hc => ?_) (h2 := fun hc => ?_)
    ·refine oCondT (h := ?_)
     refine oSkip ?_
     refine oSeq ?_
     refine oBlock ?_
     refine oSR rfl ?_
     refine oP (.d (.int .i64 i7)) p_move ?_
     refine oP (.d (.int .i64 i7)) p_assign ?_
     refine oEnd ?_
     refine bJoin ((fun (xs53 : (List SRatio)) => [(0, .ref 0 (List.length xs53) 0 (List.length xs53)), (1, .d (.int .i64 a)), (2, .d (.int .i64 b)), (3, .fn 29 []), (8, .d (.int .i64 i7))])) ((fun (xs53 : (List SRatio)) => [.sl 2 (List.map e_SRatio xs53) false])) (fun s => s) (fun xs53 => ?_) (fun hj44 => ?_)
     ·refine oView (T' := [(0, .ref 0 (List.length xs53) 0 (List.length xs53)), (1, .d (.int .i64 a)), (2, .d (.int .i64 b)), (3, .fn 29 []), (8, .d (.int .i64 i7))]) (H' := [.sl 2 (List.map e_SRatio xs53) false]) (h := ?_)
      refine oBlk ?_
      refine oRegion rfl ?_
      refine oP (.d (.int .i64 i7)) p_move ?_
      refine oP (.d (.int .i64 (IntKind.wrap .i64 (i7 + 1)))) (p_int (k := .i64) (p := i7) (q := 1)) ?_
      refine oP (.d (.int .i64 (IntKind.wrap .i64 (i7 + 1)))) p_assign ?_
      refine oEnd ?_
      refine oAgain ?_
      refine oHead [0, 1, 2, 3, 8] [0] (T' := [(0, .ref 0 (List.length xs53) 0 (List.length xs53)), (1, .d (.int .i64 a)), (2, .d (.int .i64 b)), (3, .fn 29 []), (8, .d (.int .i64 (IntKind.wrap .i64 (i7 + 1))))]) (H' := [.sl 2 (List.map e_SRatio xs53) false]) (hnd := by decide) (h := ?_)
      exact hag1 ((IntKind.wrap .i64 (i7 + 1)), xs53)
     ·refine oBlock ?_
      refine oLoop ?_
      refine oHead [0, 1, 2, 3, 8, 9] [0] (T' := [(0, .ref 0 (List.length xs40) 0 (List.length xs40)), (1, .d (.int .i64 a)), (2, .d (.int .i64 b)), (3, .fn 29 []), (8, .d (.int .i64 i7)), (9, .d (.int .i64 i7))]) (H' := [.sl 2 (List.map e_SRatio xs40) false]) (hnd := by decide) (h := ?_)
      refine bLoop (body := slices_insertionSortCmpFunc_api_Ratio_b2 k a) ((uc fun (j28 : Int) => (fun (xs54 : (List SRatio)) => [(0, .ref 0 (List.length xs54) 0 (List.length xs54)), (1, .d (.int .i64 a)), (2, .d (.int .i64 b)), (3, .fn 29 []), (8, .d (.int .i64 i7)), (9, .d (.int .i64 j28))]))) ((uc fun (j28 : Int) => (fun (xs54 : (List SRatio)) => [.sl 2 (List.map e_SRatio xs54) false]))) (fun again hag2 s => ?_) k (i7, xs40)
      ·unfold slices_insertionSortCmpFunc_api_Ratio_b2
       obtain ⟨j28, xs54⟩ := s
       refine bUc ?_
       refine oView (T' := [(0, .ref 0 (List.length xs54) 0 (List.length xs54)), (1, .d (.int .i64 a)), (2, .d (.int .i64 b)), (3, .fn 29 []), (8, .d (.int .i64 i7)), (9, .d (.int .i64 j28))]) (H' := [.sl 2 (List.map e_SRatio xs54) false]) (h := ?_)
       refine oSeq ?_
       refine oSeq ?_
       refine oDraw [(0, 17)] rfl ?_
       refine aP 0 (.d (.int .i64 j28)) rfl p_move ?_
       refine aP 1 (.d (.int .i64 a)) rfl p_move ?_
       refine aP 2 (.d (.bool (decide (j28 > a)))) rfl (p_int (k := .i64) (p := j28) (q := a)) ?_
       refine aP 3 (.d (.bool (decide (j28 > a)))) rfl p_move ?_
       refine dMeet [16, 15, 14, 13, 12, 11, 10, 9, 8, 7, 6, 5, 4, 3, 2, 1, 0] (fun (x61 : Bool) => [(0, .ref 0 (List.length xs54) 0 (List.length xs54)), (1, .d (.int .i64 a)), (2, .d (.int .i64 b)), (3, .fn 29 []), (8, .d (.int .i64 i7)), (9, .d (.int .i64 j28)), (34, .d (.bool x61))]) (fun (x61 : Bool) => [(0, .ref 0 (List.length xs54) 0 (List.length xs54)), (1, .d (.int .i64 a)), (2, .d (.int .i64 b)), (3, .fn 29 []), (8, .d (.int .i64 i7)), (9, .d (.int .i64 j28)), (34, .d (.bool x61))]) (fun _ => [.sl 2 (List.map e_SRatio xs54) false]) (fun s => s) (fun x61 => ?_) (fun hj47 => ?_)
       ·refine aDone (h := ?_)
        refine bSplit 34 (h1 := fun hc => ?_) (h2 := fun hc => ?_)
        ·refine oCondT (h := ?_)
         refine oSkip ?_
         refine oSeq ?_
         refine oBlock ?_
         refine oDraw [(0, 15)] rfl ?_
         refine aP 0 (.ref 0 (List.length xs54) 0 (List.length xs54)) rfl p_move ?_
         refine aP 1 (.d (.int .i64 j28)) rfl p_move ?_
         refine aP 2 (.ref 0 (List.length xs54) 0 (List.length xs54)) rfl p_move ?_
         refine aP 3 (.d (.int .i64 j28)) rfl p_move ?_
         refine aP 4 (.d (.int .i64 (IntKind.wrap .i64 (j28 - 1)))) rfl (p_int (k := .i64) (p := j28) (q := 1)) ?_
         refine aP 5 (.ref 0 (List.length xs54) 0 (List.length xs54)) rfl p_move ?_
         refine aP 6 (.d (.int .i64 j28)) rfl p_move ?_
         refine aP 7 (.d (.int .i64 (IntKind.wrap .i64 (j28 - 1)))) rfl (p_int (k := .i64) (p := j28) (q := 1)) ?_
         refine dIdx (fun e12 h14 h15 => ?_)
         refine aP 8 (.eptr 0 (List.length xs54) (Int.toNat (IntKind.wrap .i64 (j28 - 1))) 0) rfl (k_idxRef (enc := e_SRatio) (fro := false) xs54 (a := e12) (k := .i64) (i := (IntKind.wrap .i64 (j28 - 1))) (hu := Try.underlying59) (hi := ty37) (h0 := h14) (he := h15)) ?_
         refine aQ 9 [0] (.agg [.d (.int .i64 e12.Num), .d (.int .i64 e12.Den)]) rfl (k_loadEAgg (enc := e_SRatio) (sz0 := 2) (fro := false) 0 0 xs54 [(.int .i64 e12.Num), (.int .i64 e12.Den)] (hu := Try.underlying37) (hi := ty37) (he := h15)) ?_
         refine aP 10 (.ref 0 (List.length xs54) 0 (List.length xs54)) rfl p_move ?_
         refine aP 11 (.d (.int .i64 j28)) rfl p_move ?_
         refine dIdx (fun e13 h16 h17 => ?_)
         refine aP 12 (.eptr 0 (List.length xs54) (Int.toNat j28) 0) rfl (k_idxRef (enc := e_SRatio) (fro := false) xs54 (a := e13) (k := .i64) (i := j28) (hu := Try.underlying59) (hi := ty37) (h0 := h16) (he := h17)) ?_
         refine aQ 13 [0] (.agg [.d (.int .i64 e13.Num), .d (.int .i64 e13.Den)]) rfl (k_loadEAgg (enc := e_SRatio) (sz0 := 2) (fro := false) 0 0 xs54 [(.int .i64 e13.Num), (.int .i64 e13.Den)] (hu := Try.underlying37) (hi := ty37) (he := h17)) ?_
         refine aP 14 (.eptr 0 (List.length xs54) (Int.toNat j28) 0) rfl (k_idxRef (enc := e_SRatio) (fro := false) xs54 (a := e13) (k := .i64) (i := j28) (hu := Try.underlying59) (hi := ty37) (h0 := h16) (he := h17)) ?_
         refine dSet _ (fun xs1 hs => ?_)
         refine aOne (i := 15) (v := .undef) rfl (hac := Does.acts (k_storeE (H' := [.sl 2 (List.map e_SRatio xs1) false]) 0 0 xs54 e12 [(.int .i64 e12.Num), (.int .i64 e12.Den)] e_SRatio_len (he := h17) (hi := ty37) (hxs := hs))) (h := ?_)
         refine dDrop [0, 1, 2, 3, 8, 9, 39, 41, 50] [0, 1, 2, 3, 8, 9, 39, 41, 50] (T' := [(0, .ref 0 (List.length xs54) 0 (List.length xs54)), (1, .d (.int .i64 a)), (2, .d (.int .i64 b)), (3, .fn 29 []), (8, .d (.int .i64 i7)), (9, .d (.int .i64 j28)), (39, .ref 0 (List.length xs54) 0 (List.length xs54)), (41, .d (.int .i64 (IntKind.wrap .i64 (j28 - 1)))), (50, .agg [.d (.int .i64 e13.Num), .d (.int .i64 e13.Den)])]) (U' := [(0, .ref 0 (List.length xs54) 0 (List.length xs54)), (1, .d (.int .i64 a)), (2, .d (.int .i64 b)), (3, .fn 29 []), (8, .d (.int .i64 i7)), (9, .d (.int .i64 j28)), (39, .ref 0 (List.length xs54) 0 (List.length xs54)), (41, .d (.int .i64 (IntKind.wrap .i64 (j28 - 1)))), (50, .agg [.d (.int .i64 e13.Num), .d (.int .i64 e13.Den)])]) (h := ?_)
         refine dView (H' := [.sl 2 (List.map e_SRatio xs1) false]) rfl rfl (h := ?_)
         refine dView (T' := [(0, .ref 0 (List.length xs1) 0 (List.length xs1)), (1, .d (.int .i64 a)), (2, .d (.int .i64 b)), (3, .fn 29 []), (8, .d (.int .i64 i7)), (9, .d (.int .i64 j28)), (39, .ref 0 (List.length xs1) 0 (List.length xs1)), (41, .d (.int .i64 (IntKind.wrap .i64 (j28 - 1)))), (50, .agg [.d (.int .i64 e13.Num), .d (.int .i64 e13.Den)])]) (H' := [.sl 2 (List.map e_SRatio xs1) false]) (by first | rw [(set_len hs)] | rfl) rfl (by first | rw [(set_len hs)] | rfl) ?_
         refine dIdx (fun e14 h18 h19 => ?_)
         refine aTakeP (i := 16) (.eptr 0 (List.length xs1) (Int.toNat (IntKind.wrap .i64 (j28 - 1))) 0) rfl (hp := k_idxRef (enc := e_SRatio) (fro := false) xs1 (a := e14) (k := .i64) (i := (IntKind.wrap .i64 (j28 - 1))) (hu := Try.underlying59) (hi := ty37) (h0 := h18) (he := h19)) (h := ?_)
         refine dSet _ (fun xs2 hs1 => ?_)
         refine aOne (i := 17) (v := .undef) rfl (hac := Does.acts (k_storeE (H' := [.sl 2 (List.map e_SRatio xs2) false]) 0 0 xs1 e13 [(.int .i64 e13.Num), (.int .i64 e13.Den)] e_SRatio_len (he := h19) (hi := ty37) (hxs := hs1))) (h := ?_)
         refine dDrop [0, 1, 2, 3, 8, 9] [0, 1, 2, 3, 8, 9] (T' := [(0, .ref 0 (List.length xs1) 0 (List.length xs1)), (1, .d (.int .i64 a)), (2, .d (.int .i64 b)), (3, .fn 29 []), (8, .d (.int .i64 i7)), (9, .d (.int .i64 j28))]) (U' := [(0, .ref 0 (List.length xs54) 0 (List.length xs54)), (1, .d (.int .i64 a)), (2, .d (.int .i64 b)), (3, .fn 29 []), (8, .d (.int .i64 i7)), (9, .d (.int .i64 j28))]) (h := ?_)
         refine dView (H' := [.sl 2 (List.map e_SRatio xs2) false]) rfl rfl (h := ?_)
         refine dView (T' := [(0, .ref 0 (List.length xs2) 0 (List.length xs2)), (1, .d (.int .i64 a)), (2, .d (.int .i64 b)), (3, .fn 29 []), (8, .d (.int .i64 i7)), (9, .d (.int .i64 j28))]) (H' := [.sl 2 (List.map e_SRatio xs2) false]) (by first | rw [(set_len hs1)] | rfl) rfl (by first | rw [(set_len hs1)] | rfl) ?_
         refine aDone (h := ?_)
         refine oBlk ?_
         refine oRegion rfl ?_
         refine oP (.d (.int .i64 j28)) p_move ?_
         refine oP (.d (.int .i64 (IntKind.wrap .i64 (j28 - 1)))) (p_int (k := .i64) (p := j28) (q := 1)) ?_
         refine oP (.d (.int .i64 (IntKind.wrap .i64 (j28 - 1)))) p_assign ?_
         refine oEnd ?_
         refine oAgain ?_
         refine oHead [0, 1, 2, 3, 8, 9] [0] (T' := [(0, .ref 0 (List.length xs2) 0 (List.length xs2)), (1, .d (.int .i64 a)), (2, .d (.int .i64 b)), (3, .fn 29 []), (8, .d (.int .i64 i7)), (9, .d (.int .i64 (IntKind.wrap .i64 (j28 - 1))))]) (H' := [.sl 2 (List.map e_SRatio xs2) false]) (hnd := by decide) (h := ?_)
         exact hag2 ((IntKind.wrap .i64 (j28 - 1)), xs2)
        ·refine oCondF (h := ?_)
         refine oExit rfl ?_
         refine oHead [0, 1, 2, 3, 8] [0] (T' := [(0, .ref 0 (List.length xs54) 0 (List.length xs54)), (1, .d (.int .i64 a)), (2, .d (.int .i64 b)), (3, .fn 29 []), (8, .d (.int .i64 i7))]) (H' := [.sl 2 (List.map e_SRatio xs54) false]) (hnd := by decide) (h := ?_)
         exact hj44 xs54
       ·refine dSplit 21 (h1 := fun hc => ?_) (h2 := fun hc => ?_)
        ·refine aP 4 (.fn 29 []) rfl p_move ?_
         refine aP 5 (.ref 0 (List.length xs54) 0 (List.length xs54)) rfl p_move ?_
         refine aP 6 (.d (.int .i64 j28)) rfl p_move ?_
         refine dIdx (fun e1 h1 h11 => ?_)
         refine aP 7 (.eptr 0 (List.length xs54) (Int.toNat j28) 0) rfl (k_idxRef (enc := e_SRatio) (fro := false) xs54 (a := e1) (k := .i64) (i := j28) (hu := Try.underlying59) (hi := ty37) (h0 := h1) (he := h11)) ?_
         refine aQ 8 [0] (.agg [.d (.int .i64 e1.Num), .d (.int .i64 e1.Den)]) rfl (k_loadEAgg (enc := e_SRatio) (sz0 := 2) (fro := false) 0 0 xs54 [(.int .i64 e1.Num), (.int .i64 e1.Den)] (hu := Try.underlying37) (hi := ty37) (he := h11)) ?_
         refine aP 9 (.ref 0 (List.length xs54) 0 (List.length xs54)) rfl p_move ?_
         refine aP 10 (.d (.int .i64 j28)) rfl p_move ?_
         refine aP 11 (.d (.int .i64 (IntKind.wrap .i64 (j28 - 1)))) rfl (p_int (k := .i64) (p := j28) (q := 1)) ?_
         refine dIdx (fun e11 h12 h13 => ?_)
         refine aP 12 (.eptr 0 (List.length xs54) (Int.toNat (IntKind.wrap .i64 (j28 - 1))) 0) rfl (k_idxRef (enc := e_SRatio) (fro := false) xs54 (a := e11) (k := .i64) (i := (IntKind.wrap .i64 (j28 - 1))) (hu := Try.underlying59) (hi := ty37) (h0 := h12) (he := h13)) ?_
         refine aQ 13 [0] (.agg [.d (.int .i64 e11.Num), .d (.int .i64 e11.Den)]) rfl (k_loadEAgg (enc := e_SRatio) (sz0 := 2) (fro := false) 0 0 xs54 [(.int .i64 e11.Num), (.int .i64 e11.Den)] (hu := Try.underlying37) (hi := ty37) (he := h13)) ?_
         refine dCall (i := 14) (caps := []) (v := (fun (r18 : Int) => (.d (.int .i64 r18) : V))) (H' := (fun (r18 : Int) => ([.sl 2 (List.map e_SRatio xs54) false] : List Blk))) [] _ (ratio_Compare_goes k e1.Num e1.Den e11.Num e11.Den) rfl (ho := rfl) (hfn := Try.func29) (hb := rfl) (hconv := ConvRs.refl _ _) (hnd := by decide) (hBl := fun _ => (by kernel_rfl)) (hv := fun _ => (by kernel_rfl)) (hH' := fun _ => (by kernel_rfl)) (h := fun r18 => ?_)
         refine aP 15 (.d (.bool (decide (r18 < 0)))) rfl (p_int (k := .i64) (p := r18) (q := 0)) ?_
         refine aP 16 (.d (.bool (decide (r18 < 0)))) rfl (p_pick (b := true)) ?_
         refine dDrop [0, 1, 2, 3, 8, 9, 34] [0, 1, 2, 3, 8, 9, 34] (T' := [(0, .ref 0 (List.length xs54) 0 (List.length xs54)), (1, .d (.int .i64 a)), (2, .d (.int .i64 b)), (3, .fn 29 []), (8, .d (.int .i64 i7)), (9, .d (.int .i64 j28)), (34, .d (.bool (decide (r18 < 0))))]) (U' := [(0, .ref 0 (List.length xs54) 0 (List.length xs54)), (1, .d (.int .i64 a)), (2, .d (.int .i64 b)), (3, .fn 29 []), (8, .d (.int .i64 i7)), (9, .d (.int .i64 j28)), (34, .d (.bool (decide (r18 < 0))))]) (h := ?_)
         exact hj47 (decide (r18 < 0))
        ·refine aTakeNot (i := 4) rfl (h := ?_)
         refine aTakeNot (i := 5) rfl (h := ?_)
         refine aTakeNot (i := 6) rfl (h := ?_)
         refine aTakeNot (i := 7) rfl (h := ?_)
         refine aTakeNot (i := 8) rfl (h := ?_)
         refine aTakeNot (i := 9) rfl (h := ?_)
         refine aTakeNot (i := 10) rfl (h := ?_)
         refine aTakeNot (i := 11) rfl (h := ?_)
         refine aTakeNot (i := 12) rfl (h := ?_)
         refine aTakeNot (i := 13) rfl (h := ?_)
         refine aTakeNot (i := 14) rfl (h := ?_)
         refine aTakeNot (i := 15) rfl (h := ?_)
         refine aP 16 (.d (.bool false)) rfl (p_pick (b := false)) ?_
         refine dDrop [0, 1, 2, 3, 8, 9, 34] [0, 1, 2, 3, 8, 9, 34] (T' := [(0, .ref 0 (List.length xs54) 0 (List.length xs54)), (1, .d (.int .i64 a)), (2, .d (.int .i64 b)), (3, .fn 29 []), (8, .d (.int .i64 i7)), (9, .d (.int .i64 j28)), (34, .d (.bool false))]) (U' := [(0, .ref 0 (List.length xs54) 0 (List.length xs54)), (1, .d (.int .i64 a)), (2, .d (.int .i64 b)), (3, .fn 29 []), (8, .d (.int .i64 i7)), (9, .d (.int .i64 j28)), (34, .d (.bool false))]) (h := ?_)
         exact hj47 false
    ·refine oCondF (h := ?_)
     refine oExit rfl ?_
     refine oHead [] [0] (T' := []) (H' := [.sl 2 (List.map e_SRatio xs40) false]) (hnd := by decide) (h := ?_)
     exact hj26 xs40

/-- slices.pdqsortCmpFunc[awardingbody/api.Ratio] -/
def slices_pdqsortCmpFunc_api_Ratio_b1 (k : Nat) (a : Int) (b : Int) (limit : Int) (xs : (List SRatio)) (again : Unit → Option ((List SRatio))) : Unit → Option ((List SRatio)) := u0 (bif (decide ((IntKind.wrap .i64 (b - a)) ≤ 12)) then Option.bind (slices_insertionSortCmpFunc_api_Ratio k a b xs) (fun xs189 => glen (List.length xs) (List.length xs189) (some xs189)) else bif (limit == 0) then none else none)
def slices_pdqsortCmpFunc_api_Ratio (k : Nat) (a : Int) (b : Int) (limit : Int) (xs : (List SRatio)) : Option ((List SRatio)) := gloop (slices_pdqsortCmpFunc_api_Ratio_b1 k a b limit xs) k ()
def slices_pdqsortCmpFunc_api_Ratio_E (a : Int) (b : Int) (limit : Int) (xs : (List SRatio)) : (List SRatio) → V × List Blk := fun xs1 => (.tuple [], [.sl 2 (List.map e_SRatio xs1) false])
theorem slices_pdqsortCmpFunc_api_Ratio_goes (k : Nat) (a : Int) (b : Int) (limit : Int) (xs : (List SRatio)) : RunsO Try.prog 46 [.ref 0 (List.length xs) 0 (List.length xs), .d (.int .i64 a), .d (.int .i64 b), .d (.int .i64 limit), .fn 29 []] [.sl 2 (List.map e_SRatio xs) false] (slices_pdqsortCmpFunc_api_Ratio_E a b limit xs) (slices_pdqsortCmpFunc_api_Ratio k a b limit xs) := by
  refine RunsO.of_goes (N := 148) (m := 1) (T := [(0, .ref 0 (List.length xs) 0 (List.length xs)), (1, .d (.int .i64 a)), (2, .d (.int .i64 b)), (3, .d (.int .i64 limit)), (4, .fn 29 [])]) Try.func46 rfl rfl (h := ?_)
  unfold slices_pdqsortCmpFunc_api_Ratio
  refine bStart ?_
  refine oSR rfl ?_
  refine oP (.d (.bool true)) p_assign ?_
  refine oEnd ?_
  refine oSR rfl ?_
  refine oP (.d (.bool true)) p_assign ?_
  refine oEnd ?_
  refine oBlock ?_
  refine oLoop ?_
  refine oHead [0, 1, 2, 3, 4, 10, 11] [0] (T' := [(0, .ref 0 (List.length xs) 0 (List.length xs)), (1, .d (.int .i64 a)), (2, .d (.int .i64 b)), (3, .d (.int .i64 limit)), (4, .fn 29 []), (10, .d (.bool true)), (11, .d (.bool true))]) (H' := [.sl 2 (List.map e_SRatio xs) false]) (hnd := by decide) (h := ?_)
  refine bLoop (body := slices_pdqsortCmpFunc_api_Ratio_b1 k a b limit xs) ((u0 ([(0, .ref 0 (List.length xs) 0 (List.length xs)), (1, .d (.int .i64 a)), (2, .d (.int .i64 b)), (3, .d (.int .i64 limit)), (4, .fn 29 []), (10, .d (.bool true)), (11, .d (.bool true))]))) ((u0 ([.sl 2 (List.map e_SRatio xs) false]))) (fun again hag1 s => ?_) k ()
  ·unfold slices_pdqsortCmpFunc_api_Ratio_b1
   cases s
   refine bU0 ?_
   refine oView (T' := [(0, .ref 0 (List.length xs) 0 (List.length xs)), (1, .d (.int .i64 a)), (2, .d (.int .i64 b)), (3, .d (.int .i64 limit)), (4, .fn 29 []), (10, .d (.bool true)), (11, .d (.bool true))]) (H' := [.sl 2 (List.map e_SRatio xs) false]) (h := ?_)
   refine oBlock ?_
   refine oSR rfl ?_
   refine oP (.d (.int .i64 b)) p_move ?_
   refine oP (.d (.int .i64 a)) p_move ?_
   refine oP (.d (.int .i64 (IntKind.wrap .i64 (b - a)))) (p_int (k := .i64) (p := b) (q := a)) ?_
   refine oP (.d (.int .i64 (IntKind.wrap .i64 (b - a)))) p_assign ?_
   refine oEnd ?_
   refine oSeq ?_
   refine oSR rfl ?_
   refine oP (.d (.int .i64 (IntKind.wrap .i64 (b - a)))) p_move ?_
   refine oP (.d (.bool (decide ((IntKind.wrap .i64 (b - a)) ≤ 12)))) (p_int (k := .i64) (p := (IntKind.wrap .i64 (b - a))) (q := 12)) ?_
   refine oEnd ?_
   refine bSplit 25 (h1 := fun hc => ?_) (h2 := fun hc => ?_)
   ·refine oCondT (h := ?_)
    refine oSR rfl ?_
    refine oP (.ref 0 (List.length xs) 0 (List.length xs)) p_move ?_
    refine oP (.d (.int .i64 a)) p_move ?_
    refine oP (.d (.int .i64 b)) p_move ?_
    refine oP (.fn 29 []) p_move ?_
    refine bCall (caps := []) (v := (fun (xs189 : (List SRatio)) => (.tuple [] : V))) (H' := (fun (xs189 : (List SRatio)) => ([.sl 2 (List.map e_SRatio xs189) false] : List Blk))) [0] _ (slices_insertionSortCmpFunc_api_Ratio_goes k a b xs) (ho := rfl) (hfn := Try.func60) (hb := rfl) (hconv := ConvRs.refl _ _) (hnd := by decide) (hBl := fun _ => (by kernel_rfl)) (hv := fun _ => (by kernel_rfl)) (hH' := fun _ => (by kernel_rfl)) (h := fun xs189 => ?_)
    refine bLen (fun hl9 => ?_)
    refine oHead [] [0] (T' := []) (H' := [.sl 2 (List.map e_SRatio xs189) false]) (hnd := by decide) (h := ?_)
    refine oView (T' := []) (H' := [.sl 2 (List.map e_SRatio xs189) false]) (by first | rw [hl9] | rfl) (by first | rw [hl9] | rfl) ?_
    refine oEnd ?_
    exact oRet (r0 := xs189) (rv := .tuple []) (B := [.sl 2 (List.map e_SRatio xs189) false]) (vs := []) (σ := [0]) (hf := Try.func46) (hrs := rfl) (hres := .nil) (hnd := by decide)
   ·refine oCondF (h := ?_)
    refine oSkip ?_
    refine oSeq ?_
    refine oSR rfl ?_
    refine oP (.d (.int .i64 limit)) p_move ?_
    refine oP (.d (.bool (limit == 0))) (p_int (k := .i64) (p := limit) (q := 0)) ?_
    refine oEnd ?_
    refine bSplit 32 (h1 := fun hc => ?_) (h2 := fun hc => ?_)
    ·refine oCondT (h := ?_)
     refine oSR rfl ?_
     refine oP (.ref 0 (List.length xs) 0 (List.length xs)) p_move ?_
     refine oP (.d (.int .i64 a)) p_move ?_
     refine oP (.d (.int .i64 b)) p_move ?_
     refine oP (.fn 29 []) p_move ?_
     exact bNone
    ·refine oCondF (h := ?_)
     refine oSkip ?_
     refine oSeq ?_
     refine oSR rfl ?_
     refine oP (.d (.bool true)) p_move ?_
     refine oP (.d (.bool false)) (p_not (p := true)) ?_
     refine oEnd ?_
     refine oCondF (h := ?_)
     refine oSkip ?_
     refine oSR rfl ?_
     refine oP (.ref 0 (List.length xs) 0 (List.length xs)) p_move ?_
     refine oP (.d (.int .i64 a)) p_move ?_
     refine oP (.d (.int .i64 b)) p_move ?_
     refine oP (.fn 29 []) p_move ?_
     exact bNone

/-- slices.SortFunc[[]awardingbody/api.Ratio,awardingbody/api.Ratio] -/
def slices_SortFunc_api_Ratio_api_Ratio (k : Nat) (xs : (List SRatio)) : Option ((List SRatio)) := Option.bind (math_bits_Len k (IntKind.wrap .u64 ((List.length xs) : Int))) (fun r111 => Option.bind (slices_pdqsortCmpFunc_api_Ratio k 0 ((List.length xs) : Int) r111 xs) (fun xs11 => glen (List.length xs) (List.length xs11) (some xs11)))
def slices_SortFunc_api_Ratio_api_Ratio_E (xs : (List SRatio)) : (List SRatio) → V × List Blk := fun xs2 => (.tuple [], [.sl 2 (List.map e_SRatio xs2) false])
theorem slices_SortFunc_api_Ratio_api_Ratio_goes (k : Nat) (xs : (List SRatio)) : RunsO Try.prog 28 [.ref 0 (List.length xs) 0 (List.length xs), .fn 29 []] [.sl 2 (List.map e_SRatio xs) false] (slices_SortFunc_api_Ratio_api_Ratio_E xs) (slices_SortFunc_api_Ratio_api_Ratio k xs) := by
  refine RunsO.of_goes (N := 14) (m := 1) (T := [(0, .ref 0 (List.length xs) 0 (List.length xs)), (1, .fn 29 [])]) Try.func28 rfl rfl (h := ?_)
  unfold slices_SortFunc_api_Ratio_api_Ratio
  refine bStart ?_
  refine oSR rfl ?_
  refine oP (.ref 0 (List.length xs) 0 (List.length xs)) p_move ?_
  refine oP (.d (.int .i64 ((List.length xs) : Int))) (k_lenRef (enc := e_SRatio) (sz := 2) (fro := false) 0 xs (hu := Try.underlying59)) ?_
  refine oP (.d (.int .i64 ((List.length xs) : Int))) p_assign ?_
  refine oEnd ?_
  refine oRegion rfl ?_
  refine oP (.ref 0 (List.length xs) 0 (List.length xs)) p_move ?_
  refine oP (.d (.int .i64 ((List.length xs) : Int))) p_move ?_
  refine oP (.d (.int .i64 ((List.length xs) : Int))) p_move ?_
  refine oP (.d (.int .u64 (IntKind.wrap .u64 ((List.length xs) : Int)))) (p_conv (k := .i64) (p := ((List.length xs) : Int)) (hu1 := Try.underlying3) (hu2 := Try.underlying78)) ?_
  refine bCall (caps := []) (v := (fun (r111 : Int) => (.d (.int .i64 r111) : V))) (H' := (fun (r111 : Int) => ([.sl 2 (List.map e_SRatio xs) false] : List Blk))) [] _ (math_bits_Len_goes k (IntKind.wrap .u64 ((List.length xs) : Int))) (ho := rfl) (hfn := Try.func47) (hb := rfl) (hconv := ConvRs.refl _ _) (hnd := by decide) (hBl := fun _ => (by kernel_rfl)) (hv := fun _ => (by kernel_rfl)) (hH' := fun _ => (by kernel_rfl)) (h := fun r111 => ?_)
  refine oP (.fn 29 []) p_move ?_
  refine bCall (caps := []) (v := (fun (xs11 : (List SRatio)) => (.tuple [] : V))) (H' := (fun (xs11 : (List SRatio)) => ([.sl 2 (List.map e_SRatio xs11) false] : List Blk))) [0] _ (slices_pdqsortCmpFunc_api_Ratio_goes k 0 ((List.length xs) : Int) r111 xs) (ho := rfl) (hfn := Try.func46) (hb := rfl) (hconv := ConvRs.refl _ _) (hnd := by decide) (hBl := fun _ => (by kernel_rfl)) (hv := fun _ => (by kernel_rfl)) (hH' := fun _ => (by kernel_rfl)) (h := fun xs11 => ?_)
  refine bLen (fun hl1 => ?_)
  refine oHead [] [0] (T' := []) (H' := [.sl 2 (List.map e_SRatio xs11) false]) (hnd := by decide) (h := ?_)
  refine oView (T' := []) (H' := [.sl 2 (List.map e_SRatio xs11) false]) (by first | rw [hl1] | rfl) (by first | rw [hl1] | rfl) ?_
  refine oEnd ?_
  exact oFall (r0 := xs11) (rv := .tuple []) (B := [.sl 2 (List.map e_SRatio xs11) false]) (vs := []) (σ := [0]) (by kernel_rfl) Try.func28 rfl .nil (by kernel_rfl) (by kernel_rfl) (by kernel_rfl) (by kernel_rfl) (by decide) (by kernel_rfl) (by kernel_rfl)

end Go.VM
