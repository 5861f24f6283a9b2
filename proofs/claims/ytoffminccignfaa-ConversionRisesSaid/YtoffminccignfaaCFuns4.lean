/- Plain functions that answer as the program's functions do, and the proof that they do. -/
import Derived.Test.YtoffminccignfaaProg
import Derived.KernelRfl
import Derived.Test.YtoffminccignfaaEngW
import Derived.Test.YtoffminccignfaaCFacts
import Derived.Test.YtoffminccignfaaCFuns0
import Derived.Test.YtoffminccignfaaCFuns3
namespace Go.VM
open Go.Proofs
set_option linter.unusedVariables false
set_option linter.unusedSimpArgs false
set_option maxRecDepth 100000
/-- awardingbody/awardingbodylaw33.sane -/
def law33_sane (k : Nat) : Option (Bool) := Option.bind (law33_whole k 0) (u0 (Option.bind (law33_whole k 0) (u0 (Option.bind (law33_whole k 2) (u0 (Option.bind (law33_whole k 4) (u0 (Option.bind (law33_whole k 3) (u0 (Option.bind (law33_whole k 5) (u0 (Option.bind (law33_whole k 1) (u0 (Option.bind (conversion_Eval k 1 1 ([(⟨0, 1, 0, 1⟩ : SPoint), (⟨2, 1, 4, 1⟩ : SPoint), (⟨3, 1, 5, 1⟩ : SPoint)] : List SPoint)) (uc fun r11 => uc fun r13 => fun r14 => Option.bind (law33_whole k 4) (u0 (Option.bind (conversion_Eval_2 k ([(⟨0, 1, 0, 1⟩ : SPoint), (⟨2, 1, 4, 1⟩ : SPoint), (⟨3, 1, 5, 1⟩ : SPoint)] : List SPoint) 4 1) (uc fun r111 => uc fun r131 => fun r141 => Option.bind (conversion_Normal k ([(⟨0, 1, 0, 1⟩ : SPoint), (⟨2, 1, 4, 1⟩ : SPoint), (⟨3, 1, 5, 1⟩ : SPoint)] : List SPoint)) (uc fun r121 => fun r134 => Option.bind (law33_whole k 2) (u0 (Option.bind (law33_whole k 1) (u0 (Option.bind (conversion_Line k 2 1 1 1) (uc fun r135 => fun r143 => blet ((r14 == 0) && (r141 == 0)) fun x27 => blet (x27 && (r134 == 0)) fun x28 => blet (x28 && (r143 == 0)) fun x29 => Option.bind (bif x29 then Option.bind (law33_whole k 2) (u0 (some ((r11 == 2) && ((r13 == 1) && true)))) else some false : Option Bool) (fun x30 => Option.bind (bif x30 then Option.bind (law33_whole k 6) (u0 (some ((r111 == 6) && ((r131 == 1) && true)))) else some false : Option Bool) (fun x31 => blet (x31 && (((List.length r121) : Int) == 3)) fun x32 => Option.bind (bif x32 then gidx r121 0 fun e1 => Option.bind (law33_whole k 1) (u0 (Option.bind (law33_whole k 2) (u0 (some (((e1.X_Num == 1) && ((e1.X_Den == 1) && true)) && (((e1.Y_Num == 2) && ((e1.Y_Den == 1) && true)) && true)))))) else some false : Option Bool) (fun x33 => blet (x33 && (((List.length r135) : Int) == 2)) fun x34 => Option.bind (bif x34 then gidx r135 1 fun e11 => Option.bind (law33_whole k 1) (u0 (Option.bind (law33_whole k 3) (u0 (some (((e11.X_Num == 1) && ((e11.X_Den == 1) && true)) && (((e11.Y_Num == 3) && ((e11.Y_Den == 1) && true)) && true)))))) else some false : Option Bool) (fun x35 => some x35))))))))))))))))))))))))))))
def law33_sane_E : Bool → V × List Blk := fun r1 => (.d (.bool r1), [])
theorem law33_sane_goes (k : Nat) : RunsO Try.prog 7 [] [] (law33_sane_E) (law33_sane k) := by
  refine RunsO.of_goes (N := 100) (m := 0) (T := []) Try.func7 rfl rfl (by kernel_rfl) (by kernel_rfl) (by kernel_rfl) ?_
  unfold law33_sane
  refine bStart ?_
  refine oSeq ?_
  refine oRegion rfl ?_
  refine oOp (.d (.bool false)) (by kernel_rfl) (by kernel_rfl) (PureV.does (p_assign (by kernel_rfl))) ?_
  refine oEnd ?_
  refine oSeq ?_
  refine oRegion rfl ?_
  refine bCall (caps := []) (v := (u0 ((.agg [.d (.int .i64 0), .d (.int .i64 1)] : V)))) (H' := (u0 (([] : List Blk)))) [] _ (law33_whole_goes k 0) (by kernel_rfl) (by kernel_rfl) rfl (by kernel_rfl) Try.func18 rfl (by kernel_rfl) (ConvRs.refl _ _) (by kernel_rfl) (by kernel_rfl) (by kernel_rfl) (by decide) (by kernel_rfl) (by kernel_rfl) (fun _ => (by kernel_rfl)) (fun _ => (by kernel_rfl)) (fun _ => (by kernel_rfl)) (fun r => ?_)
  cases r
  refine bU0 ?_
  refine bCall (caps := []) (v := (u0 ((.agg [.d (.int .i64 0), .d (.int .i64 1)] : V)))) (H' := (u0 (([] : List Blk)))) [] _ (law33_whole_goes k 0) (by kernel_rfl) (by kernel_rfl) rfl (by kernel_rfl) Try.func18 rfl (by kernel_rfl) (ConvRs.refl _ _) (by kernel_rfl) (by kernel_rfl) (by kernel_rfl) (by decide) (by kernel_rfl) (by kernel_rfl) (fun _ => (by kernel_rfl)) (fun _ => (by kernel_rfl)) (fun _ => (by kernel_rfl)) (fun r => ?_)
  cases r
  refine bU0 ?_
  refine oOp (.agg [.d (.int .i64 0), .d (.int .i64 1), .d (.int .i64 0), .d (.int .i64 1)]) (by kernel_rfl) (by kernel_rfl) (PureV.does (p_build bld39 (by kernel_rfl))) ?_
  refine bCall (caps := []) (v := (u0 ((.agg [.d (.int .i64 2), .d (.int .i64 1)] : V)))) (H' := (u0 (([] : List Blk)))) [] _ (law33_whole_goes k 2) (by kernel_rfl) (by kernel_rfl) rfl (by kernel_rfl) Try.func18 rfl (by kernel_rfl) (ConvRs.refl _ _) (by kernel_rfl) (by kernel_rfl) (by kernel_rfl) (by decide) (by kernel_rfl) (by kernel_rfl) (fun _ => (by kernel_rfl)) (fun _ => (by kernel_rfl)) (fun _ => (by kernel_rfl)) (fun r => ?_)
  cases r
  refine bU0 ?_
  refine bCall (caps := []) (v := (u0 ((.agg [.d (.int .i64 4), .d (.int .i64 1)] : V)))) (H' := (u0 (([] : List Blk)))) [] _ (law33_whole_goes k 4) (by kernel_rfl) (by kernel_rfl) rfl (by kernel_rfl) Try.func18 rfl (by kernel_rfl) (ConvRs.refl _ _) (by kernel_rfl) (by kernel_rfl) (by kernel_rfl) (by decide) (by kernel_rfl) (by kernel_rfl) (fun _ => (by kernel_rfl)) (fun _ => (by kernel_rfl)) (fun _ => (by kernel_rfl)) (fun r => ?_)
  cases r
  refine bU0 ?_
  refine oOp (.agg [.d (.int .i64 2), .d (.int .i64 1), .d (.int .i64 4), .d (.int .i64 1)]) (by kernel_rfl) (by kernel_rfl) (PureV.does (p_build bld39 (by kernel_rfl))) ?_
  refine bCall (caps := []) (v := (u0 ((.agg [.d (.int .i64 3), .d (.int .i64 1)] : V)))) (H' := (u0 (([] : List Blk)))) [] _ (law33_whole_goes k 3) (by kernel_rfl) (by kernel_rfl) rfl (by kernel_rfl) Try.func18 rfl (by kernel_rfl) (ConvRs.refl _ _) (by kernel_rfl) (by kernel_rfl) (by kernel_rfl) (by decide) (by kernel_rfl) (by kernel_rfl) (fun _ => (by kernel_rfl)) (fun _ => (by kernel_rfl)) (fun _ => (by kernel_rfl)) (fun r => ?_)
  cases r
  refine bU0 ?_
  refine bCall (caps := []) (v := (u0 ((.agg [.d (.int .i64 5), .d (.int .i64 1)] : V)))) (H' := (u0 (([] : List Blk)))) [] _ (law33_whole_goes k 5) (by kernel_rfl) (by kernel_rfl) rfl (by kernel_rfl) Try.func18 rfl (by kernel_rfl) (ConvRs.refl _ _) (by kernel_rfl) (by kernel_rfl) (by kernel_rfl) (by decide) (by kernel_rfl) (by kernel_rfl) (fun _ => (by kernel_rfl)) (fun _ => (by kernel_rfl)) (fun _ => (by kernel_rfl)) (fun r => ?_)
  cases r
  refine bU0 ?_
  refine oOp (.agg [.d (.int .i64 3), .d (.int .i64 1), .d (.int .i64 5), .d (.int .i64 1)]) (by kernel_rfl) (by kernel_rfl) (PureV.does (p_build bld39 (by kernel_rfl))) ?_
  refine oOp (.ref 0 (List.length ([(⟨0, 1, 0, 1⟩ : SPoint), (⟨2, 1, 4, 1⟩ : SPoint), (⟨3, 1, 5, 1⟩ : SPoint)] : List SPoint)) 0 (List.length ([(⟨0, 1, 0, 1⟩ : SPoint), (⟨2, 1, 4, 1⟩ : SPoint), (⟨3, 1, 5, 1⟩ : SPoint)] : List SPoint))) (by kernel_rfl) (by kernel_rfl) (k_buildSlice (H' := [.sl 4 (List.map e_SPoint ([(⟨0, 1, 0, 1⟩ : SPoint), (⟨2, 1, 4, 1⟩ : SPoint), (⟨3, 1, 5, 1⟩ : SPoint)] : List SPoint)) false]) (List.map e_SPoint ([(⟨0, 1, 0, 1⟩ : SPoint), (⟨2, 1, 4, 1⟩ : SPoint), (⟨3, 1, 5, 1⟩ : SPoint)] : List SPoint)) Try.underlying27 ty39 (by kernel_rfl) (by kernel_rfl) (by kernel_rfl)) ?_
  refine oOp (.agg [.ref 0 (List.length ([(⟨0, 1, 0, 1⟩ : SPoint), (⟨2, 1, 4, 1⟩ : SPoint), (⟨3, 1, 5, 1⟩ : SPoint)] : List SPoint)) 0 (List.length ([(⟨0, 1, 0, 1⟩ : SPoint), (⟨2, 1, 4, 1⟩ : SPoint), (⟨3, 1, 5, 1⟩ : SPoint)] : List SPoint))]) (by kernel_rfl) (by kernel_rfl) (PureV.does (p_build bld29 (by kernel_rfl))) ?_
  refine oOp (.ptr 1 0) (by kernel_rfl) (by kernel_rfl) (k_alloc (H' := [.sl 4 (List.map e_SPoint ([(⟨0, 1, 0, 1⟩ : SPoint), (⟨2, 1, 4, 1⟩ : SPoint), (⟨3, 1, 5, 1⟩ : SPoint)] : List SPoint)) false, .box [.nilc]]) ty29 (by kernel_rfl) (by kernel_rfl)) ?_
  refine oOp (.undef) (by kernel_rfl) (by kernel_rfl) (k_store (vs := [.ref 0 (List.length ([(⟨0, 1, 0, 1⟩ : SPoint), (⟨2, 1, 4, 1⟩ : SPoint), (⟨3, 1, 5, 1⟩ : SPoint)] : List SPoint)) 0 (List.length ([(⟨0, 1, 0, 1⟩ : SPoint), (⟨2, 1, 4, 1⟩ : SPoint), (⟨3, 1, 5, 1⟩ : SPoint)] : List SPoint))]) (H' := [.sl 4 (List.map e_SPoint ([(⟨0, 1, 0, 1⟩ : SPoint), (⟨2, 1, 4, 1⟩ : SPoint), (⟨3, 1, 5, 1⟩ : SPoint)] : List SPoint)) false, .box [.ref 0 (List.length ([(⟨0, 1, 0, 1⟩ : SPoint), (⟨2, 1, 4, 1⟩ : SPoint), (⟨3, 1, 5, 1⟩ : SPoint)] : List SPoint)) 0 (List.length ([(⟨0, 1, 0, 1⟩ : SPoint), (⟨2, 1, 4, 1⟩ : SPoint), (⟨3, 1, 5, 1⟩ : SPoint)] : List SPoint))]]) 1 0 (by kernel_rfl) ty29 (by kernel_rfl) (by kernel_rfl) (by kernel_rfl)) ?_
  refine oEnd ?_
  refine oSeq ?_
  refine oDraw [(0, 2), (1, 9)] rfl ?_
  refine aTakeL (i := 0) (st' := [1]) (.agg [.ref 0 (List.length ([(⟨0, 1, 0, 1⟩ : SPoint), (⟨2, 1, 4, 1⟩ : SPoint), (⟨3, 1, 5, 1⟩ : SPoint)] : List SPoint)) 0 (List.length ([(⟨0, 1, 0, 1⟩ : SPoint), (⟨2, 1, 4, 1⟩ : SPoint), (⟨3, 1, 5, 1⟩ : SPoint)] : List SPoint))]) rfl (by kernel_rfl) (by kernel_rfl) (by kernel_rfl) (by kernel_rfl) (by kernel_rfl) (by kernel_rfl) (by kernel_rfl) (k_loadAgg 1 0 (by kernel_rfl) Try.underlying29 (by kernel_rfl) ty29 (by kernel_rfl)) ?_
  refine dCall (i := 1) (caps := []) (v := (u0 ((.agg [.d (.int .i64 1), .d (.int .i64 1)] : V)))) (H' := (u0 (([.sl 4 (List.map e_SPoint ([(⟨0, 1, 0, 1⟩ : SPoint), (⟨2, 1, 4, 1⟩ : SPoint), (⟨3, 1, 5, 1⟩ : SPoint)] : List SPoint)) false, .box [.ref 0 (List.length ([(⟨0, 1, 0, 1⟩ : SPoint), (⟨2, 1, 4, 1⟩ : SPoint), (⟨3, 1, 5, 1⟩ : SPoint)] : List SPoint)) 0 (List.length ([(⟨0, 1, 0, 1⟩ : SPoint), (⟨2, 1, 4, 1⟩ : SPoint), (⟨3, 1, 5, 1⟩ : SPoint)] : List SPoint))]] : List Blk)))) [] _ (law33_whole_goes k 1) rfl (by kernel_rfl) (by kernel_rfl) (by kernel_rfl) (by kernel_rfl) (by kernel_rfl) (by kernel_rfl) (by kernel_rfl) (by kernel_rfl) rfl (by kernel_rfl) Try.func18 rfl (by kernel_rfl) (ConvRs.refl _ _) (by kernel_rfl) (by kernel_rfl) (by kernel_rfl) (by decide) (by kernel_rfl) (by kernel_rfl) (fun _ => (by kernel_rfl)) (fun _ => (by kernel_rfl)) (fun _ => (by kernel_rfl)) (fun r => ?_)
  cases r
  refine dU0 ?_
  refine dCall (i := 2) (caps := []) (v := (uc fun (r11 : Int) => (uc fun (r13 : Int) => (fun (r14 : Int) => (.tuple [.agg [.d (.int .i64 r11), .d (.int .i64 r13)], .d (.int .i64 r14)] : V))))) (H' := (uc fun (r11 : Int) => (uc fun (r13 : Int) => (fun (r14 : Int) => ([.sl 4 (List.map e_SPoint ([(⟨0, 1, 0, 1⟩ : SPoint), (⟨2, 1, 4, 1⟩ : SPoint), (⟨3, 1, 5, 1⟩ : SPoint)] : List SPoint)) true, .box [.ref 0 (List.length ([(⟨0, 1, 0, 1⟩ : SPoint), (⟨2, 1, 4, 1⟩ : SPoint), (⟨3, 1, 5, 1⟩ : SPoint)] : List SPoint)) 0 (List.length ([(⟨0, 1, 0, 1⟩ : SPoint), (⟨2, 1, 4, 1⟩ : SPoint), (⟨3, 1, 5, 1⟩ : SPoint)] : List SPoint))]] : List Blk))))) [0] _ (conversion_Eval_goes k 1 1 ([(⟨0, 1, 0, 1⟩ : SPoint), (⟨2, 1, 4, 1⟩ : SPoint), (⟨3, 1, 5, 1⟩ : SPoint)] : List SPoint)) rfl (by kernel_rfl) (by kernel_rfl) (by kernel_rfl) (by kernel_rfl) (by kernel_rfl) (by kernel_rfl) (by kernel_rfl) (by kernel_rfl) rfl (by kernel_rfl) Try.func13 rfl (by kernel_rfl) (ConvRs.refl _ _) (by kernel_rfl) (by kernel_rfl) (by kernel_rfl) (by decide) (by kernel_rfl) (by kernel_rfl) (fun _ => (by kernel_rfl)) (fun _ => (by kernel_rfl)) (fun _ => (by kernel_rfl)) (fun r => ?_)
  obtain ⟨r11, r13, r14⟩ := r
  refine dUc ?_
  refine dUc ?_
  refine aTakeP (i := 3) (.tuple [.agg [.d (.int .i64 r11), .d (.int .i64 r13)], .d (.int .i64 r14)]) rfl (by kernel_rfl) (by kernel_rfl) (by kernel_rfl) (by kernel_rfl) (by kernel_rfl) (by kernel_rfl) (by kernel_rfl) (p_move (by kernel_rfl)) ?_
  refine aTakeP (i := 4) (.agg [.d (.int .i64 r11), .d (.int .i64 r13)]) rfl (by kernel_rfl) (by kernel_rfl) (by kernel_rfl) (by kernel_rfl) (by kernel_rfl) (by kernel_rfl) (by kernel_rfl) (k_extract (by kernel_rfl)) ?_
  refine aTakeP (i := 5) (.d (.int .i64 r14)) rfl (by kernel_rfl) (by kernel_rfl) (by kernel_rfl) (by kernel_rfl) (by kernel_rfl) (by kernel_rfl) (by kernel_rfl) (k_extract (by kernel_rfl)) ?_
  refine aAlloc (i := 6) (d := 2) rfl (by kernel_rfl) (by kernel_rfl) rfl rfl (by kernel_rfl) (by kernel_rfl) ty37 (cells := [.d (.int .i64 0), .d (.int .i64 0)]) (by kernel_rfl) (by kernel_rfl) ?_
  refine dView (H' := [.sl 4 (List.map e_SPoint ([(⟨0, 1, 0, 1⟩ : SPoint), (⟨2, 1, 4, 1⟩ : SPoint), (⟨3, 1, 5, 1⟩ : SPoint)] : List SPoint)) true, .box [.ref 0 (List.length ([(⟨0, 1, 0, 1⟩ : SPoint), (⟨2, 1, 4, 1⟩ : SPoint), (⟨3, 1, 5, 1⟩ : SPoint)] : List SPoint)) 0 (List.length ([(⟨0, 1, 0, 1⟩ : SPoint), (⟨2, 1, 4, 1⟩ : SPoint), (⟨3, 1, 5, 1⟩ : SPoint)] : List SPoint))], .box [.d (.int .i64 0), .d (.int .i64 0)]]) rfl rfl (by kernel_rfl) ?_
  refine aOne (i := 7) (v := .undef) rfl (by kernel_rfl) (by kernel_rfl) (by kernel_rfl) (by kernel_rfl) (by kernel_rfl) (by kernel_rfl) (by kernel_rfl) (Does.acts (k_store (vs := [.d (.int .i64 r11), .d (.int .i64 r13)]) (H' := [.sl 4 (List.map e_SPoint ([(⟨0, 1, 0, 1⟩ : SPoint), (⟨2, 1, 4, 1⟩ : SPoint), (⟨3, 1, 5, 1⟩ : SPoint)] : List SPoint)) true, .box [.ref 0 (List.length ([(⟨0, 1, 0, 1⟩ : SPoint), (⟨2, 1, 4, 1⟩ : SPoint), (⟨3, 1, 5, 1⟩ : SPoint)] : List SPoint)) 0 (List.length ([(⟨0, 1, 0, 1⟩ : SPoint), (⟨2, 1, 4, 1⟩ : SPoint), (⟨3, 1, 5, 1⟩ : SPoint)] : List SPoint))], .box [.d (.int .i64 r11), .d (.int .i64 r13)]]) 2 0 (by kernel_rfl) ty37 (by kernel_rfl) (by kernel_rfl) (by kernel_rfl))) (by kernel_rfl) ?_
  refine aTakeL (i := 8) (st' := []) (.d (.int .i64 r14)) rfl (by kernel_rfl) (by kernel_rfl) (by kernel_rfl) (by kernel_rfl) (by kernel_rfl) (by kernel_rfl) (by kernel_rfl) (PureV.quiet (p_assign (by kernel_rfl)) []) ?_
  refine aDone (by kernel_rfl) ?_
  refine oSeq ?_
  refine oDraw [(0, 9), (1, 9), (2, 9)] rfl ?_
  refine aTakeL (i := 0) (st' := [1]) (.agg [.ref 0 (List.length ([(⟨0, 1, 0, 1⟩ : SPoint), (⟨2, 1, 4, 1⟩ : SPoint), (⟨3, 1, 5, 1⟩ : SPoint)] : List SPoint)) 0 (List.length ([(⟨0, 1, 0, 1⟩ : SPoint), (⟨2, 1, 4, 1⟩ : SPoint), (⟨3, 1, 5, 1⟩ : SPoint)] : List SPoint))]) rfl (by kernel_rfl) (by kernel_rfl) (by kernel_rfl) (by kernel_rfl) (by kernel_rfl) (by kernel_rfl) (by kernel_rfl) (k_loadAgg 1 0 (by kernel_rfl) Try.underlying29 (by kernel_rfl) ty29 (by kernel_rfl)) ?_
  refine dCall (i := 1) (caps := []) (v := (u0 ((.agg [.d (.int .i64 4), .d (.int .i64 1)] : V)))) (H' := (u0 (([.sl 4 (List.map e_SPoint ([(⟨0, 1, 0, 1⟩ : SPoint), (⟨2, 1, 4, 1⟩ : SPoint), (⟨3, 1, 5, 1⟩ : SPoint)] : List SPoint)) true, .box [.ref 0 (List.length ([(⟨0, 1, 0, 1⟩ : SPoint), (⟨2, 1, 4, 1⟩ : SPoint), (⟨3, 1, 5, 1⟩ : SPoint)] : List SPoint)) 0 (List.length ([(⟨0, 1, 0, 1⟩ : SPoint), (⟨2, 1, 4, 1⟩ : SPoint), (⟨3, 1, 5, 1⟩ : SPoint)] : List SPoint))], .box [.d (.int .i64 r11), .d (.int .i64 r13)]] : List Blk)))) [] _ (law33_whole_goes k 4) rfl (by kernel_rfl) (by kernel_rfl) (by kernel_rfl) (by kernel_rfl) (by kernel_rfl) (by kernel_rfl) (by kernel_rfl) (by kernel_rfl) rfl (by kernel_rfl) Try.func18 rfl (by kernel_rfl) (ConvRs.refl _ _) (by kernel_rfl) (by kernel_rfl) (by kernel_rfl) (by decide) (by kernel_rfl) (by kernel_rfl) (fun _ => (by kernel_rfl)) (fun _ => (by kernel_rfl)) (fun _ => (by kernel_rfl)) (fun r => ?_)
  cases r
  refine dU0 ?_
  refine dCall (i := 2) (caps := []) (v := (uc fun (r111 : Int) => (uc fun (r131 : Int) => (fun (r141 : Int) => (.tuple [.agg [.d (.int .i64 r111), .d (.int .i64 r131)], .d (.int .i64 r141)] : V))))) (H' := (uc fun (r111 : Int) => (uc fun (r131 : Int) => (fun (r141 : Int) => ([.sl 4 (List.map e_SPoint ([(⟨0, 1, 0, 1⟩ : SPoint), (⟨2, 1, 4, 1⟩ : SPoint), (⟨3, 1, 5, 1⟩ : SPoint)] : List SPoint)) true, .box [.ref 0 (List.length ([(⟨0, 1, 0, 1⟩ : SPoint), (⟨2, 1, 4, 1⟩ : SPoint), (⟨3, 1, 5, 1⟩ : SPoint)] : List SPoint)) 0 (List.length ([(⟨0, 1, 0, 1⟩ : SPoint), (⟨2, 1, 4, 1⟩ : SPoint), (⟨3, 1, 5, 1⟩ : SPoint)] : List SPoint))], .box [.d (.int .i64 r11), .d (.int .i64 r13)]] : List Blk))))) [] _ (conversion_Eval_2_goes k ([(⟨0, 1, 0, 1⟩ : SPoint), (⟨2, 1, 4, 1⟩ : SPoint), (⟨3, 1, 5, 1⟩ : SPoint)] : List SPoint) 4 1) rfl (by kernel_rfl) (by kernel_rfl) (by kernel_rfl) (by kernel_rfl) (by kernel_rfl) (by kernel_rfl) (by kernel_rfl) (by kernel_rfl) rfl (by kernel_rfl) Try.func13 rfl (by kernel_rfl) (convList (vs0 := [.agg [.ref 0 (List.length ([(⟨0, 1, 0, 1⟩ : SPoint), (⟨2, 1, 4, 1⟩ : SPoint), (⟨3, 1, 5, 1⟩ : SPoint)] : List SPoint)) 0 (List.length ([(⟨0, 1, 0, 1⟩ : SPoint), (⟨2, 1, 4, 1⟩ : SPoint), (⟨3, 1, 5, 1⟩ : SPoint)] : List SPoint))], .agg [.d (.int .i64 4), .d (.int .i64 1)]]) (vs := [.agg [.d (.lit (List.map e_SPoint ([(⟨0, 1, 0, 1⟩ : SPoint), (⟨2, 1, 4, 1⟩ : SPoint), (⟨3, 1, 5, 1⟩ : SPoint)] : List SPoint)))], .agg [.d (.int .i64 4), .d (.int .i64 1)]]) (by kernel_rfl) (.cons _ _ _ _ (.agg _ _ (.cons _ _ _ _ (k_lit (enc := e_SPoint) (sz := 4) 0 ([(⟨0, 1, 0, 1⟩ : SPoint), (⟨2, 1, 4, 1⟩ : SPoint), (⟨3, 1, 5, 1⟩ : SPoint)] : List SPoint) (by kernel_rfl)) .nil)) (.cons _ _ _ _ (.same _) .nil))) (by kernel_rfl) (by kernel_rfl) (by kernel_rfl) (by decide) (by kernel_rfl) (by kernel_rfl) (fun _ => (by kernel_rfl)) (fun _ => (by kernel_rfl)) (fun _ => (by kernel_rfl)) (fun r => ?_)
  obtain ⟨r111, r131, r141⟩ := r
  refine dUc ?_
  refine dUc ?_
  refine aTakeP (i := 3) (.tuple [.agg [.d (.int .i64 r111), .d (.int .i64 r131)], .d (.int .i64 r141)]) rfl (by kernel_rfl) (by kernel_rfl) (by kernel_rfl) (by kernel_rfl) (by kernel_rfl) (by kernel_rfl) (by kernel_rfl) (p_move (by kernel_rfl)) ?_
  refine aTakeP (i := 4) (.agg [.d (.int .i64 r111), .d (.int .i64 r131)]) rfl (by kernel_rfl) (by kernel_rfl) (by kernel_rfl) (by kernel_rfl) (by kernel_rfl) (by kernel_rfl) (by kernel_rfl) (k_extract (by kernel_rfl)) ?_
  refine aTakeP (i := 5) (.d (.int .i64 r141)) rfl (by kernel_rfl) (by kernel_rfl) (by kernel_rfl) (by kernel_rfl) (by kernel_rfl) (by kernel_rfl) (by kernel_rfl) (k_extract (by kernel_rfl)) ?_
  refine aAlloc (i := 6) (d := 4) rfl (by kernel_rfl) (by kernel_rfl) rfl rfl (by kernel_rfl) (by kernel_rfl) ty37 (cells := [.d (.int .i64 0), .d (.int .i64 0)]) (by kernel_rfl) (by kernel_rfl) ?_
  refine dView (H' := [.sl 4 (List.map e_SPoint ([(⟨0, 1, 0, 1⟩ : SPoint), (⟨2, 1, 4, 1⟩ : SPoint), (⟨3, 1, 5, 1⟩ : SPoint)] : List SPoint)) true, .box [.ref 0 (List.length ([(⟨0, 1, 0, 1⟩ : SPoint), (⟨2, 1, 4, 1⟩ : SPoint), (⟨3, 1, 5, 1⟩ : SPoint)] : List SPoint)) 0 (List.length ([(⟨0, 1, 0, 1⟩ : SPoint), (⟨2, 1, 4, 1⟩ : SPoint), (⟨3, 1, 5, 1⟩ : SPoint)] : List SPoint))], .box [.d (.int .i64 r11), .d (.int .i64 r13)], .box [.d (.int .i64 0), .d (.int .i64 0)]]) rfl rfl (by kernel_rfl) ?_
  refine aOne (i := 7) (v := .undef) rfl (by kernel_rfl) (by kernel_rfl) (by kernel_rfl) (by kernel_rfl) (by kernel_rfl) (by kernel_rfl) (by kernel_rfl) (Does.acts (k_store (vs := [.d (.int .i64 r111), .d (.int .i64 r131)]) (H' := [.sl 4 (List.map e_SPoint ([(⟨0, 1, 0, 1⟩ : SPoint), (⟨2, 1, 4, 1⟩ : SPoint), (⟨3, 1, 5, 1⟩ : SPoint)] : List SPoint)) true, .box [.ref 0 (List.length ([(⟨0, 1, 0, 1⟩ : SPoint), (⟨2, 1, 4, 1⟩ : SPoint), (⟨3, 1, 5, 1⟩ : SPoint)] : List SPoint)) 0 (List.length ([(⟨0, 1, 0, 1⟩ : SPoint), (⟨2, 1, 4, 1⟩ : SPoint), (⟨3, 1, 5, 1⟩ : SPoint)] : List SPoint))], .box [.d (.int .i64 r11), .d (.int .i64 r13)], .box [.d (.int .i64 r111), .d (.int .i64 r131)]]) 3 0 (by kernel_rfl) ty37 (by kernel_rfl) (by kernel_rfl) (by kernel_rfl))) (by kernel_rfl) ?_
  refine aTakeL (i := 8) (st' := []) (.d (.int .i64 r141)) rfl (by kernel_rfl) (by kernel_rfl) (by kernel_rfl) (by kernel_rfl) (by kernel_rfl) (by kernel_rfl) (by kernel_rfl) (PureV.quiet (p_assign (by kernel_rfl)) []) ?_
  refine aDone (by kernel_rfl) ?_
  refine oSeq ?_
  refine oRegion rfl ?_
  refine oOp (.agg [.ref 0 (List.length ([(⟨0, 1, 0, 1⟩ : SPoint), (⟨2, 1, 4, 1⟩ : SPoint), (⟨3, 1, 5, 1⟩ : SPoint)] : List SPoint)) 0 (List.length ([(⟨0, 1, 0, 1⟩ : SPoint), (⟨2, 1, 4, 1⟩ : SPoint), (⟨3, 1, 5, 1⟩ : SPoint)] : List SPoint))]) (by kernel_rfl) (by kernel_rfl) (Quiet.does (k_loadAgg 1 0 (by kernel_rfl) Try.underlying29 (by kernel_rfl) ty29 (by kernel_rfl))) ?_
  refine bCall (caps := []) (v := (uc fun (r121 : (List SPoint)) => (fun (r134 : Int) => (.tuple [.agg [.d (.lit (List.map e_SPoint r121))], .d (.int .i64 r134)] : V)))) (H' := (uc fun (r121 : (List SPoint)) => (fun (r134 : Int) => ([.sl 4 (List.map e_SPoint ([(⟨0, 1, 0, 1⟩ : SPoint), (⟨2, 1, 4, 1⟩ : SPoint), (⟨3, 1, 5, 1⟩ : SPoint)] : List SPoint)) true, .box [.ref 0 (List.length ([(⟨0, 1, 0, 1⟩ : SPoint), (⟨2, 1, 4, 1⟩ : SPoint), (⟨3, 1, 5, 1⟩ : SPoint)] : List SPoint)) 0 (List.length ([(⟨0, 1, 0, 1⟩ : SPoint), (⟨2, 1, 4, 1⟩ : SPoint), (⟨3, 1, 5, 1⟩ : SPoint)] : List SPoint))], .box [.d (.int .i64 r11), .d (.int .i64 r13)], .box [.d (.int .i64 r111), .d (.int .i64 r131)]] : List Blk)))) [] _ (conversion_Normal_goes k ([(⟨0, 1, 0, 1⟩ : SPoint), (⟨2, 1, 4, 1⟩ : SPoint), (⟨3, 1, 5, 1⟩ : SPoint)] : List SPoint)) (by kernel_rfl) (by kernel_rfl) rfl (by kernel_rfl) Try.func10 rfl (by kernel_rfl) (convList (vs0 := [.agg [.ref 0 (List.length ([(⟨0, 1, 0, 1⟩ : SPoint), (⟨2, 1, 4, 1⟩ : SPoint), (⟨3, 1, 5, 1⟩ : SPoint)] : List SPoint)) 0 (List.length ([(⟨0, 1, 0, 1⟩ : SPoint), (⟨2, 1, 4, 1⟩ : SPoint), (⟨3, 1, 5, 1⟩ : SPoint)] : List SPoint))]]) (vs := [.agg [.d (.lit (List.map e_SPoint ([(⟨0, 1, 0, 1⟩ : SPoint), (⟨2, 1, 4, 1⟩ : SPoint), (⟨3, 1, 5, 1⟩ : SPoint)] : List SPoint)))]]) (by kernel_rfl) (.cons _ _ _ _ (.agg _ _ (.cons _ _ _ _ (k_lit (enc := e_SPoint) (sz := 4) 0 ([(⟨0, 1, 0, 1⟩ : SPoint), (⟨2, 1, 4, 1⟩ : SPoint), (⟨3, 1, 5, 1⟩ : SPoint)] : List SPoint) (by kernel_rfl)) .nil)) .nil)) (by kernel_rfl) (by kernel_rfl) (by kernel_rfl) (by decide) (by kernel_rfl) (by kernel_rfl) (fun _ => (by kernel_rfl)) (fun _ => (by kernel_rfl)) (fun _ => (by kernel_rfl)) (fun r => ?_)
  obtain ⟨r121, r134⟩ := r
  refine bUc ?_
  refine oOp (.tuple [.agg [.d (.lit (List.map e_SPoint r121))], .d (.int .i64 r134)]) (by kernel_rfl) (by kernel_rfl) (PureV.does (p_move (by kernel_rfl))) ?_
  refine oOp (.agg [.d (.lit (List.map e_SPoint r121))]) (by kernel_rfl) (by kernel_rfl) (PureV.does (k_extract (by kernel_rfl))) ?_
  refine oOp (.d (.int .i64 r134)) (by kernel_rfl) (by kernel_rfl) (PureV.does (k_extract (by kernel_rfl))) ?_
  refine oOp (.ptr 4 0) (by kernel_rfl) (by kernel_rfl) (k_alloc (H' := [.sl 4 (List.map e_SPoint ([(⟨0, 1, 0, 1⟩ : SPoint), (⟨2, 1, 4, 1⟩ : SPoint), (⟨3, 1, 5, 1⟩ : SPoint)] : List SPoint)) true, .box [.ref 0 (List.length ([(⟨0, 1, 0, 1⟩ : SPoint), (⟨2, 1, 4, 1⟩ : SPoint), (⟨3, 1, 5, 1⟩ : SPoint)] : List SPoint)) 0 (List.length ([(⟨0, 1, 0, 1⟩ : SPoint), (⟨2, 1, 4, 1⟩ : SPoint), (⟨3, 1, 5, 1⟩ : SPoint)] : List SPoint))], .box [.d (.int .i64 r11), .d (.int .i64 r13)], .box [.d (.int .i64 r111), .d (.int .i64 r131)], .box [.nilc]]) ty29 (by kernel_rfl) (by kernel_rfl)) ?_
  refine oOp (.undef) (by kernel_rfl) (by kernel_rfl) (k_store (vs := [.d (.lit (List.map e_SPoint r121))]) (H' := [.sl 4 (List.map e_SPoint ([(⟨0, 1, 0, 1⟩ : SPoint), (⟨2, 1, 4, 1⟩ : SPoint), (⟨3, 1, 5, 1⟩ : SPoint)] : List SPoint)) true, .box [.ref 0 (List.length ([(⟨0, 1, 0, 1⟩ : SPoint), (⟨2, 1, 4, 1⟩ : SPoint), (⟨3, 1, 5, 1⟩ : SPoint)] : List SPoint)) 0 (List.length ([(⟨0, 1, 0, 1⟩ : SPoint), (⟨2, 1, 4, 1⟩ : SPoint), (⟨3, 1, 5, 1⟩ : SPoint)] : List SPoint))], .box [.d (.int .i64 r11), .d (.int .i64 r13)], .box [.d (.int .i64 r111), .d (.int .i64 r131)], .box [.d (.lit (List.map e_SPoint r121))]]) 4 0 (by kernel_rfl) ty29 (by kernel_rfl) (by kernel_rfl) (by kernel_rfl)) ?_
  refine oOp (.d (.int .i64 r134)) (by kernel_rfl) (by kernel_rfl) (PureV.does (p_assign (by kernel_rfl))) ?_
  refine oEnd ?_
  refine oSeq ?_
  refine oRegion rfl ?_
  refine bCall (caps := []) (v := (u0 ((.agg [.d (.int .i64 2), .d (.int .i64 1)] : V)))) (H' := (u0 (([.sl 4 (List.map e_SPoint ([(⟨0, 1, 0, 1⟩ : SPoint), (⟨2, 1, 4, 1⟩ : SPoint), (⟨3, 1, 5, 1⟩ : SPoint)] : List SPoint)) true, .box [.ref 0 (List.length ([(⟨0, 1, 0, 1⟩ : SPoint), (⟨2, 1, 4, 1⟩ : SPoint), (⟨3, 1, 5, 1⟩ : SPoint)] : List SPoint)) 0 (List.length ([(⟨0, 1, 0, 1⟩ : SPoint), (⟨2, 1, 4, 1⟩ : SPoint), (⟨3, 1, 5, 1⟩ : SPoint)] : List SPoint))], .box [.d (.int .i64 r11), .d (.int .i64 r13)], .box [.d (.int .i64 r111), .d (.int .i64 r131)], .box [.d (.lit (List.map e_SPoint r121))]] : List Blk)))) [] _ (law33_whole_goes k 2) (by kernel_rfl) (by kernel_rfl) rfl (by kernel_rfl) Try.func18 rfl (by kernel_rfl) (ConvRs.refl _ _) (by kernel_rfl) (by kernel_rfl) (by kernel_rfl) (by decide) (by kernel_rfl) (by kernel_rfl) (fun _ => (by kernel_rfl)) (fun _ => (by kernel_rfl)) (fun _ => (by kernel_rfl)) (fun r => ?_)
  cases r
  refine bU0 ?_
  refine bCall (caps := []) (v := (u0 ((.agg [.d (.int .i64 1), .d (.int .i64 1)] : V)))) (H' := (u0 (([.sl 4 (List.map e_SPoint ([(⟨0, 1, 0, 1⟩ : SPoint), (⟨2, 1, 4, 1⟩ : SPoint), (⟨3, 1, 5, 1⟩ : SPoint)] : List SPoint)) true, .box [.ref 0 (List.length ([(⟨0, 1, 0, 1⟩ : SPoint), (⟨2, 1, 4, 1⟩ : SPoint), (⟨3, 1, 5, 1⟩ : SPoint)] : List SPoint)) 0 (List.length ([(⟨0, 1, 0, 1⟩ : SPoint), (⟨2, 1, 4, 1⟩ : SPoint), (⟨3, 1, 5, 1⟩ : SPoint)] : List SPoint))], .box [.d (.int .i64 r11), .d (.int .i64 r13)], .box [.d (.int .i64 r111), .d (.int .i64 r131)], .box [.d (.lit (List.map e_SPoint r121))]] : List Blk)))) [] _ (law33_whole_goes k 1) (by kernel_rfl) (by kernel_rfl) rfl (by kernel_rfl) Try.func18 rfl (by kernel_rfl) (ConvRs.refl _ _) (by kernel_rfl) (by kernel_rfl) (by kernel_rfl) (by decide) (by kernel_rfl) (by kernel_rfl) (fun _ => (by kernel_rfl)) (fun _ => (by kernel_rfl)) (fun _ => (by kernel_rfl)) (fun r => ?_)
  cases r
  refine bU0 ?_
  refine bCall (caps := []) (v := (uc fun (r135 : (List SPoint)) => (fun (r143 : Int) => (.tuple [.agg [.d (.lit (List.map e_SPoint r135))], .d (.int .i64 r143)] : V)))) (H' := (uc fun (r135 : (List SPoint)) => (fun (r143 : Int) => ([.sl 4 (List.map e_SPoint ([(⟨0, 1, 0, 1⟩ : SPoint), (⟨2, 1, 4, 1⟩ : SPoint), (⟨3, 1, 5, 1⟩ : SPoint)] : List SPoint)) true, .box [.ref 0 (List.length ([(⟨0, 1, 0, 1⟩ : SPoint), (⟨2, 1, 4, 1⟩ : SPoint), (⟨3, 1, 5, 1⟩ : SPoint)] : List SPoint)) 0 (List.length ([(⟨0, 1, 0, 1⟩ : SPoint), (⟨2, 1, 4, 1⟩ : SPoint), (⟨3, 1, 5, 1⟩ : SPoint)] : List SPoint))], .box [.d (.int .i64 r11), .d (.int .i64 r13)], .box [.d (.int .i64 r111), .d (.int .i64 r131)], .box [.d (.lit (List.map e_SPoint r121))]] : List Blk)))) [] _ (conversion_Line_goes k 2 1 1 1) (by kernel_rfl) (by kernel_rfl) rfl (by kernel_rfl) Try.func17 rfl (by kernel_rfl) (ConvRs.refl _ _) (by kernel_rfl) (by kernel_rfl) (by kernel_rfl) (by decide) (by kernel_rfl) (by kernel_rfl) (fun _ => (by kernel_rfl)) (fun _ => (by kernel_rfl)) (fun _ => (by kernel_rfl)) (fun r => ?_)
  obtain ⟨r135, r143⟩ := r
  refine bUc ?_
  refine oOp (.tuple [.agg [.d (.lit (List.map e_SPoint r135))], .d (.int .i64 r143)]) (by kernel_rfl) (by kernel_rfl) (PureV.does (p_move (by kernel_rfl))) ?_
  refine oOp (.agg [.d (.lit (List.map e_SPoint r135))]) (by kernel_rfl) (by kernel_rfl) (PureV.does (k_extract (by kernel_rfl))) ?_
  refine oOp (.d (.int .i64 r143)) (by kernel_rfl) (by kernel_rfl) (PureV.does (k_extract (by kernel_rfl))) ?_
  refine oOp (.ptr 5 0) (by kernel_rfl) (by kernel_rfl) (k_alloc (H' := [.sl 4 (List.map e_SPoint ([(⟨0, 1, 0, 1⟩ : SPoint), (⟨2, 1, 4, 1⟩ : SPoint), (⟨3, 1, 5, 1⟩ : SPoint)] : List SPoint)) true, .box [.ref 0 (List.length ([(⟨0, 1, 0, 1⟩ : SPoint), (⟨2, 1, 4, 1⟩ : SPoint), (⟨3, 1, 5, 1⟩ : SPoint)] : List SPoint)) 0 (List.length ([(⟨0, 1, 0, 1⟩ : SPoint), (⟨2, 1, 4, 1⟩ : SPoint), (⟨3, 1, 5, 1⟩ : SPoint)] : List SPoint))], .box [.d (.int .i64 r11), .d (.int .i64 r13)], .box [.d (.int .i64 r111), .d (.int .i64 r131)], .box [.d (.lit (List.map e_SPoint r121))], .box [.nilc]]) ty29 (by kernel_rfl) (by kernel_rfl)) ?_
  refine oOp (.undef) (by kernel_rfl) (by kernel_rfl) (k_store (vs := [.d (.lit (List.map e_SPoint r135))]) (H' := [.sl 4 (List.map e_SPoint ([(⟨0, 1, 0, 1⟩ : SPoint), (⟨2, 1, 4, 1⟩ : SPoint), (⟨3, 1, 5, 1⟩ : SPoint)] : List SPoint)) true, .box [.ref 0 (List.length ([(⟨0, 1, 0, 1⟩ : SPoint), (⟨2, 1, 4, 1⟩ : SPoint), (⟨3, 1, 5, 1⟩ : SPoint)] : List SPoint)) 0 (List.length ([(⟨0, 1, 0, 1⟩ : SPoint), (⟨2, 1, 4, 1⟩ : SPoint), (⟨3, 1, 5, 1⟩ : SPoint)] : List SPoint))], .box [.d (.int .i64 r11), .d (.int .i64 r13)], .box [.d (.int .i64 r111), .d (.int .i64 r131)], .box [.d (.lit (List.map e_SPoint r121))], .box [.d (.lit (List.map e_SPoint r135))]]) 5 0 (by kernel_rfl) ty29 (by kernel_rfl) (by kernel_rfl) (by kernel_rfl)) ?_
  refine oOp (.d (.int .i64 r143)) (by kernel_rfl) (by kernel_rfl) (PureV.does (p_assign (by kernel_rfl))) ?_
  refine oEnd ?_
  refine oSeq ?_
  refine oDraw [(0, 57), (1, 57), (2, 57), (3, 57), (4, 57), (5, 57)] rfl ?_
  refine aTakeL (i := 0) (st' := []) (.d (.int .i64 r14)) rfl (by kernel_rfl) (by kernel_rfl) (by kernel_rfl) (by kernel_rfl) (by kernel_rfl) (by kernel_rfl) (by kernel_rfl) (PureV.quiet (p_move (by kernel_rfl)) []) ?_
  refine aTakeL (i := 1) (st' := []) (.d (.bool (r14 == 0))) rfl (by kernel_rfl) (by kernel_rfl) (by kernel_rfl) (by kernel_rfl) (by kernel_rfl) (by kernel_rfl) (by kernel_rfl) (PureV.quiet (p_int (k := .i64) (p := r14) (q := 0) (by kernel_rfl) (by kernel_rfl) (by kernel_rfl)) []) ?_
  refine aTakeL (i := 2) (st' := []) (.d (.bool (r14 == 0))) rfl (by kernel_rfl) (by kernel_rfl) (by kernel_rfl) (by kernel_rfl) (by kernel_rfl) (by kernel_rfl) (by kernel_rfl) (PureV.quiet (p_move (by kernel_rfl)) []) ?_
  refine dMeetF [5, 4, 3, 2, 1, 0] (fun (x27 : Bool) => [(2, .ptr 2 0), (4, .ptr 3 0), (6, .ptr 4 0), (7, .d (.int .i64 r134)), (8, .ptr 5 0), (9, .d (.int .i64 r143)), (49, .d (.bool x27))]) (fun (x27 : Bool) => [(2, .ptr 2 0), (4, .ptr 3 0), (6, .ptr 4 0), (7, .d (.int .i64 r134)), (8, .ptr 5 0), (9, .d (.int .i64 r143)), (49, .d (.bool x27))]) (H' := [.sl 4 (List.map e_SPoint ([(⟨0, 1, 0, 1⟩ : SPoint), (⟨2, 1, 4, 1⟩ : SPoint), (⟨3, 1, 5, 1⟩ : SPoint)] : List SPoint)) true, .box [.ref 0 (List.length ([(⟨0, 1, 0, 1⟩ : SPoint), (⟨2, 1, 4, 1⟩ : SPoint), (⟨3, 1, 5, 1⟩ : SPoint)] : List SPoint)) 0 (List.length ([(⟨0, 1, 0, 1⟩ : SPoint), (⟨2, 1, 4, 1⟩ : SPoint), (⟨3, 1, 5, 1⟩ : SPoint)] : List SPoint))], .box [.d (.int .i64 r11), .d (.int .i64 r13)], .box [.d (.int .i64 r111), .d (.int .i64 r131)], .box [.d (.lit (List.map e_SPoint r121))], .box [.d (.lit (List.map e_SPoint r135))]]) (fun x27 => ?_) (fun F hj10 => ?_)
  ·refine aTakeL (i := 6) (st' := []) (.d (.bool x27)) rfl (by kernel_rfl) (by kernel_rfl) (by kernel_rfl) (by kernel_rfl) (by kernel_rfl) (by kernel_rfl) (by kernel_rfl) (PureV.quiet (p_move (by kernel_rfl)) []) ?_
   refine dMeetF [9, 8, 7, 6, 5, 4, 3, 2, 1, 0] (fun (x28 : Bool) => [(2, .ptr 2 0), (4, .ptr 3 0), (6, .ptr 4 0), (8, .ptr 5 0), (9, .d (.int .i64 r143)), (53, .d (.bool x28))]) (fun (x28 : Bool) => [(2, .ptr 2 0), (4, .ptr 3 0), (6, .ptr 4 0), (8, .ptr 5 0), (9, .d (.int .i64 r143)), (53, .d (.bool x28))]) (H' := [.sl 4 (List.map e_SPoint ([(⟨0, 1, 0, 1⟩ : SPoint), (⟨2, 1, 4, 1⟩ : SPoint), (⟨3, 1, 5, 1⟩ : SPoint)] : List SPoint)) true, .box [.ref 0 (List.length ([(⟨0, 1, 0, 1⟩ : SPoint), (⟨2, 1, 4, 1⟩ : SPoint), (⟨3, 1, 5, 1⟩ : SPoint)] : List SPoint)) 0 (List.length ([(⟨0, 1, 0, 1⟩ : SPoint), (⟨2, 1, 4, 1⟩ : SPoint), (⟨3, 1, 5, 1⟩ : SPoint)] : List SPoint))], .box [.d (.int .i64 r11), .d (.int .i64 r13)], .box [.d (.int .i64 r111), .d (.int .i64 r131)], .box [.d (.lit (List.map e_SPoint r121))], .box [.d (.lit (List.map e_SPoint r135))]]) (fun x28 => ?_) (fun F hj11 => ?_)
   ·refine aTakeL (i := 10) (st' := []) (.d (.bool x28)) rfl (by kernel_rfl) (by kernel_rfl) (by kernel_rfl) (by kernel_rfl) (by kernel_rfl) (by kernel_rfl) (by kernel_rfl) (PureV.quiet (p_move (by kernel_rfl)) []) ?_
    refine dMeetF [13, 12, 11, 10, 9, 8, 7, 6, 5, 4, 3, 2, 1, 0] (fun (x29 : Bool) => [(2, .ptr 2 0), (4, .ptr 3 0), (6, .ptr 4 0), (8, .ptr 5 0), (57, .d (.bool x29))]) (fun (x29 : Bool) => [(2, .ptr 2 0), (4, .ptr 3 0), (6, .ptr 4 0), (8, .ptr 5 0), (57, .d (.bool x29))]) (H' := [.sl 4 (List.map e_SPoint ([(⟨0, 1, 0, 1⟩ : SPoint), (⟨2, 1, 4, 1⟩ : SPoint), (⟨3, 1, 5, 1⟩ : SPoint)] : List SPoint)) true, .box [.ref 0 (List.length ([(⟨0, 1, 0, 1⟩ : SPoint), (⟨2, 1, 4, 1⟩ : SPoint), (⟨3, 1, 5, 1⟩ : SPoint)] : List SPoint)) 0 (List.length ([(⟨0, 1, 0, 1⟩ : SPoint), (⟨2, 1, 4, 1⟩ : SPoint), (⟨3, 1, 5, 1⟩ : SPoint)] : List SPoint))], .box [.d (.int .i64 r11), .d (.int .i64 r13)], .box [.d (.int .i64 r111), .d (.int .i64 r131)], .box [.d (.lit (List.map e_SPoint r121))], .box [.d (.lit (List.map e_SPoint r135))]]) (fun x29 => ?_) (fun F hj12 => ?_)
    ·refine aTakeL (i := 14) (st' := []) (.d (.bool x29)) rfl (by kernel_rfl) (by kernel_rfl) (by kernel_rfl) (by kernel_rfl) (by kernel_rfl) (by kernel_rfl) (by kernel_rfl) (PureV.quiet (p_move (by kernel_rfl)) []) ?_
     refine dMeet [18, 17, 16, 15, 14, 13, 12, 11, 10, 9, 8, 7, 6, 5, 4, 3, 2, 1, 0] (fun (x30 : Bool) => [(4, .ptr 3 0), (6, .ptr 4 0), (8, .ptr 5 0), (62, .d (.bool x30))]) (fun (x30 : Bool) => [(4, .ptr 3 0), (6, .ptr 4 0), (8, .ptr 5 0), (62, .d (.bool x30))]) (fun _ => [.sl 4 (List.map e_SPoint ([(⟨0, 1, 0, 1⟩ : SPoint), (⟨2, 1, 4, 1⟩ : SPoint), (⟨3, 1, 5, 1⟩ : SPoint)] : List SPoint)) true, .box [.ref 0 (List.length ([(⟨0, 1, 0, 1⟩ : SPoint), (⟨2, 1, 4, 1⟩ : SPoint), (⟨3, 1, 5, 1⟩ : SPoint)] : List SPoint)) 0 (List.length ([(⟨0, 1, 0, 1⟩ : SPoint), (⟨2, 1, 4, 1⟩ : SPoint), (⟨3, 1, 5, 1⟩ : SPoint)] : List SPoint))], .box [.d (.int .i64 r11), .d (.int .i64 r13)], .box [.d (.int .i64 r111), .d (.int .i64 r131)], .box [.d (.lit (List.map e_SPoint r121))], .box [.d (.lit (List.map e_SPoint r135))]]) (fun s => s) (fun x30 => ?_) (fun hj13 => ?_)
     ·refine aTakeL (i := 19) (st' := []) (.d (.bool x30)) rfl (by kernel_rfl) (by kernel_rfl) (by kernel_rfl) (by kernel_rfl) (by kernel_rfl) (by kernel_rfl) (by kernel_rfl) (PureV.quiet (p_move (by kernel_rfl)) []) ?_
      refine dMeet [23, 22, 21, 20, 19, 18, 17, 16, 15, 14, 13, 12, 11, 10, 9, 8, 7, 6, 5, 4, 3, 2, 1, 0] (fun (x31 : Bool) => [(6, .ptr 4 0), (8, .ptr 5 0), (67, .d (.bool x31))]) (fun (x31 : Bool) => [(6, .ptr 4 0), (8, .ptr 5 0), (67, .d (.bool x31))]) (fun _ => [.sl 4 (List.map e_SPoint ([(⟨0, 1, 0, 1⟩ : SPoint), (⟨2, 1, 4, 1⟩ : SPoint), (⟨3, 1, 5, 1⟩ : SPoint)] : List SPoint)) true, .box [.ref 0 (List.length ([(⟨0, 1, 0, 1⟩ : SPoint), (⟨2, 1, 4, 1⟩ : SPoint), (⟨3, 1, 5, 1⟩ : SPoint)] : List SPoint)) 0 (List.length ([(⟨0, 1, 0, 1⟩ : SPoint), (⟨2, 1, 4, 1⟩ : SPoint), (⟨3, 1, 5, 1⟩ : SPoint)] : List SPoint))], .box [.d (.int .i64 r11), .d (.int .i64 r13)], .box [.d (.int .i64 r111), .d (.int .i64 r131)], .box [.d (.lit (List.map e_SPoint r121))], .box [.d (.lit (List.map e_SPoint r135))]]) (fun s => s) (fun x31 => ?_) (fun hj14 => ?_)
      ·refine aTakeL (i := 24) (st' := []) (.d (.bool x31)) rfl (by kernel_rfl) (by kernel_rfl) (by kernel_rfl) (by kernel_rfl) (by kernel_rfl) (by kernel_rfl) (by kernel_rfl) (PureV.quiet (p_move (by kernel_rfl)) []) ?_
       refine dMeetF [29, 28, 27, 26, 25, 24, 23, 22, 21, 20, 19, 18, 17, 16, 15, 14, 13, 12, 11, 10, 9, 8, 7, 6, 5, 4, 3, 2, 1, 0] (fun (x32 : Bool) => [(6, .ptr 4 0), (8, .ptr 5 0), (73, .d (.bool x32))]) (fun (x32 : Bool) => [(6, .ptr 4 0), (8, .ptr 5 0), (73, .d (.bool x32))]) (H' := [.sl 4 (List.map e_SPoint ([(⟨0, 1, 0, 1⟩ : SPoint), (⟨2, 1, 4, 1⟩ : SPoint), (⟨3, 1, 5, 1⟩ : SPoint)] : List SPoint)) true, .box [.ref 0 (List.length ([(⟨0, 1, 0, 1⟩ : SPoint), (⟨2, 1, 4, 1⟩ : SPoint), (⟨3, 1, 5, 1⟩ : SPoint)] : List SPoint)) 0 (List.length ([(⟨0, 1, 0, 1⟩ : SPoint), (⟨2, 1, 4, 1⟩ : SPoint), (⟨3, 1, 5, 1⟩ : SPoint)] : List SPoint))], .box [.d (.int .i64 r11), .d (.int .i64 r13)], .box [.d (.int .i64 r111), .d (.int .i64 r131)], .box [.d (.lit (List.map e_SPoint r121))], .box [.d (.lit (List.map e_SPoint r135))]]) (fun x32 => ?_) (fun F hj15 => ?_)
       ·refine aTakeL (i := 30) (st' := []) (.d (.bool x32)) rfl (by kernel_rfl) (by kernel_rfl) (by kernel_rfl) (by kernel_rfl) (by kernel_rfl) (by kernel_rfl) (by kernel_rfl) (PureV.quiet (p_move (by kernel_rfl)) []) ?_
        refine dMeet [39, 38, 37, 36, 35, 34, 33, 32, 31, 30, 29, 28, 27, 26, 25, 24, 23, 22, 21, 20, 19, 18, 17, 16, 15, 14, 13, 12, 11, 10, 9, 8, 7, 6, 5, 4, 3, 2, 1, 0] (fun (x33 : Bool) => [(8, .ptr 5 0), (83, .d (.bool x33))]) (fun (x33 : Bool) => [(8, .ptr 5 0), (83, .d (.bool x33))]) (fun _ => [.sl 4 (List.map e_SPoint ([(⟨0, 1, 0, 1⟩ : SPoint), (⟨2, 1, 4, 1⟩ : SPoint), (⟨3, 1, 5, 1⟩ : SPoint)] : List SPoint)) true, .box [.ref 0 (List.length ([(⟨0, 1, 0, 1⟩ : SPoint), (⟨2, 1, 4, 1⟩ : SPoint), (⟨3, 1, 5, 1⟩ : SPoint)] : List SPoint)) 0 (List.length ([(⟨0, 1, 0, 1⟩ : SPoint), (⟨2, 1, 4, 1⟩ : SPoint), (⟨3, 1, 5, 1⟩ : SPoint)] : List SPoint))], .box [.d (.int .i64 r11), .d (.int .i64 r13)], .box [.d (.int .i64 r111), .d (.int .i64 r131)], .box [.d (.lit (List.map e_SPoint r121))], .box [.d (.lit (List.map e_SPoint r135))]]) (fun s => s) (fun x33 => ?_) (fun hj16 => ?_)
        ·refine aTakeL (i := 40) (st' := []) (.d (.bool x33)) rfl (by kernel_rfl) (by kernel_rfl) (by kernel_rfl) (by kernel_rfl) (by kernel_rfl) (by kernel_rfl) (by kernel_rfl) (PureV.quiet (p_move (by kernel_rfl)) []) ?_
         refine dMeetF [45, 44, 43, 42, 41, 40, 39, 38, 37, 36, 35, 34, 33, 32, 31, 30, 29, 28, 27, 26, 25, 24, 23, 22, 21, 20, 19, 18, 17, 16, 15, 14, 13, 12, 11, 10, 9, 8, 7, 6, 5, 4, 3, 2, 1, 0] (fun (x34 : Bool) => [(8, .ptr 5 0), (89, .d (.bool x34))]) (fun (x34 : Bool) => [(8, .ptr 5 0), (89, .d (.bool x34))]) (H' := [.sl 4 (List.map e_SPoint ([(⟨0, 1, 0, 1⟩ : SPoint), (⟨2, 1, 4, 1⟩ : SPoint), (⟨3, 1, 5, 1⟩ : SPoint)] : List SPoint)) true, .box [.ref 0 (List.length ([(⟨0, 1, 0, 1⟩ : SPoint), (⟨2, 1, 4, 1⟩ : SPoint), (⟨3, 1, 5, 1⟩ : SPoint)] : List SPoint)) 0 (List.length ([(⟨0, 1, 0, 1⟩ : SPoint), (⟨2, 1, 4, 1⟩ : SPoint), (⟨3, 1, 5, 1⟩ : SPoint)] : List SPoint))], .box [.d (.int .i64 r11), .d (.int .i64 r13)], .box [.d (.int .i64 r111), .d (.int .i64 r131)], .box [.d (.lit (List.map e_SPoint r121))], .box [.d (.lit (List.map e_SPoint r135))]]) (fun x34 => ?_) (fun F hj17 => ?_)
         ·refine aTakeL (i := 46) (st' := []) (.d (.bool x34)) rfl (by kernel_rfl) (by kernel_rfl) (by kernel_rfl) (by kernel_rfl) (by kernel_rfl) (by kernel_rfl) (by kernel_rfl) (PureV.quiet (p_move (by kernel_rfl)) []) ?_
          refine dMeet [55, 54, 53, 52, 51, 50, 49, 48, 47, 46, 45, 44, 43, 42, 41, 40, 39, 38, 37, 36, 35, 34, 33, 32, 31, 30, 29, 28, 27, 26, 25, 24, 23, 22, 21, 20, 19, 18, 17, 16, 15, 14, 13, 12, 11, 10, 9, 8, 7, 6, 5, 4, 3, 2, 1, 0] (fun (x35 : Bool) => [(99, .d (.bool x35))]) (fun (x35 : Bool) => [(99, .d (.bool x35))]) (fun _ => [.sl 4 (List.map e_SPoint ([(⟨0, 1, 0, 1⟩ : SPoint), (⟨2, 1, 4, 1⟩ : SPoint), (⟨3, 1, 5, 1⟩ : SPoint)] : List SPoint)) true, .box [.ref 0 (List.length ([(⟨0, 1, 0, 1⟩ : SPoint), (⟨2, 1, 4, 1⟩ : SPoint), (⟨3, 1, 5, 1⟩ : SPoint)] : List SPoint)) 0 (List.length ([(⟨0, 1, 0, 1⟩ : SPoint), (⟨2, 1, 4, 1⟩ : SPoint), (⟨3, 1, 5, 1⟩ : SPoint)] : List SPoint))], .box [.d (.int .i64 r11), .d (.int .i64 r13)], .box [.d (.int .i64 r111), .d (.int .i64 r131)], .box [.d (.lit (List.map e_SPoint r121))], .box [.d (.lit (List.map e_SPoint r135))]]) (fun s => s) (fun x35 => ?_) (fun hj18 => ?_)
          ·refine aTakeL (i := 56) (st' := []) (.d (.bool x35)) rfl (by kernel_rfl) (by kernel_rfl) (by kernel_rfl) (by kernel_rfl) (by kernel_rfl) (by kernel_rfl) (by kernel_rfl) (PureV.quiet (p_assign (by kernel_rfl)) []) ?_
           refine aDone (by kernel_rfl) ?_
           exact oRet (r0 := x35) (rv := .d (.bool x35)) (B := []) (vs := [.d (.bool x35)]) (σ := []) (by kernel_rfl) Try.func7 rfl (.cons _ _ _ _ (.tmp 0 _ (by kernel_rfl)) .nil) (by kernel_rfl) (by kernel_rfl) (by kernel_rfl) (by kernel_rfl) (by decide) (by kernel_rfl) (by kernel_rfl)
          ·refine dSplit 90 (by kernel_rfl) (by kernel_rfl) (fun hc => ?_) (fun hc => ?_)
           ·refine aTakeL (i := 47) (st' := []) (.ptr 5 0) rfl (by kernel_rfl) (by kernel_rfl) (by kernel_rfl) (by kernel_rfl) (by kernel_rfl) (by kernel_rfl) (by kernel_rfl) (PureV.quiet (k_fieldAddr 5 0 (by kernel_rfl) Try.underlying29 rfl ty27 (by kernel_rfl)) []) ?_
            refine aTakeL (i := 48) (st' := [5]) (.d (.lit (List.map e_SPoint r135))) rfl (by kernel_rfl) (by kernel_rfl) (by kernel_rfl) (by kernel_rfl) (by kernel_rfl) (by kernel_rfl) (by kernel_rfl) (k_load 5 0 (by kernel_rfl) Try.underlying27 (by kernel_rfl) (by kernel_rfl)) ?_
            refine dIdx (fun e11 h12 h13 => ?_)
            refine aTakeL (i := 49) (st' := []) (.lptr (e_SPoint e11) 0) rfl (by kernel_rfl) (by kernel_rfl) (by kernel_rfl) (by kernel_rfl) (by kernel_rfl) (by kernel_rfl) (by kernel_rfl) (PureV.quiet (k_idxLit e_SPoint_len r135 (a := e11) (by kernel_rfl) (k := .i64) (i := 1) (by kernel_rfl) Try.underlying27 ty39 h12 h13) []) ?_
            refine aTakeL (i := 50) (st' := []) (.agg [.d (.int .i64 e11.X_Num), .d (.int .i64 e11.X_Den), .d (.int .i64 e11.Y_Num), .d (.int .i64 e11.Y_Den)]) rfl (by kernel_rfl) (by kernel_rfl) (by kernel_rfl) (by kernel_rfl) (by kernel_rfl) (by kernel_rfl) (by kernel_rfl) (k_loadLAgg (cells := e_SPoint e11) 0 [(.int .i64 e11.X_Num), (.int .i64 e11.X_Den), (.int .i64 e11.Y_Num), (.int .i64 e11.Y_Den)] (by kernel_rfl) Try.underlying39 (by kernel_rfl) ty39 (by kernel_rfl) (by kernel_rfl) (by kernel_rfl)) ?_
            refine dCall (i := 51) (caps := []) (v := (u0 ((.agg [.d (.int .i64 1), .d (.int .i64 1)] : V)))) (H' := (u0 (([.sl 4 (List.map e_SPoint ([(⟨0, 1, 0, 1⟩ : SPoint), (⟨2, 1, 4, 1⟩ : SPoint), (⟨3, 1, 5, 1⟩ : SPoint)] : List SPoint)) true, .box [.ref 0 (List.length ([(⟨0, 1, 0, 1⟩ : SPoint), (⟨2, 1, 4, 1⟩ : SPoint), (⟨3, 1, 5, 1⟩ : SPoint)] : List SPoint)) 0 (List.length ([(⟨0, 1, 0, 1⟩ : SPoint), (⟨2, 1, 4, 1⟩ : SPoint), (⟨3, 1, 5, 1⟩ : SPoint)] : List SPoint))], .box [.d (.int .i64 r11), .d (.int .i64 r13)], .box [.d (.int .i64 r111), .d (.int .i64 r131)], .box [.d (.lit (List.map e_SPoint r121))], .box [.d (.lit (List.map e_SPoint r135))]] : List Blk)))) [] _ (law33_whole_goes k 1) rfl (by kernel_rfl) (by kernel_rfl) (by kernel_rfl) (by kernel_rfl) (by kernel_rfl) (by kernel_rfl) (by kernel_rfl) (by kernel_rfl) rfl (by kernel_rfl) Try.func18 rfl (by kernel_rfl) (ConvRs.refl _ _) (by kernel_rfl) (by kernel_rfl) (by kernel_rfl) (by decide) (by kernel_rfl) (by kernel_rfl) (fun _ => (by kernel_rfl)) (fun _ => (by kernel_rfl)) (fun _ => (by kernel_rfl)) (fun r => ?_)
            cases r
            refine dU0 ?_
            refine dCall (i := 52) (caps := []) (v := (u0 ((.agg [.d (.int .i64 3), .d (.int .i64 1)] : V)))) (H' := (u0 (([.sl 4 (List.map e_SPoint ([(⟨0, 1, 0, 1⟩ : SPoint), (⟨2, 1, 4, 1⟩ : SPoint), (⟨3, 1, 5, 1⟩ : SPoint)] : List SPoint)) true, .box [.ref 0 (List.length ([(⟨0, 1, 0, 1⟩ : SPoint), (⟨2, 1, 4, 1⟩ : SPoint), (⟨3, 1, 5, 1⟩ : SPoint)] : List SPoint)) 0 (List.length ([(⟨0, 1, 0, 1⟩ : SPoint), (⟨2, 1, 4, 1⟩ : SPoint), (⟨3, 1, 5, 1⟩ : SPoint)] : List SPoint))], .box [.d (.int .i64 r11), .d (.int .i64 r13)], .box [.d (.int .i64 r111), .d (.int .i64 r131)], .box [.d (.lit (List.map e_SPoint r121))], .box [.d (.lit (List.map e_SPoint r135))]] : List Blk)))) [] _ (law33_whole_goes k 3) rfl (by kernel_rfl) (by kernel_rfl) (by kernel_rfl) (by kernel_rfl) (by kernel_rfl) (by kernel_rfl) (by kernel_rfl) (by kernel_rfl) rfl (by kernel_rfl) Try.func18 rfl (by kernel_rfl) (ConvRs.refl _ _) (by kernel_rfl) (by kernel_rfl) (by kernel_rfl) (by decide) (by kernel_rfl) (by kernel_rfl) (fun _ => (by kernel_rfl)) (fun _ => (by kernel_rfl)) (fun _ => (by kernel_rfl)) (fun r => ?_)
            cases r
            refine dU0 ?_
            refine aTakeP (i := 53) (.agg [.d (.int .i64 1), .d (.int .i64 1), .d (.int .i64 3), .d (.int .i64 1)]) rfl (by kernel_rfl) (by kernel_rfl) (by kernel_rfl) (by kernel_rfl) (by kernel_rfl) (by kernel_rfl) (by kernel_rfl) (p_build bld39 (by kernel_rfl)) ?_
            refine aTakeP (i := 54) (.d (.bool (((e11.X_Num == 1) && ((e11.X_Den == 1) && true)) && (((e11.Y_Num == 3) && ((e11.Y_Den == 1) && true)) && true)))) rfl (by kernel_rfl) (by kernel_rfl) (by kernel_rfl) (by kernel_rfl) (by kernel_rfl) (by kernel_rfl) (by kernel_rfl) (k_eqAgg (by kernel_rfl) (by kernel_rfl) Try.eqGuardType39 (EqV.struct 2 39 [.d (.int .i64 e11.X_Num), .d (.int .i64 e11.X_Den), .d (.int .i64 e11.Y_Num), .d (.int .i64 e11.Y_Den)] [.d (.int .i64 1), .d (.int .i64 1), .d (.int .i64 3), .d (.int .i64 1)] _ (((e11.X_Num == 1) && ((e11.X_Den == 1) && true)) && (((e11.Y_Num == 3) && ((e11.Y_Den == 1) && true)) && true)) Try.underlying39 Try.stoodInHeld39 (EqF.agg 2 2 _ _ _ _ _ _ _ ((e11.X_Num == 1) && ((e11.X_Den == 1) && true)) (((e11.Y_Num == 3) && ((e11.Y_Den == 1) && true)) && true) _ _ _ (by kernel_rfl) Try.underlying37 (by kernel_rfl) ty37 (by kernel_rfl) (by kernel_rfl) (by kernel_rfl) (by kernel_rfl) (EqV.struct 1 37 [.d (.int .i64 e11.X_Num), .d (.int .i64 e11.X_Den)] [.d (.int .i64 1), .d (.int .i64 1)] _ ((e11.X_Num == 1) && ((e11.X_Den == 1) && true)) Try.underlying37 Try.stoodInHeld37 (EqF.one 1 1 _ _ _ _ _ _ _ (e11.X_Num == 1) ((e11.X_Den == 1) && true) (by kernel_rfl) Try.underlying3 (by kernel_rfl) (by kernel_rfl) (by kernel_rfl) (by kernel_rfl) (EqV.int 3 .i64 .i64 e11.X_Num 1 Try.underlying3) (EqF.one 1 1 _ _ _ _ _ _ _ (e11.X_Den == 1) true (by kernel_rfl) Try.underlying3 (by kernel_rfl) (by kernel_rfl) (by kernel_rfl) (by kernel_rfl) (EqV.int 3 .i64 .i64 e11.X_Den 1 Try.underlying3) (EqF.nil 1 _ _)))) (EqF.agg 2 2 _ _ _ _ _ _ _ ((e11.Y_Num == 3) && ((e11.Y_Den == 1) && true)) true _ _ _ (by kernel_rfl) Try.underlying37 (by kernel_rfl) ty37 (by kernel_rfl) (by kernel_rfl) (by kernel_rfl) (by kernel_rfl) (EqV.struct 1 37 [.d (.int .i64 e11.Y_Num), .d (.int .i64 e11.Y_Den)] [.d (.int .i64 3), .d (.int .i64 1)] _ ((e11.Y_Num == 3) && ((e11.Y_Den == 1) && true)) Try.underlying37 Try.stoodInHeld37 (EqF.one 1 1 _ _ _ _ _ _ _ (e11.Y_Num == 3) ((e11.Y_Den == 1) && true) (by kernel_rfl) Try.underlying3 (by kernel_rfl) (by kernel_rfl) (by kernel_rfl) (by kernel_rfl) (EqV.int 3 .i64 .i64 e11.Y_Num 3 Try.underlying3) (EqF.one 1 1 _ _ _ _ _ _ _ (e11.Y_Den == 1) true (by kernel_rfl) Try.underlying3 (by kernel_rfl) (by kernel_rfl) (by kernel_rfl) (by kernel_rfl) (EqV.int 3 .i64 .i64 e11.Y_Den 1 Try.underlying3) (EqF.nil 1 _ _)))) (EqF.nil 2 _ _)))) (by kernel_rfl)) ?_
            refine aTakeL (i := 55) (st' := []) (.d (.bool (((e11.X_Num == 1) && ((e11.X_Den == 1) && true)) && (((e11.Y_Num == 3) && ((e11.Y_Den == 1) && true)) && true)))) rfl (by kernel_rfl) (by kernel_rfl) (by kernel_rfl) (by kernel_rfl) (by kernel_rfl) (by kernel_rfl) (by kernel_rfl) (PureV.quiet (p_pick (b := true) (by kernel_rfl) (by kernel_rfl)) []) ?_
            refine dDrop [99] [99] (T' := [(99, .d (.bool (((e11.X_Num == 1) && ((e11.X_Den == 1) && true)) && (((e11.Y_Num == 3) && ((e11.Y_Den == 1) && true)) && true))))]) (U' := [(99, .d (.bool (((e11.X_Num == 1) && ((e11.X_Den == 1) && true)) && (((e11.Y_Num == 3) && ((e11.Y_Den == 1) && true)) && true))))]) (by kernel_rfl) (by kernel_rfl) ?_
            exact hj18 (((e11.X_Num == 1) && ((e11.X_Den == 1) && true)) && (((e11.Y_Num == 3) && ((e11.Y_Den == 1) && true)) && true))
           ·refine aTakeNot (i := 47) rfl (by kernel_rfl) (by kernel_rfl) (by kernel_rfl) (by kernel_rfl) (by kernel_rfl) (by kernel_rfl) (by kernel_rfl) ?_
            refine aTakeNot (i := 48) rfl (by kernel_rfl) (by kernel_rfl) (by kernel_rfl) (by kernel_rfl) (by kernel_rfl) (by kernel_rfl) (by kernel_rfl) ?_
            refine aTakeNot (i := 49) rfl (by kernel_rfl) (by kernel_rfl) (by kernel_rfl) (by kernel_rfl) (by kernel_rfl) (by kernel_rfl) (by kernel_rfl) ?_
            refine aTakeNot (i := 50) rfl (by kernel_rfl) (by kernel_rfl) (by kernel_rfl) (by kernel_rfl) (by kernel_rfl) (by kernel_rfl) (by kernel_rfl) ?_
            refine aTakeNot (i := 51) rfl (by kernel_rfl) (by kernel_rfl) (by kernel_rfl) (by kernel_rfl) (by kernel_rfl) (by kernel_rfl) (by kernel_rfl) ?_
            refine aTakeNot (i := 52) rfl (by kernel_rfl) (by kernel_rfl) (by kernel_rfl) (by kernel_rfl) (by kernel_rfl) (by kernel_rfl) (by kernel_rfl) ?_
            refine aTakeNot (i := 53) rfl (by kernel_rfl) (by kernel_rfl) (by kernel_rfl) (by kernel_rfl) (by kernel_rfl) (by kernel_rfl) (by kernel_rfl) ?_
            refine aTakeNot (i := 54) rfl (by kernel_rfl) (by kernel_rfl) (by kernel_rfl) (by kernel_rfl) (by kernel_rfl) (by kernel_rfl) (by kernel_rfl) ?_
            refine aTakeL (i := 55) (st' := []) (.d (.bool false)) rfl (by kernel_rfl) (by kernel_rfl) (by kernel_rfl) (by kernel_rfl) (by kernel_rfl) (by kernel_rfl) (by kernel_rfl) (PureV.quiet (p_pick (b := false) (by kernel_rfl) (by kernel_rfl)) []) ?_
            refine dDrop [99] [99] (T' := [(99, .d (.bool false))]) (U' := [(99, .d (.bool false))]) (by kernel_rfl) (by kernel_rfl) ?_
            exact hj18 false
         ·refine dPickF 84 (fun c => F (c && (((List.length r135) : Int) == 2))) (by kernel_rfl) (by kernel_rfl) (fun hc => ?_) (fun hc => ?_)
          ·refine aTakeL (i := 41) (st' := []) (.ptr 5 0) rfl (by kernel_rfl) (by kernel_rfl) (by kernel_rfl) (by kernel_rfl) (by kernel_rfl) (by kernel_rfl) (by kernel_rfl) (PureV.quiet (k_fieldAddr 5 0 (by kernel_rfl) Try.underlying29 rfl ty27 (by kernel_rfl)) []) ?_
           refine aTakeL (i := 42) (st' := [5]) (.d (.lit (List.map e_SPoint r135))) rfl (by kernel_rfl) (by kernel_rfl) (by kernel_rfl) (by kernel_rfl) (by kernel_rfl) (by kernel_rfl) (by kernel_rfl) (k_load 5 0 (by kernel_rfl) Try.underlying27 (by kernel_rfl) (by kernel_rfl)) ?_
           refine aTakeL (i := 43) (st' := []) (.d (.int .i64 ((List.length r135) : Int))) rfl (by kernel_rfl) (by kernel_rfl) (by kernel_rfl) (by kernel_rfl) (by kernel_rfl) (by kernel_rfl) (by kernel_rfl) (PureV.quiet (k_lenLit (enc := e_SPoint) r135 (by kernel_rfl) Try.underlying27) []) ?_
           refine aTakeL (i := 44) (st' := []) (.d (.bool (((List.length r135) : Int) == 2))) rfl (by kernel_rfl) (by kernel_rfl) (by kernel_rfl) (by kernel_rfl) (by kernel_rfl) (by kernel_rfl) (by kernel_rfl) (PureV.quiet (p_int (k := .i64) (p := ((List.length r135) : Int)) (q := 2) (by kernel_rfl) (by kernel_rfl) (by kernel_rfl)) []) ?_
           refine aTakeL (i := 45) (st' := []) (.d (.bool (((List.length r135) : Int) == 2))) rfl (by kernel_rfl) (by kernel_rfl) (by kernel_rfl) (by kernel_rfl) (by kernel_rfl) (by kernel_rfl) (by kernel_rfl) (PureV.quiet (p_pick (b := true) (by kernel_rfl) (by kernel_rfl)) []) ?_
           refine dDrop [8, 89] [8, 89] (T' := [(8, .ptr 5 0), (89, .d (.bool (((List.length r135) : Int) == 2)))]) (U' := [(8, .ptr 5 0), (89, .d (.bool (((List.length r135) : Int) == 2)))]) (by kernel_rfl) (by kernel_rfl) ?_
           exact hj17 (((List.length r135) : Int) == 2)
          ·refine aTakeNot (i := 41) rfl (by kernel_rfl) (by kernel_rfl) (by kernel_rfl) (by kernel_rfl) (by kernel_rfl) (by kernel_rfl) (by kernel_rfl) ?_
           refine aTakeNot (i := 42) rfl (by kernel_rfl) (by kernel_rfl) (by kernel_rfl) (by kernel_rfl) (by kernel_rfl) (by kernel_rfl) (by kernel_rfl) ?_
           refine aTakeNot (i := 43) rfl (by kernel_rfl) (by kernel_rfl) (by kernel_rfl) (by kernel_rfl) (by kernel_rfl) (by kernel_rfl) (by kernel_rfl) ?_
           refine aTakeNot (i := 44) rfl (by kernel_rfl) (by kernel_rfl) (by kernel_rfl) (by kernel_rfl) (by kernel_rfl) (by kernel_rfl) (by kernel_rfl) ?_
           refine aTakeL (i := 45) (st' := []) (.d (.bool false)) rfl (by kernel_rfl) (by kernel_rfl) (by kernel_rfl) (by kernel_rfl) (by kernel_rfl) (by kernel_rfl) (by kernel_rfl) (PureV.quiet (p_pick (b := false) (by kernel_rfl) (by kernel_rfl)) []) ?_
           refine dDrop [8, 89] [8, 89] (T' := [(8, .ptr 5 0), (89, .d (.bool false))]) (U' := [(8, .ptr 5 0), (89, .d (.bool false))]) (by kernel_rfl) (by kernel_rfl) ?_
           exact hj17 false
        ·refine dSplit 74 (by kernel_rfl) (by kernel_rfl) (fun hc => ?_) (fun hc => ?_)
         ·refine aTakeL (i := 31) (st' := []) (.ptr 4 0) rfl (by kernel_rfl) (by kernel_rfl) (by kernel_rfl) (by kernel_rfl) (by kernel_rfl) (by kernel_rfl) (by kernel_rfl) (PureV.quiet (k_fieldAddr 4 0 (by kernel_rfl) Try.underlying29 rfl ty27 (by kernel_rfl)) []) ?_
          refine aTakeL (i := 32) (st' := [4]) (.d (.lit (List.map e_SPoint r121))) rfl (by kernel_rfl) (by kernel_rfl) (by kernel_rfl) (by kernel_rfl) (by kernel_rfl) (by kernel_rfl) (by kernel_rfl) (k_load 4 0 (by kernel_rfl) Try.underlying27 (by kernel_rfl) (by kernel_rfl)) ?_
          refine dIdx (fun e1 h1 h11 => ?_)
          refine aTakeL (i := 33) (st' := []) (.lptr (e_SPoint e1) 0) rfl (by kernel_rfl) (by kernel_rfl) (by kernel_rfl) (by kernel_rfl) (by kernel_rfl) (by kernel_rfl) (by kernel_rfl) (PureV.quiet (k_idxLit e_SPoint_len r121 (a := e1) (by kernel_rfl) (k := .i64) (i := 0) (by kernel_rfl) Try.underlying27 ty39 h1 h11) []) ?_
          refine aTakeL (i := 34) (st' := []) (.agg [.d (.int .i64 e1.X_Num), .d (.int .i64 e1.X_Den), .d (.int .i64 e1.Y_Num), .d (.int .i64 e1.Y_Den)]) rfl (by kernel_rfl) (by kernel_rfl) (by kernel_rfl) (by kernel_rfl) (by kernel_rfl) (by kernel_rfl) (by kernel_rfl) (k_loadLAgg (cells := e_SPoint e1) 0 [(.int .i64 e1.X_Num), (.int .i64 e1.X_Den), (.int .i64 e1.Y_Num), (.int .i64 e1.Y_Den)] (by kernel_rfl) Try.underlying39 (by kernel_rfl) ty39 (by kernel_rfl) (by kernel_rfl) (by kernel_rfl)) ?_
          refine dCall (i := 35) (caps := []) (v := (u0 ((.agg [.d (.int .i64 1), .d (.int .i64 1)] : V)))) (H' := (u0 (([.sl 4 (List.map e_SPoint ([(⟨0, 1, 0, 1⟩ : SPoint), (⟨2, 1, 4, 1⟩ : SPoint), (⟨3, 1, 5, 1⟩ : SPoint)] : List SPoint)) true, .box [.ref 0 (List.length ([(⟨0, 1, 0, 1⟩ : SPoint), (⟨2, 1, 4, 1⟩ : SPoint), (⟨3, 1, 5, 1⟩ : SPoint)] : List SPoint)) 0 (List.length ([(⟨0, 1, 0, 1⟩ : SPoint), (⟨2, 1, 4, 1⟩ : SPoint), (⟨3, 1, 5, 1⟩ : SPoint)] : List SPoint))], .box [.d (.int .i64 r11), .d (.int .i64 r13)], .box [.d (.int .i64 r111), .d (.int .i64 r131)], .box [.d (.lit (List.map e_SPoint r121))], .box [.d (.lit (List.map e_SPoint r135))]] : List Blk)))) [] _ (law33_whole_goes k 1) rfl (by kernel_rfl) (by kernel_rfl) (by kernel_rfl) (by kernel_rfl) (by kernel_rfl) (by kernel_rfl) (by kernel_rfl) (by kernel_rfl) rfl (by kernel_rfl) Try.func18 rfl (by kernel_rfl) (ConvRs.refl _ _) (by kernel_rfl) (by kernel_rfl) (by kernel_rfl) (by decide) (by kernel_rfl) (by kernel_rfl) (fun _ => (by kernel_rfl)) (fun _ => (by kernel_rfl)) (fun _ => (by kernel_rfl)) (fun r => ?_)
          cases r
          refine dU0 ?_
          refine dCall (i := 36) (caps := []) (v := (u0 ((.agg [.d (.int .i64 2), .d (.int .i64 1)] : V)))) (H' := (u0 (([.sl 4 (List.map e_SPoint ([(⟨0, 1, 0, 1⟩ : SPoint), (⟨2, 1, 4, 1⟩ : SPoint), (⟨3, 1, 5, 1⟩ : SPoint)] : List SPoint)) true, .box [.ref 0 (List.length ([(⟨0, 1, 0, 1⟩ : SPoint), (⟨2, 1, 4, 1⟩ : SPoint), (⟨3, 1, 5, 1⟩ : SPoint)] : List SPoint)) 0 (List.length ([(⟨0, 1, 0, 1⟩ : SPoint), (⟨2, 1, 4, 1⟩ : SPoint), (⟨3, 1, 5, 1⟩ : SPoint)] : List SPoint))], .box [.d (.int .i64 r11), .d (.int .i64 r13)], .box [.d (.int .i64 r111), .d (.int .i64 r131)], .box [.d (.lit (List.map e_SPoint r121))], .box [.d (.lit (List.map e_SPoint r135))]] : List Blk)))) [] _ (law33_whole_goes k 2) rfl (by kernel_rfl) (by kernel_rfl) (by kernel_rfl) (by kernel_rfl) (by kernel_rfl) (by kernel_rfl) (by kernel_rfl) (by kernel_rfl) rfl (by kernel_rfl) Try.func18 rfl (by kernel_rfl) (ConvRs.refl _ _) (by kernel_rfl) (by kernel_rfl) (by kernel_rfl) (by decide) (by kernel_rfl) (by kernel_rfl) (fun _ => (by kernel_rfl)) (fun _ => (by kernel_rfl)) (fun _ => (by kernel_rfl)) (fun r => ?_)
          cases r
          refine dU0 ?_
          refine aTakeP (i := 37) (.agg [.d (.int .i64 1), .d (.int .i64 1), .d (.int .i64 2), .d (.int .i64 1)]) rfl (by kernel_rfl) (by kernel_rfl) (by kernel_rfl) (by kernel_rfl) (by kernel_rfl) (by kernel_rfl) (by kernel_rfl) (p_build bld39 (by kernel_rfl)) ?_
          refine aTakeP (i := 38) (.d (.bool (((e1.X_Num == 1) && ((e1.X_Den == 1) && true)) && (((e1.Y_Num == 2) && ((e1.Y_Den == 1) && true)) && true)))) rfl (by kernel_rfl) (by kernel_rfl) (by kernel_rfl) (by kernel_rfl) (by kernel_rfl) (by kernel_rfl) (by kernel_rfl) (k_eqAgg (by kernel_rfl) (by kernel_rfl) Try.eqGuardType39 (EqV.struct 2 39 [.d (.int .i64 e1.X_Num), .d (.int .i64 e1.X_Den), .d (.int .i64 e1.Y_Num), .d (.int .i64 e1.Y_Den)] [.d (.int .i64 1), .d (.int .i64 1), .d (.int .i64 2), .d (.int .i64 1)] _ (((e1.X_Num == 1) && ((e1.X_Den == 1) && true)) && (((e1.Y_Num == 2) && ((e1.Y_Den == 1) && true)) && true)) Try.underlying39 Try.stoodInHeld39 (EqF.agg 2 2 _ _ _ _ _ _ _ ((e1.X_Num == 1) && ((e1.X_Den == 1) && true)) (((e1.Y_Num == 2) && ((e1.Y_Den == 1) && true)) && true) _ _ _ (by kernel_rfl) Try.underlying37 (by kernel_rfl) ty37 (by kernel_rfl) (by kernel_rfl) (by kernel_rfl) (by kernel_rfl) (EqV.struct 1 37 [.d (.int .i64 e1.X_Num), .d (.int .i64 e1.X_Den)] [.d (.int .i64 1), .d (.int .i64 1)] _ ((e1.X_Num == 1) && ((e1.X_Den == 1) && true)) Try.underlying37 Try.stoodInHeld37 (EqF.one 1 1 _ _ _ _ _ _ _ (e1.X_Num == 1) ((e1.X_Den == 1) && true) (by kernel_rfl) Try.underlying3 (by kernel_rfl) (by kernel_rfl) (by kernel_rfl) (by kernel_rfl) (EqV.int 3 .i64 .i64 e1.X_Num 1 Try.underlying3) (EqF.one 1 1 _ _ _ _ _ _ _ (e1.X_Den == 1) true (by kernel_rfl) Try.underlying3 (by kernel_rfl) (by kernel_rfl) (by kernel_rfl) (by kernel_rfl) (EqV.int 3 .i64 .i64 e1.X_Den 1 Try.underlying3) (EqF.nil 1 _ _)))) (EqF.agg 2 2 _ _ _ _ _ _ _ ((e1.Y_Num == 2) && ((e1.Y_Den == 1) && true)) true _ _ _ (by kernel_rfl) Try.underlying37 (by kernel_rfl) ty37 (by kernel_rfl) (by kernel_rfl) (by kernel_rfl) (by kernel_rfl) (EqV.struct 1 37 [.d (.int .i64 e1.Y_Num), .d (.int .i64 e1.Y_Den)] [.d (.int .i64 2), .d (.int .i64 1)] _ ((e1.Y_Num == 2) && ((e1.Y_Den == 1) && true)) Try.underlying37 Try.stoodInHeld37 (EqF.one 1 1 _ _ _ _ _ _ _ (e1.Y_Num == 2) ((e1.Y_Den == 1) && true) (by kernel_rfl) Try.underlying3 (by kernel_rfl) (by kernel_rfl) (by kernel_rfl) (by kernel_rfl) (EqV.int 3 .i64 .i64 e1.Y_Num 2 Try.underlying3) (EqF.one 1 1 _ _ _ _ _ _ _ (e1.Y_Den == 1) true (by kernel_rfl) Try.underlying3 (by kernel_rfl) (by kernel_rfl) (by kernel_rfl) (by kernel_rfl) (EqV.int 3 .i64 .i64 e1.Y_Den 1 Try.underlying3) (EqF.nil 1 _ _)))) (EqF.nil 2 _ _)))) (by kernel_rfl)) ?_
          refine aTakeL (i := 39) (st' := []) (.d (.bool (((e1.X_Num == 1) && ((e1.X_Den == 1) && true)) && (((e1.Y_Num == 2) && ((e1.Y_Den == 1) && true)) && true)))) rfl (by kernel_rfl) (by kernel_rfl) (by kernel_rfl) (by kernel_rfl) (by kernel_rfl) (by kernel_rfl) (by kernel_rfl) (PureV.quiet (p_pick (b := true) (by kernel_rfl) (by kernel_rfl)) []) ?_
          refine dDrop [8, 83] [8, 83] (T' := [(8, .ptr 5 0), (83, .d (.bool (((e1.X_Num == 1) && ((e1.X_Den == 1) && true)) && (((e1.Y_Num == 2) && ((e1.Y_Den == 1) && true)) && true))))]) (U' := [(8, .ptr 5 0), (83, .d (.bool (((e1.X_Num == 1) && ((e1.X_Den == 1) && true)) && (((e1.Y_Num == 2) && ((e1.Y_Den == 1) && true)) && true))))]) (by kernel_rfl) (by kernel_rfl) ?_
          exact hj16 (((e1.X_Num == 1) && ((e1.X_Den == 1) && true)) && (((e1.Y_Num == 2) && ((e1.Y_Den == 1) && true)) && true))
         ·refine aTakeNot (i := 31) rfl (by kernel_rfl) (by kernel_rfl) (by kernel_rfl) (by kernel_rfl) (by kernel_rfl) (by kernel_rfl) (by kernel_rfl) ?_
          refine aTakeNot (i := 32) rfl (by kernel_rfl) (by kernel_rfl) (by kernel_rfl) (by kernel_rfl) (by kernel_rfl) (by kernel_rfl) (by kernel_rfl) ?_
          refine aTakeNot (i := 33) rfl (by kernel_rfl) (by kernel_rfl) (by kernel_rfl) (by kernel_rfl) (by kernel_rfl) (by kernel_rfl) (by kernel_rfl) ?_
          refine aTakeNot (i := 34) rfl (by kernel_rfl) (by kernel_rfl) (by kernel_rfl) (by kernel_rfl) (by kernel_rfl) (by kernel_rfl) (by kernel_rfl) ?_
          refine aTakeNot (i := 35) rfl (by kernel_rfl) (by kernel_rfl) (by kernel_rfl) (by kernel_rfl) (by kernel_rfl) (by kernel_rfl) (by kernel_rfl) ?_
          refine aTakeNot (i := 36) rfl (by kernel_rfl) (by kernel_rfl) (by kernel_rfl) (by kernel_rfl) (by kernel_rfl) (by kernel_rfl) (by kernel_rfl) ?_
          refine aTakeNot (i := 37) rfl (by kernel_rfl) (by kernel_rfl) (by kernel_rfl) (by kernel_rfl) (by kernel_rfl) (by kernel_rfl) (by kernel_rfl) ?_
          refine aTakeNot (i := 38) rfl (by kernel_rfl) (by kernel_rfl) (by kernel_rfl) (by kernel_rfl) (by kernel_rfl) (by kernel_rfl) (by kernel_rfl) ?_
          refine aTakeL (i := 39) (st' := []) (.d (.bool false)) rfl (by kernel_rfl) (by kernel_rfl) (by kernel_rfl) (by kernel_rfl) (by kernel_rfl) (by kernel_rfl) (by kernel_rfl) (PureV.quiet (p_pick (b := false) (by kernel_rfl) (by kernel_rfl)) []) ?_
          refine dDrop [8, 83] [8, 83] (T' := [(8, .ptr 5 0), (83, .d (.bool false))]) (U' := [(8, .ptr 5 0), (83, .d (.bool false))]) (by kernel_rfl) (by kernel_rfl) ?_
          exact hj16 false
       ·refine dPickF 68 (fun c => F (c && (((List.length r121) : Int) == 3))) (by kernel_rfl) (by kernel_rfl) (fun hc => ?_) (fun hc => ?_)
        ·refine aTakeL (i := 25) (st' := []) (.ptr 4 0) rfl (by kernel_rfl) (by kernel_rfl) (by kernel_rfl) (by kernel_rfl) (by kernel_rfl) (by kernel_rfl) (by kernel_rfl) (PureV.quiet (k_fieldAddr 4 0 (by kernel_rfl) Try.underlying29 rfl ty27 (by kernel_rfl)) []) ?_
         refine aTakeL (i := 26) (st' := [4]) (.d (.lit (List.map e_SPoint r121))) rfl (by kernel_rfl) (by kernel_rfl) (by kernel_rfl) (by kernel_rfl) (by kernel_rfl) (by kernel_rfl) (by kernel_rfl) (k_load 4 0 (by kernel_rfl) Try.underlying27 (by kernel_rfl) (by kernel_rfl)) ?_
         refine aTakeL (i := 27) (st' := []) (.d (.int .i64 ((List.length r121) : Int))) rfl (by kernel_rfl) (by kernel_rfl) (by kernel_rfl) (by kernel_rfl) (by kernel_rfl) (by kernel_rfl) (by kernel_rfl) (PureV.quiet (k_lenLit (enc := e_SPoint) r121 (by kernel_rfl) Try.underlying27) []) ?_
         refine aTakeL (i := 28) (st' := []) (.d (.bool (((List.length r121) : Int) == 3))) rfl (by kernel_rfl) (by kernel_rfl) (by kernel_rfl) (by kernel_rfl) (by kernel_rfl) (by kernel_rfl) (by kernel_rfl) (PureV.quiet (p_int (k := .i64) (p := ((List.length r121) : Int)) (q := 3) (by kernel_rfl) (by kernel_rfl) (by kernel_rfl)) []) ?_
         refine aTakeL (i := 29) (st' := []) (.d (.bool (((List.length r121) : Int) == 3))) rfl (by kernel_rfl) (by kernel_rfl) (by kernel_rfl) (by kernel_rfl) (by kernel_rfl) (by kernel_rfl) (by kernel_rfl) (PureV.quiet (p_pick (b := true) (by kernel_rfl) (by kernel_rfl)) []) ?_
         refine dDrop [6, 8, 73] [6, 8, 73] (T' := [(6, .ptr 4 0), (8, .ptr 5 0), (73, .d (.bool (((List.length r121) : Int) == 3)))]) (U' := [(6, .ptr 4 0), (8, .ptr 5 0), (73, .d (.bool (((List.length r121) : Int) == 3)))]) (by kernel_rfl) (by kernel_rfl) ?_
         exact hj15 (((List.length r121) : Int) == 3)
        ·refine aTakeNot (i := 25) rfl (by kernel_rfl) (by kernel_rfl) (by kernel_rfl) (by kernel_rfl) (by kernel_rfl) (by kernel_rfl) (by kernel_rfl) ?_
         refine aTakeNot (i := 26) rfl (by kernel_rfl) (by kernel_rfl) (by kernel_rfl) (by kernel_rfl) (by kernel_rfl) (by kernel_rfl) (by kernel_rfl) ?_
         refine aTakeNot (i := 27) rfl (by kernel_rfl) (by kernel_rfl) (by kernel_rfl) (by kernel_rfl) (by kernel_rfl) (by kernel_rfl) (by kernel_rfl) ?_
         refine aTakeNot (i := 28) rfl (by kernel_rfl) (by kernel_rfl) (by kernel_rfl) (by kernel_rfl) (by kernel_rfl) (by kernel_rfl) (by kernel_rfl) ?_
         refine aTakeL (i := 29) (st' := []) (.d (.bool false)) rfl (by kernel_rfl) (by kernel_rfl) (by kernel_rfl) (by kernel_rfl) (by kernel_rfl) (by kernel_rfl) (by kernel_rfl) (PureV.quiet (p_pick (b := false) (by kernel_rfl) (by kernel_rfl)) []) ?_
         refine dDrop [6, 8, 73] [6, 8, 73] (T' := [(6, .ptr 4 0), (8, .ptr 5 0), (73, .d (.bool false))]) (U' := [(6, .ptr 4 0), (8, .ptr 5 0), (73, .d (.bool false))]) (by kernel_rfl) (by kernel_rfl) ?_
         exact hj15 false
      ·refine dSplit 63 (by kernel_rfl) (by kernel_rfl) (fun hc => ?_) (fun hc => ?_)
       ·refine aTakeL (i := 20) (st' := [3]) (.agg [.d (.int .i64 r111), .d (.int .i64 r131)]) rfl (by kernel_rfl) (by kernel_rfl) (by kernel_rfl) (by kernel_rfl) (by kernel_rfl) (by kernel_rfl) (by kernel_rfl) (k_loadAgg 3 0 (by kernel_rfl) Try.underlying37 (by kernel_rfl) ty37 (by kernel_rfl)) ?_
        refine dCall (i := 21) (caps := []) (v := (u0 ((.agg [.d (.int .i64 6), .d (.int .i64 1)] : V)))) (H' := (u0 (([.sl 4 (List.map e_SPoint ([(⟨0, 1, 0, 1⟩ : SPoint), (⟨2, 1, 4, 1⟩ : SPoint), (⟨3, 1, 5, 1⟩ : SPoint)] : List SPoint)) true, .box [.ref 0 (List.length ([(⟨0, 1, 0, 1⟩ : SPoint), (⟨2, 1, 4, 1⟩ : SPoint), (⟨3, 1, 5, 1⟩ : SPoint)] : List SPoint)) 0 (List.length ([(⟨0, 1, 0, 1⟩ : SPoint), (⟨2, 1, 4, 1⟩ : SPoint), (⟨3, 1, 5, 1⟩ : SPoint)] : List SPoint))], .box [.d (.int .i64 r11), .d (.int .i64 r13)], .box [.d (.int .i64 r111), .d (.int .i64 r131)], .box [.d (.lit (List.map e_SPoint r121))], .box [.d (.lit (List.map e_SPoint r135))]] : List Blk)))) [] _ (law33_whole_goes k 6) rfl (by kernel_rfl) (by kernel_rfl) (by kernel_rfl) (by kernel_rfl) (by kernel_rfl) (by kernel_rfl) (by kernel_rfl) (by kernel_rfl) rfl (by kernel_rfl) Try.func18 rfl (by kernel_rfl) (ConvRs.refl _ _) (by kernel_rfl) (by kernel_rfl) (by kernel_rfl) (by decide) (by kernel_rfl) (by kernel_rfl) (fun _ => (by kernel_rfl)) (fun _ => (by kernel_rfl)) (fun _ => (by kernel_rfl)) (fun r => ?_)
        cases r
        refine dU0 ?_
        refine aTakeP (i := 22) (.d (.bool ((r111 == 6) && ((r131 == 1) && true)))) rfl (by kernel_rfl) (by kernel_rfl) (by kernel_rfl) (by kernel_rfl) (by kernel_rfl) (by kernel_rfl) (by kernel_rfl) (k_eqAgg (by kernel_rfl) (by kernel_rfl) Try.eqGuardType37 (EqV.struct 1 37 [.d (.int .i64 r111), .d (.int .i64 r131)] [.d (.int .i64 6), .d (.int .i64 1)] _ ((r111 == 6) && ((r131 == 1) && true)) Try.underlying37 Try.stoodInHeld37 (EqF.one 1 1 _ _ _ _ _ _ _ (r111 == 6) ((r131 == 1) && true) (by kernel_rfl) Try.underlying3 (by kernel_rfl) (by kernel_rfl) (by kernel_rfl) (by kernel_rfl) (EqV.int 3 .i64 .i64 r111 6 Try.underlying3) (EqF.one 1 1 _ _ _ _ _ _ _ (r131 == 1) true (by kernel_rfl) Try.underlying3 (by kernel_rfl) (by kernel_rfl) (by kernel_rfl) (by kernel_rfl) (EqV.int 3 .i64 .i64 r131 1 Try.underlying3) (EqF.nil 1 _ _)))) (by kernel_rfl)) ?_
        refine aTakeL (i := 23) (st' := []) (.d (.bool ((r111 == 6) && ((r131 == 1) && true)))) rfl (by kernel_rfl) (by kernel_rfl) (by kernel_rfl) (by kernel_rfl) (by kernel_rfl) (by kernel_rfl) (by kernel_rfl) (PureV.quiet (p_pick (b := true) (by kernel_rfl) (by kernel_rfl)) []) ?_
        refine dDrop [6, 8, 67] [6, 8, 67] (T' := [(6, .ptr 4 0), (8, .ptr 5 0), (67, .d (.bool ((r111 == 6) && ((r131 == 1) && true))))]) (U' := [(6, .ptr 4 0), (8, .ptr 5 0), (67, .d (.bool ((r111 == 6) && ((r131 == 1) && true))))]) (by kernel_rfl) (by kernel_rfl) ?_
        exact hj14 ((r111 == 6) && ((r131 == 1) && true))
       ·refine aTakeNot (i := 20) rfl (by kernel_rfl) (by kernel_rfl) (by kernel_rfl) (by kernel_rfl) (by kernel_rfl) (by kernel_rfl) (by kernel_rfl) ?_
        refine aTakeNot (i := 21) rfl (by kernel_rfl) (by kernel_rfl) (by kernel_rfl) (by kernel_rfl) (by kernel_rfl) (by kernel_rfl) (by kernel_rfl) ?_
        refine aTakeNot (i := 22) rfl (by kernel_rfl) (by kernel_rfl) (by kernel_rfl) (by kernel_rfl) (by kernel_rfl) (by kernel_rfl) (by kernel_rfl) ?_
        refine aTakeL (i := 23) (st' := []) (.d (.bool false)) rfl (by kernel_rfl) (by kernel_rfl) (by kernel_rfl) (by kernel_rfl) (by kernel_rfl) (by kernel_rfl) (by kernel_rfl) (PureV.quiet (p_pick (b := false) (by kernel_rfl) (by kernel_rfl)) []) ?_
        refine dDrop [6, 8, 67] [6, 8, 67] (T' := [(6, .ptr 4 0), (8, .ptr 5 0), (67, .d (.bool false))]) (U' := [(6, .ptr 4 0), (8, .ptr 5 0), (67, .d (.bool false))]) (by kernel_rfl) (by kernel_rfl) ?_
        exact hj14 false
     ·refine dSplit 58 (by kernel_rfl) (by kernel_rfl) (fun hc => ?_) (fun hc => ?_)
      ·refine aTakeL (i := 15) (st' := [2]) (.agg [.d (.int .i64 r11), .d (.int .i64 r13)]) rfl (by kernel_rfl) (by kernel_rfl) (by kernel_rfl) (by kernel_rfl) (by kernel_rfl) (by kernel_rfl) (by kernel_rfl) (k_loadAgg 2 0 (by kernel_rfl) Try.underlying37 (by kernel_rfl) ty37 (by kernel_rfl)) ?_
       refine dCall (i := 16) (caps := []) (v := (u0 ((.agg [.d (.int .i64 2), .d (.int .i64 1)] : V)))) (H' := (u0 (([.sl 4 (List.map e_SPoint ([(⟨0, 1, 0, 1⟩ : SPoint), (⟨2, 1, 4, 1⟩ : SPoint), (⟨3, 1, 5, 1⟩ : SPoint)] : List SPoint)) true, .box [.ref 0 (List.length ([(⟨0, 1, 0, 1⟩ : SPoint), (⟨2, 1, 4, 1⟩ : SPoint), (⟨3, 1, 5, 1⟩ : SPoint)] : List SPoint)) 0 (List.length ([(⟨0, 1, 0, 1⟩ : SPoint), (⟨2, 1, 4, 1⟩ : SPoint), (⟨3, 1, 5, 1⟩ : SPoint)] : List SPoint))], .box [.d (.int .i64 r11), .d (.int .i64 r13)], .box [.d (.int .i64 r111), .d (.int .i64 r131)], .box [.d (.lit (List.map e_SPoint r121))], .box [.d (.lit (List.map e_SPoint r135))]] : List Blk)))) [] _ (law33_whole_goes k 2) rfl (by kernel_rfl) (by kernel_rfl) (by kernel_rfl) (by kernel_rfl) (by kernel_rfl) (by kernel_rfl) (by kernel_rfl) (by kernel_rfl) rfl (by kernel_rfl) Try.func18 rfl (by kernel_rfl) (ConvRs.refl _ _) (by kernel_rfl) (by kernel_rfl) (by kernel_rfl) (by decide) (by kernel_rfl) (by kernel_rfl) (fun _ => (by kernel_rfl)) (fun _ => (by kernel_rfl)) (fun _ => (by kernel_rfl)) (fun r => ?_)
       cases r
       refine dU0 ?_
       refine aTakeP (i := 17) (.d (.bool ((r11 == 2) && ((r13 == 1) && true)))) rfl (by kernel_rfl) (by kernel_rfl) (by kernel_rfl) (by kernel_rfl) (by kernel_rfl) (by kernel_rfl) (by kernel_rfl) (k_eqAgg (by kernel_rfl) (by kernel_rfl) Try.eqGuardType37 (EqV.struct 1 37 [.d (.int .i64 r11), .d (.int .i64 r13)] [.d (.int .i64 2), .d (.int .i64 1)] _ ((r11 == 2) && ((r13 == 1) && true)) Try.underlying37 Try.stoodInHeld37 (EqF.one 1 1 _ _ _ _ _ _ _ (r11 == 2) ((r13 == 1) && true) (by kernel_rfl) Try.underlying3 (by kernel_rfl) (by kernel_rfl) (by kernel_rfl) (by kernel_rfl) (EqV.int 3 .i64 .i64 r11 2 Try.underlying3) (EqF.one 1 1 _ _ _ _ _ _ _ (r13 == 1) true (by kernel_rfl) Try.underlying3 (by kernel_rfl) (by kernel_rfl) (by kernel_rfl) (by kernel_rfl) (EqV.int 3 .i64 .i64 r13 1 Try.underlying3) (EqF.nil 1 _ _)))) (by kernel_rfl)) ?_
       refine aTakeL (i := 18) (st' := []) (.d (.bool ((r11 == 2) && ((r13 == 1) && true)))) rfl (by kernel_rfl) (by kernel_rfl) (by kernel_rfl) (by kernel_rfl) (by kernel_rfl) (by kernel_rfl) (by kernel_rfl) (PureV.quiet (p_pick (b := true) (by kernel_rfl) (by kernel_rfl)) []) ?_
       refine dDrop [4, 6, 8, 62] [4, 6, 8, 62] (T' := [(4, .ptr 3 0), (6, .ptr 4 0), (8, .ptr 5 0), (62, .d (.bool ((r11 == 2) && ((r13 == 1) && true))))]) (U' := [(4, .ptr 3 0), (6, .ptr 4 0), (8, .ptr 5 0), (62, .d (.bool ((r11 == 2) && ((r13 == 1) && true))))]) (by kernel_rfl) (by kernel_rfl) ?_
       exact hj13 ((r11 == 2) && ((r13 == 1) && true))
      ·refine aTakeNot (i := 15) rfl (by kernel_rfl) (by kernel_rfl) (by kernel_rfl) (by kernel_rfl) (by kernel_rfl) (by kernel_rfl) (by kernel_rfl) ?_
       refine aTakeNot (i := 16) rfl (by kernel_rfl) (by kernel_rfl) (by kernel_rfl) (by kernel_rfl) (by kernel_rfl) (by kernel_rfl) (by kernel_rfl) ?_
       refine aTakeNot (i := 17) rfl (by kernel_rfl) (by kernel_rfl) (by kernel_rfl) (by kernel_rfl) (by kernel_rfl) (by kernel_rfl) (by kernel_rfl) ?_
       refine aTakeL (i := 18) (st' := []) (.d (.bool false)) rfl (by kernel_rfl) (by kernel_rfl) (by kernel_rfl) (by kernel_rfl) (by kernel_rfl) (by kernel_rfl) (by kernel_rfl) (PureV.quiet (p_pick (b := false) (by kernel_rfl) (by kernel_rfl)) []) ?_
       refine dDrop [4, 6, 8, 62] [4, 6, 8, 62] (T' := [(4, .ptr 3 0), (6, .ptr 4 0), (8, .ptr 5 0), (62, .d (.bool false))]) (U' := [(4, .ptr 3 0), (6, .ptr 4 0), (8, .ptr 5 0), (62, .d (.bool false))]) (by kernel_rfl) (by kernel_rfl) ?_
       exact hj13 false
    ·refine dPickF 54 (fun c => F (c && (r143 == 0))) (by kernel_rfl) (by kernel_rfl) (fun hc => ?_) (fun hc => ?_)
     ·refine aTakeL (i := 11) (st' := []) (.d (.int .i64 r143)) rfl (by kernel_rfl) (by kernel_rfl) (by kernel_rfl) (by kernel_rfl) (by kernel_rfl) (by kernel_rfl) (by kernel_rfl) (PureV.quiet (p_move (by kernel_rfl)) []) ?_
      refine aTakeL (i := 12) (st' := []) (.d (.bool (r143 == 0))) rfl (by kernel_rfl) (by kernel_rfl) (by kernel_rfl) (by kernel_rfl) (by kernel_rfl) (by kernel_rfl) (by kernel_rfl) (PureV.quiet (p_int (k := .i64) (p := r143) (q := 0) (by kernel_rfl) (by kernel_rfl) (by kernel_rfl)) []) ?_
      refine aTakeL (i := 13) (st' := []) (.d (.bool (r143 == 0))) rfl (by kernel_rfl) (by kernel_rfl) (by kernel_rfl) (by kernel_rfl) (by kernel_rfl) (by kernel_rfl) (by kernel_rfl) (PureV.quiet (p_pick (b := true) (by kernel_rfl) (by kernel_rfl)) []) ?_
      refine dDrop [2, 4, 6, 8, 57] [2, 4, 6, 8, 57] (T' := [(2, .ptr 2 0), (4, .ptr 3 0), (6, .ptr 4 0), (8, .ptr 5 0), (57, .d (.bool (r143 == 0)))]) (U' := [(2, .ptr 2 0), (4, .ptr 3 0), (6, .ptr 4 0), (8, .ptr 5 0), (57, .d (.bool (r143 == 0)))]) (by kernel_rfl) (by kernel_rfl) ?_
      exact hj12 (r143 == 0)
     ·refine aTakeNot (i := 11) rfl (by kernel_rfl) (by kernel_rfl) (by kernel_rfl) (by kernel_rfl) (by kernel_rfl) (by kernel_rfl) (by kernel_rfl) ?_
      refine aTakeNot (i := 12) rfl (by kernel_rfl) (by kernel_rfl) (by kernel_rfl) (by kernel_rfl) (by kernel_rfl) (by kernel_rfl) (by kernel_rfl) ?_
      refine aTakeL (i := 13) (st' := []) (.d (.bool false)) rfl (by kernel_rfl) (by kernel_rfl) (by kernel_rfl) (by kernel_rfl) (by kernel_rfl) (by kernel_rfl) (by kernel_rfl) (PureV.quiet (p_pick (b := false) (by kernel_rfl) (by kernel_rfl)) []) ?_
      refine dDrop [2, 4, 6, 8, 57] [2, 4, 6, 8, 57] (T' := [(2, .ptr 2 0), (4, .ptr 3 0), (6, .ptr 4 0), (8, .ptr 5 0), (57, .d (.bool false))]) (U' := [(2, .ptr 2 0), (4, .ptr 3 0), (6, .ptr 4 0), (8, .ptr 5 0), (57, .d (.bool false))]) (by kernel_rfl) (by kernel_rfl) ?_
      exact hj12 false
   ·refine dPickF 50 (fun c => F (c && (r134 == 0))) (by kernel_rfl) (by kernel_rfl) (fun hc => ?_) (fun hc => ?_)
    ·refine aTakeL (i := 7) (st' := []) (.d (.int .i64 r134)) rfl (by kernel_rfl) (by kernel_rfl) (by kernel_rfl) (by kernel_rfl) (by kernel_rfl) (by kernel_rfl) (by kernel_rfl) (PureV.quiet (p_move (by kernel_rfl)) []) ?_
     refine aTakeL (i := 8) (st' := []) (.d (.bool (r134 == 0))) rfl (by kernel_rfl) (by kernel_rfl) (by kernel_rfl) (by kernel_rfl) (by kernel_rfl) (by kernel_rfl) (by kernel_rfl) (PureV.quiet (p_int (k := .i64) (p := r134) (q := 0) (by kernel_rfl) (by kernel_rfl) (by kernel_rfl)) []) ?_
     refine aTakeL (i := 9) (st' := []) (.d (.bool (r134 == 0))) rfl (by kernel_rfl) (by kernel_rfl) (by kernel_rfl) (by kernel_rfl) (by kernel_rfl) (by kernel_rfl) (by kernel_rfl) (PureV.quiet (p_pick (b := true) (by kernel_rfl) (by kernel_rfl)) []) ?_
     refine dDrop [2, 4, 6, 8, 9, 53] [2, 4, 6, 8, 9, 53] (T' := [(2, .ptr 2 0), (4, .ptr 3 0), (6, .ptr 4 0), (8, .ptr 5 0), (9, .d (.int .i64 r143)), (53, .d (.bool (r134 == 0)))]) (U' := [(2, .ptr 2 0), (4, .ptr 3 0), (6, .ptr 4 0), (8, .ptr 5 0), (9, .d (.int .i64 r143)), (53, .d (.bool (r134 == 0)))]) (by kernel_rfl) (by kernel_rfl) ?_
     exact hj11 (r134 == 0)
    ·refine aTakeNot (i := 7) rfl (by kernel_rfl) (by kernel_rfl) (by kernel_rfl) (by kernel_rfl) (by kernel_rfl) (by kernel_rfl) (by kernel_rfl) ?_
     refine aTakeNot (i := 8) rfl (by kernel_rfl) (by kernel_rfl) (by kernel_rfl) (by kernel_rfl) (by kernel_rfl) (by kernel_rfl) (by kernel_rfl) ?_
     refine aTakeL (i := 9) (st' := []) (.d (.bool false)) rfl (by kernel_rfl) (by kernel_rfl) (by kernel_rfl) (by kernel_rfl) (by kernel_rfl) (by kernel_rfl) (by kernel_rfl) (PureV.quiet (p_pick (b := false) (by kernel_rfl) (by kernel_rfl)) []) ?_
     refine dDrop [2, 4, 6, 8, 9, 53] [2, 4, 6, 8, 9, 53] (T' := [(2, .ptr 2 0), (4, .ptr 3 0), (6, .ptr 4 0), (8, .ptr 5 0), (9, .d (.int .i64 r143)), (53, .d (.bool false))]) (U' := [(2, .ptr 2 0), (4, .ptr 3 0), (6, .ptr 4 0), (8, .ptr 5 0), (9, .d (.int .i64 r143)), (53, .d (.bool false))]) (by kernel_rfl) (by kernel_rfl) ?_
     exact hj11 false
  ·refine dPickF 46 (fun c => F (c && (r141 == 0))) (by kernel_rfl) (by kernel_rfl) (fun hc => ?_) (fun hc => ?_)
   ·refine aTakeL (i := 3) (st' := []) (.d (.int .i64 r141)) rfl (by kernel_rfl) (by kernel_rfl) (by kernel_rfl) (by kernel_rfl) (by kernel_rfl) (by kernel_rfl) (by kernel_rfl) (PureV.quiet (p_move (by kernel_rfl)) []) ?_
    refine aTakeL (i := 4) (st' := []) (.d (.bool (r141 == 0))) rfl (by kernel_rfl) (by kernel_rfl) (by kernel_rfl) (by kernel_rfl) (by kernel_rfl) (by kernel_rfl) (by kernel_rfl) (PureV.quiet (p_int (k := .i64) (p := r141) (q := 0) (by kernel_rfl) (by kernel_rfl) (by kernel_rfl)) []) ?_
    refine aTakeL (i := 5) (st' := []) (.d (.bool (r141 == 0))) rfl (by kernel_rfl) (by kernel_rfl) (by kernel_rfl) (by kernel_rfl) (by kernel_rfl) (by kernel_rfl) (by kernel_rfl) (PureV.quiet (p_pick (b := true) (by kernel_rfl) (by kernel_rfl)) []) ?_
    refine dDrop [2, 4, 6, 7, 8, 9, 49] [2, 4, 6, 7, 8, 9, 49] (T' := [(2, .ptr 2 0), (4, .ptr 3 0), (6, .ptr 4 0), (7, .d (.int .i64 r134)), (8, .ptr 5 0), (9, .d (.int .i64 r143)), (49, .d (.bool (r141 == 0)))]) (U' := [(2, .ptr 2 0), (4, .ptr 3 0), (6, .ptr 4 0), (7, .d (.int .i64 r134)), (8, .ptr 5 0), (9, .d (.int .i64 r143)), (49, .d (.bool (r141 == 0)))]) (by kernel_rfl) (by kernel_rfl) ?_
    exact hj10 (r141 == 0)
   ·refine aTakeNot (i := 3) rfl (by kernel_rfl) (by kernel_rfl) (by kernel_rfl) (by kernel_rfl) (by kernel_rfl) (by kernel_rfl) (by kernel_rfl) ?_
    refine aTakeNot (i := 4) rfl (by kernel_rfl) (by kernel_rfl) (by kernel_rfl) (by kernel_rfl) (by kernel_rfl) (by kernel_rfl) (by kernel_rfl) ?_
    refine aTakeL (i := 5) (st' := []) (.d (.bool false)) rfl (by kernel_rfl) (by kernel_rfl) (by kernel_rfl) (by kernel_rfl) (by kernel_rfl) (by kernel_rfl) (by kernel_rfl) (PureV.quiet (p_pick (b := false) (by kernel_rfl) (by kernel_rfl)) []) ?_
    refine dDrop [2, 4, 6, 7, 8, 9, 49] [2, 4, 6, 7, 8, 9, 49] (T' := [(2, .ptr 2 0), (4, .ptr 3 0), (6, .ptr 4 0), (7, .d (.int .i64 r134)), (8, .ptr 5 0), (9, .d (.int .i64 r143)), (49, .d (.bool false))]) (U' := [(2, .ptr 2 0), (4, .ptr 3 0), (6, .ptr 4 0), (7, .d (.int .i64 r134)), (8, .ptr 5 0), (9, .d (.int .i64 r143)), (49, .d (.bool false))]) (by kernel_rfl) (by kernel_rfl) ?_
    exact hj10 false

/-- awardingbody/awardingbodymark.Roll -/
def mark_Roll (k : Nat) (l : (List Int)) : Option (Unit) := some ()
def mark_Roll_E (l : (List Int)) : Unit → V × List Blk := u0 ((.ptr 0 0, [.box [.d (.lit (List.map e_i64 l)), .d (.int .i64 0)]]))
theorem mark_Roll_goes (k : Nat) (l : (List Int)) : RunsO Try.prog 8 [.d (.lit (List.map e_i64 l))] [] (mark_Roll_E l) (mark_Roll k l) := by
  refine RunsO.of_goes (N := 6) (m := 0) (T := [(0, .d (.lit (List.map e_i64 l)))]) Try.func8 rfl rfl (by kernel_rfl) (by kernel_rfl) (by kernel_rfl) ?_
  unfold mark_Roll
  refine bStart ?_
  refine oSeq ?_
  refine oRegion rfl ?_
  refine oOp (.nilptr) (by kernel_rfl) (by kernel_rfl) (PureV.does (p_assign (by kernel_rfl))) ?_
  refine oEnd ?_
  refine oSeq ?_
  refine oRegion rfl ?_
  refine oOp (.d (.lit (List.map e_i64 l))) (by kernel_rfl) (by kernel_rfl) (PureV.does (p_move (by kernel_rfl))) ?_
  refine oOp (.agg [.d (.lit (List.map e_i64 l)), .d (.int .i64 0)]) (by kernel_rfl) (by kernel_rfl) (PureV.does (p_build bld49 (by kernel_rfl))) ?_
  refine oOp (.ptr 0 0) (by kernel_rfl) (by kernel_rfl) (k_box (H' := [.box [.d (.lit (List.map e_i64 l)), .d (.int .i64 0)]]) (cells := [.d (.lit (List.map e_i64 l)), .d (.int .i64 0)]) (by kernel_rfl) (by kernel_rfl) (by kernel_rfl)) ?_
  refine oOp (.ptr 0 0) (by kernel_rfl) (by kernel_rfl) (PureV.does (p_assign (by kernel_rfl))) ?_
  refine oEnd ?_
  exact oRet (r0 := ()) (rv := .ptr 0 0) (B := [.box [.d (.lit (List.map e_i64 l)), .d (.int .i64 0)]]) (vs := [.ptr 0 0]) (σ := [0]) (by kernel_rfl) Try.func8 rfl (.cons _ _ _ _ (.tmp 2 _ (by kernel_rfl)) .nil) (by kernel_rfl) (by kernel_rfl) (by kernel_rfl) (by kernel_rfl) (by decide) (by kernel_rfl) (by kernel_rfl)

/-- (*awardingbody/awardingbodymark.Dice).Next -/
def mark_Dice_Next (k : Nat) (n : Int) (x : (List Int)) (x1 : Int) : Option (Int × Int) := blet ((decide (x1 ≥ ((List.length x) : Int))) || (decide (n < 1))) fun x8 => bif x8 then some (0, x1) else gidx x x1 fun e1 => gnz n (Option.bind (bif (decide ((Int.tmod e1 n) < 0)) then some ((IntKind.wrap .i64 ((Int.tmod e1 n) + n)), (IntKind.wrap .i64 (x1 + 1))) else some ((Int.tmod e1 n), (IntKind.wrap .i64 (x1 + 1))) : Option (Int × Int)) (uc fun x9 => fun x10 => some (x9, x10)))
def mark_Dice_Next_E (n : Int) (x : (List Int)) (x1 : Int) : Int × Int → V × List Blk := uc fun r1 => fun x6 => (.d (.int .i64 r1), [.box [.d (.lit (List.map e_i64 x)), .d (.int .i64 x6)]])
theorem mark_Dice_Next_goes (k : Nat) (n : Int) (x : (List Int)) (x1 : Int) : RunsO Try.prog 20 [.ptr 0 0, .d (.int .i64 n)] [.box [.d (.lit (List.map e_i64 x)), .d (.int .i64 x1)]] (mark_Dice_Next_E n x x1) (mark_Dice_Next k n x x1) := by
  refine RunsO.of_goes (N := 45) (m := 1) (T := [(0, .ptr 0 0), (1, .d (.int .i64 n))]) Try.func20 rfl rfl (by kernel_rfl) (by kernel_rfl) (by kernel_rfl) ?_
  unfold mark_Dice_Next
  refine bStart ?_
  refine oSeq ?_
  refine oRegion rfl ?_
  refine oOp (.d (.int .i64 0)) (by kernel_rfl) (by kernel_rfl) (PureV.does (p_assign (by kernel_rfl))) ?_
  refine oEnd ?_
  refine oSeq ?_
  refine oSeq ?_
  refine oDraw [(0, 14)] rfl ?_
  refine aTakeL (i := 0) (st' := []) (.ptr 0 0) rfl (by kernel_rfl) (by kernel_rfl) (by kernel_rfl) (by kernel_rfl) (by kernel_rfl) (by kernel_rfl) (by kernel_rfl) (PureV.quiet (p_move (by kernel_rfl)) []) ?_
  refine aTakeL (i := 1) (st' := []) (.ptr 0 0) rfl (by kernel_rfl) (by kernel_rfl) (by kernel_rfl) (by kernel_rfl) (by kernel_rfl) (by kernel_rfl) (by kernel_rfl) (PureV.quiet (k_nilCheck 0 0 (by kernel_rfl) (by kernel_rfl)) []) ?_
  refine aTakeL (i := 2) (st' := []) (.ptr 0 1) rfl (by kernel_rfl) (by kernel_rfl) (by kernel_rfl) (by kernel_rfl) (by kernel_rfl) (by kernel_rfl) (by kernel_rfl) (PureV.quiet (k_fieldAddr 0 0 (by kernel_rfl) Try.underlying49 rfl ty3 (by kernel_rfl)) []) ?_
  refine aTakeL (i := 3) (st' := [0]) (.d (.int .i64 x1)) rfl (by kernel_rfl) (by kernel_rfl) (by kernel_rfl) (by kernel_rfl) (by kernel_rfl) (by kernel_rfl) (by kernel_rfl) (k_load 0 1 (by kernel_rfl) Try.underlying3 (by kernel_rfl) (by kernel_rfl)) ?_
  refine aTakeL (i := 4) (st' := []) (.ptr 0 0) rfl (by kernel_rfl) (by kernel_rfl) (by kernel_rfl) (by kernel_rfl) (by kernel_rfl) (by kernel_rfl) (by kernel_rfl) (PureV.quiet (p_move (by kernel_rfl)) []) ?_
  refine aTakeL (i := 5) (st' := []) (.ptr 0 0) rfl (by kernel_rfl) (by kernel_rfl) (by kernel_rfl) (by kernel_rfl) (by kernel_rfl) (by kernel_rfl) (by kernel_rfl) (PureV.quiet (k_nilCheck 0 0 (by kernel_rfl) (by kernel_rfl)) []) ?_
  refine aTakeL (i := 6) (st' := []) (.ptr 0 0) rfl (by kernel_rfl) (by kernel_rfl) (by kernel_rfl) (by kernel_rfl) (by kernel_rfl) (by kernel_rfl) (by kernel_rfl) (PureV.quiet (k_fieldAddr 0 0 (by kernel_rfl) Try.underlying49 rfl ty22 (by kernel_rfl)) []) ?_
  refine aTakeL (i := 7) (st' := [0]) (.d (.lit (List.map e_i64 x))) rfl (by kernel_rfl) (by kernel_rfl) (by kernel_rfl) (by kernel_rfl) (by kernel_rfl) (by kernel_rfl) (by kernel_rfl) (k_load 0 0 (by kernel_rfl) Try.underlying22 (by kernel_rfl) (by kernel_rfl)) ?_
  refine aTakeL (i := 8) (st' := []) (.d (.int .i64 ((List.length x) : Int))) rfl (by kernel_rfl) (by kernel_rfl) (by kernel_rfl) (by kernel_rfl) (by kernel_rfl) (by kernel_rfl) (by kernel_rfl) (PureV.quiet (k_lenLit (enc := e_i64) x (by kernel_rfl) Try.underlying22) []) ?_
  refine aTakeL (i := 9) (st' := []) (.d (.bool (decide (x1 ≥ ((List.length x) : Int))))) rfl (by kernel_rfl) (by kernel_rfl) (by kernel_rfl) (by kernel_rfl) (by kernel_rfl) (by kernel_rfl) (by kernel_rfl) (PureV.quiet (p_int (k := .i64) (p := x1) (q := ((List.length x) : Int)) (by kernel_rfl) (by kernel_rfl) (by kernel_rfl)) []) ?_
  refine aTakeL (i := 10) (st' := []) (.d (.bool (decide (x1 ≥ ((List.length x) : Int))))) rfl (by kernel_rfl) (by kernel_rfl) (by kernel_rfl) (by kernel_rfl) (by kernel_rfl) (by kernel_rfl) (by kernel_rfl) (PureV.quiet (p_move (by kernel_rfl)) []) ?_
  refine dMeetF [13, 12, 11, 10, 9, 8, 7, 6, 5, 4, 3, 2, 1, 0] (fun (x8 : Bool) => [(0, .ptr 0 0), (1, .d (.int .i64 n)), (19, .d (.bool x8))]) (fun (x8 : Bool) => [(0, .ptr 0 0), (1, .d (.int .i64 n)), (19, .d (.bool x8))]) (H' := [.box [.d (.lit (List.map e_i64 x)), .d (.int .i64 x1)]]) (fun x8 => ?_) (fun F hj3 => ?_)
  ·refine aDone (by kernel_rfl) ?_
   refine bSplit 19 (by kernel_rfl) (fun hc => ?_) (fun hc => ?_)
   ·refine oCondT (by kernel_rfl) ?_
    refine oSeq ?_
    refine oRegion rfl ?_
    refine oOp (.d (.int .i64 0)) (by kernel_rfl) (by kernel_rfl) (PureV.does (p_assign (by kernel_rfl))) ?_
    refine oEnd ?_
    exact oRet (r0 := (0, x1)) (rv := .d (.int .i64 0)) (B := [.box [.d (.lit (List.map e_i64 x)), .d (.int .i64 x1)]]) (vs := [.d (.int .i64 0)]) (σ := [0]) (by kernel_rfl) Try.func20 rfl (.cons _ _ _ _ (.tmp 4 _ (by kernel_rfl)) .nil) (by kernel_rfl) (by kernel_rfl) (by kernel_rfl) (by kernel_rfl) (by decide) (by kernel_rfl) (by kernel_rfl)
   ·refine oCondF (by kernel_rfl) ?_
    refine oSkip ?_
    refine oSeq ?_
    refine oDraw [(0, 13)] rfl ?_
    refine aTakeL (i := 0) (st' := []) (.ptr 0 0) rfl (by kernel_rfl) (by kernel_rfl) (by kernel_rfl) (by kernel_rfl) (by kernel_rfl) (by kernel_rfl) (by kernel_rfl) (PureV.quiet (p_move (by kernel_rfl)) []) ?_
    refine aTakeL (i := 1) (st' := []) (.ptr 0 0) rfl (by kernel_rfl) (by kernel_rfl) (by kernel_rfl) (by kernel_rfl) (by kernel_rfl) (by kernel_rfl) (by kernel_rfl) (PureV.quiet (k_nilCheck 0 0 (by kernel_rfl) (by kernel_rfl)) []) ?_
    refine aTakeL (i := 2) (st' := []) (.ptr 0 0) rfl (by kernel_rfl) (by kernel_rfl) (by kernel_rfl) (by kernel_rfl) (by kernel_rfl) (by kernel_rfl) (by kernel_rfl) (PureV.quiet (k_fieldAddr 0 0 (by kernel_rfl) Try.underlying49 rfl ty22 (by kernel_rfl)) []) ?_
    refine aTakeL (i := 3) (st' := [0]) (.d (.lit (List.map e_i64 x))) rfl (by kernel_rfl) (by kernel_rfl) (by kernel_rfl) (by kernel_rfl) (by kernel_rfl) (by kernel_rfl) (by kernel_rfl) (k_load 0 0 (by kernel_rfl) Try.underlying22 (by kernel_rfl) (by kernel_rfl)) ?_
    refine aTakeL (i := 4) (st' := []) (.ptr 0 0) rfl (by kernel_rfl) (by kernel_rfl) (by kernel_rfl) (by kernel_rfl) (by kernel_rfl) (by kernel_rfl) (by kernel_rfl) (PureV.quiet (p_move (by kernel_rfl)) []) ?_
    refine aTakeL (i := 5) (st' := []) (.ptr 0 0) rfl (by kernel_rfl) (by kernel_rfl) (by kernel_rfl) (by kernel_rfl) (by kernel_rfl) (by kernel_rfl) (by kernel_rfl) (PureV.quiet (k_nilCheck 0 0 (by kernel_rfl) (by kernel_rfl)) []) ?_
    refine aTakeL (i := 6) (st' := []) (.ptr 0 1) rfl (by kernel_rfl) (by kernel_rfl) (by kernel_rfl) (by kernel_rfl) (by kernel_rfl) (by kernel_rfl) (by kernel_rfl) (PureV.quiet (k_fieldAddr 0 0 (by kernel_rfl) Try.underlying49 rfl ty3 (by kernel_rfl)) []) ?_
    refine aTakeL (i := 7) (st' := [0]) (.d (.int .i64 x1)) rfl (by kernel_rfl) (by kernel_rfl) (by kernel_rfl) (by kernel_rfl) (by kernel_rfl) (by kernel_rfl) (by kernel_rfl) (k_load 0 1 (by kernel_rfl) Try.underlying3 (by kernel_rfl) (by kernel_rfl)) ?_
    refine dIdx (fun e1 h1 h11 => ?_)
    refine aTakeL (i := 8) (st' := []) (.lptr (e_i64 e1) 0) rfl (by kernel_rfl) (by kernel_rfl) (by kernel_rfl) (by kernel_rfl) (by kernel_rfl) (by kernel_rfl) (by kernel_rfl) (PureV.quiet (k_idxLit e_i64_len x (a := e1) (by kernel_rfl) (k := .i64) (i := x1) (by kernel_rfl) Try.underlying22 ty3 h1 h11) []) ?_
    refine aTakeL (i := 9) (st' := []) (.d (.int .i64 e1)) rfl (by kernel_rfl) (by kernel_rfl) (by kernel_rfl) (by kernel_rfl) (by kernel_rfl) (by kernel_rfl) (by kernel_rfl) (k_loadL (cells := e_i64 e1) 0 (by kernel_rfl) Try.underlying3 (by kernel_rfl) (by kernel_rfl)) ?_
    refine aTakeL (i := 10) (st' := []) (.d (.int .i64 n)) rfl (by kernel_rfl) (by kernel_rfl) (by kernel_rfl) (by kernel_rfl) (by kernel_rfl) (by kernel_rfl) (by kernel_rfl) (PureV.quiet (p_move (by kernel_rfl)) []) ?_
    refine dNz (fun h12 => ?_)
    refine aTakeP (i := 11) (.d (.int .i64 (Int.tmod e1 n))) rfl (by kernel_rfl) (by kernel_rfl) (by kernel_rfl) (by kernel_rfl) (by kernel_rfl) (by kernel_rfl) (by kernel_rfl) (p_rem (k := .i64) (p := e1) (q := n) (by kernel_rfl) (by kernel_rfl) h12 (by kernel_rfl)) ?_
    refine aTakeL (i := 12) (st' := []) (.d (.int .i64 (Int.tmod e1 n))) rfl (by kernel_rfl) (by kernel_rfl) (by kernel_rfl) (by kernel_rfl) (by kernel_rfl) (by kernel_rfl) (by kernel_rfl) (PureV.quiet (p_assign (by kernel_rfl)) []) ?_
    refine aDone (by kernel_rfl) ?_
    refine oSeq ?_
    refine oRegion rfl ?_
    refine oOp (.ptr 0 0) (by kernel_rfl) (by kernel_rfl) (PureV.does (p_move (by kernel_rfl))) ?_
    refine oOp (.ptr 0 0) (by kernel_rfl) (by kernel_rfl) (PureV.does (k_nilCheck 0 0 (by kernel_rfl) (by kernel_rfl))) ?_
    refine oOp (.ptr 0 1) (by kernel_rfl) (by kernel_rfl) (PureV.does (k_fieldAddr 0 0 (by kernel_rfl) Try.underlying49 rfl ty3 (by kernel_rfl))) ?_
    refine oOp (.d (.int .i64 x1)) (by kernel_rfl) (by kernel_rfl) (Quiet.does (k_load 0 1 (by kernel_rfl) Try.underlying3 (by kernel_rfl) (by kernel_rfl))) ?_
    refine oOp (.d (.int .i64 (IntKind.wrap .i64 (x1 + 1)))) (by kernel_rfl) (by kernel_rfl) (PureV.does (p_int (k := .i64) (p := x1) (q := 1) (by kernel_rfl) (by kernel_rfl) (by kernel_rfl))) ?_
    refine oOp (.ptr 0 0) (by kernel_rfl) (by kernel_rfl) (PureV.does (k_nilCheck 0 0 (by kernel_rfl) (by kernel_rfl))) ?_
    refine oOp (.ptr 0 1) (by kernel_rfl) (by kernel_rfl) (PureV.does (k_fieldAddr 0 0 (by kernel_rfl) Try.underlying49 rfl ty3 (by kernel_rfl))) ?_
    refine oOp (.undef) (by kernel_rfl) (by kernel_rfl) (k_store (vs := [.d (.int .i64 (IntKind.wrap .i64 (x1 + 1)))]) (H' := [.box [.d (.lit (List.map e_i64 x)), .d (.int .i64 (IntKind.wrap .i64 (x1 + 1)))]]) 0 1 (by kernel_rfl) ty3 (by kernel_rfl) (by kernel_rfl) (by kernel_rfl)) ?_
    refine oEnd ?_
    refine oSeq ?_
    refine oSeq ?_
    refine oRegion rfl ?_
    refine oOp (.d (.int .i64 (Int.tmod e1 n))) (by kernel_rfl) (by kernel_rfl) (PureV.does (p_move (by kernel_rfl))) ?_
    refine oOp (.d (.bool (decide ((Int.tmod e1 n) < 0)))) (by kernel_rfl) (by kernel_rfl) (PureV.does (p_int (k := .i64) (p := (Int.tmod e1 n)) (q := 0) (by kernel_rfl) (by kernel_rfl) (by kernel_rfl))) ?_
    refine oEnd ?_
    refine bJoin ((uc fun (x9 : Int) => (fun (x10 : Int) => [(5, .d (.int .i64 x9))]))) ((uc fun (x9 : Int) => (fun (x10 : Int) => [.box [.d (.lit (List.map e_i64 x)), .d (.int .i64 x10)]]))) (fun s => s) (fun s => ?_) (fun hj4 => ?_)
    ·obtain ⟨x9, x10⟩ := s
     refine bUc ?_
     refine oView (T' := [(5, .d (.int .i64 x9))]) (H' := [.box [.d (.lit (List.map e_i64 x)), .d (.int .i64 x10)]]) (by kernel_rfl) (by kernel_rfl) ?_
     refine oSeq ?_
     refine oRegion rfl ?_
     refine oOp (.d (.int .i64 x9)) (by kernel_rfl) (by kernel_rfl) (PureV.does (p_move (by kernel_rfl))) ?_
     refine oOp (.d (.int .i64 x9)) (by kernel_rfl) (by kernel_rfl) (PureV.does (p_assign (by kernel_rfl))) ?_
     refine oEnd ?_
     exact oRet (r0 := (x9, x10)) (rv := .d (.int .i64 x9)) (B := [.box [.d (.lit (List.map e_i64 x)), .d (.int .i64 x10)]]) (vs := [.d (.int .i64 x9)]) (σ := [0]) (by kernel_rfl) Try.func20 rfl (.cons _ _ _ _ (.tmp 4 _ (by kernel_rfl)) .nil) (by kernel_rfl) (by kernel_rfl) (by kernel_rfl) (by kernel_rfl) (by decide) (by kernel_rfl) (by kernel_rfl)
    ·refine bSplit 40 (by kernel_rfl) (fun hc => ?_) (fun hc => ?_)
     ·refine oCondT (by kernel_rfl) ?_
      refine oRegion rfl ?_
      refine oOp (.d (.int .i64 (Int.tmod e1 n))) (by kernel_rfl) (by kernel_rfl) (PureV.does (p_move (by kernel_rfl))) ?_
      refine oOp (.d (.int .i64 n)) (by kernel_rfl) (by kernel_rfl) (PureV.does (p_move (by kernel_rfl))) ?_
      refine oOp (.d (.int .i64 (IntKind.wrap .i64 ((Int.tmod e1 n) + n)))) (by kernel_rfl) (by kernel_rfl) (PureV.does (p_int (k := .i64) (p := (Int.tmod e1 n)) (q := n) (by kernel_rfl) (by kernel_rfl) (by kernel_rfl))) ?_
      refine oOp (.d (.int .i64 (IntKind.wrap .i64 ((Int.tmod e1 n) + n)))) (by kernel_rfl) (by kernel_rfl) (PureV.does (p_assign (by kernel_rfl))) ?_
      refine oEnd ?_
      refine oHead [5] [0] (T' := [(5, .d (.int .i64 (IntKind.wrap .i64 ((Int.tmod e1 n) + n))))]) (H' := [.box [.d (.lit (List.map e_i64 x)), .d (.int .i64 (IntKind.wrap .i64 (x1 + 1)))]]) (by kernel_rfl) (by kernel_rfl) (by kernel_rfl) (by kernel_rfl) (by decide) (by kernel_rfl) (by kernel_rfl) ?_
      exact hj4 ((IntKind.wrap .i64 ((Int.tmod e1 n) + n)), (IntKind.wrap .i64 (x1 + 1)))
     ·refine oCondF (by kernel_rfl) ?_
      refine oSkip ?_
      refine oHead [5] [0] (T' := [(5, .d (.int .i64 (Int.tmod e1 n)))]) (H' := [.box [.d (.lit (List.map e_i64 x)), .d (.int .i64 (IntKind.wrap .i64 (x1 + 1)))]]) (by kernel_rfl) (by kernel_rfl) (by kernel_rfl) (by kernel_rfl) (by decide) (by kernel_rfl) (by kernel_rfl) ?_
      exact hj4 ((Int.tmod e1 n), (IntKind.wrap .i64 (x1 + 1)))
  ·refine dPickF 16 (fun c => F (c || (decide (n < 1)))) (by kernel_rfl) (by kernel_rfl) (fun hc => ?_) (fun hc => ?_)
   ·refine aTakeNot (i := 11) rfl (by kernel_rfl) (by kernel_rfl) (by kernel_rfl) (by kernel_rfl) (by kernel_rfl) (by kernel_rfl) (by kernel_rfl) ?_
    refine aTakeNot (i := 12) rfl (by kernel_rfl) (by kernel_rfl) (by kernel_rfl) (by kernel_rfl) (by kernel_rfl) (by kernel_rfl) (by kernel_rfl) ?_
    refine aTakeL (i := 13) (st' := []) (.d (.bool true)) rfl (by kernel_rfl) (by kernel_rfl) (by kernel_rfl) (by kernel_rfl) (by kernel_rfl) (by kernel_rfl) (by kernel_rfl) (PureV.quiet (p_pick (b := true) (by kernel_rfl) (by kernel_rfl)) []) ?_
    refine dDrop [0, 1, 19] [0, 1, 19] (T' := [(0, .ptr 0 0), (1, .d (.int .i64 n)), (19, .d (.bool true))]) (U' := [(0, .ptr 0 0), (1, .d (.int .i64 n)), (19, .d (.bool true))]) (by kernel_rfl) (by kernel_rfl) ?_
    exact hj3 true
   ·refine aTakeL (i := 11) (st' := []) (.d (.int .i64 n)) rfl (by kernel_rfl) (by kernel_rfl) (by kernel_rfl) (by kernel_rfl) (by kernel_rfl) (by kernel_rfl) (by kernel_rfl) (PureV.quiet (p_move (by kernel_rfl)) []) ?_
    refine aTakeL (i := 12) (st' := []) (.d (.bool (decide (n < 1)))) rfl (by kernel_rfl) (by kernel_rfl) (by kernel_rfl) (by kernel_rfl) (by kernel_rfl) (by kernel_rfl) (by kernel_rfl) (PureV.quiet (p_int (k := .i64) (p := n) (q := 1) (by kernel_rfl) (by kernel_rfl) (by kernel_rfl)) []) ?_
    refine aTakeL (i := 13) (st' := []) (.d (.bool (decide (n < 1)))) rfl (by kernel_rfl) (by kernel_rfl) (by kernel_rfl) (by kernel_rfl) (by kernel_rfl) (by kernel_rfl) (by kernel_rfl) (PureV.quiet (p_pick (b := false) (by kernel_rfl) (by kernel_rfl)) []) ?_
    refine dDrop [0, 1, 19] [0, 1, 19] (T' := [(0, .ptr 0 0), (1, .d (.int .i64 n)), (19, .d (.bool (decide (n < 1))))]) (U' := [(0, .ptr 0 0), (1, .d (.int .i64 n)), (19, .d (.bool (decide (n < 1))))]) (by kernel_rfl) (by kernel_rfl) ?_
    exact hj3 (decide (n < 1))

/-- (*awardingbody/awardingbodymark.Dice).Curve -/
def mark_Dice_Curve_b1 (k : Nat) (x : (List Int)) (again : Int × Int × Int × Int × (List SPoint) → Option (Int × (List SPoint))) : Int × Int × Int × Int × (List SPoint) → Option (Int × (List SPoint)) := uc fun x17 => uc fun y7 => uc fun i7 => uc fun x18 => fun xs9 => bif (decide (i7 > 0)) then Option.bind (mark_Dice_Next k 3 x x18) (uc fun r133 => fun x632 => Option.bind (mark_Dice_Next k 4 x x632) (uc fun r134 => fun x633 => gcap (List.length (xs9 ++ ([(⟨(IntKind.wrap .i64 ((IntKind.wrap .i64 (x17 + 1)) + r133)), 1, (IntKind.wrap .i64 ((IntKind.wrap .i64 (y7 + 1)) + r134)), 1⟩ : SPoint)] : List SPoint))) 32 (again ((IntKind.wrap .i64 ((IntKind.wrap .i64 (x17 + 1)) + r133)), (IntKind.wrap .i64 ((IntKind.wrap .i64 (y7 + 1)) + r134)), (IntKind.wrap .i64 (i7 - 1)), x633, (xs9 ++ ([(⟨(IntKind.wrap .i64 ((IntKind.wrap .i64 (x17 + 1)) + r133)), 1, (IntKind.wrap .i64 ((IntKind.wrap .i64 (y7 + 1)) + r134)), 1⟩ : SPoint)] : List SPoint)))))) else some (x18, xs9)
def mark_Dice_Curve (k : Nat) (x : (List Int)) (x1 : Int) : Option ((List SPoint) × Int) := Option.bind (mark_Dice_Next k 9 x x1) (uc fun r112 => fun x611 => Option.bind (mark_Dice_Next k 9 x x611) (uc fun r113 => fun x612 => Option.bind (mark_Dice_Next k 4 x x612) (uc fun r114 => fun x613 => Option.bind (gloop (mark_Dice_Curve_b1 k x) k ((IntKind.wrap .i64 (r112 - 4)), (IntKind.wrap .i64 (r113 - 4)), (IntKind.wrap .i64 (1 + r114)), x613, ([(⟨(IntKind.wrap .i64 (r112 - 4)), 1, (IntKind.wrap .i64 (r113 - 4)), 1⟩ : SPoint)] : List SPoint)) : Option (Int × (List SPoint))) (uc fun x15 => fun xs7 => some (xs7, x15)))))
def mark_Dice_Curve_E (x : (List Int)) (x1 : Int) : (List SPoint) × Int → V × List Blk := uc fun r111 => fun x9 => (.agg [.d (.lit (List.map e_SPoint r111))], [.box [.d (.lit (List.map e_i64 x)), .d (.int .i64 x9)]])
theorem mark_Dice_Curve_goes (k : Nat) (x : (List Int)) (x1 : Int) : RunsO Try.prog 9 [.ptr 0 0] [.box [.d (.lit (List.map e_i64 x)), .d (.int .i64 x1)]] (mark_Dice_Curve_E x x1) (mark_Dice_Curve k x x1) := by
  refine RunsO.of_goes (N := 48) (m := 1) (T := [(0, .ptr 0 0)]) Try.func9 rfl rfl (by kernel_rfl) (by kernel_rfl) (by kernel_rfl) ?_
  unfold mark_Dice_Curve
  refine bStart ?_
  refine oSeq ?_
  refine oRegion rfl ?_
  refine oOp (.ptr 1 0) (by kernel_rfl) (by kernel_rfl) (k_alloc (H' := [.box [.d (.lit (List.map e_i64 x)), .d (.int .i64 x1)], .box [.nilc]]) ty29 (by kernel_rfl) (by kernel_rfl)) ?_
  refine oEnd ?_
  refine oSeq ?_
  refine oRegion rfl ?_
  refine oOp (.ptr 0 0) (by kernel_rfl) (by kernel_rfl) (PureV.does (p_move (by kernel_rfl))) ?_
  refine bCall (caps := []) (v := (uc fun (r112 : Int) => (fun (x611 : Int) => (.d (.int .i64 r112) : V)))) (H' := (uc fun (r112 : Int) => (fun (x611 : Int) => ([.box [.d (.lit (List.map e_i64 x)), .d (.int .i64 x611)], .box [.nilc]] : List Blk)))) [0] _ (mark_Dice_Next_goes k 9 x x1) (by kernel_rfl) (by kernel_rfl) rfl (by kernel_rfl) Try.func20 rfl (by kernel_rfl) (ConvRs.refl _ _) (by kernel_rfl) (by kernel_rfl) (by kernel_rfl) (by decide) (by kernel_rfl) (by kernel_rfl) (fun _ => (by kernel_rfl)) (fun _ => (by kernel_rfl)) (fun _ => (by kernel_rfl)) (fun r => ?_)
  obtain ⟨r112, x611⟩ := r
  refine bUc ?_
  refine oOp (.d (.int .i64 (IntKind.wrap .i64 (r112 - 4)))) (by kernel_rfl) (by kernel_rfl) (PureV.does (p_int (k := .i64) (p := r112) (q := 4) (by kernel_rfl) (by kernel_rfl) (by kernel_rfl))) ?_
  refine oOp (.ptr 0 0) (by kernel_rfl) (by kernel_rfl) (PureV.does (p_move (by kernel_rfl))) ?_
  refine bCall (caps := []) (v := (uc fun (r113 : Int) => (fun (x612 : Int) => (.d (.int .i64 r113) : V)))) (H' := (uc fun (r113 : Int) => (fun (x612 : Int) => ([.box [.d (.lit (List.map e_i64 x)), .d (.int .i64 x612)], .box [.nilc]] : List Blk)))) [0] _ (mark_Dice_Next_goes k 9 x x611) (by kernel_rfl) (by kernel_rfl) rfl (by kernel_rfl) Try.func20 rfl (by kernel_rfl) (ConvRs.refl _ _) (by kernel_rfl) (by kernel_rfl) (by kernel_rfl) (by decide) (by kernel_rfl) (by kernel_rfl) (fun _ => (by kernel_rfl)) (fun _ => (by kernel_rfl)) (fun _ => (by kernel_rfl)) (fun r => ?_)
  obtain ⟨r113, x612⟩ := r
  refine bUc ?_
  refine oOp (.d (.int .i64 (IntKind.wrap .i64 (r113 - 4)))) (by kernel_rfl) (by kernel_rfl) (PureV.does (p_int (k := .i64) (p := r113) (q := 4) (by kernel_rfl) (by kernel_rfl) (by kernel_rfl))) ?_
  refine oOp (.d (.int .i64 (IntKind.wrap .i64 (r112 - 4)))) (by kernel_rfl) (by kernel_rfl) (PureV.does (p_assign (by kernel_rfl))) ?_
  refine oOp (.d (.int .i64 (IntKind.wrap .i64 (r113 - 4)))) (by kernel_rfl) (by kernel_rfl) (PureV.does (p_assign (by kernel_rfl))) ?_
  refine oEnd ?_
  refine oSeq ?_
  refine oRegion rfl ?_
  refine oOp (.d (.int .i64 (IntKind.wrap .i64 (r112 - 4)))) (by kernel_rfl) (by kernel_rfl) (PureV.does (p_move (by kernel_rfl))) ?_
  refine oOp (.agg [.d (.int .i64 (IntKind.wrap .i64 (r112 - 4))), .d (.int .i64 1)]) (by kernel_rfl) (by kernel_rfl) (PureV.does (p_build bld37 (by kernel_rfl))) ?_
  refine oOp (.d (.int .i64 (IntKind.wrap .i64 (r113 - 4)))) (by kernel_rfl) (by kernel_rfl) (PureV.does (p_move (by kernel_rfl))) ?_
  refine oOp (.agg [.d (.int .i64 (IntKind.wrap .i64 (r113 - 4))), .d (.int .i64 1)]) (by kernel_rfl) (by kernel_rfl) (PureV.does (p_build bld37 (by kernel_rfl))) ?_
  refine oOp (.agg [.d (.int .i64 (IntKind.wrap .i64 (r112 - 4))), .d (.int .i64 1), .d (.int .i64 (IntKind.wrap .i64 (r113 - 4))), .d (.int .i64 1)]) (by kernel_rfl) (by kernel_rfl) (PureV.does (p_build bld39 (by kernel_rfl))) ?_
  refine oOp (.ref 2 (List.length ([(⟨(IntKind.wrap .i64 (r112 - 4)), 1, (IntKind.wrap .i64 (r113 - 4)), 1⟩ : SPoint)] : List SPoint)) 0 (List.length ([(⟨(IntKind.wrap .i64 (r112 - 4)), 1, (IntKind.wrap .i64 (r113 - 4)), 1⟩ : SPoint)] : List SPoint))) (by kernel_rfl) (by kernel_rfl) (k_buildSlice (H' := [.box [.d (.lit (List.map e_i64 x)), .d (.int .i64 x612)], .box [.nilc], .sl 4 (List.map e_SPoint ([(⟨(IntKind.wrap .i64 (r112 - 4)), 1, (IntKind.wrap .i64 (r113 - 4)), 1⟩ : SPoint)] : List SPoint)) false]) (List.map e_SPoint ([(⟨(IntKind.wrap .i64 (r112 - 4)), 1, (IntKind.wrap .i64 (r113 - 4)), 1⟩ : SPoint)] : List SPoint)) Try.underlying27 ty39 (by kernel_rfl) (by kernel_rfl) (by kernel_rfl)) ?_
  refine oOp (.agg [.ref 2 (List.length ([(⟨(IntKind.wrap .i64 (r112 - 4)), 1, (IntKind.wrap .i64 (r113 - 4)), 1⟩ : SPoint)] : List SPoint)) 0 (List.length ([(⟨(IntKind.wrap .i64 (r112 - 4)), 1, (IntKind.wrap .i64 (r113 - 4)), 1⟩ : SPoint)] : List SPoint))]) (by kernel_rfl) (by kernel_rfl) (PureV.does (p_build bld29 (by kernel_rfl))) ?_
  refine oOp (.ptr 3 0) (by kernel_rfl) (by kernel_rfl) (k_alloc (H' := [.box [.d (.lit (List.map e_i64 x)), .d (.int .i64 x612)], .box [.nilc], .sl 4 (List.map e_SPoint ([(⟨(IntKind.wrap .i64 (r112 - 4)), 1, (IntKind.wrap .i64 (r113 - 4)), 1⟩ : SPoint)] : List SPoint)) false, .box [.nilc]]) ty29 (by kernel_rfl) (by kernel_rfl)) ?_
  refine oOp (.undef) (by kernel_rfl) (by kernel_rfl) (k_store (vs := [.ref 2 (List.length ([(⟨(IntKind.wrap .i64 (r112 - 4)), 1, (IntKind.wrap .i64 (r113 - 4)), 1⟩ : SPoint)] : List SPoint)) 0 (List.length ([(⟨(IntKind.wrap .i64 (r112 - 4)), 1, (IntKind.wrap .i64 (r113 - 4)), 1⟩ : SPoint)] : List SPoint))]) (H' := [.box [.d (.lit (List.map e_i64 x)), .d (.int .i64 x612)], .box [.nilc], .sl 4 (List.map e_SPoint ([(⟨(IntKind.wrap .i64 (r112 - 4)), 1, (IntKind.wrap .i64 (r113 - 4)), 1⟩ : SPoint)] : List SPoint)) false, .box [.ref 2 (List.length ([(⟨(IntKind.wrap .i64 (r112 - 4)), 1, (IntKind.wrap .i64 (r113 - 4)), 1⟩ : SPoint)] : List SPoint)) 0 (List.length ([(⟨(IntKind.wrap .i64 (r112 - 4)), 1, (IntKind.wrap .i64 (r113 - 4)), 1⟩ : SPoint)] : List SPoint))]]) 3 0 (by kernel_rfl) ty29 (by kernel_rfl) (by kernel_rfl) (by kernel_rfl)) ?_
  refine oEnd ?_
  refine oSeq ?_
  refine oSeq ?_
  refine oRegion rfl ?_
  refine oOp (.ptr 0 0) (by kernel_rfl) (by kernel_rfl) (PureV.does (p_move (by kernel_rfl))) ?_
  refine bCall (caps := []) (v := (uc fun (r114 : Int) => (fun (x613 : Int) => (.d (.int .i64 r114) : V)))) (H' := (uc fun (r114 : Int) => (fun (x613 : Int) => ([.box [.d (.lit (List.map e_i64 x)), .d (.int .i64 x613)], .box [.nilc], .sl 4 (List.map e_SPoint ([(⟨(IntKind.wrap .i64 (r112 - 4)), 1, (IntKind.wrap .i64 (r113 - 4)), 1⟩ : SPoint)] : List SPoint)) false, .box [.ref 2 (List.length ([(⟨(IntKind.wrap .i64 (r112 - 4)), 1, (IntKind.wrap .i64 (r113 - 4)), 1⟩ : SPoint)] : List SPoint)) 0 (List.length ([(⟨(IntKind.wrap .i64 (r112 - 4)), 1, (IntKind.wrap .i64 (r113 - 4)), 1⟩ : SPoint)] : List SPoint))]] : List Blk)))) [0] _ (mark_Dice_Next_goes k 4 x x612) (by kernel_rfl) (by kernel_rfl) rfl (by kernel_rfl) Try.func20 rfl (by kernel_rfl) (ConvRs.refl _ _) (by kernel_rfl) (by kernel_rfl) (by kernel_rfl) (by decide) (by kernel_rfl) (by kernel_rfl) (fun _ => (by kernel_rfl)) (fun _ => (by kernel_rfl)) (fun _ => (by kernel_rfl)) (fun r => ?_)
  obtain ⟨r114, x613⟩ := r
  refine bUc ?_
  refine oOp (.d (.int .i64 (IntKind.wrap .i64 (1 + r114)))) (by kernel_rfl) (by kernel_rfl) (PureV.does (p_int (k := .i64) (p := 1) (q := r114) (by kernel_rfl) (by kernel_rfl) (by kernel_rfl))) ?_
  refine oOp (.d (.int .i64 (IntKind.wrap .i64 (1 + r114)))) (by kernel_rfl) (by kernel_rfl) (PureV.does (p_assign (by kernel_rfl))) ?_
  refine oEnd ?_
  refine bJoin ((uc fun (x15 : Int) => (fun (xs7 : (List SPoint)) => [(2, .ptr 1 0), (5, .ptr 2 0)]))) ((uc fun (x15 : Int) => (fun (xs7 : (List SPoint)) => [.box [.d (.lit (List.map e_i64 x)), .d (.int .i64 x15)], .box [.nilc], .box [.ref 3 (List.length xs7) 0 (List.length xs7)], .sl 4 (List.map e_SPoint xs7) false]))) (fun s => s) (fun s => ?_) (fun hj2 => ?_)
  ·obtain ⟨x15, xs7⟩ := s
   refine bUc ?_
   refine oView (T' := [(2, .ptr 1 0), (5, .ptr 2 0)]) (H' := [.box [.d (.lit (List.map e_i64 x)), .d (.int .i64 x15)], .box [.nilc], .box [.ref 3 (List.length xs7) 0 (List.length xs7)], .sl 4 (List.map e_SPoint xs7) false]) (by kernel_rfl) (by kernel_rfl) ?_
   refine oSeq ?_
   refine oRegion rfl ?_
   refine oOp (.agg [.ref 3 (List.length xs7) 0 (List.length xs7)]) (by kernel_rfl) (by kernel_rfl) (Quiet.does (k_loadAgg 2 0 (by kernel_rfl) Try.underlying29 (by kernel_rfl) ty29 (by kernel_rfl))) ?_
   refine oOp (.undef) (by kernel_rfl) (by kernel_rfl) (k_store (vs := [.ref 3 (List.length xs7) 0 (List.length xs7)]) (H' := [.box [.d (.lit (List.map e_i64 x)), .d (.int .i64 x15)], .box [.ref 3 (List.length xs7) 0 (List.length xs7)], .box [.ref 3 (List.length xs7) 0 (List.length xs7)], .sl 4 (List.map e_SPoint xs7) false]) 1 0 (by kernel_rfl) ty29 (by kernel_rfl) (by kernel_rfl) (by kernel_rfl)) ?_
   refine oEnd ?_
   refine oFreeze 3 (esz := 4) (xs := List.map e_SPoint xs7) (by kernel_rfl) ?_
   refine oView (H' := [.box [.d (.lit (List.map e_i64 x)), .d (.int .i64 x15)], .box [.ref 3 (List.length xs7) 0 (List.length xs7)], .box [.ref 3 (List.length xs7) 0 (List.length xs7)], .sl 4 (List.map e_SPoint xs7) true]) rfl (by kernel_rfl) ?_
   refine oConvB 1 (cells := [.ref 3 (List.length xs7) 0 (List.length xs7)]) (cells' := [.d (.lit (List.map e_SPoint xs7))]) (by kernel_rfl) (.cons _ _ _ _ (k_lit (enc := e_SPoint) (sz := 4) 3 xs7 (by kernel_rfl)) .nil) ?_
   refine oView (H' := [.box [.d (.lit (List.map e_i64 x)), .d (.int .i64 x15)], .box [.d (.lit (List.map e_SPoint xs7))], .box [.ref 3 (List.length xs7) 0 (List.length xs7)], .sl 4 (List.map e_SPoint xs7) true]) rfl (by kernel_rfl) ?_
   exact oRet (r0 := (xs7, x15)) (rv := .agg [.d (.lit (List.map e_SPoint xs7))]) (B := [.box [.d (.lit (List.map e_i64 x)), .d (.int .i64 x15)]]) (vs := [.agg [.d (.lit (List.map e_SPoint xs7))]]) (σ := [0]) (by kernel_rfl) Try.func9 rfl (.cons _ _ _ _ (.agg 2 29 1 0 [.d (.lit (List.map e_SPoint xs7))] [.d (.lit (List.map e_SPoint xs7))] _ _ _ _ (by kernel_rfl) (by kernel_rfl) Try.underlying29 (by kernel_rfl) ty29 (by kernel_rfl) (by kernel_rfl)) .nil) (by kernel_rfl) (by kernel_rfl) (by kernel_rfl) (by kernel_rfl) (by decide) (by kernel_rfl) (by kernel_rfl)
  ·refine oBlock ?_
   refine oLoop ?_
   refine oHead [0, 2, 3, 4, 5, 6] [0, 1, 3, 2] (T' := [(0, .ptr 0 0), (2, .ptr 1 0), (3, .d (.int .i64 (IntKind.wrap .i64 (r112 - 4)))), (4, .d (.int .i64 (IntKind.wrap .i64 (r113 - 4)))), (5, .ptr 2 0), (6, .d (.int .i64 (IntKind.wrap .i64 (1 + r114))))]) (H' := [.box [.d (.lit (List.map e_i64 x)), .d (.int .i64 x613)], .box [.nilc], .box [.ref 3 (List.length ([(⟨(IntKind.wrap .i64 (r112 - 4)), 1, (IntKind.wrap .i64 (r113 - 4)), 1⟩ : SPoint)] : List SPoint)) 0 (List.length ([(⟨(IntKind.wrap .i64 (r112 - 4)), 1, (IntKind.wrap .i64 (r113 - 4)), 1⟩ : SPoint)] : List SPoint))], .sl 4 (List.map e_SPoint ([(⟨(IntKind.wrap .i64 (r112 - 4)), 1, (IntKind.wrap .i64 (r113 - 4)), 1⟩ : SPoint)] : List SPoint)) false]) (by kernel_rfl) (by kernel_rfl) (by kernel_rfl) (by kernel_rfl) (by decide) (by kernel_rfl) (by kernel_rfl) ?_
   refine bLoop (body := mark_Dice_Curve_b1 k x) ((uc fun (x17 : Int) => (uc fun (y7 : Int) => (uc fun (i7 : Int) => (uc fun (x18 : Int) => (fun (xs9 : (List SPoint)) => [(0, .ptr 0 0), (2, .ptr 1 0), (3, .d (.int .i64 x17)), (4, .d (.int .i64 y7)), (5, .ptr 2 0), (6, .d (.int .i64 i7))])))))) ((uc fun (x17 : Int) => (uc fun (y7 : Int) => (uc fun (i7 : Int) => (uc fun (x18 : Int) => (fun (xs9 : (List SPoint)) => [.box [.d (.lit (List.map e_i64 x)), .d (.int .i64 x18)], .box [.nilc], .box [.ref 3 (List.length xs9) 0 (List.length xs9)], .sl 4 (List.map e_SPoint xs9) false])))))) (fun again hag1 s => ?_) k ((IntKind.wrap .i64 (r112 - 4)), (IntKind.wrap .i64 (r113 - 4)), (IntKind.wrap .i64 (1 + r114)), x613, ([(⟨(IntKind.wrap .i64 (r112 - 4)), 1, (IntKind.wrap .i64 (r113 - 4)), 1⟩ : SPoint)] : List SPoint))
   ·unfold mark_Dice_Curve_b1
    obtain ⟨x17, y7, i7, x18, xs9⟩ := s
    refine bUc ?_
    refine bUc ?_
    refine bUc ?_
    refine bUc ?_
    refine oView (T' := [(0, .ptr 0 0), (2, .ptr 1 0), (3, .d (.int .i64 x17)), (4, .d (.int .i64 y7)), (5, .ptr 2 0), (6, .d (.int .i64 i7))]) (H' := [.box [.d (.lit (List.map e_i64 x)), .d (.int .i64 x18)], .box [.nilc], .box [.ref 3 (List.length xs9) 0 (List.length xs9)], .sl 4 (List.map e_SPoint xs9) false]) (by kernel_rfl) (by kernel_rfl) ?_
    refine oSeq ?_
    refine oSeq ?_
    refine oRegion rfl ?_
    refine oOp (.d (.int .i64 i7)) (by kernel_rfl) (by kernel_rfl) (PureV.does (p_move (by kernel_rfl))) ?_
    refine oOp (.d (.bool (decide (i7 > 0)))) (by kernel_rfl) (by kernel_rfl) (PureV.does (p_int (k := .i64) (p := i7) (q := 0) (by kernel_rfl) (by kernel_rfl) (by kernel_rfl))) ?_
    refine oEnd ?_
    refine bSplit 24 (by kernel_rfl) (fun hc => ?_) (fun hc => ?_)
    ·refine oCondT (by kernel_rfl) ?_
     refine oSkip ?_
     refine oSeq ?_
     refine oBlock ?_
     refine oSeq ?_
     refine oRegion rfl ?_
     refine oOp (.d (.int .i64 x17)) (by kernel_rfl) (by kernel_rfl) (PureV.does (p_move (by kernel_rfl))) ?_
     refine oOp (.d (.int .i64 (IntKind.wrap .i64 (x17 + 1)))) (by kernel_rfl) (by kernel_rfl) (PureV.does (p_int (k := .i64) (p := x17) (q := 1) (by kernel_rfl) (by kernel_rfl) (by kernel_rfl))) ?_
     refine oOp (.ptr 0 0) (by kernel_rfl) (by kernel_rfl) (PureV.does (p_move (by kernel_rfl))) ?_
     refine bCall (caps := []) (v := (uc fun (r133 : Int) => (fun (x632 : Int) => (.d (.int .i64 r133) : V)))) (H' := (uc fun (r133 : Int) => (fun (x632 : Int) => ([.box [.d (.lit (List.map e_i64 x)), .d (.int .i64 x632)], .box [.nilc], .box [.ref 3 (List.length xs9) 0 (List.length xs9)], .sl 4 (List.map e_SPoint xs9) false] : List Blk)))) [0] _ (mark_Dice_Next_goes k 3 x x18) (by kernel_rfl) (by kernel_rfl) rfl (by kernel_rfl) Try.func20 rfl (by kernel_rfl) (ConvRs.refl _ _) (by kernel_rfl) (by kernel_rfl) (by kernel_rfl) (by decide) (by kernel_rfl) (by kernel_rfl) (fun _ => (by kernel_rfl)) (fun _ => (by kernel_rfl)) (fun _ => (by kernel_rfl)) (fun r => ?_)
     obtain ⟨r133, x632⟩ := r
     refine bUc ?_
     refine oOp (.d (.int .i64 (IntKind.wrap .i64 ((IntKind.wrap .i64 (x17 + 1)) + r133)))) (by kernel_rfl) (by kernel_rfl) (PureV.does (p_int (k := .i64) (p := (IntKind.wrap .i64 (x17 + 1))) (q := r133) (by kernel_rfl) (by kernel_rfl) (by kernel_rfl))) ?_
     refine oOp (.d (.int .i64 y7)) (by kernel_rfl) (by kernel_rfl) (PureV.does (p_move (by kernel_rfl))) ?_
     refine oOp (.d (.int .i64 (IntKind.wrap .i64 (y7 + 1)))) (by kernel_rfl) (by kernel_rfl) (PureV.does (p_int (k := .i64) (p := y7) (q := 1) (by kernel_rfl) (by kernel_rfl) (by kernel_rfl))) ?_
     refine oOp (.ptr 0 0) (by kernel_rfl) (by kernel_rfl) (PureV.does (p_move (by kernel_rfl))) ?_
     refine bCall (caps := []) (v := (uc fun (r134 : Int) => (fun (x633 : Int) => (.d (.int .i64 r134) : V)))) (H' := (uc fun (r134 : Int) => (fun (x633 : Int) => ([.box [.d (.lit (List.map e_i64 x)), .d (.int .i64 x633)], .box [.nilc], .box [.ref 3 (List.length xs9) 0 (List.length xs9)], .sl 4 (List.map e_SPoint xs9) false] : List Blk)))) [0] _ (mark_Dice_Next_goes k 4 x x632) (by kernel_rfl) (by kernel_rfl) rfl (by kernel_rfl) Try.func20 rfl (by kernel_rfl) (ConvRs.refl _ _) (by kernel_rfl) (by kernel_rfl) (by kernel_rfl) (by decide) (by kernel_rfl) (by kernel_rfl) (fun _ => (by kernel_rfl)) (fun _ => (by kernel_rfl)) (fun _ => (by kernel_rfl)) (fun r => ?_)
     obtain ⟨r134, x633⟩ := r
     refine bUc ?_
     refine oOp (.d (.int .i64 (IntKind.wrap .i64 ((IntKind.wrap .i64 (y7 + 1)) + r134)))) (by kernel_rfl) (by kernel_rfl) (PureV.does (p_int (k := .i64) (p := (IntKind.wrap .i64 (y7 + 1))) (q := r134) (by kernel_rfl) (by kernel_rfl) (by kernel_rfl))) ?_
     refine oOp (.d (.int .i64 (IntKind.wrap .i64 ((IntKind.wrap .i64 (x17 + 1)) + r133)))) (by kernel_rfl) (by kernel_rfl) (PureV.does (p_assign (by kernel_rfl))) ?_
     refine oOp (.d (.int .i64 (IntKind.wrap .i64 ((IntKind.wrap .i64 (y7 + 1)) + r134)))) (by kernel_rfl) (by kernel_rfl) (PureV.does (p_assign (by kernel_rfl))) ?_
     refine oEnd ?_
     refine oRegion rfl ?_
     refine oOp (.ptr 2 0) (by kernel_rfl) (by kernel_rfl) (PureV.does (k_fieldAddr 2 0 (by kernel_rfl) Try.underlying29 rfl ty27 (by kernel_rfl))) ?_
     refine oOp (.ref 3 (List.length xs9) 0 (List.length xs9)) (by kernel_rfl) (by kernel_rfl) (Quiet.does (k_load 2 0 (by kernel_rfl) Try.underlying27 (by kernel_rfl) (by kernel_rfl))) ?_
     refine oOp (.d (.int .i64 (IntKind.wrap .i64 ((IntKind.wrap .i64 (x17 + 1)) + r133)))) (by kernel_rfl) (by kernel_rfl) (PureV.does (p_move (by kernel_rfl))) ?_
     refine oOp (.agg [.d (.int .i64 (IntKind.wrap .i64 ((IntKind.wrap .i64 (x17 + 1)) + r133))), .d (.int .i64 1)]) (by kernel_rfl) (by kernel_rfl) (PureV.does (p_build bld37 (by kernel_rfl))) ?_
     refine oOp (.d (.int .i64 (IntKind.wrap .i64 ((IntKind.wrap .i64 (y7 + 1)) + r134)))) (by kernel_rfl) (by kernel_rfl) (PureV.does (p_move (by kernel_rfl))) ?_
     refine oOp (.agg [.d (.int .i64 (IntKind.wrap .i64 ((IntKind.wrap .i64 (y7 + 1)) + r134))), .d (.int .i64 1)]) (by kernel_rfl) (by kernel_rfl) (PureV.does (p_build bld37 (by kernel_rfl))) ?_
     refine oOp (.agg [.d (.int .i64 (IntKind.wrap .i64 ((IntKind.wrap .i64 (x17 + 1)) + r133))), .d (.int .i64 1), .d (.int .i64 (IntKind.wrap .i64 ((IntKind.wrap .i64 (y7 + 1)) + r134))), .d (.int .i64 1)]) (by kernel_rfl) (by kernel_rfl) (PureV.does (p_build bld39 (by kernel_rfl))) ?_
     refine oOp (.ref 4 (List.length ([(⟨(IntKind.wrap .i64 ((IntKind.wrap .i64 (x17 + 1)) + r133)), 1, (IntKind.wrap .i64 ((IntKind.wrap .i64 (y7 + 1)) + r134)), 1⟩ : SPoint)] : List SPoint)) 0 (List.length ([(⟨(IntKind.wrap .i64 ((IntKind.wrap .i64 (x17 + 1)) + r133)), 1, (IntKind.wrap .i64 ((IntKind.wrap .i64 (y7 + 1)) + r134)), 1⟩ : SPoint)] : List SPoint))) (by kernel_rfl) (by kernel_rfl) (k_buildSlice (H' := [.box [.d (.lit (List.map e_i64 x)), .d (.int .i64 x633)], .box [.nilc], .box [.ref 3 (List.length xs9) 0 (List.length xs9)], .sl 4 (List.map e_SPoint xs9) false, .sl 4 (List.map e_SPoint ([(⟨(IntKind.wrap .i64 ((IntKind.wrap .i64 (x17 + 1)) + r133)), 1, (IntKind.wrap .i64 ((IntKind.wrap .i64 (y7 + 1)) + r134)), 1⟩ : SPoint)] : List SPoint)) false]) (List.map e_SPoint ([(⟨(IntKind.wrap .i64 ((IntKind.wrap .i64 (x17 + 1)) + r133)), 1, (IntKind.wrap .i64 ((IntKind.wrap .i64 (y7 + 1)) + r134)), 1⟩ : SPoint)] : List SPoint)) Try.underlying27 ty39 (by kernel_rfl) (by kernel_rfl) (by kernel_rfl)) ?_
     refine bCap (fun h113 => ?_)
     refine oOp (.ref 3 (List.length (xs9 ++ ([(⟨(IntKind.wrap .i64 ((IntKind.wrap .i64 (x17 + 1)) + r133)), 1, (IntKind.wrap .i64 ((IntKind.wrap .i64 (y7 + 1)) + r134)), 1⟩ : SPoint)] : List SPoint))) 0 (List.length (xs9 ++ ([(⟨(IntKind.wrap .i64 ((IntKind.wrap .i64 (x17 + 1)) + r133)), 1, (IntKind.wrap .i64 ((IntKind.wrap .i64 (y7 + 1)) + r134)), 1⟩ : SPoint)] : List SPoint)))) (by kernel_rfl) (by kernel_rfl) (k_append (H' := [.box [.d (.lit (List.map e_i64 x)), .d (.int .i64 x633)], .box [.nilc], .box [.ref 3 (List.length xs9) 0 (List.length xs9)], .sl 4 (List.map e_SPoint (xs9 ++ ([(⟨(IntKind.wrap .i64 ((IntKind.wrap .i64 (x17 + 1)) + r133)), 1, (IntKind.wrap .i64 ((IntKind.wrap .i64 (y7 + 1)) + r134)), 1⟩ : SPoint)] : List SPoint))) false, .sl 4 (List.map e_SPoint ([(⟨(IntKind.wrap .i64 ((IntKind.wrap .i64 (x17 + 1)) + r133)), 1, (IntKind.wrap .i64 ((IntKind.wrap .i64 (y7 + 1)) + r134)), 1⟩ : SPoint)] : List SPoint)) false]) (enc := e_SPoint) 3 xs9 ([(⟨(IntKind.wrap .i64 ((IntKind.wrap .i64 (x17 + 1)) + r133)), 1, (IntKind.wrap .i64 ((IntKind.wrap .i64 (y7 + 1)) + r134)), 1⟩ : SPoint)] : List SPoint) Try.underlying27 Try.underlying27 ty39 (by kernel_rfl) (by kernel_rfl) (by kernel_rfl) (holdsRef (enc := e_SPoint) 4 ([(⟨(IntKind.wrap .i64 ((IntKind.wrap .i64 (x17 + 1)) + r133)), 1, (IntKind.wrap .i64 ((IntKind.wrap .i64 (y7 + 1)) + r134)), 1⟩ : SPoint)] : List SPoint) false (by kernel_rfl) (by kernel_rfl)) h113 (by kernel_rfl)) ?_
     refine oOp (.ptr 2 0) (by kernel_rfl) (by kernel_rfl) (PureV.does (k_fieldAddr 2 0 (by kernel_rfl) Try.underlying29 rfl ty27 (by kernel_rfl))) ?_
     refine oOp (.undef) (by kernel_rfl) (by kernel_rfl) (k_store (vs := [.ref 3 (List.length (xs9 ++ ([(⟨(IntKind.wrap .i64 ((IntKind.wrap .i64 (x17 + 1)) + r133)), 1, (IntKind.wrap .i64 ((IntKind.wrap .i64 (y7 + 1)) + r134)), 1⟩ : SPoint)] : List SPoint))) 0 (List.length (xs9 ++ ([(⟨(IntKind.wrap .i64 ((IntKind.wrap .i64 (x17 + 1)) + r133)), 1, (IntKind.wrap .i64 ((IntKind.wrap .i64 (y7 + 1)) + r134)), 1⟩ : SPoint)] : List SPoint)))]) (H' := [.box [.d (.lit (List.map e_i64 x)), .d (.int .i64 x633)], .box [.nilc], .box [.ref 3 (List.length (xs9 ++ ([(⟨(IntKind.wrap .i64 ((IntKind.wrap .i64 (x17 + 1)) + r133)), 1, (IntKind.wrap .i64 ((IntKind.wrap .i64 (y7 + 1)) + r134)), 1⟩ : SPoint)] : List SPoint))) 0 (List.length (xs9 ++ ([(⟨(IntKind.wrap .i64 ((IntKind.wrap .i64 (x17 + 1)) + r133)), 1, (IntKind.wrap .i64 ((IntKind.wrap .i64 (y7 + 1)) + r134)), 1⟩ : SPoint)] : List SPoint)))], .sl 4 (List.map e_SPoint (xs9 ++ ([(⟨(IntKind.wrap .i64 ((IntKind.wrap .i64 (x17 + 1)) + r133)), 1, (IntKind.wrap .i64 ((IntKind.wrap .i64 (y7 + 1)) + r134)), 1⟩ : SPoint)] : List SPoint))) false, .sl 4 (List.map e_SPoint ([(⟨(IntKind.wrap .i64 ((IntKind.wrap .i64 (x17 + 1)) + r133)), 1, (IntKind.wrap .i64 ((IntKind.wrap .i64 (y7 + 1)) + r134)), 1⟩ : SPoint)] : List SPoint)) false]) 2 0 (by kernel_rfl) ty27 (by kernel_rfl) (by kernel_rfl) (by kernel_rfl)) ?_
     refine oEnd ?_
     refine oBlk ?_
     refine oRegion rfl ?_
     refine oOp (.d (.int .i64 i7)) (by kernel_rfl) (by kernel_rfl) (PureV.does (p_move (by kernel_rfl))) ?_
     refine oOp (.d (.int .i64 (IntKind.wrap .i64 (i7 - 1)))) (by kernel_rfl) (by kernel_rfl) (PureV.does (p_int (k := .i64) (p := i7) (q := 1) (by kernel_rfl) (by kernel_rfl) (by kernel_rfl))) ?_
     refine oOp (.d (.int .i64 (IntKind.wrap .i64 (i7 - 1)))) (by kernel_rfl) (by kernel_rfl) (PureV.does (p_assign (by kernel_rfl))) ?_
     refine oEnd ?_
     refine oAgain ?_
     refine oHead [0, 2, 3, 4, 5, 6] [0, 1, 2, 3] (T' := [(0, .ptr 0 0), (2, .ptr 1 0), (3, .d (.int .i64 (IntKind.wrap .i64 ((IntKind.wrap .i64 (x17 + 1)) + r133)))), (4, .d (.int .i64 (IntKind.wrap .i64 ((IntKind.wrap .i64 (y7 + 1)) + r134)))), (5, .ptr 2 0), (6, .d (.int .i64 (IntKind.wrap .i64 (i7 - 1))))]) (H' := [.box [.d (.lit (List.map e_i64 x)), .d (.int .i64 x633)], .box [.nilc], .box [.ref 3 (List.length (xs9 ++ ([(⟨(IntKind.wrap .i64 ((IntKind.wrap .i64 (x17 + 1)) + r133)), 1, (IntKind.wrap .i64 ((IntKind.wrap .i64 (y7 + 1)) + r134)), 1⟩ : SPoint)] : List SPoint))) 0 (List.length (xs9 ++ ([(⟨(IntKind.wrap .i64 ((IntKind.wrap .i64 (x17 + 1)) + r133)), 1, (IntKind.wrap .i64 ((IntKind.wrap .i64 (y7 + 1)) + r134)), 1⟩ : SPoint)] : List SPoint)))], .sl 4 (List.map e_SPoint (xs9 ++ ([(⟨(IntKind.wrap .i64 ((IntKind.wrap .i64 (x17 + 1)) + r133)), 1, (IntKind.wrap .i64 ((IntKind.wrap .i64 (y7 + 1)) + r134)), 1⟩ : SPoint)] : List SPoint))) false]) (by kernel_rfl) (by kernel_rfl) (by kernel_rfl) (by kernel_rfl) (by decide) (by kernel_rfl) (by kernel_rfl) ?_
     exact hag1 ((IntKind.wrap .i64 ((IntKind.wrap .i64 (x17 + 1)) + r133)), (IntKind.wrap .i64 ((IntKind.wrap .i64 (y7 + 1)) + r134)), (IntKind.wrap .i64 (i7 - 1)), x633, (xs9 ++ ([(⟨(IntKind.wrap .i64 ((IntKind.wrap .i64 (x17 + 1)) + r133)), 1, (IntKind.wrap .i64 ((IntKind.wrap .i64 (y7 + 1)) + r134)), 1⟩ : SPoint)] : List SPoint)))
    ·refine oCondF (by kernel_rfl) ?_
     refine oExit rfl ?_
     refine oHead [2, 5] [0, 1, 2, 3] (T' := [(2, .ptr 1 0), (5, .ptr 2 0)]) (H' := [.box [.d (.lit (List.map e_i64 x)), .d (.int .i64 x18)], .box [.nilc], .box [.ref 3 (List.length xs9) 0 (List.length xs9)], .sl 4 (List.map e_SPoint xs9) false]) (by kernel_rfl) (by kernel_rfl) (by kernel_rfl) (by kernel_rfl) (by decide) (by kernel_rfl) (by kernel_rfl) ?_
     exact hj2 (x18, xs9)

/-- slices.Equal[[]awardingbody/api.Point,awardingbody/api.Point] -/
def slices_Equal_api_Point_api_Point_b1 (k : Nat) (s1 : (List SPoint)) (s2 : (List SPoint)) (again : Int → Option ((Unit) ⊕ (Bool))) : Int → Option ((Unit) ⊕ (Bool)) := fun x4 => bif (decide (x4 < ((List.length s1) : Int))) then gidx s1 x4 fun e1 => gidx s2 x4 fun e11 => bif (!(((e1.X_Num == e11.X_Num) && ((e1.X_Den == e11.X_Den) && true)) && (((e1.Y_Num == e11.Y_Num) && ((e1.Y_Den == e11.Y_Den) && true)) && true))) then some (Sum.inr false) else again (IntKind.wrap .i64 (x4 + 1)) else some (Sum.inl ())
def slices_Equal_api_Point_api_Point (k : Nat) (s1 : (List SPoint)) (s2 : (List SPoint)) : Option (Bool) := bif (((List.length s1) : Int) != ((List.length s2) : Int)) then some false else Option.bind (gloop (slices_Equal_api_Point_api_Point_b1 k s1 s2) k 0 : Option ((Unit) ⊕ (Bool))) (Sum.elim (u0 (some true)) (fun r => some r))
def slices_Equal_api_Point_api_Point_E (s1 : (List SPoint)) (s2 : (List SPoint)) : Bool → V × List Blk := fun r1 => (.d (.bool r1), [])
theorem slices_Equal_api_Point_api_Point_goes (k : Nat) (s1 : (List SPoint)) (s2 : (List SPoint)) : RunsO Try.prog 22 [.d (.lit (List.map e_SPoint s1)), .d (.lit (List.map e_SPoint s2))] [] (slices_Equal_api_Point_api_Point_E s1 s2) (slices_Equal_api_Point_api_Point k s1 s2) := by
  refine RunsO.of_goes (N := 26) (m := 0) (T := [(0, .d (.lit (List.map e_SPoint s1))), (1, .d (.lit (List.map e_SPoint s2)))]) Try.func22 rfl rfl (by kernel_rfl) (by kernel_rfl) (by kernel_rfl) ?_
  unfold slices_Equal_api_Point_api_Point
  refine bStart ?_
  refine oSeq ?_
  refine oRegion rfl ?_
  refine oOp (.d (.bool false)) (by kernel_rfl) (by kernel_rfl) (PureV.does (p_assign (by kernel_rfl))) ?_
  refine oEnd ?_
  refine oSeq ?_
  refine oSeq ?_
  refine oRegion rfl ?_
  refine oOp (.d (.lit (List.map e_SPoint s1))) (by kernel_rfl) (by kernel_rfl) (PureV.does (p_move (by kernel_rfl))) ?_
  refine oOp (.d (.int .i64 ((List.length s1) : Int))) (by kernel_rfl) (by kernel_rfl) (PureV.does (k_lenLit (enc := e_SPoint) s1 (by kernel_rfl) Try.underlying27)) ?_
  refine oOp (.d (.lit (List.map e_SPoint s2))) (by kernel_rfl) (by kernel_rfl) (PureV.does (p_move (by kernel_rfl))) ?_
  refine oOp (.d (.int .i64 ((List.length s2) : Int))) (by kernel_rfl) (by kernel_rfl) (PureV.does (k_lenLit (enc := e_SPoint) s2 (by kernel_rfl) Try.underlying27)) ?_
  refine oOp (.d (.bool (((List.length s1) : Int) != ((List.length s2) : Int)))) (by kernel_rfl) (by kernel_rfl) (PureV.does (p_int (k := .i64) (p := ((List.length s1) : Int)) (q := ((List.length s2) : Int)) (by kernel_rfl) (by kernel_rfl) (by kernel_rfl))) ?_
  refine oEnd ?_
  refine bSplit 10 (by kernel_rfl) (fun hc => ?_) (fun hc => ?_)
  ·refine oCondT (by kernel_rfl) ?_
   refine oSeq ?_
   refine oRegion rfl ?_
   refine oOp (.d (.bool false)) (by kernel_rfl) (by kernel_rfl) (PureV.does (p_assign (by kernel_rfl))) ?_
   refine oEnd ?_
   exact oRet (r0 := false) (rv := .d (.bool false)) (B := []) (vs := [.d (.bool false)]) (σ := []) (by kernel_rfl) Try.func22 rfl (.cons _ _ _ _ (.tmp 4 _ (by kernel_rfl)) .nil) (by kernel_rfl) (by kernel_rfl) (by kernel_rfl) (by kernel_rfl) (by decide) (by kernel_rfl) (by kernel_rfl)
  ·refine oCondF (by kernel_rfl) ?_
   refine oSkip ?_
   refine oSeq ?_
   refine oSeq ?_
   refine oRegion rfl ?_
   refine oOp (.d (.lit (List.map e_SPoint s1))) (by kernel_rfl) (by kernel_rfl) (PureV.does (p_move (by kernel_rfl))) ?_
   refine oOp (.d (.int .i64 ((List.length s1) : Int))) (by kernel_rfl) (by kernel_rfl) (PureV.does (k_lenLit (enc := e_SPoint) s1 (by kernel_rfl) Try.underlying27)) ?_
   refine oOp (.d (.int .i64 0)) (by kernel_rfl) (by kernel_rfl) (PureV.does (p_move (by kernel_rfl))) ?_
   refine oEnd ?_
   refine bJoin ((u0 ([]))) ((u0 ([]))) Sum.inl (fun s => ?_) (fun hj2 => ?_)
   ·cases s
    refine bInl ?_
    refine bU0 ?_
    refine oView (T' := []) (H' := []) (by kernel_rfl) (by kernel_rfl) ?_
    refine oSeq ?_
    refine oRegion rfl ?_
    refine oOp (.d (.bool true)) (by kernel_rfl) (by kernel_rfl) (PureV.does (p_assign (by kernel_rfl))) ?_
    refine oEnd ?_
    exact oRet (r0 := true) (rv := .d (.bool true)) (B := []) (vs := [.d (.bool true)]) (σ := []) (by kernel_rfl) Try.func22 rfl (.cons _ _ _ _ (.tmp 4 _ (by kernel_rfl)) .nil) (by kernel_rfl) (by kernel_rfl) (by kernel_rfl) (by kernel_rfl) (by decide) (by kernel_rfl) (by kernel_rfl)
   ·refine oBlock ?_
    refine oLoop ?_
    refine oHead [0, 1, 12, 13] [] (T' := [(0, .d (.lit (List.map e_SPoint s1))), (1, .d (.lit (List.map e_SPoint s2))), (12, .d (.int .i64 ((List.length s1) : Int))), (13, .d (.int .i64 0))]) (H' := []) (by kernel_rfl) (by kernel_rfl) (by kernel_rfl) (by kernel_rfl) (by decide) (by kernel_rfl) (by kernel_rfl) ?_
    refine bLoop (body := slices_Equal_api_Point_api_Point_b1 k s1 s2) ((fun (x4 : Int) => [(0, .d (.lit (List.map e_SPoint s1))), (1, .d (.lit (List.map e_SPoint s2))), (12, .d (.int .i64 ((List.length s1) : Int))), (13, .d (.int .i64 x4))])) ((fun (x4 : Int) => [])) (fun again hag1 x4 => ?_) k 0
    ·unfold slices_Equal_api_Point_api_Point_b1
     refine oView (T' := [(0, .d (.lit (List.map e_SPoint s1))), (1, .d (.lit (List.map e_SPoint s2))), (12, .d (.int .i64 ((List.length s1) : Int))), (13, .d (.int .i64 x4))]) (H' := []) (by kernel_rfl) (by kernel_rfl) ?_
     refine oSeq ?_
     refine oRegion rfl ?_
     refine oOp (.d (.bool (decide (x4 < ((List.length s1) : Int))))) (by kernel_rfl) (by kernel_rfl) (PureV.does (p_int (k := .i64) (p := x4) (q := ((List.length s1) : Int)) (by kernel_rfl) (by kernel_rfl) (by kernel_rfl))) ?_
     refine oEnd ?_
     refine oSeq ?_
     refine bSplit 14 (by kernel_rfl) (fun hc => ?_) (fun hc => ?_)
     ·refine oCondT (by kernel_rfl) ?_
      refine oSkip ?_
      refine oSeq ?_
      refine oBlock ?_
      refine oSeq ?_
      refine oRegion rfl ?_
      refine oOp (.d (.int .i64 x4)) (by kernel_rfl) (by kernel_rfl) (PureV.does (p_move (by kernel_rfl))) ?_
      refine oOp (.d (.int .i64 x4)) (by kernel_rfl) (by kernel_rfl) (PureV.does (p_assign (by kernel_rfl))) ?_
      refine oEnd ?_
      refine oSeq ?_
      refine oDraw [] rfl ?_
      refine aTakeL (i := 0) (st' := []) (.d (.lit (List.map e_SPoint s1))) rfl (by kernel_rfl) (by kernel_rfl) (by kernel_rfl) (by kernel_rfl) (by kernel_rfl) (by kernel_rfl) (by kernel_rfl) (PureV.quiet (p_move (by kernel_rfl)) []) ?_
      refine aTakeL (i := 1) (st' := []) (.d (.int .i64 x4)) rfl (by kernel_rfl) (by kernel_rfl) (by kernel_rfl) (by kernel_rfl) (by kernel_rfl) (by kernel_rfl) (by kernel_rfl) (PureV.quiet (p_move (by kernel_rfl)) []) ?_
      refine dIdx (fun e1 h1 h11 => ?_)
      refine aTakeL (i := 2) (st' := []) (.lptr (e_SPoint e1) 0) rfl (by kernel_rfl) (by kernel_rfl) (by kernel_rfl) (by kernel_rfl) (by kernel_rfl) (by kernel_rfl) (by kernel_rfl) (PureV.quiet (k_idxLit e_SPoint_len s1 (a := e1) (by kernel_rfl) (k := .i64) (i := x4) (by kernel_rfl) Try.underlying27 ty39 h1 h11) []) ?_
      refine aTakeL (i := 3) (st' := []) (.agg [.d (.int .i64 e1.X_Num), .d (.int .i64 e1.X_Den), .d (.int .i64 e1.Y_Num), .d (.int .i64 e1.Y_Den)]) rfl (by kernel_rfl) (by kernel_rfl) (by kernel_rfl) (by kernel_rfl) (by kernel_rfl) (by kernel_rfl) (by kernel_rfl) (k_loadLAgg (cells := e_SPoint e1) 0 [(.int .i64 e1.X_Num), (.int .i64 e1.X_Den), (.int .i64 e1.Y_Num), (.int .i64 e1.Y_Den)] (by kernel_rfl) Try.underlying39 (by kernel_rfl) ty39 (by kernel_rfl) (by kernel_rfl) (by kernel_rfl)) ?_
      refine aTakeL (i := 4) (st' := []) (.d (.lit (List.map e_SPoint s2))) rfl (by kernel_rfl) (by kernel_rfl) (by kernel_rfl) (by kernel_rfl) (by kernel_rfl) (by kernel_rfl) (by kernel_rfl) (PureV.quiet (p_move (by kernel_rfl)) []) ?_
      refine aTakeL (i := 5) (st' := []) (.d (.int .i64 x4)) rfl (by kernel_rfl) (by kernel_rfl) (by kernel_rfl) (by kernel_rfl) (by kernel_rfl) (by kernel_rfl) (by kernel_rfl) (PureV.quiet (p_move (by kernel_rfl)) []) ?_
      refine dIdx (fun e11 h12 h13 => ?_)
      refine aTakeL (i := 6) (st' := []) (.lptr (e_SPoint e11) 0) rfl (by kernel_rfl) (by kernel_rfl) (by kernel_rfl) (by kernel_rfl) (by kernel_rfl) (by kernel_rfl) (by kernel_rfl) (PureV.quiet (k_idxLit e_SPoint_len s2 (a := e11) (by kernel_rfl) (k := .i64) (i := x4) (by kernel_rfl) Try.underlying27 ty39 h12 h13) []) ?_
      refine aTakeL (i := 7) (st' := []) (.agg [.d (.int .i64 e11.X_Num), .d (.int .i64 e11.X_Den), .d (.int .i64 e11.Y_Num), .d (.int .i64 e11.Y_Den)]) rfl (by kernel_rfl) (by kernel_rfl) (by kernel_rfl) (by kernel_rfl) (by kernel_rfl) (by kernel_rfl) (by kernel_rfl) (k_loadLAgg (cells := e_SPoint e11) 0 [(.int .i64 e11.X_Num), (.int .i64 e11.X_Den), (.int .i64 e11.Y_Num), (.int .i64 e11.Y_Den)] (by kernel_rfl) Try.underlying39 (by kernel_rfl) ty39 (by kernel_rfl) (by kernel_rfl) (by kernel_rfl)) ?_
      refine aTakeL (i := 8) (st' := []) (.d (.bool (!(((e1.X_Num == e11.X_Num) && ((e1.X_Den == e11.X_Den) && true)) && (((e1.Y_Num == e11.Y_Num) && ((e1.Y_Den == e11.Y_Den) && true)) && true))))) rfl (by kernel_rfl) (by kernel_rfl) (by kernel_rfl) (by kernel_rfl) (by kernel_rfl) (by kernel_rfl) (by kernel_rfl) (PureV.quiet (k_neAgg (by kernel_rfl) (by kernel_rfl) Try.eqGuardType39 (EqV.struct 2 39 [.d (.int .i64 e1.X_Num), .d (.int .i64 e1.X_Den), .d (.int .i64 e1.Y_Num), .d (.int .i64 e1.Y_Den)] [.d (.int .i64 e11.X_Num), .d (.int .i64 e11.X_Den), .d (.int .i64 e11.Y_Num), .d (.int .i64 e11.Y_Den)] _ (((e1.X_Num == e11.X_Num) && ((e1.X_Den == e11.X_Den) && true)) && (((e1.Y_Num == e11.Y_Num) && ((e1.Y_Den == e11.Y_Den) && true)) && true)) Try.underlying39 Try.stoodInHeld39 (EqF.agg 2 2 _ _ _ _ _ _ _ ((e1.X_Num == e11.X_Num) && ((e1.X_Den == e11.X_Den) && true)) (((e1.Y_Num == e11.Y_Num) && ((e1.Y_Den == e11.Y_Den) && true)) && true) _ _ _ (by kernel_rfl) Try.underlying37 (by kernel_rfl) ty37 (by kernel_rfl) (by kernel_rfl) (by kernel_rfl) (by kernel_rfl) (EqV.struct 1 37 [.d (.int .i64 e1.X_Num), .d (.int .i64 e1.X_Den)] [.d (.int .i64 e11.X_Num), .d (.int .i64 e11.X_Den)] _ ((e1.X_Num == e11.X_Num) && ((e1.X_Den == e11.X_Den) && true)) Try.underlying37 Try.stoodInHeld37 (EqF.one 1 1 _ _ _ _ _ _ _ (e1.X_Num == e11.X_Num) ((e1.X_Den == e11.X_Den) && true) (by kernel_rfl) Try.underlying3 (by kernel_rfl) (by kernel_rfl) (by kernel_rfl) (by kernel_rfl) (EqV.int 3 .i64 .i64 e1.X_Num e11.X_Num Try.underlying3) (EqF.one 1 1 _ _ _ _ _ _ _ (e1.X_Den == e11.X_Den) true (by kernel_rfl) Try.underlying3 (by kernel_rfl) (by kernel_rfl) (by kernel_rfl) (by kernel_rfl) (EqV.int 3 .i64 .i64 e1.X_Den e11.X_Den Try.underlying3) (EqF.nil 1 _ _)))) (EqF.agg 2 2 _ _ _ _ _ _ _ ((e1.Y_Num == e11.Y_Num) && ((e1.Y_Den == e11.Y_Den) && true)) true _ _ _ (by kernel_rfl) Try.underlying37 (by kernel_rfl) ty37 (by kernel_rfl) (by kernel_rfl) (by kernel_rfl) (by kernel_rfl) (EqV.struct 1 37 [.d (.int .i64 e1.Y_Num), .d (.int .i64 e1.Y_Den)] [.d (.int .i64 e11.Y_Num), .d (.int .i64 e11.Y_Den)] _ ((e1.Y_Num == e11.Y_Num) && ((e1.Y_Den == e11.Y_Den) && true)) Try.underlying37 Try.stoodInHeld37 (EqF.one 1 1 _ _ _ _ _ _ _ (e1.Y_Num == e11.Y_Num) ((e1.Y_Den == e11.Y_Den) && true) (by kernel_rfl) Try.underlying3 (by kernel_rfl) (by kernel_rfl) (by kernel_rfl) (by kernel_rfl) (EqV.int 3 .i64 .i64 e1.Y_Num e11.Y_Num Try.underlying3) (EqF.one 1 1 _ _ _ _ _ _ _ (e1.Y_Den == e11.Y_Den) true (by kernel_rfl) Try.underlying3 (by kernel_rfl) (by kernel_rfl) (by kernel_rfl) (by kernel_rfl) (EqV.int 3 .i64 .i64 e1.Y_Den e11.Y_Den Try.underlying3) (EqF.nil 1 _ _)))) (EqF.nil 2 _ _)))) (by kernel_rfl)) []) ?_
      refine aDone (by kernel_rfl) ?_
      refine bSplit 24 (by kernel_rfl) (fun hc => ?_) (fun hc => ?_)
      ·refine oCondT (by kernel_rfl) ?_
       refine oSeq ?_
       refine oRegion rfl ?_
       refine oOp (.d (.bool false)) (by kernel_rfl) (by kernel_rfl) (PureV.does (p_assign (by kernel_rfl))) ?_
       refine oEnd ?_
       exact oRet (r0 := false) (rv := .d (.bool false)) (B := []) (vs := [.d (.bool false)]) (σ := []) (by kernel_rfl) Try.func22 rfl (.cons _ _ _ _ (.tmp 4 _ (by kernel_rfl)) .nil) (by kernel_rfl) (by kernel_rfl) (by kernel_rfl) (by kernel_rfl) (by decide) (by kernel_rfl) (by kernel_rfl)
      ·refine oCondF (by kernel_rfl) ?_
       refine oSkip ?_
       refine oBlk ?_
       refine oRegion rfl ?_
       refine oOp (.d (.int .i64 (IntKind.wrap .i64 (x4 + 1)))) (by kernel_rfl) (by kernel_rfl) (PureV.does (p_int (k := .i64) (p := x4) (q := 1) (by kernel_rfl) (by kernel_rfl) (by kernel_rfl))) ?_
       refine oOp (.d (.int .i64 (IntKind.wrap .i64 (x4 + 1)))) (by kernel_rfl) (by kernel_rfl) (PureV.does (p_move (by kernel_rfl))) ?_
       refine oEnd ?_
       refine oAgain ?_
       refine oHead [0, 1, 12, 13] [] (T' := [(0, .d (.lit (List.map e_SPoint s1))), (1, .d (.lit (List.map e_SPoint s2))), (12, .d (.int .i64 ((List.length s1) : Int))), (13, .d (.int .i64 (IntKind.wrap .i64 (x4 + 1))))]) (H' := []) (by kernel_rfl) (by kernel_rfl) (by kernel_rfl) (by kernel_rfl) (by decide) (by kernel_rfl) (by kernel_rfl) ?_
       exact hag1 (IntKind.wrap .i64 (x4 + 1))
     ·refine oCondF (by kernel_rfl) ?_
      refine oExit rfl ?_
      refine oHead [] [] (T' := []) (H' := []) (by kernel_rfl) (by kernel_rfl) (by kernel_rfl) (by kernel_rfl) (by decide) (by kernel_rfl) (by kernel_rfl) ?_
      exact hj2 ()

/-- awardingbody/conversion.Same -/
def conversion_Same (k : Nat) (a0 : (List SPoint)) (b0 : (List SPoint)) : Option (Bool) := Option.bind (conversion_Normal k a0) (uc fun r122 => fun r132 => Option.bind (conversion_Normal k b0) (uc fun r123 => fun r133 => blet ((r132 == 0) && (r133 == 0)) fun x2 => Option.bind (bif x2 then Option.bind (slices_Equal_api_Point_api_Point k r122 r123) (fun r15 => some r15) else some false : Option (Bool)) (fun x3 => some x3)))
def conversion_Same_E (a0 : (List SPoint)) (b0 : (List SPoint)) : Bool → V × List Blk := fun r11 => (.d (.bool r11), [])
theorem conversion_Same_goes (k : Nat) (a0 : (List SPoint)) (b0 : (List SPoint)) : RunsO Try.prog 11 [.agg [.d (.lit (List.map e_SPoint a0))], .agg [.d (.lit (List.map e_SPoint b0))]] [] (conversion_Same_E a0 b0) (conversion_Same k a0 b0) := by
  refine RunsO.of_goes (N := 32) (m := 0) (T := [(0, .agg [.d (.lit (List.map e_SPoint a0))]), (1, .agg [.d (.lit (List.map e_SPoint b0))])]) Try.func11 rfl rfl (by kernel_rfl) (by kernel_rfl) (by kernel_rfl) ?_
  unfold conversion_Same
  refine bStart ?_
  refine oSeq ?_
  refine oRegion rfl ?_
  refine oOp (.ptr 0 0) (by kernel_rfl) (by kernel_rfl) (k_box (H' := [.box [.d (.lit (List.map e_SPoint a0))]]) (cells := [.d (.lit (List.map e_SPoint a0))]) (by kernel_rfl) (by kernel_rfl) (by kernel_rfl)) ?_
  refine oOp (.ptr 1 0) (by kernel_rfl) (by kernel_rfl) (k_box (H' := [.box [.d (.lit (List.map e_SPoint a0))], .box [.d (.lit (List.map e_SPoint b0))]]) (cells := [.d (.lit (List.map e_SPoint b0))]) (by kernel_rfl) (by kernel_rfl) (by kernel_rfl)) ?_
  refine oOp (.d (.bool false)) (by kernel_rfl) (by kernel_rfl) (PureV.does (p_assign (by kernel_rfl))) ?_
  refine oEnd ?_
  refine oSeq ?_
  refine oRegion rfl ?_
  refine oOp (.agg [.d (.lit (List.map e_SPoint a0))]) (by kernel_rfl) (by kernel_rfl) (Quiet.does (k_loadAgg 0 0 (by kernel_rfl) Try.underlying29 (by kernel_rfl) ty29 (by kernel_rfl))) ?_
  refine bCall (caps := []) (v := (uc fun (r122 : (List SPoint)) => (fun (r132 : Int) => (.tuple [.agg [.d (.lit (List.map e_SPoint r122))], .d (.int .i64 r132)] : V)))) (H' := (uc fun (r122 : (List SPoint)) => (fun (r132 : Int) => ([.box [.d (.lit (List.map e_SPoint a0))], .box [.d (.lit (List.map e_SPoint b0))]] : List Blk)))) [] _ (conversion_Normal_goes k a0) (by kernel_rfl) (by kernel_rfl) rfl (by kernel_rfl) Try.func10 rfl (by kernel_rfl) (ConvRs.refl _ _) (by kernel_rfl) (by kernel_rfl) (by kernel_rfl) (by decide) (by kernel_rfl) (by kernel_rfl) (fun _ => (by kernel_rfl)) (fun _ => (by kernel_rfl)) (fun _ => (by kernel_rfl)) (fun r => ?_)
  obtain ⟨r122, r132⟩ := r
  refine bUc ?_
  refine oOp (.tuple [.agg [.d (.lit (List.map e_SPoint r122))], .d (.int .i64 r132)]) (by kernel_rfl) (by kernel_rfl) (PureV.does (p_move (by kernel_rfl))) ?_
  refine oOp (.agg [.d (.lit (List.map e_SPoint r122))]) (by kernel_rfl) (by kernel_rfl) (PureV.does (k_extract (by kernel_rfl))) ?_
  refine oOp (.d (.int .i64 r132)) (by kernel_rfl) (by kernel_rfl) (PureV.does (k_extract (by kernel_rfl))) ?_
  refine oOp (.ptr 2 0) (by kernel_rfl) (by kernel_rfl) (k_alloc (H' := [.box [.d (.lit (List.map e_SPoint a0))], .box [.d (.lit (List.map e_SPoint b0))], .box [.nilc]]) ty29 (by kernel_rfl) (by kernel_rfl)) ?_
  refine oOp (.undef) (by kernel_rfl) (by kernel_rfl) (k_store (vs := [.d (.lit (List.map e_SPoint r122))]) (H' := [.box [.d (.lit (List.map e_SPoint a0))], .box [.d (.lit (List.map e_SPoint b0))], .box [.d (.lit (List.map e_SPoint r122))]]) 2 0 (by kernel_rfl) ty29 (by kernel_rfl) (by kernel_rfl) (by kernel_rfl)) ?_
  refine oOp (.d (.int .i64 r132)) (by kernel_rfl) (by kernel_rfl) (PureV.does (p_assign (by kernel_rfl))) ?_
  refine oEnd ?_
  refine oSeq ?_
  refine oRegion rfl ?_
  refine oOp (.agg [.d (.lit (List.map e_SPoint b0))]) (by kernel_rfl) (by kernel_rfl) (Quiet.does (k_loadAgg 1 0 (by kernel_rfl) Try.underlying29 (by kernel_rfl) ty29 (by kernel_rfl))) ?_
  refine bCall (caps := []) (v := (uc fun (r123 : (List SPoint)) => (fun (r133 : Int) => (.tuple [.agg [.d (.lit (List.map e_SPoint r123))], .d (.int .i64 r133)] : V)))) (H' := (uc fun (r123 : (List SPoint)) => (fun (r133 : Int) => ([.box [.d (.lit (List.map e_SPoint a0))], .box [.d (.lit (List.map e_SPoint b0))], .box [.d (.lit (List.map e_SPoint r122))]] : List Blk)))) [] _ (conversion_Normal_goes k b0) (by kernel_rfl) (by kernel_rfl) rfl (by kernel_rfl) Try.func10 rfl (by kernel_rfl) (ConvRs.refl _ _) (by kernel_rfl) (by kernel_rfl) (by kernel_rfl) (by decide) (by kernel_rfl) (by kernel_rfl) (fun _ => (by kernel_rfl)) (fun _ => (by kernel_rfl)) (fun _ => (by kernel_rfl)) (fun r => ?_)
  obtain ⟨r123, r133⟩ := r
  refine bUc ?_
  refine oOp (.tuple [.agg [.d (.lit (List.map e_SPoint r123))], .d (.int .i64 r133)]) (by kernel_rfl) (by kernel_rfl) (PureV.does (p_move (by kernel_rfl))) ?_
  refine oOp (.agg [.d (.lit (List.map e_SPoint r123))]) (by kernel_rfl) (by kernel_rfl) (PureV.does (k_extract (by kernel_rfl))) ?_
  refine oOp (.d (.int .i64 r133)) (by kernel_rfl) (by kernel_rfl) (PureV.does (k_extract (by kernel_rfl))) ?_
  refine oOp (.ptr 3 0) (by kernel_rfl) (by kernel_rfl) (k_alloc (H' := [.box [.d (.lit (List.map e_SPoint a0))], .box [.d (.lit (List.map e_SPoint b0))], .box [.d (.lit (List.map e_SPoint r122))], .box [.nilc]]) ty29 (by kernel_rfl) (by kernel_rfl)) ?_
  refine oOp (.undef) (by kernel_rfl) (by kernel_rfl) (k_store (vs := [.d (.lit (List.map e_SPoint r123))]) (H' := [.box [.d (.lit (List.map e_SPoint a0))], .box [.d (.lit (List.map e_SPoint b0))], .box [.d (.lit (List.map e_SPoint r122))], .box [.d (.lit (List.map e_SPoint r123))]]) 3 0 (by kernel_rfl) ty29 (by kernel_rfl) (by kernel_rfl) (by kernel_rfl)) ?_
  refine oOp (.d (.int .i64 r133)) (by kernel_rfl) (by kernel_rfl) (PureV.does (p_assign (by kernel_rfl))) ?_
  refine oEnd ?_
  refine oSeq ?_
  refine oRegion rfl ?_
  refine oOp (.d (.int .i64 r132)) (by kernel_rfl) (by kernel_rfl) (PureV.does (p_move (by kernel_rfl))) ?_
  refine oOp (.d (.bool (r132 == 0))) (by kernel_rfl) (by kernel_rfl) (PureV.does (p_int (k := .i64) (p := r132) (q := 0) (by kernel_rfl) (by kernel_rfl) (by kernel_rfl))) ?_
  refine oOp (.d (.bool (r132 == 0))) (by kernel_rfl) (by kernel_rfl) (PureV.does (p_move (by kernel_rfl))) ?_
  refine bMeetF (H' := [.box [.d (.lit (List.map e_SPoint r122))], .box [.d (.lit (List.map e_SPoint r123))]]) 3 rfl ((fun (x2 : Bool) => [(5, .ptr 0 0), (7, .ptr 1 0), (24, .d (.bool x2))])) (fun x2 => ?_) (fun F hj1 => ?_)
  ·refine oView (T' := [(5, .ptr 0 0), (7, .ptr 1 0), (24, .d (.bool x2))]) (H' := [.box [.d (.lit (List.map e_SPoint r122))], .box [.d (.lit (List.map e_SPoint r123))]]) (by kernel_rfl) (by kernel_rfl) ?_
   refine oOp (.d (.bool x2)) (by kernel_rfl) (by kernel_rfl) (PureV.does (p_move (by kernel_rfl))) ?_
   refine bMeet 6 rfl ((fun (x3 : Bool) => [(31, .d (.bool x3))])) ((fun (x3 : Bool) => [])) (fun s => s) (fun x3 => ?_) (fun hj2 => ?_)
   ·refine oView (T' := [(31, .d (.bool x3))]) (H' := []) (by kernel_rfl) (by kernel_rfl) ?_
    refine oOp (.d (.bool x3)) (by kernel_rfl) (by kernel_rfl) (PureV.does (p_assign (by kernel_rfl))) ?_
    refine oEnd ?_
    exact oRet (r0 := x3) (rv := .d (.bool x3)) (B := []) (vs := [.d (.bool x3)]) (σ := []) (by kernel_rfl) Try.func11 rfl (.cons _ _ _ _ (.tmp 4 _ (by kernel_rfl)) .nil) (by kernel_rfl) (by kernel_rfl) (by kernel_rfl) (by kernel_rfl) (by decide) (by kernel_rfl) (by kernel_rfl)
   ·refine bSplit 25 (by kernel_rfl) (fun hc => ?_) (fun hc => ?_)
    ·refine oOp (.ptr 0 0) (by kernel_rfl) (by kernel_rfl) (PureV.does (k_fieldAddr 0 0 (by kernel_rfl) Try.underlying29 rfl ty27 (by kernel_rfl))) ?_
     refine oOp (.d (.lit (List.map e_SPoint r122))) (by kernel_rfl) (by kernel_rfl) (Quiet.does (k_load 0 0 (by kernel_rfl) Try.underlying27 (by kernel_rfl) (by kernel_rfl))) ?_
     refine oOp (.ptr 1 0) (by kernel_rfl) (by kernel_rfl) (PureV.does (k_fieldAddr 1 0 (by kernel_rfl) Try.underlying29 rfl ty27 (by kernel_rfl))) ?_
     refine oOp (.d (.lit (List.map e_SPoint r123))) (by kernel_rfl) (by kernel_rfl) (Quiet.does (k_load 1 0 (by kernel_rfl) Try.underlying27 (by kernel_rfl) (by kernel_rfl))) ?_
     refine bCall (caps := []) (v := (fun (r15 : Bool) => (.d (.bool r15) : V))) (H' := (fun (r15 : Bool) => ([.box [.d (.lit (List.map e_SPoint r122))], .box [.d (.lit (List.map e_SPoint r123))]] : List Blk))) [] _ (slices_Equal_api_Point_api_Point_goes k r122 r123) (by kernel_rfl) (by kernel_rfl) rfl (by kernel_rfl) Try.func22 rfl (by kernel_rfl) (ConvRs.refl _ _) (by kernel_rfl) (by kernel_rfl) (by kernel_rfl) (by decide) (by kernel_rfl) (by kernel_rfl) (fun _ => (by kernel_rfl)) (fun _ => (by kernel_rfl)) (fun _ => (by kernel_rfl)) (fun r15 => ?_)
     refine oOp (.d (.bool r15)) (by kernel_rfl) (by kernel_rfl) (PureV.does (p_pick (b := true) (by kernel_rfl) (by kernel_rfl))) ?_
     refine oHead [31] [] (T' := [(31, .d (.bool r15))]) (H' := []) (by kernel_rfl) (by kernel_rfl) (by kernel_rfl) (by kernel_rfl) (by decide) (by kernel_rfl) (by kernel_rfl) ?_
     exact hj2 r15
    ·refine oNot (by kernel_rfl) (by kernel_rfl) ?_
     refine oNot (by kernel_rfl) (by kernel_rfl) ?_
     refine oNot (by kernel_rfl) (by kernel_rfl) ?_
     refine oNot (by kernel_rfl) (by kernel_rfl) ?_
     refine oNot (by kernel_rfl) (by kernel_rfl) ?_
     refine oOp (.d (.bool false)) (by kernel_rfl) (by kernel_rfl) (PureV.does (p_pick (b := false) (by kernel_rfl) (by kernel_rfl))) ?_
     refine oHead [31] [] (T' := [(31, .d (.bool false))]) (H' := []) (by kernel_rfl) (by kernel_rfl) (by kernel_rfl) (by kernel_rfl) (by decide) (by kernel_rfl) (by kernel_rfl) ?_
     exact hj2 false
  ·refine bPickF 21 (fun c => F (c && (r133 == 0))) (by kernel_rfl) (fun hc => ?_) (fun hc => ?_)
   ·refine oOp (.d (.int .i64 r133)) (by kernel_rfl) (by kernel_rfl) (PureV.does (p_move (by kernel_rfl))) ?_
    refine oOp (.d (.bool (r133 == 0))) (by kernel_rfl) (by kernel_rfl) (PureV.does (p_int (k := .i64) (p := r133) (q := 0) (by kernel_rfl) (by kernel_rfl) (by kernel_rfl))) ?_
    refine oOp (.d (.bool (r133 == 0))) (by kernel_rfl) (by kernel_rfl) (PureV.does (p_pick (b := true) (by kernel_rfl) (by kernel_rfl))) ?_
    refine oHead [5, 7, 24] [2, 3] (T' := [(5, .ptr 0 0), (7, .ptr 1 0), (24, .d (.bool (r133 == 0)))]) (H' := [.box [.d (.lit (List.map e_SPoint r122))], .box [.d (.lit (List.map e_SPoint r123))]]) (by kernel_rfl) (by kernel_rfl) (by kernel_rfl) (by kernel_rfl) (by decide) (by kernel_rfl) (by kernel_rfl) ?_
    exact hj1 (r133 == 0)
   ·refine oNot (by kernel_rfl) (by kernel_rfl) ?_
    refine oNot (by kernel_rfl) (by kernel_rfl) ?_
    refine oOp (.d (.bool false)) (by kernel_rfl) (by kernel_rfl) (PureV.does (p_pick (b := false) (by kernel_rfl) (by kernel_rfl))) ?_
    refine oHead [5, 7, 24] [2, 3] (T' := [(5, .ptr 0 0), (7, .ptr 1 0), (24, .d (.bool false))]) (H' := [.box [.d (.lit (List.map e_SPoint r122))], .box [.d (.lit (List.map e_SPoint r123))]]) (by kernel_rfl) (by kernel_rfl) (by kernel_rfl) (by kernel_rfl) (by decide) (by kernel_rfl) (by kernel_rfl) ?_
    exact hj1 false

end Go.VM
