/- Plain functions that answer as the program's functions do, and the proof that they do. -/
import Derived.Test.YtoffminccignfaaProg
import Derived.KernelRfl
import Derived.Test.YtoffminccignfaaEngW
import Derived.Test.YtoffminccignfaaCFacts
import Derived.Test.YtoffminccignfaaCFuns0
import Derived.Test.YtoffminccignfaaCFuns1
import Derived.Test.YtoffminccignfaaCFuns2
namespace Go.VM
open Go.Proofs
set_option linter.unusedVariables false
set_option linter.unusedSimpArgs false
set_option maxRecDepth 100000
/-- (*awardingbody/conversion.calc).eval -/
def conversion_calc_eval (k : Nat) (l : (List SPoint)) (x0 : Int) (x1 : Int) (x : Int) : Option (Int × Int × Int) := Option.bind (sort_Search k (IntKind.wrap .i64 (((List.length l) : Int) - 2)) l x0 x1) (fun r18 => gidx l (IntKind.wrap .i64 ((IntKind.wrap .i64 (1 + r18)) - 1)) fun e1 => Option.bind (conversion_calc_sub k x0 x1 e1.X_Num e1.X_Den x) (uc fun r12 => uc fun r14 => fun x11 => Option.bind (conversion_calc_slope k l (IntKind.wrap .i64 (1 + r18)) x11) (uc fun r11 => uc fun r111 => fun x2 => Option.bind (conversion_calc_mul k r12 r14 r11 r111 x2) (uc fun r13 => uc fun r112 => fun x12 => Option.bind (conversion_calc_add k e1.Y_Num e1.Y_Den r13 r112 x12) (uc fun r15 => uc fun r113 => fun x13 => some (r15, r113, x13))))))
def conversion_calc_eval_E (l : (List SPoint)) (x0 : Int) (x1 : Int) (x : Int) : Int × Int × Int → V × List Blk := uc fun r16 => uc fun r17 => fun x3 => (.agg [.d (.int .i64 r16), .d (.int .i64 r17)], [.box [.d (.int .i64 x3)]])
theorem conversion_calc_eval_goes (k : Nat) (l : (List SPoint)) (x0 : Int) (x1 : Int) (x : Int) : RunsO Try.prog 25 [.ptr 0 0, .d (.lit (List.map e_SPoint l)), .agg [.d (.int .i64 x0), .d (.int .i64 x1)]] [.box [.d (.int .i64 x)]] (conversion_calc_eval_E l x0 x1 x) (conversion_calc_eval k l x0 x1 x) := by
  refine RunsO.of_goes (N := 39) (m := 1) (T := [(0, .ptr 0 0), (1, .d (.lit (List.map e_SPoint l))), (2, .agg [.d (.int .i64 x0), .d (.int .i64 x1)])]) Try.func25 rfl rfl (by kernel_rfl) (by kernel_rfl) (by kernel_rfl) ?_
  unfold conversion_calc_eval
  refine bStart ?_
  refine oSeq ?_
  refine oRegion rfl ?_
  refine oOp (.ptr 1 0) (by kernel_rfl) (by kernel_rfl) (k_box (H' := [.box [.d (.int .i64 x)], .box [.d (.lit (List.map e_SPoint l))]]) (cells := [.d (.lit (List.map e_SPoint l))]) (by kernel_rfl) (by kernel_rfl) (by kernel_rfl)) ?_
  refine oOp (.ptr 2 0) (by kernel_rfl) (by kernel_rfl) (k_box (H' := [.box [.d (.int .i64 x)], .box [.d (.lit (List.map e_SPoint l))], .box [.d (.int .i64 x0), .d (.int .i64 x1)]]) (cells := [.d (.int .i64 x0), .d (.int .i64 x1)]) (by kernel_rfl) (by kernel_rfl) (by kernel_rfl)) ?_
  refine oOp (.ptr 3 0) (by kernel_rfl) (by kernel_rfl) (k_alloc (H' := [.box [.d (.int .i64 x)], .box [.d (.lit (List.map e_SPoint l))], .box [.d (.int .i64 x0), .d (.int .i64 x1)], .box [.d (.int .i64 0), .d (.int .i64 0)]]) ty37 (by kernel_rfl) (by kernel_rfl)) ?_
  refine oEnd ?_
  refine oSeq ?_
  refine oRegion rfl ?_
  refine oOp (.d (.lit (List.map e_SPoint l))) (by kernel_rfl) (by kernel_rfl) (Quiet.does (k_load 1 0 (by kernel_rfl) Try.underlying27 (by kernel_rfl) (by kernel_rfl))) ?_
  refine oOp (.d (.int .i64 ((List.length l) : Int))) (by kernel_rfl) (by kernel_rfl) (PureV.does (k_lenLit (enc := e_SPoint) l (by kernel_rfl) Try.underlying27)) ?_
  refine oOp (.d (.int .i64 (IntKind.wrap .i64 (((List.length l) : Int) - 2)))) (by kernel_rfl) (by kernel_rfl) (PureV.does (p_int (k := .i64) (p := ((List.length l) : Int)) (q := 2) (by kernel_rfl) (by kernel_rfl) (by kernel_rfl))) ?_
  refine oOp (.fn 38 [.ptr 1 0, .ptr 2 0]) (by kernel_rfl) (by kernel_rfl) (PureV.does (p_makeFunc (by kernel_rfl))) ?_
  refine bCall (caps := []) (v := (fun (r18 : Int) => (.d (.int .i64 r18) : V))) (H' := (fun (r18 : Int) => ([.box [.d (.int .i64 x)], .box [.d (.lit (List.map e_SPoint l))], .box [.d (.int .i64 x0), .d (.int .i64 x1)], .box [.d (.int .i64 0), .d (.int .i64 0)]] : List Blk))) [1, 2] _ (sort_Search_goes k (IntKind.wrap .i64 (((List.length l) : Int) - 2)) l x0 x1) (by kernel_rfl) (by kernel_rfl) rfl (by kernel_rfl) Try.func37 rfl (by kernel_rfl) (ConvRs.refl _ _) (by kernel_rfl) (by kernel_rfl) (by kernel_rfl) (by decide) (by kernel_rfl) (by kernel_rfl) (fun _ => (by kernel_rfl)) (fun _ => (by kernel_rfl)) (fun _ => (by kernel_rfl)) (fun r18 => ?_)
  refine oOp (.d (.int .i64 (IntKind.wrap .i64 (1 + r18)))) (by kernel_rfl) (by kernel_rfl) (PureV.does (p_int (k := .i64) (p := 1) (q := r18) (by kernel_rfl) (by kernel_rfl) (by kernel_rfl))) ?_
  refine oOp (.d (.int .i64 (IntKind.wrap .i64 (1 + r18)))) (by kernel_rfl) (by kernel_rfl) (PureV.does (p_assign (by kernel_rfl))) ?_
  refine oEnd ?_
  refine oSeq ?_
  refine oDraw [(0, 8), (1, 11), (2, 11), (3, 11)] rfl ?_
  refine aTakeL (i := 0) (st' := []) (.ptr 0 0) rfl (by kernel_rfl) (by kernel_rfl) (by kernel_rfl) (by kernel_rfl) (by kernel_rfl) (by kernel_rfl) (by kernel_rfl) (PureV.quiet (p_move (by kernel_rfl)) []) ?_
  refine aTakeL (i := 1) (st' := [2]) (.agg [.d (.int .i64 x0), .d (.int .i64 x1)]) rfl (by kernel_rfl) (by kernel_rfl) (by kernel_rfl) (by kernel_rfl) (by kernel_rfl) (by kernel_rfl) (by kernel_rfl) (k_loadAgg 2 0 (by kernel_rfl) Try.underlying37 (by kernel_rfl) ty37 (by kernel_rfl)) ?_
  refine aTakeL (i := 2) (st' := [1]) (.d (.lit (List.map e_SPoint l))) rfl (by kernel_rfl) (by kernel_rfl) (by kernel_rfl) (by kernel_rfl) (by kernel_rfl) (by kernel_rfl) (by kernel_rfl) (k_load 1 0 (by kernel_rfl) Try.underlying27 (by kernel_rfl) (by kernel_rfl)) ?_
  refine aTakeL (i := 3) (st' := []) (.d (.int .i64 (IntKind.wrap .i64 (1 + r18)))) rfl (by kernel_rfl) (by kernel_rfl) (by kernel_rfl) (by kernel_rfl) (by kernel_rfl) (by kernel_rfl) (by kernel_rfl) (PureV.quiet (p_move (by kernel_rfl)) []) ?_
  refine aTakeL (i := 4) (st' := []) (.d (.int .i64 (IntKind.wrap .i64 ((IntKind.wrap .i64 (1 + r18)) - 1)))) rfl (by kernel_rfl) (by kernel_rfl) (by kernel_rfl) (by kernel_rfl) (by kernel_rfl) (by kernel_rfl) (by kernel_rfl) (PureV.quiet (p_int (k := .i64) (p := (IntKind.wrap .i64 (1 + r18))) (q := 1) (by kernel_rfl) (by kernel_rfl) (by kernel_rfl)) []) ?_
  refine dIdx (fun e1 h1 h11 => ?_)
  refine aTakeL (i := 5) (st' := []) (.lptr (e_SPoint e1) 0) rfl (by kernel_rfl) (by kernel_rfl) (by kernel_rfl) (by kernel_rfl) (by kernel_rfl) (by kernel_rfl) (by kernel_rfl) (PureV.quiet (k_idxLit e_SPoint_len l (a := e1) (by kernel_rfl) (k := .i64) (i := (IntKind.wrap .i64 ((IntKind.wrap .i64 (1 + r18)) - 1))) (by kernel_rfl) Try.underlying27 ty39 h1 h11) []) ?_
  refine aTakeL (i := 6) (st' := []) (.lptr (e_SPoint e1) 0) rfl (by kernel_rfl) (by kernel_rfl) (by kernel_rfl) (by kernel_rfl) (by kernel_rfl) (by kernel_rfl) (by kernel_rfl) (PureV.quiet (k_fieldAddrL (cells := e_SPoint e1) 0 (by kernel_rfl) Try.underlying39 rfl ty37 (by kernel_rfl)) []) ?_
  refine aTakeL (i := 7) (st' := []) (.agg [.d (.int .i64 e1.X_Num), .d (.int .i64 e1.X_Den)]) rfl (by kernel_rfl) (by kernel_rfl) (by kernel_rfl) (by kernel_rfl) (by kernel_rfl) (by kernel_rfl) (by kernel_rfl) (k_loadLAgg (cells := e_SPoint e1) 0 [(.int .i64 e1.X_Num), (.int .i64 e1.X_Den)] (by kernel_rfl) Try.underlying37 (by kernel_rfl) ty37 (by kernel_rfl) (by kernel_rfl) (by kernel_rfl)) ?_
  refine dCall (i := 8) (caps := []) (v := (uc fun (r12 : Int) => (uc fun (r14 : Int) => (fun (x11 : Int) => (.agg [.d (.int .i64 r12), .d (.int .i64 r14)] : V))))) (H' := (uc fun (r12 : Int) => (uc fun (r14 : Int) => (fun (x11 : Int) => ([.box [.d (.int .i64 x11)], .box [.d (.lit (List.map e_SPoint l))], .box [.d (.int .i64 x0), .d (.int .i64 x1)], .box [.d (.int .i64 0), .d (.int .i64 0)]] : List Blk))))) [0] _ (conversion_calc_sub_goes k x0 x1 e1.X_Num e1.X_Den x) rfl (by kernel_rfl) (by kernel_rfl) (by kernel_rfl) (by kernel_rfl) (by kernel_rfl) (by kernel_rfl) (by kernel_rfl) (by kernel_rfl) rfl (by kernel_rfl) Try.func39 rfl (by kernel_rfl) (ConvRs.refl _ _) (by kernel_rfl) (by kernel_rfl) (by kernel_rfl) (by decide) (by kernel_rfl) (by kernel_rfl) (fun _ => (by kernel_rfl)) (fun _ => (by kernel_rfl)) (fun _ => (by kernel_rfl)) (fun r => ?_)
  obtain ⟨r12, r14, x11⟩ := r
  refine dUc ?_
  refine dUc ?_
  refine aAlloc (i := 9) (d := 8) rfl (by kernel_rfl) (by kernel_rfl) rfl rfl (by kernel_rfl) (by kernel_rfl) ty37 (cells := [.d (.int .i64 0), .d (.int .i64 0)]) (by kernel_rfl) (by kernel_rfl) ?_
  refine dView (H' := [.box [.d (.int .i64 x11)], .box [.d (.lit (List.map e_SPoint l))], .box [.d (.int .i64 x0), .d (.int .i64 x1)], .box [.d (.int .i64 0), .d (.int .i64 0)], .box [.d (.int .i64 0), .d (.int .i64 0)]]) rfl rfl (by kernel_rfl) ?_
  refine aOne (i := 10) (v := .undef) rfl (by kernel_rfl) (by kernel_rfl) (by kernel_rfl) (by kernel_rfl) (by kernel_rfl) (by kernel_rfl) (by kernel_rfl) (Does.acts (k_store (vs := [.d (.int .i64 r12), .d (.int .i64 r14)]) (H' := [.box [.d (.int .i64 x11)], .box [.d (.lit (List.map e_SPoint l))], .box [.d (.int .i64 x0), .d (.int .i64 x1)], .box [.d (.int .i64 0), .d (.int .i64 0)], .box [.d (.int .i64 r12), .d (.int .i64 r14)]]) 4 0 (by kernel_rfl) ty37 (by kernel_rfl) (by kernel_rfl) (by kernel_rfl))) (by kernel_rfl) ?_
  refine aDone (by kernel_rfl) ?_
  refine oSeq ?_
  refine oDraw [(0, 12), (1, 16), (2, 16), (3, 15), (4, 16)] rfl ?_
  refine aTakeL (i := 0) (st' := []) (.ptr 0 0) rfl (by kernel_rfl) (by kernel_rfl) (by kernel_rfl) (by kernel_rfl) (by kernel_rfl) (by kernel_rfl) (by kernel_rfl) (PureV.quiet (p_move (by kernel_rfl)) []) ?_
  refine aTakeL (i := 1) (st' := [1]) (.d (.lit (List.map e_SPoint l))) rfl (by kernel_rfl) (by kernel_rfl) (by kernel_rfl) (by kernel_rfl) (by kernel_rfl) (by kernel_rfl) (by kernel_rfl) (k_load 1 0 (by kernel_rfl) Try.underlying27 (by kernel_rfl) (by kernel_rfl)) ?_
  refine aTakeL (i := 2) (st' := []) (.d (.int .i64 (IntKind.wrap .i64 (1 + r18)))) rfl (by kernel_rfl) (by kernel_rfl) (by kernel_rfl) (by kernel_rfl) (by kernel_rfl) (by kernel_rfl) (by kernel_rfl) (PureV.quiet (p_move (by kernel_rfl)) []) ?_
  refine aTakeL (i := 3) (st' := []) (.d (.int .i64 (IntKind.wrap .i64 ((IntKind.wrap .i64 (1 + r18)) - 1)))) rfl (by kernel_rfl) (by kernel_rfl) (by kernel_rfl) (by kernel_rfl) (by kernel_rfl) (by kernel_rfl) (by kernel_rfl) (PureV.quiet (p_int (k := .i64) (p := (IntKind.wrap .i64 (1 + r18))) (q := 1) (by kernel_rfl) (by kernel_rfl) (by kernel_rfl)) []) ?_
  refine aTakeL (i := 4) (st' := []) (.lptr (e_SPoint e1) 0) rfl (by kernel_rfl) (by kernel_rfl) (by kernel_rfl) (by kernel_rfl) (by kernel_rfl) (by kernel_rfl) (by kernel_rfl) (PureV.quiet (k_idxLit e_SPoint_len l (a := e1) (by kernel_rfl) (k := .i64) (i := (IntKind.wrap .i64 ((IntKind.wrap .i64 (1 + r18)) - 1))) (by kernel_rfl) Try.underlying27 ty39 h1 h11) []) ?_
  refine aTakeL (i := 5) (st' := []) (.lptr (e_SPoint e1) 2) rfl (by kernel_rfl) (by kernel_rfl) (by kernel_rfl) (by kernel_rfl) (by kernel_rfl) (by kernel_rfl) (by kernel_rfl) (PureV.quiet (k_fieldAddrL (cells := e_SPoint e1) 0 (by kernel_rfl) Try.underlying39 rfl ty37 (by kernel_rfl)) []) ?_
  refine aTakeL (i := 6) (st' := []) (.agg [.d (.int .i64 e1.Y_Num), .d (.int .i64 e1.Y_Den)]) rfl (by kernel_rfl) (by kernel_rfl) (by kernel_rfl) (by kernel_rfl) (by kernel_rfl) (by kernel_rfl) (by kernel_rfl) (k_loadLAgg (cells := e_SPoint e1) 2 [(.int .i64 e1.Y_Num), (.int .i64 e1.Y_Den)] (by kernel_rfl) Try.underlying37 (by kernel_rfl) ty37 (by kernel_rfl) (by kernel_rfl) (by kernel_rfl)) ?_
  refine aTakeL (i := 7) (st' := []) (.ptr 0 0) rfl (by kernel_rfl) (by kernel_rfl) (by kernel_rfl) (by kernel_rfl) (by kernel_rfl) (by kernel_rfl) (by kernel_rfl) (PureV.quiet (p_move (by kernel_rfl)) []) ?_
  refine aTakeL (i := 8) (st' := [4]) (.agg [.d (.int .i64 r12), .d (.int .i64 r14)]) rfl (by kernel_rfl) (by kernel_rfl) (by kernel_rfl) (by kernel_rfl) (by kernel_rfl) (by kernel_rfl) (by kernel_rfl) (k_loadAgg 4 0 (by kernel_rfl) Try.underlying37 (by kernel_rfl) ty37 (by kernel_rfl)) ?_
  refine aTakeL (i := 9) (st' := []) (.ptr 0 0) rfl (by kernel_rfl) (by kernel_rfl) (by kernel_rfl) (by kernel_rfl) (by kernel_rfl) (by kernel_rfl) (by kernel_rfl) (PureV.quiet (p_move (by kernel_rfl)) []) ?_
  refine aTakeL (i := 10) (st' := [1]) (.d (.lit (List.map e_SPoint l))) rfl (by kernel_rfl) (by kernel_rfl) (by kernel_rfl) (by kernel_rfl) (by kernel_rfl) (by kernel_rfl) (by kernel_rfl) (k_load 1 0 (by kernel_rfl) Try.underlying27 (by kernel_rfl) (by kernel_rfl)) ?_
  refine aTakeL (i := 11) (st' := []) (.d (.int .i64 (IntKind.wrap .i64 (1 + r18)))) rfl (by kernel_rfl) (by kernel_rfl) (by kernel_rfl) (by kernel_rfl) (by kernel_rfl) (by kernel_rfl) (by kernel_rfl) (PureV.quiet (p_move (by kernel_rfl)) []) ?_
  refine dCall (i := 12) (caps := []) (v := (uc fun (r11 : Int) => (uc fun (r111 : Int) => (fun (x2 : Int) => (.agg [.d (.int .i64 r11), .d (.int .i64 r111)] : V))))) (H' := (uc fun (r11 : Int) => (uc fun (r111 : Int) => (fun (x2 : Int) => ([.box [.d (.int .i64 x2)], .box [.d (.lit (List.map e_SPoint l))], .box [.d (.int .i64 x0), .d (.int .i64 x1)], .box [.d (.int .i64 0), .d (.int .i64 0)], .box [.d (.int .i64 r12), .d (.int .i64 r14)]] : List Blk))))) [0] _ (conversion_calc_slope_goes k l (IntKind.wrap .i64 (1 + r18)) x11) rfl (by kernel_rfl) (by kernel_rfl) (by kernel_rfl) (by kernel_rfl) (by kernel_rfl) (by kernel_rfl) (by kernel_rfl) (by kernel_rfl) rfl (by kernel_rfl) Try.func41 rfl (by kernel_rfl) (ConvRs.refl _ _) (by kernel_rfl) (by kernel_rfl) (by kernel_rfl) (by decide) (by kernel_rfl) (by kernel_rfl) (fun _ => (by kernel_rfl)) (fun _ => (by kernel_rfl)) (fun _ => (by kernel_rfl)) (fun r => ?_)
  obtain ⟨r11, r111, x2⟩ := r
  refine dUc ?_
  refine dUc ?_
  refine dCall (i := 13) (caps := []) (v := (uc fun (r13 : Int) => (uc fun (r112 : Int) => (fun (x12 : Int) => (.agg [.d (.int .i64 r13), .d (.int .i64 r112)] : V))))) (H' := (uc fun (r13 : Int) => (uc fun (r112 : Int) => (fun (x12 : Int) => ([.box [.d (.int .i64 x12)], .box [.d (.lit (List.map e_SPoint l))], .box [.d (.int .i64 x0), .d (.int .i64 x1)], .box [.d (.int .i64 0), .d (.int .i64 0)], .box [.d (.int .i64 r12), .d (.int .i64 r14)]] : List Blk))))) [0] _ (conversion_calc_mul_goes k r12 r14 r11 r111 x2) rfl (by kernel_rfl) (by kernel_rfl) (by kernel_rfl) (by kernel_rfl) (by kernel_rfl) (by kernel_rfl) (by kernel_rfl) (by kernel_rfl) rfl (by kernel_rfl) Try.func40 rfl (by kernel_rfl) (ConvRs.refl _ _) (by kernel_rfl) (by kernel_rfl) (by kernel_rfl) (by decide) (by kernel_rfl) (by kernel_rfl) (fun _ => (by kernel_rfl)) (fun _ => (by kernel_rfl)) (fun _ => (by kernel_rfl)) (fun r => ?_)
  obtain ⟨r13, r112, x12⟩ := r
  refine dUc ?_
  refine dUc ?_
  refine dCall (i := 14) (caps := []) (v := (uc fun (r15 : Int) => (uc fun (r113 : Int) => (fun (x13 : Int) => (.agg [.d (.int .i64 r15), .d (.int .i64 r113)] : V))))) (H' := (uc fun (r15 : Int) => (uc fun (r113 : Int) => (fun (x13 : Int) => ([.box [.d (.int .i64 x13)], .box [.d (.lit (List.map e_SPoint l))], .box [.d (.int .i64 x0), .d (.int .i64 x1)], .box [.d (.int .i64 0), .d (.int .i64 0)], .box [.d (.int .i64 r12), .d (.int .i64 r14)]] : List Blk))))) [0] _ (conversion_calc_add_goes k e1.Y_Num e1.Y_Den r13 r112 x12) rfl (by kernel_rfl) (by kernel_rfl) (by kernel_rfl) (by kernel_rfl) (by kernel_rfl) (by kernel_rfl) (by kernel_rfl) (by kernel_rfl) rfl (by kernel_rfl) Try.func31 rfl (by kernel_rfl) (ConvRs.refl _ _) (by kernel_rfl) (by kernel_rfl) (by kernel_rfl) (by decide) (by kernel_rfl) (by kernel_rfl) (fun _ => (by kernel_rfl)) (fun _ => (by kernel_rfl)) (fun _ => (by kernel_rfl)) (fun r => ?_)
  obtain ⟨r15, r113, x13⟩ := r
  refine dUc ?_
  refine dUc ?_
  refine aOne (i := 15) (v := .undef) rfl (by kernel_rfl) (by kernel_rfl) (by kernel_rfl) (by kernel_rfl) (by kernel_rfl) (by kernel_rfl) (by kernel_rfl) (Does.acts (k_store (vs := [.d (.int .i64 r15), .d (.int .i64 r113)]) (H' := [.box [.d (.int .i64 x13)], .box [.d (.lit (List.map e_SPoint l))], .box [.d (.int .i64 x0), .d (.int .i64 x1)], .box [.d (.int .i64 r15), .d (.int .i64 r113)], .box [.d (.int .i64 r12), .d (.int .i64 r14)]]) 3 0 (by kernel_rfl) ty37 (by kernel_rfl) (by kernel_rfl) (by kernel_rfl))) (by kernel_rfl) ?_
  refine aDone (by kernel_rfl) ?_
  exact oRet (r0 := (r15, r113, x13)) (rv := .agg [.d (.int .i64 r15), .d (.int .i64 r113)]) (B := [.box [.d (.int .i64 x13)]]) (vs := [.agg [.d (.int .i64 r15), .d (.int .i64 r113)]]) (σ := [0]) (by kernel_rfl) Try.func25 rfl (.cons _ _ _ _ (.agg 6 37 3 0 [.d (.int .i64 r15), .d (.int .i64 r113)] [.d (.int .i64 r15), .d (.int .i64 r113)] _ _ _ _ (by kernel_rfl) (by kernel_rfl) Try.underlying37 (by kernel_rfl) ty37 (by kernel_rfl) (by kernel_rfl)) .nil) (by kernel_rfl) (by kernel_rfl) (by kernel_rfl) (by kernel_rfl) (by decide) (by kernel_rfl) (by kernel_rfl)

/-- awardingbody/conversion.Eval -/
def conversion_Eval (k : Nat) (x0 : Int) (x1 : Int) (xs : (List SPoint)) : Option (Int × Int × Int) := Option.bind (conversion_Valid k xs) (fun r15 => Option.bind (bif (!r15) then some true else Option.bind (ratio_Valid k x0 x1) (fun r122 => some (!r122)) : Option (Bool)) (fun x2 => bif x2 then some (0, 0, 1) else Option.bind (conversion_calc_eval k xs x0 x1 0) (uc fun r161 => uc fun r171 => fun x31 => bif (x31 != 0) then some (0, 0, x31) else some (r161, r171, 0))))
def conversion_Eval_E (x0 : Int) (x1 : Int) (xs : (List SPoint)) : Int × Int × Int → V × List Blk := uc fun r11 => uc fun r13 => fun r14 => (.tuple [.agg [.d (.int .i64 r11), .d (.int .i64 r13)], .d (.int .i64 r14)], [.sl 4 (List.map e_SPoint xs) true])
theorem conversion_Eval_goes (k : Nat) (x0 : Int) (x1 : Int) (xs : (List SPoint)) : RunsO Try.prog 13 [.agg [.ref 0 (List.length xs) 0 (List.length xs)], .agg [.d (.int .i64 x0), .d (.int .i64 x1)]] [.sl 4 (List.map e_SPoint xs) false] (conversion_Eval_E x0 x1 xs) (conversion_Eval k x0 x1 xs) := by
  refine RunsO.of_goes (N := 28) (m := 1) (T := [(0, .agg [.ref 0 (List.length xs) 0 (List.length xs)]), (1, .agg [.d (.int .i64 x0), .d (.int .i64 x1)])]) Try.func13 rfl rfl (by kernel_rfl) (by kernel_rfl) (by kernel_rfl) ?_
  unfold conversion_Eval
  refine bStart ?_
  refine oSeq ?_
  refine oRegion rfl ?_
  refine oOp (.ptr 1 0) (by kernel_rfl) (by kernel_rfl) (k_box (H' := [.sl 4 (List.map e_SPoint xs) false, .box [.ref 0 (List.length xs) 0 (List.length xs)]]) (cells := [.ref 0 (List.length xs) 0 (List.length xs)]) (by kernel_rfl) (by kernel_rfl) (by kernel_rfl)) ?_
  refine oOp (.ptr 2 0) (by kernel_rfl) (by kernel_rfl) (k_box (H' := [.sl 4 (List.map e_SPoint xs) false, .box [.ref 0 (List.length xs) 0 (List.length xs)], .box [.d (.int .i64 x0), .d (.int .i64 x1)]]) (cells := [.d (.int .i64 x0), .d (.int .i64 x1)]) (by kernel_rfl) (by kernel_rfl) (by kernel_rfl)) ?_
  refine oOp (.ptr 3 0) (by kernel_rfl) (by kernel_rfl) (k_alloc (H' := [.sl 4 (List.map e_SPoint xs) false, .box [.ref 0 (List.length xs) 0 (List.length xs)], .box [.d (.int .i64 x0), .d (.int .i64 x1)], .box [.d (.int .i64 0), .d (.int .i64 0)]]) ty37 (by kernel_rfl) (by kernel_rfl)) ?_
  refine oOp (.d (.int .i64 0)) (by kernel_rfl) (by kernel_rfl) (PureV.does (p_assign (by kernel_rfl))) ?_
  refine oEnd ?_
  refine oSeq ?_
  refine oSeq ?_
  refine oRegion rfl ?_
  refine oOp (.agg [.ref 0 (List.length xs) 0 (List.length xs)]) (by kernel_rfl) (by kernel_rfl) (Quiet.does (k_loadAgg 1 0 (by kernel_rfl) Try.underlying29 (by kernel_rfl) ty29 (by kernel_rfl))) ?_
  refine oFreeze 0 (esz := 4) (xs := List.map e_SPoint xs) (by kernel_rfl) ?_
  refine oView (H' := [.sl 4 (List.map e_SPoint xs) true, .box [.ref 0 (List.length xs) 0 (List.length xs)], .box [.d (.int .i64 x0), .d (.int .i64 x1)], .box [.d (.int .i64 0), .d (.int .i64 0)]]) rfl (by kernel_rfl) ?_
  refine bCall (caps := []) (v := (fun (r15 : Bool) => (.d (.bool r15) : V))) (H' := (fun (r15 : Bool) => ([.sl 4 (List.map e_SPoint xs) true, .box [.ref 0 (List.length xs) 0 (List.length xs)], .box [.d (.int .i64 x0), .d (.int .i64 x1)], .box [.d (.int .i64 0), .d (.int .i64 0)]] : List Blk))) [] _ (conversion_Valid_goes k xs) (by kernel_rfl) (by kernel_rfl) rfl (by kernel_rfl) Try.func12 rfl (by kernel_rfl) (convList (vs0 := [.agg [.ref 0 (List.length xs) 0 (List.length xs)]]) (vs := [.agg [.d (.lit (List.map e_SPoint xs))]]) (by kernel_rfl) (.cons _ _ _ _ (.agg _ _ (.cons _ _ _ _ (k_lit (enc := e_SPoint) (sz := 4) 0 xs (by kernel_rfl)) .nil)) .nil)) (by kernel_rfl) (by kernel_rfl) (by kernel_rfl) (by decide) (by kernel_rfl) (by kernel_rfl) (fun _ => (by kernel_rfl)) (fun _ => (by kernel_rfl)) (fun _ => (by kernel_rfl)) (fun r15 => ?_)
  refine oOp (.d (.bool (!r15))) (by kernel_rfl) (by kernel_rfl) (PureV.does (p_not (p := r15) (by kernel_rfl) (by kernel_rfl))) ?_
  refine oOp (.d (.bool (!r15))) (by kernel_rfl) (by kernel_rfl) (PureV.does (p_move (by kernel_rfl))) ?_
  refine bMeet 4 rfl ((fun (x2 : Bool) => [(2, .ptr 1 0), (3, .ptr 2 0), (4, .ptr 3 0), (15, .d (.bool x2))])) ((fun (x2 : Bool) => [.sl 4 (List.map e_SPoint xs) true, .box [.ref 0 (List.length xs) 0 (List.length xs)], .box [.d (.int .i64 x0), .d (.int .i64 x1)], .box [.d (.int .i64 0), .d (.int .i64 0)]])) (fun s => s) (fun x2 => ?_) (fun hj1 => ?_)
  ·refine oView (T' := [(2, .ptr 1 0), (3, .ptr 2 0), (4, .ptr 3 0), (15, .d (.bool x2))]) (H' := [.sl 4 (List.map e_SPoint xs) true, .box [.ref 0 (List.length xs) 0 (List.length xs)], .box [.d (.int .i64 x0), .d (.int .i64 x1)], .box [.d (.int .i64 0), .d (.int .i64 0)]]) (by kernel_rfl) (by kernel_rfl) ?_
   refine oEnd ?_
   refine bSplit 15 (by kernel_rfl) (fun hc => ?_) (fun hc => ?_)
   ·refine oCondT (by kernel_rfl) ?_
    refine oSeq ?_
    refine oRegion rfl ?_
    refine oOp (.agg [.d (.int .i64 0), .d (.int .i64 0)]) (by kernel_rfl) (by kernel_rfl) (PureV.does (p_build bld37 (by kernel_rfl))) ?_
    refine oOp (.undef) (by kernel_rfl) (by kernel_rfl) (k_store (vs := [.d (.int .i64 0), .d (.int .i64 0)]) (H' := [.sl 4 (List.map e_SPoint xs) true, .box [.ref 0 (List.length xs) 0 (List.length xs)], .box [.d (.int .i64 x0), .d (.int .i64 x1)], .box [.d (.int .i64 0), .d (.int .i64 0)]]) 3 0 (by kernel_rfl) ty37 (by kernel_rfl) (by kernel_rfl) (by kernel_rfl)) ?_
    refine oOp (.d (.int .i64 1)) (by kernel_rfl) (by kernel_rfl) (PureV.does (p_assign (by kernel_rfl))) ?_
    refine oEnd ?_
    exact oRet (r0 := (0, 0, 1)) (rv := .tuple [.agg [.d (.int .i64 0), .d (.int .i64 0)], .d (.int .i64 1)]) (B := [.sl 4 (List.map e_SPoint xs) true]) (vs := [.agg [.d (.int .i64 0), .d (.int .i64 0)], .d (.int .i64 1)]) (σ := [0]) (by kernel_rfl) Try.func13 rfl (.cons _ _ _ _ (.agg 4 37 3 0 [.d (.int .i64 0), .d (.int .i64 0)] [.d (.int .i64 0), .d (.int .i64 0)] _ _ _ _ (by kernel_rfl) (by kernel_rfl) Try.underlying37 (by kernel_rfl) ty37 (by kernel_rfl) (by kernel_rfl)) (.cons _ _ _ _ (.tmp 5 _ (by kernel_rfl)) .nil)) (by kernel_rfl) (by kernel_rfl) (by kernel_rfl) (by kernel_rfl) (by decide) (by kernel_rfl) (by kernel_rfl)
   ·refine oCondF (by kernel_rfl) ?_
    refine oSkip ?_
    refine oSeq ?_
    refine oRegion rfl ?_
    refine oOp (.ptr 4 0) (by kernel_rfl) (by kernel_rfl) (k_alloc (H' := [.sl 4 (List.map e_SPoint xs) true, .box [.ref 0 (List.length xs) 0 (List.length xs)], .box [.d (.int .i64 x0), .d (.int .i64 x1)], .box [.d (.int .i64 0), .d (.int .i64 0)], .box [.d (.int .i64 0)]]) ty56 (by kernel_rfl) (by kernel_rfl)) ?_
    refine oEnd ?_
    refine oSeq ?_
    refine oRegion rfl ?_
    refine oOp (.ptr 1 0) (by kernel_rfl) (by kernel_rfl) (PureV.does (k_fieldAddr 1 0 (by kernel_rfl) Try.underlying29 rfl ty27 (by kernel_rfl))) ?_
    refine oOp (.ref 0 (List.length xs) 0 (List.length xs)) (by kernel_rfl) (by kernel_rfl) (Quiet.does (k_load 1 0 (by kernel_rfl) Try.underlying27 (by kernel_rfl) (by kernel_rfl))) ?_
    refine oOp (.agg [.d (.int .i64 x0), .d (.int .i64 x1)]) (by kernel_rfl) (by kernel_rfl) (Quiet.does (k_loadAgg 2 0 (by kernel_rfl) Try.underlying37 (by kernel_rfl) ty37 (by kernel_rfl))) ?_
    refine bCall (caps := []) (v := (uc fun (r161 : Int) => (uc fun (r171 : Int) => (fun (x31 : Int) => (.agg [.d (.int .i64 r161), .d (.int .i64 r171)] : V))))) (H' := (uc fun (r161 : Int) => (uc fun (r171 : Int) => (fun (x31 : Int) => ([.sl 4 (List.map e_SPoint xs) true, .box [.ref 0 (List.length xs) 0 (List.length xs)], .box [.d (.int .i64 x0), .d (.int .i64 x1)], .box [.d (.int .i64 0), .d (.int .i64 0)], .box [.d (.int .i64 x31)]] : List Blk))))) [4] _ (conversion_calc_eval_goes k xs x0 x1 0) (by kernel_rfl) (by kernel_rfl) rfl (by kernel_rfl) Try.func25 rfl (by kernel_rfl) (convList (vs0 := [.ptr 4 0, .ref 0 (List.length xs) 0 (List.length xs), .agg [.d (.int .i64 x0), .d (.int .i64 x1)]]) (vs := [.ptr 4 0, .d (.lit (List.map e_SPoint xs)), .agg [.d (.int .i64 x0), .d (.int .i64 x1)]]) (by kernel_rfl) (.cons _ _ _ _ (.same _) (.cons _ _ _ _ (k_lit (enc := e_SPoint) (sz := 4) 0 xs (by kernel_rfl)) (.cons _ _ _ _ (.same _) .nil)))) (by kernel_rfl) (by kernel_rfl) (by kernel_rfl) (by decide) (by kernel_rfl) (by kernel_rfl) (fun _ => (by kernel_rfl)) (fun _ => (by kernel_rfl)) (fun _ => (by kernel_rfl)) (fun r => ?_)
    obtain ⟨r161, r171, x31⟩ := r
    refine bUc ?_
    refine bUc ?_
    refine oOp (.ptr 5 0) (by kernel_rfl) (by kernel_rfl) (k_alloc (H' := [.sl 4 (List.map e_SPoint xs) true, .box [.ref 0 (List.length xs) 0 (List.length xs)], .box [.d (.int .i64 x0), .d (.int .i64 x1)], .box [.d (.int .i64 0), .d (.int .i64 0)], .box [.d (.int .i64 x31)], .box [.d (.int .i64 0), .d (.int .i64 0)]]) ty37 (by kernel_rfl) (by kernel_rfl)) ?_
    refine oOp (.undef) (by kernel_rfl) (by kernel_rfl) (k_store (vs := [.d (.int .i64 r161), .d (.int .i64 r171)]) (H' := [.sl 4 (List.map e_SPoint xs) true, .box [.ref 0 (List.length xs) 0 (List.length xs)], .box [.d (.int .i64 x0), .d (.int .i64 x1)], .box [.d (.int .i64 0), .d (.int .i64 0)], .box [.d (.int .i64 x31)], .box [.d (.int .i64 r161), .d (.int .i64 r171)]]) 5 0 (by kernel_rfl) ty37 (by kernel_rfl) (by kernel_rfl) (by kernel_rfl)) ?_
    refine oEnd ?_
    refine oSeq ?_
    refine oSeq ?_
    refine oRegion rfl ?_
    refine oOp (.ptr 4 0) (by kernel_rfl) (by kernel_rfl) (PureV.does (k_fieldAddr 4 0 (by kernel_rfl) Try.underlying56 rfl ty31 (by kernel_rfl))) ?_
    refine oOp (.d (.int .i64 x31)) (by kernel_rfl) (by kernel_rfl) (Quiet.does (k_load 4 0 (by kernel_rfl) Try.underlying31 (by kernel_rfl) (by kernel_rfl))) ?_
    refine oOp (.d (.bool (x31 != 0))) (by kernel_rfl) (by kernel_rfl) (PureV.does (p_int (k := .i64) (p := x31) (q := 0) (by kernel_rfl) (by kernel_rfl) (by kernel_rfl))) ?_
    refine oEnd ?_
    refine bSplit 23 (by kernel_rfl) (fun hc => ?_) (fun hc => ?_)
    ·refine oCondT (by kernel_rfl) ?_
     refine oSeq ?_
     refine oDraw [(0, 5), (1, 5), (2, 5), (3, 3), (4, 5), (5, 5)] rfl ?_
     refine aTakeL (i := 0) (st' := []) (.agg [.d (.int .i64 0), .d (.int .i64 0)]) rfl (by kernel_rfl) (by kernel_rfl) (by kernel_rfl) (by kernel_rfl) (by kernel_rfl) (by kernel_rfl) (by kernel_rfl) (PureV.quiet (p_build bld37 (by kernel_rfl)) []) ?_
     refine aTakeL (i := 1) (st' := []) (.ptr 4 0) rfl (by kernel_rfl) (by kernel_rfl) (by kernel_rfl) (by kernel_rfl) (by kernel_rfl) (by kernel_rfl) (by kernel_rfl) (PureV.quiet (k_fieldAddr 4 0 (by kernel_rfl) Try.underlying56 rfl ty31 (by kernel_rfl)) []) ?_
     refine aTakeL (i := 2) (st' := [4]) (.d (.int .i64 x31)) rfl (by kernel_rfl) (by kernel_rfl) (by kernel_rfl) (by kernel_rfl) (by kernel_rfl) (by kernel_rfl) (by kernel_rfl) (k_load 4 0 (by kernel_rfl) Try.underlying31 (by kernel_rfl) (by kernel_rfl)) ?_
     refine aOne (i := 3) (v := .undef) rfl (by kernel_rfl) (by kernel_rfl) (by kernel_rfl) (by kernel_rfl) (by kernel_rfl) (by kernel_rfl) (by kernel_rfl) (Does.acts (k_store (vs := [.d (.int .i64 0), .d (.int .i64 0)]) (H' := [.sl 4 (List.map e_SPoint xs) true, .box [.ref 0 (List.length xs) 0 (List.length xs)], .box [.d (.int .i64 x0), .d (.int .i64 x1)], .box [.d (.int .i64 0), .d (.int .i64 0)], .box [.d (.int .i64 x31)], .box [.d (.int .i64 r161), .d (.int .i64 r171)]]) 3 0 (by kernel_rfl) ty37 (by kernel_rfl) (by kernel_rfl) (by kernel_rfl))) (by kernel_rfl) ?_
     refine aTakeL (i := 4) (st' := []) (.d (.int .i64 x31)) rfl (by kernel_rfl) (by kernel_rfl) (by kernel_rfl) (by kernel_rfl) (by kernel_rfl) (by kernel_rfl) (by kernel_rfl) (PureV.quiet (p_assign (by kernel_rfl)) []) ?_
     refine aDone (by kernel_rfl) ?_
     exact oRet (r0 := (0, 0, x31)) (rv := .tuple [.agg [.d (.int .i64 0), .d (.int .i64 0)], .d (.int .i64 x31)]) (B := [.sl 4 (List.map e_SPoint xs) true]) (vs := [.agg [.d (.int .i64 0), .d (.int .i64 0)], .d (.int .i64 x31)]) (σ := [0]) (by kernel_rfl) Try.func13 rfl (.cons _ _ _ _ (.agg 4 37 3 0 [.d (.int .i64 0), .d (.int .i64 0)] [.d (.int .i64 0), .d (.int .i64 0)] _ _ _ _ (by kernel_rfl) (by kernel_rfl) Try.underlying37 (by kernel_rfl) ty37 (by kernel_rfl) (by kernel_rfl)) (.cons _ _ _ _ (.tmp 5 _ (by kernel_rfl)) .nil)) (by kernel_rfl) (by kernel_rfl) (by kernel_rfl) (by kernel_rfl) (by decide) (by kernel_rfl) (by kernel_rfl)
    ·refine oCondF (by kernel_rfl) ?_
     refine oSkip ?_
     refine oSeq ?_
     refine oRegion rfl ?_
     refine oOp (.agg [.d (.int .i64 r161), .d (.int .i64 r171)]) (by kernel_rfl) (by kernel_rfl) (Quiet.does (k_loadAgg 5 0 (by kernel_rfl) Try.underlying37 (by kernel_rfl) ty37 (by kernel_rfl))) ?_
     refine oOp (.undef) (by kernel_rfl) (by kernel_rfl) (k_store (vs := [.d (.int .i64 r161), .d (.int .i64 r171)]) (H' := [.sl 4 (List.map e_SPoint xs) true, .box [.ref 0 (List.length xs) 0 (List.length xs)], .box [.d (.int .i64 x0), .d (.int .i64 x1)], .box [.d (.int .i64 r161), .d (.int .i64 r171)], .box [.d (.int .i64 x31)], .box [.d (.int .i64 r161), .d (.int .i64 r171)]]) 3 0 (by kernel_rfl) ty37 (by kernel_rfl) (by kernel_rfl) (by kernel_rfl)) ?_
     refine oOp (.d (.int .i64 0)) (by kernel_rfl) (by kernel_rfl) (PureV.does (p_assign (by kernel_rfl))) ?_
     refine oEnd ?_
     exact oRet (r0 := (r161, r171, 0)) (rv := .tuple [.agg [.d (.int .i64 r161), .d (.int .i64 r171)], .d (.int .i64 0)]) (B := [.sl 4 (List.map e_SPoint xs) true]) (vs := [.agg [.d (.int .i64 r161), .d (.int .i64 r171)], .d (.int .i64 0)]) (σ := [0]) (by kernel_rfl) Try.func13 rfl (.cons _ _ _ _ (.agg 4 37 3 0 [.d (.int .i64 r161), .d (.int .i64 r171)] [.d (.int .i64 r161), .d (.int .i64 r171)] _ _ _ _ (by kernel_rfl) (by kernel_rfl) Try.underlying37 (by kernel_rfl) ty37 (by kernel_rfl) (by kernel_rfl)) (.cons _ _ _ _ (.tmp 5 _ (by kernel_rfl)) .nil)) (by kernel_rfl) (by kernel_rfl) (by kernel_rfl) (by kernel_rfl) (by decide) (by kernel_rfl) (by kernel_rfl)
  ·refine bSplit 11 (by kernel_rfl) (fun hc => ?_) (fun hc => ?_)
   ·refine oNot (by kernel_rfl) (by kernel_rfl) ?_
    refine oNot (by kernel_rfl) (by kernel_rfl) ?_
    refine oNot (by kernel_rfl) (by kernel_rfl) ?_
    refine oOp (.d (.bool true)) (by kernel_rfl) (by kernel_rfl) (PureV.does (p_pick (b := true) (by kernel_rfl) (by kernel_rfl))) ?_
    refine oHead [2, 3, 4, 15] [0, 1, 2, 3] (T' := [(2, .ptr 1 0), (3, .ptr 2 0), (4, .ptr 3 0), (15, .d (.bool true))]) (H' := [.sl 4 (List.map e_SPoint xs) true, .box [.ref 0 (List.length xs) 0 (List.length xs)], .box [.d (.int .i64 x0), .d (.int .i64 x1)], .box [.d (.int .i64 0), .d (.int .i64 0)]]) (by kernel_rfl) (by kernel_rfl) (by kernel_rfl) (by kernel_rfl) (by decide) (by kernel_rfl) (by kernel_rfl) ?_
    exact hj1 true
   ·refine oOp (.agg [.d (.int .i64 x0), .d (.int .i64 x1)]) (by kernel_rfl) (by kernel_rfl) (Quiet.does (k_loadAgg 2 0 (by kernel_rfl) Try.underlying37 (by kernel_rfl) ty37 (by kernel_rfl))) ?_
    refine bCall (caps := []) (v := (fun (r122 : Bool) => (.d (.bool r122) : V))) (H' := (fun (r122 : Bool) => ([.sl 4 (List.map e_SPoint xs) true, .box [.ref 0 (List.length xs) 0 (List.length xs)], .box [.d (.int .i64 x0), .d (.int .i64 x1)], .box [.d (.int .i64 0), .d (.int .i64 0)]] : List Blk))) [] _ (ratio_Valid_goes k x0 x1) (by kernel_rfl) (by kernel_rfl) rfl (by kernel_rfl) Try.func24 rfl (by kernel_rfl) (ConvRs.refl _ _) (by kernel_rfl) (by kernel_rfl) (by kernel_rfl) (by decide) (by kernel_rfl) (by kernel_rfl) (fun _ => (by kernel_rfl)) (fun _ => (by kernel_rfl)) (fun _ => (by kernel_rfl)) (fun r122 => ?_)
    refine oOp (.d (.bool (!r122))) (by kernel_rfl) (by kernel_rfl) (PureV.does (p_not (p := r122) (by kernel_rfl) (by kernel_rfl))) ?_
    refine oOp (.d (.bool (!r122))) (by kernel_rfl) (by kernel_rfl) (PureV.does (p_pick (b := false) (by kernel_rfl) (by kernel_rfl))) ?_
    refine oHead [2, 3, 4, 15] [0, 1, 2, 3] (T' := [(2, .ptr 1 0), (3, .ptr 2 0), (4, .ptr 3 0), (15, .d (.bool (!r122)))]) (H' := [.sl 4 (List.map e_SPoint xs) true, .box [.ref 0 (List.length xs) 0 (List.length xs)], .box [.d (.int .i64 x0), .d (.int .i64 x1)], .box [.d (.int .i64 0), .d (.int .i64 0)]]) (by kernel_rfl) (by kernel_rfl) (by kernel_rfl) (by kernel_rfl) (by decide) (by kernel_rfl) (by kernel_rfl) ?_
    exact hj1 (!r122)

/-- awardingbody/conversion.Eval -/
def conversion_Eval_2 (k : Nat) (c0 : (List SPoint)) (x0 : Int) (x1 : Int) : Option (Int × Int × Int) := Option.bind (conversion_Valid k c0) (fun r15 => Option.bind (bif (!r15) then some true else Option.bind (ratio_Valid k x0 x1) (fun r122 => some (!r122)) : Option (Bool)) (fun x2 => bif x2 then some (0, 0, 1) else Option.bind (conversion_calc_eval k c0 x0 x1 0) (uc fun r161 => uc fun r171 => fun x31 => bif (x31 != 0) then some (0, 0, x31) else some (r161, r171, 0))))
def conversion_Eval_2_E (c0 : (List SPoint)) (x0 : Int) (x1 : Int) : Int × Int × Int → V × List Blk := uc fun r11 => uc fun r13 => fun r14 => (.tuple [.agg [.d (.int .i64 r11), .d (.int .i64 r13)], .d (.int .i64 r14)], [])
theorem conversion_Eval_2_goes (k : Nat) (c0 : (List SPoint)) (x0 : Int) (x1 : Int) : RunsO Try.prog 13 [.agg [.d (.lit (List.map e_SPoint c0))], .agg [.d (.int .i64 x0), .d (.int .i64 x1)]] [] (conversion_Eval_2_E c0 x0 x1) (conversion_Eval_2 k c0 x0 x1) := by
  refine RunsO.of_goes (N := 28) (m := 0) (T := [(0, .agg [.d (.lit (List.map e_SPoint c0))]), (1, .agg [.d (.int .i64 x0), .d (.int .i64 x1)])]) Try.func13 rfl rfl (by kernel_rfl) (by kernel_rfl) (by kernel_rfl) ?_
  unfold conversion_Eval_2
  refine bStart ?_
  refine oSeq ?_
  refine oRegion rfl ?_
  refine oOp (.ptr 0 0) (by kernel_rfl) (by kernel_rfl) (k_box (H' := [.box [.d (.lit (List.map e_SPoint c0))]]) (cells := [.d (.lit (List.map e_SPoint c0))]) (by kernel_rfl) (by kernel_rfl) (by kernel_rfl)) ?_
  refine oOp (.ptr 1 0) (by kernel_rfl) (by kernel_rfl) (k_box (H' := [.box [.d (.lit (List.map e_SPoint c0))], .box [.d (.int .i64 x0), .d (.int .i64 x1)]]) (cells := [.d (.int .i64 x0), .d (.int .i64 x1)]) (by kernel_rfl) (by kernel_rfl) (by kernel_rfl)) ?_
  refine oOp (.ptr 2 0) (by kernel_rfl) (by kernel_rfl) (k_alloc (H' := [.box [.d (.lit (List.map e_SPoint c0))], .box [.d (.int .i64 x0), .d (.int .i64 x1)], .box [.d (.int .i64 0), .d (.int .i64 0)]]) ty37 (by kernel_rfl) (by kernel_rfl)) ?_
  refine oOp (.d (.int .i64 0)) (by kernel_rfl) (by kernel_rfl) (PureV.does (p_assign (by kernel_rfl))) ?_
  refine oEnd ?_
  refine oSeq ?_
  refine oSeq ?_
  refine oRegion rfl ?_
  refine oOp (.agg [.d (.lit (List.map e_SPoint c0))]) (by kernel_rfl) (by kernel_rfl) (Quiet.does (k_loadAgg 0 0 (by kernel_rfl) Try.underlying29 (by kernel_rfl) ty29 (by kernel_rfl))) ?_
  refine bCall (caps := []) (v := (fun (r15 : Bool) => (.d (.bool r15) : V))) (H' := (fun (r15 : Bool) => ([.box [.d (.lit (List.map e_SPoint c0))], .box [.d (.int .i64 x0), .d (.int .i64 x1)], .box [.d (.int .i64 0), .d (.int .i64 0)]] : List Blk))) [] _ (conversion_Valid_goes k c0) (by kernel_rfl) (by kernel_rfl) rfl (by kernel_rfl) Try.func12 rfl (by kernel_rfl) (ConvRs.refl _ _) (by kernel_rfl) (by kernel_rfl) (by kernel_rfl) (by decide) (by kernel_rfl) (by kernel_rfl) (fun _ => (by kernel_rfl)) (fun _ => (by kernel_rfl)) (fun _ => (by kernel_rfl)) (fun r15 => ?_)
  refine oOp (.d (.bool (!r15))) (by kernel_rfl) (by kernel_rfl) (PureV.does (p_not (p := r15) (by kernel_rfl) (by kernel_rfl))) ?_
  refine oOp (.d (.bool (!r15))) (by kernel_rfl) (by kernel_rfl) (PureV.does (p_move (by kernel_rfl))) ?_
  refine bMeet 4 rfl ((fun (x2 : Bool) => [(2, .ptr 0 0), (3, .ptr 1 0), (4, .ptr 2 0), (15, .d (.bool x2))])) ((fun (x2 : Bool) => [.box [.d (.lit (List.map e_SPoint c0))], .box [.d (.int .i64 x0), .d (.int .i64 x1)], .box [.d (.int .i64 0), .d (.int .i64 0)]])) (fun s => s) (fun x2 => ?_) (fun hj1 => ?_)
  ·refine oView (T' := [(2, .ptr 0 0), (3, .ptr 1 0), (4, .ptr 2 0), (15, .d (.bool x2))]) (H' := [.box [.d (.lit (List.map e_SPoint c0))], .box [.d (.int .i64 x0), .d (.int .i64 x1)], .box [.d (.int .i64 0), .d (.int .i64 0)]]) (by kernel_rfl) (by kernel_rfl) ?_
   refine oEnd ?_
   refine bSplit 15 (by kernel_rfl) (fun hc => ?_) (fun hc => ?_)
   ·refine oCondT (by kernel_rfl) ?_
    refine oSeq ?_
    refine oRegion rfl ?_
    refine oOp (.agg [.d (.int .i64 0), .d (.int .i64 0)]) (by kernel_rfl) (by kernel_rfl) (PureV.does (p_build bld37 (by kernel_rfl))) ?_
    refine oOp (.undef) (by kernel_rfl) (by kernel_rfl) (k_store (vs := [.d (.int .i64 0), .d (.int .i64 0)]) (H' := [.box [.d (.lit (List.map e_SPoint c0))], .box [.d (.int .i64 x0), .d (.int .i64 x1)], .box [.d (.int .i64 0), .d (.int .i64 0)]]) 2 0 (by kernel_rfl) ty37 (by kernel_rfl) (by kernel_rfl) (by kernel_rfl)) ?_
    refine oOp (.d (.int .i64 1)) (by kernel_rfl) (by kernel_rfl) (PureV.does (p_assign (by kernel_rfl))) ?_
    refine oEnd ?_
    exact oRet (r0 := (0, 0, 1)) (rv := .tuple [.agg [.d (.int .i64 0), .d (.int .i64 0)], .d (.int .i64 1)]) (B := []) (vs := [.agg [.d (.int .i64 0), .d (.int .i64 0)], .d (.int .i64 1)]) (σ := []) (by kernel_rfl) Try.func13 rfl (.cons _ _ _ _ (.agg 4 37 2 0 [.d (.int .i64 0), .d (.int .i64 0)] [.d (.int .i64 0), .d (.int .i64 0)] _ _ _ _ (by kernel_rfl) (by kernel_rfl) Try.underlying37 (by kernel_rfl) ty37 (by kernel_rfl) (by kernel_rfl)) (.cons _ _ _ _ (.tmp 5 _ (by kernel_rfl)) .nil)) (by kernel_rfl) (by kernel_rfl) (by kernel_rfl) (by kernel_rfl) (by decide) (by kernel_rfl) (by kernel_rfl)
   ·refine oCondF (by kernel_rfl) ?_
    refine oSkip ?_
    refine oSeq ?_
    refine oRegion rfl ?_
    refine oOp (.ptr 3 0) (by kernel_rfl) (by kernel_rfl) (k_alloc (H' := [.box [.d (.lit (List.map e_SPoint c0))], .box [.d (.int .i64 x0), .d (.int .i64 x1)], .box [.d (.int .i64 0), .d (.int .i64 0)], .box [.d (.int .i64 0)]]) ty56 (by kernel_rfl) (by kernel_rfl)) ?_
    refine oEnd ?_
    refine oSeq ?_
    refine oRegion rfl ?_
    refine oOp (.ptr 0 0) (by kernel_rfl) (by kernel_rfl) (PureV.does (k_fieldAddr 0 0 (by kernel_rfl) Try.underlying29 rfl ty27 (by kernel_rfl))) ?_
    refine oOp (.d (.lit (List.map e_SPoint c0))) (by kernel_rfl) (by kernel_rfl) (Quiet.does (k_load 0 0 (by kernel_rfl) Try.underlying27 (by kernel_rfl) (by kernel_rfl))) ?_
    refine oOp (.agg [.d (.int .i64 x0), .d (.int .i64 x1)]) (by kernel_rfl) (by kernel_rfl) (Quiet.does (k_loadAgg 1 0 (by kernel_rfl) Try.underlying37 (by kernel_rfl) ty37 (by kernel_rfl))) ?_
    refine bCall (caps := []) (v := (uc fun (r161 : Int) => (uc fun (r171 : Int) => (fun (x31 : Int) => (.agg [.d (.int .i64 r161), .d (.int .i64 r171)] : V))))) (H' := (uc fun (r161 : Int) => (uc fun (r171 : Int) => (fun (x31 : Int) => ([.box [.d (.lit (List.map e_SPoint c0))], .box [.d (.int .i64 x0), .d (.int .i64 x1)], .box [.d (.int .i64 0), .d (.int .i64 0)], .box [.d (.int .i64 x31)]] : List Blk))))) [3] _ (conversion_calc_eval_goes k c0 x0 x1 0) (by kernel_rfl) (by kernel_rfl) rfl (by kernel_rfl) Try.func25 rfl (by kernel_rfl) (ConvRs.refl _ _) (by kernel_rfl) (by kernel_rfl) (by kernel_rfl) (by decide) (by kernel_rfl) (by kernel_rfl) (fun _ => (by kernel_rfl)) (fun _ => (by kernel_rfl)) (fun _ => (by kernel_rfl)) (fun r => ?_)
    obtain ⟨r161, r171, x31⟩ := r
    refine bUc ?_
    refine bUc ?_
    refine oOp (.ptr 4 0) (by kernel_rfl) (by kernel_rfl) (k_alloc (H' := [.box [.d (.lit (List.map e_SPoint c0))], .box [.d (.int .i64 x0), .d (.int .i64 x1)], .box [.d (.int .i64 0), .d (.int .i64 0)], .box [.d (.int .i64 x31)], .box [.d (.int .i64 0), .d (.int .i64 0)]]) ty37 (by kernel_rfl) (by kernel_rfl)) ?_
    refine oOp (.undef) (by kernel_rfl) (by kernel_rfl) (k_store (vs := [.d (.int .i64 r161), .d (.int .i64 r171)]) (H' := [.box [.d (.lit (List.map e_SPoint c0))], .box [.d (.int .i64 x0), .d (.int .i64 x1)], .box [.d (.int .i64 0), .d (.int .i64 0)], .box [.d (.int .i64 x31)], .box [.d (.int .i64 r161), .d (.int .i64 r171)]]) 4 0 (by kernel_rfl) ty37 (by kernel_rfl) (by kernel_rfl) (by kernel_rfl)) ?_
    refine oEnd ?_
    refine oSeq ?_
    refine oSeq ?_
    refine oRegion rfl ?_
    refine oOp (.ptr 3 0) (by kernel_rfl) (by kernel_rfl) (PureV.does (k_fieldAddr 3 0 (by kernel_rfl) Try.underlying56 rfl ty31 (by kernel_rfl))) ?_
    refine oOp (.d (.int .i64 x31)) (by kernel_rfl) (by kernel_rfl) (Quiet.does (k_load 3 0 (by kernel_rfl) Try.underlying31 (by kernel_rfl) (by kernel_rfl))) ?_
    refine oOp (.d (.bool (x31 != 0))) (by kernel_rfl) (by kernel_rfl) (PureV.does (p_int (k := .i64) (p := x31) (q := 0) (by kernel_rfl) (by kernel_rfl) (by kernel_rfl))) ?_
    refine oEnd ?_
    refine bSplit 23 (by kernel_rfl) (fun hc => ?_) (fun hc => ?_)
    ·refine oCondT (by kernel_rfl) ?_
     refine oSeq ?_
     refine oDraw [(0, 5), (1, 5), (2, 3), (3, 5), (4, 5)] rfl ?_
     refine aTakeL (i := 0) (st' := []) (.agg [.d (.int .i64 0), .d (.int .i64 0)]) rfl (by kernel_rfl) (by kernel_rfl) (by kernel_rfl) (by kernel_rfl) (by kernel_rfl) (by kernel_rfl) (by kernel_rfl) (PureV.quiet (p_build bld37 (by kernel_rfl)) []) ?_
     refine aTakeL (i := 1) (st' := []) (.ptr 3 0) rfl (by kernel_rfl) (by kernel_rfl) (by kernel_rfl) (by kernel_rfl) (by kernel_rfl) (by kernel_rfl) (by kernel_rfl) (PureV.quiet (k_fieldAddr 3 0 (by kernel_rfl) Try.underlying56 rfl ty31 (by kernel_rfl)) []) ?_
     refine aTakeL (i := 2) (st' := [3]) (.d (.int .i64 x31)) rfl (by kernel_rfl) (by kernel_rfl) (by kernel_rfl) (by kernel_rfl) (by kernel_rfl) (by kernel_rfl) (by kernel_rfl) (k_load 3 0 (by kernel_rfl) Try.underlying31 (by kernel_rfl) (by kernel_rfl)) ?_
     refine aOne (i := 3) (v := .undef) rfl (by kernel_rfl) (by kernel_rfl) (by kernel_rfl) (by kernel_rfl) (by kernel_rfl) (by kernel_rfl) (by kernel_rfl) (Does.acts (k_store (vs := [.d (.int .i64 0), .d (.int .i64 0)]) (H' := [.box [.d (.lit (List.map e_SPoint c0))], .box [.d (.int .i64 x0), .d (.int .i64 x1)], .box [.d (.int .i64 0), .d (.int .i64 0)], .box [.d (.int .i64 x31)], .box [.d (.int .i64 r161), .d (.int .i64 r171)]]) 2 0 (by kernel_rfl) ty37 (by kernel_rfl) (by kernel_rfl) (by kernel_rfl))) (by kernel_rfl) ?_
     refine aTakeL (i := 4) (st' := []) (.d (.int .i64 x31)) rfl (by kernel_rfl) (by kernel_rfl) (by kernel_rfl) (by kernel_rfl) (by kernel_rfl) (by kernel_rfl) (by kernel_rfl) (PureV.quiet (p_assign (by kernel_rfl)) []) ?_
     refine aDone (by kernel_rfl) ?_
     exact oRet (r0 := (0, 0, x31)) (rv := .tuple [.agg [.d (.int .i64 0), .d (.int .i64 0)], .d (.int .i64 x31)]) (B := []) (vs := [.agg [.d (.int .i64 0), .d (.int .i64 0)], .d (.int .i64 x31)]) (σ := []) (by kernel_rfl) Try.func13 rfl (.cons _ _ _ _ (.agg 4 37 2 0 [.d (.int .i64 0), .d (.int .i64 0)] [.d (.int .i64 0), .d (.int .i64 0)] _ _ _ _ (by kernel_rfl) (by kernel_rfl) Try.underlying37 (by kernel_rfl) ty37 (by kernel_rfl) (by kernel_rfl)) (.cons _ _ _ _ (.tmp 5 _ (by kernel_rfl)) .nil)) (by kernel_rfl) (by kernel_rfl) (by kernel_rfl) (by kernel_rfl) (by decide) (by kernel_rfl) (by kernel_rfl)
    ·refine oCondF (by kernel_rfl) ?_
     refine oSkip ?_
     refine oSeq ?_
     refine oRegion rfl ?_
     refine oOp (.agg [.d (.int .i64 r161), .d (.int .i64 r171)]) (by kernel_rfl) (by kernel_rfl) (Quiet.does (k_loadAgg 4 0 (by kernel_rfl) Try.underlying37 (by kernel_rfl) ty37 (by kernel_rfl))) ?_
     refine oOp (.undef) (by kernel_rfl) (by kernel_rfl) (k_store (vs := [.d (.int .i64 r161), .d (.int .i64 r171)]) (H' := [.box [.d (.lit (List.map e_SPoint c0))], .box [.d (.int .i64 x0), .d (.int .i64 x1)], .box [.d (.int .i64 r161), .d (.int .i64 r171)], .box [.d (.int .i64 x31)], .box [.d (.int .i64 r161), .d (.int .i64 r171)]]) 2 0 (by kernel_rfl) ty37 (by kernel_rfl) (by kernel_rfl) (by kernel_rfl)) ?_
     refine oOp (.d (.int .i64 0)) (by kernel_rfl) (by kernel_rfl) (PureV.does (p_assign (by kernel_rfl))) ?_
     refine oEnd ?_
     exact oRet (r0 := (r161, r171, 0)) (rv := .tuple [.agg [.d (.int .i64 r161), .d (.int .i64 r171)], .d (.int .i64 0)]) (B := []) (vs := [.agg [.d (.int .i64 r161), .d (.int .i64 r171)], .d (.int .i64 0)]) (σ := []) (by kernel_rfl) Try.func13 rfl (.cons _ _ _ _ (.agg 4 37 2 0 [.d (.int .i64 r161), .d (.int .i64 r171)] [.d (.int .i64 r161), .d (.int .i64 r171)] _ _ _ _ (by kernel_rfl) (by kernel_rfl) Try.underlying37 (by kernel_rfl) ty37 (by kernel_rfl) (by kernel_rfl)) (.cons _ _ _ _ (.tmp 5 _ (by kernel_rfl)) .nil)) (by kernel_rfl) (by kernel_rfl) (by kernel_rfl) (by kernel_rfl) (by decide) (by kernel_rfl) (by kernel_rfl)
  ·refine bSplit 11 (by kernel_rfl) (fun hc => ?_) (fun hc => ?_)
   ·refine oNot (by kernel_rfl) (by kernel_rfl) ?_
    refine oNot (by kernel_rfl) (by kernel_rfl) ?_
    refine oNot (by kernel_rfl) (by kernel_rfl) ?_
    refine oOp (.d (.bool true)) (by kernel_rfl) (by kernel_rfl) (PureV.does (p_pick (b := true) (by kernel_rfl) (by kernel_rfl))) ?_
    refine oHead [2, 3, 4, 15] [0, 1, 2] (T' := [(2, .ptr 0 0), (3, .ptr 1 0), (4, .ptr 2 0), (15, .d (.bool true))]) (H' := [.box [.d (.lit (List.map e_SPoint c0))], .box [.d (.int .i64 x0), .d (.int .i64 x1)], .box [.d (.int .i64 0), .d (.int .i64 0)]]) (by kernel_rfl) (by kernel_rfl) (by kernel_rfl) (by kernel_rfl) (by decide) (by kernel_rfl) (by kernel_rfl) ?_
    exact hj1 true
   ·refine oOp (.agg [.d (.int .i64 x0), .d (.int .i64 x1)]) (by kernel_rfl) (by kernel_rfl) (Quiet.does (k_loadAgg 1 0 (by kernel_rfl) Try.underlying37 (by kernel_rfl) ty37 (by kernel_rfl))) ?_
    refine bCall (caps := []) (v := (fun (r122 : Bool) => (.d (.bool r122) : V))) (H' := (fun (r122 : Bool) => ([.box [.d (.lit (List.map e_SPoint c0))], .box [.d (.int .i64 x0), .d (.int .i64 x1)], .box [.d (.int .i64 0), .d (.int .i64 0)]] : List Blk))) [] _ (ratio_Valid_goes k x0 x1) (by kernel_rfl) (by kernel_rfl) rfl (by kernel_rfl) Try.func24 rfl (by kernel_rfl) (ConvRs.refl _ _) (by kernel_rfl) (by kernel_rfl) (by kernel_rfl) (by decide) (by kernel_rfl) (by kernel_rfl) (fun _ => (by kernel_rfl)) (fun _ => (by kernel_rfl)) (fun _ => (by kernel_rfl)) (fun r122 => ?_)
    refine oOp (.d (.bool (!r122))) (by kernel_rfl) (by kernel_rfl) (PureV.does (p_not (p := r122) (by kernel_rfl) (by kernel_rfl))) ?_
    refine oOp (.d (.bool (!r122))) (by kernel_rfl) (by kernel_rfl) (PureV.does (p_pick (b := false) (by kernel_rfl) (by kernel_rfl))) ?_
    refine oHead [2, 3, 4, 15] [0, 1, 2] (T' := [(2, .ptr 0 0), (3, .ptr 1 0), (4, .ptr 2 0), (15, .d (.bool (!r122)))]) (H' := [.box [.d (.lit (List.map e_SPoint c0))], .box [.d (.int .i64 x0), .d (.int .i64 x1)], .box [.d (.int .i64 0), .d (.int .i64 0)]]) (by kernel_rfl) (by kernel_rfl) (by kernel_rfl) (by kernel_rfl) (by decide) (by kernel_rfl) (by kernel_rfl) ?_
    exact hj1 (!r122)

/-- awardingbody/conversion.whole -/
def conversion_whole (k : Nat) (n : Int) : Option (Unit) := some ()
def conversion_whole_E (n : Int) : Unit → V × List Blk := u0 ((.agg [.d (.int .i64 n), .d (.int .i64 1)], []))
theorem conversion_whole_goes (k : Nat) (n : Int) : RunsO Try.prog 32 [.d (.int .i64 n)] [] (conversion_whole_E n) (conversion_whole k n) := by
  refine RunsO.of_goes (N := 5) (m := 0) (T := [(0, .d (.int .i64 n))]) Try.func32 rfl rfl (by kernel_rfl) (by kernel_rfl) (by kernel_rfl) ?_
  unfold conversion_whole
  refine bStart ?_
  refine oSeq ?_
  refine oRegion rfl ?_
  refine oOp (.ptr 0 0) (by kernel_rfl) (by kernel_rfl) (k_alloc (H' := [.box [.d (.int .i64 0), .d (.int .i64 0)]]) ty37 (by kernel_rfl) (by kernel_rfl)) ?_
  refine oEnd ?_
  refine oSeq ?_
  refine oRegion rfl ?_
  refine oOp (.d (.int .i64 n)) (by kernel_rfl) (by kernel_rfl) (PureV.does (p_move (by kernel_rfl))) ?_
  refine oOp (.agg [.d (.int .i64 n), .d (.int .i64 1)]) (by kernel_rfl) (by kernel_rfl) (PureV.does (p_build bld37 (by kernel_rfl))) ?_
  refine oOp (.undef) (by kernel_rfl) (by kernel_rfl) (k_store (vs := [.d (.int .i64 n), .d (.int .i64 1)]) (H' := [.box [.d (.int .i64 n), .d (.int .i64 1)]]) 0 0 (by kernel_rfl) ty37 (by kernel_rfl) (by kernel_rfl) (by kernel_rfl)) ?_
  refine oEnd ?_
  exact oRet (r0 := ()) (rv := .agg [.d (.int .i64 n), .d (.int .i64 1)]) (B := []) (vs := [.agg [.d (.int .i64 n), .d (.int .i64 1)]]) (σ := []) (by kernel_rfl) Try.func32 rfl (.cons _ _ _ _ (.agg 2 37 0 0 [.d (.int .i64 n), .d (.int .i64 1)] [.d (.int .i64 n), .d (.int .i64 1)] _ _ _ _ (by kernel_rfl) (by kernel_rfl) Try.underlying37 (by kernel_rfl) ty37 (by kernel_rfl) (by kernel_rfl)) .nil) (by kernel_rfl) (by kernel_rfl) (by kernel_rfl) (by kernel_rfl) (by decide) (by kernel_rfl) (by kernel_rfl)

/-- (*awardingbody/conversion.calc).normal -/
def conversion_calc_normal_b1 (k : Nat) (l : (List SPoint)) (again : Int × Int × (List SPoint) × Int × Int → Option (Int × (List SPoint))) : Int × Int × (List SPoint) × Int × Int → Option (Int × (List SPoint)) := uc fun i4 => uc fun x55 => uc fun xs11 => uc fun x56 => fun x57 => blet ((decide (i4 < ((List.length l) : Int))) && (x55 == 0)) fun x65 => bif x65 then Option.bind (Option.bind (conversion_calc_slope k l i4 x55) (uc fun r123 => uc fun r1112 => fun x214 => bif (!((r123 == x56) && ((r1112 == x57) && true))) then gidx l (IntKind.wrap .i64 (i4 - 1)) fun e1 => gcap (List.length (xs11 ++ ([e1] : List SPoint))) 32 (some (x214, (xs11 ++ ([e1] : List SPoint)), r123, r1112)) else some (x214, xs11, x56, x57)) : Option (Int × (List SPoint) × Int × Int)) (uc fun x66 => uc fun xs14 => uc fun x67 => fun x68 => again ((IntKind.wrap .i64 (i4 + 1)), x66, xs14, x67, x68)) else some (x55, xs11)
def conversion_calc_normal (k : Nat) (l : (List SPoint)) (x : Int) : Option ((List SPoint) × Int) := Option.bind (conversion_calc_slope k l 1 x) (uc fun r19 => uc fun r114 => fun x27 => Option.bind (gloop (conversion_calc_normal_b1 k l) k (2, x27, ([] : List SPoint), r19, r114) : Option (Int × (List SPoint))) (uc fun x45 => fun xs9 => bif (x45 != 0) then some ([], x45) else Option.bind (conversion_whole k 0) (u0 (Option.bind (conversion_whole k 1) (u0 (Option.bind (bif (decide (((List.length xs9) : Int) > 0)) then gidx xs9 0 fun e11 => gidx xs9 (IntKind.wrap .i64 (((List.length xs9) : Int) - 1)) fun e12 => Option.bind (conversion_whole k 1) (u0 (Option.bind (conversion_calc_sub k e11.X_Num e11.X_Den 1 1 x45) (uc fun r121 => uc fun r14 => fun x17 => Option.bind (conversion_whole k 1) (u0 (Option.bind (conversion_calc_add k e12.X_Num e12.X_Den 1 1 x17) (uc fun r15 => uc fun r113 => fun x18 => some (x18, r121, r14, r15, r113))))))) else some (x45, 0, 1, 1, 1) : Option (Int × Int × Int × Int × Int)) (uc fun x46 => uc fun x47 => uc fun x48 => uc fun x49 => fun x50 => bif (x46 != 0) then some ([], x46) else Option.bind (conversion_calc_eval k l x47 x48 x46) (uc fun r16 => uc fun r17 => fun x31 => gcap (List.length (([(⟨x47, x48, r16, r17⟩ : SPoint)] : List SPoint) ++ xs9)) 32 (Option.bind (conversion_calc_eval k l x49 x50 x31) (uc fun r161 => uc fun r171 => fun x32 => gcap (List.length ((([(⟨x47, x48, r16, r17⟩ : SPoint)] : List SPoint) ++ xs9) ++ ([(⟨x49, x50, r161, r171⟩ : SPoint)] : List SPoint))) 32 (some (((([(⟨x47, x48, r16, r17⟩ : SPoint)] : List SPoint) ++ xs9) ++ ([(⟨x49, x50, r161, r171⟩ : SPoint)] : List SPoint)), x32))))))))))))
def conversion_calc_normal_E (l : (List SPoint)) (x : Int) : (List SPoint) × Int → V × List Blk := uc fun r18 => fun x26 => (.d (.lit (List.map e_SPoint r18)), [.box [.d (.int .i64 x26)]])
theorem conversion_calc_normal_goes (k : Nat) (l : (List SPoint)) (x : Int) : RunsO Try.prog 33 [.ptr 0 0, .d (.lit (List.map e_SPoint l))] [.box [.d (.int .i64 x)]] (conversion_calc_normal_E l x) (conversion_calc_normal k l x) := by
  refine RunsO.of_goes (N := 95) (m := 1) (T := [(0, .ptr 0 0), (1, .d (.lit (List.map e_SPoint l)))]) Try.func33 rfl rfl (by kernel_rfl) (by kernel_rfl) (by kernel_rfl) ?_
  unfold conversion_calc_normal
  refine bStart ?_
  refine oSeq ?_
  refine oRegion rfl ?_
  refine oOp (.nilc) (by kernel_rfl) (by kernel_rfl) (PureV.does (p_assign (by kernel_rfl))) ?_
  refine oEnd ?_
  refine oSeq ?_
  refine oRegion rfl ?_
  refine oOp (.nilc) (by kernel_rfl) (by kernel_rfl) (PureV.does (p_assign (by kernel_rfl))) ?_
  refine oEnd ?_
  refine oSeq ?_
  refine oRegion rfl ?_
  refine oOp (.ptr 0 0) (by kernel_rfl) (by kernel_rfl) (PureV.does (p_move (by kernel_rfl))) ?_
  refine oOp (.d (.lit (List.map e_SPoint l))) (by kernel_rfl) (by kernel_rfl) (PureV.does (p_move (by kernel_rfl))) ?_
  refine bCall (caps := []) (v := (uc fun (r19 : Int) => (uc fun (r114 : Int) => (fun (x27 : Int) => (.agg [.d (.int .i64 r19), .d (.int .i64 r114)] : V))))) (H' := (uc fun (r19 : Int) => (uc fun (r114 : Int) => (fun (x27 : Int) => ([.box [.d (.int .i64 x27)]] : List Blk))))) [0] _ (conversion_calc_slope_goes k l 1 x) (by kernel_rfl) (by kernel_rfl) rfl (by kernel_rfl) Try.func41 rfl (by kernel_rfl) (ConvRs.refl _ _) (by kernel_rfl) (by kernel_rfl) (by kernel_rfl) (by decide) (by kernel_rfl) (by kernel_rfl) (fun _ => (by kernel_rfl)) (fun _ => (by kernel_rfl)) (fun _ => (by kernel_rfl)) (fun r => ?_)
  obtain ⟨r19, r114, x27⟩ := r
  refine bUc ?_
  refine bUc ?_
  refine oOp (.ptr 1 0) (by kernel_rfl) (by kernel_rfl) (k_alloc (H' := [.box [.d (.int .i64 x27)], .box [.d (.int .i64 0), .d (.int .i64 0)]]) ty37 (by kernel_rfl) (by kernel_rfl)) ?_
  refine oOp (.undef) (by kernel_rfl) (by kernel_rfl) (k_store (vs := [.d (.int .i64 r19), .d (.int .i64 r114)]) (H' := [.box [.d (.int .i64 x27)], .box [.d (.int .i64 r19), .d (.int .i64 r114)]]) 1 0 (by kernel_rfl) ty37 (by kernel_rfl) (by kernel_rfl) (by kernel_rfl)) ?_
  refine oEnd ?_
  refine oSeq ?_
  refine oSeq ?_
  refine oRegion rfl ?_
  refine oOp (.d (.int .i64 2)) (by kernel_rfl) (by kernel_rfl) (PureV.does (p_assign (by kernel_rfl))) ?_
  refine oEnd ?_
  refine bJoin ((uc fun (x45 : Int) => (fun (xs9 : (List SPoint)) => [(0, .ptr 0 0), (1, .d (.lit (List.map e_SPoint l))), (5, .ref 1 (List.length xs9) 0 (List.length xs9))]))) ((uc fun (x45 : Int) => (fun (xs9 : (List SPoint)) => [.box [.d (.int .i64 x45)], .sl 4 (List.map e_SPoint xs9) false]))) (fun s => s) (fun s => ?_) (fun hj7 => ?_)
  ·obtain ⟨x45, xs9⟩ := s
   refine bUc ?_
   refine oView (T' := [(0, .ptr 0 0), (1, .d (.lit (List.map e_SPoint l))), (5, .ref 1 (List.length xs9) 0 (List.length xs9))]) (H' := [.box [.d (.int .i64 x45)], .sl 4 (List.map e_SPoint xs9) false]) (by kernel_rfl) (by kernel_rfl) ?_
   refine oSeq ?_
   refine oSeq ?_
   refine oRegion rfl ?_
   refine oOp (.ptr 0 0) (by kernel_rfl) (by kernel_rfl) (PureV.does (p_move (by kernel_rfl))) ?_
   refine oOp (.ptr 0 0) (by kernel_rfl) (by kernel_rfl) (PureV.does (k_nilCheck 0 0 (by kernel_rfl) (by kernel_rfl))) ?_
   refine oOp (.ptr 0 0) (by kernel_rfl) (by kernel_rfl) (PureV.does (k_fieldAddr 0 0 (by kernel_rfl) Try.underlying56 rfl ty31 (by kernel_rfl))) ?_
   refine oOp (.d (.int .i64 x45)) (by kernel_rfl) (by kernel_rfl) (Quiet.does (k_load 0 0 (by kernel_rfl) Try.underlying31 (by kernel_rfl) (by kernel_rfl))) ?_
   refine oOp (.d (.bool (x45 != 0))) (by kernel_rfl) (by kernel_rfl) (PureV.does (p_int (k := .i64) (p := x45) (q := 0) (by kernel_rfl) (by kernel_rfl) (by kernel_rfl))) ?_
   refine oEnd ?_
   refine bSplit 49 (by kernel_rfl) (fun hc => ?_) (fun hc => ?_)
   ·refine oCondT (by kernel_rfl) ?_
    refine oSeq ?_
    refine oRegion rfl ?_
    refine oOp (.nilc) (by kernel_rfl) (by kernel_rfl) (PureV.does (p_assign (by kernel_rfl))) ?_
    refine oEnd ?_
    refine oConv 4 (v := .nilc) (v' := .d (.lit (List.map e_SPoint []))) (by kernel_rfl) .nil ?_
    exact oRet (r0 := ([], x45)) (rv := .d (.lit (List.map e_SPoint []))) (B := [.box [.d (.int .i64 x45)]]) (vs := [.d (.lit (List.map e_SPoint []))]) (σ := [0]) (by kernel_rfl) Try.func33 rfl (.cons _ _ _ _ (.tmp 4 _ (by kernel_rfl)) .nil) (by kernel_rfl) (by kernel_rfl) (by kernel_rfl) (by kernel_rfl) (by decide) (by kernel_rfl) (by kernel_rfl)
   ·refine oCondF (by kernel_rfl) ?_
    refine oSkip ?_
    refine oSeq ?_
    refine oRegion rfl ?_
    refine bCall (caps := []) (v := (u0 ((.agg [.d (.int .i64 0), .d (.int .i64 1)] : V)))) (H' := (u0 (([.box [.d (.int .i64 x45)], .sl 4 (List.map e_SPoint xs9) false] : List Blk)))) [] _ (conversion_whole_goes k 0) (by kernel_rfl) (by kernel_rfl) rfl (by kernel_rfl) Try.func32 rfl (by kernel_rfl) (ConvRs.refl _ _) (by kernel_rfl) (by kernel_rfl) (by kernel_rfl) (by decide) (by kernel_rfl) (by kernel_rfl) (fun _ => (by kernel_rfl)) (fun _ => (by kernel_rfl)) (fun _ => (by kernel_rfl)) (fun r => ?_)
    cases r
    refine bU0 ?_
    refine bCall (caps := []) (v := (u0 ((.agg [.d (.int .i64 1), .d (.int .i64 1)] : V)))) (H' := (u0 (([.box [.d (.int .i64 x45)], .sl 4 (List.map e_SPoint xs9) false] : List Blk)))) [] _ (conversion_whole_goes k 1) (by kernel_rfl) (by kernel_rfl) rfl (by kernel_rfl) Try.func32 rfl (by kernel_rfl) (ConvRs.refl _ _) (by kernel_rfl) (by kernel_rfl) (by kernel_rfl) (by decide) (by kernel_rfl) (by kernel_rfl) (fun _ => (by kernel_rfl)) (fun _ => (by kernel_rfl)) (fun _ => (by kernel_rfl)) (fun r => ?_)
    cases r
    refine bU0 ?_
    refine oOp (.ptr 2 0) (by kernel_rfl) (by kernel_rfl) (k_alloc (H' := [.box [.d (.int .i64 x45)], .sl 4 (List.map e_SPoint xs9) false, .box [.d (.int .i64 0), .d (.int .i64 0)]]) ty37 (by kernel_rfl) (by kernel_rfl)) ?_
    refine oOp (.ptr 3 0) (by kernel_rfl) (by kernel_rfl) (k_alloc (H' := [.box [.d (.int .i64 x45)], .sl 4 (List.map e_SPoint xs9) false, .box [.d (.int .i64 0), .d (.int .i64 0)], .box [.d (.int .i64 0), .d (.int .i64 0)]]) ty37 (by kernel_rfl) (by kernel_rfl)) ?_
    refine oOp (.undef) (by kernel_rfl) (by kernel_rfl) (k_store (vs := [.d (.int .i64 0), .d (.int .i64 1)]) (H' := [.box [.d (.int .i64 x45)], .sl 4 (List.map e_SPoint xs9) false, .box [.d (.int .i64 0), .d (.int .i64 1)], .box [.d (.int .i64 0), .d (.int .i64 0)]]) 2 0 (by kernel_rfl) ty37 (by kernel_rfl) (by kernel_rfl) (by kernel_rfl)) ?_
    refine oOp (.undef) (by kernel_rfl) (by kernel_rfl) (k_store (vs := [.d (.int .i64 1), .d (.int .i64 1)]) (H' := [.box [.d (.int .i64 x45)], .sl 4 (List.map e_SPoint xs9) false, .box [.d (.int .i64 0), .d (.int .i64 1)], .box [.d (.int .i64 1), .d (.int .i64 1)]]) 3 0 (by kernel_rfl) ty37 (by kernel_rfl) (by kernel_rfl) (by kernel_rfl)) ?_
    refine oEnd ?_
    refine oSeq ?_
    refine oSeq ?_
    refine oRegion rfl ?_
    refine oOp (.ref 1 (List.length xs9) 0 (List.length xs9)) (by kernel_rfl) (by kernel_rfl) (PureV.does (p_move (by kernel_rfl))) ?_
    refine oOp (.d (.int .i64 ((List.length xs9) : Int))) (by kernel_rfl) (by kernel_rfl) (PureV.does (k_lenRef (enc := e_SPoint) (sz := 4) (fro := false) 1 xs9 (by kernel_rfl) (by kernel_rfl) Try.underlying27)) ?_
    refine oOp (.d (.int .i64 ((List.length xs9) : Int))) (by kernel_rfl) (by kernel_rfl) (PureV.does (p_assign (by kernel_rfl))) ?_
    refine oEnd ?_
    refine oSeq ?_
    refine oRegion rfl ?_
    refine oOp (.d (.int .i64 ((List.length xs9) : Int))) (by kernel_rfl) (by kernel_rfl) (PureV.does (p_move (by kernel_rfl))) ?_
    refine oOp (.d (.bool (decide (((List.length xs9) : Int) > 0)))) (by kernel_rfl) (by kernel_rfl) (PureV.does (p_int (k := .i64) (p := ((List.length xs9) : Int)) (q := 0) (by kernel_rfl) (by kernel_rfl) (by kernel_rfl))) ?_
    refine oEnd ?_
    refine bJoin ((uc fun (x46 : Int) => (uc fun (x47 : Int) => (uc fun (x48 : Int) => (uc fun (x49 : Int) => (fun (x50 : Int) => [(0, .ptr 0 0), (1, .d (.lit (List.map e_SPoint l))), (5, .d (.lit (List.map e_SPoint xs9))), (9, .ptr 1 0), (10, .ptr 2 0)])))))) ((uc fun (x46 : Int) => (uc fun (x47 : Int) => (uc fun (x48 : Int) => (uc fun (x49 : Int) => (fun (x50 : Int) => [.box [.d (.int .i64 x46)], .box [.d (.int .i64 x47), .d (.int .i64 x48)], .box [.d (.int .i64 x49), .d (.int .i64 x50)]])))))) (fun s => s) (fun s => ?_) (fun hj8 => ?_)
    ·obtain ⟨x46, x47, x48, x49, x50⟩ := s
     refine bUc ?_
     refine bUc ?_
     refine bUc ?_
     refine bUc ?_
     refine oView (T' := [(0, .ptr 0 0), (1, .d (.lit (List.map e_SPoint l))), (5, .d (.lit (List.map e_SPoint xs9))), (9, .ptr 1 0), (10, .ptr 2 0)]) (H' := [.box [.d (.int .i64 x46)], .box [.d (.int .i64 x47), .d (.int .i64 x48)], .box [.d (.int .i64 x49), .d (.int .i64 x50)]]) (by kernel_rfl) (by kernel_rfl) ?_
     refine oSeq ?_
     refine oSeq ?_
     refine oRegion rfl ?_
     refine oOp (.ptr 0 0) (by kernel_rfl) (by kernel_rfl) (PureV.does (p_move (by kernel_rfl))) ?_
     refine oOp (.ptr 0 0) (by kernel_rfl) (by kernel_rfl) (PureV.does (k_nilCheck 0 0 (by kernel_rfl) (by kernel_rfl))) ?_
     refine oOp (.ptr 0 0) (by kernel_rfl) (by kernel_rfl) (PureV.does (k_fieldAddr 0 0 (by kernel_rfl) Try.underlying56 rfl ty31 (by kernel_rfl))) ?_
     refine oOp (.d (.int .i64 x46)) (by kernel_rfl) (by kernel_rfl) (Quiet.does (k_load 0 0 (by kernel_rfl) Try.underlying31 (by kernel_rfl) (by kernel_rfl))) ?_
     refine oOp (.d (.bool (x46 != 0))) (by kernel_rfl) (by kernel_rfl) (PureV.does (p_int (k := .i64) (p := x46) (q := 0) (by kernel_rfl) (by kernel_rfl) (by kernel_rfl))) ?_
     refine oEnd ?_
     refine bSplit 76 (by kernel_rfl) (fun hc => ?_) (fun hc => ?_)
     ·refine oCondT (by kernel_rfl) ?_
      refine oSeq ?_
      refine oRegion rfl ?_
      refine oOp (.nilc) (by kernel_rfl) (by kernel_rfl) (PureV.does (p_assign (by kernel_rfl))) ?_
      refine oEnd ?_
      refine oConv 4 (v := .nilc) (v' := .d (.lit (List.map e_SPoint []))) (by kernel_rfl) .nil ?_
      exact oRet (r0 := ([], x46)) (rv := .d (.lit (List.map e_SPoint []))) (B := [.box [.d (.int .i64 x46)]]) (vs := [.d (.lit (List.map e_SPoint []))]) (σ := [0]) (by kernel_rfl) Try.func33 rfl (.cons _ _ _ _ (.tmp 4 _ (by kernel_rfl)) .nil) (by kernel_rfl) (by kernel_rfl) (by kernel_rfl) (by kernel_rfl) (by decide) (by kernel_rfl) (by kernel_rfl)
     ·refine oCondF (by kernel_rfl) ?_
      refine oSkip ?_
      refine oSeq ?_
      refine oDraw [(0, 4), (1, 10), (2, 10)] rfl ?_
      refine aTakeL (i := 0) (st' := [1]) (.agg [.d (.int .i64 x47), .d (.int .i64 x48)]) rfl (by kernel_rfl) (by kernel_rfl) (by kernel_rfl) (by kernel_rfl) (by kernel_rfl) (by kernel_rfl) (by kernel_rfl) (k_loadAgg 1 0 (by kernel_rfl) Try.underlying37 (by kernel_rfl) ty37 (by kernel_rfl)) ?_
      refine aTakeL (i := 1) (st' := []) (.ptr 0 0) rfl (by kernel_rfl) (by kernel_rfl) (by kernel_rfl) (by kernel_rfl) (by kernel_rfl) (by kernel_rfl) (by kernel_rfl) (PureV.quiet (p_move (by kernel_rfl)) []) ?_
      refine aTakeL (i := 2) (st' := []) (.d (.lit (List.map e_SPoint l))) rfl (by kernel_rfl) (by kernel_rfl) (by kernel_rfl) (by kernel_rfl) (by kernel_rfl) (by kernel_rfl) (by kernel_rfl) (PureV.quiet (p_move (by kernel_rfl)) []) ?_
      refine aTakeL (i := 3) (st' := [1]) (.agg [.d (.int .i64 x47), .d (.int .i64 x48)]) rfl (by kernel_rfl) (by kernel_rfl) (by kernel_rfl) (by kernel_rfl) (by kernel_rfl) (by kernel_rfl) (by kernel_rfl) (k_loadAgg 1 0 (by kernel_rfl) Try.underlying37 (by kernel_rfl) ty37 (by kernel_rfl)) ?_
      refine aTakeL (i := 7) (st' := []) (.d (.lit (List.map e_SPoint xs9))) rfl (by kernel_rfl) (by kernel_rfl) (by kernel_rfl) (by kernel_rfl) (by kernel_rfl) (by kernel_rfl) (by kernel_rfl) (PureV.quiet (p_move (by kernel_rfl)) []) ?_
      refine dCall (i := 4) (caps := []) (v := (uc fun (r16 : Int) => (uc fun (r17 : Int) => (fun (x31 : Int) => (.agg [.d (.int .i64 r16), .d (.int .i64 r17)] : V))))) (H' := (uc fun (r16 : Int) => (uc fun (r17 : Int) => (fun (x31 : Int) => ([.box [.d (.int .i64 x31)], .box [.d (.int .i64 x47), .d (.int .i64 x48)], .box [.d (.int .i64 x49), .d (.int .i64 x50)]] : List Blk))))) [0] _ (conversion_calc_eval_goes k l x47 x48 x46) rfl (by kernel_rfl) (by kernel_rfl) (by kernel_rfl) (by kernel_rfl) (by kernel_rfl) (by kernel_rfl) (by kernel_rfl) (by kernel_rfl) rfl (by kernel_rfl) Try.func25 rfl (by kernel_rfl) (ConvRs.refl _ _) (by kernel_rfl) (by kernel_rfl) (by kernel_rfl) (by decide) (by kernel_rfl) (by kernel_rfl) (fun _ => (by kernel_rfl)) (fun _ => (by kernel_rfl)) (fun _ => (by kernel_rfl)) (fun r => ?_)
      obtain ⟨r16, r17, x31⟩ := r
      refine dUc ?_
      refine dUc ?_
      refine aTakeP (i := 5) (.agg [.d (.int .i64 x47), .d (.int .i64 x48), .d (.int .i64 r16), .d (.int .i64 r17)]) rfl (by kernel_rfl) (by kernel_rfl) (by kernel_rfl) (by kernel_rfl) (by kernel_rfl) (by kernel_rfl) (by kernel_rfl) (p_build bld39 (by kernel_rfl)) ?_
      refine aOne (i := 6) (v := .ref 3 (List.length ([(⟨x47, x48, r16, r17⟩ : SPoint)] : List SPoint)) 0 (List.length ([(⟨x47, x48, r16, r17⟩ : SPoint)] : List SPoint))) rfl (by kernel_rfl) (by kernel_rfl) (by kernel_rfl) (by kernel_rfl) (by kernel_rfl) (by kernel_rfl) (by kernel_rfl) (Does.acts (k_buildSlice (H' := [.box [.d (.int .i64 x31)], .box [.d (.int .i64 x47), .d (.int .i64 x48)], .box [.d (.int .i64 x49), .d (.int .i64 x50)], .sl 4 (List.map e_SPoint ([(⟨x47, x48, r16, r17⟩ : SPoint)] : List SPoint)) false]) (List.map e_SPoint ([(⟨x47, x48, r16, r17⟩ : SPoint)] : List SPoint)) Try.underlying27 ty39 (by kernel_rfl) (by kernel_rfl) (by kernel_rfl))) (by kernel_rfl) ?_
      refine dCap (fun h17 => ?_)
      refine aOne (i := 8) (v := .ref 3 (List.length (([(⟨x47, x48, r16, r17⟩ : SPoint)] : List SPoint) ++ xs9)) 0 (List.length (([(⟨x47, x48, r16, r17⟩ : SPoint)] : List SPoint) ++ xs9))) rfl (by kernel_rfl) (by kernel_rfl) (by kernel_rfl) (by kernel_rfl) (by kernel_rfl) (by kernel_rfl) (by kernel_rfl) (Does.acts (k_append (H' := [.box [.d (.int .i64 x31)], .box [.d (.int .i64 x47), .d (.int .i64 x48)], .box [.d (.int .i64 x49), .d (.int .i64 x50)], .sl 4 (List.map e_SPoint (([(⟨x47, x48, r16, r17⟩ : SPoint)] : List SPoint) ++ xs9)) false]) (enc := e_SPoint) 3 ([(⟨x47, x48, r16, r17⟩ : SPoint)] : List SPoint) xs9 Try.underlying27 Try.underlying27 ty39 (by kernel_rfl) (by kernel_rfl) (by kernel_rfl) (holdsLit e_SPoint_len xs9 (by kernel_rfl)) h17 (by kernel_rfl))) (by kernel_rfl) ?_
      refine aTakeP (i := 9) (.ref 3 (List.length (([(⟨x47, x48, r16, r17⟩ : SPoint)] : List SPoint) ++ xs9)) 0 (List.length (([(⟨x47, x48, r16, r17⟩ : SPoint)] : List SPoint) ++ xs9))) rfl (by kernel_rfl) (by kernel_rfl) (by kernel_rfl) (by kernel_rfl) (by kernel_rfl) (by kernel_rfl) (by kernel_rfl) (p_assign (by kernel_rfl)) ?_
      refine aDone (by kernel_rfl) ?_
      refine oSeq ?_
      refine oDraw [(0, 5), (1, 10), (2, 10), (3, 8)] rfl ?_
      refine aTakeL (i := 0) (st' := []) (.ref 3 (List.length (([(⟨x47, x48, r16, r17⟩ : SPoint)] : List SPoint) ++ xs9)) 0 (List.length (([(⟨x47, x48, r16, r17⟩ : SPoint)] : List SPoint) ++ xs9))) rfl (by kernel_rfl) (by kernel_rfl) (by kernel_rfl) (by kernel_rfl) (by kernel_rfl) (by kernel_rfl) (by kernel_rfl) (PureV.quiet (p_move (by kernel_rfl)) []) ?_
      refine aTakeL (i := 1) (st' := [2]) (.agg [.d (.int .i64 x49), .d (.int .i64 x50)]) rfl (by kernel_rfl) (by kernel_rfl) (by kernel_rfl) (by kernel_rfl) (by kernel_rfl) (by kernel_rfl) (by kernel_rfl) (k_loadAgg 2 0 (by kernel_rfl) Try.underlying37 (by kernel_rfl) ty37 (by kernel_rfl)) ?_
      refine aTakeL (i := 2) (st' := []) (.ptr 0 0) rfl (by kernel_rfl) (by kernel_rfl) (by kernel_rfl) (by kernel_rfl) (by kernel_rfl) (by kernel_rfl) (by kernel_rfl) (PureV.quiet (p_move (by kernel_rfl)) []) ?_
      refine aTakeL (i := 3) (st' := []) (.d (.lit (List.map e_SPoint l))) rfl (by kernel_rfl) (by kernel_rfl) (by kernel_rfl) (by kernel_rfl) (by kernel_rfl) (by kernel_rfl) (by kernel_rfl) (PureV.quiet (p_move (by kernel_rfl)) []) ?_
      refine aTakeL (i := 4) (st' := [2]) (.agg [.d (.int .i64 x49), .d (.int .i64 x50)]) rfl (by kernel_rfl) (by kernel_rfl) (by kernel_rfl) (by kernel_rfl) (by kernel_rfl) (by kernel_rfl) (by kernel_rfl) (k_loadAgg 2 0 (by kernel_rfl) Try.underlying37 (by kernel_rfl) ty37 (by kernel_rfl)) ?_
      refine dCall (i := 5) (caps := []) (v := (uc fun (r161 : Int) => (uc fun (r171 : Int) => (fun (x32 : Int) => (.agg [.d (.int .i64 r161), .d (.int .i64 r171)] : V))))) (H' := (uc fun (r161 : Int) => (uc fun (r171 : Int) => (fun (x32 : Int) => ([.box [.d (.int .i64 x32)], .box [.d (.int .i64 x47), .d (.int .i64 x48)], .box [.d (.int .i64 x49), .d (.int .i64 x50)], .sl 4 (List.map e_SPoint (([(⟨x47, x48, r16, r17⟩ : SPoint)] : List SPoint) ++ xs9)) false] : List Blk))))) [0] _ (conversion_calc_eval_goes k l x49 x50 x31) rfl (by kernel_rfl) (by kernel_rfl) (by kernel_rfl) (by kernel_rfl) (by kernel_rfl) (by kernel_rfl) (by kernel_rfl) (by kernel_rfl) rfl (by kernel_rfl) Try.func25 rfl (by kernel_rfl) (ConvRs.refl _ _) (by kernel_rfl) (by kernel_rfl) (by kernel_rfl) (by decide) (by kernel_rfl) (by kernel_rfl) (fun _ => (by kernel_rfl)) (fun _ => (by kernel_rfl)) (fun _ => (by kernel_rfl)) (fun r => ?_)
      obtain ⟨r161, r171, x32⟩ := r
      refine dUc ?_
      refine dUc ?_
      refine aTakeP (i := 6) (.agg [.d (.int .i64 x49), .d (.int .i64 x50), .d (.int .i64 r161), .d (.int .i64 r171)]) rfl (by kernel_rfl) (by kernel_rfl) (by kernel_rfl) (by kernel_rfl) (by kernel_rfl) (by kernel_rfl) (by kernel_rfl) (p_build bld39 (by kernel_rfl)) ?_
      refine aOne (i := 7) (v := .ref 4 (List.length ([(⟨x49, x50, r161, r171⟩ : SPoint)] : List SPoint)) 0 (List.length ([(⟨x49, x50, r161, r171⟩ : SPoint)] : List SPoint))) rfl (by kernel_rfl) (by kernel_rfl) (by kernel_rfl) (by kernel_rfl) (by kernel_rfl) (by kernel_rfl) (by kernel_rfl) (Does.acts (k_buildSlice (H' := [.box [.d (.int .i64 x32)], .box [.d (.int .i64 x47), .d (.int .i64 x48)], .box [.d (.int .i64 x49), .d (.int .i64 x50)], .sl 4 (List.map e_SPoint (([(⟨x47, x48, r16, r17⟩ : SPoint)] : List SPoint) ++ xs9)) false, .sl 4 (List.map e_SPoint ([(⟨x49, x50, r161, r171⟩ : SPoint)] : List SPoint)) false]) (List.map e_SPoint ([(⟨x49, x50, r161, r171⟩ : SPoint)] : List SPoint)) Try.underlying27 ty39 (by kernel_rfl) (by kernel_rfl) (by kernel_rfl))) (by kernel_rfl) ?_
      refine dCap (fun h18 => ?_)
      refine aOne (i := 8) (v := .ref 3 (List.length ((([(⟨x47, x48, r16, r17⟩ : SPoint)] : List SPoint) ++ xs9) ++ ([(⟨x49, x50, r161, r171⟩ : SPoint)] : List SPoint))) 0 (List.length ((([(⟨x47, x48, r16, r17⟩ : SPoint)] : List SPoint) ++ xs9) ++ ([(⟨x49, x50, r161, r171⟩ : SPoint)] : List SPoint)))) rfl (by kernel_rfl) (by kernel_rfl) (by kernel_rfl) (by kernel_rfl) (by kernel_rfl) (by kernel_rfl) (by kernel_rfl) (Does.acts (k_append (H' := [.box [.d (.int .i64 x32)], .box [.d (.int .i64 x47), .d (.int .i64 x48)], .box [.d (.int .i64 x49), .d (.int .i64 x50)], .sl 4 (List.map e_SPoint ((([(⟨x47, x48, r16, r17⟩ : SPoint)] : List SPoint) ++ xs9) ++ ([(⟨x49, x50, r161, r171⟩ : SPoint)] : List SPoint))) false, .sl 4 (List.map e_SPoint ([(⟨x49, x50, r161, r171⟩ : SPoint)] : List SPoint)) false]) (enc := e_SPoint) 3 (([(⟨x47, x48, r16, r17⟩ : SPoint)] : List SPoint) ++ xs9) ([(⟨x49, x50, r161, r171⟩ : SPoint)] : List SPoint) Try.underlying27 Try.underlying27 ty39 (by kernel_rfl) (by kernel_rfl) (by kernel_rfl) (holdsRef (enc := e_SPoint) 4 ([(⟨x49, x50, r161, r171⟩ : SPoint)] : List SPoint) false (by kernel_rfl) (by kernel_rfl)) h18 (by kernel_rfl))) (by kernel_rfl) ?_
      refine aTakeP (i := 9) (.ref 3 (List.length ((([(⟨x47, x48, r16, r17⟩ : SPoint)] : List SPoint) ++ xs9) ++ ([(⟨x49, x50, r161, r171⟩ : SPoint)] : List SPoint))) 0 (List.length ((([(⟨x47, x48, r16, r17⟩ : SPoint)] : List SPoint) ++ xs9) ++ ([(⟨x49, x50, r161, r171⟩ : SPoint)] : List SPoint)))) rfl (by kernel_rfl) (by kernel_rfl) (by kernel_rfl) (by kernel_rfl) (by kernel_rfl) (by kernel_rfl) (by kernel_rfl) (p_assign (by kernel_rfl)) ?_
      refine aDone (by kernel_rfl) ?_
      refine oFreeze 3 (esz := 4) (xs := List.map e_SPoint ((([(⟨x47, x48, r16, r17⟩ : SPoint)] : List SPoint) ++ xs9) ++ ([(⟨x49, x50, r161, r171⟩ : SPoint)] : List SPoint))) (by kernel_rfl) ?_
      refine oView (H' := [.box [.d (.int .i64 x32)], .box [.d (.int .i64 x47), .d (.int .i64 x48)], .box [.d (.int .i64 x49), .d (.int .i64 x50)], .sl 4 (List.map e_SPoint ((([(⟨x47, x48, r16, r17⟩ : SPoint)] : List SPoint) ++ xs9) ++ ([(⟨x49, x50, r161, r171⟩ : SPoint)] : List SPoint))) true, .sl 4 (List.map e_SPoint ([(⟨x49, x50, r161, r171⟩ : SPoint)] : List SPoint)) false]) rfl (by kernel_rfl) ?_
      refine oConv 4 (v := .ref 3 (List.length ((([(⟨x47, x48, r16, r17⟩ : SPoint)] : List SPoint) ++ xs9) ++ ([(⟨x49, x50, r161, r171⟩ : SPoint)] : List SPoint))) 0 (List.length ((([(⟨x47, x48, r16, r17⟩ : SPoint)] : List SPoint) ++ xs9) ++ ([(⟨x49, x50, r161, r171⟩ : SPoint)] : List SPoint)))) (v' := .d (.lit (List.map e_SPoint ((([(⟨x47, x48, r16, r17⟩ : SPoint)] : List SPoint) ++ xs9) ++ ([(⟨x49, x50, r161, r171⟩ : SPoint)] : List SPoint))))) (by kernel_rfl) (k_lit (enc := e_SPoint) (sz := 4) 3 ((([(⟨x47, x48, r16, r17⟩ : SPoint)] : List SPoint) ++ xs9) ++ ([(⟨x49, x50, r161, r171⟩ : SPoint)] : List SPoint)) (by kernel_rfl)) ?_
      exact oRet (r0 := (((([(⟨x47, x48, r16, r17⟩ : SPoint)] : List SPoint) ++ xs9) ++ ([(⟨x49, x50, r161, r171⟩ : SPoint)] : List SPoint)), x32)) (rv := .d (.lit (List.map e_SPoint ((([(⟨x47, x48, r16, r17⟩ : SPoint)] : List SPoint) ++ xs9) ++ ([(⟨x49, x50, r161, r171⟩ : SPoint)] : List SPoint))))) (B := [.box [.d (.int .i64 x32)]]) (vs := [.d (.lit (List.map e_SPoint ((([(⟨x47, x48, r16, r17⟩ : SPoint)] : List SPoint) ++ xs9) ++ ([(⟨x49, x50, r161, r171⟩ : SPoint)] : List SPoint))))]) (σ := [0]) (by kernel_rfl) Try.func33 rfl (.cons _ _ _ _ (.tmp 4 _ (by kernel_rfl)) .nil) (by kernel_rfl) (by kernel_rfl) (by kernel_rfl) (by kernel_rfl) (by decide) (by kernel_rfl) (by kernel_rfl)
    ·refine bSplit 55 (by kernel_rfl) (fun hc => ?_) (fun hc => ?_)
     ·refine oCondT (by kernel_rfl) ?_
      refine oFreeze 1 (esz := 4) (xs := List.map e_SPoint xs9) (by kernel_rfl) ?_
      refine oView (H' := [.box [.d (.int .i64 x45)], .sl 4 (List.map e_SPoint xs9) true, .box [.d (.int .i64 0), .d (.int .i64 1)], .box [.d (.int .i64 1), .d (.int .i64 1)]]) rfl (by kernel_rfl) ?_
      refine oConv 5 (v := .ref 1 (List.length xs9) 0 (List.length xs9)) (v' := .d (.lit (List.map e_SPoint xs9))) (by kernel_rfl) (k_lit (enc := e_SPoint) (sz := 4) 1 xs9 (by kernel_rfl)) ?_
      refine oDraw [(0, 6), (1, 18), (2, 16), (3, 17)] rfl ?_
      refine aTakeL (i := 0) (st' := []) (.ptr 0 0) rfl (by kernel_rfl) (by kernel_rfl) (by kernel_rfl) (by kernel_rfl) (by kernel_rfl) (by kernel_rfl) (by kernel_rfl) (PureV.quiet (p_move (by kernel_rfl)) []) ?_
      refine aTakeL (i := 1) (st' := []) (.d (.lit (List.map e_SPoint xs9))) rfl (by kernel_rfl) (by kernel_rfl) (by kernel_rfl) (by kernel_rfl) (by kernel_rfl) (by kernel_rfl) (by kernel_rfl) (PureV.quiet (p_move (by kernel_rfl)) []) ?_
      refine dIdx (fun e11 h13 h14 => ?_)
      refine aTakeL (i := 2) (st' := []) (.lptr (e_SPoint e11) 0) rfl (by kernel_rfl) (by kernel_rfl) (by kernel_rfl) (by kernel_rfl) (by kernel_rfl) (by kernel_rfl) (by kernel_rfl) (PureV.quiet (k_idxLit e_SPoint_len xs9 (a := e11) (by kernel_rfl) (k := .i64) (i := 0) (by kernel_rfl) Try.underlying27 ty39 h13 h14) []) ?_
      refine aTakeL (i := 3) (st' := []) (.lptr (e_SPoint e11) 0) rfl (by kernel_rfl) (by kernel_rfl) (by kernel_rfl) (by kernel_rfl) (by kernel_rfl) (by kernel_rfl) (by kernel_rfl) (PureV.quiet (k_fieldAddrL (cells := e_SPoint e11) 0 (by kernel_rfl) Try.underlying39 rfl ty37 (by kernel_rfl)) []) ?_
      refine aTakeL (i := 4) (st' := []) (.agg [.d (.int .i64 e11.X_Num), .d (.int .i64 e11.X_Den)]) rfl (by kernel_rfl) (by kernel_rfl) (by kernel_rfl) (by kernel_rfl) (by kernel_rfl) (by kernel_rfl) (by kernel_rfl) (k_loadLAgg (cells := e_SPoint e11) 0 [(.int .i64 e11.X_Num), (.int .i64 e11.X_Den)] (by kernel_rfl) Try.underlying37 (by kernel_rfl) ty37 (by kernel_rfl) (by kernel_rfl) (by kernel_rfl)) ?_
      refine aTakeL (i := 7) (st' := []) (.ptr 0 0) rfl (by kernel_rfl) (by kernel_rfl) (by kernel_rfl) (by kernel_rfl) (by kernel_rfl) (by kernel_rfl) (by kernel_rfl) (PureV.quiet (p_move (by kernel_rfl)) []) ?_
      refine aTakeL (i := 8) (st' := []) (.d (.lit (List.map e_SPoint xs9))) rfl (by kernel_rfl) (by kernel_rfl) (by kernel_rfl) (by kernel_rfl) (by kernel_rfl) (by kernel_rfl) (by kernel_rfl) (PureV.quiet (p_move (by kernel_rfl)) []) ?_
      refine aTakeL (i := 9) (st' := []) (.d (.int .i64 ((List.length xs9) : Int))) rfl (by kernel_rfl) (by kernel_rfl) (by kernel_rfl) (by kernel_rfl) (by kernel_rfl) (by kernel_rfl) (by kernel_rfl) (PureV.quiet (p_move (by kernel_rfl)) []) ?_
      refine aTakeL (i := 10) (st' := []) (.d (.int .i64 (IntKind.wrap .i64 (((List.length xs9) : Int) - 1)))) rfl (by kernel_rfl) (by kernel_rfl) (by kernel_rfl) (by kernel_rfl) (by kernel_rfl) (by kernel_rfl) (by kernel_rfl) (PureV.quiet (p_int (k := .i64) (p := ((List.length xs9) : Int)) (q := 1) (by kernel_rfl) (by kernel_rfl) (by kernel_rfl)) []) ?_
      refine dIdx (fun e12 h15 h16 => ?_)
      refine aTakeL (i := 11) (st' := []) (.lptr (e_SPoint e12) 0) rfl (by kernel_rfl) (by kernel_rfl) (by kernel_rfl) (by kernel_rfl) (by kernel_rfl) (by kernel_rfl) (by kernel_rfl) (PureV.quiet (k_idxLit e_SPoint_len xs9 (a := e12) (by kernel_rfl) (k := .i64) (i := (IntKind.wrap .i64 (((List.length xs9) : Int) - 1))) (by kernel_rfl) Try.underlying27 ty39 h15 h16) []) ?_
      refine aTakeL (i := 12) (st' := []) (.lptr (e_SPoint e12) 0) rfl (by kernel_rfl) (by kernel_rfl) (by kernel_rfl) (by kernel_rfl) (by kernel_rfl) (by kernel_rfl) (by kernel_rfl) (PureV.quiet (k_fieldAddrL (cells := e_SPoint e12) 0 (by kernel_rfl) Try.underlying39 rfl ty37 (by kernel_rfl)) []) ?_
      refine aTakeL (i := 13) (st' := []) (.agg [.d (.int .i64 e12.X_Num), .d (.int .i64 e12.X_Den)]) rfl (by kernel_rfl) (by kernel_rfl) (by kernel_rfl) (by kernel_rfl) (by kernel_rfl) (by kernel_rfl) (by kernel_rfl) (k_loadLAgg (cells := e_SPoint e12) 0 [(.int .i64 e12.X_Num), (.int .i64 e12.X_Den)] (by kernel_rfl) Try.underlying37 (by kernel_rfl) ty37 (by kernel_rfl) (by kernel_rfl) (by kernel_rfl)) ?_
      refine dCall (i := 5) (caps := []) (v := (u0 ((.agg [.d (.int .i64 1), .d (.int .i64 1)] : V)))) (H' := (u0 (([.box [.d (.int .i64 x45)], .sl 4 (List.map e_SPoint xs9) true, .box [.d (.int .i64 0), .d (.int .i64 1)], .box [.d (.int .i64 1), .d (.int .i64 1)]] : List Blk)))) [] _ (conversion_whole_goes k 1) rfl (by kernel_rfl) (by kernel_rfl) (by kernel_rfl) (by kernel_rfl) (by kernel_rfl) (by kernel_rfl) (by kernel_rfl) (by kernel_rfl) rfl (by kernel_rfl) Try.func32 rfl (by kernel_rfl) (ConvRs.refl _ _) (by kernel_rfl) (by kernel_rfl) (by kernel_rfl) (by decide) (by kernel_rfl) (by kernel_rfl) (fun _ => (by kernel_rfl)) (fun _ => (by kernel_rfl)) (fun _ => (by kernel_rfl)) (fun r => ?_)
      cases r
      refine dU0 ?_
      refine dCall (i := 6) (caps := []) (v := (uc fun (r121 : Int) => (uc fun (r14 : Int) => (fun (x17 : Int) => (.agg [.d (.int .i64 r121), .d (.int .i64 r14)] : V))))) (H' := (uc fun (r121 : Int) => (uc fun (r14 : Int) => (fun (x17 : Int) => ([.box [.d (.int .i64 x17)], .sl 4 (List.map e_SPoint xs9) true, .box [.d (.int .i64 0), .d (.int .i64 1)], .box [.d (.int .i64 1), .d (.int .i64 1)]] : List Blk))))) [0] _ (conversion_calc_sub_goes k e11.X_Num e11.X_Den 1 1 x45) rfl (by kernel_rfl) (by kernel_rfl) (by kernel_rfl) (by kernel_rfl) (by kernel_rfl) (by kernel_rfl) (by kernel_rfl) (by kernel_rfl) rfl (by kernel_rfl) Try.func39 rfl (by kernel_rfl) (ConvRs.refl _ _) (by kernel_rfl) (by kernel_rfl) (by kernel_rfl) (by decide) (by kernel_rfl) (by kernel_rfl) (fun _ => (by kernel_rfl)) (fun _ => (by kernel_rfl)) (fun _ => (by kernel_rfl)) (fun r => ?_)
      obtain ⟨r121, r14, x17⟩ := r
      refine dUc ?_
      refine dUc ?_
      refine dCall (i := 14) (caps := []) (v := (u0 ((.agg [.d (.int .i64 1), .d (.int .i64 1)] : V)))) (H' := (u0 (([.box [.d (.int .i64 x17)], .sl 4 (List.map e_SPoint xs9) true, .box [.d (.int .i64 0), .d (.int .i64 1)], .box [.d (.int .i64 1), .d (.int .i64 1)]] : List Blk)))) [] _ (conversion_whole_goes k 1) rfl (by kernel_rfl) (by kernel_rfl) (by kernel_rfl) (by kernel_rfl) (by kernel_rfl) (by kernel_rfl) (by kernel_rfl) (by kernel_rfl) rfl (by kernel_rfl) Try.func32 rfl (by kernel_rfl) (ConvRs.refl _ _) (by kernel_rfl) (by kernel_rfl) (by kernel_rfl) (by decide) (by kernel_rfl) (by kernel_rfl) (fun _ => (by kernel_rfl)) (fun _ => (by kernel_rfl)) (fun _ => (by kernel_rfl)) (fun r => ?_)
      cases r
      refine dU0 ?_
      refine dCall (i := 15) (caps := []) (v := (uc fun (r15 : Int) => (uc fun (r113 : Int) => (fun (x18 : Int) => (.agg [.d (.int .i64 r15), .d (.int .i64 r113)] : V))))) (H' := (uc fun (r15 : Int) => (uc fun (r113 : Int) => (fun (x18 : Int) => ([.box [.d (.int .i64 x18)], .sl 4 (List.map e_SPoint xs9) true, .box [.d (.int .i64 0), .d (.int .i64 1)], .box [.d (.int .i64 1), .d (.int .i64 1)]] : List Blk))))) [0] _ (conversion_calc_add_goes k e12.X_Num e12.X_Den 1 1 x17) rfl (by kernel_rfl) (by kernel_rfl) (by kernel_rfl) (by kernel_rfl) (by kernel_rfl) (by kernel_rfl) (by kernel_rfl) (by kernel_rfl) rfl (by kernel_rfl) Try.func31 rfl (by kernel_rfl) (ConvRs.refl _ _) (by kernel_rfl) (by kernel_rfl) (by kernel_rfl) (by decide) (by kernel_rfl) (by kernel_rfl) (fun _ => (by kernel_rfl)) (fun _ => (by kernel_rfl)) (fun _ => (by kernel_rfl)) (fun r => ?_)
      obtain ⟨r15, r113, x18⟩ := r
      refine dUc ?_
      refine dUc ?_
      refine aOne (i := 16) (v := .undef) rfl (by kernel_rfl) (by kernel_rfl) (by kernel_rfl) (by kernel_rfl) (by kernel_rfl) (by kernel_rfl) (by kernel_rfl) (Does.acts (k_store (vs := [.d (.int .i64 r121), .d (.int .i64 r14)]) (H' := [.box [.d (.int .i64 x18)], .sl 4 (List.map e_SPoint xs9) true, .box [.d (.int .i64 r121), .d (.int .i64 r14)], .box [.d (.int .i64 1), .d (.int .i64 1)]]) 2 0 (by kernel_rfl) ty37 (by kernel_rfl) (by kernel_rfl) (by kernel_rfl))) (by kernel_rfl) ?_
      refine aOne (i := 17) (v := .undef) rfl (by kernel_rfl) (by kernel_rfl) (by kernel_rfl) (by kernel_rfl) (by kernel_rfl) (by kernel_rfl) (by kernel_rfl) (Does.acts (k_store (vs := [.d (.int .i64 r15), .d (.int .i64 r113)]) (H' := [.box [.d (.int .i64 x18)], .sl 4 (List.map e_SPoint xs9) true, .box [.d (.int .i64 r121), .d (.int .i64 r14)], .box [.d (.int .i64 r15), .d (.int .i64 r113)]]) 3 0 (by kernel_rfl) ty37 (by kernel_rfl) (by kernel_rfl) (by kernel_rfl))) (by kernel_rfl) ?_
      refine aDone (by kernel_rfl) ?_
      refine oHead [0, 1, 5, 9, 10] [0, 2, 3] (T' := [(0, .ptr 0 0), (1, .d (.lit (List.map e_SPoint l))), (5, .d (.lit (List.map e_SPoint xs9))), (9, .ptr 1 0), (10, .ptr 2 0)]) (H' := [.box [.d (.int .i64 x18)], .box [.d (.int .i64 r121), .d (.int .i64 r14)], .box [.d (.int .i64 r15), .d (.int .i64 r113)]]) (by kernel_rfl) (by kernel_rfl) (by kernel_rfl) (by kernel_rfl) (by decide) (by kernel_rfl) (by kernel_rfl) ?_
      exact hj8 (x18, r121, r14, r15, r113)
     ·refine oCondF (by kernel_rfl) ?_
      refine oSkip ?_
      refine oFreeze 1 (esz := 4) (xs := List.map e_SPoint xs9) (by kernel_rfl) ?_
      refine oView (H' := [.box [.d (.int .i64 x45)], .sl 4 (List.map e_SPoint xs9) true, .box [.d (.int .i64 0), .d (.int .i64 1)], .box [.d (.int .i64 1), .d (.int .i64 1)]]) rfl (by kernel_rfl) ?_
      refine oConv 5 (v := .ref 1 (List.length xs9) 0 (List.length xs9)) (v' := .d (.lit (List.map e_SPoint xs9))) (by kernel_rfl) (k_lit (enc := e_SPoint) (sz := 4) 1 xs9 (by kernel_rfl)) ?_
      refine oHead [0, 1, 5, 9, 10] [0, 2, 3] (T' := [(0, .ptr 0 0), (1, .d (.lit (List.map e_SPoint l))), (5, .d (.lit (List.map e_SPoint xs9))), (9, .ptr 1 0), (10, .ptr 2 0)]) (H' := [.box [.d (.int .i64 x45)], .box [.d (.int .i64 0), .d (.int .i64 1)], .box [.d (.int .i64 1), .d (.int .i64 1)]]) (by kernel_rfl) (by kernel_rfl) (by kernel_rfl) (by kernel_rfl) (by decide) (by kernel_rfl) (by kernel_rfl) ?_
      exact hj8 (x45, 0, 1, 1, 1)
  ·refine oBlock ?_
   refine oLoop ?_
   refine oVirt (esz := 4) 5 (by kernel_rfl) ?_
   refine oView (H' := [.box [.d (.int .i64 x27)], .box [.d (.int .i64 r19), .d (.int .i64 r114)], .sl 4 (List.map e_SPoint ([] : List SPoint)) false]) rfl (by kernel_rfl) ?_
   refine oHead [0, 1, 5, 6, 7] [0, 2, 1] (T' := [(0, .ptr 0 0), (1, .d (.lit (List.map e_SPoint l))), (5, .ref 1 (List.length ([] : List SPoint)) 0 (List.length ([] : List SPoint))), (6, .ptr 2 0), (7, .d (.int .i64 2))]) (H' := [.box [.d (.int .i64 x27)], .sl 4 (List.map e_SPoint ([] : List SPoint)) false, .box [.d (.int .i64 r19), .d (.int .i64 r114)]]) (by kernel_rfl) (by kernel_rfl) (by kernel_rfl) (by kernel_rfl) (by decide) (by kernel_rfl) (by kernel_rfl) ?_
   refine bLoop (body := conversion_calc_normal_b1 k l) ((uc fun (i4 : Int) => (uc fun (x55 : Int) => (uc fun (xs11 : (List SPoint)) => (uc fun (x56 : Int) => (fun (x57 : Int) => [(0, .ptr 0 0), (1, .d (.lit (List.map e_SPoint l))), (5, .ref 1 (List.length xs11) 0 (List.length xs11)), (6, .ptr 2 0), (7, .d (.int .i64 i4))])))))) ((uc fun (i4 : Int) => (uc fun (x55 : Int) => (uc fun (xs11 : (List SPoint)) => (uc fun (x56 : Int) => (fun (x57 : Int) => [.box [.d (.int .i64 x55)], .sl 4 (List.map e_SPoint xs11) false, .box [.d (.int .i64 x56), .d (.int .i64 x57)]])))))) (fun again hag1 s => ?_) k (2, x27, ([] : List SPoint), r19, r114)
   ·unfold conversion_calc_normal_b1
    obtain ⟨i4, x55, xs11, x56, x57⟩ := s
    refine bUc ?_
    refine bUc ?_
    refine bUc ?_
    refine bUc ?_
    refine oView (T' := [(0, .ptr 0 0), (1, .d (.lit (List.map e_SPoint l))), (5, .ref 1 (List.length xs11) 0 (List.length xs11)), (6, .ptr 2 0), (7, .d (.int .i64 i4))]) (H' := [.box [.d (.int .i64 x55)], .sl 4 (List.map e_SPoint xs11) false, .box [.d (.int .i64 x56), .d (.int .i64 x57)]]) (by kernel_rfl) (by kernel_rfl) ?_
    refine oSeq ?_
    refine oSeq ?_
    refine oRegion rfl ?_
    refine oOp (.d (.int .i64 i4)) (by kernel_rfl) (by kernel_rfl) (PureV.does (p_move (by kernel_rfl))) ?_
    refine oOp (.d (.lit (List.map e_SPoint l))) (by kernel_rfl) (by kernel_rfl) (PureV.does (p_move (by kernel_rfl))) ?_
    refine oOp (.d (.int .i64 ((List.length l) : Int))) (by kernel_rfl) (by kernel_rfl) (PureV.does (k_lenLit (enc := e_SPoint) l (by kernel_rfl) Try.underlying27)) ?_
    refine oOp (.d (.bool (decide (i4 < ((List.length l) : Int))))) (by kernel_rfl) (by kernel_rfl) (PureV.does (p_int (k := .i64) (p := i4) (q := ((List.length l) : Int)) (by kernel_rfl) (by kernel_rfl) (by kernel_rfl))) ?_
    refine oOp (.d (.bool (decide (i4 < ((List.length l) : Int))))) (by kernel_rfl) (by kernel_rfl) (PureV.does (p_move (by kernel_rfl))) ?_
    refine bMeetF (H' := [.box [.d (.int .i64 x55)], .sl 4 (List.map e_SPoint xs11) false, .box [.d (.int .i64 x56), .d (.int .i64 x57)]]) 6 rfl ((fun (x65 : Bool) => [(0, .ptr 0 0), (1, .d (.lit (List.map e_SPoint l))), (5, .ref 1 (List.length xs11) 0 (List.length xs11)), (6, .ptr 2 0), (7, .d (.int .i64 i4)), (26, .d (.bool x65))])) (fun x65 => ?_) (fun F hj11 => ?_)
    ·refine oView (T' := [(0, .ptr 0 0), (1, .d (.lit (List.map e_SPoint l))), (5, .ref 1 (List.length xs11) 0 (List.length xs11)), (6, .ptr 2 0), (7, .d (.int .i64 i4)), (26, .d (.bool x65))]) (H' := [.box [.d (.int .i64 x55)], .sl 4 (List.map e_SPoint xs11) false, .box [.d (.int .i64 x56), .d (.int .i64 x57)]]) (by kernel_rfl) (by kernel_rfl) ?_
     refine oEnd ?_
     refine bSplit 26 (by kernel_rfl) (fun hc => ?_) (fun hc => ?_)
     ·refine oCondT (by kernel_rfl) ?_
      refine oSkip ?_
      refine oSeq ?_
      refine bJoin ((uc fun (x66 : Int) => (uc fun (xs14 : (List SPoint)) => (uc fun (x67 : Int) => (fun (x68 : Int) => [(0, .ptr 0 0), (1, .d (.lit (List.map e_SPoint l))), (5, .ref 1 (List.length xs14) 0 (List.length xs14)), (6, .ptr 2 0), (7, .d (.int .i64 i4))]))))) ((uc fun (x66 : Int) => (uc fun (xs14 : (List SPoint)) => (uc fun (x67 : Int) => (fun (x68 : Int) => [.box [.d (.int .i64 x66)], .sl 4 (List.map e_SPoint xs14) false, .box [.d (.int .i64 x67), .d (.int .i64 x68)]]))))) (fun s => s) (fun s => ?_) (fun hj12 => ?_)
      ·obtain ⟨x66, xs14, x67, x68⟩ := s
       refine bUc ?_
       refine bUc ?_
       refine bUc ?_
       refine oView (T' := [(0, .ptr 0 0), (1, .d (.lit (List.map e_SPoint l))), (5, .ref 1 (List.length xs14) 0 (List.length xs14)), (6, .ptr 2 0), (7, .d (.int .i64 i4))]) (H' := [.box [.d (.int .i64 x66)], .sl 4 (List.map e_SPoint xs14) false, .box [.d (.int .i64 x67), .d (.int .i64 x68)]]) (by kernel_rfl) (by kernel_rfl) ?_
       refine oRegion rfl ?_
       refine oOp (.d (.int .i64 i4)) (by kernel_rfl) (by kernel_rfl) (PureV.does (p_move (by kernel_rfl))) ?_
       refine oOp (.d (.int .i64 (IntKind.wrap .i64 (i4 + 1)))) (by kernel_rfl) (by kernel_rfl) (PureV.does (p_int (k := .i64) (p := i4) (q := 1) (by kernel_rfl) (by kernel_rfl) (by kernel_rfl))) ?_
       refine oOp (.d (.int .i64 (IntKind.wrap .i64 (i4 + 1)))) (by kernel_rfl) (by kernel_rfl) (PureV.does (p_assign (by kernel_rfl))) ?_
       refine oEnd ?_
       refine oAgain ?_
       refine oHead [0, 1, 5, 6, 7] [0, 1, 2] (T' := [(0, .ptr 0 0), (1, .d (.lit (List.map e_SPoint l))), (5, .ref 1 (List.length xs14) 0 (List.length xs14)), (6, .ptr 2 0), (7, .d (.int .i64 (IntKind.wrap .i64 (i4 + 1))))]) (H' := [.box [.d (.int .i64 x66)], .sl 4 (List.map e_SPoint xs14) false, .box [.d (.int .i64 x67), .d (.int .i64 x68)]]) (by kernel_rfl) (by kernel_rfl) (by kernel_rfl) (by kernel_rfl) (by decide) (by kernel_rfl) (by kernel_rfl) ?_
       exact hag1 ((IntKind.wrap .i64 (i4 + 1)), x66, xs14, x67, x68)
      ·refine oBlock ?_
       refine oSeq ?_
       refine oRegion rfl ?_
       refine oOp (.ptr 0 0) (by kernel_rfl) (by kernel_rfl) (PureV.does (p_move (by kernel_rfl))) ?_
       refine oOp (.d (.lit (List.map e_SPoint l))) (by kernel_rfl) (by kernel_rfl) (PureV.does (p_move (by kernel_rfl))) ?_
       refine oOp (.d (.int .i64 i4)) (by kernel_rfl) (by kernel_rfl) (PureV.does (p_move (by kernel_rfl))) ?_
       refine bCall (caps := []) (v := (uc fun (r123 : Int) => (uc fun (r1112 : Int) => (fun (x214 : Int) => (.agg [.d (.int .i64 r123), .d (.int .i64 r1112)] : V))))) (H' := (uc fun (r123 : Int) => (uc fun (r1112 : Int) => (fun (x214 : Int) => ([.box [.d (.int .i64 x214)], .sl 4 (List.map e_SPoint xs11) false, .box [.d (.int .i64 x56), .d (.int .i64 x57)]] : List Blk))))) [0] _ (conversion_calc_slope_goes k l i4 x55) (by kernel_rfl) (by kernel_rfl) rfl (by kernel_rfl) Try.func41 rfl (by kernel_rfl) (ConvRs.refl _ _) (by kernel_rfl) (by kernel_rfl) (by kernel_rfl) (by decide) (by kernel_rfl) (by kernel_rfl) (fun _ => (by kernel_rfl)) (fun _ => (by kernel_rfl)) (fun _ => (by kernel_rfl)) (fun r => ?_)
       obtain ⟨r123, r1112, x214⟩ := r
       refine bUc ?_
       refine bUc ?_
       refine oOp (.ptr 3 0) (by kernel_rfl) (by kernel_rfl) (k_alloc (H' := [.box [.d (.int .i64 x214)], .sl 4 (List.map e_SPoint xs11) false, .box [.d (.int .i64 x56), .d (.int .i64 x57)], .box [.d (.int .i64 0), .d (.int .i64 0)]]) ty37 (by kernel_rfl) (by kernel_rfl)) ?_
       refine oOp (.undef) (by kernel_rfl) (by kernel_rfl) (k_store (vs := [.d (.int .i64 r123), .d (.int .i64 r1112)]) (H' := [.box [.d (.int .i64 x214)], .sl 4 (List.map e_SPoint xs11) false, .box [.d (.int .i64 x56), .d (.int .i64 x57)], .box [.d (.int .i64 r123), .d (.int .i64 r1112)]]) 3 0 (by kernel_rfl) ty37 (by kernel_rfl) (by kernel_rfl) (by kernel_rfl)) ?_
       refine oEnd ?_
       refine oSeq ?_
       refine oRegion rfl ?_
       refine oOp (.agg [.d (.int .i64 r123), .d (.int .i64 r1112)]) (by kernel_rfl) (by kernel_rfl) (Quiet.does (k_loadAgg 3 0 (by kernel_rfl) Try.underlying37 (by kernel_rfl) ty37 (by kernel_rfl))) ?_
       refine oOp (.agg [.d (.int .i64 x56), .d (.int .i64 x57)]) (by kernel_rfl) (by kernel_rfl) (Quiet.does (k_loadAgg 2 0 (by kernel_rfl) Try.underlying37 (by kernel_rfl) ty37 (by kernel_rfl))) ?_
       refine oOp (.d (.bool (!((r123 == x56) && ((r1112 == x57) && true))))) (by kernel_rfl) (by kernel_rfl) (PureV.does (k_neAgg (by kernel_rfl) (by kernel_rfl) Try.eqGuardType37 (EqV.struct 1 37 [.d (.int .i64 r123), .d (.int .i64 r1112)] [.d (.int .i64 x56), .d (.int .i64 x57)] _ ((r123 == x56) && ((r1112 == x57) && true)) Try.underlying37 Try.stoodInHeld37 (EqF.one 1 1 _ _ _ _ _ _ _ (r123 == x56) ((r1112 == x57) && true) (by kernel_rfl) Try.underlying3 (by kernel_rfl) (by kernel_rfl) (by kernel_rfl) (by kernel_rfl) (EqV.int 3 .i64 .i64 r123 x56 Try.underlying3) (EqF.one 1 1 _ _ _ _ _ _ _ (r1112 == x57) true (by kernel_rfl) Try.underlying3 (by kernel_rfl) (by kernel_rfl) (by kernel_rfl) (by kernel_rfl) (EqV.int 3 .i64 .i64 r1112 x57 Try.underlying3) (EqF.nil 1 _ _)))) (by kernel_rfl))) ?_
       refine oEnd ?_
       refine bSplit 35 (by kernel_rfl) (fun hc => ?_) (fun hc => ?_)
       ·refine oCondT (by kernel_rfl) ?_
        refine oDraw [(0, 11), (1, 7), (2, 10), (3, 11)] rfl ?_
        refine aTakeL (i := 0) (st' := []) (.ref 1 (List.length xs11) 0 (List.length xs11)) rfl (by kernel_rfl) (by kernel_rfl) (by kernel_rfl) (by kernel_rfl) (by kernel_rfl) (by kernel_rfl) (by kernel_rfl) (PureV.quiet (p_move (by kernel_rfl)) []) ?_
        refine aTakeL (i := 1) (st' := []) (.d (.lit (List.map e_SPoint l))) rfl (by kernel_rfl) (by kernel_rfl) (by kernel_rfl) (by kernel_rfl) (by kernel_rfl) (by kernel_rfl) (by kernel_rfl) (PureV.quiet (p_move (by kernel_rfl)) []) ?_
        refine aTakeL (i := 2) (st' := []) (.d (.int .i64 i4)) rfl (by kernel_rfl) (by kernel_rfl) (by kernel_rfl) (by kernel_rfl) (by kernel_rfl) (by kernel_rfl) (by kernel_rfl) (PureV.quiet (p_move (by kernel_rfl)) []) ?_
        refine aTakeL (i := 3) (st' := []) (.d (.int .i64 (IntKind.wrap .i64 (i4 - 1)))) rfl (by kernel_rfl) (by kernel_rfl) (by kernel_rfl) (by kernel_rfl) (by kernel_rfl) (by kernel_rfl) (by kernel_rfl) (PureV.quiet (p_int (k := .i64) (p := i4) (q := 1) (by kernel_rfl) (by kernel_rfl) (by kernel_rfl)) []) ?_
        refine dIdx (fun e1 h1 h11 => ?_)
        refine aTakeL (i := 4) (st' := []) (.lptr (e_SPoint e1) 0) rfl (by kernel_rfl) (by kernel_rfl) (by kernel_rfl) (by kernel_rfl) (by kernel_rfl) (by kernel_rfl) (by kernel_rfl) (PureV.quiet (k_idxLit e_SPoint_len l (a := e1) (by kernel_rfl) (k := .i64) (i := (IntKind.wrap .i64 (i4 - 1))) (by kernel_rfl) Try.underlying27 ty39 h1 h11) []) ?_
        refine aTakeL (i := 5) (st' := []) (.agg [.d (.int .i64 e1.X_Num), .d (.int .i64 e1.X_Den), .d (.int .i64 e1.Y_Num), .d (.int .i64 e1.Y_Den)]) rfl (by kernel_rfl) (by kernel_rfl) (by kernel_rfl) (by kernel_rfl) (by kernel_rfl) (by kernel_rfl) (by kernel_rfl) (k_loadLAgg (cells := e_SPoint e1) 0 [(.int .i64 e1.X_Num), (.int .i64 e1.X_Den), (.int .i64 e1.Y_Num), (.int .i64 e1.Y_Den)] (by kernel_rfl) Try.underlying39 (by kernel_rfl) ty39 (by kernel_rfl) (by kernel_rfl) (by kernel_rfl)) ?_
        refine aTakeL (i := 8) (st' := [3]) (.agg [.d (.int .i64 r123), .d (.int .i64 r1112)]) rfl (by kernel_rfl) (by kernel_rfl) (by kernel_rfl) (by kernel_rfl) (by kernel_rfl) (by kernel_rfl) (by kernel_rfl) (k_loadAgg 3 0 (by kernel_rfl) Try.underlying37 (by kernel_rfl) ty37 (by kernel_rfl)) ?_
        refine aOne (i := 6) (v := .ref 4 (List.length ([e1] : List SPoint)) 0 (List.length ([e1] : List SPoint))) rfl (by kernel_rfl) (by kernel_rfl) (by kernel_rfl) (by kernel_rfl) (by kernel_rfl) (by kernel_rfl) (by kernel_rfl) (Does.acts (k_buildSlice (H' := [.box [.d (.int .i64 x214)], .sl 4 (List.map e_SPoint xs11) false, .box [.d (.int .i64 x56), .d (.int .i64 x57)], .box [.d (.int .i64 r123), .d (.int .i64 r1112)], .sl 4 (List.map e_SPoint ([e1] : List SPoint)) false]) (List.map e_SPoint ([e1] : List SPoint)) Try.underlying27 ty39 (by kernel_rfl) (by kernel_rfl) (by kernel_rfl))) (by kernel_rfl) ?_
        refine dCap (fun h12 => ?_)
        refine aOne (i := 7) (v := .ref 1 (List.length (xs11 ++ ([e1] : List SPoint))) 0 (List.length (xs11 ++ ([e1] : List SPoint)))) rfl (by kernel_rfl) (by kernel_rfl) (by kernel_rfl) (by kernel_rfl) (by kernel_rfl) (by kernel_rfl) (by kernel_rfl) (Does.acts (k_append (H' := [.box [.d (.int .i64 x214)], .sl 4 (List.map e_SPoint (xs11 ++ ([e1] : List SPoint))) false, .box [.d (.int .i64 x56), .d (.int .i64 x57)], .box [.d (.int .i64 r123), .d (.int .i64 r1112)], .sl 4 (List.map e_SPoint ([e1] : List SPoint)) false]) (enc := e_SPoint) 1 xs11 ([e1] : List SPoint) Try.underlying27 Try.underlying27 ty39 (by kernel_rfl) (by kernel_rfl) (by kernel_rfl) (holdsRef (enc := e_SPoint) 4 ([e1] : List SPoint) false (by kernel_rfl) (by kernel_rfl)) h12 (by kernel_rfl))) (by kernel_rfl) ?_
        refine aTakeP (i := 9) (.ref 1 (List.length (xs11 ++ ([e1] : List SPoint))) 0 (List.length (xs11 ++ ([e1] : List SPoint)))) rfl (by kernel_rfl) (by kernel_rfl) (by kernel_rfl) (by kernel_rfl) (by kernel_rfl) (by kernel_rfl) (by kernel_rfl) (p_assign (by kernel_rfl)) ?_
        refine aOne (i := 10) (v := .undef) rfl (by kernel_rfl) (by kernel_rfl) (by kernel_rfl) (by kernel_rfl) (by kernel_rfl) (by kernel_rfl) (by kernel_rfl) (Does.acts (k_store (vs := [.d (.int .i64 r123), .d (.int .i64 r1112)]) (H' := [.box [.d (.int .i64 x214)], .sl 4 (List.map e_SPoint (xs11 ++ ([e1] : List SPoint))) false, .box [.d (.int .i64 r123), .d (.int .i64 r1112)], .box [.d (.int .i64 r123), .d (.int .i64 r1112)], .sl 4 (List.map e_SPoint ([e1] : List SPoint)) false]) 2 0 (by kernel_rfl) ty37 (by kernel_rfl) (by kernel_rfl) (by kernel_rfl))) (by kernel_rfl) ?_
        refine aDone (by kernel_rfl) ?_
        refine oBlk ?_
        refine oHead [0, 1, 5, 6, 7] [0, 1, 2] (T' := [(0, .ptr 0 0), (1, .d (.lit (List.map e_SPoint l))), (5, .ref 1 (List.length (xs11 ++ ([e1] : List SPoint))) 0 (List.length (xs11 ++ ([e1] : List SPoint)))), (6, .ptr 2 0), (7, .d (.int .i64 i4))]) (H' := [.box [.d (.int .i64 x214)], .sl 4 (List.map e_SPoint (xs11 ++ ([e1] : List SPoint))) false, .box [.d (.int .i64 r123), .d (.int .i64 r1112)]]) (by kernel_rfl) (by kernel_rfl) (by kernel_rfl) (by kernel_rfl) (by decide) (by kernel_rfl) (by kernel_rfl) ?_
        exact hj12 (x214, (xs11 ++ ([e1] : List SPoint)), r123, r1112)
       ·refine oCondF (by kernel_rfl) ?_
        refine oSkip ?_
        refine oBlk ?_
        refine oHead [0, 1, 5, 6, 7] [0, 1, 2] (T' := [(0, .ptr 0 0), (1, .d (.lit (List.map e_SPoint l))), (5, .ref 1 (List.length xs11) 0 (List.length xs11)), (6, .ptr 2 0), (7, .d (.int .i64 i4))]) (H' := [.box [.d (.int .i64 x214)], .sl 4 (List.map e_SPoint xs11) false, .box [.d (.int .i64 x56), .d (.int .i64 x57)]]) (by kernel_rfl) (by kernel_rfl) (by kernel_rfl) (by kernel_rfl) (by decide) (by kernel_rfl) (by kernel_rfl) ?_
        exact hj12 (x214, xs11, x56, x57)
     ·refine oCondF (by kernel_rfl) ?_
      refine oExit rfl ?_
      refine oHead [0, 1, 5] [0, 1] (T' := [(0, .ptr 0 0), (1, .d (.lit (List.map e_SPoint l))), (5, .ref 1 (List.length xs11) 0 (List.length xs11))]) (H' := [.box [.d (.int .i64 x55)], .sl 4 (List.map e_SPoint xs11) false]) (by kernel_rfl) (by kernel_rfl) (by kernel_rfl) (by kernel_rfl) (by decide) (by kernel_rfl) (by kernel_rfl) ?_
      exact hj7 (x55, xs11)
    ·refine bPickF 20 (fun c => F (c && (x55 == 0))) (by kernel_rfl) (fun hc => ?_) (fun hc => ?_)
     ·refine oOp (.ptr 0 0) (by kernel_rfl) (by kernel_rfl) (PureV.does (p_move (by kernel_rfl))) ?_
      refine oOp (.ptr 0 0) (by kernel_rfl) (by kernel_rfl) (PureV.does (k_nilCheck 0 0 (by kernel_rfl) (by kernel_rfl))) ?_
      refine oOp (.ptr 0 0) (by kernel_rfl) (by kernel_rfl) (PureV.does (k_fieldAddr 0 0 (by kernel_rfl) Try.underlying56 rfl ty31 (by kernel_rfl))) ?_
      refine oOp (.d (.int .i64 x55)) (by kernel_rfl) (by kernel_rfl) (Quiet.does (k_load 0 0 (by kernel_rfl) Try.underlying31 (by kernel_rfl) (by kernel_rfl))) ?_
      refine oOp (.d (.bool (x55 == 0))) (by kernel_rfl) (by kernel_rfl) (PureV.does (p_int (k := .i64) (p := x55) (q := 0) (by kernel_rfl) (by kernel_rfl) (by kernel_rfl))) ?_
      refine oOp (.d (.bool (x55 == 0))) (by kernel_rfl) (by kernel_rfl) (PureV.does (p_pick (b := true) (by kernel_rfl) (by kernel_rfl))) ?_
      refine oHead [0, 1, 5, 6, 7, 26] [0, 1, 2] (T' := [(0, .ptr 0 0), (1, .d (.lit (List.map e_SPoint l))), (5, .ref 1 (List.length xs11) 0 (List.length xs11)), (6, .ptr 2 0), (7, .d (.int .i64 i4)), (26, .d (.bool (x55 == 0)))]) (H' := [.box [.d (.int .i64 x55)], .sl 4 (List.map e_SPoint xs11) false, .box [.d (.int .i64 x56), .d (.int .i64 x57)]]) (by kernel_rfl) (by kernel_rfl) (by kernel_rfl) (by kernel_rfl) (by decide) (by kernel_rfl) (by kernel_rfl) ?_
      exact hj11 (x55 == 0)
     ·refine oNot (by kernel_rfl) (by kernel_rfl) ?_
      refine oNot (by kernel_rfl) (by kernel_rfl) ?_
      refine oNot (by kernel_rfl) (by kernel_rfl) ?_
      refine oNot (by kernel_rfl) (by kernel_rfl) ?_
      refine oNot (by kernel_rfl) (by kernel_rfl) ?_
      refine oOp (.d (.bool false)) (by kernel_rfl) (by kernel_rfl) (PureV.does (p_pick (b := false) (by kernel_rfl) (by kernel_rfl))) ?_
      refine oHead [0, 1, 5, 6, 7, 26] [0, 1, 2] (T' := [(0, .ptr 0 0), (1, .d (.lit (List.map e_SPoint l))), (5, .ref 1 (List.length xs11) 0 (List.length xs11)), (6, .ptr 2 0), (7, .d (.int .i64 i4)), (26, .d (.bool false))]) (H' := [.box [.d (.int .i64 x55)], .sl 4 (List.map e_SPoint xs11) false, .box [.d (.int .i64 x56), .d (.int .i64 x57)]]) (by kernel_rfl) (by kernel_rfl) (by kernel_rfl) (by kernel_rfl) (by decide) (by kernel_rfl) (by kernel_rfl) ?_
      exact hj11 false

/-- awardingbody/conversion.formed -/
def conversion_formed (k : Nat) (l : (List SPoint)) : Option ((List SPoint) × Int) := Option.bind (conversion_calc_normal k l 0) (uc fun r181 => fun x261 => bif (x261 != 0) then some ([], x261) else bif (decide (((List.length r181) : Int) > 410)) then some ([], 3) else some (r181, 0))
def conversion_formed_E (l : (List SPoint)) : (List SPoint) × Int → V × List Blk := uc fun r1 => fun r11 => (.tuple [.agg [.d (.lit (List.map e_SPoint r1))], .d (.int .i64 r11)], [])
theorem conversion_formed_goes (k : Nat) (l : (List SPoint)) : RunsO Try.prog 21 [.d (.lit (List.map e_SPoint l))] [] (conversion_formed_E l) (conversion_formed k l) := by
  refine RunsO.of_goes (N := 22) (m := 0) (T := [(0, .d (.lit (List.map e_SPoint l)))]) Try.func21 rfl rfl (by kernel_rfl) (by kernel_rfl) (by kernel_rfl) ?_
  unfold conversion_formed
  refine bStart ?_
  refine oSeq ?_
  refine oRegion rfl ?_
  refine oOp (.ptr 0 0) (by kernel_rfl) (by kernel_rfl) (k_alloc (H' := [.box [.nilc]]) ty29 (by kernel_rfl) (by kernel_rfl)) ?_
  refine oOp (.d (.int .i64 0)) (by kernel_rfl) (by kernel_rfl) (PureV.does (p_assign (by kernel_rfl))) ?_
  refine oEnd ?_
  refine oSeq ?_
  refine oRegion rfl ?_
  refine oOp (.ptr 1 0) (by kernel_rfl) (by kernel_rfl) (k_alloc (H' := [.box [.nilc], .box [.d (.int .i64 0)]]) ty56 (by kernel_rfl) (by kernel_rfl)) ?_
  refine oEnd ?_
  refine oSeq ?_
  refine oRegion rfl ?_
  refine oOp (.d (.lit (List.map e_SPoint l))) (by kernel_rfl) (by kernel_rfl) (PureV.does (p_move (by kernel_rfl))) ?_
  refine bCall (caps := []) (v := (uc fun (r181 : (List SPoint)) => (fun (x261 : Int) => (.d (.lit (List.map e_SPoint r181)) : V)))) (H' := (uc fun (r181 : (List SPoint)) => (fun (x261 : Int) => ([.box [.nilc], .box [.d (.int .i64 x261)]] : List Blk)))) [1] _ (conversion_calc_normal_goes k l 0) (by kernel_rfl) (by kernel_rfl) rfl (by kernel_rfl) Try.func33 rfl (by kernel_rfl) (ConvRs.refl _ _) (by kernel_rfl) (by kernel_rfl) (by kernel_rfl) (by decide) (by kernel_rfl) (by kernel_rfl) (fun _ => (by kernel_rfl)) (fun _ => (by kernel_rfl)) (fun _ => (by kernel_rfl)) (fun r => ?_)
  obtain ⟨r181, x261⟩ := r
  refine bUc ?_
  refine oOp (.d (.lit (List.map e_SPoint r181))) (by kernel_rfl) (by kernel_rfl) (PureV.does (p_assign (by kernel_rfl))) ?_
  refine oEnd ?_
  refine oSeq ?_
  refine oBlock ?_
  refine oSeq ?_
  refine oRegion rfl ?_
  refine oOp (.ptr 1 0) (by kernel_rfl) (by kernel_rfl) (PureV.does (k_fieldAddr 1 0 (by kernel_rfl) Try.underlying56 rfl ty31 (by kernel_rfl))) ?_
  refine oOp (.d (.int .i64 x261)) (by kernel_rfl) (by kernel_rfl) (Quiet.does (k_load 1 0 (by kernel_rfl) Try.underlying31 (by kernel_rfl) (by kernel_rfl))) ?_
  refine oOp (.d (.bool (x261 != 0))) (by kernel_rfl) (by kernel_rfl) (PureV.does (p_int (k := .i64) (p := x261) (q := 0) (by kernel_rfl) (by kernel_rfl) (by kernel_rfl))) ?_
  refine oOp (.d (.bool (x261 != 0))) (by kernel_rfl) (by kernel_rfl) (PureV.does (p_assign (by kernel_rfl))) ?_
  refine oEnd ?_
  refine bSplit 8 (by kernel_rfl) (fun hc => ?_) (fun hc => ?_)
  ·refine oCondT (by kernel_rfl) ?_
   refine oSeq ?_
   refine oDraw [(0, 3), (1, 5)] rfl ?_
   refine aTakeL (i := 0) (st' := []) (.agg [.nilc]) rfl (by kernel_rfl) (by kernel_rfl) (by kernel_rfl) (by kernel_rfl) (by kernel_rfl) (by kernel_rfl) (by kernel_rfl) (PureV.quiet (p_build bld29 (by kernel_rfl)) []) ?_
   refine aTakeL (i := 1) (st' := []) (.ptr 1 0) rfl (by kernel_rfl) (by kernel_rfl) (by kernel_rfl) (by kernel_rfl) (by kernel_rfl) (by kernel_rfl) (by kernel_rfl) (PureV.quiet (k_fieldAddr 1 0 (by kernel_rfl) Try.underlying56 rfl ty31 (by kernel_rfl)) []) ?_
   refine aTakeL (i := 2) (st' := [1]) (.d (.int .i64 x261)) rfl (by kernel_rfl) (by kernel_rfl) (by kernel_rfl) (by kernel_rfl) (by kernel_rfl) (by kernel_rfl) (by kernel_rfl) (k_load 1 0 (by kernel_rfl) Try.underlying31 (by kernel_rfl) (by kernel_rfl)) ?_
   refine aOne (i := 3) (v := .undef) rfl (by kernel_rfl) (by kernel_rfl) (by kernel_rfl) (by kernel_rfl) (by kernel_rfl) (by kernel_rfl) (by kernel_rfl) (Does.acts (k_store (vs := [.nilc]) (H' := [.box [.nilc], .box [.d (.int .i64 x261)]]) 0 0 (by kernel_rfl) ty29 (by kernel_rfl) (by kernel_rfl) (by kernel_rfl))) (by kernel_rfl) ?_
   refine aTakeL (i := 4) (st' := []) (.d (.int .i64 x261)) rfl (by kernel_rfl) (by kernel_rfl) (by kernel_rfl) (by kernel_rfl) (by kernel_rfl) (by kernel_rfl) (by kernel_rfl) (PureV.quiet (p_assign (by kernel_rfl)) []) ?_
   refine aDone (by kernel_rfl) ?_
   refine oConvB 0 (cells := [.nilc]) (cells' := [.d (.lit (List.map e_SPoint []))]) (by kernel_rfl) (.cons _ _ _ _ .nil .nil) ?_
   refine oView (H' := [.box [.d (.lit (List.map e_SPoint []))], .box [.d (.int .i64 x261)]]) rfl (by kernel_rfl) ?_
   exact oRet (r0 := ([], x261)) (rv := .tuple [.agg [.d (.lit (List.map e_SPoint []))], .d (.int .i64 x261)]) (B := []) (vs := [.agg [.d (.lit (List.map e_SPoint []))], .d (.int .i64 x261)]) (σ := []) (by kernel_rfl) Try.func21 rfl (.cons _ _ _ _ (.agg 2 29 0 0 [.d (.lit (List.map e_SPoint []))] [.d (.lit (List.map e_SPoint []))] _ _ _ _ (by kernel_rfl) (by kernel_rfl) Try.underlying29 (by kernel_rfl) ty29 (by kernel_rfl) (by kernel_rfl)) (.cons _ _ _ _ (.tmp 3 _ (by kernel_rfl)) .nil)) (by kernel_rfl) (by kernel_rfl) (by kernel_rfl) (by kernel_rfl) (by decide) (by kernel_rfl) (by kernel_rfl)
  ·refine oCondF (by kernel_rfl) ?_
   refine oSeq ?_
   refine oRegion rfl ?_
   refine oOp (.d (.lit (List.map e_SPoint r181))) (by kernel_rfl) (by kernel_rfl) (PureV.does (p_move (by kernel_rfl))) ?_
   refine oOp (.d (.int .i64 ((List.length r181) : Int))) (by kernel_rfl) (by kernel_rfl) (PureV.does (k_lenLit (enc := e_SPoint) r181 (by kernel_rfl) Try.underlying27)) ?_
   refine oOp (.d (.bool (decide (((List.length r181) : Int) > 410)))) (by kernel_rfl) (by kernel_rfl) (PureV.does (p_int (k := .i64) (p := ((List.length r181) : Int)) (q := 410) (by kernel_rfl) (by kernel_rfl) (by kernel_rfl))) ?_
   refine oOp (.d (.bool (decide (((List.length r181) : Int) > 410)))) (by kernel_rfl) (by kernel_rfl) (PureV.does (p_assign (by kernel_rfl))) ?_
   refine oEnd ?_
   refine bSplit 15 (by kernel_rfl) (fun hc => ?_) (fun hc => ?_)
   ·refine oCondT (by kernel_rfl) ?_
    refine oSeq ?_
    refine oRegion rfl ?_
    refine oOp (.agg [.nilc]) (by kernel_rfl) (by kernel_rfl) (PureV.does (p_build bld29 (by kernel_rfl))) ?_
    refine oOp (.undef) (by kernel_rfl) (by kernel_rfl) (k_store (vs := [.nilc]) (H' := [.box [.nilc], .box [.d (.int .i64 x261)]]) 0 0 (by kernel_rfl) ty29 (by kernel_rfl) (by kernel_rfl) (by kernel_rfl)) ?_
    refine oOp (.d (.int .i64 3)) (by kernel_rfl) (by kernel_rfl) (PureV.does (p_assign (by kernel_rfl))) ?_
    refine oEnd ?_
    refine oConvB 0 (cells := [.nilc]) (cells' := [.d (.lit (List.map e_SPoint []))]) (by kernel_rfl) (.cons _ _ _ _ .nil .nil) ?_
    refine oView (H' := [.box [.d (.lit (List.map e_SPoint []))], .box [.d (.int .i64 x261)]]) rfl (by kernel_rfl) ?_
    exact oRet (r0 := ([], 3)) (rv := .tuple [.agg [.d (.lit (List.map e_SPoint []))], .d (.int .i64 3)]) (B := []) (vs := [.agg [.d (.lit (List.map e_SPoint []))], .d (.int .i64 3)]) (σ := []) (by kernel_rfl) Try.func21 rfl (.cons _ _ _ _ (.agg 2 29 0 0 [.d (.lit (List.map e_SPoint []))] [.d (.lit (List.map e_SPoint []))] _ _ _ _ (by kernel_rfl) (by kernel_rfl) Try.underlying29 (by kernel_rfl) ty29 (by kernel_rfl) (by kernel_rfl)) (.cons _ _ _ _ (.tmp 3 _ (by kernel_rfl)) .nil)) (by kernel_rfl) (by kernel_rfl) (by kernel_rfl) (by kernel_rfl) (by decide) (by kernel_rfl) (by kernel_rfl)
   ·refine oCondF (by kernel_rfl) ?_
    refine oSkip ?_
    refine oBlk ?_
    refine oSeq ?_
    refine oRegion rfl ?_
    refine oOp (.d (.lit (List.map e_SPoint r181))) (by kernel_rfl) (by kernel_rfl) (PureV.does (p_move (by kernel_rfl))) ?_
    refine oOp (.agg [.d (.lit (List.map e_SPoint r181))]) (by kernel_rfl) (by kernel_rfl) (PureV.does (p_build bld29 (by kernel_rfl))) ?_
    refine oOp (.undef) (by kernel_rfl) (by kernel_rfl) (k_store (vs := [.d (.lit (List.map e_SPoint r181))]) (H' := [.box [.d (.lit (List.map e_SPoint r181))], .box [.d (.int .i64 x261)]]) 0 0 (by kernel_rfl) ty29 (by kernel_rfl) (by kernel_rfl) (by kernel_rfl)) ?_
    refine oOp (.d (.int .i64 0)) (by kernel_rfl) (by kernel_rfl) (PureV.does (p_assign (by kernel_rfl))) ?_
    refine oEnd ?_
    exact oRet (r0 := (r181, 0)) (rv := .tuple [.agg [.d (.lit (List.map e_SPoint r181))], .d (.int .i64 0)]) (B := []) (vs := [.agg [.d (.lit (List.map e_SPoint r181))], .d (.int .i64 0)]) (σ := []) (by kernel_rfl) Try.func21 rfl (.cons _ _ _ _ (.agg 2 29 0 0 [.d (.lit (List.map e_SPoint r181))] [.d (.lit (List.map e_SPoint r181))] _ _ _ _ (by kernel_rfl) (by kernel_rfl) Try.underlying29 (by kernel_rfl) ty29 (by kernel_rfl) (by kernel_rfl)) (.cons _ _ _ _ (.tmp 3 _ (by kernel_rfl)) .nil)) (by kernel_rfl) (by kernel_rfl) (by kernel_rfl) (by kernel_rfl) (by decide) (by kernel_rfl) (by kernel_rfl)

/-- awardingbody/conversion.Normal -/
def conversion_Normal (k : Nat) (c0 : (List SPoint)) : Option ((List SPoint) × Int) := Option.bind (conversion_Valid k c0) (fun r14 => bif (!r14) then some ([], 1) else Option.bind (conversion_formed k c0) (uc fun r15 => fun r112 => some (r15, r112)))
def conversion_Normal_E (c0 : (List SPoint)) : (List SPoint) × Int → V × List Blk := uc fun r12 => fun r13 => (.tuple [.agg [.d (.lit (List.map e_SPoint r12))], .d (.int .i64 r13)], [])
theorem conversion_Normal_goes (k : Nat) (c0 : (List SPoint)) : RunsO Try.prog 10 [.agg [.d (.lit (List.map e_SPoint c0))]] [] (conversion_Normal_E c0) (conversion_Normal k c0) := by
  refine RunsO.of_goes (N := 13) (m := 0) (T := [(0, .agg [.d (.lit (List.map e_SPoint c0))])]) Try.func10 rfl rfl (by kernel_rfl) (by kernel_rfl) (by kernel_rfl) ?_
  unfold conversion_Normal
  refine bStart ?_
  refine oSeq ?_
  refine oRegion rfl ?_
  refine oOp (.ptr 0 0) (by kernel_rfl) (by kernel_rfl) (k_box (H' := [.box [.d (.lit (List.map e_SPoint c0))]]) (cells := [.d (.lit (List.map e_SPoint c0))]) (by kernel_rfl) (by kernel_rfl) (by kernel_rfl)) ?_
  refine oOp (.ptr 1 0) (by kernel_rfl) (by kernel_rfl) (k_alloc (H' := [.box [.d (.lit (List.map e_SPoint c0))], .box [.nilc]]) ty29 (by kernel_rfl) (by kernel_rfl)) ?_
  refine oOp (.d (.int .i64 0)) (by kernel_rfl) (by kernel_rfl) (PureV.does (p_assign (by kernel_rfl))) ?_
  refine oEnd ?_
  refine oSeq ?_
  refine oSeq ?_
  refine oRegion rfl ?_
  refine oOp (.agg [.d (.lit (List.map e_SPoint c0))]) (by kernel_rfl) (by kernel_rfl) (Quiet.does (k_loadAgg 0 0 (by kernel_rfl) Try.underlying29 (by kernel_rfl) ty29 (by kernel_rfl))) ?_
  refine bCall (caps := []) (v := (fun (r14 : Bool) => (.d (.bool r14) : V))) (H' := (fun (r14 : Bool) => ([.box [.d (.lit (List.map e_SPoint c0))], .box [.nilc]] : List Blk))) [] _ (conversion_Valid_goes k c0) (by kernel_rfl) (by kernel_rfl) rfl (by kernel_rfl) Try.func12 rfl (by kernel_rfl) (ConvRs.refl _ _) (by kernel_rfl) (by kernel_rfl) (by kernel_rfl) (by decide) (by kernel_rfl) (by kernel_rfl) (fun _ => (by kernel_rfl)) (fun _ => (by kernel_rfl)) (fun _ => (by kernel_rfl)) (fun r14 => ?_)
  refine oOp (.d (.bool (!r14))) (by kernel_rfl) (by kernel_rfl) (PureV.does (p_not (p := r14) (by kernel_rfl) (by kernel_rfl))) ?_
  refine oEnd ?_
  refine bSplit 6 (by kernel_rfl) (fun hc => ?_) (fun hc => ?_)
  ·refine oCondT (by kernel_rfl) ?_
   refine oSeq ?_
   refine oRegion rfl ?_
   refine oOp (.agg [.nilc]) (by kernel_rfl) (by kernel_rfl) (PureV.does (p_build bld29 (by kernel_rfl))) ?_
   refine oOp (.undef) (by kernel_rfl) (by kernel_rfl) (k_store (vs := [.nilc]) (H' := [.box [.d (.lit (List.map e_SPoint c0))], .box [.nilc]]) 1 0 (by kernel_rfl) ty29 (by kernel_rfl) (by kernel_rfl) (by kernel_rfl)) ?_
   refine oOp (.d (.int .i64 1)) (by kernel_rfl) (by kernel_rfl) (PureV.does (p_assign (by kernel_rfl))) ?_
   refine oEnd ?_
   refine oConvB 1 (cells := [.nilc]) (cells' := [.d (.lit (List.map e_SPoint []))]) (by kernel_rfl) (.cons _ _ _ _ .nil .nil) ?_
   refine oView (H' := [.box [.d (.lit (List.map e_SPoint c0))], .box [.d (.lit (List.map e_SPoint []))]]) rfl (by kernel_rfl) ?_
   exact oRet (r0 := ([], 1)) (rv := .tuple [.agg [.d (.lit (List.map e_SPoint []))], .d (.int .i64 1)]) (B := []) (vs := [.agg [.d (.lit (List.map e_SPoint []))], .d (.int .i64 1)]) (σ := []) (by kernel_rfl) Try.func10 rfl (.cons _ _ _ _ (.agg 2 29 1 0 [.d (.lit (List.map e_SPoint []))] [.d (.lit (List.map e_SPoint []))] _ _ _ _ (by kernel_rfl) (by kernel_rfl) Try.underlying29 (by kernel_rfl) ty29 (by kernel_rfl) (by kernel_rfl)) (.cons _ _ _ _ (.tmp 3 _ (by kernel_rfl)) .nil)) (by kernel_rfl) (by kernel_rfl) (by kernel_rfl) (by kernel_rfl) (by decide) (by kernel_rfl) (by kernel_rfl)
  ·refine oCondF (by kernel_rfl) ?_
   refine oSkip ?_
   refine oSeq ?_
   refine oRegion rfl ?_
   refine oOp (.ptr 0 0) (by kernel_rfl) (by kernel_rfl) (PureV.does (k_fieldAddr 0 0 (by kernel_rfl) Try.underlying29 rfl ty27 (by kernel_rfl))) ?_
   refine oOp (.d (.lit (List.map e_SPoint c0))) (by kernel_rfl) (by kernel_rfl) (Quiet.does (k_load 0 0 (by kernel_rfl) Try.underlying27 (by kernel_rfl) (by kernel_rfl))) ?_
   refine bCall (caps := []) (v := (uc fun (r15 : (List SPoint)) => (fun (r112 : Int) => (.tuple [.agg [.d (.lit (List.map e_SPoint r15))], .d (.int .i64 r112)] : V)))) (H' := (uc fun (r15 : (List SPoint)) => (fun (r112 : Int) => ([.box [.d (.lit (List.map e_SPoint c0))], .box [.nilc]] : List Blk)))) [] _ (conversion_formed_goes k c0) (by kernel_rfl) (by kernel_rfl) rfl (by kernel_rfl) Try.func21 rfl (by kernel_rfl) (ConvRs.refl _ _) (by kernel_rfl) (by kernel_rfl) (by kernel_rfl) (by decide) (by kernel_rfl) (by kernel_rfl) (fun _ => (by kernel_rfl)) (fun _ => (by kernel_rfl)) (fun _ => (by kernel_rfl)) (fun r => ?_)
   obtain ⟨r15, r112⟩ := r
   refine bUc ?_
   refine oOp (.agg [.d (.lit (List.map e_SPoint r15))]) (by kernel_rfl) (by kernel_rfl) (PureV.does (k_extract (by kernel_rfl))) ?_
   refine oOp (.d (.int .i64 r112)) (by kernel_rfl) (by kernel_rfl) (PureV.does (k_extract (by kernel_rfl))) ?_
   refine oOp (.undef) (by kernel_rfl) (by kernel_rfl) (k_store (vs := [.d (.lit (List.map e_SPoint r15))]) (H' := [.box [.d (.lit (List.map e_SPoint c0))], .box [.d (.lit (List.map e_SPoint r15))]]) 1 0 (by kernel_rfl) ty29 (by kernel_rfl) (by kernel_rfl) (by kernel_rfl)) ?_
   refine oOp (.d (.int .i64 r112)) (by kernel_rfl) (by kernel_rfl) (PureV.does (p_assign (by kernel_rfl))) ?_
   refine oEnd ?_
   exact oRet (r0 := (r15, r112)) (rv := .tuple [.agg [.d (.lit (List.map e_SPoint r15))], .d (.int .i64 r112)]) (B := []) (vs := [.agg [.d (.lit (List.map e_SPoint r15))], .d (.int .i64 r112)]) (σ := []) (by kernel_rfl) Try.func10 rfl (.cons _ _ _ _ (.agg 2 29 1 0 [.d (.lit (List.map e_SPoint r15))] [.d (.lit (List.map e_SPoint r15))] _ _ _ _ (by kernel_rfl) (by kernel_rfl) Try.underlying29 (by kernel_rfl) ty29 (by kernel_rfl) (by kernel_rfl)) (.cons _ _ _ _ (.tmp 3 _ (by kernel_rfl)) .nil)) (by kernel_rfl) (by kernel_rfl) (by kernel_rfl) (by kernel_rfl) (by decide) (by kernel_rfl) (by kernel_rfl)

/-- awardingbody/conversion.Line -/
def conversion_Line (k : Nat) (slope0 : Int) (slope1 : Int) (at0 : Int) (at1 : Int) : Option ((List SPoint) × Int) := Option.bind (ratio_Valid k slope0 slope1) (fun r126 => Option.bind (bif (!r126) then some true else Option.bind (ratio_Valid k at0 at1) (fun r128 => some (!r128)) : Option (Bool)) (fun x3 => bif x3 then some ([], 1) else bif (decide (slope0 ≤ 0)) then some ([], 2) else Option.bind (conversion_calc_add k slope0 slope1 at0 at1 0) (uc fun r15 => uc fun r111 => fun x12 => bif (x12 != 0) then some ([], x12) else Option.bind (conversion_whole k 0) (u0 (Option.bind (conversion_whole k 1) (u0 (some (([(⟨0, 1, at0, at1⟩ : SPoint), (⟨1, 1, r15, r111⟩ : SPoint)] : List SPoint), 0))))))))
def conversion_Line_E (slope0 : Int) (slope1 : Int) (at0 : Int) (at1 : Int) : (List SPoint) × Int → V × List Blk := uc fun r13 => fun r14 => (.tuple [.agg [.d (.lit (List.map e_SPoint r13))], .d (.int .i64 r14)], [])
theorem conversion_Line_goes (k : Nat) (slope0 : Int) (slope1 : Int) (at0 : Int) (at1 : Int) : RunsO Try.prog 17 [.agg [.d (.int .i64 slope0), .d (.int .i64 slope1)], .agg [.d (.int .i64 at0), .d (.int .i64 at1)]] [] (conversion_Line_E slope0 slope1 at0 at1) (conversion_Line k slope0 slope1 at0 at1) := by
  refine RunsO.of_goes (N := 40) (m := 0) (T := [(0, .agg [.d (.int .i64 slope0), .d (.int .i64 slope1)]), (1, .agg [.d (.int .i64 at0), .d (.int .i64 at1)])]) Try.func17 rfl rfl (by kernel_rfl) (by kernel_rfl) (by kernel_rfl) ?_
  unfold conversion_Line
  refine bStart ?_
  refine oSeq ?_
  refine oRegion rfl ?_
  refine oOp (.ptr 0 0) (by kernel_rfl) (by kernel_rfl) (k_box (H' := [.box [.d (.int .i64 slope0), .d (.int .i64 slope1)]]) (cells := [.d (.int .i64 slope0), .d (.int .i64 slope1)]) (by kernel_rfl) (by kernel_rfl) (by kernel_rfl)) ?_
  refine oOp (.ptr 1 0) (by kernel_rfl) (by kernel_rfl) (k_box (H' := [.box [.d (.int .i64 slope0), .d (.int .i64 slope1)], .box [.d (.int .i64 at0), .d (.int .i64 at1)]]) (cells := [.d (.int .i64 at0), .d (.int .i64 at1)]) (by kernel_rfl) (by kernel_rfl) (by kernel_rfl)) ?_
  refine oOp (.ptr 2 0) (by kernel_rfl) (by kernel_rfl) (k_alloc (H' := [.box [.d (.int .i64 slope0), .d (.int .i64 slope1)], .box [.d (.int .i64 at0), .d (.int .i64 at1)], .box [.nilc]]) ty29 (by kernel_rfl) (by kernel_rfl)) ?_
  refine oOp (.d (.int .i64 0)) (by kernel_rfl) (by kernel_rfl) (PureV.does (p_assign (by kernel_rfl))) ?_
  refine oEnd ?_
  refine oSeq ?_
  refine oBlock ?_
  refine oSeq ?_
  refine oRegion rfl ?_
  refine oOp (.agg [.d (.int .i64 slope0), .d (.int .i64 slope1)]) (by kernel_rfl) (by kernel_rfl) (Quiet.does (k_loadAgg 0 0 (by kernel_rfl) Try.underlying37 (by kernel_rfl) ty37 (by kernel_rfl))) ?_
  refine bCall (caps := []) (v := (fun (r126 : Bool) => (.d (.bool r126) : V))) (H' := (fun (r126 : Bool) => ([.box [.d (.int .i64 slope0), .d (.int .i64 slope1)], .box [.d (.int .i64 at0), .d (.int .i64 at1)], .box [.nilc]] : List Blk))) [] _ (ratio_Valid_goes k slope0 slope1) (by kernel_rfl) (by kernel_rfl) rfl (by kernel_rfl) Try.func24 rfl (by kernel_rfl) (ConvRs.refl _ _) (by kernel_rfl) (by kernel_rfl) (by kernel_rfl) (by decide) (by kernel_rfl) (by kernel_rfl) (fun _ => (by kernel_rfl)) (fun _ => (by kernel_rfl)) (fun _ => (by kernel_rfl)) (fun r126 => ?_)
  refine oOp (.d (.bool (!r126))) (by kernel_rfl) (by kernel_rfl) (PureV.does (p_not (p := r126) (by kernel_rfl) (by kernel_rfl))) ?_
  refine oOp (.d (.bool (!r126))) (by kernel_rfl) (by kernel_rfl) (PureV.does (p_move (by kernel_rfl))) ?_
  refine bMeet 4 rfl ((fun (x3 : Bool) => [(2, .ptr 0 0), (3, .ptr 1 0), (4, .ptr 2 0), (16, .d (.bool x3))])) ((fun (x3 : Bool) => [.box [.d (.int .i64 slope0), .d (.int .i64 slope1)], .box [.d (.int .i64 at0), .d (.int .i64 at1)], .box [.nilc]])) (fun s => s) (fun x3 => ?_) (fun hj1 => ?_)
  ·refine oView (T' := [(2, .ptr 0 0), (3, .ptr 1 0), (4, .ptr 2 0), (16, .d (.bool x3))]) (H' := [.box [.d (.int .i64 slope0), .d (.int .i64 slope1)], .box [.d (.int .i64 at0), .d (.int .i64 at1)], .box [.nilc]]) (by kernel_rfl) (by kernel_rfl) ?_
   refine oOp (.d (.bool x3)) (by kernel_rfl) (by kernel_rfl) (PureV.does (p_assign (by kernel_rfl))) ?_
   refine oEnd ?_
   refine bSplit 8 (by kernel_rfl) (fun hc => ?_) (fun hc => ?_)
   ·refine oCondT (by kernel_rfl) ?_
    refine oSeq ?_
    refine oRegion rfl ?_
    refine oOp (.agg [.nilc]) (by kernel_rfl) (by kernel_rfl) (PureV.does (p_build bld29 (by kernel_rfl))) ?_
    refine oOp (.undef) (by kernel_rfl) (by kernel_rfl) (k_store (vs := [.nilc]) (H' := [.box [.d (.int .i64 slope0), .d (.int .i64 slope1)], .box [.d (.int .i64 at0), .d (.int .i64 at1)], .box [.nilc]]) 2 0 (by kernel_rfl) ty29 (by kernel_rfl) (by kernel_rfl) (by kernel_rfl)) ?_
    refine oOp (.d (.int .i64 1)) (by kernel_rfl) (by kernel_rfl) (PureV.does (p_assign (by kernel_rfl))) ?_
    refine oEnd ?_
    refine oConvB 2 (cells := [.nilc]) (cells' := [.d (.lit (List.map e_SPoint []))]) (by kernel_rfl) (.cons _ _ _ _ .nil .nil) ?_
    refine oView (H' := [.box [.d (.int .i64 slope0), .d (.int .i64 slope1)], .box [.d (.int .i64 at0), .d (.int .i64 at1)], .box [.d (.lit (List.map e_SPoint []))]]) rfl (by kernel_rfl) ?_
    exact oRet (r0 := ([], 1)) (rv := .tuple [.agg [.d (.lit (List.map e_SPoint []))], .d (.int .i64 1)]) (B := []) (vs := [.agg [.d (.lit (List.map e_SPoint []))], .d (.int .i64 1)]) (σ := []) (by kernel_rfl) Try.func17 rfl (.cons _ _ _ _ (.agg 4 29 2 0 [.d (.lit (List.map e_SPoint []))] [.d (.lit (List.map e_SPoint []))] _ _ _ _ (by kernel_rfl) (by kernel_rfl) Try.underlying29 (by kernel_rfl) ty29 (by kernel_rfl) (by kernel_rfl)) (.cons _ _ _ _ (.tmp 5 _ (by kernel_rfl)) .nil)) (by kernel_rfl) (by kernel_rfl) (by kernel_rfl) (by kernel_rfl) (by decide) (by kernel_rfl) (by kernel_rfl)
   ·refine oCondF (by kernel_rfl) ?_
    refine oSeq ?_
    refine oRegion rfl ?_
    refine oOp (.ptr 0 0) (by kernel_rfl) (by kernel_rfl) (PureV.does (k_fieldAddr 0 0 (by kernel_rfl) Try.underlying37 rfl ty3 (by kernel_rfl))) ?_
    refine oOp (.d (.int .i64 slope0)) (by kernel_rfl) (by kernel_rfl) (Quiet.does (k_load 0 0 (by kernel_rfl) Try.underlying3 (by kernel_rfl) (by kernel_rfl))) ?_
    refine oOp (.d (.bool (decide (slope0 ≤ 0)))) (by kernel_rfl) (by kernel_rfl) (PureV.does (p_int (k := .i64) (p := slope0) (q := 0) (by kernel_rfl) (by kernel_rfl) (by kernel_rfl))) ?_
    refine oOp (.d (.bool (decide (slope0 ≤ 0)))) (by kernel_rfl) (by kernel_rfl) (PureV.does (p_assign (by kernel_rfl))) ?_
    refine oEnd ?_
    refine bSplit 18 (by kernel_rfl) (fun hc => ?_) (fun hc => ?_)
    ·refine oCondT (by kernel_rfl) ?_
     refine oSeq ?_
     refine oRegion rfl ?_
     refine oOp (.agg [.nilc]) (by kernel_rfl) (by kernel_rfl) (PureV.does (p_build bld29 (by kernel_rfl))) ?_
     refine oOp (.undef) (by kernel_rfl) (by kernel_rfl) (k_store (vs := [.nilc]) (H' := [.box [.d (.int .i64 slope0), .d (.int .i64 slope1)], .box [.d (.int .i64 at0), .d (.int .i64 at1)], .box [.nilc]]) 2 0 (by kernel_rfl) ty29 (by kernel_rfl) (by kernel_rfl) (by kernel_rfl)) ?_
     refine oOp (.d (.int .i64 2)) (by kernel_rfl) (by kernel_rfl) (PureV.does (p_assign (by kernel_rfl))) ?_
     refine oEnd ?_
     refine oConvB 2 (cells := [.nilc]) (cells' := [.d (.lit (List.map e_SPoint []))]) (by kernel_rfl) (.cons _ _ _ _ .nil .nil) ?_
     refine oView (H' := [.box [.d (.int .i64 slope0), .d (.int .i64 slope1)], .box [.d (.int .i64 at0), .d (.int .i64 at1)], .box [.d (.lit (List.map e_SPoint []))]]) rfl (by kernel_rfl) ?_
     exact oRet (r0 := ([], 2)) (rv := .tuple [.agg [.d (.lit (List.map e_SPoint []))], .d (.int .i64 2)]) (B := []) (vs := [.agg [.d (.lit (List.map e_SPoint []))], .d (.int .i64 2)]) (σ := []) (by kernel_rfl) Try.func17 rfl (.cons _ _ _ _ (.agg 4 29 2 0 [.d (.lit (List.map e_SPoint []))] [.d (.lit (List.map e_SPoint []))] _ _ _ _ (by kernel_rfl) (by kernel_rfl) Try.underlying29 (by kernel_rfl) ty29 (by kernel_rfl) (by kernel_rfl)) (.cons _ _ _ _ (.tmp 5 _ (by kernel_rfl)) .nil)) (by kernel_rfl) (by kernel_rfl) (by kernel_rfl) (by kernel_rfl) (by decide) (by kernel_rfl) (by kernel_rfl)
    ·refine oCondF (by kernel_rfl) ?_
     refine oSkip ?_
     refine oBlk ?_
     refine oSeq ?_
     refine oRegion rfl ?_
     refine oOp (.ptr 3 0) (by kernel_rfl) (by kernel_rfl) (k_alloc (H' := [.box [.d (.int .i64 slope0), .d (.int .i64 slope1)], .box [.d (.int .i64 at0), .d (.int .i64 at1)], .box [.nilc], .box [.d (.int .i64 0)]]) ty56 (by kernel_rfl) (by kernel_rfl)) ?_
     refine oEnd ?_
     refine oSeq ?_
     refine oRegion rfl ?_
     refine oOp (.agg [.d (.int .i64 slope0), .d (.int .i64 slope1)]) (by kernel_rfl) (by kernel_rfl) (Quiet.does (k_loadAgg 0 0 (by kernel_rfl) Try.underlying37 (by kernel_rfl) ty37 (by kernel_rfl))) ?_
     refine oOp (.agg [.d (.int .i64 at0), .d (.int .i64 at1)]) (by kernel_rfl) (by kernel_rfl) (Quiet.does (k_loadAgg 1 0 (by kernel_rfl) Try.underlying37 (by kernel_rfl) ty37 (by kernel_rfl))) ?_
     refine bCall (caps := []) (v := (uc fun (r15 : Int) => (uc fun (r111 : Int) => (fun (x12 : Int) => (.agg [.d (.int .i64 r15), .d (.int .i64 r111)] : V))))) (H' := (uc fun (r15 : Int) => (uc fun (r111 : Int) => (fun (x12 : Int) => ([.box [.d (.int .i64 slope0), .d (.int .i64 slope1)], .box [.d (.int .i64 at0), .d (.int .i64 at1)], .box [.nilc], .box [.d (.int .i64 x12)]] : List Blk))))) [3] _ (conversion_calc_add_goes k slope0 slope1 at0 at1 0) (by kernel_rfl) (by kernel_rfl) rfl (by kernel_rfl) Try.func31 rfl (by kernel_rfl) (ConvRs.refl _ _) (by kernel_rfl) (by kernel_rfl) (by kernel_rfl) (by decide) (by kernel_rfl) (by kernel_rfl) (fun _ => (by kernel_rfl)) (fun _ => (by kernel_rfl)) (fun _ => (by kernel_rfl)) (fun r => ?_)
     obtain ⟨r15, r111, x12⟩ := r
     refine bUc ?_
     refine bUc ?_
     refine oOp (.ptr 4 0) (by kernel_rfl) (by kernel_rfl) (k_alloc (H' := [.box [.d (.int .i64 slope0), .d (.int .i64 slope1)], .box [.d (.int .i64 at0), .d (.int .i64 at1)], .box [.nilc], .box [.d (.int .i64 x12)], .box [.d (.int .i64 0), .d (.int .i64 0)]]) ty37 (by kernel_rfl) (by kernel_rfl)) ?_
     refine oOp (.undef) (by kernel_rfl) (by kernel_rfl) (k_store (vs := [.d (.int .i64 r15), .d (.int .i64 r111)]) (H' := [.box [.d (.int .i64 slope0), .d (.int .i64 slope1)], .box [.d (.int .i64 at0), .d (.int .i64 at1)], .box [.nilc], .box [.d (.int .i64 x12)], .box [.d (.int .i64 r15), .d (.int .i64 r111)]]) 4 0 (by kernel_rfl) ty37 (by kernel_rfl) (by kernel_rfl) (by kernel_rfl)) ?_
     refine oEnd ?_
     refine oSeq ?_
     refine oSeq ?_
     refine oRegion rfl ?_
     refine oOp (.ptr 3 0) (by kernel_rfl) (by kernel_rfl) (PureV.does (k_fieldAddr 3 0 (by kernel_rfl) Try.underlying56 rfl ty31 (by kernel_rfl))) ?_
     refine oOp (.d (.int .i64 x12)) (by kernel_rfl) (by kernel_rfl) (Quiet.does (k_load 3 0 (by kernel_rfl) Try.underlying31 (by kernel_rfl) (by kernel_rfl))) ?_
     refine oOp (.d (.bool (x12 != 0))) (by kernel_rfl) (by kernel_rfl) (PureV.does (p_int (k := .i64) (p := x12) (q := 0) (by kernel_rfl) (by kernel_rfl) (by kernel_rfl))) ?_
     refine oEnd ?_
     refine bSplit 28 (by kernel_rfl) (fun hc => ?_) (fun hc => ?_)
     ·refine oCondT (by kernel_rfl) ?_
      refine oSeq ?_
      refine oDraw [(0, 5), (1, 5), (2, 3), (3, 5), (4, 5)] rfl ?_
      refine aTakeL (i := 0) (st' := []) (.agg [.nilc]) rfl (by kernel_rfl) (by kernel_rfl) (by kernel_rfl) (by kernel_rfl) (by kernel_rfl) (by kernel_rfl) (by kernel_rfl) (PureV.quiet (p_build bld29 (by kernel_rfl)) []) ?_
      refine aTakeL (i := 1) (st' := []) (.ptr 3 0) rfl (by kernel_rfl) (by kernel_rfl) (by kernel_rfl) (by kernel_rfl) (by kernel_rfl) (by kernel_rfl) (by kernel_rfl) (PureV.quiet (k_fieldAddr 3 0 (by kernel_rfl) Try.underlying56 rfl ty31 (by kernel_rfl)) []) ?_
      refine aTakeL (i := 2) (st' := [3]) (.d (.int .i64 x12)) rfl (by kernel_rfl) (by kernel_rfl) (by kernel_rfl) (by kernel_rfl) (by kernel_rfl) (by kernel_rfl) (by kernel_rfl) (k_load 3 0 (by kernel_rfl) Try.underlying31 (by kernel_rfl) (by kernel_rfl)) ?_
      refine aOne (i := 3) (v := .undef) rfl (by kernel_rfl) (by kernel_rfl) (by kernel_rfl) (by kernel_rfl) (by kernel_rfl) (by kernel_rfl) (by kernel_rfl) (Does.acts (k_store (vs := [.nilc]) (H' := [.box [.d (.int .i64 slope0), .d (.int .i64 slope1)], .box [.d (.int .i64 at0), .d (.int .i64 at1)], .box [.nilc], .box [.d (.int .i64 x12)], .box [.d (.int .i64 r15), .d (.int .i64 r111)]]) 2 0 (by kernel_rfl) ty29 (by kernel_rfl) (by kernel_rfl) (by kernel_rfl))) (by kernel_rfl) ?_
      refine aTakeL (i := 4) (st' := []) (.d (.int .i64 x12)) rfl (by kernel_rfl) (by kernel_rfl) (by kernel_rfl) (by kernel_rfl) (by kernel_rfl) (by kernel_rfl) (by kernel_rfl) (PureV.quiet (p_assign (by kernel_rfl)) []) ?_
      refine aDone (by kernel_rfl) ?_
      refine oConvB 2 (cells := [.nilc]) (cells' := [.d (.lit (List.map e_SPoint []))]) (by kernel_rfl) (.cons _ _ _ _ .nil .nil) ?_
      refine oView (H' := [.box [.d (.int .i64 slope0), .d (.int .i64 slope1)], .box [.d (.int .i64 at0), .d (.int .i64 at1)], .box [.d (.lit (List.map e_SPoint []))], .box [.d (.int .i64 x12)], .box [.d (.int .i64 r15), .d (.int .i64 r111)]]) rfl (by kernel_rfl) ?_
      exact oRet (r0 := ([], x12)) (rv := .tuple [.agg [.d (.lit (List.map e_SPoint []))], .d (.int .i64 x12)]) (B := []) (vs := [.agg [.d (.lit (List.map e_SPoint []))], .d (.int .i64 x12)]) (σ := []) (by kernel_rfl) Try.func17 rfl (.cons _ _ _ _ (.agg 4 29 2 0 [.d (.lit (List.map e_SPoint []))] [.d (.lit (List.map e_SPoint []))] _ _ _ _ (by kernel_rfl) (by kernel_rfl) Try.underlying29 (by kernel_rfl) ty29 (by kernel_rfl) (by kernel_rfl)) (.cons _ _ _ _ (.tmp 5 _ (by kernel_rfl)) .nil)) (by kernel_rfl) (by kernel_rfl) (by kernel_rfl) (by kernel_rfl) (by decide) (by kernel_rfl) (by kernel_rfl)
     ·refine oCondF (by kernel_rfl) ?_
      refine oSkip ?_
      refine oSeq ?_
      refine oDraw [(0, 10), (1, 10), (2, 8), (3, 10), (4, 10)] rfl ?_
      refine aTakeL (i := 1) (st' := [1]) (.agg [.d (.int .i64 at0), .d (.int .i64 at1)]) rfl (by kernel_rfl) (by kernel_rfl) (by kernel_rfl) (by kernel_rfl) (by kernel_rfl) (by kernel_rfl) (by kernel_rfl) (k_loadAgg 1 0 (by kernel_rfl) Try.underlying37 (by kernel_rfl) ty37 (by kernel_rfl)) ?_
      refine aTakeL (i := 4) (st' := [4]) (.agg [.d (.int .i64 r15), .d (.int .i64 r111)]) rfl (by kernel_rfl) (by kernel_rfl) (by kernel_rfl) (by kernel_rfl) (by kernel_rfl) (by kernel_rfl) (by kernel_rfl) (k_loadAgg 4 0 (by kernel_rfl) Try.underlying37 (by kernel_rfl) ty37 (by kernel_rfl)) ?_
      refine dCall (i := 0) (caps := []) (v := (u0 ((.agg [.d (.int .i64 0), .d (.int .i64 1)] : V)))) (H' := (u0 (([.box [.d (.int .i64 slope0), .d (.int .i64 slope1)], .box [.d (.int .i64 at0), .d (.int .i64 at1)], .box [.nilc], .box [.d (.int .i64 x12)], .box [.d (.int .i64 r15), .d (.int .i64 r111)]] : List Blk)))) [] _ (conversion_whole_goes k 0) rfl (by kernel_rfl) (by kernel_rfl) (by kernel_rfl) (by kernel_rfl) (by kernel_rfl) (by kernel_rfl) (by kernel_rfl) (by kernel_rfl) rfl (by kernel_rfl) Try.func32 rfl (by kernel_rfl) (ConvRs.refl _ _) (by kernel_rfl) (by kernel_rfl) (by kernel_rfl) (by decide) (by kernel_rfl) (by kernel_rfl) (fun _ => (by kernel_rfl)) (fun _ => (by kernel_rfl)) (fun _ => (by kernel_rfl)) (fun r => ?_)
      cases r
      refine dU0 ?_
      refine aTakeP (i := 2) (.agg [.d (.int .i64 0), .d (.int .i64 1), .d (.int .i64 at0), .d (.int .i64 at1)]) rfl (by kernel_rfl) (by kernel_rfl) (by kernel_rfl) (by kernel_rfl) (by kernel_rfl) (by kernel_rfl) (by kernel_rfl) (p_build bld39 (by kernel_rfl)) ?_
      refine dCall (i := 3) (caps := []) (v := (u0 ((.agg [.d (.int .i64 1), .d (.int .i64 1)] : V)))) (H' := (u0 (([.box [.d (.int .i64 slope0), .d (.int .i64 slope1)], .box [.d (.int .i64 at0), .d (.int .i64 at1)], .box [.nilc], .box [.d (.int .i64 x12)], .box [.d (.int .i64 r15), .d (.int .i64 r111)]] : List Blk)))) [] _ (conversion_whole_goes k 1) rfl (by kernel_rfl) (by kernel_rfl) (by kernel_rfl) (by kernel_rfl) (by kernel_rfl) (by kernel_rfl) (by kernel_rfl) (by kernel_rfl) rfl (by kernel_rfl) Try.func32 rfl (by kernel_rfl) (ConvRs.refl _ _) (by kernel_rfl) (by kernel_rfl) (by kernel_rfl) (by decide) (by kernel_rfl) (by kernel_rfl) (fun _ => (by kernel_rfl)) (fun _ => (by kernel_rfl)) (fun _ => (by kernel_rfl)) (fun r => ?_)
      cases r
      refine dU0 ?_
      refine aTakeP (i := 5) (.agg [.d (.int .i64 1), .d (.int .i64 1), .d (.int .i64 r15), .d (.int .i64 r111)]) rfl (by kernel_rfl) (by kernel_rfl) (by kernel_rfl) (by kernel_rfl) (by kernel_rfl) (by kernel_rfl) (by kernel_rfl) (p_build bld39 (by kernel_rfl)) ?_
      refine aOne (i := 6) (v := .ref 5 (List.length ([(⟨0, 1, at0, at1⟩ : SPoint), (⟨1, 1, r15, r111⟩ : SPoint)] : List SPoint)) 0 (List.length ([(⟨0, 1, at0, at1⟩ : SPoint), (⟨1, 1, r15, r111⟩ : SPoint)] : List SPoint))) rfl (by kernel_rfl) (by kernel_rfl) (by kernel_rfl) (by kernel_rfl) (by kernel_rfl) (by kernel_rfl) (by kernel_rfl) (Does.acts (k_buildSlice (H' := [.box [.d (.int .i64 slope0), .d (.int .i64 slope1)], .box [.d (.int .i64 at0), .d (.int .i64 at1)], .box [.nilc], .box [.d (.int .i64 x12)], .box [.d (.int .i64 r15), .d (.int .i64 r111)], .sl 4 (List.map e_SPoint ([(⟨0, 1, at0, at1⟩ : SPoint), (⟨1, 1, r15, r111⟩ : SPoint)] : List SPoint)) false]) (List.map e_SPoint ([(⟨0, 1, at0, at1⟩ : SPoint), (⟨1, 1, r15, r111⟩ : SPoint)] : List SPoint)) Try.underlying27 ty39 (by kernel_rfl) (by kernel_rfl) (by kernel_rfl))) (by kernel_rfl) ?_
      refine aTakeP (i := 7) (.agg [.ref 5 (List.length ([(⟨0, 1, at0, at1⟩ : SPoint), (⟨1, 1, r15, r111⟩ : SPoint)] : List SPoint)) 0 (List.length ([(⟨0, 1, at0, at1⟩ : SPoint), (⟨1, 1, r15, r111⟩ : SPoint)] : List SPoint))]) rfl (by kernel_rfl) (by kernel_rfl) (by kernel_rfl) (by kernel_rfl) (by kernel_rfl) (by kernel_rfl) (by kernel_rfl) (p_build bld29 (by kernel_rfl)) ?_
      refine aOne (i := 8) (v := .undef) rfl (by kernel_rfl) (by kernel_rfl) (by kernel_rfl) (by kernel_rfl) (by kernel_rfl) (by kernel_rfl) (by kernel_rfl) (Does.acts (k_store (vs := [.ref 5 (List.length ([(⟨0, 1, at0, at1⟩ : SPoint), (⟨1, 1, r15, r111⟩ : SPoint)] : List SPoint)) 0 (List.length ([(⟨0, 1, at0, at1⟩ : SPoint), (⟨1, 1, r15, r111⟩ : SPoint)] : List SPoint))]) (H' := [.box [.d (.int .i64 slope0), .d (.int .i64 slope1)], .box [.d (.int .i64 at0), .d (.int .i64 at1)], .box [.ref 5 (List.length ([(⟨0, 1, at0, at1⟩ : SPoint), (⟨1, 1, r15, r111⟩ : SPoint)] : List SPoint)) 0 (List.length ([(⟨0, 1, at0, at1⟩ : SPoint), (⟨1, 1, r15, r111⟩ : SPoint)] : List SPoint))], .box [.d (.int .i64 x12)], .box [.d (.int .i64 r15), .d (.int .i64 r111)], .sl 4 (List.map e_SPoint ([(⟨0, 1, at0, at1⟩ : SPoint), (⟨1, 1, r15, r111⟩ : SPoint)] : List SPoint)) false]) 2 0 (by kernel_rfl) ty29 (by kernel_rfl) (by kernel_rfl) (by kernel_rfl))) (by kernel_rfl) ?_
      refine aTakeL (i := 9) (st' := []) (.d (.int .i64 0)) rfl (by kernel_rfl) (by kernel_rfl) (by kernel_rfl) (by kernel_rfl) (by kernel_rfl) (by kernel_rfl) (by kernel_rfl) (PureV.quiet (p_assign (by kernel_rfl)) []) ?_
      refine aDone (by kernel_rfl) ?_
      refine oFreeze 5 (esz := 4) (xs := List.map e_SPoint ([(⟨0, 1, at0, at1⟩ : SPoint), (⟨1, 1, r15, r111⟩ : SPoint)] : List SPoint)) (by kernel_rfl) ?_
      refine oView (H' := [.box [.d (.int .i64 slope0), .d (.int .i64 slope1)], .box [.d (.int .i64 at0), .d (.int .i64 at1)], .box [.ref 5 (List.length ([(⟨0, 1, at0, at1⟩ : SPoint), (⟨1, 1, r15, r111⟩ : SPoint)] : List SPoint)) 0 (List.length ([(⟨0, 1, at0, at1⟩ : SPoint), (⟨1, 1, r15, r111⟩ : SPoint)] : List SPoint))], .box [.d (.int .i64 x12)], .box [.d (.int .i64 r15), .d (.int .i64 r111)], .sl 4 (List.map e_SPoint ([(⟨0, 1, at0, at1⟩ : SPoint), (⟨1, 1, r15, r111⟩ : SPoint)] : List SPoint)) true]) rfl (by kernel_rfl) ?_
      refine oConvB 2 (cells := [.ref 5 (List.length ([(⟨0, 1, at0, at1⟩ : SPoint), (⟨1, 1, r15, r111⟩ : SPoint)] : List SPoint)) 0 (List.length ([(⟨0, 1, at0, at1⟩ : SPoint), (⟨1, 1, r15, r111⟩ : SPoint)] : List SPoint))]) (cells' := [.d (.lit (List.map e_SPoint ([(⟨0, 1, at0, at1⟩ : SPoint), (⟨1, 1, r15, r111⟩ : SPoint)] : List SPoint)))]) (by kernel_rfl) (.cons _ _ _ _ (k_lit (enc := e_SPoint) (sz := 4) 5 ([(⟨0, 1, at0, at1⟩ : SPoint), (⟨1, 1, r15, r111⟩ : SPoint)] : List SPoint) (by kernel_rfl)) .nil) ?_
      refine oView (H' := [.box [.d (.int .i64 slope0), .d (.int .i64 slope1)], .box [.d (.int .i64 at0), .d (.int .i64 at1)], .box [.d (.lit (List.map e_SPoint ([(⟨0, 1, at0, at1⟩ : SPoint), (⟨1, 1, r15, r111⟩ : SPoint)] : List SPoint)))], .box [.d (.int .i64 x12)], .box [.d (.int .i64 r15), .d (.int .i64 r111)], .sl 4 (List.map e_SPoint ([(⟨0, 1, at0, at1⟩ : SPoint), (⟨1, 1, r15, r111⟩ : SPoint)] : List SPoint)) true]) rfl (by kernel_rfl) ?_
      exact oRet (r0 := (([(⟨0, 1, at0, at1⟩ : SPoint), (⟨1, 1, r15, r111⟩ : SPoint)] : List SPoint), 0)) (rv := .tuple [.agg [.d (.lit (List.map e_SPoint ([(⟨0, 1, at0, at1⟩ : SPoint), (⟨1, 1, r15, r111⟩ : SPoint)] : List SPoint)))], .d (.int .i64 0)]) (B := []) (vs := [.agg [.d (.lit (List.map e_SPoint ([(⟨0, 1, at0, at1⟩ : SPoint), (⟨1, 1, r15, r111⟩ : SPoint)] : List SPoint)))], .d (.int .i64 0)]) (σ := []) (by kernel_rfl) Try.func17 rfl (.cons _ _ _ _ (.agg 4 29 2 0 [.d (.lit (List.map e_SPoint ([(⟨0, 1, at0, at1⟩ : SPoint), (⟨1, 1, r15, r111⟩ : SPoint)] : List SPoint)))] [.d (.lit (List.map e_SPoint ([(⟨0, 1, at0, at1⟩ : SPoint), (⟨1, 1, r15, r111⟩ : SPoint)] : List SPoint)))] _ _ _ _ (by kernel_rfl) (by kernel_rfl) Try.underlying29 (by kernel_rfl) ty29 (by kernel_rfl) (by kernel_rfl)) (.cons _ _ _ _ (.tmp 5 _ (by kernel_rfl)) .nil)) (by kernel_rfl) (by kernel_rfl) (by kernel_rfl) (by kernel_rfl) (by decide) (by kernel_rfl) (by kernel_rfl)
  ·refine bSplit 12 (by kernel_rfl) (fun hc => ?_) (fun hc => ?_)
   ·refine oNot (by kernel_rfl) (by kernel_rfl) ?_
    refine oNot (by kernel_rfl) (by kernel_rfl) ?_
    refine oNot (by kernel_rfl) (by kernel_rfl) ?_
    refine oOp (.d (.bool true)) (by kernel_rfl) (by kernel_rfl) (PureV.does (p_pick (b := true) (by kernel_rfl) (by kernel_rfl))) ?_
    refine oHead [2, 3, 4, 16] [0, 1, 2] (T' := [(2, .ptr 0 0), (3, .ptr 1 0), (4, .ptr 2 0), (16, .d (.bool true))]) (H' := [.box [.d (.int .i64 slope0), .d (.int .i64 slope1)], .box [.d (.int .i64 at0), .d (.int .i64 at1)], .box [.nilc]]) (by kernel_rfl) (by kernel_rfl) (by kernel_rfl) (by kernel_rfl) (by decide) (by kernel_rfl) (by kernel_rfl) ?_
    exact hj1 true
   ·refine oOp (.agg [.d (.int .i64 at0), .d (.int .i64 at1)]) (by kernel_rfl) (by kernel_rfl) (Quiet.does (k_loadAgg 1 0 (by kernel_rfl) Try.underlying37 (by kernel_rfl) ty37 (by kernel_rfl))) ?_
    refine bCall (caps := []) (v := (fun (r128 : Bool) => (.d (.bool r128) : V))) (H' := (fun (r128 : Bool) => ([.box [.d (.int .i64 slope0), .d (.int .i64 slope1)], .box [.d (.int .i64 at0), .d (.int .i64 at1)], .box [.nilc]] : List Blk))) [] _ (ratio_Valid_goes k at0 at1) (by kernel_rfl) (by kernel_rfl) rfl (by kernel_rfl) Try.func24 rfl (by kernel_rfl) (ConvRs.refl _ _) (by kernel_rfl) (by kernel_rfl) (by kernel_rfl) (by decide) (by kernel_rfl) (by kernel_rfl) (fun _ => (by kernel_rfl)) (fun _ => (by kernel_rfl)) (fun _ => (by kernel_rfl)) (fun r128 => ?_)
    refine oOp (.d (.bool (!r128))) (by kernel_rfl) (by kernel_rfl) (PureV.does (p_not (p := r128) (by kernel_rfl) (by kernel_rfl))) ?_
    refine oOp (.d (.bool (!r128))) (by kernel_rfl) (by kernel_rfl) (PureV.does (p_pick (b := false) (by kernel_rfl) (by kernel_rfl))) ?_
    refine oHead [2, 3, 4, 16] [0, 1, 2] (T' := [(2, .ptr 0 0), (3, .ptr 1 0), (4, .ptr 2 0), (16, .d (.bool (!r128)))]) (H' := [.box [.d (.int .i64 slope0), .d (.int .i64 slope1)], .box [.d (.int .i64 at0), .d (.int .i64 at1)], .box [.nilc]]) (by kernel_rfl) (by kernel_rfl) (by kernel_rfl) (by kernel_rfl) (by decide) (by kernel_rfl) (by kernel_rfl) ?_
    exact hj1 (!r128)

end Go.VM
