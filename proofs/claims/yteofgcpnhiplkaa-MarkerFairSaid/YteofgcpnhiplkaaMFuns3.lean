/- Plain functions that answer as the program's functions do, and the proof that they do. -/
import Derived.Test.YteofgcpnhiplkaaProg
import Derived.KernelRfl
import Derived.Test.YteofgcpnhiplkaaEngS
import Derived.Test.YteofgcpnhiplkaaMFacts
import Derived.Test.YteofgcpnhiplkaaMFuns1
namespace Go.VM
open Go.Proofs
set_option linter.unusedVariables false
set_option linter.unusedSimpArgs false
set_option maxRecDepth 100000
/-- (*awardingbody/awardingbodymark.Dice).Script -/
def mark_Dice_Script_b1 (k : Nat) (p2 : (List SPart)) (x : (List Int)) (again : Int × Int × Int × Int × (List Int) × (List Int) → Option (Int × Int × Int × (List Int) × (List Int))) : Int × Int × Int × Int × (List Int) × (List Int) → Option (Int × Int × Int × (List Int) × (List Int)) := uc fun x56 => uc fun x57 => uc fun x58 => uc fun x59 => uc fun xs15 => fun xs16 => bif (decide (x56 < ((List.length p2) : Int))) then gidx p2 x56 fun e113 => Option.bind (bif (e113.Kind == 2) then Option.bind (mark_Dice_Pick k ([e113.Key, 0, 1, (-1), (-2)] : List Int) x x57) (uc fun r1115 => fun x220 => some (r1115, x220)) else some ((-1), x57) : Option (Int × Int)) (uc fun x71 => fun x72 => gcap (List.length (xs16 ++ ([x71] : List Int))) 8 (again ((IntKind.wrap .i64 (x56 + 1)), x72, x58, x59, xs15, (xs16 ++ ([x71] : List Int))))) else some (x57, x58, x59, xs15, xs16)
def mark_Dice_Script (k : Nat) (p0 : Int) (p1 : Int) (p2 : (List SPart)) (candidate : Int) (x : (List Int)) (x1 : Int) : Option (Int × Int × (List Int) × (List Int) × Int) := Option.bind (mark_Dice_Next k 3 x x1) (uc fun r1 => fun x6 => Option.bind (mark_Dice_Next k 3 x x6) (uc fun r11 => fun x61 => Option.bind (gloop (mark_Dice_Script_b1 k p2 x) k (0, x61, (IntKind.wrap .i64 ((IntKind.wrap .i64 (p0 * 10000)) + candidate)), (IntKind.wrap .i64 (1 + r1)), ([(IntKind.wrap .i64 ((IntKind.wrap .i64 (100 * candidate)) + p0)), r11] : List Int), ([] : List Int)) : Option (Int × Int × Int × (List Int) × (List Int))) (uc fun x47 => uc fun x48 => uc fun x49 => uc fun xs12 => fun xs13 => some (x48, x49, xs12, xs13, x47))))
def mark_Dice_Script_E (p0 : Int) (p1 : Int) (p2 : (List SPart)) (candidate : Int) (x : (List Int)) (x1 : Int) : Int × Int × (List Int) × (List Int) × Int → V × List Blk := uc fun r12 => uc fun r13 => uc fun r14 => uc fun r15 => fun x28 => (.agg [.d (.int .i64 r12), .d (.int .i64 p0), .d (.int .i64 candidate), .d (.int .i64 r13), .d (.int .i64 p1), .d (.lit (List.map e_i64 r14)), .d (.lit (List.map e_i64 r15))], [.box [.d (.lit (List.map e_i64 x)), .d (.int .i64 x28)]])
theorem mark_Dice_Script_goes (k : Nat) (p0 : Int) (p1 : Int) (p2 : (List SPart)) (candidate : Int) (x : (List Int)) (x1 : Int) : RunsO Try.prog 31 [.ptr 0 0, .agg [.d (.int .i64 p0), .d (.int .i64 p1), .d (.lit (List.map e_SPart p2))], .d (.int .i64 candidate)] [.box [.d (.lit (List.map e_i64 x)), .d (.int .i64 x1)]] (mark_Dice_Script_E p0 p1 p2 candidate x x1) (mark_Dice_Script k p0 p1 p2 candidate x x1) := by
  refine RunsO.of_goes (N := 62) (m := 1) (T := [(0, .ptr 0 0), (1, .agg [.d (.int .i64 p0), .d (.int .i64 p1), .d (.lit (List.map e_SPart p2))]), (2, .d (.int .i64 candidate))]) Try.func31 rfl rfl (by kernel_rfl) (by kernel_rfl) (by kernel_rfl) ?_
  unfold mark_Dice_Script
  refine bStart ?_
  refine oSeq ?_
  refine oRegion rfl ?_
  refine oOp (.ptr 1 0) (by kernel_rfl) (by kernel_rfl) (k_box (H' := [.box [.d (.lit (List.map e_i64 x)), .d (.int .i64 x1)], .box [.d (.int .i64 p0), .d (.int .i64 p1), .d (.lit (List.map e_SPart p2))]]) (cells := [.d (.int .i64 p0), .d (.int .i64 p1), .d (.lit (List.map e_SPart p2))]) (by kernel_rfl) (by kernel_rfl) (by kernel_rfl)) ?_
  refine oOp (.ptr 2 0) (by kernel_rfl) (by kernel_rfl) (k_alloc (H' := [.box [.d (.lit (List.map e_i64 x)), .d (.int .i64 x1)], .box [.d (.int .i64 p0), .d (.int .i64 p1), .d (.lit (List.map e_SPart p2))], .box [.d (.int .i64 0), .d (.int .i64 0), .d (.int .i64 0), .d (.int .i64 0), .d (.int .i64 0), .nilc, .nilc]]) ty50 (by kernel_rfl) (by kernel_rfl)) ?_
  refine oEnd ?_
  refine oSeq ?_
  refine oDraw [(0, 9), (1, 24), (2, 24)] rfl ?_
  refine aTakeL (i := 0) (st' := []) (.ptr 1 0) rfl (by kernel_rfl) (by kernel_rfl) (by kernel_rfl) (by kernel_rfl) (by kernel_rfl) (by kernel_rfl) (by kernel_rfl) (PureV.quiet (k_fieldAddr 1 0 (by kernel_rfl) Try.underlying71 rfl ty3 (by kernel_rfl)) []) ?_
  refine aTakeL (i := 1) (st' := [1]) (.d (.int .i64 p0)) rfl (by kernel_rfl) (by kernel_rfl) (by kernel_rfl) (by kernel_rfl) (by kernel_rfl) (by kernel_rfl) (by kernel_rfl) (k_load 1 0 (by kernel_rfl) Try.underlying3 (by kernel_rfl) (by kernel_rfl)) ?_
  refine aTakeL (i := 2) (st' := []) (.d (.int .i64 (IntKind.wrap .i64 (p0 * 10000)))) rfl (by kernel_rfl) (by kernel_rfl) (by kernel_rfl) (by kernel_rfl) (by kernel_rfl) (by kernel_rfl) (by kernel_rfl) (PureV.quiet (p_int (k := .i64) (p := p0) (q := 10000) (by kernel_rfl) (by kernel_rfl) (by kernel_rfl)) []) ?_
  refine aTakeL (i := 3) (st' := []) (.d (.int .i64 candidate)) rfl (by kernel_rfl) (by kernel_rfl) (by kernel_rfl) (by kernel_rfl) (by kernel_rfl) (by kernel_rfl) (by kernel_rfl) (PureV.quiet (p_move (by kernel_rfl)) []) ?_
  refine aTakeL (i := 4) (st' := []) (.d (.int .i64 (IntKind.wrap .i64 ((IntKind.wrap .i64 (p0 * 10000)) + candidate)))) rfl (by kernel_rfl) (by kernel_rfl) (by kernel_rfl) (by kernel_rfl) (by kernel_rfl) (by kernel_rfl) (by kernel_rfl) (PureV.quiet (p_int (k := .i64) (p := (IntKind.wrap .i64 (p0 * 10000))) (q := candidate) (by kernel_rfl) (by kernel_rfl) (by kernel_rfl)) []) ?_
  refine aTakeL (i := 5) (st' := []) (.ptr 1 0) rfl (by kernel_rfl) (by kernel_rfl) (by kernel_rfl) (by kernel_rfl) (by kernel_rfl) (by kernel_rfl) (by kernel_rfl) (PureV.quiet (k_fieldAddr 1 0 (by kernel_rfl) Try.underlying71 rfl ty3 (by kernel_rfl)) []) ?_
  refine aTakeL (i := 6) (st' := [1]) (.d (.int .i64 p0)) rfl (by kernel_rfl) (by kernel_rfl) (by kernel_rfl) (by kernel_rfl) (by kernel_rfl) (by kernel_rfl) (by kernel_rfl) (k_load 1 0 (by kernel_rfl) Try.underlying3 (by kernel_rfl) (by kernel_rfl)) ?_
  refine aTakeL (i := 7) (st' := []) (.d (.int .i64 candidate)) rfl (by kernel_rfl) (by kernel_rfl) (by kernel_rfl) (by kernel_rfl) (by kernel_rfl) (by kernel_rfl) (by kernel_rfl) (PureV.quiet (p_move (by kernel_rfl)) []) ?_
  refine aTakeL (i := 8) (st' := []) (.ptr 0 0) rfl (by kernel_rfl) (by kernel_rfl) (by kernel_rfl) (by kernel_rfl) (by kernel_rfl) (by kernel_rfl) (by kernel_rfl) (PureV.quiet (p_move (by kernel_rfl)) []) ?_
  refine aTakeL (i := 11) (st' := []) (.ptr 1 1) rfl (by kernel_rfl) (by kernel_rfl) (by kernel_rfl) (by kernel_rfl) (by kernel_rfl) (by kernel_rfl) (by kernel_rfl) (PureV.quiet (k_fieldAddr 1 0 (by kernel_rfl) Try.underlying71 rfl ty3 (by kernel_rfl)) []) ?_
  refine aTakeL (i := 12) (st' := [1]) (.d (.int .i64 p1)) rfl (by kernel_rfl) (by kernel_rfl) (by kernel_rfl) (by kernel_rfl) (by kernel_rfl) (by kernel_rfl) (by kernel_rfl) (k_load 1 1 (by kernel_rfl) Try.underlying3 (by kernel_rfl) (by kernel_rfl)) ?_
  refine aTakeL (i := 13) (st' := []) (.d (.int .i64 candidate)) rfl (by kernel_rfl) (by kernel_rfl) (by kernel_rfl) (by kernel_rfl) (by kernel_rfl) (by kernel_rfl) (by kernel_rfl) (PureV.quiet (p_move (by kernel_rfl)) []) ?_
  refine aTakeL (i := 14) (st' := []) (.d (.int .i64 (IntKind.wrap .i64 (100 * candidate)))) rfl (by kernel_rfl) (by kernel_rfl) (by kernel_rfl) (by kernel_rfl) (by kernel_rfl) (by kernel_rfl) (by kernel_rfl) (PureV.quiet (p_int (k := .i64) (p := 100) (q := candidate) (by kernel_rfl) (by kernel_rfl) (by kernel_rfl)) []) ?_
  refine aTakeL (i := 15) (st' := []) (.ptr 1 0) rfl (by kernel_rfl) (by kernel_rfl) (by kernel_rfl) (by kernel_rfl) (by kernel_rfl) (by kernel_rfl) (by kernel_rfl) (PureV.quiet (k_fieldAddr 1 0 (by kernel_rfl) Try.underlying71 rfl ty3 (by kernel_rfl)) []) ?_
  refine aTakeL (i := 16) (st' := [1]) (.d (.int .i64 p0)) rfl (by kernel_rfl) (by kernel_rfl) (by kernel_rfl) (by kernel_rfl) (by kernel_rfl) (by kernel_rfl) (by kernel_rfl) (k_load 1 0 (by kernel_rfl) Try.underlying3 (by kernel_rfl) (by kernel_rfl)) ?_
  refine aTakeL (i := 17) (st' := []) (.d (.int .i64 (IntKind.wrap .i64 ((IntKind.wrap .i64 (100 * candidate)) + p0)))) rfl (by kernel_rfl) (by kernel_rfl) (by kernel_rfl) (by kernel_rfl) (by kernel_rfl) (by kernel_rfl) (by kernel_rfl) (PureV.quiet (p_int (k := .i64) (p := (IntKind.wrap .i64 (100 * candidate))) (q := p0) (by kernel_rfl) (by kernel_rfl) (by kernel_rfl)) []) ?_
  refine aTakeL (i := 18) (st' := []) (.ptr 0 0) rfl (by kernel_rfl) (by kernel_rfl) (by kernel_rfl) (by kernel_rfl) (by kernel_rfl) (by kernel_rfl) (by kernel_rfl) (PureV.quiet (p_move (by kernel_rfl)) []) ?_
  refine dCall (i := 9) (caps := []) (v := (uc fun (r1 : Int) => (fun (x6 : Int) => (.d (.int .i64 r1) : V)))) (H' := (uc fun (r1 : Int) => (fun (x6 : Int) => ([.box [.d (.lit (List.map e_i64 x)), .d (.int .i64 x6)], .box [.d (.int .i64 p0), .d (.int .i64 p1), .d (.lit (List.map e_SPart p2))], .box [.d (.int .i64 0), .d (.int .i64 0), .d (.int .i64 0), .d (.int .i64 0), .d (.int .i64 0), .nilc, .nilc]] : List Blk)))) [0] _ (mark_Dice_Next_goes k 3 x x1) rfl (by kernel_rfl) (by kernel_rfl) (by kernel_rfl) (by kernel_rfl) (by kernel_rfl) (by kernel_rfl) (by kernel_rfl) (by kernel_rfl) rfl (by kernel_rfl) Try.func26 rfl (by kernel_rfl) (ConvRs.refl _ _) (by kernel_rfl) (by kernel_rfl) (by kernel_rfl) (by decide) (by kernel_rfl) (by kernel_rfl) (fun _ => (by kernel_rfl)) (fun _ => (by kernel_rfl)) (fun _ => (by kernel_rfl)) (fun r => ?_)
  obtain ⟨r1, x6⟩ := r
  refine dUc ?_
  refine aTakeL (i := 10) (st' := []) (.d (.int .i64 (IntKind.wrap .i64 (1 + r1)))) rfl (by kernel_rfl) (by kernel_rfl) (by kernel_rfl) (by kernel_rfl) (by kernel_rfl) (by kernel_rfl) (by kernel_rfl) (PureV.quiet (p_int (k := .i64) (p := 1) (q := r1) (by kernel_rfl) (by kernel_rfl) (by kernel_rfl)) []) ?_
  refine dCall (i := 19) (caps := []) (v := (uc fun (r11 : Int) => (fun (x61 : Int) => (.d (.int .i64 r11) : V)))) (H' := (uc fun (r11 : Int) => (fun (x61 : Int) => ([.box [.d (.lit (List.map e_i64 x)), .d (.int .i64 x61)], .box [.d (.int .i64 p0), .d (.int .i64 p1), .d (.lit (List.map e_SPart p2))], .box [.d (.int .i64 0), .d (.int .i64 0), .d (.int .i64 0), .d (.int .i64 0), .d (.int .i64 0), .nilc, .nilc]] : List Blk)))) [0] _ (mark_Dice_Next_goes k 3 x x6) rfl (by kernel_rfl) (by kernel_rfl) (by kernel_rfl) (by kernel_rfl) (by kernel_rfl) (by kernel_rfl) (by kernel_rfl) (by kernel_rfl) rfl (by kernel_rfl) Try.func26 rfl (by kernel_rfl) (ConvRs.refl _ _) (by kernel_rfl) (by kernel_rfl) (by kernel_rfl) (by decide) (by kernel_rfl) (by kernel_rfl) (fun _ => (by kernel_rfl)) (fun _ => (by kernel_rfl)) (fun _ => (by kernel_rfl)) (fun r => ?_)
  obtain ⟨r11, x61⟩ := r
  refine dUc ?_
  refine aOne (i := 20) (v := .ref 3 (List.length ([(IntKind.wrap .i64 ((IntKind.wrap .i64 (100 * candidate)) + p0)), r11] : List Int)) 0 (List.length ([(IntKind.wrap .i64 ((IntKind.wrap .i64 (100 * candidate)) + p0)), r11] : List Int))) rfl (by kernel_rfl) (by kernel_rfl) (by kernel_rfl) (by kernel_rfl) (by kernel_rfl) (by kernel_rfl) (by kernel_rfl) (Does.acts (k_buildSlice (H' := [.box [.d (.lit (List.map e_i64 x)), .d (.int .i64 x61)], .box [.d (.int .i64 p0), .d (.int .i64 p1), .d (.lit (List.map e_SPart p2))], .box [.d (.int .i64 0), .d (.int .i64 0), .d (.int .i64 0), .d (.int .i64 0), .d (.int .i64 0), .nilc, .nilc], .sl 1 (List.map e_i64 ([(IntKind.wrap .i64 ((IntKind.wrap .i64 (100 * candidate)) + p0)), r11] : List Int)) false]) (List.map e_i64 ([(IntKind.wrap .i64 ((IntKind.wrap .i64 (100 * candidate)) + p0)), r11] : List Int)) Try.underlying22 ty3 (by kernel_rfl) (by kernel_rfl) (by kernel_rfl))) (by kernel_rfl) ?_
  refine aTakeP (i := 21) (.agg [.d (.int .i64 (IntKind.wrap .i64 ((IntKind.wrap .i64 (p0 * 10000)) + candidate))), .d (.int .i64 p0), .d (.int .i64 candidate), .d (.int .i64 (IntKind.wrap .i64 (1 + r1))), .d (.int .i64 p1), .ref 3 (List.length ([(IntKind.wrap .i64 ((IntKind.wrap .i64 (100 * candidate)) + p0)), r11] : List Int)) 0 (List.length ([(IntKind.wrap .i64 ((IntKind.wrap .i64 (100 * candidate)) + p0)), r11] : List Int)), .nilc]) rfl (by kernel_rfl) (by kernel_rfl) (by kernel_rfl) (by kernel_rfl) (by kernel_rfl) (by kernel_rfl) (by kernel_rfl) (p_build bld50 (by kernel_rfl)) ?_
  refine aAlloc (i := 22) (d := 7) rfl (by kernel_rfl) (by kernel_rfl) rfl rfl (by kernel_rfl) (by kernel_rfl) ty50 (cells := [.d (.int .i64 0), .d (.int .i64 0), .d (.int .i64 0), .d (.int .i64 0), .d (.int .i64 0), .nilc, .nilc]) (by kernel_rfl) (by kernel_rfl) ?_
  refine dView (H' := [.box [.d (.lit (List.map e_i64 x)), .d (.int .i64 x61)], .box [.d (.int .i64 p0), .d (.int .i64 p1), .d (.lit (List.map e_SPart p2))], .box [.d (.int .i64 0), .d (.int .i64 0), .d (.int .i64 0), .d (.int .i64 0), .d (.int .i64 0), .nilc, .nilc], .sl 1 (List.map e_i64 ([(IntKind.wrap .i64 ((IntKind.wrap .i64 (100 * candidate)) + p0)), r11] : List Int)) false, .box [.d (.int .i64 0), .d (.int .i64 0), .d (.int .i64 0), .d (.int .i64 0), .d (.int .i64 0), .nilc, .nilc]]) rfl rfl (by kernel_rfl) ?_
  refine aOne (i := 23) (v := .undef) rfl (by kernel_rfl) (by kernel_rfl) (by kernel_rfl) (by kernel_rfl) (by kernel_rfl) (by kernel_rfl) (by kernel_rfl) (Does.acts (k_store (vs := [.d (.int .i64 (IntKind.wrap .i64 ((IntKind.wrap .i64 (p0 * 10000)) + candidate))), .d (.int .i64 p0), .d (.int .i64 candidate), .d (.int .i64 (IntKind.wrap .i64 (1 + r1))), .d (.int .i64 p1), .ref 3 (List.length ([(IntKind.wrap .i64 ((IntKind.wrap .i64 (100 * candidate)) + p0)), r11] : List Int)) 0 (List.length ([(IntKind.wrap .i64 ((IntKind.wrap .i64 (100 * candidate)) + p0)), r11] : List Int)), .nilc]) (H' := [.box [.d (.lit (List.map e_i64 x)), .d (.int .i64 x61)], .box [.d (.int .i64 p0), .d (.int .i64 p1), .d (.lit (List.map e_SPart p2))], .box [.d (.int .i64 0), .d (.int .i64 0), .d (.int .i64 0), .d (.int .i64 0), .d (.int .i64 0), .nilc, .nilc], .sl 1 (List.map e_i64 ([(IntKind.wrap .i64 ((IntKind.wrap .i64 (100 * candidate)) + p0)), r11] : List Int)) false, .box [.d (.int .i64 (IntKind.wrap .i64 ((IntKind.wrap .i64 (p0 * 10000)) + candidate))), .d (.int .i64 p0), .d (.int .i64 candidate), .d (.int .i64 (IntKind.wrap .i64 (1 + r1))), .d (.int .i64 p1), .ref 3 (List.length ([(IntKind.wrap .i64 ((IntKind.wrap .i64 (100 * candidate)) + p0)), r11] : List Int)) 0 (List.length ([(IntKind.wrap .i64 ((IntKind.wrap .i64 (100 * candidate)) + p0)), r11] : List Int)), .nilc]]) 4 0 (by kernel_rfl) ty50 (by kernel_rfl) (by kernel_rfl) (by kernel_rfl))) (by kernel_rfl) ?_
  refine aDone (by kernel_rfl) ?_
  refine oSeq ?_
  refine oSeq ?_
  refine oRegion rfl ?_
  refine oOp (.d (.int .i64 0)) (by kernel_rfl) (by kernel_rfl) (PureV.does (p_assign (by kernel_rfl))) ?_
  refine oEnd ?_
  refine bJoin ((uc fun (x47 : Int) => (uc fun (x48 : Int) => (uc fun (x49 : Int) => (uc fun (xs12 : (List Int)) => (fun (xs13 : (List Int)) => [(6, .ptr 1 0), (7, .ptr 2 0)])))))) ((uc fun (x47 : Int) => (uc fun (x48 : Int) => (uc fun (x49 : Int) => (uc fun (xs12 : (List Int)) => (fun (xs13 : (List Int)) => [.box [.d (.lit (List.map e_i64 x)), .d (.int .i64 x47)], .box [.d (.int .i64 0), .d (.int .i64 0), .d (.int .i64 0), .d (.int .i64 0), .d (.int .i64 0), .nilc, .nilc], .box [.d (.int .i64 x48), .d (.int .i64 p0), .d (.int .i64 candidate), .d (.int .i64 x49), .d (.int .i64 p1), .ref 3 (List.length xs12) 0 (List.length xs12), .ref 4 (List.length xs13) 0 (List.length xs13)], .sl 1 (List.map e_i64 xs12) false, .sl 1 (List.map e_i64 xs13) false])))))) (fun s => s) (fun s => ?_) (fun hj10 => ?_)
  · obtain ⟨x47, x48, x49, xs12, xs13⟩ := s
    refine bUc ?_
    refine bUc ?_
    refine bUc ?_
    refine bUc ?_
    refine oView (T' := [(6, .ptr 1 0), (7, .ptr 2 0)]) (H' := [.box [.d (.lit (List.map e_i64 x)), .d (.int .i64 x47)], .box [.d (.int .i64 0), .d (.int .i64 0), .d (.int .i64 0), .d (.int .i64 0), .d (.int .i64 0), .nilc, .nilc], .box [.d (.int .i64 x48), .d (.int .i64 p0), .d (.int .i64 candidate), .d (.int .i64 x49), .d (.int .i64 p1), .ref 3 (List.length xs12) 0 (List.length xs12), .ref 4 (List.length xs13) 0 (List.length xs13)], .sl 1 (List.map e_i64 xs12) false, .sl 1 (List.map e_i64 xs13) false]) (by kernel_rfl) (by kernel_rfl) ?_
    refine oSeq ?_
    refine oRegion rfl ?_
    refine oOp (.agg [.d (.int .i64 x48), .d (.int .i64 p0), .d (.int .i64 candidate), .d (.int .i64 x49), .d (.int .i64 p1), .ref 3 (List.length xs12) 0 (List.length xs12), .ref 4 (List.length xs13) 0 (List.length xs13)]) (by kernel_rfl) (by kernel_rfl) (Quiet.does (k_loadAgg 2 0 (by kernel_rfl) Try.underlying50 (by kernel_rfl) ty50 (by kernel_rfl))) ?_
    refine oOp (.undef) (by kernel_rfl) (by kernel_rfl) (k_store (vs := [.d (.int .i64 x48), .d (.int .i64 p0), .d (.int .i64 candidate), .d (.int .i64 x49), .d (.int .i64 p1), .ref 3 (List.length xs12) 0 (List.length xs12), .ref 4 (List.length xs13) 0 (List.length xs13)]) (H' := [.box [.d (.lit (List.map e_i64 x)), .d (.int .i64 x47)], .box [.d (.int .i64 x48), .d (.int .i64 p0), .d (.int .i64 candidate), .d (.int .i64 x49), .d (.int .i64 p1), .ref 3 (List.length xs12) 0 (List.length xs12), .ref 4 (List.length xs13) 0 (List.length xs13)], .box [.d (.int .i64 x48), .d (.int .i64 p0), .d (.int .i64 candidate), .d (.int .i64 x49), .d (.int .i64 p1), .ref 3 (List.length xs12) 0 (List.length xs12), .ref 4 (List.length xs13) 0 (List.length xs13)], .sl 1 (List.map e_i64 xs12) false, .sl 1 (List.map e_i64 xs13) false]) 1 0 (by kernel_rfl) ty50 (by kernel_rfl) (by kernel_rfl) (by kernel_rfl)) ?_
    refine oEnd ?_
    refine oFreeze 3 (esz := 1) (xs := List.map e_i64 xs12) (by kernel_rfl) ?_
    refine oView (H' := [.box [.d (.lit (List.map e_i64 x)), .d (.int .i64 x47)], .box [.d (.int .i64 x48), .d (.int .i64 p0), .d (.int .i64 candidate), .d (.int .i64 x49), .d (.int .i64 p1), .ref 3 (List.length xs12) 0 (List.length xs12), .ref 4 (List.length xs13) 0 (List.length xs13)], .box [.d (.int .i64 x48), .d (.int .i64 p0), .d (.int .i64 candidate), .d (.int .i64 x49), .d (.int .i64 p1), .ref 3 (List.length xs12) 0 (List.length xs12), .ref 4 (List.length xs13) 0 (List.length xs13)], .sl 1 (List.map e_i64 xs12) true, .sl 1 (List.map e_i64 xs13) false]) rfl (by kernel_rfl) ?_
    refine oFreeze 4 (esz := 1) (xs := List.map e_i64 xs13) (by kernel_rfl) ?_
    refine oView (H' := [.box [.d (.lit (List.map e_i64 x)), .d (.int .i64 x47)], .box [.d (.int .i64 x48), .d (.int .i64 p0), .d (.int .i64 candidate), .d (.int .i64 x49), .d (.int .i64 p1), .ref 3 (List.length xs12) 0 (List.length xs12), .ref 4 (List.length xs13) 0 (List.length xs13)], .box [.d (.int .i64 x48), .d (.int .i64 p0), .d (.int .i64 candidate), .d (.int .i64 x49), .d (.int .i64 p1), .ref 3 (List.length xs12) 0 (List.length xs12), .ref 4 (List.length xs13) 0 (List.length xs13)], .sl 1 (List.map e_i64 xs12) true, .sl 1 (List.map e_i64 xs13) true]) rfl (by kernel_rfl) ?_
    refine oConvB 1 (cells := [.d (.int .i64 x48), .d (.int .i64 p0), .d (.int .i64 candidate), .d (.int .i64 x49), .d (.int .i64 p1), .ref 3 (List.length xs12) 0 (List.length xs12), .ref 4 (List.length xs13) 0 (List.length xs13)]) (cells' := [.d (.int .i64 x48), .d (.int .i64 p0), .d (.int .i64 candidate), .d (.int .i64 x49), .d (.int .i64 p1), .d (.lit (List.map e_i64 xs12)), .d (.lit (List.map e_i64 xs13))]) (by kernel_rfl) (.cons _ _ _ _ (.same _) (.cons _ _ _ _ (.same _) (.cons _ _ _ _ (.same _) (.cons _ _ _ _ (.same _) (.cons _ _ _ _ (.same _) (.cons _ _ _ _ (k_lit (enc := e_i64) (sz := 1) 3 xs12 (by kernel_rfl)) (.cons _ _ _ _ (k_lit (enc := e_i64) (sz := 1) 4 xs13 (by kernel_rfl)) .nil))))))) ?_
    refine oView (H' := [.box [.d (.lit (List.map e_i64 x)), .d (.int .i64 x47)], .box [.d (.int .i64 x48), .d (.int .i64 p0), .d (.int .i64 candidate), .d (.int .i64 x49), .d (.int .i64 p1), .d (.lit (List.map e_i64 xs12)), .d (.lit (List.map e_i64 xs13))], .box [.d (.int .i64 x48), .d (.int .i64 p0), .d (.int .i64 candidate), .d (.int .i64 x49), .d (.int .i64 p1), .ref 3 (List.length xs12) 0 (List.length xs12), .ref 4 (List.length xs13) 0 (List.length xs13)], .sl 1 (List.map e_i64 xs12) true, .sl 1 (List.map e_i64 xs13) true]) rfl (by kernel_rfl) ?_
    exact oRet (r0 := (x48, x49, xs12, xs13, x47)) (rv := .agg [.d (.int .i64 x48), .d (.int .i64 p0), .d (.int .i64 candidate), .d (.int .i64 x49), .d (.int .i64 p1), .d (.lit (List.map e_i64 xs12)), .d (.lit (List.map e_i64 xs13))]) (B := [.box [.d (.lit (List.map e_i64 x)), .d (.int .i64 x47)]]) (vs := [.agg [.d (.int .i64 x48), .d (.int .i64 p0), .d (.int .i64 candidate), .d (.int .i64 x49), .d (.int .i64 p1), .d (.lit (List.map e_i64 xs12)), .d (.lit (List.map e_i64 xs13))]]) (σ := [0]) (by kernel_rfl) Try.func31 rfl (.cons _ _ _ _ (.agg 6 50 1 0 [.d (.int .i64 x48), .d (.int .i64 p0), .d (.int .i64 candidate), .d (.int .i64 x49), .d (.int .i64 p1), .d (.lit (List.map e_i64 xs12)), .d (.lit (List.map e_i64 xs13))] [.d (.int .i64 x48), .d (.int .i64 p0), .d (.int .i64 candidate), .d (.int .i64 x49), .d (.int .i64 p1), .d (.lit (List.map e_i64 xs12)), .d (.lit (List.map e_i64 xs13))] _ _ _ _ (by kernel_rfl) (by kernel_rfl) Try.underlying50 (by kernel_rfl) ty50 (by kernel_rfl) (by kernel_rfl)) .nil) (by kernel_rfl) (by kernel_rfl) (by kernel_rfl) (by kernel_rfl) (by decide) (by kernel_rfl) (by kernel_rfl)
  · refine oBlock ?_
    refine oLoop ?_
    refine oVirtB (esz := 1) 4 6 (cells := [.d (.int .i64 (IntKind.wrap .i64 ((IntKind.wrap .i64 (p0 * 10000)) + candidate))), .d (.int .i64 p0), .d (.int .i64 candidate), .d (.int .i64 (IntKind.wrap .i64 (1 + r1))), .d (.int .i64 p1), .ref 3 (List.length ([(IntKind.wrap .i64 ((IntKind.wrap .i64 (100 * candidate)) + p0)), r11] : List Int)) 0 (List.length ([(IntKind.wrap .i64 ((IntKind.wrap .i64 (100 * candidate)) + p0)), r11] : List Int)), .nilc]) (by kernel_rfl) (by kernel_rfl) ?_
    refine oView (H' := [.box [.d (.lit (List.map e_i64 x)), .d (.int .i64 x61)], .box [.d (.int .i64 p0), .d (.int .i64 p1), .d (.lit (List.map e_SPart p2))], .box [.d (.int .i64 0), .d (.int .i64 0), .d (.int .i64 0), .d (.int .i64 0), .d (.int .i64 0), .nilc, .nilc], .sl 1 (List.map e_i64 ([(IntKind.wrap .i64 ((IntKind.wrap .i64 (100 * candidate)) + p0)), r11] : List Int)) false, .box [.d (.int .i64 (IntKind.wrap .i64 ((IntKind.wrap .i64 (p0 * 10000)) + candidate))), .d (.int .i64 p0), .d (.int .i64 candidate), .d (.int .i64 (IntKind.wrap .i64 (1 + r1))), .d (.int .i64 p1), .ref 3 (List.length ([(IntKind.wrap .i64 ((IntKind.wrap .i64 (100 * candidate)) + p0)), r11] : List Int)) 0 (List.length ([(IntKind.wrap .i64 ((IntKind.wrap .i64 (100 * candidate)) + p0)), r11] : List Int)), .ref 5 (List.length ([] : List Int)) 0 (List.length ([] : List Int))], .sl 1 (List.map e_i64 ([] : List Int)) false]) rfl (by kernel_rfl) ?_
    refine oHead [0, 4, 6, 7, 8] [0, 1, 2, 4, 3, 5] (T' := [(0, .ptr 0 0), (4, .ptr 1 0), (6, .ptr 2 0), (7, .ptr 3 0), (8, .d (.int .i64 0))]) (H' := [.box [.d (.lit (List.map e_i64 x)), .d (.int .i64 x61)], .box [.d (.int .i64 p0), .d (.int .i64 p1), .d (.lit (List.map e_SPart p2))], .box [.d (.int .i64 0), .d (.int .i64 0), .d (.int .i64 0), .d (.int .i64 0), .d (.int .i64 0), .nilc, .nilc], .box [.d (.int .i64 (IntKind.wrap .i64 ((IntKind.wrap .i64 (p0 * 10000)) + candidate))), .d (.int .i64 p0), .d (.int .i64 candidate), .d (.int .i64 (IntKind.wrap .i64 (1 + r1))), .d (.int .i64 p1), .ref 4 (List.length ([(IntKind.wrap .i64 ((IntKind.wrap .i64 (100 * candidate)) + p0)), r11] : List Int)) 0 (List.length ([(IntKind.wrap .i64 ((IntKind.wrap .i64 (100 * candidate)) + p0)), r11] : List Int)), .ref 5 (List.length ([] : List Int)) 0 (List.length ([] : List Int))], .sl 1 (List.map e_i64 ([(IntKind.wrap .i64 ((IntKind.wrap .i64 (100 * candidate)) + p0)), r11] : List Int)) false, .sl 1 (List.map e_i64 ([] : List Int)) false]) (by kernel_rfl) (by kernel_rfl) (by kernel_rfl) (by kernel_rfl) (by decide) (by kernel_rfl) (by kernel_rfl) ?_
    refine bLoop (body := mark_Dice_Script_b1 k p2 x) ((uc fun (x56 : Int) => (uc fun (x57 : Int) => (uc fun (x58 : Int) => (uc fun (x59 : Int) => (uc fun (xs15 : (List Int)) => (fun (xs16 : (List Int)) => [(0, .ptr 0 0), (4, .ptr 1 0), (6, .ptr 2 0), (7, .ptr 3 0), (8, .d (.int .i64 x56))]))))))) ((uc fun (x56 : Int) => (uc fun (x57 : Int) => (uc fun (x58 : Int) => (uc fun (x59 : Int) => (uc fun (xs15 : (List Int)) => (fun (xs16 : (List Int)) => [.box [.d (.lit (List.map e_i64 x)), .d (.int .i64 x57)], .box [.d (.int .i64 p0), .d (.int .i64 p1), .d (.lit (List.map e_SPart p2))], .box [.d (.int .i64 0), .d (.int .i64 0), .d (.int .i64 0), .d (.int .i64 0), .d (.int .i64 0), .nilc, .nilc], .box [.d (.int .i64 x58), .d (.int .i64 p0), .d (.int .i64 candidate), .d (.int .i64 x59), .d (.int .i64 p1), .ref 4 (List.length xs15) 0 (List.length xs15), .ref 5 (List.length xs16) 0 (List.length xs16)], .sl 1 (List.map e_i64 xs15) false, .sl 1 (List.map e_i64 xs16) false]))))))) (fun again hag1 s => ?_) k (0, x61, (IntKind.wrap .i64 ((IntKind.wrap .i64 (p0 * 10000)) + candidate)), (IntKind.wrap .i64 (1 + r1)), ([(IntKind.wrap .i64 ((IntKind.wrap .i64 (100 * candidate)) + p0)), r11] : List Int), ([] : List Int))
    · unfold mark_Dice_Script_b1
      obtain ⟨x56, x57, x58, x59, xs15, xs16⟩ := s
      refine bUc ?_
      refine bUc ?_
      refine bUc ?_
      refine bUc ?_
      refine bUc ?_
      refine oView (T' := [(0, .ptr 0 0), (4, .ptr 1 0), (6, .ptr 2 0), (7, .ptr 3 0), (8, .d (.int .i64 x56))]) (H' := [.box [.d (.lit (List.map e_i64 x)), .d (.int .i64 x57)], .box [.d (.int .i64 p0), .d (.int .i64 p1), .d (.lit (List.map e_SPart p2))], .box [.d (.int .i64 0), .d (.int .i64 0), .d (.int .i64 0), .d (.int .i64 0), .d (.int .i64 0), .nilc, .nilc], .box [.d (.int .i64 x58), .d (.int .i64 p0), .d (.int .i64 candidate), .d (.int .i64 x59), .d (.int .i64 p1), .ref 4 (List.length xs15) 0 (List.length xs15), .ref 5 (List.length xs16) 0 (List.length xs16)], .sl 1 (List.map e_i64 xs15) false, .sl 1 (List.map e_i64 xs16) false]) (by kernel_rfl) (by kernel_rfl) ?_
      refine oSeq ?_
      refine oSeq ?_
      refine oRegion rfl ?_
      refine oOp (.d (.int .i64 x56)) (by kernel_rfl) (by kernel_rfl) (PureV.does (p_move (by kernel_rfl))) ?_
      refine oOp (.ptr 1 2) (by kernel_rfl) (by kernel_rfl) (PureV.does (k_fieldAddr 1 0 (by kernel_rfl) Try.underlying71 rfl ty69 (by kernel_rfl))) ?_
      refine oOp (.d (.lit (List.map e_SPart p2))) (by kernel_rfl) (by kernel_rfl) (Quiet.does (k_load 1 2 (by kernel_rfl) Try.underlying69 (by kernel_rfl) (by kernel_rfl))) ?_
      refine oOp (.d (.int .i64 ((List.length p2) : Int))) (by kernel_rfl) (by kernel_rfl) (PureV.does (k_lenLit (enc := e_SPart) p2 (by kernel_rfl) Try.underlying69)) ?_
      refine oOp (.d (.bool (decide (x56 < ((List.length p2) : Int))))) (by kernel_rfl) (by kernel_rfl) (PureV.does (p_int (k := .i64) (p := x56) (q := ((List.length p2) : Int)) (by kernel_rfl) (by kernel_rfl) (by kernel_rfl))) ?_
      refine oEnd ?_
      refine bSplit 36 (by kernel_rfl) (fun hc => ?_) (fun hc => ?_)
      · refine oCondT (by kernel_rfl) ?_
        refine oSkip ?_
        refine oSeq ?_
        refine oBlock ?_
        refine oSeq ?_
        refine oRegion rfl ?_
        refine oOp (.d (.int .i64 (-1))) (by kernel_rfl) (by kernel_rfl) (PureV.does (p_assign (by kernel_rfl))) ?_
        refine oEnd ?_
        refine oSeq ?_
        refine oSeq ?_
        refine oRegion rfl ?_
        refine oOp (.ptr 1 2) (by kernel_rfl) (by kernel_rfl) (PureV.does (k_fieldAddr 1 0 (by kernel_rfl) Try.underlying71 rfl ty69 (by kernel_rfl))) ?_
        refine oOp (.d (.lit (List.map e_SPart p2))) (by kernel_rfl) (by kernel_rfl) (Quiet.does (k_load 1 2 (by kernel_rfl) Try.underlying69 (by kernel_rfl) (by kernel_rfl))) ?_
        refine oOp (.d (.int .i64 x56)) (by kernel_rfl) (by kernel_rfl) (PureV.does (p_move (by kernel_rfl))) ?_
        refine bIdx (fun e113 h139 h140 => ?_)
        refine oOp (.lptr (e_SPart e113) 0) (by kernel_rfl) (by kernel_rfl) (PureV.does (k_idxLit e_SPart_len p2 (a := e113) (by kernel_rfl) (k := .i64) (i := x56) (by kernel_rfl) Try.underlying69 ty85 h139 h140)) ?_
        refine oOp (.lptr (e_SPart e113) 0) (by kernel_rfl) (by kernel_rfl) (PureV.does (k_fieldAddrL (cells := e_SPart e113) 0 (by kernel_rfl) Try.underlying85 rfl ty3 (by kernel_rfl))) ?_
        refine oOp (.d (.int .i64 e113.Kind)) (by kernel_rfl) (by kernel_rfl) (Quiet.does (k_loadL (cells := e_SPart e113) 0 (by kernel_rfl) Try.underlying3 (by kernel_rfl) (by kernel_rfl))) ?_
        refine oOp (.d (.bool (e113.Kind == 2))) (by kernel_rfl) (by kernel_rfl) (PureV.does (p_int (k := .i64) (p := e113.Kind) (q := 2) (by kernel_rfl) (by kernel_rfl) (by kernel_rfl))) ?_
        refine oEnd ?_
        refine bJoin ((uc fun (x71 : Int) => (fun (x72 : Int) => [(0, .ptr 0 0), (4, .ptr 1 0), (6, .ptr 2 0), (7, .ptr 3 0), (8, .d (.int .i64 x56)), (9, .d (.int .i64 x71))]))) ((uc fun (x71 : Int) => (fun (x72 : Int) => [.box [.d (.lit (List.map e_i64 x)), .d (.int .i64 x72)], .box [.d (.int .i64 p0), .d (.int .i64 p1), .d (.lit (List.map e_SPart p2))], .box [.d (.int .i64 0), .d (.int .i64 0), .d (.int .i64 0), .d (.int .i64 0), .d (.int .i64 0), .nilc, .nilc], .box [.d (.int .i64 x58), .d (.int .i64 p0), .d (.int .i64 candidate), .d (.int .i64 x59), .d (.int .i64 p1), .ref 4 (List.length xs15) 0 (List.length xs15), .ref 5 (List.length xs16) 0 (List.length xs16)], .sl 1 (List.map e_i64 xs15) false, .sl 1 (List.map e_i64 xs16) false]))) (fun s => s) (fun s => ?_) (fun hj16 => ?_)
        · obtain ⟨x71, x72⟩ := s
          refine bUc ?_
          refine oView (T' := [(0, .ptr 0 0), (4, .ptr 1 0), (6, .ptr 2 0), (7, .ptr 3 0), (8, .d (.int .i64 x56)), (9, .d (.int .i64 x71))]) (H' := [.box [.d (.lit (List.map e_i64 x)), .d (.int .i64 x72)], .box [.d (.int .i64 p0), .d (.int .i64 p1), .d (.lit (List.map e_SPart p2))], .box [.d (.int .i64 0), .d (.int .i64 0), .d (.int .i64 0), .d (.int .i64 0), .d (.int .i64 0), .nilc, .nilc], .box [.d (.int .i64 x58), .d (.int .i64 p0), .d (.int .i64 candidate), .d (.int .i64 x59), .d (.int .i64 p1), .ref 4 (List.length xs15) 0 (List.length xs15), .ref 5 (List.length xs16) 0 (List.length xs16)], .sl 1 (List.map e_i64 xs15) false, .sl 1 (List.map e_i64 xs16) false]) (by kernel_rfl) (by kernel_rfl) ?_
          refine oRegion rfl ?_
          refine oOp (.ptr 3 6) (by kernel_rfl) (by kernel_rfl) (PureV.does (k_fieldAddr 3 0 (by kernel_rfl) Try.underlying50 rfl ty22 (by kernel_rfl))) ?_
          refine oOp (.ref 5 (List.length xs16) 0 (List.length xs16)) (by kernel_rfl) (by kernel_rfl) (Quiet.does (k_load 3 6 (by kernel_rfl) Try.underlying22 (by kernel_rfl) (by kernel_rfl))) ?_
          refine oOp (.d (.int .i64 x71)) (by kernel_rfl) (by kernel_rfl) (PureV.does (p_move (by kernel_rfl))) ?_
          refine oOp (.ref 6 (List.length ([x71] : List Int)) 0 (List.length ([x71] : List Int))) (by kernel_rfl) (by kernel_rfl) (k_buildSlice (H' := [.box [.d (.lit (List.map e_i64 x)), .d (.int .i64 x72)], .box [.d (.int .i64 p0), .d (.int .i64 p1), .d (.lit (List.map e_SPart p2))], .box [.d (.int .i64 0), .d (.int .i64 0), .d (.int .i64 0), .d (.int .i64 0), .d (.int .i64 0), .nilc, .nilc], .box [.d (.int .i64 x58), .d (.int .i64 p0), .d (.int .i64 candidate), .d (.int .i64 x59), .d (.int .i64 p1), .ref 4 (List.length xs15) 0 (List.length xs15), .ref 5 (List.length xs16) 0 (List.length xs16)], .sl 1 (List.map e_i64 xs15) false, .sl 1 (List.map e_i64 xs16) false, .sl 1 (List.map e_i64 ([x71] : List Int)) false]) (List.map e_i64 ([x71] : List Int)) Try.underlying22 ty3 (by kernel_rfl) (by kernel_rfl) (by kernel_rfl)) ?_
          refine bCap (fun h141 => ?_)
          refine oOp (.ref 5 (List.length (xs16 ++ ([x71] : List Int))) 0 (List.length (xs16 ++ ([x71] : List Int)))) (by kernel_rfl) (by kernel_rfl) (k_append (H' := [.box [.d (.lit (List.map e_i64 x)), .d (.int .i64 x72)], .box [.d (.int .i64 p0), .d (.int .i64 p1), .d (.lit (List.map e_SPart p2))], .box [.d (.int .i64 0), .d (.int .i64 0), .d (.int .i64 0), .d (.int .i64 0), .d (.int .i64 0), .nilc, .nilc], .box [.d (.int .i64 x58), .d (.int .i64 p0), .d (.int .i64 candidate), .d (.int .i64 x59), .d (.int .i64 p1), .ref 4 (List.length xs15) 0 (List.length xs15), .ref 5 (List.length xs16) 0 (List.length xs16)], .sl 1 (List.map e_i64 xs15) false, .sl 1 (List.map e_i64 (xs16 ++ ([x71] : List Int))) false, .sl 1 (List.map e_i64 ([x71] : List Int)) false]) (enc := e_i64) 5 xs16 ([x71] : List Int) Try.underlying22 Try.underlying22 ty3 (by kernel_rfl) (by kernel_rfl) (by kernel_rfl) (holdsRef (enc := e_i64) 6 ([x71] : List Int) false (by kernel_rfl) (by kernel_rfl)) h141 (by kernel_rfl)) ?_
          refine oOp (.ptr 3 6) (by kernel_rfl) (by kernel_rfl) (PureV.does (k_fieldAddr 3 0 (by kernel_rfl) Try.underlying50 rfl ty22 (by kernel_rfl))) ?_
          refine oOp (.undef) (by kernel_rfl) (by kernel_rfl) (k_store (vs := [.ref 5 (List.length (xs16 ++ ([x71] : List Int))) 0 (List.length (xs16 ++ ([x71] : List Int)))]) (H' := [.box [.d (.lit (List.map e_i64 x)), .d (.int .i64 x72)], .box [.d (.int .i64 p0), .d (.int .i64 p1), .d (.lit (List.map e_SPart p2))], .box [.d (.int .i64 0), .d (.int .i64 0), .d (.int .i64 0), .d (.int .i64 0), .d (.int .i64 0), .nilc, .nilc], .box [.d (.int .i64 x58), .d (.int .i64 p0), .d (.int .i64 candidate), .d (.int .i64 x59), .d (.int .i64 p1), .ref 4 (List.length xs15) 0 (List.length xs15), .ref 5 (List.length (xs16 ++ ([x71] : List Int))) 0 (List.length (xs16 ++ ([x71] : List Int)))], .sl 1 (List.map e_i64 xs15) false, .sl 1 (List.map e_i64 (xs16 ++ ([x71] : List Int))) false, .sl 1 (List.map e_i64 ([x71] : List Int)) false]) 3 6 (by kernel_rfl) ty22 (by kernel_rfl) (by kernel_rfl) (by kernel_rfl)) ?_
          refine oEnd ?_
          refine oBlk ?_
          refine oRegion rfl ?_
          refine oOp (.d (.int .i64 x56)) (by kernel_rfl) (by kernel_rfl) (PureV.does (p_move (by kernel_rfl))) ?_
          refine oOp (.d (.int .i64 (IntKind.wrap .i64 (x56 + 1)))) (by kernel_rfl) (by kernel_rfl) (PureV.does (p_int (k := .i64) (p := x56) (q := 1) (by kernel_rfl) (by kernel_rfl) (by kernel_rfl))) ?_
          refine oOp (.d (.int .i64 (IntKind.wrap .i64 (x56 + 1)))) (by kernel_rfl) (by kernel_rfl) (PureV.does (p_assign (by kernel_rfl))) ?_
          refine oEnd ?_
          refine oAgain ?_
          refine oHead [0, 4, 6, 7, 8] [0, 1, 2, 3, 4, 5] (T' := [(0, .ptr 0 0), (4, .ptr 1 0), (6, .ptr 2 0), (7, .ptr 3 0), (8, .d (.int .i64 (IntKind.wrap .i64 (x56 + 1))))]) (H' := [.box [.d (.lit (List.map e_i64 x)), .d (.int .i64 x72)], .box [.d (.int .i64 p0), .d (.int .i64 p1), .d (.lit (List.map e_SPart p2))], .box [.d (.int .i64 0), .d (.int .i64 0), .d (.int .i64 0), .d (.int .i64 0), .d (.int .i64 0), .nilc, .nilc], .box [.d (.int .i64 x58), .d (.int .i64 p0), .d (.int .i64 candidate), .d (.int .i64 x59), .d (.int .i64 p1), .ref 4 (List.length xs15) 0 (List.length xs15), .ref 5 (List.length (xs16 ++ ([x71] : List Int))) 0 (List.length (xs16 ++ ([x71] : List Int)))], .sl 1 (List.map e_i64 xs15) false, .sl 1 (List.map e_i64 (xs16 ++ ([x71] : List Int))) false]) (by kernel_rfl) (by kernel_rfl) (by kernel_rfl) (by kernel_rfl) (by decide) (by kernel_rfl) (by kernel_rfl) ?_
          exact hag1 ((IntKind.wrap .i64 (x56 + 1)), x72, x58, x59, xs15, (xs16 ++ ([x71] : List Int)))
        · refine bSplit 45 (by kernel_rfl) (fun hc => ?_) (fun hc => ?_)
          · refine oCondT (by kernel_rfl) ?_
            refine oRegion rfl ?_
            refine oOp (.ptr 0 0) (by kernel_rfl) (by kernel_rfl) (PureV.does (p_move (by kernel_rfl))) ?_
            refine oOp (.ptr 1 2) (by kernel_rfl) (by kernel_rfl) (PureV.does (k_fieldAddr 1 0 (by kernel_rfl) Try.underlying71 rfl ty69 (by kernel_rfl))) ?_
            refine oOp (.d (.lit (List.map e_SPart p2))) (by kernel_rfl) (by kernel_rfl) (Quiet.does (k_load 1 2 (by kernel_rfl) Try.underlying69 (by kernel_rfl) (by kernel_rfl))) ?_
            refine oOp (.d (.int .i64 x56)) (by kernel_rfl) (by kernel_rfl) (PureV.does (p_move (by kernel_rfl))) ?_
            refine oOp (.lptr (e_SPart e113) 0) (by kernel_rfl) (by kernel_rfl) (PureV.does (k_idxLit e_SPart_len p2 (a := e113) (by kernel_rfl) (k := .i64) (i := x56) (by kernel_rfl) Try.underlying69 ty85 h139 h140)) ?_
            refine oOp (.lptr (e_SPart e113) 5) (by kernel_rfl) (by kernel_rfl) (PureV.does (k_fieldAddrL (cells := e_SPart e113) 0 (by kernel_rfl) Try.underlying85 rfl ty3 (by kernel_rfl))) ?_
            refine oOp (.d (.int .i64 e113.Key)) (by kernel_rfl) (by kernel_rfl) (Quiet.does (k_loadL (cells := e_SPart e113) 5 (by kernel_rfl) Try.underlying3 (by kernel_rfl) (by kernel_rfl))) ?_
            refine oOp (.ref 6 (List.length ([e113.Key, 0, 1, (-1), (-2)] : List Int)) 0 (List.length ([e113.Key, 0, 1, (-1), (-2)] : List Int))) (by kernel_rfl) (by kernel_rfl) (k_buildSlice (H' := [.box [.d (.lit (List.map e_i64 x)), .d (.int .i64 x57)], .box [.d (.int .i64 p0), .d (.int .i64 p1), .d (.lit (List.map e_SPart p2))], .box [.d (.int .i64 0), .d (.int .i64 0), .d (.int .i64 0), .d (.int .i64 0), .d (.int .i64 0), .nilc, .nilc], .box [.d (.int .i64 x58), .d (.int .i64 p0), .d (.int .i64 candidate), .d (.int .i64 x59), .d (.int .i64 p1), .ref 4 (List.length xs15) 0 (List.length xs15), .ref 5 (List.length xs16) 0 (List.length xs16)], .sl 1 (List.map e_i64 xs15) false, .sl 1 (List.map e_i64 xs16) false, .sl 1 (List.map e_i64 ([e113.Key, 0, 1, (-1), (-2)] : List Int)) false]) (List.map e_i64 ([e113.Key, 0, 1, (-1), (-2)] : List Int)) Try.underlying22 ty3 (by kernel_rfl) (by kernel_rfl) (by kernel_rfl)) ?_
            refine oFreeze 6 (esz := 1) (xs := List.map e_i64 ([e113.Key, 0, 1, (-1), (-2)] : List Int)) (by kernel_rfl) ?_
            refine oView (H' := [.box [.d (.lit (List.map e_i64 x)), .d (.int .i64 x57)], .box [.d (.int .i64 p0), .d (.int .i64 p1), .d (.lit (List.map e_SPart p2))], .box [.d (.int .i64 0), .d (.int .i64 0), .d (.int .i64 0), .d (.int .i64 0), .d (.int .i64 0), .nilc, .nilc], .box [.d (.int .i64 x58), .d (.int .i64 p0), .d (.int .i64 candidate), .d (.int .i64 x59), .d (.int .i64 p1), .ref 4 (List.length xs15) 0 (List.length xs15), .ref 5 (List.length xs16) 0 (List.length xs16)], .sl 1 (List.map e_i64 xs15) false, .sl 1 (List.map e_i64 xs16) false, .sl 1 (List.map e_i64 ([e113.Key, 0, 1, (-1), (-2)] : List Int)) true]) rfl (by kernel_rfl) ?_
            refine bCall (caps := []) (v := (uc fun (r1115 : Int) => (fun (x220 : Int) => (.d (.int .i64 r1115) : V)))) (H' := (uc fun (r1115 : Int) => (fun (x220 : Int) => ([.box [.d (.lit (List.map e_i64 x)), .d (.int .i64 x220)], .box [.d (.int .i64 p0), .d (.int .i64 p1), .d (.lit (List.map e_SPart p2))], .box [.d (.int .i64 0), .d (.int .i64 0), .d (.int .i64 0), .d (.int .i64 0), .d (.int .i64 0), .nilc, .nilc], .box [.d (.int .i64 x58), .d (.int .i64 p0), .d (.int .i64 candidate), .d (.int .i64 x59), .d (.int .i64 p1), .ref 4 (List.length xs15) 0 (List.length xs15), .ref 5 (List.length xs16) 0 (List.length xs16)], .sl 1 (List.map e_i64 xs15) false, .sl 1 (List.map e_i64 xs16) false, .sl 1 (List.map e_i64 ([e113.Key, 0, 1, (-1), (-2)] : List Int)) true] : List Blk)))) [0] _ (mark_Dice_Pick_goes k ([e113.Key, 0, 1, (-1), (-2)] : List Int) x x57) (by kernel_rfl) (by kernel_rfl) rfl (by kernel_rfl) Try.func27 rfl (by kernel_rfl) (convList (vs0 := [.ptr 0 0, .ref 6 (List.length ([e113.Key, 0, 1, (-1), (-2)] : List Int)) 0 (List.length ([e113.Key, 0, 1, (-1), (-2)] : List Int))]) (vs := [.ptr 0 0, .d (.lit (List.map e_i64 ([e113.Key, 0, 1, (-1), (-2)] : List Int)))]) (by kernel_rfl) (.cons _ _ _ _ (.same _) (.cons _ _ _ _ (k_lit (enc := e_i64) (sz := 1) 6 ([e113.Key, 0, 1, (-1), (-2)] : List Int) (by kernel_rfl)) .nil))) (by kernel_rfl) (by kernel_rfl) (by kernel_rfl) (by decide) (by kernel_rfl) (by kernel_rfl) (fun _ => (by kernel_rfl)) (fun _ => (by kernel_rfl)) (fun _ => (by kernel_rfl)) (fun r => ?_)
            obtain ⟨r1115, x220⟩ := r
            refine bUc ?_
            refine oOp (.d (.int .i64 r1115)) (by kernel_rfl) (by kernel_rfl) (PureV.does (p_assign (by kernel_rfl))) ?_
            refine oEnd ?_
            refine oHead [0, 4, 6, 7, 8, 9] [0, 1, 2, 3, 4, 5] (T' := [(0, .ptr 0 0), (4, .ptr 1 0), (6, .ptr 2 0), (7, .ptr 3 0), (8, .d (.int .i64 x56)), (9, .d (.int .i64 r1115))]) (H' := [.box [.d (.lit (List.map e_i64 x)), .d (.int .i64 x220)], .box [.d (.int .i64 p0), .d (.int .i64 p1), .d (.lit (List.map e_SPart p2))], .box [.d (.int .i64 0), .d (.int .i64 0), .d (.int .i64 0), .d (.int .i64 0), .d (.int .i64 0), .nilc, .nilc], .box [.d (.int .i64 x58), .d (.int .i64 p0), .d (.int .i64 candidate), .d (.int .i64 x59), .d (.int .i64 p1), .ref 4 (List.length xs15) 0 (List.length xs15), .ref 5 (List.length xs16) 0 (List.length xs16)], .sl 1 (List.map e_i64 xs15) false, .sl 1 (List.map e_i64 xs16) false]) (by kernel_rfl) (by kernel_rfl) (by kernel_rfl) (by kernel_rfl) (by decide) (by kernel_rfl) (by kernel_rfl) ?_
            exact hj16 (r1115, x220)
          · refine oCondF (by kernel_rfl) ?_
            refine oSkip ?_
            refine oHead [0, 4, 6, 7, 8, 9] [0, 1, 2, 3, 4, 5] (T' := [(0, .ptr 0 0), (4, .ptr 1 0), (6, .ptr 2 0), (7, .ptr 3 0), (8, .d (.int .i64 x56)), (9, .d (.int .i64 (-1)))]) (H' := [.box [.d (.lit (List.map e_i64 x)), .d (.int .i64 x57)], .box [.d (.int .i64 p0), .d (.int .i64 p1), .d (.lit (List.map e_SPart p2))], .box [.d (.int .i64 0), .d (.int .i64 0), .d (.int .i64 0), .d (.int .i64 0), .d (.int .i64 0), .nilc, .nilc], .box [.d (.int .i64 x58), .d (.int .i64 p0), .d (.int .i64 candidate), .d (.int .i64 x59), .d (.int .i64 p1), .ref 4 (List.length xs15) 0 (List.length xs15), .ref 5 (List.length xs16) 0 (List.length xs16)], .sl 1 (List.map e_i64 xs15) false, .sl 1 (List.map e_i64 xs16) false]) (by kernel_rfl) (by kernel_rfl) (by kernel_rfl) (by kernel_rfl) (by decide) (by kernel_rfl) (by kernel_rfl) ?_
            exact hj16 ((-1), x57)
      · refine oCondF (by kernel_rfl) ?_
        refine oExit rfl ?_
        refine oHead [6, 7] [0, 2, 3, 4, 5] (T' := [(6, .ptr 1 0), (7, .ptr 2 0)]) (H' := [.box [.d (.lit (List.map e_i64 x)), .d (.int .i64 x57)], .box [.d (.int .i64 0), .d (.int .i64 0), .d (.int .i64 0), .d (.int .i64 0), .d (.int .i64 0), .nilc, .nilc], .box [.d (.int .i64 x58), .d (.int .i64 p0), .d (.int .i64 candidate), .d (.int .i64 x59), .d (.int .i64 p1), .ref 3 (List.length xs15) 0 (List.length xs15), .ref 4 (List.length xs16) 0 (List.length xs16)], .sl 1 (List.map e_i64 xs15) false, .sl 1 (List.map e_i64 xs16) false]) (by kernel_rfl) (by kernel_rfl) (by kernel_rfl) (by kernel_rfl) (by decide) (by kernel_rfl) (by kernel_rfl) ?_
        exact hj10 (x57, x58, x59, xs15, xs16)

/-- (*awardingbody/awardingbodymark.Dice).Scripts -/
def mark_Dice_Scripts_b2 (k : Nat) (n : Int) (x : (List Int)) (xs142 : (List SPaper)) (again : Int × Int × (List SScript) → Option (Int × (List SScript))) : Int × Int × (List SScript) → Option (Int × (List SScript)) := uc fun x178 => uc fun x179 => fun xs149 => blet ((decide (x178 ≤ n)) && (decide (((List.length xs142) : Int) > 0))) fun x184 => bif x184 then Option.bind (Option.bind (mark_Dice_Next k 5 x x179) (uc fun r1100 => fun x662 => bif (decide (r1100 > 0)) then Option.bind (mark_Dice_Next k ((List.length xs142) : Int) x x662) (uc fun r1101 => fun x663 => gidx xs142 r1101 fun e159 => Option.bind (mark_Dice_Script k e159.Code e159.Variant e159.Parts x178 x x663) (uc fun r1233 => uc fun r1332 => uc fun r1431 => uc fun r1531 => fun x2831 => gcap (List.length (xs149 ++ ([(⟨r1233, e159.Code, x178, r1332, e159.Variant, r1431, r1531⟩ : SScript)] : List SScript))) 88 (some (x2831, (xs149 ++ ([(⟨r1233, e159.Code, x178, r1332, e159.Variant, r1431, r1531⟩ : SScript)] : List SScript)))))) else some (x662, xs149)) : Option (Int × (List SScript))) (uc fun x185 => fun xs152 => again ((IntKind.wrap .i64 (x178 + 1)), x185, xs152)) else some (x179, xs149)
def mark_Dice_Scripts_b3 (k : Nat) (p : (List SPaper)) (c4 : Int) (again : Int × (List SPaper) → Option ((List SPaper))) : Int × (List SPaper) → Option ((List SPaper)) := uc fun x186 => fun xs154 => bif (decide (x186 < ((List.length p) : Int))) then Option.bind (gidx p x186 fun e163 => bif (e163.Code == c4) then gcap (List.length (xs154 ++ ([e163] : List SPaper))) 40 (some (xs154 ++ ([e163] : List SPaper))) else some xs154 : Option ((List SPaper))) (fun xs157 => again ((IntKind.wrap .i64 (x186 + 1)), xs157)) else some xs154
def mark_Dice_Scripts_b1 (k : Nat) (p : (List SPaper)) (n : Int) (x : (List Int)) (again : Int × Int × (List SScript) → Option (Int × (List SScript))) : Int × Int × (List SScript) → Option (Int × (List SScript)) := uc fun c4 => uc fun x130 => fun xs106 => bif (decide (c4 < 2)) then Option.bind (gloop (mark_Dice_Scripts_b3 k p c4) k (0, ([] : List SPaper)) : Option ((List SPaper))) (fun xs142 => Option.bind (gloop (mark_Dice_Scripts_b2 k n x xs142) k (1, x130, xs106) : Option (Int × (List SScript))) (uc fun x175 => fun xs147 => again ((IntKind.wrap .i64 (c4 + 1)), x175, xs147))) else some (x130, xs106)
def mark_Dice_Scripts (k : Nat) (p : (List SPaper)) (n : Int) (x : (List Int)) (x1 : Int) : Option ((List SScript) × Int) := Option.bind (gloop (mark_Dice_Scripts_b1 k p n x) k (0, x1, ([] : List SScript)) : Option (Int × (List SScript))) (uc fun x107 => fun xs85 => some (xs85, x107))
def mark_Dice_Scripts_E (p : (List SPaper)) (n : Int) (x : (List Int)) (x1 : Int) : (List SScript) × Int → V × List Blk := uc fun r120 => fun x51 => (.d (.lit (List.map e_SScript r120)), [.box [.d (.lit (List.map e_i64 x)), .d (.int .i64 x51)]])
theorem mark_Dice_Scripts_goes (k : Nat) (p : (List SPaper)) (n : Int) (x : (List Int)) (x1 : Int) : RunsO Try.prog 17 [.ptr 0 0, .d (.lit (List.map e_SPaper p)), .d (.int .i64 n)] [.box [.d (.lit (List.map e_i64 x)), .d (.int .i64 x1)]] (mark_Dice_Scripts_E p n x x1) (mark_Dice_Scripts k p n x x1) := by
  refine RunsO.of_goes (N := 63) (m := 1) (T := [(0, .ptr 0 0), (1, .d (.lit (List.map e_SPaper p))), (2, .d (.int .i64 n))]) Try.func17 rfl rfl (by kernel_rfl) (by kernel_rfl) (by kernel_rfl) ?_
  unfold mark_Dice_Scripts
  refine bStart ?_
  refine oSeq ?_
  refine oRegion rfl ?_
  refine oOp (.nilc) (by kernel_rfl) (by kernel_rfl) (PureV.does (p_assign (by kernel_rfl))) ?_
  refine oEnd ?_
  refine oSeq ?_
  refine oRegion rfl ?_
  refine oOp (.nilc) (by kernel_rfl) (by kernel_rfl) (PureV.does (p_assign (by kernel_rfl))) ?_
  refine oEnd ?_
  refine oSeq ?_
  refine oSeq ?_
  refine oRegion rfl ?_
  refine oOp (.d (.int .i64 0)) (by kernel_rfl) (by kernel_rfl) (PureV.does (p_assign (by kernel_rfl))) ?_
  refine oEnd ?_
  refine bJoin ((uc fun (x107 : Int) => (fun (xs85 : (List SScript)) => [(7, .ref 1 (List.length xs85) 0 (List.length xs85))]))) ((uc fun (x107 : Int) => (fun (xs85 : (List SScript)) => [.box [.d (.lit (List.map e_i64 x)), .d (.int .i64 x107)], .sl 7 (List.map e_SScript xs85) false]))) (fun s => s) (fun s => ?_) (fun hj50 => ?_)
  · obtain ⟨x107, xs85⟩ := s
    refine bUc ?_
    refine oView (T' := [(7, .ref 1 (List.length xs85) 0 (List.length xs85))]) (H' := [.box [.d (.lit (List.map e_i64 x)), .d (.int .i64 x107)], .sl 7 (List.map e_SScript xs85) false]) (by kernel_rfl) (by kernel_rfl) ?_
    refine oSeq ?_
    refine oRegion rfl ?_
    refine oOp (.ref 1 (List.length xs85) 0 (List.length xs85)) (by kernel_rfl) (by kernel_rfl) (PureV.does (p_move (by kernel_rfl))) ?_
    refine oOp (.ref 1 (List.length xs85) 0 (List.length xs85)) (by kernel_rfl) (by kernel_rfl) (PureV.does (p_assign (by kernel_rfl))) ?_
    refine oEnd ?_
    refine oFreeze 1 (esz := 7) (xs := List.map e_SScript xs85) (by kernel_rfl) ?_
    refine oView (H' := [.box [.d (.lit (List.map e_i64 x)), .d (.int .i64 x107)], .sl 7 (List.map e_SScript xs85) true]) rfl (by kernel_rfl) ?_
    refine oConv 6 (v := .ref 1 (List.length xs85) 0 (List.length xs85)) (v' := .d (.lit (List.map e_SScript xs85))) (by kernel_rfl) (k_lit (enc := e_SScript) (sz := 7) 1 xs85 (by kernel_rfl)) ?_
    exact oRet (r0 := (xs85, x107)) (rv := .d (.lit (List.map e_SScript xs85))) (B := [.box [.d (.lit (List.map e_i64 x)), .d (.int .i64 x107)]]) (vs := [.d (.lit (List.map e_SScript xs85))]) (σ := [0]) (by kernel_rfl) Try.func17 rfl (.cons _ _ _ _ (.tmp 6 _ (by kernel_rfl)) .nil) (by kernel_rfl) (by kernel_rfl) (by kernel_rfl) (by kernel_rfl) (by decide) (by kernel_rfl) (by kernel_rfl)
  · refine oBlock ?_
    refine oLoop ?_
    refine oVirt (esz := 7) 7 (by kernel_rfl) ?_
    refine oView (H' := [.box [.d (.lit (List.map e_i64 x)), .d (.int .i64 x1)], .sl 7 (List.map e_SScript ([] : List SScript)) false]) rfl (by kernel_rfl) ?_
    refine oHead [0, 1, 2, 7, 8] [0, 1] (T' := [(0, .ptr 0 0), (1, .d (.lit (List.map e_SPaper p))), (2, .d (.int .i64 n)), (7, .ref 1 (List.length ([] : List SScript)) 0 (List.length ([] : List SScript))), (8, .d (.int .i64 0))]) (H' := [.box [.d (.lit (List.map e_i64 x)), .d (.int .i64 x1)], .sl 7 (List.map e_SScript ([] : List SScript)) false]) (by kernel_rfl) (by kernel_rfl) (by kernel_rfl) (by kernel_rfl) (by decide) (by kernel_rfl) (by kernel_rfl) ?_
    refine bLoop (body := mark_Dice_Scripts_b1 k p n x) ((uc fun (c4 : Int) => (uc fun (x130 : Int) => (fun (xs106 : (List SScript)) => [(0, .ptr 0 0), (1, .d (.lit (List.map e_SPaper p))), (2, .d (.int .i64 n)), (7, .ref 1 (List.length xs106) 0 (List.length xs106)), (8, .d (.int .i64 c4))])))) ((uc fun (c4 : Int) => (uc fun (x130 : Int) => (fun (xs106 : (List SScript)) => [.box [.d (.lit (List.map e_i64 x)), .d (.int .i64 x130)], .sl 7 (List.map e_SScript xs106) false])))) (fun again hag1 s => ?_) k (0, x1, ([] : List SScript))
    · unfold mark_Dice_Scripts_b1
      obtain ⟨c4, x130, xs106⟩ := s
      refine bUc ?_
      refine bUc ?_
      refine oView (T' := [(0, .ptr 0 0), (1, .d (.lit (List.map e_SPaper p))), (2, .d (.int .i64 n)), (7, .ref 1 (List.length xs106) 0 (List.length xs106)), (8, .d (.int .i64 c4))]) (H' := [.box [.d (.lit (List.map e_i64 x)), .d (.int .i64 x130)], .sl 7 (List.map e_SScript xs106) false]) (by kernel_rfl) (by kernel_rfl) ?_
      refine oSeq ?_
      refine oSeq ?_
      refine oRegion rfl ?_
      refine oOp (.d (.int .i64 c4)) (by kernel_rfl) (by kernel_rfl) (PureV.does (p_move (by kernel_rfl))) ?_
      refine oOp (.d (.bool (decide (c4 < 2)))) (by kernel_rfl) (by kernel_rfl) (PureV.does (p_int (k := .i64) (p := c4) (q := 2) (by kernel_rfl) (by kernel_rfl) (by kernel_rfl))) ?_
      refine oEnd ?_
      refine bSplit 13 (by kernel_rfl) (fun hc => ?_) (fun hc => ?_)
      · refine oCondT (by kernel_rfl) ?_
        refine oSkip ?_
        refine oSeq ?_
        refine oBlock ?_
        refine oSeq ?_
        refine oRegion rfl ?_
        refine oOp (.nilc) (by kernel_rfl) (by kernel_rfl) (PureV.does (p_assign (by kernel_rfl))) ?_
        refine oEnd ?_
        refine oSeq ?_
        refine oSeq ?_
        refine oRegion rfl ?_
        refine oOp (.d (.int .i64 0)) (by kernel_rfl) (by kernel_rfl) (PureV.does (p_assign (by kernel_rfl))) ?_
        refine oEnd ?_
        refine bJoin ((fun (xs142 : (List SPaper)) => [(0, .ptr 0 0), (1, .d (.lit (List.map e_SPaper p))), (2, .d (.int .i64 n)), (7, .ref 1 (List.length xs106) 0 (List.length xs106)), (8, .d (.int .i64 c4)), (9, .ref 2 (List.length xs142) 0 (List.length xs142))])) ((fun (xs142 : (List SPaper)) => [.box [.d (.lit (List.map e_i64 x)), .d (.int .i64 x130)], .sl 7 (List.map e_SScript xs106) false, .sl 3 (List.map e_SPaper xs142) false])) (fun s => s) (fun xs142 => ?_) (fun hj83 => ?_)
        · refine oView (T' := [(0, .ptr 0 0), (1, .d (.lit (List.map e_SPaper p))), (2, .d (.int .i64 n)), (7, .ref 1 (List.length xs106) 0 (List.length xs106)), (8, .d (.int .i64 c4)), (9, .ref 2 (List.length xs142) 0 (List.length xs142))]) (H' := [.box [.d (.lit (List.map e_i64 x)), .d (.int .i64 x130)], .sl 7 (List.map e_SScript xs106) false, .sl 3 (List.map e_SPaper xs142) false]) (by kernel_rfl) (by kernel_rfl) ?_
          refine oSeq ?_
          refine oRegion rfl ?_
          refine oOp (.d (.int .i64 1)) (by kernel_rfl) (by kernel_rfl) (PureV.does (p_assign (by kernel_rfl))) ?_
          refine oEnd ?_
          refine bJoin ((uc fun (x175 : Int) => (fun (xs147 : (List SScript)) => [(0, .ptr 0 0), (1, .d (.lit (List.map e_SPaper p))), (2, .d (.int .i64 n)), (7, .ref 1 (List.length xs147) 0 (List.length xs147)), (8, .d (.int .i64 c4))]))) ((uc fun (x175 : Int) => (fun (xs147 : (List SScript)) => [.box [.d (.lit (List.map e_i64 x)), .d (.int .i64 x175)], .sl 7 (List.map e_SScript xs147) false]))) (fun s => s) (fun s => ?_) (fun hj86 => ?_)
          · obtain ⟨x175, xs147⟩ := s
            refine bUc ?_
            refine oView (T' := [(0, .ptr 0 0), (1, .d (.lit (List.map e_SPaper p))), (2, .d (.int .i64 n)), (7, .ref 1 (List.length xs147) 0 (List.length xs147)), (8, .d (.int .i64 c4))]) (H' := [.box [.d (.lit (List.map e_i64 x)), .d (.int .i64 x175)], .sl 7 (List.map e_SScript xs147) false]) (by kernel_rfl) (by kernel_rfl) ?_
            refine oBlk ?_
            refine oRegion rfl ?_
            refine oOp (.d (.int .i64 c4)) (by kernel_rfl) (by kernel_rfl) (PureV.does (p_move (by kernel_rfl))) ?_
            refine oOp (.d (.int .i64 (IntKind.wrap .i64 (c4 + 1)))) (by kernel_rfl) (by kernel_rfl) (PureV.does (p_int (k := .i64) (p := c4) (q := 1) (by kernel_rfl) (by kernel_rfl) (by kernel_rfl))) ?_
            refine oOp (.d (.int .i64 (IntKind.wrap .i64 (c4 + 1)))) (by kernel_rfl) (by kernel_rfl) (PureV.does (p_assign (by kernel_rfl))) ?_
            refine oEnd ?_
            refine oAgain ?_
            refine oHead [0, 1, 2, 7, 8] [0, 1] (T' := [(0, .ptr 0 0), (1, .d (.lit (List.map e_SPaper p))), (2, .d (.int .i64 n)), (7, .ref 1 (List.length xs147) 0 (List.length xs147)), (8, .d (.int .i64 (IntKind.wrap .i64 (c4 + 1))))]) (H' := [.box [.d (.lit (List.map e_i64 x)), .d (.int .i64 x175)], .sl 7 (List.map e_SScript xs147) false]) (by kernel_rfl) (by kernel_rfl) (by kernel_rfl) (by kernel_rfl) (by decide) (by kernel_rfl) (by kernel_rfl) ?_
            exact hag1 ((IntKind.wrap .i64 (c4 + 1)), x175, xs147)
          · refine oBlock ?_
            refine oLoop ?_
            refine oHead [0, 1, 2, 7, 8, 9, 11] [0, 1, 2] (T' := [(0, .ptr 0 0), (1, .d (.lit (List.map e_SPaper p))), (2, .d (.int .i64 n)), (7, .ref 1 (List.length xs106) 0 (List.length xs106)), (8, .d (.int .i64 c4)), (9, .ref 2 (List.length xs142) 0 (List.length xs142)), (11, .d (.int .i64 1))]) (H' := [.box [.d (.lit (List.map e_i64 x)), .d (.int .i64 x130)], .sl 7 (List.map e_SScript xs106) false, .sl 3 (List.map e_SPaper xs142) false]) (by kernel_rfl) (by kernel_rfl) (by kernel_rfl) (by kernel_rfl) (by decide) (by kernel_rfl) (by kernel_rfl) ?_
            refine bLoop (body := mark_Dice_Scripts_b2 k n x xs142) ((uc fun (x178 : Int) => (uc fun (x179 : Int) => (fun (xs149 : (List SScript)) => [(0, .ptr 0 0), (1, .d (.lit (List.map e_SPaper p))), (2, .d (.int .i64 n)), (7, .ref 1 (List.length xs149) 0 (List.length xs149)), (8, .d (.int .i64 c4)), (9, .ref 2 (List.length xs142) 0 (List.length xs142)), (11, .d (.int .i64 x178))])))) ((uc fun (x178 : Int) => (uc fun (x179 : Int) => (fun (xs149 : (List SScript)) => [.box [.d (.lit (List.map e_i64 x)), .d (.int .i64 x179)], .sl 7 (List.map e_SScript xs149) false, .sl 3 (List.map e_SPaper xs142) false])))) (fun again hag2 s => ?_) k (1, x130, xs106)
            · unfold mark_Dice_Scripts_b2
              obtain ⟨x178, x179, xs149⟩ := s
              refine bUc ?_
              refine bUc ?_
              refine oView (T' := [(0, .ptr 0 0), (1, .d (.lit (List.map e_SPaper p))), (2, .d (.int .i64 n)), (7, .ref 1 (List.length xs149) 0 (List.length xs149)), (8, .d (.int .i64 c4)), (9, .ref 2 (List.length xs142) 0 (List.length xs142)), (11, .d (.int .i64 x178))]) (H' := [.box [.d (.lit (List.map e_i64 x)), .d (.int .i64 x179)], .sl 7 (List.map e_SScript xs149) false, .sl 3 (List.map e_SPaper xs142) false]) (by kernel_rfl) (by kernel_rfl) ?_
              refine oSeq ?_
              refine oSeq ?_
              refine oRegion rfl ?_
              refine oOp (.d (.int .i64 x178)) (by kernel_rfl) (by kernel_rfl) (PureV.does (p_move (by kernel_rfl))) ?_
              refine oOp (.d (.int .i64 n)) (by kernel_rfl) (by kernel_rfl) (PureV.does (p_move (by kernel_rfl))) ?_
              refine oOp (.d (.bool (decide (x178 ≤ n)))) (by kernel_rfl) (by kernel_rfl) (PureV.does (p_int (k := .i64) (p := x178) (q := n) (by kernel_rfl) (by kernel_rfl) (by kernel_rfl))) ?_
              refine oOp (.d (.bool (decide (x178 ≤ n)))) (by kernel_rfl) (by kernel_rfl) (PureV.does (p_move (by kernel_rfl))) ?_
              refine bMeetF (H' := [.box [.d (.lit (List.map e_i64 x)), .d (.int .i64 x179)], .sl 7 (List.map e_SScript xs149) false, .sl 3 (List.map e_SPaper xs142) false]) 4 rfl ((fun (x184 : Bool) => [(0, .ptr 0 0), (1, .d (.lit (List.map e_SPaper p))), (2, .d (.int .i64 n)), (7, .ref 1 (List.length xs149) 0 (List.length xs149)), (8, .d (.int .i64 c4)), (9, .ref 2 (List.length xs142) 0 (List.length xs142)), (11, .d (.int .i64 x178)), (43, .d (.bool x184))])) (fun x184 => ?_) (fun F hj89 => ?_)
              · refine oView (T' := [(0, .ptr 0 0), (1, .d (.lit (List.map e_SPaper p))), (2, .d (.int .i64 n)), (7, .ref 1 (List.length xs149) 0 (List.length xs149)), (8, .d (.int .i64 c4)), (9, .ref 2 (List.length xs142) 0 (List.length xs142)), (11, .d (.int .i64 x178)), (43, .d (.bool x184))]) (H' := [.box [.d (.lit (List.map e_i64 x)), .d (.int .i64 x179)], .sl 7 (List.map e_SScript xs149) false, .sl 3 (List.map e_SPaper xs142) false]) (by kernel_rfl) (by kernel_rfl) ?_
                refine oEnd ?_
                refine bSplit 43 (by kernel_rfl) (fun hc => ?_) (fun hc => ?_)
                · refine oCondT (by kernel_rfl) ?_
                  refine oSkip ?_
                  refine oSeq ?_
                  refine bJoin ((uc fun (x185 : Int) => (fun (xs152 : (List SScript)) => [(0, .ptr 0 0), (1, .d (.lit (List.map e_SPaper p))), (2, .d (.int .i64 n)), (7, .ref 1 (List.length xs152) 0 (List.length xs152)), (8, .d (.int .i64 c4)), (9, .ref 2 (List.length xs142) 0 (List.length xs142)), (11, .d (.int .i64 x178))]))) ((uc fun (x185 : Int) => (fun (xs152 : (List SScript)) => [.box [.d (.lit (List.map e_i64 x)), .d (.int .i64 x185)], .sl 7 (List.map e_SScript xs152) false, .sl 3 (List.map e_SPaper xs142) false]))) (fun s => s) (fun s => ?_) (fun hj90 => ?_)
                  · obtain ⟨x185, xs152⟩ := s
                    refine bUc ?_
                    refine oView (T' := [(0, .ptr 0 0), (1, .d (.lit (List.map e_SPaper p))), (2, .d (.int .i64 n)), (7, .ref 1 (List.length xs152) 0 (List.length xs152)), (8, .d (.int .i64 c4)), (9, .ref 2 (List.length xs142) 0 (List.length xs142)), (11, .d (.int .i64 x178))]) (H' := [.box [.d (.lit (List.map e_i64 x)), .d (.int .i64 x185)], .sl 7 (List.map e_SScript xs152) false, .sl 3 (List.map e_SPaper xs142) false]) (by kernel_rfl) (by kernel_rfl) ?_
                    refine oRegion rfl ?_
                    refine oOp (.d (.int .i64 x178)) (by kernel_rfl) (by kernel_rfl) (PureV.does (p_move (by kernel_rfl))) ?_
                    refine oOp (.d (.int .i64 (IntKind.wrap .i64 (x178 + 1)))) (by kernel_rfl) (by kernel_rfl) (PureV.does (p_int (k := .i64) (p := x178) (q := 1) (by kernel_rfl) (by kernel_rfl) (by kernel_rfl))) ?_
                    refine oOp (.d (.int .i64 (IntKind.wrap .i64 (x178 + 1)))) (by kernel_rfl) (by kernel_rfl) (PureV.does (p_assign (by kernel_rfl))) ?_
                    refine oEnd ?_
                    refine oAgain ?_
                    refine oHead [0, 1, 2, 7, 8, 9, 11] [0, 1, 2] (T' := [(0, .ptr 0 0), (1, .d (.lit (List.map e_SPaper p))), (2, .d (.int .i64 n)), (7, .ref 1 (List.length xs152) 0 (List.length xs152)), (8, .d (.int .i64 c4)), (9, .ref 2 (List.length xs142) 0 (List.length xs142)), (11, .d (.int .i64 (IntKind.wrap .i64 (x178 + 1))))]) (H' := [.box [.d (.lit (List.map e_i64 x)), .d (.int .i64 x185)], .sl 7 (List.map e_SScript xs152) false, .sl 3 (List.map e_SPaper xs142) false]) (by kernel_rfl) (by kernel_rfl) (by kernel_rfl) (by kernel_rfl) (by decide) (by kernel_rfl) (by kernel_rfl) ?_
                    exact hag2 ((IntKind.wrap .i64 (x178 + 1)), x185, xs152)
                  · refine oBlock ?_
                    refine oSeq ?_
                    refine oRegion rfl ?_
                    refine oOp (.ptr 0 0) (by kernel_rfl) (by kernel_rfl) (PureV.does (p_move (by kernel_rfl))) ?_
                    refine bCall (caps := []) (v := (uc fun (r1100 : Int) => (fun (x662 : Int) => (.d (.int .i64 r1100) : V)))) (H' := (uc fun (r1100 : Int) => (fun (x662 : Int) => ([.box [.d (.lit (List.map e_i64 x)), .d (.int .i64 x662)], .sl 7 (List.map e_SScript xs149) false, .sl 3 (List.map e_SPaper xs142) false] : List Blk)))) [0] _ (mark_Dice_Next_goes k 5 x x179) (by kernel_rfl) (by kernel_rfl) rfl (by kernel_rfl) Try.func26 rfl (by kernel_rfl) (ConvRs.refl _ _) (by kernel_rfl) (by kernel_rfl) (by kernel_rfl) (by decide) (by kernel_rfl) (by kernel_rfl) (fun _ => (by kernel_rfl)) (fun _ => (by kernel_rfl)) (fun _ => (by kernel_rfl)) (fun r => ?_)
                    obtain ⟨r1100, x662⟩ := r
                    refine bUc ?_
                    refine oOp (.d (.bool (decide (r1100 > 0)))) (by kernel_rfl) (by kernel_rfl) (PureV.does (p_int (k := .i64) (p := r1100) (q := 0) (by kernel_rfl) (by kernel_rfl) (by kernel_rfl))) ?_
                    refine oEnd ?_
                    refine bSplit 48 (by kernel_rfl) (fun hc => ?_) (fun hc => ?_)
                    · refine oCondT (by kernel_rfl) ?_
                      refine oRegion rfl ?_
                      refine oOp (.ref 1 (List.length xs149) 0 (List.length xs149)) (by kernel_rfl) (by kernel_rfl) (PureV.does (p_move (by kernel_rfl))) ?_
                      refine oOp (.ptr 0 0) (by kernel_rfl) (by kernel_rfl) (PureV.does (p_move (by kernel_rfl))) ?_
                      refine oOp (.ref 2 (List.length xs142) 0 (List.length xs142)) (by kernel_rfl) (by kernel_rfl) (PureV.does (p_move (by kernel_rfl))) ?_
                      refine oOp (.ptr 0 0) (by kernel_rfl) (by kernel_rfl) (PureV.does (p_move (by kernel_rfl))) ?_
                      refine oOp (.ref 2 (List.length xs142) 0 (List.length xs142)) (by kernel_rfl) (by kernel_rfl) (PureV.does (p_move (by kernel_rfl))) ?_
                      refine oOp (.d (.int .i64 ((List.length xs142) : Int))) (by kernel_rfl) (by kernel_rfl) (PureV.does (k_lenRef (enc := e_SPaper) (sz := 3) (fro := false) 2 xs142 (by kernel_rfl) (by kernel_rfl) Try.underlying43)) ?_
                      refine bCall (caps := []) (v := (uc fun (r1101 : Int) => (fun (x663 : Int) => (.d (.int .i64 r1101) : V)))) (H' := (uc fun (r1101 : Int) => (fun (x663 : Int) => ([.box [.d (.lit (List.map e_i64 x)), .d (.int .i64 x663)], .sl 7 (List.map e_SScript xs149) false, .sl 3 (List.map e_SPaper xs142) false] : List Blk)))) [0] _ (mark_Dice_Next_goes k ((List.length xs142) : Int) x x662) (by kernel_rfl) (by kernel_rfl) rfl (by kernel_rfl) Try.func26 rfl (by kernel_rfl) (ConvRs.refl _ _) (by kernel_rfl) (by kernel_rfl) (by kernel_rfl) (by decide) (by kernel_rfl) (by kernel_rfl) (fun _ => (by kernel_rfl)) (fun _ => (by kernel_rfl)) (fun _ => (by kernel_rfl)) (fun r => ?_)
                      obtain ⟨r1101, x663⟩ := r
                      refine bUc ?_
                      refine bIdx (fun e159 h1177 h1178 => ?_)
                      refine oOp (.eptr 2 (List.length xs142) (Int.toNat r1101) 0) (by kernel_rfl) (by kernel_rfl) (PureV.does (k_idxRef (enc := e_SPaper) (fro := false) xs142 (a := e159) (by kernel_rfl) (k := .i64) (i := r1101) (by kernel_rfl) (by kernel_rfl) Try.underlying43 ty71 h1177 h1178)) ?_
                      refine oOp (.agg [.d (.int .i64 e159.Code), .d (.int .i64 e159.Variant), .d (.lit (List.map e_SPart e159.Parts))]) (by kernel_rfl) (by kernel_rfl) (Quiet.does (k_loadEAgg (enc := e_SPaper) (sz0 := 3) (fro := false) 2 0 xs142 [(.int .i64 e159.Code), (.int .i64 e159.Variant), (.lit (List.map e_SPart e159.Parts))] (by kernel_rfl) (by kernel_rfl) Try.underlying71 (by kernel_rfl) ty71 h1178 (by kernel_rfl) (by kernel_rfl) (by kernel_rfl))) ?_
                      refine oOp (.d (.int .i64 x178)) (by kernel_rfl) (by kernel_rfl) (PureV.does (p_move (by kernel_rfl))) ?_
                      refine bCall (caps := []) (v := (uc fun (r1233 : Int) => (uc fun (r1332 : Int) => (uc fun (r1431 : (List Int)) => (uc fun (r1531 : (List Int)) => (fun (x2831 : Int) => (.agg [.d (.int .i64 r1233), .d (.int .i64 e159.Code), .d (.int .i64 x178), .d (.int .i64 r1332), .d (.int .i64 e159.Variant), .d (.lit (List.map e_i64 r1431)), .d (.lit (List.map e_i64 r1531))] : V))))))) (H' := (uc fun (r1233 : Int) => (uc fun (r1332 : Int) => (uc fun (r1431 : (List Int)) => (uc fun (r1531 : (List Int)) => (fun (x2831 : Int) => ([.box [.d (.lit (List.map e_i64 x)), .d (.int .i64 x2831)], .sl 7 (List.map e_SScript xs149) false, .sl 3 (List.map e_SPaper xs142) false] : List Blk))))))) [0] _ (mark_Dice_Script_goes k e159.Code e159.Variant e159.Parts x178 x x663) (by kernel_rfl) (by kernel_rfl) rfl (by kernel_rfl) Try.func31 rfl (by kernel_rfl) (ConvRs.refl _ _) (by kernel_rfl) (by kernel_rfl) (by kernel_rfl) (by decide) (by kernel_rfl) (by kernel_rfl) (fun _ => (by kernel_rfl)) (fun _ => (by kernel_rfl)) (fun _ => (by kernel_rfl)) (fun r => ?_)
                      obtain ⟨r1233, r1332, r1431, r1531, x2831⟩ := r
                      refine bUc ?_
                      refine bUc ?_
                      refine bUc ?_
                      refine bUc ?_
                      refine oOp (.ref 3 (List.length ([(⟨r1233, e159.Code, x178, r1332, e159.Variant, r1431, r1531⟩ : SScript)] : List SScript)) 0 (List.length ([(⟨r1233, e159.Code, x178, r1332, e159.Variant, r1431, r1531⟩ : SScript)] : List SScript))) (by kernel_rfl) (by kernel_rfl) (k_buildSlice (H' := [.box [.d (.lit (List.map e_i64 x)), .d (.int .i64 x2831)], .sl 7 (List.map e_SScript xs149) false, .sl 3 (List.map e_SPaper xs142) false, .sl 7 (List.map e_SScript ([(⟨r1233, e159.Code, x178, r1332, e159.Variant, r1431, r1531⟩ : SScript)] : List SScript)) false]) (List.map e_SScript ([(⟨r1233, e159.Code, x178, r1332, e159.Variant, r1431, r1531⟩ : SScript)] : List SScript)) Try.underlying47 ty50 (by kernel_rfl) (by kernel_rfl) (by kernel_rfl)) ?_
                      refine bCap (fun h1179 => ?_)
                      refine oOp (.ref 1 (List.length (xs149 ++ ([(⟨r1233, e159.Code, x178, r1332, e159.Variant, r1431, r1531⟩ : SScript)] : List SScript))) 0 (List.length (xs149 ++ ([(⟨r1233, e159.Code, x178, r1332, e159.Variant, r1431, r1531⟩ : SScript)] : List SScript)))) (by kernel_rfl) (by kernel_rfl) (k_append (H' := [.box [.d (.lit (List.map e_i64 x)), .d (.int .i64 x2831)], .sl 7 (List.map e_SScript (xs149 ++ ([(⟨r1233, e159.Code, x178, r1332, e159.Variant, r1431, r1531⟩ : SScript)] : List SScript))) false, .sl 3 (List.map e_SPaper xs142) false, .sl 7 (List.map e_SScript ([(⟨r1233, e159.Code, x178, r1332, e159.Variant, r1431, r1531⟩ : SScript)] : List SScript)) false]) (enc := e_SScript) 1 xs149 ([(⟨r1233, e159.Code, x178, r1332, e159.Variant, r1431, r1531⟩ : SScript)] : List SScript) Try.underlying47 Try.underlying47 ty50 (by kernel_rfl) (by kernel_rfl) (by kernel_rfl) (holdsRef (enc := e_SScript) 3 ([(⟨r1233, e159.Code, x178, r1332, e159.Variant, r1431, r1531⟩ : SScript)] : List SScript) false (by kernel_rfl) (by kernel_rfl)) h1179 (by kernel_rfl)) ?_
                      refine oOp (.ref 1 (List.length (xs149 ++ ([(⟨r1233, e159.Code, x178, r1332, e159.Variant, r1431, r1531⟩ : SScript)] : List SScript))) 0 (List.length (xs149 ++ ([(⟨r1233, e159.Code, x178, r1332, e159.Variant, r1431, r1531⟩ : SScript)] : List SScript)))) (by kernel_rfl) (by kernel_rfl) (PureV.does (p_assign (by kernel_rfl))) ?_
                      refine oEnd ?_
                      refine oBlk ?_
                      refine oHead [0, 1, 2, 7, 8, 9, 11] [0, 1, 2] (T' := [(0, .ptr 0 0), (1, .d (.lit (List.map e_SPaper p))), (2, .d (.int .i64 n)), (7, .ref 1 (List.length (xs149 ++ ([(⟨r1233, e159.Code, x178, r1332, e159.Variant, r1431, r1531⟩ : SScript)] : List SScript))) 0 (List.length (xs149 ++ ([(⟨r1233, e159.Code, x178, r1332, e159.Variant, r1431, r1531⟩ : SScript)] : List SScript)))), (8, .d (.int .i64 c4)), (9, .ref 2 (List.length xs142) 0 (List.length xs142)), (11, .d (.int .i64 x178))]) (H' := [.box [.d (.lit (List.map e_i64 x)), .d (.int .i64 x2831)], .sl 7 (List.map e_SScript (xs149 ++ ([(⟨r1233, e159.Code, x178, r1332, e159.Variant, r1431, r1531⟩ : SScript)] : List SScript))) false, .sl 3 (List.map e_SPaper xs142) false]) (by kernel_rfl) (by kernel_rfl) (by kernel_rfl) (by kernel_rfl) (by decide) (by kernel_rfl) (by kernel_rfl) ?_
                      exact hj90 (x2831, (xs149 ++ ([(⟨r1233, e159.Code, x178, r1332, e159.Variant, r1431, r1531⟩ : SScript)] : List SScript)))
                    · refine oCondF (by kernel_rfl) ?_
                      refine oSkip ?_
                      refine oBlk ?_
                      refine oHead [0, 1, 2, 7, 8, 9, 11] [0, 1, 2] (T' := [(0, .ptr 0 0), (1, .d (.lit (List.map e_SPaper p))), (2, .d (.int .i64 n)), (7, .ref 1 (List.length xs149) 0 (List.length xs149)), (8, .d (.int .i64 c4)), (9, .ref 2 (List.length xs142) 0 (List.length xs142)), (11, .d (.int .i64 x178))]) (H' := [.box [.d (.lit (List.map e_i64 x)), .d (.int .i64 x662)], .sl 7 (List.map e_SScript xs149) false, .sl 3 (List.map e_SPaper xs142) false]) (by kernel_rfl) (by kernel_rfl) (by kernel_rfl) (by kernel_rfl) (by decide) (by kernel_rfl) (by kernel_rfl) ?_
                      exact hj90 (x662, xs149)
                · refine oCondF (by kernel_rfl) ?_
                  refine oExit rfl ?_
                  refine oHead [0, 1, 2, 7, 8] [0, 1] (T' := [(0, .ptr 0 0), (1, .d (.lit (List.map e_SPaper p))), (2, .d (.int .i64 n)), (7, .ref 1 (List.length xs149) 0 (List.length xs149)), (8, .d (.int .i64 c4))]) (H' := [.box [.d (.lit (List.map e_i64 x)), .d (.int .i64 x179)], .sl 7 (List.map e_SScript xs149) false]) (by kernel_rfl) (by kernel_rfl) (by kernel_rfl) (by kernel_rfl) (by decide) (by kernel_rfl) (by kernel_rfl) ?_
                  exact hj86 (x179, xs149)
              · refine bPickF 39 (fun c => F (c && (decide (((List.length xs142) : Int) > 0)))) (by kernel_rfl) (fun hc => ?_) (fun hc => ?_)
                · refine oOp (.ref 2 (List.length xs142) 0 (List.length xs142)) (by kernel_rfl) (by kernel_rfl) (PureV.does (p_move (by kernel_rfl))) ?_
                  refine oOp (.d (.int .i64 ((List.length xs142) : Int))) (by kernel_rfl) (by kernel_rfl) (PureV.does (k_lenRef (enc := e_SPaper) (sz := 3) (fro := false) 2 xs142 (by kernel_rfl) (by kernel_rfl) Try.underlying43)) ?_
                  refine oOp (.d (.bool (decide (((List.length xs142) : Int) > 0)))) (by kernel_rfl) (by kernel_rfl) (PureV.does (p_int (k := .i64) (p := ((List.length xs142) : Int)) (q := 0) (by kernel_rfl) (by kernel_rfl) (by kernel_rfl))) ?_
                  refine oOp (.d (.bool (decide (((List.length xs142) : Int) > 0)))) (by kernel_rfl) (by kernel_rfl) (PureV.does (p_pick (b := true) (by kernel_rfl) (by kernel_rfl))) ?_
                  refine oHead [0, 1, 2, 7, 8, 9, 11, 43] [0, 1, 2] (T' := [(0, .ptr 0 0), (1, .d (.lit (List.map e_SPaper p))), (2, .d (.int .i64 n)), (7, .ref 1 (List.length xs149) 0 (List.length xs149)), (8, .d (.int .i64 c4)), (9, .ref 2 (List.length xs142) 0 (List.length xs142)), (11, .d (.int .i64 x178)), (43, .d (.bool (decide (((List.length xs142) : Int) > 0))))]) (H' := [.box [.d (.lit (List.map e_i64 x)), .d (.int .i64 x179)], .sl 7 (List.map e_SScript xs149) false, .sl 3 (List.map e_SPaper xs142) false]) (by kernel_rfl) (by kernel_rfl) (by kernel_rfl) (by kernel_rfl) (by decide) (by kernel_rfl) (by kernel_rfl) ?_
                  exact hj89 (decide (((List.length xs142) : Int) > 0))
                · refine oNot (by kernel_rfl) (by kernel_rfl) ?_
                  refine oNot (by kernel_rfl) (by kernel_rfl) ?_
                  refine oNot (by kernel_rfl) (by kernel_rfl) ?_
                  refine oOp (.d (.bool false)) (by kernel_rfl) (by kernel_rfl) (PureV.does (p_pick (b := false) (by kernel_rfl) (by kernel_rfl))) ?_
                  refine oHead [0, 1, 2, 7, 8, 9, 11, 43] [0, 1, 2] (T' := [(0, .ptr 0 0), (1, .d (.lit (List.map e_SPaper p))), (2, .d (.int .i64 n)), (7, .ref 1 (List.length xs149) 0 (List.length xs149)), (8, .d (.int .i64 c4)), (9, .ref 2 (List.length xs142) 0 (List.length xs142)), (11, .d (.int .i64 x178)), (43, .d (.bool false))]) (H' := [.box [.d (.lit (List.map e_i64 x)), .d (.int .i64 x179)], .sl 7 (List.map e_SScript xs149) false, .sl 3 (List.map e_SPaper xs142) false]) (by kernel_rfl) (by kernel_rfl) (by kernel_rfl) (by kernel_rfl) (by decide) (by kernel_rfl) (by kernel_rfl) ?_
                  exact hj89 false
        · refine oBlock ?_
          refine oLoop ?_
          refine oVirt (esz := 3) 9 (by kernel_rfl) ?_
          refine oView (H' := [.box [.d (.lit (List.map e_i64 x)), .d (.int .i64 x130)], .sl 7 (List.map e_SScript xs106) false, .sl 3 (List.map e_SPaper ([] : List SPaper)) false]) rfl (by kernel_rfl) ?_
          refine oHead [0, 1, 2, 7, 8, 9, 10] [0, 1, 2] (T' := [(0, .ptr 0 0), (1, .d (.lit (List.map e_SPaper p))), (2, .d (.int .i64 n)), (7, .ref 1 (List.length xs106) 0 (List.length xs106)), (8, .d (.int .i64 c4)), (9, .ref 2 (List.length ([] : List SPaper)) 0 (List.length ([] : List SPaper))), (10, .d (.int .i64 0))]) (H' := [.box [.d (.lit (List.map e_i64 x)), .d (.int .i64 x130)], .sl 7 (List.map e_SScript xs106) false, .sl 3 (List.map e_SPaper ([] : List SPaper)) false]) (by kernel_rfl) (by kernel_rfl) (by kernel_rfl) (by kernel_rfl) (by decide) (by kernel_rfl) (by kernel_rfl) ?_
          refine bLoop (body := mark_Dice_Scripts_b3 k p c4) ((uc fun (x186 : Int) => (fun (xs154 : (List SPaper)) => [(0, .ptr 0 0), (1, .d (.lit (List.map e_SPaper p))), (2, .d (.int .i64 n)), (7, .ref 1 (List.length xs106) 0 (List.length xs106)), (8, .d (.int .i64 c4)), (9, .ref 2 (List.length xs154) 0 (List.length xs154)), (10, .d (.int .i64 x186))]))) ((uc fun (x186 : Int) => (fun (xs154 : (List SPaper)) => [.box [.d (.lit (List.map e_i64 x)), .d (.int .i64 x130)], .sl 7 (List.map e_SScript xs106) false, .sl 3 (List.map e_SPaper xs154) false]))) (fun again hag3 s => ?_) k (0, ([] : List SPaper))
          · unfold mark_Dice_Scripts_b3
            obtain ⟨x186, xs154⟩ := s
            refine bUc ?_
            refine oView (T' := [(0, .ptr 0 0), (1, .d (.lit (List.map e_SPaper p))), (2, .d (.int .i64 n)), (7, .ref 1 (List.length xs106) 0 (List.length xs106)), (8, .d (.int .i64 c4)), (9, .ref 2 (List.length xs154) 0 (List.length xs154)), (10, .d (.int .i64 x186))]) (H' := [.box [.d (.lit (List.map e_i64 x)), .d (.int .i64 x130)], .sl 7 (List.map e_SScript xs106) false, .sl 3 (List.map e_SPaper xs154) false]) (by kernel_rfl) (by kernel_rfl) ?_
            refine oSeq ?_
            refine oSeq ?_
            refine oRegion rfl ?_
            refine oOp (.d (.int .i64 x186)) (by kernel_rfl) (by kernel_rfl) (PureV.does (p_move (by kernel_rfl))) ?_
            refine oOp (.d (.lit (List.map e_SPaper p))) (by kernel_rfl) (by kernel_rfl) (PureV.does (p_move (by kernel_rfl))) ?_
            refine oOp (.d (.int .i64 ((List.length p) : Int))) (by kernel_rfl) (by kernel_rfl) (PureV.does (k_lenLit (enc := e_SPaper) p (by kernel_rfl) Try.underlying43)) ?_
            refine oOp (.d (.bool (decide (x186 < ((List.length p) : Int))))) (by kernel_rfl) (by kernel_rfl) (PureV.does (p_int (k := .i64) (p := x186) (q := ((List.length p) : Int)) (by kernel_rfl) (by kernel_rfl) (by kernel_rfl))) ?_
            refine oEnd ?_
            refine bSplit 19 (by kernel_rfl) (fun hc => ?_) (fun hc => ?_)
            · refine oCondT (by kernel_rfl) ?_
              refine oSkip ?_
              refine oSeq ?_
              refine bJoin ((fun (xs157 : (List SPaper)) => [(0, .ptr 0 0), (1, .d (.lit (List.map e_SPaper p))), (2, .d (.int .i64 n)), (7, .ref 1 (List.length xs106) 0 (List.length xs106)), (8, .d (.int .i64 c4)), (9, .ref 2 (List.length xs157) 0 (List.length xs157)), (10, .d (.int .i64 x186))])) ((fun (xs157 : (List SPaper)) => [.box [.d (.lit (List.map e_i64 x)), .d (.int .i64 x130)], .sl 7 (List.map e_SScript xs106) false, .sl 3 (List.map e_SPaper xs157) false])) (fun s => s) (fun xs157 => ?_) (fun hj93 => ?_)
              · refine oView (T' := [(0, .ptr 0 0), (1, .d (.lit (List.map e_SPaper p))), (2, .d (.int .i64 n)), (7, .ref 1 (List.length xs106) 0 (List.length xs106)), (8, .d (.int .i64 c4)), (9, .ref 2 (List.length xs157) 0 (List.length xs157)), (10, .d (.int .i64 x186))]) (H' := [.box [.d (.lit (List.map e_i64 x)), .d (.int .i64 x130)], .sl 7 (List.map e_SScript xs106) false, .sl 3 (List.map e_SPaper xs157) false]) (by kernel_rfl) (by kernel_rfl) ?_
                refine oRegion rfl ?_
                refine oOp (.d (.int .i64 x186)) (by kernel_rfl) (by kernel_rfl) (PureV.does (p_move (by kernel_rfl))) ?_
                refine oOp (.d (.int .i64 (IntKind.wrap .i64 (x186 + 1)))) (by kernel_rfl) (by kernel_rfl) (PureV.does (p_int (k := .i64) (p := x186) (q := 1) (by kernel_rfl) (by kernel_rfl) (by kernel_rfl))) ?_
                refine oOp (.d (.int .i64 (IntKind.wrap .i64 (x186 + 1)))) (by kernel_rfl) (by kernel_rfl) (PureV.does (p_assign (by kernel_rfl))) ?_
                refine oEnd ?_
                refine oAgain ?_
                refine oHead [0, 1, 2, 7, 8, 9, 10] [0, 1, 2] (T' := [(0, .ptr 0 0), (1, .d (.lit (List.map e_SPaper p))), (2, .d (.int .i64 n)), (7, .ref 1 (List.length xs106) 0 (List.length xs106)), (8, .d (.int .i64 c4)), (9, .ref 2 (List.length xs157) 0 (List.length xs157)), (10, .d (.int .i64 (IntKind.wrap .i64 (x186 + 1))))]) (H' := [.box [.d (.lit (List.map e_i64 x)), .d (.int .i64 x130)], .sl 7 (List.map e_SScript xs106) false, .sl 3 (List.map e_SPaper xs157) false]) (by kernel_rfl) (by kernel_rfl) (by kernel_rfl) (by kernel_rfl) (by decide) (by kernel_rfl) (by kernel_rfl) ?_
                exact hag3 ((IntKind.wrap .i64 (x186 + 1)), xs157)
              · refine oBlock ?_
                refine oSeq ?_
                refine oRegion rfl ?_
                refine oOp (.d (.lit (List.map e_SPaper p))) (by kernel_rfl) (by kernel_rfl) (PureV.does (p_move (by kernel_rfl))) ?_
                refine oOp (.d (.int .i64 x186)) (by kernel_rfl) (by kernel_rfl) (PureV.does (p_move (by kernel_rfl))) ?_
                refine bIdx (fun e163 h1189 h1190 => ?_)
                refine oOp (.lptr (e_SPaper e163) 0) (by kernel_rfl) (by kernel_rfl) (PureV.does (k_idxLit e_SPaper_len p (a := e163) (by kernel_rfl) (k := .i64) (i := x186) (by kernel_rfl) Try.underlying43 ty71 h1189 h1190)) ?_
                refine oOp (.lptr (e_SPaper e163) 0) (by kernel_rfl) (by kernel_rfl) (PureV.does (k_fieldAddrL (cells := e_SPaper e163) 0 (by kernel_rfl) Try.underlying71 rfl ty3 (by kernel_rfl))) ?_
                refine oOp (.d (.int .i64 e163.Code)) (by kernel_rfl) (by kernel_rfl) (Quiet.does (k_loadL (cells := e_SPaper e163) 0 (by kernel_rfl) Try.underlying3 (by kernel_rfl) (by kernel_rfl))) ?_
                refine oOp (.d (.int .i64 c4)) (by kernel_rfl) (by kernel_rfl) (PureV.does (p_move (by kernel_rfl))) ?_
                refine oOp (.d (.bool (e163.Code == c4))) (by kernel_rfl) (by kernel_rfl) (PureV.does (p_int (k := .i64) (p := e163.Code) (q := c4) (by kernel_rfl) (by kernel_rfl) (by kernel_rfl))) ?_
                refine oEnd ?_
                refine bSplit 28 (by kernel_rfl) (fun hc => ?_) (fun hc => ?_)
                · refine oCondT (by kernel_rfl) ?_
                  refine oRegion rfl ?_
                  refine oOp (.ref 2 (List.length xs154) 0 (List.length xs154)) (by kernel_rfl) (by kernel_rfl) (PureV.does (p_move (by kernel_rfl))) ?_
                  refine oOp (.d (.lit (List.map e_SPaper p))) (by kernel_rfl) (by kernel_rfl) (PureV.does (p_move (by kernel_rfl))) ?_
                  refine oOp (.d (.int .i64 x186)) (by kernel_rfl) (by kernel_rfl) (PureV.does (p_move (by kernel_rfl))) ?_
                  refine oOp (.lptr (e_SPaper e163) 0) (by kernel_rfl) (by kernel_rfl) (PureV.does (k_idxLit e_SPaper_len p (a := e163) (by kernel_rfl) (k := .i64) (i := x186) (by kernel_rfl) Try.underlying43 ty71 h1189 h1190)) ?_
                  refine oOp (.agg [.d (.int .i64 e163.Code), .d (.int .i64 e163.Variant), .d (.lit (List.map e_SPart e163.Parts))]) (by kernel_rfl) (by kernel_rfl) (Quiet.does (k_loadLAgg (cells := e_SPaper e163) 0 [(.int .i64 e163.Code), (.int .i64 e163.Variant), (.lit (List.map e_SPart e163.Parts))] (by kernel_rfl) Try.underlying71 (by kernel_rfl) ty71 (by kernel_rfl) (by kernel_rfl) (by kernel_rfl))) ?_
                  refine oOp (.ref 3 (List.length ([e163] : List SPaper)) 0 (List.length ([e163] : List SPaper))) (by kernel_rfl) (by kernel_rfl) (k_buildSlice (H' := [.box [.d (.lit (List.map e_i64 x)), .d (.int .i64 x130)], .sl 7 (List.map e_SScript xs106) false, .sl 3 (List.map e_SPaper xs154) false, .sl 3 (List.map e_SPaper ([e163] : List SPaper)) false]) (List.map e_SPaper ([e163] : List SPaper)) Try.underlying43 ty71 (by kernel_rfl) (by kernel_rfl) (by kernel_rfl)) ?_
                  refine bCap (fun h1191 => ?_)
                  refine oOp (.ref 2 (List.length (xs154 ++ ([e163] : List SPaper))) 0 (List.length (xs154 ++ ([e163] : List SPaper)))) (by kernel_rfl) (by kernel_rfl) (k_append (H' := [.box [.d (.lit (List.map e_i64 x)), .d (.int .i64 x130)], .sl 7 (List.map e_SScript xs106) false, .sl 3 (List.map e_SPaper (xs154 ++ ([e163] : List SPaper))) false, .sl 3 (List.map e_SPaper ([e163] : List SPaper)) false]) (enc := e_SPaper) 2 xs154 ([e163] : List SPaper) Try.underlying43 Try.underlying43 ty71 (by kernel_rfl) (by kernel_rfl) (by kernel_rfl) (holdsRef (enc := e_SPaper) 3 ([e163] : List SPaper) false (by kernel_rfl) (by kernel_rfl)) h1191 (by kernel_rfl)) ?_
                  refine oOp (.ref 2 (List.length (xs154 ++ ([e163] : List SPaper))) 0 (List.length (xs154 ++ ([e163] : List SPaper)))) (by kernel_rfl) (by kernel_rfl) (PureV.does (p_assign (by kernel_rfl))) ?_
                  refine oEnd ?_
                  refine oBlk ?_
                  refine oHead [0, 1, 2, 7, 8, 9, 10] [0, 1, 2] (T' := [(0, .ptr 0 0), (1, .d (.lit (List.map e_SPaper p))), (2, .d (.int .i64 n)), (7, .ref 1 (List.length xs106) 0 (List.length xs106)), (8, .d (.int .i64 c4)), (9, .ref 2 (List.length (xs154 ++ ([e163] : List SPaper))) 0 (List.length (xs154 ++ ([e163] : List SPaper)))), (10, .d (.int .i64 x186))]) (H' := [.box [.d (.lit (List.map e_i64 x)), .d (.int .i64 x130)], .sl 7 (List.map e_SScript xs106) false, .sl 3 (List.map e_SPaper (xs154 ++ ([e163] : List SPaper))) false]) (by kernel_rfl) (by kernel_rfl) (by kernel_rfl) (by kernel_rfl) (by decide) (by kernel_rfl) (by kernel_rfl) ?_
                  exact hj93 (xs154 ++ ([e163] : List SPaper))
                · refine oCondF (by kernel_rfl) ?_
                  refine oSkip ?_
                  refine oBlk ?_
                  refine oHead [0, 1, 2, 7, 8, 9, 10] [0, 1, 2] (T' := [(0, .ptr 0 0), (1, .d (.lit (List.map e_SPaper p))), (2, .d (.int .i64 n)), (7, .ref 1 (List.length xs106) 0 (List.length xs106)), (8, .d (.int .i64 c4)), (9, .ref 2 (List.length xs154) 0 (List.length xs154)), (10, .d (.int .i64 x186))]) (H' := [.box [.d (.lit (List.map e_i64 x)), .d (.int .i64 x130)], .sl 7 (List.map e_SScript xs106) false, .sl 3 (List.map e_SPaper xs154) false]) (by kernel_rfl) (by kernel_rfl) (by kernel_rfl) (by kernel_rfl) (by decide) (by kernel_rfl) (by kernel_rfl) ?_
                  exact hj93 xs154
            · refine oCondF (by kernel_rfl) ?_
              refine oExit rfl ?_
              refine oHead [0, 1, 2, 7, 8, 9] [0, 1, 2] (T' := [(0, .ptr 0 0), (1, .d (.lit (List.map e_SPaper p))), (2, .d (.int .i64 n)), (7, .ref 1 (List.length xs106) 0 (List.length xs106)), (8, .d (.int .i64 c4)), (9, .ref 2 (List.length xs154) 0 (List.length xs154))]) (H' := [.box [.d (.lit (List.map e_i64 x)), .d (.int .i64 x130)], .sl 7 (List.map e_SScript xs106) false, .sl 3 (List.map e_SPaper xs154) false]) (by kernel_rfl) (by kernel_rfl) (by kernel_rfl) (by kernel_rfl) (by decide) (by kernel_rfl) (by kernel_rfl) ?_
              exact hj83 xs154
      · refine oCondF (by kernel_rfl) ?_
        refine oExit rfl ?_
        refine oHead [7] [0, 1] (T' := [(7, .ref 1 (List.length xs106) 0 (List.length xs106))]) (H' := [.box [.d (.lit (List.map e_i64 x)), .d (.int .i64 x130)], .sl 7 (List.map e_SScript xs106) false]) (by kernel_rfl) (by kernel_rfl) (by kernel_rfl) (by kernel_rfl) (by decide) (by kernel_rfl) (by kernel_rfl) ?_
        exact hj50 (x130, xs106)

end Go.VM
