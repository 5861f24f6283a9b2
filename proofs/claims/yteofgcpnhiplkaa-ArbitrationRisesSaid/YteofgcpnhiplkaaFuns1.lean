/- Plain functions that answer as the program's functions do, and the proof that they do. -/
import Derived.Test.YteofgcpnhiplkaaProg
import Derived.KernelRfl
import Derived.Test.YteofgcpnhiplkaaEngS
import Derived.Test.YteofgcpnhiplkaaFacts
import Derived.Test.YteofgcpnhiplkaaFuns0
namespace Go.VM
open Go.Proofs
set_option linter.unusedVariables false
set_option linter.unusedSimpArgs false
set_option maxRecDepth 100000
/-- awardingbody/awardingbodylaw30.sane -/
def law30_sane (k : Nat) : Option (Bool) := Option.bind (arbitration_Decide k true 2 ([(⟨0, 0, 0, 1, 5, 0, 0, 0⟩ : SGiven), (⟨0, 0, 0, 1, 6, 0, 0, 0⟩ : SGiven)] : List SGiven)) (uc fun r185 => fun r1105 => Option.bind (arbitration_Decide k true 2 ([(⟨0, 0, 0, 1, 3, 0, 0, 0⟩ : SGiven), (⟨0, 0, 0, 1, 6, 0, 0, 0⟩ : SGiven)] : List SGiven)) (uc fun r186 => fun r1106 => Option.bind (arbitration_Decide k true 2 ([(⟨0, 0, 0, 1, 7, 0, 0, 0⟩ : SGiven), (⟨0, 0, 0, 2, 4, 0, 0, 0⟩ : SGiven), (⟨0, 0, 0, 1, 7, 0, 0, 0⟩ : SGiven)] : List SGiven)) (uc fun r187 => fun r1107 => Option.bind (arbitration_Decide k true 2 ([(⟨0, 0, 0, 1, 7, 0, 0, 0⟩ : SGiven)] : List SGiven)) (uc fun r188 => fun r1108 => blet (((r185 == 3) && ((r1105 == 6) && true)) && ((r186 == 2) && ((r1106 == 0) && true))) fun x5 => blet (x5 && ((r187 == 3) && ((r1107 == 4) && true))) fun x6 => blet (x6 && ((r188 == 1) && ((r1108 == 0) && true))) fun x7 => Option.bind (bif x7 then Option.bind (arbitration_Decide k true 2 []) (uc fun r1810 => fun r11010 => some ((r1810 == 0) && ((r11010 == 0) && true))) else some false : Option (Bool)) (fun x8 => Option.bind (bif x8 then Option.bind (arbitration_Check k true 2) (fun r112 => some (r112 == 0)) else some false : Option (Bool)) (fun x9 => some x9))))))
def law30_sane_E : Bool → V × List Blk := fun r1 => (.d (.bool r1), [])
theorem law30_sane_goes (k : Nat) : RunsO Try.prog 9 [] [] (law30_sane_E) (law30_sane k) := by
  refine RunsO.of_goes (N := 56) (m := 0) (T := []) Try.func9 rfl rfl (by kernel_rfl) (by kernel_rfl) (by kernel_rfl) ?_
  unfold law30_sane
  refine bStart ?_
  refine oSeq ?_
  refine oRegion rfl ?_
  refine oOp (.d (.bool false)) (by kernel_rfl) (by kernel_rfl) (PureV.does (p_assign (by kernel_rfl))) ?_
  refine oEnd ?_
  refine oSeq ?_
  refine oRegion rfl ?_
  refine oOp (.agg [.d (.bool true), .d (.int .i64 2)]) (by kernel_rfl) (by kernel_rfl) (PureV.does (p_build bld28 (by kernel_rfl))) ?_
  refine oOp (.ptr 0 0) (by kernel_rfl) (by kernel_rfl) (k_alloc (H' := [.box [.d (.bool false), .d (.int .i64 0)]]) ty28 (by kernel_rfl) (by kernel_rfl)) ?_
  refine oOp (.undef) (by kernel_rfl) (by kernel_rfl) (k_store (vs := [.d (.bool true), .d (.int .i64 2)]) (H' := [.box [.d (.bool true), .d (.int .i64 2)]]) 0 0 (by kernel_rfl) ty28 (by kernel_rfl) (by kernel_rfl) (by kernel_rfl)) ?_
  refine oEnd ?_
  refine oSeq ?_
  refine oRegion rfl ?_
  refine oOp (.agg [.d (.bool true), .d (.int .i64 2)]) (by kernel_rfl) (by kernel_rfl) (Quiet.does (k_loadAgg 0 0 (by kernel_rfl) Try.underlying28 (by kernel_rfl) ty28 (by kernel_rfl))) ?_
  refine oOp (.agg [.d (.int .i64 0), .d (.int .i64 0), .d (.int .i64 0), .d (.int .i64 1), .d (.int .i64 5), .d (.int .i64 0), .d (.int .i64 0), .d (.int .i64 0)]) (by kernel_rfl) (by kernel_rfl) (PureV.does (p_build bld38 (by kernel_rfl))) ?_
  refine oOp (.agg [.d (.int .i64 0), .d (.int .i64 0), .d (.int .i64 0), .d (.int .i64 1), .d (.int .i64 6), .d (.int .i64 0), .d (.int .i64 0), .d (.int .i64 0)]) (by kernel_rfl) (by kernel_rfl) (PureV.does (p_build bld38 (by kernel_rfl))) ?_
  refine oOp (.ref 1 (List.length ([(⟨0, 0, 0, 1, 5, 0, 0, 0⟩ : SGiven), (⟨0, 0, 0, 1, 6, 0, 0, 0⟩ : SGiven)] : List SGiven)) 0 (List.length ([(⟨0, 0, 0, 1, 5, 0, 0, 0⟩ : SGiven), (⟨0, 0, 0, 1, 6, 0, 0, 0⟩ : SGiven)] : List SGiven))) (by kernel_rfl) (by kernel_rfl) (k_buildSlice (H' := [.box [.d (.bool true), .d (.int .i64 2)], .sl 8 (List.map e_SGiven ([(⟨0, 0, 0, 1, 5, 0, 0, 0⟩ : SGiven), (⟨0, 0, 0, 1, 6, 0, 0, 0⟩ : SGiven)] : List SGiven)) false]) (List.map e_SGiven ([(⟨0, 0, 0, 1, 5, 0, 0, 0⟩ : SGiven), (⟨0, 0, 0, 1, 6, 0, 0, 0⟩ : SGiven)] : List SGiven)) Try.underlying30 ty38 (by kernel_rfl) (by kernel_rfl) (by kernel_rfl)) ?_
  refine oFreeze 1 (esz := 8) (xs := List.map e_SGiven ([(⟨0, 0, 0, 1, 5, 0, 0, 0⟩ : SGiven), (⟨0, 0, 0, 1, 6, 0, 0, 0⟩ : SGiven)] : List SGiven)) (by kernel_rfl) ?_
  refine oView (H' := [.box [.d (.bool true), .d (.int .i64 2)], .sl 8 (List.map e_SGiven ([(⟨0, 0, 0, 1, 5, 0, 0, 0⟩ : SGiven), (⟨0, 0, 0, 1, 6, 0, 0, 0⟩ : SGiven)] : List SGiven)) true]) rfl (by kernel_rfl) ?_
  refine bCall (caps := []) (v := (uc fun (r185 : Int) => (fun (r1105 : Int) => (.agg [.d (.int .i64 r185), .d (.int .i64 r1105)] : V)))) (H' := (uc fun (r185 : Int) => (fun (r1105 : Int) => ([.box [.d (.bool true), .d (.int .i64 2)], .sl 8 (List.map e_SGiven ([(⟨0, 0, 0, 1, 5, 0, 0, 0⟩ : SGiven), (⟨0, 0, 0, 1, 6, 0, 0, 0⟩ : SGiven)] : List SGiven)) true] : List Blk)))) [] _ (arbitration_Decide_goes k true 2 ([(⟨0, 0, 0, 1, 5, 0, 0, 0⟩ : SGiven), (⟨0, 0, 0, 1, 6, 0, 0, 0⟩ : SGiven)] : List SGiven)) (by kernel_rfl) (by kernel_rfl) rfl (by kernel_rfl) Try.func13 rfl (by kernel_rfl) (convList (vs0 := [.agg [.d (.bool true), .d (.int .i64 2)], .ref 1 (List.length ([(⟨0, 0, 0, 1, 5, 0, 0, 0⟩ : SGiven), (⟨0, 0, 0, 1, 6, 0, 0, 0⟩ : SGiven)] : List SGiven)) 0 (List.length ([(⟨0, 0, 0, 1, 5, 0, 0, 0⟩ : SGiven), (⟨0, 0, 0, 1, 6, 0, 0, 0⟩ : SGiven)] : List SGiven))]) (vs := [.agg [.d (.bool true), .d (.int .i64 2)], .d (.lit (List.map e_SGiven ([(⟨0, 0, 0, 1, 5, 0, 0, 0⟩ : SGiven), (⟨0, 0, 0, 1, 6, 0, 0, 0⟩ : SGiven)] : List SGiven)))]) (by kernel_rfl) (.cons _ _ _ _ (.same _) (.cons _ _ _ _ (k_lit (enc := e_SGiven) (sz := 8) 1 ([(⟨0, 0, 0, 1, 5, 0, 0, 0⟩ : SGiven), (⟨0, 0, 0, 1, 6, 0, 0, 0⟩ : SGiven)] : List SGiven) (by kernel_rfl)) .nil))) (by kernel_rfl) (by kernel_rfl) (by kernel_rfl) (by decide) (by kernel_rfl) (by kernel_rfl) (fun _ => (by kernel_rfl)) (fun _ => (by kernel_rfl)) (fun _ => (by kernel_rfl)) (fun r => ?_)
  obtain ⟨r185, r1105⟩ := r
  refine bUc ?_
  refine oOp (.ptr 2 0) (by kernel_rfl) (by kernel_rfl) (k_alloc (H' := [.box [.d (.bool true), .d (.int .i64 2)], .sl 8 (List.map e_SGiven ([(⟨0, 0, 0, 1, 5, 0, 0, 0⟩ : SGiven), (⟨0, 0, 0, 1, 6, 0, 0, 0⟩ : SGiven)] : List SGiven)) true, .box [.d (.int .i64 0), .d (.int .i64 0)]]) ty33 (by kernel_rfl) (by kernel_rfl)) ?_
  refine oOp (.undef) (by kernel_rfl) (by kernel_rfl) (k_store (vs := [.d (.int .i64 r185), .d (.int .i64 r1105)]) (H' := [.box [.d (.bool true), .d (.int .i64 2)], .sl 8 (List.map e_SGiven ([(⟨0, 0, 0, 1, 5, 0, 0, 0⟩ : SGiven), (⟨0, 0, 0, 1, 6, 0, 0, 0⟩ : SGiven)] : List SGiven)) true, .box [.d (.int .i64 r185), .d (.int .i64 r1105)]]) 2 0 (by kernel_rfl) ty33 (by kernel_rfl) (by kernel_rfl) (by kernel_rfl)) ?_
  refine oEnd ?_
  refine oSeq ?_
  refine oRegion rfl ?_
  refine oOp (.agg [.d (.bool true), .d (.int .i64 2)]) (by kernel_rfl) (by kernel_rfl) (Quiet.does (k_loadAgg 0 0 (by kernel_rfl) Try.underlying28 (by kernel_rfl) ty28 (by kernel_rfl))) ?_
  refine oOp (.agg [.d (.int .i64 0), .d (.int .i64 0), .d (.int .i64 0), .d (.int .i64 1), .d (.int .i64 3), .d (.int .i64 0), .d (.int .i64 0), .d (.int .i64 0)]) (by kernel_rfl) (by kernel_rfl) (PureV.does (p_build bld38 (by kernel_rfl))) ?_
  refine oOp (.agg [.d (.int .i64 0), .d (.int .i64 0), .d (.int .i64 0), .d (.int .i64 1), .d (.int .i64 6), .d (.int .i64 0), .d (.int .i64 0), .d (.int .i64 0)]) (by kernel_rfl) (by kernel_rfl) (PureV.does (p_build bld38 (by kernel_rfl))) ?_
  refine oOp (.ref 3 (List.length ([(⟨0, 0, 0, 1, 3, 0, 0, 0⟩ : SGiven), (⟨0, 0, 0, 1, 6, 0, 0, 0⟩ : SGiven)] : List SGiven)) 0 (List.length ([(⟨0, 0, 0, 1, 3, 0, 0, 0⟩ : SGiven), (⟨0, 0, 0, 1, 6, 0, 0, 0⟩ : SGiven)] : List SGiven))) (by kernel_rfl) (by kernel_rfl) (k_buildSlice (H' := [.box [.d (.bool true), .d (.int .i64 2)], .sl 8 (List.map e_SGiven ([(⟨0, 0, 0, 1, 5, 0, 0, 0⟩ : SGiven), (⟨0, 0, 0, 1, 6, 0, 0, 0⟩ : SGiven)] : List SGiven)) true, .box [.d (.int .i64 r185), .d (.int .i64 r1105)], .sl 8 (List.map e_SGiven ([(⟨0, 0, 0, 1, 3, 0, 0, 0⟩ : SGiven), (⟨0, 0, 0, 1, 6, 0, 0, 0⟩ : SGiven)] : List SGiven)) false]) (List.map e_SGiven ([(⟨0, 0, 0, 1, 3, 0, 0, 0⟩ : SGiven), (⟨0, 0, 0, 1, 6, 0, 0, 0⟩ : SGiven)] : List SGiven)) Try.underlying30 ty38 (by kernel_rfl) (by kernel_rfl) (by kernel_rfl)) ?_
  refine oFreeze 3 (esz := 8) (xs := List.map e_SGiven ([(⟨0, 0, 0, 1, 3, 0, 0, 0⟩ : SGiven), (⟨0, 0, 0, 1, 6, 0, 0, 0⟩ : SGiven)] : List SGiven)) (by kernel_rfl) ?_
  refine oView (H' := [.box [.d (.bool true), .d (.int .i64 2)], .sl 8 (List.map e_SGiven ([(⟨0, 0, 0, 1, 5, 0, 0, 0⟩ : SGiven), (⟨0, 0, 0, 1, 6, 0, 0, 0⟩ : SGiven)] : List SGiven)) true, .box [.d (.int .i64 r185), .d (.int .i64 r1105)], .sl 8 (List.map e_SGiven ([(⟨0, 0, 0, 1, 3, 0, 0, 0⟩ : SGiven), (⟨0, 0, 0, 1, 6, 0, 0, 0⟩ : SGiven)] : List SGiven)) true]) rfl (by kernel_rfl) ?_
  refine bCall (caps := []) (v := (uc fun (r186 : Int) => (fun (r1106 : Int) => (.agg [.d (.int .i64 r186), .d (.int .i64 r1106)] : V)))) (H' := (uc fun (r186 : Int) => (fun (r1106 : Int) => ([.box [.d (.bool true), .d (.int .i64 2)], .sl 8 (List.map e_SGiven ([(⟨0, 0, 0, 1, 5, 0, 0, 0⟩ : SGiven), (⟨0, 0, 0, 1, 6, 0, 0, 0⟩ : SGiven)] : List SGiven)) true, .box [.d (.int .i64 r185), .d (.int .i64 r1105)], .sl 8 (List.map e_SGiven ([(⟨0, 0, 0, 1, 3, 0, 0, 0⟩ : SGiven), (⟨0, 0, 0, 1, 6, 0, 0, 0⟩ : SGiven)] : List SGiven)) true] : List Blk)))) [] _ (arbitration_Decide_goes k true 2 ([(⟨0, 0, 0, 1, 3, 0, 0, 0⟩ : SGiven), (⟨0, 0, 0, 1, 6, 0, 0, 0⟩ : SGiven)] : List SGiven)) (by kernel_rfl) (by kernel_rfl) rfl (by kernel_rfl) Try.func13 rfl (by kernel_rfl) (convList (vs0 := [.agg [.d (.bool true), .d (.int .i64 2)], .ref 3 (List.length ([(⟨0, 0, 0, 1, 3, 0, 0, 0⟩ : SGiven), (⟨0, 0, 0, 1, 6, 0, 0, 0⟩ : SGiven)] : List SGiven)) 0 (List.length ([(⟨0, 0, 0, 1, 3, 0, 0, 0⟩ : SGiven), (⟨0, 0, 0, 1, 6, 0, 0, 0⟩ : SGiven)] : List SGiven))]) (vs := [.agg [.d (.bool true), .d (.int .i64 2)], .d (.lit (List.map e_SGiven ([(⟨0, 0, 0, 1, 3, 0, 0, 0⟩ : SGiven), (⟨0, 0, 0, 1, 6, 0, 0, 0⟩ : SGiven)] : List SGiven)))]) (by kernel_rfl) (.cons _ _ _ _ (.same _) (.cons _ _ _ _ (k_lit (enc := e_SGiven) (sz := 8) 3 ([(⟨0, 0, 0, 1, 3, 0, 0, 0⟩ : SGiven), (⟨0, 0, 0, 1, 6, 0, 0, 0⟩ : SGiven)] : List SGiven) (by kernel_rfl)) .nil))) (by kernel_rfl) (by kernel_rfl) (by kernel_rfl) (by decide) (by kernel_rfl) (by kernel_rfl) (fun _ => (by kernel_rfl)) (fun _ => (by kernel_rfl)) (fun _ => (by kernel_rfl)) (fun r => ?_)
  obtain ⟨r186, r1106⟩ := r
  refine bUc ?_
  refine oOp (.ptr 4 0) (by kernel_rfl) (by kernel_rfl) (k_alloc (H' := [.box [.d (.bool true), .d (.int .i64 2)], .sl 8 (List.map e_SGiven ([(⟨0, 0, 0, 1, 5, 0, 0, 0⟩ : SGiven), (⟨0, 0, 0, 1, 6, 0, 0, 0⟩ : SGiven)] : List SGiven)) true, .box [.d (.int .i64 r185), .d (.int .i64 r1105)], .sl 8 (List.map e_SGiven ([(⟨0, 0, 0, 1, 3, 0, 0, 0⟩ : SGiven), (⟨0, 0, 0, 1, 6, 0, 0, 0⟩ : SGiven)] : List SGiven)) true, .box [.d (.int .i64 0), .d (.int .i64 0)]]) ty33 (by kernel_rfl) (by kernel_rfl)) ?_
  refine oOp (.undef) (by kernel_rfl) (by kernel_rfl) (k_store (vs := [.d (.int .i64 r186), .d (.int .i64 r1106)]) (H' := [.box [.d (.bool true), .d (.int .i64 2)], .sl 8 (List.map e_SGiven ([(⟨0, 0, 0, 1, 5, 0, 0, 0⟩ : SGiven), (⟨0, 0, 0, 1, 6, 0, 0, 0⟩ : SGiven)] : List SGiven)) true, .box [.d (.int .i64 r185), .d (.int .i64 r1105)], .sl 8 (List.map e_SGiven ([(⟨0, 0, 0, 1, 3, 0, 0, 0⟩ : SGiven), (⟨0, 0, 0, 1, 6, 0, 0, 0⟩ : SGiven)] : List SGiven)) true, .box [.d (.int .i64 r186), .d (.int .i64 r1106)]]) 4 0 (by kernel_rfl) ty33 (by kernel_rfl) (by kernel_rfl) (by kernel_rfl)) ?_
  refine oEnd ?_
  refine oSeq ?_
  refine oRegion rfl ?_
  refine oOp (.agg [.d (.bool true), .d (.int .i64 2)]) (by kernel_rfl) (by kernel_rfl) (Quiet.does (k_loadAgg 0 0 (by kernel_rfl) Try.underlying28 (by kernel_rfl) ty28 (by kernel_rfl))) ?_
  refine oOp (.agg [.d (.int .i64 0), .d (.int .i64 0), .d (.int .i64 0), .d (.int .i64 1), .d (.int .i64 7), .d (.int .i64 0), .d (.int .i64 0), .d (.int .i64 0)]) (by kernel_rfl) (by kernel_rfl) (PureV.does (p_build bld38 (by kernel_rfl))) ?_
  refine oOp (.agg [.d (.int .i64 0), .d (.int .i64 0), .d (.int .i64 0), .d (.int .i64 2), .d (.int .i64 4), .d (.int .i64 0), .d (.int .i64 0), .d (.int .i64 0)]) (by kernel_rfl) (by kernel_rfl) (PureV.does (p_build bld38 (by kernel_rfl))) ?_
  refine oOp (.agg [.d (.int .i64 0), .d (.int .i64 0), .d (.int .i64 0), .d (.int .i64 1), .d (.int .i64 7), .d (.int .i64 0), .d (.int .i64 0), .d (.int .i64 0)]) (by kernel_rfl) (by kernel_rfl) (PureV.does (p_build bld38 (by kernel_rfl))) ?_
  refine oOp (.ref 5 (List.length ([(⟨0, 0, 0, 1, 7, 0, 0, 0⟩ : SGiven), (⟨0, 0, 0, 2, 4, 0, 0, 0⟩ : SGiven), (⟨0, 0, 0, 1, 7, 0, 0, 0⟩ : SGiven)] : List SGiven)) 0 (List.length ([(⟨0, 0, 0, 1, 7, 0, 0, 0⟩ : SGiven), (⟨0, 0, 0, 2, 4, 0, 0, 0⟩ : SGiven), (⟨0, 0, 0, 1, 7, 0, 0, 0⟩ : SGiven)] : List SGiven))) (by kernel_rfl) (by kernel_rfl) (k_buildSlice (H' := [.box [.d (.bool true), .d (.int .i64 2)], .sl 8 (List.map e_SGiven ([(⟨0, 0, 0, 1, 5, 0, 0, 0⟩ : SGiven), (⟨0, 0, 0, 1, 6, 0, 0, 0⟩ : SGiven)] : List SGiven)) true, .box [.d (.int .i64 r185), .d (.int .i64 r1105)], .sl 8 (List.map e_SGiven ([(⟨0, 0, 0, 1, 3, 0, 0, 0⟩ : SGiven), (⟨0, 0, 0, 1, 6, 0, 0, 0⟩ : SGiven)] : List SGiven)) true, .box [.d (.int .i64 r186), .d (.int .i64 r1106)], .sl 8 (List.map e_SGiven ([(⟨0, 0, 0, 1, 7, 0, 0, 0⟩ : SGiven), (⟨0, 0, 0, 2, 4, 0, 0, 0⟩ : SGiven), (⟨0, 0, 0, 1, 7, 0, 0, 0⟩ : SGiven)] : List SGiven)) false]) (List.map e_SGiven ([(⟨0, 0, 0, 1, 7, 0, 0, 0⟩ : SGiven), (⟨0, 0, 0, 2, 4, 0, 0, 0⟩ : SGiven), (⟨0, 0, 0, 1, 7, 0, 0, 0⟩ : SGiven)] : List SGiven)) Try.underlying30 ty38 (by kernel_rfl) (by kernel_rfl) (by kernel_rfl)) ?_
  refine oFreeze 5 (esz := 8) (xs := List.map e_SGiven ([(⟨0, 0, 0, 1, 7, 0, 0, 0⟩ : SGiven), (⟨0, 0, 0, 2, 4, 0, 0, 0⟩ : SGiven), (⟨0, 0, 0, 1, 7, 0, 0, 0⟩ : SGiven)] : List SGiven)) (by kernel_rfl) ?_
  refine oView (H' := [.box [.d (.bool true), .d (.int .i64 2)], .sl 8 (List.map e_SGiven ([(⟨0, 0, 0, 1, 5, 0, 0, 0⟩ : SGiven), (⟨0, 0, 0, 1, 6, 0, 0, 0⟩ : SGiven)] : List SGiven)) true, .box [.d (.int .i64 r185), .d (.int .i64 r1105)], .sl 8 (List.map e_SGiven ([(⟨0, 0, 0, 1, 3, 0, 0, 0⟩ : SGiven), (⟨0, 0, 0, 1, 6, 0, 0, 0⟩ : SGiven)] : List SGiven)) true, .box [.d (.int .i64 r186), .d (.int .i64 r1106)], .sl 8 (List.map e_SGiven ([(⟨0, 0, 0, 1, 7, 0, 0, 0⟩ : SGiven), (⟨0, 0, 0, 2, 4, 0, 0, 0⟩ : SGiven), (⟨0, 0, 0, 1, 7, 0, 0, 0⟩ : SGiven)] : List SGiven)) true]) rfl (by kernel_rfl) ?_
  refine bCall (caps := []) (v := (uc fun (r187 : Int) => (fun (r1107 : Int) => (.agg [.d (.int .i64 r187), .d (.int .i64 r1107)] : V)))) (H' := (uc fun (r187 : Int) => (fun (r1107 : Int) => ([.box [.d (.bool true), .d (.int .i64 2)], .sl 8 (List.map e_SGiven ([(⟨0, 0, 0, 1, 5, 0, 0, 0⟩ : SGiven), (⟨0, 0, 0, 1, 6, 0, 0, 0⟩ : SGiven)] : List SGiven)) true, .box [.d (.int .i64 r185), .d (.int .i64 r1105)], .sl 8 (List.map e_SGiven ([(⟨0, 0, 0, 1, 3, 0, 0, 0⟩ : SGiven), (⟨0, 0, 0, 1, 6, 0, 0, 0⟩ : SGiven)] : List SGiven)) true, .box [.d (.int .i64 r186), .d (.int .i64 r1106)], .sl 8 (List.map e_SGiven ([(⟨0, 0, 0, 1, 7, 0, 0, 0⟩ : SGiven), (⟨0, 0, 0, 2, 4, 0, 0, 0⟩ : SGiven), (⟨0, 0, 0, 1, 7, 0, 0, 0⟩ : SGiven)] : List SGiven)) true] : List Blk)))) [] _ (arbitration_Decide_goes k true 2 ([(⟨0, 0, 0, 1, 7, 0, 0, 0⟩ : SGiven), (⟨0, 0, 0, 2, 4, 0, 0, 0⟩ : SGiven), (⟨0, 0, 0, 1, 7, 0, 0, 0⟩ : SGiven)] : List SGiven)) (by kernel_rfl) (by kernel_rfl) rfl (by kernel_rfl) Try.func13 rfl (by kernel_rfl) (convList (vs0 := [.agg [.d (.bool true), .d (.int .i64 2)], .ref 5 (List.length ([(⟨0, 0, 0, 1, 7, 0, 0, 0⟩ : SGiven), (⟨0, 0, 0, 2, 4, 0, 0, 0⟩ : SGiven), (⟨0, 0, 0, 1, 7, 0, 0, 0⟩ : SGiven)] : List SGiven)) 0 (List.length ([(⟨0, 0, 0, 1, 7, 0, 0, 0⟩ : SGiven), (⟨0, 0, 0, 2, 4, 0, 0, 0⟩ : SGiven), (⟨0, 0, 0, 1, 7, 0, 0, 0⟩ : SGiven)] : List SGiven))]) (vs := [.agg [.d (.bool true), .d (.int .i64 2)], .d (.lit (List.map e_SGiven ([(⟨0, 0, 0, 1, 7, 0, 0, 0⟩ : SGiven), (⟨0, 0, 0, 2, 4, 0, 0, 0⟩ : SGiven), (⟨0, 0, 0, 1, 7, 0, 0, 0⟩ : SGiven)] : List SGiven)))]) (by kernel_rfl) (.cons _ _ _ _ (.same _) (.cons _ _ _ _ (k_lit (enc := e_SGiven) (sz := 8) 5 ([(⟨0, 0, 0, 1, 7, 0, 0, 0⟩ : SGiven), (⟨0, 0, 0, 2, 4, 0, 0, 0⟩ : SGiven), (⟨0, 0, 0, 1, 7, 0, 0, 0⟩ : SGiven)] : List SGiven) (by kernel_rfl)) .nil))) (by kernel_rfl) (by kernel_rfl) (by kernel_rfl) (by decide) (by kernel_rfl) (by kernel_rfl) (fun _ => (by kernel_rfl)) (fun _ => (by kernel_rfl)) (fun _ => (by kernel_rfl)) (fun r => ?_)
  obtain ⟨r187, r1107⟩ := r
  refine bUc ?_
  refine oOp (.ptr 6 0) (by kernel_rfl) (by kernel_rfl) (k_alloc (H' := [.box [.d (.bool true), .d (.int .i64 2)], .sl 8 (List.map e_SGiven ([(⟨0, 0, 0, 1, 5, 0, 0, 0⟩ : SGiven), (⟨0, 0, 0, 1, 6, 0, 0, 0⟩ : SGiven)] : List SGiven)) true, .box [.d (.int .i64 r185), .d (.int .i64 r1105)], .sl 8 (List.map e_SGiven ([(⟨0, 0, 0, 1, 3, 0, 0, 0⟩ : SGiven), (⟨0, 0, 0, 1, 6, 0, 0, 0⟩ : SGiven)] : List SGiven)) true, .box [.d (.int .i64 r186), .d (.int .i64 r1106)], .sl 8 (List.map e_SGiven ([(⟨0, 0, 0, 1, 7, 0, 0, 0⟩ : SGiven), (⟨0, 0, 0, 2, 4, 0, 0, 0⟩ : SGiven), (⟨0, 0, 0, 1, 7, 0, 0, 0⟩ : SGiven)] : List SGiven)) true, .box [.d (.int .i64 0), .d (.int .i64 0)]]) ty33 (by kernel_rfl) (by kernel_rfl)) ?_
  refine oOp (.undef) (by kernel_rfl) (by kernel_rfl) (k_store (vs := [.d (.int .i64 r187), .d (.int .i64 r1107)]) (H' := [.box [.d (.bool true), .d (.int .i64 2)], .sl 8 (List.map e_SGiven ([(⟨0, 0, 0, 1, 5, 0, 0, 0⟩ : SGiven), (⟨0, 0, 0, 1, 6, 0, 0, 0⟩ : SGiven)] : List SGiven)) true, .box [.d (.int .i64 r185), .d (.int .i64 r1105)], .sl 8 (List.map e_SGiven ([(⟨0, 0, 0, 1, 3, 0, 0, 0⟩ : SGiven), (⟨0, 0, 0, 1, 6, 0, 0, 0⟩ : SGiven)] : List SGiven)) true, .box [.d (.int .i64 r186), .d (.int .i64 r1106)], .sl 8 (List.map e_SGiven ([(⟨0, 0, 0, 1, 7, 0, 0, 0⟩ : SGiven), (⟨0, 0, 0, 2, 4, 0, 0, 0⟩ : SGiven), (⟨0, 0, 0, 1, 7, 0, 0, 0⟩ : SGiven)] : List SGiven)) true, .box [.d (.int .i64 r187), .d (.int .i64 r1107)]]) 6 0 (by kernel_rfl) ty33 (by kernel_rfl) (by kernel_rfl) (by kernel_rfl)) ?_
  refine oEnd ?_
  refine oSeq ?_
  refine oRegion rfl ?_
  refine oOp (.agg [.d (.bool true), .d (.int .i64 2)]) (by kernel_rfl) (by kernel_rfl) (Quiet.does (k_loadAgg 0 0 (by kernel_rfl) Try.underlying28 (by kernel_rfl) ty28 (by kernel_rfl))) ?_
  refine oOp (.agg [.d (.int .i64 0), .d (.int .i64 0), .d (.int .i64 0), .d (.int .i64 1), .d (.int .i64 7), .d (.int .i64 0), .d (.int .i64 0), .d (.int .i64 0)]) (by kernel_rfl) (by kernel_rfl) (PureV.does (p_build bld38 (by kernel_rfl))) ?_
  refine oOp (.ref 7 (List.length ([(⟨0, 0, 0, 1, 7, 0, 0, 0⟩ : SGiven)] : List SGiven)) 0 (List.length ([(⟨0, 0, 0, 1, 7, 0, 0, 0⟩ : SGiven)] : List SGiven))) (by kernel_rfl) (by kernel_rfl) (k_buildSlice (H' := [.box [.d (.bool true), .d (.int .i64 2)], .sl 8 (List.map e_SGiven ([(⟨0, 0, 0, 1, 5, 0, 0, 0⟩ : SGiven), (⟨0, 0, 0, 1, 6, 0, 0, 0⟩ : SGiven)] : List SGiven)) true, .box [.d (.int .i64 r185), .d (.int .i64 r1105)], .sl 8 (List.map e_SGiven ([(⟨0, 0, 0, 1, 3, 0, 0, 0⟩ : SGiven), (⟨0, 0, 0, 1, 6, 0, 0, 0⟩ : SGiven)] : List SGiven)) true, .box [.d (.int .i64 r186), .d (.int .i64 r1106)], .sl 8 (List.map e_SGiven ([(⟨0, 0, 0, 1, 7, 0, 0, 0⟩ : SGiven), (⟨0, 0, 0, 2, 4, 0, 0, 0⟩ : SGiven), (⟨0, 0, 0, 1, 7, 0, 0, 0⟩ : SGiven)] : List SGiven)) true, .box [.d (.int .i64 r187), .d (.int .i64 r1107)], .sl 8 (List.map e_SGiven ([(⟨0, 0, 0, 1, 7, 0, 0, 0⟩ : SGiven)] : List SGiven)) false]) (List.map e_SGiven ([(⟨0, 0, 0, 1, 7, 0, 0, 0⟩ : SGiven)] : List SGiven)) Try.underlying30 ty38 (by kernel_rfl) (by kernel_rfl) (by kernel_rfl)) ?_
  refine oFreeze 7 (esz := 8) (xs := List.map e_SGiven ([(⟨0, 0, 0, 1, 7, 0, 0, 0⟩ : SGiven)] : List SGiven)) (by kernel_rfl) ?_
  refine oView (H' := [.box [.d (.bool true), .d (.int .i64 2)], .sl 8 (List.map e_SGiven ([(⟨0, 0, 0, 1, 5, 0, 0, 0⟩ : SGiven), (⟨0, 0, 0, 1, 6, 0, 0, 0⟩ : SGiven)] : List SGiven)) true, .box [.d (.int .i64 r185), .d (.int .i64 r1105)], .sl 8 (List.map e_SGiven ([(⟨0, 0, 0, 1, 3, 0, 0, 0⟩ : SGiven), (⟨0, 0, 0, 1, 6, 0, 0, 0⟩ : SGiven)] : List SGiven)) true, .box [.d (.int .i64 r186), .d (.int .i64 r1106)], .sl 8 (List.map e_SGiven ([(⟨0, 0, 0, 1, 7, 0, 0, 0⟩ : SGiven), (⟨0, 0, 0, 2, 4, 0, 0, 0⟩ : SGiven), (⟨0, 0, 0, 1, 7, 0, 0, 0⟩ : SGiven)] : List SGiven)) true, .box [.d (.int .i64 r187), .d (.int .i64 r1107)], .sl 8 (List.map e_SGiven ([(⟨0, 0, 0, 1, 7, 0, 0, 0⟩ : SGiven)] : List SGiven)) true]) rfl (by kernel_rfl) ?_
  refine bCall (caps := []) (v := (uc fun (r188 : Int) => (fun (r1108 : Int) => (.agg [.d (.int .i64 r188), .d (.int .i64 r1108)] : V)))) (H' := (uc fun (r188 : Int) => (fun (r1108 : Int) => ([.box [.d (.bool true), .d (.int .i64 2)], .sl 8 (List.map e_SGiven ([(⟨0, 0, 0, 1, 5, 0, 0, 0⟩ : SGiven), (⟨0, 0, 0, 1, 6, 0, 0, 0⟩ : SGiven)] : List SGiven)) true, .box [.d (.int .i64 r185), .d (.int .i64 r1105)], .sl 8 (List.map e_SGiven ([(⟨0, 0, 0, 1, 3, 0, 0, 0⟩ : SGiven), (⟨0, 0, 0, 1, 6, 0, 0, 0⟩ : SGiven)] : List SGiven)) true, .box [.d (.int .i64 r186), .d (.int .i64 r1106)], .sl 8 (List.map e_SGiven ([(⟨0, 0, 0, 1, 7, 0, 0, 0⟩ : SGiven), (⟨0, 0, 0, 2, 4, 0, 0, 0⟩ : SGiven), (⟨0, 0, 0, 1, 7, 0, 0, 0⟩ : SGiven)] : List SGiven)) true, .box [.d (.int .i64 r187), .d (.int .i64 r1107)], .sl 8 (List.map e_SGiven ([(⟨0, 0, 0, 1, 7, 0, 0, 0⟩ : SGiven)] : List SGiven)) true] : List Blk)))) [] _ (arbitration_Decide_goes k true 2 ([(⟨0, 0, 0, 1, 7, 0, 0, 0⟩ : SGiven)] : List SGiven)) (by kernel_rfl) (by kernel_rfl) rfl (by kernel_rfl) Try.func13 rfl (by kernel_rfl) (convList (vs0 := [.agg [.d (.bool true), .d (.int .i64 2)], .ref 7 (List.length ([(⟨0, 0, 0, 1, 7, 0, 0, 0⟩ : SGiven)] : List SGiven)) 0 (List.length ([(⟨0, 0, 0, 1, 7, 0, 0, 0⟩ : SGiven)] : List SGiven))]) (vs := [.agg [.d (.bool true), .d (.int .i64 2)], .d (.lit (List.map e_SGiven ([(⟨0, 0, 0, 1, 7, 0, 0, 0⟩ : SGiven)] : List SGiven)))]) (by kernel_rfl) (.cons _ _ _ _ (.same _) (.cons _ _ _ _ (k_lit (enc := e_SGiven) (sz := 8) 7 ([(⟨0, 0, 0, 1, 7, 0, 0, 0⟩ : SGiven)] : List SGiven) (by kernel_rfl)) .nil))) (by kernel_rfl) (by kernel_rfl) (by kernel_rfl) (by decide) (by kernel_rfl) (by kernel_rfl) (fun _ => (by kernel_rfl)) (fun _ => (by kernel_rfl)) (fun _ => (by kernel_rfl)) (fun r => ?_)
  obtain ⟨r188, r1108⟩ := r
  refine bUc ?_
  refine oOp (.ptr 8 0) (by kernel_rfl) (by kernel_rfl) (k_alloc (H' := [.box [.d (.bool true), .d (.int .i64 2)], .sl 8 (List.map e_SGiven ([(⟨0, 0, 0, 1, 5, 0, 0, 0⟩ : SGiven), (⟨0, 0, 0, 1, 6, 0, 0, 0⟩ : SGiven)] : List SGiven)) true, .box [.d (.int .i64 r185), .d (.int .i64 r1105)], .sl 8 (List.map e_SGiven ([(⟨0, 0, 0, 1, 3, 0, 0, 0⟩ : SGiven), (⟨0, 0, 0, 1, 6, 0, 0, 0⟩ : SGiven)] : List SGiven)) true, .box [.d (.int .i64 r186), .d (.int .i64 r1106)], .sl 8 (List.map e_SGiven ([(⟨0, 0, 0, 1, 7, 0, 0, 0⟩ : SGiven), (⟨0, 0, 0, 2, 4, 0, 0, 0⟩ : SGiven), (⟨0, 0, 0, 1, 7, 0, 0, 0⟩ : SGiven)] : List SGiven)) true, .box [.d (.int .i64 r187), .d (.int .i64 r1107)], .sl 8 (List.map e_SGiven ([(⟨0, 0, 0, 1, 7, 0, 0, 0⟩ : SGiven)] : List SGiven)) true, .box [.d (.int .i64 0), .d (.int .i64 0)]]) ty33 (by kernel_rfl) (by kernel_rfl)) ?_
  refine oOp (.undef) (by kernel_rfl) (by kernel_rfl) (k_store (vs := [.d (.int .i64 r188), .d (.int .i64 r1108)]) (H' := [.box [.d (.bool true), .d (.int .i64 2)], .sl 8 (List.map e_SGiven ([(⟨0, 0, 0, 1, 5, 0, 0, 0⟩ : SGiven), (⟨0, 0, 0, 1, 6, 0, 0, 0⟩ : SGiven)] : List SGiven)) true, .box [.d (.int .i64 r185), .d (.int .i64 r1105)], .sl 8 (List.map e_SGiven ([(⟨0, 0, 0, 1, 3, 0, 0, 0⟩ : SGiven), (⟨0, 0, 0, 1, 6, 0, 0, 0⟩ : SGiven)] : List SGiven)) true, .box [.d (.int .i64 r186), .d (.int .i64 r1106)], .sl 8 (List.map e_SGiven ([(⟨0, 0, 0, 1, 7, 0, 0, 0⟩ : SGiven), (⟨0, 0, 0, 2, 4, 0, 0, 0⟩ : SGiven), (⟨0, 0, 0, 1, 7, 0, 0, 0⟩ : SGiven)] : List SGiven)) true, .box [.d (.int .i64 r187), .d (.int .i64 r1107)], .sl 8 (List.map e_SGiven ([(⟨0, 0, 0, 1, 7, 0, 0, 0⟩ : SGiven)] : List SGiven)) true, .box [.d (.int .i64 r188), .d (.int .i64 r1108)]]) 8 0 (by kernel_rfl) ty33 (by kernel_rfl) (by kernel_rfl) (by kernel_rfl)) ?_
  refine oEnd ?_
  refine oSeq ?_
  refine oRegion rfl ?_
  refine oOp (.agg [.d (.int .i64 r185), .d (.int .i64 r1105)]) (by kernel_rfl) (by kernel_rfl) (Quiet.does (k_loadAgg 2 0 (by kernel_rfl) Try.underlying33 (by kernel_rfl) ty33 (by kernel_rfl))) ?_
  refine oOp (.agg [.d (.int .i64 3), .d (.int .i64 6)]) (by kernel_rfl) (by kernel_rfl) (PureV.does (p_build bld33 (by kernel_rfl))) ?_
  refine oOp (.d (.bool ((r185 == 3) && ((r1105 == 6) && true)))) (by kernel_rfl) (by kernel_rfl) (PureV.does (k_eqAgg (by kernel_rfl) (by kernel_rfl) Try.eqGuardType33 (EqV.struct 1 33 [.d (.int .i64 r185), .d (.int .i64 r1105)] [.d (.int .i64 3), .d (.int .i64 6)] _ ((r185 == 3) && ((r1105 == 6) && true)) Try.underlying33 Try.stoodInHeld33 (EqF.one 1 1 _ _ _ _ _ _ _ (r185 == 3) ((r1105 == 6) && true) (by kernel_rfl) Try.underlying3 (by kernel_rfl) (by kernel_rfl) (by kernel_rfl) (by kernel_rfl) (EqV.int 3 .i64 .i64 r185 3 Try.underlying3) (EqF.one 1 1 _ _ _ _ _ _ _ (r1105 == 6) true (by kernel_rfl) Try.underlying3 (by kernel_rfl) (by kernel_rfl) (by kernel_rfl) (by kernel_rfl) (EqV.int 3 .i64 .i64 r1105 6 Try.underlying3) (EqF.nil 1 _ _)))) (by kernel_rfl))) ?_
  refine oOp (.d (.bool ((r185 == 3) && ((r1105 == 6) && true)))) (by kernel_rfl) (by kernel_rfl) (PureV.does (p_move (by kernel_rfl))) ?_
  refine bMeetF (H' := [.box [.d (.bool true), .d (.int .i64 2)], .box [.d (.int .i64 r187), .d (.int .i64 r1107)], .box [.d (.int .i64 r188), .d (.int .i64 r1108)]]) 4 rfl ((fun (x5 : Bool) => [(1, .ptr 0 0), (4, .ptr 1 0), (5, .ptr 2 0), (34, .d (.bool x5))])) (fun x5 => ?_) (fun F hj1 => ?_)
  · refine oView (T' := [(1, .ptr 0 0), (4, .ptr 1 0), (5, .ptr 2 0), (34, .d (.bool x5))]) (H' := [.box [.d (.bool true), .d (.int .i64 2)], .box [.d (.int .i64 r187), .d (.int .i64 r1107)], .box [.d (.int .i64 r188), .d (.int .i64 r1108)]]) (by kernel_rfl) (by kernel_rfl) ?_
    refine oOp (.d (.bool x5)) (by kernel_rfl) (by kernel_rfl) (PureV.does (p_move (by kernel_rfl))) ?_
    refine bMeetF (H' := [.box [.d (.bool true), .d (.int .i64 2)], .box [.d (.int .i64 r188), .d (.int .i64 r1108)]]) 4 rfl ((fun (x6 : Bool) => [(1, .ptr 0 0), (5, .ptr 1 0), (39, .d (.bool x6))])) (fun x6 => ?_) (fun F hj2 => ?_)
    · refine oView (T' := [(1, .ptr 0 0), (5, .ptr 1 0), (39, .d (.bool x6))]) (H' := [.box [.d (.bool true), .d (.int .i64 2)], .box [.d (.int .i64 r188), .d (.int .i64 r1108)]]) (by kernel_rfl) (by kernel_rfl) ?_
      refine oOp (.d (.bool x6)) (by kernel_rfl) (by kernel_rfl) (PureV.does (p_move (by kernel_rfl))) ?_
      refine bMeetF (H' := [.box [.d (.bool true), .d (.int .i64 2)]]) 4 rfl ((fun (x7 : Bool) => [(1, .ptr 0 0), (44, .d (.bool x7))])) (fun x7 => ?_) (fun F hj3 => ?_)
      · refine oView (T' := [(1, .ptr 0 0), (44, .d (.bool x7))]) (H' := [.box [.d (.bool true), .d (.int .i64 2)]]) (by kernel_rfl) (by kernel_rfl) ?_
        refine oOp (.d (.bool x7)) (by kernel_rfl) (by kernel_rfl) (PureV.does (p_move (by kernel_rfl))) ?_
        refine bMeet 5 rfl ((fun (x8 : Bool) => [(1, .ptr 0 0), (50, .d (.bool x8))])) ((fun (x8 : Bool) => [.box [.d (.bool true), .d (.int .i64 2)]])) (fun s => s) (fun x8 => ?_) (fun hj5 => ?_)
        · refine oView (T' := [(1, .ptr 0 0), (50, .d (.bool x8))]) (H' := [.box [.d (.bool true), .d (.int .i64 2)]]) (by kernel_rfl) (by kernel_rfl) ?_
          refine oOp (.d (.bool x8)) (by kernel_rfl) (by kernel_rfl) (PureV.does (p_move (by kernel_rfl))) ?_
          refine bMeet 4 rfl ((fun (x9 : Bool) => [(55, .d (.bool x9))])) ((fun (x9 : Bool) => [])) (fun s => s) (fun x9 => ?_) (fun hj4 => ?_)
          · refine oView (T' := [(55, .d (.bool x9))]) (H' := []) (by kernel_rfl) (by kernel_rfl) ?_
            refine oOp (.d (.bool x9)) (by kernel_rfl) (by kernel_rfl) (PureV.does (p_assign (by kernel_rfl))) ?_
            refine oEnd ?_
            exact oRet (r0 := x9) (rv := .d (.bool x9)) (B := []) (vs := [.d (.bool x9)]) (σ := []) (by kernel_rfl) Try.func9 rfl (.cons _ _ _ _ (.tmp 0 _ (by kernel_rfl)) .nil) (by kernel_rfl) (by kernel_rfl) (by kernel_rfl) (by kernel_rfl) (by decide) (by kernel_rfl) (by kernel_rfl)
          · refine bSplit 51 (by kernel_rfl) (fun hc => ?_) (fun hc => ?_)
            · refine oOp (.agg [.d (.bool true), .d (.int .i64 2)]) (by kernel_rfl) (by kernel_rfl) (Quiet.does (k_loadAgg 0 0 (by kernel_rfl) Try.underlying28 (by kernel_rfl) ty28 (by kernel_rfl))) ?_
              refine bCall (caps := []) (v := (fun (r112 : Int) => (.d (.int .i64 r112) : V))) (H' := (fun (r112 : Int) => ([.box [.d (.bool true), .d (.int .i64 2)]] : List Blk))) [] _ (arbitration_Check_goes k true 2) (by kernel_rfl) (by kernel_rfl) rfl (by kernel_rfl) Try.func24 rfl (by kernel_rfl) (ConvRs.refl _ _) (by kernel_rfl) (by kernel_rfl) (by kernel_rfl) (by decide) (by kernel_rfl) (by kernel_rfl) (fun _ => (by kernel_rfl)) (fun _ => (by kernel_rfl)) (fun _ => (by kernel_rfl)) (fun r112 => ?_)
              refine oOp (.d (.bool (r112 == 0))) (by kernel_rfl) (by kernel_rfl) (PureV.does (p_int (k := .i64) (p := r112) (q := 0) (by kernel_rfl) (by kernel_rfl) (by kernel_rfl))) ?_
              refine oOp (.d (.bool (r112 == 0))) (by kernel_rfl) (by kernel_rfl) (PureV.does (p_pick (b := true) (by kernel_rfl) (by kernel_rfl))) ?_
              refine oHead [55] [] (T' := [(55, .d (.bool (r112 == 0)))]) (H' := []) (by kernel_rfl) (by kernel_rfl) (by kernel_rfl) (by kernel_rfl) (by decide) (by kernel_rfl) (by kernel_rfl) ?_
              exact hj4 (r112 == 0)
            · refine oNot (by kernel_rfl) (by kernel_rfl) ?_
              refine oNot (by kernel_rfl) (by kernel_rfl) ?_
              refine oNot (by kernel_rfl) (by kernel_rfl) ?_
              refine oOp (.d (.bool false)) (by kernel_rfl) (by kernel_rfl) (PureV.does (p_pick (b := false) (by kernel_rfl) (by kernel_rfl))) ?_
              refine oHead [55] [] (T' := [(55, .d (.bool false))]) (H' := []) (by kernel_rfl) (by kernel_rfl) (by kernel_rfl) (by kernel_rfl) (by decide) (by kernel_rfl) (by kernel_rfl) ?_
              exact hj4 false
        · refine bSplit 45 (by kernel_rfl) (fun hc => ?_) (fun hc => ?_)
          · refine oOp (.agg [.d (.bool true), .d (.int .i64 2)]) (by kernel_rfl) (by kernel_rfl) (Quiet.does (k_loadAgg 0 0 (by kernel_rfl) Try.underlying28 (by kernel_rfl) ty28 (by kernel_rfl))) ?_
            refine bCall (caps := []) (v := (uc fun (r1810 : Int) => (fun (r11010 : Int) => (.agg [.d (.int .i64 r1810), .d (.int .i64 r11010)] : V)))) (H' := (uc fun (r1810 : Int) => (fun (r11010 : Int) => ([.box [.d (.bool true), .d (.int .i64 2)]] : List Blk)))) [] _ (arbitration_Decide_goes k true 2 []) (by kernel_rfl) (by kernel_rfl) rfl (by kernel_rfl) Try.func13 rfl (by kernel_rfl) (convList (vs0 := [.agg [.d (.bool true), .d (.int .i64 2)], .nilc]) (vs := [.agg [.d (.bool true), .d (.int .i64 2)], .d (.lit (List.map e_SGiven []))]) (by kernel_rfl) (.cons _ _ _ _ (.same _) (.cons _ _ _ _ .nil .nil))) (by kernel_rfl) (by kernel_rfl) (by kernel_rfl) (by decide) (by kernel_rfl) (by kernel_rfl) (fun _ => (by kernel_rfl)) (fun _ => (by kernel_rfl)) (fun _ => (by kernel_rfl)) (fun r => ?_)
            obtain ⟨r1810, r11010⟩ := r
            refine bUc ?_
            refine oOp (.agg [.d (.int .i64 0), .d (.int .i64 0)]) (by kernel_rfl) (by kernel_rfl) (PureV.does (p_build bld33 (by kernel_rfl))) ?_
            refine oOp (.d (.bool ((r1810 == 0) && ((r11010 == 0) && true)))) (by kernel_rfl) (by kernel_rfl) (PureV.does (k_eqAgg (by kernel_rfl) (by kernel_rfl) Try.eqGuardType33 (EqV.struct 1 33 [.d (.int .i64 r1810), .d (.int .i64 r11010)] [.d (.int .i64 0), .d (.int .i64 0)] _ ((r1810 == 0) && ((r11010 == 0) && true)) Try.underlying33 Try.stoodInHeld33 (EqF.one 1 1 _ _ _ _ _ _ _ (r1810 == 0) ((r11010 == 0) && true) (by kernel_rfl) Try.underlying3 (by kernel_rfl) (by kernel_rfl) (by kernel_rfl) (by kernel_rfl) (EqV.int 3 .i64 .i64 r1810 0 Try.underlying3) (EqF.one 1 1 _ _ _ _ _ _ _ (r11010 == 0) true (by kernel_rfl) Try.underlying3 (by kernel_rfl) (by kernel_rfl) (by kernel_rfl) (by kernel_rfl) (EqV.int 3 .i64 .i64 r11010 0 Try.underlying3) (EqF.nil 1 _ _)))) (by kernel_rfl))) ?_
            refine oOp (.d (.bool ((r1810 == 0) && ((r11010 == 0) && true)))) (by kernel_rfl) (by kernel_rfl) (PureV.does (p_pick (b := true) (by kernel_rfl) (by kernel_rfl))) ?_
            refine oHead [1, 50] [0] (T' := [(1, .ptr 0 0), (50, .d (.bool ((r1810 == 0) && ((r11010 == 0) && true))))]) (H' := [.box [.d (.bool true), .d (.int .i64 2)]]) (by kernel_rfl) (by kernel_rfl) (by kernel_rfl) (by kernel_rfl) (by decide) (by kernel_rfl) (by kernel_rfl) ?_
            exact hj5 ((r1810 == 0) && ((r11010 == 0) && true))
          · refine oNot (by kernel_rfl) (by kernel_rfl) ?_
            refine oNot (by kernel_rfl) (by kernel_rfl) ?_
            refine oNot (by kernel_rfl) (by kernel_rfl) ?_
            refine oNot (by kernel_rfl) (by kernel_rfl) ?_
            refine oOp (.d (.bool false)) (by kernel_rfl) (by kernel_rfl) (PureV.does (p_pick (b := false) (by kernel_rfl) (by kernel_rfl))) ?_
            refine oHead [1, 50] [0] (T' := [(1, .ptr 0 0), (50, .d (.bool false))]) (H' := [.box [.d (.bool true), .d (.int .i64 2)]]) (by kernel_rfl) (by kernel_rfl) (by kernel_rfl) (by kernel_rfl) (by decide) (by kernel_rfl) (by kernel_rfl) ?_
            exact hj5 false
      · refine bPickF 40 (fun c => F (c && ((r188 == 1) && ((r1108 == 0) && true)))) (by kernel_rfl) (fun hc => ?_) (fun hc => ?_)
        · refine oOp (.agg [.d (.int .i64 r188), .d (.int .i64 r1108)]) (by kernel_rfl) (by kernel_rfl) (Quiet.does (k_loadAgg 1 0 (by kernel_rfl) Try.underlying33 (by kernel_rfl) ty33 (by kernel_rfl))) ?_
          refine oOp (.agg [.d (.int .i64 1), .d (.int .i64 0)]) (by kernel_rfl) (by kernel_rfl) (PureV.does (p_build bld33 (by kernel_rfl))) ?_
          refine oOp (.d (.bool ((r188 == 1) && ((r1108 == 0) && true)))) (by kernel_rfl) (by kernel_rfl) (PureV.does (k_eqAgg (by kernel_rfl) (by kernel_rfl) Try.eqGuardType33 (EqV.struct 1 33 [.d (.int .i64 r188), .d (.int .i64 r1108)] [.d (.int .i64 1), .d (.int .i64 0)] _ ((r188 == 1) && ((r1108 == 0) && true)) Try.underlying33 Try.stoodInHeld33 (EqF.one 1 1 _ _ _ _ _ _ _ (r188 == 1) ((r1108 == 0) && true) (by kernel_rfl) Try.underlying3 (by kernel_rfl) (by kernel_rfl) (by kernel_rfl) (by kernel_rfl) (EqV.int 3 .i64 .i64 r188 1 Try.underlying3) (EqF.one 1 1 _ _ _ _ _ _ _ (r1108 == 0) true (by kernel_rfl) Try.underlying3 (by kernel_rfl) (by kernel_rfl) (by kernel_rfl) (by kernel_rfl) (EqV.int 3 .i64 .i64 r1108 0 Try.underlying3) (EqF.nil 1 _ _)))) (by kernel_rfl))) ?_
          refine oOp (.d (.bool ((r188 == 1) && ((r1108 == 0) && true)))) (by kernel_rfl) (by kernel_rfl) (PureV.does (p_pick (b := true) (by kernel_rfl) (by kernel_rfl))) ?_
          refine oHead [1, 44] [0] (T' := [(1, .ptr 0 0), (44, .d (.bool ((r188 == 1) && ((r1108 == 0) && true))))]) (H' := [.box [.d (.bool true), .d (.int .i64 2)]]) (by kernel_rfl) (by kernel_rfl) (by kernel_rfl) (by kernel_rfl) (by decide) (by kernel_rfl) (by kernel_rfl) ?_
          exact hj3 ((r188 == 1) && ((r1108 == 0) && true))
        · refine oNot (by kernel_rfl) (by kernel_rfl) ?_
          refine oNot (by kernel_rfl) (by kernel_rfl) ?_
          refine oNot (by kernel_rfl) (by kernel_rfl) ?_
          refine oOp (.d (.bool false)) (by kernel_rfl) (by kernel_rfl) (PureV.does (p_pick (b := false) (by kernel_rfl) (by kernel_rfl))) ?_
          refine oHead [1, 44] [0] (T' := [(1, .ptr 0 0), (44, .d (.bool false))]) (H' := [.box [.d (.bool true), .d (.int .i64 2)]]) (by kernel_rfl) (by kernel_rfl) (by kernel_rfl) (by kernel_rfl) (by decide) (by kernel_rfl) (by kernel_rfl) ?_
          exact hj3 false
    · refine bPickF 35 (fun c => F (c && ((r187 == 3) && ((r1107 == 4) && true)))) (by kernel_rfl) (fun hc => ?_) (fun hc => ?_)
      · refine oOp (.agg [.d (.int .i64 r187), .d (.int .i64 r1107)]) (by kernel_rfl) (by kernel_rfl) (Quiet.does (k_loadAgg 1 0 (by kernel_rfl) Try.underlying33 (by kernel_rfl) ty33 (by kernel_rfl))) ?_
        refine oOp (.agg [.d (.int .i64 3), .d (.int .i64 4)]) (by kernel_rfl) (by kernel_rfl) (PureV.does (p_build bld33 (by kernel_rfl))) ?_
        refine oOp (.d (.bool ((r187 == 3) && ((r1107 == 4) && true)))) (by kernel_rfl) (by kernel_rfl) (PureV.does (k_eqAgg (by kernel_rfl) (by kernel_rfl) Try.eqGuardType33 (EqV.struct 1 33 [.d (.int .i64 r187), .d (.int .i64 r1107)] [.d (.int .i64 3), .d (.int .i64 4)] _ ((r187 == 3) && ((r1107 == 4) && true)) Try.underlying33 Try.stoodInHeld33 (EqF.one 1 1 _ _ _ _ _ _ _ (r187 == 3) ((r1107 == 4) && true) (by kernel_rfl) Try.underlying3 (by kernel_rfl) (by kernel_rfl) (by kernel_rfl) (by kernel_rfl) (EqV.int 3 .i64 .i64 r187 3 Try.underlying3) (EqF.one 1 1 _ _ _ _ _ _ _ (r1107 == 4) true (by kernel_rfl) Try.underlying3 (by kernel_rfl) (by kernel_rfl) (by kernel_rfl) (by kernel_rfl) (EqV.int 3 .i64 .i64 r1107 4 Try.underlying3) (EqF.nil 1 _ _)))) (by kernel_rfl))) ?_
        refine oOp (.d (.bool ((r187 == 3) && ((r1107 == 4) && true)))) (by kernel_rfl) (by kernel_rfl) (PureV.does (p_pick (b := true) (by kernel_rfl) (by kernel_rfl))) ?_
        refine oHead [1, 5, 39] [0, 2] (T' := [(1, .ptr 0 0), (5, .ptr 1 0), (39, .d (.bool ((r187 == 3) && ((r1107 == 4) && true))))]) (H' := [.box [.d (.bool true), .d (.int .i64 2)], .box [.d (.int .i64 r188), .d (.int .i64 r1108)]]) (by kernel_rfl) (by kernel_rfl) (by kernel_rfl) (by kernel_rfl) (by decide) (by kernel_rfl) (by kernel_rfl) ?_
        exact hj2 ((r187 == 3) && ((r1107 == 4) && true))
      · refine oNot (by kernel_rfl) (by kernel_rfl) ?_
        refine oNot (by kernel_rfl) (by kernel_rfl) ?_
        refine oNot (by kernel_rfl) (by kernel_rfl) ?_
        refine oOp (.d (.bool false)) (by kernel_rfl) (by kernel_rfl) (PureV.does (p_pick (b := false) (by kernel_rfl) (by kernel_rfl))) ?_
        refine oHead [1, 5, 39] [0, 2] (T' := [(1, .ptr 0 0), (5, .ptr 1 0), (39, .d (.bool false))]) (H' := [.box [.d (.bool true), .d (.int .i64 2)], .box [.d (.int .i64 r188), .d (.int .i64 r1108)]]) (by kernel_rfl) (by kernel_rfl) (by kernel_rfl) (by kernel_rfl) (by decide) (by kernel_rfl) (by kernel_rfl) ?_
        exact hj2 false
  · refine bPickF 30 (fun c => F (c && ((r186 == 2) && ((r1106 == 0) && true)))) (by kernel_rfl) (fun hc => ?_) (fun hc => ?_)
    · refine oOp (.agg [.d (.int .i64 r186), .d (.int .i64 r1106)]) (by kernel_rfl) (by kernel_rfl) (Quiet.does (k_loadAgg 4 0 (by kernel_rfl) Try.underlying33 (by kernel_rfl) ty33 (by kernel_rfl))) ?_
      refine oOp (.agg [.d (.int .i64 2), .d (.int .i64 0)]) (by kernel_rfl) (by kernel_rfl) (PureV.does (p_build bld33 (by kernel_rfl))) ?_
      refine oOp (.d (.bool ((r186 == 2) && ((r1106 == 0) && true)))) (by kernel_rfl) (by kernel_rfl) (PureV.does (k_eqAgg (by kernel_rfl) (by kernel_rfl) Try.eqGuardType33 (EqV.struct 1 33 [.d (.int .i64 r186), .d (.int .i64 r1106)] [.d (.int .i64 2), .d (.int .i64 0)] _ ((r186 == 2) && ((r1106 == 0) && true)) Try.underlying33 Try.stoodInHeld33 (EqF.one 1 1 _ _ _ _ _ _ _ (r186 == 2) ((r1106 == 0) && true) (by kernel_rfl) Try.underlying3 (by kernel_rfl) (by kernel_rfl) (by kernel_rfl) (by kernel_rfl) (EqV.int 3 .i64 .i64 r186 2 Try.underlying3) (EqF.one 1 1 _ _ _ _ _ _ _ (r1106 == 0) true (by kernel_rfl) Try.underlying3 (by kernel_rfl) (by kernel_rfl) (by kernel_rfl) (by kernel_rfl) (EqV.int 3 .i64 .i64 r1106 0 Try.underlying3) (EqF.nil 1 _ _)))) (by kernel_rfl))) ?_
      refine oOp (.d (.bool ((r186 == 2) && ((r1106 == 0) && true)))) (by kernel_rfl) (by kernel_rfl) (PureV.does (p_pick (b := true) (by kernel_rfl) (by kernel_rfl))) ?_
      refine oHead [1, 4, 5, 34] [0, 6, 8] (T' := [(1, .ptr 0 0), (4, .ptr 1 0), (5, .ptr 2 0), (34, .d (.bool ((r186 == 2) && ((r1106 == 0) && true))))]) (H' := [.box [.d (.bool true), .d (.int .i64 2)], .box [.d (.int .i64 r187), .d (.int .i64 r1107)], .box [.d (.int .i64 r188), .d (.int .i64 r1108)]]) (by kernel_rfl) (by kernel_rfl) (by kernel_rfl) (by kernel_rfl) (by decide) (by kernel_rfl) (by kernel_rfl) ?_
      exact hj1 ((r186 == 2) && ((r1106 == 0) && true))
    · refine oNot (by kernel_rfl) (by kernel_rfl) ?_
      refine oNot (by kernel_rfl) (by kernel_rfl) ?_
      refine oNot (by kernel_rfl) (by kernel_rfl) ?_
      refine oOp (.d (.bool false)) (by kernel_rfl) (by kernel_rfl) (PureV.does (p_pick (b := false) (by kernel_rfl) (by kernel_rfl))) ?_
      refine oHead [1, 4, 5, 34] [0, 6, 8] (T' := [(1, .ptr 0 0), (4, .ptr 1 0), (5, .ptr 2 0), (34, .d (.bool false))]) (H' := [.box [.d (.bool true), .d (.int .i64 2)], .box [.d (.int .i64 r187), .d (.int .i64 r1107)], .box [.d (.int .i64 r188), .d (.int .i64 r1108)]]) (by kernel_rfl) (by kernel_rfl) (by kernel_rfl) (by kernel_rfl) (by decide) (by kernel_rfl) (by kernel_rfl) ?_
      exact hj1 false

/-- awardingbody/awardingbodymark.Roll -/
def mark_Roll (k : Nat) (l : (List Int)) : Option (Unit) := some ()
def mark_Roll_E (l : (List Int)) : Unit → V × List Blk := u0 ((.ptr 0 0, [.box [.d (.lit (List.map e_i64 l)), .d (.int .i64 0)]]))
theorem mark_Roll_goes (k : Nat) (l : (List Int)) : RunsO Try.prog 10 [.d (.lit (List.map e_i64 l))] [] (mark_Roll_E l) (mark_Roll k l) := by
  refine RunsO.of_goes (N := 6) (m := 0) (T := [(0, .d (.lit (List.map e_i64 l)))]) Try.func10 rfl rfl (by kernel_rfl) (by kernel_rfl) (by kernel_rfl) ?_
  unfold mark_Roll
  refine bStart ?_
  refine oSeq ?_
  refine oRegion rfl ?_
  refine oOp (.nilptr) (by kernel_rfl) (by kernel_rfl) (PureV.does (p_assign (by kernel_rfl))) ?_
  refine oEnd ?_
  refine oSeq ?_
  refine oRegion rfl ?_
  refine oOp (.d (.lit (List.map e_i64 l))) (by kernel_rfl) (by kernel_rfl) (PureV.does (p_move (by kernel_rfl))) ?_
  refine oOp (.agg [.d (.lit (List.map e_i64 l)), .d (.int .i64 0)]) (by kernel_rfl) (by kernel_rfl) (PureV.does (p_build bld62 (by kernel_rfl))) ?_
  refine oOp (.ptr 0 0) (by kernel_rfl) (by kernel_rfl) (k_box (H' := [.box [.d (.lit (List.map e_i64 l)), .d (.int .i64 0)]]) (cells := [.d (.lit (List.map e_i64 l)), .d (.int .i64 0)]) (by kernel_rfl) (by kernel_rfl) (by kernel_rfl)) ?_
  refine oOp (.ptr 0 0) (by kernel_rfl) (by kernel_rfl) (PureV.does (p_assign (by kernel_rfl))) ?_
  refine oEnd ?_
  exact oRet (r0 := ()) (rv := .ptr 0 0) (B := [.box [.d (.lit (List.map e_i64 l)), .d (.int .i64 0)]]) (vs := [.ptr 0 0]) (σ := [0]) (by kernel_rfl) Try.func10 rfl (.cons _ _ _ _ (.tmp 2 _ (by kernel_rfl)) .nil) (by kernel_rfl) (by kernel_rfl) (by kernel_rfl) (by kernel_rfl) (by decide) (by kernel_rfl) (by kernel_rfl)

/-- (*awardingbody/awardingbodymark.Dice).Next -/
def mark_Dice_Next (k : Nat) (n : Int) (x : (List Int)) (x1 : Int) : Option (Int × Int) := blet ((decide (x1 ≥ ((List.length x) : Int))) || (decide (n < 1))) fun x8 => bif x8 then some (0, x1) else gidx x x1 fun e13 => gnz n (Option.bind (bif (decide ((Int.tmod e13 n) < 0)) then some ((IntKind.wrap .i64 ((Int.tmod e13 n) + n)), (IntKind.wrap .i64 (x1 + 1))) else some ((Int.tmod e13 n), (IntKind.wrap .i64 (x1 + 1))) : Option (Int × Int)) (uc fun x9 => fun x10 => some (x9, x10)))
def mark_Dice_Next_E (n : Int) (x : (List Int)) (x1 : Int) : Int × Int → V × List Blk := uc fun r1 => fun x6 => (.d (.int .i64 r1), [.box [.d (.lit (List.map e_i64 x)), .d (.int .i64 x6)]])
theorem mark_Dice_Next_goes (k : Nat) (n : Int) (x : (List Int)) (x1 : Int) : RunsO Try.prog 26 [.ptr 0 0, .d (.int .i64 n)] [.box [.d (.lit (List.map e_i64 x)), .d (.int .i64 x1)]] (mark_Dice_Next_E n x x1) (mark_Dice_Next k n x x1) := by
  refine RunsO.of_goes (N := 45) (m := 1) (T := [(0, .ptr 0 0), (1, .d (.int .i64 n))]) Try.func26 rfl rfl (by kernel_rfl) (by kernel_rfl) (by kernel_rfl) ?_
  unfold mark_Dice_Next
  refine bStart ?_
  refine oSeq ?_
  refine oRegion rfl ?_
  refine oOp (.d (.int .i64 0)) (by kernel_rfl) (by kernel_rfl) (PureV.does (p_assign (by kernel_rfl))) ?_
  refine oEnd ?_
  refine oSeq ?_
  refine oSeq ?_
  refine oDraw [0] rfl ?_
  refine aTakeL (i := 0) (st' := []) (.ptr 0 0) rfl (by kernel_rfl) (by kernel_rfl) (by kernel_rfl) (by kernel_rfl) (by kernel_rfl) (by kernel_rfl) (by kernel_rfl) (PureV.quiet (p_move (by kernel_rfl)) []) ?_
  refine aTakeL (i := 1) (st' := []) (.ptr 0 0) rfl (by kernel_rfl) (by kernel_rfl) (by kernel_rfl) (by kernel_rfl) (by kernel_rfl) (by kernel_rfl) (by kernel_rfl) (PureV.quiet (k_nilCheck 0 0 (by kernel_rfl) (by kernel_rfl)) []) ?_
  refine aTakeL (i := 2) (st' := []) (.ptr 0 1) rfl (by kernel_rfl) (by kernel_rfl) (by kernel_rfl) (by kernel_rfl) (by kernel_rfl) (by kernel_rfl) (by kernel_rfl) (PureV.quiet (k_fieldAddr 0 0 (by kernel_rfl) Try.underlying62 rfl ty3 (by kernel_rfl)) []) ?_
  refine aTakeL (i := 3) (st' := [0]) (.d (.int .i64 x1)) rfl (by kernel_rfl) (by kernel_rfl) (by kernel_rfl) (by kernel_rfl) (by kernel_rfl) (by kernel_rfl) (by kernel_rfl) (k_load 0 1 (by kernel_rfl) Try.underlying3 (by kernel_rfl) (by kernel_rfl)) ?_
  refine aTakeL (i := 4) (st' := []) (.ptr 0 0) rfl (by kernel_rfl) (by kernel_rfl) (by kernel_rfl) (by kernel_rfl) (by kernel_rfl) (by kernel_rfl) (by kernel_rfl) (PureV.quiet (p_move (by kernel_rfl)) []) ?_
  refine aTakeL (i := 5) (st' := []) (.ptr 0 0) rfl (by kernel_rfl) (by kernel_rfl) (by kernel_rfl) (by kernel_rfl) (by kernel_rfl) (by kernel_rfl) (by kernel_rfl) (PureV.quiet (k_nilCheck 0 0 (by kernel_rfl) (by kernel_rfl)) []) ?_
  refine aTakeL (i := 6) (st' := []) (.ptr 0 0) rfl (by kernel_rfl) (by kernel_rfl) (by kernel_rfl) (by kernel_rfl) (by kernel_rfl) (by kernel_rfl) (by kernel_rfl) (PureV.quiet (k_fieldAddr 0 0 (by kernel_rfl) Try.underlying62 rfl ty22 (by kernel_rfl)) []) ?_
  refine aTakeL (i := 7) (st' := [0]) (.d (.lit (List.map e_i64 x))) rfl (by kernel_rfl) (by kernel_rfl) (by kernel_rfl) (by kernel_rfl) (by kernel_rfl) (by kernel_rfl) (by kernel_rfl) (k_load 0 0 (by kernel_rfl) Try.underlying22 (by kernel_rfl) (by kernel_rfl)) ?_
  refine aTakeL (i := 8) (st' := []) (.d (.int .i64 ((List.length x) : Int))) rfl (by kernel_rfl) (by kernel_rfl) (by kernel_rfl) (by kernel_rfl) (by kernel_rfl) (by kernel_rfl) (by kernel_rfl) (PureV.quiet (k_lenLit (enc := e_i64) x (by kernel_rfl) Try.underlying22) []) ?_
  refine aTakeL (i := 9) (st' := []) (.d (.bool (decide (x1 ≥ ((List.length x) : Int))))) rfl (by kernel_rfl) (by kernel_rfl) (by kernel_rfl) (by kernel_rfl) (by kernel_rfl) (by kernel_rfl) (by kernel_rfl) (PureV.quiet (p_int (k := .i64) (p := x1) (q := ((List.length x) : Int)) (by kernel_rfl) (by kernel_rfl) (by kernel_rfl)) []) ?_
  refine aTakeL (i := 10) (st' := []) (.d (.bool (decide (x1 ≥ ((List.length x) : Int))))) rfl (by kernel_rfl) (by kernel_rfl) (by kernel_rfl) (by kernel_rfl) (by kernel_rfl) (by kernel_rfl) (by kernel_rfl) (PureV.quiet (p_move (by kernel_rfl)) []) ?_
  refine dMeetF [13, 12, 11, 10, 9, 8, 7, 6, 5, 4, 3, 2, 1, 0] (fun (x8 : Bool) => [(0, .ptr 0 0), (1, .d (.int .i64 n)), (19, .d (.bool x8))]) (fun (x8 : Bool) => [(0, .ptr 0 0), (1, .d (.int .i64 n)), (19, .d (.bool x8))]) (H' := [.box [.d (.lit (List.map e_i64 x)), .d (.int .i64 x1)]]) (fun x8 => ?_) (fun F hj3 => ?_)
  · refine aDone (by kernel_rfl) ?_
    refine bSplit 19 (by kernel_rfl) (fun hc => ?_) (fun hc => ?_)
    · refine oCondT (by kernel_rfl) ?_
      refine oSeq ?_
      refine oRegion rfl ?_
      refine oOp (.d (.int .i64 0)) (by kernel_rfl) (by kernel_rfl) (PureV.does (p_assign (by kernel_rfl))) ?_
      refine oEnd ?_
      exact oRet (r0 := (0, x1)) (rv := .d (.int .i64 0)) (B := [.box [.d (.lit (List.map e_i64 x)), .d (.int .i64 x1)]]) (vs := [.d (.int .i64 0)]) (σ := [0]) (by kernel_rfl) Try.func26 rfl (.cons _ _ _ _ (.tmp 4 _ (by kernel_rfl)) .nil) (by kernel_rfl) (by kernel_rfl) (by kernel_rfl) (by kernel_rfl) (by decide) (by kernel_rfl) (by kernel_rfl)
    · refine oCondF (by kernel_rfl) ?_
      refine oSkip ?_
      refine oSeq ?_
      refine oDraw [0] rfl ?_
      refine aTakeL (i := 0) (st' := []) (.ptr 0 0) rfl (by kernel_rfl) (by kernel_rfl) (by kernel_rfl) (by kernel_rfl) (by kernel_rfl) (by kernel_rfl) (by kernel_rfl) (PureV.quiet (p_move (by kernel_rfl)) []) ?_
      refine aTakeL (i := 1) (st' := []) (.ptr 0 0) rfl (by kernel_rfl) (by kernel_rfl) (by kernel_rfl) (by kernel_rfl) (by kernel_rfl) (by kernel_rfl) (by kernel_rfl) (PureV.quiet (k_nilCheck 0 0 (by kernel_rfl) (by kernel_rfl)) []) ?_
      refine aTakeL (i := 2) (st' := []) (.ptr 0 0) rfl (by kernel_rfl) (by kernel_rfl) (by kernel_rfl) (by kernel_rfl) (by kernel_rfl) (by kernel_rfl) (by kernel_rfl) (PureV.quiet (k_fieldAddr 0 0 (by kernel_rfl) Try.underlying62 rfl ty22 (by kernel_rfl)) []) ?_
      refine aTakeL (i := 3) (st' := [0]) (.d (.lit (List.map e_i64 x))) rfl (by kernel_rfl) (by kernel_rfl) (by kernel_rfl) (by kernel_rfl) (by kernel_rfl) (by kernel_rfl) (by kernel_rfl) (k_load 0 0 (by kernel_rfl) Try.underlying22 (by kernel_rfl) (by kernel_rfl)) ?_
      refine aTakeL (i := 4) (st' := []) (.ptr 0 0) rfl (by kernel_rfl) (by kernel_rfl) (by kernel_rfl) (by kernel_rfl) (by kernel_rfl) (by kernel_rfl) (by kernel_rfl) (PureV.quiet (p_move (by kernel_rfl)) []) ?_
      refine aTakeL (i := 5) (st' := []) (.ptr 0 0) rfl (by kernel_rfl) (by kernel_rfl) (by kernel_rfl) (by kernel_rfl) (by kernel_rfl) (by kernel_rfl) (by kernel_rfl) (PureV.quiet (k_nilCheck 0 0 (by kernel_rfl) (by kernel_rfl)) []) ?_
      refine aTakeL (i := 6) (st' := []) (.ptr 0 1) rfl (by kernel_rfl) (by kernel_rfl) (by kernel_rfl) (by kernel_rfl) (by kernel_rfl) (by kernel_rfl) (by kernel_rfl) (PureV.quiet (k_fieldAddr 0 0 (by kernel_rfl) Try.underlying62 rfl ty3 (by kernel_rfl)) []) ?_
      refine aTakeL (i := 7) (st' := [0]) (.d (.int .i64 x1)) rfl (by kernel_rfl) (by kernel_rfl) (by kernel_rfl) (by kernel_rfl) (by kernel_rfl) (by kernel_rfl) (by kernel_rfl) (k_load 0 1 (by kernel_rfl) Try.underlying3 (by kernel_rfl) (by kernel_rfl)) ?_
      refine dIdx (fun e13 h112 h113 => ?_)
      refine aTakeL (i := 8) (st' := []) (.lptr (e_i64 e13) 0) rfl (by kernel_rfl) (by kernel_rfl) (by kernel_rfl) (by kernel_rfl) (by kernel_rfl) (by kernel_rfl) (by kernel_rfl) (PureV.quiet (k_idxLit e_i64_len x (a := e13) (by kernel_rfl) (k := .i64) (i := x1) (by kernel_rfl) Try.underlying22 ty3 h112 h113) []) ?_
      refine aTakeL (i := 9) (st' := []) (.d (.int .i64 e13)) rfl (by kernel_rfl) (by kernel_rfl) (by kernel_rfl) (by kernel_rfl) (by kernel_rfl) (by kernel_rfl) (by kernel_rfl) (k_loadL (cells := e_i64 e13) 0 (by kernel_rfl) Try.underlying3 (by kernel_rfl) (by kernel_rfl)) ?_
      refine aTakeL (i := 10) (st' := []) (.d (.int .i64 n)) rfl (by kernel_rfl) (by kernel_rfl) (by kernel_rfl) (by kernel_rfl) (by kernel_rfl) (by kernel_rfl) (by kernel_rfl) (PureV.quiet (p_move (by kernel_rfl)) []) ?_
      refine dNz (fun h114 => ?_)
      refine aTakeP (i := 11) (.d (.int .i64 (Int.tmod e13 n))) rfl (by kernel_rfl) (by kernel_rfl) (by kernel_rfl) (by kernel_rfl) (by kernel_rfl) (by kernel_rfl) (p_rem (k := .i64) (p := e13) (q := n) (by kernel_rfl) (by kernel_rfl) h114 (by kernel_rfl)) ?_
      refine aTakeL (i := 12) (st' := []) (.d (.int .i64 (Int.tmod e13 n))) rfl (by kernel_rfl) (by kernel_rfl) (by kernel_rfl) (by kernel_rfl) (by kernel_rfl) (by kernel_rfl) (by kernel_rfl) (PureV.quiet (p_assign (by kernel_rfl)) []) ?_
      refine aDone (by kernel_rfl) ?_
      refine oSeq ?_
      refine oRegion rfl ?_
      refine oOp (.ptr 0 0) (by kernel_rfl) (by kernel_rfl) (PureV.does (p_move (by kernel_rfl))) ?_
      refine oOp (.ptr 0 0) (by kernel_rfl) (by kernel_rfl) (PureV.does (k_nilCheck 0 0 (by kernel_rfl) (by kernel_rfl))) ?_
      refine oOp (.ptr 0 1) (by kernel_rfl) (by kernel_rfl) (PureV.does (k_fieldAddr 0 0 (by kernel_rfl) Try.underlying62 rfl ty3 (by kernel_rfl))) ?_
      refine oOp (.d (.int .i64 x1)) (by kernel_rfl) (by kernel_rfl) (Quiet.does (k_load 0 1 (by kernel_rfl) Try.underlying3 (by kernel_rfl) (by kernel_rfl))) ?_
      refine oOp (.d (.int .i64 (IntKind.wrap .i64 (x1 + 1)))) (by kernel_rfl) (by kernel_rfl) (PureV.does (p_int (k := .i64) (p := x1) (q := 1) (by kernel_rfl) (by kernel_rfl) (by kernel_rfl))) ?_
      refine oOp (.ptr 0 0) (by kernel_rfl) (by kernel_rfl) (PureV.does (k_nilCheck 0 0 (by kernel_rfl) (by kernel_rfl))) ?_
      refine oOp (.ptr 0 1) (by kernel_rfl) (by kernel_rfl) (PureV.does (k_fieldAddr 0 0 (by kernel_rfl) Try.underlying62 rfl ty3 (by kernel_rfl))) ?_
      refine oOp (.undef) (by kernel_rfl) (by kernel_rfl) (k_store (vs := [.d (.int .i64 (IntKind.wrap .i64 (x1 + 1)))]) (H' := [.box [.d (.lit (List.map e_i64 x)), .d (.int .i64 (IntKind.wrap .i64 (x1 + 1)))]]) 0 1 (by kernel_rfl) ty3 (by kernel_rfl) (by kernel_rfl) (by kernel_rfl)) ?_
      refine oEnd ?_
      refine oSeq ?_
      refine oSeq ?_
      refine oRegion rfl ?_
      refine oOp (.d (.int .i64 (Int.tmod e13 n))) (by kernel_rfl) (by kernel_rfl) (PureV.does (p_move (by kernel_rfl))) ?_
      refine oOp (.d (.bool (decide ((Int.tmod e13 n) < 0)))) (by kernel_rfl) (by kernel_rfl) (PureV.does (p_int (k := .i64) (p := (Int.tmod e13 n)) (q := 0) (by kernel_rfl) (by kernel_rfl) (by kernel_rfl))) ?_
      refine oEnd ?_
      refine bJoin ((uc fun (x9 : Int) => (fun (x10 : Int) => [(5, .d (.int .i64 x9))]))) ((uc fun (x9 : Int) => (fun (x10 : Int) => [.box [.d (.lit (List.map e_i64 x)), .d (.int .i64 x10)]]))) (fun s => s) (fun s => ?_) (fun hj4 => ?_)
      · obtain ⟨x9, x10⟩ := s
        refine bUc ?_
        refine oView (T' := [(5, .d (.int .i64 x9))]) (H' := [.box [.d (.lit (List.map e_i64 x)), .d (.int .i64 x10)]]) (by kernel_rfl) (by kernel_rfl) ?_
        refine oSeq ?_
        refine oRegion rfl ?_
        refine oOp (.d (.int .i64 x9)) (by kernel_rfl) (by kernel_rfl) (PureV.does (p_move (by kernel_rfl))) ?_
        refine oOp (.d (.int .i64 x9)) (by kernel_rfl) (by kernel_rfl) (PureV.does (p_assign (by kernel_rfl))) ?_
        refine oEnd ?_
        exact oRet (r0 := (x9, x10)) (rv := .d (.int .i64 x9)) (B := [.box [.d (.lit (List.map e_i64 x)), .d (.int .i64 x10)]]) (vs := [.d (.int .i64 x9)]) (σ := [0]) (by kernel_rfl) Try.func26 rfl (.cons _ _ _ _ (.tmp 4 _ (by kernel_rfl)) .nil) (by kernel_rfl) (by kernel_rfl) (by kernel_rfl) (by kernel_rfl) (by decide) (by kernel_rfl) (by kernel_rfl)
      · refine bSplit 40 (by kernel_rfl) (fun hc => ?_) (fun hc => ?_)
        · refine oCondT (by kernel_rfl) ?_
          refine oRegion rfl ?_
          refine oOp (.d (.int .i64 (Int.tmod e13 n))) (by kernel_rfl) (by kernel_rfl) (PureV.does (p_move (by kernel_rfl))) ?_
          refine oOp (.d (.int .i64 n)) (by kernel_rfl) (by kernel_rfl) (PureV.does (p_move (by kernel_rfl))) ?_
          refine oOp (.d (.int .i64 (IntKind.wrap .i64 ((Int.tmod e13 n) + n)))) (by kernel_rfl) (by kernel_rfl) (PureV.does (p_int (k := .i64) (p := (Int.tmod e13 n)) (q := n) (by kernel_rfl) (by kernel_rfl) (by kernel_rfl))) ?_
          refine oOp (.d (.int .i64 (IntKind.wrap .i64 ((Int.tmod e13 n) + n)))) (by kernel_rfl) (by kernel_rfl) (PureV.does (p_assign (by kernel_rfl))) ?_
          refine oEnd ?_
          refine oHead [5] [0] (T' := [(5, .d (.int .i64 (IntKind.wrap .i64 ((Int.tmod e13 n) + n))))]) (H' := [.box [.d (.lit (List.map e_i64 x)), .d (.int .i64 (IntKind.wrap .i64 (x1 + 1)))]]) (by kernel_rfl) (by kernel_rfl) (by kernel_rfl) (by kernel_rfl) (by decide) (by kernel_rfl) (by kernel_rfl) ?_
          exact hj4 ((IntKind.wrap .i64 ((Int.tmod e13 n) + n)), (IntKind.wrap .i64 (x1 + 1)))
        · refine oCondF (by kernel_rfl) ?_
          refine oSkip ?_
          refine oHead [5] [0] (T' := [(5, .d (.int .i64 (Int.tmod e13 n)))]) (H' := [.box [.d (.lit (List.map e_i64 x)), .d (.int .i64 (IntKind.wrap .i64 (x1 + 1)))]]) (by kernel_rfl) (by kernel_rfl) (by kernel_rfl) (by kernel_rfl) (by decide) (by kernel_rfl) (by kernel_rfl) ?_
          exact hj4 ((Int.tmod e13 n), (IntKind.wrap .i64 (x1 + 1)))
  · refine dPickF 16 (fun c => F (c || (decide (n < 1)))) (by kernel_rfl) (by kernel_rfl) (fun hc => ?_) (fun hc => ?_)
    · refine aTakeNot (i := 11) rfl (by kernel_rfl) (by kernel_rfl) (by kernel_rfl) (by kernel_rfl) (by kernel_rfl) (by kernel_rfl) ?_
      refine aTakeNot (i := 12) rfl (by kernel_rfl) (by kernel_rfl) (by kernel_rfl) (by kernel_rfl) (by kernel_rfl) (by kernel_rfl) ?_
      refine aTakeL (i := 13) (st' := []) (.d (.bool true)) rfl (by kernel_rfl) (by kernel_rfl) (by kernel_rfl) (by kernel_rfl) (by kernel_rfl) (by kernel_rfl) (by kernel_rfl) (PureV.quiet (p_pick (b := true) (by kernel_rfl) (by kernel_rfl)) []) ?_
      refine dDrop [0, 1, 19] [0, 1, 19] (T' := [(0, .ptr 0 0), (1, .d (.int .i64 n)), (19, .d (.bool true))]) (U' := [(0, .ptr 0 0), (1, .d (.int .i64 n)), (19, .d (.bool true))]) (by kernel_rfl) (by kernel_rfl) ?_
      exact hj3 true
    · refine aTakeL (i := 11) (st' := []) (.d (.int .i64 n)) rfl (by kernel_rfl) (by kernel_rfl) (by kernel_rfl) (by kernel_rfl) (by kernel_rfl) (by kernel_rfl) (by kernel_rfl) (PureV.quiet (p_move (by kernel_rfl)) []) ?_
      refine aTakeL (i := 12) (st' := []) (.d (.bool (decide (n < 1)))) rfl (by kernel_rfl) (by kernel_rfl) (by kernel_rfl) (by kernel_rfl) (by kernel_rfl) (by kernel_rfl) (by kernel_rfl) (PureV.quiet (p_int (k := .i64) (p := n) (q := 1) (by kernel_rfl) (by kernel_rfl) (by kernel_rfl)) []) ?_
      refine aTakeL (i := 13) (st' := []) (.d (.bool (decide (n < 1)))) rfl (by kernel_rfl) (by kernel_rfl) (by kernel_rfl) (by kernel_rfl) (by kernel_rfl) (by kernel_rfl) (by kernel_rfl) (PureV.quiet (p_pick (b := false) (by kernel_rfl) (by kernel_rfl)) []) ?_
      refine dDrop [0, 1, 19] [0, 1, 19] (T' := [(0, .ptr 0 0), (1, .d (.int .i64 n)), (19, .d (.bool (decide (n < 1))))]) (U' := [(0, .ptr 0 0), (1, .d (.int .i64 n)), (19, .d (.bool (decide (n < 1))))]) (by kernel_rfl) (by kernel_rfl) ?_
      exact hj3 (decide (n < 1))

/-- (*awardingbody/awardingbodymark.Dice).Bool -/
def mark_Dice_Bool (k : Nat) (n : Int) (x : (List Int)) (x1 : Int) : Option (Bool × Int) := Option.bind (mark_Dice_Next k n x x1) (uc fun r12 => fun x61 => some ((r12 == (IntKind.wrap .i64 (n - 1))), x61))
def mark_Dice_Bool_E (n : Int) (x : (List Int)) (x1 : Int) : Bool × Int → V × List Blk := uc fun r11 => fun x2 => (.d (.bool r11), [.box [.d (.lit (List.map e_i64 x)), .d (.int .i64 x2)]])
theorem mark_Dice_Bool_goes (k : Nat) (n : Int) (x : (List Int)) (x1 : Int) : RunsO Try.prog 25 [.ptr 0 0, .d (.int .i64 n)] [.box [.d (.lit (List.map e_i64 x)), .d (.int .i64 x1)]] (mark_Dice_Bool_E n x x1) (mark_Dice_Bool k n x x1) := by
  refine RunsO.of_goes (N := 11) (m := 1) (T := [(0, .ptr 0 0), (1, .d (.int .i64 n))]) Try.func25 rfl rfl (by kernel_rfl) (by kernel_rfl) (by kernel_rfl) ?_
  unfold mark_Dice_Bool
  refine bStart ?_
  refine oSeq ?_
  refine oRegion rfl ?_
  refine oOp (.d (.bool false)) (by kernel_rfl) (by kernel_rfl) (PureV.does (p_assign (by kernel_rfl))) ?_
  refine oEnd ?_
  refine oSeq ?_
  refine oRegion rfl ?_
  refine oOp (.ptr 0 0) (by kernel_rfl) (by kernel_rfl) (PureV.does (p_move (by kernel_rfl))) ?_
  refine oOp (.d (.int .i64 n)) (by kernel_rfl) (by kernel_rfl) (PureV.does (p_move (by kernel_rfl))) ?_
  refine bCall (caps := []) (v := (uc fun (r12 : Int) => (fun (x61 : Int) => (.d (.int .i64 r12) : V)))) (H' := (uc fun (r12 : Int) => (fun (x61 : Int) => ([.box [.d (.lit (List.map e_i64 x)), .d (.int .i64 x61)]] : List Blk)))) [0] _ (mark_Dice_Next_goes k n x x1) (by kernel_rfl) (by kernel_rfl) rfl (by kernel_rfl) Try.func26 rfl (by kernel_rfl) (ConvRs.refl _ _) (by kernel_rfl) (by kernel_rfl) (by kernel_rfl) (by decide) (by kernel_rfl) (by kernel_rfl) (fun _ => (by kernel_rfl)) (fun _ => (by kernel_rfl)) (fun _ => (by kernel_rfl)) (fun r => ?_)
  obtain ⟨r12, x61⟩ := r
  refine bUc ?_
  refine oOp (.d (.int .i64 n)) (by kernel_rfl) (by kernel_rfl) (PureV.does (p_move (by kernel_rfl))) ?_
  refine oOp (.d (.int .i64 (IntKind.wrap .i64 (n - 1)))) (by kernel_rfl) (by kernel_rfl) (PureV.does (p_int (k := .i64) (p := n) (q := 1) (by kernel_rfl) (by kernel_rfl) (by kernel_rfl))) ?_
  refine oOp (.d (.bool (r12 == (IntKind.wrap .i64 (n - 1))))) (by kernel_rfl) (by kernel_rfl) (PureV.does (p_int (k := .i64) (p := r12) (q := (IntKind.wrap .i64 (n - 1))) (by kernel_rfl) (by kernel_rfl) (by kernel_rfl))) ?_
  refine oOp (.d (.bool (r12 == (IntKind.wrap .i64 (n - 1))))) (by kernel_rfl) (by kernel_rfl) (PureV.does (p_assign (by kernel_rfl))) ?_
  refine oEnd ?_
  exact oRet (r0 := ((r12 == (IntKind.wrap .i64 (n - 1))), x61)) (rv := .d (.bool (r12 == (IntKind.wrap .i64 (n - 1))))) (B := [.box [.d (.lit (List.map e_i64 x)), .d (.int .i64 x61)]]) (vs := [.d (.bool (r12 == (IntKind.wrap .i64 (n - 1))))]) (σ := [0]) (by kernel_rfl) Try.func25 rfl (.cons _ _ _ _ (.tmp 4 _ (by kernel_rfl)) .nil) (by kernel_rfl) (by kernel_rfl) (by kernel_rfl) (by kernel_rfl) (by decide) (by kernel_rfl) (by kernel_rfl)

/-- (*awardingbody/awardingbodymark.Dice).Rule -/
def mark_Dice_Rule (k : Nat) (x : (List Int)) (x1 : Int) : Option (Bool × Int × Int) := Option.bind (mark_Dice_Bool k 2 x x1) (uc fun r111 => fun x21 => Option.bind (mark_Dice_Next k 3 x x21) (uc fun r14 => fun x61 => some (r111, r14, x61)))
def mark_Dice_Rule_E (x : (List Int)) (x1 : Int) : Bool × Int × Int → V × List Blk := uc fun r12 => uc fun r13 => fun x3 => (.agg [.d (.bool r12), .d (.int .i64 r13)], [.box [.d (.lit (List.map e_i64 x)), .d (.int .i64 x3)]])
theorem mark_Dice_Rule_goes (k : Nat) (x : (List Int)) (x1 : Int) : RunsO Try.prog 11 [.ptr 0 0] [.box [.d (.lit (List.map e_i64 x)), .d (.int .i64 x1)]] (mark_Dice_Rule_E x x1) (mark_Dice_Rule k x x1) := by
  refine RunsO.of_goes (N := 8) (m := 1) (T := [(0, .ptr 0 0)]) Try.func11 rfl rfl (by kernel_rfl) (by kernel_rfl) (by kernel_rfl) ?_
  unfold mark_Dice_Rule
  refine bStart ?_
  refine oSeq ?_
  refine oRegion rfl ?_
  refine oOp (.ptr 1 0) (by kernel_rfl) (by kernel_rfl) (k_alloc (H' := [.box [.d (.lit (List.map e_i64 x)), .d (.int .i64 x1)], .box [.d (.bool false), .d (.int .i64 0)]]) ty28 (by kernel_rfl) (by kernel_rfl)) ?_
  refine oEnd ?_
  refine oSeq ?_
  refine oRegion rfl ?_
  refine oOp (.ptr 0 0) (by kernel_rfl) (by kernel_rfl) (PureV.does (p_move (by kernel_rfl))) ?_
  refine bCall (caps := []) (v := (uc fun (r111 : Bool) => (fun (x21 : Int) => (.d (.bool r111) : V)))) (H' := (uc fun (r111 : Bool) => (fun (x21 : Int) => ([.box [.d (.lit (List.map e_i64 x)), .d (.int .i64 x21)], .box [.d (.bool false), .d (.int .i64 0)]] : List Blk)))) [0] _ (mark_Dice_Bool_goes k 2 x x1) (by kernel_rfl) (by kernel_rfl) rfl (by kernel_rfl) Try.func25 rfl (by kernel_rfl) (ConvRs.refl _ _) (by kernel_rfl) (by kernel_rfl) (by kernel_rfl) (by decide) (by kernel_rfl) (by kernel_rfl) (fun _ => (by kernel_rfl)) (fun _ => (by kernel_rfl)) (fun _ => (by kernel_rfl)) (fun r => ?_)
  obtain ⟨r111, x21⟩ := r
  refine bUc ?_
  refine oOp (.ptr 0 0) (by kernel_rfl) (by kernel_rfl) (PureV.does (p_move (by kernel_rfl))) ?_
  refine bCall (caps := []) (v := (uc fun (r14 : Int) => (fun (x61 : Int) => (.d (.int .i64 r14) : V)))) (H' := (uc fun (r14 : Int) => (fun (x61 : Int) => ([.box [.d (.lit (List.map e_i64 x)), .d (.int .i64 x61)], .box [.d (.bool false), .d (.int .i64 0)]] : List Blk)))) [0] _ (mark_Dice_Next_goes k 3 x x21) (by kernel_rfl) (by kernel_rfl) rfl (by kernel_rfl) Try.func26 rfl (by kernel_rfl) (ConvRs.refl _ _) (by kernel_rfl) (by kernel_rfl) (by kernel_rfl) (by decide) (by kernel_rfl) (by kernel_rfl) (fun _ => (by kernel_rfl)) (fun _ => (by kernel_rfl)) (fun _ => (by kernel_rfl)) (fun r => ?_)
  obtain ⟨r14, x61⟩ := r
  refine bUc ?_
  refine oOp (.agg [.d (.bool r111), .d (.int .i64 r14)]) (by kernel_rfl) (by kernel_rfl) (PureV.does (p_build bld28 (by kernel_rfl))) ?_
  refine oOp (.undef) (by kernel_rfl) (by kernel_rfl) (k_store (vs := [.d (.bool r111), .d (.int .i64 r14)]) (H' := [.box [.d (.lit (List.map e_i64 x)), .d (.int .i64 x61)], .box [.d (.bool r111), .d (.int .i64 r14)]]) 1 0 (by kernel_rfl) ty28 (by kernel_rfl) (by kernel_rfl) (by kernel_rfl)) ?_
  refine oEnd ?_
  exact oRet (r0 := (r111, r14, x61)) (rv := .agg [.d (.bool r111), .d (.int .i64 r14)]) (B := [.box [.d (.lit (List.map e_i64 x)), .d (.int .i64 x61)]]) (vs := [.agg [.d (.bool r111), .d (.int .i64 r14)]]) (σ := [0]) (by kernel_rfl) Try.func11 rfl (.cons _ _ _ _ (.agg 2 28 1 0 [.d (.bool r111), .d (.int .i64 r14)] [.d (.bool r111), .d (.int .i64 r14)] _ _ _ _ (by kernel_rfl) (by kernel_rfl) Try.underlying28 (by kernel_rfl) ty28 (by kernel_rfl) (by kernel_rfl)) .nil) (by kernel_rfl) (by kernel_rfl) (by kernel_rfl) (by kernel_rfl) (by decide) (by kernel_rfl) (by kernel_rfl)

/-- (*awardingbody/awardingbodymark.Dice).Pick -/
def mark_Dice_Pick (k : Nat) (l : (List Int)) (x : (List Int)) (x1 : Int) : Option (Int × Int) := Option.bind (mark_Dice_Next k ((List.length l) : Int) x x1) (uc fun r12 => fun x61 => gidx l r12 fun e11 => some (e11, x61))
def mark_Dice_Pick_E (l : (List Int)) (x : (List Int)) (x1 : Int) : Int × Int → V × List Blk := uc fun r11 => fun x2 => (.d (.int .i64 r11), [.box [.d (.lit (List.map e_i64 x)), .d (.int .i64 x2)]])
theorem mark_Dice_Pick_goes (k : Nat) (l : (List Int)) (x : (List Int)) (x1 : Int) : RunsO Try.prog 27 [.ptr 0 0, .d (.lit (List.map e_i64 l))] [.box [.d (.lit (List.map e_i64 x)), .d (.int .i64 x1)]] (mark_Dice_Pick_E l x x1) (mark_Dice_Pick k l x x1) := by
  refine RunsO.of_goes (N := 12) (m := 1) (T := [(0, .ptr 0 0), (1, .d (.lit (List.map e_i64 l)))]) Try.func27 rfl rfl (by kernel_rfl) (by kernel_rfl) (by kernel_rfl) ?_
  unfold mark_Dice_Pick
  refine bStart ?_
  refine oSeq ?_
  refine oRegion rfl ?_
  refine oOp (.d (.int .i64 0)) (by kernel_rfl) (by kernel_rfl) (PureV.does (p_assign (by kernel_rfl))) ?_
  refine oEnd ?_
  refine oSeq ?_
  refine oRegion rfl ?_
  refine oOp (.d (.lit (List.map e_i64 l))) (by kernel_rfl) (by kernel_rfl) (PureV.does (p_move (by kernel_rfl))) ?_
  refine oOp (.ptr 0 0) (by kernel_rfl) (by kernel_rfl) (PureV.does (p_move (by kernel_rfl))) ?_
  refine oOp (.d (.lit (List.map e_i64 l))) (by kernel_rfl) (by kernel_rfl) (PureV.does (p_move (by kernel_rfl))) ?_
  refine oOp (.d (.int .i64 ((List.length l) : Int))) (by kernel_rfl) (by kernel_rfl) (PureV.does (k_lenLit (enc := e_i64) l (by kernel_rfl) Try.underlying22)) ?_
  refine bCall (caps := []) (v := (uc fun (r12 : Int) => (fun (x61 : Int) => (.d (.int .i64 r12) : V)))) (H' := (uc fun (r12 : Int) => (fun (x61 : Int) => ([.box [.d (.lit (List.map e_i64 x)), .d (.int .i64 x61)]] : List Blk)))) [0] _ (mark_Dice_Next_goes k ((List.length l) : Int) x x1) (by kernel_rfl) (by kernel_rfl) rfl (by kernel_rfl) Try.func26 rfl (by kernel_rfl) (ConvRs.refl _ _) (by kernel_rfl) (by kernel_rfl) (by kernel_rfl) (by decide) (by kernel_rfl) (by kernel_rfl) (fun _ => (by kernel_rfl)) (fun _ => (by kernel_rfl)) (fun _ => (by kernel_rfl)) (fun r => ?_)
  obtain ⟨r12, x61⟩ := r
  refine bUc ?_
  refine bIdx (fun e11 h12 h13 => ?_)
  refine oOp (.lptr (e_i64 e11) 0) (by kernel_rfl) (by kernel_rfl) (PureV.does (k_idxLit e_i64_len l (a := e11) (by kernel_rfl) (k := .i64) (i := r12) (by kernel_rfl) Try.underlying22 ty3 h12 h13)) ?_
  refine oOp (.d (.int .i64 e11)) (by kernel_rfl) (by kernel_rfl) (Quiet.does (k_loadL (cells := e_i64 e11) 0 (by kernel_rfl) Try.underlying3 (by kernel_rfl) (by kernel_rfl))) ?_
  refine oOp (.d (.int .i64 e11)) (by kernel_rfl) (by kernel_rfl) (PureV.does (p_assign (by kernel_rfl))) ?_
  refine oEnd ?_
  exact oRet (r0 := (e11, x61)) (rv := .d (.int .i64 e11)) (B := [.box [.d (.lit (List.map e_i64 x)), .d (.int .i64 x61)]]) (vs := [.d (.int .i64 e11)]) (σ := [0]) (by kernel_rfl) Try.func27 rfl (.cons _ _ _ _ (.tmp 4 _ (by kernel_rfl)) .nil) (by kernel_rfl) (by kernel_rfl) (by kernel_rfl) (by kernel_rfl) (by decide) (by kernel_rfl) (by kernel_rfl)

/-- awardingbody/awardingbodylaw30.few -/
def law30_few_b1 (k : Nat) (x : (List Int)) (again : Int × Int × (List SGiven) → Option (Int × (List SGiven))) : Int × Int × (List SGiven) → Option (Int × (List SGiven)) := uc fun x15 => uc fun x16 => fun xs6 => bif (decide (x15 > 0)) then Option.bind (mark_Dice_Pick k ([1, 1, 1, 2, 3] : List Int) x x16) (uc fun r1117 => fun x213 => Option.bind (mark_Dice_Next k 8 x x213) (uc fun r135 => fun x628 => Option.bind (mark_Dice_Next k 9 x x628) (uc fun r136 => fun x629 => gcap (List.length (xs6 ++ ([(⟨0, 0, (IntKind.wrap .i64 (10 - x15)), r1117, (IntKind.wrap .i64 (r135 - 1)), r136, (IntKind.wrap .i64 (10 - x15)), x15⟩ : SGiven)] : List SGiven))) 64 (again ((IntKind.wrap .i64 (x15 - 1)), x629, (xs6 ++ ([(⟨0, 0, (IntKind.wrap .i64 (10 - x15)), r1117, (IntKind.wrap .i64 (r135 - 1)), r136, (IntKind.wrap .i64 (10 - x15)), x15⟩ : SGiven)] : List SGiven))))))) else some (x16, xs6)
def law30_few (k : Nat) (x : (List Int)) (x1 : Int) : Option ((List SGiven) × Int) := Option.bind (mark_Dice_Next k 5 x x1) (uc fun r114 => fun x69 => Option.bind (gloop (law30_few_b1 k x) k (r114, x69, ([] : List SGiven)) : Option (Int × (List SGiven))) (uc fun x14 => fun xs5 => some (xs5, x14)))
def law30_few_E (x : (List Int)) (x1 : Int) : (List SGiven) × Int → V × List Blk := uc fun r110 => fun x9 => (.d (.lit (List.map e_SGiven r110)), [.box [.d (.lit (List.map e_i64 x)), .d (.int .i64 x9)]])
theorem law30_few_goes (k : Nat) (x : (List Int)) (x1 : Int) : RunsO Try.prog 12 [.ptr 0 0] [.box [.d (.lit (List.map e_i64 x)), .d (.int .i64 x1)]] (law30_few_E x x1) (law30_few k x x1) := by
  refine RunsO.of_goes (N := 30) (m := 1) (T := [(0, .ptr 0 0)]) Try.func12 rfl rfl (by kernel_rfl) (by kernel_rfl) (by kernel_rfl) ?_
  unfold law30_few
  refine bStart ?_
  refine oSeq ?_
  refine oRegion rfl ?_
  refine oOp (.nilc) (by kernel_rfl) (by kernel_rfl) (PureV.does (p_assign (by kernel_rfl))) ?_
  refine oEnd ?_
  refine oSeq ?_
  refine oRegion rfl ?_
  refine oOp (.nilc) (by kernel_rfl) (by kernel_rfl) (PureV.does (p_assign (by kernel_rfl))) ?_
  refine oEnd ?_
  refine oSeq ?_
  refine oSeq ?_
  refine oRegion rfl ?_
  refine oOp (.ptr 0 0) (by kernel_rfl) (by kernel_rfl) (PureV.does (p_move (by kernel_rfl))) ?_
  refine bCall (caps := []) (v := (uc fun (r114 : Int) => (fun (x69 : Int) => (.d (.int .i64 r114) : V)))) (H' := (uc fun (r114 : Int) => (fun (x69 : Int) => ([.box [.d (.lit (List.map e_i64 x)), .d (.int .i64 x69)]] : List Blk)))) [0] _ (mark_Dice_Next_goes k 5 x x1) (by kernel_rfl) (by kernel_rfl) rfl (by kernel_rfl) Try.func26 rfl (by kernel_rfl) (ConvRs.refl _ _) (by kernel_rfl) (by kernel_rfl) (by kernel_rfl) (by decide) (by kernel_rfl) (by kernel_rfl) (fun _ => (by kernel_rfl)) (fun _ => (by kernel_rfl)) (fun _ => (by kernel_rfl)) (fun r => ?_)
  obtain ⟨r114, x69⟩ := r
  refine bUc ?_
  refine oOp (.d (.int .i64 r114)) (by kernel_rfl) (by kernel_rfl) (PureV.does (p_assign (by kernel_rfl))) ?_
  refine oEnd ?_
  refine bJoin ((uc fun (x14 : Int) => (fun (xs5 : (List SGiven)) => [(3, .ref 1 (List.length xs5) 0 (List.length xs5))]))) ((uc fun (x14 : Int) => (fun (xs5 : (List SGiven)) => [.box [.d (.lit (List.map e_i64 x)), .d (.int .i64 x14)], .sl 8 (List.map e_SGiven xs5) false]))) (fun s => s) (fun s => ?_) (fun hj2 => ?_)
  · obtain ⟨x14, xs5⟩ := s
    refine bUc ?_
    refine oView (T' := [(3, .ref 1 (List.length xs5) 0 (List.length xs5))]) (H' := [.box [.d (.lit (List.map e_i64 x)), .d (.int .i64 x14)], .sl 8 (List.map e_SGiven xs5) false]) (by kernel_rfl) (by kernel_rfl) ?_
    refine oSeq ?_
    refine oRegion rfl ?_
    refine oOp (.ref 1 (List.length xs5) 0 (List.length xs5)) (by kernel_rfl) (by kernel_rfl) (PureV.does (p_move (by kernel_rfl))) ?_
    refine oOp (.ref 1 (List.length xs5) 0 (List.length xs5)) (by kernel_rfl) (by kernel_rfl) (PureV.does (p_assign (by kernel_rfl))) ?_
    refine oEnd ?_
    refine oFreeze 1 (esz := 8) (xs := List.map e_SGiven xs5) (by kernel_rfl) ?_
    refine oView (H' := [.box [.d (.lit (List.map e_i64 x)), .d (.int .i64 x14)], .sl 8 (List.map e_SGiven xs5) true]) rfl (by kernel_rfl) ?_
    refine oConv 2 (v := .ref 1 (List.length xs5) 0 (List.length xs5)) (v' := .d (.lit (List.map e_SGiven xs5))) (by kernel_rfl) (k_lit (enc := e_SGiven) (sz := 8) 1 xs5 (by kernel_rfl)) ?_
    exact oRet (r0 := (xs5, x14)) (rv := .d (.lit (List.map e_SGiven xs5))) (B := [.box [.d (.lit (List.map e_i64 x)), .d (.int .i64 x14)]]) (vs := [.d (.lit (List.map e_SGiven xs5))]) (σ := [0]) (by kernel_rfl) Try.func12 rfl (.cons _ _ _ _ (.tmp 2 _ (by kernel_rfl)) .nil) (by kernel_rfl) (by kernel_rfl) (by kernel_rfl) (by kernel_rfl) (by decide) (by kernel_rfl) (by kernel_rfl)
  · refine oBlock ?_
    refine oLoop ?_
    refine oVirt (esz := 8) 3 (by kernel_rfl) ?_
    refine oView (H' := [.box [.d (.lit (List.map e_i64 x)), .d (.int .i64 x69)], .sl 8 (List.map e_SGiven ([] : List SGiven)) false]) rfl (by kernel_rfl) ?_
    refine oHead [0, 3, 4] [0, 1] (T' := [(0, .ptr 0 0), (3, .ref 1 (List.length ([] : List SGiven)) 0 (List.length ([] : List SGiven))), (4, .d (.int .i64 r114))]) (H' := [.box [.d (.lit (List.map e_i64 x)), .d (.int .i64 x69)], .sl 8 (List.map e_SGiven ([] : List SGiven)) false]) (by kernel_rfl) (by kernel_rfl) (by kernel_rfl) (by kernel_rfl) (by decide) (by kernel_rfl) (by kernel_rfl) ?_
    refine bLoop (body := law30_few_b1 k x) ((uc fun (x15 : Int) => (uc fun (x16 : Int) => (fun (xs6 : (List SGiven)) => [(0, .ptr 0 0), (3, .ref 1 (List.length xs6) 0 (List.length xs6)), (4, .d (.int .i64 x15))])))) ((uc fun (x15 : Int) => (uc fun (x16 : Int) => (fun (xs6 : (List SGiven)) => [.box [.d (.lit (List.map e_i64 x)), .d (.int .i64 x16)], .sl 8 (List.map e_SGiven xs6) false])))) (fun again hag1 s => ?_) k (r114, x69, ([] : List SGiven))
    · unfold law30_few_b1
      obtain ⟨x15, x16, xs6⟩ := s
      refine bUc ?_
      refine bUc ?_
      refine oView (T' := [(0, .ptr 0 0), (3, .ref 1 (List.length xs6) 0 (List.length xs6)), (4, .d (.int .i64 x15))]) (H' := [.box [.d (.lit (List.map e_i64 x)), .d (.int .i64 x16)], .sl 8 (List.map e_SGiven xs6) false]) (by kernel_rfl) (by kernel_rfl) ?_
      refine oSeq ?_
      refine oSeq ?_
      refine oRegion rfl ?_
      refine oOp (.d (.int .i64 x15)) (by kernel_rfl) (by kernel_rfl) (PureV.does (p_move (by kernel_rfl))) ?_
      refine oOp (.d (.bool (decide (x15 > 0)))) (by kernel_rfl) (by kernel_rfl) (PureV.does (p_int (k := .i64) (p := x15) (q := 0) (by kernel_rfl) (by kernel_rfl) (by kernel_rfl))) ?_
      refine oEnd ?_
      refine bSplit 8 (by kernel_rfl) (fun hc => ?_) (fun hc => ?_)
      · refine oCondT (by kernel_rfl) ?_
        refine oSkip ?_
        refine oSeq ?_
        refine oBlock ?_
        refine oRegion rfl ?_
        refine oOp (.ref 1 (List.length xs6) 0 (List.length xs6)) (by kernel_rfl) (by kernel_rfl) (PureV.does (p_move (by kernel_rfl))) ?_
        refine oOp (.d (.int .i64 x15)) (by kernel_rfl) (by kernel_rfl) (PureV.does (p_move (by kernel_rfl))) ?_
        refine oOp (.d (.int .i64 (IntKind.wrap .i64 (10 - x15)))) (by kernel_rfl) (by kernel_rfl) (PureV.does (p_int (k := .i64) (p := 10) (q := x15) (by kernel_rfl) (by kernel_rfl) (by kernel_rfl))) ?_
        refine oOp (.ptr 0 0) (by kernel_rfl) (by kernel_rfl) (PureV.does (p_move (by kernel_rfl))) ?_
        refine oOp (.ref 2 (List.length ([1, 1, 1, 2, 3] : List Int)) 0 (List.length ([1, 1, 1, 2, 3] : List Int))) (by kernel_rfl) (by kernel_rfl) (k_buildSlice (H' := [.box [.d (.lit (List.map e_i64 x)), .d (.int .i64 x16)], .sl 8 (List.map e_SGiven xs6) false, .sl 1 (List.map e_i64 ([1, 1, 1, 2, 3] : List Int)) false]) (List.map e_i64 ([1, 1, 1, 2, 3] : List Int)) Try.underlying22 ty3 (by kernel_rfl) (by kernel_rfl) (by kernel_rfl)) ?_
        refine oFreeze 2 (esz := 1) (xs := List.map e_i64 ([1, 1, 1, 2, 3] : List Int)) (by kernel_rfl) ?_
        refine oView (H' := [.box [.d (.lit (List.map e_i64 x)), .d (.int .i64 x16)], .sl 8 (List.map e_SGiven xs6) false, .sl 1 (List.map e_i64 ([1, 1, 1, 2, 3] : List Int)) true]) rfl (by kernel_rfl) ?_
        refine bCall (caps := []) (v := (uc fun (r1117 : Int) => (fun (x213 : Int) => (.d (.int .i64 r1117) : V)))) (H' := (uc fun (r1117 : Int) => (fun (x213 : Int) => ([.box [.d (.lit (List.map e_i64 x)), .d (.int .i64 x213)], .sl 8 (List.map e_SGiven xs6) false, .sl 1 (List.map e_i64 ([1, 1, 1, 2, 3] : List Int)) true] : List Blk)))) [0] _ (mark_Dice_Pick_goes k ([1, 1, 1, 2, 3] : List Int) x x16) (by kernel_rfl) (by kernel_rfl) rfl (by kernel_rfl) Try.func27 rfl (by kernel_rfl) (convList (vs0 := [.ptr 0 0, .ref 2 (List.length ([1, 1, 1, 2, 3] : List Int)) 0 (List.length ([1, 1, 1, 2, 3] : List Int))]) (vs := [.ptr 0 0, .d (.lit (List.map e_i64 ([1, 1, 1, 2, 3] : List Int)))]) (by kernel_rfl) (.cons _ _ _ _ (.same _) (.cons _ _ _ _ (k_lit (enc := e_i64) (sz := 1) 2 ([1, 1, 1, 2, 3] : List Int) (by kernel_rfl)) .nil))) (by kernel_rfl) (by kernel_rfl) (by kernel_rfl) (by decide) (by kernel_rfl) (by kernel_rfl) (fun _ => (by kernel_rfl)) (fun _ => (by kernel_rfl)) (fun _ => (by kernel_rfl)) (fun r => ?_)
        obtain ⟨r1117, x213⟩ := r
        refine bUc ?_
        refine oOp (.ptr 0 0) (by kernel_rfl) (by kernel_rfl) (PureV.does (p_move (by kernel_rfl))) ?_
        refine bCall (caps := []) (v := (uc fun (r135 : Int) => (fun (x628 : Int) => (.d (.int .i64 r135) : V)))) (H' := (uc fun (r135 : Int) => (fun (x628 : Int) => ([.box [.d (.lit (List.map e_i64 x)), .d (.int .i64 x628)], .sl 8 (List.map e_SGiven xs6) false, .sl 1 (List.map e_i64 ([1, 1, 1, 2, 3] : List Int)) true] : List Blk)))) [0] _ (mark_Dice_Next_goes k 8 x x213) (by kernel_rfl) (by kernel_rfl) rfl (by kernel_rfl) Try.func26 rfl (by kernel_rfl) (ConvRs.refl _ _) (by kernel_rfl) (by kernel_rfl) (by kernel_rfl) (by decide) (by kernel_rfl) (by kernel_rfl) (fun _ => (by kernel_rfl)) (fun _ => (by kernel_rfl)) (fun _ => (by kernel_rfl)) (fun r => ?_)
        obtain ⟨r135, x628⟩ := r
        refine bUc ?_
        refine oOp (.d (.int .i64 (IntKind.wrap .i64 (r135 - 1)))) (by kernel_rfl) (by kernel_rfl) (PureV.does (p_int (k := .i64) (p := r135) (q := 1) (by kernel_rfl) (by kernel_rfl) (by kernel_rfl))) ?_
        refine oOp (.ptr 0 0) (by kernel_rfl) (by kernel_rfl) (PureV.does (p_move (by kernel_rfl))) ?_
        refine bCall (caps := []) (v := (uc fun (r136 : Int) => (fun (x629 : Int) => (.d (.int .i64 r136) : V)))) (H' := (uc fun (r136 : Int) => (fun (x629 : Int) => ([.box [.d (.lit (List.map e_i64 x)), .d (.int .i64 x629)], .sl 8 (List.map e_SGiven xs6) false, .sl 1 (List.map e_i64 ([1, 1, 1, 2, 3] : List Int)) true] : List Blk)))) [0] _ (mark_Dice_Next_goes k 9 x x628) (by kernel_rfl) (by kernel_rfl) rfl (by kernel_rfl) Try.func26 rfl (by kernel_rfl) (ConvRs.refl _ _) (by kernel_rfl) (by kernel_rfl) (by kernel_rfl) (by decide) (by kernel_rfl) (by kernel_rfl) (fun _ => (by kernel_rfl)) (fun _ => (by kernel_rfl)) (fun _ => (by kernel_rfl)) (fun r => ?_)
        obtain ⟨r136, x629⟩ := r
        refine bUc ?_
        refine oOp (.d (.int .i64 x15)) (by kernel_rfl) (by kernel_rfl) (PureV.does (p_move (by kernel_rfl))) ?_
        refine oOp (.d (.int .i64 (IntKind.wrap .i64 (10 - x15)))) (by kernel_rfl) (by kernel_rfl) (PureV.does (p_int (k := .i64) (p := 10) (q := x15) (by kernel_rfl) (by kernel_rfl) (by kernel_rfl))) ?_
        refine oOp (.d (.int .i64 x15)) (by kernel_rfl) (by kernel_rfl) (PureV.does (p_move (by kernel_rfl))) ?_
        refine oOp (.agg [.d (.int .i64 r136), .d (.int .i64 (IntKind.wrap .i64 (10 - x15))), .d (.int .i64 x15)]) (by kernel_rfl) (by kernel_rfl) (PureV.does (p_build bld36 (by kernel_rfl))) ?_
        refine oOp (.agg [.d (.int .i64 0), .d (.int .i64 0), .d (.int .i64 (IntKind.wrap .i64 (10 - x15))), .d (.int .i64 r1117), .d (.int .i64 (IntKind.wrap .i64 (r135 - 1))), .d (.int .i64 r136), .d (.int .i64 (IntKind.wrap .i64 (10 - x15))), .d (.int .i64 x15)]) (by kernel_rfl) (by kernel_rfl) (PureV.does (p_build bld38 (by kernel_rfl))) ?_
        refine oOp (.ref 3 (List.length ([(⟨0, 0, (IntKind.wrap .i64 (10 - x15)), r1117, (IntKind.wrap .i64 (r135 - 1)), r136, (IntKind.wrap .i64 (10 - x15)), x15⟩ : SGiven)] : List SGiven)) 0 (List.length ([(⟨0, 0, (IntKind.wrap .i64 (10 - x15)), r1117, (IntKind.wrap .i64 (r135 - 1)), r136, (IntKind.wrap .i64 (10 - x15)), x15⟩ : SGiven)] : List SGiven))) (by kernel_rfl) (by kernel_rfl) (k_buildSlice (H' := [.box [.d (.lit (List.map e_i64 x)), .d (.int .i64 x629)], .sl 8 (List.map e_SGiven xs6) false, .sl 1 (List.map e_i64 ([1, 1, 1, 2, 3] : List Int)) true, .sl 8 (List.map e_SGiven ([(⟨0, 0, (IntKind.wrap .i64 (10 - x15)), r1117, (IntKind.wrap .i64 (r135 - 1)), r136, (IntKind.wrap .i64 (10 - x15)), x15⟩ : SGiven)] : List SGiven)) false]) (List.map e_SGiven ([(⟨0, 0, (IntKind.wrap .i64 (10 - x15)), r1117, (IntKind.wrap .i64 (r135 - 1)), r136, (IntKind.wrap .i64 (10 - x15)), x15⟩ : SGiven)] : List SGiven)) Try.underlying30 ty38 (by kernel_rfl) (by kernel_rfl) (by kernel_rfl)) ?_
        refine bCap (fun h113 => ?_)
        refine oOp (.ref 1 (List.length (xs6 ++ ([(⟨0, 0, (IntKind.wrap .i64 (10 - x15)), r1117, (IntKind.wrap .i64 (r135 - 1)), r136, (IntKind.wrap .i64 (10 - x15)), x15⟩ : SGiven)] : List SGiven))) 0 (List.length (xs6 ++ ([(⟨0, 0, (IntKind.wrap .i64 (10 - x15)), r1117, (IntKind.wrap .i64 (r135 - 1)), r136, (IntKind.wrap .i64 (10 - x15)), x15⟩ : SGiven)] : List SGiven)))) (by kernel_rfl) (by kernel_rfl) (k_append (H' := [.box [.d (.lit (List.map e_i64 x)), .d (.int .i64 x629)], .sl 8 (List.map e_SGiven (xs6 ++ ([(⟨0, 0, (IntKind.wrap .i64 (10 - x15)), r1117, (IntKind.wrap .i64 (r135 - 1)), r136, (IntKind.wrap .i64 (10 - x15)), x15⟩ : SGiven)] : List SGiven))) false, .sl 1 (List.map e_i64 ([1, 1, 1, 2, 3] : List Int)) true, .sl 8 (List.map e_SGiven ([(⟨0, 0, (IntKind.wrap .i64 (10 - x15)), r1117, (IntKind.wrap .i64 (r135 - 1)), r136, (IntKind.wrap .i64 (10 - x15)), x15⟩ : SGiven)] : List SGiven)) false]) (enc := e_SGiven) 1 xs6 ([(⟨0, 0, (IntKind.wrap .i64 (10 - x15)), r1117, (IntKind.wrap .i64 (r135 - 1)), r136, (IntKind.wrap .i64 (10 - x15)), x15⟩ : SGiven)] : List SGiven) Try.underlying30 Try.underlying30 ty38 (by kernel_rfl) (by kernel_rfl) (by kernel_rfl) (holdsRef (enc := e_SGiven) 3 ([(⟨0, 0, (IntKind.wrap .i64 (10 - x15)), r1117, (IntKind.wrap .i64 (r135 - 1)), r136, (IntKind.wrap .i64 (10 - x15)), x15⟩ : SGiven)] : List SGiven) false (by kernel_rfl) (by kernel_rfl)) h113 (by kernel_rfl)) ?_
        refine oOp (.ref 1 (List.length (xs6 ++ ([(⟨0, 0, (IntKind.wrap .i64 (10 - x15)), r1117, (IntKind.wrap .i64 (r135 - 1)), r136, (IntKind.wrap .i64 (10 - x15)), x15⟩ : SGiven)] : List SGiven))) 0 (List.length (xs6 ++ ([(⟨0, 0, (IntKind.wrap .i64 (10 - x15)), r1117, (IntKind.wrap .i64 (r135 - 1)), r136, (IntKind.wrap .i64 (10 - x15)), x15⟩ : SGiven)] : List SGiven)))) (by kernel_rfl) (by kernel_rfl) (PureV.does (p_assign (by kernel_rfl))) ?_
        refine oEnd ?_
        refine oBlk ?_
        refine oRegion rfl ?_
        refine oOp (.d (.int .i64 x15)) (by kernel_rfl) (by kernel_rfl) (PureV.does (p_move (by kernel_rfl))) ?_
        refine oOp (.d (.int .i64 (IntKind.wrap .i64 (x15 - 1)))) (by kernel_rfl) (by kernel_rfl) (PureV.does (p_int (k := .i64) (p := x15) (q := 1) (by kernel_rfl) (by kernel_rfl) (by kernel_rfl))) ?_
        refine oOp (.d (.int .i64 (IntKind.wrap .i64 (x15 - 1)))) (by kernel_rfl) (by kernel_rfl) (PureV.does (p_assign (by kernel_rfl))) ?_
        refine oEnd ?_
        refine oAgain ?_
        refine oHead [0, 3, 4] [0, 1] (T' := [(0, .ptr 0 0), (3, .ref 1 (List.length (xs6 ++ ([(⟨0, 0, (IntKind.wrap .i64 (10 - x15)), r1117, (IntKind.wrap .i64 (r135 - 1)), r136, (IntKind.wrap .i64 (10 - x15)), x15⟩ : SGiven)] : List SGiven))) 0 (List.length (xs6 ++ ([(⟨0, 0, (IntKind.wrap .i64 (10 - x15)), r1117, (IntKind.wrap .i64 (r135 - 1)), r136, (IntKind.wrap .i64 (10 - x15)), x15⟩ : SGiven)] : List SGiven)))), (4, .d (.int .i64 (IntKind.wrap .i64 (x15 - 1))))]) (H' := [.box [.d (.lit (List.map e_i64 x)), .d (.int .i64 x629)], .sl 8 (List.map e_SGiven (xs6 ++ ([(⟨0, 0, (IntKind.wrap .i64 (10 - x15)), r1117, (IntKind.wrap .i64 (r135 - 1)), r136, (IntKind.wrap .i64 (10 - x15)), x15⟩ : SGiven)] : List SGiven))) false]) (by kernel_rfl) (by kernel_rfl) (by kernel_rfl) (by kernel_rfl) (by decide) (by kernel_rfl) (by kernel_rfl) ?_
        exact hag1 ((IntKind.wrap .i64 (x15 - 1)), x629, (xs6 ++ ([(⟨0, 0, (IntKind.wrap .i64 (10 - x15)), r1117, (IntKind.wrap .i64 (r135 - 1)), r136, (IntKind.wrap .i64 (10 - x15)), x15⟩ : SGiven)] : List SGiven)))
      · refine oCondF (by kernel_rfl) ?_
        refine oExit rfl ?_
        refine oHead [3] [0, 1] (T' := [(3, .ref 1 (List.length xs6) 0 (List.length xs6))]) (H' := [.box [.d (.lit (List.map e_i64 x)), .d (.int .i64 x16)], .sl 8 (List.map e_SGiven xs6) false]) (by kernel_rfl) (by kernel_rfl) (by kernel_rfl) (by kernel_rfl) (by decide) (by kernel_rfl) (by kernel_rfl) ?_
        exact hj2 (x16, xs6)

/-- awardingbody/awardingbodylaw30.ArbitrationOrder -/
def law30_ArbitrationOrder_b1 (k : Nat) (n : Int) (r1104 : (List SGiven)) (again : Int × (List SGiven) → Option ((List SGiven))) : Int × (List SGiven) → Option ((List SGiven)) := uc fun x13 => fun xs6 => bif (decide (x13 ≥ 0)) then gidx r1104 x13 fun e113 => gcap (List.length (xs6 ++ ([(⟨e113.Script, e113.Part, (IntKind.wrap .i64 ((IntKind.wrap .i64 n) + (IntKind.wrap .i64 (3 * x13)))), e113.Level, e113.Value, e113.Stamp_Time, e113.Stamp_Source, e113.Stamp_Seq⟩ : SGiven)] : List SGiven))) 64 (again ((IntKind.wrap .i64 (x13 - 1)), (xs6 ++ ([(⟨e113.Script, e113.Part, (IntKind.wrap .i64 ((IntKind.wrap .i64 n) + (IntKind.wrap .i64 (3 * x13)))), e113.Level, e113.Value, e113.Stamp_Time, e113.Stamp_Source, e113.Stamp_Seq⟩ : SGiven)] : List SGiven)))) else some xs6
def law30_ArbitrationOrder (k : Nat) (t : (List Int)) (n : Int) : Option (Bool) := Option.bind (mark_Light k t) (u0 (bif (!(decide (((List.length t) : Int) ≤ 600))) then Option.bind (law30_sane k) (fun r111 => some r111) else Option.bind (mark_Roll k t) (u0 (Option.bind (mark_Dice_Rule k t 0) (uc fun r121 => uc fun r131 => fun x31 => Option.bind (law30_few k t x31) (uc fun r1104 => fun x91 => Option.bind (arbitration_Decide k r121 r131 r1104) (uc fun r183 => fun r1105 => Option.bind (gloop (law30_ArbitrationOrder_b1 k n r1104) k ((IntKind.wrap .i64 (((List.length r1104) : Int) - 1)), ([] : List SGiven)) : Option ((List SGiven))) (fun xs5 => Option.bind (arbitration_Decide k r121 r131 xs5) (uc fun r185 => fun r1107 => Option.bind (bif ((r185 == r183) && ((r1107 == r1105) && true)) then Option.bind (law30_sane k) (fun r114 => some r114) else some false : Option Bool) (fun x11 => some x11))))))))))
def law30_ArbitrationOrder_E (t : (List Int)) (n : Int) : Bool → V × List Blk := fun r17 => (.d (.bool r17), [])
theorem law30_ArbitrationOrder_goes (k : Nat) (t : (List Int)) (n : Int) : RunsO Try.prog 3 [.d (.lit (List.map e_i64 t)), .d (.int .u8 n)] [] (law30_ArbitrationOrder_E t n) (law30_ArbitrationOrder k t n) := by
  refine RunsO.of_goes (N := 54) (m := 0) (T := [(0, .d (.lit (List.map e_i64 t))), (1, .d (.int .u8 n))]) Try.func3 rfl rfl (by kernel_rfl) (by kernel_rfl) (by kernel_rfl) ?_
  unfold law30_ArbitrationOrder
  refine bStart ?_
  refine oSeq ?_
  refine oRegion rfl ?_
  refine oOp (.d (.bool false)) (by kernel_rfl) (by kernel_rfl) (PureV.does (p_assign (by kernel_rfl))) ?_
  refine oEnd ?_
  refine oSeq ?_
  refine oSeq ?_
  refine oRegion rfl ?_
  refine oOp (.d (.lit (List.map e_i64 t))) (by kernel_rfl) (by kernel_rfl) (PureV.does (p_move (by kernel_rfl))) ?_
  refine bCall (caps := []) (v := (u0 ((.d (.bool (decide (((List.length t) : Int) ≤ 600))) : V)))) (H' := (u0 (([] : List Blk)))) [] _ (mark_Light_goes k t) (by kernel_rfl) (by kernel_rfl) rfl (by kernel_rfl) Try.func8 rfl (by kernel_rfl) (ConvRs.refl _ _) (by kernel_rfl) (by kernel_rfl) (by kernel_rfl) (by decide) (by kernel_rfl) (by kernel_rfl) (fun _ => (by kernel_rfl)) (fun _ => (by kernel_rfl)) (fun _ => (by kernel_rfl)) (fun r => ?_)
  cases r
  refine bU0 ?_
  refine oOp (.d (.bool (!(decide (((List.length t) : Int) ≤ 600))))) (by kernel_rfl) (by kernel_rfl) (PureV.does (p_not (p := (decide (((List.length t) : Int) ≤ 600))) (by kernel_rfl) (by kernel_rfl))) ?_
  refine oEnd ?_
  refine bSplit 14 (by kernel_rfl) (fun hc => ?_) (fun hc => ?_)
  · refine oCondT (by kernel_rfl) ?_
    refine oSeq ?_
    refine oRegion rfl ?_
    refine bCall (caps := []) (v := (fun (r111 : Bool) => (.d (.bool r111) : V))) (H' := (fun (r111 : Bool) => ([] : List Blk))) [] _ (law30_sane_goes k ) (by kernel_rfl) (by kernel_rfl) rfl (by kernel_rfl) Try.func9 rfl (by kernel_rfl) (ConvRs.refl _ _) (by kernel_rfl) (by kernel_rfl) (by kernel_rfl) (by decide) (by kernel_rfl) (by kernel_rfl) (fun _ => (by kernel_rfl)) (fun _ => (by kernel_rfl)) (fun _ => (by kernel_rfl)) (fun r111 => ?_)
    refine oOp (.d (.bool r111)) (by kernel_rfl) (by kernel_rfl) (PureV.does (p_assign (by kernel_rfl))) ?_
    refine oEnd ?_
    exact oRet (r0 := r111) (rv := .d (.bool r111)) (B := []) (vs := [.d (.bool r111)]) (σ := []) (by kernel_rfl) Try.func3 rfl (.cons _ _ _ _ (.tmp 4 _ (by kernel_rfl)) .nil) (by kernel_rfl) (by kernel_rfl) (by kernel_rfl) (by kernel_rfl) (by decide) (by kernel_rfl) (by kernel_rfl)
  · refine oCondF (by kernel_rfl) ?_
    refine oSkip ?_
    refine oSeq ?_
    refine oRegion rfl ?_
    refine oOp (.d (.lit (List.map e_i64 t))) (by kernel_rfl) (by kernel_rfl) (PureV.does (p_move (by kernel_rfl))) ?_
    refine bCall (caps := []) (v := (u0 ((.ptr 0 0 : V)))) (H' := (u0 (([.box [.d (.lit (List.map e_i64 t)), .d (.int .i64 0)]] : List Blk)))) [] _ (mark_Roll_goes k t) (by kernel_rfl) (by kernel_rfl) rfl (by kernel_rfl) Try.func10 rfl (by kernel_rfl) (ConvRs.refl _ _) (by kernel_rfl) (by kernel_rfl) (by kernel_rfl) (by decide) (by kernel_rfl) (by kernel_rfl) (fun _ => (by kernel_rfl)) (fun _ => (by kernel_rfl)) (fun _ => (by kernel_rfl)) (fun r => ?_)
    cases r
    refine bU0 ?_
    refine oOp (.ptr 0 0) (by kernel_rfl) (by kernel_rfl) (PureV.does (p_assign (by kernel_rfl))) ?_
    refine oEnd ?_
    refine oSeq ?_
    refine oRegion rfl ?_
    refine oOp (.ptr 0 0) (by kernel_rfl) (by kernel_rfl) (PureV.does (p_move (by kernel_rfl))) ?_
    refine bCall (caps := []) (v := (uc fun (r121 : Bool) => (uc fun (r131 : Int) => (fun (x31 : Int) => (.agg [.d (.bool r121), .d (.int .i64 r131)] : V))))) (H' := (uc fun (r121 : Bool) => (uc fun (r131 : Int) => (fun (x31 : Int) => ([.box [.d (.lit (List.map e_i64 t)), .d (.int .i64 x31)]] : List Blk))))) [0] _ (mark_Dice_Rule_goes k t 0) (by kernel_rfl) (by kernel_rfl) rfl (by kernel_rfl) Try.func11 rfl (by kernel_rfl) (ConvRs.refl _ _) (by kernel_rfl) (by kernel_rfl) (by kernel_rfl) (by decide) (by kernel_rfl) (by kernel_rfl) (fun _ => (by kernel_rfl)) (fun _ => (by kernel_rfl)) (fun _ => (by kernel_rfl)) (fun r => ?_)
    obtain ⟨r121, r131, x31⟩ := r
    refine bUc ?_
    refine bUc ?_
    refine oOp (.ptr 0 0) (by kernel_rfl) (by kernel_rfl) (PureV.does (p_move (by kernel_rfl))) ?_
    refine bCall (caps := []) (v := (uc fun (r1104 : (List SGiven)) => (fun (x91 : Int) => (.d (.lit (List.map e_SGiven r1104)) : V)))) (H' := (uc fun (r1104 : (List SGiven)) => (fun (x91 : Int) => ([.box [.d (.lit (List.map e_i64 t)), .d (.int .i64 x91)]] : List Blk)))) [0] _ (law30_few_goes k t x31) (by kernel_rfl) (by kernel_rfl) rfl (by kernel_rfl) Try.func12 rfl (by kernel_rfl) (ConvRs.refl _ _) (by kernel_rfl) (by kernel_rfl) (by kernel_rfl) (by decide) (by kernel_rfl) (by kernel_rfl) (fun _ => (by kernel_rfl)) (fun _ => (by kernel_rfl)) (fun _ => (by kernel_rfl)) (fun r => ?_)
    obtain ⟨r1104, x91⟩ := r
    refine bUc ?_
    refine oOp (.ptr 1 0) (by kernel_rfl) (by kernel_rfl) (k_alloc (H' := [.box [.d (.lit (List.map e_i64 t)), .d (.int .i64 x91)], .box [.d (.bool false), .d (.int .i64 0)]]) ty28 (by kernel_rfl) (by kernel_rfl)) ?_
    refine oOp (.undef) (by kernel_rfl) (by kernel_rfl) (k_store (vs := [.d (.bool r121), .d (.int .i64 r131)]) (H' := [.box [.d (.lit (List.map e_i64 t)), .d (.int .i64 x91)], .box [.d (.bool r121), .d (.int .i64 r131)]]) 1 0 (by kernel_rfl) ty28 (by kernel_rfl) (by kernel_rfl) (by kernel_rfl)) ?_
    refine oOp (.d (.lit (List.map e_SGiven r1104))) (by kernel_rfl) (by kernel_rfl) (PureV.does (p_assign (by kernel_rfl))) ?_
    refine oEnd ?_
    refine oSeq ?_
    refine oRegion rfl ?_
    refine oOp (.agg [.d (.bool r121), .d (.int .i64 r131)]) (by kernel_rfl) (by kernel_rfl) (Quiet.does (k_loadAgg 1 0 (by kernel_rfl) Try.underlying28 (by kernel_rfl) ty28 (by kernel_rfl))) ?_
    refine oOp (.d (.lit (List.map e_SGiven r1104))) (by kernel_rfl) (by kernel_rfl) (PureV.does (p_move (by kernel_rfl))) ?_
    refine bCall (caps := []) (v := (uc fun (r183 : Int) => (fun (r1105 : Int) => (.agg [.d (.int .i64 r183), .d (.int .i64 r1105)] : V)))) (H' := (uc fun (r183 : Int) => (fun (r1105 : Int) => ([.box [.d (.lit (List.map e_i64 t)), .d (.int .i64 x91)], .box [.d (.bool r121), .d (.int .i64 r131)]] : List Blk)))) [] _ (arbitration_Decide_goes k r121 r131 r1104) (by kernel_rfl) (by kernel_rfl) rfl (by kernel_rfl) Try.func13 rfl (by kernel_rfl) (ConvRs.refl _ _) (by kernel_rfl) (by kernel_rfl) (by kernel_rfl) (by decide) (by kernel_rfl) (by kernel_rfl) (fun _ => (by kernel_rfl)) (fun _ => (by kernel_rfl)) (fun _ => (by kernel_rfl)) (fun r => ?_)
    obtain ⟨r183, r1105⟩ := r
    refine bUc ?_
    refine oOp (.ptr 2 0) (by kernel_rfl) (by kernel_rfl) (k_alloc (H' := [.box [.d (.lit (List.map e_i64 t)), .d (.int .i64 x91)], .box [.d (.bool r121), .d (.int .i64 r131)], .box [.d (.int .i64 0), .d (.int .i64 0)]]) ty33 (by kernel_rfl) (by kernel_rfl)) ?_
    refine oOp (.undef) (by kernel_rfl) (by kernel_rfl) (k_store (vs := [.d (.int .i64 r183), .d (.int .i64 r1105)]) (H' := [.box [.d (.lit (List.map e_i64 t)), .d (.int .i64 x91)], .box [.d (.bool r121), .d (.int .i64 r131)], .box [.d (.int .i64 r183), .d (.int .i64 r1105)]]) 2 0 (by kernel_rfl) ty33 (by kernel_rfl) (by kernel_rfl) (by kernel_rfl)) ?_
    refine oEnd ?_
    refine oSeq ?_
    refine oRegion rfl ?_
    refine oOp (.nilc) (by kernel_rfl) (by kernel_rfl) (PureV.does (p_assign (by kernel_rfl))) ?_
    refine oEnd ?_
    refine oSeq ?_
    refine oSeq ?_
    refine oRegion rfl ?_
    refine oOp (.d (.lit (List.map e_SGiven r1104))) (by kernel_rfl) (by kernel_rfl) (PureV.does (p_move (by kernel_rfl))) ?_
    refine oOp (.d (.int .i64 ((List.length r1104) : Int))) (by kernel_rfl) (by kernel_rfl) (PureV.does (k_lenLit (enc := e_SGiven) r1104 (by kernel_rfl) Try.underlying30)) ?_
    refine oOp (.d (.int .i64 (IntKind.wrap .i64 (((List.length r1104) : Int) - 1)))) (by kernel_rfl) (by kernel_rfl) (PureV.does (p_int (k := .i64) (p := ((List.length r1104) : Int)) (q := 1) (by kernel_rfl) (by kernel_rfl) (by kernel_rfl))) ?_
    refine oOp (.d (.int .i64 (IntKind.wrap .i64 (((List.length r1104) : Int) - 1)))) (by kernel_rfl) (by kernel_rfl) (PureV.does (p_assign (by kernel_rfl))) ?_
    refine oEnd ?_
    refine bJoin ((fun (xs5 : (List SGiven)) => [(6, .ptr 0 0), (8, .ptr 1 0), (9, .ref 2 (List.length xs5) 0 (List.length xs5))])) ((fun (xs5 : (List SGiven)) => [.box [.d (.bool r121), .d (.int .i64 r131)], .box [.d (.int .i64 r183), .d (.int .i64 r1105)], .sl 8 (List.map e_SGiven xs5) false])) (fun s => s) (fun xs5 => ?_) (fun hj3 => ?_)
    · refine oView (T' := [(6, .ptr 0 0), (8, .ptr 1 0), (9, .ref 2 (List.length xs5) 0 (List.length xs5))]) (H' := [.box [.d (.bool r121), .d (.int .i64 r131)], .box [.d (.int .i64 r183), .d (.int .i64 r1105)], .sl 8 (List.map e_SGiven xs5) false]) (by kernel_rfl) (by kernel_rfl) ?_
      refine oSeq ?_
      refine oFreeze 2 (esz := 8) (xs := List.map e_SGiven xs5) (by kernel_rfl) ?_
      refine oView (H' := [.box [.d (.bool r121), .d (.int .i64 r131)], .box [.d (.int .i64 r183), .d (.int .i64 r1105)], .sl 8 (List.map e_SGiven xs5) true]) rfl (by kernel_rfl) ?_
      refine oDraw [0, 1, 2] rfl ?_
      refine aTakeL (i := 0) (st' := [0]) (.agg [.d (.bool r121), .d (.int .i64 r131)]) rfl (by kernel_rfl) (by kernel_rfl) (by kernel_rfl) (by kernel_rfl) (by kernel_rfl) (by kernel_rfl) (by kernel_rfl) (k_loadAgg 0 0 (by kernel_rfl) Try.underlying28 (by kernel_rfl) ty28 (by kernel_rfl)) ?_
      refine aTakeL (i := 1) (st' := []) (.ref 2 (List.length xs5) 0 (List.length xs5)) rfl (by kernel_rfl) (by kernel_rfl) (by kernel_rfl) (by kernel_rfl) (by kernel_rfl) (by kernel_rfl) (by kernel_rfl) (PureV.quiet (p_move (by kernel_rfl)) []) ?_
      refine aTakeL (i := 3) (st' := [1]) (.agg [.d (.int .i64 r183), .d (.int .i64 r1105)]) rfl (by kernel_rfl) (by kernel_rfl) (by kernel_rfl) (by kernel_rfl) (by kernel_rfl) (by kernel_rfl) (by kernel_rfl) (k_loadAgg 1 0 (by kernel_rfl) Try.underlying33 (by kernel_rfl) ty33 (by kernel_rfl)) ?_
      refine dCall (i := 2) (caps := []) (v := (uc fun (r185 : Int) => (fun (r1107 : Int) => (.agg [.d (.int .i64 r185), .d (.int .i64 r1107)] : V)))) (H' := (uc fun (r185 : Int) => (fun (r1107 : Int) => ([.box [.d (.bool r121), .d (.int .i64 r131)], .box [.d (.int .i64 r183), .d (.int .i64 r1105)], .sl 8 (List.map e_SGiven xs5) true] : List Blk)))) [] _ (arbitration_Decide_goes k r121 r131 xs5) rfl (by kernel_rfl) (by kernel_rfl) (by kernel_rfl) (by kernel_rfl) (by kernel_rfl) (by kernel_rfl) (by kernel_rfl) (by kernel_rfl) rfl (by kernel_rfl) Try.func13 rfl (by kernel_rfl) (convList (vs0 := [.agg [.d (.bool r121), .d (.int .i64 r131)], .ref 2 (List.length xs5) 0 (List.length xs5)]) (vs := [.agg [.d (.bool r121), .d (.int .i64 r131)], .d (.lit (List.map e_SGiven xs5))]) (by kernel_rfl) (.cons _ _ _ _ (.same _) (.cons _ _ _ _ (k_lit (enc := e_SGiven) (sz := 8) 2 xs5 (by kernel_rfl)) .nil))) (by kernel_rfl) (by kernel_rfl) (by kernel_rfl) (by decide) (by kernel_rfl) (by kernel_rfl) (fun _ => (by kernel_rfl)) (fun _ => (by kernel_rfl)) (fun _ => (by kernel_rfl)) (fun r => ?_)
      obtain ⟨r185, r1107⟩ := r
      refine dUc ?_
      refine aTakeP (i := 4) (.d (.bool ((r185 == r183) && ((r1107 == r1105) && true)))) rfl (by kernel_rfl) (by kernel_rfl) (by kernel_rfl) (by kernel_rfl) (by kernel_rfl) (by kernel_rfl) (k_eqAgg (by kernel_rfl) (by kernel_rfl) Try.eqGuardType33 (EqV.struct 1 33 [.d (.int .i64 r185), .d (.int .i64 r1107)] [.d (.int .i64 r183), .d (.int .i64 r1105)] _ ((r185 == r183) && ((r1107 == r1105) && true)) Try.underlying33 Try.stoodInHeld33 (EqF.one 1 1 _ _ _ _ _ _ _ (r185 == r183) ((r1107 == r1105) && true) (by kernel_rfl) Try.underlying3 (by kernel_rfl) (by kernel_rfl) (by kernel_rfl) (by kernel_rfl) (EqV.int 3 .i64 .i64 r185 r183 Try.underlying3) (EqF.one 1 1 _ _ _ _ _ _ _ (r1107 == r1105) true (by kernel_rfl) Try.underlying3 (by kernel_rfl) (by kernel_rfl) (by kernel_rfl) (by kernel_rfl) (EqV.int 3 .i64 .i64 r1107 r1105 Try.underlying3) (EqF.nil 1 _ _)))) (by kernel_rfl)) ?_
      refine aTakeL (i := 5) (st' := []) (.d (.bool ((r185 == r183) && ((r1107 == r1105) && true)))) rfl (by kernel_rfl) (by kernel_rfl) (by kernel_rfl) (by kernel_rfl) (by kernel_rfl) (by kernel_rfl) (by kernel_rfl) (PureV.quiet (p_move (by kernel_rfl)) []) ?_
      refine dMeet [7, 6, 5, 4, 2, 3, 1, 0] (fun (x11 : Bool) => [(53, .d (.bool x11))]) (fun (x11 : Bool) => [(53, .d (.bool x11))]) (fun _ => [.box [.d (.bool r121), .d (.int .i64 r131)], .box [.d (.int .i64 r183), .d (.int .i64 r1105)], .sl 8 (List.map e_SGiven xs5) true]) (fun s => s) (fun x11 => ?_) (fun hj4 => ?_)
      · refine aTakeL (i := 8) (st' := []) (.d (.bool x11)) rfl (by kernel_rfl) (by kernel_rfl) (by kernel_rfl) (by kernel_rfl) (by kernel_rfl) (by kernel_rfl) (by kernel_rfl) (PureV.quiet (p_assign (by kernel_rfl)) []) ?_
        refine aDone (by kernel_rfl) ?_
        exact oRet (r0 := x11) (rv := .d (.bool x11)) (B := []) (vs := [.d (.bool x11)]) (σ := []) (by kernel_rfl) Try.func3 rfl (.cons _ _ _ _ (.tmp 4 _ (by kernel_rfl)) .nil) (by kernel_rfl) (by kernel_rfl) (by kernel_rfl) (by kernel_rfl) (by decide) (by kernel_rfl) (by kernel_rfl)
      · refine dSplit 51 (by kernel_rfl) (by kernel_rfl) (fun hc => ?_) (fun hc => ?_)
        · refine dCall (i := 6) (caps := []) (v := (fun (r114 : Bool) => (.d (.bool r114) : V))) (H' := (fun (r114 : Bool) => ([.box [.d (.bool r121), .d (.int .i64 r131)], .box [.d (.int .i64 r183), .d (.int .i64 r1105)], .sl 8 (List.map e_SGiven xs5) true] : List Blk))) [] _ (law30_sane_goes k ) rfl (by kernel_rfl) (by kernel_rfl) (by kernel_rfl) (by kernel_rfl) (by kernel_rfl) (by kernel_rfl) (by kernel_rfl) (by kernel_rfl) rfl (by kernel_rfl) Try.func9 rfl (by kernel_rfl) (ConvRs.refl _ _) (by kernel_rfl) (by kernel_rfl) (by kernel_rfl) (by decide) (by kernel_rfl) (by kernel_rfl) (fun _ => (by kernel_rfl)) (fun _ => (by kernel_rfl)) (fun _ => (by kernel_rfl)) (fun r114 => ?_)
          refine aTakeL (i := 7) (st' := []) (.d (.bool r114)) rfl (by kernel_rfl) (by kernel_rfl) (by kernel_rfl) (by kernel_rfl) (by kernel_rfl) (by kernel_rfl) (by kernel_rfl) (PureV.quiet (p_pick (b := true) (by kernel_rfl) (by kernel_rfl)) []) ?_
          refine dDrop [53] [53] (T' := [(53, .d (.bool r114))]) (U' := [(53, .d (.bool r114))]) (by kernel_rfl) (by kernel_rfl) ?_
          exact hj4 r114
        · refine aTakeNot (i := 6) rfl (by kernel_rfl) (by kernel_rfl) (by kernel_rfl) (by kernel_rfl) (by kernel_rfl) (by kernel_rfl) ?_
          refine aTakeL (i := 7) (st' := []) (.d (.bool false)) rfl (by kernel_rfl) (by kernel_rfl) (by kernel_rfl) (by kernel_rfl) (by kernel_rfl) (by kernel_rfl) (by kernel_rfl) (PureV.quiet (p_pick (b := false) (by kernel_rfl) (by kernel_rfl)) []) ?_
          refine dDrop [53] [53] (T' := [(53, .d (.bool false))]) (U' := [(53, .d (.bool false))]) (by kernel_rfl) (by kernel_rfl) ?_
          exact hj4 false
    · refine oBlock ?_
      refine oLoop ?_
      refine oVirt (esz := 8) 9 (by kernel_rfl) ?_
      refine oView (H' := [.box [.d (.lit (List.map e_i64 t)), .d (.int .i64 x91)], .box [.d (.bool r121), .d (.int .i64 r131)], .box [.d (.int .i64 r183), .d (.int .i64 r1105)], .sl 8 (List.map e_SGiven ([] : List SGiven)) false]) rfl (by kernel_rfl) ?_
      refine oHead [1, 6, 7, 8, 9, 10] [1, 2, 3] (T' := [(1, .d (.int .u8 n)), (6, .ptr 0 0), (7, .d (.lit (List.map e_SGiven r1104))), (8, .ptr 1 0), (9, .ref 2 (List.length ([] : List SGiven)) 0 (List.length ([] : List SGiven))), (10, .d (.int .i64 (IntKind.wrap .i64 (((List.length r1104) : Int) - 1))))]) (H' := [.box [.d (.bool r121), .d (.int .i64 r131)], .box [.d (.int .i64 r183), .d (.int .i64 r1105)], .sl 8 (List.map e_SGiven ([] : List SGiven)) false]) (by kernel_rfl) (by kernel_rfl) (by kernel_rfl) (by kernel_rfl) (by decide) (by kernel_rfl) (by kernel_rfl) ?_
      refine bLoop (body := law30_ArbitrationOrder_b1 k n r1104) ((uc fun (x13 : Int) => (fun (xs6 : (List SGiven)) => [(1, .d (.int .u8 n)), (6, .ptr 0 0), (7, .d (.lit (List.map e_SGiven r1104))), (8, .ptr 1 0), (9, .ref 2 (List.length xs6) 0 (List.length xs6)), (10, .d (.int .i64 x13))]))) ((uc fun (x13 : Int) => (fun (xs6 : (List SGiven)) => [.box [.d (.bool r121), .d (.int .i64 r131)], .box [.d (.int .i64 r183), .d (.int .i64 r1105)], .sl 8 (List.map e_SGiven xs6) false]))) (fun again hag1 s => ?_) k ((IntKind.wrap .i64 (((List.length r1104) : Int) - 1)), ([] : List SGiven))
      · unfold law30_ArbitrationOrder_b1
        obtain ⟨x13, xs6⟩ := s
        refine bUc ?_
        refine oView (T' := [(1, .d (.int .u8 n)), (6, .ptr 0 0), (7, .d (.lit (List.map e_SGiven r1104))), (8, .ptr 1 0), (9, .ref 2 (List.length xs6) 0 (List.length xs6)), (10, .d (.int .i64 x13))]) (H' := [.box [.d (.bool r121), .d (.int .i64 r131)], .box [.d (.int .i64 r183), .d (.int .i64 r1105)], .sl 8 (List.map e_SGiven xs6) false]) (by kernel_rfl) (by kernel_rfl) ?_
        refine oSeq ?_
        refine oSeq ?_
        refine oRegion rfl ?_
        refine oOp (.d (.int .i64 x13)) (by kernel_rfl) (by kernel_rfl) (PureV.does (p_move (by kernel_rfl))) ?_
        refine oOp (.d (.bool (decide (x13 ≥ 0)))) (by kernel_rfl) (by kernel_rfl) (PureV.does (p_int (k := .i64) (p := x13) (q := 0) (by kernel_rfl) (by kernel_rfl) (by kernel_rfl))) ?_
        refine oEnd ?_
        refine bSplit 29 (by kernel_rfl) (fun hc => ?_) (fun hc => ?_)
        · refine oCondT (by kernel_rfl) ?_
          refine oSkip ?_
          refine oSeq ?_
          refine oBlock ?_
          refine oSeq ?_
          refine oRegion rfl ?_
          refine oOp (.d (.lit (List.map e_SGiven r1104))) (by kernel_rfl) (by kernel_rfl) (PureV.does (p_move (by kernel_rfl))) ?_
          refine oOp (.d (.int .i64 x13)) (by kernel_rfl) (by kernel_rfl) (PureV.does (p_move (by kernel_rfl))) ?_
          refine bIdx (fun e113 h139 h140 => ?_)
          refine oOp (.lptr (e_SGiven e113) 0) (by kernel_rfl) (by kernel_rfl) (PureV.does (k_idxLit e_SGiven_len r1104 (a := e113) (by kernel_rfl) (k := .i64) (i := x13) (by kernel_rfl) Try.underlying30 ty38 h139 h140)) ?_
          refine oOp (.agg [.d (.int .i64 e113.Script), .d (.int .i64 e113.Part), .d (.int .i64 e113.Marker), .d (.int .i64 e113.Level), .d (.int .i64 e113.Value), .d (.int .i64 e113.Stamp_Time), .d (.int .i64 e113.Stamp_Source), .d (.int .i64 e113.Stamp_Seq)]) (by kernel_rfl) (by kernel_rfl) (Quiet.does (k_loadLAgg (cells := e_SGiven e113) 0 [(.int .i64 e113.Script), (.int .i64 e113.Part), (.int .i64 e113.Marker), (.int .i64 e113.Level), (.int .i64 e113.Value), (.int .i64 e113.Stamp_Time), (.int .i64 e113.Stamp_Source), (.int .i64 e113.Stamp_Seq)] (by kernel_rfl) Try.underlying38 (by kernel_rfl) ty38 (by kernel_rfl) (by kernel_rfl) (by kernel_rfl))) ?_
          refine oOp (.ptr 3 0) (by kernel_rfl) (by kernel_rfl) (k_alloc (H' := [.box [.d (.bool r121), .d (.int .i64 r131)], .box [.d (.int .i64 r183), .d (.int .i64 r1105)], .sl 8 (List.map e_SGiven xs6) false, .box [.d (.int .i64 0), .d (.int .i64 0), .d (.int .i64 0), .d (.int .i64 0), .d (.int .i64 0), .d (.int .i64 0), .d (.int .i64 0), .d (.int .i64 0)]]) ty38 (by kernel_rfl) (by kernel_rfl)) ?_
          refine oOp (.undef) (by kernel_rfl) (by kernel_rfl) (k_store (vs := [.d (.int .i64 e113.Script), .d (.int .i64 e113.Part), .d (.int .i64 e113.Marker), .d (.int .i64 e113.Level), .d (.int .i64 e113.Value), .d (.int .i64 e113.Stamp_Time), .d (.int .i64 e113.Stamp_Source), .d (.int .i64 e113.Stamp_Seq)]) (H' := [.box [.d (.bool r121), .d (.int .i64 r131)], .box [.d (.int .i64 r183), .d (.int .i64 r1105)], .sl 8 (List.map e_SGiven xs6) false, .box [.d (.int .i64 e113.Script), .d (.int .i64 e113.Part), .d (.int .i64 e113.Marker), .d (.int .i64 e113.Level), .d (.int .i64 e113.Value), .d (.int .i64 e113.Stamp_Time), .d (.int .i64 e113.Stamp_Source), .d (.int .i64 e113.Stamp_Seq)]]) 3 0 (by kernel_rfl) ty38 (by kernel_rfl) (by kernel_rfl) (by kernel_rfl)) ?_
          refine oEnd ?_
          refine oSeq ?_
          refine oRegion rfl ?_
          refine oOp (.d (.int .u8 n)) (by kernel_rfl) (by kernel_rfl) (PureV.does (p_move (by kernel_rfl))) ?_
          refine oOp (.d (.int .i64 (IntKind.wrap .i64 n))) (by kernel_rfl) (by kernel_rfl) (PureV.does (p_conv (k := .u8) (p := n) (by kernel_rfl) Try.underlying5 Try.underlying3 (by kernel_rfl))) ?_
          refine oOp (.d (.int .i64 x13)) (by kernel_rfl) (by kernel_rfl) (PureV.does (p_move (by kernel_rfl))) ?_
          refine oOp (.d (.int .i64 (IntKind.wrap .i64 (3 * x13)))) (by kernel_rfl) (by kernel_rfl) (PureV.does (p_int (k := .i64) (p := 3) (q := x13) (by kernel_rfl) (by kernel_rfl) (by kernel_rfl))) ?_
          refine oOp (.d (.int .i64 (IntKind.wrap .i64 ((IntKind.wrap .i64 n) + (IntKind.wrap .i64 (3 * x13)))))) (by kernel_rfl) (by kernel_rfl) (PureV.does (p_int (k := .i64) (p := (IntKind.wrap .i64 n)) (q := (IntKind.wrap .i64 (3 * x13))) (by kernel_rfl) (by kernel_rfl) (by kernel_rfl))) ?_
          refine oOp (.ptr 3 2) (by kernel_rfl) (by kernel_rfl) (PureV.does (k_fieldAddr 3 0 (by kernel_rfl) Try.underlying38 rfl ty3 (by kernel_rfl))) ?_
          refine oOp (.undef) (by kernel_rfl) (by kernel_rfl) (k_store (vs := [.d (.int .i64 (IntKind.wrap .i64 ((IntKind.wrap .i64 n) + (IntKind.wrap .i64 (3 * x13)))))]) (H' := [.box [.d (.bool r121), .d (.int .i64 r131)], .box [.d (.int .i64 r183), .d (.int .i64 r1105)], .sl 8 (List.map e_SGiven xs6) false, .box [.d (.int .i64 e113.Script), .d (.int .i64 e113.Part), .d (.int .i64 (IntKind.wrap .i64 ((IntKind.wrap .i64 n) + (IntKind.wrap .i64 (3 * x13))))), .d (.int .i64 e113.Level), .d (.int .i64 e113.Value), .d (.int .i64 e113.Stamp_Time), .d (.int .i64 e113.Stamp_Source), .d (.int .i64 e113.Stamp_Seq)]]) 3 2 (by kernel_rfl) ty3 (by kernel_rfl) (by kernel_rfl) (by kernel_rfl)) ?_
          refine oEnd ?_
          refine oRegion rfl ?_
          refine oOp (.ref 2 (List.length xs6) 0 (List.length xs6)) (by kernel_rfl) (by kernel_rfl) (PureV.does (p_move (by kernel_rfl))) ?_
          refine oOp (.agg [.d (.int .i64 e113.Script), .d (.int .i64 e113.Part), .d (.int .i64 (IntKind.wrap .i64 ((IntKind.wrap .i64 n) + (IntKind.wrap .i64 (3 * x13))))), .d (.int .i64 e113.Level), .d (.int .i64 e113.Value), .d (.int .i64 e113.Stamp_Time), .d (.int .i64 e113.Stamp_Source), .d (.int .i64 e113.Stamp_Seq)]) (by kernel_rfl) (by kernel_rfl) (Quiet.does (k_loadAgg 3 0 (by kernel_rfl) Try.underlying38 (by kernel_rfl) ty38 (by kernel_rfl))) ?_
          refine oOp (.ref 4 (List.length ([(⟨e113.Script, e113.Part, (IntKind.wrap .i64 ((IntKind.wrap .i64 n) + (IntKind.wrap .i64 (3 * x13)))), e113.Level, e113.Value, e113.Stamp_Time, e113.Stamp_Source, e113.Stamp_Seq⟩ : SGiven)] : List SGiven)) 0 (List.length ([(⟨e113.Script, e113.Part, (IntKind.wrap .i64 ((IntKind.wrap .i64 n) + (IntKind.wrap .i64 (3 * x13)))), e113.Level, e113.Value, e113.Stamp_Time, e113.Stamp_Source, e113.Stamp_Seq⟩ : SGiven)] : List SGiven))) (by kernel_rfl) (by kernel_rfl) (k_buildSlice (H' := [.box [.d (.bool r121), .d (.int .i64 r131)], .box [.d (.int .i64 r183), .d (.int .i64 r1105)], .sl 8 (List.map e_SGiven xs6) false, .box [.d (.int .i64 e113.Script), .d (.int .i64 e113.Part), .d (.int .i64 (IntKind.wrap .i64 ((IntKind.wrap .i64 n) + (IntKind.wrap .i64 (3 * x13))))), .d (.int .i64 e113.Level), .d (.int .i64 e113.Value), .d (.int .i64 e113.Stamp_Time), .d (.int .i64 e113.Stamp_Source), .d (.int .i64 e113.Stamp_Seq)], .sl 8 (List.map e_SGiven ([(⟨e113.Script, e113.Part, (IntKind.wrap .i64 ((IntKind.wrap .i64 n) + (IntKind.wrap .i64 (3 * x13)))), e113.Level, e113.Value, e113.Stamp_Time, e113.Stamp_Source, e113.Stamp_Seq⟩ : SGiven)] : List SGiven)) false]) (List.map e_SGiven ([(⟨e113.Script, e113.Part, (IntKind.wrap .i64 ((IntKind.wrap .i64 n) + (IntKind.wrap .i64 (3 * x13)))), e113.Level, e113.Value, e113.Stamp_Time, e113.Stamp_Source, e113.Stamp_Seq⟩ : SGiven)] : List SGiven)) Try.underlying30 ty38 (by kernel_rfl) (by kernel_rfl) (by kernel_rfl)) ?_
          refine bCap (fun h141 => ?_)
          refine oOp (.ref 2 (List.length (xs6 ++ ([(⟨e113.Script, e113.Part, (IntKind.wrap .i64 ((IntKind.wrap .i64 n) + (IntKind.wrap .i64 (3 * x13)))), e113.Level, e113.Value, e113.Stamp_Time, e113.Stamp_Source, e113.Stamp_Seq⟩ : SGiven)] : List SGiven))) 0 (List.length (xs6 ++ ([(⟨e113.Script, e113.Part, (IntKind.wrap .i64 ((IntKind.wrap .i64 n) + (IntKind.wrap .i64 (3 * x13)))), e113.Level, e113.Value, e113.Stamp_Time, e113.Stamp_Source, e113.Stamp_Seq⟩ : SGiven)] : List SGiven)))) (by kernel_rfl) (by kernel_rfl) (k_append (H' := [.box [.d (.bool r121), .d (.int .i64 r131)], .box [.d (.int .i64 r183), .d (.int .i64 r1105)], .sl 8 (List.map e_SGiven (xs6 ++ ([(⟨e113.Script, e113.Part, (IntKind.wrap .i64 ((IntKind.wrap .i64 n) + (IntKind.wrap .i64 (3 * x13)))), e113.Level, e113.Value, e113.Stamp_Time, e113.Stamp_Source, e113.Stamp_Seq⟩ : SGiven)] : List SGiven))) false, .box [.d (.int .i64 e113.Script), .d (.int .i64 e113.Part), .d (.int .i64 (IntKind.wrap .i64 ((IntKind.wrap .i64 n) + (IntKind.wrap .i64 (3 * x13))))), .d (.int .i64 e113.Level), .d (.int .i64 e113.Value), .d (.int .i64 e113.Stamp_Time), .d (.int .i64 e113.Stamp_Source), .d (.int .i64 e113.Stamp_Seq)], .sl 8 (List.map e_SGiven ([(⟨e113.Script, e113.Part, (IntKind.wrap .i64 ((IntKind.wrap .i64 n) + (IntKind.wrap .i64 (3 * x13)))), e113.Level, e113.Value, e113.Stamp_Time, e113.Stamp_Source, e113.Stamp_Seq⟩ : SGiven)] : List SGiven)) false]) (enc := e_SGiven) 2 xs6 ([(⟨e113.Script, e113.Part, (IntKind.wrap .i64 ((IntKind.wrap .i64 n) + (IntKind.wrap .i64 (3 * x13)))), e113.Level, e113.Value, e113.Stamp_Time, e113.Stamp_Source, e113.Stamp_Seq⟩ : SGiven)] : List SGiven) Try.underlying30 Try.underlying30 ty38 (by kernel_rfl) (by kernel_rfl) (by kernel_rfl) (holdsRef (enc := e_SGiven) 4 ([(⟨e113.Script, e113.Part, (IntKind.wrap .i64 ((IntKind.wrap .i64 n) + (IntKind.wrap .i64 (3 * x13)))), e113.Level, e113.Value, e113.Stamp_Time, e113.Stamp_Source, e113.Stamp_Seq⟩ : SGiven)] : List SGiven) false (by kernel_rfl) (by kernel_rfl)) h141 (by kernel_rfl)) ?_
          refine oOp (.ref 2 (List.length (xs6 ++ ([(⟨e113.Script, e113.Part, (IntKind.wrap .i64 ((IntKind.wrap .i64 n) + (IntKind.wrap .i64 (3 * x13)))), e113.Level, e113.Value, e113.Stamp_Time, e113.Stamp_Source, e113.Stamp_Seq⟩ : SGiven)] : List SGiven))) 0 (List.length (xs6 ++ ([(⟨e113.Script, e113.Part, (IntKind.wrap .i64 ((IntKind.wrap .i64 n) + (IntKind.wrap .i64 (3 * x13)))), e113.Level, e113.Value, e113.Stamp_Time, e113.Stamp_Source, e113.Stamp_Seq⟩ : SGiven)] : List SGiven)))) (by kernel_rfl) (by kernel_rfl) (PureV.does (p_assign (by kernel_rfl))) ?_
          refine oEnd ?_
          refine oBlk ?_
          refine oRegion rfl ?_
          refine oOp (.d (.int .i64 x13)) (by kernel_rfl) (by kernel_rfl) (PureV.does (p_move (by kernel_rfl))) ?_
          refine oOp (.d (.int .i64 (IntKind.wrap .i64 (x13 - 1)))) (by kernel_rfl) (by kernel_rfl) (PureV.does (p_int (k := .i64) (p := x13) (q := 1) (by kernel_rfl) (by kernel_rfl) (by kernel_rfl))) ?_
          refine oOp (.d (.int .i64 (IntKind.wrap .i64 (x13 - 1)))) (by kernel_rfl) (by kernel_rfl) (PureV.does (p_assign (by kernel_rfl))) ?_
          refine oEnd ?_
          refine oAgain ?_
          refine oHead [1, 6, 7, 8, 9, 10] [0, 1, 2] (T' := [(1, .d (.int .u8 n)), (6, .ptr 0 0), (7, .d (.lit (List.map e_SGiven r1104))), (8, .ptr 1 0), (9, .ref 2 (List.length (xs6 ++ ([(⟨e113.Script, e113.Part, (IntKind.wrap .i64 ((IntKind.wrap .i64 n) + (IntKind.wrap .i64 (3 * x13)))), e113.Level, e113.Value, e113.Stamp_Time, e113.Stamp_Source, e113.Stamp_Seq⟩ : SGiven)] : List SGiven))) 0 (List.length (xs6 ++ ([(⟨e113.Script, e113.Part, (IntKind.wrap .i64 ((IntKind.wrap .i64 n) + (IntKind.wrap .i64 (3 * x13)))), e113.Level, e113.Value, e113.Stamp_Time, e113.Stamp_Source, e113.Stamp_Seq⟩ : SGiven)] : List SGiven)))), (10, .d (.int .i64 (IntKind.wrap .i64 (x13 - 1))))]) (H' := [.box [.d (.bool r121), .d (.int .i64 r131)], .box [.d (.int .i64 r183), .d (.int .i64 r1105)], .sl 8 (List.map e_SGiven (xs6 ++ ([(⟨e113.Script, e113.Part, (IntKind.wrap .i64 ((IntKind.wrap .i64 n) + (IntKind.wrap .i64 (3 * x13)))), e113.Level, e113.Value, e113.Stamp_Time, e113.Stamp_Source, e113.Stamp_Seq⟩ : SGiven)] : List SGiven))) false]) (by kernel_rfl) (by kernel_rfl) (by kernel_rfl) (by kernel_rfl) (by decide) (by kernel_rfl) (by kernel_rfl) ?_
          exact hag1 ((IntKind.wrap .i64 (x13 - 1)), (xs6 ++ ([(⟨e113.Script, e113.Part, (IntKind.wrap .i64 ((IntKind.wrap .i64 n) + (IntKind.wrap .i64 (3 * x13)))), e113.Level, e113.Value, e113.Stamp_Time, e113.Stamp_Source, e113.Stamp_Seq⟩ : SGiven)] : List SGiven)))
        · refine oCondF (by kernel_rfl) ?_
          refine oExit rfl ?_
          refine oHead [6, 8, 9] [0, 1, 2] (T' := [(6, .ptr 0 0), (8, .ptr 1 0), (9, .ref 2 (List.length xs6) 0 (List.length xs6))]) (H' := [.box [.d (.bool r121), .d (.int .i64 r131)], .box [.d (.int .i64 r183), .d (.int .i64 r1105)], .sl 8 (List.map e_SGiven xs6) false]) (by kernel_rfl) (by kernel_rfl) (by kernel_rfl) (by kernel_rfl) (by decide) (by kernel_rfl) (by kernel_rfl) ?_
          exact hj3 xs6

end Go.VM
