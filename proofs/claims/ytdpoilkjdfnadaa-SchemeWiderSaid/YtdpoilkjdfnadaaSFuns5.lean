/- Plain functions that answer as the program's functions do, and the proof that they do. -/
import Derived.Test.YtdpoilkjdfnadaaProg
import Derived.KernelRfl
import Derived.Test.YtdpoilkjdfnadaaEngS
import Derived.Test.YtdpoilkjdfnadaaSFacts
import Derived.Test.YtdpoilkjdfnadaaSFuns0
import Derived.Test.YtdpoilkjdfnadaaSFuns1
import Derived.Test.YtdpoilkjdfnadaaSFuns2
import Derived.Test.YtdpoilkjdfnadaaSFuns3
import Derived.Test.YtdpoilkjdfnadaaSFuns4
namespace Go.VM
open Go.Proofs
set_option linter.unusedVariables false
set_option linter.unusedSimpArgs false
set_option maxRecDepth 100000
/-- awardingbody/awardingbodylaw23.SchemeVoid -/
def law23_SchemeVoid (k : Nat) (t : (List Int)) (part : Int) : Option (Bool) := Option.bind (make_New k t) (fun x9 => Option.bind (make_Tape_Paper k x9 0) (uc fun r115 => fun x61 => Option.bind (make_Tape_Scheme_2 k r115 x9 x61) (uc fun xs341 => uc fun xs351 => fun x511 => Option.bind (make_Tape_Marks k r115 x9 x511) (uc fun r143 => fun x101 => Option.bind (make_Cut k part ((List.length r115) : Int)) (fun r16 => gidx xs351 r16 fun e13 => blet (List.set xs351 (Int.toNat r16) 0) fun xs1 => Option.bind (scheme_Withdraw k 0 0 r115 xs341 xs1 r16 2) (uc fun r1101 => uc fun r1111 => fun r1121 => Option.bind (scheme_Total k 0 0 r115 xs341 xs1 r143) (uc fun r134 => fun r144 => Option.bind (scheme_Total k 0 0 r115 r1101 r1111 r143) (uc fun r135 => fun r145 => Option.bind (scheme_Maximum k 0 0 r115 xs341 xs1) (uc fun r116 => fun r136 => Option.bind (scheme_Maximum k 0 0 r115 r1101 r1111) (uc fun r117 => fun r137 => blet ((r1121 == 0) && (r144 == 0)) fun x11 => blet (x11 && (r145 == 0)) fun x12 => blet (x12 && (r136 == 0)) fun x13 => blet (x13 && (r137 == 0)) fun x14 => Option.bind (bif x14 then gidx r143 r16 fun e17 => some ((IntKind.wrap .i64 (r134 - r135)) == (gmax e17 0)) else some false : Option (Bool)) (fun x15 => Option.bind (bif x15 then gidx r115 r16 fun e16 => some ((IntKind.wrap .i64 (r116 - r117)) == e16.Max) else some false : Option (Bool)) (fun x16 => Option.bind (bif x16 then Option.bind (law23_awake k) (fun r122 => some r122) else some false : Option (Bool)) (fun x17 => some x17)))))))))))))
def law23_SchemeVoid_E (t : (List Int)) (part : Int) : Bool → V × List Blk := fun r15 => (.d (.bool r15), [])
theorem law23_SchemeVoid_goes (k : Nat) (t : (List Int)) (part : Int) : RunsO Try.prog 7 [.d (.lit (List.map e_i64 t)), .d (.int .i64 part)] [] (law23_SchemeVoid_E t part) (law23_SchemeVoid k t part) := by
  refine RunsO.of_goes (N := 115) (m := 0) (T := [(0, .d (.lit (List.map e_i64 t))), (1, .d (.int .i64 part))]) Try.func7 rfl rfl (by kernel_rfl) (by kernel_rfl) (by kernel_rfl) ?_
  unfold law23_SchemeVoid
  refine bStart ?_
  refine oSeq ?_
  refine oRegion rfl ?_
  refine oOp (.d (.bool false)) (by kernel_rfl) (by kernel_rfl) (PureV.does (p_assign (by kernel_rfl))) ?_
  refine oEnd ?_
  refine oSeq ?_
  refine oRegion rfl ?_
  refine oOp (.d (.lit (List.map e_i64 t))) (by kernel_rfl) (by kernel_rfl) (PureV.does (p_move (by kernel_rfl))) ?_
  refine bCall (caps := []) (v := (fun (x9 : (List Int)) => (.ptr 0 0 : V))) (H' := (fun (x9 : (List Int)) => ([.box [.d (.lit (List.map e_i64 x9)), .d (.int .i64 0)]] : List Blk))) [] _ (make_New_goes k t) (by kernel_rfl) (by kernel_rfl) rfl (by kernel_rfl) Try.func12 rfl (by kernel_rfl) (ConvRs.refl _ _) (by kernel_rfl) (by kernel_rfl) (by kernel_rfl) (by decide) (by kernel_rfl) (by kernel_rfl) (fun _ => (by kernel_rfl)) (fun _ => (by kernel_rfl)) (fun _ => (by kernel_rfl)) (fun x9 => ?_)
  refine oOp (.ptr 0 0) (by kernel_rfl) (by kernel_rfl) (PureV.does (p_assign (by kernel_rfl))) ?_
  refine oEnd ?_
  refine oSeq ?_
  refine oRegion rfl ?_
  refine oOp (.ptr 0 0) (by kernel_rfl) (by kernel_rfl) (PureV.does (p_move (by kernel_rfl))) ?_
  refine bCall (caps := []) (v := (uc fun (r115 : (List SPart)) => (fun (x61 : Int) => (.agg [.d (.int .i64 0), .d (.int .i64 0), .d (.lit (List.map e_SPart r115))] : V)))) (H' := (uc fun (r115 : (List SPart)) => (fun (x61 : Int) => ([.box [.d (.lit (List.map e_i64 x9)), .d (.int .i64 x61)]] : List Blk)))) [0] _ (make_Tape_Paper_goes k x9 0) (by kernel_rfl) (by kernel_rfl) rfl (by kernel_rfl) Try.func29 rfl (by kernel_rfl) (ConvRs.refl _ _) (by kernel_rfl) (by kernel_rfl) (by kernel_rfl) (by decide) (by kernel_rfl) (by kernel_rfl) (fun _ => (by kernel_rfl)) (fun _ => (by kernel_rfl)) (fun _ => (by kernel_rfl)) (fun r => ?_)
  obtain ⟨r115, x61⟩ := r
  refine bUc ?_
  refine oOp (.ptr 1 0) (by kernel_rfl) (by kernel_rfl) (k_alloc (H' := [.box [.d (.lit (List.map e_i64 x9)), .d (.int .i64 x61)], .box [.d (.int .i64 0), .d (.int .i64 0), .nilc]]) ty27 (by kernel_rfl) (by kernel_rfl)) ?_
  refine oOp (.undef) (by kernel_rfl) (by kernel_rfl) (k_store (vs := [.d (.int .i64 0), .d (.int .i64 0), .d (.lit (List.map e_SPart r115))]) (H' := [.box [.d (.lit (List.map e_i64 x9)), .d (.int .i64 x61)], .box [.d (.int .i64 0), .d (.int .i64 0), .d (.lit (List.map e_SPart r115))]]) 1 0 (by kernel_rfl) ty27 (by kernel_rfl) (by kernel_rfl) (by kernel_rfl)) ?_
  refine oEnd ?_
  refine oSeq ?_
  refine oRegion rfl ?_
  refine oOp (.ptr 0 0) (by kernel_rfl) (by kernel_rfl) (PureV.does (p_move (by kernel_rfl))) ?_
  refine oOp (.agg [.d (.int .i64 0), .d (.int .i64 0), .d (.lit (List.map e_SPart r115))]) (by kernel_rfl) (by kernel_rfl) (Quiet.does (k_loadAgg 1 0 (by kernel_rfl) Try.underlying27 (by kernel_rfl) ty27 (by kernel_rfl))) ?_
  refine bCall (caps := []) (v := (uc fun (xs341 : (List (List Int))) => (uc fun (xs351 : (List Int)) => (fun (x511 : Int) => (.agg [.ref 2 (List.length xs341) 0 (List.length xs341), .ref 3 (List.length xs351) 0 (List.length xs351)] : V))))) (H' := (uc fun (xs341 : (List (List Int))) => (uc fun (xs351 : (List Int)) => (fun (x511 : Int) => ([.box [.d (.lit (List.map e_i64 x9)), .d (.int .i64 x511)], .box [.d (.int .i64 0), .d (.int .i64 0), .d (.lit (List.map e_SPart r115))], .sl 1 (List.map e_Li64 xs341) false, .sl 1 (List.map e_i64 xs351) false] : List Blk))))) [0] _ (make_Tape_Scheme_2_goes k r115 x9 x61) (by kernel_rfl) (by kernel_rfl) rfl (by kernel_rfl) Try.func14 rfl (by kernel_rfl) (ConvRs.refl _ _) (by kernel_rfl) (by kernel_rfl) (by kernel_rfl) (by decide) (by kernel_rfl) (by kernel_rfl) (fun _ => (by kernel_rfl)) (fun _ => (by kernel_rfl)) (fun _ => (by kernel_rfl)) (fun r => ?_)
  obtain ⟨xs341, xs351, x511⟩ := r
  refine bUc ?_
  refine bUc ?_
  refine oOp (.ptr 4 0) (by kernel_rfl) (by kernel_rfl) (k_alloc (H' := [.box [.d (.lit (List.map e_i64 x9)), .d (.int .i64 x511)], .box [.d (.int .i64 0), .d (.int .i64 0), .d (.lit (List.map e_SPart r115))], .sl 1 (List.map e_Li64 xs341) false, .sl 1 (List.map e_i64 xs351) false, .box [.nilc, .nilc]]) ty31 (by kernel_rfl) (by kernel_rfl)) ?_
  refine oOp (.undef) (by kernel_rfl) (by kernel_rfl) (k_store (vs := [.ref 2 (List.length xs341) 0 (List.length xs341), .ref 3 (List.length xs351) 0 (List.length xs351)]) (H' := [.box [.d (.lit (List.map e_i64 x9)), .d (.int .i64 x511)], .box [.d (.int .i64 0), .d (.int .i64 0), .d (.lit (List.map e_SPart r115))], .sl 1 (List.map e_Li64 xs341) false, .sl 1 (List.map e_i64 xs351) false, .box [.ref 2 (List.length xs341) 0 (List.length xs341), .ref 3 (List.length xs351) 0 (List.length xs351)]]) 4 0 (by kernel_rfl) ty31 (by kernel_rfl) (by kernel_rfl) (by kernel_rfl)) ?_
  refine oEnd ?_
  refine oSeq ?_
  refine oRegion rfl ?_
  refine oOp (.ptr 0 0) (by kernel_rfl) (by kernel_rfl) (PureV.does (p_move (by kernel_rfl))) ?_
  refine oOp (.agg [.d (.int .i64 0), .d (.int .i64 0), .d (.lit (List.map e_SPart r115))]) (by kernel_rfl) (by kernel_rfl) (Quiet.does (k_loadAgg 1 0 (by kernel_rfl) Try.underlying27 (by kernel_rfl) ty27 (by kernel_rfl))) ?_
  refine bCall (caps := []) (v := (uc fun (r143 : (List Int)) => (fun (x101 : Int) => (.d (.lit (List.map e_i64 r143)) : V)))) (H' := (uc fun (r143 : (List Int)) => (fun (x101 : Int) => ([.box [.d (.lit (List.map e_i64 x9)), .d (.int .i64 x101)], .box [.d (.int .i64 0), .d (.int .i64 0), .d (.lit (List.map e_SPart r115))], .sl 1 (List.map e_Li64 xs341) false, .sl 1 (List.map e_i64 xs351) false, .box [.ref 2 (List.length xs341) 0 (List.length xs341), .ref 3 (List.length xs351) 0 (List.length xs351)]] : List Blk)))) [0] _ (make_Tape_Marks_goes k r115 x9 x511) (by kernel_rfl) (by kernel_rfl) rfl (by kernel_rfl) Try.func20 rfl (by kernel_rfl) (ConvRs.refl _ _) (by kernel_rfl) (by kernel_rfl) (by kernel_rfl) (by decide) (by kernel_rfl) (by kernel_rfl) (fun _ => (by kernel_rfl)) (fun _ => (by kernel_rfl)) (fun _ => (by kernel_rfl)) (fun r => ?_)
  obtain ⟨r143, x101⟩ := r
  refine bUc ?_
  refine oOp (.d (.lit (List.map e_i64 r143))) (by kernel_rfl) (by kernel_rfl) (PureV.does (p_assign (by kernel_rfl))) ?_
  refine oEnd ?_
  refine oSeq ?_
  refine oRegion rfl ?_
  refine oOp (.d (.int .i64 part)) (by kernel_rfl) (by kernel_rfl) (PureV.does (p_move (by kernel_rfl))) ?_
  refine oOp (.ptr 1 2) (by kernel_rfl) (by kernel_rfl) (PureV.does (k_fieldAddr 1 0 (by kernel_rfl) Try.underlying27 rfl ty25 (by kernel_rfl))) ?_
  refine oOp (.d (.lit (List.map e_SPart r115))) (by kernel_rfl) (by kernel_rfl) (Quiet.does (k_load 1 2 (by kernel_rfl) Try.underlying25 (by kernel_rfl) (by kernel_rfl))) ?_
  refine oOp (.d (.int .i64 ((List.length r115) : Int))) (by kernel_rfl) (by kernel_rfl) (PureV.does (k_lenLit (enc := e_SPart) r115 (by kernel_rfl) Try.underlying25)) ?_
  refine bCall (caps := []) (v := (fun (r16 : Int) => (.d (.int .i64 r16) : V))) (H' := (fun (r16 : Int) => ([.box [.d (.lit (List.map e_i64 x9)), .d (.int .i64 x101)], .box [.d (.int .i64 0), .d (.int .i64 0), .d (.lit (List.map e_SPart r115))], .sl 1 (List.map e_Li64 xs341) false, .sl 1 (List.map e_i64 xs351) false, .box [.ref 2 (List.length xs341) 0 (List.length xs341), .ref 3 (List.length xs351) 0 (List.length xs351)]] : List Blk))) [] _ (make_Cut_goes k part ((List.length r115) : Int)) (by kernel_rfl) (by kernel_rfl) rfl (by kernel_rfl) Try.func25 rfl (by kernel_rfl) (ConvRs.refl _ _) (by kernel_rfl) (by kernel_rfl) (by kernel_rfl) (by decide) (by kernel_rfl) (by kernel_rfl) (fun _ => (by kernel_rfl)) (fun _ => (by kernel_rfl)) (fun _ => (by kernel_rfl)) (fun r16 => ?_)
  refine oOp (.d (.int .i64 r16)) (by kernel_rfl) (by kernel_rfl) (PureV.does (p_assign (by kernel_rfl))) ?_
  refine oEnd ?_
  refine oSeq ?_
  refine oRegion rfl ?_
  refine oOp (.ptr 4 1) (by kernel_rfl) (by kernel_rfl) (PureV.does (k_fieldAddr 4 0 (by kernel_rfl) Try.underlying31 rfl ty22 (by kernel_rfl))) ?_
  refine oOp (.ref 3 (List.length xs351) 0 (List.length xs351)) (by kernel_rfl) (by kernel_rfl) (Quiet.does (k_load 4 1 (by kernel_rfl) Try.underlying22 (by kernel_rfl) (by kernel_rfl))) ?_
  refine oOp (.d (.int .i64 r16)) (by kernel_rfl) (by kernel_rfl) (PureV.does (p_move (by kernel_rfl))) ?_
  refine bIdx (fun e13 h16 h17 => ?_)
  refine oOp (.eptr 3 (List.length xs351) (Int.toNat r16) 0) (by kernel_rfl) (by kernel_rfl) (PureV.does (k_idxRef (enc := e_i64) (fro := false) xs351 (a := e13) (by kernel_rfl) (k := .i64) (i := r16) (by kernel_rfl) (by kernel_rfl) Try.underlying22 ty3 h16 h17)) ?_
  refine bSet _ (fun xs1 hs1 => ?_)
  refine oOp (.undef) (by kernel_rfl) (by kernel_rfl) (k_storeE (H' := [.box [.d (.lit (List.map e_i64 x9)), .d (.int .i64 x101)], .box [.d (.int .i64 0), .d (.int .i64 0), .d (.lit (List.map e_SPart r115))], .sl 1 (List.map e_Li64 xs341) false, .sl 1 (List.map e_i64 xs1) false, .box [.ref 2 (List.length xs341) 0 (List.length xs341), .ref 3 (List.length xs351) 0 (List.length xs351)]]) 3 0 xs351 0 [(.int .i64 0)] e_i64_len (by kernel_rfl) (by kernel_rfl) h17 ty3 (by kernel_rfl) (by kernel_rfl) (by kernel_rfl) hs1 (by kernel_rfl)) ?_
  refine oHead [1, 6, 7, 8] [0, 1, 2, 3, 4] (T' := [(1, .d (.int .i64 r16)), (6, .ptr 1 0), (7, .ptr 4 0), (8, .d (.lit (List.map e_i64 r143)))]) (H' := [.box [.d (.lit (List.map e_i64 x9)), .d (.int .i64 x101)], .box [.d (.int .i64 0), .d (.int .i64 0), .d (.lit (List.map e_SPart r115))], .sl 1 (List.map e_Li64 xs341) false, .sl 1 (List.map e_i64 xs1) false, .box [.ref 2 (List.length xs341) 0 (List.length xs341), .ref 3 (List.length xs351) 0 (List.length xs351)]]) (by kernel_rfl) (by kernel_rfl) (by kernel_rfl) (by kernel_rfl) (by decide) (by kernel_rfl) (by kernel_rfl) ?_
  refine oView (T' := [(1, .d (.int .i64 r16)), (6, .ptr 1 0), (7, .ptr 4 0), (8, .d (.lit (List.map e_i64 r143)))]) (H' := [.box [.d (.lit (List.map e_i64 x9)), .d (.int .i64 x101)], .box [.d (.int .i64 0), .d (.int .i64 0), .d (.lit (List.map e_SPart r115))], .sl 1 (List.map e_Li64 xs341) false, .sl 1 (List.map e_i64 xs1) false, .box [.ref 2 (List.length xs341) 0 (List.length xs341), .ref 3 (List.length xs1) 0 (List.length xs1)]]) (by first | rw [(set_len hs1)] | rfl) (by first | rw [(set_len hs1)] | rfl) ?_
  refine oEnd ?_
  refine oSeq ?_
  refine oRegion rfl ?_
  refine oOp (.agg [.d (.int .i64 0), .d (.int .i64 0), .d (.lit (List.map e_SPart r115))]) (by kernel_rfl) (by kernel_rfl) (Quiet.does (k_loadAgg 1 0 (by kernel_rfl) Try.underlying27 (by kernel_rfl) ty27 (by kernel_rfl))) ?_
  refine oOp (.agg [.ref 2 (List.length xs341) 0 (List.length xs341), .ref 3 (List.length xs1) 0 (List.length xs1)]) (by kernel_rfl) (by kernel_rfl) (Quiet.does (k_loadAgg 4 0 (by kernel_rfl) Try.underlying31 (by kernel_rfl) ty31 (by kernel_rfl))) ?_
  refine oOp (.d (.int .i64 r16)) (by kernel_rfl) (by kernel_rfl) (PureV.does (p_move (by kernel_rfl))) ?_
  refine oFreeze 2 (esz := 1) (xs := List.map e_Li64 xs341) (by kernel_rfl) ?_
  refine oView (H' := [.box [.d (.lit (List.map e_i64 x9)), .d (.int .i64 x101)], .box [.d (.int .i64 0), .d (.int .i64 0), .d (.lit (List.map e_SPart r115))], .sl 1 (List.map e_Li64 xs341) true, .sl 1 (List.map e_i64 xs1) false, .box [.ref 2 (List.length xs341) 0 (List.length xs341), .ref 3 (List.length xs1) 0 (List.length xs1)]]) rfl (by kernel_rfl) ?_
  refine oFreeze 3 (esz := 1) (xs := List.map e_i64 xs1) (by kernel_rfl) ?_
  refine oView (H' := [.box [.d (.lit (List.map e_i64 x9)), .d (.int .i64 x101)], .box [.d (.int .i64 0), .d (.int .i64 0), .d (.lit (List.map e_SPart r115))], .sl 1 (List.map e_Li64 xs341) true, .sl 1 (List.map e_i64 xs1) true, .box [.ref 2 (List.length xs341) 0 (List.length xs341), .ref 3 (List.length xs1) 0 (List.length xs1)]]) rfl (by kernel_rfl) ?_
  refine bCall (caps := []) (v := (uc fun (r1101 : (List (List Int))) => (uc fun (r1111 : (List Int)) => (fun (r1121 : Int) => (.tuple [.agg [.d (.lit (List.map e_Li64 r1101)), .d (.lit (List.map e_i64 r1111))], .d (.int .i64 r1121)] : V))))) (H' := (uc fun (r1101 : (List (List Int))) => (uc fun (r1111 : (List Int)) => (fun (r1121 : Int) => ([.box [.d (.lit (List.map e_i64 x9)), .d (.int .i64 x101)], .box [.d (.int .i64 0), .d (.int .i64 0), .d (.lit (List.map e_SPart r115))], .sl 1 (List.map e_Li64 xs341) true, .sl 1 (List.map e_i64 xs1) true, .box [.ref 2 (List.length xs341) 0 (List.length xs341), .ref 3 (List.length xs1) 0 (List.length xs1)]] : List Blk))))) [] _ (scheme_Withdraw_goes k 0 0 r115 xs341 xs1 r16 2) (by kernel_rfl) (by kernel_rfl) rfl (by kernel_rfl) Try.func26 rfl (by kernel_rfl) (convList (vs0 := [.agg [.d (.int .i64 0), .d (.int .i64 0), .d (.lit (List.map e_SPart r115))], .agg [.ref 2 (List.length xs341) 0 (List.length xs341), .ref 3 (List.length xs1) 0 (List.length xs1)], .d (.int .i64 r16), .d (.int .i64 2)]) (vs := [.agg [.d (.int .i64 0), .d (.int .i64 0), .d (.lit (List.map e_SPart r115))], .agg [.d (.lit (List.map e_Li64 xs341)), .d (.lit (List.map e_i64 xs1))], .d (.int .i64 r16), .d (.int .i64 2)]) (by kernel_rfl) (.cons _ _ _ _ (.same _) (.cons _ _ _ _ (.agg _ _ (.cons _ _ _ _ (k_lit (enc := e_Li64) (sz := 1) 2 xs341 (by kernel_rfl)) (.cons _ _ _ _ (k_lit (enc := e_i64) (sz := 1) 3 xs1 (by kernel_rfl)) .nil))) (.cons _ _ _ _ (.same _) (.cons _ _ _ _ (.same _) .nil))))) (by kernel_rfl) (by kernel_rfl) (by kernel_rfl) (by decide) (by kernel_rfl) (by kernel_rfl) (fun _ => (by kernel_rfl)) (fun _ => (by kernel_rfl)) (fun _ => (by kernel_rfl)) (fun r => ?_)
  obtain ⟨r1101, r1111, r1121⟩ := r
  refine bUc ?_
  refine bUc ?_
  refine oOp (.tuple [.agg [.d (.lit (List.map e_Li64 r1101)), .d (.lit (List.map e_i64 r1111))], .d (.int .i64 r1121)]) (by kernel_rfl) (by kernel_rfl) (PureV.does (p_move (by kernel_rfl))) ?_
  refine oOp (.agg [.d (.lit (List.map e_Li64 r1101)), .d (.lit (List.map e_i64 r1111))]) (by kernel_rfl) (by kernel_rfl) (PureV.does (k_extract (by kernel_rfl))) ?_
  refine oOp (.d (.int .i64 r1121)) (by kernel_rfl) (by kernel_rfl) (PureV.does (k_extract (by kernel_rfl))) ?_
  refine oOp (.ptr 5 0) (by kernel_rfl) (by kernel_rfl) (k_alloc (H' := [.box [.d (.lit (List.map e_i64 x9)), .d (.int .i64 x101)], .box [.d (.int .i64 0), .d (.int .i64 0), .d (.lit (List.map e_SPart r115))], .sl 1 (List.map e_Li64 xs341) true, .sl 1 (List.map e_i64 xs1) true, .box [.ref 2 (List.length xs341) 0 (List.length xs341), .ref 3 (List.length xs1) 0 (List.length xs1)], .box [.nilc, .nilc]]) ty31 (by kernel_rfl) (by kernel_rfl)) ?_
  refine oOp (.undef) (by kernel_rfl) (by kernel_rfl) (k_store (vs := [.d (.lit (List.map e_Li64 r1101)), .d (.lit (List.map e_i64 r1111))]) (H' := [.box [.d (.lit (List.map e_i64 x9)), .d (.int .i64 x101)], .box [.d (.int .i64 0), .d (.int .i64 0), .d (.lit (List.map e_SPart r115))], .sl 1 (List.map e_Li64 xs341) true, .sl 1 (List.map e_i64 xs1) true, .box [.ref 2 (List.length xs341) 0 (List.length xs341), .ref 3 (List.length xs1) 0 (List.length xs1)], .box [.d (.lit (List.map e_Li64 r1101)), .d (.lit (List.map e_i64 r1111))]]) 5 0 (by kernel_rfl) ty31 (by kernel_rfl) (by kernel_rfl) (by kernel_rfl)) ?_
  refine oOp (.d (.int .i64 r1121)) (by kernel_rfl) (by kernel_rfl) (PureV.does (p_assign (by kernel_rfl))) ?_
  refine oEnd ?_
  refine oSeq ?_
  refine oRegion rfl ?_
  refine oOp (.agg [.d (.int .i64 0), .d (.int .i64 0), .d (.lit (List.map e_SPart r115))]) (by kernel_rfl) (by kernel_rfl) (Quiet.does (k_loadAgg 1 0 (by kernel_rfl) Try.underlying27 (by kernel_rfl) ty27 (by kernel_rfl))) ?_
  refine oOp (.agg [.ref 2 (List.length xs341) 0 (List.length xs341), .ref 3 (List.length xs1) 0 (List.length xs1)]) (by kernel_rfl) (by kernel_rfl) (Quiet.does (k_loadAgg 4 0 (by kernel_rfl) Try.underlying31 (by kernel_rfl) ty31 (by kernel_rfl))) ?_
  refine oOp (.d (.lit (List.map e_i64 r143))) (by kernel_rfl) (by kernel_rfl) (PureV.does (p_move (by kernel_rfl))) ?_
  refine bCall (caps := []) (v := (uc fun (r134 : Int) => (fun (r144 : Int) => (.tuple [.d (.int .i64 r134), .d (.int .i64 r144)] : V)))) (H' := (uc fun (r134 : Int) => (fun (r144 : Int) => ([.box [.d (.lit (List.map e_i64 x9)), .d (.int .i64 x101)], .box [.d (.int .i64 0), .d (.int .i64 0), .d (.lit (List.map e_SPart r115))], .sl 1 (List.map e_Li64 xs341) true, .sl 1 (List.map e_i64 xs1) true, .box [.ref 2 (List.length xs341) 0 (List.length xs341), .ref 3 (List.length xs1) 0 (List.length xs1)], .box [.d (.lit (List.map e_Li64 r1101)), .d (.lit (List.map e_i64 r1111))]] : List Blk)))) [] _ (scheme_Total_goes k 0 0 r115 xs341 xs1 r143) (by kernel_rfl) (by kernel_rfl) rfl (by kernel_rfl) Try.func21 rfl (by kernel_rfl) (convList (vs0 := [.agg [.d (.int .i64 0), .d (.int .i64 0), .d (.lit (List.map e_SPart r115))], .agg [.ref 2 (List.length xs341) 0 (List.length xs341), .ref 3 (List.length xs1) 0 (List.length xs1)], .d (.lit (List.map e_i64 r143))]) (vs := [.agg [.d (.int .i64 0), .d (.int .i64 0), .d (.lit (List.map e_SPart r115))], .agg [.d (.lit (List.map e_Li64 xs341)), .d (.lit (List.map e_i64 xs1))], .d (.lit (List.map e_i64 r143))]) (by kernel_rfl) (.cons _ _ _ _ (.same _) (.cons _ _ _ _ (.agg _ _ (.cons _ _ _ _ (k_lit (enc := e_Li64) (sz := 1) 2 xs341 (by kernel_rfl)) (.cons _ _ _ _ (k_lit (enc := e_i64) (sz := 1) 3 xs1 (by kernel_rfl)) .nil))) (.cons _ _ _ _ (.same _) .nil)))) (by kernel_rfl) (by kernel_rfl) (by kernel_rfl) (by decide) (by kernel_rfl) (by kernel_rfl) (fun _ => (by kernel_rfl)) (fun _ => (by kernel_rfl)) (fun _ => (by kernel_rfl)) (fun r => ?_)
  obtain ⟨r134, r144⟩ := r
  refine bUc ?_
  refine oOp (.tuple [.d (.int .i64 r134), .d (.int .i64 r144)]) (by kernel_rfl) (by kernel_rfl) (PureV.does (p_move (by kernel_rfl))) ?_
  refine oOp (.d (.int .i64 r134)) (by kernel_rfl) (by kernel_rfl) (PureV.does (k_extract (by kernel_rfl))) ?_
  refine oOp (.d (.int .i64 r144)) (by kernel_rfl) (by kernel_rfl) (PureV.does (k_extract (by kernel_rfl))) ?_
  refine oOp (.d (.int .i64 r134)) (by kernel_rfl) (by kernel_rfl) (PureV.does (p_assign (by kernel_rfl))) ?_
  refine oOp (.d (.int .i64 r144)) (by kernel_rfl) (by kernel_rfl) (PureV.does (p_assign (by kernel_rfl))) ?_
  refine oEnd ?_
  refine oSeq ?_
  refine oRegion rfl ?_
  refine oOp (.agg [.d (.int .i64 0), .d (.int .i64 0), .d (.lit (List.map e_SPart r115))]) (by kernel_rfl) (by kernel_rfl) (Quiet.does (k_loadAgg 1 0 (by kernel_rfl) Try.underlying27 (by kernel_rfl) ty27 (by kernel_rfl))) ?_
  refine oOp (.agg [.d (.lit (List.map e_Li64 r1101)), .d (.lit (List.map e_i64 r1111))]) (by kernel_rfl) (by kernel_rfl) (Quiet.does (k_loadAgg 5 0 (by kernel_rfl) Try.underlying31 (by kernel_rfl) ty31 (by kernel_rfl))) ?_
  refine oOp (.d (.lit (List.map e_i64 r143))) (by kernel_rfl) (by kernel_rfl) (PureV.does (p_move (by kernel_rfl))) ?_
  refine bCall (caps := []) (v := (uc fun (r135 : Int) => (fun (r145 : Int) => (.tuple [.d (.int .i64 r135), .d (.int .i64 r145)] : V)))) (H' := (uc fun (r135 : Int) => (fun (r145 : Int) => ([.box [.d (.lit (List.map e_i64 x9)), .d (.int .i64 x101)], .box [.d (.int .i64 0), .d (.int .i64 0), .d (.lit (List.map e_SPart r115))], .sl 1 (List.map e_Li64 xs341) true, .sl 1 (List.map e_i64 xs1) true, .box [.ref 2 (List.length xs341) 0 (List.length xs341), .ref 3 (List.length xs1) 0 (List.length xs1)], .box [.d (.lit (List.map e_Li64 r1101)), .d (.lit (List.map e_i64 r1111))]] : List Blk)))) [] _ (scheme_Total_goes k 0 0 r115 r1101 r1111 r143) (by kernel_rfl) (by kernel_rfl) rfl (by kernel_rfl) Try.func21 rfl (by kernel_rfl) (ConvRs.refl _ _) (by kernel_rfl) (by kernel_rfl) (by kernel_rfl) (by decide) (by kernel_rfl) (by kernel_rfl) (fun _ => (by kernel_rfl)) (fun _ => (by kernel_rfl)) (fun _ => (by kernel_rfl)) (fun r => ?_)
  obtain ⟨r135, r145⟩ := r
  refine bUc ?_
  refine oOp (.tuple [.d (.int .i64 r135), .d (.int .i64 r145)]) (by kernel_rfl) (by kernel_rfl) (PureV.does (p_move (by kernel_rfl))) ?_
  refine oOp (.d (.int .i64 r135)) (by kernel_rfl) (by kernel_rfl) (PureV.does (k_extract (by kernel_rfl))) ?_
  refine oOp (.d (.int .i64 r145)) (by kernel_rfl) (by kernel_rfl) (PureV.does (k_extract (by kernel_rfl))) ?_
  refine oOp (.d (.int .i64 r135)) (by kernel_rfl) (by kernel_rfl) (PureV.does (p_assign (by kernel_rfl))) ?_
  refine oOp (.d (.int .i64 r145)) (by kernel_rfl) (by kernel_rfl) (PureV.does (p_assign (by kernel_rfl))) ?_
  refine oEnd ?_
  refine oSeq ?_
  refine oRegion rfl ?_
  refine oOp (.agg [.d (.int .i64 0), .d (.int .i64 0), .d (.lit (List.map e_SPart r115))]) (by kernel_rfl) (by kernel_rfl) (Quiet.does (k_loadAgg 1 0 (by kernel_rfl) Try.underlying27 (by kernel_rfl) ty27 (by kernel_rfl))) ?_
  refine oOp (.agg [.ref 2 (List.length xs341) 0 (List.length xs341), .ref 3 (List.length xs1) 0 (List.length xs1)]) (by kernel_rfl) (by kernel_rfl) (Quiet.does (k_loadAgg 4 0 (by kernel_rfl) Try.underlying31 (by kernel_rfl) ty31 (by kernel_rfl))) ?_
  refine bCall (caps := []) (v := (uc fun (r116 : Int) => (fun (r136 : Int) => (.tuple [.d (.int .i64 r116), .d (.int .i64 r136)] : V)))) (H' := (uc fun (r116 : Int) => (fun (r136 : Int) => ([.box [.d (.lit (List.map e_i64 x9)), .d (.int .i64 x101)], .box [.d (.int .i64 0), .d (.int .i64 0), .d (.lit (List.map e_SPart r115))], .sl 1 (List.map e_Li64 xs341) true, .sl 1 (List.map e_i64 xs1) true, .box [.ref 2 (List.length xs341) 0 (List.length xs341), .ref 3 (List.length xs1) 0 (List.length xs1)], .box [.d (.lit (List.map e_Li64 r1101)), .d (.lit (List.map e_i64 r1111))]] : List Blk)))) [] _ (scheme_Maximum_goes k 0 0 r115 xs341 xs1) (by kernel_rfl) (by kernel_rfl) rfl (by kernel_rfl) Try.func23 rfl (by kernel_rfl) (convList (vs0 := [.agg [.d (.int .i64 0), .d (.int .i64 0), .d (.lit (List.map e_SPart r115))], .agg [.ref 2 (List.length xs341) 0 (List.length xs341), .ref 3 (List.length xs1) 0 (List.length xs1)]]) (vs := [.agg [.d (.int .i64 0), .d (.int .i64 0), .d (.lit (List.map e_SPart r115))], .agg [.d (.lit (List.map e_Li64 xs341)), .d (.lit (List.map e_i64 xs1))]]) (by kernel_rfl) (.cons _ _ _ _ (.same _) (.cons _ _ _ _ (.agg _ _ (.cons _ _ _ _ (k_lit (enc := e_Li64) (sz := 1) 2 xs341 (by kernel_rfl)) (.cons _ _ _ _ (k_lit (enc := e_i64) (sz := 1) 3 xs1 (by kernel_rfl)) .nil))) .nil))) (by kernel_rfl) (by kernel_rfl) (by kernel_rfl) (by decide) (by kernel_rfl) (by kernel_rfl) (fun _ => (by kernel_rfl)) (fun _ => (by kernel_rfl)) (fun _ => (by kernel_rfl)) (fun r => ?_)
  obtain ⟨r116, r136⟩ := r
  refine bUc ?_
  refine oOp (.tuple [.d (.int .i64 r116), .d (.int .i64 r136)]) (by kernel_rfl) (by kernel_rfl) (PureV.does (p_move (by kernel_rfl))) ?_
  refine oOp (.d (.int .i64 r116)) (by kernel_rfl) (by kernel_rfl) (PureV.does (k_extract (by kernel_rfl))) ?_
  refine oOp (.d (.int .i64 r136)) (by kernel_rfl) (by kernel_rfl) (PureV.does (k_extract (by kernel_rfl))) ?_
  refine oOp (.d (.int .i64 r116)) (by kernel_rfl) (by kernel_rfl) (PureV.does (p_assign (by kernel_rfl))) ?_
  refine oOp (.d (.int .i64 r136)) (by kernel_rfl) (by kernel_rfl) (PureV.does (p_assign (by kernel_rfl))) ?_
  refine oEnd ?_
  refine oSeq ?_
  refine oRegion rfl ?_
  refine oOp (.agg [.d (.int .i64 0), .d (.int .i64 0), .d (.lit (List.map e_SPart r115))]) (by kernel_rfl) (by kernel_rfl) (Quiet.does (k_loadAgg 1 0 (by kernel_rfl) Try.underlying27 (by kernel_rfl) ty27 (by kernel_rfl))) ?_
  refine oOp (.agg [.d (.lit (List.map e_Li64 r1101)), .d (.lit (List.map e_i64 r1111))]) (by kernel_rfl) (by kernel_rfl) (Quiet.does (k_loadAgg 5 0 (by kernel_rfl) Try.underlying31 (by kernel_rfl) ty31 (by kernel_rfl))) ?_
  refine bCall (caps := []) (v := (uc fun (r117 : Int) => (fun (r137 : Int) => (.tuple [.d (.int .i64 r117), .d (.int .i64 r137)] : V)))) (H' := (uc fun (r117 : Int) => (fun (r137 : Int) => ([.box [.d (.lit (List.map e_i64 x9)), .d (.int .i64 x101)], .box [.d (.int .i64 0), .d (.int .i64 0), .d (.lit (List.map e_SPart r115))], .sl 1 (List.map e_Li64 xs341) true, .sl 1 (List.map e_i64 xs1) true, .box [.ref 2 (List.length xs341) 0 (List.length xs341), .ref 3 (List.length xs1) 0 (List.length xs1)], .box [.d (.lit (List.map e_Li64 r1101)), .d (.lit (List.map e_i64 r1111))]] : List Blk)))) [] _ (scheme_Maximum_goes k 0 0 r115 r1101 r1111) (by kernel_rfl) (by kernel_rfl) rfl (by kernel_rfl) Try.func23 rfl (by kernel_rfl) (ConvRs.refl _ _) (by kernel_rfl) (by kernel_rfl) (by kernel_rfl) (by decide) (by kernel_rfl) (by kernel_rfl) (fun _ => (by kernel_rfl)) (fun _ => (by kernel_rfl)) (fun _ => (by kernel_rfl)) (fun r => ?_)
  obtain ⟨r117, r137⟩ := r
  refine bUc ?_
  refine oOp (.tuple [.d (.int .i64 r117), .d (.int .i64 r137)]) (by kernel_rfl) (by kernel_rfl) (PureV.does (p_move (by kernel_rfl))) ?_
  refine oOp (.d (.int .i64 r117)) (by kernel_rfl) (by kernel_rfl) (PureV.does (k_extract (by kernel_rfl))) ?_
  refine oOp (.d (.int .i64 r137)) (by kernel_rfl) (by kernel_rfl) (PureV.does (k_extract (by kernel_rfl))) ?_
  refine oOp (.d (.int .i64 r117)) (by kernel_rfl) (by kernel_rfl) (PureV.does (p_assign (by kernel_rfl))) ?_
  refine oOp (.d (.int .i64 r137)) (by kernel_rfl) (by kernel_rfl) (PureV.does (p_assign (by kernel_rfl))) ?_
  refine oEnd ?_
  refine oSeq ?_
  refine oRegion rfl ?_
  refine oOp (.d (.int .i64 r1121)) (by kernel_rfl) (by kernel_rfl) (PureV.does (p_move (by kernel_rfl))) ?_
  refine oOp (.d (.bool (r1121 == 0))) (by kernel_rfl) (by kernel_rfl) (PureV.does (p_int (k := .i64) (p := r1121) (q := 0) (by kernel_rfl) (by kernel_rfl) (by kernel_rfl))) ?_
  refine oOp (.d (.bool (r1121 == 0))) (by kernel_rfl) (by kernel_rfl) (PureV.does (p_move (by kernel_rfl))) ?_
  refine bMeetF (H' := [.box [.d (.int .i64 0), .d (.int .i64 0), .d (.lit (List.map e_SPart r115))]]) 3 rfl ((fun (x11 : Bool) => [(1, .d (.int .i64 r16)), (6, .ptr 0 0), (8, .d (.lit (List.map e_i64 r143))), (11, .d (.int .i64 r134)), (13, .d (.int .i64 r135)), (14, .d (.int .i64 r145)), (15, .d (.int .i64 r116)), (16, .d (.int .i64 r136)), (17, .d (.int .i64 r117)), (18, .d (.int .i64 r137)), (76, .d (.bool x11))])) (fun x11 => ?_) (fun F hj1 => ?_)
  · refine oView (T' := [(1, .d (.int .i64 r16)), (6, .ptr 0 0), (8, .d (.lit (List.map e_i64 r143))), (11, .d (.int .i64 r134)), (13, .d (.int .i64 r135)), (14, .d (.int .i64 r145)), (15, .d (.int .i64 r116)), (16, .d (.int .i64 r136)), (17, .d (.int .i64 r117)), (18, .d (.int .i64 r137)), (76, .d (.bool x11))]) (H' := [.box [.d (.int .i64 0), .d (.int .i64 0), .d (.lit (List.map e_SPart r115))]]) (by kernel_rfl) (by kernel_rfl) ?_
    refine oOp (.d (.bool x11)) (by kernel_rfl) (by kernel_rfl) (PureV.does (p_move (by kernel_rfl))) ?_
    refine bMeetF (H' := [.box [.d (.int .i64 0), .d (.int .i64 0), .d (.lit (List.map e_SPart r115))]]) 3 rfl ((fun (x12 : Bool) => [(1, .d (.int .i64 r16)), (6, .ptr 0 0), (8, .d (.lit (List.map e_i64 r143))), (11, .d (.int .i64 r134)), (13, .d (.int .i64 r135)), (15, .d (.int .i64 r116)), (16, .d (.int .i64 r136)), (17, .d (.int .i64 r117)), (18, .d (.int .i64 r137)), (80, .d (.bool x12))])) (fun x12 => ?_) (fun F hj2 => ?_)
    · refine oView (T' := [(1, .d (.int .i64 r16)), (6, .ptr 0 0), (8, .d (.lit (List.map e_i64 r143))), (11, .d (.int .i64 r134)), (13, .d (.int .i64 r135)), (15, .d (.int .i64 r116)), (16, .d (.int .i64 r136)), (17, .d (.int .i64 r117)), (18, .d (.int .i64 r137)), (80, .d (.bool x12))]) (H' := [.box [.d (.int .i64 0), .d (.int .i64 0), .d (.lit (List.map e_SPart r115))]]) (by kernel_rfl) (by kernel_rfl) ?_
      refine oOp (.d (.bool x12)) (by kernel_rfl) (by kernel_rfl) (PureV.does (p_move (by kernel_rfl))) ?_
      refine bMeetF (H' := [.box [.d (.int .i64 0), .d (.int .i64 0), .d (.lit (List.map e_SPart r115))]]) 3 rfl ((fun (x13 : Bool) => [(1, .d (.int .i64 r16)), (6, .ptr 0 0), (8, .d (.lit (List.map e_i64 r143))), (11, .d (.int .i64 r134)), (13, .d (.int .i64 r135)), (15, .d (.int .i64 r116)), (17, .d (.int .i64 r117)), (18, .d (.int .i64 r137)), (84, .d (.bool x13))])) (fun x13 => ?_) (fun F hj3 => ?_)
      · refine oView (T' := [(1, .d (.int .i64 r16)), (6, .ptr 0 0), (8, .d (.lit (List.map e_i64 r143))), (11, .d (.int .i64 r134)), (13, .d (.int .i64 r135)), (15, .d (.int .i64 r116)), (17, .d (.int .i64 r117)), (18, .d (.int .i64 r137)), (84, .d (.bool x13))]) (H' := [.box [.d (.int .i64 0), .d (.int .i64 0), .d (.lit (List.map e_SPart r115))]]) (by kernel_rfl) (by kernel_rfl) ?_
        refine oOp (.d (.bool x13)) (by kernel_rfl) (by kernel_rfl) (PureV.does (p_move (by kernel_rfl))) ?_
        refine bMeetF (H' := [.box [.d (.int .i64 0), .d (.int .i64 0), .d (.lit (List.map e_SPart r115))]]) 3 rfl ((fun (x14 : Bool) => [(1, .d (.int .i64 r16)), (6, .ptr 0 0), (8, .d (.lit (List.map e_i64 r143))), (11, .d (.int .i64 r134)), (13, .d (.int .i64 r135)), (15, .d (.int .i64 r116)), (17, .d (.int .i64 r117)), (88, .d (.bool x14))])) (fun x14 => ?_) (fun F hj4 => ?_)
        · refine oView (T' := [(1, .d (.int .i64 r16)), (6, .ptr 0 0), (8, .d (.lit (List.map e_i64 r143))), (11, .d (.int .i64 r134)), (13, .d (.int .i64 r135)), (15, .d (.int .i64 r116)), (17, .d (.int .i64 r117)), (88, .d (.bool x14))]) (H' := [.box [.d (.int .i64 0), .d (.int .i64 0), .d (.lit (List.map e_SPart r115))]]) (by kernel_rfl) (by kernel_rfl) ?_
          refine oOp (.d (.bool x14)) (by kernel_rfl) (by kernel_rfl) (PureV.does (p_move (by kernel_rfl))) ?_
          refine bMeet 10 rfl ((fun (x15 : Bool) => [(1, .d (.int .i64 r16)), (6, .ptr 0 0), (15, .d (.int .i64 r116)), (17, .d (.int .i64 r117)), (99, .d (.bool x15))])) ((fun (x15 : Bool) => [.box [.d (.int .i64 0), .d (.int .i64 0), .d (.lit (List.map e_SPart r115))]])) (fun s => s) (fun x15 => ?_) (fun hj7 => ?_)
          · refine oView (T' := [(1, .d (.int .i64 r16)), (6, .ptr 0 0), (15, .d (.int .i64 r116)), (17, .d (.int .i64 r117)), (99, .d (.bool x15))]) (H' := [.box [.d (.int .i64 0), .d (.int .i64 0), .d (.lit (List.map e_SPart r115))]]) (by kernel_rfl) (by kernel_rfl) ?_
            refine oOp (.d (.bool x15)) (by kernel_rfl) (by kernel_rfl) (PureV.does (p_move (by kernel_rfl))) ?_
            refine bMeet 11 rfl ((fun (x16 : Bool) => [(111, .d (.bool x16))])) ((fun (x16 : Bool) => [])) (fun s => s) (fun x16 => ?_) (fun hj6 => ?_)
            · refine oView (T' := [(111, .d (.bool x16))]) (H' := []) (by kernel_rfl) (by kernel_rfl) ?_
              refine oOp (.d (.bool x16)) (by kernel_rfl) (by kernel_rfl) (PureV.does (p_move (by kernel_rfl))) ?_
              refine bMeet 2 rfl ((fun (x17 : Bool) => [(114, .d (.bool x17))])) ((fun (x17 : Bool) => [])) (fun s => s) (fun x17 => ?_) (fun hj5 => ?_)
              · refine oView (T' := [(114, .d (.bool x17))]) (H' := []) (by kernel_rfl) (by kernel_rfl) ?_
                refine oOp (.d (.bool x17)) (by kernel_rfl) (by kernel_rfl) (PureV.does (p_assign (by kernel_rfl))) ?_
                refine oEnd ?_
                exact oRet (r0 := x17) (rv := .d (.bool x17)) (B := []) (vs := [.d (.bool x17)]) (σ := []) (by kernel_rfl) Try.func7 rfl (.cons _ _ _ _ (.tmp 4 _ (by kernel_rfl)) .nil) (by kernel_rfl) (by kernel_rfl) (by kernel_rfl) (by kernel_rfl) (by decide) (by kernel_rfl) (by kernel_rfl)
              · refine bSplit 112 (by kernel_rfl) (fun hc => ?_) (fun hc => ?_)
                · refine bCall (caps := []) (v := (fun (r122 : Bool) => (.d (.bool r122) : V))) (H' := (fun (r122 : Bool) => ([] : List Blk))) [] _ (law23_awake_goes k ) (by kernel_rfl) (by kernel_rfl) rfl (by kernel_rfl) Try.func19 rfl (by kernel_rfl) (ConvRs.refl _ _) (by kernel_rfl) (by kernel_rfl) (by kernel_rfl) (by decide) (by kernel_rfl) (by kernel_rfl) (fun _ => (by kernel_rfl)) (fun _ => (by kernel_rfl)) (fun _ => (by kernel_rfl)) (fun r122 => ?_)
                  refine oOp (.d (.bool r122)) (by kernel_rfl) (by kernel_rfl) (PureV.does (p_pick (b := true) (by kernel_rfl) (by kernel_rfl))) ?_
                  refine oHead [114] [] (T' := [(114, .d (.bool r122))]) (H' := []) (by kernel_rfl) (by kernel_rfl) (by kernel_rfl) (by kernel_rfl) (by decide) (by kernel_rfl) (by kernel_rfl) ?_
                  exact hj5 r122
                · refine oNot (by kernel_rfl) (by kernel_rfl) ?_
                  refine oOp (.d (.bool false)) (by kernel_rfl) (by kernel_rfl) (PureV.does (p_pick (b := false) (by kernel_rfl) (by kernel_rfl))) ?_
                  refine oHead [114] [] (T' := [(114, .d (.bool false))]) (H' := []) (by kernel_rfl) (by kernel_rfl) (by kernel_rfl) (by kernel_rfl) (by decide) (by kernel_rfl) (by kernel_rfl) ?_
                  exact hj5 false
            · refine bSplit 100 (by kernel_rfl) (fun hc => ?_) (fun hc => ?_)
              · refine oOp (.d (.int .i64 r116)) (by kernel_rfl) (by kernel_rfl) (PureV.does (p_move (by kernel_rfl))) ?_
                refine oOp (.d (.int .i64 r117)) (by kernel_rfl) (by kernel_rfl) (PureV.does (p_move (by kernel_rfl))) ?_
                refine oOp (.d (.int .i64 (IntKind.wrap .i64 (r116 - r117)))) (by kernel_rfl) (by kernel_rfl) (PureV.does (p_int (k := .i64) (p := r116) (q := r117) (by kernel_rfl) (by kernel_rfl) (by kernel_rfl))) ?_
                refine oOp (.ptr 0 2) (by kernel_rfl) (by kernel_rfl) (PureV.does (k_fieldAddr 0 0 (by kernel_rfl) Try.underlying27 rfl ty25 (by kernel_rfl))) ?_
                refine oOp (.d (.lit (List.map e_SPart r115))) (by kernel_rfl) (by kernel_rfl) (Quiet.does (k_load 0 2 (by kernel_rfl) Try.underlying25 (by kernel_rfl) (by kernel_rfl))) ?_
                refine oOp (.d (.int .i64 r16)) (by kernel_rfl) (by kernel_rfl) (PureV.does (p_move (by kernel_rfl))) ?_
                refine bIdx (fun e16 h112 h113 => ?_)
                refine oOp (.lptr (e_SPart e16) 0) (by kernel_rfl) (by kernel_rfl) (PureV.does (k_idxLit e_SPart_len r115 (a := e16) (by kernel_rfl) (k := .i64) (i := r16) (by kernel_rfl) Try.underlying25 ty49 h112 h113)) ?_
                refine oOp (.lptr (e_SPart e16) 1) (by kernel_rfl) (by kernel_rfl) (PureV.does (k_fieldAddrL (cells := e_SPart e16) 0 (by kernel_rfl) Try.underlying49 rfl ty3 (by kernel_rfl))) ?_
                refine oOp (.d (.int .i64 e16.Max)) (by kernel_rfl) (by kernel_rfl) (Quiet.does (k_loadL (cells := e_SPart e16) 1 (by kernel_rfl) Try.underlying3 (by kernel_rfl) (by kernel_rfl))) ?_
                refine oOp (.d (.bool ((IntKind.wrap .i64 (r116 - r117)) == e16.Max))) (by kernel_rfl) (by kernel_rfl) (PureV.does (p_int (k := .i64) (p := (IntKind.wrap .i64 (r116 - r117))) (q := e16.Max) (by kernel_rfl) (by kernel_rfl) (by kernel_rfl))) ?_
                refine oOp (.d (.bool ((IntKind.wrap .i64 (r116 - r117)) == e16.Max))) (by kernel_rfl) (by kernel_rfl) (PureV.does (p_pick (b := true) (by kernel_rfl) (by kernel_rfl))) ?_
                refine oHead [111] [] (T' := [(111, .d (.bool ((IntKind.wrap .i64 (r116 - r117)) == e16.Max)))]) (H' := []) (by kernel_rfl) (by kernel_rfl) (by kernel_rfl) (by kernel_rfl) (by decide) (by kernel_rfl) (by kernel_rfl) ?_
                exact hj6 ((IntKind.wrap .i64 (r116 - r117)) == e16.Max)
              · refine oNot (by kernel_rfl) (by kernel_rfl) ?_
                refine oNot (by kernel_rfl) (by kernel_rfl) ?_
                refine oNot (by kernel_rfl) (by kernel_rfl) ?_
                refine oNot (by kernel_rfl) (by kernel_rfl) ?_
                refine oNot (by kernel_rfl) (by kernel_rfl) ?_
                refine oNot (by kernel_rfl) (by kernel_rfl) ?_
                refine oNot (by kernel_rfl) (by kernel_rfl) ?_
                refine oNot (by kernel_rfl) (by kernel_rfl) ?_
                refine oNot (by kernel_rfl) (by kernel_rfl) ?_
                refine oNot (by kernel_rfl) (by kernel_rfl) ?_
                refine oOp (.d (.bool false)) (by kernel_rfl) (by kernel_rfl) (PureV.does (p_pick (b := false) (by kernel_rfl) (by kernel_rfl))) ?_
                refine oHead [111] [] (T' := [(111, .d (.bool false))]) (H' := []) (by kernel_rfl) (by kernel_rfl) (by kernel_rfl) (by kernel_rfl) (by decide) (by kernel_rfl) (by kernel_rfl) ?_
                exact hj6 false
          · refine bSplit 89 (by kernel_rfl) (fun hc => ?_) (fun hc => ?_)
            · refine oOp (.d (.int .i64 r134)) (by kernel_rfl) (by kernel_rfl) (PureV.does (p_move (by kernel_rfl))) ?_
              refine oOp (.d (.int .i64 r135)) (by kernel_rfl) (by kernel_rfl) (PureV.does (p_move (by kernel_rfl))) ?_
              refine oOp (.d (.int .i64 (IntKind.wrap .i64 (r134 - r135)))) (by kernel_rfl) (by kernel_rfl) (PureV.does (p_int (k := .i64) (p := r134) (q := r135) (by kernel_rfl) (by kernel_rfl) (by kernel_rfl))) ?_
              refine oOp (.d (.lit (List.map e_i64 r143))) (by kernel_rfl) (by kernel_rfl) (PureV.does (p_move (by kernel_rfl))) ?_
              refine oOp (.d (.int .i64 r16)) (by kernel_rfl) (by kernel_rfl) (PureV.does (p_move (by kernel_rfl))) ?_
              refine bIdx (fun e17 h114 h115 => ?_)
              refine oOp (.lptr (e_i64 e17) 0) (by kernel_rfl) (by kernel_rfl) (PureV.does (k_idxLit e_i64_len r143 (a := e17) (by kernel_rfl) (k := .i64) (i := r16) (by kernel_rfl) Try.underlying22 ty3 h114 h115)) ?_
              refine oOp (.d (.int .i64 e17)) (by kernel_rfl) (by kernel_rfl) (Quiet.does (k_loadL (cells := e_i64 e17) 0 (by kernel_rfl) Try.underlying3 (by kernel_rfl) (by kernel_rfl))) ?_
              refine oOp (.d (.int .i64 (gmax e17 0))) (by kernel_rfl) (by kernel_rfl) (PureV.does (p_max2 (k := .i64) (p := e17) (q := 0) (by kernel_rfl) (by kernel_rfl) (by kernel_rfl))) ?_
              refine oOp (.d (.bool ((IntKind.wrap .i64 (r134 - r135)) == (gmax e17 0)))) (by kernel_rfl) (by kernel_rfl) (PureV.does (p_int (k := .i64) (p := (IntKind.wrap .i64 (r134 - r135))) (q := (gmax e17 0)) (by kernel_rfl) (by kernel_rfl) (by kernel_rfl))) ?_
              refine oOp (.d (.bool ((IntKind.wrap .i64 (r134 - r135)) == (gmax e17 0)))) (by kernel_rfl) (by kernel_rfl) (PureV.does (p_pick (b := true) (by kernel_rfl) (by kernel_rfl))) ?_
              refine oHead [1, 6, 15, 17, 99] [0] (T' := [(1, .d (.int .i64 r16)), (6, .ptr 0 0), (15, .d (.int .i64 r116)), (17, .d (.int .i64 r117)), (99, .d (.bool ((IntKind.wrap .i64 (r134 - r135)) == (gmax e17 0))))]) (H' := [.box [.d (.int .i64 0), .d (.int .i64 0), .d (.lit (List.map e_SPart r115))]]) (by kernel_rfl) (by kernel_rfl) (by kernel_rfl) (by kernel_rfl) (by decide) (by kernel_rfl) (by kernel_rfl) ?_
              exact hj7 ((IntKind.wrap .i64 (r134 - r135)) == (gmax e17 0))
            · refine oNot (by kernel_rfl) (by kernel_rfl) ?_
              refine oNot (by kernel_rfl) (by kernel_rfl) ?_
              refine oNot (by kernel_rfl) (by kernel_rfl) ?_
              refine oNot (by kernel_rfl) (by kernel_rfl) ?_
              refine oNot (by kernel_rfl) (by kernel_rfl) ?_
              refine oNot (by kernel_rfl) (by kernel_rfl) ?_
              refine oNot (by kernel_rfl) (by kernel_rfl) ?_
              refine oNot (by kernel_rfl) (by kernel_rfl) ?_
              refine oNot (by kernel_rfl) (by kernel_rfl) ?_
              refine oOp (.d (.bool false)) (by kernel_rfl) (by kernel_rfl) (PureV.does (p_pick (b := false) (by kernel_rfl) (by kernel_rfl))) ?_
              refine oHead [1, 6, 15, 17, 99] [0] (T' := [(1, .d (.int .i64 r16)), (6, .ptr 0 0), (15, .d (.int .i64 r116)), (17, .d (.int .i64 r117)), (99, .d (.bool false))]) (H' := [.box [.d (.int .i64 0), .d (.int .i64 0), .d (.lit (List.map e_SPart r115))]]) (by kernel_rfl) (by kernel_rfl) (by kernel_rfl) (by kernel_rfl) (by decide) (by kernel_rfl) (by kernel_rfl) ?_
              exact hj7 false
        · refine bPickF 85 (fun c => F (c && (r137 == 0))) (by kernel_rfl) (fun hc => ?_) (fun hc => ?_)
          · refine oOp (.d (.int .i64 r137)) (by kernel_rfl) (by kernel_rfl) (PureV.does (p_move (by kernel_rfl))) ?_
            refine oOp (.d (.bool (r137 == 0))) (by kernel_rfl) (by kernel_rfl) (PureV.does (p_int (k := .i64) (p := r137) (q := 0) (by kernel_rfl) (by kernel_rfl) (by kernel_rfl))) ?_
            refine oOp (.d (.bool (r137 == 0))) (by kernel_rfl) (by kernel_rfl) (PureV.does (p_pick (b := true) (by kernel_rfl) (by kernel_rfl))) ?_
            refine oHead [1, 6, 8, 11, 13, 15, 17, 88] [0] (T' := [(1, .d (.int .i64 r16)), (6, .ptr 0 0), (8, .d (.lit (List.map e_i64 r143))), (11, .d (.int .i64 r134)), (13, .d (.int .i64 r135)), (15, .d (.int .i64 r116)), (17, .d (.int .i64 r117)), (88, .d (.bool (r137 == 0)))]) (H' := [.box [.d (.int .i64 0), .d (.int .i64 0), .d (.lit (List.map e_SPart r115))]]) (by kernel_rfl) (by kernel_rfl) (by kernel_rfl) (by kernel_rfl) (by decide) (by kernel_rfl) (by kernel_rfl) ?_
            exact hj4 (r137 == 0)
          · refine oNot (by kernel_rfl) (by kernel_rfl) ?_
            refine oNot (by kernel_rfl) (by kernel_rfl) ?_
            refine oOp (.d (.bool false)) (by kernel_rfl) (by kernel_rfl) (PureV.does (p_pick (b := false) (by kernel_rfl) (by kernel_rfl))) ?_
            refine oHead [1, 6, 8, 11, 13, 15, 17, 88] [0] (T' := [(1, .d (.int .i64 r16)), (6, .ptr 0 0), (8, .d (.lit (List.map e_i64 r143))), (11, .d (.int .i64 r134)), (13, .d (.int .i64 r135)), (15, .d (.int .i64 r116)), (17, .d (.int .i64 r117)), (88, .d (.bool false))]) (H' := [.box [.d (.int .i64 0), .d (.int .i64 0), .d (.lit (List.map e_SPart r115))]]) (by kernel_rfl) (by kernel_rfl) (by kernel_rfl) (by kernel_rfl) (by decide) (by kernel_rfl) (by kernel_rfl) ?_
            exact hj4 false
      · refine bPickF 81 (fun c => F (c && (r136 == 0))) (by kernel_rfl) (fun hc => ?_) (fun hc => ?_)
        · refine oOp (.d (.int .i64 r136)) (by kernel_rfl) (by kernel_rfl) (PureV.does (p_move (by kernel_rfl))) ?_
          refine oOp (.d (.bool (r136 == 0))) (by kernel_rfl) (by kernel_rfl) (PureV.does (p_int (k := .i64) (p := r136) (q := 0) (by kernel_rfl) (by kernel_rfl) (by kernel_rfl))) ?_
          refine oOp (.d (.bool (r136 == 0))) (by kernel_rfl) (by kernel_rfl) (PureV.does (p_pick (b := true) (by kernel_rfl) (by kernel_rfl))) ?_
          refine oHead [1, 6, 8, 11, 13, 15, 17, 18, 84] [0] (T' := [(1, .d (.int .i64 r16)), (6, .ptr 0 0), (8, .d (.lit (List.map e_i64 r143))), (11, .d (.int .i64 r134)), (13, .d (.int .i64 r135)), (15, .d (.int .i64 r116)), (17, .d (.int .i64 r117)), (18, .d (.int .i64 r137)), (84, .d (.bool (r136 == 0)))]) (H' := [.box [.d (.int .i64 0), .d (.int .i64 0), .d (.lit (List.map e_SPart r115))]]) (by kernel_rfl) (by kernel_rfl) (by kernel_rfl) (by kernel_rfl) (by decide) (by kernel_rfl) (by kernel_rfl) ?_
          exact hj3 (r136 == 0)
        · refine oNot (by kernel_rfl) (by kernel_rfl) ?_
          refine oNot (by kernel_rfl) (by kernel_rfl) ?_
          refine oOp (.d (.bool false)) (by kernel_rfl) (by kernel_rfl) (PureV.does (p_pick (b := false) (by kernel_rfl) (by kernel_rfl))) ?_
          refine oHead [1, 6, 8, 11, 13, 15, 17, 18, 84] [0] (T' := [(1, .d (.int .i64 r16)), (6, .ptr 0 0), (8, .d (.lit (List.map e_i64 r143))), (11, .d (.int .i64 r134)), (13, .d (.int .i64 r135)), (15, .d (.int .i64 r116)), (17, .d (.int .i64 r117)), (18, .d (.int .i64 r137)), (84, .d (.bool false))]) (H' := [.box [.d (.int .i64 0), .d (.int .i64 0), .d (.lit (List.map e_SPart r115))]]) (by kernel_rfl) (by kernel_rfl) (by kernel_rfl) (by kernel_rfl) (by decide) (by kernel_rfl) (by kernel_rfl) ?_
          exact hj3 false
    · refine bPickF 77 (fun c => F (c && (r145 == 0))) (by kernel_rfl) (fun hc => ?_) (fun hc => ?_)
      · refine oOp (.d (.int .i64 r145)) (by kernel_rfl) (by kernel_rfl) (PureV.does (p_move (by kernel_rfl))) ?_
        refine oOp (.d (.bool (r145 == 0))) (by kernel_rfl) (by kernel_rfl) (PureV.does (p_int (k := .i64) (p := r145) (q := 0) (by kernel_rfl) (by kernel_rfl) (by kernel_rfl))) ?_
        refine oOp (.d (.bool (r145 == 0))) (by kernel_rfl) (by kernel_rfl) (PureV.does (p_pick (b := true) (by kernel_rfl) (by kernel_rfl))) ?_
        refine oHead [1, 6, 8, 11, 13, 15, 16, 17, 18, 80] [0] (T' := [(1, .d (.int .i64 r16)), (6, .ptr 0 0), (8, .d (.lit (List.map e_i64 r143))), (11, .d (.int .i64 r134)), (13, .d (.int .i64 r135)), (15, .d (.int .i64 r116)), (16, .d (.int .i64 r136)), (17, .d (.int .i64 r117)), (18, .d (.int .i64 r137)), (80, .d (.bool (r145 == 0)))]) (H' := [.box [.d (.int .i64 0), .d (.int .i64 0), .d (.lit (List.map e_SPart r115))]]) (by kernel_rfl) (by kernel_rfl) (by kernel_rfl) (by kernel_rfl) (by decide) (by kernel_rfl) (by kernel_rfl) ?_
        exact hj2 (r145 == 0)
      · refine oNot (by kernel_rfl) (by kernel_rfl) ?_
        refine oNot (by kernel_rfl) (by kernel_rfl) ?_
        refine oOp (.d (.bool false)) (by kernel_rfl) (by kernel_rfl) (PureV.does (p_pick (b := false) (by kernel_rfl) (by kernel_rfl))) ?_
        refine oHead [1, 6, 8, 11, 13, 15, 16, 17, 18, 80] [0] (T' := [(1, .d (.int .i64 r16)), (6, .ptr 0 0), (8, .d (.lit (List.map e_i64 r143))), (11, .d (.int .i64 r134)), (13, .d (.int .i64 r135)), (15, .d (.int .i64 r116)), (16, .d (.int .i64 r136)), (17, .d (.int .i64 r117)), (18, .d (.int .i64 r137)), (80, .d (.bool false))]) (H' := [.box [.d (.int .i64 0), .d (.int .i64 0), .d (.lit (List.map e_SPart r115))]]) (by kernel_rfl) (by kernel_rfl) (by kernel_rfl) (by kernel_rfl) (by decide) (by kernel_rfl) (by kernel_rfl) ?_
        exact hj2 false
  · refine bPickF 73 (fun c => F (c && (r144 == 0))) (by kernel_rfl) (fun hc => ?_) (fun hc => ?_)
    · refine oOp (.d (.int .i64 r144)) (by kernel_rfl) (by kernel_rfl) (PureV.does (p_move (by kernel_rfl))) ?_
      refine oOp (.d (.bool (r144 == 0))) (by kernel_rfl) (by kernel_rfl) (PureV.does (p_int (k := .i64) (p := r144) (q := 0) (by kernel_rfl) (by kernel_rfl) (by kernel_rfl))) ?_
      refine oOp (.d (.bool (r144 == 0))) (by kernel_rfl) (by kernel_rfl) (PureV.does (p_pick (b := true) (by kernel_rfl) (by kernel_rfl))) ?_
      refine oHead [1, 6, 8, 11, 13, 14, 15, 16, 17, 18, 76] [1] (T' := [(1, .d (.int .i64 r16)), (6, .ptr 0 0), (8, .d (.lit (List.map e_i64 r143))), (11, .d (.int .i64 r134)), (13, .d (.int .i64 r135)), (14, .d (.int .i64 r145)), (15, .d (.int .i64 r116)), (16, .d (.int .i64 r136)), (17, .d (.int .i64 r117)), (18, .d (.int .i64 r137)), (76, .d (.bool (r144 == 0)))]) (H' := [.box [.d (.int .i64 0), .d (.int .i64 0), .d (.lit (List.map e_SPart r115))]]) (by kernel_rfl) (by kernel_rfl) (by kernel_rfl) (by kernel_rfl) (by decide) (by kernel_rfl) (by kernel_rfl) ?_
      exact hj1 (r144 == 0)
    · refine oNot (by kernel_rfl) (by kernel_rfl) ?_
      refine oNot (by kernel_rfl) (by kernel_rfl) ?_
      refine oOp (.d (.bool false)) (by kernel_rfl) (by kernel_rfl) (PureV.does (p_pick (b := false) (by kernel_rfl) (by kernel_rfl))) ?_
      refine oHead [1, 6, 8, 11, 13, 14, 15, 16, 17, 18, 76] [1] (T' := [(1, .d (.int .i64 r16)), (6, .ptr 0 0), (8, .d (.lit (List.map e_i64 r143))), (11, .d (.int .i64 r134)), (13, .d (.int .i64 r135)), (14, .d (.int .i64 r145)), (15, .d (.int .i64 r116)), (16, .d (.int .i64 r136)), (17, .d (.int .i64 r117)), (18, .d (.int .i64 r137)), (76, .d (.bool false))]) (H' := [.box [.d (.int .i64 0), .d (.int .i64 0), .d (.lit (List.map e_SPart r115))]]) (by kernel_rfl) (by kernel_rfl) (by kernel_rfl) (by kernel_rfl) (by decide) (by kernel_rfl) (by kernel_rfl) ?_
      exact hj1 false

/-- (*awardingbody/awardingbodymake.Tape).Pick -/
def make_Tape_Pick_2 (k : Nat) (l : (List Int)) (x : (List Int)) (x1 : Int) : Option (Int × Int) := Option.bind (make_Tape_Next k ((List.length l) : Int) x x1) (uc fun r121 => fun x31 => gidx l r121 fun e11 => some (e11, x31))
def make_Tape_Pick_2_E (l : (List Int)) (x : (List Int)) (x1 : Int) : Int × Int → V × List Blk := uc fun r1 => fun x2 => (.d (.int .i64 r1), [.box [.d (.lit (List.map e_i64 x)), .d (.int .i64 x2)]])
theorem make_Tape_Pick_2_goes (k : Nat) (l : (List Int)) (x : (List Int)) (x1 : Int) : RunsO Try.prog 43 [.ptr 0 0, .d (.lit (List.map e_i64 l))] [.box [.d (.lit (List.map e_i64 x)), .d (.int .i64 x1)]] (make_Tape_Pick_2_E l x x1) (make_Tape_Pick_2 k l x x1) := by
  refine RunsO.of_goes (N := 12) (m := 1) (T := [(0, .ptr 0 0), (1, .d (.lit (List.map e_i64 l)))]) Try.func43 rfl rfl (by kernel_rfl) (by kernel_rfl) (by kernel_rfl) ?_
  unfold make_Tape_Pick_2
  refine bStart ?_
  refine oSeq ?_
  refine oRegion rfl ?_
  refine oOp (.d (.int .i64 0)) (by kernel_rfl) (by kernel_rfl) (PureV.does (p_assign (by kernel_rfl))) ?_
  refine oEnd ?_
  refine oSeq ?_
  refine oRegion rfl ?_
  refine oOp (.d (.lit (List.map e_i64 l))) (by kernel_rfl) (by kernel_rfl) (PureV.does (p_move (by kernel_rfl))) ?_
  refine oOp (.ptr 0 0) (by kernel_rfl) (by kernel_rfl) (PureV.does (p_move (by kernel_rfl))) ?_
  refine oOp (.d (.lit (List.map e_i64 l))) (by kernel_rfl) (by kernel_rfl) (PureV.does (p_move (by kernel_rfl))) ?_
  refine oOp (.d (.int .i64 ((List.length l) : Int))) (by kernel_rfl) (by kernel_rfl) (PureV.does (k_lenLit (enc := e_i64) l (by kernel_rfl) Try.underlying22)) ?_
  refine bCall (caps := []) (v := (uc fun (r121 : Int) => (fun (x31 : Int) => (.d (.int .i64 r121) : V)))) (H' := (uc fun (r121 : Int) => (fun (x31 : Int) => ([.box [.d (.lit (List.map e_i64 x)), .d (.int .i64 x31)]] : List Blk)))) [0] _ (make_Tape_Next_goes k ((List.length l) : Int) x x1) (by kernel_rfl) (by kernel_rfl) rfl (by kernel_rfl) Try.func39 rfl (by kernel_rfl) (ConvRs.refl _ _) (by kernel_rfl) (by kernel_rfl) (by kernel_rfl) (by decide) (by kernel_rfl) (by kernel_rfl) (fun _ => (by kernel_rfl)) (fun _ => (by kernel_rfl)) (fun _ => (by kernel_rfl)) (fun r => ?_)
  obtain ⟨r121, x31⟩ := r
  refine bUc ?_
  refine bIdx (fun e11 h12 h13 => ?_)
  refine oOp (.lptr (e_i64 e11) 0) (by kernel_rfl) (by kernel_rfl) (PureV.does (k_idxLit e_i64_len l (a := e11) (by kernel_rfl) (k := .i64) (i := r121) (by kernel_rfl) Try.underlying22 ty3 h12 h13)) ?_
  refine oOp (.d (.int .i64 e11)) (by kernel_rfl) (by kernel_rfl) (Quiet.does (k_loadL (cells := e_i64 e11) 0 (by kernel_rfl) Try.underlying3 (by kernel_rfl) (by kernel_rfl))) ?_
  refine oOp (.d (.int .i64 e11)) (by kernel_rfl) (by kernel_rfl) (PureV.does (p_assign (by kernel_rfl))) ?_
  refine oEnd ?_
  exact oRet (r0 := (e11, x31)) (rv := .d (.int .i64 e11)) (B := [.box [.d (.lit (List.map e_i64 x)), .d (.int .i64 x31)]]) (vs := [.d (.int .i64 e11)]) (σ := [0]) (by kernel_rfl) Try.func43 rfl (.cons _ _ _ _ (.tmp 4 _ (by kernel_rfl)) .nil) (by kernel_rfl) (by kernel_rfl) (by kernel_rfl) (by kernel_rfl) (by decide) (by kernel_rfl) (by kernel_rfl)

/-- (*awardingbody/awardingbodymake.Tape).Given -/
def make_Tape_Given_b1 (k : Nat) (p2 : (List SPart)) (x : (List Int)) (again : Int × Int × (List Int) → Option (Int × (List Int))) : Int × Int × (List Int) → Option (Int × (List Int)) := uc fun i4 => uc fun x20 => fun xs6 => bif (decide (i4 < ((List.length p2) : Int))) then gidx p2 i4 fun e113 => Option.bind (make_Tape_Range k (-2) (gmax (IntKind.wrap .i64 (e113.Options - 1)) (-1)) x x20) (uc fun r127 => fun x226 => Option.bind (bif (e113.Kind != 2) then Option.bind (make_Tape_Pick_2 k ([(-1), (-1), 7, (-9)] : List Int) x x226) (uc fun r129 => fun x228 => some (r129, x228)) else some (r127, x226) : Option (Int × Int)) (uc fun a13 => fun x34 => gcap (List.length (xs6 ++ ([a13] : List Int))) 8 (again ((IntKind.wrap .i64 (i4 + 1)), x34, (xs6 ++ ([a13] : List Int)))))) else some (x20, xs6)
def make_Tape_Given (k : Nat) (p2 : (List SPart)) (x : (List Int)) (x1 : Int) : Option ((List Int) × Int) := Option.bind (gloop (make_Tape_Given_b1 k p2 x) k (0, x1, ([] : List Int)) : Option (Int × (List Int))) (uc fun x17 => fun xs5 => some (xs5, x17))
def make_Tape_Given_E (p2 : (List SPart)) (x : (List Int)) (x1 : Int) : (List Int) × Int → V × List Blk := uc fun r18 => fun x10 => (.d (.lit (List.map e_i64 r18)), [.box [.d (.lit (List.map e_i64 x)), .d (.int .i64 x10)]])
theorem make_Tape_Given_goes (k : Nat) (p2 : (List SPart)) (x : (List Int)) (x1 : Int) : RunsO Try.prog 15 [.ptr 0 0, .agg [.d (.int .i64 0), .d (.int .i64 0), .d (.lit (List.map e_SPart p2))], .d (.int .i64 0)] [.box [.d (.lit (List.map e_i64 x)), .d (.int .i64 x1)]] (make_Tape_Given_E p2 x x1) (make_Tape_Given k p2 x x1) := by
  refine RunsO.of_goes (N := 69) (m := 1) (T := [(0, .ptr 0 0), (1, .agg [.d (.int .i64 0), .d (.int .i64 0), .d (.lit (List.map e_SPart p2))]), (2, .d (.int .i64 0))]) Try.func15 rfl rfl (by kernel_rfl) (by kernel_rfl) (by kernel_rfl) ?_
  unfold make_Tape_Given
  refine bStart ?_
  refine oSeq ?_
  refine oRegion rfl ?_
  refine oOp (.ptr 1 0) (by kernel_rfl) (by kernel_rfl) (k_box (H' := [.box [.d (.lit (List.map e_i64 x)), .d (.int .i64 x1)], .box [.d (.int .i64 0), .d (.int .i64 0), .d (.lit (List.map e_SPart p2))]]) (cells := [.d (.int .i64 0), .d (.int .i64 0), .d (.lit (List.map e_SPart p2))]) (by kernel_rfl) (by kernel_rfl) (by kernel_rfl)) ?_
  refine oOp (.nilc) (by kernel_rfl) (by kernel_rfl) (PureV.does (p_assign (by kernel_rfl))) ?_
  refine oEnd ?_
  refine oSeq ?_
  refine oRegion rfl ?_
  refine oOp (.nilc) (by kernel_rfl) (by kernel_rfl) (PureV.does (p_assign (by kernel_rfl))) ?_
  refine oEnd ?_
  refine oSeq ?_
  refine oSeq ?_
  refine oRegion rfl ?_
  refine oOp (.d (.int .i64 0)) (by kernel_rfl) (by kernel_rfl) (PureV.does (p_assign (by kernel_rfl))) ?_
  refine oEnd ?_
  refine bJoin ((uc fun (x17 : Int) => (fun (xs5 : (List Int)) => [(0, .ptr 0 0), (2, .d (.int .i64 0)), (7, .ref 1 (List.length xs5) 0 (List.length xs5))]))) ((uc fun (x17 : Int) => (fun (xs5 : (List Int)) => [.box [.d (.lit (List.map e_i64 x)), .d (.int .i64 x17)], .sl 1 (List.map e_i64 xs5) false]))) (fun s => s) (fun s => ?_) (fun hj10 => ?_)
  · obtain ⟨x17, xs5⟩ := s
    refine bUc ?_
    refine oView (T' := [(0, .ptr 0 0), (2, .d (.int .i64 0)), (7, .ref 1 (List.length xs5) 0 (List.length xs5))]) (H' := [.box [.d (.lit (List.map e_i64 x)), .d (.int .i64 x17)], .sl 1 (List.map e_i64 xs5) false]) (by kernel_rfl) (by kernel_rfl) ?_
    refine oSeq ?_
    refine oSeq ?_
    refine oRegion rfl ?_
    refine oOp (.d (.int .i64 0)) (by kernel_rfl) (by kernel_rfl) (PureV.does (p_move (by kernel_rfl))) ?_
    refine oOp (.d (.bool false)) (by kernel_rfl) (by kernel_rfl) (PureV.does (p_int (k := .i64) (p := 0) (q := 0) (by kernel_rfl) (by kernel_rfl) (by kernel_rfl))) ?_
    refine oOp (.d (.bool false)) (by kernel_rfl) (by kernel_rfl) (PureV.does (p_move (by kernel_rfl))) ?_
    refine oNot (by kernel_rfl) (by kernel_rfl) ?_
    refine oNot (by kernel_rfl) (by kernel_rfl) ?_
    refine oNot (by kernel_rfl) (by kernel_rfl) ?_
    refine oOp (.d (.bool false)) (by kernel_rfl) (by kernel_rfl) (PureV.does (p_pick (b := false) (by kernel_rfl) (by kernel_rfl))) ?_
    refine oEnd ?_
    refine oCondF (by kernel_rfl) ?_
    refine oSkip ?_
    refine oSeq ?_
    refine oRegion rfl ?_
    refine oOp (.ref 1 (List.length xs5) 0 (List.length xs5)) (by kernel_rfl) (by kernel_rfl) (PureV.does (p_move (by kernel_rfl))) ?_
    refine oOp (.ref 1 (List.length xs5) 0 (List.length xs5)) (by kernel_rfl) (by kernel_rfl) (PureV.does (p_assign (by kernel_rfl))) ?_
    refine oEnd ?_
    refine oFreeze 1 (esz := 1) (xs := List.map e_i64 xs5) (by kernel_rfl) ?_
    refine oView (H' := [.box [.d (.lit (List.map e_i64 x)), .d (.int .i64 x17)], .sl 1 (List.map e_i64 xs5) true]) rfl (by kernel_rfl) ?_
    refine oConv 6 (v := .ref 1 (List.length xs5) 0 (List.length xs5)) (v' := .d (.lit (List.map e_i64 xs5))) (by kernel_rfl) (k_lit (enc := e_i64) (sz := 1) 1 xs5 (by kernel_rfl)) ?_
    exact oRet (r0 := (xs5, x17)) (rv := .d (.lit (List.map e_i64 xs5))) (B := [.box [.d (.lit (List.map e_i64 x)), .d (.int .i64 x17)]]) (vs := [.d (.lit (List.map e_i64 xs5))]) (σ := [0]) (by kernel_rfl) Try.func15 rfl (.cons _ _ _ _ (.tmp 6 _ (by kernel_rfl)) .nil) (by kernel_rfl) (by kernel_rfl) (by kernel_rfl) (by kernel_rfl) (by decide) (by kernel_rfl) (by kernel_rfl)
  · refine oBlock ?_
    refine oLoop ?_
    refine oVirt (esz := 1) 7 (by kernel_rfl) ?_
    refine oView (H' := [.box [.d (.lit (List.map e_i64 x)), .d (.int .i64 x1)], .box [.d (.int .i64 0), .d (.int .i64 0), .d (.lit (List.map e_SPart p2))], .sl 1 (List.map e_i64 ([] : List Int)) false]) rfl (by kernel_rfl) ?_
    refine oHead [0, 2, 4, 7, 8] [0, 1, 2] (T' := [(0, .ptr 0 0), (2, .d (.int .i64 0)), (4, .ptr 1 0), (7, .ref 2 (List.length ([] : List Int)) 0 (List.length ([] : List Int))), (8, .d (.int .i64 0))]) (H' := [.box [.d (.lit (List.map e_i64 x)), .d (.int .i64 x1)], .box [.d (.int .i64 0), .d (.int .i64 0), .d (.lit (List.map e_SPart p2))], .sl 1 (List.map e_i64 ([] : List Int)) false]) (by kernel_rfl) (by kernel_rfl) (by kernel_rfl) (by kernel_rfl) (by decide) (by kernel_rfl) (by kernel_rfl) ?_
    refine bLoop (body := make_Tape_Given_b1 k p2 x) ((uc fun (i4 : Int) => (uc fun (x20 : Int) => (fun (xs6 : (List Int)) => [(0, .ptr 0 0), (2, .d (.int .i64 0)), (4, .ptr 1 0), (7, .ref 2 (List.length xs6) 0 (List.length xs6)), (8, .d (.int .i64 i4))])))) ((uc fun (i4 : Int) => (uc fun (x20 : Int) => (fun (xs6 : (List Int)) => [.box [.d (.lit (List.map e_i64 x)), .d (.int .i64 x20)], .box [.d (.int .i64 0), .d (.int .i64 0), .d (.lit (List.map e_SPart p2))], .sl 1 (List.map e_i64 xs6) false])))) (fun again hag1 s => ?_) k (0, x1, ([] : List Int))
    · unfold make_Tape_Given_b1
      obtain ⟨i4, x20, xs6⟩ := s
      refine bUc ?_
      refine bUc ?_
      refine oView (T' := [(0, .ptr 0 0), (2, .d (.int .i64 0)), (4, .ptr 1 0), (7, .ref 2 (List.length xs6) 0 (List.length xs6)), (8, .d (.int .i64 i4))]) (H' := [.box [.d (.lit (List.map e_i64 x)), .d (.int .i64 x20)], .box [.d (.int .i64 0), .d (.int .i64 0), .d (.lit (List.map e_SPart p2))], .sl 1 (List.map e_i64 xs6) false]) (by kernel_rfl) (by kernel_rfl) ?_
      refine oSeq ?_
      refine oSeq ?_
      refine oRegion rfl ?_
      refine oOp (.d (.int .i64 i4)) (by kernel_rfl) (by kernel_rfl) (PureV.does (p_move (by kernel_rfl))) ?_
      refine oOp (.ptr 1 2) (by kernel_rfl) (by kernel_rfl) (PureV.does (k_fieldAddr 1 0 (by kernel_rfl) Try.underlying27 rfl ty25 (by kernel_rfl))) ?_
      refine oOp (.d (.lit (List.map e_SPart p2))) (by kernel_rfl) (by kernel_rfl) (Quiet.does (k_load 1 2 (by kernel_rfl) Try.underlying25 (by kernel_rfl) (by kernel_rfl))) ?_
      refine oOp (.d (.int .i64 ((List.length p2) : Int))) (by kernel_rfl) (by kernel_rfl) (PureV.does (k_lenLit (enc := e_SPart) p2 (by kernel_rfl) Try.underlying25)) ?_
      refine oOp (.d (.bool (decide (i4 < ((List.length p2) : Int))))) (by kernel_rfl) (by kernel_rfl) (PureV.does (p_int (k := .i64) (p := i4) (q := ((List.length p2) : Int)) (by kernel_rfl) (by kernel_rfl) (by kernel_rfl))) ?_
      refine oEnd ?_
      refine bSplit 14 (by kernel_rfl) (fun hc => ?_) (fun hc => ?_)
      · refine oCondT (by kernel_rfl) ?_
        refine oSkip ?_
        refine oSeq ?_
        refine oBlock ?_
        refine oSeq ?_
        refine oRegion rfl ?_
        refine oOp (.ptr 0 0) (by kernel_rfl) (by kernel_rfl) (PureV.does (p_move (by kernel_rfl))) ?_
        refine oOp (.ptr 1 2) (by kernel_rfl) (by kernel_rfl) (PureV.does (k_fieldAddr 1 0 (by kernel_rfl) Try.underlying27 rfl ty25 (by kernel_rfl))) ?_
        refine oOp (.d (.lit (List.map e_SPart p2))) (by kernel_rfl) (by kernel_rfl) (Quiet.does (k_load 1 2 (by kernel_rfl) Try.underlying25 (by kernel_rfl) (by kernel_rfl))) ?_
        refine oOp (.d (.int .i64 i4)) (by kernel_rfl) (by kernel_rfl) (PureV.does (p_move (by kernel_rfl))) ?_
        refine bIdx (fun e113 h139 h140 => ?_)
        refine oOp (.lptr (e_SPart e113) 0) (by kernel_rfl) (by kernel_rfl) (PureV.does (k_idxLit e_SPart_len p2 (a := e113) (by kernel_rfl) (k := .i64) (i := i4) (by kernel_rfl) Try.underlying25 ty49 h139 h140)) ?_
        refine oOp (.lptr (e_SPart e113) 4) (by kernel_rfl) (by kernel_rfl) (PureV.does (k_fieldAddrL (cells := e_SPart e113) 0 (by kernel_rfl) Try.underlying49 rfl ty3 (by kernel_rfl))) ?_
        refine oOp (.d (.int .i64 e113.Options)) (by kernel_rfl) (by kernel_rfl) (Quiet.does (k_loadL (cells := e_SPart e113) 4 (by kernel_rfl) Try.underlying3 (by kernel_rfl) (by kernel_rfl))) ?_
        refine oOp (.d (.int .i64 (IntKind.wrap .i64 (e113.Options - 1)))) (by kernel_rfl) (by kernel_rfl) (PureV.does (p_int (k := .i64) (p := e113.Options) (q := 1) (by kernel_rfl) (by kernel_rfl) (by kernel_rfl))) ?_
        refine oOp (.d (.int .i64 (gmax (IntKind.wrap .i64 (e113.Options - 1)) (-1)))) (by kernel_rfl) (by kernel_rfl) (PureV.does (p_max2 (k := .i64) (p := (IntKind.wrap .i64 (e113.Options - 1))) (q := (-1)) (by kernel_rfl) (by kernel_rfl) (by kernel_rfl))) ?_
        refine bCall (caps := []) (v := (uc fun (r127 : Int) => (fun (x226 : Int) => (.d (.int .i64 r127) : V)))) (H' := (uc fun (r127 : Int) => (fun (x226 : Int) => ([.box [.d (.lit (List.map e_i64 x)), .d (.int .i64 x226)], .box [.d (.int .i64 0), .d (.int .i64 0), .d (.lit (List.map e_SPart p2))], .sl 1 (List.map e_i64 xs6) false] : List Blk)))) [0] _ (make_Tape_Range_goes k (-2) (gmax (IntKind.wrap .i64 (e113.Options - 1)) (-1)) x x20) (by kernel_rfl) (by kernel_rfl) rfl (by kernel_rfl) Try.func38 rfl (by kernel_rfl) (ConvRs.refl _ _) (by kernel_rfl) (by kernel_rfl) (by kernel_rfl) (by decide) (by kernel_rfl) (by kernel_rfl) (fun _ => (by kernel_rfl)) (fun _ => (by kernel_rfl)) (fun _ => (by kernel_rfl)) (fun r => ?_)
        obtain ⟨r127, x226⟩ := r
        refine bUc ?_
        refine oOp (.d (.int .i64 r127)) (by kernel_rfl) (by kernel_rfl) (PureV.does (p_assign (by kernel_rfl))) ?_
        refine oEnd ?_
        refine oSeq ?_
        refine oSeq ?_
        refine oRegion rfl ?_
        refine oOp (.ptr 1 2) (by kernel_rfl) (by kernel_rfl) (PureV.does (k_fieldAddr 1 0 (by kernel_rfl) Try.underlying27 rfl ty25 (by kernel_rfl))) ?_
        refine oOp (.d (.lit (List.map e_SPart p2))) (by kernel_rfl) (by kernel_rfl) (Quiet.does (k_load 1 2 (by kernel_rfl) Try.underlying25 (by kernel_rfl) (by kernel_rfl))) ?_
        refine oOp (.d (.int .i64 i4)) (by kernel_rfl) (by kernel_rfl) (PureV.does (p_move (by kernel_rfl))) ?_
        refine oOp (.lptr (e_SPart e113) 0) (by kernel_rfl) (by kernel_rfl) (PureV.does (k_idxLit e_SPart_len p2 (a := e113) (by kernel_rfl) (k := .i64) (i := i4) (by kernel_rfl) Try.underlying25 ty49 h139 h140)) ?_
        refine oOp (.lptr (e_SPart e113) 0) (by kernel_rfl) (by kernel_rfl) (PureV.does (k_fieldAddrL (cells := e_SPart e113) 0 (by kernel_rfl) Try.underlying49 rfl ty3 (by kernel_rfl))) ?_
        refine oOp (.d (.int .i64 e113.Kind)) (by kernel_rfl) (by kernel_rfl) (Quiet.does (k_loadL (cells := e_SPart e113) 0 (by kernel_rfl) Try.underlying3 (by kernel_rfl) (by kernel_rfl))) ?_
        refine oOp (.d (.bool (e113.Kind != 2))) (by kernel_rfl) (by kernel_rfl) (PureV.does (p_int (k := .i64) (p := e113.Kind) (q := 2) (by kernel_rfl) (by kernel_rfl) (by kernel_rfl))) ?_
        refine oEnd ?_
        refine bJoin ((uc fun (a13 : Int) => (fun (x34 : Int) => [(0, .ptr 0 0), (2, .d (.int .i64 0)), (4, .ptr 1 0), (7, .ref 2 (List.length xs6) 0 (List.length xs6)), (8, .d (.int .i64 i4)), (9, .d (.int .i64 a13))]))) ((uc fun (a13 : Int) => (fun (x34 : Int) => [.box [.d (.lit (List.map e_i64 x)), .d (.int .i64 x34)], .box [.d (.int .i64 0), .d (.int .i64 0), .d (.lit (List.map e_SPart p2))], .sl 1 (List.map e_i64 xs6) false]))) (fun s => s) (fun s => ?_) (fun hj16 => ?_)
        · obtain ⟨a13, x34⟩ := s
          refine bUc ?_
          refine oView (T' := [(0, .ptr 0 0), (2, .d (.int .i64 0)), (4, .ptr 1 0), (7, .ref 2 (List.length xs6) 0 (List.length xs6)), (8, .d (.int .i64 i4)), (9, .d (.int .i64 a13))]) (H' := [.box [.d (.lit (List.map e_i64 x)), .d (.int .i64 x34)], .box [.d (.int .i64 0), .d (.int .i64 0), .d (.lit (List.map e_SPart p2))], .sl 1 (List.map e_i64 xs6) false]) (by kernel_rfl) (by kernel_rfl) ?_
          refine oRegion rfl ?_
          refine oOp (.ref 2 (List.length xs6) 0 (List.length xs6)) (by kernel_rfl) (by kernel_rfl) (PureV.does (p_move (by kernel_rfl))) ?_
          refine oOp (.d (.int .i64 a13)) (by kernel_rfl) (by kernel_rfl) (PureV.does (p_move (by kernel_rfl))) ?_
          refine oOp (.ref 3 (List.length ([a13] : List Int)) 0 (List.length ([a13] : List Int))) (by kernel_rfl) (by kernel_rfl) (k_buildSlice (H' := [.box [.d (.lit (List.map e_i64 x)), .d (.int .i64 x34)], .box [.d (.int .i64 0), .d (.int .i64 0), .d (.lit (List.map e_SPart p2))], .sl 1 (List.map e_i64 xs6) false, .sl 1 (List.map e_i64 ([a13] : List Int)) false]) (List.map e_i64 ([a13] : List Int)) Try.underlying22 ty3 (by kernel_rfl) (by kernel_rfl) (by kernel_rfl)) ?_
          refine bCap (fun h141 => ?_)
          refine oOp (.ref 2 (List.length (xs6 ++ ([a13] : List Int))) 0 (List.length (xs6 ++ ([a13] : List Int)))) (by kernel_rfl) (by kernel_rfl) (k_append (H' := [.box [.d (.lit (List.map e_i64 x)), .d (.int .i64 x34)], .box [.d (.int .i64 0), .d (.int .i64 0), .d (.lit (List.map e_SPart p2))], .sl 1 (List.map e_i64 (xs6 ++ ([a13] : List Int))) false, .sl 1 (List.map e_i64 ([a13] : List Int)) false]) (enc := e_i64) 2 xs6 ([a13] : List Int) Try.underlying22 Try.underlying22 ty3 (by kernel_rfl) (by kernel_rfl) (by kernel_rfl) (holdsRef (enc := e_i64) 3 ([a13] : List Int) false (by kernel_rfl) (by kernel_rfl)) h141 (by kernel_rfl)) ?_
          refine oOp (.ref 2 (List.length (xs6 ++ ([a13] : List Int))) 0 (List.length (xs6 ++ ([a13] : List Int)))) (by kernel_rfl) (by kernel_rfl) (PureV.does (p_assign (by kernel_rfl))) ?_
          refine oEnd ?_
          refine oBlk ?_
          refine oRegion rfl ?_
          refine oOp (.d (.int .i64 i4)) (by kernel_rfl) (by kernel_rfl) (PureV.does (p_move (by kernel_rfl))) ?_
          refine oOp (.d (.int .i64 (IntKind.wrap .i64 (i4 + 1)))) (by kernel_rfl) (by kernel_rfl) (PureV.does (p_int (k := .i64) (p := i4) (q := 1) (by kernel_rfl) (by kernel_rfl) (by kernel_rfl))) ?_
          refine oOp (.d (.int .i64 (IntKind.wrap .i64 (i4 + 1)))) (by kernel_rfl) (by kernel_rfl) (PureV.does (p_assign (by kernel_rfl))) ?_
          refine oEnd ?_
          refine oAgain ?_
          refine oHead [0, 2, 4, 7, 8] [0, 1, 2] (T' := [(0, .ptr 0 0), (2, .d (.int .i64 0)), (4, .ptr 1 0), (7, .ref 2 (List.length (xs6 ++ ([a13] : List Int))) 0 (List.length (xs6 ++ ([a13] : List Int)))), (8, .d (.int .i64 (IntKind.wrap .i64 (i4 + 1))))]) (H' := [.box [.d (.lit (List.map e_i64 x)), .d (.int .i64 x34)], .box [.d (.int .i64 0), .d (.int .i64 0), .d (.lit (List.map e_SPart p2))], .sl 1 (List.map e_i64 (xs6 ++ ([a13] : List Int))) false]) (by kernel_rfl) (by kernel_rfl) (by kernel_rfl) (by kernel_rfl) (by decide) (by kernel_rfl) (by kernel_rfl) ?_
          exact hag1 ((IntKind.wrap .i64 (i4 + 1)), x34, (xs6 ++ ([a13] : List Int)))
        · refine bSplit 33 (by kernel_rfl) (fun hc => ?_) (fun hc => ?_)
          · refine oCondT (by kernel_rfl) ?_
            refine oRegion rfl ?_
            refine oOp (.ptr 0 0) (by kernel_rfl) (by kernel_rfl) (PureV.does (p_move (by kernel_rfl))) ?_
            refine oOp (.ref 3 (List.length ([(-1), (-1), 7, (-9)] : List Int)) 0 (List.length ([(-1), (-1), 7, (-9)] : List Int))) (by kernel_rfl) (by kernel_rfl) (k_buildSlice (H' := [.box [.d (.lit (List.map e_i64 x)), .d (.int .i64 x226)], .box [.d (.int .i64 0), .d (.int .i64 0), .d (.lit (List.map e_SPart p2))], .sl 1 (List.map e_i64 xs6) false, .sl 1 (List.map e_i64 ([(-1), (-1), 7, (-9)] : List Int)) false]) (List.map e_i64 ([(-1), (-1), 7, (-9)] : List Int)) Try.underlying22 ty3 (by kernel_rfl) (by kernel_rfl) (by kernel_rfl)) ?_
            refine oFreeze 3 (esz := 1) (xs := List.map e_i64 ([(-1), (-1), 7, (-9)] : List Int)) (by kernel_rfl) ?_
            refine oView (H' := [.box [.d (.lit (List.map e_i64 x)), .d (.int .i64 x226)], .box [.d (.int .i64 0), .d (.int .i64 0), .d (.lit (List.map e_SPart p2))], .sl 1 (List.map e_i64 xs6) false, .sl 1 (List.map e_i64 ([(-1), (-1), 7, (-9)] : List Int)) true]) rfl (by kernel_rfl) ?_
            refine bCall (caps := []) (v := (uc fun (r129 : Int) => (fun (x228 : Int) => (.d (.int .i64 r129) : V)))) (H' := (uc fun (r129 : Int) => (fun (x228 : Int) => ([.box [.d (.lit (List.map e_i64 x)), .d (.int .i64 x228)], .box [.d (.int .i64 0), .d (.int .i64 0), .d (.lit (List.map e_SPart p2))], .sl 1 (List.map e_i64 xs6) false, .sl 1 (List.map e_i64 ([(-1), (-1), 7, (-9)] : List Int)) true] : List Blk)))) [0] _ (make_Tape_Pick_2_goes k ([(-1), (-1), 7, (-9)] : List Int) x x226) (by kernel_rfl) (by kernel_rfl) rfl (by kernel_rfl) Try.func43 rfl (by kernel_rfl) (convList (vs0 := [.ptr 0 0, .ref 3 (List.length ([(-1), (-1), 7, (-9)] : List Int)) 0 (List.length ([(-1), (-1), 7, (-9)] : List Int))]) (vs := [.ptr 0 0, .d (.lit (List.map e_i64 ([(-1), (-1), 7, (-9)] : List Int)))]) (by kernel_rfl) (.cons _ _ _ _ (.same _) (.cons _ _ _ _ (k_lit (enc := e_i64) (sz := 1) 3 ([(-1), (-1), 7, (-9)] : List Int) (by kernel_rfl)) .nil))) (by kernel_rfl) (by kernel_rfl) (by kernel_rfl) (by decide) (by kernel_rfl) (by kernel_rfl) (fun _ => (by kernel_rfl)) (fun _ => (by kernel_rfl)) (fun _ => (by kernel_rfl)) (fun r => ?_)
            obtain ⟨r129, x228⟩ := r
            refine bUc ?_
            refine oOp (.d (.int .i64 r129)) (by kernel_rfl) (by kernel_rfl) (PureV.does (p_assign (by kernel_rfl))) ?_
            refine oEnd ?_
            refine oHead [0, 2, 4, 7, 8, 9] [0, 1, 2] (T' := [(0, .ptr 0 0), (2, .d (.int .i64 0)), (4, .ptr 1 0), (7, .ref 2 (List.length xs6) 0 (List.length xs6)), (8, .d (.int .i64 i4)), (9, .d (.int .i64 r129))]) (H' := [.box [.d (.lit (List.map e_i64 x)), .d (.int .i64 x228)], .box [.d (.int .i64 0), .d (.int .i64 0), .d (.lit (List.map e_SPart p2))], .sl 1 (List.map e_i64 xs6) false]) (by kernel_rfl) (by kernel_rfl) (by kernel_rfl) (by kernel_rfl) (by decide) (by kernel_rfl) (by kernel_rfl) ?_
            exact hj16 (r129, x228)
          · refine oCondF (by kernel_rfl) ?_
            refine oSkip ?_
            refine oHead [0, 2, 4, 7, 8, 9] [0, 1, 2] (T' := [(0, .ptr 0 0), (2, .d (.int .i64 0)), (4, .ptr 1 0), (7, .ref 2 (List.length xs6) 0 (List.length xs6)), (8, .d (.int .i64 i4)), (9, .d (.int .i64 r127))]) (H' := [.box [.d (.lit (List.map e_i64 x)), .d (.int .i64 x226)], .box [.d (.int .i64 0), .d (.int .i64 0), .d (.lit (List.map e_SPart p2))], .sl 1 (List.map e_i64 xs6) false]) (by kernel_rfl) (by kernel_rfl) (by kernel_rfl) (by kernel_rfl) (by decide) (by kernel_rfl) (by kernel_rfl) ?_
            exact hj16 (r127, x226)
      · refine oCondF (by kernel_rfl) ?_
        refine oExit rfl ?_
        refine oHead [0, 2, 7] [0, 2] (T' := [(0, .ptr 0 0), (2, .d (.int .i64 0)), (7, .ref 1 (List.length xs6) 0 (List.length xs6))]) (H' := [.box [.d (.lit (List.map e_i64 x)), .d (.int .i64 x20)], .sl 1 (List.map e_i64 xs6) false]) (by kernel_rfl) (by kernel_rfl) (by kernel_rfl) (by kernel_rfl) (by decide) (by kernel_rfl) (by kernel_rfl) ?_
        exact hj10 (x20, xs6)

/-- awardingbody/scheme.Closed -/
def scheme_Closed_2_b1 (k : Nat) (p2 : (List SPart)) (s0 : (List (List Int))) (answers : (List Int)) (again : Int × (List Int) → Option (((List Int)) ⊕ ((List Int) × Int))) : Int × (List Int) → Option (((List Int)) ⊕ ((List Int) × Int)) := uc fun x19 => fun xs12 => bif (decide (x19 < ((List.length p2) : Int))) then Option.bind (gidx p2 x19 fun e115 => gidx answers x19 fun e116 => bif (e115.Kind == 1) then gcap (List.length (xs12 ++ ([(-2)] : List Int))) 8 (some (Sum.inl (xs12 ++ ([(-2)] : List Int)))) else blet ((e116 != (-2)) && (e116 != (-1))) fun x27 => Option.bind (bif x27 then blet ((decide (e116 < 0)) || (decide (e116 ≥ e115.Options))) fun x30 => some x30 else some false : Option (Bool)) (fun x29 => bif x29 then some (Sum.inr (([] : List Int), 2)) else bif (e116 == (-1)) then gcap (List.length (xs12 ++ ([(-1)] : List Int))) 8 (some (Sum.inl (xs12 ++ ([(-1)] : List Int)))) else gidx s0 x19 fun e12 => Option.bind (scheme_accepts k e115.Kind e115.Max e115.Topic e115.Objective e115.Options e115.Key e12 e116) (fun r12 => bif r12 then gcap (List.length (xs12 ++ ([e115.Max] : List Int))) 8 (some (Sum.inl (xs12 ++ ([e115.Max] : List Int)))) else gcap (List.length (xs12 ++ ([0] : List Int))) 8 (some (Sum.inl (xs12 ++ ([0] : List Int)))))) : Option (((List Int)) ⊕ ((List Int) × Int))) (Sum.elim (fun xs15 => again ((IntKind.wrap .i64 (x19 + 1)), xs15)) (fun r => some (Sum.inr r))) else some (Sum.inl xs12)
def scheme_Closed_2 (k : Nat) (p0 : Int) (p1 : Int) (p2 : (List SPart)) (s0 : (List (List Int))) (s1 : (List Int)) (answers : (List Int)) : Option ((List Int) × Int) := Option.bind (scheme_Valid k p0 p1 p2 s0 s1) (fun r15 => bif (!r15) then some (([] : List Int), 1) else bif (((List.length answers) : Int) != ((List.length p2) : Int)) then some (([] : List Int), 22) else Option.bind (gloop (scheme_Closed_2_b1 k p2 s0 answers) k (0, ([] : List Int)) : Option (((List Int)) ⊕ ((List Int) × Int))) (Sum.elim (fun xs10 => some (xs10, 0)) (fun r => some r)))
theorem scheme_Closed_2_eq : scheme_Closed_2 = scheme_Closed := rfl
def scheme_Closed_2_E (p0 : Int) (p1 : Int) (p2 : (List SPart)) (s0 : (List (List Int))) (s1 : (List Int)) (answers : (List Int)) : (List Int) × Int → V × List Blk := uc fun xs5 => fun r13 => (.tuple [.ref 0 (List.length xs5) 0 (List.length xs5), .d (.int .i64 r13)], [.sl 1 (List.map e_i64 xs5) false])
theorem scheme_Closed_2_goes (k : Nat) (p0 : Int) (p1 : Int) (p2 : (List SPart)) (s0 : (List (List Int))) (s1 : (List Int)) (answers : (List Int)) : RunsO Try.prog 16 [.agg [.d (.int .i64 p0), .d (.int .i64 p1), .d (.lit (List.map e_SPart p2))], .agg [.d (.lit (List.map e_Li64 s0)), .d (.lit (List.map e_i64 s1))], .d (.lit (List.map e_i64 answers))] [] (scheme_Closed_2_E p0 p1 p2 s0 s1 answers) (scheme_Closed_2 k p0 p1 p2 s0 s1 answers) := by
  refine RunsO.of_goes (N := 85) (m := 0) (T := [(0, .agg [.d (.int .i64 p0), .d (.int .i64 p1), .d (.lit (List.map e_SPart p2))]), (1, .agg [.d (.lit (List.map e_Li64 s0)), .d (.lit (List.map e_i64 s1))]), (2, .d (.lit (List.map e_i64 answers)))]) Try.func16 rfl rfl (by kernel_rfl) (by kernel_rfl) (by kernel_rfl) ?_
  unfold scheme_Closed_2
  refine bStart ?_
  refine oSeq ?_
  refine oRegion rfl ?_
  refine oOp (.ptr 0 0) (by kernel_rfl) (by kernel_rfl) (k_box (H' := [.box [.d (.int .i64 p0), .d (.int .i64 p1), .d (.lit (List.map e_SPart p2))]]) (cells := [.d (.int .i64 p0), .d (.int .i64 p1), .d (.lit (List.map e_SPart p2))]) (by kernel_rfl) (by kernel_rfl) (by kernel_rfl)) ?_
  refine oOp (.ptr 1 0) (by kernel_rfl) (by kernel_rfl) (k_box (H' := [.box [.d (.int .i64 p0), .d (.int .i64 p1), .d (.lit (List.map e_SPart p2))], .box [.d (.lit (List.map e_Li64 s0)), .d (.lit (List.map e_i64 s1))]]) (cells := [.d (.lit (List.map e_Li64 s0)), .d (.lit (List.map e_i64 s1))]) (by kernel_rfl) (by kernel_rfl) (by kernel_rfl)) ?_
  refine oOp (.nilc) (by kernel_rfl) (by kernel_rfl) (PureV.does (p_assign (by kernel_rfl))) ?_
  refine oOp (.d (.int .i64 0)) (by kernel_rfl) (by kernel_rfl) (PureV.does (p_assign (by kernel_rfl))) ?_
  refine oEnd ?_
  refine oSeq ?_
  refine oBlock ?_
  refine oSeq ?_
  refine oRegion rfl ?_
  refine oOp (.agg [.d (.int .i64 p0), .d (.int .i64 p1), .d (.lit (List.map e_SPart p2))]) (by kernel_rfl) (by kernel_rfl) (Quiet.does (k_loadAgg 0 0 (by kernel_rfl) Try.underlying27 (by kernel_rfl) ty27 (by kernel_rfl))) ?_
  refine oOp (.agg [.d (.lit (List.map e_Li64 s0)), .d (.lit (List.map e_i64 s1))]) (by kernel_rfl) (by kernel_rfl) (Quiet.does (k_loadAgg 1 0 (by kernel_rfl) Try.underlying31 (by kernel_rfl) ty31 (by kernel_rfl))) ?_
  refine bCall (caps := []) (v := (fun (r15 : Bool) => (.d (.bool r15) : V))) (H' := (fun (r15 : Bool) => ([.box [.d (.int .i64 p0), .d (.int .i64 p1), .d (.lit (List.map e_SPart p2))], .box [.d (.lit (List.map e_Li64 s0)), .d (.lit (List.map e_i64 s1))]] : List Blk))) [] _ (scheme_Valid_goes k p0 p1 p2 s0 s1) (by kernel_rfl) (by kernel_rfl) rfl (by kernel_rfl) Try.func30 rfl (by kernel_rfl) (ConvRs.refl _ _) (by kernel_rfl) (by kernel_rfl) (by kernel_rfl) (by decide) (by kernel_rfl) (by kernel_rfl) (fun _ => (by kernel_rfl)) (fun _ => (by kernel_rfl)) (fun _ => (by kernel_rfl)) (fun r15 => ?_)
  refine oOp (.d (.bool (!r15))) (by kernel_rfl) (by kernel_rfl) (PureV.does (p_not (p := r15) (by kernel_rfl) (by kernel_rfl))) ?_
  refine oOp (.d (.bool (!r15))) (by kernel_rfl) (by kernel_rfl) (PureV.does (p_assign (by kernel_rfl))) ?_
  refine oEnd ?_
  refine bSplit 12 (by kernel_rfl) (fun hc => ?_) (fun hc => ?_)
  · refine oCondT (by kernel_rfl) ?_
    refine oSeq ?_
    refine oRegion rfl ?_
    refine oOp (.nilc) (by kernel_rfl) (by kernel_rfl) (PureV.does (p_assign (by kernel_rfl))) ?_
    refine oOp (.d (.int .i64 1)) (by kernel_rfl) (by kernel_rfl) (PureV.does (p_assign (by kernel_rfl))) ?_
    refine oEnd ?_
    refine oVirt (esz := 1) 6 (by kernel_rfl) ?_
    refine oView (H' := [.box [.d (.int .i64 p0), .d (.int .i64 p1), .d (.lit (List.map e_SPart p2))], .box [.d (.lit (List.map e_Li64 s0)), .d (.lit (List.map e_i64 s1))], .sl 1 (List.map e_i64 ([] : List Int)) false]) rfl (by kernel_rfl) ?_
    exact oRet (r0 := (([] : List Int), 1)) (rv := .tuple [.ref 0 (List.length ([] : List Int)) 0 (List.length ([] : List Int)), .d (.int .i64 1)]) (B := [.sl 1 (List.map e_i64 ([] : List Int)) false]) (vs := [.ref 2 (List.length ([] : List Int)) 0 (List.length ([] : List Int)), .d (.int .i64 1)]) (σ := [2]) (by kernel_rfl) Try.func16 rfl (.cons _ _ _ _ (.tmp 6 _ (by kernel_rfl)) (.cons _ _ _ _ (.tmp 7 _ (by kernel_rfl)) .nil)) (by kernel_rfl) (by kernel_rfl) (by kernel_rfl) (by kernel_rfl) (by decide) (by kernel_rfl) (by kernel_rfl)
  · refine oCondF (by kernel_rfl) ?_
    refine oSeq ?_
    refine oRegion rfl ?_
    refine oOp (.d (.lit (List.map e_i64 answers))) (by kernel_rfl) (by kernel_rfl) (PureV.does (p_move (by kernel_rfl))) ?_
    refine oOp (.d (.int .i64 ((List.length answers) : Int))) (by kernel_rfl) (by kernel_rfl) (PureV.does (k_lenLit (enc := e_i64) answers (by kernel_rfl) Try.underlying22)) ?_
    refine oOp (.ptr 0 2) (by kernel_rfl) (by kernel_rfl) (PureV.does (k_fieldAddr 0 0 (by kernel_rfl) Try.underlying27 rfl ty25 (by kernel_rfl))) ?_
    refine oOp (.d (.lit (List.map e_SPart p2))) (by kernel_rfl) (by kernel_rfl) (Quiet.does (k_load 0 2 (by kernel_rfl) Try.underlying25 (by kernel_rfl) (by kernel_rfl))) ?_
    refine oOp (.d (.int .i64 ((List.length p2) : Int))) (by kernel_rfl) (by kernel_rfl) (PureV.does (k_lenLit (enc := e_SPart) p2 (by kernel_rfl) Try.underlying25)) ?_
    refine oOp (.d (.bool (((List.length answers) : Int) != ((List.length p2) : Int)))) (by kernel_rfl) (by kernel_rfl) (PureV.does (p_int (k := .i64) (p := ((List.length answers) : Int)) (q := ((List.length p2) : Int)) (by kernel_rfl) (by kernel_rfl) (by kernel_rfl))) ?_
    refine oOp (.d (.bool (((List.length answers) : Int) != ((List.length p2) : Int)))) (by kernel_rfl) (by kernel_rfl) (PureV.does (p_assign (by kernel_rfl))) ?_
    refine oEnd ?_
    refine bSplit 17 (by kernel_rfl) (fun hc => ?_) (fun hc => ?_)
    · refine oCondT (by kernel_rfl) ?_
      refine oSeq ?_
      refine oRegion rfl ?_
      refine oOp (.nilc) (by kernel_rfl) (by kernel_rfl) (PureV.does (p_assign (by kernel_rfl))) ?_
      refine oOp (.d (.int .i64 22)) (by kernel_rfl) (by kernel_rfl) (PureV.does (p_assign (by kernel_rfl))) ?_
      refine oEnd ?_
      refine oVirt (esz := 1) 6 (by kernel_rfl) ?_
      refine oView (H' := [.box [.d (.int .i64 p0), .d (.int .i64 p1), .d (.lit (List.map e_SPart p2))], .box [.d (.lit (List.map e_Li64 s0)), .d (.lit (List.map e_i64 s1))], .sl 1 (List.map e_i64 ([] : List Int)) false]) rfl (by kernel_rfl) ?_
      exact oRet (r0 := (([] : List Int), 22)) (rv := .tuple [.ref 0 (List.length ([] : List Int)) 0 (List.length ([] : List Int)), .d (.int .i64 22)]) (B := [.sl 1 (List.map e_i64 ([] : List Int)) false]) (vs := [.ref 2 (List.length ([] : List Int)) 0 (List.length ([] : List Int)), .d (.int .i64 22)]) (σ := [2]) (by kernel_rfl) Try.func16 rfl (.cons _ _ _ _ (.tmp 6 _ (by kernel_rfl)) (.cons _ _ _ _ (.tmp 7 _ (by kernel_rfl)) .nil)) (by kernel_rfl) (by kernel_rfl) (by kernel_rfl) (by kernel_rfl) (by decide) (by kernel_rfl) (by kernel_rfl)
    · refine oCondF (by kernel_rfl) ?_
      refine oSkip ?_
      refine oBlk ?_
      refine oSeq ?_
      refine oRegion rfl ?_
      refine oOp (.nilc) (by kernel_rfl) (by kernel_rfl) (PureV.does (p_assign (by kernel_rfl))) ?_
      refine oEnd ?_
      refine oSeq ?_
      refine oSeq ?_
      refine oRegion rfl ?_
      refine oOp (.ptr 0 2) (by kernel_rfl) (by kernel_rfl) (PureV.does (k_fieldAddr 0 0 (by kernel_rfl) Try.underlying27 rfl ty25 (by kernel_rfl))) ?_
      refine oOp (.d (.lit (List.map e_SPart p2))) (by kernel_rfl) (by kernel_rfl) (Quiet.does (k_load 0 2 (by kernel_rfl) Try.underlying25 (by kernel_rfl) (by kernel_rfl))) ?_
      refine oOp (.d (.int .i64 ((List.length p2) : Int))) (by kernel_rfl) (by kernel_rfl) (PureV.does (k_lenLit (enc := e_SPart) p2 (by kernel_rfl) Try.underlying25)) ?_
      refine oOp (.d (.int .i64 0)) (by kernel_rfl) (by kernel_rfl) (PureV.does (p_move (by kernel_rfl))) ?_
      refine oEnd ?_
      refine bJoin ((fun (xs10 : (List Int)) => [(8, .ref 0 (List.length xs10) 0 (List.length xs10))])) ((fun (xs10 : (List Int)) => [.sl 1 (List.map e_i64 xs10) false])) Sum.inl (fun xs10 => ?_) (fun hj6 => ?_)
      · refine bInl ?_
        refine oView (T' := [(8, .ref 0 (List.length xs10) 0 (List.length xs10))]) (H' := [.sl 1 (List.map e_i64 xs10) false]) (by kernel_rfl) (by kernel_rfl) ?_
        refine oSeq ?_
        refine oRegion rfl ?_
        refine oOp (.ref 0 (List.length xs10) 0 (List.length xs10)) (by kernel_rfl) (by kernel_rfl) (PureV.does (p_move (by kernel_rfl))) ?_
        refine oOp (.ref 0 (List.length xs10) 0 (List.length xs10)) (by kernel_rfl) (by kernel_rfl) (PureV.does (p_assign (by kernel_rfl))) ?_
        refine oOp (.d (.int .i64 0)) (by kernel_rfl) (by kernel_rfl) (PureV.does (p_assign (by kernel_rfl))) ?_
        refine oEnd ?_
        exact oRet (r0 := (xs10, 0)) (rv := .tuple [.ref 0 (List.length xs10) 0 (List.length xs10), .d (.int .i64 0)]) (B := [.sl 1 (List.map e_i64 xs10) false]) (vs := [.ref 0 (List.length xs10) 0 (List.length xs10), .d (.int .i64 0)]) (σ := [0]) (by kernel_rfl) Try.func16 rfl (.cons _ _ _ _ (.tmp 6 _ (by kernel_rfl)) (.cons _ _ _ _ (.tmp 7 _ (by kernel_rfl)) .nil)) (by kernel_rfl) (by kernel_rfl) (by kernel_rfl) (by kernel_rfl) (by decide) (by kernel_rfl) (by kernel_rfl)
      · refine oBlock ?_
        refine oLoop ?_
        refine oVirt (esz := 1) 8 (by kernel_rfl) ?_
        refine oView (H' := [.box [.d (.int .i64 p0), .d (.int .i64 p1), .d (.lit (List.map e_SPart p2))], .box [.d (.lit (List.map e_Li64 s0)), .d (.lit (List.map e_i64 s1))], .sl 1 (List.map e_i64 ([] : List Int)) false]) rfl (by kernel_rfl) ?_
        refine oHead [2, 4, 8, 25, 26, 27] [1, 2] (T' := [(2, .d (.lit (List.map e_i64 answers))), (4, .ptr 0 0), (8, .ref 1 (List.length ([] : List Int)) 0 (List.length ([] : List Int))), (25, .d (.lit (List.map e_SPart p2))), (26, .d (.int .i64 ((List.length p2) : Int))), (27, .d (.int .i64 0))]) (H' := [.box [.d (.lit (List.map e_Li64 s0)), .d (.lit (List.map e_i64 s1))], .sl 1 (List.map e_i64 ([] : List Int)) false]) (by kernel_rfl) (by kernel_rfl) (by kernel_rfl) (by kernel_rfl) (by decide) (by kernel_rfl) (by kernel_rfl) ?_
        refine bLoop (body := scheme_Closed_2_b1 k p2 s0 answers) ((uc fun (x19 : Int) => (fun (xs12 : (List Int)) => [(2, .d (.lit (List.map e_i64 answers))), (4, .ptr 0 0), (8, .ref 1 (List.length xs12) 0 (List.length xs12)), (25, .d (.lit (List.map e_SPart p2))), (26, .d (.int .i64 ((List.length p2) : Int))), (27, .d (.int .i64 x19))]))) ((uc fun (x19 : Int) => (fun (xs12 : (List Int)) => [.box [.d (.lit (List.map e_Li64 s0)), .d (.lit (List.map e_i64 s1))], .sl 1 (List.map e_i64 xs12) false]))) (fun again hag1 s => ?_) k (0, ([] : List Int))
        · unfold scheme_Closed_2_b1
          obtain ⟨x19, xs12⟩ := s
          refine bUc ?_
          refine oView (T' := [(2, .d (.lit (List.map e_i64 answers))), (4, .ptr 0 0), (8, .ref 1 (List.length xs12) 0 (List.length xs12)), (25, .d (.lit (List.map e_SPart p2))), (26, .d (.int .i64 ((List.length p2) : Int))), (27, .d (.int .i64 x19))]) (H' := [.box [.d (.lit (List.map e_Li64 s0)), .d (.lit (List.map e_i64 s1))], .sl 1 (List.map e_i64 xs12) false]) (by kernel_rfl) (by kernel_rfl) ?_
          refine oSeq ?_
          refine oRegion rfl ?_
          refine oOp (.d (.bool (decide (x19 < ((List.length p2) : Int))))) (by kernel_rfl) (by kernel_rfl) (PureV.does (p_int (k := .i64) (p := x19) (q := ((List.length p2) : Int)) (by kernel_rfl) (by kernel_rfl) (by kernel_rfl))) ?_
          refine oEnd ?_
          refine oSeq ?_
          refine bSplit 28 (by kernel_rfl) (fun hc => ?_) (fun hc => ?_)
          · refine oCondT (by kernel_rfl) ?_
            refine oSkip ?_
            refine oSeq ?_
            refine bJoin ((fun (xs15 : (List Int)) => [(2, .d (.lit (List.map e_i64 answers))), (4, .ptr 0 0), (8, .ref 1 (List.length xs15) 0 (List.length xs15)), (25, .d (.lit (List.map e_SPart p2))), (26, .d (.int .i64 ((List.length p2) : Int))), (27, .d (.int .i64 x19))])) ((fun (xs15 : (List Int)) => [.box [.d (.lit (List.map e_Li64 s0)), .d (.lit (List.map e_i64 s1))], .sl 1 (List.map e_i64 xs15) false])) Sum.inl (fun xs15 => ?_) (fun hj9 => ?_)
            · refine bInl ?_
              refine oView (T' := [(2, .d (.lit (List.map e_i64 answers))), (4, .ptr 0 0), (8, .ref 1 (List.length xs15) 0 (List.length xs15)), (25, .d (.lit (List.map e_SPart p2))), (26, .d (.int .i64 ((List.length p2) : Int))), (27, .d (.int .i64 x19))]) (H' := [.box [.d (.lit (List.map e_Li64 s0)), .d (.lit (List.map e_i64 s1))], .sl 1 (List.map e_i64 xs15) false]) (by kernel_rfl) (by kernel_rfl) ?_
              refine oRegion rfl ?_
              refine oOp (.d (.int .i64 (IntKind.wrap .i64 (x19 + 1)))) (by kernel_rfl) (by kernel_rfl) (PureV.does (p_int (k := .i64) (p := x19) (q := 1) (by kernel_rfl) (by kernel_rfl) (by kernel_rfl))) ?_
              refine oOp (.d (.int .i64 (IntKind.wrap .i64 (x19 + 1)))) (by kernel_rfl) (by kernel_rfl) (PureV.does (p_move (by kernel_rfl))) ?_
              refine oEnd ?_
              refine oAgain ?_
              refine oHead [2, 4, 8, 25, 26, 27] [0, 1] (T' := [(2, .d (.lit (List.map e_i64 answers))), (4, .ptr 0 0), (8, .ref 1 (List.length xs15) 0 (List.length xs15)), (25, .d (.lit (List.map e_SPart p2))), (26, .d (.int .i64 ((List.length p2) : Int))), (27, .d (.int .i64 (IntKind.wrap .i64 (x19 + 1))))]) (H' := [.box [.d (.lit (List.map e_Li64 s0)), .d (.lit (List.map e_i64 s1))], .sl 1 (List.map e_i64 xs15) false]) (by kernel_rfl) (by kernel_rfl) (by kernel_rfl) (by kernel_rfl) (by decide) (by kernel_rfl) (by kernel_rfl) ?_
              exact hag1 ((IntKind.wrap .i64 (x19 + 1)), xs15)
            · refine oBlock ?_
              refine oSeq ?_
              refine oRegion rfl ?_
              refine oOp (.d (.int .i64 x19)) (by kernel_rfl) (by kernel_rfl) (PureV.does (p_move (by kernel_rfl))) ?_
              refine bIdx (fun e115 h158 h159 => ?_)
              refine oOp (.lptr (e_SPart e115) 0) (by kernel_rfl) (by kernel_rfl) (PureV.does (k_idxLit e_SPart_len p2 (a := e115) (by kernel_rfl) (k := .i64) (i := x19) (by kernel_rfl) Try.underlying25 ty49 h158 h159)) ?_
              refine oOp (.agg [.d (.int .i64 e115.Kind), .d (.int .i64 e115.Max), .d (.int .i64 e115.Topic), .d (.int .i64 e115.Objective), .d (.int .i64 e115.Options), .d (.int .i64 e115.Key)]) (by kernel_rfl) (by kernel_rfl) (Quiet.does (k_loadLAgg (cells := e_SPart e115) 0 [(.int .i64 e115.Kind), (.int .i64 e115.Max), (.int .i64 e115.Topic), (.int .i64 e115.Objective), (.int .i64 e115.Options), (.int .i64 e115.Key)] (by kernel_rfl) Try.underlying49 (by kernel_rfl) ty49 (by kernel_rfl) (by kernel_rfl) (by kernel_rfl))) ?_
              refine oOp (.ptr 2 0) (by kernel_rfl) (by kernel_rfl) (k_alloc (H' := [.box [.d (.lit (List.map e_Li64 s0)), .d (.lit (List.map e_i64 s1))], .sl 1 (List.map e_i64 xs12) false, .box [.d (.int .i64 0), .d (.int .i64 0), .d (.int .i64 0), .d (.int .i64 0), .d (.int .i64 0), .d (.int .i64 0)]]) ty49 (by kernel_rfl) (by kernel_rfl)) ?_
              refine oOp (.d (.int .i64 x19)) (by kernel_rfl) (by kernel_rfl) (PureV.does (p_assign (by kernel_rfl))) ?_
              refine oOp (.undef) (by kernel_rfl) (by kernel_rfl) (k_store (vs := [.d (.int .i64 e115.Kind), .d (.int .i64 e115.Max), .d (.int .i64 e115.Topic), .d (.int .i64 e115.Objective), .d (.int .i64 e115.Options), .d (.int .i64 e115.Key)]) (H' := [.box [.d (.lit (List.map e_Li64 s0)), .d (.lit (List.map e_i64 s1))], .sl 1 (List.map e_i64 xs12) false, .box [.d (.int .i64 e115.Kind), .d (.int .i64 e115.Max), .d (.int .i64 e115.Topic), .d (.int .i64 e115.Objective), .d (.int .i64 e115.Options), .d (.int .i64 e115.Key)]]) 2 0 (by kernel_rfl) ty49 (by kernel_rfl) (by kernel_rfl) (by kernel_rfl)) ?_
              refine oEnd ?_
              refine oSeq ?_
              refine oRegion rfl ?_
              refine oOp (.d (.lit (List.map e_i64 answers))) (by kernel_rfl) (by kernel_rfl) (PureV.does (p_move (by kernel_rfl))) ?_
              refine oOp (.d (.int .i64 x19)) (by kernel_rfl) (by kernel_rfl) (PureV.does (p_move (by kernel_rfl))) ?_
              refine bIdx (fun e116 h160 h161 => ?_)
              refine oOp (.lptr (e_i64 e116) 0) (by kernel_rfl) (by kernel_rfl) (PureV.does (k_idxLit e_i64_len answers (a := e116) (by kernel_rfl) (k := .i64) (i := x19) (by kernel_rfl) Try.underlying22 ty3 h160 h161)) ?_
              refine oOp (.d (.int .i64 e116)) (by kernel_rfl) (by kernel_rfl) (Quiet.does (k_loadL (cells := e_i64 e116) 0 (by kernel_rfl) Try.underlying3 (by kernel_rfl) (by kernel_rfl))) ?_
              refine oOp (.d (.int .i64 e116)) (by kernel_rfl) (by kernel_rfl) (PureV.does (p_assign (by kernel_rfl))) ?_
              refine oEnd ?_
              refine oBlock ?_
              refine oSeq ?_
              refine oRegion rfl ?_
              refine oOp (.ptr 2 0) (by kernel_rfl) (by kernel_rfl) (PureV.does (k_fieldAddr 2 0 (by kernel_rfl) Try.underlying49 rfl ty3 (by kernel_rfl))) ?_
              refine oOp (.d (.int .i64 e115.Kind)) (by kernel_rfl) (by kernel_rfl) (Quiet.does (k_load 2 0 (by kernel_rfl) Try.underlying3 (by kernel_rfl) (by kernel_rfl))) ?_
              refine oOp (.d (.bool (e115.Kind == 1))) (by kernel_rfl) (by kernel_rfl) (PureV.does (p_int (k := .i64) (p := e115.Kind) (q := 1) (by kernel_rfl) (by kernel_rfl) (by kernel_rfl))) ?_
              refine oOp (.d (.bool (e115.Kind == 1))) (by kernel_rfl) (by kernel_rfl) (PureV.does (p_assign (by kernel_rfl))) ?_
              refine oEnd ?_
              refine bSplit 39 (by kernel_rfl) (fun hc => ?_) (fun hc => ?_)
              · refine oCondT (by kernel_rfl) ?_
                refine oRegion rfl ?_
                refine oOp (.ref 1 (List.length xs12) 0 (List.length xs12)) (by kernel_rfl) (by kernel_rfl) (PureV.does (p_move (by kernel_rfl))) ?_
                refine oOp (.ref 3 (List.length ([(-2)] : List Int)) 0 (List.length ([(-2)] : List Int))) (by kernel_rfl) (by kernel_rfl) (k_buildSlice (H' := [.box [.d (.lit (List.map e_Li64 s0)), .d (.lit (List.map e_i64 s1))], .sl 1 (List.map e_i64 xs12) false, .box [.d (.int .i64 e115.Kind), .d (.int .i64 e115.Max), .d (.int .i64 e115.Topic), .d (.int .i64 e115.Objective), .d (.int .i64 e115.Options), .d (.int .i64 e115.Key)], .sl 1 (List.map e_i64 ([(-2)] : List Int)) false]) (List.map e_i64 ([(-2)] : List Int)) Try.underlying22 ty3 (by kernel_rfl) (by kernel_rfl) (by kernel_rfl)) ?_
                refine bCap (fun h162 => ?_)
                refine oOp (.ref 1 (List.length (xs12 ++ ([(-2)] : List Int))) 0 (List.length (xs12 ++ ([(-2)] : List Int)))) (by kernel_rfl) (by kernel_rfl) (k_append (H' := [.box [.d (.lit (List.map e_Li64 s0)), .d (.lit (List.map e_i64 s1))], .sl 1 (List.map e_i64 (xs12 ++ ([(-2)] : List Int))) false, .box [.d (.int .i64 e115.Kind), .d (.int .i64 e115.Max), .d (.int .i64 e115.Topic), .d (.int .i64 e115.Objective), .d (.int .i64 e115.Options), .d (.int .i64 e115.Key)], .sl 1 (List.map e_i64 ([(-2)] : List Int)) false]) (enc := e_i64) 1 xs12 ([(-2)] : List Int) Try.underlying22 Try.underlying22 ty3 (by kernel_rfl) (by kernel_rfl) (by kernel_rfl) (holdsRef (enc := e_i64) 3 ([(-2)] : List Int) false (by kernel_rfl) (by kernel_rfl)) h162 (by kernel_rfl)) ?_
                refine oOp (.ref 1 (List.length (xs12 ++ ([(-2)] : List Int))) 0 (List.length (xs12 ++ ([(-2)] : List Int)))) (by kernel_rfl) (by kernel_rfl) (PureV.does (p_assign (by kernel_rfl))) ?_
                refine oEnd ?_
                refine oBlk ?_
                refine oBlk ?_
                refine oHead [2, 4, 8, 25, 26, 27] [0, 1] (T' := [(2, .d (.lit (List.map e_i64 answers))), (4, .ptr 0 0), (8, .ref 1 (List.length (xs12 ++ ([(-2)] : List Int))) 0 (List.length (xs12 ++ ([(-2)] : List Int)))), (25, .d (.lit (List.map e_SPart p2))), (26, .d (.int .i64 ((List.length p2) : Int))), (27, .d (.int .i64 x19))]) (H' := [.box [.d (.lit (List.map e_Li64 s0)), .d (.lit (List.map e_i64 s1))], .sl 1 (List.map e_i64 (xs12 ++ ([(-2)] : List Int))) false]) (by kernel_rfl) (by kernel_rfl) (by kernel_rfl) (by kernel_rfl) (by decide) (by kernel_rfl) (by kernel_rfl) ?_
                exact hj9 (xs12 ++ ([(-2)] : List Int))
              · refine oCondF (by kernel_rfl) ?_
                refine oSeq ?_
                refine oRegion rfl ?_
                refine oOp (.d (.int .i64 e116)) (by kernel_rfl) (by kernel_rfl) (PureV.does (p_move (by kernel_rfl))) ?_
                refine oOp (.d (.bool (e116 != (-2)))) (by kernel_rfl) (by kernel_rfl) (PureV.does (p_int (k := .i64) (p := e116) (q := (-2)) (by kernel_rfl) (by kernel_rfl) (by kernel_rfl))) ?_
                refine oOp (.d (.bool (e116 != (-2)))) (by kernel_rfl) (by kernel_rfl) (PureV.does (p_move (by kernel_rfl))) ?_
                refine bMeetF (H' := [.box [.d (.lit (List.map e_Li64 s0)), .d (.lit (List.map e_i64 s1))], .sl 1 (List.map e_i64 xs12) false, .box [.d (.int .i64 e115.Kind), .d (.int .i64 e115.Max), .d (.int .i64 e115.Topic), .d (.int .i64 e115.Objective), .d (.int .i64 e115.Options), .d (.int .i64 e115.Key)]]) 3 rfl ((fun (x27 : Bool) => [(2, .d (.lit (List.map e_i64 answers))), (4, .ptr 0 0), (8, .ref 1 (List.length xs12) 0 (List.length xs12)), (9, .d (.int .i64 x19)), (10, .ptr 2 0), (11, .d (.int .i64 e116)), (25, .d (.lit (List.map e_SPart p2))), (26, .d (.int .i64 ((List.length p2) : Int))), (27, .d (.int .i64 x19)), (52, .d (.bool x27))])) (fun x27 => ?_) (fun F hj10 => ?_)
                · refine oView (T' := [(2, .d (.lit (List.map e_i64 answers))), (4, .ptr 0 0), (8, .ref 1 (List.length xs12) 0 (List.length xs12)), (9, .d (.int .i64 x19)), (10, .ptr 2 0), (11, .d (.int .i64 e116)), (25, .d (.lit (List.map e_SPart p2))), (26, .d (.int .i64 ((List.length p2) : Int))), (27, .d (.int .i64 x19)), (52, .d (.bool x27))]) (H' := [.box [.d (.lit (List.map e_Li64 s0)), .d (.lit (List.map e_i64 s1))], .sl 1 (List.map e_i64 xs12) false, .box [.d (.int .i64 e115.Kind), .d (.int .i64 e115.Max), .d (.int .i64 e115.Topic), .d (.int .i64 e115.Objective), .d (.int .i64 e115.Options), .d (.int .i64 e115.Key)]]) (by kernel_rfl) (by kernel_rfl) ?_
                  refine oOp (.d (.bool x27)) (by kernel_rfl) (by kernel_rfl) (PureV.does (p_move (by kernel_rfl))) ?_
                  refine bMeet 9 rfl ((fun (x29 : Bool) => [(2, .d (.lit (List.map e_i64 answers))), (4, .ptr 0 0), (8, .ref 1 (List.length xs12) 0 (List.length xs12)), (9, .d (.int .i64 x19)), (10, .ptr 2 0), (11, .d (.int .i64 e116)), (25, .d (.lit (List.map e_SPart p2))), (26, .d (.int .i64 ((List.length p2) : Int))), (27, .d (.int .i64 x19)), (62, .d (.bool x29))])) ((fun (x29 : Bool) => [.box [.d (.lit (List.map e_Li64 s0)), .d (.lit (List.map e_i64 s1))], .sl 1 (List.map e_i64 xs12) false, .box [.d (.int .i64 e115.Kind), .d (.int .i64 e115.Max), .d (.int .i64 e115.Topic), .d (.int .i64 e115.Objective), .d (.int .i64 e115.Options), .d (.int .i64 e115.Key)]])) (fun s => s) (fun x29 => ?_) (fun hj11 => ?_)
                  · refine oView (T' := [(2, .d (.lit (List.map e_i64 answers))), (4, .ptr 0 0), (8, .ref 1 (List.length xs12) 0 (List.length xs12)), (9, .d (.int .i64 x19)), (10, .ptr 2 0), (11, .d (.int .i64 e116)), (25, .d (.lit (List.map e_SPart p2))), (26, .d (.int .i64 ((List.length p2) : Int))), (27, .d (.int .i64 x19)), (62, .d (.bool x29))]) (H' := [.box [.d (.lit (List.map e_Li64 s0)), .d (.lit (List.map e_i64 s1))], .sl 1 (List.map e_i64 xs12) false, .box [.d (.int .i64 e115.Kind), .d (.int .i64 e115.Max), .d (.int .i64 e115.Topic), .d (.int .i64 e115.Objective), .d (.int .i64 e115.Options), .d (.int .i64 e115.Key)]]) (by kernel_rfl) (by kernel_rfl) ?_
                    refine oOp (.d (.bool x29)) (by kernel_rfl) (by kernel_rfl) (PureV.does (p_assign (by kernel_rfl))) ?_
                    refine oEnd ?_
                    refine bSplit 46 (by kernel_rfl) (fun hc => ?_) (fun hc => ?_)
                    · refine oCondT (by kernel_rfl) ?_
                      refine oSeq ?_
                      refine oRegion rfl ?_
                      refine oOp (.nilc) (by kernel_rfl) (by kernel_rfl) (PureV.does (p_assign (by kernel_rfl))) ?_
                      refine oOp (.d (.int .i64 2)) (by kernel_rfl) (by kernel_rfl) (PureV.does (p_assign (by kernel_rfl))) ?_
                      refine oEnd ?_
                      refine oVirt (esz := 1) 6 (by kernel_rfl) ?_
                      refine oView (H' := [.box [.d (.lit (List.map e_Li64 s0)), .d (.lit (List.map e_i64 s1))], .sl 1 (List.map e_i64 xs12) false, .box [.d (.int .i64 e115.Kind), .d (.int .i64 e115.Max), .d (.int .i64 e115.Topic), .d (.int .i64 e115.Objective), .d (.int .i64 e115.Options), .d (.int .i64 e115.Key)], .sl 1 (List.map e_i64 ([] : List Int)) false]) rfl (by kernel_rfl) ?_
                      exact oRet (r0 := (([] : List Int), 2)) (rv := .tuple [.ref 0 (List.length ([] : List Int)) 0 (List.length ([] : List Int)), .d (.int .i64 2)]) (B := [.sl 1 (List.map e_i64 ([] : List Int)) false]) (vs := [.ref 3 (List.length ([] : List Int)) 0 (List.length ([] : List Int)), .d (.int .i64 2)]) (σ := [3]) (by kernel_rfl) Try.func16 rfl (.cons _ _ _ _ (.tmp 6 _ (by kernel_rfl)) (.cons _ _ _ _ (.tmp 7 _ (by kernel_rfl)) .nil)) (by kernel_rfl) (by kernel_rfl) (by kernel_rfl) (by kernel_rfl) (by decide) (by kernel_rfl) (by kernel_rfl)
                    · refine oCondF (by kernel_rfl) ?_
                      refine oSeq ?_
                      refine oRegion rfl ?_
                      refine oOp (.d (.int .i64 e116)) (by kernel_rfl) (by kernel_rfl) (PureV.does (p_move (by kernel_rfl))) ?_
                      refine oOp (.d (.bool (e116 == (-1)))) (by kernel_rfl) (by kernel_rfl) (PureV.does (p_int (k := .i64) (p := e116) (q := (-1)) (by kernel_rfl) (by kernel_rfl) (by kernel_rfl))) ?_
                      refine oOp (.d (.bool (e116 == (-1)))) (by kernel_rfl) (by kernel_rfl) (PureV.does (p_assign (by kernel_rfl))) ?_
                      refine oEnd ?_
                      refine bSplit 63 (by kernel_rfl) (fun hc => ?_) (fun hc => ?_)
                      · refine oCondT (by kernel_rfl) ?_
                        refine oRegion rfl ?_
                        refine oOp (.ref 1 (List.length xs12) 0 (List.length xs12)) (by kernel_rfl) (by kernel_rfl) (PureV.does (p_move (by kernel_rfl))) ?_
                        refine oOp (.ref 3 (List.length ([(-1)] : List Int)) 0 (List.length ([(-1)] : List Int))) (by kernel_rfl) (by kernel_rfl) (k_buildSlice (H' := [.box [.d (.lit (List.map e_Li64 s0)), .d (.lit (List.map e_i64 s1))], .sl 1 (List.map e_i64 xs12) false, .box [.d (.int .i64 e115.Kind), .d (.int .i64 e115.Max), .d (.int .i64 e115.Topic), .d (.int .i64 e115.Objective), .d (.int .i64 e115.Options), .d (.int .i64 e115.Key)], .sl 1 (List.map e_i64 ([(-1)] : List Int)) false]) (List.map e_i64 ([(-1)] : List Int)) Try.underlying22 ty3 (by kernel_rfl) (by kernel_rfl) (by kernel_rfl)) ?_
                        refine bCap (fun h163 => ?_)
                        refine oOp (.ref 1 (List.length (xs12 ++ ([(-1)] : List Int))) 0 (List.length (xs12 ++ ([(-1)] : List Int)))) (by kernel_rfl) (by kernel_rfl) (k_append (H' := [.box [.d (.lit (List.map e_Li64 s0)), .d (.lit (List.map e_i64 s1))], .sl 1 (List.map e_i64 (xs12 ++ ([(-1)] : List Int))) false, .box [.d (.int .i64 e115.Kind), .d (.int .i64 e115.Max), .d (.int .i64 e115.Topic), .d (.int .i64 e115.Objective), .d (.int .i64 e115.Options), .d (.int .i64 e115.Key)], .sl 1 (List.map e_i64 ([(-1)] : List Int)) false]) (enc := e_i64) 1 xs12 ([(-1)] : List Int) Try.underlying22 Try.underlying22 ty3 (by kernel_rfl) (by kernel_rfl) (by kernel_rfl) (holdsRef (enc := e_i64) 3 ([(-1)] : List Int) false (by kernel_rfl) (by kernel_rfl)) h163 (by kernel_rfl)) ?_
                        refine oOp (.ref 1 (List.length (xs12 ++ ([(-1)] : List Int))) 0 (List.length (xs12 ++ ([(-1)] : List Int)))) (by kernel_rfl) (by kernel_rfl) (PureV.does (p_assign (by kernel_rfl))) ?_
                        refine oEnd ?_
                        refine oBlk ?_
                        refine oBlk ?_
                        refine oHead [2, 4, 8, 25, 26, 27] [0, 1] (T' := [(2, .d (.lit (List.map e_i64 answers))), (4, .ptr 0 0), (8, .ref 1 (List.length (xs12 ++ ([(-1)] : List Int))) 0 (List.length (xs12 ++ ([(-1)] : List Int)))), (25, .d (.lit (List.map e_SPart p2))), (26, .d (.int .i64 ((List.length p2) : Int))), (27, .d (.int .i64 x19))]) (H' := [.box [.d (.lit (List.map e_Li64 s0)), .d (.lit (List.map e_i64 s1))], .sl 1 (List.map e_i64 (xs12 ++ ([(-1)] : List Int))) false]) (by kernel_rfl) (by kernel_rfl) (by kernel_rfl) (by kernel_rfl) (by decide) (by kernel_rfl) (by kernel_rfl) ?_
                        exact hj9 (xs12 ++ ([(-1)] : List Int))
                      · refine oCondF (by kernel_rfl) ?_
                        refine oSeq ?_
                        refine oDraw [(0, 9), (1, 9), (2, 9)] rfl ?_
                        refine aTakeL (i := 0) (st' := [2]) (.agg [.d (.int .i64 e115.Kind), .d (.int .i64 e115.Max), .d (.int .i64 e115.Topic), .d (.int .i64 e115.Objective), .d (.int .i64 e115.Options), .d (.int .i64 e115.Key)]) rfl (by kernel_rfl) (by kernel_rfl) (by kernel_rfl) (by kernel_rfl) (by kernel_rfl) (by kernel_rfl) (by kernel_rfl) (k_loadAgg 2 0 (by kernel_rfl) Try.underlying49 (by kernel_rfl) ty49 (by kernel_rfl)) ?_
                        refine aTakeL (i := 1) (st' := []) (.ptr 0 0) rfl (by kernel_rfl) (by kernel_rfl) (by kernel_rfl) (by kernel_rfl) (by kernel_rfl) (by kernel_rfl) (by kernel_rfl) (PureV.quiet (k_fieldAddr 0 0 (by kernel_rfl) Try.underlying31 rfl ty29 (by kernel_rfl)) []) ?_
                        refine aTakeL (i := 2) (st' := [0]) (.d (.lit (List.map e_Li64 s0))) rfl (by kernel_rfl) (by kernel_rfl) (by kernel_rfl) (by kernel_rfl) (by kernel_rfl) (by kernel_rfl) (by kernel_rfl) (k_load 0 0 (by kernel_rfl) Try.underlying29 (by kernel_rfl) (by kernel_rfl)) ?_
                        refine aTakeL (i := 3) (st' := []) (.d (.int .i64 x19)) rfl (by kernel_rfl) (by kernel_rfl) (by kernel_rfl) (by kernel_rfl) (by kernel_rfl) (by kernel_rfl) (by kernel_rfl) (PureV.quiet (p_move (by kernel_rfl)) []) ?_
                        refine dIdx (fun e12 h16 h17 => ?_)
                        refine aTakeL (i := 4) (st' := []) (.lptr (e_Li64 e12) 0) rfl (by kernel_rfl) (by kernel_rfl) (by kernel_rfl) (by kernel_rfl) (by kernel_rfl) (by kernel_rfl) (by kernel_rfl) (PureV.quiet (k_idxLit e_Li64_len s0 (a := e12) (by kernel_rfl) (k := .i64) (i := x19) (by kernel_rfl) Try.underlying29 ty22 h16 h17) []) ?_
                        refine aTakeL (i := 5) (st' := []) (.d (.lit (List.map e_i64 e12))) rfl (by kernel_rfl) (by kernel_rfl) (by kernel_rfl) (by kernel_rfl) (by kernel_rfl) (by kernel_rfl) (by kernel_rfl) (k_loadL (cells := e_Li64 e12) 0 (by kernel_rfl) Try.underlying22 (by kernel_rfl) (by kernel_rfl)) ?_
                        refine aTakeL (i := 6) (st' := []) (.d (.int .i64 e116)) rfl (by kernel_rfl) (by kernel_rfl) (by kernel_rfl) (by kernel_rfl) (by kernel_rfl) (by kernel_rfl) (by kernel_rfl) (PureV.quiet (p_move (by kernel_rfl)) []) ?_
                        refine dCall (i := 7) (caps := []) (v := (fun (r12 : Bool) => (.d (.bool r12) : V))) (H' := (fun (r12 : Bool) => ([.box [.d (.lit (List.map e_Li64 s0)), .d (.lit (List.map e_i64 s1))], .sl 1 (List.map e_i64 xs12) false, .box [.d (.int .i64 e115.Kind), .d (.int .i64 e115.Max), .d (.int .i64 e115.Topic), .d (.int .i64 e115.Objective), .d (.int .i64 e115.Options), .d (.int .i64 e115.Key)]] : List Blk))) [] _ (scheme_accepts_goes k e115.Kind e115.Max e115.Topic e115.Objective e115.Options e115.Key e12 e116) rfl (by kernel_rfl) (by kernel_rfl) (by kernel_rfl) (by kernel_rfl) (by kernel_rfl) (by kernel_rfl) (by kernel_rfl) (by kernel_rfl) rfl (by kernel_rfl) Try.func44 rfl (by kernel_rfl) (ConvRs.refl _ _) (by kernel_rfl) (by kernel_rfl) (by kernel_rfl) (by decide) (by kernel_rfl) (by kernel_rfl) (fun _ => (by kernel_rfl)) (fun _ => (by kernel_rfl)) (fun _ => (by kernel_rfl)) (fun r12 => ?_)
                        refine aTakeL (i := 8) (st' := []) (.d (.bool r12)) rfl (by kernel_rfl) (by kernel_rfl) (by kernel_rfl) (by kernel_rfl) (by kernel_rfl) (by kernel_rfl) (by kernel_rfl) (PureV.quiet (p_assign (by kernel_rfl)) []) ?_
                        refine aDone (by kernel_rfl) ?_
                        refine bSplit 69 (by kernel_rfl) (fun hc => ?_) (fun hc => ?_)
                        · refine oCondT (by kernel_rfl) ?_
                          refine oRegion rfl ?_
                          refine oOp (.ref 1 (List.length xs12) 0 (List.length xs12)) (by kernel_rfl) (by kernel_rfl) (PureV.does (p_move (by kernel_rfl))) ?_
                          refine oOp (.ptr 2 1) (by kernel_rfl) (by kernel_rfl) (PureV.does (k_fieldAddr 2 0 (by kernel_rfl) Try.underlying49 rfl ty3 (by kernel_rfl))) ?_
                          refine oOp (.d (.int .i64 e115.Max)) (by kernel_rfl) (by kernel_rfl) (Quiet.does (k_load 2 1 (by kernel_rfl) Try.underlying3 (by kernel_rfl) (by kernel_rfl))) ?_
                          refine oOp (.ref 3 (List.length ([e115.Max] : List Int)) 0 (List.length ([e115.Max] : List Int))) (by kernel_rfl) (by kernel_rfl) (k_buildSlice (H' := [.box [.d (.lit (List.map e_Li64 s0)), .d (.lit (List.map e_i64 s1))], .sl 1 (List.map e_i64 xs12) false, .box [.d (.int .i64 e115.Kind), .d (.int .i64 e115.Max), .d (.int .i64 e115.Topic), .d (.int .i64 e115.Objective), .d (.int .i64 e115.Options), .d (.int .i64 e115.Key)], .sl 1 (List.map e_i64 ([e115.Max] : List Int)) false]) (List.map e_i64 ([e115.Max] : List Int)) Try.underlying22 ty3 (by kernel_rfl) (by kernel_rfl) (by kernel_rfl)) ?_
                          refine bCap (fun h164 => ?_)
                          refine oOp (.ref 1 (List.length (xs12 ++ ([e115.Max] : List Int))) 0 (List.length (xs12 ++ ([e115.Max] : List Int)))) (by kernel_rfl) (by kernel_rfl) (k_append (H' := [.box [.d (.lit (List.map e_Li64 s0)), .d (.lit (List.map e_i64 s1))], .sl 1 (List.map e_i64 (xs12 ++ ([e115.Max] : List Int))) false, .box [.d (.int .i64 e115.Kind), .d (.int .i64 e115.Max), .d (.int .i64 e115.Topic), .d (.int .i64 e115.Objective), .d (.int .i64 e115.Options), .d (.int .i64 e115.Key)], .sl 1 (List.map e_i64 ([e115.Max] : List Int)) false]) (enc := e_i64) 1 xs12 ([e115.Max] : List Int) Try.underlying22 Try.underlying22 ty3 (by kernel_rfl) (by kernel_rfl) (by kernel_rfl) (holdsRef (enc := e_i64) 3 ([e115.Max] : List Int) false (by kernel_rfl) (by kernel_rfl)) h164 (by kernel_rfl)) ?_
                          refine oOp (.ref 1 (List.length (xs12 ++ ([e115.Max] : List Int))) 0 (List.length (xs12 ++ ([e115.Max] : List Int)))) (by kernel_rfl) (by kernel_rfl) (PureV.does (p_assign (by kernel_rfl))) ?_
                          refine oEnd ?_
                          refine oBlk ?_
                          refine oBlk ?_
                          refine oHead [2, 4, 8, 25, 26, 27] [0, 1] (T' := [(2, .d (.lit (List.map e_i64 answers))), (4, .ptr 0 0), (8, .ref 1 (List.length (xs12 ++ ([e115.Max] : List Int))) 0 (List.length (xs12 ++ ([e115.Max] : List Int)))), (25, .d (.lit (List.map e_SPart p2))), (26, .d (.int .i64 ((List.length p2) : Int))), (27, .d (.int .i64 x19))]) (H' := [.box [.d (.lit (List.map e_Li64 s0)), .d (.lit (List.map e_i64 s1))], .sl 1 (List.map e_i64 (xs12 ++ ([e115.Max] : List Int))) false]) (by kernel_rfl) (by kernel_rfl) (by kernel_rfl) (by kernel_rfl) (by decide) (by kernel_rfl) (by kernel_rfl) ?_
                          exact hj9 (xs12 ++ ([e115.Max] : List Int))
                        · refine oCondF (by kernel_rfl) ?_
                          refine oRegion rfl ?_
                          refine oOp (.ref 1 (List.length xs12) 0 (List.length xs12)) (by kernel_rfl) (by kernel_rfl) (PureV.does (p_move (by kernel_rfl))) ?_
                          refine oOp (.ref 3 (List.length ([0] : List Int)) 0 (List.length ([0] : List Int))) (by kernel_rfl) (by kernel_rfl) (k_buildSlice (H' := [.box [.d (.lit (List.map e_Li64 s0)), .d (.lit (List.map e_i64 s1))], .sl 1 (List.map e_i64 xs12) false, .box [.d (.int .i64 e115.Kind), .d (.int .i64 e115.Max), .d (.int .i64 e115.Topic), .d (.int .i64 e115.Objective), .d (.int .i64 e115.Options), .d (.int .i64 e115.Key)], .sl 1 (List.map e_i64 ([0] : List Int)) false]) (List.map e_i64 ([0] : List Int)) Try.underlying22 ty3 (by kernel_rfl) (by kernel_rfl) (by kernel_rfl)) ?_
                          refine bCap (fun h165 => ?_)
                          refine oOp (.ref 1 (List.length (xs12 ++ ([0] : List Int))) 0 (List.length (xs12 ++ ([0] : List Int)))) (by kernel_rfl) (by kernel_rfl) (k_append (H' := [.box [.d (.lit (List.map e_Li64 s0)), .d (.lit (List.map e_i64 s1))], .sl 1 (List.map e_i64 (xs12 ++ ([0] : List Int))) false, .box [.d (.int .i64 e115.Kind), .d (.int .i64 e115.Max), .d (.int .i64 e115.Topic), .d (.int .i64 e115.Objective), .d (.int .i64 e115.Options), .d (.int .i64 e115.Key)], .sl 1 (List.map e_i64 ([0] : List Int)) false]) (enc := e_i64) 1 xs12 ([0] : List Int) Try.underlying22 Try.underlying22 ty3 (by kernel_rfl) (by kernel_rfl) (by kernel_rfl) (holdsRef (enc := e_i64) 3 ([0] : List Int) false (by kernel_rfl) (by kernel_rfl)) h165 (by kernel_rfl)) ?_
                          refine oOp (.ref 1 (List.length (xs12 ++ ([0] : List Int))) 0 (List.length (xs12 ++ ([0] : List Int)))) (by kernel_rfl) (by kernel_rfl) (PureV.does (p_assign (by kernel_rfl))) ?_
                          refine oEnd ?_
                          refine oBlk ?_
                          refine oBlk ?_
                          refine oHead [2, 4, 8, 25, 26, 27] [0, 1] (T' := [(2, .d (.lit (List.map e_i64 answers))), (4, .ptr 0 0), (8, .ref 1 (List.length (xs12 ++ ([0] : List Int))) 0 (List.length (xs12 ++ ([0] : List Int)))), (25, .d (.lit (List.map e_SPart p2))), (26, .d (.int .i64 ((List.length p2) : Int))), (27, .d (.int .i64 x19))]) (H' := [.box [.d (.lit (List.map e_Li64 s0)), .d (.lit (List.map e_i64 s1))], .sl 1 (List.map e_i64 (xs12 ++ ([0] : List Int))) false]) (by kernel_rfl) (by kernel_rfl) (by kernel_rfl) (by kernel_rfl) (by decide) (by kernel_rfl) (by kernel_rfl) ?_
                          exact hj9 (xs12 ++ ([0] : List Int))
                  · refine bSplit 53 (by kernel_rfl) (fun hc => ?_) (fun hc => ?_)
                    · refine oOp (.d (.int .i64 e116)) (by kernel_rfl) (by kernel_rfl) (PureV.does (p_move (by kernel_rfl))) ?_
                      refine oOp (.d (.bool (decide (e116 < 0)))) (by kernel_rfl) (by kernel_rfl) (PureV.does (p_int (k := .i64) (p := e116) (q := 0) (by kernel_rfl) (by kernel_rfl) (by kernel_rfl))) ?_
                      refine oOp (.d (.bool (decide (e116 < 0)))) (by kernel_rfl) (by kernel_rfl) (PureV.does (p_move (by kernel_rfl))) ?_
                      refine bMeetF (H' := [.box [.d (.lit (List.map e_Li64 s0)), .d (.lit (List.map e_i64 s1))], .sl 1 (List.map e_i64 xs12) false, .box [.d (.int .i64 e115.Kind), .d (.int .i64 e115.Max), .d (.int .i64 e115.Topic), .d (.int .i64 e115.Objective), .d (.int .i64 e115.Options), .d (.int .i64 e115.Key)]]) 5 rfl ((fun (x30 : Bool) => [(2, .d (.lit (List.map e_i64 answers))), (4, .ptr 0 0), (8, .ref 1 (List.length xs12) 0 (List.length xs12)), (9, .d (.int .i64 x19)), (10, .ptr 2 0), (11, .d (.int .i64 e116)), (25, .d (.lit (List.map e_SPart p2))), (26, .d (.int .i64 ((List.length p2) : Int))), (27, .d (.int .i64 x19)), (53, .d (.bool true)), (61, .d (.bool x30))])) (fun x30 => ?_) (fun F hj12 => ?_)
                      · refine oView (T' := [(2, .d (.lit (List.map e_i64 answers))), (4, .ptr 0 0), (8, .ref 1 (List.length xs12) 0 (List.length xs12)), (9, .d (.int .i64 x19)), (10, .ptr 2 0), (11, .d (.int .i64 e116)), (25, .d (.lit (List.map e_SPart p2))), (26, .d (.int .i64 ((List.length p2) : Int))), (27, .d (.int .i64 x19)), (53, .d (.bool true)), (61, .d (.bool x30))]) (H' := [.box [.d (.lit (List.map e_Li64 s0)), .d (.lit (List.map e_i64 s1))], .sl 1 (List.map e_i64 xs12) false, .box [.d (.int .i64 e115.Kind), .d (.int .i64 e115.Max), .d (.int .i64 e115.Topic), .d (.int .i64 e115.Objective), .d (.int .i64 e115.Options), .d (.int .i64 e115.Key)]]) (by kernel_rfl) (by kernel_rfl) ?_
                        refine oOp (.d (.bool x30)) (by kernel_rfl) (by kernel_rfl) (PureV.does (p_pick (b := true) (by kernel_rfl) (by kernel_rfl))) ?_
                        refine oHead [2, 4, 8, 9, 10, 11, 25, 26, 27, 62] [0, 1, 2] (T' := [(2, .d (.lit (List.map e_i64 answers))), (4, .ptr 0 0), (8, .ref 1 (List.length xs12) 0 (List.length xs12)), (9, .d (.int .i64 x19)), (10, .ptr 2 0), (11, .d (.int .i64 e116)), (25, .d (.lit (List.map e_SPart p2))), (26, .d (.int .i64 ((List.length p2) : Int))), (27, .d (.int .i64 x19)), (62, .d (.bool x30))]) (H' := [.box [.d (.lit (List.map e_Li64 s0)), .d (.lit (List.map e_i64 s1))], .sl 1 (List.map e_i64 xs12) false, .box [.d (.int .i64 e115.Kind), .d (.int .i64 e115.Max), .d (.int .i64 e115.Topic), .d (.int .i64 e115.Objective), .d (.int .i64 e115.Options), .d (.int .i64 e115.Key)]]) (by kernel_rfl) (by kernel_rfl) (by kernel_rfl) (by kernel_rfl) (by decide) (by kernel_rfl) (by kernel_rfl) ?_
                        exact hj11 x30
                      · refine bPickF 56 (fun c => F (c || (decide (e116 ≥ e115.Options)))) (by kernel_rfl) (fun hc => ?_) (fun hc => ?_)
                        · refine oNot (by kernel_rfl) (by kernel_rfl) ?_
                          refine oNot (by kernel_rfl) (by kernel_rfl) ?_
                          refine oNot (by kernel_rfl) (by kernel_rfl) ?_
                          refine oNot (by kernel_rfl) (by kernel_rfl) ?_
                          refine oOp (.d (.bool true)) (by kernel_rfl) (by kernel_rfl) (PureV.does (p_pick (b := true) (by kernel_rfl) (by kernel_rfl))) ?_
                          refine oHead [2, 4, 8, 9, 10, 11, 25, 26, 27, 53, 61] [0, 1, 2] (T' := [(2, .d (.lit (List.map e_i64 answers))), (4, .ptr 0 0), (8, .ref 1 (List.length xs12) 0 (List.length xs12)), (9, .d (.int .i64 x19)), (10, .ptr 2 0), (11, .d (.int .i64 e116)), (25, .d (.lit (List.map e_SPart p2))), (26, .d (.int .i64 ((List.length p2) : Int))), (27, .d (.int .i64 x19)), (53, .d (.bool true)), (61, .d (.bool true))]) (H' := [.box [.d (.lit (List.map e_Li64 s0)), .d (.lit (List.map e_i64 s1))], .sl 1 (List.map e_i64 xs12) false, .box [.d (.int .i64 e115.Kind), .d (.int .i64 e115.Max), .d (.int .i64 e115.Topic), .d (.int .i64 e115.Objective), .d (.int .i64 e115.Options), .d (.int .i64 e115.Key)]]) (by kernel_rfl) (by kernel_rfl) (by kernel_rfl) (by kernel_rfl) (by decide) (by kernel_rfl) (by kernel_rfl) ?_
                          exact hj12 true
                        · refine oOp (.d (.int .i64 e116)) (by kernel_rfl) (by kernel_rfl) (PureV.does (p_move (by kernel_rfl))) ?_
                          refine oOp (.ptr 2 4) (by kernel_rfl) (by kernel_rfl) (PureV.does (k_fieldAddr 2 0 (by kernel_rfl) Try.underlying49 rfl ty3 (by kernel_rfl))) ?_
                          refine oOp (.d (.int .i64 e115.Options)) (by kernel_rfl) (by kernel_rfl) (Quiet.does (k_load 2 4 (by kernel_rfl) Try.underlying3 (by kernel_rfl) (by kernel_rfl))) ?_
                          refine oOp (.d (.bool (decide (e116 ≥ e115.Options)))) (by kernel_rfl) (by kernel_rfl) (PureV.does (p_int (k := .i64) (p := e116) (q := e115.Options) (by kernel_rfl) (by kernel_rfl) (by kernel_rfl))) ?_
                          refine oOp (.d (.bool (decide (e116 ≥ e115.Options)))) (by kernel_rfl) (by kernel_rfl) (PureV.does (p_pick (b := false) (by kernel_rfl) (by kernel_rfl))) ?_
                          refine oHead [2, 4, 8, 9, 10, 11, 25, 26, 27, 53, 61] [0, 1, 2] (T' := [(2, .d (.lit (List.map e_i64 answers))), (4, .ptr 0 0), (8, .ref 1 (List.length xs12) 0 (List.length xs12)), (9, .d (.int .i64 x19)), (10, .ptr 2 0), (11, .d (.int .i64 e116)), (25, .d (.lit (List.map e_SPart p2))), (26, .d (.int .i64 ((List.length p2) : Int))), (27, .d (.int .i64 x19)), (53, .d (.bool true)), (61, .d (.bool (decide (e116 ≥ e115.Options))))]) (H' := [.box [.d (.lit (List.map e_Li64 s0)), .d (.lit (List.map e_i64 s1))], .sl 1 (List.map e_i64 xs12) false, .box [.d (.int .i64 e115.Kind), .d (.int .i64 e115.Max), .d (.int .i64 e115.Topic), .d (.int .i64 e115.Objective), .d (.int .i64 e115.Options), .d (.int .i64 e115.Key)]]) (by kernel_rfl) (by kernel_rfl) (by kernel_rfl) (by kernel_rfl) (by decide) (by kernel_rfl) (by kernel_rfl) ?_
                          exact hj12 (decide (e116 ≥ e115.Options))
                    · refine oNot (by kernel_rfl) (by kernel_rfl) ?_
                      refine oNot (by kernel_rfl) (by kernel_rfl) ?_
                      refine oNot (by kernel_rfl) (by kernel_rfl) ?_
                      refine oNot (by kernel_rfl) (by kernel_rfl) ?_
                      refine oNot (by kernel_rfl) (by kernel_rfl) ?_
                      refine oNot (by kernel_rfl) (by kernel_rfl) ?_
                      refine oNot (by kernel_rfl) (by kernel_rfl) ?_
                      refine oNot (by kernel_rfl) (by kernel_rfl) ?_
                      refine oOp (.d (.bool false)) (by kernel_rfl) (by kernel_rfl) (PureV.does (p_pick (b := false) (by kernel_rfl) (by kernel_rfl))) ?_
                      refine oHead [2, 4, 8, 9, 10, 11, 25, 26, 27, 62] [0, 1, 2] (T' := [(2, .d (.lit (List.map e_i64 answers))), (4, .ptr 0 0), (8, .ref 1 (List.length xs12) 0 (List.length xs12)), (9, .d (.int .i64 x19)), (10, .ptr 2 0), (11, .d (.int .i64 e116)), (25, .d (.lit (List.map e_SPart p2))), (26, .d (.int .i64 ((List.length p2) : Int))), (27, .d (.int .i64 x19)), (62, .d (.bool false))]) (H' := [.box [.d (.lit (List.map e_Li64 s0)), .d (.lit (List.map e_i64 s1))], .sl 1 (List.map e_i64 xs12) false, .box [.d (.int .i64 e115.Kind), .d (.int .i64 e115.Max), .d (.int .i64 e115.Topic), .d (.int .i64 e115.Objective), .d (.int .i64 e115.Options), .d (.int .i64 e115.Key)]]) (by kernel_rfl) (by kernel_rfl) (by kernel_rfl) (by kernel_rfl) (by decide) (by kernel_rfl) (by kernel_rfl) ?_
                      exact hj11 false
                · refine bPickF 49 (fun c => F (c && (e116 != (-1)))) (by kernel_rfl) (fun hc => ?_) (fun hc => ?_)
                  · refine oOp (.d (.int .i64 e116)) (by kernel_rfl) (by kernel_rfl) (PureV.does (p_move (by kernel_rfl))) ?_
                    refine oOp (.d (.bool (e116 != (-1)))) (by kernel_rfl) (by kernel_rfl) (PureV.does (p_int (k := .i64) (p := e116) (q := (-1)) (by kernel_rfl) (by kernel_rfl) (by kernel_rfl))) ?_
                    refine oOp (.d (.bool (e116 != (-1)))) (by kernel_rfl) (by kernel_rfl) (PureV.does (p_pick (b := true) (by kernel_rfl) (by kernel_rfl))) ?_
                    refine oHead [2, 4, 8, 9, 10, 11, 25, 26, 27, 52] [0, 1, 2] (T' := [(2, .d (.lit (List.map e_i64 answers))), (4, .ptr 0 0), (8, .ref 1 (List.length xs12) 0 (List.length xs12)), (9, .d (.int .i64 x19)), (10, .ptr 2 0), (11, .d (.int .i64 e116)), (25, .d (.lit (List.map e_SPart p2))), (26, .d (.int .i64 ((List.length p2) : Int))), (27, .d (.int .i64 x19)), (52, .d (.bool (e116 != (-1))))]) (H' := [.box [.d (.lit (List.map e_Li64 s0)), .d (.lit (List.map e_i64 s1))], .sl 1 (List.map e_i64 xs12) false, .box [.d (.int .i64 e115.Kind), .d (.int .i64 e115.Max), .d (.int .i64 e115.Topic), .d (.int .i64 e115.Objective), .d (.int .i64 e115.Options), .d (.int .i64 e115.Key)]]) (by kernel_rfl) (by kernel_rfl) (by kernel_rfl) (by kernel_rfl) (by decide) (by kernel_rfl) (by kernel_rfl) ?_
                    exact hj10 (e116 != (-1))
                  · refine oNot (by kernel_rfl) (by kernel_rfl) ?_
                    refine oNot (by kernel_rfl) (by kernel_rfl) ?_
                    refine oOp (.d (.bool false)) (by kernel_rfl) (by kernel_rfl) (PureV.does (p_pick (b := false) (by kernel_rfl) (by kernel_rfl))) ?_
                    refine oHead [2, 4, 8, 9, 10, 11, 25, 26, 27, 52] [0, 1, 2] (T' := [(2, .d (.lit (List.map e_i64 answers))), (4, .ptr 0 0), (8, .ref 1 (List.length xs12) 0 (List.length xs12)), (9, .d (.int .i64 x19)), (10, .ptr 2 0), (11, .d (.int .i64 e116)), (25, .d (.lit (List.map e_SPart p2))), (26, .d (.int .i64 ((List.length p2) : Int))), (27, .d (.int .i64 x19)), (52, .d (.bool false))]) (H' := [.box [.d (.lit (List.map e_Li64 s0)), .d (.lit (List.map e_i64 s1))], .sl 1 (List.map e_i64 xs12) false, .box [.d (.int .i64 e115.Kind), .d (.int .i64 e115.Max), .d (.int .i64 e115.Topic), .d (.int .i64 e115.Objective), .d (.int .i64 e115.Options), .d (.int .i64 e115.Key)]]) (by kernel_rfl) (by kernel_rfl) (by kernel_rfl) (by kernel_rfl) (by decide) (by kernel_rfl) (by kernel_rfl) ?_
                    exact hj10 false
          · refine oCondF (by kernel_rfl) ?_
            refine oExit rfl ?_
            refine oHead [8] [1] (T' := [(8, .ref 0 (List.length xs12) 0 (List.length xs12))]) (H' := [.sl 1 (List.map e_i64 xs12) false]) (by kernel_rfl) (by kernel_rfl) (by kernel_rfl) (by kernel_rfl) (by decide) (by kernel_rfl) (by kernel_rfl) ?_
            exact hj6 xs12

/-- awardingbody/scheme.Permitted -/
def scheme_Permitted (k : Nat) (p0 : Int) (p1 : Int) (p2 : (List SPart)) (s0 : (List (List Int))) (s1 : (List Int)) (part : Int) (mark1 : Int) : Option (Bool) := Option.bind (scheme_Valid k p0 p1 p2 s0 s1) (fun r14 => Option.bind (bif r14 then Option.bind (scheme_there k p0 p1 p2 part) (fun r18 => some r18) else some false : Option (Bool)) (fun x2 => Option.bind (bif x2 then gidx p2 part fun e12 => Option.bind (scheme_permitted k e12.Kind e12.Max e12.Topic e12.Objective e12.Options e12.Key mark1) (fun r17 => some r17) else some false : Option (Bool)) (fun x3 => some x3)))
def scheme_Permitted_E (p0 : Int) (p1 : Int) (p2 : (List SPart)) (s0 : (List (List Int))) (s1 : (List Int)) (part : Int) (mark1 : Int) : Bool → V × List Blk := fun r13 => (.d (.bool r13), [])
theorem scheme_Permitted_goes (k : Nat) (p0 : Int) (p1 : Int) (p2 : (List SPart)) (s0 : (List (List Int))) (s1 : (List Int)) (part : Int) (mark1 : Int) : RunsO Try.prog 34 [.agg [.d (.int .i64 p0), .d (.int .i64 p1), .d (.lit (List.map e_SPart p2))], .agg [.d (.lit (List.map e_Li64 s0)), .d (.lit (List.map e_i64 s1))], .d (.int .i64 part), .d (.int .i64 mark1)] [] (scheme_Permitted_E p0 p1 p2 s0 s1 part mark1) (scheme_Permitted k p0 p1 p2 s0 s1 part mark1) := by
  refine RunsO.of_goes (N := 26) (m := 0) (T := [(0, .agg [.d (.int .i64 p0), .d (.int .i64 p1), .d (.lit (List.map e_SPart p2))]), (1, .agg [.d (.lit (List.map e_Li64 s0)), .d (.lit (List.map e_i64 s1))]), (2, .d (.int .i64 part)), (3, .d (.int .i64 mark1))]) Try.func34 rfl rfl (by kernel_rfl) (by kernel_rfl) (by kernel_rfl) ?_
  unfold scheme_Permitted
  refine bStart ?_
  refine oSeq ?_
  refine oRegion rfl ?_
  refine oOp (.ptr 0 0) (by kernel_rfl) (by kernel_rfl) (k_box (H' := [.box [.d (.int .i64 p0), .d (.int .i64 p1), .d (.lit (List.map e_SPart p2))]]) (cells := [.d (.int .i64 p0), .d (.int .i64 p1), .d (.lit (List.map e_SPart p2))]) (by kernel_rfl) (by kernel_rfl) (by kernel_rfl)) ?_
  refine oOp (.ptr 1 0) (by kernel_rfl) (by kernel_rfl) (k_box (H' := [.box [.d (.int .i64 p0), .d (.int .i64 p1), .d (.lit (List.map e_SPart p2))], .box [.d (.lit (List.map e_Li64 s0)), .d (.lit (List.map e_i64 s1))]]) (cells := [.d (.lit (List.map e_Li64 s0)), .d (.lit (List.map e_i64 s1))]) (by kernel_rfl) (by kernel_rfl) (by kernel_rfl)) ?_
  refine oOp (.d (.bool false)) (by kernel_rfl) (by kernel_rfl) (PureV.does (p_assign (by kernel_rfl))) ?_
  refine oEnd ?_
  refine oSeq ?_
  refine oRegion rfl ?_
  refine oOp (.agg [.d (.int .i64 p0), .d (.int .i64 p1), .d (.lit (List.map e_SPart p2))]) (by kernel_rfl) (by kernel_rfl) (Quiet.does (k_loadAgg 0 0 (by kernel_rfl) Try.underlying27 (by kernel_rfl) ty27 (by kernel_rfl))) ?_
  refine oOp (.agg [.d (.lit (List.map e_Li64 s0)), .d (.lit (List.map e_i64 s1))]) (by kernel_rfl) (by kernel_rfl) (Quiet.does (k_loadAgg 1 0 (by kernel_rfl) Try.underlying31 (by kernel_rfl) ty31 (by kernel_rfl))) ?_
  refine bCall (caps := []) (v := (fun (r14 : Bool) => (.d (.bool r14) : V))) (H' := (fun (r14 : Bool) => ([.box [.d (.int .i64 p0), .d (.int .i64 p1), .d (.lit (List.map e_SPart p2))], .box [.d (.lit (List.map e_Li64 s0)), .d (.lit (List.map e_i64 s1))]] : List Blk))) [] _ (scheme_Valid_goes k p0 p1 p2 s0 s1) (by kernel_rfl) (by kernel_rfl) rfl (by kernel_rfl) Try.func30 rfl (by kernel_rfl) (ConvRs.refl _ _) (by kernel_rfl) (by kernel_rfl) (by kernel_rfl) (by decide) (by kernel_rfl) (by kernel_rfl) (fun _ => (by kernel_rfl)) (fun _ => (by kernel_rfl)) (fun _ => (by kernel_rfl)) (fun r14 => ?_)
  refine oOp (.d (.bool r14)) (by kernel_rfl) (by kernel_rfl) (PureV.does (p_move (by kernel_rfl))) ?_
  refine bMeet 4 rfl ((fun (x2 : Bool) => [(2, .d (.int .i64 part)), (3, .d (.int .i64 mark1)), (4, .ptr 0 0), (16, .d (.bool x2))])) ((fun (x2 : Bool) => [.box [.d (.int .i64 p0), .d (.int .i64 p1), .d (.lit (List.map e_SPart p2))]])) (fun s => s) (fun x2 => ?_) (fun hj2 => ?_)
  · refine oView (T' := [(2, .d (.int .i64 part)), (3, .d (.int .i64 mark1)), (4, .ptr 0 0), (16, .d (.bool x2))]) (H' := [.box [.d (.int .i64 p0), .d (.int .i64 p1), .d (.lit (List.map e_SPart p2))]]) (by kernel_rfl) (by kernel_rfl) ?_
    refine oOp (.d (.bool x2)) (by kernel_rfl) (by kernel_rfl) (PureV.does (p_move (by kernel_rfl))) ?_
    refine bMeet 8 rfl ((fun (x3 : Bool) => [(25, .d (.bool x3))])) ((fun (x3 : Bool) => [])) (fun s => s) (fun x3 => ?_) (fun hj1 => ?_)
    · refine oView (T' := [(25, .d (.bool x3))]) (H' := []) (by kernel_rfl) (by kernel_rfl) ?_
      refine oOp (.d (.bool x3)) (by kernel_rfl) (by kernel_rfl) (PureV.does (p_assign (by kernel_rfl))) ?_
      refine oEnd ?_
      exact oRet (r0 := x3) (rv := .d (.bool x3)) (B := []) (vs := [.d (.bool x3)]) (σ := []) (by kernel_rfl) Try.func34 rfl (.cons _ _ _ _ (.tmp 8 _ (by kernel_rfl)) .nil) (by kernel_rfl) (by kernel_rfl) (by kernel_rfl) (by kernel_rfl) (by decide) (by kernel_rfl) (by kernel_rfl)
    · refine bSplit 17 (by kernel_rfl) (fun hc => ?_) (fun hc => ?_)
      · refine oOp (.ptr 0 2) (by kernel_rfl) (by kernel_rfl) (PureV.does (k_fieldAddr 0 0 (by kernel_rfl) Try.underlying27 rfl ty25 (by kernel_rfl))) ?_
        refine oOp (.d (.lit (List.map e_SPart p2))) (by kernel_rfl) (by kernel_rfl) (Quiet.does (k_load 0 2 (by kernel_rfl) Try.underlying25 (by kernel_rfl) (by kernel_rfl))) ?_
        refine oOp (.d (.int .i64 part)) (by kernel_rfl) (by kernel_rfl) (PureV.does (p_move (by kernel_rfl))) ?_
        refine bIdx (fun e12 h14 h15 => ?_)
        refine oOp (.lptr (e_SPart e12) 0) (by kernel_rfl) (by kernel_rfl) (PureV.does (k_idxLit e_SPart_len p2 (a := e12) (by kernel_rfl) (k := .i64) (i := part) (by kernel_rfl) Try.underlying25 ty49 h14 h15)) ?_
        refine oOp (.agg [.d (.int .i64 e12.Kind), .d (.int .i64 e12.Max), .d (.int .i64 e12.Topic), .d (.int .i64 e12.Objective), .d (.int .i64 e12.Options), .d (.int .i64 e12.Key)]) (by kernel_rfl) (by kernel_rfl) (Quiet.does (k_loadLAgg (cells := e_SPart e12) 0 [(.int .i64 e12.Kind), (.int .i64 e12.Max), (.int .i64 e12.Topic), (.int .i64 e12.Objective), (.int .i64 e12.Options), (.int .i64 e12.Key)] (by kernel_rfl) Try.underlying49 (by kernel_rfl) ty49 (by kernel_rfl) (by kernel_rfl) (by kernel_rfl))) ?_
        refine oOp (.d (.int .i64 mark1)) (by kernel_rfl) (by kernel_rfl) (PureV.does (p_move (by kernel_rfl))) ?_
        refine bCall (caps := []) (v := (fun (r17 : Bool) => (.d (.bool r17) : V))) (H' := (fun (r17 : Bool) => ([.box [.d (.int .i64 p0), .d (.int .i64 p1), .d (.lit (List.map e_SPart p2))]] : List Blk))) [] _ (scheme_permitted_goes k e12.Kind e12.Max e12.Topic e12.Objective e12.Options e12.Key mark1) (by kernel_rfl) (by kernel_rfl) rfl (by kernel_rfl) Try.func56 rfl (by kernel_rfl) (ConvRs.refl _ _) (by kernel_rfl) (by kernel_rfl) (by kernel_rfl) (by decide) (by kernel_rfl) (by kernel_rfl) (fun _ => (by kernel_rfl)) (fun _ => (by kernel_rfl)) (fun _ => (by kernel_rfl)) (fun r17 => ?_)
        refine oOp (.d (.bool r17)) (by kernel_rfl) (by kernel_rfl) (PureV.does (p_pick (b := true) (by kernel_rfl) (by kernel_rfl))) ?_
        refine oHead [25] [] (T' := [(25, .d (.bool r17))]) (H' := []) (by kernel_rfl) (by kernel_rfl) (by kernel_rfl) (by kernel_rfl) (by decide) (by kernel_rfl) (by kernel_rfl) ?_
        exact hj1 r17
      · refine oNot (by kernel_rfl) (by kernel_rfl) ?_
        refine oNot (by kernel_rfl) (by kernel_rfl) ?_
        refine oNot (by kernel_rfl) (by kernel_rfl) ?_
        refine oNot (by kernel_rfl) (by kernel_rfl) ?_
        refine oNot (by kernel_rfl) (by kernel_rfl) ?_
        refine oNot (by kernel_rfl) (by kernel_rfl) ?_
        refine oNot (by kernel_rfl) (by kernel_rfl) ?_
        refine oOp (.d (.bool false)) (by kernel_rfl) (by kernel_rfl) (PureV.does (p_pick (b := false) (by kernel_rfl) (by kernel_rfl))) ?_
        refine oHead [25] [] (T' := [(25, .d (.bool false))]) (H' := []) (by kernel_rfl) (by kernel_rfl) (by kernel_rfl) (by kernel_rfl) (by decide) (by kernel_rfl) (by kernel_rfl) ?_
        exact hj1 false
  · refine bSplit 12 (by kernel_rfl) (fun hc => ?_) (fun hc => ?_)
    · refine oOp (.agg [.d (.int .i64 p0), .d (.int .i64 p1), .d (.lit (List.map e_SPart p2))]) (by kernel_rfl) (by kernel_rfl) (Quiet.does (k_loadAgg 0 0 (by kernel_rfl) Try.underlying27 (by kernel_rfl) ty27 (by kernel_rfl))) ?_
      refine oOp (.d (.int .i64 part)) (by kernel_rfl) (by kernel_rfl) (PureV.does (p_move (by kernel_rfl))) ?_
      refine bCall (caps := []) (v := (fun (r18 : Bool) => (.d (.bool r18) : V))) (H' := (fun (r18 : Bool) => ([.box [.d (.int .i64 p0), .d (.int .i64 p1), .d (.lit (List.map e_SPart p2))], .box [.d (.lit (List.map e_Li64 s0)), .d (.lit (List.map e_i64 s1))]] : List Blk))) [] _ (scheme_there_goes k p0 p1 p2 part) (by kernel_rfl) (by kernel_rfl) rfl (by kernel_rfl) Try.func48 rfl (by kernel_rfl) (ConvRs.refl _ _) (by kernel_rfl) (by kernel_rfl) (by kernel_rfl) (by decide) (by kernel_rfl) (by kernel_rfl) (fun _ => (by kernel_rfl)) (fun _ => (by kernel_rfl)) (fun _ => (by kernel_rfl)) (fun r18 => ?_)
      refine oOp (.d (.bool r18)) (by kernel_rfl) (by kernel_rfl) (PureV.does (p_pick (b := true) (by kernel_rfl) (by kernel_rfl))) ?_
      refine oHead [2, 3, 4, 16] [0] (T' := [(2, .d (.int .i64 part)), (3, .d (.int .i64 mark1)), (4, .ptr 0 0), (16, .d (.bool r18))]) (H' := [.box [.d (.int .i64 p0), .d (.int .i64 p1), .d (.lit (List.map e_SPart p2))]]) (by kernel_rfl) (by kernel_rfl) (by kernel_rfl) (by kernel_rfl) (by decide) (by kernel_rfl) (by kernel_rfl) ?_
      exact hj2 r18
    · refine oNot (by kernel_rfl) (by kernel_rfl) ?_
      refine oNot (by kernel_rfl) (by kernel_rfl) ?_
      refine oNot (by kernel_rfl) (by kernel_rfl) ?_
      refine oOp (.d (.bool false)) (by kernel_rfl) (by kernel_rfl) (PureV.does (p_pick (b := false) (by kernel_rfl) (by kernel_rfl))) ?_
      refine oHead [2, 3, 4, 16] [0] (T' := [(2, .d (.int .i64 part)), (3, .d (.int .i64 mark1)), (4, .ptr 0 0), (16, .d (.bool false))]) (H' := [.box [.d (.int .i64 p0), .d (.int .i64 p1), .d (.lit (List.map e_SPart p2))]]) (by kernel_rfl) (by kernel_rfl) (by kernel_rfl) (by kernel_rfl) (by decide) (by kernel_rfl) (by kernel_rfl) ?_
      exact hj2 false

end Go.VM
