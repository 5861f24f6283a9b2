/- Plain functions that answer as the program's functions do, and the proof that they do. -/
import Derived.Test.YtdpoilkjdfnadaaProg
import Derived.KernelRfl
import Derived.Test.YtdpoilkjdfnadaaEngS
import Derived.Test.YtdpoilkjdfnadaaSFacts
import Derived.Test.YtdpoilkjdfnadaaSFuns0
import Derived.Test.YtdpoilkjdfnadaaSFuns2
import Derived.Test.YtdpoilkjdfnadaaSFuns3
import Derived.Test.YtdpoilkjdfnadaaSFuns4
import Derived.Test.YtdpoilkjdfnadaaSFuns5
namespace Go.VM
open Go.Proofs
set_option linter.unusedVariables false
set_option linter.unusedSimpArgs false
set_option maxRecDepth 100000
/-- awardingbody/awardingbodylaw23.SchemeBounds -/
def law23_SchemeBounds_b1 (k : Nat) (x16 : (List Int)) (r113 : (List SPart)) (r114 : (List (List Int))) (r135 : (List Int)) (again : Int × Int × (List Int) → Option (((List Int)) ⊕ (Bool))) : Int × Int × (List Int) → Option (((List Int)) ⊕ (Bool)) := uc fun i4 => uc fun x38 => fun xs27 => bif (decide (i4 < ((List.length xs27) : Int))) then gidx xs27 i4 fun e127 => Option.bind (bif (e127 == (-2)) then gidx r113 i4 fun e129 => Option.bind (make_Tape_Range k (-1) e129.Max x16 x38) (uc fun r128 => fun x216 => blet (List.set xs27 (Int.toNat i4) r128) fun xs37 => some (x216, xs37)) else some (x38, xs27) : Option (Int × (List Int))) (uc fun x43 => fun xs36 => gidx xs36 i4 fun e12 => Option.bind (scheme_Permitted k 0 0 r113 r114 r135 i4 e12) (fun r132 => bif (!r132) then some (Sum.inr false) else again ((IntKind.wrap .i64 (i4 + 1)), x43, xs36))) else some (Sum.inl xs27)
def law23_SchemeBounds (k : Nat) (t : (List Int)) : Option (Bool) := Option.bind (make_New k t) (fun x16 => Option.bind (make_Tape_Paper k x16 0) (uc fun r113 => fun x61 => Option.bind (make_Tape_Scheme k r113 x16 x61) (uc fun r114 => uc fun r135 => fun x511 => Option.bind (make_Tape_Given k r113 x16 x511) (uc fun r18 => fun x10 => Option.bind (scheme_Closed_2 k 0 0 r113 r114 r135 r18) (uc fun xs5 => fun r131 => blet ((r131 != 0) || (((List.length xs5) : Int) != ((List.length r113) : Int))) fun x17 => bif x17 then some false else Option.bind (gloop (law23_SchemeBounds_b1 k x16 r113 r114 r135) k (0, x10, xs5) : Option (((List Int)) ⊕ (Bool))) (Sum.elim (fun xs22 => Option.bind (scheme_Total k 0 0 r113 r114 r135 xs22) (uc fun r136 => fun r142 => Option.bind (scheme_Maximum k 0 0 r113 r114 r135) (uc fun r116 => fun r137 => Option.bind (scheme_Marked k 0 0 r113 r114 r135 xs22) (fun r123 => blet (r123 && (r142 == 0)) fun x31 => blet (x31 && (r137 == 0)) fun x32 => blet (x32 && (decide (r136 ≥ 0))) fun x33 => blet (x33 && (decide (r136 ≤ r116))) fun x34 => Option.bind (bif x34 then Option.bind (law23_awake k) (fun r125 => some r125) else some false : Option (Bool)) (fun x35 => some x35))))) (fun r => some r)))))))
def law23_SchemeBounds_E (t : (List Int)) : Bool → V × List Blk := fun r16 => (.d (.bool r16), [])
theorem law23_SchemeBounds_goes (k : Nat) (t : (List Int)) : RunsO Try.prog 10 [.d (.lit (List.map e_i64 t))] [] (law23_SchemeBounds_E t) (law23_SchemeBounds k t) := by
  refine RunsO.of_goes (N := 107) (m := 0) (T := [(0, .d (.lit (List.map e_i64 t)))]) Try.func10 rfl rfl (by kernel_rfl) (by kernel_rfl) (by kernel_rfl) ?_
  unfold law23_SchemeBounds
  refine bStart ?_
  refine oSeq ?_
  refine oRegion rfl ?_
  refine oOp (.d (.bool false)) (by kernel_rfl) (by kernel_rfl) (PureV.does (p_assign (by kernel_rfl))) ?_
  refine oEnd ?_
  refine oSeq ?_
  refine oRegion rfl ?_
  refine oOp (.d (.lit (List.map e_i64 t))) (by kernel_rfl) (by kernel_rfl) (PureV.does (p_move (by kernel_rfl))) ?_
  refine bCall (caps := []) (v := (fun (x16 : (List Int)) => (.ptr 0 0 : V))) (H' := (fun (x16 : (List Int)) => ([.box [.d (.lit (List.map e_i64 x16)), .d (.int .i64 0)]] : List Blk))) [] _ (make_New_goes k t) (by kernel_rfl) (by kernel_rfl) rfl (by kernel_rfl) Try.func12 rfl (by kernel_rfl) (ConvRs.refl _ _) (by kernel_rfl) (by kernel_rfl) (by kernel_rfl) (by decide) (by kernel_rfl) (by kernel_rfl) (fun _ => (by kernel_rfl)) (fun _ => (by kernel_rfl)) (fun _ => (by kernel_rfl)) (fun x16 => ?_)
  refine oOp (.ptr 0 0) (by kernel_rfl) (by kernel_rfl) (PureV.does (p_assign (by kernel_rfl))) ?_
  refine oEnd ?_
  refine oSeq ?_
  refine oRegion rfl ?_
  refine oOp (.ptr 0 0) (by kernel_rfl) (by kernel_rfl) (PureV.does (p_move (by kernel_rfl))) ?_
  refine bCall (caps := []) (v := (uc fun (r113 : (List SPart)) => (fun (x61 : Int) => (.agg [.d (.int .i64 0), .d (.int .i64 0), .d (.lit (List.map e_SPart r113))] : V)))) (H' := (uc fun (r113 : (List SPart)) => (fun (x61 : Int) => ([.box [.d (.lit (List.map e_i64 x16)), .d (.int .i64 x61)]] : List Blk)))) [0] _ (make_Tape_Paper_goes k x16 0) (by kernel_rfl) (by kernel_rfl) rfl (by kernel_rfl) Try.func29 rfl (by kernel_rfl) (ConvRs.refl _ _) (by kernel_rfl) (by kernel_rfl) (by kernel_rfl) (by decide) (by kernel_rfl) (by kernel_rfl) (fun _ => (by kernel_rfl)) (fun _ => (by kernel_rfl)) (fun _ => (by kernel_rfl)) (fun r => ?_)
  obtain ⟨r113, x61⟩ := r
  refine bUc ?_
  refine oOp (.ptr 1 0) (by kernel_rfl) (by kernel_rfl) (k_alloc (H' := [.box [.d (.lit (List.map e_i64 x16)), .d (.int .i64 x61)], .box [.d (.int .i64 0), .d (.int .i64 0), .nilc]]) ty27 (by kernel_rfl) (by kernel_rfl)) ?_
  refine oOp (.undef) (by kernel_rfl) (by kernel_rfl) (k_store (vs := [.d (.int .i64 0), .d (.int .i64 0), .d (.lit (List.map e_SPart r113))]) (H' := [.box [.d (.lit (List.map e_i64 x16)), .d (.int .i64 x61)], .box [.d (.int .i64 0), .d (.int .i64 0), .d (.lit (List.map e_SPart r113))]]) 1 0 (by kernel_rfl) ty27 (by kernel_rfl) (by kernel_rfl) (by kernel_rfl)) ?_
  refine oEnd ?_
  refine oSeq ?_
  refine oRegion rfl ?_
  refine oOp (.ptr 0 0) (by kernel_rfl) (by kernel_rfl) (PureV.does (p_move (by kernel_rfl))) ?_
  refine oOp (.agg [.d (.int .i64 0), .d (.int .i64 0), .d (.lit (List.map e_SPart r113))]) (by kernel_rfl) (by kernel_rfl) (Quiet.does (k_loadAgg 1 0 (by kernel_rfl) Try.underlying27 (by kernel_rfl) ty27 (by kernel_rfl))) ?_
  refine bCall (caps := []) (v := (uc fun (r114 : (List (List Int))) => (uc fun (r135 : (List Int)) => (fun (x511 : Int) => (.agg [.d (.lit (List.map e_Li64 r114)), .d (.lit (List.map e_i64 r135))] : V))))) (H' := (uc fun (r114 : (List (List Int))) => (uc fun (r135 : (List Int)) => (fun (x511 : Int) => ([.box [.d (.lit (List.map e_i64 x16)), .d (.int .i64 x511)], .box [.d (.int .i64 0), .d (.int .i64 0), .d (.lit (List.map e_SPart r113))]] : List Blk))))) [0] _ (make_Tape_Scheme_goes k r113 x16 x61) (by kernel_rfl) (by kernel_rfl) rfl (by kernel_rfl) Try.func14 rfl (by kernel_rfl) (ConvRs.refl _ _) (by kernel_rfl) (by kernel_rfl) (by kernel_rfl) (by decide) (by kernel_rfl) (by kernel_rfl) (fun _ => (by kernel_rfl)) (fun _ => (by kernel_rfl)) (fun _ => (by kernel_rfl)) (fun r => ?_)
  obtain ⟨r114, r135, x511⟩ := r
  refine bUc ?_
  refine bUc ?_
  refine oOp (.ptr 2 0) (by kernel_rfl) (by kernel_rfl) (k_alloc (H' := [.box [.d (.lit (List.map e_i64 x16)), .d (.int .i64 x511)], .box [.d (.int .i64 0), .d (.int .i64 0), .d (.lit (List.map e_SPart r113))], .box [.nilc, .nilc]]) ty31 (by kernel_rfl) (by kernel_rfl)) ?_
  refine oOp (.undef) (by kernel_rfl) (by kernel_rfl) (k_store (vs := [.d (.lit (List.map e_Li64 r114)), .d (.lit (List.map e_i64 r135))]) (H' := [.box [.d (.lit (List.map e_i64 x16)), .d (.int .i64 x511)], .box [.d (.int .i64 0), .d (.int .i64 0), .d (.lit (List.map e_SPart r113))], .box [.d (.lit (List.map e_Li64 r114)), .d (.lit (List.map e_i64 r135))]]) 2 0 (by kernel_rfl) ty31 (by kernel_rfl) (by kernel_rfl) (by kernel_rfl)) ?_
  refine oEnd ?_
  refine oSeq ?_
  refine oDraw [(0, 4), (1, 11), (2, 11)] rfl ?_
  refine aTakeL (i := 0) (st' := [1]) (.agg [.d (.int .i64 0), .d (.int .i64 0), .d (.lit (List.map e_SPart r113))]) rfl (by kernel_rfl) (by kernel_rfl) (by kernel_rfl) (by kernel_rfl) (by kernel_rfl) (by kernel_rfl) (by kernel_rfl) (k_loadAgg 1 0 (by kernel_rfl) Try.underlying27 (by kernel_rfl) ty27 (by kernel_rfl)) ?_
  refine aTakeL (i := 1) (st' := [2]) (.agg [.d (.lit (List.map e_Li64 r114)), .d (.lit (List.map e_i64 r135))]) rfl (by kernel_rfl) (by kernel_rfl) (by kernel_rfl) (by kernel_rfl) (by kernel_rfl) (by kernel_rfl) (by kernel_rfl) (k_loadAgg 2 0 (by kernel_rfl) Try.underlying31 (by kernel_rfl) ty31 (by kernel_rfl)) ?_
  refine aTakeL (i := 2) (st' := []) (.ptr 0 0) rfl (by kernel_rfl) (by kernel_rfl) (by kernel_rfl) (by kernel_rfl) (by kernel_rfl) (by kernel_rfl) (by kernel_rfl) (PureV.quiet (p_move (by kernel_rfl)) []) ?_
  refine aTakeL (i := 3) (st' := [1]) (.agg [.d (.int .i64 0), .d (.int .i64 0), .d (.lit (List.map e_SPart r113))]) rfl (by kernel_rfl) (by kernel_rfl) (by kernel_rfl) (by kernel_rfl) (by kernel_rfl) (by kernel_rfl) (by kernel_rfl) (k_loadAgg 1 0 (by kernel_rfl) Try.underlying27 (by kernel_rfl) ty27 (by kernel_rfl)) ?_
  refine dCall (i := 4) (caps := []) (v := (uc fun (r18 : (List Int)) => (fun (x10 : Int) => (.d (.lit (List.map e_i64 r18)) : V)))) (H' := (uc fun (r18 : (List Int)) => (fun (x10 : Int) => ([.box [.d (.lit (List.map e_i64 x16)), .d (.int .i64 x10)], .box [.d (.int .i64 0), .d (.int .i64 0), .d (.lit (List.map e_SPart r113))], .box [.d (.lit (List.map e_Li64 r114)), .d (.lit (List.map e_i64 r135))]] : List Blk)))) [0] _ (make_Tape_Given_goes k r113 x16 x511) rfl (by kernel_rfl) (by kernel_rfl) (by kernel_rfl) (by kernel_rfl) (by kernel_rfl) (by kernel_rfl) (by kernel_rfl) (by kernel_rfl) rfl (by kernel_rfl) Try.func15 rfl (by kernel_rfl) (ConvRs.refl _ _) (by kernel_rfl) (by kernel_rfl) (by kernel_rfl) (by decide) (by kernel_rfl) (by kernel_rfl) (fun _ => (by kernel_rfl)) (fun _ => (by kernel_rfl)) (fun _ => (by kernel_rfl)) (fun r => ?_)
  obtain ⟨r18, x10⟩ := r
  refine dUc ?_
  refine dCall (i := 5) (caps := []) (v := (uc fun (xs5 : (List Int)) => (fun (r131 : Int) => (.tuple [.ref 3 (List.length xs5) 0 (List.length xs5), .d (.int .i64 r131)] : V)))) (H' := (uc fun (xs5 : (List Int)) => (fun (r131 : Int) => ([.box [.d (.lit (List.map e_i64 x16)), .d (.int .i64 x10)], .box [.d (.int .i64 0), .d (.int .i64 0), .d (.lit (List.map e_SPart r113))], .box [.d (.lit (List.map e_Li64 r114)), .d (.lit (List.map e_i64 r135))], .sl 1 (List.map e_i64 xs5) false] : List Blk)))) [] _ (scheme_Closed_2_goes k 0 0 r113 r114 r135 r18) rfl (by kernel_rfl) (by kernel_rfl) (by kernel_rfl) (by kernel_rfl) (by kernel_rfl) (by kernel_rfl) (by kernel_rfl) (by kernel_rfl) rfl (by kernel_rfl) Try.func16 rfl (by kernel_rfl) (ConvRs.refl _ _) (by kernel_rfl) (by kernel_rfl) (by kernel_rfl) (by decide) (by kernel_rfl) (by kernel_rfl) (fun _ => (by kernel_rfl)) (fun _ => (by kernel_rfl)) (fun _ => (by kernel_rfl)) (fun r => ?_)
  obtain ⟨xs5, r131⟩ := r
  refine dUc ?_
  refine aTakeP (i := 6) (.tuple [.ref 3 (List.length xs5) 0 (List.length xs5), .d (.int .i64 r131)]) rfl (by kernel_rfl) (by kernel_rfl) (by kernel_rfl) (by kernel_rfl) (by kernel_rfl) (by kernel_rfl) (by kernel_rfl) (p_move (by kernel_rfl)) ?_
  refine aTakeP (i := 7) (.ref 3 (List.length xs5) 0 (List.length xs5)) rfl (by kernel_rfl) (by kernel_rfl) (by kernel_rfl) (by kernel_rfl) (by kernel_rfl) (by kernel_rfl) (by kernel_rfl) (k_extract (by kernel_rfl)) ?_
  refine aTakeP (i := 8) (.d (.int .i64 r131)) rfl (by kernel_rfl) (by kernel_rfl) (by kernel_rfl) (by kernel_rfl) (by kernel_rfl) (by kernel_rfl) (by kernel_rfl) (k_extract (by kernel_rfl)) ?_
  refine aTakeP (i := 9) (.ref 3 (List.length xs5) 0 (List.length xs5)) rfl (by kernel_rfl) (by kernel_rfl) (by kernel_rfl) (by kernel_rfl) (by kernel_rfl) (by kernel_rfl) (by kernel_rfl) (p_assign (by kernel_rfl)) ?_
  refine aTakeL (i := 10) (st' := []) (.d (.int .i64 r131)) rfl (by kernel_rfl) (by kernel_rfl) (by kernel_rfl) (by kernel_rfl) (by kernel_rfl) (by kernel_rfl) (by kernel_rfl) (PureV.quiet (p_assign (by kernel_rfl)) []) ?_
  refine aDone (by kernel_rfl) ?_
  refine oSeq ?_
  refine oSeq ?_
  refine oRegion rfl ?_
  refine oOp (.d (.int .i64 r131)) (by kernel_rfl) (by kernel_rfl) (PureV.does (p_move (by kernel_rfl))) ?_
  refine oOp (.d (.bool (r131 != 0))) (by kernel_rfl) (by kernel_rfl) (PureV.does (p_int (k := .i64) (p := r131) (q := 0) (by kernel_rfl) (by kernel_rfl) (by kernel_rfl))) ?_
  refine oOp (.d (.bool (r131 != 0))) (by kernel_rfl) (by kernel_rfl) (PureV.does (p_move (by kernel_rfl))) ?_
  refine bMeetF (H' := [.box [.d (.lit (List.map e_i64 x16)), .d (.int .i64 x10)], .box [.d (.int .i64 0), .d (.int .i64 0), .d (.lit (List.map e_SPart r113))], .box [.d (.lit (List.map e_Li64 r114)), .d (.lit (List.map e_i64 r135))], .sl 1 (List.map e_i64 xs5) false]) 7 rfl ((fun (x17 : Bool) => [(3, .ptr 0 0), (4, .ptr 1 0), (5, .ptr 2 0), (6, .ref 3 (List.length xs5) 0 (List.length xs5)), (38, .d (.bool x17))])) (fun x17 => ?_) (fun F hj6 => ?_)
  · refine oView (T' := [(3, .ptr 0 0), (4, .ptr 1 0), (5, .ptr 2 0), (6, .ref 3 (List.length xs5) 0 (List.length xs5)), (38, .d (.bool x17))]) (H' := [.box [.d (.lit (List.map e_i64 x16)), .d (.int .i64 x10)], .box [.d (.int .i64 0), .d (.int .i64 0), .d (.lit (List.map e_SPart r113))], .box [.d (.lit (List.map e_Li64 r114)), .d (.lit (List.map e_i64 r135))], .sl 1 (List.map e_i64 xs5) false]) (by kernel_rfl) (by kernel_rfl) ?_
    refine oEnd ?_
    refine bSplit 38 (by kernel_rfl) (fun hc => ?_) (fun hc => ?_)
    · refine oCondT (by kernel_rfl) ?_
      refine oSeq ?_
      refine oRegion rfl ?_
      refine oOp (.d (.bool false)) (by kernel_rfl) (by kernel_rfl) (PureV.does (p_assign (by kernel_rfl))) ?_
      refine oEnd ?_
      exact oRet (r0 := false) (rv := .d (.bool false)) (B := []) (vs := [.d (.bool false)]) (σ := []) (by kernel_rfl) Try.func10 rfl (.cons _ _ _ _ (.tmp 2 _ (by kernel_rfl)) .nil) (by kernel_rfl) (by kernel_rfl) (by kernel_rfl) (by kernel_rfl) (by decide) (by kernel_rfl) (by kernel_rfl)
    · refine oCondF (by kernel_rfl) ?_
      refine oSkip ?_
      refine oSeq ?_
      refine oSeq ?_
      refine oRegion rfl ?_
      refine oOp (.d (.int .i64 0)) (by kernel_rfl) (by kernel_rfl) (PureV.does (p_assign (by kernel_rfl))) ?_
      refine oEnd ?_
      refine bJoin ((fun (xs22 : (List Int)) => [(4, .ptr 0 0), (5, .ptr 1 0), (6, .ref 2 (List.length xs22) 0 (List.length xs22))])) ((fun (xs22 : (List Int)) => [.box [.d (.int .i64 0), .d (.int .i64 0), .d (.lit (List.map e_SPart r113))], .box [.d (.lit (List.map e_Li64 r114)), .d (.lit (List.map e_i64 r135))], .sl 1 (List.map e_i64 xs22) false])) Sum.inl (fun xs22 => ?_) (fun hj11 => ?_)
      · refine bInl ?_
        refine oView (T' := [(4, .ptr 0 0), (5, .ptr 1 0), (6, .ref 2 (List.length xs22) 0 (List.length xs22))]) (H' := [.box [.d (.int .i64 0), .d (.int .i64 0), .d (.lit (List.map e_SPart r113))], .box [.d (.lit (List.map e_Li64 r114)), .d (.lit (List.map e_i64 r135))], .sl 1 (List.map e_i64 xs22) false]) (by kernel_rfl) (by kernel_rfl) ?_
        refine oSeq ?_
        refine oRegion rfl ?_
        refine oOp (.agg [.d (.int .i64 0), .d (.int .i64 0), .d (.lit (List.map e_SPart r113))]) (by kernel_rfl) (by kernel_rfl) (Quiet.does (k_loadAgg 0 0 (by kernel_rfl) Try.underlying27 (by kernel_rfl) ty27 (by kernel_rfl))) ?_
        refine oOp (.agg [.d (.lit (List.map e_Li64 r114)), .d (.lit (List.map e_i64 r135))]) (by kernel_rfl) (by kernel_rfl) (Quiet.does (k_loadAgg 1 0 (by kernel_rfl) Try.underlying31 (by kernel_rfl) ty31 (by kernel_rfl))) ?_
        refine oOp (.ref 2 (List.length xs22) 0 (List.length xs22)) (by kernel_rfl) (by kernel_rfl) (PureV.does (p_move (by kernel_rfl))) ?_
        refine oFreeze 2 (esz := 1) (xs := List.map e_i64 xs22) (by kernel_rfl) ?_
        refine oView (H' := [.box [.d (.int .i64 0), .d (.int .i64 0), .d (.lit (List.map e_SPart r113))], .box [.d (.lit (List.map e_Li64 r114)), .d (.lit (List.map e_i64 r135))], .sl 1 (List.map e_i64 xs22) true]) rfl (by kernel_rfl) ?_
        refine bCall (caps := []) (v := (uc fun (r136 : Int) => (fun (r142 : Int) => (.tuple [.d (.int .i64 r136), .d (.int .i64 r142)] : V)))) (H' := (uc fun (r136 : Int) => (fun (r142 : Int) => ([.box [.d (.int .i64 0), .d (.int .i64 0), .d (.lit (List.map e_SPart r113))], .box [.d (.lit (List.map e_Li64 r114)), .d (.lit (List.map e_i64 r135))], .sl 1 (List.map e_i64 xs22) true] : List Blk)))) [] _ (scheme_Total_goes k 0 0 r113 r114 r135 xs22) (by kernel_rfl) (by kernel_rfl) rfl (by kernel_rfl) Try.func21 rfl (by kernel_rfl) (convList (vs0 := [.agg [.d (.int .i64 0), .d (.int .i64 0), .d (.lit (List.map e_SPart r113))], .agg [.d (.lit (List.map e_Li64 r114)), .d (.lit (List.map e_i64 r135))], .ref 2 (List.length xs22) 0 (List.length xs22)]) (vs := [.agg [.d (.int .i64 0), .d (.int .i64 0), .d (.lit (List.map e_SPart r113))], .agg [.d (.lit (List.map e_Li64 r114)), .d (.lit (List.map e_i64 r135))], .d (.lit (List.map e_i64 xs22))]) (by kernel_rfl) (.cons _ _ _ _ (.same _) (.cons _ _ _ _ (.same _) (.cons _ _ _ _ (k_lit (enc := e_i64) (sz := 1) 2 xs22 (by kernel_rfl)) .nil)))) (by kernel_rfl) (by kernel_rfl) (by kernel_rfl) (by decide) (by kernel_rfl) (by kernel_rfl) (fun _ => (by kernel_rfl)) (fun _ => (by kernel_rfl)) (fun _ => (by kernel_rfl)) (fun r => ?_)
        obtain ⟨r136, r142⟩ := r
        refine bUc ?_
        refine oOp (.tuple [.d (.int .i64 r136), .d (.int .i64 r142)]) (by kernel_rfl) (by kernel_rfl) (PureV.does (p_move (by kernel_rfl))) ?_
        refine oOp (.d (.int .i64 r136)) (by kernel_rfl) (by kernel_rfl) (PureV.does (k_extract (by kernel_rfl))) ?_
        refine oOp (.d (.int .i64 r142)) (by kernel_rfl) (by kernel_rfl) (PureV.does (k_extract (by kernel_rfl))) ?_
        refine oOp (.d (.int .i64 r136)) (by kernel_rfl) (by kernel_rfl) (PureV.does (p_assign (by kernel_rfl))) ?_
        refine oOp (.d (.int .i64 r142)) (by kernel_rfl) (by kernel_rfl) (PureV.does (p_assign (by kernel_rfl))) ?_
        refine oEnd ?_
        refine oSeq ?_
        refine oRegion rfl ?_
        refine oOp (.agg [.d (.int .i64 0), .d (.int .i64 0), .d (.lit (List.map e_SPart r113))]) (by kernel_rfl) (by kernel_rfl) (Quiet.does (k_loadAgg 0 0 (by kernel_rfl) Try.underlying27 (by kernel_rfl) ty27 (by kernel_rfl))) ?_
        refine oOp (.agg [.d (.lit (List.map e_Li64 r114)), .d (.lit (List.map e_i64 r135))]) (by kernel_rfl) (by kernel_rfl) (Quiet.does (k_loadAgg 1 0 (by kernel_rfl) Try.underlying31 (by kernel_rfl) ty31 (by kernel_rfl))) ?_
        refine bCall (caps := []) (v := (uc fun (r116 : Int) => (fun (r137 : Int) => (.tuple [.d (.int .i64 r116), .d (.int .i64 r137)] : V)))) (H' := (uc fun (r116 : Int) => (fun (r137 : Int) => ([.box [.d (.int .i64 0), .d (.int .i64 0), .d (.lit (List.map e_SPart r113))], .box [.d (.lit (List.map e_Li64 r114)), .d (.lit (List.map e_i64 r135))], .sl 1 (List.map e_i64 xs22) true] : List Blk)))) [] _ (scheme_Maximum_goes k 0 0 r113 r114 r135) (by kernel_rfl) (by kernel_rfl) rfl (by kernel_rfl) Try.func23 rfl (by kernel_rfl) (ConvRs.refl _ _) (by kernel_rfl) (by kernel_rfl) (by kernel_rfl) (by decide) (by kernel_rfl) (by kernel_rfl) (fun _ => (by kernel_rfl)) (fun _ => (by kernel_rfl)) (fun _ => (by kernel_rfl)) (fun r => ?_)
        obtain ⟨r116, r137⟩ := r
        refine bUc ?_
        refine oOp (.tuple [.d (.int .i64 r116), .d (.int .i64 r137)]) (by kernel_rfl) (by kernel_rfl) (PureV.does (p_move (by kernel_rfl))) ?_
        refine oOp (.d (.int .i64 r116)) (by kernel_rfl) (by kernel_rfl) (PureV.does (k_extract (by kernel_rfl))) ?_
        refine oOp (.d (.int .i64 r137)) (by kernel_rfl) (by kernel_rfl) (PureV.does (k_extract (by kernel_rfl))) ?_
        refine oOp (.d (.int .i64 r116)) (by kernel_rfl) (by kernel_rfl) (PureV.does (p_assign (by kernel_rfl))) ?_
        refine oOp (.d (.int .i64 r137)) (by kernel_rfl) (by kernel_rfl) (PureV.does (p_assign (by kernel_rfl))) ?_
        refine oEnd ?_
        refine oSeq ?_
        refine oRegion rfl ?_
        refine oOp (.agg [.d (.int .i64 0), .d (.int .i64 0), .d (.lit (List.map e_SPart r113))]) (by kernel_rfl) (by kernel_rfl) (Quiet.does (k_loadAgg 0 0 (by kernel_rfl) Try.underlying27 (by kernel_rfl) ty27 (by kernel_rfl))) ?_
        refine oOp (.agg [.d (.lit (List.map e_Li64 r114)), .d (.lit (List.map e_i64 r135))]) (by kernel_rfl) (by kernel_rfl) (Quiet.does (k_loadAgg 1 0 (by kernel_rfl) Try.underlying31 (by kernel_rfl) ty31 (by kernel_rfl))) ?_
        refine oOp (.ref 2 (List.length xs22) 0 (List.length xs22)) (by kernel_rfl) (by kernel_rfl) (PureV.does (p_move (by kernel_rfl))) ?_
        refine bCall (caps := []) (v := (fun (r123 : Bool) => (.d (.bool r123) : V))) (H' := (fun (r123 : Bool) => ([.box [.d (.int .i64 0), .d (.int .i64 0), .d (.lit (List.map e_SPart r113))], .box [.d (.lit (List.map e_Li64 r114)), .d (.lit (List.map e_i64 r135))], .sl 1 (List.map e_i64 xs22) true] : List Blk))) [] _ (scheme_Marked_goes k 0 0 r113 r114 r135 xs22) (by kernel_rfl) (by kernel_rfl) rfl (by kernel_rfl) Try.func36 rfl (by kernel_rfl) (convList (vs0 := [.agg [.d (.int .i64 0), .d (.int .i64 0), .d (.lit (List.map e_SPart r113))], .agg [.d (.lit (List.map e_Li64 r114)), .d (.lit (List.map e_i64 r135))], .ref 2 (List.length xs22) 0 (List.length xs22)]) (vs := [.agg [.d (.int .i64 0), .d (.int .i64 0), .d (.lit (List.map e_SPart r113))], .agg [.d (.lit (List.map e_Li64 r114)), .d (.lit (List.map e_i64 r135))], .d (.lit (List.map e_i64 xs22))]) (by kernel_rfl) (.cons _ _ _ _ (.same _) (.cons _ _ _ _ (.same _) (.cons _ _ _ _ (k_lit (enc := e_i64) (sz := 1) 2 xs22 (by kernel_rfl)) .nil)))) (by kernel_rfl) (by kernel_rfl) (by kernel_rfl) (by decide) (by kernel_rfl) (by kernel_rfl) (fun _ => (by kernel_rfl)) (fun _ => (by kernel_rfl)) (fun _ => (by kernel_rfl)) (fun r123 => ?_)
        refine oOp (.d (.bool r123)) (by kernel_rfl) (by kernel_rfl) (PureV.does (p_move (by kernel_rfl))) ?_
        refine bMeetF (H' := []) 3 rfl ((fun (x31 : Bool) => [(9, .d (.int .i64 r136)), (11, .d (.int .i64 r116)), (12, .d (.int .i64 r137)), (90, .d (.bool x31))])) (fun x31 => ?_) (fun F hj12 => ?_)
        · refine oView (T' := [(9, .d (.int .i64 r136)), (11, .d (.int .i64 r116)), (12, .d (.int .i64 r137)), (90, .d (.bool x31))]) (H' := []) (by kernel_rfl) (by kernel_rfl) ?_
          refine oOp (.d (.bool x31)) (by kernel_rfl) (by kernel_rfl) (PureV.does (p_move (by kernel_rfl))) ?_
          refine bMeetF (H' := []) 3 rfl ((fun (x32 : Bool) => [(9, .d (.int .i64 r136)), (11, .d (.int .i64 r116)), (94, .d (.bool x32))])) (fun x32 => ?_) (fun F hj13 => ?_)
          · refine oView (T' := [(9, .d (.int .i64 r136)), (11, .d (.int .i64 r116)), (94, .d (.bool x32))]) (H' := []) (by kernel_rfl) (by kernel_rfl) ?_
            refine oOp (.d (.bool x32)) (by kernel_rfl) (by kernel_rfl) (PureV.does (p_move (by kernel_rfl))) ?_
            refine bMeetF (H' := []) 3 rfl ((fun (x33 : Bool) => [(9, .d (.int .i64 r136)), (11, .d (.int .i64 r116)), (98, .d (.bool x33))])) (fun x33 => ?_) (fun F hj14 => ?_)
            · refine oView (T' := [(9, .d (.int .i64 r136)), (11, .d (.int .i64 r116)), (98, .d (.bool x33))]) (H' := []) (by kernel_rfl) (by kernel_rfl) ?_
              refine oOp (.d (.bool x33)) (by kernel_rfl) (by kernel_rfl) (PureV.does (p_move (by kernel_rfl))) ?_
              refine bMeetF (H' := []) 4 rfl ((fun (x34 : Bool) => [(103, .d (.bool x34))])) (fun x34 => ?_) (fun F hj15 => ?_)
              · refine oView (T' := [(103, .d (.bool x34))]) (H' := []) (by kernel_rfl) (by kernel_rfl) ?_
                refine oOp (.d (.bool x34)) (by kernel_rfl) (by kernel_rfl) (PureV.does (p_move (by kernel_rfl))) ?_
                refine bMeet 2 rfl ((fun (x35 : Bool) => [(106, .d (.bool x35))])) ((fun (x35 : Bool) => [])) (fun s => s) (fun x35 => ?_) (fun hj16 => ?_)
                · refine oView (T' := [(106, .d (.bool x35))]) (H' := []) (by kernel_rfl) (by kernel_rfl) ?_
                  refine oOp (.d (.bool x35)) (by kernel_rfl) (by kernel_rfl) (PureV.does (p_assign (by kernel_rfl))) ?_
                  refine oEnd ?_
                  exact oRet (r0 := x35) (rv := .d (.bool x35)) (B := []) (vs := [.d (.bool x35)]) (σ := []) (by kernel_rfl) Try.func10 rfl (.cons _ _ _ _ (.tmp 2 _ (by kernel_rfl)) .nil) (by kernel_rfl) (by kernel_rfl) (by kernel_rfl) (by kernel_rfl) (by decide) (by kernel_rfl) (by kernel_rfl)
                · refine bSplit 104 (by kernel_rfl) (fun hc => ?_) (fun hc => ?_)
                  · refine bCall (caps := []) (v := (fun (r125 : Bool) => (.d (.bool r125) : V))) (H' := (fun (r125 : Bool) => ([] : List Blk))) [] _ (law23_awake_goes k ) (by kernel_rfl) (by kernel_rfl) rfl (by kernel_rfl) Try.func19 rfl (by kernel_rfl) (ConvRs.refl _ _) (by kernel_rfl) (by kernel_rfl) (by kernel_rfl) (by decide) (by kernel_rfl) (by kernel_rfl) (fun _ => (by kernel_rfl)) (fun _ => (by kernel_rfl)) (fun _ => (by kernel_rfl)) (fun r125 => ?_)
                    refine oOp (.d (.bool r125)) (by kernel_rfl) (by kernel_rfl) (PureV.does (p_pick (b := true) (by kernel_rfl) (by kernel_rfl))) ?_
                    refine oHead [106] [] (T' := [(106, .d (.bool r125))]) (H' := []) (by kernel_rfl) (by kernel_rfl) (by kernel_rfl) (by kernel_rfl) (by decide) (by kernel_rfl) (by kernel_rfl) ?_
                    exact hj16 r125
                  · refine oNot (by kernel_rfl) (by kernel_rfl) ?_
                    refine oOp (.d (.bool false)) (by kernel_rfl) (by kernel_rfl) (PureV.does (p_pick (b := false) (by kernel_rfl) (by kernel_rfl))) ?_
                    refine oHead [106] [] (T' := [(106, .d (.bool false))]) (H' := []) (by kernel_rfl) (by kernel_rfl) (by kernel_rfl) (by kernel_rfl) (by decide) (by kernel_rfl) (by kernel_rfl) ?_
                    exact hj16 false
              · refine bPickF 99 (fun c => F (c && (decide (r136 ≤ r116)))) (by kernel_rfl) (fun hc => ?_) (fun hc => ?_)
                · refine oOp (.d (.int .i64 r136)) (by kernel_rfl) (by kernel_rfl) (PureV.does (p_move (by kernel_rfl))) ?_
                  refine oOp (.d (.int .i64 r116)) (by kernel_rfl) (by kernel_rfl) (PureV.does (p_move (by kernel_rfl))) ?_
                  refine oOp (.d (.bool (decide (r136 ≤ r116)))) (by kernel_rfl) (by kernel_rfl) (PureV.does (p_int (k := .i64) (p := r136) (q := r116) (by kernel_rfl) (by kernel_rfl) (by kernel_rfl))) ?_
                  refine oOp (.d (.bool (decide (r136 ≤ r116)))) (by kernel_rfl) (by kernel_rfl) (PureV.does (p_pick (b := true) (by kernel_rfl) (by kernel_rfl))) ?_
                  refine oHead [103] [] (T' := [(103, .d (.bool (decide (r136 ≤ r116))))]) (H' := []) (by kernel_rfl) (by kernel_rfl) (by kernel_rfl) (by kernel_rfl) (by decide) (by kernel_rfl) (by kernel_rfl) ?_
                  exact hj15 (decide (r136 ≤ r116))
                · refine oNot (by kernel_rfl) (by kernel_rfl) ?_
                  refine oNot (by kernel_rfl) (by kernel_rfl) ?_
                  refine oNot (by kernel_rfl) (by kernel_rfl) ?_
                  refine oOp (.d (.bool false)) (by kernel_rfl) (by kernel_rfl) (PureV.does (p_pick (b := false) (by kernel_rfl) (by kernel_rfl))) ?_
                  refine oHead [103] [] (T' := [(103, .d (.bool false))]) (H' := []) (by kernel_rfl) (by kernel_rfl) (by kernel_rfl) (by kernel_rfl) (by decide) (by kernel_rfl) (by kernel_rfl) ?_
                  exact hj15 false
            · refine bPickF 95 (fun c => F (c && (decide (r136 ≥ 0)))) (by kernel_rfl) (fun hc => ?_) (fun hc => ?_)
              · refine oOp (.d (.int .i64 r136)) (by kernel_rfl) (by kernel_rfl) (PureV.does (p_move (by kernel_rfl))) ?_
                refine oOp (.d (.bool (decide (r136 ≥ 0)))) (by kernel_rfl) (by kernel_rfl) (PureV.does (p_int (k := .i64) (p := r136) (q := 0) (by kernel_rfl) (by kernel_rfl) (by kernel_rfl))) ?_
                refine oOp (.d (.bool (decide (r136 ≥ 0)))) (by kernel_rfl) (by kernel_rfl) (PureV.does (p_pick (b := true) (by kernel_rfl) (by kernel_rfl))) ?_
                refine oHead [9, 11, 98] [] (T' := [(9, .d (.int .i64 r136)), (11, .d (.int .i64 r116)), (98, .d (.bool (decide (r136 ≥ 0))))]) (H' := []) (by kernel_rfl) (by kernel_rfl) (by kernel_rfl) (by kernel_rfl) (by decide) (by kernel_rfl) (by kernel_rfl) ?_
                exact hj14 (decide (r136 ≥ 0))
              · refine oNot (by kernel_rfl) (by kernel_rfl) ?_
                refine oNot (by kernel_rfl) (by kernel_rfl) ?_
                refine oOp (.d (.bool false)) (by kernel_rfl) (by kernel_rfl) (PureV.does (p_pick (b := false) (by kernel_rfl) (by kernel_rfl))) ?_
                refine oHead [9, 11, 98] [] (T' := [(9, .d (.int .i64 r136)), (11, .d (.int .i64 r116)), (98, .d (.bool false))]) (H' := []) (by kernel_rfl) (by kernel_rfl) (by kernel_rfl) (by kernel_rfl) (by decide) (by kernel_rfl) (by kernel_rfl) ?_
                exact hj14 false
          · refine bPickF 91 (fun c => F (c && (r137 == 0))) (by kernel_rfl) (fun hc => ?_) (fun hc => ?_)
            · refine oOp (.d (.int .i64 r137)) (by kernel_rfl) (by kernel_rfl) (PureV.does (p_move (by kernel_rfl))) ?_
              refine oOp (.d (.bool (r137 == 0))) (by kernel_rfl) (by kernel_rfl) (PureV.does (p_int (k := .i64) (p := r137) (q := 0) (by kernel_rfl) (by kernel_rfl) (by kernel_rfl))) ?_
              refine oOp (.d (.bool (r137 == 0))) (by kernel_rfl) (by kernel_rfl) (PureV.does (p_pick (b := true) (by kernel_rfl) (by kernel_rfl))) ?_
              refine oHead [9, 11, 94] [] (T' := [(9, .d (.int .i64 r136)), (11, .d (.int .i64 r116)), (94, .d (.bool (r137 == 0)))]) (H' := []) (by kernel_rfl) (by kernel_rfl) (by kernel_rfl) (by kernel_rfl) (by decide) (by kernel_rfl) (by kernel_rfl) ?_
              exact hj13 (r137 == 0)
            · refine oNot (by kernel_rfl) (by kernel_rfl) ?_
              refine oNot (by kernel_rfl) (by kernel_rfl) ?_
              refine oOp (.d (.bool false)) (by kernel_rfl) (by kernel_rfl) (PureV.does (p_pick (b := false) (by kernel_rfl) (by kernel_rfl))) ?_
              refine oHead [9, 11, 94] [] (T' := [(9, .d (.int .i64 r136)), (11, .d (.int .i64 r116)), (94, .d (.bool false))]) (H' := []) (by kernel_rfl) (by kernel_rfl) (by kernel_rfl) (by kernel_rfl) (by decide) (by kernel_rfl) (by kernel_rfl) ?_
              exact hj13 false
        · refine bPickF 87 (fun c => F (c && (r142 == 0))) (by kernel_rfl) (fun hc => ?_) (fun hc => ?_)
          · refine oOp (.d (.int .i64 r142)) (by kernel_rfl) (by kernel_rfl) (PureV.does (p_move (by kernel_rfl))) ?_
            refine oOp (.d (.bool (r142 == 0))) (by kernel_rfl) (by kernel_rfl) (PureV.does (p_int (k := .i64) (p := r142) (q := 0) (by kernel_rfl) (by kernel_rfl) (by kernel_rfl))) ?_
            refine oOp (.d (.bool (r142 == 0))) (by kernel_rfl) (by kernel_rfl) (PureV.does (p_pick (b := true) (by kernel_rfl) (by kernel_rfl))) ?_
            refine oHead [9, 11, 12, 90] [] (T' := [(9, .d (.int .i64 r136)), (11, .d (.int .i64 r116)), (12, .d (.int .i64 r137)), (90, .d (.bool (r142 == 0)))]) (H' := []) (by kernel_rfl) (by kernel_rfl) (by kernel_rfl) (by kernel_rfl) (by decide) (by kernel_rfl) (by kernel_rfl) ?_
            exact hj12 (r142 == 0)
          · refine oNot (by kernel_rfl) (by kernel_rfl) ?_
            refine oNot (by kernel_rfl) (by kernel_rfl) ?_
            refine oOp (.d (.bool false)) (by kernel_rfl) (by kernel_rfl) (PureV.does (p_pick (b := false) (by kernel_rfl) (by kernel_rfl))) ?_
            refine oHead [9, 11, 12, 90] [] (T' := [(9, .d (.int .i64 r136)), (11, .d (.int .i64 r116)), (12, .d (.int .i64 r137)), (90, .d (.bool false))]) (H' := []) (by kernel_rfl) (by kernel_rfl) (by kernel_rfl) (by kernel_rfl) (by decide) (by kernel_rfl) (by kernel_rfl) ?_
            exact hj12 false
      · refine oBlock ?_
        refine oLoop ?_
        refine oHead [3, 4, 5, 6, 8] [0, 1, 2, 3] (T' := [(3, .ptr 0 0), (4, .ptr 1 0), (5, .ptr 2 0), (6, .ref 3 (List.length xs5) 0 (List.length xs5)), (8, .d (.int .i64 0))]) (H' := [.box [.d (.lit (List.map e_i64 x16)), .d (.int .i64 x10)], .box [.d (.int .i64 0), .d (.int .i64 0), .d (.lit (List.map e_SPart r113))], .box [.d (.lit (List.map e_Li64 r114)), .d (.lit (List.map e_i64 r135))], .sl 1 (List.map e_i64 xs5) false]) (by kernel_rfl) (by kernel_rfl) (by kernel_rfl) (by kernel_rfl) (by decide) (by kernel_rfl) (by kernel_rfl) ?_
        refine bLoop (body := law23_SchemeBounds_b1 k x16 r113 r114 r135) ((uc fun (i4 : Int) => (uc fun (x38 : Int) => (fun (xs27 : (List Int)) => [(3, .ptr 0 0), (4, .ptr 1 0), (5, .ptr 2 0), (6, .ref 3 (List.length xs27) 0 (List.length xs27)), (8, .d (.int .i64 i4))])))) ((uc fun (i4 : Int) => (uc fun (x38 : Int) => (fun (xs27 : (List Int)) => [.box [.d (.lit (List.map e_i64 x16)), .d (.int .i64 x38)], .box [.d (.int .i64 0), .d (.int .i64 0), .d (.lit (List.map e_SPart r113))], .box [.d (.lit (List.map e_Li64 r114)), .d (.lit (List.map e_i64 r135))], .sl 1 (List.map e_i64 xs27) false])))) (fun again hag1 s => ?_) k (0, x10, xs5)
        · unfold law23_SchemeBounds_b1
          obtain ⟨i4, x38, xs27⟩ := s
          refine bUc ?_
          refine bUc ?_
          refine oView (T' := [(3, .ptr 0 0), (4, .ptr 1 0), (5, .ptr 2 0), (6, .ref 3 (List.length xs27) 0 (List.length xs27)), (8, .d (.int .i64 i4))]) (H' := [.box [.d (.lit (List.map e_i64 x16)), .d (.int .i64 x38)], .box [.d (.int .i64 0), .d (.int .i64 0), .d (.lit (List.map e_SPart r113))], .box [.d (.lit (List.map e_Li64 r114)), .d (.lit (List.map e_i64 r135))], .sl 1 (List.map e_i64 xs27) false]) (by kernel_rfl) (by kernel_rfl) ?_
          refine oSeq ?_
          refine oSeq ?_
          refine oRegion rfl ?_
          refine oOp (.d (.int .i64 i4)) (by kernel_rfl) (by kernel_rfl) (PureV.does (p_move (by kernel_rfl))) ?_
          refine oOp (.ref 3 (List.length xs27) 0 (List.length xs27)) (by kernel_rfl) (by kernel_rfl) (PureV.does (p_move (by kernel_rfl))) ?_
          refine oOp (.d (.int .i64 ((List.length xs27) : Int))) (by kernel_rfl) (by kernel_rfl) (PureV.does (k_lenRef (enc := e_i64) (sz := 1) (fro := false) 3 xs27 (by kernel_rfl) (by kernel_rfl) Try.underlying22)) ?_
          refine oOp (.d (.bool (decide (i4 < ((List.length xs27) : Int))))) (by kernel_rfl) (by kernel_rfl) (PureV.does (p_int (k := .i64) (p := i4) (q := ((List.length xs27) : Int)) (by kernel_rfl) (by kernel_rfl) (by kernel_rfl))) ?_
          refine oEnd ?_
          refine bSplit 42 (by kernel_rfl) (fun hc => ?_) (fun hc => ?_)
          · refine oCondT (by kernel_rfl) ?_
            refine oSkip ?_
            refine oSeq ?_
            refine oBlock ?_
            refine oSeq ?_
            refine oSeq ?_
            refine oRegion rfl ?_
            refine oOp (.ref 3 (List.length xs27) 0 (List.length xs27)) (by kernel_rfl) (by kernel_rfl) (PureV.does (p_move (by kernel_rfl))) ?_
            refine oOp (.d (.int .i64 i4)) (by kernel_rfl) (by kernel_rfl) (PureV.does (p_move (by kernel_rfl))) ?_
            refine bIdx (fun e127 h154 h155 => ?_)
            refine oOp (.eptr 3 (List.length xs27) (Int.toNat i4) 0) (by kernel_rfl) (by kernel_rfl) (PureV.does (k_idxRef (enc := e_i64) (fro := false) xs27 (a := e127) (by kernel_rfl) (k := .i64) (i := i4) (by kernel_rfl) (by kernel_rfl) Try.underlying22 ty3 h154 h155)) ?_
            refine oOp (.d (.int .i64 e127)) (by kernel_rfl) (by kernel_rfl) (Quiet.does (k_loadE (enc := e_i64) (sz := 1) (fro := false) 3 0 xs27 (by kernel_rfl) (by kernel_rfl) Try.underlying3 (by kernel_rfl) h155 (by kernel_rfl))) ?_
            refine oOp (.d (.bool (e127 == (-2)))) (by kernel_rfl) (by kernel_rfl) (PureV.does (p_int (k := .i64) (p := e127) (q := (-2)) (by kernel_rfl) (by kernel_rfl) (by kernel_rfl))) ?_
            refine oEnd ?_
            refine bJoin ((uc fun (x43 : Int) => (fun (xs36 : (List Int)) => [(3, .ptr 0 0), (4, .ptr 1 0), (5, .ptr 2 0), (6, .ref 3 (List.length xs36) 0 (List.length xs36)), (8, .d (.int .i64 i4))]))) ((uc fun (x43 : Int) => (fun (xs36 : (List Int)) => [.box [.d (.lit (List.map e_i64 x16)), .d (.int .i64 x43)], .box [.d (.int .i64 0), .d (.int .i64 0), .d (.lit (List.map e_SPart r113))], .box [.d (.lit (List.map e_Li64 r114)), .d (.lit (List.map e_i64 r135))], .sl 1 (List.map e_i64 xs36) false]))) (fun s => s) (fun s => ?_) (fun hj22 => ?_)
            · obtain ⟨x43, xs36⟩ := s
              refine bUc ?_
              refine oView (T' := [(3, .ptr 0 0), (4, .ptr 1 0), (5, .ptr 2 0), (6, .ref 3 (List.length xs36) 0 (List.length xs36)), (8, .d (.int .i64 i4))]) (H' := [.box [.d (.lit (List.map e_i64 x16)), .d (.int .i64 x43)], .box [.d (.int .i64 0), .d (.int .i64 0), .d (.lit (List.map e_SPart r113))], .box [.d (.lit (List.map e_Li64 r114)), .d (.lit (List.map e_i64 r135))], .sl 1 (List.map e_i64 xs36) false]) (by kernel_rfl) (by kernel_rfl) ?_
              refine oSeq ?_
              refine oDraw [(0, 9), (1, 9), (2, 9), (3, 9)] rfl ?_
              refine aTakeL (i := 0) (st' := [1]) (.agg [.d (.int .i64 0), .d (.int .i64 0), .d (.lit (List.map e_SPart r113))]) rfl (by kernel_rfl) (by kernel_rfl) (by kernel_rfl) (by kernel_rfl) (by kernel_rfl) (by kernel_rfl) (by kernel_rfl) (k_loadAgg 1 0 (by kernel_rfl) Try.underlying27 (by kernel_rfl) ty27 (by kernel_rfl)) ?_
              refine aTakeL (i := 1) (st' := [2]) (.agg [.d (.lit (List.map e_Li64 r114)), .d (.lit (List.map e_i64 r135))]) rfl (by kernel_rfl) (by kernel_rfl) (by kernel_rfl) (by kernel_rfl) (by kernel_rfl) (by kernel_rfl) (by kernel_rfl) (k_loadAgg 2 0 (by kernel_rfl) Try.underlying31 (by kernel_rfl) ty31 (by kernel_rfl)) ?_
              refine aTakeL (i := 2) (st' := []) (.d (.int .i64 i4)) rfl (by kernel_rfl) (by kernel_rfl) (by kernel_rfl) (by kernel_rfl) (by kernel_rfl) (by kernel_rfl) (by kernel_rfl) (PureV.quiet (p_move (by kernel_rfl)) []) ?_
              refine aTakeL (i := 3) (st' := []) (.ref 3 (List.length xs36) 0 (List.length xs36)) rfl (by kernel_rfl) (by kernel_rfl) (by kernel_rfl) (by kernel_rfl) (by kernel_rfl) (by kernel_rfl) (by kernel_rfl) (PureV.quiet (p_move (by kernel_rfl)) []) ?_
              refine aTakeL (i := 4) (st' := []) (.d (.int .i64 i4)) rfl (by kernel_rfl) (by kernel_rfl) (by kernel_rfl) (by kernel_rfl) (by kernel_rfl) (by kernel_rfl) (by kernel_rfl) (PureV.quiet (p_move (by kernel_rfl)) []) ?_
              refine dIdx (fun e12 h14 h15 => ?_)
              refine aTakeL (i := 5) (st' := []) (.eptr 3 (List.length xs36) (Int.toNat i4) 0) rfl (by kernel_rfl) (by kernel_rfl) (by kernel_rfl) (by kernel_rfl) (by kernel_rfl) (by kernel_rfl) (by kernel_rfl) (PureV.quiet (k_idxRef (enc := e_i64) (fro := false) xs36 (a := e12) (by kernel_rfl) (k := .i64) (i := i4) (by kernel_rfl) (by kernel_rfl) Try.underlying22 ty3 h14 h15) []) ?_
              refine aTakeL (i := 6) (st' := [3]) (.d (.int .i64 e12)) rfl (by kernel_rfl) (by kernel_rfl) (by kernel_rfl) (by kernel_rfl) (by kernel_rfl) (by kernel_rfl) (by kernel_rfl) (k_loadE (enc := e_i64) (sz := 1) (fro := false) 3 0 xs36 (by kernel_rfl) (by kernel_rfl) Try.underlying3 (by kernel_rfl) h15 (by kernel_rfl)) ?_
              refine dCall (i := 7) (caps := []) (v := (fun (r132 : Bool) => (.d (.bool r132) : V))) (H' := (fun (r132 : Bool) => ([.box [.d (.lit (List.map e_i64 x16)), .d (.int .i64 x43)], .box [.d (.int .i64 0), .d (.int .i64 0), .d (.lit (List.map e_SPart r113))], .box [.d (.lit (List.map e_Li64 r114)), .d (.lit (List.map e_i64 r135))], .sl 1 (List.map e_i64 xs36) false] : List Blk))) [] _ (scheme_Permitted_goes k 0 0 r113 r114 r135 i4 e12) rfl (by kernel_rfl) (by kernel_rfl) (by kernel_rfl) (by kernel_rfl) (by kernel_rfl) (by kernel_rfl) (by kernel_rfl) (by kernel_rfl) rfl (by kernel_rfl) Try.func34 rfl (by kernel_rfl) (ConvRs.refl _ _) (by kernel_rfl) (by kernel_rfl) (by kernel_rfl) (by decide) (by kernel_rfl) (by kernel_rfl) (fun _ => (by kernel_rfl)) (fun _ => (by kernel_rfl)) (fun _ => (by kernel_rfl)) (fun r132 => ?_)
              refine aTakeL (i := 8) (st' := []) (.d (.bool (!r132))) rfl (by kernel_rfl) (by kernel_rfl) (by kernel_rfl) (by kernel_rfl) (by kernel_rfl) (by kernel_rfl) (by kernel_rfl) (PureV.quiet (p_not (p := r132) (by kernel_rfl) (by kernel_rfl)) []) ?_
              refine aDone (by kernel_rfl) ?_
              refine bSplit 69 (by kernel_rfl) (fun hc => ?_) (fun hc => ?_)
              · refine oCondT (by kernel_rfl) ?_
                refine oSeq ?_
                refine oRegion rfl ?_
                refine oOp (.d (.bool false)) (by kernel_rfl) (by kernel_rfl) (PureV.does (p_assign (by kernel_rfl))) ?_
                refine oEnd ?_
                exact oRet (r0 := false) (rv := .d (.bool false)) (B := []) (vs := [.d (.bool false)]) (σ := []) (by kernel_rfl) Try.func10 rfl (.cons _ _ _ _ (.tmp 2 _ (by kernel_rfl)) .nil) (by kernel_rfl) (by kernel_rfl) (by kernel_rfl) (by kernel_rfl) (by decide) (by kernel_rfl) (by kernel_rfl)
              · refine oCondF (by kernel_rfl) ?_
                refine oSkip ?_
                refine oBlk ?_
                refine oRegion rfl ?_
                refine oOp (.d (.int .i64 i4)) (by kernel_rfl) (by kernel_rfl) (PureV.does (p_move (by kernel_rfl))) ?_
                refine oOp (.d (.int .i64 (IntKind.wrap .i64 (i4 + 1)))) (by kernel_rfl) (by kernel_rfl) (PureV.does (p_int (k := .i64) (p := i4) (q := 1) (by kernel_rfl) (by kernel_rfl) (by kernel_rfl))) ?_
                refine oOp (.d (.int .i64 (IntKind.wrap .i64 (i4 + 1)))) (by kernel_rfl) (by kernel_rfl) (PureV.does (p_assign (by kernel_rfl))) ?_
                refine oEnd ?_
                refine oAgain ?_
                refine oHead [3, 4, 5, 6, 8] [0, 1, 2, 3] (T' := [(3, .ptr 0 0), (4, .ptr 1 0), (5, .ptr 2 0), (6, .ref 3 (List.length xs36) 0 (List.length xs36)), (8, .d (.int .i64 (IntKind.wrap .i64 (i4 + 1))))]) (H' := [.box [.d (.lit (List.map e_i64 x16)), .d (.int .i64 x43)], .box [.d (.int .i64 0), .d (.int .i64 0), .d (.lit (List.map e_SPart r113))], .box [.d (.lit (List.map e_Li64 r114)), .d (.lit (List.map e_i64 r135))], .sl 1 (List.map e_i64 xs36) false]) (by kernel_rfl) (by kernel_rfl) (by kernel_rfl) (by kernel_rfl) (by decide) (by kernel_rfl) (by kernel_rfl) ?_
                exact hag1 ((IntKind.wrap .i64 (i4 + 1)), x43, xs36)
            · refine bSplit 49 (by kernel_rfl) (fun hc => ?_) (fun hc => ?_)
              · refine oCondT (by kernel_rfl) ?_
                refine oRegion rfl ?_
                refine oOp (.ref 3 (List.length xs27) 0 (List.length xs27)) (by kernel_rfl) (by kernel_rfl) (PureV.does (p_move (by kernel_rfl))) ?_
                refine oOp (.d (.int .i64 i4)) (by kernel_rfl) (by kernel_rfl) (PureV.does (p_move (by kernel_rfl))) ?_
                refine oOp (.ptr 0 0) (by kernel_rfl) (by kernel_rfl) (PureV.does (p_move (by kernel_rfl))) ?_
                refine oOp (.ptr 1 2) (by kernel_rfl) (by kernel_rfl) (PureV.does (k_fieldAddr 1 0 (by kernel_rfl) Try.underlying27 rfl ty25 (by kernel_rfl))) ?_
                refine oOp (.d (.lit (List.map e_SPart r113))) (by kernel_rfl) (by kernel_rfl) (Quiet.does (k_load 1 2 (by kernel_rfl) Try.underlying25 (by kernel_rfl) (by kernel_rfl))) ?_
                refine oOp (.d (.int .i64 i4)) (by kernel_rfl) (by kernel_rfl) (PureV.does (p_move (by kernel_rfl))) ?_
                refine bIdx (fun e129 h158 h159 => ?_)
                refine oOp (.lptr (e_SPart e129) 0) (by kernel_rfl) (by kernel_rfl) (PureV.does (k_idxLit e_SPart_len r113 (a := e129) (by kernel_rfl) (k := .i64) (i := i4) (by kernel_rfl) Try.underlying25 ty49 h158 h159)) ?_
                refine oOp (.lptr (e_SPart e129) 1) (by kernel_rfl) (by kernel_rfl) (PureV.does (k_fieldAddrL (cells := e_SPart e129) 0 (by kernel_rfl) Try.underlying49 rfl ty3 (by kernel_rfl))) ?_
                refine oOp (.d (.int .i64 e129.Max)) (by kernel_rfl) (by kernel_rfl) (Quiet.does (k_loadL (cells := e_SPart e129) 1 (by kernel_rfl) Try.underlying3 (by kernel_rfl) (by kernel_rfl))) ?_
                refine bCall (caps := []) (v := (uc fun (r128 : Int) => (fun (x216 : Int) => (.d (.int .i64 r128) : V)))) (H' := (uc fun (r128 : Int) => (fun (x216 : Int) => ([.box [.d (.lit (List.map e_i64 x16)), .d (.int .i64 x216)], .box [.d (.int .i64 0), .d (.int .i64 0), .d (.lit (List.map e_SPart r113))], .box [.d (.lit (List.map e_Li64 r114)), .d (.lit (List.map e_i64 r135))], .sl 1 (List.map e_i64 xs27) false] : List Blk)))) [0] _ (make_Tape_Range_goes k (-1) e129.Max x16 x38) (by kernel_rfl) (by kernel_rfl) rfl (by kernel_rfl) Try.func38 rfl (by kernel_rfl) (ConvRs.refl _ _) (by kernel_rfl) (by kernel_rfl) (by kernel_rfl) (by decide) (by kernel_rfl) (by kernel_rfl) (fun _ => (by kernel_rfl)) (fun _ => (by kernel_rfl)) (fun _ => (by kernel_rfl)) (fun r => ?_)
                obtain ⟨r128, x216⟩ := r
                refine bUc ?_
                refine oOp (.eptr 3 (List.length xs27) (Int.toNat i4) 0) (by kernel_rfl) (by kernel_rfl) (PureV.does (k_idxRef (enc := e_i64) (fro := false) xs27 (a := e127) (by kernel_rfl) (k := .i64) (i := i4) (by kernel_rfl) (by kernel_rfl) Try.underlying22 ty3 h154 h155)) ?_
                refine bSet _ (fun xs37 hs14 => ?_)
                refine oOp (.undef) (by kernel_rfl) (by kernel_rfl) (k_storeE (H' := [.box [.d (.lit (List.map e_i64 x16)), .d (.int .i64 x216)], .box [.d (.int .i64 0), .d (.int .i64 0), .d (.lit (List.map e_SPart r113))], .box [.d (.lit (List.map e_Li64 r114)), .d (.lit (List.map e_i64 r135))], .sl 1 (List.map e_i64 xs37) false]) 3 0 xs27 r128 [(.int .i64 r128)] e_i64_len (by kernel_rfl) (by kernel_rfl) h155 ty3 (by kernel_rfl) (by kernel_rfl) (by kernel_rfl) hs14 (by kernel_rfl)) ?_
                refine oHead [3, 4, 5, 6, 8] [0, 1, 2, 3] (T' := [(3, .ptr 0 0), (4, .ptr 1 0), (5, .ptr 2 0), (6, .ref 3 (List.length xs27) 0 (List.length xs27)), (8, .d (.int .i64 i4))]) (H' := [.box [.d (.lit (List.map e_i64 x16)), .d (.int .i64 x216)], .box [.d (.int .i64 0), .d (.int .i64 0), .d (.lit (List.map e_SPart r113))], .box [.d (.lit (List.map e_Li64 r114)), .d (.lit (List.map e_i64 r135))], .sl 1 (List.map e_i64 xs37) false]) (by kernel_rfl) (by kernel_rfl) (by kernel_rfl) (by kernel_rfl) (by decide) (by kernel_rfl) (by kernel_rfl) ?_
                refine oView (T' := [(3, .ptr 0 0), (4, .ptr 1 0), (5, .ptr 2 0), (6, .ref 3 (List.length xs37) 0 (List.length xs37)), (8, .d (.int .i64 i4))]) (H' := [.box [.d (.lit (List.map e_i64 x16)), .d (.int .i64 x216)], .box [.d (.int .i64 0), .d (.int .i64 0), .d (.lit (List.map e_SPart r113))], .box [.d (.lit (List.map e_Li64 r114)), .d (.lit (List.map e_i64 r135))], .sl 1 (List.map e_i64 xs37) false]) (by first | rw [(set_len hs14)] | rfl) (by first | rw [(set_len hs14)] | rfl) ?_
                refine oEnd ?_
                refine oHead [3, 4, 5, 6, 8] [0, 1, 2, 3] (T' := [(3, .ptr 0 0), (4, .ptr 1 0), (5, .ptr 2 0), (6, .ref 3 (List.length xs37) 0 (List.length xs37)), (8, .d (.int .i64 i4))]) (H' := [.box [.d (.lit (List.map e_i64 x16)), .d (.int .i64 x216)], .box [.d (.int .i64 0), .d (.int .i64 0), .d (.lit (List.map e_SPart r113))], .box [.d (.lit (List.map e_Li64 r114)), .d (.lit (List.map e_i64 r135))], .sl 1 (List.map e_i64 xs37) false]) (by kernel_rfl) (by kernel_rfl) (by kernel_rfl) (by kernel_rfl) (by decide) (by kernel_rfl) (by kernel_rfl) ?_
                exact hj22 (x216, xs37)
              · refine oCondF (by kernel_rfl) ?_
                refine oSkip ?_
                refine oHead [3, 4, 5, 6, 8] [0, 1, 2, 3] (T' := [(3, .ptr 0 0), (4, .ptr 1 0), (5, .ptr 2 0), (6, .ref 3 (List.length xs27) 0 (List.length xs27)), (8, .d (.int .i64 i4))]) (H' := [.box [.d (.lit (List.map e_i64 x16)), .d (.int .i64 x38)], .box [.d (.int .i64 0), .d (.int .i64 0), .d (.lit (List.map e_SPart r113))], .box [.d (.lit (List.map e_Li64 r114)), .d (.lit (List.map e_i64 r135))], .sl 1 (List.map e_i64 xs27) false]) (by kernel_rfl) (by kernel_rfl) (by kernel_rfl) (by kernel_rfl) (by decide) (by kernel_rfl) (by kernel_rfl) ?_
                exact hj22 (x38, xs27)
          · refine oCondF (by kernel_rfl) ?_
            refine oExit rfl ?_
            refine oHead [4, 5, 6] [1, 2, 3] (T' := [(4, .ptr 0 0), (5, .ptr 1 0), (6, .ref 2 (List.length xs27) 0 (List.length xs27))]) (H' := [.box [.d (.int .i64 0), .d (.int .i64 0), .d (.lit (List.map e_SPart r113))], .box [.d (.lit (List.map e_Li64 r114)), .d (.lit (List.map e_i64 r135))], .sl 1 (List.map e_i64 xs27) false]) (by kernel_rfl) (by kernel_rfl) (by kernel_rfl) (by kernel_rfl) (by decide) (by kernel_rfl) (by kernel_rfl) ?_
            exact hj11 xs27
  · refine bPickF 31 (fun c => F (c || (((List.length xs5) : Int) != ((List.length r113) : Int)))) (by kernel_rfl) (fun hc => ?_) (fun hc => ?_)
    · refine oNot (by kernel_rfl) (by kernel_rfl) ?_
      refine oNot (by kernel_rfl) (by kernel_rfl) ?_
      refine oNot (by kernel_rfl) (by kernel_rfl) ?_
      refine oNot (by kernel_rfl) (by kernel_rfl) ?_
      refine oNot (by kernel_rfl) (by kernel_rfl) ?_
      refine oNot (by kernel_rfl) (by kernel_rfl) ?_
      refine oOp (.d (.bool true)) (by kernel_rfl) (by kernel_rfl) (PureV.does (p_pick (b := true) (by kernel_rfl) (by kernel_rfl))) ?_
      refine oHead [3, 4, 5, 6, 38] [0, 1, 2, 3] (T' := [(3, .ptr 0 0), (4, .ptr 1 0), (5, .ptr 2 0), (6, .ref 3 (List.length xs5) 0 (List.length xs5)), (38, .d (.bool true))]) (H' := [.box [.d (.lit (List.map e_i64 x16)), .d (.int .i64 x10)], .box [.d (.int .i64 0), .d (.int .i64 0), .d (.lit (List.map e_SPart r113))], .box [.d (.lit (List.map e_Li64 r114)), .d (.lit (List.map e_i64 r135))], .sl 1 (List.map e_i64 xs5) false]) (by kernel_rfl) (by kernel_rfl) (by kernel_rfl) (by kernel_rfl) (by decide) (by kernel_rfl) (by kernel_rfl) ?_
      exact hj6 true
    · refine oOp (.ref 3 (List.length xs5) 0 (List.length xs5)) (by kernel_rfl) (by kernel_rfl) (PureV.does (p_move (by kernel_rfl))) ?_
      refine oOp (.d (.int .i64 ((List.length xs5) : Int))) (by kernel_rfl) (by kernel_rfl) (PureV.does (k_lenRef (enc := e_i64) (sz := 1) (fro := false) 3 xs5 (by kernel_rfl) (by kernel_rfl) Try.underlying22)) ?_
      refine oOp (.ptr 1 2) (by kernel_rfl) (by kernel_rfl) (PureV.does (k_fieldAddr 1 0 (by kernel_rfl) Try.underlying27 rfl ty25 (by kernel_rfl))) ?_
      refine oOp (.d (.lit (List.map e_SPart r113))) (by kernel_rfl) (by kernel_rfl) (Quiet.does (k_load 1 2 (by kernel_rfl) Try.underlying25 (by kernel_rfl) (by kernel_rfl))) ?_
      refine oOp (.d (.int .i64 ((List.length r113) : Int))) (by kernel_rfl) (by kernel_rfl) (PureV.does (k_lenLit (enc := e_SPart) r113 (by kernel_rfl) Try.underlying25)) ?_
      refine oOp (.d (.bool (((List.length xs5) : Int) != ((List.length r113) : Int)))) (by kernel_rfl) (by kernel_rfl) (PureV.does (p_int (k := .i64) (p := ((List.length xs5) : Int)) (q := ((List.length r113) : Int)) (by kernel_rfl) (by kernel_rfl) (by kernel_rfl))) ?_
      refine oOp (.d (.bool (((List.length xs5) : Int) != ((List.length r113) : Int)))) (by kernel_rfl) (by kernel_rfl) (PureV.does (p_pick (b := false) (by kernel_rfl) (by kernel_rfl))) ?_
      refine oHead [3, 4, 5, 6, 38] [0, 1, 2, 3] (T' := [(3, .ptr 0 0), (4, .ptr 1 0), (5, .ptr 2 0), (6, .ref 3 (List.length xs5) 0 (List.length xs5)), (38, .d (.bool (((List.length xs5) : Int) != ((List.length r113) : Int))))]) (H' := [.box [.d (.lit (List.map e_i64 x16)), .d (.int .i64 x10)], .box [.d (.int .i64 0), .d (.int .i64 0), .d (.lit (List.map e_SPart r113))], .box [.d (.lit (List.map e_Li64 r114)), .d (.lit (List.map e_i64 r135))], .sl 1 (List.map e_i64 xs5) false]) (by kernel_rfl) (by kernel_rfl) (by kernel_rfl) (by kernel_rfl) (by decide) (by kernel_rfl) (by kernel_rfl) ?_
      exact hj6 (((List.length xs5) : Int) != ((List.length r113) : Int))

/-- awardingbody/scheme.Accepts -/
def scheme_Accepts (k : Nat) (p0 : Int) (p1 : Int) (p2 : (List SPart)) (s0 : (List (List Int))) (s1 : (List Int)) (part : Int) (answer : Int) : Option (Bool) := Option.bind (scheme_Valid k p0 p1 p2 s0 s1) (fun r1 => Option.bind (bif r1 then Option.bind (scheme_there k p0 p1 p2 part) (fun r11 => some r11) else some false : Option Bool) (fun x9 => Option.bind (bif x9 then gidx p2 part fun e1 => some (e1.Kind == 2) else some false : Option Bool) (fun x10 => Option.bind (bif x10 then gidx p2 part fun e11 => gidx s0 part fun e12 => Option.bind (scheme_accepts k e11.Kind e11.Max e11.Topic e11.Objective e11.Options e11.Key e12 answer) (fun r12 => some r12) else some false : Option Bool) (fun x11 => some x11))))
def scheme_Accepts_E (p0 : Int) (p1 : Int) (p2 : (List SPart)) (s0 : (List (List Int))) (s1 : (List Int)) (part : Int) (answer : Int) : Bool → V × List Blk := fun r13 => (.d (.bool r13), [])
theorem scheme_Accepts_goes (k : Nat) (p0 : Int) (p1 : Int) (p2 : (List SPart)) (s0 : (List (List Int))) (s1 : (List Int)) (part : Int) (answer : Int) : RunsO Try.prog 32 [.agg [.d (.int .i64 p0), .d (.int .i64 p1), .d (.lit (List.map e_SPart p2))], .agg [.d (.lit (List.map e_Li64 s0)), .d (.lit (List.map e_i64 s1))], .d (.int .i64 part), .d (.int .i64 answer)] [] (scheme_Accepts_E p0 p1 p2 s0 s1 part answer) (scheme_Accepts k p0 p1 p2 s0 s1 part answer) := by
  refine RunsO.of_goes (N := 40) (m := 0) (T := [(0, .agg [.d (.int .i64 p0), .d (.int .i64 p1), .d (.lit (List.map e_SPart p2))]), (1, .agg [.d (.lit (List.map e_Li64 s0)), .d (.lit (List.map e_i64 s1))]), (2, .d (.int .i64 part)), (3, .d (.int .i64 answer))]) Try.func32 rfl rfl (by kernel_rfl) (by kernel_rfl) (by kernel_rfl) ?_
  unfold scheme_Accepts
  refine bStart ?_
  refine oSeq ?_
  refine oRegion rfl ?_
  refine oOp (.ptr 0 0) (by kernel_rfl) (by kernel_rfl) (k_box (H' := [.box [.d (.int .i64 p0), .d (.int .i64 p1), .d (.lit (List.map e_SPart p2))]]) (cells := [.d (.int .i64 p0), .d (.int .i64 p1), .d (.lit (List.map e_SPart p2))]) (by kernel_rfl) (by kernel_rfl) (by kernel_rfl)) ?_
  refine oOp (.ptr 1 0) (by kernel_rfl) (by kernel_rfl) (k_box (H' := [.box [.d (.int .i64 p0), .d (.int .i64 p1), .d (.lit (List.map e_SPart p2))], .box [.d (.lit (List.map e_Li64 s0)), .d (.lit (List.map e_i64 s1))]]) (cells := [.d (.lit (List.map e_Li64 s0)), .d (.lit (List.map e_i64 s1))]) (by kernel_rfl) (by kernel_rfl) (by kernel_rfl)) ?_
  refine oOp (.d (.bool false)) (by kernel_rfl) (by kernel_rfl) (PureV.does (p_assign (by kernel_rfl))) ?_
  refine oEnd ?_
  refine oSeq ?_
  refine oDraw [(0, 32), (1, 32)] rfl ?_
  refine aTakeL (i := 0) (st' := [0]) (.agg [.d (.int .i64 p0), .d (.int .i64 p1), .d (.lit (List.map e_SPart p2))]) rfl (by kernel_rfl) (by kernel_rfl) (by kernel_rfl) (by kernel_rfl) (by kernel_rfl) (by kernel_rfl) (by kernel_rfl) (k_loadAgg 0 0 (by kernel_rfl) Try.underlying27 (by kernel_rfl) ty27 (by kernel_rfl)) ?_
  refine aTakeL (i := 1) (st' := [1]) (.agg [.d (.lit (List.map e_Li64 s0)), .d (.lit (List.map e_i64 s1))]) rfl (by kernel_rfl) (by kernel_rfl) (by kernel_rfl) (by kernel_rfl) (by kernel_rfl) (by kernel_rfl) (by kernel_rfl) (k_loadAgg 1 0 (by kernel_rfl) Try.underlying31 (by kernel_rfl) ty31 (by kernel_rfl)) ?_
  refine dCall (i := 2) (caps := []) (v := (fun (r1 : Bool) => (.d (.bool r1) : V))) (H' := (fun (r1 : Bool) => ([.box [.d (.int .i64 p0), .d (.int .i64 p1), .d (.lit (List.map e_SPart p2))], .box [.d (.lit (List.map e_Li64 s0)), .d (.lit (List.map e_i64 s1))]] : List Blk))) [] _ (scheme_Valid_goes k p0 p1 p2 s0 s1) rfl (by kernel_rfl) (by kernel_rfl) (by kernel_rfl) (by kernel_rfl) (by kernel_rfl) (by kernel_rfl) (by kernel_rfl) (by kernel_rfl) rfl (by kernel_rfl) Try.func30 rfl (by kernel_rfl) (ConvRs.refl _ _) (by kernel_rfl) (by kernel_rfl) (by kernel_rfl) (by decide) (by kernel_rfl) (by kernel_rfl) (fun _ => (by kernel_rfl)) (fun _ => (by kernel_rfl)) (fun _ => (by kernel_rfl)) (fun r1 => ?_)
  refine aTakeL (i := 3) (st' := []) (.d (.bool r1)) rfl (by kernel_rfl) (by kernel_rfl) (by kernel_rfl) (by kernel_rfl) (by kernel_rfl) (by kernel_rfl) (by kernel_rfl) (PureV.quiet (p_move (by kernel_rfl)) []) ?_
  refine dMeet [7, 6, 5, 4, 3, 2, 1, 0] (fun (x9 : Bool) => [(2, .d (.int .i64 part)), (3, .d (.int .i64 answer)), (4, .ptr 0 0), (5, .ptr 1 0), (16, .d (.bool x9))]) (fun (x9 : Bool) => [(2, .d (.int .i64 part)), (3, .d (.int .i64 answer)), (4, .ptr 0 0), (5, .ptr 1 0), (16, .d (.bool x9))]) (fun _ => [.box [.d (.int .i64 p0), .d (.int .i64 p1), .d (.lit (List.map e_SPart p2))], .box [.d (.lit (List.map e_Li64 s0)), .d (.lit (List.map e_i64 s1))]]) (fun s => s) (fun x9 => ?_) (fun hj4 => ?_)
  · refine aTakeL (i := 8) (st' := []) (.d (.bool x9)) rfl (by kernel_rfl) (by kernel_rfl) (by kernel_rfl) (by kernel_rfl) (by kernel_rfl) (by kernel_rfl) (by kernel_rfl) (PureV.quiet (p_move (by kernel_rfl)) []) ?_
    refine dMeet [16, 15, 14, 13, 12, 11, 10, 9, 8, 7, 6, 5, 4, 3, 2, 1, 0] (fun (x10 : Bool) => [(2, .d (.int .i64 part)), (3, .d (.int .i64 answer)), (4, .ptr 0 0), (5, .ptr 1 0), (25, .d (.bool x10))]) (fun (x10 : Bool) => [(2, .d (.int .i64 part)), (3, .d (.int .i64 answer)), (4, .ptr 0 0), (5, .ptr 1 0), (25, .d (.bool x10))]) (fun _ => [.box [.d (.int .i64 p0), .d (.int .i64 p1), .d (.lit (List.map e_SPart p2))], .box [.d (.lit (List.map e_Li64 s0)), .d (.lit (List.map e_i64 s1))]]) (fun s => s) (fun x10 => ?_) (fun hj5 => ?_)
    · refine aTakeL (i := 17) (st' := []) (.d (.bool x10)) rfl (by kernel_rfl) (by kernel_rfl) (by kernel_rfl) (by kernel_rfl) (by kernel_rfl) (by kernel_rfl) (by kernel_rfl) (PureV.quiet (p_move (by kernel_rfl)) []) ?_
      refine dMeet [30, 29, 28, 27, 26, 25, 24, 23, 22, 21, 20, 19, 18, 17, 16, 15, 14, 13, 12, 11, 10, 9, 8, 7, 6, 5, 4, 3, 2, 1, 0] (fun (x11 : Bool) => [(39, .d (.bool x11))]) (fun (x11 : Bool) => [(39, .d (.bool x11))]) (fun _ => [.box [.d (.int .i64 p0), .d (.int .i64 p1), .d (.lit (List.map e_SPart p2))], .box [.d (.lit (List.map e_Li64 s0)), .d (.lit (List.map e_i64 s1))]]) (fun s => s) (fun x11 => ?_) (fun hj6 => ?_)
      · refine aTakeL (i := 31) (st' := []) (.d (.bool x11)) rfl (by kernel_rfl) (by kernel_rfl) (by kernel_rfl) (by kernel_rfl) (by kernel_rfl) (by kernel_rfl) (by kernel_rfl) (PureV.quiet (p_assign (by kernel_rfl)) []) ?_
        refine aDone (by kernel_rfl) ?_
        exact oRet (r0 := x11) (rv := .d (.bool x11)) (B := []) (vs := [.d (.bool x11)]) (σ := []) (by kernel_rfl) Try.func32 rfl (.cons _ _ _ _ (.tmp 8 _ (by kernel_rfl)) .nil) (by kernel_rfl) (by kernel_rfl) (by kernel_rfl) (by kernel_rfl) (by decide) (by kernel_rfl) (by kernel_rfl)
      · refine dSplit 26 (by kernel_rfl) (by kernel_rfl) (fun hc => ?_) (fun hc => ?_)
        · refine aTakeL (i := 18) (st' := []) (.ptr 0 2) rfl (by kernel_rfl) (by kernel_rfl) (by kernel_rfl) (by kernel_rfl) (by kernel_rfl) (by kernel_rfl) (by kernel_rfl) (PureV.quiet (k_fieldAddr 0 0 (by kernel_rfl) Try.underlying27 rfl ty25 (by kernel_rfl)) []) ?_
          refine aTakeL (i := 19) (st' := [0]) (.d (.lit (List.map e_SPart p2))) rfl (by kernel_rfl) (by kernel_rfl) (by kernel_rfl) (by kernel_rfl) (by kernel_rfl) (by kernel_rfl) (by kernel_rfl) (k_load 0 2 (by kernel_rfl) Try.underlying25 (by kernel_rfl) (by kernel_rfl)) ?_
          refine aTakeL (i := 20) (st' := []) (.d (.int .i64 part)) rfl (by kernel_rfl) (by kernel_rfl) (by kernel_rfl) (by kernel_rfl) (by kernel_rfl) (by kernel_rfl) (by kernel_rfl) (PureV.quiet (p_move (by kernel_rfl)) []) ?_
          refine dIdx (fun e11 h12 h13 => ?_)
          refine aTakeL (i := 21) (st' := []) (.lptr (e_SPart e11) 0) rfl (by kernel_rfl) (by kernel_rfl) (by kernel_rfl) (by kernel_rfl) (by kernel_rfl) (by kernel_rfl) (by kernel_rfl) (PureV.quiet (k_idxLit e_SPart_len p2 (a := e11) (by kernel_rfl) (k := .i64) (i := part) (by kernel_rfl) Try.underlying25 ty49 h12 h13) []) ?_
          refine aTakeL (i := 22) (st' := []) (.agg [.d (.int .i64 e11.Kind), .d (.int .i64 e11.Max), .d (.int .i64 e11.Topic), .d (.int .i64 e11.Objective), .d (.int .i64 e11.Options), .d (.int .i64 e11.Key)]) rfl (by kernel_rfl) (by kernel_rfl) (by kernel_rfl) (by kernel_rfl) (by kernel_rfl) (by kernel_rfl) (by kernel_rfl) (k_loadLAgg (cells := e_SPart e11) 0 [(.int .i64 e11.Kind), (.int .i64 e11.Max), (.int .i64 e11.Topic), (.int .i64 e11.Objective), (.int .i64 e11.Options), (.int .i64 e11.Key)] (by kernel_rfl) Try.underlying49 (by kernel_rfl) ty49 (by kernel_rfl) (by kernel_rfl) (by kernel_rfl)) ?_
          refine aTakeL (i := 23) (st' := []) (.ptr 1 0) rfl (by kernel_rfl) (by kernel_rfl) (by kernel_rfl) (by kernel_rfl) (by kernel_rfl) (by kernel_rfl) (by kernel_rfl) (PureV.quiet (k_fieldAddr 1 0 (by kernel_rfl) Try.underlying31 rfl ty29 (by kernel_rfl)) []) ?_
          refine aTakeL (i := 24) (st' := [1]) (.d (.lit (List.map e_Li64 s0))) rfl (by kernel_rfl) (by kernel_rfl) (by kernel_rfl) (by kernel_rfl) (by kernel_rfl) (by kernel_rfl) (by kernel_rfl) (k_load 1 0 (by kernel_rfl) Try.underlying29 (by kernel_rfl) (by kernel_rfl)) ?_
          refine aTakeL (i := 25) (st' := []) (.d (.int .i64 part)) rfl (by kernel_rfl) (by kernel_rfl) (by kernel_rfl) (by kernel_rfl) (by kernel_rfl) (by kernel_rfl) (by kernel_rfl) (PureV.quiet (p_move (by kernel_rfl)) []) ?_
          refine dIdx (fun e12 h14 h15 => ?_)
          refine aTakeL (i := 26) (st' := []) (.lptr (e_Li64 e12) 0) rfl (by kernel_rfl) (by kernel_rfl) (by kernel_rfl) (by kernel_rfl) (by kernel_rfl) (by kernel_rfl) (by kernel_rfl) (PureV.quiet (k_idxLit e_Li64_len s0 (a := e12) (by kernel_rfl) (k := .i64) (i := part) (by kernel_rfl) Try.underlying29 ty22 h14 h15) []) ?_
          refine aTakeL (i := 27) (st' := []) (.d (.lit (List.map e_i64 e12))) rfl (by kernel_rfl) (by kernel_rfl) (by kernel_rfl) (by kernel_rfl) (by kernel_rfl) (by kernel_rfl) (by kernel_rfl) (k_loadL (cells := e_Li64 e12) 0 (by kernel_rfl) Try.underlying22 (by kernel_rfl) (by kernel_rfl)) ?_
          refine aTakeL (i := 28) (st' := []) (.d (.int .i64 answer)) rfl (by kernel_rfl) (by kernel_rfl) (by kernel_rfl) (by kernel_rfl) (by kernel_rfl) (by kernel_rfl) (by kernel_rfl) (PureV.quiet (p_move (by kernel_rfl)) []) ?_
          refine dCall (i := 29) (caps := []) (v := (fun (r12 : Bool) => (.d (.bool r12) : V))) (H' := (fun (r12 : Bool) => ([.box [.d (.int .i64 p0), .d (.int .i64 p1), .d (.lit (List.map e_SPart p2))], .box [.d (.lit (List.map e_Li64 s0)), .d (.lit (List.map e_i64 s1))]] : List Blk))) [] _ (scheme_accepts_goes k e11.Kind e11.Max e11.Topic e11.Objective e11.Options e11.Key e12 answer) rfl (by kernel_rfl) (by kernel_rfl) (by kernel_rfl) (by kernel_rfl) (by kernel_rfl) (by kernel_rfl) (by kernel_rfl) (by kernel_rfl) rfl (by kernel_rfl) Try.func44 rfl (by kernel_rfl) (ConvRs.refl _ _) (by kernel_rfl) (by kernel_rfl) (by kernel_rfl) (by decide) (by kernel_rfl) (by kernel_rfl) (fun _ => (by kernel_rfl)) (fun _ => (by kernel_rfl)) (fun _ => (by kernel_rfl)) (fun r12 => ?_)
          refine aTakeL (i := 30) (st' := []) (.d (.bool r12)) rfl (by kernel_rfl) (by kernel_rfl) (by kernel_rfl) (by kernel_rfl) (by kernel_rfl) (by kernel_rfl) (by kernel_rfl) (PureV.quiet (p_pick (b := true) (by kernel_rfl) (by kernel_rfl)) []) ?_
          refine dDrop [39] [39] (T' := [(39, .d (.bool r12))]) (U' := [(39, .d (.bool r12))]) (by kernel_rfl) (by kernel_rfl) ?_
          exact hj6 r12
        · refine aTakeNot (i := 18) rfl (by kernel_rfl) (by kernel_rfl) (by kernel_rfl) (by kernel_rfl) (by kernel_rfl) (by kernel_rfl) (by kernel_rfl) ?_
          refine aTakeNot (i := 19) rfl (by kernel_rfl) (by kernel_rfl) (by kernel_rfl) (by kernel_rfl) (by kernel_rfl) (by kernel_rfl) (by kernel_rfl) ?_
          refine aTakeNot (i := 20) rfl (by kernel_rfl) (by kernel_rfl) (by kernel_rfl) (by kernel_rfl) (by kernel_rfl) (by kernel_rfl) (by kernel_rfl) ?_
          refine aTakeNot (i := 21) rfl (by kernel_rfl) (by kernel_rfl) (by kernel_rfl) (by kernel_rfl) (by kernel_rfl) (by kernel_rfl) (by kernel_rfl) ?_
          refine aTakeNot (i := 22) rfl (by kernel_rfl) (by kernel_rfl) (by kernel_rfl) (by kernel_rfl) (by kernel_rfl) (by kernel_rfl) (by kernel_rfl) ?_
          refine aTakeNot (i := 23) rfl (by kernel_rfl) (by kernel_rfl) (by kernel_rfl) (by kernel_rfl) (by kernel_rfl) (by kernel_rfl) (by kernel_rfl) ?_
          refine aTakeNot (i := 24) rfl (by kernel_rfl) (by kernel_rfl) (by kernel_rfl) (by kernel_rfl) (by kernel_rfl) (by kernel_rfl) (by kernel_rfl) ?_
          refine aTakeNot (i := 25) rfl (by kernel_rfl) (by kernel_rfl) (by kernel_rfl) (by kernel_rfl) (by kernel_rfl) (by kernel_rfl) (by kernel_rfl) ?_
          refine aTakeNot (i := 26) rfl (by kernel_rfl) (by kernel_rfl) (by kernel_rfl) (by kernel_rfl) (by kernel_rfl) (by kernel_rfl) (by kernel_rfl) ?_
          refine aTakeNot (i := 27) rfl (by kernel_rfl) (by kernel_rfl) (by kernel_rfl) (by kernel_rfl) (by kernel_rfl) (by kernel_rfl) (by kernel_rfl) ?_
          refine aTakeNot (i := 28) rfl (by kernel_rfl) (by kernel_rfl) (by kernel_rfl) (by kernel_rfl) (by kernel_rfl) (by kernel_rfl) (by kernel_rfl) ?_
          refine aTakeNot (i := 29) rfl (by kernel_rfl) (by kernel_rfl) (by kernel_rfl) (by kernel_rfl) (by kernel_rfl) (by kernel_rfl) (by kernel_rfl) ?_
          refine aTakeL (i := 30) (st' := []) (.d (.bool false)) rfl (by kernel_rfl) (by kernel_rfl) (by kernel_rfl) (by kernel_rfl) (by kernel_rfl) (by kernel_rfl) (by kernel_rfl) (PureV.quiet (p_pick (b := false) (by kernel_rfl) (by kernel_rfl)) []) ?_
          refine dDrop [39] [39] (T' := [(39, .d (.bool false))]) (U' := [(39, .d (.bool false))]) (by kernel_rfl) (by kernel_rfl) ?_
          exact hj6 false
    · refine dSplit 17 (by kernel_rfl) (by kernel_rfl) (fun hc => ?_) (fun hc => ?_)
      · refine aTakeL (i := 9) (st' := []) (.ptr 0 2) rfl (by kernel_rfl) (by kernel_rfl) (by kernel_rfl) (by kernel_rfl) (by kernel_rfl) (by kernel_rfl) (by kernel_rfl) (PureV.quiet (k_fieldAddr 0 0 (by kernel_rfl) Try.underlying27 rfl ty25 (by kernel_rfl)) []) ?_
        refine aTakeL (i := 10) (st' := [0]) (.d (.lit (List.map e_SPart p2))) rfl (by kernel_rfl) (by kernel_rfl) (by kernel_rfl) (by kernel_rfl) (by kernel_rfl) (by kernel_rfl) (by kernel_rfl) (k_load 0 2 (by kernel_rfl) Try.underlying25 (by kernel_rfl) (by kernel_rfl)) ?_
        refine aTakeL (i := 11) (st' := []) (.d (.int .i64 part)) rfl (by kernel_rfl) (by kernel_rfl) (by kernel_rfl) (by kernel_rfl) (by kernel_rfl) (by kernel_rfl) (by kernel_rfl) (PureV.quiet (p_move (by kernel_rfl)) []) ?_
        refine dIdx (fun e1 h1 h11 => ?_)
        refine aTakeL (i := 12) (st' := []) (.lptr (e_SPart e1) 0) rfl (by kernel_rfl) (by kernel_rfl) (by kernel_rfl) (by kernel_rfl) (by kernel_rfl) (by kernel_rfl) (by kernel_rfl) (PureV.quiet (k_idxLit e_SPart_len p2 (a := e1) (by kernel_rfl) (k := .i64) (i := part) (by kernel_rfl) Try.underlying25 ty49 h1 h11) []) ?_
        refine aTakeL (i := 13) (st' := []) (.lptr (e_SPart e1) 0) rfl (by kernel_rfl) (by kernel_rfl) (by kernel_rfl) (by kernel_rfl) (by kernel_rfl) (by kernel_rfl) (by kernel_rfl) (PureV.quiet (k_fieldAddrL (cells := e_SPart e1) 0 (by kernel_rfl) Try.underlying49 rfl ty3 (by kernel_rfl)) []) ?_
        refine aTakeL (i := 14) (st' := []) (.d (.int .i64 e1.Kind)) rfl (by kernel_rfl) (by kernel_rfl) (by kernel_rfl) (by kernel_rfl) (by kernel_rfl) (by kernel_rfl) (by kernel_rfl) (k_loadL (cells := e_SPart e1) 0 (by kernel_rfl) Try.underlying3 (by kernel_rfl) (by kernel_rfl)) ?_
        refine aTakeL (i := 15) (st' := []) (.d (.bool (e1.Kind == 2))) rfl (by kernel_rfl) (by kernel_rfl) (by kernel_rfl) (by kernel_rfl) (by kernel_rfl) (by kernel_rfl) (by kernel_rfl) (PureV.quiet (p_int (k := .i64) (p := e1.Kind) (q := 2) (by kernel_rfl) (by kernel_rfl) (by kernel_rfl)) []) ?_
        refine aTakeL (i := 16) (st' := []) (.d (.bool (e1.Kind == 2))) rfl (by kernel_rfl) (by kernel_rfl) (by kernel_rfl) (by kernel_rfl) (by kernel_rfl) (by kernel_rfl) (by kernel_rfl) (PureV.quiet (p_pick (b := true) (by kernel_rfl) (by kernel_rfl)) []) ?_
        refine dDrop [2, 3, 4, 5, 25] [2, 3, 4, 5, 25] (T' := [(2, .d (.int .i64 part)), (3, .d (.int .i64 answer)), (4, .ptr 0 0), (5, .ptr 1 0), (25, .d (.bool (e1.Kind == 2)))]) (U' := [(2, .d (.int .i64 part)), (3, .d (.int .i64 answer)), (4, .ptr 0 0), (5, .ptr 1 0), (25, .d (.bool (e1.Kind == 2)))]) (by kernel_rfl) (by kernel_rfl) ?_
        exact hj5 (e1.Kind == 2)
      · refine aTakeNot (i := 9) rfl (by kernel_rfl) (by kernel_rfl) (by kernel_rfl) (by kernel_rfl) (by kernel_rfl) (by kernel_rfl) (by kernel_rfl) ?_
        refine aTakeNot (i := 10) rfl (by kernel_rfl) (by kernel_rfl) (by kernel_rfl) (by kernel_rfl) (by kernel_rfl) (by kernel_rfl) (by kernel_rfl) ?_
        refine aTakeNot (i := 11) rfl (by kernel_rfl) (by kernel_rfl) (by kernel_rfl) (by kernel_rfl) (by kernel_rfl) (by kernel_rfl) (by kernel_rfl) ?_
        refine aTakeNot (i := 12) rfl (by kernel_rfl) (by kernel_rfl) (by kernel_rfl) (by kernel_rfl) (by kernel_rfl) (by kernel_rfl) (by kernel_rfl) ?_
        refine aTakeNot (i := 13) rfl (by kernel_rfl) (by kernel_rfl) (by kernel_rfl) (by kernel_rfl) (by kernel_rfl) (by kernel_rfl) (by kernel_rfl) ?_
        refine aTakeNot (i := 14) rfl (by kernel_rfl) (by kernel_rfl) (by kernel_rfl) (by kernel_rfl) (by kernel_rfl) (by kernel_rfl) (by kernel_rfl) ?_
        refine aTakeNot (i := 15) rfl (by kernel_rfl) (by kernel_rfl) (by kernel_rfl) (by kernel_rfl) (by kernel_rfl) (by kernel_rfl) (by kernel_rfl) ?_
        refine aTakeL (i := 16) (st' := []) (.d (.bool false)) rfl (by kernel_rfl) (by kernel_rfl) (by kernel_rfl) (by kernel_rfl) (by kernel_rfl) (by kernel_rfl) (by kernel_rfl) (PureV.quiet (p_pick (b := false) (by kernel_rfl) (by kernel_rfl)) []) ?_
        refine dDrop [2, 3, 4, 5, 25] [2, 3, 4, 5, 25] (T' := [(2, .d (.int .i64 part)), (3, .d (.int .i64 answer)), (4, .ptr 0 0), (5, .ptr 1 0), (25, .d (.bool false))]) (U' := [(2, .d (.int .i64 part)), (3, .d (.int .i64 answer)), (4, .ptr 0 0), (5, .ptr 1 0), (25, .d (.bool false))]) (by kernel_rfl) (by kernel_rfl) ?_
        exact hj5 false
  · refine dSplit 12 (by kernel_rfl) (by kernel_rfl) (fun hc => ?_) (fun hc => ?_)
    · refine aTakeL (i := 4) (st' := [0]) (.agg [.d (.int .i64 p0), .d (.int .i64 p1), .d (.lit (List.map e_SPart p2))]) rfl (by kernel_rfl) (by kernel_rfl) (by kernel_rfl) (by kernel_rfl) (by kernel_rfl) (by kernel_rfl) (by kernel_rfl) (k_loadAgg 0 0 (by kernel_rfl) Try.underlying27 (by kernel_rfl) ty27 (by kernel_rfl)) ?_
      refine aTakeL (i := 5) (st' := []) (.d (.int .i64 part)) rfl (by kernel_rfl) (by kernel_rfl) (by kernel_rfl) (by kernel_rfl) (by kernel_rfl) (by kernel_rfl) (by kernel_rfl) (PureV.quiet (p_move (by kernel_rfl)) []) ?_
      refine dCall (i := 6) (caps := []) (v := (fun (r11 : Bool) => (.d (.bool r11) : V))) (H' := (fun (r11 : Bool) => ([.box [.d (.int .i64 p0), .d (.int .i64 p1), .d (.lit (List.map e_SPart p2))], .box [.d (.lit (List.map e_Li64 s0)), .d (.lit (List.map e_i64 s1))]] : List Blk))) [] _ (scheme_there_goes k p0 p1 p2 part) rfl (by kernel_rfl) (by kernel_rfl) (by kernel_rfl) (by kernel_rfl) (by kernel_rfl) (by kernel_rfl) (by kernel_rfl) (by kernel_rfl) rfl (by kernel_rfl) Try.func48 rfl (by kernel_rfl) (ConvRs.refl _ _) (by kernel_rfl) (by kernel_rfl) (by kernel_rfl) (by decide) (by kernel_rfl) (by kernel_rfl) (fun _ => (by kernel_rfl)) (fun _ => (by kernel_rfl)) (fun _ => (by kernel_rfl)) (fun r11 => ?_)
      refine aTakeL (i := 7) (st' := []) (.d (.bool r11)) rfl (by kernel_rfl) (by kernel_rfl) (by kernel_rfl) (by kernel_rfl) (by kernel_rfl) (by kernel_rfl) (by kernel_rfl) (PureV.quiet (p_pick (b := true) (by kernel_rfl) (by kernel_rfl)) []) ?_
      refine dDrop [2, 3, 4, 5, 16] [2, 3, 4, 5, 16] (T' := [(2, .d (.int .i64 part)), (3, .d (.int .i64 answer)), (4, .ptr 0 0), (5, .ptr 1 0), (16, .d (.bool r11))]) (U' := [(2, .d (.int .i64 part)), (3, .d (.int .i64 answer)), (4, .ptr 0 0), (5, .ptr 1 0), (16, .d (.bool r11))]) (by kernel_rfl) (by kernel_rfl) ?_
      exact hj4 r11
    · refine aTakeNot (i := 4) rfl (by kernel_rfl) (by kernel_rfl) (by kernel_rfl) (by kernel_rfl) (by kernel_rfl) (by kernel_rfl) (by kernel_rfl) ?_
      refine aTakeNot (i := 5) rfl (by kernel_rfl) (by kernel_rfl) (by kernel_rfl) (by kernel_rfl) (by kernel_rfl) (by kernel_rfl) (by kernel_rfl) ?_
      refine aTakeNot (i := 6) rfl (by kernel_rfl) (by kernel_rfl) (by kernel_rfl) (by kernel_rfl) (by kernel_rfl) (by kernel_rfl) (by kernel_rfl) ?_
      refine aTakeL (i := 7) (st' := []) (.d (.bool false)) rfl (by kernel_rfl) (by kernel_rfl) (by kernel_rfl) (by kernel_rfl) (by kernel_rfl) (by kernel_rfl) (by kernel_rfl) (PureV.quiet (p_pick (b := false) (by kernel_rfl) (by kernel_rfl)) []) ?_
      refine dDrop [2, 3, 4, 5, 16] [2, 3, 4, 5, 16] (T' := [(2, .d (.int .i64 part)), (3, .d (.int .i64 answer)), (4, .ptr 0 0), (5, .ptr 1 0), (16, .d (.bool false))]) (U' := [(2, .d (.int .i64 part)), (3, .d (.int .i64 answer)), (4, .ptr 0 0), (5, .ptr 1 0), (16, .d (.bool false))]) (by kernel_rfl) (by kernel_rfl) ?_
      exact hj4 false

/-- awardingbody/awardingbodylaw23.SchemeWider -/
def law23_SchemeWider_b1 (k : Nat) (r112 : (List SPart)) (r181 : (List Int)) (r16 : Int) (r17 : Int) (r138 : (List Int)) (r139 : (List Int)) (again : Int → Option ((Unit) ⊕ (Bool))) : Int → Option ((Unit) ⊕ (Bool)) := fun i4 => bif (decide (i4 < ((List.length r181) : Int))) then gidx r138 i4 fun e160 => Option.bind (bif (i4 == r16) then gidx r181 i4 fun e165 => some (e165 == r17) else some false : Option (Bool)) (fun x27 => Option.bind (bif x27 then gidx r112 i4 fun e164 => some e164.Max else some e160 : Option (Int)) (fun want13 => gidx r139 i4 fun e163 => bif (e163 != want13) then some (Sum.inr false) else again (IntKind.wrap .i64 (i4 + 1)))) else some (Sum.inl ())
def law23_SchemeWider_b2 (k : Nat) (r112 : (List SPart)) (r113 : (List (List Int))) (r135 : (List Int)) (r16 : Int) (r17 : Int) (again : Int × (List Int) → Option ((List Int))) : Int × (List Int) → Option ((List Int)) := uc fun k14 => fun xs13 => gidx r112 r16 fun e168 => bif (decide (k14 < e168.Options)) then Option.bind (Option.bind (bif (k14 == r17) then some true else Option.bind (scheme_Accepts k 0 0 r112 r113 r135 r16 k14) (fun r1314 => some r1314) : Option (Bool)) (fun x31 => bif x31 then gcap (List.length (xs13 ++ ([k14] : List Int))) 8 (some (xs13 ++ ([k14] : List Int))) else some xs13) : Option ((List Int))) (fun xs16 => again ((IntKind.wrap .i64 (k14 + 1)), xs16)) else some xs13
def law23_SchemeWider (k : Nat) (t : (List Int)) (part : Int) (option : Int) : Option (Bool) := Option.bind (make_New k t) (fun x12 => Option.bind (make_Tape_Paper k x12 0) (uc fun r112 => fun x61 => Option.bind (make_Tape_Scheme k r112 x12 x61) (uc fun r113 => uc fun r135 => fun x511 => Option.bind (make_Tape_Given k r112 x12 x511) (uc fun r181 => fun x101 => Option.bind (make_Cut k part ((List.length r112) : Int)) (fun r16 => gidx r112 r16 fun e120 => bif (e120.Kind != 2) then Option.bind (law23_awake k) (fun r124 => some r124) else Option.bind (make_Cut k option e120.Options) (fun r17 => gcap (List.length r113) 24 (Option.bind (gloop (law23_SchemeWider_b2 k r112 r113 r135 r16 r17) k (0, ([] : List Int)) : Option ((List Int))) (fun xs10 => gidx r113 r16 fun e123 => blet (List.set r113 (Int.toNat r16) xs10) fun xs11 => Option.bind (scheme_Closed k 0 0 r112 r113 r135 r181) (uc fun r138 => fun r143 => Option.bind (scheme_Closed k 0 0 r112 xs11 r135 r181) (uc fun r139 => fun r144 => blet ((r143 != 0) || (r144 != 0)) fun x15 => blet (x15 || (((List.length r138) : Int) != ((List.length r181) : Int))) fun x16 => blet (x16 || (((List.length r139) : Int) != ((List.length r181) : Int))) fun x17 => bif x17 then some false else Option.bind (gloop (law23_SchemeWider_b1 k r112 r181 r16 r17 r138 r139) k 0 : Option ((Unit) ⊕ (Bool))) (Sum.elim (u0 (Option.bind (law23_awake k) (fun r125 => some r125))) (fun r => some r))))))))))))
def law23_SchemeWider_E (t : (List Int)) (part : Int) (option : Int) : Bool → V × List Blk := fun r15 => (.d (.bool r15), [])
theorem law23_SchemeWider_goes (k : Nat) (t : (List Int)) (part : Int) (option : Int) : RunsO Try.prog 11 [.d (.lit (List.map e_i64 t)), .d (.int .i64 part), .d (.int .i64 option)] [] (law23_SchemeWider_E t part option) (law23_SchemeWider k t part option) := by
  refine RunsO.of_goes (N := 157) (m := 0) (T := [(0, .d (.lit (List.map e_i64 t))), (1, .d (.int .i64 part)), (2, .d (.int .i64 option))]) Try.func11 rfl rfl (by kernel_rfl) (by kernel_rfl) (by kernel_rfl) ?_
  unfold law23_SchemeWider
  refine bStart ?_
  refine oSeq ?_
  refine oRegion rfl ?_
  refine oOp (.d (.bool false)) (by kernel_rfl) (by kernel_rfl) (PureV.does (p_assign (by kernel_rfl))) ?_
  refine oEnd ?_
  refine oSeq ?_
  refine oRegion rfl ?_
  refine oOp (.d (.lit (List.map e_i64 t))) (by kernel_rfl) (by kernel_rfl) (PureV.does (p_move (by kernel_rfl))) ?_
  refine bCall (caps := []) (v := (fun (x12 : (List Int)) => (.ptr 0 0 : V))) (H' := (fun (x12 : (List Int)) => ([.box [.d (.lit (List.map e_i64 x12)), .d (.int .i64 0)]] : List Blk))) [] _ (make_New_goes k t) (by kernel_rfl) (by kernel_rfl) rfl (by kernel_rfl) Try.func12 rfl (by kernel_rfl) (ConvRs.refl _ _) (by kernel_rfl) (by kernel_rfl) (by kernel_rfl) (by decide) (by kernel_rfl) (by kernel_rfl) (fun _ => (by kernel_rfl)) (fun _ => (by kernel_rfl)) (fun _ => (by kernel_rfl)) (fun x12 => ?_)
  refine oOp (.ptr 0 0) (by kernel_rfl) (by kernel_rfl) (PureV.does (p_assign (by kernel_rfl))) ?_
  refine oEnd ?_
  refine oSeq ?_
  refine oRegion rfl ?_
  refine oOp (.ptr 0 0) (by kernel_rfl) (by kernel_rfl) (PureV.does (p_move (by kernel_rfl))) ?_
  refine bCall (caps := []) (v := (uc fun (r112 : (List SPart)) => (fun (x61 : Int) => (.agg [.d (.int .i64 0), .d (.int .i64 0), .d (.lit (List.map e_SPart r112))] : V)))) (H' := (uc fun (r112 : (List SPart)) => (fun (x61 : Int) => ([.box [.d (.lit (List.map e_i64 x12)), .d (.int .i64 x61)]] : List Blk)))) [0] _ (make_Tape_Paper_goes k x12 0) (by kernel_rfl) (by kernel_rfl) rfl (by kernel_rfl) Try.func29 rfl (by kernel_rfl) (ConvRs.refl _ _) (by kernel_rfl) (by kernel_rfl) (by kernel_rfl) (by decide) (by kernel_rfl) (by kernel_rfl) (fun _ => (by kernel_rfl)) (fun _ => (by kernel_rfl)) (fun _ => (by kernel_rfl)) (fun r => ?_)
  obtain ⟨r112, x61⟩ := r
  refine bUc ?_
  refine oOp (.ptr 1 0) (by kernel_rfl) (by kernel_rfl) (k_alloc (H' := [.box [.d (.lit (List.map e_i64 x12)), .d (.int .i64 x61)], .box [.d (.int .i64 0), .d (.int .i64 0), .nilc]]) ty27 (by kernel_rfl) (by kernel_rfl)) ?_
  refine oOp (.undef) (by kernel_rfl) (by kernel_rfl) (k_store (vs := [.d (.int .i64 0), .d (.int .i64 0), .d (.lit (List.map e_SPart r112))]) (H' := [.box [.d (.lit (List.map e_i64 x12)), .d (.int .i64 x61)], .box [.d (.int .i64 0), .d (.int .i64 0), .d (.lit (List.map e_SPart r112))]]) 1 0 (by kernel_rfl) ty27 (by kernel_rfl) (by kernel_rfl) (by kernel_rfl)) ?_
  refine oEnd ?_
  refine oSeq ?_
  refine oRegion rfl ?_
  refine oOp (.ptr 0 0) (by kernel_rfl) (by kernel_rfl) (PureV.does (p_move (by kernel_rfl))) ?_
  refine oOp (.agg [.d (.int .i64 0), .d (.int .i64 0), .d (.lit (List.map e_SPart r112))]) (by kernel_rfl) (by kernel_rfl) (Quiet.does (k_loadAgg 1 0 (by kernel_rfl) Try.underlying27 (by kernel_rfl) ty27 (by kernel_rfl))) ?_
  refine bCall (caps := []) (v := (uc fun (r113 : (List (List Int))) => (uc fun (r135 : (List Int)) => (fun (x511 : Int) => (.agg [.d (.lit (List.map e_Li64 r113)), .d (.lit (List.map e_i64 r135))] : V))))) (H' := (uc fun (r113 : (List (List Int))) => (uc fun (r135 : (List Int)) => (fun (x511 : Int) => ([.box [.d (.lit (List.map e_i64 x12)), .d (.int .i64 x511)], .box [.d (.int .i64 0), .d (.int .i64 0), .d (.lit (List.map e_SPart r112))]] : List Blk))))) [0] _ (make_Tape_Scheme_goes k r112 x12 x61) (by kernel_rfl) (by kernel_rfl) rfl (by kernel_rfl) Try.func14 rfl (by kernel_rfl) (ConvRs.refl _ _) (by kernel_rfl) (by kernel_rfl) (by kernel_rfl) (by decide) (by kernel_rfl) (by kernel_rfl) (fun _ => (by kernel_rfl)) (fun _ => (by kernel_rfl)) (fun _ => (by kernel_rfl)) (fun r => ?_)
  obtain ⟨r113, r135, x511⟩ := r
  refine bUc ?_
  refine bUc ?_
  refine oOp (.ptr 2 0) (by kernel_rfl) (by kernel_rfl) (k_alloc (H' := [.box [.d (.lit (List.map e_i64 x12)), .d (.int .i64 x511)], .box [.d (.int .i64 0), .d (.int .i64 0), .d (.lit (List.map e_SPart r112))], .box [.nilc, .nilc]]) ty31 (by kernel_rfl) (by kernel_rfl)) ?_
  refine oOp (.undef) (by kernel_rfl) (by kernel_rfl) (k_store (vs := [.d (.lit (List.map e_Li64 r113)), .d (.lit (List.map e_i64 r135))]) (H' := [.box [.d (.lit (List.map e_i64 x12)), .d (.int .i64 x511)], .box [.d (.int .i64 0), .d (.int .i64 0), .d (.lit (List.map e_SPart r112))], .box [.d (.lit (List.map e_Li64 r113)), .d (.lit (List.map e_i64 r135))]]) 2 0 (by kernel_rfl) ty31 (by kernel_rfl) (by kernel_rfl) (by kernel_rfl)) ?_
  refine oEnd ?_
  refine oSeq ?_
  refine oRegion rfl ?_
  refine oOp (.ptr 0 0) (by kernel_rfl) (by kernel_rfl) (PureV.does (p_move (by kernel_rfl))) ?_
  refine oOp (.agg [.d (.int .i64 0), .d (.int .i64 0), .d (.lit (List.map e_SPart r112))]) (by kernel_rfl) (by kernel_rfl) (Quiet.does (k_loadAgg 1 0 (by kernel_rfl) Try.underlying27 (by kernel_rfl) ty27 (by kernel_rfl))) ?_
  refine bCall (caps := []) (v := (uc fun (r181 : (List Int)) => (fun (x101 : Int) => (.d (.lit (List.map e_i64 r181)) : V)))) (H' := (uc fun (r181 : (List Int)) => (fun (x101 : Int) => ([.box [.d (.lit (List.map e_i64 x12)), .d (.int .i64 x101)], .box [.d (.int .i64 0), .d (.int .i64 0), .d (.lit (List.map e_SPart r112))], .box [.d (.lit (List.map e_Li64 r113)), .d (.lit (List.map e_i64 r135))]] : List Blk)))) [0] _ (make_Tape_Given_goes k r112 x12 x511) (by kernel_rfl) (by kernel_rfl) rfl (by kernel_rfl) Try.func15 rfl (by kernel_rfl) (ConvRs.refl _ _) (by kernel_rfl) (by kernel_rfl) (by kernel_rfl) (by decide) (by kernel_rfl) (by kernel_rfl) (fun _ => (by kernel_rfl)) (fun _ => (by kernel_rfl)) (fun _ => (by kernel_rfl)) (fun r => ?_)
  obtain ⟨r181, x101⟩ := r
  refine bUc ?_
  refine oOp (.d (.lit (List.map e_i64 r181))) (by kernel_rfl) (by kernel_rfl) (PureV.does (p_assign (by kernel_rfl))) ?_
  refine oEnd ?_
  refine oSeq ?_
  refine oRegion rfl ?_
  refine oOp (.d (.int .i64 part)) (by kernel_rfl) (by kernel_rfl) (PureV.does (p_move (by kernel_rfl))) ?_
  refine oOp (.ptr 1 2) (by kernel_rfl) (by kernel_rfl) (PureV.does (k_fieldAddr 1 0 (by kernel_rfl) Try.underlying27 rfl ty25 (by kernel_rfl))) ?_
  refine oOp (.d (.lit (List.map e_SPart r112))) (by kernel_rfl) (by kernel_rfl) (Quiet.does (k_load 1 2 (by kernel_rfl) Try.underlying25 (by kernel_rfl) (by kernel_rfl))) ?_
  refine oOp (.d (.int .i64 ((List.length r112) : Int))) (by kernel_rfl) (by kernel_rfl) (PureV.does (k_lenLit (enc := e_SPart) r112 (by kernel_rfl) Try.underlying25)) ?_
  refine bCall (caps := []) (v := (fun (r16 : Int) => (.d (.int .i64 r16) : V))) (H' := (fun (r16 : Int) => ([.box [.d (.lit (List.map e_i64 x12)), .d (.int .i64 x101)], .box [.d (.int .i64 0), .d (.int .i64 0), .d (.lit (List.map e_SPart r112))], .box [.d (.lit (List.map e_Li64 r113)), .d (.lit (List.map e_i64 r135))]] : List Blk))) [] _ (make_Cut_goes k part ((List.length r112) : Int)) (by kernel_rfl) (by kernel_rfl) rfl (by kernel_rfl) Try.func25 rfl (by kernel_rfl) (ConvRs.refl _ _) (by kernel_rfl) (by kernel_rfl) (by kernel_rfl) (by decide) (by kernel_rfl) (by kernel_rfl) (fun _ => (by kernel_rfl)) (fun _ => (by kernel_rfl)) (fun _ => (by kernel_rfl)) (fun r16 => ?_)
  refine oOp (.d (.int .i64 r16)) (by kernel_rfl) (by kernel_rfl) (PureV.does (p_assign (by kernel_rfl))) ?_
  refine oEnd ?_
  refine oSeq ?_
  refine oSeq ?_
  refine oRegion rfl ?_
  refine oOp (.ptr 1 2) (by kernel_rfl) (by kernel_rfl) (PureV.does (k_fieldAddr 1 0 (by kernel_rfl) Try.underlying27 rfl ty25 (by kernel_rfl))) ?_
  refine oOp (.d (.lit (List.map e_SPart r112))) (by kernel_rfl) (by kernel_rfl) (Quiet.does (k_load 1 2 (by kernel_rfl) Try.underlying25 (by kernel_rfl) (by kernel_rfl))) ?_
  refine oOp (.d (.int .i64 r16)) (by kernel_rfl) (by kernel_rfl) (PureV.does (p_move (by kernel_rfl))) ?_
  refine bIdx (fun e120 h143 h144 => ?_)
  refine oOp (.lptr (e_SPart e120) 0) (by kernel_rfl) (by kernel_rfl) (PureV.does (k_idxLit e_SPart_len r112 (a := e120) (by kernel_rfl) (k := .i64) (i := r16) (by kernel_rfl) Try.underlying25 ty49 h143 h144)) ?_
  refine oOp (.lptr (e_SPart e120) 0) (by kernel_rfl) (by kernel_rfl) (PureV.does (k_fieldAddrL (cells := e_SPart e120) 0 (by kernel_rfl) Try.underlying49 rfl ty3 (by kernel_rfl))) ?_
  refine oOp (.d (.int .i64 e120.Kind)) (by kernel_rfl) (by kernel_rfl) (Quiet.does (k_loadL (cells := e_SPart e120) 0 (by kernel_rfl) Try.underlying3 (by kernel_rfl) (by kernel_rfl))) ?_
  refine oOp (.d (.bool (e120.Kind != 2))) (by kernel_rfl) (by kernel_rfl) (PureV.does (p_int (k := .i64) (p := e120.Kind) (q := 2) (by kernel_rfl) (by kernel_rfl) (by kernel_rfl))) ?_
  refine oEnd ?_
  refine bSplit 41 (by kernel_rfl) (fun hc => ?_) (fun hc => ?_)
  · refine oCondT (by kernel_rfl) ?_
    refine oSeq ?_
    refine oRegion rfl ?_
    refine bCall (caps := []) (v := (fun (r124 : Bool) => (.d (.bool r124) : V))) (H' := (fun (r124 : Bool) => ([.box [.d (.lit (List.map e_i64 x12)), .d (.int .i64 x101)], .box [.d (.int .i64 0), .d (.int .i64 0), .d (.lit (List.map e_SPart r112))], .box [.d (.lit (List.map e_Li64 r113)), .d (.lit (List.map e_i64 r135))]] : List Blk))) [] _ (law23_awake_goes k ) (by kernel_rfl) (by kernel_rfl) rfl (by kernel_rfl) Try.func19 rfl (by kernel_rfl) (ConvRs.refl _ _) (by kernel_rfl) (by kernel_rfl) (by kernel_rfl) (by decide) (by kernel_rfl) (by kernel_rfl) (fun _ => (by kernel_rfl)) (fun _ => (by kernel_rfl)) (fun _ => (by kernel_rfl)) (fun r124 => ?_)
    refine oOp (.d (.bool r124)) (by kernel_rfl) (by kernel_rfl) (PureV.does (p_assign (by kernel_rfl))) ?_
    refine oEnd ?_
    exact oRet (r0 := r124) (rv := .d (.bool r124)) (B := []) (vs := [.d (.bool r124)]) (σ := []) (by kernel_rfl) Try.func11 rfl (.cons _ _ _ _ (.tmp 6 _ (by kernel_rfl)) .nil) (by kernel_rfl) (by kernel_rfl) (by kernel_rfl) (by kernel_rfl) (by decide) (by kernel_rfl) (by kernel_rfl)
  · refine oCondF (by kernel_rfl) ?_
    refine oSkip ?_
    refine oSeq ?_
    refine oRegion rfl ?_
    refine oOp (.d (.int .i64 option)) (by kernel_rfl) (by kernel_rfl) (PureV.does (p_move (by kernel_rfl))) ?_
    refine oOp (.ptr 1 2) (by kernel_rfl) (by kernel_rfl) (PureV.does (k_fieldAddr 1 0 (by kernel_rfl) Try.underlying27 rfl ty25 (by kernel_rfl))) ?_
    refine oOp (.d (.lit (List.map e_SPart r112))) (by kernel_rfl) (by kernel_rfl) (Quiet.does (k_load 1 2 (by kernel_rfl) Try.underlying25 (by kernel_rfl) (by kernel_rfl))) ?_
    refine oOp (.d (.int .i64 r16)) (by kernel_rfl) (by kernel_rfl) (PureV.does (p_move (by kernel_rfl))) ?_
    refine oOp (.lptr (e_SPart e120) 0) (by kernel_rfl) (by kernel_rfl) (PureV.does (k_idxLit e_SPart_len r112 (a := e120) (by kernel_rfl) (k := .i64) (i := r16) (by kernel_rfl) Try.underlying25 ty49 h143 h144)) ?_
    refine oOp (.lptr (e_SPart e120) 4) (by kernel_rfl) (by kernel_rfl) (PureV.does (k_fieldAddrL (cells := e_SPart e120) 0 (by kernel_rfl) Try.underlying49 rfl ty3 (by kernel_rfl))) ?_
    refine oOp (.d (.int .i64 e120.Options)) (by kernel_rfl) (by kernel_rfl) (Quiet.does (k_loadL (cells := e_SPart e120) 4 (by kernel_rfl) Try.underlying3 (by kernel_rfl) (by kernel_rfl))) ?_
    refine bCall (caps := []) (v := (fun (r17 : Int) => (.d (.int .i64 r17) : V))) (H' := (fun (r17 : Int) => ([.box [.d (.lit (List.map e_i64 x12)), .d (.int .i64 x101)], .box [.d (.int .i64 0), .d (.int .i64 0), .d (.lit (List.map e_SPart r112))], .box [.d (.lit (List.map e_Li64 r113)), .d (.lit (List.map e_i64 r135))]] : List Blk))) [] _ (make_Cut_goes k option e120.Options) (by kernel_rfl) (by kernel_rfl) rfl (by kernel_rfl) Try.func25 rfl (by kernel_rfl) (ConvRs.refl _ _) (by kernel_rfl) (by kernel_rfl) (by kernel_rfl) (by decide) (by kernel_rfl) (by kernel_rfl) (fun _ => (by kernel_rfl)) (fun _ => (by kernel_rfl)) (fun _ => (by kernel_rfl)) (fun r17 => ?_)
    refine oOp (.d (.int .i64 r17)) (by kernel_rfl) (by kernel_rfl) (PureV.does (p_assign (by kernel_rfl))) ?_
    refine oEnd ?_
    refine oSeq ?_
    refine oRegion rfl ?_
    refine oOp (.ptr 2 1) (by kernel_rfl) (by kernel_rfl) (PureV.does (k_fieldAddr 2 0 (by kernel_rfl) Try.underlying31 rfl ty22 (by kernel_rfl))) ?_
    refine oOp (.d (.lit (List.map e_i64 r135))) (by kernel_rfl) (by kernel_rfl) (Quiet.does (k_load 2 1 (by kernel_rfl) Try.underlying22 (by kernel_rfl) (by kernel_rfl))) ?_
    refine oOp (.agg [.nilc, .d (.lit (List.map e_i64 r135))]) (by kernel_rfl) (by kernel_rfl) (PureV.does (p_build bld31 (by kernel_rfl))) ?_
    refine oOp (.ptr 3 0) (by kernel_rfl) (by kernel_rfl) (k_alloc (H' := [.box [.d (.lit (List.map e_i64 x12)), .d (.int .i64 x101)], .box [.d (.int .i64 0), .d (.int .i64 0), .d (.lit (List.map e_SPart r112))], .box [.d (.lit (List.map e_Li64 r113)), .d (.lit (List.map e_i64 r135))], .box [.nilc, .nilc]]) ty31 (by kernel_rfl) (by kernel_rfl)) ?_
    refine oOp (.undef) (by kernel_rfl) (by kernel_rfl) (k_store (vs := [.nilc, .d (.lit (List.map e_i64 r135))]) (H' := [.box [.d (.lit (List.map e_i64 x12)), .d (.int .i64 x101)], .box [.d (.int .i64 0), .d (.int .i64 0), .d (.lit (List.map e_SPart r112))], .box [.d (.lit (List.map e_Li64 r113)), .d (.lit (List.map e_i64 r135))], .box [.nilc, .d (.lit (List.map e_i64 r135))]]) 3 0 (by kernel_rfl) ty31 (by kernel_rfl) (by kernel_rfl) (by kernel_rfl)) ?_
    refine oEnd ?_
    refine oSeq ?_
    refine oRegion rfl ?_
    refine oOp (.ptr 3 0) (by kernel_rfl) (by kernel_rfl) (PureV.does (k_fieldAddr 3 0 (by kernel_rfl) Try.underlying31 rfl ty29 (by kernel_rfl))) ?_
    refine oOp (.nilc) (by kernel_rfl) (by kernel_rfl) (Quiet.does (k_load 3 0 (by kernel_rfl) Try.underlying29 (by kernel_rfl) (by kernel_rfl))) ?_
    refine oOp (.ptr 2 0) (by kernel_rfl) (by kernel_rfl) (PureV.does (k_fieldAddr 2 0 (by kernel_rfl) Try.underlying31 rfl ty29 (by kernel_rfl))) ?_
    refine oOp (.d (.lit (List.map e_Li64 r113))) (by kernel_rfl) (by kernel_rfl) (Quiet.does (k_load 2 0 (by kernel_rfl) Try.underlying29 (by kernel_rfl) (by kernel_rfl))) ?_
    refine bCap (fun h145 => ?_)
    refine oOp (.ref 4 (List.length r113) 0 (List.length r113)) (by kernel_rfl) (by kernel_rfl) (k_appendNil (H' := [.box [.d (.lit (List.map e_i64 x12)), .d (.int .i64 x101)], .box [.d (.int .i64 0), .d (.int .i64 0), .d (.lit (List.map e_SPart r112))], .box [.d (.lit (List.map e_Li64 r113)), .d (.lit (List.map e_i64 r135))], .box [.nilc, .d (.lit (List.map e_i64 r135))], .sl 1 (List.map e_Li64 r113) false]) (enc := e_Li64) r113 Try.underlying29 Try.underlying29 ty22 (by kernel_rfl) (by kernel_rfl) (holdsLit e_Li64_len r113 (by kernel_rfl)) h145 (by kernel_rfl)) ?_
    refine oOp (.ptr 3 0) (by kernel_rfl) (by kernel_rfl) (PureV.does (k_fieldAddr 3 0 (by kernel_rfl) Try.underlying31 rfl ty29 (by kernel_rfl))) ?_
    refine oOp (.undef) (by kernel_rfl) (by kernel_rfl) (k_store (vs := [.ref 4 (List.length r113) 0 (List.length r113)]) (H' := [.box [.d (.lit (List.map e_i64 x12)), .d (.int .i64 x101)], .box [.d (.int .i64 0), .d (.int .i64 0), .d (.lit (List.map e_SPart r112))], .box [.d (.lit (List.map e_Li64 r113)), .d (.lit (List.map e_i64 r135))], .box [.ref 4 (List.length r113) 0 (List.length r113), .d (.lit (List.map e_i64 r135))], .sl 1 (List.map e_Li64 r113) false]) 3 0 (by kernel_rfl) ty29 (by kernel_rfl) (by kernel_rfl) (by kernel_rfl)) ?_
    refine oEnd ?_
    refine oSeq ?_
    refine oRegion rfl ?_
    refine oOp (.nilc) (by kernel_rfl) (by kernel_rfl) (PureV.does (p_assign (by kernel_rfl))) ?_
    refine oEnd ?_
    refine oSeq ?_
    refine oSeq ?_
    refine oRegion rfl ?_
    refine oOp (.d (.int .i64 0)) (by kernel_rfl) (by kernel_rfl) (PureV.does (p_assign (by kernel_rfl))) ?_
    refine oEnd ?_
    refine bJoin ((fun (xs10 : (List Int)) => [(1, .d (.int .i64 r16)), (2, .d (.int .i64 r17)), (8, .ptr 0 0), (9, .ptr 1 0), (10, .d (.lit (List.map e_i64 r181))), (11, .ptr 2 0), (12, .ref 3 (List.length xs10) 0 (List.length xs10))])) ((fun (xs10 : (List Int)) => [.box [.d (.int .i64 0), .d (.int .i64 0), .d (.lit (List.map e_SPart r112))], .box [.d (.lit (List.map e_Li64 r113)), .d (.lit (List.map e_i64 r135))], .box [.ref 4 (List.length r113) 0 (List.length r113), .d (.lit (List.map e_i64 r135))], .sl 1 (List.map e_i64 xs10) false, .sl 1 (List.map e_Li64 r113) false])) (fun s => s) (fun xs10 => ?_) (fun hj11 => ?_)
    · refine oView (T' := [(1, .d (.int .i64 r16)), (2, .d (.int .i64 r17)), (8, .ptr 0 0), (9, .ptr 1 0), (10, .d (.lit (List.map e_i64 r181))), (11, .ptr 2 0), (12, .ref 3 (List.length xs10) 0 (List.length xs10))]) (H' := [.box [.d (.int .i64 0), .d (.int .i64 0), .d (.lit (List.map e_SPart r112))], .box [.d (.lit (List.map e_Li64 r113)), .d (.lit (List.map e_i64 r135))], .box [.ref 4 (List.length r113) 0 (List.length r113), .d (.lit (List.map e_i64 r135))], .sl 1 (List.map e_i64 xs10) false, .sl 1 (List.map e_Li64 r113) false]) (by kernel_rfl) (by kernel_rfl) ?_
      refine oSeq ?_
      refine oRegion rfl ?_
      refine oOp (.ptr 2 0) (by kernel_rfl) (by kernel_rfl) (PureV.does (k_fieldAddr 2 0 (by kernel_rfl) Try.underlying31 rfl ty29 (by kernel_rfl))) ?_
      refine oOp (.ref 4 (List.length r113) 0 (List.length r113)) (by kernel_rfl) (by kernel_rfl) (Quiet.does (k_load 2 0 (by kernel_rfl) Try.underlying29 (by kernel_rfl) (by kernel_rfl))) ?_
      refine oOp (.d (.int .i64 r16)) (by kernel_rfl) (by kernel_rfl) (PureV.does (p_move (by kernel_rfl))) ?_
      refine oOp (.ref 3 (List.length xs10) 0 (List.length xs10)) (by kernel_rfl) (by kernel_rfl) (PureV.does (p_move (by kernel_rfl))) ?_
      refine bIdx (fun e123 h152 h153 => ?_)
      refine oOp (.eptr 4 (List.length r113) (Int.toNat r16) 0) (by kernel_rfl) (by kernel_rfl) (PureV.does (k_idxRef (enc := e_Li64) (fro := false) r113 (a := e123) (by kernel_rfl) (k := .i64) (i := r16) (by kernel_rfl) (by kernel_rfl) Try.underlying29 ty22 h152 h153)) ?_
      refine oFreeze 3 (esz := 1) (xs := List.map e_i64 xs10) (by kernel_rfl) ?_
      refine oView (H' := [.box [.d (.int .i64 0), .d (.int .i64 0), .d (.lit (List.map e_SPart r112))], .box [.d (.lit (List.map e_Li64 r113)), .d (.lit (List.map e_i64 r135))], .box [.ref 4 (List.length r113) 0 (List.length r113), .d (.lit (List.map e_i64 r135))], .sl 1 (List.map e_i64 xs10) true, .sl 1 (List.map e_Li64 r113) false]) rfl (by kernel_rfl) ?_
      refine oConv 87 (v := .ref 3 (List.length xs10) 0 (List.length xs10)) (v' := .d (.lit (List.map e_i64 xs10))) (by kernel_rfl) (k_lit (enc := e_i64) (sz := 1) 3 xs10 (by kernel_rfl)) ?_
      refine bSet _ (fun xs11 hs1 => ?_)
      refine oOp (.undef) (by kernel_rfl) (by kernel_rfl) (k_storeE (H' := [.box [.d (.int .i64 0), .d (.int .i64 0), .d (.lit (List.map e_SPart r112))], .box [.d (.lit (List.map e_Li64 r113)), .d (.lit (List.map e_i64 r135))], .box [.ref 4 (List.length r113) 0 (List.length r113), .d (.lit (List.map e_i64 r135))], .sl 1 (List.map e_i64 xs10) true, .sl 1 (List.map e_Li64 xs11) false]) 4 0 r113 xs10 [(.lit (List.map e_i64 xs10))] e_Li64_len (by kernel_rfl) (by kernel_rfl) h153 ty22 (by kernel_rfl) (by kernel_rfl) (by kernel_rfl) hs1 (by kernel_rfl)) ?_
      refine oHead [1, 2, 8, 9, 10, 11] [0, 1, 2, 3, 4] (T' := [(1, .d (.int .i64 r16)), (2, .d (.int .i64 r17)), (8, .ptr 0 0), (9, .ptr 1 0), (10, .d (.lit (List.map e_i64 r181))), (11, .ptr 2 0)]) (H' := [.box [.d (.int .i64 0), .d (.int .i64 0), .d (.lit (List.map e_SPart r112))], .box [.d (.lit (List.map e_Li64 r113)), .d (.lit (List.map e_i64 r135))], .box [.ref 4 (List.length r113) 0 (List.length r113), .d (.lit (List.map e_i64 r135))], .sl 1 (List.map e_i64 xs10) true, .sl 1 (List.map e_Li64 xs11) false]) (by kernel_rfl) (by kernel_rfl) (by kernel_rfl) (by kernel_rfl) (by decide) (by kernel_rfl) (by kernel_rfl) ?_
      refine oView (T' := [(1, .d (.int .i64 r16)), (2, .d (.int .i64 r17)), (8, .ptr 0 0), (9, .ptr 1 0), (10, .d (.lit (List.map e_i64 r181))), (11, .ptr 2 0)]) (H' := [.box [.d (.int .i64 0), .d (.int .i64 0), .d (.lit (List.map e_SPart r112))], .box [.d (.lit (List.map e_Li64 r113)), .d (.lit (List.map e_i64 r135))], .box [.ref 4 (List.length xs11) 0 (List.length xs11), .d (.lit (List.map e_i64 r135))], .sl 1 (List.map e_i64 xs10) true, .sl 1 (List.map e_Li64 xs11) false]) (by first | rw [(set_len hs1)] | rfl) (by first | rw [(set_len hs1)] | rfl) ?_
      refine oEnd ?_
      refine oSeq ?_
      refine oRegion rfl ?_
      refine oOp (.agg [.d (.int .i64 0), .d (.int .i64 0), .d (.lit (List.map e_SPart r112))]) (by kernel_rfl) (by kernel_rfl) (Quiet.does (k_loadAgg 0 0 (by kernel_rfl) Try.underlying27 (by kernel_rfl) ty27 (by kernel_rfl))) ?_
      refine oOp (.agg [.d (.lit (List.map e_Li64 r113)), .d (.lit (List.map e_i64 r135))]) (by kernel_rfl) (by kernel_rfl) (Quiet.does (k_loadAgg 1 0 (by kernel_rfl) Try.underlying31 (by kernel_rfl) ty31 (by kernel_rfl))) ?_
      refine oOp (.d (.lit (List.map e_i64 r181))) (by kernel_rfl) (by kernel_rfl) (PureV.does (p_move (by kernel_rfl))) ?_
      refine bCall (caps := []) (v := (uc fun (r138 : (List Int)) => (fun (r143 : Int) => (.tuple [.d (.lit (List.map e_i64 r138)), .d (.int .i64 r143)] : V)))) (H' := (uc fun (r138 : (List Int)) => (fun (r143 : Int) => ([.box [.d (.int .i64 0), .d (.int .i64 0), .d (.lit (List.map e_SPart r112))], .box [.d (.lit (List.map e_Li64 r113)), .d (.lit (List.map e_i64 r135))], .box [.ref 4 (List.length xs11) 0 (List.length xs11), .d (.lit (List.map e_i64 r135))], .sl 1 (List.map e_i64 xs10) true, .sl 1 (List.map e_Li64 xs11) false] : List Blk)))) [] _ (scheme_Closed_goes k 0 0 r112 r113 r135 r181) (by kernel_rfl) (by kernel_rfl) rfl (by kernel_rfl) Try.func16 rfl (by kernel_rfl) (ConvRs.refl _ _) (by kernel_rfl) (by kernel_rfl) (by kernel_rfl) (by decide) (by kernel_rfl) (by kernel_rfl) (fun _ => (by kernel_rfl)) (fun _ => (by kernel_rfl)) (fun _ => (by kernel_rfl)) (fun r => ?_)
      obtain ⟨r138, r143⟩ := r
      refine bUc ?_
      refine oOp (.tuple [.d (.lit (List.map e_i64 r138)), .d (.int .i64 r143)]) (by kernel_rfl) (by kernel_rfl) (PureV.does (p_move (by kernel_rfl))) ?_
      refine oOp (.d (.lit (List.map e_i64 r138))) (by kernel_rfl) (by kernel_rfl) (PureV.does (k_extract (by kernel_rfl))) ?_
      refine oOp (.d (.int .i64 r143)) (by kernel_rfl) (by kernel_rfl) (PureV.does (k_extract (by kernel_rfl))) ?_
      refine oOp (.d (.lit (List.map e_i64 r138))) (by kernel_rfl) (by kernel_rfl) (PureV.does (p_assign (by kernel_rfl))) ?_
      refine oOp (.d (.int .i64 r143)) (by kernel_rfl) (by kernel_rfl) (PureV.does (p_assign (by kernel_rfl))) ?_
      refine oEnd ?_
      refine oSeq ?_
      refine oRegion rfl ?_
      refine oOp (.agg [.d (.int .i64 0), .d (.int .i64 0), .d (.lit (List.map e_SPart r112))]) (by kernel_rfl) (by kernel_rfl) (Quiet.does (k_loadAgg 0 0 (by kernel_rfl) Try.underlying27 (by kernel_rfl) ty27 (by kernel_rfl))) ?_
      refine oOp (.agg [.ref 4 (List.length xs11) 0 (List.length xs11), .d (.lit (List.map e_i64 r135))]) (by kernel_rfl) (by kernel_rfl) (Quiet.does (k_loadAgg 2 0 (by kernel_rfl) Try.underlying31 (by kernel_rfl) ty31 (by kernel_rfl))) ?_
      refine oOp (.d (.lit (List.map e_i64 r181))) (by kernel_rfl) (by kernel_rfl) (PureV.does (p_move (by kernel_rfl))) ?_
      refine oFreeze 4 (esz := 1) (xs := List.map e_Li64 xs11) (by kernel_rfl) ?_
      refine oView (H' := [.box [.d (.int .i64 0), .d (.int .i64 0), .d (.lit (List.map e_SPart r112))], .box [.d (.lit (List.map e_Li64 r113)), .d (.lit (List.map e_i64 r135))], .box [.ref 4 (List.length xs11) 0 (List.length xs11), .d (.lit (List.map e_i64 r135))], .sl 1 (List.map e_i64 xs10) true, .sl 1 (List.map e_Li64 xs11) true]) rfl (by kernel_rfl) ?_
      refine bCall (caps := []) (v := (uc fun (r139 : (List Int)) => (fun (r144 : Int) => (.tuple [.d (.lit (List.map e_i64 r139)), .d (.int .i64 r144)] : V)))) (H' := (uc fun (r139 : (List Int)) => (fun (r144 : Int) => ([.box [.d (.int .i64 0), .d (.int .i64 0), .d (.lit (List.map e_SPart r112))], .box [.d (.lit (List.map e_Li64 r113)), .d (.lit (List.map e_i64 r135))], .box [.ref 4 (List.length xs11) 0 (List.length xs11), .d (.lit (List.map e_i64 r135))], .sl 1 (List.map e_i64 xs10) true, .sl 1 (List.map e_Li64 xs11) true] : List Blk)))) [] _ (scheme_Closed_goes k 0 0 r112 xs11 r135 r181) (by kernel_rfl) (by kernel_rfl) rfl (by kernel_rfl) Try.func16 rfl (by kernel_rfl) (convList (vs0 := [.agg [.d (.int .i64 0), .d (.int .i64 0), .d (.lit (List.map e_SPart r112))], .agg [.ref 4 (List.length xs11) 0 (List.length xs11), .d (.lit (List.map e_i64 r135))], .d (.lit (List.map e_i64 r181))]) (vs := [.agg [.d (.int .i64 0), .d (.int .i64 0), .d (.lit (List.map e_SPart r112))], .agg [.d (.lit (List.map e_Li64 xs11)), .d (.lit (List.map e_i64 r135))], .d (.lit (List.map e_i64 r181))]) (by kernel_rfl) (.cons _ _ _ _ (.same _) (.cons _ _ _ _ (.agg _ _ (.cons _ _ _ _ (k_lit (enc := e_Li64) (sz := 1) 4 xs11 (by kernel_rfl)) (.cons _ _ _ _ (.same _) .nil))) (.cons _ _ _ _ (.same _) .nil)))) (by kernel_rfl) (by kernel_rfl) (by kernel_rfl) (by decide) (by kernel_rfl) (by kernel_rfl) (fun _ => (by kernel_rfl)) (fun _ => (by kernel_rfl)) (fun _ => (by kernel_rfl)) (fun r => ?_)
      obtain ⟨r139, r144⟩ := r
      refine bUc ?_
      refine oOp (.tuple [.d (.lit (List.map e_i64 r139)), .d (.int .i64 r144)]) (by kernel_rfl) (by kernel_rfl) (PureV.does (p_move (by kernel_rfl))) ?_
      refine oOp (.d (.lit (List.map e_i64 r139))) (by kernel_rfl) (by kernel_rfl) (PureV.does (k_extract (by kernel_rfl))) ?_
      refine oOp (.d (.int .i64 r144)) (by kernel_rfl) (by kernel_rfl) (PureV.does (k_extract (by kernel_rfl))) ?_
      refine oOp (.d (.lit (List.map e_i64 r139))) (by kernel_rfl) (by kernel_rfl) (PureV.does (p_assign (by kernel_rfl))) ?_
      refine oOp (.d (.int .i64 r144)) (by kernel_rfl) (by kernel_rfl) (PureV.does (p_assign (by kernel_rfl))) ?_
      refine oEnd ?_
      refine oSeq ?_
      refine oSeq ?_
      refine oRegion rfl ?_
      refine oOp (.d (.int .i64 r143)) (by kernel_rfl) (by kernel_rfl) (PureV.does (p_move (by kernel_rfl))) ?_
      refine oOp (.d (.bool (r143 != 0))) (by kernel_rfl) (by kernel_rfl) (PureV.does (p_int (k := .i64) (p := r143) (q := 0) (by kernel_rfl) (by kernel_rfl) (by kernel_rfl))) ?_
      refine oOp (.d (.bool (r143 != 0))) (by kernel_rfl) (by kernel_rfl) (PureV.does (p_move (by kernel_rfl))) ?_
      refine bMeetF (H' := [.box [.d (.int .i64 0), .d (.int .i64 0), .d (.lit (List.map e_SPart r112))]]) 3 rfl ((fun (x15 : Bool) => [(1, .d (.int .i64 r16)), (2, .d (.int .i64 r17)), (8, .ptr 0 0), (10, .d (.lit (List.map e_i64 r181))), (14, .d (.lit (List.map e_i64 r138))), (16, .d (.lit (List.map e_i64 r139))), (108, .d (.bool x15))])) (fun x15 => ?_) (fun F hj12 => ?_)
      · refine oView (T' := [(1, .d (.int .i64 r16)), (2, .d (.int .i64 r17)), (8, .ptr 0 0), (10, .d (.lit (List.map e_i64 r181))), (14, .d (.lit (List.map e_i64 r138))), (16, .d (.lit (List.map e_i64 r139))), (108, .d (.bool x15))]) (H' := [.box [.d (.int .i64 0), .d (.int .i64 0), .d (.lit (List.map e_SPart r112))]]) (by kernel_rfl) (by kernel_rfl) ?_
        refine oOp (.d (.bool x15)) (by kernel_rfl) (by kernel_rfl) (PureV.does (p_move (by kernel_rfl))) ?_
        refine bMeetF (H' := [.box [.d (.int .i64 0), .d (.int .i64 0), .d (.lit (List.map e_SPart r112))]]) 6 rfl ((fun (x16 : Bool) => [(1, .d (.int .i64 r16)), (2, .d (.int .i64 r17)), (8, .ptr 0 0), (10, .d (.lit (List.map e_i64 r181))), (14, .d (.lit (List.map e_i64 r138))), (16, .d (.lit (List.map e_i64 r139))), (115, .d (.bool x16))])) (fun x16 => ?_) (fun F hj13 => ?_)
        · refine oView (T' := [(1, .d (.int .i64 r16)), (2, .d (.int .i64 r17)), (8, .ptr 0 0), (10, .d (.lit (List.map e_i64 r181))), (14, .d (.lit (List.map e_i64 r138))), (16, .d (.lit (List.map e_i64 r139))), (115, .d (.bool x16))]) (H' := [.box [.d (.int .i64 0), .d (.int .i64 0), .d (.lit (List.map e_SPart r112))]]) (by kernel_rfl) (by kernel_rfl) ?_
          refine oOp (.d (.bool x16)) (by kernel_rfl) (by kernel_rfl) (PureV.does (p_move (by kernel_rfl))) ?_
          refine bMeetF (H' := [.box [.d (.int .i64 0), .d (.int .i64 0), .d (.lit (List.map e_SPart r112))]]) 6 rfl ((fun (x17 : Bool) => [(1, .d (.int .i64 r16)), (2, .d (.int .i64 r17)), (8, .ptr 0 0), (10, .d (.lit (List.map e_i64 r181))), (14, .d (.lit (List.map e_i64 r138))), (16, .d (.lit (List.map e_i64 r139))), (122, .d (.bool x17))])) (fun x17 => ?_) (fun F hj14 => ?_)
          · refine oView (T' := [(1, .d (.int .i64 r16)), (2, .d (.int .i64 r17)), (8, .ptr 0 0), (10, .d (.lit (List.map e_i64 r181))), (14, .d (.lit (List.map e_i64 r138))), (16, .d (.lit (List.map e_i64 r139))), (122, .d (.bool x17))]) (H' := [.box [.d (.int .i64 0), .d (.int .i64 0), .d (.lit (List.map e_SPart r112))]]) (by kernel_rfl) (by kernel_rfl) ?_
            refine oEnd ?_
            refine bSplit 122 (by kernel_rfl) (fun hc => ?_) (fun hc => ?_)
            · refine oCondT (by kernel_rfl) ?_
              refine oSeq ?_
              refine oRegion rfl ?_
              refine oOp (.d (.bool false)) (by kernel_rfl) (by kernel_rfl) (PureV.does (p_assign (by kernel_rfl))) ?_
              refine oEnd ?_
              exact oRet (r0 := false) (rv := .d (.bool false)) (B := []) (vs := [.d (.bool false)]) (σ := []) (by kernel_rfl) Try.func11 rfl (.cons _ _ _ _ (.tmp 6 _ (by kernel_rfl)) .nil) (by kernel_rfl) (by kernel_rfl) (by kernel_rfl) (by kernel_rfl) (by decide) (by kernel_rfl) (by kernel_rfl)
            · refine oCondF (by kernel_rfl) ?_
              refine oSkip ?_
              refine oSeq ?_
              refine oSeq ?_
              refine oRegion rfl ?_
              refine oOp (.d (.int .i64 0)) (by kernel_rfl) (by kernel_rfl) (PureV.does (p_assign (by kernel_rfl))) ?_
              refine oEnd ?_
              refine bJoin ((u0 ([]))) ((u0 ([]))) Sum.inl (fun s => ?_) (fun hj19 => ?_)
              · cases s
                refine bInl ?_
                refine bU0 ?_
                refine oView (T' := []) (H' := []) (by kernel_rfl) (by kernel_rfl) ?_
                refine oSeq ?_
                refine oRegion rfl ?_
                refine bCall (caps := []) (v := (fun (r125 : Bool) => (.d (.bool r125) : V))) (H' := (fun (r125 : Bool) => ([] : List Blk))) [] _ (law23_awake_goes k ) (by kernel_rfl) (by kernel_rfl) rfl (by kernel_rfl) Try.func19 rfl (by kernel_rfl) (ConvRs.refl _ _) (by kernel_rfl) (by kernel_rfl) (by kernel_rfl) (by decide) (by kernel_rfl) (by kernel_rfl) (fun _ => (by kernel_rfl)) (fun _ => (by kernel_rfl)) (fun _ => (by kernel_rfl)) (fun r125 => ?_)
                refine oOp (.d (.bool r125)) (by kernel_rfl) (by kernel_rfl) (PureV.does (p_assign (by kernel_rfl))) ?_
                refine oEnd ?_
                exact oRet (r0 := r125) (rv := .d (.bool r125)) (B := []) (vs := [.d (.bool r125)]) (σ := []) (by kernel_rfl) Try.func11 rfl (.cons _ _ _ _ (.tmp 6 _ (by kernel_rfl)) .nil) (by kernel_rfl) (by kernel_rfl) (by kernel_rfl) (by kernel_rfl) (by decide) (by kernel_rfl) (by kernel_rfl)
              · refine oBlock ?_
                refine oLoop ?_
                refine oHead [1, 2, 8, 10, 14, 16, 18] [0] (T' := [(1, .d (.int .i64 r16)), (2, .d (.int .i64 r17)), (8, .ptr 0 0), (10, .d (.lit (List.map e_i64 r181))), (14, .d (.lit (List.map e_i64 r138))), (16, .d (.lit (List.map e_i64 r139))), (18, .d (.int .i64 0))]) (H' := [.box [.d (.int .i64 0), .d (.int .i64 0), .d (.lit (List.map e_SPart r112))]]) (by kernel_rfl) (by kernel_rfl) (by kernel_rfl) (by kernel_rfl) (by decide) (by kernel_rfl) (by kernel_rfl) ?_
                refine bLoop (body := law23_SchemeWider_b1 k r112 r181 r16 r17 r138 r139) ((fun (i4 : Int) => [(1, .d (.int .i64 r16)), (2, .d (.int .i64 r17)), (8, .ptr 0 0), (10, .d (.lit (List.map e_i64 r181))), (14, .d (.lit (List.map e_i64 r138))), (16, .d (.lit (List.map e_i64 r139))), (18, .d (.int .i64 i4))])) ((fun (i4 : Int) => [.box [.d (.int .i64 0), .d (.int .i64 0), .d (.lit (List.map e_SPart r112))]])) (fun again hag1 i4 => ?_) k 0
                · unfold law23_SchemeWider_b1
                  refine oView (T' := [(1, .d (.int .i64 r16)), (2, .d (.int .i64 r17)), (8, .ptr 0 0), (10, .d (.lit (List.map e_i64 r181))), (14, .d (.lit (List.map e_i64 r138))), (16, .d (.lit (List.map e_i64 r139))), (18, .d (.int .i64 i4))]) (H' := [.box [.d (.int .i64 0), .d (.int .i64 0), .d (.lit (List.map e_SPart r112))]]) (by kernel_rfl) (by kernel_rfl) ?_
                  refine oSeq ?_
                  refine oSeq ?_
                  refine oRegion rfl ?_
                  refine oOp (.d (.int .i64 i4)) (by kernel_rfl) (by kernel_rfl) (PureV.does (p_move (by kernel_rfl))) ?_
                  refine oOp (.d (.lit (List.map e_i64 r181))) (by kernel_rfl) (by kernel_rfl) (PureV.does (p_move (by kernel_rfl))) ?_
                  refine oOp (.d (.int .i64 ((List.length r181) : Int))) (by kernel_rfl) (by kernel_rfl) (PureV.does (k_lenLit (enc := e_i64) r181 (by kernel_rfl) Try.underlying22)) ?_
                  refine oOp (.d (.bool (decide (i4 < ((List.length r181) : Int))))) (by kernel_rfl) (by kernel_rfl) (PureV.does (p_int (k := .i64) (p := i4) (q := ((List.length r181) : Int)) (by kernel_rfl) (by kernel_rfl) (by kernel_rfl))) ?_
                  refine oEnd ?_
                  refine bSplit 126 (by kernel_rfl) (fun hc => ?_) (fun hc => ?_)
                  · refine oCondT (by kernel_rfl) ?_
                    refine oSkip ?_
                    refine oSeq ?_
                    refine oBlock ?_
                    refine oSeq ?_
                    refine oRegion rfl ?_
                    refine oOp (.d (.lit (List.map e_i64 r138))) (by kernel_rfl) (by kernel_rfl) (PureV.does (p_move (by kernel_rfl))) ?_
                    refine oOp (.d (.int .i64 i4)) (by kernel_rfl) (by kernel_rfl) (PureV.does (p_move (by kernel_rfl))) ?_
                    refine bIdx (fun e160 h1126 h1127 => ?_)
                    refine oOp (.lptr (e_i64 e160) 0) (by kernel_rfl) (by kernel_rfl) (PureV.does (k_idxLit e_i64_len r138 (a := e160) (by kernel_rfl) (k := .i64) (i := i4) (by kernel_rfl) Try.underlying22 ty3 h1126 h1127)) ?_
                    refine oOp (.d (.int .i64 e160)) (by kernel_rfl) (by kernel_rfl) (Quiet.does (k_loadL (cells := e_i64 e160) 0 (by kernel_rfl) Try.underlying3 (by kernel_rfl) (by kernel_rfl))) ?_
                    refine oOp (.d (.int .i64 e160)) (by kernel_rfl) (by kernel_rfl) (PureV.does (p_assign (by kernel_rfl))) ?_
                    refine oEnd ?_
                    refine oSeq ?_
                    refine oSeq ?_
                    refine oRegion rfl ?_
                    refine oOp (.d (.int .i64 i4)) (by kernel_rfl) (by kernel_rfl) (PureV.does (p_move (by kernel_rfl))) ?_
                    refine oOp (.d (.int .i64 r16)) (by kernel_rfl) (by kernel_rfl) (PureV.does (p_move (by kernel_rfl))) ?_
                    refine oOp (.d (.bool (i4 == r16))) (by kernel_rfl) (by kernel_rfl) (PureV.does (p_int (k := .i64) (p := i4) (q := r16) (by kernel_rfl) (by kernel_rfl) (by kernel_rfl))) ?_
                    refine oOp (.d (.bool (i4 == r16))) (by kernel_rfl) (by kernel_rfl) (PureV.does (p_move (by kernel_rfl))) ?_
                    refine bMeet 7 rfl ((fun (x27 : Bool) => [(1, .d (.int .i64 r16)), (2, .d (.int .i64 r17)), (8, .ptr 0 0), (10, .d (.lit (List.map e_i64 r181))), (14, .d (.lit (List.map e_i64 r138))), (16, .d (.lit (List.map e_i64 r139))), (18, .d (.int .i64 i4)), (19, .d (.int .i64 e160)), (143, .d (.bool x27))])) ((fun (x27 : Bool) => [.box [.d (.int .i64 0), .d (.int .i64 0), .d (.lit (List.map e_SPart r112))]])) (fun s => s) (fun x27 => ?_) (fun hj26 => ?_)
                    · refine oView (T' := [(1, .d (.int .i64 r16)), (2, .d (.int .i64 r17)), (8, .ptr 0 0), (10, .d (.lit (List.map e_i64 r181))), (14, .d (.lit (List.map e_i64 r138))), (16, .d (.lit (List.map e_i64 r139))), (18, .d (.int .i64 i4)), (19, .d (.int .i64 e160)), (143, .d (.bool x27))]) (H' := [.box [.d (.int .i64 0), .d (.int .i64 0), .d (.lit (List.map e_SPart r112))]]) (by kernel_rfl) (by kernel_rfl) ?_
                      refine oEnd ?_
                      refine bJoin ((fun (want13 : Int) => [(1, .d (.int .i64 r16)), (2, .d (.int .i64 r17)), (8, .ptr 0 0), (10, .d (.lit (List.map e_i64 r181))), (14, .d (.lit (List.map e_i64 r138))), (16, .d (.lit (List.map e_i64 r139))), (18, .d (.int .i64 i4)), (19, .d (.int .i64 want13))])) ((fun (want13 : Int) => [.box [.d (.int .i64 0), .d (.int .i64 0), .d (.lit (List.map e_SPart r112))]])) (fun s => s) (fun want13 => ?_) (fun hj25 => ?_)
                      · refine oView (T' := [(1, .d (.int .i64 r16)), (2, .d (.int .i64 r17)), (8, .ptr 0 0), (10, .d (.lit (List.map e_i64 r181))), (14, .d (.lit (List.map e_i64 r138))), (16, .d (.lit (List.map e_i64 r139))), (18, .d (.int .i64 i4)), (19, .d (.int .i64 want13))]) (H' := [.box [.d (.int .i64 0), .d (.int .i64 0), .d (.lit (List.map e_SPart r112))]]) (by kernel_rfl) (by kernel_rfl) ?_
                        refine oSeq ?_
                        refine oRegion rfl ?_
                        refine oOp (.d (.lit (List.map e_i64 r139))) (by kernel_rfl) (by kernel_rfl) (PureV.does (p_move (by kernel_rfl))) ?_
                        refine oOp (.d (.int .i64 i4)) (by kernel_rfl) (by kernel_rfl) (PureV.does (p_move (by kernel_rfl))) ?_
                        refine bIdx (fun e163 h1132 h1133 => ?_)
                        refine oOp (.lptr (e_i64 e163) 0) (by kernel_rfl) (by kernel_rfl) (PureV.does (k_idxLit e_i64_len r139 (a := e163) (by kernel_rfl) (k := .i64) (i := i4) (by kernel_rfl) Try.underlying22 ty3 h1132 h1133)) ?_
                        refine oOp (.d (.int .i64 e163)) (by kernel_rfl) (by kernel_rfl) (Quiet.does (k_loadL (cells := e_i64 e163) 0 (by kernel_rfl) Try.underlying3 (by kernel_rfl) (by kernel_rfl))) ?_
                        refine oOp (.d (.int .i64 want13)) (by kernel_rfl) (by kernel_rfl) (PureV.does (p_move (by kernel_rfl))) ?_
                        refine oOp (.d (.bool (e163 != want13))) (by kernel_rfl) (by kernel_rfl) (PureV.does (p_int (k := .i64) (p := e163) (q := want13) (by kernel_rfl) (by kernel_rfl) (by kernel_rfl))) ?_
                        refine oEnd ?_
                        refine bSplit 155 (by kernel_rfl) (fun hc => ?_) (fun hc => ?_)
                        · refine oCondT (by kernel_rfl) ?_
                          refine oSeq ?_
                          refine oRegion rfl ?_
                          refine oOp (.d (.bool false)) (by kernel_rfl) (by kernel_rfl) (PureV.does (p_assign (by kernel_rfl))) ?_
                          refine oEnd ?_
                          exact oRet (r0 := false) (rv := .d (.bool false)) (B := []) (vs := [.d (.bool false)]) (σ := []) (by kernel_rfl) Try.func11 rfl (.cons _ _ _ _ (.tmp 6 _ (by kernel_rfl)) .nil) (by kernel_rfl) (by kernel_rfl) (by kernel_rfl) (by kernel_rfl) (by decide) (by kernel_rfl) (by kernel_rfl)
                        · refine oCondF (by kernel_rfl) ?_
                          refine oSkip ?_
                          refine oBlk ?_
                          refine oRegion rfl ?_
                          refine oOp (.d (.int .i64 i4)) (by kernel_rfl) (by kernel_rfl) (PureV.does (p_move (by kernel_rfl))) ?_
                          refine oOp (.d (.int .i64 (IntKind.wrap .i64 (i4 + 1)))) (by kernel_rfl) (by kernel_rfl) (PureV.does (p_int (k := .i64) (p := i4) (q := 1) (by kernel_rfl) (by kernel_rfl) (by kernel_rfl))) ?_
                          refine oOp (.d (.int .i64 (IntKind.wrap .i64 (i4 + 1)))) (by kernel_rfl) (by kernel_rfl) (PureV.does (p_assign (by kernel_rfl))) ?_
                          refine oEnd ?_
                          refine oAgain ?_
                          refine oHead [1, 2, 8, 10, 14, 16, 18] [0] (T' := [(1, .d (.int .i64 r16)), (2, .d (.int .i64 r17)), (8, .ptr 0 0), (10, .d (.lit (List.map e_i64 r181))), (14, .d (.lit (List.map e_i64 r138))), (16, .d (.lit (List.map e_i64 r139))), (18, .d (.int .i64 (IntKind.wrap .i64 (i4 + 1))))]) (H' := [.box [.d (.int .i64 0), .d (.int .i64 0), .d (.lit (List.map e_SPart r112))]]) (by kernel_rfl) (by kernel_rfl) (by kernel_rfl) (by kernel_rfl) (by decide) (by kernel_rfl) (by kernel_rfl) ?_
                          exact hag1 (IntKind.wrap .i64 (i4 + 1))
                      · refine bSplit 143 (by kernel_rfl) (fun hc => ?_) (fun hc => ?_)
                        · refine oCondT (by kernel_rfl) ?_
                          refine oRegion rfl ?_
                          refine oOp (.ptr 0 2) (by kernel_rfl) (by kernel_rfl) (PureV.does (k_fieldAddr 0 0 (by kernel_rfl) Try.underlying27 rfl ty25 (by kernel_rfl))) ?_
                          refine oOp (.d (.lit (List.map e_SPart r112))) (by kernel_rfl) (by kernel_rfl) (Quiet.does (k_load 0 2 (by kernel_rfl) Try.underlying25 (by kernel_rfl) (by kernel_rfl))) ?_
                          refine oOp (.d (.int .i64 i4)) (by kernel_rfl) (by kernel_rfl) (PureV.does (p_move (by kernel_rfl))) ?_
                          refine bIdx (fun e164 h1134 h1135 => ?_)
                          refine oOp (.lptr (e_SPart e164) 0) (by kernel_rfl) (by kernel_rfl) (PureV.does (k_idxLit e_SPart_len r112 (a := e164) (by kernel_rfl) (k := .i64) (i := i4) (by kernel_rfl) Try.underlying25 ty49 h1134 h1135)) ?_
                          refine oOp (.lptr (e_SPart e164) 1) (by kernel_rfl) (by kernel_rfl) (PureV.does (k_fieldAddrL (cells := e_SPart e164) 0 (by kernel_rfl) Try.underlying49 rfl ty3 (by kernel_rfl))) ?_
                          refine oOp (.d (.int .i64 e164.Max)) (by kernel_rfl) (by kernel_rfl) (Quiet.does (k_loadL (cells := e_SPart e164) 1 (by kernel_rfl) Try.underlying3 (by kernel_rfl) (by kernel_rfl))) ?_
                          refine oOp (.d (.int .i64 e164.Max)) (by kernel_rfl) (by kernel_rfl) (PureV.does (p_assign (by kernel_rfl))) ?_
                          refine oEnd ?_
                          refine oHead [1, 2, 8, 10, 14, 16, 18, 19] [0] (T' := [(1, .d (.int .i64 r16)), (2, .d (.int .i64 r17)), (8, .ptr 0 0), (10, .d (.lit (List.map e_i64 r181))), (14, .d (.lit (List.map e_i64 r138))), (16, .d (.lit (List.map e_i64 r139))), (18, .d (.int .i64 i4)), (19, .d (.int .i64 e164.Max))]) (H' := [.box [.d (.int .i64 0), .d (.int .i64 0), .d (.lit (List.map e_SPart r112))]]) (by kernel_rfl) (by kernel_rfl) (by kernel_rfl) (by kernel_rfl) (by decide) (by kernel_rfl) (by kernel_rfl) ?_
                          exact hj25 e164.Max
                        · refine oCondF (by kernel_rfl) ?_
                          refine oSkip ?_
                          refine oHead [1, 2, 8, 10, 14, 16, 18, 19] [0] (T' := [(1, .d (.int .i64 r16)), (2, .d (.int .i64 r17)), (8, .ptr 0 0), (10, .d (.lit (List.map e_i64 r181))), (14, .d (.lit (List.map e_i64 r138))), (16, .d (.lit (List.map e_i64 r139))), (18, .d (.int .i64 i4)), (19, .d (.int .i64 e160))]) (H' := [.box [.d (.int .i64 0), .d (.int .i64 0), .d (.lit (List.map e_SPart r112))]]) (by kernel_rfl) (by kernel_rfl) (by kernel_rfl) (by kernel_rfl) (by decide) (by kernel_rfl) (by kernel_rfl) ?_
                          exact hj25 e160
                    · refine bSplit 136 (by kernel_rfl) (fun hc => ?_) (fun hc => ?_)
                      · refine oOp (.d (.lit (List.map e_i64 r181))) (by kernel_rfl) (by kernel_rfl) (PureV.does (p_move (by kernel_rfl))) ?_
                        refine oOp (.d (.int .i64 i4)) (by kernel_rfl) (by kernel_rfl) (PureV.does (p_move (by kernel_rfl))) ?_
                        refine bIdx (fun e165 h1136 h1137 => ?_)
                        refine oOp (.lptr (e_i64 e165) 0) (by kernel_rfl) (by kernel_rfl) (PureV.does (k_idxLit e_i64_len r181 (a := e165) (by kernel_rfl) (k := .i64) (i := i4) (by kernel_rfl) Try.underlying22 ty3 h1136 h1137)) ?_
                        refine oOp (.d (.int .i64 e165)) (by kernel_rfl) (by kernel_rfl) (Quiet.does (k_loadL (cells := e_i64 e165) 0 (by kernel_rfl) Try.underlying3 (by kernel_rfl) (by kernel_rfl))) ?_
                        refine oOp (.d (.int .i64 r17)) (by kernel_rfl) (by kernel_rfl) (PureV.does (p_move (by kernel_rfl))) ?_
                        refine oOp (.d (.bool (e165 == r17))) (by kernel_rfl) (by kernel_rfl) (PureV.does (p_int (k := .i64) (p := e165) (q := r17) (by kernel_rfl) (by kernel_rfl) (by kernel_rfl))) ?_
                        refine oOp (.d (.bool (e165 == r17))) (by kernel_rfl) (by kernel_rfl) (PureV.does (p_pick (b := true) (by kernel_rfl) (by kernel_rfl))) ?_
                        refine oHead [1, 2, 8, 10, 14, 16, 18, 19, 143] [0] (T' := [(1, .d (.int .i64 r16)), (2, .d (.int .i64 r17)), (8, .ptr 0 0), (10, .d (.lit (List.map e_i64 r181))), (14, .d (.lit (List.map e_i64 r138))), (16, .d (.lit (List.map e_i64 r139))), (18, .d (.int .i64 i4)), (19, .d (.int .i64 e160)), (143, .d (.bool (e165 == r17)))]) (H' := [.box [.d (.int .i64 0), .d (.int .i64 0), .d (.lit (List.map e_SPart r112))]]) (by kernel_rfl) (by kernel_rfl) (by kernel_rfl) (by kernel_rfl) (by decide) (by kernel_rfl) (by kernel_rfl) ?_
                        exact hj26 (e165 == r17)
                      · refine oNot (by kernel_rfl) (by kernel_rfl) ?_
                        refine oNot (by kernel_rfl) (by kernel_rfl) ?_
                        refine oNot (by kernel_rfl) (by kernel_rfl) ?_
                        refine oNot (by kernel_rfl) (by kernel_rfl) ?_
                        refine oNot (by kernel_rfl) (by kernel_rfl) ?_
                        refine oNot (by kernel_rfl) (by kernel_rfl) ?_
                        refine oOp (.d (.bool false)) (by kernel_rfl) (by kernel_rfl) (PureV.does (p_pick (b := false) (by kernel_rfl) (by kernel_rfl))) ?_
                        refine oHead [1, 2, 8, 10, 14, 16, 18, 19, 143] [0] (T' := [(1, .d (.int .i64 r16)), (2, .d (.int .i64 r17)), (8, .ptr 0 0), (10, .d (.lit (List.map e_i64 r181))), (14, .d (.lit (List.map e_i64 r138))), (16, .d (.lit (List.map e_i64 r139))), (18, .d (.int .i64 i4)), (19, .d (.int .i64 e160)), (143, .d (.bool false))]) (H' := [.box [.d (.int .i64 0), .d (.int .i64 0), .d (.lit (List.map e_SPart r112))]]) (by kernel_rfl) (by kernel_rfl) (by kernel_rfl) (by kernel_rfl) (by decide) (by kernel_rfl) (by kernel_rfl) ?_
                        exact hj26 false
                  · refine oCondF (by kernel_rfl) ?_
                    refine oExit rfl ?_
                    refine oHead [] [] (T' := []) (H' := []) (by kernel_rfl) (by kernel_rfl) (by kernel_rfl) (by kernel_rfl) (by decide) (by kernel_rfl) (by kernel_rfl) ?_
                    exact hj19 ()
          · refine bPickF 116 (fun c => F (c || (((List.length r139) : Int) != ((List.length r181) : Int)))) (by kernel_rfl) (fun hc => ?_) (fun hc => ?_)
            · refine oNot (by kernel_rfl) (by kernel_rfl) ?_
              refine oNot (by kernel_rfl) (by kernel_rfl) ?_
              refine oNot (by kernel_rfl) (by kernel_rfl) ?_
              refine oNot (by kernel_rfl) (by kernel_rfl) ?_
              refine oNot (by kernel_rfl) (by kernel_rfl) ?_
              refine oOp (.d (.bool true)) (by kernel_rfl) (by kernel_rfl) (PureV.does (p_pick (b := true) (by kernel_rfl) (by kernel_rfl))) ?_
              refine oHead [1, 2, 8, 10, 14, 16, 122] [0] (T' := [(1, .d (.int .i64 r16)), (2, .d (.int .i64 r17)), (8, .ptr 0 0), (10, .d (.lit (List.map e_i64 r181))), (14, .d (.lit (List.map e_i64 r138))), (16, .d (.lit (List.map e_i64 r139))), (122, .d (.bool true))]) (H' := [.box [.d (.int .i64 0), .d (.int .i64 0), .d (.lit (List.map e_SPart r112))]]) (by kernel_rfl) (by kernel_rfl) (by kernel_rfl) (by kernel_rfl) (by decide) (by kernel_rfl) (by kernel_rfl) ?_
              exact hj14 true
            · refine oOp (.d (.lit (List.map e_i64 r139))) (by kernel_rfl) (by kernel_rfl) (PureV.does (p_move (by kernel_rfl))) ?_
              refine oOp (.d (.int .i64 ((List.length r139) : Int))) (by kernel_rfl) (by kernel_rfl) (PureV.does (k_lenLit (enc := e_i64) r139 (by kernel_rfl) Try.underlying22)) ?_
              refine oOp (.d (.lit (List.map e_i64 r181))) (by kernel_rfl) (by kernel_rfl) (PureV.does (p_move (by kernel_rfl))) ?_
              refine oOp (.d (.int .i64 ((List.length r181) : Int))) (by kernel_rfl) (by kernel_rfl) (PureV.does (k_lenLit (enc := e_i64) r181 (by kernel_rfl) Try.underlying22)) ?_
              refine oOp (.d (.bool (((List.length r139) : Int) != ((List.length r181) : Int)))) (by kernel_rfl) (by kernel_rfl) (PureV.does (p_int (k := .i64) (p := ((List.length r139) : Int)) (q := ((List.length r181) : Int)) (by kernel_rfl) (by kernel_rfl) (by kernel_rfl))) ?_
              refine oOp (.d (.bool (((List.length r139) : Int) != ((List.length r181) : Int)))) (by kernel_rfl) (by kernel_rfl) (PureV.does (p_pick (b := false) (by kernel_rfl) (by kernel_rfl))) ?_
              refine oHead [1, 2, 8, 10, 14, 16, 122] [0] (T' := [(1, .d (.int .i64 r16)), (2, .d (.int .i64 r17)), (8, .ptr 0 0), (10, .d (.lit (List.map e_i64 r181))), (14, .d (.lit (List.map e_i64 r138))), (16, .d (.lit (List.map e_i64 r139))), (122, .d (.bool (((List.length r139) : Int) != ((List.length r181) : Int))))]) (H' := [.box [.d (.int .i64 0), .d (.int .i64 0), .d (.lit (List.map e_SPart r112))]]) (by kernel_rfl) (by kernel_rfl) (by kernel_rfl) (by kernel_rfl) (by decide) (by kernel_rfl) (by kernel_rfl) ?_
              exact hj14 (((List.length r139) : Int) != ((List.length r181) : Int))
        · refine bPickF 109 (fun c => F (c || (((List.length r138) : Int) != ((List.length r181) : Int)))) (by kernel_rfl) (fun hc => ?_) (fun hc => ?_)
          · refine oNot (by kernel_rfl) (by kernel_rfl) ?_
            refine oNot (by kernel_rfl) (by kernel_rfl) ?_
            refine oNot (by kernel_rfl) (by kernel_rfl) ?_
            refine oNot (by kernel_rfl) (by kernel_rfl) ?_
            refine oNot (by kernel_rfl) (by kernel_rfl) ?_
            refine oOp (.d (.bool true)) (by kernel_rfl) (by kernel_rfl) (PureV.does (p_pick (b := true) (by kernel_rfl) (by kernel_rfl))) ?_
            refine oHead [1, 2, 8, 10, 14, 16, 115] [0] (T' := [(1, .d (.int .i64 r16)), (2, .d (.int .i64 r17)), (8, .ptr 0 0), (10, .d (.lit (List.map e_i64 r181))), (14, .d (.lit (List.map e_i64 r138))), (16, .d (.lit (List.map e_i64 r139))), (115, .d (.bool true))]) (H' := [.box [.d (.int .i64 0), .d (.int .i64 0), .d (.lit (List.map e_SPart r112))]]) (by kernel_rfl) (by kernel_rfl) (by kernel_rfl) (by kernel_rfl) (by decide) (by kernel_rfl) (by kernel_rfl) ?_
            exact hj13 true
          · refine oOp (.d (.lit (List.map e_i64 r138))) (by kernel_rfl) (by kernel_rfl) (PureV.does (p_move (by kernel_rfl))) ?_
            refine oOp (.d (.int .i64 ((List.length r138) : Int))) (by kernel_rfl) (by kernel_rfl) (PureV.does (k_lenLit (enc := e_i64) r138 (by kernel_rfl) Try.underlying22)) ?_
            refine oOp (.d (.lit (List.map e_i64 r181))) (by kernel_rfl) (by kernel_rfl) (PureV.does (p_move (by kernel_rfl))) ?_
            refine oOp (.d (.int .i64 ((List.length r181) : Int))) (by kernel_rfl) (by kernel_rfl) (PureV.does (k_lenLit (enc := e_i64) r181 (by kernel_rfl) Try.underlying22)) ?_
            refine oOp (.d (.bool (((List.length r138) : Int) != ((List.length r181) : Int)))) (by kernel_rfl) (by kernel_rfl) (PureV.does (p_int (k := .i64) (p := ((List.length r138) : Int)) (q := ((List.length r181) : Int)) (by kernel_rfl) (by kernel_rfl) (by kernel_rfl))) ?_
            refine oOp (.d (.bool (((List.length r138) : Int) != ((List.length r181) : Int)))) (by kernel_rfl) (by kernel_rfl) (PureV.does (p_pick (b := false) (by kernel_rfl) (by kernel_rfl))) ?_
            refine oHead [1, 2, 8, 10, 14, 16, 115] [0] (T' := [(1, .d (.int .i64 r16)), (2, .d (.int .i64 r17)), (8, .ptr 0 0), (10, .d (.lit (List.map e_i64 r181))), (14, .d (.lit (List.map e_i64 r138))), (16, .d (.lit (List.map e_i64 r139))), (115, .d (.bool (((List.length r138) : Int) != ((List.length r181) : Int))))]) (H' := [.box [.d (.int .i64 0), .d (.int .i64 0), .d (.lit (List.map e_SPart r112))]]) (by kernel_rfl) (by kernel_rfl) (by kernel_rfl) (by kernel_rfl) (by decide) (by kernel_rfl) (by kernel_rfl) ?_
            exact hj13 (((List.length r138) : Int) != ((List.length r181) : Int))
      · refine bPickF 105 (fun c => F (c || (r144 != 0))) (by kernel_rfl) (fun hc => ?_) (fun hc => ?_)
        · refine oNot (by kernel_rfl) (by kernel_rfl) ?_
          refine oNot (by kernel_rfl) (by kernel_rfl) ?_
          refine oOp (.d (.bool true)) (by kernel_rfl) (by kernel_rfl) (PureV.does (p_pick (b := true) (by kernel_rfl) (by kernel_rfl))) ?_
          refine oHead [1, 2, 8, 10, 14, 16, 108] [0] (T' := [(1, .d (.int .i64 r16)), (2, .d (.int .i64 r17)), (8, .ptr 0 0), (10, .d (.lit (List.map e_i64 r181))), (14, .d (.lit (List.map e_i64 r138))), (16, .d (.lit (List.map e_i64 r139))), (108, .d (.bool true))]) (H' := [.box [.d (.int .i64 0), .d (.int .i64 0), .d (.lit (List.map e_SPart r112))]]) (by kernel_rfl) (by kernel_rfl) (by kernel_rfl) (by kernel_rfl) (by decide) (by kernel_rfl) (by kernel_rfl) ?_
          exact hj12 true
        · refine oOp (.d (.int .i64 r144)) (by kernel_rfl) (by kernel_rfl) (PureV.does (p_move (by kernel_rfl))) ?_
          refine oOp (.d (.bool (r144 != 0))) (by kernel_rfl) (by kernel_rfl) (PureV.does (p_int (k := .i64) (p := r144) (q := 0) (by kernel_rfl) (by kernel_rfl) (by kernel_rfl))) ?_
          refine oOp (.d (.bool (r144 != 0))) (by kernel_rfl) (by kernel_rfl) (PureV.does (p_pick (b := false) (by kernel_rfl) (by kernel_rfl))) ?_
          refine oHead [1, 2, 8, 10, 14, 16, 108] [0] (T' := [(1, .d (.int .i64 r16)), (2, .d (.int .i64 r17)), (8, .ptr 0 0), (10, .d (.lit (List.map e_i64 r181))), (14, .d (.lit (List.map e_i64 r138))), (16, .d (.lit (List.map e_i64 r139))), (108, .d (.bool (r144 != 0)))]) (H' := [.box [.d (.int .i64 0), .d (.int .i64 0), .d (.lit (List.map e_SPart r112))]]) (by kernel_rfl) (by kernel_rfl) (by kernel_rfl) (by kernel_rfl) (by decide) (by kernel_rfl) (by kernel_rfl) ?_
          exact hj12 (r144 != 0)
    · refine oBlock ?_
      refine oLoop ?_
      refine oVirt (esz := 1) 12 (by kernel_rfl) ?_
      refine oView (H' := [.box [.d (.lit (List.map e_i64 x12)), .d (.int .i64 x101)], .box [.d (.int .i64 0), .d (.int .i64 0), .d (.lit (List.map e_SPart r112))], .box [.d (.lit (List.map e_Li64 r113)), .d (.lit (List.map e_i64 r135))], .box [.ref 4 (List.length r113) 0 (List.length r113), .d (.lit (List.map e_i64 r135))], .sl 1 (List.map e_Li64 r113) false, .sl 1 (List.map e_i64 ([] : List Int)) false]) rfl (by kernel_rfl) ?_
      refine oHead [1, 2, 8, 9, 10, 11, 12, 13] [1, 2, 3, 5, 4] (T' := [(1, .d (.int .i64 r16)), (2, .d (.int .i64 r17)), (8, .ptr 0 0), (9, .ptr 1 0), (10, .d (.lit (List.map e_i64 r181))), (11, .ptr 2 0), (12, .ref 3 (List.length ([] : List Int)) 0 (List.length ([] : List Int))), (13, .d (.int .i64 0))]) (H' := [.box [.d (.int .i64 0), .d (.int .i64 0), .d (.lit (List.map e_SPart r112))], .box [.d (.lit (List.map e_Li64 r113)), .d (.lit (List.map e_i64 r135))], .box [.ref 4 (List.length r113) 0 (List.length r113), .d (.lit (List.map e_i64 r135))], .sl 1 (List.map e_i64 ([] : List Int)) false, .sl 1 (List.map e_Li64 r113) false]) (by kernel_rfl) (by kernel_rfl) (by kernel_rfl) (by kernel_rfl) (by decide) (by kernel_rfl) (by kernel_rfl) ?_
      refine bLoop (body := law23_SchemeWider_b2 k r112 r113 r135 r16 r17) ((uc fun (k14 : Int) => (fun (xs13 : (List Int)) => [(1, .d (.int .i64 r16)), (2, .d (.int .i64 r17)), (8, .ptr 0 0), (9, .ptr 1 0), (10, .d (.lit (List.map e_i64 r181))), (11, .ptr 2 0), (12, .ref 3 (List.length xs13) 0 (List.length xs13)), (13, .d (.int .i64 k14))]))) ((uc fun (k14 : Int) => (fun (xs13 : (List Int)) => [.box [.d (.int .i64 0), .d (.int .i64 0), .d (.lit (List.map e_SPart r112))], .box [.d (.lit (List.map e_Li64 r113)), .d (.lit (List.map e_i64 r135))], .box [.ref 4 (List.length r113) 0 (List.length r113), .d (.lit (List.map e_i64 r135))], .sl 1 (List.map e_i64 xs13) false, .sl 1 (List.map e_Li64 r113) false]))) (fun again hag2 s => ?_) k (0, ([] : List Int))
      · unfold law23_SchemeWider_b2
        obtain ⟨k14, xs13⟩ := s
        refine bUc ?_
        refine oView (T' := [(1, .d (.int .i64 r16)), (2, .d (.int .i64 r17)), (8, .ptr 0 0), (9, .ptr 1 0), (10, .d (.lit (List.map e_i64 r181))), (11, .ptr 2 0), (12, .ref 3 (List.length xs13) 0 (List.length xs13)), (13, .d (.int .i64 k14))]) (H' := [.box [.d (.int .i64 0), .d (.int .i64 0), .d (.lit (List.map e_SPart r112))], .box [.d (.lit (List.map e_Li64 r113)), .d (.lit (List.map e_i64 r135))], .box [.ref 4 (List.length r113) 0 (List.length r113), .d (.lit (List.map e_i64 r135))], .sl 1 (List.map e_i64 xs13) false, .sl 1 (List.map e_Li64 r113) false]) (by kernel_rfl) (by kernel_rfl) ?_
        refine oSeq ?_
        refine oSeq ?_
        refine oRegion rfl ?_
        refine oOp (.d (.int .i64 k14)) (by kernel_rfl) (by kernel_rfl) (PureV.does (p_move (by kernel_rfl))) ?_
        refine oOp (.ptr 0 2) (by kernel_rfl) (by kernel_rfl) (PureV.does (k_fieldAddr 0 0 (by kernel_rfl) Try.underlying27 rfl ty25 (by kernel_rfl))) ?_
        refine oOp (.d (.lit (List.map e_SPart r112))) (by kernel_rfl) (by kernel_rfl) (Quiet.does (k_load 0 2 (by kernel_rfl) Try.underlying25 (by kernel_rfl) (by kernel_rfl))) ?_
        refine oOp (.d (.int .i64 r16)) (by kernel_rfl) (by kernel_rfl) (PureV.does (p_move (by kernel_rfl))) ?_
        refine bIdx (fun e168 h1144 h1145 => ?_)
        refine oOp (.lptr (e_SPart e168) 0) (by kernel_rfl) (by kernel_rfl) (PureV.does (k_idxLit e_SPart_len r112 (a := e168) (by kernel_rfl) (k := .i64) (i := r16) (by kernel_rfl) Try.underlying25 ty49 h1144 h1145)) ?_
        refine oOp (.lptr (e_SPart e168) 4) (by kernel_rfl) (by kernel_rfl) (PureV.does (k_fieldAddrL (cells := e_SPart e168) 0 (by kernel_rfl) Try.underlying49 rfl ty3 (by kernel_rfl))) ?_
        refine oOp (.d (.int .i64 e168.Options)) (by kernel_rfl) (by kernel_rfl) (Quiet.does (k_loadL (cells := e_SPart e168) 4 (by kernel_rfl) Try.underlying3 (by kernel_rfl) (by kernel_rfl))) ?_
        refine oOp (.d (.bool (decide (k14 < e168.Options)))) (by kernel_rfl) (by kernel_rfl) (PureV.does (p_int (k := .i64) (p := k14) (q := e168.Options) (by kernel_rfl) (by kernel_rfl) (by kernel_rfl))) ?_
        refine oEnd ?_
        refine bSplit 67 (by kernel_rfl) (fun hc => ?_) (fun hc => ?_)
        · refine oCondT (by kernel_rfl) ?_
          refine oSkip ?_
          refine oSeq ?_
          refine bJoin ((fun (xs16 : (List Int)) => [(1, .d (.int .i64 r16)), (2, .d (.int .i64 r17)), (8, .ptr 0 0), (9, .ptr 1 0), (10, .d (.lit (List.map e_i64 r181))), (11, .ptr 2 0), (12, .ref 3 (List.length xs16) 0 (List.length xs16)), (13, .d (.int .i64 k14))])) ((fun (xs16 : (List Int)) => [.box [.d (.int .i64 0), .d (.int .i64 0), .d (.lit (List.map e_SPart r112))], .box [.d (.lit (List.map e_Li64 r113)), .d (.lit (List.map e_i64 r135))], .box [.ref 4 (List.length r113) 0 (List.length r113), .d (.lit (List.map e_i64 r135))], .sl 1 (List.map e_i64 xs16) false, .sl 1 (List.map e_Li64 r113) false])) (fun s => s) (fun xs16 => ?_) (fun hj29 => ?_)
          · refine oView (T' := [(1, .d (.int .i64 r16)), (2, .d (.int .i64 r17)), (8, .ptr 0 0), (9, .ptr 1 0), (10, .d (.lit (List.map e_i64 r181))), (11, .ptr 2 0), (12, .ref 3 (List.length xs16) 0 (List.length xs16)), (13, .d (.int .i64 k14))]) (H' := [.box [.d (.int .i64 0), .d (.int .i64 0), .d (.lit (List.map e_SPart r112))], .box [.d (.lit (List.map e_Li64 r113)), .d (.lit (List.map e_i64 r135))], .box [.ref 4 (List.length r113) 0 (List.length r113), .d (.lit (List.map e_i64 r135))], .sl 1 (List.map e_i64 xs16) false, .sl 1 (List.map e_Li64 r113) false]) (by kernel_rfl) (by kernel_rfl) ?_
            refine oRegion rfl ?_
            refine oOp (.d (.int .i64 k14)) (by kernel_rfl) (by kernel_rfl) (PureV.does (p_move (by kernel_rfl))) ?_
            refine oOp (.d (.int .i64 (IntKind.wrap .i64 (k14 + 1)))) (by kernel_rfl) (by kernel_rfl) (PureV.does (p_int (k := .i64) (p := k14) (q := 1) (by kernel_rfl) (by kernel_rfl) (by kernel_rfl))) ?_
            refine oOp (.d (.int .i64 (IntKind.wrap .i64 (k14 + 1)))) (by kernel_rfl) (by kernel_rfl) (PureV.does (p_assign (by kernel_rfl))) ?_
            refine oEnd ?_
            refine oAgain ?_
            refine oHead [1, 2, 8, 9, 10, 11, 12, 13] [0, 1, 2, 3, 4] (T' := [(1, .d (.int .i64 r16)), (2, .d (.int .i64 r17)), (8, .ptr 0 0), (9, .ptr 1 0), (10, .d (.lit (List.map e_i64 r181))), (11, .ptr 2 0), (12, .ref 3 (List.length xs16) 0 (List.length xs16)), (13, .d (.int .i64 (IntKind.wrap .i64 (k14 + 1))))]) (H' := [.box [.d (.int .i64 0), .d (.int .i64 0), .d (.lit (List.map e_SPart r112))], .box [.d (.lit (List.map e_Li64 r113)), .d (.lit (List.map e_i64 r135))], .box [.ref 4 (List.length r113) 0 (List.length r113), .d (.lit (List.map e_i64 r135))], .sl 1 (List.map e_i64 xs16) false, .sl 1 (List.map e_Li64 r113) false]) (by kernel_rfl) (by kernel_rfl) (by kernel_rfl) (by kernel_rfl) (by decide) (by kernel_rfl) (by kernel_rfl) ?_
            exact hag2 ((IntKind.wrap .i64 (k14 + 1)), xs16)
          · refine oBlock ?_
            refine oSeq ?_
            refine oRegion rfl ?_
            refine oOp (.d (.int .i64 k14)) (by kernel_rfl) (by kernel_rfl) (PureV.does (p_move (by kernel_rfl))) ?_
            refine oOp (.d (.int .i64 r17)) (by kernel_rfl) (by kernel_rfl) (PureV.does (p_move (by kernel_rfl))) ?_
            refine oOp (.d (.bool (k14 == r17))) (by kernel_rfl) (by kernel_rfl) (PureV.does (p_int (k := .i64) (p := k14) (q := r17) (by kernel_rfl) (by kernel_rfl) (by kernel_rfl))) ?_
            refine oOp (.d (.bool (k14 == r17))) (by kernel_rfl) (by kernel_rfl) (PureV.does (p_move (by kernel_rfl))) ?_
            refine bMeet 6 rfl ((fun (x31 : Bool) => [(1, .d (.int .i64 r16)), (2, .d (.int .i64 r17)), (8, .ptr 0 0), (9, .ptr 1 0), (10, .d (.lit (List.map e_i64 r181))), (11, .ptr 2 0), (12, .ref 3 (List.length xs13) 0 (List.length xs13)), (13, .d (.int .i64 k14)), (79, .d (.bool x31))])) ((fun (x31 : Bool) => [.box [.d (.int .i64 0), .d (.int .i64 0), .d (.lit (List.map e_SPart r112))], .box [.d (.lit (List.map e_Li64 r113)), .d (.lit (List.map e_i64 r135))], .box [.ref 4 (List.length r113) 0 (List.length r113), .d (.lit (List.map e_i64 r135))], .sl 1 (List.map e_i64 xs13) false, .sl 1 (List.map e_Li64 r113) false])) (fun s => s) (fun x31 => ?_) (fun hj30 => ?_)
            · refine oView (T' := [(1, .d (.int .i64 r16)), (2, .d (.int .i64 r17)), (8, .ptr 0 0), (9, .ptr 1 0), (10, .d (.lit (List.map e_i64 r181))), (11, .ptr 2 0), (12, .ref 3 (List.length xs13) 0 (List.length xs13)), (13, .d (.int .i64 k14)), (79, .d (.bool x31))]) (H' := [.box [.d (.int .i64 0), .d (.int .i64 0), .d (.lit (List.map e_SPart r112))], .box [.d (.lit (List.map e_Li64 r113)), .d (.lit (List.map e_i64 r135))], .box [.ref 4 (List.length r113) 0 (List.length r113), .d (.lit (List.map e_i64 r135))], .sl 1 (List.map e_i64 xs13) false, .sl 1 (List.map e_Li64 r113) false]) (by kernel_rfl) (by kernel_rfl) ?_
              refine oEnd ?_
              refine bSplit 79 (by kernel_rfl) (fun hc => ?_) (fun hc => ?_)
              · refine oCondT (by kernel_rfl) ?_
                refine oRegion rfl ?_
                refine oOp (.ref 3 (List.length xs13) 0 (List.length xs13)) (by kernel_rfl) (by kernel_rfl) (PureV.does (p_move (by kernel_rfl))) ?_
                refine oOp (.d (.int .i64 k14)) (by kernel_rfl) (by kernel_rfl) (PureV.does (p_move (by kernel_rfl))) ?_
                refine oOp (.ref 5 (List.length ([k14] : List Int)) 0 (List.length ([k14] : List Int))) (by kernel_rfl) (by kernel_rfl) (k_buildSlice (H' := [.box [.d (.int .i64 0), .d (.int .i64 0), .d (.lit (List.map e_SPart r112))], .box [.d (.lit (List.map e_Li64 r113)), .d (.lit (List.map e_i64 r135))], .box [.ref 4 (List.length r113) 0 (List.length r113), .d (.lit (List.map e_i64 r135))], .sl 1 (List.map e_i64 xs13) false, .sl 1 (List.map e_Li64 r113) false, .sl 1 (List.map e_i64 ([k14] : List Int)) false]) (List.map e_i64 ([k14] : List Int)) Try.underlying22 ty3 (by kernel_rfl) (by kernel_rfl) (by kernel_rfl)) ?_
                refine bCap (fun h1147 => ?_)
                refine oOp (.ref 3 (List.length (xs13 ++ ([k14] : List Int))) 0 (List.length (xs13 ++ ([k14] : List Int)))) (by kernel_rfl) (by kernel_rfl) (k_append (H' := [.box [.d (.int .i64 0), .d (.int .i64 0), .d (.lit (List.map e_SPart r112))], .box [.d (.lit (List.map e_Li64 r113)), .d (.lit (List.map e_i64 r135))], .box [.ref 4 (List.length r113) 0 (List.length r113), .d (.lit (List.map e_i64 r135))], .sl 1 (List.map e_i64 (xs13 ++ ([k14] : List Int))) false, .sl 1 (List.map e_Li64 r113) false, .sl 1 (List.map e_i64 ([k14] : List Int)) false]) (enc := e_i64) 3 xs13 ([k14] : List Int) Try.underlying22 Try.underlying22 ty3 (by kernel_rfl) (by kernel_rfl) (by kernel_rfl) (holdsRef (enc := e_i64) 5 ([k14] : List Int) false (by kernel_rfl) (by kernel_rfl)) h1147 (by kernel_rfl)) ?_
                refine oOp (.ref 3 (List.length (xs13 ++ ([k14] : List Int))) 0 (List.length (xs13 ++ ([k14] : List Int)))) (by kernel_rfl) (by kernel_rfl) (PureV.does (p_assign (by kernel_rfl))) ?_
                refine oEnd ?_
                refine oBlk ?_
                refine oHead [1, 2, 8, 9, 10, 11, 12, 13] [0, 1, 2, 3, 4] (T' := [(1, .d (.int .i64 r16)), (2, .d (.int .i64 r17)), (8, .ptr 0 0), (9, .ptr 1 0), (10, .d (.lit (List.map e_i64 r181))), (11, .ptr 2 0), (12, .ref 3 (List.length (xs13 ++ ([k14] : List Int))) 0 (List.length (xs13 ++ ([k14] : List Int)))), (13, .d (.int .i64 k14))]) (H' := [.box [.d (.int .i64 0), .d (.int .i64 0), .d (.lit (List.map e_SPart r112))], .box [.d (.lit (List.map e_Li64 r113)), .d (.lit (List.map e_i64 r135))], .box [.ref 4 (List.length r113) 0 (List.length r113), .d (.lit (List.map e_i64 r135))], .sl 1 (List.map e_i64 (xs13 ++ ([k14] : List Int))) false, .sl 1 (List.map e_Li64 r113) false]) (by kernel_rfl) (by kernel_rfl) (by kernel_rfl) (by kernel_rfl) (by decide) (by kernel_rfl) (by kernel_rfl) ?_
                exact hj29 (xs13 ++ ([k14] : List Int))
              · refine oCondF (by kernel_rfl) ?_
                refine oSkip ?_
                refine oBlk ?_
                refine oHead [1, 2, 8, 9, 10, 11, 12, 13] [0, 1, 2, 3, 4] (T' := [(1, .d (.int .i64 r16)), (2, .d (.int .i64 r17)), (8, .ptr 0 0), (9, .ptr 1 0), (10, .d (.lit (List.map e_i64 r181))), (11, .ptr 2 0), (12, .ref 3 (List.length xs13) 0 (List.length xs13)), (13, .d (.int .i64 k14))]) (H' := [.box [.d (.int .i64 0), .d (.int .i64 0), .d (.lit (List.map e_SPart r112))], .box [.d (.lit (List.map e_Li64 r113)), .d (.lit (List.map e_i64 r135))], .box [.ref 4 (List.length r113) 0 (List.length r113), .d (.lit (List.map e_i64 r135))], .sl 1 (List.map e_i64 xs13) false, .sl 1 (List.map e_Li64 r113) false]) (by kernel_rfl) (by kernel_rfl) (by kernel_rfl) (by kernel_rfl) (by decide) (by kernel_rfl) (by kernel_rfl) ?_
                exact hj29 xs13
            · refine bSplit 73 (by kernel_rfl) (fun hc => ?_) (fun hc => ?_)
              · refine oNot (by kernel_rfl) (by kernel_rfl) ?_
                refine oNot (by kernel_rfl) (by kernel_rfl) ?_
                refine oNot (by kernel_rfl) (by kernel_rfl) ?_
                refine oNot (by kernel_rfl) (by kernel_rfl) ?_
                refine oNot (by kernel_rfl) (by kernel_rfl) ?_
                refine oOp (.d (.bool true)) (by kernel_rfl) (by kernel_rfl) (PureV.does (p_pick (b := true) (by kernel_rfl) (by kernel_rfl))) ?_
                refine oHead [1, 2, 8, 9, 10, 11, 12, 13, 79] [0, 1, 2, 3, 4] (T' := [(1, .d (.int .i64 r16)), (2, .d (.int .i64 r17)), (8, .ptr 0 0), (9, .ptr 1 0), (10, .d (.lit (List.map e_i64 r181))), (11, .ptr 2 0), (12, .ref 3 (List.length xs13) 0 (List.length xs13)), (13, .d (.int .i64 k14)), (79, .d (.bool true))]) (H' := [.box [.d (.int .i64 0), .d (.int .i64 0), .d (.lit (List.map e_SPart r112))], .box [.d (.lit (List.map e_Li64 r113)), .d (.lit (List.map e_i64 r135))], .box [.ref 4 (List.length r113) 0 (List.length r113), .d (.lit (List.map e_i64 r135))], .sl 1 (List.map e_i64 xs13) false, .sl 1 (List.map e_Li64 r113) false]) (by kernel_rfl) (by kernel_rfl) (by kernel_rfl) (by kernel_rfl) (by decide) (by kernel_rfl) (by kernel_rfl) ?_
                exact hj30 true
              · refine oOp (.agg [.d (.int .i64 0), .d (.int .i64 0), .d (.lit (List.map e_SPart r112))]) (by kernel_rfl) (by kernel_rfl) (Quiet.does (k_loadAgg 0 0 (by kernel_rfl) Try.underlying27 (by kernel_rfl) ty27 (by kernel_rfl))) ?_
                refine oOp (.agg [.d (.lit (List.map e_Li64 r113)), .d (.lit (List.map e_i64 r135))]) (by kernel_rfl) (by kernel_rfl) (Quiet.does (k_loadAgg 1 0 (by kernel_rfl) Try.underlying31 (by kernel_rfl) ty31 (by kernel_rfl))) ?_
                refine oOp (.d (.int .i64 r16)) (by kernel_rfl) (by kernel_rfl) (PureV.does (p_move (by kernel_rfl))) ?_
                refine oOp (.d (.int .i64 k14)) (by kernel_rfl) (by kernel_rfl) (PureV.does (p_move (by kernel_rfl))) ?_
                refine bCall (caps := []) (v := (fun (r1314 : Bool) => (.d (.bool r1314) : V))) (H' := (fun (r1314 : Bool) => ([.box [.d (.int .i64 0), .d (.int .i64 0), .d (.lit (List.map e_SPart r112))], .box [.d (.lit (List.map e_Li64 r113)), .d (.lit (List.map e_i64 r135))], .box [.ref 4 (List.length r113) 0 (List.length r113), .d (.lit (List.map e_i64 r135))], .sl 1 (List.map e_i64 xs13) false, .sl 1 (List.map e_Li64 r113) false] : List Blk))) [] _ (scheme_Accepts_goes k 0 0 r112 r113 r135 r16 k14) (by kernel_rfl) (by kernel_rfl) rfl (by kernel_rfl) Try.func32 rfl (by kernel_rfl) (ConvRs.refl _ _) (by kernel_rfl) (by kernel_rfl) (by kernel_rfl) (by decide) (by kernel_rfl) (by kernel_rfl) (fun _ => (by kernel_rfl)) (fun _ => (by kernel_rfl)) (fun _ => (by kernel_rfl)) (fun r1314 => ?_)
                refine oOp (.d (.bool r1314)) (by kernel_rfl) (by kernel_rfl) (PureV.does (p_pick (b := false) (by kernel_rfl) (by kernel_rfl))) ?_
                refine oHead [1, 2, 8, 9, 10, 11, 12, 13, 79] [0, 1, 2, 3, 4] (T' := [(1, .d (.int .i64 r16)), (2, .d (.int .i64 r17)), (8, .ptr 0 0), (9, .ptr 1 0), (10, .d (.lit (List.map e_i64 r181))), (11, .ptr 2 0), (12, .ref 3 (List.length xs13) 0 (List.length xs13)), (13, .d (.int .i64 k14)), (79, .d (.bool r1314))]) (H' := [.box [.d (.int .i64 0), .d (.int .i64 0), .d (.lit (List.map e_SPart r112))], .box [.d (.lit (List.map e_Li64 r113)), .d (.lit (List.map e_i64 r135))], .box [.ref 4 (List.length r113) 0 (List.length r113), .d (.lit (List.map e_i64 r135))], .sl 1 (List.map e_i64 xs13) false, .sl 1 (List.map e_Li64 r113) false]) (by kernel_rfl) (by kernel_rfl) (by kernel_rfl) (by kernel_rfl) (by decide) (by kernel_rfl) (by kernel_rfl) ?_
                exact hj30 r1314
        · refine oCondF (by kernel_rfl) ?_
          refine oExit rfl ?_
          refine oHead [1, 2, 8, 9, 10, 11, 12] [0, 1, 2, 3, 4] (T' := [(1, .d (.int .i64 r16)), (2, .d (.int .i64 r17)), (8, .ptr 0 0), (9, .ptr 1 0), (10, .d (.lit (List.map e_i64 r181))), (11, .ptr 2 0), (12, .ref 3 (List.length xs13) 0 (List.length xs13))]) (H' := [.box [.d (.int .i64 0), .d (.int .i64 0), .d (.lit (List.map e_SPart r112))], .box [.d (.lit (List.map e_Li64 r113)), .d (.lit (List.map e_i64 r135))], .box [.ref 4 (List.length r113) 0 (List.length r113), .d (.lit (List.map e_i64 r135))], .sl 1 (List.map e_i64 xs13) false, .sl 1 (List.map e_Li64 r113) false]) (by kernel_rfl) (by kernel_rfl) (by kernel_rfl) (by kernel_rfl) (by decide) (by kernel_rfl) (by kernel_rfl) ?_
          exact hj11 xs13

end Go.VM
