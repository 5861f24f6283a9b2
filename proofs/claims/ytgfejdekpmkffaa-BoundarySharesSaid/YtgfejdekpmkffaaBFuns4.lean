/- Plain functions that answer as the program's functions do, and the proof that they do. -/
import Derived.Test.YtgfejdekpmkffaaProg
import Derived.KernelRfl
import Derived.Test.YtgfejdekpmkffaaEngW
import Derived.Test.YtgfejdekpmkffaaBFacts
import Derived.Test.YtgfejdekpmkffaaBFuns0
import Derived.Test.YtgfejdekpmkffaaBFuns2
import Derived.Test.YtgfejdekpmkffaaBFuns3
namespace Go.VM
open Go.Proofs
set_option linter.unusedVariables false
set_option linter.unusedSimpArgs false
set_option maxRecDepth 100000
/-- awardingbody/awardingbodylaw35.BoundaryGrades -/
def law35_BoundaryGrades_b1 (k : Nat) (r112 : (List Int)) (again : Int × Int → Option (Int)) : Int × Int → Option (Int) := uc fun sum6 => fun x36 => bif (decide (x36 < ((List.length r112) : Int))) then gidx r112 x36 fun e147 => again ((IntKind.wrap .i64 (sum6 + e147)), (IntKind.wrap .i64 (x36 + 1))) else some sum6
def law35_BoundaryGrades_b3 (k : Nat) (r151 : (List Int)) (m4 : Int) (r126 : Int) (again : Int → Option ((Unit) ⊕ (Bool))) : Int → Option ((Unit) ⊕ (Bool)) := fun x57 => bif (decide (x57 < ((List.length r151) : Int))) then gidx r151 x57 fun e177 => bif (!((decide (m4 ≥ e177)) == (decide (r126 ≤ x57)))) then some (Sum.inr false) else again (IntKind.wrap .i64 (x57 + 1)) else some (Sum.inl ())
def law35_BoundaryGrades_b2 (k : Nat) (r121 : (List Int)) (r151 : (List Int)) (top1 : Int) (again : Int × Int × (List Int) → Option (((List Int)) ⊕ (Bool))) : Int × Int × (List Int) → Option (((List Int)) ⊕ (Bool)) := uc fun last4 => uc fun m4 => fun xs9 => bif (decide (m4 ≤ top1)) then Option.bind (boundary_Grade k r151 m4) (fun r126 => blet ((decide (r126 > last4)) || (decide (r126 < 0))) fun x54 => bif x54 then some (Sum.inr false) else Option.bind (gloop (law35_BoundaryGrades_b3 k r151 m4 r126) k 0 : Option ((Unit) ⊕ (Bool))) (Sum.elim (u0 (gidx xs9 r126 fun e14 => gidx r121 m4 fun e15 => blet (List.set xs9 (Int.toNat r126) (IntKind.wrap .i64 (e14 + e15))) fun xs1 => again (r126, (IntKind.wrap .i64 (m4 + 1)), xs1))) (fun r => some (Sum.inr r)))) else some (Sum.inl xs9)
def law35_BoundaryGrades (k : Nat) (t : (List Int)) : Option (Bool) := Option.bind (mark_Light k t) (u0 (bif (!(decide (((List.length t) : Int) ≤ 600))) then Option.bind (law35_sane k) (fun r174 => some r174) else Option.bind (mark_Roll k t) (u0 (Option.bind (mark_Dice_Distribution k 9 false t 0) (uc fun r121 => fun x71 => Option.bind (mark_Dice_Bounds k (IntKind.wrap .i64 (((List.length r121) : Int) - 1)) t x71) (uc fun r151 => fun x51 => Option.bind (boundary_Tally k r121 r151) (uc fun r112 => fun r141 => Option.bind (bif (r141 != 0) then some ((IntKind.wrap .i64 (((List.length r121) : Int) - 1)), true) else some ((IntKind.wrap .i64 (((List.length r121) : Int) - 1)), (((List.length r112) : Int) != (IntKind.wrap .i64 (((List.length r151) : Int) + 1)))) : Option (Int × Bool)) (uc fun top1 => fun x19 => bif x19 then some false else gmake ((List.length r112) : Int) 8 (blet (List.replicate (Int.toNat ((List.length r112) : Int)) 0) fun xs5 => Option.bind (gloop (law35_BoundaryGrades_b2 k r121 r151 top1) k (((List.length r151) : Int), 0, xs5) : Option (((List Int)) ⊕ (Bool))) (Sum.elim (fun xs8 => Option.bind (gloop (law35_BoundaryGrades_b1 k r112) k (0, 0) : Option (Int)) (fun sum5 => Option.bind (law35_same k r112 xs8) (fun r117 => Option.bind (bif r117 then Option.bind (ref32_Count k r121) (fun r119 => some (sum5 == r119)) else some false : Option (Bool)) (fun x34 => Option.bind (bif x34 then Option.bind (law35_sane k) (fun r176 => some r176) else some false : Option (Bool)) (fun x35 => some x35))))) (fun r => some r)))))))))))
def law35_BoundaryGrades_E (t : (List Int)) : Bool → V × List Blk := fun r111 => (.d (.bool r111), [])
theorem law35_BoundaryGrades_goes (k : Nat) (t : (List Int)) : RunsO Try.prog 3 [.d (.lit (List.map e_i64 t))] [] (law35_BoundaryGrades_E t) (law35_BoundaryGrades k t) := by
  refine RunsO.of_goes (N := 118) (m := 0) (T := [(0, .d (.lit (List.map e_i64 t)))]) Try.func3 rfl rfl (by kernel_rfl) (by kernel_rfl) (by kernel_rfl) ?_
  unfold law35_BoundaryGrades
  refine bStart ?_
  refine oSeq ?_
  refine oRegion rfl ?_
  refine oOp (.d (.bool false)) (by kernel_rfl) (by kernel_rfl) (PureV.does (p_assign (by kernel_rfl))) ?_
  refine oEnd ?_
  refine oSeq ?_
  refine oSeq ?_
  refine oRegion rfl ?_
  refine oOp (.d (.lit (List.map e_i64 t))) (by kernel_rfl) (by kernel_rfl) (PureV.does (p_move (by kernel_rfl))) ?_
  refine bCall (caps := []) (v := (u0 ((.d (.bool (decide (((List.length t) : Int) ≤ 600))) : V)))) (H' := (u0 (([] : List Blk)))) [] _ (mark_Light_goes k t) (by kernel_rfl) (by kernel_rfl) rfl (by kernel_rfl) Try.func7 rfl (by kernel_rfl) (ConvRs.refl _ _) (by kernel_rfl) (by kernel_rfl) (by kernel_rfl) (by decide) (by kernel_rfl) (by kernel_rfl) (fun _ => (by kernel_rfl)) (fun _ => (by kernel_rfl)) (fun _ => (by kernel_rfl)) (fun r => ?_)
  cases r
  refine bU0 ?_
  refine oOp (.d (.bool (!(decide (((List.length t) : Int) ≤ 600))))) (by kernel_rfl) (by kernel_rfl) (PureV.does (p_not (p := (decide (((List.length t) : Int) ≤ 600))) (by kernel_rfl) (by kernel_rfl))) ?_
  refine oEnd ?_
  refine bSplit 19 (by kernel_rfl) (fun hc => ?_) (fun hc => ?_)
  · refine oCondT (by kernel_rfl) ?_
    refine oSeq ?_
    refine oRegion rfl ?_
    refine bCall (caps := []) (v := (fun (r174 : Bool) => (.d (.bool r174) : V))) (H' := (fun (r174 : Bool) => ([] : List Blk))) [] _ (law35_sane_goes k ) (by kernel_rfl) (by kernel_rfl) rfl (by kernel_rfl) Try.func8 rfl (by kernel_rfl) (ConvRs.refl _ _) (by kernel_rfl) (by kernel_rfl) (by kernel_rfl) (by decide) (by kernel_rfl) (by kernel_rfl) (fun _ => (by kernel_rfl)) (fun _ => (by kernel_rfl)) (fun _ => (by kernel_rfl)) (fun r174 => ?_)
    refine oOp (.d (.bool r174)) (by kernel_rfl) (by kernel_rfl) (PureV.does (p_assign (by kernel_rfl))) ?_
    refine oEnd ?_
    exact oRet (r0 := r174) (rv := .d (.bool r174)) (B := []) (vs := [.d (.bool r174)]) (σ := []) (by kernel_rfl) Try.func3 rfl (.cons _ _ _ _ (.tmp 2 _ (by kernel_rfl)) .nil) (by kernel_rfl) (by kernel_rfl) (by kernel_rfl) (by kernel_rfl) (by decide) (by kernel_rfl) (by kernel_rfl)
  · refine oCondF (by kernel_rfl) ?_
    refine oSkip ?_
    refine oSeq ?_
    refine oRegion rfl ?_
    refine oOp (.d (.lit (List.map e_i64 t))) (by kernel_rfl) (by kernel_rfl) (PureV.does (p_move (by kernel_rfl))) ?_
    refine bCall (caps := []) (v := (u0 ((.ptr 0 0 : V)))) (H' := (u0 (([.box [.d (.lit (List.map e_i64 t)), .d (.int .i64 0)]] : List Blk)))) [] _ (mark_Roll_goes k t) (by kernel_rfl) (by kernel_rfl) rfl (by kernel_rfl) Try.func9 rfl (by kernel_rfl) (ConvRs.refl _ _) (by kernel_rfl) (by kernel_rfl) (by kernel_rfl) (by decide) (by kernel_rfl) (by kernel_rfl) (fun _ => (by kernel_rfl)) (fun _ => (by kernel_rfl)) (fun _ => (by kernel_rfl)) (fun r => ?_)
    cases r
    refine bU0 ?_
    refine oOp (.ptr 0 0) (by kernel_rfl) (by kernel_rfl) (PureV.does (p_assign (by kernel_rfl))) ?_
    refine oEnd ?_
    refine oSeq ?_
    refine oRegion rfl ?_
    refine oOp (.ptr 0 0) (by kernel_rfl) (by kernel_rfl) (PureV.does (p_move (by kernel_rfl))) ?_
    refine bCall (caps := []) (v := (uc fun (r121 : (List Int)) => (fun (x71 : Int) => (.agg [.d (.lit (List.map e_i64 r121))] : V)))) (H' := (uc fun (r121 : (List Int)) => (fun (x71 : Int) => ([.box [.d (.lit (List.map e_i64 t)), .d (.int .i64 x71)]] : List Blk)))) [0] _ (mark_Dice_Distribution_goes k 9 false t 0) (by kernel_rfl) (by kernel_rfl) rfl (by kernel_rfl) Try.func10 rfl (by kernel_rfl) (ConvRs.refl _ _) (by kernel_rfl) (by kernel_rfl) (by kernel_rfl) (by decide) (by kernel_rfl) (by kernel_rfl) (fun _ => (by kernel_rfl)) (fun _ => (by kernel_rfl)) (fun _ => (by kernel_rfl)) (fun r => ?_)
    obtain ⟨r121, x71⟩ := r
    refine bUc ?_
    refine oOp (.ptr 1 0) (by kernel_rfl) (by kernel_rfl) (k_alloc (H' := [.box [.d (.lit (List.map e_i64 t)), .d (.int .i64 x71)], .box [.nilc]]) ty28 (by kernel_rfl) (by kernel_rfl)) ?_
    refine oOp (.undef) (by kernel_rfl) (by kernel_rfl) (k_store (vs := [.d (.lit (List.map e_i64 r121))]) (H' := [.box [.d (.lit (List.map e_i64 t)), .d (.int .i64 x71)], .box [.d (.lit (List.map e_i64 r121))]]) 1 0 (by kernel_rfl) ty28 (by kernel_rfl) (by kernel_rfl) (by kernel_rfl)) ?_
    refine oEnd ?_
    refine oSeq ?_
    refine oRegion rfl ?_
    refine oOp (.ptr 1 0) (by kernel_rfl) (by kernel_rfl) (PureV.does (k_fieldAddr 1 0 (by kernel_rfl) Try.underlying28 rfl ty22 (by kernel_rfl))) ?_
    refine oOp (.d (.lit (List.map e_i64 r121))) (by kernel_rfl) (by kernel_rfl) (Quiet.does (k_load 1 0 (by kernel_rfl) Try.underlying22 (by kernel_rfl) (by kernel_rfl))) ?_
    refine oOp (.d (.int .i64 ((List.length r121) : Int))) (by kernel_rfl) (by kernel_rfl) (PureV.does (k_lenLit (enc := e_i64) r121 (by kernel_rfl) Try.underlying22)) ?_
    refine oOp (.d (.int .i64 (IntKind.wrap .i64 (((List.length r121) : Int) - 1)))) (by kernel_rfl) (by kernel_rfl) (PureV.does (p_int (k := .i64) (p := ((List.length r121) : Int)) (q := 1) (by kernel_rfl) (by kernel_rfl) (by kernel_rfl))) ?_
    refine oOp (.d (.int .i64 (IntKind.wrap .i64 (((List.length r121) : Int) - 1)))) (by kernel_rfl) (by kernel_rfl) (PureV.does (p_assign (by kernel_rfl))) ?_
    refine oEnd ?_
    refine oSeq ?_
    refine oRegion rfl ?_
    refine oOp (.ptr 0 0) (by kernel_rfl) (by kernel_rfl) (PureV.does (p_move (by kernel_rfl))) ?_
    refine oOp (.d (.int .i64 (IntKind.wrap .i64 (((List.length r121) : Int) - 1)))) (by kernel_rfl) (by kernel_rfl) (PureV.does (p_move (by kernel_rfl))) ?_
    refine bCall (caps := []) (v := (uc fun (r151 : (List Int)) => (fun (x51 : Int) => (.d (.lit (List.map e_i64 r151)) : V)))) (H' := (uc fun (r151 : (List Int)) => (fun (x51 : Int) => ([.box [.d (.lit (List.map e_i64 t)), .d (.int .i64 x51)], .box [.d (.lit (List.map e_i64 r121))]] : List Blk)))) [0] _ (mark_Dice_Bounds_goes k (IntKind.wrap .i64 (((List.length r121) : Int) - 1)) t x71) (by kernel_rfl) (by kernel_rfl) rfl (by kernel_rfl) Try.func11 rfl (by kernel_rfl) (ConvRs.refl _ _) (by kernel_rfl) (by kernel_rfl) (by kernel_rfl) (by decide) (by kernel_rfl) (by kernel_rfl) (fun _ => (by kernel_rfl)) (fun _ => (by kernel_rfl)) (fun _ => (by kernel_rfl)) (fun r => ?_)
    obtain ⟨r151, x51⟩ := r
    refine bUc ?_
    refine oOp (.d (.lit (List.map e_i64 r151))) (by kernel_rfl) (by kernel_rfl) (PureV.does (p_assign (by kernel_rfl))) ?_
    refine oEnd ?_
    refine oSeq ?_
    refine oRegion rfl ?_
    refine oOp (.agg [.d (.lit (List.map e_i64 r121))]) (by kernel_rfl) (by kernel_rfl) (Quiet.does (k_loadAgg 1 0 (by kernel_rfl) Try.underlying28 (by kernel_rfl) ty28 (by kernel_rfl))) ?_
    refine oOp (.d (.lit (List.map e_i64 r151))) (by kernel_rfl) (by kernel_rfl) (PureV.does (p_move (by kernel_rfl))) ?_
    refine bCall (caps := []) (v := (uc fun (r112 : (List Int)) => (fun (r141 : Int) => (.tuple [.d (.lit (List.map e_i64 r112)), .d (.int .i64 r141)] : V)))) (H' := (uc fun (r112 : (List Int)) => (fun (r141 : Int) => ([.box [.d (.lit (List.map e_i64 t)), .d (.int .i64 x51)], .box [.d (.lit (List.map e_i64 r121))]] : List Blk)))) [] _ (boundary_Tally_goes k r121 r151) (by kernel_rfl) (by kernel_rfl) rfl (by kernel_rfl) Try.func12 rfl (by kernel_rfl) (ConvRs.refl _ _) (by kernel_rfl) (by kernel_rfl) (by kernel_rfl) (by decide) (by kernel_rfl) (by kernel_rfl) (fun _ => (by kernel_rfl)) (fun _ => (by kernel_rfl)) (fun _ => (by kernel_rfl)) (fun r => ?_)
    obtain ⟨r112, r141⟩ := r
    refine bUc ?_
    refine oOp (.tuple [.d (.lit (List.map e_i64 r112)), .d (.int .i64 r141)]) (by kernel_rfl) (by kernel_rfl) (PureV.does (p_move (by kernel_rfl))) ?_
    refine oOp (.d (.lit (List.map e_i64 r112))) (by kernel_rfl) (by kernel_rfl) (PureV.does (k_extract (by kernel_rfl))) ?_
    refine oOp (.d (.int .i64 r141)) (by kernel_rfl) (by kernel_rfl) (PureV.does (k_extract (by kernel_rfl))) ?_
    refine oOp (.d (.lit (List.map e_i64 r112))) (by kernel_rfl) (by kernel_rfl) (PureV.does (p_assign (by kernel_rfl))) ?_
    refine oOp (.d (.int .i64 r141)) (by kernel_rfl) (by kernel_rfl) (PureV.does (p_assign (by kernel_rfl))) ?_
    refine oEnd ?_
    refine oSeq ?_
    refine oSeq ?_
    refine oRegion rfl ?_
    refine oOp (.d (.int .i64 r141)) (by kernel_rfl) (by kernel_rfl) (PureV.does (p_move (by kernel_rfl))) ?_
    refine oOp (.d (.bool (r141 != 0))) (by kernel_rfl) (by kernel_rfl) (PureV.does (p_int (k := .i64) (p := r141) (q := 0) (by kernel_rfl) (by kernel_rfl) (by kernel_rfl))) ?_
    refine oOp (.d (.bool (r141 != 0))) (by kernel_rfl) (by kernel_rfl) (PureV.does (p_move (by kernel_rfl))) ?_
    refine bMeet 7 rfl ((uc fun (top1 : Int) => (fun (x19 : Bool) => [(4, .ptr 0 0), (5, .d (.int .i64 top1)), (6, .d (.lit (List.map e_i64 r151))), (7, .d (.lit (List.map e_i64 r112))), (47, .d (.bool x19))]))) ((uc fun (top1 : Int) => (fun (x19 : Bool) => [.box [.d (.lit (List.map e_i64 r121))]]))) (fun s => s) (fun s => ?_) (fun hj22 => ?_)
    · obtain ⟨top1, x19⟩ := s
      refine bUc ?_
      refine oView (T' := [(4, .ptr 0 0), (5, .d (.int .i64 top1)), (6, .d (.lit (List.map e_i64 r151))), (7, .d (.lit (List.map e_i64 r112))), (47, .d (.bool x19))]) (H' := [.box [.d (.lit (List.map e_i64 r121))]]) (by kernel_rfl) (by kernel_rfl) ?_
      refine oEnd ?_
      refine bSplit 47 (by kernel_rfl) (fun hc => ?_) (fun hc => ?_)
      · refine oCondT (by kernel_rfl) ?_
        refine oSeq ?_
        refine oRegion rfl ?_
        refine oOp (.d (.bool false)) (by kernel_rfl) (by kernel_rfl) (PureV.does (p_assign (by kernel_rfl))) ?_
        refine oEnd ?_
        exact oRet (r0 := false) (rv := .d (.bool false)) (B := []) (vs := [.d (.bool false)]) (σ := []) (by kernel_rfl) Try.func3 rfl (.cons _ _ _ _ (.tmp 2 _ (by kernel_rfl)) .nil) (by kernel_rfl) (by kernel_rfl) (by kernel_rfl) (by kernel_rfl) (by decide) (by kernel_rfl) (by kernel_rfl)
      · refine oCondF (by kernel_rfl) ?_
        refine oSkip ?_
        refine oSeq ?_
        refine oRegion rfl ?_
        refine oOp (.d (.lit (List.map e_i64 r151))) (by kernel_rfl) (by kernel_rfl) (PureV.does (p_move (by kernel_rfl))) ?_
        refine oOp (.d (.int .i64 ((List.length r151) : Int))) (by kernel_rfl) (by kernel_rfl) (PureV.does (k_lenLit (enc := e_i64) r151 (by kernel_rfl) Try.underlying22)) ?_
        refine oOp (.d (.int .i64 0)) (by kernel_rfl) (by kernel_rfl) (PureV.does (p_assign (by kernel_rfl))) ?_
        refine oOp (.d (.int .i64 ((List.length r151) : Int))) (by kernel_rfl) (by kernel_rfl) (PureV.does (p_assign (by kernel_rfl))) ?_
        refine oEnd ?_
        refine oSeq ?_
        refine oRegion rfl ?_
        refine oOp (.d (.lit (List.map e_i64 r112))) (by kernel_rfl) (by kernel_rfl) (PureV.does (p_move (by kernel_rfl))) ?_
        refine oOp (.d (.int .i64 ((List.length r112) : Int))) (by kernel_rfl) (by kernel_rfl) (PureV.does (k_lenLit (enc := e_i64) r112 (by kernel_rfl) Try.underlying22)) ?_
        refine bMake (fun h146 h147 => ?_)
        refine bSet _ (fun xs5 hs2 => ?_)
        refine oOp (.ref 1 (Int.toNat ((List.length r112) : Int)) 0 (Int.toNat ((List.length r112) : Int))) (by kernel_rfl) (by kernel_rfl) (k_make (enc := e_i64) (k1 := .i64) (k2 := .i64) (H' := [.box [.d (.lit (List.map e_i64 r121))], .sl 1 (List.map e_i64 xs5) false]) 0 [(.int .i64 0)] (by kernel_rfl) (by kernel_rfl) Try.underlying22 ty3 (by kernel_rfl) (by kernel_rfl) (by kernel_rfl) h146 h147 (by subst hs2; rfl)) ?_
        refine oHead [4, 5, 6, 7, 9, 10, 52] [0, 1] (T' := [(4, .ptr 0 0), (5, .d (.int .i64 top1)), (6, .d (.lit (List.map e_i64 r151))), (7, .d (.lit (List.map e_i64 r112))), (9, .d (.int .i64 0)), (10, .d (.int .i64 ((List.length r151) : Int))), (52, .ref 1 (Int.toNat ((List.length r112) : Int)) 0 (Int.toNat ((List.length r112) : Int)))]) (H' := [.box [.d (.lit (List.map e_i64 r121))], .sl 1 (List.map e_i64 xs5) false]) (by kernel_rfl) (by kernel_rfl) (by kernel_rfl) (by kernel_rfl) (by decide) (by kernel_rfl) (by kernel_rfl) ?_
        refine oView (T' := [(4, .ptr 0 0), (5, .d (.int .i64 top1)), (6, .d (.lit (List.map e_i64 r151))), (7, .d (.lit (List.map e_i64 r112))), (9, .d (.int .i64 0)), (10, .d (.int .i64 ((List.length r151) : Int))), (52, .ref 1 (List.length xs5) 0 (List.length xs5))]) (H' := [.box [.d (.lit (List.map e_i64 r121))], .sl 1 (List.map e_i64 xs5) false]) (by first | rw [(rep_len hs2)] | rfl) (by first | rw [(rep_len hs2)] | rfl) ?_
        refine oOp (.ref 1 (List.length xs5) 0 (List.length xs5)) (by kernel_rfl) (by kernel_rfl) (PureV.does (p_assign (by kernel_rfl))) ?_
        refine oEnd ?_
        refine oSeq ?_
        refine oSeq ?_
        refine oRegion rfl ?_
        refine oOp (.d (.int .i64 0)) (by kernel_rfl) (by kernel_rfl) (PureV.does (p_assign (by kernel_rfl))) ?_
        refine oEnd ?_
        refine bJoin ((fun (xs8 : (List Int)) => [(4, .ptr 0 0), (7, .d (.lit (List.map e_i64 r112))), (9, .d (.int .i64 0)), (11, .ref 1 (List.length xs8) 0 (List.length xs8))])) ((fun (xs8 : (List Int)) => [.box [.d (.lit (List.map e_i64 r121))], .sl 1 (List.map e_i64 xs8) false])) Sum.inl (fun xs8 => ?_) (fun hj11 => ?_)
        · refine bInl ?_
          refine oView (T' := [(4, .ptr 0 0), (7, .d (.lit (List.map e_i64 r112))), (9, .d (.int .i64 0)), (11, .ref 1 (List.length xs8) 0 (List.length xs8))]) (H' := [.box [.d (.lit (List.map e_i64 r121))], .sl 1 (List.map e_i64 xs8) false]) (by kernel_rfl) (by kernel_rfl) ?_
          refine oSeq ?_
          refine oSeq ?_
          refine oRegion rfl ?_
          refine oOp (.d (.lit (List.map e_i64 r112))) (by kernel_rfl) (by kernel_rfl) (PureV.does (p_move (by kernel_rfl))) ?_
          refine oOp (.d (.int .i64 ((List.length r112) : Int))) (by kernel_rfl) (by kernel_rfl) (PureV.does (k_lenLit (enc := e_i64) r112 (by kernel_rfl) Try.underlying22)) ?_
          refine oOp (.d (.int .i64 0)) (by kernel_rfl) (by kernel_rfl) (PureV.does (p_move (by kernel_rfl))) ?_
          refine oEnd ?_
          refine bJoin ((fun (sum5 : Int) => [(4, .ptr 0 0), (7, .d (.lit (List.map e_i64 r112))), (9, .d (.int .i64 sum5)), (11, .ref 1 (List.length xs8) 0 (List.length xs8))])) ((fun (sum5 : Int) => [.box [.d (.lit (List.map e_i64 r121))], .sl 1 (List.map e_i64 xs8) false])) (fun s => s) (fun sum5 => ?_) (fun hj12 => ?_)
          · refine oView (T' := [(4, .ptr 0 0), (7, .d (.lit (List.map e_i64 r112))), (9, .d (.int .i64 sum5)), (11, .ref 1 (List.length xs8) 0 (List.length xs8))]) (H' := [.box [.d (.lit (List.map e_i64 r121))], .sl 1 (List.map e_i64 xs8) false]) (by kernel_rfl) (by kernel_rfl) ?_
            refine oSeq ?_
            refine oRegion rfl ?_
            refine oOp (.d (.lit (List.map e_i64 r112))) (by kernel_rfl) (by kernel_rfl) (PureV.does (p_move (by kernel_rfl))) ?_
            refine oOp (.ref 1 (List.length xs8) 0 (List.length xs8)) (by kernel_rfl) (by kernel_rfl) (PureV.does (p_move (by kernel_rfl))) ?_
            refine oFreeze 1 (esz := 1) (xs := List.map e_i64 xs8) (by kernel_rfl) ?_
            refine oView (H' := [.box [.d (.lit (List.map e_i64 r121))], .sl 1 (List.map e_i64 xs8) true]) rfl (by kernel_rfl) ?_
            refine bCall (caps := []) (v := (fun (r117 : Bool) => (.d (.bool r117) : V))) (H' := (fun (r117 : Bool) => ([.box [.d (.lit (List.map e_i64 r121))], .sl 1 (List.map e_i64 xs8) true] : List Blk))) [] _ (law35_same_goes k r112 xs8) (by kernel_rfl) (by kernel_rfl) rfl (by kernel_rfl) Try.func14 rfl (by kernel_rfl) (convList (vs0 := [.d (.lit (List.map e_i64 r112)), .ref 1 (List.length xs8) 0 (List.length xs8)]) (vs := [.d (.lit (List.map e_i64 r112)), .d (.lit (List.map e_i64 xs8))]) (by kernel_rfl) (.cons _ _ _ _ (.same _) (.cons _ _ _ _ (k_lit (enc := e_i64) (sz := 1) 1 xs8 (by kernel_rfl)) .nil))) (by kernel_rfl) (by kernel_rfl) (by kernel_rfl) (by decide) (by kernel_rfl) (by kernel_rfl) (fun _ => (by kernel_rfl)) (fun _ => (by kernel_rfl)) (fun _ => (by kernel_rfl)) (fun r117 => ?_)
            refine oOp (.d (.bool r117)) (by kernel_rfl) (by kernel_rfl) (PureV.does (p_move (by kernel_rfl))) ?_
            refine bMeet 5 rfl ((fun (x34 : Bool) => [(114, .d (.bool x34))])) ((fun (x34 : Bool) => [])) (fun s => s) (fun x34 => ?_) (fun hj14 => ?_)
            · refine oView (T' := [(114, .d (.bool x34))]) (H' := []) (by kernel_rfl) (by kernel_rfl) ?_
              refine oOp (.d (.bool x34)) (by kernel_rfl) (by kernel_rfl) (PureV.does (p_move (by kernel_rfl))) ?_
              refine bMeet 2 rfl ((fun (x35 : Bool) => [(117, .d (.bool x35))])) ((fun (x35 : Bool) => [])) (fun s => s) (fun x35 => ?_) (fun hj13 => ?_)
              · refine oView (T' := [(117, .d (.bool x35))]) (H' := []) (by kernel_rfl) (by kernel_rfl) ?_
                refine oOp (.d (.bool x35)) (by kernel_rfl) (by kernel_rfl) (PureV.does (p_assign (by kernel_rfl))) ?_
                refine oEnd ?_
                exact oRet (r0 := x35) (rv := .d (.bool x35)) (B := []) (vs := [.d (.bool x35)]) (σ := []) (by kernel_rfl) Try.func3 rfl (.cons _ _ _ _ (.tmp 2 _ (by kernel_rfl)) .nil) (by kernel_rfl) (by kernel_rfl) (by kernel_rfl) (by kernel_rfl) (by decide) (by kernel_rfl) (by kernel_rfl)
              · refine bSplit 115 (by kernel_rfl) (fun hc => ?_) (fun hc => ?_)
                · refine bCall (caps := []) (v := (fun (r176 : Bool) => (.d (.bool r176) : V))) (H' := (fun (r176 : Bool) => ([] : List Blk))) [] _ (law35_sane_goes k ) (by kernel_rfl) (by kernel_rfl) rfl (by kernel_rfl) Try.func8 rfl (by kernel_rfl) (ConvRs.refl _ _) (by kernel_rfl) (by kernel_rfl) (by kernel_rfl) (by decide) (by kernel_rfl) (by kernel_rfl) (fun _ => (by kernel_rfl)) (fun _ => (by kernel_rfl)) (fun _ => (by kernel_rfl)) (fun r176 => ?_)
                  refine oOp (.d (.bool r176)) (by kernel_rfl) (by kernel_rfl) (PureV.does (p_pick (b := true) (by kernel_rfl) (by kernel_rfl))) ?_
                  refine oHead [117] [] (T' := [(117, .d (.bool r176))]) (H' := []) (by kernel_rfl) (by kernel_rfl) (by kernel_rfl) (by kernel_rfl) (by decide) (by kernel_rfl) (by kernel_rfl) ?_
                  exact hj13 r176
                · refine oNot (by kernel_rfl) (by kernel_rfl) ?_
                  refine oOp (.d (.bool false)) (by kernel_rfl) (by kernel_rfl) (PureV.does (p_pick (b := false) (by kernel_rfl) (by kernel_rfl))) ?_
                  refine oHead [117] [] (T' := [(117, .d (.bool false))]) (H' := []) (by kernel_rfl) (by kernel_rfl) (by kernel_rfl) (by kernel_rfl) (by decide) (by kernel_rfl) (by kernel_rfl) ?_
                  exact hj13 false
            · refine bSplit 109 (by kernel_rfl) (fun hc => ?_) (fun hc => ?_)
              · refine oOp (.d (.int .i64 sum5)) (by kernel_rfl) (by kernel_rfl) (PureV.does (p_move (by kernel_rfl))) ?_
                refine oOp (.agg [.d (.lit (List.map e_i64 r121))]) (by kernel_rfl) (by kernel_rfl) (Quiet.does (k_loadAgg 0 0 (by kernel_rfl) Try.underlying28 (by kernel_rfl) ty28 (by kernel_rfl))) ?_
                refine bCall (caps := []) (v := (fun (r119 : Int) => (.d (.int .i64 r119) : V))) (H' := (fun (r119 : Int) => ([.box [.d (.lit (List.map e_i64 r121))], .sl 1 (List.map e_i64 xs8) true] : List Blk))) [] _ (ref32_Count_goes k r121) (by kernel_rfl) (by kernel_rfl) rfl (by kernel_rfl) Try.func15 rfl (by kernel_rfl) (ConvRs.refl _ _) (by kernel_rfl) (by kernel_rfl) (by kernel_rfl) (by decide) (by kernel_rfl) (by kernel_rfl) (fun _ => (by kernel_rfl)) (fun _ => (by kernel_rfl)) (fun _ => (by kernel_rfl)) (fun r119 => ?_)
                refine oOp (.d (.bool (sum5 == r119))) (by kernel_rfl) (by kernel_rfl) (PureV.does (p_int (k := .i64) (p := sum5) (q := r119) (by kernel_rfl) (by kernel_rfl) (by kernel_rfl))) ?_
                refine oOp (.d (.bool (sum5 == r119))) (by kernel_rfl) (by kernel_rfl) (PureV.does (p_pick (b := true) (by kernel_rfl) (by kernel_rfl))) ?_
                refine oHead [114] [] (T' := [(114, .d (.bool (sum5 == r119)))]) (H' := []) (by kernel_rfl) (by kernel_rfl) (by kernel_rfl) (by kernel_rfl) (by decide) (by kernel_rfl) (by kernel_rfl) ?_
                exact hj14 (sum5 == r119)
              · refine oNot (by kernel_rfl) (by kernel_rfl) ?_
                refine oNot (by kernel_rfl) (by kernel_rfl) ?_
                refine oNot (by kernel_rfl) (by kernel_rfl) ?_
                refine oNot (by kernel_rfl) (by kernel_rfl) ?_
                refine oOp (.d (.bool false)) (by kernel_rfl) (by kernel_rfl) (PureV.does (p_pick (b := false) (by kernel_rfl) (by kernel_rfl))) ?_
                refine oHead [114] [] (T' := [(114, .d (.bool false))]) (H' := []) (by kernel_rfl) (by kernel_rfl) (by kernel_rfl) (by kernel_rfl) (by decide) (by kernel_rfl) (by kernel_rfl) ?_
                exact hj14 false
          · refine oBlock ?_
            refine oLoop ?_
            refine oHead [4, 7, 9, 11, 96, 97, 98] [0, 1] (T' := [(4, .ptr 0 0), (7, .d (.lit (List.map e_i64 r112))), (9, .d (.int .i64 0)), (11, .ref 1 (List.length xs8) 0 (List.length xs8)), (96, .d (.lit (List.map e_i64 r112))), (97, .d (.int .i64 ((List.length r112) : Int))), (98, .d (.int .i64 0))]) (H' := [.box [.d (.lit (List.map e_i64 r121))], .sl 1 (List.map e_i64 xs8) false]) (by kernel_rfl) (by kernel_rfl) (by kernel_rfl) (by kernel_rfl) (by decide) (by kernel_rfl) (by kernel_rfl) ?_
            refine bLoop (body := law35_BoundaryGrades_b1 k r112) ((uc fun (sum6 : Int) => (fun (x36 : Int) => [(4, .ptr 0 0), (7, .d (.lit (List.map e_i64 r112))), (9, .d (.int .i64 sum6)), (11, .ref 1 (List.length xs8) 0 (List.length xs8)), (96, .d (.lit (List.map e_i64 r112))), (97, .d (.int .i64 ((List.length r112) : Int))), (98, .d (.int .i64 x36))]))) ((uc fun (sum6 : Int) => (fun (x36 : Int) => [.box [.d (.lit (List.map e_i64 r121))], .sl 1 (List.map e_i64 xs8) false]))) (fun again hag1 s => ?_) k (0, 0)
            · unfold law35_BoundaryGrades_b1
              obtain ⟨sum6, x36⟩ := s
              refine bUc ?_
              refine oView (T' := [(4, .ptr 0 0), (7, .d (.lit (List.map e_i64 r112))), (9, .d (.int .i64 sum6)), (11, .ref 1 (List.length xs8) 0 (List.length xs8)), (96, .d (.lit (List.map e_i64 r112))), (97, .d (.int .i64 ((List.length r112) : Int))), (98, .d (.int .i64 x36))]) (H' := [.box [.d (.lit (List.map e_i64 r121))], .sl 1 (List.map e_i64 xs8) false]) (by kernel_rfl) (by kernel_rfl) ?_
              refine oSeq ?_
              refine oRegion rfl ?_
              refine oOp (.d (.bool (decide (x36 < ((List.length r112) : Int))))) (by kernel_rfl) (by kernel_rfl) (PureV.does (p_int (k := .i64) (p := x36) (q := ((List.length r112) : Int)) (by kernel_rfl) (by kernel_rfl) (by kernel_rfl))) ?_
              refine oEnd ?_
              refine oSeq ?_
              refine bSplit 99 (by kernel_rfl) (fun hc => ?_) (fun hc => ?_)
              · refine oCondT (by kernel_rfl) ?_
                refine oSkip ?_
                refine oSeq ?_
                refine oBlock ?_
                refine oSeq ?_
                refine oRegion rfl ?_
                refine bIdx (fun e147 h198 h199 => ?_)
                refine oOp (.lptr (e_i64 e147) 0) (by kernel_rfl) (by kernel_rfl) (PureV.does (k_idxLit e_i64_len r112 (a := e147) (by kernel_rfl) (k := .i64) (i := x36) (by kernel_rfl) Try.underlying22 ty3 h198 h199)) ?_
                refine oOp (.d (.int .i64 e147)) (by kernel_rfl) (by kernel_rfl) (Quiet.does (k_loadL (cells := e_i64 e147) 0 (by kernel_rfl) Try.underlying3 (by kernel_rfl) (by kernel_rfl))) ?_
                refine oOp (.d (.int .i64 e147)) (by kernel_rfl) (by kernel_rfl) (PureV.does (p_assign (by kernel_rfl))) ?_
                refine oEnd ?_
                refine oRegion rfl ?_
                refine oOp (.d (.int .i64 sum6)) (by kernel_rfl) (by kernel_rfl) (PureV.does (p_move (by kernel_rfl))) ?_
                refine oOp (.d (.int .i64 e147)) (by kernel_rfl) (by kernel_rfl) (PureV.does (p_move (by kernel_rfl))) ?_
                refine oOp (.d (.int .i64 (IntKind.wrap .i64 (sum6 + e147)))) (by kernel_rfl) (by kernel_rfl) (PureV.does (p_int (k := .i64) (p := sum6) (q := e147) (by kernel_rfl) (by kernel_rfl) (by kernel_rfl))) ?_
                refine oOp (.d (.int .i64 (IntKind.wrap .i64 (sum6 + e147)))) (by kernel_rfl) (by kernel_rfl) (PureV.does (p_assign (by kernel_rfl))) ?_
                refine oEnd ?_
                refine oBlk ?_
                refine oRegion rfl ?_
                refine oOp (.d (.int .i64 (IntKind.wrap .i64 (x36 + 1)))) (by kernel_rfl) (by kernel_rfl) (PureV.does (p_int (k := .i64) (p := x36) (q := 1) (by kernel_rfl) (by kernel_rfl) (by kernel_rfl))) ?_
                refine oOp (.d (.int .i64 (IntKind.wrap .i64 (x36 + 1)))) (by kernel_rfl) (by kernel_rfl) (PureV.does (p_move (by kernel_rfl))) ?_
                refine oEnd ?_
                refine oAgain ?_
                refine oHead [4, 7, 9, 11, 96, 97, 98] [0, 1] (T' := [(4, .ptr 0 0), (7, .d (.lit (List.map e_i64 r112))), (9, .d (.int .i64 (IntKind.wrap .i64 (sum6 + e147)))), (11, .ref 1 (List.length xs8) 0 (List.length xs8)), (96, .d (.lit (List.map e_i64 r112))), (97, .d (.int .i64 ((List.length r112) : Int))), (98, .d (.int .i64 (IntKind.wrap .i64 (x36 + 1))))]) (H' := [.box [.d (.lit (List.map e_i64 r121))], .sl 1 (List.map e_i64 xs8) false]) (by kernel_rfl) (by kernel_rfl) (by kernel_rfl) (by kernel_rfl) (by decide) (by kernel_rfl) (by kernel_rfl) ?_
                exact hag1 ((IntKind.wrap .i64 (sum6 + e147)), (IntKind.wrap .i64 (x36 + 1)))
              · refine oCondF (by kernel_rfl) ?_
                refine oExit rfl ?_
                refine oHead [4, 7, 9, 11] [0, 1] (T' := [(4, .ptr 0 0), (7, .d (.lit (List.map e_i64 r112))), (9, .d (.int .i64 sum6)), (11, .ref 1 (List.length xs8) 0 (List.length xs8))]) (H' := [.box [.d (.lit (List.map e_i64 r121))], .sl 1 (List.map e_i64 xs8) false]) (by kernel_rfl) (by kernel_rfl) (by kernel_rfl) (by kernel_rfl) (by decide) (by kernel_rfl) (by kernel_rfl) ?_
                exact hj12 sum6
        · refine oBlock ?_
          refine oLoop ?_
          refine oHead [4, 5, 6, 7, 9, 10, 11, 12] [0, 1] (T' := [(4, .ptr 0 0), (5, .d (.int .i64 top1)), (6, .d (.lit (List.map e_i64 r151))), (7, .d (.lit (List.map e_i64 r112))), (9, .d (.int .i64 0)), (10, .d (.int .i64 ((List.length r151) : Int))), (11, .ref 1 (List.length xs5) 0 (List.length xs5)), (12, .d (.int .i64 0))]) (H' := [.box [.d (.lit (List.map e_i64 r121))], .sl 1 (List.map e_i64 xs5) false]) (by kernel_rfl) (by kernel_rfl) (by kernel_rfl) (by kernel_rfl) (by decide) (by kernel_rfl) (by kernel_rfl) ?_
          refine bLoop (body := law35_BoundaryGrades_b2 k r121 r151 top1) ((uc fun (last4 : Int) => (uc fun (m4 : Int) => (fun (xs9 : (List Int)) => [(4, .ptr 0 0), (5, .d (.int .i64 top1)), (6, .d (.lit (List.map e_i64 r151))), (7, .d (.lit (List.map e_i64 r112))), (9, .d (.int .i64 0)), (10, .d (.int .i64 last4)), (11, .ref 1 (List.length xs9) 0 (List.length xs9)), (12, .d (.int .i64 m4))])))) ((uc fun (last4 : Int) => (uc fun (m4 : Int) => (fun (xs9 : (List Int)) => [.box [.d (.lit (List.map e_i64 r121))], .sl 1 (List.map e_i64 xs9) false])))) (fun again hag2 s => ?_) k (((List.length r151) : Int), 0, xs5)
          · unfold law35_BoundaryGrades_b2
            obtain ⟨last4, m4, xs9⟩ := s
            refine bUc ?_
            refine bUc ?_
            refine oView (T' := [(4, .ptr 0 0), (5, .d (.int .i64 top1)), (6, .d (.lit (List.map e_i64 r151))), (7, .d (.lit (List.map e_i64 r112))), (9, .d (.int .i64 0)), (10, .d (.int .i64 last4)), (11, .ref 1 (List.length xs9) 0 (List.length xs9)), (12, .d (.int .i64 m4))]) (H' := [.box [.d (.lit (List.map e_i64 r121))], .sl 1 (List.map e_i64 xs9) false]) (by kernel_rfl) (by kernel_rfl) ?_
            refine oSeq ?_
            refine oSeq ?_
            refine oRegion rfl ?_
            refine oOp (.d (.int .i64 m4)) (by kernel_rfl) (by kernel_rfl) (PureV.does (p_move (by kernel_rfl))) ?_
            refine oOp (.d (.int .i64 top1)) (by kernel_rfl) (by kernel_rfl) (PureV.does (p_move (by kernel_rfl))) ?_
            refine oOp (.d (.bool (decide (m4 ≤ top1)))) (by kernel_rfl) (by kernel_rfl) (PureV.does (p_int (k := .i64) (p := m4) (q := top1) (by kernel_rfl) (by kernel_rfl) (by kernel_rfl))) ?_
            refine oEnd ?_
            refine bSplit 55 (by kernel_rfl) (fun hc => ?_) (fun hc => ?_)
            · refine oCondT (by kernel_rfl) ?_
              refine oSkip ?_
              refine oSeq ?_
              refine oBlock ?_
              refine oSeq ?_
              refine oRegion rfl ?_
              refine oOp (.d (.lit (List.map e_i64 r151))) (by kernel_rfl) (by kernel_rfl) (PureV.does (p_move (by kernel_rfl))) ?_
              refine oOp (.d (.int .i64 m4)) (by kernel_rfl) (by kernel_rfl) (PureV.does (p_move (by kernel_rfl))) ?_
              refine bCall (caps := []) (v := (fun (r126 : Int) => (.d (.int .i64 r126) : V))) (H' := (fun (r126 : Int) => ([.box [.d (.lit (List.map e_i64 r121))], .sl 1 (List.map e_i64 xs9) false] : List Blk))) [] _ (boundary_Grade_goes k r151 m4) (by kernel_rfl) (by kernel_rfl) rfl (by kernel_rfl) Try.func13 rfl (by kernel_rfl) (ConvRs.refl _ _) (by kernel_rfl) (by kernel_rfl) (by kernel_rfl) (by decide) (by kernel_rfl) (by kernel_rfl) (fun _ => (by kernel_rfl)) (fun _ => (by kernel_rfl)) (fun _ => (by kernel_rfl)) (fun r126 => ?_)
              refine oOp (.d (.int .i64 r126)) (by kernel_rfl) (by kernel_rfl) (PureV.does (p_assign (by kernel_rfl))) ?_
              refine oEnd ?_
              refine oSeq ?_
              refine oSeq ?_
              refine oRegion rfl ?_
              refine oOp (.d (.int .i64 r126)) (by kernel_rfl) (by kernel_rfl) (PureV.does (p_move (by kernel_rfl))) ?_
              refine oOp (.d (.int .i64 last4)) (by kernel_rfl) (by kernel_rfl) (PureV.does (p_move (by kernel_rfl))) ?_
              refine oOp (.d (.bool (decide (r126 > last4)))) (by kernel_rfl) (by kernel_rfl) (PureV.does (p_int (k := .i64) (p := r126) (q := last4) (by kernel_rfl) (by kernel_rfl) (by kernel_rfl))) ?_
              refine oOp (.d (.bool (decide (r126 > last4)))) (by kernel_rfl) (by kernel_rfl) (PureV.does (p_move (by kernel_rfl))) ?_
              refine bMeetF (H' := [.box [.d (.lit (List.map e_i64 r121))], .sl 1 (List.map e_i64 xs9) false]) 3 rfl ((fun (x54 : Bool) => [(4, .ptr 0 0), (5, .d (.int .i64 top1)), (6, .d (.lit (List.map e_i64 r151))), (7, .d (.lit (List.map e_i64 r112))), (9, .d (.int .i64 0)), (11, .ref 1 (List.length xs9) 0 (List.length xs9)), (12, .d (.int .i64 m4)), (13, .d (.int .i64 r126)), (67, .d (.bool x54))])) (fun x54 => ?_) (fun F hj20 => ?_)
              · refine oView (T' := [(4, .ptr 0 0), (5, .d (.int .i64 top1)), (6, .d (.lit (List.map e_i64 r151))), (7, .d (.lit (List.map e_i64 r112))), (9, .d (.int .i64 0)), (11, .ref 1 (List.length xs9) 0 (List.length xs9)), (12, .d (.int .i64 m4)), (13, .d (.int .i64 r126)), (67, .d (.bool x54))]) (H' := [.box [.d (.lit (List.map e_i64 r121))], .sl 1 (List.map e_i64 xs9) false]) (by kernel_rfl) (by kernel_rfl) ?_
                refine oEnd ?_
                refine bSplit 67 (by kernel_rfl) (fun hc => ?_) (fun hc => ?_)
                · refine oCondT (by kernel_rfl) ?_
                  refine oSeq ?_
                  refine oRegion rfl ?_
                  refine oOp (.d (.bool false)) (by kernel_rfl) (by kernel_rfl) (PureV.does (p_assign (by kernel_rfl))) ?_
                  refine oEnd ?_
                  exact oRet (r0 := false) (rv := .d (.bool false)) (B := []) (vs := [.d (.bool false)]) (σ := []) (by kernel_rfl) Try.func3 rfl (.cons _ _ _ _ (.tmp 2 _ (by kernel_rfl)) .nil) (by kernel_rfl) (by kernel_rfl) (by kernel_rfl) (by kernel_rfl) (by decide) (by kernel_rfl) (by kernel_rfl)
                · refine oCondF (by kernel_rfl) ?_
                  refine oSkip ?_
                  refine oSeq ?_
                  refine oSeq ?_
                  refine oRegion rfl ?_
                  refine oOp (.d (.lit (List.map e_i64 r151))) (by kernel_rfl) (by kernel_rfl) (PureV.does (p_move (by kernel_rfl))) ?_
                  refine oOp (.d (.int .i64 ((List.length r151) : Int))) (by kernel_rfl) (by kernel_rfl) (PureV.does (k_lenLit (enc := e_i64) r151 (by kernel_rfl) Try.underlying22)) ?_
                  refine oOp (.d (.int .i64 0)) (by kernel_rfl) (by kernel_rfl) (PureV.does (p_move (by kernel_rfl))) ?_
                  refine oEnd ?_
                  refine bJoin ((u0 ([(4, .ptr 0 0), (5, .d (.int .i64 top1)), (6, .d (.lit (List.map e_i64 r151))), (7, .d (.lit (List.map e_i64 r112))), (9, .d (.int .i64 0)), (11, .ref 1 (List.length xs9) 0 (List.length xs9)), (12, .d (.int .i64 m4)), (13, .d (.int .i64 r126))]))) ((u0 ([.box [.d (.lit (List.map e_i64 r121))], .sl 1 (List.map e_i64 xs9) false]))) Sum.inl (fun s => ?_) (fun hj21 => ?_)
                  · cases s
                    refine bInl ?_
                    refine bU0 ?_
                    refine oView (T' := [(4, .ptr 0 0), (5, .d (.int .i64 top1)), (6, .d (.lit (List.map e_i64 r151))), (7, .d (.lit (List.map e_i64 r112))), (9, .d (.int .i64 0)), (11, .ref 1 (List.length xs9) 0 (List.length xs9)), (12, .d (.int .i64 m4)), (13, .d (.int .i64 r126))]) (H' := [.box [.d (.lit (List.map e_i64 r121))], .sl 1 (List.map e_i64 xs9) false]) (by kernel_rfl) (by kernel_rfl) ?_
                    refine oSeq ?_
                    refine oRegion rfl ?_
                    refine oOp (.d (.int .i64 r126)) (by kernel_rfl) (by kernel_rfl) (PureV.does (p_move (by kernel_rfl))) ?_
                    refine oOp (.d (.int .i64 r126)) (by kernel_rfl) (by kernel_rfl) (PureV.does (p_assign (by kernel_rfl))) ?_
                    refine oEnd ?_
                    refine oDraw [(0, 12), (1, 11)] rfl ?_
                    refine aTakeL (i := 0) (st' := []) (.ref 1 (List.length xs9) 0 (List.length xs9)) rfl (by kernel_rfl) (by kernel_rfl) (by kernel_rfl) (by kernel_rfl) (by kernel_rfl) (by kernel_rfl) (by kernel_rfl) (PureV.quiet (p_move (by kernel_rfl)) []) ?_
                    refine aTakeL (i := 1) (st' := []) (.d (.int .i64 r126)) rfl (by kernel_rfl) (by kernel_rfl) (by kernel_rfl) (by kernel_rfl) (by kernel_rfl) (by kernel_rfl) (by kernel_rfl) (PureV.quiet (p_move (by kernel_rfl)) []) ?_
                    refine dIdx (fun e14 h110 h111 => ?_)
                    refine aTakeL (i := 2) (st' := []) (.eptr 1 (List.length xs9) (Int.toNat r126) 0) rfl (by kernel_rfl) (by kernel_rfl) (by kernel_rfl) (by kernel_rfl) (by kernel_rfl) (by kernel_rfl) (by kernel_rfl) (PureV.quiet (k_idxRef (enc := e_i64) (fro := false) xs9 (a := e14) (by kernel_rfl) (k := .i64) (i := r126) (by kernel_rfl) (by kernel_rfl) Try.underlying22 ty3 h110 h111) []) ?_
                    refine aTakeL (i := 3) (st' := [1]) (.d (.int .i64 e14)) rfl (by kernel_rfl) (by kernel_rfl) (by kernel_rfl) (by kernel_rfl) (by kernel_rfl) (by kernel_rfl) (by kernel_rfl) (k_loadE (enc := e_i64) (sz := 1) (fro := false) 1 0 xs9 (by kernel_rfl) (by kernel_rfl) Try.underlying3 (by kernel_rfl) h111 (by kernel_rfl)) ?_
                    refine aTakeL (i := 4) (st' := []) (.ptr 0 0) rfl (by kernel_rfl) (by kernel_rfl) (by kernel_rfl) (by kernel_rfl) (by kernel_rfl) (by kernel_rfl) (by kernel_rfl) (PureV.quiet (k_fieldAddr 0 0 (by kernel_rfl) Try.underlying28 rfl ty22 (by kernel_rfl)) []) ?_
                    refine aTakeL (i := 5) (st' := [0]) (.d (.lit (List.map e_i64 r121))) rfl (by kernel_rfl) (by kernel_rfl) (by kernel_rfl) (by kernel_rfl) (by kernel_rfl) (by kernel_rfl) (by kernel_rfl) (k_load 0 0 (by kernel_rfl) Try.underlying22 (by kernel_rfl) (by kernel_rfl)) ?_
                    refine aTakeL (i := 6) (st' := []) (.d (.int .i64 m4)) rfl (by kernel_rfl) (by kernel_rfl) (by kernel_rfl) (by kernel_rfl) (by kernel_rfl) (by kernel_rfl) (by kernel_rfl) (PureV.quiet (p_move (by kernel_rfl)) []) ?_
                    refine dIdx (fun e15 h112 h113 => ?_)
                    refine aTakeL (i := 7) (st' := []) (.lptr (e_i64 e15) 0) rfl (by kernel_rfl) (by kernel_rfl) (by kernel_rfl) (by kernel_rfl) (by kernel_rfl) (by kernel_rfl) (by kernel_rfl) (PureV.quiet (k_idxLit e_i64_len r121 (a := e15) (by kernel_rfl) (k := .i64) (i := m4) (by kernel_rfl) Try.underlying22 ty3 h112 h113) []) ?_
                    refine aTakeL (i := 8) (st' := []) (.d (.int .i64 e15)) rfl (by kernel_rfl) (by kernel_rfl) (by kernel_rfl) (by kernel_rfl) (by kernel_rfl) (by kernel_rfl) (by kernel_rfl) (k_loadL (cells := e_i64 e15) 0 (by kernel_rfl) Try.underlying3 (by kernel_rfl) (by kernel_rfl)) ?_
                    refine aTakeL (i := 9) (st' := []) (.d (.int .i64 (IntKind.wrap .i64 (e14 + e15)))) rfl (by kernel_rfl) (by kernel_rfl) (by kernel_rfl) (by kernel_rfl) (by kernel_rfl) (by kernel_rfl) (by kernel_rfl) (PureV.quiet (p_int (k := .i64) (p := e14) (q := e15) (by kernel_rfl) (by kernel_rfl) (by kernel_rfl)) []) ?_
                    refine aTakeL (i := 10) (st' := []) (.eptr 1 (List.length xs9) (Int.toNat r126) 0) rfl (by kernel_rfl) (by kernel_rfl) (by kernel_rfl) (by kernel_rfl) (by kernel_rfl) (by kernel_rfl) (by kernel_rfl) (PureV.quiet (k_idxRef (enc := e_i64) (fro := false) xs9 (a := e14) (by kernel_rfl) (k := .i64) (i := r126) (by kernel_rfl) (by kernel_rfl) Try.underlying22 ty3 h110 h111) []) ?_
                    refine dSet _ (fun xs1 hs1 => ?_)
                    refine aOne (i := 11) (v := .undef) rfl (by kernel_rfl) (by kernel_rfl) (by kernel_rfl) (by kernel_rfl) (by kernel_rfl) (by kernel_rfl) (by kernel_rfl) (Does.acts (k_storeE (H' := [.box [.d (.lit (List.map e_i64 r121))], .sl 1 (List.map e_i64 xs1) false]) 1 0 xs9 (IntKind.wrap .i64 (e14 + e15)) [(.int .i64 (IntKind.wrap .i64 (e14 + e15)))] e_i64_len (by kernel_rfl) (by kernel_rfl) h111 ty3 (by kernel_rfl) (by kernel_rfl) (by kernel_rfl) hs1 (by kernel_rfl))) (by kernel_rfl) ?_
                    refine dDrop [4, 5, 6, 7, 9, 10, 11, 12] [4, 5, 6, 7, 9, 10, 11, 12] (T' := [(4, .ptr 0 0), (5, .d (.int .i64 top1)), (6, .d (.lit (List.map e_i64 r151))), (7, .d (.lit (List.map e_i64 r112))), (9, .d (.int .i64 0)), (10, .d (.int .i64 r126)), (11, .ref 1 (List.length xs9) 0 (List.length xs9)), (12, .d (.int .i64 m4))]) (U' := [(4, .ptr 0 0), (5, .d (.int .i64 top1)), (6, .d (.lit (List.map e_i64 r151))), (7, .d (.lit (List.map e_i64 r112))), (9, .d (.int .i64 0)), (10, .d (.int .i64 r126)), (11, .ref 1 (List.length xs9) 0 (List.length xs9)), (12, .d (.int .i64 m4))]) (by kernel_rfl) (by kernel_rfl) ?_
                    refine dView (H' := [.box [.d (.lit (List.map e_i64 r121))], .sl 1 (List.map e_i64 xs1) false]) rfl rfl (by kernel_rfl) ?_
                    refine dView (T' := [(4, .ptr 0 0), (5, .d (.int .i64 top1)), (6, .d (.lit (List.map e_i64 r151))), (7, .d (.lit (List.map e_i64 r112))), (9, .d (.int .i64 0)), (10, .d (.int .i64 r126)), (11, .ref 1 (List.length xs1) 0 (List.length xs1)), (12, .d (.int .i64 m4))]) (H' := [.box [.d (.lit (List.map e_i64 r121))], .sl 1 (List.map e_i64 xs1) false]) (by first | rw [(set_len hs1)] | rfl) rfl (by first | rw [(set_len hs1)] | rfl) ?_
                    refine aDone (by kernel_rfl) ?_
                    refine oBlk ?_
                    refine oRegion rfl ?_
                    refine oOp (.d (.int .i64 m4)) (by kernel_rfl) (by kernel_rfl) (PureV.does (p_move (by kernel_rfl))) ?_
                    refine oOp (.d (.int .i64 (IntKind.wrap .i64 (m4 + 1)))) (by kernel_rfl) (by kernel_rfl) (PureV.does (p_int (k := .i64) (p := m4) (q := 1) (by kernel_rfl) (by kernel_rfl) (by kernel_rfl))) ?_
                    refine oOp (.d (.int .i64 (IntKind.wrap .i64 (m4 + 1)))) (by kernel_rfl) (by kernel_rfl) (PureV.does (p_assign (by kernel_rfl))) ?_
                    refine oEnd ?_
                    refine oAgain ?_
                    refine oHead [4, 5, 6, 7, 9, 10, 11, 12] [0, 1] (T' := [(4, .ptr 0 0), (5, .d (.int .i64 top1)), (6, .d (.lit (List.map e_i64 r151))), (7, .d (.lit (List.map e_i64 r112))), (9, .d (.int .i64 0)), (10, .d (.int .i64 r126)), (11, .ref 1 (List.length xs1) 0 (List.length xs1)), (12, .d (.int .i64 (IntKind.wrap .i64 (m4 + 1))))]) (H' := [.box [.d (.lit (List.map e_i64 r121))], .sl 1 (List.map e_i64 xs1) false]) (by kernel_rfl) (by kernel_rfl) (by kernel_rfl) (by kernel_rfl) (by decide) (by kernel_rfl) (by kernel_rfl) ?_
                    exact hag2 (r126, (IntKind.wrap .i64 (m4 + 1)), xs1)
                  · refine oBlock ?_
                    refine oLoop ?_
                    refine oHead [4, 5, 6, 7, 9, 11, 12, 13, 69, 70] [0, 1] (T' := [(4, .ptr 0 0), (5, .d (.int .i64 top1)), (6, .d (.lit (List.map e_i64 r151))), (7, .d (.lit (List.map e_i64 r112))), (9, .d (.int .i64 0)), (11, .ref 1 (List.length xs9) 0 (List.length xs9)), (12, .d (.int .i64 m4)), (13, .d (.int .i64 r126)), (69, .d (.int .i64 ((List.length r151) : Int))), (70, .d (.int .i64 0))]) (H' := [.box [.d (.lit (List.map e_i64 r121))], .sl 1 (List.map e_i64 xs9) false]) (by kernel_rfl) (by kernel_rfl) (by kernel_rfl) (by kernel_rfl) (by decide) (by kernel_rfl) (by kernel_rfl) ?_
                    refine bLoop (body := law35_BoundaryGrades_b3 k r151 m4 r126) ((fun (x57 : Int) => [(4, .ptr 0 0), (5, .d (.int .i64 top1)), (6, .d (.lit (List.map e_i64 r151))), (7, .d (.lit (List.map e_i64 r112))), (9, .d (.int .i64 0)), (11, .ref 1 (List.length xs9) 0 (List.length xs9)), (12, .d (.int .i64 m4)), (13, .d (.int .i64 r126)), (69, .d (.int .i64 ((List.length r151) : Int))), (70, .d (.int .i64 x57))])) ((fun (x57 : Int) => [.box [.d (.lit (List.map e_i64 r121))], .sl 1 (List.map e_i64 xs9) false])) (fun again hag3 x57 => ?_) k 0
                    · unfold law35_BoundaryGrades_b3
                      refine oView (T' := [(4, .ptr 0 0), (5, .d (.int .i64 top1)), (6, .d (.lit (List.map e_i64 r151))), (7, .d (.lit (List.map e_i64 r112))), (9, .d (.int .i64 0)), (11, .ref 1 (List.length xs9) 0 (List.length xs9)), (12, .d (.int .i64 m4)), (13, .d (.int .i64 r126)), (69, .d (.int .i64 ((List.length r151) : Int))), (70, .d (.int .i64 x57))]) (H' := [.box [.d (.lit (List.map e_i64 r121))], .sl 1 (List.map e_i64 xs9) false]) (by kernel_rfl) (by kernel_rfl) ?_
                      refine oSeq ?_
                      refine oRegion rfl ?_
                      refine oOp (.d (.bool (decide (x57 < ((List.length r151) : Int))))) (by kernel_rfl) (by kernel_rfl) (PureV.does (p_int (k := .i64) (p := x57) (q := ((List.length r151) : Int)) (by kernel_rfl) (by kernel_rfl) (by kernel_rfl))) ?_
                      refine oEnd ?_
                      refine oSeq ?_
                      refine bSplit 71 (by kernel_rfl) (fun hc => ?_) (fun hc => ?_)
                      · refine oCondT (by kernel_rfl) ?_
                        refine oSkip ?_
                        refine oSeq ?_
                        refine oBlock ?_
                        refine oSeq ?_
                        refine oRegion rfl ?_
                        refine oOp (.d (.int .i64 x57)) (by kernel_rfl) (by kernel_rfl) (PureV.does (p_move (by kernel_rfl))) ?_
                        refine oOp (.d (.int .i64 x57)) (by kernel_rfl) (by kernel_rfl) (PureV.does (p_assign (by kernel_rfl))) ?_
                        refine oEnd ?_
                        refine oSeq ?_
                        refine oRegion rfl ?_
                        refine oOp (.d (.int .i64 m4)) (by kernel_rfl) (by kernel_rfl) (PureV.does (p_move (by kernel_rfl))) ?_
                        refine oOp (.d (.lit (List.map e_i64 r151))) (by kernel_rfl) (by kernel_rfl) (PureV.does (p_move (by kernel_rfl))) ?_
                        refine oOp (.d (.int .i64 x57)) (by kernel_rfl) (by kernel_rfl) (PureV.does (p_move (by kernel_rfl))) ?_
                        refine bIdx (fun e177 h1158 h1159 => ?_)
                        refine oOp (.lptr (e_i64 e177) 0) (by kernel_rfl) (by kernel_rfl) (PureV.does (k_idxLit e_i64_len r151 (a := e177) (by kernel_rfl) (k := .i64) (i := x57) (by kernel_rfl) Try.underlying22 ty3 h1158 h1159)) ?_
                        refine oOp (.d (.int .i64 e177)) (by kernel_rfl) (by kernel_rfl) (Quiet.does (k_loadL (cells := e_i64 e177) 0 (by kernel_rfl) Try.underlying3 (by kernel_rfl) (by kernel_rfl))) ?_
                        refine oOp (.d (.bool (decide (m4 ≥ e177)))) (by kernel_rfl) (by kernel_rfl) (PureV.does (p_int (k := .i64) (p := m4) (q := e177) (by kernel_rfl) (by kernel_rfl) (by kernel_rfl))) ?_
                        refine oOp (.d (.int .i64 r126)) (by kernel_rfl) (by kernel_rfl) (PureV.does (p_move (by kernel_rfl))) ?_
                        refine oOp (.d (.int .i64 x57)) (by kernel_rfl) (by kernel_rfl) (PureV.does (p_move (by kernel_rfl))) ?_
                        refine oOp (.d (.bool (decide (r126 ≤ x57)))) (by kernel_rfl) (by kernel_rfl) (PureV.does (p_int (k := .i64) (p := r126) (q := x57) (by kernel_rfl) (by kernel_rfl) (by kernel_rfl))) ?_
                        refine oOp (.d (.bool (!((decide (m4 ≥ e177)) == (decide (r126 ≤ x57)))))) (by kernel_rfl) (by kernel_rfl) (PureV.does (p_boolNe (p := (decide (m4 ≥ e177))) (q := (decide (r126 ≤ x57))) (by kernel_rfl) (by kernel_rfl) Try.underlying4 (by kernel_rfl))) ?_
                        refine oEnd ?_
                        refine bSplit 82 (by kernel_rfl) (fun hc => ?_) (fun hc => ?_)
                        · refine oCondT (by kernel_rfl) ?_
                          refine oSeq ?_
                          refine oRegion rfl ?_
                          refine oOp (.d (.bool false)) (by kernel_rfl) (by kernel_rfl) (PureV.does (p_assign (by kernel_rfl))) ?_
                          refine oEnd ?_
                          exact oRet (r0 := false) (rv := .d (.bool false)) (B := []) (vs := [.d (.bool false)]) (σ := []) (by kernel_rfl) Try.func3 rfl (.cons _ _ _ _ (.tmp 2 _ (by kernel_rfl)) .nil) (by kernel_rfl) (by kernel_rfl) (by kernel_rfl) (by kernel_rfl) (by decide) (by kernel_rfl) (by kernel_rfl)
                        · refine oCondF (by kernel_rfl) ?_
                          refine oSkip ?_
                          refine oBlk ?_
                          refine oRegion rfl ?_
                          refine oOp (.d (.int .i64 (IntKind.wrap .i64 (x57 + 1)))) (by kernel_rfl) (by kernel_rfl) (PureV.does (p_int (k := .i64) (p := x57) (q := 1) (by kernel_rfl) (by kernel_rfl) (by kernel_rfl))) ?_
                          refine oOp (.d (.int .i64 (IntKind.wrap .i64 (x57 + 1)))) (by kernel_rfl) (by kernel_rfl) (PureV.does (p_move (by kernel_rfl))) ?_
                          refine oEnd ?_
                          refine oAgain ?_
                          refine oHead [4, 5, 6, 7, 9, 11, 12, 13, 69, 70] [0, 1] (T' := [(4, .ptr 0 0), (5, .d (.int .i64 top1)), (6, .d (.lit (List.map e_i64 r151))), (7, .d (.lit (List.map e_i64 r112))), (9, .d (.int .i64 0)), (11, .ref 1 (List.length xs9) 0 (List.length xs9)), (12, .d (.int .i64 m4)), (13, .d (.int .i64 r126)), (69, .d (.int .i64 ((List.length r151) : Int))), (70, .d (.int .i64 (IntKind.wrap .i64 (x57 + 1))))]) (H' := [.box [.d (.lit (List.map e_i64 r121))], .sl 1 (List.map e_i64 xs9) false]) (by kernel_rfl) (by kernel_rfl) (by kernel_rfl) (by kernel_rfl) (by decide) (by kernel_rfl) (by kernel_rfl) ?_
                          exact hag3 (IntKind.wrap .i64 (x57 + 1))
                      · refine oCondF (by kernel_rfl) ?_
                        refine oExit rfl ?_
                        refine oHead [4, 5, 6, 7, 9, 11, 12, 13] [0, 1] (T' := [(4, .ptr 0 0), (5, .d (.int .i64 top1)), (6, .d (.lit (List.map e_i64 r151))), (7, .d (.lit (List.map e_i64 r112))), (9, .d (.int .i64 0)), (11, .ref 1 (List.length xs9) 0 (List.length xs9)), (12, .d (.int .i64 m4)), (13, .d (.int .i64 r126))]) (H' := [.box [.d (.lit (List.map e_i64 r121))], .sl 1 (List.map e_i64 xs9) false]) (by kernel_rfl) (by kernel_rfl) (by kernel_rfl) (by kernel_rfl) (by decide) (by kernel_rfl) (by kernel_rfl) ?_
                        exact hj21 ()
              · refine bPickF 64 (fun c => F (c || (decide (r126 < 0)))) (by kernel_rfl) (fun hc => ?_) (fun hc => ?_)
                · refine oNot (by kernel_rfl) (by kernel_rfl) ?_
                  refine oNot (by kernel_rfl) (by kernel_rfl) ?_
                  refine oOp (.d (.bool true)) (by kernel_rfl) (by kernel_rfl) (PureV.does (p_pick (b := true) (by kernel_rfl) (by kernel_rfl))) ?_
                  refine oHead [4, 5, 6, 7, 9, 11, 12, 13, 67] [0, 1] (T' := [(4, .ptr 0 0), (5, .d (.int .i64 top1)), (6, .d (.lit (List.map e_i64 r151))), (7, .d (.lit (List.map e_i64 r112))), (9, .d (.int .i64 0)), (11, .ref 1 (List.length xs9) 0 (List.length xs9)), (12, .d (.int .i64 m4)), (13, .d (.int .i64 r126)), (67, .d (.bool true))]) (H' := [.box [.d (.lit (List.map e_i64 r121))], .sl 1 (List.map e_i64 xs9) false]) (by kernel_rfl) (by kernel_rfl) (by kernel_rfl) (by kernel_rfl) (by decide) (by kernel_rfl) (by kernel_rfl) ?_
                  exact hj20 true
                · refine oOp (.d (.int .i64 r126)) (by kernel_rfl) (by kernel_rfl) (PureV.does (p_move (by kernel_rfl))) ?_
                  refine oOp (.d (.bool (decide (r126 < 0)))) (by kernel_rfl) (by kernel_rfl) (PureV.does (p_int (k := .i64) (p := r126) (q := 0) (by kernel_rfl) (by kernel_rfl) (by kernel_rfl))) ?_
                  refine oOp (.d (.bool (decide (r126 < 0)))) (by kernel_rfl) (by kernel_rfl) (PureV.does (p_pick (b := false) (by kernel_rfl) (by kernel_rfl))) ?_
                  refine oHead [4, 5, 6, 7, 9, 11, 12, 13, 67] [0, 1] (T' := [(4, .ptr 0 0), (5, .d (.int .i64 top1)), (6, .d (.lit (List.map e_i64 r151))), (7, .d (.lit (List.map e_i64 r112))), (9, .d (.int .i64 0)), (11, .ref 1 (List.length xs9) 0 (List.length xs9)), (12, .d (.int .i64 m4)), (13, .d (.int .i64 r126)), (67, .d (.bool (decide (r126 < 0))))]) (H' := [.box [.d (.lit (List.map e_i64 r121))], .sl 1 (List.map e_i64 xs9) false]) (by kernel_rfl) (by kernel_rfl) (by kernel_rfl) (by kernel_rfl) (by decide) (by kernel_rfl) (by kernel_rfl) ?_
                  exact hj20 (decide (r126 < 0))
            · refine oCondF (by kernel_rfl) ?_
              refine oExit rfl ?_
              refine oHead [4, 7, 9, 11] [0, 1] (T' := [(4, .ptr 0 0), (7, .d (.lit (List.map e_i64 r112))), (9, .d (.int .i64 0)), (11, .ref 1 (List.length xs9) 0 (List.length xs9))]) (H' := [.box [.d (.lit (List.map e_i64 r121))], .sl 1 (List.map e_i64 xs9) false]) (by kernel_rfl) (by kernel_rfl) (by kernel_rfl) (by kernel_rfl) (by decide) (by kernel_rfl) (by kernel_rfl) ?_
              exact hj11 xs9
    · refine bSplit 40 (by kernel_rfl) (fun hc => ?_) (fun hc => ?_)
      · refine oNot (by kernel_rfl) (by kernel_rfl) ?_
        refine oNot (by kernel_rfl) (by kernel_rfl) ?_
        refine oNot (by kernel_rfl) (by kernel_rfl) ?_
        refine oNot (by kernel_rfl) (by kernel_rfl) ?_
        refine oNot (by kernel_rfl) (by kernel_rfl) ?_
        refine oNot (by kernel_rfl) (by kernel_rfl) ?_
        refine oOp (.d (.bool true)) (by kernel_rfl) (by kernel_rfl) (PureV.does (p_pick (b := true) (by kernel_rfl) (by kernel_rfl))) ?_
        refine oHead [4, 5, 6, 7, 47] [1] (T' := [(4, .ptr 0 0), (5, .d (.int .i64 (IntKind.wrap .i64 (((List.length r121) : Int) - 1)))), (6, .d (.lit (List.map e_i64 r151))), (7, .d (.lit (List.map e_i64 r112))), (47, .d (.bool true))]) (H' := [.box [.d (.lit (List.map e_i64 r121))]]) (by kernel_rfl) (by kernel_rfl) (by kernel_rfl) (by kernel_rfl) (by decide) (by kernel_rfl) (by kernel_rfl) ?_
        exact hj22 ((IntKind.wrap .i64 (((List.length r121) : Int) - 1)), true)
      · refine oOp (.d (.lit (List.map e_i64 r112))) (by kernel_rfl) (by kernel_rfl) (PureV.does (p_move (by kernel_rfl))) ?_
        refine oOp (.d (.int .i64 ((List.length r112) : Int))) (by kernel_rfl) (by kernel_rfl) (PureV.does (k_lenLit (enc := e_i64) r112 (by kernel_rfl) Try.underlying22)) ?_
        refine oOp (.d (.lit (List.map e_i64 r151))) (by kernel_rfl) (by kernel_rfl) (PureV.does (p_move (by kernel_rfl))) ?_
        refine oOp (.d (.int .i64 ((List.length r151) : Int))) (by kernel_rfl) (by kernel_rfl) (PureV.does (k_lenLit (enc := e_i64) r151 (by kernel_rfl) Try.underlying22)) ?_
        refine oOp (.d (.int .i64 (IntKind.wrap .i64 (((List.length r151) : Int) + 1)))) (by kernel_rfl) (by kernel_rfl) (PureV.does (p_int (k := .i64) (p := ((List.length r151) : Int)) (q := 1) (by kernel_rfl) (by kernel_rfl) (by kernel_rfl))) ?_
        refine oOp (.d (.bool (((List.length r112) : Int) != (IntKind.wrap .i64 (((List.length r151) : Int) + 1))))) (by kernel_rfl) (by kernel_rfl) (PureV.does (p_int (k := .i64) (p := ((List.length r112) : Int)) (q := (IntKind.wrap .i64 (((List.length r151) : Int) + 1))) (by kernel_rfl) (by kernel_rfl) (by kernel_rfl))) ?_
        refine oOp (.d (.bool (((List.length r112) : Int) != (IntKind.wrap .i64 (((List.length r151) : Int) + 1))))) (by kernel_rfl) (by kernel_rfl) (PureV.does (p_pick (b := false) (by kernel_rfl) (by kernel_rfl))) ?_
        refine oHead [4, 5, 6, 7, 47] [1] (T' := [(4, .ptr 0 0), (5, .d (.int .i64 (IntKind.wrap .i64 (((List.length r121) : Int) - 1)))), (6, .d (.lit (List.map e_i64 r151))), (7, .d (.lit (List.map e_i64 r112))), (47, .d (.bool (((List.length r112) : Int) != (IntKind.wrap .i64 (((List.length r151) : Int) + 1)))))]) (H' := [.box [.d (.lit (List.map e_i64 r121))]]) (by kernel_rfl) (by kernel_rfl) (by kernel_rfl) (by kernel_rfl) (by decide) (by kernel_rfl) (by kernel_rfl) ?_
        exact hj22 ((IntKind.wrap .i64 (((List.length r121) : Int) - 1)), (((List.length r112) : Int) != (IntKind.wrap .i64 (((List.length r151) : Int) + 1))))

/-- awardingbody/awardingbodylaw35.BoundaryInterpolates -/
def law35_BoundaryInterpolates_b1 (k : Nat) (r121 : (List Int)) (n1 : Int) (again : Int × Int × Int → Option (Int × Int)) : Int × Int × Int → Option (Int × Int) := uc fun least6 => uc fun most6 => fun i4 => bif (decide (i4 ≤ n1)) then gidx r121 (IntKind.wrap .i64 (i4 - 1)) fun e12 => gidx r121 i4 fun e13 => again ((gmin least6 (IntKind.wrap .i64 (e12 - e13))), (gmax most6 (IntKind.wrap .i64 (e12 - e13))), (IntKind.wrap .i64 (i4 + 1))) else some (least6, most6)
def law35_BoundaryInterpolates (k : Nat) (high : Int) (low : Int) (steps : Int) : Option (Bool) := Option.bind (boundary_Interpolate k (IntKind.wrap .i64 ((Int.tmod (IntKind.wrap .i64 low) 100) + (Int.tmod (IntKind.wrap .i64 high) 100))) (Int.tmod (IntKind.wrap .i64 low) 100) (IntKind.wrap .i64 (1 + (Int.tmod (IntKind.wrap .i64 steps) 8)))) (uc fun r121 => fun r131 => Option.bind (bif (r131 != 0) then some ((Int.tmod (IntKind.wrap .i64 low) 100), (IntKind.wrap .i64 (1 + (Int.tmod (IntKind.wrap .i64 steps) 8))), (IntKind.wrap .i64 ((Int.tmod (IntKind.wrap .i64 low) 100) + (Int.tmod (IntKind.wrap .i64 high) 100))), true) else some ((Int.tmod (IntKind.wrap .i64 low) 100), (IntKind.wrap .i64 (1 + (Int.tmod (IntKind.wrap .i64 steps) 8))), (IntKind.wrap .i64 ((Int.tmod (IntKind.wrap .i64 low) 100) + (Int.tmod (IntKind.wrap .i64 high) 100))), (((List.length r121) : Int) != (IntKind.wrap .i64 ((IntKind.wrap .i64 (1 + (Int.tmod (IntKind.wrap .i64 steps) 8))) + 1)))) : Option (Int × Int × Int × Bool)) (uc fun lo1 => uc fun n1 => uc fun hi1 => fun x5 => Option.bind (bif x5 then some true else gidx r121 0 fun e17 => some (e17 != hi1) : Option (Bool)) (fun x6 => Option.bind (bif x6 then some true else gidx r121 n1 fun e16 => some (e16 != lo1) : Option (Bool)) (fun x7 => bif x7 then some false else Option.bind (gloop (law35_BoundaryInterpolates_b1 k r121 n1) k (200, 0, 1) : Option (Int × Int)) (uc fun least5 => fun most5 => Option.bind (bif (decide (least5 ≥ 0)) then some (decide ((IntKind.wrap .i64 (most5 - least5)) ≤ 1)) else some false : Option (Bool)) (fun x8 => Option.bind (bif x8 then Option.bind (law35_sane k) (fun r172 => some r172) else some false : Option (Bool)) (fun x9 => some x9)))))))
def law35_BoundaryInterpolates_E (high : Int) (low : Int) (steps : Int) : Bool → V × List Blk := fun r1 => (.d (.bool r1), [])
theorem law35_BoundaryInterpolates_goes (k : Nat) (high : Int) (low : Int) (steps : Int) : RunsO Try.prog 4 [.d (.int .u8 high), .d (.int .u8 low), .d (.int .u8 steps)] [] (law35_BoundaryInterpolates_E high low steps) (law35_BoundaryInterpolates k high low steps) := by
  refine RunsO.of_goes (N := 98) (m := 0) (T := [(0, .d (.int .u8 high)), (1, .d (.int .u8 low)), (2, .d (.int .u8 steps))]) Try.func4 rfl rfl (by kernel_rfl) (by kernel_rfl) (by kernel_rfl) ?_
  unfold law35_BoundaryInterpolates
  refine bStart ?_
  refine oSeq ?_
  refine oRegion rfl ?_
  refine oOp (.d (.bool false)) (by kernel_rfl) (by kernel_rfl) (PureV.does (p_assign (by kernel_rfl))) ?_
  refine oEnd ?_
  refine oSeq ?_
  refine oRegion rfl ?_
  refine oOp (.d (.int .u8 low)) (by kernel_rfl) (by kernel_rfl) (PureV.does (p_move (by kernel_rfl))) ?_
  refine oOp (.d (.int .i64 (IntKind.wrap .i64 low))) (by kernel_rfl) (by kernel_rfl) (PureV.does (p_conv (k := .u8) (p := low) (by kernel_rfl) Try.underlying5 Try.underlying3 (by kernel_rfl))) ?_
  refine oOp (.d (.int .i64 (Int.tmod (IntKind.wrap .i64 low) 100))) (by kernel_rfl) (by kernel_rfl) (PureV.does (p_rem (k := .i64) (p := (IntKind.wrap .i64 low)) (q := 100) (by kernel_rfl) (by kernel_rfl) (by decide) (by kernel_rfl))) ?_
  refine oOp (.d (.int .u8 steps)) (by kernel_rfl) (by kernel_rfl) (PureV.does (p_move (by kernel_rfl))) ?_
  refine oOp (.d (.int .i64 (IntKind.wrap .i64 steps))) (by kernel_rfl) (by kernel_rfl) (PureV.does (p_conv (k := .u8) (p := steps) (by kernel_rfl) Try.underlying5 Try.underlying3 (by kernel_rfl))) ?_
  refine oOp (.d (.int .i64 (Int.tmod (IntKind.wrap .i64 steps) 8))) (by kernel_rfl) (by kernel_rfl) (PureV.does (p_rem (k := .i64) (p := (IntKind.wrap .i64 steps)) (q := 8) (by kernel_rfl) (by kernel_rfl) (by decide) (by kernel_rfl))) ?_
  refine oOp (.d (.int .i64 (IntKind.wrap .i64 (1 + (Int.tmod (IntKind.wrap .i64 steps) 8))))) (by kernel_rfl) (by kernel_rfl) (PureV.does (p_int (k := .i64) (p := 1) (q := (Int.tmod (IntKind.wrap .i64 steps) 8)) (by kernel_rfl) (by kernel_rfl) (by kernel_rfl))) ?_
  refine oOp (.d (.int .i64 (Int.tmod (IntKind.wrap .i64 low) 100))) (by kernel_rfl) (by kernel_rfl) (PureV.does (p_assign (by kernel_rfl))) ?_
  refine oOp (.d (.int .i64 (IntKind.wrap .i64 (1 + (Int.tmod (IntKind.wrap .i64 steps) 8))))) (by kernel_rfl) (by kernel_rfl) (PureV.does (p_assign (by kernel_rfl))) ?_
  refine oEnd ?_
  refine oSeq ?_
  refine oRegion rfl ?_
  refine oOp (.d (.int .i64 (Int.tmod (IntKind.wrap .i64 low) 100))) (by kernel_rfl) (by kernel_rfl) (PureV.does (p_move (by kernel_rfl))) ?_
  refine oOp (.d (.int .u8 high)) (by kernel_rfl) (by kernel_rfl) (PureV.does (p_move (by kernel_rfl))) ?_
  refine oOp (.d (.int .i64 (IntKind.wrap .i64 high))) (by kernel_rfl) (by kernel_rfl) (PureV.does (p_conv (k := .u8) (p := high) (by kernel_rfl) Try.underlying5 Try.underlying3 (by kernel_rfl))) ?_
  refine oOp (.d (.int .i64 (Int.tmod (IntKind.wrap .i64 high) 100))) (by kernel_rfl) (by kernel_rfl) (PureV.does (p_rem (k := .i64) (p := (IntKind.wrap .i64 high)) (q := 100) (by kernel_rfl) (by kernel_rfl) (by decide) (by kernel_rfl))) ?_
  refine oOp (.d (.int .i64 (IntKind.wrap .i64 ((Int.tmod (IntKind.wrap .i64 low) 100) + (Int.tmod (IntKind.wrap .i64 high) 100))))) (by kernel_rfl) (by kernel_rfl) (PureV.does (p_int (k := .i64) (p := (Int.tmod (IntKind.wrap .i64 low) 100)) (q := (Int.tmod (IntKind.wrap .i64 high) 100)) (by kernel_rfl) (by kernel_rfl) (by kernel_rfl))) ?_
  refine oOp (.d (.int .i64 (IntKind.wrap .i64 ((Int.tmod (IntKind.wrap .i64 low) 100) + (Int.tmod (IntKind.wrap .i64 high) 100))))) (by kernel_rfl) (by kernel_rfl) (PureV.does (p_assign (by kernel_rfl))) ?_
  refine oEnd ?_
  refine oSeq ?_
  refine oRegion rfl ?_
  refine oOp (.d (.int .i64 (IntKind.wrap .i64 ((Int.tmod (IntKind.wrap .i64 low) 100) + (Int.tmod (IntKind.wrap .i64 high) 100))))) (by kernel_rfl) (by kernel_rfl) (PureV.does (p_move (by kernel_rfl))) ?_
  refine oOp (.d (.int .i64 (Int.tmod (IntKind.wrap .i64 low) 100))) (by kernel_rfl) (by kernel_rfl) (PureV.does (p_move (by kernel_rfl))) ?_
  refine oOp (.d (.int .i64 (IntKind.wrap .i64 (1 + (Int.tmod (IntKind.wrap .i64 steps) 8))))) (by kernel_rfl) (by kernel_rfl) (PureV.does (p_move (by kernel_rfl))) ?_
  refine bCall (caps := []) (v := (uc fun (r121 : (List Int)) => (fun (r131 : Int) => (.tuple [.d (.lit (List.map e_i64 r121)), .d (.int .i64 r131)] : V)))) (H' := (uc fun (r121 : (List Int)) => (fun (r131 : Int) => ([] : List Blk)))) [] _ (boundary_Interpolate_goes k (IntKind.wrap .i64 ((Int.tmod (IntKind.wrap .i64 low) 100) + (Int.tmod (IntKind.wrap .i64 high) 100))) (Int.tmod (IntKind.wrap .i64 low) 100) (IntKind.wrap .i64 (1 + (Int.tmod (IntKind.wrap .i64 steps) 8)))) (by kernel_rfl) (by kernel_rfl) rfl (by kernel_rfl) Try.func16 rfl (by kernel_rfl) (ConvRs.refl _ _) (by kernel_rfl) (by kernel_rfl) (by kernel_rfl) (by decide) (by kernel_rfl) (by kernel_rfl) (fun _ => (by kernel_rfl)) (fun _ => (by kernel_rfl)) (fun _ => (by kernel_rfl)) (fun r => ?_)
  obtain ⟨r121, r131⟩ := r
  refine bUc ?_
  refine oOp (.tuple [.d (.lit (List.map e_i64 r121)), .d (.int .i64 r131)]) (by kernel_rfl) (by kernel_rfl) (PureV.does (p_move (by kernel_rfl))) ?_
  refine oOp (.d (.lit (List.map e_i64 r121))) (by kernel_rfl) (by kernel_rfl) (PureV.does (k_extract (by kernel_rfl))) ?_
  refine oOp (.d (.int .i64 r131)) (by kernel_rfl) (by kernel_rfl) (PureV.does (k_extract (by kernel_rfl))) ?_
  refine oOp (.d (.lit (List.map e_i64 r121))) (by kernel_rfl) (by kernel_rfl) (PureV.does (p_assign (by kernel_rfl))) ?_
  refine oOp (.d (.int .i64 r131)) (by kernel_rfl) (by kernel_rfl) (PureV.does (p_assign (by kernel_rfl))) ?_
  refine oEnd ?_
  refine oSeq ?_
  refine oSeq ?_
  refine oRegion rfl ?_
  refine oOp (.d (.int .i64 r131)) (by kernel_rfl) (by kernel_rfl) (PureV.does (p_move (by kernel_rfl))) ?_
  refine oOp (.d (.bool (r131 != 0))) (by kernel_rfl) (by kernel_rfl) (PureV.does (p_int (k := .i64) (p := r131) (q := 0) (by kernel_rfl) (by kernel_rfl) (by kernel_rfl))) ?_
  refine oOp (.d (.bool (r131 != 0))) (by kernel_rfl) (by kernel_rfl) (PureV.does (p_move (by kernel_rfl))) ?_
  refine bMeet 6 rfl ((uc fun (lo1 : Int) => (uc fun (n1 : Int) => (uc fun (hi1 : Int) => (fun (x5 : Bool) => [(7, .d (.int .i64 lo1)), (8, .d (.int .i64 n1)), (9, .d (.int .i64 hi1)), (10, .d (.lit (List.map e_i64 r121))), (42, .d (.bool x5))]))))) ((uc fun (lo1 : Int) => (uc fun (n1 : Int) => (uc fun (hi1 : Int) => (fun (x5 : Bool) => []))))) (fun s => s) (fun s => ?_) (fun hj7 => ?_)
  · obtain ⟨lo1, n1, hi1, x5⟩ := s
    refine bUc ?_
    refine bUc ?_
    refine bUc ?_
    refine oView (T' := [(7, .d (.int .i64 lo1)), (8, .d (.int .i64 n1)), (9, .d (.int .i64 hi1)), (10, .d (.lit (List.map e_i64 r121))), (42, .d (.bool x5))]) (H' := []) (by kernel_rfl) (by kernel_rfl) ?_
    refine oOp (.d (.bool x5)) (by kernel_rfl) (by kernel_rfl) (PureV.does (p_move (by kernel_rfl))) ?_
    refine bMeet 6 rfl ((fun (x6 : Bool) => [(7, .d (.int .i64 lo1)), (8, .d (.int .i64 n1)), (10, .d (.lit (List.map e_i64 r121))), (49, .d (.bool x6))])) ((fun (x6 : Bool) => [])) (fun s => s) (fun x6 => ?_) (fun hj6 => ?_)
    · refine oView (T' := [(7, .d (.int .i64 lo1)), (8, .d (.int .i64 n1)), (10, .d (.lit (List.map e_i64 r121))), (49, .d (.bool x6))]) (H' := []) (by kernel_rfl) (by kernel_rfl) ?_
      refine oOp (.d (.bool x6)) (by kernel_rfl) (by kernel_rfl) (PureV.does (p_move (by kernel_rfl))) ?_
      refine bMeet 7 rfl ((fun (x7 : Bool) => [(8, .d (.int .i64 n1)), (10, .d (.lit (List.map e_i64 r121))), (57, .d (.bool x7))])) ((fun (x7 : Bool) => [])) (fun s => s) (fun x7 => ?_) (fun hj5 => ?_)
      · refine oView (T' := [(8, .d (.int .i64 n1)), (10, .d (.lit (List.map e_i64 r121))), (57, .d (.bool x7))]) (H' := []) (by kernel_rfl) (by kernel_rfl) ?_
        refine oEnd ?_
        refine bSplit 57 (by kernel_rfl) (fun hc => ?_) (fun hc => ?_)
        · refine oCondT (by kernel_rfl) ?_
          refine oSeq ?_
          refine oRegion rfl ?_
          refine oOp (.d (.bool false)) (by kernel_rfl) (by kernel_rfl) (PureV.does (p_assign (by kernel_rfl))) ?_
          refine oEnd ?_
          exact oRet (r0 := false) (rv := .d (.bool false)) (B := []) (vs := [.d (.bool false)]) (σ := []) (by kernel_rfl) Try.func4 rfl (.cons _ _ _ _ (.tmp 6 _ (by kernel_rfl)) .nil) (by kernel_rfl) (by kernel_rfl) (by kernel_rfl) (by kernel_rfl) (by decide) (by kernel_rfl) (by kernel_rfl)
        · refine oCondF (by kernel_rfl) ?_
          refine oSkip ?_
          refine oSeq ?_
          refine oRegion rfl ?_
          refine oOp (.d (.int .i64 200)) (by kernel_rfl) (by kernel_rfl) (PureV.does (p_assign (by kernel_rfl))) ?_
          refine oOp (.d (.int .i64 0)) (by kernel_rfl) (by kernel_rfl) (PureV.does (p_assign (by kernel_rfl))) ?_
          refine oEnd ?_
          refine oSeq ?_
          refine oSeq ?_
          refine oRegion rfl ?_
          refine oOp (.d (.int .i64 1)) (by kernel_rfl) (by kernel_rfl) (PureV.does (p_assign (by kernel_rfl))) ?_
          refine oEnd ?_
          refine bJoin ((uc fun (least5 : Int) => (fun (most5 : Int) => [(12, .d (.int .i64 least5)), (13, .d (.int .i64 most5))]))) ((uc fun (least5 : Int) => (fun (most5 : Int) => []))) (fun s => s) (fun s => ?_) (fun hj2 => ?_)
          · obtain ⟨least5, most5⟩ := s
            refine bUc ?_
            refine oView (T' := [(12, .d (.int .i64 least5)), (13, .d (.int .i64 most5))]) (H' := []) (by kernel_rfl) (by kernel_rfl) ?_
            refine oSeq ?_
            refine oRegion rfl ?_
            refine oOp (.d (.int .i64 least5)) (by kernel_rfl) (by kernel_rfl) (PureV.does (p_move (by kernel_rfl))) ?_
            refine oOp (.d (.bool (decide (least5 ≥ 0)))) (by kernel_rfl) (by kernel_rfl) (PureV.does (p_int (k := .i64) (p := least5) (q := 0) (by kernel_rfl) (by kernel_rfl) (by kernel_rfl))) ?_
            refine oOp (.d (.bool (decide (least5 ≥ 0)))) (by kernel_rfl) (by kernel_rfl) (PureV.does (p_move (by kernel_rfl))) ?_
            refine bMeet 5 rfl ((fun (x8 : Bool) => [(94, .d (.bool x8))])) ((fun (x8 : Bool) => [])) (fun s => s) (fun x8 => ?_) (fun hj4 => ?_)
            · refine oView (T' := [(94, .d (.bool x8))]) (H' := []) (by kernel_rfl) (by kernel_rfl) ?_
              refine oOp (.d (.bool x8)) (by kernel_rfl) (by kernel_rfl) (PureV.does (p_move (by kernel_rfl))) ?_
              refine bMeet 2 rfl ((fun (x9 : Bool) => [(97, .d (.bool x9))])) ((fun (x9 : Bool) => [])) (fun s => s) (fun x9 => ?_) (fun hj3 => ?_)
              · refine oView (T' := [(97, .d (.bool x9))]) (H' := []) (by kernel_rfl) (by kernel_rfl) ?_
                refine oOp (.d (.bool x9)) (by kernel_rfl) (by kernel_rfl) (PureV.does (p_assign (by kernel_rfl))) ?_
                refine oEnd ?_
                exact oRet (r0 := x9) (rv := .d (.bool x9)) (B := []) (vs := [.d (.bool x9)]) (σ := []) (by kernel_rfl) Try.func4 rfl (.cons _ _ _ _ (.tmp 6 _ (by kernel_rfl)) .nil) (by kernel_rfl) (by kernel_rfl) (by kernel_rfl) (by kernel_rfl) (by decide) (by kernel_rfl) (by kernel_rfl)
              · refine bSplit 95 (by kernel_rfl) (fun hc => ?_) (fun hc => ?_)
                · refine bCall (caps := []) (v := (fun (r172 : Bool) => (.d (.bool r172) : V))) (H' := (fun (r172 : Bool) => ([] : List Blk))) [] _ (law35_sane_goes k ) (by kernel_rfl) (by kernel_rfl) rfl (by kernel_rfl) Try.func8 rfl (by kernel_rfl) (ConvRs.refl _ _) (by kernel_rfl) (by kernel_rfl) (by kernel_rfl) (by decide) (by kernel_rfl) (by kernel_rfl) (fun _ => (by kernel_rfl)) (fun _ => (by kernel_rfl)) (fun _ => (by kernel_rfl)) (fun r172 => ?_)
                  refine oOp (.d (.bool r172)) (by kernel_rfl) (by kernel_rfl) (PureV.does (p_pick (b := true) (by kernel_rfl) (by kernel_rfl))) ?_
                  refine oHead [97] [] (T' := [(97, .d (.bool r172))]) (H' := []) (by kernel_rfl) (by kernel_rfl) (by kernel_rfl) (by kernel_rfl) (by decide) (by kernel_rfl) (by kernel_rfl) ?_
                  exact hj3 r172
                · refine oNot (by kernel_rfl) (by kernel_rfl) ?_
                  refine oOp (.d (.bool false)) (by kernel_rfl) (by kernel_rfl) (PureV.does (p_pick (b := false) (by kernel_rfl) (by kernel_rfl))) ?_
                  refine oHead [97] [] (T' := [(97, .d (.bool false))]) (H' := []) (by kernel_rfl) (by kernel_rfl) (by kernel_rfl) (by kernel_rfl) (by decide) (by kernel_rfl) (by kernel_rfl) ?_
                  exact hj3 false
            · refine bSplit 89 (by kernel_rfl) (fun hc => ?_) (fun hc => ?_)
              · refine oOp (.d (.int .i64 most5)) (by kernel_rfl) (by kernel_rfl) (PureV.does (p_move (by kernel_rfl))) ?_
                refine oOp (.d (.int .i64 least5)) (by kernel_rfl) (by kernel_rfl) (PureV.does (p_move (by kernel_rfl))) ?_
                refine oOp (.d (.int .i64 (IntKind.wrap .i64 (most5 - least5)))) (by kernel_rfl) (by kernel_rfl) (PureV.does (p_int (k := .i64) (p := most5) (q := least5) (by kernel_rfl) (by kernel_rfl) (by kernel_rfl))) ?_
                refine oOp (.d (.bool (decide ((IntKind.wrap .i64 (most5 - least5)) ≤ 1)))) (by kernel_rfl) (by kernel_rfl) (PureV.does (p_int (k := .i64) (p := (IntKind.wrap .i64 (most5 - least5))) (q := 1) (by kernel_rfl) (by kernel_rfl) (by kernel_rfl))) ?_
                refine oOp (.d (.bool (decide ((IntKind.wrap .i64 (most5 - least5)) ≤ 1)))) (by kernel_rfl) (by kernel_rfl) (PureV.does (p_pick (b := true) (by kernel_rfl) (by kernel_rfl))) ?_
                refine oHead [94] [] (T' := [(94, .d (.bool (decide ((IntKind.wrap .i64 (most5 - least5)) ≤ 1))))]) (H' := []) (by kernel_rfl) (by kernel_rfl) (by kernel_rfl) (by kernel_rfl) (by decide) (by kernel_rfl) (by kernel_rfl) ?_
                exact hj4 (decide ((IntKind.wrap .i64 (most5 - least5)) ≤ 1))
              · refine oNot (by kernel_rfl) (by kernel_rfl) ?_
                refine oNot (by kernel_rfl) (by kernel_rfl) ?_
                refine oNot (by kernel_rfl) (by kernel_rfl) ?_
                refine oNot (by kernel_rfl) (by kernel_rfl) ?_
                refine oOp (.d (.bool false)) (by kernel_rfl) (by kernel_rfl) (PureV.does (p_pick (b := false) (by kernel_rfl) (by kernel_rfl))) ?_
                refine oHead [94] [] (T' := [(94, .d (.bool false))]) (H' := []) (by kernel_rfl) (by kernel_rfl) (by kernel_rfl) (by kernel_rfl) (by decide) (by kernel_rfl) (by kernel_rfl) ?_
                exact hj4 false
          · refine oBlock ?_
            refine oLoop ?_
            refine oHead [8, 10, 12, 13, 14] [] (T' := [(8, .d (.int .i64 n1)), (10, .d (.lit (List.map e_i64 r121))), (12, .d (.int .i64 200)), (13, .d (.int .i64 0)), (14, .d (.int .i64 1))]) (H' := []) (by kernel_rfl) (by kernel_rfl) (by kernel_rfl) (by kernel_rfl) (by decide) (by kernel_rfl) (by kernel_rfl) ?_
            refine bLoop (body := law35_BoundaryInterpolates_b1 k r121 n1) ((uc fun (least6 : Int) => (uc fun (most6 : Int) => (fun (i4 : Int) => [(8, .d (.int .i64 n1)), (10, .d (.lit (List.map e_i64 r121))), (12, .d (.int .i64 least6)), (13, .d (.int .i64 most6)), (14, .d (.int .i64 i4))])))) ((uc fun (least6 : Int) => (uc fun (most6 : Int) => (fun (i4 : Int) => [])))) (fun again hag1 s => ?_) k (200, 0, 1)
            · unfold law35_BoundaryInterpolates_b1
              obtain ⟨least6, most6, i4⟩ := s
              refine bUc ?_
              refine bUc ?_
              refine oView (T' := [(8, .d (.int .i64 n1)), (10, .d (.lit (List.map e_i64 r121))), (12, .d (.int .i64 least6)), (13, .d (.int .i64 most6)), (14, .d (.int .i64 i4))]) (H' := []) (by kernel_rfl) (by kernel_rfl) ?_
              refine oSeq ?_
              refine oSeq ?_
              refine oRegion rfl ?_
              refine oOp (.d (.int .i64 i4)) (by kernel_rfl) (by kernel_rfl) (PureV.does (p_move (by kernel_rfl))) ?_
              refine oOp (.d (.int .i64 n1)) (by kernel_rfl) (by kernel_rfl) (PureV.does (p_move (by kernel_rfl))) ?_
              refine oOp (.d (.bool (decide (i4 ≤ n1)))) (by kernel_rfl) (by kernel_rfl) (PureV.does (p_int (k := .i64) (p := i4) (q := n1) (by kernel_rfl) (by kernel_rfl) (by kernel_rfl))) ?_
              refine oEnd ?_
              refine bSplit 60 (by kernel_rfl) (fun hc => ?_) (fun hc => ?_)
              · refine oCondT (by kernel_rfl) ?_
                refine oSkip ?_
                refine oSeq ?_
                refine oBlock ?_
                refine oDraw [] rfl ?_
                refine aTakeL (i := 0) (st' := []) (.d (.int .i64 least6)) rfl (by kernel_rfl) (by kernel_rfl) (by kernel_rfl) (by kernel_rfl) (by kernel_rfl) (by kernel_rfl) (by kernel_rfl) (PureV.quiet (p_move (by kernel_rfl)) []) ?_
                refine aTakeL (i := 1) (st' := []) (.d (.lit (List.map e_i64 r121))) rfl (by kernel_rfl) (by kernel_rfl) (by kernel_rfl) (by kernel_rfl) (by kernel_rfl) (by kernel_rfl) (by kernel_rfl) (PureV.quiet (p_move (by kernel_rfl)) []) ?_
                refine aTakeL (i := 2) (st' := []) (.d (.int .i64 i4)) rfl (by kernel_rfl) (by kernel_rfl) (by kernel_rfl) (by kernel_rfl) (by kernel_rfl) (by kernel_rfl) (by kernel_rfl) (PureV.quiet (p_move (by kernel_rfl)) []) ?_
                refine aTakeL (i := 3) (st' := []) (.d (.int .i64 (IntKind.wrap .i64 (i4 - 1)))) rfl (by kernel_rfl) (by kernel_rfl) (by kernel_rfl) (by kernel_rfl) (by kernel_rfl) (by kernel_rfl) (by kernel_rfl) (PureV.quiet (p_int (k := .i64) (p := i4) (q := 1) (by kernel_rfl) (by kernel_rfl) (by kernel_rfl)) []) ?_
                refine dIdx (fun e12 h14 h15 => ?_)
                refine aTakeL (i := 4) (st' := []) (.lptr (e_i64 e12) 0) rfl (by kernel_rfl) (by kernel_rfl) (by kernel_rfl) (by kernel_rfl) (by kernel_rfl) (by kernel_rfl) (by kernel_rfl) (PureV.quiet (k_idxLit e_i64_len r121 (a := e12) (by kernel_rfl) (k := .i64) (i := (IntKind.wrap .i64 (i4 - 1))) (by kernel_rfl) Try.underlying22 ty3 h14 h15) []) ?_
                refine aTakeL (i := 5) (st' := []) (.d (.int .i64 e12)) rfl (by kernel_rfl) (by kernel_rfl) (by kernel_rfl) (by kernel_rfl) (by kernel_rfl) (by kernel_rfl) (by kernel_rfl) (k_loadL (cells := e_i64 e12) 0 (by kernel_rfl) Try.underlying3 (by kernel_rfl) (by kernel_rfl)) ?_
                refine aTakeL (i := 6) (st' := []) (.d (.lit (List.map e_i64 r121))) rfl (by kernel_rfl) (by kernel_rfl) (by kernel_rfl) (by kernel_rfl) (by kernel_rfl) (by kernel_rfl) (by kernel_rfl) (PureV.quiet (p_move (by kernel_rfl)) []) ?_
                refine aTakeL (i := 7) (st' := []) (.d (.int .i64 i4)) rfl (by kernel_rfl) (by kernel_rfl) (by kernel_rfl) (by kernel_rfl) (by kernel_rfl) (by kernel_rfl) (by kernel_rfl) (PureV.quiet (p_move (by kernel_rfl)) []) ?_
                refine dIdx (fun e13 h16 h17 => ?_)
                refine aTakeL (i := 8) (st' := []) (.lptr (e_i64 e13) 0) rfl (by kernel_rfl) (by kernel_rfl) (by kernel_rfl) (by kernel_rfl) (by kernel_rfl) (by kernel_rfl) (by kernel_rfl) (PureV.quiet (k_idxLit e_i64_len r121 (a := e13) (by kernel_rfl) (k := .i64) (i := i4) (by kernel_rfl) Try.underlying22 ty3 h16 h17) []) ?_
                refine aTakeL (i := 9) (st' := []) (.d (.int .i64 e13)) rfl (by kernel_rfl) (by kernel_rfl) (by kernel_rfl) (by kernel_rfl) (by kernel_rfl) (by kernel_rfl) (by kernel_rfl) (k_loadL (cells := e_i64 e13) 0 (by kernel_rfl) Try.underlying3 (by kernel_rfl) (by kernel_rfl)) ?_
                refine aTakeL (i := 10) (st' := []) (.d (.int .i64 (IntKind.wrap .i64 (e12 - e13)))) rfl (by kernel_rfl) (by kernel_rfl) (by kernel_rfl) (by kernel_rfl) (by kernel_rfl) (by kernel_rfl) (by kernel_rfl) (PureV.quiet (p_int (k := .i64) (p := e12) (q := e13) (by kernel_rfl) (by kernel_rfl) (by kernel_rfl)) []) ?_
                refine aTakeL (i := 11) (st' := []) (.d (.int .i64 (gmin least6 (IntKind.wrap .i64 (e12 - e13))))) rfl (by kernel_rfl) (by kernel_rfl) (by kernel_rfl) (by kernel_rfl) (by kernel_rfl) (by kernel_rfl) (by kernel_rfl) (PureV.quiet (p_min2 (k := .i64) (p := least6) (q := (IntKind.wrap .i64 (e12 - e13))) (by kernel_rfl) (by kernel_rfl) (by kernel_rfl)) []) ?_
                refine aTakeL (i := 12) (st' := []) (.d (.int .i64 most6)) rfl (by kernel_rfl) (by kernel_rfl) (by kernel_rfl) (by kernel_rfl) (by kernel_rfl) (by kernel_rfl) (by kernel_rfl) (PureV.quiet (p_move (by kernel_rfl)) []) ?_
                refine aTakeL (i := 13) (st' := []) (.d (.lit (List.map e_i64 r121))) rfl (by kernel_rfl) (by kernel_rfl) (by kernel_rfl) (by kernel_rfl) (by kernel_rfl) (by kernel_rfl) (by kernel_rfl) (PureV.quiet (p_move (by kernel_rfl)) []) ?_
                refine aTakeL (i := 14) (st' := []) (.d (.int .i64 i4)) rfl (by kernel_rfl) (by kernel_rfl) (by kernel_rfl) (by kernel_rfl) (by kernel_rfl) (by kernel_rfl) (by kernel_rfl) (PureV.quiet (p_move (by kernel_rfl)) []) ?_
                refine aTakeL (i := 15) (st' := []) (.d (.int .i64 (IntKind.wrap .i64 (i4 - 1)))) rfl (by kernel_rfl) (by kernel_rfl) (by kernel_rfl) (by kernel_rfl) (by kernel_rfl) (by kernel_rfl) (by kernel_rfl) (PureV.quiet (p_int (k := .i64) (p := i4) (q := 1) (by kernel_rfl) (by kernel_rfl) (by kernel_rfl)) []) ?_
                refine aTakeL (i := 16) (st' := []) (.lptr (e_i64 e12) 0) rfl (by kernel_rfl) (by kernel_rfl) (by kernel_rfl) (by kernel_rfl) (by kernel_rfl) (by kernel_rfl) (by kernel_rfl) (PureV.quiet (k_idxLit e_i64_len r121 (a := e12) (by kernel_rfl) (k := .i64) (i := (IntKind.wrap .i64 (i4 - 1))) (by kernel_rfl) Try.underlying22 ty3 h14 h15) []) ?_
                refine aTakeL (i := 17) (st' := []) (.d (.int .i64 e12)) rfl (by kernel_rfl) (by kernel_rfl) (by kernel_rfl) (by kernel_rfl) (by kernel_rfl) (by kernel_rfl) (by kernel_rfl) (k_loadL (cells := e_i64 e12) 0 (by kernel_rfl) Try.underlying3 (by kernel_rfl) (by kernel_rfl)) ?_
                refine aTakeL (i := 18) (st' := []) (.d (.lit (List.map e_i64 r121))) rfl (by kernel_rfl) (by kernel_rfl) (by kernel_rfl) (by kernel_rfl) (by kernel_rfl) (by kernel_rfl) (by kernel_rfl) (PureV.quiet (p_move (by kernel_rfl)) []) ?_
                refine aTakeL (i := 19) (st' := []) (.d (.int .i64 i4)) rfl (by kernel_rfl) (by kernel_rfl) (by kernel_rfl) (by kernel_rfl) (by kernel_rfl) (by kernel_rfl) (by kernel_rfl) (PureV.quiet (p_move (by kernel_rfl)) []) ?_
                refine aTakeL (i := 20) (st' := []) (.lptr (e_i64 e13) 0) rfl (by kernel_rfl) (by kernel_rfl) (by kernel_rfl) (by kernel_rfl) (by kernel_rfl) (by kernel_rfl) (by kernel_rfl) (PureV.quiet (k_idxLit e_i64_len r121 (a := e13) (by kernel_rfl) (k := .i64) (i := i4) (by kernel_rfl) Try.underlying22 ty3 h16 h17) []) ?_
                refine aTakeL (i := 21) (st' := []) (.d (.int .i64 e13)) rfl (by kernel_rfl) (by kernel_rfl) (by kernel_rfl) (by kernel_rfl) (by kernel_rfl) (by kernel_rfl) (by kernel_rfl) (k_loadL (cells := e_i64 e13) 0 (by kernel_rfl) Try.underlying3 (by kernel_rfl) (by kernel_rfl)) ?_
                refine aTakeL (i := 22) (st' := []) (.d (.int .i64 (IntKind.wrap .i64 (e12 - e13)))) rfl (by kernel_rfl) (by kernel_rfl) (by kernel_rfl) (by kernel_rfl) (by kernel_rfl) (by kernel_rfl) (by kernel_rfl) (PureV.quiet (p_int (k := .i64) (p := e12) (q := e13) (by kernel_rfl) (by kernel_rfl) (by kernel_rfl)) []) ?_
                refine aTakeL (i := 23) (st' := []) (.d (.int .i64 (gmax most6 (IntKind.wrap .i64 (e12 - e13))))) rfl (by kernel_rfl) (by kernel_rfl) (by kernel_rfl) (by kernel_rfl) (by kernel_rfl) (by kernel_rfl) (by kernel_rfl) (PureV.quiet (p_max2 (k := .i64) (p := most6) (q := (IntKind.wrap .i64 (e12 - e13))) (by kernel_rfl) (by kernel_rfl) (by kernel_rfl)) []) ?_
                refine aTakeL (i := 24) (st' := []) (.d (.int .i64 (gmin least6 (IntKind.wrap .i64 (e12 - e13))))) rfl (by kernel_rfl) (by kernel_rfl) (by kernel_rfl) (by kernel_rfl) (by kernel_rfl) (by kernel_rfl) (by kernel_rfl) (PureV.quiet (p_assign (by kernel_rfl)) []) ?_
                refine aTakeL (i := 25) (st' := []) (.d (.int .i64 (gmax most6 (IntKind.wrap .i64 (e12 - e13))))) rfl (by kernel_rfl) (by kernel_rfl) (by kernel_rfl) (by kernel_rfl) (by kernel_rfl) (by kernel_rfl) (by kernel_rfl) (PureV.quiet (p_assign (by kernel_rfl)) []) ?_
                refine aDone (by kernel_rfl) ?_
                refine oBlk ?_
                refine oRegion rfl ?_
                refine oOp (.d (.int .i64 i4)) (by kernel_rfl) (by kernel_rfl) (PureV.does (p_move (by kernel_rfl))) ?_
                refine oOp (.d (.int .i64 (IntKind.wrap .i64 (i4 + 1)))) (by kernel_rfl) (by kernel_rfl) (PureV.does (p_int (k := .i64) (p := i4) (q := 1) (by kernel_rfl) (by kernel_rfl) (by kernel_rfl))) ?_
                refine oOp (.d (.int .i64 (IntKind.wrap .i64 (i4 + 1)))) (by kernel_rfl) (by kernel_rfl) (PureV.does (p_assign (by kernel_rfl))) ?_
                refine oEnd ?_
                refine oAgain ?_
                refine oHead [8, 10, 12, 13, 14] [] (T' := [(8, .d (.int .i64 n1)), (10, .d (.lit (List.map e_i64 r121))), (12, .d (.int .i64 (gmin least6 (IntKind.wrap .i64 (e12 - e13))))), (13, .d (.int .i64 (gmax most6 (IntKind.wrap .i64 (e12 - e13))))), (14, .d (.int .i64 (IntKind.wrap .i64 (i4 + 1))))]) (H' := []) (by kernel_rfl) (by kernel_rfl) (by kernel_rfl) (by kernel_rfl) (by decide) (by kernel_rfl) (by kernel_rfl) ?_
                exact hag1 ((gmin least6 (IntKind.wrap .i64 (e12 - e13))), (gmax most6 (IntKind.wrap .i64 (e12 - e13))), (IntKind.wrap .i64 (i4 + 1)))
              · refine oCondF (by kernel_rfl) ?_
                refine oExit rfl ?_
                refine oHead [12, 13] [] (T' := [(12, .d (.int .i64 least6)), (13, .d (.int .i64 most6))]) (H' := []) (by kernel_rfl) (by kernel_rfl) (by kernel_rfl) (by kernel_rfl) (by decide) (by kernel_rfl) (by kernel_rfl) ?_
                exact hj2 (least6, most6)
      · refine bSplit 50 (by kernel_rfl) (fun hc => ?_) (fun hc => ?_)
        · refine oNot (by kernel_rfl) (by kernel_rfl) ?_
          refine oNot (by kernel_rfl) (by kernel_rfl) ?_
          refine oNot (by kernel_rfl) (by kernel_rfl) ?_
          refine oNot (by kernel_rfl) (by kernel_rfl) ?_
          refine oNot (by kernel_rfl) (by kernel_rfl) ?_
          refine oNot (by kernel_rfl) (by kernel_rfl) ?_
          refine oOp (.d (.bool true)) (by kernel_rfl) (by kernel_rfl) (PureV.does (p_pick (b := true) (by kernel_rfl) (by kernel_rfl))) ?_
          refine oHead [8, 10, 57] [] (T' := [(8, .d (.int .i64 n1)), (10, .d (.lit (List.map e_i64 r121))), (57, .d (.bool true))]) (H' := []) (by kernel_rfl) (by kernel_rfl) (by kernel_rfl) (by kernel_rfl) (by decide) (by kernel_rfl) (by kernel_rfl) ?_
          exact hj5 true
        · refine oOp (.d (.lit (List.map e_i64 r121))) (by kernel_rfl) (by kernel_rfl) (PureV.does (p_move (by kernel_rfl))) ?_
          refine oOp (.d (.int .i64 n1)) (by kernel_rfl) (by kernel_rfl) (PureV.does (p_move (by kernel_rfl))) ?_
          refine bIdx (fun e16 h112 h113 => ?_)
          refine oOp (.lptr (e_i64 e16) 0) (by kernel_rfl) (by kernel_rfl) (PureV.does (k_idxLit e_i64_len r121 (a := e16) (by kernel_rfl) (k := .i64) (i := n1) (by kernel_rfl) Try.underlying22 ty3 h112 h113)) ?_
          refine oOp (.d (.int .i64 e16)) (by kernel_rfl) (by kernel_rfl) (Quiet.does (k_loadL (cells := e_i64 e16) 0 (by kernel_rfl) Try.underlying3 (by kernel_rfl) (by kernel_rfl))) ?_
          refine oOp (.d (.int .i64 lo1)) (by kernel_rfl) (by kernel_rfl) (PureV.does (p_move (by kernel_rfl))) ?_
          refine oOp (.d (.bool (e16 != lo1))) (by kernel_rfl) (by kernel_rfl) (PureV.does (p_int (k := .i64) (p := e16) (q := lo1) (by kernel_rfl) (by kernel_rfl) (by kernel_rfl))) ?_
          refine oOp (.d (.bool (e16 != lo1))) (by kernel_rfl) (by kernel_rfl) (PureV.does (p_pick (b := false) (by kernel_rfl) (by kernel_rfl))) ?_
          refine oHead [8, 10, 57] [] (T' := [(8, .d (.int .i64 n1)), (10, .d (.lit (List.map e_i64 r121))), (57, .d (.bool (e16 != lo1)))]) (H' := []) (by kernel_rfl) (by kernel_rfl) (by kernel_rfl) (by kernel_rfl) (by decide) (by kernel_rfl) (by kernel_rfl) ?_
          exact hj5 (e16 != lo1)
    · refine bSplit 43 (by kernel_rfl) (fun hc => ?_) (fun hc => ?_)
      · refine oNot (by kernel_rfl) (by kernel_rfl) ?_
        refine oNot (by kernel_rfl) (by kernel_rfl) ?_
        refine oNot (by kernel_rfl) (by kernel_rfl) ?_
        refine oNot (by kernel_rfl) (by kernel_rfl) ?_
        refine oNot (by kernel_rfl) (by kernel_rfl) ?_
        refine oOp (.d (.bool true)) (by kernel_rfl) (by kernel_rfl) (PureV.does (p_pick (b := true) (by kernel_rfl) (by kernel_rfl))) ?_
        refine oHead [7, 8, 10, 49] [] (T' := [(7, .d (.int .i64 lo1)), (8, .d (.int .i64 n1)), (10, .d (.lit (List.map e_i64 r121))), (49, .d (.bool true))]) (H' := []) (by kernel_rfl) (by kernel_rfl) (by kernel_rfl) (by kernel_rfl) (by decide) (by kernel_rfl) (by kernel_rfl) ?_
        exact hj6 true
      · refine oOp (.d (.lit (List.map e_i64 r121))) (by kernel_rfl) (by kernel_rfl) (PureV.does (p_move (by kernel_rfl))) ?_
        refine bIdx (fun e17 h114 h115 => ?_)
        refine oOp (.lptr (e_i64 e17) 0) (by kernel_rfl) (by kernel_rfl) (PureV.does (k_idxLit e_i64_len r121 (a := e17) (by kernel_rfl) (k := .i64) (i := 0) (by kernel_rfl) Try.underlying22 ty3 h114 h115)) ?_
        refine oOp (.d (.int .i64 e17)) (by kernel_rfl) (by kernel_rfl) (Quiet.does (k_loadL (cells := e_i64 e17) 0 (by kernel_rfl) Try.underlying3 (by kernel_rfl) (by kernel_rfl))) ?_
        refine oOp (.d (.int .i64 hi1)) (by kernel_rfl) (by kernel_rfl) (PureV.does (p_move (by kernel_rfl))) ?_
        refine oOp (.d (.bool (e17 != hi1))) (by kernel_rfl) (by kernel_rfl) (PureV.does (p_int (k := .i64) (p := e17) (q := hi1) (by kernel_rfl) (by kernel_rfl) (by kernel_rfl))) ?_
        refine oOp (.d (.bool (e17 != hi1))) (by kernel_rfl) (by kernel_rfl) (PureV.does (p_pick (b := false) (by kernel_rfl) (by kernel_rfl))) ?_
        refine oHead [7, 8, 10, 49] [] (T' := [(7, .d (.int .i64 lo1)), (8, .d (.int .i64 n1)), (10, .d (.lit (List.map e_i64 r121))), (49, .d (.bool (e17 != hi1)))]) (H' := []) (by kernel_rfl) (by kernel_rfl) (by kernel_rfl) (by kernel_rfl) (by decide) (by kernel_rfl) (by kernel_rfl) ?_
        exact hj6 (e17 != hi1)
  · refine bSplit 36 (by kernel_rfl) (fun hc => ?_) (fun hc => ?_)
    · refine oNot (by kernel_rfl) (by kernel_rfl) ?_
      refine oNot (by kernel_rfl) (by kernel_rfl) ?_
      refine oNot (by kernel_rfl) (by kernel_rfl) ?_
      refine oNot (by kernel_rfl) (by kernel_rfl) ?_
      refine oNot (by kernel_rfl) (by kernel_rfl) ?_
      refine oOp (.d (.bool true)) (by kernel_rfl) (by kernel_rfl) (PureV.does (p_pick (b := true) (by kernel_rfl) (by kernel_rfl))) ?_
      refine oHead [7, 8, 9, 10, 42] [] (T' := [(7, .d (.int .i64 (Int.tmod (IntKind.wrap .i64 low) 100))), (8, .d (.int .i64 (IntKind.wrap .i64 (1 + (Int.tmod (IntKind.wrap .i64 steps) 8))))), (9, .d (.int .i64 (IntKind.wrap .i64 ((Int.tmod (IntKind.wrap .i64 low) 100) + (Int.tmod (IntKind.wrap .i64 high) 100))))), (10, .d (.lit (List.map e_i64 r121))), (42, .d (.bool true))]) (H' := []) (by kernel_rfl) (by kernel_rfl) (by kernel_rfl) (by kernel_rfl) (by decide) (by kernel_rfl) (by kernel_rfl) ?_
      exact hj7 ((Int.tmod (IntKind.wrap .i64 low) 100), (IntKind.wrap .i64 (1 + (Int.tmod (IntKind.wrap .i64 steps) 8))), (IntKind.wrap .i64 ((Int.tmod (IntKind.wrap .i64 low) 100) + (Int.tmod (IntKind.wrap .i64 high) 100))), true)
    · refine oOp (.d (.lit (List.map e_i64 r121))) (by kernel_rfl) (by kernel_rfl) (PureV.does (p_move (by kernel_rfl))) ?_
      refine oOp (.d (.int .i64 ((List.length r121) : Int))) (by kernel_rfl) (by kernel_rfl) (PureV.does (k_lenLit (enc := e_i64) r121 (by kernel_rfl) Try.underlying22)) ?_
      refine oOp (.d (.int .i64 (IntKind.wrap .i64 (1 + (Int.tmod (IntKind.wrap .i64 steps) 8))))) (by kernel_rfl) (by kernel_rfl) (PureV.does (p_move (by kernel_rfl))) ?_
      refine oOp (.d (.int .i64 (IntKind.wrap .i64 ((IntKind.wrap .i64 (1 + (Int.tmod (IntKind.wrap .i64 steps) 8))) + 1)))) (by kernel_rfl) (by kernel_rfl) (PureV.does (p_int (k := .i64) (p := (IntKind.wrap .i64 (1 + (Int.tmod (IntKind.wrap .i64 steps) 8)))) (q := 1) (by kernel_rfl) (by kernel_rfl) (by kernel_rfl))) ?_
      refine oOp (.d (.bool (((List.length r121) : Int) != (IntKind.wrap .i64 ((IntKind.wrap .i64 (1 + (Int.tmod (IntKind.wrap .i64 steps) 8))) + 1))))) (by kernel_rfl) (by kernel_rfl) (PureV.does (p_int (k := .i64) (p := ((List.length r121) : Int)) (q := (IntKind.wrap .i64 ((IntKind.wrap .i64 (1 + (Int.tmod (IntKind.wrap .i64 steps) 8))) + 1))) (by kernel_rfl) (by kernel_rfl) (by kernel_rfl))) ?_
      refine oOp (.d (.bool (((List.length r121) : Int) != (IntKind.wrap .i64 ((IntKind.wrap .i64 (1 + (Int.tmod (IntKind.wrap .i64 steps) 8))) + 1))))) (by kernel_rfl) (by kernel_rfl) (PureV.does (p_pick (b := false) (by kernel_rfl) (by kernel_rfl))) ?_
      refine oHead [7, 8, 9, 10, 42] [] (T' := [(7, .d (.int .i64 (Int.tmod (IntKind.wrap .i64 low) 100))), (8, .d (.int .i64 (IntKind.wrap .i64 (1 + (Int.tmod (IntKind.wrap .i64 steps) 8))))), (9, .d (.int .i64 (IntKind.wrap .i64 ((Int.tmod (IntKind.wrap .i64 low) 100) + (Int.tmod (IntKind.wrap .i64 high) 100))))), (10, .d (.lit (List.map e_i64 r121))), (42, .d (.bool (((List.length r121) : Int) != (IntKind.wrap .i64 ((IntKind.wrap .i64 (1 + (Int.tmod (IntKind.wrap .i64 steps) 8))) + 1)))))]) (H' := []) (by kernel_rfl) (by kernel_rfl) (by kernel_rfl) (by kernel_rfl) (by decide) (by kernel_rfl) (by kernel_rfl) ?_
      exact hj7 ((Int.tmod (IntKind.wrap .i64 low) 100), (IntKind.wrap .i64 (1 + (Int.tmod (IntKind.wrap .i64 steps) 8))), (IntKind.wrap .i64 ((Int.tmod (IntKind.wrap .i64 low) 100) + (Int.tmod (IntKind.wrap .i64 high) 100))), (((List.length r121) : Int) != (IntKind.wrap .i64 ((IntKind.wrap .i64 (1 + (Int.tmod (IntKind.wrap .i64 steps) 8))) + 1))))

/-- awardingbody/awardingbodyref01.Size -/
def ref01_Size (k : Nat) (n : Int) : Option (Int) := bif (decide (n < 0)) then some (IntKind.wrap .u64 ((IntKind.wrap .u64 (IntKind.wrap .i64 (0 - (IntKind.wrap .i64 (n + 1))))) + 1)) else some (IntKind.wrap .u64 n)
def ref01_Size_E (n : Int) : Int → V × List Blk := fun r1 => (.d (.int .u64 r1), [])
theorem ref01_Size_goes (k : Nat) (n : Int) : RunsO Try.prog 30 [.d (.int .i64 n)] [] (ref01_Size_E n) (ref01_Size k n) := by
  refine RunsO.of_goes (N := 12) (m := 0) (T := [(0, .d (.int .i64 n))]) Try.func30 rfl rfl (by kernel_rfl) (by kernel_rfl) (by kernel_rfl) ?_
  unfold ref01_Size
  refine bStart ?_
  refine oSeq ?_
  refine oRegion rfl ?_
  refine oOp (.d (.int .u64 0)) (by kernel_rfl) (by kernel_rfl) (PureV.does (p_assign (by kernel_rfl))) ?_
  refine oEnd ?_
  refine oSeq ?_
  refine oSeq ?_
  refine oRegion rfl ?_
  refine oOp (.d (.int .i64 n)) (by kernel_rfl) (by kernel_rfl) (PureV.does (p_move (by kernel_rfl))) ?_
  refine oOp (.d (.bool (decide (n < 0)))) (by kernel_rfl) (by kernel_rfl) (PureV.does (p_int (k := .i64) (p := n) (q := 0) (by kernel_rfl) (by kernel_rfl) (by kernel_rfl))) ?_
  refine oEnd ?_
  refine bSplit 4 (by kernel_rfl) (fun hc => ?_) (fun hc => ?_)
  · refine oCondT (by kernel_rfl) ?_
    refine oSeq ?_
    refine oRegion rfl ?_
    refine oOp (.d (.int .i64 n)) (by kernel_rfl) (by kernel_rfl) (PureV.does (p_move (by kernel_rfl))) ?_
    refine oOp (.d (.int .i64 (IntKind.wrap .i64 (n + 1)))) (by kernel_rfl) (by kernel_rfl) (PureV.does (p_int (k := .i64) (p := n) (q := 1) (by kernel_rfl) (by kernel_rfl) (by kernel_rfl))) ?_
    refine oOp (.d (.int .i64 (IntKind.wrap .i64 (0 - (IntKind.wrap .i64 (n + 1)))))) (by kernel_rfl) (by kernel_rfl) (PureV.does (p_neg (k := .i64) (p := (IntKind.wrap .i64 (n + 1))) (by kernel_rfl) (by kernel_rfl))) ?_
    refine oOp (.d (.int .u64 (IntKind.wrap .u64 (IntKind.wrap .i64 (0 - (IntKind.wrap .i64 (n + 1))))))) (by kernel_rfl) (by kernel_rfl) (PureV.does (p_conv (k := .i64) (p := (IntKind.wrap .i64 (0 - (IntKind.wrap .i64 (n + 1))))) (by kernel_rfl) Try.underlying3 Try.underlying56 (by kernel_rfl))) ?_
    refine oOp (.d (.int .u64 (IntKind.wrap .u64 ((IntKind.wrap .u64 (IntKind.wrap .i64 (0 - (IntKind.wrap .i64 (n + 1))))) + 1)))) (by kernel_rfl) (by kernel_rfl) (PureV.does (p_int (k := .u64) (p := (IntKind.wrap .u64 (IntKind.wrap .i64 (0 - (IntKind.wrap .i64 (n + 1)))))) (q := 1) (by kernel_rfl) (by kernel_rfl) (by kernel_rfl))) ?_
    refine oOp (.d (.int .u64 (IntKind.wrap .u64 ((IntKind.wrap .u64 (IntKind.wrap .i64 (0 - (IntKind.wrap .i64 (n + 1))))) + 1)))) (by kernel_rfl) (by kernel_rfl) (PureV.does (p_assign (by kernel_rfl))) ?_
    refine oEnd ?_
    exact oRet (r0 := (IntKind.wrap .u64 ((IntKind.wrap .u64 (IntKind.wrap .i64 (0 - (IntKind.wrap .i64 (n + 1))))) + 1))) (rv := .d (.int .u64 (IntKind.wrap .u64 ((IntKind.wrap .u64 (IntKind.wrap .i64 (0 - (IntKind.wrap .i64 (n + 1))))) + 1)))) (B := []) (vs := [.d (.int .u64 (IntKind.wrap .u64 ((IntKind.wrap .u64 (IntKind.wrap .i64 (0 - (IntKind.wrap .i64 (n + 1))))) + 1)))]) (σ := []) (by kernel_rfl) Try.func30 rfl (.cons _ _ _ _ (.tmp 2 _ (by kernel_rfl)) .nil) (by kernel_rfl) (by kernel_rfl) (by kernel_rfl) (by kernel_rfl) (by decide) (by kernel_rfl) (by kernel_rfl)
  · refine oCondF (by kernel_rfl) ?_
    refine oSkip ?_
    refine oSeq ?_
    refine oRegion rfl ?_
    refine oOp (.d (.int .i64 n)) (by kernel_rfl) (by kernel_rfl) (PureV.does (p_move (by kernel_rfl))) ?_
    refine oOp (.d (.int .u64 (IntKind.wrap .u64 n))) (by kernel_rfl) (by kernel_rfl) (PureV.does (p_conv (k := .i64) (p := n) (by kernel_rfl) Try.underlying3 Try.underlying56 (by kernel_rfl))) ?_
    refine oOp (.d (.int .u64 (IntKind.wrap .u64 n))) (by kernel_rfl) (by kernel_rfl) (PureV.does (p_assign (by kernel_rfl))) ?_
    refine oEnd ?_
    exact oRet (r0 := (IntKind.wrap .u64 n)) (rv := .d (.int .u64 (IntKind.wrap .u64 n))) (B := []) (vs := [.d (.int .u64 (IntKind.wrap .u64 n))]) (σ := []) (by kernel_rfl) Try.func30 rfl (.cons _ _ _ _ (.tmp 2 _ (by kernel_rfl)) .nil) (by kernel_rfl) (by kernel_rfl) (by kernel_rfl) (by kernel_rfl) (by decide) (by kernel_rfl) (by kernel_rfl)

/-- awardingbody/awardingbodyref01.Twice -/
def ref01_Twice (k : Nat) (a0 : Int) (a1 : Int) : Option (Int × Int) := some ((ior .u64 (IntKind.wrap .u64 (a0 * 2 ^ (min (Int.toNat 1) (IntKind.bits .u64)))) (Int.fdiv a1 (2 ^ (min (Int.toNat 63) (IntKind.bits .u64))))), (IntKind.wrap .u64 (a1 * 2 ^ (min (Int.toNat 1) (IntKind.bits .u64)))))
def ref01_Twice_E (a0 : Int) (a1 : Int) : Int × Int → V × List Blk := uc fun r1 => fun r11 => (.agg [.d (.int .u64 r1), .d (.int .u64 r11)], [])
theorem ref01_Twice_goes (k : Nat) (a0 : Int) (a1 : Int) : RunsO Try.prog 49 [.agg [.d (.int .u64 a0), .d (.int .u64 a1)]] [] (ref01_Twice_E a0 a1) (ref01_Twice k a0 a1) := by
  refine RunsO.of_goes (N := 14) (m := 0) (T := [(0, .agg [.d (.int .u64 a0), .d (.int .u64 a1)])]) Try.func49 rfl rfl (by kernel_rfl) (by kernel_rfl) (by kernel_rfl) ?_
  unfold ref01_Twice
  refine bStart ?_
  refine oSeq ?_
  refine oRegion rfl ?_
  refine oOp (.ptr 0 0) (by kernel_rfl) (by kernel_rfl) (k_box (H' := [.box [.d (.int .u64 a0), .d (.int .u64 a1)]]) (cells := [.d (.int .u64 a0), .d (.int .u64 a1)]) (by kernel_rfl) (by kernel_rfl) (by kernel_rfl)) ?_
  refine oOp (.ptr 1 0) (by kernel_rfl) (by kernel_rfl) (k_alloc (H' := [.box [.d (.int .u64 a0), .d (.int .u64 a1)], .box [.d (.int .u64 0), .d (.int .u64 0)]]) ty59 (by kernel_rfl) (by kernel_rfl)) ?_
  refine oEnd ?_
  refine oSeq ?_
  refine oRegion rfl ?_
  refine oOp (.ptr 0 0) (by kernel_rfl) (by kernel_rfl) (PureV.does (k_fieldAddr 0 0 (by kernel_rfl) Try.underlying59 rfl ty56 (by kernel_rfl))) ?_
  refine oOp (.d (.int .u64 a0)) (by kernel_rfl) (by kernel_rfl) (Quiet.does (k_load 0 0 (by kernel_rfl) Try.underlying56 (by kernel_rfl) (by kernel_rfl))) ?_
  refine oOp (.d (.int .u64 (IntKind.wrap .u64 (a0 * 2 ^ (min (Int.toNat 1) (IntKind.bits .u64)))))) (by kernel_rfl) (by kernel_rfl) (PureV.does (p_shl (k := .u64) (k2 := .u64) (p := a0) (q := 1) (by kernel_rfl) (by kernel_rfl) (by decide) (by kernel_rfl))) ?_
  refine oOp (.ptr 0 1) (by kernel_rfl) (by kernel_rfl) (PureV.does (k_fieldAddr 0 0 (by kernel_rfl) Try.underlying59 rfl ty56 (by kernel_rfl))) ?_
  refine oOp (.d (.int .u64 a1)) (by kernel_rfl) (by kernel_rfl) (Quiet.does (k_load 0 1 (by kernel_rfl) Try.underlying56 (by kernel_rfl) (by kernel_rfl))) ?_
  refine oOp (.d (.int .u64 (Int.fdiv a1 (2 ^ (min (Int.toNat 63) (IntKind.bits .u64)))))) (by kernel_rfl) (by kernel_rfl) (PureV.does (p_shr (k := .u64) (k2 := .u64) (p := a1) (q := 63) (by kernel_rfl) (by kernel_rfl) (by decide) (by kernel_rfl))) ?_
  refine oOp (.d (.int .u64 (ior .u64 (IntKind.wrap .u64 (a0 * 2 ^ (min (Int.toNat 1) (IntKind.bits .u64)))) (Int.fdiv a1 (2 ^ (min (Int.toNat 63) (IntKind.bits .u64))))))) (by kernel_rfl) (by kernel_rfl) (PureV.does (p_int (k := .u64) (p := (IntKind.wrap .u64 (a0 * 2 ^ (min (Int.toNat 1) (IntKind.bits .u64))))) (q := (Int.fdiv a1 (2 ^ (min (Int.toNat 63) (IntKind.bits .u64))))) (by kernel_rfl) (by kernel_rfl) (by kernel_rfl))) ?_
  refine oOp (.ptr 0 1) (by kernel_rfl) (by kernel_rfl) (PureV.does (k_fieldAddr 0 0 (by kernel_rfl) Try.underlying59 rfl ty56 (by kernel_rfl))) ?_
  refine oOp (.d (.int .u64 a1)) (by kernel_rfl) (by kernel_rfl) (Quiet.does (k_load 0 1 (by kernel_rfl) Try.underlying56 (by kernel_rfl) (by kernel_rfl))) ?_
  refine oOp (.d (.int .u64 (IntKind.wrap .u64 (a1 * 2 ^ (min (Int.toNat 1) (IntKind.bits .u64)))))) (by kernel_rfl) (by kernel_rfl) (PureV.does (p_shl (k := .u64) (k2 := .u64) (p := a1) (q := 1) (by kernel_rfl) (by kernel_rfl) (by decide) (by kernel_rfl))) ?_
  refine oOp (.agg [.d (.int .u64 (ior .u64 (IntKind.wrap .u64 (a0 * 2 ^ (min (Int.toNat 1) (IntKind.bits .u64)))) (Int.fdiv a1 (2 ^ (min (Int.toNat 63) (IntKind.bits .u64)))))), .d (.int .u64 (IntKind.wrap .u64 (a1 * 2 ^ (min (Int.toNat 1) (IntKind.bits .u64)))))]) (by kernel_rfl) (by kernel_rfl) (PureV.does (p_build bld59 (by kernel_rfl))) ?_
  refine oOp (.undef) (by kernel_rfl) (by kernel_rfl) (k_store (vs := [.d (.int .u64 (ior .u64 (IntKind.wrap .u64 (a0 * 2 ^ (min (Int.toNat 1) (IntKind.bits .u64)))) (Int.fdiv a1 (2 ^ (min (Int.toNat 63) (IntKind.bits .u64)))))), .d (.int .u64 (IntKind.wrap .u64 (a1 * 2 ^ (min (Int.toNat 1) (IntKind.bits .u64)))))]) (H' := [.box [.d (.int .u64 a0), .d (.int .u64 a1)], .box [.d (.int .u64 (ior .u64 (IntKind.wrap .u64 (a0 * 2 ^ (min (Int.toNat 1) (IntKind.bits .u64)))) (Int.fdiv a1 (2 ^ (min (Int.toNat 63) (IntKind.bits .u64)))))), .d (.int .u64 (IntKind.wrap .u64 (a1 * 2 ^ (min (Int.toNat 1) (IntKind.bits .u64)))))]]) 1 0 (by kernel_rfl) ty59 (by kernel_rfl) (by kernel_rfl) (by kernel_rfl)) ?_
  refine oEnd ?_
  exact oRet (r0 := ((ior .u64 (IntKind.wrap .u64 (a0 * 2 ^ (min (Int.toNat 1) (IntKind.bits .u64)))) (Int.fdiv a1 (2 ^ (min (Int.toNat 63) (IntKind.bits .u64))))), (IntKind.wrap .u64 (a1 * 2 ^ (min (Int.toNat 1) (IntKind.bits .u64)))))) (rv := .agg [.d (.int .u64 (ior .u64 (IntKind.wrap .u64 (a0 * 2 ^ (min (Int.toNat 1) (IntKind.bits .u64)))) (Int.fdiv a1 (2 ^ (min (Int.toNat 63) (IntKind.bits .u64)))))), .d (.int .u64 (IntKind.wrap .u64 (a1 * 2 ^ (min (Int.toNat 1) (IntKind.bits .u64)))))]) (B := []) (vs := [.agg [.d (.int .u64 (ior .u64 (IntKind.wrap .u64 (a0 * 2 ^ (min (Int.toNat 1) (IntKind.bits .u64)))) (Int.fdiv a1 (2 ^ (min (Int.toNat 63) (IntKind.bits .u64)))))), .d (.int .u64 (IntKind.wrap .u64 (a1 * 2 ^ (min (Int.toNat 1) (IntKind.bits .u64)))))]]) (σ := []) (by kernel_rfl) Try.func49 rfl (.cons _ _ _ _ (.agg 2 59 1 0 [.d (.int .u64 (ior .u64 (IntKind.wrap .u64 (a0 * 2 ^ (min (Int.toNat 1) (IntKind.bits .u64)))) (Int.fdiv a1 (2 ^ (min (Int.toNat 63) (IntKind.bits .u64)))))), .d (.int .u64 (IntKind.wrap .u64 (a1 * 2 ^ (min (Int.toNat 1) (IntKind.bits .u64)))))] [.d (.int .u64 (ior .u64 (IntKind.wrap .u64 (a0 * 2 ^ (min (Int.toNat 1) (IntKind.bits .u64)))) (Int.fdiv a1 (2 ^ (min (Int.toNat 63) (IntKind.bits .u64)))))), .d (.int .u64 (IntKind.wrap .u64 (a1 * 2 ^ (min (Int.toNat 1) (IntKind.bits .u64)))))] _ _ _ _ (by kernel_rfl) (by kernel_rfl) Try.underlying59 (by kernel_rfl) ty59 (by kernel_rfl) (by kernel_rfl)) .nil) (by kernel_rfl) (by kernel_rfl) (by kernel_rfl) (by kernel_rfl) (by decide) (by kernel_rfl) (by kernel_rfl)

/-- awardingbody/awardingbodyref01.Order -/
def ref01_Order (k : Nat) (a0 : Int) (a1 : Int) (b0 : Int) (b1 : Int) : Option (Int) := Option.bind (bif (decide (a0 < b0)) then some true else blet ((a0 == b0) && (decide (a1 < b1))) fun x4 => some x4 : Option (Bool)) (fun x3 => bif x3 then some (-1) else bif ((a0 == b0) && ((a1 == b1) && true)) then some 0 else some 1)
def ref01_Order_E (a0 : Int) (a1 : Int) (b0 : Int) (b1 : Int) : Int → V × List Blk := fun r1 => (.d (.int .i64 r1), [])
theorem ref01_Order_goes (k : Nat) (a0 : Int) (a1 : Int) (b0 : Int) (b1 : Int) : RunsO Try.prog 50 [.agg [.d (.int .u64 a0), .d (.int .u64 a1)], .agg [.d (.int .u64 b0), .d (.int .u64 b1)]] [] (ref01_Order_E a0 a1 b0 b1) (ref01_Order k a0 a1 b0 b1) := by
  refine RunsO.of_goes (N := 27) (m := 0) (T := [(0, .agg [.d (.int .u64 a0), .d (.int .u64 a1)]), (1, .agg [.d (.int .u64 b0), .d (.int .u64 b1)])]) Try.func50 rfl rfl (by kernel_rfl) (by kernel_rfl) (by kernel_rfl) ?_
  unfold ref01_Order
  refine bStart ?_
  refine oSeq ?_
  refine oRegion rfl ?_
  refine oOp (.ptr 0 0) (by kernel_rfl) (by kernel_rfl) (k_box (H' := [.box [.d (.int .u64 a0), .d (.int .u64 a1)]]) (cells := [.d (.int .u64 a0), .d (.int .u64 a1)]) (by kernel_rfl) (by kernel_rfl) (by kernel_rfl)) ?_
  refine oOp (.ptr 1 0) (by kernel_rfl) (by kernel_rfl) (k_box (H' := [.box [.d (.int .u64 a0), .d (.int .u64 a1)], .box [.d (.int .u64 b0), .d (.int .u64 b1)]]) (cells := [.d (.int .u64 b0), .d (.int .u64 b1)]) (by kernel_rfl) (by kernel_rfl) (by kernel_rfl)) ?_
  refine oOp (.d (.int .i64 0)) (by kernel_rfl) (by kernel_rfl) (PureV.does (p_assign (by kernel_rfl))) ?_
  refine oEnd ?_
  refine oSeq ?_
  refine oSeq ?_
  refine oRegion rfl ?_
  refine oOp (.ptr 0 0) (by kernel_rfl) (by kernel_rfl) (PureV.does (k_fieldAddr 0 0 (by kernel_rfl) Try.underlying59 rfl ty56 (by kernel_rfl))) ?_
  refine oOp (.d (.int .u64 a0)) (by kernel_rfl) (by kernel_rfl) (Quiet.does (k_load 0 0 (by kernel_rfl) Try.underlying56 (by kernel_rfl) (by kernel_rfl))) ?_
  refine oOp (.ptr 1 0) (by kernel_rfl) (by kernel_rfl) (PureV.does (k_fieldAddr 1 0 (by kernel_rfl) Try.underlying59 rfl ty56 (by kernel_rfl))) ?_
  refine oOp (.d (.int .u64 b0)) (by kernel_rfl) (by kernel_rfl) (Quiet.does (k_load 1 0 (by kernel_rfl) Try.underlying56 (by kernel_rfl) (by kernel_rfl))) ?_
  refine oOp (.d (.bool (decide (a0 < b0)))) (by kernel_rfl) (by kernel_rfl) (PureV.does (p_int (k := .u64) (p := a0) (q := b0) (by kernel_rfl) (by kernel_rfl) (by kernel_rfl))) ?_
  refine oOp (.d (.bool (decide (a0 < b0)))) (by kernel_rfl) (by kernel_rfl) (PureV.does (p_move (by kernel_rfl))) ?_
  refine bMeet 13 rfl ((fun (x3 : Bool) => [(2, .ptr 0 0), (3, .ptr 1 0), (23, .d (.bool x3))])) ((fun (x3 : Bool) => [.box [.d (.int .u64 a0), .d (.int .u64 a1)], .box [.d (.int .u64 b0), .d (.int .u64 b1)]])) (fun s => s) (fun x3 => ?_) (fun hj1 => ?_)
  · refine oView (T' := [(2, .ptr 0 0), (3, .ptr 1 0), (23, .d (.bool x3))]) (H' := [.box [.d (.int .u64 a0), .d (.int .u64 a1)], .box [.d (.int .u64 b0), .d (.int .u64 b1)]]) (by kernel_rfl) (by kernel_rfl) ?_
    refine oEnd ?_
    refine bSplit 23 (by kernel_rfl) (fun hc => ?_) (fun hc => ?_)
    · refine oCondT (by kernel_rfl) ?_
      refine oSeq ?_
      refine oRegion rfl ?_
      refine oOp (.d (.int .i64 (-1))) (by kernel_rfl) (by kernel_rfl) (PureV.does (p_assign (by kernel_rfl))) ?_
      refine oEnd ?_
      exact oRet (r0 := (-1)) (rv := .d (.int .i64 (-1))) (B := []) (vs := [.d (.int .i64 (-1))]) (σ := []) (by kernel_rfl) Try.func50 rfl (.cons _ _ _ _ (.tmp 4 _ (by kernel_rfl)) .nil) (by kernel_rfl) (by kernel_rfl) (by kernel_rfl) (by kernel_rfl) (by decide) (by kernel_rfl) (by kernel_rfl)
    · refine oCondF (by kernel_rfl) ?_
      refine oSkip ?_
      refine oSeq ?_
      refine oSeq ?_
      refine oRegion rfl ?_
      refine oOp (.agg [.d (.int .u64 a0), .d (.int .u64 a1)]) (by kernel_rfl) (by kernel_rfl) (Quiet.does (k_loadAgg 0 0 (by kernel_rfl) Try.underlying59 (by kernel_rfl) ty59 (by kernel_rfl))) ?_
      refine oOp (.agg [.d (.int .u64 b0), .d (.int .u64 b1)]) (by kernel_rfl) (by kernel_rfl) (Quiet.does (k_loadAgg 1 0 (by kernel_rfl) Try.underlying59 (by kernel_rfl) ty59 (by kernel_rfl))) ?_
      refine oOp (.d (.bool ((a0 == b0) && ((a1 == b1) && true)))) (by kernel_rfl) (by kernel_rfl) (PureV.does (k_eqAgg (by kernel_rfl) (by kernel_rfl) Try.eqGuardType59 (EqV.struct 1 59 [.d (.int .u64 a0), .d (.int .u64 a1)] [.d (.int .u64 b0), .d (.int .u64 b1)] _ ((a0 == b0) && ((a1 == b1) && true)) Try.underlying59 Try.stoodInHeld59 (EqF.one 1 1 _ _ _ _ _ _ _ (a0 == b0) ((a1 == b1) && true) (by kernel_rfl) Try.underlying56 (by kernel_rfl) (by kernel_rfl) (by kernel_rfl) (by kernel_rfl) (EqV.int 56 .u64 .u64 a0 b0 Try.underlying56) (EqF.one 1 1 _ _ _ _ _ _ _ (a1 == b1) true (by kernel_rfl) Try.underlying56 (by kernel_rfl) (by kernel_rfl) (by kernel_rfl) (by kernel_rfl) (EqV.int 56 .u64 .u64 a1 b1 Try.underlying56) (EqF.nil 1 _ _)))) (by kernel_rfl))) ?_
      refine oEnd ?_
      refine bSplit 26 (by kernel_rfl) (fun hc => ?_) (fun hc => ?_)
      · refine oCondT (by kernel_rfl) ?_
        refine oSeq ?_
        refine oRegion rfl ?_
        refine oOp (.d (.int .i64 0)) (by kernel_rfl) (by kernel_rfl) (PureV.does (p_assign (by kernel_rfl))) ?_
        refine oEnd ?_
        exact oRet (r0 := 0) (rv := .d (.int .i64 0)) (B := []) (vs := [.d (.int .i64 0)]) (σ := []) (by kernel_rfl) Try.func50 rfl (.cons _ _ _ _ (.tmp 4 _ (by kernel_rfl)) .nil) (by kernel_rfl) (by kernel_rfl) (by kernel_rfl) (by kernel_rfl) (by decide) (by kernel_rfl) (by kernel_rfl)
      · refine oCondF (by kernel_rfl) ?_
        refine oSkip ?_
        refine oSeq ?_
        refine oRegion rfl ?_
        refine oOp (.d (.int .i64 1)) (by kernel_rfl) (by kernel_rfl) (PureV.does (p_assign (by kernel_rfl))) ?_
        refine oEnd ?_
        exact oRet (r0 := 1) (rv := .d (.int .i64 1)) (B := []) (vs := [.d (.int .i64 1)]) (σ := []) (by kernel_rfl) Try.func50 rfl (.cons _ _ _ _ (.tmp 4 _ (by kernel_rfl)) .nil) (by kernel_rfl) (by kernel_rfl) (by kernel_rfl) (by kernel_rfl) (by decide) (by kernel_rfl) (by kernel_rfl)
  · refine bSplit 10 (by kernel_rfl) (fun hc => ?_) (fun hc => ?_)
    · refine oNot (by kernel_rfl) (by kernel_rfl) ?_
      refine oNot (by kernel_rfl) (by kernel_rfl) ?_
      refine oNot (by kernel_rfl) (by kernel_rfl) ?_
      refine oNot (by kernel_rfl) (by kernel_rfl) ?_
      refine oNot (by kernel_rfl) (by kernel_rfl) ?_
      refine oNot (by kernel_rfl) (by kernel_rfl) ?_
      refine oNot (by kernel_rfl) (by kernel_rfl) ?_
      refine oNot (by kernel_rfl) (by kernel_rfl) ?_
      refine oNot (by kernel_rfl) (by kernel_rfl) ?_
      refine oNot (by kernel_rfl) (by kernel_rfl) ?_
      refine oNot (by kernel_rfl) (by kernel_rfl) ?_
      refine oNot (by kernel_rfl) (by kernel_rfl) ?_
      refine oOp (.d (.bool true)) (by kernel_rfl) (by kernel_rfl) (PureV.does (p_pick (b := true) (by kernel_rfl) (by kernel_rfl))) ?_
      refine oHead [2, 3, 23] [0, 1] (T' := [(2, .ptr 0 0), (3, .ptr 1 0), (23, .d (.bool true))]) (H' := [.box [.d (.int .u64 a0), .d (.int .u64 a1)], .box [.d (.int .u64 b0), .d (.int .u64 b1)]]) (by kernel_rfl) (by kernel_rfl) (by kernel_rfl) (by kernel_rfl) (by decide) (by kernel_rfl) (by kernel_rfl) ?_
      exact hj1 true
    · refine oOp (.ptr 0 0) (by kernel_rfl) (by kernel_rfl) (PureV.does (k_fieldAddr 0 0 (by kernel_rfl) Try.underlying59 rfl ty56 (by kernel_rfl))) ?_
      refine oOp (.d (.int .u64 a0)) (by kernel_rfl) (by kernel_rfl) (Quiet.does (k_load 0 0 (by kernel_rfl) Try.underlying56 (by kernel_rfl) (by kernel_rfl))) ?_
      refine oOp (.ptr 1 0) (by kernel_rfl) (by kernel_rfl) (PureV.does (k_fieldAddr 1 0 (by kernel_rfl) Try.underlying59 rfl ty56 (by kernel_rfl))) ?_
      refine oOp (.d (.int .u64 b0)) (by kernel_rfl) (by kernel_rfl) (Quiet.does (k_load 1 0 (by kernel_rfl) Try.underlying56 (by kernel_rfl) (by kernel_rfl))) ?_
      refine oOp (.d (.bool (a0 == b0))) (by kernel_rfl) (by kernel_rfl) (PureV.does (p_int (k := .u64) (p := a0) (q := b0) (by kernel_rfl) (by kernel_rfl) (by kernel_rfl))) ?_
      refine oOp (.d (.bool (a0 == b0))) (by kernel_rfl) (by kernel_rfl) (PureV.does (p_move (by kernel_rfl))) ?_
      refine bMeetF (H' := [.box [.d (.int .u64 a0), .d (.int .u64 a1)], .box [.d (.int .u64 b0), .d (.int .u64 b1)]]) 6 rfl ((fun (x4 : Bool) => [(2, .ptr 0 0), (3, .ptr 1 0), (10, .d (.bool false)), (22, .d (.bool x4))])) (fun x4 => ?_) (fun F hj2 => ?_)
      · refine oView (T' := [(2, .ptr 0 0), (3, .ptr 1 0), (10, .d (.bool false)), (22, .d (.bool x4))]) (H' := [.box [.d (.int .u64 a0), .d (.int .u64 a1)], .box [.d (.int .u64 b0), .d (.int .u64 b1)]]) (by kernel_rfl) (by kernel_rfl) ?_
        refine oOp (.d (.bool x4)) (by kernel_rfl) (by kernel_rfl) (PureV.does (p_pick (b := false) (by kernel_rfl) (by kernel_rfl))) ?_
        refine oHead [2, 3, 23] [0, 1] (T' := [(2, .ptr 0 0), (3, .ptr 1 0), (23, .d (.bool x4))]) (H' := [.box [.d (.int .u64 a0), .d (.int .u64 a1)], .box [.d (.int .u64 b0), .d (.int .u64 b1)]]) (by kernel_rfl) (by kernel_rfl) (by kernel_rfl) (by kernel_rfl) (by decide) (by kernel_rfl) (by kernel_rfl) ?_
        exact hj1 x4
      · refine bPickF 16 (fun c => F (c && (decide (a1 < b1)))) (by kernel_rfl) (fun hc => ?_) (fun hc => ?_)
        · refine oOp (.ptr 0 1) (by kernel_rfl) (by kernel_rfl) (PureV.does (k_fieldAddr 0 0 (by kernel_rfl) Try.underlying59 rfl ty56 (by kernel_rfl))) ?_
          refine oOp (.d (.int .u64 a1)) (by kernel_rfl) (by kernel_rfl) (Quiet.does (k_load 0 1 (by kernel_rfl) Try.underlying56 (by kernel_rfl) (by kernel_rfl))) ?_
          refine oOp (.ptr 1 1) (by kernel_rfl) (by kernel_rfl) (PureV.does (k_fieldAddr 1 0 (by kernel_rfl) Try.underlying59 rfl ty56 (by kernel_rfl))) ?_
          refine oOp (.d (.int .u64 b1)) (by kernel_rfl) (by kernel_rfl) (Quiet.does (k_load 1 1 (by kernel_rfl) Try.underlying56 (by kernel_rfl) (by kernel_rfl))) ?_
          refine oOp (.d (.bool (decide (a1 < b1)))) (by kernel_rfl) (by kernel_rfl) (PureV.does (p_int (k := .u64) (p := a1) (q := b1) (by kernel_rfl) (by kernel_rfl) (by kernel_rfl))) ?_
          refine oOp (.d (.bool (decide (a1 < b1)))) (by kernel_rfl) (by kernel_rfl) (PureV.does (p_pick (b := true) (by kernel_rfl) (by kernel_rfl))) ?_
          refine oHead [2, 3, 10, 22] [0, 1] (T' := [(2, .ptr 0 0), (3, .ptr 1 0), (10, .d (.bool false)), (22, .d (.bool (decide (a1 < b1))))]) (H' := [.box [.d (.int .u64 a0), .d (.int .u64 a1)], .box [.d (.int .u64 b0), .d (.int .u64 b1)]]) (by kernel_rfl) (by kernel_rfl) (by kernel_rfl) (by kernel_rfl) (by decide) (by kernel_rfl) (by kernel_rfl) ?_
          exact hj2 (decide (a1 < b1))
        · refine oNot (by kernel_rfl) (by kernel_rfl) ?_
          refine oNot (by kernel_rfl) (by kernel_rfl) ?_
          refine oNot (by kernel_rfl) (by kernel_rfl) ?_
          refine oNot (by kernel_rfl) (by kernel_rfl) ?_
          refine oNot (by kernel_rfl) (by kernel_rfl) ?_
          refine oOp (.d (.bool false)) (by kernel_rfl) (by kernel_rfl) (PureV.does (p_pick (b := false) (by kernel_rfl) (by kernel_rfl))) ?_
          refine oHead [2, 3, 10, 22] [0, 1] (T' := [(2, .ptr 0 0), (3, .ptr 1 0), (10, .d (.bool false)), (22, .d (.bool false))]) (H' := [.box [.d (.int .u64 a0), .d (.int .u64 a1)], .box [.d (.int .u64 b0), .d (.int .u64 b1)]]) (by kernel_rfl) (by kernel_rfl) (by kernel_rfl) (by kernel_rfl) (by decide) (by kernel_rfl) (by kernel_rfl) ?_
          exact hj2 false

/-- awardingbody/awardingbodyref01.Minus -/
def ref01_Minus (k : Nat) (a0 : Int) (a1 : Int) (b0 : Int) (b1 : Int) : Option (Unit) := gcarry a1 b1 0 (gle b1 18446744073709551615 (gcarry a0 b0 (if a1 < b1 + 0 then 1 else 0) (gle b0 18446744073709551615 (some ()))))
def ref01_Minus_E (a0 : Int) (a1 : Int) (b0 : Int) (b1 : Int) : Unit → V × List Blk := u0 ((.agg [.d (.int .u64 ((a0 - b0 - (if a1 < b1 + 0 then 1 else 0)) % 18446744073709551616)), .d (.int .u64 ((a1 - b1 - 0) % 18446744073709551616))], []))
theorem ref01_Minus_goes (k : Nat) (a0 : Int) (a1 : Int) (b0 : Int) (b1 : Int) : RunsO Try.prog 51 [.agg [.d (.int .u64 a0), .d (.int .u64 a1)], .agg [.d (.int .u64 b0), .d (.int .u64 b1)]] [] (ref01_Minus_E a0 a1 b0 b1) (ref01_Minus k a0 a1 b0 b1) := by
  refine RunsO.of_goes (N := 29) (m := 0) (T := [(0, .agg [.d (.int .u64 a0), .d (.int .u64 a1)]), (1, .agg [.d (.int .u64 b0), .d (.int .u64 b1)])]) Try.func51 rfl rfl (by kernel_rfl) (by kernel_rfl) (by kernel_rfl) ?_
  unfold ref01_Minus
  refine bStart ?_
  refine oSeq ?_
  refine oRegion rfl ?_
  refine oOp (.ptr 0 0) (by kernel_rfl) (by kernel_rfl) (k_box (H' := [.box [.d (.int .u64 a0), .d (.int .u64 a1)]]) (cells := [.d (.int .u64 a0), .d (.int .u64 a1)]) (by kernel_rfl) (by kernel_rfl) (by kernel_rfl)) ?_
  refine oOp (.ptr 1 0) (by kernel_rfl) (by kernel_rfl) (k_box (H' := [.box [.d (.int .u64 a0), .d (.int .u64 a1)], .box [.d (.int .u64 b0), .d (.int .u64 b1)]]) (cells := [.d (.int .u64 b0), .d (.int .u64 b1)]) (by kernel_rfl) (by kernel_rfl) (by kernel_rfl)) ?_
  refine oOp (.ptr 2 0) (by kernel_rfl) (by kernel_rfl) (k_alloc (H' := [.box [.d (.int .u64 a0), .d (.int .u64 a1)], .box [.d (.int .u64 b0), .d (.int .u64 b1)], .box [.d (.int .u64 0), .d (.int .u64 0)]]) ty59 (by kernel_rfl) (by kernel_rfl)) ?_
  refine oEnd ?_
  refine oSeq ?_
  refine oRegion rfl ?_
  refine oOp (.ptr 0 1) (by kernel_rfl) (by kernel_rfl) (PureV.does (k_fieldAddr 0 0 (by kernel_rfl) Try.underlying59 rfl ty56 (by kernel_rfl))) ?_
  refine oOp (.d (.int .u64 a1)) (by kernel_rfl) (by kernel_rfl) (Quiet.does (k_load 0 1 (by kernel_rfl) Try.underlying56 (by kernel_rfl) (by kernel_rfl))) ?_
  refine oOp (.ptr 1 1) (by kernel_rfl) (by kernel_rfl) (PureV.does (k_fieldAddr 1 0 (by kernel_rfl) Try.underlying59 rfl ty56 (by kernel_rfl))) ?_
  refine oOp (.d (.int .u64 b1)) (by kernel_rfl) (by kernel_rfl) (Quiet.does (k_load 1 1 (by kernel_rfl) Try.underlying56 (by kernel_rfl) (by kernel_rfl))) ?_
  refine bCarry (fun h14 => ?_)
  refine bLe (fun h15 => ?_)
  refine oOp (.tuple [.d (.int .u64 ((a1 - b1 - 0) % 18446744073709551616)), .d (.int .u64 (if a1 < b1 + 0 then 1 else 0))]) (by kernel_rfl) (by kernel_rfl) (PureV.does (p_sub64 (p := a1) (q := b1) (c := 0) (by kernel_rfl) Try.func57 (by kernel_rfl) (by kernel_rfl) (by kernel_rfl) (by kernel_rfl) (by kernel_rfl) (by kernel_rfl) (by kernel_rfl) h14 h15)) ?_
  refine oOp (.tuple [.d (.int .u64 ((a1 - b1 - 0) % 18446744073709551616)), .d (.int .u64 (if a1 < b1 + 0 then 1 else 0))]) (by kernel_rfl) (by kernel_rfl) (PureV.does (p_move (by kernel_rfl))) ?_
  refine oOp (.d (.int .u64 ((a1 - b1 - 0) % 18446744073709551616))) (by kernel_rfl) (by kernel_rfl) (PureV.does (k_extract (by kernel_rfl))) ?_
  refine oOp (.d (.int .u64 (if a1 < b1 + 0 then 1 else 0))) (by kernel_rfl) (by kernel_rfl) (PureV.does (k_extract (by kernel_rfl))) ?_
  refine oOp (.d (.int .u64 ((a1 - b1 - 0) % 18446744073709551616))) (by kernel_rfl) (by kernel_rfl) (PureV.does (p_assign (by kernel_rfl))) ?_
  refine oOp (.d (.int .u64 (if a1 < b1 + 0 then 1 else 0))) (by kernel_rfl) (by kernel_rfl) (PureV.does (p_assign (by kernel_rfl))) ?_
  refine oEnd ?_
  refine oSeq ?_
  refine oRegion rfl ?_
  refine oOp (.ptr 0 0) (by kernel_rfl) (by kernel_rfl) (PureV.does (k_fieldAddr 0 0 (by kernel_rfl) Try.underlying59 rfl ty56 (by kernel_rfl))) ?_
  refine oOp (.d (.int .u64 a0)) (by kernel_rfl) (by kernel_rfl) (Quiet.does (k_load 0 0 (by kernel_rfl) Try.underlying56 (by kernel_rfl) (by kernel_rfl))) ?_
  refine oOp (.ptr 1 0) (by kernel_rfl) (by kernel_rfl) (PureV.does (k_fieldAddr 1 0 (by kernel_rfl) Try.underlying59 rfl ty56 (by kernel_rfl))) ?_
  refine oOp (.d (.int .u64 b0)) (by kernel_rfl) (by kernel_rfl) (Quiet.does (k_load 1 0 (by kernel_rfl) Try.underlying56 (by kernel_rfl) (by kernel_rfl))) ?_
  refine oOp (.d (.int .u64 (if a1 < b1 + 0 then 1 else 0))) (by kernel_rfl) (by kernel_rfl) (PureV.does (p_move (by kernel_rfl))) ?_
  refine bCarry (fun h16 => ?_)
  refine bLe (fun h17 => ?_)
  refine oOp (.tuple [.d (.int .u64 ((a0 - b0 - (if a1 < b1 + 0 then 1 else 0)) % 18446744073709551616)), .d (.int .u64 (if a0 < b0 + (if a1 < b1 + 0 then 1 else 0) then 1 else 0))]) (by kernel_rfl) (by kernel_rfl) (PureV.does (p_sub64 (p := a0) (q := b0) (c := (if a1 < b1 + 0 then 1 else 0)) (by kernel_rfl) Try.func57 (by kernel_rfl) (by kernel_rfl) (by kernel_rfl) (by kernel_rfl) (by kernel_rfl) (by kernel_rfl) (by kernel_rfl) h16 h17)) ?_
  refine oOp (.tuple [.d (.int .u64 ((a0 - b0 - (if a1 < b1 + 0 then 1 else 0)) % 18446744073709551616)), .d (.int .u64 (if a0 < b0 + (if a1 < b1 + 0 then 1 else 0) then 1 else 0))]) (by kernel_rfl) (by kernel_rfl) (PureV.does (p_move (by kernel_rfl))) ?_
  refine oOp (.d (.int .u64 ((a0 - b0 - (if a1 < b1 + 0 then 1 else 0)) % 18446744073709551616))) (by kernel_rfl) (by kernel_rfl) (PureV.does (k_extract (by kernel_rfl))) ?_
  refine oOp (.d (.int .u64 (if a0 < b0 + (if a1 < b1 + 0 then 1 else 0) then 1 else 0))) (by kernel_rfl) (by kernel_rfl) (PureV.does (k_extract (by kernel_rfl))) ?_
  refine oOp (.d (.int .u64 ((a0 - b0 - (if a1 < b1 + 0 then 1 else 0)) % 18446744073709551616))) (by kernel_rfl) (by kernel_rfl) (PureV.does (p_assign (by kernel_rfl))) ?_
  refine oOp (.d (.int .u64 (if a0 < b0 + (if a1 < b1 + 0 then 1 else 0) then 1 else 0))) (by kernel_rfl) (by kernel_rfl) (PureV.does (p_assign (by kernel_rfl))) ?_
  refine oEnd ?_
  refine oSeq ?_
  refine oRegion rfl ?_
  refine oOp (.d (.int .u64 ((a0 - b0 - (if a1 < b1 + 0 then 1 else 0)) % 18446744073709551616))) (by kernel_rfl) (by kernel_rfl) (PureV.does (p_move (by kernel_rfl))) ?_
  refine oOp (.d (.int .u64 ((a1 - b1 - 0) % 18446744073709551616))) (by kernel_rfl) (by kernel_rfl) (PureV.does (p_move (by kernel_rfl))) ?_
  refine oOp (.agg [.d (.int .u64 ((a0 - b0 - (if a1 < b1 + 0 then 1 else 0)) % 18446744073709551616)), .d (.int .u64 ((a1 - b1 - 0) % 18446744073709551616))]) (by kernel_rfl) (by kernel_rfl) (PureV.does (p_build bld59 (by kernel_rfl))) ?_
  refine oOp (.undef) (by kernel_rfl) (by kernel_rfl) (k_store (vs := [.d (.int .u64 ((a0 - b0 - (if a1 < b1 + 0 then 1 else 0)) % 18446744073709551616)), .d (.int .u64 ((a1 - b1 - 0) % 18446744073709551616))]) (H' := [.box [.d (.int .u64 a0), .d (.int .u64 a1)], .box [.d (.int .u64 b0), .d (.int .u64 b1)], .box [.d (.int .u64 ((a0 - b0 - (if a1 < b1 + 0 then 1 else 0)) % 18446744073709551616)), .d (.int .u64 ((a1 - b1 - 0) % 18446744073709551616))]]) 2 0 (by kernel_rfl) ty59 (by kernel_rfl) (by kernel_rfl) (by kernel_rfl)) ?_
  refine oEnd ?_
  exact oRet (r0 := ()) (rv := .agg [.d (.int .u64 ((a0 - b0 - (if a1 < b1 + 0 then 1 else 0)) % 18446744073709551616)), .d (.int .u64 ((a1 - b1 - 0) % 18446744073709551616))]) (B := []) (vs := [.agg [.d (.int .u64 ((a0 - b0 - (if a1 < b1 + 0 then 1 else 0)) % 18446744073709551616)), .d (.int .u64 ((a1 - b1 - 0) % 18446744073709551616))]]) (σ := []) (by kernel_rfl) Try.func51 rfl (.cons _ _ _ _ (.agg 4 59 2 0 [.d (.int .u64 ((a0 - b0 - (if a1 < b1 + 0 then 1 else 0)) % 18446744073709551616)), .d (.int .u64 ((a1 - b1 - 0) % 18446744073709551616))] [.d (.int .u64 ((a0 - b0 - (if a1 < b1 + 0 then 1 else 0)) % 18446744073709551616)), .d (.int .u64 ((a1 - b1 - 0) % 18446744073709551616))] _ _ _ _ (by kernel_rfl) (by kernel_rfl) Try.underlying59 (by kernel_rfl) ty59 (by kernel_rfl) (by kernel_rfl)) .nil) (by kernel_rfl) (by kernel_rfl) (by kernel_rfl) (by kernel_rfl) (by decide) (by kernel_rfl) (by kernel_rfl)

end Go.VM
