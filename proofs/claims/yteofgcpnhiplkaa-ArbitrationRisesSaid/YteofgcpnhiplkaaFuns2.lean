/- Plain functions that answer as the program's functions do, and the proof that they do. -/
import Derived.Test.YteofgcpnhiplkaaProg
import Derived.KernelRfl
import Derived.Test.YteofgcpnhiplkaaEngS
import Derived.Test.YteofgcpnhiplkaaFacts
import Derived.Test.YteofgcpnhiplkaaFuns0
import Derived.Test.YteofgcpnhiplkaaFuns1
namespace Go.VM
open Go.Proofs
set_option linter.unusedVariables false
set_option linter.unusedSimpArgs false
set_option maxRecDepth 100000
/-- awardingbody/awardingbodylaw30.ArbitrationBetween -/
def law30_ArbitrationBetween_b1 (k : Nat) (r1106 : (List SGiven)) (x30 : Int) (again : Int × (List SGiven) → Option ((List SGiven))) : Int × (List SGiven) → Option ((List SGiven)) := uc fun x48 => fun xs21 => bif (decide (x48 < ((List.length r1106) : Int))) then Option.bind (gidx r1106 x48 fun e119 => bif (e119.Level == x30) then gcap (List.length (xs21 ++ ([e119] : List SGiven))) 64 (some (xs21 ++ ([e119] : List SGiven))) else some xs21 : Option ((List SGiven))) (fun xs24 => again ((IntKind.wrap .i64 (x48 + 1)), xs24)) else some xs21
def law30_ArbitrationBetween_b2 (k : Nat) (r1106 : (List SGiven)) (again : Int × Int × Int × Int → Option (Int × Int × Int)) : Int × Int × Int × Int → Option (Int × Int × Int) := uc fun hi6 => uc fun level6 => uc fun x55 => fun x56 => bif (decide (x56 < ((List.length r1106) : Int))) then gidx r1106 x56 fun e125 => again ((gmin hi6 (gmax e125.Value 0)), (gmax level6 (gmax e125.Value 0)), (gmax x55 e125.Level), (IntKind.wrap .i64 (x56 + 1))) else some (hi6, level6, x55)
def law30_ArbitrationBetween (k : Nat) (t : (List Int)) : Option (Bool) := Option.bind (mark_Light k t) (u0 (bif (!(decide (((List.length t) : Int) ≤ 600))) then Option.bind (law30_sane k) (fun r117 => some r117) else Option.bind (mark_Roll k t) (u0 (Option.bind (mark_Dice_Rule k t 0) (uc fun r121 => uc fun r131 => fun x31 => Option.bind (law30_few k t x31) (uc fun r1106 => fun x91 => Option.bind (arbitration_Decide k r121 r131 r1106) (uc fun r185 => fun r1107 => Option.bind (gloop (law30_ArbitrationBetween_b2 k r1106) k (99, (-1), 0, 0) : Option (Int × Int × Int)) (uc fun hi5 => uc fun level5 => fun x30 => bif (r185 != 3) then blet ((r1107 == 0) && (decide (x30 < 2))) fun x34 => Option.bind (bif x34 then Option.bind (law30_sane k) (fun r120 => some r120) else some false : Option (Bool)) (fun x35 => some x35) else blet ((decide (r1107 < hi5)) || (decide (r1107 > level5))) fun x36 => Option.bind (bif x36 then some true else blet ((decide (x30 < 2)) && (decide (((List.length r1106) : Int) > 1))) fun x53 => Option.bind (bif x53 then some (decide ((IntKind.wrap .i64 (level5 - hi5)) > r131)) else some false : Option (Bool)) (fun x54 => some x54) : Option (Bool)) (fun x39 => bif x39 then some false else bif (decide (x30 > 1)) then Option.bind (gloop (law30_ArbitrationBetween_b1 k r1106 x30) k (0, ([] : List SGiven)) : Option ((List SGiven))) (fun xs19 => Option.bind (arbitration_Decide k r121 r131 xs19) (uc fun r189 => fun r11011 => Option.bind (bif ((r189 == r185) && ((r11011 == r1107) && true)) then Option.bind (law30_sane k) (fun r127 => some r127) else some false : Option Bool) (fun x47 => some x47))) else blet ((decide (((List.length r1106) : Int) > 1)) || (!r121)) fun x50 => Option.bind (bif x50 then some (decide ((IntKind.wrap .i64 ((IntKind.wrap .i64 ((IntKind.wrap .i64 (2 * r1107)) - hi5)) - level5)) ≤ (IntKind.wrap .i64 (r131 + 1)))) else some false : Option (Bool)) (fun x51 => Option.bind (bif x51 then Option.bind (law30_sane k) (fun r129 => some r129) else some false : Option (Bool)) (fun x52 => some x52)))))))))))
def law30_ArbitrationBetween_E (t : (List Int)) : Bool → V × List Blk := fun r115 => (.d (.bool r115), [])
theorem law30_ArbitrationBetween_goes (k : Nat) (t : (List Int)) : RunsO Try.prog 4 [.d (.lit (List.map e_i64 t))] [] (law30_ArbitrationBetween_E t) (law30_ArbitrationBetween k t) := by
  refine RunsO.of_goes (N := 138) (m := 0) (T := [(0, .d (.lit (List.map e_i64 t)))]) Try.func4 rfl rfl (by kernel_rfl) (by kernel_rfl) (by kernel_rfl) ?_
  unfold law30_ArbitrationBetween
  refine bStart ?_
  refine oSeq ?_
  refine oRegion rfl ?_
  refine oOp (.d (.bool false)) (by kernel_rfl) (by kernel_rfl) (PureV.does (p_assign (by kernel_rfl))) ?_
  refine oEnd ?_
  refine oSeq ?_
  refine oSeq ?_
  refine oRegion rfl ?_
  refine oOp (.d (.lit (List.map e_i64 t))) (by kernel_rfl) (by kernel_rfl) (PureV.does (p_move (by kernel_rfl))) ?_
  refine bCall (caps := []) (v := (u0 ((.d (.bool (decide (((List.length t) : Int) ≤ 600))) : V)))) (H' := (u0 (([] : List Blk)))) [] _ (mark_Light_goes k t) (by kernel_rfl) (by kernel_rfl) rfl (by kernel_rfl) Try.func8 rfl (by kernel_rfl) (ConvRs.refl _ _) (by kernel_rfl) (by kernel_rfl) (by kernel_rfl) (by decide) (by kernel_rfl) (by kernel_rfl) (fun _ => (by kernel_rfl)) (fun _ => (by kernel_rfl)) (fun _ => (by kernel_rfl)) (fun r => ?_)
  cases r
  refine bU0 ?_
  refine oOp (.d (.bool (!(decide (((List.length t) : Int) ≤ 600))))) (by kernel_rfl) (by kernel_rfl) (PureV.does (p_not (p := (decide (((List.length t) : Int) ≤ 600))) (by kernel_rfl) (by kernel_rfl))) ?_
  refine oEnd ?_
  refine bSplit 17 (by kernel_rfl) (fun hc => ?_) (fun hc => ?_)
  · refine oCondT (by kernel_rfl) ?_
    refine oSeq ?_
    refine oRegion rfl ?_
    refine bCall (caps := []) (v := (fun (r117 : Bool) => (.d (.bool r117) : V))) (H' := (fun (r117 : Bool) => ([] : List Blk))) [] _ (law30_sane_goes k ) (by kernel_rfl) (by kernel_rfl) rfl (by kernel_rfl) Try.func9 rfl (by kernel_rfl) (ConvRs.refl _ _) (by kernel_rfl) (by kernel_rfl) (by kernel_rfl) (by decide) (by kernel_rfl) (by kernel_rfl) (fun _ => (by kernel_rfl)) (fun _ => (by kernel_rfl)) (fun _ => (by kernel_rfl)) (fun r117 => ?_)
    refine oOp (.d (.bool r117)) (by kernel_rfl) (by kernel_rfl) (PureV.does (p_assign (by kernel_rfl))) ?_
    refine oEnd ?_
    exact oRet (r0 := r117) (rv := .d (.bool r117)) (B := []) (vs := [.d (.bool r117)]) (σ := []) (by kernel_rfl) Try.func4 rfl (.cons _ _ _ _ (.tmp 2 _ (by kernel_rfl)) .nil) (by kernel_rfl) (by kernel_rfl) (by kernel_rfl) (by kernel_rfl) (by decide) (by kernel_rfl) (by kernel_rfl)
  · refine oCondF (by kernel_rfl) ?_
    refine oSkip ?_
    refine oSeq ?_
    refine oRegion rfl ?_
    refine oOp (.d (.lit (List.map e_i64 t))) (by kernel_rfl) (by kernel_rfl) (PureV.does (p_move (by kernel_rfl))) ?_
    refine bCall (caps := []) (v := (u0 ((.ptr 0 0 : V)))) (H' := (u0 (([.box [.d (.lit (List.map e_i64 t)), .d (.int .i64 0)]] : List Blk)))) [] _ (mark_Roll_goes k t) (by kernel_rfl) (by kernel_rfl) rfl (by kernel_rfl) Try.func10 rfl (by kernel_rfl) (ConvRs.refl _ _) (by kernel_rfl) (by kernel_rfl) (by kernel_rfl) (by decide) (by kernel_rfl) (by kernel_rfl) (fun _ => (by kernel_rfl)) (fun _ => (by kernel_rfl)) (fun _ => (by kernel_rfl)) (fun r => ?_)
    cases r
    refine bU0 ?_
    refine oOp (.ptr 0 0) (by kernel_rfl) (by kernel_rfl) (PureV.does (p_assign (by kernel_rfl))) ?_
    refine oEnd ?_
    refine oSeq ?_
    refine oRegion rfl ?_
    refine oOp (.ptr 0 0) (by kernel_rfl) (by kernel_rfl) (PureV.does (p_move (by kernel_rfl))) ?_
    refine bCall (caps := []) (v := (uc fun (r121 : Bool) => (uc fun (r131 : Int) => (fun (x31 : Int) => (.agg [.d (.bool r121), .d (.int .i64 r131)] : V))))) (H' := (uc fun (r121 : Bool) => (uc fun (r131 : Int) => (fun (x31 : Int) => ([.box [.d (.lit (List.map e_i64 t)), .d (.int .i64 x31)]] : List Blk))))) [0] _ (mark_Dice_Rule_goes k t 0) (by kernel_rfl) (by kernel_rfl) rfl (by kernel_rfl) Try.func11 rfl (by kernel_rfl) (ConvRs.refl _ _) (by kernel_rfl) (by kernel_rfl) (by kernel_rfl) (by decide) (by kernel_rfl) (by kernel_rfl) (fun _ => (by kernel_rfl)) (fun _ => (by kernel_rfl)) (fun _ => (by kernel_rfl)) (fun r => ?_)
    obtain ⟨r121, r131, x31⟩ := r
    refine bUc ?_
    refine bUc ?_
    refine oOp (.ptr 0 0) (by kernel_rfl) (by kernel_rfl) (PureV.does (p_move (by kernel_rfl))) ?_
    refine bCall (caps := []) (v := (uc fun (r1106 : (List SGiven)) => (fun (x91 : Int) => (.d (.lit (List.map e_SGiven r1106)) : V)))) (H' := (uc fun (r1106 : (List SGiven)) => (fun (x91 : Int) => ([.box [.d (.lit (List.map e_i64 t)), .d (.int .i64 x91)]] : List Blk)))) [0] _ (law30_few_goes k t x31) (by kernel_rfl) (by kernel_rfl) rfl (by kernel_rfl) Try.func12 rfl (by kernel_rfl) (ConvRs.refl _ _) (by kernel_rfl) (by kernel_rfl) (by kernel_rfl) (by decide) (by kernel_rfl) (by kernel_rfl) (fun _ => (by kernel_rfl)) (fun _ => (by kernel_rfl)) (fun _ => (by kernel_rfl)) (fun r => ?_)
    obtain ⟨r1106, x91⟩ := r
    refine bUc ?_
    refine oOp (.ptr 1 0) (by kernel_rfl) (by kernel_rfl) (k_alloc (H' := [.box [.d (.lit (List.map e_i64 t)), .d (.int .i64 x91)], .box [.d (.bool false), .d (.int .i64 0)]]) ty28 (by kernel_rfl) (by kernel_rfl)) ?_
    refine oOp (.undef) (by kernel_rfl) (by kernel_rfl) (k_store (vs := [.d (.bool r121), .d (.int .i64 r131)]) (H' := [.box [.d (.lit (List.map e_i64 t)), .d (.int .i64 x91)], .box [.d (.bool r121), .d (.int .i64 r131)]]) 1 0 (by kernel_rfl) ty28 (by kernel_rfl) (by kernel_rfl) (by kernel_rfl)) ?_
    refine oOp (.d (.lit (List.map e_SGiven r1106))) (by kernel_rfl) (by kernel_rfl) (PureV.does (p_assign (by kernel_rfl))) ?_
    refine oEnd ?_
    refine oSeq ?_
    refine oRegion rfl ?_
    refine oOp (.agg [.d (.bool r121), .d (.int .i64 r131)]) (by kernel_rfl) (by kernel_rfl) (Quiet.does (k_loadAgg 1 0 (by kernel_rfl) Try.underlying28 (by kernel_rfl) ty28 (by kernel_rfl))) ?_
    refine oOp (.d (.lit (List.map e_SGiven r1106))) (by kernel_rfl) (by kernel_rfl) (PureV.does (p_move (by kernel_rfl))) ?_
    refine bCall (caps := []) (v := (uc fun (r185 : Int) => (fun (r1107 : Int) => (.agg [.d (.int .i64 r185), .d (.int .i64 r1107)] : V)))) (H' := (uc fun (r185 : Int) => (fun (r1107 : Int) => ([.box [.d (.lit (List.map e_i64 t)), .d (.int .i64 x91)], .box [.d (.bool r121), .d (.int .i64 r131)]] : List Blk)))) [] _ (arbitration_Decide_goes k r121 r131 r1106) (by kernel_rfl) (by kernel_rfl) rfl (by kernel_rfl) Try.func13 rfl (by kernel_rfl) (ConvRs.refl _ _) (by kernel_rfl) (by kernel_rfl) (by kernel_rfl) (by decide) (by kernel_rfl) (by kernel_rfl) (fun _ => (by kernel_rfl)) (fun _ => (by kernel_rfl)) (fun _ => (by kernel_rfl)) (fun r => ?_)
    obtain ⟨r185, r1107⟩ := r
    refine bUc ?_
    refine oOp (.ptr 2 0) (by kernel_rfl) (by kernel_rfl) (k_alloc (H' := [.box [.d (.lit (List.map e_i64 t)), .d (.int .i64 x91)], .box [.d (.bool r121), .d (.int .i64 r131)], .box [.d (.int .i64 0), .d (.int .i64 0)]]) ty33 (by kernel_rfl) (by kernel_rfl)) ?_
    refine oOp (.undef) (by kernel_rfl) (by kernel_rfl) (k_store (vs := [.d (.int .i64 r185), .d (.int .i64 r1107)]) (H' := [.box [.d (.lit (List.map e_i64 t)), .d (.int .i64 x91)], .box [.d (.bool r121), .d (.int .i64 r131)], .box [.d (.int .i64 r185), .d (.int .i64 r1107)]]) 2 0 (by kernel_rfl) ty33 (by kernel_rfl) (by kernel_rfl) (by kernel_rfl)) ?_
    refine oEnd ?_
    refine oSeq ?_
    refine oRegion rfl ?_
    refine oOp (.d (.int .i64 99)) (by kernel_rfl) (by kernel_rfl) (PureV.does (p_assign (by kernel_rfl))) ?_
    refine oOp (.d (.int .i64 (-1))) (by kernel_rfl) (by kernel_rfl) (PureV.does (p_assign (by kernel_rfl))) ?_
    refine oOp (.d (.int .i64 0)) (by kernel_rfl) (by kernel_rfl) (PureV.does (p_assign (by kernel_rfl))) ?_
    refine oEnd ?_
    refine oSeq ?_
    refine oSeq ?_
    refine oRegion rfl ?_
    refine oOp (.d (.lit (List.map e_SGiven r1106))) (by kernel_rfl) (by kernel_rfl) (PureV.does (p_move (by kernel_rfl))) ?_
    refine oOp (.d (.int .i64 ((List.length r1106) : Int))) (by kernel_rfl) (by kernel_rfl) (PureV.does (k_lenLit (enc := e_SGiven) r1106 (by kernel_rfl) Try.underlying30)) ?_
    refine oOp (.d (.int .i64 0)) (by kernel_rfl) (by kernel_rfl) (PureV.does (p_move (by kernel_rfl))) ?_
    refine oEnd ?_
    refine bJoin ((uc fun (hi5 : Int) => (uc fun (level5 : Int) => (fun (x30 : Int) => [(4, .ptr 0 0), (5, .d (.lit (List.map e_SGiven r1106))), (6, .ptr 1 0), (7, .d (.int .i64 hi5)), (8, .d (.int .i64 level5)), (9, .d (.int .i64 x30))])))) ((uc fun (hi5 : Int) => (uc fun (level5 : Int) => (fun (x30 : Int) => [.box [.d (.bool r121), .d (.int .i64 r131)], .box [.d (.int .i64 r185), .d (.int .i64 r1107)]])))) (fun s => s) (fun s => ?_) (fun hj10 => ?_)
    · obtain ⟨hi5, level5, x30⟩ := s
      refine bUc ?_
      refine bUc ?_
      refine oView (T' := [(4, .ptr 0 0), (5, .d (.lit (List.map e_SGiven r1106))), (6, .ptr 1 0), (7, .d (.int .i64 hi5)), (8, .d (.int .i64 level5)), (9, .d (.int .i64 x30))]) (H' := [.box [.d (.bool r121), .d (.int .i64 r131)], .box [.d (.int .i64 r185), .d (.int .i64 r1107)]]) (by kernel_rfl) (by kernel_rfl) ?_
      refine oSeq ?_
      refine oSeq ?_
      refine oRegion rfl ?_
      refine oOp (.ptr 1 0) (by kernel_rfl) (by kernel_rfl) (PureV.does (k_fieldAddr 1 0 (by kernel_rfl) Try.underlying33 rfl ty3 (by kernel_rfl))) ?_
      refine oOp (.d (.int .i64 r185)) (by kernel_rfl) (by kernel_rfl) (Quiet.does (k_load 1 0 (by kernel_rfl) Try.underlying3 (by kernel_rfl) (by kernel_rfl))) ?_
      refine oOp (.d (.bool (r185 != 3))) (by kernel_rfl) (by kernel_rfl) (PureV.does (p_int (k := .i64) (p := r185) (q := 3) (by kernel_rfl) (by kernel_rfl) (by kernel_rfl))) ?_
      refine oEnd ?_
      refine bSplit 51 (by kernel_rfl) (fun hc => ?_) (fun hc => ?_)
      · refine oCondT (by kernel_rfl) ?_
        refine oSeq ?_
        refine oRegion rfl ?_
        refine oOp (.ptr 1 1) (by kernel_rfl) (by kernel_rfl) (PureV.does (k_fieldAddr 1 0 (by kernel_rfl) Try.underlying33 rfl ty3 (by kernel_rfl))) ?_
        refine oOp (.d (.int .i64 r1107)) (by kernel_rfl) (by kernel_rfl) (Quiet.does (k_load 1 1 (by kernel_rfl) Try.underlying3 (by kernel_rfl) (by kernel_rfl))) ?_
        refine oOp (.d (.bool (r1107 == 0))) (by kernel_rfl) (by kernel_rfl) (PureV.does (p_int (k := .i64) (p := r1107) (q := 0) (by kernel_rfl) (by kernel_rfl) (by kernel_rfl))) ?_
        refine oOp (.d (.bool (r1107 == 0))) (by kernel_rfl) (by kernel_rfl) (PureV.does (p_move (by kernel_rfl))) ?_
        refine bMeetF (H' := []) 3 rfl ((fun (x34 : Bool) => [(58, .d (.bool x34))])) (fun x34 => ?_) (fun F hj11 => ?_)
        · refine oView (T' := [(58, .d (.bool x34))]) (H' := []) (by kernel_rfl) (by kernel_rfl) ?_
          refine oOp (.d (.bool x34)) (by kernel_rfl) (by kernel_rfl) (PureV.does (p_move (by kernel_rfl))) ?_
          refine bMeet 2 rfl ((fun (x35 : Bool) => [(61, .d (.bool x35))])) ((fun (x35 : Bool) => [])) (fun s => s) (fun x35 => ?_) (fun hj12 => ?_)
          · refine oView (T' := [(61, .d (.bool x35))]) (H' := []) (by kernel_rfl) (by kernel_rfl) ?_
            refine oOp (.d (.bool x35)) (by kernel_rfl) (by kernel_rfl) (PureV.does (p_assign (by kernel_rfl))) ?_
            refine oEnd ?_
            exact oRet (r0 := x35) (rv := .d (.bool x35)) (B := []) (vs := [.d (.bool x35)]) (σ := []) (by kernel_rfl) Try.func4 rfl (.cons _ _ _ _ (.tmp 2 _ (by kernel_rfl)) .nil) (by kernel_rfl) (by kernel_rfl) (by kernel_rfl) (by kernel_rfl) (by decide) (by kernel_rfl) (by kernel_rfl)
          · refine bSplit 59 (by kernel_rfl) (fun hc => ?_) (fun hc => ?_)
            · refine bCall (caps := []) (v := (fun (r120 : Bool) => (.d (.bool r120) : V))) (H' := (fun (r120 : Bool) => ([] : List Blk))) [] _ (law30_sane_goes k ) (by kernel_rfl) (by kernel_rfl) rfl (by kernel_rfl) Try.func9 rfl (by kernel_rfl) (ConvRs.refl _ _) (by kernel_rfl) (by kernel_rfl) (by kernel_rfl) (by decide) (by kernel_rfl) (by kernel_rfl) (fun _ => (by kernel_rfl)) (fun _ => (by kernel_rfl)) (fun _ => (by kernel_rfl)) (fun r120 => ?_)
              refine oOp (.d (.bool r120)) (by kernel_rfl) (by kernel_rfl) (PureV.does (p_pick (b := true) (by kernel_rfl) (by kernel_rfl))) ?_
              refine oHead [61] [] (T' := [(61, .d (.bool r120))]) (H' := []) (by kernel_rfl) (by kernel_rfl) (by kernel_rfl) (by kernel_rfl) (by decide) (by kernel_rfl) (by kernel_rfl) ?_
              exact hj12 r120
            · refine oNot (by kernel_rfl) (by kernel_rfl) ?_
              refine oOp (.d (.bool false)) (by kernel_rfl) (by kernel_rfl) (PureV.does (p_pick (b := false) (by kernel_rfl) (by kernel_rfl))) ?_
              refine oHead [61] [] (T' := [(61, .d (.bool false))]) (H' := []) (by kernel_rfl) (by kernel_rfl) (by kernel_rfl) (by kernel_rfl) (by decide) (by kernel_rfl) (by kernel_rfl) ?_
              exact hj12 false
        · refine bPickF 55 (fun c => F (c && (decide (x30 < 2)))) (by kernel_rfl) (fun hc => ?_) (fun hc => ?_)
          · refine oOp (.d (.int .i64 x30)) (by kernel_rfl) (by kernel_rfl) (PureV.does (p_move (by kernel_rfl))) ?_
            refine oOp (.d (.bool (decide (x30 < 2)))) (by kernel_rfl) (by kernel_rfl) (PureV.does (p_int (k := .i64) (p := x30) (q := 2) (by kernel_rfl) (by kernel_rfl) (by kernel_rfl))) ?_
            refine oOp (.d (.bool (decide (x30 < 2)))) (by kernel_rfl) (by kernel_rfl) (PureV.does (p_pick (b := true) (by kernel_rfl) (by kernel_rfl))) ?_
            refine oHead [58] [] (T' := [(58, .d (.bool (decide (x30 < 2))))]) (H' := []) (by kernel_rfl) (by kernel_rfl) (by kernel_rfl) (by kernel_rfl) (by decide) (by kernel_rfl) (by kernel_rfl) ?_
            exact hj11 (decide (x30 < 2))
          · refine oNot (by kernel_rfl) (by kernel_rfl) ?_
            refine oNot (by kernel_rfl) (by kernel_rfl) ?_
            refine oOp (.d (.bool false)) (by kernel_rfl) (by kernel_rfl) (PureV.does (p_pick (b := false) (by kernel_rfl) (by kernel_rfl))) ?_
            refine oHead [58] [] (T' := [(58, .d (.bool false))]) (H' := []) (by kernel_rfl) (by kernel_rfl) (by kernel_rfl) (by kernel_rfl) (by decide) (by kernel_rfl) (by kernel_rfl) ?_
            exact hj11 false
      · refine oCondF (by kernel_rfl) ?_
        refine oSkip ?_
        refine oSeq ?_
        refine oSeq ?_
        refine oRegion rfl ?_
        refine oOp (.ptr 1 1) (by kernel_rfl) (by kernel_rfl) (PureV.does (k_fieldAddr 1 0 (by kernel_rfl) Try.underlying33 rfl ty3 (by kernel_rfl))) ?_
        refine oOp (.d (.int .i64 r1107)) (by kernel_rfl) (by kernel_rfl) (Quiet.does (k_load 1 1 (by kernel_rfl) Try.underlying3 (by kernel_rfl) (by kernel_rfl))) ?_
        refine oOp (.d (.int .i64 hi5)) (by kernel_rfl) (by kernel_rfl) (PureV.does (p_move (by kernel_rfl))) ?_
        refine oOp (.d (.bool (decide (r1107 < hi5)))) (by kernel_rfl) (by kernel_rfl) (PureV.does (p_int (k := .i64) (p := r1107) (q := hi5) (by kernel_rfl) (by kernel_rfl) (by kernel_rfl))) ?_
        refine oOp (.d (.bool (decide (r1107 < hi5)))) (by kernel_rfl) (by kernel_rfl) (PureV.does (p_move (by kernel_rfl))) ?_
        refine bMeetF (H' := [.box [.d (.bool r121), .d (.int .i64 r131)], .box [.d (.int .i64 r185), .d (.int .i64 r1107)]]) 5 rfl ((fun (x36 : Bool) => [(4, .ptr 0 0), (5, .d (.lit (List.map e_SGiven r1106))), (6, .ptr 1 0), (7, .d (.int .i64 hi5)), (8, .d (.int .i64 level5)), (9, .d (.int .i64 x30)), (71, .d (.bool x36))])) (fun x36 => ?_) (fun F hj13 => ?_)
        · refine oView (T' := [(4, .ptr 0 0), (5, .d (.lit (List.map e_SGiven r1106))), (6, .ptr 1 0), (7, .d (.int .i64 hi5)), (8, .d (.int .i64 level5)), (9, .d (.int .i64 x30)), (71, .d (.bool x36))]) (H' := [.box [.d (.bool r121), .d (.int .i64 r131)], .box [.d (.int .i64 r185), .d (.int .i64 r1107)]]) (by kernel_rfl) (by kernel_rfl) ?_
          refine oOp (.d (.bool x36)) (by kernel_rfl) (by kernel_rfl) (PureV.does (p_move (by kernel_rfl))) ?_
          refine bMeet 16 rfl ((fun (x39 : Bool) => [(4, .ptr 0 0), (5, .d (.lit (List.map e_SGiven r1106))), (6, .ptr 1 0), (7, .d (.int .i64 hi5)), (8, .d (.int .i64 level5)), (9, .d (.int .i64 x30)), (88, .d (.bool x39))])) ((fun (x39 : Bool) => [.box [.d (.bool r121), .d (.int .i64 r131)], .box [.d (.int .i64 r185), .d (.int .i64 r1107)]])) (fun s => s) (fun x39 => ?_) (fun hj28 => ?_)
          · refine oView (T' := [(4, .ptr 0 0), (5, .d (.lit (List.map e_SGiven r1106))), (6, .ptr 1 0), (7, .d (.int .i64 hi5)), (8, .d (.int .i64 level5)), (9, .d (.int .i64 x30)), (88, .d (.bool x39))]) (H' := [.box [.d (.bool r121), .d (.int .i64 r131)], .box [.d (.int .i64 r185), .d (.int .i64 r1107)]]) (by kernel_rfl) (by kernel_rfl) ?_
            refine oEnd ?_
            refine bSplit 88 (by kernel_rfl) (fun hc => ?_) (fun hc => ?_)
            · refine oCondT (by kernel_rfl) ?_
              refine oSeq ?_
              refine oRegion rfl ?_
              refine oOp (.d (.bool false)) (by kernel_rfl) (by kernel_rfl) (PureV.does (p_assign (by kernel_rfl))) ?_
              refine oEnd ?_
              exact oRet (r0 := false) (rv := .d (.bool false)) (B := []) (vs := [.d (.bool false)]) (σ := []) (by kernel_rfl) Try.func4 rfl (.cons _ _ _ _ (.tmp 2 _ (by kernel_rfl)) .nil) (by kernel_rfl) (by kernel_rfl) (by kernel_rfl) (by kernel_rfl) (by decide) (by kernel_rfl) (by kernel_rfl)
            · refine oCondF (by kernel_rfl) ?_
              refine oSkip ?_
              refine oSeq ?_
              refine oSeq ?_
              refine oRegion rfl ?_
              refine oOp (.d (.int .i64 x30)) (by kernel_rfl) (by kernel_rfl) (PureV.does (p_move (by kernel_rfl))) ?_
              refine oOp (.d (.bool (decide (x30 > 1)))) (by kernel_rfl) (by kernel_rfl) (PureV.does (p_int (k := .i64) (p := x30) (q := 1) (by kernel_rfl) (by kernel_rfl) (by kernel_rfl))) ?_
              refine oEnd ?_
              refine bSplit 90 (by kernel_rfl) (fun hc => ?_) (fun hc => ?_)
              · refine oCondT (by kernel_rfl) ?_
                refine oSeq ?_
                refine oRegion rfl ?_
                refine oOp (.nilc) (by kernel_rfl) (by kernel_rfl) (PureV.does (p_assign (by kernel_rfl))) ?_
                refine oEnd ?_
                refine oSeq ?_
                refine oSeq ?_
                refine oRegion rfl ?_
                refine oOp (.d (.lit (List.map e_SGiven r1106))) (by kernel_rfl) (by kernel_rfl) (PureV.does (p_move (by kernel_rfl))) ?_
                refine oOp (.d (.int .i64 ((List.length r1106) : Int))) (by kernel_rfl) (by kernel_rfl) (PureV.does (k_lenLit (enc := e_SGiven) r1106 (by kernel_rfl) Try.underlying30)) ?_
                refine oOp (.d (.int .i64 0)) (by kernel_rfl) (by kernel_rfl) (PureV.does (p_move (by kernel_rfl))) ?_
                refine oEnd ?_
                refine bJoin ((fun (xs19 : (List SGiven)) => [(4, .ptr 0 0), (6, .ptr 1 0), (12, .ref 2 (List.length xs19) 0 (List.length xs19))])) ((fun (xs19 : (List SGiven)) => [.box [.d (.bool r121), .d (.int .i64 r131)], .box [.d (.int .i64 r185), .d (.int .i64 r1107)], .sl 8 (List.map e_SGiven xs19) false])) (fun s => s) (fun xs19 => ?_) (fun hj20 => ?_)
                · refine oView (T' := [(4, .ptr 0 0), (6, .ptr 1 0), (12, .ref 2 (List.length xs19) 0 (List.length xs19))]) (H' := [.box [.d (.bool r121), .d (.int .i64 r131)], .box [.d (.int .i64 r185), .d (.int .i64 r1107)], .sl 8 (List.map e_SGiven xs19) false]) (by kernel_rfl) (by kernel_rfl) ?_
                  refine oSeq ?_
                  refine oFreeze 2 (esz := 8) (xs := List.map e_SGiven xs19) (by kernel_rfl) ?_
                  refine oView (H' := [.box [.d (.bool r121), .d (.int .i64 r131)], .box [.d (.int .i64 r185), .d (.int .i64 r1107)], .sl 8 (List.map e_SGiven xs19) true]) rfl (by kernel_rfl) ?_
                  refine oDraw [0, 1, 2] rfl ?_
                  refine aTakeL (i := 0) (st' := [0]) (.agg [.d (.bool r121), .d (.int .i64 r131)]) rfl (by kernel_rfl) (by kernel_rfl) (by kernel_rfl) (by kernel_rfl) (by kernel_rfl) (by kernel_rfl) (by kernel_rfl) (k_loadAgg 0 0 (by kernel_rfl) Try.underlying28 (by kernel_rfl) ty28 (by kernel_rfl)) ?_
                  refine aTakeL (i := 1) (st' := []) (.ref 2 (List.length xs19) 0 (List.length xs19)) rfl (by kernel_rfl) (by kernel_rfl) (by kernel_rfl) (by kernel_rfl) (by kernel_rfl) (by kernel_rfl) (by kernel_rfl) (PureV.quiet (p_move (by kernel_rfl)) []) ?_
                  refine aTakeL (i := 3) (st' := [1]) (.agg [.d (.int .i64 r185), .d (.int .i64 r1107)]) rfl (by kernel_rfl) (by kernel_rfl) (by kernel_rfl) (by kernel_rfl) (by kernel_rfl) (by kernel_rfl) (by kernel_rfl) (k_loadAgg 1 0 (by kernel_rfl) Try.underlying33 (by kernel_rfl) ty33 (by kernel_rfl)) ?_
                  refine dCall (i := 2) (caps := []) (v := (uc fun (r189 : Int) => (fun (r11011 : Int) => (.agg [.d (.int .i64 r189), .d (.int .i64 r11011)] : V)))) (H' := (uc fun (r189 : Int) => (fun (r11011 : Int) => ([.box [.d (.bool r121), .d (.int .i64 r131)], .box [.d (.int .i64 r185), .d (.int .i64 r1107)], .sl 8 (List.map e_SGiven xs19) true] : List Blk)))) [] _ (arbitration_Decide_goes k r121 r131 xs19) rfl (by kernel_rfl) (by kernel_rfl) (by kernel_rfl) (by kernel_rfl) (by kernel_rfl) (by kernel_rfl) (by kernel_rfl) (by kernel_rfl) rfl (by kernel_rfl) Try.func13 rfl (by kernel_rfl) (convList (vs0 := [.agg [.d (.bool r121), .d (.int .i64 r131)], .ref 2 (List.length xs19) 0 (List.length xs19)]) (vs := [.agg [.d (.bool r121), .d (.int .i64 r131)], .d (.lit (List.map e_SGiven xs19))]) (by kernel_rfl) (.cons _ _ _ _ (.same _) (.cons _ _ _ _ (k_lit (enc := e_SGiven) (sz := 8) 2 xs19 (by kernel_rfl)) .nil))) (by kernel_rfl) (by kernel_rfl) (by kernel_rfl) (by decide) (by kernel_rfl) (by kernel_rfl) (fun _ => (by kernel_rfl)) (fun _ => (by kernel_rfl)) (fun _ => (by kernel_rfl)) (fun r => ?_)
                  obtain ⟨r189, r11011⟩ := r
                  refine dUc ?_
                  refine aTakeP (i := 4) (.d (.bool ((r189 == r185) && ((r11011 == r1107) && true)))) rfl (by kernel_rfl) (by kernel_rfl) (by kernel_rfl) (by kernel_rfl) (by kernel_rfl) (by kernel_rfl) (k_eqAgg (by kernel_rfl) (by kernel_rfl) Try.eqGuardType33 (EqV.struct 1 33 [.d (.int .i64 r189), .d (.int .i64 r11011)] [.d (.int .i64 r185), .d (.int .i64 r1107)] _ ((r189 == r185) && ((r11011 == r1107) && true)) Try.underlying33 Try.stoodInHeld33 (EqF.one 1 1 _ _ _ _ _ _ _ (r189 == r185) ((r11011 == r1107) && true) (by kernel_rfl) Try.underlying3 (by kernel_rfl) (by kernel_rfl) (by kernel_rfl) (by kernel_rfl) (EqV.int 3 .i64 .i64 r189 r185 Try.underlying3) (EqF.one 1 1 _ _ _ _ _ _ _ (r11011 == r1107) true (by kernel_rfl) Try.underlying3 (by kernel_rfl) (by kernel_rfl) (by kernel_rfl) (by kernel_rfl) (EqV.int 3 .i64 .i64 r11011 r1107 Try.underlying3) (EqF.nil 1 _ _)))) (by kernel_rfl)) ?_
                  refine aTakeL (i := 5) (st' := []) (.d (.bool ((r189 == r185) && ((r11011 == r1107) && true)))) rfl (by kernel_rfl) (by kernel_rfl) (by kernel_rfl) (by kernel_rfl) (by kernel_rfl) (by kernel_rfl) (by kernel_rfl) (PureV.quiet (p_move (by kernel_rfl)) []) ?_
                  refine dMeet [7, 6, 5, 4, 2, 3, 1, 0] (fun (x47 : Bool) => [(113, .d (.bool x47))]) (fun (x47 : Bool) => [(113, .d (.bool x47))]) (fun _ => [.box [.d (.bool r121), .d (.int .i64 r131)], .box [.d (.int .i64 r185), .d (.int .i64 r1107)], .sl 8 (List.map e_SGiven xs19) true]) (fun s => s) (fun x47 => ?_) (fun hj21 => ?_)
                  · refine aTakeL (i := 8) (st' := []) (.d (.bool x47)) rfl (by kernel_rfl) (by kernel_rfl) (by kernel_rfl) (by kernel_rfl) (by kernel_rfl) (by kernel_rfl) (by kernel_rfl) (PureV.quiet (p_assign (by kernel_rfl)) []) ?_
                    refine aDone (by kernel_rfl) ?_
                    exact oRet (r0 := x47) (rv := .d (.bool x47)) (B := []) (vs := [.d (.bool x47)]) (σ := []) (by kernel_rfl) Try.func4 rfl (.cons _ _ _ _ (.tmp 2 _ (by kernel_rfl)) .nil) (by kernel_rfl) (by kernel_rfl) (by kernel_rfl) (by kernel_rfl) (by decide) (by kernel_rfl) (by kernel_rfl)
                  · refine dSplit 111 (by kernel_rfl) (by kernel_rfl) (fun hc => ?_) (fun hc => ?_)
                    · refine dCall (i := 6) (caps := []) (v := (fun (r127 : Bool) => (.d (.bool r127) : V))) (H' := (fun (r127 : Bool) => ([.box [.d (.bool r121), .d (.int .i64 r131)], .box [.d (.int .i64 r185), .d (.int .i64 r1107)], .sl 8 (List.map e_SGiven xs19) true] : List Blk))) [] _ (law30_sane_goes k ) rfl (by kernel_rfl) (by kernel_rfl) (by kernel_rfl) (by kernel_rfl) (by kernel_rfl) (by kernel_rfl) (by kernel_rfl) (by kernel_rfl) rfl (by kernel_rfl) Try.func9 rfl (by kernel_rfl) (ConvRs.refl _ _) (by kernel_rfl) (by kernel_rfl) (by kernel_rfl) (by decide) (by kernel_rfl) (by kernel_rfl) (fun _ => (by kernel_rfl)) (fun _ => (by kernel_rfl)) (fun _ => (by kernel_rfl)) (fun r127 => ?_)
                      refine aTakeL (i := 7) (st' := []) (.d (.bool r127)) rfl (by kernel_rfl) (by kernel_rfl) (by kernel_rfl) (by kernel_rfl) (by kernel_rfl) (by kernel_rfl) (by kernel_rfl) (PureV.quiet (p_pick (b := true) (by kernel_rfl) (by kernel_rfl)) []) ?_
                      refine dDrop [113] [113] (T' := [(113, .d (.bool r127))]) (U' := [(113, .d (.bool r127))]) (by kernel_rfl) (by kernel_rfl) ?_
                      exact hj21 r127
                    · refine aTakeNot (i := 6) rfl (by kernel_rfl) (by kernel_rfl) (by kernel_rfl) (by kernel_rfl) (by kernel_rfl) (by kernel_rfl) ?_
                      refine aTakeL (i := 7) (st' := []) (.d (.bool false)) rfl (by kernel_rfl) (by kernel_rfl) (by kernel_rfl) (by kernel_rfl) (by kernel_rfl) (by kernel_rfl) (by kernel_rfl) (PureV.quiet (p_pick (b := false) (by kernel_rfl) (by kernel_rfl)) []) ?_
                      refine dDrop [113] [113] (T' := [(113, .d (.bool false))]) (U' := [(113, .d (.bool false))]) (by kernel_rfl) (by kernel_rfl) ?_
                      exact hj21 false
                · refine oBlock ?_
                  refine oLoop ?_
                  refine oVirt (esz := 8) 12 (by kernel_rfl) ?_
                  refine oView (H' := [.box [.d (.bool r121), .d (.int .i64 r131)], .box [.d (.int .i64 r185), .d (.int .i64 r1107)], .sl 8 (List.map e_SGiven ([] : List SGiven)) false]) rfl (by kernel_rfl) ?_
                  refine oHead [4, 6, 9, 12, 91, 92, 93] [0, 1, 2] (T' := [(4, .ptr 0 0), (6, .ptr 1 0), (9, .d (.int .i64 x30)), (12, .ref 2 (List.length ([] : List SGiven)) 0 (List.length ([] : List SGiven))), (91, .d (.lit (List.map e_SGiven r1106))), (92, .d (.int .i64 ((List.length r1106) : Int))), (93, .d (.int .i64 0))]) (H' := [.box [.d (.bool r121), .d (.int .i64 r131)], .box [.d (.int .i64 r185), .d (.int .i64 r1107)], .sl 8 (List.map e_SGiven ([] : List SGiven)) false]) (by kernel_rfl) (by kernel_rfl) (by kernel_rfl) (by kernel_rfl) (by decide) (by kernel_rfl) (by kernel_rfl) ?_
                  refine bLoop (body := law30_ArbitrationBetween_b1 k r1106 x30) ((uc fun (x48 : Int) => (fun (xs21 : (List SGiven)) => [(4, .ptr 0 0), (6, .ptr 1 0), (9, .d (.int .i64 x30)), (12, .ref 2 (List.length xs21) 0 (List.length xs21)), (91, .d (.lit (List.map e_SGiven r1106))), (92, .d (.int .i64 ((List.length r1106) : Int))), (93, .d (.int .i64 x48))]))) ((uc fun (x48 : Int) => (fun (xs21 : (List SGiven)) => [.box [.d (.bool r121), .d (.int .i64 r131)], .box [.d (.int .i64 r185), .d (.int .i64 r1107)], .sl 8 (List.map e_SGiven xs21) false]))) (fun again hag1 s => ?_) k (0, ([] : List SGiven))
                  · unfold law30_ArbitrationBetween_b1
                    obtain ⟨x48, xs21⟩ := s
                    refine bUc ?_
                    refine oView (T' := [(4, .ptr 0 0), (6, .ptr 1 0), (9, .d (.int .i64 x30)), (12, .ref 2 (List.length xs21) 0 (List.length xs21)), (91, .d (.lit (List.map e_SGiven r1106))), (92, .d (.int .i64 ((List.length r1106) : Int))), (93, .d (.int .i64 x48))]) (H' := [.box [.d (.bool r121), .d (.int .i64 r131)], .box [.d (.int .i64 r185), .d (.int .i64 r1107)], .sl 8 (List.map e_SGiven xs21) false]) (by kernel_rfl) (by kernel_rfl) ?_
                    refine oSeq ?_
                    refine oRegion rfl ?_
                    refine oOp (.d (.bool (decide (x48 < ((List.length r1106) : Int))))) (by kernel_rfl) (by kernel_rfl) (PureV.does (p_int (k := .i64) (p := x48) (q := ((List.length r1106) : Int)) (by kernel_rfl) (by kernel_rfl) (by kernel_rfl))) ?_
                    refine oEnd ?_
                    refine oSeq ?_
                    refine bSplit 94 (by kernel_rfl) (fun hc => ?_) (fun hc => ?_)
                    · refine oCondT (by kernel_rfl) ?_
                      refine oSkip ?_
                      refine oSeq ?_
                      refine bJoin ((fun (xs24 : (List SGiven)) => [(4, .ptr 0 0), (6, .ptr 1 0), (9, .d (.int .i64 x30)), (12, .ref 2 (List.length xs24) 0 (List.length xs24)), (91, .d (.lit (List.map e_SGiven r1106))), (92, .d (.int .i64 ((List.length r1106) : Int))), (93, .d (.int .i64 x48))])) ((fun (xs24 : (List SGiven)) => [.box [.d (.bool r121), .d (.int .i64 r131)], .box [.d (.int .i64 r185), .d (.int .i64 r1107)], .sl 8 (List.map e_SGiven xs24) false])) (fun s => s) (fun xs24 => ?_) (fun hj24 => ?_)
                      · refine oView (T' := [(4, .ptr 0 0), (6, .ptr 1 0), (9, .d (.int .i64 x30)), (12, .ref 2 (List.length xs24) 0 (List.length xs24)), (91, .d (.lit (List.map e_SGiven r1106))), (92, .d (.int .i64 ((List.length r1106) : Int))), (93, .d (.int .i64 x48))]) (H' := [.box [.d (.bool r121), .d (.int .i64 r131)], .box [.d (.int .i64 r185), .d (.int .i64 r1107)], .sl 8 (List.map e_SGiven xs24) false]) (by kernel_rfl) (by kernel_rfl) ?_
                        refine oRegion rfl ?_
                        refine oOp (.d (.int .i64 (IntKind.wrap .i64 (x48 + 1)))) (by kernel_rfl) (by kernel_rfl) (PureV.does (p_int (k := .i64) (p := x48) (q := 1) (by kernel_rfl) (by kernel_rfl) (by kernel_rfl))) ?_
                        refine oOp (.d (.int .i64 (IntKind.wrap .i64 (x48 + 1)))) (by kernel_rfl) (by kernel_rfl) (PureV.does (p_move (by kernel_rfl))) ?_
                        refine oEnd ?_
                        refine oAgain ?_
                        refine oHead [4, 6, 9, 12, 91, 92, 93] [0, 1, 2] (T' := [(4, .ptr 0 0), (6, .ptr 1 0), (9, .d (.int .i64 x30)), (12, .ref 2 (List.length xs24) 0 (List.length xs24)), (91, .d (.lit (List.map e_SGiven r1106))), (92, .d (.int .i64 ((List.length r1106) : Int))), (93, .d (.int .i64 (IntKind.wrap .i64 (x48 + 1))))]) (H' := [.box [.d (.bool r121), .d (.int .i64 r131)], .box [.d (.int .i64 r185), .d (.int .i64 r1107)], .sl 8 (List.map e_SGiven xs24) false]) (by kernel_rfl) (by kernel_rfl) (by kernel_rfl) (by kernel_rfl) (by decide) (by kernel_rfl) (by kernel_rfl) ?_
                        exact hag1 ((IntKind.wrap .i64 (x48 + 1)), xs24)
                      · refine oBlock ?_
                        refine oSeq ?_
                        refine oRegion rfl ?_
                        refine bIdx (fun e119 h149 h150 => ?_)
                        refine oOp (.lptr (e_SGiven e119) 0) (by kernel_rfl) (by kernel_rfl) (PureV.does (k_idxLit e_SGiven_len r1106 (a := e119) (by kernel_rfl) (k := .i64) (i := x48) (by kernel_rfl) Try.underlying30 ty38 h149 h150)) ?_
                        refine oOp (.agg [.d (.int .i64 e119.Script), .d (.int .i64 e119.Part), .d (.int .i64 e119.Marker), .d (.int .i64 e119.Level), .d (.int .i64 e119.Value), .d (.int .i64 e119.Stamp_Time), .d (.int .i64 e119.Stamp_Source), .d (.int .i64 e119.Stamp_Seq)]) (by kernel_rfl) (by kernel_rfl) (Quiet.does (k_loadLAgg (cells := e_SGiven e119) 0 [(.int .i64 e119.Script), (.int .i64 e119.Part), (.int .i64 e119.Marker), (.int .i64 e119.Level), (.int .i64 e119.Value), (.int .i64 e119.Stamp_Time), (.int .i64 e119.Stamp_Source), (.int .i64 e119.Stamp_Seq)] (by kernel_rfl) Try.underlying38 (by kernel_rfl) ty38 (by kernel_rfl) (by kernel_rfl) (by kernel_rfl))) ?_
                        refine oOp (.ptr 3 0) (by kernel_rfl) (by kernel_rfl) (k_alloc (H' := [.box [.d (.bool r121), .d (.int .i64 r131)], .box [.d (.int .i64 r185), .d (.int .i64 r1107)], .sl 8 (List.map e_SGiven xs21) false, .box [.d (.int .i64 0), .d (.int .i64 0), .d (.int .i64 0), .d (.int .i64 0), .d (.int .i64 0), .d (.int .i64 0), .d (.int .i64 0), .d (.int .i64 0)]]) ty38 (by kernel_rfl) (by kernel_rfl)) ?_
                        refine oOp (.undef) (by kernel_rfl) (by kernel_rfl) (k_store (vs := [.d (.int .i64 e119.Script), .d (.int .i64 e119.Part), .d (.int .i64 e119.Marker), .d (.int .i64 e119.Level), .d (.int .i64 e119.Value), .d (.int .i64 e119.Stamp_Time), .d (.int .i64 e119.Stamp_Source), .d (.int .i64 e119.Stamp_Seq)]) (H' := [.box [.d (.bool r121), .d (.int .i64 r131)], .box [.d (.int .i64 r185), .d (.int .i64 r1107)], .sl 8 (List.map e_SGiven xs21) false, .box [.d (.int .i64 e119.Script), .d (.int .i64 e119.Part), .d (.int .i64 e119.Marker), .d (.int .i64 e119.Level), .d (.int .i64 e119.Value), .d (.int .i64 e119.Stamp_Time), .d (.int .i64 e119.Stamp_Source), .d (.int .i64 e119.Stamp_Seq)]]) 3 0 (by kernel_rfl) ty38 (by kernel_rfl) (by kernel_rfl) (by kernel_rfl)) ?_
                        refine oEnd ?_
                        refine oSeq ?_
                        refine oRegion rfl ?_
                        refine oOp (.ptr 3 3) (by kernel_rfl) (by kernel_rfl) (PureV.does (k_fieldAddr 3 0 (by kernel_rfl) Try.underlying38 rfl ty3 (by kernel_rfl))) ?_
                        refine oOp (.d (.int .i64 e119.Level)) (by kernel_rfl) (by kernel_rfl) (Quiet.does (k_load 3 3 (by kernel_rfl) Try.underlying3 (by kernel_rfl) (by kernel_rfl))) ?_
                        refine oOp (.d (.int .i64 x30)) (by kernel_rfl) (by kernel_rfl) (PureV.does (p_move (by kernel_rfl))) ?_
                        refine oOp (.d (.bool (e119.Level == x30))) (by kernel_rfl) (by kernel_rfl) (PureV.does (p_int (k := .i64) (p := e119.Level) (q := x30) (by kernel_rfl) (by kernel_rfl) (by kernel_rfl))) ?_
                        refine oEnd ?_
                        refine bSplit 100 (by kernel_rfl) (fun hc => ?_) (fun hc => ?_)
                        · refine oCondT (by kernel_rfl) ?_
                          refine oRegion rfl ?_
                          refine oOp (.ref 2 (List.length xs21) 0 (List.length xs21)) (by kernel_rfl) (by kernel_rfl) (PureV.does (p_move (by kernel_rfl))) ?_
                          refine oOp (.agg [.d (.int .i64 e119.Script), .d (.int .i64 e119.Part), .d (.int .i64 e119.Marker), .d (.int .i64 e119.Level), .d (.int .i64 e119.Value), .d (.int .i64 e119.Stamp_Time), .d (.int .i64 e119.Stamp_Source), .d (.int .i64 e119.Stamp_Seq)]) (by kernel_rfl) (by kernel_rfl) (Quiet.does (k_loadAgg 3 0 (by kernel_rfl) Try.underlying38 (by kernel_rfl) ty38 (by kernel_rfl))) ?_
                          refine oOp (.ref 4 (List.length ([e119] : List SGiven)) 0 (List.length ([e119] : List SGiven))) (by kernel_rfl) (by kernel_rfl) (k_buildSlice (H' := [.box [.d (.bool r121), .d (.int .i64 r131)], .box [.d (.int .i64 r185), .d (.int .i64 r1107)], .sl 8 (List.map e_SGiven xs21) false, .box [.d (.int .i64 e119.Script), .d (.int .i64 e119.Part), .d (.int .i64 e119.Marker), .d (.int .i64 e119.Level), .d (.int .i64 e119.Value), .d (.int .i64 e119.Stamp_Time), .d (.int .i64 e119.Stamp_Source), .d (.int .i64 e119.Stamp_Seq)], .sl 8 (List.map e_SGiven ([e119] : List SGiven)) false]) (List.map e_SGiven ([e119] : List SGiven)) Try.underlying30 ty38 (by kernel_rfl) (by kernel_rfl) (by kernel_rfl)) ?_
                          refine bCap (fun h151 => ?_)
                          refine oOp (.ref 2 (List.length (xs21 ++ ([e119] : List SGiven))) 0 (List.length (xs21 ++ ([e119] : List SGiven)))) (by kernel_rfl) (by kernel_rfl) (k_append (H' := [.box [.d (.bool r121), .d (.int .i64 r131)], .box [.d (.int .i64 r185), .d (.int .i64 r1107)], .sl 8 (List.map e_SGiven (xs21 ++ ([e119] : List SGiven))) false, .box [.d (.int .i64 e119.Script), .d (.int .i64 e119.Part), .d (.int .i64 e119.Marker), .d (.int .i64 e119.Level), .d (.int .i64 e119.Value), .d (.int .i64 e119.Stamp_Time), .d (.int .i64 e119.Stamp_Source), .d (.int .i64 e119.Stamp_Seq)], .sl 8 (List.map e_SGiven ([e119] : List SGiven)) false]) (enc := e_SGiven) 2 xs21 ([e119] : List SGiven) Try.underlying30 Try.underlying30 ty38 (by kernel_rfl) (by kernel_rfl) (by kernel_rfl) (holdsRef (enc := e_SGiven) 4 ([e119] : List SGiven) false (by kernel_rfl) (by kernel_rfl)) h151 (by kernel_rfl)) ?_
                          refine oOp (.ref 2 (List.length (xs21 ++ ([e119] : List SGiven))) 0 (List.length (xs21 ++ ([e119] : List SGiven)))) (by kernel_rfl) (by kernel_rfl) (PureV.does (p_assign (by kernel_rfl))) ?_
                          refine oEnd ?_
                          refine oBlk ?_
                          refine oHead [4, 6, 9, 12, 91, 92, 93] [0, 1, 2] (T' := [(4, .ptr 0 0), (6, .ptr 1 0), (9, .d (.int .i64 x30)), (12, .ref 2 (List.length (xs21 ++ ([e119] : List SGiven))) 0 (List.length (xs21 ++ ([e119] : List SGiven)))), (91, .d (.lit (List.map e_SGiven r1106))), (92, .d (.int .i64 ((List.length r1106) : Int))), (93, .d (.int .i64 x48))]) (H' := [.box [.d (.bool r121), .d (.int .i64 r131)], .box [.d (.int .i64 r185), .d (.int .i64 r1107)], .sl 8 (List.map e_SGiven (xs21 ++ ([e119] : List SGiven))) false]) (by kernel_rfl) (by kernel_rfl) (by kernel_rfl) (by kernel_rfl) (by decide) (by kernel_rfl) (by kernel_rfl) ?_
                          exact hj24 (xs21 ++ ([e119] : List SGiven))
                        · refine oCondF (by kernel_rfl) ?_
                          refine oSkip ?_
                          refine oBlk ?_
                          refine oHead [4, 6, 9, 12, 91, 92, 93] [0, 1, 2] (T' := [(4, .ptr 0 0), (6, .ptr 1 0), (9, .d (.int .i64 x30)), (12, .ref 2 (List.length xs21) 0 (List.length xs21)), (91, .d (.lit (List.map e_SGiven r1106))), (92, .d (.int .i64 ((List.length r1106) : Int))), (93, .d (.int .i64 x48))]) (H' := [.box [.d (.bool r121), .d (.int .i64 r131)], .box [.d (.int .i64 r185), .d (.int .i64 r1107)], .sl 8 (List.map e_SGiven xs21) false]) (by kernel_rfl) (by kernel_rfl) (by kernel_rfl) (by kernel_rfl) (by decide) (by kernel_rfl) (by kernel_rfl) ?_
                          exact hj24 xs21
                    · refine oCondF (by kernel_rfl) ?_
                      refine oExit rfl ?_
                      refine oHead [4, 6, 12] [0, 1, 2] (T' := [(4, .ptr 0 0), (6, .ptr 1 0), (12, .ref 2 (List.length xs21) 0 (List.length xs21))]) (H' := [.box [.d (.bool r121), .d (.int .i64 r131)], .box [.d (.int .i64 r185), .d (.int .i64 r1107)], .sl 8 (List.map e_SGiven xs21) false]) (by kernel_rfl) (by kernel_rfl) (by kernel_rfl) (by kernel_rfl) (by decide) (by kernel_rfl) (by kernel_rfl) ?_
                      exact hj20 xs21
              · refine oCondF (by kernel_rfl) ?_
                refine oSkip ?_
                refine oSeq ?_
                refine oRegion rfl ?_
                refine oOp (.d (.lit (List.map e_SGiven r1106))) (by kernel_rfl) (by kernel_rfl) (PureV.does (p_move (by kernel_rfl))) ?_
                refine oOp (.d (.int .i64 ((List.length r1106) : Int))) (by kernel_rfl) (by kernel_rfl) (PureV.does (k_lenLit (enc := e_SGiven) r1106 (by kernel_rfl) Try.underlying30)) ?_
                refine oOp (.d (.bool (decide (((List.length r1106) : Int) > 1)))) (by kernel_rfl) (by kernel_rfl) (PureV.does (p_int (k := .i64) (p := ((List.length r1106) : Int)) (q := 1) (by kernel_rfl) (by kernel_rfl) (by kernel_rfl))) ?_
                refine oOp (.d (.bool (decide (((List.length r1106) : Int) > 1)))) (by kernel_rfl) (by kernel_rfl) (PureV.does (p_move (by kernel_rfl))) ?_
                refine bMeetF (H' := [.box [.d (.bool r121), .d (.int .i64 r131)], .box [.d (.int .i64 r185), .d (.int .i64 r1107)]]) 4 rfl ((fun (x50 : Bool) => [(4, .ptr 0 0), (6, .ptr 1 0), (7, .d (.int .i64 hi5)), (8, .d (.int .i64 level5)), (121, .d (.bool x50))])) (fun x50 => ?_) (fun F hj25 => ?_)
                · refine oView (T' := [(4, .ptr 0 0), (6, .ptr 1 0), (7, .d (.int .i64 hi5)), (8, .d (.int .i64 level5)), (121, .d (.bool x50))]) (H' := [.box [.d (.bool r121), .d (.int .i64 r131)], .box [.d (.int .i64 r185), .d (.int .i64 r1107)]]) (by kernel_rfl) (by kernel_rfl) ?_
                  refine oOp (.d (.bool x50)) (by kernel_rfl) (by kernel_rfl) (PureV.does (p_move (by kernel_rfl))) ?_
                  refine bMeet 12 rfl ((fun (x51 : Bool) => [(134, .d (.bool x51))])) ((fun (x51 : Bool) => [])) (fun s => s) (fun x51 => ?_) (fun hj27 => ?_)
                  · refine oView (T' := [(134, .d (.bool x51))]) (H' := []) (by kernel_rfl) (by kernel_rfl) ?_
                    refine oOp (.d (.bool x51)) (by kernel_rfl) (by kernel_rfl) (PureV.does (p_move (by kernel_rfl))) ?_
                    refine bMeet 2 rfl ((fun (x52 : Bool) => [(137, .d (.bool x52))])) ((fun (x52 : Bool) => [])) (fun s => s) (fun x52 => ?_) (fun hj26 => ?_)
                    · refine oView (T' := [(137, .d (.bool x52))]) (H' := []) (by kernel_rfl) (by kernel_rfl) ?_
                      refine oOp (.d (.bool x52)) (by kernel_rfl) (by kernel_rfl) (PureV.does (p_assign (by kernel_rfl))) ?_
                      refine oEnd ?_
                      exact oRet (r0 := x52) (rv := .d (.bool x52)) (B := []) (vs := [.d (.bool x52)]) (σ := []) (by kernel_rfl) Try.func4 rfl (.cons _ _ _ _ (.tmp 2 _ (by kernel_rfl)) .nil) (by kernel_rfl) (by kernel_rfl) (by kernel_rfl) (by kernel_rfl) (by decide) (by kernel_rfl) (by kernel_rfl)
                    · refine bSplit 135 (by kernel_rfl) (fun hc => ?_) (fun hc => ?_)
                      · refine bCall (caps := []) (v := (fun (r129 : Bool) => (.d (.bool r129) : V))) (H' := (fun (r129 : Bool) => ([] : List Blk))) [] _ (law30_sane_goes k ) (by kernel_rfl) (by kernel_rfl) rfl (by kernel_rfl) Try.func9 rfl (by kernel_rfl) (ConvRs.refl _ _) (by kernel_rfl) (by kernel_rfl) (by kernel_rfl) (by decide) (by kernel_rfl) (by kernel_rfl) (fun _ => (by kernel_rfl)) (fun _ => (by kernel_rfl)) (fun _ => (by kernel_rfl)) (fun r129 => ?_)
                        refine oOp (.d (.bool r129)) (by kernel_rfl) (by kernel_rfl) (PureV.does (p_pick (b := true) (by kernel_rfl) (by kernel_rfl))) ?_
                        refine oHead [137] [] (T' := [(137, .d (.bool r129))]) (H' := []) (by kernel_rfl) (by kernel_rfl) (by kernel_rfl) (by kernel_rfl) (by decide) (by kernel_rfl) (by kernel_rfl) ?_
                        exact hj26 r129
                      · refine oNot (by kernel_rfl) (by kernel_rfl) ?_
                        refine oOp (.d (.bool false)) (by kernel_rfl) (by kernel_rfl) (PureV.does (p_pick (b := false) (by kernel_rfl) (by kernel_rfl))) ?_
                        refine oHead [137] [] (T' := [(137, .d (.bool false))]) (H' := []) (by kernel_rfl) (by kernel_rfl) (by kernel_rfl) (by kernel_rfl) (by decide) (by kernel_rfl) (by kernel_rfl) ?_
                        exact hj26 false
                  · refine bSplit 122 (by kernel_rfl) (fun hc => ?_) (fun hc => ?_)
                    · refine oOp (.ptr 1 1) (by kernel_rfl) (by kernel_rfl) (PureV.does (k_fieldAddr 1 0 (by kernel_rfl) Try.underlying33 rfl ty3 (by kernel_rfl))) ?_
                      refine oOp (.d (.int .i64 r1107)) (by kernel_rfl) (by kernel_rfl) (Quiet.does (k_load 1 1 (by kernel_rfl) Try.underlying3 (by kernel_rfl) (by kernel_rfl))) ?_
                      refine oOp (.d (.int .i64 (IntKind.wrap .i64 (2 * r1107)))) (by kernel_rfl) (by kernel_rfl) (PureV.does (p_int (k := .i64) (p := 2) (q := r1107) (by kernel_rfl) (by kernel_rfl) (by kernel_rfl))) ?_
                      refine oOp (.d (.int .i64 hi5)) (by kernel_rfl) (by kernel_rfl) (PureV.does (p_move (by kernel_rfl))) ?_
                      refine oOp (.d (.int .i64 (IntKind.wrap .i64 ((IntKind.wrap .i64 (2 * r1107)) - hi5)))) (by kernel_rfl) (by kernel_rfl) (PureV.does (p_int (k := .i64) (p := (IntKind.wrap .i64 (2 * r1107))) (q := hi5) (by kernel_rfl) (by kernel_rfl) (by kernel_rfl))) ?_
                      refine oOp (.d (.int .i64 level5)) (by kernel_rfl) (by kernel_rfl) (PureV.does (p_move (by kernel_rfl))) ?_
                      refine oOp (.d (.int .i64 (IntKind.wrap .i64 ((IntKind.wrap .i64 ((IntKind.wrap .i64 (2 * r1107)) - hi5)) - level5)))) (by kernel_rfl) (by kernel_rfl) (PureV.does (p_int (k := .i64) (p := (IntKind.wrap .i64 ((IntKind.wrap .i64 (2 * r1107)) - hi5))) (q := level5) (by kernel_rfl) (by kernel_rfl) (by kernel_rfl))) ?_
                      refine oOp (.ptr 0 1) (by kernel_rfl) (by kernel_rfl) (PureV.does (k_fieldAddr 0 0 (by kernel_rfl) Try.underlying28 rfl ty3 (by kernel_rfl))) ?_
                      refine oOp (.d (.int .i64 r131)) (by kernel_rfl) (by kernel_rfl) (Quiet.does (k_load 0 1 (by kernel_rfl) Try.underlying3 (by kernel_rfl) (by kernel_rfl))) ?_
                      refine oOp (.d (.int .i64 (IntKind.wrap .i64 (r131 + 1)))) (by kernel_rfl) (by kernel_rfl) (PureV.does (p_int (k := .i64) (p := r131) (q := 1) (by kernel_rfl) (by kernel_rfl) (by kernel_rfl))) ?_
                      refine oOp (.d (.bool (decide ((IntKind.wrap .i64 ((IntKind.wrap .i64 ((IntKind.wrap .i64 (2 * r1107)) - hi5)) - level5)) ≤ (IntKind.wrap .i64 (r131 + 1)))))) (by kernel_rfl) (by kernel_rfl) (PureV.does (p_int (k := .i64) (p := (IntKind.wrap .i64 ((IntKind.wrap .i64 ((IntKind.wrap .i64 (2 * r1107)) - hi5)) - level5))) (q := (IntKind.wrap .i64 (r131 + 1))) (by kernel_rfl) (by kernel_rfl) (by kernel_rfl))) ?_
                      refine oOp (.d (.bool (decide ((IntKind.wrap .i64 ((IntKind.wrap .i64 ((IntKind.wrap .i64 (2 * r1107)) - hi5)) - level5)) ≤ (IntKind.wrap .i64 (r131 + 1)))))) (by kernel_rfl) (by kernel_rfl) (PureV.does (p_pick (b := true) (by kernel_rfl) (by kernel_rfl))) ?_
                      refine oHead [134] [] (T' := [(134, .d (.bool (decide ((IntKind.wrap .i64 ((IntKind.wrap .i64 ((IntKind.wrap .i64 (2 * r1107)) - hi5)) - level5)) ≤ (IntKind.wrap .i64 (r131 + 1))))))]) (H' := []) (by kernel_rfl) (by kernel_rfl) (by kernel_rfl) (by kernel_rfl) (by decide) (by kernel_rfl) (by kernel_rfl) ?_
                      exact hj27 (decide ((IntKind.wrap .i64 ((IntKind.wrap .i64 ((IntKind.wrap .i64 (2 * r1107)) - hi5)) - level5)) ≤ (IntKind.wrap .i64 (r131 + 1))))
                    · refine oNot (by kernel_rfl) (by kernel_rfl) ?_
                      refine oNot (by kernel_rfl) (by kernel_rfl) ?_
                      refine oNot (by kernel_rfl) (by kernel_rfl) ?_
                      refine oNot (by kernel_rfl) (by kernel_rfl) ?_
                      refine oNot (by kernel_rfl) (by kernel_rfl) ?_
                      refine oNot (by kernel_rfl) (by kernel_rfl) ?_
                      refine oNot (by kernel_rfl) (by kernel_rfl) ?_
                      refine oNot (by kernel_rfl) (by kernel_rfl) ?_
                      refine oNot (by kernel_rfl) (by kernel_rfl) ?_
                      refine oNot (by kernel_rfl) (by kernel_rfl) ?_
                      refine oNot (by kernel_rfl) (by kernel_rfl) ?_
                      refine oOp (.d (.bool false)) (by kernel_rfl) (by kernel_rfl) (PureV.does (p_pick (b := false) (by kernel_rfl) (by kernel_rfl))) ?_
                      refine oHead [134] [] (T' := [(134, .d (.bool false))]) (H' := []) (by kernel_rfl) (by kernel_rfl) (by kernel_rfl) (by kernel_rfl) (by decide) (by kernel_rfl) (by kernel_rfl) ?_
                      exact hj27 false
                · refine bPickF 117 (fun c => F (c || (!r121))) (by kernel_rfl) (fun hc => ?_) (fun hc => ?_)
                  · refine oNot (by kernel_rfl) (by kernel_rfl) ?_
                    refine oNot (by kernel_rfl) (by kernel_rfl) ?_
                    refine oNot (by kernel_rfl) (by kernel_rfl) ?_
                    refine oOp (.d (.bool true)) (by kernel_rfl) (by kernel_rfl) (PureV.does (p_pick (b := true) (by kernel_rfl) (by kernel_rfl))) ?_
                    refine oHead [4, 6, 7, 8, 121] [0, 1] (T' := [(4, .ptr 0 0), (6, .ptr 1 0), (7, .d (.int .i64 hi5)), (8, .d (.int .i64 level5)), (121, .d (.bool true))]) (H' := [.box [.d (.bool r121), .d (.int .i64 r131)], .box [.d (.int .i64 r185), .d (.int .i64 r1107)]]) (by kernel_rfl) (by kernel_rfl) (by kernel_rfl) (by kernel_rfl) (by decide) (by kernel_rfl) (by kernel_rfl) ?_
                    exact hj25 true
                  · refine oOp (.ptr 0 0) (by kernel_rfl) (by kernel_rfl) (PureV.does (k_fieldAddr 0 0 (by kernel_rfl) Try.underlying28 rfl ty4 (by kernel_rfl))) ?_
                    refine oOp (.d (.bool r121)) (by kernel_rfl) (by kernel_rfl) (Quiet.does (k_load 0 0 (by kernel_rfl) Try.underlying4 (by kernel_rfl) (by kernel_rfl))) ?_
                    refine oOp (.d (.bool (!r121))) (by kernel_rfl) (by kernel_rfl) (PureV.does (p_not (p := r121) (by kernel_rfl) (by kernel_rfl))) ?_
                    refine oOp (.d (.bool (!r121))) (by kernel_rfl) (by kernel_rfl) (PureV.does (p_pick (b := false) (by kernel_rfl) (by kernel_rfl))) ?_
                    refine oHead [4, 6, 7, 8, 121] [0, 1] (T' := [(4, .ptr 0 0), (6, .ptr 1 0), (7, .d (.int .i64 hi5)), (8, .d (.int .i64 level5)), (121, .d (.bool (!r121)))]) (H' := [.box [.d (.bool r121), .d (.int .i64 r131)], .box [.d (.int .i64 r185), .d (.int .i64 r1107)]]) (by kernel_rfl) (by kernel_rfl) (by kernel_rfl) (by kernel_rfl) (by decide) (by kernel_rfl) (by kernel_rfl) ?_
                    exact hj25 (!r121)
          · refine bSplit 72 (by kernel_rfl) (fun hc => ?_) (fun hc => ?_)
            · refine oNot (by kernel_rfl) (by kernel_rfl) ?_
              refine oNot (by kernel_rfl) (by kernel_rfl) ?_
              refine oNot (by kernel_rfl) (by kernel_rfl) ?_
              refine oNot (by kernel_rfl) (by kernel_rfl) ?_
              refine oNot (by kernel_rfl) (by kernel_rfl) ?_
              refine oNot (by kernel_rfl) (by kernel_rfl) ?_
              refine oNot (by kernel_rfl) (by kernel_rfl) ?_
              refine oNot (by kernel_rfl) (by kernel_rfl) ?_
              refine oNot (by kernel_rfl) (by kernel_rfl) ?_
              refine oNot (by kernel_rfl) (by kernel_rfl) ?_
              refine oNot (by kernel_rfl) (by kernel_rfl) ?_
              refine oNot (by kernel_rfl) (by kernel_rfl) ?_
              refine oNot (by kernel_rfl) (by kernel_rfl) ?_
              refine oNot (by kernel_rfl) (by kernel_rfl) ?_
              refine oNot (by kernel_rfl) (by kernel_rfl) ?_
              refine oOp (.d (.bool true)) (by kernel_rfl) (by kernel_rfl) (PureV.does (p_pick (b := true) (by kernel_rfl) (by kernel_rfl))) ?_
              refine oHead [4, 5, 6, 7, 8, 9, 88] [0, 1] (T' := [(4, .ptr 0 0), (5, .d (.lit (List.map e_SGiven r1106))), (6, .ptr 1 0), (7, .d (.int .i64 hi5)), (8, .d (.int .i64 level5)), (9, .d (.int .i64 x30)), (88, .d (.bool true))]) (H' := [.box [.d (.bool r121), .d (.int .i64 r131)], .box [.d (.int .i64 r185), .d (.int .i64 r1107)]]) (by kernel_rfl) (by kernel_rfl) (by kernel_rfl) (by kernel_rfl) (by decide) (by kernel_rfl) (by kernel_rfl) ?_
              exact hj28 true
            · refine oOp (.d (.int .i64 x30)) (by kernel_rfl) (by kernel_rfl) (PureV.does (p_move (by kernel_rfl))) ?_
              refine oOp (.d (.bool (decide (x30 < 2)))) (by kernel_rfl) (by kernel_rfl) (PureV.does (p_int (k := .i64) (p := x30) (q := 2) (by kernel_rfl) (by kernel_rfl) (by kernel_rfl))) ?_
              refine oOp (.d (.bool (decide (x30 < 2)))) (by kernel_rfl) (by kernel_rfl) (PureV.does (p_move (by kernel_rfl))) ?_
              refine bMeetF (H' := [.box [.d (.bool r121), .d (.int .i64 r131)], .box [.d (.int .i64 r185), .d (.int .i64 r1107)]]) 4 rfl ((fun (x53 : Bool) => [(4, .ptr 0 0), (5, .d (.lit (List.map e_SGiven r1106))), (6, .ptr 1 0), (7, .d (.int .i64 hi5)), (8, .d (.int .i64 level5)), (9, .d (.int .i64 x30)), (72, .d (.bool false)), (79, .d (.bool x53))])) (fun x53 => ?_) (fun F hj29 => ?_)
              · refine oView (T' := [(4, .ptr 0 0), (5, .d (.lit (List.map e_SGiven r1106))), (6, .ptr 1 0), (7, .d (.int .i64 hi5)), (8, .d (.int .i64 level5)), (9, .d (.int .i64 x30)), (72, .d (.bool false)), (79, .d (.bool x53))]) (H' := [.box [.d (.bool r121), .d (.int .i64 r131)], .box [.d (.int .i64 r185), .d (.int .i64 r1107)]]) (by kernel_rfl) (by kernel_rfl) ?_
                refine oOp (.d (.bool x53)) (by kernel_rfl) (by kernel_rfl) (PureV.does (p_move (by kernel_rfl))) ?_
                refine bMeet 7 rfl ((fun (x54 : Bool) => [(4, .ptr 0 0), (5, .d (.lit (List.map e_SGiven r1106))), (6, .ptr 1 0), (7, .d (.int .i64 hi5)), (8, .d (.int .i64 level5)), (9, .d (.int .i64 x30)), (72, .d (.bool false)), (87, .d (.bool x54))])) ((fun (x54 : Bool) => [.box [.d (.bool r121), .d (.int .i64 r131)], .box [.d (.int .i64 r185), .d (.int .i64 r1107)]])) (fun s => s) (fun x54 => ?_) (fun hj30 => ?_)
                · refine oView (T' := [(4, .ptr 0 0), (5, .d (.lit (List.map e_SGiven r1106))), (6, .ptr 1 0), (7, .d (.int .i64 hi5)), (8, .d (.int .i64 level5)), (9, .d (.int .i64 x30)), (72, .d (.bool false)), (87, .d (.bool x54))]) (H' := [.box [.d (.bool r121), .d (.int .i64 r131)], .box [.d (.int .i64 r185), .d (.int .i64 r1107)]]) (by kernel_rfl) (by kernel_rfl) ?_
                  refine oOp (.d (.bool x54)) (by kernel_rfl) (by kernel_rfl) (PureV.does (p_pick (b := false) (by kernel_rfl) (by kernel_rfl))) ?_
                  refine oHead [4, 5, 6, 7, 8, 9, 88] [0, 1] (T' := [(4, .ptr 0 0), (5, .d (.lit (List.map e_SGiven r1106))), (6, .ptr 1 0), (7, .d (.int .i64 hi5)), (8, .d (.int .i64 level5)), (9, .d (.int .i64 x30)), (88, .d (.bool x54))]) (H' := [.box [.d (.bool r121), .d (.int .i64 r131)], .box [.d (.int .i64 r185), .d (.int .i64 r1107)]]) (by kernel_rfl) (by kernel_rfl) (by kernel_rfl) (by kernel_rfl) (by decide) (by kernel_rfl) (by kernel_rfl) ?_
                  exact hj28 x54
                · refine bSplit 80 (by kernel_rfl) (fun hc => ?_) (fun hc => ?_)
                  · refine oOp (.d (.int .i64 level5)) (by kernel_rfl) (by kernel_rfl) (PureV.does (p_move (by kernel_rfl))) ?_
                    refine oOp (.d (.int .i64 hi5)) (by kernel_rfl) (by kernel_rfl) (PureV.does (p_move (by kernel_rfl))) ?_
                    refine oOp (.d (.int .i64 (IntKind.wrap .i64 (level5 - hi5)))) (by kernel_rfl) (by kernel_rfl) (PureV.does (p_int (k := .i64) (p := level5) (q := hi5) (by kernel_rfl) (by kernel_rfl) (by kernel_rfl))) ?_
                    refine oOp (.ptr 0 1) (by kernel_rfl) (by kernel_rfl) (PureV.does (k_fieldAddr 0 0 (by kernel_rfl) Try.underlying28 rfl ty3 (by kernel_rfl))) ?_
                    refine oOp (.d (.int .i64 r131)) (by kernel_rfl) (by kernel_rfl) (Quiet.does (k_load 0 1 (by kernel_rfl) Try.underlying3 (by kernel_rfl) (by kernel_rfl))) ?_
                    refine oOp (.d (.bool (decide ((IntKind.wrap .i64 (level5 - hi5)) > r131)))) (by kernel_rfl) (by kernel_rfl) (PureV.does (p_int (k := .i64) (p := (IntKind.wrap .i64 (level5 - hi5))) (q := r131) (by kernel_rfl) (by kernel_rfl) (by kernel_rfl))) ?_
                    refine oOp (.d (.bool (decide ((IntKind.wrap .i64 (level5 - hi5)) > r131)))) (by kernel_rfl) (by kernel_rfl) (PureV.does (p_pick (b := true) (by kernel_rfl) (by kernel_rfl))) ?_
                    refine oHead [4, 5, 6, 7, 8, 9, 72, 87] [0, 1] (T' := [(4, .ptr 0 0), (5, .d (.lit (List.map e_SGiven r1106))), (6, .ptr 1 0), (7, .d (.int .i64 hi5)), (8, .d (.int .i64 level5)), (9, .d (.int .i64 x30)), (72, .d (.bool false)), (87, .d (.bool (decide ((IntKind.wrap .i64 (level5 - hi5)) > r131))))]) (H' := [.box [.d (.bool r121), .d (.int .i64 r131)], .box [.d (.int .i64 r185), .d (.int .i64 r1107)]]) (by kernel_rfl) (by kernel_rfl) (by kernel_rfl) (by kernel_rfl) (by decide) (by kernel_rfl) (by kernel_rfl) ?_
                    exact hj30 (decide ((IntKind.wrap .i64 (level5 - hi5)) > r131))
                  · refine oNot (by kernel_rfl) (by kernel_rfl) ?_
                    refine oNot (by kernel_rfl) (by kernel_rfl) ?_
                    refine oNot (by kernel_rfl) (by kernel_rfl) ?_
                    refine oNot (by kernel_rfl) (by kernel_rfl) ?_
                    refine oNot (by kernel_rfl) (by kernel_rfl) ?_
                    refine oNot (by kernel_rfl) (by kernel_rfl) ?_
                    refine oOp (.d (.bool false)) (by kernel_rfl) (by kernel_rfl) (PureV.does (p_pick (b := false) (by kernel_rfl) (by kernel_rfl))) ?_
                    refine oHead [4, 5, 6, 7, 8, 9, 72, 87] [0, 1] (T' := [(4, .ptr 0 0), (5, .d (.lit (List.map e_SGiven r1106))), (6, .ptr 1 0), (7, .d (.int .i64 hi5)), (8, .d (.int .i64 level5)), (9, .d (.int .i64 x30)), (72, .d (.bool false)), (87, .d (.bool false))]) (H' := [.box [.d (.bool r121), .d (.int .i64 r131)], .box [.d (.int .i64 r185), .d (.int .i64 r1107)]]) (by kernel_rfl) (by kernel_rfl) (by kernel_rfl) (by kernel_rfl) (by decide) (by kernel_rfl) (by kernel_rfl) ?_
                    exact hj30 false
              · refine bPickF 75 (fun c => F (c && (decide (((List.length r1106) : Int) > 1)))) (by kernel_rfl) (fun hc => ?_) (fun hc => ?_)
                · refine oOp (.d (.lit (List.map e_SGiven r1106))) (by kernel_rfl) (by kernel_rfl) (PureV.does (p_move (by kernel_rfl))) ?_
                  refine oOp (.d (.int .i64 ((List.length r1106) : Int))) (by kernel_rfl) (by kernel_rfl) (PureV.does (k_lenLit (enc := e_SGiven) r1106 (by kernel_rfl) Try.underlying30)) ?_
                  refine oOp (.d (.bool (decide (((List.length r1106) : Int) > 1)))) (by kernel_rfl) (by kernel_rfl) (PureV.does (p_int (k := .i64) (p := ((List.length r1106) : Int)) (q := 1) (by kernel_rfl) (by kernel_rfl) (by kernel_rfl))) ?_
                  refine oOp (.d (.bool (decide (((List.length r1106) : Int) > 1)))) (by kernel_rfl) (by kernel_rfl) (PureV.does (p_pick (b := true) (by kernel_rfl) (by kernel_rfl))) ?_
                  refine oHead [4, 5, 6, 7, 8, 9, 72, 79] [0, 1] (T' := [(4, .ptr 0 0), (5, .d (.lit (List.map e_SGiven r1106))), (6, .ptr 1 0), (7, .d (.int .i64 hi5)), (8, .d (.int .i64 level5)), (9, .d (.int .i64 x30)), (72, .d (.bool false)), (79, .d (.bool (decide (((List.length r1106) : Int) > 1))))]) (H' := [.box [.d (.bool r121), .d (.int .i64 r131)], .box [.d (.int .i64 r185), .d (.int .i64 r1107)]]) (by kernel_rfl) (by kernel_rfl) (by kernel_rfl) (by kernel_rfl) (by decide) (by kernel_rfl) (by kernel_rfl) ?_
                  exact hj29 (decide (((List.length r1106) : Int) > 1))
                · refine oNot (by kernel_rfl) (by kernel_rfl) ?_
                  refine oNot (by kernel_rfl) (by kernel_rfl) ?_
                  refine oNot (by kernel_rfl) (by kernel_rfl) ?_
                  refine oOp (.d (.bool false)) (by kernel_rfl) (by kernel_rfl) (PureV.does (p_pick (b := false) (by kernel_rfl) (by kernel_rfl))) ?_
                  refine oHead [4, 5, 6, 7, 8, 9, 72, 79] [0, 1] (T' := [(4, .ptr 0 0), (5, .d (.lit (List.map e_SGiven r1106))), (6, .ptr 1 0), (7, .d (.int .i64 hi5)), (8, .d (.int .i64 level5)), (9, .d (.int .i64 x30)), (72, .d (.bool false)), (79, .d (.bool false))]) (H' := [.box [.d (.bool r121), .d (.int .i64 r131)], .box [.d (.int .i64 r185), .d (.int .i64 r1107)]]) (by kernel_rfl) (by kernel_rfl) (by kernel_rfl) (by kernel_rfl) (by decide) (by kernel_rfl) (by kernel_rfl) ?_
                  exact hj29 false
        · refine bPickF 66 (fun c => F (c || (decide (r1107 > level5)))) (by kernel_rfl) (fun hc => ?_) (fun hc => ?_)
          · refine oNot (by kernel_rfl) (by kernel_rfl) ?_
            refine oNot (by kernel_rfl) (by kernel_rfl) ?_
            refine oNot (by kernel_rfl) (by kernel_rfl) ?_
            refine oNot (by kernel_rfl) (by kernel_rfl) ?_
            refine oOp (.d (.bool true)) (by kernel_rfl) (by kernel_rfl) (PureV.does (p_pick (b := true) (by kernel_rfl) (by kernel_rfl))) ?_
            refine oHead [4, 5, 6, 7, 8, 9, 71] [0, 1] (T' := [(4, .ptr 0 0), (5, .d (.lit (List.map e_SGiven r1106))), (6, .ptr 1 0), (7, .d (.int .i64 hi5)), (8, .d (.int .i64 level5)), (9, .d (.int .i64 x30)), (71, .d (.bool true))]) (H' := [.box [.d (.bool r121), .d (.int .i64 r131)], .box [.d (.int .i64 r185), .d (.int .i64 r1107)]]) (by kernel_rfl) (by kernel_rfl) (by kernel_rfl) (by kernel_rfl) (by decide) (by kernel_rfl) (by kernel_rfl) ?_
            exact hj13 true
          · refine oOp (.ptr 1 1) (by kernel_rfl) (by kernel_rfl) (PureV.does (k_fieldAddr 1 0 (by kernel_rfl) Try.underlying33 rfl ty3 (by kernel_rfl))) ?_
            refine oOp (.d (.int .i64 r1107)) (by kernel_rfl) (by kernel_rfl) (Quiet.does (k_load 1 1 (by kernel_rfl) Try.underlying3 (by kernel_rfl) (by kernel_rfl))) ?_
            refine oOp (.d (.int .i64 level5)) (by kernel_rfl) (by kernel_rfl) (PureV.does (p_move (by kernel_rfl))) ?_
            refine oOp (.d (.bool (decide (r1107 > level5)))) (by kernel_rfl) (by kernel_rfl) (PureV.does (p_int (k := .i64) (p := r1107) (q := level5) (by kernel_rfl) (by kernel_rfl) (by kernel_rfl))) ?_
            refine oOp (.d (.bool (decide (r1107 > level5)))) (by kernel_rfl) (by kernel_rfl) (PureV.does (p_pick (b := false) (by kernel_rfl) (by kernel_rfl))) ?_
            refine oHead [4, 5, 6, 7, 8, 9, 71] [0, 1] (T' := [(4, .ptr 0 0), (5, .d (.lit (List.map e_SGiven r1106))), (6, .ptr 1 0), (7, .d (.int .i64 hi5)), (8, .d (.int .i64 level5)), (9, .d (.int .i64 x30)), (71, .d (.bool (decide (r1107 > level5))))]) (H' := [.box [.d (.bool r121), .d (.int .i64 r131)], .box [.d (.int .i64 r185), .d (.int .i64 r1107)]]) (by kernel_rfl) (by kernel_rfl) (by kernel_rfl) (by kernel_rfl) (by decide) (by kernel_rfl) (by kernel_rfl) ?_
            exact hj13 (decide (r1107 > level5))
    · refine oBlock ?_
      refine oLoop ?_
      refine oHead [4, 5, 6, 7, 8, 9, 28, 29, 30] [1, 2] (T' := [(4, .ptr 0 0), (5, .d (.lit (List.map e_SGiven r1106))), (6, .ptr 1 0), (7, .d (.int .i64 99)), (8, .d (.int .i64 (-1))), (9, .d (.int .i64 0)), (28, .d (.lit (List.map e_SGiven r1106))), (29, .d (.int .i64 ((List.length r1106) : Int))), (30, .d (.int .i64 0))]) (H' := [.box [.d (.bool r121), .d (.int .i64 r131)], .box [.d (.int .i64 r185), .d (.int .i64 r1107)]]) (by kernel_rfl) (by kernel_rfl) (by kernel_rfl) (by kernel_rfl) (by decide) (by kernel_rfl) (by kernel_rfl) ?_
      refine bLoop (body := law30_ArbitrationBetween_b2 k r1106) ((uc fun (hi6 : Int) => (uc fun (level6 : Int) => (uc fun (x55 : Int) => (fun (x56 : Int) => [(4, .ptr 0 0), (5, .d (.lit (List.map e_SGiven r1106))), (6, .ptr 1 0), (7, .d (.int .i64 hi6)), (8, .d (.int .i64 level6)), (9, .d (.int .i64 x55)), (28, .d (.lit (List.map e_SGiven r1106))), (29, .d (.int .i64 ((List.length r1106) : Int))), (30, .d (.int .i64 x56))]))))) ((uc fun (hi6 : Int) => (uc fun (level6 : Int) => (uc fun (x55 : Int) => (fun (x56 : Int) => [.box [.d (.bool r121), .d (.int .i64 r131)], .box [.d (.int .i64 r185), .d (.int .i64 r1107)]]))))) (fun again hag2 s => ?_) k (99, (-1), 0, 0)
      · unfold law30_ArbitrationBetween_b2
        obtain ⟨hi6, level6, x55, x56⟩ := s
        refine bUc ?_
        refine bUc ?_
        refine bUc ?_
        refine oView (T' := [(4, .ptr 0 0), (5, .d (.lit (List.map e_SGiven r1106))), (6, .ptr 1 0), (7, .d (.int .i64 hi6)), (8, .d (.int .i64 level6)), (9, .d (.int .i64 x55)), (28, .d (.lit (List.map e_SGiven r1106))), (29, .d (.int .i64 ((List.length r1106) : Int))), (30, .d (.int .i64 x56))]) (H' := [.box [.d (.bool r121), .d (.int .i64 r131)], .box [.d (.int .i64 r185), .d (.int .i64 r1107)]]) (by kernel_rfl) (by kernel_rfl) ?_
        refine oSeq ?_
        refine oRegion rfl ?_
        refine oOp (.d (.bool (decide (x56 < ((List.length r1106) : Int))))) (by kernel_rfl) (by kernel_rfl) (PureV.does (p_int (k := .i64) (p := x56) (q := ((List.length r1106) : Int)) (by kernel_rfl) (by kernel_rfl) (by kernel_rfl))) ?_
        refine oEnd ?_
        refine oSeq ?_
        refine bSplit 31 (by kernel_rfl) (fun hc => ?_) (fun hc => ?_)
        · refine oCondT (by kernel_rfl) ?_
          refine oSkip ?_
          refine oSeq ?_
          refine oBlock ?_
          refine oSeq ?_
          refine oRegion rfl ?_
          refine bIdx (fun e125 h162 h163 => ?_)
          refine oOp (.lptr (e_SGiven e125) 0) (by kernel_rfl) (by kernel_rfl) (PureV.does (k_idxLit e_SGiven_len r1106 (a := e125) (by kernel_rfl) (k := .i64) (i := x56) (by kernel_rfl) Try.underlying30 ty38 h162 h163)) ?_
          refine oOp (.agg [.d (.int .i64 e125.Script), .d (.int .i64 e125.Part), .d (.int .i64 e125.Marker), .d (.int .i64 e125.Level), .d (.int .i64 e125.Value), .d (.int .i64 e125.Stamp_Time), .d (.int .i64 e125.Stamp_Source), .d (.int .i64 e125.Stamp_Seq)]) (by kernel_rfl) (by kernel_rfl) (Quiet.does (k_loadLAgg (cells := e_SGiven e125) 0 [(.int .i64 e125.Script), (.int .i64 e125.Part), (.int .i64 e125.Marker), (.int .i64 e125.Level), (.int .i64 e125.Value), (.int .i64 e125.Stamp_Time), (.int .i64 e125.Stamp_Source), (.int .i64 e125.Stamp_Seq)] (by kernel_rfl) Try.underlying38 (by kernel_rfl) ty38 (by kernel_rfl) (by kernel_rfl) (by kernel_rfl))) ?_
          refine oOp (.ptr 2 0) (by kernel_rfl) (by kernel_rfl) (k_alloc (H' := [.box [.d (.bool r121), .d (.int .i64 r131)], .box [.d (.int .i64 r185), .d (.int .i64 r1107)], .box [.d (.int .i64 0), .d (.int .i64 0), .d (.int .i64 0), .d (.int .i64 0), .d (.int .i64 0), .d (.int .i64 0), .d (.int .i64 0), .d (.int .i64 0)]]) ty38 (by kernel_rfl) (by kernel_rfl)) ?_
          refine oOp (.undef) (by kernel_rfl) (by kernel_rfl) (k_store (vs := [.d (.int .i64 e125.Script), .d (.int .i64 e125.Part), .d (.int .i64 e125.Marker), .d (.int .i64 e125.Level), .d (.int .i64 e125.Value), .d (.int .i64 e125.Stamp_Time), .d (.int .i64 e125.Stamp_Source), .d (.int .i64 e125.Stamp_Seq)]) (H' := [.box [.d (.bool r121), .d (.int .i64 r131)], .box [.d (.int .i64 r185), .d (.int .i64 r1107)], .box [.d (.int .i64 e125.Script), .d (.int .i64 e125.Part), .d (.int .i64 e125.Marker), .d (.int .i64 e125.Level), .d (.int .i64 e125.Value), .d (.int .i64 e125.Stamp_Time), .d (.int .i64 e125.Stamp_Source), .d (.int .i64 e125.Stamp_Seq)]]) 2 0 (by kernel_rfl) ty38 (by kernel_rfl) (by kernel_rfl) (by kernel_rfl)) ?_
          refine oEnd ?_
          refine oDraw [0, 1, 2] rfl ?_
          refine aTakeL (i := 0) (st' := []) (.d (.int .i64 hi6)) rfl (by kernel_rfl) (by kernel_rfl) (by kernel_rfl) (by kernel_rfl) (by kernel_rfl) (by kernel_rfl) (by kernel_rfl) (PureV.quiet (p_move (by kernel_rfl)) []) ?_
          refine aTakeL (i := 1) (st' := []) (.ptr 2 4) rfl (by kernel_rfl) (by kernel_rfl) (by kernel_rfl) (by kernel_rfl) (by kernel_rfl) (by kernel_rfl) (by kernel_rfl) (PureV.quiet (k_fieldAddr 2 0 (by kernel_rfl) Try.underlying38 rfl ty3 (by kernel_rfl)) []) ?_
          refine aTakeL (i := 2) (st' := [2]) (.d (.int .i64 e125.Value)) rfl (by kernel_rfl) (by kernel_rfl) (by kernel_rfl) (by kernel_rfl) (by kernel_rfl) (by kernel_rfl) (by kernel_rfl) (k_load 2 4 (by kernel_rfl) Try.underlying3 (by kernel_rfl) (by kernel_rfl)) ?_
          refine aTakeL (i := 3) (st' := []) (.d (.int .i64 (gmax e125.Value 0))) rfl (by kernel_rfl) (by kernel_rfl) (by kernel_rfl) (by kernel_rfl) (by kernel_rfl) (by kernel_rfl) (by kernel_rfl) (PureV.quiet (p_max2 (k := .i64) (p := e125.Value) (q := 0) (by kernel_rfl) (by kernel_rfl) (by kernel_rfl)) []) ?_
          refine aTakeL (i := 4) (st' := []) (.d (.int .i64 (gmin hi6 (gmax e125.Value 0)))) rfl (by kernel_rfl) (by kernel_rfl) (by kernel_rfl) (by kernel_rfl) (by kernel_rfl) (by kernel_rfl) (by kernel_rfl) (PureV.quiet (p_min2 (k := .i64) (p := hi6) (q := (gmax e125.Value 0)) (by kernel_rfl) (by kernel_rfl) (by kernel_rfl)) []) ?_
          refine aTakeL (i := 5) (st' := []) (.d (.int .i64 level6)) rfl (by kernel_rfl) (by kernel_rfl) (by kernel_rfl) (by kernel_rfl) (by kernel_rfl) (by kernel_rfl) (by kernel_rfl) (PureV.quiet (p_move (by kernel_rfl)) []) ?_
          refine aTakeL (i := 6) (st' := []) (.ptr 2 4) rfl (by kernel_rfl) (by kernel_rfl) (by kernel_rfl) (by kernel_rfl) (by kernel_rfl) (by kernel_rfl) (by kernel_rfl) (PureV.quiet (k_fieldAddr 2 0 (by kernel_rfl) Try.underlying38 rfl ty3 (by kernel_rfl)) []) ?_
          refine aTakeL (i := 7) (st' := [2]) (.d (.int .i64 e125.Value)) rfl (by kernel_rfl) (by kernel_rfl) (by kernel_rfl) (by kernel_rfl) (by kernel_rfl) (by kernel_rfl) (by kernel_rfl) (k_load 2 4 (by kernel_rfl) Try.underlying3 (by kernel_rfl) (by kernel_rfl)) ?_
          refine aTakeL (i := 8) (st' := []) (.d (.int .i64 (gmax e125.Value 0))) rfl (by kernel_rfl) (by kernel_rfl) (by kernel_rfl) (by kernel_rfl) (by kernel_rfl) (by kernel_rfl) (by kernel_rfl) (PureV.quiet (p_max2 (k := .i64) (p := e125.Value) (q := 0) (by kernel_rfl) (by kernel_rfl) (by kernel_rfl)) []) ?_
          refine aTakeL (i := 9) (st' := []) (.d (.int .i64 (gmax level6 (gmax e125.Value 0)))) rfl (by kernel_rfl) (by kernel_rfl) (by kernel_rfl) (by kernel_rfl) (by kernel_rfl) (by kernel_rfl) (by kernel_rfl) (PureV.quiet (p_max2 (k := .i64) (p := level6) (q := (gmax e125.Value 0)) (by kernel_rfl) (by kernel_rfl) (by kernel_rfl)) []) ?_
          refine aTakeL (i := 10) (st' := []) (.d (.int .i64 x55)) rfl (by kernel_rfl) (by kernel_rfl) (by kernel_rfl) (by kernel_rfl) (by kernel_rfl) (by kernel_rfl) (by kernel_rfl) (PureV.quiet (p_move (by kernel_rfl)) []) ?_
          refine aTakeL (i := 11) (st' := []) (.ptr 2 3) rfl (by kernel_rfl) (by kernel_rfl) (by kernel_rfl) (by kernel_rfl) (by kernel_rfl) (by kernel_rfl) (by kernel_rfl) (PureV.quiet (k_fieldAddr 2 0 (by kernel_rfl) Try.underlying38 rfl ty3 (by kernel_rfl)) []) ?_
          refine aTakeL (i := 12) (st' := [2]) (.d (.int .i64 e125.Level)) rfl (by kernel_rfl) (by kernel_rfl) (by kernel_rfl) (by kernel_rfl) (by kernel_rfl) (by kernel_rfl) (by kernel_rfl) (k_load 2 3 (by kernel_rfl) Try.underlying3 (by kernel_rfl) (by kernel_rfl)) ?_
          refine aTakeL (i := 13) (st' := []) (.d (.int .i64 (gmax x55 e125.Level))) rfl (by kernel_rfl) (by kernel_rfl) (by kernel_rfl) (by kernel_rfl) (by kernel_rfl) (by kernel_rfl) (by kernel_rfl) (PureV.quiet (p_max2 (k := .i64) (p := x55) (q := e125.Level) (by kernel_rfl) (by kernel_rfl) (by kernel_rfl)) []) ?_
          refine aTakeL (i := 14) (st' := []) (.d (.int .i64 (gmin hi6 (gmax e125.Value 0)))) rfl (by kernel_rfl) (by kernel_rfl) (by kernel_rfl) (by kernel_rfl) (by kernel_rfl) (by kernel_rfl) (by kernel_rfl) (PureV.quiet (p_assign (by kernel_rfl)) []) ?_
          refine aTakeL (i := 15) (st' := []) (.d (.int .i64 (gmax level6 (gmax e125.Value 0)))) rfl (by kernel_rfl) (by kernel_rfl) (by kernel_rfl) (by kernel_rfl) (by kernel_rfl) (by kernel_rfl) (by kernel_rfl) (PureV.quiet (p_assign (by kernel_rfl)) []) ?_
          refine aTakeL (i := 16) (st' := []) (.d (.int .i64 (gmax x55 e125.Level))) rfl (by kernel_rfl) (by kernel_rfl) (by kernel_rfl) (by kernel_rfl) (by kernel_rfl) (by kernel_rfl) (by kernel_rfl) (PureV.quiet (p_assign (by kernel_rfl)) []) ?_
          refine aDone (by kernel_rfl) ?_
          refine oBlk ?_
          refine oRegion rfl ?_
          refine oOp (.d (.int .i64 (IntKind.wrap .i64 (x56 + 1)))) (by kernel_rfl) (by kernel_rfl) (PureV.does (p_int (k := .i64) (p := x56) (q := 1) (by kernel_rfl) (by kernel_rfl) (by kernel_rfl))) ?_
          refine oOp (.d (.int .i64 (IntKind.wrap .i64 (x56 + 1)))) (by kernel_rfl) (by kernel_rfl) (PureV.does (p_move (by kernel_rfl))) ?_
          refine oEnd ?_
          refine oAgain ?_
          refine oHead [4, 5, 6, 7, 8, 9, 28, 29, 30] [0, 1] (T' := [(4, .ptr 0 0), (5, .d (.lit (List.map e_SGiven r1106))), (6, .ptr 1 0), (7, .d (.int .i64 (gmin hi6 (gmax e125.Value 0)))), (8, .d (.int .i64 (gmax level6 (gmax e125.Value 0)))), (9, .d (.int .i64 (gmax x55 e125.Level))), (28, .d (.lit (List.map e_SGiven r1106))), (29, .d (.int .i64 ((List.length r1106) : Int))), (30, .d (.int .i64 (IntKind.wrap .i64 (x56 + 1))))]) (H' := [.box [.d (.bool r121), .d (.int .i64 r131)], .box [.d (.int .i64 r185), .d (.int .i64 r1107)]]) (by kernel_rfl) (by kernel_rfl) (by kernel_rfl) (by kernel_rfl) (by decide) (by kernel_rfl) (by kernel_rfl) ?_
          exact hag2 ((gmin hi6 (gmax e125.Value 0)), (gmax level6 (gmax e125.Value 0)), (gmax x55 e125.Level), (IntKind.wrap .i64 (x56 + 1)))
        · refine oCondF (by kernel_rfl) ?_
          refine oExit rfl ?_
          refine oHead [4, 5, 6, 7, 8, 9] [0, 1] (T' := [(4, .ptr 0 0), (5, .d (.lit (List.map e_SGiven r1106))), (6, .ptr 1 0), (7, .d (.int .i64 hi6)), (8, .d (.int .i64 level6)), (9, .d (.int .i64 x55))]) (H' := [.box [.d (.bool r121), .d (.int .i64 r131)], .box [.d (.int .i64 r185), .d (.int .i64 r1107)]]) (by kernel_rfl) (by kernel_rfl) (by kernel_rfl) (by kernel_rfl) (by decide) (by kernel_rfl) (by kernel_rfl) ?_
          exact hj10 (hi6, level6, x55)

/-- awardingbody/awardingbodylaw30.ArbitrationRises -/
def law30_ArbitrationRises (k : Nat) (t : (List Int)) (k1 : Int) (n : Int) : Option (Bool) := Option.bind (mark_Light k t) (u0 (bif (!(decide (((List.length t) : Int) ≤ 600))) then Option.bind (law30_sane k) (fun r111 => some r111) else Option.bind (mark_Roll k t) (u0 (Option.bind (mark_Dice_Rule k t 0) (uc fun r121 => uc fun r131 => fun x31 => Option.bind (law30_few k t x31) (uc fun r1105 => fun x91 => bif (((List.length r1105) : Int) == 0) then Option.bind (law30_sane k) (fun r113 => some r113) else gcap (List.length r1105) 64 (gnz ((List.length r1105) : Int) (gidx r1105 (Int.tmod (IntKind.wrap .i64 k1) ((List.length r1105) : Int)) fun e11 => blet (List.set r1105 (Int.toNat (Int.tmod (IntKind.wrap .i64 k1) ((List.length r1105) : Int))) (⟨e11.Script, e11.Part, e11.Marker, e11.Level, (IntKind.wrap .i64 (e11.Value + (IntKind.wrap .i64 (Int.tmod n 5)))), e11.Stamp_Time, e11.Stamp_Source, e11.Stamp_Seq⟩ : SGiven)) fun xs1 => Option.bind (arbitration_Decide k r121 r131 r1105) (uc fun r186 => fun r1108 => Option.bind (arbitration_Decide k r121 r131 xs1) (uc fun r187 => fun r1109 => blet ((r186 != 3) || (r187 != 3)) fun x4 => blet (x4 || (decide (r1109 ≥ r1108))) fun x5 => Option.bind (bif x5 then Option.bind (law30_sane k) (fun r115 => some r115) else some false : Option (Bool)) (fun x6 => some x6)))))))))))
def law30_ArbitrationRises_E (t : (List Int)) (k1 : Int) (n : Int) : Bool → V × List Blk := fun r17 => (.d (.bool r17), [])
theorem law30_ArbitrationRises_goes (k : Nat) (t : (List Int)) (k1 : Int) (n : Int) : RunsO Try.prog 5 [.d (.lit (List.map e_i64 t)), .d (.int .u8 k1), .d (.int .u8 n)] [] (law30_ArbitrationRises_E t k1 n) (law30_ArbitrationRises k t k1 n) := by
  refine RunsO.of_goes (N := 68) (m := 0) (T := [(0, .d (.lit (List.map e_i64 t))), (1, .d (.int .u8 k1)), (2, .d (.int .u8 n))]) Try.func5 rfl rfl (by kernel_rfl) (by kernel_rfl) (by kernel_rfl) ?_
  unfold law30_ArbitrationRises
  refine bStart ?_
  refine oSeq ?_
  refine oRegion rfl ?_
  refine oOp (.d (.bool false)) (by kernel_rfl) (by kernel_rfl) (PureV.does (p_assign (by kernel_rfl))) ?_
  refine oEnd ?_
  refine oSeq ?_
  refine oSeq ?_
  refine oRegion rfl ?_
  refine oOp (.d (.lit (List.map e_i64 t))) (by kernel_rfl) (by kernel_rfl) (PureV.does (p_move (by kernel_rfl))) ?_
  refine bCall (caps := []) (v := (u0 ((.d (.bool (decide (((List.length t) : Int) ≤ 600))) : V)))) (H' := (u0 (([] : List Blk)))) [] _ (mark_Light_goes k t) (by kernel_rfl) (by kernel_rfl) rfl (by kernel_rfl) Try.func8 rfl (by kernel_rfl) (ConvRs.refl _ _) (by kernel_rfl) (by kernel_rfl) (by kernel_rfl) (by decide) (by kernel_rfl) (by kernel_rfl) (fun _ => (by kernel_rfl)) (fun _ => (by kernel_rfl)) (fun _ => (by kernel_rfl)) (fun r => ?_)
  cases r
  refine bU0 ?_
  refine oOp (.d (.bool (!(decide (((List.length t) : Int) ≤ 600))))) (by kernel_rfl) (by kernel_rfl) (PureV.does (p_not (p := (decide (((List.length t) : Int) ≤ 600))) (by kernel_rfl) (by kernel_rfl))) ?_
  refine oEnd ?_
  refine bSplit 15 (by kernel_rfl) (fun hc => ?_) (fun hc => ?_)
  · refine oCondT (by kernel_rfl) ?_
    refine oSeq ?_
    refine oRegion rfl ?_
    refine bCall (caps := []) (v := (fun (r111 : Bool) => (.d (.bool r111) : V))) (H' := (fun (r111 : Bool) => ([] : List Blk))) [] _ (law30_sane_goes k ) (by kernel_rfl) (by kernel_rfl) rfl (by kernel_rfl) Try.func9 rfl (by kernel_rfl) (ConvRs.refl _ _) (by kernel_rfl) (by kernel_rfl) (by kernel_rfl) (by decide) (by kernel_rfl) (by kernel_rfl) (fun _ => (by kernel_rfl)) (fun _ => (by kernel_rfl)) (fun _ => (by kernel_rfl)) (fun r111 => ?_)
    refine oOp (.d (.bool r111)) (by kernel_rfl) (by kernel_rfl) (PureV.does (p_assign (by kernel_rfl))) ?_
    refine oEnd ?_
    exact oRet (r0 := r111) (rv := .d (.bool r111)) (B := []) (vs := [.d (.bool r111)]) (σ := []) (by kernel_rfl) Try.func5 rfl (.cons _ _ _ _ (.tmp 6 _ (by kernel_rfl)) .nil) (by kernel_rfl) (by kernel_rfl) (by kernel_rfl) (by kernel_rfl) (by decide) (by kernel_rfl) (by kernel_rfl)
  · refine oCondF (by kernel_rfl) ?_
    refine oSkip ?_
    refine oSeq ?_
    refine oRegion rfl ?_
    refine oOp (.d (.lit (List.map e_i64 t))) (by kernel_rfl) (by kernel_rfl) (PureV.does (p_move (by kernel_rfl))) ?_
    refine bCall (caps := []) (v := (u0 ((.ptr 0 0 : V)))) (H' := (u0 (([.box [.d (.lit (List.map e_i64 t)), .d (.int .i64 0)]] : List Blk)))) [] _ (mark_Roll_goes k t) (by kernel_rfl) (by kernel_rfl) rfl (by kernel_rfl) Try.func10 rfl (by kernel_rfl) (ConvRs.refl _ _) (by kernel_rfl) (by kernel_rfl) (by kernel_rfl) (by decide) (by kernel_rfl) (by kernel_rfl) (fun _ => (by kernel_rfl)) (fun _ => (by kernel_rfl)) (fun _ => (by kernel_rfl)) (fun r => ?_)
    cases r
    refine bU0 ?_
    refine oOp (.ptr 0 0) (by kernel_rfl) (by kernel_rfl) (PureV.does (p_assign (by kernel_rfl))) ?_
    refine oEnd ?_
    refine oSeq ?_
    refine oRegion rfl ?_
    refine oOp (.ptr 0 0) (by kernel_rfl) (by kernel_rfl) (PureV.does (p_move (by kernel_rfl))) ?_
    refine bCall (caps := []) (v := (uc fun (r121 : Bool) => (uc fun (r131 : Int) => (fun (x31 : Int) => (.agg [.d (.bool r121), .d (.int .i64 r131)] : V))))) (H' := (uc fun (r121 : Bool) => (uc fun (r131 : Int) => (fun (x31 : Int) => ([.box [.d (.lit (List.map e_i64 t)), .d (.int .i64 x31)]] : List Blk))))) [0] _ (mark_Dice_Rule_goes k t 0) (by kernel_rfl) (by kernel_rfl) rfl (by kernel_rfl) Try.func11 rfl (by kernel_rfl) (ConvRs.refl _ _) (by kernel_rfl) (by kernel_rfl) (by kernel_rfl) (by decide) (by kernel_rfl) (by kernel_rfl) (fun _ => (by kernel_rfl)) (fun _ => (by kernel_rfl)) (fun _ => (by kernel_rfl)) (fun r => ?_)
    obtain ⟨r121, r131, x31⟩ := r
    refine bUc ?_
    refine bUc ?_
    refine oOp (.ptr 0 0) (by kernel_rfl) (by kernel_rfl) (PureV.does (p_move (by kernel_rfl))) ?_
    refine bCall (caps := []) (v := (uc fun (r1105 : (List SGiven)) => (fun (x91 : Int) => (.d (.lit (List.map e_SGiven r1105)) : V)))) (H' := (uc fun (r1105 : (List SGiven)) => (fun (x91 : Int) => ([.box [.d (.lit (List.map e_i64 t)), .d (.int .i64 x91)]] : List Blk)))) [0] _ (law30_few_goes k t x31) (by kernel_rfl) (by kernel_rfl) rfl (by kernel_rfl) Try.func12 rfl (by kernel_rfl) (ConvRs.refl _ _) (by kernel_rfl) (by kernel_rfl) (by kernel_rfl) (by decide) (by kernel_rfl) (by kernel_rfl) (fun _ => (by kernel_rfl)) (fun _ => (by kernel_rfl)) (fun _ => (by kernel_rfl)) (fun r => ?_)
    obtain ⟨r1105, x91⟩ := r
    refine bUc ?_
    refine oOp (.ptr 1 0) (by kernel_rfl) (by kernel_rfl) (k_alloc (H' := [.box [.d (.lit (List.map e_i64 t)), .d (.int .i64 x91)], .box [.d (.bool false), .d (.int .i64 0)]]) ty28 (by kernel_rfl) (by kernel_rfl)) ?_
    refine oOp (.undef) (by kernel_rfl) (by kernel_rfl) (k_store (vs := [.d (.bool r121), .d (.int .i64 r131)]) (H' := [.box [.d (.lit (List.map e_i64 t)), .d (.int .i64 x91)], .box [.d (.bool r121), .d (.int .i64 r131)]]) 1 0 (by kernel_rfl) ty28 (by kernel_rfl) (by kernel_rfl) (by kernel_rfl)) ?_
    refine oOp (.d (.lit (List.map e_SGiven r1105))) (by kernel_rfl) (by kernel_rfl) (PureV.does (p_assign (by kernel_rfl))) ?_
    refine oEnd ?_
    refine oSeq ?_
    refine oSeq ?_
    refine oRegion rfl ?_
    refine oOp (.d (.lit (List.map e_SGiven r1105))) (by kernel_rfl) (by kernel_rfl) (PureV.does (p_move (by kernel_rfl))) ?_
    refine oOp (.d (.int .i64 ((List.length r1105) : Int))) (by kernel_rfl) (by kernel_rfl) (PureV.does (k_lenLit (enc := e_SGiven) r1105 (by kernel_rfl) Try.underlying30)) ?_
    refine oOp (.d (.bool (((List.length r1105) : Int) == 0))) (by kernel_rfl) (by kernel_rfl) (PureV.does (p_int (k := .i64) (p := ((List.length r1105) : Int)) (q := 0) (by kernel_rfl) (by kernel_rfl) (by kernel_rfl))) ?_
    refine oEnd ?_
    refine bSplit 25 (by kernel_rfl) (fun hc => ?_) (fun hc => ?_)
    · refine oCondT (by kernel_rfl) ?_
      refine oSeq ?_
      refine oRegion rfl ?_
      refine bCall (caps := []) (v := (fun (r113 : Bool) => (.d (.bool r113) : V))) (H' := (fun (r113 : Bool) => ([.box [.d (.lit (List.map e_i64 t)), .d (.int .i64 x91)], .box [.d (.bool r121), .d (.int .i64 r131)]] : List Blk))) [] _ (law30_sane_goes k ) (by kernel_rfl) (by kernel_rfl) rfl (by kernel_rfl) Try.func9 rfl (by kernel_rfl) (ConvRs.refl _ _) (by kernel_rfl) (by kernel_rfl) (by kernel_rfl) (by decide) (by kernel_rfl) (by kernel_rfl) (fun _ => (by kernel_rfl)) (fun _ => (by kernel_rfl)) (fun _ => (by kernel_rfl)) (fun r113 => ?_)
      refine oOp (.d (.bool r113)) (by kernel_rfl) (by kernel_rfl) (PureV.does (p_assign (by kernel_rfl))) ?_
      refine oEnd ?_
      exact oRet (r0 := r113) (rv := .d (.bool r113)) (B := []) (vs := [.d (.bool r113)]) (σ := []) (by kernel_rfl) Try.func5 rfl (.cons _ _ _ _ (.tmp 6 _ (by kernel_rfl)) .nil) (by kernel_rfl) (by kernel_rfl) (by kernel_rfl) (by kernel_rfl) (by decide) (by kernel_rfl) (by kernel_rfl)
    · refine oCondF (by kernel_rfl) ?_
      refine oSkip ?_
      refine oSeq ?_
      refine oRegion rfl ?_
      refine oOp (.d (.lit (List.map e_SGiven r1105))) (by kernel_rfl) (by kernel_rfl) (PureV.does (p_move (by kernel_rfl))) ?_
      refine bCap (fun h14 => ?_)
      refine oOp (.ref 2 (List.length r1105) 0 (List.length r1105)) (by kernel_rfl) (by kernel_rfl) (k_appendNil (H' := [.box [.d (.lit (List.map e_i64 t)), .d (.int .i64 x91)], .box [.d (.bool r121), .d (.int .i64 r131)], .sl 8 (List.map e_SGiven r1105) false]) (enc := e_SGiven) r1105 Try.underlying30 Try.underlying30 ty38 (by kernel_rfl) (by kernel_rfl) (holdsLit e_SGiven_len r1105 (by kernel_rfl)) h14 (by kernel_rfl)) ?_
      refine oOp (.ref 2 (List.length r1105) 0 (List.length r1105)) (by kernel_rfl) (by kernel_rfl) (PureV.does (p_assign (by kernel_rfl))) ?_
      refine oEnd ?_
      refine oSeq ?_
      refine oRegion rfl ?_
      refine oOp (.ref 2 (List.length r1105) 0 (List.length r1105)) (by kernel_rfl) (by kernel_rfl) (PureV.does (p_move (by kernel_rfl))) ?_
      refine oOp (.d (.int .u8 k1)) (by kernel_rfl) (by kernel_rfl) (PureV.does (p_move (by kernel_rfl))) ?_
      refine oOp (.d (.int .i64 (IntKind.wrap .i64 k1))) (by kernel_rfl) (by kernel_rfl) (PureV.does (p_conv (k := .u8) (p := k1) (by kernel_rfl) Try.underlying5 Try.underlying3 (by kernel_rfl))) ?_
      refine oOp (.d (.lit (List.map e_SGiven r1105))) (by kernel_rfl) (by kernel_rfl) (PureV.does (p_move (by kernel_rfl))) ?_
      refine oOp (.d (.int .i64 ((List.length r1105) : Int))) (by kernel_rfl) (by kernel_rfl) (PureV.does (k_lenLit (enc := e_SGiven) r1105 (by kernel_rfl) Try.underlying30)) ?_
      refine bNz (fun h15 => ?_)
      refine oOp (.d (.int .i64 (Int.tmod (IntKind.wrap .i64 k1) ((List.length r1105) : Int)))) (by kernel_rfl) (by kernel_rfl) (PureV.does (p_rem (k := .i64) (p := (IntKind.wrap .i64 k1)) (q := ((List.length r1105) : Int)) (by kernel_rfl) (by kernel_rfl) h15 (by kernel_rfl))) ?_
      refine bIdx (fun e11 h16 h17 => ?_)
      refine oOp (.eptr 2 (List.length r1105) (Int.toNat (Int.tmod (IntKind.wrap .i64 k1) ((List.length r1105) : Int))) 0) (by kernel_rfl) (by kernel_rfl) (PureV.does (k_idxRef (enc := e_SGiven) (fro := false) r1105 (a := e11) (by kernel_rfl) (k := .i64) (i := (Int.tmod (IntKind.wrap .i64 k1) ((List.length r1105) : Int))) (by kernel_rfl) (by kernel_rfl) Try.underlying30 ty38 h16 h17)) ?_
      refine oOp (.eptr 2 (List.length r1105) (Int.toNat (Int.tmod (IntKind.wrap .i64 k1) ((List.length r1105) : Int))) 4) (by kernel_rfl) (by kernel_rfl) (PureV.does (k_fieldAddrE (enc := e_SGiven) (sz0 := 8) (fro := false) 2 0 r1105 (by kernel_rfl) (by kernel_rfl) h17 Try.underlying38 rfl ty3 (by kernel_rfl))) ?_
      refine oOp (.d (.int .i64 e11.Value)) (by kernel_rfl) (by kernel_rfl) (Quiet.does (k_loadE (enc := e_SGiven) (sz := 8) (fro := false) 2 4 r1105 (by kernel_rfl) (by kernel_rfl) Try.underlying3 (by kernel_rfl) h17 (by kernel_rfl))) ?_
      refine oOp (.d (.int .u8 n)) (by kernel_rfl) (by kernel_rfl) (PureV.does (p_move (by kernel_rfl))) ?_
      refine oOp (.d (.int .u8 (Int.tmod n 5))) (by kernel_rfl) (by kernel_rfl) (PureV.does (p_rem (k := .u8) (p := n) (q := 5) (by kernel_rfl) (by kernel_rfl) (by decide) (by kernel_rfl))) ?_
      refine oOp (.d (.int .i64 (IntKind.wrap .i64 (Int.tmod n 5)))) (by kernel_rfl) (by kernel_rfl) (PureV.does (p_conv (k := .u8) (p := (Int.tmod n 5)) (by kernel_rfl) Try.underlying5 Try.underlying3 (by kernel_rfl))) ?_
      refine oOp (.d (.int .i64 (IntKind.wrap .i64 (e11.Value + (IntKind.wrap .i64 (Int.tmod n 5)))))) (by kernel_rfl) (by kernel_rfl) (PureV.does (p_int (k := .i64) (p := e11.Value) (q := (IntKind.wrap .i64 (Int.tmod n 5))) (by kernel_rfl) (by kernel_rfl) (by kernel_rfl))) ?_
      refine oOp (.eptr 2 (List.length r1105) (Int.toNat (Int.tmod (IntKind.wrap .i64 k1) ((List.length r1105) : Int))) 0) (by kernel_rfl) (by kernel_rfl) (PureV.does (k_idxRef (enc := e_SGiven) (fro := false) r1105 (a := e11) (by kernel_rfl) (k := .i64) (i := (Int.tmod (IntKind.wrap .i64 k1) ((List.length r1105) : Int))) (by kernel_rfl) (by kernel_rfl) Try.underlying30 ty38 h16 h17)) ?_
      refine oOp (.eptr 2 (List.length r1105) (Int.toNat (Int.tmod (IntKind.wrap .i64 k1) ((List.length r1105) : Int))) 4) (by kernel_rfl) (by kernel_rfl) (PureV.does (k_fieldAddrE (enc := e_SGiven) (sz0 := 8) (fro := false) 2 0 r1105 (by kernel_rfl) (by kernel_rfl) h17 Try.underlying38 rfl ty3 (by kernel_rfl))) ?_
      refine bSet _ (fun xs1 hs1 => ?_)
      refine oOp (.undef) (by kernel_rfl) (by kernel_rfl) (k_storeE (H' := [.box [.d (.lit (List.map e_i64 t)), .d (.int .i64 x91)], .box [.d (.bool r121), .d (.int .i64 r131)], .sl 8 (List.map e_SGiven xs1) false]) 2 4 r1105 (⟨e11.Script, e11.Part, e11.Marker, e11.Level, (IntKind.wrap .i64 (e11.Value + (IntKind.wrap .i64 (Int.tmod n 5)))), e11.Stamp_Time, e11.Stamp_Source, e11.Stamp_Seq⟩ : SGiven) [(.int .i64 (IntKind.wrap .i64 (e11.Value + (IntKind.wrap .i64 (Int.tmod n 5)))))] e_SGiven_len (by kernel_rfl) (by kernel_rfl) h17 ty3 (by kernel_rfl) (by kernel_rfl) (by kernel_rfl) hs1 (by kernel_rfl)) ?_
      refine oHead [8, 9, 10] [0, 1, 2] (T' := [(8, .ptr 1 0), (9, .d (.lit (List.map e_SGiven r1105))), (10, .ref 2 (List.length r1105) 0 (List.length r1105))]) (H' := [.box [.d (.lit (List.map e_i64 t)), .d (.int .i64 x91)], .box [.d (.bool r121), .d (.int .i64 r131)], .sl 8 (List.map e_SGiven xs1) false]) (by kernel_rfl) (by kernel_rfl) (by kernel_rfl) (by kernel_rfl) (by decide) (by kernel_rfl) (by kernel_rfl) ?_
      refine oView (T' := [(8, .ptr 1 0), (9, .d (.lit (List.map e_SGiven r1105))), (10, .ref 2 (List.length xs1) 0 (List.length xs1))]) (by rw [(set_len hs1)]) rfl ?_
      refine oEnd ?_
      refine oSeq ?_
      refine oFreeze 2 (esz := 8) (xs := List.map e_SGiven xs1) (by kernel_rfl) ?_
      refine oView (H' := [.box [.d (.lit (List.map e_i64 t)), .d (.int .i64 x91)], .box [.d (.bool r121), .d (.int .i64 r131)], .sl 8 (List.map e_SGiven xs1) true]) rfl (by kernel_rfl) ?_
      refine oDraw [0, 1, 2] rfl ?_
      refine aTakeL (i := 0) (st' := [1]) (.agg [.d (.bool r121), .d (.int .i64 r131)]) rfl (by kernel_rfl) (by kernel_rfl) (by kernel_rfl) (by kernel_rfl) (by kernel_rfl) (by kernel_rfl) (by kernel_rfl) (k_loadAgg 1 0 (by kernel_rfl) Try.underlying28 (by kernel_rfl) ty28 (by kernel_rfl)) ?_
      refine aTakeL (i := 1) (st' := []) (.d (.lit (List.map e_SGiven r1105))) rfl (by kernel_rfl) (by kernel_rfl) (by kernel_rfl) (by kernel_rfl) (by kernel_rfl) (by kernel_rfl) (by kernel_rfl) (PureV.quiet (p_move (by kernel_rfl)) []) ?_
      refine aTakeL (i := 3) (st' := [1]) (.agg [.d (.bool r121), .d (.int .i64 r131)]) rfl (by kernel_rfl) (by kernel_rfl) (by kernel_rfl) (by kernel_rfl) (by kernel_rfl) (by kernel_rfl) (by kernel_rfl) (k_loadAgg 1 0 (by kernel_rfl) Try.underlying28 (by kernel_rfl) ty28 (by kernel_rfl)) ?_
      refine aTakeL (i := 4) (st' := []) (.ref 2 (List.length xs1) 0 (List.length xs1)) rfl (by kernel_rfl) (by kernel_rfl) (by kernel_rfl) (by kernel_rfl) (by kernel_rfl) (by kernel_rfl) (by kernel_rfl) (PureV.quiet (p_move (by kernel_rfl)) []) ?_
      refine dCall (i := 2) (caps := []) (v := (uc fun (r186 : Int) => (fun (r1108 : Int) => (.agg [.d (.int .i64 r186), .d (.int .i64 r1108)] : V)))) (H' := (uc fun (r186 : Int) => (fun (r1108 : Int) => ([.box [.d (.lit (List.map e_i64 t)), .d (.int .i64 x91)], .box [.d (.bool r121), .d (.int .i64 r131)], .sl 8 (List.map e_SGiven xs1) true] : List Blk)))) [] _ (arbitration_Decide_goes k r121 r131 r1105) rfl (by kernel_rfl) (by kernel_rfl) (by kernel_rfl) (by kernel_rfl) (by kernel_rfl) (by kernel_rfl) (by kernel_rfl) (by kernel_rfl) rfl (by kernel_rfl) Try.func13 rfl (by kernel_rfl) (ConvRs.refl _ _) (by kernel_rfl) (by kernel_rfl) (by kernel_rfl) (by decide) (by kernel_rfl) (by kernel_rfl) (fun _ => (by kernel_rfl)) (fun _ => (by kernel_rfl)) (fun _ => (by kernel_rfl)) (fun r => ?_)
      obtain ⟨r186, r1108⟩ := r
      refine dUc ?_
      refine dCall (i := 5) (caps := []) (v := (uc fun (r187 : Int) => (fun (r1109 : Int) => (.agg [.d (.int .i64 r187), .d (.int .i64 r1109)] : V)))) (H' := (uc fun (r187 : Int) => (fun (r1109 : Int) => ([.box [.d (.lit (List.map e_i64 t)), .d (.int .i64 x91)], .box [.d (.bool r121), .d (.int .i64 r131)], .sl 8 (List.map e_SGiven xs1) true] : List Blk)))) [] _ (arbitration_Decide_goes k r121 r131 xs1) rfl (by kernel_rfl) (by kernel_rfl) (by kernel_rfl) (by kernel_rfl) (by kernel_rfl) (by kernel_rfl) (by kernel_rfl) (by kernel_rfl) rfl (by kernel_rfl) Try.func13 rfl (by kernel_rfl) (convList (vs0 := [.agg [.d (.bool r121), .d (.int .i64 r131)], .ref 2 (List.length xs1) 0 (List.length xs1)]) (vs := [.agg [.d (.bool r121), .d (.int .i64 r131)], .d (.lit (List.map e_SGiven xs1))]) (by kernel_rfl) (.cons _ _ _ _ (.same _) (.cons _ _ _ _ (k_lit (enc := e_SGiven) (sz := 8) 2 xs1 (by kernel_rfl)) .nil))) (by kernel_rfl) (by kernel_rfl) (by kernel_rfl) (by decide) (by kernel_rfl) (by kernel_rfl) (fun _ => (by kernel_rfl)) (fun _ => (by kernel_rfl)) (fun _ => (by kernel_rfl)) (fun r => ?_)
      obtain ⟨r187, r1109⟩ := r
      refine dUc ?_
      refine aAlloc (i := 6) (d := 11) rfl (by kernel_rfl) (by kernel_rfl) rfl rfl (by kernel_rfl) (by kernel_rfl) ty33 (cells := [.d (.int .i64 0), .d (.int .i64 0)]) (by kernel_rfl) (by kernel_rfl) ?_
      refine dView (H' := [.box [.d (.lit (List.map e_i64 t)), .d (.int .i64 x91)], .box [.d (.bool r121), .d (.int .i64 r131)], .sl 8 (List.map e_SGiven xs1) true, .box [.d (.int .i64 0), .d (.int .i64 0)]]) rfl rfl (by kernel_rfl) ?_
      refine aAlloc (i := 7) (d := 12) rfl (by kernel_rfl) (by kernel_rfl) rfl rfl (by kernel_rfl) (by kernel_rfl) ty33 (cells := [.d (.int .i64 0), .d (.int .i64 0)]) (by kernel_rfl) (by kernel_rfl) ?_
      refine dView (H' := [.box [.d (.lit (List.map e_i64 t)), .d (.int .i64 x91)], .box [.d (.bool r121), .d (.int .i64 r131)], .sl 8 (List.map e_SGiven xs1) true, .box [.d (.int .i64 0), .d (.int .i64 0)], .box [.d (.int .i64 0), .d (.int .i64 0)]]) rfl rfl (by kernel_rfl) ?_
      refine aOne (i := 8) (v := .undef) rfl (by kernel_rfl) (by kernel_rfl) (by kernel_rfl) (by kernel_rfl) (by kernel_rfl) (by kernel_rfl) (by kernel_rfl) (Does.acts (k_store (vs := [.d (.int .i64 r186), .d (.int .i64 r1108)]) (H' := [.box [.d (.lit (List.map e_i64 t)), .d (.int .i64 x91)], .box [.d (.bool r121), .d (.int .i64 r131)], .sl 8 (List.map e_SGiven xs1) true, .box [.d (.int .i64 r186), .d (.int .i64 r1108)], .box [.d (.int .i64 0), .d (.int .i64 0)]]) 3 0 (by kernel_rfl) ty33 (by kernel_rfl) (by kernel_rfl) (by kernel_rfl))) (by kernel_rfl) ?_
      refine aOne (i := 9) (v := .undef) rfl (by kernel_rfl) (by kernel_rfl) (by kernel_rfl) (by kernel_rfl) (by kernel_rfl) (by kernel_rfl) (by kernel_rfl) (Does.acts (k_store (vs := [.d (.int .i64 r187), .d (.int .i64 r1109)]) (H' := [.box [.d (.lit (List.map e_i64 t)), .d (.int .i64 x91)], .box [.d (.bool r121), .d (.int .i64 r131)], .sl 8 (List.map e_SGiven xs1) true, .box [.d (.int .i64 r186), .d (.int .i64 r1108)], .box [.d (.int .i64 r187), .d (.int .i64 r1109)]]) 4 0 (by kernel_rfl) ty33 (by kernel_rfl) (by kernel_rfl) (by kernel_rfl))) (by kernel_rfl) ?_
      refine aDone (by kernel_rfl) ?_
      refine oSeq ?_
      refine oRegion rfl ?_
      refine oOp (.ptr 3 0) (by kernel_rfl) (by kernel_rfl) (PureV.does (k_fieldAddr 3 0 (by kernel_rfl) Try.underlying33 rfl ty3 (by kernel_rfl))) ?_
      refine oOp (.d (.int .i64 r186)) (by kernel_rfl) (by kernel_rfl) (Quiet.does (k_load 3 0 (by kernel_rfl) Try.underlying3 (by kernel_rfl) (by kernel_rfl))) ?_
      refine oOp (.d (.bool (r186 != 3))) (by kernel_rfl) (by kernel_rfl) (PureV.does (p_int (k := .i64) (p := r186) (q := 3) (by kernel_rfl) (by kernel_rfl) (by kernel_rfl))) ?_
      refine oOp (.d (.bool (r186 != 3))) (by kernel_rfl) (by kernel_rfl) (PureV.does (p_move (by kernel_rfl))) ?_
      refine bMeetF (H' := [.box [.d (.int .i64 r186), .d (.int .i64 r1108)], .box [.d (.int .i64 r187), .d (.int .i64 r1109)]]) 4 rfl ((fun (x4 : Bool) => [(11, .ptr 0 0), (12, .ptr 1 0), (57, .d (.bool x4))])) (fun x4 => ?_) (fun F hj1 => ?_)
      · refine oView (T' := [(11, .ptr 0 0), (12, .ptr 1 0), (57, .d (.bool x4))]) (H' := [.box [.d (.int .i64 r186), .d (.int .i64 r1108)], .box [.d (.int .i64 r187), .d (.int .i64 r1109)]]) (by kernel_rfl) (by kernel_rfl) ?_
        refine oOp (.d (.bool x4)) (by kernel_rfl) (by kernel_rfl) (PureV.does (p_move (by kernel_rfl))) ?_
        refine bMeetF (H' := []) 6 rfl ((fun (x5 : Bool) => [(64, .d (.bool x5))])) (fun x5 => ?_) (fun F hj2 => ?_)
        · refine oView (T' := [(64, .d (.bool x5))]) (H' := []) (by kernel_rfl) (by kernel_rfl) ?_
          refine oOp (.d (.bool x5)) (by kernel_rfl) (by kernel_rfl) (PureV.does (p_move (by kernel_rfl))) ?_
          refine bMeet 2 rfl ((fun (x6 : Bool) => [(67, .d (.bool x6))])) ((fun (x6 : Bool) => [])) (fun s => s) (fun x6 => ?_) (fun hj3 => ?_)
          · refine oView (T' := [(67, .d (.bool x6))]) (H' := []) (by kernel_rfl) (by kernel_rfl) ?_
            refine oOp (.d (.bool x6)) (by kernel_rfl) (by kernel_rfl) (PureV.does (p_assign (by kernel_rfl))) ?_
            refine oEnd ?_
            exact oRet (r0 := x6) (rv := .d (.bool x6)) (B := []) (vs := [.d (.bool x6)]) (σ := []) (by kernel_rfl) Try.func5 rfl (.cons _ _ _ _ (.tmp 6 _ (by kernel_rfl)) .nil) (by kernel_rfl) (by kernel_rfl) (by kernel_rfl) (by kernel_rfl) (by decide) (by kernel_rfl) (by kernel_rfl)
          · refine bSplit 65 (by kernel_rfl) (fun hc => ?_) (fun hc => ?_)
            · refine bCall (caps := []) (v := (fun (r115 : Bool) => (.d (.bool r115) : V))) (H' := (fun (r115 : Bool) => ([] : List Blk))) [] _ (law30_sane_goes k ) (by kernel_rfl) (by kernel_rfl) rfl (by kernel_rfl) Try.func9 rfl (by kernel_rfl) (ConvRs.refl _ _) (by kernel_rfl) (by kernel_rfl) (by kernel_rfl) (by decide) (by kernel_rfl) (by kernel_rfl) (fun _ => (by kernel_rfl)) (fun _ => (by kernel_rfl)) (fun _ => (by kernel_rfl)) (fun r115 => ?_)
              refine oOp (.d (.bool r115)) (by kernel_rfl) (by kernel_rfl) (PureV.does (p_pick (b := true) (by kernel_rfl) (by kernel_rfl))) ?_
              refine oHead [67] [] (T' := [(67, .d (.bool r115))]) (H' := []) (by kernel_rfl) (by kernel_rfl) (by kernel_rfl) (by kernel_rfl) (by decide) (by kernel_rfl) (by kernel_rfl) ?_
              exact hj3 r115
            · refine oNot (by kernel_rfl) (by kernel_rfl) ?_
              refine oOp (.d (.bool false)) (by kernel_rfl) (by kernel_rfl) (PureV.does (p_pick (b := false) (by kernel_rfl) (by kernel_rfl))) ?_
              refine oHead [67] [] (T' := [(67, .d (.bool false))]) (H' := []) (by kernel_rfl) (by kernel_rfl) (by kernel_rfl) (by kernel_rfl) (by decide) (by kernel_rfl) (by kernel_rfl) ?_
              exact hj3 false
        · refine bPickF 58 (fun c => F (c || (decide (r1109 ≥ r1108)))) (by kernel_rfl) (fun hc => ?_) (fun hc => ?_)
          · refine oNot (by kernel_rfl) (by kernel_rfl) ?_
            refine oNot (by kernel_rfl) (by kernel_rfl) ?_
            refine oNot (by kernel_rfl) (by kernel_rfl) ?_
            refine oNot (by kernel_rfl) (by kernel_rfl) ?_
            refine oNot (by kernel_rfl) (by kernel_rfl) ?_
            refine oOp (.d (.bool true)) (by kernel_rfl) (by kernel_rfl) (PureV.does (p_pick (b := true) (by kernel_rfl) (by kernel_rfl))) ?_
            refine oHead [64] [] (T' := [(64, .d (.bool true))]) (H' := []) (by kernel_rfl) (by kernel_rfl) (by kernel_rfl) (by kernel_rfl) (by decide) (by kernel_rfl) (by kernel_rfl) ?_
            exact hj2 true
          · refine oOp (.ptr 1 1) (by kernel_rfl) (by kernel_rfl) (PureV.does (k_fieldAddr 1 0 (by kernel_rfl) Try.underlying33 rfl ty3 (by kernel_rfl))) ?_
            refine oOp (.d (.int .i64 r1109)) (by kernel_rfl) (by kernel_rfl) (Quiet.does (k_load 1 1 (by kernel_rfl) Try.underlying3 (by kernel_rfl) (by kernel_rfl))) ?_
            refine oOp (.ptr 0 1) (by kernel_rfl) (by kernel_rfl) (PureV.does (k_fieldAddr 0 0 (by kernel_rfl) Try.underlying33 rfl ty3 (by kernel_rfl))) ?_
            refine oOp (.d (.int .i64 r1108)) (by kernel_rfl) (by kernel_rfl) (Quiet.does (k_load 0 1 (by kernel_rfl) Try.underlying3 (by kernel_rfl) (by kernel_rfl))) ?_
            refine oOp (.d (.bool (decide (r1109 ≥ r1108)))) (by kernel_rfl) (by kernel_rfl) (PureV.does (p_int (k := .i64) (p := r1109) (q := r1108) (by kernel_rfl) (by kernel_rfl) (by kernel_rfl))) ?_
            refine oOp (.d (.bool (decide (r1109 ≥ r1108)))) (by kernel_rfl) (by kernel_rfl) (PureV.does (p_pick (b := false) (by kernel_rfl) (by kernel_rfl))) ?_
            refine oHead [64] [] (T' := [(64, .d (.bool (decide (r1109 ≥ r1108))))]) (H' := []) (by kernel_rfl) (by kernel_rfl) (by kernel_rfl) (by kernel_rfl) (by decide) (by kernel_rfl) (by kernel_rfl) ?_
            exact hj2 (decide (r1109 ≥ r1108))
      · refine bPickF 53 (fun c => F (c || (r187 != 3))) (by kernel_rfl) (fun hc => ?_) (fun hc => ?_)
        · refine oNot (by kernel_rfl) (by kernel_rfl) ?_
          refine oNot (by kernel_rfl) (by kernel_rfl) ?_
          refine oNot (by kernel_rfl) (by kernel_rfl) ?_
          refine oOp (.d (.bool true)) (by kernel_rfl) (by kernel_rfl) (PureV.does (p_pick (b := true) (by kernel_rfl) (by kernel_rfl))) ?_
          refine oHead [11, 12, 57] [3, 4] (T' := [(11, .ptr 0 0), (12, .ptr 1 0), (57, .d (.bool true))]) (H' := [.box [.d (.int .i64 r186), .d (.int .i64 r1108)], .box [.d (.int .i64 r187), .d (.int .i64 r1109)]]) (by kernel_rfl) (by kernel_rfl) (by kernel_rfl) (by kernel_rfl) (by decide) (by kernel_rfl) (by kernel_rfl) ?_
          exact hj1 true
        · refine oOp (.ptr 4 0) (by kernel_rfl) (by kernel_rfl) (PureV.does (k_fieldAddr 4 0 (by kernel_rfl) Try.underlying33 rfl ty3 (by kernel_rfl))) ?_
          refine oOp (.d (.int .i64 r187)) (by kernel_rfl) (by kernel_rfl) (Quiet.does (k_load 4 0 (by kernel_rfl) Try.underlying3 (by kernel_rfl) (by kernel_rfl))) ?_
          refine oOp (.d (.bool (r187 != 3))) (by kernel_rfl) (by kernel_rfl) (PureV.does (p_int (k := .i64) (p := r187) (q := 3) (by kernel_rfl) (by kernel_rfl) (by kernel_rfl))) ?_
          refine oOp (.d (.bool (r187 != 3))) (by kernel_rfl) (by kernel_rfl) (PureV.does (p_pick (b := false) (by kernel_rfl) (by kernel_rfl))) ?_
          refine oHead [11, 12, 57] [3, 4] (T' := [(11, .ptr 0 0), (12, .ptr 1 0), (57, .d (.bool (r187 != 3)))]) (H' := [.box [.d (.int .i64 r186), .d (.int .i64 r1108)], .box [.d (.int .i64 r187), .d (.int .i64 r1109)]]) (by kernel_rfl) (by kernel_rfl) (by kernel_rfl) (by kernel_rfl) (by decide) (by kernel_rfl) (by kernel_rfl) ?_
          exact hj1 (r187 != 3)

end Go.VM
