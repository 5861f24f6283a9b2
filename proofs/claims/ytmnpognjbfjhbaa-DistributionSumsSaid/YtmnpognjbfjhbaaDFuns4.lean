/- Plain functions that answer as the program's functions do, and the proof that they do. -/
import Derived.Test.YtmnpognjbfjhbaaProg
import Derived.KernelRfl
import Derived.Test.YtmnpognjbfjhbaaEngW
import Derived.Test.YtmnpognjbfjhbaaDFacts
import Derived.Test.YtmnpognjbfjhbaaDFuns0
import Derived.Test.YtmnpognjbfjhbaaDFuns1
import Derived.Test.YtmnpognjbfjhbaaDFuns2
import Derived.Test.YtmnpognjbfjhbaaDFuns3
namespace Go.VM
open Go.Proofs
set_option linter.unusedVariables false
set_option linter.unusedSimpArgs false
set_option maxRecDepth 100000
/-- awardingbody/awardingbodylaw32.DistributionQuantiles -/
def law32_DistributionQuantiles (k : Nat) (t : (List Int)) (n : Int) : Option (Bool) := Option.bind (mark_Light k t) (u0 (bif (!(decide (((List.length t) : Int) ≤ 600))) then Option.bind (law32_sane k) (fun r116 => some r116) else Option.bind (mark_Roll k t) (u0 (Option.bind (mark_Dice_Distribution k 8 false t 0) (uc fun r121 => fun x71 => Option.bind (ref01_New k (IntKind.wrap .i64 (Int.tmod n 13)) 12) (uc fun r151 => uc fun r161 => fun r171 => Option.bind (distribution_Quantile k r121 r151 r161) (uc fun r1101 => fun r1111 => blet ((r171 != 0) || (decide (r151 > r161))) fun x10 => blet (x10 || (r1111 != 0)) fun x11 => bif x11 then blet ((r1111 == 10) || (r1111 == 2)) fun x14 => Option.bind (bif x14 then Option.bind (law32_sane k) (fun r119 => some r119) else some false : Option (Bool)) (fun x15 => some x15) else Option.bind (distribution_Count k r121) (fun r1110 => Option.bind (distribution_Below k r121 r1101) (fun r113 => Option.bind (distribution_Below k r121 (IntKind.wrap .i64 (r1101 + 1))) (fun r114 => Option.bind (bif (decide ((IntKind.wrap .i64 (r114 * r161)) ≥ (IntKind.wrap .i64 (r151 * r1110)))) then Option.bind (bif (r1101 == 0) then some true else some (decide ((IntKind.wrap .i64 (r113 * r161)) < (IntKind.wrap .i64 (r151 * r1110)))) : Option (Bool)) (fun x19 => some x19) else some false : Option (Bool)) (fun x17 => Option.bind (bif x17 then Option.bind (law32_sane k) (fun r122 => some r122) else some false : Option (Bool)) (fun x18 => some x18))))))))))))
def law32_DistributionQuantiles_E (t : (List Int)) (n : Int) : Bool → V × List Blk := fun r19 => (.d (.bool r19), [])
theorem law32_DistributionQuantiles_goes (k : Nat) (t : (List Int)) (n : Int) : RunsO Try.prog 3 [.d (.lit (List.map e_i64 t)), .d (.int .u8 n)] [] (law32_DistributionQuantiles_E t n) (law32_DistributionQuantiles k t n) := by
  refine RunsO.of_goes (N := 91) (m := 0) (T := [(0, .d (.lit (List.map e_i64 t))), (1, .d (.int .u8 n))]) Try.func3 rfl rfl (by kernel_rfl) (by kernel_rfl) (by kernel_rfl) ?_
  unfold law32_DistributionQuantiles
  refine bStart ?_
  refine oSeq ?_
  refine oRegion rfl ?_
  refine oOp (.d (.bool false)) (by kernel_rfl) (by kernel_rfl) (PureV.does (p_assign (by kernel_rfl))) ?_
  refine oEnd ?_
  refine oSeq ?_
  refine oSeq ?_
  refine oRegion rfl ?_
  refine oOp (.d (.lit (List.map e_i64 t))) (by kernel_rfl) (by kernel_rfl) (PureV.does (p_move (by kernel_rfl))) ?_
  refine bCall (caps := []) (v := (u0 ((.d (.bool (decide (((List.length t) : Int) ≤ 600))) : V)))) (H' := (u0 (([] : List Blk)))) [] _ (mark_Light_goes k t) (by kernel_rfl) (by kernel_rfl) rfl (by kernel_rfl) Try.func9 rfl (by kernel_rfl) (ConvRs.refl _ _) (by kernel_rfl) (by kernel_rfl) (by kernel_rfl) (by decide) (by kernel_rfl) (by kernel_rfl) (fun _ => (by kernel_rfl)) (fun _ => (by kernel_rfl)) (fun _ => (by kernel_rfl)) (fun r => ?_)
  cases r
  refine bU0 ?_
  refine oOp (.d (.bool (!(decide (((List.length t) : Int) ≤ 600))))) (by kernel_rfl) (by kernel_rfl) (PureV.does (p_not (p := (decide (((List.length t) : Int) ≤ 600))) (by kernel_rfl) (by kernel_rfl))) ?_
  refine oEnd ?_
  refine bSplit 15 (by kernel_rfl) (fun hc => ?_) (fun hc => ?_)
  · refine oCondT (by kernel_rfl) ?_
    refine oSeq ?_
    refine oRegion rfl ?_
    refine bCall (caps := []) (v := (fun (r116 : Bool) => (.d (.bool r116) : V))) (H' := (fun (r116 : Bool) => ([] : List Blk))) [] _ (law32_sane_goes k ) (by kernel_rfl) (by kernel_rfl) rfl (by kernel_rfl) Try.func10 rfl (by kernel_rfl) (ConvRs.refl _ _) (by kernel_rfl) (by kernel_rfl) (by kernel_rfl) (by decide) (by kernel_rfl) (by kernel_rfl) (fun _ => (by kernel_rfl)) (fun _ => (by kernel_rfl)) (fun _ => (by kernel_rfl)) (fun r116 => ?_)
    refine oOp (.d (.bool r116)) (by kernel_rfl) (by kernel_rfl) (PureV.does (p_assign (by kernel_rfl))) ?_
    refine oEnd ?_
    exact oRet (r0 := r116) (rv := .d (.bool r116)) (B := []) (vs := [.d (.bool r116)]) (σ := []) (by kernel_rfl) Try.func3 rfl (.cons _ _ _ _ (.tmp 4 _ (by kernel_rfl)) .nil) (by kernel_rfl) (by kernel_rfl) (by kernel_rfl) (by kernel_rfl) (by decide) (by kernel_rfl) (by kernel_rfl)
  · refine oCondF (by kernel_rfl) ?_
    refine oSkip ?_
    refine oSeq ?_
    refine oRegion rfl ?_
    refine oOp (.d (.lit (List.map e_i64 t))) (by kernel_rfl) (by kernel_rfl) (PureV.does (p_move (by kernel_rfl))) ?_
    refine bCall (caps := []) (v := (u0 ((.ptr 0 0 : V)))) (H' := (u0 (([.box [.d (.lit (List.map e_i64 t)), .d (.int .i64 0)]] : List Blk)))) [] _ (mark_Roll_goes k t) (by kernel_rfl) (by kernel_rfl) rfl (by kernel_rfl) Try.func11 rfl (by kernel_rfl) (ConvRs.refl _ _) (by kernel_rfl) (by kernel_rfl) (by kernel_rfl) (by decide) (by kernel_rfl) (by kernel_rfl) (fun _ => (by kernel_rfl)) (fun _ => (by kernel_rfl)) (fun _ => (by kernel_rfl)) (fun r => ?_)
    cases r
    refine bU0 ?_
    refine bCall (caps := []) (v := (uc fun (r121 : (List Int)) => (fun (x71 : Int) => (.agg [.d (.lit (List.map e_i64 r121))] : V)))) (H' := (uc fun (r121 : (List Int)) => (fun (x71 : Int) => ([.box [.d (.lit (List.map e_i64 t)), .d (.int .i64 x71)]] : List Blk)))) [0] _ (mark_Dice_Distribution_goes k 8 false t 0) (by kernel_rfl) (by kernel_rfl) rfl (by kernel_rfl) Try.func12 rfl (by kernel_rfl) (ConvRs.refl _ _) (by kernel_rfl) (by kernel_rfl) (by kernel_rfl) (by decide) (by kernel_rfl) (by kernel_rfl) (fun _ => (by kernel_rfl)) (fun _ => (by kernel_rfl)) (fun _ => (by kernel_rfl)) (fun r => ?_)
    obtain ⟨r121, x71⟩ := r
    refine bUc ?_
    refine oOp (.ptr 1 0) (by kernel_rfl) (by kernel_rfl) (k_alloc (H' := [.box [.d (.lit (List.map e_i64 t)), .d (.int .i64 x71)], .box [.nilc]]) ty26 (by kernel_rfl) (by kernel_rfl)) ?_
    refine oOp (.undef) (by kernel_rfl) (by kernel_rfl) (k_store (vs := [.d (.lit (List.map e_i64 r121))]) (H' := [.box [.d (.lit (List.map e_i64 t)), .d (.int .i64 x71)], .box [.d (.lit (List.map e_i64 r121))]]) 1 0 (by kernel_rfl) ty26 (by kernel_rfl) (by kernel_rfl) (by kernel_rfl)) ?_
    refine oEnd ?_
    refine oSeq ?_
    refine oRegion rfl ?_
    refine oOp (.d (.int .u8 n)) (by kernel_rfl) (by kernel_rfl) (PureV.does (p_move (by kernel_rfl))) ?_
    refine oOp (.d (.int .u8 (Int.tmod n 13))) (by kernel_rfl) (by kernel_rfl) (PureV.does (p_rem (k := .u8) (p := n) (q := 13) (by kernel_rfl) (by kernel_rfl) (by decide) (by kernel_rfl))) ?_
    refine oOp (.d (.int .i64 (IntKind.wrap .i64 (Int.tmod n 13)))) (by kernel_rfl) (by kernel_rfl) (PureV.does (p_conv (k := .u8) (p := (Int.tmod n 13)) (by kernel_rfl) Try.underlying5 Try.underlying3 (by kernel_rfl))) ?_
    refine bCall (caps := []) (v := (uc fun (r151 : Int) => (uc fun (r161 : Int) => (fun (r171 : Int) => (.tuple [.agg [.d (.int .i64 r151), .d (.int .i64 r161)], .d (.int .i64 r171)] : V))))) (H' := (uc fun (r151 : Int) => (uc fun (r161 : Int) => (fun (r171 : Int) => ([.box [.d (.lit (List.map e_i64 t)), .d (.int .i64 x71)], .box [.d (.lit (List.map e_i64 r121))]] : List Blk))))) [] _ (ref01_New_goes k (IntKind.wrap .i64 (Int.tmod n 13)) 12) (by kernel_rfl) (by kernel_rfl) rfl (by kernel_rfl) Try.func13 rfl (by kernel_rfl) (ConvRs.refl _ _) (by kernel_rfl) (by kernel_rfl) (by kernel_rfl) (by decide) (by kernel_rfl) (by kernel_rfl) (fun _ => (by kernel_rfl)) (fun _ => (by kernel_rfl)) (fun _ => (by kernel_rfl)) (fun r => ?_)
    obtain ⟨r151, r161, r171⟩ := r
    refine bUc ?_
    refine bUc ?_
    refine oOp (.tuple [.agg [.d (.int .i64 r151), .d (.int .i64 r161)], .d (.int .i64 r171)]) (by kernel_rfl) (by kernel_rfl) (PureV.does (p_move (by kernel_rfl))) ?_
    refine oOp (.agg [.d (.int .i64 r151), .d (.int .i64 r161)]) (by kernel_rfl) (by kernel_rfl) (PureV.does (k_extract (by kernel_rfl))) ?_
    refine oOp (.d (.int .i64 r171)) (by kernel_rfl) (by kernel_rfl) (PureV.does (k_extract (by kernel_rfl))) ?_
    refine oOp (.ptr 2 0) (by kernel_rfl) (by kernel_rfl) (k_alloc (H' := [.box [.d (.lit (List.map e_i64 t)), .d (.int .i64 x71)], .box [.d (.lit (List.map e_i64 r121))], .box [.d (.int .i64 0), .d (.int .i64 0)]]) ty31 (by kernel_rfl) (by kernel_rfl)) ?_
    refine oOp (.undef) (by kernel_rfl) (by kernel_rfl) (k_store (vs := [.d (.int .i64 r151), .d (.int .i64 r161)]) (H' := [.box [.d (.lit (List.map e_i64 t)), .d (.int .i64 x71)], .box [.d (.lit (List.map e_i64 r121))], .box [.d (.int .i64 r151), .d (.int .i64 r161)]]) 2 0 (by kernel_rfl) ty31 (by kernel_rfl) (by kernel_rfl) (by kernel_rfl)) ?_
    refine oOp (.d (.int .i64 r171)) (by kernel_rfl) (by kernel_rfl) (PureV.does (p_assign (by kernel_rfl))) ?_
    refine oEnd ?_
    refine oSeq ?_
    refine oRegion rfl ?_
    refine oOp (.agg [.d (.lit (List.map e_i64 r121))]) (by kernel_rfl) (by kernel_rfl) (Quiet.does (k_loadAgg 1 0 (by kernel_rfl) Try.underlying26 (by kernel_rfl) ty26 (by kernel_rfl))) ?_
    refine oOp (.agg [.d (.int .i64 r151), .d (.int .i64 r161)]) (by kernel_rfl) (by kernel_rfl) (Quiet.does (k_loadAgg 2 0 (by kernel_rfl) Try.underlying31 (by kernel_rfl) ty31 (by kernel_rfl))) ?_
    refine bCall (caps := []) (v := (uc fun (r1101 : Int) => (fun (r1111 : Int) => (.tuple [.d (.int .i64 r1101), .d (.int .i64 r1111)] : V)))) (H' := (uc fun (r1101 : Int) => (fun (r1111 : Int) => ([.box [.d (.lit (List.map e_i64 t)), .d (.int .i64 x71)], .box [.d (.lit (List.map e_i64 r121))], .box [.d (.int .i64 r151), .d (.int .i64 r161)]] : List Blk)))) [] _ (distribution_Quantile_goes k r121 r151 r161) (by kernel_rfl) (by kernel_rfl) rfl (by kernel_rfl) Try.func14 rfl (by kernel_rfl) (ConvRs.refl _ _) (by kernel_rfl) (by kernel_rfl) (by kernel_rfl) (by decide) (by kernel_rfl) (by kernel_rfl) (fun _ => (by kernel_rfl)) (fun _ => (by kernel_rfl)) (fun _ => (by kernel_rfl)) (fun r => ?_)
    obtain ⟨r1101, r1111⟩ := r
    refine bUc ?_
    refine oOp (.tuple [.d (.int .i64 r1101), .d (.int .i64 r1111)]) (by kernel_rfl) (by kernel_rfl) (PureV.does (p_move (by kernel_rfl))) ?_
    refine oOp (.d (.int .i64 r1101)) (by kernel_rfl) (by kernel_rfl) (PureV.does (k_extract (by kernel_rfl))) ?_
    refine oOp (.d (.int .i64 r1111)) (by kernel_rfl) (by kernel_rfl) (PureV.does (k_extract (by kernel_rfl))) ?_
    refine oOp (.d (.int .i64 r1101)) (by kernel_rfl) (by kernel_rfl) (PureV.does (p_assign (by kernel_rfl))) ?_
    refine oOp (.d (.int .i64 r1111)) (by kernel_rfl) (by kernel_rfl) (PureV.does (p_assign (by kernel_rfl))) ?_
    refine oEnd ?_
    refine oSeq ?_
    refine oSeq ?_
    refine oRegion rfl ?_
    refine oOp (.d (.int .i64 r171)) (by kernel_rfl) (by kernel_rfl) (PureV.does (p_move (by kernel_rfl))) ?_
    refine oOp (.d (.bool (r171 != 0))) (by kernel_rfl) (by kernel_rfl) (PureV.does (p_int (k := .i64) (p := r171) (q := 0) (by kernel_rfl) (by kernel_rfl) (by kernel_rfl))) ?_
    refine oOp (.d (.bool (r171 != 0))) (by kernel_rfl) (by kernel_rfl) (PureV.does (p_move (by kernel_rfl))) ?_
    refine bMeetF (H' := [.box [.d (.lit (List.map e_i64 r121))], .box [.d (.int .i64 r151), .d (.int .i64 r161)]]) 6 rfl ((fun (x10 : Bool) => [(5, .ptr 0 0), (6, .ptr 1 0), (8, .d (.int .i64 r1101)), (9, .d (.int .i64 r1111)), (41, .d (.bool x10))])) (fun x10 => ?_) (fun F hj1 => ?_)
    · refine oView (T' := [(5, .ptr 0 0), (6, .ptr 1 0), (8, .d (.int .i64 r1101)), (9, .d (.int .i64 r1111)), (41, .d (.bool x10))]) (H' := [.box [.d (.lit (List.map e_i64 r121))], .box [.d (.int .i64 r151), .d (.int .i64 r161)]]) (by kernel_rfl) (by kernel_rfl) ?_
      refine oOp (.d (.bool x10)) (by kernel_rfl) (by kernel_rfl) (PureV.does (p_move (by kernel_rfl))) ?_
      refine bMeetF (H' := [.box [.d (.lit (List.map e_i64 r121))], .box [.d (.int .i64 r151), .d (.int .i64 r161)]]) 3 rfl ((fun (x11 : Bool) => [(5, .ptr 0 0), (6, .ptr 1 0), (8, .d (.int .i64 r1101)), (9, .d (.int .i64 r1111)), (45, .d (.bool x11))])) (fun x11 => ?_) (fun F hj2 => ?_)
      · refine oView (T' := [(5, .ptr 0 0), (6, .ptr 1 0), (8, .d (.int .i64 r1101)), (9, .d (.int .i64 r1111)), (45, .d (.bool x11))]) (H' := [.box [.d (.lit (List.map e_i64 r121))], .box [.d (.int .i64 r151), .d (.int .i64 r161)]]) (by kernel_rfl) (by kernel_rfl) ?_
        refine oEnd ?_
        refine bSplit 45 (by kernel_rfl) (fun hc => ?_) (fun hc => ?_)
        · refine oCondT (by kernel_rfl) ?_
          refine oSeq ?_
          refine oRegion rfl ?_
          refine oOp (.d (.int .i64 r1111)) (by kernel_rfl) (by kernel_rfl) (PureV.does (p_move (by kernel_rfl))) ?_
          refine oOp (.d (.bool (r1111 == 10))) (by kernel_rfl) (by kernel_rfl) (PureV.does (p_int (k := .i64) (p := r1111) (q := 10) (by kernel_rfl) (by kernel_rfl) (by kernel_rfl))) ?_
          refine oOp (.d (.bool (r1111 == 10))) (by kernel_rfl) (by kernel_rfl) (PureV.does (p_move (by kernel_rfl))) ?_
          refine bMeetF (H' := []) 3 rfl ((fun (x14 : Bool) => [(51, .d (.bool x14))])) (fun x14 => ?_) (fun F hj3 => ?_)
          · refine oView (T' := [(51, .d (.bool x14))]) (H' := []) (by kernel_rfl) (by kernel_rfl) ?_
            refine oOp (.d (.bool x14)) (by kernel_rfl) (by kernel_rfl) (PureV.does (p_move (by kernel_rfl))) ?_
            refine bMeet 2 rfl ((fun (x15 : Bool) => [(54, .d (.bool x15))])) ((fun (x15 : Bool) => [])) (fun s => s) (fun x15 => ?_) (fun hj4 => ?_)
            · refine oView (T' := [(54, .d (.bool x15))]) (H' := []) (by kernel_rfl) (by kernel_rfl) ?_
              refine oOp (.d (.bool x15)) (by kernel_rfl) (by kernel_rfl) (PureV.does (p_assign (by kernel_rfl))) ?_
              refine oEnd ?_
              exact oRet (r0 := x15) (rv := .d (.bool x15)) (B := []) (vs := [.d (.bool x15)]) (σ := []) (by kernel_rfl) Try.func3 rfl (.cons _ _ _ _ (.tmp 4 _ (by kernel_rfl)) .nil) (by kernel_rfl) (by kernel_rfl) (by kernel_rfl) (by kernel_rfl) (by decide) (by kernel_rfl) (by kernel_rfl)
            · refine bSplit 52 (by kernel_rfl) (fun hc => ?_) (fun hc => ?_)
              · refine bCall (caps := []) (v := (fun (r119 : Bool) => (.d (.bool r119) : V))) (H' := (fun (r119 : Bool) => ([] : List Blk))) [] _ (law32_sane_goes k ) (by kernel_rfl) (by kernel_rfl) rfl (by kernel_rfl) Try.func10 rfl (by kernel_rfl) (ConvRs.refl _ _) (by kernel_rfl) (by kernel_rfl) (by kernel_rfl) (by decide) (by kernel_rfl) (by kernel_rfl) (fun _ => (by kernel_rfl)) (fun _ => (by kernel_rfl)) (fun _ => (by kernel_rfl)) (fun r119 => ?_)
                refine oOp (.d (.bool r119)) (by kernel_rfl) (by kernel_rfl) (PureV.does (p_pick (b := true) (by kernel_rfl) (by kernel_rfl))) ?_
                refine oHead [54] [] (T' := [(54, .d (.bool r119))]) (H' := []) (by kernel_rfl) (by kernel_rfl) (by kernel_rfl) (by kernel_rfl) (by decide) (by kernel_rfl) (by kernel_rfl) ?_
                exact hj4 r119
              · refine oNot (by kernel_rfl) (by kernel_rfl) ?_
                refine oOp (.d (.bool false)) (by kernel_rfl) (by kernel_rfl) (PureV.does (p_pick (b := false) (by kernel_rfl) (by kernel_rfl))) ?_
                refine oHead [54] [] (T' := [(54, .d (.bool false))]) (H' := []) (by kernel_rfl) (by kernel_rfl) (by kernel_rfl) (by kernel_rfl) (by decide) (by kernel_rfl) (by kernel_rfl) ?_
                exact hj4 false
          · refine bPickF 48 (fun c => F (c || (r1111 == 2))) (by kernel_rfl) (fun hc => ?_) (fun hc => ?_)
            · refine oNot (by kernel_rfl) (by kernel_rfl) ?_
              refine oNot (by kernel_rfl) (by kernel_rfl) ?_
              refine oOp (.d (.bool true)) (by kernel_rfl) (by kernel_rfl) (PureV.does (p_pick (b := true) (by kernel_rfl) (by kernel_rfl))) ?_
              refine oHead [51] [] (T' := [(51, .d (.bool true))]) (H' := []) (by kernel_rfl) (by kernel_rfl) (by kernel_rfl) (by kernel_rfl) (by decide) (by kernel_rfl) (by kernel_rfl) ?_
              exact hj3 true
            · refine oOp (.d (.int .i64 r1111)) (by kernel_rfl) (by kernel_rfl) (PureV.does (p_move (by kernel_rfl))) ?_
              refine oOp (.d (.bool (r1111 == 2))) (by kernel_rfl) (by kernel_rfl) (PureV.does (p_int (k := .i64) (p := r1111) (q := 2) (by kernel_rfl) (by kernel_rfl) (by kernel_rfl))) ?_
              refine oOp (.d (.bool (r1111 == 2))) (by kernel_rfl) (by kernel_rfl) (PureV.does (p_pick (b := false) (by kernel_rfl) (by kernel_rfl))) ?_
              refine oHead [51] [] (T' := [(51, .d (.bool (r1111 == 2)))]) (H' := []) (by kernel_rfl) (by kernel_rfl) (by kernel_rfl) (by kernel_rfl) (by decide) (by kernel_rfl) (by kernel_rfl) ?_
              exact hj3 (r1111 == 2)
        · refine oCondF (by kernel_rfl) ?_
          refine oSkip ?_
          refine oSeq ?_
          refine oRegion rfl ?_
          refine oOp (.agg [.d (.lit (List.map e_i64 r121))]) (by kernel_rfl) (by kernel_rfl) (Quiet.does (k_loadAgg 0 0 (by kernel_rfl) Try.underlying26 (by kernel_rfl) ty26 (by kernel_rfl))) ?_
          refine bCall (caps := []) (v := (fun (r1110 : Int) => (.d (.int .i64 r1110) : V))) (H' := (fun (r1110 : Int) => ([.box [.d (.lit (List.map e_i64 r121))], .box [.d (.int .i64 r151), .d (.int .i64 r161)]] : List Blk))) [] _ (distribution_Count_goes k r121) (by kernel_rfl) (by kernel_rfl) rfl (by kernel_rfl) Try.func15 rfl (by kernel_rfl) (ConvRs.refl _ _) (by kernel_rfl) (by kernel_rfl) (by kernel_rfl) (by decide) (by kernel_rfl) (by kernel_rfl) (fun _ => (by kernel_rfl)) (fun _ => (by kernel_rfl)) (fun _ => (by kernel_rfl)) (fun r1110 => ?_)
          refine oOp (.d (.int .i64 r1110)) (by kernel_rfl) (by kernel_rfl) (PureV.does (p_assign (by kernel_rfl))) ?_
          refine oEnd ?_
          refine oSeq ?_
          refine oDraw [(0, 9), (1, 9)] rfl ?_
          refine aTakeL (i := 0) (st' := [0]) (.agg [.d (.lit (List.map e_i64 r121))]) rfl (by kernel_rfl) (by kernel_rfl) (by kernel_rfl) (by kernel_rfl) (by kernel_rfl) (by kernel_rfl) (by kernel_rfl) (k_loadAgg 0 0 (by kernel_rfl) Try.underlying26 (by kernel_rfl) ty26 (by kernel_rfl)) ?_
          refine aTakeL (i := 1) (st' := []) (.d (.int .i64 r1101)) rfl (by kernel_rfl) (by kernel_rfl) (by kernel_rfl) (by kernel_rfl) (by kernel_rfl) (by kernel_rfl) (by kernel_rfl) (PureV.quiet (p_move (by kernel_rfl)) []) ?_
          refine aTakeL (i := 3) (st' := [0]) (.agg [.d (.lit (List.map e_i64 r121))]) rfl (by kernel_rfl) (by kernel_rfl) (by kernel_rfl) (by kernel_rfl) (by kernel_rfl) (by kernel_rfl) (by kernel_rfl) (k_loadAgg 0 0 (by kernel_rfl) Try.underlying26 (by kernel_rfl) ty26 (by kernel_rfl)) ?_
          refine aTakeL (i := 4) (st' := []) (.d (.int .i64 r1101)) rfl (by kernel_rfl) (by kernel_rfl) (by kernel_rfl) (by kernel_rfl) (by kernel_rfl) (by kernel_rfl) (by kernel_rfl) (PureV.quiet (p_move (by kernel_rfl)) []) ?_
          refine aTakeL (i := 5) (st' := []) (.d (.int .i64 (IntKind.wrap .i64 (r1101 + 1)))) rfl (by kernel_rfl) (by kernel_rfl) (by kernel_rfl) (by kernel_rfl) (by kernel_rfl) (by kernel_rfl) (by kernel_rfl) (PureV.quiet (p_int (k := .i64) (p := r1101) (q := 1) (by kernel_rfl) (by kernel_rfl) (by kernel_rfl)) []) ?_
          refine dCall (i := 2) (caps := []) (v := (fun (r113 : Int) => (.d (.int .i64 r113) : V))) (H' := (fun (r113 : Int) => ([.box [.d (.lit (List.map e_i64 r121))], .box [.d (.int .i64 r151), .d (.int .i64 r161)]] : List Blk))) [] _ (distribution_Below_goes k r121 r1101) rfl (by kernel_rfl) (by kernel_rfl) (by kernel_rfl) (by kernel_rfl) (by kernel_rfl) (by kernel_rfl) (by kernel_rfl) (by kernel_rfl) rfl (by kernel_rfl) Try.func16 rfl (by kernel_rfl) (ConvRs.refl _ _) (by kernel_rfl) (by kernel_rfl) (by kernel_rfl) (by decide) (by kernel_rfl) (by kernel_rfl) (fun _ => (by kernel_rfl)) (fun _ => (by kernel_rfl)) (fun _ => (by kernel_rfl)) (fun r113 => ?_)
          refine dCall (i := 6) (caps := []) (v := (fun (r114 : Int) => (.d (.int .i64 r114) : V))) (H' := (fun (r114 : Int) => ([.box [.d (.lit (List.map e_i64 r121))], .box [.d (.int .i64 r151), .d (.int .i64 r161)]] : List Blk))) [] _ (distribution_Below_goes k r121 (IntKind.wrap .i64 (r1101 + 1))) rfl (by kernel_rfl) (by kernel_rfl) (by kernel_rfl) (by kernel_rfl) (by kernel_rfl) (by kernel_rfl) (by kernel_rfl) (by kernel_rfl) rfl (by kernel_rfl) Try.func16 rfl (by kernel_rfl) (ConvRs.refl _ _) (by kernel_rfl) (by kernel_rfl) (by kernel_rfl) (by decide) (by kernel_rfl) (by kernel_rfl) (fun _ => (by kernel_rfl)) (fun _ => (by kernel_rfl)) (fun _ => (by kernel_rfl)) (fun r114 => ?_)
          refine aTakeL (i := 7) (st' := []) (.d (.int .i64 r113)) rfl (by kernel_rfl) (by kernel_rfl) (by kernel_rfl) (by kernel_rfl) (by kernel_rfl) (by kernel_rfl) (by kernel_rfl) (PureV.quiet (p_assign (by kernel_rfl)) []) ?_
          refine aTakeL (i := 8) (st' := []) (.d (.int .i64 r114)) rfl (by kernel_rfl) (by kernel_rfl) (by kernel_rfl) (by kernel_rfl) (by kernel_rfl) (by kernel_rfl) (by kernel_rfl) (PureV.quiet (p_assign (by kernel_rfl)) []) ?_
          refine aDone (by kernel_rfl) ?_
          refine oSeq ?_
          refine oRegion rfl ?_
          refine oOp (.d (.int .i64 r114)) (by kernel_rfl) (by kernel_rfl) (PureV.does (p_move (by kernel_rfl))) ?_
          refine oOp (.ptr 1 1) (by kernel_rfl) (by kernel_rfl) (PureV.does (k_fieldAddr 1 0 (by kernel_rfl) Try.underlying31 rfl ty3 (by kernel_rfl))) ?_
          refine oOp (.d (.int .i64 r161)) (by kernel_rfl) (by kernel_rfl) (Quiet.does (k_load 1 1 (by kernel_rfl) Try.underlying3 (by kernel_rfl) (by kernel_rfl))) ?_
          refine oOp (.d (.int .i64 (IntKind.wrap .i64 (r114 * r161)))) (by kernel_rfl) (by kernel_rfl) (PureV.does (p_int (k := .i64) (p := r114) (q := r161) (by kernel_rfl) (by kernel_rfl) (by kernel_rfl))) ?_
          refine oOp (.ptr 1 0) (by kernel_rfl) (by kernel_rfl) (PureV.does (k_fieldAddr 1 0 (by kernel_rfl) Try.underlying31 rfl ty3 (by kernel_rfl))) ?_
          refine oOp (.d (.int .i64 r151)) (by kernel_rfl) (by kernel_rfl) (Quiet.does (k_load 1 0 (by kernel_rfl) Try.underlying3 (by kernel_rfl) (by kernel_rfl))) ?_
          refine oOp (.d (.int .i64 r1110)) (by kernel_rfl) (by kernel_rfl) (PureV.does (p_move (by kernel_rfl))) ?_
          refine oOp (.d (.int .i64 (IntKind.wrap .i64 (r151 * r1110)))) (by kernel_rfl) (by kernel_rfl) (PureV.does (p_int (k := .i64) (p := r151) (q := r1110) (by kernel_rfl) (by kernel_rfl) (by kernel_rfl))) ?_
          refine oOp (.d (.bool (decide ((IntKind.wrap .i64 (r114 * r161)) ≥ (IntKind.wrap .i64 (r151 * r1110)))))) (by kernel_rfl) (by kernel_rfl) (PureV.does (p_int (k := .i64) (p := (IntKind.wrap .i64 (r114 * r161))) (q := (IntKind.wrap .i64 (r151 * r1110))) (by kernel_rfl) (by kernel_rfl) (by kernel_rfl))) ?_
          refine oOp (.d (.bool (decide ((IntKind.wrap .i64 (r114 * r161)) ≥ (IntKind.wrap .i64 (r151 * r1110)))))) (by kernel_rfl) (by kernel_rfl) (PureV.does (p_move (by kernel_rfl))) ?_
          refine bMeet 14 rfl ((fun (x17 : Bool) => [(87, .d (.bool x17))])) ((fun (x17 : Bool) => [])) (fun s => s) (fun x17 => ?_) (fun hj6 => ?_)
          · refine oView (T' := [(87, .d (.bool x17))]) (H' := []) (by kernel_rfl) (by kernel_rfl) ?_
            refine oOp (.d (.bool x17)) (by kernel_rfl) (by kernel_rfl) (PureV.does (p_move (by kernel_rfl))) ?_
            refine bMeet 2 rfl ((fun (x18 : Bool) => [(90, .d (.bool x18))])) ((fun (x18 : Bool) => [])) (fun s => s) (fun x18 => ?_) (fun hj5 => ?_)
            · refine oView (T' := [(90, .d (.bool x18))]) (H' := []) (by kernel_rfl) (by kernel_rfl) ?_
              refine oOp (.d (.bool x18)) (by kernel_rfl) (by kernel_rfl) (PureV.does (p_assign (by kernel_rfl))) ?_
              refine oEnd ?_
              exact oRet (r0 := x18) (rv := .d (.bool x18)) (B := []) (vs := [.d (.bool x18)]) (σ := []) (by kernel_rfl) Try.func3 rfl (.cons _ _ _ _ (.tmp 4 _ (by kernel_rfl)) .nil) (by kernel_rfl) (by kernel_rfl) (by kernel_rfl) (by kernel_rfl) (by decide) (by kernel_rfl) (by kernel_rfl)
            · refine bSplit 88 (by kernel_rfl) (fun hc => ?_) (fun hc => ?_)
              · refine bCall (caps := []) (v := (fun (r122 : Bool) => (.d (.bool r122) : V))) (H' := (fun (r122 : Bool) => ([] : List Blk))) [] _ (law32_sane_goes k ) (by kernel_rfl) (by kernel_rfl) rfl (by kernel_rfl) Try.func10 rfl (by kernel_rfl) (ConvRs.refl _ _) (by kernel_rfl) (by kernel_rfl) (by kernel_rfl) (by decide) (by kernel_rfl) (by kernel_rfl) (fun _ => (by kernel_rfl)) (fun _ => (by kernel_rfl)) (fun _ => (by kernel_rfl)) (fun r122 => ?_)
                refine oOp (.d (.bool r122)) (by kernel_rfl) (by kernel_rfl) (PureV.does (p_pick (b := true) (by kernel_rfl) (by kernel_rfl))) ?_
                refine oHead [90] [] (T' := [(90, .d (.bool r122))]) (H' := []) (by kernel_rfl) (by kernel_rfl) (by kernel_rfl) (by kernel_rfl) (by decide) (by kernel_rfl) (by kernel_rfl) ?_
                exact hj5 r122
              · refine oNot (by kernel_rfl) (by kernel_rfl) ?_
                refine oOp (.d (.bool false)) (by kernel_rfl) (by kernel_rfl) (PureV.does (p_pick (b := false) (by kernel_rfl) (by kernel_rfl))) ?_
                refine oHead [90] [] (T' := [(90, .d (.bool false))]) (H' := []) (by kernel_rfl) (by kernel_rfl) (by kernel_rfl) (by kernel_rfl) (by decide) (by kernel_rfl) (by kernel_rfl) ?_
                exact hj5 false
          · refine bSplit 73 (by kernel_rfl) (fun hc => ?_) (fun hc => ?_)
            · refine oOp (.d (.int .i64 r1101)) (by kernel_rfl) (by kernel_rfl) (PureV.does (p_move (by kernel_rfl))) ?_
              refine oOp (.d (.bool (r1101 == 0))) (by kernel_rfl) (by kernel_rfl) (PureV.does (p_int (k := .i64) (p := r1101) (q := 0) (by kernel_rfl) (by kernel_rfl) (by kernel_rfl))) ?_
              refine oOp (.d (.bool (r1101 == 0))) (by kernel_rfl) (by kernel_rfl) (PureV.does (p_move (by kernel_rfl))) ?_
              refine bMeet 10 rfl ((fun (x19 : Bool) => [(73, .d (.bool true)), (86, .d (.bool x19))])) ((fun (x19 : Bool) => [])) (fun s => s) (fun x19 => ?_) (fun hj7 => ?_)
              · refine oView (T' := [(73, .d (.bool true)), (86, .d (.bool x19))]) (H' := []) (by kernel_rfl) (by kernel_rfl) ?_
                refine oOp (.d (.bool x19)) (by kernel_rfl) (by kernel_rfl) (PureV.does (p_pick (b := true) (by kernel_rfl) (by kernel_rfl))) ?_
                refine oHead [87] [] (T' := [(87, .d (.bool x19))]) (H' := []) (by kernel_rfl) (by kernel_rfl) (by kernel_rfl) (by kernel_rfl) (by decide) (by kernel_rfl) (by kernel_rfl) ?_
                exact hj6 x19
              · refine bSplit 76 (by kernel_rfl) (fun hc => ?_) (fun hc => ?_)
                · refine oNot (by kernel_rfl) (by kernel_rfl) ?_
                  refine oNot (by kernel_rfl) (by kernel_rfl) ?_
                  refine oNot (by kernel_rfl) (by kernel_rfl) ?_
                  refine oNot (by kernel_rfl) (by kernel_rfl) ?_
                  refine oNot (by kernel_rfl) (by kernel_rfl) ?_
                  refine oNot (by kernel_rfl) (by kernel_rfl) ?_
                  refine oNot (by kernel_rfl) (by kernel_rfl) ?_
                  refine oNot (by kernel_rfl) (by kernel_rfl) ?_
                  refine oNot (by kernel_rfl) (by kernel_rfl) ?_
                  refine oOp (.d (.bool true)) (by kernel_rfl) (by kernel_rfl) (PureV.does (p_pick (b := true) (by kernel_rfl) (by kernel_rfl))) ?_
                  refine oHead [73, 86] [] (T' := [(73, .d (.bool true)), (86, .d (.bool true))]) (H' := []) (by kernel_rfl) (by kernel_rfl) (by kernel_rfl) (by kernel_rfl) (by decide) (by kernel_rfl) (by kernel_rfl) ?_
                  exact hj7 true
                · refine oOp (.d (.int .i64 r113)) (by kernel_rfl) (by kernel_rfl) (PureV.does (p_move (by kernel_rfl))) ?_
                  refine oOp (.ptr 1 1) (by kernel_rfl) (by kernel_rfl) (PureV.does (k_fieldAddr 1 0 (by kernel_rfl) Try.underlying31 rfl ty3 (by kernel_rfl))) ?_
                  refine oOp (.d (.int .i64 r161)) (by kernel_rfl) (by kernel_rfl) (Quiet.does (k_load 1 1 (by kernel_rfl) Try.underlying3 (by kernel_rfl) (by kernel_rfl))) ?_
                  refine oOp (.d (.int .i64 (IntKind.wrap .i64 (r113 * r161)))) (by kernel_rfl) (by kernel_rfl) (PureV.does (p_int (k := .i64) (p := r113) (q := r161) (by kernel_rfl) (by kernel_rfl) (by kernel_rfl))) ?_
                  refine oOp (.ptr 1 0) (by kernel_rfl) (by kernel_rfl) (PureV.does (k_fieldAddr 1 0 (by kernel_rfl) Try.underlying31 rfl ty3 (by kernel_rfl))) ?_
                  refine oOp (.d (.int .i64 r151)) (by kernel_rfl) (by kernel_rfl) (Quiet.does (k_load 1 0 (by kernel_rfl) Try.underlying3 (by kernel_rfl) (by kernel_rfl))) ?_
                  refine oOp (.d (.int .i64 r1110)) (by kernel_rfl) (by kernel_rfl) (PureV.does (p_move (by kernel_rfl))) ?_
                  refine oOp (.d (.int .i64 (IntKind.wrap .i64 (r151 * r1110)))) (by kernel_rfl) (by kernel_rfl) (PureV.does (p_int (k := .i64) (p := r151) (q := r1110) (by kernel_rfl) (by kernel_rfl) (by kernel_rfl))) ?_
                  refine oOp (.d (.bool (decide ((IntKind.wrap .i64 (r113 * r161)) < (IntKind.wrap .i64 (r151 * r1110)))))) (by kernel_rfl) (by kernel_rfl) (PureV.does (p_int (k := .i64) (p := (IntKind.wrap .i64 (r113 * r161))) (q := (IntKind.wrap .i64 (r151 * r1110))) (by kernel_rfl) (by kernel_rfl) (by kernel_rfl))) ?_
                  refine oOp (.d (.bool (decide ((IntKind.wrap .i64 (r113 * r161)) < (IntKind.wrap .i64 (r151 * r1110)))))) (by kernel_rfl) (by kernel_rfl) (PureV.does (p_pick (b := false) (by kernel_rfl) (by kernel_rfl))) ?_
                  refine oHead [73, 86] [] (T' := [(73, .d (.bool true)), (86, .d (.bool (decide ((IntKind.wrap .i64 (r113 * r161)) < (IntKind.wrap .i64 (r151 * r1110))))))]) (H' := []) (by kernel_rfl) (by kernel_rfl) (by kernel_rfl) (by kernel_rfl) (by decide) (by kernel_rfl) (by kernel_rfl) ?_
                  exact hj7 (decide ((IntKind.wrap .i64 (r113 * r161)) < (IntKind.wrap .i64 (r151 * r1110))))
            · refine oNot (by kernel_rfl) (by kernel_rfl) ?_
              refine oNot (by kernel_rfl) (by kernel_rfl) ?_
              refine oNot (by kernel_rfl) (by kernel_rfl) ?_
              refine oNot (by kernel_rfl) (by kernel_rfl) ?_
              refine oNot (by kernel_rfl) (by kernel_rfl) ?_
              refine oNot (by kernel_rfl) (by kernel_rfl) ?_
              refine oNot (by kernel_rfl) (by kernel_rfl) ?_
              refine oNot (by kernel_rfl) (by kernel_rfl) ?_
              refine oNot (by kernel_rfl) (by kernel_rfl) ?_
              refine oNot (by kernel_rfl) (by kernel_rfl) ?_
              refine oNot (by kernel_rfl) (by kernel_rfl) ?_
              refine oNot (by kernel_rfl) (by kernel_rfl) ?_
              refine oNot (by kernel_rfl) (by kernel_rfl) ?_
              refine oOp (.d (.bool false)) (by kernel_rfl) (by kernel_rfl) (PureV.does (p_pick (b := false) (by kernel_rfl) (by kernel_rfl))) ?_
              refine oHead [87] [] (T' := [(87, .d (.bool false))]) (H' := []) (by kernel_rfl) (by kernel_rfl) (by kernel_rfl) (by kernel_rfl) (by decide) (by kernel_rfl) (by kernel_rfl) ?_
              exact hj6 false
      · refine bPickF 42 (fun c => F (c || (r1111 != 0))) (by kernel_rfl) (fun hc => ?_) (fun hc => ?_)
        · refine oNot (by kernel_rfl) (by kernel_rfl) ?_
          refine oNot (by kernel_rfl) (by kernel_rfl) ?_
          refine oOp (.d (.bool true)) (by kernel_rfl) (by kernel_rfl) (PureV.does (p_pick (b := true) (by kernel_rfl) (by kernel_rfl))) ?_
          refine oHead [5, 6, 8, 9, 45] [0, 1] (T' := [(5, .ptr 0 0), (6, .ptr 1 0), (8, .d (.int .i64 r1101)), (9, .d (.int .i64 r1111)), (45, .d (.bool true))]) (H' := [.box [.d (.lit (List.map e_i64 r121))], .box [.d (.int .i64 r151), .d (.int .i64 r161)]]) (by kernel_rfl) (by kernel_rfl) (by kernel_rfl) (by kernel_rfl) (by decide) (by kernel_rfl) (by kernel_rfl) ?_
          exact hj2 true
        · refine oOp (.d (.int .i64 r1111)) (by kernel_rfl) (by kernel_rfl) (PureV.does (p_move (by kernel_rfl))) ?_
          refine oOp (.d (.bool (r1111 != 0))) (by kernel_rfl) (by kernel_rfl) (PureV.does (p_int (k := .i64) (p := r1111) (q := 0) (by kernel_rfl) (by kernel_rfl) (by kernel_rfl))) ?_
          refine oOp (.d (.bool (r1111 != 0))) (by kernel_rfl) (by kernel_rfl) (PureV.does (p_pick (b := false) (by kernel_rfl) (by kernel_rfl))) ?_
          refine oHead [5, 6, 8, 9, 45] [0, 1] (T' := [(5, .ptr 0 0), (6, .ptr 1 0), (8, .d (.int .i64 r1101)), (9, .d (.int .i64 r1111)), (45, .d (.bool (r1111 != 0)))]) (H' := [.box [.d (.lit (List.map e_i64 r121))], .box [.d (.int .i64 r151), .d (.int .i64 r161)]]) (by kernel_rfl) (by kernel_rfl) (by kernel_rfl) (by kernel_rfl) (by decide) (by kernel_rfl) (by kernel_rfl) ?_
          exact hj2 (r1111 != 0)
    · refine bPickF 35 (fun c => F (c || (decide (r151 > r161)))) (by kernel_rfl) (fun hc => ?_) (fun hc => ?_)
      · refine oNot (by kernel_rfl) (by kernel_rfl) ?_
        refine oNot (by kernel_rfl) (by kernel_rfl) ?_
        refine oNot (by kernel_rfl) (by kernel_rfl) ?_
        refine oNot (by kernel_rfl) (by kernel_rfl) ?_
        refine oNot (by kernel_rfl) (by kernel_rfl) ?_
        refine oOp (.d (.bool true)) (by kernel_rfl) (by kernel_rfl) (PureV.does (p_pick (b := true) (by kernel_rfl) (by kernel_rfl))) ?_
        refine oHead [5, 6, 8, 9, 41] [1, 2] (T' := [(5, .ptr 0 0), (6, .ptr 1 0), (8, .d (.int .i64 r1101)), (9, .d (.int .i64 r1111)), (41, .d (.bool true))]) (H' := [.box [.d (.lit (List.map e_i64 r121))], .box [.d (.int .i64 r151), .d (.int .i64 r161)]]) (by kernel_rfl) (by kernel_rfl) (by kernel_rfl) (by kernel_rfl) (by decide) (by kernel_rfl) (by kernel_rfl) ?_
        exact hj1 true
      · refine oOp (.ptr 2 0) (by kernel_rfl) (by kernel_rfl) (PureV.does (k_fieldAddr 2 0 (by kernel_rfl) Try.underlying31 rfl ty3 (by kernel_rfl))) ?_
        refine oOp (.d (.int .i64 r151)) (by kernel_rfl) (by kernel_rfl) (Quiet.does (k_load 2 0 (by kernel_rfl) Try.underlying3 (by kernel_rfl) (by kernel_rfl))) ?_
        refine oOp (.ptr 2 1) (by kernel_rfl) (by kernel_rfl) (PureV.does (k_fieldAddr 2 0 (by kernel_rfl) Try.underlying31 rfl ty3 (by kernel_rfl))) ?_
        refine oOp (.d (.int .i64 r161)) (by kernel_rfl) (by kernel_rfl) (Quiet.does (k_load 2 1 (by kernel_rfl) Try.underlying3 (by kernel_rfl) (by kernel_rfl))) ?_
        refine oOp (.d (.bool (decide (r151 > r161)))) (by kernel_rfl) (by kernel_rfl) (PureV.does (p_int (k := .i64) (p := r151) (q := r161) (by kernel_rfl) (by kernel_rfl) (by kernel_rfl))) ?_
        refine oOp (.d (.bool (decide (r151 > r161)))) (by kernel_rfl) (by kernel_rfl) (PureV.does (p_pick (b := false) (by kernel_rfl) (by kernel_rfl))) ?_
        refine oHead [5, 6, 8, 9, 41] [1, 2] (T' := [(5, .ptr 0 0), (6, .ptr 1 0), (8, .d (.int .i64 r1101)), (9, .d (.int .i64 r1111)), (41, .d (.bool (decide (r151 > r161))))]) (H' := [.box [.d (.lit (List.map e_i64 r121))], .box [.d (.int .i64 r151), .d (.int .i64 r161)]]) (by kernel_rfl) (by kernel_rfl) (by kernel_rfl) (by kernel_rfl) (by decide) (by kernel_rfl) (by kernel_rfl) ?_
        exact hj1 (decide (r151 > r161))

/-- awardingbody/distribution.Make$1 -/
def distribution_Make_1 (k : Nat) (s1 : Int) (x : Int) : Option (Bool) := blet ((decide (s1 < 0)) || (decide (s1 > x))) fun x2 => some x2
def distribution_Make_1_E (s1 : Int) (x : Int) : Bool → V × List Blk := fun r1 => (.d (.bool r1), [.box [.d (.int .i64 x)]])
theorem distribution_Make_1_goes (k : Nat) (s1 : Int) (x : Int) : RunsO Try.prog 49 [.d (.int .i64 s1), .ptr 0 0] [.box [.d (.int .i64 x)]] (distribution_Make_1_E s1 x) (distribution_Make_1 k s1 x) := by
  refine RunsO.of_goes (N := 11) (m := 1) (T := [(0, .d (.int .i64 s1)), (1, .ptr 0 0)]) Try.func49 rfl rfl (by kernel_rfl) (by kernel_rfl) (by kernel_rfl) ?_
  unfold distribution_Make_1
  refine bStart ?_
  refine oSeq ?_
  refine oRegion rfl ?_
  refine oOp (.d (.bool false)) (by kernel_rfl) (by kernel_rfl) (PureV.does (p_assign (by kernel_rfl))) ?_
  refine oEnd ?_
  refine oSeq ?_
  refine oRegion rfl ?_
  refine oOp (.d (.int .i64 s1)) (by kernel_rfl) (by kernel_rfl) (PureV.does (p_move (by kernel_rfl))) ?_
  refine oOp (.d (.bool (decide (s1 < 0)))) (by kernel_rfl) (by kernel_rfl) (PureV.does (p_int (k := .i64) (p := s1) (q := 0) (by kernel_rfl) (by kernel_rfl) (by kernel_rfl))) ?_
  refine oOp (.d (.bool (decide (s1 < 0)))) (by kernel_rfl) (by kernel_rfl) (PureV.does (p_move (by kernel_rfl))) ?_
  refine bMeetF (H' := [.box [.d (.int .i64 x)]]) 4 rfl ((fun (x2 : Bool) => [(10, .d (.bool x2))])) (fun x2 => ?_) (fun F hj1 => ?_)
  · refine oView (T' := [(10, .d (.bool x2))]) (H' := [.box [.d (.int .i64 x)]]) (by kernel_rfl) (by kernel_rfl) ?_
    refine oOp (.d (.bool x2)) (by kernel_rfl) (by kernel_rfl) (PureV.does (p_assign (by kernel_rfl))) ?_
    refine oEnd ?_
    exact oRet (r0 := x2) (rv := .d (.bool x2)) (B := [.box [.d (.int .i64 x)]]) (vs := [.d (.bool x2)]) (σ := [0]) (by kernel_rfl) Try.func49 rfl (.cons _ _ _ _ (.tmp 3 _ (by kernel_rfl)) .nil) (by kernel_rfl) (by kernel_rfl) (by kernel_rfl) (by kernel_rfl) (by decide) (by kernel_rfl) (by kernel_rfl)
  · refine bPickF 6 (fun c => F (c || (decide (s1 > x)))) (by kernel_rfl) (fun hc => ?_) (fun hc => ?_)
    · refine oNot (by kernel_rfl) (by kernel_rfl) ?_
      refine oNot (by kernel_rfl) (by kernel_rfl) ?_
      refine oNot (by kernel_rfl) (by kernel_rfl) ?_
      refine oOp (.d (.bool true)) (by kernel_rfl) (by kernel_rfl) (PureV.does (p_pick (b := true) (by kernel_rfl) (by kernel_rfl))) ?_
      refine oHead [10] [0] (T' := [(10, .d (.bool true))]) (H' := [.box [.d (.int .i64 x)]]) (by kernel_rfl) (by kernel_rfl) (by kernel_rfl) (by kernel_rfl) (by decide) (by kernel_rfl) (by kernel_rfl) ?_
      exact hj1 true
    · refine oOp (.d (.int .i64 s1)) (by kernel_rfl) (by kernel_rfl) (PureV.does (p_move (by kernel_rfl))) ?_
      refine oOp (.d (.int .i64 x)) (by kernel_rfl) (by kernel_rfl) (Quiet.does (k_load 0 0 (by kernel_rfl) Try.underlying3 (by kernel_rfl) (by kernel_rfl))) ?_
      refine oOp (.d (.bool (decide (s1 > x)))) (by kernel_rfl) (by kernel_rfl) (PureV.does (p_int (k := .i64) (p := s1) (q := x) (by kernel_rfl) (by kernel_rfl) (by kernel_rfl))) ?_
      refine oOp (.d (.bool (decide (s1 > x)))) (by kernel_rfl) (by kernel_rfl) (PureV.does (p_pick (b := false) (by kernel_rfl) (by kernel_rfl))) ?_
      refine oHead [10] [0] (T' := [(10, .d (.bool (decide (s1 > x))))]) (H' := [.box [.d (.int .i64 x)]]) (by kernel_rfl) (by kernel_rfl) (by kernel_rfl) (by kernel_rfl) (by decide) (by kernel_rfl) (by kernel_rfl) ?_
      exact hj1 (decide (s1 > x))

/-- slices.IndexFunc[[]int,int] -/
def slices_IndexFunc_int_2_b1 (k : Nat) (s1 : (List Int)) (x : Int) (again : Int → Option ((Unit) ⊕ (Int))) : Int → Option ((Unit) ⊕ (Int)) := fun x5 => bif (decide (x5 < ((List.length s1) : Int))) then gidx s1 x5 fun e113 => Option.bind (distribution_Make_1 k e113 x) (fun r114 => bif r114 then some (Sum.inr x5) else again (IntKind.wrap .i64 (x5 + 1))) else some (Sum.inl ())
def slices_IndexFunc_int_2 (k : Nat) (s1 : (List Int)) (x : Int) : Option (Int) := Option.bind (gloop (slices_IndexFunc_int_2_b1 k s1 x) k 0 : Option ((Unit) ⊕ (Int))) (Sum.elim (u0 (some (-1))) (fun r => some r))
def slices_IndexFunc_int_2_E (s1 : (List Int)) (x : Int) : Int → V × List Blk := fun r14 => (.d (.int .i64 r14), [.box [.d (.int .i64 x)]])
theorem slices_IndexFunc_int_2_goes (k : Nat) (s1 : (List Int)) (x : Int) : RunsO Try.prog 65 [.d (.lit (List.map e_i64 s1)), .fn 49 [.ptr 0 0]] [.box [.d (.int .i64 x)]] (slices_IndexFunc_int_2_E s1 x) (slices_IndexFunc_int_2 k s1 x) := by
  refine RunsO.of_goes (N := 19) (m := 1) (T := [(0, .d (.lit (List.map e_i64 s1))), (1, .fn 49 [.ptr 0 0])]) Try.func65 rfl rfl (by kernel_rfl) (by kernel_rfl) (by kernel_rfl) ?_
  unfold slices_IndexFunc_int_2
  refine bStart ?_
  refine oSeq ?_
  refine oRegion rfl ?_
  refine oOp (.d (.int .i64 0)) (by kernel_rfl) (by kernel_rfl) (PureV.does (p_assign (by kernel_rfl))) ?_
  refine oEnd ?_
  refine oSeq ?_
  refine oSeq ?_
  refine oRegion rfl ?_
  refine oOp (.d (.lit (List.map e_i64 s1))) (by kernel_rfl) (by kernel_rfl) (PureV.does (p_move (by kernel_rfl))) ?_
  refine oOp (.d (.int .i64 ((List.length s1) : Int))) (by kernel_rfl) (by kernel_rfl) (PureV.does (k_lenLit (enc := e_i64) s1 (by kernel_rfl) Try.underlying22)) ?_
  refine oOp (.d (.int .i64 0)) (by kernel_rfl) (by kernel_rfl) (PureV.does (p_move (by kernel_rfl))) ?_
  refine oEnd ?_
  refine bJoin ((u0 ([]))) ((u0 ([.box [.d (.int .i64 x)]]))) Sum.inl (fun s => ?_) (fun hj2 => ?_)
  · cases s
    refine bInl ?_
    refine bU0 ?_
    refine oView (T' := []) (H' := [.box [.d (.int .i64 x)]]) (by kernel_rfl) (by kernel_rfl) ?_
    refine oSeq ?_
    refine oRegion rfl ?_
    refine oOp (.d (.int .i64 (-1))) (by kernel_rfl) (by kernel_rfl) (PureV.does (p_assign (by kernel_rfl))) ?_
    refine oEnd ?_
    exact oRet (r0 := (-1)) (rv := .d (.int .i64 (-1))) (B := [.box [.d (.int .i64 x)]]) (vs := [.d (.int .i64 (-1))]) (σ := [0]) (by kernel_rfl) Try.func65 rfl (.cons _ _ _ _ (.tmp 4 _ (by kernel_rfl)) .nil) (by kernel_rfl) (by kernel_rfl) (by kernel_rfl) (by kernel_rfl) (by decide) (by kernel_rfl) (by kernel_rfl)
  · refine oBlock ?_
    refine oLoop ?_
    refine oHead [0, 1, 7, 8] [0] (T' := [(0, .d (.lit (List.map e_i64 s1))), (1, .fn 49 [.ptr 0 0]), (7, .d (.int .i64 ((List.length s1) : Int))), (8, .d (.int .i64 0))]) (H' := [.box [.d (.int .i64 x)]]) (by kernel_rfl) (by kernel_rfl) (by kernel_rfl) (by kernel_rfl) (by decide) (by kernel_rfl) (by kernel_rfl) ?_
    refine bLoop (body := slices_IndexFunc_int_2_b1 k s1 x) ((fun (x5 : Int) => [(0, .d (.lit (List.map e_i64 s1))), (1, .fn 49 [.ptr 0 0]), (7, .d (.int .i64 ((List.length s1) : Int))), (8, .d (.int .i64 x5))])) ((fun (x5 : Int) => [.box [.d (.int .i64 x)]])) (fun again hag1 x5 => ?_) k 0
    · unfold slices_IndexFunc_int_2_b1
      refine oView (T' := [(0, .d (.lit (List.map e_i64 s1))), (1, .fn 49 [.ptr 0 0]), (7, .d (.int .i64 ((List.length s1) : Int))), (8, .d (.int .i64 x5))]) (H' := [.box [.d (.int .i64 x)]]) (by kernel_rfl) (by kernel_rfl) ?_
      refine oSeq ?_
      refine oRegion rfl ?_
      refine oOp (.d (.bool (decide (x5 < ((List.length s1) : Int))))) (by kernel_rfl) (by kernel_rfl) (PureV.does (p_int (k := .i64) (p := x5) (q := ((List.length s1) : Int)) (by kernel_rfl) (by kernel_rfl) (by kernel_rfl))) ?_
      refine oEnd ?_
      refine oSeq ?_
      refine bSplit 9 (by kernel_rfl) (fun hc => ?_) (fun hc => ?_)
      · refine oCondT (by kernel_rfl) ?_
        refine oSkip ?_
        refine oSeq ?_
        refine oBlock ?_
        refine oSeq ?_
        refine oRegion rfl ?_
        refine oOp (.d (.int .i64 x5)) (by kernel_rfl) (by kernel_rfl) (PureV.does (p_move (by kernel_rfl))) ?_
        refine oOp (.d (.int .i64 x5)) (by kernel_rfl) (by kernel_rfl) (PureV.does (p_assign (by kernel_rfl))) ?_
        refine oEnd ?_
        refine oSeq ?_
        refine oRegion rfl ?_
        refine oOp (.fn 49 [.ptr 0 0]) (by kernel_rfl) (by kernel_rfl) (PureV.does (p_move (by kernel_rfl))) ?_
        refine oOp (.d (.lit (List.map e_i64 s1))) (by kernel_rfl) (by kernel_rfl) (PureV.does (p_move (by kernel_rfl))) ?_
        refine oOp (.d (.int .i64 x5)) (by kernel_rfl) (by kernel_rfl) (PureV.does (p_move (by kernel_rfl))) ?_
        refine bIdx (fun e113 h126 h127 => ?_)
        refine oOp (.lptr (e_i64 e113) 0) (by kernel_rfl) (by kernel_rfl) (PureV.does (k_idxLit e_i64_len s1 (a := e113) (by kernel_rfl) (k := .i64) (i := x5) (by kernel_rfl) Try.underlying22 ty3 h126 h127)) ?_
        refine oOp (.d (.int .i64 e113)) (by kernel_rfl) (by kernel_rfl) (Quiet.does (k_loadL (cells := e_i64 e113) 0 (by kernel_rfl) Try.underlying3 (by kernel_rfl) (by kernel_rfl))) ?_
        refine bCall (caps := [.ptr 0 0]) (v := (fun (r114 : Bool) => (.d (.bool r114) : V))) (H' := (fun (r114 : Bool) => ([.box [.d (.int .i64 x)]] : List Blk))) [0] _ (distribution_Make_1_goes k e113 x) (by kernel_rfl) (by kernel_rfl) rfl (by kernel_rfl) Try.func49 rfl (by kernel_rfl) (ConvRs.refl _ _) (by kernel_rfl) (by kernel_rfl) (by kernel_rfl) (by decide) (by kernel_rfl) (by kernel_rfl) (fun _ => (by kernel_rfl)) (fun _ => (by kernel_rfl)) (fun _ => (by kernel_rfl)) (fun r114 => ?_)
        refine oEnd ?_
        refine bSplit 16 (by kernel_rfl) (fun hc => ?_) (fun hc => ?_)
        · refine oCondT (by kernel_rfl) ?_
          refine oSeq ?_
          refine oRegion rfl ?_
          refine oOp (.d (.int .i64 x5)) (by kernel_rfl) (by kernel_rfl) (PureV.does (p_move (by kernel_rfl))) ?_
          refine oOp (.d (.int .i64 x5)) (by kernel_rfl) (by kernel_rfl) (PureV.does (p_assign (by kernel_rfl))) ?_
          refine oEnd ?_
          exact oRet (r0 := x5) (rv := .d (.int .i64 x5)) (B := [.box [.d (.int .i64 x)]]) (vs := [.d (.int .i64 x5)]) (σ := [0]) (by kernel_rfl) Try.func65 rfl (.cons _ _ _ _ (.tmp 4 _ (by kernel_rfl)) .nil) (by kernel_rfl) (by kernel_rfl) (by kernel_rfl) (by kernel_rfl) (by decide) (by kernel_rfl) (by kernel_rfl)
        · refine oCondF (by kernel_rfl) ?_
          refine oSkip ?_
          refine oBlk ?_
          refine oRegion rfl ?_
          refine oOp (.d (.int .i64 (IntKind.wrap .i64 (x5 + 1)))) (by kernel_rfl) (by kernel_rfl) (PureV.does (p_int (k := .i64) (p := x5) (q := 1) (by kernel_rfl) (by kernel_rfl) (by kernel_rfl))) ?_
          refine oOp (.d (.int .i64 (IntKind.wrap .i64 (x5 + 1)))) (by kernel_rfl) (by kernel_rfl) (PureV.does (p_move (by kernel_rfl))) ?_
          refine oEnd ?_
          refine oAgain ?_
          refine oHead [0, 1, 7, 8] [0] (T' := [(0, .d (.lit (List.map e_i64 s1))), (1, .fn 49 [.ptr 0 0]), (7, .d (.int .i64 ((List.length s1) : Int))), (8, .d (.int .i64 (IntKind.wrap .i64 (x5 + 1))))]) (H' := [.box [.d (.int .i64 x)]]) (by kernel_rfl) (by kernel_rfl) (by kernel_rfl) (by kernel_rfl) (by decide) (by kernel_rfl) (by kernel_rfl) ?_
          exact hag1 (IntKind.wrap .i64 (x5 + 1))
      · refine oCondF (by kernel_rfl) ?_
        refine oExit rfl ?_
        refine oHead [] [0] (T' := []) (H' := [.box [.d (.int .i64 x)]]) (by kernel_rfl) (by kernel_rfl) (by kernel_rfl) (by kernel_rfl) (by decide) (by kernel_rfl) (by kernel_rfl) ?_
        exact hj2 ()

/-- slices.ContainsFunc[[]int,int] -/
def slices_ContainsFunc_int_2 (k : Nat) (s1 : (List Int)) (x : Int) : Option (Bool) := Option.bind (slices_IndexFunc_int_2 k s1 x) (fun r141 => some (decide (r141 ≥ 0)))
def slices_ContainsFunc_int_2_E (s1 : (List Int)) (x : Int) : Bool → V × List Blk := fun r1 => (.d (.bool r1), [.box [.d (.int .i64 x)]])
theorem slices_ContainsFunc_int_2_goes (k : Nat) (s1 : (List Int)) (x : Int) : RunsO Try.prog 48 [.d (.lit (List.map e_i64 s1)), .fn 49 [.ptr 0 0]] [.box [.d (.int .i64 x)]] (slices_ContainsFunc_int_2_E s1 x) (slices_ContainsFunc_int_2 k s1 x) := by
  refine RunsO.of_goes (N := 9) (m := 1) (T := [(0, .d (.lit (List.map e_i64 s1))), (1, .fn 49 [.ptr 0 0])]) Try.func48 rfl rfl (by kernel_rfl) (by kernel_rfl) (by kernel_rfl) ?_
  unfold slices_ContainsFunc_int_2
  refine bStart ?_
  refine oSeq ?_
  refine oRegion rfl ?_
  refine oOp (.d (.bool false)) (by kernel_rfl) (by kernel_rfl) (PureV.does (p_assign (by kernel_rfl))) ?_
  refine oEnd ?_
  refine oSeq ?_
  refine oRegion rfl ?_
  refine oOp (.d (.lit (List.map e_i64 s1))) (by kernel_rfl) (by kernel_rfl) (PureV.does (p_move (by kernel_rfl))) ?_
  refine oOp (.fn 49 [.ptr 0 0]) (by kernel_rfl) (by kernel_rfl) (PureV.does (p_move (by kernel_rfl))) ?_
  refine bCall (caps := []) (v := (fun (r141 : Int) => (.d (.int .i64 r141) : V))) (H' := (fun (r141 : Int) => ([.box [.d (.int .i64 x)]] : List Blk))) [0] _ (slices_IndexFunc_int_2_goes k s1 x) (by kernel_rfl) (by kernel_rfl) rfl (by kernel_rfl) Try.func65 rfl (by kernel_rfl) (ConvRs.refl _ _) (by kernel_rfl) (by kernel_rfl) (by kernel_rfl) (by decide) (by kernel_rfl) (by kernel_rfl) (fun _ => (by kernel_rfl)) (fun _ => (by kernel_rfl)) (fun _ => (by kernel_rfl)) (fun r141 => ?_)
  refine oOp (.d (.bool (decide (r141 ≥ 0)))) (by kernel_rfl) (by kernel_rfl) (PureV.does (p_int (k := .i64) (p := r141) (q := 0) (by kernel_rfl) (by kernel_rfl) (by kernel_rfl))) ?_
  refine oOp (.d (.bool (decide (r141 ≥ 0)))) (by kernel_rfl) (by kernel_rfl) (PureV.does (p_assign (by kernel_rfl))) ?_
  refine oEnd ?_
  exact oRet (r0 := (decide (r141 ≥ 0))) (rv := .d (.bool (decide (r141 ≥ 0)))) (B := [.box [.d (.int .i64 x)]]) (vs := [.d (.bool (decide (r141 ≥ 0)))]) (σ := [0]) (by kernel_rfl) Try.func48 rfl (.cons _ _ _ _ (.tmp 4 _ (by kernel_rfl)) .nil) (by kernel_rfl) (by kernel_rfl) (by kernel_rfl) (by kernel_rfl) (by decide) (by kernel_rfl) (by kernel_rfl)

/-- awardingbody/distribution.Make -/
def distribution_Make_b1 (k : Nat) (scores : (List Int)) (again : Int × (List Int) → Option ((List Int))) : Int × (List Int) → Option ((List Int)) := uc fun x8 => fun xs18 => bif (decide (x8 < ((List.length scores) : Int))) then gidx scores x8 fun e126 => gidx xs18 e126 fun e127 => blet (List.set xs18 (Int.toNat e126) (IntKind.wrap .i64 (e127 + 1))) fun xs23 => again ((IntKind.wrap .i64 (x8 + 1)), xs23) else some xs18
def distribution_Make (k : Nat) (scores : (List Int)) (most : Int) : Option ((List Int) × Int) := blet ((decide (most < 0)) || (decide (most > 200))) fun x4 => Option.bind (bif x4 then some true else Option.bind (slices_ContainsFunc_int_2 k scores most) (fun r14 => some r14) : Option (Bool)) (fun x5 => bif x5 then some ([], 2) else bif (decide (((List.length scores) : Int) > 1048576)) then some ([], 3) else gmake (IntKind.wrap .i64 (most + 1)) 8 (blet (List.replicate (Int.toNat (IntKind.wrap .i64 (most + 1))) 0) fun xs8 => Option.bind (gloop (distribution_Make_b1 k scores) k (0, xs8) : Option ((List Int))) (fun xs15 => some (xs15, 0))))
def distribution_Make_E (scores : (List Int)) (most : Int) : (List Int) × Int → V × List Blk := uc fun r11 => fun r12 => (.tuple [.agg [.d (.lit (List.map e_i64 r11))], .d (.int .i64 r12)], [])
theorem distribution_Make_goes (k : Nat) (scores : (List Int)) (most : Int) : RunsO Try.prog 17 [.d (.lit (List.map e_i64 scores)), .d (.int .i64 most)] [] (distribution_Make_E scores most) (distribution_Make k scores most) := by
  refine RunsO.of_goes (N := 44) (m := 0) (T := [(0, .d (.lit (List.map e_i64 scores))), (1, .d (.int .i64 most))]) Try.func17 rfl rfl (by kernel_rfl) (by kernel_rfl) (by kernel_rfl) ?_
  unfold distribution_Make
  refine bStart ?_
  refine oSeq ?_
  refine oRegion rfl ?_
  refine oOp (.ptr 0 0) (by kernel_rfl) (by kernel_rfl) (k_box (H' := [.box [.d (.int .i64 most)]]) (cells := [.d (.int .i64 most)]) (by kernel_rfl) (by kernel_rfl) (by kernel_rfl)) ?_
  refine oOp (.ptr 1 0) (by kernel_rfl) (by kernel_rfl) (k_alloc (H' := [.box [.d (.int .i64 most)], .box [.nilc]]) ty26 (by kernel_rfl) (by kernel_rfl)) ?_
  refine oOp (.d (.int .i64 0)) (by kernel_rfl) (by kernel_rfl) (PureV.does (p_assign (by kernel_rfl))) ?_
  refine oEnd ?_
  refine oSeq ?_
  refine oSeq ?_
  refine oRegion rfl ?_
  refine oOp (.d (.int .i64 most)) (by kernel_rfl) (by kernel_rfl) (Quiet.does (k_load 0 0 (by kernel_rfl) Try.underlying3 (by kernel_rfl) (by kernel_rfl))) ?_
  refine oOp (.d (.bool (decide (most < 0)))) (by kernel_rfl) (by kernel_rfl) (PureV.does (p_int (k := .i64) (p := most) (q := 0) (by kernel_rfl) (by kernel_rfl) (by kernel_rfl))) ?_
  refine oOp (.d (.bool (decide (most < 0)))) (by kernel_rfl) (by kernel_rfl) (PureV.does (p_move (by kernel_rfl))) ?_
  refine bMeetF (H' := [.box [.d (.int .i64 most)], .box [.nilc]]) 3 rfl ((fun (x4 : Bool) => [(0, .d (.lit (List.map e_i64 scores))), (3, .ptr 0 0), (4, .ptr 1 0), (14, .d (.bool x4))])) (fun x4 => ?_) (fun F hj2 => ?_)
  · refine oView (T' := [(0, .d (.lit (List.map e_i64 scores))), (3, .ptr 0 0), (4, .ptr 1 0), (14, .d (.bool x4))]) (H' := [.box [.d (.int .i64 most)], .box [.nilc]]) (by kernel_rfl) (by kernel_rfl) ?_
    refine oOp (.d (.bool x4)) (by kernel_rfl) (by kernel_rfl) (PureV.does (p_move (by kernel_rfl))) ?_
    refine bMeet 4 rfl ((fun (x5 : Bool) => [(0, .d (.lit (List.map e_i64 scores))), (3, .ptr 0 0), (4, .ptr 1 0), (19, .d (.bool x5))])) ((fun (x5 : Bool) => [.box [.d (.int .i64 most)], .box [.nilc]])) (fun s => s) (fun x5 => ?_) (fun hj4 => ?_)
    · refine oView (T' := [(0, .d (.lit (List.map e_i64 scores))), (3, .ptr 0 0), (4, .ptr 1 0), (19, .d (.bool x5))]) (H' := [.box [.d (.int .i64 most)], .box [.nilc]]) (by kernel_rfl) (by kernel_rfl) ?_
      refine oEnd ?_
      refine bSplit 19 (by kernel_rfl) (fun hc => ?_) (fun hc => ?_)
      · refine oCondT (by kernel_rfl) ?_
        refine oSeq ?_
        refine oRegion rfl ?_
        refine oOp (.agg [.nilc]) (by kernel_rfl) (by kernel_rfl) (PureV.does (p_build bld26 (by kernel_rfl))) ?_
        refine oOp (.undef) (by kernel_rfl) (by kernel_rfl) (k_store (vs := [.nilc]) (H' := [.box [.d (.int .i64 most)], .box [.nilc]]) 1 0 (by kernel_rfl) ty26 (by kernel_rfl) (by kernel_rfl) (by kernel_rfl)) ?_
        refine oOp (.d (.int .i64 2)) (by kernel_rfl) (by kernel_rfl) (PureV.does (p_assign (by kernel_rfl))) ?_
        refine oEnd ?_
        refine oConvB 1 (cells := [.nilc]) (cells' := [.d (.lit (List.map e_i64 []))]) (by kernel_rfl) (.cons _ _ _ _ .nil .nil) ?_
        refine oView (H' := [.box [.d (.int .i64 most)], .box [.d (.lit (List.map e_i64 []))]]) rfl (by kernel_rfl) ?_
        exact oRet (r0 := ([], 2)) (rv := .tuple [.agg [.d (.lit (List.map e_i64 []))], .d (.int .i64 2)]) (B := []) (vs := [.agg [.d (.lit (List.map e_i64 []))], .d (.int .i64 2)]) (σ := []) (by kernel_rfl) Try.func17 rfl (.cons _ _ _ _ (.agg 4 26 1 0 [.d (.lit (List.map e_i64 []))] [.d (.lit (List.map e_i64 []))] _ _ _ _ (by kernel_rfl) (by kernel_rfl) Try.underlying26 (by kernel_rfl) ty26 (by kernel_rfl) (by kernel_rfl)) (.cons _ _ _ _ (.tmp 5 _ (by kernel_rfl)) .nil)) (by kernel_rfl) (by kernel_rfl) (by kernel_rfl) (by kernel_rfl) (by decide) (by kernel_rfl) (by kernel_rfl)
      · refine oCondF (by kernel_rfl) ?_
        refine oSkip ?_
        refine oSeq ?_
        refine oSeq ?_
        refine oRegion rfl ?_
        refine oOp (.d (.lit (List.map e_i64 scores))) (by kernel_rfl) (by kernel_rfl) (PureV.does (p_move (by kernel_rfl))) ?_
        refine oOp (.d (.int .i64 ((List.length scores) : Int))) (by kernel_rfl) (by kernel_rfl) (PureV.does (k_lenLit (enc := e_i64) scores (by kernel_rfl) Try.underlying22)) ?_
        refine oOp (.d (.bool (decide (((List.length scores) : Int) > 1048576)))) (by kernel_rfl) (by kernel_rfl) (PureV.does (p_int (k := .i64) (p := ((List.length scores) : Int)) (q := 1048576) (by kernel_rfl) (by kernel_rfl) (by kernel_rfl))) ?_
        refine oEnd ?_
        refine bSplit 23 (by kernel_rfl) (fun hc => ?_) (fun hc => ?_)
        · refine oCondT (by kernel_rfl) ?_
          refine oSeq ?_
          refine oRegion rfl ?_
          refine oOp (.agg [.nilc]) (by kernel_rfl) (by kernel_rfl) (PureV.does (p_build bld26 (by kernel_rfl))) ?_
          refine oOp (.undef) (by kernel_rfl) (by kernel_rfl) (k_store (vs := [.nilc]) (H' := [.box [.d (.int .i64 most)], .box [.nilc]]) 1 0 (by kernel_rfl) ty26 (by kernel_rfl) (by kernel_rfl) (by kernel_rfl)) ?_
          refine oOp (.d (.int .i64 3)) (by kernel_rfl) (by kernel_rfl) (PureV.does (p_assign (by kernel_rfl))) ?_
          refine oEnd ?_
          refine oConvB 1 (cells := [.nilc]) (cells' := [.d (.lit (List.map e_i64 []))]) (by kernel_rfl) (.cons _ _ _ _ .nil .nil) ?_
          refine oView (H' := [.box [.d (.int .i64 most)], .box [.d (.lit (List.map e_i64 []))]]) rfl (by kernel_rfl) ?_
          exact oRet (r0 := ([], 3)) (rv := .tuple [.agg [.d (.lit (List.map e_i64 []))], .d (.int .i64 3)]) (B := []) (vs := [.agg [.d (.lit (List.map e_i64 []))], .d (.int .i64 3)]) (σ := []) (by kernel_rfl) Try.func17 rfl (.cons _ _ _ _ (.agg 4 26 1 0 [.d (.lit (List.map e_i64 []))] [.d (.lit (List.map e_i64 []))] _ _ _ _ (by kernel_rfl) (by kernel_rfl) Try.underlying26 (by kernel_rfl) ty26 (by kernel_rfl) (by kernel_rfl)) (.cons _ _ _ _ (.tmp 5 _ (by kernel_rfl)) .nil)) (by kernel_rfl) (by kernel_rfl) (by kernel_rfl) (by kernel_rfl) (by decide) (by kernel_rfl) (by kernel_rfl)
        · refine oCondF (by kernel_rfl) ?_
          refine oSkip ?_
          refine oSeq ?_
          refine oRegion rfl ?_
          refine oOp (.d (.int .i64 most)) (by kernel_rfl) (by kernel_rfl) (Quiet.does (k_load 0 0 (by kernel_rfl) Try.underlying3 (by kernel_rfl) (by kernel_rfl))) ?_
          refine oOp (.d (.int .i64 (IntKind.wrap .i64 (most + 1)))) (by kernel_rfl) (by kernel_rfl) (PureV.does (p_int (k := .i64) (p := most) (q := 1) (by kernel_rfl) (by kernel_rfl) (by kernel_rfl))) ?_
          refine bMake (fun h118 h119 => ?_)
          refine bSet _ (fun xs8 hs5 => ?_)
          refine oOp (.ref 2 (Int.toNat (IntKind.wrap .i64 (most + 1))) 0 (Int.toNat (IntKind.wrap .i64 (most + 1)))) (by kernel_rfl) (by kernel_rfl) (k_make (enc := e_i64) (k1 := .i64) (k2 := .i64) (H' := [.box [.d (.int .i64 most)], .box [.nilc], .sl 1 (List.map e_i64 xs8) false]) 0 [(.int .i64 0)] (by kernel_rfl) (by kernel_rfl) Try.underlying22 ty3 (by kernel_rfl) (by kernel_rfl) (by kernel_rfl) h118 h119 (by subst hs5; rfl)) ?_
          refine oHead [0, 4, 27] [0, 1, 2] (T' := [(0, .d (.lit (List.map e_i64 scores))), (4, .ptr 1 0), (27, .ref 2 (Int.toNat (IntKind.wrap .i64 (most + 1))) 0 (Int.toNat (IntKind.wrap .i64 (most + 1))))]) (H' := [.box [.d (.int .i64 most)], .box [.nilc], .sl 1 (List.map e_i64 xs8) false]) (by kernel_rfl) (by kernel_rfl) (by kernel_rfl) (by kernel_rfl) (by decide) (by kernel_rfl) (by kernel_rfl) ?_
          refine oView (T' := [(0, .d (.lit (List.map e_i64 scores))), (4, .ptr 1 0), (27, .ref 2 (List.length xs8) 0 (List.length xs8))]) (H' := [.box [.d (.int .i64 most)], .box [.nilc], .sl 1 (List.map e_i64 xs8) false]) (by first | rw [(rep_len hs5)] | rfl) (by first | rw [(rep_len hs5)] | rfl) ?_
          refine oOp (.agg [.ref 2 (List.length xs8) 0 (List.length xs8)]) (by kernel_rfl) (by kernel_rfl) (PureV.does (p_build bld26 (by kernel_rfl))) ?_
          refine oOp (.ptr 3 0) (by kernel_rfl) (by kernel_rfl) (k_alloc (H' := [.box [.d (.int .i64 most)], .box [.nilc], .sl 1 (List.map e_i64 xs8) false, .box [.nilc]]) ty26 (by kernel_rfl) (by kernel_rfl)) ?_
          refine oOp (.undef) (by kernel_rfl) (by kernel_rfl) (k_store (vs := [.ref 2 (List.length xs8) 0 (List.length xs8)]) (H' := [.box [.d (.int .i64 most)], .box [.nilc], .sl 1 (List.map e_i64 xs8) false, .box [.ref 2 (List.length xs8) 0 (List.length xs8)]]) 3 0 (by kernel_rfl) ty26 (by kernel_rfl) (by kernel_rfl) (by kernel_rfl)) ?_
          refine oEnd ?_
          refine oSeq ?_
          refine oSeq ?_
          refine oRegion rfl ?_
          refine oOp (.d (.lit (List.map e_i64 scores))) (by kernel_rfl) (by kernel_rfl) (PureV.does (p_move (by kernel_rfl))) ?_
          refine oOp (.d (.int .i64 ((List.length scores) : Int))) (by kernel_rfl) (by kernel_rfl) (PureV.does (k_lenLit (enc := e_i64) scores (by kernel_rfl) Try.underlying22)) ?_
          refine oOp (.d (.int .i64 0)) (by kernel_rfl) (by kernel_rfl) (PureV.does (p_move (by kernel_rfl))) ?_
          refine oEnd ?_
          refine bJoin ((fun (xs15 : (List Int)) => [(4, .ptr 0 0), (6, .ptr 1 0)])) ((fun (xs15 : (List Int)) => [.box [.nilc], .box [.ref 2 (List.length xs15) 0 (List.length xs15)], .sl 1 (List.map e_i64 xs15) false])) (fun s => s) (fun xs15 => ?_) (fun hj3 => ?_)
          · refine oView (T' := [(4, .ptr 0 0), (6, .ptr 1 0)]) (H' := [.box [.nilc], .box [.ref 2 (List.length xs15) 0 (List.length xs15)], .sl 1 (List.map e_i64 xs15) false]) (by kernel_rfl) (by kernel_rfl) ?_
            refine oSeq ?_
            refine oRegion rfl ?_
            refine oOp (.agg [.ref 2 (List.length xs15) 0 (List.length xs15)]) (by kernel_rfl) (by kernel_rfl) (Quiet.does (k_loadAgg 1 0 (by kernel_rfl) Try.underlying26 (by kernel_rfl) ty26 (by kernel_rfl))) ?_
            refine oOp (.undef) (by kernel_rfl) (by kernel_rfl) (k_store (vs := [.ref 2 (List.length xs15) 0 (List.length xs15)]) (H' := [.box [.ref 2 (List.length xs15) 0 (List.length xs15)], .box [.ref 2 (List.length xs15) 0 (List.length xs15)], .sl 1 (List.map e_i64 xs15) false]) 0 0 (by kernel_rfl) ty26 (by kernel_rfl) (by kernel_rfl) (by kernel_rfl)) ?_
            refine oOp (.d (.int .i64 0)) (by kernel_rfl) (by kernel_rfl) (PureV.does (p_assign (by kernel_rfl))) ?_
            refine oEnd ?_
            refine oFreeze 2 (esz := 1) (xs := List.map e_i64 xs15) (by kernel_rfl) ?_
            refine oView (H' := [.box [.ref 2 (List.length xs15) 0 (List.length xs15)], .box [.ref 2 (List.length xs15) 0 (List.length xs15)], .sl 1 (List.map e_i64 xs15) true]) rfl (by kernel_rfl) ?_
            refine oConvB 0 (cells := [.ref 2 (List.length xs15) 0 (List.length xs15)]) (cells' := [.d (.lit (List.map e_i64 xs15))]) (by kernel_rfl) (.cons _ _ _ _ (k_lit (enc := e_i64) (sz := 1) 2 xs15 (by kernel_rfl)) .nil) ?_
            refine oView (H' := [.box [.d (.lit (List.map e_i64 xs15))], .box [.ref 2 (List.length xs15) 0 (List.length xs15)], .sl 1 (List.map e_i64 xs15) true]) rfl (by kernel_rfl) ?_
            exact oRet (r0 := (xs15, 0)) (rv := .tuple [.agg [.d (.lit (List.map e_i64 xs15))], .d (.int .i64 0)]) (B := []) (vs := [.agg [.d (.lit (List.map e_i64 xs15))], .d (.int .i64 0)]) (σ := []) (by kernel_rfl) Try.func17 rfl (.cons _ _ _ _ (.agg 4 26 0 0 [.d (.lit (List.map e_i64 xs15))] [.d (.lit (List.map e_i64 xs15))] _ _ _ _ (by kernel_rfl) (by kernel_rfl) Try.underlying26 (by kernel_rfl) ty26 (by kernel_rfl) (by kernel_rfl)) (.cons _ _ _ _ (.tmp 5 _ (by kernel_rfl)) .nil)) (by kernel_rfl) (by kernel_rfl) (by kernel_rfl) (by kernel_rfl) (by decide) (by kernel_rfl) (by kernel_rfl)
          · refine oBlock ?_
            refine oLoop ?_
            refine oHead [4, 6, 29, 30, 31] [1, 3, 2] (T' := [(4, .ptr 0 0), (6, .ptr 1 0), (29, .d (.lit (List.map e_i64 scores))), (30, .d (.int .i64 ((List.length scores) : Int))), (31, .d (.int .i64 0))]) (H' := [.box [.nilc], .box [.ref 2 (List.length xs8) 0 (List.length xs8)], .sl 1 (List.map e_i64 xs8) false]) (by kernel_rfl) (by kernel_rfl) (by kernel_rfl) (by kernel_rfl) (by decide) (by kernel_rfl) (by kernel_rfl) ?_
            refine bLoop (body := distribution_Make_b1 k scores) ((uc fun (x8 : Int) => (fun (xs18 : (List Int)) => [(4, .ptr 0 0), (6, .ptr 1 0), (29, .d (.lit (List.map e_i64 scores))), (30, .d (.int .i64 ((List.length scores) : Int))), (31, .d (.int .i64 x8))]))) ((uc fun (x8 : Int) => (fun (xs18 : (List Int)) => [.box [.nilc], .box [.ref 2 (List.length xs18) 0 (List.length xs18)], .sl 1 (List.map e_i64 xs18) false]))) (fun again hag1 s => ?_) k (0, xs8)
            · unfold distribution_Make_b1
              obtain ⟨x8, xs18⟩ := s
              refine bUc ?_
              refine oView (T' := [(4, .ptr 0 0), (6, .ptr 1 0), (29, .d (.lit (List.map e_i64 scores))), (30, .d (.int .i64 ((List.length scores) : Int))), (31, .d (.int .i64 x8))]) (H' := [.box [.nilc], .box [.ref 2 (List.length xs18) 0 (List.length xs18)], .sl 1 (List.map e_i64 xs18) false]) (by kernel_rfl) (by kernel_rfl) ?_
              refine oSeq ?_
              refine oRegion rfl ?_
              refine oOp (.d (.bool (decide (x8 < ((List.length scores) : Int))))) (by kernel_rfl) (by kernel_rfl) (PureV.does (p_int (k := .i64) (p := x8) (q := ((List.length scores) : Int)) (by kernel_rfl) (by kernel_rfl) (by kernel_rfl))) ?_
              refine oEnd ?_
              refine oSeq ?_
              refine bSplit 32 (by kernel_rfl) (fun hc => ?_) (fun hc => ?_)
              · refine oCondT (by kernel_rfl) ?_
                refine oSkip ?_
                refine oSeq ?_
                refine oBlock ?_
                refine oSeq ?_
                refine oRegion rfl ?_
                refine bIdx (fun e126 h156 h157 => ?_)
                refine oOp (.lptr (e_i64 e126) 0) (by kernel_rfl) (by kernel_rfl) (PureV.does (k_idxLit e_i64_len scores (a := e126) (by kernel_rfl) (k := .i64) (i := x8) (by kernel_rfl) Try.underlying22 ty3 h156 h157)) ?_
                refine oOp (.d (.int .i64 e126)) (by kernel_rfl) (by kernel_rfl) (Quiet.does (k_loadL (cells := e_i64 e126) 0 (by kernel_rfl) Try.underlying3 (by kernel_rfl) (by kernel_rfl))) ?_
                refine oOp (.d (.int .i64 e126)) (by kernel_rfl) (by kernel_rfl) (PureV.does (p_assign (by kernel_rfl))) ?_
                refine oEnd ?_
                refine oRegion rfl ?_
                refine oOp (.ptr 1 0) (by kernel_rfl) (by kernel_rfl) (PureV.does (k_fieldAddr 1 0 (by kernel_rfl) Try.underlying26 rfl ty22 (by kernel_rfl))) ?_
                refine oOp (.ref 2 (List.length xs18) 0 (List.length xs18)) (by kernel_rfl) (by kernel_rfl) (Quiet.does (k_load 1 0 (by kernel_rfl) Try.underlying22 (by kernel_rfl) (by kernel_rfl))) ?_
                refine oOp (.d (.int .i64 e126)) (by kernel_rfl) (by kernel_rfl) (PureV.does (p_move (by kernel_rfl))) ?_
                refine bIdx (fun e127 h158 h159 => ?_)
                refine oOp (.eptr 2 (List.length xs18) (Int.toNat e126) 0) (by kernel_rfl) (by kernel_rfl) (PureV.does (k_idxRef (enc := e_i64) (fro := false) xs18 (a := e127) (by kernel_rfl) (k := .i64) (i := e126) (by kernel_rfl) (by kernel_rfl) Try.underlying22 ty3 h158 h159)) ?_
                refine oOp (.d (.int .i64 e127)) (by kernel_rfl) (by kernel_rfl) (Quiet.does (k_loadE (enc := e_i64) (sz := 1) (fro := false) 2 0 xs18 (by kernel_rfl) (by kernel_rfl) Try.underlying3 (by kernel_rfl) h159 (by kernel_rfl))) ?_
                refine oOp (.d (.int .i64 (IntKind.wrap .i64 (e127 + 1)))) (by kernel_rfl) (by kernel_rfl) (PureV.does (p_int (k := .i64) (p := e127) (q := 1) (by kernel_rfl) (by kernel_rfl) (by kernel_rfl))) ?_
                refine oOp (.eptr 2 (List.length xs18) (Int.toNat e126) 0) (by kernel_rfl) (by kernel_rfl) (PureV.does (k_idxRef (enc := e_i64) (fro := false) xs18 (a := e127) (by kernel_rfl) (k := .i64) (i := e126) (by kernel_rfl) (by kernel_rfl) Try.underlying22 ty3 h158 h159)) ?_
                refine bSet _ (fun xs23 hs15 => ?_)
                refine oOp (.undef) (by kernel_rfl) (by kernel_rfl) (k_storeE (H' := [.box [.nilc], .box [.ref 2 (List.length xs18) 0 (List.length xs18)], .sl 1 (List.map e_i64 xs23) false]) 2 0 xs18 (IntKind.wrap .i64 (e127 + 1)) [(.int .i64 (IntKind.wrap .i64 (e127 + 1)))] e_i64_len (by kernel_rfl) (by kernel_rfl) h159 ty3 (by kernel_rfl) (by kernel_rfl) (by kernel_rfl) hs15 (by kernel_rfl)) ?_
                refine oHead [4, 6, 29, 30, 31] [0, 1, 2] (T' := [(4, .ptr 0 0), (6, .ptr 1 0), (29, .d (.lit (List.map e_i64 scores))), (30, .d (.int .i64 ((List.length scores) : Int))), (31, .d (.int .i64 x8))]) (H' := [.box [.nilc], .box [.ref 2 (List.length xs18) 0 (List.length xs18)], .sl 1 (List.map e_i64 xs23) false]) (by kernel_rfl) (by kernel_rfl) (by kernel_rfl) (by kernel_rfl) (by decide) (by kernel_rfl) (by kernel_rfl) ?_
                refine oView (T' := [(4, .ptr 0 0), (6, .ptr 1 0), (29, .d (.lit (List.map e_i64 scores))), (30, .d (.int .i64 ((List.length scores) : Int))), (31, .d (.int .i64 x8))]) (H' := [.box [.nilc], .box [.ref 2 (List.length xs23) 0 (List.length xs23)], .sl 1 (List.map e_i64 xs23) false]) (by first | rw [(set_len hs15)] | rfl) (by first | rw [(set_len hs15)] | rfl) ?_
                refine oEnd ?_
                refine oBlk ?_
                refine oRegion rfl ?_
                refine oOp (.d (.int .i64 (IntKind.wrap .i64 (x8 + 1)))) (by kernel_rfl) (by kernel_rfl) (PureV.does (p_int (k := .i64) (p := x8) (q := 1) (by kernel_rfl) (by kernel_rfl) (by kernel_rfl))) ?_
                refine oOp (.d (.int .i64 (IntKind.wrap .i64 (x8 + 1)))) (by kernel_rfl) (by kernel_rfl) (PureV.does (p_move (by kernel_rfl))) ?_
                refine oEnd ?_
                refine oAgain ?_
                refine oHead [4, 6, 29, 30, 31] [0, 1, 2] (T' := [(4, .ptr 0 0), (6, .ptr 1 0), (29, .d (.lit (List.map e_i64 scores))), (30, .d (.int .i64 ((List.length scores) : Int))), (31, .d (.int .i64 (IntKind.wrap .i64 (x8 + 1))))]) (H' := [.box [.nilc], .box [.ref 2 (List.length xs23) 0 (List.length xs23)], .sl 1 (List.map e_i64 xs23) false]) (by kernel_rfl) (by kernel_rfl) (by kernel_rfl) (by kernel_rfl) (by decide) (by kernel_rfl) (by kernel_rfl) ?_
                exact hag1 ((IntKind.wrap .i64 (x8 + 1)), xs23)
              · refine oCondF (by kernel_rfl) ?_
                refine oExit rfl ?_
                refine oHead [4, 6] [0, 1, 2] (T' := [(4, .ptr 0 0), (6, .ptr 1 0)]) (H' := [.box [.nilc], .box [.ref 2 (List.length xs18) 0 (List.length xs18)], .sl 1 (List.map e_i64 xs18) false]) (by kernel_rfl) (by kernel_rfl) (by kernel_rfl) (by kernel_rfl) (by decide) (by kernel_rfl) (by kernel_rfl) ?_
                exact hj3 xs18
    · refine bSplit 15 (by kernel_rfl) (fun hc => ?_) (fun hc => ?_)
      · refine oNot (by kernel_rfl) (by kernel_rfl) ?_
        refine oNot (by kernel_rfl) (by kernel_rfl) ?_
        refine oNot (by kernel_rfl) (by kernel_rfl) ?_
        refine oOp (.d (.bool true)) (by kernel_rfl) (by kernel_rfl) (PureV.does (p_pick (b := true) (by kernel_rfl) (by kernel_rfl))) ?_
        refine oHead [0, 3, 4, 19] [0, 1] (T' := [(0, .d (.lit (List.map e_i64 scores))), (3, .ptr 0 0), (4, .ptr 1 0), (19, .d (.bool true))]) (H' := [.box [.d (.int .i64 most)], .box [.nilc]]) (by kernel_rfl) (by kernel_rfl) (by kernel_rfl) (by kernel_rfl) (by decide) (by kernel_rfl) (by kernel_rfl) ?_
        exact hj4 true
      · refine oOp (.d (.lit (List.map e_i64 scores))) (by kernel_rfl) (by kernel_rfl) (PureV.does (p_move (by kernel_rfl))) ?_
        refine oOp (.fn 49 [.ptr 0 0]) (by kernel_rfl) (by kernel_rfl) (PureV.does (p_makeFunc (by kernel_rfl))) ?_
        refine bCall (caps := []) (v := (fun (r14 : Bool) => (.d (.bool r14) : V))) (H' := (fun (r14 : Bool) => ([.box [.d (.int .i64 most)], .box [.nilc]] : List Blk))) [0] _ (slices_ContainsFunc_int_2_goes k scores most) (by kernel_rfl) (by kernel_rfl) rfl (by kernel_rfl) Try.func48 rfl (by kernel_rfl) (ConvRs.refl _ _) (by kernel_rfl) (by kernel_rfl) (by kernel_rfl) (by decide) (by kernel_rfl) (by kernel_rfl) (fun _ => (by kernel_rfl)) (fun _ => (by kernel_rfl)) (fun _ => (by kernel_rfl)) (fun r14 => ?_)
        refine oOp (.d (.bool r14)) (by kernel_rfl) (by kernel_rfl) (PureV.does (p_pick (b := false) (by kernel_rfl) (by kernel_rfl))) ?_
        refine oHead [0, 3, 4, 19] [0, 1] (T' := [(0, .d (.lit (List.map e_i64 scores))), (3, .ptr 0 0), (4, .ptr 1 0), (19, .d (.bool r14))]) (H' := [.box [.d (.int .i64 most)], .box [.nilc]]) (by kernel_rfl) (by kernel_rfl) (by kernel_rfl) (by kernel_rfl) (by decide) (by kernel_rfl) (by kernel_rfl) ?_
        exact hj4 r14
  · refine bPickF 11 (fun c => F (c || (decide (most > 200)))) (by kernel_rfl) (fun hc => ?_) (fun hc => ?_)
    · refine oNot (by kernel_rfl) (by kernel_rfl) ?_
      refine oNot (by kernel_rfl) (by kernel_rfl) ?_
      refine oOp (.d (.bool true)) (by kernel_rfl) (by kernel_rfl) (PureV.does (p_pick (b := true) (by kernel_rfl) (by kernel_rfl))) ?_
      refine oHead [0, 3, 4, 14] [0, 1] (T' := [(0, .d (.lit (List.map e_i64 scores))), (3, .ptr 0 0), (4, .ptr 1 0), (14, .d (.bool true))]) (H' := [.box [.d (.int .i64 most)], .box [.nilc]]) (by kernel_rfl) (by kernel_rfl) (by kernel_rfl) (by kernel_rfl) (by decide) (by kernel_rfl) (by kernel_rfl) ?_
      exact hj2 true
    · refine oOp (.d (.int .i64 most)) (by kernel_rfl) (by kernel_rfl) (Quiet.does (k_load 0 0 (by kernel_rfl) Try.underlying3 (by kernel_rfl) (by kernel_rfl))) ?_
      refine oOp (.d (.bool (decide (most > 200)))) (by kernel_rfl) (by kernel_rfl) (PureV.does (p_int (k := .i64) (p := most) (q := 200) (by kernel_rfl) (by kernel_rfl) (by kernel_rfl))) ?_
      refine oOp (.d (.bool (decide (most > 200)))) (by kernel_rfl) (by kernel_rfl) (PureV.does (p_pick (b := false) (by kernel_rfl) (by kernel_rfl))) ?_
      refine oHead [0, 3, 4, 14] [0, 1] (T' := [(0, .d (.lit (List.map e_i64 scores))), (3, .ptr 0 0), (4, .ptr 1 0), (14, .d (.bool (decide (most > 200))))]) (H' := [.box [.d (.int .i64 most)], .box [.nilc]]) (by kernel_rfl) (by kernel_rfl) (by kernel_rfl) (by kernel_rfl) (by decide) (by kernel_rfl) (by kernel_rfl) ?_
      exact hj2 (decide (most > 200))

/-- awardingbody/awardingbodyref32.Same -/
def ref32_Same_b1 (k : Nat) (a0 : (List Int)) (b0 : (List Int)) (again : Int → Option ((Unit) ⊕ (Bool))) : Int → Option ((Unit) ⊕ (Bool)) := fun i4 => bif (decide (i4 < ((List.length a0) : Int))) then gidx a0 i4 fun e1 => gidx b0 i4 fun e11 => bif (e1 != e11) then some (Sum.inr false) else again (IntKind.wrap .i64 (i4 + 1)) else some (Sum.inl ())
def ref32_Same (k : Nat) (a0 : (List Int)) (b0 : (List Int)) : Option (Bool) := bif (((List.length a0) : Int) != ((List.length b0) : Int)) then some false else Option.bind (gloop (ref32_Same_b1 k a0 b0) k 0 : Option ((Unit) ⊕ (Bool))) (Sum.elim (u0 (some true)) (fun r => some r))
def ref32_Same_E (a0 : (List Int)) (b0 : (List Int)) : Bool → V × List Blk := fun r1 => (.d (.bool r1), [])
theorem ref32_Same_goes (k : Nat) (a0 : (List Int)) (b0 : (List Int)) : RunsO Try.prog 18 [.agg [.d (.lit (List.map e_i64 a0))], .agg [.d (.lit (List.map e_i64 b0))]] [] (ref32_Same_E a0 b0) (ref32_Same k a0 b0) := by
  refine RunsO.of_goes (N := 31) (m := 0) (T := [(0, .agg [.d (.lit (List.map e_i64 a0))]), (1, .agg [.d (.lit (List.map e_i64 b0))])]) Try.func18 rfl rfl (by kernel_rfl) (by kernel_rfl) (by kernel_rfl) ?_
  unfold ref32_Same
  refine bStart ?_
  refine oSeq ?_
  refine oRegion rfl ?_
  refine oOp (.ptr 0 0) (by kernel_rfl) (by kernel_rfl) (k_box (H' := [.box [.d (.lit (List.map e_i64 a0))]]) (cells := [.d (.lit (List.map e_i64 a0))]) (by kernel_rfl) (by kernel_rfl) (by kernel_rfl)) ?_
  refine oOp (.ptr 1 0) (by kernel_rfl) (by kernel_rfl) (k_box (H' := [.box [.d (.lit (List.map e_i64 a0))], .box [.d (.lit (List.map e_i64 b0))]]) (cells := [.d (.lit (List.map e_i64 b0))]) (by kernel_rfl) (by kernel_rfl) (by kernel_rfl)) ?_
  refine oOp (.d (.bool false)) (by kernel_rfl) (by kernel_rfl) (PureV.does (p_assign (by kernel_rfl))) ?_
  refine oEnd ?_
  refine oSeq ?_
  refine oSeq ?_
  refine oRegion rfl ?_
  refine oOp (.ptr 0 0) (by kernel_rfl) (by kernel_rfl) (PureV.does (k_fieldAddr 0 0 (by kernel_rfl) Try.underlying26 rfl ty22 (by kernel_rfl))) ?_
  refine oOp (.d (.lit (List.map e_i64 a0))) (by kernel_rfl) (by kernel_rfl) (Quiet.does (k_load 0 0 (by kernel_rfl) Try.underlying22 (by kernel_rfl) (by kernel_rfl))) ?_
  refine oOp (.d (.int .i64 ((List.length a0) : Int))) (by kernel_rfl) (by kernel_rfl) (PureV.does (k_lenLit (enc := e_i64) a0 (by kernel_rfl) Try.underlying22)) ?_
  refine oOp (.ptr 1 0) (by kernel_rfl) (by kernel_rfl) (PureV.does (k_fieldAddr 1 0 (by kernel_rfl) Try.underlying26 rfl ty22 (by kernel_rfl))) ?_
  refine oOp (.d (.lit (List.map e_i64 b0))) (by kernel_rfl) (by kernel_rfl) (Quiet.does (k_load 1 0 (by kernel_rfl) Try.underlying22 (by kernel_rfl) (by kernel_rfl))) ?_
  refine oOp (.d (.int .i64 ((List.length b0) : Int))) (by kernel_rfl) (by kernel_rfl) (PureV.does (k_lenLit (enc := e_i64) b0 (by kernel_rfl) Try.underlying22)) ?_
  refine oOp (.d (.bool (((List.length a0) : Int) != ((List.length b0) : Int)))) (by kernel_rfl) (by kernel_rfl) (PureV.does (p_int (k := .i64) (p := ((List.length a0) : Int)) (q := ((List.length b0) : Int)) (by kernel_rfl) (by kernel_rfl) (by kernel_rfl))) ?_
  refine oEnd ?_
  refine bSplit 12 (by kernel_rfl) (fun hc => ?_) (fun hc => ?_)
  · refine oCondT (by kernel_rfl) ?_
    refine oSeq ?_
    refine oRegion rfl ?_
    refine oOp (.d (.bool false)) (by kernel_rfl) (by kernel_rfl) (PureV.does (p_assign (by kernel_rfl))) ?_
    refine oEnd ?_
    exact oRet (r0 := false) (rv := .d (.bool false)) (B := []) (vs := [.d (.bool false)]) (σ := []) (by kernel_rfl) Try.func18 rfl (.cons _ _ _ _ (.tmp 4 _ (by kernel_rfl)) .nil) (by kernel_rfl) (by kernel_rfl) (by kernel_rfl) (by kernel_rfl) (by decide) (by kernel_rfl) (by kernel_rfl)
  · refine oCondF (by kernel_rfl) ?_
    refine oSkip ?_
    refine oSeq ?_
    refine oSeq ?_
    refine oRegion rfl ?_
    refine oOp (.d (.int .i64 0)) (by kernel_rfl) (by kernel_rfl) (PureV.does (p_assign (by kernel_rfl))) ?_
    refine oEnd ?_
    refine bJoin ((u0 ([]))) ((u0 ([]))) Sum.inl (fun s => ?_) (fun hj2 => ?_)
    · cases s
      refine bInl ?_
      refine bU0 ?_
      refine oView (T' := []) (H' := []) (by kernel_rfl) (by kernel_rfl) ?_
      refine oSeq ?_
      refine oRegion rfl ?_
      refine oOp (.d (.bool true)) (by kernel_rfl) (by kernel_rfl) (PureV.does (p_assign (by kernel_rfl))) ?_
      refine oEnd ?_
      exact oRet (r0 := true) (rv := .d (.bool true)) (B := []) (vs := [.d (.bool true)]) (σ := []) (by kernel_rfl) Try.func18 rfl (.cons _ _ _ _ (.tmp 4 _ (by kernel_rfl)) .nil) (by kernel_rfl) (by kernel_rfl) (by kernel_rfl) (by kernel_rfl) (by decide) (by kernel_rfl) (by kernel_rfl)
    · refine oBlock ?_
      refine oLoop ?_
      refine oHead [2, 3, 5] [0, 1] (T' := [(2, .ptr 0 0), (3, .ptr 1 0), (5, .d (.int .i64 0))]) (H' := [.box [.d (.lit (List.map e_i64 a0))], .box [.d (.lit (List.map e_i64 b0))]]) (by kernel_rfl) (by kernel_rfl) (by kernel_rfl) (by kernel_rfl) (by decide) (by kernel_rfl) (by kernel_rfl) ?_
      refine bLoop (body := ref32_Same_b1 k a0 b0) ((fun (i4 : Int) => [(2, .ptr 0 0), (3, .ptr 1 0), (5, .d (.int .i64 i4))])) ((fun (i4 : Int) => [.box [.d (.lit (List.map e_i64 a0))], .box [.d (.lit (List.map e_i64 b0))]])) (fun again hag1 i4 => ?_) k 0
      · unfold ref32_Same_b1
        refine oView (T' := [(2, .ptr 0 0), (3, .ptr 1 0), (5, .d (.int .i64 i4))]) (H' := [.box [.d (.lit (List.map e_i64 a0))], .box [.d (.lit (List.map e_i64 b0))]]) (by kernel_rfl) (by kernel_rfl) ?_
        refine oSeq ?_
        refine oSeq ?_
        refine oRegion rfl ?_
        refine oOp (.d (.int .i64 i4)) (by kernel_rfl) (by kernel_rfl) (PureV.does (p_move (by kernel_rfl))) ?_
        refine oOp (.ptr 0 0) (by kernel_rfl) (by kernel_rfl) (PureV.does (k_fieldAddr 0 0 (by kernel_rfl) Try.underlying26 rfl ty22 (by kernel_rfl))) ?_
        refine oOp (.d (.lit (List.map e_i64 a0))) (by kernel_rfl) (by kernel_rfl) (Quiet.does (k_load 0 0 (by kernel_rfl) Try.underlying22 (by kernel_rfl) (by kernel_rfl))) ?_
        refine oOp (.d (.int .i64 ((List.length a0) : Int))) (by kernel_rfl) (by kernel_rfl) (PureV.does (k_lenLit (enc := e_i64) a0 (by kernel_rfl) Try.underlying22)) ?_
        refine oOp (.d (.bool (decide (i4 < ((List.length a0) : Int))))) (by kernel_rfl) (by kernel_rfl) (PureV.does (p_int (k := .i64) (p := i4) (q := ((List.length a0) : Int)) (by kernel_rfl) (by kernel_rfl) (by kernel_rfl))) ?_
        refine oEnd ?_
        refine bSplit 17 (by kernel_rfl) (fun hc => ?_) (fun hc => ?_)
        · refine oCondT (by kernel_rfl) ?_
          refine oSkip ?_
          refine oSeq ?_
          refine oBlock ?_
          refine oSeq ?_
          refine oDraw [(0, 11), (1, 11)] rfl ?_
          refine aTakeL (i := 0) (st' := []) (.ptr 0 0) rfl (by kernel_rfl) (by kernel_rfl) (by kernel_rfl) (by kernel_rfl) (by kernel_rfl) (by kernel_rfl) (by kernel_rfl) (PureV.quiet (k_fieldAddr 0 0 (by kernel_rfl) Try.underlying26 rfl ty22 (by kernel_rfl)) []) ?_
          refine aTakeL (i := 1) (st' := [0]) (.d (.lit (List.map e_i64 a0))) rfl (by kernel_rfl) (by kernel_rfl) (by kernel_rfl) (by kernel_rfl) (by kernel_rfl) (by kernel_rfl) (by kernel_rfl) (k_load 0 0 (by kernel_rfl) Try.underlying22 (by kernel_rfl) (by kernel_rfl)) ?_
          refine aTakeL (i := 2) (st' := []) (.d (.int .i64 i4)) rfl (by kernel_rfl) (by kernel_rfl) (by kernel_rfl) (by kernel_rfl) (by kernel_rfl) (by kernel_rfl) (by kernel_rfl) (PureV.quiet (p_move (by kernel_rfl)) []) ?_
          refine dIdx (fun e1 h1 h11 => ?_)
          refine aTakeL (i := 3) (st' := []) (.lptr (e_i64 e1) 0) rfl (by kernel_rfl) (by kernel_rfl) (by kernel_rfl) (by kernel_rfl) (by kernel_rfl) (by kernel_rfl) (by kernel_rfl) (PureV.quiet (k_idxLit e_i64_len a0 (a := e1) (by kernel_rfl) (k := .i64) (i := i4) (by kernel_rfl) Try.underlying22 ty3 h1 h11) []) ?_
          refine aTakeL (i := 4) (st' := []) (.d (.int .i64 e1)) rfl (by kernel_rfl) (by kernel_rfl) (by kernel_rfl) (by kernel_rfl) (by kernel_rfl) (by kernel_rfl) (by kernel_rfl) (k_loadL (cells := e_i64 e1) 0 (by kernel_rfl) Try.underlying3 (by kernel_rfl) (by kernel_rfl)) ?_
          refine aTakeL (i := 5) (st' := []) (.ptr 1 0) rfl (by kernel_rfl) (by kernel_rfl) (by kernel_rfl) (by kernel_rfl) (by kernel_rfl) (by kernel_rfl) (by kernel_rfl) (PureV.quiet (k_fieldAddr 1 0 (by kernel_rfl) Try.underlying26 rfl ty22 (by kernel_rfl)) []) ?_
          refine aTakeL (i := 6) (st' := [1]) (.d (.lit (List.map e_i64 b0))) rfl (by kernel_rfl) (by kernel_rfl) (by kernel_rfl) (by kernel_rfl) (by kernel_rfl) (by kernel_rfl) (by kernel_rfl) (k_load 1 0 (by kernel_rfl) Try.underlying22 (by kernel_rfl) (by kernel_rfl)) ?_
          refine aTakeL (i := 7) (st' := []) (.d (.int .i64 i4)) rfl (by kernel_rfl) (by kernel_rfl) (by kernel_rfl) (by kernel_rfl) (by kernel_rfl) (by kernel_rfl) (by kernel_rfl) (PureV.quiet (p_move (by kernel_rfl)) []) ?_
          refine dIdx (fun e11 h12 h13 => ?_)
          refine aTakeL (i := 8) (st' := []) (.lptr (e_i64 e11) 0) rfl (by kernel_rfl) (by kernel_rfl) (by kernel_rfl) (by kernel_rfl) (by kernel_rfl) (by kernel_rfl) (by kernel_rfl) (PureV.quiet (k_idxLit e_i64_len b0 (a := e11) (by kernel_rfl) (k := .i64) (i := i4) (by kernel_rfl) Try.underlying22 ty3 h12 h13) []) ?_
          refine aTakeL (i := 9) (st' := []) (.d (.int .i64 e11)) rfl (by kernel_rfl) (by kernel_rfl) (by kernel_rfl) (by kernel_rfl) (by kernel_rfl) (by kernel_rfl) (by kernel_rfl) (k_loadL (cells := e_i64 e11) 0 (by kernel_rfl) Try.underlying3 (by kernel_rfl) (by kernel_rfl)) ?_
          refine aTakeL (i := 10) (st' := []) (.d (.bool (e1 != e11))) rfl (by kernel_rfl) (by kernel_rfl) (by kernel_rfl) (by kernel_rfl) (by kernel_rfl) (by kernel_rfl) (by kernel_rfl) (PureV.quiet (p_int (k := .i64) (p := e1) (q := e11) (by kernel_rfl) (by kernel_rfl) (by kernel_rfl)) []) ?_
          refine aDone (by kernel_rfl) ?_
          refine bSplit 30 (by kernel_rfl) (fun hc => ?_) (fun hc => ?_)
          · refine oCondT (by kernel_rfl) ?_
            refine oSeq ?_
            refine oRegion rfl ?_
            refine oOp (.d (.bool false)) (by kernel_rfl) (by kernel_rfl) (PureV.does (p_assign (by kernel_rfl))) ?_
            refine oEnd ?_
            exact oRet (r0 := false) (rv := .d (.bool false)) (B := []) (vs := [.d (.bool false)]) (σ := []) (by kernel_rfl) Try.func18 rfl (.cons _ _ _ _ (.tmp 4 _ (by kernel_rfl)) .nil) (by kernel_rfl) (by kernel_rfl) (by kernel_rfl) (by kernel_rfl) (by decide) (by kernel_rfl) (by kernel_rfl)
          · refine oCondF (by kernel_rfl) ?_
            refine oSkip ?_
            refine oBlk ?_
            refine oRegion rfl ?_
            refine oOp (.d (.int .i64 i4)) (by kernel_rfl) (by kernel_rfl) (PureV.does (p_move (by kernel_rfl))) ?_
            refine oOp (.d (.int .i64 (IntKind.wrap .i64 (i4 + 1)))) (by kernel_rfl) (by kernel_rfl) (PureV.does (p_int (k := .i64) (p := i4) (q := 1) (by kernel_rfl) (by kernel_rfl) (by kernel_rfl))) ?_
            refine oOp (.d (.int .i64 (IntKind.wrap .i64 (i4 + 1)))) (by kernel_rfl) (by kernel_rfl) (PureV.does (p_assign (by kernel_rfl))) ?_
            refine oEnd ?_
            refine oAgain ?_
            refine oHead [2, 3, 5] [0, 1] (T' := [(2, .ptr 0 0), (3, .ptr 1 0), (5, .d (.int .i64 (IntKind.wrap .i64 (i4 + 1))))]) (H' := [.box [.d (.lit (List.map e_i64 a0))], .box [.d (.lit (List.map e_i64 b0))]]) (by kernel_rfl) (by kernel_rfl) (by kernel_rfl) (by kernel_rfl) (by decide) (by kernel_rfl) (by kernel_rfl) ?_
            exact hag1 (IntKind.wrap .i64 (i4 + 1))
        · refine oCondF (by kernel_rfl) ?_
          refine oExit rfl ?_
          refine oHead [] [] (T' := []) (H' := []) (by kernel_rfl) (by kernel_rfl) (by kernel_rfl) (by kernel_rfl) (by decide) (by kernel_rfl) (by kernel_rfl) ?_
          exact hj2 ()

/-- awardingbody/awardingbodylaw32.DistributionOrder -/
def law32_DistributionOrder_b1 (k : Nat) (l : (List Int)) (again : Int × Int × (List Int) × (List Int) → Option (Int × (List Int) × (List Int))) : Int × Int × (List Int) × (List Int) → Option (Int × (List Int) × (List Int)) := uc fun sum6 => uc fun x20 => uc fun xs32 => fun xs33 => bif (decide (x20 < ((List.length l) : Int))) then Option.bind (gidx l x20 fun e1 => gidx l (IntKind.wrap .i64 ((IntKind.wrap .i64 (((List.length l) : Int) - 1)) - x20)) fun e11 => gcap (List.length (xs32 ++ ([(IntKind.wrap .i64 (Int.tmod e1 40))] : List Int))) 8 (gcap (List.length (xs33 ++ ([(IntKind.wrap .i64 (Int.tmod e11 40))] : List Int))) 8 (some ((xs32 ++ ([(IntKind.wrap .i64 (Int.tmod e1 40))] : List Int)), (xs33 ++ ([(IntKind.wrap .i64 (Int.tmod e11 40))] : List Int))))) : Option ((List Int) × (List Int))) (uc fun xs42 => fun xs43 => gidx l x20 fun e115 => again ((IntKind.wrap .i64 (sum6 + (IntKind.wrap .i64 (Int.tmod e115 40)))), (IntKind.wrap .i64 (x20 + 1)), xs42, xs43)) else some (sum6, xs32, xs33)
def law32_DistributionOrder (k : Nat) (l : (List Int)) : Option (Bool) := bif (decide (((List.length l) : Int) > 60)) then Option.bind (law32_sane k) (fun r114 => some r114) else Option.bind (gloop (law32_DistributionOrder_b1 k l) k (0, 0, ([] : List Int), ([] : List Int)) : Option (Int × (List Int) × (List Int))) (uc fun sum5 => uc fun xs26 => fun xs27 => Option.bind (distribution_Make k xs26 39) (uc fun r115 => fun r123 => Option.bind (distribution_Make k xs27 39) (uc fun r116 => fun r124 => blet ((r123 != 0) || (r124 != 0)) fun x12 => Option.bind (bif x12 then some true else Option.bind (ref32_Same k r115 r116) (fun r129 => some (!r129)) : Option (Bool)) (fun x13 => Option.bind (bif x13 then some true else Option.bind (distribution_Count k r115) (fun r1110 => some (r1110 != ((List.length l) : Int))) : Option (Bool)) (fun x14 => bif x14 then some false else Option.bind (distribution_Mean k r115) (uc fun r125 => uc fun r141 => fun r152 => bif (((List.length l) : Int) == 0) then Option.bind (bif (r152 == 10) then Option.bind (law32_sane k) (fun r126 => some r126) else some false : Option (Bool)) (fun x16 => some x16) else Option.bind (ref01_New k sum5 ((List.length l) : Int)) (uc fun r153 => uc fun r162 => fun r172 => blet ((r152 == 0) && (r172 == 0)) fun x17 => blet (x17 && ((r125 == r153) && ((r141 == r162) && true))) fun x18 => Option.bind (bif x18 then Option.bind (law32_sane k) (fun r128 => some r128) else some false : Option (Bool)) (fun x19 => some x19))))))))
def law32_DistributionOrder_E (l : (List Int)) : Bool → V × List Blk := fun r19 => (.d (.bool r19), [])
theorem law32_DistributionOrder_goes (k : Nat) (l : (List Int)) : RunsO Try.prog 4 [.d (.lit (List.map e_u8 l))] [] (law32_DistributionOrder_E l) (law32_DistributionOrder k l) := by
  refine RunsO.of_goes (N := 118) (m := 0) (T := [(0, .d (.lit (List.map e_u8 l)))]) Try.func4 rfl rfl (by kernel_rfl) (by kernel_rfl) (by kernel_rfl) ?_
  unfold law32_DistributionOrder
  refine bStart ?_
  refine oSeq ?_
  refine oRegion rfl ?_
  refine oOp (.d (.bool false)) (by kernel_rfl) (by kernel_rfl) (PureV.does (p_assign (by kernel_rfl))) ?_
  refine oEnd ?_
  refine oSeq ?_
  refine oSeq ?_
  refine oRegion rfl ?_
  refine oOp (.d (.lit (List.map e_u8 l))) (by kernel_rfl) (by kernel_rfl) (PureV.does (p_move (by kernel_rfl))) ?_
  refine oOp (.d (.int .i64 ((List.length l) : Int))) (by kernel_rfl) (by kernel_rfl) (PureV.does (k_lenLit (enc := e_u8) l (by kernel_rfl) Try.underlying40)) ?_
  refine oOp (.d (.bool (decide (((List.length l) : Int) > 60)))) (by kernel_rfl) (by kernel_rfl) (PureV.does (p_int (k := .i64) (p := ((List.length l) : Int)) (q := 60) (by kernel_rfl) (by kernel_rfl) (by kernel_rfl))) ?_
  refine oEnd ?_
  refine bSplit 17 (by kernel_rfl) (fun hc => ?_) (fun hc => ?_)
  · refine oCondT (by kernel_rfl) ?_
    refine oSeq ?_
    refine oRegion rfl ?_
    refine bCall (caps := []) (v := (fun (r114 : Bool) => (.d (.bool r114) : V))) (H' := (fun (r114 : Bool) => ([] : List Blk))) [] _ (law32_sane_goes k ) (by kernel_rfl) (by kernel_rfl) rfl (by kernel_rfl) Try.func10 rfl (by kernel_rfl) (ConvRs.refl _ _) (by kernel_rfl) (by kernel_rfl) (by kernel_rfl) (by decide) (by kernel_rfl) (by kernel_rfl) (fun _ => (by kernel_rfl)) (fun _ => (by kernel_rfl)) (fun _ => (by kernel_rfl)) (fun r114 => ?_)
    refine oOp (.d (.bool r114)) (by kernel_rfl) (by kernel_rfl) (PureV.does (p_assign (by kernel_rfl))) ?_
    refine oEnd ?_
    exact oRet (r0 := r114) (rv := .d (.bool r114)) (B := []) (vs := [.d (.bool r114)]) (σ := []) (by kernel_rfl) Try.func4 rfl (.cons _ _ _ _ (.tmp 2 _ (by kernel_rfl)) .nil) (by kernel_rfl) (by kernel_rfl) (by kernel_rfl) (by kernel_rfl) (by decide) (by kernel_rfl) (by kernel_rfl)
  · refine oCondF (by kernel_rfl) ?_
    refine oSkip ?_
    refine oSeq ?_
    refine oRegion rfl ?_
    refine oOp (.nilc) (by kernel_rfl) (by kernel_rfl) (PureV.does (p_assign (by kernel_rfl))) ?_
    refine oOp (.nilc) (by kernel_rfl) (by kernel_rfl) (PureV.does (p_assign (by kernel_rfl))) ?_
    refine oEnd ?_
    refine oSeq ?_
    refine oRegion rfl ?_
    refine oOp (.d (.int .i64 0)) (by kernel_rfl) (by kernel_rfl) (PureV.does (p_assign (by kernel_rfl))) ?_
    refine oEnd ?_
    refine oSeq ?_
    refine oSeq ?_
    refine oRegion rfl ?_
    refine oOp (.d (.lit (List.map e_u8 l))) (by kernel_rfl) (by kernel_rfl) (PureV.does (p_move (by kernel_rfl))) ?_
    refine oOp (.d (.int .i64 ((List.length l) : Int))) (by kernel_rfl) (by kernel_rfl) (PureV.does (k_lenLit (enc := e_u8) l (by kernel_rfl) Try.underlying40)) ?_
    refine oOp (.d (.int .i64 0)) (by kernel_rfl) (by kernel_rfl) (PureV.does (p_move (by kernel_rfl))) ?_
    refine oEnd ?_
    refine bJoin ((uc fun (sum5 : Int) => (uc fun (xs26 : (List Int)) => (fun (xs27 : (List Int)) => [(0, .d (.lit (List.map e_u8 l))), (3, .ref 0 (List.length xs26) 0 (List.length xs26)), (4, .ref 1 (List.length xs27) 0 (List.length xs27)), (5, .d (.int .i64 sum5))])))) ((uc fun (sum5 : Int) => (uc fun (xs26 : (List Int)) => (fun (xs27 : (List Int)) => [.sl 1 (List.map e_i64 xs26) false, .sl 1 (List.map e_i64 xs27) false])))) (fun s => s) (fun s => ?_) (fun hj10 => ?_)
    · obtain ⟨sum5, xs26, xs27⟩ := s
      refine bUc ?_
      refine bUc ?_
      refine oView (T' := [(0, .d (.lit (List.map e_u8 l))), (3, .ref 0 (List.length xs26) 0 (List.length xs26)), (4, .ref 1 (List.length xs27) 0 (List.length xs27)), (5, .d (.int .i64 sum5))]) (H' := [.sl 1 (List.map e_i64 xs26) false, .sl 1 (List.map e_i64 xs27) false]) (by kernel_rfl) (by kernel_rfl) ?_
      refine oSeq ?_
      refine oRegion rfl ?_
      refine oOp (.ref 0 (List.length xs26) 0 (List.length xs26)) (by kernel_rfl) (by kernel_rfl) (PureV.does (p_move (by kernel_rfl))) ?_
      refine oFreeze 0 (esz := 1) (xs := List.map e_i64 xs26) (by kernel_rfl) ?_
      refine oView (H' := [.sl 1 (List.map e_i64 xs26) true, .sl 1 (List.map e_i64 xs27) false]) rfl (by kernel_rfl) ?_
      refine bCall (caps := []) (v := (uc fun (r115 : (List Int)) => (fun (r123 : Int) => (.tuple [.agg [.d (.lit (List.map e_i64 r115))], .d (.int .i64 r123)] : V)))) (H' := (uc fun (r115 : (List Int)) => (fun (r123 : Int) => ([.sl 1 (List.map e_i64 xs26) true, .sl 1 (List.map e_i64 xs27) false] : List Blk)))) [] _ (distribution_Make_goes k xs26 39) (by kernel_rfl) (by kernel_rfl) rfl (by kernel_rfl) Try.func17 rfl (by kernel_rfl) (convList (vs0 := [.ref 0 (List.length xs26) 0 (List.length xs26), .d (.int .i64 39)]) (vs := [.d (.lit (List.map e_i64 xs26)), .d (.int .i64 39)]) (by kernel_rfl) (.cons _ _ _ _ (k_lit (enc := e_i64) (sz := 1) 0 xs26 (by kernel_rfl)) (.cons _ _ _ _ (.same _) .nil))) (by kernel_rfl) (by kernel_rfl) (by kernel_rfl) (by decide) (by kernel_rfl) (by kernel_rfl) (fun _ => (by kernel_rfl)) (fun _ => (by kernel_rfl)) (fun _ => (by kernel_rfl)) (fun r => ?_)
      obtain ⟨r115, r123⟩ := r
      refine bUc ?_
      refine oOp (.tuple [.agg [.d (.lit (List.map e_i64 r115))], .d (.int .i64 r123)]) (by kernel_rfl) (by kernel_rfl) (PureV.does (p_move (by kernel_rfl))) ?_
      refine oOp (.agg [.d (.lit (List.map e_i64 r115))]) (by kernel_rfl) (by kernel_rfl) (PureV.does (k_extract (by kernel_rfl))) ?_
      refine oOp (.d (.int .i64 r123)) (by kernel_rfl) (by kernel_rfl) (PureV.does (k_extract (by kernel_rfl))) ?_
      refine oOp (.ptr 2 0) (by kernel_rfl) (by kernel_rfl) (k_alloc (H' := [.sl 1 (List.map e_i64 xs26) true, .sl 1 (List.map e_i64 xs27) false, .box [.nilc]]) ty26 (by kernel_rfl) (by kernel_rfl)) ?_
      refine oOp (.undef) (by kernel_rfl) (by kernel_rfl) (k_store (vs := [.d (.lit (List.map e_i64 r115))]) (H' := [.sl 1 (List.map e_i64 xs26) true, .sl 1 (List.map e_i64 xs27) false, .box [.d (.lit (List.map e_i64 r115))]]) 2 0 (by kernel_rfl) ty26 (by kernel_rfl) (by kernel_rfl) (by kernel_rfl)) ?_
      refine oOp (.d (.int .i64 r123)) (by kernel_rfl) (by kernel_rfl) (PureV.does (p_assign (by kernel_rfl))) ?_
      refine oEnd ?_
      refine oSeq ?_
      refine oRegion rfl ?_
      refine oOp (.ref 1 (List.length xs27) 0 (List.length xs27)) (by kernel_rfl) (by kernel_rfl) (PureV.does (p_move (by kernel_rfl))) ?_
      refine oFreeze 1 (esz := 1) (xs := List.map e_i64 xs27) (by kernel_rfl) ?_
      refine oView (H' := [.sl 1 (List.map e_i64 xs26) true, .sl 1 (List.map e_i64 xs27) true, .box [.d (.lit (List.map e_i64 r115))]]) rfl (by kernel_rfl) ?_
      refine bCall (caps := []) (v := (uc fun (r116 : (List Int)) => (fun (r124 : Int) => (.tuple [.agg [.d (.lit (List.map e_i64 r116))], .d (.int .i64 r124)] : V)))) (H' := (uc fun (r116 : (List Int)) => (fun (r124 : Int) => ([.sl 1 (List.map e_i64 xs26) true, .sl 1 (List.map e_i64 xs27) true, .box [.d (.lit (List.map e_i64 r115))]] : List Blk)))) [] _ (distribution_Make_goes k xs27 39) (by kernel_rfl) (by kernel_rfl) rfl (by kernel_rfl) Try.func17 rfl (by kernel_rfl) (convList (vs0 := [.ref 1 (List.length xs27) 0 (List.length xs27), .d (.int .i64 39)]) (vs := [.d (.lit (List.map e_i64 xs27)), .d (.int .i64 39)]) (by kernel_rfl) (.cons _ _ _ _ (k_lit (enc := e_i64) (sz := 1) 1 xs27 (by kernel_rfl)) (.cons _ _ _ _ (.same _) .nil))) (by kernel_rfl) (by kernel_rfl) (by kernel_rfl) (by decide) (by kernel_rfl) (by kernel_rfl) (fun _ => (by kernel_rfl)) (fun _ => (by kernel_rfl)) (fun _ => (by kernel_rfl)) (fun r => ?_)
      obtain ⟨r116, r124⟩ := r
      refine bUc ?_
      refine oOp (.tuple [.agg [.d (.lit (List.map e_i64 r116))], .d (.int .i64 r124)]) (by kernel_rfl) (by kernel_rfl) (PureV.does (p_move (by kernel_rfl))) ?_
      refine oOp (.agg [.d (.lit (List.map e_i64 r116))]) (by kernel_rfl) (by kernel_rfl) (PureV.does (k_extract (by kernel_rfl))) ?_
      refine oOp (.d (.int .i64 r124)) (by kernel_rfl) (by kernel_rfl) (PureV.does (k_extract (by kernel_rfl))) ?_
      refine oOp (.ptr 3 0) (by kernel_rfl) (by kernel_rfl) (k_alloc (H' := [.sl 1 (List.map e_i64 xs26) true, .sl 1 (List.map e_i64 xs27) true, .box [.d (.lit (List.map e_i64 r115))], .box [.nilc]]) ty26 (by kernel_rfl) (by kernel_rfl)) ?_
      refine oOp (.undef) (by kernel_rfl) (by kernel_rfl) (k_store (vs := [.d (.lit (List.map e_i64 r116))]) (H' := [.sl 1 (List.map e_i64 xs26) true, .sl 1 (List.map e_i64 xs27) true, .box [.d (.lit (List.map e_i64 r115))], .box [.d (.lit (List.map e_i64 r116))]]) 3 0 (by kernel_rfl) ty26 (by kernel_rfl) (by kernel_rfl) (by kernel_rfl)) ?_
      refine oOp (.d (.int .i64 r124)) (by kernel_rfl) (by kernel_rfl) (PureV.does (p_assign (by kernel_rfl))) ?_
      refine oEnd ?_
      refine oSeq ?_
      refine oSeq ?_
      refine oRegion rfl ?_
      refine oOp (.d (.int .i64 r123)) (by kernel_rfl) (by kernel_rfl) (PureV.does (p_move (by kernel_rfl))) ?_
      refine oOp (.d (.bool (r123 != 0))) (by kernel_rfl) (by kernel_rfl) (PureV.does (p_int (k := .i64) (p := r123) (q := 0) (by kernel_rfl) (by kernel_rfl) (by kernel_rfl))) ?_
      refine oOp (.d (.bool (r123 != 0))) (by kernel_rfl) (by kernel_rfl) (PureV.does (p_move (by kernel_rfl))) ?_
      refine bMeetF (H' := [.box [.d (.lit (List.map e_i64 r115))], .box [.d (.lit (List.map e_i64 r116))]]) 3 rfl ((fun (x12 : Bool) => [(0, .d (.lit (List.map e_u8 l))), (5, .d (.int .i64 sum5)), (7, .ptr 0 0), (9, .ptr 1 0), (70, .d (.bool x12))])) (fun x12 => ?_) (fun F hj11 => ?_)
      · refine oView (T' := [(0, .d (.lit (List.map e_u8 l))), (5, .d (.int .i64 sum5)), (7, .ptr 0 0), (9, .ptr 1 0), (70, .d (.bool x12))]) (H' := [.box [.d (.lit (List.map e_i64 r115))], .box [.d (.lit (List.map e_i64 r116))]]) (by kernel_rfl) (by kernel_rfl) ?_
        refine oOp (.d (.bool x12)) (by kernel_rfl) (by kernel_rfl) (PureV.does (p_move (by kernel_rfl))) ?_
        refine bMeet 5 rfl ((fun (x13 : Bool) => [(0, .d (.lit (List.map e_u8 l))), (5, .d (.int .i64 sum5)), (7, .ptr 0 0), (76, .d (.bool x13))])) ((fun (x13 : Bool) => [.box [.d (.lit (List.map e_i64 r115))]])) (fun s => s) (fun x13 => ?_) (fun hj17 => ?_)
        · refine oView (T' := [(0, .d (.lit (List.map e_u8 l))), (5, .d (.int .i64 sum5)), (7, .ptr 0 0), (76, .d (.bool x13))]) (H' := [.box [.d (.lit (List.map e_i64 r115))]]) (by kernel_rfl) (by kernel_rfl) ?_
          refine oOp (.d (.bool x13)) (by kernel_rfl) (by kernel_rfl) (PureV.does (p_move (by kernel_rfl))) ?_
          refine bMeet 6 rfl ((fun (x14 : Bool) => [(0, .d (.lit (List.map e_u8 l))), (5, .d (.int .i64 sum5)), (7, .ptr 0 0), (83, .d (.bool x14))])) ((fun (x14 : Bool) => [.box [.d (.lit (List.map e_i64 r115))]])) (fun s => s) (fun x14 => ?_) (fun hj16 => ?_)
          · refine oView (T' := [(0, .d (.lit (List.map e_u8 l))), (5, .d (.int .i64 sum5)), (7, .ptr 0 0), (83, .d (.bool x14))]) (H' := [.box [.d (.lit (List.map e_i64 r115))]]) (by kernel_rfl) (by kernel_rfl) ?_
            refine oEnd ?_
            refine bSplit 83 (by kernel_rfl) (fun hc => ?_) (fun hc => ?_)
            · refine oCondT (by kernel_rfl) ?_
              refine oSeq ?_
              refine oRegion rfl ?_
              refine oOp (.d (.bool false)) (by kernel_rfl) (by kernel_rfl) (PureV.does (p_assign (by kernel_rfl))) ?_
              refine oEnd ?_
              exact oRet (r0 := false) (rv := .d (.bool false)) (B := []) (vs := [.d (.bool false)]) (σ := []) (by kernel_rfl) Try.func4 rfl (.cons _ _ _ _ (.tmp 2 _ (by kernel_rfl)) .nil) (by kernel_rfl) (by kernel_rfl) (by kernel_rfl) (by kernel_rfl) (by decide) (by kernel_rfl) (by kernel_rfl)
            · refine oCondF (by kernel_rfl) ?_
              refine oSkip ?_
              refine oSeq ?_
              refine oRegion rfl ?_
              refine oOp (.agg [.d (.lit (List.map e_i64 r115))]) (by kernel_rfl) (by kernel_rfl) (Quiet.does (k_loadAgg 0 0 (by kernel_rfl) Try.underlying26 (by kernel_rfl) ty26 (by kernel_rfl))) ?_
              refine bCall (caps := []) (v := (uc fun (r125 : Int) => (uc fun (r141 : Int) => (fun (r152 : Int) => (.tuple [.agg [.d (.int .i64 r125), .d (.int .i64 r141)], .d (.int .i64 r152)] : V))))) (H' := (uc fun (r125 : Int) => (uc fun (r141 : Int) => (fun (r152 : Int) => ([.box [.d (.lit (List.map e_i64 r115))]] : List Blk))))) [] _ (distribution_Mean_goes k r115) (by kernel_rfl) (by kernel_rfl) rfl (by kernel_rfl) Try.func19 rfl (by kernel_rfl) (ConvRs.refl _ _) (by kernel_rfl) (by kernel_rfl) (by kernel_rfl) (by decide) (by kernel_rfl) (by kernel_rfl) (fun _ => (by kernel_rfl)) (fun _ => (by kernel_rfl)) (fun _ => (by kernel_rfl)) (fun r => ?_)
              obtain ⟨r125, r141, r152⟩ := r
              refine bUc ?_
              refine bUc ?_
              refine oOp (.tuple [.agg [.d (.int .i64 r125), .d (.int .i64 r141)], .d (.int .i64 r152)]) (by kernel_rfl) (by kernel_rfl) (PureV.does (p_move (by kernel_rfl))) ?_
              refine oOp (.agg [.d (.int .i64 r125), .d (.int .i64 r141)]) (by kernel_rfl) (by kernel_rfl) (PureV.does (k_extract (by kernel_rfl))) ?_
              refine oOp (.d (.int .i64 r152)) (by kernel_rfl) (by kernel_rfl) (PureV.does (k_extract (by kernel_rfl))) ?_
              refine oOp (.ptr 1 0) (by kernel_rfl) (by kernel_rfl) (k_alloc (H' := [.box [.d (.lit (List.map e_i64 r115))], .box [.d (.int .i64 0), .d (.int .i64 0)]]) ty31 (by kernel_rfl) (by kernel_rfl)) ?_
              refine oOp (.undef) (by kernel_rfl) (by kernel_rfl) (k_store (vs := [.d (.int .i64 r125), .d (.int .i64 r141)]) (H' := [.box [.d (.lit (List.map e_i64 r115))], .box [.d (.int .i64 r125), .d (.int .i64 r141)]]) 1 0 (by kernel_rfl) ty31 (by kernel_rfl) (by kernel_rfl) (by kernel_rfl)) ?_
              refine oOp (.d (.int .i64 r152)) (by kernel_rfl) (by kernel_rfl) (PureV.does (p_assign (by kernel_rfl))) ?_
              refine oEnd ?_
              refine oSeq ?_
              refine oSeq ?_
              refine oRegion rfl ?_
              refine oOp (.d (.lit (List.map e_u8 l))) (by kernel_rfl) (by kernel_rfl) (PureV.does (p_move (by kernel_rfl))) ?_
              refine oOp (.d (.int .i64 ((List.length l) : Int))) (by kernel_rfl) (by kernel_rfl) (PureV.does (k_lenLit (enc := e_u8) l (by kernel_rfl) Try.underlying40)) ?_
              refine oOp (.d (.bool (((List.length l) : Int) == 0))) (by kernel_rfl) (by kernel_rfl) (PureV.does (p_int (k := .i64) (p := ((List.length l) : Int)) (q := 0) (by kernel_rfl) (by kernel_rfl) (by kernel_rfl))) ?_
              refine oEnd ?_
              refine bSplit 91 (by kernel_rfl) (fun hc => ?_) (fun hc => ?_)
              · refine oCondT (by kernel_rfl) ?_
                refine oSeq ?_
                refine oRegion rfl ?_
                refine oOp (.d (.int .i64 r152)) (by kernel_rfl) (by kernel_rfl) (PureV.does (p_move (by kernel_rfl))) ?_
                refine oOp (.d (.bool (r152 == 10))) (by kernel_rfl) (by kernel_rfl) (PureV.does (p_int (k := .i64) (p := r152) (q := 10) (by kernel_rfl) (by kernel_rfl) (by kernel_rfl))) ?_
                refine oOp (.d (.bool (r152 == 10))) (by kernel_rfl) (by kernel_rfl) (PureV.does (p_move (by kernel_rfl))) ?_
                refine bMeet 2 rfl ((fun (x16 : Bool) => [(96, .d (.bool x16))])) ((fun (x16 : Bool) => [])) (fun s => s) (fun x16 => ?_) (fun hj12 => ?_)
                · refine oView (T' := [(96, .d (.bool x16))]) (H' := []) (by kernel_rfl) (by kernel_rfl) ?_
                  refine oOp (.d (.bool x16)) (by kernel_rfl) (by kernel_rfl) (PureV.does (p_assign (by kernel_rfl))) ?_
                  refine oEnd ?_
                  exact oRet (r0 := x16) (rv := .d (.bool x16)) (B := []) (vs := [.d (.bool x16)]) (σ := []) (by kernel_rfl) Try.func4 rfl (.cons _ _ _ _ (.tmp 2 _ (by kernel_rfl)) .nil) (by kernel_rfl) (by kernel_rfl) (by kernel_rfl) (by kernel_rfl) (by decide) (by kernel_rfl) (by kernel_rfl)
                · refine bSplit 94 (by kernel_rfl) (fun hc => ?_) (fun hc => ?_)
                  · refine bCall (caps := []) (v := (fun (r126 : Bool) => (.d (.bool r126) : V))) (H' := (fun (r126 : Bool) => ([.box [.d (.lit (List.map e_i64 r115))], .box [.d (.int .i64 r125), .d (.int .i64 r141)]] : List Blk))) [] _ (law32_sane_goes k ) (by kernel_rfl) (by kernel_rfl) rfl (by kernel_rfl) Try.func10 rfl (by kernel_rfl) (ConvRs.refl _ _) (by kernel_rfl) (by kernel_rfl) (by kernel_rfl) (by decide) (by kernel_rfl) (by kernel_rfl) (fun _ => (by kernel_rfl)) (fun _ => (by kernel_rfl)) (fun _ => (by kernel_rfl)) (fun r126 => ?_)
                    refine oOp (.d (.bool r126)) (by kernel_rfl) (by kernel_rfl) (PureV.does (p_pick (b := true) (by kernel_rfl) (by kernel_rfl))) ?_
                    refine oHead [96] [] (T' := [(96, .d (.bool r126))]) (H' := []) (by kernel_rfl) (by kernel_rfl) (by kernel_rfl) (by kernel_rfl) (by decide) (by kernel_rfl) (by kernel_rfl) ?_
                    exact hj12 r126
                  · refine oNot (by kernel_rfl) (by kernel_rfl) ?_
                    refine oOp (.d (.bool false)) (by kernel_rfl) (by kernel_rfl) (PureV.does (p_pick (b := false) (by kernel_rfl) (by kernel_rfl))) ?_
                    refine oHead [96] [] (T' := [(96, .d (.bool false))]) (H' := []) (by kernel_rfl) (by kernel_rfl) (by kernel_rfl) (by kernel_rfl) (by decide) (by kernel_rfl) (by kernel_rfl) ?_
                    exact hj12 false
              · refine oCondF (by kernel_rfl) ?_
                refine oSkip ?_
                refine oSeq ?_
                refine oRegion rfl ?_
                refine oOp (.d (.int .i64 sum5)) (by kernel_rfl) (by kernel_rfl) (PureV.does (p_move (by kernel_rfl))) ?_
                refine oOp (.d (.lit (List.map e_u8 l))) (by kernel_rfl) (by kernel_rfl) (PureV.does (p_move (by kernel_rfl))) ?_
                refine oOp (.d (.int .i64 ((List.length l) : Int))) (by kernel_rfl) (by kernel_rfl) (PureV.does (k_lenLit (enc := e_u8) l (by kernel_rfl) Try.underlying40)) ?_
                refine bCall (caps := []) (v := (uc fun (r153 : Int) => (uc fun (r162 : Int) => (fun (r172 : Int) => (.tuple [.agg [.d (.int .i64 r153), .d (.int .i64 r162)], .d (.int .i64 r172)] : V))))) (H' := (uc fun (r153 : Int) => (uc fun (r162 : Int) => (fun (r172 : Int) => ([.box [.d (.lit (List.map e_i64 r115))], .box [.d (.int .i64 r125), .d (.int .i64 r141)]] : List Blk))))) [] _ (ref01_New_goes k sum5 ((List.length l) : Int)) (by kernel_rfl) (by kernel_rfl) rfl (by kernel_rfl) Try.func13 rfl (by kernel_rfl) (ConvRs.refl _ _) (by kernel_rfl) (by kernel_rfl) (by kernel_rfl) (by decide) (by kernel_rfl) (by kernel_rfl) (fun _ => (by kernel_rfl)) (fun _ => (by kernel_rfl)) (fun _ => (by kernel_rfl)) (fun r => ?_)
                obtain ⟨r153, r162, r172⟩ := r
                refine bUc ?_
                refine bUc ?_
                refine oOp (.tuple [.agg [.d (.int .i64 r153), .d (.int .i64 r162)], .d (.int .i64 r172)]) (by kernel_rfl) (by kernel_rfl) (PureV.does (p_move (by kernel_rfl))) ?_
                refine oOp (.agg [.d (.int .i64 r153), .d (.int .i64 r162)]) (by kernel_rfl) (by kernel_rfl) (PureV.does (k_extract (by kernel_rfl))) ?_
                refine oOp (.d (.int .i64 r172)) (by kernel_rfl) (by kernel_rfl) (PureV.does (k_extract (by kernel_rfl))) ?_
                refine oOp (.ptr 2 0) (by kernel_rfl) (by kernel_rfl) (k_alloc (H' := [.box [.d (.lit (List.map e_i64 r115))], .box [.d (.int .i64 r125), .d (.int .i64 r141)], .box [.d (.int .i64 0), .d (.int .i64 0)]]) ty31 (by kernel_rfl) (by kernel_rfl)) ?_
                refine oOp (.undef) (by kernel_rfl) (by kernel_rfl) (k_store (vs := [.d (.int .i64 r153), .d (.int .i64 r162)]) (H' := [.box [.d (.lit (List.map e_i64 r115))], .box [.d (.int .i64 r125), .d (.int .i64 r141)], .box [.d (.int .i64 r153), .d (.int .i64 r162)]]) 2 0 (by kernel_rfl) ty31 (by kernel_rfl) (by kernel_rfl) (by kernel_rfl)) ?_
                refine oOp (.d (.int .i64 r172)) (by kernel_rfl) (by kernel_rfl) (PureV.does (p_assign (by kernel_rfl))) ?_
                refine oEnd ?_
                refine oSeq ?_
                refine oRegion rfl ?_
                refine oOp (.d (.int .i64 r152)) (by kernel_rfl) (by kernel_rfl) (PureV.does (p_move (by kernel_rfl))) ?_
                refine oOp (.d (.bool (r152 == 0))) (by kernel_rfl) (by kernel_rfl) (PureV.does (p_int (k := .i64) (p := r152) (q := 0) (by kernel_rfl) (by kernel_rfl) (by kernel_rfl))) ?_
                refine oOp (.d (.bool (r152 == 0))) (by kernel_rfl) (by kernel_rfl) (PureV.does (p_move (by kernel_rfl))) ?_
                refine bMeetF (H' := [.box [.d (.int .i64 r125), .d (.int .i64 r141)], .box [.d (.int .i64 r153), .d (.int .i64 r162)]]) 3 rfl ((fun (x17 : Bool) => [(11, .ptr 0 0), (13, .ptr 1 0), (109, .d (.bool x17))])) (fun x17 => ?_) (fun F hj13 => ?_)
                · refine oView (T' := [(11, .ptr 0 0), (13, .ptr 1 0), (109, .d (.bool x17))]) (H' := [.box [.d (.int .i64 r125), .d (.int .i64 r141)], .box [.d (.int .i64 r153), .d (.int .i64 r162)]]) (by kernel_rfl) (by kernel_rfl) ?_
                  refine oOp (.d (.bool x17)) (by kernel_rfl) (by kernel_rfl) (PureV.does (p_move (by kernel_rfl))) ?_
                  refine bMeetF (H' := []) 4 rfl ((fun (x18 : Bool) => [(114, .d (.bool x18))])) (fun x18 => ?_) (fun F hj14 => ?_)
                  · refine oView (T' := [(114, .d (.bool x18))]) (H' := []) (by kernel_rfl) (by kernel_rfl) ?_
                    refine oOp (.d (.bool x18)) (by kernel_rfl) (by kernel_rfl) (PureV.does (p_move (by kernel_rfl))) ?_
                    refine bMeet 2 rfl ((fun (x19 : Bool) => [(117, .d (.bool x19))])) ((fun (x19 : Bool) => [])) (fun s => s) (fun x19 => ?_) (fun hj15 => ?_)
                    · refine oView (T' := [(117, .d (.bool x19))]) (H' := []) (by kernel_rfl) (by kernel_rfl) ?_
                      refine oOp (.d (.bool x19)) (by kernel_rfl) (by kernel_rfl) (PureV.does (p_assign (by kernel_rfl))) ?_
                      refine oEnd ?_
                      exact oRet (r0 := x19) (rv := .d (.bool x19)) (B := []) (vs := [.d (.bool x19)]) (σ := []) (by kernel_rfl) Try.func4 rfl (.cons _ _ _ _ (.tmp 2 _ (by kernel_rfl)) .nil) (by kernel_rfl) (by kernel_rfl) (by kernel_rfl) (by kernel_rfl) (by decide) (by kernel_rfl) (by kernel_rfl)
                    · refine bSplit 115 (by kernel_rfl) (fun hc => ?_) (fun hc => ?_)
                      · refine bCall (caps := []) (v := (fun (r128 : Bool) => (.d (.bool r128) : V))) (H' := (fun (r128 : Bool) => ([] : List Blk))) [] _ (law32_sane_goes k ) (by kernel_rfl) (by kernel_rfl) rfl (by kernel_rfl) Try.func10 rfl (by kernel_rfl) (ConvRs.refl _ _) (by kernel_rfl) (by kernel_rfl) (by kernel_rfl) (by decide) (by kernel_rfl) (by kernel_rfl) (fun _ => (by kernel_rfl)) (fun _ => (by kernel_rfl)) (fun _ => (by kernel_rfl)) (fun r128 => ?_)
                        refine oOp (.d (.bool r128)) (by kernel_rfl) (by kernel_rfl) (PureV.does (p_pick (b := true) (by kernel_rfl) (by kernel_rfl))) ?_
                        refine oHead [117] [] (T' := [(117, .d (.bool r128))]) (H' := []) (by kernel_rfl) (by kernel_rfl) (by kernel_rfl) (by kernel_rfl) (by decide) (by kernel_rfl) (by kernel_rfl) ?_
                        exact hj15 r128
                      · refine oNot (by kernel_rfl) (by kernel_rfl) ?_
                        refine oOp (.d (.bool false)) (by kernel_rfl) (by kernel_rfl) (PureV.does (p_pick (b := false) (by kernel_rfl) (by kernel_rfl))) ?_
                        refine oHead [117] [] (T' := [(117, .d (.bool false))]) (H' := []) (by kernel_rfl) (by kernel_rfl) (by kernel_rfl) (by kernel_rfl) (by decide) (by kernel_rfl) (by kernel_rfl) ?_
                        exact hj15 false
                  · refine bPickF 110 (fun c => F (c && ((r125 == r153) && ((r141 == r162) && true)))) (by kernel_rfl) (fun hc => ?_) (fun hc => ?_)
                    · refine oOp (.agg [.d (.int .i64 r125), .d (.int .i64 r141)]) (by kernel_rfl) (by kernel_rfl) (Quiet.does (k_loadAgg 0 0 (by kernel_rfl) Try.underlying31 (by kernel_rfl) ty31 (by kernel_rfl))) ?_
                      refine oOp (.agg [.d (.int .i64 r153), .d (.int .i64 r162)]) (by kernel_rfl) (by kernel_rfl) (Quiet.does (k_loadAgg 1 0 (by kernel_rfl) Try.underlying31 (by kernel_rfl) ty31 (by kernel_rfl))) ?_
                      refine oOp (.d (.bool ((r125 == r153) && ((r141 == r162) && true)))) (by kernel_rfl) (by kernel_rfl) (PureV.does (k_eqAgg (by kernel_rfl) (by kernel_rfl) Try.eqGuardType31 (EqV.struct 1 31 [.d (.int .i64 r125), .d (.int .i64 r141)] [.d (.int .i64 r153), .d (.int .i64 r162)] _ ((r125 == r153) && ((r141 == r162) && true)) Try.underlying31 Try.stoodInHeld31 (EqF.one 1 1 _ _ _ _ _ _ _ (r125 == r153) ((r141 == r162) && true) (by kernel_rfl) Try.underlying3 (by kernel_rfl) (by kernel_rfl) (by kernel_rfl) (by kernel_rfl) (EqV.int 3 .i64 .i64 r125 r153 Try.underlying3) (EqF.one 1 1 _ _ _ _ _ _ _ (r141 == r162) true (by kernel_rfl) Try.underlying3 (by kernel_rfl) (by kernel_rfl) (by kernel_rfl) (by kernel_rfl) (EqV.int 3 .i64 .i64 r141 r162 Try.underlying3) (EqF.nil 1 _ _)))) (by kernel_rfl))) ?_
                      refine oOp (.d (.bool ((r125 == r153) && ((r141 == r162) && true)))) (by kernel_rfl) (by kernel_rfl) (PureV.does (p_pick (b := true) (by kernel_rfl) (by kernel_rfl))) ?_
                      refine oHead [114] [] (T' := [(114, .d (.bool ((r125 == r153) && ((r141 == r162) && true))))]) (H' := []) (by kernel_rfl) (by kernel_rfl) (by kernel_rfl) (by kernel_rfl) (by decide) (by kernel_rfl) (by kernel_rfl) ?_
                      exact hj14 ((r125 == r153) && ((r141 == r162) && true))
                    · refine oNot (by kernel_rfl) (by kernel_rfl) ?_
                      refine oNot (by kernel_rfl) (by kernel_rfl) ?_
                      refine oNot (by kernel_rfl) (by kernel_rfl) ?_
                      refine oOp (.d (.bool false)) (by kernel_rfl) (by kernel_rfl) (PureV.does (p_pick (b := false) (by kernel_rfl) (by kernel_rfl))) ?_
                      refine oHead [114] [] (T' := [(114, .d (.bool false))]) (H' := []) (by kernel_rfl) (by kernel_rfl) (by kernel_rfl) (by kernel_rfl) (by decide) (by kernel_rfl) (by kernel_rfl) ?_
                      exact hj14 false
                · refine bPickF 106 (fun c => F (c && (r172 == 0))) (by kernel_rfl) (fun hc => ?_) (fun hc => ?_)
                  · refine oOp (.d (.int .i64 r172)) (by kernel_rfl) (by kernel_rfl) (PureV.does (p_move (by kernel_rfl))) ?_
                    refine oOp (.d (.bool (r172 == 0))) (by kernel_rfl) (by kernel_rfl) (PureV.does (p_int (k := .i64) (p := r172) (q := 0) (by kernel_rfl) (by kernel_rfl) (by kernel_rfl))) ?_
                    refine oOp (.d (.bool (r172 == 0))) (by kernel_rfl) (by kernel_rfl) (PureV.does (p_pick (b := true) (by kernel_rfl) (by kernel_rfl))) ?_
                    refine oHead [11, 13, 109] [1, 2] (T' := [(11, .ptr 0 0), (13, .ptr 1 0), (109, .d (.bool (r172 == 0)))]) (H' := [.box [.d (.int .i64 r125), .d (.int .i64 r141)], .box [.d (.int .i64 r153), .d (.int .i64 r162)]]) (by kernel_rfl) (by kernel_rfl) (by kernel_rfl) (by kernel_rfl) (by decide) (by kernel_rfl) (by kernel_rfl) ?_
                    exact hj13 (r172 == 0)
                  · refine oNot (by kernel_rfl) (by kernel_rfl) ?_
                    refine oNot (by kernel_rfl) (by kernel_rfl) ?_
                    refine oOp (.d (.bool false)) (by kernel_rfl) (by kernel_rfl) (PureV.does (p_pick (b := false) (by kernel_rfl) (by kernel_rfl))) ?_
                    refine oHead [11, 13, 109] [1, 2] (T' := [(11, .ptr 0 0), (13, .ptr 1 0), (109, .d (.bool false))]) (H' := [.box [.d (.int .i64 r125), .d (.int .i64 r141)], .box [.d (.int .i64 r153), .d (.int .i64 r162)]]) (by kernel_rfl) (by kernel_rfl) (by kernel_rfl) (by kernel_rfl) (by decide) (by kernel_rfl) (by kernel_rfl) ?_
                    exact hj13 false
          · refine bSplit 77 (by kernel_rfl) (fun hc => ?_) (fun hc => ?_)
            · refine oNot (by kernel_rfl) (by kernel_rfl) ?_
              refine oNot (by kernel_rfl) (by kernel_rfl) ?_
              refine oNot (by kernel_rfl) (by kernel_rfl) ?_
              refine oNot (by kernel_rfl) (by kernel_rfl) ?_
              refine oNot (by kernel_rfl) (by kernel_rfl) ?_
              refine oOp (.d (.bool true)) (by kernel_rfl) (by kernel_rfl) (PureV.does (p_pick (b := true) (by kernel_rfl) (by kernel_rfl))) ?_
              refine oHead [0, 5, 7, 83] [0] (T' := [(0, .d (.lit (List.map e_u8 l))), (5, .d (.int .i64 sum5)), (7, .ptr 0 0), (83, .d (.bool true))]) (H' := [.box [.d (.lit (List.map e_i64 r115))]]) (by kernel_rfl) (by kernel_rfl) (by kernel_rfl) (by kernel_rfl) (by decide) (by kernel_rfl) (by kernel_rfl) ?_
              exact hj16 true
            · refine oOp (.agg [.d (.lit (List.map e_i64 r115))]) (by kernel_rfl) (by kernel_rfl) (Quiet.does (k_loadAgg 0 0 (by kernel_rfl) Try.underlying26 (by kernel_rfl) ty26 (by kernel_rfl))) ?_
              refine bCall (caps := []) (v := (fun (r1110 : Int) => (.d (.int .i64 r1110) : V))) (H' := (fun (r1110 : Int) => ([.box [.d (.lit (List.map e_i64 r115))]] : List Blk))) [] _ (distribution_Count_goes k r115) (by kernel_rfl) (by kernel_rfl) rfl (by kernel_rfl) Try.func15 rfl (by kernel_rfl) (ConvRs.refl _ _) (by kernel_rfl) (by kernel_rfl) (by kernel_rfl) (by decide) (by kernel_rfl) (by kernel_rfl) (fun _ => (by kernel_rfl)) (fun _ => (by kernel_rfl)) (fun _ => (by kernel_rfl)) (fun r1110 => ?_)
              refine oOp (.d (.lit (List.map e_u8 l))) (by kernel_rfl) (by kernel_rfl) (PureV.does (p_move (by kernel_rfl))) ?_
              refine oOp (.d (.int .i64 ((List.length l) : Int))) (by kernel_rfl) (by kernel_rfl) (PureV.does (k_lenLit (enc := e_u8) l (by kernel_rfl) Try.underlying40)) ?_
              refine oOp (.d (.bool (r1110 != ((List.length l) : Int)))) (by kernel_rfl) (by kernel_rfl) (PureV.does (p_int (k := .i64) (p := r1110) (q := ((List.length l) : Int)) (by kernel_rfl) (by kernel_rfl) (by kernel_rfl))) ?_
              refine oOp (.d (.bool (r1110 != ((List.length l) : Int)))) (by kernel_rfl) (by kernel_rfl) (PureV.does (p_pick (b := false) (by kernel_rfl) (by kernel_rfl))) ?_
              refine oHead [0, 5, 7, 83] [0] (T' := [(0, .d (.lit (List.map e_u8 l))), (5, .d (.int .i64 sum5)), (7, .ptr 0 0), (83, .d (.bool (r1110 != ((List.length l) : Int))))]) (H' := [.box [.d (.lit (List.map e_i64 r115))]]) (by kernel_rfl) (by kernel_rfl) (by kernel_rfl) (by kernel_rfl) (by decide) (by kernel_rfl) (by kernel_rfl) ?_
              exact hj16 (r1110 != ((List.length l) : Int))
        · refine bSplit 71 (by kernel_rfl) (fun hc => ?_) (fun hc => ?_)
          · refine oNot (by kernel_rfl) (by kernel_rfl) ?_
            refine oNot (by kernel_rfl) (by kernel_rfl) ?_
            refine oNot (by kernel_rfl) (by kernel_rfl) ?_
            refine oNot (by kernel_rfl) (by kernel_rfl) ?_
            refine oOp (.d (.bool true)) (by kernel_rfl) (by kernel_rfl) (PureV.does (p_pick (b := true) (by kernel_rfl) (by kernel_rfl))) ?_
            refine oHead [0, 5, 7, 76] [0] (T' := [(0, .d (.lit (List.map e_u8 l))), (5, .d (.int .i64 sum5)), (7, .ptr 0 0), (76, .d (.bool true))]) (H' := [.box [.d (.lit (List.map e_i64 r115))]]) (by kernel_rfl) (by kernel_rfl) (by kernel_rfl) (by kernel_rfl) (by decide) (by kernel_rfl) (by kernel_rfl) ?_
            exact hj17 true
          · refine oOp (.agg [.d (.lit (List.map e_i64 r115))]) (by kernel_rfl) (by kernel_rfl) (Quiet.does (k_loadAgg 0 0 (by kernel_rfl) Try.underlying26 (by kernel_rfl) ty26 (by kernel_rfl))) ?_
            refine oOp (.agg [.d (.lit (List.map e_i64 r116))]) (by kernel_rfl) (by kernel_rfl) (Quiet.does (k_loadAgg 1 0 (by kernel_rfl) Try.underlying26 (by kernel_rfl) ty26 (by kernel_rfl))) ?_
            refine bCall (caps := []) (v := (fun (r129 : Bool) => (.d (.bool r129) : V))) (H' := (fun (r129 : Bool) => ([.box [.d (.lit (List.map e_i64 r115))], .box [.d (.lit (List.map e_i64 r116))]] : List Blk))) [] _ (ref32_Same_goes k r115 r116) (by kernel_rfl) (by kernel_rfl) rfl (by kernel_rfl) Try.func18 rfl (by kernel_rfl) (ConvRs.refl _ _) (by kernel_rfl) (by kernel_rfl) (by kernel_rfl) (by decide) (by kernel_rfl) (by kernel_rfl) (fun _ => (by kernel_rfl)) (fun _ => (by kernel_rfl)) (fun _ => (by kernel_rfl)) (fun r129 => ?_)
            refine oOp (.d (.bool (!r129))) (by kernel_rfl) (by kernel_rfl) (PureV.does (p_not (p := r129) (by kernel_rfl) (by kernel_rfl))) ?_
            refine oOp (.d (.bool (!r129))) (by kernel_rfl) (by kernel_rfl) (PureV.does (p_pick (b := false) (by kernel_rfl) (by kernel_rfl))) ?_
            refine oHead [0, 5, 7, 76] [0] (T' := [(0, .d (.lit (List.map e_u8 l))), (5, .d (.int .i64 sum5)), (7, .ptr 0 0), (76, .d (.bool (!r129)))]) (H' := [.box [.d (.lit (List.map e_i64 r115))]]) (by kernel_rfl) (by kernel_rfl) (by kernel_rfl) (by kernel_rfl) (by decide) (by kernel_rfl) (by kernel_rfl) ?_
            exact hj17 (!r129)
      · refine bPickF 67 (fun c => F (c || (r124 != 0))) (by kernel_rfl) (fun hc => ?_) (fun hc => ?_)
        · refine oNot (by kernel_rfl) (by kernel_rfl) ?_
          refine oNot (by kernel_rfl) (by kernel_rfl) ?_
          refine oOp (.d (.bool true)) (by kernel_rfl) (by kernel_rfl) (PureV.does (p_pick (b := true) (by kernel_rfl) (by kernel_rfl))) ?_
          refine oHead [0, 5, 7, 9, 70] [2, 3] (T' := [(0, .d (.lit (List.map e_u8 l))), (5, .d (.int .i64 sum5)), (7, .ptr 0 0), (9, .ptr 1 0), (70, .d (.bool true))]) (H' := [.box [.d (.lit (List.map e_i64 r115))], .box [.d (.lit (List.map e_i64 r116))]]) (by kernel_rfl) (by kernel_rfl) (by kernel_rfl) (by kernel_rfl) (by decide) (by kernel_rfl) (by kernel_rfl) ?_
          exact hj11 true
        · refine oOp (.d (.int .i64 r124)) (by kernel_rfl) (by kernel_rfl) (PureV.does (p_move (by kernel_rfl))) ?_
          refine oOp (.d (.bool (r124 != 0))) (by kernel_rfl) (by kernel_rfl) (PureV.does (p_int (k := .i64) (p := r124) (q := 0) (by kernel_rfl) (by kernel_rfl) (by kernel_rfl))) ?_
          refine oOp (.d (.bool (r124 != 0))) (by kernel_rfl) (by kernel_rfl) (PureV.does (p_pick (b := false) (by kernel_rfl) (by kernel_rfl))) ?_
          refine oHead [0, 5, 7, 9, 70] [2, 3] (T' := [(0, .d (.lit (List.map e_u8 l))), (5, .d (.int .i64 sum5)), (7, .ptr 0 0), (9, .ptr 1 0), (70, .d (.bool (r124 != 0)))]) (H' := [.box [.d (.lit (List.map e_i64 r115))], .box [.d (.lit (List.map e_i64 r116))]]) (by kernel_rfl) (by kernel_rfl) (by kernel_rfl) (by kernel_rfl) (by decide) (by kernel_rfl) (by kernel_rfl) ?_
          exact hj11 (r124 != 0)
    · refine oBlock ?_
      refine oLoop ?_
      refine oVirt (esz := 1) 3 (by kernel_rfl) ?_
      refine oView (H' := [.sl 1 (List.map e_i64 ([] : List Int)) false]) rfl (by kernel_rfl) ?_
      refine oVirt (esz := 1) 4 (by kernel_rfl) ?_
      refine oView (H' := [.sl 1 (List.map e_i64 ([] : List Int)) false, .sl 1 (List.map e_i64 ([] : List Int)) false]) rfl (by kernel_rfl) ?_
      refine oHead [0, 3, 4, 5, 20, 21] [0, 1] (T' := [(0, .d (.lit (List.map e_u8 l))), (3, .ref 0 (List.length ([] : List Int)) 0 (List.length ([] : List Int))), (4, .ref 1 (List.length ([] : List Int)) 0 (List.length ([] : List Int))), (5, .d (.int .i64 0)), (20, .d (.int .i64 ((List.length l) : Int))), (21, .d (.int .i64 0))]) (H' := [.sl 1 (List.map e_i64 ([] : List Int)) false, .sl 1 (List.map e_i64 ([] : List Int)) false]) (by kernel_rfl) (by kernel_rfl) (by kernel_rfl) (by kernel_rfl) (by decide) (by kernel_rfl) (by kernel_rfl) ?_
      refine bLoop (body := law32_DistributionOrder_b1 k l) ((uc fun (sum6 : Int) => (uc fun (x20 : Int) => (uc fun (xs32 : (List Int)) => (fun (xs33 : (List Int)) => [(0, .d (.lit (List.map e_u8 l))), (3, .ref 0 (List.length xs32) 0 (List.length xs32)), (4, .ref 1 (List.length xs33) 0 (List.length xs33)), (5, .d (.int .i64 sum6)), (20, .d (.int .i64 ((List.length l) : Int))), (21, .d (.int .i64 x20))]))))) ((uc fun (sum6 : Int) => (uc fun (x20 : Int) => (uc fun (xs32 : (List Int)) => (fun (xs33 : (List Int)) => [.sl 1 (List.map e_i64 xs32) false, .sl 1 (List.map e_i64 xs33) false]))))) (fun again hag1 s => ?_) k (0, 0, ([] : List Int), ([] : List Int))
      · unfold law32_DistributionOrder_b1
        obtain ⟨sum6, x20, xs32, xs33⟩ := s
        refine bUc ?_
        refine bUc ?_
        refine bUc ?_
        refine oView (T' := [(0, .d (.lit (List.map e_u8 l))), (3, .ref 0 (List.length xs32) 0 (List.length xs32)), (4, .ref 1 (List.length xs33) 0 (List.length xs33)), (5, .d (.int .i64 sum6)), (20, .d (.int .i64 ((List.length l) : Int))), (21, .d (.int .i64 x20))]) (H' := [.sl 1 (List.map e_i64 xs32) false, .sl 1 (List.map e_i64 xs33) false]) (by kernel_rfl) (by kernel_rfl) ?_
        refine oSeq ?_
        refine oRegion rfl ?_
        refine oOp (.d (.bool (decide (x20 < ((List.length l) : Int))))) (by kernel_rfl) (by kernel_rfl) (PureV.does (p_int (k := .i64) (p := x20) (q := ((List.length l) : Int)) (by kernel_rfl) (by kernel_rfl) (by kernel_rfl))) ?_
        refine oEnd ?_
        refine oSeq ?_
        refine bSplit 22 (by kernel_rfl) (fun hc => ?_) (fun hc => ?_)
        · refine oCondT (by kernel_rfl) ?_
          refine oSkip ?_
          refine oSeq ?_
          refine oBlock ?_
          refine oSeq ?_
          refine oRegion rfl ?_
          refine oOp (.d (.int .i64 x20)) (by kernel_rfl) (by kernel_rfl) (PureV.does (p_move (by kernel_rfl))) ?_
          refine oOp (.d (.int .i64 x20)) (by kernel_rfl) (by kernel_rfl) (PureV.does (p_assign (by kernel_rfl))) ?_
          refine oEnd ?_
          refine oSeq ?_
          refine bJoin ((uc fun (xs42 : (List Int)) => (fun (xs43 : (List Int)) => [(0, .d (.lit (List.map e_u8 l))), (3, .ref 0 (List.length xs42) 0 (List.length xs42)), (4, .ref 1 (List.length xs43) 0 (List.length xs43)), (5, .d (.int .i64 sum6)), (6, .d (.int .i64 x20)), (20, .d (.int .i64 ((List.length l) : Int))), (21, .d (.int .i64 x20))]))) ((uc fun (xs42 : (List Int)) => (fun (xs43 : (List Int)) => [.sl 1 (List.map e_i64 xs42) false, .sl 1 (List.map e_i64 xs43) false]))) (fun s => s) (fun s => ?_) (fun hj23 => ?_)
          · obtain ⟨xs42, xs43⟩ := s
            refine bUc ?_
            refine oView (T' := [(0, .d (.lit (List.map e_u8 l))), (3, .ref 0 (List.length xs42) 0 (List.length xs42)), (4, .ref 1 (List.length xs43) 0 (List.length xs43)), (5, .d (.int .i64 sum6)), (6, .d (.int .i64 x20)), (20, .d (.int .i64 ((List.length l) : Int))), (21, .d (.int .i64 x20))]) (H' := [.sl 1 (List.map e_i64 xs42) false, .sl 1 (List.map e_i64 xs43) false]) (by kernel_rfl) (by kernel_rfl) ?_
            refine oRegion rfl ?_
            refine oOp (.d (.int .i64 sum6)) (by kernel_rfl) (by kernel_rfl) (PureV.does (p_move (by kernel_rfl))) ?_
            refine oOp (.d (.lit (List.map e_u8 l))) (by kernel_rfl) (by kernel_rfl) (PureV.does (p_move (by kernel_rfl))) ?_
            refine oOp (.d (.int .i64 x20)) (by kernel_rfl) (by kernel_rfl) (PureV.does (p_move (by kernel_rfl))) ?_
            refine bIdx (fun e115 h132 h133 => ?_)
            refine oOp (.lptr (e_u8 e115) 0) (by kernel_rfl) (by kernel_rfl) (PureV.does (k_idxLit e_u8_len l (a := e115) (by kernel_rfl) (k := .i64) (i := x20) (by kernel_rfl) Try.underlying40 ty5 h132 h133)) ?_
            refine oOp (.d (.int .u8 e115)) (by kernel_rfl) (by kernel_rfl) (Quiet.does (k_loadL (cells := e_u8 e115) 0 (by kernel_rfl) Try.underlying5 (by kernel_rfl) (by kernel_rfl))) ?_
            refine oOp (.d (.int .u8 (Int.tmod e115 40))) (by kernel_rfl) (by kernel_rfl) (PureV.does (p_rem (k := .u8) (p := e115) (q := 40) (by kernel_rfl) (by kernel_rfl) (by decide) (by kernel_rfl))) ?_
            refine oOp (.d (.int .i64 (IntKind.wrap .i64 (Int.tmod e115 40)))) (by kernel_rfl) (by kernel_rfl) (PureV.does (p_conv (k := .u8) (p := (Int.tmod e115 40)) (by kernel_rfl) Try.underlying5 Try.underlying3 (by kernel_rfl))) ?_
            refine oOp (.d (.int .i64 (IntKind.wrap .i64 (sum6 + (IntKind.wrap .i64 (Int.tmod e115 40)))))) (by kernel_rfl) (by kernel_rfl) (PureV.does (p_int (k := .i64) (p := sum6) (q := (IntKind.wrap .i64 (Int.tmod e115 40))) (by kernel_rfl) (by kernel_rfl) (by kernel_rfl))) ?_
            refine oOp (.d (.int .i64 (IntKind.wrap .i64 (sum6 + (IntKind.wrap .i64 (Int.tmod e115 40)))))) (by kernel_rfl) (by kernel_rfl) (PureV.does (p_assign (by kernel_rfl))) ?_
            refine oEnd ?_
            refine oBlk ?_
            refine oRegion rfl ?_
            refine oOp (.d (.int .i64 (IntKind.wrap .i64 (x20 + 1)))) (by kernel_rfl) (by kernel_rfl) (PureV.does (p_int (k := .i64) (p := x20) (q := 1) (by kernel_rfl) (by kernel_rfl) (by kernel_rfl))) ?_
            refine oOp (.d (.int .i64 (IntKind.wrap .i64 (x20 + 1)))) (by kernel_rfl) (by kernel_rfl) (PureV.does (p_move (by kernel_rfl))) ?_
            refine oEnd ?_
            refine oAgain ?_
            refine oHead [0, 3, 4, 5, 20, 21] [0, 1] (T' := [(0, .d (.lit (List.map e_u8 l))), (3, .ref 0 (List.length xs42) 0 (List.length xs42)), (4, .ref 1 (List.length xs43) 0 (List.length xs43)), (5, .d (.int .i64 (IntKind.wrap .i64 (sum6 + (IntKind.wrap .i64 (Int.tmod e115 40)))))), (20, .d (.int .i64 ((List.length l) : Int))), (21, .d (.int .i64 (IntKind.wrap .i64 (x20 + 1))))]) (H' := [.sl 1 (List.map e_i64 xs42) false, .sl 1 (List.map e_i64 xs43) false]) (by kernel_rfl) (by kernel_rfl) (by kernel_rfl) (by kernel_rfl) (by decide) (by kernel_rfl) (by kernel_rfl) ?_
            exact hag1 ((IntKind.wrap .i64 (sum6 + (IntKind.wrap .i64 (Int.tmod e115 40)))), (IntKind.wrap .i64 (x20 + 1)), xs42, xs43)
          · refine oDraw [(0, 8), (1, 21)] rfl ?_
            refine aTakeL (i := 0) (st' := []) (.ref 0 (List.length xs32) 0 (List.length xs32)) rfl (by kernel_rfl) (by kernel_rfl) (by kernel_rfl) (by kernel_rfl) (by kernel_rfl) (by kernel_rfl) (by kernel_rfl) (PureV.quiet (p_move (by kernel_rfl)) []) ?_
            refine aTakeL (i := 1) (st' := []) (.d (.lit (List.map e_u8 l))) rfl (by kernel_rfl) (by kernel_rfl) (by kernel_rfl) (by kernel_rfl) (by kernel_rfl) (by kernel_rfl) (by kernel_rfl) (PureV.quiet (p_move (by kernel_rfl)) []) ?_
            refine aTakeL (i := 2) (st' := []) (.d (.int .i64 x20)) rfl (by kernel_rfl) (by kernel_rfl) (by kernel_rfl) (by kernel_rfl) (by kernel_rfl) (by kernel_rfl) (by kernel_rfl) (PureV.quiet (p_move (by kernel_rfl)) []) ?_
            refine dIdx (fun e1 h1 h11 => ?_)
            refine aTakeL (i := 3) (st' := []) (.lptr (e_u8 e1) 0) rfl (by kernel_rfl) (by kernel_rfl) (by kernel_rfl) (by kernel_rfl) (by kernel_rfl) (by kernel_rfl) (by kernel_rfl) (PureV.quiet (k_idxLit e_u8_len l (a := e1) (by kernel_rfl) (k := .i64) (i := x20) (by kernel_rfl) Try.underlying40 ty5 h1 h11) []) ?_
            refine aTakeL (i := 4) (st' := []) (.d (.int .u8 e1)) rfl (by kernel_rfl) (by kernel_rfl) (by kernel_rfl) (by kernel_rfl) (by kernel_rfl) (by kernel_rfl) (by kernel_rfl) (k_loadL (cells := e_u8 e1) 0 (by kernel_rfl) Try.underlying5 (by kernel_rfl) (by kernel_rfl)) ?_
            refine aTakeL (i := 5) (st' := []) (.d (.int .u8 (Int.tmod e1 40))) rfl (by kernel_rfl) (by kernel_rfl) (by kernel_rfl) (by kernel_rfl) (by kernel_rfl) (by kernel_rfl) (by kernel_rfl) (PureV.quiet (p_rem (k := .u8) (p := e1) (q := 40) (by kernel_rfl) (by kernel_rfl) (by decide) (by kernel_rfl)) []) ?_
            refine aTakeL (i := 6) (st' := []) (.d (.int .i64 (IntKind.wrap .i64 (Int.tmod e1 40)))) rfl (by kernel_rfl) (by kernel_rfl) (by kernel_rfl) (by kernel_rfl) (by kernel_rfl) (by kernel_rfl) (by kernel_rfl) (PureV.quiet (p_conv (k := .u8) (p := (Int.tmod e1 40)) (by kernel_rfl) Try.underlying5 Try.underlying3 (by kernel_rfl)) []) ?_
            refine aTakeL (i := 9) (st' := []) (.ref 1 (List.length xs33) 0 (List.length xs33)) rfl (by kernel_rfl) (by kernel_rfl) (by kernel_rfl) (by kernel_rfl) (by kernel_rfl) (by kernel_rfl) (by kernel_rfl) (PureV.quiet (p_move (by kernel_rfl)) []) ?_
            refine aTakeL (i := 10) (st' := []) (.d (.lit (List.map e_u8 l))) rfl (by kernel_rfl) (by kernel_rfl) (by kernel_rfl) (by kernel_rfl) (by kernel_rfl) (by kernel_rfl) (by kernel_rfl) (PureV.quiet (p_move (by kernel_rfl)) []) ?_
            refine aTakeL (i := 11) (st' := []) (.d (.lit (List.map e_u8 l))) rfl (by kernel_rfl) (by kernel_rfl) (by kernel_rfl) (by kernel_rfl) (by kernel_rfl) (by kernel_rfl) (by kernel_rfl) (PureV.quiet (p_move (by kernel_rfl)) []) ?_
            refine aTakeL (i := 12) (st' := []) (.d (.int .i64 ((List.length l) : Int))) rfl (by kernel_rfl) (by kernel_rfl) (by kernel_rfl) (by kernel_rfl) (by kernel_rfl) (by kernel_rfl) (by kernel_rfl) (PureV.quiet (k_lenLit (enc := e_u8) l (by kernel_rfl) Try.underlying40) []) ?_
            refine aTakeL (i := 13) (st' := []) (.d (.int .i64 (IntKind.wrap .i64 (((List.length l) : Int) - 1)))) rfl (by kernel_rfl) (by kernel_rfl) (by kernel_rfl) (by kernel_rfl) (by kernel_rfl) (by kernel_rfl) (by kernel_rfl) (PureV.quiet (p_int (k := .i64) (p := ((List.length l) : Int)) (q := 1) (by kernel_rfl) (by kernel_rfl) (by kernel_rfl)) []) ?_
            refine aTakeL (i := 14) (st' := []) (.d (.int .i64 x20)) rfl (by kernel_rfl) (by kernel_rfl) (by kernel_rfl) (by kernel_rfl) (by kernel_rfl) (by kernel_rfl) (by kernel_rfl) (PureV.quiet (p_move (by kernel_rfl)) []) ?_
            refine aTakeL (i := 15) (st' := []) (.d (.int .i64 (IntKind.wrap .i64 ((IntKind.wrap .i64 (((List.length l) : Int) - 1)) - x20)))) rfl (by kernel_rfl) (by kernel_rfl) (by kernel_rfl) (by kernel_rfl) (by kernel_rfl) (by kernel_rfl) (by kernel_rfl) (PureV.quiet (p_int (k := .i64) (p := (IntKind.wrap .i64 (((List.length l) : Int) - 1))) (q := x20) (by kernel_rfl) (by kernel_rfl) (by kernel_rfl)) []) ?_
            refine dIdx (fun e11 h12 h13 => ?_)
            refine aTakeL (i := 16) (st' := []) (.lptr (e_u8 e11) 0) rfl (by kernel_rfl) (by kernel_rfl) (by kernel_rfl) (by kernel_rfl) (by kernel_rfl) (by kernel_rfl) (by kernel_rfl) (PureV.quiet (k_idxLit e_u8_len l (a := e11) (by kernel_rfl) (k := .i64) (i := (IntKind.wrap .i64 ((IntKind.wrap .i64 (((List.length l) : Int) - 1)) - x20))) (by kernel_rfl) Try.underlying40 ty5 h12 h13) []) ?_
            refine aTakeL (i := 17) (st' := []) (.d (.int .u8 e11)) rfl (by kernel_rfl) (by kernel_rfl) (by kernel_rfl) (by kernel_rfl) (by kernel_rfl) (by kernel_rfl) (by kernel_rfl) (k_loadL (cells := e_u8 e11) 0 (by kernel_rfl) Try.underlying5 (by kernel_rfl) (by kernel_rfl)) ?_
            refine aTakeL (i := 18) (st' := []) (.d (.int .u8 (Int.tmod e11 40))) rfl (by kernel_rfl) (by kernel_rfl) (by kernel_rfl) (by kernel_rfl) (by kernel_rfl) (by kernel_rfl) (by kernel_rfl) (PureV.quiet (p_rem (k := .u8) (p := e11) (q := 40) (by kernel_rfl) (by kernel_rfl) (by decide) (by kernel_rfl)) []) ?_
            refine aTakeL (i := 19) (st' := []) (.d (.int .i64 (IntKind.wrap .i64 (Int.tmod e11 40)))) rfl (by kernel_rfl) (by kernel_rfl) (by kernel_rfl) (by kernel_rfl) (by kernel_rfl) (by kernel_rfl) (by kernel_rfl) (PureV.quiet (p_conv (k := .u8) (p := (Int.tmod e11 40)) (by kernel_rfl) Try.underlying5 Try.underlying3 (by kernel_rfl)) []) ?_
            refine aMany [7, 20] (by kernel_rfl) (by kernel_rfl) (by kernel_rfl) (by kernel_rfl) (.cons _ _ ?_ (.cons _ _ ?_ .nil))
            · refine sOne (i := 7) (v := .ref 2 (List.length ([(IntKind.wrap .i64 (Int.tmod e1 40))] : List Int)) 0 (List.length ([(IntKind.wrap .i64 (Int.tmod e1 40))] : List Int))) rfl (by kernel_rfl) (by kernel_rfl) (by kernel_rfl) (by kernel_rfl) (by kernel_rfl) (Does.acts (k_buildSlice (H' := [.sl 1 (List.map e_i64 xs32) false, .sl 1 (List.map e_i64 xs33) false, .sl 1 (List.map e_i64 ([(IntKind.wrap .i64 (Int.tmod e1 40))] : List Int)) false]) (List.map e_i64 ([(IntKind.wrap .i64 (Int.tmod e1 40))] : List Int)) Try.underlying22 ty3 (by kernel_rfl) (by kernel_rfl) (by kernel_rfl))) (by kernel_rfl) ?_
              refine dCap (fun h14 => ?_)
              refine aMany [8, 20] (by kernel_rfl) (by kernel_rfl) (by kernel_rfl) (by kernel_rfl) (.cons _ _ ?_ (.cons _ _ ?_ .nil))
              · refine sOne (i := 8) (v := .ref 0 (List.length (xs32 ++ ([(IntKind.wrap .i64 (Int.tmod e1 40))] : List Int))) 0 (List.length (xs32 ++ ([(IntKind.wrap .i64 (Int.tmod e1 40))] : List Int)))) rfl (by kernel_rfl) (by kernel_rfl) (by kernel_rfl) (by kernel_rfl) (by kernel_rfl) (Does.acts (k_append (H' := [.sl 1 (List.map e_i64 (xs32 ++ ([(IntKind.wrap .i64 (Int.tmod e1 40))] : List Int))) false, .sl 1 (List.map e_i64 xs33) false, .sl 1 (List.map e_i64 ([(IntKind.wrap .i64 (Int.tmod e1 40))] : List Int)) false]) (enc := e_i64) 0 xs32 ([(IntKind.wrap .i64 (Int.tmod e1 40))] : List Int) Try.underlying22 Try.underlying22 ty3 (by kernel_rfl) (by kernel_rfl) (by kernel_rfl) (holdsRef (enc := e_i64) 2 ([(IntKind.wrap .i64 (Int.tmod e1 40))] : List Int) false (by kernel_rfl) (by kernel_rfl)) h14 (by kernel_rfl))) (by kernel_rfl) ?_
                refine aOne (i := 20) (v := .ref 3 (List.length ([(IntKind.wrap .i64 (Int.tmod e11 40))] : List Int)) 0 (List.length ([(IntKind.wrap .i64 (Int.tmod e11 40))] : List Int))) rfl (by kernel_rfl) (by kernel_rfl) (by kernel_rfl) (by kernel_rfl) (by kernel_rfl) (by kernel_rfl) (by kernel_rfl) (Does.acts (k_buildSlice (H' := [.sl 1 (List.map e_i64 (xs32 ++ ([(IntKind.wrap .i64 (Int.tmod e1 40))] : List Int))) false, .sl 1 (List.map e_i64 xs33) false, .sl 1 (List.map e_i64 ([(IntKind.wrap .i64 (Int.tmod e1 40))] : List Int)) false, .sl 1 (List.map e_i64 ([(IntKind.wrap .i64 (Int.tmod e11 40))] : List Int)) false]) (List.map e_i64 ([(IntKind.wrap .i64 (Int.tmod e11 40))] : List Int)) Try.underlying22 ty3 (by kernel_rfl) (by kernel_rfl) (by kernel_rfl))) (by kernel_rfl) ?_
                refine dCap (fun h15 => ?_)
                refine aOne (i := 21) (v := .ref 1 (List.length (xs33 ++ ([(IntKind.wrap .i64 (Int.tmod e11 40))] : List Int))) 0 (List.length (xs33 ++ ([(IntKind.wrap .i64 (Int.tmod e11 40))] : List Int)))) rfl (by kernel_rfl) (by kernel_rfl) (by kernel_rfl) (by kernel_rfl) (by kernel_rfl) (by kernel_rfl) (by kernel_rfl) (Does.acts (k_append (H' := [.sl 1 (List.map e_i64 (xs32 ++ ([(IntKind.wrap .i64 (Int.tmod e1 40))] : List Int))) false, .sl 1 (List.map e_i64 (xs33 ++ ([(IntKind.wrap .i64 (Int.tmod e11 40))] : List Int))) false, .sl 1 (List.map e_i64 ([(IntKind.wrap .i64 (Int.tmod e1 40))] : List Int)) false, .sl 1 (List.map e_i64 ([(IntKind.wrap .i64 (Int.tmod e11 40))] : List Int)) false]) (enc := e_i64) 1 xs33 ([(IntKind.wrap .i64 (Int.tmod e11 40))] : List Int) Try.underlying22 Try.underlying22 ty3 (by kernel_rfl) (by kernel_rfl) (by kernel_rfl) (holdsRef (enc := e_i64) 3 ([(IntKind.wrap .i64 (Int.tmod e11 40))] : List Int) false (by kernel_rfl) (by kernel_rfl)) h15 (by kernel_rfl))) (by kernel_rfl) ?_
                refine aTakeP (i := 22) (.ref 0 (List.length (xs32 ++ ([(IntKind.wrap .i64 (Int.tmod e1 40))] : List Int))) 0 (List.length (xs32 ++ ([(IntKind.wrap .i64 (Int.tmod e1 40))] : List Int)))) rfl (by kernel_rfl) (by kernel_rfl) (by kernel_rfl) (by kernel_rfl) (by kernel_rfl) (by kernel_rfl) (by kernel_rfl) (p_assign (by kernel_rfl)) ?_
                refine aTakeP (i := 23) (.ref 1 (List.length (xs33 ++ ([(IntKind.wrap .i64 (Int.tmod e11 40))] : List Int))) 0 (List.length (xs33 ++ ([(IntKind.wrap .i64 (Int.tmod e11 40))] : List Int)))) rfl (by kernel_rfl) (by kernel_rfl) (by kernel_rfl) (by kernel_rfl) (by kernel_rfl) (by kernel_rfl) (by kernel_rfl) (p_assign (by kernel_rfl)) ?_
                refine aDone (by kernel_rfl) ?_
                refine oHead [0, 3, 4, 5, 6, 20, 21] [0, 1] (T' := [(0, .d (.lit (List.map e_u8 l))), (3, .ref 0 (List.length (xs32 ++ ([(IntKind.wrap .i64 (Int.tmod e1 40))] : List Int))) 0 (List.length (xs32 ++ ([(IntKind.wrap .i64 (Int.tmod e1 40))] : List Int)))), (4, .ref 1 (List.length (xs33 ++ ([(IntKind.wrap .i64 (Int.tmod e11 40))] : List Int))) 0 (List.length (xs33 ++ ([(IntKind.wrap .i64 (Int.tmod e11 40))] : List Int)))), (5, .d (.int .i64 sum6)), (6, .d (.int .i64 x20)), (20, .d (.int .i64 ((List.length l) : Int))), (21, .d (.int .i64 x20))]) (H' := [.sl 1 (List.map e_i64 (xs32 ++ ([(IntKind.wrap .i64 (Int.tmod e1 40))] : List Int))) false, .sl 1 (List.map e_i64 (xs33 ++ ([(IntKind.wrap .i64 (Int.tmod e11 40))] : List Int))) false]) (by kernel_rfl) (by kernel_rfl) (by kernel_rfl) (by kernel_rfl) (by decide) (by kernel_rfl) (by kernel_rfl) ?_
                exact hj23 ((xs32 ++ ([(IntKind.wrap .i64 (Int.tmod e1 40))] : List Int)), (xs33 ++ ([(IntKind.wrap .i64 (Int.tmod e11 40))] : List Int)))
              · refine sOne (i := 20) (v := .ref 3 (List.length ([(IntKind.wrap .i64 (Int.tmod e11 40))] : List Int)) 0 (List.length ([(IntKind.wrap .i64 (Int.tmod e11 40))] : List Int))) rfl (by kernel_rfl) (by kernel_rfl) (by kernel_rfl) (by kernel_rfl) (by kernel_rfl) (Does.acts (k_buildSlice (H' := [.sl 1 (List.map e_i64 xs32) false, .sl 1 (List.map e_i64 xs33) false, .sl 1 (List.map e_i64 ([(IntKind.wrap .i64 (Int.tmod e1 40))] : List Int)) false, .sl 1 (List.map e_i64 ([(IntKind.wrap .i64 (Int.tmod e11 40))] : List Int)) false]) (List.map e_i64 ([(IntKind.wrap .i64 (Int.tmod e11 40))] : List Int)) Try.underlying22 ty3 (by kernel_rfl) (by kernel_rfl) (by kernel_rfl))) (by kernel_rfl) ?_
                refine aOne (i := 8) (v := .ref 0 (List.length (xs32 ++ ([(IntKind.wrap .i64 (Int.tmod e1 40))] : List Int))) 0 (List.length (xs32 ++ ([(IntKind.wrap .i64 (Int.tmod e1 40))] : List Int)))) rfl (by kernel_rfl) (by kernel_rfl) (by kernel_rfl) (by kernel_rfl) (by kernel_rfl) (by kernel_rfl) (by kernel_rfl) (Does.acts (k_append (H' := [.sl 1 (List.map e_i64 (xs32 ++ ([(IntKind.wrap .i64 (Int.tmod e1 40))] : List Int))) false, .sl 1 (List.map e_i64 xs33) false, .sl 1 (List.map e_i64 ([(IntKind.wrap .i64 (Int.tmod e1 40))] : List Int)) false, .sl 1 (List.map e_i64 ([(IntKind.wrap .i64 (Int.tmod e11 40))] : List Int)) false]) (enc := e_i64) 0 xs32 ([(IntKind.wrap .i64 (Int.tmod e1 40))] : List Int) Try.underlying22 Try.underlying22 ty3 (by kernel_rfl) (by kernel_rfl) (by kernel_rfl) (holdsRef (enc := e_i64) 2 ([(IntKind.wrap .i64 (Int.tmod e1 40))] : List Int) false (by kernel_rfl) (by kernel_rfl)) h14 (by kernel_rfl))) (by kernel_rfl) ?_
                refine dCap (fun h15 => ?_)
                refine aOne (i := 21) (v := .ref 1 (List.length (xs33 ++ ([(IntKind.wrap .i64 (Int.tmod e11 40))] : List Int))) 0 (List.length (xs33 ++ ([(IntKind.wrap .i64 (Int.tmod e11 40))] : List Int)))) rfl (by kernel_rfl) (by kernel_rfl) (by kernel_rfl) (by kernel_rfl) (by kernel_rfl) (by kernel_rfl) (by kernel_rfl) (Does.acts (k_append (H' := [.sl 1 (List.map e_i64 (xs32 ++ ([(IntKind.wrap .i64 (Int.tmod e1 40))] : List Int))) false, .sl 1 (List.map e_i64 (xs33 ++ ([(IntKind.wrap .i64 (Int.tmod e11 40))] : List Int))) false, .sl 1 (List.map e_i64 ([(IntKind.wrap .i64 (Int.tmod e1 40))] : List Int)) false, .sl 1 (List.map e_i64 ([(IntKind.wrap .i64 (Int.tmod e11 40))] : List Int)) false]) (enc := e_i64) 1 xs33 ([(IntKind.wrap .i64 (Int.tmod e11 40))] : List Int) Try.underlying22 Try.underlying22 ty3 (by kernel_rfl) (by kernel_rfl) (by kernel_rfl) (holdsRef (enc := e_i64) 3 ([(IntKind.wrap .i64 (Int.tmod e11 40))] : List Int) false (by kernel_rfl) (by kernel_rfl)) h15 (by kernel_rfl))) (by kernel_rfl) ?_
                refine aTakeP (i := 22) (.ref 0 (List.length (xs32 ++ ([(IntKind.wrap .i64 (Int.tmod e1 40))] : List Int))) 0 (List.length (xs32 ++ ([(IntKind.wrap .i64 (Int.tmod e1 40))] : List Int)))) rfl (by kernel_rfl) (by kernel_rfl) (by kernel_rfl) (by kernel_rfl) (by kernel_rfl) (by kernel_rfl) (by kernel_rfl) (p_assign (by kernel_rfl)) ?_
                refine aTakeP (i := 23) (.ref 1 (List.length (xs33 ++ ([(IntKind.wrap .i64 (Int.tmod e11 40))] : List Int))) 0 (List.length (xs33 ++ ([(IntKind.wrap .i64 (Int.tmod e11 40))] : List Int)))) rfl (by kernel_rfl) (by kernel_rfl) (by kernel_rfl) (by kernel_rfl) (by kernel_rfl) (by kernel_rfl) (by kernel_rfl) (p_assign (by kernel_rfl)) ?_
                refine aDone (by kernel_rfl) ?_
                refine oHead [0, 3, 4, 5, 6, 20, 21] [0, 1] (T' := [(0, .d (.lit (List.map e_u8 l))), (3, .ref 0 (List.length (xs32 ++ ([(IntKind.wrap .i64 (Int.tmod e1 40))] : List Int))) 0 (List.length (xs32 ++ ([(IntKind.wrap .i64 (Int.tmod e1 40))] : List Int)))), (4, .ref 1 (List.length (xs33 ++ ([(IntKind.wrap .i64 (Int.tmod e11 40))] : List Int))) 0 (List.length (xs33 ++ ([(IntKind.wrap .i64 (Int.tmod e11 40))] : List Int)))), (5, .d (.int .i64 sum6)), (6, .d (.int .i64 x20)), (20, .d (.int .i64 ((List.length l) : Int))), (21, .d (.int .i64 x20))]) (H' := [.sl 1 (List.map e_i64 (xs32 ++ ([(IntKind.wrap .i64 (Int.tmod e1 40))] : List Int))) false, .sl 1 (List.map e_i64 (xs33 ++ ([(IntKind.wrap .i64 (Int.tmod e11 40))] : List Int))) false]) (by kernel_rfl) (by kernel_rfl) (by kernel_rfl) (by kernel_rfl) (by decide) (by kernel_rfl) (by kernel_rfl) ?_
                exact hj23 ((xs32 ++ ([(IntKind.wrap .i64 (Int.tmod e1 40))] : List Int)), (xs33 ++ ([(IntKind.wrap .i64 (Int.tmod e11 40))] : List Int)))
            · refine sOne (i := 20) (v := .ref 2 (List.length ([(IntKind.wrap .i64 (Int.tmod e11 40))] : List Int)) 0 (List.length ([(IntKind.wrap .i64 (Int.tmod e11 40))] : List Int))) rfl (by kernel_rfl) (by kernel_rfl) (by kernel_rfl) (by kernel_rfl) (by kernel_rfl) (Does.acts (k_buildSlice (H' := [.sl 1 (List.map e_i64 xs32) false, .sl 1 (List.map e_i64 xs33) false, .sl 1 (List.map e_i64 ([(IntKind.wrap .i64 (Int.tmod e11 40))] : List Int)) false]) (List.map e_i64 ([(IntKind.wrap .i64 (Int.tmod e11 40))] : List Int)) Try.underlying22 ty3 (by kernel_rfl) (by kernel_rfl) (by kernel_rfl))) (by kernel_rfl) ?_
              refine aOne (i := 7) (v := .ref 3 (List.length ([(IntKind.wrap .i64 (Int.tmod e1 40))] : List Int)) 0 (List.length ([(IntKind.wrap .i64 (Int.tmod e1 40))] : List Int))) rfl (by kernel_rfl) (by kernel_rfl) (by kernel_rfl) (by kernel_rfl) (by kernel_rfl) (by kernel_rfl) (by kernel_rfl) (Does.acts (k_buildSlice (H' := [.sl 1 (List.map e_i64 xs32) false, .sl 1 (List.map e_i64 xs33) false, .sl 1 (List.map e_i64 ([(IntKind.wrap .i64 (Int.tmod e11 40))] : List Int)) false, .sl 1 (List.map e_i64 ([(IntKind.wrap .i64 (Int.tmod e1 40))] : List Int)) false]) (List.map e_i64 ([(IntKind.wrap .i64 (Int.tmod e1 40))] : List Int)) Try.underlying22 ty3 (by kernel_rfl) (by kernel_rfl) (by kernel_rfl))) (by kernel_rfl) ?_
              refine dCap (fun h14 => ?_)
              refine aOne (i := 8) (v := .ref 0 (List.length (xs32 ++ ([(IntKind.wrap .i64 (Int.tmod e1 40))] : List Int))) 0 (List.length (xs32 ++ ([(IntKind.wrap .i64 (Int.tmod e1 40))] : List Int)))) rfl (by kernel_rfl) (by kernel_rfl) (by kernel_rfl) (by kernel_rfl) (by kernel_rfl) (by kernel_rfl) (by kernel_rfl) (Does.acts (k_append (H' := [.sl 1 (List.map e_i64 (xs32 ++ ([(IntKind.wrap .i64 (Int.tmod e1 40))] : List Int))) false, .sl 1 (List.map e_i64 xs33) false, .sl 1 (List.map e_i64 ([(IntKind.wrap .i64 (Int.tmod e11 40))] : List Int)) false, .sl 1 (List.map e_i64 ([(IntKind.wrap .i64 (Int.tmod e1 40))] : List Int)) false]) (enc := e_i64) 0 xs32 ([(IntKind.wrap .i64 (Int.tmod e1 40))] : List Int) Try.underlying22 Try.underlying22 ty3 (by kernel_rfl) (by kernel_rfl) (by kernel_rfl) (holdsRef (enc := e_i64) 3 ([(IntKind.wrap .i64 (Int.tmod e1 40))] : List Int) false (by kernel_rfl) (by kernel_rfl)) h14 (by kernel_rfl))) (by kernel_rfl) ?_
              refine dCap (fun h15 => ?_)
              refine aOne (i := 21) (v := .ref 1 (List.length (xs33 ++ ([(IntKind.wrap .i64 (Int.tmod e11 40))] : List Int))) 0 (List.length (xs33 ++ ([(IntKind.wrap .i64 (Int.tmod e11 40))] : List Int)))) rfl (by kernel_rfl) (by kernel_rfl) (by kernel_rfl) (by kernel_rfl) (by kernel_rfl) (by kernel_rfl) (by kernel_rfl) (Does.acts (k_append (H' := [.sl 1 (List.map e_i64 (xs32 ++ ([(IntKind.wrap .i64 (Int.tmod e1 40))] : List Int))) false, .sl 1 (List.map e_i64 (xs33 ++ ([(IntKind.wrap .i64 (Int.tmod e11 40))] : List Int))) false, .sl 1 (List.map e_i64 ([(IntKind.wrap .i64 (Int.tmod e11 40))] : List Int)) false, .sl 1 (List.map e_i64 ([(IntKind.wrap .i64 (Int.tmod e1 40))] : List Int)) false]) (enc := e_i64) 1 xs33 ([(IntKind.wrap .i64 (Int.tmod e11 40))] : List Int) Try.underlying22 Try.underlying22 ty3 (by kernel_rfl) (by kernel_rfl) (by kernel_rfl) (holdsRef (enc := e_i64) 2 ([(IntKind.wrap .i64 (Int.tmod e11 40))] : List Int) false (by kernel_rfl) (by kernel_rfl)) h15 (by kernel_rfl))) (by kernel_rfl) ?_
              refine aTakeP (i := 22) (.ref 0 (List.length (xs32 ++ ([(IntKind.wrap .i64 (Int.tmod e1 40))] : List Int))) 0 (List.length (xs32 ++ ([(IntKind.wrap .i64 (Int.tmod e1 40))] : List Int)))) rfl (by kernel_rfl) (by kernel_rfl) (by kernel_rfl) (by kernel_rfl) (by kernel_rfl) (by kernel_rfl) (by kernel_rfl) (p_assign (by kernel_rfl)) ?_
              refine aTakeP (i := 23) (.ref 1 (List.length (xs33 ++ ([(IntKind.wrap .i64 (Int.tmod e11 40))] : List Int))) 0 (List.length (xs33 ++ ([(IntKind.wrap .i64 (Int.tmod e11 40))] : List Int)))) rfl (by kernel_rfl) (by kernel_rfl) (by kernel_rfl) (by kernel_rfl) (by kernel_rfl) (by kernel_rfl) (by kernel_rfl) (p_assign (by kernel_rfl)) ?_
              refine aDone (by kernel_rfl) ?_
              refine oHead [0, 3, 4, 5, 6, 20, 21] [0, 1] (T' := [(0, .d (.lit (List.map e_u8 l))), (3, .ref 0 (List.length (xs32 ++ ([(IntKind.wrap .i64 (Int.tmod e1 40))] : List Int))) 0 (List.length (xs32 ++ ([(IntKind.wrap .i64 (Int.tmod e1 40))] : List Int)))), (4, .ref 1 (List.length (xs33 ++ ([(IntKind.wrap .i64 (Int.tmod e11 40))] : List Int))) 0 (List.length (xs33 ++ ([(IntKind.wrap .i64 (Int.tmod e11 40))] : List Int)))), (5, .d (.int .i64 sum6)), (6, .d (.int .i64 x20)), (20, .d (.int .i64 ((List.length l) : Int))), (21, .d (.int .i64 x20))]) (H' := [.sl 1 (List.map e_i64 (xs32 ++ ([(IntKind.wrap .i64 (Int.tmod e1 40))] : List Int))) false, .sl 1 (List.map e_i64 (xs33 ++ ([(IntKind.wrap .i64 (Int.tmod e11 40))] : List Int))) false]) (by kernel_rfl) (by kernel_rfl) (by kernel_rfl) (by kernel_rfl) (by decide) (by kernel_rfl) (by kernel_rfl) ?_
              exact hj23 ((xs32 ++ ([(IntKind.wrap .i64 (Int.tmod e1 40))] : List Int)), (xs33 ++ ([(IntKind.wrap .i64 (Int.tmod e11 40))] : List Int)))
        · refine oCondF (by kernel_rfl) ?_
          refine oExit rfl ?_
          refine oHead [0, 3, 4, 5] [0, 1] (T' := [(0, .d (.lit (List.map e_u8 l))), (3, .ref 0 (List.length xs32) 0 (List.length xs32)), (4, .ref 1 (List.length xs33) 0 (List.length xs33)), (5, .d (.int .i64 sum6))]) (H' := [.sl 1 (List.map e_i64 xs32) false, .sl 1 (List.map e_i64 xs33) false]) (by kernel_rfl) (by kernel_rfl) (by kernel_rfl) (by kernel_rfl) (by decide) (by kernel_rfl) (by kernel_rfl) ?_
          exact hj10 (sum6, xs32, xs33)

end Go.VM
