/- Plain functions that answer as the program's functions do, and the proof that they do. -/
import Derived.Test.YtmnpognjbfjhbaaProg
import Derived.KernelRfl
import Derived.Test.YtmnpognjbfjhbaaEngW
import Derived.Test.YtmnpognjbfjhbaaDFacts
import Derived.Test.YtmnpognjbfjhbaaDFuns0
import Derived.Test.YtmnpognjbfjhbaaDFuns1
namespace Go.VM
open Go.Proofs
set_option linter.unusedVariables false
set_option linter.unusedSimpArgs false
set_option maxRecDepth 100000
/-- awardingbody/ratio.Compare -/
def ratio_Compare (k : Nat) (a0 : Int) (a1 : Int) (b0 : Int) (b1 : Int) : Option (Int) := Option.bind (ratio_Valid k a0 a1) (fun r124 => Option.bind (bif (!r124) then some true else Option.bind (ratio_Valid k b0 b1) (fun r126 => some (!r126)) : Option (Bool)) (fun x6 => bif x6 then some 0 else Option.bind (ratio_times k a0 (IntKind.wrap .u64 b1)) (uc fun r122 => fun r13 => Option.bind (ratio_times k b0 (IntKind.wrap .u64 a1)) (uc fun r123 => fun r131 => blet ((decide (a0 < 0)) && (!(decide (b0 < 0)))) fun x9 => bif x9 then some (-1) else blet ((decide (b0 < 0)) && (!(decide (a0 < 0)))) fun x11 => bif x11 then some 1 else bif (decide (a0 < 0)) then Option.bind (ratio_wide_compare k (decide (b0 < 0)) r123 r131 (decide (a0 < 0)) r122 r13) (fun r113 => some r113) else Option.bind (ratio_wide_compare k (decide (a0 < 0)) r122 r13 (decide (b0 < 0)) r123 r131) (fun r114 => some r114)))))
def ratio_Compare_E (a0 : Int) (a1 : Int) (b0 : Int) (b1 : Int) : Int → V × List Blk := fun r18 => (.d (.int .i64 r18), [])
theorem ratio_Compare_goes (k : Nat) (a0 : Int) (a1 : Int) (b0 : Int) (b1 : Int) : RunsO Try.prog 64 [.agg [.d (.int .i64 a0), .d (.int .i64 a1)], .agg [.d (.int .i64 b0), .d (.int .i64 b1)]] [] (ratio_Compare_E a0 a1 b0 b1) (ratio_Compare k a0 a1 b0 b1) := by
  refine RunsO.of_goes (N := 52) (m := 0) (T := [(0, .agg [.d (.int .i64 a0), .d (.int .i64 a1)]), (1, .agg [.d (.int .i64 b0), .d (.int .i64 b1)])]) Try.func64 rfl rfl (by kernel_rfl) (by kernel_rfl) (by kernel_rfl) ?_
  unfold ratio_Compare
  refine bStart ?_
  refine oSeq ?_
  refine oRegion rfl ?_
  refine oOp (.ptr 0 0) (by kernel_rfl) (by kernel_rfl) (k_box (H' := [.box [.d (.int .i64 a0), .d (.int .i64 a1)]]) (cells := [.d (.int .i64 a0), .d (.int .i64 a1)]) (by kernel_rfl) (by kernel_rfl) (by kernel_rfl)) ?_
  refine oOp (.ptr 1 0) (by kernel_rfl) (by kernel_rfl) (k_box (H' := [.box [.d (.int .i64 a0), .d (.int .i64 a1)], .box [.d (.int .i64 b0), .d (.int .i64 b1)]]) (cells := [.d (.int .i64 b0), .d (.int .i64 b1)]) (by kernel_rfl) (by kernel_rfl) (by kernel_rfl)) ?_
  refine oOp (.d (.int .i64 0)) (by kernel_rfl) (by kernel_rfl) (PureV.does (p_assign (by kernel_rfl))) ?_
  refine oEnd ?_
  refine oSeq ?_
  refine oSeq ?_
  refine oRegion rfl ?_
  refine oOp (.agg [.d (.int .i64 a0), .d (.int .i64 a1)]) (by kernel_rfl) (by kernel_rfl) (Quiet.does (k_loadAgg 0 0 (by kernel_rfl) Try.underlying31 (by kernel_rfl) ty31 (by kernel_rfl))) ?_
  refine bCall (caps := []) (v := (fun (r124 : Bool) => (.d (.bool r124) : V))) (H' := (fun (r124 : Bool) => ([.box [.d (.int .i64 a0), .d (.int .i64 a1)], .box [.d (.int .i64 b0), .d (.int .i64 b1)]] : List Blk))) [] _ (ratio_Valid_goes k a0 a1) (by kernel_rfl) (by kernel_rfl) rfl (by kernel_rfl) Try.func43 rfl (by kernel_rfl) (ConvRs.refl _ _) (by kernel_rfl) (by kernel_rfl) (by kernel_rfl) (by decide) (by kernel_rfl) (by kernel_rfl) (fun _ => (by kernel_rfl)) (fun _ => (by kernel_rfl)) (fun _ => (by kernel_rfl)) (fun r124 => ?_)
  refine oOp (.d (.bool (!r124))) (by kernel_rfl) (by kernel_rfl) (PureV.does (p_not (p := r124) (by kernel_rfl) (by kernel_rfl))) ?_
  refine oOp (.d (.bool (!r124))) (by kernel_rfl) (by kernel_rfl) (PureV.does (p_move (by kernel_rfl))) ?_
  refine bMeet 4 rfl ((fun (x6 : Bool) => [(2, .ptr 0 0), (3, .ptr 1 0), (14, .d (.bool x6))])) ((fun (x6 : Bool) => [.box [.d (.int .i64 a0), .d (.int .i64 a1)], .box [.d (.int .i64 b0), .d (.int .i64 b1)]])) (fun s => s) (fun x6 => ?_) (fun hj3 => ?_)
  · refine oView (T' := [(2, .ptr 0 0), (3, .ptr 1 0), (14, .d (.bool x6))]) (H' := [.box [.d (.int .i64 a0), .d (.int .i64 a1)], .box [.d (.int .i64 b0), .d (.int .i64 b1)]]) (by kernel_rfl) (by kernel_rfl) ?_
    refine oEnd ?_
    refine bSplit 14 (by kernel_rfl) (fun hc => ?_) (fun hc => ?_)
    · refine oCondT (by kernel_rfl) ?_
      refine oSeq ?_
      refine oRegion rfl ?_
      refine oOp (.d (.int .i64 0)) (by kernel_rfl) (by kernel_rfl) (PureV.does (p_assign (by kernel_rfl))) ?_
      refine oEnd ?_
      exact oRet (r0 := 0) (rv := .d (.int .i64 0)) (B := []) (vs := [.d (.int .i64 0)]) (σ := []) (by kernel_rfl) Try.func64 rfl (.cons _ _ _ _ (.tmp 4 _ (by kernel_rfl)) .nil) (by kernel_rfl) (by kernel_rfl) (by kernel_rfl) (by kernel_rfl) (by decide) (by kernel_rfl) (by kernel_rfl)
    · refine oCondF (by kernel_rfl) ?_
      refine oSkip ?_
      refine oSeq ?_
      refine oDraw [(0, 16), (1, 16)] rfl ?_
      refine aTakeL (i := 0) (st' := []) (.ptr 0 0) rfl (by kernel_rfl) (by kernel_rfl) (by kernel_rfl) (by kernel_rfl) (by kernel_rfl) (by kernel_rfl) (by kernel_rfl) (PureV.quiet (k_fieldAddr 0 0 (by kernel_rfl) Try.underlying31 rfl ty3 (by kernel_rfl)) []) ?_
      refine aTakeL (i := 1) (st' := [0]) (.d (.int .i64 a0)) rfl (by kernel_rfl) (by kernel_rfl) (by kernel_rfl) (by kernel_rfl) (by kernel_rfl) (by kernel_rfl) (by kernel_rfl) (k_load 0 0 (by kernel_rfl) Try.underlying3 (by kernel_rfl) (by kernel_rfl)) ?_
      refine aTakeL (i := 2) (st' := []) (.ptr 1 1) rfl (by kernel_rfl) (by kernel_rfl) (by kernel_rfl) (by kernel_rfl) (by kernel_rfl) (by kernel_rfl) (by kernel_rfl) (PureV.quiet (k_fieldAddr 1 0 (by kernel_rfl) Try.underlying31 rfl ty3 (by kernel_rfl)) []) ?_
      refine aTakeL (i := 3) (st' := [1]) (.d (.int .i64 b1)) rfl (by kernel_rfl) (by kernel_rfl) (by kernel_rfl) (by kernel_rfl) (by kernel_rfl) (by kernel_rfl) (by kernel_rfl) (k_load 1 1 (by kernel_rfl) Try.underlying3 (by kernel_rfl) (by kernel_rfl)) ?_
      refine aTakeL (i := 4) (st' := []) (.d (.int .u64 (IntKind.wrap .u64 b1))) rfl (by kernel_rfl) (by kernel_rfl) (by kernel_rfl) (by kernel_rfl) (by kernel_rfl) (by kernel_rfl) (by kernel_rfl) (PureV.quiet (p_conv (k := .i64) (p := b1) (by kernel_rfl) Try.underlying3 Try.underlying61 (by kernel_rfl)) []) ?_
      refine aTakeL (i := 6) (st' := []) (.ptr 1 0) rfl (by kernel_rfl) (by kernel_rfl) (by kernel_rfl) (by kernel_rfl) (by kernel_rfl) (by kernel_rfl) (by kernel_rfl) (PureV.quiet (k_fieldAddr 1 0 (by kernel_rfl) Try.underlying31 rfl ty3 (by kernel_rfl)) []) ?_
      refine aTakeL (i := 7) (st' := [1]) (.d (.int .i64 b0)) rfl (by kernel_rfl) (by kernel_rfl) (by kernel_rfl) (by kernel_rfl) (by kernel_rfl) (by kernel_rfl) (by kernel_rfl) (k_load 1 0 (by kernel_rfl) Try.underlying3 (by kernel_rfl) (by kernel_rfl)) ?_
      refine aTakeL (i := 8) (st' := []) (.ptr 0 1) rfl (by kernel_rfl) (by kernel_rfl) (by kernel_rfl) (by kernel_rfl) (by kernel_rfl) (by kernel_rfl) (by kernel_rfl) (PureV.quiet (k_fieldAddr 0 0 (by kernel_rfl) Try.underlying31 rfl ty3 (by kernel_rfl)) []) ?_
      refine aTakeL (i := 9) (st' := [0]) (.d (.int .i64 a1)) rfl (by kernel_rfl) (by kernel_rfl) (by kernel_rfl) (by kernel_rfl) (by kernel_rfl) (by kernel_rfl) (by kernel_rfl) (k_load 0 1 (by kernel_rfl) Try.underlying3 (by kernel_rfl) (by kernel_rfl)) ?_
      refine aTakeL (i := 10) (st' := []) (.d (.int .u64 (IntKind.wrap .u64 a1))) rfl (by kernel_rfl) (by kernel_rfl) (by kernel_rfl) (by kernel_rfl) (by kernel_rfl) (by kernel_rfl) (by kernel_rfl) (PureV.quiet (p_conv (k := .i64) (p := a1) (by kernel_rfl) Try.underlying3 Try.underlying61 (by kernel_rfl)) []) ?_
      refine dCall (i := 5) (caps := []) (v := (uc fun (r122 : Int) => (fun (r13 : Int) => (.agg [.d (.bool (decide (a0 < 0))), .d (.int .u64 r122), .d (.int .u64 r13)] : V)))) (H' := (uc fun (r122 : Int) => (fun (r13 : Int) => ([.box [.d (.int .i64 a0), .d (.int .i64 a1)], .box [.d (.int .i64 b0), .d (.int .i64 b1)]] : List Blk)))) [] _ (ratio_times_goes k a0 (IntKind.wrap .u64 b1)) rfl (by kernel_rfl) (by kernel_rfl) (by kernel_rfl) (by kernel_rfl) (by kernel_rfl) (by kernel_rfl) (by kernel_rfl) (by kernel_rfl) rfl (by kernel_rfl) Try.func74 rfl (by kernel_rfl) (ConvRs.refl _ _) (by kernel_rfl) (by kernel_rfl) (by kernel_rfl) (by decide) (by kernel_rfl) (by kernel_rfl) (fun _ => (by kernel_rfl)) (fun _ => (by kernel_rfl)) (fun _ => (by kernel_rfl)) (fun r => ?_)
      obtain ⟨r122, r13⟩ := r
      refine dUc ?_
      refine dCall (i := 11) (caps := []) (v := (uc fun (r123 : Int) => (fun (r131 : Int) => (.agg [.d (.bool (decide (b0 < 0))), .d (.int .u64 r123), .d (.int .u64 r131)] : V)))) (H' := (uc fun (r123 : Int) => (fun (r131 : Int) => ([.box [.d (.int .i64 a0), .d (.int .i64 a1)], .box [.d (.int .i64 b0), .d (.int .i64 b1)]] : List Blk)))) [] _ (ratio_times_goes k b0 (IntKind.wrap .u64 a1)) rfl (by kernel_rfl) (by kernel_rfl) (by kernel_rfl) (by kernel_rfl) (by kernel_rfl) (by kernel_rfl) (by kernel_rfl) (by kernel_rfl) rfl (by kernel_rfl) Try.func74 rfl (by kernel_rfl) (ConvRs.refl _ _) (by kernel_rfl) (by kernel_rfl) (by kernel_rfl) (by decide) (by kernel_rfl) (by kernel_rfl) (fun _ => (by kernel_rfl)) (fun _ => (by kernel_rfl)) (fun _ => (by kernel_rfl)) (fun r => ?_)
      obtain ⟨r123, r131⟩ := r
      refine dUc ?_
      refine aAlloc (i := 12) (d := 5) rfl (by kernel_rfl) (by kernel_rfl) rfl rfl (by kernel_rfl) (by kernel_rfl) ty80 (cells := [.d (.bool false), .d (.int .u64 0), .d (.int .u64 0)]) (by kernel_rfl) (by kernel_rfl) ?_
      refine dView (H' := [.box [.d (.int .i64 a0), .d (.int .i64 a1)], .box [.d (.int .i64 b0), .d (.int .i64 b1)], .box [.d (.bool false), .d (.int .u64 0), .d (.int .u64 0)]]) rfl rfl (by kernel_rfl) ?_
      refine aAlloc (i := 13) (d := 6) rfl (by kernel_rfl) (by kernel_rfl) rfl rfl (by kernel_rfl) (by kernel_rfl) ty80 (cells := [.d (.bool false), .d (.int .u64 0), .d (.int .u64 0)]) (by kernel_rfl) (by kernel_rfl) ?_
      refine dView (H' := [.box [.d (.int .i64 a0), .d (.int .i64 a1)], .box [.d (.int .i64 b0), .d (.int .i64 b1)], .box [.d (.bool false), .d (.int .u64 0), .d (.int .u64 0)], .box [.d (.bool false), .d (.int .u64 0), .d (.int .u64 0)]]) rfl rfl (by kernel_rfl) ?_
      refine aOne (i := 14) (v := .undef) rfl (by kernel_rfl) (by kernel_rfl) (by kernel_rfl) (by kernel_rfl) (by kernel_rfl) (by kernel_rfl) (by kernel_rfl) (Does.acts (k_store (vs := [.d (.bool (decide (a0 < 0))), .d (.int .u64 r122), .d (.int .u64 r13)]) (H' := [.box [.d (.int .i64 a0), .d (.int .i64 a1)], .box [.d (.int .i64 b0), .d (.int .i64 b1)], .box [.d (.bool (decide (a0 < 0))), .d (.int .u64 r122), .d (.int .u64 r13)], .box [.d (.bool false), .d (.int .u64 0), .d (.int .u64 0)]]) 2 0 (by kernel_rfl) ty80 (by kernel_rfl) (by kernel_rfl) (by kernel_rfl))) (by kernel_rfl) ?_
      refine aOne (i := 15) (v := .undef) rfl (by kernel_rfl) (by kernel_rfl) (by kernel_rfl) (by kernel_rfl) (by kernel_rfl) (by kernel_rfl) (by kernel_rfl) (Does.acts (k_store (vs := [.d (.bool (decide (b0 < 0))), .d (.int .u64 r123), .d (.int .u64 r131)]) (H' := [.box [.d (.int .i64 a0), .d (.int .i64 a1)], .box [.d (.int .i64 b0), .d (.int .i64 b1)], .box [.d (.bool (decide (a0 < 0))), .d (.int .u64 r122), .d (.int .u64 r13)], .box [.d (.bool (decide (b0 < 0))), .d (.int .u64 r123), .d (.int .u64 r131)]]) 3 0 (by kernel_rfl) ty80 (by kernel_rfl) (by kernel_rfl) (by kernel_rfl))) (by kernel_rfl) ?_
      refine aDone (by kernel_rfl) ?_
      refine oSeq ?_
      refine oBlock ?_
      refine oSeq ?_
      refine oRegion rfl ?_
      refine oOp (.ptr 2 0) (by kernel_rfl) (by kernel_rfl) (PureV.does (k_fieldAddr 2 0 (by kernel_rfl) Try.underlying80 rfl ty4 (by kernel_rfl))) ?_
      refine oOp (.d (.bool (decide (a0 < 0)))) (by kernel_rfl) (by kernel_rfl) (Quiet.does (k_load 2 0 (by kernel_rfl) Try.underlying4 (by kernel_rfl) (by kernel_rfl))) ?_
      refine oOp (.d (.bool (decide (a0 < 0)))) (by kernel_rfl) (by kernel_rfl) (PureV.does (p_move (by kernel_rfl))) ?_
      refine bMeetF (H' := [.box [.d (.bool (decide (a0 < 0))), .d (.int .u64 r122), .d (.int .u64 r13)], .box [.d (.bool (decide (b0 < 0))), .d (.int .u64 r123), .d (.int .u64 r131)]]) 4 rfl ((fun (x9 : Bool) => [(5, .ptr 0 0), (6, .ptr 1 0), (34, .d (.bool x9))])) (fun x9 => ?_) (fun F hj1 => ?_)
      · refine oView (T' := [(5, .ptr 0 0), (6, .ptr 1 0), (34, .d (.bool x9))]) (H' := [.box [.d (.bool (decide (a0 < 0))), .d (.int .u64 r122), .d (.int .u64 r13)], .box [.d (.bool (decide (b0 < 0))), .d (.int .u64 r123), .d (.int .u64 r131)]]) (by kernel_rfl) (by kernel_rfl) ?_
        refine oOp (.d (.bool x9)) (by kernel_rfl) (by kernel_rfl) (PureV.does (p_assign (by kernel_rfl))) ?_
        refine oEnd ?_
        refine bSplit 27 (by kernel_rfl) (fun hc => ?_) (fun hc => ?_)
        · refine oCondT (by kernel_rfl) ?_
          refine oSeq ?_
          refine oRegion rfl ?_
          refine oOp (.d (.int .i64 (-1))) (by kernel_rfl) (by kernel_rfl) (PureV.does (p_assign (by kernel_rfl))) ?_
          refine oEnd ?_
          exact oRet (r0 := (-1)) (rv := .d (.int .i64 (-1))) (B := []) (vs := [.d (.int .i64 (-1))]) (σ := []) (by kernel_rfl) Try.func64 rfl (.cons _ _ _ _ (.tmp 4 _ (by kernel_rfl)) .nil) (by kernel_rfl) (by kernel_rfl) (by kernel_rfl) (by kernel_rfl) (by decide) (by kernel_rfl) (by kernel_rfl)
        · refine oCondF (by kernel_rfl) ?_
          refine oSeq ?_
          refine oRegion rfl ?_
          refine oOp (.ptr 1 0) (by kernel_rfl) (by kernel_rfl) (PureV.does (k_fieldAddr 1 0 (by kernel_rfl) Try.underlying80 rfl ty4 (by kernel_rfl))) ?_
          refine oOp (.d (.bool (decide (b0 < 0)))) (by kernel_rfl) (by kernel_rfl) (Quiet.does (k_load 1 0 (by kernel_rfl) Try.underlying4 (by kernel_rfl) (by kernel_rfl))) ?_
          refine oOp (.d (.bool (decide (b0 < 0)))) (by kernel_rfl) (by kernel_rfl) (PureV.does (p_move (by kernel_rfl))) ?_
          refine bMeetF (H' := [.box [.d (.bool (decide (a0 < 0))), .d (.int .u64 r122), .d (.int .u64 r13)], .box [.d (.bool (decide (b0 < 0))), .d (.int .u64 r123), .d (.int .u64 r131)]]) 4 rfl ((fun (x11 : Bool) => [(5, .ptr 0 0), (6, .ptr 1 0), (42, .d (.bool x11))])) (fun x11 => ?_) (fun F hj2 => ?_)
          · refine oView (T' := [(5, .ptr 0 0), (6, .ptr 1 0), (42, .d (.bool x11))]) (H' := [.box [.d (.bool (decide (a0 < 0))), .d (.int .u64 r122), .d (.int .u64 r13)], .box [.d (.bool (decide (b0 < 0))), .d (.int .u64 r123), .d (.int .u64 r131)]]) (by kernel_rfl) (by kernel_rfl) ?_
            refine oOp (.d (.bool x11)) (by kernel_rfl) (by kernel_rfl) (PureV.does (p_assign (by kernel_rfl))) ?_
            refine oEnd ?_
            refine bSplit 35 (by kernel_rfl) (fun hc => ?_) (fun hc => ?_)
            · refine oCondT (by kernel_rfl) ?_
              refine oSeq ?_
              refine oRegion rfl ?_
              refine oOp (.d (.int .i64 1)) (by kernel_rfl) (by kernel_rfl) (PureV.does (p_assign (by kernel_rfl))) ?_
              refine oEnd ?_
              exact oRet (r0 := 1) (rv := .d (.int .i64 1)) (B := []) (vs := [.d (.int .i64 1)]) (σ := []) (by kernel_rfl) Try.func64 rfl (.cons _ _ _ _ (.tmp 4 _ (by kernel_rfl)) .nil) (by kernel_rfl) (by kernel_rfl) (by kernel_rfl) (by kernel_rfl) (by decide) (by kernel_rfl) (by kernel_rfl)
            · refine oCondF (by kernel_rfl) ?_
              refine oSeq ?_
              refine oRegion rfl ?_
              refine oOp (.ptr 0 0) (by kernel_rfl) (by kernel_rfl) (PureV.does (k_fieldAddr 0 0 (by kernel_rfl) Try.underlying80 rfl ty4 (by kernel_rfl))) ?_
              refine oOp (.d (.bool (decide (a0 < 0)))) (by kernel_rfl) (by kernel_rfl) (Quiet.does (k_load 0 0 (by kernel_rfl) Try.underlying4 (by kernel_rfl) (by kernel_rfl))) ?_
              refine oOp (.d (.bool (decide (a0 < 0)))) (by kernel_rfl) (by kernel_rfl) (PureV.does (p_assign (by kernel_rfl))) ?_
              refine oEnd ?_
              refine bSplit 43 (by kernel_rfl) (fun hc => ?_) (fun hc => ?_)
              · refine oCondT (by kernel_rfl) ?_
                refine oSeq ?_
                refine oRegion rfl ?_
                refine oOp (.agg [.d (.bool (decide (b0 < 0))), .d (.int .u64 r123), .d (.int .u64 r131)]) (by kernel_rfl) (by kernel_rfl) (Quiet.does (k_loadAgg 1 0 (by kernel_rfl) Try.underlying80 (by kernel_rfl) ty80 (by kernel_rfl))) ?_
                refine oOp (.agg [.d (.bool (decide (a0 < 0))), .d (.int .u64 r122), .d (.int .u64 r13)]) (by kernel_rfl) (by kernel_rfl) (Quiet.does (k_loadAgg 0 0 (by kernel_rfl) Try.underlying80 (by kernel_rfl) ty80 (by kernel_rfl))) ?_
                refine bCall (caps := []) (v := (fun (r113 : Int) => (.d (.int .i64 r113) : V))) (H' := (fun (r113 : Int) => ([.box [.d (.bool (decide (a0 < 0))), .d (.int .u64 r122), .d (.int .u64 r13)], .box [.d (.bool (decide (b0 < 0))), .d (.int .u64 r123), .d (.int .u64 r131)]] : List Blk))) [] _ (ratio_wide_compare_goes k (decide (b0 < 0)) r123 r131 (decide (a0 < 0)) r122 r13) (by kernel_rfl) (by kernel_rfl) rfl (by kernel_rfl) Try.func75 rfl (by kernel_rfl) (ConvRs.refl _ _) (by kernel_rfl) (by kernel_rfl) (by kernel_rfl) (by decide) (by kernel_rfl) (by kernel_rfl) (fun _ => (by kernel_rfl)) (fun _ => (by kernel_rfl)) (fun _ => (by kernel_rfl)) (fun r113 => ?_)
                refine oOp (.d (.int .i64 r113)) (by kernel_rfl) (by kernel_rfl) (PureV.does (p_assign (by kernel_rfl))) ?_
                refine oEnd ?_
                exact oRet (r0 := r113) (rv := .d (.int .i64 r113)) (B := []) (vs := [.d (.int .i64 r113)]) (σ := []) (by kernel_rfl) Try.func64 rfl (.cons _ _ _ _ (.tmp 4 _ (by kernel_rfl)) .nil) (by kernel_rfl) (by kernel_rfl) (by kernel_rfl) (by kernel_rfl) (by decide) (by kernel_rfl) (by kernel_rfl)
              · refine oCondF (by kernel_rfl) ?_
                refine oSkip ?_
                refine oBlk ?_
                refine oSeq ?_
                refine oRegion rfl ?_
                refine oOp (.agg [.d (.bool (decide (a0 < 0))), .d (.int .u64 r122), .d (.int .u64 r13)]) (by kernel_rfl) (by kernel_rfl) (Quiet.does (k_loadAgg 0 0 (by kernel_rfl) Try.underlying80 (by kernel_rfl) ty80 (by kernel_rfl))) ?_
                refine oOp (.agg [.d (.bool (decide (b0 < 0))), .d (.int .u64 r123), .d (.int .u64 r131)]) (by kernel_rfl) (by kernel_rfl) (Quiet.does (k_loadAgg 1 0 (by kernel_rfl) Try.underlying80 (by kernel_rfl) ty80 (by kernel_rfl))) ?_
                refine bCall (caps := []) (v := (fun (r114 : Int) => (.d (.int .i64 r114) : V))) (H' := (fun (r114 : Int) => ([.box [.d (.bool (decide (a0 < 0))), .d (.int .u64 r122), .d (.int .u64 r13)], .box [.d (.bool (decide (b0 < 0))), .d (.int .u64 r123), .d (.int .u64 r131)]] : List Blk))) [] _ (ratio_wide_compare_goes k (decide (a0 < 0)) r122 r13 (decide (b0 < 0)) r123 r131) (by kernel_rfl) (by kernel_rfl) rfl (by kernel_rfl) Try.func75 rfl (by kernel_rfl) (ConvRs.refl _ _) (by kernel_rfl) (by kernel_rfl) (by kernel_rfl) (by decide) (by kernel_rfl) (by kernel_rfl) (fun _ => (by kernel_rfl)) (fun _ => (by kernel_rfl)) (fun _ => (by kernel_rfl)) (fun r114 => ?_)
                refine oOp (.d (.int .i64 r114)) (by kernel_rfl) (by kernel_rfl) (PureV.does (p_assign (by kernel_rfl))) ?_
                refine oEnd ?_
                exact oRet (r0 := r114) (rv := .d (.int .i64 r114)) (B := []) (vs := [.d (.int .i64 r114)]) (σ := []) (by kernel_rfl) Try.func64 rfl (.cons _ _ _ _ (.tmp 4 _ (by kernel_rfl)) .nil) (by kernel_rfl) (by kernel_rfl) (by kernel_rfl) (by kernel_rfl) (by decide) (by kernel_rfl) (by kernel_rfl)
          · refine bPickF 38 (fun c => F (c && (!(decide (a0 < 0))))) (by kernel_rfl) (fun hc => ?_) (fun hc => ?_)
            · refine oOp (.ptr 0 0) (by kernel_rfl) (by kernel_rfl) (PureV.does (k_fieldAddr 0 0 (by kernel_rfl) Try.underlying80 rfl ty4 (by kernel_rfl))) ?_
              refine oOp (.d (.bool (decide (a0 < 0)))) (by kernel_rfl) (by kernel_rfl) (Quiet.does (k_load 0 0 (by kernel_rfl) Try.underlying4 (by kernel_rfl) (by kernel_rfl))) ?_
              refine oOp (.d (.bool (!(decide (a0 < 0))))) (by kernel_rfl) (by kernel_rfl) (PureV.does (p_not (p := (decide (a0 < 0))) (by kernel_rfl) (by kernel_rfl))) ?_
              refine oOp (.d (.bool (!(decide (a0 < 0))))) (by kernel_rfl) (by kernel_rfl) (PureV.does (p_pick (b := true) (by kernel_rfl) (by kernel_rfl))) ?_
              refine oHead [5, 6, 42] [0, 1] (T' := [(5, .ptr 0 0), (6, .ptr 1 0), (42, .d (.bool (!(decide (a0 < 0)))))]) (H' := [.box [.d (.bool (decide (a0 < 0))), .d (.int .u64 r122), .d (.int .u64 r13)], .box [.d (.bool (decide (b0 < 0))), .d (.int .u64 r123), .d (.int .u64 r131)]]) (by kernel_rfl) (by kernel_rfl) (by kernel_rfl) (by kernel_rfl) (by decide) (by kernel_rfl) (by kernel_rfl) ?_
              exact hj2 (!(decide (a0 < 0)))
            · refine oNot (by kernel_rfl) (by kernel_rfl) ?_
              refine oNot (by kernel_rfl) (by kernel_rfl) ?_
              refine oNot (by kernel_rfl) (by kernel_rfl) ?_
              refine oOp (.d (.bool false)) (by kernel_rfl) (by kernel_rfl) (PureV.does (p_pick (b := false) (by kernel_rfl) (by kernel_rfl))) ?_
              refine oHead [5, 6, 42] [0, 1] (T' := [(5, .ptr 0 0), (6, .ptr 1 0), (42, .d (.bool false))]) (H' := [.box [.d (.bool (decide (a0 < 0))), .d (.int .u64 r122), .d (.int .u64 r13)], .box [.d (.bool (decide (b0 < 0))), .d (.int .u64 r123), .d (.int .u64 r131)]]) (by kernel_rfl) (by kernel_rfl) (by kernel_rfl) (by kernel_rfl) (by decide) (by kernel_rfl) (by kernel_rfl) ?_
              exact hj2 false
      · refine bPickF 30 (fun c => F (c && (!(decide (b0 < 0))))) (by kernel_rfl) (fun hc => ?_) (fun hc => ?_)
        · refine oOp (.ptr 3 0) (by kernel_rfl) (by kernel_rfl) (PureV.does (k_fieldAddr 3 0 (by kernel_rfl) Try.underlying80 rfl ty4 (by kernel_rfl))) ?_
          refine oOp (.d (.bool (decide (b0 < 0)))) (by kernel_rfl) (by kernel_rfl) (Quiet.does (k_load 3 0 (by kernel_rfl) Try.underlying4 (by kernel_rfl) (by kernel_rfl))) ?_
          refine oOp (.d (.bool (!(decide (b0 < 0))))) (by kernel_rfl) (by kernel_rfl) (PureV.does (p_not (p := (decide (b0 < 0))) (by kernel_rfl) (by kernel_rfl))) ?_
          refine oOp (.d (.bool (!(decide (b0 < 0))))) (by kernel_rfl) (by kernel_rfl) (PureV.does (p_pick (b := true) (by kernel_rfl) (by kernel_rfl))) ?_
          refine oHead [5, 6, 34] [2, 3] (T' := [(5, .ptr 0 0), (6, .ptr 1 0), (34, .d (.bool (!(decide (b0 < 0)))))]) (H' := [.box [.d (.bool (decide (a0 < 0))), .d (.int .u64 r122), .d (.int .u64 r13)], .box [.d (.bool (decide (b0 < 0))), .d (.int .u64 r123), .d (.int .u64 r131)]]) (by kernel_rfl) (by kernel_rfl) (by kernel_rfl) (by kernel_rfl) (by decide) (by kernel_rfl) (by kernel_rfl) ?_
          exact hj1 (!(decide (b0 < 0)))
        · refine oNot (by kernel_rfl) (by kernel_rfl) ?_
          refine oNot (by kernel_rfl) (by kernel_rfl) ?_
          refine oNot (by kernel_rfl) (by kernel_rfl) ?_
          refine oOp (.d (.bool false)) (by kernel_rfl) (by kernel_rfl) (PureV.does (p_pick (b := false) (by kernel_rfl) (by kernel_rfl))) ?_
          refine oHead [5, 6, 34] [2, 3] (T' := [(5, .ptr 0 0), (6, .ptr 1 0), (34, .d (.bool false))]) (H' := [.box [.d (.bool (decide (a0 < 0))), .d (.int .u64 r122), .d (.int .u64 r13)], .box [.d (.bool (decide (b0 < 0))), .d (.int .u64 r123), .d (.int .u64 r131)]]) (by kernel_rfl) (by kernel_rfl) (by kernel_rfl) (by kernel_rfl) (by decide) (by kernel_rfl) (by kernel_rfl) ?_
          exact hj1 false
  · refine bSplit 10 (by kernel_rfl) (fun hc => ?_) (fun hc => ?_)
    · refine oNot (by kernel_rfl) (by kernel_rfl) ?_
      refine oNot (by kernel_rfl) (by kernel_rfl) ?_
      refine oNot (by kernel_rfl) (by kernel_rfl) ?_
      refine oOp (.d (.bool true)) (by kernel_rfl) (by kernel_rfl) (PureV.does (p_pick (b := true) (by kernel_rfl) (by kernel_rfl))) ?_
      refine oHead [2, 3, 14] [0, 1] (T' := [(2, .ptr 0 0), (3, .ptr 1 0), (14, .d (.bool true))]) (H' := [.box [.d (.int .i64 a0), .d (.int .i64 a1)], .box [.d (.int .i64 b0), .d (.int .i64 b1)]]) (by kernel_rfl) (by kernel_rfl) (by kernel_rfl) (by kernel_rfl) (by decide) (by kernel_rfl) (by kernel_rfl) ?_
      exact hj3 true
    · refine oOp (.agg [.d (.int .i64 b0), .d (.int .i64 b1)]) (by kernel_rfl) (by kernel_rfl) (Quiet.does (k_loadAgg 1 0 (by kernel_rfl) Try.underlying31 (by kernel_rfl) ty31 (by kernel_rfl))) ?_
      refine bCall (caps := []) (v := (fun (r126 : Bool) => (.d (.bool r126) : V))) (H' := (fun (r126 : Bool) => ([.box [.d (.int .i64 a0), .d (.int .i64 a1)], .box [.d (.int .i64 b0), .d (.int .i64 b1)]] : List Blk))) [] _ (ratio_Valid_goes k b0 b1) (by kernel_rfl) (by kernel_rfl) rfl (by kernel_rfl) Try.func43 rfl (by kernel_rfl) (ConvRs.refl _ _) (by kernel_rfl) (by kernel_rfl) (by kernel_rfl) (by decide) (by kernel_rfl) (by kernel_rfl) (fun _ => (by kernel_rfl)) (fun _ => (by kernel_rfl)) (fun _ => (by kernel_rfl)) (fun r126 => ?_)
      refine oOp (.d (.bool (!r126))) (by kernel_rfl) (by kernel_rfl) (PureV.does (p_not (p := r126) (by kernel_rfl) (by kernel_rfl))) ?_
      refine oOp (.d (.bool (!r126))) (by kernel_rfl) (by kernel_rfl) (PureV.does (p_pick (b := false) (by kernel_rfl) (by kernel_rfl))) ?_
      refine oHead [2, 3, 14] [0, 1] (T' := [(2, .ptr 0 0), (3, .ptr 1 0), (14, .d (.bool (!r126)))]) (H' := [.box [.d (.int .i64 a0), .d (.int .i64 a1)], .box [.d (.int .i64 b0), .d (.int .i64 b1)]]) (by kernel_rfl) (by kernel_rfl) (by kernel_rfl) (by kernel_rfl) (by decide) (by kernel_rfl) (by kernel_rfl) ?_
      exact hj3 (!r126)

/-- awardingbody/ratio.Less -/
def ratio_Less (k : Nat) (a0 : Int) (a1 : Int) (b0 : Int) (b1 : Int) : Option (Bool) := Option.bind (ratio_Compare k a0 a1 b0 b1) (fun r181 => some (r181 == (-1)))
def ratio_Less_E (a0 : Int) (a1 : Int) (b0 : Int) (b1 : Int) : Bool → V × List Blk := fun r1 => (.d (.bool r1), [])
theorem ratio_Less_goes (k : Nat) (a0 : Int) (a1 : Int) (b0 : Int) (b1 : Int) : RunsO Try.prog 46 [.agg [.d (.int .i64 a0), .d (.int .i64 a1)], .agg [.d (.int .i64 b0), .d (.int .i64 b1)]] [] (ratio_Less_E a0 a1 b0 b1) (ratio_Less k a0 a1 b0 b1) := by
  refine RunsO.of_goes (N := 9) (m := 0) (T := [(0, .agg [.d (.int .i64 a0), .d (.int .i64 a1)]), (1, .agg [.d (.int .i64 b0), .d (.int .i64 b1)])]) Try.func46 rfl rfl (by kernel_rfl) (by kernel_rfl) (by kernel_rfl) ?_
  unfold ratio_Less
  refine bStart ?_
  refine oSeq ?_
  refine oRegion rfl ?_
  refine oOp (.ptr 0 0) (by kernel_rfl) (by kernel_rfl) (k_box (H' := [.box [.d (.int .i64 a0), .d (.int .i64 a1)]]) (cells := [.d (.int .i64 a0), .d (.int .i64 a1)]) (by kernel_rfl) (by kernel_rfl) (by kernel_rfl)) ?_
  refine oOp (.ptr 1 0) (by kernel_rfl) (by kernel_rfl) (k_box (H' := [.box [.d (.int .i64 a0), .d (.int .i64 a1)], .box [.d (.int .i64 b0), .d (.int .i64 b1)]]) (cells := [.d (.int .i64 b0), .d (.int .i64 b1)]) (by kernel_rfl) (by kernel_rfl) (by kernel_rfl)) ?_
  refine oOp (.d (.bool false)) (by kernel_rfl) (by kernel_rfl) (PureV.does (p_assign (by kernel_rfl))) ?_
  refine oEnd ?_
  refine oSeq ?_
  refine oRegion rfl ?_
  refine oOp (.agg [.d (.int .i64 a0), .d (.int .i64 a1)]) (by kernel_rfl) (by kernel_rfl) (Quiet.does (k_loadAgg 0 0 (by kernel_rfl) Try.underlying31 (by kernel_rfl) ty31 (by kernel_rfl))) ?_
  refine oOp (.agg [.d (.int .i64 b0), .d (.int .i64 b1)]) (by kernel_rfl) (by kernel_rfl) (Quiet.does (k_loadAgg 1 0 (by kernel_rfl) Try.underlying31 (by kernel_rfl) ty31 (by kernel_rfl))) ?_
  refine bCall (caps := []) (v := (fun (r181 : Int) => (.d (.int .i64 r181) : V))) (H' := (fun (r181 : Int) => ([.box [.d (.int .i64 a0), .d (.int .i64 a1)], .box [.d (.int .i64 b0), .d (.int .i64 b1)]] : List Blk))) [] _ (ratio_Compare_goes k a0 a1 b0 b1) (by kernel_rfl) (by kernel_rfl) rfl (by kernel_rfl) Try.func64 rfl (by kernel_rfl) (ConvRs.refl _ _) (by kernel_rfl) (by kernel_rfl) (by kernel_rfl) (by decide) (by kernel_rfl) (by kernel_rfl) (fun _ => (by kernel_rfl)) (fun _ => (by kernel_rfl)) (fun _ => (by kernel_rfl)) (fun r181 => ?_)
  refine oOp (.d (.bool (r181 == (-1)))) (by kernel_rfl) (by kernel_rfl) (PureV.does (p_int (k := .i64) (p := r181) (q := (-1)) (by kernel_rfl) (by kernel_rfl) (by kernel_rfl))) ?_
  refine oOp (.d (.bool (r181 == (-1)))) (by kernel_rfl) (by kernel_rfl) (PureV.does (p_assign (by kernel_rfl))) ?_
  refine oEnd ?_
  exact oRet (r0 := (r181 == (-1))) (rv := .d (.bool (r181 == (-1)))) (B := []) (vs := [.d (.bool (r181 == (-1)))]) (σ := []) (by kernel_rfl) Try.func46 rfl (.cons _ _ _ _ (.tmp 4 _ (by kernel_rfl)) .nil) (by kernel_rfl) (by kernel_rfl) (by kernel_rfl) (by kernel_rfl) (by decide) (by kernel_rfl) (by kernel_rfl)

/-- awardingbody/distribution.Quantile -/
def distribution_Quantile_b1 (k : Nat) (d0 : (List Int)) (share0 : Int) (share1 : Int) (r113 : Int) (again : Int × Int → Option ((Unit) ⊕ (Int × Int))) : Int × Int → Option ((Unit) ⊕ (Int × Int)) := uc fun low4 => fun x8 => bif (decide (x8 < ((List.length d0) : Int))) then gidx d0 x8 fun e113 => Option.bind (ratio_New k (IntKind.wrap .i64 (low4 + e113)) r113) (uc fun r1313 => uc fun r1613 => fun r1713 => Option.bind (ratio_Less k r1313 r1613 share0 share1) (fun r126 => bif (!r126) then some (Sum.inr (x8, 0)) else again ((IntKind.wrap .i64 (low4 + e113)), (IntKind.wrap .i64 (x8 + 1))))) else some (Sum.inl ())
def distribution_Quantile (k : Nat) (d0 : (List Int)) (share0 : Int) (share1 : Int) : Option (Int × Int) := Option.bind (distribution_Valid k d0) (fun r122 => Option.bind (bif (!r122) then some true else Option.bind (ratio_Valid k share0 share1) (fun r127 => some (!r127)) : Option (Bool)) (fun x4 => bif x4 then some (0, 1) else Option.bind (distribution_check k d0) (fun r112 => bif (r112 != 0) then some (0, r112) else blet ((decide (share0 < 0)) || (decide (share0 > share1))) fun x5 => bif x5 then some (0, 2) else Option.bind (distribution_Count k d0) (fun r113 => Option.bind (gloop (distribution_Quantile_b1 k d0 share0 share1 r113) k (0, 0) : Option ((Unit) ⊕ (Int × Int))) (Sum.elim (u0 (some ((IntKind.wrap .i64 (((List.length d0) : Int) - 1)), 0))) (fun r => some r))))))
def distribution_Quantile_E (d0 : (List Int)) (share0 : Int) (share1 : Int) : Int × Int → V × List Blk := uc fun r110 => fun r111 => (.tuple [.d (.int .i64 r110), .d (.int .i64 r111)], [])
theorem distribution_Quantile_goes (k : Nat) (d0 : (List Int)) (share0 : Int) (share1 : Int) : RunsO Try.prog 14 [.agg [.d (.lit (List.map e_i64 d0))], .agg [.d (.int .i64 share0), .d (.int .i64 share1)]] [] (distribution_Quantile_E d0 share0 share1) (distribution_Quantile k d0 share0 share1) := by
  refine RunsO.of_goes (N := 65) (m := 0) (T := [(0, .agg [.d (.lit (List.map e_i64 d0))]), (1, .agg [.d (.int .i64 share0), .d (.int .i64 share1)])]) Try.func14 rfl rfl (by kernel_rfl) (by kernel_rfl) (by kernel_rfl) ?_
  unfold distribution_Quantile
  refine bStart ?_
  refine oSeq ?_
  refine oRegion rfl ?_
  refine oOp (.ptr 0 0) (by kernel_rfl) (by kernel_rfl) (k_box (H' := [.box [.d (.lit (List.map e_i64 d0))]]) (cells := [.d (.lit (List.map e_i64 d0))]) (by kernel_rfl) (by kernel_rfl) (by kernel_rfl)) ?_
  refine oOp (.ptr 1 0) (by kernel_rfl) (by kernel_rfl) (k_box (H' := [.box [.d (.lit (List.map e_i64 d0))], .box [.d (.int .i64 share0), .d (.int .i64 share1)]]) (cells := [.d (.int .i64 share0), .d (.int .i64 share1)]) (by kernel_rfl) (by kernel_rfl) (by kernel_rfl)) ?_
  refine oOp (.d (.int .i64 0)) (by kernel_rfl) (by kernel_rfl) (PureV.does (p_assign (by kernel_rfl))) ?_
  refine oOp (.d (.int .i64 0)) (by kernel_rfl) (by kernel_rfl) (PureV.does (p_assign (by kernel_rfl))) ?_
  refine oEnd ?_
  refine oSeq ?_
  refine oSeq ?_
  refine oRegion rfl ?_
  refine oOp (.agg [.d (.lit (List.map e_i64 d0))]) (by kernel_rfl) (by kernel_rfl) (Quiet.does (k_loadAgg 0 0 (by kernel_rfl) Try.underlying26 (by kernel_rfl) ty26 (by kernel_rfl))) ?_
  refine bCall (caps := []) (v := (fun (r122 : Bool) => (.d (.bool r122) : V))) (H' := (fun (r122 : Bool) => ([.box [.d (.lit (List.map e_i64 d0))], .box [.d (.int .i64 share0), .d (.int .i64 share1)]] : List Blk))) [] _ (distribution_Valid_goes k d0) (by kernel_rfl) (by kernel_rfl) rfl (by kernel_rfl) Try.func28 rfl (by kernel_rfl) (ConvRs.refl _ _) (by kernel_rfl) (by kernel_rfl) (by kernel_rfl) (by decide) (by kernel_rfl) (by kernel_rfl) (fun _ => (by kernel_rfl)) (fun _ => (by kernel_rfl)) (fun _ => (by kernel_rfl)) (fun r122 => ?_)
  refine oOp (.d (.bool (!r122))) (by kernel_rfl) (by kernel_rfl) (PureV.does (p_not (p := r122) (by kernel_rfl) (by kernel_rfl))) ?_
  refine oOp (.d (.bool (!r122))) (by kernel_rfl) (by kernel_rfl) (PureV.does (p_move (by kernel_rfl))) ?_
  refine bMeet 4 rfl ((fun (x4 : Bool) => [(2, .ptr 0 0), (3, .ptr 1 0), (20, .d (.bool x4))])) ((fun (x4 : Bool) => [.box [.d (.lit (List.map e_i64 d0))], .box [.d (.int .i64 share0), .d (.int .i64 share1)]])) (fun s => s) (fun x4 => ?_) (fun hj4 => ?_)
  · refine oView (T' := [(2, .ptr 0 0), (3, .ptr 1 0), (20, .d (.bool x4))]) (H' := [.box [.d (.lit (List.map e_i64 d0))], .box [.d (.int .i64 share0), .d (.int .i64 share1)]]) (by kernel_rfl) (by kernel_rfl) ?_
    refine oEnd ?_
    refine bSplit 20 (by kernel_rfl) (fun hc => ?_) (fun hc => ?_)
    · refine oCondT (by kernel_rfl) ?_
      refine oSeq ?_
      refine oRegion rfl ?_
      refine oOp (.d (.int .i64 0)) (by kernel_rfl) (by kernel_rfl) (PureV.does (p_assign (by kernel_rfl))) ?_
      refine oOp (.d (.int .i64 1)) (by kernel_rfl) (by kernel_rfl) (PureV.does (p_assign (by kernel_rfl))) ?_
      refine oEnd ?_
      exact oRet (r0 := (0, 1)) (rv := .tuple [.d (.int .i64 0), .d (.int .i64 1)]) (B := []) (vs := [.d (.int .i64 0), .d (.int .i64 1)]) (σ := []) (by kernel_rfl) Try.func14 rfl (.cons _ _ _ _ (.tmp 4 _ (by kernel_rfl)) (.cons _ _ _ _ (.tmp 5 _ (by kernel_rfl)) .nil)) (by kernel_rfl) (by kernel_rfl) (by kernel_rfl) (by kernel_rfl) (by decide) (by kernel_rfl) (by kernel_rfl)
    · refine oCondF (by kernel_rfl) ?_
      refine oSkip ?_
      refine oSeq ?_
      refine oSeq ?_
      refine oRegion rfl ?_
      refine oOp (.agg [.d (.lit (List.map e_i64 d0))]) (by kernel_rfl) (by kernel_rfl) (Quiet.does (k_loadAgg 0 0 (by kernel_rfl) Try.underlying26 (by kernel_rfl) ty26 (by kernel_rfl))) ?_
      refine bCall (caps := []) (v := (fun (r112 : Int) => (.d (.int .i64 r112) : V))) (H' := (fun (r112 : Int) => ([.box [.d (.lit (List.map e_i64 d0))], .box [.d (.int .i64 share0), .d (.int .i64 share1)]] : List Blk))) [] _ (distribution_check_goes k d0) (by kernel_rfl) (by kernel_rfl) rfl (by kernel_rfl) Try.func44 rfl (by kernel_rfl) (ConvRs.refl _ _) (by kernel_rfl) (by kernel_rfl) (by kernel_rfl) (by decide) (by kernel_rfl) (by kernel_rfl) (fun _ => (by kernel_rfl)) (fun _ => (by kernel_rfl)) (fun _ => (by kernel_rfl)) (fun r112 => ?_)
      refine oOp (.d (.int .i64 r112)) (by kernel_rfl) (by kernel_rfl) (PureV.does (p_assign (by kernel_rfl))) ?_
      refine oEnd ?_
      refine oSeq ?_
      refine oRegion rfl ?_
      refine oOp (.d (.int .i64 r112)) (by kernel_rfl) (by kernel_rfl) (PureV.does (p_move (by kernel_rfl))) ?_
      refine oOp (.d (.bool (r112 != 0))) (by kernel_rfl) (by kernel_rfl) (PureV.does (p_int (k := .i64) (p := r112) (q := 0) (by kernel_rfl) (by kernel_rfl) (by kernel_rfl))) ?_
      refine oEnd ?_
      refine bSplit 24 (by kernel_rfl) (fun hc => ?_) (fun hc => ?_)
      · refine oCondT (by kernel_rfl) ?_
        refine oSeq ?_
        refine oRegion rfl ?_
        refine oOp (.d (.int .i64 r112)) (by kernel_rfl) (by kernel_rfl) (PureV.does (p_move (by kernel_rfl))) ?_
        refine oOp (.d (.int .i64 0)) (by kernel_rfl) (by kernel_rfl) (PureV.does (p_assign (by kernel_rfl))) ?_
        refine oOp (.d (.int .i64 r112)) (by kernel_rfl) (by kernel_rfl) (PureV.does (p_assign (by kernel_rfl))) ?_
        refine oEnd ?_
        exact oRet (r0 := (0, r112)) (rv := .tuple [.d (.int .i64 0), .d (.int .i64 r112)]) (B := []) (vs := [.d (.int .i64 0), .d (.int .i64 r112)]) (σ := []) (by kernel_rfl) Try.func14 rfl (.cons _ _ _ _ (.tmp 4 _ (by kernel_rfl)) (.cons _ _ _ _ (.tmp 5 _ (by kernel_rfl)) .nil)) (by kernel_rfl) (by kernel_rfl) (by kernel_rfl) (by kernel_rfl) (by decide) (by kernel_rfl) (by kernel_rfl)
      · refine oCondF (by kernel_rfl) ?_
        refine oSkip ?_
        refine oSeq ?_
        refine oSeq ?_
        refine oRegion rfl ?_
        refine oOp (.ptr 1 0) (by kernel_rfl) (by kernel_rfl) (PureV.does (k_fieldAddr 1 0 (by kernel_rfl) Try.underlying31 rfl ty3 (by kernel_rfl))) ?_
        refine oOp (.d (.int .i64 share0)) (by kernel_rfl) (by kernel_rfl) (Quiet.does (k_load 1 0 (by kernel_rfl) Try.underlying3 (by kernel_rfl) (by kernel_rfl))) ?_
        refine oOp (.d (.bool (decide (share0 < 0)))) (by kernel_rfl) (by kernel_rfl) (PureV.does (p_int (k := .i64) (p := share0) (q := 0) (by kernel_rfl) (by kernel_rfl) (by kernel_rfl))) ?_
        refine oOp (.d (.bool (decide (share0 < 0)))) (by kernel_rfl) (by kernel_rfl) (PureV.does (p_move (by kernel_rfl))) ?_
        refine bMeetF (H' := [.box [.d (.lit (List.map e_i64 d0))], .box [.d (.int .i64 share0), .d (.int .i64 share1)]]) 6 rfl ((fun (x5 : Bool) => [(2, .ptr 0 0), (3, .ptr 1 0), (35, .d (.bool x5))])) (fun x5 => ?_) (fun F hj2 => ?_)
        · refine oView (T' := [(2, .ptr 0 0), (3, .ptr 1 0), (35, .d (.bool x5))]) (H' := [.box [.d (.lit (List.map e_i64 d0))], .box [.d (.int .i64 share0), .d (.int .i64 share1)]]) (by kernel_rfl) (by kernel_rfl) ?_
          refine oEnd ?_
          refine bSplit 35 (by kernel_rfl) (fun hc => ?_) (fun hc => ?_)
          · refine oCondT (by kernel_rfl) ?_
            refine oSeq ?_
            refine oRegion rfl ?_
            refine oOp (.d (.int .i64 0)) (by kernel_rfl) (by kernel_rfl) (PureV.does (p_assign (by kernel_rfl))) ?_
            refine oOp (.d (.int .i64 2)) (by kernel_rfl) (by kernel_rfl) (PureV.does (p_assign (by kernel_rfl))) ?_
            refine oEnd ?_
            exact oRet (r0 := (0, 2)) (rv := .tuple [.d (.int .i64 0), .d (.int .i64 2)]) (B := []) (vs := [.d (.int .i64 0), .d (.int .i64 2)]) (σ := []) (by kernel_rfl) Try.func14 rfl (.cons _ _ _ _ (.tmp 4 _ (by kernel_rfl)) (.cons _ _ _ _ (.tmp 5 _ (by kernel_rfl)) .nil)) (by kernel_rfl) (by kernel_rfl) (by kernel_rfl) (by kernel_rfl) (by decide) (by kernel_rfl) (by kernel_rfl)
          · refine oCondF (by kernel_rfl) ?_
            refine oSkip ?_
            refine oSeq ?_
            refine oRegion rfl ?_
            refine oOp (.agg [.d (.lit (List.map e_i64 d0))]) (by kernel_rfl) (by kernel_rfl) (Quiet.does (k_loadAgg 0 0 (by kernel_rfl) Try.underlying26 (by kernel_rfl) ty26 (by kernel_rfl))) ?_
            refine bCall (caps := []) (v := (fun (r113 : Int) => (.d (.int .i64 r113) : V))) (H' := (fun (r113 : Int) => ([.box [.d (.lit (List.map e_i64 d0))], .box [.d (.int .i64 share0), .d (.int .i64 share1)]] : List Blk))) [] _ (distribution_Count_goes k d0) (by kernel_rfl) (by kernel_rfl) rfl (by kernel_rfl) Try.func15 rfl (by kernel_rfl) (ConvRs.refl _ _) (by kernel_rfl) (by kernel_rfl) (by kernel_rfl) (by decide) (by kernel_rfl) (by kernel_rfl) (fun _ => (by kernel_rfl)) (fun _ => (by kernel_rfl)) (fun _ => (by kernel_rfl)) (fun r113 => ?_)
            refine oOp (.d (.int .i64 0)) (by kernel_rfl) (by kernel_rfl) (PureV.does (p_assign (by kernel_rfl))) ?_
            refine oOp (.d (.int .i64 r113)) (by kernel_rfl) (by kernel_rfl) (PureV.does (p_assign (by kernel_rfl))) ?_
            refine oEnd ?_
            refine oSeq ?_
            refine oSeq ?_
            refine oRegion rfl ?_
            refine oOp (.ptr 0 0) (by kernel_rfl) (by kernel_rfl) (PureV.does (k_fieldAddr 0 0 (by kernel_rfl) Try.underlying26 rfl ty22 (by kernel_rfl))) ?_
            refine oOp (.d (.lit (List.map e_i64 d0))) (by kernel_rfl) (by kernel_rfl) (Quiet.does (k_load 0 0 (by kernel_rfl) Try.underlying22 (by kernel_rfl) (by kernel_rfl))) ?_
            refine oOp (.d (.int .i64 ((List.length d0) : Int))) (by kernel_rfl) (by kernel_rfl) (PureV.does (k_lenLit (enc := e_i64) d0 (by kernel_rfl) Try.underlying22)) ?_
            refine oOp (.d (.int .i64 0)) (by kernel_rfl) (by kernel_rfl) (PureV.does (p_move (by kernel_rfl))) ?_
            refine oEnd ?_
            refine bJoin ((u0 ([(2, .ptr 0 0)]))) ((u0 ([.box [.d (.lit (List.map e_i64 d0))]]))) Sum.inl (fun s => ?_) (fun hj3 => ?_)
            · cases s
              refine bInl ?_
              refine bU0 ?_
              refine oView (T' := [(2, .ptr 0 0)]) (H' := [.box [.d (.lit (List.map e_i64 d0))]]) (by kernel_rfl) (by kernel_rfl) ?_
              refine oSeq ?_
              refine oRegion rfl ?_
              refine oOp (.ptr 0 0) (by kernel_rfl) (by kernel_rfl) (PureV.does (k_fieldAddr 0 0 (by kernel_rfl) Try.underlying26 rfl ty22 (by kernel_rfl))) ?_
              refine oOp (.d (.lit (List.map e_i64 d0))) (by kernel_rfl) (by kernel_rfl) (Quiet.does (k_load 0 0 (by kernel_rfl) Try.underlying22 (by kernel_rfl) (by kernel_rfl))) ?_
              refine oOp (.d (.int .i64 ((List.length d0) : Int))) (by kernel_rfl) (by kernel_rfl) (PureV.does (k_lenLit (enc := e_i64) d0 (by kernel_rfl) Try.underlying22)) ?_
              refine oOp (.d (.int .i64 (IntKind.wrap .i64 (((List.length d0) : Int) - 1)))) (by kernel_rfl) (by kernel_rfl) (PureV.does (p_int (k := .i64) (p := ((List.length d0) : Int)) (q := 1) (by kernel_rfl) (by kernel_rfl) (by kernel_rfl))) ?_
              refine oOp (.d (.int .i64 (IntKind.wrap .i64 (((List.length d0) : Int) - 1)))) (by kernel_rfl) (by kernel_rfl) (PureV.does (p_assign (by kernel_rfl))) ?_
              refine oOp (.d (.int .i64 0)) (by kernel_rfl) (by kernel_rfl) (PureV.does (p_assign (by kernel_rfl))) ?_
              refine oEnd ?_
              exact oRet (r0 := ((IntKind.wrap .i64 (((List.length d0) : Int) - 1)), 0)) (rv := .tuple [.d (.int .i64 (IntKind.wrap .i64 (((List.length d0) : Int) - 1))), .d (.int .i64 0)]) (B := []) (vs := [.d (.int .i64 (IntKind.wrap .i64 (((List.length d0) : Int) - 1))), .d (.int .i64 0)]) (σ := []) (by kernel_rfl) Try.func14 rfl (.cons _ _ _ _ (.tmp 4 _ (by kernel_rfl)) (.cons _ _ _ _ (.tmp 5 _ (by kernel_rfl)) .nil)) (by kernel_rfl) (by kernel_rfl) (by kernel_rfl) (by kernel_rfl) (by decide) (by kernel_rfl) (by kernel_rfl)
            · refine oBlock ?_
              refine oLoop ?_
              refine oHead [2, 3, 7, 8, 39, 40, 41] [0, 1] (T' := [(2, .ptr 0 0), (3, .ptr 1 0), (7, .d (.int .i64 0)), (8, .d (.int .i64 r113)), (39, .d (.lit (List.map e_i64 d0))), (40, .d (.int .i64 ((List.length d0) : Int))), (41, .d (.int .i64 0))]) (H' := [.box [.d (.lit (List.map e_i64 d0))], .box [.d (.int .i64 share0), .d (.int .i64 share1)]]) (by kernel_rfl) (by kernel_rfl) (by kernel_rfl) (by kernel_rfl) (by decide) (by kernel_rfl) (by kernel_rfl) ?_
              refine bLoop (body := distribution_Quantile_b1 k d0 share0 share1 r113) ((uc fun (low4 : Int) => (fun (x8 : Int) => [(2, .ptr 0 0), (3, .ptr 1 0), (7, .d (.int .i64 low4)), (8, .d (.int .i64 r113)), (39, .d (.lit (List.map e_i64 d0))), (40, .d (.int .i64 ((List.length d0) : Int))), (41, .d (.int .i64 x8))]))) ((uc fun (low4 : Int) => (fun (x8 : Int) => [.box [.d (.lit (List.map e_i64 d0))], .box [.d (.int .i64 share0), .d (.int .i64 share1)]]))) (fun again hag1 s => ?_) k (0, 0)
              · unfold distribution_Quantile_b1
                obtain ⟨low4, x8⟩ := s
                refine bUc ?_
                refine oView (T' := [(2, .ptr 0 0), (3, .ptr 1 0), (7, .d (.int .i64 low4)), (8, .d (.int .i64 r113)), (39, .d (.lit (List.map e_i64 d0))), (40, .d (.int .i64 ((List.length d0) : Int))), (41, .d (.int .i64 x8))]) (H' := [.box [.d (.lit (List.map e_i64 d0))], .box [.d (.int .i64 share0), .d (.int .i64 share1)]]) (by kernel_rfl) (by kernel_rfl) ?_
                refine oSeq ?_
                refine oRegion rfl ?_
                refine oOp (.d (.bool (decide (x8 < ((List.length d0) : Int))))) (by kernel_rfl) (by kernel_rfl) (PureV.does (p_int (k := .i64) (p := x8) (q := ((List.length d0) : Int)) (by kernel_rfl) (by kernel_rfl) (by kernel_rfl))) ?_
                refine oEnd ?_
                refine oSeq ?_
                refine bSplit 42 (by kernel_rfl) (fun hc => ?_) (fun hc => ?_)
                · refine oCondT (by kernel_rfl) ?_
                  refine oSkip ?_
                  refine oSeq ?_
                  refine oBlock ?_
                  refine oSeq ?_
                  refine oRegion rfl ?_
                  refine oOp (.d (.int .i64 x8)) (by kernel_rfl) (by kernel_rfl) (PureV.does (p_move (by kernel_rfl))) ?_
                  refine bIdx (fun e113 h126 h127 => ?_)
                  refine oOp (.lptr (e_i64 e113) 0) (by kernel_rfl) (by kernel_rfl) (PureV.does (k_idxLit e_i64_len d0 (a := e113) (by kernel_rfl) (k := .i64) (i := x8) (by kernel_rfl) Try.underlying22 ty3 h126 h127)) ?_
                  refine oOp (.d (.int .i64 e113)) (by kernel_rfl) (by kernel_rfl) (Quiet.does (k_loadL (cells := e_i64 e113) 0 (by kernel_rfl) Try.underlying3 (by kernel_rfl) (by kernel_rfl))) ?_
                  refine oOp (.d (.int .i64 x8)) (by kernel_rfl) (by kernel_rfl) (PureV.does (p_assign (by kernel_rfl))) ?_
                  refine oOp (.d (.int .i64 e113)) (by kernel_rfl) (by kernel_rfl) (PureV.does (p_assign (by kernel_rfl))) ?_
                  refine oEnd ?_
                  refine oSeq ?_
                  refine oRegion rfl ?_
                  refine oOp (.d (.int .i64 low4)) (by kernel_rfl) (by kernel_rfl) (PureV.does (p_move (by kernel_rfl))) ?_
                  refine oOp (.d (.int .i64 e113)) (by kernel_rfl) (by kernel_rfl) (PureV.does (p_move (by kernel_rfl))) ?_
                  refine oOp (.d (.int .i64 (IntKind.wrap .i64 (low4 + e113)))) (by kernel_rfl) (by kernel_rfl) (PureV.does (p_int (k := .i64) (p := low4) (q := e113) (by kernel_rfl) (by kernel_rfl) (by kernel_rfl))) ?_
                  refine oOp (.d (.int .i64 (IntKind.wrap .i64 (low4 + e113)))) (by kernel_rfl) (by kernel_rfl) (PureV.does (p_assign (by kernel_rfl))) ?_
                  refine oEnd ?_
                  refine oSeq ?_
                  refine oRegion rfl ?_
                  refine oOp (.d (.int .i64 (IntKind.wrap .i64 (low4 + e113)))) (by kernel_rfl) (by kernel_rfl) (PureV.does (p_move (by kernel_rfl))) ?_
                  refine oOp (.d (.int .i64 r113)) (by kernel_rfl) (by kernel_rfl) (PureV.does (p_move (by kernel_rfl))) ?_
                  refine bCall (caps := []) (v := (uc fun (r1313 : Int) => (uc fun (r1613 : Int) => (fun (r1713 : Int) => (.tuple [.agg [.d (.int .i64 r1313), .d (.int .i64 r1613)], .d (.int .i64 r1713)] : V))))) (H' := (uc fun (r1313 : Int) => (uc fun (r1613 : Int) => (fun (r1713 : Int) => ([.box [.d (.lit (List.map e_i64 d0))], .box [.d (.int .i64 share0), .d (.int .i64 share1)]] : List Blk))))) [] _ (ratio_New_goes k (IntKind.wrap .i64 (low4 + e113)) r113) (by kernel_rfl) (by kernel_rfl) rfl (by kernel_rfl) Try.func45 rfl (by kernel_rfl) (ConvRs.refl _ _) (by kernel_rfl) (by kernel_rfl) (by kernel_rfl) (by decide) (by kernel_rfl) (by kernel_rfl) (fun _ => (by kernel_rfl)) (fun _ => (by kernel_rfl)) (fun _ => (by kernel_rfl)) (fun r => ?_)
                  obtain ⟨r1313, r1613, r1713⟩ := r
                  refine bUc ?_
                  refine bUc ?_
                  refine oOp (.tuple [.agg [.d (.int .i64 r1313), .d (.int .i64 r1613)], .d (.int .i64 r1713)]) (by kernel_rfl) (by kernel_rfl) (PureV.does (p_move (by kernel_rfl))) ?_
                  refine oOp (.agg [.d (.int .i64 r1313), .d (.int .i64 r1613)]) (by kernel_rfl) (by kernel_rfl) (PureV.does (k_extract (by kernel_rfl))) ?_
                  refine oOp (.d (.int .i64 r1713)) (by kernel_rfl) (by kernel_rfl) (PureV.does (k_extract (by kernel_rfl))) ?_
                  refine oOp (.ptr 2 0) (by kernel_rfl) (by kernel_rfl) (k_alloc (H' := [.box [.d (.lit (List.map e_i64 d0))], .box [.d (.int .i64 share0), .d (.int .i64 share1)], .box [.d (.int .i64 0), .d (.int .i64 0)]]) ty31 (by kernel_rfl) (by kernel_rfl)) ?_
                  refine oOp (.undef) (by kernel_rfl) (by kernel_rfl) (k_store (vs := [.d (.int .i64 r1313), .d (.int .i64 r1613)]) (H' := [.box [.d (.lit (List.map e_i64 d0))], .box [.d (.int .i64 share0), .d (.int .i64 share1)], .box [.d (.int .i64 r1313), .d (.int .i64 r1613)]]) 2 0 (by kernel_rfl) ty31 (by kernel_rfl) (by kernel_rfl) (by kernel_rfl)) ?_
                  refine oOp (.d (.int .i64 r1713)) (by kernel_rfl) (by kernel_rfl) (PureV.does (p_assign (by kernel_rfl))) ?_
                  refine oEnd ?_
                  refine oSeq ?_
                  refine oRegion rfl ?_
                  refine oOp (.agg [.d (.int .i64 r1313), .d (.int .i64 r1613)]) (by kernel_rfl) (by kernel_rfl) (Quiet.does (k_loadAgg 2 0 (by kernel_rfl) Try.underlying31 (by kernel_rfl) ty31 (by kernel_rfl))) ?_
                  refine oOp (.agg [.d (.int .i64 share0), .d (.int .i64 share1)]) (by kernel_rfl) (by kernel_rfl) (Quiet.does (k_loadAgg 1 0 (by kernel_rfl) Try.underlying31 (by kernel_rfl) ty31 (by kernel_rfl))) ?_
                  refine bCall (caps := []) (v := (fun (r126 : Bool) => (.d (.bool r126) : V))) (H' := (fun (r126 : Bool) => ([.box [.d (.lit (List.map e_i64 d0))], .box [.d (.int .i64 share0), .d (.int .i64 share1)], .box [.d (.int .i64 r1313), .d (.int .i64 r1613)]] : List Blk))) [] _ (ratio_Less_goes k r1313 r1613 share0 share1) (by kernel_rfl) (by kernel_rfl) rfl (by kernel_rfl) Try.func46 rfl (by kernel_rfl) (ConvRs.refl _ _) (by kernel_rfl) (by kernel_rfl) (by kernel_rfl) (by decide) (by kernel_rfl) (by kernel_rfl) (fun _ => (by kernel_rfl)) (fun _ => (by kernel_rfl)) (fun _ => (by kernel_rfl)) (fun r126 => ?_)
                  refine oOp (.d (.bool (!r126))) (by kernel_rfl) (by kernel_rfl) (PureV.does (p_not (p := r126) (by kernel_rfl) (by kernel_rfl))) ?_
                  refine oEnd ?_
                  refine bSplit 58 (by kernel_rfl) (fun hc => ?_) (fun hc => ?_)
                  · refine oCondT (by kernel_rfl) ?_
                    refine oSeq ?_
                    refine oRegion rfl ?_
                    refine oOp (.d (.int .i64 x8)) (by kernel_rfl) (by kernel_rfl) (PureV.does (p_move (by kernel_rfl))) ?_
                    refine oOp (.d (.int .i64 x8)) (by kernel_rfl) (by kernel_rfl) (PureV.does (p_assign (by kernel_rfl))) ?_
                    refine oOp (.d (.int .i64 0)) (by kernel_rfl) (by kernel_rfl) (PureV.does (p_assign (by kernel_rfl))) ?_
                    refine oEnd ?_
                    exact oRet (r0 := (x8, 0)) (rv := .tuple [.d (.int .i64 x8), .d (.int .i64 0)]) (B := []) (vs := [.d (.int .i64 x8), .d (.int .i64 0)]) (σ := []) (by kernel_rfl) Try.func14 rfl (.cons _ _ _ _ (.tmp 4 _ (by kernel_rfl)) (.cons _ _ _ _ (.tmp 5 _ (by kernel_rfl)) .nil)) (by kernel_rfl) (by kernel_rfl) (by kernel_rfl) (by kernel_rfl) (by decide) (by kernel_rfl) (by kernel_rfl)
                  · refine oCondF (by kernel_rfl) ?_
                    refine oSkip ?_
                    refine oBlk ?_
                    refine oRegion rfl ?_
                    refine oOp (.d (.int .i64 (IntKind.wrap .i64 (x8 + 1)))) (by kernel_rfl) (by kernel_rfl) (PureV.does (p_int (k := .i64) (p := x8) (q := 1) (by kernel_rfl) (by kernel_rfl) (by kernel_rfl))) ?_
                    refine oOp (.d (.int .i64 (IntKind.wrap .i64 (x8 + 1)))) (by kernel_rfl) (by kernel_rfl) (PureV.does (p_move (by kernel_rfl))) ?_
                    refine oEnd ?_
                    refine oAgain ?_
                    refine oHead [2, 3, 7, 8, 39, 40, 41] [0, 1] (T' := [(2, .ptr 0 0), (3, .ptr 1 0), (7, .d (.int .i64 (IntKind.wrap .i64 (low4 + e113)))), (8, .d (.int .i64 r113)), (39, .d (.lit (List.map e_i64 d0))), (40, .d (.int .i64 ((List.length d0) : Int))), (41, .d (.int .i64 (IntKind.wrap .i64 (x8 + 1))))]) (H' := [.box [.d (.lit (List.map e_i64 d0))], .box [.d (.int .i64 share0), .d (.int .i64 share1)]]) (by kernel_rfl) (by kernel_rfl) (by kernel_rfl) (by kernel_rfl) (by decide) (by kernel_rfl) (by kernel_rfl) ?_
                    exact hag1 ((IntKind.wrap .i64 (low4 + e113)), (IntKind.wrap .i64 (x8 + 1)))
                · refine oCondF (by kernel_rfl) ?_
                  refine oExit rfl ?_
                  refine oHead [2] [0] (T' := [(2, .ptr 0 0)]) (H' := [.box [.d (.lit (List.map e_i64 d0))]]) (by kernel_rfl) (by kernel_rfl) (by kernel_rfl) (by kernel_rfl) (by decide) (by kernel_rfl) (by kernel_rfl) ?_
                  exact hj3 ()
        · refine bPickF 29 (fun c => F (c || (decide (share0 > share1)))) (by kernel_rfl) (fun hc => ?_) (fun hc => ?_)
          · refine oNot (by kernel_rfl) (by kernel_rfl) ?_
            refine oNot (by kernel_rfl) (by kernel_rfl) ?_
            refine oNot (by kernel_rfl) (by kernel_rfl) ?_
            refine oNot (by kernel_rfl) (by kernel_rfl) ?_
            refine oNot (by kernel_rfl) (by kernel_rfl) ?_
            refine oOp (.d (.bool true)) (by kernel_rfl) (by kernel_rfl) (PureV.does (p_pick (b := true) (by kernel_rfl) (by kernel_rfl))) ?_
            refine oHead [2, 3, 35] [0, 1] (T' := [(2, .ptr 0 0), (3, .ptr 1 0), (35, .d (.bool true))]) (H' := [.box [.d (.lit (List.map e_i64 d0))], .box [.d (.int .i64 share0), .d (.int .i64 share1)]]) (by kernel_rfl) (by kernel_rfl) (by kernel_rfl) (by kernel_rfl) (by decide) (by kernel_rfl) (by kernel_rfl) ?_
            exact hj2 true
          · refine oOp (.ptr 1 0) (by kernel_rfl) (by kernel_rfl) (PureV.does (k_fieldAddr 1 0 (by kernel_rfl) Try.underlying31 rfl ty3 (by kernel_rfl))) ?_
            refine oOp (.d (.int .i64 share0)) (by kernel_rfl) (by kernel_rfl) (Quiet.does (k_load 1 0 (by kernel_rfl) Try.underlying3 (by kernel_rfl) (by kernel_rfl))) ?_
            refine oOp (.ptr 1 1) (by kernel_rfl) (by kernel_rfl) (PureV.does (k_fieldAddr 1 0 (by kernel_rfl) Try.underlying31 rfl ty3 (by kernel_rfl))) ?_
            refine oOp (.d (.int .i64 share1)) (by kernel_rfl) (by kernel_rfl) (Quiet.does (k_load 1 1 (by kernel_rfl) Try.underlying3 (by kernel_rfl) (by kernel_rfl))) ?_
            refine oOp (.d (.bool (decide (share0 > share1)))) (by kernel_rfl) (by kernel_rfl) (PureV.does (p_int (k := .i64) (p := share0) (q := share1) (by kernel_rfl) (by kernel_rfl) (by kernel_rfl))) ?_
            refine oOp (.d (.bool (decide (share0 > share1)))) (by kernel_rfl) (by kernel_rfl) (PureV.does (p_pick (b := false) (by kernel_rfl) (by kernel_rfl))) ?_
            refine oHead [2, 3, 35] [0, 1] (T' := [(2, .ptr 0 0), (3, .ptr 1 0), (35, .d (.bool (decide (share0 > share1))))]) (H' := [.box [.d (.lit (List.map e_i64 d0))], .box [.d (.int .i64 share0), .d (.int .i64 share1)]]) (by kernel_rfl) (by kernel_rfl) (by kernel_rfl) (by kernel_rfl) (by decide) (by kernel_rfl) (by kernel_rfl) ?_
            exact hj2 (decide (share0 > share1))
  · refine bSplit 16 (by kernel_rfl) (fun hc => ?_) (fun hc => ?_)
    · refine oNot (by kernel_rfl) (by kernel_rfl) ?_
      refine oNot (by kernel_rfl) (by kernel_rfl) ?_
      refine oNot (by kernel_rfl) (by kernel_rfl) ?_
      refine oOp (.d (.bool true)) (by kernel_rfl) (by kernel_rfl) (PureV.does (p_pick (b := true) (by kernel_rfl) (by kernel_rfl))) ?_
      refine oHead [2, 3, 20] [0, 1] (T' := [(2, .ptr 0 0), (3, .ptr 1 0), (20, .d (.bool true))]) (H' := [.box [.d (.lit (List.map e_i64 d0))], .box [.d (.int .i64 share0), .d (.int .i64 share1)]]) (by kernel_rfl) (by kernel_rfl) (by kernel_rfl) (by kernel_rfl) (by decide) (by kernel_rfl) (by kernel_rfl) ?_
      exact hj4 true
    · refine oOp (.agg [.d (.int .i64 share0), .d (.int .i64 share1)]) (by kernel_rfl) (by kernel_rfl) (Quiet.does (k_loadAgg 1 0 (by kernel_rfl) Try.underlying31 (by kernel_rfl) ty31 (by kernel_rfl))) ?_
      refine bCall (caps := []) (v := (fun (r127 : Bool) => (.d (.bool r127) : V))) (H' := (fun (r127 : Bool) => ([.box [.d (.lit (List.map e_i64 d0))], .box [.d (.int .i64 share0), .d (.int .i64 share1)]] : List Blk))) [] _ (ratio_Valid_goes k share0 share1) (by kernel_rfl) (by kernel_rfl) rfl (by kernel_rfl) Try.func43 rfl (by kernel_rfl) (ConvRs.refl _ _) (by kernel_rfl) (by kernel_rfl) (by kernel_rfl) (by decide) (by kernel_rfl) (by kernel_rfl) (fun _ => (by kernel_rfl)) (fun _ => (by kernel_rfl)) (fun _ => (by kernel_rfl)) (fun r127 => ?_)
      refine oOp (.d (.bool (!r127))) (by kernel_rfl) (by kernel_rfl) (PureV.does (p_not (p := r127) (by kernel_rfl) (by kernel_rfl))) ?_
      refine oOp (.d (.bool (!r127))) (by kernel_rfl) (by kernel_rfl) (PureV.does (p_pick (b := false) (by kernel_rfl) (by kernel_rfl))) ?_
      refine oHead [2, 3, 20] [0, 1] (T' := [(2, .ptr 0 0), (3, .ptr 1 0), (20, .d (.bool (!r127)))]) (H' := [.box [.d (.lit (List.map e_i64 d0))], .box [.d (.int .i64 share0), .d (.int .i64 share1)]]) (by kernel_rfl) (by kernel_rfl) (by kernel_rfl) (by kernel_rfl) (by decide) (by kernel_rfl) (by kernel_rfl) ?_
      exact hj4 (!r127)

/-- awardingbody/awardingbodylaw32.sane -/
def law32_sane (k : Nat) : Option (Bool) := Option.bind (distribution_Mean k ([1, 2, 1] : List Int)) (uc fun r122 => uc fun r143 => fun r153 => Option.bind (distribution_Deviation k ([1, 2, 1] : List Int)) (uc fun r144 => uc fun r154 => fun r181 => Option.bind (distribution_Rank k ([1, 2, 1] : List Int) 1) (uc fun r123 => uc fun r145 => fun r155 => Option.bind (distribution_Quantile k ([1, 2, 1] : List Int) 1 4) (uc fun r1102 => fun r1112 => Option.bind (distribution_Quantile k ([1, 2, 1] : List Int) 1 2) (uc fun r1103 => fun r1113 => blet ((r153 == 0) && (r181 == 0)) fun x9 => blet (x9 && (r155 == 0)) fun x10 => blet (x10 && (r1112 == 0)) fun x11 => blet (x11 && (r1113 == 0)) fun x12 => blet (x12 && ((r122 == 1) && ((r143 == 1) && true))) fun x13 => blet (x13 && ((r144 == 1) && ((r154 == 2) && true))) fun x14 => blet (x14 && ((r123 == 1) && ((r145 == 2) && true))) fun x15 => blet (x15 && (r1102 == 0)) fun x16 => blet (x16 && (r1103 == 1)) fun x17 => some x17)))))
def law32_sane_E : Bool → V × List Blk := fun r1 => (.d (.bool r1), [])
theorem law32_sane_goes (k : Nat) : RunsO Try.prog 10 [] [] (law32_sane_E) (law32_sane k) := by
  refine RunsO.of_goes (N := 84) (m := 0) (T := []) Try.func10 rfl rfl (by kernel_rfl) (by kernel_rfl) (by kernel_rfl) ?_
  unfold law32_sane
  refine bStart ?_
  refine oSeq ?_
  refine oRegion rfl ?_
  refine oOp (.d (.bool false)) (by kernel_rfl) (by kernel_rfl) (PureV.does (p_assign (by kernel_rfl))) ?_
  refine oEnd ?_
  refine oSeq ?_
  refine oRegion rfl ?_
  refine oOp (.ref 0 (List.length ([1, 2, 1] : List Int)) 0 (List.length ([1, 2, 1] : List Int))) (by kernel_rfl) (by kernel_rfl) (k_buildSlice (H' := [.sl 1 (List.map e_i64 ([1, 2, 1] : List Int)) false]) (List.map e_i64 ([1, 2, 1] : List Int)) Try.underlying22 ty3 (by kernel_rfl) (by kernel_rfl) (by kernel_rfl)) ?_
  refine oOp (.agg [.ref 0 (List.length ([1, 2, 1] : List Int)) 0 (List.length ([1, 2, 1] : List Int))]) (by kernel_rfl) (by kernel_rfl) (PureV.does (p_build bld26 (by kernel_rfl))) ?_
  refine oOp (.ptr 1 0) (by kernel_rfl) (by kernel_rfl) (k_alloc (H' := [.sl 1 (List.map e_i64 ([1, 2, 1] : List Int)) false, .box [.nilc]]) ty26 (by kernel_rfl) (by kernel_rfl)) ?_
  refine oOp (.undef) (by kernel_rfl) (by kernel_rfl) (k_store (vs := [.ref 0 (List.length ([1, 2, 1] : List Int)) 0 (List.length ([1, 2, 1] : List Int))]) (H' := [.sl 1 (List.map e_i64 ([1, 2, 1] : List Int)) false, .box [.ref 0 (List.length ([1, 2, 1] : List Int)) 0 (List.length ([1, 2, 1] : List Int))]]) 1 0 (by kernel_rfl) ty26 (by kernel_rfl) (by kernel_rfl) (by kernel_rfl)) ?_
  refine oEnd ?_
  refine oSeq ?_
  refine oRegion rfl ?_
  refine oOp (.agg [.ref 0 (List.length ([1, 2, 1] : List Int)) 0 (List.length ([1, 2, 1] : List Int))]) (by kernel_rfl) (by kernel_rfl) (Quiet.does (k_loadAgg 1 0 (by kernel_rfl) Try.underlying26 (by kernel_rfl) ty26 (by kernel_rfl))) ?_
  refine oFreeze 0 (esz := 1) (xs := List.map e_i64 ([1, 2, 1] : List Int)) (by kernel_rfl) ?_
  refine oView (H' := [.sl 1 (List.map e_i64 ([1, 2, 1] : List Int)) true, .box [.ref 0 (List.length ([1, 2, 1] : List Int)) 0 (List.length ([1, 2, 1] : List Int))]]) rfl (by kernel_rfl) ?_
  refine bCall (caps := []) (v := (uc fun (r122 : Int) => (uc fun (r143 : Int) => (fun (r153 : Int) => (.tuple [.agg [.d (.int .i64 r122), .d (.int .i64 r143)], .d (.int .i64 r153)] : V))))) (H' := (uc fun (r122 : Int) => (uc fun (r143 : Int) => (fun (r153 : Int) => ([.sl 1 (List.map e_i64 ([1, 2, 1] : List Int)) true, .box [.ref 0 (List.length ([1, 2, 1] : List Int)) 0 (List.length ([1, 2, 1] : List Int))]] : List Blk))))) [] _ (distribution_Mean_goes k ([1, 2, 1] : List Int)) (by kernel_rfl) (by kernel_rfl) rfl (by kernel_rfl) Try.func19 rfl (by kernel_rfl) (convList (vs0 := [.agg [.ref 0 (List.length ([1, 2, 1] : List Int)) 0 (List.length ([1, 2, 1] : List Int))]]) (vs := [.agg [.d (.lit (List.map e_i64 ([1, 2, 1] : List Int)))]]) (by kernel_rfl) (.cons _ _ _ _ (.agg _ _ (.cons _ _ _ _ (k_lit (enc := e_i64) (sz := 1) 0 ([1, 2, 1] : List Int) (by kernel_rfl)) .nil)) .nil)) (by kernel_rfl) (by kernel_rfl) (by kernel_rfl) (by decide) (by kernel_rfl) (by kernel_rfl) (fun _ => (by kernel_rfl)) (fun _ => (by kernel_rfl)) (fun _ => (by kernel_rfl)) (fun r => ?_)
  obtain ⟨r122, r143, r153⟩ := r
  refine bUc ?_
  refine bUc ?_
  refine oOp (.tuple [.agg [.d (.int .i64 r122), .d (.int .i64 r143)], .d (.int .i64 r153)]) (by kernel_rfl) (by kernel_rfl) (PureV.does (p_move (by kernel_rfl))) ?_
  refine oOp (.agg [.d (.int .i64 r122), .d (.int .i64 r143)]) (by kernel_rfl) (by kernel_rfl) (PureV.does (k_extract (by kernel_rfl))) ?_
  refine oOp (.d (.int .i64 r153)) (by kernel_rfl) (by kernel_rfl) (PureV.does (k_extract (by kernel_rfl))) ?_
  refine oOp (.ptr 2 0) (by kernel_rfl) (by kernel_rfl) (k_alloc (H' := [.sl 1 (List.map e_i64 ([1, 2, 1] : List Int)) true, .box [.ref 0 (List.length ([1, 2, 1] : List Int)) 0 (List.length ([1, 2, 1] : List Int))], .box [.d (.int .i64 0), .d (.int .i64 0)]]) ty31 (by kernel_rfl) (by kernel_rfl)) ?_
  refine oOp (.undef) (by kernel_rfl) (by kernel_rfl) (k_store (vs := [.d (.int .i64 r122), .d (.int .i64 r143)]) (H' := [.sl 1 (List.map e_i64 ([1, 2, 1] : List Int)) true, .box [.ref 0 (List.length ([1, 2, 1] : List Int)) 0 (List.length ([1, 2, 1] : List Int))], .box [.d (.int .i64 r122), .d (.int .i64 r143)]]) 2 0 (by kernel_rfl) ty31 (by kernel_rfl) (by kernel_rfl) (by kernel_rfl)) ?_
  refine oOp (.d (.int .i64 r153)) (by kernel_rfl) (by kernel_rfl) (PureV.does (p_assign (by kernel_rfl))) ?_
  refine oEnd ?_
  refine oSeq ?_
  refine oRegion rfl ?_
  refine oOp (.agg [.ref 0 (List.length ([1, 2, 1] : List Int)) 0 (List.length ([1, 2, 1] : List Int))]) (by kernel_rfl) (by kernel_rfl) (Quiet.does (k_loadAgg 1 0 (by kernel_rfl) Try.underlying26 (by kernel_rfl) ty26 (by kernel_rfl))) ?_
  refine bCall (caps := []) (v := (uc fun (r144 : Int) => (uc fun (r154 : Int) => (fun (r181 : Int) => (.tuple [.agg [.d (.int .i64 r144), .d (.int .i64 r154)], .d (.int .i64 r181)] : V))))) (H' := (uc fun (r144 : Int) => (uc fun (r154 : Int) => (fun (r181 : Int) => ([.sl 1 (List.map e_i64 ([1, 2, 1] : List Int)) true, .box [.ref 0 (List.length ([1, 2, 1] : List Int)) 0 (List.length ([1, 2, 1] : List Int))], .box [.d (.int .i64 r122), .d (.int .i64 r143)]] : List Blk))))) [] _ (distribution_Deviation_goes k ([1, 2, 1] : List Int)) (by kernel_rfl) (by kernel_rfl) rfl (by kernel_rfl) Try.func34 rfl (by kernel_rfl) (convList (vs0 := [.agg [.ref 0 (List.length ([1, 2, 1] : List Int)) 0 (List.length ([1, 2, 1] : List Int))]]) (vs := [.agg [.d (.lit (List.map e_i64 ([1, 2, 1] : List Int)))]]) (by kernel_rfl) (.cons _ _ _ _ (.agg _ _ (.cons _ _ _ _ (k_lit (enc := e_i64) (sz := 1) 0 ([1, 2, 1] : List Int) (by kernel_rfl)) .nil)) .nil)) (by kernel_rfl) (by kernel_rfl) (by kernel_rfl) (by decide) (by kernel_rfl) (by kernel_rfl) (fun _ => (by kernel_rfl)) (fun _ => (by kernel_rfl)) (fun _ => (by kernel_rfl)) (fun r => ?_)
  obtain ⟨r144, r154, r181⟩ := r
  refine bUc ?_
  refine bUc ?_
  refine oOp (.tuple [.agg [.d (.int .i64 r144), .d (.int .i64 r154)], .d (.int .i64 r181)]) (by kernel_rfl) (by kernel_rfl) (PureV.does (p_move (by kernel_rfl))) ?_
  refine oOp (.agg [.d (.int .i64 r144), .d (.int .i64 r154)]) (by kernel_rfl) (by kernel_rfl) (PureV.does (k_extract (by kernel_rfl))) ?_
  refine oOp (.d (.int .i64 r181)) (by kernel_rfl) (by kernel_rfl) (PureV.does (k_extract (by kernel_rfl))) ?_
  refine oOp (.ptr 3 0) (by kernel_rfl) (by kernel_rfl) (k_alloc (H' := [.sl 1 (List.map e_i64 ([1, 2, 1] : List Int)) true, .box [.ref 0 (List.length ([1, 2, 1] : List Int)) 0 (List.length ([1, 2, 1] : List Int))], .box [.d (.int .i64 r122), .d (.int .i64 r143)], .box [.d (.int .i64 0), .d (.int .i64 0)]]) ty31 (by kernel_rfl) (by kernel_rfl)) ?_
  refine oOp (.undef) (by kernel_rfl) (by kernel_rfl) (k_store (vs := [.d (.int .i64 r144), .d (.int .i64 r154)]) (H' := [.sl 1 (List.map e_i64 ([1, 2, 1] : List Int)) true, .box [.ref 0 (List.length ([1, 2, 1] : List Int)) 0 (List.length ([1, 2, 1] : List Int))], .box [.d (.int .i64 r122), .d (.int .i64 r143)], .box [.d (.int .i64 r144), .d (.int .i64 r154)]]) 3 0 (by kernel_rfl) ty31 (by kernel_rfl) (by kernel_rfl) (by kernel_rfl)) ?_
  refine oOp (.d (.int .i64 r181)) (by kernel_rfl) (by kernel_rfl) (PureV.does (p_assign (by kernel_rfl))) ?_
  refine oEnd ?_
  refine oSeq ?_
  refine oRegion rfl ?_
  refine oOp (.agg [.ref 0 (List.length ([1, 2, 1] : List Int)) 0 (List.length ([1, 2, 1] : List Int))]) (by kernel_rfl) (by kernel_rfl) (Quiet.does (k_loadAgg 1 0 (by kernel_rfl) Try.underlying26 (by kernel_rfl) ty26 (by kernel_rfl))) ?_
  refine bCall (caps := []) (v := (uc fun (r123 : Int) => (uc fun (r145 : Int) => (fun (r155 : Int) => (.tuple [.agg [.d (.int .i64 r123), .d (.int .i64 r145)], .d (.int .i64 r155)] : V))))) (H' := (uc fun (r123 : Int) => (uc fun (r145 : Int) => (fun (r155 : Int) => ([.sl 1 (List.map e_i64 ([1, 2, 1] : List Int)) true, .box [.ref 0 (List.length ([1, 2, 1] : List Int)) 0 (List.length ([1, 2, 1] : List Int))], .box [.d (.int .i64 r122), .d (.int .i64 r143)], .box [.d (.int .i64 r144), .d (.int .i64 r154)]] : List Blk))))) [] _ (distribution_Rank_goes k ([1, 2, 1] : List Int) 1) (by kernel_rfl) (by kernel_rfl) rfl (by kernel_rfl) Try.func23 rfl (by kernel_rfl) (convList (vs0 := [.agg [.ref 0 (List.length ([1, 2, 1] : List Int)) 0 (List.length ([1, 2, 1] : List Int))], .d (.int .i64 1)]) (vs := [.agg [.d (.lit (List.map e_i64 ([1, 2, 1] : List Int)))], .d (.int .i64 1)]) (by kernel_rfl) (.cons _ _ _ _ (.agg _ _ (.cons _ _ _ _ (k_lit (enc := e_i64) (sz := 1) 0 ([1, 2, 1] : List Int) (by kernel_rfl)) .nil)) (.cons _ _ _ _ (.same _) .nil))) (by kernel_rfl) (by kernel_rfl) (by kernel_rfl) (by decide) (by kernel_rfl) (by kernel_rfl) (fun _ => (by kernel_rfl)) (fun _ => (by kernel_rfl)) (fun _ => (by kernel_rfl)) (fun r => ?_)
  obtain ⟨r123, r145, r155⟩ := r
  refine bUc ?_
  refine bUc ?_
  refine oOp (.tuple [.agg [.d (.int .i64 r123), .d (.int .i64 r145)], .d (.int .i64 r155)]) (by kernel_rfl) (by kernel_rfl) (PureV.does (p_move (by kernel_rfl))) ?_
  refine oOp (.agg [.d (.int .i64 r123), .d (.int .i64 r145)]) (by kernel_rfl) (by kernel_rfl) (PureV.does (k_extract (by kernel_rfl))) ?_
  refine oOp (.d (.int .i64 r155)) (by kernel_rfl) (by kernel_rfl) (PureV.does (k_extract (by kernel_rfl))) ?_
  refine oOp (.ptr 4 0) (by kernel_rfl) (by kernel_rfl) (k_alloc (H' := [.sl 1 (List.map e_i64 ([1, 2, 1] : List Int)) true, .box [.ref 0 (List.length ([1, 2, 1] : List Int)) 0 (List.length ([1, 2, 1] : List Int))], .box [.d (.int .i64 r122), .d (.int .i64 r143)], .box [.d (.int .i64 r144), .d (.int .i64 r154)], .box [.d (.int .i64 0), .d (.int .i64 0)]]) ty31 (by kernel_rfl) (by kernel_rfl)) ?_
  refine oOp (.undef) (by kernel_rfl) (by kernel_rfl) (k_store (vs := [.d (.int .i64 r123), .d (.int .i64 r145)]) (H' := [.sl 1 (List.map e_i64 ([1, 2, 1] : List Int)) true, .box [.ref 0 (List.length ([1, 2, 1] : List Int)) 0 (List.length ([1, 2, 1] : List Int))], .box [.d (.int .i64 r122), .d (.int .i64 r143)], .box [.d (.int .i64 r144), .d (.int .i64 r154)], .box [.d (.int .i64 r123), .d (.int .i64 r145)]]) 4 0 (by kernel_rfl) ty31 (by kernel_rfl) (by kernel_rfl) (by kernel_rfl)) ?_
  refine oOp (.d (.int .i64 r155)) (by kernel_rfl) (by kernel_rfl) (PureV.does (p_assign (by kernel_rfl))) ?_
  refine oEnd ?_
  refine oSeq ?_
  refine oRegion rfl ?_
  refine oOp (.agg [.ref 0 (List.length ([1, 2, 1] : List Int)) 0 (List.length ([1, 2, 1] : List Int))]) (by kernel_rfl) (by kernel_rfl) (Quiet.does (k_loadAgg 1 0 (by kernel_rfl) Try.underlying26 (by kernel_rfl) ty26 (by kernel_rfl))) ?_
  refine oOp (.agg [.d (.int .i64 1), .d (.int .i64 4)]) (by kernel_rfl) (by kernel_rfl) (PureV.does (p_build bld31 (by kernel_rfl))) ?_
  refine bCall (caps := []) (v := (uc fun (r1102 : Int) => (fun (r1112 : Int) => (.tuple [.d (.int .i64 r1102), .d (.int .i64 r1112)] : V)))) (H' := (uc fun (r1102 : Int) => (fun (r1112 : Int) => ([.sl 1 (List.map e_i64 ([1, 2, 1] : List Int)) true, .box [.ref 0 (List.length ([1, 2, 1] : List Int)) 0 (List.length ([1, 2, 1] : List Int))], .box [.d (.int .i64 r122), .d (.int .i64 r143)], .box [.d (.int .i64 r144), .d (.int .i64 r154)], .box [.d (.int .i64 r123), .d (.int .i64 r145)]] : List Blk)))) [] _ (distribution_Quantile_goes k ([1, 2, 1] : List Int) 1 4) (by kernel_rfl) (by kernel_rfl) rfl (by kernel_rfl) Try.func14 rfl (by kernel_rfl) (convList (vs0 := [.agg [.ref 0 (List.length ([1, 2, 1] : List Int)) 0 (List.length ([1, 2, 1] : List Int))], .agg [.d (.int .i64 1), .d (.int .i64 4)]]) (vs := [.agg [.d (.lit (List.map e_i64 ([1, 2, 1] : List Int)))], .agg [.d (.int .i64 1), .d (.int .i64 4)]]) (by kernel_rfl) (.cons _ _ _ _ (.agg _ _ (.cons _ _ _ _ (k_lit (enc := e_i64) (sz := 1) 0 ([1, 2, 1] : List Int) (by kernel_rfl)) .nil)) (.cons _ _ _ _ (.same _) .nil))) (by kernel_rfl) (by kernel_rfl) (by kernel_rfl) (by decide) (by kernel_rfl) (by kernel_rfl) (fun _ => (by kernel_rfl)) (fun _ => (by kernel_rfl)) (fun _ => (by kernel_rfl)) (fun r => ?_)
  obtain ⟨r1102, r1112⟩ := r
  refine bUc ?_
  refine oOp (.tuple [.d (.int .i64 r1102), .d (.int .i64 r1112)]) (by kernel_rfl) (by kernel_rfl) (PureV.does (p_move (by kernel_rfl))) ?_
  refine oOp (.d (.int .i64 r1102)) (by kernel_rfl) (by kernel_rfl) (PureV.does (k_extract (by kernel_rfl))) ?_
  refine oOp (.d (.int .i64 r1112)) (by kernel_rfl) (by kernel_rfl) (PureV.does (k_extract (by kernel_rfl))) ?_
  refine oOp (.d (.int .i64 r1102)) (by kernel_rfl) (by kernel_rfl) (PureV.does (p_assign (by kernel_rfl))) ?_
  refine oOp (.d (.int .i64 r1112)) (by kernel_rfl) (by kernel_rfl) (PureV.does (p_assign (by kernel_rfl))) ?_
  refine oEnd ?_
  refine oSeq ?_
  refine oRegion rfl ?_
  refine oOp (.agg [.ref 0 (List.length ([1, 2, 1] : List Int)) 0 (List.length ([1, 2, 1] : List Int))]) (by kernel_rfl) (by kernel_rfl) (Quiet.does (k_loadAgg 1 0 (by kernel_rfl) Try.underlying26 (by kernel_rfl) ty26 (by kernel_rfl))) ?_
  refine oOp (.agg [.d (.int .i64 1), .d (.int .i64 2)]) (by kernel_rfl) (by kernel_rfl) (PureV.does (p_build bld31 (by kernel_rfl))) ?_
  refine bCall (caps := []) (v := (uc fun (r1103 : Int) => (fun (r1113 : Int) => (.tuple [.d (.int .i64 r1103), .d (.int .i64 r1113)] : V)))) (H' := (uc fun (r1103 : Int) => (fun (r1113 : Int) => ([.sl 1 (List.map e_i64 ([1, 2, 1] : List Int)) true, .box [.ref 0 (List.length ([1, 2, 1] : List Int)) 0 (List.length ([1, 2, 1] : List Int))], .box [.d (.int .i64 r122), .d (.int .i64 r143)], .box [.d (.int .i64 r144), .d (.int .i64 r154)], .box [.d (.int .i64 r123), .d (.int .i64 r145)]] : List Blk)))) [] _ (distribution_Quantile_goes k ([1, 2, 1] : List Int) 1 2) (by kernel_rfl) (by kernel_rfl) rfl (by kernel_rfl) Try.func14 rfl (by kernel_rfl) (convList (vs0 := [.agg [.ref 0 (List.length ([1, 2, 1] : List Int)) 0 (List.length ([1, 2, 1] : List Int))], .agg [.d (.int .i64 1), .d (.int .i64 2)]]) (vs := [.agg [.d (.lit (List.map e_i64 ([1, 2, 1] : List Int)))], .agg [.d (.int .i64 1), .d (.int .i64 2)]]) (by kernel_rfl) (.cons _ _ _ _ (.agg _ _ (.cons _ _ _ _ (k_lit (enc := e_i64) (sz := 1) 0 ([1, 2, 1] : List Int) (by kernel_rfl)) .nil)) (.cons _ _ _ _ (.same _) .nil))) (by kernel_rfl) (by kernel_rfl) (by kernel_rfl) (by decide) (by kernel_rfl) (by kernel_rfl) (fun _ => (by kernel_rfl)) (fun _ => (by kernel_rfl)) (fun _ => (by kernel_rfl)) (fun r => ?_)
  obtain ⟨r1103, r1113⟩ := r
  refine bUc ?_
  refine oOp (.tuple [.d (.int .i64 r1103), .d (.int .i64 r1113)]) (by kernel_rfl) (by kernel_rfl) (PureV.does (p_move (by kernel_rfl))) ?_
  refine oOp (.d (.int .i64 r1103)) (by kernel_rfl) (by kernel_rfl) (PureV.does (k_extract (by kernel_rfl))) ?_
  refine oOp (.d (.int .i64 r1113)) (by kernel_rfl) (by kernel_rfl) (PureV.does (k_extract (by kernel_rfl))) ?_
  refine oOp (.d (.int .i64 r1103)) (by kernel_rfl) (by kernel_rfl) (PureV.does (p_assign (by kernel_rfl))) ?_
  refine oOp (.d (.int .i64 r1113)) (by kernel_rfl) (by kernel_rfl) (PureV.does (p_assign (by kernel_rfl))) ?_
  refine oEnd ?_
  refine oSeq ?_
  refine oRegion rfl ?_
  refine oOp (.agg [.d (.int .i64 1), .d (.int .i64 2)]) (by kernel_rfl) (by kernel_rfl) (PureV.does (p_build bld31 (by kernel_rfl))) ?_
  refine oOp (.ptr 5 0) (by kernel_rfl) (by kernel_rfl) (k_alloc (H' := [.sl 1 (List.map e_i64 ([1, 2, 1] : List Int)) true, .box [.ref 0 (List.length ([1, 2, 1] : List Int)) 0 (List.length ([1, 2, 1] : List Int))], .box [.d (.int .i64 r122), .d (.int .i64 r143)], .box [.d (.int .i64 r144), .d (.int .i64 r154)], .box [.d (.int .i64 r123), .d (.int .i64 r145)], .box [.d (.int .i64 0), .d (.int .i64 0)]]) ty31 (by kernel_rfl) (by kernel_rfl)) ?_
  refine oOp (.undef) (by kernel_rfl) (by kernel_rfl) (k_store (vs := [.d (.int .i64 1), .d (.int .i64 2)]) (H' := [.sl 1 (List.map e_i64 ([1, 2, 1] : List Int)) true, .box [.ref 0 (List.length ([1, 2, 1] : List Int)) 0 (List.length ([1, 2, 1] : List Int))], .box [.d (.int .i64 r122), .d (.int .i64 r143)], .box [.d (.int .i64 r144), .d (.int .i64 r154)], .box [.d (.int .i64 r123), .d (.int .i64 r145)], .box [.d (.int .i64 1), .d (.int .i64 2)]]) 5 0 (by kernel_rfl) ty31 (by kernel_rfl) (by kernel_rfl) (by kernel_rfl)) ?_
  refine oEnd ?_
  refine oSeq ?_
  refine oRegion rfl ?_
  refine oOp (.d (.int .i64 r153)) (by kernel_rfl) (by kernel_rfl) (PureV.does (p_move (by kernel_rfl))) ?_
  refine oOp (.d (.bool (r153 == 0))) (by kernel_rfl) (by kernel_rfl) (PureV.does (p_int (k := .i64) (p := r153) (q := 0) (by kernel_rfl) (by kernel_rfl) (by kernel_rfl))) ?_
  refine oOp (.d (.bool (r153 == 0))) (by kernel_rfl) (by kernel_rfl) (PureV.does (p_move (by kernel_rfl))) ?_
  refine bMeetF (H' := [.box [.d (.int .i64 r122), .d (.int .i64 r143)], .box [.d (.int .i64 r144), .d (.int .i64 r154)], .box [.d (.int .i64 r123), .d (.int .i64 r145)], .box [.d (.int .i64 1), .d (.int .i64 2)]]) 3 rfl ((fun (x9 : Bool) => [(2, .ptr 0 0), (4, .ptr 1 0), (6, .ptr 2 0), (7, .d (.int .i64 r155)), (8, .d (.int .i64 r1102)), (9, .d (.int .i64 r1112)), (10, .d (.int .i64 r1103)), (11, .d (.int .i64 r1113)), (12, .ptr 3 0), (48, .d (.bool x9))])) (fun x9 => ?_) (fun F hj1 => ?_)
  · refine oView (T' := [(2, .ptr 0 0), (4, .ptr 1 0), (6, .ptr 2 0), (7, .d (.int .i64 r155)), (8, .d (.int .i64 r1102)), (9, .d (.int .i64 r1112)), (10, .d (.int .i64 r1103)), (11, .d (.int .i64 r1113)), (12, .ptr 3 0), (48, .d (.bool x9))]) (H' := [.box [.d (.int .i64 r122), .d (.int .i64 r143)], .box [.d (.int .i64 r144), .d (.int .i64 r154)], .box [.d (.int .i64 r123), .d (.int .i64 r145)], .box [.d (.int .i64 1), .d (.int .i64 2)]]) (by kernel_rfl) (by kernel_rfl) ?_
    refine oOp (.d (.bool x9)) (by kernel_rfl) (by kernel_rfl) (PureV.does (p_move (by kernel_rfl))) ?_
    refine bMeetF (H' := [.box [.d (.int .i64 r122), .d (.int .i64 r143)], .box [.d (.int .i64 r144), .d (.int .i64 r154)], .box [.d (.int .i64 r123), .d (.int .i64 r145)], .box [.d (.int .i64 1), .d (.int .i64 2)]]) 3 rfl ((fun (x10 : Bool) => [(2, .ptr 0 0), (4, .ptr 1 0), (6, .ptr 2 0), (8, .d (.int .i64 r1102)), (9, .d (.int .i64 r1112)), (10, .d (.int .i64 r1103)), (11, .d (.int .i64 r1113)), (12, .ptr 3 0), (52, .d (.bool x10))])) (fun x10 => ?_) (fun F hj2 => ?_)
    · refine oView (T' := [(2, .ptr 0 0), (4, .ptr 1 0), (6, .ptr 2 0), (8, .d (.int .i64 r1102)), (9, .d (.int .i64 r1112)), (10, .d (.int .i64 r1103)), (11, .d (.int .i64 r1113)), (12, .ptr 3 0), (52, .d (.bool x10))]) (H' := [.box [.d (.int .i64 r122), .d (.int .i64 r143)], .box [.d (.int .i64 r144), .d (.int .i64 r154)], .box [.d (.int .i64 r123), .d (.int .i64 r145)], .box [.d (.int .i64 1), .d (.int .i64 2)]]) (by kernel_rfl) (by kernel_rfl) ?_
      refine oOp (.d (.bool x10)) (by kernel_rfl) (by kernel_rfl) (PureV.does (p_move (by kernel_rfl))) ?_
      refine bMeetF (H' := [.box [.d (.int .i64 r122), .d (.int .i64 r143)], .box [.d (.int .i64 r144), .d (.int .i64 r154)], .box [.d (.int .i64 r123), .d (.int .i64 r145)], .box [.d (.int .i64 1), .d (.int .i64 2)]]) 3 rfl ((fun (x11 : Bool) => [(2, .ptr 0 0), (4, .ptr 1 0), (6, .ptr 2 0), (8, .d (.int .i64 r1102)), (10, .d (.int .i64 r1103)), (11, .d (.int .i64 r1113)), (12, .ptr 3 0), (56, .d (.bool x11))])) (fun x11 => ?_) (fun F hj3 => ?_)
      · refine oView (T' := [(2, .ptr 0 0), (4, .ptr 1 0), (6, .ptr 2 0), (8, .d (.int .i64 r1102)), (10, .d (.int .i64 r1103)), (11, .d (.int .i64 r1113)), (12, .ptr 3 0), (56, .d (.bool x11))]) (H' := [.box [.d (.int .i64 r122), .d (.int .i64 r143)], .box [.d (.int .i64 r144), .d (.int .i64 r154)], .box [.d (.int .i64 r123), .d (.int .i64 r145)], .box [.d (.int .i64 1), .d (.int .i64 2)]]) (by kernel_rfl) (by kernel_rfl) ?_
        refine oOp (.d (.bool x11)) (by kernel_rfl) (by kernel_rfl) (PureV.does (p_move (by kernel_rfl))) ?_
        refine bMeetF (H' := [.box [.d (.int .i64 r122), .d (.int .i64 r143)], .box [.d (.int .i64 r144), .d (.int .i64 r154)], .box [.d (.int .i64 r123), .d (.int .i64 r145)], .box [.d (.int .i64 1), .d (.int .i64 2)]]) 3 rfl ((fun (x12 : Bool) => [(2, .ptr 0 0), (4, .ptr 1 0), (6, .ptr 2 0), (8, .d (.int .i64 r1102)), (10, .d (.int .i64 r1103)), (12, .ptr 3 0), (60, .d (.bool x12))])) (fun x12 => ?_) (fun F hj4 => ?_)
        · refine oView (T' := [(2, .ptr 0 0), (4, .ptr 1 0), (6, .ptr 2 0), (8, .d (.int .i64 r1102)), (10, .d (.int .i64 r1103)), (12, .ptr 3 0), (60, .d (.bool x12))]) (H' := [.box [.d (.int .i64 r122), .d (.int .i64 r143)], .box [.d (.int .i64 r144), .d (.int .i64 r154)], .box [.d (.int .i64 r123), .d (.int .i64 r145)], .box [.d (.int .i64 1), .d (.int .i64 2)]]) (by kernel_rfl) (by kernel_rfl) ?_
          refine oOp (.d (.bool x12)) (by kernel_rfl) (by kernel_rfl) (PureV.does (p_move (by kernel_rfl))) ?_
          refine bMeetF (H' := [.box [.d (.int .i64 r144), .d (.int .i64 r154)], .box [.d (.int .i64 r123), .d (.int .i64 r145)], .box [.d (.int .i64 1), .d (.int .i64 2)]]) 4 rfl ((fun (x13 : Bool) => [(4, .ptr 0 0), (6, .ptr 1 0), (8, .d (.int .i64 r1102)), (10, .d (.int .i64 r1103)), (12, .ptr 2 0), (65, .d (.bool x13))])) (fun x13 => ?_) (fun F hj5 => ?_)
          · refine oView (T' := [(4, .ptr 0 0), (6, .ptr 1 0), (8, .d (.int .i64 r1102)), (10, .d (.int .i64 r1103)), (12, .ptr 2 0), (65, .d (.bool x13))]) (H' := [.box [.d (.int .i64 r144), .d (.int .i64 r154)], .box [.d (.int .i64 r123), .d (.int .i64 r145)], .box [.d (.int .i64 1), .d (.int .i64 2)]]) (by kernel_rfl) (by kernel_rfl) ?_
            refine oOp (.d (.bool x13)) (by kernel_rfl) (by kernel_rfl) (PureV.does (p_move (by kernel_rfl))) ?_
            refine bMeetF (H' := [.box [.d (.int .i64 r123), .d (.int .i64 r145)], .box [.d (.int .i64 1), .d (.int .i64 2)]]) 4 rfl ((fun (x14 : Bool) => [(6, .ptr 0 0), (8, .d (.int .i64 r1102)), (10, .d (.int .i64 r1103)), (12, .ptr 1 0), (70, .d (.bool x14))])) (fun x14 => ?_) (fun F hj6 => ?_)
            · refine oView (T' := [(6, .ptr 0 0), (8, .d (.int .i64 r1102)), (10, .d (.int .i64 r1103)), (12, .ptr 1 0), (70, .d (.bool x14))]) (H' := [.box [.d (.int .i64 r123), .d (.int .i64 r145)], .box [.d (.int .i64 1), .d (.int .i64 2)]]) (by kernel_rfl) (by kernel_rfl) ?_
              refine oOp (.d (.bool x14)) (by kernel_rfl) (by kernel_rfl) (PureV.does (p_move (by kernel_rfl))) ?_
              refine bMeetF (H' := []) 4 rfl ((fun (x15 : Bool) => [(8, .d (.int .i64 r1102)), (10, .d (.int .i64 r1103)), (75, .d (.bool x15))])) (fun x15 => ?_) (fun F hj7 => ?_)
              · refine oView (T' := [(8, .d (.int .i64 r1102)), (10, .d (.int .i64 r1103)), (75, .d (.bool x15))]) (H' := []) (by kernel_rfl) (by kernel_rfl) ?_
                refine oOp (.d (.bool x15)) (by kernel_rfl) (by kernel_rfl) (PureV.does (p_move (by kernel_rfl))) ?_
                refine bMeetF (H' := []) 3 rfl ((fun (x16 : Bool) => [(10, .d (.int .i64 r1103)), (79, .d (.bool x16))])) (fun x16 => ?_) (fun F hj8 => ?_)
                · refine oView (T' := [(10, .d (.int .i64 r1103)), (79, .d (.bool x16))]) (H' := []) (by kernel_rfl) (by kernel_rfl) ?_
                  refine oOp (.d (.bool x16)) (by kernel_rfl) (by kernel_rfl) (PureV.does (p_move (by kernel_rfl))) ?_
                  refine bMeetF (H' := []) 3 rfl ((fun (x17 : Bool) => [(83, .d (.bool x17))])) (fun x17 => ?_) (fun F hj9 => ?_)
                  · refine oView (T' := [(83, .d (.bool x17))]) (H' := []) (by kernel_rfl) (by kernel_rfl) ?_
                    refine oOp (.d (.bool x17)) (by kernel_rfl) (by kernel_rfl) (PureV.does (p_assign (by kernel_rfl))) ?_
                    refine oEnd ?_
                    exact oRet (r0 := x17) (rv := .d (.bool x17)) (B := []) (vs := [.d (.bool x17)]) (σ := []) (by kernel_rfl) Try.func10 rfl (.cons _ _ _ _ (.tmp 0 _ (by kernel_rfl)) .nil) (by kernel_rfl) (by kernel_rfl) (by kernel_rfl) (by kernel_rfl) (by decide) (by kernel_rfl) (by kernel_rfl)
                  · refine bPickF 80 (fun c => F (c && (r1103 == 1))) (by kernel_rfl) (fun hc => ?_) (fun hc => ?_)
                    · refine oOp (.d (.int .i64 r1103)) (by kernel_rfl) (by kernel_rfl) (PureV.does (p_move (by kernel_rfl))) ?_
                      refine oOp (.d (.bool (r1103 == 1))) (by kernel_rfl) (by kernel_rfl) (PureV.does (p_int (k := .i64) (p := r1103) (q := 1) (by kernel_rfl) (by kernel_rfl) (by kernel_rfl))) ?_
                      refine oOp (.d (.bool (r1103 == 1))) (by kernel_rfl) (by kernel_rfl) (PureV.does (p_pick (b := true) (by kernel_rfl) (by kernel_rfl))) ?_
                      refine oHead [83] [] (T' := [(83, .d (.bool (r1103 == 1)))]) (H' := []) (by kernel_rfl) (by kernel_rfl) (by kernel_rfl) (by kernel_rfl) (by decide) (by kernel_rfl) (by kernel_rfl) ?_
                      exact hj9 (r1103 == 1)
                    · refine oNot (by kernel_rfl) (by kernel_rfl) ?_
                      refine oNot (by kernel_rfl) (by kernel_rfl) ?_
                      refine oOp (.d (.bool false)) (by kernel_rfl) (by kernel_rfl) (PureV.does (p_pick (b := false) (by kernel_rfl) (by kernel_rfl))) ?_
                      refine oHead [83] [] (T' := [(83, .d (.bool false))]) (H' := []) (by kernel_rfl) (by kernel_rfl) (by kernel_rfl) (by kernel_rfl) (by decide) (by kernel_rfl) (by kernel_rfl) ?_
                      exact hj9 false
                · refine bPickF 76 (fun c => F (c && (r1102 == 0))) (by kernel_rfl) (fun hc => ?_) (fun hc => ?_)
                  · refine oOp (.d (.int .i64 r1102)) (by kernel_rfl) (by kernel_rfl) (PureV.does (p_move (by kernel_rfl))) ?_
                    refine oOp (.d (.bool (r1102 == 0))) (by kernel_rfl) (by kernel_rfl) (PureV.does (p_int (k := .i64) (p := r1102) (q := 0) (by kernel_rfl) (by kernel_rfl) (by kernel_rfl))) ?_
                    refine oOp (.d (.bool (r1102 == 0))) (by kernel_rfl) (by kernel_rfl) (PureV.does (p_pick (b := true) (by kernel_rfl) (by kernel_rfl))) ?_
                    refine oHead [10, 79] [] (T' := [(10, .d (.int .i64 r1103)), (79, .d (.bool (r1102 == 0)))]) (H' := []) (by kernel_rfl) (by kernel_rfl) (by kernel_rfl) (by kernel_rfl) (by decide) (by kernel_rfl) (by kernel_rfl) ?_
                    exact hj8 (r1102 == 0)
                  · refine oNot (by kernel_rfl) (by kernel_rfl) ?_
                    refine oNot (by kernel_rfl) (by kernel_rfl) ?_
                    refine oOp (.d (.bool false)) (by kernel_rfl) (by kernel_rfl) (PureV.does (p_pick (b := false) (by kernel_rfl) (by kernel_rfl))) ?_
                    refine oHead [10, 79] [] (T' := [(10, .d (.int .i64 r1103)), (79, .d (.bool false))]) (H' := []) (by kernel_rfl) (by kernel_rfl) (by kernel_rfl) (by kernel_rfl) (by decide) (by kernel_rfl) (by kernel_rfl) ?_
                    exact hj8 false
              · refine bPickF 71 (fun c => F (c && ((r123 == 1) && ((r145 == 2) && true)))) (by kernel_rfl) (fun hc => ?_) (fun hc => ?_)
                · refine oOp (.agg [.d (.int .i64 r123), .d (.int .i64 r145)]) (by kernel_rfl) (by kernel_rfl) (Quiet.does (k_loadAgg 0 0 (by kernel_rfl) Try.underlying31 (by kernel_rfl) ty31 (by kernel_rfl))) ?_
                  refine oOp (.agg [.d (.int .i64 1), .d (.int .i64 2)]) (by kernel_rfl) (by kernel_rfl) (Quiet.does (k_loadAgg 1 0 (by kernel_rfl) Try.underlying31 (by kernel_rfl) ty31 (by kernel_rfl))) ?_
                  refine oOp (.d (.bool ((r123 == 1) && ((r145 == 2) && true)))) (by kernel_rfl) (by kernel_rfl) (PureV.does (k_eqAgg (by kernel_rfl) (by kernel_rfl) Try.eqGuardType31 (EqV.struct 1 31 [.d (.int .i64 r123), .d (.int .i64 r145)] [.d (.int .i64 1), .d (.int .i64 2)] _ ((r123 == 1) && ((r145 == 2) && true)) Try.underlying31 Try.stoodInHeld31 (EqF.one 1 1 _ _ _ _ _ _ _ (r123 == 1) ((r145 == 2) && true) (by kernel_rfl) Try.underlying3 (by kernel_rfl) (by kernel_rfl) (by kernel_rfl) (by kernel_rfl) (EqV.int 3 .i64 .i64 r123 1 Try.underlying3) (EqF.one 1 1 _ _ _ _ _ _ _ (r145 == 2) true (by kernel_rfl) Try.underlying3 (by kernel_rfl) (by kernel_rfl) (by kernel_rfl) (by kernel_rfl) (EqV.int 3 .i64 .i64 r145 2 Try.underlying3) (EqF.nil 1 _ _)))) (by kernel_rfl))) ?_
                  refine oOp (.d (.bool ((r123 == 1) && ((r145 == 2) && true)))) (by kernel_rfl) (by kernel_rfl) (PureV.does (p_pick (b := true) (by kernel_rfl) (by kernel_rfl))) ?_
                  refine oHead [8, 10, 75] [] (T' := [(8, .d (.int .i64 r1102)), (10, .d (.int .i64 r1103)), (75, .d (.bool ((r123 == 1) && ((r145 == 2) && true))))]) (H' := []) (by kernel_rfl) (by kernel_rfl) (by kernel_rfl) (by kernel_rfl) (by decide) (by kernel_rfl) (by kernel_rfl) ?_
                  exact hj7 ((r123 == 1) && ((r145 == 2) && true))
                · refine oNot (by kernel_rfl) (by kernel_rfl) ?_
                  refine oNot (by kernel_rfl) (by kernel_rfl) ?_
                  refine oNot (by kernel_rfl) (by kernel_rfl) ?_
                  refine oOp (.d (.bool false)) (by kernel_rfl) (by kernel_rfl) (PureV.does (p_pick (b := false) (by kernel_rfl) (by kernel_rfl))) ?_
                  refine oHead [8, 10, 75] [] (T' := [(8, .d (.int .i64 r1102)), (10, .d (.int .i64 r1103)), (75, .d (.bool false))]) (H' := []) (by kernel_rfl) (by kernel_rfl) (by kernel_rfl) (by kernel_rfl) (by decide) (by kernel_rfl) (by kernel_rfl) ?_
                  exact hj7 false
            · refine bPickF 66 (fun c => F (c && ((r144 == 1) && ((r154 == 2) && true)))) (by kernel_rfl) (fun hc => ?_) (fun hc => ?_)
              · refine oOp (.agg [.d (.int .i64 r144), .d (.int .i64 r154)]) (by kernel_rfl) (by kernel_rfl) (Quiet.does (k_loadAgg 0 0 (by kernel_rfl) Try.underlying31 (by kernel_rfl) ty31 (by kernel_rfl))) ?_
                refine oOp (.agg [.d (.int .i64 1), .d (.int .i64 2)]) (by kernel_rfl) (by kernel_rfl) (Quiet.does (k_loadAgg 2 0 (by kernel_rfl) Try.underlying31 (by kernel_rfl) ty31 (by kernel_rfl))) ?_
                refine oOp (.d (.bool ((r144 == 1) && ((r154 == 2) && true)))) (by kernel_rfl) (by kernel_rfl) (PureV.does (k_eqAgg (by kernel_rfl) (by kernel_rfl) Try.eqGuardType31 (EqV.struct 1 31 [.d (.int .i64 r144), .d (.int .i64 r154)] [.d (.int .i64 1), .d (.int .i64 2)] _ ((r144 == 1) && ((r154 == 2) && true)) Try.underlying31 Try.stoodInHeld31 (EqF.one 1 1 _ _ _ _ _ _ _ (r144 == 1) ((r154 == 2) && true) (by kernel_rfl) Try.underlying3 (by kernel_rfl) (by kernel_rfl) (by kernel_rfl) (by kernel_rfl) (EqV.int 3 .i64 .i64 r144 1 Try.underlying3) (EqF.one 1 1 _ _ _ _ _ _ _ (r154 == 2) true (by kernel_rfl) Try.underlying3 (by kernel_rfl) (by kernel_rfl) (by kernel_rfl) (by kernel_rfl) (EqV.int 3 .i64 .i64 r154 2 Try.underlying3) (EqF.nil 1 _ _)))) (by kernel_rfl))) ?_
                refine oOp (.d (.bool ((r144 == 1) && ((r154 == 2) && true)))) (by kernel_rfl) (by kernel_rfl) (PureV.does (p_pick (b := true) (by kernel_rfl) (by kernel_rfl))) ?_
                refine oHead [6, 8, 10, 12, 70] [1, 2] (T' := [(6, .ptr 0 0), (8, .d (.int .i64 r1102)), (10, .d (.int .i64 r1103)), (12, .ptr 1 0), (70, .d (.bool ((r144 == 1) && ((r154 == 2) && true))))]) (H' := [.box [.d (.int .i64 r123), .d (.int .i64 r145)], .box [.d (.int .i64 1), .d (.int .i64 2)]]) (by kernel_rfl) (by kernel_rfl) (by kernel_rfl) (by kernel_rfl) (by decide) (by kernel_rfl) (by kernel_rfl) ?_
                exact hj6 ((r144 == 1) && ((r154 == 2) && true))
              · refine oNot (by kernel_rfl) (by kernel_rfl) ?_
                refine oNot (by kernel_rfl) (by kernel_rfl) ?_
                refine oNot (by kernel_rfl) (by kernel_rfl) ?_
                refine oOp (.d (.bool false)) (by kernel_rfl) (by kernel_rfl) (PureV.does (p_pick (b := false) (by kernel_rfl) (by kernel_rfl))) ?_
                refine oHead [6, 8, 10, 12, 70] [1, 2] (T' := [(6, .ptr 0 0), (8, .d (.int .i64 r1102)), (10, .d (.int .i64 r1103)), (12, .ptr 1 0), (70, .d (.bool false))]) (H' := [.box [.d (.int .i64 r123), .d (.int .i64 r145)], .box [.d (.int .i64 1), .d (.int .i64 2)]]) (by kernel_rfl) (by kernel_rfl) (by kernel_rfl) (by kernel_rfl) (by decide) (by kernel_rfl) (by kernel_rfl) ?_
                exact hj6 false
          · refine bPickF 61 (fun c => F (c && ((r122 == 1) && ((r143 == 1) && true)))) (by kernel_rfl) (fun hc => ?_) (fun hc => ?_)
            · refine oOp (.agg [.d (.int .i64 r122), .d (.int .i64 r143)]) (by kernel_rfl) (by kernel_rfl) (Quiet.does (k_loadAgg 0 0 (by kernel_rfl) Try.underlying31 (by kernel_rfl) ty31 (by kernel_rfl))) ?_
              refine oOp (.agg [.d (.int .i64 1), .d (.int .i64 1)]) (by kernel_rfl) (by kernel_rfl) (PureV.does (p_build bld31 (by kernel_rfl))) ?_
              refine oOp (.d (.bool ((r122 == 1) && ((r143 == 1) && true)))) (by kernel_rfl) (by kernel_rfl) (PureV.does (k_eqAgg (by kernel_rfl) (by kernel_rfl) Try.eqGuardType31 (EqV.struct 1 31 [.d (.int .i64 r122), .d (.int .i64 r143)] [.d (.int .i64 1), .d (.int .i64 1)] _ ((r122 == 1) && ((r143 == 1) && true)) Try.underlying31 Try.stoodInHeld31 (EqF.one 1 1 _ _ _ _ _ _ _ (r122 == 1) ((r143 == 1) && true) (by kernel_rfl) Try.underlying3 (by kernel_rfl) (by kernel_rfl) (by kernel_rfl) (by kernel_rfl) (EqV.int 3 .i64 .i64 r122 1 Try.underlying3) (EqF.one 1 1 _ _ _ _ _ _ _ (r143 == 1) true (by kernel_rfl) Try.underlying3 (by kernel_rfl) (by kernel_rfl) (by kernel_rfl) (by kernel_rfl) (EqV.int 3 .i64 .i64 r143 1 Try.underlying3) (EqF.nil 1 _ _)))) (by kernel_rfl))) ?_
              refine oOp (.d (.bool ((r122 == 1) && ((r143 == 1) && true)))) (by kernel_rfl) (by kernel_rfl) (PureV.does (p_pick (b := true) (by kernel_rfl) (by kernel_rfl))) ?_
              refine oHead [4, 6, 8, 10, 12, 65] [1, 2, 3] (T' := [(4, .ptr 0 0), (6, .ptr 1 0), (8, .d (.int .i64 r1102)), (10, .d (.int .i64 r1103)), (12, .ptr 2 0), (65, .d (.bool ((r122 == 1) && ((r143 == 1) && true))))]) (H' := [.box [.d (.int .i64 r144), .d (.int .i64 r154)], .box [.d (.int .i64 r123), .d (.int .i64 r145)], .box [.d (.int .i64 1), .d (.int .i64 2)]]) (by kernel_rfl) (by kernel_rfl) (by kernel_rfl) (by kernel_rfl) (by decide) (by kernel_rfl) (by kernel_rfl) ?_
              exact hj5 ((r122 == 1) && ((r143 == 1) && true))
            · refine oNot (by kernel_rfl) (by kernel_rfl) ?_
              refine oNot (by kernel_rfl) (by kernel_rfl) ?_
              refine oNot (by kernel_rfl) (by kernel_rfl) ?_
              refine oOp (.d (.bool false)) (by kernel_rfl) (by kernel_rfl) (PureV.does (p_pick (b := false) (by kernel_rfl) (by kernel_rfl))) ?_
              refine oHead [4, 6, 8, 10, 12, 65] [1, 2, 3] (T' := [(4, .ptr 0 0), (6, .ptr 1 0), (8, .d (.int .i64 r1102)), (10, .d (.int .i64 r1103)), (12, .ptr 2 0), (65, .d (.bool false))]) (H' := [.box [.d (.int .i64 r144), .d (.int .i64 r154)], .box [.d (.int .i64 r123), .d (.int .i64 r145)], .box [.d (.int .i64 1), .d (.int .i64 2)]]) (by kernel_rfl) (by kernel_rfl) (by kernel_rfl) (by kernel_rfl) (by decide) (by kernel_rfl) (by kernel_rfl) ?_
              exact hj5 false
        · refine bPickF 57 (fun c => F (c && (r1113 == 0))) (by kernel_rfl) (fun hc => ?_) (fun hc => ?_)
          · refine oOp (.d (.int .i64 r1113)) (by kernel_rfl) (by kernel_rfl) (PureV.does (p_move (by kernel_rfl))) ?_
            refine oOp (.d (.bool (r1113 == 0))) (by kernel_rfl) (by kernel_rfl) (PureV.does (p_int (k := .i64) (p := r1113) (q := 0) (by kernel_rfl) (by kernel_rfl) (by kernel_rfl))) ?_
            refine oOp (.d (.bool (r1113 == 0))) (by kernel_rfl) (by kernel_rfl) (PureV.does (p_pick (b := true) (by kernel_rfl) (by kernel_rfl))) ?_
            refine oHead [2, 4, 6, 8, 10, 12, 60] [0, 1, 2, 3] (T' := [(2, .ptr 0 0), (4, .ptr 1 0), (6, .ptr 2 0), (8, .d (.int .i64 r1102)), (10, .d (.int .i64 r1103)), (12, .ptr 3 0), (60, .d (.bool (r1113 == 0)))]) (H' := [.box [.d (.int .i64 r122), .d (.int .i64 r143)], .box [.d (.int .i64 r144), .d (.int .i64 r154)], .box [.d (.int .i64 r123), .d (.int .i64 r145)], .box [.d (.int .i64 1), .d (.int .i64 2)]]) (by kernel_rfl) (by kernel_rfl) (by kernel_rfl) (by kernel_rfl) (by decide) (by kernel_rfl) (by kernel_rfl) ?_
            exact hj4 (r1113 == 0)
          · refine oNot (by kernel_rfl) (by kernel_rfl) ?_
            refine oNot (by kernel_rfl) (by kernel_rfl) ?_
            refine oOp (.d (.bool false)) (by kernel_rfl) (by kernel_rfl) (PureV.does (p_pick (b := false) (by kernel_rfl) (by kernel_rfl))) ?_
            refine oHead [2, 4, 6, 8, 10, 12, 60] [0, 1, 2, 3] (T' := [(2, .ptr 0 0), (4, .ptr 1 0), (6, .ptr 2 0), (8, .d (.int .i64 r1102)), (10, .d (.int .i64 r1103)), (12, .ptr 3 0), (60, .d (.bool false))]) (H' := [.box [.d (.int .i64 r122), .d (.int .i64 r143)], .box [.d (.int .i64 r144), .d (.int .i64 r154)], .box [.d (.int .i64 r123), .d (.int .i64 r145)], .box [.d (.int .i64 1), .d (.int .i64 2)]]) (by kernel_rfl) (by kernel_rfl) (by kernel_rfl) (by kernel_rfl) (by decide) (by kernel_rfl) (by kernel_rfl) ?_
            exact hj4 false
      · refine bPickF 53 (fun c => F (c && (r1112 == 0))) (by kernel_rfl) (fun hc => ?_) (fun hc => ?_)
        · refine oOp (.d (.int .i64 r1112)) (by kernel_rfl) (by kernel_rfl) (PureV.does (p_move (by kernel_rfl))) ?_
          refine oOp (.d (.bool (r1112 == 0))) (by kernel_rfl) (by kernel_rfl) (PureV.does (p_int (k := .i64) (p := r1112) (q := 0) (by kernel_rfl) (by kernel_rfl) (by kernel_rfl))) ?_
          refine oOp (.d (.bool (r1112 == 0))) (by kernel_rfl) (by kernel_rfl) (PureV.does (p_pick (b := true) (by kernel_rfl) (by kernel_rfl))) ?_
          refine oHead [2, 4, 6, 8, 10, 11, 12, 56] [0, 1, 2, 3] (T' := [(2, .ptr 0 0), (4, .ptr 1 0), (6, .ptr 2 0), (8, .d (.int .i64 r1102)), (10, .d (.int .i64 r1103)), (11, .d (.int .i64 r1113)), (12, .ptr 3 0), (56, .d (.bool (r1112 == 0)))]) (H' := [.box [.d (.int .i64 r122), .d (.int .i64 r143)], .box [.d (.int .i64 r144), .d (.int .i64 r154)], .box [.d (.int .i64 r123), .d (.int .i64 r145)], .box [.d (.int .i64 1), .d (.int .i64 2)]]) (by kernel_rfl) (by kernel_rfl) (by kernel_rfl) (by kernel_rfl) (by decide) (by kernel_rfl) (by kernel_rfl) ?_
          exact hj3 (r1112 == 0)
        · refine oNot (by kernel_rfl) (by kernel_rfl) ?_
          refine oNot (by kernel_rfl) (by kernel_rfl) ?_
          refine oOp (.d (.bool false)) (by kernel_rfl) (by kernel_rfl) (PureV.does (p_pick (b := false) (by kernel_rfl) (by kernel_rfl))) ?_
          refine oHead [2, 4, 6, 8, 10, 11, 12, 56] [0, 1, 2, 3] (T' := [(2, .ptr 0 0), (4, .ptr 1 0), (6, .ptr 2 0), (8, .d (.int .i64 r1102)), (10, .d (.int .i64 r1103)), (11, .d (.int .i64 r1113)), (12, .ptr 3 0), (56, .d (.bool false))]) (H' := [.box [.d (.int .i64 r122), .d (.int .i64 r143)], .box [.d (.int .i64 r144), .d (.int .i64 r154)], .box [.d (.int .i64 r123), .d (.int .i64 r145)], .box [.d (.int .i64 1), .d (.int .i64 2)]]) (by kernel_rfl) (by kernel_rfl) (by kernel_rfl) (by kernel_rfl) (by decide) (by kernel_rfl) (by kernel_rfl) ?_
          exact hj3 false
    · refine bPickF 49 (fun c => F (c && (r155 == 0))) (by kernel_rfl) (fun hc => ?_) (fun hc => ?_)
      · refine oOp (.d (.int .i64 r155)) (by kernel_rfl) (by kernel_rfl) (PureV.does (p_move (by kernel_rfl))) ?_
        refine oOp (.d (.bool (r155 == 0))) (by kernel_rfl) (by kernel_rfl) (PureV.does (p_int (k := .i64) (p := r155) (q := 0) (by kernel_rfl) (by kernel_rfl) (by kernel_rfl))) ?_
        refine oOp (.d (.bool (r155 == 0))) (by kernel_rfl) (by kernel_rfl) (PureV.does (p_pick (b := true) (by kernel_rfl) (by kernel_rfl))) ?_
        refine oHead [2, 4, 6, 8, 9, 10, 11, 12, 52] [0, 1, 2, 3] (T' := [(2, .ptr 0 0), (4, .ptr 1 0), (6, .ptr 2 0), (8, .d (.int .i64 r1102)), (9, .d (.int .i64 r1112)), (10, .d (.int .i64 r1103)), (11, .d (.int .i64 r1113)), (12, .ptr 3 0), (52, .d (.bool (r155 == 0)))]) (H' := [.box [.d (.int .i64 r122), .d (.int .i64 r143)], .box [.d (.int .i64 r144), .d (.int .i64 r154)], .box [.d (.int .i64 r123), .d (.int .i64 r145)], .box [.d (.int .i64 1), .d (.int .i64 2)]]) (by kernel_rfl) (by kernel_rfl) (by kernel_rfl) (by kernel_rfl) (by decide) (by kernel_rfl) (by kernel_rfl) ?_
        exact hj2 (r155 == 0)
      · refine oNot (by kernel_rfl) (by kernel_rfl) ?_
        refine oNot (by kernel_rfl) (by kernel_rfl) ?_
        refine oOp (.d (.bool false)) (by kernel_rfl) (by kernel_rfl) (PureV.does (p_pick (b := false) (by kernel_rfl) (by kernel_rfl))) ?_
        refine oHead [2, 4, 6, 8, 9, 10, 11, 12, 52] [0, 1, 2, 3] (T' := [(2, .ptr 0 0), (4, .ptr 1 0), (6, .ptr 2 0), (8, .d (.int .i64 r1102)), (9, .d (.int .i64 r1112)), (10, .d (.int .i64 r1103)), (11, .d (.int .i64 r1113)), (12, .ptr 3 0), (52, .d (.bool false))]) (H' := [.box [.d (.int .i64 r122), .d (.int .i64 r143)], .box [.d (.int .i64 r144), .d (.int .i64 r154)], .box [.d (.int .i64 r123), .d (.int .i64 r145)], .box [.d (.int .i64 1), .d (.int .i64 2)]]) (by kernel_rfl) (by kernel_rfl) (by kernel_rfl) (by kernel_rfl) (by decide) (by kernel_rfl) (by kernel_rfl) ?_
        exact hj2 false
  · refine bPickF 45 (fun c => F (c && (r181 == 0))) (by kernel_rfl) (fun hc => ?_) (fun hc => ?_)
    · refine oOp (.d (.int .i64 r181)) (by kernel_rfl) (by kernel_rfl) (PureV.does (p_move (by kernel_rfl))) ?_
      refine oOp (.d (.bool (r181 == 0))) (by kernel_rfl) (by kernel_rfl) (PureV.does (p_int (k := .i64) (p := r181) (q := 0) (by kernel_rfl) (by kernel_rfl) (by kernel_rfl))) ?_
      refine oOp (.d (.bool (r181 == 0))) (by kernel_rfl) (by kernel_rfl) (PureV.does (p_pick (b := true) (by kernel_rfl) (by kernel_rfl))) ?_
      refine oHead [2, 4, 6, 7, 8, 9, 10, 11, 12, 48] [2, 3, 4, 5] (T' := [(2, .ptr 0 0), (4, .ptr 1 0), (6, .ptr 2 0), (7, .d (.int .i64 r155)), (8, .d (.int .i64 r1102)), (9, .d (.int .i64 r1112)), (10, .d (.int .i64 r1103)), (11, .d (.int .i64 r1113)), (12, .ptr 3 0), (48, .d (.bool (r181 == 0)))]) (H' := [.box [.d (.int .i64 r122), .d (.int .i64 r143)], .box [.d (.int .i64 r144), .d (.int .i64 r154)], .box [.d (.int .i64 r123), .d (.int .i64 r145)], .box [.d (.int .i64 1), .d (.int .i64 2)]]) (by kernel_rfl) (by kernel_rfl) (by kernel_rfl) (by kernel_rfl) (by decide) (by kernel_rfl) (by kernel_rfl) ?_
      exact hj1 (r181 == 0)
    · refine oNot (by kernel_rfl) (by kernel_rfl) ?_
      refine oNot (by kernel_rfl) (by kernel_rfl) ?_
      refine oOp (.d (.bool false)) (by kernel_rfl) (by kernel_rfl) (PureV.does (p_pick (b := false) (by kernel_rfl) (by kernel_rfl))) ?_
      refine oHead [2, 4, 6, 7, 8, 9, 10, 11, 12, 48] [2, 3, 4, 5] (T' := [(2, .ptr 0 0), (4, .ptr 1 0), (6, .ptr 2 0), (7, .d (.int .i64 r155)), (8, .d (.int .i64 r1102)), (9, .d (.int .i64 r1112)), (10, .d (.int .i64 r1103)), (11, .d (.int .i64 r1113)), (12, .ptr 3 0), (48, .d (.bool false))]) (H' := [.box [.d (.int .i64 r122), .d (.int .i64 r143)], .box [.d (.int .i64 r144), .d (.int .i64 r154)], .box [.d (.int .i64 r123), .d (.int .i64 r145)], .box [.d (.int .i64 1), .d (.int .i64 2)]]) (by kernel_rfl) (by kernel_rfl) (by kernel_rfl) (by kernel_rfl) (by decide) (by kernel_rfl) (by kernel_rfl) ?_
      exact hj1 false

/-- awardingbody/awardingbodymark.Roll -/
def mark_Roll (k : Nat) (l : (List Int)) : Option (Unit) := some ()
def mark_Roll_E (l : (List Int)) : Unit → V × List Blk := u0 ((.ptr 0 0, [.box [.d (.lit (List.map e_i64 l)), .d (.int .i64 0)]]))
theorem mark_Roll_goes (k : Nat) (l : (List Int)) : RunsO Try.prog 11 [.d (.lit (List.map e_i64 l))] [] (mark_Roll_E l) (mark_Roll k l) := by
  refine RunsO.of_goes (N := 6) (m := 0) (T := [(0, .d (.lit (List.map e_i64 l)))]) Try.func11 rfl rfl (by kernel_rfl) (by kernel_rfl) (by kernel_rfl) ?_
  unfold mark_Roll
  refine bStart ?_
  refine oSeq ?_
  refine oRegion rfl ?_
  refine oOp (.nilptr) (by kernel_rfl) (by kernel_rfl) (PureV.does (p_assign (by kernel_rfl))) ?_
  refine oEnd ?_
  refine oSeq ?_
  refine oRegion rfl ?_
  refine oOp (.d (.lit (List.map e_i64 l))) (by kernel_rfl) (by kernel_rfl) (PureV.does (p_move (by kernel_rfl))) ?_
  refine oOp (.agg [.d (.lit (List.map e_i64 l)), .d (.int .i64 0)]) (by kernel_rfl) (by kernel_rfl) (PureV.does (p_build bld58 (by kernel_rfl))) ?_
  refine oOp (.ptr 0 0) (by kernel_rfl) (by kernel_rfl) (k_box (H' := [.box [.d (.lit (List.map e_i64 l)), .d (.int .i64 0)]]) (cells := [.d (.lit (List.map e_i64 l)), .d (.int .i64 0)]) (by kernel_rfl) (by kernel_rfl) (by kernel_rfl)) ?_
  refine oOp (.ptr 0 0) (by kernel_rfl) (by kernel_rfl) (PureV.does (p_assign (by kernel_rfl))) ?_
  refine oEnd ?_
  exact oRet (r0 := ()) (rv := .ptr 0 0) (B := [.box [.d (.lit (List.map e_i64 l)), .d (.int .i64 0)]]) (vs := [.ptr 0 0]) (σ := [0]) (by kernel_rfl) Try.func11 rfl (.cons _ _ _ _ (.tmp 2 _ (by kernel_rfl)) .nil) (by kernel_rfl) (by kernel_rfl) (by kernel_rfl) (by kernel_rfl) (by decide) (by kernel_rfl) (by kernel_rfl)

/-- (*awardingbody/awardingbodymark.Dice).Next -/
def mark_Dice_Next (k : Nat) (n : Int) (x : (List Int)) (x1 : Int) : Option (Int × Int) := blet ((decide (x1 ≥ ((List.length x) : Int))) || (decide (n < 1))) fun x8 => bif x8 then some (0, x1) else gidx x x1 fun e1 => gnz n (Option.bind (bif (decide ((Int.tmod e1 n) < 0)) then some ((IntKind.wrap .i64 ((Int.tmod e1 n) + n)), (IntKind.wrap .i64 (x1 + 1))) else some ((Int.tmod e1 n), (IntKind.wrap .i64 (x1 + 1))) : Option (Int × Int)) (uc fun x9 => fun x10 => some (x9, x10)))
def mark_Dice_Next_E (n : Int) (x : (List Int)) (x1 : Int) : Int × Int → V × List Blk := uc fun r1 => fun x6 => (.d (.int .i64 r1), [.box [.d (.lit (List.map e_i64 x)), .d (.int .i64 x6)]])
theorem mark_Dice_Next_goes (k : Nat) (n : Int) (x : (List Int)) (x1 : Int) : RunsO Try.prog 26 [.ptr 0 0, .d (.int .i64 n)] [.box [.d (.lit (List.map e_i64 x)), .d (.int .i64 x1)]] (mark_Dice_Next_E n x x1) (mark_Dice_Next k n x x1) := by
  refine RunsO.of_goes (N := 45) (m := 1) (T := [(0, .ptr 0 0), (1, .d (.int .i64 n))]) Try.func26 rfl rfl (by kernel_rfl) (by kernel_rfl) (by kernel_rfl) ?_
  unfold mark_Dice_Next
  refine bStart ?_
  refine oSeq ?_
  refine oRegion rfl ?_
  refine oOp (.d (.int .i64 0)) (by kernel_rfl) (by kernel_rfl) (PureV.does (p_assign (by kernel_rfl))) ?_
  refine oEnd ?_
  refine oSeq ?_
  refine oSeq ?_
  refine oDraw [(0, 14)] rfl ?_
  refine aTakeL (i := 0) (st' := []) (.ptr 0 0) rfl (by kernel_rfl) (by kernel_rfl) (by kernel_rfl) (by kernel_rfl) (by kernel_rfl) (by kernel_rfl) (by kernel_rfl) (PureV.quiet (p_move (by kernel_rfl)) []) ?_
  refine aTakeL (i := 1) (st' := []) (.ptr 0 0) rfl (by kernel_rfl) (by kernel_rfl) (by kernel_rfl) (by kernel_rfl) (by kernel_rfl) (by kernel_rfl) (by kernel_rfl) (PureV.quiet (k_nilCheck 0 0 (by kernel_rfl) (by kernel_rfl)) []) ?_
  refine aTakeL (i := 2) (st' := []) (.ptr 0 1) rfl (by kernel_rfl) (by kernel_rfl) (by kernel_rfl) (by kernel_rfl) (by kernel_rfl) (by kernel_rfl) (by kernel_rfl) (PureV.quiet (k_fieldAddr 0 0 (by kernel_rfl) Try.underlying58 rfl ty3 (by kernel_rfl)) []) ?_
  refine aTakeL (i := 3) (st' := [0]) (.d (.int .i64 x1)) rfl (by kernel_rfl) (by kernel_rfl) (by kernel_rfl) (by kernel_rfl) (by kernel_rfl) (by kernel_rfl) (by kernel_rfl) (k_load 0 1 (by kernel_rfl) Try.underlying3 (by kernel_rfl) (by kernel_rfl)) ?_
  refine aTakeL (i := 4) (st' := []) (.ptr 0 0) rfl (by kernel_rfl) (by kernel_rfl) (by kernel_rfl) (by kernel_rfl) (by kernel_rfl) (by kernel_rfl) (by kernel_rfl) (PureV.quiet (p_move (by kernel_rfl)) []) ?_
  refine aTakeL (i := 5) (st' := []) (.ptr 0 0) rfl (by kernel_rfl) (by kernel_rfl) (by kernel_rfl) (by kernel_rfl) (by kernel_rfl) (by kernel_rfl) (by kernel_rfl) (PureV.quiet (k_nilCheck 0 0 (by kernel_rfl) (by kernel_rfl)) []) ?_
  refine aTakeL (i := 6) (st' := []) (.ptr 0 0) rfl (by kernel_rfl) (by kernel_rfl) (by kernel_rfl) (by kernel_rfl) (by kernel_rfl) (by kernel_rfl) (by kernel_rfl) (PureV.quiet (k_fieldAddr 0 0 (by kernel_rfl) Try.underlying58 rfl ty22 (by kernel_rfl)) []) ?_
  refine aTakeL (i := 7) (st' := [0]) (.d (.lit (List.map e_i64 x))) rfl (by kernel_rfl) (by kernel_rfl) (by kernel_rfl) (by kernel_rfl) (by kernel_rfl) (by kernel_rfl) (by kernel_rfl) (k_load 0 0 (by kernel_rfl) Try.underlying22 (by kernel_rfl) (by kernel_rfl)) ?_
  refine aTakeL (i := 8) (st' := []) (.d (.int .i64 ((List.length x) : Int))) rfl (by kernel_rfl) (by kernel_rfl) (by kernel_rfl) (by kernel_rfl) (by kernel_rfl) (by kernel_rfl) (by kernel_rfl) (PureV.quiet (k_lenLit (enc := e_i64) x (by kernel_rfl) Try.underlying22) []) ?_
  refine aTakeL (i := 9) (st' := []) (.d (.bool (decide (x1 ≥ ((List.length x) : Int))))) rfl (by kernel_rfl) (by kernel_rfl) (by kernel_rfl) (by kernel_rfl) (by kernel_rfl) (by kernel_rfl) (by kernel_rfl) (PureV.quiet (p_int (k := .i64) (p := x1) (q := ((List.length x) : Int)) (by kernel_rfl) (by kernel_rfl) (by kernel_rfl)) []) ?_
  refine aTakeL (i := 10) (st' := []) (.d (.bool (decide (x1 ≥ ((List.length x) : Int))))) rfl (by kernel_rfl) (by kernel_rfl) (by kernel_rfl) (by kernel_rfl) (by kernel_rfl) (by kernel_rfl) (by kernel_rfl) (PureV.quiet (p_move (by kernel_rfl)) []) ?_
  refine dMeetF [13, 12, 11, 10, 9, 8, 7, 6, 5, 4, 3, 2, 1, 0] (fun (x8 : Bool) => [(0, .ptr 0 0), (1, .d (.int .i64 n)), (19, .d (.bool x8))]) (fun (x8 : Bool) => [(0, .ptr 0 0), (1, .d (.int .i64 n)), (19, .d (.bool x8))]) (H' := [.box [.d (.lit (List.map e_i64 x)), .d (.int .i64 x1)]]) (fun x8 => ?_) (fun F hj3 => ?_)
  · refine aDone (by kernel_rfl) ?_
    refine bSplit 19 (by kernel_rfl) (fun hc => ?_) (fun hc => ?_)
    · refine oCondT (by kernel_rfl) ?_
      refine oSeq ?_
      refine oRegion rfl ?_
      refine oOp (.d (.int .i64 0)) (by kernel_rfl) (by kernel_rfl) (PureV.does (p_assign (by kernel_rfl))) ?_
      refine oEnd ?_
      exact oRet (r0 := (0, x1)) (rv := .d (.int .i64 0)) (B := [.box [.d (.lit (List.map e_i64 x)), .d (.int .i64 x1)]]) (vs := [.d (.int .i64 0)]) (σ := [0]) (by kernel_rfl) Try.func26 rfl (.cons _ _ _ _ (.tmp 4 _ (by kernel_rfl)) .nil) (by kernel_rfl) (by kernel_rfl) (by kernel_rfl) (by kernel_rfl) (by decide) (by kernel_rfl) (by kernel_rfl)
    · refine oCondF (by kernel_rfl) ?_
      refine oSkip ?_
      refine oSeq ?_
      refine oDraw [(0, 13)] rfl ?_
      refine aTakeL (i := 0) (st' := []) (.ptr 0 0) rfl (by kernel_rfl) (by kernel_rfl) (by kernel_rfl) (by kernel_rfl) (by kernel_rfl) (by kernel_rfl) (by kernel_rfl) (PureV.quiet (p_move (by kernel_rfl)) []) ?_
      refine aTakeL (i := 1) (st' := []) (.ptr 0 0) rfl (by kernel_rfl) (by kernel_rfl) (by kernel_rfl) (by kernel_rfl) (by kernel_rfl) (by kernel_rfl) (by kernel_rfl) (PureV.quiet (k_nilCheck 0 0 (by kernel_rfl) (by kernel_rfl)) []) ?_
      refine aTakeL (i := 2) (st' := []) (.ptr 0 0) rfl (by kernel_rfl) (by kernel_rfl) (by kernel_rfl) (by kernel_rfl) (by kernel_rfl) (by kernel_rfl) (by kernel_rfl) (PureV.quiet (k_fieldAddr 0 0 (by kernel_rfl) Try.underlying58 rfl ty22 (by kernel_rfl)) []) ?_
      refine aTakeL (i := 3) (st' := [0]) (.d (.lit (List.map e_i64 x))) rfl (by kernel_rfl) (by kernel_rfl) (by kernel_rfl) (by kernel_rfl) (by kernel_rfl) (by kernel_rfl) (by kernel_rfl) (k_load 0 0 (by kernel_rfl) Try.underlying22 (by kernel_rfl) (by kernel_rfl)) ?_
      refine aTakeL (i := 4) (st' := []) (.ptr 0 0) rfl (by kernel_rfl) (by kernel_rfl) (by kernel_rfl) (by kernel_rfl) (by kernel_rfl) (by kernel_rfl) (by kernel_rfl) (PureV.quiet (p_move (by kernel_rfl)) []) ?_
      refine aTakeL (i := 5) (st' := []) (.ptr 0 0) rfl (by kernel_rfl) (by kernel_rfl) (by kernel_rfl) (by kernel_rfl) (by kernel_rfl) (by kernel_rfl) (by kernel_rfl) (PureV.quiet (k_nilCheck 0 0 (by kernel_rfl) (by kernel_rfl)) []) ?_
      refine aTakeL (i := 6) (st' := []) (.ptr 0 1) rfl (by kernel_rfl) (by kernel_rfl) (by kernel_rfl) (by kernel_rfl) (by kernel_rfl) (by kernel_rfl) (by kernel_rfl) (PureV.quiet (k_fieldAddr 0 0 (by kernel_rfl) Try.underlying58 rfl ty3 (by kernel_rfl)) []) ?_
      refine aTakeL (i := 7) (st' := [0]) (.d (.int .i64 x1)) rfl (by kernel_rfl) (by kernel_rfl) (by kernel_rfl) (by kernel_rfl) (by kernel_rfl) (by kernel_rfl) (by kernel_rfl) (k_load 0 1 (by kernel_rfl) Try.underlying3 (by kernel_rfl) (by kernel_rfl)) ?_
      refine dIdx (fun e1 h1 h11 => ?_)
      refine aTakeL (i := 8) (st' := []) (.lptr (e_i64 e1) 0) rfl (by kernel_rfl) (by kernel_rfl) (by kernel_rfl) (by kernel_rfl) (by kernel_rfl) (by kernel_rfl) (by kernel_rfl) (PureV.quiet (k_idxLit e_i64_len x (a := e1) (by kernel_rfl) (k := .i64) (i := x1) (by kernel_rfl) Try.underlying22 ty3 h1 h11) []) ?_
      refine aTakeL (i := 9) (st' := []) (.d (.int .i64 e1)) rfl (by kernel_rfl) (by kernel_rfl) (by kernel_rfl) (by kernel_rfl) (by kernel_rfl) (by kernel_rfl) (by kernel_rfl) (k_loadL (cells := e_i64 e1) 0 (by kernel_rfl) Try.underlying3 (by kernel_rfl) (by kernel_rfl)) ?_
      refine aTakeL (i := 10) (st' := []) (.d (.int .i64 n)) rfl (by kernel_rfl) (by kernel_rfl) (by kernel_rfl) (by kernel_rfl) (by kernel_rfl) (by kernel_rfl) (by kernel_rfl) (PureV.quiet (p_move (by kernel_rfl)) []) ?_
      refine dNz (fun h12 => ?_)
      refine aTakeP (i := 11) (.d (.int .i64 (Int.tmod e1 n))) rfl (by kernel_rfl) (by kernel_rfl) (by kernel_rfl) (by kernel_rfl) (by kernel_rfl) (by kernel_rfl) (by kernel_rfl) (p_rem (k := .i64) (p := e1) (q := n) (by kernel_rfl) (by kernel_rfl) h12 (by kernel_rfl)) ?_
      refine aTakeL (i := 12) (st' := []) (.d (.int .i64 (Int.tmod e1 n))) rfl (by kernel_rfl) (by kernel_rfl) (by kernel_rfl) (by kernel_rfl) (by kernel_rfl) (by kernel_rfl) (by kernel_rfl) (PureV.quiet (p_assign (by kernel_rfl)) []) ?_
      refine aDone (by kernel_rfl) ?_
      refine oSeq ?_
      refine oRegion rfl ?_
      refine oOp (.ptr 0 0) (by kernel_rfl) (by kernel_rfl) (PureV.does (p_move (by kernel_rfl))) ?_
      refine oOp (.ptr 0 0) (by kernel_rfl) (by kernel_rfl) (PureV.does (k_nilCheck 0 0 (by kernel_rfl) (by kernel_rfl))) ?_
      refine oOp (.ptr 0 1) (by kernel_rfl) (by kernel_rfl) (PureV.does (k_fieldAddr 0 0 (by kernel_rfl) Try.underlying58 rfl ty3 (by kernel_rfl))) ?_
      refine oOp (.d (.int .i64 x1)) (by kernel_rfl) (by kernel_rfl) (Quiet.does (k_load 0 1 (by kernel_rfl) Try.underlying3 (by kernel_rfl) (by kernel_rfl))) ?_
      refine oOp (.d (.int .i64 (IntKind.wrap .i64 (x1 + 1)))) (by kernel_rfl) (by kernel_rfl) (PureV.does (p_int (k := .i64) (p := x1) (q := 1) (by kernel_rfl) (by kernel_rfl) (by kernel_rfl))) ?_
      refine oOp (.ptr 0 0) (by kernel_rfl) (by kernel_rfl) (PureV.does (k_nilCheck 0 0 (by kernel_rfl) (by kernel_rfl))) ?_
      refine oOp (.ptr 0 1) (by kernel_rfl) (by kernel_rfl) (PureV.does (k_fieldAddr 0 0 (by kernel_rfl) Try.underlying58 rfl ty3 (by kernel_rfl))) ?_
      refine oOp (.undef) (by kernel_rfl) (by kernel_rfl) (k_store (vs := [.d (.int .i64 (IntKind.wrap .i64 (x1 + 1)))]) (H' := [.box [.d (.lit (List.map e_i64 x)), .d (.int .i64 (IntKind.wrap .i64 (x1 + 1)))]]) 0 1 (by kernel_rfl) ty3 (by kernel_rfl) (by kernel_rfl) (by kernel_rfl)) ?_
      refine oEnd ?_
      refine oSeq ?_
      refine oSeq ?_
      refine oRegion rfl ?_
      refine oOp (.d (.int .i64 (Int.tmod e1 n))) (by kernel_rfl) (by kernel_rfl) (PureV.does (p_move (by kernel_rfl))) ?_
      refine oOp (.d (.bool (decide ((Int.tmod e1 n) < 0)))) (by kernel_rfl) (by kernel_rfl) (PureV.does (p_int (k := .i64) (p := (Int.tmod e1 n)) (q := 0) (by kernel_rfl) (by kernel_rfl) (by kernel_rfl))) ?_
      refine oEnd ?_
      refine bJoin ((uc fun (x9 : Int) => (fun (x10 : Int) => [(5, .d (.int .i64 x9))]))) ((uc fun (x9 : Int) => (fun (x10 : Int) => [.box [.d (.lit (List.map e_i64 x)), .d (.int .i64 x10)]]))) (fun s => s) (fun s => ?_) (fun hj4 => ?_)
      · obtain ⟨x9, x10⟩ := s
        refine bUc ?_
        refine oView (T' := [(5, .d (.int .i64 x9))]) (H' := [.box [.d (.lit (List.map e_i64 x)), .d (.int .i64 x10)]]) (by kernel_rfl) (by kernel_rfl) ?_
        refine oSeq ?_
        refine oRegion rfl ?_
        refine oOp (.d (.int .i64 x9)) (by kernel_rfl) (by kernel_rfl) (PureV.does (p_move (by kernel_rfl))) ?_
        refine oOp (.d (.int .i64 x9)) (by kernel_rfl) (by kernel_rfl) (PureV.does (p_assign (by kernel_rfl))) ?_
        refine oEnd ?_
        exact oRet (r0 := (x9, x10)) (rv := .d (.int .i64 x9)) (B := [.box [.d (.lit (List.map e_i64 x)), .d (.int .i64 x10)]]) (vs := [.d (.int .i64 x9)]) (σ := [0]) (by kernel_rfl) Try.func26 rfl (.cons _ _ _ _ (.tmp 4 _ (by kernel_rfl)) .nil) (by kernel_rfl) (by kernel_rfl) (by kernel_rfl) (by kernel_rfl) (by decide) (by kernel_rfl) (by kernel_rfl)
      · refine bSplit 40 (by kernel_rfl) (fun hc => ?_) (fun hc => ?_)
        · refine oCondT (by kernel_rfl) ?_
          refine oRegion rfl ?_
          refine oOp (.d (.int .i64 (Int.tmod e1 n))) (by kernel_rfl) (by kernel_rfl) (PureV.does (p_move (by kernel_rfl))) ?_
          refine oOp (.d (.int .i64 n)) (by kernel_rfl) (by kernel_rfl) (PureV.does (p_move (by kernel_rfl))) ?_
          refine oOp (.d (.int .i64 (IntKind.wrap .i64 ((Int.tmod e1 n) + n)))) (by kernel_rfl) (by kernel_rfl) (PureV.does (p_int (k := .i64) (p := (Int.tmod e1 n)) (q := n) (by kernel_rfl) (by kernel_rfl) (by kernel_rfl))) ?_
          refine oOp (.d (.int .i64 (IntKind.wrap .i64 ((Int.tmod e1 n) + n)))) (by kernel_rfl) (by kernel_rfl) (PureV.does (p_assign (by kernel_rfl))) ?_
          refine oEnd ?_
          refine oHead [5] [0] (T' := [(5, .d (.int .i64 (IntKind.wrap .i64 ((Int.tmod e1 n) + n))))]) (H' := [.box [.d (.lit (List.map e_i64 x)), .d (.int .i64 (IntKind.wrap .i64 (x1 + 1)))]]) (by kernel_rfl) (by kernel_rfl) (by kernel_rfl) (by kernel_rfl) (by decide) (by kernel_rfl) (by kernel_rfl) ?_
          exact hj4 ((IntKind.wrap .i64 ((Int.tmod e1 n) + n)), (IntKind.wrap .i64 (x1 + 1)))
        · refine oCondF (by kernel_rfl) ?_
          refine oSkip ?_
          refine oHead [5] [0] (T' := [(5, .d (.int .i64 (Int.tmod e1 n)))]) (H' := [.box [.d (.lit (List.map e_i64 x)), .d (.int .i64 (IntKind.wrap .i64 (x1 + 1)))]]) (by kernel_rfl) (by kernel_rfl) (by kernel_rfl) (by kernel_rfl) (by decide) (by kernel_rfl) (by kernel_rfl) ?_
          exact hj4 ((Int.tmod e1 n), (IntKind.wrap .i64 (x1 + 1)))
  · refine dPickF 16 (fun c => F (c || (decide (n < 1)))) (by kernel_rfl) (by kernel_rfl) (fun hc => ?_) (fun hc => ?_)
    · refine aTakeNot (i := 11) rfl (by kernel_rfl) (by kernel_rfl) (by kernel_rfl) (by kernel_rfl) (by kernel_rfl) (by kernel_rfl) (by kernel_rfl) ?_
      refine aTakeNot (i := 12) rfl (by kernel_rfl) (by kernel_rfl) (by kernel_rfl) (by kernel_rfl) (by kernel_rfl) (by kernel_rfl) (by kernel_rfl) ?_
      refine aTakeL (i := 13) (st' := []) (.d (.bool true)) rfl (by kernel_rfl) (by kernel_rfl) (by kernel_rfl) (by kernel_rfl) (by kernel_rfl) (by kernel_rfl) (by kernel_rfl) (PureV.quiet (p_pick (b := true) (by kernel_rfl) (by kernel_rfl)) []) ?_
      refine dDrop [0, 1, 19] [0, 1, 19] (T' := [(0, .ptr 0 0), (1, .d (.int .i64 n)), (19, .d (.bool true))]) (U' := [(0, .ptr 0 0), (1, .d (.int .i64 n)), (19, .d (.bool true))]) (by kernel_rfl) (by kernel_rfl) ?_
      exact hj3 true
    · refine aTakeL (i := 11) (st' := []) (.d (.int .i64 n)) rfl (by kernel_rfl) (by kernel_rfl) (by kernel_rfl) (by kernel_rfl) (by kernel_rfl) (by kernel_rfl) (by kernel_rfl) (PureV.quiet (p_move (by kernel_rfl)) []) ?_
      refine aTakeL (i := 12) (st' := []) (.d (.bool (decide (n < 1)))) rfl (by kernel_rfl) (by kernel_rfl) (by kernel_rfl) (by kernel_rfl) (by kernel_rfl) (by kernel_rfl) (by kernel_rfl) (PureV.quiet (p_int (k := .i64) (p := n) (q := 1) (by kernel_rfl) (by kernel_rfl) (by kernel_rfl)) []) ?_
      refine aTakeL (i := 13) (st' := []) (.d (.bool (decide (n < 1)))) rfl (by kernel_rfl) (by kernel_rfl) (by kernel_rfl) (by kernel_rfl) (by kernel_rfl) (by kernel_rfl) (by kernel_rfl) (PureV.quiet (p_pick (b := false) (by kernel_rfl) (by kernel_rfl)) []) ?_
      refine dDrop [0, 1, 19] [0, 1, 19] (T' := [(0, .ptr 0 0), (1, .d (.int .i64 n)), (19, .d (.bool (decide (n < 1))))]) (U' := [(0, .ptr 0 0), (1, .d (.int .i64 n)), (19, .d (.bool (decide (n < 1))))]) (by kernel_rfl) (by kernel_rfl) ?_
      exact hj3 (decide (n < 1))

/-- (*awardingbody/awardingbodymark.Dice).Pick -/
def mark_Dice_Pick (k : Nat) (x : (List Int)) (x1 : Int) (xs : (List Int)) : Option (Int × Int) := Option.bind (mark_Dice_Next k ((List.length xs) : Int) x x1) (uc fun r12 => fun x61 => gidx xs r12 fun e11 => some (e11, x61))
def mark_Dice_Pick_E (x : (List Int)) (x1 : Int) (xs : (List Int)) : Int × Int → V × List Blk := uc fun r11 => fun x2 => (.d (.int .i64 r11), [.box [.d (.lit (List.map e_i64 x)), .d (.int .i64 x2)], .sl 1 (List.map e_i64 xs) false])
theorem mark_Dice_Pick_goes (k : Nat) (x : (List Int)) (x1 : Int) (xs : (List Int)) : RunsO Try.prog 40 [.ptr 0 0, .ref 1 (List.length xs) 0 (List.length xs)] [.box [.d (.lit (List.map e_i64 x)), .d (.int .i64 x1)], .sl 1 (List.map e_i64 xs) false] (mark_Dice_Pick_E x x1 xs) (mark_Dice_Pick k x x1 xs) := by
  refine RunsO.of_goes (N := 12) (m := 2) (T := [(0, .ptr 0 0), (1, .ref 1 (List.length xs) 0 (List.length xs))]) Try.func40 rfl rfl (by kernel_rfl) (by kernel_rfl) (by kernel_rfl) ?_
  unfold mark_Dice_Pick
  refine bStart ?_
  refine oSeq ?_
  refine oRegion rfl ?_
  refine oOp (.d (.int .i64 0)) (by kernel_rfl) (by kernel_rfl) (PureV.does (p_assign (by kernel_rfl))) ?_
  refine oEnd ?_
  refine oSeq ?_
  refine oRegion rfl ?_
  refine oOp (.ref 1 (List.length xs) 0 (List.length xs)) (by kernel_rfl) (by kernel_rfl) (PureV.does (p_move (by kernel_rfl))) ?_
  refine oOp (.ptr 0 0) (by kernel_rfl) (by kernel_rfl) (PureV.does (p_move (by kernel_rfl))) ?_
  refine oOp (.ref 1 (List.length xs) 0 (List.length xs)) (by kernel_rfl) (by kernel_rfl) (PureV.does (p_move (by kernel_rfl))) ?_
  refine oOp (.d (.int .i64 ((List.length xs) : Int))) (by kernel_rfl) (by kernel_rfl) (PureV.does (k_lenRef (enc := e_i64) (sz := 1) (fro := false) 1 xs (by kernel_rfl) (by kernel_rfl) Try.underlying22)) ?_
  refine bCall (caps := []) (v := (uc fun (r12 : Int) => (fun (x61 : Int) => (.d (.int .i64 r12) : V)))) (H' := (uc fun (r12 : Int) => (fun (x61 : Int) => ([.box [.d (.lit (List.map e_i64 x)), .d (.int .i64 x61)], .sl 1 (List.map e_i64 xs) false] : List Blk)))) [0] _ (mark_Dice_Next_goes k ((List.length xs) : Int) x x1) (by kernel_rfl) (by kernel_rfl) rfl (by kernel_rfl) Try.func26 rfl (by kernel_rfl) (ConvRs.refl _ _) (by kernel_rfl) (by kernel_rfl) (by kernel_rfl) (by decide) (by kernel_rfl) (by kernel_rfl) (fun _ => (by kernel_rfl)) (fun _ => (by kernel_rfl)) (fun _ => (by kernel_rfl)) (fun r => ?_)
  obtain ⟨r12, x61⟩ := r
  refine bUc ?_
  refine bIdx (fun e11 h12 h13 => ?_)
  refine oOp (.eptr 1 (List.length xs) (Int.toNat r12) 0) (by kernel_rfl) (by kernel_rfl) (PureV.does (k_idxRef (enc := e_i64) (fro := false) xs (a := e11) (by kernel_rfl) (k := .i64) (i := r12) (by kernel_rfl) (by kernel_rfl) Try.underlying22 ty3 h12 h13)) ?_
  refine oOp (.d (.int .i64 e11)) (by kernel_rfl) (by kernel_rfl) (Quiet.does (k_loadE (enc := e_i64) (sz := 1) (fro := false) 1 0 xs (by kernel_rfl) (by kernel_rfl) Try.underlying3 (by kernel_rfl) h13 (by kernel_rfl))) ?_
  refine oOp (.d (.int .i64 e11)) (by kernel_rfl) (by kernel_rfl) (PureV.does (p_assign (by kernel_rfl))) ?_
  refine oEnd ?_
  exact oRet (r0 := (e11, x61)) (rv := .d (.int .i64 e11)) (B := [.box [.d (.lit (List.map e_i64 x)), .d (.int .i64 x61)], .sl 1 (List.map e_i64 xs) false]) (vs := [.d (.int .i64 e11)]) (σ := [0, 1]) (by kernel_rfl) Try.func40 rfl (.cons _ _ _ _ (.tmp 4 _ (by kernel_rfl)) .nil) (by kernel_rfl) (by kernel_rfl) (by kernel_rfl) (by kernel_rfl) (by decide) (by kernel_rfl) (by kernel_rfl)

/-- (*awardingbody/awardingbodymark.Dice).Distribution -/
def mark_Dice_Distribution_b1 (k : Nat) (x : (List Int)) (least1 : Int) (again : Int × Int × (List Int) → Option (Int × (List Int))) : Int × Int × (List Int) → Option (Int × (List Int)) := uc fun i7 => uc fun x11 => fun xs6 => bif (decide (i7 > 0)) then Option.bind (mark_Dice_Pick k x x11 ([0, 1, 2, 5, 0] : List Int)) (uc fun r11 => fun x2 => gcap (List.length (xs6 ++ ([(IntKind.wrap .i64 (least1 + r11))] : List Int))) 8 (again ((IntKind.wrap .i64 (i7 - 1)), x2, (xs6 ++ ([(IntKind.wrap .i64 (least1 + r11))] : List Int))))) else some (x11, xs6)
def mark_Dice_Distribution (k : Nat) (n : Int) (full : Bool) (x : (List Int)) (x1 : Int) : Option ((List Int) × Int) := Option.bind (bif full then some 1 else some 0 : Option (Int)) (fun least1 => Option.bind (mark_Dice_Next k (IntKind.wrap .i64 (n + 1)) x x1) (uc fun r13 => fun x61 => Option.bind (gloop (mark_Dice_Distribution_b1 k x least1) k ((IntKind.wrap .i64 (1 + r13)), x61, ([] : List Int)) : Option (Int × (List Int))) (uc fun x10 => fun xs5 => some (xs5, x10))))
def mark_Dice_Distribution_E (n : Int) (full : Bool) (x : (List Int)) (x1 : Int) : (List Int) × Int → V × List Blk := uc fun r12 => fun x7 => (.agg [.d (.lit (List.map e_i64 r12))], [.box [.d (.lit (List.map e_i64 x)), .d (.int .i64 x7)]])
theorem mark_Dice_Distribution_goes (k : Nat) (n : Int) (full : Bool) (x : (List Int)) (x1 : Int) : RunsO Try.prog 12 [.ptr 0 0, .d (.int .i64 n), .d (.bool full)] [.box [.d (.lit (List.map e_i64 x)), .d (.int .i64 x1)]] (mark_Dice_Distribution_E n full x x1) (mark_Dice_Distribution k n full x x1) := by
  refine RunsO.of_goes (N := 31) (m := 1) (T := [(0, .ptr 0 0), (1, .d (.int .i64 n)), (2, .d (.bool full))]) Try.func12 rfl rfl (by kernel_rfl) (by kernel_rfl) (by kernel_rfl) ?_
  unfold mark_Dice_Distribution
  refine bStart ?_
  refine oSeq ?_
  refine oRegion rfl ?_
  refine oOp (.ptr 1 0) (by kernel_rfl) (by kernel_rfl) (k_alloc (H' := [.box [.d (.lit (List.map e_i64 x)), .d (.int .i64 x1)], .box [.nilc]]) ty26 (by kernel_rfl) (by kernel_rfl)) ?_
  refine oEnd ?_
  refine oSeq ?_
  refine oRegion rfl ?_
  refine oOp (.ptr 2 0) (by kernel_rfl) (by kernel_rfl) (k_alloc (H' := [.box [.d (.lit (List.map e_i64 x)), .d (.int .i64 x1)], .box [.nilc], .box [.nilc]]) ty26 (by kernel_rfl) (by kernel_rfl)) ?_
  refine oEnd ?_
  refine oSeq ?_
  refine oRegion rfl ?_
  refine oOp (.d (.int .i64 0)) (by kernel_rfl) (by kernel_rfl) (PureV.does (p_assign (by kernel_rfl))) ?_
  refine oEnd ?_
  refine oSeq ?_
  refine oSeq ?_
  refine oRegion rfl ?_
  refine oOp (.d (.bool full)) (by kernel_rfl) (by kernel_rfl) (PureV.does (p_move (by kernel_rfl))) ?_
  refine oEnd ?_
  refine bJoin ((fun (least1 : Int) => [(0, .ptr 0 0), (1, .d (.int .i64 n)), (6, .ptr 1 0), (7, .ptr 2 0), (8, .d (.int .i64 least1))])) ((fun (least1 : Int) => [.box [.d (.lit (List.map e_i64 x)), .d (.int .i64 x1)], .box [.nilc], .box [.nilc]])) (fun s => s) (fun least1 => ?_) (fun hj3 => ?_)
  · refine oView (T' := [(0, .ptr 0 0), (1, .d (.int .i64 n)), (6, .ptr 1 0), (7, .ptr 2 0), (8, .d (.int .i64 least1))]) (H' := [.box [.d (.lit (List.map e_i64 x)), .d (.int .i64 x1)], .box [.nilc], .box [.nilc]]) (by kernel_rfl) (by kernel_rfl) ?_
    refine oSeq ?_
    refine oSeq ?_
    refine oRegion rfl ?_
    refine oOp (.ptr 0 0) (by kernel_rfl) (by kernel_rfl) (PureV.does (p_move (by kernel_rfl))) ?_
    refine oOp (.d (.int .i64 n)) (by kernel_rfl) (by kernel_rfl) (PureV.does (p_move (by kernel_rfl))) ?_
    refine oOp (.d (.int .i64 (IntKind.wrap .i64 (n + 1)))) (by kernel_rfl) (by kernel_rfl) (PureV.does (p_int (k := .i64) (p := n) (q := 1) (by kernel_rfl) (by kernel_rfl) (by kernel_rfl))) ?_
    refine bCall (caps := []) (v := (uc fun (r13 : Int) => (fun (x61 : Int) => (.d (.int .i64 r13) : V)))) (H' := (uc fun (r13 : Int) => (fun (x61 : Int) => ([.box [.d (.lit (List.map e_i64 x)), .d (.int .i64 x61)], .box [.nilc], .box [.nilc]] : List Blk)))) [0] _ (mark_Dice_Next_goes k (IntKind.wrap .i64 (n + 1)) x x1) (by kernel_rfl) (by kernel_rfl) rfl (by kernel_rfl) Try.func26 rfl (by kernel_rfl) (ConvRs.refl _ _) (by kernel_rfl) (by kernel_rfl) (by kernel_rfl) (by decide) (by kernel_rfl) (by kernel_rfl) (fun _ => (by kernel_rfl)) (fun _ => (by kernel_rfl)) (fun _ => (by kernel_rfl)) (fun r => ?_)
    obtain ⟨r13, x61⟩ := r
    refine bUc ?_
    refine oOp (.d (.int .i64 (IntKind.wrap .i64 (1 + r13)))) (by kernel_rfl) (by kernel_rfl) (PureV.does (p_int (k := .i64) (p := 1) (q := r13) (by kernel_rfl) (by kernel_rfl) (by kernel_rfl))) ?_
    refine oOp (.d (.int .i64 (IntKind.wrap .i64 (1 + r13)))) (by kernel_rfl) (by kernel_rfl) (PureV.does (p_assign (by kernel_rfl))) ?_
    refine oEnd ?_
    refine bJoin ((uc fun (x10 : Int) => (fun (xs5 : (List Int)) => [(6, .ptr 1 0), (7, .ptr 2 0)]))) ((uc fun (x10 : Int) => (fun (xs5 : (List Int)) => [.box [.d (.lit (List.map e_i64 x)), .d (.int .i64 x10)], .box [.nilc], .box [.ref 3 (List.length xs5) 0 (List.length xs5)], .sl 1 (List.map e_i64 xs5) false]))) (fun s => s) (fun s => ?_) (fun hj4 => ?_)
    · obtain ⟨x10, xs5⟩ := s
      refine bUc ?_
      refine oView (T' := [(6, .ptr 1 0), (7, .ptr 2 0)]) (H' := [.box [.d (.lit (List.map e_i64 x)), .d (.int .i64 x10)], .box [.nilc], .box [.ref 3 (List.length xs5) 0 (List.length xs5)], .sl 1 (List.map e_i64 xs5) false]) (by kernel_rfl) (by kernel_rfl) ?_
      refine oSeq ?_
      refine oRegion rfl ?_
      refine oOp (.agg [.ref 3 (List.length xs5) 0 (List.length xs5)]) (by kernel_rfl) (by kernel_rfl) (Quiet.does (k_loadAgg 2 0 (by kernel_rfl) Try.underlying26 (by kernel_rfl) ty26 (by kernel_rfl))) ?_
      refine oOp (.undef) (by kernel_rfl) (by kernel_rfl) (k_store (vs := [.ref 3 (List.length xs5) 0 (List.length xs5)]) (H' := [.box [.d (.lit (List.map e_i64 x)), .d (.int .i64 x10)], .box [.ref 3 (List.length xs5) 0 (List.length xs5)], .box [.ref 3 (List.length xs5) 0 (List.length xs5)], .sl 1 (List.map e_i64 xs5) false]) 1 0 (by kernel_rfl) ty26 (by kernel_rfl) (by kernel_rfl) (by kernel_rfl)) ?_
      refine oEnd ?_
      refine oFreeze 3 (esz := 1) (xs := List.map e_i64 xs5) (by kernel_rfl) ?_
      refine oView (H' := [.box [.d (.lit (List.map e_i64 x)), .d (.int .i64 x10)], .box [.ref 3 (List.length xs5) 0 (List.length xs5)], .box [.ref 3 (List.length xs5) 0 (List.length xs5)], .sl 1 (List.map e_i64 xs5) true]) rfl (by kernel_rfl) ?_
      refine oConvB 1 (cells := [.ref 3 (List.length xs5) 0 (List.length xs5)]) (cells' := [.d (.lit (List.map e_i64 xs5))]) (by kernel_rfl) (.cons _ _ _ _ (k_lit (enc := e_i64) (sz := 1) 3 xs5 (by kernel_rfl)) .nil) ?_
      refine oView (H' := [.box [.d (.lit (List.map e_i64 x)), .d (.int .i64 x10)], .box [.d (.lit (List.map e_i64 xs5))], .box [.ref 3 (List.length xs5) 0 (List.length xs5)], .sl 1 (List.map e_i64 xs5) true]) rfl (by kernel_rfl) ?_
      exact oRet (r0 := (xs5, x10)) (rv := .agg [.d (.lit (List.map e_i64 xs5))]) (B := [.box [.d (.lit (List.map e_i64 x)), .d (.int .i64 x10)]]) (vs := [.agg [.d (.lit (List.map e_i64 xs5))]]) (σ := [0]) (by kernel_rfl) Try.func12 rfl (.cons _ _ _ _ (.agg 6 26 1 0 [.d (.lit (List.map e_i64 xs5))] [.d (.lit (List.map e_i64 xs5))] _ _ _ _ (by kernel_rfl) (by kernel_rfl) Try.underlying26 (by kernel_rfl) ty26 (by kernel_rfl) (by kernel_rfl)) .nil) (by kernel_rfl) (by kernel_rfl) (by kernel_rfl) (by kernel_rfl) (by decide) (by kernel_rfl) (by kernel_rfl)
    · refine oBlock ?_
      refine oLoop ?_
      refine oVirtB (esz := 1) 2 0 (cells := [.nilc]) (by kernel_rfl) (by kernel_rfl) ?_
      refine oView (H' := [.box [.d (.lit (List.map e_i64 x)), .d (.int .i64 x61)], .box [.nilc], .box [.ref 3 (List.length ([] : List Int)) 0 (List.length ([] : List Int))], .sl 1 (List.map e_i64 ([] : List Int)) false]) rfl (by kernel_rfl) ?_
      refine oHead [0, 6, 7, 8, 9] [0, 1, 2, 3] (T' := [(0, .ptr 0 0), (6, .ptr 1 0), (7, .ptr 2 0), (8, .d (.int .i64 least1)), (9, .d (.int .i64 (IntKind.wrap .i64 (1 + r13))))]) (H' := [.box [.d (.lit (List.map e_i64 x)), .d (.int .i64 x61)], .box [.nilc], .box [.ref 3 (List.length ([] : List Int)) 0 (List.length ([] : List Int))], .sl 1 (List.map e_i64 ([] : List Int)) false]) (by kernel_rfl) (by kernel_rfl) (by kernel_rfl) (by kernel_rfl) (by decide) (by kernel_rfl) (by kernel_rfl) ?_
      refine bLoop (body := mark_Dice_Distribution_b1 k x least1) ((uc fun (i7 : Int) => (uc fun (x11 : Int) => (fun (xs6 : (List Int)) => [(0, .ptr 0 0), (6, .ptr 1 0), (7, .ptr 2 0), (8, .d (.int .i64 least1)), (9, .d (.int .i64 i7))])))) ((uc fun (i7 : Int) => (uc fun (x11 : Int) => (fun (xs6 : (List Int)) => [.box [.d (.lit (List.map e_i64 x)), .d (.int .i64 x11)], .box [.nilc], .box [.ref 3 (List.length xs6) 0 (List.length xs6)], .sl 1 (List.map e_i64 xs6) false])))) (fun again hag1 s => ?_) k ((IntKind.wrap .i64 (1 + r13)), x61, ([] : List Int))
      · unfold mark_Dice_Distribution_b1
        obtain ⟨i7, x11, xs6⟩ := s
        refine bUc ?_
        refine bUc ?_
        refine oView (T' := [(0, .ptr 0 0), (6, .ptr 1 0), (7, .ptr 2 0), (8, .d (.int .i64 least1)), (9, .d (.int .i64 i7))]) (H' := [.box [.d (.lit (List.map e_i64 x)), .d (.int .i64 x11)], .box [.nilc], .box [.ref 3 (List.length xs6) 0 (List.length xs6)], .sl 1 (List.map e_i64 xs6) false]) (by kernel_rfl) (by kernel_rfl) ?_
        refine oSeq ?_
        refine oSeq ?_
        refine oRegion rfl ?_
        refine oOp (.d (.int .i64 i7)) (by kernel_rfl) (by kernel_rfl) (PureV.does (p_move (by kernel_rfl))) ?_
        refine oOp (.d (.bool (decide (i7 > 0)))) (by kernel_rfl) (by kernel_rfl) (PureV.does (p_int (k := .i64) (p := i7) (q := 0) (by kernel_rfl) (by kernel_rfl) (by kernel_rfl))) ?_
        refine oEnd ?_
        refine bSplit 17 (by kernel_rfl) (fun hc => ?_) (fun hc => ?_)
        · refine oCondT (by kernel_rfl) ?_
          refine oSkip ?_
          refine oSeq ?_
          refine oBlock ?_
          refine oDraw [(0, 5), (1, 11), (2, 10), (3, 8)] rfl ?_
          refine aTakeL (i := 0) (st' := []) (.ptr 2 0) rfl (by kernel_rfl) (by kernel_rfl) (by kernel_rfl) (by kernel_rfl) (by kernel_rfl) (by kernel_rfl) (by kernel_rfl) (PureV.quiet (k_fieldAddr 2 0 (by kernel_rfl) Try.underlying26 rfl ty22 (by kernel_rfl)) []) ?_
          refine aTakeL (i := 1) (st' := [2]) (.ref 3 (List.length xs6) 0 (List.length xs6)) rfl (by kernel_rfl) (by kernel_rfl) (by kernel_rfl) (by kernel_rfl) (by kernel_rfl) (by kernel_rfl) (by kernel_rfl) (k_load 2 0 (by kernel_rfl) Try.underlying22 (by kernel_rfl) (by kernel_rfl)) ?_
          refine aTakeL (i := 2) (st' := []) (.d (.int .i64 least1)) rfl (by kernel_rfl) (by kernel_rfl) (by kernel_rfl) (by kernel_rfl) (by kernel_rfl) (by kernel_rfl) (by kernel_rfl) (PureV.quiet (p_move (by kernel_rfl)) []) ?_
          refine aTakeL (i := 3) (st' := []) (.ptr 0 0) rfl (by kernel_rfl) (by kernel_rfl) (by kernel_rfl) (by kernel_rfl) (by kernel_rfl) (by kernel_rfl) (by kernel_rfl) (PureV.quiet (p_move (by kernel_rfl)) []) ?_
          refine aOne (i := 4) (v := .ref 4 (List.length ([0, 1, 2, 5, 0] : List Int)) 0 (List.length ([0, 1, 2, 5, 0] : List Int))) rfl (by kernel_rfl) (by kernel_rfl) (by kernel_rfl) (by kernel_rfl) (by kernel_rfl) (by kernel_rfl) (by kernel_rfl) (Does.acts (k_buildSlice (H' := [.box [.d (.lit (List.map e_i64 x)), .d (.int .i64 x11)], .box [.nilc], .box [.ref 3 (List.length xs6) 0 (List.length xs6)], .sl 1 (List.map e_i64 xs6) false, .sl 1 (List.map e_i64 ([0, 1, 2, 5, 0] : List Int)) false]) (List.map e_i64 ([0, 1, 2, 5, 0] : List Int)) Try.underlying22 ty3 (by kernel_rfl) (by kernel_rfl) (by kernel_rfl))) (by kernel_rfl) ?_
          refine dCall (i := 5) (caps := []) (v := (uc fun (r11 : Int) => (fun (x2 : Int) => (.d (.int .i64 r11) : V)))) (H' := (uc fun (r11 : Int) => (fun (x2 : Int) => ([.box [.d (.lit (List.map e_i64 x)), .d (.int .i64 x2)], .box [.nilc], .box [.ref 3 (List.length xs6) 0 (List.length xs6)], .sl 1 (List.map e_i64 xs6) false, .sl 1 (List.map e_i64 ([0, 1, 2, 5, 0] : List Int)) false] : List Blk)))) [0, 4] _ (mark_Dice_Pick_goes k x x11 ([0, 1, 2, 5, 0] : List Int)) rfl (by kernel_rfl) (by kernel_rfl) (by kernel_rfl) (by kernel_rfl) (by kernel_rfl) (by kernel_rfl) (by kernel_rfl) (by kernel_rfl) rfl (by kernel_rfl) Try.func40 rfl (by kernel_rfl) (ConvRs.refl _ _) (by kernel_rfl) (by kernel_rfl) (by kernel_rfl) (by decide) (by kernel_rfl) (by kernel_rfl) (fun _ => (by kernel_rfl)) (fun _ => (by kernel_rfl)) (fun _ => (by kernel_rfl)) (fun r => ?_)
          obtain ⟨r11, x2⟩ := r
          refine dUc ?_
          refine aTakeL (i := 6) (st' := []) (.d (.int .i64 (IntKind.wrap .i64 (least1 + r11)))) rfl (by kernel_rfl) (by kernel_rfl) (by kernel_rfl) (by kernel_rfl) (by kernel_rfl) (by kernel_rfl) (by kernel_rfl) (PureV.quiet (p_int (k := .i64) (p := least1) (q := r11) (by kernel_rfl) (by kernel_rfl) (by kernel_rfl)) []) ?_
          refine aOne (i := 7) (v := .ref 5 (List.length ([(IntKind.wrap .i64 (least1 + r11))] : List Int)) 0 (List.length ([(IntKind.wrap .i64 (least1 + r11))] : List Int))) rfl (by kernel_rfl) (by kernel_rfl) (by kernel_rfl) (by kernel_rfl) (by kernel_rfl) (by kernel_rfl) (by kernel_rfl) (Does.acts (k_buildSlice (H' := [.box [.d (.lit (List.map e_i64 x)), .d (.int .i64 x2)], .box [.nilc], .box [.ref 3 (List.length xs6) 0 (List.length xs6)], .sl 1 (List.map e_i64 xs6) false, .sl 1 (List.map e_i64 ([0, 1, 2, 5, 0] : List Int)) false, .sl 1 (List.map e_i64 ([(IntKind.wrap .i64 (least1 + r11))] : List Int)) false]) (List.map e_i64 ([(IntKind.wrap .i64 (least1 + r11))] : List Int)) Try.underlying22 ty3 (by kernel_rfl) (by kernel_rfl) (by kernel_rfl))) (by kernel_rfl) ?_
          refine dCap (fun h1 => ?_)
          refine aOne (i := 8) (v := .ref 3 (List.length (xs6 ++ ([(IntKind.wrap .i64 (least1 + r11))] : List Int))) 0 (List.length (xs6 ++ ([(IntKind.wrap .i64 (least1 + r11))] : List Int)))) rfl (by kernel_rfl) (by kernel_rfl) (by kernel_rfl) (by kernel_rfl) (by kernel_rfl) (by kernel_rfl) (by kernel_rfl) (Does.acts (k_append (H' := [.box [.d (.lit (List.map e_i64 x)), .d (.int .i64 x2)], .box [.nilc], .box [.ref 3 (List.length xs6) 0 (List.length xs6)], .sl 1 (List.map e_i64 (xs6 ++ ([(IntKind.wrap .i64 (least1 + r11))] : List Int))) false, .sl 1 (List.map e_i64 ([0, 1, 2, 5, 0] : List Int)) false, .sl 1 (List.map e_i64 ([(IntKind.wrap .i64 (least1 + r11))] : List Int)) false]) (enc := e_i64) 3 xs6 ([(IntKind.wrap .i64 (least1 + r11))] : List Int) Try.underlying22 Try.underlying22 ty3 (by kernel_rfl) (by kernel_rfl) (by kernel_rfl) (holdsRef (enc := e_i64) 5 ([(IntKind.wrap .i64 (least1 + r11))] : List Int) false (by kernel_rfl) (by kernel_rfl)) h1 (by kernel_rfl))) (by kernel_rfl) ?_
          refine aTakeL (i := 9) (st' := []) (.ptr 2 0) rfl (by kernel_rfl) (by kernel_rfl) (by kernel_rfl) (by kernel_rfl) (by kernel_rfl) (by kernel_rfl) (by kernel_rfl) (PureV.quiet (k_fieldAddr 2 0 (by kernel_rfl) Try.underlying26 rfl ty22 (by kernel_rfl)) []) ?_
          refine aOne (i := 10) (v := .undef) rfl (by kernel_rfl) (by kernel_rfl) (by kernel_rfl) (by kernel_rfl) (by kernel_rfl) (by kernel_rfl) (by kernel_rfl) (Does.acts (k_store (vs := [.ref 3 (List.length (xs6 ++ ([(IntKind.wrap .i64 (least1 + r11))] : List Int))) 0 (List.length (xs6 ++ ([(IntKind.wrap .i64 (least1 + r11))] : List Int)))]) (H' := [.box [.d (.lit (List.map e_i64 x)), .d (.int .i64 x2)], .box [.nilc], .box [.ref 3 (List.length (xs6 ++ ([(IntKind.wrap .i64 (least1 + r11))] : List Int))) 0 (List.length (xs6 ++ ([(IntKind.wrap .i64 (least1 + r11))] : List Int)))], .sl 1 (List.map e_i64 (xs6 ++ ([(IntKind.wrap .i64 (least1 + r11))] : List Int))) false, .sl 1 (List.map e_i64 ([0, 1, 2, 5, 0] : List Int)) false, .sl 1 (List.map e_i64 ([(IntKind.wrap .i64 (least1 + r11))] : List Int)) false]) 2 0 (by kernel_rfl) ty22 (by kernel_rfl) (by kernel_rfl) (by kernel_rfl))) (by kernel_rfl) ?_
          refine aDone (by kernel_rfl) ?_
          refine oBlk ?_
          refine oRegion rfl ?_
          refine oOp (.d (.int .i64 i7)) (by kernel_rfl) (by kernel_rfl) (PureV.does (p_move (by kernel_rfl))) ?_
          refine oOp (.d (.int .i64 (IntKind.wrap .i64 (i7 - 1)))) (by kernel_rfl) (by kernel_rfl) (PureV.does (p_int (k := .i64) (p := i7) (q := 1) (by kernel_rfl) (by kernel_rfl) (by kernel_rfl))) ?_
          refine oOp (.d (.int .i64 (IntKind.wrap .i64 (i7 - 1)))) (by kernel_rfl) (by kernel_rfl) (PureV.does (p_assign (by kernel_rfl))) ?_
          refine oEnd ?_
          refine oAgain ?_
          refine oHead [0, 6, 7, 8, 9] [0, 1, 2, 3] (T' := [(0, .ptr 0 0), (6, .ptr 1 0), (7, .ptr 2 0), (8, .d (.int .i64 least1)), (9, .d (.int .i64 (IntKind.wrap .i64 (i7 - 1))))]) (H' := [.box [.d (.lit (List.map e_i64 x)), .d (.int .i64 x2)], .box [.nilc], .box [.ref 3 (List.length (xs6 ++ ([(IntKind.wrap .i64 (least1 + r11))] : List Int))) 0 (List.length (xs6 ++ ([(IntKind.wrap .i64 (least1 + r11))] : List Int)))], .sl 1 (List.map e_i64 (xs6 ++ ([(IntKind.wrap .i64 (least1 + r11))] : List Int))) false]) (by kernel_rfl) (by kernel_rfl) (by kernel_rfl) (by kernel_rfl) (by decide) (by kernel_rfl) (by kernel_rfl) ?_
          exact hag1 ((IntKind.wrap .i64 (i7 - 1)), x2, (xs6 ++ ([(IntKind.wrap .i64 (least1 + r11))] : List Int)))
        · refine oCondF (by kernel_rfl) ?_
          refine oExit rfl ?_
          refine oHead [6, 7] [0, 1, 2, 3] (T' := [(6, .ptr 1 0), (7, .ptr 2 0)]) (H' := [.box [.d (.lit (List.map e_i64 x)), .d (.int .i64 x11)], .box [.nilc], .box [.ref 3 (List.length xs6) 0 (List.length xs6)], .sl 1 (List.map e_i64 xs6) false]) (by kernel_rfl) (by kernel_rfl) (by kernel_rfl) (by kernel_rfl) (by decide) (by kernel_rfl) (by kernel_rfl) ?_
          exact hj4 (x11, xs6)
  · refine bSplit 10 (by kernel_rfl) (fun hc => ?_) (fun hc => ?_)
    · refine oCondT (by kernel_rfl) ?_
      refine oRegion rfl ?_
      refine oOp (.d (.int .i64 1)) (by kernel_rfl) (by kernel_rfl) (PureV.does (p_assign (by kernel_rfl))) ?_
      refine oEnd ?_
      refine oHead [0, 1, 6, 7, 8] [0, 1, 2] (T' := [(0, .ptr 0 0), (1, .d (.int .i64 n)), (6, .ptr 1 0), (7, .ptr 2 0), (8, .d (.int .i64 1))]) (H' := [.box [.d (.lit (List.map e_i64 x)), .d (.int .i64 x1)], .box [.nilc], .box [.nilc]]) (by kernel_rfl) (by kernel_rfl) (by kernel_rfl) (by kernel_rfl) (by decide) (by kernel_rfl) (by kernel_rfl) ?_
      exact hj3 1
    · refine oCondF (by kernel_rfl) ?_
      refine oSkip ?_
      refine oHead [0, 1, 6, 7, 8] [0, 1, 2] (T' := [(0, .ptr 0 0), (1, .d (.int .i64 n)), (6, .ptr 1 0), (7, .ptr 2 0), (8, .d (.int .i64 0))]) (H' := [.box [.d (.lit (List.map e_i64 x)), .d (.int .i64 x1)], .box [.nilc], .box [.nilc]]) (by kernel_rfl) (by kernel_rfl) (by kernel_rfl) (by kernel_rfl) (by decide) (by kernel_rfl) (by kernel_rfl) ?_
      exact hj3 0

/-- awardingbody/awardingbodyref01.Size -/
def ref01_Size (k : Nat) (n : Int) : Option (Int) := bif (decide (n < 0)) then some (IntKind.wrap .u64 ((IntKind.wrap .u64 (IntKind.wrap .i64 (0 - (IntKind.wrap .i64 (n + 1))))) + 1)) else some (IntKind.wrap .u64 n)
def ref01_Size_E (n : Int) : Int → V × List Blk := fun r1 => (.d (.int .u64 r1), [])
theorem ref01_Size_goes (k : Nat) (n : Int) : RunsO Try.prog 42 [.d (.int .i64 n)] [] (ref01_Size_E n) (ref01_Size k n) := by
  refine RunsO.of_goes (N := 12) (m := 0) (T := [(0, .d (.int .i64 n))]) Try.func42 rfl rfl (by kernel_rfl) (by kernel_rfl) (by kernel_rfl) ?_
  unfold ref01_Size
  refine bStart ?_
  refine oSeq ?_
  refine oRegion rfl ?_
  refine oOp (.d (.int .u64 0)) (by kernel_rfl) (by kernel_rfl) (PureV.does (p_assign (by kernel_rfl))) ?_
  refine oEnd ?_
  refine oSeq ?_
  refine oSeq ?_
  refine oRegion rfl ?_
  refine oOp (.d (.int .i64 n)) (by kernel_rfl) (by kernel_rfl) (PureV.does (p_move (by kernel_rfl))) ?_
  refine oOp (.d (.bool (decide (n < 0)))) (by kernel_rfl) (by kernel_rfl) (PureV.does (p_int (k := .i64) (p := n) (q := 0) (by kernel_rfl) (by kernel_rfl) (by kernel_rfl))) ?_
  refine oEnd ?_
  refine bSplit 4 (by kernel_rfl) (fun hc => ?_) (fun hc => ?_)
  · refine oCondT (by kernel_rfl) ?_
    refine oSeq ?_
    refine oRegion rfl ?_
    refine oOp (.d (.int .i64 n)) (by kernel_rfl) (by kernel_rfl) (PureV.does (p_move (by kernel_rfl))) ?_
    refine oOp (.d (.int .i64 (IntKind.wrap .i64 (n + 1)))) (by kernel_rfl) (by kernel_rfl) (PureV.does (p_int (k := .i64) (p := n) (q := 1) (by kernel_rfl) (by kernel_rfl) (by kernel_rfl))) ?_
    refine oOp (.d (.int .i64 (IntKind.wrap .i64 (0 - (IntKind.wrap .i64 (n + 1)))))) (by kernel_rfl) (by kernel_rfl) (PureV.does (p_neg (k := .i64) (p := (IntKind.wrap .i64 (n + 1))) (by kernel_rfl) (by kernel_rfl))) ?_
    refine oOp (.d (.int .u64 (IntKind.wrap .u64 (IntKind.wrap .i64 (0 - (IntKind.wrap .i64 (n + 1))))))) (by kernel_rfl) (by kernel_rfl) (PureV.does (p_conv (k := .i64) (p := (IntKind.wrap .i64 (0 - (IntKind.wrap .i64 (n + 1))))) (by kernel_rfl) Try.underlying3 Try.underlying61 (by kernel_rfl))) ?_
    refine oOp (.d (.int .u64 (IntKind.wrap .u64 ((IntKind.wrap .u64 (IntKind.wrap .i64 (0 - (IntKind.wrap .i64 (n + 1))))) + 1)))) (by kernel_rfl) (by kernel_rfl) (PureV.does (p_int (k := .u64) (p := (IntKind.wrap .u64 (IntKind.wrap .i64 (0 - (IntKind.wrap .i64 (n + 1)))))) (q := 1) (by kernel_rfl) (by kernel_rfl) (by kernel_rfl))) ?_
    refine oOp (.d (.int .u64 (IntKind.wrap .u64 ((IntKind.wrap .u64 (IntKind.wrap .i64 (0 - (IntKind.wrap .i64 (n + 1))))) + 1)))) (by kernel_rfl) (by kernel_rfl) (PureV.does (p_assign (by kernel_rfl))) ?_
    refine oEnd ?_
    exact oRet (r0 := (IntKind.wrap .u64 ((IntKind.wrap .u64 (IntKind.wrap .i64 (0 - (IntKind.wrap .i64 (n + 1))))) + 1))) (rv := .d (.int .u64 (IntKind.wrap .u64 ((IntKind.wrap .u64 (IntKind.wrap .i64 (0 - (IntKind.wrap .i64 (n + 1))))) + 1)))) (B := []) (vs := [.d (.int .u64 (IntKind.wrap .u64 ((IntKind.wrap .u64 (IntKind.wrap .i64 (0 - (IntKind.wrap .i64 (n + 1))))) + 1)))]) (σ := []) (by kernel_rfl) Try.func42 rfl (.cons _ _ _ _ (.tmp 2 _ (by kernel_rfl)) .nil) (by kernel_rfl) (by kernel_rfl) (by kernel_rfl) (by kernel_rfl) (by decide) (by kernel_rfl) (by kernel_rfl)
  · refine oCondF (by kernel_rfl) ?_
    refine oSkip ?_
    refine oSeq ?_
    refine oRegion rfl ?_
    refine oOp (.d (.int .i64 n)) (by kernel_rfl) (by kernel_rfl) (PureV.does (p_move (by kernel_rfl))) ?_
    refine oOp (.d (.int .u64 (IntKind.wrap .u64 n))) (by kernel_rfl) (by kernel_rfl) (PureV.does (p_conv (k := .i64) (p := n) (by kernel_rfl) Try.underlying3 Try.underlying61 (by kernel_rfl))) ?_
    refine oOp (.d (.int .u64 (IntKind.wrap .u64 n))) (by kernel_rfl) (by kernel_rfl) (PureV.does (p_assign (by kernel_rfl))) ?_
    refine oEnd ?_
    exact oRet (r0 := (IntKind.wrap .u64 n)) (rv := .d (.int .u64 (IntKind.wrap .u64 n))) (B := []) (vs := [.d (.int .u64 (IntKind.wrap .u64 n))]) (σ := []) (by kernel_rfl) Try.func42 rfl (.cons _ _ _ _ (.tmp 2 _ (by kernel_rfl)) .nil) (by kernel_rfl) (by kernel_rfl) (by kernel_rfl) (by kernel_rfl) (by decide) (by kernel_rfl) (by kernel_rfl)

/-- awardingbody/awardingbodyref01.Twice -/
def ref01_Twice (k : Nat) (a0 : Int) (a1 : Int) : Option (Int × Int) := some ((ior .u64 (IntKind.wrap .u64 (a0 * 2 ^ (min (Int.toNat 1) (IntKind.bits .u64)))) (Int.fdiv a1 (2 ^ (min (Int.toNat 63) (IntKind.bits .u64))))), (IntKind.wrap .u64 (a1 * 2 ^ (min (Int.toNat 1) (IntKind.bits .u64)))))
def ref01_Twice_E (a0 : Int) (a1 : Int) : Int × Int → V × List Blk := uc fun r1 => fun r11 => (.agg [.d (.int .u64 r1), .d (.int .u64 r11)], [])
theorem ref01_Twice_goes (k : Nat) (a0 : Int) (a1 : Int) : RunsO Try.prog 69 [.agg [.d (.int .u64 a0), .d (.int .u64 a1)]] [] (ref01_Twice_E a0 a1) (ref01_Twice k a0 a1) := by
  refine RunsO.of_goes (N := 14) (m := 0) (T := [(0, .agg [.d (.int .u64 a0), .d (.int .u64 a1)])]) Try.func69 rfl rfl (by kernel_rfl) (by kernel_rfl) (by kernel_rfl) ?_
  unfold ref01_Twice
  refine bStart ?_
  refine oSeq ?_
  refine oRegion rfl ?_
  refine oOp (.ptr 0 0) (by kernel_rfl) (by kernel_rfl) (k_box (H' := [.box [.d (.int .u64 a0), .d (.int .u64 a1)]]) (cells := [.d (.int .u64 a0), .d (.int .u64 a1)]) (by kernel_rfl) (by kernel_rfl) (by kernel_rfl)) ?_
  refine oOp (.ptr 1 0) (by kernel_rfl) (by kernel_rfl) (k_alloc (H' := [.box [.d (.int .u64 a0), .d (.int .u64 a1)], .box [.d (.int .u64 0), .d (.int .u64 0)]]) ty64 (by kernel_rfl) (by kernel_rfl)) ?_
  refine oEnd ?_
  refine oSeq ?_
  refine oRegion rfl ?_
  refine oOp (.ptr 0 0) (by kernel_rfl) (by kernel_rfl) (PureV.does (k_fieldAddr 0 0 (by kernel_rfl) Try.underlying64 rfl ty61 (by kernel_rfl))) ?_
  refine oOp (.d (.int .u64 a0)) (by kernel_rfl) (by kernel_rfl) (Quiet.does (k_load 0 0 (by kernel_rfl) Try.underlying61 (by kernel_rfl) (by kernel_rfl))) ?_
  refine oOp (.d (.int .u64 (IntKind.wrap .u64 (a0 * 2 ^ (min (Int.toNat 1) (IntKind.bits .u64)))))) (by kernel_rfl) (by kernel_rfl) (PureV.does (p_shl (k := .u64) (k2 := .u64) (p := a0) (q := 1) (by kernel_rfl) (by kernel_rfl) (by decide) (by kernel_rfl))) ?_
  refine oOp (.ptr 0 1) (by kernel_rfl) (by kernel_rfl) (PureV.does (k_fieldAddr 0 0 (by kernel_rfl) Try.underlying64 rfl ty61 (by kernel_rfl))) ?_
  refine oOp (.d (.int .u64 a1)) (by kernel_rfl) (by kernel_rfl) (Quiet.does (k_load 0 1 (by kernel_rfl) Try.underlying61 (by kernel_rfl) (by kernel_rfl))) ?_
  refine oOp (.d (.int .u64 (Int.fdiv a1 (2 ^ (min (Int.toNat 63) (IntKind.bits .u64)))))) (by kernel_rfl) (by kernel_rfl) (PureV.does (p_shr (k := .u64) (k2 := .u64) (p := a1) (q := 63) (by kernel_rfl) (by kernel_rfl) (by decide) (by kernel_rfl))) ?_
  refine oOp (.d (.int .u64 (ior .u64 (IntKind.wrap .u64 (a0 * 2 ^ (min (Int.toNat 1) (IntKind.bits .u64)))) (Int.fdiv a1 (2 ^ (min (Int.toNat 63) (IntKind.bits .u64))))))) (by kernel_rfl) (by kernel_rfl) (PureV.does (p_int (k := .u64) (p := (IntKind.wrap .u64 (a0 * 2 ^ (min (Int.toNat 1) (IntKind.bits .u64))))) (q := (Int.fdiv a1 (2 ^ (min (Int.toNat 63) (IntKind.bits .u64))))) (by kernel_rfl) (by kernel_rfl) (by kernel_rfl))) ?_
  refine oOp (.ptr 0 1) (by kernel_rfl) (by kernel_rfl) (PureV.does (k_fieldAddr 0 0 (by kernel_rfl) Try.underlying64 rfl ty61 (by kernel_rfl))) ?_
  refine oOp (.d (.int .u64 a1)) (by kernel_rfl) (by kernel_rfl) (Quiet.does (k_load 0 1 (by kernel_rfl) Try.underlying61 (by kernel_rfl) (by kernel_rfl))) ?_
  refine oOp (.d (.int .u64 (IntKind.wrap .u64 (a1 * 2 ^ (min (Int.toNat 1) (IntKind.bits .u64)))))) (by kernel_rfl) (by kernel_rfl) (PureV.does (p_shl (k := .u64) (k2 := .u64) (p := a1) (q := 1) (by kernel_rfl) (by kernel_rfl) (by decide) (by kernel_rfl))) ?_
  refine oOp (.agg [.d (.int .u64 (ior .u64 (IntKind.wrap .u64 (a0 * 2 ^ (min (Int.toNat 1) (IntKind.bits .u64)))) (Int.fdiv a1 (2 ^ (min (Int.toNat 63) (IntKind.bits .u64)))))), .d (.int .u64 (IntKind.wrap .u64 (a1 * 2 ^ (min (Int.toNat 1) (IntKind.bits .u64)))))]) (by kernel_rfl) (by kernel_rfl) (PureV.does (p_build bld64 (by kernel_rfl))) ?_
  refine oOp (.undef) (by kernel_rfl) (by kernel_rfl) (k_store (vs := [.d (.int .u64 (ior .u64 (IntKind.wrap .u64 (a0 * 2 ^ (min (Int.toNat 1) (IntKind.bits .u64)))) (Int.fdiv a1 (2 ^ (min (Int.toNat 63) (IntKind.bits .u64)))))), .d (.int .u64 (IntKind.wrap .u64 (a1 * 2 ^ (min (Int.toNat 1) (IntKind.bits .u64)))))]) (H' := [.box [.d (.int .u64 a0), .d (.int .u64 a1)], .box [.d (.int .u64 (ior .u64 (IntKind.wrap .u64 (a0 * 2 ^ (min (Int.toNat 1) (IntKind.bits .u64)))) (Int.fdiv a1 (2 ^ (min (Int.toNat 63) (IntKind.bits .u64)))))), .d (.int .u64 (IntKind.wrap .u64 (a1 * 2 ^ (min (Int.toNat 1) (IntKind.bits .u64)))))]]) 1 0 (by kernel_rfl) ty64 (by kernel_rfl) (by kernel_rfl) (by kernel_rfl)) ?_
  refine oEnd ?_
  exact oRet (r0 := ((ior .u64 (IntKind.wrap .u64 (a0 * 2 ^ (min (Int.toNat 1) (IntKind.bits .u64)))) (Int.fdiv a1 (2 ^ (min (Int.toNat 63) (IntKind.bits .u64))))), (IntKind.wrap .u64 (a1 * 2 ^ (min (Int.toNat 1) (IntKind.bits .u64)))))) (rv := .agg [.d (.int .u64 (ior .u64 (IntKind.wrap .u64 (a0 * 2 ^ (min (Int.toNat 1) (IntKind.bits .u64)))) (Int.fdiv a1 (2 ^ (min (Int.toNat 63) (IntKind.bits .u64)))))), .d (.int .u64 (IntKind.wrap .u64 (a1 * 2 ^ (min (Int.toNat 1) (IntKind.bits .u64)))))]) (B := []) (vs := [.agg [.d (.int .u64 (ior .u64 (IntKind.wrap .u64 (a0 * 2 ^ (min (Int.toNat 1) (IntKind.bits .u64)))) (Int.fdiv a1 (2 ^ (min (Int.toNat 63) (IntKind.bits .u64)))))), .d (.int .u64 (IntKind.wrap .u64 (a1 * 2 ^ (min (Int.toNat 1) (IntKind.bits .u64)))))]]) (σ := []) (by kernel_rfl) Try.func69 rfl (.cons _ _ _ _ (.agg 2 64 1 0 [.d (.int .u64 (ior .u64 (IntKind.wrap .u64 (a0 * 2 ^ (min (Int.toNat 1) (IntKind.bits .u64)))) (Int.fdiv a1 (2 ^ (min (Int.toNat 63) (IntKind.bits .u64)))))), .d (.int .u64 (IntKind.wrap .u64 (a1 * 2 ^ (min (Int.toNat 1) (IntKind.bits .u64)))))] [.d (.int .u64 (ior .u64 (IntKind.wrap .u64 (a0 * 2 ^ (min (Int.toNat 1) (IntKind.bits .u64)))) (Int.fdiv a1 (2 ^ (min (Int.toNat 63) (IntKind.bits .u64)))))), .d (.int .u64 (IntKind.wrap .u64 (a1 * 2 ^ (min (Int.toNat 1) (IntKind.bits .u64)))))] _ _ _ _ (by kernel_rfl) (by kernel_rfl) Try.underlying64 (by kernel_rfl) ty64 (by kernel_rfl) (by kernel_rfl)) .nil) (by kernel_rfl) (by kernel_rfl) (by kernel_rfl) (by kernel_rfl) (by decide) (by kernel_rfl) (by kernel_rfl)

end Go.VM
