/- Plain functions that answer as the program's functions do, and the proof that they do. -/
import Derived.Test.YtgfejdekpmkffaaProg
import Derived.KernelRfl
import Derived.Test.YtgfejdekpmkffaaEngW
import Derived.Test.YtgfejdekpmkffaaRFacts
import Derived.Test.YtgfejdekpmkffaaRFuns0
import Derived.Test.YtgfejdekpmkffaaRFuns1
namespace Go.VM
open Go.Proofs
set_option linter.unusedVariables false
set_option linter.unusedSimpArgs false
set_option maxRecDepth 100000
/-- (awardingbody/ratio.wide).compare -/
def ratio_wide_compare (k : Nat) (w0 : Bool) (w1 : Int) (w2 : Int) (v0 : Bool) (v1 : Int) (v2 : Int) : Option (Int) := blet ((w1 != v1) && (decide (w1 < v1))) fun x13 => Option.bind (bif x13 then some true else blet ((w1 == v1) && (decide (w2 < v2))) fun x18 => some x18 : Option (Bool)) (fun x15 => bif x15 then some (-1) else blet ((w1 == v1) && (w2 == v2)) fun x17 => bif x17 then some 0 else some 1)
def ratio_wide_compare_E (w0 : Bool) (w1 : Int) (w2 : Int) (v0 : Bool) (v1 : Int) (v2 : Int) : Int → V × List Blk := fun r1 => (.d (.int .i64 r1), [])
theorem ratio_wide_compare_goes (k : Nat) (w0 : Bool) (w1 : Int) (w2 : Int) (v0 : Bool) (v1 : Int) (v2 : Int) : RunsO Try.prog 56 [.agg [.d (.bool w0), .d (.int .u64 w1), .d (.int .u64 w2)], .agg [.d (.bool v0), .d (.int .u64 v1), .d (.int .u64 v2)]] [] (ratio_wide_compare_E w0 w1 w2 v0 v1 v2) (ratio_wide_compare k w0 w1 w2 v0 v1 v2) := by
  refine RunsO.of_goes (N := 43) (m := 0) (T := [(0, .agg [.d (.bool w0), .d (.int .u64 w1), .d (.int .u64 w2)]), (1, .agg [.d (.bool v0), .d (.int .u64 v1), .d (.int .u64 v2)])]) Try.func56 rfl rfl (by kernel_rfl) (by kernel_rfl) (by kernel_rfl) ?_
  unfold ratio_wide_compare
  refine bStart ?_
  refine oSeq ?_
  refine oRegion rfl ?_
  refine oOp (.ptr 0 0) (by kernel_rfl) (by kernel_rfl) (k_box (H' := [.box [.d (.bool w0), .d (.int .u64 w1), .d (.int .u64 w2)]]) (cells := [.d (.bool w0), .d (.int .u64 w1), .d (.int .u64 w2)]) (by kernel_rfl) (by kernel_rfl) (by kernel_rfl)) ?_
  refine oOp (.ptr 1 0) (by kernel_rfl) (by kernel_rfl) (k_box (H' := [.box [.d (.bool w0), .d (.int .u64 w1), .d (.int .u64 w2)], .box [.d (.bool v0), .d (.int .u64 v1), .d (.int .u64 v2)]]) (cells := [.d (.bool v0), .d (.int .u64 v1), .d (.int .u64 v2)]) (by kernel_rfl) (by kernel_rfl) (by kernel_rfl)) ?_
  refine oOp (.d (.int .i64 0)) (by kernel_rfl) (by kernel_rfl) (PureV.does (p_assign (by kernel_rfl))) ?_
  refine oEnd ?_
  refine oSeq ?_
  refine oBlock ?_
  refine oSeq ?_
  refine oSeq ?_
  refine oRegion rfl ?_
  refine oOp (.ptr 0 1) (by kernel_rfl) (by kernel_rfl) (PureV.does (k_fieldAddr 0 0 (by kernel_rfl) Try.underlying71 rfl ty56 (by kernel_rfl))) ?_
  refine oOp (.d (.int .u64 w1)) (by kernel_rfl) (by kernel_rfl) (Quiet.does (k_load 0 1 (by kernel_rfl) Try.underlying56 (by kernel_rfl) (by kernel_rfl))) ?_
  refine oOp (.ptr 1 1) (by kernel_rfl) (by kernel_rfl) (PureV.does (k_fieldAddr 1 0 (by kernel_rfl) Try.underlying71 rfl ty56 (by kernel_rfl))) ?_
  refine oOp (.d (.int .u64 v1)) (by kernel_rfl) (by kernel_rfl) (Quiet.does (k_load 1 1 (by kernel_rfl) Try.underlying56 (by kernel_rfl) (by kernel_rfl))) ?_
  refine oOp (.d (.bool (w1 != v1))) (by kernel_rfl) (by kernel_rfl) (PureV.does (p_int (k := .u64) (p := w1) (q := v1) (by kernel_rfl) (by kernel_rfl) (by kernel_rfl))) ?_
  refine oOp (.d (.bool (w1 != v1))) (by kernel_rfl) (by kernel_rfl) (PureV.does (p_move (by kernel_rfl))) ?_
  refine bMeetF (H' := [.box [.d (.bool w0), .d (.int .u64 w1), .d (.int .u64 w2)], .box [.d (.bool v0), .d (.int .u64 v1), .d (.int .u64 v2)]]) 6 rfl ((fun (x13 : Bool) => [(2, .ptr 0 0), (3, .ptr 1 0), (17, .d (.bool x13))])) (fun x13 => ?_) (fun F hj4 => ?_)
  · refine oView (T' := [(2, .ptr 0 0), (3, .ptr 1 0), (17, .d (.bool x13))]) (H' := [.box [.d (.bool w0), .d (.int .u64 w1), .d (.int .u64 w2)], .box [.d (.bool v0), .d (.int .u64 v1), .d (.int .u64 v2)]]) (by kernel_rfl) (by kernel_rfl) ?_
    refine oOp (.d (.bool x13)) (by kernel_rfl) (by kernel_rfl) (PureV.does (p_assign (by kernel_rfl))) ?_
    refine oEnd ?_
    refine bJoin ((fun (x15 : Bool) => [(2, .ptr 0 0), (3, .ptr 1 0), (5, .d (.bool x15))])) ((fun (x15 : Bool) => [.box [.d (.bool w0), .d (.int .u64 w1), .d (.int .u64 w2)], .box [.d (.bool v0), .d (.int .u64 v1), .d (.int .u64 v2)]])) (fun s => s) (fun x15 => ?_) (fun hj5 => ?_)
    · refine oView (T' := [(2, .ptr 0 0), (3, .ptr 1 0), (5, .d (.bool x15))]) (H' := [.box [.d (.bool w0), .d (.int .u64 w1), .d (.int .u64 w2)], .box [.d (.bool v0), .d (.int .u64 v1), .d (.int .u64 v2)]]) (by kernel_rfl) (by kernel_rfl) ?_
      refine bSplit 5 (by kernel_rfl) (fun hc => ?_) (fun hc => ?_)
      · refine oCondT (by kernel_rfl) ?_
        refine oSeq ?_
        refine oRegion rfl ?_
        refine oOp (.d (.int .i64 (-1))) (by kernel_rfl) (by kernel_rfl) (PureV.does (p_assign (by kernel_rfl))) ?_
        refine oEnd ?_
        exact oRet (r0 := (-1)) (rv := .d (.int .i64 (-1))) (B := []) (vs := [.d (.int .i64 (-1))]) (σ := []) (by kernel_rfl) Try.func56 rfl (.cons _ _ _ _ (.tmp 4 _ (by kernel_rfl)) .nil) (by kernel_rfl) (by kernel_rfl) (by kernel_rfl) (by kernel_rfl) (by decide) (by kernel_rfl) (by kernel_rfl)
      · refine oCondF (by kernel_rfl) ?_
        refine oSeq ?_
        refine oRegion rfl ?_
        refine oOp (.ptr 0 1) (by kernel_rfl) (by kernel_rfl) (PureV.does (k_fieldAddr 0 0 (by kernel_rfl) Try.underlying71 rfl ty56 (by kernel_rfl))) ?_
        refine oOp (.d (.int .u64 w1)) (by kernel_rfl) (by kernel_rfl) (Quiet.does (k_load 0 1 (by kernel_rfl) Try.underlying56 (by kernel_rfl) (by kernel_rfl))) ?_
        refine oOp (.ptr 1 1) (by kernel_rfl) (by kernel_rfl) (PureV.does (k_fieldAddr 1 0 (by kernel_rfl) Try.underlying71 rfl ty56 (by kernel_rfl))) ?_
        refine oOp (.d (.int .u64 v1)) (by kernel_rfl) (by kernel_rfl) (Quiet.does (k_load 1 1 (by kernel_rfl) Try.underlying56 (by kernel_rfl) (by kernel_rfl))) ?_
        refine oOp (.d (.bool (w1 == v1))) (by kernel_rfl) (by kernel_rfl) (PureV.does (p_int (k := .u64) (p := w1) (q := v1) (by kernel_rfl) (by kernel_rfl) (by kernel_rfl))) ?_
        refine oOp (.d (.bool (w1 == v1))) (by kernel_rfl) (by kernel_rfl) (PureV.does (p_move (by kernel_rfl))) ?_
        refine bMeetF (H' := []) 6 rfl ((fun (x17 : Bool) => [(42, .d (.bool x17))])) (fun x17 => ?_) (fun F hj6 => ?_)
        · refine oView (T' := [(42, .d (.bool x17))]) (H' := []) (by kernel_rfl) (by kernel_rfl) ?_
          refine oOp (.d (.bool x17)) (by kernel_rfl) (by kernel_rfl) (PureV.does (p_assign (by kernel_rfl))) ?_
          refine oEnd ?_
          refine bSplit 30 (by kernel_rfl) (fun hc => ?_) (fun hc => ?_)
          · refine oCondT (by kernel_rfl) ?_
            refine oSeq ?_
            refine oRegion rfl ?_
            refine oOp (.d (.int .i64 0)) (by kernel_rfl) (by kernel_rfl) (PureV.does (p_assign (by kernel_rfl))) ?_
            refine oEnd ?_
            exact oRet (r0 := 0) (rv := .d (.int .i64 0)) (B := []) (vs := [.d (.int .i64 0)]) (σ := []) (by kernel_rfl) Try.func56 rfl (.cons _ _ _ _ (.tmp 4 _ (by kernel_rfl)) .nil) (by kernel_rfl) (by kernel_rfl) (by kernel_rfl) (by kernel_rfl) (by decide) (by kernel_rfl) (by kernel_rfl)
          · refine oCondF (by kernel_rfl) ?_
            refine oSkip ?_
            refine oBlk ?_
            refine oSeq ?_
            refine oRegion rfl ?_
            refine oOp (.d (.int .i64 1)) (by kernel_rfl) (by kernel_rfl) (PureV.does (p_assign (by kernel_rfl))) ?_
            refine oEnd ?_
            exact oRet (r0 := 1) (rv := .d (.int .i64 1)) (B := []) (vs := [.d (.int .i64 1)]) (σ := []) (by kernel_rfl) Try.func56 rfl (.cons _ _ _ _ (.tmp 4 _ (by kernel_rfl)) .nil) (by kernel_rfl) (by kernel_rfl) (by kernel_rfl) (by kernel_rfl) (by decide) (by kernel_rfl) (by kernel_rfl)
        · refine bPickF 36 (fun c => F (c && (w2 == v2))) (by kernel_rfl) (fun hc => ?_) (fun hc => ?_)
          · refine oOp (.ptr 0 2) (by kernel_rfl) (by kernel_rfl) (PureV.does (k_fieldAddr 0 0 (by kernel_rfl) Try.underlying71 rfl ty56 (by kernel_rfl))) ?_
            refine oOp (.d (.int .u64 w2)) (by kernel_rfl) (by kernel_rfl) (Quiet.does (k_load 0 2 (by kernel_rfl) Try.underlying56 (by kernel_rfl) (by kernel_rfl))) ?_
            refine oOp (.ptr 1 2) (by kernel_rfl) (by kernel_rfl) (PureV.does (k_fieldAddr 1 0 (by kernel_rfl) Try.underlying71 rfl ty56 (by kernel_rfl))) ?_
            refine oOp (.d (.int .u64 v2)) (by kernel_rfl) (by kernel_rfl) (Quiet.does (k_load 1 2 (by kernel_rfl) Try.underlying56 (by kernel_rfl) (by kernel_rfl))) ?_
            refine oOp (.d (.bool (w2 == v2))) (by kernel_rfl) (by kernel_rfl) (PureV.does (p_int (k := .u64) (p := w2) (q := v2) (by kernel_rfl) (by kernel_rfl) (by kernel_rfl))) ?_
            refine oOp (.d (.bool (w2 == v2))) (by kernel_rfl) (by kernel_rfl) (PureV.does (p_pick (b := true) (by kernel_rfl) (by kernel_rfl))) ?_
            refine oHead [42] [] (T' := [(42, .d (.bool (w2 == v2)))]) (H' := []) (by kernel_rfl) (by kernel_rfl) (by kernel_rfl) (by kernel_rfl) (by decide) (by kernel_rfl) (by kernel_rfl) ?_
            exact hj6 (w2 == v2)
          · refine oNot (by kernel_rfl) (by kernel_rfl) ?_
            refine oNot (by kernel_rfl) (by kernel_rfl) ?_
            refine oNot (by kernel_rfl) (by kernel_rfl) ?_
            refine oNot (by kernel_rfl) (by kernel_rfl) ?_
            refine oNot (by kernel_rfl) (by kernel_rfl) ?_
            refine oOp (.d (.bool false)) (by kernel_rfl) (by kernel_rfl) (PureV.does (p_pick (b := false) (by kernel_rfl) (by kernel_rfl))) ?_
            refine oHead [42] [] (T' := [(42, .d (.bool false))]) (H' := []) (by kernel_rfl) (by kernel_rfl) (by kernel_rfl) (by kernel_rfl) (by decide) (by kernel_rfl) (by kernel_rfl) ?_
            exact hj6 false
    · refine bSplit 5 (by kernel_rfl) (fun hc => ?_) (fun hc => ?_)
      · refine oCondT (by kernel_rfl) ?_
        refine oSkip ?_
        refine oHead [2, 3, 5] [0, 1] (T' := [(2, .ptr 0 0), (3, .ptr 1 0), (5, .d (.bool true))]) (H' := [.box [.d (.bool w0), .d (.int .u64 w1), .d (.int .u64 w2)], .box [.d (.bool v0), .d (.int .u64 v1), .d (.int .u64 v2)]]) (by kernel_rfl) (by kernel_rfl) (by kernel_rfl) (by kernel_rfl) (by decide) (by kernel_rfl) (by kernel_rfl) ?_
        exact hj5 true
      · refine oCondF (by kernel_rfl) ?_
        refine oRegion rfl ?_
        refine oOp (.ptr 0 1) (by kernel_rfl) (by kernel_rfl) (PureV.does (k_fieldAddr 0 0 (by kernel_rfl) Try.underlying71 rfl ty56 (by kernel_rfl))) ?_
        refine oOp (.d (.int .u64 w1)) (by kernel_rfl) (by kernel_rfl) (Quiet.does (k_load 0 1 (by kernel_rfl) Try.underlying56 (by kernel_rfl) (by kernel_rfl))) ?_
        refine oOp (.ptr 1 1) (by kernel_rfl) (by kernel_rfl) (PureV.does (k_fieldAddr 1 0 (by kernel_rfl) Try.underlying71 rfl ty56 (by kernel_rfl))) ?_
        refine oOp (.d (.int .u64 v1)) (by kernel_rfl) (by kernel_rfl) (Quiet.does (k_load 1 1 (by kernel_rfl) Try.underlying56 (by kernel_rfl) (by kernel_rfl))) ?_
        refine oOp (.d (.bool (w1 == v1))) (by kernel_rfl) (by kernel_rfl) (PureV.does (p_int (k := .u64) (p := w1) (q := v1) (by kernel_rfl) (by kernel_rfl) (by kernel_rfl))) ?_
        refine oOp (.d (.bool (w1 == v1))) (by kernel_rfl) (by kernel_rfl) (PureV.does (p_move (by kernel_rfl))) ?_
        refine bMeetF (H' := [.box [.d (.bool w0), .d (.int .u64 w1), .d (.int .u64 w2)], .box [.d (.bool v0), .d (.int .u64 v1), .d (.int .u64 v2)]]) 6 rfl ((fun (x18 : Bool) => [(2, .ptr 0 0), (3, .ptr 1 0), (29, .d (.bool x18))])) (fun x18 => ?_) (fun F hj7 => ?_)
        · refine oView (T' := [(2, .ptr 0 0), (3, .ptr 1 0), (29, .d (.bool x18))]) (H' := [.box [.d (.bool w0), .d (.int .u64 w1), .d (.int .u64 w2)], .box [.d (.bool v0), .d (.int .u64 v1), .d (.int .u64 v2)]]) (by kernel_rfl) (by kernel_rfl) ?_
          refine oOp (.d (.bool x18)) (by kernel_rfl) (by kernel_rfl) (PureV.does (p_assign (by kernel_rfl))) ?_
          refine oEnd ?_
          refine oHead [2, 3, 5] [0, 1] (T' := [(2, .ptr 0 0), (3, .ptr 1 0), (5, .d (.bool x18))]) (H' := [.box [.d (.bool w0), .d (.int .u64 w1), .d (.int .u64 w2)], .box [.d (.bool v0), .d (.int .u64 v1), .d (.int .u64 v2)]]) (by kernel_rfl) (by kernel_rfl) (by kernel_rfl) (by kernel_rfl) (by decide) (by kernel_rfl) (by kernel_rfl) ?_
          exact hj5 x18
        · refine bPickF 23 (fun c => F (c && (decide (w2 < v2)))) (by kernel_rfl) (fun hc => ?_) (fun hc => ?_)
          · refine oOp (.ptr 0 2) (by kernel_rfl) (by kernel_rfl) (PureV.does (k_fieldAddr 0 0 (by kernel_rfl) Try.underlying71 rfl ty56 (by kernel_rfl))) ?_
            refine oOp (.d (.int .u64 w2)) (by kernel_rfl) (by kernel_rfl) (Quiet.does (k_load 0 2 (by kernel_rfl) Try.underlying56 (by kernel_rfl) (by kernel_rfl))) ?_
            refine oOp (.ptr 1 2) (by kernel_rfl) (by kernel_rfl) (PureV.does (k_fieldAddr 1 0 (by kernel_rfl) Try.underlying71 rfl ty56 (by kernel_rfl))) ?_
            refine oOp (.d (.int .u64 v2)) (by kernel_rfl) (by kernel_rfl) (Quiet.does (k_load 1 2 (by kernel_rfl) Try.underlying56 (by kernel_rfl) (by kernel_rfl))) ?_
            refine oOp (.d (.bool (decide (w2 < v2)))) (by kernel_rfl) (by kernel_rfl) (PureV.does (p_int (k := .u64) (p := w2) (q := v2) (by kernel_rfl) (by kernel_rfl) (by kernel_rfl))) ?_
            refine oOp (.d (.bool (decide (w2 < v2)))) (by kernel_rfl) (by kernel_rfl) (PureV.does (p_pick (b := true) (by kernel_rfl) (by kernel_rfl))) ?_
            refine oHead [2, 3, 29] [0, 1] (T' := [(2, .ptr 0 0), (3, .ptr 1 0), (29, .d (.bool (decide (w2 < v2))))]) (H' := [.box [.d (.bool w0), .d (.int .u64 w1), .d (.int .u64 w2)], .box [.d (.bool v0), .d (.int .u64 v1), .d (.int .u64 v2)]]) (by kernel_rfl) (by kernel_rfl) (by kernel_rfl) (by kernel_rfl) (by decide) (by kernel_rfl) (by kernel_rfl) ?_
            exact hj7 (decide (w2 < v2))
          · refine oNot (by kernel_rfl) (by kernel_rfl) ?_
            refine oNot (by kernel_rfl) (by kernel_rfl) ?_
            refine oNot (by kernel_rfl) (by kernel_rfl) ?_
            refine oNot (by kernel_rfl) (by kernel_rfl) ?_
            refine oNot (by kernel_rfl) (by kernel_rfl) ?_
            refine oOp (.d (.bool false)) (by kernel_rfl) (by kernel_rfl) (PureV.does (p_pick (b := false) (by kernel_rfl) (by kernel_rfl))) ?_
            refine oHead [2, 3, 29] [0, 1] (T' := [(2, .ptr 0 0), (3, .ptr 1 0), (29, .d (.bool false))]) (H' := [.box [.d (.bool w0), .d (.int .u64 w1), .d (.int .u64 w2)], .box [.d (.bool v0), .d (.int .u64 v1), .d (.int .u64 v2)]]) (by kernel_rfl) (by kernel_rfl) (by kernel_rfl) (by kernel_rfl) (by decide) (by kernel_rfl) (by kernel_rfl) ?_
            exact hj7 false
  · refine bPickF 11 (fun c => F (c && (decide (w1 < v1)))) (by kernel_rfl) (fun hc => ?_) (fun hc => ?_)
    · refine oOp (.ptr 0 1) (by kernel_rfl) (by kernel_rfl) (PureV.does (k_fieldAddr 0 0 (by kernel_rfl) Try.underlying71 rfl ty56 (by kernel_rfl))) ?_
      refine oOp (.d (.int .u64 w1)) (by kernel_rfl) (by kernel_rfl) (Quiet.does (k_load 0 1 (by kernel_rfl) Try.underlying56 (by kernel_rfl) (by kernel_rfl))) ?_
      refine oOp (.ptr 1 1) (by kernel_rfl) (by kernel_rfl) (PureV.does (k_fieldAddr 1 0 (by kernel_rfl) Try.underlying71 rfl ty56 (by kernel_rfl))) ?_
      refine oOp (.d (.int .u64 v1)) (by kernel_rfl) (by kernel_rfl) (Quiet.does (k_load 1 1 (by kernel_rfl) Try.underlying56 (by kernel_rfl) (by kernel_rfl))) ?_
      refine oOp (.d (.bool (decide (w1 < v1)))) (by kernel_rfl) (by kernel_rfl) (PureV.does (p_int (k := .u64) (p := w1) (q := v1) (by kernel_rfl) (by kernel_rfl) (by kernel_rfl))) ?_
      refine oOp (.d (.bool (decide (w1 < v1)))) (by kernel_rfl) (by kernel_rfl) (PureV.does (p_pick (b := true) (by kernel_rfl) (by kernel_rfl))) ?_
      refine oHead [2, 3, 17] [0, 1] (T' := [(2, .ptr 0 0), (3, .ptr 1 0), (17, .d (.bool (decide (w1 < v1))))]) (H' := [.box [.d (.bool w0), .d (.int .u64 w1), .d (.int .u64 w2)], .box [.d (.bool v0), .d (.int .u64 v1), .d (.int .u64 v2)]]) (by kernel_rfl) (by kernel_rfl) (by kernel_rfl) (by kernel_rfl) (by decide) (by kernel_rfl) (by kernel_rfl) ?_
      exact hj4 (decide (w1 < v1))
    · refine oNot (by kernel_rfl) (by kernel_rfl) ?_
      refine oNot (by kernel_rfl) (by kernel_rfl) ?_
      refine oNot (by kernel_rfl) (by kernel_rfl) ?_
      refine oNot (by kernel_rfl) (by kernel_rfl) ?_
      refine oNot (by kernel_rfl) (by kernel_rfl) ?_
      refine oOp (.d (.bool false)) (by kernel_rfl) (by kernel_rfl) (PureV.does (p_pick (b := false) (by kernel_rfl) (by kernel_rfl))) ?_
      refine oHead [2, 3, 17] [0, 1] (T' := [(2, .ptr 0 0), (3, .ptr 1 0), (17, .d (.bool false))]) (H' := [.box [.d (.bool w0), .d (.int .u64 w1), .d (.int .u64 w2)], .box [.d (.bool v0), .d (.int .u64 v1), .d (.int .u64 v2)]]) (by kernel_rfl) (by kernel_rfl) (by kernel_rfl) (by kernel_rfl) (by decide) (by kernel_rfl) (by kernel_rfl) ?_
      exact hj4 false

/-- awardingbody/ratio.Compare -/
def ratio_Compare (k : Nat) (a0 : Int) (a1 : Int) (b0 : Int) (b1 : Int) : Option (Int) := Option.bind (ratio_Valid k a0 a1) (fun r124 => Option.bind (bif (!r124) then some true else Option.bind (ratio_Valid k b0 b1) (fun r126 => some (!r126)) : Option (Bool)) (fun x6 => bif x6 then some 0 else Option.bind (ratio_times k a0 (IntKind.wrap .u64 b1)) (uc fun r122 => fun r13 => Option.bind (ratio_times k b0 (IntKind.wrap .u64 a1)) (uc fun r123 => fun r131 => blet ((decide (a0 < 0)) && (!(decide (b0 < 0)))) fun x9 => bif x9 then some (-1) else blet ((decide (b0 < 0)) && (!(decide (a0 < 0)))) fun x11 => bif x11 then some 1 else bif (decide (a0 < 0)) then Option.bind (ratio_wide_compare k (decide (b0 < 0)) r123 r131 (decide (a0 < 0)) r122 r13) (fun r113 => some r113) else Option.bind (ratio_wide_compare k (decide (a0 < 0)) r122 r13 (decide (b0 < 0)) r123 r131) (fun r114 => some r114)))))
def ratio_Compare_E (a0 : Int) (a1 : Int) (b0 : Int) (b1 : Int) : Int → V × List Blk := fun r18 => (.d (.int .i64 r18), [])
theorem ratio_Compare_goes (k : Nat) (a0 : Int) (a1 : Int) (b0 : Int) (b1 : Int) : RunsO Try.prog 47 [.agg [.d (.int .i64 a0), .d (.int .i64 a1)], .agg [.d (.int .i64 b0), .d (.int .i64 b1)]] [] (ratio_Compare_E a0 a1 b0 b1) (ratio_Compare k a0 a1 b0 b1) := by
  refine RunsO.of_goes (N := 52) (m := 0) (T := [(0, .agg [.d (.int .i64 a0), .d (.int .i64 a1)]), (1, .agg [.d (.int .i64 b0), .d (.int .i64 b1)])]) Try.func47 rfl rfl (by kernel_rfl) (by kernel_rfl) (by kernel_rfl) ?_
  unfold ratio_Compare
  refine bStart ?_
  refine oSeq ?_
  refine oRegion rfl ?_
  refine oOp (.ptr 0 0) (by kernel_rfl) (by kernel_rfl) (k_box (H' := [.box [.d (.int .i64 a0), .d (.int .i64 a1)]]) (cells := [.d (.int .i64 a0), .d (.int .i64 a1)]) (by kernel_rfl) (by kernel_rfl) (by kernel_rfl)) ?_
  refine oOp (.ptr 1 0) (by kernel_rfl) (by kernel_rfl) (k_box (H' := [.box [.d (.int .i64 a0), .d (.int .i64 a1)], .box [.d (.int .i64 b0), .d (.int .i64 b1)]]) (cells := [.d (.int .i64 b0), .d (.int .i64 b1)]) (by kernel_rfl) (by kernel_rfl) (by kernel_rfl)) ?_
  refine oOp (.d (.int .i64 0)) (by kernel_rfl) (by kernel_rfl) (PureV.does (p_assign (by kernel_rfl))) ?_
  refine oEnd ?_
  refine oSeq ?_
  refine oSeq ?_
  refine oRegion rfl ?_
  refine oOp (.agg [.d (.int .i64 a0), .d (.int .i64 a1)]) (by kernel_rfl) (by kernel_rfl) (Quiet.does (k_loadAgg 0 0 (by kernel_rfl) Try.underlying40 (by kernel_rfl) ty40 (by kernel_rfl))) ?_
  refine bCall (caps := []) (v := (fun (r124 : Bool) => (.d (.bool r124) : V))) (H' := (fun (r124 : Bool) => ([.box [.d (.int .i64 a0), .d (.int .i64 a1)], .box [.d (.int .i64 b0), .d (.int .i64 b1)]] : List Blk))) [] _ (ratio_Valid_goes k a0 a1) (by kernel_rfl) (by kernel_rfl) rfl (by kernel_rfl) Try.func43 rfl (by kernel_rfl) (ConvRs.refl _ _) (by kernel_rfl) (by kernel_rfl) (by kernel_rfl) (by decide) (by kernel_rfl) (by kernel_rfl) (fun _ => (by kernel_rfl)) (fun _ => (by kernel_rfl)) (fun _ => (by kernel_rfl)) (fun r124 => ?_)
  refine oOp (.d (.bool (!r124))) (by kernel_rfl) (by kernel_rfl) (PureV.does (p_not (p := r124) (by kernel_rfl) (by kernel_rfl))) ?_
  refine oOp (.d (.bool (!r124))) (by kernel_rfl) (by kernel_rfl) (PureV.does (p_move (by kernel_rfl))) ?_
  refine bMeet 4 rfl ((fun (x6 : Bool) => [(2, .ptr 0 0), (3, .ptr 1 0), (14, .d (.bool x6))])) ((fun (x6 : Bool) => [.box [.d (.int .i64 a0), .d (.int .i64 a1)], .box [.d (.int .i64 b0), .d (.int .i64 b1)]])) (fun s => s) (fun x6 => ?_) (fun hj3 => ?_)
  · refine oView (T' := [(2, .ptr 0 0), (3, .ptr 1 0), (14, .d (.bool x6))]) (H' := [.box [.d (.int .i64 a0), .d (.int .i64 a1)], .box [.d (.int .i64 b0), .d (.int .i64 b1)]]) (by kernel_rfl) (by kernel_rfl) ?_
    refine oEnd ?_
    refine bSplit 14 (by kernel_rfl) (fun hc => ?_) (fun hc => ?_)
    · refine oCondT (by kernel_rfl) ?_
      refine oSeq ?_
      refine oRegion rfl ?_
      refine oOp (.d (.int .i64 0)) (by kernel_rfl) (by kernel_rfl) (PureV.does (p_assign (by kernel_rfl))) ?_
      refine oEnd ?_
      exact oRet (r0 := 0) (rv := .d (.int .i64 0)) (B := []) (vs := [.d (.int .i64 0)]) (σ := []) (by kernel_rfl) Try.func47 rfl (.cons _ _ _ _ (.tmp 4 _ (by kernel_rfl)) .nil) (by kernel_rfl) (by kernel_rfl) (by kernel_rfl) (by kernel_rfl) (by decide) (by kernel_rfl) (by kernel_rfl)
    · refine oCondF (by kernel_rfl) ?_
      refine oSkip ?_
      refine oSeq ?_
      refine oDraw [(0, 16), (1, 16)] rfl ?_
      refine aTakeL (i := 0) (st' := []) (.ptr 0 0) rfl (by kernel_rfl) (by kernel_rfl) (by kernel_rfl) (by kernel_rfl) (by kernel_rfl) (by kernel_rfl) (by kernel_rfl) (PureV.quiet (k_fieldAddr 0 0 (by kernel_rfl) Try.underlying40 rfl ty3 (by kernel_rfl)) []) ?_
      refine aTakeL (i := 1) (st' := [0]) (.d (.int .i64 a0)) rfl (by kernel_rfl) (by kernel_rfl) (by kernel_rfl) (by kernel_rfl) (by kernel_rfl) (by kernel_rfl) (by kernel_rfl) (k_load 0 0 (by kernel_rfl) Try.underlying3 (by kernel_rfl) (by kernel_rfl)) ?_
      refine aTakeL (i := 2) (st' := []) (.ptr 1 1) rfl (by kernel_rfl) (by kernel_rfl) (by kernel_rfl) (by kernel_rfl) (by kernel_rfl) (by kernel_rfl) (by kernel_rfl) (PureV.quiet (k_fieldAddr 1 0 (by kernel_rfl) Try.underlying40 rfl ty3 (by kernel_rfl)) []) ?_
      refine aTakeL (i := 3) (st' := [1]) (.d (.int .i64 b1)) rfl (by kernel_rfl) (by kernel_rfl) (by kernel_rfl) (by kernel_rfl) (by kernel_rfl) (by kernel_rfl) (by kernel_rfl) (k_load 1 1 (by kernel_rfl) Try.underlying3 (by kernel_rfl) (by kernel_rfl)) ?_
      refine aTakeL (i := 4) (st' := []) (.d (.int .u64 (IntKind.wrap .u64 b1))) rfl (by kernel_rfl) (by kernel_rfl) (by kernel_rfl) (by kernel_rfl) (by kernel_rfl) (by kernel_rfl) (by kernel_rfl) (PureV.quiet (p_conv (k := .i64) (p := b1) (by kernel_rfl) Try.underlying3 Try.underlying56 (by kernel_rfl)) []) ?_
      refine aTakeL (i := 6) (st' := []) (.ptr 1 0) rfl (by kernel_rfl) (by kernel_rfl) (by kernel_rfl) (by kernel_rfl) (by kernel_rfl) (by kernel_rfl) (by kernel_rfl) (PureV.quiet (k_fieldAddr 1 0 (by kernel_rfl) Try.underlying40 rfl ty3 (by kernel_rfl)) []) ?_
      refine aTakeL (i := 7) (st' := [1]) (.d (.int .i64 b0)) rfl (by kernel_rfl) (by kernel_rfl) (by kernel_rfl) (by kernel_rfl) (by kernel_rfl) (by kernel_rfl) (by kernel_rfl) (k_load 1 0 (by kernel_rfl) Try.underlying3 (by kernel_rfl) (by kernel_rfl)) ?_
      refine aTakeL (i := 8) (st' := []) (.ptr 0 1) rfl (by kernel_rfl) (by kernel_rfl) (by kernel_rfl) (by kernel_rfl) (by kernel_rfl) (by kernel_rfl) (by kernel_rfl) (PureV.quiet (k_fieldAddr 0 0 (by kernel_rfl) Try.underlying40 rfl ty3 (by kernel_rfl)) []) ?_
      refine aTakeL (i := 9) (st' := [0]) (.d (.int .i64 a1)) rfl (by kernel_rfl) (by kernel_rfl) (by kernel_rfl) (by kernel_rfl) (by kernel_rfl) (by kernel_rfl) (by kernel_rfl) (k_load 0 1 (by kernel_rfl) Try.underlying3 (by kernel_rfl) (by kernel_rfl)) ?_
      refine aTakeL (i := 10) (st' := []) (.d (.int .u64 (IntKind.wrap .u64 a1))) rfl (by kernel_rfl) (by kernel_rfl) (by kernel_rfl) (by kernel_rfl) (by kernel_rfl) (by kernel_rfl) (by kernel_rfl) (PureV.quiet (p_conv (k := .i64) (p := a1) (by kernel_rfl) Try.underlying3 Try.underlying56 (by kernel_rfl)) []) ?_
      refine dCall (i := 5) (caps := []) (v := (uc fun (r122 : Int) => (fun (r13 : Int) => (.agg [.d (.bool (decide (a0 < 0))), .d (.int .u64 r122), .d (.int .u64 r13)] : V)))) (H' := (uc fun (r122 : Int) => (fun (r13 : Int) => ([.box [.d (.int .i64 a0), .d (.int .i64 a1)], .box [.d (.int .i64 b0), .d (.int .i64 b1)]] : List Blk)))) [] _ (ratio_times_goes k a0 (IntKind.wrap .u64 b1)) rfl (by kernel_rfl) (by kernel_rfl) (by kernel_rfl) (by kernel_rfl) (by kernel_rfl) (by kernel_rfl) (by kernel_rfl) (by kernel_rfl) rfl (by kernel_rfl) Try.func55 rfl (by kernel_rfl) (ConvRs.refl _ _) (by kernel_rfl) (by kernel_rfl) (by kernel_rfl) (by decide) (by kernel_rfl) (by kernel_rfl) (fun _ => (by kernel_rfl)) (fun _ => (by kernel_rfl)) (fun _ => (by kernel_rfl)) (fun r => ?_)
      obtain ⟨r122, r13⟩ := r
      refine dUc ?_
      refine dCall (i := 11) (caps := []) (v := (uc fun (r123 : Int) => (fun (r131 : Int) => (.agg [.d (.bool (decide (b0 < 0))), .d (.int .u64 r123), .d (.int .u64 r131)] : V)))) (H' := (uc fun (r123 : Int) => (fun (r131 : Int) => ([.box [.d (.int .i64 a0), .d (.int .i64 a1)], .box [.d (.int .i64 b0), .d (.int .i64 b1)]] : List Blk)))) [] _ (ratio_times_goes k b0 (IntKind.wrap .u64 a1)) rfl (by kernel_rfl) (by kernel_rfl) (by kernel_rfl) (by kernel_rfl) (by kernel_rfl) (by kernel_rfl) (by kernel_rfl) (by kernel_rfl) rfl (by kernel_rfl) Try.func55 rfl (by kernel_rfl) (ConvRs.refl _ _) (by kernel_rfl) (by kernel_rfl) (by kernel_rfl) (by decide) (by kernel_rfl) (by kernel_rfl) (fun _ => (by kernel_rfl)) (fun _ => (by kernel_rfl)) (fun _ => (by kernel_rfl)) (fun r => ?_)
      obtain ⟨r123, r131⟩ := r
      refine dUc ?_
      refine aAlloc (i := 12) (d := 5) rfl (by kernel_rfl) (by kernel_rfl) rfl rfl (by kernel_rfl) (by kernel_rfl) ty71 (cells := [.d (.bool false), .d (.int .u64 0), .d (.int .u64 0)]) (by kernel_rfl) (by kernel_rfl) ?_
      refine dView (H' := [.box [.d (.int .i64 a0), .d (.int .i64 a1)], .box [.d (.int .i64 b0), .d (.int .i64 b1)], .box [.d (.bool false), .d (.int .u64 0), .d (.int .u64 0)]]) rfl rfl (by kernel_rfl) ?_
      refine aAlloc (i := 13) (d := 6) rfl (by kernel_rfl) (by kernel_rfl) rfl rfl (by kernel_rfl) (by kernel_rfl) ty71 (cells := [.d (.bool false), .d (.int .u64 0), .d (.int .u64 0)]) (by kernel_rfl) (by kernel_rfl) ?_
      refine dView (H' := [.box [.d (.int .i64 a0), .d (.int .i64 a1)], .box [.d (.int .i64 b0), .d (.int .i64 b1)], .box [.d (.bool false), .d (.int .u64 0), .d (.int .u64 0)], .box [.d (.bool false), .d (.int .u64 0), .d (.int .u64 0)]]) rfl rfl (by kernel_rfl) ?_
      refine aOne (i := 14) (v := .undef) rfl (by kernel_rfl) (by kernel_rfl) (by kernel_rfl) (by kernel_rfl) (by kernel_rfl) (by kernel_rfl) (by kernel_rfl) (Does.acts (k_store (vs := [.d (.bool (decide (a0 < 0))), .d (.int .u64 r122), .d (.int .u64 r13)]) (H' := [.box [.d (.int .i64 a0), .d (.int .i64 a1)], .box [.d (.int .i64 b0), .d (.int .i64 b1)], .box [.d (.bool (decide (a0 < 0))), .d (.int .u64 r122), .d (.int .u64 r13)], .box [.d (.bool false), .d (.int .u64 0), .d (.int .u64 0)]]) 2 0 (by kernel_rfl) ty71 (by kernel_rfl) (by kernel_rfl) (by kernel_rfl))) (by kernel_rfl) ?_
      refine aOne (i := 15) (v := .undef) rfl (by kernel_rfl) (by kernel_rfl) (by kernel_rfl) (by kernel_rfl) (by kernel_rfl) (by kernel_rfl) (by kernel_rfl) (Does.acts (k_store (vs := [.d (.bool (decide (b0 < 0))), .d (.int .u64 r123), .d (.int .u64 r131)]) (H' := [.box [.d (.int .i64 a0), .d (.int .i64 a1)], .box [.d (.int .i64 b0), .d (.int .i64 b1)], .box [.d (.bool (decide (a0 < 0))), .d (.int .u64 r122), .d (.int .u64 r13)], .box [.d (.bool (decide (b0 < 0))), .d (.int .u64 r123), .d (.int .u64 r131)]]) 3 0 (by kernel_rfl) ty71 (by kernel_rfl) (by kernel_rfl) (by kernel_rfl))) (by kernel_rfl) ?_
      refine aDone (by kernel_rfl) ?_
      refine oSeq ?_
      refine oBlock ?_
      refine oSeq ?_
      refine oRegion rfl ?_
      refine oOp (.ptr 2 0) (by kernel_rfl) (by kernel_rfl) (PureV.does (k_fieldAddr 2 0 (by kernel_rfl) Try.underlying71 rfl ty4 (by kernel_rfl))) ?_
      refine oOp (.d (.bool (decide (a0 < 0)))) (by kernel_rfl) (by kernel_rfl) (Quiet.does (k_load 2 0 (by kernel_rfl) Try.underlying4 (by kernel_rfl) (by kernel_rfl))) ?_
      refine oOp (.d (.bool (decide (a0 < 0)))) (by kernel_rfl) (by kernel_rfl) (PureV.does (p_move (by kernel_rfl))) ?_
      refine bMeetF (H' := [.box [.d (.bool (decide (a0 < 0))), .d (.int .u64 r122), .d (.int .u64 r13)], .box [.d (.bool (decide (b0 < 0))), .d (.int .u64 r123), .d (.int .u64 r131)]]) 4 rfl ((fun (x9 : Bool) => [(5, .ptr 0 0), (6, .ptr 1 0), (34, .d (.bool x9))])) (fun x9 => ?_) (fun F hj1 => ?_)
      · refine oView (T' := [(5, .ptr 0 0), (6, .ptr 1 0), (34, .d (.bool x9))]) (H' := [.box [.d (.bool (decide (a0 < 0))), .d (.int .u64 r122), .d (.int .u64 r13)], .box [.d (.bool (decide (b0 < 0))), .d (.int .u64 r123), .d (.int .u64 r131)]]) (by kernel_rfl) (by kernel_rfl) ?_
        refine oOp (.d (.bool x9)) (by kernel_rfl) (by kernel_rfl) (PureV.does (p_assign (by kernel_rfl))) ?_
        refine oEnd ?_
        refine bSplit 27 (by kernel_rfl) (fun hc => ?_) (fun hc => ?_)
        · refine oCondT (by kernel_rfl) ?_
          refine oSeq ?_
          refine oRegion rfl ?_
          refine oOp (.d (.int .i64 (-1))) (by kernel_rfl) (by kernel_rfl) (PureV.does (p_assign (by kernel_rfl))) ?_
          refine oEnd ?_
          exact oRet (r0 := (-1)) (rv := .d (.int .i64 (-1))) (B := []) (vs := [.d (.int .i64 (-1))]) (σ := []) (by kernel_rfl) Try.func47 rfl (.cons _ _ _ _ (.tmp 4 _ (by kernel_rfl)) .nil) (by kernel_rfl) (by kernel_rfl) (by kernel_rfl) (by kernel_rfl) (by decide) (by kernel_rfl) (by kernel_rfl)
        · refine oCondF (by kernel_rfl) ?_
          refine oSeq ?_
          refine oRegion rfl ?_
          refine oOp (.ptr 1 0) (by kernel_rfl) (by kernel_rfl) (PureV.does (k_fieldAddr 1 0 (by kernel_rfl) Try.underlying71 rfl ty4 (by kernel_rfl))) ?_
          refine oOp (.d (.bool (decide (b0 < 0)))) (by kernel_rfl) (by kernel_rfl) (Quiet.does (k_load 1 0 (by kernel_rfl) Try.underlying4 (by kernel_rfl) (by kernel_rfl))) ?_
          refine oOp (.d (.bool (decide (b0 < 0)))) (by kernel_rfl) (by kernel_rfl) (PureV.does (p_move (by kernel_rfl))) ?_
          refine bMeetF (H' := [.box [.d (.bool (decide (a0 < 0))), .d (.int .u64 r122), .d (.int .u64 r13)], .box [.d (.bool (decide (b0 < 0))), .d (.int .u64 r123), .d (.int .u64 r131)]]) 4 rfl ((fun (x11 : Bool) => [(5, .ptr 0 0), (6, .ptr 1 0), (42, .d (.bool x11))])) (fun x11 => ?_) (fun F hj2 => ?_)
          · refine oView (T' := [(5, .ptr 0 0), (6, .ptr 1 0), (42, .d (.bool x11))]) (H' := [.box [.d (.bool (decide (a0 < 0))), .d (.int .u64 r122), .d (.int .u64 r13)], .box [.d (.bool (decide (b0 < 0))), .d (.int .u64 r123), .d (.int .u64 r131)]]) (by kernel_rfl) (by kernel_rfl) ?_
            refine oOp (.d (.bool x11)) (by kernel_rfl) (by kernel_rfl) (PureV.does (p_assign (by kernel_rfl))) ?_
            refine oEnd ?_
            refine bSplit 35 (by kernel_rfl) (fun hc => ?_) (fun hc => ?_)
            · refine oCondT (by kernel_rfl) ?_
              refine oSeq ?_
              refine oRegion rfl ?_
              refine oOp (.d (.int .i64 1)) (by kernel_rfl) (by kernel_rfl) (PureV.does (p_assign (by kernel_rfl))) ?_
              refine oEnd ?_
              exact oRet (r0 := 1) (rv := .d (.int .i64 1)) (B := []) (vs := [.d (.int .i64 1)]) (σ := []) (by kernel_rfl) Try.func47 rfl (.cons _ _ _ _ (.tmp 4 _ (by kernel_rfl)) .nil) (by kernel_rfl) (by kernel_rfl) (by kernel_rfl) (by kernel_rfl) (by decide) (by kernel_rfl) (by kernel_rfl)
            · refine oCondF (by kernel_rfl) ?_
              refine oSeq ?_
              refine oRegion rfl ?_
              refine oOp (.ptr 0 0) (by kernel_rfl) (by kernel_rfl) (PureV.does (k_fieldAddr 0 0 (by kernel_rfl) Try.underlying71 rfl ty4 (by kernel_rfl))) ?_
              refine oOp (.d (.bool (decide (a0 < 0)))) (by kernel_rfl) (by kernel_rfl) (Quiet.does (k_load 0 0 (by kernel_rfl) Try.underlying4 (by kernel_rfl) (by kernel_rfl))) ?_
              refine oOp (.d (.bool (decide (a0 < 0)))) (by kernel_rfl) (by kernel_rfl) (PureV.does (p_assign (by kernel_rfl))) ?_
              refine oEnd ?_
              refine bSplit 43 (by kernel_rfl) (fun hc => ?_) (fun hc => ?_)
              · refine oCondT (by kernel_rfl) ?_
                refine oSeq ?_
                refine oRegion rfl ?_
                refine oOp (.agg [.d (.bool (decide (b0 < 0))), .d (.int .u64 r123), .d (.int .u64 r131)]) (by kernel_rfl) (by kernel_rfl) (Quiet.does (k_loadAgg 1 0 (by kernel_rfl) Try.underlying71 (by kernel_rfl) ty71 (by kernel_rfl))) ?_
                refine oOp (.agg [.d (.bool (decide (a0 < 0))), .d (.int .u64 r122), .d (.int .u64 r13)]) (by kernel_rfl) (by kernel_rfl) (Quiet.does (k_loadAgg 0 0 (by kernel_rfl) Try.underlying71 (by kernel_rfl) ty71 (by kernel_rfl))) ?_
                refine bCall (caps := []) (v := (fun (r113 : Int) => (.d (.int .i64 r113) : V))) (H' := (fun (r113 : Int) => ([.box [.d (.bool (decide (a0 < 0))), .d (.int .u64 r122), .d (.int .u64 r13)], .box [.d (.bool (decide (b0 < 0))), .d (.int .u64 r123), .d (.int .u64 r131)]] : List Blk))) [] _ (ratio_wide_compare_goes k (decide (b0 < 0)) r123 r131 (decide (a0 < 0)) r122 r13) (by kernel_rfl) (by kernel_rfl) rfl (by kernel_rfl) Try.func56 rfl (by kernel_rfl) (ConvRs.refl _ _) (by kernel_rfl) (by kernel_rfl) (by kernel_rfl) (by decide) (by kernel_rfl) (by kernel_rfl) (fun _ => (by kernel_rfl)) (fun _ => (by kernel_rfl)) (fun _ => (by kernel_rfl)) (fun r113 => ?_)
                refine oOp (.d (.int .i64 r113)) (by kernel_rfl) (by kernel_rfl) (PureV.does (p_assign (by kernel_rfl))) ?_
                refine oEnd ?_
                exact oRet (r0 := r113) (rv := .d (.int .i64 r113)) (B := []) (vs := [.d (.int .i64 r113)]) (σ := []) (by kernel_rfl) Try.func47 rfl (.cons _ _ _ _ (.tmp 4 _ (by kernel_rfl)) .nil) (by kernel_rfl) (by kernel_rfl) (by kernel_rfl) (by kernel_rfl) (by decide) (by kernel_rfl) (by kernel_rfl)
              · refine oCondF (by kernel_rfl) ?_
                refine oSkip ?_
                refine oBlk ?_
                refine oSeq ?_
                refine oRegion rfl ?_
                refine oOp (.agg [.d (.bool (decide (a0 < 0))), .d (.int .u64 r122), .d (.int .u64 r13)]) (by kernel_rfl) (by kernel_rfl) (Quiet.does (k_loadAgg 0 0 (by kernel_rfl) Try.underlying71 (by kernel_rfl) ty71 (by kernel_rfl))) ?_
                refine oOp (.agg [.d (.bool (decide (b0 < 0))), .d (.int .u64 r123), .d (.int .u64 r131)]) (by kernel_rfl) (by kernel_rfl) (Quiet.does (k_loadAgg 1 0 (by kernel_rfl) Try.underlying71 (by kernel_rfl) ty71 (by kernel_rfl))) ?_
                refine bCall (caps := []) (v := (fun (r114 : Int) => (.d (.int .i64 r114) : V))) (H' := (fun (r114 : Int) => ([.box [.d (.bool (decide (a0 < 0))), .d (.int .u64 r122), .d (.int .u64 r13)], .box [.d (.bool (decide (b0 < 0))), .d (.int .u64 r123), .d (.int .u64 r131)]] : List Blk))) [] _ (ratio_wide_compare_goes k (decide (a0 < 0)) r122 r13 (decide (b0 < 0)) r123 r131) (by kernel_rfl) (by kernel_rfl) rfl (by kernel_rfl) Try.func56 rfl (by kernel_rfl) (ConvRs.refl _ _) (by kernel_rfl) (by kernel_rfl) (by kernel_rfl) (by decide) (by kernel_rfl) (by kernel_rfl) (fun _ => (by kernel_rfl)) (fun _ => (by kernel_rfl)) (fun _ => (by kernel_rfl)) (fun r114 => ?_)
                refine oOp (.d (.int .i64 r114)) (by kernel_rfl) (by kernel_rfl) (PureV.does (p_assign (by kernel_rfl))) ?_
                refine oEnd ?_
                exact oRet (r0 := r114) (rv := .d (.int .i64 r114)) (B := []) (vs := [.d (.int .i64 r114)]) (σ := []) (by kernel_rfl) Try.func47 rfl (.cons _ _ _ _ (.tmp 4 _ (by kernel_rfl)) .nil) (by kernel_rfl) (by kernel_rfl) (by kernel_rfl) (by kernel_rfl) (by decide) (by kernel_rfl) (by kernel_rfl)
          · refine bPickF 38 (fun c => F (c && (!(decide (a0 < 0))))) (by kernel_rfl) (fun hc => ?_) (fun hc => ?_)
            · refine oOp (.ptr 0 0) (by kernel_rfl) (by kernel_rfl) (PureV.does (k_fieldAddr 0 0 (by kernel_rfl) Try.underlying71 rfl ty4 (by kernel_rfl))) ?_
              refine oOp (.d (.bool (decide (a0 < 0)))) (by kernel_rfl) (by kernel_rfl) (Quiet.does (k_load 0 0 (by kernel_rfl) Try.underlying4 (by kernel_rfl) (by kernel_rfl))) ?_
              refine oOp (.d (.bool (!(decide (a0 < 0))))) (by kernel_rfl) (by kernel_rfl) (PureV.does (p_not (p := (decide (a0 < 0))) (by kernel_rfl) (by kernel_rfl))) ?_
              refine oOp (.d (.bool (!(decide (a0 < 0))))) (by kernel_rfl) (by kernel_rfl) (PureV.does (p_pick (b := true) (by kernel_rfl) (by kernel_rfl))) ?_
              refine oHead [5, 6, 42] [0, 1] (T' := [(5, .ptr 0 0), (6, .ptr 1 0), (42, .d (.bool (!(decide (a0 < 0)))))]) (H' := [.box [.d (.bool (decide (a0 < 0))), .d (.int .u64 r122), .d (.int .u64 r13)], .box [.d (.bool (decide (b0 < 0))), .d (.int .u64 r123), .d (.int .u64 r131)]]) (by kernel_rfl) (by kernel_rfl) (by kernel_rfl) (by kernel_rfl) (by decide) (by kernel_rfl) (by kernel_rfl) ?_
              exact hj2 (!(decide (a0 < 0)))
            · refine oNot (by kernel_rfl) (by kernel_rfl) ?_
              refine oNot (by kernel_rfl) (by kernel_rfl) ?_
              refine oNot (by kernel_rfl) (by kernel_rfl) ?_
              refine oOp (.d (.bool false)) (by kernel_rfl) (by kernel_rfl) (PureV.does (p_pick (b := false) (by kernel_rfl) (by kernel_rfl))) ?_
              refine oHead [5, 6, 42] [0, 1] (T' := [(5, .ptr 0 0), (6, .ptr 1 0), (42, .d (.bool false))]) (H' := [.box [.d (.bool (decide (a0 < 0))), .d (.int .u64 r122), .d (.int .u64 r13)], .box [.d (.bool (decide (b0 < 0))), .d (.int .u64 r123), .d (.int .u64 r131)]]) (by kernel_rfl) (by kernel_rfl) (by kernel_rfl) (by kernel_rfl) (by decide) (by kernel_rfl) (by kernel_rfl) ?_
              exact hj2 false
      · refine bPickF 30 (fun c => F (c && (!(decide (b0 < 0))))) (by kernel_rfl) (fun hc => ?_) (fun hc => ?_)
        · refine oOp (.ptr 3 0) (by kernel_rfl) (by kernel_rfl) (PureV.does (k_fieldAddr 3 0 (by kernel_rfl) Try.underlying71 rfl ty4 (by kernel_rfl))) ?_
          refine oOp (.d (.bool (decide (b0 < 0)))) (by kernel_rfl) (by kernel_rfl) (Quiet.does (k_load 3 0 (by kernel_rfl) Try.underlying4 (by kernel_rfl) (by kernel_rfl))) ?_
          refine oOp (.d (.bool (!(decide (b0 < 0))))) (by kernel_rfl) (by kernel_rfl) (PureV.does (p_not (p := (decide (b0 < 0))) (by kernel_rfl) (by kernel_rfl))) ?_
          refine oOp (.d (.bool (!(decide (b0 < 0))))) (by kernel_rfl) (by kernel_rfl) (PureV.does (p_pick (b := true) (by kernel_rfl) (by kernel_rfl))) ?_
          refine oHead [5, 6, 34] [2, 3] (T' := [(5, .ptr 0 0), (6, .ptr 1 0), (34, .d (.bool (!(decide (b0 < 0)))))]) (H' := [.box [.d (.bool (decide (a0 < 0))), .d (.int .u64 r122), .d (.int .u64 r13)], .box [.d (.bool (decide (b0 < 0))), .d (.int .u64 r123), .d (.int .u64 r131)]]) (by kernel_rfl) (by kernel_rfl) (by kernel_rfl) (by kernel_rfl) (by decide) (by kernel_rfl) (by kernel_rfl) ?_
          exact hj1 (!(decide (b0 < 0)))
        · refine oNot (by kernel_rfl) (by kernel_rfl) ?_
          refine oNot (by kernel_rfl) (by kernel_rfl) ?_
          refine oNot (by kernel_rfl) (by kernel_rfl) ?_
          refine oOp (.d (.bool false)) (by kernel_rfl) (by kernel_rfl) (PureV.does (p_pick (b := false) (by kernel_rfl) (by kernel_rfl))) ?_
          refine oHead [5, 6, 34] [2, 3] (T' := [(5, .ptr 0 0), (6, .ptr 1 0), (34, .d (.bool false))]) (H' := [.box [.d (.bool (decide (a0 < 0))), .d (.int .u64 r122), .d (.int .u64 r13)], .box [.d (.bool (decide (b0 < 0))), .d (.int .u64 r123), .d (.int .u64 r131)]]) (by kernel_rfl) (by kernel_rfl) (by kernel_rfl) (by kernel_rfl) (by decide) (by kernel_rfl) (by kernel_rfl) ?_
          exact hj1 false
  · refine bSplit 10 (by kernel_rfl) (fun hc => ?_) (fun hc => ?_)
    · refine oNot (by kernel_rfl) (by kernel_rfl) ?_
      refine oNot (by kernel_rfl) (by kernel_rfl) ?_
      refine oNot (by kernel_rfl) (by kernel_rfl) ?_
      refine oOp (.d (.bool true)) (by kernel_rfl) (by kernel_rfl) (PureV.does (p_pick (b := true) (by kernel_rfl) (by kernel_rfl))) ?_
      refine oHead [2, 3, 14] [0, 1] (T' := [(2, .ptr 0 0), (3, .ptr 1 0), (14, .d (.bool true))]) (H' := [.box [.d (.int .i64 a0), .d (.int .i64 a1)], .box [.d (.int .i64 b0), .d (.int .i64 b1)]]) (by kernel_rfl) (by kernel_rfl) (by kernel_rfl) (by kernel_rfl) (by decide) (by kernel_rfl) (by kernel_rfl) ?_
      exact hj3 true
    · refine oOp (.agg [.d (.int .i64 b0), .d (.int .i64 b1)]) (by kernel_rfl) (by kernel_rfl) (Quiet.does (k_loadAgg 1 0 (by kernel_rfl) Try.underlying40 (by kernel_rfl) ty40 (by kernel_rfl))) ?_
      refine bCall (caps := []) (v := (fun (r126 : Bool) => (.d (.bool r126) : V))) (H' := (fun (r126 : Bool) => ([.box [.d (.int .i64 a0), .d (.int .i64 a1)], .box [.d (.int .i64 b0), .d (.int .i64 b1)]] : List Blk))) [] _ (ratio_Valid_goes k b0 b1) (by kernel_rfl) (by kernel_rfl) rfl (by kernel_rfl) Try.func43 rfl (by kernel_rfl) (ConvRs.refl _ _) (by kernel_rfl) (by kernel_rfl) (by kernel_rfl) (by decide) (by kernel_rfl) (by kernel_rfl) (fun _ => (by kernel_rfl)) (fun _ => (by kernel_rfl)) (fun _ => (by kernel_rfl)) (fun r126 => ?_)
      refine oOp (.d (.bool (!r126))) (by kernel_rfl) (by kernel_rfl) (PureV.does (p_not (p := r126) (by kernel_rfl) (by kernel_rfl))) ?_
      refine oOp (.d (.bool (!r126))) (by kernel_rfl) (by kernel_rfl) (PureV.does (p_pick (b := false) (by kernel_rfl) (by kernel_rfl))) ?_
      refine oHead [2, 3, 14] [0, 1] (T' := [(2, .ptr 0 0), (3, .ptr 1 0), (14, .d (.bool (!r126)))]) (H' := [.box [.d (.int .i64 a0), .d (.int .i64 a1)], .box [.d (.int .i64 b0), .d (.int .i64 b1)]]) (by kernel_rfl) (by kernel_rfl) (by kernel_rfl) (by kernel_rfl) (by decide) (by kernel_rfl) (by kernel_rfl) ?_
      exact hj3 (!r126)

/-- awardingbody/ratio.Less -/
def ratio_Less (k : Nat) (a0 : Int) (a1 : Int) (b0 : Int) (b1 : Int) : Option (Bool) := Option.bind (ratio_Compare k a0 a1 b0 b1) (fun r181 => some (r181 == (-1)))
def ratio_Less_E (a0 : Int) (a1 : Int) (b0 : Int) (b1 : Int) : Bool → V × List Blk := fun r1 => (.d (.bool r1), [])
theorem ratio_Less_goes (k : Nat) (a0 : Int) (a1 : Int) (b0 : Int) (b1 : Int) : RunsO Try.prog 35 [.agg [.d (.int .i64 a0), .d (.int .i64 a1)], .agg [.d (.int .i64 b0), .d (.int .i64 b1)]] [] (ratio_Less_E a0 a1 b0 b1) (ratio_Less k a0 a1 b0 b1) := by
  refine RunsO.of_goes (N := 9) (m := 0) (T := [(0, .agg [.d (.int .i64 a0), .d (.int .i64 a1)]), (1, .agg [.d (.int .i64 b0), .d (.int .i64 b1)])]) Try.func35 rfl rfl (by kernel_rfl) (by kernel_rfl) (by kernel_rfl) ?_
  unfold ratio_Less
  refine bStart ?_
  refine oSeq ?_
  refine oRegion rfl ?_
  refine oOp (.ptr 0 0) (by kernel_rfl) (by kernel_rfl) (k_box (H' := [.box [.d (.int .i64 a0), .d (.int .i64 a1)]]) (cells := [.d (.int .i64 a0), .d (.int .i64 a1)]) (by kernel_rfl) (by kernel_rfl) (by kernel_rfl)) ?_
  refine oOp (.ptr 1 0) (by kernel_rfl) (by kernel_rfl) (k_box (H' := [.box [.d (.int .i64 a0), .d (.int .i64 a1)], .box [.d (.int .i64 b0), .d (.int .i64 b1)]]) (cells := [.d (.int .i64 b0), .d (.int .i64 b1)]) (by kernel_rfl) (by kernel_rfl) (by kernel_rfl)) ?_
  refine oOp (.d (.bool false)) (by kernel_rfl) (by kernel_rfl) (PureV.does (p_assign (by kernel_rfl))) ?_
  refine oEnd ?_
  refine oSeq ?_
  refine oRegion rfl ?_
  refine oOp (.agg [.d (.int .i64 a0), .d (.int .i64 a1)]) (by kernel_rfl) (by kernel_rfl) (Quiet.does (k_loadAgg 0 0 (by kernel_rfl) Try.underlying40 (by kernel_rfl) ty40 (by kernel_rfl))) ?_
  refine oOp (.agg [.d (.int .i64 b0), .d (.int .i64 b1)]) (by kernel_rfl) (by kernel_rfl) (Quiet.does (k_loadAgg 1 0 (by kernel_rfl) Try.underlying40 (by kernel_rfl) ty40 (by kernel_rfl))) ?_
  refine bCall (caps := []) (v := (fun (r181 : Int) => (.d (.int .i64 r181) : V))) (H' := (fun (r181 : Int) => ([.box [.d (.int .i64 a0), .d (.int .i64 a1)], .box [.d (.int .i64 b0), .d (.int .i64 b1)]] : List Blk))) [] _ (ratio_Compare_goes k a0 a1 b0 b1) (by kernel_rfl) (by kernel_rfl) rfl (by kernel_rfl) Try.func47 rfl (by kernel_rfl) (ConvRs.refl _ _) (by kernel_rfl) (by kernel_rfl) (by kernel_rfl) (by decide) (by kernel_rfl) (by kernel_rfl) (fun _ => (by kernel_rfl)) (fun _ => (by kernel_rfl)) (fun _ => (by kernel_rfl)) (fun r181 => ?_)
  refine oOp (.d (.bool (r181 == (-1)))) (by kernel_rfl) (by kernel_rfl) (PureV.does (p_int (k := .i64) (p := r181) (q := (-1)) (by kernel_rfl) (by kernel_rfl) (by kernel_rfl))) ?_
  refine oOp (.d (.bool (r181 == (-1)))) (by kernel_rfl) (by kernel_rfl) (PureV.does (p_assign (by kernel_rfl))) ?_
  refine oEnd ?_
  exact oRet (r0 := (r181 == (-1))) (rv := .d (.bool (r181 == (-1)))) (B := []) (vs := [.d (.bool (r181 == (-1)))]) (σ := []) (by kernel_rfl) Try.func35 rfl (.cons _ _ _ _ (.tmp 4 _ (by kernel_rfl)) .nil) (by kernel_rfl) (by kernel_rfl) (by kernel_rfl) (by kernel_rfl) (by decide) (by kernel_rfl) (by kernel_rfl)

/-- awardingbody/boundary.Share -/
def boundary_Share_b1 (k : Nat) (d0 : (List Int)) (share0 : Int) (share1 : Int) (again : Int → Option ((Unit) ⊕ (Int × Int))) : Int → Option ((Unit) ⊕ (Int × Int)) := fun b4 => bif (decide (b4 > 0)) then Option.bind (boundary_reach k d0 b4) (fun r11 => Option.bind (distribution_Count k d0) (fun r111 => Option.bind (ratio_New k r11 r111) (uc fun r13 => uc fun r16 => fun r17 => Option.bind (ratio_Less k r13 r16 share0 share1) (fun r122 => bif (!r122) then some (Sum.inr (b4, 0)) else again (IntKind.wrap .i64 (b4 - 1)))))) else some (Sum.inl ())
def boundary_Share (k : Nat) (d0 : (List Int)) (share0 : Int) (share1 : Int) : Option (Int × Int) := Option.bind (boundary_check k d0 share0 share1) (fun r112 => bif (r112 != 0) then some (0, r112) else Option.bind (gloop (boundary_Share_b1 k d0 share0 share1) k ((List.length d0) : Int) : Option ((Unit) ⊕ (Int × Int))) (Sum.elim (u0 (some (0, 0))) (fun r => some r)))
def boundary_Share_E (d0 : (List Int)) (share0 : Int) (share1 : Int) : Int × Int → V × List Blk := uc fun r19 => fun r110 => (.tuple [.d (.int .i64 r19), .d (.int .i64 r110)], [])
theorem boundary_Share_goes (k : Nat) (d0 : (List Int)) (share0 : Int) (share1 : Int) : RunsO Try.prog 18 [.agg [.d (.lit (List.map e_i64 d0))], .agg [.d (.int .i64 share0), .d (.int .i64 share1)]] [] (boundary_Share_E d0 share0 share1) (boundary_Share k d0 share0 share1) := by
  refine RunsO.of_goes (N := 37) (m := 0) (T := [(0, .agg [.d (.lit (List.map e_i64 d0))]), (1, .agg [.d (.int .i64 share0), .d (.int .i64 share1)])]) Try.func18 rfl rfl (by kernel_rfl) (by kernel_rfl) (by kernel_rfl) ?_
  unfold boundary_Share
  refine bStart ?_
  refine oSeq ?_
  refine oRegion rfl ?_
  refine oOp (.ptr 0 0) (by kernel_rfl) (by kernel_rfl) (k_box (H' := [.box [.d (.lit (List.map e_i64 d0))]]) (cells := [.d (.lit (List.map e_i64 d0))]) (by kernel_rfl) (by kernel_rfl) (by kernel_rfl)) ?_
  refine oOp (.ptr 1 0) (by kernel_rfl) (by kernel_rfl) (k_box (H' := [.box [.d (.lit (List.map e_i64 d0))], .box [.d (.int .i64 share0), .d (.int .i64 share1)]]) (cells := [.d (.int .i64 share0), .d (.int .i64 share1)]) (by kernel_rfl) (by kernel_rfl) (by kernel_rfl)) ?_
  refine oOp (.d (.int .i64 0)) (by kernel_rfl) (by kernel_rfl) (PureV.does (p_assign (by kernel_rfl))) ?_
  refine oOp (.d (.int .i64 0)) (by kernel_rfl) (by kernel_rfl) (PureV.does (p_assign (by kernel_rfl))) ?_
  refine oEnd ?_
  refine oSeq ?_
  refine oSeq ?_
  refine oRegion rfl ?_
  refine oOp (.agg [.d (.lit (List.map e_i64 d0))]) (by kernel_rfl) (by kernel_rfl) (Quiet.does (k_loadAgg 0 0 (by kernel_rfl) Try.underlying28 (by kernel_rfl) ty28 (by kernel_rfl))) ?_
  refine oOp (.agg [.d (.int .i64 share0), .d (.int .i64 share1)]) (by kernel_rfl) (by kernel_rfl) (Quiet.does (k_loadAgg 1 0 (by kernel_rfl) Try.underlying40 (by kernel_rfl) ty40 (by kernel_rfl))) ?_
  refine bCall (caps := []) (v := (fun (r112 : Int) => (.d (.int .i64 r112) : V))) (H' := (fun (r112 : Int) => ([.box [.d (.lit (List.map e_i64 d0))], .box [.d (.int .i64 share0), .d (.int .i64 share1)]] : List Blk))) [] _ (boundary_check_goes k d0 share0 share1) (by kernel_rfl) (by kernel_rfl) rfl (by kernel_rfl) Try.func31 rfl (by kernel_rfl) (ConvRs.refl _ _) (by kernel_rfl) (by kernel_rfl) (by kernel_rfl) (by decide) (by kernel_rfl) (by kernel_rfl) (fun _ => (by kernel_rfl)) (fun _ => (by kernel_rfl)) (fun _ => (by kernel_rfl)) (fun r112 => ?_)
  refine oOp (.d (.int .i64 r112)) (by kernel_rfl) (by kernel_rfl) (PureV.does (p_assign (by kernel_rfl))) ?_
  refine oEnd ?_
  refine oSeq ?_
  refine oRegion rfl ?_
  refine oOp (.d (.int .i64 r112)) (by kernel_rfl) (by kernel_rfl) (PureV.does (p_move (by kernel_rfl))) ?_
  refine oOp (.d (.bool (r112 != 0))) (by kernel_rfl) (by kernel_rfl) (PureV.does (p_int (k := .i64) (p := r112) (q := 0) (by kernel_rfl) (by kernel_rfl) (by kernel_rfl))) ?_
  refine oEnd ?_
  refine bSplit 14 (by kernel_rfl) (fun hc => ?_) (fun hc => ?_)
  · refine oCondT (by kernel_rfl) ?_
    refine oSeq ?_
    refine oRegion rfl ?_
    refine oOp (.d (.int .i64 r112)) (by kernel_rfl) (by kernel_rfl) (PureV.does (p_move (by kernel_rfl))) ?_
    refine oOp (.d (.int .i64 0)) (by kernel_rfl) (by kernel_rfl) (PureV.does (p_assign (by kernel_rfl))) ?_
    refine oOp (.d (.int .i64 r112)) (by kernel_rfl) (by kernel_rfl) (PureV.does (p_assign (by kernel_rfl))) ?_
    refine oEnd ?_
    exact oRet (r0 := (0, r112)) (rv := .tuple [.d (.int .i64 0), .d (.int .i64 r112)]) (B := []) (vs := [.d (.int .i64 0), .d (.int .i64 r112)]) (σ := []) (by kernel_rfl) Try.func18 rfl (.cons _ _ _ _ (.tmp 4 _ (by kernel_rfl)) (.cons _ _ _ _ (.tmp 5 _ (by kernel_rfl)) .nil)) (by kernel_rfl) (by kernel_rfl) (by kernel_rfl) (by kernel_rfl) (by decide) (by kernel_rfl) (by kernel_rfl)
  · refine oCondF (by kernel_rfl) ?_
    refine oSkip ?_
    refine oSeq ?_
    refine oSeq ?_
    refine oRegion rfl ?_
    refine oOp (.ptr 0 0) (by kernel_rfl) (by kernel_rfl) (PureV.does (k_fieldAddr 0 0 (by kernel_rfl) Try.underlying28 rfl ty22 (by kernel_rfl))) ?_
    refine oOp (.d (.lit (List.map e_i64 d0))) (by kernel_rfl) (by kernel_rfl) (Quiet.does (k_load 0 0 (by kernel_rfl) Try.underlying22 (by kernel_rfl) (by kernel_rfl))) ?_
    refine oOp (.d (.int .i64 ((List.length d0) : Int))) (by kernel_rfl) (by kernel_rfl) (PureV.does (k_lenLit (enc := e_i64) d0 (by kernel_rfl) Try.underlying22)) ?_
    refine oOp (.d (.int .i64 ((List.length d0) : Int))) (by kernel_rfl) (by kernel_rfl) (PureV.does (p_assign (by kernel_rfl))) ?_
    refine oEnd ?_
    refine bJoin ((u0 ([]))) ((u0 ([]))) Sum.inl (fun s => ?_) (fun hj2 => ?_)
    · cases s
      refine bInl ?_
      refine bU0 ?_
      refine oView (T' := []) (H' := []) (by kernel_rfl) (by kernel_rfl) ?_
      refine oSeq ?_
      refine oRegion rfl ?_
      refine oOp (.d (.int .i64 0)) (by kernel_rfl) (by kernel_rfl) (PureV.does (p_assign (by kernel_rfl))) ?_
      refine oOp (.d (.int .i64 0)) (by kernel_rfl) (by kernel_rfl) (PureV.does (p_assign (by kernel_rfl))) ?_
      refine oEnd ?_
      exact oRet (r0 := (0, 0)) (rv := .tuple [.d (.int .i64 0), .d (.int .i64 0)]) (B := []) (vs := [.d (.int .i64 0), .d (.int .i64 0)]) (σ := []) (by kernel_rfl) Try.func18 rfl (.cons _ _ _ _ (.tmp 4 _ (by kernel_rfl)) (.cons _ _ _ _ (.tmp 5 _ (by kernel_rfl)) .nil)) (by kernel_rfl) (by kernel_rfl) (by kernel_rfl) (by kernel_rfl) (by decide) (by kernel_rfl) (by kernel_rfl)
    · refine oBlock ?_
      refine oLoop ?_
      refine oHead [2, 3, 7] [0, 1] (T' := [(2, .ptr 0 0), (3, .ptr 1 0), (7, .d (.int .i64 ((List.length d0) : Int)))]) (H' := [.box [.d (.lit (List.map e_i64 d0))], .box [.d (.int .i64 share0), .d (.int .i64 share1)]]) (by kernel_rfl) (by kernel_rfl) (by kernel_rfl) (by kernel_rfl) (by decide) (by kernel_rfl) (by kernel_rfl) ?_
      refine bLoop (body := boundary_Share_b1 k d0 share0 share1) ((fun (b4 : Int) => [(2, .ptr 0 0), (3, .ptr 1 0), (7, .d (.int .i64 b4))])) ((fun (b4 : Int) => [.box [.d (.lit (List.map e_i64 d0))], .box [.d (.int .i64 share0), .d (.int .i64 share1)]])) (fun again hag1 b4 => ?_) k ((List.length d0) : Int)
      · unfold boundary_Share_b1
        refine oView (T' := [(2, .ptr 0 0), (3, .ptr 1 0), (7, .d (.int .i64 b4))]) (H' := [.box [.d (.lit (List.map e_i64 d0))], .box [.d (.int .i64 share0), .d (.int .i64 share1)]]) (by kernel_rfl) (by kernel_rfl) ?_
        refine oSeq ?_
        refine oSeq ?_
        refine oRegion rfl ?_
        refine oOp (.d (.int .i64 b4)) (by kernel_rfl) (by kernel_rfl) (PureV.does (p_move (by kernel_rfl))) ?_
        refine oOp (.d (.bool (decide (b4 > 0)))) (by kernel_rfl) (by kernel_rfl) (PureV.does (p_int (k := .i64) (p := b4) (q := 0) (by kernel_rfl) (by kernel_rfl) (by kernel_rfl))) ?_
        refine oEnd ?_
        refine bSplit 20 (by kernel_rfl) (fun hc => ?_) (fun hc => ?_)
        · refine oCondT (by kernel_rfl) ?_
          refine oSkip ?_
          refine oSeq ?_
          refine oBlock ?_
          refine oSeq ?_
          refine oDraw [(0, 12), (1, 12)] rfl ?_
          refine aTakeL (i := 0) (st' := [0]) (.agg [.d (.lit (List.map e_i64 d0))]) rfl (by kernel_rfl) (by kernel_rfl) (by kernel_rfl) (by kernel_rfl) (by kernel_rfl) (by kernel_rfl) (by kernel_rfl) (k_loadAgg 0 0 (by kernel_rfl) Try.underlying28 (by kernel_rfl) ty28 (by kernel_rfl)) ?_
          refine aTakeL (i := 1) (st' := []) (.d (.int .i64 b4)) rfl (by kernel_rfl) (by kernel_rfl) (by kernel_rfl) (by kernel_rfl) (by kernel_rfl) (by kernel_rfl) (by kernel_rfl) (PureV.quiet (p_move (by kernel_rfl)) []) ?_
          refine aTakeL (i := 3) (st' := [0]) (.agg [.d (.lit (List.map e_i64 d0))]) rfl (by kernel_rfl) (by kernel_rfl) (by kernel_rfl) (by kernel_rfl) (by kernel_rfl) (by kernel_rfl) (by kernel_rfl) (k_loadAgg 0 0 (by kernel_rfl) Try.underlying28 (by kernel_rfl) ty28 (by kernel_rfl)) ?_
          refine dCall (i := 2) (caps := []) (v := (fun (r11 : Int) => (.d (.int .i64 r11) : V))) (H' := (fun (r11 : Int) => ([.box [.d (.lit (List.map e_i64 d0))], .box [.d (.int .i64 share0), .d (.int .i64 share1)]] : List Blk))) [] _ (boundary_reach_goes k d0 b4) rfl (by kernel_rfl) (by kernel_rfl) (by kernel_rfl) (by kernel_rfl) (by kernel_rfl) (by kernel_rfl) (by kernel_rfl) (by kernel_rfl) rfl (by kernel_rfl) Try.func33 rfl (by kernel_rfl) (ConvRs.refl _ _) (by kernel_rfl) (by kernel_rfl) (by kernel_rfl) (by decide) (by kernel_rfl) (by kernel_rfl) (fun _ => (by kernel_rfl)) (fun _ => (by kernel_rfl)) (fun _ => (by kernel_rfl)) (fun r11 => ?_)
          refine dCall (i := 4) (caps := []) (v := (fun (r111 : Int) => (.d (.int .i64 r111) : V))) (H' := (fun (r111 : Int) => ([.box [.d (.lit (List.map e_i64 d0))], .box [.d (.int .i64 share0), .d (.int .i64 share1)]] : List Blk))) [] _ (distribution_Count_goes k d0) rfl (by kernel_rfl) (by kernel_rfl) (by kernel_rfl) (by kernel_rfl) (by kernel_rfl) (by kernel_rfl) (by kernel_rfl) (by kernel_rfl) rfl (by kernel_rfl) Try.func34 rfl (by kernel_rfl) (ConvRs.refl _ _) (by kernel_rfl) (by kernel_rfl) (by kernel_rfl) (by decide) (by kernel_rfl) (by kernel_rfl) (fun _ => (by kernel_rfl)) (fun _ => (by kernel_rfl)) (fun _ => (by kernel_rfl)) (fun r111 => ?_)
          refine dCall (i := 5) (caps := []) (v := (uc fun (r13 : Int) => (uc fun (r16 : Int) => (fun (r17 : Int) => (.tuple [.agg [.d (.int .i64 r13), .d (.int .i64 r16)], .d (.int .i64 r17)] : V))))) (H' := (uc fun (r13 : Int) => (uc fun (r16 : Int) => (fun (r17 : Int) => ([.box [.d (.lit (List.map e_i64 d0))], .box [.d (.int .i64 share0), .d (.int .i64 share1)]] : List Blk))))) [] _ (ratio_New_goes k r11 r111) rfl (by kernel_rfl) (by kernel_rfl) (by kernel_rfl) (by kernel_rfl) (by kernel_rfl) (by kernel_rfl) (by kernel_rfl) (by kernel_rfl) rfl (by kernel_rfl) Try.func32 rfl (by kernel_rfl) (ConvRs.refl _ _) (by kernel_rfl) (by kernel_rfl) (by kernel_rfl) (by decide) (by kernel_rfl) (by kernel_rfl) (fun _ => (by kernel_rfl)) (fun _ => (by kernel_rfl)) (fun _ => (by kernel_rfl)) (fun r => ?_)
          obtain ⟨r13, r16, r17⟩ := r
          refine dUc ?_
          refine dUc ?_
          refine aTakeP (i := 6) (.tuple [.agg [.d (.int .i64 r13), .d (.int .i64 r16)], .d (.int .i64 r17)]) rfl (by kernel_rfl) (by kernel_rfl) (by kernel_rfl) (by kernel_rfl) (by kernel_rfl) (by kernel_rfl) (by kernel_rfl) (p_move (by kernel_rfl)) ?_
          refine aTakeP (i := 7) (.agg [.d (.int .i64 r13), .d (.int .i64 r16)]) rfl (by kernel_rfl) (by kernel_rfl) (by kernel_rfl) (by kernel_rfl) (by kernel_rfl) (by kernel_rfl) (by kernel_rfl) (k_extract (by kernel_rfl)) ?_
          refine aTakeP (i := 8) (.d (.int .i64 r17)) rfl (by kernel_rfl) (by kernel_rfl) (by kernel_rfl) (by kernel_rfl) (by kernel_rfl) (by kernel_rfl) (by kernel_rfl) (k_extract (by kernel_rfl)) ?_
          refine aAlloc (i := 9) (d := 8) rfl (by kernel_rfl) (by kernel_rfl) rfl rfl (by kernel_rfl) (by kernel_rfl) ty40 (cells := [.d (.int .i64 0), .d (.int .i64 0)]) (by kernel_rfl) (by kernel_rfl) ?_
          refine dView (H' := [.box [.d (.lit (List.map e_i64 d0))], .box [.d (.int .i64 share0), .d (.int .i64 share1)], .box [.d (.int .i64 0), .d (.int .i64 0)]]) rfl rfl (by kernel_rfl) ?_
          refine aOne (i := 10) (v := .undef) rfl (by kernel_rfl) (by kernel_rfl) (by kernel_rfl) (by kernel_rfl) (by kernel_rfl) (by kernel_rfl) (by kernel_rfl) (Does.acts (k_store (vs := [.d (.int .i64 r13), .d (.int .i64 r16)]) (H' := [.box [.d (.lit (List.map e_i64 d0))], .box [.d (.int .i64 share0), .d (.int .i64 share1)], .box [.d (.int .i64 r13), .d (.int .i64 r16)]]) 2 0 (by kernel_rfl) ty40 (by kernel_rfl) (by kernel_rfl) (by kernel_rfl))) (by kernel_rfl) ?_
          refine aTakeL (i := 11) (st' := []) (.d (.int .i64 r17)) rfl (by kernel_rfl) (by kernel_rfl) (by kernel_rfl) (by kernel_rfl) (by kernel_rfl) (by kernel_rfl) (by kernel_rfl) (PureV.quiet (p_assign (by kernel_rfl)) []) ?_
          refine aDone (by kernel_rfl) ?_
          refine oSeq ?_
          refine oRegion rfl ?_
          refine oOp (.agg [.d (.int .i64 r13), .d (.int .i64 r16)]) (by kernel_rfl) (by kernel_rfl) (Quiet.does (k_loadAgg 2 0 (by kernel_rfl) Try.underlying40 (by kernel_rfl) ty40 (by kernel_rfl))) ?_
          refine oOp (.agg [.d (.int .i64 share0), .d (.int .i64 share1)]) (by kernel_rfl) (by kernel_rfl) (Quiet.does (k_loadAgg 1 0 (by kernel_rfl) Try.underlying40 (by kernel_rfl) ty40 (by kernel_rfl))) ?_
          refine bCall (caps := []) (v := (fun (r122 : Bool) => (.d (.bool r122) : V))) (H' := (fun (r122 : Bool) => ([.box [.d (.lit (List.map e_i64 d0))], .box [.d (.int .i64 share0), .d (.int .i64 share1)], .box [.d (.int .i64 r13), .d (.int .i64 r16)]] : List Blk))) [] _ (ratio_Less_goes k r13 r16 share0 share1) (by kernel_rfl) (by kernel_rfl) rfl (by kernel_rfl) Try.func35 rfl (by kernel_rfl) (ConvRs.refl _ _) (by kernel_rfl) (by kernel_rfl) (by kernel_rfl) (by decide) (by kernel_rfl) (by kernel_rfl) (fun _ => (by kernel_rfl)) (fun _ => (by kernel_rfl)) (fun _ => (by kernel_rfl)) (fun r122 => ?_)
          refine oOp (.d (.bool (!r122))) (by kernel_rfl) (by kernel_rfl) (PureV.does (p_not (p := r122) (by kernel_rfl) (by kernel_rfl))) ?_
          refine oEnd ?_
          refine bSplit 35 (by kernel_rfl) (fun hc => ?_) (fun hc => ?_)
          · refine oCondT (by kernel_rfl) ?_
            refine oSeq ?_
            refine oRegion rfl ?_
            refine oOp (.d (.int .i64 b4)) (by kernel_rfl) (by kernel_rfl) (PureV.does (p_move (by kernel_rfl))) ?_
            refine oOp (.d (.int .i64 b4)) (by kernel_rfl) (by kernel_rfl) (PureV.does (p_assign (by kernel_rfl))) ?_
            refine oOp (.d (.int .i64 0)) (by kernel_rfl) (by kernel_rfl) (PureV.does (p_assign (by kernel_rfl))) ?_
            refine oEnd ?_
            exact oRet (r0 := (b4, 0)) (rv := .tuple [.d (.int .i64 b4), .d (.int .i64 0)]) (B := []) (vs := [.d (.int .i64 b4), .d (.int .i64 0)]) (σ := []) (by kernel_rfl) Try.func18 rfl (.cons _ _ _ _ (.tmp 4 _ (by kernel_rfl)) (.cons _ _ _ _ (.tmp 5 _ (by kernel_rfl)) .nil)) (by kernel_rfl) (by kernel_rfl) (by kernel_rfl) (by kernel_rfl) (by decide) (by kernel_rfl) (by kernel_rfl)
          · refine oCondF (by kernel_rfl) ?_
            refine oSkip ?_
            refine oBlk ?_
            refine oRegion rfl ?_
            refine oOp (.d (.int .i64 b4)) (by kernel_rfl) (by kernel_rfl) (PureV.does (p_move (by kernel_rfl))) ?_
            refine oOp (.d (.int .i64 (IntKind.wrap .i64 (b4 - 1)))) (by kernel_rfl) (by kernel_rfl) (PureV.does (p_int (k := .i64) (p := b4) (q := 1) (by kernel_rfl) (by kernel_rfl) (by kernel_rfl))) ?_
            refine oOp (.d (.int .i64 (IntKind.wrap .i64 (b4 - 1)))) (by kernel_rfl) (by kernel_rfl) (PureV.does (p_assign (by kernel_rfl))) ?_
            refine oEnd ?_
            refine oAgain ?_
            refine oHead [2, 3, 7] [0, 1] (T' := [(2, .ptr 0 0), (3, .ptr 1 0), (7, .d (.int .i64 (IntKind.wrap .i64 (b4 - 1))))]) (H' := [.box [.d (.lit (List.map e_i64 d0))], .box [.d (.int .i64 share0), .d (.int .i64 share1)]]) (by kernel_rfl) (by kernel_rfl) (by kernel_rfl) (by kernel_rfl) (by decide) (by kernel_rfl) (by kernel_rfl) ?_
            exact hag1 (IntKind.wrap .i64 (b4 - 1))
        · refine oCondF (by kernel_rfl) ?_
          refine oExit rfl ?_
          refine oHead [] [] (T' := []) (H' := []) (by kernel_rfl) (by kernel_rfl) (by kernel_rfl) (by kernel_rfl) (by decide) (by kernel_rfl) (by kernel_rfl) ?_
          exact hj2 ()

/-- awardingbody/boundary.in -/
def boundary_in (k : Nat) (n : Int) (low : Int) (high : Int) : Option (Bool) := blet ((decide (n ≥ low)) && (decide (n ≤ high))) fun x1 => some x1
def boundary_in_E (n : Int) (low : Int) (high : Int) : Bool → V × List Blk := fun r1 => (.d (.bool r1), [])
theorem boundary_in_goes (k : Nat) (n : Int) (low : Int) (high : Int) : RunsO Try.prog 28 [.d (.int .i64 n), .d (.int .i64 low), .d (.int .i64 high)] [] (boundary_in_E n low high) (boundary_in k n low high) := by
  refine RunsO.of_goes (N := 15) (m := 0) (T := [(0, .d (.int .i64 n)), (1, .d (.int .i64 low)), (2, .d (.int .i64 high))]) Try.func28 rfl rfl (by kernel_rfl) (by kernel_rfl) (by kernel_rfl) ?_
  unfold boundary_in
  refine bStart ?_
  refine oSeq ?_
  refine oRegion rfl ?_
  refine oOp (.d (.bool false)) (by kernel_rfl) (by kernel_rfl) (PureV.does (p_assign (by kernel_rfl))) ?_
  refine oEnd ?_
  refine oSeq ?_
  refine oRegion rfl ?_
  refine oOp (.d (.int .i64 n)) (by kernel_rfl) (by kernel_rfl) (PureV.does (p_move (by kernel_rfl))) ?_
  refine oOp (.d (.int .i64 low)) (by kernel_rfl) (by kernel_rfl) (PureV.does (p_move (by kernel_rfl))) ?_
  refine oOp (.d (.bool (decide (n ≥ low)))) (by kernel_rfl) (by kernel_rfl) (PureV.does (p_int (k := .i64) (p := n) (q := low) (by kernel_rfl) (by kernel_rfl) (by kernel_rfl))) ?_
  refine oOp (.d (.bool (decide (n ≥ low)))) (by kernel_rfl) (by kernel_rfl) (PureV.does (p_move (by kernel_rfl))) ?_
  refine bMeetF (H' := []) 4 rfl ((fun (x1 : Bool) => [(14, .d (.bool x1))])) (fun x1 => ?_) (fun F hj1 => ?_)
  · refine oView (T' := [(14, .d (.bool x1))]) (H' := []) (by kernel_rfl) (by kernel_rfl) ?_
    refine oOp (.d (.bool x1)) (by kernel_rfl) (by kernel_rfl) (PureV.does (p_assign (by kernel_rfl))) ?_
    refine oEnd ?_
    exact oRet (r0 := x1) (rv := .d (.bool x1)) (B := []) (vs := [.d (.bool x1)]) (σ := []) (by kernel_rfl) Try.func28 rfl (.cons _ _ _ _ (.tmp 6 _ (by kernel_rfl)) .nil) (by kernel_rfl) (by kernel_rfl) (by kernel_rfl) (by kernel_rfl) (by decide) (by kernel_rfl) (by kernel_rfl)
  · refine bPickF 10 (fun c => F (c && (decide (n ≤ high)))) (by kernel_rfl) (fun hc => ?_) (fun hc => ?_)
    · refine oOp (.d (.int .i64 n)) (by kernel_rfl) (by kernel_rfl) (PureV.does (p_move (by kernel_rfl))) ?_
      refine oOp (.d (.int .i64 high)) (by kernel_rfl) (by kernel_rfl) (PureV.does (p_move (by kernel_rfl))) ?_
      refine oOp (.d (.bool (decide (n ≤ high)))) (by kernel_rfl) (by kernel_rfl) (PureV.does (p_int (k := .i64) (p := n) (q := high) (by kernel_rfl) (by kernel_rfl) (by kernel_rfl))) ?_
      refine oOp (.d (.bool (decide (n ≤ high)))) (by kernel_rfl) (by kernel_rfl) (PureV.does (p_pick (b := true) (by kernel_rfl) (by kernel_rfl))) ?_
      refine oHead [14] [] (T' := [(14, .d (.bool (decide (n ≤ high))))]) (H' := []) (by kernel_rfl) (by kernel_rfl) (by kernel_rfl) (by kernel_rfl) (by decide) (by kernel_rfl) (by kernel_rfl) ?_
      exact hj1 (decide (n ≤ high))
    · refine oNot (by kernel_rfl) (by kernel_rfl) ?_
      refine oNot (by kernel_rfl) (by kernel_rfl) ?_
      refine oNot (by kernel_rfl) (by kernel_rfl) ?_
      refine oOp (.d (.bool false)) (by kernel_rfl) (by kernel_rfl) (PureV.does (p_pick (b := false) (by kernel_rfl) (by kernel_rfl))) ?_
      refine oHead [14] [] (T' := [(14, .d (.bool false))]) (H' := []) (by kernel_rfl) (by kernel_rfl) (by kernel_rfl) (by kernel_rfl) (by decide) (by kernel_rfl) (by kernel_rfl) ?_
      exact hj1 false

/-- awardingbody/boundary.Interpolate -/
def boundary_Interpolate_b1 (k : Nat) (high : Int) (low : Int) (steps : Int) (again : Int × Int × (List Int) → Option ((List Int))) : Int × Int × (List Int) → Option ((List Int)) := uc fun x15 => uc fun x16 => fun xs6 => bif (decide (x16 < x15)) then gnz steps (gcap (List.length (xs6 ++ ([(IntKind.wrap .i64 (high - (IntKind.wrap .i64 (Int.tdiv (IntKind.wrap .i64 ((IntKind.wrap .i64 ((IntKind.wrap .i64 (x16 * (IntKind.wrap .i64 (high - low)))) + steps)) - 1)) steps))))] : List Int))) 8 (again (x15, (IntKind.wrap .i64 (x16 + 1)), (xs6 ++ ([(IntKind.wrap .i64 (high - (IntKind.wrap .i64 (Int.tdiv (IntKind.wrap .i64 ((IntKind.wrap .i64 ((IntKind.wrap .i64 (x16 * (IntKind.wrap .i64 (high - low)))) + steps)) - 1)) steps))))] : List Int))))) else some xs6
def boundary_Interpolate (k : Nat) (high : Int) (low : Int) (steps : Int) : Option ((List Int) × Int) := Option.bind (bif (decide (low < 0)) then some true else Option.bind (boundary_in k high low 200) (fun r17 => some (!r17)) : Option (Bool)) (fun x7 => Option.bind (bif x7 then some true else Option.bind (boundary_in k steps 1 8) (fun r16 => some (!r16)) : Option (Bool)) (fun x8 => bif x8 then some ([], 2) else Option.bind (gloop (boundary_Interpolate_b1 k high low steps) k ((IntKind.wrap .i64 (steps + 1)), 0, ([] : List Int)) : Option ((List Int))) (fun xs5 => some (xs5, 0))))
def boundary_Interpolate_E (high : Int) (low : Int) (steps : Int) : (List Int) × Int → V × List Blk := uc fun r12 => fun r13 => (.tuple [.d (.lit (List.map e_i64 r12)), .d (.int .i64 r13)], [])
theorem boundary_Interpolate_goes (k : Nat) (high : Int) (low : Int) (steps : Int) : RunsO Try.prog 16 [.d (.int .i64 high), .d (.int .i64 low), .d (.int .i64 steps)] [] (boundary_Interpolate_E high low steps) (boundary_Interpolate k high low steps) := by
  refine RunsO.of_goes (N := 45) (m := 0) (T := [(0, .d (.int .i64 high)), (1, .d (.int .i64 low)), (2, .d (.int .i64 steps))]) Try.func16 rfl rfl (by kernel_rfl) (by kernel_rfl) (by kernel_rfl) ?_
  unfold boundary_Interpolate
  refine bStart ?_
  refine oSeq ?_
  refine oRegion rfl ?_
  refine oOp (.nilc) (by kernel_rfl) (by kernel_rfl) (PureV.does (p_assign (by kernel_rfl))) ?_
  refine oOp (.d (.int .i64 0)) (by kernel_rfl) (by kernel_rfl) (PureV.does (p_assign (by kernel_rfl))) ?_
  refine oEnd ?_
  refine oSeq ?_
  refine oSeq ?_
  refine oRegion rfl ?_
  refine oOp (.d (.int .i64 low)) (by kernel_rfl) (by kernel_rfl) (PureV.does (p_move (by kernel_rfl))) ?_
  refine oOp (.d (.bool (decide (low < 0)))) (by kernel_rfl) (by kernel_rfl) (PureV.does (p_int (k := .i64) (p := low) (q := 0) (by kernel_rfl) (by kernel_rfl) (by kernel_rfl))) ?_
  refine oOp (.d (.bool (decide (low < 0)))) (by kernel_rfl) (by kernel_rfl) (PureV.does (p_move (by kernel_rfl))) ?_
  refine bMeet 5 rfl ((fun (x7 : Bool) => [(0, .d (.int .i64 high)), (1, .d (.int .i64 low)), (2, .d (.int .i64 steps)), (17, .d (.bool x7))])) ((fun (x7 : Bool) => [])) (fun s => s) (fun x7 => ?_) (fun hj4 => ?_)
  · refine oView (T' := [(0, .d (.int .i64 high)), (1, .d (.int .i64 low)), (2, .d (.int .i64 steps)), (17, .d (.bool x7))]) (H' := []) (by kernel_rfl) (by kernel_rfl) ?_
    refine oOp (.d (.bool x7)) (by kernel_rfl) (by kernel_rfl) (PureV.does (p_move (by kernel_rfl))) ?_
    refine bMeet 4 rfl ((fun (x8 : Bool) => [(0, .d (.int .i64 high)), (1, .d (.int .i64 low)), (2, .d (.int .i64 steps)), (22, .d (.bool x8))])) ((fun (x8 : Bool) => [])) (fun s => s) (fun x8 => ?_) (fun hj3 => ?_)
    · refine oView (T' := [(0, .d (.int .i64 high)), (1, .d (.int .i64 low)), (2, .d (.int .i64 steps)), (22, .d (.bool x8))]) (H' := []) (by kernel_rfl) (by kernel_rfl) ?_
      refine oEnd ?_
      refine bSplit 22 (by kernel_rfl) (fun hc => ?_) (fun hc => ?_)
      · refine oCondT (by kernel_rfl) ?_
        refine oSeq ?_
        refine oRegion rfl ?_
        refine oOp (.nilc) (by kernel_rfl) (by kernel_rfl) (PureV.does (p_assign (by kernel_rfl))) ?_
        refine oOp (.d (.int .i64 2)) (by kernel_rfl) (by kernel_rfl) (PureV.does (p_assign (by kernel_rfl))) ?_
        refine oEnd ?_
        refine oConv 6 (v := .nilc) (v' := .d (.lit (List.map e_i64 []))) (by kernel_rfl) .nil ?_
        exact oRet (r0 := ([], 2)) (rv := .tuple [.d (.lit (List.map e_i64 [])), .d (.int .i64 2)]) (B := []) (vs := [.d (.lit (List.map e_i64 [])), .d (.int .i64 2)]) (σ := []) (by kernel_rfl) Try.func16 rfl (.cons _ _ _ _ (.tmp 6 _ (by kernel_rfl)) (.cons _ _ _ _ (.tmp 7 _ (by kernel_rfl)) .nil)) (by kernel_rfl) (by kernel_rfl) (by kernel_rfl) (by kernel_rfl) (by decide) (by kernel_rfl) (by kernel_rfl)
      · refine oCondF (by kernel_rfl) ?_
        refine oSkip ?_
        refine oSeq ?_
        refine oRegion rfl ?_
        refine oOp (.nilc) (by kernel_rfl) (by kernel_rfl) (PureV.does (p_assign (by kernel_rfl))) ?_
        refine oEnd ?_
        refine oSeq ?_
        refine oSeq ?_
        refine oRegion rfl ?_
        refine oOp (.d (.int .i64 steps)) (by kernel_rfl) (by kernel_rfl) (PureV.does (p_move (by kernel_rfl))) ?_
        refine oOp (.d (.int .i64 (IntKind.wrap .i64 (steps + 1)))) (by kernel_rfl) (by kernel_rfl) (PureV.does (p_int (k := .i64) (p := steps) (q := 1) (by kernel_rfl) (by kernel_rfl) (by kernel_rfl))) ?_
        refine oOp (.d (.int .i64 0)) (by kernel_rfl) (by kernel_rfl) (PureV.does (p_move (by kernel_rfl))) ?_
        refine oEnd ?_
        refine bJoin ((fun (xs5 : (List Int)) => [(8, .ref 0 (List.length xs5) 0 (List.length xs5))])) ((fun (xs5 : (List Int)) => [.sl 1 (List.map e_i64 xs5) false])) (fun s => s) (fun xs5 => ?_) (fun hj2 => ?_)
        · refine oView (T' := [(8, .ref 0 (List.length xs5) 0 (List.length xs5))]) (H' := [.sl 1 (List.map e_i64 xs5) false]) (by kernel_rfl) (by kernel_rfl) ?_
          refine oSeq ?_
          refine oRegion rfl ?_
          refine oOp (.ref 0 (List.length xs5) 0 (List.length xs5)) (by kernel_rfl) (by kernel_rfl) (PureV.does (p_move (by kernel_rfl))) ?_
          refine oOp (.ref 0 (List.length xs5) 0 (List.length xs5)) (by kernel_rfl) (by kernel_rfl) (PureV.does (p_assign (by kernel_rfl))) ?_
          refine oOp (.d (.int .i64 0)) (by kernel_rfl) (by kernel_rfl) (PureV.does (p_assign (by kernel_rfl))) ?_
          refine oEnd ?_
          refine oFreeze 0 (esz := 1) (xs := List.map e_i64 xs5) (by kernel_rfl) ?_
          refine oView (H' := [.sl 1 (List.map e_i64 xs5) true]) rfl (by kernel_rfl) ?_
          refine oConv 6 (v := .ref 0 (List.length xs5) 0 (List.length xs5)) (v' := .d (.lit (List.map e_i64 xs5))) (by kernel_rfl) (k_lit (enc := e_i64) (sz := 1) 0 xs5 (by kernel_rfl)) ?_
          exact oRet (r0 := (xs5, 0)) (rv := .tuple [.d (.lit (List.map e_i64 xs5)), .d (.int .i64 0)]) (B := []) (vs := [.d (.lit (List.map e_i64 xs5)), .d (.int .i64 0)]) (σ := []) (by kernel_rfl) Try.func16 rfl (.cons _ _ _ _ (.tmp 6 _ (by kernel_rfl)) (.cons _ _ _ _ (.tmp 7 _ (by kernel_rfl)) .nil)) (by kernel_rfl) (by kernel_rfl) (by kernel_rfl) (by kernel_rfl) (by decide) (by kernel_rfl) (by kernel_rfl)
        · refine oBlock ?_
          refine oLoop ?_
          refine oVirt (esz := 1) 8 (by kernel_rfl) ?_
          refine oView (H' := [.sl 1 (List.map e_i64 ([] : List Int)) false]) rfl (by kernel_rfl) ?_
          refine oHead [0, 1, 2, 8, 24, 25] [0] (T' := [(0, .d (.int .i64 high)), (1, .d (.int .i64 low)), (2, .d (.int .i64 steps)), (8, .ref 0 (List.length ([] : List Int)) 0 (List.length ([] : List Int))), (24, .d (.int .i64 (IntKind.wrap .i64 (steps + 1)))), (25, .d (.int .i64 0))]) (H' := [.sl 1 (List.map e_i64 ([] : List Int)) false]) (by kernel_rfl) (by kernel_rfl) (by kernel_rfl) (by kernel_rfl) (by decide) (by kernel_rfl) (by kernel_rfl) ?_
          refine bLoop (body := boundary_Interpolate_b1 k high low steps) ((uc fun (x15 : Int) => (uc fun (x16 : Int) => (fun (xs6 : (List Int)) => [(0, .d (.int .i64 high)), (1, .d (.int .i64 low)), (2, .d (.int .i64 steps)), (8, .ref 0 (List.length xs6) 0 (List.length xs6)), (24, .d (.int .i64 x15)), (25, .d (.int .i64 x16))])))) ((uc fun (x15 : Int) => (uc fun (x16 : Int) => (fun (xs6 : (List Int)) => [.sl 1 (List.map e_i64 xs6) false])))) (fun again hag1 s => ?_) k ((IntKind.wrap .i64 (steps + 1)), 0, ([] : List Int))
          · unfold boundary_Interpolate_b1
            obtain ⟨x15, x16, xs6⟩ := s
            refine bUc ?_
            refine bUc ?_
            refine oView (T' := [(0, .d (.int .i64 high)), (1, .d (.int .i64 low)), (2, .d (.int .i64 steps)), (8, .ref 0 (List.length xs6) 0 (List.length xs6)), (24, .d (.int .i64 x15)), (25, .d (.int .i64 x16))]) (H' := [.sl 1 (List.map e_i64 xs6) false]) (by kernel_rfl) (by kernel_rfl) ?_
            refine oSeq ?_
            refine oRegion rfl ?_
            refine oOp (.d (.bool (decide (x16 < x15)))) (by kernel_rfl) (by kernel_rfl) (PureV.does (p_int (k := .i64) (p := x16) (q := x15) (by kernel_rfl) (by kernel_rfl) (by kernel_rfl))) ?_
            refine oEnd ?_
            refine oSeq ?_
            refine bSplit 26 (by kernel_rfl) (fun hc => ?_) (fun hc => ?_)
            · refine oCondT (by kernel_rfl) ?_
              refine oSkip ?_
              refine oSeq ?_
              refine oBlock ?_
              refine oSeq ?_
              refine oRegion rfl ?_
              refine oOp (.d (.int .i64 x16)) (by kernel_rfl) (by kernel_rfl) (PureV.does (p_move (by kernel_rfl))) ?_
              refine oOp (.d (.int .i64 x16)) (by kernel_rfl) (by kernel_rfl) (PureV.does (p_assign (by kernel_rfl))) ?_
              refine oEnd ?_
              refine oRegion rfl ?_
              refine oOp (.ref 0 (List.length xs6) 0 (List.length xs6)) (by kernel_rfl) (by kernel_rfl) (PureV.does (p_move (by kernel_rfl))) ?_
              refine oOp (.d (.int .i64 high)) (by kernel_rfl) (by kernel_rfl) (PureV.does (p_move (by kernel_rfl))) ?_
              refine oOp (.d (.int .i64 x16)) (by kernel_rfl) (by kernel_rfl) (PureV.does (p_move (by kernel_rfl))) ?_
              refine oOp (.d (.int .i64 high)) (by kernel_rfl) (by kernel_rfl) (PureV.does (p_move (by kernel_rfl))) ?_
              refine oOp (.d (.int .i64 low)) (by kernel_rfl) (by kernel_rfl) (PureV.does (p_move (by kernel_rfl))) ?_
              refine oOp (.d (.int .i64 (IntKind.wrap .i64 (high - low)))) (by kernel_rfl) (by kernel_rfl) (PureV.does (p_int (k := .i64) (p := high) (q := low) (by kernel_rfl) (by kernel_rfl) (by kernel_rfl))) ?_
              refine oOp (.d (.int .i64 (IntKind.wrap .i64 (x16 * (IntKind.wrap .i64 (high - low)))))) (by kernel_rfl) (by kernel_rfl) (PureV.does (p_int (k := .i64) (p := x16) (q := (IntKind.wrap .i64 (high - low))) (by kernel_rfl) (by kernel_rfl) (by kernel_rfl))) ?_
              refine oOp (.d (.int .i64 steps)) (by kernel_rfl) (by kernel_rfl) (PureV.does (p_move (by kernel_rfl))) ?_
              refine oOp (.d (.int .i64 (IntKind.wrap .i64 ((IntKind.wrap .i64 (x16 * (IntKind.wrap .i64 (high - low)))) + steps)))) (by kernel_rfl) (by kernel_rfl) (PureV.does (p_int (k := .i64) (p := (IntKind.wrap .i64 (x16 * (IntKind.wrap .i64 (high - low))))) (q := steps) (by kernel_rfl) (by kernel_rfl) (by kernel_rfl))) ?_
              refine oOp (.d (.int .i64 (IntKind.wrap .i64 ((IntKind.wrap .i64 ((IntKind.wrap .i64 (x16 * (IntKind.wrap .i64 (high - low)))) + steps)) - 1)))) (by kernel_rfl) (by kernel_rfl) (PureV.does (p_int (k := .i64) (p := (IntKind.wrap .i64 ((IntKind.wrap .i64 (x16 * (IntKind.wrap .i64 (high - low)))) + steps))) (q := 1) (by kernel_rfl) (by kernel_rfl) (by kernel_rfl))) ?_
              refine oOp (.d (.int .i64 steps)) (by kernel_rfl) (by kernel_rfl) (PureV.does (p_move (by kernel_rfl))) ?_
              refine bNz (fun h126 => ?_)
              refine oOp (.d (.int .i64 (IntKind.wrap .i64 (Int.tdiv (IntKind.wrap .i64 ((IntKind.wrap .i64 ((IntKind.wrap .i64 (x16 * (IntKind.wrap .i64 (high - low)))) + steps)) - 1)) steps)))) (by kernel_rfl) (by kernel_rfl) (PureV.does (p_quo (k := .i64) (p := (IntKind.wrap .i64 ((IntKind.wrap .i64 ((IntKind.wrap .i64 (x16 * (IntKind.wrap .i64 (high - low)))) + steps)) - 1))) (q := steps) (by kernel_rfl) (by kernel_rfl) h126 (by kernel_rfl))) ?_
              refine oOp (.d (.int .i64 (IntKind.wrap .i64 (high - (IntKind.wrap .i64 (Int.tdiv (IntKind.wrap .i64 ((IntKind.wrap .i64 ((IntKind.wrap .i64 (x16 * (IntKind.wrap .i64 (high - low)))) + steps)) - 1)) steps)))))) (by kernel_rfl) (by kernel_rfl) (PureV.does (p_int (k := .i64) (p := high) (q := (IntKind.wrap .i64 (Int.tdiv (IntKind.wrap .i64 ((IntKind.wrap .i64 ((IntKind.wrap .i64 (x16 * (IntKind.wrap .i64 (high - low)))) + steps)) - 1)) steps))) (by kernel_rfl) (by kernel_rfl) (by kernel_rfl))) ?_
              refine oOp (.ref 1 (List.length ([(IntKind.wrap .i64 (high - (IntKind.wrap .i64 (Int.tdiv (IntKind.wrap .i64 ((IntKind.wrap .i64 ((IntKind.wrap .i64 (x16 * (IntKind.wrap .i64 (high - low)))) + steps)) - 1)) steps))))] : List Int)) 0 (List.length ([(IntKind.wrap .i64 (high - (IntKind.wrap .i64 (Int.tdiv (IntKind.wrap .i64 ((IntKind.wrap .i64 ((IntKind.wrap .i64 (x16 * (IntKind.wrap .i64 (high - low)))) + steps)) - 1)) steps))))] : List Int))) (by kernel_rfl) (by kernel_rfl) (k_buildSlice (H' := [.sl 1 (List.map e_i64 xs6) false, .sl 1 (List.map e_i64 ([(IntKind.wrap .i64 (high - (IntKind.wrap .i64 (Int.tdiv (IntKind.wrap .i64 ((IntKind.wrap .i64 ((IntKind.wrap .i64 (x16 * (IntKind.wrap .i64 (high - low)))) + steps)) - 1)) steps))))] : List Int)) false]) (List.map e_i64 ([(IntKind.wrap .i64 (high - (IntKind.wrap .i64 (Int.tdiv (IntKind.wrap .i64 ((IntKind.wrap .i64 ((IntKind.wrap .i64 (x16 * (IntKind.wrap .i64 (high - low)))) + steps)) - 1)) steps))))] : List Int)) Try.underlying22 ty3 (by kernel_rfl) (by kernel_rfl) (by kernel_rfl)) ?_
              refine bCap (fun h127 => ?_)
              refine oOp (.ref 0 (List.length (xs6 ++ ([(IntKind.wrap .i64 (high - (IntKind.wrap .i64 (Int.tdiv (IntKind.wrap .i64 ((IntKind.wrap .i64 ((IntKind.wrap .i64 (x16 * (IntKind.wrap .i64 (high - low)))) + steps)) - 1)) steps))))] : List Int))) 0 (List.length (xs6 ++ ([(IntKind.wrap .i64 (high - (IntKind.wrap .i64 (Int.tdiv (IntKind.wrap .i64 ((IntKind.wrap .i64 ((IntKind.wrap .i64 (x16 * (IntKind.wrap .i64 (high - low)))) + steps)) - 1)) steps))))] : List Int)))) (by kernel_rfl) (by kernel_rfl) (k_append (H' := [.sl 1 (List.map e_i64 (xs6 ++ ([(IntKind.wrap .i64 (high - (IntKind.wrap .i64 (Int.tdiv (IntKind.wrap .i64 ((IntKind.wrap .i64 ((IntKind.wrap .i64 (x16 * (IntKind.wrap .i64 (high - low)))) + steps)) - 1)) steps))))] : List Int))) false, .sl 1 (List.map e_i64 ([(IntKind.wrap .i64 (high - (IntKind.wrap .i64 (Int.tdiv (IntKind.wrap .i64 ((IntKind.wrap .i64 ((IntKind.wrap .i64 (x16 * (IntKind.wrap .i64 (high - low)))) + steps)) - 1)) steps))))] : List Int)) false]) (enc := e_i64) 0 xs6 ([(IntKind.wrap .i64 (high - (IntKind.wrap .i64 (Int.tdiv (IntKind.wrap .i64 ((IntKind.wrap .i64 ((IntKind.wrap .i64 (x16 * (IntKind.wrap .i64 (high - low)))) + steps)) - 1)) steps))))] : List Int) Try.underlying22 Try.underlying22 ty3 (by kernel_rfl) (by kernel_rfl) (by kernel_rfl) (holdsRef (enc := e_i64) 1 ([(IntKind.wrap .i64 (high - (IntKind.wrap .i64 (Int.tdiv (IntKind.wrap .i64 ((IntKind.wrap .i64 ((IntKind.wrap .i64 (x16 * (IntKind.wrap .i64 (high - low)))) + steps)) - 1)) steps))))] : List Int) false (by kernel_rfl) (by kernel_rfl)) h127 (by kernel_rfl)) ?_
              refine oOp (.ref 0 (List.length (xs6 ++ ([(IntKind.wrap .i64 (high - (IntKind.wrap .i64 (Int.tdiv (IntKind.wrap .i64 ((IntKind.wrap .i64 ((IntKind.wrap .i64 (x16 * (IntKind.wrap .i64 (high - low)))) + steps)) - 1)) steps))))] : List Int))) 0 (List.length (xs6 ++ ([(IntKind.wrap .i64 (high - (IntKind.wrap .i64 (Int.tdiv (IntKind.wrap .i64 ((IntKind.wrap .i64 ((IntKind.wrap .i64 (x16 * (IntKind.wrap .i64 (high - low)))) + steps)) - 1)) steps))))] : List Int)))) (by kernel_rfl) (by kernel_rfl) (PureV.does (p_assign (by kernel_rfl))) ?_
              refine oEnd ?_
              refine oBlk ?_
              refine oRegion rfl ?_
              refine oOp (.d (.int .i64 (IntKind.wrap .i64 (x16 + 1)))) (by kernel_rfl) (by kernel_rfl) (PureV.does (p_int (k := .i64) (p := x16) (q := 1) (by kernel_rfl) (by kernel_rfl) (by kernel_rfl))) ?_
              refine oOp (.d (.int .i64 (IntKind.wrap .i64 (x16 + 1)))) (by kernel_rfl) (by kernel_rfl) (PureV.does (p_move (by kernel_rfl))) ?_
              refine oEnd ?_
              refine oAgain ?_
              refine oHead [0, 1, 2, 8, 24, 25] [0] (T' := [(0, .d (.int .i64 high)), (1, .d (.int .i64 low)), (2, .d (.int .i64 steps)), (8, .ref 0 (List.length (xs6 ++ ([(IntKind.wrap .i64 (high - (IntKind.wrap .i64 (Int.tdiv (IntKind.wrap .i64 ((IntKind.wrap .i64 ((IntKind.wrap .i64 (x16 * (IntKind.wrap .i64 (high - low)))) + steps)) - 1)) steps))))] : List Int))) 0 (List.length (xs6 ++ ([(IntKind.wrap .i64 (high - (IntKind.wrap .i64 (Int.tdiv (IntKind.wrap .i64 ((IntKind.wrap .i64 ((IntKind.wrap .i64 (x16 * (IntKind.wrap .i64 (high - low)))) + steps)) - 1)) steps))))] : List Int)))), (24, .d (.int .i64 x15)), (25, .d (.int .i64 (IntKind.wrap .i64 (x16 + 1))))]) (H' := [.sl 1 (List.map e_i64 (xs6 ++ ([(IntKind.wrap .i64 (high - (IntKind.wrap .i64 (Int.tdiv (IntKind.wrap .i64 ((IntKind.wrap .i64 ((IntKind.wrap .i64 (x16 * (IntKind.wrap .i64 (high - low)))) + steps)) - 1)) steps))))] : List Int))) false]) (by kernel_rfl) (by kernel_rfl) (by kernel_rfl) (by kernel_rfl) (by decide) (by kernel_rfl) (by kernel_rfl) ?_
              exact hag1 (x15, (IntKind.wrap .i64 (x16 + 1)), (xs6 ++ ([(IntKind.wrap .i64 (high - (IntKind.wrap .i64 (Int.tdiv (IntKind.wrap .i64 ((IntKind.wrap .i64 ((IntKind.wrap .i64 (x16 * (IntKind.wrap .i64 (high - low)))) + steps)) - 1)) steps))))] : List Int)))
            · refine oCondF (by kernel_rfl) ?_
              refine oExit rfl ?_
              refine oHead [8] [0] (T' := [(8, .ref 0 (List.length xs6) 0 (List.length xs6))]) (H' := [.sl 1 (List.map e_i64 xs6) false]) (by kernel_rfl) (by kernel_rfl) (by kernel_rfl) (by kernel_rfl) (by decide) (by kernel_rfl) (by kernel_rfl) ?_
              exact hj2 xs6
    · refine bSplit 18 (by kernel_rfl) (fun hc => ?_) (fun hc => ?_)
      · refine oNot (by kernel_rfl) (by kernel_rfl) ?_
        refine oNot (by kernel_rfl) (by kernel_rfl) ?_
        refine oNot (by kernel_rfl) (by kernel_rfl) ?_
        refine oOp (.d (.bool true)) (by kernel_rfl) (by kernel_rfl) (PureV.does (p_pick (b := true) (by kernel_rfl) (by kernel_rfl))) ?_
        refine oHead [0, 1, 2, 22] [] (T' := [(0, .d (.int .i64 high)), (1, .d (.int .i64 low)), (2, .d (.int .i64 steps)), (22, .d (.bool true))]) (H' := []) (by kernel_rfl) (by kernel_rfl) (by kernel_rfl) (by kernel_rfl) (by decide) (by kernel_rfl) (by kernel_rfl) ?_
        exact hj3 true
      · refine oOp (.d (.int .i64 steps)) (by kernel_rfl) (by kernel_rfl) (PureV.does (p_move (by kernel_rfl))) ?_
        refine bCall (caps := []) (v := (fun (r16 : Bool) => (.d (.bool r16) : V))) (H' := (fun (r16 : Bool) => ([] : List Blk))) [] _ (boundary_in_goes k steps 1 8) (by kernel_rfl) (by kernel_rfl) rfl (by kernel_rfl) Try.func28 rfl (by kernel_rfl) (ConvRs.refl _ _) (by kernel_rfl) (by kernel_rfl) (by kernel_rfl) (by decide) (by kernel_rfl) (by kernel_rfl) (fun _ => (by kernel_rfl)) (fun _ => (by kernel_rfl)) (fun _ => (by kernel_rfl)) (fun r16 => ?_)
        refine oOp (.d (.bool (!r16))) (by kernel_rfl) (by kernel_rfl) (PureV.does (p_not (p := r16) (by kernel_rfl) (by kernel_rfl))) ?_
        refine oOp (.d (.bool (!r16))) (by kernel_rfl) (by kernel_rfl) (PureV.does (p_pick (b := false) (by kernel_rfl) (by kernel_rfl))) ?_
        refine oHead [0, 1, 2, 22] [] (T' := [(0, .d (.int .i64 high)), (1, .d (.int .i64 low)), (2, .d (.int .i64 steps)), (22, .d (.bool (!r16)))]) (H' := []) (by kernel_rfl) (by kernel_rfl) (by kernel_rfl) (by kernel_rfl) (by decide) (by kernel_rfl) (by kernel_rfl) ?_
        exact hj3 (!r16)
  · refine bSplit 12 (by kernel_rfl) (fun hc => ?_) (fun hc => ?_)
    · refine oNot (by kernel_rfl) (by kernel_rfl) ?_
      refine oNot (by kernel_rfl) (by kernel_rfl) ?_
      refine oNot (by kernel_rfl) (by kernel_rfl) ?_
      refine oNot (by kernel_rfl) (by kernel_rfl) ?_
      refine oOp (.d (.bool true)) (by kernel_rfl) (by kernel_rfl) (PureV.does (p_pick (b := true) (by kernel_rfl) (by kernel_rfl))) ?_
      refine oHead [0, 1, 2, 17] [] (T' := [(0, .d (.int .i64 high)), (1, .d (.int .i64 low)), (2, .d (.int .i64 steps)), (17, .d (.bool true))]) (H' := []) (by kernel_rfl) (by kernel_rfl) (by kernel_rfl) (by kernel_rfl) (by decide) (by kernel_rfl) (by kernel_rfl) ?_
      exact hj4 true
    · refine oOp (.d (.int .i64 high)) (by kernel_rfl) (by kernel_rfl) (PureV.does (p_move (by kernel_rfl))) ?_
      refine oOp (.d (.int .i64 low)) (by kernel_rfl) (by kernel_rfl) (PureV.does (p_move (by kernel_rfl))) ?_
      refine bCall (caps := []) (v := (fun (r17 : Bool) => (.d (.bool r17) : V))) (H' := (fun (r17 : Bool) => ([] : List Blk))) [] _ (boundary_in_goes k high low 200) (by kernel_rfl) (by kernel_rfl) rfl (by kernel_rfl) Try.func28 rfl (by kernel_rfl) (ConvRs.refl _ _) (by kernel_rfl) (by kernel_rfl) (by kernel_rfl) (by decide) (by kernel_rfl) (by kernel_rfl) (fun _ => (by kernel_rfl)) (fun _ => (by kernel_rfl)) (fun _ => (by kernel_rfl)) (fun r17 => ?_)
      refine oOp (.d (.bool (!r17))) (by kernel_rfl) (by kernel_rfl) (PureV.does (p_not (p := r17) (by kernel_rfl) (by kernel_rfl))) ?_
      refine oOp (.d (.bool (!r17))) (by kernel_rfl) (by kernel_rfl) (PureV.does (p_pick (b := false) (by kernel_rfl) (by kernel_rfl))) ?_
      refine oHead [0, 1, 2, 17] [] (T' := [(0, .d (.int .i64 high)), (1, .d (.int .i64 low)), (2, .d (.int .i64 steps)), (17, .d (.bool (!r17)))]) (H' := []) (by kernel_rfl) (by kernel_rfl) (by kernel_rfl) (by kernel_rfl) (by decide) (by kernel_rfl) (by kernel_rfl) ?_
      exact hj4 (!r17)

/-- awardingbody/boundary.Check$1 -/
def boundary_Check_1 (k : Nat) (x : Int) (x1 : Int) : Option (Bool) := Option.bind (boundary_in k x 0 (IntKind.wrap .i64 (x1 + 1))) (fun r12 => some (!r12))
def boundary_Check_1_E (x : Int) (x1 : Int) : Bool → V × List Blk := fun r11 => (.d (.bool r11), [.box [.d (.int .i64 x1)]])
theorem boundary_Check_1_goes (k : Nat) (x : Int) (x1 : Int) : RunsO Try.prog 38 [.d (.int .i64 x), .ptr 0 0] [.box [.d (.int .i64 x1)]] (boundary_Check_1_E x x1) (boundary_Check_1 k x x1) := by
  refine RunsO.of_goes (N := 9) (m := 1) (T := [(0, .d (.int .i64 x)), (1, .ptr 0 0)]) Try.func38 rfl rfl (by kernel_rfl) (by kernel_rfl) (by kernel_rfl) ?_
  unfold boundary_Check_1
  refine bStart ?_
  refine oSeq ?_
  refine oRegion rfl ?_
  refine oOp (.d (.bool false)) (by kernel_rfl) (by kernel_rfl) (PureV.does (p_assign (by kernel_rfl))) ?_
  refine oEnd ?_
  refine oSeq ?_
  refine oRegion rfl ?_
  refine oOp (.d (.int .i64 x)) (by kernel_rfl) (by kernel_rfl) (PureV.does (p_move (by kernel_rfl))) ?_
  refine oOp (.d (.int .i64 x1)) (by kernel_rfl) (by kernel_rfl) (Quiet.does (k_load 0 0 (by kernel_rfl) Try.underlying3 (by kernel_rfl) (by kernel_rfl))) ?_
  refine oOp (.d (.int .i64 (IntKind.wrap .i64 (x1 + 1)))) (by kernel_rfl) (by kernel_rfl) (PureV.does (p_int (k := .i64) (p := x1) (q := 1) (by kernel_rfl) (by kernel_rfl) (by kernel_rfl))) ?_
  refine bCall (caps := []) (v := (fun (r12 : Bool) => (.d (.bool r12) : V))) (H' := (fun (r12 : Bool) => ([.box [.d (.int .i64 x1)]] : List Blk))) [] _ (boundary_in_goes k x 0 (IntKind.wrap .i64 (x1 + 1))) (by kernel_rfl) (by kernel_rfl) rfl (by kernel_rfl) Try.func28 rfl (by kernel_rfl) (ConvRs.refl _ _) (by kernel_rfl) (by kernel_rfl) (by kernel_rfl) (by decide) (by kernel_rfl) (by kernel_rfl) (fun _ => (by kernel_rfl)) (fun _ => (by kernel_rfl)) (fun _ => (by kernel_rfl)) (fun r12 => ?_)
  refine oOp (.d (.bool (!r12))) (by kernel_rfl) (by kernel_rfl) (PureV.does (p_not (p := r12) (by kernel_rfl) (by kernel_rfl))) ?_
  refine oOp (.d (.bool (!r12))) (by kernel_rfl) (by kernel_rfl) (PureV.does (p_assign (by kernel_rfl))) ?_
  refine oEnd ?_
  exact oRet (r0 := (!r12)) (rv := .d (.bool (!r12))) (B := [.box [.d (.int .i64 x1)]]) (vs := [.d (.bool (!r12))]) (σ := [0]) (by kernel_rfl) Try.func38 rfl (.cons _ _ _ _ (.tmp 3 _ (by kernel_rfl)) .nil) (by kernel_rfl) (by kernel_rfl) (by kernel_rfl) (by kernel_rfl) (by decide) (by kernel_rfl) (by kernel_rfl)

/-- slices.IndexFunc[[]int,int] -/
def slices_IndexFunc_int_2_b1 (k : Nat) (s1 : (List Int)) (x : Int) (again : Int → Option ((Unit) ⊕ (Int))) : Int → Option ((Unit) ⊕ (Int)) := fun x5 => bif (decide (x5 < ((List.length s1) : Int))) then gidx s1 x5 fun e113 => Option.bind (boundary_Check_1 k e113 x) (fun r1113 => bif r1113 then some (Sum.inr x5) else again (IntKind.wrap .i64 (x5 + 1))) else some (Sum.inl ())
def slices_IndexFunc_int_2 (k : Nat) (s1 : (List Int)) (x : Int) : Option (Int) := Option.bind (gloop (slices_IndexFunc_int_2_b1 k s1 x) k 0 : Option ((Unit) ⊕ (Int))) (Sum.elim (u0 (some (-1))) (fun r => some r))
def slices_IndexFunc_int_2_E (s1 : (List Int)) (x : Int) : Int → V × List Blk := fun r1 => (.d (.int .i64 r1), [.box [.d (.int .i64 x)]])
theorem slices_IndexFunc_int_2_goes (k : Nat) (s1 : (List Int)) (x : Int) : RunsO Try.prog 48 [.d (.lit (List.map e_i64 s1)), .fn 38 [.ptr 0 0]] [.box [.d (.int .i64 x)]] (slices_IndexFunc_int_2_E s1 x) (slices_IndexFunc_int_2 k s1 x) := by
  refine RunsO.of_goes (N := 19) (m := 1) (T := [(0, .d (.lit (List.map e_i64 s1))), (1, .fn 38 [.ptr 0 0])]) Try.func48 rfl rfl (by kernel_rfl) (by kernel_rfl) (by kernel_rfl) ?_
  unfold slices_IndexFunc_int_2
  refine bStart ?_
  refine oSeq ?_
  refine oRegion rfl ?_
  refine oOp (.d (.int .i64 0)) (by kernel_rfl) (by kernel_rfl) (PureV.does (p_assign (by kernel_rfl))) ?_
  refine oEnd ?_
  refine oSeq ?_
  refine oSeq ?_
  refine oRegion rfl ?_
  refine oOp (.d (.lit (List.map e_i64 s1))) (by kernel_rfl) (by kernel_rfl) (PureV.does (p_move (by kernel_rfl))) ?_
  refine oOp (.d (.int .i64 ((List.length s1) : Int))) (by kernel_rfl) (by kernel_rfl) (PureV.does (k_lenLit (enc := e_i64) s1 (by kernel_rfl) Try.underlying22)) ?_
  refine oOp (.d (.int .i64 0)) (by kernel_rfl) (by kernel_rfl) (PureV.does (p_move (by kernel_rfl))) ?_
  refine oEnd ?_
  refine bJoin ((u0 ([]))) ((u0 ([.box [.d (.int .i64 x)]]))) Sum.inl (fun s => ?_) (fun hj2 => ?_)
  · cases s
    refine bInl ?_
    refine bU0 ?_
    refine oView (T' := []) (H' := [.box [.d (.int .i64 x)]]) (by kernel_rfl) (by kernel_rfl) ?_
    refine oSeq ?_
    refine oRegion rfl ?_
    refine oOp (.d (.int .i64 (-1))) (by kernel_rfl) (by kernel_rfl) (PureV.does (p_assign (by kernel_rfl))) ?_
    refine oEnd ?_
    exact oRet (r0 := (-1)) (rv := .d (.int .i64 (-1))) (B := [.box [.d (.int .i64 x)]]) (vs := [.d (.int .i64 (-1))]) (σ := [0]) (by kernel_rfl) Try.func48 rfl (.cons _ _ _ _ (.tmp 4 _ (by kernel_rfl)) .nil) (by kernel_rfl) (by kernel_rfl) (by kernel_rfl) (by kernel_rfl) (by decide) (by kernel_rfl) (by kernel_rfl)
  · refine oBlock ?_
    refine oLoop ?_
    refine oHead [0, 1, 7, 8] [0] (T' := [(0, .d (.lit (List.map e_i64 s1))), (1, .fn 38 [.ptr 0 0]), (7, .d (.int .i64 ((List.length s1) : Int))), (8, .d (.int .i64 0))]) (H' := [.box [.d (.int .i64 x)]]) (by kernel_rfl) (by kernel_rfl) (by kernel_rfl) (by kernel_rfl) (by decide) (by kernel_rfl) (by kernel_rfl) ?_
    refine bLoop (body := slices_IndexFunc_int_2_b1 k s1 x) ((fun (x5 : Int) => [(0, .d (.lit (List.map e_i64 s1))), (1, .fn 38 [.ptr 0 0]), (7, .d (.int .i64 ((List.length s1) : Int))), (8, .d (.int .i64 x5))])) ((fun (x5 : Int) => [.box [.d (.int .i64 x)]])) (fun again hag1 x5 => ?_) k 0
    · unfold slices_IndexFunc_int_2_b1
      refine oView (T' := [(0, .d (.lit (List.map e_i64 s1))), (1, .fn 38 [.ptr 0 0]), (7, .d (.int .i64 ((List.length s1) : Int))), (8, .d (.int .i64 x5))]) (H' := [.box [.d (.int .i64 x)]]) (by kernel_rfl) (by kernel_rfl) ?_
      refine oSeq ?_
      refine oRegion rfl ?_
      refine oOp (.d (.bool (decide (x5 < ((List.length s1) : Int))))) (by kernel_rfl) (by kernel_rfl) (PureV.does (p_int (k := .i64) (p := x5) (q := ((List.length s1) : Int)) (by kernel_rfl) (by kernel_rfl) (by kernel_rfl))) ?_
      refine oEnd ?_
      refine oSeq ?_
      refine bSplit 9 (by kernel_rfl) (fun hc => ?_) (fun hc => ?_)
      · refine oCondT (by kernel_rfl) ?_
        refine oSkip ?_
        refine oSeq ?_
        refine oBlock ?_
        refine oSeq ?_
        refine oRegion rfl ?_
        refine oOp (.d (.int .i64 x5)) (by kernel_rfl) (by kernel_rfl) (PureV.does (p_move (by kernel_rfl))) ?_
        refine oOp (.d (.int .i64 x5)) (by kernel_rfl) (by kernel_rfl) (PureV.does (p_assign (by kernel_rfl))) ?_
        refine oEnd ?_
        refine oSeq ?_
        refine oRegion rfl ?_
        refine oOp (.fn 38 [.ptr 0 0]) (by kernel_rfl) (by kernel_rfl) (PureV.does (p_move (by kernel_rfl))) ?_
        refine oOp (.d (.lit (List.map e_i64 s1))) (by kernel_rfl) (by kernel_rfl) (PureV.does (p_move (by kernel_rfl))) ?_
        refine oOp (.d (.int .i64 x5)) (by kernel_rfl) (by kernel_rfl) (PureV.does (p_move (by kernel_rfl))) ?_
        refine bIdx (fun e113 h126 h127 => ?_)
        refine oOp (.lptr (e_i64 e113) 0) (by kernel_rfl) (by kernel_rfl) (PureV.does (k_idxLit e_i64_len s1 (a := e113) (by kernel_rfl) (k := .i64) (i := x5) (by kernel_rfl) Try.underlying22 ty3 h126 h127)) ?_
        refine oOp (.d (.int .i64 e113)) (by kernel_rfl) (by kernel_rfl) (Quiet.does (k_loadL (cells := e_i64 e113) 0 (by kernel_rfl) Try.underlying3 (by kernel_rfl) (by kernel_rfl))) ?_
        refine bCall (caps := [.ptr 0 0]) (v := (fun (r1113 : Bool) => (.d (.bool r1113) : V))) (H' := (fun (r1113 : Bool) => ([.box [.d (.int .i64 x)]] : List Blk))) [0] _ (boundary_Check_1_goes k e113 x) (by kernel_rfl) (by kernel_rfl) rfl (by kernel_rfl) Try.func38 rfl (by kernel_rfl) (ConvRs.refl _ _) (by kernel_rfl) (by kernel_rfl) (by kernel_rfl) (by decide) (by kernel_rfl) (by kernel_rfl) (fun _ => (by kernel_rfl)) (fun _ => (by kernel_rfl)) (fun _ => (by kernel_rfl)) (fun r1113 => ?_)
        refine oEnd ?_
        refine bSplit 16 (by kernel_rfl) (fun hc => ?_) (fun hc => ?_)
        · refine oCondT (by kernel_rfl) ?_
          refine oSeq ?_
          refine oRegion rfl ?_
          refine oOp (.d (.int .i64 x5)) (by kernel_rfl) (by kernel_rfl) (PureV.does (p_move (by kernel_rfl))) ?_
          refine oOp (.d (.int .i64 x5)) (by kernel_rfl) (by kernel_rfl) (PureV.does (p_assign (by kernel_rfl))) ?_
          refine oEnd ?_
          exact oRet (r0 := x5) (rv := .d (.int .i64 x5)) (B := [.box [.d (.int .i64 x)]]) (vs := [.d (.int .i64 x5)]) (σ := [0]) (by kernel_rfl) Try.func48 rfl (.cons _ _ _ _ (.tmp 4 _ (by kernel_rfl)) .nil) (by kernel_rfl) (by kernel_rfl) (by kernel_rfl) (by kernel_rfl) (by decide) (by kernel_rfl) (by kernel_rfl)
        · refine oCondF (by kernel_rfl) ?_
          refine oSkip ?_
          refine oBlk ?_
          refine oRegion rfl ?_
          refine oOp (.d (.int .i64 (IntKind.wrap .i64 (x5 + 1)))) (by kernel_rfl) (by kernel_rfl) (PureV.does (p_int (k := .i64) (p := x5) (q := 1) (by kernel_rfl) (by kernel_rfl) (by kernel_rfl))) ?_
          refine oOp (.d (.int .i64 (IntKind.wrap .i64 (x5 + 1)))) (by kernel_rfl) (by kernel_rfl) (PureV.does (p_move (by kernel_rfl))) ?_
          refine oEnd ?_
          refine oAgain ?_
          refine oHead [0, 1, 7, 8] [0] (T' := [(0, .d (.lit (List.map e_i64 s1))), (1, .fn 38 [.ptr 0 0]), (7, .d (.int .i64 ((List.length s1) : Int))), (8, .d (.int .i64 (IntKind.wrap .i64 (x5 + 1))))]) (H' := [.box [.d (.int .i64 x)]]) (by kernel_rfl) (by kernel_rfl) (by kernel_rfl) (by kernel_rfl) (by decide) (by kernel_rfl) (by kernel_rfl) ?_
          exact hag1 (IntKind.wrap .i64 (x5 + 1))
      · refine oCondF (by kernel_rfl) ?_
        refine oExit rfl ?_
        refine oHead [] [0] (T' := []) (H' := [.box [.d (.int .i64 x)]]) (by kernel_rfl) (by kernel_rfl) (by kernel_rfl) (by kernel_rfl) (by decide) (by kernel_rfl) (by kernel_rfl) ?_
        exact hj2 ()

/-- slices.ContainsFunc[[]int,int] -/
def slices_ContainsFunc_int_2 (k : Nat) (s1 : (List Int)) (x : Int) : Option (Bool) := Option.bind (slices_IndexFunc_int_2 k s1 x) (fun r12 => some (decide (r12 ≥ 0)))
def slices_ContainsFunc_int_2_E (s1 : (List Int)) (x : Int) : Bool → V × List Blk := fun r11 => (.d (.bool r11), [.box [.d (.int .i64 x)]])
theorem slices_ContainsFunc_int_2_goes (k : Nat) (s1 : (List Int)) (x : Int) : RunsO Try.prog 37 [.d (.lit (List.map e_i64 s1)), .fn 38 [.ptr 0 0]] [.box [.d (.int .i64 x)]] (slices_ContainsFunc_int_2_E s1 x) (slices_ContainsFunc_int_2 k s1 x) := by
  refine RunsO.of_goes (N := 9) (m := 1) (T := [(0, .d (.lit (List.map e_i64 s1))), (1, .fn 38 [.ptr 0 0])]) Try.func37 rfl rfl (by kernel_rfl) (by kernel_rfl) (by kernel_rfl) ?_
  unfold slices_ContainsFunc_int_2
  refine bStart ?_
  refine oSeq ?_
  refine oRegion rfl ?_
  refine oOp (.d (.bool false)) (by kernel_rfl) (by kernel_rfl) (PureV.does (p_assign (by kernel_rfl))) ?_
  refine oEnd ?_
  refine oSeq ?_
  refine oRegion rfl ?_
  refine oOp (.d (.lit (List.map e_i64 s1))) (by kernel_rfl) (by kernel_rfl) (PureV.does (p_move (by kernel_rfl))) ?_
  refine oOp (.fn 38 [.ptr 0 0]) (by kernel_rfl) (by kernel_rfl) (PureV.does (p_move (by kernel_rfl))) ?_
  refine bCall (caps := []) (v := (fun (r12 : Int) => (.d (.int .i64 r12) : V))) (H' := (fun (r12 : Int) => ([.box [.d (.int .i64 x)]] : List Blk))) [0] _ (slices_IndexFunc_int_2_goes k s1 x) (by kernel_rfl) (by kernel_rfl) rfl (by kernel_rfl) Try.func48 rfl (by kernel_rfl) (ConvRs.refl _ _) (by kernel_rfl) (by kernel_rfl) (by kernel_rfl) (by decide) (by kernel_rfl) (by kernel_rfl) (fun _ => (by kernel_rfl)) (fun _ => (by kernel_rfl)) (fun _ => (by kernel_rfl)) (fun r12 => ?_)
  refine oOp (.d (.bool (decide (r12 ≥ 0)))) (by kernel_rfl) (by kernel_rfl) (PureV.does (p_int (k := .i64) (p := r12) (q := 0) (by kernel_rfl) (by kernel_rfl) (by kernel_rfl))) ?_
  refine oOp (.d (.bool (decide (r12 ≥ 0)))) (by kernel_rfl) (by kernel_rfl) (PureV.does (p_assign (by kernel_rfl))) ?_
  refine oEnd ?_
  exact oRet (r0 := (decide (r12 ≥ 0))) (rv := .d (.bool (decide (r12 ≥ 0)))) (B := [.box [.d (.int .i64 x)]]) (vs := [.d (.bool (decide (r12 ≥ 0)))]) (σ := [0]) (by kernel_rfl) Try.func37 rfl (.cons _ _ _ _ (.tmp 4 _ (by kernel_rfl)) .nil) (by kernel_rfl) (by kernel_rfl) (by kernel_rfl) (by kernel_rfl) (by decide) (by kernel_rfl) (by kernel_rfl)

/-- awardingbody/boundary.Check -/
def boundary_Check_b1 (k : Nat) (b : (List Int)) (again : Int → Option ((Unit) ⊕ (Int))) : Int → Option ((Unit) ⊕ (Int)) := fun i4 => bif (decide (i4 < ((List.length b) : Int))) then gidx b i4 fun e1 => gidx b (IntKind.wrap .i64 (i4 - 1)) fun e11 => bif (decide (e1 > e11)) then some (Sum.inr 43) else again (IntKind.wrap .i64 (i4 + 1)) else some (Sum.inl ())
def boundary_Check (k : Nat) (b : (List Int)) (most : Int) : Option (Int) := Option.bind (boundary_in k most 0 200) (fun r15 => bif (!r15) then some 2 else blet ((((List.length b) : Int) == 0) || (decide (((List.length b) : Int) > 9))) fun x5 => bif x5 then some 3 else Option.bind (slices_ContainsFunc_int_2 k b most) (fun r117 => bif r117 then some 2 else Option.bind (gloop (boundary_Check_b1 k b) k 1 : Option ((Unit) ⊕ (Int))) (Sum.elim (u0 (some 0)) (fun r => some r))))
def boundary_Check_E (b : (List Int)) (most : Int) : Int → V × List Blk := fun r13 => (.d (.int .i64 r13), [])
theorem boundary_Check_goes (k : Nat) (b : (List Int)) (most : Int) : RunsO Try.prog 24 [.d (.lit (List.map e_i64 b)), .d (.int .i64 most)] [] (boundary_Check_E b most) (boundary_Check k b most) := by
  refine RunsO.of_goes (N := 39) (m := 0) (T := [(0, .d (.lit (List.map e_i64 b))), (1, .d (.int .i64 most))]) Try.func24 rfl rfl (by kernel_rfl) (by kernel_rfl) (by kernel_rfl) ?_
  unfold boundary_Check
  refine bStart ?_
  refine oSeq ?_
  refine oRegion rfl ?_
  refine oOp (.ptr 0 0) (by kernel_rfl) (by kernel_rfl) (k_box (H' := [.box [.d (.int .i64 most)]]) (cells := [.d (.int .i64 most)]) (by kernel_rfl) (by kernel_rfl) (by kernel_rfl)) ?_
  refine oOp (.d (.int .i64 0)) (by kernel_rfl) (by kernel_rfl) (PureV.does (p_assign (by kernel_rfl))) ?_
  refine oEnd ?_
  refine oSeq ?_
  refine oBlock ?_
  refine oSeq ?_
  refine oRegion rfl ?_
  refine oOp (.d (.int .i64 most)) (by kernel_rfl) (by kernel_rfl) (Quiet.does (k_load 0 0 (by kernel_rfl) Try.underlying3 (by kernel_rfl) (by kernel_rfl))) ?_
  refine bCall (caps := []) (v := (fun (r15 : Bool) => (.d (.bool r15) : V))) (H' := (fun (r15 : Bool) => ([.box [.d (.int .i64 most)]] : List Blk))) [] _ (boundary_in_goes k most 0 200) (by kernel_rfl) (by kernel_rfl) rfl (by kernel_rfl) Try.func28 rfl (by kernel_rfl) (ConvRs.refl _ _) (by kernel_rfl) (by kernel_rfl) (by kernel_rfl) (by decide) (by kernel_rfl) (by kernel_rfl) (fun _ => (by kernel_rfl)) (fun _ => (by kernel_rfl)) (fun _ => (by kernel_rfl)) (fun r15 => ?_)
  refine oOp (.d (.bool (!r15))) (by kernel_rfl) (by kernel_rfl) (PureV.does (p_not (p := r15) (by kernel_rfl) (by kernel_rfl))) ?_
  refine oOp (.d (.bool (!r15))) (by kernel_rfl) (by kernel_rfl) (PureV.does (p_assign (by kernel_rfl))) ?_
  refine oEnd ?_
  refine bSplit 6 (by kernel_rfl) (fun hc => ?_) (fun hc => ?_)
  · refine oCondT (by kernel_rfl) ?_
    refine oSeq ?_
    refine oRegion rfl ?_
    refine oOp (.d (.int .i64 2)) (by kernel_rfl) (by kernel_rfl) (PureV.does (p_assign (by kernel_rfl))) ?_
    refine oEnd ?_
    exact oRet (r0 := 2) (rv := .d (.int .i64 2)) (B := []) (vs := [.d (.int .i64 2)]) (σ := []) (by kernel_rfl) Try.func24 rfl (.cons _ _ _ _ (.tmp 4 _ (by kernel_rfl)) .nil) (by kernel_rfl) (by kernel_rfl) (by kernel_rfl) (by kernel_rfl) (by decide) (by kernel_rfl) (by kernel_rfl)
  · refine oCondF (by kernel_rfl) ?_
    refine oSeq ?_
    refine oRegion rfl ?_
    refine oOp (.d (.lit (List.map e_i64 b))) (by kernel_rfl) (by kernel_rfl) (PureV.does (p_move (by kernel_rfl))) ?_
    refine oOp (.d (.int .i64 ((List.length b) : Int))) (by kernel_rfl) (by kernel_rfl) (PureV.does (k_lenLit (enc := e_i64) b (by kernel_rfl) Try.underlying22)) ?_
    refine oOp (.d (.bool (((List.length b) : Int) == 0))) (by kernel_rfl) (by kernel_rfl) (PureV.does (p_int (k := .i64) (p := ((List.length b) : Int)) (q := 0) (by kernel_rfl) (by kernel_rfl) (by kernel_rfl))) ?_
    refine oOp (.d (.bool (((List.length b) : Int) == 0))) (by kernel_rfl) (by kernel_rfl) (PureV.does (p_move (by kernel_rfl))) ?_
    refine bMeetF (H' := [.box [.d (.int .i64 most)]]) 4 rfl ((fun (x5 : Bool) => [(0, .d (.lit (List.map e_i64 b))), (3, .ptr 0 0), (18, .d (.bool x5))])) (fun x5 => ?_) (fun F hj2 => ?_)
    · refine oView (T' := [(0, .d (.lit (List.map e_i64 b))), (3, .ptr 0 0), (18, .d (.bool x5))]) (H' := [.box [.d (.int .i64 most)]]) (by kernel_rfl) (by kernel_rfl) ?_
      refine oOp (.d (.bool x5)) (by kernel_rfl) (by kernel_rfl) (PureV.does (p_assign (by kernel_rfl))) ?_
      refine oEnd ?_
      refine bSplit 10 (by kernel_rfl) (fun hc => ?_) (fun hc => ?_)
      · refine oCondT (by kernel_rfl) ?_
        refine oSeq ?_
        refine oRegion rfl ?_
        refine oOp (.d (.int .i64 3)) (by kernel_rfl) (by kernel_rfl) (PureV.does (p_assign (by kernel_rfl))) ?_
        refine oEnd ?_
        exact oRet (r0 := 3) (rv := .d (.int .i64 3)) (B := []) (vs := [.d (.int .i64 3)]) (σ := []) (by kernel_rfl) Try.func24 rfl (.cons _ _ _ _ (.tmp 4 _ (by kernel_rfl)) .nil) (by kernel_rfl) (by kernel_rfl) (by kernel_rfl) (by kernel_rfl) (by decide) (by kernel_rfl) (by kernel_rfl)
      · refine oCondF (by kernel_rfl) ?_
        refine oSeq ?_
        refine oRegion rfl ?_
        refine oOp (.d (.lit (List.map e_i64 b))) (by kernel_rfl) (by kernel_rfl) (PureV.does (p_move (by kernel_rfl))) ?_
        refine oOp (.fn 38 [.ptr 0 0]) (by kernel_rfl) (by kernel_rfl) (PureV.does (p_makeFunc (by kernel_rfl))) ?_
        refine bCall (caps := []) (v := (fun (r117 : Bool) => (.d (.bool r117) : V))) (H' := (fun (r117 : Bool) => ([.box [.d (.int .i64 most)]] : List Blk))) [0] _ (slices_ContainsFunc_int_2_goes k b most) (by kernel_rfl) (by kernel_rfl) rfl (by kernel_rfl) Try.func37 rfl (by kernel_rfl) (ConvRs.refl _ _) (by kernel_rfl) (by kernel_rfl) (by kernel_rfl) (by decide) (by kernel_rfl) (by kernel_rfl) (fun _ => (by kernel_rfl)) (fun _ => (by kernel_rfl)) (fun _ => (by kernel_rfl)) (fun r117 => ?_)
        refine oOp (.d (.bool r117)) (by kernel_rfl) (by kernel_rfl) (PureV.does (p_assign (by kernel_rfl))) ?_
        refine oEnd ?_
        refine bSplit 19 (by kernel_rfl) (fun hc => ?_) (fun hc => ?_)
        · refine oCondT (by kernel_rfl) ?_
          refine oSeq ?_
          refine oRegion rfl ?_
          refine oOp (.d (.int .i64 2)) (by kernel_rfl) (by kernel_rfl) (PureV.does (p_assign (by kernel_rfl))) ?_
          refine oEnd ?_
          exact oRet (r0 := 2) (rv := .d (.int .i64 2)) (B := []) (vs := [.d (.int .i64 2)]) (σ := []) (by kernel_rfl) Try.func24 rfl (.cons _ _ _ _ (.tmp 4 _ (by kernel_rfl)) .nil) (by kernel_rfl) (by kernel_rfl) (by kernel_rfl) (by kernel_rfl) (by decide) (by kernel_rfl) (by kernel_rfl)
        · refine oCondF (by kernel_rfl) ?_
          refine oSkip ?_
          refine oBlk ?_
          refine oSeq ?_
          refine oSeq ?_
          refine oRegion rfl ?_
          refine oOp (.d (.int .i64 1)) (by kernel_rfl) (by kernel_rfl) (PureV.does (p_assign (by kernel_rfl))) ?_
          refine oEnd ?_
          refine bJoin ((u0 ([]))) ((u0 ([]))) Sum.inl (fun s => ?_) (fun hj3 => ?_)
          · cases s
            refine bInl ?_
            refine bU0 ?_
            refine oView (T' := []) (H' := []) (by kernel_rfl) (by kernel_rfl) ?_
            refine oSeq ?_
            refine oRegion rfl ?_
            refine oOp (.d (.int .i64 0)) (by kernel_rfl) (by kernel_rfl) (PureV.does (p_assign (by kernel_rfl))) ?_
            refine oEnd ?_
            exact oRet (r0 := 0) (rv := .d (.int .i64 0)) (B := []) (vs := [.d (.int .i64 0)]) (σ := []) (by kernel_rfl) Try.func24 rfl (.cons _ _ _ _ (.tmp 4 _ (by kernel_rfl)) .nil) (by kernel_rfl) (by kernel_rfl) (by kernel_rfl) (by kernel_rfl) (by decide) (by kernel_rfl) (by kernel_rfl)
          · refine oBlock ?_
            refine oLoop ?_
            refine oHead [0, 5] [] (T' := [(0, .d (.lit (List.map e_i64 b))), (5, .d (.int .i64 1))]) (H' := []) (by kernel_rfl) (by kernel_rfl) (by kernel_rfl) (by kernel_rfl) (by decide) (by kernel_rfl) (by kernel_rfl) ?_
            refine bLoop (body := boundary_Check_b1 k b) ((fun (i4 : Int) => [(0, .d (.lit (List.map e_i64 b))), (5, .d (.int .i64 i4))])) ((fun (i4 : Int) => [])) (fun again hag1 i4 => ?_) k 1
            · unfold boundary_Check_b1
              refine oView (T' := [(0, .d (.lit (List.map e_i64 b))), (5, .d (.int .i64 i4))]) (H' := []) (by kernel_rfl) (by kernel_rfl) ?_
              refine oSeq ?_
              refine oSeq ?_
              refine oRegion rfl ?_
              refine oOp (.d (.int .i64 i4)) (by kernel_rfl) (by kernel_rfl) (PureV.does (p_move (by kernel_rfl))) ?_
              refine oOp (.d (.lit (List.map e_i64 b))) (by kernel_rfl) (by kernel_rfl) (PureV.does (p_move (by kernel_rfl))) ?_
              refine oOp (.d (.int .i64 ((List.length b) : Int))) (by kernel_rfl) (by kernel_rfl) (PureV.does (k_lenLit (enc := e_i64) b (by kernel_rfl) Try.underlying22)) ?_
              refine oOp (.d (.bool (decide (i4 < ((List.length b) : Int))))) (by kernel_rfl) (by kernel_rfl) (PureV.does (p_int (k := .i64) (p := i4) (q := ((List.length b) : Int)) (by kernel_rfl) (by kernel_rfl) (by kernel_rfl))) ?_
              refine oEnd ?_
              refine bSplit 26 (by kernel_rfl) (fun hc => ?_) (fun hc => ?_)
              · refine oCondT (by kernel_rfl) ?_
                refine oSkip ?_
                refine oSeq ?_
                refine oBlock ?_
                refine oSeq ?_
                refine oDraw [] rfl ?_
                refine aTakeL (i := 0) (st' := []) (.d (.lit (List.map e_i64 b))) rfl (by kernel_rfl) (by kernel_rfl) (by kernel_rfl) (by kernel_rfl) (by kernel_rfl) (by kernel_rfl) (by kernel_rfl) (PureV.quiet (p_move (by kernel_rfl)) []) ?_
                refine aTakeL (i := 1) (st' := []) (.d (.int .i64 i4)) rfl (by kernel_rfl) (by kernel_rfl) (by kernel_rfl) (by kernel_rfl) (by kernel_rfl) (by kernel_rfl) (by kernel_rfl) (PureV.quiet (p_move (by kernel_rfl)) []) ?_
                refine dIdx (fun e1 h1 h11 => ?_)
                refine aTakeL (i := 2) (st' := []) (.lptr (e_i64 e1) 0) rfl (by kernel_rfl) (by kernel_rfl) (by kernel_rfl) (by kernel_rfl) (by kernel_rfl) (by kernel_rfl) (by kernel_rfl) (PureV.quiet (k_idxLit e_i64_len b (a := e1) (by kernel_rfl) (k := .i64) (i := i4) (by kernel_rfl) Try.underlying22 ty3 h1 h11) []) ?_
                refine aTakeL (i := 3) (st' := []) (.d (.int .i64 e1)) rfl (by kernel_rfl) (by kernel_rfl) (by kernel_rfl) (by kernel_rfl) (by kernel_rfl) (by kernel_rfl) (by kernel_rfl) (k_loadL (cells := e_i64 e1) 0 (by kernel_rfl) Try.underlying3 (by kernel_rfl) (by kernel_rfl)) ?_
                refine aTakeL (i := 4) (st' := []) (.d (.lit (List.map e_i64 b))) rfl (by kernel_rfl) (by kernel_rfl) (by kernel_rfl) (by kernel_rfl) (by kernel_rfl) (by kernel_rfl) (by kernel_rfl) (PureV.quiet (p_move (by kernel_rfl)) []) ?_
                refine aTakeL (i := 5) (st' := []) (.d (.int .i64 i4)) rfl (by kernel_rfl) (by kernel_rfl) (by kernel_rfl) (by kernel_rfl) (by kernel_rfl) (by kernel_rfl) (by kernel_rfl) (PureV.quiet (p_move (by kernel_rfl)) []) ?_
                refine aTakeL (i := 6) (st' := []) (.d (.int .i64 (IntKind.wrap .i64 (i4 - 1)))) rfl (by kernel_rfl) (by kernel_rfl) (by kernel_rfl) (by kernel_rfl) (by kernel_rfl) (by kernel_rfl) (by kernel_rfl) (PureV.quiet (p_int (k := .i64) (p := i4) (q := 1) (by kernel_rfl) (by kernel_rfl) (by kernel_rfl)) []) ?_
                refine dIdx (fun e11 h12 h13 => ?_)
                refine aTakeL (i := 7) (st' := []) (.lptr (e_i64 e11) 0) rfl (by kernel_rfl) (by kernel_rfl) (by kernel_rfl) (by kernel_rfl) (by kernel_rfl) (by kernel_rfl) (by kernel_rfl) (PureV.quiet (k_idxLit e_i64_len b (a := e11) (by kernel_rfl) (k := .i64) (i := (IntKind.wrap .i64 (i4 - 1))) (by kernel_rfl) Try.underlying22 ty3 h12 h13) []) ?_
                refine aTakeL (i := 8) (st' := []) (.d (.int .i64 e11)) rfl (by kernel_rfl) (by kernel_rfl) (by kernel_rfl) (by kernel_rfl) (by kernel_rfl) (by kernel_rfl) (by kernel_rfl) (k_loadL (cells := e_i64 e11) 0 (by kernel_rfl) Try.underlying3 (by kernel_rfl) (by kernel_rfl)) ?_
                refine aTakeL (i := 9) (st' := []) (.d (.bool (decide (e1 > e11)))) rfl (by kernel_rfl) (by kernel_rfl) (by kernel_rfl) (by kernel_rfl) (by kernel_rfl) (by kernel_rfl) (by kernel_rfl) (PureV.quiet (p_int (k := .i64) (p := e1) (q := e11) (by kernel_rfl) (by kernel_rfl) (by kernel_rfl)) []) ?_
                refine aDone (by kernel_rfl) ?_
                refine bSplit 38 (by kernel_rfl) (fun hc => ?_) (fun hc => ?_)
                · refine oCondT (by kernel_rfl) ?_
                  refine oSeq ?_
                  refine oRegion rfl ?_
                  refine oOp (.d (.int .i64 43)) (by kernel_rfl) (by kernel_rfl) (PureV.does (p_assign (by kernel_rfl))) ?_
                  refine oEnd ?_
                  exact oRet (r0 := 43) (rv := .d (.int .i64 43)) (B := []) (vs := [.d (.int .i64 43)]) (σ := []) (by kernel_rfl) Try.func24 rfl (.cons _ _ _ _ (.tmp 4 _ (by kernel_rfl)) .nil) (by kernel_rfl) (by kernel_rfl) (by kernel_rfl) (by kernel_rfl) (by decide) (by kernel_rfl) (by kernel_rfl)
                · refine oCondF (by kernel_rfl) ?_
                  refine oSkip ?_
                  refine oBlk ?_
                  refine oRegion rfl ?_
                  refine oOp (.d (.int .i64 i4)) (by kernel_rfl) (by kernel_rfl) (PureV.does (p_move (by kernel_rfl))) ?_
                  refine oOp (.d (.int .i64 (IntKind.wrap .i64 (i4 + 1)))) (by kernel_rfl) (by kernel_rfl) (PureV.does (p_int (k := .i64) (p := i4) (q := 1) (by kernel_rfl) (by kernel_rfl) (by kernel_rfl))) ?_
                  refine oOp (.d (.int .i64 (IntKind.wrap .i64 (i4 + 1)))) (by kernel_rfl) (by kernel_rfl) (PureV.does (p_assign (by kernel_rfl))) ?_
                  refine oEnd ?_
                  refine oAgain ?_
                  refine oHead [0, 5] [] (T' := [(0, .d (.lit (List.map e_i64 b))), (5, .d (.int .i64 (IntKind.wrap .i64 (i4 + 1))))]) (H' := []) (by kernel_rfl) (by kernel_rfl) (by kernel_rfl) (by kernel_rfl) (by decide) (by kernel_rfl) (by kernel_rfl) ?_
                  exact hag1 (IntKind.wrap .i64 (i4 + 1))
              · refine oCondF (by kernel_rfl) ?_
                refine oExit rfl ?_
                refine oHead [] [] (T' := []) (H' := []) (by kernel_rfl) (by kernel_rfl) (by kernel_rfl) (by kernel_rfl) (by decide) (by kernel_rfl) (by kernel_rfl) ?_
                exact hj3 ()
    · refine bPickF 14 (fun c => F (c || (decide (((List.length b) : Int) > 9)))) (by kernel_rfl) (fun hc => ?_) (fun hc => ?_)
      · refine oNot (by kernel_rfl) (by kernel_rfl) ?_
        refine oNot (by kernel_rfl) (by kernel_rfl) ?_
        refine oNot (by kernel_rfl) (by kernel_rfl) ?_
        refine oOp (.d (.bool true)) (by kernel_rfl) (by kernel_rfl) (PureV.does (p_pick (b := true) (by kernel_rfl) (by kernel_rfl))) ?_
        refine oHead [0, 3, 18] [0] (T' := [(0, .d (.lit (List.map e_i64 b))), (3, .ptr 0 0), (18, .d (.bool true))]) (H' := [.box [.d (.int .i64 most)]]) (by kernel_rfl) (by kernel_rfl) (by kernel_rfl) (by kernel_rfl) (by decide) (by kernel_rfl) (by kernel_rfl) ?_
        exact hj2 true
      · refine oOp (.d (.lit (List.map e_i64 b))) (by kernel_rfl) (by kernel_rfl) (PureV.does (p_move (by kernel_rfl))) ?_
        refine oOp (.d (.int .i64 ((List.length b) : Int))) (by kernel_rfl) (by kernel_rfl) (PureV.does (k_lenLit (enc := e_i64) b (by kernel_rfl) Try.underlying22)) ?_
        refine oOp (.d (.bool (decide (((List.length b) : Int) > 9)))) (by kernel_rfl) (by kernel_rfl) (PureV.does (p_int (k := .i64) (p := ((List.length b) : Int)) (q := 9) (by kernel_rfl) (by kernel_rfl) (by kernel_rfl))) ?_
        refine oOp (.d (.bool (decide (((List.length b) : Int) > 9)))) (by kernel_rfl) (by kernel_rfl) (PureV.does (p_pick (b := false) (by kernel_rfl) (by kernel_rfl))) ?_
        refine oHead [0, 3, 18] [0] (T' := [(0, .d (.lit (List.map e_i64 b))), (3, .ptr 0 0), (18, .d (.bool (decide (((List.length b) : Int) > 9))))]) (H' := [.box [.d (.int .i64 most)]]) (by kernel_rfl) (by kernel_rfl) (by kernel_rfl) (by kernel_rfl) (by decide) (by kernel_rfl) (by kernel_rfl) ?_
        exact hj2 (decide (((List.length b) : Int) > 9))

/-- awardingbody/boundary.Grade -/
def boundary_Grade_b1 (k : Nat) (b : (List Int)) (mark1 : Int) (again : Int → Option ((Unit) ⊕ (Int))) : Int → Option ((Unit) ⊕ (Int)) := fun x4 => bif (decide (x4 < ((List.length b) : Int))) then gidx b x4 fun e113 => bif (decide (e113 ≤ mark1)) then some (Sum.inr x4) else again (IntKind.wrap .i64 (x4 + 1)) else some (Sum.inl ())
def boundary_Grade (k : Nat) (b : (List Int)) (mark1 : Int) : Option (Int) := Option.bind (gloop (boundary_Grade_b1 k b mark1) k 0 : Option ((Unit) ⊕ (Int))) (Sum.elim (u0 (some ((List.length b) : Int))) (fun r => some r))
def boundary_Grade_E (b : (List Int)) (mark1 : Int) : Int → V × List Blk := fun r1 => (.d (.int .i64 r1), [])
theorem boundary_Grade_goes (k : Nat) (b : (List Int)) (mark1 : Int) : RunsO Try.prog 13 [.d (.lit (List.map e_i64 b)), .d (.int .i64 mark1)] [] (boundary_Grade_E b mark1) (boundary_Grade k b mark1) := by
  refine RunsO.of_goes (N := 21) (m := 0) (T := [(0, .d (.lit (List.map e_i64 b))), (1, .d (.int .i64 mark1))]) Try.func13 rfl rfl (by kernel_rfl) (by kernel_rfl) (by kernel_rfl) ?_
  unfold boundary_Grade
  refine bStart ?_
  refine oSeq ?_
  refine oRegion rfl ?_
  refine oOp (.d (.int .i64 0)) (by kernel_rfl) (by kernel_rfl) (PureV.does (p_assign (by kernel_rfl))) ?_
  refine oEnd ?_
  refine oSeq ?_
  refine oSeq ?_
  refine oRegion rfl ?_
  refine oOp (.d (.lit (List.map e_i64 b))) (by kernel_rfl) (by kernel_rfl) (PureV.does (p_move (by kernel_rfl))) ?_
  refine oOp (.d (.int .i64 ((List.length b) : Int))) (by kernel_rfl) (by kernel_rfl) (PureV.does (k_lenLit (enc := e_i64) b (by kernel_rfl) Try.underlying22)) ?_
  refine oOp (.d (.int .i64 0)) (by kernel_rfl) (by kernel_rfl) (PureV.does (p_move (by kernel_rfl))) ?_
  refine oEnd ?_
  refine bJoin ((u0 ([(0, .d (.lit (List.map e_i64 b)))]))) ((u0 ([]))) Sum.inl (fun s => ?_) (fun hj2 => ?_)
  · cases s
    refine bInl ?_
    refine bU0 ?_
    refine oView (T' := [(0, .d (.lit (List.map e_i64 b)))]) (H' := []) (by kernel_rfl) (by kernel_rfl) ?_
    refine oSeq ?_
    refine oRegion rfl ?_
    refine oOp (.d (.lit (List.map e_i64 b))) (by kernel_rfl) (by kernel_rfl) (PureV.does (p_move (by kernel_rfl))) ?_
    refine oOp (.d (.int .i64 ((List.length b) : Int))) (by kernel_rfl) (by kernel_rfl) (PureV.does (k_lenLit (enc := e_i64) b (by kernel_rfl) Try.underlying22)) ?_
    refine oOp (.d (.int .i64 ((List.length b) : Int))) (by kernel_rfl) (by kernel_rfl) (PureV.does (p_assign (by kernel_rfl))) ?_
    refine oEnd ?_
    exact oRet (r0 := ((List.length b) : Int)) (rv := .d (.int .i64 ((List.length b) : Int))) (B := []) (vs := [.d (.int .i64 ((List.length b) : Int))]) (σ := []) (by kernel_rfl) Try.func13 rfl (.cons _ _ _ _ (.tmp 4 _ (by kernel_rfl)) .nil) (by kernel_rfl) (by kernel_rfl) (by kernel_rfl) (by kernel_rfl) (by decide) (by kernel_rfl) (by kernel_rfl)
  · refine oBlock ?_
    refine oLoop ?_
    refine oHead [0, 1, 7, 8, 9] [] (T' := [(0, .d (.lit (List.map e_i64 b))), (1, .d (.int .i64 mark1)), (7, .d (.lit (List.map e_i64 b))), (8, .d (.int .i64 ((List.length b) : Int))), (9, .d (.int .i64 0))]) (H' := []) (by kernel_rfl) (by kernel_rfl) (by kernel_rfl) (by kernel_rfl) (by decide) (by kernel_rfl) (by kernel_rfl) ?_
    refine bLoop (body := boundary_Grade_b1 k b mark1) ((fun (x4 : Int) => [(0, .d (.lit (List.map e_i64 b))), (1, .d (.int .i64 mark1)), (7, .d (.lit (List.map e_i64 b))), (8, .d (.int .i64 ((List.length b) : Int))), (9, .d (.int .i64 x4))])) ((fun (x4 : Int) => [])) (fun again hag1 x4 => ?_) k 0
    · unfold boundary_Grade_b1
      refine oView (T' := [(0, .d (.lit (List.map e_i64 b))), (1, .d (.int .i64 mark1)), (7, .d (.lit (List.map e_i64 b))), (8, .d (.int .i64 ((List.length b) : Int))), (9, .d (.int .i64 x4))]) (H' := []) (by kernel_rfl) (by kernel_rfl) ?_
      refine oSeq ?_
      refine oRegion rfl ?_
      refine oOp (.d (.bool (decide (x4 < ((List.length b) : Int))))) (by kernel_rfl) (by kernel_rfl) (PureV.does (p_int (k := .i64) (p := x4) (q := ((List.length b) : Int)) (by kernel_rfl) (by kernel_rfl) (by kernel_rfl))) ?_
      refine oEnd ?_
      refine oSeq ?_
      refine bSplit 10 (by kernel_rfl) (fun hc => ?_) (fun hc => ?_)
      · refine oCondT (by kernel_rfl) ?_
        refine oSkip ?_
        refine oSeq ?_
        refine oBlock ?_
        refine oSeq ?_
        refine oRegion rfl ?_
        refine oOp (.d (.int .i64 x4)) (by kernel_rfl) (by kernel_rfl) (PureV.does (p_move (by kernel_rfl))) ?_
        refine bIdx (fun e113 h126 h127 => ?_)
        refine oOp (.lptr (e_i64 e113) 0) (by kernel_rfl) (by kernel_rfl) (PureV.does (k_idxLit e_i64_len b (a := e113) (by kernel_rfl) (k := .i64) (i := x4) (by kernel_rfl) Try.underlying22 ty3 h126 h127)) ?_
        refine oOp (.d (.int .i64 e113)) (by kernel_rfl) (by kernel_rfl) (Quiet.does (k_loadL (cells := e_i64 e113) 0 (by kernel_rfl) Try.underlying3 (by kernel_rfl) (by kernel_rfl))) ?_
        refine oOp (.d (.int .i64 x4)) (by kernel_rfl) (by kernel_rfl) (PureV.does (p_assign (by kernel_rfl))) ?_
        refine oOp (.d (.int .i64 e113)) (by kernel_rfl) (by kernel_rfl) (PureV.does (p_assign (by kernel_rfl))) ?_
        refine oEnd ?_
        refine oSeq ?_
        refine oRegion rfl ?_
        refine oOp (.d (.int .i64 e113)) (by kernel_rfl) (by kernel_rfl) (PureV.does (p_move (by kernel_rfl))) ?_
        refine oOp (.d (.int .i64 mark1)) (by kernel_rfl) (by kernel_rfl) (PureV.does (p_move (by kernel_rfl))) ?_
        refine oOp (.d (.bool (decide (e113 ≤ mark1)))) (by kernel_rfl) (by kernel_rfl) (PureV.does (p_int (k := .i64) (p := e113) (q := mark1) (by kernel_rfl) (by kernel_rfl) (by kernel_rfl))) ?_
        refine oEnd ?_
        refine bSplit 16 (by kernel_rfl) (fun hc => ?_) (fun hc => ?_)
        · refine oCondT (by kernel_rfl) ?_
          refine oSeq ?_
          refine oRegion rfl ?_
          refine oOp (.d (.int .i64 x4)) (by kernel_rfl) (by kernel_rfl) (PureV.does (p_move (by kernel_rfl))) ?_
          refine oOp (.d (.int .i64 x4)) (by kernel_rfl) (by kernel_rfl) (PureV.does (p_assign (by kernel_rfl))) ?_
          refine oEnd ?_
          exact oRet (r0 := x4) (rv := .d (.int .i64 x4)) (B := []) (vs := [.d (.int .i64 x4)]) (σ := []) (by kernel_rfl) Try.func13 rfl (.cons _ _ _ _ (.tmp 4 _ (by kernel_rfl)) .nil) (by kernel_rfl) (by kernel_rfl) (by kernel_rfl) (by kernel_rfl) (by decide) (by kernel_rfl) (by kernel_rfl)
        · refine oCondF (by kernel_rfl) ?_
          refine oSkip ?_
          refine oBlk ?_
          refine oRegion rfl ?_
          refine oOp (.d (.int .i64 (IntKind.wrap .i64 (x4 + 1)))) (by kernel_rfl) (by kernel_rfl) (PureV.does (p_int (k := .i64) (p := x4) (q := 1) (by kernel_rfl) (by kernel_rfl) (by kernel_rfl))) ?_
          refine oOp (.d (.int .i64 (IntKind.wrap .i64 (x4 + 1)))) (by kernel_rfl) (by kernel_rfl) (PureV.does (p_move (by kernel_rfl))) ?_
          refine oEnd ?_
          refine oAgain ?_
          refine oHead [0, 1, 7, 8, 9] [] (T' := [(0, .d (.lit (List.map e_i64 b))), (1, .d (.int .i64 mark1)), (7, .d (.lit (List.map e_i64 b))), (8, .d (.int .i64 ((List.length b) : Int))), (9, .d (.int .i64 (IntKind.wrap .i64 (x4 + 1))))]) (H' := []) (by kernel_rfl) (by kernel_rfl) (by kernel_rfl) (by kernel_rfl) (by decide) (by kernel_rfl) (by kernel_rfl) ?_
          exact hag1 (IntKind.wrap .i64 (x4 + 1))
      · refine oCondF (by kernel_rfl) ?_
        refine oExit rfl ?_
        refine oHead [0] [] (T' := [(0, .d (.lit (List.map e_i64 b)))]) (H' := []) (by kernel_rfl) (by kernel_rfl) (by kernel_rfl) (by kernel_rfl) (by decide) (by kernel_rfl) (by kernel_rfl) ?_
        exact hj2 ()

/-- awardingbody/boundary.Tally -/
def boundary_Tally_b1 (k : Nat) (d0 : (List Int)) (b : (List Int)) (again : Int × (List Int) → Option ((List Int))) : Int × (List Int) → Option ((List Int)) := uc fun s17 => fun xs9 => bif (decide (s17 ≥ 0)) then gidx d0 s17 fun e1 => Option.bind (boundary_Grade k b s17) (fun r1 => gidx xs9 r1 fun e11 => blet (List.set xs9 (Int.toNat r1) (IntKind.wrap .i64 (e11 + e1))) fun xs1 => again ((IntKind.wrap .i64 (s17 - 1)), xs1)) else some xs9
def boundary_Tally (k : Nat) (d0 : (List Int)) (b : (List Int)) : Option ((List Int) × Int) := Option.bind (distribution_Valid k d0) (fun r121 => bif (!r121) then some ([], 1) else Option.bind (boundary_Check k b (IntKind.wrap .i64 (((List.length d0) : Int) - 1))) (fun r131 => bif (r131 != 0) then some ([], r131) else gmake (IntKind.wrap .i64 (((List.length b) : Int) + 1)) 8 (blet (List.replicate (Int.toNat (IntKind.wrap .i64 (((List.length b) : Int) + 1))) 0) fun xs5 => Option.bind (gloop (boundary_Tally_b1 k d0 b) k ((IntKind.wrap .i64 (((List.length d0) : Int) - 1)), xs5) : Option ((List Int))) (fun xs8 => some (xs8, 0)))))
def boundary_Tally_E (d0 : (List Int)) (b : (List Int)) : (List Int) × Int → V × List Blk := uc fun r11 => fun r14 => (.tuple [.d (.lit (List.map e_i64 r11)), .d (.int .i64 r14)], [])
theorem boundary_Tally_goes (k : Nat) (d0 : (List Int)) (b : (List Int)) : RunsO Try.prog 12 [.agg [.d (.lit (List.map e_i64 d0))], .d (.lit (List.map e_i64 b))] [] (boundary_Tally_E d0 b) (boundary_Tally k d0 b) := by
  refine RunsO.of_goes (N := 47) (m := 0) (T := [(0, .agg [.d (.lit (List.map e_i64 d0))]), (1, .d (.lit (List.map e_i64 b)))]) Try.func12 rfl rfl (by kernel_rfl) (by kernel_rfl) (by kernel_rfl) ?_
  unfold boundary_Tally
  refine bStart ?_
  refine oSeq ?_
  refine oRegion rfl ?_
  refine oOp (.ptr 0 0) (by kernel_rfl) (by kernel_rfl) (k_box (H' := [.box [.d (.lit (List.map e_i64 d0))]]) (cells := [.d (.lit (List.map e_i64 d0))]) (by kernel_rfl) (by kernel_rfl) (by kernel_rfl)) ?_
  refine oOp (.nilc) (by kernel_rfl) (by kernel_rfl) (PureV.does (p_assign (by kernel_rfl))) ?_
  refine oOp (.d (.int .i64 0)) (by kernel_rfl) (by kernel_rfl) (PureV.does (p_assign (by kernel_rfl))) ?_
  refine oEnd ?_
  refine oSeq ?_
  refine oSeq ?_
  refine oRegion rfl ?_
  refine oOp (.agg [.d (.lit (List.map e_i64 d0))]) (by kernel_rfl) (by kernel_rfl) (Quiet.does (k_loadAgg 0 0 (by kernel_rfl) Try.underlying28 (by kernel_rfl) ty28 (by kernel_rfl))) ?_
  refine bCall (caps := []) (v := (fun (r121 : Bool) => (.d (.bool r121) : V))) (H' := (fun (r121 : Bool) => ([.box [.d (.lit (List.map e_i64 d0))]] : List Blk))) [] _ (distribution_Valid_goes k d0) (by kernel_rfl) (by kernel_rfl) rfl (by kernel_rfl) Try.func27 rfl (by kernel_rfl) (ConvRs.refl _ _) (by kernel_rfl) (by kernel_rfl) (by kernel_rfl) (by decide) (by kernel_rfl) (by kernel_rfl) (fun _ => (by kernel_rfl)) (fun _ => (by kernel_rfl)) (fun _ => (by kernel_rfl)) (fun r121 => ?_)
  refine oOp (.d (.bool (!r121))) (by kernel_rfl) (by kernel_rfl) (PureV.does (p_not (p := r121) (by kernel_rfl) (by kernel_rfl))) ?_
  refine oEnd ?_
  refine bSplit 11 (by kernel_rfl) (fun hc => ?_) (fun hc => ?_)
  · refine oCondT (by kernel_rfl) ?_
    refine oSeq ?_
    refine oRegion rfl ?_
    refine oOp (.nilc) (by kernel_rfl) (by kernel_rfl) (PureV.does (p_assign (by kernel_rfl))) ?_
    refine oOp (.d (.int .i64 1)) (by kernel_rfl) (by kernel_rfl) (PureV.does (p_assign (by kernel_rfl))) ?_
    refine oEnd ?_
    refine oConv 4 (v := .nilc) (v' := .d (.lit (List.map e_i64 []))) (by kernel_rfl) .nil ?_
    exact oRet (r0 := ([], 1)) (rv := .tuple [.d (.lit (List.map e_i64 [])), .d (.int .i64 1)]) (B := []) (vs := [.d (.lit (List.map e_i64 [])), .d (.int .i64 1)]) (σ := []) (by kernel_rfl) Try.func12 rfl (.cons _ _ _ _ (.tmp 4 _ (by kernel_rfl)) (.cons _ _ _ _ (.tmp 5 _ (by kernel_rfl)) .nil)) (by kernel_rfl) (by kernel_rfl) (by kernel_rfl) (by kernel_rfl) (by decide) (by kernel_rfl) (by kernel_rfl)
  · refine oCondF (by kernel_rfl) ?_
    refine oSkip ?_
    refine oSeq ?_
    refine oSeq ?_
    refine oRegion rfl ?_
    refine oOp (.d (.lit (List.map e_i64 b))) (by kernel_rfl) (by kernel_rfl) (PureV.does (p_move (by kernel_rfl))) ?_
    refine oOp (.ptr 0 0) (by kernel_rfl) (by kernel_rfl) (PureV.does (k_fieldAddr 0 0 (by kernel_rfl) Try.underlying28 rfl ty22 (by kernel_rfl))) ?_
    refine oOp (.d (.lit (List.map e_i64 d0))) (by kernel_rfl) (by kernel_rfl) (Quiet.does (k_load 0 0 (by kernel_rfl) Try.underlying22 (by kernel_rfl) (by kernel_rfl))) ?_
    refine oOp (.d (.int .i64 ((List.length d0) : Int))) (by kernel_rfl) (by kernel_rfl) (PureV.does (k_lenLit (enc := e_i64) d0 (by kernel_rfl) Try.underlying22)) ?_
    refine oOp (.d (.int .i64 (IntKind.wrap .i64 (((List.length d0) : Int) - 1)))) (by kernel_rfl) (by kernel_rfl) (PureV.does (p_int (k := .i64) (p := ((List.length d0) : Int)) (q := 1) (by kernel_rfl) (by kernel_rfl) (by kernel_rfl))) ?_
    refine bCall (caps := []) (v := (fun (r131 : Int) => (.d (.int .i64 r131) : V))) (H' := (fun (r131 : Int) => ([.box [.d (.lit (List.map e_i64 d0))]] : List Blk))) [] _ (boundary_Check_goes k b (IntKind.wrap .i64 (((List.length d0) : Int) - 1))) (by kernel_rfl) (by kernel_rfl) rfl (by kernel_rfl) Try.func24 rfl (by kernel_rfl) (ConvRs.refl _ _) (by kernel_rfl) (by kernel_rfl) (by kernel_rfl) (by decide) (by kernel_rfl) (by kernel_rfl) (fun _ => (by kernel_rfl)) (fun _ => (by kernel_rfl)) (fun _ => (by kernel_rfl)) (fun r131 => ?_)
    refine oOp (.d (.int .i64 r131)) (by kernel_rfl) (by kernel_rfl) (PureV.does (p_assign (by kernel_rfl))) ?_
    refine oEnd ?_
    refine oSeq ?_
    refine oRegion rfl ?_
    refine oOp (.d (.int .i64 r131)) (by kernel_rfl) (by kernel_rfl) (PureV.does (p_move (by kernel_rfl))) ?_
    refine oOp (.d (.bool (r131 != 0))) (by kernel_rfl) (by kernel_rfl) (PureV.does (p_int (k := .i64) (p := r131) (q := 0) (by kernel_rfl) (by kernel_rfl) (by kernel_rfl))) ?_
    refine oEnd ?_
    refine bSplit 19 (by kernel_rfl) (fun hc => ?_) (fun hc => ?_)
    · refine oCondT (by kernel_rfl) ?_
      refine oSeq ?_
      refine oRegion rfl ?_
      refine oOp (.d (.int .i64 r131)) (by kernel_rfl) (by kernel_rfl) (PureV.does (p_move (by kernel_rfl))) ?_
      refine oOp (.nilc) (by kernel_rfl) (by kernel_rfl) (PureV.does (p_assign (by kernel_rfl))) ?_
      refine oOp (.d (.int .i64 r131)) (by kernel_rfl) (by kernel_rfl) (PureV.does (p_assign (by kernel_rfl))) ?_
      refine oEnd ?_
      refine oConv 4 (v := .nilc) (v' := .d (.lit (List.map e_i64 []))) (by kernel_rfl) .nil ?_
      exact oRet (r0 := ([], r131)) (rv := .tuple [.d (.lit (List.map e_i64 [])), .d (.int .i64 r131)]) (B := []) (vs := [.d (.lit (List.map e_i64 [])), .d (.int .i64 r131)]) (σ := []) (by kernel_rfl) Try.func12 rfl (.cons _ _ _ _ (.tmp 4 _ (by kernel_rfl)) (.cons _ _ _ _ (.tmp 5 _ (by kernel_rfl)) .nil)) (by kernel_rfl) (by kernel_rfl) (by kernel_rfl) (by kernel_rfl) (by decide) (by kernel_rfl) (by kernel_rfl)
    · refine oCondF (by kernel_rfl) ?_
      refine oSkip ?_
      refine oSeq ?_
      refine oRegion rfl ?_
      refine oOp (.d (.lit (List.map e_i64 b))) (by kernel_rfl) (by kernel_rfl) (PureV.does (p_move (by kernel_rfl))) ?_
      refine oOp (.d (.int .i64 ((List.length b) : Int))) (by kernel_rfl) (by kernel_rfl) (PureV.does (k_lenLit (enc := e_i64) b (by kernel_rfl) Try.underlying22)) ?_
      refine oOp (.d (.int .i64 (IntKind.wrap .i64 (((List.length b) : Int) + 1)))) (by kernel_rfl) (by kernel_rfl) (PureV.does (p_int (k := .i64) (p := ((List.length b) : Int)) (q := 1) (by kernel_rfl) (by kernel_rfl) (by kernel_rfl))) ?_
      refine bMake (fun h16 h17 => ?_)
      refine bSet _ (fun xs5 hs2 => ?_)
      refine oOp (.ref 1 (Int.toNat (IntKind.wrap .i64 (((List.length b) : Int) + 1))) 0 (Int.toNat (IntKind.wrap .i64 (((List.length b) : Int) + 1)))) (by kernel_rfl) (by kernel_rfl) (k_make (enc := e_i64) (k1 := .i64) (k2 := .i64) (H' := [.box [.d (.lit (List.map e_i64 d0))], .sl 1 (List.map e_i64 xs5) false]) 0 [(.int .i64 0)] (by kernel_rfl) (by kernel_rfl) Try.underlying22 ty3 (by kernel_rfl) (by kernel_rfl) (by kernel_rfl) h16 h17 (by subst hs2; rfl)) ?_
      refine oHead [1, 2, 24] [0, 1] (T' := [(1, .d (.lit (List.map e_i64 b))), (2, .ptr 0 0), (24, .ref 1 (Int.toNat (IntKind.wrap .i64 (((List.length b) : Int) + 1))) 0 (Int.toNat (IntKind.wrap .i64 (((List.length b) : Int) + 1))))]) (H' := [.box [.d (.lit (List.map e_i64 d0))], .sl 1 (List.map e_i64 xs5) false]) (by kernel_rfl) (by kernel_rfl) (by kernel_rfl) (by kernel_rfl) (by decide) (by kernel_rfl) (by kernel_rfl) ?_
      refine oView (T' := [(1, .d (.lit (List.map e_i64 b))), (2, .ptr 0 0), (24, .ref 1 (List.length xs5) 0 (List.length xs5))]) (H' := [.box [.d (.lit (List.map e_i64 d0))], .sl 1 (List.map e_i64 xs5) false]) (by first | rw [(rep_len hs2)] | rfl) (by first | rw [(rep_len hs2)] | rfl) ?_
      refine oOp (.ref 1 (List.length xs5) 0 (List.length xs5)) (by kernel_rfl) (by kernel_rfl) (PureV.does (p_assign (by kernel_rfl))) ?_
      refine oEnd ?_
      refine oSeq ?_
      refine oSeq ?_
      refine oRegion rfl ?_
      refine oOp (.ptr 0 0) (by kernel_rfl) (by kernel_rfl) (PureV.does (k_fieldAddr 0 0 (by kernel_rfl) Try.underlying28 rfl ty22 (by kernel_rfl))) ?_
      refine oOp (.d (.lit (List.map e_i64 d0))) (by kernel_rfl) (by kernel_rfl) (Quiet.does (k_load 0 0 (by kernel_rfl) Try.underlying22 (by kernel_rfl) (by kernel_rfl))) ?_
      refine oOp (.d (.int .i64 ((List.length d0) : Int))) (by kernel_rfl) (by kernel_rfl) (PureV.does (k_lenLit (enc := e_i64) d0 (by kernel_rfl) Try.underlying22)) ?_
      refine oOp (.d (.int .i64 (IntKind.wrap .i64 (((List.length d0) : Int) - 1)))) (by kernel_rfl) (by kernel_rfl) (PureV.does (p_int (k := .i64) (p := ((List.length d0) : Int)) (q := 1) (by kernel_rfl) (by kernel_rfl) (by kernel_rfl))) ?_
      refine oOp (.d (.int .i64 (IntKind.wrap .i64 (((List.length d0) : Int) - 1)))) (by kernel_rfl) (by kernel_rfl) (PureV.does (p_assign (by kernel_rfl))) ?_
      refine oEnd ?_
      refine bJoin ((fun (xs8 : (List Int)) => [(7, .ref 0 (List.length xs8) 0 (List.length xs8))])) ((fun (xs8 : (List Int)) => [.sl 1 (List.map e_i64 xs8) false])) (fun s => s) (fun xs8 => ?_) (fun hj2 => ?_)
      · refine oView (T' := [(7, .ref 0 (List.length xs8) 0 (List.length xs8))]) (H' := [.sl 1 (List.map e_i64 xs8) false]) (by kernel_rfl) (by kernel_rfl) ?_
        refine oSeq ?_
        refine oRegion rfl ?_
        refine oOp (.ref 0 (List.length xs8) 0 (List.length xs8)) (by kernel_rfl) (by kernel_rfl) (PureV.does (p_move (by kernel_rfl))) ?_
        refine oOp (.ref 0 (List.length xs8) 0 (List.length xs8)) (by kernel_rfl) (by kernel_rfl) (PureV.does (p_assign (by kernel_rfl))) ?_
        refine oOp (.d (.int .i64 0)) (by kernel_rfl) (by kernel_rfl) (PureV.does (p_assign (by kernel_rfl))) ?_
        refine oEnd ?_
        refine oFreeze 0 (esz := 1) (xs := List.map e_i64 xs8) (by kernel_rfl) ?_
        refine oView (H' := [.sl 1 (List.map e_i64 xs8) true]) rfl (by kernel_rfl) ?_
        refine oConv 4 (v := .ref 0 (List.length xs8) 0 (List.length xs8)) (v' := .d (.lit (List.map e_i64 xs8))) (by kernel_rfl) (k_lit (enc := e_i64) (sz := 1) 0 xs8 (by kernel_rfl)) ?_
        exact oRet (r0 := (xs8, 0)) (rv := .tuple [.d (.lit (List.map e_i64 xs8)), .d (.int .i64 0)]) (B := []) (vs := [.d (.lit (List.map e_i64 xs8)), .d (.int .i64 0)]) (σ := []) (by kernel_rfl) Try.func12 rfl (.cons _ _ _ _ (.tmp 4 _ (by kernel_rfl)) (.cons _ _ _ _ (.tmp 5 _ (by kernel_rfl)) .nil)) (by kernel_rfl) (by kernel_rfl) (by kernel_rfl) (by kernel_rfl) (by decide) (by kernel_rfl) (by kernel_rfl)
      · refine oBlock ?_
        refine oLoop ?_
        refine oHead [1, 2, 7, 8] [0, 1] (T' := [(1, .d (.lit (List.map e_i64 b))), (2, .ptr 0 0), (7, .ref 1 (List.length xs5) 0 (List.length xs5)), (8, .d (.int .i64 (IntKind.wrap .i64 (((List.length d0) : Int) - 1))))]) (H' := [.box [.d (.lit (List.map e_i64 d0))], .sl 1 (List.map e_i64 xs5) false]) (by kernel_rfl) (by kernel_rfl) (by kernel_rfl) (by kernel_rfl) (by decide) (by kernel_rfl) (by kernel_rfl) ?_
        refine bLoop (body := boundary_Tally_b1 k d0 b) ((uc fun (s17 : Int) => (fun (xs9 : (List Int)) => [(1, .d (.lit (List.map e_i64 b))), (2, .ptr 0 0), (7, .ref 1 (List.length xs9) 0 (List.length xs9)), (8, .d (.int .i64 s17))]))) ((uc fun (s17 : Int) => (fun (xs9 : (List Int)) => [.box [.d (.lit (List.map e_i64 d0))], .sl 1 (List.map e_i64 xs9) false]))) (fun again hag1 s => ?_) k ((IntKind.wrap .i64 (((List.length d0) : Int) - 1)), xs5)
        · unfold boundary_Tally_b1
          obtain ⟨s17, xs9⟩ := s
          refine bUc ?_
          refine oView (T' := [(1, .d (.lit (List.map e_i64 b))), (2, .ptr 0 0), (7, .ref 1 (List.length xs9) 0 (List.length xs9)), (8, .d (.int .i64 s17))]) (H' := [.box [.d (.lit (List.map e_i64 d0))], .sl 1 (List.map e_i64 xs9) false]) (by kernel_rfl) (by kernel_rfl) ?_
          refine oSeq ?_
          refine oSeq ?_
          refine oRegion rfl ?_
          refine oOp (.d (.int .i64 s17)) (by kernel_rfl) (by kernel_rfl) (PureV.does (p_move (by kernel_rfl))) ?_
          refine oOp (.d (.bool (decide (s17 ≥ 0)))) (by kernel_rfl) (by kernel_rfl) (PureV.does (p_int (k := .i64) (p := s17) (q := 0) (by kernel_rfl) (by kernel_rfl) (by kernel_rfl))) ?_
          refine oEnd ?_
          refine bSplit 30 (by kernel_rfl) (fun hc => ?_) (fun hc => ?_)
          · refine oCondT (by kernel_rfl) ?_
            refine oSkip ?_
            refine oSeq ?_
            refine oBlock ?_
            refine oDraw [(0, 14), (1, 13)] rfl ?_
            refine aTakeL (i := 0) (st' := []) (.ref 1 (List.length xs9) 0 (List.length xs9)) rfl (by kernel_rfl) (by kernel_rfl) (by kernel_rfl) (by kernel_rfl) (by kernel_rfl) (by kernel_rfl) (by kernel_rfl) (PureV.quiet (p_move (by kernel_rfl)) []) ?_
            refine aTakeL (i := 1) (st' := []) (.d (.lit (List.map e_i64 b))) rfl (by kernel_rfl) (by kernel_rfl) (by kernel_rfl) (by kernel_rfl) (by kernel_rfl) (by kernel_rfl) (by kernel_rfl) (PureV.quiet (p_move (by kernel_rfl)) []) ?_
            refine aTakeL (i := 2) (st' := []) (.d (.int .i64 s17)) rfl (by kernel_rfl) (by kernel_rfl) (by kernel_rfl) (by kernel_rfl) (by kernel_rfl) (by kernel_rfl) (by kernel_rfl) (PureV.quiet (p_move (by kernel_rfl)) []) ?_
            refine aTakeL (i := 6) (st' := []) (.ptr 0 0) rfl (by kernel_rfl) (by kernel_rfl) (by kernel_rfl) (by kernel_rfl) (by kernel_rfl) (by kernel_rfl) (by kernel_rfl) (PureV.quiet (k_fieldAddr 0 0 (by kernel_rfl) Try.underlying28 rfl ty22 (by kernel_rfl)) []) ?_
            refine aTakeL (i := 7) (st' := [0]) (.d (.lit (List.map e_i64 d0))) rfl (by kernel_rfl) (by kernel_rfl) (by kernel_rfl) (by kernel_rfl) (by kernel_rfl) (by kernel_rfl) (by kernel_rfl) (k_load 0 0 (by kernel_rfl) Try.underlying22 (by kernel_rfl) (by kernel_rfl)) ?_
            refine aTakeL (i := 8) (st' := []) (.d (.int .i64 s17)) rfl (by kernel_rfl) (by kernel_rfl) (by kernel_rfl) (by kernel_rfl) (by kernel_rfl) (by kernel_rfl) (by kernel_rfl) (PureV.quiet (p_move (by kernel_rfl)) []) ?_
            refine dIdx (fun e1 h12 h13 => ?_)
            refine aTakeL (i := 9) (st' := []) (.lptr (e_i64 e1) 0) rfl (by kernel_rfl) (by kernel_rfl) (by kernel_rfl) (by kernel_rfl) (by kernel_rfl) (by kernel_rfl) (by kernel_rfl) (PureV.quiet (k_idxLit e_i64_len d0 (a := e1) (by kernel_rfl) (k := .i64) (i := s17) (by kernel_rfl) Try.underlying22 ty3 h12 h13) []) ?_
            refine aTakeL (i := 10) (st' := []) (.d (.int .i64 e1)) rfl (by kernel_rfl) (by kernel_rfl) (by kernel_rfl) (by kernel_rfl) (by kernel_rfl) (by kernel_rfl) (by kernel_rfl) (k_loadL (cells := e_i64 e1) 0 (by kernel_rfl) Try.underlying3 (by kernel_rfl) (by kernel_rfl)) ?_
            refine dCall (i := 3) (caps := []) (v := (fun (r1 : Int) => (.d (.int .i64 r1) : V))) (H' := (fun (r1 : Int) => ([.box [.d (.lit (List.map e_i64 d0))], .sl 1 (List.map e_i64 xs9) false] : List Blk))) [] _ (boundary_Grade_goes k b s17) rfl (by kernel_rfl) (by kernel_rfl) (by kernel_rfl) (by kernel_rfl) (by kernel_rfl) (by kernel_rfl) (by kernel_rfl) (by kernel_rfl) rfl (by kernel_rfl) Try.func13 rfl (by kernel_rfl) (ConvRs.refl _ _) (by kernel_rfl) (by kernel_rfl) (by kernel_rfl) (by decide) (by kernel_rfl) (by kernel_rfl) (fun _ => (by kernel_rfl)) (fun _ => (by kernel_rfl)) (fun _ => (by kernel_rfl)) (fun r1 => ?_)
            refine dIdx (fun e11 h14 h15 => ?_)
            refine aTakeL (i := 4) (st' := []) (.eptr 1 (List.length xs9) (Int.toNat r1) 0) rfl (by kernel_rfl) (by kernel_rfl) (by kernel_rfl) (by kernel_rfl) (by kernel_rfl) (by kernel_rfl) (by kernel_rfl) (PureV.quiet (k_idxRef (enc := e_i64) (fro := false) xs9 (a := e11) (by kernel_rfl) (k := .i64) (i := r1) (by kernel_rfl) (by kernel_rfl) Try.underlying22 ty3 h14 h15) []) ?_
            refine aTakeL (i := 5) (st' := [1]) (.d (.int .i64 e11)) rfl (by kernel_rfl) (by kernel_rfl) (by kernel_rfl) (by kernel_rfl) (by kernel_rfl) (by kernel_rfl) (by kernel_rfl) (k_loadE (enc := e_i64) (sz := 1) (fro := false) 1 0 xs9 (by kernel_rfl) (by kernel_rfl) Try.underlying3 (by kernel_rfl) h15 (by kernel_rfl)) ?_
            refine aTakeL (i := 11) (st' := []) (.d (.int .i64 (IntKind.wrap .i64 (e11 + e1)))) rfl (by kernel_rfl) (by kernel_rfl) (by kernel_rfl) (by kernel_rfl) (by kernel_rfl) (by kernel_rfl) (by kernel_rfl) (PureV.quiet (p_int (k := .i64) (p := e11) (q := e1) (by kernel_rfl) (by kernel_rfl) (by kernel_rfl)) []) ?_
            refine aTakeL (i := 12) (st' := []) (.eptr 1 (List.length xs9) (Int.toNat r1) 0) rfl (by kernel_rfl) (by kernel_rfl) (by kernel_rfl) (by kernel_rfl) (by kernel_rfl) (by kernel_rfl) (by kernel_rfl) (PureV.quiet (k_idxRef (enc := e_i64) (fro := false) xs9 (a := e11) (by kernel_rfl) (k := .i64) (i := r1) (by kernel_rfl) (by kernel_rfl) Try.underlying22 ty3 h14 h15) []) ?_
            refine dSet _ (fun xs1 hs1 => ?_)
            refine aOne (i := 13) (v := .undef) rfl (by kernel_rfl) (by kernel_rfl) (by kernel_rfl) (by kernel_rfl) (by kernel_rfl) (by kernel_rfl) (by kernel_rfl) (Does.acts (k_storeE (H' := [.box [.d (.lit (List.map e_i64 d0))], .sl 1 (List.map e_i64 xs1) false]) 1 0 xs9 (IntKind.wrap .i64 (e11 + e1)) [(.int .i64 (IntKind.wrap .i64 (e11 + e1)))] e_i64_len (by kernel_rfl) (by kernel_rfl) h15 ty3 (by kernel_rfl) (by kernel_rfl) (by kernel_rfl) hs1 (by kernel_rfl))) (by kernel_rfl) ?_
            refine dDrop [1, 2, 7, 8] [1, 2, 7, 8] (T' := [(1, .d (.lit (List.map e_i64 b))), (2, .ptr 0 0), (7, .ref 1 (List.length xs9) 0 (List.length xs9)), (8, .d (.int .i64 s17))]) (U' := [(1, .d (.lit (List.map e_i64 b))), (2, .ptr 0 0), (7, .ref 1 (List.length xs9) 0 (List.length xs9)), (8, .d (.int .i64 s17))]) (by kernel_rfl) (by kernel_rfl) ?_
            refine dView (H' := [.box [.d (.lit (List.map e_i64 d0))], .sl 1 (List.map e_i64 xs1) false]) rfl rfl (by kernel_rfl) ?_
            refine dView (T' := [(1, .d (.lit (List.map e_i64 b))), (2, .ptr 0 0), (7, .ref 1 (List.length xs1) 0 (List.length xs1)), (8, .d (.int .i64 s17))]) (H' := [.box [.d (.lit (List.map e_i64 d0))], .sl 1 (List.map e_i64 xs1) false]) (by first | rw [(set_len hs1)] | rfl) rfl (by first | rw [(set_len hs1)] | rfl) ?_
            refine aDone (by kernel_rfl) ?_
            refine oBlk ?_
            refine oRegion rfl ?_
            refine oOp (.d (.int .i64 s17)) (by kernel_rfl) (by kernel_rfl) (PureV.does (p_move (by kernel_rfl))) ?_
            refine oOp (.d (.int .i64 (IntKind.wrap .i64 (s17 - 1)))) (by kernel_rfl) (by kernel_rfl) (PureV.does (p_int (k := .i64) (p := s17) (q := 1) (by kernel_rfl) (by kernel_rfl) (by kernel_rfl))) ?_
            refine oOp (.d (.int .i64 (IntKind.wrap .i64 (s17 - 1)))) (by kernel_rfl) (by kernel_rfl) (PureV.does (p_assign (by kernel_rfl))) ?_
            refine oEnd ?_
            refine oAgain ?_
            refine oHead [1, 2, 7, 8] [0, 1] (T' := [(1, .d (.lit (List.map e_i64 b))), (2, .ptr 0 0), (7, .ref 1 (List.length xs1) 0 (List.length xs1)), (8, .d (.int .i64 (IntKind.wrap .i64 (s17 - 1))))]) (H' := [.box [.d (.lit (List.map e_i64 d0))], .sl 1 (List.map e_i64 xs1) false]) (by kernel_rfl) (by kernel_rfl) (by kernel_rfl) (by kernel_rfl) (by decide) (by kernel_rfl) (by kernel_rfl) ?_
            exact hag1 ((IntKind.wrap .i64 (s17 - 1)), xs1)
          · refine oCondF (by kernel_rfl) ?_
            refine oExit rfl ?_
            refine oHead [7] [1] (T' := [(7, .ref 0 (List.length xs9) 0 (List.length xs9))]) (H' := [.sl 1 (List.map e_i64 xs9) false]) (by kernel_rfl) (by kernel_rfl) (by kernel_rfl) (by kernel_rfl) (by decide) (by kernel_rfl) (by kernel_rfl) ?_
            exact hj2 xs9

end Go.VM
