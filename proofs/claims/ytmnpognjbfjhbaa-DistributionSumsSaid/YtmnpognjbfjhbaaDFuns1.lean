/- Plain functions that answer as the program's functions do, and the proof that they do. -/
import Derived.Test.YtmnpognjbfjhbaaProg
import Derived.KernelRfl
import Derived.Test.YtmnpognjbfjhbaaEngW
import Derived.Test.YtmnpognjbfjhbaaDFacts
import Derived.Test.YtmnpognjbfjhbaaDFuns0
namespace Go.VM
open Go.Proofs
set_option linter.unusedVariables false
set_option linter.unusedSimpArgs false
set_option maxRecDepth 100000
/-- awardingbody/ratio.lowest -/
def ratio_lowest (k : Nat) (num0 : Bool) (num1 : Int) (num2 : Int) (den : Int) : Option (Int × Int × Int) := Option.bind (math_bits_Rem64 k num1 num2 den) (fun r112 => Option.bind (ratio_gcd k den r112) (fun r16 => gnz r16 (Option.bind (ratio_wide_over k num0 num1 num2 r16) (uc fun r111 => fun r13 => Option.bind (bif (r111 != 0) then some ((IntKind.wrap .u64 (Int.tdiv den r16)), true) else some ((IntKind.wrap .u64 (Int.tdiv den r16)), (decide (r13 > 1152921504606846976))) : Option (Int × Bool)) (uc fun den4 => fun x4 => blet (x4 || (decide (den4 > 1152921504606846976))) fun x5 => bif x5 then some (0, 0, 6) else Option.bind (bif num0 then some (IntKind.wrap .i64 (0 - (IntKind.wrap .i64 r13))) else some (IntKind.wrap .i64 r13) : Option (Int)) (fun n1 => some (n1, (IntKind.wrap .i64 den4), 0)))))))
def ratio_lowest_E (num0 : Bool) (num1 : Int) (num2 : Int) (den : Int) : Int × Int × Int → V × List Blk := uc fun r12 => uc fun r14 => fun r15 => (.tuple [.agg [.d (.int .i64 r12), .d (.int .i64 r14)], .d (.int .i64 r15)], [])
theorem ratio_lowest_goes (k : Nat) (num0 : Bool) (num1 : Int) (num2 : Int) (den : Int) : RunsO Try.prog 63 [.agg [.d (.bool num0), .d (.int .u64 num1), .d (.int .u64 num2)], .d (.int .u64 den)] [] (ratio_lowest_E num0 num1 num2 den) (ratio_lowest k num0 num1 num2 den) := by
  refine RunsO.of_goes (N := 46) (m := 0) (T := [(0, .agg [.d (.bool num0), .d (.int .u64 num1), .d (.int .u64 num2)]), (1, .d (.int .u64 den))]) Try.func63 rfl rfl (by kernel_rfl) (by kernel_rfl) (by kernel_rfl) ?_
  unfold ratio_lowest
  refine bStart ?_
  refine oSeq ?_
  refine oRegion rfl ?_
  refine oOp (.ptr 0 0) (by kernel_rfl) (by kernel_rfl) (k_box (H' := [.box [.d (.bool num0), .d (.int .u64 num1), .d (.int .u64 num2)]]) (cells := [.d (.bool num0), .d (.int .u64 num1), .d (.int .u64 num2)]) (by kernel_rfl) (by kernel_rfl) (by kernel_rfl)) ?_
  refine oOp (.ptr 1 0) (by kernel_rfl) (by kernel_rfl) (k_alloc (H' := [.box [.d (.bool num0), .d (.int .u64 num1), .d (.int .u64 num2)], .box [.d (.int .i64 0), .d (.int .i64 0)]]) ty31 (by kernel_rfl) (by kernel_rfl)) ?_
  refine oOp (.d (.int .i64 0)) (by kernel_rfl) (by kernel_rfl) (PureV.does (p_assign (by kernel_rfl))) ?_
  refine oEnd ?_
  refine oSeq ?_
  refine oRegion rfl ?_
  refine oOp (.d (.int .u64 den)) (by kernel_rfl) (by kernel_rfl) (PureV.does (p_move (by kernel_rfl))) ?_
  refine oOp (.ptr 0 1) (by kernel_rfl) (by kernel_rfl) (PureV.does (k_fieldAddr 0 0 (by kernel_rfl) Try.underlying80 rfl ty61 (by kernel_rfl))) ?_
  refine oOp (.d (.int .u64 num1)) (by kernel_rfl) (by kernel_rfl) (Quiet.does (k_load 0 1 (by kernel_rfl) Try.underlying61 (by kernel_rfl) (by kernel_rfl))) ?_
  refine oOp (.ptr 0 2) (by kernel_rfl) (by kernel_rfl) (PureV.does (k_fieldAddr 0 0 (by kernel_rfl) Try.underlying80 rfl ty61 (by kernel_rfl))) ?_
  refine oOp (.d (.int .u64 num2)) (by kernel_rfl) (by kernel_rfl) (Quiet.does (k_load 0 2 (by kernel_rfl) Try.underlying61 (by kernel_rfl) (by kernel_rfl))) ?_
  refine oOp (.d (.int .u64 den)) (by kernel_rfl) (by kernel_rfl) (PureV.does (p_move (by kernel_rfl))) ?_
  refine bCall (caps := []) (v := (fun (r112 : Int) => (.d (.int .u64 r112) : V))) (H' := (fun (r112 : Int) => ([.box [.d (.bool num0), .d (.int .u64 num1), .d (.int .u64 num2)], .box [.d (.int .i64 0), .d (.int .i64 0)]] : List Blk))) [] _ (math_bits_Rem64_goes k num1 num2 den) (by kernel_rfl) (by kernel_rfl) rfl (by kernel_rfl) Try.func72 rfl (by kernel_rfl) (ConvRs.refl _ _) (by kernel_rfl) (by kernel_rfl) (by kernel_rfl) (by decide) (by kernel_rfl) (by kernel_rfl) (fun _ => (by kernel_rfl)) (fun _ => (by kernel_rfl)) (fun _ => (by kernel_rfl)) (fun r112 => ?_)
  refine bCall (caps := []) (v := (fun (r16 : Int) => (.d (.int .u64 r16) : V))) (H' := (fun (r16 : Int) => ([.box [.d (.bool num0), .d (.int .u64 num1), .d (.int .u64 num2)], .box [.d (.int .i64 0), .d (.int .i64 0)]] : List Blk))) [] _ (ratio_gcd_goes k den r112) (by kernel_rfl) (by kernel_rfl) rfl (by kernel_rfl) Try.func61 rfl (by kernel_rfl) (ConvRs.refl _ _) (by kernel_rfl) (by kernel_rfl) (by kernel_rfl) (by decide) (by kernel_rfl) (by kernel_rfl) (fun _ => (by kernel_rfl)) (fun _ => (by kernel_rfl)) (fun _ => (by kernel_rfl)) (fun r16 => ?_)
  refine oOp (.d (.int .u64 r16)) (by kernel_rfl) (by kernel_rfl) (PureV.does (p_assign (by kernel_rfl))) ?_
  refine oEnd ?_
  refine oSeq ?_
  refine oDraw [(0, 6), (1, 8)] rfl ?_
  refine aTakeL (i := 0) (st' := [0]) (.agg [.d (.bool num0), .d (.int .u64 num1), .d (.int .u64 num2)]) rfl (by kernel_rfl) (by kernel_rfl) (by kernel_rfl) (by kernel_rfl) (by kernel_rfl) (by kernel_rfl) (by kernel_rfl) (k_loadAgg 0 0 (by kernel_rfl) Try.underlying80 (by kernel_rfl) ty80 (by kernel_rfl)) ?_
  refine aTakeL (i := 1) (st' := []) (.d (.int .u64 r16)) rfl (by kernel_rfl) (by kernel_rfl) (by kernel_rfl) (by kernel_rfl) (by kernel_rfl) (by kernel_rfl) (by kernel_rfl) (PureV.quiet (p_move (by kernel_rfl)) []) ?_
  refine aTakeL (i := 3) (st' := []) (.d (.int .u64 den)) rfl (by kernel_rfl) (by kernel_rfl) (by kernel_rfl) (by kernel_rfl) (by kernel_rfl) (by kernel_rfl) (by kernel_rfl) (PureV.quiet (p_move (by kernel_rfl)) []) ?_
  refine aTakeL (i := 4) (st' := []) (.d (.int .u64 r16)) rfl (by kernel_rfl) (by kernel_rfl) (by kernel_rfl) (by kernel_rfl) (by kernel_rfl) (by kernel_rfl) (by kernel_rfl) (PureV.quiet (p_move (by kernel_rfl)) []) ?_
  refine dNz (fun h1 => ?_)
  refine aTakeP (i := 5) (.d (.int .u64 (IntKind.wrap .u64 (Int.tdiv den r16)))) rfl (by kernel_rfl) (by kernel_rfl) (by kernel_rfl) (by kernel_rfl) (by kernel_rfl) (by kernel_rfl) (by kernel_rfl) (p_quo (k := .u64) (p := den) (q := r16) (by kernel_rfl) (by kernel_rfl) h1 (by kernel_rfl)) ?_
  refine dCall (i := 2) (caps := []) (v := (uc fun (r111 : Int) => (fun (r13 : Int) => (.agg [.d (.bool num0), .d (.int .u64 r111), .d (.int .u64 r13)] : V)))) (H' := (uc fun (r111 : Int) => (fun (r13 : Int) => ([.box [.d (.bool num0), .d (.int .u64 num1), .d (.int .u64 num2)], .box [.d (.int .i64 0), .d (.int .i64 0)]] : List Blk)))) [] _ (ratio_wide_over_goes k num0 num1 num2 r16) rfl (by kernel_rfl) (by kernel_rfl) (by kernel_rfl) (by kernel_rfl) (by kernel_rfl) (by kernel_rfl) (by kernel_rfl) (by kernel_rfl) rfl (by kernel_rfl) Try.func73 rfl (by kernel_rfl) (ConvRs.refl _ _) (by kernel_rfl) (by kernel_rfl) (by kernel_rfl) (by decide) (by kernel_rfl) (by kernel_rfl) (fun _ => (by kernel_rfl)) (fun _ => (by kernel_rfl)) (fun _ => (by kernel_rfl)) (fun r => ?_)
  obtain ⟨r111, r13⟩ := r
  refine dUc ?_
  refine aOne (i := 6) (v := .undef) rfl (by kernel_rfl) (by kernel_rfl) (by kernel_rfl) (by kernel_rfl) (by kernel_rfl) (by kernel_rfl) (by kernel_rfl) (Does.acts (k_store (vs := [.d (.bool num0), .d (.int .u64 r111), .d (.int .u64 r13)]) (H' := [.box [.d (.bool num0), .d (.int .u64 r111), .d (.int .u64 r13)], .box [.d (.int .i64 0), .d (.int .i64 0)]]) 0 0 (by kernel_rfl) ty80 (by kernel_rfl) (by kernel_rfl) (by kernel_rfl))) (by kernel_rfl) ?_
  refine aTakeL (i := 7) (st' := []) (.d (.int .u64 (IntKind.wrap .u64 (Int.tdiv den r16)))) rfl (by kernel_rfl) (by kernel_rfl) (by kernel_rfl) (by kernel_rfl) (by kernel_rfl) (by kernel_rfl) (by kernel_rfl) (PureV.quiet (p_assign (by kernel_rfl)) []) ?_
  refine aDone (by kernel_rfl) ?_
  refine oSeq ?_
  refine oSeq ?_
  refine oRegion rfl ?_
  refine oOp (.ptr 0 1) (by kernel_rfl) (by kernel_rfl) (PureV.does (k_fieldAddr 0 0 (by kernel_rfl) Try.underlying80 rfl ty61 (by kernel_rfl))) ?_
  refine oOp (.d (.int .u64 r111)) (by kernel_rfl) (by kernel_rfl) (Quiet.does (k_load 0 1 (by kernel_rfl) Try.underlying61 (by kernel_rfl) (by kernel_rfl))) ?_
  refine oOp (.d (.bool (r111 != 0))) (by kernel_rfl) (by kernel_rfl) (PureV.does (p_int (k := .u64) (p := r111) (q := 0) (by kernel_rfl) (by kernel_rfl) (by kernel_rfl))) ?_
  refine oOp (.d (.bool (r111 != 0))) (by kernel_rfl) (by kernel_rfl) (PureV.does (p_move (by kernel_rfl))) ?_
  refine bMeet 4 rfl ((uc fun (den4 : Int) => (fun (x4 : Bool) => [(1, .d (.int .u64 den4)), (2, .ptr 0 0), (4, .ptr 1 0), (29, .d (.bool x4))]))) ((uc fun (den4 : Int) => (fun (x4 : Bool) => [.box [.d (.bool num0), .d (.int .u64 r111), .d (.int .u64 r13)], .box [.d (.int .i64 0), .d (.int .i64 0)]]))) (fun s => s) (fun s => ?_) (fun hj4 => ?_)
  · obtain ⟨den4, x4⟩ := s
    refine bUc ?_
    refine oView (T' := [(1, .d (.int .u64 den4)), (2, .ptr 0 0), (4, .ptr 1 0), (29, .d (.bool x4))]) (H' := [.box [.d (.bool num0), .d (.int .u64 r111), .d (.int .u64 r13)], .box [.d (.int .i64 0), .d (.int .i64 0)]]) (by kernel_rfl) (by kernel_rfl) ?_
    refine oOp (.d (.bool x4)) (by kernel_rfl) (by kernel_rfl) (PureV.does (p_move (by kernel_rfl))) ?_
    refine bMeetF (H' := [.box [.d (.bool num0), .d (.int .u64 r111), .d (.int .u64 r13)], .box [.d (.int .i64 0), .d (.int .i64 0)]]) 3 rfl ((fun (x5 : Bool) => [(1, .d (.int .u64 den4)), (2, .ptr 0 0), (4, .ptr 1 0), (33, .d (.bool x5))])) (fun x5 => ?_) (fun F hj2 => ?_)
    · refine oView (T' := [(1, .d (.int .u64 den4)), (2, .ptr 0 0), (4, .ptr 1 0), (33, .d (.bool x5))]) (H' := [.box [.d (.bool num0), .d (.int .u64 r111), .d (.int .u64 r13)], .box [.d (.int .i64 0), .d (.int .i64 0)]]) (by kernel_rfl) (by kernel_rfl) ?_
      refine oEnd ?_
      refine bSplit 33 (by kernel_rfl) (fun hc => ?_) (fun hc => ?_)
      · refine oCondT (by kernel_rfl) ?_
        refine oSeq ?_
        refine oRegion rfl ?_
        refine oOp (.agg [.d (.int .i64 0), .d (.int .i64 0)]) (by kernel_rfl) (by kernel_rfl) (PureV.does (p_build bld31 (by kernel_rfl))) ?_
        refine oOp (.undef) (by kernel_rfl) (by kernel_rfl) (k_store (vs := [.d (.int .i64 0), .d (.int .i64 0)]) (H' := [.box [.d (.bool num0), .d (.int .u64 r111), .d (.int .u64 r13)], .box [.d (.int .i64 0), .d (.int .i64 0)]]) 1 0 (by kernel_rfl) ty31 (by kernel_rfl) (by kernel_rfl) (by kernel_rfl)) ?_
        refine oOp (.d (.int .i64 6)) (by kernel_rfl) (by kernel_rfl) (PureV.does (p_assign (by kernel_rfl))) ?_
        refine oEnd ?_
        exact oRet (r0 := (0, 0, 6)) (rv := .tuple [.agg [.d (.int .i64 0), .d (.int .i64 0)], .d (.int .i64 6)]) (B := []) (vs := [.agg [.d (.int .i64 0), .d (.int .i64 0)], .d (.int .i64 6)]) (σ := []) (by kernel_rfl) Try.func63 rfl (.cons _ _ _ _ (.agg 4 31 1 0 [.d (.int .i64 0), .d (.int .i64 0)] [.d (.int .i64 0), .d (.int .i64 0)] _ _ _ _ (by kernel_rfl) (by kernel_rfl) Try.underlying31 (by kernel_rfl) ty31 (by kernel_rfl) (by kernel_rfl)) (.cons _ _ _ _ (.tmp 5 _ (by kernel_rfl)) .nil)) (by kernel_rfl) (by kernel_rfl) (by kernel_rfl) (by kernel_rfl) (by decide) (by kernel_rfl) (by kernel_rfl)
      · refine oCondF (by kernel_rfl) ?_
        refine oSkip ?_
        refine oSeq ?_
        refine oRegion rfl ?_
        refine oOp (.ptr 0 2) (by kernel_rfl) (by kernel_rfl) (PureV.does (k_fieldAddr 0 0 (by kernel_rfl) Try.underlying80 rfl ty61 (by kernel_rfl))) ?_
        refine oOp (.d (.int .u64 r13)) (by kernel_rfl) (by kernel_rfl) (Quiet.does (k_load 0 2 (by kernel_rfl) Try.underlying61 (by kernel_rfl) (by kernel_rfl))) ?_
        refine oOp (.d (.int .i64 (IntKind.wrap .i64 r13))) (by kernel_rfl) (by kernel_rfl) (PureV.does (p_conv (k := .u64) (p := r13) (by kernel_rfl) Try.underlying61 Try.underlying3 (by kernel_rfl))) ?_
        refine oOp (.d (.int .i64 (IntKind.wrap .i64 r13))) (by kernel_rfl) (by kernel_rfl) (PureV.does (p_assign (by kernel_rfl))) ?_
        refine oEnd ?_
        refine oSeq ?_
        refine oSeq ?_
        refine oRegion rfl ?_
        refine oOp (.ptr 0 0) (by kernel_rfl) (by kernel_rfl) (PureV.does (k_fieldAddr 0 0 (by kernel_rfl) Try.underlying80 rfl ty4 (by kernel_rfl))) ?_
        refine oOp (.d (.bool num0)) (by kernel_rfl) (by kernel_rfl) (Quiet.does (k_load 0 0 (by kernel_rfl) Try.underlying4 (by kernel_rfl) (by kernel_rfl))) ?_
        refine oEnd ?_
        refine bJoin ((fun (n1 : Int) => [(1, .d (.int .u64 den4)), (4, .ptr 0 0), (7, .d (.int .i64 n1))])) ((fun (n1 : Int) => [.box [.d (.int .i64 0), .d (.int .i64 0)]])) (fun s => s) (fun n1 => ?_) (fun hj3 => ?_)
        · refine oView (T' := [(1, .d (.int .u64 den4)), (4, .ptr 0 0), (7, .d (.int .i64 n1))]) (H' := [.box [.d (.int .i64 0), .d (.int .i64 0)]]) (by kernel_rfl) (by kernel_rfl) ?_
          refine oSeq ?_
          refine oRegion rfl ?_
          refine oOp (.d (.int .i64 n1)) (by kernel_rfl) (by kernel_rfl) (PureV.does (p_move (by kernel_rfl))) ?_
          refine oOp (.d (.int .u64 den4)) (by kernel_rfl) (by kernel_rfl) (PureV.does (p_move (by kernel_rfl))) ?_
          refine oOp (.d (.int .i64 (IntKind.wrap .i64 den4))) (by kernel_rfl) (by kernel_rfl) (PureV.does (p_conv (k := .u64) (p := den4) (by kernel_rfl) Try.underlying61 Try.underlying3 (by kernel_rfl))) ?_
          refine oOp (.agg [.d (.int .i64 n1), .d (.int .i64 (IntKind.wrap .i64 den4))]) (by kernel_rfl) (by kernel_rfl) (PureV.does (p_build bld31 (by kernel_rfl))) ?_
          refine oOp (.undef) (by kernel_rfl) (by kernel_rfl) (k_store (vs := [.d (.int .i64 n1), .d (.int .i64 (IntKind.wrap .i64 den4))]) (H' := [.box [.d (.int .i64 n1), .d (.int .i64 (IntKind.wrap .i64 den4))]]) 0 0 (by kernel_rfl) ty31 (by kernel_rfl) (by kernel_rfl) (by kernel_rfl)) ?_
          refine oOp (.d (.int .i64 0)) (by kernel_rfl) (by kernel_rfl) (PureV.does (p_assign (by kernel_rfl))) ?_
          refine oEnd ?_
          exact oRet (r0 := (n1, (IntKind.wrap .i64 den4), 0)) (rv := .tuple [.agg [.d (.int .i64 n1), .d (.int .i64 (IntKind.wrap .i64 den4))], .d (.int .i64 0)]) (B := []) (vs := [.agg [.d (.int .i64 n1), .d (.int .i64 (IntKind.wrap .i64 den4))], .d (.int .i64 0)]) (σ := []) (by kernel_rfl) Try.func63 rfl (.cons _ _ _ _ (.agg 4 31 0 0 [.d (.int .i64 n1), .d (.int .i64 (IntKind.wrap .i64 den4))] [.d (.int .i64 n1), .d (.int .i64 (IntKind.wrap .i64 den4))] _ _ _ _ (by kernel_rfl) (by kernel_rfl) Try.underlying31 (by kernel_rfl) ty31 (by kernel_rfl) (by kernel_rfl)) (.cons _ _ _ _ (.tmp 5 _ (by kernel_rfl)) .nil)) (by kernel_rfl) (by kernel_rfl) (by kernel_rfl) (by kernel_rfl) (by decide) (by kernel_rfl) (by kernel_rfl)
        · refine bSplit 39 (by kernel_rfl) (fun hc => ?_) (fun hc => ?_)
          · refine oCondT (by kernel_rfl) ?_
            refine oRegion rfl ?_
            refine oOp (.d (.int .i64 (IntKind.wrap .i64 r13))) (by kernel_rfl) (by kernel_rfl) (PureV.does (p_move (by kernel_rfl))) ?_
            refine oOp (.d (.int .i64 (IntKind.wrap .i64 (0 - (IntKind.wrap .i64 r13))))) (by kernel_rfl) (by kernel_rfl) (PureV.does (p_neg (k := .i64) (p := (IntKind.wrap .i64 r13)) (by kernel_rfl) (by kernel_rfl))) ?_
            refine oOp (.d (.int .i64 (IntKind.wrap .i64 (0 - (IntKind.wrap .i64 r13))))) (by kernel_rfl) (by kernel_rfl) (PureV.does (p_assign (by kernel_rfl))) ?_
            refine oEnd ?_
            refine oHead [1, 4, 7] [1] (T' := [(1, .d (.int .u64 den4)), (4, .ptr 0 0), (7, .d (.int .i64 (IntKind.wrap .i64 (0 - (IntKind.wrap .i64 r13)))))]) (H' := [.box [.d (.int .i64 0), .d (.int .i64 0)]]) (by kernel_rfl) (by kernel_rfl) (by kernel_rfl) (by kernel_rfl) (by decide) (by kernel_rfl) (by kernel_rfl) ?_
            exact hj3 (IntKind.wrap .i64 (0 - (IntKind.wrap .i64 r13)))
          · refine oCondF (by kernel_rfl) ?_
            refine oSkip ?_
            refine oHead [1, 4, 7] [1] (T' := [(1, .d (.int .u64 den4)), (4, .ptr 0 0), (7, .d (.int .i64 (IntKind.wrap .i64 r13)))]) (H' := [.box [.d (.int .i64 0), .d (.int .i64 0)]]) (by kernel_rfl) (by kernel_rfl) (by kernel_rfl) (by kernel_rfl) (by decide) (by kernel_rfl) (by kernel_rfl) ?_
            exact hj3 (IntKind.wrap .i64 r13)
    · refine bPickF 30 (fun c => F (c || (decide (den4 > 1152921504606846976)))) (by kernel_rfl) (fun hc => ?_) (fun hc => ?_)
      · refine oNot (by kernel_rfl) (by kernel_rfl) ?_
        refine oNot (by kernel_rfl) (by kernel_rfl) ?_
        refine oOp (.d (.bool true)) (by kernel_rfl) (by kernel_rfl) (PureV.does (p_pick (b := true) (by kernel_rfl) (by kernel_rfl))) ?_
        refine oHead [1, 2, 4, 33] [0, 1] (T' := [(1, .d (.int .u64 den4)), (2, .ptr 0 0), (4, .ptr 1 0), (33, .d (.bool true))]) (H' := [.box [.d (.bool num0), .d (.int .u64 r111), .d (.int .u64 r13)], .box [.d (.int .i64 0), .d (.int .i64 0)]]) (by kernel_rfl) (by kernel_rfl) (by kernel_rfl) (by kernel_rfl) (by decide) (by kernel_rfl) (by kernel_rfl) ?_
        exact hj2 true
      · refine oOp (.d (.int .u64 den4)) (by kernel_rfl) (by kernel_rfl) (PureV.does (p_move (by kernel_rfl))) ?_
        refine oOp (.d (.bool (decide (den4 > 1152921504606846976)))) (by kernel_rfl) (by kernel_rfl) (PureV.does (p_int (k := .u64) (p := den4) (q := 1152921504606846976) (by kernel_rfl) (by kernel_rfl) (by kernel_rfl))) ?_
        refine oOp (.d (.bool (decide (den4 > 1152921504606846976)))) (by kernel_rfl) (by kernel_rfl) (PureV.does (p_pick (b := false) (by kernel_rfl) (by kernel_rfl))) ?_
        refine oHead [1, 2, 4, 33] [0, 1] (T' := [(1, .d (.int .u64 den4)), (2, .ptr 0 0), (4, .ptr 1 0), (33, .d (.bool (decide (den4 > 1152921504606846976))))]) (H' := [.box [.d (.bool num0), .d (.int .u64 r111), .d (.int .u64 r13)], .box [.d (.int .i64 0), .d (.int .i64 0)]]) (by kernel_rfl) (by kernel_rfl) (by kernel_rfl) (by kernel_rfl) (by decide) (by kernel_rfl) (by kernel_rfl) ?_
        exact hj2 (decide (den4 > 1152921504606846976))
  · refine bSplit 25 (by kernel_rfl) (fun hc => ?_) (fun hc => ?_)
    · refine oNot (by kernel_rfl) (by kernel_rfl) ?_
      refine oNot (by kernel_rfl) (by kernel_rfl) ?_
      refine oNot (by kernel_rfl) (by kernel_rfl) ?_
      refine oOp (.d (.bool true)) (by kernel_rfl) (by kernel_rfl) (PureV.does (p_pick (b := true) (by kernel_rfl) (by kernel_rfl))) ?_
      refine oHead [1, 2, 4, 29] [0, 1] (T' := [(1, .d (.int .u64 (IntKind.wrap .u64 (Int.tdiv den r16)))), (2, .ptr 0 0), (4, .ptr 1 0), (29, .d (.bool true))]) (H' := [.box [.d (.bool num0), .d (.int .u64 r111), .d (.int .u64 r13)], .box [.d (.int .i64 0), .d (.int .i64 0)]]) (by kernel_rfl) (by kernel_rfl) (by kernel_rfl) (by kernel_rfl) (by decide) (by kernel_rfl) (by kernel_rfl) ?_
      exact hj4 ((IntKind.wrap .u64 (Int.tdiv den r16)), true)
    · refine oOp (.ptr 0 2) (by kernel_rfl) (by kernel_rfl) (PureV.does (k_fieldAddr 0 0 (by kernel_rfl) Try.underlying80 rfl ty61 (by kernel_rfl))) ?_
      refine oOp (.d (.int .u64 r13)) (by kernel_rfl) (by kernel_rfl) (Quiet.does (k_load 0 2 (by kernel_rfl) Try.underlying61 (by kernel_rfl) (by kernel_rfl))) ?_
      refine oOp (.d (.bool (decide (r13 > 1152921504606846976)))) (by kernel_rfl) (by kernel_rfl) (PureV.does (p_int (k := .u64) (p := r13) (q := 1152921504606846976) (by kernel_rfl) (by kernel_rfl) (by kernel_rfl))) ?_
      refine oOp (.d (.bool (decide (r13 > 1152921504606846976)))) (by kernel_rfl) (by kernel_rfl) (PureV.does (p_pick (b := false) (by kernel_rfl) (by kernel_rfl))) ?_
      refine oHead [1, 2, 4, 29] [0, 1] (T' := [(1, .d (.int .u64 (IntKind.wrap .u64 (Int.tdiv den r16)))), (2, .ptr 0 0), (4, .ptr 1 0), (29, .d (.bool (decide (r13 > 1152921504606846976))))]) (H' := [.box [.d (.bool num0), .d (.int .u64 r111), .d (.int .u64 r13)], .box [.d (.int .i64 0), .d (.int .i64 0)]]) (by kernel_rfl) (by kernel_rfl) (by kernel_rfl) (by kernel_rfl) (by decide) (by kernel_rfl) (by kernel_rfl) ?_
      exact hj4 ((IntKind.wrap .u64 (Int.tdiv den r16)), (decide (r13 > 1152921504606846976)))

/-- awardingbody/ratio.New -/
def ratio_New (k : Nat) (num : Int) (den : Int) : Option (Int × Int × Int) := bif (den == 0) then some (0, 0, 2) else Option.bind (ratio_abs k num) (fun r18 => Option.bind (ratio_abs k den) (fun r19 => Option.bind (ratio_lowest k (!((decide (num < 0)) == (decide (den < 0)))) 0 r18 r19) (uc fun r121 => uc fun r141 => fun r151 => some (r121, r141, r151))))
def ratio_New_E (num : Int) (den : Int) : Int × Int × Int → V × List Blk := uc fun r13 => uc fun r16 => fun r17 => (.tuple [.agg [.d (.int .i64 r13), .d (.int .i64 r16)], .d (.int .i64 r17)], [])
theorem ratio_New_goes (k : Nat) (num : Int) (den : Int) : RunsO Try.prog 45 [.d (.int .i64 num), .d (.int .i64 den)] [] (ratio_New_E num den) (ratio_New k num den) := by
  refine RunsO.of_goes (N := 22) (m := 0) (T := [(0, .d (.int .i64 num)), (1, .d (.int .i64 den))]) Try.func45 rfl rfl (by kernel_rfl) (by kernel_rfl) (by kernel_rfl) ?_
  unfold ratio_New
  refine bStart ?_
  refine oSeq ?_
  refine oRegion rfl ?_
  refine oOp (.ptr 0 0) (by kernel_rfl) (by kernel_rfl) (k_alloc (H' := [.box [.d (.int .i64 0), .d (.int .i64 0)]]) ty31 (by kernel_rfl) (by kernel_rfl)) ?_
  refine oOp (.d (.int .i64 0)) (by kernel_rfl) (by kernel_rfl) (PureV.does (p_assign (by kernel_rfl))) ?_
  refine oEnd ?_
  refine oSeq ?_
  refine oSeq ?_
  refine oRegion rfl ?_
  refine oOp (.d (.int .i64 den)) (by kernel_rfl) (by kernel_rfl) (PureV.does (p_move (by kernel_rfl))) ?_
  refine oOp (.d (.bool (den == 0))) (by kernel_rfl) (by kernel_rfl) (PureV.does (p_int (k := .i64) (p := den) (q := 0) (by kernel_rfl) (by kernel_rfl) (by kernel_rfl))) ?_
  refine oEnd ?_
  refine bSplit 7 (by kernel_rfl) (fun hc => ?_) (fun hc => ?_)
  · refine oCondT (by kernel_rfl) ?_
    refine oSeq ?_
    refine oRegion rfl ?_
    refine oOp (.agg [.d (.int .i64 0), .d (.int .i64 0)]) (by kernel_rfl) (by kernel_rfl) (PureV.does (p_build bld31 (by kernel_rfl))) ?_
    refine oOp (.undef) (by kernel_rfl) (by kernel_rfl) (k_store (vs := [.d (.int .i64 0), .d (.int .i64 0)]) (H' := [.box [.d (.int .i64 0), .d (.int .i64 0)]]) 0 0 (by kernel_rfl) ty31 (by kernel_rfl) (by kernel_rfl) (by kernel_rfl)) ?_
    refine oOp (.d (.int .i64 2)) (by kernel_rfl) (by kernel_rfl) (PureV.does (p_assign (by kernel_rfl))) ?_
    refine oEnd ?_
    exact oRet (r0 := (0, 0, 2)) (rv := .tuple [.agg [.d (.int .i64 0), .d (.int .i64 0)], .d (.int .i64 2)]) (B := []) (vs := [.agg [.d (.int .i64 0), .d (.int .i64 0)], .d (.int .i64 2)]) (σ := []) (by kernel_rfl) Try.func45 rfl (.cons _ _ _ _ (.agg 4 31 0 0 [.d (.int .i64 0), .d (.int .i64 0)] [.d (.int .i64 0), .d (.int .i64 0)] _ _ _ _ (by kernel_rfl) (by kernel_rfl) Try.underlying31 (by kernel_rfl) ty31 (by kernel_rfl) (by kernel_rfl)) (.cons _ _ _ _ (.tmp 5 _ (by kernel_rfl)) .nil)) (by kernel_rfl) (by kernel_rfl) (by kernel_rfl) (by kernel_rfl) (by decide) (by kernel_rfl) (by kernel_rfl)
  · refine oCondF (by kernel_rfl) ?_
    refine oSkip ?_
    refine oSeq ?_
    refine oRegion rfl ?_
    refine oOp (.d (.int .i64 num)) (by kernel_rfl) (by kernel_rfl) (PureV.does (p_move (by kernel_rfl))) ?_
    refine oOp (.d (.bool (decide (num < 0)))) (by kernel_rfl) (by kernel_rfl) (PureV.does (p_int (k := .i64) (p := num) (q := 0) (by kernel_rfl) (by kernel_rfl) (by kernel_rfl))) ?_
    refine oOp (.d (.int .i64 den)) (by kernel_rfl) (by kernel_rfl) (PureV.does (p_move (by kernel_rfl))) ?_
    refine oOp (.d (.bool (decide (den < 0)))) (by kernel_rfl) (by kernel_rfl) (PureV.does (p_int (k := .i64) (p := den) (q := 0) (by kernel_rfl) (by kernel_rfl) (by kernel_rfl))) ?_
    refine oOp (.d (.bool (!((decide (num < 0)) == (decide (den < 0)))))) (by kernel_rfl) (by kernel_rfl) (PureV.does (p_boolNe (p := (decide (num < 0))) (q := (decide (den < 0))) (by kernel_rfl) (by kernel_rfl) Try.underlying4 (by kernel_rfl))) ?_
    refine oOp (.d (.int .i64 num)) (by kernel_rfl) (by kernel_rfl) (PureV.does (p_move (by kernel_rfl))) ?_
    refine bCall (caps := []) (v := (fun (r18 : Int) => (.d (.int .u64 r18) : V))) (H' := (fun (r18 : Int) => ([.box [.d (.int .i64 0), .d (.int .i64 0)]] : List Blk))) [] _ (ratio_abs_goes k num) (by kernel_rfl) (by kernel_rfl) rfl (by kernel_rfl) Try.func62 rfl (by kernel_rfl) (ConvRs.refl _ _) (by kernel_rfl) (by kernel_rfl) (by kernel_rfl) (by decide) (by kernel_rfl) (by kernel_rfl) (fun _ => (by kernel_rfl)) (fun _ => (by kernel_rfl)) (fun _ => (by kernel_rfl)) (fun r18 => ?_)
    refine oOp (.agg [.d (.bool (!((decide (num < 0)) == (decide (den < 0))))), .d (.int .u64 0), .d (.int .u64 r18)]) (by kernel_rfl) (by kernel_rfl) (PureV.does (p_build bld80 (by kernel_rfl))) ?_
    refine oOp (.d (.int .i64 den)) (by kernel_rfl) (by kernel_rfl) (PureV.does (p_move (by kernel_rfl))) ?_
    refine bCall (caps := []) (v := (fun (r19 : Int) => (.d (.int .u64 r19) : V))) (H' := (fun (r19 : Int) => ([.box [.d (.int .i64 0), .d (.int .i64 0)]] : List Blk))) [] _ (ratio_abs_goes k den) (by kernel_rfl) (by kernel_rfl) rfl (by kernel_rfl) Try.func62 rfl (by kernel_rfl) (ConvRs.refl _ _) (by kernel_rfl) (by kernel_rfl) (by kernel_rfl) (by decide) (by kernel_rfl) (by kernel_rfl) (fun _ => (by kernel_rfl)) (fun _ => (by kernel_rfl)) (fun _ => (by kernel_rfl)) (fun r19 => ?_)
    refine bCall (caps := []) (v := (uc fun (r121 : Int) => (uc fun (r141 : Int) => (fun (r151 : Int) => (.tuple [.agg [.d (.int .i64 r121), .d (.int .i64 r141)], .d (.int .i64 r151)] : V))))) (H' := (uc fun (r121 : Int) => (uc fun (r141 : Int) => (fun (r151 : Int) => ([.box [.d (.int .i64 0), .d (.int .i64 0)]] : List Blk))))) [] _ (ratio_lowest_goes k (!((decide (num < 0)) == (decide (den < 0)))) 0 r18 r19) (by kernel_rfl) (by kernel_rfl) rfl (by kernel_rfl) Try.func63 rfl (by kernel_rfl) (ConvRs.refl _ _) (by kernel_rfl) (by kernel_rfl) (by kernel_rfl) (by decide) (by kernel_rfl) (by kernel_rfl) (fun _ => (by kernel_rfl)) (fun _ => (by kernel_rfl)) (fun _ => (by kernel_rfl)) (fun r => ?_)
    obtain ⟨r121, r141, r151⟩ := r
    refine bUc ?_
    refine bUc ?_
    refine oOp (.agg [.d (.int .i64 r121), .d (.int .i64 r141)]) (by kernel_rfl) (by kernel_rfl) (PureV.does (k_extract (by kernel_rfl))) ?_
    refine oOp (.d (.int .i64 r151)) (by kernel_rfl) (by kernel_rfl) (PureV.does (k_extract (by kernel_rfl))) ?_
    refine oOp (.undef) (by kernel_rfl) (by kernel_rfl) (k_store (vs := [.d (.int .i64 r121), .d (.int .i64 r141)]) (H' := [.box [.d (.int .i64 r121), .d (.int .i64 r141)]]) 0 0 (by kernel_rfl) ty31 (by kernel_rfl) (by kernel_rfl) (by kernel_rfl)) ?_
    refine oOp (.d (.int .i64 r151)) (by kernel_rfl) (by kernel_rfl) (PureV.does (p_assign (by kernel_rfl))) ?_
    refine oEnd ?_
    exact oRet (r0 := (r121, r141, r151)) (rv := .tuple [.agg [.d (.int .i64 r121), .d (.int .i64 r141)], .d (.int .i64 r151)]) (B := []) (vs := [.agg [.d (.int .i64 r121), .d (.int .i64 r141)], .d (.int .i64 r151)]) (σ := []) (by kernel_rfl) Try.func45 rfl (.cons _ _ _ _ (.agg 4 31 0 0 [.d (.int .i64 r121), .d (.int .i64 r141)] [.d (.int .i64 r121), .d (.int .i64 r141)] _ _ _ _ (by kernel_rfl) (by kernel_rfl) Try.underlying31 (by kernel_rfl) ty31 (by kernel_rfl) (by kernel_rfl)) (.cons _ _ _ _ (.tmp 5 _ (by kernel_rfl)) .nil)) (by kernel_rfl) (by kernel_rfl) (by kernel_rfl) (by kernel_rfl) (by decide) (by kernel_rfl) (by kernel_rfl)

/-- awardingbody/distribution.Mean -/
def distribution_Mean (k : Nat) (d0 : (List Int)) : Option (Int × Int × Int) := Option.bind (distribution_check k d0) (fun r18 => bif (r18 != 0) then some (0, 0, r18) else Option.bind (distribution_points k d0) (fun r11 => Option.bind (distribution_Count k d0) (fun r111 => Option.bind (ratio_New k r11 r111) (uc fun r13 => uc fun r16 => fun r17 => some (r13, r16, r17)))))
def distribution_Mean_E (d0 : (List Int)) : Int × Int × Int → V × List Blk := uc fun r12 => uc fun r14 => fun r15 => (.tuple [.agg [.d (.int .i64 r12), .d (.int .i64 r14)], .d (.int .i64 r15)], [])
theorem distribution_Mean_goes (k : Nat) (d0 : (List Int)) : RunsO Try.prog 19 [.agg [.d (.lit (List.map e_i64 d0))]] [] (distribution_Mean_E d0) (distribution_Mean k d0) := by
  refine RunsO.of_goes (N := 18) (m := 0) (T := [(0, .agg [.d (.lit (List.map e_i64 d0))])]) Try.func19 rfl rfl (by kernel_rfl) (by kernel_rfl) (by kernel_rfl) ?_
  unfold distribution_Mean
  refine bStart ?_
  refine oSeq ?_
  refine oRegion rfl ?_
  refine oOp (.ptr 0 0) (by kernel_rfl) (by kernel_rfl) (k_box (H' := [.box [.d (.lit (List.map e_i64 d0))]]) (cells := [.d (.lit (List.map e_i64 d0))]) (by kernel_rfl) (by kernel_rfl) (by kernel_rfl)) ?_
  refine oOp (.ptr 1 0) (by kernel_rfl) (by kernel_rfl) (k_alloc (H' := [.box [.d (.lit (List.map e_i64 d0))], .box [.d (.int .i64 0), .d (.int .i64 0)]]) ty31 (by kernel_rfl) (by kernel_rfl)) ?_
  refine oOp (.d (.int .i64 0)) (by kernel_rfl) (by kernel_rfl) (PureV.does (p_assign (by kernel_rfl))) ?_
  refine oEnd ?_
  refine oSeq ?_
  refine oSeq ?_
  refine oRegion rfl ?_
  refine oOp (.agg [.d (.lit (List.map e_i64 d0))]) (by kernel_rfl) (by kernel_rfl) (Quiet.does (k_loadAgg 0 0 (by kernel_rfl) Try.underlying26 (by kernel_rfl) ty26 (by kernel_rfl))) ?_
  refine bCall (caps := []) (v := (fun (r18 : Int) => (.d (.int .i64 r18) : V))) (H' := (fun (r18 : Int) => ([.box [.d (.lit (List.map e_i64 d0))], .box [.d (.int .i64 0), .d (.int .i64 0)]] : List Blk))) [] _ (distribution_check_goes k d0) (by kernel_rfl) (by kernel_rfl) rfl (by kernel_rfl) Try.func44 rfl (by kernel_rfl) (ConvRs.refl _ _) (by kernel_rfl) (by kernel_rfl) (by kernel_rfl) (by decide) (by kernel_rfl) (by kernel_rfl) (fun _ => (by kernel_rfl)) (fun _ => (by kernel_rfl)) (fun _ => (by kernel_rfl)) (fun r18 => ?_)
  refine oOp (.d (.int .i64 r18)) (by kernel_rfl) (by kernel_rfl) (PureV.does (p_assign (by kernel_rfl))) ?_
  refine oEnd ?_
  refine oSeq ?_
  refine oRegion rfl ?_
  refine oOp (.d (.int .i64 r18)) (by kernel_rfl) (by kernel_rfl) (PureV.does (p_move (by kernel_rfl))) ?_
  refine oOp (.d (.bool (r18 != 0))) (by kernel_rfl) (by kernel_rfl) (PureV.does (p_int (k := .i64) (p := r18) (q := 0) (by kernel_rfl) (by kernel_rfl) (by kernel_rfl))) ?_
  refine oEnd ?_
  refine bSplit 8 (by kernel_rfl) (fun hc => ?_) (fun hc => ?_)
  · refine oCondT (by kernel_rfl) ?_
    refine oSeq ?_
    refine oRegion rfl ?_
    refine oOp (.agg [.d (.int .i64 0), .d (.int .i64 0)]) (by kernel_rfl) (by kernel_rfl) (PureV.does (p_build bld31 (by kernel_rfl))) ?_
    refine oOp (.d (.int .i64 r18)) (by kernel_rfl) (by kernel_rfl) (PureV.does (p_move (by kernel_rfl))) ?_
    refine oOp (.undef) (by kernel_rfl) (by kernel_rfl) (k_store (vs := [.d (.int .i64 0), .d (.int .i64 0)]) (H' := [.box [.d (.lit (List.map e_i64 d0))], .box [.d (.int .i64 0), .d (.int .i64 0)]]) 1 0 (by kernel_rfl) ty31 (by kernel_rfl) (by kernel_rfl) (by kernel_rfl)) ?_
    refine oOp (.d (.int .i64 r18)) (by kernel_rfl) (by kernel_rfl) (PureV.does (p_assign (by kernel_rfl))) ?_
    refine oEnd ?_
    exact oRet (r0 := (0, 0, r18)) (rv := .tuple [.agg [.d (.int .i64 0), .d (.int .i64 0)], .d (.int .i64 r18)]) (B := []) (vs := [.agg [.d (.int .i64 0), .d (.int .i64 0)], .d (.int .i64 r18)]) (σ := []) (by kernel_rfl) Try.func19 rfl (.cons _ _ _ _ (.agg 2 31 1 0 [.d (.int .i64 0), .d (.int .i64 0)] [.d (.int .i64 0), .d (.int .i64 0)] _ _ _ _ (by kernel_rfl) (by kernel_rfl) Try.underlying31 (by kernel_rfl) ty31 (by kernel_rfl) (by kernel_rfl)) (.cons _ _ _ _ (.tmp 3 _ (by kernel_rfl)) .nil)) (by kernel_rfl) (by kernel_rfl) (by kernel_rfl) (by kernel_rfl) (by decide) (by kernel_rfl) (by kernel_rfl)
  · refine oCondF (by kernel_rfl) ?_
    refine oSkip ?_
    refine oSeq ?_
    refine oDraw [(0, 9), (1, 7)] rfl ?_
    refine aTakeL (i := 0) (st' := [0]) (.agg [.d (.lit (List.map e_i64 d0))]) rfl (by kernel_rfl) (by kernel_rfl) (by kernel_rfl) (by kernel_rfl) (by kernel_rfl) (by kernel_rfl) (by kernel_rfl) (k_loadAgg 0 0 (by kernel_rfl) Try.underlying26 (by kernel_rfl) ty26 (by kernel_rfl)) ?_
    refine aTakeL (i := 2) (st' := [0]) (.agg [.d (.lit (List.map e_i64 d0))]) rfl (by kernel_rfl) (by kernel_rfl) (by kernel_rfl) (by kernel_rfl) (by kernel_rfl) (by kernel_rfl) (by kernel_rfl) (k_loadAgg 0 0 (by kernel_rfl) Try.underlying26 (by kernel_rfl) ty26 (by kernel_rfl)) ?_
    refine dCall (i := 1) (caps := []) (v := (fun (r11 : Int) => (.d (.int .i64 r11) : V))) (H' := (fun (r11 : Int) => ([.box [.d (.lit (List.map e_i64 d0))], .box [.d (.int .i64 0), .d (.int .i64 0)]] : List Blk))) [] _ (distribution_points_goes k d0) rfl (by kernel_rfl) (by kernel_rfl) (by kernel_rfl) (by kernel_rfl) (by kernel_rfl) (by kernel_rfl) (by kernel_rfl) (by kernel_rfl) rfl (by kernel_rfl) Try.func50 rfl (by kernel_rfl) (ConvRs.refl _ _) (by kernel_rfl) (by kernel_rfl) (by kernel_rfl) (by decide) (by kernel_rfl) (by kernel_rfl) (fun _ => (by kernel_rfl)) (fun _ => (by kernel_rfl)) (fun _ => (by kernel_rfl)) (fun r11 => ?_)
    refine dCall (i := 3) (caps := []) (v := (fun (r111 : Int) => (.d (.int .i64 r111) : V))) (H' := (fun (r111 : Int) => ([.box [.d (.lit (List.map e_i64 d0))], .box [.d (.int .i64 0), .d (.int .i64 0)]] : List Blk))) [] _ (distribution_Count_goes k d0) rfl (by kernel_rfl) (by kernel_rfl) (by kernel_rfl) (by kernel_rfl) (by kernel_rfl) (by kernel_rfl) (by kernel_rfl) (by kernel_rfl) rfl (by kernel_rfl) Try.func15 rfl (by kernel_rfl) (ConvRs.refl _ _) (by kernel_rfl) (by kernel_rfl) (by kernel_rfl) (by decide) (by kernel_rfl) (by kernel_rfl) (fun _ => (by kernel_rfl)) (fun _ => (by kernel_rfl)) (fun _ => (by kernel_rfl)) (fun r111 => ?_)
    refine dCall (i := 4) (caps := []) (v := (uc fun (r13 : Int) => (uc fun (r16 : Int) => (fun (r17 : Int) => (.tuple [.agg [.d (.int .i64 r13), .d (.int .i64 r16)], .d (.int .i64 r17)] : V))))) (H' := (uc fun (r13 : Int) => (uc fun (r16 : Int) => (fun (r17 : Int) => ([.box [.d (.lit (List.map e_i64 d0))], .box [.d (.int .i64 0), .d (.int .i64 0)]] : List Blk))))) [] _ (ratio_New_goes k r11 r111) rfl (by kernel_rfl) (by kernel_rfl) (by kernel_rfl) (by kernel_rfl) (by kernel_rfl) (by kernel_rfl) (by kernel_rfl) (by kernel_rfl) rfl (by kernel_rfl) Try.func45 rfl (by kernel_rfl) (ConvRs.refl _ _) (by kernel_rfl) (by kernel_rfl) (by kernel_rfl) (by decide) (by kernel_rfl) (by kernel_rfl) (fun _ => (by kernel_rfl)) (fun _ => (by kernel_rfl)) (fun _ => (by kernel_rfl)) (fun r => ?_)
    obtain ⟨r13, r16, r17⟩ := r
    refine dUc ?_
    refine dUc ?_
    refine aTakeP (i := 5) (.agg [.d (.int .i64 r13), .d (.int .i64 r16)]) rfl (by kernel_rfl) (by kernel_rfl) (by kernel_rfl) (by kernel_rfl) (by kernel_rfl) (by kernel_rfl) (by kernel_rfl) (k_extract (by kernel_rfl)) ?_
    refine aTakeP (i := 6) (.d (.int .i64 r17)) rfl (by kernel_rfl) (by kernel_rfl) (by kernel_rfl) (by kernel_rfl) (by kernel_rfl) (by kernel_rfl) (by kernel_rfl) (k_extract (by kernel_rfl)) ?_
    refine aOne (i := 7) (v := .undef) rfl (by kernel_rfl) (by kernel_rfl) (by kernel_rfl) (by kernel_rfl) (by kernel_rfl) (by kernel_rfl) (by kernel_rfl) (Does.acts (k_store (vs := [.d (.int .i64 r13), .d (.int .i64 r16)]) (H' := [.box [.d (.lit (List.map e_i64 d0))], .box [.d (.int .i64 r13), .d (.int .i64 r16)]]) 1 0 (by kernel_rfl) ty31 (by kernel_rfl) (by kernel_rfl) (by kernel_rfl))) (by kernel_rfl) ?_
    refine aTakeL (i := 8) (st' := []) (.d (.int .i64 r17)) rfl (by kernel_rfl) (by kernel_rfl) (by kernel_rfl) (by kernel_rfl) (by kernel_rfl) (by kernel_rfl) (by kernel_rfl) (PureV.quiet (p_assign (by kernel_rfl)) []) ?_
    refine aDone (by kernel_rfl) ?_
    exact oRet (r0 := (r13, r16, r17)) (rv := .tuple [.agg [.d (.int .i64 r13), .d (.int .i64 r16)], .d (.int .i64 r17)]) (B := []) (vs := [.agg [.d (.int .i64 r13), .d (.int .i64 r16)], .d (.int .i64 r17)]) (σ := []) (by kernel_rfl) Try.func19 rfl (.cons _ _ _ _ (.agg 2 31 1 0 [.d (.int .i64 r13), .d (.int .i64 r16)] [.d (.int .i64 r13), .d (.int .i64 r16)] _ _ _ _ (by kernel_rfl) (by kernel_rfl) Try.underlying31 (by kernel_rfl) ty31 (by kernel_rfl) (by kernel_rfl)) (.cons _ _ _ _ (.tmp 3 _ (by kernel_rfl)) .nil)) (by kernel_rfl) (by kernel_rfl) (by kernel_rfl) (by kernel_rfl) (by decide) (by kernel_rfl) (by kernel_rfl)

/-- awardingbody/distribution.Deviation -/
def distribution_Deviation_b1 (k : Nat) (d0 : (List Int)) (r11 : Int) (r12 : Int) (again : Int × Int → Option (Int)) : Int × Int → Option (Int) := uc fun far6 => fun x4 => bif (decide (x4 < ((List.length d0) : Int))) then gidx d0 x4 fun e113 => again ((IntKind.wrap .i64 (far6 + (IntKind.wrap .i64 (e113 * (gmax (IntKind.wrap .i64 ((IntKind.wrap .i64 (x4 * r11)) - r12)) (IntKind.wrap .i64 (0 - (IntKind.wrap .i64 ((IntKind.wrap .i64 (x4 * r11)) - r12))))))))), (IntKind.wrap .i64 (x4 + 1))) else some far6
def distribution_Deviation (k : Nat) (d0 : (List Int)) : Option (Int × Int × Int) := Option.bind (distribution_check k d0) (fun r19 => bif (r19 != 0) then some (0, 0, r19) else Option.bind (distribution_Count k d0) (fun r11 => Option.bind (distribution_points k d0) (fun r12 => Option.bind (gloop (distribution_Deviation_b1 k d0 r11 r12) k (0, 0) : Option (Int)) (fun far5 => Option.bind (ratio_New k far5 (IntKind.wrap .i64 (r11 * r11))) (uc fun r131 => uc fun r161 => fun r171 => some (r131, r161, r171))))))
def distribution_Deviation_E (d0 : (List Int)) : Int × Int × Int → V × List Blk := uc fun r14 => uc fun r15 => fun r18 => (.tuple [.agg [.d (.int .i64 r14), .d (.int .i64 r15)], .d (.int .i64 r18)], [])
theorem distribution_Deviation_goes (k : Nat) (d0 : (List Int)) : RunsO Try.prog 34 [.agg [.d (.lit (List.map e_i64 d0))]] [] (distribution_Deviation_E d0) (distribution_Deviation k d0) := by
  refine RunsO.of_goes (N := 50) (m := 0) (T := [(0, .agg [.d (.lit (List.map e_i64 d0))])]) Try.func34 rfl rfl (by kernel_rfl) (by kernel_rfl) (by kernel_rfl) ?_
  unfold distribution_Deviation
  refine bStart ?_
  refine oSeq ?_
  refine oRegion rfl ?_
  refine oOp (.ptr 0 0) (by kernel_rfl) (by kernel_rfl) (k_box (H' := [.box [.d (.lit (List.map e_i64 d0))]]) (cells := [.d (.lit (List.map e_i64 d0))]) (by kernel_rfl) (by kernel_rfl) (by kernel_rfl)) ?_
  refine oOp (.ptr 1 0) (by kernel_rfl) (by kernel_rfl) (k_alloc (H' := [.box [.d (.lit (List.map e_i64 d0))], .box [.d (.int .i64 0), .d (.int .i64 0)]]) ty31 (by kernel_rfl) (by kernel_rfl)) ?_
  refine oOp (.d (.int .i64 0)) (by kernel_rfl) (by kernel_rfl) (PureV.does (p_assign (by kernel_rfl))) ?_
  refine oEnd ?_
  refine oSeq ?_
  refine oSeq ?_
  refine oRegion rfl ?_
  refine oOp (.agg [.d (.lit (List.map e_i64 d0))]) (by kernel_rfl) (by kernel_rfl) (Quiet.does (k_loadAgg 0 0 (by kernel_rfl) Try.underlying26 (by kernel_rfl) ty26 (by kernel_rfl))) ?_
  refine bCall (caps := []) (v := (fun (r19 : Int) => (.d (.int .i64 r19) : V))) (H' := (fun (r19 : Int) => ([.box [.d (.lit (List.map e_i64 d0))], .box [.d (.int .i64 0), .d (.int .i64 0)]] : List Blk))) [] _ (distribution_check_goes k d0) (by kernel_rfl) (by kernel_rfl) rfl (by kernel_rfl) Try.func44 rfl (by kernel_rfl) (ConvRs.refl _ _) (by kernel_rfl) (by kernel_rfl) (by kernel_rfl) (by decide) (by kernel_rfl) (by kernel_rfl) (fun _ => (by kernel_rfl)) (fun _ => (by kernel_rfl)) (fun _ => (by kernel_rfl)) (fun r19 => ?_)
  refine oOp (.d (.int .i64 r19)) (by kernel_rfl) (by kernel_rfl) (PureV.does (p_assign (by kernel_rfl))) ?_
  refine oEnd ?_
  refine oSeq ?_
  refine oRegion rfl ?_
  refine oOp (.d (.int .i64 r19)) (by kernel_rfl) (by kernel_rfl) (PureV.does (p_move (by kernel_rfl))) ?_
  refine oOp (.d (.bool (r19 != 0))) (by kernel_rfl) (by kernel_rfl) (PureV.does (p_int (k := .i64) (p := r19) (q := 0) (by kernel_rfl) (by kernel_rfl) (by kernel_rfl))) ?_
  refine oEnd ?_
  refine bSplit 14 (by kernel_rfl) (fun hc => ?_) (fun hc => ?_)
  · refine oCondT (by kernel_rfl) ?_
    refine oSeq ?_
    refine oRegion rfl ?_
    refine oOp (.agg [.d (.int .i64 0), .d (.int .i64 0)]) (by kernel_rfl) (by kernel_rfl) (PureV.does (p_build bld31 (by kernel_rfl))) ?_
    refine oOp (.d (.int .i64 r19)) (by kernel_rfl) (by kernel_rfl) (PureV.does (p_move (by kernel_rfl))) ?_
    refine oOp (.undef) (by kernel_rfl) (by kernel_rfl) (k_store (vs := [.d (.int .i64 0), .d (.int .i64 0)]) (H' := [.box [.d (.lit (List.map e_i64 d0))], .box [.d (.int .i64 0), .d (.int .i64 0)]]) 1 0 (by kernel_rfl) ty31 (by kernel_rfl) (by kernel_rfl) (by kernel_rfl)) ?_
    refine oOp (.d (.int .i64 r19)) (by kernel_rfl) (by kernel_rfl) (PureV.does (p_assign (by kernel_rfl))) ?_
    refine oEnd ?_
    exact oRet (r0 := (0, 0, r19)) (rv := .tuple [.agg [.d (.int .i64 0), .d (.int .i64 0)], .d (.int .i64 r19)]) (B := []) (vs := [.agg [.d (.int .i64 0), .d (.int .i64 0)], .d (.int .i64 r19)]) (σ := []) (by kernel_rfl) Try.func34 rfl (.cons _ _ _ _ (.agg 2 31 1 0 [.d (.int .i64 0), .d (.int .i64 0)] [.d (.int .i64 0), .d (.int .i64 0)] _ _ _ _ (by kernel_rfl) (by kernel_rfl) Try.underlying31 (by kernel_rfl) ty31 (by kernel_rfl) (by kernel_rfl)) (.cons _ _ _ _ (.tmp 3 _ (by kernel_rfl)) .nil)) (by kernel_rfl) (by kernel_rfl) (by kernel_rfl) (by kernel_rfl) (by decide) (by kernel_rfl) (by kernel_rfl)
  · refine oCondF (by kernel_rfl) ?_
    refine oSkip ?_
    refine oSeq ?_
    refine oDraw [(0, 7), (1, 7)] rfl ?_
    refine aTakeL (i := 0) (st' := [0]) (.agg [.d (.lit (List.map e_i64 d0))]) rfl (by kernel_rfl) (by kernel_rfl) (by kernel_rfl) (by kernel_rfl) (by kernel_rfl) (by kernel_rfl) (by kernel_rfl) (k_loadAgg 0 0 (by kernel_rfl) Try.underlying26 (by kernel_rfl) ty26 (by kernel_rfl)) ?_
    refine aTakeL (i := 2) (st' := [0]) (.agg [.d (.lit (List.map e_i64 d0))]) rfl (by kernel_rfl) (by kernel_rfl) (by kernel_rfl) (by kernel_rfl) (by kernel_rfl) (by kernel_rfl) (by kernel_rfl) (k_loadAgg 0 0 (by kernel_rfl) Try.underlying26 (by kernel_rfl) ty26 (by kernel_rfl)) ?_
    refine dCall (i := 1) (caps := []) (v := (fun (r11 : Int) => (.d (.int .i64 r11) : V))) (H' := (fun (r11 : Int) => ([.box [.d (.lit (List.map e_i64 d0))], .box [.d (.int .i64 0), .d (.int .i64 0)]] : List Blk))) [] _ (distribution_Count_goes k d0) rfl (by kernel_rfl) (by kernel_rfl) (by kernel_rfl) (by kernel_rfl) (by kernel_rfl) (by kernel_rfl) (by kernel_rfl) (by kernel_rfl) rfl (by kernel_rfl) Try.func15 rfl (by kernel_rfl) (ConvRs.refl _ _) (by kernel_rfl) (by kernel_rfl) (by kernel_rfl) (by decide) (by kernel_rfl) (by kernel_rfl) (fun _ => (by kernel_rfl)) (fun _ => (by kernel_rfl)) (fun _ => (by kernel_rfl)) (fun r11 => ?_)
    refine dCall (i := 3) (caps := []) (v := (fun (r12 : Int) => (.d (.int .i64 r12) : V))) (H' := (fun (r12 : Int) => ([.box [.d (.lit (List.map e_i64 d0))], .box [.d (.int .i64 0), .d (.int .i64 0)]] : List Blk))) [] _ (distribution_points_goes k d0) rfl (by kernel_rfl) (by kernel_rfl) (by kernel_rfl) (by kernel_rfl) (by kernel_rfl) (by kernel_rfl) (by kernel_rfl) (by kernel_rfl) rfl (by kernel_rfl) Try.func50 rfl (by kernel_rfl) (ConvRs.refl _ _) (by kernel_rfl) (by kernel_rfl) (by kernel_rfl) (by decide) (by kernel_rfl) (by kernel_rfl) (fun _ => (by kernel_rfl)) (fun _ => (by kernel_rfl)) (fun _ => (by kernel_rfl)) (fun r12 => ?_)
    refine aTakeL (i := 4) (st' := []) (.d (.int .i64 r11)) rfl (by kernel_rfl) (by kernel_rfl) (by kernel_rfl) (by kernel_rfl) (by kernel_rfl) (by kernel_rfl) (by kernel_rfl) (PureV.quiet (p_assign (by kernel_rfl)) []) ?_
    refine aTakeL (i := 5) (st' := []) (.d (.int .i64 r12)) rfl (by kernel_rfl) (by kernel_rfl) (by kernel_rfl) (by kernel_rfl) (by kernel_rfl) (by kernel_rfl) (by kernel_rfl) (PureV.quiet (p_assign (by kernel_rfl)) []) ?_
    refine aTakeL (i := 6) (st' := []) (.d (.int .i64 0)) rfl (by kernel_rfl) (by kernel_rfl) (by kernel_rfl) (by kernel_rfl) (by kernel_rfl) (by kernel_rfl) (by kernel_rfl) (PureV.quiet (p_assign (by kernel_rfl)) []) ?_
    refine aDone (by kernel_rfl) ?_
    refine oSeq ?_
    refine oSeq ?_
    refine oRegion rfl ?_
    refine oOp (.ptr 0 0) (by kernel_rfl) (by kernel_rfl) (PureV.does (k_fieldAddr 0 0 (by kernel_rfl) Try.underlying26 rfl ty22 (by kernel_rfl))) ?_
    refine oOp (.d (.lit (List.map e_i64 d0))) (by kernel_rfl) (by kernel_rfl) (Quiet.does (k_load 0 0 (by kernel_rfl) Try.underlying22 (by kernel_rfl) (by kernel_rfl))) ?_
    refine oOp (.d (.int .i64 ((List.length d0) : Int))) (by kernel_rfl) (by kernel_rfl) (PureV.does (k_lenLit (enc := e_i64) d0 (by kernel_rfl) Try.underlying22)) ?_
    refine oOp (.d (.int .i64 0)) (by kernel_rfl) (by kernel_rfl) (PureV.does (p_move (by kernel_rfl))) ?_
    refine oEnd ?_
    refine bJoin ((fun (far5 : Int) => [(2, .ptr 0 0), (5, .d (.int .i64 r11)), (7, .d (.int .i64 far5))])) ((fun (far5 : Int) => [.box [.d (.int .i64 0), .d (.int .i64 0)]])) (fun s => s) (fun far5 => ?_) (fun hj2 => ?_)
    · refine oView (T' := [(2, .ptr 0 0), (5, .d (.int .i64 r11)), (7, .d (.int .i64 far5))]) (H' := [.box [.d (.int .i64 0), .d (.int .i64 0)]]) (by kernel_rfl) (by kernel_rfl) ?_
      refine oSeq ?_
      refine oRegion rfl ?_
      refine oOp (.d (.int .i64 far5)) (by kernel_rfl) (by kernel_rfl) (PureV.does (p_move (by kernel_rfl))) ?_
      refine oOp (.d (.int .i64 r11)) (by kernel_rfl) (by kernel_rfl) (PureV.does (p_move (by kernel_rfl))) ?_
      refine oOp (.d (.int .i64 r11)) (by kernel_rfl) (by kernel_rfl) (PureV.does (p_move (by kernel_rfl))) ?_
      refine oOp (.d (.int .i64 (IntKind.wrap .i64 (r11 * r11)))) (by kernel_rfl) (by kernel_rfl) (PureV.does (p_int (k := .i64) (p := r11) (q := r11) (by kernel_rfl) (by kernel_rfl) (by kernel_rfl))) ?_
      refine bCall (caps := []) (v := (uc fun (r131 : Int) => (uc fun (r161 : Int) => (fun (r171 : Int) => (.tuple [.agg [.d (.int .i64 r131), .d (.int .i64 r161)], .d (.int .i64 r171)] : V))))) (H' := (uc fun (r131 : Int) => (uc fun (r161 : Int) => (fun (r171 : Int) => ([.box [.d (.int .i64 0), .d (.int .i64 0)]] : List Blk))))) [] _ (ratio_New_goes k far5 (IntKind.wrap .i64 (r11 * r11))) (by kernel_rfl) (by kernel_rfl) rfl (by kernel_rfl) Try.func45 rfl (by kernel_rfl) (ConvRs.refl _ _) (by kernel_rfl) (by kernel_rfl) (by kernel_rfl) (by decide) (by kernel_rfl) (by kernel_rfl) (fun _ => (by kernel_rfl)) (fun _ => (by kernel_rfl)) (fun _ => (by kernel_rfl)) (fun r => ?_)
      obtain ⟨r131, r161, r171⟩ := r
      refine bUc ?_
      refine bUc ?_
      refine oOp (.agg [.d (.int .i64 r131), .d (.int .i64 r161)]) (by kernel_rfl) (by kernel_rfl) (PureV.does (k_extract (by kernel_rfl))) ?_
      refine oOp (.d (.int .i64 r171)) (by kernel_rfl) (by kernel_rfl) (PureV.does (k_extract (by kernel_rfl))) ?_
      refine oOp (.undef) (by kernel_rfl) (by kernel_rfl) (k_store (vs := [.d (.int .i64 r131), .d (.int .i64 r161)]) (H' := [.box [.d (.int .i64 r131), .d (.int .i64 r161)]]) 0 0 (by kernel_rfl) ty31 (by kernel_rfl) (by kernel_rfl) (by kernel_rfl)) ?_
      refine oOp (.d (.int .i64 r171)) (by kernel_rfl) (by kernel_rfl) (PureV.does (p_assign (by kernel_rfl))) ?_
      refine oEnd ?_
      exact oRet (r0 := (r131, r161, r171)) (rv := .tuple [.agg [.d (.int .i64 r131), .d (.int .i64 r161)], .d (.int .i64 r171)]) (B := []) (vs := [.agg [.d (.int .i64 r131), .d (.int .i64 r161)], .d (.int .i64 r171)]) (σ := []) (by kernel_rfl) Try.func34 rfl (.cons _ _ _ _ (.agg 2 31 0 0 [.d (.int .i64 r131), .d (.int .i64 r161)] [.d (.int .i64 r131), .d (.int .i64 r161)] _ _ _ _ (by kernel_rfl) (by kernel_rfl) Try.underlying31 (by kernel_rfl) ty31 (by kernel_rfl) (by kernel_rfl)) (.cons _ _ _ _ (.tmp 3 _ (by kernel_rfl)) .nil)) (by kernel_rfl) (by kernel_rfl) (by kernel_rfl) (by kernel_rfl) (by decide) (by kernel_rfl) (by kernel_rfl)
    · refine oBlock ?_
      refine oLoop ?_
      refine oHead [2, 5, 6, 7, 22, 23, 24] [1] (T' := [(2, .ptr 0 0), (5, .d (.int .i64 r11)), (6, .d (.int .i64 r12)), (7, .d (.int .i64 0)), (22, .d (.lit (List.map e_i64 d0))), (23, .d (.int .i64 ((List.length d0) : Int))), (24, .d (.int .i64 0))]) (H' := [.box [.d (.int .i64 0), .d (.int .i64 0)]]) (by kernel_rfl) (by kernel_rfl) (by kernel_rfl) (by kernel_rfl) (by decide) (by kernel_rfl) (by kernel_rfl) ?_
      refine bLoop (body := distribution_Deviation_b1 k d0 r11 r12) ((uc fun (far6 : Int) => (fun (x4 : Int) => [(2, .ptr 0 0), (5, .d (.int .i64 r11)), (6, .d (.int .i64 r12)), (7, .d (.int .i64 far6)), (22, .d (.lit (List.map e_i64 d0))), (23, .d (.int .i64 ((List.length d0) : Int))), (24, .d (.int .i64 x4))]))) ((uc fun (far6 : Int) => (fun (x4 : Int) => [.box [.d (.int .i64 0), .d (.int .i64 0)]]))) (fun again hag1 s => ?_) k (0, 0)
      · unfold distribution_Deviation_b1
        obtain ⟨far6, x4⟩ := s
        refine bUc ?_
        refine oView (T' := [(2, .ptr 0 0), (5, .d (.int .i64 r11)), (6, .d (.int .i64 r12)), (7, .d (.int .i64 far6)), (22, .d (.lit (List.map e_i64 d0))), (23, .d (.int .i64 ((List.length d0) : Int))), (24, .d (.int .i64 x4))]) (H' := [.box [.d (.int .i64 0), .d (.int .i64 0)]]) (by kernel_rfl) (by kernel_rfl) ?_
        refine oSeq ?_
        refine oRegion rfl ?_
        refine oOp (.d (.bool (decide (x4 < ((List.length d0) : Int))))) (by kernel_rfl) (by kernel_rfl) (PureV.does (p_int (k := .i64) (p := x4) (q := ((List.length d0) : Int)) (by kernel_rfl) (by kernel_rfl) (by kernel_rfl))) ?_
        refine oEnd ?_
        refine oSeq ?_
        refine bSplit 25 (by kernel_rfl) (fun hc => ?_) (fun hc => ?_)
        · refine oCondT (by kernel_rfl) ?_
          refine oSkip ?_
          refine oSeq ?_
          refine oBlock ?_
          refine oSeq ?_
          refine oRegion rfl ?_
          refine oOp (.d (.int .i64 x4)) (by kernel_rfl) (by kernel_rfl) (PureV.does (p_move (by kernel_rfl))) ?_
          refine bIdx (fun e113 h126 h127 => ?_)
          refine oOp (.lptr (e_i64 e113) 0) (by kernel_rfl) (by kernel_rfl) (PureV.does (k_idxLit e_i64_len d0 (a := e113) (by kernel_rfl) (k := .i64) (i := x4) (by kernel_rfl) Try.underlying22 ty3 h126 h127)) ?_
          refine oOp (.d (.int .i64 e113)) (by kernel_rfl) (by kernel_rfl) (Quiet.does (k_loadL (cells := e_i64 e113) 0 (by kernel_rfl) Try.underlying3 (by kernel_rfl) (by kernel_rfl))) ?_
          refine oOp (.d (.int .i64 x4)) (by kernel_rfl) (by kernel_rfl) (PureV.does (p_assign (by kernel_rfl))) ?_
          refine oOp (.d (.int .i64 e113)) (by kernel_rfl) (by kernel_rfl) (PureV.does (p_assign (by kernel_rfl))) ?_
          refine oEnd ?_
          refine oSeq ?_
          refine oRegion rfl ?_
          refine oOp (.d (.int .i64 x4)) (by kernel_rfl) (by kernel_rfl) (PureV.does (p_move (by kernel_rfl))) ?_
          refine oOp (.d (.int .i64 r11)) (by kernel_rfl) (by kernel_rfl) (PureV.does (p_move (by kernel_rfl))) ?_
          refine oOp (.d (.int .i64 (IntKind.wrap .i64 (x4 * r11)))) (by kernel_rfl) (by kernel_rfl) (PureV.does (p_int (k := .i64) (p := x4) (q := r11) (by kernel_rfl) (by kernel_rfl) (by kernel_rfl))) ?_
          refine oOp (.d (.int .i64 r12)) (by kernel_rfl) (by kernel_rfl) (PureV.does (p_move (by kernel_rfl))) ?_
          refine oOp (.d (.int .i64 (IntKind.wrap .i64 ((IntKind.wrap .i64 (x4 * r11)) - r12)))) (by kernel_rfl) (by kernel_rfl) (PureV.does (p_int (k := .i64) (p := (IntKind.wrap .i64 (x4 * r11))) (q := r12) (by kernel_rfl) (by kernel_rfl) (by kernel_rfl))) ?_
          refine oOp (.d (.int .i64 (IntKind.wrap .i64 ((IntKind.wrap .i64 (x4 * r11)) - r12)))) (by kernel_rfl) (by kernel_rfl) (PureV.does (p_assign (by kernel_rfl))) ?_
          refine oEnd ?_
          refine oRegion rfl ?_
          refine oOp (.d (.int .i64 far6)) (by kernel_rfl) (by kernel_rfl) (PureV.does (p_move (by kernel_rfl))) ?_
          refine oOp (.d (.int .i64 e113)) (by kernel_rfl) (by kernel_rfl) (PureV.does (p_move (by kernel_rfl))) ?_
          refine oOp (.d (.int .i64 (IntKind.wrap .i64 ((IntKind.wrap .i64 (x4 * r11)) - r12)))) (by kernel_rfl) (by kernel_rfl) (PureV.does (p_move (by kernel_rfl))) ?_
          refine oOp (.d (.int .i64 (IntKind.wrap .i64 ((IntKind.wrap .i64 (x4 * r11)) - r12)))) (by kernel_rfl) (by kernel_rfl) (PureV.does (p_move (by kernel_rfl))) ?_
          refine oOp (.d (.int .i64 (IntKind.wrap .i64 (0 - (IntKind.wrap .i64 ((IntKind.wrap .i64 (x4 * r11)) - r12)))))) (by kernel_rfl) (by kernel_rfl) (PureV.does (p_neg (k := .i64) (p := (IntKind.wrap .i64 ((IntKind.wrap .i64 (x4 * r11)) - r12))) (by kernel_rfl) (by kernel_rfl))) ?_
          refine oOp (.d (.int .i64 (gmax (IntKind.wrap .i64 ((IntKind.wrap .i64 (x4 * r11)) - r12)) (IntKind.wrap .i64 (0 - (IntKind.wrap .i64 ((IntKind.wrap .i64 (x4 * r11)) - r12))))))) (by kernel_rfl) (by kernel_rfl) (PureV.does (p_max2 (k := .i64) (p := (IntKind.wrap .i64 ((IntKind.wrap .i64 (x4 * r11)) - r12))) (q := (IntKind.wrap .i64 (0 - (IntKind.wrap .i64 ((IntKind.wrap .i64 (x4 * r11)) - r12))))) (by kernel_rfl) (by kernel_rfl) (by kernel_rfl))) ?_
          refine oOp (.d (.int .i64 (IntKind.wrap .i64 (e113 * (gmax (IntKind.wrap .i64 ((IntKind.wrap .i64 (x4 * r11)) - r12)) (IntKind.wrap .i64 (0 - (IntKind.wrap .i64 ((IntKind.wrap .i64 (x4 * r11)) - r12))))))))) (by kernel_rfl) (by kernel_rfl) (PureV.does (p_int (k := .i64) (p := e113) (q := (gmax (IntKind.wrap .i64 ((IntKind.wrap .i64 (x4 * r11)) - r12)) (IntKind.wrap .i64 (0 - (IntKind.wrap .i64 ((IntKind.wrap .i64 (x4 * r11)) - r12)))))) (by kernel_rfl) (by kernel_rfl) (by kernel_rfl))) ?_
          refine oOp (.d (.int .i64 (IntKind.wrap .i64 (far6 + (IntKind.wrap .i64 (e113 * (gmax (IntKind.wrap .i64 ((IntKind.wrap .i64 (x4 * r11)) - r12)) (IntKind.wrap .i64 (0 - (IntKind.wrap .i64 ((IntKind.wrap .i64 (x4 * r11)) - r12))))))))))) (by kernel_rfl) (by kernel_rfl) (PureV.does (p_int (k := .i64) (p := far6) (q := (IntKind.wrap .i64 (e113 * (gmax (IntKind.wrap .i64 ((IntKind.wrap .i64 (x4 * r11)) - r12)) (IntKind.wrap .i64 (0 - (IntKind.wrap .i64 ((IntKind.wrap .i64 (x4 * r11)) - r12)))))))) (by kernel_rfl) (by kernel_rfl) (by kernel_rfl))) ?_
          refine oOp (.d (.int .i64 (IntKind.wrap .i64 (far6 + (IntKind.wrap .i64 (e113 * (gmax (IntKind.wrap .i64 ((IntKind.wrap .i64 (x4 * r11)) - r12)) (IntKind.wrap .i64 (0 - (IntKind.wrap .i64 ((IntKind.wrap .i64 (x4 * r11)) - r12))))))))))) (by kernel_rfl) (by kernel_rfl) (PureV.does (p_assign (by kernel_rfl))) ?_
          refine oEnd ?_
          refine oBlk ?_
          refine oRegion rfl ?_
          refine oOp (.d (.int .i64 (IntKind.wrap .i64 (x4 + 1)))) (by kernel_rfl) (by kernel_rfl) (PureV.does (p_int (k := .i64) (p := x4) (q := 1) (by kernel_rfl) (by kernel_rfl) (by kernel_rfl))) ?_
          refine oOp (.d (.int .i64 (IntKind.wrap .i64 (x4 + 1)))) (by kernel_rfl) (by kernel_rfl) (PureV.does (p_move (by kernel_rfl))) ?_
          refine oEnd ?_
          refine oAgain ?_
          refine oHead [2, 5, 6, 7, 22, 23, 24] [0] (T' := [(2, .ptr 0 0), (5, .d (.int .i64 r11)), (6, .d (.int .i64 r12)), (7, .d (.int .i64 (IntKind.wrap .i64 (far6 + (IntKind.wrap .i64 (e113 * (gmax (IntKind.wrap .i64 ((IntKind.wrap .i64 (x4 * r11)) - r12)) (IntKind.wrap .i64 (0 - (IntKind.wrap .i64 ((IntKind.wrap .i64 (x4 * r11)) - r12))))))))))), (22, .d (.lit (List.map e_i64 d0))), (23, .d (.int .i64 ((List.length d0) : Int))), (24, .d (.int .i64 (IntKind.wrap .i64 (x4 + 1))))]) (H' := [.box [.d (.int .i64 0), .d (.int .i64 0)]]) (by kernel_rfl) (by kernel_rfl) (by kernel_rfl) (by kernel_rfl) (by decide) (by kernel_rfl) (by kernel_rfl) ?_
          exact hag1 ((IntKind.wrap .i64 (far6 + (IntKind.wrap .i64 (e113 * (gmax (IntKind.wrap .i64 ((IntKind.wrap .i64 (x4 * r11)) - r12)) (IntKind.wrap .i64 (0 - (IntKind.wrap .i64 ((IntKind.wrap .i64 (x4 * r11)) - r12))))))))), (IntKind.wrap .i64 (x4 + 1)))
        · refine oCondF (by kernel_rfl) ?_
          refine oExit rfl ?_
          refine oHead [2, 5, 7] [0] (T' := [(2, .ptr 0 0), (5, .d (.int .i64 r11)), (7, .d (.int .i64 far6))]) (H' := [.box [.d (.int .i64 0), .d (.int .i64 0)]]) (by kernel_rfl) (by kernel_rfl) (by kernel_rfl) (by kernel_rfl) (by decide) (by kernel_rfl) (by kernel_rfl) ?_
          exact hj2 far6

/-- awardingbody/distribution.Below -/
def distribution_Below (k : Nat) (d0 : (List Int)) (score : Int) : Option (Int) := Option.bind (distribution_Valid k d0) (fun r121 => bif (!r121) then some 0 else gcut 0 (gmin (gmax score 0) ((List.length d0) : Int)) ((List.length d0) : Int) (Option.bind (distribution_sum k (List.take (Int.toNat (gmin (gmax score 0) ((List.length d0) : Int))) d0)) (fun r13 => some r13)))
def distribution_Below_E (d0 : (List Int)) (score : Int) : Int → V × List Blk := fun r11 => (.d (.int .i64 r11), [])
theorem distribution_Below_goes (k : Nat) (d0 : (List Int)) (score : Int) : RunsO Try.prog 16 [.agg [.d (.lit (List.map e_i64 d0))], .d (.int .i64 score)] [] (distribution_Below_E d0 score) (distribution_Below k d0 score) := by
  refine RunsO.of_goes (N := 18) (m := 0) (T := [(0, .agg [.d (.lit (List.map e_i64 d0))]), (1, .d (.int .i64 score))]) Try.func16 rfl rfl (by kernel_rfl) (by kernel_rfl) (by kernel_rfl) ?_
  unfold distribution_Below
  refine bStart ?_
  refine oSeq ?_
  refine oRegion rfl ?_
  refine oOp (.ptr 0 0) (by kernel_rfl) (by kernel_rfl) (k_box (H' := [.box [.d (.lit (List.map e_i64 d0))]]) (cells := [.d (.lit (List.map e_i64 d0))]) (by kernel_rfl) (by kernel_rfl) (by kernel_rfl)) ?_
  refine oOp (.d (.int .i64 0)) (by kernel_rfl) (by kernel_rfl) (PureV.does (p_assign (by kernel_rfl))) ?_
  refine oEnd ?_
  refine oSeq ?_
  refine oSeq ?_
  refine oRegion rfl ?_
  refine oOp (.agg [.d (.lit (List.map e_i64 d0))]) (by kernel_rfl) (by kernel_rfl) (Quiet.does (k_loadAgg 0 0 (by kernel_rfl) Try.underlying26 (by kernel_rfl) ty26 (by kernel_rfl))) ?_
  refine bCall (caps := []) (v := (fun (r121 : Bool) => (.d (.bool r121) : V))) (H' := (fun (r121 : Bool) => ([.box [.d (.lit (List.map e_i64 d0))]] : List Blk))) [] _ (distribution_Valid_goes k d0) (by kernel_rfl) (by kernel_rfl) rfl (by kernel_rfl) Try.func28 rfl (by kernel_rfl) (ConvRs.refl _ _) (by kernel_rfl) (by kernel_rfl) (by kernel_rfl) (by decide) (by kernel_rfl) (by kernel_rfl) (fun _ => (by kernel_rfl)) (fun _ => (by kernel_rfl)) (fun _ => (by kernel_rfl)) (fun r121 => ?_)
  refine oOp (.d (.bool (!r121))) (by kernel_rfl) (by kernel_rfl) (PureV.does (p_not (p := r121) (by kernel_rfl) (by kernel_rfl))) ?_
  refine oEnd ?_
  refine bSplit 7 (by kernel_rfl) (fun hc => ?_) (fun hc => ?_)
  · refine oCondT (by kernel_rfl) ?_
    refine oSeq ?_
    refine oRegion rfl ?_
    refine oOp (.d (.int .i64 0)) (by kernel_rfl) (by kernel_rfl) (PureV.does (p_assign (by kernel_rfl))) ?_
    refine oEnd ?_
    exact oRet (r0 := 0) (rv := .d (.int .i64 0)) (B := []) (vs := [.d (.int .i64 0)]) (σ := []) (by kernel_rfl) Try.func16 rfl (.cons _ _ _ _ (.tmp 4 _ (by kernel_rfl)) .nil) (by kernel_rfl) (by kernel_rfl) (by kernel_rfl) (by kernel_rfl) (by decide) (by kernel_rfl) (by kernel_rfl)
  · refine oCondF (by kernel_rfl) ?_
    refine oSkip ?_
    refine oSeq ?_
    refine oRegion rfl ?_
    refine oOp (.ptr 0 0) (by kernel_rfl) (by kernel_rfl) (PureV.does (k_fieldAddr 0 0 (by kernel_rfl) Try.underlying26 rfl ty22 (by kernel_rfl))) ?_
    refine oOp (.d (.lit (List.map e_i64 d0))) (by kernel_rfl) (by kernel_rfl) (Quiet.does (k_load 0 0 (by kernel_rfl) Try.underlying22 (by kernel_rfl) (by kernel_rfl))) ?_
    refine oOp (.d (.int .i64 score)) (by kernel_rfl) (by kernel_rfl) (PureV.does (p_move (by kernel_rfl))) ?_
    refine oOp (.d (.int .i64 (gmax score 0))) (by kernel_rfl) (by kernel_rfl) (PureV.does (p_max2 (k := .i64) (p := score) (q := 0) (by kernel_rfl) (by kernel_rfl) (by kernel_rfl))) ?_
    refine oOp (.ptr 0 0) (by kernel_rfl) (by kernel_rfl) (PureV.does (k_fieldAddr 0 0 (by kernel_rfl) Try.underlying26 rfl ty22 (by kernel_rfl))) ?_
    refine oOp (.d (.lit (List.map e_i64 d0))) (by kernel_rfl) (by kernel_rfl) (Quiet.does (k_load 0 0 (by kernel_rfl) Try.underlying22 (by kernel_rfl) (by kernel_rfl))) ?_
    refine oOp (.d (.int .i64 ((List.length d0) : Int))) (by kernel_rfl) (by kernel_rfl) (PureV.does (k_lenLit (enc := e_i64) d0 (by kernel_rfl) Try.underlying22)) ?_
    refine oOp (.d (.int .i64 (gmin (gmax score 0) ((List.length d0) : Int)))) (by kernel_rfl) (by kernel_rfl) (PureV.does (p_min2 (k := .i64) (p := (gmax score 0)) (q := ((List.length d0) : Int)) (by kernel_rfl) (by kernel_rfl) (by kernel_rfl))) ?_
    refine bCut (fun h13 h14 h15 => ?_)
    refine oOp (.d (.lit (List.map e_i64 (List.take (Int.toNat (gmin (gmax score 0) ((List.length d0) : Int))) d0)))) (by kernel_rfl) (by kernel_rfl) (PureV.does (k_cutH (k2 := .i64) (h := (gmin (gmax score 0) ((List.length d0) : Int))) e_i64_len d0 (by kernel_rfl) (by kernel_rfl) Try.underlying22 ty3 h14 h15)) ?_
    refine bCall (caps := []) (v := (fun (r13 : Int) => (.d (.int .i64 r13) : V))) (H' := (fun (r13 : Int) => ([.box [.d (.lit (List.map e_i64 d0))]] : List Blk))) [] _ (distribution_sum_goes k (List.take (Int.toNat (gmin (gmax score 0) ((List.length d0) : Int))) d0)) (by kernel_rfl) (by kernel_rfl) rfl (by kernel_rfl) Try.func47 rfl (by kernel_rfl) (ConvRs.refl _ _) (by kernel_rfl) (by kernel_rfl) (by kernel_rfl) (by decide) (by kernel_rfl) (by kernel_rfl) (fun _ => (by kernel_rfl)) (fun _ => (by kernel_rfl)) (fun _ => (by kernel_rfl)) (fun r13 => ?_)
    refine oOp (.d (.int .i64 r13)) (by kernel_rfl) (by kernel_rfl) (PureV.does (p_assign (by kernel_rfl))) ?_
    refine oEnd ?_
    exact oRet (r0 := r13) (rv := .d (.int .i64 r13)) (B := []) (vs := [.d (.int .i64 r13)]) (σ := []) (by kernel_rfl) Try.func16 rfl (.cons _ _ _ _ (.tmp 4 _ (by kernel_rfl)) .nil) (by kernel_rfl) (by kernel_rfl) (by kernel_rfl) (by kernel_rfl) (by decide) (by kernel_rfl) (by kernel_rfl)

/-- awardingbody/distribution.Rank -/
def distribution_Rank (k : Nat) (d0 : (List Int)) (score : Int) : Option (Int × Int × Int) := Option.bind (distribution_check k d0) (fun r18 => bif (r18 != 0) then some (0, 0, r18) else Option.bind (distribution_Below k d0 score) (fun r112 => blet ((decide (score ≥ 0)) && (decide (score < ((List.length d0) : Int)))) fun x1 => Option.bind (bif x1 then gidx d0 score fun e12 => some (IntKind.wrap .i64 (r112 + e12)) else some r112 : Option (Int)) (fun high1 => Option.bind (distribution_Count k d0) (fun r113 => Option.bind (ratio_New k (IntKind.wrap .i64 (r112 + high1)) (IntKind.wrap .i64 (2 * r113))) (uc fun r131 => uc fun r161 => fun r171 => some (r131, r161, r171))))))
def distribution_Rank_E (d0 : (List Int)) (score : Int) : Int × Int × Int → V × List Blk := uc fun r12 => uc fun r14 => fun r15 => (.tuple [.agg [.d (.int .i64 r12), .d (.int .i64 r14)], .d (.int .i64 r15)], [])
theorem distribution_Rank_goes (k : Nat) (d0 : (List Int)) (score : Int) : RunsO Try.prog 23 [.agg [.d (.lit (List.map e_i64 d0))], .d (.int .i64 score)] [] (distribution_Rank_E d0 score) (distribution_Rank k d0 score) := by
  refine RunsO.of_goes (N := 44) (m := 0) (T := [(0, .agg [.d (.lit (List.map e_i64 d0))]), (1, .d (.int .i64 score))]) Try.func23 rfl rfl (by kernel_rfl) (by kernel_rfl) (by kernel_rfl) ?_
  unfold distribution_Rank
  refine bStart ?_
  refine oSeq ?_
  refine oRegion rfl ?_
  refine oOp (.ptr 0 0) (by kernel_rfl) (by kernel_rfl) (k_box (H' := [.box [.d (.lit (List.map e_i64 d0))]]) (cells := [.d (.lit (List.map e_i64 d0))]) (by kernel_rfl) (by kernel_rfl) (by kernel_rfl)) ?_
  refine oOp (.ptr 1 0) (by kernel_rfl) (by kernel_rfl) (k_alloc (H' := [.box [.d (.lit (List.map e_i64 d0))], .box [.d (.int .i64 0), .d (.int .i64 0)]]) ty31 (by kernel_rfl) (by kernel_rfl)) ?_
  refine oOp (.d (.int .i64 0)) (by kernel_rfl) (by kernel_rfl) (PureV.does (p_assign (by kernel_rfl))) ?_
  refine oEnd ?_
  refine oSeq ?_
  refine oSeq ?_
  refine oRegion rfl ?_
  refine oOp (.agg [.d (.lit (List.map e_i64 d0))]) (by kernel_rfl) (by kernel_rfl) (Quiet.does (k_loadAgg 0 0 (by kernel_rfl) Try.underlying26 (by kernel_rfl) ty26 (by kernel_rfl))) ?_
  refine bCall (caps := []) (v := (fun (r18 : Int) => (.d (.int .i64 r18) : V))) (H' := (fun (r18 : Int) => ([.box [.d (.lit (List.map e_i64 d0))], .box [.d (.int .i64 0), .d (.int .i64 0)]] : List Blk))) [] _ (distribution_check_goes k d0) (by kernel_rfl) (by kernel_rfl) rfl (by kernel_rfl) Try.func44 rfl (by kernel_rfl) (ConvRs.refl _ _) (by kernel_rfl) (by kernel_rfl) (by kernel_rfl) (by decide) (by kernel_rfl) (by kernel_rfl) (fun _ => (by kernel_rfl)) (fun _ => (by kernel_rfl)) (fun _ => (by kernel_rfl)) (fun r18 => ?_)
  refine oOp (.d (.int .i64 r18)) (by kernel_rfl) (by kernel_rfl) (PureV.does (p_assign (by kernel_rfl))) ?_
  refine oEnd ?_
  refine oSeq ?_
  refine oRegion rfl ?_
  refine oOp (.d (.int .i64 r18)) (by kernel_rfl) (by kernel_rfl) (PureV.does (p_move (by kernel_rfl))) ?_
  refine oOp (.d (.bool (r18 != 0))) (by kernel_rfl) (by kernel_rfl) (PureV.does (p_int (k := .i64) (p := r18) (q := 0) (by kernel_rfl) (by kernel_rfl) (by kernel_rfl))) ?_
  refine oEnd ?_
  refine bSplit 12 (by kernel_rfl) (fun hc => ?_) (fun hc => ?_)
  · refine oCondT (by kernel_rfl) ?_
    refine oSeq ?_
    refine oRegion rfl ?_
    refine oOp (.agg [.d (.int .i64 0), .d (.int .i64 0)]) (by kernel_rfl) (by kernel_rfl) (PureV.does (p_build bld31 (by kernel_rfl))) ?_
    refine oOp (.d (.int .i64 r18)) (by kernel_rfl) (by kernel_rfl) (PureV.does (p_move (by kernel_rfl))) ?_
    refine oOp (.undef) (by kernel_rfl) (by kernel_rfl) (k_store (vs := [.d (.int .i64 0), .d (.int .i64 0)]) (H' := [.box [.d (.lit (List.map e_i64 d0))], .box [.d (.int .i64 0), .d (.int .i64 0)]]) 1 0 (by kernel_rfl) ty31 (by kernel_rfl) (by kernel_rfl) (by kernel_rfl)) ?_
    refine oOp (.d (.int .i64 r18)) (by kernel_rfl) (by kernel_rfl) (PureV.does (p_assign (by kernel_rfl))) ?_
    refine oEnd ?_
    exact oRet (r0 := (0, 0, r18)) (rv := .tuple [.agg [.d (.int .i64 0), .d (.int .i64 0)], .d (.int .i64 r18)]) (B := []) (vs := [.agg [.d (.int .i64 0), .d (.int .i64 0)], .d (.int .i64 r18)]) (σ := []) (by kernel_rfl) Try.func23 rfl (.cons _ _ _ _ (.agg 4 31 1 0 [.d (.int .i64 0), .d (.int .i64 0)] [.d (.int .i64 0), .d (.int .i64 0)] _ _ _ _ (by kernel_rfl) (by kernel_rfl) Try.underlying31 (by kernel_rfl) ty31 (by kernel_rfl) (by kernel_rfl)) (.cons _ _ _ _ (.tmp 5 _ (by kernel_rfl)) .nil)) (by kernel_rfl) (by kernel_rfl) (by kernel_rfl) (by kernel_rfl) (by decide) (by kernel_rfl) (by kernel_rfl)
  · refine oCondF (by kernel_rfl) ?_
    refine oSkip ?_
    refine oSeq ?_
    refine oRegion rfl ?_
    refine oOp (.agg [.d (.lit (List.map e_i64 d0))]) (by kernel_rfl) (by kernel_rfl) (Quiet.does (k_loadAgg 0 0 (by kernel_rfl) Try.underlying26 (by kernel_rfl) ty26 (by kernel_rfl))) ?_
    refine oOp (.d (.int .i64 score)) (by kernel_rfl) (by kernel_rfl) (PureV.does (p_move (by kernel_rfl))) ?_
    refine bCall (caps := []) (v := (fun (r112 : Int) => (.d (.int .i64 r112) : V))) (H' := (fun (r112 : Int) => ([.box [.d (.lit (List.map e_i64 d0))], .box [.d (.int .i64 0), .d (.int .i64 0)]] : List Blk))) [] _ (distribution_Below_goes k d0 score) (by kernel_rfl) (by kernel_rfl) rfl (by kernel_rfl) Try.func16 rfl (by kernel_rfl) (ConvRs.refl _ _) (by kernel_rfl) (by kernel_rfl) (by kernel_rfl) (by decide) (by kernel_rfl) (by kernel_rfl) (fun _ => (by kernel_rfl)) (fun _ => (by kernel_rfl)) (fun _ => (by kernel_rfl)) (fun r112 => ?_)
    refine oOp (.d (.int .i64 r112)) (by kernel_rfl) (by kernel_rfl) (PureV.does (p_assign (by kernel_rfl))) ?_
    refine oEnd ?_
    refine oSeq ?_
    refine oRegion rfl ?_
    refine oOp (.d (.int .i64 r112)) (by kernel_rfl) (by kernel_rfl) (PureV.does (p_move (by kernel_rfl))) ?_
    refine oOp (.d (.int .i64 r112)) (by kernel_rfl) (by kernel_rfl) (PureV.does (p_assign (by kernel_rfl))) ?_
    refine oEnd ?_
    refine oSeq ?_
    refine oSeq ?_
    refine oRegion rfl ?_
    refine oOp (.d (.int .i64 score)) (by kernel_rfl) (by kernel_rfl) (PureV.does (p_move (by kernel_rfl))) ?_
    refine oOp (.d (.bool (decide (score ≥ 0)))) (by kernel_rfl) (by kernel_rfl) (PureV.does (p_int (k := .i64) (p := score) (q := 0) (by kernel_rfl) (by kernel_rfl) (by kernel_rfl))) ?_
    refine oOp (.d (.bool (decide (score ≥ 0)))) (by kernel_rfl) (by kernel_rfl) (PureV.does (p_move (by kernel_rfl))) ?_
    refine bMeetF (H' := [.box [.d (.lit (List.map e_i64 d0))], .box [.d (.int .i64 0), .d (.int .i64 0)]]) 6 rfl ((fun (x1 : Bool) => [(1, .d (.int .i64 score)), (2, .ptr 0 0), (4, .ptr 1 0), (7, .d (.int .i64 r112)), (8, .d (.int .i64 r112)), (27, .d (.bool x1))])) (fun x1 => ?_) (fun F hj2 => ?_)
    · refine oView (T' := [(1, .d (.int .i64 score)), (2, .ptr 0 0), (4, .ptr 1 0), (7, .d (.int .i64 r112)), (8, .d (.int .i64 r112)), (27, .d (.bool x1))]) (H' := [.box [.d (.lit (List.map e_i64 d0))], .box [.d (.int .i64 0), .d (.int .i64 0)]]) (by kernel_rfl) (by kernel_rfl) ?_
      refine oEnd ?_
      refine bJoin ((fun (high1 : Int) => [(2, .ptr 0 0), (4, .ptr 1 0), (7, .d (.int .i64 r112)), (8, .d (.int .i64 high1))])) ((fun (high1 : Int) => [.box [.d (.lit (List.map e_i64 d0))], .box [.d (.int .i64 0), .d (.int .i64 0)]])) (fun s => s) (fun high1 => ?_) (fun hj3 => ?_)
      · refine oView (T' := [(2, .ptr 0 0), (4, .ptr 1 0), (7, .d (.int .i64 r112)), (8, .d (.int .i64 high1))]) (H' := [.box [.d (.lit (List.map e_i64 d0))], .box [.d (.int .i64 0), .d (.int .i64 0)]]) (by kernel_rfl) (by kernel_rfl) ?_
        refine oSeq ?_
        refine oRegion rfl ?_
        refine oOp (.d (.int .i64 r112)) (by kernel_rfl) (by kernel_rfl) (PureV.does (p_move (by kernel_rfl))) ?_
        refine oOp (.d (.int .i64 high1)) (by kernel_rfl) (by kernel_rfl) (PureV.does (p_move (by kernel_rfl))) ?_
        refine oOp (.d (.int .i64 (IntKind.wrap .i64 (r112 + high1)))) (by kernel_rfl) (by kernel_rfl) (PureV.does (p_int (k := .i64) (p := r112) (q := high1) (by kernel_rfl) (by kernel_rfl) (by kernel_rfl))) ?_
        refine oOp (.agg [.d (.lit (List.map e_i64 d0))]) (by kernel_rfl) (by kernel_rfl) (Quiet.does (k_loadAgg 0 0 (by kernel_rfl) Try.underlying26 (by kernel_rfl) ty26 (by kernel_rfl))) ?_
        refine bCall (caps := []) (v := (fun (r113 : Int) => (.d (.int .i64 r113) : V))) (H' := (fun (r113 : Int) => ([.box [.d (.lit (List.map e_i64 d0))], .box [.d (.int .i64 0), .d (.int .i64 0)]] : List Blk))) [] _ (distribution_Count_goes k d0) (by kernel_rfl) (by kernel_rfl) rfl (by kernel_rfl) Try.func15 rfl (by kernel_rfl) (ConvRs.refl _ _) (by kernel_rfl) (by kernel_rfl) (by kernel_rfl) (by decide) (by kernel_rfl) (by kernel_rfl) (fun _ => (by kernel_rfl)) (fun _ => (by kernel_rfl)) (fun _ => (by kernel_rfl)) (fun r113 => ?_)
        refine oOp (.d (.int .i64 (IntKind.wrap .i64 (2 * r113)))) (by kernel_rfl) (by kernel_rfl) (PureV.does (p_int (k := .i64) (p := 2) (q := r113) (by kernel_rfl) (by kernel_rfl) (by kernel_rfl))) ?_
        refine bCall (caps := []) (v := (uc fun (r131 : Int) => (uc fun (r161 : Int) => (fun (r171 : Int) => (.tuple [.agg [.d (.int .i64 r131), .d (.int .i64 r161)], .d (.int .i64 r171)] : V))))) (H' := (uc fun (r131 : Int) => (uc fun (r161 : Int) => (fun (r171 : Int) => ([.box [.d (.lit (List.map e_i64 d0))], .box [.d (.int .i64 0), .d (.int .i64 0)]] : List Blk))))) [] _ (ratio_New_goes k (IntKind.wrap .i64 (r112 + high1)) (IntKind.wrap .i64 (2 * r113))) (by kernel_rfl) (by kernel_rfl) rfl (by kernel_rfl) Try.func45 rfl (by kernel_rfl) (ConvRs.refl _ _) (by kernel_rfl) (by kernel_rfl) (by kernel_rfl) (by decide) (by kernel_rfl) (by kernel_rfl) (fun _ => (by kernel_rfl)) (fun _ => (by kernel_rfl)) (fun _ => (by kernel_rfl)) (fun r => ?_)
        obtain ⟨r131, r161, r171⟩ := r
        refine bUc ?_
        refine bUc ?_
        refine oOp (.agg [.d (.int .i64 r131), .d (.int .i64 r161)]) (by kernel_rfl) (by kernel_rfl) (PureV.does (k_extract (by kernel_rfl))) ?_
        refine oOp (.d (.int .i64 r171)) (by kernel_rfl) (by kernel_rfl) (PureV.does (k_extract (by kernel_rfl))) ?_
        refine oOp (.undef) (by kernel_rfl) (by kernel_rfl) (k_store (vs := [.d (.int .i64 r131), .d (.int .i64 r161)]) (H' := [.box [.d (.lit (List.map e_i64 d0))], .box [.d (.int .i64 r131), .d (.int .i64 r161)]]) 1 0 (by kernel_rfl) ty31 (by kernel_rfl) (by kernel_rfl) (by kernel_rfl)) ?_
        refine oOp (.d (.int .i64 r171)) (by kernel_rfl) (by kernel_rfl) (PureV.does (p_assign (by kernel_rfl))) ?_
        refine oEnd ?_
        exact oRet (r0 := (r131, r161, r171)) (rv := .tuple [.agg [.d (.int .i64 r131), .d (.int .i64 r161)], .d (.int .i64 r171)]) (B := []) (vs := [.agg [.d (.int .i64 r131), .d (.int .i64 r161)], .d (.int .i64 r171)]) (σ := []) (by kernel_rfl) Try.func23 rfl (.cons _ _ _ _ (.agg 4 31 1 0 [.d (.int .i64 r131), .d (.int .i64 r161)] [.d (.int .i64 r131), .d (.int .i64 r161)] _ _ _ _ (by kernel_rfl) (by kernel_rfl) Try.underlying31 (by kernel_rfl) ty31 (by kernel_rfl) (by kernel_rfl)) (.cons _ _ _ _ (.tmp 5 _ (by kernel_rfl)) .nil)) (by kernel_rfl) (by kernel_rfl) (by kernel_rfl) (by kernel_rfl) (by decide) (by kernel_rfl) (by kernel_rfl)
      · refine bSplit 27 (by kernel_rfl) (fun hc => ?_) (fun hc => ?_)
        · refine oCondT (by kernel_rfl) ?_
          refine oRegion rfl ?_
          refine oOp (.d (.int .i64 r112)) (by kernel_rfl) (by kernel_rfl) (PureV.does (p_move (by kernel_rfl))) ?_
          refine oOp (.ptr 0 0) (by kernel_rfl) (by kernel_rfl) (PureV.does (k_fieldAddr 0 0 (by kernel_rfl) Try.underlying26 rfl ty22 (by kernel_rfl))) ?_
          refine oOp (.d (.lit (List.map e_i64 d0))) (by kernel_rfl) (by kernel_rfl) (Quiet.does (k_load 0 0 (by kernel_rfl) Try.underlying22 (by kernel_rfl) (by kernel_rfl))) ?_
          refine oOp (.d (.int .i64 score)) (by kernel_rfl) (by kernel_rfl) (PureV.does (p_move (by kernel_rfl))) ?_
          refine bIdx (fun e12 h14 h15 => ?_)
          refine oOp (.lptr (e_i64 e12) 0) (by kernel_rfl) (by kernel_rfl) (PureV.does (k_idxLit e_i64_len d0 (a := e12) (by kernel_rfl) (k := .i64) (i := score) (by kernel_rfl) Try.underlying22 ty3 h14 h15)) ?_
          refine oOp (.d (.int .i64 e12)) (by kernel_rfl) (by kernel_rfl) (Quiet.does (k_loadL (cells := e_i64 e12) 0 (by kernel_rfl) Try.underlying3 (by kernel_rfl) (by kernel_rfl))) ?_
          refine oOp (.d (.int .i64 (IntKind.wrap .i64 (r112 + e12)))) (by kernel_rfl) (by kernel_rfl) (PureV.does (p_int (k := .i64) (p := r112) (q := e12) (by kernel_rfl) (by kernel_rfl) (by kernel_rfl))) ?_
          refine oOp (.d (.int .i64 (IntKind.wrap .i64 (r112 + e12)))) (by kernel_rfl) (by kernel_rfl) (PureV.does (p_assign (by kernel_rfl))) ?_
          refine oEnd ?_
          refine oHead [2, 4, 7, 8] [0, 1] (T' := [(2, .ptr 0 0), (4, .ptr 1 0), (7, .d (.int .i64 r112)), (8, .d (.int .i64 (IntKind.wrap .i64 (r112 + e12))))]) (H' := [.box [.d (.lit (List.map e_i64 d0))], .box [.d (.int .i64 0), .d (.int .i64 0)]]) (by kernel_rfl) (by kernel_rfl) (by kernel_rfl) (by kernel_rfl) (by decide) (by kernel_rfl) (by kernel_rfl) ?_
          exact hj3 (IntKind.wrap .i64 (r112 + e12))
        · refine oCondF (by kernel_rfl) ?_
          refine oSkip ?_
          refine oHead [2, 4, 7, 8] [0, 1] (T' := [(2, .ptr 0 0), (4, .ptr 1 0), (7, .d (.int .i64 r112)), (8, .d (.int .i64 r112))]) (H' := [.box [.d (.lit (List.map e_i64 d0))], .box [.d (.int .i64 0), .d (.int .i64 0)]]) (by kernel_rfl) (by kernel_rfl) (by kernel_rfl) (by kernel_rfl) (by decide) (by kernel_rfl) (by kernel_rfl) ?_
          exact hj3 r112
    · refine bPickF 21 (fun c => F (c && (decide (score < ((List.length d0) : Int))))) (by kernel_rfl) (fun hc => ?_) (fun hc => ?_)
      · refine oOp (.d (.int .i64 score)) (by kernel_rfl) (by kernel_rfl) (PureV.does (p_move (by kernel_rfl))) ?_
        refine oOp (.ptr 0 0) (by kernel_rfl) (by kernel_rfl) (PureV.does (k_fieldAddr 0 0 (by kernel_rfl) Try.underlying26 rfl ty22 (by kernel_rfl))) ?_
        refine oOp (.d (.lit (List.map e_i64 d0))) (by kernel_rfl) (by kernel_rfl) (Quiet.does (k_load 0 0 (by kernel_rfl) Try.underlying22 (by kernel_rfl) (by kernel_rfl))) ?_
        refine oOp (.d (.int .i64 ((List.length d0) : Int))) (by kernel_rfl) (by kernel_rfl) (PureV.does (k_lenLit (enc := e_i64) d0 (by kernel_rfl) Try.underlying22)) ?_
        refine oOp (.d (.bool (decide (score < ((List.length d0) : Int))))) (by kernel_rfl) (by kernel_rfl) (PureV.does (p_int (k := .i64) (p := score) (q := ((List.length d0) : Int)) (by kernel_rfl) (by kernel_rfl) (by kernel_rfl))) ?_
        refine oOp (.d (.bool (decide (score < ((List.length d0) : Int))))) (by kernel_rfl) (by kernel_rfl) (PureV.does (p_pick (b := true) (by kernel_rfl) (by kernel_rfl))) ?_
        refine oHead [1, 2, 4, 7, 8, 27] [0, 1] (T' := [(1, .d (.int .i64 score)), (2, .ptr 0 0), (4, .ptr 1 0), (7, .d (.int .i64 r112)), (8, .d (.int .i64 r112)), (27, .d (.bool (decide (score < ((List.length d0) : Int)))))]) (H' := [.box [.d (.lit (List.map e_i64 d0))], .box [.d (.int .i64 0), .d (.int .i64 0)]]) (by kernel_rfl) (by kernel_rfl) (by kernel_rfl) (by kernel_rfl) (by decide) (by kernel_rfl) (by kernel_rfl) ?_
        exact hj2 (decide (score < ((List.length d0) : Int)))
      · refine oNot (by kernel_rfl) (by kernel_rfl) ?_
        refine oNot (by kernel_rfl) (by kernel_rfl) ?_
        refine oNot (by kernel_rfl) (by kernel_rfl) ?_
        refine oNot (by kernel_rfl) (by kernel_rfl) ?_
        refine oNot (by kernel_rfl) (by kernel_rfl) ?_
        refine oOp (.d (.bool false)) (by kernel_rfl) (by kernel_rfl) (PureV.does (p_pick (b := false) (by kernel_rfl) (by kernel_rfl))) ?_
        refine oHead [1, 2, 4, 7, 8, 27] [0, 1] (T' := [(1, .d (.int .i64 score)), (2, .ptr 0 0), (4, .ptr 1 0), (7, .d (.int .i64 r112)), (8, .d (.int .i64 r112)), (27, .d (.bool false))]) (H' := [.box [.d (.lit (List.map e_i64 d0))], .box [.d (.int .i64 0), .d (.int .i64 0)]]) (by kernel_rfl) (by kernel_rfl) (by kernel_rfl) (by kernel_rfl) (by decide) (by kernel_rfl) (by kernel_rfl) ?_
        exact hj2 false

/-- awardingbody/ratio.Valid -/
def ratio_Valid (k : Nat) (a0 : Int) (a1 : Int) : Option (Bool) := blet ((decide (a1 ≥ 1)) && (decide (a1 ≤ 1152921504606846976))) fun x12 => blet (x12 && (decide (a0 ≥ (-1152921504606846976)))) fun x13 => blet (x13 && (decide (a0 ≤ 1152921504606846976))) fun x14 => Option.bind (bif x14 then Option.bind (ratio_abs k a0) (fun r1 => Option.bind (ratio_gcd k r1 (IntKind.wrap .u64 a1)) (fun r11 => some (r11 == 1))) else some false : Option Bool) (fun x15 => some x15)
def ratio_Valid_E (a0 : Int) (a1 : Int) : Bool → V × List Blk := fun r12 => (.d (.bool r12), [])
theorem ratio_Valid_goes (k : Nat) (a0 : Int) (a1 : Int) : RunsO Try.prog 43 [.agg [.d (.int .i64 a0), .d (.int .i64 a1)]] [] (ratio_Valid_E a0 a1) (ratio_Valid k a0 a1) := by
  refine RunsO.of_goes (N := 31) (m := 0) (T := [(0, .agg [.d (.int .i64 a0), .d (.int .i64 a1)])]) Try.func43 rfl rfl (by kernel_rfl) (by kernel_rfl) (by kernel_rfl) ?_
  unfold ratio_Valid
  refine bStart ?_
  refine oSeq ?_
  refine oRegion rfl ?_
  refine oOp (.ptr 0 0) (by kernel_rfl) (by kernel_rfl) (k_box (H' := [.box [.d (.int .i64 a0), .d (.int .i64 a1)]]) (cells := [.d (.int .i64 a0), .d (.int .i64 a1)]) (by kernel_rfl) (by kernel_rfl) (by kernel_rfl)) ?_
  refine oOp (.d (.bool false)) (by kernel_rfl) (by kernel_rfl) (PureV.does (p_assign (by kernel_rfl))) ?_
  refine oEnd ?_
  refine oSeq ?_
  refine oDraw [(0, 29)] rfl ?_
  refine aTakeL (i := 0) (st' := []) (.ptr 0 1) rfl (by kernel_rfl) (by kernel_rfl) (by kernel_rfl) (by kernel_rfl) (by kernel_rfl) (by kernel_rfl) (by kernel_rfl) (PureV.quiet (k_fieldAddr 0 0 (by kernel_rfl) Try.underlying31 rfl ty3 (by kernel_rfl)) []) ?_
  refine aTakeL (i := 1) (st' := [0]) (.d (.int .i64 a1)) rfl (by kernel_rfl) (by kernel_rfl) (by kernel_rfl) (by kernel_rfl) (by kernel_rfl) (by kernel_rfl) (by kernel_rfl) (k_load 0 1 (by kernel_rfl) Try.underlying3 (by kernel_rfl) (by kernel_rfl)) ?_
  refine aTakeL (i := 2) (st' := []) (.d (.bool (decide (a1 ≥ 1)))) rfl (by kernel_rfl) (by kernel_rfl) (by kernel_rfl) (by kernel_rfl) (by kernel_rfl) (by kernel_rfl) (by kernel_rfl) (PureV.quiet (p_int (k := .i64) (p := a1) (q := 1) (by kernel_rfl) (by kernel_rfl) (by kernel_rfl)) []) ?_
  refine aTakeL (i := 3) (st' := []) (.d (.bool (decide (a1 ≥ 1)))) rfl (by kernel_rfl) (by kernel_rfl) (by kernel_rfl) (by kernel_rfl) (by kernel_rfl) (by kernel_rfl) (by kernel_rfl) (PureV.quiet (p_move (by kernel_rfl)) []) ?_
  refine dMeetF [7, 6, 5, 4, 3, 2, 1, 0] (fun (x12 : Bool) => [(1, .ptr 0 0), (10, .d (.bool x12))]) (fun (x12 : Bool) => [(1, .ptr 0 0), (10, .d (.bool x12))]) (H' := [.box [.d (.int .i64 a0), .d (.int .i64 a1)]]) (fun x12 => ?_) (fun F hj5 => ?_)
  · refine aTakeL (i := 8) (st' := []) (.d (.bool x12)) rfl (by kernel_rfl) (by kernel_rfl) (by kernel_rfl) (by kernel_rfl) (by kernel_rfl) (by kernel_rfl) (by kernel_rfl) (PureV.quiet (p_move (by kernel_rfl)) []) ?_
    refine dMeetF [12, 11, 10, 9, 8, 7, 6, 5, 4, 3, 2, 1, 0] (fun (x13 : Bool) => [(1, .ptr 0 0), (15, .d (.bool x13))]) (fun (x13 : Bool) => [(1, .ptr 0 0), (15, .d (.bool x13))]) (H' := [.box [.d (.int .i64 a0), .d (.int .i64 a1)]]) (fun x13 => ?_) (fun F hj6 => ?_)
    · refine aTakeL (i := 13) (st' := []) (.d (.bool x13)) rfl (by kernel_rfl) (by kernel_rfl) (by kernel_rfl) (by kernel_rfl) (by kernel_rfl) (by kernel_rfl) (by kernel_rfl) (PureV.quiet (p_move (by kernel_rfl)) []) ?_
      refine dMeetF [17, 16, 15, 14, 13, 12, 11, 10, 9, 8, 7, 6, 5, 4, 3, 2, 1, 0] (fun (x14 : Bool) => [(1, .ptr 0 0), (20, .d (.bool x14))]) (fun (x14 : Bool) => [(1, .ptr 0 0), (20, .d (.bool x14))]) (H' := [.box [.d (.int .i64 a0), .d (.int .i64 a1)]]) (fun x14 => ?_) (fun F hj7 => ?_)
      · refine aTakeL (i := 18) (st' := []) (.d (.bool x14)) rfl (by kernel_rfl) (by kernel_rfl) (by kernel_rfl) (by kernel_rfl) (by kernel_rfl) (by kernel_rfl) (by kernel_rfl) (PureV.quiet (p_move (by kernel_rfl)) []) ?_
        refine dMeet [27, 26, 25, 21, 24, 23, 22, 20, 19, 18, 17, 16, 15, 14, 13, 12, 11, 10, 9, 8, 7, 6, 5, 4, 3, 2, 1, 0] (fun (x15 : Bool) => [(30, .d (.bool x15))]) (fun (x15 : Bool) => [(30, .d (.bool x15))]) (fun _ => [.box [.d (.int .i64 a0), .d (.int .i64 a1)]]) (fun s => s) (fun x15 => ?_) (fun hj8 => ?_)
        · refine aTakeL (i := 28) (st' := []) (.d (.bool x15)) rfl (by kernel_rfl) (by kernel_rfl) (by kernel_rfl) (by kernel_rfl) (by kernel_rfl) (by kernel_rfl) (by kernel_rfl) (PureV.quiet (p_assign (by kernel_rfl)) []) ?_
          refine aDone (by kernel_rfl) ?_
          exact oRet (r0 := x15) (rv := .d (.bool x15)) (B := []) (vs := [.d (.bool x15)]) (σ := []) (by kernel_rfl) Try.func43 rfl (.cons _ _ _ _ (.tmp 2 _ (by kernel_rfl)) .nil) (by kernel_rfl) (by kernel_rfl) (by kernel_rfl) (by kernel_rfl) (by decide) (by kernel_rfl) (by kernel_rfl)
        · refine dSplit 21 (by kernel_rfl) (by kernel_rfl) (fun hc => ?_) (fun hc => ?_)
          · refine aTakeL (i := 19) (st' := []) (.ptr 0 0) rfl (by kernel_rfl) (by kernel_rfl) (by kernel_rfl) (by kernel_rfl) (by kernel_rfl) (by kernel_rfl) (by kernel_rfl) (PureV.quiet (k_fieldAddr 0 0 (by kernel_rfl) Try.underlying31 rfl ty3 (by kernel_rfl)) []) ?_
            refine aTakeL (i := 20) (st' := [0]) (.d (.int .i64 a0)) rfl (by kernel_rfl) (by kernel_rfl) (by kernel_rfl) (by kernel_rfl) (by kernel_rfl) (by kernel_rfl) (by kernel_rfl) (k_load 0 0 (by kernel_rfl) Try.underlying3 (by kernel_rfl) (by kernel_rfl)) ?_
            refine aTakeL (i := 22) (st' := []) (.ptr 0 1) rfl (by kernel_rfl) (by kernel_rfl) (by kernel_rfl) (by kernel_rfl) (by kernel_rfl) (by kernel_rfl) (by kernel_rfl) (PureV.quiet (k_fieldAddr 0 0 (by kernel_rfl) Try.underlying31 rfl ty3 (by kernel_rfl)) []) ?_
            refine aTakeL (i := 23) (st' := [0]) (.d (.int .i64 a1)) rfl (by kernel_rfl) (by kernel_rfl) (by kernel_rfl) (by kernel_rfl) (by kernel_rfl) (by kernel_rfl) (by kernel_rfl) (k_load 0 1 (by kernel_rfl) Try.underlying3 (by kernel_rfl) (by kernel_rfl)) ?_
            refine aTakeL (i := 24) (st' := []) (.d (.int .u64 (IntKind.wrap .u64 a1))) rfl (by kernel_rfl) (by kernel_rfl) (by kernel_rfl) (by kernel_rfl) (by kernel_rfl) (by kernel_rfl) (by kernel_rfl) (PureV.quiet (p_conv (k := .i64) (p := a1) (by kernel_rfl) Try.underlying3 Try.underlying61 (by kernel_rfl)) []) ?_
            refine dCall (i := 21) (caps := []) (v := (fun (r1 : Int) => (.d (.int .u64 r1) : V))) (H' := (fun (r1 : Int) => ([.box [.d (.int .i64 a0), .d (.int .i64 a1)]] : List Blk))) [] _ (ratio_abs_goes k a0) rfl (by kernel_rfl) (by kernel_rfl) (by kernel_rfl) (by kernel_rfl) (by kernel_rfl) (by kernel_rfl) (by kernel_rfl) (by kernel_rfl) rfl (by kernel_rfl) Try.func62 rfl (by kernel_rfl) (ConvRs.refl _ _) (by kernel_rfl) (by kernel_rfl) (by kernel_rfl) (by decide) (by kernel_rfl) (by kernel_rfl) (fun _ => (by kernel_rfl)) (fun _ => (by kernel_rfl)) (fun _ => (by kernel_rfl)) (fun r1 => ?_)
            refine dCall (i := 25) (caps := []) (v := (fun (r11 : Int) => (.d (.int .u64 r11) : V))) (H' := (fun (r11 : Int) => ([.box [.d (.int .i64 a0), .d (.int .i64 a1)]] : List Blk))) [] _ (ratio_gcd_goes k r1 (IntKind.wrap .u64 a1)) rfl (by kernel_rfl) (by kernel_rfl) (by kernel_rfl) (by kernel_rfl) (by kernel_rfl) (by kernel_rfl) (by kernel_rfl) (by kernel_rfl) rfl (by kernel_rfl) Try.func61 rfl (by kernel_rfl) (ConvRs.refl _ _) (by kernel_rfl) (by kernel_rfl) (by kernel_rfl) (by decide) (by kernel_rfl) (by kernel_rfl) (fun _ => (by kernel_rfl)) (fun _ => (by kernel_rfl)) (fun _ => (by kernel_rfl)) (fun r11 => ?_)
            refine aTakeL (i := 26) (st' := []) (.d (.bool (r11 == 1))) rfl (by kernel_rfl) (by kernel_rfl) (by kernel_rfl) (by kernel_rfl) (by kernel_rfl) (by kernel_rfl) (by kernel_rfl) (PureV.quiet (p_int (k := .u64) (p := r11) (q := 1) (by kernel_rfl) (by kernel_rfl) (by kernel_rfl)) []) ?_
            refine aTakeL (i := 27) (st' := []) (.d (.bool (r11 == 1))) rfl (by kernel_rfl) (by kernel_rfl) (by kernel_rfl) (by kernel_rfl) (by kernel_rfl) (by kernel_rfl) (by kernel_rfl) (PureV.quiet (p_pick (b := true) (by kernel_rfl) (by kernel_rfl)) []) ?_
            refine dDrop [30] [30] (T' := [(30, .d (.bool (r11 == 1)))]) (U' := [(30, .d (.bool (r11 == 1)))]) (by kernel_rfl) (by kernel_rfl) ?_
            exact hj8 (r11 == 1)
          · refine aTakeNot (i := 19) rfl (by kernel_rfl) (by kernel_rfl) (by kernel_rfl) (by kernel_rfl) (by kernel_rfl) (by kernel_rfl) (by kernel_rfl) ?_
            refine aTakeNot (i := 20) rfl (by kernel_rfl) (by kernel_rfl) (by kernel_rfl) (by kernel_rfl) (by kernel_rfl) (by kernel_rfl) (by kernel_rfl) ?_
            refine aTakeNot (i := 21) rfl (by kernel_rfl) (by kernel_rfl) (by kernel_rfl) (by kernel_rfl) (by kernel_rfl) (by kernel_rfl) (by kernel_rfl) ?_
            refine aTakeNot (i := 22) rfl (by kernel_rfl) (by kernel_rfl) (by kernel_rfl) (by kernel_rfl) (by kernel_rfl) (by kernel_rfl) (by kernel_rfl) ?_
            refine aTakeNot (i := 23) rfl (by kernel_rfl) (by kernel_rfl) (by kernel_rfl) (by kernel_rfl) (by kernel_rfl) (by kernel_rfl) (by kernel_rfl) ?_
            refine aTakeNot (i := 24) rfl (by kernel_rfl) (by kernel_rfl) (by kernel_rfl) (by kernel_rfl) (by kernel_rfl) (by kernel_rfl) (by kernel_rfl) ?_
            refine aTakeNot (i := 25) rfl (by kernel_rfl) (by kernel_rfl) (by kernel_rfl) (by kernel_rfl) (by kernel_rfl) (by kernel_rfl) (by kernel_rfl) ?_
            refine aTakeNot (i := 26) rfl (by kernel_rfl) (by kernel_rfl) (by kernel_rfl) (by kernel_rfl) (by kernel_rfl) (by kernel_rfl) (by kernel_rfl) ?_
            refine aTakeL (i := 27) (st' := []) (.d (.bool false)) rfl (by kernel_rfl) (by kernel_rfl) (by kernel_rfl) (by kernel_rfl) (by kernel_rfl) (by kernel_rfl) (by kernel_rfl) (PureV.quiet (p_pick (b := false) (by kernel_rfl) (by kernel_rfl)) []) ?_
            refine dDrop [30] [30] (T' := [(30, .d (.bool false))]) (U' := [(30, .d (.bool false))]) (by kernel_rfl) (by kernel_rfl) ?_
            refine dLv [27, 26, 25, 21, 24, 23, 22, 20, 19, 18, 17, 16, 15, 14, 13, 12, 11, 10, 9, 8, 7, 6, 5, 4, 3, 2, 1, 0] (by kernel_rfl) ?_
            exact hj8 false
      · refine dPickF 16 (fun c => F (c && (decide (a0 ≤ 1152921504606846976)))) (by kernel_rfl) (by kernel_rfl) (fun hc => ?_) (fun hc => ?_)
        · refine aTakeL (i := 14) (st' := []) (.ptr 0 0) rfl (by kernel_rfl) (by kernel_rfl) (by kernel_rfl) (by kernel_rfl) (by kernel_rfl) (by kernel_rfl) (by kernel_rfl) (PureV.quiet (k_fieldAddr 0 0 (by kernel_rfl) Try.underlying31 rfl ty3 (by kernel_rfl)) []) ?_
          refine aTakeL (i := 15) (st' := [0]) (.d (.int .i64 a0)) rfl (by kernel_rfl) (by kernel_rfl) (by kernel_rfl) (by kernel_rfl) (by kernel_rfl) (by kernel_rfl) (by kernel_rfl) (k_load 0 0 (by kernel_rfl) Try.underlying3 (by kernel_rfl) (by kernel_rfl)) ?_
          refine aTakeL (i := 16) (st' := []) (.d (.bool (decide (a0 ≤ 1152921504606846976)))) rfl (by kernel_rfl) (by kernel_rfl) (by kernel_rfl) (by kernel_rfl) (by kernel_rfl) (by kernel_rfl) (by kernel_rfl) (PureV.quiet (p_int (k := .i64) (p := a0) (q := 1152921504606846976) (by kernel_rfl) (by kernel_rfl) (by kernel_rfl)) []) ?_
          refine aTakeL (i := 17) (st' := []) (.d (.bool (decide (a0 ≤ 1152921504606846976)))) rfl (by kernel_rfl) (by kernel_rfl) (by kernel_rfl) (by kernel_rfl) (by kernel_rfl) (by kernel_rfl) (by kernel_rfl) (PureV.quiet (p_pick (b := true) (by kernel_rfl) (by kernel_rfl)) []) ?_
          refine dDrop [1, 20] [1, 20] (T' := [(1, .ptr 0 0), (20, .d (.bool (decide (a0 ≤ 1152921504606846976))))]) (U' := [(1, .ptr 0 0), (20, .d (.bool (decide (a0 ≤ 1152921504606846976))))]) (by kernel_rfl) (by kernel_rfl) ?_
          exact hj7 (decide (a0 ≤ 1152921504606846976))
        · refine aTakeNot (i := 14) rfl (by kernel_rfl) (by kernel_rfl) (by kernel_rfl) (by kernel_rfl) (by kernel_rfl) (by kernel_rfl) (by kernel_rfl) ?_
          refine aTakeNot (i := 15) rfl (by kernel_rfl) (by kernel_rfl) (by kernel_rfl) (by kernel_rfl) (by kernel_rfl) (by kernel_rfl) (by kernel_rfl) ?_
          refine aTakeNot (i := 16) rfl (by kernel_rfl) (by kernel_rfl) (by kernel_rfl) (by kernel_rfl) (by kernel_rfl) (by kernel_rfl) (by kernel_rfl) ?_
          refine aTakeL (i := 17) (st' := []) (.d (.bool false)) rfl (by kernel_rfl) (by kernel_rfl) (by kernel_rfl) (by kernel_rfl) (by kernel_rfl) (by kernel_rfl) (by kernel_rfl) (PureV.quiet (p_pick (b := false) (by kernel_rfl) (by kernel_rfl)) []) ?_
          refine dDrop [1, 20] [1, 20] (T' := [(1, .ptr 0 0), (20, .d (.bool false))]) (U' := [(1, .ptr 0 0), (20, .d (.bool false))]) (by kernel_rfl) (by kernel_rfl) ?_
          exact hj7 false
    · refine dPickF 11 (fun c => F (c && (decide (a0 ≥ (-1152921504606846976))))) (by kernel_rfl) (by kernel_rfl) (fun hc => ?_) (fun hc => ?_)
      · refine aTakeL (i := 9) (st' := []) (.ptr 0 0) rfl (by kernel_rfl) (by kernel_rfl) (by kernel_rfl) (by kernel_rfl) (by kernel_rfl) (by kernel_rfl) (by kernel_rfl) (PureV.quiet (k_fieldAddr 0 0 (by kernel_rfl) Try.underlying31 rfl ty3 (by kernel_rfl)) []) ?_
        refine aTakeL (i := 10) (st' := [0]) (.d (.int .i64 a0)) rfl (by kernel_rfl) (by kernel_rfl) (by kernel_rfl) (by kernel_rfl) (by kernel_rfl) (by kernel_rfl) (by kernel_rfl) (k_load 0 0 (by kernel_rfl) Try.underlying3 (by kernel_rfl) (by kernel_rfl)) ?_
        refine aTakeL (i := 11) (st' := []) (.d (.bool (decide (a0 ≥ (-1152921504606846976))))) rfl (by kernel_rfl) (by kernel_rfl) (by kernel_rfl) (by kernel_rfl) (by kernel_rfl) (by kernel_rfl) (by kernel_rfl) (PureV.quiet (p_int (k := .i64) (p := a0) (q := (-1152921504606846976)) (by kernel_rfl) (by kernel_rfl) (by kernel_rfl)) []) ?_
        refine aTakeL (i := 12) (st' := []) (.d (.bool (decide (a0 ≥ (-1152921504606846976))))) rfl (by kernel_rfl) (by kernel_rfl) (by kernel_rfl) (by kernel_rfl) (by kernel_rfl) (by kernel_rfl) (by kernel_rfl) (PureV.quiet (p_pick (b := true) (by kernel_rfl) (by kernel_rfl)) []) ?_
        refine dDrop [1, 15] [1, 15] (T' := [(1, .ptr 0 0), (15, .d (.bool (decide (a0 ≥ (-1152921504606846976)))))]) (U' := [(1, .ptr 0 0), (15, .d (.bool (decide (a0 ≥ (-1152921504606846976)))))]) (by kernel_rfl) (by kernel_rfl) ?_
        exact hj6 (decide (a0 ≥ (-1152921504606846976)))
      · refine aTakeNot (i := 9) rfl (by kernel_rfl) (by kernel_rfl) (by kernel_rfl) (by kernel_rfl) (by kernel_rfl) (by kernel_rfl) (by kernel_rfl) ?_
        refine aTakeNot (i := 10) rfl (by kernel_rfl) (by kernel_rfl) (by kernel_rfl) (by kernel_rfl) (by kernel_rfl) (by kernel_rfl) (by kernel_rfl) ?_
        refine aTakeNot (i := 11) rfl (by kernel_rfl) (by kernel_rfl) (by kernel_rfl) (by kernel_rfl) (by kernel_rfl) (by kernel_rfl) (by kernel_rfl) ?_
        refine aTakeL (i := 12) (st' := []) (.d (.bool false)) rfl (by kernel_rfl) (by kernel_rfl) (by kernel_rfl) (by kernel_rfl) (by kernel_rfl) (by kernel_rfl) (by kernel_rfl) (PureV.quiet (p_pick (b := false) (by kernel_rfl) (by kernel_rfl)) []) ?_
        refine dDrop [1, 15] [1, 15] (T' := [(1, .ptr 0 0), (15, .d (.bool false))]) (U' := [(1, .ptr 0 0), (15, .d (.bool false))]) (by kernel_rfl) (by kernel_rfl) ?_
        exact hj6 false
  · refine dPickF 6 (fun c => F (c && (decide (a1 ≤ 1152921504606846976)))) (by kernel_rfl) (by kernel_rfl) (fun hc => ?_) (fun hc => ?_)
    · refine aTakeL (i := 4) (st' := []) (.ptr 0 1) rfl (by kernel_rfl) (by kernel_rfl) (by kernel_rfl) (by kernel_rfl) (by kernel_rfl) (by kernel_rfl) (by kernel_rfl) (PureV.quiet (k_fieldAddr 0 0 (by kernel_rfl) Try.underlying31 rfl ty3 (by kernel_rfl)) []) ?_
      refine aTakeL (i := 5) (st' := [0]) (.d (.int .i64 a1)) rfl (by kernel_rfl) (by kernel_rfl) (by kernel_rfl) (by kernel_rfl) (by kernel_rfl) (by kernel_rfl) (by kernel_rfl) (k_load 0 1 (by kernel_rfl) Try.underlying3 (by kernel_rfl) (by kernel_rfl)) ?_
      refine aTakeL (i := 6) (st' := []) (.d (.bool (decide (a1 ≤ 1152921504606846976)))) rfl (by kernel_rfl) (by kernel_rfl) (by kernel_rfl) (by kernel_rfl) (by kernel_rfl) (by kernel_rfl) (by kernel_rfl) (PureV.quiet (p_int (k := .i64) (p := a1) (q := 1152921504606846976) (by kernel_rfl) (by kernel_rfl) (by kernel_rfl)) []) ?_
      refine aTakeL (i := 7) (st' := []) (.d (.bool (decide (a1 ≤ 1152921504606846976)))) rfl (by kernel_rfl) (by kernel_rfl) (by kernel_rfl) (by kernel_rfl) (by kernel_rfl) (by kernel_rfl) (by kernel_rfl) (PureV.quiet (p_pick (b := true) (by kernel_rfl) (by kernel_rfl)) []) ?_
      refine dDrop [1, 10] [1, 10] (T' := [(1, .ptr 0 0), (10, .d (.bool (decide (a1 ≤ 1152921504606846976))))]) (U' := [(1, .ptr 0 0), (10, .d (.bool (decide (a1 ≤ 1152921504606846976))))]) (by kernel_rfl) (by kernel_rfl) ?_
      exact hj5 (decide (a1 ≤ 1152921504606846976))
    · refine aTakeNot (i := 4) rfl (by kernel_rfl) (by kernel_rfl) (by kernel_rfl) (by kernel_rfl) (by kernel_rfl) (by kernel_rfl) (by kernel_rfl) ?_
      refine aTakeNot (i := 5) rfl (by kernel_rfl) (by kernel_rfl) (by kernel_rfl) (by kernel_rfl) (by kernel_rfl) (by kernel_rfl) (by kernel_rfl) ?_
      refine aTakeNot (i := 6) rfl (by kernel_rfl) (by kernel_rfl) (by kernel_rfl) (by kernel_rfl) (by kernel_rfl) (by kernel_rfl) (by kernel_rfl) ?_
      refine aTakeL (i := 7) (st' := []) (.d (.bool false)) rfl (by kernel_rfl) (by kernel_rfl) (by kernel_rfl) (by kernel_rfl) (by kernel_rfl) (by kernel_rfl) (by kernel_rfl) (PureV.quiet (p_pick (b := false) (by kernel_rfl) (by kernel_rfl)) []) ?_
      refine dDrop [1, 10] [1, 10] (T' := [(1, .ptr 0 0), (10, .d (.bool false))]) (U' := [(1, .ptr 0 0), (10, .d (.bool false))]) (by kernel_rfl) (by kernel_rfl) ?_
      exact hj5 false

/-- math/bits.Mul64 -/
def math_bits_Mul64 (k : Nat) (x : Int) (y : Int) : Option (Int × Int) := some ((IntKind.wrap .u64 ((IntKind.wrap .u64 ((IntKind.wrap .u64 ((Int.fdiv x (2 ^ (min (Int.toNat 32) (IntKind.bits .u64)))) * (Int.fdiv y (2 ^ (min (Int.toNat 32) (IntKind.bits .u64)))))) + (Int.fdiv (IntKind.wrap .u64 ((IntKind.wrap .u64 ((Int.fdiv x (2 ^ (min (Int.toNat 32) (IntKind.bits .u64)))) * (iand .u64 y 4294967295))) + (Int.fdiv (IntKind.wrap .u64 ((iand .u64 x 4294967295) * (iand .u64 y 4294967295))) (2 ^ (min (Int.toNat 32) (IntKind.bits .u64)))))) (2 ^ (min (Int.toNat 32) (IntKind.bits .u64)))))) + (Int.fdiv (IntKind.wrap .u64 ((iand .u64 (IntKind.wrap .u64 ((IntKind.wrap .u64 ((Int.fdiv x (2 ^ (min (Int.toNat 32) (IntKind.bits .u64)))) * (iand .u64 y 4294967295))) + (Int.fdiv (IntKind.wrap .u64 ((iand .u64 x 4294967295) * (iand .u64 y 4294967295))) (2 ^ (min (Int.toNat 32) (IntKind.bits .u64)))))) 4294967295) + (IntKind.wrap .u64 ((iand .u64 x 4294967295) * (Int.fdiv y (2 ^ (min (Int.toNat 32) (IntKind.bits .u64)))))))) (2 ^ (min (Int.toNat 32) (IntKind.bits .u64)))))), (IntKind.wrap .u64 (x * y)))
def math_bits_Mul64_E (x : Int) (y : Int) : Int × Int → V × List Blk := uc fun r1 => fun r11 => (.tuple [.d (.int .u64 r1), .d (.int .u64 r11)], [])
theorem math_bits_Mul64_goes (k : Nat) (x : Int) (y : Int) : RunsO Try.prog 77 [.d (.int .u64 x), .d (.int .u64 y)] [] (math_bits_Mul64_E x y) (math_bits_Mul64 k x y) := by
  refine RunsO.of_goes (N := 51) (m := 0) (T := [(0, .d (.int .u64 x)), (1, .d (.int .u64 y))]) Try.func77 rfl rfl (by kernel_rfl) (by kernel_rfl) (by kernel_rfl) ?_
  unfold math_bits_Mul64
  refine bStart ?_
  refine oSeq ?_
  refine oRegion rfl ?_
  refine oOp (.d (.int .u64 0)) (by kernel_rfl) (by kernel_rfl) (PureV.does (p_assign (by kernel_rfl))) ?_
  refine oOp (.d (.int .u64 0)) (by kernel_rfl) (by kernel_rfl) (PureV.does (p_assign (by kernel_rfl))) ?_
  refine oEnd ?_
  refine oSeq ?_
  refine oRegion rfl ?_
  refine oOp (.d (.int .u64 x)) (by kernel_rfl) (by kernel_rfl) (PureV.does (p_move (by kernel_rfl))) ?_
  refine oOp (.d (.int .u64 (iand .u64 x 4294967295))) (by kernel_rfl) (by kernel_rfl) (PureV.does (p_int (k := .u64) (p := x) (q := 4294967295) (by kernel_rfl) (by kernel_rfl) (by kernel_rfl))) ?_
  refine oOp (.d (.int .u64 (iand .u64 x 4294967295))) (by kernel_rfl) (by kernel_rfl) (PureV.does (p_assign (by kernel_rfl))) ?_
  refine oEnd ?_
  refine oSeq ?_
  refine oRegion rfl ?_
  refine oOp (.d (.int .u64 x)) (by kernel_rfl) (by kernel_rfl) (PureV.does (p_move (by kernel_rfl))) ?_
  refine oOp (.d (.int .u64 (Int.fdiv x (2 ^ (min (Int.toNat 32) (IntKind.bits .u64)))))) (by kernel_rfl) (by kernel_rfl) (PureV.does (p_shr (k := .u64) (k2 := .u64) (p := x) (q := 32) (by kernel_rfl) (by kernel_rfl) (by decide) (by kernel_rfl))) ?_
  refine oOp (.d (.int .u64 (Int.fdiv x (2 ^ (min (Int.toNat 32) (IntKind.bits .u64)))))) (by kernel_rfl) (by kernel_rfl) (PureV.does (p_assign (by kernel_rfl))) ?_
  refine oEnd ?_
  refine oSeq ?_
  refine oRegion rfl ?_
  refine oOp (.d (.int .u64 y)) (by kernel_rfl) (by kernel_rfl) (PureV.does (p_move (by kernel_rfl))) ?_
  refine oOp (.d (.int .u64 (iand .u64 y 4294967295))) (by kernel_rfl) (by kernel_rfl) (PureV.does (p_int (k := .u64) (p := y) (q := 4294967295) (by kernel_rfl) (by kernel_rfl) (by kernel_rfl))) ?_
  refine oOp (.d (.int .u64 (iand .u64 y 4294967295))) (by kernel_rfl) (by kernel_rfl) (PureV.does (p_assign (by kernel_rfl))) ?_
  refine oEnd ?_
  refine oSeq ?_
  refine oRegion rfl ?_
  refine oOp (.d (.int .u64 y)) (by kernel_rfl) (by kernel_rfl) (PureV.does (p_move (by kernel_rfl))) ?_
  refine oOp (.d (.int .u64 (Int.fdiv y (2 ^ (min (Int.toNat 32) (IntKind.bits .u64)))))) (by kernel_rfl) (by kernel_rfl) (PureV.does (p_shr (k := .u64) (k2 := .u64) (p := y) (q := 32) (by kernel_rfl) (by kernel_rfl) (by decide) (by kernel_rfl))) ?_
  refine oOp (.d (.int .u64 (Int.fdiv y (2 ^ (min (Int.toNat 32) (IntKind.bits .u64)))))) (by kernel_rfl) (by kernel_rfl) (PureV.does (p_assign (by kernel_rfl))) ?_
  refine oEnd ?_
  refine oSeq ?_
  refine oRegion rfl ?_
  refine oOp (.d (.int .u64 (iand .u64 x 4294967295))) (by kernel_rfl) (by kernel_rfl) (PureV.does (p_move (by kernel_rfl))) ?_
  refine oOp (.d (.int .u64 (iand .u64 y 4294967295))) (by kernel_rfl) (by kernel_rfl) (PureV.does (p_move (by kernel_rfl))) ?_
  refine oOp (.d (.int .u64 (IntKind.wrap .u64 ((iand .u64 x 4294967295) * (iand .u64 y 4294967295))))) (by kernel_rfl) (by kernel_rfl) (PureV.does (p_int (k := .u64) (p := (iand .u64 x 4294967295)) (q := (iand .u64 y 4294967295)) (by kernel_rfl) (by kernel_rfl) (by kernel_rfl))) ?_
  refine oOp (.d (.int .u64 (IntKind.wrap .u64 ((iand .u64 x 4294967295) * (iand .u64 y 4294967295))))) (by kernel_rfl) (by kernel_rfl) (PureV.does (p_assign (by kernel_rfl))) ?_
  refine oEnd ?_
  refine oSeq ?_
  refine oRegion rfl ?_
  refine oOp (.d (.int .u64 (Int.fdiv x (2 ^ (min (Int.toNat 32) (IntKind.bits .u64)))))) (by kernel_rfl) (by kernel_rfl) (PureV.does (p_move (by kernel_rfl))) ?_
  refine oOp (.d (.int .u64 (iand .u64 y 4294967295))) (by kernel_rfl) (by kernel_rfl) (PureV.does (p_move (by kernel_rfl))) ?_
  refine oOp (.d (.int .u64 (IntKind.wrap .u64 ((Int.fdiv x (2 ^ (min (Int.toNat 32) (IntKind.bits .u64)))) * (iand .u64 y 4294967295))))) (by kernel_rfl) (by kernel_rfl) (PureV.does (p_int (k := .u64) (p := (Int.fdiv x (2 ^ (min (Int.toNat 32) (IntKind.bits .u64))))) (q := (iand .u64 y 4294967295)) (by kernel_rfl) (by kernel_rfl) (by kernel_rfl))) ?_
  refine oOp (.d (.int .u64 (IntKind.wrap .u64 ((iand .u64 x 4294967295) * (iand .u64 y 4294967295))))) (by kernel_rfl) (by kernel_rfl) (PureV.does (p_move (by kernel_rfl))) ?_
  refine oOp (.d (.int .u64 (Int.fdiv (IntKind.wrap .u64 ((iand .u64 x 4294967295) * (iand .u64 y 4294967295))) (2 ^ (min (Int.toNat 32) (IntKind.bits .u64)))))) (by kernel_rfl) (by kernel_rfl) (PureV.does (p_shr (k := .u64) (k2 := .u64) (p := (IntKind.wrap .u64 ((iand .u64 x 4294967295) * (iand .u64 y 4294967295)))) (q := 32) (by kernel_rfl) (by kernel_rfl) (by decide) (by kernel_rfl))) ?_
  refine oOp (.d (.int .u64 (IntKind.wrap .u64 ((IntKind.wrap .u64 ((Int.fdiv x (2 ^ (min (Int.toNat 32) (IntKind.bits .u64)))) * (iand .u64 y 4294967295))) + (Int.fdiv (IntKind.wrap .u64 ((iand .u64 x 4294967295) * (iand .u64 y 4294967295))) (2 ^ (min (Int.toNat 32) (IntKind.bits .u64)))))))) (by kernel_rfl) (by kernel_rfl) (PureV.does (p_int (k := .u64) (p := (IntKind.wrap .u64 ((Int.fdiv x (2 ^ (min (Int.toNat 32) (IntKind.bits .u64)))) * (iand .u64 y 4294967295)))) (q := (Int.fdiv (IntKind.wrap .u64 ((iand .u64 x 4294967295) * (iand .u64 y 4294967295))) (2 ^ (min (Int.toNat 32) (IntKind.bits .u64))))) (by kernel_rfl) (by kernel_rfl) (by kernel_rfl))) ?_
  refine oOp (.d (.int .u64 (IntKind.wrap .u64 ((IntKind.wrap .u64 ((Int.fdiv x (2 ^ (min (Int.toNat 32) (IntKind.bits .u64)))) * (iand .u64 y 4294967295))) + (Int.fdiv (IntKind.wrap .u64 ((iand .u64 x 4294967295) * (iand .u64 y 4294967295))) (2 ^ (min (Int.toNat 32) (IntKind.bits .u64)))))))) (by kernel_rfl) (by kernel_rfl) (PureV.does (p_assign (by kernel_rfl))) ?_
  refine oEnd ?_
  refine oSeq ?_
  refine oRegion rfl ?_
  refine oOp (.d (.int .u64 (IntKind.wrap .u64 ((IntKind.wrap .u64 ((Int.fdiv x (2 ^ (min (Int.toNat 32) (IntKind.bits .u64)))) * (iand .u64 y 4294967295))) + (Int.fdiv (IntKind.wrap .u64 ((iand .u64 x 4294967295) * (iand .u64 y 4294967295))) (2 ^ (min (Int.toNat 32) (IntKind.bits .u64)))))))) (by kernel_rfl) (by kernel_rfl) (PureV.does (p_move (by kernel_rfl))) ?_
  refine oOp (.d (.int .u64 (iand .u64 (IntKind.wrap .u64 ((IntKind.wrap .u64 ((Int.fdiv x (2 ^ (min (Int.toNat 32) (IntKind.bits .u64)))) * (iand .u64 y 4294967295))) + (Int.fdiv (IntKind.wrap .u64 ((iand .u64 x 4294967295) * (iand .u64 y 4294967295))) (2 ^ (min (Int.toNat 32) (IntKind.bits .u64)))))) 4294967295))) (by kernel_rfl) (by kernel_rfl) (PureV.does (p_int (k := .u64) (p := (IntKind.wrap .u64 ((IntKind.wrap .u64 ((Int.fdiv x (2 ^ (min (Int.toNat 32) (IntKind.bits .u64)))) * (iand .u64 y 4294967295))) + (Int.fdiv (IntKind.wrap .u64 ((iand .u64 x 4294967295) * (iand .u64 y 4294967295))) (2 ^ (min (Int.toNat 32) (IntKind.bits .u64))))))) (q := 4294967295) (by kernel_rfl) (by kernel_rfl) (by kernel_rfl))) ?_
  refine oOp (.d (.int .u64 (iand .u64 (IntKind.wrap .u64 ((IntKind.wrap .u64 ((Int.fdiv x (2 ^ (min (Int.toNat 32) (IntKind.bits .u64)))) * (iand .u64 y 4294967295))) + (Int.fdiv (IntKind.wrap .u64 ((iand .u64 x 4294967295) * (iand .u64 y 4294967295))) (2 ^ (min (Int.toNat 32) (IntKind.bits .u64)))))) 4294967295))) (by kernel_rfl) (by kernel_rfl) (PureV.does (p_assign (by kernel_rfl))) ?_
  refine oEnd ?_
  refine oSeq ?_
  refine oRegion rfl ?_
  refine oOp (.d (.int .u64 (IntKind.wrap .u64 ((IntKind.wrap .u64 ((Int.fdiv x (2 ^ (min (Int.toNat 32) (IntKind.bits .u64)))) * (iand .u64 y 4294967295))) + (Int.fdiv (IntKind.wrap .u64 ((iand .u64 x 4294967295) * (iand .u64 y 4294967295))) (2 ^ (min (Int.toNat 32) (IntKind.bits .u64)))))))) (by kernel_rfl) (by kernel_rfl) (PureV.does (p_move (by kernel_rfl))) ?_
  refine oOp (.d (.int .u64 (Int.fdiv (IntKind.wrap .u64 ((IntKind.wrap .u64 ((Int.fdiv x (2 ^ (min (Int.toNat 32) (IntKind.bits .u64)))) * (iand .u64 y 4294967295))) + (Int.fdiv (IntKind.wrap .u64 ((iand .u64 x 4294967295) * (iand .u64 y 4294967295))) (2 ^ (min (Int.toNat 32) (IntKind.bits .u64)))))) (2 ^ (min (Int.toNat 32) (IntKind.bits .u64)))))) (by kernel_rfl) (by kernel_rfl) (PureV.does (p_shr (k := .u64) (k2 := .u64) (p := (IntKind.wrap .u64 ((IntKind.wrap .u64 ((Int.fdiv x (2 ^ (min (Int.toNat 32) (IntKind.bits .u64)))) * (iand .u64 y 4294967295))) + (Int.fdiv (IntKind.wrap .u64 ((iand .u64 x 4294967295) * (iand .u64 y 4294967295))) (2 ^ (min (Int.toNat 32) (IntKind.bits .u64))))))) (q := 32) (by kernel_rfl) (by kernel_rfl) (by decide) (by kernel_rfl))) ?_
  refine oOp (.d (.int .u64 (Int.fdiv (IntKind.wrap .u64 ((IntKind.wrap .u64 ((Int.fdiv x (2 ^ (min (Int.toNat 32) (IntKind.bits .u64)))) * (iand .u64 y 4294967295))) + (Int.fdiv (IntKind.wrap .u64 ((iand .u64 x 4294967295) * (iand .u64 y 4294967295))) (2 ^ (min (Int.toNat 32) (IntKind.bits .u64)))))) (2 ^ (min (Int.toNat 32) (IntKind.bits .u64)))))) (by kernel_rfl) (by kernel_rfl) (PureV.does (p_assign (by kernel_rfl))) ?_
  refine oEnd ?_
  refine oSeq ?_
  refine oRegion rfl ?_
  refine oOp (.d (.int .u64 (iand .u64 (IntKind.wrap .u64 ((IntKind.wrap .u64 ((Int.fdiv x (2 ^ (min (Int.toNat 32) (IntKind.bits .u64)))) * (iand .u64 y 4294967295))) + (Int.fdiv (IntKind.wrap .u64 ((iand .u64 x 4294967295) * (iand .u64 y 4294967295))) (2 ^ (min (Int.toNat 32) (IntKind.bits .u64)))))) 4294967295))) (by kernel_rfl) (by kernel_rfl) (PureV.does (p_move (by kernel_rfl))) ?_
  refine oOp (.d (.int .u64 (iand .u64 x 4294967295))) (by kernel_rfl) (by kernel_rfl) (PureV.does (p_move (by kernel_rfl))) ?_
  refine oOp (.d (.int .u64 (Int.fdiv y (2 ^ (min (Int.toNat 32) (IntKind.bits .u64)))))) (by kernel_rfl) (by kernel_rfl) (PureV.does (p_move (by kernel_rfl))) ?_
  refine oOp (.d (.int .u64 (IntKind.wrap .u64 ((iand .u64 x 4294967295) * (Int.fdiv y (2 ^ (min (Int.toNat 32) (IntKind.bits .u64)))))))) (by kernel_rfl) (by kernel_rfl) (PureV.does (p_int (k := .u64) (p := (iand .u64 x 4294967295)) (q := (Int.fdiv y (2 ^ (min (Int.toNat 32) (IntKind.bits .u64))))) (by kernel_rfl) (by kernel_rfl) (by kernel_rfl))) ?_
  refine oOp (.d (.int .u64 (IntKind.wrap .u64 ((iand .u64 (IntKind.wrap .u64 ((IntKind.wrap .u64 ((Int.fdiv x (2 ^ (min (Int.toNat 32) (IntKind.bits .u64)))) * (iand .u64 y 4294967295))) + (Int.fdiv (IntKind.wrap .u64 ((iand .u64 x 4294967295) * (iand .u64 y 4294967295))) (2 ^ (min (Int.toNat 32) (IntKind.bits .u64)))))) 4294967295) + (IntKind.wrap .u64 ((iand .u64 x 4294967295) * (Int.fdiv y (2 ^ (min (Int.toNat 32) (IntKind.bits .u64)))))))))) (by kernel_rfl) (by kernel_rfl) (PureV.does (p_int (k := .u64) (p := (iand .u64 (IntKind.wrap .u64 ((IntKind.wrap .u64 ((Int.fdiv x (2 ^ (min (Int.toNat 32) (IntKind.bits .u64)))) * (iand .u64 y 4294967295))) + (Int.fdiv (IntKind.wrap .u64 ((iand .u64 x 4294967295) * (iand .u64 y 4294967295))) (2 ^ (min (Int.toNat 32) (IntKind.bits .u64)))))) 4294967295)) (q := (IntKind.wrap .u64 ((iand .u64 x 4294967295) * (Int.fdiv y (2 ^ (min (Int.toNat 32) (IntKind.bits .u64))))))) (by kernel_rfl) (by kernel_rfl) (by kernel_rfl))) ?_
  refine oOp (.d (.int .u64 (IntKind.wrap .u64 ((iand .u64 (IntKind.wrap .u64 ((IntKind.wrap .u64 ((Int.fdiv x (2 ^ (min (Int.toNat 32) (IntKind.bits .u64)))) * (iand .u64 y 4294967295))) + (Int.fdiv (IntKind.wrap .u64 ((iand .u64 x 4294967295) * (iand .u64 y 4294967295))) (2 ^ (min (Int.toNat 32) (IntKind.bits .u64)))))) 4294967295) + (IntKind.wrap .u64 ((iand .u64 x 4294967295) * (Int.fdiv y (2 ^ (min (Int.toNat 32) (IntKind.bits .u64)))))))))) (by kernel_rfl) (by kernel_rfl) (PureV.does (p_assign (by kernel_rfl))) ?_
  refine oEnd ?_
  refine oSeq ?_
  refine oRegion rfl ?_
  refine oOp (.d (.int .u64 (Int.fdiv x (2 ^ (min (Int.toNat 32) (IntKind.bits .u64)))))) (by kernel_rfl) (by kernel_rfl) (PureV.does (p_move (by kernel_rfl))) ?_
  refine oOp (.d (.int .u64 (Int.fdiv y (2 ^ (min (Int.toNat 32) (IntKind.bits .u64)))))) (by kernel_rfl) (by kernel_rfl) (PureV.does (p_move (by kernel_rfl))) ?_
  refine oOp (.d (.int .u64 (IntKind.wrap .u64 ((Int.fdiv x (2 ^ (min (Int.toNat 32) (IntKind.bits .u64)))) * (Int.fdiv y (2 ^ (min (Int.toNat 32) (IntKind.bits .u64)))))))) (by kernel_rfl) (by kernel_rfl) (PureV.does (p_int (k := .u64) (p := (Int.fdiv x (2 ^ (min (Int.toNat 32) (IntKind.bits .u64))))) (q := (Int.fdiv y (2 ^ (min (Int.toNat 32) (IntKind.bits .u64))))) (by kernel_rfl) (by kernel_rfl) (by kernel_rfl))) ?_
  refine oOp (.d (.int .u64 (Int.fdiv (IntKind.wrap .u64 ((IntKind.wrap .u64 ((Int.fdiv x (2 ^ (min (Int.toNat 32) (IntKind.bits .u64)))) * (iand .u64 y 4294967295))) + (Int.fdiv (IntKind.wrap .u64 ((iand .u64 x 4294967295) * (iand .u64 y 4294967295))) (2 ^ (min (Int.toNat 32) (IntKind.bits .u64)))))) (2 ^ (min (Int.toNat 32) (IntKind.bits .u64)))))) (by kernel_rfl) (by kernel_rfl) (PureV.does (p_move (by kernel_rfl))) ?_
  refine oOp (.d (.int .u64 (IntKind.wrap .u64 ((IntKind.wrap .u64 ((Int.fdiv x (2 ^ (min (Int.toNat 32) (IntKind.bits .u64)))) * (Int.fdiv y (2 ^ (min (Int.toNat 32) (IntKind.bits .u64)))))) + (Int.fdiv (IntKind.wrap .u64 ((IntKind.wrap .u64 ((Int.fdiv x (2 ^ (min (Int.toNat 32) (IntKind.bits .u64)))) * (iand .u64 y 4294967295))) + (Int.fdiv (IntKind.wrap .u64 ((iand .u64 x 4294967295) * (iand .u64 y 4294967295))) (2 ^ (min (Int.toNat 32) (IntKind.bits .u64)))))) (2 ^ (min (Int.toNat 32) (IntKind.bits .u64)))))))) (by kernel_rfl) (by kernel_rfl) (PureV.does (p_int (k := .u64) (p := (IntKind.wrap .u64 ((Int.fdiv x (2 ^ (min (Int.toNat 32) (IntKind.bits .u64)))) * (Int.fdiv y (2 ^ (min (Int.toNat 32) (IntKind.bits .u64))))))) (q := (Int.fdiv (IntKind.wrap .u64 ((IntKind.wrap .u64 ((Int.fdiv x (2 ^ (min (Int.toNat 32) (IntKind.bits .u64)))) * (iand .u64 y 4294967295))) + (Int.fdiv (IntKind.wrap .u64 ((iand .u64 x 4294967295) * (iand .u64 y 4294967295))) (2 ^ (min (Int.toNat 32) (IntKind.bits .u64)))))) (2 ^ (min (Int.toNat 32) (IntKind.bits .u64))))) (by kernel_rfl) (by kernel_rfl) (by kernel_rfl))) ?_
  refine oOp (.d (.int .u64 (IntKind.wrap .u64 ((iand .u64 (IntKind.wrap .u64 ((IntKind.wrap .u64 ((Int.fdiv x (2 ^ (min (Int.toNat 32) (IntKind.bits .u64)))) * (iand .u64 y 4294967295))) + (Int.fdiv (IntKind.wrap .u64 ((iand .u64 x 4294967295) * (iand .u64 y 4294967295))) (2 ^ (min (Int.toNat 32) (IntKind.bits .u64)))))) 4294967295) + (IntKind.wrap .u64 ((iand .u64 x 4294967295) * (Int.fdiv y (2 ^ (min (Int.toNat 32) (IntKind.bits .u64)))))))))) (by kernel_rfl) (by kernel_rfl) (PureV.does (p_move (by kernel_rfl))) ?_
  refine oOp (.d (.int .u64 (Int.fdiv (IntKind.wrap .u64 ((iand .u64 (IntKind.wrap .u64 ((IntKind.wrap .u64 ((Int.fdiv x (2 ^ (min (Int.toNat 32) (IntKind.bits .u64)))) * (iand .u64 y 4294967295))) + (Int.fdiv (IntKind.wrap .u64 ((iand .u64 x 4294967295) * (iand .u64 y 4294967295))) (2 ^ (min (Int.toNat 32) (IntKind.bits .u64)))))) 4294967295) + (IntKind.wrap .u64 ((iand .u64 x 4294967295) * (Int.fdiv y (2 ^ (min (Int.toNat 32) (IntKind.bits .u64)))))))) (2 ^ (min (Int.toNat 32) (IntKind.bits .u64)))))) (by kernel_rfl) (by kernel_rfl) (PureV.does (p_shr (k := .u64) (k2 := .u64) (p := (IntKind.wrap .u64 ((iand .u64 (IntKind.wrap .u64 ((IntKind.wrap .u64 ((Int.fdiv x (2 ^ (min (Int.toNat 32) (IntKind.bits .u64)))) * (iand .u64 y 4294967295))) + (Int.fdiv (IntKind.wrap .u64 ((iand .u64 x 4294967295) * (iand .u64 y 4294967295))) (2 ^ (min (Int.toNat 32) (IntKind.bits .u64)))))) 4294967295) + (IntKind.wrap .u64 ((iand .u64 x 4294967295) * (Int.fdiv y (2 ^ (min (Int.toNat 32) (IntKind.bits .u64))))))))) (q := 32) (by kernel_rfl) (by kernel_rfl) (by decide) (by kernel_rfl))) ?_
  refine oOp (.d (.int .u64 (IntKind.wrap .u64 ((IntKind.wrap .u64 ((IntKind.wrap .u64 ((Int.fdiv x (2 ^ (min (Int.toNat 32) (IntKind.bits .u64)))) * (Int.fdiv y (2 ^ (min (Int.toNat 32) (IntKind.bits .u64)))))) + (Int.fdiv (IntKind.wrap .u64 ((IntKind.wrap .u64 ((Int.fdiv x (2 ^ (min (Int.toNat 32) (IntKind.bits .u64)))) * (iand .u64 y 4294967295))) + (Int.fdiv (IntKind.wrap .u64 ((iand .u64 x 4294967295) * (iand .u64 y 4294967295))) (2 ^ (min (Int.toNat 32) (IntKind.bits .u64)))))) (2 ^ (min (Int.toNat 32) (IntKind.bits .u64)))))) + (Int.fdiv (IntKind.wrap .u64 ((iand .u64 (IntKind.wrap .u64 ((IntKind.wrap .u64 ((Int.fdiv x (2 ^ (min (Int.toNat 32) (IntKind.bits .u64)))) * (iand .u64 y 4294967295))) + (Int.fdiv (IntKind.wrap .u64 ((iand .u64 x 4294967295) * (iand .u64 y 4294967295))) (2 ^ (min (Int.toNat 32) (IntKind.bits .u64)))))) 4294967295) + (IntKind.wrap .u64 ((iand .u64 x 4294967295) * (Int.fdiv y (2 ^ (min (Int.toNat 32) (IntKind.bits .u64)))))))) (2 ^ (min (Int.toNat 32) (IntKind.bits .u64)))))))) (by kernel_rfl) (by kernel_rfl) (PureV.does (p_int (k := .u64) (p := (IntKind.wrap .u64 ((IntKind.wrap .u64 ((Int.fdiv x (2 ^ (min (Int.toNat 32) (IntKind.bits .u64)))) * (Int.fdiv y (2 ^ (min (Int.toNat 32) (IntKind.bits .u64)))))) + (Int.fdiv (IntKind.wrap .u64 ((IntKind.wrap .u64 ((Int.fdiv x (2 ^ (min (Int.toNat 32) (IntKind.bits .u64)))) * (iand .u64 y 4294967295))) + (Int.fdiv (IntKind.wrap .u64 ((iand .u64 x 4294967295) * (iand .u64 y 4294967295))) (2 ^ (min (Int.toNat 32) (IntKind.bits .u64)))))) (2 ^ (min (Int.toNat 32) (IntKind.bits .u64))))))) (q := (Int.fdiv (IntKind.wrap .u64 ((iand .u64 (IntKind.wrap .u64 ((IntKind.wrap .u64 ((Int.fdiv x (2 ^ (min (Int.toNat 32) (IntKind.bits .u64)))) * (iand .u64 y 4294967295))) + (Int.fdiv (IntKind.wrap .u64 ((iand .u64 x 4294967295) * (iand .u64 y 4294967295))) (2 ^ (min (Int.toNat 32) (IntKind.bits .u64)))))) 4294967295) + (IntKind.wrap .u64 ((iand .u64 x 4294967295) * (Int.fdiv y (2 ^ (min (Int.toNat 32) (IntKind.bits .u64)))))))) (2 ^ (min (Int.toNat 32) (IntKind.bits .u64))))) (by kernel_rfl) (by kernel_rfl) (by kernel_rfl))) ?_
  refine oOp (.d (.int .u64 (IntKind.wrap .u64 ((IntKind.wrap .u64 ((IntKind.wrap .u64 ((Int.fdiv x (2 ^ (min (Int.toNat 32) (IntKind.bits .u64)))) * (Int.fdiv y (2 ^ (min (Int.toNat 32) (IntKind.bits .u64)))))) + (Int.fdiv (IntKind.wrap .u64 ((IntKind.wrap .u64 ((Int.fdiv x (2 ^ (min (Int.toNat 32) (IntKind.bits .u64)))) * (iand .u64 y 4294967295))) + (Int.fdiv (IntKind.wrap .u64 ((iand .u64 x 4294967295) * (iand .u64 y 4294967295))) (2 ^ (min (Int.toNat 32) (IntKind.bits .u64)))))) (2 ^ (min (Int.toNat 32) (IntKind.bits .u64)))))) + (Int.fdiv (IntKind.wrap .u64 ((iand .u64 (IntKind.wrap .u64 ((IntKind.wrap .u64 ((Int.fdiv x (2 ^ (min (Int.toNat 32) (IntKind.bits .u64)))) * (iand .u64 y 4294967295))) + (Int.fdiv (IntKind.wrap .u64 ((iand .u64 x 4294967295) * (iand .u64 y 4294967295))) (2 ^ (min (Int.toNat 32) (IntKind.bits .u64)))))) 4294967295) + (IntKind.wrap .u64 ((iand .u64 x 4294967295) * (Int.fdiv y (2 ^ (min (Int.toNat 32) (IntKind.bits .u64)))))))) (2 ^ (min (Int.toNat 32) (IntKind.bits .u64)))))))) (by kernel_rfl) (by kernel_rfl) (PureV.does (p_assign (by kernel_rfl))) ?_
  refine oEnd ?_
  refine oSeq ?_
  refine oRegion rfl ?_
  refine oOp (.d (.int .u64 x)) (by kernel_rfl) (by kernel_rfl) (PureV.does (p_move (by kernel_rfl))) ?_
  refine oOp (.d (.int .u64 y)) (by kernel_rfl) (by kernel_rfl) (PureV.does (p_move (by kernel_rfl))) ?_
  refine oOp (.d (.int .u64 (IntKind.wrap .u64 (x * y)))) (by kernel_rfl) (by kernel_rfl) (PureV.does (p_int (k := .u64) (p := x) (q := y) (by kernel_rfl) (by kernel_rfl) (by kernel_rfl))) ?_
  refine oOp (.d (.int .u64 (IntKind.wrap .u64 (x * y)))) (by kernel_rfl) (by kernel_rfl) (PureV.does (p_assign (by kernel_rfl))) ?_
  refine oEnd ?_
  exact oRet (r0 := ((IntKind.wrap .u64 ((IntKind.wrap .u64 ((IntKind.wrap .u64 ((Int.fdiv x (2 ^ (min (Int.toNat 32) (IntKind.bits .u64)))) * (Int.fdiv y (2 ^ (min (Int.toNat 32) (IntKind.bits .u64)))))) + (Int.fdiv (IntKind.wrap .u64 ((IntKind.wrap .u64 ((Int.fdiv x (2 ^ (min (Int.toNat 32) (IntKind.bits .u64)))) * (iand .u64 y 4294967295))) + (Int.fdiv (IntKind.wrap .u64 ((iand .u64 x 4294967295) * (iand .u64 y 4294967295))) (2 ^ (min (Int.toNat 32) (IntKind.bits .u64)))))) (2 ^ (min (Int.toNat 32) (IntKind.bits .u64)))))) + (Int.fdiv (IntKind.wrap .u64 ((iand .u64 (IntKind.wrap .u64 ((IntKind.wrap .u64 ((Int.fdiv x (2 ^ (min (Int.toNat 32) (IntKind.bits .u64)))) * (iand .u64 y 4294967295))) + (Int.fdiv (IntKind.wrap .u64 ((iand .u64 x 4294967295) * (iand .u64 y 4294967295))) (2 ^ (min (Int.toNat 32) (IntKind.bits .u64)))))) 4294967295) + (IntKind.wrap .u64 ((iand .u64 x 4294967295) * (Int.fdiv y (2 ^ (min (Int.toNat 32) (IntKind.bits .u64)))))))) (2 ^ (min (Int.toNat 32) (IntKind.bits .u64)))))), (IntKind.wrap .u64 (x * y)))) (rv := .tuple [.d (.int .u64 (IntKind.wrap .u64 ((IntKind.wrap .u64 ((IntKind.wrap .u64 ((Int.fdiv x (2 ^ (min (Int.toNat 32) (IntKind.bits .u64)))) * (Int.fdiv y (2 ^ (min (Int.toNat 32) (IntKind.bits .u64)))))) + (Int.fdiv (IntKind.wrap .u64 ((IntKind.wrap .u64 ((Int.fdiv x (2 ^ (min (Int.toNat 32) (IntKind.bits .u64)))) * (iand .u64 y 4294967295))) + (Int.fdiv (IntKind.wrap .u64 ((iand .u64 x 4294967295) * (iand .u64 y 4294967295))) (2 ^ (min (Int.toNat 32) (IntKind.bits .u64)))))) (2 ^ (min (Int.toNat 32) (IntKind.bits .u64)))))) + (Int.fdiv (IntKind.wrap .u64 ((iand .u64 (IntKind.wrap .u64 ((IntKind.wrap .u64 ((Int.fdiv x (2 ^ (min (Int.toNat 32) (IntKind.bits .u64)))) * (iand .u64 y 4294967295))) + (Int.fdiv (IntKind.wrap .u64 ((iand .u64 x 4294967295) * (iand .u64 y 4294967295))) (2 ^ (min (Int.toNat 32) (IntKind.bits .u64)))))) 4294967295) + (IntKind.wrap .u64 ((iand .u64 x 4294967295) * (Int.fdiv y (2 ^ (min (Int.toNat 32) (IntKind.bits .u64)))))))) (2 ^ (min (Int.toNat 32) (IntKind.bits .u64))))))), .d (.int .u64 (IntKind.wrap .u64 (x * y)))]) (B := []) (vs := [.d (.int .u64 (IntKind.wrap .u64 ((IntKind.wrap .u64 ((IntKind.wrap .u64 ((Int.fdiv x (2 ^ (min (Int.toNat 32) (IntKind.bits .u64)))) * (Int.fdiv y (2 ^ (min (Int.toNat 32) (IntKind.bits .u64)))))) + (Int.fdiv (IntKind.wrap .u64 ((IntKind.wrap .u64 ((Int.fdiv x (2 ^ (min (Int.toNat 32) (IntKind.bits .u64)))) * (iand .u64 y 4294967295))) + (Int.fdiv (IntKind.wrap .u64 ((iand .u64 x 4294967295) * (iand .u64 y 4294967295))) (2 ^ (min (Int.toNat 32) (IntKind.bits .u64)))))) (2 ^ (min (Int.toNat 32) (IntKind.bits .u64)))))) + (Int.fdiv (IntKind.wrap .u64 ((iand .u64 (IntKind.wrap .u64 ((IntKind.wrap .u64 ((Int.fdiv x (2 ^ (min (Int.toNat 32) (IntKind.bits .u64)))) * (iand .u64 y 4294967295))) + (Int.fdiv (IntKind.wrap .u64 ((iand .u64 x 4294967295) * (iand .u64 y 4294967295))) (2 ^ (min (Int.toNat 32) (IntKind.bits .u64)))))) 4294967295) + (IntKind.wrap .u64 ((iand .u64 x 4294967295) * (Int.fdiv y (2 ^ (min (Int.toNat 32) (IntKind.bits .u64)))))))) (2 ^ (min (Int.toNat 32) (IntKind.bits .u64))))))), .d (.int .u64 (IntKind.wrap .u64 (x * y)))]) (σ := []) (by kernel_rfl) Try.func77 rfl (.cons _ _ _ _ (.tmp 4 _ (by kernel_rfl)) (.cons _ _ _ _ (.tmp 5 _ (by kernel_rfl)) .nil)) (by kernel_rfl) (by kernel_rfl) (by kernel_rfl) (by kernel_rfl) (by decide) (by kernel_rfl) (by kernel_rfl)

/-- awardingbody/ratio.times -/
def ratio_times (k : Nat) (n : Int) (by1 : Int) : Option (Int × Int) := Option.bind (ratio_abs k n) (fun r14 => Option.bind (math_bits_Mul64 k r14 by1) (uc fun r15 => fun r112 => some (r15, r112)))
def ratio_times_E (n : Int) (by1 : Int) : Int × Int → V × List Blk := uc fun r12 => fun r13 => (.agg [.d (.bool (decide (n < 0))), .d (.int .u64 r12), .d (.int .u64 r13)], [])
theorem ratio_times_goes (k : Nat) (n : Int) (by1 : Int) : RunsO Try.prog 74 [.d (.int .i64 n), .d (.int .u64 by1)] [] (ratio_times_E n by1) (ratio_times k n by1) := by
  refine RunsO.of_goes (N := 19) (m := 0) (T := [(0, .d (.int .i64 n)), (1, .d (.int .u64 by1))]) Try.func74 rfl rfl (by kernel_rfl) (by kernel_rfl) (by kernel_rfl) ?_
  unfold ratio_times
  refine bStart ?_
  refine oSeq ?_
  refine oRegion rfl ?_
  refine oOp (.ptr 0 0) (by kernel_rfl) (by kernel_rfl) (k_alloc (H' := [.box [.d (.bool false), .d (.int .u64 0), .d (.int .u64 0)]]) ty80 (by kernel_rfl) (by kernel_rfl)) ?_
  refine oEnd ?_
  refine oSeq ?_
  refine oRegion rfl ?_
  refine oOp (.d (.int .i64 n)) (by kernel_rfl) (by kernel_rfl) (PureV.does (p_move (by kernel_rfl))) ?_
  refine bCall (caps := []) (v := (fun (r14 : Int) => (.d (.int .u64 r14) : V))) (H' := (fun (r14 : Int) => ([.box [.d (.bool false), .d (.int .u64 0), .d (.int .u64 0)]] : List Blk))) [] _ (ratio_abs_goes k n) (by kernel_rfl) (by kernel_rfl) rfl (by kernel_rfl) Try.func62 rfl (by kernel_rfl) (ConvRs.refl _ _) (by kernel_rfl) (by kernel_rfl) (by kernel_rfl) (by decide) (by kernel_rfl) (by kernel_rfl) (fun _ => (by kernel_rfl)) (fun _ => (by kernel_rfl)) (fun _ => (by kernel_rfl)) (fun r14 => ?_)
  refine oOp (.d (.int .u64 by1)) (by kernel_rfl) (by kernel_rfl) (PureV.does (p_move (by kernel_rfl))) ?_
  refine bCall (caps := []) (v := (uc fun (r15 : Int) => (fun (r112 : Int) => (.tuple [.d (.int .u64 r15), .d (.int .u64 r112)] : V)))) (H' := (uc fun (r15 : Int) => (fun (r112 : Int) => ([.box [.d (.bool false), .d (.int .u64 0), .d (.int .u64 0)]] : List Blk)))) [] _ (math_bits_Mul64_goes k r14 by1) (by kernel_rfl) (by kernel_rfl) rfl (by kernel_rfl) Try.func77 rfl (by kernel_rfl) (ConvRs.refl _ _) (by kernel_rfl) (by kernel_rfl) (by kernel_rfl) (by decide) (by kernel_rfl) (by kernel_rfl) (fun _ => (by kernel_rfl)) (fun _ => (by kernel_rfl)) (fun _ => (by kernel_rfl)) (fun r => ?_)
  obtain ⟨r15, r112⟩ := r
  refine bUc ?_
  refine oOp (.tuple [.d (.int .u64 r15), .d (.int .u64 r112)]) (by kernel_rfl) (by kernel_rfl) (PureV.does (p_move (by kernel_rfl))) ?_
  refine oOp (.d (.int .u64 r15)) (by kernel_rfl) (by kernel_rfl) (PureV.does (k_extract (by kernel_rfl))) ?_
  refine oOp (.d (.int .u64 r112)) (by kernel_rfl) (by kernel_rfl) (PureV.does (k_extract (by kernel_rfl))) ?_
  refine oOp (.d (.int .u64 r15)) (by kernel_rfl) (by kernel_rfl) (PureV.does (p_assign (by kernel_rfl))) ?_
  refine oOp (.d (.int .u64 r112)) (by kernel_rfl) (by kernel_rfl) (PureV.does (p_assign (by kernel_rfl))) ?_
  refine oEnd ?_
  refine oSeq ?_
  refine oRegion rfl ?_
  refine oOp (.d (.int .i64 n)) (by kernel_rfl) (by kernel_rfl) (PureV.does (p_move (by kernel_rfl))) ?_
  refine oOp (.d (.bool (decide (n < 0)))) (by kernel_rfl) (by kernel_rfl) (PureV.does (p_int (k := .i64) (p := n) (q := 0) (by kernel_rfl) (by kernel_rfl) (by kernel_rfl))) ?_
  refine oOp (.d (.int .u64 r15)) (by kernel_rfl) (by kernel_rfl) (PureV.does (p_move (by kernel_rfl))) ?_
  refine oOp (.d (.int .u64 r112)) (by kernel_rfl) (by kernel_rfl) (PureV.does (p_move (by kernel_rfl))) ?_
  refine oOp (.agg [.d (.bool (decide (n < 0))), .d (.int .u64 r15), .d (.int .u64 r112)]) (by kernel_rfl) (by kernel_rfl) (PureV.does (p_build bld80 (by kernel_rfl))) ?_
  refine oOp (.undef) (by kernel_rfl) (by kernel_rfl) (k_store (vs := [.d (.bool (decide (n < 0))), .d (.int .u64 r15), .d (.int .u64 r112)]) (H' := [.box [.d (.bool (decide (n < 0))), .d (.int .u64 r15), .d (.int .u64 r112)]]) 0 0 (by kernel_rfl) ty80 (by kernel_rfl) (by kernel_rfl) (by kernel_rfl)) ?_
  refine oEnd ?_
  exact oRet (r0 := (r15, r112)) (rv := .agg [.d (.bool (decide (n < 0))), .d (.int .u64 r15), .d (.int .u64 r112)]) (B := []) (vs := [.agg [.d (.bool (decide (n < 0))), .d (.int .u64 r15), .d (.int .u64 r112)]]) (σ := []) (by kernel_rfl) Try.func74 rfl (.cons _ _ _ _ (.agg 4 80 0 0 [.d (.bool (decide (n < 0))), .d (.int .u64 r15), .d (.int .u64 r112)] [.d (.bool (decide (n < 0))), .d (.int .u64 r15), .d (.int .u64 r112)] _ _ _ _ (by kernel_rfl) (by kernel_rfl) Try.underlying80 (by kernel_rfl) ty80 (by kernel_rfl) (by kernel_rfl)) .nil) (by kernel_rfl) (by kernel_rfl) (by kernel_rfl) (by kernel_rfl) (by decide) (by kernel_rfl) (by kernel_rfl)

/-- (awardingbody/ratio.wide).compare -/
def ratio_wide_compare (k : Nat) (w0 : Bool) (w1 : Int) (w2 : Int) (v0 : Bool) (v1 : Int) (v2 : Int) : Option (Int) := blet ((w1 != v1) && (decide (w1 < v1))) fun x13 => Option.bind (bif x13 then some true else blet ((w1 == v1) && (decide (w2 < v2))) fun x18 => some x18 : Option (Bool)) (fun x15 => bif x15 then some (-1) else blet ((w1 == v1) && (w2 == v2)) fun x17 => bif x17 then some 0 else some 1)
def ratio_wide_compare_E (w0 : Bool) (w1 : Int) (w2 : Int) (v0 : Bool) (v1 : Int) (v2 : Int) : Int → V × List Blk := fun r1 => (.d (.int .i64 r1), [])
theorem ratio_wide_compare_goes (k : Nat) (w0 : Bool) (w1 : Int) (w2 : Int) (v0 : Bool) (v1 : Int) (v2 : Int) : RunsO Try.prog 75 [.agg [.d (.bool w0), .d (.int .u64 w1), .d (.int .u64 w2)], .agg [.d (.bool v0), .d (.int .u64 v1), .d (.int .u64 v2)]] [] (ratio_wide_compare_E w0 w1 w2 v0 v1 v2) (ratio_wide_compare k w0 w1 w2 v0 v1 v2) := by
  refine RunsO.of_goes (N := 43) (m := 0) (T := [(0, .agg [.d (.bool w0), .d (.int .u64 w1), .d (.int .u64 w2)]), (1, .agg [.d (.bool v0), .d (.int .u64 v1), .d (.int .u64 v2)])]) Try.func75 rfl rfl (by kernel_rfl) (by kernel_rfl) (by kernel_rfl) ?_
  unfold ratio_wide_compare
  refine bStart ?_
  refine oSeq ?_
  refine oRegion rfl ?_
  refine oOp (.ptr 0 0) (by kernel_rfl) (by kernel_rfl) (k_box (H' := [.box [.d (.bool w0), .d (.int .u64 w1), .d (.int .u64 w2)]]) (cells := [.d (.bool w0), .d (.int .u64 w1), .d (.int .u64 w2)]) (by kernel_rfl) (by kernel_rfl) (by kernel_rfl)) ?_
  refine oOp (.ptr 1 0) (by kernel_rfl) (by kernel_rfl) (k_box (H' := [.box [.d (.bool w0), .d (.int .u64 w1), .d (.int .u64 w2)], .box [.d (.bool v0), .d (.int .u64 v1), .d (.int .u64 v2)]]) (cells := [.d (.bool v0), .d (.int .u64 v1), .d (.int .u64 v2)]) (by kernel_rfl) (by kernel_rfl) (by kernel_rfl)) ?_
  refine oOp (.d (.int .i64 0)) (by kernel_rfl) (by kernel_rfl) (PureV.does (p_assign (by kernel_rfl))) ?_
  refine oEnd ?_
  refine oSeq ?_
  refine oBlock ?_
  refine oSeq ?_
  refine oSeq ?_
  refine oRegion rfl ?_
  refine oOp (.ptr 0 1) (by kernel_rfl) (by kernel_rfl) (PureV.does (k_fieldAddr 0 0 (by kernel_rfl) Try.underlying80 rfl ty61 (by kernel_rfl))) ?_
  refine oOp (.d (.int .u64 w1)) (by kernel_rfl) (by kernel_rfl) (Quiet.does (k_load 0 1 (by kernel_rfl) Try.underlying61 (by kernel_rfl) (by kernel_rfl))) ?_
  refine oOp (.ptr 1 1) (by kernel_rfl) (by kernel_rfl) (PureV.does (k_fieldAddr 1 0 (by kernel_rfl) Try.underlying80 rfl ty61 (by kernel_rfl))) ?_
  refine oOp (.d (.int .u64 v1)) (by kernel_rfl) (by kernel_rfl) (Quiet.does (k_load 1 1 (by kernel_rfl) Try.underlying61 (by kernel_rfl) (by kernel_rfl))) ?_
  refine oOp (.d (.bool (w1 != v1))) (by kernel_rfl) (by kernel_rfl) (PureV.does (p_int (k := .u64) (p := w1) (q := v1) (by kernel_rfl) (by kernel_rfl) (by kernel_rfl))) ?_
  refine oOp (.d (.bool (w1 != v1))) (by kernel_rfl) (by kernel_rfl) (PureV.does (p_move (by kernel_rfl))) ?_
  refine bMeetF (H' := [.box [.d (.bool w0), .d (.int .u64 w1), .d (.int .u64 w2)], .box [.d (.bool v0), .d (.int .u64 v1), .d (.int .u64 v2)]]) 6 rfl ((fun (x13 : Bool) => [(2, .ptr 0 0), (3, .ptr 1 0), (17, .d (.bool x13))])) (fun x13 => ?_) (fun F hj4 => ?_)
  · refine oView (T' := [(2, .ptr 0 0), (3, .ptr 1 0), (17, .d (.bool x13))]) (H' := [.box [.d (.bool w0), .d (.int .u64 w1), .d (.int .u64 w2)], .box [.d (.bool v0), .d (.int .u64 v1), .d (.int .u64 v2)]]) (by kernel_rfl) (by kernel_rfl) ?_
    refine oOp (.d (.bool x13)) (by kernel_rfl) (by kernel_rfl) (PureV.does (p_assign (by kernel_rfl))) ?_
    refine oEnd ?_
    refine bJoin ((fun (x15 : Bool) => [(2, .ptr 0 0), (3, .ptr 1 0), (5, .d (.bool x15))])) ((fun (x15 : Bool) => [.box [.d (.bool w0), .d (.int .u64 w1), .d (.int .u64 w2)], .box [.d (.bool v0), .d (.int .u64 v1), .d (.int .u64 v2)]])) (fun s => s) (fun x15 => ?_) (fun hj5 => ?_)
    · refine oView (T' := [(2, .ptr 0 0), (3, .ptr 1 0), (5, .d (.bool x15))]) (H' := [.box [.d (.bool w0), .d (.int .u64 w1), .d (.int .u64 w2)], .box [.d (.bool v0), .d (.int .u64 v1), .d (.int .u64 v2)]]) (by kernel_rfl) (by kernel_rfl) ?_
      refine bSplit 5 (by kernel_rfl) (fun hc => ?_) (fun hc => ?_)
      · refine oCondT (by kernel_rfl) ?_
        refine oSeq ?_
        refine oRegion rfl ?_
        refine oOp (.d (.int .i64 (-1))) (by kernel_rfl) (by kernel_rfl) (PureV.does (p_assign (by kernel_rfl))) ?_
        refine oEnd ?_
        exact oRet (r0 := (-1)) (rv := .d (.int .i64 (-1))) (B := []) (vs := [.d (.int .i64 (-1))]) (σ := []) (by kernel_rfl) Try.func75 rfl (.cons _ _ _ _ (.tmp 4 _ (by kernel_rfl)) .nil) (by kernel_rfl) (by kernel_rfl) (by kernel_rfl) (by kernel_rfl) (by decide) (by kernel_rfl) (by kernel_rfl)
      · refine oCondF (by kernel_rfl) ?_
        refine oSeq ?_
        refine oRegion rfl ?_
        refine oOp (.ptr 0 1) (by kernel_rfl) (by kernel_rfl) (PureV.does (k_fieldAddr 0 0 (by kernel_rfl) Try.underlying80 rfl ty61 (by kernel_rfl))) ?_
        refine oOp (.d (.int .u64 w1)) (by kernel_rfl) (by kernel_rfl) (Quiet.does (k_load 0 1 (by kernel_rfl) Try.underlying61 (by kernel_rfl) (by kernel_rfl))) ?_
        refine oOp (.ptr 1 1) (by kernel_rfl) (by kernel_rfl) (PureV.does (k_fieldAddr 1 0 (by kernel_rfl) Try.underlying80 rfl ty61 (by kernel_rfl))) ?_
        refine oOp (.d (.int .u64 v1)) (by kernel_rfl) (by kernel_rfl) (Quiet.does (k_load 1 1 (by kernel_rfl) Try.underlying61 (by kernel_rfl) (by kernel_rfl))) ?_
        refine oOp (.d (.bool (w1 == v1))) (by kernel_rfl) (by kernel_rfl) (PureV.does (p_int (k := .u64) (p := w1) (q := v1) (by kernel_rfl) (by kernel_rfl) (by kernel_rfl))) ?_
        refine oOp (.d (.bool (w1 == v1))) (by kernel_rfl) (by kernel_rfl) (PureV.does (p_move (by kernel_rfl))) ?_
        refine bMeetF (H' := []) 6 rfl ((fun (x17 : Bool) => [(42, .d (.bool x17))])) (fun x17 => ?_) (fun F hj6 => ?_)
        · refine oView (T' := [(42, .d (.bool x17))]) (H' := []) (by kernel_rfl) (by kernel_rfl) ?_
          refine oOp (.d (.bool x17)) (by kernel_rfl) (by kernel_rfl) (PureV.does (p_assign (by kernel_rfl))) ?_
          refine oEnd ?_
          refine bSplit 30 (by kernel_rfl) (fun hc => ?_) (fun hc => ?_)
          · refine oCondT (by kernel_rfl) ?_
            refine oSeq ?_
            refine oRegion rfl ?_
            refine oOp (.d (.int .i64 0)) (by kernel_rfl) (by kernel_rfl) (PureV.does (p_assign (by kernel_rfl))) ?_
            refine oEnd ?_
            exact oRet (r0 := 0) (rv := .d (.int .i64 0)) (B := []) (vs := [.d (.int .i64 0)]) (σ := []) (by kernel_rfl) Try.func75 rfl (.cons _ _ _ _ (.tmp 4 _ (by kernel_rfl)) .nil) (by kernel_rfl) (by kernel_rfl) (by kernel_rfl) (by kernel_rfl) (by decide) (by kernel_rfl) (by kernel_rfl)
          · refine oCondF (by kernel_rfl) ?_
            refine oSkip ?_
            refine oBlk ?_
            refine oSeq ?_
            refine oRegion rfl ?_
            refine oOp (.d (.int .i64 1)) (by kernel_rfl) (by kernel_rfl) (PureV.does (p_assign (by kernel_rfl))) ?_
            refine oEnd ?_
            exact oRet (r0 := 1) (rv := .d (.int .i64 1)) (B := []) (vs := [.d (.int .i64 1)]) (σ := []) (by kernel_rfl) Try.func75 rfl (.cons _ _ _ _ (.tmp 4 _ (by kernel_rfl)) .nil) (by kernel_rfl) (by kernel_rfl) (by kernel_rfl) (by kernel_rfl) (by decide) (by kernel_rfl) (by kernel_rfl)
        · refine bPickF 36 (fun c => F (c && (w2 == v2))) (by kernel_rfl) (fun hc => ?_) (fun hc => ?_)
          · refine oOp (.ptr 0 2) (by kernel_rfl) (by kernel_rfl) (PureV.does (k_fieldAddr 0 0 (by kernel_rfl) Try.underlying80 rfl ty61 (by kernel_rfl))) ?_
            refine oOp (.d (.int .u64 w2)) (by kernel_rfl) (by kernel_rfl) (Quiet.does (k_load 0 2 (by kernel_rfl) Try.underlying61 (by kernel_rfl) (by kernel_rfl))) ?_
            refine oOp (.ptr 1 2) (by kernel_rfl) (by kernel_rfl) (PureV.does (k_fieldAddr 1 0 (by kernel_rfl) Try.underlying80 rfl ty61 (by kernel_rfl))) ?_
            refine oOp (.d (.int .u64 v2)) (by kernel_rfl) (by kernel_rfl) (Quiet.does (k_load 1 2 (by kernel_rfl) Try.underlying61 (by kernel_rfl) (by kernel_rfl))) ?_
            refine oOp (.d (.bool (w2 == v2))) (by kernel_rfl) (by kernel_rfl) (PureV.does (p_int (k := .u64) (p := w2) (q := v2) (by kernel_rfl) (by kernel_rfl) (by kernel_rfl))) ?_
            refine oOp (.d (.bool (w2 == v2))) (by kernel_rfl) (by kernel_rfl) (PureV.does (p_pick (b := true) (by kernel_rfl) (by kernel_rfl))) ?_
            refine oHead [42] [] (T' := [(42, .d (.bool (w2 == v2)))]) (H' := []) (by kernel_rfl) (by kernel_rfl) (by kernel_rfl) (by kernel_rfl) (by decide) (by kernel_rfl) (by kernel_rfl) ?_
            exact hj6 (w2 == v2)
          · refine oNot (by kernel_rfl) (by kernel_rfl) ?_
            refine oNot (by kernel_rfl) (by kernel_rfl) ?_
            refine oNot (by kernel_rfl) (by kernel_rfl) ?_
            refine oNot (by kernel_rfl) (by kernel_rfl) ?_
            refine oNot (by kernel_rfl) (by kernel_rfl) ?_
            refine oOp (.d (.bool false)) (by kernel_rfl) (by kernel_rfl) (PureV.does (p_pick (b := false) (by kernel_rfl) (by kernel_rfl))) ?_
            refine oHead [42] [] (T' := [(42, .d (.bool false))]) (H' := []) (by kernel_rfl) (by kernel_rfl) (by kernel_rfl) (by kernel_rfl) (by decide) (by kernel_rfl) (by kernel_rfl) ?_
            exact hj6 false
    · refine bSplit 5 (by kernel_rfl) (fun hc => ?_) (fun hc => ?_)
      · refine oCondT (by kernel_rfl) ?_
        refine oSkip ?_
        refine oHead [2, 3, 5] [0, 1] (T' := [(2, .ptr 0 0), (3, .ptr 1 0), (5, .d (.bool true))]) (H' := [.box [.d (.bool w0), .d (.int .u64 w1), .d (.int .u64 w2)], .box [.d (.bool v0), .d (.int .u64 v1), .d (.int .u64 v2)]]) (by kernel_rfl) (by kernel_rfl) (by kernel_rfl) (by kernel_rfl) (by decide) (by kernel_rfl) (by kernel_rfl) ?_
        exact hj5 true
      · refine oCondF (by kernel_rfl) ?_
        refine oRegion rfl ?_
        refine oOp (.ptr 0 1) (by kernel_rfl) (by kernel_rfl) (PureV.does (k_fieldAddr 0 0 (by kernel_rfl) Try.underlying80 rfl ty61 (by kernel_rfl))) ?_
        refine oOp (.d (.int .u64 w1)) (by kernel_rfl) (by kernel_rfl) (Quiet.does (k_load 0 1 (by kernel_rfl) Try.underlying61 (by kernel_rfl) (by kernel_rfl))) ?_
        refine oOp (.ptr 1 1) (by kernel_rfl) (by kernel_rfl) (PureV.does (k_fieldAddr 1 0 (by kernel_rfl) Try.underlying80 rfl ty61 (by kernel_rfl))) ?_
        refine oOp (.d (.int .u64 v1)) (by kernel_rfl) (by kernel_rfl) (Quiet.does (k_load 1 1 (by kernel_rfl) Try.underlying61 (by kernel_rfl) (by kernel_rfl))) ?_
        refine oOp (.d (.bool (w1 == v1))) (by kernel_rfl) (by kernel_rfl) (PureV.does (p_int (k := .u64) (p := w1) (q := v1) (by kernel_rfl) (by kernel_rfl) (by kernel_rfl))) ?_
        refine oOp (.d (.bool (w1 == v1))) (by kernel_rfl) (by kernel_rfl) (PureV.does (p_move (by kernel_rfl))) ?_
        refine bMeetF (H' := [.box [.d (.bool w0), .d (.int .u64 w1), .d (.int .u64 w2)], .box [.d (.bool v0), .d (.int .u64 v1), .d (.int .u64 v2)]]) 6 rfl ((fun (x18 : Bool) => [(2, .ptr 0 0), (3, .ptr 1 0), (29, .d (.bool x18))])) (fun x18 => ?_) (fun F hj7 => ?_)
        · refine oView (T' := [(2, .ptr 0 0), (3, .ptr 1 0), (29, .d (.bool x18))]) (H' := [.box [.d (.bool w0), .d (.int .u64 w1), .d (.int .u64 w2)], .box [.d (.bool v0), .d (.int .u64 v1), .d (.int .u64 v2)]]) (by kernel_rfl) (by kernel_rfl) ?_
          refine oOp (.d (.bool x18)) (by kernel_rfl) (by kernel_rfl) (PureV.does (p_assign (by kernel_rfl))) ?_
          refine oEnd ?_
          refine oHead [2, 3, 5] [0, 1] (T' := [(2, .ptr 0 0), (3, .ptr 1 0), (5, .d (.bool x18))]) (H' := [.box [.d (.bool w0), .d (.int .u64 w1), .d (.int .u64 w2)], .box [.d (.bool v0), .d (.int .u64 v1), .d (.int .u64 v2)]]) (by kernel_rfl) (by kernel_rfl) (by kernel_rfl) (by kernel_rfl) (by decide) (by kernel_rfl) (by kernel_rfl) ?_
          exact hj5 x18
        · refine bPickF 23 (fun c => F (c && (decide (w2 < v2)))) (by kernel_rfl) (fun hc => ?_) (fun hc => ?_)
          · refine oOp (.ptr 0 2) (by kernel_rfl) (by kernel_rfl) (PureV.does (k_fieldAddr 0 0 (by kernel_rfl) Try.underlying80 rfl ty61 (by kernel_rfl))) ?_
            refine oOp (.d (.int .u64 w2)) (by kernel_rfl) (by kernel_rfl) (Quiet.does (k_load 0 2 (by kernel_rfl) Try.underlying61 (by kernel_rfl) (by kernel_rfl))) ?_
            refine oOp (.ptr 1 2) (by kernel_rfl) (by kernel_rfl) (PureV.does (k_fieldAddr 1 0 (by kernel_rfl) Try.underlying80 rfl ty61 (by kernel_rfl))) ?_
            refine oOp (.d (.int .u64 v2)) (by kernel_rfl) (by kernel_rfl) (Quiet.does (k_load 1 2 (by kernel_rfl) Try.underlying61 (by kernel_rfl) (by kernel_rfl))) ?_
            refine oOp (.d (.bool (decide (w2 < v2)))) (by kernel_rfl) (by kernel_rfl) (PureV.does (p_int (k := .u64) (p := w2) (q := v2) (by kernel_rfl) (by kernel_rfl) (by kernel_rfl))) ?_
            refine oOp (.d (.bool (decide (w2 < v2)))) (by kernel_rfl) (by kernel_rfl) (PureV.does (p_pick (b := true) (by kernel_rfl) (by kernel_rfl))) ?_
            refine oHead [2, 3, 29] [0, 1] (T' := [(2, .ptr 0 0), (3, .ptr 1 0), (29, .d (.bool (decide (w2 < v2))))]) (H' := [.box [.d (.bool w0), .d (.int .u64 w1), .d (.int .u64 w2)], .box [.d (.bool v0), .d (.int .u64 v1), .d (.int .u64 v2)]]) (by kernel_rfl) (by kernel_rfl) (by kernel_rfl) (by kernel_rfl) (by decide) (by kernel_rfl) (by kernel_rfl) ?_
            exact hj7 (decide (w2 < v2))
          · refine oNot (by kernel_rfl) (by kernel_rfl) ?_
            refine oNot (by kernel_rfl) (by kernel_rfl) ?_
            refine oNot (by kernel_rfl) (by kernel_rfl) ?_
            refine oNot (by kernel_rfl) (by kernel_rfl) ?_
            refine oNot (by kernel_rfl) (by kernel_rfl) ?_
            refine oOp (.d (.bool false)) (by kernel_rfl) (by kernel_rfl) (PureV.does (p_pick (b := false) (by kernel_rfl) (by kernel_rfl))) ?_
            refine oHead [2, 3, 29] [0, 1] (T' := [(2, .ptr 0 0), (3, .ptr 1 0), (29, .d (.bool false))]) (H' := [.box [.d (.bool w0), .d (.int .u64 w1), .d (.int .u64 w2)], .box [.d (.bool v0), .d (.int .u64 v1), .d (.int .u64 v2)]]) (by kernel_rfl) (by kernel_rfl) (by kernel_rfl) (by kernel_rfl) (by decide) (by kernel_rfl) (by kernel_rfl) ?_
            exact hj7 false
  · refine bPickF 11 (fun c => F (c && (decide (w1 < v1)))) (by kernel_rfl) (fun hc => ?_) (fun hc => ?_)
    · refine oOp (.ptr 0 1) (by kernel_rfl) (by kernel_rfl) (PureV.does (k_fieldAddr 0 0 (by kernel_rfl) Try.underlying80 rfl ty61 (by kernel_rfl))) ?_
      refine oOp (.d (.int .u64 w1)) (by kernel_rfl) (by kernel_rfl) (Quiet.does (k_load 0 1 (by kernel_rfl) Try.underlying61 (by kernel_rfl) (by kernel_rfl))) ?_
      refine oOp (.ptr 1 1) (by kernel_rfl) (by kernel_rfl) (PureV.does (k_fieldAddr 1 0 (by kernel_rfl) Try.underlying80 rfl ty61 (by kernel_rfl))) ?_
      refine oOp (.d (.int .u64 v1)) (by kernel_rfl) (by kernel_rfl) (Quiet.does (k_load 1 1 (by kernel_rfl) Try.underlying61 (by kernel_rfl) (by kernel_rfl))) ?_
      refine oOp (.d (.bool (decide (w1 < v1)))) (by kernel_rfl) (by kernel_rfl) (PureV.does (p_int (k := .u64) (p := w1) (q := v1) (by kernel_rfl) (by kernel_rfl) (by kernel_rfl))) ?_
      refine oOp (.d (.bool (decide (w1 < v1)))) (by kernel_rfl) (by kernel_rfl) (PureV.does (p_pick (b := true) (by kernel_rfl) (by kernel_rfl))) ?_
      refine oHead [2, 3, 17] [0, 1] (T' := [(2, .ptr 0 0), (3, .ptr 1 0), (17, .d (.bool (decide (w1 < v1))))]) (H' := [.box [.d (.bool w0), .d (.int .u64 w1), .d (.int .u64 w2)], .box [.d (.bool v0), .d (.int .u64 v1), .d (.int .u64 v2)]]) (by kernel_rfl) (by kernel_rfl) (by kernel_rfl) (by kernel_rfl) (by decide) (by kernel_rfl) (by kernel_rfl) ?_
      exact hj4 (decide (w1 < v1))
    · refine oNot (by kernel_rfl) (by kernel_rfl) ?_
      refine oNot (by kernel_rfl) (by kernel_rfl) ?_
      refine oNot (by kernel_rfl) (by kernel_rfl) ?_
      refine oNot (by kernel_rfl) (by kernel_rfl) ?_
      refine oNot (by kernel_rfl) (by kernel_rfl) ?_
      refine oOp (.d (.bool false)) (by kernel_rfl) (by kernel_rfl) (PureV.does (p_pick (b := false) (by kernel_rfl) (by kernel_rfl))) ?_
      refine oHead [2, 3, 17] [0, 1] (T' := [(2, .ptr 0 0), (3, .ptr 1 0), (17, .d (.bool false))]) (H' := [.box [.d (.bool w0), .d (.int .u64 w1), .d (.int .u64 w2)], .box [.d (.bool v0), .d (.int .u64 v1), .d (.int .u64 v2)]]) (by kernel_rfl) (by kernel_rfl) (by kernel_rfl) (by kernel_rfl) (by decide) (by kernel_rfl) (by kernel_rfl) ?_
      exact hj4 false

end Go.VM
