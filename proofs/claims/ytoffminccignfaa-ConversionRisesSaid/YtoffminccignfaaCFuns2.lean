/- Plain functions that answer as the program's functions do, and the proof that they do. -/
import Derived.Test.YtoffminccignfaaProg
import Derived.KernelRfl
import Derived.Test.YtoffminccignfaaEngW
import Derived.Test.YtoffminccignfaaCFacts
import Derived.Test.YtoffminccignfaaCFuns0
import Derived.Test.YtoffminccignfaaCFuns1
namespace Go.VM
open Go.Proofs
set_option linter.unusedVariables false
set_option linter.unusedSimpArgs false
set_option maxRecDepth 100000
/-- awardingbody/ratio.Add -/
def ratio_Add (k : Nat) (a0 : Int) (a1 : Int) (b0 : Int) (b1 : Int) : Option (Int × Int × Int) := Option.bind (ratio_Valid k a0 a1) (fun r126 => Option.bind (bif (!r126) then some true else Option.bind (ratio_Valid k b0 b1) (fun r129 => some (!r129)) : Option (Bool)) (fun x3 => bif x3 then some (0, 0, 1) else Option.bind (ratio_gcd k (IntKind.wrap .u64 a1) (IntKind.wrap .u64 b1)) (fun r110 => gnz r110 (gnz r110 (Option.bind (ratio_times k a0 (IntKind.wrap .u64 (Int.tdiv (IntKind.wrap .u64 b1) r110))) (uc fun r122 => fun r13 => Option.bind (ratio_times k b0 (IntKind.wrap .u64 (Int.tdiv (IntKind.wrap .u64 a1) r110))) (uc fun r123 => fun r131 => Option.bind (ratio_wide_plus k (decide (a0 < 0)) r122 r13 (decide (b0 < 0)) r123 r131) (uc fun r11 => uc fun r124 => fun r132 => Option.bind (bif (r124 == 0) then some ((IntKind.wrap .u64 (Int.tdiv (IntKind.wrap .u64 a1) r110)), (IntKind.wrap .u64 (Int.tdiv (IntKind.wrap .u64 b1) r110)), (r132 == 0)) else some ((IntKind.wrap .u64 (Int.tdiv (IntKind.wrap .u64 a1) r110)), (IntKind.wrap .u64 (Int.tdiv (IntKind.wrap .u64 b1) r110)), false) : Option (Int × Int × Bool)) (uc fun p3 => uc fun q3 => fun x5 => bif x5 then some (0, 1, 0) else Option.bind (math_bits_Rem64 k r124 r132 r110) (fun r115 => Option.bind (ratio_gcd k r110 r115) (fun r116 => gnz r116 (Option.bind (math_bits_Mul64 k (IntKind.wrap .u64 (Int.tdiv r110 r116)) p3) (uc fun r117 => fun r118 => bif (r117 != 0) then some (0, 0, 6) else Option.bind (math_bits_Mul64 k r118 q3) (uc fun r119 => fun r1110 => bif (r119 != 0) then some (0, 0, 6) else Option.bind (ratio_wide_over k r11 r124 r132 r116) (uc fun r1111 => fun r134 => Option.bind (ratio_lowest k r11 r1111 r134 r1110) (uc fun r128 => uc fun r142 => fun r152 => some (r128, r142, r152)))))))))))))))))
def ratio_Add_E (a0 : Int) (a1 : Int) (b0 : Int) (b1 : Int) : Int × Int × Int → V × List Blk := uc fun r17 => uc fun r18 => fun r19 => (.tuple [.agg [.d (.int .i64 r17), .d (.int .i64 r18)], .d (.int .i64 r19)], [])
theorem ratio_Add_goes (k : Nat) (a0 : Int) (a1 : Int) (b0 : Int) (b1 : Int) : RunsO Try.prog 51 [.agg [.d (.int .i64 a0), .d (.int .i64 a1)], .agg [.d (.int .i64 b0), .d (.int .i64 b1)]] [] (ratio_Add_E a0 a1 b0 b1) (ratio_Add k a0 a1 b0 b1) := by
  refine RunsO.of_goes (N := 92) (m := 0) (T := [(0, .agg [.d (.int .i64 a0), .d (.int .i64 a1)]), (1, .agg [.d (.int .i64 b0), .d (.int .i64 b1)])]) Try.func51 rfl rfl (by kernel_rfl) (by kernel_rfl) (by kernel_rfl) ?_
  unfold ratio_Add
  refine bStart ?_
  refine oSeq ?_
  refine oRegion rfl ?_
  refine oOp (.ptr 0 0) (by kernel_rfl) (by kernel_rfl) (k_box (H' := [.box [.d (.int .i64 a0), .d (.int .i64 a1)]]) (cells := [.d (.int .i64 a0), .d (.int .i64 a1)]) (by kernel_rfl) (by kernel_rfl) (by kernel_rfl)) ?_
  refine oOp (.ptr 1 0) (by kernel_rfl) (by kernel_rfl) (k_box (H' := [.box [.d (.int .i64 a0), .d (.int .i64 a1)], .box [.d (.int .i64 b0), .d (.int .i64 b1)]]) (cells := [.d (.int .i64 b0), .d (.int .i64 b1)]) (by kernel_rfl) (by kernel_rfl) (by kernel_rfl)) ?_
  refine oOp (.ptr 2 0) (by kernel_rfl) (by kernel_rfl) (k_alloc (H' := [.box [.d (.int .i64 a0), .d (.int .i64 a1)], .box [.d (.int .i64 b0), .d (.int .i64 b1)], .box [.d (.int .i64 0), .d (.int .i64 0)]]) ty37 (by kernel_rfl) (by kernel_rfl)) ?_
  refine oOp (.d (.int .i64 0)) (by kernel_rfl) (by kernel_rfl) (PureV.does (p_assign (by kernel_rfl))) ?_
  refine oEnd ?_
  refine oSeq ?_
  refine oSeq ?_
  refine oRegion rfl ?_
  refine oOp (.agg [.d (.int .i64 a0), .d (.int .i64 a1)]) (by kernel_rfl) (by kernel_rfl) (Quiet.does (k_loadAgg 0 0 (by kernel_rfl) Try.underlying37 (by kernel_rfl) ty37 (by kernel_rfl))) ?_
  refine bCall (caps := []) (v := (fun (r126 : Bool) => (.d (.bool r126) : V))) (H' := (fun (r126 : Bool) => ([.box [.d (.int .i64 a0), .d (.int .i64 a1)], .box [.d (.int .i64 b0), .d (.int .i64 b1)], .box [.d (.int .i64 0), .d (.int .i64 0)]] : List Blk))) [] _ (ratio_Valid_goes k a0 a1) (by kernel_rfl) (by kernel_rfl) rfl (by kernel_rfl) Try.func24 rfl (by kernel_rfl) (ConvRs.refl _ _) (by kernel_rfl) (by kernel_rfl) (by kernel_rfl) (by decide) (by kernel_rfl) (by kernel_rfl) (fun _ => (by kernel_rfl)) (fun _ => (by kernel_rfl)) (fun _ => (by kernel_rfl)) (fun r126 => ?_)
  refine oOp (.d (.bool (!r126))) (by kernel_rfl) (by kernel_rfl) (PureV.does (p_not (p := r126) (by kernel_rfl) (by kernel_rfl))) ?_
  refine oOp (.d (.bool (!r126))) (by kernel_rfl) (by kernel_rfl) (PureV.does (p_move (by kernel_rfl))) ?_
  refine bMeet 4 rfl ((fun (x3 : Bool) => [(2, .ptr 0 0), (3, .ptr 1 0), (4, .ptr 2 0), (20, .d (.bool x3))])) ((fun (x3 : Bool) => [.box [.d (.int .i64 a0), .d (.int .i64 a1)], .box [.d (.int .i64 b0), .d (.int .i64 b1)], .box [.d (.int .i64 0), .d (.int .i64 0)]])) (fun s => s) (fun x3 => ?_) (fun hj2 => ?_)
  ·refine oView (T' := [(2, .ptr 0 0), (3, .ptr 1 0), (4, .ptr 2 0), (20, .d (.bool x3))]) (H' := [.box [.d (.int .i64 a0), .d (.int .i64 a1)], .box [.d (.int .i64 b0), .d (.int .i64 b1)], .box [.d (.int .i64 0), .d (.int .i64 0)]]) (by kernel_rfl) (by kernel_rfl) ?_
   refine oEnd ?_
   refine bSplit 20 (by kernel_rfl) (fun hc => ?_) (fun hc => ?_)
   ·refine oCondT (by kernel_rfl) ?_
    refine oSeq ?_
    refine oRegion rfl ?_
    refine oOp (.agg [.d (.int .i64 0), .d (.int .i64 0)]) (by kernel_rfl) (by kernel_rfl) (PureV.does (p_build bld37 (by kernel_rfl))) ?_
    refine oOp (.undef) (by kernel_rfl) (by kernel_rfl) (k_store (vs := [.d (.int .i64 0), .d (.int .i64 0)]) (H' := [.box [.d (.int .i64 a0), .d (.int .i64 a1)], .box [.d (.int .i64 b0), .d (.int .i64 b1)], .box [.d (.int .i64 0), .d (.int .i64 0)]]) 2 0 (by kernel_rfl) ty37 (by kernel_rfl) (by kernel_rfl) (by kernel_rfl)) ?_
    refine oOp (.d (.int .i64 1)) (by kernel_rfl) (by kernel_rfl) (PureV.does (p_assign (by kernel_rfl))) ?_
    refine oEnd ?_
    exact oRet (r0 := (0, 0, 1)) (rv := .tuple [.agg [.d (.int .i64 0), .d (.int .i64 0)], .d (.int .i64 1)]) (B := []) (vs := [.agg [.d (.int .i64 0), .d (.int .i64 0)], .d (.int .i64 1)]) (σ := []) (by kernel_rfl) Try.func51 rfl (.cons _ _ _ _ (.agg 4 37 2 0 [.d (.int .i64 0), .d (.int .i64 0)] [.d (.int .i64 0), .d (.int .i64 0)] _ _ _ _ (by kernel_rfl) (by kernel_rfl) Try.underlying37 (by kernel_rfl) ty37 (by kernel_rfl) (by kernel_rfl)) (.cons _ _ _ _ (.tmp 5 _ (by kernel_rfl)) .nil)) (by kernel_rfl) (by kernel_rfl) (by kernel_rfl) (by kernel_rfl) (by decide) (by kernel_rfl) (by kernel_rfl)
   ·refine oCondF (by kernel_rfl) ?_
    refine oSkip ?_
    refine oSeq ?_
    refine oRegion rfl ?_
    refine oOp (.ptr 0 1) (by kernel_rfl) (by kernel_rfl) (PureV.does (k_fieldAddr 0 0 (by kernel_rfl) Try.underlying37 rfl ty3 (by kernel_rfl))) ?_
    refine oOp (.d (.int .i64 a1)) (by kernel_rfl) (by kernel_rfl) (Quiet.does (k_load 0 1 (by kernel_rfl) Try.underlying3 (by kernel_rfl) (by kernel_rfl))) ?_
    refine oOp (.d (.int .u64 (IntKind.wrap .u64 a1))) (by kernel_rfl) (by kernel_rfl) (PureV.does (p_conv (k := .i64) (p := a1) (by kernel_rfl) Try.underlying3 Try.underlying64 (by kernel_rfl))) ?_
    refine oOp (.ptr 1 1) (by kernel_rfl) (by kernel_rfl) (PureV.does (k_fieldAddr 1 0 (by kernel_rfl) Try.underlying37 rfl ty3 (by kernel_rfl))) ?_
    refine oOp (.d (.int .i64 b1)) (by kernel_rfl) (by kernel_rfl) (Quiet.does (k_load 1 1 (by kernel_rfl) Try.underlying3 (by kernel_rfl) (by kernel_rfl))) ?_
    refine oOp (.d (.int .u64 (IntKind.wrap .u64 b1))) (by kernel_rfl) (by kernel_rfl) (PureV.does (p_conv (k := .i64) (p := b1) (by kernel_rfl) Try.underlying3 Try.underlying64 (by kernel_rfl))) ?_
    refine bCall (caps := []) (v := (fun (r110 : Int) => (.d (.int .u64 r110) : V))) (H' := (fun (r110 : Int) => ([.box [.d (.int .i64 a0), .d (.int .i64 a1)], .box [.d (.int .i64 b0), .d (.int .i64 b1)], .box [.d (.int .i64 0), .d (.int .i64 0)]] : List Blk))) [] _ (ratio_gcd_goes k (IntKind.wrap .u64 a1) (IntKind.wrap .u64 b1)) (by kernel_rfl) (by kernel_rfl) rfl (by kernel_rfl) Try.func35 rfl (by kernel_rfl) (ConvRs.refl _ _) (by kernel_rfl) (by kernel_rfl) (by kernel_rfl) (by decide) (by kernel_rfl) (by kernel_rfl) (fun _ => (by kernel_rfl)) (fun _ => (by kernel_rfl)) (fun _ => (by kernel_rfl)) (fun r110 => ?_)
    refine oOp (.d (.int .u64 r110)) (by kernel_rfl) (by kernel_rfl) (PureV.does (p_assign (by kernel_rfl))) ?_
    refine oEnd ?_
    refine oSeq ?_
    refine oDraw [(0, 12), (1, 12), (2, 12)] rfl ?_
    refine aTakeL (i := 0) (st' := []) (.ptr 0 1) rfl (by kernel_rfl) (by kernel_rfl) (by kernel_rfl) (by kernel_rfl) (by kernel_rfl) (by kernel_rfl) (by kernel_rfl) (PureV.quiet (k_fieldAddr 0 0 (by kernel_rfl) Try.underlying37 rfl ty3 (by kernel_rfl)) []) ?_
    refine aTakeL (i := 1) (st' := [0]) (.d (.int .i64 a1)) rfl (by kernel_rfl) (by kernel_rfl) (by kernel_rfl) (by kernel_rfl) (by kernel_rfl) (by kernel_rfl) (by kernel_rfl) (k_load 0 1 (by kernel_rfl) Try.underlying3 (by kernel_rfl) (by kernel_rfl)) ?_
    refine aTakeL (i := 2) (st' := []) (.d (.int .u64 (IntKind.wrap .u64 a1))) rfl (by kernel_rfl) (by kernel_rfl) (by kernel_rfl) (by kernel_rfl) (by kernel_rfl) (by kernel_rfl) (by kernel_rfl) (PureV.quiet (p_conv (k := .i64) (p := a1) (by kernel_rfl) Try.underlying3 Try.underlying64 (by kernel_rfl)) []) ?_
    refine aTakeL (i := 3) (st' := []) (.d (.int .u64 r110)) rfl (by kernel_rfl) (by kernel_rfl) (by kernel_rfl) (by kernel_rfl) (by kernel_rfl) (by kernel_rfl) (by kernel_rfl) (PureV.quiet (p_move (by kernel_rfl)) []) ?_
    refine dNz (fun h1 => ?_)
    refine aTakeP (i := 4) (.d (.int .u64 (IntKind.wrap .u64 (Int.tdiv (IntKind.wrap .u64 a1) r110)))) rfl (by kernel_rfl) (by kernel_rfl) (by kernel_rfl) (by kernel_rfl) (by kernel_rfl) (by kernel_rfl) (by kernel_rfl) (p_quo (k := .u64) (p := (IntKind.wrap .u64 a1)) (q := r110) (by kernel_rfl) (by kernel_rfl) h1 (by kernel_rfl)) ?_
    refine aTakeL (i := 5) (st' := []) (.ptr 1 1) rfl (by kernel_rfl) (by kernel_rfl) (by kernel_rfl) (by kernel_rfl) (by kernel_rfl) (by kernel_rfl) (by kernel_rfl) (PureV.quiet (k_fieldAddr 1 0 (by kernel_rfl) Try.underlying37 rfl ty3 (by kernel_rfl)) []) ?_
    refine aTakeL (i := 6) (st' := [1]) (.d (.int .i64 b1)) rfl (by kernel_rfl) (by kernel_rfl) (by kernel_rfl) (by kernel_rfl) (by kernel_rfl) (by kernel_rfl) (by kernel_rfl) (k_load 1 1 (by kernel_rfl) Try.underlying3 (by kernel_rfl) (by kernel_rfl)) ?_
    refine aTakeL (i := 7) (st' := []) (.d (.int .u64 (IntKind.wrap .u64 b1))) rfl (by kernel_rfl) (by kernel_rfl) (by kernel_rfl) (by kernel_rfl) (by kernel_rfl) (by kernel_rfl) (by kernel_rfl) (PureV.quiet (p_conv (k := .i64) (p := b1) (by kernel_rfl) Try.underlying3 Try.underlying64 (by kernel_rfl)) []) ?_
    refine aTakeL (i := 8) (st' := []) (.d (.int .u64 r110)) rfl (by kernel_rfl) (by kernel_rfl) (by kernel_rfl) (by kernel_rfl) (by kernel_rfl) (by kernel_rfl) (by kernel_rfl) (PureV.quiet (p_move (by kernel_rfl)) []) ?_
    refine dNz (fun h12 => ?_)
    refine aTakeP (i := 9) (.d (.int .u64 (IntKind.wrap .u64 (Int.tdiv (IntKind.wrap .u64 b1) r110)))) rfl (by kernel_rfl) (by kernel_rfl) (by kernel_rfl) (by kernel_rfl) (by kernel_rfl) (by kernel_rfl) (by kernel_rfl) (p_quo (k := .u64) (p := (IntKind.wrap .u64 b1)) (q := r110) (by kernel_rfl) (by kernel_rfl) h12 (by kernel_rfl)) ?_
    refine aTakeL (i := 10) (st' := []) (.d (.int .u64 (IntKind.wrap .u64 (Int.tdiv (IntKind.wrap .u64 a1) r110)))) rfl (by kernel_rfl) (by kernel_rfl) (by kernel_rfl) (by kernel_rfl) (by kernel_rfl) (by kernel_rfl) (by kernel_rfl) (PureV.quiet (p_assign (by kernel_rfl)) []) ?_
    refine aTakeL (i := 11) (st' := []) (.d (.int .u64 (IntKind.wrap .u64 (Int.tdiv (IntKind.wrap .u64 b1) r110)))) rfl (by kernel_rfl) (by kernel_rfl) (by kernel_rfl) (by kernel_rfl) (by kernel_rfl) (by kernel_rfl) (by kernel_rfl) (PureV.quiet (p_assign (by kernel_rfl)) []) ?_
    refine aDone (by kernel_rfl) ?_
    refine oSeq ?_
    refine oDraw [(0, 11), (1, 11), (2, 11)] rfl ?_
    refine aTakeL (i := 0) (st' := []) (.ptr 0 0) rfl (by kernel_rfl) (by kernel_rfl) (by kernel_rfl) (by kernel_rfl) (by kernel_rfl) (by kernel_rfl) (by kernel_rfl) (PureV.quiet (k_fieldAddr 0 0 (by kernel_rfl) Try.underlying37 rfl ty3 (by kernel_rfl)) []) ?_
    refine aTakeL (i := 1) (st' := [0]) (.d (.int .i64 a0)) rfl (by kernel_rfl) (by kernel_rfl) (by kernel_rfl) (by kernel_rfl) (by kernel_rfl) (by kernel_rfl) (by kernel_rfl) (k_load 0 0 (by kernel_rfl) Try.underlying3 (by kernel_rfl) (by kernel_rfl)) ?_
    refine aTakeL (i := 2) (st' := []) (.d (.int .u64 (IntKind.wrap .u64 (Int.tdiv (IntKind.wrap .u64 b1) r110)))) rfl (by kernel_rfl) (by kernel_rfl) (by kernel_rfl) (by kernel_rfl) (by kernel_rfl) (by kernel_rfl) (by kernel_rfl) (PureV.quiet (p_move (by kernel_rfl)) []) ?_
    refine aTakeL (i := 4) (st' := []) (.ptr 1 0) rfl (by kernel_rfl) (by kernel_rfl) (by kernel_rfl) (by kernel_rfl) (by kernel_rfl) (by kernel_rfl) (by kernel_rfl) (PureV.quiet (k_fieldAddr 1 0 (by kernel_rfl) Try.underlying37 rfl ty3 (by kernel_rfl)) []) ?_
    refine aTakeL (i := 5) (st' := [1]) (.d (.int .i64 b0)) rfl (by kernel_rfl) (by kernel_rfl) (by kernel_rfl) (by kernel_rfl) (by kernel_rfl) (by kernel_rfl) (by kernel_rfl) (k_load 1 0 (by kernel_rfl) Try.underlying3 (by kernel_rfl) (by kernel_rfl)) ?_
    refine aTakeL (i := 6) (st' := []) (.d (.int .u64 (IntKind.wrap .u64 (Int.tdiv (IntKind.wrap .u64 a1) r110)))) rfl (by kernel_rfl) (by kernel_rfl) (by kernel_rfl) (by kernel_rfl) (by kernel_rfl) (by kernel_rfl) (by kernel_rfl) (PureV.quiet (p_move (by kernel_rfl)) []) ?_
    refine dCall (i := 3) (caps := []) (v := (uc fun (r122 : Int) => (fun (r13 : Int) => (.agg [.d (.bool (decide (a0 < 0))), .d (.int .u64 r122), .d (.int .u64 r13)] : V)))) (H' := (uc fun (r122 : Int) => (fun (r13 : Int) => ([.box [.d (.int .i64 a0), .d (.int .i64 a1)], .box [.d (.int .i64 b0), .d (.int .i64 b1)], .box [.d (.int .i64 0), .d (.int .i64 0)]] : List Blk)))) [] _ (ratio_times_goes k a0 (IntKind.wrap .u64 (Int.tdiv (IntKind.wrap .u64 b1) r110))) rfl (by kernel_rfl) (by kernel_rfl) (by kernel_rfl) (by kernel_rfl) (by kernel_rfl) (by kernel_rfl) (by kernel_rfl) (by kernel_rfl) rfl (by kernel_rfl) Try.func48 rfl (by kernel_rfl) (ConvRs.refl _ _) (by kernel_rfl) (by kernel_rfl) (by kernel_rfl) (by decide) (by kernel_rfl) (by kernel_rfl) (fun _ => (by kernel_rfl)) (fun _ => (by kernel_rfl)) (fun _ => (by kernel_rfl)) (fun r => ?_)
    obtain ⟨r122, r13⟩ := r
    refine dUc ?_
    refine dCall (i := 7) (caps := []) (v := (uc fun (r123 : Int) => (fun (r131 : Int) => (.agg [.d (.bool (decide (b0 < 0))), .d (.int .u64 r123), .d (.int .u64 r131)] : V)))) (H' := (uc fun (r123 : Int) => (fun (r131 : Int) => ([.box [.d (.int .i64 a0), .d (.int .i64 a1)], .box [.d (.int .i64 b0), .d (.int .i64 b1)], .box [.d (.int .i64 0), .d (.int .i64 0)]] : List Blk)))) [] _ (ratio_times_goes k b0 (IntKind.wrap .u64 (Int.tdiv (IntKind.wrap .u64 a1) r110))) rfl (by kernel_rfl) (by kernel_rfl) (by kernel_rfl) (by kernel_rfl) (by kernel_rfl) (by kernel_rfl) (by kernel_rfl) (by kernel_rfl) rfl (by kernel_rfl) Try.func48 rfl (by kernel_rfl) (ConvRs.refl _ _) (by kernel_rfl) (by kernel_rfl) (by kernel_rfl) (by decide) (by kernel_rfl) (by kernel_rfl) (fun _ => (by kernel_rfl)) (fun _ => (by kernel_rfl)) (fun _ => (by kernel_rfl)) (fun r => ?_)
    obtain ⟨r123, r131⟩ := r
    refine dUc ?_
    refine dCall (i := 8) (caps := []) (v := (uc fun (r11 : Bool) => (uc fun (r124 : Int) => (fun (r132 : Int) => (.agg [.d (.bool r11), .d (.int .u64 r124), .d (.int .u64 r132)] : V))))) (H' := (uc fun (r11 : Bool) => (uc fun (r124 : Int) => (fun (r132 : Int) => ([.box [.d (.int .i64 a0), .d (.int .i64 a1)], .box [.d (.int .i64 b0), .d (.int .i64 b1)], .box [.d (.int .i64 0), .d (.int .i64 0)]] : List Blk))))) [] _ (ratio_wide_plus_goes k (decide (a0 < 0)) r122 r13 (decide (b0 < 0)) r123 r131) rfl (by kernel_rfl) (by kernel_rfl) (by kernel_rfl) (by kernel_rfl) (by kernel_rfl) (by kernel_rfl) (by kernel_rfl) (by kernel_rfl) rfl (by kernel_rfl) Try.func70 rfl (by kernel_rfl) (ConvRs.refl _ _) (by kernel_rfl) (by kernel_rfl) (by kernel_rfl) (by decide) (by kernel_rfl) (by kernel_rfl) (fun _ => (by kernel_rfl)) (fun _ => (by kernel_rfl)) (fun _ => (by kernel_rfl)) (fun r => ?_)
    obtain ⟨r11, r124, r132⟩ := r
    refine dUc ?_
    refine dUc ?_
    refine aAlloc (i := 9) (d := 9) rfl (by kernel_rfl) (by kernel_rfl) rfl rfl (by kernel_rfl) (by kernel_rfl) ty80 (cells := [.d (.bool false), .d (.int .u64 0), .d (.int .u64 0)]) (by kernel_rfl) (by kernel_rfl) ?_
    refine dView (H' := [.box [.d (.int .i64 a0), .d (.int .i64 a1)], .box [.d (.int .i64 b0), .d (.int .i64 b1)], .box [.d (.int .i64 0), .d (.int .i64 0)], .box [.d (.bool false), .d (.int .u64 0), .d (.int .u64 0)]]) rfl rfl (by kernel_rfl) ?_
    refine aOne (i := 10) (v := .undef) rfl (by kernel_rfl) (by kernel_rfl) (by kernel_rfl) (by kernel_rfl) (by kernel_rfl) (by kernel_rfl) (by kernel_rfl) (Does.acts (k_store (vs := [.d (.bool r11), .d (.int .u64 r124), .d (.int .u64 r132)]) (H' := [.box [.d (.int .i64 a0), .d (.int .i64 a1)], .box [.d (.int .i64 b0), .d (.int .i64 b1)], .box [.d (.int .i64 0), .d (.int .i64 0)], .box [.d (.bool r11), .d (.int .u64 r124), .d (.int .u64 r132)]]) 3 0 (by kernel_rfl) ty80 (by kernel_rfl) (by kernel_rfl) (by kernel_rfl))) (by kernel_rfl) ?_
    refine aDone (by kernel_rfl) ?_
    refine oSeq ?_
    refine oSeq ?_
    refine oRegion rfl ?_
    refine oOp (.ptr 3 1) (by kernel_rfl) (by kernel_rfl) (PureV.does (k_fieldAddr 3 0 (by kernel_rfl) Try.underlying80 rfl ty64 (by kernel_rfl))) ?_
    refine oOp (.d (.int .u64 r124)) (by kernel_rfl) (by kernel_rfl) (Quiet.does (k_load 3 1 (by kernel_rfl) Try.underlying64 (by kernel_rfl) (by kernel_rfl))) ?_
    refine oOp (.d (.bool (r124 == 0))) (by kernel_rfl) (by kernel_rfl) (PureV.does (p_int (k := .u64) (p := r124) (q := 0) (by kernel_rfl) (by kernel_rfl) (by kernel_rfl))) ?_
    refine oOp (.d (.bool (r124 == 0))) (by kernel_rfl) (by kernel_rfl) (PureV.does (p_move (by kernel_rfl))) ?_
    refine bMeet 4 rfl ((uc fun (p3 : Int) => (uc fun (q3 : Int) => (fun (x5 : Bool) => [(4, .ptr 0 0), (6, .d (.int .u64 r110)), (7, .d (.int .u64 p3)), (8, .d (.int .u64 q3)), (9, .ptr 1 0), (55, .d (.bool x5))])))) ((uc fun (p3 : Int) => (uc fun (q3 : Int) => (fun (x5 : Bool) => [.box [.d (.int .i64 0), .d (.int .i64 0)], .box [.d (.bool r11), .d (.int .u64 r124), .d (.int .u64 r132)]])))) (fun s => s) (fun s => ?_) (fun hj1 => ?_)
    ·obtain ⟨p3, q3, x5⟩ := s
     refine bUc ?_
     refine bUc ?_
     refine oView (T' := [(4, .ptr 0 0), (6, .d (.int .u64 r110)), (7, .d (.int .u64 p3)), (8, .d (.int .u64 q3)), (9, .ptr 1 0), (55, .d (.bool x5))]) (H' := [.box [.d (.int .i64 0), .d (.int .i64 0)], .box [.d (.bool r11), .d (.int .u64 r124), .d (.int .u64 r132)]]) (by kernel_rfl) (by kernel_rfl) ?_
     refine oEnd ?_
     refine bSplit 55 (by kernel_rfl) (fun hc => ?_) (fun hc => ?_)
     ·refine oCondT (by kernel_rfl) ?_
      refine oSeq ?_
      refine oRegion rfl ?_
      refine oOp (.agg [.d (.int .i64 0), .d (.int .i64 1)]) (by kernel_rfl) (by kernel_rfl) (PureV.does (p_build bld37 (by kernel_rfl))) ?_
      refine oOp (.undef) (by kernel_rfl) (by kernel_rfl) (k_store (vs := [.d (.int .i64 0), .d (.int .i64 1)]) (H' := [.box [.d (.int .i64 0), .d (.int .i64 1)], .box [.d (.bool r11), .d (.int .u64 r124), .d (.int .u64 r132)]]) 0 0 (by kernel_rfl) ty37 (by kernel_rfl) (by kernel_rfl) (by kernel_rfl)) ?_
      refine oOp (.d (.int .i64 0)) (by kernel_rfl) (by kernel_rfl) (PureV.does (p_assign (by kernel_rfl))) ?_
      refine oEnd ?_
      exact oRet (r0 := (0, 1, 0)) (rv := .tuple [.agg [.d (.int .i64 0), .d (.int .i64 1)], .d (.int .i64 0)]) (B := []) (vs := [.agg [.d (.int .i64 0), .d (.int .i64 1)], .d (.int .i64 0)]) (σ := []) (by kernel_rfl) Try.func51 rfl (.cons _ _ _ _ (.agg 4 37 0 0 [.d (.int .i64 0), .d (.int .i64 1)] [.d (.int .i64 0), .d (.int .i64 1)] _ _ _ _ (by kernel_rfl) (by kernel_rfl) Try.underlying37 (by kernel_rfl) ty37 (by kernel_rfl) (by kernel_rfl)) (.cons _ _ _ _ (.tmp 5 _ (by kernel_rfl)) .nil)) (by kernel_rfl) (by kernel_rfl) (by kernel_rfl) (by kernel_rfl) (by decide) (by kernel_rfl) (by kernel_rfl)
     ·refine oCondF (by kernel_rfl) ?_
      refine oSkip ?_
      refine oSeq ?_
      refine oRegion rfl ?_
      refine oOp (.d (.int .u64 r110)) (by kernel_rfl) (by kernel_rfl) (PureV.does (p_move (by kernel_rfl))) ?_
      refine oOp (.ptr 1 1) (by kernel_rfl) (by kernel_rfl) (PureV.does (k_fieldAddr 1 0 (by kernel_rfl) Try.underlying80 rfl ty64 (by kernel_rfl))) ?_
      refine oOp (.d (.int .u64 r124)) (by kernel_rfl) (by kernel_rfl) (Quiet.does (k_load 1 1 (by kernel_rfl) Try.underlying64 (by kernel_rfl) (by kernel_rfl))) ?_
      refine oOp (.ptr 1 2) (by kernel_rfl) (by kernel_rfl) (PureV.does (k_fieldAddr 1 0 (by kernel_rfl) Try.underlying80 rfl ty64 (by kernel_rfl))) ?_
      refine oOp (.d (.int .u64 r132)) (by kernel_rfl) (by kernel_rfl) (Quiet.does (k_load 1 2 (by kernel_rfl) Try.underlying64 (by kernel_rfl) (by kernel_rfl))) ?_
      refine oOp (.d (.int .u64 r110)) (by kernel_rfl) (by kernel_rfl) (PureV.does (p_move (by kernel_rfl))) ?_
      refine bCall (caps := []) (v := (fun (r115 : Int) => (.d (.int .u64 r115) : V))) (H' := (fun (r115 : Int) => ([.box [.d (.int .i64 0), .d (.int .i64 0)], .box [.d (.bool r11), .d (.int .u64 r124), .d (.int .u64 r132)]] : List Blk))) [] _ (math_bits_Rem64_goes k r124 r132 r110) (by kernel_rfl) (by kernel_rfl) rfl (by kernel_rfl) Try.func71 rfl (by kernel_rfl) (ConvRs.refl _ _) (by kernel_rfl) (by kernel_rfl) (by kernel_rfl) (by decide) (by kernel_rfl) (by kernel_rfl) (fun _ => (by kernel_rfl)) (fun _ => (by kernel_rfl)) (fun _ => (by kernel_rfl)) (fun r115 => ?_)
      refine bCall (caps := []) (v := (fun (r116 : Int) => (.d (.int .u64 r116) : V))) (H' := (fun (r116 : Int) => ([.box [.d (.int .i64 0), .d (.int .i64 0)], .box [.d (.bool r11), .d (.int .u64 r124), .d (.int .u64 r132)]] : List Blk))) [] _ (ratio_gcd_goes k r110 r115) (by kernel_rfl) (by kernel_rfl) rfl (by kernel_rfl) Try.func35 rfl (by kernel_rfl) (ConvRs.refl _ _) (by kernel_rfl) (by kernel_rfl) (by kernel_rfl) (by decide) (by kernel_rfl) (by kernel_rfl) (fun _ => (by kernel_rfl)) (fun _ => (by kernel_rfl)) (fun _ => (by kernel_rfl)) (fun r116 => ?_)
      refine oOp (.d (.int .u64 r116)) (by kernel_rfl) (by kernel_rfl) (PureV.does (p_assign (by kernel_rfl))) ?_
      refine oEnd ?_
      refine oSeq ?_
      refine oRegion rfl ?_
      refine oOp (.d (.int .u64 r110)) (by kernel_rfl) (by kernel_rfl) (PureV.does (p_move (by kernel_rfl))) ?_
      refine oOp (.d (.int .u64 r116)) (by kernel_rfl) (by kernel_rfl) (PureV.does (p_move (by kernel_rfl))) ?_
      refine bNz (fun h111 => ?_)
      refine oOp (.d (.int .u64 (IntKind.wrap .u64 (Int.tdiv r110 r116)))) (by kernel_rfl) (by kernel_rfl) (PureV.does (p_quo (k := .u64) (p := r110) (q := r116) (by kernel_rfl) (by kernel_rfl) h111 (by kernel_rfl))) ?_
      refine oOp (.d (.int .u64 p3)) (by kernel_rfl) (by kernel_rfl) (PureV.does (p_move (by kernel_rfl))) ?_
      refine bCall (caps := []) (v := (uc fun (r117 : Int) => (fun (r118 : Int) => (.tuple [.d (.int .u64 r117), .d (.int .u64 r118)] : V)))) (H' := (uc fun (r117 : Int) => (fun (r118 : Int) => ([.box [.d (.int .i64 0), .d (.int .i64 0)], .box [.d (.bool r11), .d (.int .u64 r124), .d (.int .u64 r132)]] : List Blk)))) [] _ (math_bits_Mul64_goes k (IntKind.wrap .u64 (Int.tdiv r110 r116)) p3) (by kernel_rfl) (by kernel_rfl) rfl (by kernel_rfl) Try.func59 rfl (by kernel_rfl) (ConvRs.refl _ _) (by kernel_rfl) (by kernel_rfl) (by kernel_rfl) (by decide) (by kernel_rfl) (by kernel_rfl) (fun _ => (by kernel_rfl)) (fun _ => (by kernel_rfl)) (fun _ => (by kernel_rfl)) (fun r => ?_)
      obtain ⟨r117, r118⟩ := r
      refine bUc ?_
      refine oOp (.tuple [.d (.int .u64 r117), .d (.int .u64 r118)]) (by kernel_rfl) (by kernel_rfl) (PureV.does (p_move (by kernel_rfl))) ?_
      refine oOp (.d (.int .u64 r117)) (by kernel_rfl) (by kernel_rfl) (PureV.does (k_extract (by kernel_rfl))) ?_
      refine oOp (.d (.int .u64 r118)) (by kernel_rfl) (by kernel_rfl) (PureV.does (k_extract (by kernel_rfl))) ?_
      refine oOp (.d (.int .u64 r117)) (by kernel_rfl) (by kernel_rfl) (PureV.does (p_assign (by kernel_rfl))) ?_
      refine oOp (.d (.int .u64 r118)) (by kernel_rfl) (by kernel_rfl) (PureV.does (p_assign (by kernel_rfl))) ?_
      refine oEnd ?_
      refine oSeq ?_
      refine oSeq ?_
      refine oRegion rfl ?_
      refine oOp (.d (.int .u64 r117)) (by kernel_rfl) (by kernel_rfl) (PureV.does (p_move (by kernel_rfl))) ?_
      refine oOp (.d (.bool (r117 != 0))) (by kernel_rfl) (by kernel_rfl) (PureV.does (p_int (k := .u64) (p := r117) (q := 0) (by kernel_rfl) (by kernel_rfl) (by kernel_rfl))) ?_
      refine oEnd ?_
      refine bSplit 74 (by kernel_rfl) (fun hc => ?_) (fun hc => ?_)
      ·refine oCondT (by kernel_rfl) ?_
       refine oSeq ?_
       refine oRegion rfl ?_
       refine oOp (.agg [.d (.int .i64 0), .d (.int .i64 0)]) (by kernel_rfl) (by kernel_rfl) (PureV.does (p_build bld37 (by kernel_rfl))) ?_
       refine oOp (.undef) (by kernel_rfl) (by kernel_rfl) (k_store (vs := [.d (.int .i64 0), .d (.int .i64 0)]) (H' := [.box [.d (.int .i64 0), .d (.int .i64 0)], .box [.d (.bool r11), .d (.int .u64 r124), .d (.int .u64 r132)]]) 0 0 (by kernel_rfl) ty37 (by kernel_rfl) (by kernel_rfl) (by kernel_rfl)) ?_
       refine oOp (.d (.int .i64 6)) (by kernel_rfl) (by kernel_rfl) (PureV.does (p_assign (by kernel_rfl))) ?_
       refine oEnd ?_
       exact oRet (r0 := (0, 0, 6)) (rv := .tuple [.agg [.d (.int .i64 0), .d (.int .i64 0)], .d (.int .i64 6)]) (B := []) (vs := [.agg [.d (.int .i64 0), .d (.int .i64 0)], .d (.int .i64 6)]) (σ := []) (by kernel_rfl) Try.func51 rfl (.cons _ _ _ _ (.agg 4 37 0 0 [.d (.int .i64 0), .d (.int .i64 0)] [.d (.int .i64 0), .d (.int .i64 0)] _ _ _ _ (by kernel_rfl) (by kernel_rfl) Try.underlying37 (by kernel_rfl) ty37 (by kernel_rfl) (by kernel_rfl)) (.cons _ _ _ _ (.tmp 5 _ (by kernel_rfl)) .nil)) (by kernel_rfl) (by kernel_rfl) (by kernel_rfl) (by kernel_rfl) (by decide) (by kernel_rfl) (by kernel_rfl)
      ·refine oCondF (by kernel_rfl) ?_
       refine oSkip ?_
       refine oSeq ?_
       refine oRegion rfl ?_
       refine oOp (.d (.int .u64 r118)) (by kernel_rfl) (by kernel_rfl) (PureV.does (p_move (by kernel_rfl))) ?_
       refine oOp (.d (.int .u64 q3)) (by kernel_rfl) (by kernel_rfl) (PureV.does (p_move (by kernel_rfl))) ?_
       refine bCall (caps := []) (v := (uc fun (r119 : Int) => (fun (r1110 : Int) => (.tuple [.d (.int .u64 r119), .d (.int .u64 r1110)] : V)))) (H' := (uc fun (r119 : Int) => (fun (r1110 : Int) => ([.box [.d (.int .i64 0), .d (.int .i64 0)], .box [.d (.bool r11), .d (.int .u64 r124), .d (.int .u64 r132)]] : List Blk)))) [] _ (math_bits_Mul64_goes k r118 q3) (by kernel_rfl) (by kernel_rfl) rfl (by kernel_rfl) Try.func59 rfl (by kernel_rfl) (ConvRs.refl _ _) (by kernel_rfl) (by kernel_rfl) (by kernel_rfl) (by decide) (by kernel_rfl) (by kernel_rfl) (fun _ => (by kernel_rfl)) (fun _ => (by kernel_rfl)) (fun _ => (by kernel_rfl)) (fun r => ?_)
       obtain ⟨r119, r1110⟩ := r
       refine bUc ?_
       refine oOp (.tuple [.d (.int .u64 r119), .d (.int .u64 r1110)]) (by kernel_rfl) (by kernel_rfl) (PureV.does (p_move (by kernel_rfl))) ?_
       refine oOp (.d (.int .u64 r119)) (by kernel_rfl) (by kernel_rfl) (PureV.does (k_extract (by kernel_rfl))) ?_
       refine oOp (.d (.int .u64 r1110)) (by kernel_rfl) (by kernel_rfl) (PureV.does (k_extract (by kernel_rfl))) ?_
       refine oOp (.d (.int .u64 r119)) (by kernel_rfl) (by kernel_rfl) (PureV.does (p_assign (by kernel_rfl))) ?_
       refine oOp (.d (.int .u64 r1110)) (by kernel_rfl) (by kernel_rfl) (PureV.does (p_assign (by kernel_rfl))) ?_
       refine oEnd ?_
       refine oSeq ?_
       refine oSeq ?_
       refine oRegion rfl ?_
       refine oOp (.d (.int .u64 r119)) (by kernel_rfl) (by kernel_rfl) (PureV.does (p_move (by kernel_rfl))) ?_
       refine oOp (.d (.bool (r119 != 0))) (by kernel_rfl) (by kernel_rfl) (PureV.does (p_int (k := .u64) (p := r119) (q := 0) (by kernel_rfl) (by kernel_rfl) (by kernel_rfl))) ?_
       refine oEnd ?_
       refine bSplit 83 (by kernel_rfl) (fun hc => ?_) (fun hc => ?_)
       ·refine oCondT (by kernel_rfl) ?_
        refine oSeq ?_
        refine oRegion rfl ?_
        refine oOp (.agg [.d (.int .i64 0), .d (.int .i64 0)]) (by kernel_rfl) (by kernel_rfl) (PureV.does (p_build bld37 (by kernel_rfl))) ?_
        refine oOp (.undef) (by kernel_rfl) (by kernel_rfl) (k_store (vs := [.d (.int .i64 0), .d (.int .i64 0)]) (H' := [.box [.d (.int .i64 0), .d (.int .i64 0)], .box [.d (.bool r11), .d (.int .u64 r124), .d (.int .u64 r132)]]) 0 0 (by kernel_rfl) ty37 (by kernel_rfl) (by kernel_rfl) (by kernel_rfl)) ?_
        refine oOp (.d (.int .i64 6)) (by kernel_rfl) (by kernel_rfl) (PureV.does (p_assign (by kernel_rfl))) ?_
        refine oEnd ?_
        exact oRet (r0 := (0, 0, 6)) (rv := .tuple [.agg [.d (.int .i64 0), .d (.int .i64 0)], .d (.int .i64 6)]) (B := []) (vs := [.agg [.d (.int .i64 0), .d (.int .i64 0)], .d (.int .i64 6)]) (σ := []) (by kernel_rfl) Try.func51 rfl (.cons _ _ _ _ (.agg 4 37 0 0 [.d (.int .i64 0), .d (.int .i64 0)] [.d (.int .i64 0), .d (.int .i64 0)] _ _ _ _ (by kernel_rfl) (by kernel_rfl) Try.underlying37 (by kernel_rfl) ty37 (by kernel_rfl) (by kernel_rfl)) (.cons _ _ _ _ (.tmp 5 _ (by kernel_rfl)) .nil)) (by kernel_rfl) (by kernel_rfl) (by kernel_rfl) (by kernel_rfl) (by decide) (by kernel_rfl) (by kernel_rfl)
       ·refine oCondF (by kernel_rfl) ?_
        refine oSkip ?_
        refine oSeq ?_
        refine oRegion rfl ?_
        refine oOp (.agg [.d (.bool r11), .d (.int .u64 r124), .d (.int .u64 r132)]) (by kernel_rfl) (by kernel_rfl) (Quiet.does (k_loadAgg 1 0 (by kernel_rfl) Try.underlying80 (by kernel_rfl) ty80 (by kernel_rfl))) ?_
        refine oOp (.d (.int .u64 r116)) (by kernel_rfl) (by kernel_rfl) (PureV.does (p_move (by kernel_rfl))) ?_
        refine bCall (caps := []) (v := (uc fun (r1111 : Int) => (fun (r134 : Int) => (.agg [.d (.bool r11), .d (.int .u64 r1111), .d (.int .u64 r134)] : V)))) (H' := (uc fun (r1111 : Int) => (fun (r134 : Int) => ([.box [.d (.int .i64 0), .d (.int .i64 0)], .box [.d (.bool r11), .d (.int .u64 r124), .d (.int .u64 r132)]] : List Blk)))) [] _ (ratio_wide_over_goes k r11 r124 r132 r116) (by kernel_rfl) (by kernel_rfl) rfl (by kernel_rfl) Try.func73 rfl (by kernel_rfl) (ConvRs.refl _ _) (by kernel_rfl) (by kernel_rfl) (by kernel_rfl) (by decide) (by kernel_rfl) (by kernel_rfl) (fun _ => (by kernel_rfl)) (fun _ => (by kernel_rfl)) (fun _ => (by kernel_rfl)) (fun r => ?_)
        obtain ⟨r1111, r134⟩ := r
        refine bUc ?_
        refine oOp (.d (.int .u64 r1110)) (by kernel_rfl) (by kernel_rfl) (PureV.does (p_move (by kernel_rfl))) ?_
        refine bCall (caps := []) (v := (uc fun (r128 : Int) => (uc fun (r142 : Int) => (fun (r152 : Int) => (.tuple [.agg [.d (.int .i64 r128), .d (.int .i64 r142)], .d (.int .i64 r152)] : V))))) (H' := (uc fun (r128 : Int) => (uc fun (r142 : Int) => (fun (r152 : Int) => ([.box [.d (.int .i64 0), .d (.int .i64 0)], .box [.d (.bool r11), .d (.int .u64 r124), .d (.int .u64 r132)]] : List Blk))))) [] _ (ratio_lowest_goes k r11 r1111 r134 r1110) (by kernel_rfl) (by kernel_rfl) rfl (by kernel_rfl) Try.func72 rfl (by kernel_rfl) (ConvRs.refl _ _) (by kernel_rfl) (by kernel_rfl) (by kernel_rfl) (by decide) (by kernel_rfl) (by kernel_rfl) (fun _ => (by kernel_rfl)) (fun _ => (by kernel_rfl)) (fun _ => (by kernel_rfl)) (fun r => ?_)
        obtain ⟨r128, r142, r152⟩ := r
        refine bUc ?_
        refine bUc ?_
        refine oOp (.agg [.d (.int .i64 r128), .d (.int .i64 r142)]) (by kernel_rfl) (by kernel_rfl) (PureV.does (k_extract (by kernel_rfl))) ?_
        refine oOp (.d (.int .i64 r152)) (by kernel_rfl) (by kernel_rfl) (PureV.does (k_extract (by kernel_rfl))) ?_
        refine oOp (.undef) (by kernel_rfl) (by kernel_rfl) (k_store (vs := [.d (.int .i64 r128), .d (.int .i64 r142)]) (H' := [.box [.d (.int .i64 r128), .d (.int .i64 r142)], .box [.d (.bool r11), .d (.int .u64 r124), .d (.int .u64 r132)]]) 0 0 (by kernel_rfl) ty37 (by kernel_rfl) (by kernel_rfl) (by kernel_rfl)) ?_
        refine oOp (.d (.int .i64 r152)) (by kernel_rfl) (by kernel_rfl) (PureV.does (p_assign (by kernel_rfl))) ?_
        refine oEnd ?_
        exact oRet (r0 := (r128, r142, r152)) (rv := .tuple [.agg [.d (.int .i64 r128), .d (.int .i64 r142)], .d (.int .i64 r152)]) (B := []) (vs := [.agg [.d (.int .i64 r128), .d (.int .i64 r142)], .d (.int .i64 r152)]) (σ := []) (by kernel_rfl) Try.func51 rfl (.cons _ _ _ _ (.agg 4 37 0 0 [.d (.int .i64 r128), .d (.int .i64 r142)] [.d (.int .i64 r128), .d (.int .i64 r142)] _ _ _ _ (by kernel_rfl) (by kernel_rfl) Try.underlying37 (by kernel_rfl) ty37 (by kernel_rfl) (by kernel_rfl)) (.cons _ _ _ _ (.tmp 5 _ (by kernel_rfl)) .nil)) (by kernel_rfl) (by kernel_rfl) (by kernel_rfl) (by kernel_rfl) (by decide) (by kernel_rfl) (by kernel_rfl)
    ·refine bSplit 51 (by kernel_rfl) (fun hc => ?_) (fun hc => ?_)
     ·refine oOp (.ptr 3 2) (by kernel_rfl) (by kernel_rfl) (PureV.does (k_fieldAddr 3 0 (by kernel_rfl) Try.underlying80 rfl ty64 (by kernel_rfl))) ?_
      refine oOp (.d (.int .u64 r132)) (by kernel_rfl) (by kernel_rfl) (Quiet.does (k_load 3 2 (by kernel_rfl) Try.underlying64 (by kernel_rfl) (by kernel_rfl))) ?_
      refine oOp (.d (.bool (r132 == 0))) (by kernel_rfl) (by kernel_rfl) (PureV.does (p_int (k := .u64) (p := r132) (q := 0) (by kernel_rfl) (by kernel_rfl) (by kernel_rfl))) ?_
      refine oOp (.d (.bool (r132 == 0))) (by kernel_rfl) (by kernel_rfl) (PureV.does (p_pick (b := true) (by kernel_rfl) (by kernel_rfl))) ?_
      refine oHead [4, 6, 7, 8, 9, 55] [2, 3] (T' := [(4, .ptr 0 0), (6, .d (.int .u64 r110)), (7, .d (.int .u64 (IntKind.wrap .u64 (Int.tdiv (IntKind.wrap .u64 a1) r110)))), (8, .d (.int .u64 (IntKind.wrap .u64 (Int.tdiv (IntKind.wrap .u64 b1) r110)))), (9, .ptr 1 0), (55, .d (.bool (r132 == 0)))]) (H' := [.box [.d (.int .i64 0), .d (.int .i64 0)], .box [.d (.bool r11), .d (.int .u64 r124), .d (.int .u64 r132)]]) (by kernel_rfl) (by kernel_rfl) (by kernel_rfl) (by kernel_rfl) (by decide) (by kernel_rfl) (by kernel_rfl) ?_
      exact hj1 ((IntKind.wrap .u64 (Int.tdiv (IntKind.wrap .u64 a1) r110)), (IntKind.wrap .u64 (Int.tdiv (IntKind.wrap .u64 b1) r110)), (r132 == 0))
     ·refine oNot (by kernel_rfl) (by kernel_rfl) ?_
      refine oNot (by kernel_rfl) (by kernel_rfl) ?_
      refine oNot (by kernel_rfl) (by kernel_rfl) ?_
      refine oOp (.d (.bool false)) (by kernel_rfl) (by kernel_rfl) (PureV.does (p_pick (b := false) (by kernel_rfl) (by kernel_rfl))) ?_
      refine oHead [4, 6, 7, 8, 9, 55] [2, 3] (T' := [(4, .ptr 0 0), (6, .d (.int .u64 r110)), (7, .d (.int .u64 (IntKind.wrap .u64 (Int.tdiv (IntKind.wrap .u64 a1) r110)))), (8, .d (.int .u64 (IntKind.wrap .u64 (Int.tdiv (IntKind.wrap .u64 b1) r110)))), (9, .ptr 1 0), (55, .d (.bool false))]) (H' := [.box [.d (.int .i64 0), .d (.int .i64 0)], .box [.d (.bool r11), .d (.int .u64 r124), .d (.int .u64 r132)]]) (by kernel_rfl) (by kernel_rfl) (by kernel_rfl) (by kernel_rfl) (by decide) (by kernel_rfl) (by kernel_rfl) ?_
      exact hj1 ((IntKind.wrap .u64 (Int.tdiv (IntKind.wrap .u64 a1) r110)), (IntKind.wrap .u64 (Int.tdiv (IntKind.wrap .u64 b1) r110)), false)
  ·refine bSplit 16 (by kernel_rfl) (fun hc => ?_) (fun hc => ?_)
   ·refine oNot (by kernel_rfl) (by kernel_rfl) ?_
    refine oNot (by kernel_rfl) (by kernel_rfl) ?_
    refine oNot (by kernel_rfl) (by kernel_rfl) ?_
    refine oOp (.d (.bool true)) (by kernel_rfl) (by kernel_rfl) (PureV.does (p_pick (b := true) (by kernel_rfl) (by kernel_rfl))) ?_
    refine oHead [2, 3, 4, 20] [0, 1, 2] (T' := [(2, .ptr 0 0), (3, .ptr 1 0), (4, .ptr 2 0), (20, .d (.bool true))]) (H' := [.box [.d (.int .i64 a0), .d (.int .i64 a1)], .box [.d (.int .i64 b0), .d (.int .i64 b1)], .box [.d (.int .i64 0), .d (.int .i64 0)]]) (by kernel_rfl) (by kernel_rfl) (by kernel_rfl) (by kernel_rfl) (by decide) (by kernel_rfl) (by kernel_rfl) ?_
    exact hj2 true
   ·refine oOp (.agg [.d (.int .i64 b0), .d (.int .i64 b1)]) (by kernel_rfl) (by kernel_rfl) (Quiet.does (k_loadAgg 1 0 (by kernel_rfl) Try.underlying37 (by kernel_rfl) ty37 (by kernel_rfl))) ?_
    refine bCall (caps := []) (v := (fun (r129 : Bool) => (.d (.bool r129) : V))) (H' := (fun (r129 : Bool) => ([.box [.d (.int .i64 a0), .d (.int .i64 a1)], .box [.d (.int .i64 b0), .d (.int .i64 b1)], .box [.d (.int .i64 0), .d (.int .i64 0)]] : List Blk))) [] _ (ratio_Valid_goes k b0 b1) (by kernel_rfl) (by kernel_rfl) rfl (by kernel_rfl) Try.func24 rfl (by kernel_rfl) (ConvRs.refl _ _) (by kernel_rfl) (by kernel_rfl) (by kernel_rfl) (by decide) (by kernel_rfl) (by kernel_rfl) (fun _ => (by kernel_rfl)) (fun _ => (by kernel_rfl)) (fun _ => (by kernel_rfl)) (fun r129 => ?_)
    refine oOp (.d (.bool (!r129))) (by kernel_rfl) (by kernel_rfl) (PureV.does (p_not (p := r129) (by kernel_rfl) (by kernel_rfl))) ?_
    refine oOp (.d (.bool (!r129))) (by kernel_rfl) (by kernel_rfl) (PureV.does (p_pick (b := false) (by kernel_rfl) (by kernel_rfl))) ?_
    refine oHead [2, 3, 4, 20] [0, 1, 2] (T' := [(2, .ptr 0 0), (3, .ptr 1 0), (4, .ptr 2 0), (20, .d (.bool (!r129)))]) (H' := [.box [.d (.int .i64 a0), .d (.int .i64 a1)], .box [.d (.int .i64 b0), .d (.int .i64 b1)], .box [.d (.int .i64 0), .d (.int .i64 0)]]) (by kernel_rfl) (by kernel_rfl) (by kernel_rfl) (by kernel_rfl) (by decide) (by kernel_rfl) (by kernel_rfl) ?_
    exact hj2 (!r129)

/-- awardingbody/ratio.Sub -/
def ratio_Sub (k : Nat) (a0 : Int) (a1 : Int) (b0 : Int) (b1 : Int) : Option (Int × Int × Int) := Option.bind (ratio_Valid k a0 a1) (fun r122 => Option.bind (bif (!r122) then some true else Option.bind (ratio_Valid k b0 b1) (fun r124 => some (!r124)) : Option (Bool)) (fun x1 => bif x1 then some (0, 0, 1) else Option.bind (ratio_Add k a0 a1 (IntKind.wrap .i64 (0 - b0)) b1) (uc fun r171 => uc fun r181 => fun r191 => some (r171, r181, r191))))
def ratio_Sub_E (a0 : Int) (a1 : Int) (b0 : Int) (b1 : Int) : Int × Int × Int → V × List Blk := uc fun r1 => uc fun r11 => fun r13 => (.tuple [.agg [.d (.int .i64 r1), .d (.int .i64 r11)], .d (.int .i64 r13)], [])
theorem ratio_Sub_goes (k : Nat) (a0 : Int) (a1 : Int) (b0 : Int) (b1 : Int) : RunsO Try.prog 52 [.agg [.d (.int .i64 a0), .d (.int .i64 a1)], .agg [.d (.int .i64 b0), .d (.int .i64 b1)]] [] (ratio_Sub_E a0 a1 b0 b1) (ratio_Sub k a0 a1 b0 b1) := by
  refine RunsO.of_goes (N := 25) (m := 0) (T := [(0, .agg [.d (.int .i64 a0), .d (.int .i64 a1)]), (1, .agg [.d (.int .i64 b0), .d (.int .i64 b1)])]) Try.func52 rfl rfl (by kernel_rfl) (by kernel_rfl) (by kernel_rfl) ?_
  unfold ratio_Sub
  refine bStart ?_
  refine oSeq ?_
  refine oRegion rfl ?_
  refine oOp (.ptr 0 0) (by kernel_rfl) (by kernel_rfl) (k_box (H' := [.box [.d (.int .i64 a0), .d (.int .i64 a1)]]) (cells := [.d (.int .i64 a0), .d (.int .i64 a1)]) (by kernel_rfl) (by kernel_rfl) (by kernel_rfl)) ?_
  refine oOp (.ptr 1 0) (by kernel_rfl) (by kernel_rfl) (k_box (H' := [.box [.d (.int .i64 a0), .d (.int .i64 a1)], .box [.d (.int .i64 b0), .d (.int .i64 b1)]]) (cells := [.d (.int .i64 b0), .d (.int .i64 b1)]) (by kernel_rfl) (by kernel_rfl) (by kernel_rfl)) ?_
  refine oOp (.ptr 2 0) (by kernel_rfl) (by kernel_rfl) (k_alloc (H' := [.box [.d (.int .i64 a0), .d (.int .i64 a1)], .box [.d (.int .i64 b0), .d (.int .i64 b1)], .box [.d (.int .i64 0), .d (.int .i64 0)]]) ty37 (by kernel_rfl) (by kernel_rfl)) ?_
  refine oOp (.d (.int .i64 0)) (by kernel_rfl) (by kernel_rfl) (PureV.does (p_assign (by kernel_rfl))) ?_
  refine oEnd ?_
  refine oSeq ?_
  refine oSeq ?_
  refine oRegion rfl ?_
  refine oOp (.agg [.d (.int .i64 a0), .d (.int .i64 a1)]) (by kernel_rfl) (by kernel_rfl) (Quiet.does (k_loadAgg 0 0 (by kernel_rfl) Try.underlying37 (by kernel_rfl) ty37 (by kernel_rfl))) ?_
  refine bCall (caps := []) (v := (fun (r122 : Bool) => (.d (.bool r122) : V))) (H' := (fun (r122 : Bool) => ([.box [.d (.int .i64 a0), .d (.int .i64 a1)], .box [.d (.int .i64 b0), .d (.int .i64 b1)], .box [.d (.int .i64 0), .d (.int .i64 0)]] : List Blk))) [] _ (ratio_Valid_goes k a0 a1) (by kernel_rfl) (by kernel_rfl) rfl (by kernel_rfl) Try.func24 rfl (by kernel_rfl) (ConvRs.refl _ _) (by kernel_rfl) (by kernel_rfl) (by kernel_rfl) (by decide) (by kernel_rfl) (by kernel_rfl) (fun _ => (by kernel_rfl)) (fun _ => (by kernel_rfl)) (fun _ => (by kernel_rfl)) (fun r122 => ?_)
  refine oOp (.d (.bool (!r122))) (by kernel_rfl) (by kernel_rfl) (PureV.does (p_not (p := r122) (by kernel_rfl) (by kernel_rfl))) ?_
  refine oOp (.d (.bool (!r122))) (by kernel_rfl) (by kernel_rfl) (PureV.does (p_move (by kernel_rfl))) ?_
  refine bMeet 4 rfl ((fun (x1 : Bool) => [(2, .ptr 0 0), (3, .ptr 1 0), (4, .ptr 2 0), (13, .d (.bool x1))])) ((fun (x1 : Bool) => [.box [.d (.int .i64 a0), .d (.int .i64 a1)], .box [.d (.int .i64 b0), .d (.int .i64 b1)], .box [.d (.int .i64 0), .d (.int .i64 0)]])) (fun s => s) (fun x1 => ?_) (fun hj1 => ?_)
  ·refine oView (T' := [(2, .ptr 0 0), (3, .ptr 1 0), (4, .ptr 2 0), (13, .d (.bool x1))]) (H' := [.box [.d (.int .i64 a0), .d (.int .i64 a1)], .box [.d (.int .i64 b0), .d (.int .i64 b1)], .box [.d (.int .i64 0), .d (.int .i64 0)]]) (by kernel_rfl) (by kernel_rfl) ?_
   refine oEnd ?_
   refine bSplit 13 (by kernel_rfl) (fun hc => ?_) (fun hc => ?_)
   ·refine oCondT (by kernel_rfl) ?_
    refine oSeq ?_
    refine oRegion rfl ?_
    refine oOp (.agg [.d (.int .i64 0), .d (.int .i64 0)]) (by kernel_rfl) (by kernel_rfl) (PureV.does (p_build bld37 (by kernel_rfl))) ?_
    refine oOp (.undef) (by kernel_rfl) (by kernel_rfl) (k_store (vs := [.d (.int .i64 0), .d (.int .i64 0)]) (H' := [.box [.d (.int .i64 a0), .d (.int .i64 a1)], .box [.d (.int .i64 b0), .d (.int .i64 b1)], .box [.d (.int .i64 0), .d (.int .i64 0)]]) 2 0 (by kernel_rfl) ty37 (by kernel_rfl) (by kernel_rfl) (by kernel_rfl)) ?_
    refine oOp (.d (.int .i64 1)) (by kernel_rfl) (by kernel_rfl) (PureV.does (p_assign (by kernel_rfl))) ?_
    refine oEnd ?_
    exact oRet (r0 := (0, 0, 1)) (rv := .tuple [.agg [.d (.int .i64 0), .d (.int .i64 0)], .d (.int .i64 1)]) (B := []) (vs := [.agg [.d (.int .i64 0), .d (.int .i64 0)], .d (.int .i64 1)]) (σ := []) (by kernel_rfl) Try.func52 rfl (.cons _ _ _ _ (.agg 4 37 2 0 [.d (.int .i64 0), .d (.int .i64 0)] [.d (.int .i64 0), .d (.int .i64 0)] _ _ _ _ (by kernel_rfl) (by kernel_rfl) Try.underlying37 (by kernel_rfl) ty37 (by kernel_rfl) (by kernel_rfl)) (.cons _ _ _ _ (.tmp 5 _ (by kernel_rfl)) .nil)) (by kernel_rfl) (by kernel_rfl) (by kernel_rfl) (by kernel_rfl) (by decide) (by kernel_rfl) (by kernel_rfl)
   ·refine oCondF (by kernel_rfl) ?_
    refine oSkip ?_
    refine oSeq ?_
    refine oRegion rfl ?_
    refine oOp (.agg [.d (.int .i64 a0), .d (.int .i64 a1)]) (by kernel_rfl) (by kernel_rfl) (Quiet.does (k_loadAgg 0 0 (by kernel_rfl) Try.underlying37 (by kernel_rfl) ty37 (by kernel_rfl))) ?_
    refine oOp (.ptr 1 0) (by kernel_rfl) (by kernel_rfl) (PureV.does (k_fieldAddr 1 0 (by kernel_rfl) Try.underlying37 rfl ty3 (by kernel_rfl))) ?_
    refine oOp (.d (.int .i64 b0)) (by kernel_rfl) (by kernel_rfl) (Quiet.does (k_load 1 0 (by kernel_rfl) Try.underlying3 (by kernel_rfl) (by kernel_rfl))) ?_
    refine oOp (.d (.int .i64 (IntKind.wrap .i64 (0 - b0)))) (by kernel_rfl) (by kernel_rfl) (PureV.does (p_neg (k := .i64) (p := b0) (by kernel_rfl) (by kernel_rfl))) ?_
    refine oOp (.ptr 1 1) (by kernel_rfl) (by kernel_rfl) (PureV.does (k_fieldAddr 1 0 (by kernel_rfl) Try.underlying37 rfl ty3 (by kernel_rfl))) ?_
    refine oOp (.d (.int .i64 b1)) (by kernel_rfl) (by kernel_rfl) (Quiet.does (k_load 1 1 (by kernel_rfl) Try.underlying3 (by kernel_rfl) (by kernel_rfl))) ?_
    refine oOp (.agg [.d (.int .i64 (IntKind.wrap .i64 (0 - b0))), .d (.int .i64 b1)]) (by kernel_rfl) (by kernel_rfl) (PureV.does (p_build bld37 (by kernel_rfl))) ?_
    refine bCall (caps := []) (v := (uc fun (r171 : Int) => (uc fun (r181 : Int) => (fun (r191 : Int) => (.tuple [.agg [.d (.int .i64 r171), .d (.int .i64 r181)], .d (.int .i64 r191)] : V))))) (H' := (uc fun (r171 : Int) => (uc fun (r181 : Int) => (fun (r191 : Int) => ([.box [.d (.int .i64 a0), .d (.int .i64 a1)], .box [.d (.int .i64 b0), .d (.int .i64 b1)], .box [.d (.int .i64 0), .d (.int .i64 0)]] : List Blk))))) [] _ (ratio_Add_goes k a0 a1 (IntKind.wrap .i64 (0 - b0)) b1) (by kernel_rfl) (by kernel_rfl) rfl (by kernel_rfl) Try.func51 rfl (by kernel_rfl) (ConvRs.refl _ _) (by kernel_rfl) (by kernel_rfl) (by kernel_rfl) (by decide) (by kernel_rfl) (by kernel_rfl) (fun _ => (by kernel_rfl)) (fun _ => (by kernel_rfl)) (fun _ => (by kernel_rfl)) (fun r => ?_)
    obtain ⟨r171, r181, r191⟩ := r
    refine bUc ?_
    refine bUc ?_
    refine oOp (.agg [.d (.int .i64 r171), .d (.int .i64 r181)]) (by kernel_rfl) (by kernel_rfl) (PureV.does (k_extract (by kernel_rfl))) ?_
    refine oOp (.d (.int .i64 r191)) (by kernel_rfl) (by kernel_rfl) (PureV.does (k_extract (by kernel_rfl))) ?_
    refine oOp (.undef) (by kernel_rfl) (by kernel_rfl) (k_store (vs := [.d (.int .i64 r171), .d (.int .i64 r181)]) (H' := [.box [.d (.int .i64 a0), .d (.int .i64 a1)], .box [.d (.int .i64 b0), .d (.int .i64 b1)], .box [.d (.int .i64 r171), .d (.int .i64 r181)]]) 2 0 (by kernel_rfl) ty37 (by kernel_rfl) (by kernel_rfl) (by kernel_rfl)) ?_
    refine oOp (.d (.int .i64 r191)) (by kernel_rfl) (by kernel_rfl) (PureV.does (p_assign (by kernel_rfl))) ?_
    refine oEnd ?_
    exact oRet (r0 := (r171, r181, r191)) (rv := .tuple [.agg [.d (.int .i64 r171), .d (.int .i64 r181)], .d (.int .i64 r191)]) (B := []) (vs := [.agg [.d (.int .i64 r171), .d (.int .i64 r181)], .d (.int .i64 r191)]) (σ := []) (by kernel_rfl) Try.func52 rfl (.cons _ _ _ _ (.agg 4 37 2 0 [.d (.int .i64 r171), .d (.int .i64 r181)] [.d (.int .i64 r171), .d (.int .i64 r181)] _ _ _ _ (by kernel_rfl) (by kernel_rfl) Try.underlying37 (by kernel_rfl) ty37 (by kernel_rfl) (by kernel_rfl)) (.cons _ _ _ _ (.tmp 5 _ (by kernel_rfl)) .nil)) (by kernel_rfl) (by kernel_rfl) (by kernel_rfl) (by kernel_rfl) (by decide) (by kernel_rfl) (by kernel_rfl)
  ·refine bSplit 9 (by kernel_rfl) (fun hc => ?_) (fun hc => ?_)
   ·refine oNot (by kernel_rfl) (by kernel_rfl) ?_
    refine oNot (by kernel_rfl) (by kernel_rfl) ?_
    refine oNot (by kernel_rfl) (by kernel_rfl) ?_
    refine oOp (.d (.bool true)) (by kernel_rfl) (by kernel_rfl) (PureV.does (p_pick (b := true) (by kernel_rfl) (by kernel_rfl))) ?_
    refine oHead [2, 3, 4, 13] [0, 1, 2] (T' := [(2, .ptr 0 0), (3, .ptr 1 0), (4, .ptr 2 0), (13, .d (.bool true))]) (H' := [.box [.d (.int .i64 a0), .d (.int .i64 a1)], .box [.d (.int .i64 b0), .d (.int .i64 b1)], .box [.d (.int .i64 0), .d (.int .i64 0)]]) (by kernel_rfl) (by kernel_rfl) (by kernel_rfl) (by kernel_rfl) (by decide) (by kernel_rfl) (by kernel_rfl) ?_
    exact hj1 true
   ·refine oOp (.agg [.d (.int .i64 b0), .d (.int .i64 b1)]) (by kernel_rfl) (by kernel_rfl) (Quiet.does (k_loadAgg 1 0 (by kernel_rfl) Try.underlying37 (by kernel_rfl) ty37 (by kernel_rfl))) ?_
    refine bCall (caps := []) (v := (fun (r124 : Bool) => (.d (.bool r124) : V))) (H' := (fun (r124 : Bool) => ([.box [.d (.int .i64 a0), .d (.int .i64 a1)], .box [.d (.int .i64 b0), .d (.int .i64 b1)], .box [.d (.int .i64 0), .d (.int .i64 0)]] : List Blk))) [] _ (ratio_Valid_goes k b0 b1) (by kernel_rfl) (by kernel_rfl) rfl (by kernel_rfl) Try.func24 rfl (by kernel_rfl) (ConvRs.refl _ _) (by kernel_rfl) (by kernel_rfl) (by kernel_rfl) (by decide) (by kernel_rfl) (by kernel_rfl) (fun _ => (by kernel_rfl)) (fun _ => (by kernel_rfl)) (fun _ => (by kernel_rfl)) (fun r124 => ?_)
    refine oOp (.d (.bool (!r124))) (by kernel_rfl) (by kernel_rfl) (PureV.does (p_not (p := r124) (by kernel_rfl) (by kernel_rfl))) ?_
    refine oOp (.d (.bool (!r124))) (by kernel_rfl) (by kernel_rfl) (PureV.does (p_pick (b := false) (by kernel_rfl) (by kernel_rfl))) ?_
    refine oHead [2, 3, 4, 13] [0, 1, 2] (T' := [(2, .ptr 0 0), (3, .ptr 1 0), (4, .ptr 2 0), (13, .d (.bool (!r124)))]) (H' := [.box [.d (.int .i64 a0), .d (.int .i64 a1)], .box [.d (.int .i64 b0), .d (.int .i64 b1)], .box [.d (.int .i64 0), .d (.int .i64 0)]]) (by kernel_rfl) (by kernel_rfl) (by kernel_rfl) (by kernel_rfl) (by decide) (by kernel_rfl) (by kernel_rfl) ?_
    exact hj1 (!r124)

/-- (*awardingbody/conversion.calc).do -/
def conversion_calc_do (k : Nat) (r0 : Int) (r1 : Int) (e1 : Int) (x : Int) : Option (Int) := blet ((x == 0) && (e1 != 0)) fun x4 => Option.bind (bif x4 then some 6 else some x : Option (Int)) (fun x5 => some x5)
def conversion_calc_do_E (r0 : Int) (r1 : Int) (e1 : Int) (x : Int) : Int → V × List Blk := fun x3 => (.agg [.d (.int .i64 r0), .d (.int .i64 r1)], [.box [.d (.int .i64 x3)]])
theorem conversion_calc_do_goes (k : Nat) (r0 : Int) (r1 : Int) (e1 : Int) (x : Int) : RunsO Try.prog 50 [.ptr 0 0, .agg [.d (.int .i64 r0), .d (.int .i64 r1)], .d (.int .i64 e1)] [.box [.d (.int .i64 x)]] (conversion_calc_do_E r0 r1 e1 x) (conversion_calc_do k r0 r1 e1 x) := by
  refine RunsO.of_goes (N := 20) (m := 1) (T := [(0, .ptr 0 0), (1, .agg [.d (.int .i64 r0), .d (.int .i64 r1)]), (2, .d (.int .i64 e1))]) Try.func50 rfl rfl (by kernel_rfl) (by kernel_rfl) (by kernel_rfl) ?_
  unfold conversion_calc_do
  refine bStart ?_
  refine oSeq ?_
  refine oRegion rfl ?_
  refine oOp (.ptr 1 0) (by kernel_rfl) (by kernel_rfl) (k_box (H' := [.box [.d (.int .i64 x)], .box [.d (.int .i64 r0), .d (.int .i64 r1)]]) (cells := [.d (.int .i64 r0), .d (.int .i64 r1)]) (by kernel_rfl) (by kernel_rfl) (by kernel_rfl)) ?_
  refine oOp (.ptr 2 0) (by kernel_rfl) (by kernel_rfl) (k_alloc (H' := [.box [.d (.int .i64 x)], .box [.d (.int .i64 r0), .d (.int .i64 r1)], .box [.d (.int .i64 0), .d (.int .i64 0)]]) ty37 (by kernel_rfl) (by kernel_rfl)) ?_
  refine oEnd ?_
  refine oSeq ?_
  refine oSeq ?_
  refine oRegion rfl ?_
  refine oOp (.ptr 0 0) (by kernel_rfl) (by kernel_rfl) (PureV.does (p_move (by kernel_rfl))) ?_
  refine oOp (.ptr 0 0) (by kernel_rfl) (by kernel_rfl) (PureV.does (k_nilCheck 0 0 (by kernel_rfl) (by kernel_rfl))) ?_
  refine oOp (.ptr 0 0) (by kernel_rfl) (by kernel_rfl) (PureV.does (k_fieldAddr 0 0 (by kernel_rfl) Try.underlying56 rfl ty31 (by kernel_rfl))) ?_
  refine oOp (.d (.int .i64 x)) (by kernel_rfl) (by kernel_rfl) (Quiet.does (k_load 0 0 (by kernel_rfl) Try.underlying31 (by kernel_rfl) (by kernel_rfl))) ?_
  refine oOp (.d (.bool (x == 0))) (by kernel_rfl) (by kernel_rfl) (PureV.does (p_int (k := .i64) (p := x) (q := 0) (by kernel_rfl) (by kernel_rfl) (by kernel_rfl))) ?_
  refine oOp (.d (.bool (x == 0))) (by kernel_rfl) (by kernel_rfl) (PureV.does (p_move (by kernel_rfl))) ?_
  refine bMeetF (H' := [.box [.d (.int .i64 x)], .box [.d (.int .i64 r0), .d (.int .i64 r1)], .box [.d (.int .i64 0), .d (.int .i64 0)]]) 3 rfl ((fun (x4 : Bool) => [(0, .ptr 0 0), (4, .ptr 1 0), (6, .ptr 2 0), (15, .d (.bool x4))])) (fun x4 => ?_) (fun F hj2 => ?_)
  ·refine oView (T' := [(0, .ptr 0 0), (4, .ptr 1 0), (6, .ptr 2 0), (15, .d (.bool x4))]) (H' := [.box [.d (.int .i64 x)], .box [.d (.int .i64 r0), .d (.int .i64 r1)], .box [.d (.int .i64 0), .d (.int .i64 0)]]) (by kernel_rfl) (by kernel_rfl) ?_
   refine oEnd ?_
   refine bJoin ((fun (x5 : Int) => [(4, .ptr 1 0), (6, .ptr 2 0)])) ((fun (x5 : Int) => [.box [.d (.int .i64 x5)], .box [.d (.int .i64 r0), .d (.int .i64 r1)], .box [.d (.int .i64 0), .d (.int .i64 0)]])) (fun s => s) (fun x5 => ?_) (fun hj3 => ?_)
   ·refine oView (T' := [(4, .ptr 1 0), (6, .ptr 2 0)]) (H' := [.box [.d (.int .i64 x5)], .box [.d (.int .i64 r0), .d (.int .i64 r1)], .box [.d (.int .i64 0), .d (.int .i64 0)]]) (by kernel_rfl) (by kernel_rfl) ?_
    refine oSeq ?_
    refine oRegion rfl ?_
    refine oOp (.agg [.d (.int .i64 r0), .d (.int .i64 r1)]) (by kernel_rfl) (by kernel_rfl) (Quiet.does (k_loadAgg 1 0 (by kernel_rfl) Try.underlying37 (by kernel_rfl) ty37 (by kernel_rfl))) ?_
    refine oOp (.undef) (by kernel_rfl) (by kernel_rfl) (k_store (vs := [.d (.int .i64 r0), .d (.int .i64 r1)]) (H' := [.box [.d (.int .i64 x5)], .box [.d (.int .i64 r0), .d (.int .i64 r1)], .box [.d (.int .i64 r0), .d (.int .i64 r1)]]) 2 0 (by kernel_rfl) ty37 (by kernel_rfl) (by kernel_rfl) (by kernel_rfl)) ?_
    refine oEnd ?_
    exact oRet (r0 := x5) (rv := .agg [.d (.int .i64 r0), .d (.int .i64 r1)]) (B := [.box [.d (.int .i64 x5)]]) (vs := [.agg [.d (.int .i64 r0), .d (.int .i64 r1)]]) (σ := [0]) (by kernel_rfl) Try.func50 rfl (.cons _ _ _ _ (.agg 6 37 2 0 [.d (.int .i64 r0), .d (.int .i64 r1)] [.d (.int .i64 r0), .d (.int .i64 r1)] _ _ _ _ (by kernel_rfl) (by kernel_rfl) Try.underlying37 (by kernel_rfl) ty37 (by kernel_rfl) (by kernel_rfl)) .nil) (by kernel_rfl) (by kernel_rfl) (by kernel_rfl) (by kernel_rfl) (by decide) (by kernel_rfl) (by kernel_rfl)
   ·refine bSplit 15 (by kernel_rfl) (fun hc => ?_) (fun hc => ?_)
    ·refine oCondT (by kernel_rfl) ?_
     refine oRegion rfl ?_
     refine oOp (.ptr 0 0) (by kernel_rfl) (by kernel_rfl) (PureV.does (p_move (by kernel_rfl))) ?_
     refine oOp (.ptr 0 0) (by kernel_rfl) (by kernel_rfl) (PureV.does (k_nilCheck 0 0 (by kernel_rfl) (by kernel_rfl))) ?_
     refine oOp (.ptr 0 0) (by kernel_rfl) (by kernel_rfl) (PureV.does (k_fieldAddr 0 0 (by kernel_rfl) Try.underlying56 rfl ty31 (by kernel_rfl))) ?_
     refine oOp (.undef) (by kernel_rfl) (by kernel_rfl) (k_store (vs := [.d (.int .i64 6)]) (H' := [.box [.d (.int .i64 6)], .box [.d (.int .i64 r0), .d (.int .i64 r1)], .box [.d (.int .i64 0), .d (.int .i64 0)]]) 0 0 (by kernel_rfl) ty31 (by kernel_rfl) (by kernel_rfl) (by kernel_rfl)) ?_
     refine oEnd ?_
     refine oHead [4, 6] [0, 1, 2] (T' := [(4, .ptr 1 0), (6, .ptr 2 0)]) (H' := [.box [.d (.int .i64 6)], .box [.d (.int .i64 r0), .d (.int .i64 r1)], .box [.d (.int .i64 0), .d (.int .i64 0)]]) (by kernel_rfl) (by kernel_rfl) (by kernel_rfl) (by kernel_rfl) (by decide) (by kernel_rfl) (by kernel_rfl) ?_
     exact hj3 6
    ·refine oCondF (by kernel_rfl) ?_
     refine oSkip ?_
     refine oHead [4, 6] [0, 1, 2] (T' := [(4, .ptr 1 0), (6, .ptr 2 0)]) (H' := [.box [.d (.int .i64 x)], .box [.d (.int .i64 r0), .d (.int .i64 r1)], .box [.d (.int .i64 0), .d (.int .i64 0)]]) (by kernel_rfl) (by kernel_rfl) (by kernel_rfl) (by kernel_rfl) (by decide) (by kernel_rfl) (by kernel_rfl) ?_
     exact hj3 x
  ·refine bPickF 12 (fun c => F (c && (e1 != 0))) (by kernel_rfl) (fun hc => ?_) (fun hc => ?_)
   ·refine oOp (.d (.int .i64 e1)) (by kernel_rfl) (by kernel_rfl) (PureV.does (p_move (by kernel_rfl))) ?_
    refine oOp (.d (.bool (e1 != 0))) (by kernel_rfl) (by kernel_rfl) (PureV.does (p_int (k := .i64) (p := e1) (q := 0) (by kernel_rfl) (by kernel_rfl) (by kernel_rfl))) ?_
    refine oOp (.d (.bool (e1 != 0))) (by kernel_rfl) (by kernel_rfl) (PureV.does (p_pick (b := true) (by kernel_rfl) (by kernel_rfl))) ?_
    refine oHead [0, 4, 6, 15] [0, 1, 2] (T' := [(0, .ptr 0 0), (4, .ptr 1 0), (6, .ptr 2 0), (15, .d (.bool (e1 != 0)))]) (H' := [.box [.d (.int .i64 x)], .box [.d (.int .i64 r0), .d (.int .i64 r1)], .box [.d (.int .i64 0), .d (.int .i64 0)]]) (by kernel_rfl) (by kernel_rfl) (by kernel_rfl) (by kernel_rfl) (by decide) (by kernel_rfl) (by kernel_rfl) ?_
    exact hj2 (e1 != 0)
   ·refine oNot (by kernel_rfl) (by kernel_rfl) ?_
    refine oNot (by kernel_rfl) (by kernel_rfl) ?_
    refine oOp (.d (.bool false)) (by kernel_rfl) (by kernel_rfl) (PureV.does (p_pick (b := false) (by kernel_rfl) (by kernel_rfl))) ?_
    refine oHead [0, 4, 6, 15] [0, 1, 2] (T' := [(0, .ptr 0 0), (4, .ptr 1 0), (6, .ptr 2 0), (15, .d (.bool false))]) (H' := [.box [.d (.int .i64 x)], .box [.d (.int .i64 r0), .d (.int .i64 r1)], .box [.d (.int .i64 0), .d (.int .i64 0)]]) (by kernel_rfl) (by kernel_rfl) (by kernel_rfl) (by kernel_rfl) (by decide) (by kernel_rfl) (by kernel_rfl) ?_
    exact hj2 false

/-- (*awardingbody/conversion.calc).sub -/
def conversion_calc_sub (k : Nat) (a0 : Int) (a1 : Int) (b0 : Int) (b1 : Int) (x : Int) : Option (Int × Int × Int) := Option.bind (ratio_Sub k a0 a1 b0 b1) (uc fun r15 => uc fun r111 => fun r131 => Option.bind (conversion_calc_do k r15 r111 r131 x) (fun x31 => some (r15, r111, x31)))
def conversion_calc_sub_E (a0 : Int) (a1 : Int) (b0 : Int) (b1 : Int) (x : Int) : Int × Int × Int → V × List Blk := uc fun r12 => uc fun r14 => fun x1 => (.agg [.d (.int .i64 r12), .d (.int .i64 r14)], [.box [.d (.int .i64 x1)]])
theorem conversion_calc_sub_goes (k : Nat) (a0 : Int) (a1 : Int) (b0 : Int) (b1 : Int) (x : Int) : RunsO Try.prog 39 [.ptr 0 0, .agg [.d (.int .i64 a0), .d (.int .i64 a1)], .agg [.d (.int .i64 b0), .d (.int .i64 b1)]] [.box [.d (.int .i64 x)]] (conversion_calc_sub_E a0 a1 b0 b1 x) (conversion_calc_sub k a0 a1 b0 b1 x) := by
  refine RunsO.of_goes (N := 14) (m := 1) (T := [(0, .ptr 0 0), (1, .agg [.d (.int .i64 a0), .d (.int .i64 a1)]), (2, .agg [.d (.int .i64 b0), .d (.int .i64 b1)])]) Try.func39 rfl rfl (by kernel_rfl) (by kernel_rfl) (by kernel_rfl) ?_
  unfold conversion_calc_sub
  refine bStart ?_
  refine oSeq ?_
  refine oRegion rfl ?_
  refine oOp (.ptr 1 0) (by kernel_rfl) (by kernel_rfl) (k_box (H' := [.box [.d (.int .i64 x)], .box [.d (.int .i64 a0), .d (.int .i64 a1)]]) (cells := [.d (.int .i64 a0), .d (.int .i64 a1)]) (by kernel_rfl) (by kernel_rfl) (by kernel_rfl)) ?_
  refine oOp (.ptr 2 0) (by kernel_rfl) (by kernel_rfl) (k_box (H' := [.box [.d (.int .i64 x)], .box [.d (.int .i64 a0), .d (.int .i64 a1)], .box [.d (.int .i64 b0), .d (.int .i64 b1)]]) (cells := [.d (.int .i64 b0), .d (.int .i64 b1)]) (by kernel_rfl) (by kernel_rfl) (by kernel_rfl)) ?_
  refine oOp (.ptr 3 0) (by kernel_rfl) (by kernel_rfl) (k_alloc (H' := [.box [.d (.int .i64 x)], .box [.d (.int .i64 a0), .d (.int .i64 a1)], .box [.d (.int .i64 b0), .d (.int .i64 b1)], .box [.d (.int .i64 0), .d (.int .i64 0)]]) ty37 (by kernel_rfl) (by kernel_rfl)) ?_
  refine oEnd ?_
  refine oSeq ?_
  refine oRegion rfl ?_
  refine oOp (.ptr 0 0) (by kernel_rfl) (by kernel_rfl) (PureV.does (p_move (by kernel_rfl))) ?_
  refine oOp (.agg [.d (.int .i64 a0), .d (.int .i64 a1)]) (by kernel_rfl) (by kernel_rfl) (Quiet.does (k_loadAgg 1 0 (by kernel_rfl) Try.underlying37 (by kernel_rfl) ty37 (by kernel_rfl))) ?_
  refine oOp (.agg [.d (.int .i64 b0), .d (.int .i64 b1)]) (by kernel_rfl) (by kernel_rfl) (Quiet.does (k_loadAgg 2 0 (by kernel_rfl) Try.underlying37 (by kernel_rfl) ty37 (by kernel_rfl))) ?_
  refine bCall (caps := []) (v := (uc fun (r15 : Int) => (uc fun (r111 : Int) => (fun (r131 : Int) => (.tuple [.agg [.d (.int .i64 r15), .d (.int .i64 r111)], .d (.int .i64 r131)] : V))))) (H' := (uc fun (r15 : Int) => (uc fun (r111 : Int) => (fun (r131 : Int) => ([.box [.d (.int .i64 x)], .box [.d (.int .i64 a0), .d (.int .i64 a1)], .box [.d (.int .i64 b0), .d (.int .i64 b1)], .box [.d (.int .i64 0), .d (.int .i64 0)]] : List Blk))))) [] _ (ratio_Sub_goes k a0 a1 b0 b1) (by kernel_rfl) (by kernel_rfl) rfl (by kernel_rfl) Try.func52 rfl (by kernel_rfl) (ConvRs.refl _ _) (by kernel_rfl) (by kernel_rfl) (by kernel_rfl) (by decide) (by kernel_rfl) (by kernel_rfl) (fun _ => (by kernel_rfl)) (fun _ => (by kernel_rfl)) (fun _ => (by kernel_rfl)) (fun r => ?_)
  obtain ⟨r15, r111, r131⟩ := r
  refine bUc ?_
  refine bUc ?_
  refine oOp (.agg [.d (.int .i64 r15), .d (.int .i64 r111)]) (by kernel_rfl) (by kernel_rfl) (PureV.does (k_extract (by kernel_rfl))) ?_
  refine oOp (.d (.int .i64 r131)) (by kernel_rfl) (by kernel_rfl) (PureV.does (k_extract (by kernel_rfl))) ?_
  refine bCall (caps := []) (v := (fun (x31 : Int) => (.agg [.d (.int .i64 r15), .d (.int .i64 r111)] : V))) (H' := (fun (x31 : Int) => ([.box [.d (.int .i64 x31)], .box [.d (.int .i64 a0), .d (.int .i64 a1)], .box [.d (.int .i64 b0), .d (.int .i64 b1)], .box [.d (.int .i64 0), .d (.int .i64 0)]] : List Blk))) [0] _ (conversion_calc_do_goes k r15 r111 r131 x) (by kernel_rfl) (by kernel_rfl) rfl (by kernel_rfl) Try.func50 rfl (by kernel_rfl) (ConvRs.refl _ _) (by kernel_rfl) (by kernel_rfl) (by kernel_rfl) (by decide) (by kernel_rfl) (by kernel_rfl) (fun _ => (by kernel_rfl)) (fun _ => (by kernel_rfl)) (fun _ => (by kernel_rfl)) (fun x31 => ?_)
  refine oOp (.undef) (by kernel_rfl) (by kernel_rfl) (k_store (vs := [.d (.int .i64 r15), .d (.int .i64 r111)]) (H' := [.box [.d (.int .i64 x31)], .box [.d (.int .i64 a0), .d (.int .i64 a1)], .box [.d (.int .i64 b0), .d (.int .i64 b1)], .box [.d (.int .i64 r15), .d (.int .i64 r111)]]) 3 0 (by kernel_rfl) ty37 (by kernel_rfl) (by kernel_rfl) (by kernel_rfl)) ?_
  refine oEnd ?_
  exact oRet (r0 := (r15, r111, x31)) (rv := .agg [.d (.int .i64 r15), .d (.int .i64 r111)]) (B := [.box [.d (.int .i64 x31)]]) (vs := [.agg [.d (.int .i64 r15), .d (.int .i64 r111)]]) (σ := [0]) (by kernel_rfl) Try.func39 rfl (.cons _ _ _ _ (.agg 6 37 3 0 [.d (.int .i64 r15), .d (.int .i64 r111)] [.d (.int .i64 r15), .d (.int .i64 r111)] _ _ _ _ (by kernel_rfl) (by kernel_rfl) Try.underlying37 (by kernel_rfl) ty37 (by kernel_rfl) (by kernel_rfl)) .nil) (by kernel_rfl) (by kernel_rfl) (by kernel_rfl) (by kernel_rfl) (by decide) (by kernel_rfl) (by kernel_rfl)

/-- awardingbody/ratio.Mul -/
def ratio_Mul (k : Nat) (a0 : Int) (a1 : Int) (b0 : Int) (b1 : Int) : Option (Int × Int × Int) := Option.bind (ratio_Valid k a0 a1) (fun r124 => Option.bind (bif (!r124) then some true else Option.bind (ratio_Valid k b0 b1) (fun r127 => some (!r127)) : Option (Bool)) (fun x1 => bif x1 then some (0, 0, 1) else Option.bind (ratio_abs k a0) (fun r1 => Option.bind (ratio_gcd k r1 (IntKind.wrap .u64 b1)) (fun r11 => Option.bind (ratio_abs k b0) (fun r13 => Option.bind (ratio_gcd k r13 (IntKind.wrap .u64 a1)) (fun r14 => gnz (IntKind.wrap .i64 r11) (Option.bind (ratio_abs k b0) (fun r15 => gnz r14 (Option.bind (ratio_times k (IntKind.wrap .i64 (Int.tdiv a0 (IntKind.wrap .i64 r11))) (IntKind.wrap .u64 (Int.tdiv r15 r14))) (uc fun r122 => fun r131 => gnz r14 (gnz r11 (Option.bind (math_bits_Mul64 k (IntKind.wrap .u64 (Int.tdiv (IntKind.wrap .u64 a1) r14)) (IntKind.wrap .u64 (Int.tdiv (IntKind.wrap .u64 b1) r11))) (uc fun r16 => fun r111 => bif (r16 != 0) then some (0, 0, 6) else Option.bind (ratio_lowest k (!((decide ((IntKind.wrap .i64 (Int.tdiv a0 (IntKind.wrap .i64 r11))) < 0)) == (decide (b0 < 0)))) r122 r131 r111) (uc fun r126 => uc fun r142 => fun r152 => some (r126, r142, r152)))))))))))))))
def ratio_Mul_E (a0 : Int) (a1 : Int) (b0 : Int) (b1 : Int) : Int × Int × Int → V × List Blk := uc fun r17 => uc fun r18 => fun r19 => (.tuple [.agg [.d (.int .i64 r17), .d (.int .i64 r18)], .d (.int .i64 r19)], [])
theorem ratio_Mul_goes (k : Nat) (a0 : Int) (a1 : Int) (b0 : Int) (b1 : Int) : RunsO Try.prog 53 [.agg [.d (.int .i64 a0), .d (.int .i64 a1)], .agg [.d (.int .i64 b0), .d (.int .i64 b1)]] [] (ratio_Mul_E a0 a1 b0 b1) (ratio_Mul k a0 a1 b0 b1) := by
  refine RunsO.of_goes (N := 74) (m := 0) (T := [(0, .agg [.d (.int .i64 a0), .d (.int .i64 a1)]), (1, .agg [.d (.int .i64 b0), .d (.int .i64 b1)])]) Try.func53 rfl rfl (by kernel_rfl) (by kernel_rfl) (by kernel_rfl) ?_
  unfold ratio_Mul
  refine bStart ?_
  refine oSeq ?_
  refine oRegion rfl ?_
  refine oOp (.ptr 0 0) (by kernel_rfl) (by kernel_rfl) (k_box (H' := [.box [.d (.int .i64 a0), .d (.int .i64 a1)]]) (cells := [.d (.int .i64 a0), .d (.int .i64 a1)]) (by kernel_rfl) (by kernel_rfl) (by kernel_rfl)) ?_
  refine oOp (.ptr 1 0) (by kernel_rfl) (by kernel_rfl) (k_box (H' := [.box [.d (.int .i64 a0), .d (.int .i64 a1)], .box [.d (.int .i64 b0), .d (.int .i64 b1)]]) (cells := [.d (.int .i64 b0), .d (.int .i64 b1)]) (by kernel_rfl) (by kernel_rfl) (by kernel_rfl)) ?_
  refine oOp (.ptr 2 0) (by kernel_rfl) (by kernel_rfl) (k_alloc (H' := [.box [.d (.int .i64 a0), .d (.int .i64 a1)], .box [.d (.int .i64 b0), .d (.int .i64 b1)], .box [.d (.int .i64 0), .d (.int .i64 0)]]) ty37 (by kernel_rfl) (by kernel_rfl)) ?_
  refine oOp (.d (.int .i64 0)) (by kernel_rfl) (by kernel_rfl) (PureV.does (p_assign (by kernel_rfl))) ?_
  refine oEnd ?_
  refine oSeq ?_
  refine oSeq ?_
  refine oRegion rfl ?_
  refine oOp (.agg [.d (.int .i64 a0), .d (.int .i64 a1)]) (by kernel_rfl) (by kernel_rfl) (Quiet.does (k_loadAgg 0 0 (by kernel_rfl) Try.underlying37 (by kernel_rfl) ty37 (by kernel_rfl))) ?_
  refine bCall (caps := []) (v := (fun (r124 : Bool) => (.d (.bool r124) : V))) (H' := (fun (r124 : Bool) => ([.box [.d (.int .i64 a0), .d (.int .i64 a1)], .box [.d (.int .i64 b0), .d (.int .i64 b1)], .box [.d (.int .i64 0), .d (.int .i64 0)]] : List Blk))) [] _ (ratio_Valid_goes k a0 a1) (by kernel_rfl) (by kernel_rfl) rfl (by kernel_rfl) Try.func24 rfl (by kernel_rfl) (ConvRs.refl _ _) (by kernel_rfl) (by kernel_rfl) (by kernel_rfl) (by decide) (by kernel_rfl) (by kernel_rfl) (fun _ => (by kernel_rfl)) (fun _ => (by kernel_rfl)) (fun _ => (by kernel_rfl)) (fun r124 => ?_)
  refine oOp (.d (.bool (!r124))) (by kernel_rfl) (by kernel_rfl) (PureV.does (p_not (p := r124) (by kernel_rfl) (by kernel_rfl))) ?_
  refine oOp (.d (.bool (!r124))) (by kernel_rfl) (by kernel_rfl) (PureV.does (p_move (by kernel_rfl))) ?_
  refine bMeet 4 rfl ((fun (x1 : Bool) => [(2, .ptr 0 0), (3, .ptr 1 0), (4, .ptr 2 0), (18, .d (.bool x1))])) ((fun (x1 : Bool) => [.box [.d (.int .i64 a0), .d (.int .i64 a1)], .box [.d (.int .i64 b0), .d (.int .i64 b1)], .box [.d (.int .i64 0), .d (.int .i64 0)]])) (fun s => s) (fun x1 => ?_) (fun hj1 => ?_)
  ·refine oView (T' := [(2, .ptr 0 0), (3, .ptr 1 0), (4, .ptr 2 0), (18, .d (.bool x1))]) (H' := [.box [.d (.int .i64 a0), .d (.int .i64 a1)], .box [.d (.int .i64 b0), .d (.int .i64 b1)], .box [.d (.int .i64 0), .d (.int .i64 0)]]) (by kernel_rfl) (by kernel_rfl) ?_
   refine oEnd ?_
   refine bSplit 18 (by kernel_rfl) (fun hc => ?_) (fun hc => ?_)
   ·refine oCondT (by kernel_rfl) ?_
    refine oSeq ?_
    refine oRegion rfl ?_
    refine oOp (.agg [.d (.int .i64 0), .d (.int .i64 0)]) (by kernel_rfl) (by kernel_rfl) (PureV.does (p_build bld37 (by kernel_rfl))) ?_
    refine oOp (.undef) (by kernel_rfl) (by kernel_rfl) (k_store (vs := [.d (.int .i64 0), .d (.int .i64 0)]) (H' := [.box [.d (.int .i64 a0), .d (.int .i64 a1)], .box [.d (.int .i64 b0), .d (.int .i64 b1)], .box [.d (.int .i64 0), .d (.int .i64 0)]]) 2 0 (by kernel_rfl) ty37 (by kernel_rfl) (by kernel_rfl) (by kernel_rfl)) ?_
    refine oOp (.d (.int .i64 1)) (by kernel_rfl) (by kernel_rfl) (PureV.does (p_assign (by kernel_rfl))) ?_
    refine oEnd ?_
    exact oRet (r0 := (0, 0, 1)) (rv := .tuple [.agg [.d (.int .i64 0), .d (.int .i64 0)], .d (.int .i64 1)]) (B := []) (vs := [.agg [.d (.int .i64 0), .d (.int .i64 0)], .d (.int .i64 1)]) (σ := []) (by kernel_rfl) Try.func53 rfl (.cons _ _ _ _ (.agg 4 37 2 0 [.d (.int .i64 0), .d (.int .i64 0)] [.d (.int .i64 0), .d (.int .i64 0)] _ _ _ _ (by kernel_rfl) (by kernel_rfl) Try.underlying37 (by kernel_rfl) ty37 (by kernel_rfl) (by kernel_rfl)) (.cons _ _ _ _ (.tmp 5 _ (by kernel_rfl)) .nil)) (by kernel_rfl) (by kernel_rfl) (by kernel_rfl) (by kernel_rfl) (by decide) (by kernel_rfl) (by kernel_rfl)
   ·refine oCondF (by kernel_rfl) ?_
    refine oSkip ?_
    refine oSeq ?_
    refine oDraw [(0, 16), (1, 16), (2, 16)] rfl ?_
    refine aTakeL (i := 0) (st' := []) (.ptr 0 0) rfl (by kernel_rfl) (by kernel_rfl) (by kernel_rfl) (by kernel_rfl) (by kernel_rfl) (by kernel_rfl) (by kernel_rfl) (PureV.quiet (k_fieldAddr 0 0 (by kernel_rfl) Try.underlying37 rfl ty3 (by kernel_rfl)) []) ?_
    refine aTakeL (i := 1) (st' := [0]) (.d (.int .i64 a0)) rfl (by kernel_rfl) (by kernel_rfl) (by kernel_rfl) (by kernel_rfl) (by kernel_rfl) (by kernel_rfl) (by kernel_rfl) (k_load 0 0 (by kernel_rfl) Try.underlying3 (by kernel_rfl) (by kernel_rfl)) ?_
    refine aTakeL (i := 3) (st' := []) (.ptr 1 1) rfl (by kernel_rfl) (by kernel_rfl) (by kernel_rfl) (by kernel_rfl) (by kernel_rfl) (by kernel_rfl) (by kernel_rfl) (PureV.quiet (k_fieldAddr 1 0 (by kernel_rfl) Try.underlying37 rfl ty3 (by kernel_rfl)) []) ?_
    refine aTakeL (i := 4) (st' := [1]) (.d (.int .i64 b1)) rfl (by kernel_rfl) (by kernel_rfl) (by kernel_rfl) (by kernel_rfl) (by kernel_rfl) (by kernel_rfl) (by kernel_rfl) (k_load 1 1 (by kernel_rfl) Try.underlying3 (by kernel_rfl) (by kernel_rfl)) ?_
    refine aTakeL (i := 5) (st' := []) (.d (.int .u64 (IntKind.wrap .u64 b1))) rfl (by kernel_rfl) (by kernel_rfl) (by kernel_rfl) (by kernel_rfl) (by kernel_rfl) (by kernel_rfl) (by kernel_rfl) (PureV.quiet (p_conv (k := .i64) (p := b1) (by kernel_rfl) Try.underlying3 Try.underlying64 (by kernel_rfl)) []) ?_
    refine aTakeL (i := 7) (st' := []) (.ptr 1 0) rfl (by kernel_rfl) (by kernel_rfl) (by kernel_rfl) (by kernel_rfl) (by kernel_rfl) (by kernel_rfl) (by kernel_rfl) (PureV.quiet (k_fieldAddr 1 0 (by kernel_rfl) Try.underlying37 rfl ty3 (by kernel_rfl)) []) ?_
    refine aTakeL (i := 8) (st' := [1]) (.d (.int .i64 b0)) rfl (by kernel_rfl) (by kernel_rfl) (by kernel_rfl) (by kernel_rfl) (by kernel_rfl) (by kernel_rfl) (by kernel_rfl) (k_load 1 0 (by kernel_rfl) Try.underlying3 (by kernel_rfl) (by kernel_rfl)) ?_
    refine aTakeL (i := 10) (st' := []) (.ptr 0 1) rfl (by kernel_rfl) (by kernel_rfl) (by kernel_rfl) (by kernel_rfl) (by kernel_rfl) (by kernel_rfl) (by kernel_rfl) (PureV.quiet (k_fieldAddr 0 0 (by kernel_rfl) Try.underlying37 rfl ty3 (by kernel_rfl)) []) ?_
    refine aTakeL (i := 11) (st' := [0]) (.d (.int .i64 a1)) rfl (by kernel_rfl) (by kernel_rfl) (by kernel_rfl) (by kernel_rfl) (by kernel_rfl) (by kernel_rfl) (by kernel_rfl) (k_load 0 1 (by kernel_rfl) Try.underlying3 (by kernel_rfl) (by kernel_rfl)) ?_
    refine aTakeL (i := 12) (st' := []) (.d (.int .u64 (IntKind.wrap .u64 a1))) rfl (by kernel_rfl) (by kernel_rfl) (by kernel_rfl) (by kernel_rfl) (by kernel_rfl) (by kernel_rfl) (by kernel_rfl) (PureV.quiet (p_conv (k := .i64) (p := a1) (by kernel_rfl) Try.underlying3 Try.underlying64 (by kernel_rfl)) []) ?_
    refine dCall (i := 2) (caps := []) (v := (fun (r1 : Int) => (.d (.int .u64 r1) : V))) (H' := (fun (r1 : Int) => ([.box [.d (.int .i64 a0), .d (.int .i64 a1)], .box [.d (.int .i64 b0), .d (.int .i64 b1)], .box [.d (.int .i64 0), .d (.int .i64 0)]] : List Blk))) [] _ (ratio_abs_goes k a0) rfl (by kernel_rfl) (by kernel_rfl) (by kernel_rfl) (by kernel_rfl) (by kernel_rfl) (by kernel_rfl) (by kernel_rfl) (by kernel_rfl) rfl (by kernel_rfl) Try.func36 rfl (by kernel_rfl) (ConvRs.refl _ _) (by kernel_rfl) (by kernel_rfl) (by kernel_rfl) (by decide) (by kernel_rfl) (by kernel_rfl) (fun _ => (by kernel_rfl)) (fun _ => (by kernel_rfl)) (fun _ => (by kernel_rfl)) (fun r1 => ?_)
    refine dCall (i := 6) (caps := []) (v := (fun (r11 : Int) => (.d (.int .u64 r11) : V))) (H' := (fun (r11 : Int) => ([.box [.d (.int .i64 a0), .d (.int .i64 a1)], .box [.d (.int .i64 b0), .d (.int .i64 b1)], .box [.d (.int .i64 0), .d (.int .i64 0)]] : List Blk))) [] _ (ratio_gcd_goes k r1 (IntKind.wrap .u64 b1)) rfl (by kernel_rfl) (by kernel_rfl) (by kernel_rfl) (by kernel_rfl) (by kernel_rfl) (by kernel_rfl) (by kernel_rfl) (by kernel_rfl) rfl (by kernel_rfl) Try.func35 rfl (by kernel_rfl) (ConvRs.refl _ _) (by kernel_rfl) (by kernel_rfl) (by kernel_rfl) (by decide) (by kernel_rfl) (by kernel_rfl) (fun _ => (by kernel_rfl)) (fun _ => (by kernel_rfl)) (fun _ => (by kernel_rfl)) (fun r11 => ?_)
    refine dCall (i := 9) (caps := []) (v := (fun (r13 : Int) => (.d (.int .u64 r13) : V))) (H' := (fun (r13 : Int) => ([.box [.d (.int .i64 a0), .d (.int .i64 a1)], .box [.d (.int .i64 b0), .d (.int .i64 b1)], .box [.d (.int .i64 0), .d (.int .i64 0)]] : List Blk))) [] _ (ratio_abs_goes k b0) rfl (by kernel_rfl) (by kernel_rfl) (by kernel_rfl) (by kernel_rfl) (by kernel_rfl) (by kernel_rfl) (by kernel_rfl) (by kernel_rfl) rfl (by kernel_rfl) Try.func36 rfl (by kernel_rfl) (ConvRs.refl _ _) (by kernel_rfl) (by kernel_rfl) (by kernel_rfl) (by decide) (by kernel_rfl) (by kernel_rfl) (fun _ => (by kernel_rfl)) (fun _ => (by kernel_rfl)) (fun _ => (by kernel_rfl)) (fun r13 => ?_)
    refine dCall (i := 13) (caps := []) (v := (fun (r14 : Int) => (.d (.int .u64 r14) : V))) (H' := (fun (r14 : Int) => ([.box [.d (.int .i64 a0), .d (.int .i64 a1)], .box [.d (.int .i64 b0), .d (.int .i64 b1)], .box [.d (.int .i64 0), .d (.int .i64 0)]] : List Blk))) [] _ (ratio_gcd_goes k r13 (IntKind.wrap .u64 a1)) rfl (by kernel_rfl) (by kernel_rfl) (by kernel_rfl) (by kernel_rfl) (by kernel_rfl) (by kernel_rfl) (by kernel_rfl) (by kernel_rfl) rfl (by kernel_rfl) Try.func35 rfl (by kernel_rfl) (ConvRs.refl _ _) (by kernel_rfl) (by kernel_rfl) (by kernel_rfl) (by decide) (by kernel_rfl) (by kernel_rfl) (fun _ => (by kernel_rfl)) (fun _ => (by kernel_rfl)) (fun _ => (by kernel_rfl)) (fun r14 => ?_)
    refine aTakeL (i := 14) (st' := []) (.d (.int .u64 r11)) rfl (by kernel_rfl) (by kernel_rfl) (by kernel_rfl) (by kernel_rfl) (by kernel_rfl) (by kernel_rfl) (by kernel_rfl) (PureV.quiet (p_assign (by kernel_rfl)) []) ?_
    refine aTakeL (i := 15) (st' := []) (.d (.int .u64 r14)) rfl (by kernel_rfl) (by kernel_rfl) (by kernel_rfl) (by kernel_rfl) (by kernel_rfl) (by kernel_rfl) (by kernel_rfl) (PureV.quiet (p_assign (by kernel_rfl)) []) ?_
    refine aDone (by kernel_rfl) ?_
    refine oSeq ?_
    refine oDraw [(0, 13), (1, 13), (2, 13)] rfl ?_
    refine aTakeL (i := 0) (st' := []) (.ptr 0 0) rfl (by kernel_rfl) (by kernel_rfl) (by kernel_rfl) (by kernel_rfl) (by kernel_rfl) (by kernel_rfl) (by kernel_rfl) (PureV.quiet (k_fieldAddr 0 0 (by kernel_rfl) Try.underlying37 rfl ty3 (by kernel_rfl)) []) ?_
    refine aTakeL (i := 1) (st' := [0]) (.d (.int .i64 a0)) rfl (by kernel_rfl) (by kernel_rfl) (by kernel_rfl) (by kernel_rfl) (by kernel_rfl) (by kernel_rfl) (by kernel_rfl) (k_load 0 0 (by kernel_rfl) Try.underlying3 (by kernel_rfl) (by kernel_rfl)) ?_
    refine aTakeL (i := 2) (st' := []) (.d (.int .u64 r11)) rfl (by kernel_rfl) (by kernel_rfl) (by kernel_rfl) (by kernel_rfl) (by kernel_rfl) (by kernel_rfl) (by kernel_rfl) (PureV.quiet (p_move (by kernel_rfl)) []) ?_
    refine aTakeL (i := 3) (st' := []) (.d (.int .i64 (IntKind.wrap .i64 r11))) rfl (by kernel_rfl) (by kernel_rfl) (by kernel_rfl) (by kernel_rfl) (by kernel_rfl) (by kernel_rfl) (by kernel_rfl) (PureV.quiet (p_conv (k := .u64) (p := r11) (by kernel_rfl) Try.underlying64 Try.underlying3 (by kernel_rfl)) []) ?_
    refine dNz (fun h1 => ?_)
    refine aTakeP (i := 4) (.d (.int .i64 (IntKind.wrap .i64 (Int.tdiv a0 (IntKind.wrap .i64 r11))))) rfl (by kernel_rfl) (by kernel_rfl) (by kernel_rfl) (by kernel_rfl) (by kernel_rfl) (by kernel_rfl) (by kernel_rfl) (p_quo (k := .i64) (p := a0) (q := (IntKind.wrap .i64 r11)) (by kernel_rfl) (by kernel_rfl) h1 (by kernel_rfl)) ?_
    refine aTakeL (i := 5) (st' := []) (.ptr 1 0) rfl (by kernel_rfl) (by kernel_rfl) (by kernel_rfl) (by kernel_rfl) (by kernel_rfl) (by kernel_rfl) (by kernel_rfl) (PureV.quiet (k_fieldAddr 1 0 (by kernel_rfl) Try.underlying37 rfl ty3 (by kernel_rfl)) []) ?_
    refine aTakeL (i := 6) (st' := [1]) (.d (.int .i64 b0)) rfl (by kernel_rfl) (by kernel_rfl) (by kernel_rfl) (by kernel_rfl) (by kernel_rfl) (by kernel_rfl) (by kernel_rfl) (k_load 1 0 (by kernel_rfl) Try.underlying3 (by kernel_rfl) (by kernel_rfl)) ?_
    refine aTakeL (i := 8) (st' := []) (.d (.int .u64 r14)) rfl (by kernel_rfl) (by kernel_rfl) (by kernel_rfl) (by kernel_rfl) (by kernel_rfl) (by kernel_rfl) (by kernel_rfl) (PureV.quiet (p_move (by kernel_rfl)) []) ?_
    refine dCall (i := 7) (caps := []) (v := (fun (r15 : Int) => (.d (.int .u64 r15) : V))) (H' := (fun (r15 : Int) => ([.box [.d (.int .i64 a0), .d (.int .i64 a1)], .box [.d (.int .i64 b0), .d (.int .i64 b1)], .box [.d (.int .i64 0), .d (.int .i64 0)]] : List Blk))) [] _ (ratio_abs_goes k b0) rfl (by kernel_rfl) (by kernel_rfl) (by kernel_rfl) (by kernel_rfl) (by kernel_rfl) (by kernel_rfl) (by kernel_rfl) (by kernel_rfl) rfl (by kernel_rfl) Try.func36 rfl (by kernel_rfl) (ConvRs.refl _ _) (by kernel_rfl) (by kernel_rfl) (by kernel_rfl) (by decide) (by kernel_rfl) (by kernel_rfl) (fun _ => (by kernel_rfl)) (fun _ => (by kernel_rfl)) (fun _ => (by kernel_rfl)) (fun r15 => ?_)
    refine dNz (fun h12 => ?_)
    refine aTakeP (i := 9) (.d (.int .u64 (IntKind.wrap .u64 (Int.tdiv r15 r14)))) rfl (by kernel_rfl) (by kernel_rfl) (by kernel_rfl) (by kernel_rfl) (by kernel_rfl) (by kernel_rfl) (by kernel_rfl) (p_quo (k := .u64) (p := r15) (q := r14) (by kernel_rfl) (by kernel_rfl) h12 (by kernel_rfl)) ?_
    refine dCall (i := 10) (caps := []) (v := (uc fun (r122 : Int) => (fun (r131 : Int) => (.agg [.d (.bool (decide ((IntKind.wrap .i64 (Int.tdiv a0 (IntKind.wrap .i64 r11))) < 0))), .d (.int .u64 r122), .d (.int .u64 r131)] : V)))) (H' := (uc fun (r122 : Int) => (fun (r131 : Int) => ([.box [.d (.int .i64 a0), .d (.int .i64 a1)], .box [.d (.int .i64 b0), .d (.int .i64 b1)], .box [.d (.int .i64 0), .d (.int .i64 0)]] : List Blk)))) [] _ (ratio_times_goes k (IntKind.wrap .i64 (Int.tdiv a0 (IntKind.wrap .i64 r11))) (IntKind.wrap .u64 (Int.tdiv r15 r14))) rfl (by kernel_rfl) (by kernel_rfl) (by kernel_rfl) (by kernel_rfl) (by kernel_rfl) (by kernel_rfl) (by kernel_rfl) (by kernel_rfl) rfl (by kernel_rfl) Try.func48 rfl (by kernel_rfl) (ConvRs.refl _ _) (by kernel_rfl) (by kernel_rfl) (by kernel_rfl) (by decide) (by kernel_rfl) (by kernel_rfl) (fun _ => (by kernel_rfl)) (fun _ => (by kernel_rfl)) (fun _ => (by kernel_rfl)) (fun r => ?_)
    obtain ⟨r122, r131⟩ := r
    refine dUc ?_
    refine aAlloc (i := 11) (d := 8) rfl (by kernel_rfl) (by kernel_rfl) rfl rfl (by kernel_rfl) (by kernel_rfl) ty80 (cells := [.d (.bool false), .d (.int .u64 0), .d (.int .u64 0)]) (by kernel_rfl) (by kernel_rfl) ?_
    refine dView (H' := [.box [.d (.int .i64 a0), .d (.int .i64 a1)], .box [.d (.int .i64 b0), .d (.int .i64 b1)], .box [.d (.int .i64 0), .d (.int .i64 0)], .box [.d (.bool false), .d (.int .u64 0), .d (.int .u64 0)]]) rfl rfl (by kernel_rfl) ?_
    refine aOne (i := 12) (v := .undef) rfl (by kernel_rfl) (by kernel_rfl) (by kernel_rfl) (by kernel_rfl) (by kernel_rfl) (by kernel_rfl) (by kernel_rfl) (Does.acts (k_store (vs := [.d (.bool (decide ((IntKind.wrap .i64 (Int.tdiv a0 (IntKind.wrap .i64 r11))) < 0))), .d (.int .u64 r122), .d (.int .u64 r131)]) (H' := [.box [.d (.int .i64 a0), .d (.int .i64 a1)], .box [.d (.int .i64 b0), .d (.int .i64 b1)], .box [.d (.int .i64 0), .d (.int .i64 0)], .box [.d (.bool (decide ((IntKind.wrap .i64 (Int.tdiv a0 (IntKind.wrap .i64 r11))) < 0))), .d (.int .u64 r122), .d (.int .u64 r131)]]) 3 0 (by kernel_rfl) ty80 (by kernel_rfl) (by kernel_rfl) (by kernel_rfl))) (by kernel_rfl) ?_
    refine aDone (by kernel_rfl) ?_
    refine oSeq ?_
    refine oRegion rfl ?_
    refine oOp (.ptr 3 0) (by kernel_rfl) (by kernel_rfl) (PureV.does (k_fieldAddr 3 0 (by kernel_rfl) Try.underlying80 rfl ty4 (by kernel_rfl))) ?_
    refine oOp (.d (.bool (decide ((IntKind.wrap .i64 (Int.tdiv a0 (IntKind.wrap .i64 r11))) < 0)))) (by kernel_rfl) (by kernel_rfl) (Quiet.does (k_load 3 0 (by kernel_rfl) Try.underlying4 (by kernel_rfl) (by kernel_rfl))) ?_
    refine oOp (.ptr 1 0) (by kernel_rfl) (by kernel_rfl) (PureV.does (k_fieldAddr 1 0 (by kernel_rfl) Try.underlying37 rfl ty3 (by kernel_rfl))) ?_
    refine oOp (.d (.int .i64 b0)) (by kernel_rfl) (by kernel_rfl) (Quiet.does (k_load 1 0 (by kernel_rfl) Try.underlying3 (by kernel_rfl) (by kernel_rfl))) ?_
    refine oOp (.d (.bool (decide (b0 < 0)))) (by kernel_rfl) (by kernel_rfl) (PureV.does (p_int (k := .i64) (p := b0) (q := 0) (by kernel_rfl) (by kernel_rfl) (by kernel_rfl))) ?_
    refine oOp (.d (.bool (!((decide ((IntKind.wrap .i64 (Int.tdiv a0 (IntKind.wrap .i64 r11))) < 0)) == (decide (b0 < 0)))))) (by kernel_rfl) (by kernel_rfl) (PureV.does (p_boolNe (p := (decide ((IntKind.wrap .i64 (Int.tdiv a0 (IntKind.wrap .i64 r11))) < 0))) (q := (decide (b0 < 0))) (by kernel_rfl) (by kernel_rfl) Try.underlying4 (by kernel_rfl))) ?_
    refine oOp (.ptr 3 0) (by kernel_rfl) (by kernel_rfl) (PureV.does (k_fieldAddr 3 0 (by kernel_rfl) Try.underlying80 rfl ty4 (by kernel_rfl))) ?_
    refine oOp (.undef) (by kernel_rfl) (by kernel_rfl) (k_store (vs := [.d (.bool (!((decide ((IntKind.wrap .i64 (Int.tdiv a0 (IntKind.wrap .i64 r11))) < 0)) == (decide (b0 < 0)))))]) (H' := [.box [.d (.int .i64 a0), .d (.int .i64 a1)], .box [.d (.int .i64 b0), .d (.int .i64 b1)], .box [.d (.int .i64 0), .d (.int .i64 0)], .box [.d (.bool (!((decide ((IntKind.wrap .i64 (Int.tdiv a0 (IntKind.wrap .i64 r11))) < 0)) == (decide (b0 < 0))))), .d (.int .u64 r122), .d (.int .u64 r131)]]) 3 0 (by kernel_rfl) ty4 (by kernel_rfl) (by kernel_rfl) (by kernel_rfl)) ?_
    refine oEnd ?_
    refine oSeq ?_
    refine oDraw [(0, 16), (1, 16), (2, 16), (3, 16)] rfl ?_
    refine aTakeL (i := 0) (st' := []) (.ptr 0 1) rfl (by kernel_rfl) (by kernel_rfl) (by kernel_rfl) (by kernel_rfl) (by kernel_rfl) (by kernel_rfl) (by kernel_rfl) (PureV.quiet (k_fieldAddr 0 0 (by kernel_rfl) Try.underlying37 rfl ty3 (by kernel_rfl)) []) ?_
    refine aTakeL (i := 1) (st' := [0]) (.d (.int .i64 a1)) rfl (by kernel_rfl) (by kernel_rfl) (by kernel_rfl) (by kernel_rfl) (by kernel_rfl) (by kernel_rfl) (by kernel_rfl) (k_load 0 1 (by kernel_rfl) Try.underlying3 (by kernel_rfl) (by kernel_rfl)) ?_
    refine aTakeL (i := 2) (st' := []) (.d (.int .u64 (IntKind.wrap .u64 a1))) rfl (by kernel_rfl) (by kernel_rfl) (by kernel_rfl) (by kernel_rfl) (by kernel_rfl) (by kernel_rfl) (by kernel_rfl) (PureV.quiet (p_conv (k := .i64) (p := a1) (by kernel_rfl) Try.underlying3 Try.underlying64 (by kernel_rfl)) []) ?_
    refine aTakeL (i := 3) (st' := []) (.d (.int .u64 r14)) rfl (by kernel_rfl) (by kernel_rfl) (by kernel_rfl) (by kernel_rfl) (by kernel_rfl) (by kernel_rfl) (by kernel_rfl) (PureV.quiet (p_move (by kernel_rfl)) []) ?_
    refine dNz (fun h16 => ?_)
    refine aTakeP (i := 4) (.d (.int .u64 (IntKind.wrap .u64 (Int.tdiv (IntKind.wrap .u64 a1) r14)))) rfl (by kernel_rfl) (by kernel_rfl) (by kernel_rfl) (by kernel_rfl) (by kernel_rfl) (by kernel_rfl) (by kernel_rfl) (p_quo (k := .u64) (p := (IntKind.wrap .u64 a1)) (q := r14) (by kernel_rfl) (by kernel_rfl) h16 (by kernel_rfl)) ?_
    refine aTakeL (i := 5) (st' := []) (.ptr 1 1) rfl (by kernel_rfl) (by kernel_rfl) (by kernel_rfl) (by kernel_rfl) (by kernel_rfl) (by kernel_rfl) (by kernel_rfl) (PureV.quiet (k_fieldAddr 1 0 (by kernel_rfl) Try.underlying37 rfl ty3 (by kernel_rfl)) []) ?_
    refine aTakeL (i := 6) (st' := [1]) (.d (.int .i64 b1)) rfl (by kernel_rfl) (by kernel_rfl) (by kernel_rfl) (by kernel_rfl) (by kernel_rfl) (by kernel_rfl) (by kernel_rfl) (k_load 1 1 (by kernel_rfl) Try.underlying3 (by kernel_rfl) (by kernel_rfl)) ?_
    refine aTakeL (i := 7) (st' := []) (.d (.int .u64 (IntKind.wrap .u64 b1))) rfl (by kernel_rfl) (by kernel_rfl) (by kernel_rfl) (by kernel_rfl) (by kernel_rfl) (by kernel_rfl) (by kernel_rfl) (PureV.quiet (p_conv (k := .i64) (p := b1) (by kernel_rfl) Try.underlying3 Try.underlying64 (by kernel_rfl)) []) ?_
    refine aTakeL (i := 8) (st' := []) (.d (.int .u64 r11)) rfl (by kernel_rfl) (by kernel_rfl) (by kernel_rfl) (by kernel_rfl) (by kernel_rfl) (by kernel_rfl) (by kernel_rfl) (PureV.quiet (p_move (by kernel_rfl)) []) ?_
    refine dNz (fun h18 => ?_)
    refine aTakeP (i := 9) (.d (.int .u64 (IntKind.wrap .u64 (Int.tdiv (IntKind.wrap .u64 b1) r11)))) rfl (by kernel_rfl) (by kernel_rfl) (by kernel_rfl) (by kernel_rfl) (by kernel_rfl) (by kernel_rfl) (by kernel_rfl) (p_quo (k := .u64) (p := (IntKind.wrap .u64 b1)) (q := r11) (by kernel_rfl) (by kernel_rfl) h18 (by kernel_rfl)) ?_
    refine dCall (i := 10) (caps := []) (v := (uc fun (r16 : Int) => (fun (r111 : Int) => (.tuple [.d (.int .u64 r16), .d (.int .u64 r111)] : V)))) (H' := (uc fun (r16 : Int) => (fun (r111 : Int) => ([.box [.d (.int .i64 a0), .d (.int .i64 a1)], .box [.d (.int .i64 b0), .d (.int .i64 b1)], .box [.d (.int .i64 0), .d (.int .i64 0)], .box [.d (.bool (!((decide ((IntKind.wrap .i64 (Int.tdiv a0 (IntKind.wrap .i64 r11))) < 0)) == (decide (b0 < 0))))), .d (.int .u64 r122), .d (.int .u64 r131)]] : List Blk)))) [] _ (math_bits_Mul64_goes k (IntKind.wrap .u64 (Int.tdiv (IntKind.wrap .u64 a1) r14)) (IntKind.wrap .u64 (Int.tdiv (IntKind.wrap .u64 b1) r11))) rfl (by kernel_rfl) (by kernel_rfl) (by kernel_rfl) (by kernel_rfl) (by kernel_rfl) (by kernel_rfl) (by kernel_rfl) (by kernel_rfl) rfl (by kernel_rfl) Try.func59 rfl (by kernel_rfl) (ConvRs.refl _ _) (by kernel_rfl) (by kernel_rfl) (by kernel_rfl) (by decide) (by kernel_rfl) (by kernel_rfl) (fun _ => (by kernel_rfl)) (fun _ => (by kernel_rfl)) (fun _ => (by kernel_rfl)) (fun r => ?_)
    obtain ⟨r16, r111⟩ := r
    refine dUc ?_
    refine aTakeP (i := 11) (.tuple [.d (.int .u64 r16), .d (.int .u64 r111)]) rfl (by kernel_rfl) (by kernel_rfl) (by kernel_rfl) (by kernel_rfl) (by kernel_rfl) (by kernel_rfl) (by kernel_rfl) (p_move (by kernel_rfl)) ?_
    refine aTakeP (i := 12) (.d (.int .u64 r16)) rfl (by kernel_rfl) (by kernel_rfl) (by kernel_rfl) (by kernel_rfl) (by kernel_rfl) (by kernel_rfl) (by kernel_rfl) (k_extract (by kernel_rfl)) ?_
    refine aTakeP (i := 13) (.d (.int .u64 r111)) rfl (by kernel_rfl) (by kernel_rfl) (by kernel_rfl) (by kernel_rfl) (by kernel_rfl) (by kernel_rfl) (by kernel_rfl) (k_extract (by kernel_rfl)) ?_
    refine aTakeL (i := 14) (st' := []) (.d (.int .u64 r16)) rfl (by kernel_rfl) (by kernel_rfl) (by kernel_rfl) (by kernel_rfl) (by kernel_rfl) (by kernel_rfl) (by kernel_rfl) (PureV.quiet (p_assign (by kernel_rfl)) []) ?_
    refine aTakeL (i := 15) (st' := []) (.d (.int .u64 r111)) rfl (by kernel_rfl) (by kernel_rfl) (by kernel_rfl) (by kernel_rfl) (by kernel_rfl) (by kernel_rfl) (by kernel_rfl) (PureV.quiet (p_assign (by kernel_rfl)) []) ?_
    refine aDone (by kernel_rfl) ?_
    refine oSeq ?_
    refine oSeq ?_
    refine oRegion rfl ?_
    refine oOp (.d (.int .u64 r16)) (by kernel_rfl) (by kernel_rfl) (PureV.does (p_move (by kernel_rfl))) ?_
    refine oOp (.d (.bool (r16 != 0))) (by kernel_rfl) (by kernel_rfl) (PureV.does (p_int (k := .u64) (p := r16) (q := 0) (by kernel_rfl) (by kernel_rfl) (by kernel_rfl))) ?_
    refine oEnd ?_
    refine bSplit 67 (by kernel_rfl) (fun hc => ?_) (fun hc => ?_)
    ·refine oCondT (by kernel_rfl) ?_
     refine oSeq ?_
     refine oRegion rfl ?_
     refine oOp (.agg [.d (.int .i64 0), .d (.int .i64 0)]) (by kernel_rfl) (by kernel_rfl) (PureV.does (p_build bld37 (by kernel_rfl))) ?_
     refine oOp (.undef) (by kernel_rfl) (by kernel_rfl) (k_store (vs := [.d (.int .i64 0), .d (.int .i64 0)]) (H' := [.box [.d (.int .i64 a0), .d (.int .i64 a1)], .box [.d (.int .i64 b0), .d (.int .i64 b1)], .box [.d (.int .i64 0), .d (.int .i64 0)], .box [.d (.bool (!((decide ((IntKind.wrap .i64 (Int.tdiv a0 (IntKind.wrap .i64 r11))) < 0)) == (decide (b0 < 0))))), .d (.int .u64 r122), .d (.int .u64 r131)]]) 2 0 (by kernel_rfl) ty37 (by kernel_rfl) (by kernel_rfl) (by kernel_rfl)) ?_
     refine oOp (.d (.int .i64 6)) (by kernel_rfl) (by kernel_rfl) (PureV.does (p_assign (by kernel_rfl))) ?_
     refine oEnd ?_
     exact oRet (r0 := (0, 0, 6)) (rv := .tuple [.agg [.d (.int .i64 0), .d (.int .i64 0)], .d (.int .i64 6)]) (B := []) (vs := [.agg [.d (.int .i64 0), .d (.int .i64 0)], .d (.int .i64 6)]) (σ := []) (by kernel_rfl) Try.func53 rfl (.cons _ _ _ _ (.agg 4 37 2 0 [.d (.int .i64 0), .d (.int .i64 0)] [.d (.int .i64 0), .d (.int .i64 0)] _ _ _ _ (by kernel_rfl) (by kernel_rfl) Try.underlying37 (by kernel_rfl) ty37 (by kernel_rfl) (by kernel_rfl)) (.cons _ _ _ _ (.tmp 5 _ (by kernel_rfl)) .nil)) (by kernel_rfl) (by kernel_rfl) (by kernel_rfl) (by kernel_rfl) (by decide) (by kernel_rfl) (by kernel_rfl)
    ·refine oCondF (by kernel_rfl) ?_
     refine oSkip ?_
     refine oSeq ?_
     refine oRegion rfl ?_
     refine oOp (.agg [.d (.bool (!((decide ((IntKind.wrap .i64 (Int.tdiv a0 (IntKind.wrap .i64 r11))) < 0)) == (decide (b0 < 0))))), .d (.int .u64 r122), .d (.int .u64 r131)]) (by kernel_rfl) (by kernel_rfl) (Quiet.does (k_loadAgg 3 0 (by kernel_rfl) Try.underlying80 (by kernel_rfl) ty80 (by kernel_rfl))) ?_
     refine oOp (.d (.int .u64 r111)) (by kernel_rfl) (by kernel_rfl) (PureV.does (p_move (by kernel_rfl))) ?_
     refine bCall (caps := []) (v := (uc fun (r126 : Int) => (uc fun (r142 : Int) => (fun (r152 : Int) => (.tuple [.agg [.d (.int .i64 r126), .d (.int .i64 r142)], .d (.int .i64 r152)] : V))))) (H' := (uc fun (r126 : Int) => (uc fun (r142 : Int) => (fun (r152 : Int) => ([.box [.d (.int .i64 a0), .d (.int .i64 a1)], .box [.d (.int .i64 b0), .d (.int .i64 b1)], .box [.d (.int .i64 0), .d (.int .i64 0)], .box [.d (.bool (!((decide ((IntKind.wrap .i64 (Int.tdiv a0 (IntKind.wrap .i64 r11))) < 0)) == (decide (b0 < 0))))), .d (.int .u64 r122), .d (.int .u64 r131)]] : List Blk))))) [] _ (ratio_lowest_goes k (!((decide ((IntKind.wrap .i64 (Int.tdiv a0 (IntKind.wrap .i64 r11))) < 0)) == (decide (b0 < 0)))) r122 r131 r111) (by kernel_rfl) (by kernel_rfl) rfl (by kernel_rfl) Try.func72 rfl (by kernel_rfl) (ConvRs.refl _ _) (by kernel_rfl) (by kernel_rfl) (by kernel_rfl) (by decide) (by kernel_rfl) (by kernel_rfl) (fun _ => (by kernel_rfl)) (fun _ => (by kernel_rfl)) (fun _ => (by kernel_rfl)) (fun r => ?_)
     obtain ⟨r126, r142, r152⟩ := r
     refine bUc ?_
     refine bUc ?_
     refine oOp (.agg [.d (.int .i64 r126), .d (.int .i64 r142)]) (by kernel_rfl) (by kernel_rfl) (PureV.does (k_extract (by kernel_rfl))) ?_
     refine oOp (.d (.int .i64 r152)) (by kernel_rfl) (by kernel_rfl) (PureV.does (k_extract (by kernel_rfl))) ?_
     refine oOp (.undef) (by kernel_rfl) (by kernel_rfl) (k_store (vs := [.d (.int .i64 r126), .d (.int .i64 r142)]) (H' := [.box [.d (.int .i64 a0), .d (.int .i64 a1)], .box [.d (.int .i64 b0), .d (.int .i64 b1)], .box [.d (.int .i64 r126), .d (.int .i64 r142)], .box [.d (.bool (!((decide ((IntKind.wrap .i64 (Int.tdiv a0 (IntKind.wrap .i64 r11))) < 0)) == (decide (b0 < 0))))), .d (.int .u64 r122), .d (.int .u64 r131)]]) 2 0 (by kernel_rfl) ty37 (by kernel_rfl) (by kernel_rfl) (by kernel_rfl)) ?_
     refine oOp (.d (.int .i64 r152)) (by kernel_rfl) (by kernel_rfl) (PureV.does (p_assign (by kernel_rfl))) ?_
     refine oEnd ?_
     exact oRet (r0 := (r126, r142, r152)) (rv := .tuple [.agg [.d (.int .i64 r126), .d (.int .i64 r142)], .d (.int .i64 r152)]) (B := []) (vs := [.agg [.d (.int .i64 r126), .d (.int .i64 r142)], .d (.int .i64 r152)]) (σ := []) (by kernel_rfl) Try.func53 rfl (.cons _ _ _ _ (.agg 4 37 2 0 [.d (.int .i64 r126), .d (.int .i64 r142)] [.d (.int .i64 r126), .d (.int .i64 r142)] _ _ _ _ (by kernel_rfl) (by kernel_rfl) Try.underlying37 (by kernel_rfl) ty37 (by kernel_rfl) (by kernel_rfl)) (.cons _ _ _ _ (.tmp 5 _ (by kernel_rfl)) .nil)) (by kernel_rfl) (by kernel_rfl) (by kernel_rfl) (by kernel_rfl) (by decide) (by kernel_rfl) (by kernel_rfl)
  ·refine bSplit 14 (by kernel_rfl) (fun hc => ?_) (fun hc => ?_)
   ·refine oNot (by kernel_rfl) (by kernel_rfl) ?_
    refine oNot (by kernel_rfl) (by kernel_rfl) ?_
    refine oNot (by kernel_rfl) (by kernel_rfl) ?_
    refine oOp (.d (.bool true)) (by kernel_rfl) (by kernel_rfl) (PureV.does (p_pick (b := true) (by kernel_rfl) (by kernel_rfl))) ?_
    refine oHead [2, 3, 4, 18] [0, 1, 2] (T' := [(2, .ptr 0 0), (3, .ptr 1 0), (4, .ptr 2 0), (18, .d (.bool true))]) (H' := [.box [.d (.int .i64 a0), .d (.int .i64 a1)], .box [.d (.int .i64 b0), .d (.int .i64 b1)], .box [.d (.int .i64 0), .d (.int .i64 0)]]) (by kernel_rfl) (by kernel_rfl) (by kernel_rfl) (by kernel_rfl) (by decide) (by kernel_rfl) (by kernel_rfl) ?_
    exact hj1 true
   ·refine oOp (.agg [.d (.int .i64 b0), .d (.int .i64 b1)]) (by kernel_rfl) (by kernel_rfl) (Quiet.does (k_loadAgg 1 0 (by kernel_rfl) Try.underlying37 (by kernel_rfl) ty37 (by kernel_rfl))) ?_
    refine bCall (caps := []) (v := (fun (r127 : Bool) => (.d (.bool r127) : V))) (H' := (fun (r127 : Bool) => ([.box [.d (.int .i64 a0), .d (.int .i64 a1)], .box [.d (.int .i64 b0), .d (.int .i64 b1)], .box [.d (.int .i64 0), .d (.int .i64 0)]] : List Blk))) [] _ (ratio_Valid_goes k b0 b1) (by kernel_rfl) (by kernel_rfl) rfl (by kernel_rfl) Try.func24 rfl (by kernel_rfl) (ConvRs.refl _ _) (by kernel_rfl) (by kernel_rfl) (by kernel_rfl) (by decide) (by kernel_rfl) (by kernel_rfl) (fun _ => (by kernel_rfl)) (fun _ => (by kernel_rfl)) (fun _ => (by kernel_rfl)) (fun r127 => ?_)
    refine oOp (.d (.bool (!r127))) (by kernel_rfl) (by kernel_rfl) (PureV.does (p_not (p := r127) (by kernel_rfl) (by kernel_rfl))) ?_
    refine oOp (.d (.bool (!r127))) (by kernel_rfl) (by kernel_rfl) (PureV.does (p_pick (b := false) (by kernel_rfl) (by kernel_rfl))) ?_
    refine oHead [2, 3, 4, 18] [0, 1, 2] (T' := [(2, .ptr 0 0), (3, .ptr 1 0), (4, .ptr 2 0), (18, .d (.bool (!r127)))]) (H' := [.box [.d (.int .i64 a0), .d (.int .i64 a1)], .box [.d (.int .i64 b0), .d (.int .i64 b1)], .box [.d (.int .i64 0), .d (.int .i64 0)]]) (by kernel_rfl) (by kernel_rfl) (by kernel_rfl) (by kernel_rfl) (by decide) (by kernel_rfl) (by kernel_rfl) ?_
    exact hj1 (!r127)

/-- awardingbody/ratio.Div -/
def ratio_Div (k : Nat) (a0 : Int) (a1 : Int) (b0 : Int) (b1 : Int) : Option (Int × Int × Int) := Option.bind (ratio_Valid k a0 a1) (fun r122 => Option.bind (bif (!r122) then some true else Option.bind (ratio_Valid k b0 b1) (fun r124 => some (!r124)) : Option (Bool)) (fun x3 => bif x3 then some (0, 0, 1) else bif (b0 == 0) then some (0, 0, 2) else Option.bind (bif (decide (b0 < 0)) then some ((IntKind.wrap .i64 (0 - b1)), (IntKind.wrap .i64 (0 - b0))) else some (b1, b0) : Option (Int × Int)) (uc fun x4 => fun x5 => Option.bind (ratio_Mul k a0 a1 x4 x5) (uc fun r171 => uc fun r181 => fun r191 => some (r171, r181, r191)))))
def ratio_Div_E (a0 : Int) (a1 : Int) (b0 : Int) (b1 : Int) : Int × Int × Int → V × List Blk := uc fun r1 => uc fun r11 => fun r13 => (.tuple [.agg [.d (.int .i64 r1), .d (.int .i64 r11)], .d (.int .i64 r13)], [])
theorem ratio_Div_goes (k : Nat) (a0 : Int) (a1 : Int) (b0 : Int) (b1 : Int) : RunsO Try.prog 74 [.agg [.d (.int .i64 a0), .d (.int .i64 a1)], .agg [.d (.int .i64 b0), .d (.int .i64 b1)]] [] (ratio_Div_E a0 a1 b0 b1) (ratio_Div k a0 a1 b0 b1) := by
  refine RunsO.of_goes (N := 40) (m := 0) (T := [(0, .agg [.d (.int .i64 a0), .d (.int .i64 a1)]), (1, .agg [.d (.int .i64 b0), .d (.int .i64 b1)])]) Try.func74 rfl rfl (by kernel_rfl) (by kernel_rfl) (by kernel_rfl) ?_
  unfold ratio_Div
  refine bStart ?_
  refine oSeq ?_
  refine oRegion rfl ?_
  refine oOp (.ptr 0 0) (by kernel_rfl) (by kernel_rfl) (k_box (H' := [.box [.d (.int .i64 a0), .d (.int .i64 a1)]]) (cells := [.d (.int .i64 a0), .d (.int .i64 a1)]) (by kernel_rfl) (by kernel_rfl) (by kernel_rfl)) ?_
  refine oOp (.ptr 1 0) (by kernel_rfl) (by kernel_rfl) (k_box (H' := [.box [.d (.int .i64 a0), .d (.int .i64 a1)], .box [.d (.int .i64 b0), .d (.int .i64 b1)]]) (cells := [.d (.int .i64 b0), .d (.int .i64 b1)]) (by kernel_rfl) (by kernel_rfl) (by kernel_rfl)) ?_
  refine oOp (.ptr 2 0) (by kernel_rfl) (by kernel_rfl) (k_alloc (H' := [.box [.d (.int .i64 a0), .d (.int .i64 a1)], .box [.d (.int .i64 b0), .d (.int .i64 b1)], .box [.d (.int .i64 0), .d (.int .i64 0)]]) ty37 (by kernel_rfl) (by kernel_rfl)) ?_
  refine oOp (.d (.int .i64 0)) (by kernel_rfl) (by kernel_rfl) (PureV.does (p_assign (by kernel_rfl))) ?_
  refine oEnd ?_
  refine oSeq ?_
  refine oSeq ?_
  refine oRegion rfl ?_
  refine oOp (.agg [.d (.int .i64 a0), .d (.int .i64 a1)]) (by kernel_rfl) (by kernel_rfl) (Quiet.does (k_loadAgg 0 0 (by kernel_rfl) Try.underlying37 (by kernel_rfl) ty37 (by kernel_rfl))) ?_
  refine bCall (caps := []) (v := (fun (r122 : Bool) => (.d (.bool r122) : V))) (H' := (fun (r122 : Bool) => ([.box [.d (.int .i64 a0), .d (.int .i64 a1)], .box [.d (.int .i64 b0), .d (.int .i64 b1)], .box [.d (.int .i64 0), .d (.int .i64 0)]] : List Blk))) [] _ (ratio_Valid_goes k a0 a1) (by kernel_rfl) (by kernel_rfl) rfl (by kernel_rfl) Try.func24 rfl (by kernel_rfl) (ConvRs.refl _ _) (by kernel_rfl) (by kernel_rfl) (by kernel_rfl) (by decide) (by kernel_rfl) (by kernel_rfl) (fun _ => (by kernel_rfl)) (fun _ => (by kernel_rfl)) (fun _ => (by kernel_rfl)) (fun r122 => ?_)
  refine oOp (.d (.bool (!r122))) (by kernel_rfl) (by kernel_rfl) (PureV.does (p_not (p := r122) (by kernel_rfl) (by kernel_rfl))) ?_
  refine oOp (.d (.bool (!r122))) (by kernel_rfl) (by kernel_rfl) (PureV.does (p_move (by kernel_rfl))) ?_
  refine bMeet 4 rfl ((fun (x3 : Bool) => [(2, .ptr 0 0), (3, .ptr 1 0), (4, .ptr 2 0), (14, .d (.bool x3))])) ((fun (x3 : Bool) => [.box [.d (.int .i64 a0), .d (.int .i64 a1)], .box [.d (.int .i64 b0), .d (.int .i64 b1)], .box [.d (.int .i64 0), .d (.int .i64 0)]])) (fun s => s) (fun x3 => ?_) (fun hj3 => ?_)
  ·refine oView (T' := [(2, .ptr 0 0), (3, .ptr 1 0), (4, .ptr 2 0), (14, .d (.bool x3))]) (H' := [.box [.d (.int .i64 a0), .d (.int .i64 a1)], .box [.d (.int .i64 b0), .d (.int .i64 b1)], .box [.d (.int .i64 0), .d (.int .i64 0)]]) (by kernel_rfl) (by kernel_rfl) ?_
   refine oEnd ?_
   refine bSplit 14 (by kernel_rfl) (fun hc => ?_) (fun hc => ?_)
   ·refine oCondT (by kernel_rfl) ?_
    refine oSeq ?_
    refine oRegion rfl ?_
    refine oOp (.agg [.d (.int .i64 0), .d (.int .i64 0)]) (by kernel_rfl) (by kernel_rfl) (PureV.does (p_build bld37 (by kernel_rfl))) ?_
    refine oOp (.undef) (by kernel_rfl) (by kernel_rfl) (k_store (vs := [.d (.int .i64 0), .d (.int .i64 0)]) (H' := [.box [.d (.int .i64 a0), .d (.int .i64 a1)], .box [.d (.int .i64 b0), .d (.int .i64 b1)], .box [.d (.int .i64 0), .d (.int .i64 0)]]) 2 0 (by kernel_rfl) ty37 (by kernel_rfl) (by kernel_rfl) (by kernel_rfl)) ?_
    refine oOp (.d (.int .i64 1)) (by kernel_rfl) (by kernel_rfl) (PureV.does (p_assign (by kernel_rfl))) ?_
    refine oEnd ?_
    exact oRet (r0 := (0, 0, 1)) (rv := .tuple [.agg [.d (.int .i64 0), .d (.int .i64 0)], .d (.int .i64 1)]) (B := []) (vs := [.agg [.d (.int .i64 0), .d (.int .i64 0)], .d (.int .i64 1)]) (σ := []) (by kernel_rfl) Try.func74 rfl (.cons _ _ _ _ (.agg 4 37 2 0 [.d (.int .i64 0), .d (.int .i64 0)] [.d (.int .i64 0), .d (.int .i64 0)] _ _ _ _ (by kernel_rfl) (by kernel_rfl) Try.underlying37 (by kernel_rfl) ty37 (by kernel_rfl) (by kernel_rfl)) (.cons _ _ _ _ (.tmp 5 _ (by kernel_rfl)) .nil)) (by kernel_rfl) (by kernel_rfl) (by kernel_rfl) (by kernel_rfl) (by decide) (by kernel_rfl) (by kernel_rfl)
   ·refine oCondF (by kernel_rfl) ?_
    refine oSkip ?_
    refine oSeq ?_
    refine oSeq ?_
    refine oRegion rfl ?_
    refine oOp (.ptr 1 0) (by kernel_rfl) (by kernel_rfl) (PureV.does (k_fieldAddr 1 0 (by kernel_rfl) Try.underlying37 rfl ty3 (by kernel_rfl))) ?_
    refine oOp (.d (.int .i64 b0)) (by kernel_rfl) (by kernel_rfl) (Quiet.does (k_load 1 0 (by kernel_rfl) Try.underlying3 (by kernel_rfl) (by kernel_rfl))) ?_
    refine oOp (.d (.bool (b0 == 0))) (by kernel_rfl) (by kernel_rfl) (PureV.does (p_int (k := .i64) (p := b0) (q := 0) (by kernel_rfl) (by kernel_rfl) (by kernel_rfl))) ?_
    refine oEnd ?_
    refine bSplit 18 (by kernel_rfl) (fun hc => ?_) (fun hc => ?_)
    ·refine oCondT (by kernel_rfl) ?_
     refine oSeq ?_
     refine oRegion rfl ?_
     refine oOp (.agg [.d (.int .i64 0), .d (.int .i64 0)]) (by kernel_rfl) (by kernel_rfl) (PureV.does (p_build bld37 (by kernel_rfl))) ?_
     refine oOp (.undef) (by kernel_rfl) (by kernel_rfl) (k_store (vs := [.d (.int .i64 0), .d (.int .i64 0)]) (H' := [.box [.d (.int .i64 a0), .d (.int .i64 a1)], .box [.d (.int .i64 b0), .d (.int .i64 b1)], .box [.d (.int .i64 0), .d (.int .i64 0)]]) 2 0 (by kernel_rfl) ty37 (by kernel_rfl) (by kernel_rfl) (by kernel_rfl)) ?_
     refine oOp (.d (.int .i64 2)) (by kernel_rfl) (by kernel_rfl) (PureV.does (p_assign (by kernel_rfl))) ?_
     refine oEnd ?_
     exact oRet (r0 := (0, 0, 2)) (rv := .tuple [.agg [.d (.int .i64 0), .d (.int .i64 0)], .d (.int .i64 2)]) (B := []) (vs := [.agg [.d (.int .i64 0), .d (.int .i64 0)], .d (.int .i64 2)]) (σ := []) (by kernel_rfl) Try.func74 rfl (.cons _ _ _ _ (.agg 4 37 2 0 [.d (.int .i64 0), .d (.int .i64 0)] [.d (.int .i64 0), .d (.int .i64 0)] _ _ _ _ (by kernel_rfl) (by kernel_rfl) Try.underlying37 (by kernel_rfl) ty37 (by kernel_rfl) (by kernel_rfl)) (.cons _ _ _ _ (.tmp 5 _ (by kernel_rfl)) .nil)) (by kernel_rfl) (by kernel_rfl) (by kernel_rfl) (by kernel_rfl) (by decide) (by kernel_rfl) (by kernel_rfl)
    ·refine oCondF (by kernel_rfl) ?_
     refine oSkip ?_
     refine oSeq ?_
     refine oRegion rfl ?_
     refine oOp (.ptr 1 1) (by kernel_rfl) (by kernel_rfl) (PureV.does (k_fieldAddr 1 0 (by kernel_rfl) Try.underlying37 rfl ty3 (by kernel_rfl))) ?_
     refine oOp (.d (.int .i64 b1)) (by kernel_rfl) (by kernel_rfl) (Quiet.does (k_load 1 1 (by kernel_rfl) Try.underlying3 (by kernel_rfl) (by kernel_rfl))) ?_
     refine oOp (.ptr 1 0) (by kernel_rfl) (by kernel_rfl) (PureV.does (k_fieldAddr 1 0 (by kernel_rfl) Try.underlying37 rfl ty3 (by kernel_rfl))) ?_
     refine oOp (.d (.int .i64 b0)) (by kernel_rfl) (by kernel_rfl) (Quiet.does (k_load 1 0 (by kernel_rfl) Try.underlying3 (by kernel_rfl) (by kernel_rfl))) ?_
     refine oOp (.agg [.d (.int .i64 b1), .d (.int .i64 b0)]) (by kernel_rfl) (by kernel_rfl) (PureV.does (p_build bld37 (by kernel_rfl))) ?_
     refine oOp (.ptr 3 0) (by kernel_rfl) (by kernel_rfl) (k_alloc (H' := [.box [.d (.int .i64 a0), .d (.int .i64 a1)], .box [.d (.int .i64 b0), .d (.int .i64 b1)], .box [.d (.int .i64 0), .d (.int .i64 0)], .box [.d (.int .i64 0), .d (.int .i64 0)]]) ty37 (by kernel_rfl) (by kernel_rfl)) ?_
     refine oOp (.undef) (by kernel_rfl) (by kernel_rfl) (k_store (vs := [.d (.int .i64 b1), .d (.int .i64 b0)]) (H' := [.box [.d (.int .i64 a0), .d (.int .i64 a1)], .box [.d (.int .i64 b0), .d (.int .i64 b1)], .box [.d (.int .i64 0), .d (.int .i64 0)], .box [.d (.int .i64 b1), .d (.int .i64 b0)]]) 3 0 (by kernel_rfl) ty37 (by kernel_rfl) (by kernel_rfl) (by kernel_rfl)) ?_
     refine oEnd ?_
     refine oSeq ?_
     refine oSeq ?_
     refine oRegion rfl ?_
     refine oOp (.ptr 1 0) (by kernel_rfl) (by kernel_rfl) (PureV.does (k_fieldAddr 1 0 (by kernel_rfl) Try.underlying37 rfl ty3 (by kernel_rfl))) ?_
     refine oOp (.d (.int .i64 b0)) (by kernel_rfl) (by kernel_rfl) (Quiet.does (k_load 1 0 (by kernel_rfl) Try.underlying3 (by kernel_rfl) (by kernel_rfl))) ?_
     refine oOp (.d (.bool (decide (b0 < 0)))) (by kernel_rfl) (by kernel_rfl) (PureV.does (p_int (k := .i64) (p := b0) (q := 0) (by kernel_rfl) (by kernel_rfl) (by kernel_rfl))) ?_
     refine oEnd ?_
     refine bJoin ((uc fun (x4 : Int) => (fun (x5 : Int) => [(2, .ptr 0 0), (4, .ptr 1 0), (6, .ptr 2 0)]))) ((uc fun (x4 : Int) => (fun (x5 : Int) => [.box [.d (.int .i64 a0), .d (.int .i64 a1)], .box [.d (.int .i64 0), .d (.int .i64 0)], .box [.d (.int .i64 x4), .d (.int .i64 x5)]]))) (fun s => s) (fun s => ?_) (fun hj2 => ?_)
     ·obtain ⟨x4, x5⟩ := s
      refine bUc ?_
      refine oView (T' := [(2, .ptr 0 0), (4, .ptr 1 0), (6, .ptr 2 0)]) (H' := [.box [.d (.int .i64 a0), .d (.int .i64 a1)], .box [.d (.int .i64 0), .d (.int .i64 0)], .box [.d (.int .i64 x4), .d (.int .i64 x5)]]) (by kernel_rfl) (by kernel_rfl) ?_
      refine oSeq ?_
      refine oRegion rfl ?_
      refine oOp (.agg [.d (.int .i64 a0), .d (.int .i64 a1)]) (by kernel_rfl) (by kernel_rfl) (Quiet.does (k_loadAgg 0 0 (by kernel_rfl) Try.underlying37 (by kernel_rfl) ty37 (by kernel_rfl))) ?_
      refine oOp (.agg [.d (.int .i64 x4), .d (.int .i64 x5)]) (by kernel_rfl) (by kernel_rfl) (Quiet.does (k_loadAgg 2 0 (by kernel_rfl) Try.underlying37 (by kernel_rfl) ty37 (by kernel_rfl))) ?_
      refine bCall (caps := []) (v := (uc fun (r171 : Int) => (uc fun (r181 : Int) => (fun (r191 : Int) => (.tuple [.agg [.d (.int .i64 r171), .d (.int .i64 r181)], .d (.int .i64 r191)] : V))))) (H' := (uc fun (r171 : Int) => (uc fun (r181 : Int) => (fun (r191 : Int) => ([.box [.d (.int .i64 a0), .d (.int .i64 a1)], .box [.d (.int .i64 0), .d (.int .i64 0)], .box [.d (.int .i64 x4), .d (.int .i64 x5)]] : List Blk))))) [] _ (ratio_Mul_goes k a0 a1 x4 x5) (by kernel_rfl) (by kernel_rfl) rfl (by kernel_rfl) Try.func53 rfl (by kernel_rfl) (ConvRs.refl _ _) (by kernel_rfl) (by kernel_rfl) (by kernel_rfl) (by decide) (by kernel_rfl) (by kernel_rfl) (fun _ => (by kernel_rfl)) (fun _ => (by kernel_rfl)) (fun _ => (by kernel_rfl)) (fun r => ?_)
      obtain ⟨r171, r181, r191⟩ := r
      refine bUc ?_
      refine bUc ?_
      refine oOp (.agg [.d (.int .i64 r171), .d (.int .i64 r181)]) (by kernel_rfl) (by kernel_rfl) (PureV.does (k_extract (by kernel_rfl))) ?_
      refine oOp (.d (.int .i64 r191)) (by kernel_rfl) (by kernel_rfl) (PureV.does (k_extract (by kernel_rfl))) ?_
      refine oOp (.undef) (by kernel_rfl) (by kernel_rfl) (k_store (vs := [.d (.int .i64 r171), .d (.int .i64 r181)]) (H' := [.box [.d (.int .i64 a0), .d (.int .i64 a1)], .box [.d (.int .i64 r171), .d (.int .i64 r181)], .box [.d (.int .i64 x4), .d (.int .i64 x5)]]) 1 0 (by kernel_rfl) ty37 (by kernel_rfl) (by kernel_rfl) (by kernel_rfl)) ?_
      refine oOp (.d (.int .i64 r191)) (by kernel_rfl) (by kernel_rfl) (PureV.does (p_assign (by kernel_rfl))) ?_
      refine oEnd ?_
      exact oRet (r0 := (r171, r181, r191)) (rv := .tuple [.agg [.d (.int .i64 r171), .d (.int .i64 r181)], .d (.int .i64 r191)]) (B := []) (vs := [.agg [.d (.int .i64 r171), .d (.int .i64 r181)], .d (.int .i64 r191)]) (σ := []) (by kernel_rfl) Try.func74 rfl (.cons _ _ _ _ (.agg 4 37 1 0 [.d (.int .i64 r171), .d (.int .i64 r181)] [.d (.int .i64 r171), .d (.int .i64 r181)] _ _ _ _ (by kernel_rfl) (by kernel_rfl) Try.underlying37 (by kernel_rfl) ty37 (by kernel_rfl) (by kernel_rfl)) (.cons _ _ _ _ (.tmp 5 _ (by kernel_rfl)) .nil)) (by kernel_rfl) (by kernel_rfl) (by kernel_rfl) (by kernel_rfl) (by decide) (by kernel_rfl) (by kernel_rfl)
     ·refine bSplit 27 (by kernel_rfl) (fun hc => ?_) (fun hc => ?_)
      ·refine oCondT (by kernel_rfl) ?_
       refine oRegion rfl ?_
       refine oOp (.ptr 1 1) (by kernel_rfl) (by kernel_rfl) (PureV.does (k_fieldAddr 1 0 (by kernel_rfl) Try.underlying37 rfl ty3 (by kernel_rfl))) ?_
       refine oOp (.d (.int .i64 b1)) (by kernel_rfl) (by kernel_rfl) (Quiet.does (k_load 1 1 (by kernel_rfl) Try.underlying3 (by kernel_rfl) (by kernel_rfl))) ?_
       refine oOp (.d (.int .i64 (IntKind.wrap .i64 (0 - b1)))) (by kernel_rfl) (by kernel_rfl) (PureV.does (p_neg (k := .i64) (p := b1) (by kernel_rfl) (by kernel_rfl))) ?_
       refine oOp (.ptr 1 0) (by kernel_rfl) (by kernel_rfl) (PureV.does (k_fieldAddr 1 0 (by kernel_rfl) Try.underlying37 rfl ty3 (by kernel_rfl))) ?_
       refine oOp (.d (.int .i64 b0)) (by kernel_rfl) (by kernel_rfl) (Quiet.does (k_load 1 0 (by kernel_rfl) Try.underlying3 (by kernel_rfl) (by kernel_rfl))) ?_
       refine oOp (.d (.int .i64 (IntKind.wrap .i64 (0 - b0)))) (by kernel_rfl) (by kernel_rfl) (PureV.does (p_neg (k := .i64) (p := b0) (by kernel_rfl) (by kernel_rfl))) ?_
       refine oOp (.agg [.d (.int .i64 (IntKind.wrap .i64 (0 - b1))), .d (.int .i64 (IntKind.wrap .i64 (0 - b0)))]) (by kernel_rfl) (by kernel_rfl) (PureV.does (p_build bld37 (by kernel_rfl))) ?_
       refine oOp (.undef) (by kernel_rfl) (by kernel_rfl) (k_store (vs := [.d (.int .i64 (IntKind.wrap .i64 (0 - b1))), .d (.int .i64 (IntKind.wrap .i64 (0 - b0)))]) (H' := [.box [.d (.int .i64 a0), .d (.int .i64 a1)], .box [.d (.int .i64 b0), .d (.int .i64 b1)], .box [.d (.int .i64 0), .d (.int .i64 0)], .box [.d (.int .i64 (IntKind.wrap .i64 (0 - b1))), .d (.int .i64 (IntKind.wrap .i64 (0 - b0)))]]) 3 0 (by kernel_rfl) ty37 (by kernel_rfl) (by kernel_rfl) (by kernel_rfl)) ?_
       refine oEnd ?_
       refine oHead [2, 4, 6] [0, 2, 3] (T' := [(2, .ptr 0 0), (4, .ptr 1 0), (6, .ptr 2 0)]) (H' := [.box [.d (.int .i64 a0), .d (.int .i64 a1)], .box [.d (.int .i64 0), .d (.int .i64 0)], .box [.d (.int .i64 (IntKind.wrap .i64 (0 - b1))), .d (.int .i64 (IntKind.wrap .i64 (0 - b0)))]]) (by kernel_rfl) (by kernel_rfl) (by kernel_rfl) (by kernel_rfl) (by decide) (by kernel_rfl) (by kernel_rfl) ?_
       exact hj2 ((IntKind.wrap .i64 (0 - b1)), (IntKind.wrap .i64 (0 - b0)))
      ·refine oCondF (by kernel_rfl) ?_
       refine oSkip ?_
       refine oHead [2, 4, 6] [0, 2, 3] (T' := [(2, .ptr 0 0), (4, .ptr 1 0), (6, .ptr 2 0)]) (H' := [.box [.d (.int .i64 a0), .d (.int .i64 a1)], .box [.d (.int .i64 0), .d (.int .i64 0)], .box [.d (.int .i64 b1), .d (.int .i64 b0)]]) (by kernel_rfl) (by kernel_rfl) (by kernel_rfl) (by kernel_rfl) (by decide) (by kernel_rfl) (by kernel_rfl) ?_
       exact hj2 (b1, b0)
  ·refine bSplit 10 (by kernel_rfl) (fun hc => ?_) (fun hc => ?_)
   ·refine oNot (by kernel_rfl) (by kernel_rfl) ?_
    refine oNot (by kernel_rfl) (by kernel_rfl) ?_
    refine oNot (by kernel_rfl) (by kernel_rfl) ?_
    refine oOp (.d (.bool true)) (by kernel_rfl) (by kernel_rfl) (PureV.does (p_pick (b := true) (by kernel_rfl) (by kernel_rfl))) ?_
    refine oHead [2, 3, 4, 14] [0, 1, 2] (T' := [(2, .ptr 0 0), (3, .ptr 1 0), (4, .ptr 2 0), (14, .d (.bool true))]) (H' := [.box [.d (.int .i64 a0), .d (.int .i64 a1)], .box [.d (.int .i64 b0), .d (.int .i64 b1)], .box [.d (.int .i64 0), .d (.int .i64 0)]]) (by kernel_rfl) (by kernel_rfl) (by kernel_rfl) (by kernel_rfl) (by decide) (by kernel_rfl) (by kernel_rfl) ?_
    exact hj3 true
   ·refine oOp (.agg [.d (.int .i64 b0), .d (.int .i64 b1)]) (by kernel_rfl) (by kernel_rfl) (Quiet.does (k_loadAgg 1 0 (by kernel_rfl) Try.underlying37 (by kernel_rfl) ty37 (by kernel_rfl))) ?_
    refine bCall (caps := []) (v := (fun (r124 : Bool) => (.d (.bool r124) : V))) (H' := (fun (r124 : Bool) => ([.box [.d (.int .i64 a0), .d (.int .i64 a1)], .box [.d (.int .i64 b0), .d (.int .i64 b1)], .box [.d (.int .i64 0), .d (.int .i64 0)]] : List Blk))) [] _ (ratio_Valid_goes k b0 b1) (by kernel_rfl) (by kernel_rfl) rfl (by kernel_rfl) Try.func24 rfl (by kernel_rfl) (ConvRs.refl _ _) (by kernel_rfl) (by kernel_rfl) (by kernel_rfl) (by decide) (by kernel_rfl) (by kernel_rfl) (fun _ => (by kernel_rfl)) (fun _ => (by kernel_rfl)) (fun _ => (by kernel_rfl)) (fun r124 => ?_)
    refine oOp (.d (.bool (!r124))) (by kernel_rfl) (by kernel_rfl) (PureV.does (p_not (p := r124) (by kernel_rfl) (by kernel_rfl))) ?_
    refine oOp (.d (.bool (!r124))) (by kernel_rfl) (by kernel_rfl) (PureV.does (p_pick (b := false) (by kernel_rfl) (by kernel_rfl))) ?_
    refine oHead [2, 3, 4, 14] [0, 1, 2] (T' := [(2, .ptr 0 0), (3, .ptr 1 0), (4, .ptr 2 0), (14, .d (.bool (!r124)))]) (H' := [.box [.d (.int .i64 a0), .d (.int .i64 a1)], .box [.d (.int .i64 b0), .d (.int .i64 b1)], .box [.d (.int .i64 0), .d (.int .i64 0)]]) (by kernel_rfl) (by kernel_rfl) (by kernel_rfl) (by kernel_rfl) (by decide) (by kernel_rfl) (by kernel_rfl) ?_
    exact hj3 (!r124)

/-- (*awardingbody/conversion.calc).div -/
def conversion_calc_div (k : Nat) (a0 : Int) (a1 : Int) (b0 : Int) (b1 : Int) (x : Int) : Option (Int × Int × Int) := Option.bind (ratio_Div k a0 a1 b0 b1) (uc fun r15 => uc fun r111 => fun r131 => Option.bind (conversion_calc_do k r15 r111 r131 x) (fun x31 => some (r15, r111, x31)))
def conversion_calc_div_E (a0 : Int) (a1 : Int) (b0 : Int) (b1 : Int) (x : Int) : Int × Int × Int → V × List Blk := uc fun r12 => uc fun r14 => fun x1 => (.agg [.d (.int .i64 r12), .d (.int .i64 r14)], [.box [.d (.int .i64 x1)]])
theorem conversion_calc_div_goes (k : Nat) (a0 : Int) (a1 : Int) (b0 : Int) (b1 : Int) (x : Int) : RunsO Try.prog 54 [.ptr 0 0, .agg [.d (.int .i64 a0), .d (.int .i64 a1)], .agg [.d (.int .i64 b0), .d (.int .i64 b1)]] [.box [.d (.int .i64 x)]] (conversion_calc_div_E a0 a1 b0 b1 x) (conversion_calc_div k a0 a1 b0 b1 x) := by
  refine RunsO.of_goes (N := 14) (m := 1) (T := [(0, .ptr 0 0), (1, .agg [.d (.int .i64 a0), .d (.int .i64 a1)]), (2, .agg [.d (.int .i64 b0), .d (.int .i64 b1)])]) Try.func54 rfl rfl (by kernel_rfl) (by kernel_rfl) (by kernel_rfl) ?_
  unfold conversion_calc_div
  refine bStart ?_
  refine oSeq ?_
  refine oRegion rfl ?_
  refine oOp (.ptr 1 0) (by kernel_rfl) (by kernel_rfl) (k_box (H' := [.box [.d (.int .i64 x)], .box [.d (.int .i64 a0), .d (.int .i64 a1)]]) (cells := [.d (.int .i64 a0), .d (.int .i64 a1)]) (by kernel_rfl) (by kernel_rfl) (by kernel_rfl)) ?_
  refine oOp (.ptr 2 0) (by kernel_rfl) (by kernel_rfl) (k_box (H' := [.box [.d (.int .i64 x)], .box [.d (.int .i64 a0), .d (.int .i64 a1)], .box [.d (.int .i64 b0), .d (.int .i64 b1)]]) (cells := [.d (.int .i64 b0), .d (.int .i64 b1)]) (by kernel_rfl) (by kernel_rfl) (by kernel_rfl)) ?_
  refine oOp (.ptr 3 0) (by kernel_rfl) (by kernel_rfl) (k_alloc (H' := [.box [.d (.int .i64 x)], .box [.d (.int .i64 a0), .d (.int .i64 a1)], .box [.d (.int .i64 b0), .d (.int .i64 b1)], .box [.d (.int .i64 0), .d (.int .i64 0)]]) ty37 (by kernel_rfl) (by kernel_rfl)) ?_
  refine oEnd ?_
  refine oSeq ?_
  refine oRegion rfl ?_
  refine oOp (.ptr 0 0) (by kernel_rfl) (by kernel_rfl) (PureV.does (p_move (by kernel_rfl))) ?_
  refine oOp (.agg [.d (.int .i64 a0), .d (.int .i64 a1)]) (by kernel_rfl) (by kernel_rfl) (Quiet.does (k_loadAgg 1 0 (by kernel_rfl) Try.underlying37 (by kernel_rfl) ty37 (by kernel_rfl))) ?_
  refine oOp (.agg [.d (.int .i64 b0), .d (.int .i64 b1)]) (by kernel_rfl) (by kernel_rfl) (Quiet.does (k_loadAgg 2 0 (by kernel_rfl) Try.underlying37 (by kernel_rfl) ty37 (by kernel_rfl))) ?_
  refine bCall (caps := []) (v := (uc fun (r15 : Int) => (uc fun (r111 : Int) => (fun (r131 : Int) => (.tuple [.agg [.d (.int .i64 r15), .d (.int .i64 r111)], .d (.int .i64 r131)] : V))))) (H' := (uc fun (r15 : Int) => (uc fun (r111 : Int) => (fun (r131 : Int) => ([.box [.d (.int .i64 x)], .box [.d (.int .i64 a0), .d (.int .i64 a1)], .box [.d (.int .i64 b0), .d (.int .i64 b1)], .box [.d (.int .i64 0), .d (.int .i64 0)]] : List Blk))))) [] _ (ratio_Div_goes k a0 a1 b0 b1) (by kernel_rfl) (by kernel_rfl) rfl (by kernel_rfl) Try.func74 rfl (by kernel_rfl) (ConvRs.refl _ _) (by kernel_rfl) (by kernel_rfl) (by kernel_rfl) (by decide) (by kernel_rfl) (by kernel_rfl) (fun _ => (by kernel_rfl)) (fun _ => (by kernel_rfl)) (fun _ => (by kernel_rfl)) (fun r => ?_)
  obtain ⟨r15, r111, r131⟩ := r
  refine bUc ?_
  refine bUc ?_
  refine oOp (.agg [.d (.int .i64 r15), .d (.int .i64 r111)]) (by kernel_rfl) (by kernel_rfl) (PureV.does (k_extract (by kernel_rfl))) ?_
  refine oOp (.d (.int .i64 r131)) (by kernel_rfl) (by kernel_rfl) (PureV.does (k_extract (by kernel_rfl))) ?_
  refine bCall (caps := []) (v := (fun (x31 : Int) => (.agg [.d (.int .i64 r15), .d (.int .i64 r111)] : V))) (H' := (fun (x31 : Int) => ([.box [.d (.int .i64 x31)], .box [.d (.int .i64 a0), .d (.int .i64 a1)], .box [.d (.int .i64 b0), .d (.int .i64 b1)], .box [.d (.int .i64 0), .d (.int .i64 0)]] : List Blk))) [0] _ (conversion_calc_do_goes k r15 r111 r131 x) (by kernel_rfl) (by kernel_rfl) rfl (by kernel_rfl) Try.func50 rfl (by kernel_rfl) (ConvRs.refl _ _) (by kernel_rfl) (by kernel_rfl) (by kernel_rfl) (by decide) (by kernel_rfl) (by kernel_rfl) (fun _ => (by kernel_rfl)) (fun _ => (by kernel_rfl)) (fun _ => (by kernel_rfl)) (fun x31 => ?_)
  refine oOp (.undef) (by kernel_rfl) (by kernel_rfl) (k_store (vs := [.d (.int .i64 r15), .d (.int .i64 r111)]) (H' := [.box [.d (.int .i64 x31)], .box [.d (.int .i64 a0), .d (.int .i64 a1)], .box [.d (.int .i64 b0), .d (.int .i64 b1)], .box [.d (.int .i64 r15), .d (.int .i64 r111)]]) 3 0 (by kernel_rfl) ty37 (by kernel_rfl) (by kernel_rfl) (by kernel_rfl)) ?_
  refine oEnd ?_
  exact oRet (r0 := (r15, r111, x31)) (rv := .agg [.d (.int .i64 r15), .d (.int .i64 r111)]) (B := [.box [.d (.int .i64 x31)]]) (vs := [.agg [.d (.int .i64 r15), .d (.int .i64 r111)]]) (σ := [0]) (by kernel_rfl) Try.func54 rfl (.cons _ _ _ _ (.agg 6 37 3 0 [.d (.int .i64 r15), .d (.int .i64 r111)] [.d (.int .i64 r15), .d (.int .i64 r111)] _ _ _ _ (by kernel_rfl) (by kernel_rfl) Try.underlying37 (by kernel_rfl) ty37 (by kernel_rfl) (by kernel_rfl)) .nil) (by kernel_rfl) (by kernel_rfl) (by kernel_rfl) (by kernel_rfl) (by decide) (by kernel_rfl) (by kernel_rfl)

/-- (*awardingbody/conversion.calc).slope -/
def conversion_calc_slope (k : Nat) (l : (List SPoint)) (i : Int) (x : Int) : Option (Int × Int × Int) := gidx l i fun e1 => gidx l (IntKind.wrap .i64 (i - 1)) fun e11 => Option.bind (conversion_calc_sub k e1.Y_Num e1.Y_Den e11.Y_Num e11.Y_Den x) (uc fun r12 => uc fun r14 => fun x1 => Option.bind (conversion_calc_sub k e1.X_Num e1.X_Den e11.X_Num e11.X_Den x1) (uc fun r121 => uc fun r141 => fun x11 => Option.bind (conversion_calc_div k r12 r14 r121 r141 x11) (uc fun r122 => uc fun r142 => fun x12 => some (r122, r142, x12))))
def conversion_calc_slope_E (l : (List SPoint)) (i : Int) (x : Int) : Int × Int × Int → V × List Blk := uc fun r1 => uc fun r11 => fun x2 => (.agg [.d (.int .i64 r1), .d (.int .i64 r11)], [.box [.d (.int .i64 x2)]])
theorem conversion_calc_slope_goes (k : Nat) (l : (List SPoint)) (i : Int) (x : Int) : RunsO Try.prog 41 [.ptr 0 0, .d (.lit (List.map e_SPoint l)), .d (.int .i64 i)] [.box [.d (.int .i64 x)]] (conversion_calc_slope_E l i x) (conversion_calc_slope k l i x) := by
  refine RunsO.of_goes (N := 35) (m := 1) (T := [(0, .ptr 0 0), (1, .d (.lit (List.map e_SPoint l))), (2, .d (.int .i64 i))]) Try.func41 rfl rfl (by kernel_rfl) (by kernel_rfl) (by kernel_rfl) ?_
  unfold conversion_calc_slope
  refine bStart ?_
  refine oSeq ?_
  refine oRegion rfl ?_
  refine oOp (.ptr 1 0) (by kernel_rfl) (by kernel_rfl) (k_alloc (H' := [.box [.d (.int .i64 x)], .box [.d (.int .i64 0), .d (.int .i64 0)]]) ty37 (by kernel_rfl) (by kernel_rfl)) ?_
  refine oEnd ?_
  refine oSeq ?_
  refine oDraw [(0, 13), (1, 28)] rfl ?_
  refine aTakeL (i := 0) (st' := []) (.ptr 0 0) rfl (by kernel_rfl) (by kernel_rfl) (by kernel_rfl) (by kernel_rfl) (by kernel_rfl) (by kernel_rfl) (by kernel_rfl) (PureV.quiet (p_move (by kernel_rfl)) []) ?_
  refine aTakeL (i := 1) (st' := []) (.ptr 0 0) rfl (by kernel_rfl) (by kernel_rfl) (by kernel_rfl) (by kernel_rfl) (by kernel_rfl) (by kernel_rfl) (by kernel_rfl) (PureV.quiet (p_move (by kernel_rfl)) []) ?_
  refine aTakeL (i := 2) (st' := []) (.d (.lit (List.map e_SPoint l))) rfl (by kernel_rfl) (by kernel_rfl) (by kernel_rfl) (by kernel_rfl) (by kernel_rfl) (by kernel_rfl) (by kernel_rfl) (PureV.quiet (p_move (by kernel_rfl)) []) ?_
  refine aTakeL (i := 3) (st' := []) (.d (.int .i64 i)) rfl (by kernel_rfl) (by kernel_rfl) (by kernel_rfl) (by kernel_rfl) (by kernel_rfl) (by kernel_rfl) (by kernel_rfl) (PureV.quiet (p_move (by kernel_rfl)) []) ?_
  refine dIdx (fun e1 h1 h11 => ?_)
  refine aTakeL (i := 4) (st' := []) (.lptr (e_SPoint e1) 0) rfl (by kernel_rfl) (by kernel_rfl) (by kernel_rfl) (by kernel_rfl) (by kernel_rfl) (by kernel_rfl) (by kernel_rfl) (PureV.quiet (k_idxLit e_SPoint_len l (a := e1) (by kernel_rfl) (k := .i64) (i := i) (by kernel_rfl) Try.underlying27 ty39 h1 h11) []) ?_
  refine aTakeL (i := 5) (st' := []) (.lptr (e_SPoint e1) 2) rfl (by kernel_rfl) (by kernel_rfl) (by kernel_rfl) (by kernel_rfl) (by kernel_rfl) (by kernel_rfl) (by kernel_rfl) (PureV.quiet (k_fieldAddrL (cells := e_SPoint e1) 0 (by kernel_rfl) Try.underlying39 rfl ty37 (by kernel_rfl)) []) ?_
  refine aTakeL (i := 6) (st' := []) (.agg [.d (.int .i64 e1.Y_Num), .d (.int .i64 e1.Y_Den)]) rfl (by kernel_rfl) (by kernel_rfl) (by kernel_rfl) (by kernel_rfl) (by kernel_rfl) (by kernel_rfl) (by kernel_rfl) (k_loadLAgg (cells := e_SPoint e1) 2 [(.int .i64 e1.Y_Num), (.int .i64 e1.Y_Den)] (by kernel_rfl) Try.underlying37 (by kernel_rfl) ty37 (by kernel_rfl) (by kernel_rfl) (by kernel_rfl)) ?_
  refine aTakeL (i := 7) (st' := []) (.d (.lit (List.map e_SPoint l))) rfl (by kernel_rfl) (by kernel_rfl) (by kernel_rfl) (by kernel_rfl) (by kernel_rfl) (by kernel_rfl) (by kernel_rfl) (PureV.quiet (p_move (by kernel_rfl)) []) ?_
  refine aTakeL (i := 8) (st' := []) (.d (.int .i64 i)) rfl (by kernel_rfl) (by kernel_rfl) (by kernel_rfl) (by kernel_rfl) (by kernel_rfl) (by kernel_rfl) (by kernel_rfl) (PureV.quiet (p_move (by kernel_rfl)) []) ?_
  refine aTakeL (i := 9) (st' := []) (.d (.int .i64 (IntKind.wrap .i64 (i - 1)))) rfl (by kernel_rfl) (by kernel_rfl) (by kernel_rfl) (by kernel_rfl) (by kernel_rfl) (by kernel_rfl) (by kernel_rfl) (PureV.quiet (p_int (k := .i64) (p := i) (q := 1) (by kernel_rfl) (by kernel_rfl) (by kernel_rfl)) []) ?_
  refine dIdx (fun e11 h12 h13 => ?_)
  refine aTakeL (i := 10) (st' := []) (.lptr (e_SPoint e11) 0) rfl (by kernel_rfl) (by kernel_rfl) (by kernel_rfl) (by kernel_rfl) (by kernel_rfl) (by kernel_rfl) (by kernel_rfl) (PureV.quiet (k_idxLit e_SPoint_len l (a := e11) (by kernel_rfl) (k := .i64) (i := (IntKind.wrap .i64 (i - 1))) (by kernel_rfl) Try.underlying27 ty39 h12 h13) []) ?_
  refine aTakeL (i := 11) (st' := []) (.lptr (e_SPoint e11) 2) rfl (by kernel_rfl) (by kernel_rfl) (by kernel_rfl) (by kernel_rfl) (by kernel_rfl) (by kernel_rfl) (by kernel_rfl) (PureV.quiet (k_fieldAddrL (cells := e_SPoint e11) 0 (by kernel_rfl) Try.underlying39 rfl ty37 (by kernel_rfl)) []) ?_
  refine aTakeL (i := 12) (st' := []) (.agg [.d (.int .i64 e11.Y_Num), .d (.int .i64 e11.Y_Den)]) rfl (by kernel_rfl) (by kernel_rfl) (by kernel_rfl) (by kernel_rfl) (by kernel_rfl) (by kernel_rfl) (by kernel_rfl) (k_loadLAgg (cells := e_SPoint e11) 2 [(.int .i64 e11.Y_Num), (.int .i64 e11.Y_Den)] (by kernel_rfl) Try.underlying37 (by kernel_rfl) ty37 (by kernel_rfl) (by kernel_rfl) (by kernel_rfl)) ?_
  refine aTakeL (i := 14) (st' := []) (.ptr 0 0) rfl (by kernel_rfl) (by kernel_rfl) (by kernel_rfl) (by kernel_rfl) (by kernel_rfl) (by kernel_rfl) (by kernel_rfl) (PureV.quiet (p_move (by kernel_rfl)) []) ?_
  refine aTakeL (i := 15) (st' := []) (.d (.lit (List.map e_SPoint l))) rfl (by kernel_rfl) (by kernel_rfl) (by kernel_rfl) (by kernel_rfl) (by kernel_rfl) (by kernel_rfl) (by kernel_rfl) (PureV.quiet (p_move (by kernel_rfl)) []) ?_
  refine aTakeL (i := 16) (st' := []) (.d (.int .i64 i)) rfl (by kernel_rfl) (by kernel_rfl) (by kernel_rfl) (by kernel_rfl) (by kernel_rfl) (by kernel_rfl) (by kernel_rfl) (PureV.quiet (p_move (by kernel_rfl)) []) ?_
  refine aTakeL (i := 17) (st' := []) (.lptr (e_SPoint e1) 0) rfl (by kernel_rfl) (by kernel_rfl) (by kernel_rfl) (by kernel_rfl) (by kernel_rfl) (by kernel_rfl) (by kernel_rfl) (PureV.quiet (k_idxLit e_SPoint_len l (a := e1) (by kernel_rfl) (k := .i64) (i := i) (by kernel_rfl) Try.underlying27 ty39 h1 h11) []) ?_
  refine aTakeL (i := 18) (st' := []) (.lptr (e_SPoint e1) 0) rfl (by kernel_rfl) (by kernel_rfl) (by kernel_rfl) (by kernel_rfl) (by kernel_rfl) (by kernel_rfl) (by kernel_rfl) (PureV.quiet (k_fieldAddrL (cells := e_SPoint e1) 0 (by kernel_rfl) Try.underlying39 rfl ty37 (by kernel_rfl)) []) ?_
  refine aTakeL (i := 19) (st' := []) (.agg [.d (.int .i64 e1.X_Num), .d (.int .i64 e1.X_Den)]) rfl (by kernel_rfl) (by kernel_rfl) (by kernel_rfl) (by kernel_rfl) (by kernel_rfl) (by kernel_rfl) (by kernel_rfl) (k_loadLAgg (cells := e_SPoint e1) 0 [(.int .i64 e1.X_Num), (.int .i64 e1.X_Den)] (by kernel_rfl) Try.underlying37 (by kernel_rfl) ty37 (by kernel_rfl) (by kernel_rfl) (by kernel_rfl)) ?_
  refine aTakeL (i := 20) (st' := []) (.d (.lit (List.map e_SPoint l))) rfl (by kernel_rfl) (by kernel_rfl) (by kernel_rfl) (by kernel_rfl) (by kernel_rfl) (by kernel_rfl) (by kernel_rfl) (PureV.quiet (p_move (by kernel_rfl)) []) ?_
  refine aTakeL (i := 21) (st' := []) (.d (.int .i64 i)) rfl (by kernel_rfl) (by kernel_rfl) (by kernel_rfl) (by kernel_rfl) (by kernel_rfl) (by kernel_rfl) (by kernel_rfl) (PureV.quiet (p_move (by kernel_rfl)) []) ?_
  refine aTakeL (i := 22) (st' := []) (.d (.int .i64 (IntKind.wrap .i64 (i - 1)))) rfl (by kernel_rfl) (by kernel_rfl) (by kernel_rfl) (by kernel_rfl) (by kernel_rfl) (by kernel_rfl) (by kernel_rfl) (PureV.quiet (p_int (k := .i64) (p := i) (q := 1) (by kernel_rfl) (by kernel_rfl) (by kernel_rfl)) []) ?_
  refine aTakeL (i := 23) (st' := []) (.lptr (e_SPoint e11) 0) rfl (by kernel_rfl) (by kernel_rfl) (by kernel_rfl) (by kernel_rfl) (by kernel_rfl) (by kernel_rfl) (by kernel_rfl) (PureV.quiet (k_idxLit e_SPoint_len l (a := e11) (by kernel_rfl) (k := .i64) (i := (IntKind.wrap .i64 (i - 1))) (by kernel_rfl) Try.underlying27 ty39 h12 h13) []) ?_
  refine aTakeL (i := 24) (st' := []) (.lptr (e_SPoint e11) 0) rfl (by kernel_rfl) (by kernel_rfl) (by kernel_rfl) (by kernel_rfl) (by kernel_rfl) (by kernel_rfl) (by kernel_rfl) (PureV.quiet (k_fieldAddrL (cells := e_SPoint e11) 0 (by kernel_rfl) Try.underlying39 rfl ty37 (by kernel_rfl)) []) ?_
  refine aTakeL (i := 25) (st' := []) (.agg [.d (.int .i64 e11.X_Num), .d (.int .i64 e11.X_Den)]) rfl (by kernel_rfl) (by kernel_rfl) (by kernel_rfl) (by kernel_rfl) (by kernel_rfl) (by kernel_rfl) (by kernel_rfl) (k_loadLAgg (cells := e_SPoint e11) 0 [(.int .i64 e11.X_Num), (.int .i64 e11.X_Den)] (by kernel_rfl) Try.underlying37 (by kernel_rfl) ty37 (by kernel_rfl) (by kernel_rfl) (by kernel_rfl)) ?_
  refine dCall (i := 13) (caps := []) (v := (uc fun (r12 : Int) => (uc fun (r14 : Int) => (fun (x1 : Int) => (.agg [.d (.int .i64 r12), .d (.int .i64 r14)] : V))))) (H' := (uc fun (r12 : Int) => (uc fun (r14 : Int) => (fun (x1 : Int) => ([.box [.d (.int .i64 x1)], .box [.d (.int .i64 0), .d (.int .i64 0)]] : List Blk))))) [0] _ (conversion_calc_sub_goes k e1.Y_Num e1.Y_Den e11.Y_Num e11.Y_Den x) rfl (by kernel_rfl) (by kernel_rfl) (by kernel_rfl) (by kernel_rfl) (by kernel_rfl) (by kernel_rfl) (by kernel_rfl) (by kernel_rfl) rfl (by kernel_rfl) Try.func39 rfl (by kernel_rfl) (ConvRs.refl _ _) (by kernel_rfl) (by kernel_rfl) (by kernel_rfl) (by decide) (by kernel_rfl) (by kernel_rfl) (fun _ => (by kernel_rfl)) (fun _ => (by kernel_rfl)) (fun _ => (by kernel_rfl)) (fun r => ?_)
  obtain ⟨r12, r14, x1⟩ := r
  refine dUc ?_
  refine dUc ?_
  refine dCall (i := 26) (caps := []) (v := (uc fun (r121 : Int) => (uc fun (r141 : Int) => (fun (x11 : Int) => (.agg [.d (.int .i64 r121), .d (.int .i64 r141)] : V))))) (H' := (uc fun (r121 : Int) => (uc fun (r141 : Int) => (fun (x11 : Int) => ([.box [.d (.int .i64 x11)], .box [.d (.int .i64 0), .d (.int .i64 0)]] : List Blk))))) [0] _ (conversion_calc_sub_goes k e1.X_Num e1.X_Den e11.X_Num e11.X_Den x1) rfl (by kernel_rfl) (by kernel_rfl) (by kernel_rfl) (by kernel_rfl) (by kernel_rfl) (by kernel_rfl) (by kernel_rfl) (by kernel_rfl) rfl (by kernel_rfl) Try.func39 rfl (by kernel_rfl) (ConvRs.refl _ _) (by kernel_rfl) (by kernel_rfl) (by kernel_rfl) (by decide) (by kernel_rfl) (by kernel_rfl) (fun _ => (by kernel_rfl)) (fun _ => (by kernel_rfl)) (fun _ => (by kernel_rfl)) (fun r => ?_)
  obtain ⟨r121, r141, x11⟩ := r
  refine dUc ?_
  refine dUc ?_
  refine dCall (i := 27) (caps := []) (v := (uc fun (r122 : Int) => (uc fun (r142 : Int) => (fun (x12 : Int) => (.agg [.d (.int .i64 r122), .d (.int .i64 r142)] : V))))) (H' := (uc fun (r122 : Int) => (uc fun (r142 : Int) => (fun (x12 : Int) => ([.box [.d (.int .i64 x12)], .box [.d (.int .i64 0), .d (.int .i64 0)]] : List Blk))))) [0] _ (conversion_calc_div_goes k r12 r14 r121 r141 x11) rfl (by kernel_rfl) (by kernel_rfl) (by kernel_rfl) (by kernel_rfl) (by kernel_rfl) (by kernel_rfl) (by kernel_rfl) (by kernel_rfl) rfl (by kernel_rfl) Try.func54 rfl (by kernel_rfl) (ConvRs.refl _ _) (by kernel_rfl) (by kernel_rfl) (by kernel_rfl) (by decide) (by kernel_rfl) (by kernel_rfl) (fun _ => (by kernel_rfl)) (fun _ => (by kernel_rfl)) (fun _ => (by kernel_rfl)) (fun r => ?_)
  obtain ⟨r122, r142, x12⟩ := r
  refine dUc ?_
  refine dUc ?_
  refine aOne (i := 28) (v := .undef) rfl (by kernel_rfl) (by kernel_rfl) (by kernel_rfl) (by kernel_rfl) (by kernel_rfl) (by kernel_rfl) (by kernel_rfl) (Does.acts (k_store (vs := [.d (.int .i64 r122), .d (.int .i64 r142)]) (H' := [.box [.d (.int .i64 x12)], .box [.d (.int .i64 r122), .d (.int .i64 r142)]]) 1 0 (by kernel_rfl) ty37 (by kernel_rfl) (by kernel_rfl) (by kernel_rfl))) (by kernel_rfl) ?_
  refine aDone (by kernel_rfl) ?_
  exact oRet (r0 := (r122, r142, x12)) (rv := .agg [.d (.int .i64 r122), .d (.int .i64 r142)]) (B := [.box [.d (.int .i64 x12)]]) (vs := [.agg [.d (.int .i64 r122), .d (.int .i64 r142)]]) (σ := [0]) (by kernel_rfl) Try.func41 rfl (.cons _ _ _ _ (.agg 6 37 1 0 [.d (.int .i64 r122), .d (.int .i64 r142)] [.d (.int .i64 r122), .d (.int .i64 r142)] _ _ _ _ (by kernel_rfl) (by kernel_rfl) Try.underlying37 (by kernel_rfl) ty37 (by kernel_rfl) (by kernel_rfl)) .nil) (by kernel_rfl) (by kernel_rfl) (by kernel_rfl) (by kernel_rfl) (by decide) (by kernel_rfl) (by kernel_rfl)

/-- (*awardingbody/conversion.calc).mul -/
def conversion_calc_mul (k : Nat) (a0 : Int) (a1 : Int) (b0 : Int) (b1 : Int) (x : Int) : Option (Int × Int × Int) := Option.bind (ratio_Mul k a0 a1 b0 b1) (uc fun r171 => uc fun r181 => fun r191 => Option.bind (conversion_calc_do k r171 r181 r191 x) (fun x31 => some (r171, r181, x31)))
def conversion_calc_mul_E (a0 : Int) (a1 : Int) (b0 : Int) (b1 : Int) (x : Int) : Int × Int × Int → V × List Blk := uc fun r1 => uc fun r11 => fun x1 => (.agg [.d (.int .i64 r1), .d (.int .i64 r11)], [.box [.d (.int .i64 x1)]])
theorem conversion_calc_mul_goes (k : Nat) (a0 : Int) (a1 : Int) (b0 : Int) (b1 : Int) (x : Int) : RunsO Try.prog 40 [.ptr 0 0, .agg [.d (.int .i64 a0), .d (.int .i64 a1)], .agg [.d (.int .i64 b0), .d (.int .i64 b1)]] [.box [.d (.int .i64 x)]] (conversion_calc_mul_E a0 a1 b0 b1 x) (conversion_calc_mul k a0 a1 b0 b1 x) := by
  refine RunsO.of_goes (N := 14) (m := 1) (T := [(0, .ptr 0 0), (1, .agg [.d (.int .i64 a0), .d (.int .i64 a1)]), (2, .agg [.d (.int .i64 b0), .d (.int .i64 b1)])]) Try.func40 rfl rfl (by kernel_rfl) (by kernel_rfl) (by kernel_rfl) ?_
  unfold conversion_calc_mul
  refine bStart ?_
  refine oSeq ?_
  refine oRegion rfl ?_
  refine oOp (.ptr 1 0) (by kernel_rfl) (by kernel_rfl) (k_box (H' := [.box [.d (.int .i64 x)], .box [.d (.int .i64 a0), .d (.int .i64 a1)]]) (cells := [.d (.int .i64 a0), .d (.int .i64 a1)]) (by kernel_rfl) (by kernel_rfl) (by kernel_rfl)) ?_
  refine oOp (.ptr 2 0) (by kernel_rfl) (by kernel_rfl) (k_box (H' := [.box [.d (.int .i64 x)], .box [.d (.int .i64 a0), .d (.int .i64 a1)], .box [.d (.int .i64 b0), .d (.int .i64 b1)]]) (cells := [.d (.int .i64 b0), .d (.int .i64 b1)]) (by kernel_rfl) (by kernel_rfl) (by kernel_rfl)) ?_
  refine oOp (.ptr 3 0) (by kernel_rfl) (by kernel_rfl) (k_alloc (H' := [.box [.d (.int .i64 x)], .box [.d (.int .i64 a0), .d (.int .i64 a1)], .box [.d (.int .i64 b0), .d (.int .i64 b1)], .box [.d (.int .i64 0), .d (.int .i64 0)]]) ty37 (by kernel_rfl) (by kernel_rfl)) ?_
  refine oEnd ?_
  refine oSeq ?_
  refine oRegion rfl ?_
  refine oOp (.ptr 0 0) (by kernel_rfl) (by kernel_rfl) (PureV.does (p_move (by kernel_rfl))) ?_
  refine oOp (.agg [.d (.int .i64 a0), .d (.int .i64 a1)]) (by kernel_rfl) (by kernel_rfl) (Quiet.does (k_loadAgg 1 0 (by kernel_rfl) Try.underlying37 (by kernel_rfl) ty37 (by kernel_rfl))) ?_
  refine oOp (.agg [.d (.int .i64 b0), .d (.int .i64 b1)]) (by kernel_rfl) (by kernel_rfl) (Quiet.does (k_loadAgg 2 0 (by kernel_rfl) Try.underlying37 (by kernel_rfl) ty37 (by kernel_rfl))) ?_
  refine bCall (caps := []) (v := (uc fun (r171 : Int) => (uc fun (r181 : Int) => (fun (r191 : Int) => (.tuple [.agg [.d (.int .i64 r171), .d (.int .i64 r181)], .d (.int .i64 r191)] : V))))) (H' := (uc fun (r171 : Int) => (uc fun (r181 : Int) => (fun (r191 : Int) => ([.box [.d (.int .i64 x)], .box [.d (.int .i64 a0), .d (.int .i64 a1)], .box [.d (.int .i64 b0), .d (.int .i64 b1)], .box [.d (.int .i64 0), .d (.int .i64 0)]] : List Blk))))) [] _ (ratio_Mul_goes k a0 a1 b0 b1) (by kernel_rfl) (by kernel_rfl) rfl (by kernel_rfl) Try.func53 rfl (by kernel_rfl) (ConvRs.refl _ _) (by kernel_rfl) (by kernel_rfl) (by kernel_rfl) (by decide) (by kernel_rfl) (by kernel_rfl) (fun _ => (by kernel_rfl)) (fun _ => (by kernel_rfl)) (fun _ => (by kernel_rfl)) (fun r => ?_)
  obtain ⟨r171, r181, r191⟩ := r
  refine bUc ?_
  refine bUc ?_
  refine oOp (.agg [.d (.int .i64 r171), .d (.int .i64 r181)]) (by kernel_rfl) (by kernel_rfl) (PureV.does (k_extract (by kernel_rfl))) ?_
  refine oOp (.d (.int .i64 r191)) (by kernel_rfl) (by kernel_rfl) (PureV.does (k_extract (by kernel_rfl))) ?_
  refine bCall (caps := []) (v := (fun (x31 : Int) => (.agg [.d (.int .i64 r171), .d (.int .i64 r181)] : V))) (H' := (fun (x31 : Int) => ([.box [.d (.int .i64 x31)], .box [.d (.int .i64 a0), .d (.int .i64 a1)], .box [.d (.int .i64 b0), .d (.int .i64 b1)], .box [.d (.int .i64 0), .d (.int .i64 0)]] : List Blk))) [0] _ (conversion_calc_do_goes k r171 r181 r191 x) (by kernel_rfl) (by kernel_rfl) rfl (by kernel_rfl) Try.func50 rfl (by kernel_rfl) (ConvRs.refl _ _) (by kernel_rfl) (by kernel_rfl) (by kernel_rfl) (by decide) (by kernel_rfl) (by kernel_rfl) (fun _ => (by kernel_rfl)) (fun _ => (by kernel_rfl)) (fun _ => (by kernel_rfl)) (fun x31 => ?_)
  refine oOp (.undef) (by kernel_rfl) (by kernel_rfl) (k_store (vs := [.d (.int .i64 r171), .d (.int .i64 r181)]) (H' := [.box [.d (.int .i64 x31)], .box [.d (.int .i64 a0), .d (.int .i64 a1)], .box [.d (.int .i64 b0), .d (.int .i64 b1)], .box [.d (.int .i64 r171), .d (.int .i64 r181)]]) 3 0 (by kernel_rfl) ty37 (by kernel_rfl) (by kernel_rfl) (by kernel_rfl)) ?_
  refine oEnd ?_
  exact oRet (r0 := (r171, r181, x31)) (rv := .agg [.d (.int .i64 r171), .d (.int .i64 r181)]) (B := [.box [.d (.int .i64 x31)]]) (vs := [.agg [.d (.int .i64 r171), .d (.int .i64 r181)]]) (σ := [0]) (by kernel_rfl) Try.func40 rfl (.cons _ _ _ _ (.agg 6 37 3 0 [.d (.int .i64 r171), .d (.int .i64 r181)] [.d (.int .i64 r171), .d (.int .i64 r181)] _ _ _ _ (by kernel_rfl) (by kernel_rfl) Try.underlying37 (by kernel_rfl) ty37 (by kernel_rfl) (by kernel_rfl)) .nil) (by kernel_rfl) (by kernel_rfl) (by kernel_rfl) (by kernel_rfl) (by decide) (by kernel_rfl) (by kernel_rfl)

/-- (*awardingbody/conversion.calc).add -/
def conversion_calc_add (k : Nat) (a0 : Int) (a1 : Int) (b0 : Int) (b1 : Int) (x : Int) : Option (Int × Int × Int) := Option.bind (ratio_Add k a0 a1 b0 b1) (uc fun r171 => uc fun r181 => fun r191 => Option.bind (conversion_calc_do k r171 r181 r191 x) (fun x31 => some (r171, r181, x31)))
def conversion_calc_add_E (a0 : Int) (a1 : Int) (b0 : Int) (b1 : Int) (x : Int) : Int × Int × Int → V × List Blk := uc fun r1 => uc fun r11 => fun x1 => (.agg [.d (.int .i64 r1), .d (.int .i64 r11)], [.box [.d (.int .i64 x1)]])
theorem conversion_calc_add_goes (k : Nat) (a0 : Int) (a1 : Int) (b0 : Int) (b1 : Int) (x : Int) : RunsO Try.prog 31 [.ptr 0 0, .agg [.d (.int .i64 a0), .d (.int .i64 a1)], .agg [.d (.int .i64 b0), .d (.int .i64 b1)]] [.box [.d (.int .i64 x)]] (conversion_calc_add_E a0 a1 b0 b1 x) (conversion_calc_add k a0 a1 b0 b1 x) := by
  refine RunsO.of_goes (N := 14) (m := 1) (T := [(0, .ptr 0 0), (1, .agg [.d (.int .i64 a0), .d (.int .i64 a1)]), (2, .agg [.d (.int .i64 b0), .d (.int .i64 b1)])]) Try.func31 rfl rfl (by kernel_rfl) (by kernel_rfl) (by kernel_rfl) ?_
  unfold conversion_calc_add
  refine bStart ?_
  refine oSeq ?_
  refine oRegion rfl ?_
  refine oOp (.ptr 1 0) (by kernel_rfl) (by kernel_rfl) (k_box (H' := [.box [.d (.int .i64 x)], .box [.d (.int .i64 a0), .d (.int .i64 a1)]]) (cells := [.d (.int .i64 a0), .d (.int .i64 a1)]) (by kernel_rfl) (by kernel_rfl) (by kernel_rfl)) ?_
  refine oOp (.ptr 2 0) (by kernel_rfl) (by kernel_rfl) (k_box (H' := [.box [.d (.int .i64 x)], .box [.d (.int .i64 a0), .d (.int .i64 a1)], .box [.d (.int .i64 b0), .d (.int .i64 b1)]]) (cells := [.d (.int .i64 b0), .d (.int .i64 b1)]) (by kernel_rfl) (by kernel_rfl) (by kernel_rfl)) ?_
  refine oOp (.ptr 3 0) (by kernel_rfl) (by kernel_rfl) (k_alloc (H' := [.box [.d (.int .i64 x)], .box [.d (.int .i64 a0), .d (.int .i64 a1)], .box [.d (.int .i64 b0), .d (.int .i64 b1)], .box [.d (.int .i64 0), .d (.int .i64 0)]]) ty37 (by kernel_rfl) (by kernel_rfl)) ?_
  refine oEnd ?_
  refine oSeq ?_
  refine oRegion rfl ?_
  refine oOp (.ptr 0 0) (by kernel_rfl) (by kernel_rfl) (PureV.does (p_move (by kernel_rfl))) ?_
  refine oOp (.agg [.d (.int .i64 a0), .d (.int .i64 a1)]) (by kernel_rfl) (by kernel_rfl) (Quiet.does (k_loadAgg 1 0 (by kernel_rfl) Try.underlying37 (by kernel_rfl) ty37 (by kernel_rfl))) ?_
  refine oOp (.agg [.d (.int .i64 b0), .d (.int .i64 b1)]) (by kernel_rfl) (by kernel_rfl) (Quiet.does (k_loadAgg 2 0 (by kernel_rfl) Try.underlying37 (by kernel_rfl) ty37 (by kernel_rfl))) ?_
  refine bCall (caps := []) (v := (uc fun (r171 : Int) => (uc fun (r181 : Int) => (fun (r191 : Int) => (.tuple [.agg [.d (.int .i64 r171), .d (.int .i64 r181)], .d (.int .i64 r191)] : V))))) (H' := (uc fun (r171 : Int) => (uc fun (r181 : Int) => (fun (r191 : Int) => ([.box [.d (.int .i64 x)], .box [.d (.int .i64 a0), .d (.int .i64 a1)], .box [.d (.int .i64 b0), .d (.int .i64 b1)], .box [.d (.int .i64 0), .d (.int .i64 0)]] : List Blk))))) [] _ (ratio_Add_goes k a0 a1 b0 b1) (by kernel_rfl) (by kernel_rfl) rfl (by kernel_rfl) Try.func51 rfl (by kernel_rfl) (ConvRs.refl _ _) (by kernel_rfl) (by kernel_rfl) (by kernel_rfl) (by decide) (by kernel_rfl) (by kernel_rfl) (fun _ => (by kernel_rfl)) (fun _ => (by kernel_rfl)) (fun _ => (by kernel_rfl)) (fun r => ?_)
  obtain ⟨r171, r181, r191⟩ := r
  refine bUc ?_
  refine bUc ?_
  refine oOp (.agg [.d (.int .i64 r171), .d (.int .i64 r181)]) (by kernel_rfl) (by kernel_rfl) (PureV.does (k_extract (by kernel_rfl))) ?_
  refine oOp (.d (.int .i64 r191)) (by kernel_rfl) (by kernel_rfl) (PureV.does (k_extract (by kernel_rfl))) ?_
  refine bCall (caps := []) (v := (fun (x31 : Int) => (.agg [.d (.int .i64 r171), .d (.int .i64 r181)] : V))) (H' := (fun (x31 : Int) => ([.box [.d (.int .i64 x31)], .box [.d (.int .i64 a0), .d (.int .i64 a1)], .box [.d (.int .i64 b0), .d (.int .i64 b1)], .box [.d (.int .i64 0), .d (.int .i64 0)]] : List Blk))) [0] _ (conversion_calc_do_goes k r171 r181 r191 x) (by kernel_rfl) (by kernel_rfl) rfl (by kernel_rfl) Try.func50 rfl (by kernel_rfl) (ConvRs.refl _ _) (by kernel_rfl) (by kernel_rfl) (by kernel_rfl) (by decide) (by kernel_rfl) (by kernel_rfl) (fun _ => (by kernel_rfl)) (fun _ => (by kernel_rfl)) (fun _ => (by kernel_rfl)) (fun x31 => ?_)
  refine oOp (.undef) (by kernel_rfl) (by kernel_rfl) (k_store (vs := [.d (.int .i64 r171), .d (.int .i64 r181)]) (H' := [.box [.d (.int .i64 x31)], .box [.d (.int .i64 a0), .d (.int .i64 a1)], .box [.d (.int .i64 b0), .d (.int .i64 b1)], .box [.d (.int .i64 r171), .d (.int .i64 r181)]]) 3 0 (by kernel_rfl) ty37 (by kernel_rfl) (by kernel_rfl) (by kernel_rfl)) ?_
  refine oEnd ?_
  exact oRet (r0 := (r171, r181, x31)) (rv := .agg [.d (.int .i64 r171), .d (.int .i64 r181)]) (B := [.box [.d (.int .i64 x31)]]) (vs := [.agg [.d (.int .i64 r171), .d (.int .i64 r181)]]) (σ := [0]) (by kernel_rfl) Try.func31 rfl (.cons _ _ _ _ (.agg 6 37 3 0 [.d (.int .i64 r171), .d (.int .i64 r181)] [.d (.int .i64 r171), .d (.int .i64 r181)] _ _ _ _ (by kernel_rfl) (by kernel_rfl) Try.underlying37 (by kernel_rfl) ty37 (by kernel_rfl) (by kernel_rfl)) .nil) (by kernel_rfl) (by kernel_rfl) (by kernel_rfl) (by kernel_rfl) (by decide) (by kernel_rfl) (by kernel_rfl)

end Go.VM
