/- Plain functions that answer as the program's functions do, and the proof that they do. -/
import Derived.Test.YtoffminccignfaaProg
import Derived.KernelRfl
import Derived.Test.YtoffminccignfaaEngW
import Derived.Test.YtoffminccignfaaCFacts
import Derived.Test.YtoffminccignfaaCFuns0
import Derived.Test.YtoffminccignfaaCFuns3
import Derived.Test.YtoffminccignfaaCFuns4
import Derived.Test.YtoffminccignfaaCFuns5
namespace Go.VM
open Go.Proofs
set_option linter.unusedVariables false
set_option linter.unusedSimpArgs false
set_option maxRecDepth 100000
/-- awardingbody/awardingbodyref01.Compare -/
def ref01_Compare (k : Nat) (a0 : Int) (a1 : Int) (b0 : Int) (b1 : Int) : Option (Int) := Option.bind (ref01_Valid k a0 a1) (fun r135 => Option.bind (bif (!r135) then some true else Option.bind (ref01_Valid k b0 b1) (fun r137 => some (!r137)) : Option (Bool)) (fun x1 => bif x1 then some 0 else Option.bind (ref01_Size k a0) (fun r1 => Option.bind (ref01_Size k b1) (fun r11 => Option.bind (ref01_Product k r1 r11) (uc fun r12 => fun r132 => Option.bind (ref01_Size k b0) (fun r14 => Option.bind (ref01_Size k a1) (fun r15 => Option.bind (ref01_Product k r14 r15) (uc fun r121 => fun r133 => Option.bind (ref01_total k (decide (a0 < 0)) r12 r132 (decide (b0 > 0)) r121 r133) (uc fun r111 => uc fun r122 => fun r134 => bif ((r122 == 0) && ((r134 == 0) && true)) then some 0 else bif r111 then some (-1) else some 1)))))))))
def ref01_Compare_E (a0 : Int) (a1 : Int) (b0 : Int) (b1 : Int) : Int → V × List Blk := fun r16 => (.d (.int .i64 r16), [])
theorem ref01_Compare_goes (k : Nat) (a0 : Int) (a1 : Int) (b0 : Int) (b1 : Int) : RunsO Try.prog 26 [.agg [.d (.int .i64 a0), .d (.int .i64 a1)], .agg [.d (.int .i64 b0), .d (.int .i64 b1)]] [] (ref01_Compare_E a0 a1 b0 b1) (ref01_Compare k a0 a1 b0 b1) := by
  refine RunsO.of_goes (N := 43) (m := 0) (T := [(0, .agg [.d (.int .i64 a0), .d (.int .i64 a1)]), (1, .agg [.d (.int .i64 b0), .d (.int .i64 b1)])]) Try.func26 rfl rfl (by kernel_rfl) (by kernel_rfl) (by kernel_rfl) ?_
  unfold ref01_Compare
  refine bStart ?_
  refine oSeq ?_
  refine oRegion rfl ?_
  refine oOp (.ptr 0 0) (by kernel_rfl) (by kernel_rfl) (k_box (H' := [.box [.d (.int .i64 a0), .d (.int .i64 a1)]]) (cells := [.d (.int .i64 a0), .d (.int .i64 a1)]) (by kernel_rfl) (by kernel_rfl) (by kernel_rfl)) ?_
  refine oOp (.ptr 1 0) (by kernel_rfl) (by kernel_rfl) (k_box (H' := [.box [.d (.int .i64 a0), .d (.int .i64 a1)], .box [.d (.int .i64 b0), .d (.int .i64 b1)]]) (cells := [.d (.int .i64 b0), .d (.int .i64 b1)]) (by kernel_rfl) (by kernel_rfl) (by kernel_rfl)) ?_
  refine oOp (.d (.int .i64 0)) (by kernel_rfl) (by kernel_rfl) (PureV.does (p_assign (by kernel_rfl))) ?_
  refine oEnd ?_
  refine oSeq ?_
  refine oSeq ?_
  refine oRegion rfl ?_
  refine oOp (.agg [.d (.int .i64 a0), .d (.int .i64 a1)]) (by kernel_rfl) (by kernel_rfl) (Quiet.does (k_loadAgg 0 0 (by kernel_rfl) Try.underlying37 (by kernel_rfl) ty37 (by kernel_rfl))) ?_
  refine bCall (caps := []) (v := (fun (r135 : Bool) => (.d (.bool r135) : V))) (H' := (fun (r135 : Bool) => ([.box [.d (.int .i64 a0), .d (.int .i64 a1)], .box [.d (.int .i64 b0), .d (.int .i64 b1)]] : List Blk))) [] _ (ref01_Valid_goes k a0 a1) (by kernel_rfl) (by kernel_rfl) rfl (by kernel_rfl) Try.func42 rfl (by kernel_rfl) (ConvRs.refl _ _) (by kernel_rfl) (by kernel_rfl) (by kernel_rfl) (by decide) (by kernel_rfl) (by kernel_rfl) (fun _ => (by kernel_rfl)) (fun _ => (by kernel_rfl)) (fun _ => (by kernel_rfl)) (fun r135 => ?_)
  refine oOp (.d (.bool (!r135))) (by kernel_rfl) (by kernel_rfl) (PureV.does (p_not (p := r135) (by kernel_rfl) (by kernel_rfl))) ?_
  refine oOp (.d (.bool (!r135))) (by kernel_rfl) (by kernel_rfl) (PureV.does (p_move (by kernel_rfl))) ?_
  refine bMeet 4 rfl ((fun (x1 : Bool) => [(2, .ptr 0 0), (3, .ptr 1 0), (14, .d (.bool x1))])) ((fun (x1 : Bool) => [.box [.d (.int .i64 a0), .d (.int .i64 a1)], .box [.d (.int .i64 b0), .d (.int .i64 b1)]])) (fun s => s) (fun x1 => ?_) (fun hj1 => ?_)
  ·refine oView (T' := [(2, .ptr 0 0), (3, .ptr 1 0), (14, .d (.bool x1))]) (H' := [.box [.d (.int .i64 a0), .d (.int .i64 a1)], .box [.d (.int .i64 b0), .d (.int .i64 b1)]]) (by kernel_rfl) (by kernel_rfl) ?_
   refine oEnd ?_
   refine bSplit 14 (by kernel_rfl) (fun hc => ?_) (fun hc => ?_)
   ·refine oCondT (by kernel_rfl) ?_
    refine oSeq ?_
    refine oRegion rfl ?_
    refine oOp (.d (.int .i64 0)) (by kernel_rfl) (by kernel_rfl) (PureV.does (p_assign (by kernel_rfl))) ?_
    refine oEnd ?_
    exact oRet (r0 := 0) (rv := .d (.int .i64 0)) (B := []) (vs := [.d (.int .i64 0)]) (σ := []) (by kernel_rfl) Try.func26 rfl (.cons _ _ _ _ (.tmp 4 _ (by kernel_rfl)) .nil) (by kernel_rfl) (by kernel_rfl) (by kernel_rfl) (by kernel_rfl) (by decide) (by kernel_rfl) (by kernel_rfl)
   ·refine oCondF (by kernel_rfl) ?_
    refine oSkip ?_
    refine oSeq ?_
    refine oDraw [(0, 27), (1, 27)] rfl ?_
    refine aTakeL (i := 0) (st' := []) (.ptr 0 0) rfl (by kernel_rfl) (by kernel_rfl) (by kernel_rfl) (by kernel_rfl) (by kernel_rfl) (by kernel_rfl) (by kernel_rfl) (PureV.quiet (k_fieldAddr 0 0 (by kernel_rfl) Try.underlying37 rfl ty3 (by kernel_rfl)) []) ?_
    refine aTakeL (i := 1) (st' := [0]) (.d (.int .i64 a0)) rfl (by kernel_rfl) (by kernel_rfl) (by kernel_rfl) (by kernel_rfl) (by kernel_rfl) (by kernel_rfl) (by kernel_rfl) (k_load 0 0 (by kernel_rfl) Try.underlying3 (by kernel_rfl) (by kernel_rfl)) ?_
    refine aTakeL (i := 2) (st' := []) (.d (.bool (decide (a0 < 0)))) rfl (by kernel_rfl) (by kernel_rfl) (by kernel_rfl) (by kernel_rfl) (by kernel_rfl) (by kernel_rfl) (by kernel_rfl) (PureV.quiet (p_int (k := .i64) (p := a0) (q := 0) (by kernel_rfl) (by kernel_rfl) (by kernel_rfl)) []) ?_
    refine aTakeL (i := 3) (st' := []) (.ptr 0 0) rfl (by kernel_rfl) (by kernel_rfl) (by kernel_rfl) (by kernel_rfl) (by kernel_rfl) (by kernel_rfl) (by kernel_rfl) (PureV.quiet (k_fieldAddr 0 0 (by kernel_rfl) Try.underlying37 rfl ty3 (by kernel_rfl)) []) ?_
    refine aTakeL (i := 4) (st' := [0]) (.d (.int .i64 a0)) rfl (by kernel_rfl) (by kernel_rfl) (by kernel_rfl) (by kernel_rfl) (by kernel_rfl) (by kernel_rfl) (by kernel_rfl) (k_load 0 0 (by kernel_rfl) Try.underlying3 (by kernel_rfl) (by kernel_rfl)) ?_
    refine aTakeL (i := 6) (st' := []) (.ptr 1 1) rfl (by kernel_rfl) (by kernel_rfl) (by kernel_rfl) (by kernel_rfl) (by kernel_rfl) (by kernel_rfl) (by kernel_rfl) (PureV.quiet (k_fieldAddr 1 0 (by kernel_rfl) Try.underlying37 rfl ty3 (by kernel_rfl)) []) ?_
    refine aTakeL (i := 7) (st' := [1]) (.d (.int .i64 b1)) rfl (by kernel_rfl) (by kernel_rfl) (by kernel_rfl) (by kernel_rfl) (by kernel_rfl) (by kernel_rfl) (by kernel_rfl) (k_load 1 1 (by kernel_rfl) Try.underlying3 (by kernel_rfl) (by kernel_rfl)) ?_
    refine aTakeL (i := 10) (st' := []) (.ptr 1 0) rfl (by kernel_rfl) (by kernel_rfl) (by kernel_rfl) (by kernel_rfl) (by kernel_rfl) (by kernel_rfl) (by kernel_rfl) (PureV.quiet (k_fieldAddr 1 0 (by kernel_rfl) Try.underlying37 rfl ty3 (by kernel_rfl)) []) ?_
    refine aTakeL (i := 11) (st' := [1]) (.d (.int .i64 b0)) rfl (by kernel_rfl) (by kernel_rfl) (by kernel_rfl) (by kernel_rfl) (by kernel_rfl) (by kernel_rfl) (by kernel_rfl) (k_load 1 0 (by kernel_rfl) Try.underlying3 (by kernel_rfl) (by kernel_rfl)) ?_
    refine aTakeL (i := 12) (st' := []) (.d (.bool (decide (b0 > 0)))) rfl (by kernel_rfl) (by kernel_rfl) (by kernel_rfl) (by kernel_rfl) (by kernel_rfl) (by kernel_rfl) (by kernel_rfl) (PureV.quiet (p_int (k := .i64) (p := b0) (q := 0) (by kernel_rfl) (by kernel_rfl) (by kernel_rfl)) []) ?_
    refine aTakeL (i := 13) (st' := []) (.ptr 1 0) rfl (by kernel_rfl) (by kernel_rfl) (by kernel_rfl) (by kernel_rfl) (by kernel_rfl) (by kernel_rfl) (by kernel_rfl) (PureV.quiet (k_fieldAddr 1 0 (by kernel_rfl) Try.underlying37 rfl ty3 (by kernel_rfl)) []) ?_
    refine aTakeL (i := 14) (st' := [1]) (.d (.int .i64 b0)) rfl (by kernel_rfl) (by kernel_rfl) (by kernel_rfl) (by kernel_rfl) (by kernel_rfl) (by kernel_rfl) (by kernel_rfl) (k_load 1 0 (by kernel_rfl) Try.underlying3 (by kernel_rfl) (by kernel_rfl)) ?_
    refine aTakeL (i := 16) (st' := []) (.ptr 0 1) rfl (by kernel_rfl) (by kernel_rfl) (by kernel_rfl) (by kernel_rfl) (by kernel_rfl) (by kernel_rfl) (by kernel_rfl) (PureV.quiet (k_fieldAddr 0 0 (by kernel_rfl) Try.underlying37 rfl ty3 (by kernel_rfl)) []) ?_
    refine aTakeL (i := 17) (st' := [0]) (.d (.int .i64 a1)) rfl (by kernel_rfl) (by kernel_rfl) (by kernel_rfl) (by kernel_rfl) (by kernel_rfl) (by kernel_rfl) (by kernel_rfl) (k_load 0 1 (by kernel_rfl) Try.underlying3 (by kernel_rfl) (by kernel_rfl)) ?_
    refine dCall (i := 5) (caps := []) (v := (fun (r1 : Int) => (.d (.int .u64 r1) : V))) (H' := (fun (r1 : Int) => ([.box [.d (.int .i64 a0), .d (.int .i64 a1)], .box [.d (.int .i64 b0), .d (.int .i64 b1)]] : List Blk))) [] _ (ref01_Size_goes k a0) rfl (by kernel_rfl) (by kernel_rfl) (by kernel_rfl) (by kernel_rfl) (by kernel_rfl) (by kernel_rfl) (by kernel_rfl) (by kernel_rfl) rfl (by kernel_rfl) Try.func45 rfl (by kernel_rfl) (ConvRs.refl _ _) (by kernel_rfl) (by kernel_rfl) (by kernel_rfl) (by decide) (by kernel_rfl) (by kernel_rfl) (fun _ => (by kernel_rfl)) (fun _ => (by kernel_rfl)) (fun _ => (by kernel_rfl)) (fun r1 => ?_)
    refine dCall (i := 8) (caps := []) (v := (fun (r11 : Int) => (.d (.int .u64 r11) : V))) (H' := (fun (r11 : Int) => ([.box [.d (.int .i64 a0), .d (.int .i64 a1)], .box [.d (.int .i64 b0), .d (.int .i64 b1)]] : List Blk))) [] _ (ref01_Size_goes k b1) rfl (by kernel_rfl) (by kernel_rfl) (by kernel_rfl) (by kernel_rfl) (by kernel_rfl) (by kernel_rfl) (by kernel_rfl) (by kernel_rfl) rfl (by kernel_rfl) Try.func45 rfl (by kernel_rfl) (ConvRs.refl _ _) (by kernel_rfl) (by kernel_rfl) (by kernel_rfl) (by decide) (by kernel_rfl) (by kernel_rfl) (fun _ => (by kernel_rfl)) (fun _ => (by kernel_rfl)) (fun _ => (by kernel_rfl)) (fun r11 => ?_)
    refine dCall (i := 9) (caps := []) (v := (uc fun (r12 : Int) => (fun (r132 : Int) => (.agg [.d (.int .u64 r12), .d (.int .u64 r132)] : V)))) (H' := (uc fun (r12 : Int) => (fun (r132 : Int) => ([.box [.d (.int .i64 a0), .d (.int .i64 a1)], .box [.d (.int .i64 b0), .d (.int .i64 b1)]] : List Blk)))) [] _ (ref01_Product_goes k r1 r11) rfl (by kernel_rfl) (by kernel_rfl) (by kernel_rfl) (by kernel_rfl) (by kernel_rfl) (by kernel_rfl) (by kernel_rfl) (by kernel_rfl) rfl (by kernel_rfl) Try.func44 rfl (by kernel_rfl) (ConvRs.refl _ _) (by kernel_rfl) (by kernel_rfl) (by kernel_rfl) (by decide) (by kernel_rfl) (by kernel_rfl) (fun _ => (by kernel_rfl)) (fun _ => (by kernel_rfl)) (fun _ => (by kernel_rfl)) (fun r => ?_)
    obtain ⟨r12, r132⟩ := r
    refine dUc ?_
    refine dCall (i := 15) (caps := []) (v := (fun (r14 : Int) => (.d (.int .u64 r14) : V))) (H' := (fun (r14 : Int) => ([.box [.d (.int .i64 a0), .d (.int .i64 a1)], .box [.d (.int .i64 b0), .d (.int .i64 b1)]] : List Blk))) [] _ (ref01_Size_goes k b0) rfl (by kernel_rfl) (by kernel_rfl) (by kernel_rfl) (by kernel_rfl) (by kernel_rfl) (by kernel_rfl) (by kernel_rfl) (by kernel_rfl) rfl (by kernel_rfl) Try.func45 rfl (by kernel_rfl) (ConvRs.refl _ _) (by kernel_rfl) (by kernel_rfl) (by kernel_rfl) (by decide) (by kernel_rfl) (by kernel_rfl) (fun _ => (by kernel_rfl)) (fun _ => (by kernel_rfl)) (fun _ => (by kernel_rfl)) (fun r14 => ?_)
    refine dCall (i := 18) (caps := []) (v := (fun (r15 : Int) => (.d (.int .u64 r15) : V))) (H' := (fun (r15 : Int) => ([.box [.d (.int .i64 a0), .d (.int .i64 a1)], .box [.d (.int .i64 b0), .d (.int .i64 b1)]] : List Blk))) [] _ (ref01_Size_goes k a1) rfl (by kernel_rfl) (by kernel_rfl) (by kernel_rfl) (by kernel_rfl) (by kernel_rfl) (by kernel_rfl) (by kernel_rfl) (by kernel_rfl) rfl (by kernel_rfl) Try.func45 rfl (by kernel_rfl) (ConvRs.refl _ _) (by kernel_rfl) (by kernel_rfl) (by kernel_rfl) (by decide) (by kernel_rfl) (by kernel_rfl) (fun _ => (by kernel_rfl)) (fun _ => (by kernel_rfl)) (fun _ => (by kernel_rfl)) (fun r15 => ?_)
    refine dCall (i := 19) (caps := []) (v := (uc fun (r121 : Int) => (fun (r133 : Int) => (.agg [.d (.int .u64 r121), .d (.int .u64 r133)] : V)))) (H' := (uc fun (r121 : Int) => (fun (r133 : Int) => ([.box [.d (.int .i64 a0), .d (.int .i64 a1)], .box [.d (.int .i64 b0), .d (.int .i64 b1)]] : List Blk)))) [] _ (ref01_Product_goes k r14 r15) rfl (by kernel_rfl) (by kernel_rfl) (by kernel_rfl) (by kernel_rfl) (by kernel_rfl) (by kernel_rfl) (by kernel_rfl) (by kernel_rfl) rfl (by kernel_rfl) Try.func44 rfl (by kernel_rfl) (ConvRs.refl _ _) (by kernel_rfl) (by kernel_rfl) (by kernel_rfl) (by decide) (by kernel_rfl) (by kernel_rfl) (fun _ => (by kernel_rfl)) (fun _ => (by kernel_rfl)) (fun _ => (by kernel_rfl)) (fun r => ?_)
    obtain ⟨r121, r133⟩ := r
    refine dUc ?_
    refine dCall (i := 20) (caps := []) (v := (uc fun (r111 : Bool) => (uc fun (r122 : Int) => (fun (r134 : Int) => (.tuple [.d (.bool r111), .agg [.d (.int .u64 r122), .d (.int .u64 r134)]] : V))))) (H' := (uc fun (r111 : Bool) => (uc fun (r122 : Int) => (fun (r134 : Int) => ([.box [.d (.int .i64 a0), .d (.int .i64 a1)], .box [.d (.int .i64 b0), .d (.int .i64 b1)]] : List Blk))))) [] _ (ref01_total_goes k (decide (a0 < 0)) r12 r132 (decide (b0 > 0)) r121 r133) rfl (by kernel_rfl) (by kernel_rfl) (by kernel_rfl) (by kernel_rfl) (by kernel_rfl) (by kernel_rfl) (by kernel_rfl) (by kernel_rfl) rfl (by kernel_rfl) Try.func43 rfl (by kernel_rfl) (ConvRs.refl _ _) (by kernel_rfl) (by kernel_rfl) (by kernel_rfl) (by decide) (by kernel_rfl) (by kernel_rfl) (fun _ => (by kernel_rfl)) (fun _ => (by kernel_rfl)) (fun _ => (by kernel_rfl)) (fun r => ?_)
    obtain ⟨r111, r122, r134⟩ := r
    refine dUc ?_
    refine dUc ?_
    refine aTakeP (i := 21) (.tuple [.d (.bool r111), .agg [.d (.int .u64 r122), .d (.int .u64 r134)]]) rfl (by kernel_rfl) (by kernel_rfl) (by kernel_rfl) (by kernel_rfl) (by kernel_rfl) (by kernel_rfl) (by kernel_rfl) (p_move (by kernel_rfl)) ?_
    refine aTakeP (i := 22) (.d (.bool r111)) rfl (by kernel_rfl) (by kernel_rfl) (by kernel_rfl) (by kernel_rfl) (by kernel_rfl) (by kernel_rfl) (by kernel_rfl) (k_extract (by kernel_rfl)) ?_
    refine aTakeP (i := 23) (.agg [.d (.int .u64 r122), .d (.int .u64 r134)]) rfl (by kernel_rfl) (by kernel_rfl) (by kernel_rfl) (by kernel_rfl) (by kernel_rfl) (by kernel_rfl) (by kernel_rfl) (k_extract (by kernel_rfl)) ?_
    refine aAlloc (i := 24) (d := 6) rfl (by kernel_rfl) (by kernel_rfl) rfl rfl (by kernel_rfl) (by kernel_rfl) ty72 (cells := [.d (.int .u64 0), .d (.int .u64 0)]) (by kernel_rfl) (by kernel_rfl) ?_
    refine dView (H' := [.box [.d (.int .i64 a0), .d (.int .i64 a1)], .box [.d (.int .i64 b0), .d (.int .i64 b1)], .box [.d (.int .u64 0), .d (.int .u64 0)]]) rfl rfl (by kernel_rfl) ?_
    refine aTakeL (i := 25) (st' := []) (.d (.bool r111)) rfl (by kernel_rfl) (by kernel_rfl) (by kernel_rfl) (by kernel_rfl) (by kernel_rfl) (by kernel_rfl) (by kernel_rfl) (PureV.quiet (p_assign (by kernel_rfl)) []) ?_
    refine aOne (i := 26) (v := .undef) rfl (by kernel_rfl) (by kernel_rfl) (by kernel_rfl) (by kernel_rfl) (by kernel_rfl) (by kernel_rfl) (by kernel_rfl) (Does.acts (k_store (vs := [.d (.int .u64 r122), .d (.int .u64 r134)]) (H' := [.box [.d (.int .i64 a0), .d (.int .i64 a1)], .box [.d (.int .i64 b0), .d (.int .i64 b1)], .box [.d (.int .u64 r122), .d (.int .u64 r134)]]) 2 0 (by kernel_rfl) ty72 (by kernel_rfl) (by kernel_rfl) (by kernel_rfl))) (by kernel_rfl) ?_
    refine aDone (by kernel_rfl) ?_
    refine oSeq ?_
    refine oSeq ?_
    refine oRegion rfl ?_
    refine oOp (.agg [.d (.int .u64 r122), .d (.int .u64 r134)]) (by kernel_rfl) (by kernel_rfl) (Quiet.does (k_loadAgg 2 0 (by kernel_rfl) Try.underlying72 (by kernel_rfl) ty72 (by kernel_rfl))) ?_
    refine oOp (.agg [.d (.int .u64 0), .d (.int .u64 0)]) (by kernel_rfl) (by kernel_rfl) (PureV.does (p_build bld72 (by kernel_rfl))) ?_
    refine oOp (.d (.bool ((r122 == 0) && ((r134 == 0) && true)))) (by kernel_rfl) (by kernel_rfl) (PureV.does (k_eqAgg (by kernel_rfl) (by kernel_rfl) Try.eqGuardType72 (EqV.struct 1 72 [.d (.int .u64 r122), .d (.int .u64 r134)] [.d (.int .u64 0), .d (.int .u64 0)] _ ((r122 == 0) && ((r134 == 0) && true)) Try.underlying72 Try.stoodInHeld72 (EqF.one 1 1 _ _ _ _ _ _ _ (r122 == 0) ((r134 == 0) && true) (by kernel_rfl) Try.underlying64 (by kernel_rfl) (by kernel_rfl) (by kernel_rfl) (by kernel_rfl) (EqV.int 64 .u64 .u64 r122 0 Try.underlying64) (EqF.one 1 1 _ _ _ _ _ _ _ (r134 == 0) true (by kernel_rfl) Try.underlying64 (by kernel_rfl) (by kernel_rfl) (by kernel_rfl) (by kernel_rfl) (EqV.int 64 .u64 .u64 r134 0 Try.underlying64) (EqF.nil 1 _ _)))) (by kernel_rfl))) ?_
    refine oEnd ?_
    refine bSplit 41 (by kernel_rfl) (fun hc => ?_) (fun hc => ?_)
    ·refine oCondT (by kernel_rfl) ?_
     refine oSeq ?_
     refine oRegion rfl ?_
     refine oOp (.d (.int .i64 0)) (by kernel_rfl) (by kernel_rfl) (PureV.does (p_assign (by kernel_rfl))) ?_
     refine oEnd ?_
     exact oRet (r0 := 0) (rv := .d (.int .i64 0)) (B := []) (vs := [.d (.int .i64 0)]) (σ := []) (by kernel_rfl) Try.func26 rfl (.cons _ _ _ _ (.tmp 4 _ (by kernel_rfl)) .nil) (by kernel_rfl) (by kernel_rfl) (by kernel_rfl) (by kernel_rfl) (by decide) (by kernel_rfl) (by kernel_rfl)
    ·refine oCondF (by kernel_rfl) ?_
     refine oSkip ?_
     refine oSeq ?_
     refine oSeq ?_
     refine oRegion rfl ?_
     refine oOp (.d (.bool r111)) (by kernel_rfl) (by kernel_rfl) (PureV.does (p_move (by kernel_rfl))) ?_
     refine oEnd ?_
     refine bSplit 42 (by kernel_rfl) (fun hc => ?_) (fun hc => ?_)
     ·refine oCondT (by kernel_rfl) ?_
      refine oSeq ?_
      refine oRegion rfl ?_
      refine oOp (.d (.int .i64 (-1))) (by kernel_rfl) (by kernel_rfl) (PureV.does (p_assign (by kernel_rfl))) ?_
      refine oEnd ?_
      exact oRet (r0 := (-1)) (rv := .d (.int .i64 (-1))) (B := []) (vs := [.d (.int .i64 (-1))]) (σ := []) (by kernel_rfl) Try.func26 rfl (.cons _ _ _ _ (.tmp 4 _ (by kernel_rfl)) .nil) (by kernel_rfl) (by kernel_rfl) (by kernel_rfl) (by kernel_rfl) (by decide) (by kernel_rfl) (by kernel_rfl)
     ·refine oCondF (by kernel_rfl) ?_
      refine oSkip ?_
      refine oSeq ?_
      refine oRegion rfl ?_
      refine oOp (.d (.int .i64 1)) (by kernel_rfl) (by kernel_rfl) (PureV.does (p_assign (by kernel_rfl))) ?_
      refine oEnd ?_
      exact oRet (r0 := 1) (rv := .d (.int .i64 1)) (B := []) (vs := [.d (.int .i64 1)]) (σ := []) (by kernel_rfl) Try.func26 rfl (.cons _ _ _ _ (.tmp 4 _ (by kernel_rfl)) .nil) (by kernel_rfl) (by kernel_rfl) (by kernel_rfl) (by kernel_rfl) (by decide) (by kernel_rfl) (by kernel_rfl)
  ·refine bSplit 10 (by kernel_rfl) (fun hc => ?_) (fun hc => ?_)
   ·refine oNot (by kernel_rfl) (by kernel_rfl) ?_
    refine oNot (by kernel_rfl) (by kernel_rfl) ?_
    refine oNot (by kernel_rfl) (by kernel_rfl) ?_
    refine oOp (.d (.bool true)) (by kernel_rfl) (by kernel_rfl) (PureV.does (p_pick (b := true) (by kernel_rfl) (by kernel_rfl))) ?_
    refine oHead [2, 3, 14] [0, 1] (T' := [(2, .ptr 0 0), (3, .ptr 1 0), (14, .d (.bool true))]) (H' := [.box [.d (.int .i64 a0), .d (.int .i64 a1)], .box [.d (.int .i64 b0), .d (.int .i64 b1)]]) (by kernel_rfl) (by kernel_rfl) (by kernel_rfl) (by kernel_rfl) (by decide) (by kernel_rfl) (by kernel_rfl) ?_
    exact hj1 true
   ·refine oOp (.agg [.d (.int .i64 b0), .d (.int .i64 b1)]) (by kernel_rfl) (by kernel_rfl) (Quiet.does (k_loadAgg 1 0 (by kernel_rfl) Try.underlying37 (by kernel_rfl) ty37 (by kernel_rfl))) ?_
    refine bCall (caps := []) (v := (fun (r137 : Bool) => (.d (.bool r137) : V))) (H' := (fun (r137 : Bool) => ([.box [.d (.int .i64 a0), .d (.int .i64 a1)], .box [.d (.int .i64 b0), .d (.int .i64 b1)]] : List Blk))) [] _ (ref01_Valid_goes k b0 b1) (by kernel_rfl) (by kernel_rfl) rfl (by kernel_rfl) Try.func42 rfl (by kernel_rfl) (ConvRs.refl _ _) (by kernel_rfl) (by kernel_rfl) (by kernel_rfl) (by decide) (by kernel_rfl) (by kernel_rfl) (fun _ => (by kernel_rfl)) (fun _ => (by kernel_rfl)) (fun _ => (by kernel_rfl)) (fun r137 => ?_)
    refine oOp (.d (.bool (!r137))) (by kernel_rfl) (by kernel_rfl) (PureV.does (p_not (p := r137) (by kernel_rfl) (by kernel_rfl))) ?_
    refine oOp (.d (.bool (!r137))) (by kernel_rfl) (by kernel_rfl) (PureV.does (p_pick (b := false) (by kernel_rfl) (by kernel_rfl))) ?_
    refine oHead [2, 3, 14] [0, 1] (T' := [(2, .ptr 0 0), (3, .ptr 1 0), (14, .d (.bool (!r137)))]) (H' := [.box [.d (.int .i64 a0), .d (.int .i64 a1)], .box [.d (.int .i64 b0), .d (.int .i64 b1)]]) (by kernel_rfl) (by kernel_rfl) (by kernel_rfl) (by kernel_rfl) (by decide) (by kernel_rfl) (by kernel_rfl) ?_
    exact hj1 (!r137)

/-- awardingbody/awardingbodyref01.Less -/
def ref01_Less (k : Nat) (a0 : Int) (a1 : Int) (b0 : Int) (b1 : Int) : Option (Bool) := Option.bind (ref01_Compare k a0 a1 b0 b1) (fun r161 => some (decide (r161 < 0)))
def ref01_Less_E (a0 : Int) (a1 : Int) (b0 : Int) (b1 : Int) : Bool → V × List Blk := fun r1 => (.d (.bool r1), [])
theorem ref01_Less_goes (k : Nat) (a0 : Int) (a1 : Int) (b0 : Int) (b1 : Int) : RunsO Try.prog 15 [.agg [.d (.int .i64 a0), .d (.int .i64 a1)], .agg [.d (.int .i64 b0), .d (.int .i64 b1)]] [] (ref01_Less_E a0 a1 b0 b1) (ref01_Less k a0 a1 b0 b1) := by
  refine RunsO.of_goes (N := 9) (m := 0) (T := [(0, .agg [.d (.int .i64 a0), .d (.int .i64 a1)]), (1, .agg [.d (.int .i64 b0), .d (.int .i64 b1)])]) Try.func15 rfl rfl (by kernel_rfl) (by kernel_rfl) (by kernel_rfl) ?_
  unfold ref01_Less
  refine bStart ?_
  refine oSeq ?_
  refine oRegion rfl ?_
  refine oOp (.ptr 0 0) (by kernel_rfl) (by kernel_rfl) (k_box (H' := [.box [.d (.int .i64 a0), .d (.int .i64 a1)]]) (cells := [.d (.int .i64 a0), .d (.int .i64 a1)]) (by kernel_rfl) (by kernel_rfl) (by kernel_rfl)) ?_
  refine oOp (.ptr 1 0) (by kernel_rfl) (by kernel_rfl) (k_box (H' := [.box [.d (.int .i64 a0), .d (.int .i64 a1)], .box [.d (.int .i64 b0), .d (.int .i64 b1)]]) (cells := [.d (.int .i64 b0), .d (.int .i64 b1)]) (by kernel_rfl) (by kernel_rfl) (by kernel_rfl)) ?_
  refine oOp (.d (.bool false)) (by kernel_rfl) (by kernel_rfl) (PureV.does (p_assign (by kernel_rfl))) ?_
  refine oEnd ?_
  refine oSeq ?_
  refine oRegion rfl ?_
  refine oOp (.agg [.d (.int .i64 a0), .d (.int .i64 a1)]) (by kernel_rfl) (by kernel_rfl) (Quiet.does (k_loadAgg 0 0 (by kernel_rfl) Try.underlying37 (by kernel_rfl) ty37 (by kernel_rfl))) ?_
  refine oOp (.agg [.d (.int .i64 b0), .d (.int .i64 b1)]) (by kernel_rfl) (by kernel_rfl) (Quiet.does (k_loadAgg 1 0 (by kernel_rfl) Try.underlying37 (by kernel_rfl) ty37 (by kernel_rfl))) ?_
  refine bCall (caps := []) (v := (fun (r161 : Int) => (.d (.int .i64 r161) : V))) (H' := (fun (r161 : Int) => ([.box [.d (.int .i64 a0), .d (.int .i64 a1)], .box [.d (.int .i64 b0), .d (.int .i64 b1)]] : List Blk))) [] _ (ref01_Compare_goes k a0 a1 b0 b1) (by kernel_rfl) (by kernel_rfl) rfl (by kernel_rfl) Try.func26 rfl (by kernel_rfl) (ConvRs.refl _ _) (by kernel_rfl) (by kernel_rfl) (by kernel_rfl) (by decide) (by kernel_rfl) (by kernel_rfl) (fun _ => (by kernel_rfl)) (fun _ => (by kernel_rfl)) (fun _ => (by kernel_rfl)) (fun r161 => ?_)
  refine oOp (.d (.bool (decide (r161 < 0)))) (by kernel_rfl) (by kernel_rfl) (PureV.does (p_int (k := .i64) (p := r161) (q := 0) (by kernel_rfl) (by kernel_rfl) (by kernel_rfl))) ?_
  refine oOp (.d (.bool (decide (r161 < 0)))) (by kernel_rfl) (by kernel_rfl) (PureV.does (p_assign (by kernel_rfl))) ?_
  refine oEnd ?_
  exact oRet (r0 := (decide (r161 < 0))) (rv := .d (.bool (decide (r161 < 0)))) (B := []) (vs := [.d (.bool (decide (r161 < 0)))]) (σ := []) (by kernel_rfl) Try.func15 rfl (.cons _ _ _ _ (.tmp 4 _ (by kernel_rfl)) .nil) (by kernel_rfl) (by kernel_rfl) (by kernel_rfl) (by kernel_rfl) (by decide) (by kernel_rfl) (by kernel_rfl)

/-- awardingbody/awardingbodylaw33.ConversionRises -/
def law33_ConversionRises_b1 (k : Nat) (t : (List Int)) (r1119 : (List SPoint)) (r129 : (List SPoint)) (again : Int × Int → Option ((Unit) ⊕ (Bool))) : Int × Int → Option ((Unit) ⊕ (Bool)) := uc fun i4 => fun x130 => bif (decide (i4 < 5)) then Option.bind (mark_Dice_Ratio k t x130) (uc fun r1228 => uc fun r1375 => fun x428 => Option.bind (mark_Dice_Ratio k t x428) (uc fun r1229 => uc fun r1376 => fun x429 => Option.bind (conversion_Eval_2 k r1119 r1228 r1375) (uc fun r1152 => uc fun r1377 => fun r1448 => Option.bind (conversion_Eval_2 k r1119 r1229 r1376) (uc fun r1153 => uc fun r1378 => fun r1449 => Option.bind (conversion_Eval_2 k r129 r1228 r1375) (uc fun r1154 => uc fun r1379 => fun r1450 => blet ((r1448 != 0) || (r1449 != 0)) fun x167 => blet (x167 || (r1450 != 0)) fun x168 => blet (x168 || (!((r1154 == r1152) && ((r1379 == r1377) && true)))) fun x169 => Option.bind (bif x169 then some true else Option.bind (ref01_Less k r1228 r1375 r1229 r1376) (fun r15 => Option.bind (ref01_Less k r1152 r1377 r1153 r1378) (fun r16 => some (!(r15 == r16)))) : Option Bool) (fun x170 => blet (x170 || (!(((r1228 == r1229) && ((r1375 == r1376) && true)) == ((r1152 == r1153) && ((r1377 == r1378) && true))))) fun x171 => bif x171 then some (Sum.inr false) else again ((IntKind.wrap .i64 (i4 + 1)), x429))))))) else some (Sum.inl ())
def law33_ConversionRises_b2 (k : Nat) (r1119 : (List SPoint)) (again : Int → Option ((Unit) ⊕ (Bool))) : Int → Option ((Unit) ⊕ (Bool)) := fun x174 => bif (decide (x174 < ((List.length r1119) : Int))) then gidx r1119 x174 fun e113 => Option.bind (conversion_Eval_2 k r1119 e113.X_Num e113.X_Den) (uc fun r1160 => uc fun r1385 => fun r1456 => blet ((r1456 != 0) || (!((r1160 == e113.Y_Num) && ((r1385 == e113.Y_Den) && true)))) fun x179 => bif x179 then some (Sum.inr false) else again (IntKind.wrap .i64 (x174 + 1))) else some (Sum.inl ())
def law33_ConversionRises (k : Nat) (t : (List Int)) : Option (Bool) := Option.bind (mark_Light k t) (u0 (bif (!(decide (((List.length t) : Int) ≤ 600))) then Option.bind (law33_sane k) (fun r110 => some r110) else Option.bind (mark_Roll k t) (u0 (Option.bind (mark_Dice_Curve k t 0) (uc fun r1119 => fun x91 => Option.bind (conversion_Normal k r1119) (uc fun r129 => fun r1325 => Option.bind (bif (r1325 != 0) then some true else Option.bind (conversion_Same k r1119 r129) (fun r1161 => some (!r1161)) : Option (Bool)) (fun x59 => Option.bind (bif x59 then some true else Option.bind (conversion_Valid k r129) (fun r140 => some (!r140)) : Option (Bool)) (fun x60 => bif x60 then some false else Option.bind (gloop (law33_ConversionRises_b2 k r1119) k 0 : Option ((Unit) ⊕ (Bool))) (Sum.elim (u0 (Option.bind (gloop (law33_ConversionRises_b1 k t r1119 r129) k (0, x91) : Option ((Unit) ⊕ (Bool))) (Sum.elim (u0 (Option.bind (law33_sane k) (fun r130 => some r130))) (fun r => some r)))) (fun r => some r))))))))))
def law33_ConversionRises_E (t : (List Int)) : Bool → V × List Blk := fun r18 => (.d (.bool r18), [])
theorem law33_ConversionRises_goes (k : Nat) (t : (List Int)) : RunsO Try.prog 3 [.d (.lit (List.map e_i64 t))] [] (law33_ConversionRises_E t) (law33_ConversionRises k t) := by
  refine RunsO.of_goes (N := 129) (m := 0) (T := [(0, .d (.lit (List.map e_i64 t)))]) Try.func3 rfl rfl (by kernel_rfl) (by kernel_rfl) (by kernel_rfl) ?_
  unfold law33_ConversionRises
  refine bStart ?_
  refine oSeq ?_
  refine oRegion rfl ?_
  refine oOp (.d (.bool false)) (by kernel_rfl) (by kernel_rfl) (PureV.does (p_assign (by kernel_rfl))) ?_
  refine oEnd ?_
  refine oSeq ?_
  refine oSeq ?_
  refine oRegion rfl ?_
  refine oOp (.d (.lit (List.map e_i64 t))) (by kernel_rfl) (by kernel_rfl) (PureV.does (p_move (by kernel_rfl))) ?_
  refine bCall (caps := []) (v := (u0 ((.d (.bool (decide (((List.length t) : Int) ≤ 600))) : V)))) (H' := (u0 (([] : List Blk)))) [] _ (mark_Light_goes k t) (by kernel_rfl) (by kernel_rfl) rfl (by kernel_rfl) Try.func6 rfl (by kernel_rfl) (ConvRs.refl _ _) (by kernel_rfl) (by kernel_rfl) (by kernel_rfl) (by decide) (by kernel_rfl) (by kernel_rfl) (fun _ => (by kernel_rfl)) (fun _ => (by kernel_rfl)) (fun _ => (by kernel_rfl)) (fun r => ?_)
  cases r
  refine bU0 ?_
  refine oOp (.d (.bool (!(decide (((List.length t) : Int) ≤ 600))))) (by kernel_rfl) (by kernel_rfl) (PureV.does (p_not (p := (decide (((List.length t) : Int) ≤ 600))) (by kernel_rfl) (by kernel_rfl))) ?_
  refine oEnd ?_
  refine bSplit 22 (by kernel_rfl) (fun hc => ?_) (fun hc => ?_)
  ·refine oCondT (by kernel_rfl) ?_
   refine oSeq ?_
   refine oRegion rfl ?_
   refine bCall (caps := []) (v := (fun (r110 : Bool) => (.d (.bool r110) : V))) (H' := (fun (r110 : Bool) => ([] : List Blk))) [] _ (law33_sane_goes k ) (by kernel_rfl) (by kernel_rfl) rfl (by kernel_rfl) Try.func7 rfl (by kernel_rfl) (ConvRs.refl _ _) (by kernel_rfl) (by kernel_rfl) (by kernel_rfl) (by decide) (by kernel_rfl) (by kernel_rfl) (fun _ => (by kernel_rfl)) (fun _ => (by kernel_rfl)) (fun _ => (by kernel_rfl)) (fun r110 => ?_)
   refine oOp (.d (.bool r110)) (by kernel_rfl) (by kernel_rfl) (PureV.does (p_assign (by kernel_rfl))) ?_
   refine oEnd ?_
   exact oRet (r0 := r110) (rv := .d (.bool r110)) (B := []) (vs := [.d (.bool r110)]) (σ := []) (by kernel_rfl) Try.func3 rfl (.cons _ _ _ _ (.tmp 2 _ (by kernel_rfl)) .nil) (by kernel_rfl) (by kernel_rfl) (by kernel_rfl) (by kernel_rfl) (by decide) (by kernel_rfl) (by kernel_rfl)
  ·refine oCondF (by kernel_rfl) ?_
   refine oSkip ?_
   refine oSeq ?_
   refine oRegion rfl ?_
   refine oOp (.d (.lit (List.map e_i64 t))) (by kernel_rfl) (by kernel_rfl) (PureV.does (p_move (by kernel_rfl))) ?_
   refine bCall (caps := []) (v := (u0 ((.ptr 0 0 : V)))) (H' := (u0 (([.box [.d (.lit (List.map e_i64 t)), .d (.int .i64 0)]] : List Blk)))) [] _ (mark_Roll_goes k t) (by kernel_rfl) (by kernel_rfl) rfl (by kernel_rfl) Try.func8 rfl (by kernel_rfl) (ConvRs.refl _ _) (by kernel_rfl) (by kernel_rfl) (by kernel_rfl) (by decide) (by kernel_rfl) (by kernel_rfl) (fun _ => (by kernel_rfl)) (fun _ => (by kernel_rfl)) (fun _ => (by kernel_rfl)) (fun r => ?_)
   cases r
   refine bU0 ?_
   refine oOp (.ptr 0 0) (by kernel_rfl) (by kernel_rfl) (PureV.does (p_assign (by kernel_rfl))) ?_
   refine oEnd ?_
   refine oSeq ?_
   refine oRegion rfl ?_
   refine oOp (.ptr 0 0) (by kernel_rfl) (by kernel_rfl) (PureV.does (p_move (by kernel_rfl))) ?_
   refine bCall (caps := []) (v := (uc fun (r1119 : (List SPoint)) => (fun (x91 : Int) => (.agg [.d (.lit (List.map e_SPoint r1119))] : V)))) (H' := (uc fun (r1119 : (List SPoint)) => (fun (x91 : Int) => ([.box [.d (.lit (List.map e_i64 t)), .d (.int .i64 x91)]] : List Blk)))) [0] _ (mark_Dice_Curve_goes k t 0) (by kernel_rfl) (by kernel_rfl) rfl (by kernel_rfl) Try.func9 rfl (by kernel_rfl) (ConvRs.refl _ _) (by kernel_rfl) (by kernel_rfl) (by kernel_rfl) (by decide) (by kernel_rfl) (by kernel_rfl) (fun _ => (by kernel_rfl)) (fun _ => (by kernel_rfl)) (fun _ => (by kernel_rfl)) (fun r => ?_)
   obtain ⟨r1119, x91⟩ := r
   refine bUc ?_
   refine oOp (.ptr 1 0) (by kernel_rfl) (by kernel_rfl) (k_alloc (H' := [.box [.d (.lit (List.map e_i64 t)), .d (.int .i64 x91)], .box [.nilc]]) ty29 (by kernel_rfl) (by kernel_rfl)) ?_
   refine oOp (.undef) (by kernel_rfl) (by kernel_rfl) (k_store (vs := [.d (.lit (List.map e_SPoint r1119))]) (H' := [.box [.d (.lit (List.map e_i64 t)), .d (.int .i64 x91)], .box [.d (.lit (List.map e_SPoint r1119))]]) 1 0 (by kernel_rfl) ty29 (by kernel_rfl) (by kernel_rfl) (by kernel_rfl)) ?_
   refine oEnd ?_
   refine oSeq ?_
   refine oRegion rfl ?_
   refine oOp (.agg [.d (.lit (List.map e_SPoint r1119))]) (by kernel_rfl) (by kernel_rfl) (Quiet.does (k_loadAgg 1 0 (by kernel_rfl) Try.underlying29 (by kernel_rfl) ty29 (by kernel_rfl))) ?_
   refine bCall (caps := []) (v := (uc fun (r129 : (List SPoint)) => (fun (r1325 : Int) => (.tuple [.agg [.d (.lit (List.map e_SPoint r129))], .d (.int .i64 r1325)] : V)))) (H' := (uc fun (r129 : (List SPoint)) => (fun (r1325 : Int) => ([.box [.d (.lit (List.map e_i64 t)), .d (.int .i64 x91)], .box [.d (.lit (List.map e_SPoint r1119))]] : List Blk)))) [] _ (conversion_Normal_goes k r1119) (by kernel_rfl) (by kernel_rfl) rfl (by kernel_rfl) Try.func10 rfl (by kernel_rfl) (ConvRs.refl _ _) (by kernel_rfl) (by kernel_rfl) (by kernel_rfl) (by decide) (by kernel_rfl) (by kernel_rfl) (fun _ => (by kernel_rfl)) (fun _ => (by kernel_rfl)) (fun _ => (by kernel_rfl)) (fun r => ?_)
   obtain ⟨r129, r1325⟩ := r
   refine bUc ?_
   refine oOp (.tuple [.agg [.d (.lit (List.map e_SPoint r129))], .d (.int .i64 r1325)]) (by kernel_rfl) (by kernel_rfl) (PureV.does (p_move (by kernel_rfl))) ?_
   refine oOp (.agg [.d (.lit (List.map e_SPoint r129))]) (by kernel_rfl) (by kernel_rfl) (PureV.does (k_extract (by kernel_rfl))) ?_
   refine oOp (.d (.int .i64 r1325)) (by kernel_rfl) (by kernel_rfl) (PureV.does (k_extract (by kernel_rfl))) ?_
   refine oOp (.ptr 2 0) (by kernel_rfl) (by kernel_rfl) (k_alloc (H' := [.box [.d (.lit (List.map e_i64 t)), .d (.int .i64 x91)], .box [.d (.lit (List.map e_SPoint r1119))], .box [.nilc]]) ty29 (by kernel_rfl) (by kernel_rfl)) ?_
   refine oOp (.undef) (by kernel_rfl) (by kernel_rfl) (k_store (vs := [.d (.lit (List.map e_SPoint r129))]) (H' := [.box [.d (.lit (List.map e_i64 t)), .d (.int .i64 x91)], .box [.d (.lit (List.map e_SPoint r1119))], .box [.d (.lit (List.map e_SPoint r129))]]) 2 0 (by kernel_rfl) ty29 (by kernel_rfl) (by kernel_rfl) (by kernel_rfl)) ?_
   refine oOp (.d (.int .i64 r1325)) (by kernel_rfl) (by kernel_rfl) (PureV.does (p_assign (by kernel_rfl))) ?_
   refine oEnd ?_
   refine oSeq ?_
   refine oSeq ?_
   refine oRegion rfl ?_
   refine oOp (.d (.int .i64 r1325)) (by kernel_rfl) (by kernel_rfl) (PureV.does (p_move (by kernel_rfl))) ?_
   refine oOp (.d (.bool (r1325 != 0))) (by kernel_rfl) (by kernel_rfl) (PureV.does (p_int (k := .i64) (p := r1325) (q := 0) (by kernel_rfl) (by kernel_rfl) (by kernel_rfl))) ?_
   refine oOp (.d (.bool (r1325 != 0))) (by kernel_rfl) (by kernel_rfl) (PureV.does (p_move (by kernel_rfl))) ?_
   refine bMeet 5 rfl ((fun (x59 : Bool) => [(3, .ptr 0 0), (4, .ptr 1 0), (5, .ptr 2 0), (40, .d (.bool x59))])) ((fun (x59 : Bool) => [.box [.d (.lit (List.map e_i64 t)), .d (.int .i64 x91)], .box [.d (.lit (List.map e_SPoint r1119))], .box [.d (.lit (List.map e_SPoint r129))]])) (fun s => s) (fun x59 => ?_) (fun hj77 => ?_)
   ·refine oView (T' := [(3, .ptr 0 0), (4, .ptr 1 0), (5, .ptr 2 0), (40, .d (.bool x59))]) (H' := [.box [.d (.lit (List.map e_i64 t)), .d (.int .i64 x91)], .box [.d (.lit (List.map e_SPoint r1119))], .box [.d (.lit (List.map e_SPoint r129))]]) (by kernel_rfl) (by kernel_rfl) ?_
    refine oOp (.d (.bool x59)) (by kernel_rfl) (by kernel_rfl) (PureV.does (p_move (by kernel_rfl))) ?_
    refine bMeet 4 rfl ((fun (x60 : Bool) => [(3, .ptr 0 0), (4, .ptr 1 0), (5, .ptr 2 0), (45, .d (.bool x60))])) ((fun (x60 : Bool) => [.box [.d (.lit (List.map e_i64 t)), .d (.int .i64 x91)], .box [.d (.lit (List.map e_SPoint r1119))], .box [.d (.lit (List.map e_SPoint r129))]])) (fun s => s) (fun x60 => ?_) (fun hj76 => ?_)
    ·refine oView (T' := [(3, .ptr 0 0), (4, .ptr 1 0), (5, .ptr 2 0), (45, .d (.bool x60))]) (H' := [.box [.d (.lit (List.map e_i64 t)), .d (.int .i64 x91)], .box [.d (.lit (List.map e_SPoint r1119))], .box [.d (.lit (List.map e_SPoint r129))]]) (by kernel_rfl) (by kernel_rfl) ?_
     refine oEnd ?_
     refine bSplit 45 (by kernel_rfl) (fun hc => ?_) (fun hc => ?_)
     ·refine oCondT (by kernel_rfl) ?_
      refine oSeq ?_
      refine oRegion rfl ?_
      refine oOp (.d (.bool false)) (by kernel_rfl) (by kernel_rfl) (PureV.does (p_assign (by kernel_rfl))) ?_
      refine oEnd ?_
      exact oRet (r0 := false) (rv := .d (.bool false)) (B := []) (vs := [.d (.bool false)]) (σ := []) (by kernel_rfl) Try.func3 rfl (.cons _ _ _ _ (.tmp 2 _ (by kernel_rfl)) .nil) (by kernel_rfl) (by kernel_rfl) (by kernel_rfl) (by kernel_rfl) (by decide) (by kernel_rfl) (by kernel_rfl)
     ·refine oCondF (by kernel_rfl) ?_
      refine oSkip ?_
      refine oSeq ?_
      refine oSeq ?_
      refine oRegion rfl ?_
      refine oOp (.ptr 1 0) (by kernel_rfl) (by kernel_rfl) (PureV.does (k_fieldAddr 1 0 (by kernel_rfl) Try.underlying29 rfl ty27 (by kernel_rfl))) ?_
      refine oOp (.d (.lit (List.map e_SPoint r1119))) (by kernel_rfl) (by kernel_rfl) (Quiet.does (k_load 1 0 (by kernel_rfl) Try.underlying27 (by kernel_rfl) (by kernel_rfl))) ?_
      refine oOp (.d (.int .i64 ((List.length r1119) : Int))) (by kernel_rfl) (by kernel_rfl) (PureV.does (k_lenLit (enc := e_SPoint) r1119 (by kernel_rfl) Try.underlying27)) ?_
      refine oOp (.d (.int .i64 0)) (by kernel_rfl) (by kernel_rfl) (PureV.does (p_move (by kernel_rfl))) ?_
      refine oEnd ?_
      refine bJoin ((u0 ([(3, .ptr 0 0), (4, .ptr 1 0), (5, .ptr 2 0)]))) ((u0 ([.box [.d (.lit (List.map e_i64 t)), .d (.int .i64 x91)], .box [.d (.lit (List.map e_SPoint r1119))], .box [.d (.lit (List.map e_SPoint r129))]]))) Sum.inl (fun s => ?_) (fun hj23 => ?_)
      ·cases s
       refine bInl ?_
       refine bU0 ?_
       refine oView (T' := [(3, .ptr 0 0), (4, .ptr 1 0), (5, .ptr 2 0)]) (H' := [.box [.d (.lit (List.map e_i64 t)), .d (.int .i64 x91)], .box [.d (.lit (List.map e_SPoint r1119))], .box [.d (.lit (List.map e_SPoint r129))]]) (by kernel_rfl) (by kernel_rfl) ?_
       refine oSeq ?_
       refine oSeq ?_
       refine oRegion rfl ?_
       refine oOp (.d (.int .i64 0)) (by kernel_rfl) (by kernel_rfl) (PureV.does (p_assign (by kernel_rfl))) ?_
       refine oEnd ?_
       refine bJoin ((u0 ([]))) ((u0 ([]))) Sum.inl (fun s => ?_) (fun hj44 => ?_)
       ·cases s
        refine bInl ?_
        refine bU0 ?_
        refine oView (T' := []) (H' := []) (by kernel_rfl) (by kernel_rfl) ?_
        refine oSeq ?_
        refine oRegion rfl ?_
        refine bCall (caps := []) (v := (fun (r130 : Bool) => (.d (.bool r130) : V))) (H' := (fun (r130 : Bool) => ([] : List Blk))) [] _ (law33_sane_goes k ) (by kernel_rfl) (by kernel_rfl) rfl (by kernel_rfl) Try.func7 rfl (by kernel_rfl) (ConvRs.refl _ _) (by kernel_rfl) (by kernel_rfl) (by kernel_rfl) (by decide) (by kernel_rfl) (by kernel_rfl) (fun _ => (by kernel_rfl)) (fun _ => (by kernel_rfl)) (fun _ => (by kernel_rfl)) (fun r130 => ?_)
        refine oOp (.d (.bool r130)) (by kernel_rfl) (by kernel_rfl) (PureV.does (p_assign (by kernel_rfl))) ?_
        refine oEnd ?_
        exact oRet (r0 := r130) (rv := .d (.bool r130)) (B := []) (vs := [.d (.bool r130)]) (σ := []) (by kernel_rfl) Try.func3 rfl (.cons _ _ _ _ (.tmp 2 _ (by kernel_rfl)) .nil) (by kernel_rfl) (by kernel_rfl) (by kernel_rfl) (by kernel_rfl) (by decide) (by kernel_rfl) (by kernel_rfl)
       ·refine oBlock ?_
        refine oLoop ?_
        refine oHead [3, 4, 5, 11] [0, 1, 2] (T' := [(3, .ptr 0 0), (4, .ptr 1 0), (5, .ptr 2 0), (11, .d (.int .i64 0))]) (H' := [.box [.d (.lit (List.map e_i64 t)), .d (.int .i64 x91)], .box [.d (.lit (List.map e_SPoint r1119))], .box [.d (.lit (List.map e_SPoint r129))]]) (by kernel_rfl) (by kernel_rfl) (by kernel_rfl) (by kernel_rfl) (by decide) (by kernel_rfl) (by kernel_rfl) ?_
        refine bLoop (body := law33_ConversionRises_b1 k t r1119 r129) ((uc fun (i4 : Int) => (fun (x130 : Int) => [(3, .ptr 0 0), (4, .ptr 1 0), (5, .ptr 2 0), (11, .d (.int .i64 i4))]))) ((uc fun (i4 : Int) => (fun (x130 : Int) => [.box [.d (.lit (List.map e_i64 t)), .d (.int .i64 x130)], .box [.d (.lit (List.map e_SPoint r1119))], .box [.d (.lit (List.map e_SPoint r129))]]))) (fun again hag1 s => ?_) k (0, x91)
        ·unfold law33_ConversionRises_b1
         obtain ⟨i4, x130⟩ := s
         refine bUc ?_
         refine oView (T' := [(3, .ptr 0 0), (4, .ptr 1 0), (5, .ptr 2 0), (11, .d (.int .i64 i4))]) (H' := [.box [.d (.lit (List.map e_i64 t)), .d (.int .i64 x130)], .box [.d (.lit (List.map e_SPoint r1119))], .box [.d (.lit (List.map e_SPoint r129))]]) (by kernel_rfl) (by kernel_rfl) ?_
         refine oSeq ?_
         refine oSeq ?_
         refine oRegion rfl ?_
         refine oOp (.d (.int .i64 i4)) (by kernel_rfl) (by kernel_rfl) (PureV.does (p_move (by kernel_rfl))) ?_
         refine oOp (.d (.bool (decide (i4 < 5)))) (by kernel_rfl) (by kernel_rfl) (PureV.does (p_int (k := .i64) (p := i4) (q := 5) (by kernel_rfl) (by kernel_rfl) (by kernel_rfl))) ?_
         refine oEnd ?_
         refine bSplit 70 (by kernel_rfl) (fun hc => ?_) (fun hc => ?_)
         ·refine oCondT (by kernel_rfl) ?_
          refine oSkip ?_
          refine oSeq ?_
          refine oBlock ?_
          refine oSeq ?_
          refine oRegion rfl ?_
          refine oOp (.ptr 0 0) (by kernel_rfl) (by kernel_rfl) (PureV.does (p_move (by kernel_rfl))) ?_
          refine bCall (caps := []) (v := (uc fun (r1228 : Int) => (uc fun (r1375 : Int) => (fun (x428 : Int) => (.agg [.d (.int .i64 r1228), .d (.int .i64 r1375)] : V))))) (H' := (uc fun (r1228 : Int) => (uc fun (r1375 : Int) => (fun (x428 : Int) => ([.box [.d (.lit (List.map e_i64 t)), .d (.int .i64 x428)], .box [.d (.lit (List.map e_SPoint r1119))], .box [.d (.lit (List.map e_SPoint r129))]] : List Blk))))) [0] _ (mark_Dice_Ratio_goes k t x130) (by kernel_rfl) (by kernel_rfl) rfl (by kernel_rfl) Try.func14 rfl (by kernel_rfl) (ConvRs.refl _ _) (by kernel_rfl) (by kernel_rfl) (by kernel_rfl) (by decide) (by kernel_rfl) (by kernel_rfl) (fun _ => (by kernel_rfl)) (fun _ => (by kernel_rfl)) (fun _ => (by kernel_rfl)) (fun r => ?_)
          obtain ⟨r1228, r1375, x428⟩ := r
          refine bUc ?_
          refine bUc ?_
          refine oOp (.ptr 0 0) (by kernel_rfl) (by kernel_rfl) (PureV.does (p_move (by kernel_rfl))) ?_
          refine bCall (caps := []) (v := (uc fun (r1229 : Int) => (uc fun (r1376 : Int) => (fun (x429 : Int) => (.agg [.d (.int .i64 r1229), .d (.int .i64 r1376)] : V))))) (H' := (uc fun (r1229 : Int) => (uc fun (r1376 : Int) => (fun (x429 : Int) => ([.box [.d (.lit (List.map e_i64 t)), .d (.int .i64 x429)], .box [.d (.lit (List.map e_SPoint r1119))], .box [.d (.lit (List.map e_SPoint r129))]] : List Blk))))) [0] _ (mark_Dice_Ratio_goes k t x428) (by kernel_rfl) (by kernel_rfl) rfl (by kernel_rfl) Try.func14 rfl (by kernel_rfl) (ConvRs.refl _ _) (by kernel_rfl) (by kernel_rfl) (by kernel_rfl) (by decide) (by kernel_rfl) (by kernel_rfl) (fun _ => (by kernel_rfl)) (fun _ => (by kernel_rfl)) (fun _ => (by kernel_rfl)) (fun r => ?_)
          obtain ⟨r1229, r1376, x429⟩ := r
          refine bUc ?_
          refine bUc ?_
          refine oOp (.ptr 3 0) (by kernel_rfl) (by kernel_rfl) (k_alloc (H' := [.box [.d (.lit (List.map e_i64 t)), .d (.int .i64 x429)], .box [.d (.lit (List.map e_SPoint r1119))], .box [.d (.lit (List.map e_SPoint r129))], .box [.d (.int .i64 0), .d (.int .i64 0)]]) ty37 (by kernel_rfl) (by kernel_rfl)) ?_
          refine oOp (.ptr 4 0) (by kernel_rfl) (by kernel_rfl) (k_alloc (H' := [.box [.d (.lit (List.map e_i64 t)), .d (.int .i64 x429)], .box [.d (.lit (List.map e_SPoint r1119))], .box [.d (.lit (List.map e_SPoint r129))], .box [.d (.int .i64 0), .d (.int .i64 0)], .box [.d (.int .i64 0), .d (.int .i64 0)]]) ty37 (by kernel_rfl) (by kernel_rfl)) ?_
          refine oOp (.undef) (by kernel_rfl) (by kernel_rfl) (k_store (vs := [.d (.int .i64 r1228), .d (.int .i64 r1375)]) (H' := [.box [.d (.lit (List.map e_i64 t)), .d (.int .i64 x429)], .box [.d (.lit (List.map e_SPoint r1119))], .box [.d (.lit (List.map e_SPoint r129))], .box [.d (.int .i64 r1228), .d (.int .i64 r1375)], .box [.d (.int .i64 0), .d (.int .i64 0)]]) 3 0 (by kernel_rfl) ty37 (by kernel_rfl) (by kernel_rfl) (by kernel_rfl)) ?_
          refine oOp (.undef) (by kernel_rfl) (by kernel_rfl) (k_store (vs := [.d (.int .i64 r1229), .d (.int .i64 r1376)]) (H' := [.box [.d (.lit (List.map e_i64 t)), .d (.int .i64 x429)], .box [.d (.lit (List.map e_SPoint r1119))], .box [.d (.lit (List.map e_SPoint r129))], .box [.d (.int .i64 r1228), .d (.int .i64 r1375)], .box [.d (.int .i64 r1229), .d (.int .i64 r1376)]]) 4 0 (by kernel_rfl) ty37 (by kernel_rfl) (by kernel_rfl) (by kernel_rfl)) ?_
          refine oEnd ?_
          refine oSeq ?_
          refine oRegion rfl ?_
          refine oOp (.agg [.d (.lit (List.map e_SPoint r1119))]) (by kernel_rfl) (by kernel_rfl) (Quiet.does (k_loadAgg 1 0 (by kernel_rfl) Try.underlying29 (by kernel_rfl) ty29 (by kernel_rfl))) ?_
          refine oOp (.agg [.d (.int .i64 r1228), .d (.int .i64 r1375)]) (by kernel_rfl) (by kernel_rfl) (Quiet.does (k_loadAgg 3 0 (by kernel_rfl) Try.underlying37 (by kernel_rfl) ty37 (by kernel_rfl))) ?_
          refine bCall (caps := []) (v := (uc fun (r1152 : Int) => (uc fun (r1377 : Int) => (fun (r1448 : Int) => (.tuple [.agg [.d (.int .i64 r1152), .d (.int .i64 r1377)], .d (.int .i64 r1448)] : V))))) (H' := (uc fun (r1152 : Int) => (uc fun (r1377 : Int) => (fun (r1448 : Int) => ([.box [.d (.lit (List.map e_i64 t)), .d (.int .i64 x429)], .box [.d (.lit (List.map e_SPoint r1119))], .box [.d (.lit (List.map e_SPoint r129))], .box [.d (.int .i64 r1228), .d (.int .i64 r1375)], .box [.d (.int .i64 r1229), .d (.int .i64 r1376)]] : List Blk))))) [] _ (conversion_Eval_2_goes k r1119 r1228 r1375) (by kernel_rfl) (by kernel_rfl) rfl (by kernel_rfl) Try.func13 rfl (by kernel_rfl) (ConvRs.refl _ _) (by kernel_rfl) (by kernel_rfl) (by kernel_rfl) (by decide) (by kernel_rfl) (by kernel_rfl) (fun _ => (by kernel_rfl)) (fun _ => (by kernel_rfl)) (fun _ => (by kernel_rfl)) (fun r => ?_)
          obtain ⟨r1152, r1377, r1448⟩ := r
          refine bUc ?_
          refine bUc ?_
          refine oOp (.tuple [.agg [.d (.int .i64 r1152), .d (.int .i64 r1377)], .d (.int .i64 r1448)]) (by kernel_rfl) (by kernel_rfl) (PureV.does (p_move (by kernel_rfl))) ?_
          refine oOp (.agg [.d (.int .i64 r1152), .d (.int .i64 r1377)]) (by kernel_rfl) (by kernel_rfl) (PureV.does (k_extract (by kernel_rfl))) ?_
          refine oOp (.d (.int .i64 r1448)) (by kernel_rfl) (by kernel_rfl) (PureV.does (k_extract (by kernel_rfl))) ?_
          refine oOp (.ptr 5 0) (by kernel_rfl) (by kernel_rfl) (k_alloc (H' := [.box [.d (.lit (List.map e_i64 t)), .d (.int .i64 x429)], .box [.d (.lit (List.map e_SPoint r1119))], .box [.d (.lit (List.map e_SPoint r129))], .box [.d (.int .i64 r1228), .d (.int .i64 r1375)], .box [.d (.int .i64 r1229), .d (.int .i64 r1376)], .box [.d (.int .i64 0), .d (.int .i64 0)]]) ty37 (by kernel_rfl) (by kernel_rfl)) ?_
          refine oOp (.undef) (by kernel_rfl) (by kernel_rfl) (k_store (vs := [.d (.int .i64 r1152), .d (.int .i64 r1377)]) (H' := [.box [.d (.lit (List.map e_i64 t)), .d (.int .i64 x429)], .box [.d (.lit (List.map e_SPoint r1119))], .box [.d (.lit (List.map e_SPoint r129))], .box [.d (.int .i64 r1228), .d (.int .i64 r1375)], .box [.d (.int .i64 r1229), .d (.int .i64 r1376)], .box [.d (.int .i64 r1152), .d (.int .i64 r1377)]]) 5 0 (by kernel_rfl) ty37 (by kernel_rfl) (by kernel_rfl) (by kernel_rfl)) ?_
          refine oOp (.d (.int .i64 r1448)) (by kernel_rfl) (by kernel_rfl) (PureV.does (p_assign (by kernel_rfl))) ?_
          refine oEnd ?_
          refine oSeq ?_
          refine oRegion rfl ?_
          refine oOp (.agg [.d (.lit (List.map e_SPoint r1119))]) (by kernel_rfl) (by kernel_rfl) (Quiet.does (k_loadAgg 1 0 (by kernel_rfl) Try.underlying29 (by kernel_rfl) ty29 (by kernel_rfl))) ?_
          refine oOp (.agg [.d (.int .i64 r1229), .d (.int .i64 r1376)]) (by kernel_rfl) (by kernel_rfl) (Quiet.does (k_loadAgg 4 0 (by kernel_rfl) Try.underlying37 (by kernel_rfl) ty37 (by kernel_rfl))) ?_
          refine bCall (caps := []) (v := (uc fun (r1153 : Int) => (uc fun (r1378 : Int) => (fun (r1449 : Int) => (.tuple [.agg [.d (.int .i64 r1153), .d (.int .i64 r1378)], .d (.int .i64 r1449)] : V))))) (H' := (uc fun (r1153 : Int) => (uc fun (r1378 : Int) => (fun (r1449 : Int) => ([.box [.d (.lit (List.map e_i64 t)), .d (.int .i64 x429)], .box [.d (.lit (List.map e_SPoint r1119))], .box [.d (.lit (List.map e_SPoint r129))], .box [.d (.int .i64 r1228), .d (.int .i64 r1375)], .box [.d (.int .i64 r1229), .d (.int .i64 r1376)], .box [.d (.int .i64 r1152), .d (.int .i64 r1377)]] : List Blk))))) [] _ (conversion_Eval_2_goes k r1119 r1229 r1376) (by kernel_rfl) (by kernel_rfl) rfl (by kernel_rfl) Try.func13 rfl (by kernel_rfl) (ConvRs.refl _ _) (by kernel_rfl) (by kernel_rfl) (by kernel_rfl) (by decide) (by kernel_rfl) (by kernel_rfl) (fun _ => (by kernel_rfl)) (fun _ => (by kernel_rfl)) (fun _ => (by kernel_rfl)) (fun r => ?_)
          obtain ⟨r1153, r1378, r1449⟩ := r
          refine bUc ?_
          refine bUc ?_
          refine oOp (.tuple [.agg [.d (.int .i64 r1153), .d (.int .i64 r1378)], .d (.int .i64 r1449)]) (by kernel_rfl) (by kernel_rfl) (PureV.does (p_move (by kernel_rfl))) ?_
          refine oOp (.agg [.d (.int .i64 r1153), .d (.int .i64 r1378)]) (by kernel_rfl) (by kernel_rfl) (PureV.does (k_extract (by kernel_rfl))) ?_
          refine oOp (.d (.int .i64 r1449)) (by kernel_rfl) (by kernel_rfl) (PureV.does (k_extract (by kernel_rfl))) ?_
          refine oOp (.ptr 6 0) (by kernel_rfl) (by kernel_rfl) (k_alloc (H' := [.box [.d (.lit (List.map e_i64 t)), .d (.int .i64 x429)], .box [.d (.lit (List.map e_SPoint r1119))], .box [.d (.lit (List.map e_SPoint r129))], .box [.d (.int .i64 r1228), .d (.int .i64 r1375)], .box [.d (.int .i64 r1229), .d (.int .i64 r1376)], .box [.d (.int .i64 r1152), .d (.int .i64 r1377)], .box [.d (.int .i64 0), .d (.int .i64 0)]]) ty37 (by kernel_rfl) (by kernel_rfl)) ?_
          refine oOp (.undef) (by kernel_rfl) (by kernel_rfl) (k_store (vs := [.d (.int .i64 r1153), .d (.int .i64 r1378)]) (H' := [.box [.d (.lit (List.map e_i64 t)), .d (.int .i64 x429)], .box [.d (.lit (List.map e_SPoint r1119))], .box [.d (.lit (List.map e_SPoint r129))], .box [.d (.int .i64 r1228), .d (.int .i64 r1375)], .box [.d (.int .i64 r1229), .d (.int .i64 r1376)], .box [.d (.int .i64 r1152), .d (.int .i64 r1377)], .box [.d (.int .i64 r1153), .d (.int .i64 r1378)]]) 6 0 (by kernel_rfl) ty37 (by kernel_rfl) (by kernel_rfl) (by kernel_rfl)) ?_
          refine oOp (.d (.int .i64 r1449)) (by kernel_rfl) (by kernel_rfl) (PureV.does (p_assign (by kernel_rfl))) ?_
          refine oEnd ?_
          refine oSeq ?_
          refine oRegion rfl ?_
          refine oOp (.agg [.d (.lit (List.map e_SPoint r129))]) (by kernel_rfl) (by kernel_rfl) (Quiet.does (k_loadAgg 2 0 (by kernel_rfl) Try.underlying29 (by kernel_rfl) ty29 (by kernel_rfl))) ?_
          refine oOp (.agg [.d (.int .i64 r1228), .d (.int .i64 r1375)]) (by kernel_rfl) (by kernel_rfl) (Quiet.does (k_loadAgg 3 0 (by kernel_rfl) Try.underlying37 (by kernel_rfl) ty37 (by kernel_rfl))) ?_
          refine bCall (caps := []) (v := (uc fun (r1154 : Int) => (uc fun (r1379 : Int) => (fun (r1450 : Int) => (.tuple [.agg [.d (.int .i64 r1154), .d (.int .i64 r1379)], .d (.int .i64 r1450)] : V))))) (H' := (uc fun (r1154 : Int) => (uc fun (r1379 : Int) => (fun (r1450 : Int) => ([.box [.d (.lit (List.map e_i64 t)), .d (.int .i64 x429)], .box [.d (.lit (List.map e_SPoint r1119))], .box [.d (.lit (List.map e_SPoint r129))], .box [.d (.int .i64 r1228), .d (.int .i64 r1375)], .box [.d (.int .i64 r1229), .d (.int .i64 r1376)], .box [.d (.int .i64 r1152), .d (.int .i64 r1377)], .box [.d (.int .i64 r1153), .d (.int .i64 r1378)]] : List Blk))))) [] _ (conversion_Eval_2_goes k r129 r1228 r1375) (by kernel_rfl) (by kernel_rfl) rfl (by kernel_rfl) Try.func13 rfl (by kernel_rfl) (ConvRs.refl _ _) (by kernel_rfl) (by kernel_rfl) (by kernel_rfl) (by decide) (by kernel_rfl) (by kernel_rfl) (fun _ => (by kernel_rfl)) (fun _ => (by kernel_rfl)) (fun _ => (by kernel_rfl)) (fun r => ?_)
          obtain ⟨r1154, r1379, r1450⟩ := r
          refine bUc ?_
          refine bUc ?_
          refine oOp (.tuple [.agg [.d (.int .i64 r1154), .d (.int .i64 r1379)], .d (.int .i64 r1450)]) (by kernel_rfl) (by kernel_rfl) (PureV.does (p_move (by kernel_rfl))) ?_
          refine oOp (.agg [.d (.int .i64 r1154), .d (.int .i64 r1379)]) (by kernel_rfl) (by kernel_rfl) (PureV.does (k_extract (by kernel_rfl))) ?_
          refine oOp (.d (.int .i64 r1450)) (by kernel_rfl) (by kernel_rfl) (PureV.does (k_extract (by kernel_rfl))) ?_
          refine oOp (.ptr 7 0) (by kernel_rfl) (by kernel_rfl) (k_alloc (H' := [.box [.d (.lit (List.map e_i64 t)), .d (.int .i64 x429)], .box [.d (.lit (List.map e_SPoint r1119))], .box [.d (.lit (List.map e_SPoint r129))], .box [.d (.int .i64 r1228), .d (.int .i64 r1375)], .box [.d (.int .i64 r1229), .d (.int .i64 r1376)], .box [.d (.int .i64 r1152), .d (.int .i64 r1377)], .box [.d (.int .i64 r1153), .d (.int .i64 r1378)], .box [.d (.int .i64 0), .d (.int .i64 0)]]) ty37 (by kernel_rfl) (by kernel_rfl)) ?_
          refine oOp (.undef) (by kernel_rfl) (by kernel_rfl) (k_store (vs := [.d (.int .i64 r1154), .d (.int .i64 r1379)]) (H' := [.box [.d (.lit (List.map e_i64 t)), .d (.int .i64 x429)], .box [.d (.lit (List.map e_SPoint r1119))], .box [.d (.lit (List.map e_SPoint r129))], .box [.d (.int .i64 r1228), .d (.int .i64 r1375)], .box [.d (.int .i64 r1229), .d (.int .i64 r1376)], .box [.d (.int .i64 r1152), .d (.int .i64 r1377)], .box [.d (.int .i64 r1153), .d (.int .i64 r1378)], .box [.d (.int .i64 r1154), .d (.int .i64 r1379)]]) 7 0 (by kernel_rfl) ty37 (by kernel_rfl) (by kernel_rfl) (by kernel_rfl)) ?_
          refine oOp (.d (.int .i64 r1450)) (by kernel_rfl) (by kernel_rfl) (PureV.does (p_assign (by kernel_rfl))) ?_
          refine oEnd ?_
          refine oSeq ?_
          refine oDraw [(0, 33), (1, 33), (2, 33), (3, 33), (4, 33), (5, 33), (6, 33), (7, 33)] rfl ?_
          refine aTakeL (i := 0) (st' := []) (.d (.int .i64 r1448)) rfl (by kernel_rfl) (by kernel_rfl) (by kernel_rfl) (by kernel_rfl) (by kernel_rfl) (by kernel_rfl) (by kernel_rfl) (PureV.quiet (p_move (by kernel_rfl)) []) ?_
          refine aTakeL (i := 1) (st' := []) (.d (.bool (r1448 != 0))) rfl (by kernel_rfl) (by kernel_rfl) (by kernel_rfl) (by kernel_rfl) (by kernel_rfl) (by kernel_rfl) (by kernel_rfl) (PureV.quiet (p_int (k := .i64) (p := r1448) (q := 0) (by kernel_rfl) (by kernel_rfl) (by kernel_rfl)) []) ?_
          refine aTakeL (i := 2) (st' := []) (.d (.bool (r1448 != 0))) rfl (by kernel_rfl) (by kernel_rfl) (by kernel_rfl) (by kernel_rfl) (by kernel_rfl) (by kernel_rfl) (by kernel_rfl) (PureV.quiet (p_move (by kernel_rfl)) []) ?_
          refine dMeetF [5, 4, 3, 2, 1, 0] (fun (x167 : Bool) => [(3, .ptr 0 0), (4, .ptr 1 0), (5, .ptr 2 0), (11, .d (.int .i64 i4)), (12, .ptr 3 0), (13, .ptr 4 0), (14, .ptr 5 0), (16, .ptr 6 0), (18, .ptr 7 0), (19, .d (.int .i64 r1450)), (100, .d (.bool x167))]) (fun (x167 : Bool) => [(3, .ptr 0 0), (4, .ptr 1 0), (5, .ptr 2 0), (11, .d (.int .i64 i4)), (12, .ptr 3 0), (13, .ptr 4 0), (14, .ptr 5 0), (16, .ptr 6 0), (18, .ptr 7 0), (19, .d (.int .i64 r1450)), (100, .d (.bool x167))]) (H' := [.box [.d (.lit (List.map e_i64 t)), .d (.int .i64 x429)], .box [.d (.lit (List.map e_SPoint r1119))], .box [.d (.lit (List.map e_SPoint r129))], .box [.d (.int .i64 r1228), .d (.int .i64 r1375)], .box [.d (.int .i64 r1229), .d (.int .i64 r1376)], .box [.d (.int .i64 r1152), .d (.int .i64 r1377)], .box [.d (.int .i64 r1153), .d (.int .i64 r1378)], .box [.d (.int .i64 r1154), .d (.int .i64 r1379)]]) (fun x167 => ?_) (fun F hj70 => ?_)
          ·refine aTakeL (i := 6) (st' := []) (.d (.bool x167)) rfl (by kernel_rfl) (by kernel_rfl) (by kernel_rfl) (by kernel_rfl) (by kernel_rfl) (by kernel_rfl) (by kernel_rfl) (PureV.quiet (p_move (by kernel_rfl)) []) ?_
           refine dMeetF [9, 8, 7, 6, 5, 4, 3, 2, 1, 0] (fun (x168 : Bool) => [(3, .ptr 0 0), (4, .ptr 1 0), (5, .ptr 2 0), (11, .d (.int .i64 i4)), (12, .ptr 3 0), (13, .ptr 4 0), (14, .ptr 5 0), (16, .ptr 6 0), (18, .ptr 7 0), (104, .d (.bool x168))]) (fun (x168 : Bool) => [(3, .ptr 0 0), (4, .ptr 1 0), (5, .ptr 2 0), (11, .d (.int .i64 i4)), (12, .ptr 3 0), (13, .ptr 4 0), (14, .ptr 5 0), (16, .ptr 6 0), (18, .ptr 7 0), (104, .d (.bool x168))]) (H' := [.box [.d (.lit (List.map e_i64 t)), .d (.int .i64 x429)], .box [.d (.lit (List.map e_SPoint r1119))], .box [.d (.lit (List.map e_SPoint r129))], .box [.d (.int .i64 r1228), .d (.int .i64 r1375)], .box [.d (.int .i64 r1229), .d (.int .i64 r1376)], .box [.d (.int .i64 r1152), .d (.int .i64 r1377)], .box [.d (.int .i64 r1153), .d (.int .i64 r1378)], .box [.d (.int .i64 r1154), .d (.int .i64 r1379)]]) (fun x168 => ?_) (fun F hj71 => ?_)
           ·refine aTakeL (i := 10) (st' := []) (.d (.bool x168)) rfl (by kernel_rfl) (by kernel_rfl) (by kernel_rfl) (by kernel_rfl) (by kernel_rfl) (by kernel_rfl) (by kernel_rfl) (PureV.quiet (p_move (by kernel_rfl)) []) ?_
            refine dMeetF [14, 13, 12, 11, 10, 9, 8, 7, 6, 5, 4, 3, 2, 1, 0] (fun (x169 : Bool) => [(3, .ptr 0 0), (4, .ptr 1 0), (5, .ptr 2 0), (11, .d (.int .i64 i4)), (12, .ptr 3 0), (13, .ptr 4 0), (14, .ptr 5 0), (16, .ptr 6 0), (109, .d (.bool x169))]) (fun (x169 : Bool) => [(3, .ptr 0 0), (4, .ptr 1 0), (5, .ptr 2 0), (11, .d (.int .i64 i4)), (12, .ptr 3 0), (13, .ptr 4 0), (14, .ptr 5 0), (16, .ptr 6 0), (109, .d (.bool x169))]) (H' := [.box [.d (.lit (List.map e_i64 t)), .d (.int .i64 x429)], .box [.d (.lit (List.map e_SPoint r1119))], .box [.d (.lit (List.map e_SPoint r129))], .box [.d (.int .i64 r1228), .d (.int .i64 r1375)], .box [.d (.int .i64 r1229), .d (.int .i64 r1376)], .box [.d (.int .i64 r1152), .d (.int .i64 r1377)], .box [.d (.int .i64 r1153), .d (.int .i64 r1378)], .box [.d (.int .i64 r1154), .d (.int .i64 r1379)]]) (fun x169 => ?_) (fun F hj72 => ?_)
            ·refine aTakeL (i := 15) (st' := []) (.d (.bool x169)) rfl (by kernel_rfl) (by kernel_rfl) (by kernel_rfl) (by kernel_rfl) (by kernel_rfl) (by kernel_rfl) (by kernel_rfl) (PureV.quiet (p_move (by kernel_rfl)) []) ?_
             refine dMeet [23, 22, 21, 20, 19, 18, 17, 16, 15, 14, 13, 12, 11, 10, 9, 8, 7, 6, 5, 4, 3, 2, 1, 0] (fun (x170 : Bool) => [(3, .ptr 0 0), (4, .ptr 1 0), (5, .ptr 2 0), (11, .d (.int .i64 i4)), (12, .ptr 3 0), (13, .ptr 4 0), (14, .ptr 5 0), (16, .ptr 6 0), (118, .d (.bool x170))]) (fun (x170 : Bool) => [(3, .ptr 0 0), (4, .ptr 1 0), (5, .ptr 2 0), (11, .d (.int .i64 i4)), (12, .ptr 3 0), (13, .ptr 4 0), (14, .ptr 5 0), (16, .ptr 6 0), (118, .d (.bool x170))]) (fun _ => [.box [.d (.lit (List.map e_i64 t)), .d (.int .i64 x429)], .box [.d (.lit (List.map e_SPoint r1119))], .box [.d (.lit (List.map e_SPoint r129))], .box [.d (.int .i64 r1228), .d (.int .i64 r1375)], .box [.d (.int .i64 r1229), .d (.int .i64 r1376)], .box [.d (.int .i64 r1152), .d (.int .i64 r1377)], .box [.d (.int .i64 r1153), .d (.int .i64 r1378)], .box [.d (.int .i64 r1154), .d (.int .i64 r1379)]]) (fun s => s) (fun x170 => ?_) (fun hj73 => ?_)
             ·refine aTakeL (i := 24) (st' := []) (.d (.bool x170)) rfl (by kernel_rfl) (by kernel_rfl) (by kernel_rfl) (by kernel_rfl) (by kernel_rfl) (by kernel_rfl) (by kernel_rfl) (PureV.quiet (p_move (by kernel_rfl)) []) ?_
              refine dMeetF [32, 31, 30, 29, 28, 27, 26, 25, 24, 23, 22, 21, 20, 19, 18, 17, 16, 15, 14, 13, 12, 11, 10, 9, 8, 7, 6, 5, 4, 3, 2, 1, 0] (fun (x171 : Bool) => [(3, .ptr 0 0), (4, .ptr 1 0), (5, .ptr 2 0), (11, .d (.int .i64 i4)), (127, .d (.bool x171))]) (fun (x171 : Bool) => [(3, .ptr 0 0), (4, .ptr 1 0), (5, .ptr 2 0), (11, .d (.int .i64 i4)), (127, .d (.bool x171))]) (H' := [.box [.d (.lit (List.map e_i64 t)), .d (.int .i64 x429)], .box [.d (.lit (List.map e_SPoint r1119))], .box [.d (.lit (List.map e_SPoint r129))], .box [.d (.int .i64 r1228), .d (.int .i64 r1375)], .box [.d (.int .i64 r1229), .d (.int .i64 r1376)], .box [.d (.int .i64 r1152), .d (.int .i64 r1377)], .box [.d (.int .i64 r1153), .d (.int .i64 r1378)], .box [.d (.int .i64 r1154), .d (.int .i64 r1379)]]) (fun x171 => ?_) (fun F hj74 => ?_)
              ·refine aDone (by kernel_rfl) ?_
               refine bSplit 127 (by kernel_rfl) (fun hc => ?_) (fun hc => ?_)
               ·refine oCondT (by kernel_rfl) ?_
                refine oSeq ?_
                refine oRegion rfl ?_
                refine oOp (.d (.bool false)) (by kernel_rfl) (by kernel_rfl) (PureV.does (p_assign (by kernel_rfl))) ?_
                refine oEnd ?_
                exact oRet (r0 := false) (rv := .d (.bool false)) (B := []) (vs := [.d (.bool false)]) (σ := []) (by kernel_rfl) Try.func3 rfl (.cons _ _ _ _ (.tmp 2 _ (by kernel_rfl)) .nil) (by kernel_rfl) (by kernel_rfl) (by kernel_rfl) (by kernel_rfl) (by decide) (by kernel_rfl) (by kernel_rfl)
               ·refine oCondF (by kernel_rfl) ?_
                refine oSkip ?_
                refine oBlk ?_
                refine oRegion rfl ?_
                refine oOp (.d (.int .i64 i4)) (by kernel_rfl) (by kernel_rfl) (PureV.does (p_move (by kernel_rfl))) ?_
                refine oOp (.d (.int .i64 (IntKind.wrap .i64 (i4 + 1)))) (by kernel_rfl) (by kernel_rfl) (PureV.does (p_int (k := .i64) (p := i4) (q := 1) (by kernel_rfl) (by kernel_rfl) (by kernel_rfl))) ?_
                refine oOp (.d (.int .i64 (IntKind.wrap .i64 (i4 + 1)))) (by kernel_rfl) (by kernel_rfl) (PureV.does (p_assign (by kernel_rfl))) ?_
                refine oEnd ?_
                refine oAgain ?_
                refine oHead [3, 4, 5, 11] [0, 1, 2] (T' := [(3, .ptr 0 0), (4, .ptr 1 0), (5, .ptr 2 0), (11, .d (.int .i64 (IntKind.wrap .i64 (i4 + 1))))]) (H' := [.box [.d (.lit (List.map e_i64 t)), .d (.int .i64 x429)], .box [.d (.lit (List.map e_SPoint r1119))], .box [.d (.lit (List.map e_SPoint r129))]]) (by kernel_rfl) (by kernel_rfl) (by kernel_rfl) (by kernel_rfl) (by decide) (by kernel_rfl) (by kernel_rfl) ?_
                exact hag1 ((IntKind.wrap .i64 (i4 + 1)), x429)
              ·refine dPickF 119 (fun c => F (c || (!(((r1228 == r1229) && ((r1375 == r1376) && true)) == ((r1152 == r1153) && ((r1377 == r1378) && true)))))) (by kernel_rfl) (by kernel_rfl) (fun hc => ?_) (fun hc => ?_)
               ·refine aTakeNot (i := 25) rfl (by kernel_rfl) (by kernel_rfl) (by kernel_rfl) (by kernel_rfl) (by kernel_rfl) (by kernel_rfl) (by kernel_rfl) ?_
                refine aTakeNot (i := 26) rfl (by kernel_rfl) (by kernel_rfl) (by kernel_rfl) (by kernel_rfl) (by kernel_rfl) (by kernel_rfl) (by kernel_rfl) ?_
                refine aTakeNot (i := 27) rfl (by kernel_rfl) (by kernel_rfl) (by kernel_rfl) (by kernel_rfl) (by kernel_rfl) (by kernel_rfl) (by kernel_rfl) ?_
                refine aTakeNot (i := 28) rfl (by kernel_rfl) (by kernel_rfl) (by kernel_rfl) (by kernel_rfl) (by kernel_rfl) (by kernel_rfl) (by kernel_rfl) ?_
                refine aTakeNot (i := 29) rfl (by kernel_rfl) (by kernel_rfl) (by kernel_rfl) (by kernel_rfl) (by kernel_rfl) (by kernel_rfl) (by kernel_rfl) ?_
                refine aTakeNot (i := 30) rfl (by kernel_rfl) (by kernel_rfl) (by kernel_rfl) (by kernel_rfl) (by kernel_rfl) (by kernel_rfl) (by kernel_rfl) ?_
                refine aTakeNot (i := 31) rfl (by kernel_rfl) (by kernel_rfl) (by kernel_rfl) (by kernel_rfl) (by kernel_rfl) (by kernel_rfl) (by kernel_rfl) ?_
                refine aTakeL (i := 32) (st' := []) (.d (.bool true)) rfl (by kernel_rfl) (by kernel_rfl) (by kernel_rfl) (by kernel_rfl) (by kernel_rfl) (by kernel_rfl) (by kernel_rfl) (PureV.quiet (p_pick (b := true) (by kernel_rfl) (by kernel_rfl)) []) ?_
                refine dDrop [3, 4, 5, 11, 127] [3, 4, 5, 11, 127] (T' := [(3, .ptr 0 0), (4, .ptr 1 0), (5, .ptr 2 0), (11, .d (.int .i64 i4)), (127, .d (.bool true))]) (U' := [(3, .ptr 0 0), (4, .ptr 1 0), (5, .ptr 2 0), (11, .d (.int .i64 i4)), (127, .d (.bool true))]) (by kernel_rfl) (by kernel_rfl) ?_
                exact hj74 true
               ·refine aTakeL (i := 25) (st' := [3]) (.agg [.d (.int .i64 r1228), .d (.int .i64 r1375)]) rfl (by kernel_rfl) (by kernel_rfl) (by kernel_rfl) (by kernel_rfl) (by kernel_rfl) (by kernel_rfl) (by kernel_rfl) (k_loadAgg 3 0 (by kernel_rfl) Try.underlying37 (by kernel_rfl) ty37 (by kernel_rfl)) ?_
                refine aTakeL (i := 26) (st' := [4]) (.agg [.d (.int .i64 r1229), .d (.int .i64 r1376)]) rfl (by kernel_rfl) (by kernel_rfl) (by kernel_rfl) (by kernel_rfl) (by kernel_rfl) (by kernel_rfl) (by kernel_rfl) (k_loadAgg 4 0 (by kernel_rfl) Try.underlying37 (by kernel_rfl) ty37 (by kernel_rfl)) ?_
                refine aTakeL (i := 27) (st' := []) (.d (.bool ((r1228 == r1229) && ((r1375 == r1376) && true)))) rfl (by kernel_rfl) (by kernel_rfl) (by kernel_rfl) (by kernel_rfl) (by kernel_rfl) (by kernel_rfl) (by kernel_rfl) (PureV.quiet (k_eqAgg (by kernel_rfl) (by kernel_rfl) Try.eqGuardType37 (EqV.struct 1 37 [.d (.int .i64 r1228), .d (.int .i64 r1375)] [.d (.int .i64 r1229), .d (.int .i64 r1376)] _ ((r1228 == r1229) && ((r1375 == r1376) && true)) Try.underlying37 Try.stoodInHeld37 (EqF.one 1 1 _ _ _ _ _ _ _ (r1228 == r1229) ((r1375 == r1376) && true) (by kernel_rfl) Try.underlying3 (by kernel_rfl) (by kernel_rfl) (by kernel_rfl) (by kernel_rfl) (EqV.int 3 .i64 .i64 r1228 r1229 Try.underlying3) (EqF.one 1 1 _ _ _ _ _ _ _ (r1375 == r1376) true (by kernel_rfl) Try.underlying3 (by kernel_rfl) (by kernel_rfl) (by kernel_rfl) (by kernel_rfl) (EqV.int 3 .i64 .i64 r1375 r1376 Try.underlying3) (EqF.nil 1 _ _)))) (by kernel_rfl)) []) ?_
                refine aTakeL (i := 28) (st' := [5]) (.agg [.d (.int .i64 r1152), .d (.int .i64 r1377)]) rfl (by kernel_rfl) (by kernel_rfl) (by kernel_rfl) (by kernel_rfl) (by kernel_rfl) (by kernel_rfl) (by kernel_rfl) (k_loadAgg 5 0 (by kernel_rfl) Try.underlying37 (by kernel_rfl) ty37 (by kernel_rfl)) ?_
                refine aTakeL (i := 29) (st' := [6]) (.agg [.d (.int .i64 r1153), .d (.int .i64 r1378)]) rfl (by kernel_rfl) (by kernel_rfl) (by kernel_rfl) (by kernel_rfl) (by kernel_rfl) (by kernel_rfl) (by kernel_rfl) (k_loadAgg 6 0 (by kernel_rfl) Try.underlying37 (by kernel_rfl) ty37 (by kernel_rfl)) ?_
                refine aTakeL (i := 30) (st' := []) (.d (.bool ((r1152 == r1153) && ((r1377 == r1378) && true)))) rfl (by kernel_rfl) (by kernel_rfl) (by kernel_rfl) (by kernel_rfl) (by kernel_rfl) (by kernel_rfl) (by kernel_rfl) (PureV.quiet (k_eqAgg (by kernel_rfl) (by kernel_rfl) Try.eqGuardType37 (EqV.struct 1 37 [.d (.int .i64 r1152), .d (.int .i64 r1377)] [.d (.int .i64 r1153), .d (.int .i64 r1378)] _ ((r1152 == r1153) && ((r1377 == r1378) && true)) Try.underlying37 Try.stoodInHeld37 (EqF.one 1 1 _ _ _ _ _ _ _ (r1152 == r1153) ((r1377 == r1378) && true) (by kernel_rfl) Try.underlying3 (by kernel_rfl) (by kernel_rfl) (by kernel_rfl) (by kernel_rfl) (EqV.int 3 .i64 .i64 r1152 r1153 Try.underlying3) (EqF.one 1 1 _ _ _ _ _ _ _ (r1377 == r1378) true (by kernel_rfl) Try.underlying3 (by kernel_rfl) (by kernel_rfl) (by kernel_rfl) (by kernel_rfl) (EqV.int 3 .i64 .i64 r1377 r1378 Try.underlying3) (EqF.nil 1 _ _)))) (by kernel_rfl)) []) ?_
                refine aTakeL (i := 31) (st' := []) (.d (.bool (!(((r1228 == r1229) && ((r1375 == r1376) && true)) == ((r1152 == r1153) && ((r1377 == r1378) && true)))))) rfl (by kernel_rfl) (by kernel_rfl) (by kernel_rfl) (by kernel_rfl) (by kernel_rfl) (by kernel_rfl) (by kernel_rfl) (PureV.quiet (p_boolNe (p := ((r1228 == r1229) && ((r1375 == r1376) && true))) (q := ((r1152 == r1153) && ((r1377 == r1378) && true))) (by kernel_rfl) (by kernel_rfl) Try.underlying4 (by kernel_rfl)) []) ?_
                refine aTakeL (i := 32) (st' := []) (.d (.bool (!(((r1228 == r1229) && ((r1375 == r1376) && true)) == ((r1152 == r1153) && ((r1377 == r1378) && true)))))) rfl (by kernel_rfl) (by kernel_rfl) (by kernel_rfl) (by kernel_rfl) (by kernel_rfl) (by kernel_rfl) (by kernel_rfl) (PureV.quiet (p_pick (b := false) (by kernel_rfl) (by kernel_rfl)) []) ?_
                refine dDrop [3, 4, 5, 11, 127] [3, 4, 5, 11, 127] (T' := [(3, .ptr 0 0), (4, .ptr 1 0), (5, .ptr 2 0), (11, .d (.int .i64 i4)), (127, .d (.bool (!(((r1228 == r1229) && ((r1375 == r1376) && true)) == ((r1152 == r1153) && ((r1377 == r1378) && true))))))]) (U' := [(3, .ptr 0 0), (4, .ptr 1 0), (5, .ptr 2 0), (11, .d (.int .i64 i4)), (127, .d (.bool (!(((r1228 == r1229) && ((r1375 == r1376) && true)) == ((r1152 == r1153) && ((r1377 == r1378) && true))))))]) (by kernel_rfl) (by kernel_rfl) ?_
                exact hj74 (!(((r1228 == r1229) && ((r1375 == r1376) && true)) == ((r1152 == r1153) && ((r1377 == r1378) && true))))
             ·refine dSplit 110 (by kernel_rfl) (by kernel_rfl) (fun hc => ?_) (fun hc => ?_)
              ·refine aTakeNot (i := 16) rfl (by kernel_rfl) (by kernel_rfl) (by kernel_rfl) (by kernel_rfl) (by kernel_rfl) (by kernel_rfl) (by kernel_rfl) ?_
               refine aTakeNot (i := 17) rfl (by kernel_rfl) (by kernel_rfl) (by kernel_rfl) (by kernel_rfl) (by kernel_rfl) (by kernel_rfl) (by kernel_rfl) ?_
               refine aTakeNot (i := 18) rfl (by kernel_rfl) (by kernel_rfl) (by kernel_rfl) (by kernel_rfl) (by kernel_rfl) (by kernel_rfl) (by kernel_rfl) ?_
               refine aTakeNot (i := 19) rfl (by kernel_rfl) (by kernel_rfl) (by kernel_rfl) (by kernel_rfl) (by kernel_rfl) (by kernel_rfl) (by kernel_rfl) ?_
               refine aTakeNot (i := 20) rfl (by kernel_rfl) (by kernel_rfl) (by kernel_rfl) (by kernel_rfl) (by kernel_rfl) (by kernel_rfl) (by kernel_rfl) ?_
               refine aTakeNot (i := 21) rfl (by kernel_rfl) (by kernel_rfl) (by kernel_rfl) (by kernel_rfl) (by kernel_rfl) (by kernel_rfl) (by kernel_rfl) ?_
               refine aTakeNot (i := 22) rfl (by kernel_rfl) (by kernel_rfl) (by kernel_rfl) (by kernel_rfl) (by kernel_rfl) (by kernel_rfl) (by kernel_rfl) ?_
               refine aTakeL (i := 23) (st' := []) (.d (.bool true)) rfl (by kernel_rfl) (by kernel_rfl) (by kernel_rfl) (by kernel_rfl) (by kernel_rfl) (by kernel_rfl) (by kernel_rfl) (PureV.quiet (p_pick (b := true) (by kernel_rfl) (by kernel_rfl)) []) ?_
               refine dDrop [3, 4, 5, 11, 12, 13, 14, 16, 118] [3, 4, 5, 11, 12, 13, 14, 16, 118] (T' := [(3, .ptr 0 0), (4, .ptr 1 0), (5, .ptr 2 0), (11, .d (.int .i64 i4)), (12, .ptr 3 0), (13, .ptr 4 0), (14, .ptr 5 0), (16, .ptr 6 0), (118, .d (.bool true))]) (U' := [(3, .ptr 0 0), (4, .ptr 1 0), (5, .ptr 2 0), (11, .d (.int .i64 i4)), (12, .ptr 3 0), (13, .ptr 4 0), (14, .ptr 5 0), (16, .ptr 6 0), (118, .d (.bool true))]) (by kernel_rfl) (by kernel_rfl) ?_
               exact hj73 true
              ·refine aTakeL (i := 16) (st' := [3]) (.agg [.d (.int .i64 r1228), .d (.int .i64 r1375)]) rfl (by kernel_rfl) (by kernel_rfl) (by kernel_rfl) (by kernel_rfl) (by kernel_rfl) (by kernel_rfl) (by kernel_rfl) (k_loadAgg 3 0 (by kernel_rfl) Try.underlying37 (by kernel_rfl) ty37 (by kernel_rfl)) ?_
               refine aTakeL (i := 17) (st' := [4]) (.agg [.d (.int .i64 r1229), .d (.int .i64 r1376)]) rfl (by kernel_rfl) (by kernel_rfl) (by kernel_rfl) (by kernel_rfl) (by kernel_rfl) (by kernel_rfl) (by kernel_rfl) (k_loadAgg 4 0 (by kernel_rfl) Try.underlying37 (by kernel_rfl) ty37 (by kernel_rfl)) ?_
               refine aTakeL (i := 19) (st' := [5]) (.agg [.d (.int .i64 r1152), .d (.int .i64 r1377)]) rfl (by kernel_rfl) (by kernel_rfl) (by kernel_rfl) (by kernel_rfl) (by kernel_rfl) (by kernel_rfl) (by kernel_rfl) (k_loadAgg 5 0 (by kernel_rfl) Try.underlying37 (by kernel_rfl) ty37 (by kernel_rfl)) ?_
               refine aTakeL (i := 20) (st' := [6]) (.agg [.d (.int .i64 r1153), .d (.int .i64 r1378)]) rfl (by kernel_rfl) (by kernel_rfl) (by kernel_rfl) (by kernel_rfl) (by kernel_rfl) (by kernel_rfl) (by kernel_rfl) (k_loadAgg 6 0 (by kernel_rfl) Try.underlying37 (by kernel_rfl) ty37 (by kernel_rfl)) ?_
               refine dCall (i := 18) (caps := []) (v := (fun (r15 : Bool) => (.d (.bool r15) : V))) (H' := (fun (r15 : Bool) => ([.box [.d (.lit (List.map e_i64 t)), .d (.int .i64 x429)], .box [.d (.lit (List.map e_SPoint r1119))], .box [.d (.lit (List.map e_SPoint r129))], .box [.d (.int .i64 r1228), .d (.int .i64 r1375)], .box [.d (.int .i64 r1229), .d (.int .i64 r1376)], .box [.d (.int .i64 r1152), .d (.int .i64 r1377)], .box [.d (.int .i64 r1153), .d (.int .i64 r1378)], .box [.d (.int .i64 r1154), .d (.int .i64 r1379)]] : List Blk))) [] _ (ref01_Less_goes k r1228 r1375 r1229 r1376) rfl (by kernel_rfl) (by kernel_rfl) (by kernel_rfl) (by kernel_rfl) (by kernel_rfl) (by kernel_rfl) (by kernel_rfl) (by kernel_rfl) rfl (by kernel_rfl) Try.func15 rfl (by kernel_rfl) (ConvRs.refl _ _) (by kernel_rfl) (by kernel_rfl) (by kernel_rfl) (by decide) (by kernel_rfl) (by kernel_rfl) (fun _ => (by kernel_rfl)) (fun _ => (by kernel_rfl)) (fun _ => (by kernel_rfl)) (fun r15 => ?_)
               refine dCall (i := 21) (caps := []) (v := (fun (r16 : Bool) => (.d (.bool r16) : V))) (H' := (fun (r16 : Bool) => ([.box [.d (.lit (List.map e_i64 t)), .d (.int .i64 x429)], .box [.d (.lit (List.map e_SPoint r1119))], .box [.d (.lit (List.map e_SPoint r129))], .box [.d (.int .i64 r1228), .d (.int .i64 r1375)], .box [.d (.int .i64 r1229), .d (.int .i64 r1376)], .box [.d (.int .i64 r1152), .d (.int .i64 r1377)], .box [.d (.int .i64 r1153), .d (.int .i64 r1378)], .box [.d (.int .i64 r1154), .d (.int .i64 r1379)]] : List Blk))) [] _ (ref01_Less_goes k r1152 r1377 r1153 r1378) rfl (by kernel_rfl) (by kernel_rfl) (by kernel_rfl) (by kernel_rfl) (by kernel_rfl) (by kernel_rfl) (by kernel_rfl) (by kernel_rfl) rfl (by kernel_rfl) Try.func15 rfl (by kernel_rfl) (ConvRs.refl _ _) (by kernel_rfl) (by kernel_rfl) (by kernel_rfl) (by decide) (by kernel_rfl) (by kernel_rfl) (fun _ => (by kernel_rfl)) (fun _ => (by kernel_rfl)) (fun _ => (by kernel_rfl)) (fun r16 => ?_)
               refine aTakeL (i := 22) (st' := []) (.d (.bool (!(r15 == r16)))) rfl (by kernel_rfl) (by kernel_rfl) (by kernel_rfl) (by kernel_rfl) (by kernel_rfl) (by kernel_rfl) (by kernel_rfl) (PureV.quiet (p_boolNe (p := r15) (q := r16) (by kernel_rfl) (by kernel_rfl) Try.underlying4 (by kernel_rfl)) []) ?_
               refine aTakeL (i := 23) (st' := []) (.d (.bool (!(r15 == r16)))) rfl (by kernel_rfl) (by kernel_rfl) (by kernel_rfl) (by kernel_rfl) (by kernel_rfl) (by kernel_rfl) (by kernel_rfl) (PureV.quiet (p_pick (b := false) (by kernel_rfl) (by kernel_rfl)) []) ?_
               refine dDrop [3, 4, 5, 11, 12, 13, 14, 16, 118] [3, 4, 5, 11, 12, 13, 14, 16, 118] (T' := [(3, .ptr 0 0), (4, .ptr 1 0), (5, .ptr 2 0), (11, .d (.int .i64 i4)), (12, .ptr 3 0), (13, .ptr 4 0), (14, .ptr 5 0), (16, .ptr 6 0), (118, .d (.bool (!(r15 == r16))))]) (U' := [(3, .ptr 0 0), (4, .ptr 1 0), (5, .ptr 2 0), (11, .d (.int .i64 i4)), (12, .ptr 3 0), (13, .ptr 4 0), (14, .ptr 5 0), (16, .ptr 6 0), (118, .d (.bool (!(r15 == r16))))]) (by kernel_rfl) (by kernel_rfl) ?_
               refine dLv [23, 22, 21, 20, 19, 18, 17, 16, 15, 14, 13, 12, 11, 10, 9, 8, 7, 6, 5, 4, 3, 2, 1, 0] (by kernel_rfl) ?_
               exact hj73 (!(r15 == r16))
            ·refine dPickF 105 (fun c => F (c || (!((r1154 == r1152) && ((r1379 == r1377) && true))))) (by kernel_rfl) (by kernel_rfl) (fun hc => ?_) (fun hc => ?_)
             ·refine aTakeNot (i := 11) rfl (by kernel_rfl) (by kernel_rfl) (by kernel_rfl) (by kernel_rfl) (by kernel_rfl) (by kernel_rfl) (by kernel_rfl) ?_
              refine aTakeNot (i := 12) rfl (by kernel_rfl) (by kernel_rfl) (by kernel_rfl) (by kernel_rfl) (by kernel_rfl) (by kernel_rfl) (by kernel_rfl) ?_
              refine aTakeNot (i := 13) rfl (by kernel_rfl) (by kernel_rfl) (by kernel_rfl) (by kernel_rfl) (by kernel_rfl) (by kernel_rfl) (by kernel_rfl) ?_
              refine aTakeL (i := 14) (st' := []) (.d (.bool true)) rfl (by kernel_rfl) (by kernel_rfl) (by kernel_rfl) (by kernel_rfl) (by kernel_rfl) (by kernel_rfl) (by kernel_rfl) (PureV.quiet (p_pick (b := true) (by kernel_rfl) (by kernel_rfl)) []) ?_
              refine dDrop [3, 4, 5, 11, 12, 13, 14, 16, 109] [3, 4, 5, 11, 12, 13, 14, 16, 109] (T' := [(3, .ptr 0 0), (4, .ptr 1 0), (5, .ptr 2 0), (11, .d (.int .i64 i4)), (12, .ptr 3 0), (13, .ptr 4 0), (14, .ptr 5 0), (16, .ptr 6 0), (109, .d (.bool true))]) (U' := [(3, .ptr 0 0), (4, .ptr 1 0), (5, .ptr 2 0), (11, .d (.int .i64 i4)), (12, .ptr 3 0), (13, .ptr 4 0), (14, .ptr 5 0), (16, .ptr 6 0), (109, .d (.bool true))]) (by kernel_rfl) (by kernel_rfl) ?_
              exact hj72 true
             ·refine aTakeL (i := 11) (st' := [7]) (.agg [.d (.int .i64 r1154), .d (.int .i64 r1379)]) rfl (by kernel_rfl) (by kernel_rfl) (by kernel_rfl) (by kernel_rfl) (by kernel_rfl) (by kernel_rfl) (by kernel_rfl) (k_loadAgg 7 0 (by kernel_rfl) Try.underlying37 (by kernel_rfl) ty37 (by kernel_rfl)) ?_
              refine aTakeL (i := 12) (st' := [5]) (.agg [.d (.int .i64 r1152), .d (.int .i64 r1377)]) rfl (by kernel_rfl) (by kernel_rfl) (by kernel_rfl) (by kernel_rfl) (by kernel_rfl) (by kernel_rfl) (by kernel_rfl) (k_loadAgg 5 0 (by kernel_rfl) Try.underlying37 (by kernel_rfl) ty37 (by kernel_rfl)) ?_
              refine aTakeL (i := 13) (st' := []) (.d (.bool (!((r1154 == r1152) && ((r1379 == r1377) && true))))) rfl (by kernel_rfl) (by kernel_rfl) (by kernel_rfl) (by kernel_rfl) (by kernel_rfl) (by kernel_rfl) (by kernel_rfl) (PureV.quiet (k_neAgg (by kernel_rfl) (by kernel_rfl) Try.eqGuardType37 (EqV.struct 1 37 [.d (.int .i64 r1154), .d (.int .i64 r1379)] [.d (.int .i64 r1152), .d (.int .i64 r1377)] _ ((r1154 == r1152) && ((r1379 == r1377) && true)) Try.underlying37 Try.stoodInHeld37 (EqF.one 1 1 _ _ _ _ _ _ _ (r1154 == r1152) ((r1379 == r1377) && true) (by kernel_rfl) Try.underlying3 (by kernel_rfl) (by kernel_rfl) (by kernel_rfl) (by kernel_rfl) (EqV.int 3 .i64 .i64 r1154 r1152 Try.underlying3) (EqF.one 1 1 _ _ _ _ _ _ _ (r1379 == r1377) true (by kernel_rfl) Try.underlying3 (by kernel_rfl) (by kernel_rfl) (by kernel_rfl) (by kernel_rfl) (EqV.int 3 .i64 .i64 r1379 r1377 Try.underlying3) (EqF.nil 1 _ _)))) (by kernel_rfl)) []) ?_
              refine aTakeL (i := 14) (st' := []) (.d (.bool (!((r1154 == r1152) && ((r1379 == r1377) && true))))) rfl (by kernel_rfl) (by kernel_rfl) (by kernel_rfl) (by kernel_rfl) (by kernel_rfl) (by kernel_rfl) (by kernel_rfl) (PureV.quiet (p_pick (b := false) (by kernel_rfl) (by kernel_rfl)) []) ?_
              refine dDrop [3, 4, 5, 11, 12, 13, 14, 16, 109] [3, 4, 5, 11, 12, 13, 14, 16, 109] (T' := [(3, .ptr 0 0), (4, .ptr 1 0), (5, .ptr 2 0), (11, .d (.int .i64 i4)), (12, .ptr 3 0), (13, .ptr 4 0), (14, .ptr 5 0), (16, .ptr 6 0), (109, .d (.bool (!((r1154 == r1152) && ((r1379 == r1377) && true)))))]) (U' := [(3, .ptr 0 0), (4, .ptr 1 0), (5, .ptr 2 0), (11, .d (.int .i64 i4)), (12, .ptr 3 0), (13, .ptr 4 0), (14, .ptr 5 0), (16, .ptr 6 0), (109, .d (.bool (!((r1154 == r1152) && ((r1379 == r1377) && true)))))]) (by kernel_rfl) (by kernel_rfl) ?_
              exact hj72 (!((r1154 == r1152) && ((r1379 == r1377) && true)))
           ·refine dPickF 101 (fun c => F (c || (r1450 != 0))) (by kernel_rfl) (by kernel_rfl) (fun hc => ?_) (fun hc => ?_)
            ·refine aTakeNot (i := 7) rfl (by kernel_rfl) (by kernel_rfl) (by kernel_rfl) (by kernel_rfl) (by kernel_rfl) (by kernel_rfl) (by kernel_rfl) ?_
             refine aTakeNot (i := 8) rfl (by kernel_rfl) (by kernel_rfl) (by kernel_rfl) (by kernel_rfl) (by kernel_rfl) (by kernel_rfl) (by kernel_rfl) ?_
             refine aTakeL (i := 9) (st' := []) (.d (.bool true)) rfl (by kernel_rfl) (by kernel_rfl) (by kernel_rfl) (by kernel_rfl) (by kernel_rfl) (by kernel_rfl) (by kernel_rfl) (PureV.quiet (p_pick (b := true) (by kernel_rfl) (by kernel_rfl)) []) ?_
             refine dDrop [3, 4, 5, 11, 12, 13, 14, 16, 18, 104] [3, 4, 5, 11, 12, 13, 14, 16, 18, 104] (T' := [(3, .ptr 0 0), (4, .ptr 1 0), (5, .ptr 2 0), (11, .d (.int .i64 i4)), (12, .ptr 3 0), (13, .ptr 4 0), (14, .ptr 5 0), (16, .ptr 6 0), (18, .ptr 7 0), (104, .d (.bool true))]) (U' := [(3, .ptr 0 0), (4, .ptr 1 0), (5, .ptr 2 0), (11, .d (.int .i64 i4)), (12, .ptr 3 0), (13, .ptr 4 0), (14, .ptr 5 0), (16, .ptr 6 0), (18, .ptr 7 0), (104, .d (.bool true))]) (by kernel_rfl) (by kernel_rfl) ?_
             exact hj71 true
            ·refine aTakeL (i := 7) (st' := []) (.d (.int .i64 r1450)) rfl (by kernel_rfl) (by kernel_rfl) (by kernel_rfl) (by kernel_rfl) (by kernel_rfl) (by kernel_rfl) (by kernel_rfl) (PureV.quiet (p_move (by kernel_rfl)) []) ?_
             refine aTakeL (i := 8) (st' := []) (.d (.bool (r1450 != 0))) rfl (by kernel_rfl) (by kernel_rfl) (by kernel_rfl) (by kernel_rfl) (by kernel_rfl) (by kernel_rfl) (by kernel_rfl) (PureV.quiet (p_int (k := .i64) (p := r1450) (q := 0) (by kernel_rfl) (by kernel_rfl) (by kernel_rfl)) []) ?_
             refine aTakeL (i := 9) (st' := []) (.d (.bool (r1450 != 0))) rfl (by kernel_rfl) (by kernel_rfl) (by kernel_rfl) (by kernel_rfl) (by kernel_rfl) (by kernel_rfl) (by kernel_rfl) (PureV.quiet (p_pick (b := false) (by kernel_rfl) (by kernel_rfl)) []) ?_
             refine dDrop [3, 4, 5, 11, 12, 13, 14, 16, 18, 104] [3, 4, 5, 11, 12, 13, 14, 16, 18, 104] (T' := [(3, .ptr 0 0), (4, .ptr 1 0), (5, .ptr 2 0), (11, .d (.int .i64 i4)), (12, .ptr 3 0), (13, .ptr 4 0), (14, .ptr 5 0), (16, .ptr 6 0), (18, .ptr 7 0), (104, .d (.bool (r1450 != 0)))]) (U' := [(3, .ptr 0 0), (4, .ptr 1 0), (5, .ptr 2 0), (11, .d (.int .i64 i4)), (12, .ptr 3 0), (13, .ptr 4 0), (14, .ptr 5 0), (16, .ptr 6 0), (18, .ptr 7 0), (104, .d (.bool (r1450 != 0)))]) (by kernel_rfl) (by kernel_rfl) ?_
             exact hj71 (r1450 != 0)
          ·refine dPickF 97 (fun c => F (c || (r1449 != 0))) (by kernel_rfl) (by kernel_rfl) (fun hc => ?_) (fun hc => ?_)
           ·refine aTakeNot (i := 3) rfl (by kernel_rfl) (by kernel_rfl) (by kernel_rfl) (by kernel_rfl) (by kernel_rfl) (by kernel_rfl) (by kernel_rfl) ?_
            refine aTakeNot (i := 4) rfl (by kernel_rfl) (by kernel_rfl) (by kernel_rfl) (by kernel_rfl) (by kernel_rfl) (by kernel_rfl) (by kernel_rfl) ?_
            refine aTakeL (i := 5) (st' := []) (.d (.bool true)) rfl (by kernel_rfl) (by kernel_rfl) (by kernel_rfl) (by kernel_rfl) (by kernel_rfl) (by kernel_rfl) (by kernel_rfl) (PureV.quiet (p_pick (b := true) (by kernel_rfl) (by kernel_rfl)) []) ?_
            refine dDrop [3, 4, 5, 11, 12, 13, 14, 16, 18, 19, 100] [3, 4, 5, 11, 12, 13, 14, 16, 18, 19, 100] (T' := [(3, .ptr 0 0), (4, .ptr 1 0), (5, .ptr 2 0), (11, .d (.int .i64 i4)), (12, .ptr 3 0), (13, .ptr 4 0), (14, .ptr 5 0), (16, .ptr 6 0), (18, .ptr 7 0), (19, .d (.int .i64 r1450)), (100, .d (.bool true))]) (U' := [(3, .ptr 0 0), (4, .ptr 1 0), (5, .ptr 2 0), (11, .d (.int .i64 i4)), (12, .ptr 3 0), (13, .ptr 4 0), (14, .ptr 5 0), (16, .ptr 6 0), (18, .ptr 7 0), (19, .d (.int .i64 r1450)), (100, .d (.bool true))]) (by kernel_rfl) (by kernel_rfl) ?_
            exact hj70 true
           ·refine aTakeL (i := 3) (st' := []) (.d (.int .i64 r1449)) rfl (by kernel_rfl) (by kernel_rfl) (by kernel_rfl) (by kernel_rfl) (by kernel_rfl) (by kernel_rfl) (by kernel_rfl) (PureV.quiet (p_move (by kernel_rfl)) []) ?_
            refine aTakeL (i := 4) (st' := []) (.d (.bool (r1449 != 0))) rfl (by kernel_rfl) (by kernel_rfl) (by kernel_rfl) (by kernel_rfl) (by kernel_rfl) (by kernel_rfl) (by kernel_rfl) (PureV.quiet (p_int (k := .i64) (p := r1449) (q := 0) (by kernel_rfl) (by kernel_rfl) (by kernel_rfl)) []) ?_
            refine aTakeL (i := 5) (st' := []) (.d (.bool (r1449 != 0))) rfl (by kernel_rfl) (by kernel_rfl) (by kernel_rfl) (by kernel_rfl) (by kernel_rfl) (by kernel_rfl) (by kernel_rfl) (PureV.quiet (p_pick (b := false) (by kernel_rfl) (by kernel_rfl)) []) ?_
            refine dDrop [3, 4, 5, 11, 12, 13, 14, 16, 18, 19, 100] [3, 4, 5, 11, 12, 13, 14, 16, 18, 19, 100] (T' := [(3, .ptr 0 0), (4, .ptr 1 0), (5, .ptr 2 0), (11, .d (.int .i64 i4)), (12, .ptr 3 0), (13, .ptr 4 0), (14, .ptr 5 0), (16, .ptr 6 0), (18, .ptr 7 0), (19, .d (.int .i64 r1450)), (100, .d (.bool (r1449 != 0)))]) (U' := [(3, .ptr 0 0), (4, .ptr 1 0), (5, .ptr 2 0), (11, .d (.int .i64 i4)), (12, .ptr 3 0), (13, .ptr 4 0), (14, .ptr 5 0), (16, .ptr 6 0), (18, .ptr 7 0), (19, .d (.int .i64 r1450)), (100, .d (.bool (r1449 != 0)))]) (by kernel_rfl) (by kernel_rfl) ?_
            exact hj70 (r1449 != 0)
         ·refine oCondF (by kernel_rfl) ?_
          refine oExit rfl ?_
          refine oHead [] [] (T' := []) (H' := []) (by kernel_rfl) (by kernel_rfl) (by kernel_rfl) (by kernel_rfl) (by decide) (by kernel_rfl) (by kernel_rfl) ?_
          exact hj44 ()
      ·refine oBlock ?_
       refine oLoop ?_
       refine oHead [3, 4, 5, 47, 48, 49] [0, 1, 2] (T' := [(3, .ptr 0 0), (4, .ptr 1 0), (5, .ptr 2 0), (47, .d (.lit (List.map e_SPoint r1119))), (48, .d (.int .i64 ((List.length r1119) : Int))), (49, .d (.int .i64 0))]) (H' := [.box [.d (.lit (List.map e_i64 t)), .d (.int .i64 x91)], .box [.d (.lit (List.map e_SPoint r1119))], .box [.d (.lit (List.map e_SPoint r129))]]) (by kernel_rfl) (by kernel_rfl) (by kernel_rfl) (by kernel_rfl) (by decide) (by kernel_rfl) (by kernel_rfl) ?_
       refine bLoop (body := law33_ConversionRises_b2 k r1119) ((fun (x174 : Int) => [(3, .ptr 0 0), (4, .ptr 1 0), (5, .ptr 2 0), (47, .d (.lit (List.map e_SPoint r1119))), (48, .d (.int .i64 ((List.length r1119) : Int))), (49, .d (.int .i64 x174))])) ((fun (x174 : Int) => [.box [.d (.lit (List.map e_i64 t)), .d (.int .i64 x91)], .box [.d (.lit (List.map e_SPoint r1119))], .box [.d (.lit (List.map e_SPoint r129))]])) (fun again hag2 x174 => ?_) k 0
       ·unfold law33_ConversionRises_b2
        refine oView (T' := [(3, .ptr 0 0), (4, .ptr 1 0), (5, .ptr 2 0), (47, .d (.lit (List.map e_SPoint r1119))), (48, .d (.int .i64 ((List.length r1119) : Int))), (49, .d (.int .i64 x174))]) (H' := [.box [.d (.lit (List.map e_i64 t)), .d (.int .i64 x91)], .box [.d (.lit (List.map e_SPoint r1119))], .box [.d (.lit (List.map e_SPoint r129))]]) (by kernel_rfl) (by kernel_rfl) ?_
        refine oSeq ?_
        refine oRegion rfl ?_
        refine oOp (.d (.bool (decide (x174 < ((List.length r1119) : Int))))) (by kernel_rfl) (by kernel_rfl) (PureV.does (p_int (k := .i64) (p := x174) (q := ((List.length r1119) : Int)) (by kernel_rfl) (by kernel_rfl) (by kernel_rfl))) ?_
        refine oEnd ?_
        refine oSeq ?_
        refine bSplit 50 (by kernel_rfl) (fun hc => ?_) (fun hc => ?_)
        ·refine oCondT (by kernel_rfl) ?_
         refine oSkip ?_
         refine oSeq ?_
         refine oBlock ?_
         refine oSeq ?_
         refine oRegion rfl ?_
         refine bIdx (fun e113 h126 h127 => ?_)
         refine oOp (.lptr (e_SPoint e113) 0) (by kernel_rfl) (by kernel_rfl) (PureV.does (k_idxLit e_SPoint_len r1119 (a := e113) (by kernel_rfl) (k := .i64) (i := x174) (by kernel_rfl) Try.underlying27 ty39 h126 h127)) ?_
         refine oOp (.agg [.d (.int .i64 e113.X_Num), .d (.int .i64 e113.X_Den), .d (.int .i64 e113.Y_Num), .d (.int .i64 e113.Y_Den)]) (by kernel_rfl) (by kernel_rfl) (Quiet.does (k_loadLAgg (cells := e_SPoint e113) 0 [(.int .i64 e113.X_Num), (.int .i64 e113.X_Den), (.int .i64 e113.Y_Num), (.int .i64 e113.Y_Den)] (by kernel_rfl) Try.underlying39 (by kernel_rfl) ty39 (by kernel_rfl) (by kernel_rfl) (by kernel_rfl))) ?_
         refine oOp (.ptr 3 0) (by kernel_rfl) (by kernel_rfl) (k_alloc (H' := [.box [.d (.lit (List.map e_i64 t)), .d (.int .i64 x91)], .box [.d (.lit (List.map e_SPoint r1119))], .box [.d (.lit (List.map e_SPoint r129))], .box [.d (.int .i64 0), .d (.int .i64 0), .d (.int .i64 0), .d (.int .i64 0)]]) ty39 (by kernel_rfl) (by kernel_rfl)) ?_
         refine oOp (.undef) (by kernel_rfl) (by kernel_rfl) (k_store (vs := [.d (.int .i64 e113.X_Num), .d (.int .i64 e113.X_Den), .d (.int .i64 e113.Y_Num), .d (.int .i64 e113.Y_Den)]) (H' := [.box [.d (.lit (List.map e_i64 t)), .d (.int .i64 x91)], .box [.d (.lit (List.map e_SPoint r1119))], .box [.d (.lit (List.map e_SPoint r129))], .box [.d (.int .i64 e113.X_Num), .d (.int .i64 e113.X_Den), .d (.int .i64 e113.Y_Num), .d (.int .i64 e113.Y_Den)]]) 3 0 (by kernel_rfl) ty39 (by kernel_rfl) (by kernel_rfl) (by kernel_rfl)) ?_
         refine oEnd ?_
         refine oSeq ?_
         refine oRegion rfl ?_
         refine oOp (.agg [.d (.lit (List.map e_SPoint r1119))]) (by kernel_rfl) (by kernel_rfl) (Quiet.does (k_loadAgg 1 0 (by kernel_rfl) Try.underlying29 (by kernel_rfl) ty29 (by kernel_rfl))) ?_
         refine oOp (.ptr 3 0) (by kernel_rfl) (by kernel_rfl) (PureV.does (k_fieldAddr 3 0 (by kernel_rfl) Try.underlying39 rfl ty37 (by kernel_rfl))) ?_
         refine oOp (.agg [.d (.int .i64 e113.X_Num), .d (.int .i64 e113.X_Den)]) (by kernel_rfl) (by kernel_rfl) (Quiet.does (k_loadAgg 3 0 (by kernel_rfl) Try.underlying37 (by kernel_rfl) ty37 (by kernel_rfl))) ?_
         refine bCall (caps := []) (v := (uc fun (r1160 : Int) => (uc fun (r1385 : Int) => (fun (r1456 : Int) => (.tuple [.agg [.d (.int .i64 r1160), .d (.int .i64 r1385)], .d (.int .i64 r1456)] : V))))) (H' := (uc fun (r1160 : Int) => (uc fun (r1385 : Int) => (fun (r1456 : Int) => ([.box [.d (.lit (List.map e_i64 t)), .d (.int .i64 x91)], .box [.d (.lit (List.map e_SPoint r1119))], .box [.d (.lit (List.map e_SPoint r129))], .box [.d (.int .i64 e113.X_Num), .d (.int .i64 e113.X_Den), .d (.int .i64 e113.Y_Num), .d (.int .i64 e113.Y_Den)]] : List Blk))))) [] _ (conversion_Eval_2_goes k r1119 e113.X_Num e113.X_Den) (by kernel_rfl) (by kernel_rfl) rfl (by kernel_rfl) Try.func13 rfl (by kernel_rfl) (ConvRs.refl _ _) (by kernel_rfl) (by kernel_rfl) (by kernel_rfl) (by decide) (by kernel_rfl) (by kernel_rfl) (fun _ => (by kernel_rfl)) (fun _ => (by kernel_rfl)) (fun _ => (by kernel_rfl)) (fun r => ?_)
         obtain ⟨r1160, r1385, r1456⟩ := r
         refine bUc ?_
         refine bUc ?_
         refine oOp (.tuple [.agg [.d (.int .i64 r1160), .d (.int .i64 r1385)], .d (.int .i64 r1456)]) (by kernel_rfl) (by kernel_rfl) (PureV.does (p_move (by kernel_rfl))) ?_
         refine oOp (.agg [.d (.int .i64 r1160), .d (.int .i64 r1385)]) (by kernel_rfl) (by kernel_rfl) (PureV.does (k_extract (by kernel_rfl))) ?_
         refine oOp (.d (.int .i64 r1456)) (by kernel_rfl) (by kernel_rfl) (PureV.does (k_extract (by kernel_rfl))) ?_
         refine oOp (.ptr 4 0) (by kernel_rfl) (by kernel_rfl) (k_alloc (H' := [.box [.d (.lit (List.map e_i64 t)), .d (.int .i64 x91)], .box [.d (.lit (List.map e_SPoint r1119))], .box [.d (.lit (List.map e_SPoint r129))], .box [.d (.int .i64 e113.X_Num), .d (.int .i64 e113.X_Den), .d (.int .i64 e113.Y_Num), .d (.int .i64 e113.Y_Den)], .box [.d (.int .i64 0), .d (.int .i64 0)]]) ty37 (by kernel_rfl) (by kernel_rfl)) ?_
         refine oOp (.undef) (by kernel_rfl) (by kernel_rfl) (k_store (vs := [.d (.int .i64 r1160), .d (.int .i64 r1385)]) (H' := [.box [.d (.lit (List.map e_i64 t)), .d (.int .i64 x91)], .box [.d (.lit (List.map e_SPoint r1119))], .box [.d (.lit (List.map e_SPoint r129))], .box [.d (.int .i64 e113.X_Num), .d (.int .i64 e113.X_Den), .d (.int .i64 e113.Y_Num), .d (.int .i64 e113.Y_Den)], .box [.d (.int .i64 r1160), .d (.int .i64 r1385)]]) 4 0 (by kernel_rfl) ty37 (by kernel_rfl) (by kernel_rfl) (by kernel_rfl)) ?_
         refine oOp (.d (.int .i64 r1456)) (by kernel_rfl) (by kernel_rfl) (PureV.does (p_assign (by kernel_rfl))) ?_
         refine oEnd ?_
         refine oSeq ?_
         refine oRegion rfl ?_
         refine oOp (.d (.int .i64 r1456)) (by kernel_rfl) (by kernel_rfl) (PureV.does (p_move (by kernel_rfl))) ?_
         refine oOp (.d (.bool (r1456 != 0))) (by kernel_rfl) (by kernel_rfl) (PureV.does (p_int (k := .i64) (p := r1456) (q := 0) (by kernel_rfl) (by kernel_rfl) (by kernel_rfl))) ?_
         refine oOp (.d (.bool (r1456 != 0))) (by kernel_rfl) (by kernel_rfl) (PureV.does (p_move (by kernel_rfl))) ?_
         refine bMeetF (H' := [.box [.d (.lit (List.map e_i64 t)), .d (.int .i64 x91)], .box [.d (.lit (List.map e_SPoint r1119))], .box [.d (.lit (List.map e_SPoint r129))]]) 5 rfl ((fun (x179 : Bool) => [(3, .ptr 0 0), (4, .ptr 1 0), (5, .ptr 2 0), (47, .d (.lit (List.map e_SPoint r1119))), (48, .d (.int .i64 ((List.length r1119) : Int))), (49, .d (.int .i64 x174)), (67, .d (.bool x179))])) (fun x179 => ?_) (fun F hj75 => ?_)
         ·refine oView (T' := [(3, .ptr 0 0), (4, .ptr 1 0), (5, .ptr 2 0), (47, .d (.lit (List.map e_SPoint r1119))), (48, .d (.int .i64 ((List.length r1119) : Int))), (49, .d (.int .i64 x174)), (67, .d (.bool x179))]) (H' := [.box [.d (.lit (List.map e_i64 t)), .d (.int .i64 x91)], .box [.d (.lit (List.map e_SPoint r1119))], .box [.d (.lit (List.map e_SPoint r129))]]) (by kernel_rfl) (by kernel_rfl) ?_
          refine oEnd ?_
          refine bSplit 67 (by kernel_rfl) (fun hc => ?_) (fun hc => ?_)
          ·refine oCondT (by kernel_rfl) ?_
           refine oSeq ?_
           refine oRegion rfl ?_
           refine oOp (.d (.bool false)) (by kernel_rfl) (by kernel_rfl) (PureV.does (p_assign (by kernel_rfl))) ?_
           refine oEnd ?_
           exact oRet (r0 := false) (rv := .d (.bool false)) (B := []) (vs := [.d (.bool false)]) (σ := []) (by kernel_rfl) Try.func3 rfl (.cons _ _ _ _ (.tmp 2 _ (by kernel_rfl)) .nil) (by kernel_rfl) (by kernel_rfl) (by kernel_rfl) (by kernel_rfl) (by decide) (by kernel_rfl) (by kernel_rfl)
          ·refine oCondF (by kernel_rfl) ?_
           refine oSkip ?_
           refine oBlk ?_
           refine oRegion rfl ?_
           refine oOp (.d (.int .i64 (IntKind.wrap .i64 (x174 + 1)))) (by kernel_rfl) (by kernel_rfl) (PureV.does (p_int (k := .i64) (p := x174) (q := 1) (by kernel_rfl) (by kernel_rfl) (by kernel_rfl))) ?_
           refine oOp (.d (.int .i64 (IntKind.wrap .i64 (x174 + 1)))) (by kernel_rfl) (by kernel_rfl) (PureV.does (p_move (by kernel_rfl))) ?_
           refine oEnd ?_
           refine oAgain ?_
           refine oHead [3, 4, 5, 47, 48, 49] [0, 1, 2] (T' := [(3, .ptr 0 0), (4, .ptr 1 0), (5, .ptr 2 0), (47, .d (.lit (List.map e_SPoint r1119))), (48, .d (.int .i64 ((List.length r1119) : Int))), (49, .d (.int .i64 (IntKind.wrap .i64 (x174 + 1))))]) (H' := [.box [.d (.lit (List.map e_i64 t)), .d (.int .i64 x91)], .box [.d (.lit (List.map e_SPoint r1119))], .box [.d (.lit (List.map e_SPoint r129))]]) (by kernel_rfl) (by kernel_rfl) (by kernel_rfl) (by kernel_rfl) (by decide) (by kernel_rfl) (by kernel_rfl) ?_
           exact hag2 (IntKind.wrap .i64 (x174 + 1))
         ·refine bPickF 62 (fun c => F (c || (!((r1160 == e113.Y_Num) && ((r1385 == e113.Y_Den) && true))))) (by kernel_rfl) (fun hc => ?_) (fun hc => ?_)
          ·refine oNot (by kernel_rfl) (by kernel_rfl) ?_
           refine oNot (by kernel_rfl) (by kernel_rfl) ?_
           refine oNot (by kernel_rfl) (by kernel_rfl) ?_
           refine oNot (by kernel_rfl) (by kernel_rfl) ?_
           refine oOp (.d (.bool true)) (by kernel_rfl) (by kernel_rfl) (PureV.does (p_pick (b := true) (by kernel_rfl) (by kernel_rfl))) ?_
           refine oHead [3, 4, 5, 47, 48, 49, 67] [0, 1, 2] (T' := [(3, .ptr 0 0), (4, .ptr 1 0), (5, .ptr 2 0), (47, .d (.lit (List.map e_SPoint r1119))), (48, .d (.int .i64 ((List.length r1119) : Int))), (49, .d (.int .i64 x174)), (67, .d (.bool true))]) (H' := [.box [.d (.lit (List.map e_i64 t)), .d (.int .i64 x91)], .box [.d (.lit (List.map e_SPoint r1119))], .box [.d (.lit (List.map e_SPoint r129))]]) (by kernel_rfl) (by kernel_rfl) (by kernel_rfl) (by kernel_rfl) (by decide) (by kernel_rfl) (by kernel_rfl) ?_
           exact hj75 true
          ·refine oOp (.agg [.d (.int .i64 r1160), .d (.int .i64 r1385)]) (by kernel_rfl) (by kernel_rfl) (Quiet.does (k_loadAgg 4 0 (by kernel_rfl) Try.underlying37 (by kernel_rfl) ty37 (by kernel_rfl))) ?_
           refine oOp (.ptr 3 2) (by kernel_rfl) (by kernel_rfl) (PureV.does (k_fieldAddr 3 0 (by kernel_rfl) Try.underlying39 rfl ty37 (by kernel_rfl))) ?_
           refine oOp (.agg [.d (.int .i64 e113.Y_Num), .d (.int .i64 e113.Y_Den)]) (by kernel_rfl) (by kernel_rfl) (Quiet.does (k_loadAgg 3 2 (by kernel_rfl) Try.underlying37 (by kernel_rfl) ty37 (by kernel_rfl))) ?_
           refine oOp (.d (.bool (!((r1160 == e113.Y_Num) && ((r1385 == e113.Y_Den) && true))))) (by kernel_rfl) (by kernel_rfl) (PureV.does (k_neAgg (by kernel_rfl) (by kernel_rfl) Try.eqGuardType37 (EqV.struct 1 37 [.d (.int .i64 r1160), .d (.int .i64 r1385)] [.d (.int .i64 e113.Y_Num), .d (.int .i64 e113.Y_Den)] _ ((r1160 == e113.Y_Num) && ((r1385 == e113.Y_Den) && true)) Try.underlying37 Try.stoodInHeld37 (EqF.one 1 1 _ _ _ _ _ _ _ (r1160 == e113.Y_Num) ((r1385 == e113.Y_Den) && true) (by kernel_rfl) Try.underlying3 (by kernel_rfl) (by kernel_rfl) (by kernel_rfl) (by kernel_rfl) (EqV.int 3 .i64 .i64 r1160 e113.Y_Num Try.underlying3) (EqF.one 1 1 _ _ _ _ _ _ _ (r1385 == e113.Y_Den) true (by kernel_rfl) Try.underlying3 (by kernel_rfl) (by kernel_rfl) (by kernel_rfl) (by kernel_rfl) (EqV.int 3 .i64 .i64 r1385 e113.Y_Den Try.underlying3) (EqF.nil 1 _ _)))) (by kernel_rfl))) ?_
           refine oOp (.d (.bool (!((r1160 == e113.Y_Num) && ((r1385 == e113.Y_Den) && true))))) (by kernel_rfl) (by kernel_rfl) (PureV.does (p_pick (b := false) (by kernel_rfl) (by kernel_rfl))) ?_
           refine oHead [3, 4, 5, 47, 48, 49, 67] [0, 1, 2] (T' := [(3, .ptr 0 0), (4, .ptr 1 0), (5, .ptr 2 0), (47, .d (.lit (List.map e_SPoint r1119))), (48, .d (.int .i64 ((List.length r1119) : Int))), (49, .d (.int .i64 x174)), (67, .d (.bool (!((r1160 == e113.Y_Num) && ((r1385 == e113.Y_Den) && true)))))]) (H' := [.box [.d (.lit (List.map e_i64 t)), .d (.int .i64 x91)], .box [.d (.lit (List.map e_SPoint r1119))], .box [.d (.lit (List.map e_SPoint r129))]]) (by kernel_rfl) (by kernel_rfl) (by kernel_rfl) (by kernel_rfl) (by decide) (by kernel_rfl) (by kernel_rfl) ?_
           exact hj75 (!((r1160 == e113.Y_Num) && ((r1385 == e113.Y_Den) && true)))
        ·refine oCondF (by kernel_rfl) ?_
         refine oExit rfl ?_
         refine oHead [3, 4, 5] [0, 1, 2] (T' := [(3, .ptr 0 0), (4, .ptr 1 0), (5, .ptr 2 0)]) (H' := [.box [.d (.lit (List.map e_i64 t)), .d (.int .i64 x91)], .box [.d (.lit (List.map e_SPoint r1119))], .box [.d (.lit (List.map e_SPoint r129))]]) (by kernel_rfl) (by kernel_rfl) (by kernel_rfl) (by kernel_rfl) (by decide) (by kernel_rfl) (by kernel_rfl) ?_
         exact hj23 ()
    ·refine bSplit 41 (by kernel_rfl) (fun hc => ?_) (fun hc => ?_)
     ·refine oNot (by kernel_rfl) (by kernel_rfl) ?_
      refine oNot (by kernel_rfl) (by kernel_rfl) ?_
      refine oNot (by kernel_rfl) (by kernel_rfl) ?_
      refine oOp (.d (.bool true)) (by kernel_rfl) (by kernel_rfl) (PureV.does (p_pick (b := true) (by kernel_rfl) (by kernel_rfl))) ?_
      refine oHead [3, 4, 5, 45] [0, 1, 2] (T' := [(3, .ptr 0 0), (4, .ptr 1 0), (5, .ptr 2 0), (45, .d (.bool true))]) (H' := [.box [.d (.lit (List.map e_i64 t)), .d (.int .i64 x91)], .box [.d (.lit (List.map e_SPoint r1119))], .box [.d (.lit (List.map e_SPoint r129))]]) (by kernel_rfl) (by kernel_rfl) (by kernel_rfl) (by kernel_rfl) (by decide) (by kernel_rfl) (by kernel_rfl) ?_
      exact hj76 true
     ·refine oOp (.agg [.d (.lit (List.map e_SPoint r129))]) (by kernel_rfl) (by kernel_rfl) (Quiet.does (k_loadAgg 2 0 (by kernel_rfl) Try.underlying29 (by kernel_rfl) ty29 (by kernel_rfl))) ?_
      refine bCall (caps := []) (v := (fun (r140 : Bool) => (.d (.bool r140) : V))) (H' := (fun (r140 : Bool) => ([.box [.d (.lit (List.map e_i64 t)), .d (.int .i64 x91)], .box [.d (.lit (List.map e_SPoint r1119))], .box [.d (.lit (List.map e_SPoint r129))]] : List Blk))) [] _ (conversion_Valid_goes k r129) (by kernel_rfl) (by kernel_rfl) rfl (by kernel_rfl) Try.func12 rfl (by kernel_rfl) (ConvRs.refl _ _) (by kernel_rfl) (by kernel_rfl) (by kernel_rfl) (by decide) (by kernel_rfl) (by kernel_rfl) (fun _ => (by kernel_rfl)) (fun _ => (by kernel_rfl)) (fun _ => (by kernel_rfl)) (fun r140 => ?_)
      refine oOp (.d (.bool (!r140))) (by kernel_rfl) (by kernel_rfl) (PureV.does (p_not (p := r140) (by kernel_rfl) (by kernel_rfl))) ?_
      refine oOp (.d (.bool (!r140))) (by kernel_rfl) (by kernel_rfl) (PureV.does (p_pick (b := false) (by kernel_rfl) (by kernel_rfl))) ?_
      refine oHead [3, 4, 5, 45] [0, 1, 2] (T' := [(3, .ptr 0 0), (4, .ptr 1 0), (5, .ptr 2 0), (45, .d (.bool (!r140)))]) (H' := [.box [.d (.lit (List.map e_i64 t)), .d (.int .i64 x91)], .box [.d (.lit (List.map e_SPoint r1119))], .box [.d (.lit (List.map e_SPoint r129))]]) (by kernel_rfl) (by kernel_rfl) (by kernel_rfl) (by kernel_rfl) (by decide) (by kernel_rfl) (by kernel_rfl) ?_
      exact hj76 (!r140)
   ·refine bSplit 35 (by kernel_rfl) (fun hc => ?_) (fun hc => ?_)
    ·refine oNot (by kernel_rfl) (by kernel_rfl) ?_
     refine oNot (by kernel_rfl) (by kernel_rfl) ?_
     refine oNot (by kernel_rfl) (by kernel_rfl) ?_
     refine oNot (by kernel_rfl) (by kernel_rfl) ?_
     refine oOp (.d (.bool true)) (by kernel_rfl) (by kernel_rfl) (PureV.does (p_pick (b := true) (by kernel_rfl) (by kernel_rfl))) ?_
     refine oHead [3, 4, 5, 40] [0, 1, 2] (T' := [(3, .ptr 0 0), (4, .ptr 1 0), (5, .ptr 2 0), (40, .d (.bool true))]) (H' := [.box [.d (.lit (List.map e_i64 t)), .d (.int .i64 x91)], .box [.d (.lit (List.map e_SPoint r1119))], .box [.d (.lit (List.map e_SPoint r129))]]) (by kernel_rfl) (by kernel_rfl) (by kernel_rfl) (by kernel_rfl) (by decide) (by kernel_rfl) (by kernel_rfl) ?_
     exact hj77 true
    ·refine oOp (.agg [.d (.lit (List.map e_SPoint r1119))]) (by kernel_rfl) (by kernel_rfl) (Quiet.does (k_loadAgg 1 0 (by kernel_rfl) Try.underlying29 (by kernel_rfl) ty29 (by kernel_rfl))) ?_
     refine oOp (.agg [.d (.lit (List.map e_SPoint r129))]) (by kernel_rfl) (by kernel_rfl) (Quiet.does (k_loadAgg 2 0 (by kernel_rfl) Try.underlying29 (by kernel_rfl) ty29 (by kernel_rfl))) ?_
     refine bCall (caps := []) (v := (fun (r1161 : Bool) => (.d (.bool r1161) : V))) (H' := (fun (r1161 : Bool) => ([.box [.d (.lit (List.map e_i64 t)), .d (.int .i64 x91)], .box [.d (.lit (List.map e_SPoint r1119))], .box [.d (.lit (List.map e_SPoint r129))]] : List Blk))) [] _ (conversion_Same_goes k r1119 r129) (by kernel_rfl) (by kernel_rfl) rfl (by kernel_rfl) Try.func11 rfl (by kernel_rfl) (ConvRs.refl _ _) (by kernel_rfl) (by kernel_rfl) (by kernel_rfl) (by decide) (by kernel_rfl) (by kernel_rfl) (fun _ => (by kernel_rfl)) (fun _ => (by kernel_rfl)) (fun _ => (by kernel_rfl)) (fun r1161 => ?_)
     refine oOp (.d (.bool (!r1161))) (by kernel_rfl) (by kernel_rfl) (PureV.does (p_not (p := r1161) (by kernel_rfl) (by kernel_rfl))) ?_
     refine oOp (.d (.bool (!r1161))) (by kernel_rfl) (by kernel_rfl) (PureV.does (p_pick (b := false) (by kernel_rfl) (by kernel_rfl))) ?_
     refine oHead [3, 4, 5, 40] [0, 1, 2] (T' := [(3, .ptr 0 0), (4, .ptr 1 0), (5, .ptr 2 0), (40, .d (.bool (!r1161)))]) (H' := [.box [.d (.lit (List.map e_i64 t)), .d (.int .i64 x91)], .box [.d (.lit (List.map e_SPoint r1119))], .box [.d (.lit (List.map e_SPoint r129))]]) (by kernel_rfl) (by kernel_rfl) (by kernel_rfl) (by kernel_rfl) (by decide) (by kernel_rfl) (by kernel_rfl) ?_
     exact hj77 (!r1161)

end Go.VM
