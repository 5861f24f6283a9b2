/- Plain functions that answer as the program's functions do, and the proof that they do. -/
import Derived.Test.YtmnpognjbfjhbaaProg
import Derived.KernelRfl
import Derived.Test.YtmnpognjbfjhbaaEngW
import Derived.Test.YtmnpognjbfjhbaaDFacts
import Derived.Test.YtmnpognjbfjhbaaDFuns0
import Derived.Test.YtmnpognjbfjhbaaDFuns1
import Derived.Test.YtmnpognjbfjhbaaDFuns2
import Derived.Test.YtmnpognjbfjhbaaDFuns3
namespace Go.VM
open Go.Proofs
set_option linter.unusedVariables false
set_option linter.unusedSimpArgs false
set_option maxRecDepth 100000
/-- awardingbody/distribution.Dominates -/
def distribution_Dominates_b1 (k : Nat) (a0 : (List Int)) (b0 : (List Int)) (again : Int → Option ((Unit) ⊕ (Bool))) : Int → Option ((Unit) ⊕ (Bool)) := fun x6 => bif (decide (x6 < (gmax ((List.length a0) : Int) ((List.length b0) : Int)))) then Option.bind (distribution_Below k a0 x6) (fun r111 => Option.bind (distribution_Count k b0) (fun r112 => Option.bind (distribution_Below k b0 x6) (fun r113 => Option.bind (distribution_Count k a0) (fun r114 => bif (decide ((IntKind.wrap .i64 (r111 * r112)) > (IntKind.wrap .i64 (r113 * r114)))) then some (Sum.inr false) else again (IntKind.wrap .i64 (x6 + 1)))))) else some (Sum.inl ())
def distribution_Dominates (k : Nat) (a0 : (List Int)) (b0 : (List Int)) : Option (Bool) := Option.bind (distribution_check k a0) (fun r13 => Option.bind (bif (r13 != 0) then some true else Option.bind (distribution_check k b0) (fun r15 => some (r15 != 0)) : Option (Bool)) (fun x3 => bif x3 then some false else Option.bind (gloop (distribution_Dominates_b1 k a0 b0) k 0 : Option ((Unit) ⊕ (Bool))) (Sum.elim (u0 (some true)) (fun r => some r))))
def distribution_Dominates_E (a0 : (List Int)) (b0 : (List Int)) : Bool → V × List Blk := fun r12 => (.d (.bool r12), [])
theorem distribution_Dominates_goes (k : Nat) (a0 : (List Int)) (b0 : (List Int)) : RunsO Try.prog 20 [.agg [.d (.lit (List.map e_i64 a0))], .agg [.d (.lit (List.map e_i64 b0))]] [] (distribution_Dominates_E a0 b0) (distribution_Dominates k a0 b0) := by
  refine RunsO.of_goes (N := 38) (m := 0) (T := [(0, .agg [.d (.lit (List.map e_i64 a0))]), (1, .agg [.d (.lit (List.map e_i64 b0))])]) Try.func20 rfl rfl (by kernel_rfl) (by kernel_rfl) (by kernel_rfl) ?_
  unfold distribution_Dominates
  refine bStart ?_
  refine oSeq ?_
  refine oRegion rfl ?_
  refine oOp (.ptr 0 0) (by kernel_rfl) (by kernel_rfl) (k_box (H' := [.box [.d (.lit (List.map e_i64 a0))]]) (cells := [.d (.lit (List.map e_i64 a0))]) (by kernel_rfl) (by kernel_rfl) (by kernel_rfl)) ?_
  refine oOp (.ptr 1 0) (by kernel_rfl) (by kernel_rfl) (k_box (H' := [.box [.d (.lit (List.map e_i64 a0))], .box [.d (.lit (List.map e_i64 b0))]]) (cells := [.d (.lit (List.map e_i64 b0))]) (by kernel_rfl) (by kernel_rfl) (by kernel_rfl)) ?_
  refine oOp (.d (.bool false)) (by kernel_rfl) (by kernel_rfl) (PureV.does (p_assign (by kernel_rfl))) ?_
  refine oEnd ?_
  refine oSeq ?_
  refine oSeq ?_
  refine oRegion rfl ?_
  refine oOp (.agg [.d (.lit (List.map e_i64 a0))]) (by kernel_rfl) (by kernel_rfl) (Quiet.does (k_loadAgg 0 0 (by kernel_rfl) Try.underlying26 (by kernel_rfl) ty26 (by kernel_rfl))) ?_
  refine bCall (caps := []) (v := (fun (r13 : Int) => (.d (.int .i64 r13) : V))) (H' := (fun (r13 : Int) => ([.box [.d (.lit (List.map e_i64 a0))], .box [.d (.lit (List.map e_i64 b0))]] : List Blk))) [] _ (distribution_check_goes k a0) (by kernel_rfl) (by kernel_rfl) rfl (by kernel_rfl) Try.func44 rfl (by kernel_rfl) (ConvRs.refl _ _) (by kernel_rfl) (by kernel_rfl) (by kernel_rfl) (by decide) (by kernel_rfl) (by kernel_rfl) (fun _ => (by kernel_rfl)) (fun _ => (by kernel_rfl)) (fun _ => (by kernel_rfl)) (fun r13 => ?_)
  refine oOp (.d (.bool (r13 != 0))) (by kernel_rfl) (by kernel_rfl) (PureV.does (p_int (k := .i64) (p := r13) (q := 0) (by kernel_rfl) (by kernel_rfl) (by kernel_rfl))) ?_
  refine oOp (.d (.bool (r13 != 0))) (by kernel_rfl) (by kernel_rfl) (PureV.does (p_move (by kernel_rfl))) ?_
  refine bMeet 4 rfl ((fun (x3 : Bool) => [(2, .ptr 0 0), (3, .ptr 1 0), (13, .d (.bool x3))])) ((fun (x3 : Bool) => [.box [.d (.lit (List.map e_i64 a0))], .box [.d (.lit (List.map e_i64 b0))]])) (fun s => s) (fun x3 => ?_) (fun hj3 => ?_)
  · refine oView (T' := [(2, .ptr 0 0), (3, .ptr 1 0), (13, .d (.bool x3))]) (H' := [.box [.d (.lit (List.map e_i64 a0))], .box [.d (.lit (List.map e_i64 b0))]]) (by kernel_rfl) (by kernel_rfl) ?_
    refine oEnd ?_
    refine bSplit 13 (by kernel_rfl) (fun hc => ?_) (fun hc => ?_)
    · refine oCondT (by kernel_rfl) ?_
      refine oSeq ?_
      refine oRegion rfl ?_
      refine oOp (.d (.bool false)) (by kernel_rfl) (by kernel_rfl) (PureV.does (p_assign (by kernel_rfl))) ?_
      refine oEnd ?_
      exact oRet (r0 := false) (rv := .d (.bool false)) (B := []) (vs := [.d (.bool false)]) (σ := []) (by kernel_rfl) Try.func20 rfl (.cons _ _ _ _ (.tmp 4 _ (by kernel_rfl)) .nil) (by kernel_rfl) (by kernel_rfl) (by kernel_rfl) (by kernel_rfl) (by decide) (by kernel_rfl) (by kernel_rfl)
    · refine oCondF (by kernel_rfl) ?_
      refine oSkip ?_
      refine oSeq ?_
      refine oSeq ?_
      refine oRegion rfl ?_
      refine oOp (.ptr 0 0) (by kernel_rfl) (by kernel_rfl) (PureV.does (k_fieldAddr 0 0 (by kernel_rfl) Try.underlying26 rfl ty22 (by kernel_rfl))) ?_
      refine oOp (.d (.lit (List.map e_i64 a0))) (by kernel_rfl) (by kernel_rfl) (Quiet.does (k_load 0 0 (by kernel_rfl) Try.underlying22 (by kernel_rfl) (by kernel_rfl))) ?_
      refine oOp (.d (.int .i64 ((List.length a0) : Int))) (by kernel_rfl) (by kernel_rfl) (PureV.does (k_lenLit (enc := e_i64) a0 (by kernel_rfl) Try.underlying22)) ?_
      refine oOp (.ptr 1 0) (by kernel_rfl) (by kernel_rfl) (PureV.does (k_fieldAddr 1 0 (by kernel_rfl) Try.underlying26 rfl ty22 (by kernel_rfl))) ?_
      refine oOp (.d (.lit (List.map e_i64 b0))) (by kernel_rfl) (by kernel_rfl) (Quiet.does (k_load 1 0 (by kernel_rfl) Try.underlying22 (by kernel_rfl) (by kernel_rfl))) ?_
      refine oOp (.d (.int .i64 ((List.length b0) : Int))) (by kernel_rfl) (by kernel_rfl) (PureV.does (k_lenLit (enc := e_i64) b0 (by kernel_rfl) Try.underlying22)) ?_
      refine oOp (.d (.int .i64 (gmax ((List.length a0) : Int) ((List.length b0) : Int)))) (by kernel_rfl) (by kernel_rfl) (PureV.does (p_max2 (k := .i64) (p := ((List.length a0) : Int)) (q := ((List.length b0) : Int)) (by kernel_rfl) (by kernel_rfl) (by kernel_rfl))) ?_
      refine oOp (.d (.int .i64 0)) (by kernel_rfl) (by kernel_rfl) (PureV.does (p_move (by kernel_rfl))) ?_
      refine oEnd ?_
      refine bJoin ((u0 ([]))) ((u0 ([]))) Sum.inl (fun s => ?_) (fun hj2 => ?_)
      · cases s
        refine bInl ?_
        refine bU0 ?_
        refine oView (T' := []) (H' := []) (by kernel_rfl) (by kernel_rfl) ?_
        refine oSeq ?_
        refine oRegion rfl ?_
        refine oOp (.d (.bool true)) (by kernel_rfl) (by kernel_rfl) (PureV.does (p_assign (by kernel_rfl))) ?_
        refine oEnd ?_
        exact oRet (r0 := true) (rv := .d (.bool true)) (B := []) (vs := [.d (.bool true)]) (σ := []) (by kernel_rfl) Try.func20 rfl (.cons _ _ _ _ (.tmp 4 _ (by kernel_rfl)) .nil) (by kernel_rfl) (by kernel_rfl) (by kernel_rfl) (by kernel_rfl) (by decide) (by kernel_rfl) (by kernel_rfl)
      · refine oBlock ?_
        refine oLoop ?_
        refine oHead [2, 3, 20, 21] [0, 1] (T' := [(2, .ptr 0 0), (3, .ptr 1 0), (20, .d (.int .i64 (gmax ((List.length a0) : Int) ((List.length b0) : Int)))), (21, .d (.int .i64 0))]) (H' := [.box [.d (.lit (List.map e_i64 a0))], .box [.d (.lit (List.map e_i64 b0))]]) (by kernel_rfl) (by kernel_rfl) (by kernel_rfl) (by kernel_rfl) (by decide) (by kernel_rfl) (by kernel_rfl) ?_
        refine bLoop (body := distribution_Dominates_b1 k a0 b0) ((fun (x6 : Int) => [(2, .ptr 0 0), (3, .ptr 1 0), (20, .d (.int .i64 (gmax ((List.length a0) : Int) ((List.length b0) : Int)))), (21, .d (.int .i64 x6))])) ((fun (x6 : Int) => [.box [.d (.lit (List.map e_i64 a0))], .box [.d (.lit (List.map e_i64 b0))]])) (fun again hag1 x6 => ?_) k 0
        · unfold distribution_Dominates_b1
          refine oView (T' := [(2, .ptr 0 0), (3, .ptr 1 0), (20, .d (.int .i64 (gmax ((List.length a0) : Int) ((List.length b0) : Int)))), (21, .d (.int .i64 x6))]) (H' := [.box [.d (.lit (List.map e_i64 a0))], .box [.d (.lit (List.map e_i64 b0))]]) (by kernel_rfl) (by kernel_rfl) ?_
          refine oSeq ?_
          refine oRegion rfl ?_
          refine oOp (.d (.bool (decide (x6 < (gmax ((List.length a0) : Int) ((List.length b0) : Int)))))) (by kernel_rfl) (by kernel_rfl) (PureV.does (p_int (k := .i64) (p := x6) (q := (gmax ((List.length a0) : Int) ((List.length b0) : Int))) (by kernel_rfl) (by kernel_rfl) (by kernel_rfl))) ?_
          refine oEnd ?_
          refine oSeq ?_
          refine bSplit 22 (by kernel_rfl) (fun hc => ?_) (fun hc => ?_)
          · refine oCondT (by kernel_rfl) ?_
            refine oSkip ?_
            refine oSeq ?_
            refine oBlock ?_
            refine oSeq ?_
            refine oRegion rfl ?_
            refine oOp (.d (.int .i64 x6)) (by kernel_rfl) (by kernel_rfl) (PureV.does (p_move (by kernel_rfl))) ?_
            refine oOp (.d (.int .i64 x6)) (by kernel_rfl) (by kernel_rfl) (PureV.does (p_assign (by kernel_rfl))) ?_
            refine oEnd ?_
            refine oSeq ?_
            refine oDraw [(0, 13), (1, 13)] rfl ?_
            refine aTakeL (i := 0) (st' := [0]) (.agg [.d (.lit (List.map e_i64 a0))]) rfl (by kernel_rfl) (by kernel_rfl) (by kernel_rfl) (by kernel_rfl) (by kernel_rfl) (by kernel_rfl) (by kernel_rfl) (k_loadAgg 0 0 (by kernel_rfl) Try.underlying26 (by kernel_rfl) ty26 (by kernel_rfl)) ?_
            refine aTakeL (i := 1) (st' := []) (.d (.int .i64 x6)) rfl (by kernel_rfl) (by kernel_rfl) (by kernel_rfl) (by kernel_rfl) (by kernel_rfl) (by kernel_rfl) (by kernel_rfl) (PureV.quiet (p_move (by kernel_rfl)) []) ?_
            refine aTakeL (i := 3) (st' := [1]) (.agg [.d (.lit (List.map e_i64 b0))]) rfl (by kernel_rfl) (by kernel_rfl) (by kernel_rfl) (by kernel_rfl) (by kernel_rfl) (by kernel_rfl) (by kernel_rfl) (k_loadAgg 1 0 (by kernel_rfl) Try.underlying26 (by kernel_rfl) ty26 (by kernel_rfl)) ?_
            refine aTakeL (i := 6) (st' := [1]) (.agg [.d (.lit (List.map e_i64 b0))]) rfl (by kernel_rfl) (by kernel_rfl) (by kernel_rfl) (by kernel_rfl) (by kernel_rfl) (by kernel_rfl) (by kernel_rfl) (k_loadAgg 1 0 (by kernel_rfl) Try.underlying26 (by kernel_rfl) ty26 (by kernel_rfl)) ?_
            refine aTakeL (i := 7) (st' := []) (.d (.int .i64 x6)) rfl (by kernel_rfl) (by kernel_rfl) (by kernel_rfl) (by kernel_rfl) (by kernel_rfl) (by kernel_rfl) (by kernel_rfl) (PureV.quiet (p_move (by kernel_rfl)) []) ?_
            refine aTakeL (i := 9) (st' := [0]) (.agg [.d (.lit (List.map e_i64 a0))]) rfl (by kernel_rfl) (by kernel_rfl) (by kernel_rfl) (by kernel_rfl) (by kernel_rfl) (by kernel_rfl) (by kernel_rfl) (k_loadAgg 0 0 (by kernel_rfl) Try.underlying26 (by kernel_rfl) ty26 (by kernel_rfl)) ?_
            refine dCall (i := 2) (caps := []) (v := (fun (r111 : Int) => (.d (.int .i64 r111) : V))) (H' := (fun (r111 : Int) => ([.box [.d (.lit (List.map e_i64 a0))], .box [.d (.lit (List.map e_i64 b0))]] : List Blk))) [] _ (distribution_Below_goes k a0 x6) rfl (by kernel_rfl) (by kernel_rfl) (by kernel_rfl) (by kernel_rfl) (by kernel_rfl) (by kernel_rfl) (by kernel_rfl) (by kernel_rfl) rfl (by kernel_rfl) Try.func16 rfl (by kernel_rfl) (ConvRs.refl _ _) (by kernel_rfl) (by kernel_rfl) (by kernel_rfl) (by decide) (by kernel_rfl) (by kernel_rfl) (fun _ => (by kernel_rfl)) (fun _ => (by kernel_rfl)) (fun _ => (by kernel_rfl)) (fun r111 => ?_)
            refine dCall (i := 4) (caps := []) (v := (fun (r112 : Int) => (.d (.int .i64 r112) : V))) (H' := (fun (r112 : Int) => ([.box [.d (.lit (List.map e_i64 a0))], .box [.d (.lit (List.map e_i64 b0))]] : List Blk))) [] _ (distribution_Count_goes k b0) rfl (by kernel_rfl) (by kernel_rfl) (by kernel_rfl) (by kernel_rfl) (by kernel_rfl) (by kernel_rfl) (by kernel_rfl) (by kernel_rfl) rfl (by kernel_rfl) Try.func15 rfl (by kernel_rfl) (ConvRs.refl _ _) (by kernel_rfl) (by kernel_rfl) (by kernel_rfl) (by decide) (by kernel_rfl) (by kernel_rfl) (fun _ => (by kernel_rfl)) (fun _ => (by kernel_rfl)) (fun _ => (by kernel_rfl)) (fun r112 => ?_)
            refine aTakeL (i := 5) (st' := []) (.d (.int .i64 (IntKind.wrap .i64 (r111 * r112)))) rfl (by kernel_rfl) (by kernel_rfl) (by kernel_rfl) (by kernel_rfl) (by kernel_rfl) (by kernel_rfl) (by kernel_rfl) (PureV.quiet (p_int (k := .i64) (p := r111) (q := r112) (by kernel_rfl) (by kernel_rfl) (by kernel_rfl)) []) ?_
            refine dCall (i := 8) (caps := []) (v := (fun (r113 : Int) => (.d (.int .i64 r113) : V))) (H' := (fun (r113 : Int) => ([.box [.d (.lit (List.map e_i64 a0))], .box [.d (.lit (List.map e_i64 b0))]] : List Blk))) [] _ (distribution_Below_goes k b0 x6) rfl (by kernel_rfl) (by kernel_rfl) (by kernel_rfl) (by kernel_rfl) (by kernel_rfl) (by kernel_rfl) (by kernel_rfl) (by kernel_rfl) rfl (by kernel_rfl) Try.func16 rfl (by kernel_rfl) (ConvRs.refl _ _) (by kernel_rfl) (by kernel_rfl) (by kernel_rfl) (by decide) (by kernel_rfl) (by kernel_rfl) (fun _ => (by kernel_rfl)) (fun _ => (by kernel_rfl)) (fun _ => (by kernel_rfl)) (fun r113 => ?_)
            refine dCall (i := 10) (caps := []) (v := (fun (r114 : Int) => (.d (.int .i64 r114) : V))) (H' := (fun (r114 : Int) => ([.box [.d (.lit (List.map e_i64 a0))], .box [.d (.lit (List.map e_i64 b0))]] : List Blk))) [] _ (distribution_Count_goes k a0) rfl (by kernel_rfl) (by kernel_rfl) (by kernel_rfl) (by kernel_rfl) (by kernel_rfl) (by kernel_rfl) (by kernel_rfl) (by kernel_rfl) rfl (by kernel_rfl) Try.func15 rfl (by kernel_rfl) (ConvRs.refl _ _) (by kernel_rfl) (by kernel_rfl) (by kernel_rfl) (by decide) (by kernel_rfl) (by kernel_rfl) (fun _ => (by kernel_rfl)) (fun _ => (by kernel_rfl)) (fun _ => (by kernel_rfl)) (fun r114 => ?_)
            refine aTakeL (i := 11) (st' := []) (.d (.int .i64 (IntKind.wrap .i64 (r113 * r114)))) rfl (by kernel_rfl) (by kernel_rfl) (by kernel_rfl) (by kernel_rfl) (by kernel_rfl) (by kernel_rfl) (by kernel_rfl) (PureV.quiet (p_int (k := .i64) (p := r113) (q := r114) (by kernel_rfl) (by kernel_rfl) (by kernel_rfl)) []) ?_
            refine aTakeL (i := 12) (st' := []) (.d (.bool (decide ((IntKind.wrap .i64 (r111 * r112)) > (IntKind.wrap .i64 (r113 * r114)))))) rfl (by kernel_rfl) (by kernel_rfl) (by kernel_rfl) (by kernel_rfl) (by kernel_rfl) (by kernel_rfl) (by kernel_rfl) (PureV.quiet (p_int (k := .i64) (p := (IntKind.wrap .i64 (r111 * r112))) (q := (IntKind.wrap .i64 (r113 * r114))) (by kernel_rfl) (by kernel_rfl) (by kernel_rfl)) []) ?_
            refine aDone (by kernel_rfl) ?_
            refine bSplit 36 (by kernel_rfl) (fun hc => ?_) (fun hc => ?_)
            · refine oCondT (by kernel_rfl) ?_
              refine oSeq ?_
              refine oRegion rfl ?_
              refine oOp (.d (.bool false)) (by kernel_rfl) (by kernel_rfl) (PureV.does (p_assign (by kernel_rfl))) ?_
              refine oEnd ?_
              exact oRet (r0 := false) (rv := .d (.bool false)) (B := []) (vs := [.d (.bool false)]) (σ := []) (by kernel_rfl) Try.func20 rfl (.cons _ _ _ _ (.tmp 4 _ (by kernel_rfl)) .nil) (by kernel_rfl) (by kernel_rfl) (by kernel_rfl) (by kernel_rfl) (by decide) (by kernel_rfl) (by kernel_rfl)
            · refine oCondF (by kernel_rfl) ?_
              refine oSkip ?_
              refine oBlk ?_
              refine oRegion rfl ?_
              refine oOp (.d (.int .i64 (IntKind.wrap .i64 (x6 + 1)))) (by kernel_rfl) (by kernel_rfl) (PureV.does (p_int (k := .i64) (p := x6) (q := 1) (by kernel_rfl) (by kernel_rfl) (by kernel_rfl))) ?_
              refine oOp (.d (.int .i64 (IntKind.wrap .i64 (x6 + 1)))) (by kernel_rfl) (by kernel_rfl) (PureV.does (p_move (by kernel_rfl))) ?_
              refine oEnd ?_
              refine oAgain ?_
              refine oHead [2, 3, 20, 21] [0, 1] (T' := [(2, .ptr 0 0), (3, .ptr 1 0), (20, .d (.int .i64 (gmax ((List.length a0) : Int) ((List.length b0) : Int)))), (21, .d (.int .i64 (IntKind.wrap .i64 (x6 + 1))))]) (H' := [.box [.d (.lit (List.map e_i64 a0))], .box [.d (.lit (List.map e_i64 b0))]]) (by kernel_rfl) (by kernel_rfl) (by kernel_rfl) (by kernel_rfl) (by decide) (by kernel_rfl) (by kernel_rfl) ?_
              exact hag1 (IntKind.wrap .i64 (x6 + 1))
          · refine oCondF (by kernel_rfl) ?_
            refine oExit rfl ?_
            refine oHead [] [] (T' := []) (H' := []) (by kernel_rfl) (by kernel_rfl) (by kernel_rfl) (by kernel_rfl) (by decide) (by kernel_rfl) (by kernel_rfl) ?_
            exact hj2 ()
  · refine bSplit 9 (by kernel_rfl) (fun hc => ?_) (fun hc => ?_)
    · refine oNot (by kernel_rfl) (by kernel_rfl) ?_
      refine oNot (by kernel_rfl) (by kernel_rfl) ?_
      refine oNot (by kernel_rfl) (by kernel_rfl) ?_
      refine oOp (.d (.bool true)) (by kernel_rfl) (by kernel_rfl) (PureV.does (p_pick (b := true) (by kernel_rfl) (by kernel_rfl))) ?_
      refine oHead [2, 3, 13] [0, 1] (T' := [(2, .ptr 0 0), (3, .ptr 1 0), (13, .d (.bool true))]) (H' := [.box [.d (.lit (List.map e_i64 a0))], .box [.d (.lit (List.map e_i64 b0))]]) (by kernel_rfl) (by kernel_rfl) (by kernel_rfl) (by kernel_rfl) (by decide) (by kernel_rfl) (by kernel_rfl) ?_
      exact hj3 true
    · refine oOp (.agg [.d (.lit (List.map e_i64 b0))]) (by kernel_rfl) (by kernel_rfl) (Quiet.does (k_loadAgg 1 0 (by kernel_rfl) Try.underlying26 (by kernel_rfl) ty26 (by kernel_rfl))) ?_
      refine bCall (caps := []) (v := (fun (r15 : Int) => (.d (.int .i64 r15) : V))) (H' := (fun (r15 : Int) => ([.box [.d (.lit (List.map e_i64 a0))], .box [.d (.lit (List.map e_i64 b0))]] : List Blk))) [] _ (distribution_check_goes k b0) (by kernel_rfl) (by kernel_rfl) rfl (by kernel_rfl) Try.func44 rfl (by kernel_rfl) (ConvRs.refl _ _) (by kernel_rfl) (by kernel_rfl) (by kernel_rfl) (by decide) (by kernel_rfl) (by kernel_rfl) (fun _ => (by kernel_rfl)) (fun _ => (by kernel_rfl)) (fun _ => (by kernel_rfl)) (fun r15 => ?_)
      refine oOp (.d (.bool (r15 != 0))) (by kernel_rfl) (by kernel_rfl) (PureV.does (p_int (k := .i64) (p := r15) (q := 0) (by kernel_rfl) (by kernel_rfl) (by kernel_rfl))) ?_
      refine oOp (.d (.bool (r15 != 0))) (by kernel_rfl) (by kernel_rfl) (PureV.does (p_pick (b := false) (by kernel_rfl) (by kernel_rfl))) ?_
      refine oHead [2, 3, 13] [0, 1] (T' := [(2, .ptr 0 0), (3, .ptr 1 0), (13, .d (.bool (r15 != 0)))]) (H' := [.box [.d (.lit (List.map e_i64 a0))], .box [.d (.lit (List.map e_i64 b0))]]) (by kernel_rfl) (by kernel_rfl) (by kernel_rfl) (by kernel_rfl) (by decide) (by kernel_rfl) (by kernel_rfl) ?_
      exact hj3 (r15 != 0)

/-- awardingbody/awardingbodyref01.Valid -/
def ref01_Valid (k : Nat) (a0 : Int) (a1 : Int) : Option (Bool) := blet ((decide (a1 < 1)) || (decide (a1 > 1152921504606846976))) fun x3 => blet (x3 || (decide (a0 < (-1152921504606846976)))) fun x4 => blet (x4 || (decide (a0 > 1152921504606846976))) fun x5 => bif x5 then some false else Option.bind (ref01_Size k a0) (fun r1 => Option.bind (ref01_Size k a1) (fun r11 => Option.bind (ref01_Divisor k 0 r1 0 r11) (uc fun r12 => fun r111 => some ((r12 == 0) && ((r111 == 1) && true)))))
def ref01_Valid_E (a0 : Int) (a1 : Int) : Bool → V × List Blk := fun r13 => (.d (.bool r13), [])
theorem ref01_Valid_goes (k : Nat) (a0 : Int) (a1 : Int) : RunsO Try.prog 56 [.agg [.d (.int .i64 a0), .d (.int .i64 a1)]] [] (ref01_Valid_E a0 a1) (ref01_Valid k a0 a1) := by
  refine RunsO.of_goes (N := 32) (m := 0) (T := [(0, .agg [.d (.int .i64 a0), .d (.int .i64 a1)])]) Try.func56 rfl rfl (by kernel_rfl) (by kernel_rfl) (by kernel_rfl) ?_
  unfold ref01_Valid
  refine bStart ?_
  refine oSeq ?_
  refine oRegion rfl ?_
  refine oOp (.ptr 0 0) (by kernel_rfl) (by kernel_rfl) (k_box (H' := [.box [.d (.int .i64 a0), .d (.int .i64 a1)]]) (cells := [.d (.int .i64 a0), .d (.int .i64 a1)]) (by kernel_rfl) (by kernel_rfl) (by kernel_rfl)) ?_
  refine oOp (.d (.bool false)) (by kernel_rfl) (by kernel_rfl) (PureV.does (p_assign (by kernel_rfl))) ?_
  refine oEnd ?_
  refine oSeq ?_
  refine oSeq ?_
  refine oRegion rfl ?_
  refine oOp (.ptr 0 1) (by kernel_rfl) (by kernel_rfl) (PureV.does (k_fieldAddr 0 0 (by kernel_rfl) Try.underlying31 rfl ty3 (by kernel_rfl))) ?_
  refine oOp (.d (.int .i64 a1)) (by kernel_rfl) (by kernel_rfl) (Quiet.does (k_load 0 1 (by kernel_rfl) Try.underlying3 (by kernel_rfl) (by kernel_rfl))) ?_
  refine oOp (.d (.bool (decide (a1 < 1)))) (by kernel_rfl) (by kernel_rfl) (PureV.does (p_int (k := .i64) (p := a1) (q := 1) (by kernel_rfl) (by kernel_rfl) (by kernel_rfl))) ?_
  refine oOp (.d (.bool (decide (a1 < 1)))) (by kernel_rfl) (by kernel_rfl) (PureV.does (p_move (by kernel_rfl))) ?_
  refine bMeetF (H' := [.box [.d (.int .i64 a0), .d (.int .i64 a1)]]) 4 rfl ((fun (x3 : Bool) => [(1, .ptr 0 0), (10, .d (.bool x3))])) (fun x3 => ?_) (fun F hj1 => ?_)
  · refine oView (T' := [(1, .ptr 0 0), (10, .d (.bool x3))]) (H' := [.box [.d (.int .i64 a0), .d (.int .i64 a1)]]) (by kernel_rfl) (by kernel_rfl) ?_
    refine oOp (.d (.bool x3)) (by kernel_rfl) (by kernel_rfl) (PureV.does (p_move (by kernel_rfl))) ?_
    refine bMeetF (H' := [.box [.d (.int .i64 a0), .d (.int .i64 a1)]]) 4 rfl ((fun (x4 : Bool) => [(1, .ptr 0 0), (15, .d (.bool x4))])) (fun x4 => ?_) (fun F hj2 => ?_)
    · refine oView (T' := [(1, .ptr 0 0), (15, .d (.bool x4))]) (H' := [.box [.d (.int .i64 a0), .d (.int .i64 a1)]]) (by kernel_rfl) (by kernel_rfl) ?_
      refine oOp (.d (.bool x4)) (by kernel_rfl) (by kernel_rfl) (PureV.does (p_move (by kernel_rfl))) ?_
      refine bMeetF (H' := [.box [.d (.int .i64 a0), .d (.int .i64 a1)]]) 4 rfl ((fun (x5 : Bool) => [(1, .ptr 0 0), (20, .d (.bool x5))])) (fun x5 => ?_) (fun F hj3 => ?_)
      · refine oView (T' := [(1, .ptr 0 0), (20, .d (.bool x5))]) (H' := [.box [.d (.int .i64 a0), .d (.int .i64 a1)]]) (by kernel_rfl) (by kernel_rfl) ?_
        refine oEnd ?_
        refine bSplit 20 (by kernel_rfl) (fun hc => ?_) (fun hc => ?_)
        · refine oCondT (by kernel_rfl) ?_
          refine oSeq ?_
          refine oRegion rfl ?_
          refine oOp (.d (.bool false)) (by kernel_rfl) (by kernel_rfl) (PureV.does (p_assign (by kernel_rfl))) ?_
          refine oEnd ?_
          exact oRet (r0 := false) (rv := .d (.bool false)) (B := []) (vs := [.d (.bool false)]) (σ := []) (by kernel_rfl) Try.func56 rfl (.cons _ _ _ _ (.tmp 2 _ (by kernel_rfl)) .nil) (by kernel_rfl) (by kernel_rfl) (by kernel_rfl) (by kernel_rfl) (by decide) (by kernel_rfl) (by kernel_rfl)
        · refine oCondF (by kernel_rfl) ?_
          refine oSkip ?_
          refine oSeq ?_
          refine oDraw [(0, 12)] rfl ?_
          refine aTakeL (i := 0) (st' := []) (.ptr 0 0) rfl (by kernel_rfl) (by kernel_rfl) (by kernel_rfl) (by kernel_rfl) (by kernel_rfl) (by kernel_rfl) (by kernel_rfl) (PureV.quiet (k_fieldAddr 0 0 (by kernel_rfl) Try.underlying31 rfl ty3 (by kernel_rfl)) []) ?_
          refine aTakeL (i := 1) (st' := [0]) (.d (.int .i64 a0)) rfl (by kernel_rfl) (by kernel_rfl) (by kernel_rfl) (by kernel_rfl) (by kernel_rfl) (by kernel_rfl) (by kernel_rfl) (k_load 0 0 (by kernel_rfl) Try.underlying3 (by kernel_rfl) (by kernel_rfl)) ?_
          refine aTakeL (i := 4) (st' := []) (.ptr 0 1) rfl (by kernel_rfl) (by kernel_rfl) (by kernel_rfl) (by kernel_rfl) (by kernel_rfl) (by kernel_rfl) (by kernel_rfl) (PureV.quiet (k_fieldAddr 0 0 (by kernel_rfl) Try.underlying31 rfl ty3 (by kernel_rfl)) []) ?_
          refine aTakeL (i := 5) (st' := [0]) (.d (.int .i64 a1)) rfl (by kernel_rfl) (by kernel_rfl) (by kernel_rfl) (by kernel_rfl) (by kernel_rfl) (by kernel_rfl) (by kernel_rfl) (k_load 0 1 (by kernel_rfl) Try.underlying3 (by kernel_rfl) (by kernel_rfl)) ?_
          refine aTakeL (i := 9) (st' := []) (.agg [.d (.int .u64 0), .d (.int .u64 1)]) rfl (by kernel_rfl) (by kernel_rfl) (by kernel_rfl) (by kernel_rfl) (by kernel_rfl) (by kernel_rfl) (by kernel_rfl) (PureV.quiet (p_build bld64 (by kernel_rfl)) []) ?_
          refine dCall (i := 2) (caps := []) (v := (fun (r1 : Int) => (.d (.int .u64 r1) : V))) (H' := (fun (r1 : Int) => ([.box [.d (.int .i64 a0), .d (.int .i64 a1)]] : List Blk))) [] _ (ref01_Size_goes k a0) rfl (by kernel_rfl) (by kernel_rfl) (by kernel_rfl) (by kernel_rfl) (by kernel_rfl) (by kernel_rfl) (by kernel_rfl) (by kernel_rfl) rfl (by kernel_rfl) Try.func42 rfl (by kernel_rfl) (ConvRs.refl _ _) (by kernel_rfl) (by kernel_rfl) (by kernel_rfl) (by decide) (by kernel_rfl) (by kernel_rfl) (fun _ => (by kernel_rfl)) (fun _ => (by kernel_rfl)) (fun _ => (by kernel_rfl)) (fun r1 => ?_)
          refine aTakeL (i := 3) (st' := []) (.agg [.d (.int .u64 0), .d (.int .u64 r1)]) rfl (by kernel_rfl) (by kernel_rfl) (by kernel_rfl) (by kernel_rfl) (by kernel_rfl) (by kernel_rfl) (by kernel_rfl) (PureV.quiet (p_build bld64 (by kernel_rfl)) []) ?_
          refine dCall (i := 6) (caps := []) (v := (fun (r11 : Int) => (.d (.int .u64 r11) : V))) (H' := (fun (r11 : Int) => ([.box [.d (.int .i64 a0), .d (.int .i64 a1)]] : List Blk))) [] _ (ref01_Size_goes k a1) rfl (by kernel_rfl) (by kernel_rfl) (by kernel_rfl) (by kernel_rfl) (by kernel_rfl) (by kernel_rfl) (by kernel_rfl) (by kernel_rfl) rfl (by kernel_rfl) Try.func42 rfl (by kernel_rfl) (ConvRs.refl _ _) (by kernel_rfl) (by kernel_rfl) (by kernel_rfl) (by decide) (by kernel_rfl) (by kernel_rfl) (fun _ => (by kernel_rfl)) (fun _ => (by kernel_rfl)) (fun _ => (by kernel_rfl)) (fun r11 => ?_)
          refine aTakeL (i := 7) (st' := []) (.agg [.d (.int .u64 0), .d (.int .u64 r11)]) rfl (by kernel_rfl) (by kernel_rfl) (by kernel_rfl) (by kernel_rfl) (by kernel_rfl) (by kernel_rfl) (by kernel_rfl) (PureV.quiet (p_build bld64 (by kernel_rfl)) []) ?_
          refine dCall (i := 8) (caps := []) (v := (uc fun (r12 : Int) => (fun (r111 : Int) => (.agg [.d (.int .u64 r12), .d (.int .u64 r111)] : V)))) (H' := (uc fun (r12 : Int) => (fun (r111 : Int) => ([.box [.d (.int .i64 a0), .d (.int .i64 a1)]] : List Blk)))) [] _ (ref01_Divisor_goes k 0 r1 0 r11) rfl (by kernel_rfl) (by kernel_rfl) (by kernel_rfl) (by kernel_rfl) (by kernel_rfl) (by kernel_rfl) (by kernel_rfl) (by kernel_rfl) rfl (by kernel_rfl) Try.func59 rfl (by kernel_rfl) (ConvRs.refl _ _) (by kernel_rfl) (by kernel_rfl) (by kernel_rfl) (by decide) (by kernel_rfl) (by kernel_rfl) (fun _ => (by kernel_rfl)) (fun _ => (by kernel_rfl)) (fun _ => (by kernel_rfl)) (fun r => ?_)
          obtain ⟨r12, r111⟩ := r
          refine dUc ?_
          refine aTakeP (i := 10) (.d (.bool ((r12 == 0) && ((r111 == 1) && true)))) rfl (by kernel_rfl) (by kernel_rfl) (by kernel_rfl) (by kernel_rfl) (by kernel_rfl) (by kernel_rfl) (by kernel_rfl) (k_eqAgg (by kernel_rfl) (by kernel_rfl) Try.eqGuardType64 (EqV.struct 1 64 [.d (.int .u64 r12), .d (.int .u64 r111)] [.d (.int .u64 0), .d (.int .u64 1)] _ ((r12 == 0) && ((r111 == 1) && true)) Try.underlying64 Try.stoodInHeld64 (EqF.one 1 1 _ _ _ _ _ _ _ (r12 == 0) ((r111 == 1) && true) (by kernel_rfl) Try.underlying61 (by kernel_rfl) (by kernel_rfl) (by kernel_rfl) (by kernel_rfl) (EqV.int 61 .u64 .u64 r12 0 Try.underlying61) (EqF.one 1 1 _ _ _ _ _ _ _ (r111 == 1) true (by kernel_rfl) Try.underlying61 (by kernel_rfl) (by kernel_rfl) (by kernel_rfl) (by kernel_rfl) (EqV.int 61 .u64 .u64 r111 1 Try.underlying61) (EqF.nil 1 _ _)))) (by kernel_rfl)) ?_
          refine aTakeL (i := 11) (st' := []) (.d (.bool ((r12 == 0) && ((r111 == 1) && true)))) rfl (by kernel_rfl) (by kernel_rfl) (by kernel_rfl) (by kernel_rfl) (by kernel_rfl) (by kernel_rfl) (by kernel_rfl) (PureV.quiet (p_assign (by kernel_rfl)) []) ?_
          refine aDone (by kernel_rfl) ?_
          exact oRet (r0 := ((r12 == 0) && ((r111 == 1) && true))) (rv := .d (.bool ((r12 == 0) && ((r111 == 1) && true)))) (B := []) (vs := [.d (.bool ((r12 == 0) && ((r111 == 1) && true)))]) (σ := []) (by kernel_rfl) Try.func56 rfl (.cons _ _ _ _ (.tmp 2 _ (by kernel_rfl)) .nil) (by kernel_rfl) (by kernel_rfl) (by kernel_rfl) (by kernel_rfl) (by decide) (by kernel_rfl) (by kernel_rfl)
      · refine bPickF 16 (fun c => F (c || (decide (a0 > 1152921504606846976)))) (by kernel_rfl) (fun hc => ?_) (fun hc => ?_)
        · refine oNot (by kernel_rfl) (by kernel_rfl) ?_
          refine oNot (by kernel_rfl) (by kernel_rfl) ?_
          refine oNot (by kernel_rfl) (by kernel_rfl) ?_
          refine oOp (.d (.bool true)) (by kernel_rfl) (by kernel_rfl) (PureV.does (p_pick (b := true) (by kernel_rfl) (by kernel_rfl))) ?_
          refine oHead [1, 20] [0] (T' := [(1, .ptr 0 0), (20, .d (.bool true))]) (H' := [.box [.d (.int .i64 a0), .d (.int .i64 a1)]]) (by kernel_rfl) (by kernel_rfl) (by kernel_rfl) (by kernel_rfl) (by decide) (by kernel_rfl) (by kernel_rfl) ?_
          exact hj3 true
        · refine oOp (.ptr 0 0) (by kernel_rfl) (by kernel_rfl) (PureV.does (k_fieldAddr 0 0 (by kernel_rfl) Try.underlying31 rfl ty3 (by kernel_rfl))) ?_
          refine oOp (.d (.int .i64 a0)) (by kernel_rfl) (by kernel_rfl) (Quiet.does (k_load 0 0 (by kernel_rfl) Try.underlying3 (by kernel_rfl) (by kernel_rfl))) ?_
          refine oOp (.d (.bool (decide (a0 > 1152921504606846976)))) (by kernel_rfl) (by kernel_rfl) (PureV.does (p_int (k := .i64) (p := a0) (q := 1152921504606846976) (by kernel_rfl) (by kernel_rfl) (by kernel_rfl))) ?_
          refine oOp (.d (.bool (decide (a0 > 1152921504606846976)))) (by kernel_rfl) (by kernel_rfl) (PureV.does (p_pick (b := false) (by kernel_rfl) (by kernel_rfl))) ?_
          refine oHead [1, 20] [0] (T' := [(1, .ptr 0 0), (20, .d (.bool (decide (a0 > 1152921504606846976))))]) (H' := [.box [.d (.int .i64 a0), .d (.int .i64 a1)]]) (by kernel_rfl) (by kernel_rfl) (by kernel_rfl) (by kernel_rfl) (by decide) (by kernel_rfl) (by kernel_rfl) ?_
          exact hj3 (decide (a0 > 1152921504606846976))
    · refine bPickF 11 (fun c => F (c || (decide (a0 < (-1152921504606846976))))) (by kernel_rfl) (fun hc => ?_) (fun hc => ?_)
      · refine oNot (by kernel_rfl) (by kernel_rfl) ?_
        refine oNot (by kernel_rfl) (by kernel_rfl) ?_
        refine oNot (by kernel_rfl) (by kernel_rfl) ?_
        refine oOp (.d (.bool true)) (by kernel_rfl) (by kernel_rfl) (PureV.does (p_pick (b := true) (by kernel_rfl) (by kernel_rfl))) ?_
        refine oHead [1, 15] [0] (T' := [(1, .ptr 0 0), (15, .d (.bool true))]) (H' := [.box [.d (.int .i64 a0), .d (.int .i64 a1)]]) (by kernel_rfl) (by kernel_rfl) (by kernel_rfl) (by kernel_rfl) (by decide) (by kernel_rfl) (by kernel_rfl) ?_
        exact hj2 true
      · refine oOp (.ptr 0 0) (by kernel_rfl) (by kernel_rfl) (PureV.does (k_fieldAddr 0 0 (by kernel_rfl) Try.underlying31 rfl ty3 (by kernel_rfl))) ?_
        refine oOp (.d (.int .i64 a0)) (by kernel_rfl) (by kernel_rfl) (Quiet.does (k_load 0 0 (by kernel_rfl) Try.underlying3 (by kernel_rfl) (by kernel_rfl))) ?_
        refine oOp (.d (.bool (decide (a0 < (-1152921504606846976))))) (by kernel_rfl) (by kernel_rfl) (PureV.does (p_int (k := .i64) (p := a0) (q := (-1152921504606846976)) (by kernel_rfl) (by kernel_rfl) (by kernel_rfl))) ?_
        refine oOp (.d (.bool (decide (a0 < (-1152921504606846976))))) (by kernel_rfl) (by kernel_rfl) (PureV.does (p_pick (b := false) (by kernel_rfl) (by kernel_rfl))) ?_
        refine oHead [1, 15] [0] (T' := [(1, .ptr 0 0), (15, .d (.bool (decide (a0 < (-1152921504606846976)))))]) (H' := [.box [.d (.int .i64 a0), .d (.int .i64 a1)]]) (by kernel_rfl) (by kernel_rfl) (by kernel_rfl) (by kernel_rfl) (by decide) (by kernel_rfl) (by kernel_rfl) ?_
        exact hj2 (decide (a0 < (-1152921504606846976)))
  · refine bPickF 6 (fun c => F (c || (decide (a1 > 1152921504606846976)))) (by kernel_rfl) (fun hc => ?_) (fun hc => ?_)
    · refine oNot (by kernel_rfl) (by kernel_rfl) ?_
      refine oNot (by kernel_rfl) (by kernel_rfl) ?_
      refine oNot (by kernel_rfl) (by kernel_rfl) ?_
      refine oOp (.d (.bool true)) (by kernel_rfl) (by kernel_rfl) (PureV.does (p_pick (b := true) (by kernel_rfl) (by kernel_rfl))) ?_
      refine oHead [1, 10] [0] (T' := [(1, .ptr 0 0), (10, .d (.bool true))]) (H' := [.box [.d (.int .i64 a0), .d (.int .i64 a1)]]) (by kernel_rfl) (by kernel_rfl) (by kernel_rfl) (by kernel_rfl) (by decide) (by kernel_rfl) (by kernel_rfl) ?_
      exact hj1 true
    · refine oOp (.ptr 0 1) (by kernel_rfl) (by kernel_rfl) (PureV.does (k_fieldAddr 0 0 (by kernel_rfl) Try.underlying31 rfl ty3 (by kernel_rfl))) ?_
      refine oOp (.d (.int .i64 a1)) (by kernel_rfl) (by kernel_rfl) (Quiet.does (k_load 0 1 (by kernel_rfl) Try.underlying3 (by kernel_rfl) (by kernel_rfl))) ?_
      refine oOp (.d (.bool (decide (a1 > 1152921504606846976)))) (by kernel_rfl) (by kernel_rfl) (PureV.does (p_int (k := .i64) (p := a1) (q := 1152921504606846976) (by kernel_rfl) (by kernel_rfl) (by kernel_rfl))) ?_
      refine oOp (.d (.bool (decide (a1 > 1152921504606846976)))) (by kernel_rfl) (by kernel_rfl) (PureV.does (p_pick (b := false) (by kernel_rfl) (by kernel_rfl))) ?_
      refine oHead [1, 10] [0] (T' := [(1, .ptr 0 0), (10, .d (.bool (decide (a1 > 1152921504606846976))))]) (H' := [.box [.d (.int .i64 a0), .d (.int .i64 a1)]]) (by kernel_rfl) (by kernel_rfl) (by kernel_rfl) (by kernel_rfl) (by decide) (by kernel_rfl) (by kernel_rfl) ?_
      exact hj1 (decide (a1 > 1152921504606846976))

/-- awardingbody/awardingbodyref01.Product -/
def ref01_Product (k : Nat) (a : Int) (b : Int) : Option (Int × Int) := Option.bind (math_bits_Mul64 k a b) (uc fun r14 => fun r111 => some (r14, r111))
def ref01_Product_E (a : Int) (b : Int) : Int × Int → V × List Blk := uc fun r12 => fun r13 => (.agg [.d (.int .u64 r12), .d (.int .u64 r13)], [])
theorem ref01_Product_goes (k : Nat) (a : Int) (b : Int) : RunsO Try.prog 67 [.d (.int .u64 a), .d (.int .u64 b)] [] (ref01_Product_E a b) (ref01_Product k a b) := by
  refine RunsO.of_goes (N := 16) (m := 0) (T := [(0, .d (.int .u64 a)), (1, .d (.int .u64 b))]) Try.func67 rfl rfl (by kernel_rfl) (by kernel_rfl) (by kernel_rfl) ?_
  unfold ref01_Product
  refine bStart ?_
  refine oSeq ?_
  refine oRegion rfl ?_
  refine oOp (.ptr 0 0) (by kernel_rfl) (by kernel_rfl) (k_alloc (H' := [.box [.d (.int .u64 0), .d (.int .u64 0)]]) ty64 (by kernel_rfl) (by kernel_rfl)) ?_
  refine oEnd ?_
  refine oSeq ?_
  refine oRegion rfl ?_
  refine oOp (.d (.int .u64 a)) (by kernel_rfl) (by kernel_rfl) (PureV.does (p_move (by kernel_rfl))) ?_
  refine oOp (.d (.int .u64 b)) (by kernel_rfl) (by kernel_rfl) (PureV.does (p_move (by kernel_rfl))) ?_
  refine bCall (caps := []) (v := (uc fun (r14 : Int) => (fun (r111 : Int) => (.tuple [.d (.int .u64 r14), .d (.int .u64 r111)] : V)))) (H' := (uc fun (r14 : Int) => (fun (r111 : Int) => ([.box [.d (.int .u64 0), .d (.int .u64 0)]] : List Blk)))) [] _ (math_bits_Mul64_goes k a b) (by kernel_rfl) (by kernel_rfl) rfl (by kernel_rfl) Try.func77 rfl (by kernel_rfl) (ConvRs.refl _ _) (by kernel_rfl) (by kernel_rfl) (by kernel_rfl) (by decide) (by kernel_rfl) (by kernel_rfl) (fun _ => (by kernel_rfl)) (fun _ => (by kernel_rfl)) (fun _ => (by kernel_rfl)) (fun r => ?_)
  obtain ⟨r14, r111⟩ := r
  refine bUc ?_
  refine oOp (.tuple [.d (.int .u64 r14), .d (.int .u64 r111)]) (by kernel_rfl) (by kernel_rfl) (PureV.does (p_move (by kernel_rfl))) ?_
  refine oOp (.d (.int .u64 r14)) (by kernel_rfl) (by kernel_rfl) (PureV.does (k_extract (by kernel_rfl))) ?_
  refine oOp (.d (.int .u64 r111)) (by kernel_rfl) (by kernel_rfl) (PureV.does (k_extract (by kernel_rfl))) ?_
  refine oOp (.d (.int .u64 r14)) (by kernel_rfl) (by kernel_rfl) (PureV.does (p_assign (by kernel_rfl))) ?_
  refine oOp (.d (.int .u64 r111)) (by kernel_rfl) (by kernel_rfl) (PureV.does (p_assign (by kernel_rfl))) ?_
  refine oEnd ?_
  refine oSeq ?_
  refine oRegion rfl ?_
  refine oOp (.d (.int .u64 r14)) (by kernel_rfl) (by kernel_rfl) (PureV.does (p_move (by kernel_rfl))) ?_
  refine oOp (.d (.int .u64 r111)) (by kernel_rfl) (by kernel_rfl) (PureV.does (p_move (by kernel_rfl))) ?_
  refine oOp (.agg [.d (.int .u64 r14), .d (.int .u64 r111)]) (by kernel_rfl) (by kernel_rfl) (PureV.does (p_build bld64 (by kernel_rfl))) ?_
  refine oOp (.undef) (by kernel_rfl) (by kernel_rfl) (k_store (vs := [.d (.int .u64 r14), .d (.int .u64 r111)]) (H' := [.box [.d (.int .u64 r14), .d (.int .u64 r111)]]) 0 0 (by kernel_rfl) ty64 (by kernel_rfl) (by kernel_rfl) (by kernel_rfl)) ?_
  refine oEnd ?_
  exact oRet (r0 := (r14, r111)) (rv := .agg [.d (.int .u64 r14), .d (.int .u64 r111)]) (B := []) (vs := [.agg [.d (.int .u64 r14), .d (.int .u64 r111)]]) (σ := []) (by kernel_rfl) Try.func67 rfl (.cons _ _ _ _ (.agg 4 64 0 0 [.d (.int .u64 r14), .d (.int .u64 r111)] [.d (.int .u64 r14), .d (.int .u64 r111)] _ _ _ _ (by kernel_rfl) (by kernel_rfl) Try.underlying64 (by kernel_rfl) ty64 (by kernel_rfl) (by kernel_rfl)) .nil) (by kernel_rfl) (by kernel_rfl) (by kernel_rfl) (by kernel_rfl) (by decide) (by kernel_rfl) (by kernel_rfl)

/-- awardingbody/awardingbodyref01.Plus -/
def ref01_Plus (k : Nat) (a0 : Int) (a1 : Int) (b0 : Int) (b1 : Int) : Option (Unit) := gcarry a1 b1 0 (gcarry a0 b0 ((a1 + b1 + 0) / 18446744073709551616) (some ()))
def ref01_Plus_E (a0 : Int) (a1 : Int) (b0 : Int) (b1 : Int) : Unit → V × List Blk := u0 ((.agg [.d (.int .u64 ((a0 + b0 + ((a1 + b1 + 0) / 18446744073709551616)) % 18446744073709551616)), .d (.int .u64 ((a1 + b1 + 0) % 18446744073709551616))], []))
theorem ref01_Plus_goes (k : Nat) (a0 : Int) (a1 : Int) (b0 : Int) (b1 : Int) : RunsO Try.prog 76 [.agg [.d (.int .u64 a0), .d (.int .u64 a1)], .agg [.d (.int .u64 b0), .d (.int .u64 b1)]] [] (ref01_Plus_E a0 a1 b0 b1) (ref01_Plus k a0 a1 b0 b1) := by
  refine RunsO.of_goes (N := 29) (m := 0) (T := [(0, .agg [.d (.int .u64 a0), .d (.int .u64 a1)]), (1, .agg [.d (.int .u64 b0), .d (.int .u64 b1)])]) Try.func76 rfl rfl (by kernel_rfl) (by kernel_rfl) (by kernel_rfl) ?_
  unfold ref01_Plus
  refine bStart ?_
  refine oSeq ?_
  refine oRegion rfl ?_
  refine oOp (.ptr 0 0) (by kernel_rfl) (by kernel_rfl) (k_box (H' := [.box [.d (.int .u64 a0), .d (.int .u64 a1)]]) (cells := [.d (.int .u64 a0), .d (.int .u64 a1)]) (by kernel_rfl) (by kernel_rfl) (by kernel_rfl)) ?_
  refine oOp (.ptr 1 0) (by kernel_rfl) (by kernel_rfl) (k_box (H' := [.box [.d (.int .u64 a0), .d (.int .u64 a1)], .box [.d (.int .u64 b0), .d (.int .u64 b1)]]) (cells := [.d (.int .u64 b0), .d (.int .u64 b1)]) (by kernel_rfl) (by kernel_rfl) (by kernel_rfl)) ?_
  refine oOp (.ptr 2 0) (by kernel_rfl) (by kernel_rfl) (k_alloc (H' := [.box [.d (.int .u64 a0), .d (.int .u64 a1)], .box [.d (.int .u64 b0), .d (.int .u64 b1)], .box [.d (.int .u64 0), .d (.int .u64 0)]]) ty64 (by kernel_rfl) (by kernel_rfl)) ?_
  refine oEnd ?_
  refine oSeq ?_
  refine oRegion rfl ?_
  refine oOp (.ptr 0 1) (by kernel_rfl) (by kernel_rfl) (PureV.does (k_fieldAddr 0 0 (by kernel_rfl) Try.underlying64 rfl ty61 (by kernel_rfl))) ?_
  refine oOp (.d (.int .u64 a1)) (by kernel_rfl) (by kernel_rfl) (Quiet.does (k_load 0 1 (by kernel_rfl) Try.underlying61 (by kernel_rfl) (by kernel_rfl))) ?_
  refine oOp (.ptr 1 1) (by kernel_rfl) (by kernel_rfl) (PureV.does (k_fieldAddr 1 0 (by kernel_rfl) Try.underlying64 rfl ty61 (by kernel_rfl))) ?_
  refine oOp (.d (.int .u64 b1)) (by kernel_rfl) (by kernel_rfl) (Quiet.does (k_load 1 1 (by kernel_rfl) Try.underlying61 (by kernel_rfl) (by kernel_rfl))) ?_
  refine bCarry (fun h12 => ?_)
  refine oOp (.tuple [.d (.int .u64 ((a1 + b1 + 0) % 18446744073709551616)), .d (.int .u64 ((a1 + b1 + 0) / 18446744073709551616))]) (by kernel_rfl) (by kernel_rfl) (PureV.does (p_add64 (p := a1) (q := b1) (c := 0) (by kernel_rfl) Try.func81 (by kernel_rfl) (by kernel_rfl) (by kernel_rfl) (by kernel_rfl) (by kernel_rfl) (by kernel_rfl) (by kernel_rfl) h12)) ?_
  refine oOp (.tuple [.d (.int .u64 ((a1 + b1 + 0) % 18446744073709551616)), .d (.int .u64 ((a1 + b1 + 0) / 18446744073709551616))]) (by kernel_rfl) (by kernel_rfl) (PureV.does (p_move (by kernel_rfl))) ?_
  refine oOp (.d (.int .u64 ((a1 + b1 + 0) % 18446744073709551616))) (by kernel_rfl) (by kernel_rfl) (PureV.does (k_extract (by kernel_rfl))) ?_
  refine oOp (.d (.int .u64 ((a1 + b1 + 0) / 18446744073709551616))) (by kernel_rfl) (by kernel_rfl) (PureV.does (k_extract (by kernel_rfl))) ?_
  refine oOp (.d (.int .u64 ((a1 + b1 + 0) % 18446744073709551616))) (by kernel_rfl) (by kernel_rfl) (PureV.does (p_assign (by kernel_rfl))) ?_
  refine oOp (.d (.int .u64 ((a1 + b1 + 0) / 18446744073709551616))) (by kernel_rfl) (by kernel_rfl) (PureV.does (p_assign (by kernel_rfl))) ?_
  refine oEnd ?_
  refine oSeq ?_
  refine oRegion rfl ?_
  refine oOp (.ptr 0 0) (by kernel_rfl) (by kernel_rfl) (PureV.does (k_fieldAddr 0 0 (by kernel_rfl) Try.underlying64 rfl ty61 (by kernel_rfl))) ?_
  refine oOp (.d (.int .u64 a0)) (by kernel_rfl) (by kernel_rfl) (Quiet.does (k_load 0 0 (by kernel_rfl) Try.underlying61 (by kernel_rfl) (by kernel_rfl))) ?_
  refine oOp (.ptr 1 0) (by kernel_rfl) (by kernel_rfl) (PureV.does (k_fieldAddr 1 0 (by kernel_rfl) Try.underlying64 rfl ty61 (by kernel_rfl))) ?_
  refine oOp (.d (.int .u64 b0)) (by kernel_rfl) (by kernel_rfl) (Quiet.does (k_load 1 0 (by kernel_rfl) Try.underlying61 (by kernel_rfl) (by kernel_rfl))) ?_
  refine oOp (.d (.int .u64 ((a1 + b1 + 0) / 18446744073709551616))) (by kernel_rfl) (by kernel_rfl) (PureV.does (p_move (by kernel_rfl))) ?_
  refine bCarry (fun h13 => ?_)
  refine oOp (.tuple [.d (.int .u64 ((a0 + b0 + ((a1 + b1 + 0) / 18446744073709551616)) % 18446744073709551616)), .d (.int .u64 ((a0 + b0 + ((a1 + b1 + 0) / 18446744073709551616)) / 18446744073709551616))]) (by kernel_rfl) (by kernel_rfl) (PureV.does (p_add64 (p := a0) (q := b0) (c := ((a1 + b1 + 0) / 18446744073709551616)) (by kernel_rfl) Try.func81 (by kernel_rfl) (by kernel_rfl) (by kernel_rfl) (by kernel_rfl) (by kernel_rfl) (by kernel_rfl) (by kernel_rfl) h13)) ?_
  refine oOp (.tuple [.d (.int .u64 ((a0 + b0 + ((a1 + b1 + 0) / 18446744073709551616)) % 18446744073709551616)), .d (.int .u64 ((a0 + b0 + ((a1 + b1 + 0) / 18446744073709551616)) / 18446744073709551616))]) (by kernel_rfl) (by kernel_rfl) (PureV.does (p_move (by kernel_rfl))) ?_
  refine oOp (.d (.int .u64 ((a0 + b0 + ((a1 + b1 + 0) / 18446744073709551616)) % 18446744073709551616))) (by kernel_rfl) (by kernel_rfl) (PureV.does (k_extract (by kernel_rfl))) ?_
  refine oOp (.d (.int .u64 ((a0 + b0 + ((a1 + b1 + 0) / 18446744073709551616)) / 18446744073709551616))) (by kernel_rfl) (by kernel_rfl) (PureV.does (k_extract (by kernel_rfl))) ?_
  refine oOp (.d (.int .u64 ((a0 + b0 + ((a1 + b1 + 0) / 18446744073709551616)) % 18446744073709551616))) (by kernel_rfl) (by kernel_rfl) (PureV.does (p_assign (by kernel_rfl))) ?_
  refine oOp (.d (.int .u64 ((a0 + b0 + ((a1 + b1 + 0) / 18446744073709551616)) / 18446744073709551616))) (by kernel_rfl) (by kernel_rfl) (PureV.does (p_assign (by kernel_rfl))) ?_
  refine oEnd ?_
  refine oSeq ?_
  refine oRegion rfl ?_
  refine oOp (.d (.int .u64 ((a0 + b0 + ((a1 + b1 + 0) / 18446744073709551616)) % 18446744073709551616))) (by kernel_rfl) (by kernel_rfl) (PureV.does (p_move (by kernel_rfl))) ?_
  refine oOp (.d (.int .u64 ((a1 + b1 + 0) % 18446744073709551616))) (by kernel_rfl) (by kernel_rfl) (PureV.does (p_move (by kernel_rfl))) ?_
  refine oOp (.agg [.d (.int .u64 ((a0 + b0 + ((a1 + b1 + 0) / 18446744073709551616)) % 18446744073709551616)), .d (.int .u64 ((a1 + b1 + 0) % 18446744073709551616))]) (by kernel_rfl) (by kernel_rfl) (PureV.does (p_build bld64 (by kernel_rfl))) ?_
  refine oOp (.undef) (by kernel_rfl) (by kernel_rfl) (k_store (vs := [.d (.int .u64 ((a0 + b0 + ((a1 + b1 + 0) / 18446744073709551616)) % 18446744073709551616)), .d (.int .u64 ((a1 + b1 + 0) % 18446744073709551616))]) (H' := [.box [.d (.int .u64 a0), .d (.int .u64 a1)], .box [.d (.int .u64 b0), .d (.int .u64 b1)], .box [.d (.int .u64 ((a0 + b0 + ((a1 + b1 + 0) / 18446744073709551616)) % 18446744073709551616)), .d (.int .u64 ((a1 + b1 + 0) % 18446744073709551616))]]) 2 0 (by kernel_rfl) ty64 (by kernel_rfl) (by kernel_rfl) (by kernel_rfl)) ?_
  refine oEnd ?_
  exact oRet (r0 := ()) (rv := .agg [.d (.int .u64 ((a0 + b0 + ((a1 + b1 + 0) / 18446744073709551616)) % 18446744073709551616)), .d (.int .u64 ((a1 + b1 + 0) % 18446744073709551616))]) (B := []) (vs := [.agg [.d (.int .u64 ((a0 + b0 + ((a1 + b1 + 0) / 18446744073709551616)) % 18446744073709551616)), .d (.int .u64 ((a1 + b1 + 0) % 18446744073709551616))]]) (σ := []) (by kernel_rfl) Try.func76 rfl (.cons _ _ _ _ (.agg 4 64 2 0 [.d (.int .u64 ((a0 + b0 + ((a1 + b1 + 0) / 18446744073709551616)) % 18446744073709551616)), .d (.int .u64 ((a1 + b1 + 0) % 18446744073709551616))] [.d (.int .u64 ((a0 + b0 + ((a1 + b1 + 0) / 18446744073709551616)) % 18446744073709551616)), .d (.int .u64 ((a1 + b1 + 0) % 18446744073709551616))] _ _ _ _ (by kernel_rfl) (by kernel_rfl) Try.underlying64 (by kernel_rfl) ty64 (by kernel_rfl) (by kernel_rfl)) .nil) (by kernel_rfl) (by kernel_rfl) (by kernel_rfl) (by kernel_rfl) (by decide) (by kernel_rfl) (by kernel_rfl)

/-- awardingbody/awardingbodyref01.total -/
def ref01_total (k : Nat) (x : Bool) (a0 : Int) (a1 : Int) (y : Bool) (b0 : Int) (b1 : Int) : Option (Bool × Int × Int) := bif (x == y) then Option.bind (ref01_Plus k a0 a1 b0 b1) (u0 (some (x, ((a0 + b0 + ((a1 + b1 + 0) / 18446744073709551616)) % 18446744073709551616), ((a1 + b1 + 0) % 18446744073709551616)))) else Option.bind (ref01_Order k a0 a1 b0 b1) (fun r14 => bif (decide (r14 ≥ 0)) then Option.bind (ref01_Minus k a0 a1 b0 b1) (u0 (some (x, ((a0 - b0 - (if a1 < b1 + 0 then 1 else 0)) % 18446744073709551616), ((a1 - b1 - 0) % 18446744073709551616)))) else Option.bind (ref01_Minus k b0 b1 a0 a1) (u0 (some (y, ((b0 - a0 - (if b1 < a1 + 0 then 1 else 0)) % 18446744073709551616), ((b1 - a1 - 0) % 18446744073709551616)))))
def ref01_total_E (x : Bool) (a0 : Int) (a1 : Int) (y : Bool) (b0 : Int) (b1 : Int) : Bool × Int × Int → V × List Blk := uc fun r11 => uc fun r12 => fun r13 => (.tuple [.d (.bool r11), .agg [.d (.int .u64 r12), .d (.int .u64 r13)]], [])
theorem ref01_total_goes (k : Nat) (x : Bool) (a0 : Int) (a1 : Int) (y : Bool) (b0 : Int) (b1 : Int) : RunsO Try.prog 66 [.d (.bool x), .agg [.d (.int .u64 a0), .d (.int .u64 a1)], .d (.bool y), .agg [.d (.int .u64 b0), .d (.int .u64 b1)]] [] (ref01_total_E x a0 a1 y b0 b1) (ref01_total k x a0 a1 y b0 b1) := by
  refine RunsO.of_goes (N := 29) (m := 0) (T := [(0, .d (.bool x)), (1, .agg [.d (.int .u64 a0), .d (.int .u64 a1)]), (2, .d (.bool y)), (3, .agg [.d (.int .u64 b0), .d (.int .u64 b1)])]) Try.func66 rfl rfl (by kernel_rfl) (by kernel_rfl) (by kernel_rfl) ?_
  unfold ref01_total
  refine bStart ?_
  refine oSeq ?_
  refine oRegion rfl ?_
  refine oOp (.ptr 0 0) (by kernel_rfl) (by kernel_rfl) (k_box (H' := [.box [.d (.int .u64 a0), .d (.int .u64 a1)]]) (cells := [.d (.int .u64 a0), .d (.int .u64 a1)]) (by kernel_rfl) (by kernel_rfl) (by kernel_rfl)) ?_
  refine oOp (.ptr 1 0) (by kernel_rfl) (by kernel_rfl) (k_box (H' := [.box [.d (.int .u64 a0), .d (.int .u64 a1)], .box [.d (.int .u64 b0), .d (.int .u64 b1)]]) (cells := [.d (.int .u64 b0), .d (.int .u64 b1)]) (by kernel_rfl) (by kernel_rfl) (by kernel_rfl)) ?_
  refine oOp (.d (.bool false)) (by kernel_rfl) (by kernel_rfl) (PureV.does (p_assign (by kernel_rfl))) ?_
  refine oOp (.ptr 2 0) (by kernel_rfl) (by kernel_rfl) (k_alloc (H' := [.box [.d (.int .u64 a0), .d (.int .u64 a1)], .box [.d (.int .u64 b0), .d (.int .u64 b1)], .box [.d (.int .u64 0), .d (.int .u64 0)]]) ty64 (by kernel_rfl) (by kernel_rfl)) ?_
  refine oEnd ?_
  refine oSeq ?_
  refine oSeq ?_
  refine oRegion rfl ?_
  refine oOp (.d (.bool x)) (by kernel_rfl) (by kernel_rfl) (PureV.does (p_move (by kernel_rfl))) ?_
  refine oOp (.d (.bool y)) (by kernel_rfl) (by kernel_rfl) (PureV.does (p_move (by kernel_rfl))) ?_
  refine oOp (.d (.bool (x == y))) (by kernel_rfl) (by kernel_rfl) (PureV.does (p_boolEq (p := x) (q := y) (by kernel_rfl) (by kernel_rfl) Try.underlying4 (by kernel_rfl))) ?_
  refine oEnd ?_
  refine bSplit 12 (by kernel_rfl) (fun hc => ?_) (fun hc => ?_)
  · refine oCondT (by kernel_rfl) ?_
    refine oSeq ?_
    refine oRegion rfl ?_
    refine oOp (.d (.bool x)) (by kernel_rfl) (by kernel_rfl) (PureV.does (p_move (by kernel_rfl))) ?_
    refine oOp (.agg [.d (.int .u64 a0), .d (.int .u64 a1)]) (by kernel_rfl) (by kernel_rfl) (Quiet.does (k_loadAgg 0 0 (by kernel_rfl) Try.underlying64 (by kernel_rfl) ty64 (by kernel_rfl))) ?_
    refine oOp (.agg [.d (.int .u64 b0), .d (.int .u64 b1)]) (by kernel_rfl) (by kernel_rfl) (Quiet.does (k_loadAgg 1 0 (by kernel_rfl) Try.underlying64 (by kernel_rfl) ty64 (by kernel_rfl))) ?_
    refine bCall (caps := []) (v := (u0 ((.agg [.d (.int .u64 ((a0 + b0 + ((a1 + b1 + 0) / 18446744073709551616)) % 18446744073709551616)), .d (.int .u64 ((a1 + b1 + 0) % 18446744073709551616))] : V)))) (H' := (u0 (([.box [.d (.int .u64 a0), .d (.int .u64 a1)], .box [.d (.int .u64 b0), .d (.int .u64 b1)], .box [.d (.int .u64 0), .d (.int .u64 0)]] : List Blk)))) [] _ (ref01_Plus_goes k a0 a1 b0 b1) (by kernel_rfl) (by kernel_rfl) rfl (by kernel_rfl) Try.func76 rfl (by kernel_rfl) (ConvRs.refl _ _) (by kernel_rfl) (by kernel_rfl) (by kernel_rfl) (by decide) (by kernel_rfl) (by kernel_rfl) (fun _ => (by kernel_rfl)) (fun _ => (by kernel_rfl)) (fun _ => (by kernel_rfl)) (fun r => ?_)
    cases r
    refine bU0 ?_
    refine oOp (.d (.bool x)) (by kernel_rfl) (by kernel_rfl) (PureV.does (p_assign (by kernel_rfl))) ?_
    refine oOp (.undef) (by kernel_rfl) (by kernel_rfl) (k_store (vs := [.d (.int .u64 ((a0 + b0 + ((a1 + b1 + 0) / 18446744073709551616)) % 18446744073709551616)), .d (.int .u64 ((a1 + b1 + 0) % 18446744073709551616))]) (H' := [.box [.d (.int .u64 a0), .d (.int .u64 a1)], .box [.d (.int .u64 b0), .d (.int .u64 b1)], .box [.d (.int .u64 ((a0 + b0 + ((a1 + b1 + 0) / 18446744073709551616)) % 18446744073709551616)), .d (.int .u64 ((a1 + b1 + 0) % 18446744073709551616))]]) 2 0 (by kernel_rfl) ty64 (by kernel_rfl) (by kernel_rfl) (by kernel_rfl)) ?_
    refine oEnd ?_
    exact oRet (r0 := (x, ((a0 + b0 + ((a1 + b1 + 0) / 18446744073709551616)) % 18446744073709551616), ((a1 + b1 + 0) % 18446744073709551616))) (rv := .tuple [.d (.bool x), .agg [.d (.int .u64 ((a0 + b0 + ((a1 + b1 + 0) / 18446744073709551616)) % 18446744073709551616)), .d (.int .u64 ((a1 + b1 + 0) % 18446744073709551616))]]) (B := []) (vs := [.d (.bool x), .agg [.d (.int .u64 ((a0 + b0 + ((a1 + b1 + 0) / 18446744073709551616)) % 18446744073709551616)), .d (.int .u64 ((a1 + b1 + 0) % 18446744073709551616))]]) (σ := []) (by kernel_rfl) Try.func66 rfl (.cons _ _ _ _ (.tmp 8 _ (by kernel_rfl)) (.cons _ _ _ _ (.agg 9 64 2 0 [.d (.int .u64 ((a0 + b0 + ((a1 + b1 + 0) / 18446744073709551616)) % 18446744073709551616)), .d (.int .u64 ((a1 + b1 + 0) % 18446744073709551616))] [.d (.int .u64 ((a0 + b0 + ((a1 + b1 + 0) / 18446744073709551616)) % 18446744073709551616)), .d (.int .u64 ((a1 + b1 + 0) % 18446744073709551616))] _ _ _ _ (by kernel_rfl) (by kernel_rfl) Try.underlying64 (by kernel_rfl) ty64 (by kernel_rfl) (by kernel_rfl)) .nil)) (by kernel_rfl) (by kernel_rfl) (by kernel_rfl) (by kernel_rfl) (by decide) (by kernel_rfl) (by kernel_rfl)
  · refine oCondF (by kernel_rfl) ?_
    refine oSkip ?_
    refine oSeq ?_
    refine oSeq ?_
    refine oRegion rfl ?_
    refine oOp (.agg [.d (.int .u64 a0), .d (.int .u64 a1)]) (by kernel_rfl) (by kernel_rfl) (Quiet.does (k_loadAgg 0 0 (by kernel_rfl) Try.underlying64 (by kernel_rfl) ty64 (by kernel_rfl))) ?_
    refine oOp (.agg [.d (.int .u64 b0), .d (.int .u64 b1)]) (by kernel_rfl) (by kernel_rfl) (Quiet.does (k_loadAgg 1 0 (by kernel_rfl) Try.underlying64 (by kernel_rfl) ty64 (by kernel_rfl))) ?_
    refine bCall (caps := []) (v := (fun (r14 : Int) => (.d (.int .i64 r14) : V))) (H' := (fun (r14 : Int) => ([.box [.d (.int .u64 a0), .d (.int .u64 a1)], .box [.d (.int .u64 b0), .d (.int .u64 b1)], .box [.d (.int .u64 0), .d (.int .u64 0)]] : List Blk))) [] _ (ref01_Order_goes k a0 a1 b0 b1) (by kernel_rfl) (by kernel_rfl) rfl (by kernel_rfl) Try.func70 rfl (by kernel_rfl) (ConvRs.refl _ _) (by kernel_rfl) (by kernel_rfl) (by kernel_rfl) (by decide) (by kernel_rfl) (by kernel_rfl) (fun _ => (by kernel_rfl)) (fun _ => (by kernel_rfl)) (fun _ => (by kernel_rfl)) (fun r14 => ?_)
    refine oOp (.d (.bool (decide (r14 ≥ 0)))) (by kernel_rfl) (by kernel_rfl) (PureV.does (p_int (k := .i64) (p := r14) (q := 0) (by kernel_rfl) (by kernel_rfl) (by kernel_rfl))) ?_
    refine oEnd ?_
    refine bSplit 20 (by kernel_rfl) (fun hc => ?_) (fun hc => ?_)
    · refine oCondT (by kernel_rfl) ?_
      refine oSeq ?_
      refine oRegion rfl ?_
      refine oOp (.d (.bool x)) (by kernel_rfl) (by kernel_rfl) (PureV.does (p_move (by kernel_rfl))) ?_
      refine oOp (.agg [.d (.int .u64 a0), .d (.int .u64 a1)]) (by kernel_rfl) (by kernel_rfl) (Quiet.does (k_loadAgg 0 0 (by kernel_rfl) Try.underlying64 (by kernel_rfl) ty64 (by kernel_rfl))) ?_
      refine oOp (.agg [.d (.int .u64 b0), .d (.int .u64 b1)]) (by kernel_rfl) (by kernel_rfl) (Quiet.does (k_loadAgg 1 0 (by kernel_rfl) Try.underlying64 (by kernel_rfl) ty64 (by kernel_rfl))) ?_
      refine bCall (caps := []) (v := (u0 ((.agg [.d (.int .u64 ((a0 - b0 - (if a1 < b1 + 0 then 1 else 0)) % 18446744073709551616)), .d (.int .u64 ((a1 - b1 - 0) % 18446744073709551616))] : V)))) (H' := (u0 (([.box [.d (.int .u64 a0), .d (.int .u64 a1)], .box [.d (.int .u64 b0), .d (.int .u64 b1)], .box [.d (.int .u64 0), .d (.int .u64 0)]] : List Blk)))) [] _ (ref01_Minus_goes k a0 a1 b0 b1) (by kernel_rfl) (by kernel_rfl) rfl (by kernel_rfl) Try.func71 rfl (by kernel_rfl) (ConvRs.refl _ _) (by kernel_rfl) (by kernel_rfl) (by kernel_rfl) (by decide) (by kernel_rfl) (by kernel_rfl) (fun _ => (by kernel_rfl)) (fun _ => (by kernel_rfl)) (fun _ => (by kernel_rfl)) (fun r => ?_)
      cases r
      refine bU0 ?_
      refine oOp (.d (.bool x)) (by kernel_rfl) (by kernel_rfl) (PureV.does (p_assign (by kernel_rfl))) ?_
      refine oOp (.undef) (by kernel_rfl) (by kernel_rfl) (k_store (vs := [.d (.int .u64 ((a0 - b0 - (if a1 < b1 + 0 then 1 else 0)) % 18446744073709551616)), .d (.int .u64 ((a1 - b1 - 0) % 18446744073709551616))]) (H' := [.box [.d (.int .u64 a0), .d (.int .u64 a1)], .box [.d (.int .u64 b0), .d (.int .u64 b1)], .box [.d (.int .u64 ((a0 - b0 - (if a1 < b1 + 0 then 1 else 0)) % 18446744073709551616)), .d (.int .u64 ((a1 - b1 - 0) % 18446744073709551616))]]) 2 0 (by kernel_rfl) ty64 (by kernel_rfl) (by kernel_rfl) (by kernel_rfl)) ?_
      refine oEnd ?_
      exact oRet (r0 := (x, ((a0 - b0 - (if a1 < b1 + 0 then 1 else 0)) % 18446744073709551616), ((a1 - b1 - 0) % 18446744073709551616))) (rv := .tuple [.d (.bool x), .agg [.d (.int .u64 ((a0 - b0 - (if a1 < b1 + 0 then 1 else 0)) % 18446744073709551616)), .d (.int .u64 ((a1 - b1 - 0) % 18446744073709551616))]]) (B := []) (vs := [.d (.bool x), .agg [.d (.int .u64 ((a0 - b0 - (if a1 < b1 + 0 then 1 else 0)) % 18446744073709551616)), .d (.int .u64 ((a1 - b1 - 0) % 18446744073709551616))]]) (σ := []) (by kernel_rfl) Try.func66 rfl (.cons _ _ _ _ (.tmp 8 _ (by kernel_rfl)) (.cons _ _ _ _ (.agg 9 64 2 0 [.d (.int .u64 ((a0 - b0 - (if a1 < b1 + 0 then 1 else 0)) % 18446744073709551616)), .d (.int .u64 ((a1 - b1 - 0) % 18446744073709551616))] [.d (.int .u64 ((a0 - b0 - (if a1 < b1 + 0 then 1 else 0)) % 18446744073709551616)), .d (.int .u64 ((a1 - b1 - 0) % 18446744073709551616))] _ _ _ _ (by kernel_rfl) (by kernel_rfl) Try.underlying64 (by kernel_rfl) ty64 (by kernel_rfl) (by kernel_rfl)) .nil)) (by kernel_rfl) (by kernel_rfl) (by kernel_rfl) (by kernel_rfl) (by decide) (by kernel_rfl) (by kernel_rfl)
    · refine oCondF (by kernel_rfl) ?_
      refine oSkip ?_
      refine oSeq ?_
      refine oRegion rfl ?_
      refine oOp (.d (.bool y)) (by kernel_rfl) (by kernel_rfl) (PureV.does (p_move (by kernel_rfl))) ?_
      refine oOp (.agg [.d (.int .u64 b0), .d (.int .u64 b1)]) (by kernel_rfl) (by kernel_rfl) (Quiet.does (k_loadAgg 1 0 (by kernel_rfl) Try.underlying64 (by kernel_rfl) ty64 (by kernel_rfl))) ?_
      refine oOp (.agg [.d (.int .u64 a0), .d (.int .u64 a1)]) (by kernel_rfl) (by kernel_rfl) (Quiet.does (k_loadAgg 0 0 (by kernel_rfl) Try.underlying64 (by kernel_rfl) ty64 (by kernel_rfl))) ?_
      refine bCall (caps := []) (v := (u0 ((.agg [.d (.int .u64 ((b0 - a0 - (if b1 < a1 + 0 then 1 else 0)) % 18446744073709551616)), .d (.int .u64 ((b1 - a1 - 0) % 18446744073709551616))] : V)))) (H' := (u0 (([.box [.d (.int .u64 a0), .d (.int .u64 a1)], .box [.d (.int .u64 b0), .d (.int .u64 b1)], .box [.d (.int .u64 0), .d (.int .u64 0)]] : List Blk)))) [] _ (ref01_Minus_goes k b0 b1 a0 a1) (by kernel_rfl) (by kernel_rfl) rfl (by kernel_rfl) Try.func71 rfl (by kernel_rfl) (ConvRs.refl _ _) (by kernel_rfl) (by kernel_rfl) (by kernel_rfl) (by decide) (by kernel_rfl) (by kernel_rfl) (fun _ => (by kernel_rfl)) (fun _ => (by kernel_rfl)) (fun _ => (by kernel_rfl)) (fun r => ?_)
      cases r
      refine bU0 ?_
      refine oOp (.d (.bool y)) (by kernel_rfl) (by kernel_rfl) (PureV.does (p_assign (by kernel_rfl))) ?_
      refine oOp (.undef) (by kernel_rfl) (by kernel_rfl) (k_store (vs := [.d (.int .u64 ((b0 - a0 - (if b1 < a1 + 0 then 1 else 0)) % 18446744073709551616)), .d (.int .u64 ((b1 - a1 - 0) % 18446744073709551616))]) (H' := [.box [.d (.int .u64 a0), .d (.int .u64 a1)], .box [.d (.int .u64 b0), .d (.int .u64 b1)], .box [.d (.int .u64 ((b0 - a0 - (if b1 < a1 + 0 then 1 else 0)) % 18446744073709551616)), .d (.int .u64 ((b1 - a1 - 0) % 18446744073709551616))]]) 2 0 (by kernel_rfl) ty64 (by kernel_rfl) (by kernel_rfl) (by kernel_rfl)) ?_
      refine oEnd ?_
      exact oRet (r0 := (y, ((b0 - a0 - (if b1 < a1 + 0 then 1 else 0)) % 18446744073709551616), ((b1 - a1 - 0) % 18446744073709551616))) (rv := .tuple [.d (.bool y), .agg [.d (.int .u64 ((b0 - a0 - (if b1 < a1 + 0 then 1 else 0)) % 18446744073709551616)), .d (.int .u64 ((b1 - a1 - 0) % 18446744073709551616))]]) (B := []) (vs := [.d (.bool y), .agg [.d (.int .u64 ((b0 - a0 - (if b1 < a1 + 0 then 1 else 0)) % 18446744073709551616)), .d (.int .u64 ((b1 - a1 - 0) % 18446744073709551616))]]) (σ := []) (by kernel_rfl) Try.func66 rfl (.cons _ _ _ _ (.tmp 8 _ (by kernel_rfl)) (.cons _ _ _ _ (.agg 9 64 2 0 [.d (.int .u64 ((b0 - a0 - (if b1 < a1 + 0 then 1 else 0)) % 18446744073709551616)), .d (.int .u64 ((b1 - a1 - 0) % 18446744073709551616))] [.d (.int .u64 ((b0 - a0 - (if b1 < a1 + 0 then 1 else 0)) % 18446744073709551616)), .d (.int .u64 ((b1 - a1 - 0) % 18446744073709551616))] _ _ _ _ (by kernel_rfl) (by kernel_rfl) Try.underlying64 (by kernel_rfl) ty64 (by kernel_rfl) (by kernel_rfl)) .nil)) (by kernel_rfl) (by kernel_rfl) (by kernel_rfl) (by kernel_rfl) (by decide) (by kernel_rfl) (by kernel_rfl)

/-- awardingbody/awardingbodyref01.Compare -/
def ref01_Compare (k : Nat) (a0 : Int) (a1 : Int) (b0 : Int) (b1 : Int) : Option (Int) := Option.bind (ref01_Valid k a0 a1) (fun r135 => Option.bind (bif (!r135) then some true else Option.bind (ref01_Valid k b0 b1) (fun r137 => some (!r137)) : Option (Bool)) (fun x1 => bif x1 then some 0 else Option.bind (ref01_Size k a0) (fun r1 => Option.bind (ref01_Size k b1) (fun r11 => Option.bind (ref01_Product k r1 r11) (uc fun r12 => fun r132 => Option.bind (ref01_Size k b0) (fun r14 => Option.bind (ref01_Size k a1) (fun r15 => Option.bind (ref01_Product k r14 r15) (uc fun r121 => fun r133 => Option.bind (ref01_total k (decide (a0 < 0)) r12 r132 (decide (b0 > 0)) r121 r133) (uc fun r111 => uc fun r122 => fun r134 => bif ((r122 == 0) && ((r134 == 0) && true)) then some 0 else bif r111 then some (-1) else some 1)))))))))
def ref01_Compare_E (a0 : Int) (a1 : Int) (b0 : Int) (b1 : Int) : Int → V × List Blk := fun r16 => (.d (.int .i64 r16), [])
theorem ref01_Compare_goes (k : Nat) (a0 : Int) (a1 : Int) (b0 : Int) (b1 : Int) : RunsO Try.prog 51 [.agg [.d (.int .i64 a0), .d (.int .i64 a1)], .agg [.d (.int .i64 b0), .d (.int .i64 b1)]] [] (ref01_Compare_E a0 a1 b0 b1) (ref01_Compare k a0 a1 b0 b1) := by
  refine RunsO.of_goes (N := 43) (m := 0) (T := [(0, .agg [.d (.int .i64 a0), .d (.int .i64 a1)]), (1, .agg [.d (.int .i64 b0), .d (.int .i64 b1)])]) Try.func51 rfl rfl (by kernel_rfl) (by kernel_rfl) (by kernel_rfl) ?_
  unfold ref01_Compare
  refine bStart ?_
  refine oSeq ?_
  refine oRegion rfl ?_
  refine oOp (.ptr 0 0) (by kernel_rfl) (by kernel_rfl) (k_box (H' := [.box [.d (.int .i64 a0), .d (.int .i64 a1)]]) (cells := [.d (.int .i64 a0), .d (.int .i64 a1)]) (by kernel_rfl) (by kernel_rfl) (by kernel_rfl)) ?_
  refine oOp (.ptr 1 0) (by kernel_rfl) (by kernel_rfl) (k_box (H' := [.box [.d (.int .i64 a0), .d (.int .i64 a1)], .box [.d (.int .i64 b0), .d (.int .i64 b1)]]) (cells := [.d (.int .i64 b0), .d (.int .i64 b1)]) (by kernel_rfl) (by kernel_rfl) (by kernel_rfl)) ?_
  refine oOp (.d (.int .i64 0)) (by kernel_rfl) (by kernel_rfl) (PureV.does (p_assign (by kernel_rfl))) ?_
  refine oEnd ?_
  refine oSeq ?_
  refine oSeq ?_
  refine oRegion rfl ?_
  refine oOp (.agg [.d (.int .i64 a0), .d (.int .i64 a1)]) (by kernel_rfl) (by kernel_rfl) (Quiet.does (k_loadAgg 0 0 (by kernel_rfl) Try.underlying31 (by kernel_rfl) ty31 (by kernel_rfl))) ?_
  refine bCall (caps := []) (v := (fun (r135 : Bool) => (.d (.bool r135) : V))) (H' := (fun (r135 : Bool) => ([.box [.d (.int .i64 a0), .d (.int .i64 a1)], .box [.d (.int .i64 b0), .d (.int .i64 b1)]] : List Blk))) [] _ (ref01_Valid_goes k a0 a1) (by kernel_rfl) (by kernel_rfl) rfl (by kernel_rfl) Try.func56 rfl (by kernel_rfl) (ConvRs.refl _ _) (by kernel_rfl) (by kernel_rfl) (by kernel_rfl) (by decide) (by kernel_rfl) (by kernel_rfl) (fun _ => (by kernel_rfl)) (fun _ => (by kernel_rfl)) (fun _ => (by kernel_rfl)) (fun r135 => ?_)
  refine oOp (.d (.bool (!r135))) (by kernel_rfl) (by kernel_rfl) (PureV.does (p_not (p := r135) (by kernel_rfl) (by kernel_rfl))) ?_
  refine oOp (.d (.bool (!r135))) (by kernel_rfl) (by kernel_rfl) (PureV.does (p_move (by kernel_rfl))) ?_
  refine bMeet 4 rfl ((fun (x1 : Bool) => [(2, .ptr 0 0), (3, .ptr 1 0), (14, .d (.bool x1))])) ((fun (x1 : Bool) => [.box [.d (.int .i64 a0), .d (.int .i64 a1)], .box [.d (.int .i64 b0), .d (.int .i64 b1)]])) (fun s => s) (fun x1 => ?_) (fun hj1 => ?_)
  · refine oView (T' := [(2, .ptr 0 0), (3, .ptr 1 0), (14, .d (.bool x1))]) (H' := [.box [.d (.int .i64 a0), .d (.int .i64 a1)], .box [.d (.int .i64 b0), .d (.int .i64 b1)]]) (by kernel_rfl) (by kernel_rfl) ?_
    refine oEnd ?_
    refine bSplit 14 (by kernel_rfl) (fun hc => ?_) (fun hc => ?_)
    · refine oCondT (by kernel_rfl) ?_
      refine oSeq ?_
      refine oRegion rfl ?_
      refine oOp (.d (.int .i64 0)) (by kernel_rfl) (by kernel_rfl) (PureV.does (p_assign (by kernel_rfl))) ?_
      refine oEnd ?_
      exact oRet (r0 := 0) (rv := .d (.int .i64 0)) (B := []) (vs := [.d (.int .i64 0)]) (σ := []) (by kernel_rfl) Try.func51 rfl (.cons _ _ _ _ (.tmp 4 _ (by kernel_rfl)) .nil) (by kernel_rfl) (by kernel_rfl) (by kernel_rfl) (by kernel_rfl) (by decide) (by kernel_rfl) (by kernel_rfl)
    · refine oCondF (by kernel_rfl) ?_
      refine oSkip ?_
      refine oSeq ?_
      refine oDraw [(0, 27), (1, 27)] rfl ?_
      refine aTakeL (i := 0) (st' := []) (.ptr 0 0) rfl (by kernel_rfl) (by kernel_rfl) (by kernel_rfl) (by kernel_rfl) (by kernel_rfl) (by kernel_rfl) (by kernel_rfl) (PureV.quiet (k_fieldAddr 0 0 (by kernel_rfl) Try.underlying31 rfl ty3 (by kernel_rfl)) []) ?_
      refine aTakeL (i := 1) (st' := [0]) (.d (.int .i64 a0)) rfl (by kernel_rfl) (by kernel_rfl) (by kernel_rfl) (by kernel_rfl) (by kernel_rfl) (by kernel_rfl) (by kernel_rfl) (k_load 0 0 (by kernel_rfl) Try.underlying3 (by kernel_rfl) (by kernel_rfl)) ?_
      refine aTakeL (i := 2) (st' := []) (.d (.bool (decide (a0 < 0)))) rfl (by kernel_rfl) (by kernel_rfl) (by kernel_rfl) (by kernel_rfl) (by kernel_rfl) (by kernel_rfl) (by kernel_rfl) (PureV.quiet (p_int (k := .i64) (p := a0) (q := 0) (by kernel_rfl) (by kernel_rfl) (by kernel_rfl)) []) ?_
      refine aTakeL (i := 3) (st' := []) (.ptr 0 0) rfl (by kernel_rfl) (by kernel_rfl) (by kernel_rfl) (by kernel_rfl) (by kernel_rfl) (by kernel_rfl) (by kernel_rfl) (PureV.quiet (k_fieldAddr 0 0 (by kernel_rfl) Try.underlying31 rfl ty3 (by kernel_rfl)) []) ?_
      refine aTakeL (i := 4) (st' := [0]) (.d (.int .i64 a0)) rfl (by kernel_rfl) (by kernel_rfl) (by kernel_rfl) (by kernel_rfl) (by kernel_rfl) (by kernel_rfl) (by kernel_rfl) (k_load 0 0 (by kernel_rfl) Try.underlying3 (by kernel_rfl) (by kernel_rfl)) ?_
      refine aTakeL (i := 6) (st' := []) (.ptr 1 1) rfl (by kernel_rfl) (by kernel_rfl) (by kernel_rfl) (by kernel_rfl) (by kernel_rfl) (by kernel_rfl) (by kernel_rfl) (PureV.quiet (k_fieldAddr 1 0 (by kernel_rfl) Try.underlying31 rfl ty3 (by kernel_rfl)) []) ?_
      refine aTakeL (i := 7) (st' := [1]) (.d (.int .i64 b1)) rfl (by kernel_rfl) (by kernel_rfl) (by kernel_rfl) (by kernel_rfl) (by kernel_rfl) (by kernel_rfl) (by kernel_rfl) (k_load 1 1 (by kernel_rfl) Try.underlying3 (by kernel_rfl) (by kernel_rfl)) ?_
      refine aTakeL (i := 10) (st' := []) (.ptr 1 0) rfl (by kernel_rfl) (by kernel_rfl) (by kernel_rfl) (by kernel_rfl) (by kernel_rfl) (by kernel_rfl) (by kernel_rfl) (PureV.quiet (k_fieldAddr 1 0 (by kernel_rfl) Try.underlying31 rfl ty3 (by kernel_rfl)) []) ?_
      refine aTakeL (i := 11) (st' := [1]) (.d (.int .i64 b0)) rfl (by kernel_rfl) (by kernel_rfl) (by kernel_rfl) (by kernel_rfl) (by kernel_rfl) (by kernel_rfl) (by kernel_rfl) (k_load 1 0 (by kernel_rfl) Try.underlying3 (by kernel_rfl) (by kernel_rfl)) ?_
      refine aTakeL (i := 12) (st' := []) (.d (.bool (decide (b0 > 0)))) rfl (by kernel_rfl) (by kernel_rfl) (by kernel_rfl) (by kernel_rfl) (by kernel_rfl) (by kernel_rfl) (by kernel_rfl) (PureV.quiet (p_int (k := .i64) (p := b0) (q := 0) (by kernel_rfl) (by kernel_rfl) (by kernel_rfl)) []) ?_
      refine aTakeL (i := 13) (st' := []) (.ptr 1 0) rfl (by kernel_rfl) (by kernel_rfl) (by kernel_rfl) (by kernel_rfl) (by kernel_rfl) (by kernel_rfl) (by kernel_rfl) (PureV.quiet (k_fieldAddr 1 0 (by kernel_rfl) Try.underlying31 rfl ty3 (by kernel_rfl)) []) ?_
      refine aTakeL (i := 14) (st' := [1]) (.d (.int .i64 b0)) rfl (by kernel_rfl) (by kernel_rfl) (by kernel_rfl) (by kernel_rfl) (by kernel_rfl) (by kernel_rfl) (by kernel_rfl) (k_load 1 0 (by kernel_rfl) Try.underlying3 (by kernel_rfl) (by kernel_rfl)) ?_
      refine aTakeL (i := 16) (st' := []) (.ptr 0 1) rfl (by kernel_rfl) (by kernel_rfl) (by kernel_rfl) (by kernel_rfl) (by kernel_rfl) (by kernel_rfl) (by kernel_rfl) (PureV.quiet (k_fieldAddr 0 0 (by kernel_rfl) Try.underlying31 rfl ty3 (by kernel_rfl)) []) ?_
      refine aTakeL (i := 17) (st' := [0]) (.d (.int .i64 a1)) rfl (by kernel_rfl) (by kernel_rfl) (by kernel_rfl) (by kernel_rfl) (by kernel_rfl) (by kernel_rfl) (by kernel_rfl) (k_load 0 1 (by kernel_rfl) Try.underlying3 (by kernel_rfl) (by kernel_rfl)) ?_
      refine dCall (i := 5) (caps := []) (v := (fun (r1 : Int) => (.d (.int .u64 r1) : V))) (H' := (fun (r1 : Int) => ([.box [.d (.int .i64 a0), .d (.int .i64 a1)], .box [.d (.int .i64 b0), .d (.int .i64 b1)]] : List Blk))) [] _ (ref01_Size_goes k a0) rfl (by kernel_rfl) (by kernel_rfl) (by kernel_rfl) (by kernel_rfl) (by kernel_rfl) (by kernel_rfl) (by kernel_rfl) (by kernel_rfl) rfl (by kernel_rfl) Try.func42 rfl (by kernel_rfl) (ConvRs.refl _ _) (by kernel_rfl) (by kernel_rfl) (by kernel_rfl) (by decide) (by kernel_rfl) (by kernel_rfl) (fun _ => (by kernel_rfl)) (fun _ => (by kernel_rfl)) (fun _ => (by kernel_rfl)) (fun r1 => ?_)
      refine dCall (i := 8) (caps := []) (v := (fun (r11 : Int) => (.d (.int .u64 r11) : V))) (H' := (fun (r11 : Int) => ([.box [.d (.int .i64 a0), .d (.int .i64 a1)], .box [.d (.int .i64 b0), .d (.int .i64 b1)]] : List Blk))) [] _ (ref01_Size_goes k b1) rfl (by kernel_rfl) (by kernel_rfl) (by kernel_rfl) (by kernel_rfl) (by kernel_rfl) (by kernel_rfl) (by kernel_rfl) (by kernel_rfl) rfl (by kernel_rfl) Try.func42 rfl (by kernel_rfl) (ConvRs.refl _ _) (by kernel_rfl) (by kernel_rfl) (by kernel_rfl) (by decide) (by kernel_rfl) (by kernel_rfl) (fun _ => (by kernel_rfl)) (fun _ => (by kernel_rfl)) (fun _ => (by kernel_rfl)) (fun r11 => ?_)
      refine dCall (i := 9) (caps := []) (v := (uc fun (r12 : Int) => (fun (r132 : Int) => (.agg [.d (.int .u64 r12), .d (.int .u64 r132)] : V)))) (H' := (uc fun (r12 : Int) => (fun (r132 : Int) => ([.box [.d (.int .i64 a0), .d (.int .i64 a1)], .box [.d (.int .i64 b0), .d (.int .i64 b1)]] : List Blk)))) [] _ (ref01_Product_goes k r1 r11) rfl (by kernel_rfl) (by kernel_rfl) (by kernel_rfl) (by kernel_rfl) (by kernel_rfl) (by kernel_rfl) (by kernel_rfl) (by kernel_rfl) rfl (by kernel_rfl) Try.func67 rfl (by kernel_rfl) (ConvRs.refl _ _) (by kernel_rfl) (by kernel_rfl) (by kernel_rfl) (by decide) (by kernel_rfl) (by kernel_rfl) (fun _ => (by kernel_rfl)) (fun _ => (by kernel_rfl)) (fun _ => (by kernel_rfl)) (fun r => ?_)
      obtain ⟨r12, r132⟩ := r
      refine dUc ?_
      refine dCall (i := 15) (caps := []) (v := (fun (r14 : Int) => (.d (.int .u64 r14) : V))) (H' := (fun (r14 : Int) => ([.box [.d (.int .i64 a0), .d (.int .i64 a1)], .box [.d (.int .i64 b0), .d (.int .i64 b1)]] : List Blk))) [] _ (ref01_Size_goes k b0) rfl (by kernel_rfl) (by kernel_rfl) (by kernel_rfl) (by kernel_rfl) (by kernel_rfl) (by kernel_rfl) (by kernel_rfl) (by kernel_rfl) rfl (by kernel_rfl) Try.func42 rfl (by kernel_rfl) (ConvRs.refl _ _) (by kernel_rfl) (by kernel_rfl) (by kernel_rfl) (by decide) (by kernel_rfl) (by kernel_rfl) (fun _ => (by kernel_rfl)) (fun _ => (by kernel_rfl)) (fun _ => (by kernel_rfl)) (fun r14 => ?_)
      refine dCall (i := 18) (caps := []) (v := (fun (r15 : Int) => (.d (.int .u64 r15) : V))) (H' := (fun (r15 : Int) => ([.box [.d (.int .i64 a0), .d (.int .i64 a1)], .box [.d (.int .i64 b0), .d (.int .i64 b1)]] : List Blk))) [] _ (ref01_Size_goes k a1) rfl (by kernel_rfl) (by kernel_rfl) (by kernel_rfl) (by kernel_rfl) (by kernel_rfl) (by kernel_rfl) (by kernel_rfl) (by kernel_rfl) rfl (by kernel_rfl) Try.func42 rfl (by kernel_rfl) (ConvRs.refl _ _) (by kernel_rfl) (by kernel_rfl) (by kernel_rfl) (by decide) (by kernel_rfl) (by kernel_rfl) (fun _ => (by kernel_rfl)) (fun _ => (by kernel_rfl)) (fun _ => (by kernel_rfl)) (fun r15 => ?_)
      refine dCall (i := 19) (caps := []) (v := (uc fun (r121 : Int) => (fun (r133 : Int) => (.agg [.d (.int .u64 r121), .d (.int .u64 r133)] : V)))) (H' := (uc fun (r121 : Int) => (fun (r133 : Int) => ([.box [.d (.int .i64 a0), .d (.int .i64 a1)], .box [.d (.int .i64 b0), .d (.int .i64 b1)]] : List Blk)))) [] _ (ref01_Product_goes k r14 r15) rfl (by kernel_rfl) (by kernel_rfl) (by kernel_rfl) (by kernel_rfl) (by kernel_rfl) (by kernel_rfl) (by kernel_rfl) (by kernel_rfl) rfl (by kernel_rfl) Try.func67 rfl (by kernel_rfl) (ConvRs.refl _ _) (by kernel_rfl) (by kernel_rfl) (by kernel_rfl) (by decide) (by kernel_rfl) (by kernel_rfl) (fun _ => (by kernel_rfl)) (fun _ => (by kernel_rfl)) (fun _ => (by kernel_rfl)) (fun r => ?_)
      obtain ⟨r121, r133⟩ := r
      refine dUc ?_
      refine dCall (i := 20) (caps := []) (v := (uc fun (r111 : Bool) => (uc fun (r122 : Int) => (fun (r134 : Int) => (.tuple [.d (.bool r111), .agg [.d (.int .u64 r122), .d (.int .u64 r134)]] : V))))) (H' := (uc fun (r111 : Bool) => (uc fun (r122 : Int) => (fun (r134 : Int) => ([.box [.d (.int .i64 a0), .d (.int .i64 a1)], .box [.d (.int .i64 b0), .d (.int .i64 b1)]] : List Blk))))) [] _ (ref01_total_goes k (decide (a0 < 0)) r12 r132 (decide (b0 > 0)) r121 r133) rfl (by kernel_rfl) (by kernel_rfl) (by kernel_rfl) (by kernel_rfl) (by kernel_rfl) (by kernel_rfl) (by kernel_rfl) (by kernel_rfl) rfl (by kernel_rfl) Try.func66 rfl (by kernel_rfl) (ConvRs.refl _ _) (by kernel_rfl) (by kernel_rfl) (by kernel_rfl) (by decide) (by kernel_rfl) (by kernel_rfl) (fun _ => (by kernel_rfl)) (fun _ => (by kernel_rfl)) (fun _ => (by kernel_rfl)) (fun r => ?_)
      obtain ⟨r111, r122, r134⟩ := r
      refine dUc ?_
      refine dUc ?_
      refine aTakeP (i := 21) (.tuple [.d (.bool r111), .agg [.d (.int .u64 r122), .d (.int .u64 r134)]]) rfl (by kernel_rfl) (by kernel_rfl) (by kernel_rfl) (by kernel_rfl) (by kernel_rfl) (by kernel_rfl) (by kernel_rfl) (p_move (by kernel_rfl)) ?_
      refine aTakeP (i := 22) (.d (.bool r111)) rfl (by kernel_rfl) (by kernel_rfl) (by kernel_rfl) (by kernel_rfl) (by kernel_rfl) (by kernel_rfl) (by kernel_rfl) (k_extract (by kernel_rfl)) ?_
      refine aTakeP (i := 23) (.agg [.d (.int .u64 r122), .d (.int .u64 r134)]) rfl (by kernel_rfl) (by kernel_rfl) (by kernel_rfl) (by kernel_rfl) (by kernel_rfl) (by kernel_rfl) (by kernel_rfl) (k_extract (by kernel_rfl)) ?_
      refine aAlloc (i := 24) (d := 6) rfl (by kernel_rfl) (by kernel_rfl) rfl rfl (by kernel_rfl) (by kernel_rfl) ty64 (cells := [.d (.int .u64 0), .d (.int .u64 0)]) (by kernel_rfl) (by kernel_rfl) ?_
      refine dView (H' := [.box [.d (.int .i64 a0), .d (.int .i64 a1)], .box [.d (.int .i64 b0), .d (.int .i64 b1)], .box [.d (.int .u64 0), .d (.int .u64 0)]]) rfl rfl (by kernel_rfl) ?_
      refine aTakeL (i := 25) (st' := []) (.d (.bool r111)) rfl (by kernel_rfl) (by kernel_rfl) (by kernel_rfl) (by kernel_rfl) (by kernel_rfl) (by kernel_rfl) (by kernel_rfl) (PureV.quiet (p_assign (by kernel_rfl)) []) ?_
      refine aOne (i := 26) (v := .undef) rfl (by kernel_rfl) (by kernel_rfl) (by kernel_rfl) (by kernel_rfl) (by kernel_rfl) (by kernel_rfl) (by kernel_rfl) (Does.acts (k_store (vs := [.d (.int .u64 r122), .d (.int .u64 r134)]) (H' := [.box [.d (.int .i64 a0), .d (.int .i64 a1)], .box [.d (.int .i64 b0), .d (.int .i64 b1)], .box [.d (.int .u64 r122), .d (.int .u64 r134)]]) 2 0 (by kernel_rfl) ty64 (by kernel_rfl) (by kernel_rfl) (by kernel_rfl))) (by kernel_rfl) ?_
      refine aDone (by kernel_rfl) ?_
      refine oSeq ?_
      refine oSeq ?_
      refine oRegion rfl ?_
      refine oOp (.agg [.d (.int .u64 r122), .d (.int .u64 r134)]) (by kernel_rfl) (by kernel_rfl) (Quiet.does (k_loadAgg 2 0 (by kernel_rfl) Try.underlying64 (by kernel_rfl) ty64 (by kernel_rfl))) ?_
      refine oOp (.agg [.d (.int .u64 0), .d (.int .u64 0)]) (by kernel_rfl) (by kernel_rfl) (PureV.does (p_build bld64 (by kernel_rfl))) ?_
      refine oOp (.d (.bool ((r122 == 0) && ((r134 == 0) && true)))) (by kernel_rfl) (by kernel_rfl) (PureV.does (k_eqAgg (by kernel_rfl) (by kernel_rfl) Try.eqGuardType64 (EqV.struct 1 64 [.d (.int .u64 r122), .d (.int .u64 r134)] [.d (.int .u64 0), .d (.int .u64 0)] _ ((r122 == 0) && ((r134 == 0) && true)) Try.underlying64 Try.stoodInHeld64 (EqF.one 1 1 _ _ _ _ _ _ _ (r122 == 0) ((r134 == 0) && true) (by kernel_rfl) Try.underlying61 (by kernel_rfl) (by kernel_rfl) (by kernel_rfl) (by kernel_rfl) (EqV.int 61 .u64 .u64 r122 0 Try.underlying61) (EqF.one 1 1 _ _ _ _ _ _ _ (r134 == 0) true (by kernel_rfl) Try.underlying61 (by kernel_rfl) (by kernel_rfl) (by kernel_rfl) (by kernel_rfl) (EqV.int 61 .u64 .u64 r134 0 Try.underlying61) (EqF.nil 1 _ _)))) (by kernel_rfl))) ?_
      refine oEnd ?_
      refine bSplit 41 (by kernel_rfl) (fun hc => ?_) (fun hc => ?_)
      · refine oCondT (by kernel_rfl) ?_
        refine oSeq ?_
        refine oRegion rfl ?_
        refine oOp (.d (.int .i64 0)) (by kernel_rfl) (by kernel_rfl) (PureV.does (p_assign (by kernel_rfl))) ?_
        refine oEnd ?_
        exact oRet (r0 := 0) (rv := .d (.int .i64 0)) (B := []) (vs := [.d (.int .i64 0)]) (σ := []) (by kernel_rfl) Try.func51 rfl (.cons _ _ _ _ (.tmp 4 _ (by kernel_rfl)) .nil) (by kernel_rfl) (by kernel_rfl) (by kernel_rfl) (by kernel_rfl) (by decide) (by kernel_rfl) (by kernel_rfl)
      · refine oCondF (by kernel_rfl) ?_
        refine oSkip ?_
        refine oSeq ?_
        refine oSeq ?_
        refine oRegion rfl ?_
        refine oOp (.d (.bool r111)) (by kernel_rfl) (by kernel_rfl) (PureV.does (p_move (by kernel_rfl))) ?_
        refine oEnd ?_
        refine bSplit 42 (by kernel_rfl) (fun hc => ?_) (fun hc => ?_)
        · refine oCondT (by kernel_rfl) ?_
          refine oSeq ?_
          refine oRegion rfl ?_
          refine oOp (.d (.int .i64 (-1))) (by kernel_rfl) (by kernel_rfl) (PureV.does (p_assign (by kernel_rfl))) ?_
          refine oEnd ?_
          exact oRet (r0 := (-1)) (rv := .d (.int .i64 (-1))) (B := []) (vs := [.d (.int .i64 (-1))]) (σ := []) (by kernel_rfl) Try.func51 rfl (.cons _ _ _ _ (.tmp 4 _ (by kernel_rfl)) .nil) (by kernel_rfl) (by kernel_rfl) (by kernel_rfl) (by kernel_rfl) (by decide) (by kernel_rfl) (by kernel_rfl)
        · refine oCondF (by kernel_rfl) ?_
          refine oSkip ?_
          refine oSeq ?_
          refine oRegion rfl ?_
          refine oOp (.d (.int .i64 1)) (by kernel_rfl) (by kernel_rfl) (PureV.does (p_assign (by kernel_rfl))) ?_
          refine oEnd ?_
          exact oRet (r0 := 1) (rv := .d (.int .i64 1)) (B := []) (vs := [.d (.int .i64 1)]) (σ := []) (by kernel_rfl) Try.func51 rfl (.cons _ _ _ _ (.tmp 4 _ (by kernel_rfl)) .nil) (by kernel_rfl) (by kernel_rfl) (by kernel_rfl) (by kernel_rfl) (by decide) (by kernel_rfl) (by kernel_rfl)
  · refine bSplit 10 (by kernel_rfl) (fun hc => ?_) (fun hc => ?_)
    · refine oNot (by kernel_rfl) (by kernel_rfl) ?_
      refine oNot (by kernel_rfl) (by kernel_rfl) ?_
      refine oNot (by kernel_rfl) (by kernel_rfl) ?_
      refine oOp (.d (.bool true)) (by kernel_rfl) (by kernel_rfl) (PureV.does (p_pick (b := true) (by kernel_rfl) (by kernel_rfl))) ?_
      refine oHead [2, 3, 14] [0, 1] (T' := [(2, .ptr 0 0), (3, .ptr 1 0), (14, .d (.bool true))]) (H' := [.box [.d (.int .i64 a0), .d (.int .i64 a1)], .box [.d (.int .i64 b0), .d (.int .i64 b1)]]) (by kernel_rfl) (by kernel_rfl) (by kernel_rfl) (by kernel_rfl) (by decide) (by kernel_rfl) (by kernel_rfl) ?_
      exact hj1 true
    · refine oOp (.agg [.d (.int .i64 b0), .d (.int .i64 b1)]) (by kernel_rfl) (by kernel_rfl) (Quiet.does (k_loadAgg 1 0 (by kernel_rfl) Try.underlying31 (by kernel_rfl) ty31 (by kernel_rfl))) ?_
      refine bCall (caps := []) (v := (fun (r137 : Bool) => (.d (.bool r137) : V))) (H' := (fun (r137 : Bool) => ([.box [.d (.int .i64 a0), .d (.int .i64 a1)], .box [.d (.int .i64 b0), .d (.int .i64 b1)]] : List Blk))) [] _ (ref01_Valid_goes k b0 b1) (by kernel_rfl) (by kernel_rfl) rfl (by kernel_rfl) Try.func56 rfl (by kernel_rfl) (ConvRs.refl _ _) (by kernel_rfl) (by kernel_rfl) (by kernel_rfl) (by decide) (by kernel_rfl) (by kernel_rfl) (fun _ => (by kernel_rfl)) (fun _ => (by kernel_rfl)) (fun _ => (by kernel_rfl)) (fun r137 => ?_)
      refine oOp (.d (.bool (!r137))) (by kernel_rfl) (by kernel_rfl) (PureV.does (p_not (p := r137) (by kernel_rfl) (by kernel_rfl))) ?_
      refine oOp (.d (.bool (!r137))) (by kernel_rfl) (by kernel_rfl) (PureV.does (p_pick (b := false) (by kernel_rfl) (by kernel_rfl))) ?_
      refine oHead [2, 3, 14] [0, 1] (T' := [(2, .ptr 0 0), (3, .ptr 1 0), (14, .d (.bool (!r137)))]) (H' := [.box [.d (.int .i64 a0), .d (.int .i64 a1)], .box [.d (.int .i64 b0), .d (.int .i64 b1)]]) (by kernel_rfl) (by kernel_rfl) (by kernel_rfl) (by kernel_rfl) (by decide) (by kernel_rfl) (by kernel_rfl) ?_
      exact hj1 (!r137)

/-- awardingbody/awardingbodyref01.Less -/
def ref01_Less (k : Nat) (a0 : Int) (a1 : Int) (b0 : Int) (b1 : Int) : Option (Bool) := Option.bind (ref01_Compare k a0 a1 b0 b1) (fun r161 => some (decide (r161 < 0)))
def ref01_Less_E (a0 : Int) (a1 : Int) (b0 : Int) (b1 : Int) : Bool → V × List Blk := fun r1 => (.d (.bool r1), [])
theorem ref01_Less_goes (k : Nat) (a0 : Int) (a1 : Int) (b0 : Int) (b1 : Int) : RunsO Try.prog 21 [.agg [.d (.int .i64 a0), .d (.int .i64 a1)], .agg [.d (.int .i64 b0), .d (.int .i64 b1)]] [] (ref01_Less_E a0 a1 b0 b1) (ref01_Less k a0 a1 b0 b1) := by
  refine RunsO.of_goes (N := 9) (m := 0) (T := [(0, .agg [.d (.int .i64 a0), .d (.int .i64 a1)]), (1, .agg [.d (.int .i64 b0), .d (.int .i64 b1)])]) Try.func21 rfl rfl (by kernel_rfl) (by kernel_rfl) (by kernel_rfl) ?_
  unfold ref01_Less
  refine bStart ?_
  refine oSeq ?_
  refine oRegion rfl ?_
  refine oOp (.ptr 0 0) (by kernel_rfl) (by kernel_rfl) (k_box (H' := [.box [.d (.int .i64 a0), .d (.int .i64 a1)]]) (cells := [.d (.int .i64 a0), .d (.int .i64 a1)]) (by kernel_rfl) (by kernel_rfl) (by kernel_rfl)) ?_
  refine oOp (.ptr 1 0) (by kernel_rfl) (by kernel_rfl) (k_box (H' := [.box [.d (.int .i64 a0), .d (.int .i64 a1)], .box [.d (.int .i64 b0), .d (.int .i64 b1)]]) (cells := [.d (.int .i64 b0), .d (.int .i64 b1)]) (by kernel_rfl) (by kernel_rfl) (by kernel_rfl)) ?_
  refine oOp (.d (.bool false)) (by kernel_rfl) (by kernel_rfl) (PureV.does (p_assign (by kernel_rfl))) ?_
  refine oEnd ?_
  refine oSeq ?_
  refine oRegion rfl ?_
  refine oOp (.agg [.d (.int .i64 a0), .d (.int .i64 a1)]) (by kernel_rfl) (by kernel_rfl) (Quiet.does (k_loadAgg 0 0 (by kernel_rfl) Try.underlying31 (by kernel_rfl) ty31 (by kernel_rfl))) ?_
  refine oOp (.agg [.d (.int .i64 b0), .d (.int .i64 b1)]) (by kernel_rfl) (by kernel_rfl) (Quiet.does (k_loadAgg 1 0 (by kernel_rfl) Try.underlying31 (by kernel_rfl) ty31 (by kernel_rfl))) ?_
  refine bCall (caps := []) (v := (fun (r161 : Int) => (.d (.int .i64 r161) : V))) (H' := (fun (r161 : Int) => ([.box [.d (.int .i64 a0), .d (.int .i64 a1)], .box [.d (.int .i64 b0), .d (.int .i64 b1)]] : List Blk))) [] _ (ref01_Compare_goes k a0 a1 b0 b1) (by kernel_rfl) (by kernel_rfl) rfl (by kernel_rfl) Try.func51 rfl (by kernel_rfl) (ConvRs.refl _ _) (by kernel_rfl) (by kernel_rfl) (by kernel_rfl) (by decide) (by kernel_rfl) (by kernel_rfl) (fun _ => (by kernel_rfl)) (fun _ => (by kernel_rfl)) (fun _ => (by kernel_rfl)) (fun r161 => ?_)
  refine oOp (.d (.bool (decide (r161 < 0)))) (by kernel_rfl) (by kernel_rfl) (PureV.does (p_int (k := .i64) (p := r161) (q := 0) (by kernel_rfl) (by kernel_rfl) (by kernel_rfl))) ?_
  refine oOp (.d (.bool (decide (r161 < 0)))) (by kernel_rfl) (by kernel_rfl) (PureV.does (p_assign (by kernel_rfl))) ?_
  refine oEnd ?_
  exact oRet (r0 := (decide (r161 < 0))) (rv := .d (.bool (decide (r161 < 0)))) (B := []) (vs := [.d (.bool (decide (r161 < 0)))]) (σ := []) (by kernel_rfl) Try.func21 rfl (.cons _ _ _ _ (.tmp 4 _ (by kernel_rfl)) .nil) (by kernel_rfl) (by kernel_rfl) (by kernel_rfl) (by kernel_rfl) (by decide) (by kernel_rfl) (by kernel_rfl)

/-- awardingbody/awardingbodylaw32.DistributionDominates -/
def law32_DistributionDominates (k : Nat) (t : (List Int)) (n : Int) : Option (Bool) := Option.bind (mark_Light k t) (u0 (bif (!(decide (((List.length t) : Int) ≤ 600))) then Option.bind (law32_sane k) (fun r112 => some r112) else Option.bind (mark_Roll k t) (u0 (Option.bind (mark_Dice_Distribution k 6 false t 0) (uc fun r1212 => fun x73 => Option.bind (mark_Dice_Distribution k 6 false t x73) (uc fun r1213 => fun x74 => Option.bind (mark_Dice_Distribution k 6 false t x74) (uc fun r1214 => fun x75 => Option.bind (distribution_Dominates k r1212 r1213) (fun r1215 => Option.bind (bif r1215 then Option.bind (distribution_Dominates k r1213 r1214) (fun r1228 => some r1228) else some false : Option (Bool)) (fun x11 => Option.bind (bif x11 then Option.bind (distribution_Dominates k r1212 r1214) (fun r1227 => some (!r1227)) else some false : Option (Bool)) (fun x12 => Option.bind (bif x12 then some true else Option.bind (distribution_Count k r1212) (fun r1110 => Option.bind (bif (decide (r1110 > 0)) then Option.bind (distribution_Dominates k r1212 r1212) (fun r1226 => some (!r1226)) else some false : Option (Bool)) (fun x23 => some x23)) : Option (Bool)) (fun x14 => bif x14 then some false else Option.bind (distribution_Mean k r1212) (uc fun r1219 => uc fun r142 => fun r152 => Option.bind (distribution_Mean k r1213) (uc fun r1220 => uc fun r143 => fun r153 => Option.bind (distribution_Dominates k r1212 r1213) (fun r1221 => Option.bind (bif r1221 then blet ((r152 != 0) || (r153 != 0)) fun x21 => Option.bind (bif x21 then some true else Option.bind (ref01_Less k r1219 r142 r1220 r143) (fun r120 => some r120) : Option (Bool)) (fun x22 => some x22) else some false : Option (Bool)) (fun x17 => bif x17 then some false else gnz ((List.length r1212) : Int) (gidx r1212 (Int.tmod (IntKind.wrap .i64 n) ((List.length r1212) : Int)) fun e13 => Option.bind (bif (e13 == 0) then some ((Int.tmod (IntKind.wrap .i64 n) ((List.length r1212) : Int)), true) else some ((Int.tmod (IntKind.wrap .i64 n) ((List.length r1212) : Int)), ((IntKind.wrap .i64 ((Int.tmod (IntKind.wrap .i64 n) ((List.length r1212) : Int)) + 1)) == ((List.length r1212) : Int))) : Option (Int × Bool)) (uc fun i1 => fun x18 => bif x18 then Option.bind (law32_sane k) (fun r116 => some r116) else gcap (List.length r1212) 8 (gidx r1212 i1 fun e14 => blet (List.set r1212 (Int.toNat i1) (IntKind.wrap .i64 (e14 - 1))) fun xs2 => gidx xs2 (IntKind.wrap .i64 (i1 + 1)) fun e15 => blet (List.set xs2 (Int.toNat (IntKind.wrap .i64 (i1 + 1))) (IntKind.wrap .i64 (e15 + 1))) fun xs3 => Option.bind (distribution_Dominates k xs3 r1212) (fun r1222 => Option.bind (bif r1222 then Option.bind (distribution_Dominates k r1212 xs3) (fun r1224 => some (!r1224)) else some false : Option (Bool)) (fun x19 => Option.bind (bif x19 then Option.bind (law32_sane k) (fun r118 => some r118) else some false : Option (Bool)) (fun x20 => some x20)))))))))))))))))))))
def law32_DistributionDominates_E (t : (List Int)) (n : Int) : Bool → V × List Blk := fun r19 => (.d (.bool r19), [])
theorem law32_DistributionDominates_goes (k : Nat) (t : (List Int)) (n : Int) : RunsO Try.prog 5 [.d (.lit (List.map e_i64 t)), .d (.int .u8 n)] [] (law32_DistributionDominates_E t n) (law32_DistributionDominates k t n) := by
  refine RunsO.of_goes (N := 129) (m := 0) (T := [(0, .d (.lit (List.map e_i64 t))), (1, .d (.int .u8 n))]) Try.func5 rfl rfl (by kernel_rfl) (by kernel_rfl) (by kernel_rfl) ?_
  unfold law32_DistributionDominates
  refine bStart ?_
  refine oSeq ?_
  refine oRegion rfl ?_
  refine oOp (.d (.bool false)) (by kernel_rfl) (by kernel_rfl) (PureV.does (p_assign (by kernel_rfl))) ?_
  refine oEnd ?_
  refine oSeq ?_
  refine oSeq ?_
  refine oRegion rfl ?_
  refine oOp (.d (.lit (List.map e_i64 t))) (by kernel_rfl) (by kernel_rfl) (PureV.does (p_move (by kernel_rfl))) ?_
  refine bCall (caps := []) (v := (u0 ((.d (.bool (decide (((List.length t) : Int) ≤ 600))) : V)))) (H' := (u0 (([] : List Blk)))) [] _ (mark_Light_goes k t) (by kernel_rfl) (by kernel_rfl) rfl (by kernel_rfl) Try.func9 rfl (by kernel_rfl) (ConvRs.refl _ _) (by kernel_rfl) (by kernel_rfl) (by kernel_rfl) (by decide) (by kernel_rfl) (by kernel_rfl) (fun _ => (by kernel_rfl)) (fun _ => (by kernel_rfl)) (fun _ => (by kernel_rfl)) (fun r => ?_)
  cases r
  refine bU0 ?_
  refine oOp (.d (.bool (!(decide (((List.length t) : Int) ≤ 600))))) (by kernel_rfl) (by kernel_rfl) (PureV.does (p_not (p := (decide (((List.length t) : Int) ≤ 600))) (by kernel_rfl) (by kernel_rfl))) ?_
  refine oEnd ?_
  refine bSplit 17 (by kernel_rfl) (fun hc => ?_) (fun hc => ?_)
  · refine oCondT (by kernel_rfl) ?_
    refine oSeq ?_
    refine oRegion rfl ?_
    refine bCall (caps := []) (v := (fun (r112 : Bool) => (.d (.bool r112) : V))) (H' := (fun (r112 : Bool) => ([] : List Blk))) [] _ (law32_sane_goes k ) (by kernel_rfl) (by kernel_rfl) rfl (by kernel_rfl) Try.func10 rfl (by kernel_rfl) (ConvRs.refl _ _) (by kernel_rfl) (by kernel_rfl) (by kernel_rfl) (by decide) (by kernel_rfl) (by kernel_rfl) (fun _ => (by kernel_rfl)) (fun _ => (by kernel_rfl)) (fun _ => (by kernel_rfl)) (fun r112 => ?_)
    refine oOp (.d (.bool r112)) (by kernel_rfl) (by kernel_rfl) (PureV.does (p_assign (by kernel_rfl))) ?_
    refine oEnd ?_
    exact oRet (r0 := r112) (rv := .d (.bool r112)) (B := []) (vs := [.d (.bool r112)]) (σ := []) (by kernel_rfl) Try.func5 rfl (.cons _ _ _ _ (.tmp 4 _ (by kernel_rfl)) .nil) (by kernel_rfl) (by kernel_rfl) (by kernel_rfl) (by kernel_rfl) (by decide) (by kernel_rfl) (by kernel_rfl)
  · refine oCondF (by kernel_rfl) ?_
    refine oSkip ?_
    refine oSeq ?_
    refine oRegion rfl ?_
    refine oOp (.d (.lit (List.map e_i64 t))) (by kernel_rfl) (by kernel_rfl) (PureV.does (p_move (by kernel_rfl))) ?_
    refine bCall (caps := []) (v := (u0 ((.ptr 0 0 : V)))) (H' := (u0 (([.box [.d (.lit (List.map e_i64 t)), .d (.int .i64 0)]] : List Blk)))) [] _ (mark_Roll_goes k t) (by kernel_rfl) (by kernel_rfl) rfl (by kernel_rfl) Try.func11 rfl (by kernel_rfl) (ConvRs.refl _ _) (by kernel_rfl) (by kernel_rfl) (by kernel_rfl) (by decide) (by kernel_rfl) (by kernel_rfl) (fun _ => (by kernel_rfl)) (fun _ => (by kernel_rfl)) (fun _ => (by kernel_rfl)) (fun r => ?_)
    cases r
    refine bU0 ?_
    refine oOp (.ptr 0 0) (by kernel_rfl) (by kernel_rfl) (PureV.does (p_assign (by kernel_rfl))) ?_
    refine oEnd ?_
    refine oSeq ?_
    refine oRegion rfl ?_
    refine oOp (.ptr 0 0) (by kernel_rfl) (by kernel_rfl) (PureV.does (p_move (by kernel_rfl))) ?_
    refine bCall (caps := []) (v := (uc fun (r1212 : (List Int)) => (fun (x73 : Int) => (.agg [.d (.lit (List.map e_i64 r1212))] : V)))) (H' := (uc fun (r1212 : (List Int)) => (fun (x73 : Int) => ([.box [.d (.lit (List.map e_i64 t)), .d (.int .i64 x73)]] : List Blk)))) [0] _ (mark_Dice_Distribution_goes k 6 false t 0) (by kernel_rfl) (by kernel_rfl) rfl (by kernel_rfl) Try.func12 rfl (by kernel_rfl) (ConvRs.refl _ _) (by kernel_rfl) (by kernel_rfl) (by kernel_rfl) (by decide) (by kernel_rfl) (by kernel_rfl) (fun _ => (by kernel_rfl)) (fun _ => (by kernel_rfl)) (fun _ => (by kernel_rfl)) (fun r => ?_)
    obtain ⟨r1212, x73⟩ := r
    refine bUc ?_
    refine oOp (.ptr 0 0) (by kernel_rfl) (by kernel_rfl) (PureV.does (p_move (by kernel_rfl))) ?_
    refine bCall (caps := []) (v := (uc fun (r1213 : (List Int)) => (fun (x74 : Int) => (.agg [.d (.lit (List.map e_i64 r1213))] : V)))) (H' := (uc fun (r1213 : (List Int)) => (fun (x74 : Int) => ([.box [.d (.lit (List.map e_i64 t)), .d (.int .i64 x74)]] : List Blk)))) [0] _ (mark_Dice_Distribution_goes k 6 false t x73) (by kernel_rfl) (by kernel_rfl) rfl (by kernel_rfl) Try.func12 rfl (by kernel_rfl) (ConvRs.refl _ _) (by kernel_rfl) (by kernel_rfl) (by kernel_rfl) (by decide) (by kernel_rfl) (by kernel_rfl) (fun _ => (by kernel_rfl)) (fun _ => (by kernel_rfl)) (fun _ => (by kernel_rfl)) (fun r => ?_)
    obtain ⟨r1213, x74⟩ := r
    refine bUc ?_
    refine oOp (.ptr 0 0) (by kernel_rfl) (by kernel_rfl) (PureV.does (p_move (by kernel_rfl))) ?_
    refine bCall (caps := []) (v := (uc fun (r1214 : (List Int)) => (fun (x75 : Int) => (.agg [.d (.lit (List.map e_i64 r1214))] : V)))) (H' := (uc fun (r1214 : (List Int)) => (fun (x75 : Int) => ([.box [.d (.lit (List.map e_i64 t)), .d (.int .i64 x75)]] : List Blk)))) [0] _ (mark_Dice_Distribution_goes k 6 false t x74) (by kernel_rfl) (by kernel_rfl) rfl (by kernel_rfl) Try.func12 rfl (by kernel_rfl) (ConvRs.refl _ _) (by kernel_rfl) (by kernel_rfl) (by kernel_rfl) (by decide) (by kernel_rfl) (by kernel_rfl) (fun _ => (by kernel_rfl)) (fun _ => (by kernel_rfl)) (fun _ => (by kernel_rfl)) (fun r => ?_)
    obtain ⟨r1214, x75⟩ := r
    refine bUc ?_
    refine oOp (.ptr 1 0) (by kernel_rfl) (by kernel_rfl) (k_alloc (H' := [.box [.d (.lit (List.map e_i64 t)), .d (.int .i64 x75)], .box [.nilc]]) ty26 (by kernel_rfl) (by kernel_rfl)) ?_
    refine oOp (.ptr 2 0) (by kernel_rfl) (by kernel_rfl) (k_alloc (H' := [.box [.d (.lit (List.map e_i64 t)), .d (.int .i64 x75)], .box [.nilc], .box [.nilc]]) ty26 (by kernel_rfl) (by kernel_rfl)) ?_
    refine oOp (.ptr 3 0) (by kernel_rfl) (by kernel_rfl) (k_alloc (H' := [.box [.d (.lit (List.map e_i64 t)), .d (.int .i64 x75)], .box [.nilc], .box [.nilc], .box [.nilc]]) ty26 (by kernel_rfl) (by kernel_rfl)) ?_
    refine oOp (.undef) (by kernel_rfl) (by kernel_rfl) (k_store (vs := [.d (.lit (List.map e_i64 r1212))]) (H' := [.box [.d (.lit (List.map e_i64 t)), .d (.int .i64 x75)], .box [.d (.lit (List.map e_i64 r1212))], .box [.nilc], .box [.nilc]]) 1 0 (by kernel_rfl) ty26 (by kernel_rfl) (by kernel_rfl) (by kernel_rfl)) ?_
    refine oOp (.undef) (by kernel_rfl) (by kernel_rfl) (k_store (vs := [.d (.lit (List.map e_i64 r1213))]) (H' := [.box [.d (.lit (List.map e_i64 t)), .d (.int .i64 x75)], .box [.d (.lit (List.map e_i64 r1212))], .box [.d (.lit (List.map e_i64 r1213))], .box [.nilc]]) 2 0 (by kernel_rfl) ty26 (by kernel_rfl) (by kernel_rfl) (by kernel_rfl)) ?_
    refine oOp (.undef) (by kernel_rfl) (by kernel_rfl) (k_store (vs := [.d (.lit (List.map e_i64 r1214))]) (H' := [.box [.d (.lit (List.map e_i64 t)), .d (.int .i64 x75)], .box [.d (.lit (List.map e_i64 r1212))], .box [.d (.lit (List.map e_i64 r1213))], .box [.d (.lit (List.map e_i64 r1214))]]) 3 0 (by kernel_rfl) ty26 (by kernel_rfl) (by kernel_rfl) (by kernel_rfl)) ?_
    refine oEnd ?_
    refine oSeq ?_
    refine oSeq ?_
    refine oRegion rfl ?_
    refine oOp (.agg [.d (.lit (List.map e_i64 r1212))]) (by kernel_rfl) (by kernel_rfl) (Quiet.does (k_loadAgg 1 0 (by kernel_rfl) Try.underlying26 (by kernel_rfl) ty26 (by kernel_rfl))) ?_
    refine oOp (.agg [.d (.lit (List.map e_i64 r1213))]) (by kernel_rfl) (by kernel_rfl) (Quiet.does (k_loadAgg 2 0 (by kernel_rfl) Try.underlying26 (by kernel_rfl) ty26 (by kernel_rfl))) ?_
    refine bCall (caps := []) (v := (fun (r1215 : Bool) => (.d (.bool r1215) : V))) (H' := (fun (r1215 : Bool) => ([.box [.d (.lit (List.map e_i64 t)), .d (.int .i64 x75)], .box [.d (.lit (List.map e_i64 r1212))], .box [.d (.lit (List.map e_i64 r1213))], .box [.d (.lit (List.map e_i64 r1214))]] : List Blk))) [] _ (distribution_Dominates_goes k r1212 r1213) (by kernel_rfl) (by kernel_rfl) rfl (by kernel_rfl) Try.func20 rfl (by kernel_rfl) (ConvRs.refl _ _) (by kernel_rfl) (by kernel_rfl) (by kernel_rfl) (by decide) (by kernel_rfl) (by kernel_rfl) (fun _ => (by kernel_rfl)) (fun _ => (by kernel_rfl)) (fun _ => (by kernel_rfl)) (fun r1215 => ?_)
    refine oOp (.d (.bool r1215)) (by kernel_rfl) (by kernel_rfl) (PureV.does (p_move (by kernel_rfl))) ?_
    refine bMeet 4 rfl ((fun (x11 : Bool) => [(1, .d (.int .u8 n)), (6, .ptr 0 0), (7, .ptr 1 0), (8, .ptr 2 0), (34, .d (.bool x11))])) ((fun (x11 : Bool) => [.box [.d (.lit (List.map e_i64 r1212))], .box [.d (.lit (List.map e_i64 r1213))], .box [.d (.lit (List.map e_i64 r1214))]])) (fun s => s) (fun x11 => ?_) (fun hj10 => ?_)
    · refine oView (T' := [(1, .d (.int .u8 n)), (6, .ptr 0 0), (7, .ptr 1 0), (8, .ptr 2 0), (34, .d (.bool x11))]) (H' := [.box [.d (.lit (List.map e_i64 r1212))], .box [.d (.lit (List.map e_i64 r1213))], .box [.d (.lit (List.map e_i64 r1214))]]) (by kernel_rfl) (by kernel_rfl) ?_
      refine oOp (.d (.bool x11)) (by kernel_rfl) (by kernel_rfl) (PureV.does (p_move (by kernel_rfl))) ?_
      refine bMeet 5 rfl ((fun (x12 : Bool) => [(1, .d (.int .u8 n)), (6, .ptr 0 0), (7, .ptr 1 0), (40, .d (.bool x12))])) ((fun (x12 : Bool) => [.box [.d (.lit (List.map e_i64 r1212))], .box [.d (.lit (List.map e_i64 r1213))]])) (fun s => s) (fun x12 => ?_) (fun hj9 => ?_)
      · refine oView (T' := [(1, .d (.int .u8 n)), (6, .ptr 0 0), (7, .ptr 1 0), (40, .d (.bool x12))]) (H' := [.box [.d (.lit (List.map e_i64 r1212))], .box [.d (.lit (List.map e_i64 r1213))]]) (by kernel_rfl) (by kernel_rfl) ?_
        refine oOp (.d (.bool x12)) (by kernel_rfl) (by kernel_rfl) (PureV.does (p_move (by kernel_rfl))) ?_
        refine bMeet 10 rfl ((fun (x14 : Bool) => [(1, .d (.int .u8 n)), (6, .ptr 0 0), (7, .ptr 1 0), (51, .d (.bool x14))])) ((fun (x14 : Bool) => [.box [.d (.lit (List.map e_i64 r1212))], .box [.d (.lit (List.map e_i64 r1213))]])) (fun s => s) (fun x14 => ?_) (fun hj7 => ?_)
        · refine oView (T' := [(1, .d (.int .u8 n)), (6, .ptr 0 0), (7, .ptr 1 0), (51, .d (.bool x14))]) (H' := [.box [.d (.lit (List.map e_i64 r1212))], .box [.d (.lit (List.map e_i64 r1213))]]) (by kernel_rfl) (by kernel_rfl) ?_
          refine oEnd ?_
          refine bSplit 51 (by kernel_rfl) (fun hc => ?_) (fun hc => ?_)
          · refine oCondT (by kernel_rfl) ?_
            refine oSeq ?_
            refine oRegion rfl ?_
            refine oOp (.d (.bool false)) (by kernel_rfl) (by kernel_rfl) (PureV.does (p_assign (by kernel_rfl))) ?_
            refine oEnd ?_
            exact oRet (r0 := false) (rv := .d (.bool false)) (B := []) (vs := [.d (.bool false)]) (σ := []) (by kernel_rfl) Try.func5 rfl (.cons _ _ _ _ (.tmp 4 _ (by kernel_rfl)) .nil) (by kernel_rfl) (by kernel_rfl) (by kernel_rfl) (by kernel_rfl) (by decide) (by kernel_rfl) (by kernel_rfl)
          · refine oCondF (by kernel_rfl) ?_
            refine oSkip ?_
            refine oSeq ?_
            refine oRegion rfl ?_
            refine oOp (.agg [.d (.lit (List.map e_i64 r1212))]) (by kernel_rfl) (by kernel_rfl) (Quiet.does (k_loadAgg 0 0 (by kernel_rfl) Try.underlying26 (by kernel_rfl) ty26 (by kernel_rfl))) ?_
            refine bCall (caps := []) (v := (uc fun (r1219 : Int) => (uc fun (r142 : Int) => (fun (r152 : Int) => (.tuple [.agg [.d (.int .i64 r1219), .d (.int .i64 r142)], .d (.int .i64 r152)] : V))))) (H' := (uc fun (r1219 : Int) => (uc fun (r142 : Int) => (fun (r152 : Int) => ([.box [.d (.lit (List.map e_i64 r1212))], .box [.d (.lit (List.map e_i64 r1213))]] : List Blk))))) [] _ (distribution_Mean_goes k r1212) (by kernel_rfl) (by kernel_rfl) rfl (by kernel_rfl) Try.func19 rfl (by kernel_rfl) (ConvRs.refl _ _) (by kernel_rfl) (by kernel_rfl) (by kernel_rfl) (by decide) (by kernel_rfl) (by kernel_rfl) (fun _ => (by kernel_rfl)) (fun _ => (by kernel_rfl)) (fun _ => (by kernel_rfl)) (fun r => ?_)
            obtain ⟨r1219, r142, r152⟩ := r
            refine bUc ?_
            refine bUc ?_
            refine oOp (.tuple [.agg [.d (.int .i64 r1219), .d (.int .i64 r142)], .d (.int .i64 r152)]) (by kernel_rfl) (by kernel_rfl) (PureV.does (p_move (by kernel_rfl))) ?_
            refine oOp (.agg [.d (.int .i64 r1219), .d (.int .i64 r142)]) (by kernel_rfl) (by kernel_rfl) (PureV.does (k_extract (by kernel_rfl))) ?_
            refine oOp (.d (.int .i64 r152)) (by kernel_rfl) (by kernel_rfl) (PureV.does (k_extract (by kernel_rfl))) ?_
            refine oOp (.ptr 2 0) (by kernel_rfl) (by kernel_rfl) (k_alloc (H' := [.box [.d (.lit (List.map e_i64 r1212))], .box [.d (.lit (List.map e_i64 r1213))], .box [.d (.int .i64 0), .d (.int .i64 0)]]) ty31 (by kernel_rfl) (by kernel_rfl)) ?_
            refine oOp (.undef) (by kernel_rfl) (by kernel_rfl) (k_store (vs := [.d (.int .i64 r1219), .d (.int .i64 r142)]) (H' := [.box [.d (.lit (List.map e_i64 r1212))], .box [.d (.lit (List.map e_i64 r1213))], .box [.d (.int .i64 r1219), .d (.int .i64 r142)]]) 2 0 (by kernel_rfl) ty31 (by kernel_rfl) (by kernel_rfl) (by kernel_rfl)) ?_
            refine oOp (.d (.int .i64 r152)) (by kernel_rfl) (by kernel_rfl) (PureV.does (p_assign (by kernel_rfl))) ?_
            refine oEnd ?_
            refine oSeq ?_
            refine oRegion rfl ?_
            refine oOp (.agg [.d (.lit (List.map e_i64 r1213))]) (by kernel_rfl) (by kernel_rfl) (Quiet.does (k_loadAgg 1 0 (by kernel_rfl) Try.underlying26 (by kernel_rfl) ty26 (by kernel_rfl))) ?_
            refine bCall (caps := []) (v := (uc fun (r1220 : Int) => (uc fun (r143 : Int) => (fun (r153 : Int) => (.tuple [.agg [.d (.int .i64 r1220), .d (.int .i64 r143)], .d (.int .i64 r153)] : V))))) (H' := (uc fun (r1220 : Int) => (uc fun (r143 : Int) => (fun (r153 : Int) => ([.box [.d (.lit (List.map e_i64 r1212))], .box [.d (.lit (List.map e_i64 r1213))], .box [.d (.int .i64 r1219), .d (.int .i64 r142)]] : List Blk))))) [] _ (distribution_Mean_goes k r1213) (by kernel_rfl) (by kernel_rfl) rfl (by kernel_rfl) Try.func19 rfl (by kernel_rfl) (ConvRs.refl _ _) (by kernel_rfl) (by kernel_rfl) (by kernel_rfl) (by decide) (by kernel_rfl) (by kernel_rfl) (fun _ => (by kernel_rfl)) (fun _ => (by kernel_rfl)) (fun _ => (by kernel_rfl)) (fun r => ?_)
            obtain ⟨r1220, r143, r153⟩ := r
            refine bUc ?_
            refine bUc ?_
            refine oOp (.tuple [.agg [.d (.int .i64 r1220), .d (.int .i64 r143)], .d (.int .i64 r153)]) (by kernel_rfl) (by kernel_rfl) (PureV.does (p_move (by kernel_rfl))) ?_
            refine oOp (.agg [.d (.int .i64 r1220), .d (.int .i64 r143)]) (by kernel_rfl) (by kernel_rfl) (PureV.does (k_extract (by kernel_rfl))) ?_
            refine oOp (.d (.int .i64 r153)) (by kernel_rfl) (by kernel_rfl) (PureV.does (k_extract (by kernel_rfl))) ?_
            refine oOp (.ptr 3 0) (by kernel_rfl) (by kernel_rfl) (k_alloc (H' := [.box [.d (.lit (List.map e_i64 r1212))], .box [.d (.lit (List.map e_i64 r1213))], .box [.d (.int .i64 r1219), .d (.int .i64 r142)], .box [.d (.int .i64 0), .d (.int .i64 0)]]) ty31 (by kernel_rfl) (by kernel_rfl)) ?_
            refine oOp (.undef) (by kernel_rfl) (by kernel_rfl) (k_store (vs := [.d (.int .i64 r1220), .d (.int .i64 r143)]) (H' := [.box [.d (.lit (List.map e_i64 r1212))], .box [.d (.lit (List.map e_i64 r1213))], .box [.d (.int .i64 r1219), .d (.int .i64 r142)], .box [.d (.int .i64 r1220), .d (.int .i64 r143)]]) 3 0 (by kernel_rfl) ty31 (by kernel_rfl) (by kernel_rfl) (by kernel_rfl)) ?_
            refine oOp (.d (.int .i64 r153)) (by kernel_rfl) (by kernel_rfl) (PureV.does (p_assign (by kernel_rfl))) ?_
            refine oEnd ?_
            refine oSeq ?_
            refine oSeq ?_
            refine oRegion rfl ?_
            refine oOp (.agg [.d (.lit (List.map e_i64 r1212))]) (by kernel_rfl) (by kernel_rfl) (Quiet.does (k_loadAgg 0 0 (by kernel_rfl) Try.underlying26 (by kernel_rfl) ty26 (by kernel_rfl))) ?_
            refine oOp (.agg [.d (.lit (List.map e_i64 r1213))]) (by kernel_rfl) (by kernel_rfl) (Quiet.does (k_loadAgg 1 0 (by kernel_rfl) Try.underlying26 (by kernel_rfl) ty26 (by kernel_rfl))) ?_
            refine bCall (caps := []) (v := (fun (r1221 : Bool) => (.d (.bool r1221) : V))) (H' := (fun (r1221 : Bool) => ([.box [.d (.lit (List.map e_i64 r1212))], .box [.d (.lit (List.map e_i64 r1213))], .box [.d (.int .i64 r1219), .d (.int .i64 r142)], .box [.d (.int .i64 r1220), .d (.int .i64 r143)]] : List Blk))) [] _ (distribution_Dominates_goes k r1212 r1213) (by kernel_rfl) (by kernel_rfl) rfl (by kernel_rfl) Try.func20 rfl (by kernel_rfl) (ConvRs.refl _ _) (by kernel_rfl) (by kernel_rfl) (by kernel_rfl) (by decide) (by kernel_rfl) (by kernel_rfl) (fun _ => (by kernel_rfl)) (fun _ => (by kernel_rfl)) (fun _ => (by kernel_rfl)) (fun r1221 => ?_)
            refine oOp (.d (.bool r1221)) (by kernel_rfl) (by kernel_rfl) (PureV.does (p_move (by kernel_rfl))) ?_
            refine bMeet 12 rfl ((fun (x17 : Bool) => [(1, .d (.int .u8 n)), (6, .ptr 0 0), (77, .d (.bool x17))])) ((fun (x17 : Bool) => [.box [.d (.lit (List.map e_i64 r1212))]])) (fun s => s) (fun x17 => ?_) (fun hj4 => ?_)
            · refine oView (T' := [(1, .d (.int .u8 n)), (6, .ptr 0 0), (77, .d (.bool x17))]) (H' := [.box [.d (.lit (List.map e_i64 r1212))]]) (by kernel_rfl) (by kernel_rfl) ?_
              refine oEnd ?_
              refine bSplit 77 (by kernel_rfl) (fun hc => ?_) (fun hc => ?_)
              · refine oCondT (by kernel_rfl) ?_
                refine oSeq ?_
                refine oRegion rfl ?_
                refine oOp (.d (.bool false)) (by kernel_rfl) (by kernel_rfl) (PureV.does (p_assign (by kernel_rfl))) ?_
                refine oEnd ?_
                exact oRet (r0 := false) (rv := .d (.bool false)) (B := []) (vs := [.d (.bool false)]) (σ := []) (by kernel_rfl) Try.func5 rfl (.cons _ _ _ _ (.tmp 4 _ (by kernel_rfl)) .nil) (by kernel_rfl) (by kernel_rfl) (by kernel_rfl) (by kernel_rfl) (by decide) (by kernel_rfl) (by kernel_rfl)
              · refine oCondF (by kernel_rfl) ?_
                refine oSkip ?_
                refine oSeq ?_
                refine oRegion rfl ?_
                refine oOp (.d (.int .u8 n)) (by kernel_rfl) (by kernel_rfl) (PureV.does (p_move (by kernel_rfl))) ?_
                refine oOp (.d (.int .i64 (IntKind.wrap .i64 n))) (by kernel_rfl) (by kernel_rfl) (PureV.does (p_conv (k := .u8) (p := n) (by kernel_rfl) Try.underlying5 Try.underlying3 (by kernel_rfl))) ?_
                refine oOp (.ptr 0 0) (by kernel_rfl) (by kernel_rfl) (PureV.does (k_fieldAddr 0 0 (by kernel_rfl) Try.underlying26 rfl ty22 (by kernel_rfl))) ?_
                refine oOp (.d (.lit (List.map e_i64 r1212))) (by kernel_rfl) (by kernel_rfl) (Quiet.does (k_load 0 0 (by kernel_rfl) Try.underlying22 (by kernel_rfl) (by kernel_rfl))) ?_
                refine oOp (.d (.int .i64 ((List.length r1212) : Int))) (by kernel_rfl) (by kernel_rfl) (PureV.does (k_lenLit (enc := e_i64) r1212 (by kernel_rfl) Try.underlying22)) ?_
                refine bNz (fun h18 => ?_)
                refine oOp (.d (.int .i64 (Int.tmod (IntKind.wrap .i64 n) ((List.length r1212) : Int)))) (by kernel_rfl) (by kernel_rfl) (PureV.does (p_rem (k := .i64) (p := (IntKind.wrap .i64 n)) (q := ((List.length r1212) : Int)) (by kernel_rfl) (by kernel_rfl) h18 (by kernel_rfl))) ?_
                refine oOp (.d (.int .i64 (Int.tmod (IntKind.wrap .i64 n) ((List.length r1212) : Int)))) (by kernel_rfl) (by kernel_rfl) (PureV.does (p_assign (by kernel_rfl))) ?_
                refine oEnd ?_
                refine oSeq ?_
                refine oSeq ?_
                refine oRegion rfl ?_
                refine oOp (.ptr 0 0) (by kernel_rfl) (by kernel_rfl) (PureV.does (k_fieldAddr 0 0 (by kernel_rfl) Try.underlying26 rfl ty22 (by kernel_rfl))) ?_
                refine oOp (.d (.lit (List.map e_i64 r1212))) (by kernel_rfl) (by kernel_rfl) (Quiet.does (k_load 0 0 (by kernel_rfl) Try.underlying22 (by kernel_rfl) (by kernel_rfl))) ?_
                refine oOp (.d (.int .i64 (Int.tmod (IntKind.wrap .i64 n) ((List.length r1212) : Int)))) (by kernel_rfl) (by kernel_rfl) (PureV.does (p_move (by kernel_rfl))) ?_
                refine bIdx (fun e13 h19 h110 => ?_)
                refine oOp (.lptr (e_i64 e13) 0) (by kernel_rfl) (by kernel_rfl) (PureV.does (k_idxLit e_i64_len r1212 (a := e13) (by kernel_rfl) (k := .i64) (i := (Int.tmod (IntKind.wrap .i64 n) ((List.length r1212) : Int))) (by kernel_rfl) Try.underlying22 ty3 h19 h110)) ?_
                refine oOp (.d (.int .i64 e13)) (by kernel_rfl) (by kernel_rfl) (Quiet.does (k_loadL (cells := e_i64 e13) 0 (by kernel_rfl) Try.underlying3 (by kernel_rfl) (by kernel_rfl))) ?_
                refine oOp (.d (.bool (e13 == 0))) (by kernel_rfl) (by kernel_rfl) (PureV.does (p_int (k := .i64) (p := e13) (q := 0) (by kernel_rfl) (by kernel_rfl) (by kernel_rfl))) ?_
                refine oOp (.d (.bool (e13 == 0))) (by kernel_rfl) (by kernel_rfl) (PureV.does (p_move (by kernel_rfl))) ?_
                refine bMeet 7 rfl ((uc fun (i1 : Int) => (fun (x18 : Bool) => [(6, .ptr 0 0), (13, .d (.int .i64 i1)), (97, .d (.bool x18))]))) ((uc fun (i1 : Int) => (fun (x18 : Bool) => [.box [.d (.lit (List.map e_i64 r1212))]]))) (fun s => s) (fun s => ?_) (fun hj3 => ?_)
                · obtain ⟨i1, x18⟩ := s
                  refine bUc ?_
                  refine oView (T' := [(6, .ptr 0 0), (13, .d (.int .i64 i1)), (97, .d (.bool x18))]) (H' := [.box [.d (.lit (List.map e_i64 r1212))]]) (by kernel_rfl) (by kernel_rfl) ?_
                  refine oEnd ?_
                  refine bSplit 97 (by kernel_rfl) (fun hc => ?_) (fun hc => ?_)
                  · refine oCondT (by kernel_rfl) ?_
                    refine oSeq ?_
                    refine oRegion rfl ?_
                    refine bCall (caps := []) (v := (fun (r116 : Bool) => (.d (.bool r116) : V))) (H' := (fun (r116 : Bool) => ([.box [.d (.lit (List.map e_i64 r1212))]] : List Blk))) [] _ (law32_sane_goes k ) (by kernel_rfl) (by kernel_rfl) rfl (by kernel_rfl) Try.func10 rfl (by kernel_rfl) (ConvRs.refl _ _) (by kernel_rfl) (by kernel_rfl) (by kernel_rfl) (by decide) (by kernel_rfl) (by kernel_rfl) (fun _ => (by kernel_rfl)) (fun _ => (by kernel_rfl)) (fun _ => (by kernel_rfl)) (fun r116 => ?_)
                    refine oOp (.d (.bool r116)) (by kernel_rfl) (by kernel_rfl) (PureV.does (p_assign (by kernel_rfl))) ?_
                    refine oEnd ?_
                    exact oRet (r0 := r116) (rv := .d (.bool r116)) (B := []) (vs := [.d (.bool r116)]) (σ := []) (by kernel_rfl) Try.func5 rfl (.cons _ _ _ _ (.tmp 4 _ (by kernel_rfl)) .nil) (by kernel_rfl) (by kernel_rfl) (by kernel_rfl) (by kernel_rfl) (by decide) (by kernel_rfl) (by kernel_rfl)
                  · refine oCondF (by kernel_rfl) ?_
                    refine oSkip ?_
                    refine oSeq ?_
                    refine oRegion rfl ?_
                    refine oOp (.ptr 0 0) (by kernel_rfl) (by kernel_rfl) (PureV.does (k_fieldAddr 0 0 (by kernel_rfl) Try.underlying26 rfl ty22 (by kernel_rfl))) ?_
                    refine oOp (.d (.lit (List.map e_i64 r1212))) (by kernel_rfl) (by kernel_rfl) (Quiet.does (k_load 0 0 (by kernel_rfl) Try.underlying22 (by kernel_rfl) (by kernel_rfl))) ?_
                    refine bCap (fun h111 => ?_)
                    refine oOp (.ref 1 (List.length r1212) 0 (List.length r1212)) (by kernel_rfl) (by kernel_rfl) (k_appendNil (H' := [.box [.d (.lit (List.map e_i64 r1212))], .sl 1 (List.map e_i64 r1212) false]) (enc := e_i64) r1212 Try.underlying22 Try.underlying22 ty3 (by kernel_rfl) (by kernel_rfl) (holdsLit e_i64_len r1212 (by kernel_rfl)) h111 (by kernel_rfl)) ?_
                    refine oOp (.ref 1 (List.length r1212) 0 (List.length r1212)) (by kernel_rfl) (by kernel_rfl) (PureV.does (p_assign (by kernel_rfl))) ?_
                    refine oEnd ?_
                    refine oSeq ?_
                    refine oRegion rfl ?_
                    refine oOp (.ref 1 (List.length r1212) 0 (List.length r1212)) (by kernel_rfl) (by kernel_rfl) (PureV.does (p_move (by kernel_rfl))) ?_
                    refine oOp (.d (.int .i64 i1)) (by kernel_rfl) (by kernel_rfl) (PureV.does (p_move (by kernel_rfl))) ?_
                    refine bIdx (fun e14 h112 h113 => ?_)
                    refine oOp (.eptr 1 (List.length r1212) (Int.toNat i1) 0) (by kernel_rfl) (by kernel_rfl) (PureV.does (k_idxRef (enc := e_i64) (fro := false) r1212 (a := e14) (by kernel_rfl) (k := .i64) (i := i1) (by kernel_rfl) (by kernel_rfl) Try.underlying22 ty3 h112 h113)) ?_
                    refine oOp (.d (.int .i64 e14)) (by kernel_rfl) (by kernel_rfl) (Quiet.does (k_loadE (enc := e_i64) (sz := 1) (fro := false) 1 0 r1212 (by kernel_rfl) (by kernel_rfl) Try.underlying3 (by kernel_rfl) h113 (by kernel_rfl))) ?_
                    refine oOp (.d (.int .i64 (IntKind.wrap .i64 (e14 - 1)))) (by kernel_rfl) (by kernel_rfl) (PureV.does (p_int (k := .i64) (p := e14) (q := 1) (by kernel_rfl) (by kernel_rfl) (by kernel_rfl))) ?_
                    refine oOp (.eptr 1 (List.length r1212) (Int.toNat i1) 0) (by kernel_rfl) (by kernel_rfl) (PureV.does (k_idxRef (enc := e_i64) (fro := false) r1212 (a := e14) (by kernel_rfl) (k := .i64) (i := i1) (by kernel_rfl) (by kernel_rfl) Try.underlying22 ty3 h112 h113)) ?_
                    refine bSet _ (fun xs2 hs2 => ?_)
                    refine oOp (.undef) (by kernel_rfl) (by kernel_rfl) (k_storeE (H' := [.box [.d (.lit (List.map e_i64 r1212))], .sl 1 (List.map e_i64 xs2) false]) 1 0 r1212 (IntKind.wrap .i64 (e14 - 1)) [(.int .i64 (IntKind.wrap .i64 (e14 - 1)))] e_i64_len (by kernel_rfl) (by kernel_rfl) h113 ty3 (by kernel_rfl) (by kernel_rfl) (by kernel_rfl) hs2 (by kernel_rfl)) ?_
                    refine oHead [6, 13, 14] [0, 1] (T' := [(6, .ptr 0 0), (13, .d (.int .i64 i1)), (14, .ref 1 (List.length r1212) 0 (List.length r1212))]) (H' := [.box [.d (.lit (List.map e_i64 r1212))], .sl 1 (List.map e_i64 xs2) false]) (by kernel_rfl) (by kernel_rfl) (by kernel_rfl) (by kernel_rfl) (by decide) (by kernel_rfl) (by kernel_rfl) ?_
                    refine oView (T' := [(6, .ptr 0 0), (13, .d (.int .i64 i1)), (14, .ref 1 (List.length xs2) 0 (List.length xs2))]) (H' := [.box [.d (.lit (List.map e_i64 r1212))], .sl 1 (List.map e_i64 xs2) false]) (by first | rw [(set_len hs2)] | rfl) (by first | rw [(set_len hs2)] | rfl) ?_
                    refine oEnd ?_
                    refine oSeq ?_
                    refine oRegion rfl ?_
                    refine oOp (.ref 1 (List.length xs2) 0 (List.length xs2)) (by kernel_rfl) (by kernel_rfl) (PureV.does (p_move (by kernel_rfl))) ?_
                    refine oOp (.d (.int .i64 i1)) (by kernel_rfl) (by kernel_rfl) (PureV.does (p_move (by kernel_rfl))) ?_
                    refine oOp (.d (.int .i64 (IntKind.wrap .i64 (i1 + 1)))) (by kernel_rfl) (by kernel_rfl) (PureV.does (p_int (k := .i64) (p := i1) (q := 1) (by kernel_rfl) (by kernel_rfl) (by kernel_rfl))) ?_
                    refine bIdx (fun e15 h114 h115 => ?_)
                    refine oOp (.eptr 1 (List.length xs2) (Int.toNat (IntKind.wrap .i64 (i1 + 1))) 0) (by kernel_rfl) (by kernel_rfl) (PureV.does (k_idxRef (enc := e_i64) (fro := false) xs2 (a := e15) (by kernel_rfl) (k := .i64) (i := (IntKind.wrap .i64 (i1 + 1))) (by kernel_rfl) (by kernel_rfl) Try.underlying22 ty3 h114 h115)) ?_
                    refine oOp (.d (.int .i64 e15)) (by kernel_rfl) (by kernel_rfl) (Quiet.does (k_loadE (enc := e_i64) (sz := 1) (fro := false) 1 0 xs2 (by kernel_rfl) (by kernel_rfl) Try.underlying3 (by kernel_rfl) h115 (by kernel_rfl))) ?_
                    refine oOp (.d (.int .i64 (IntKind.wrap .i64 (e15 + 1)))) (by kernel_rfl) (by kernel_rfl) (PureV.does (p_int (k := .i64) (p := e15) (q := 1) (by kernel_rfl) (by kernel_rfl) (by kernel_rfl))) ?_
                    refine oOp (.eptr 1 (List.length xs2) (Int.toNat (IntKind.wrap .i64 (i1 + 1))) 0) (by kernel_rfl) (by kernel_rfl) (PureV.does (k_idxRef (enc := e_i64) (fro := false) xs2 (a := e15) (by kernel_rfl) (k := .i64) (i := (IntKind.wrap .i64 (i1 + 1))) (by kernel_rfl) (by kernel_rfl) Try.underlying22 ty3 h114 h115)) ?_
                    refine bSet _ (fun xs3 hs3 => ?_)
                    refine oOp (.undef) (by kernel_rfl) (by kernel_rfl) (k_storeE (H' := [.box [.d (.lit (List.map e_i64 r1212))], .sl 1 (List.map e_i64 xs3) false]) 1 0 xs2 (IntKind.wrap .i64 (e15 + 1)) [(.int .i64 (IntKind.wrap .i64 (e15 + 1)))] e_i64_len (by kernel_rfl) (by kernel_rfl) h115 ty3 (by kernel_rfl) (by kernel_rfl) (by kernel_rfl) hs3 (by kernel_rfl)) ?_
                    refine oHead [6, 14] [0, 1] (T' := [(6, .ptr 0 0), (14, .ref 1 (List.length xs2) 0 (List.length xs2))]) (H' := [.box [.d (.lit (List.map e_i64 r1212))], .sl 1 (List.map e_i64 xs3) false]) (by kernel_rfl) (by kernel_rfl) (by kernel_rfl) (by kernel_rfl) (by decide) (by kernel_rfl) (by kernel_rfl) ?_
                    refine oView (T' := [(6, .ptr 0 0), (14, .ref 1 (List.length xs3) 0 (List.length xs3))]) (H' := [.box [.d (.lit (List.map e_i64 r1212))], .sl 1 (List.map e_i64 xs3) false]) (by first | rw [(set_len hs3)] | rfl) (by first | rw [(set_len hs3)] | rfl) ?_
                    refine oEnd ?_
                    refine oSeq ?_
                    refine oRegion rfl ?_
                    refine oOp (.ref 1 (List.length xs3) 0 (List.length xs3)) (by kernel_rfl) (by kernel_rfl) (PureV.does (p_move (by kernel_rfl))) ?_
                    refine oOp (.agg [.ref 1 (List.length xs3) 0 (List.length xs3)]) (by kernel_rfl) (by kernel_rfl) (PureV.does (p_build bld26 (by kernel_rfl))) ?_
                    refine oOp (.agg [.d (.lit (List.map e_i64 r1212))]) (by kernel_rfl) (by kernel_rfl) (Quiet.does (k_loadAgg 0 0 (by kernel_rfl) Try.underlying26 (by kernel_rfl) ty26 (by kernel_rfl))) ?_
                    refine oFreeze 1 (esz := 1) (xs := List.map e_i64 xs3) (by kernel_rfl) ?_
                    refine oView (H' := [.box [.d (.lit (List.map e_i64 r1212))], .sl 1 (List.map e_i64 xs3) true]) rfl (by kernel_rfl) ?_
                    refine bCall (caps := []) (v := (fun (r1222 : Bool) => (.d (.bool r1222) : V))) (H' := (fun (r1222 : Bool) => ([.box [.d (.lit (List.map e_i64 r1212))], .sl 1 (List.map e_i64 xs3) true] : List Blk))) [] _ (distribution_Dominates_goes k xs3 r1212) (by kernel_rfl) (by kernel_rfl) rfl (by kernel_rfl) Try.func20 rfl (by kernel_rfl) (convList (vs0 := [.agg [.ref 1 (List.length xs3) 0 (List.length xs3)], .agg [.d (.lit (List.map e_i64 r1212))]]) (vs := [.agg [.d (.lit (List.map e_i64 xs3))], .agg [.d (.lit (List.map e_i64 r1212))]]) (by kernel_rfl) (.cons _ _ _ _ (.agg _ _ (.cons _ _ _ _ (k_lit (enc := e_i64) (sz := 1) 1 xs3 (by kernel_rfl)) .nil)) (.cons _ _ _ _ (.same _) .nil))) (by kernel_rfl) (by kernel_rfl) (by kernel_rfl) (by decide) (by kernel_rfl) (by kernel_rfl) (fun _ => (by kernel_rfl)) (fun _ => (by kernel_rfl)) (fun _ => (by kernel_rfl)) (fun r1222 => ?_)
                    refine oOp (.d (.bool r1222)) (by kernel_rfl) (by kernel_rfl) (PureV.does (p_move (by kernel_rfl))) ?_
                    refine bMeet 6 rfl ((fun (x19 : Bool) => [(125, .d (.bool x19))])) ((fun (x19 : Bool) => [])) (fun s => s) (fun x19 => ?_) (fun hj2 => ?_)
                    · refine oView (T' := [(125, .d (.bool x19))]) (H' := []) (by kernel_rfl) (by kernel_rfl) ?_
                      refine oOp (.d (.bool x19)) (by kernel_rfl) (by kernel_rfl) (PureV.does (p_move (by kernel_rfl))) ?_
                      refine bMeet 2 rfl ((fun (x20 : Bool) => [(128, .d (.bool x20))])) ((fun (x20 : Bool) => [])) (fun s => s) (fun x20 => ?_) (fun hj1 => ?_)
                      · refine oView (T' := [(128, .d (.bool x20))]) (H' := []) (by kernel_rfl) (by kernel_rfl) ?_
                        refine oOp (.d (.bool x20)) (by kernel_rfl) (by kernel_rfl) (PureV.does (p_assign (by kernel_rfl))) ?_
                        refine oEnd ?_
                        exact oRet (r0 := x20) (rv := .d (.bool x20)) (B := []) (vs := [.d (.bool x20)]) (σ := []) (by kernel_rfl) Try.func5 rfl (.cons _ _ _ _ (.tmp 4 _ (by kernel_rfl)) .nil) (by kernel_rfl) (by kernel_rfl) (by kernel_rfl) (by kernel_rfl) (by decide) (by kernel_rfl) (by kernel_rfl)
                      · refine bSplit 126 (by kernel_rfl) (fun hc => ?_) (fun hc => ?_)
                        · refine bCall (caps := []) (v := (fun (r118 : Bool) => (.d (.bool r118) : V))) (H' := (fun (r118 : Bool) => ([] : List Blk))) [] _ (law32_sane_goes k ) (by kernel_rfl) (by kernel_rfl) rfl (by kernel_rfl) Try.func10 rfl (by kernel_rfl) (ConvRs.refl _ _) (by kernel_rfl) (by kernel_rfl) (by kernel_rfl) (by decide) (by kernel_rfl) (by kernel_rfl) (fun _ => (by kernel_rfl)) (fun _ => (by kernel_rfl)) (fun _ => (by kernel_rfl)) (fun r118 => ?_)
                          refine oOp (.d (.bool r118)) (by kernel_rfl) (by kernel_rfl) (PureV.does (p_pick (b := true) (by kernel_rfl) (by kernel_rfl))) ?_
                          refine oHead [128] [] (T' := [(128, .d (.bool r118))]) (H' := []) (by kernel_rfl) (by kernel_rfl) (by kernel_rfl) (by kernel_rfl) (by decide) (by kernel_rfl) (by kernel_rfl) ?_
                          exact hj1 r118
                        · refine oNot (by kernel_rfl) (by kernel_rfl) ?_
                          refine oOp (.d (.bool false)) (by kernel_rfl) (by kernel_rfl) (PureV.does (p_pick (b := false) (by kernel_rfl) (by kernel_rfl))) ?_
                          refine oHead [128] [] (T' := [(128, .d (.bool false))]) (H' := []) (by kernel_rfl) (by kernel_rfl) (by kernel_rfl) (by kernel_rfl) (by decide) (by kernel_rfl) (by kernel_rfl) ?_
                          exact hj1 false
                    · refine bSplit 119 (by kernel_rfl) (fun hc => ?_) (fun hc => ?_)
                      · refine oOp (.agg [.d (.lit (List.map e_i64 r1212))]) (by kernel_rfl) (by kernel_rfl) (Quiet.does (k_loadAgg 0 0 (by kernel_rfl) Try.underlying26 (by kernel_rfl) ty26 (by kernel_rfl))) ?_
                        refine oOp (.ref 1 (List.length xs3) 0 (List.length xs3)) (by kernel_rfl) (by kernel_rfl) (PureV.does (p_move (by kernel_rfl))) ?_
                        refine oOp (.agg [.ref 1 (List.length xs3) 0 (List.length xs3)]) (by kernel_rfl) (by kernel_rfl) (PureV.does (p_build bld26 (by kernel_rfl))) ?_
                        refine bCall (caps := []) (v := (fun (r1224 : Bool) => (.d (.bool r1224) : V))) (H' := (fun (r1224 : Bool) => ([.box [.d (.lit (List.map e_i64 r1212))], .sl 1 (List.map e_i64 xs3) true] : List Blk))) [] _ (distribution_Dominates_goes k r1212 xs3) (by kernel_rfl) (by kernel_rfl) rfl (by kernel_rfl) Try.func20 rfl (by kernel_rfl) (convList (vs0 := [.agg [.d (.lit (List.map e_i64 r1212))], .agg [.ref 1 (List.length xs3) 0 (List.length xs3)]]) (vs := [.agg [.d (.lit (List.map e_i64 r1212))], .agg [.d (.lit (List.map e_i64 xs3))]]) (by kernel_rfl) (.cons _ _ _ _ (.same _) (.cons _ _ _ _ (.agg _ _ (.cons _ _ _ _ (k_lit (enc := e_i64) (sz := 1) 1 xs3 (by kernel_rfl)) .nil)) .nil))) (by kernel_rfl) (by kernel_rfl) (by kernel_rfl) (by decide) (by kernel_rfl) (by kernel_rfl) (fun _ => (by kernel_rfl)) (fun _ => (by kernel_rfl)) (fun _ => (by kernel_rfl)) (fun r1224 => ?_)
                        refine oOp (.d (.bool (!r1224))) (by kernel_rfl) (by kernel_rfl) (PureV.does (p_not (p := r1224) (by kernel_rfl) (by kernel_rfl))) ?_
                        refine oOp (.d (.bool (!r1224))) (by kernel_rfl) (by kernel_rfl) (PureV.does (p_pick (b := true) (by kernel_rfl) (by kernel_rfl))) ?_
                        refine oHead [125] [] (T' := [(125, .d (.bool (!r1224)))]) (H' := []) (by kernel_rfl) (by kernel_rfl) (by kernel_rfl) (by kernel_rfl) (by decide) (by kernel_rfl) (by kernel_rfl) ?_
                        exact hj2 (!r1224)
                      · refine oNot (by kernel_rfl) (by kernel_rfl) ?_
                        refine oNot (by kernel_rfl) (by kernel_rfl) ?_
                        refine oNot (by kernel_rfl) (by kernel_rfl) ?_
                        refine oNot (by kernel_rfl) (by kernel_rfl) ?_
                        refine oNot (by kernel_rfl) (by kernel_rfl) ?_
                        refine oOp (.d (.bool false)) (by kernel_rfl) (by kernel_rfl) (PureV.does (p_pick (b := false) (by kernel_rfl) (by kernel_rfl))) ?_
                        refine oHead [125] [] (T' := [(125, .d (.bool false))]) (H' := []) (by kernel_rfl) (by kernel_rfl) (by kernel_rfl) (by kernel_rfl) (by decide) (by kernel_rfl) (by kernel_rfl) ?_
                        exact hj2 false
                · refine bSplit 90 (by kernel_rfl) (fun hc => ?_) (fun hc => ?_)
                  · refine oNot (by kernel_rfl) (by kernel_rfl) ?_
                    refine oNot (by kernel_rfl) (by kernel_rfl) ?_
                    refine oNot (by kernel_rfl) (by kernel_rfl) ?_
                    refine oNot (by kernel_rfl) (by kernel_rfl) ?_
                    refine oNot (by kernel_rfl) (by kernel_rfl) ?_
                    refine oNot (by kernel_rfl) (by kernel_rfl) ?_
                    refine oOp (.d (.bool true)) (by kernel_rfl) (by kernel_rfl) (PureV.does (p_pick (b := true) (by kernel_rfl) (by kernel_rfl))) ?_
                    refine oHead [6, 13, 97] [0] (T' := [(6, .ptr 0 0), (13, .d (.int .i64 (Int.tmod (IntKind.wrap .i64 n) ((List.length r1212) : Int)))), (97, .d (.bool true))]) (H' := [.box [.d (.lit (List.map e_i64 r1212))]]) (by kernel_rfl) (by kernel_rfl) (by kernel_rfl) (by kernel_rfl) (by decide) (by kernel_rfl) (by kernel_rfl) ?_
                    exact hj3 ((Int.tmod (IntKind.wrap .i64 n) ((List.length r1212) : Int)), true)
                  · refine oOp (.d (.int .i64 (Int.tmod (IntKind.wrap .i64 n) ((List.length r1212) : Int)))) (by kernel_rfl) (by kernel_rfl) (PureV.does (p_move (by kernel_rfl))) ?_
                    refine oOp (.d (.int .i64 (IntKind.wrap .i64 ((Int.tmod (IntKind.wrap .i64 n) ((List.length r1212) : Int)) + 1)))) (by kernel_rfl) (by kernel_rfl) (PureV.does (p_int (k := .i64) (p := (Int.tmod (IntKind.wrap .i64 n) ((List.length r1212) : Int))) (q := 1) (by kernel_rfl) (by kernel_rfl) (by kernel_rfl))) ?_
                    refine oOp (.ptr 0 0) (by kernel_rfl) (by kernel_rfl) (PureV.does (k_fieldAddr 0 0 (by kernel_rfl) Try.underlying26 rfl ty22 (by kernel_rfl))) ?_
                    refine oOp (.d (.lit (List.map e_i64 r1212))) (by kernel_rfl) (by kernel_rfl) (Quiet.does (k_load 0 0 (by kernel_rfl) Try.underlying22 (by kernel_rfl) (by kernel_rfl))) ?_
                    refine oOp (.d (.int .i64 ((List.length r1212) : Int))) (by kernel_rfl) (by kernel_rfl) (PureV.does (k_lenLit (enc := e_i64) r1212 (by kernel_rfl) Try.underlying22)) ?_
                    refine oOp (.d (.bool ((IntKind.wrap .i64 ((Int.tmod (IntKind.wrap .i64 n) ((List.length r1212) : Int)) + 1)) == ((List.length r1212) : Int)))) (by kernel_rfl) (by kernel_rfl) (PureV.does (p_int (k := .i64) (p := (IntKind.wrap .i64 ((Int.tmod (IntKind.wrap .i64 n) ((List.length r1212) : Int)) + 1))) (q := ((List.length r1212) : Int)) (by kernel_rfl) (by kernel_rfl) (by kernel_rfl))) ?_
                    refine oOp (.d (.bool ((IntKind.wrap .i64 ((Int.tmod (IntKind.wrap .i64 n) ((List.length r1212) : Int)) + 1)) == ((List.length r1212) : Int)))) (by kernel_rfl) (by kernel_rfl) (PureV.does (p_pick (b := false) (by kernel_rfl) (by kernel_rfl))) ?_
                    refine oHead [6, 13, 97] [0] (T' := [(6, .ptr 0 0), (13, .d (.int .i64 (Int.tmod (IntKind.wrap .i64 n) ((List.length r1212) : Int)))), (97, .d (.bool ((IntKind.wrap .i64 ((Int.tmod (IntKind.wrap .i64 n) ((List.length r1212) : Int)) + 1)) == ((List.length r1212) : Int))))]) (H' := [.box [.d (.lit (List.map e_i64 r1212))]]) (by kernel_rfl) (by kernel_rfl) (by kernel_rfl) (by kernel_rfl) (by decide) (by kernel_rfl) (by kernel_rfl) ?_
                    exact hj3 ((Int.tmod (IntKind.wrap .i64 n) ((List.length r1212) : Int)), ((IntKind.wrap .i64 ((Int.tmod (IntKind.wrap .i64 n) ((List.length r1212) : Int)) + 1)) == ((List.length r1212) : Int)))
            · refine bSplit 65 (by kernel_rfl) (fun hc => ?_) (fun hc => ?_)
              · refine oOp (.d (.int .i64 r152)) (by kernel_rfl) (by kernel_rfl) (PureV.does (p_move (by kernel_rfl))) ?_
                refine oOp (.d (.bool (r152 != 0))) (by kernel_rfl) (by kernel_rfl) (PureV.does (p_int (k := .i64) (p := r152) (q := 0) (by kernel_rfl) (by kernel_rfl) (by kernel_rfl))) ?_
                refine oOp (.d (.bool (r152 != 0))) (by kernel_rfl) (by kernel_rfl) (PureV.does (p_move (by kernel_rfl))) ?_
                refine bMeetF (H' := [.box [.d (.lit (List.map e_i64 r1212))], .box [.d (.int .i64 r1219), .d (.int .i64 r142)], .box [.d (.int .i64 r1220), .d (.int .i64 r143)]]) 3 rfl ((fun (x21 : Bool) => [(1, .d (.int .u8 n)), (6, .ptr 0 0), (9, .ptr 1 0), (11, .ptr 2 0), (65, .d (.bool true)), (71, .d (.bool x21))])) (fun x21 => ?_) (fun F hj5 => ?_)
                · refine oView (T' := [(1, .d (.int .u8 n)), (6, .ptr 0 0), (9, .ptr 1 0), (11, .ptr 2 0), (65, .d (.bool true)), (71, .d (.bool x21))]) (H' := [.box [.d (.lit (List.map e_i64 r1212))], .box [.d (.int .i64 r1219), .d (.int .i64 r142)], .box [.d (.int .i64 r1220), .d (.int .i64 r143)]]) (by kernel_rfl) (by kernel_rfl) ?_
                  refine oOp (.d (.bool x21)) (by kernel_rfl) (by kernel_rfl) (PureV.does (p_move (by kernel_rfl))) ?_
                  refine bMeet 4 rfl ((fun (x22 : Bool) => [(1, .d (.int .u8 n)), (6, .ptr 0 0), (65, .d (.bool true)), (76, .d (.bool x22))])) ((fun (x22 : Bool) => [.box [.d (.lit (List.map e_i64 r1212))]])) (fun s => s) (fun x22 => ?_) (fun hj6 => ?_)
                  · refine oView (T' := [(1, .d (.int .u8 n)), (6, .ptr 0 0), (65, .d (.bool true)), (76, .d (.bool x22))]) (H' := [.box [.d (.lit (List.map e_i64 r1212))]]) (by kernel_rfl) (by kernel_rfl) ?_
                    refine oOp (.d (.bool x22)) (by kernel_rfl) (by kernel_rfl) (PureV.does (p_pick (b := true) (by kernel_rfl) (by kernel_rfl))) ?_
                    refine oHead [1, 6, 77] [0] (T' := [(1, .d (.int .u8 n)), (6, .ptr 0 0), (77, .d (.bool x22))]) (H' := [.box [.d (.lit (List.map e_i64 r1212))]]) (by kernel_rfl) (by kernel_rfl) (by kernel_rfl) (by kernel_rfl) (by decide) (by kernel_rfl) (by kernel_rfl) ?_
                    exact hj4 x22
                  · refine bSplit 72 (by kernel_rfl) (fun hc => ?_) (fun hc => ?_)
                    · refine oNot (by kernel_rfl) (by kernel_rfl) ?_
                      refine oNot (by kernel_rfl) (by kernel_rfl) ?_
                      refine oNot (by kernel_rfl) (by kernel_rfl) ?_
                      refine oOp (.d (.bool true)) (by kernel_rfl) (by kernel_rfl) (PureV.does (p_pick (b := true) (by kernel_rfl) (by kernel_rfl))) ?_
                      refine oHead [1, 6, 65, 76] [0] (T' := [(1, .d (.int .u8 n)), (6, .ptr 0 0), (65, .d (.bool true)), (76, .d (.bool true))]) (H' := [.box [.d (.lit (List.map e_i64 r1212))]]) (by kernel_rfl) (by kernel_rfl) (by kernel_rfl) (by kernel_rfl) (by decide) (by kernel_rfl) (by kernel_rfl) ?_
                      exact hj6 true
                    · refine oOp (.agg [.d (.int .i64 r1219), .d (.int .i64 r142)]) (by kernel_rfl) (by kernel_rfl) (Quiet.does (k_loadAgg 1 0 (by kernel_rfl) Try.underlying31 (by kernel_rfl) ty31 (by kernel_rfl))) ?_
                      refine oOp (.agg [.d (.int .i64 r1220), .d (.int .i64 r143)]) (by kernel_rfl) (by kernel_rfl) (Quiet.does (k_loadAgg 2 0 (by kernel_rfl) Try.underlying31 (by kernel_rfl) ty31 (by kernel_rfl))) ?_
                      refine bCall (caps := []) (v := (fun (r120 : Bool) => (.d (.bool r120) : V))) (H' := (fun (r120 : Bool) => ([.box [.d (.lit (List.map e_i64 r1212))], .box [.d (.int .i64 r1219), .d (.int .i64 r142)], .box [.d (.int .i64 r1220), .d (.int .i64 r143)]] : List Blk))) [] _ (ref01_Less_goes k r1219 r142 r1220 r143) (by kernel_rfl) (by kernel_rfl) rfl (by kernel_rfl) Try.func21 rfl (by kernel_rfl) (ConvRs.refl _ _) (by kernel_rfl) (by kernel_rfl) (by kernel_rfl) (by decide) (by kernel_rfl) (by kernel_rfl) (fun _ => (by kernel_rfl)) (fun _ => (by kernel_rfl)) (fun _ => (by kernel_rfl)) (fun r120 => ?_)
                      refine oOp (.d (.bool r120)) (by kernel_rfl) (by kernel_rfl) (PureV.does (p_pick (b := false) (by kernel_rfl) (by kernel_rfl))) ?_
                      refine oHead [1, 6, 65, 76] [0] (T' := [(1, .d (.int .u8 n)), (6, .ptr 0 0), (65, .d (.bool true)), (76, .d (.bool r120))]) (H' := [.box [.d (.lit (List.map e_i64 r1212))]]) (by kernel_rfl) (by kernel_rfl) (by kernel_rfl) (by kernel_rfl) (by decide) (by kernel_rfl) (by kernel_rfl) ?_
                      exact hj6 r120
                · refine bPickF 68 (fun c => F (c || (r153 != 0))) (by kernel_rfl) (fun hc => ?_) (fun hc => ?_)
                  · refine oNot (by kernel_rfl) (by kernel_rfl) ?_
                    refine oNot (by kernel_rfl) (by kernel_rfl) ?_
                    refine oOp (.d (.bool true)) (by kernel_rfl) (by kernel_rfl) (PureV.does (p_pick (b := true) (by kernel_rfl) (by kernel_rfl))) ?_
                    refine oHead [1, 6, 9, 11, 65, 71] [0, 2, 3] (T' := [(1, .d (.int .u8 n)), (6, .ptr 0 0), (9, .ptr 1 0), (11, .ptr 2 0), (65, .d (.bool true)), (71, .d (.bool true))]) (H' := [.box [.d (.lit (List.map e_i64 r1212))], .box [.d (.int .i64 r1219), .d (.int .i64 r142)], .box [.d (.int .i64 r1220), .d (.int .i64 r143)]]) (by kernel_rfl) (by kernel_rfl) (by kernel_rfl) (by kernel_rfl) (by decide) (by kernel_rfl) (by kernel_rfl) ?_
                    exact hj5 true
                  · refine oOp (.d (.int .i64 r153)) (by kernel_rfl) (by kernel_rfl) (PureV.does (p_move (by kernel_rfl))) ?_
                    refine oOp (.d (.bool (r153 != 0))) (by kernel_rfl) (by kernel_rfl) (PureV.does (p_int (k := .i64) (p := r153) (q := 0) (by kernel_rfl) (by kernel_rfl) (by kernel_rfl))) ?_
                    refine oOp (.d (.bool (r153 != 0))) (by kernel_rfl) (by kernel_rfl) (PureV.does (p_pick (b := false) (by kernel_rfl) (by kernel_rfl))) ?_
                    refine oHead [1, 6, 9, 11, 65, 71] [0, 2, 3] (T' := [(1, .d (.int .u8 n)), (6, .ptr 0 0), (9, .ptr 1 0), (11, .ptr 2 0), (65, .d (.bool true)), (71, .d (.bool (r153 != 0)))]) (H' := [.box [.d (.lit (List.map e_i64 r1212))], .box [.d (.int .i64 r1219), .d (.int .i64 r142)], .box [.d (.int .i64 r1220), .d (.int .i64 r143)]]) (by kernel_rfl) (by kernel_rfl) (by kernel_rfl) (by kernel_rfl) (by decide) (by kernel_rfl) (by kernel_rfl) ?_
                    exact hj5 (r153 != 0)
              · refine oNot (by kernel_rfl) (by kernel_rfl) ?_
                refine oNot (by kernel_rfl) (by kernel_rfl) ?_
                refine oNot (by kernel_rfl) (by kernel_rfl) ?_
                refine oNot (by kernel_rfl) (by kernel_rfl) ?_
                refine oNot (by kernel_rfl) (by kernel_rfl) ?_
                refine oNot (by kernel_rfl) (by kernel_rfl) ?_
                refine oNot (by kernel_rfl) (by kernel_rfl) ?_
                refine oNot (by kernel_rfl) (by kernel_rfl) ?_
                refine oNot (by kernel_rfl) (by kernel_rfl) ?_
                refine oNot (by kernel_rfl) (by kernel_rfl) ?_
                refine oNot (by kernel_rfl) (by kernel_rfl) ?_
                refine oOp (.d (.bool false)) (by kernel_rfl) (by kernel_rfl) (PureV.does (p_pick (b := false) (by kernel_rfl) (by kernel_rfl))) ?_
                refine oHead [1, 6, 77] [0] (T' := [(1, .d (.int .u8 n)), (6, .ptr 0 0), (77, .d (.bool false))]) (H' := [.box [.d (.lit (List.map e_i64 r1212))]]) (by kernel_rfl) (by kernel_rfl) (by kernel_rfl) (by kernel_rfl) (by decide) (by kernel_rfl) (by kernel_rfl) ?_
                exact hj4 false
        · refine bSplit 41 (by kernel_rfl) (fun hc => ?_) (fun hc => ?_)
          · refine oNot (by kernel_rfl) (by kernel_rfl) ?_
            refine oNot (by kernel_rfl) (by kernel_rfl) ?_
            refine oNot (by kernel_rfl) (by kernel_rfl) ?_
            refine oNot (by kernel_rfl) (by kernel_rfl) ?_
            refine oNot (by kernel_rfl) (by kernel_rfl) ?_
            refine oNot (by kernel_rfl) (by kernel_rfl) ?_
            refine oNot (by kernel_rfl) (by kernel_rfl) ?_
            refine oNot (by kernel_rfl) (by kernel_rfl) ?_
            refine oNot (by kernel_rfl) (by kernel_rfl) ?_
            refine oOp (.d (.bool true)) (by kernel_rfl) (by kernel_rfl) (PureV.does (p_pick (b := true) (by kernel_rfl) (by kernel_rfl))) ?_
            refine oHead [1, 6, 7, 51] [0, 1] (T' := [(1, .d (.int .u8 n)), (6, .ptr 0 0), (7, .ptr 1 0), (51, .d (.bool true))]) (H' := [.box [.d (.lit (List.map e_i64 r1212))], .box [.d (.lit (List.map e_i64 r1213))]]) (by kernel_rfl) (by kernel_rfl) (by kernel_rfl) (by kernel_rfl) (by decide) (by kernel_rfl) (by kernel_rfl) ?_
            exact hj7 true
          · refine oOp (.agg [.d (.lit (List.map e_i64 r1212))]) (by kernel_rfl) (by kernel_rfl) (Quiet.does (k_loadAgg 0 0 (by kernel_rfl) Try.underlying26 (by kernel_rfl) ty26 (by kernel_rfl))) ?_
            refine bCall (caps := []) (v := (fun (r1110 : Int) => (.d (.int .i64 r1110) : V))) (H' := (fun (r1110 : Int) => ([.box [.d (.lit (List.map e_i64 r1212))], .box [.d (.lit (List.map e_i64 r1213))]] : List Blk))) [] _ (distribution_Count_goes k r1212) (by kernel_rfl) (by kernel_rfl) rfl (by kernel_rfl) Try.func15 rfl (by kernel_rfl) (ConvRs.refl _ _) (by kernel_rfl) (by kernel_rfl) (by kernel_rfl) (by decide) (by kernel_rfl) (by kernel_rfl) (fun _ => (by kernel_rfl)) (fun _ => (by kernel_rfl)) (fun _ => (by kernel_rfl)) (fun r1110 => ?_)
            refine oOp (.d (.bool (decide (r1110 > 0)))) (by kernel_rfl) (by kernel_rfl) (PureV.does (p_int (k := .i64) (p := r1110) (q := 0) (by kernel_rfl) (by kernel_rfl) (by kernel_rfl))) ?_
            refine oOp (.d (.bool (decide (r1110 > 0)))) (by kernel_rfl) (by kernel_rfl) (PureV.does (p_move (by kernel_rfl))) ?_
            refine bMeet 5 rfl ((fun (x23 : Bool) => [(1, .d (.int .u8 n)), (6, .ptr 0 0), (7, .ptr 1 0), (41, .d (.bool false)), (50, .d (.bool x23))])) ((fun (x23 : Bool) => [.box [.d (.lit (List.map e_i64 r1212))], .box [.d (.lit (List.map e_i64 r1213))]])) (fun s => s) (fun x23 => ?_) (fun hj8 => ?_)
            · refine oView (T' := [(1, .d (.int .u8 n)), (6, .ptr 0 0), (7, .ptr 1 0), (41, .d (.bool false)), (50, .d (.bool x23))]) (H' := [.box [.d (.lit (List.map e_i64 r1212))], .box [.d (.lit (List.map e_i64 r1213))]]) (by kernel_rfl) (by kernel_rfl) ?_
              refine oOp (.d (.bool x23)) (by kernel_rfl) (by kernel_rfl) (PureV.does (p_pick (b := false) (by kernel_rfl) (by kernel_rfl))) ?_
              refine oHead [1, 6, 7, 51] [0, 1] (T' := [(1, .d (.int .u8 n)), (6, .ptr 0 0), (7, .ptr 1 0), (51, .d (.bool x23))]) (H' := [.box [.d (.lit (List.map e_i64 r1212))], .box [.d (.lit (List.map e_i64 r1213))]]) (by kernel_rfl) (by kernel_rfl) (by kernel_rfl) (by kernel_rfl) (by decide) (by kernel_rfl) (by kernel_rfl) ?_
              exact hj7 x23
            · refine bSplit 45 (by kernel_rfl) (fun hc => ?_) (fun hc => ?_)
              · refine oOp (.agg [.d (.lit (List.map e_i64 r1212))]) (by kernel_rfl) (by kernel_rfl) (Quiet.does (k_loadAgg 0 0 (by kernel_rfl) Try.underlying26 (by kernel_rfl) ty26 (by kernel_rfl))) ?_
                refine oOp (.agg [.d (.lit (List.map e_i64 r1212))]) (by kernel_rfl) (by kernel_rfl) (Quiet.does (k_loadAgg 0 0 (by kernel_rfl) Try.underlying26 (by kernel_rfl) ty26 (by kernel_rfl))) ?_
                refine bCall (caps := []) (v := (fun (r1226 : Bool) => (.d (.bool r1226) : V))) (H' := (fun (r1226 : Bool) => ([.box [.d (.lit (List.map e_i64 r1212))], .box [.d (.lit (List.map e_i64 r1213))]] : List Blk))) [] _ (distribution_Dominates_goes k r1212 r1212) (by kernel_rfl) (by kernel_rfl) rfl (by kernel_rfl) Try.func20 rfl (by kernel_rfl) (ConvRs.refl _ _) (by kernel_rfl) (by kernel_rfl) (by kernel_rfl) (by decide) (by kernel_rfl) (by kernel_rfl) (fun _ => (by kernel_rfl)) (fun _ => (by kernel_rfl)) (fun _ => (by kernel_rfl)) (fun r1226 => ?_)
                refine oOp (.d (.bool (!r1226))) (by kernel_rfl) (by kernel_rfl) (PureV.does (p_not (p := r1226) (by kernel_rfl) (by kernel_rfl))) ?_
                refine oOp (.d (.bool (!r1226))) (by kernel_rfl) (by kernel_rfl) (PureV.does (p_pick (b := true) (by kernel_rfl) (by kernel_rfl))) ?_
                refine oHead [1, 6, 7, 41, 50] [0, 1] (T' := [(1, .d (.int .u8 n)), (6, .ptr 0 0), (7, .ptr 1 0), (41, .d (.bool false)), (50, .d (.bool (!r1226)))]) (H' := [.box [.d (.lit (List.map e_i64 r1212))], .box [.d (.lit (List.map e_i64 r1213))]]) (by kernel_rfl) (by kernel_rfl) (by kernel_rfl) (by kernel_rfl) (by decide) (by kernel_rfl) (by kernel_rfl) ?_
                exact hj8 (!r1226)
              · refine oNot (by kernel_rfl) (by kernel_rfl) ?_
                refine oNot (by kernel_rfl) (by kernel_rfl) ?_
                refine oNot (by kernel_rfl) (by kernel_rfl) ?_
                refine oNot (by kernel_rfl) (by kernel_rfl) ?_
                refine oOp (.d (.bool false)) (by kernel_rfl) (by kernel_rfl) (PureV.does (p_pick (b := false) (by kernel_rfl) (by kernel_rfl))) ?_
                refine oHead [1, 6, 7, 41, 50] [0, 1] (T' := [(1, .d (.int .u8 n)), (6, .ptr 0 0), (7, .ptr 1 0), (41, .d (.bool false)), (50, .d (.bool false))]) (H' := [.box [.d (.lit (List.map e_i64 r1212))], .box [.d (.lit (List.map e_i64 r1213))]]) (by kernel_rfl) (by kernel_rfl) (by kernel_rfl) (by kernel_rfl) (by decide) (by kernel_rfl) (by kernel_rfl) ?_
                exact hj8 false
      · refine bSplit 35 (by kernel_rfl) (fun hc => ?_) (fun hc => ?_)
        · refine oOp (.agg [.d (.lit (List.map e_i64 r1212))]) (by kernel_rfl) (by kernel_rfl) (Quiet.does (k_loadAgg 0 0 (by kernel_rfl) Try.underlying26 (by kernel_rfl) ty26 (by kernel_rfl))) ?_
          refine oOp (.agg [.d (.lit (List.map e_i64 r1214))]) (by kernel_rfl) (by kernel_rfl) (Quiet.does (k_loadAgg 2 0 (by kernel_rfl) Try.underlying26 (by kernel_rfl) ty26 (by kernel_rfl))) ?_
          refine bCall (caps := []) (v := (fun (r1227 : Bool) => (.d (.bool r1227) : V))) (H' := (fun (r1227 : Bool) => ([.box [.d (.lit (List.map e_i64 r1212))], .box [.d (.lit (List.map e_i64 r1213))], .box [.d (.lit (List.map e_i64 r1214))]] : List Blk))) [] _ (distribution_Dominates_goes k r1212 r1214) (by kernel_rfl) (by kernel_rfl) rfl (by kernel_rfl) Try.func20 rfl (by kernel_rfl) (ConvRs.refl _ _) (by kernel_rfl) (by kernel_rfl) (by kernel_rfl) (by decide) (by kernel_rfl) (by kernel_rfl) (fun _ => (by kernel_rfl)) (fun _ => (by kernel_rfl)) (fun _ => (by kernel_rfl)) (fun r1227 => ?_)
          refine oOp (.d (.bool (!r1227))) (by kernel_rfl) (by kernel_rfl) (PureV.does (p_not (p := r1227) (by kernel_rfl) (by kernel_rfl))) ?_
          refine oOp (.d (.bool (!r1227))) (by kernel_rfl) (by kernel_rfl) (PureV.does (p_pick (b := true) (by kernel_rfl) (by kernel_rfl))) ?_
          refine oHead [1, 6, 7, 40] [0, 1] (T' := [(1, .d (.int .u8 n)), (6, .ptr 0 0), (7, .ptr 1 0), (40, .d (.bool (!r1227)))]) (H' := [.box [.d (.lit (List.map e_i64 r1212))], .box [.d (.lit (List.map e_i64 r1213))]]) (by kernel_rfl) (by kernel_rfl) (by kernel_rfl) (by kernel_rfl) (by decide) (by kernel_rfl) (by kernel_rfl) ?_
          exact hj9 (!r1227)
        · refine oNot (by kernel_rfl) (by kernel_rfl) ?_
          refine oNot (by kernel_rfl) (by kernel_rfl) ?_
          refine oNot (by kernel_rfl) (by kernel_rfl) ?_
          refine oNot (by kernel_rfl) (by kernel_rfl) ?_
          refine oOp (.d (.bool false)) (by kernel_rfl) (by kernel_rfl) (PureV.does (p_pick (b := false) (by kernel_rfl) (by kernel_rfl))) ?_
          refine oHead [1, 6, 7, 40] [0, 1] (T' := [(1, .d (.int .u8 n)), (6, .ptr 0 0), (7, .ptr 1 0), (40, .d (.bool false))]) (H' := [.box [.d (.lit (List.map e_i64 r1212))], .box [.d (.lit (List.map e_i64 r1213))]]) (by kernel_rfl) (by kernel_rfl) (by kernel_rfl) (by kernel_rfl) (by decide) (by kernel_rfl) (by kernel_rfl) ?_
          exact hj9 false
    · refine bSplit 30 (by kernel_rfl) (fun hc => ?_) (fun hc => ?_)
      · refine oOp (.agg [.d (.lit (List.map e_i64 r1213))]) (by kernel_rfl) (by kernel_rfl) (Quiet.does (k_loadAgg 2 0 (by kernel_rfl) Try.underlying26 (by kernel_rfl) ty26 (by kernel_rfl))) ?_
        refine oOp (.agg [.d (.lit (List.map e_i64 r1214))]) (by kernel_rfl) (by kernel_rfl) (Quiet.does (k_loadAgg 3 0 (by kernel_rfl) Try.underlying26 (by kernel_rfl) ty26 (by kernel_rfl))) ?_
        refine bCall (caps := []) (v := (fun (r1228 : Bool) => (.d (.bool r1228) : V))) (H' := (fun (r1228 : Bool) => ([.box [.d (.lit (List.map e_i64 t)), .d (.int .i64 x75)], .box [.d (.lit (List.map e_i64 r1212))], .box [.d (.lit (List.map e_i64 r1213))], .box [.d (.lit (List.map e_i64 r1214))]] : List Blk))) [] _ (distribution_Dominates_goes k r1213 r1214) (by kernel_rfl) (by kernel_rfl) rfl (by kernel_rfl) Try.func20 rfl (by kernel_rfl) (ConvRs.refl _ _) (by kernel_rfl) (by kernel_rfl) (by kernel_rfl) (by decide) (by kernel_rfl) (by kernel_rfl) (fun _ => (by kernel_rfl)) (fun _ => (by kernel_rfl)) (fun _ => (by kernel_rfl)) (fun r1228 => ?_)
        refine oOp (.d (.bool r1228)) (by kernel_rfl) (by kernel_rfl) (PureV.does (p_pick (b := true) (by kernel_rfl) (by kernel_rfl))) ?_
        refine oHead [1, 6, 7, 8, 34] [1, 2, 3] (T' := [(1, .d (.int .u8 n)), (6, .ptr 0 0), (7, .ptr 1 0), (8, .ptr 2 0), (34, .d (.bool r1228))]) (H' := [.box [.d (.lit (List.map e_i64 r1212))], .box [.d (.lit (List.map e_i64 r1213))], .box [.d (.lit (List.map e_i64 r1214))]]) (by kernel_rfl) (by kernel_rfl) (by kernel_rfl) (by kernel_rfl) (by decide) (by kernel_rfl) (by kernel_rfl) ?_
        exact hj10 r1228
      · refine oNot (by kernel_rfl) (by kernel_rfl) ?_
        refine oNot (by kernel_rfl) (by kernel_rfl) ?_
        refine oNot (by kernel_rfl) (by kernel_rfl) ?_
        refine oOp (.d (.bool false)) (by kernel_rfl) (by kernel_rfl) (PureV.does (p_pick (b := false) (by kernel_rfl) (by kernel_rfl))) ?_
        refine oHead [1, 6, 7, 8, 34] [1, 2, 3] (T' := [(1, .d (.int .u8 n)), (6, .ptr 0 0), (7, .ptr 1 0), (8, .ptr 2 0), (34, .d (.bool false))]) (H' := [.box [.d (.lit (List.map e_i64 r1212))], .box [.d (.lit (List.map e_i64 r1213))], .box [.d (.lit (List.map e_i64 r1214))]]) (by kernel_rfl) (by kernel_rfl) (by kernel_rfl) (by kernel_rfl) (by decide) (by kernel_rfl) (by kernel_rfl) ?_
        exact hj10 false

end Go.VM
