/- Plain functions that answer as the program's functions do, and the proof that they do. -/
import Derived.Test.YtoffminccignfaaProg
import Derived.KernelRfl
import Derived.Test.YtoffminccignfaaEngW
import Derived.Test.YtoffminccignfaaCFacts
import Derived.Test.YtoffminccignfaaCFuns0
import Derived.Test.YtoffminccignfaaCFuns4
namespace Go.VM
open Go.Proofs
set_option linter.unusedVariables false
set_option linter.unusedSimpArgs false
set_option maxRecDepth 100000
/-- (*awardingbody/awardingbodymark.Dice).Ratio -/
def mark_Dice_Ratio_b1 (k : Nat) (again : Int × Int × Int → Option (Int × Int)) : Int × Int × Int → Option (Int × Int) := uc fun n14 => uc fun m16 => fun k14 => bif (decide (k14 > 1)) then Option.bind (gnz k14 (Option.bind (bif ((Int.tmod n14 k14) == 0) then gnz k14 (some ((Int.tmod m16 k14) == 0)) else some false : Option (Bool)) (fun x11 => bif x11 then gnz k14 (gnz k14 (some ((IntKind.wrap .i64 (Int.tdiv n14 k14)), (IntKind.wrap .i64 (Int.tdiv m16 k14))))) else some (n14, m16))) : Option (Int × Int)) (uc fun n17 => fun m19 => again (n17, m19, (IntKind.wrap .i64 (k14 - 1)))) else some (n14, m16)
def mark_Dice_Ratio (k : Nat) (x : (List Int)) (x1 : Int) : Option (Int × Int × Int) := Option.bind (mark_Dice_Next k 21 x x1) (uc fun r14 => fun x62 => Option.bind (mark_Dice_Next k 5 x x62) (uc fun r15 => fun x63 => Option.bind (gloop (mark_Dice_Ratio_b1 k) k ((IntKind.wrap .i64 (r14 - 10)), (IntKind.wrap .i64 (1 + r15)), 5) : Option (Int × Int)) (uc fun n11 => fun m12 => Option.bind (bif (n11 == 0) then some 1 else some m12 : Option (Int)) (fun m13 => some (n11, m13, x63)))))
def mark_Dice_Ratio_E (x : (List Int)) (x1 : Int) : Int × Int × Int → V × List Blk := uc fun r12 => uc fun r13 => fun x4 => (.agg [.d (.int .i64 r12), .d (.int .i64 r13)], [.box [.d (.lit (List.map e_i64 x)), .d (.int .i64 x4)]])
theorem mark_Dice_Ratio_goes (k : Nat) (x : (List Int)) (x1 : Int) : RunsO Try.prog 14 [.ptr 0 0] [.box [.d (.lit (List.map e_i64 x)), .d (.int .i64 x1)]] (mark_Dice_Ratio_E x x1) (mark_Dice_Ratio k x x1) := by
  refine RunsO.of_goes (N := 37) (m := 1) (T := [(0, .ptr 0 0)]) Try.func14 rfl rfl (by kernel_rfl) (by kernel_rfl) (by kernel_rfl) ?_
  unfold mark_Dice_Ratio
  refine bStart ?_
  refine oSeq ?_
  refine oRegion rfl ?_
  refine oOp (.ptr 1 0) (by kernel_rfl) (by kernel_rfl) (k_alloc (H' := [.box [.d (.lit (List.map e_i64 x)), .d (.int .i64 x1)], .box [.d (.int .i64 0), .d (.int .i64 0)]]) ty37 (by kernel_rfl) (by kernel_rfl)) ?_
  refine oEnd ?_
  refine oSeq ?_
  refine oRegion rfl ?_
  refine oOp (.ptr 0 0) (by kernel_rfl) (by kernel_rfl) (PureV.does (p_move (by kernel_rfl))) ?_
  refine bCall (caps := []) (v := (uc fun (r14 : Int) => (fun (x62 : Int) => (.d (.int .i64 r14) : V)))) (H' := (uc fun (r14 : Int) => (fun (x62 : Int) => ([.box [.d (.lit (List.map e_i64 x)), .d (.int .i64 x62)], .box [.d (.int .i64 0), .d (.int .i64 0)]] : List Blk)))) [0] _ (mark_Dice_Next_goes k 21 x x1) (by kernel_rfl) (by kernel_rfl) rfl (by kernel_rfl) Try.func20 rfl (by kernel_rfl) (ConvRs.refl _ _) (by kernel_rfl) (by kernel_rfl) (by kernel_rfl) (by decide) (by kernel_rfl) (by kernel_rfl) (fun _ => (by kernel_rfl)) (fun _ => (by kernel_rfl)) (fun _ => (by kernel_rfl)) (fun r => ?_)
  obtain ⟨r14, x62⟩ := r
  refine bUc ?_
  refine oOp (.d (.int .i64 (IntKind.wrap .i64 (r14 - 10)))) (by kernel_rfl) (by kernel_rfl) (PureV.does (p_int (k := .i64) (p := r14) (q := 10) (by kernel_rfl) (by kernel_rfl) (by kernel_rfl))) ?_
  refine oOp (.ptr 0 0) (by kernel_rfl) (by kernel_rfl) (PureV.does (p_move (by kernel_rfl))) ?_
  refine bCall (caps := []) (v := (uc fun (r15 : Int) => (fun (x63 : Int) => (.d (.int .i64 r15) : V)))) (H' := (uc fun (r15 : Int) => (fun (x63 : Int) => ([.box [.d (.lit (List.map e_i64 x)), .d (.int .i64 x63)], .box [.d (.int .i64 0), .d (.int .i64 0)]] : List Blk)))) [0] _ (mark_Dice_Next_goes k 5 x x62) (by kernel_rfl) (by kernel_rfl) rfl (by kernel_rfl) Try.func20 rfl (by kernel_rfl) (ConvRs.refl _ _) (by kernel_rfl) (by kernel_rfl) (by kernel_rfl) (by decide) (by kernel_rfl) (by kernel_rfl) (fun _ => (by kernel_rfl)) (fun _ => (by kernel_rfl)) (fun _ => (by kernel_rfl)) (fun r => ?_)
  obtain ⟨r15, x63⟩ := r
  refine bUc ?_
  refine oOp (.d (.int .i64 (IntKind.wrap .i64 (1 + r15)))) (by kernel_rfl) (by kernel_rfl) (PureV.does (p_int (k := .i64) (p := 1) (q := r15) (by kernel_rfl) (by kernel_rfl) (by kernel_rfl))) ?_
  refine oOp (.d (.int .i64 (IntKind.wrap .i64 (r14 - 10)))) (by kernel_rfl) (by kernel_rfl) (PureV.does (p_assign (by kernel_rfl))) ?_
  refine oOp (.d (.int .i64 (IntKind.wrap .i64 (1 + r15)))) (by kernel_rfl) (by kernel_rfl) (PureV.does (p_assign (by kernel_rfl))) ?_
  refine oEnd ?_
  refine oSeq ?_
  refine oSeq ?_
  refine oRegion rfl ?_
  refine oOp (.d (.int .i64 5)) (by kernel_rfl) (by kernel_rfl) (PureV.does (p_assign (by kernel_rfl))) ?_
  refine oEnd ?_
  refine bJoin ((uc fun (n11 : Int) => (fun (m12 : Int) => [(2, .ptr 1 0), (3, .d (.int .i64 n11)), (4, .d (.int .i64 m12))]))) ((uc fun (n11 : Int) => (fun (m12 : Int) => [.box [.d (.lit (List.map e_i64 x)), .d (.int .i64 x63)], .box [.d (.int .i64 0), .d (.int .i64 0)]]))) (fun s => s) (fun s => ?_) (fun hj7 => ?_)
  ·obtain ⟨n11, m12⟩ := s
   refine bUc ?_
   refine oView (T' := [(2, .ptr 1 0), (3, .d (.int .i64 n11)), (4, .d (.int .i64 m12))]) (H' := [.box [.d (.lit (List.map e_i64 x)), .d (.int .i64 x63)], .box [.d (.int .i64 0), .d (.int .i64 0)]]) (by kernel_rfl) (by kernel_rfl) ?_
   refine oSeq ?_
   refine oSeq ?_
   refine oRegion rfl ?_
   refine oOp (.d (.int .i64 n11)) (by kernel_rfl) (by kernel_rfl) (PureV.does (p_move (by kernel_rfl))) ?_
   refine oOp (.d (.bool (n11 == 0))) (by kernel_rfl) (by kernel_rfl) (PureV.does (p_int (k := .i64) (p := n11) (q := 0) (by kernel_rfl) (by kernel_rfl) (by kernel_rfl))) ?_
   refine oEnd ?_
   refine bJoin ((fun (m13 : Int) => [(2, .ptr 1 0), (3, .d (.int .i64 n11)), (4, .d (.int .i64 m13))])) ((fun (m13 : Int) => [.box [.d (.lit (List.map e_i64 x)), .d (.int .i64 x63)], .box [.d (.int .i64 0), .d (.int .i64 0)]])) (fun s => s) (fun m13 => ?_) (fun hj8 => ?_)
   ·refine oView (T' := [(2, .ptr 1 0), (3, .d (.int .i64 n11)), (4, .d (.int .i64 m13))]) (H' := [.box [.d (.lit (List.map e_i64 x)), .d (.int .i64 x63)], .box [.d (.int .i64 0), .d (.int .i64 0)]]) (by kernel_rfl) (by kernel_rfl) ?_
    refine oSeq ?_
    refine oRegion rfl ?_
    refine oOp (.d (.int .i64 n11)) (by kernel_rfl) (by kernel_rfl) (PureV.does (p_move (by kernel_rfl))) ?_
    refine oOp (.d (.int .i64 m13)) (by kernel_rfl) (by kernel_rfl) (PureV.does (p_move (by kernel_rfl))) ?_
    refine oOp (.agg [.d (.int .i64 n11), .d (.int .i64 m13)]) (by kernel_rfl) (by kernel_rfl) (PureV.does (p_build bld37 (by kernel_rfl))) ?_
    refine oOp (.undef) (by kernel_rfl) (by kernel_rfl) (k_store (vs := [.d (.int .i64 n11), .d (.int .i64 m13)]) (H' := [.box [.d (.lit (List.map e_i64 x)), .d (.int .i64 x63)], .box [.d (.int .i64 n11), .d (.int .i64 m13)]]) 1 0 (by kernel_rfl) ty37 (by kernel_rfl) (by kernel_rfl) (by kernel_rfl)) ?_
    refine oEnd ?_
    exact oRet (r0 := (n11, m13, x63)) (rv := .agg [.d (.int .i64 n11), .d (.int .i64 m13)]) (B := [.box [.d (.lit (List.map e_i64 x)), .d (.int .i64 x63)]]) (vs := [.agg [.d (.int .i64 n11), .d (.int .i64 m13)]]) (σ := [0]) (by kernel_rfl) Try.func14 rfl (.cons _ _ _ _ (.agg 2 37 1 0 [.d (.int .i64 n11), .d (.int .i64 m13)] [.d (.int .i64 n11), .d (.int .i64 m13)] _ _ _ _ (by kernel_rfl) (by kernel_rfl) Try.underlying37 (by kernel_rfl) ty37 (by kernel_rfl) (by kernel_rfl)) .nil) (by kernel_rfl) (by kernel_rfl) (by kernel_rfl) (by kernel_rfl) (by decide) (by kernel_rfl) (by kernel_rfl)
   ·refine bSplit 33 (by kernel_rfl) (fun hc => ?_) (fun hc => ?_)
    ·refine oCondT (by kernel_rfl) ?_
     refine oRegion rfl ?_
     refine oOp (.d (.int .i64 1)) (by kernel_rfl) (by kernel_rfl) (PureV.does (p_assign (by kernel_rfl))) ?_
     refine oEnd ?_
     refine oHead [2, 3, 4] [0, 1] (T' := [(2, .ptr 1 0), (3, .d (.int .i64 n11)), (4, .d (.int .i64 1))]) (H' := [.box [.d (.lit (List.map e_i64 x)), .d (.int .i64 x63)], .box [.d (.int .i64 0), .d (.int .i64 0)]]) (by kernel_rfl) (by kernel_rfl) (by kernel_rfl) (by kernel_rfl) (by decide) (by kernel_rfl) (by kernel_rfl) ?_
     exact hj8 1
    ·refine oCondF (by kernel_rfl) ?_
     refine oSkip ?_
     refine oHead [2, 3, 4] [0, 1] (T' := [(2, .ptr 1 0), (3, .d (.int .i64 n11)), (4, .d (.int .i64 m12))]) (H' := [.box [.d (.lit (List.map e_i64 x)), .d (.int .i64 x63)], .box [.d (.int .i64 0), .d (.int .i64 0)]]) (by kernel_rfl) (by kernel_rfl) (by kernel_rfl) (by kernel_rfl) (by decide) (by kernel_rfl) (by kernel_rfl) ?_
     exact hj8 m12
  ·refine oBlock ?_
   refine oLoop ?_
   refine oHead [2, 3, 4, 5] [0, 1] (T' := [(2, .ptr 1 0), (3, .d (.int .i64 (IntKind.wrap .i64 (r14 - 10)))), (4, .d (.int .i64 (IntKind.wrap .i64 (1 + r15)))), (5, .d (.int .i64 5))]) (H' := [.box [.d (.lit (List.map e_i64 x)), .d (.int .i64 x63)], .box [.d (.int .i64 0), .d (.int .i64 0)]]) (by kernel_rfl) (by kernel_rfl) (by kernel_rfl) (by kernel_rfl) (by decide) (by kernel_rfl) (by kernel_rfl) ?_
   refine bLoop (body := mark_Dice_Ratio_b1 k) ((uc fun (n14 : Int) => (uc fun (m16 : Int) => (fun (k14 : Int) => [(2, .ptr 1 0), (3, .d (.int .i64 n14)), (4, .d (.int .i64 m16)), (5, .d (.int .i64 k14))])))) ((uc fun (n14 : Int) => (uc fun (m16 : Int) => (fun (k14 : Int) => [.box [.d (.lit (List.map e_i64 x)), .d (.int .i64 x63)], .box [.d (.int .i64 0), .d (.int .i64 0)]])))) (fun again hag1 s => ?_) k ((IntKind.wrap .i64 (r14 - 10)), (IntKind.wrap .i64 (1 + r15)), 5)
   ·unfold mark_Dice_Ratio_b1
    obtain ⟨n14, m16, k14⟩ := s
    refine bUc ?_
    refine bUc ?_
    refine oView (T' := [(2, .ptr 1 0), (3, .d (.int .i64 n14)), (4, .d (.int .i64 m16)), (5, .d (.int .i64 k14))]) (H' := [.box [.d (.lit (List.map e_i64 x)), .d (.int .i64 x63)], .box [.d (.int .i64 0), .d (.int .i64 0)]]) (by kernel_rfl) (by kernel_rfl) ?_
    refine oSeq ?_
    refine oSeq ?_
    refine oRegion rfl ?_
    refine oOp (.d (.int .i64 k14)) (by kernel_rfl) (by kernel_rfl) (PureV.does (p_move (by kernel_rfl))) ?_
    refine oOp (.d (.bool (decide (k14 > 1)))) (by kernel_rfl) (by kernel_rfl) (PureV.does (p_int (k := .i64) (p := k14) (q := 1) (by kernel_rfl) (by kernel_rfl) (by kernel_rfl))) ?_
    refine oEnd ?_
    refine bSplit 13 (by kernel_rfl) (fun hc => ?_) (fun hc => ?_)
    ·refine oCondT (by kernel_rfl) ?_
     refine oSkip ?_
     refine oSeq ?_
     refine bJoin ((uc fun (n17 : Int) => (fun (m19 : Int) => [(2, .ptr 1 0), (3, .d (.int .i64 n17)), (4, .d (.int .i64 m19)), (5, .d (.int .i64 k14))]))) ((uc fun (n17 : Int) => (fun (m19 : Int) => [.box [.d (.lit (List.map e_i64 x)), .d (.int .i64 x63)], .box [.d (.int .i64 0), .d (.int .i64 0)]]))) (fun s => s) (fun s => ?_) (fun hj11 => ?_)
     ·obtain ⟨n17, m19⟩ := s
      refine bUc ?_
      refine oView (T' := [(2, .ptr 1 0), (3, .d (.int .i64 n17)), (4, .d (.int .i64 m19)), (5, .d (.int .i64 k14))]) (H' := [.box [.d (.lit (List.map e_i64 x)), .d (.int .i64 x63)], .box [.d (.int .i64 0), .d (.int .i64 0)]]) (by kernel_rfl) (by kernel_rfl) ?_
      refine oRegion rfl ?_
      refine oOp (.d (.int .i64 k14)) (by kernel_rfl) (by kernel_rfl) (PureV.does (p_move (by kernel_rfl))) ?_
      refine oOp (.d (.int .i64 (IntKind.wrap .i64 (k14 - 1)))) (by kernel_rfl) (by kernel_rfl) (PureV.does (p_int (k := .i64) (p := k14) (q := 1) (by kernel_rfl) (by kernel_rfl) (by kernel_rfl))) ?_
      refine oOp (.d (.int .i64 (IntKind.wrap .i64 (k14 - 1)))) (by kernel_rfl) (by kernel_rfl) (PureV.does (p_assign (by kernel_rfl))) ?_
      refine oEnd ?_
      refine oAgain ?_
      refine oHead [2, 3, 4, 5] [0, 1] (T' := [(2, .ptr 1 0), (3, .d (.int .i64 n17)), (4, .d (.int .i64 m19)), (5, .d (.int .i64 (IntKind.wrap .i64 (k14 - 1))))]) (H' := [.box [.d (.lit (List.map e_i64 x)), .d (.int .i64 x63)], .box [.d (.int .i64 0), .d (.int .i64 0)]]) (by kernel_rfl) (by kernel_rfl) (by kernel_rfl) (by kernel_rfl) (by decide) (by kernel_rfl) (by kernel_rfl) ?_
      exact hag1 (n17, m19, (IntKind.wrap .i64 (k14 - 1)))
     ·refine oBlock ?_
      refine oSeq ?_
      refine oRegion rfl ?_
      refine oOp (.d (.int .i64 n14)) (by kernel_rfl) (by kernel_rfl) (PureV.does (p_move (by kernel_rfl))) ?_
      refine oOp (.d (.int .i64 k14)) (by kernel_rfl) (by kernel_rfl) (PureV.does (p_move (by kernel_rfl))) ?_
      refine bNz (fun h140 => ?_)
      refine oOp (.d (.int .i64 (Int.tmod n14 k14))) (by kernel_rfl) (by kernel_rfl) (PureV.does (p_rem (k := .i64) (p := n14) (q := k14) (by kernel_rfl) (by kernel_rfl) h140 (by kernel_rfl))) ?_
      refine oOp (.d (.bool ((Int.tmod n14 k14) == 0))) (by kernel_rfl) (by kernel_rfl) (PureV.does (p_int (k := .i64) (p := (Int.tmod n14 k14)) (q := 0) (by kernel_rfl) (by kernel_rfl) (by kernel_rfl))) ?_
      refine oOp (.d (.bool ((Int.tmod n14 k14) == 0))) (by kernel_rfl) (by kernel_rfl) (PureV.does (p_move (by kernel_rfl))) ?_
      refine bMeet 5 rfl ((fun (x11 : Bool) => [(2, .ptr 1 0), (3, .d (.int .i64 n14)), (4, .d (.int .i64 m16)), (5, .d (.int .i64 k14)), (25, .d (.bool x11))])) ((fun (x11 : Bool) => [.box [.d (.lit (List.map e_i64 x)), .d (.int .i64 x63)], .box [.d (.int .i64 0), .d (.int .i64 0)]])) (fun s => s) (fun x11 => ?_) (fun hj12 => ?_)
      ·refine oView (T' := [(2, .ptr 1 0), (3, .d (.int .i64 n14)), (4, .d (.int .i64 m16)), (5, .d (.int .i64 k14)), (25, .d (.bool x11))]) (H' := [.box [.d (.lit (List.map e_i64 x)), .d (.int .i64 x63)], .box [.d (.int .i64 0), .d (.int .i64 0)]]) (by kernel_rfl) (by kernel_rfl) ?_
       refine oEnd ?_
       refine bSplit 25 (by kernel_rfl) (fun hc => ?_) (fun hc => ?_)
       ·refine oCondT (by kernel_rfl) ?_
        refine oDraw [(0, 8), (1, 8)] rfl ?_
        refine aTakeL (i := 0) (st' := []) (.d (.int .i64 n14)) rfl (by kernel_rfl) (by kernel_rfl) (by kernel_rfl) (by kernel_rfl) (by kernel_rfl) (by kernel_rfl) (by kernel_rfl) (PureV.quiet (p_move (by kernel_rfl)) []) ?_
        refine aTakeL (i := 1) (st' := []) (.d (.int .i64 k14)) rfl (by kernel_rfl) (by kernel_rfl) (by kernel_rfl) (by kernel_rfl) (by kernel_rfl) (by kernel_rfl) (by kernel_rfl) (PureV.quiet (p_move (by kernel_rfl)) []) ?_
        refine dNz (fun h146 => ?_)
        refine aTakeP (i := 2) (.d (.int .i64 (IntKind.wrap .i64 (Int.tdiv n14 k14)))) rfl (by kernel_rfl) (by kernel_rfl) (by kernel_rfl) (by kernel_rfl) (by kernel_rfl) (by kernel_rfl) (by kernel_rfl) (p_quo (k := .i64) (p := n14) (q := k14) (by kernel_rfl) (by kernel_rfl) h146 (by kernel_rfl)) ?_
        refine aTakeL (i := 3) (st' := []) (.d (.int .i64 m16)) rfl (by kernel_rfl) (by kernel_rfl) (by kernel_rfl) (by kernel_rfl) (by kernel_rfl) (by kernel_rfl) (by kernel_rfl) (PureV.quiet (p_move (by kernel_rfl)) []) ?_
        refine aTakeL (i := 4) (st' := []) (.d (.int .i64 k14)) rfl (by kernel_rfl) (by kernel_rfl) (by kernel_rfl) (by kernel_rfl) (by kernel_rfl) (by kernel_rfl) (by kernel_rfl) (PureV.quiet (p_move (by kernel_rfl)) []) ?_
        refine dNz (fun h148 => ?_)
        refine aTakeP (i := 5) (.d (.int .i64 (IntKind.wrap .i64 (Int.tdiv m16 k14)))) rfl (by kernel_rfl) (by kernel_rfl) (by kernel_rfl) (by kernel_rfl) (by kernel_rfl) (by kernel_rfl) (by kernel_rfl) (p_quo (k := .i64) (p := m16) (q := k14) (by kernel_rfl) (by kernel_rfl) h148 (by kernel_rfl)) ?_
        refine aTakeL (i := 6) (st' := []) (.d (.int .i64 (IntKind.wrap .i64 (Int.tdiv n14 k14)))) rfl (by kernel_rfl) (by kernel_rfl) (by kernel_rfl) (by kernel_rfl) (by kernel_rfl) (by kernel_rfl) (by kernel_rfl) (PureV.quiet (p_assign (by kernel_rfl)) []) ?_
        refine aTakeL (i := 7) (st' := []) (.d (.int .i64 (IntKind.wrap .i64 (Int.tdiv m16 k14)))) rfl (by kernel_rfl) (by kernel_rfl) (by kernel_rfl) (by kernel_rfl) (by kernel_rfl) (by kernel_rfl) (by kernel_rfl) (PureV.quiet (p_assign (by kernel_rfl)) []) ?_
        refine aDone (by kernel_rfl) ?_
        refine oBlk ?_
        refine oHead [2, 3, 4, 5] [0, 1] (T' := [(2, .ptr 1 0), (3, .d (.int .i64 (IntKind.wrap .i64 (Int.tdiv n14 k14)))), (4, .d (.int .i64 (IntKind.wrap .i64 (Int.tdiv m16 k14)))), (5, .d (.int .i64 k14))]) (H' := [.box [.d (.lit (List.map e_i64 x)), .d (.int .i64 x63)], .box [.d (.int .i64 0), .d (.int .i64 0)]]) (by kernel_rfl) (by kernel_rfl) (by kernel_rfl) (by kernel_rfl) (by decide) (by kernel_rfl) (by kernel_rfl) ?_
        exact hj11 ((IntKind.wrap .i64 (Int.tdiv n14 k14)), (IntKind.wrap .i64 (Int.tdiv m16 k14)))
       ·refine oCondF (by kernel_rfl) ?_
        refine oSkip ?_
        refine oBlk ?_
        refine oHead [2, 3, 4, 5] [0, 1] (T' := [(2, .ptr 1 0), (3, .d (.int .i64 n14)), (4, .d (.int .i64 m16)), (5, .d (.int .i64 k14))]) (H' := [.box [.d (.lit (List.map e_i64 x)), .d (.int .i64 x63)], .box [.d (.int .i64 0), .d (.int .i64 0)]]) (by kernel_rfl) (by kernel_rfl) (by kernel_rfl) (by kernel_rfl) (by decide) (by kernel_rfl) (by kernel_rfl) ?_
        exact hj11 (n14, m16)
      ·refine bSplit 20 (by kernel_rfl) (fun hc => ?_) (fun hc => ?_)
       ·refine oOp (.d (.int .i64 m16)) (by kernel_rfl) (by kernel_rfl) (PureV.does (p_move (by kernel_rfl))) ?_
        refine oOp (.d (.int .i64 k14)) (by kernel_rfl) (by kernel_rfl) (PureV.does (p_move (by kernel_rfl))) ?_
        refine bNz (fun h150 => ?_)
        refine oOp (.d (.int .i64 (Int.tmod m16 k14))) (by kernel_rfl) (by kernel_rfl) (PureV.does (p_rem (k := .i64) (p := m16) (q := k14) (by kernel_rfl) (by kernel_rfl) h150 (by kernel_rfl))) ?_
        refine oOp (.d (.bool ((Int.tmod m16 k14) == 0))) (by kernel_rfl) (by kernel_rfl) (PureV.does (p_int (k := .i64) (p := (Int.tmod m16 k14)) (q := 0) (by kernel_rfl) (by kernel_rfl) (by kernel_rfl))) ?_
        refine oOp (.d (.bool ((Int.tmod m16 k14) == 0))) (by kernel_rfl) (by kernel_rfl) (PureV.does (p_pick (b := true) (by kernel_rfl) (by kernel_rfl))) ?_
        refine oHead [2, 3, 4, 5, 25] [0, 1] (T' := [(2, .ptr 1 0), (3, .d (.int .i64 n14)), (4, .d (.int .i64 m16)), (5, .d (.int .i64 k14)), (25, .d (.bool ((Int.tmod m16 k14) == 0)))]) (H' := [.box [.d (.lit (List.map e_i64 x)), .d (.int .i64 x63)], .box [.d (.int .i64 0), .d (.int .i64 0)]]) (by kernel_rfl) (by kernel_rfl) (by kernel_rfl) (by kernel_rfl) (by decide) (by kernel_rfl) (by kernel_rfl) ?_
        exact hj12 ((Int.tmod m16 k14) == 0)
       ·refine oNot (by kernel_rfl) (by kernel_rfl) ?_
        refine oNot (by kernel_rfl) (by kernel_rfl) ?_
        refine oNot (by kernel_rfl) (by kernel_rfl) ?_
        refine oNot (by kernel_rfl) (by kernel_rfl) ?_
        refine oOp (.d (.bool false)) (by kernel_rfl) (by kernel_rfl) (PureV.does (p_pick (b := false) (by kernel_rfl) (by kernel_rfl))) ?_
        refine oHead [2, 3, 4, 5, 25] [0, 1] (T' := [(2, .ptr 1 0), (3, .d (.int .i64 n14)), (4, .d (.int .i64 m16)), (5, .d (.int .i64 k14)), (25, .d (.bool false))]) (H' := [.box [.d (.lit (List.map e_i64 x)), .d (.int .i64 x63)], .box [.d (.int .i64 0), .d (.int .i64 0)]]) (by kernel_rfl) (by kernel_rfl) (by kernel_rfl) (by kernel_rfl) (by decide) (by kernel_rfl) (by kernel_rfl) ?_
        exact hj12 false
    ·refine oCondF (by kernel_rfl) ?_
     refine oExit rfl ?_
     refine oHead [2, 3, 4] [0, 1] (T' := [(2, .ptr 1 0), (3, .d (.int .i64 n14)), (4, .d (.int .i64 m16))]) (H' := [.box [.d (.lit (List.map e_i64 x)), .d (.int .i64 x63)], .box [.d (.int .i64 0), .d (.int .i64 0)]]) (by kernel_rfl) (by kernel_rfl) (by kernel_rfl) (by kernel_rfl) (by decide) (by kernel_rfl) (by kernel_rfl) ?_
     exact hj7 (n14, m16)

/-- awardingbody/awardingbodyref01.Size -/
def ref01_Size (k : Nat) (n : Int) : Option (Int) := bif (decide (n < 0)) then some (IntKind.wrap .u64 ((IntKind.wrap .u64 (IntKind.wrap .i64 (0 - (IntKind.wrap .i64 (n + 1))))) + 1)) else some (IntKind.wrap .u64 n)
def ref01_Size_E (n : Int) : Int → V × List Blk := fun r1 => (.d (.int .u64 r1), [])
theorem ref01_Size_goes (k : Nat) (n : Int) : RunsO Try.prog 45 [.d (.int .i64 n)] [] (ref01_Size_E n) (ref01_Size k n) := by
  refine RunsO.of_goes (N := 12) (m := 0) (T := [(0, .d (.int .i64 n))]) Try.func45 rfl rfl (by kernel_rfl) (by kernel_rfl) (by kernel_rfl) ?_
  unfold ref01_Size
  refine bStart ?_
  refine oSeq ?_
  refine oRegion rfl ?_
  refine oOp (.d (.int .u64 0)) (by kernel_rfl) (by kernel_rfl) (PureV.does (p_assign (by kernel_rfl))) ?_
  refine oEnd ?_
  refine oSeq ?_
  refine oSeq ?_
  refine oRegion rfl ?_
  refine oOp (.d (.int .i64 n)) (by kernel_rfl) (by kernel_rfl) (PureV.does (p_move (by kernel_rfl))) ?_
  refine oOp (.d (.bool (decide (n < 0)))) (by kernel_rfl) (by kernel_rfl) (PureV.does (p_int (k := .i64) (p := n) (q := 0) (by kernel_rfl) (by kernel_rfl) (by kernel_rfl))) ?_
  refine oEnd ?_
  refine bSplit 4 (by kernel_rfl) (fun hc => ?_) (fun hc => ?_)
  ·refine oCondT (by kernel_rfl) ?_
   refine oSeq ?_
   refine oRegion rfl ?_
   refine oOp (.d (.int .i64 n)) (by kernel_rfl) (by kernel_rfl) (PureV.does (p_move (by kernel_rfl))) ?_
   refine oOp (.d (.int .i64 (IntKind.wrap .i64 (n + 1)))) (by kernel_rfl) (by kernel_rfl) (PureV.does (p_int (k := .i64) (p := n) (q := 1) (by kernel_rfl) (by kernel_rfl) (by kernel_rfl))) ?_
   refine oOp (.d (.int .i64 (IntKind.wrap .i64 (0 - (IntKind.wrap .i64 (n + 1)))))) (by kernel_rfl) (by kernel_rfl) (PureV.does (p_neg (k := .i64) (p := (IntKind.wrap .i64 (n + 1))) (by kernel_rfl) (by kernel_rfl))) ?_
   refine oOp (.d (.int .u64 (IntKind.wrap .u64 (IntKind.wrap .i64 (0 - (IntKind.wrap .i64 (n + 1))))))) (by kernel_rfl) (by kernel_rfl) (PureV.does (p_conv (k := .i64) (p := (IntKind.wrap .i64 (0 - (IntKind.wrap .i64 (n + 1))))) (by kernel_rfl) Try.underlying3 Try.underlying64 (by kernel_rfl))) ?_
   refine oOp (.d (.int .u64 (IntKind.wrap .u64 ((IntKind.wrap .u64 (IntKind.wrap .i64 (0 - (IntKind.wrap .i64 (n + 1))))) + 1)))) (by kernel_rfl) (by kernel_rfl) (PureV.does (p_int (k := .u64) (p := (IntKind.wrap .u64 (IntKind.wrap .i64 (0 - (IntKind.wrap .i64 (n + 1)))))) (q := 1) (by kernel_rfl) (by kernel_rfl) (by kernel_rfl))) ?_
   refine oOp (.d (.int .u64 (IntKind.wrap .u64 ((IntKind.wrap .u64 (IntKind.wrap .i64 (0 - (IntKind.wrap .i64 (n + 1))))) + 1)))) (by kernel_rfl) (by kernel_rfl) (PureV.does (p_assign (by kernel_rfl))) ?_
   refine oEnd ?_
   exact oRet (r0 := (IntKind.wrap .u64 ((IntKind.wrap .u64 (IntKind.wrap .i64 (0 - (IntKind.wrap .i64 (n + 1))))) + 1))) (rv := .d (.int .u64 (IntKind.wrap .u64 ((IntKind.wrap .u64 (IntKind.wrap .i64 (0 - (IntKind.wrap .i64 (n + 1))))) + 1)))) (B := []) (vs := [.d (.int .u64 (IntKind.wrap .u64 ((IntKind.wrap .u64 (IntKind.wrap .i64 (0 - (IntKind.wrap .i64 (n + 1))))) + 1)))]) (σ := []) (by kernel_rfl) Try.func45 rfl (.cons _ _ _ _ (.tmp 2 _ (by kernel_rfl)) .nil) (by kernel_rfl) (by kernel_rfl) (by kernel_rfl) (by kernel_rfl) (by decide) (by kernel_rfl) (by kernel_rfl)
  ·refine oCondF (by kernel_rfl) ?_
   refine oSkip ?_
   refine oSeq ?_
   refine oRegion rfl ?_
   refine oOp (.d (.int .i64 n)) (by kernel_rfl) (by kernel_rfl) (PureV.does (p_move (by kernel_rfl))) ?_
   refine oOp (.d (.int .u64 (IntKind.wrap .u64 n))) (by kernel_rfl) (by kernel_rfl) (PureV.does (p_conv (k := .i64) (p := n) (by kernel_rfl) Try.underlying3 Try.underlying64 (by kernel_rfl))) ?_
   refine oOp (.d (.int .u64 (IntKind.wrap .u64 n))) (by kernel_rfl) (by kernel_rfl) (PureV.does (p_assign (by kernel_rfl))) ?_
   refine oEnd ?_
   exact oRet (r0 := (IntKind.wrap .u64 n)) (rv := .d (.int .u64 (IntKind.wrap .u64 n))) (B := []) (vs := [.d (.int .u64 (IntKind.wrap .u64 n))]) (σ := []) (by kernel_rfl) Try.func45 rfl (.cons _ _ _ _ (.tmp 2 _ (by kernel_rfl)) .nil) (by kernel_rfl) (by kernel_rfl) (by kernel_rfl) (by kernel_rfl) (by decide) (by kernel_rfl) (by kernel_rfl)

/-- awardingbody/awardingbodyref01.Twice -/
def ref01_Twice (k : Nat) (a0 : Int) (a1 : Int) : Option (Int × Int) := some ((ior .u64 (IntKind.wrap .u64 (a0 * 2 ^ (min (Int.toNat 1) (IntKind.bits .u64)))) (Int.fdiv a1 (2 ^ (min (Int.toNat 63) (IntKind.bits .u64))))), (IntKind.wrap .u64 (a1 * 2 ^ (min (Int.toNat 1) (IntKind.bits .u64)))))
def ref01_Twice_E (a0 : Int) (a1 : Int) : Int × Int → V × List Blk := uc fun r1 => fun r11 => (.agg [.d (.int .u64 r1), .d (.int .u64 r11)], [])
theorem ref01_Twice_goes (k : Nat) (a0 : Int) (a1 : Int) : RunsO Try.prog 84 [.agg [.d (.int .u64 a0), .d (.int .u64 a1)]] [] (ref01_Twice_E a0 a1) (ref01_Twice k a0 a1) := by
  refine RunsO.of_goes (N := 14) (m := 0) (T := [(0, .agg [.d (.int .u64 a0), .d (.int .u64 a1)])]) Try.func84 rfl rfl (by kernel_rfl) (by kernel_rfl) (by kernel_rfl) ?_
  unfold ref01_Twice
  refine bStart ?_
  refine oSeq ?_
  refine oRegion rfl ?_
  refine oOp (.ptr 0 0) (by kernel_rfl) (by kernel_rfl) (k_box (H' := [.box [.d (.int .u64 a0), .d (.int .u64 a1)]]) (cells := [.d (.int .u64 a0), .d (.int .u64 a1)]) (by kernel_rfl) (by kernel_rfl) (by kernel_rfl)) ?_
  refine oOp (.ptr 1 0) (by kernel_rfl) (by kernel_rfl) (k_alloc (H' := [.box [.d (.int .u64 a0), .d (.int .u64 a1)], .box [.d (.int .u64 0), .d (.int .u64 0)]]) ty72 (by kernel_rfl) (by kernel_rfl)) ?_
  refine oEnd ?_
  refine oSeq ?_
  refine oRegion rfl ?_
  refine oOp (.ptr 0 0) (by kernel_rfl) (by kernel_rfl) (PureV.does (k_fieldAddr 0 0 (by kernel_rfl) Try.underlying72 rfl ty64 (by kernel_rfl))) ?_
  refine oOp (.d (.int .u64 a0)) (by kernel_rfl) (by kernel_rfl) (Quiet.does (k_load 0 0 (by kernel_rfl) Try.underlying64 (by kernel_rfl) (by kernel_rfl))) ?_
  refine oOp (.d (.int .u64 (IntKind.wrap .u64 (a0 * 2 ^ (min (Int.toNat 1) (IntKind.bits .u64)))))) (by kernel_rfl) (by kernel_rfl) (PureV.does (p_shl (k := .u64) (k2 := .u64) (p := a0) (q := 1) (by kernel_rfl) (by kernel_rfl) (by decide) (by kernel_rfl))) ?_
  refine oOp (.ptr 0 1) (by kernel_rfl) (by kernel_rfl) (PureV.does (k_fieldAddr 0 0 (by kernel_rfl) Try.underlying72 rfl ty64 (by kernel_rfl))) ?_
  refine oOp (.d (.int .u64 a1)) (by kernel_rfl) (by kernel_rfl) (Quiet.does (k_load 0 1 (by kernel_rfl) Try.underlying64 (by kernel_rfl) (by kernel_rfl))) ?_
  refine oOp (.d (.int .u64 (Int.fdiv a1 (2 ^ (min (Int.toNat 63) (IntKind.bits .u64)))))) (by kernel_rfl) (by kernel_rfl) (PureV.does (p_shr (k := .u64) (k2 := .u64) (p := a1) (q := 63) (by kernel_rfl) (by kernel_rfl) (by decide) (by kernel_rfl))) ?_
  refine oOp (.d (.int .u64 (ior .u64 (IntKind.wrap .u64 (a0 * 2 ^ (min (Int.toNat 1) (IntKind.bits .u64)))) (Int.fdiv a1 (2 ^ (min (Int.toNat 63) (IntKind.bits .u64))))))) (by kernel_rfl) (by kernel_rfl) (PureV.does (p_int (k := .u64) (p := (IntKind.wrap .u64 (a0 * 2 ^ (min (Int.toNat 1) (IntKind.bits .u64))))) (q := (Int.fdiv a1 (2 ^ (min (Int.toNat 63) (IntKind.bits .u64))))) (by kernel_rfl) (by kernel_rfl) (by kernel_rfl))) ?_
  refine oOp (.ptr 0 1) (by kernel_rfl) (by kernel_rfl) (PureV.does (k_fieldAddr 0 0 (by kernel_rfl) Try.underlying72 rfl ty64 (by kernel_rfl))) ?_
  refine oOp (.d (.int .u64 a1)) (by kernel_rfl) (by kernel_rfl) (Quiet.does (k_load 0 1 (by kernel_rfl) Try.underlying64 (by kernel_rfl) (by kernel_rfl))) ?_
  refine oOp (.d (.int .u64 (IntKind.wrap .u64 (a1 * 2 ^ (min (Int.toNat 1) (IntKind.bits .u64)))))) (by kernel_rfl) (by kernel_rfl) (PureV.does (p_shl (k := .u64) (k2 := .u64) (p := a1) (q := 1) (by kernel_rfl) (by kernel_rfl) (by decide) (by kernel_rfl))) ?_
  refine oOp (.agg [.d (.int .u64 (ior .u64 (IntKind.wrap .u64 (a0 * 2 ^ (min (Int.toNat 1) (IntKind.bits .u64)))) (Int.fdiv a1 (2 ^ (min (Int.toNat 63) (IntKind.bits .u64)))))), .d (.int .u64 (IntKind.wrap .u64 (a1 * 2 ^ (min (Int.toNat 1) (IntKind.bits .u64)))))]) (by kernel_rfl) (by kernel_rfl) (PureV.does (p_build bld72 (by kernel_rfl))) ?_
  refine oOp (.undef) (by kernel_rfl) (by kernel_rfl) (k_store (vs := [.d (.int .u64 (ior .u64 (IntKind.wrap .u64 (a0 * 2 ^ (min (Int.toNat 1) (IntKind.bits .u64)))) (Int.fdiv a1 (2 ^ (min (Int.toNat 63) (IntKind.bits .u64)))))), .d (.int .u64 (IntKind.wrap .u64 (a1 * 2 ^ (min (Int.toNat 1) (IntKind.bits .u64)))))]) (H' := [.box [.d (.int .u64 a0), .d (.int .u64 a1)], .box [.d (.int .u64 (ior .u64 (IntKind.wrap .u64 (a0 * 2 ^ (min (Int.toNat 1) (IntKind.bits .u64)))) (Int.fdiv a1 (2 ^ (min (Int.toNat 63) (IntKind.bits .u64)))))), .d (.int .u64 (IntKind.wrap .u64 (a1 * 2 ^ (min (Int.toNat 1) (IntKind.bits .u64)))))]]) 1 0 (by kernel_rfl) ty72 (by kernel_rfl) (by kernel_rfl) (by kernel_rfl)) ?_
  refine oEnd ?_
  exact oRet (r0 := ((ior .u64 (IntKind.wrap .u64 (a0 * 2 ^ (min (Int.toNat 1) (IntKind.bits .u64)))) (Int.fdiv a1 (2 ^ (min (Int.toNat 63) (IntKind.bits .u64))))), (IntKind.wrap .u64 (a1 * 2 ^ (min (Int.toNat 1) (IntKind.bits .u64)))))) (rv := .agg [.d (.int .u64 (ior .u64 (IntKind.wrap .u64 (a0 * 2 ^ (min (Int.toNat 1) (IntKind.bits .u64)))) (Int.fdiv a1 (2 ^ (min (Int.toNat 63) (IntKind.bits .u64)))))), .d (.int .u64 (IntKind.wrap .u64 (a1 * 2 ^ (min (Int.toNat 1) (IntKind.bits .u64)))))]) (B := []) (vs := [.agg [.d (.int .u64 (ior .u64 (IntKind.wrap .u64 (a0 * 2 ^ (min (Int.toNat 1) (IntKind.bits .u64)))) (Int.fdiv a1 (2 ^ (min (Int.toNat 63) (IntKind.bits .u64)))))), .d (.int .u64 (IntKind.wrap .u64 (a1 * 2 ^ (min (Int.toNat 1) (IntKind.bits .u64)))))]]) (σ := []) (by kernel_rfl) Try.func84 rfl (.cons _ _ _ _ (.agg 2 72 1 0 [.d (.int .u64 (ior .u64 (IntKind.wrap .u64 (a0 * 2 ^ (min (Int.toNat 1) (IntKind.bits .u64)))) (Int.fdiv a1 (2 ^ (min (Int.toNat 63) (IntKind.bits .u64)))))), .d (.int .u64 (IntKind.wrap .u64 (a1 * 2 ^ (min (Int.toNat 1) (IntKind.bits .u64)))))] [.d (.int .u64 (ior .u64 (IntKind.wrap .u64 (a0 * 2 ^ (min (Int.toNat 1) (IntKind.bits .u64)))) (Int.fdiv a1 (2 ^ (min (Int.toNat 63) (IntKind.bits .u64)))))), .d (.int .u64 (IntKind.wrap .u64 (a1 * 2 ^ (min (Int.toNat 1) (IntKind.bits .u64)))))] _ _ _ _ (by kernel_rfl) (by kernel_rfl) Try.underlying72 (by kernel_rfl) ty72 (by kernel_rfl) (by kernel_rfl)) .nil) (by kernel_rfl) (by kernel_rfl) (by kernel_rfl) (by kernel_rfl) (by decide) (by kernel_rfl) (by kernel_rfl)

/-- awardingbody/awardingbodyref01.Order -/
def ref01_Order (k : Nat) (a0 : Int) (a1 : Int) (b0 : Int) (b1 : Int) : Option (Int) := Option.bind (bif (decide (a0 < b0)) then some true else blet ((a0 == b0) && (decide (a1 < b1))) fun x4 => some x4 : Option (Bool)) (fun x3 => bif x3 then some (-1) else bif ((a0 == b0) && ((a1 == b1) && true)) then some 0 else some 1)
def ref01_Order_E (a0 : Int) (a1 : Int) (b0 : Int) (b1 : Int) : Int → V × List Blk := fun r1 => (.d (.int .i64 r1), [])
theorem ref01_Order_goes (k : Nat) (a0 : Int) (a1 : Int) (b0 : Int) (b1 : Int) : RunsO Try.prog 57 [.agg [.d (.int .u64 a0), .d (.int .u64 a1)], .agg [.d (.int .u64 b0), .d (.int .u64 b1)]] [] (ref01_Order_E a0 a1 b0 b1) (ref01_Order k a0 a1 b0 b1) := by
  refine RunsO.of_goes (N := 27) (m := 0) (T := [(0, .agg [.d (.int .u64 a0), .d (.int .u64 a1)]), (1, .agg [.d (.int .u64 b0), .d (.int .u64 b1)])]) Try.func57 rfl rfl (by kernel_rfl) (by kernel_rfl) (by kernel_rfl) ?_
  unfold ref01_Order
  refine bStart ?_
  refine oSeq ?_
  refine oRegion rfl ?_
  refine oOp (.ptr 0 0) (by kernel_rfl) (by kernel_rfl) (k_box (H' := [.box [.d (.int .u64 a0), .d (.int .u64 a1)]]) (cells := [.d (.int .u64 a0), .d (.int .u64 a1)]) (by kernel_rfl) (by kernel_rfl) (by kernel_rfl)) ?_
  refine oOp (.ptr 1 0) (by kernel_rfl) (by kernel_rfl) (k_box (H' := [.box [.d (.int .u64 a0), .d (.int .u64 a1)], .box [.d (.int .u64 b0), .d (.int .u64 b1)]]) (cells := [.d (.int .u64 b0), .d (.int .u64 b1)]) (by kernel_rfl) (by kernel_rfl) (by kernel_rfl)) ?_
  refine oOp (.d (.int .i64 0)) (by kernel_rfl) (by kernel_rfl) (PureV.does (p_assign (by kernel_rfl))) ?_
  refine oEnd ?_
  refine oSeq ?_
  refine oSeq ?_
  refine oRegion rfl ?_
  refine oOp (.ptr 0 0) (by kernel_rfl) (by kernel_rfl) (PureV.does (k_fieldAddr 0 0 (by kernel_rfl) Try.underlying72 rfl ty64 (by kernel_rfl))) ?_
  refine oOp (.d (.int .u64 a0)) (by kernel_rfl) (by kernel_rfl) (Quiet.does (k_load 0 0 (by kernel_rfl) Try.underlying64 (by kernel_rfl) (by kernel_rfl))) ?_
  refine oOp (.ptr 1 0) (by kernel_rfl) (by kernel_rfl) (PureV.does (k_fieldAddr 1 0 (by kernel_rfl) Try.underlying72 rfl ty64 (by kernel_rfl))) ?_
  refine oOp (.d (.int .u64 b0)) (by kernel_rfl) (by kernel_rfl) (Quiet.does (k_load 1 0 (by kernel_rfl) Try.underlying64 (by kernel_rfl) (by kernel_rfl))) ?_
  refine oOp (.d (.bool (decide (a0 < b0)))) (by kernel_rfl) (by kernel_rfl) (PureV.does (p_int (k := .u64) (p := a0) (q := b0) (by kernel_rfl) (by kernel_rfl) (by kernel_rfl))) ?_
  refine oOp (.d (.bool (decide (a0 < b0)))) (by kernel_rfl) (by kernel_rfl) (PureV.does (p_move (by kernel_rfl))) ?_
  refine bMeet 13 rfl ((fun (x3 : Bool) => [(2, .ptr 0 0), (3, .ptr 1 0), (23, .d (.bool x3))])) ((fun (x3 : Bool) => [.box [.d (.int .u64 a0), .d (.int .u64 a1)], .box [.d (.int .u64 b0), .d (.int .u64 b1)]])) (fun s => s) (fun x3 => ?_) (fun hj1 => ?_)
  ·refine oView (T' := [(2, .ptr 0 0), (3, .ptr 1 0), (23, .d (.bool x3))]) (H' := [.box [.d (.int .u64 a0), .d (.int .u64 a1)], .box [.d (.int .u64 b0), .d (.int .u64 b1)]]) (by kernel_rfl) (by kernel_rfl) ?_
   refine oEnd ?_
   refine bSplit 23 (by kernel_rfl) (fun hc => ?_) (fun hc => ?_)
   ·refine oCondT (by kernel_rfl) ?_
    refine oSeq ?_
    refine oRegion rfl ?_
    refine oOp (.d (.int .i64 (-1))) (by kernel_rfl) (by kernel_rfl) (PureV.does (p_assign (by kernel_rfl))) ?_
    refine oEnd ?_
    exact oRet (r0 := (-1)) (rv := .d (.int .i64 (-1))) (B := []) (vs := [.d (.int .i64 (-1))]) (σ := []) (by kernel_rfl) Try.func57 rfl (.cons _ _ _ _ (.tmp 4 _ (by kernel_rfl)) .nil) (by kernel_rfl) (by kernel_rfl) (by kernel_rfl) (by kernel_rfl) (by decide) (by kernel_rfl) (by kernel_rfl)
   ·refine oCondF (by kernel_rfl) ?_
    refine oSkip ?_
    refine oSeq ?_
    refine oSeq ?_
    refine oRegion rfl ?_
    refine oOp (.agg [.d (.int .u64 a0), .d (.int .u64 a1)]) (by kernel_rfl) (by kernel_rfl) (Quiet.does (k_loadAgg 0 0 (by kernel_rfl) Try.underlying72 (by kernel_rfl) ty72 (by kernel_rfl))) ?_
    refine oOp (.agg [.d (.int .u64 b0), .d (.int .u64 b1)]) (by kernel_rfl) (by kernel_rfl) (Quiet.does (k_loadAgg 1 0 (by kernel_rfl) Try.underlying72 (by kernel_rfl) ty72 (by kernel_rfl))) ?_
    refine oOp (.d (.bool ((a0 == b0) && ((a1 == b1) && true)))) (by kernel_rfl) (by kernel_rfl) (PureV.does (k_eqAgg (by kernel_rfl) (by kernel_rfl) Try.eqGuardType72 (EqV.struct 1 72 [.d (.int .u64 a0), .d (.int .u64 a1)] [.d (.int .u64 b0), .d (.int .u64 b1)] _ ((a0 == b0) && ((a1 == b1) && true)) Try.underlying72 Try.stoodInHeld72 (EqF.one 1 1 _ _ _ _ _ _ _ (a0 == b0) ((a1 == b1) && true) (by kernel_rfl) Try.underlying64 (by kernel_rfl) (by kernel_rfl) (by kernel_rfl) (by kernel_rfl) (EqV.int 64 .u64 .u64 a0 b0 Try.underlying64) (EqF.one 1 1 _ _ _ _ _ _ _ (a1 == b1) true (by kernel_rfl) Try.underlying64 (by kernel_rfl) (by kernel_rfl) (by kernel_rfl) (by kernel_rfl) (EqV.int 64 .u64 .u64 a1 b1 Try.underlying64) (EqF.nil 1 _ _)))) (by kernel_rfl))) ?_
    refine oEnd ?_
    refine bSplit 26 (by kernel_rfl) (fun hc => ?_) (fun hc => ?_)
    ·refine oCondT (by kernel_rfl) ?_
     refine oSeq ?_
     refine oRegion rfl ?_
     refine oOp (.d (.int .i64 0)) (by kernel_rfl) (by kernel_rfl) (PureV.does (p_assign (by kernel_rfl))) ?_
     refine oEnd ?_
     exact oRet (r0 := 0) (rv := .d (.int .i64 0)) (B := []) (vs := [.d (.int .i64 0)]) (σ := []) (by kernel_rfl) Try.func57 rfl (.cons _ _ _ _ (.tmp 4 _ (by kernel_rfl)) .nil) (by kernel_rfl) (by kernel_rfl) (by kernel_rfl) (by kernel_rfl) (by decide) (by kernel_rfl) (by kernel_rfl)
    ·refine oCondF (by kernel_rfl) ?_
     refine oSkip ?_
     refine oSeq ?_
     refine oRegion rfl ?_
     refine oOp (.d (.int .i64 1)) (by kernel_rfl) (by kernel_rfl) (PureV.does (p_assign (by kernel_rfl))) ?_
     refine oEnd ?_
     exact oRet (r0 := 1) (rv := .d (.int .i64 1)) (B := []) (vs := [.d (.int .i64 1)]) (σ := []) (by kernel_rfl) Try.func57 rfl (.cons _ _ _ _ (.tmp 4 _ (by kernel_rfl)) .nil) (by kernel_rfl) (by kernel_rfl) (by kernel_rfl) (by kernel_rfl) (by decide) (by kernel_rfl) (by kernel_rfl)
  ·refine bSplit 10 (by kernel_rfl) (fun hc => ?_) (fun hc => ?_)
   ·refine oNot (by kernel_rfl) (by kernel_rfl) ?_
    refine oNot (by kernel_rfl) (by kernel_rfl) ?_
    refine oNot (by kernel_rfl) (by kernel_rfl) ?_
    refine oNot (by kernel_rfl) (by kernel_rfl) ?_
    refine oNot (by kernel_rfl) (by kernel_rfl) ?_
    refine oNot (by kernel_rfl) (by kernel_rfl) ?_
    refine oNot (by kernel_rfl) (by kernel_rfl) ?_
    refine oNot (by kernel_rfl) (by kernel_rfl) ?_
    refine oNot (by kernel_rfl) (by kernel_rfl) ?_
    refine oNot (by kernel_rfl) (by kernel_rfl) ?_
    refine oNot (by kernel_rfl) (by kernel_rfl) ?_
    refine oNot (by kernel_rfl) (by kernel_rfl) ?_
    refine oOp (.d (.bool true)) (by kernel_rfl) (by kernel_rfl) (PureV.does (p_pick (b := true) (by kernel_rfl) (by kernel_rfl))) ?_
    refine oHead [2, 3, 23] [0, 1] (T' := [(2, .ptr 0 0), (3, .ptr 1 0), (23, .d (.bool true))]) (H' := [.box [.d (.int .u64 a0), .d (.int .u64 a1)], .box [.d (.int .u64 b0), .d (.int .u64 b1)]]) (by kernel_rfl) (by kernel_rfl) (by kernel_rfl) (by kernel_rfl) (by decide) (by kernel_rfl) (by kernel_rfl) ?_
    exact hj1 true
   ·refine oOp (.ptr 0 0) (by kernel_rfl) (by kernel_rfl) (PureV.does (k_fieldAddr 0 0 (by kernel_rfl) Try.underlying72 rfl ty64 (by kernel_rfl))) ?_
    refine oOp (.d (.int .u64 a0)) (by kernel_rfl) (by kernel_rfl) (Quiet.does (k_load 0 0 (by kernel_rfl) Try.underlying64 (by kernel_rfl) (by kernel_rfl))) ?_
    refine oOp (.ptr 1 0) (by kernel_rfl) (by kernel_rfl) (PureV.does (k_fieldAddr 1 0 (by kernel_rfl) Try.underlying72 rfl ty64 (by kernel_rfl))) ?_
    refine oOp (.d (.int .u64 b0)) (by kernel_rfl) (by kernel_rfl) (Quiet.does (k_load 1 0 (by kernel_rfl) Try.underlying64 (by kernel_rfl) (by kernel_rfl))) ?_
    refine oOp (.d (.bool (a0 == b0))) (by kernel_rfl) (by kernel_rfl) (PureV.does (p_int (k := .u64) (p := a0) (q := b0) (by kernel_rfl) (by kernel_rfl) (by kernel_rfl))) ?_
    refine oOp (.d (.bool (a0 == b0))) (by kernel_rfl) (by kernel_rfl) (PureV.does (p_move (by kernel_rfl))) ?_
    refine bMeetF (H' := [.box [.d (.int .u64 a0), .d (.int .u64 a1)], .box [.d (.int .u64 b0), .d (.int .u64 b1)]]) 6 rfl ((fun (x4 : Bool) => [(2, .ptr 0 0), (3, .ptr 1 0), (10, .d (.bool false)), (22, .d (.bool x4))])) (fun x4 => ?_) (fun F hj2 => ?_)
    ·refine oView (T' := [(2, .ptr 0 0), (3, .ptr 1 0), (10, .d (.bool false)), (22, .d (.bool x4))]) (H' := [.box [.d (.int .u64 a0), .d (.int .u64 a1)], .box [.d (.int .u64 b0), .d (.int .u64 b1)]]) (by kernel_rfl) (by kernel_rfl) ?_
     refine oOp (.d (.bool x4)) (by kernel_rfl) (by kernel_rfl) (PureV.does (p_pick (b := false) (by kernel_rfl) (by kernel_rfl))) ?_
     refine oHead [2, 3, 23] [0, 1] (T' := [(2, .ptr 0 0), (3, .ptr 1 0), (23, .d (.bool x4))]) (H' := [.box [.d (.int .u64 a0), .d (.int .u64 a1)], .box [.d (.int .u64 b0), .d (.int .u64 b1)]]) (by kernel_rfl) (by kernel_rfl) (by kernel_rfl) (by kernel_rfl) (by decide) (by kernel_rfl) (by kernel_rfl) ?_
     exact hj1 x4
    ·refine bPickF 16 (fun c => F (c && (decide (a1 < b1)))) (by kernel_rfl) (fun hc => ?_) (fun hc => ?_)
     ·refine oOp (.ptr 0 1) (by kernel_rfl) (by kernel_rfl) (PureV.does (k_fieldAddr 0 0 (by kernel_rfl) Try.underlying72 rfl ty64 (by kernel_rfl))) ?_
      refine oOp (.d (.int .u64 a1)) (by kernel_rfl) (by kernel_rfl) (Quiet.does (k_load 0 1 (by kernel_rfl) Try.underlying64 (by kernel_rfl) (by kernel_rfl))) ?_
      refine oOp (.ptr 1 1) (by kernel_rfl) (by kernel_rfl) (PureV.does (k_fieldAddr 1 0 (by kernel_rfl) Try.underlying72 rfl ty64 (by kernel_rfl))) ?_
      refine oOp (.d (.int .u64 b1)) (by kernel_rfl) (by kernel_rfl) (Quiet.does (k_load 1 1 (by kernel_rfl) Try.underlying64 (by kernel_rfl) (by kernel_rfl))) ?_
      refine oOp (.d (.bool (decide (a1 < b1)))) (by kernel_rfl) (by kernel_rfl) (PureV.does (p_int (k := .u64) (p := a1) (q := b1) (by kernel_rfl) (by kernel_rfl) (by kernel_rfl))) ?_
      refine oOp (.d (.bool (decide (a1 < b1)))) (by kernel_rfl) (by kernel_rfl) (PureV.does (p_pick (b := true) (by kernel_rfl) (by kernel_rfl))) ?_
      refine oHead [2, 3, 10, 22] [0, 1] (T' := [(2, .ptr 0 0), (3, .ptr 1 0), (10, .d (.bool false)), (22, .d (.bool (decide (a1 < b1))))]) (H' := [.box [.d (.int .u64 a0), .d (.int .u64 a1)], .box [.d (.int .u64 b0), .d (.int .u64 b1)]]) (by kernel_rfl) (by kernel_rfl) (by kernel_rfl) (by kernel_rfl) (by decide) (by kernel_rfl) (by kernel_rfl) ?_
      exact hj2 (decide (a1 < b1))
     ·refine oNot (by kernel_rfl) (by kernel_rfl) ?_
      refine oNot (by kernel_rfl) (by kernel_rfl) ?_
      refine oNot (by kernel_rfl) (by kernel_rfl) ?_
      refine oNot (by kernel_rfl) (by kernel_rfl) ?_
      refine oNot (by kernel_rfl) (by kernel_rfl) ?_
      refine oOp (.d (.bool false)) (by kernel_rfl) (by kernel_rfl) (PureV.does (p_pick (b := false) (by kernel_rfl) (by kernel_rfl))) ?_
      refine oHead [2, 3, 10, 22] [0, 1] (T' := [(2, .ptr 0 0), (3, .ptr 1 0), (10, .d (.bool false)), (22, .d (.bool false))]) (H' := [.box [.d (.int .u64 a0), .d (.int .u64 a1)], .box [.d (.int .u64 b0), .d (.int .u64 b1)]]) (by kernel_rfl) (by kernel_rfl) (by kernel_rfl) (by kernel_rfl) (by decide) (by kernel_rfl) (by kernel_rfl) ?_
      exact hj2 false

/-- awardingbody/awardingbodyref01.Minus -/
def ref01_Minus (k : Nat) (a0 : Int) (a1 : Int) (b0 : Int) (b1 : Int) : Option (Unit) := gcarry a1 b1 0 (gle b1 18446744073709551615 (gcarry a0 b0 (if a1 < b1 + 0 then 1 else 0) (gle b0 18446744073709551615 (some ()))))
def ref01_Minus_E (a0 : Int) (a1 : Int) (b0 : Int) (b1 : Int) : Unit → V × List Blk := u0 ((.agg [.d (.int .u64 ((a0 - b0 - (if a1 < b1 + 0 then 1 else 0)) % 18446744073709551616)), .d (.int .u64 ((a1 - b1 - 0) % 18446744073709551616))], []))
theorem ref01_Minus_goes (k : Nat) (a0 : Int) (a1 : Int) (b0 : Int) (b1 : Int) : RunsO Try.prog 58 [.agg [.d (.int .u64 a0), .d (.int .u64 a1)], .agg [.d (.int .u64 b0), .d (.int .u64 b1)]] [] (ref01_Minus_E a0 a1 b0 b1) (ref01_Minus k a0 a1 b0 b1) := by
  refine RunsO.of_goes (N := 29) (m := 0) (T := [(0, .agg [.d (.int .u64 a0), .d (.int .u64 a1)]), (1, .agg [.d (.int .u64 b0), .d (.int .u64 b1)])]) Try.func58 rfl rfl (by kernel_rfl) (by kernel_rfl) (by kernel_rfl) ?_
  unfold ref01_Minus
  refine bStart ?_
  refine oSeq ?_
  refine oRegion rfl ?_
  refine oOp (.ptr 0 0) (by kernel_rfl) (by kernel_rfl) (k_box (H' := [.box [.d (.int .u64 a0), .d (.int .u64 a1)]]) (cells := [.d (.int .u64 a0), .d (.int .u64 a1)]) (by kernel_rfl) (by kernel_rfl) (by kernel_rfl)) ?_
  refine oOp (.ptr 1 0) (by kernel_rfl) (by kernel_rfl) (k_box (H' := [.box [.d (.int .u64 a0), .d (.int .u64 a1)], .box [.d (.int .u64 b0), .d (.int .u64 b1)]]) (cells := [.d (.int .u64 b0), .d (.int .u64 b1)]) (by kernel_rfl) (by kernel_rfl) (by kernel_rfl)) ?_
  refine oOp (.ptr 2 0) (by kernel_rfl) (by kernel_rfl) (k_alloc (H' := [.box [.d (.int .u64 a0), .d (.int .u64 a1)], .box [.d (.int .u64 b0), .d (.int .u64 b1)], .box [.d (.int .u64 0), .d (.int .u64 0)]]) ty72 (by kernel_rfl) (by kernel_rfl)) ?_
  refine oEnd ?_
  refine oSeq ?_
  refine oRegion rfl ?_
  refine oOp (.ptr 0 1) (by kernel_rfl) (by kernel_rfl) (PureV.does (k_fieldAddr 0 0 (by kernel_rfl) Try.underlying72 rfl ty64 (by kernel_rfl))) ?_
  refine oOp (.d (.int .u64 a1)) (by kernel_rfl) (by kernel_rfl) (Quiet.does (k_load 0 1 (by kernel_rfl) Try.underlying64 (by kernel_rfl) (by kernel_rfl))) ?_
  refine oOp (.ptr 1 1) (by kernel_rfl) (by kernel_rfl) (PureV.does (k_fieldAddr 1 0 (by kernel_rfl) Try.underlying72 rfl ty64 (by kernel_rfl))) ?_
  refine oOp (.d (.int .u64 b1)) (by kernel_rfl) (by kernel_rfl) (Quiet.does (k_load 1 1 (by kernel_rfl) Try.underlying64 (by kernel_rfl) (by kernel_rfl))) ?_
  refine bCarry (fun h14 => ?_)
  refine bLe (fun h15 => ?_)
  refine oOp (.tuple [.d (.int .u64 ((a1 - b1 - 0) % 18446744073709551616)), .d (.int .u64 (if a1 < b1 + 0 then 1 else 0))]) (by kernel_rfl) (by kernel_rfl) (PureV.does (p_sub64 (p := a1) (q := b1) (c := 0) (by kernel_rfl) Try.func77 (by kernel_rfl) (by kernel_rfl) (by kernel_rfl) (by kernel_rfl) (by kernel_rfl) (by kernel_rfl) (by kernel_rfl) h14 h15)) ?_
  refine oOp (.tuple [.d (.int .u64 ((a1 - b1 - 0) % 18446744073709551616)), .d (.int .u64 (if a1 < b1 + 0 then 1 else 0))]) (by kernel_rfl) (by kernel_rfl) (PureV.does (p_move (by kernel_rfl))) ?_
  refine oOp (.d (.int .u64 ((a1 - b1 - 0) % 18446744073709551616))) (by kernel_rfl) (by kernel_rfl) (PureV.does (k_extract (by kernel_rfl))) ?_
  refine oOp (.d (.int .u64 (if a1 < b1 + 0 then 1 else 0))) (by kernel_rfl) (by kernel_rfl) (PureV.does (k_extract (by kernel_rfl))) ?_
  refine oOp (.d (.int .u64 ((a1 - b1 - 0) % 18446744073709551616))) (by kernel_rfl) (by kernel_rfl) (PureV.does (p_assign (by kernel_rfl))) ?_
  refine oOp (.d (.int .u64 (if a1 < b1 + 0 then 1 else 0))) (by kernel_rfl) (by kernel_rfl) (PureV.does (p_assign (by kernel_rfl))) ?_
  refine oEnd ?_
  refine oSeq ?_
  refine oRegion rfl ?_
  refine oOp (.ptr 0 0) (by kernel_rfl) (by kernel_rfl) (PureV.does (k_fieldAddr 0 0 (by kernel_rfl) Try.underlying72 rfl ty64 (by kernel_rfl))) ?_
  refine oOp (.d (.int .u64 a0)) (by kernel_rfl) (by kernel_rfl) (Quiet.does (k_load 0 0 (by kernel_rfl) Try.underlying64 (by kernel_rfl) (by kernel_rfl))) ?_
  refine oOp (.ptr 1 0) (by kernel_rfl) (by kernel_rfl) (PureV.does (k_fieldAddr 1 0 (by kernel_rfl) Try.underlying72 rfl ty64 (by kernel_rfl))) ?_
  refine oOp (.d (.int .u64 b0)) (by kernel_rfl) (by kernel_rfl) (Quiet.does (k_load 1 0 (by kernel_rfl) Try.underlying64 (by kernel_rfl) (by kernel_rfl))) ?_
  refine oOp (.d (.int .u64 (if a1 < b1 + 0 then 1 else 0))) (by kernel_rfl) (by kernel_rfl) (PureV.does (p_move (by kernel_rfl))) ?_
  refine bCarry (fun h16 => ?_)
  refine bLe (fun h17 => ?_)
  refine oOp (.tuple [.d (.int .u64 ((a0 - b0 - (if a1 < b1 + 0 then 1 else 0)) % 18446744073709551616)), .d (.int .u64 (if a0 < b0 + (if a1 < b1 + 0 then 1 else 0) then 1 else 0))]) (by kernel_rfl) (by kernel_rfl) (PureV.does (p_sub64 (p := a0) (q := b0) (c := (if a1 < b1 + 0 then 1 else 0)) (by kernel_rfl) Try.func77 (by kernel_rfl) (by kernel_rfl) (by kernel_rfl) (by kernel_rfl) (by kernel_rfl) (by kernel_rfl) (by kernel_rfl) h16 h17)) ?_
  refine oOp (.tuple [.d (.int .u64 ((a0 - b0 - (if a1 < b1 + 0 then 1 else 0)) % 18446744073709551616)), .d (.int .u64 (if a0 < b0 + (if a1 < b1 + 0 then 1 else 0) then 1 else 0))]) (by kernel_rfl) (by kernel_rfl) (PureV.does (p_move (by kernel_rfl))) ?_
  refine oOp (.d (.int .u64 ((a0 - b0 - (if a1 < b1 + 0 then 1 else 0)) % 18446744073709551616))) (by kernel_rfl) (by kernel_rfl) (PureV.does (k_extract (by kernel_rfl))) ?_
  refine oOp (.d (.int .u64 (if a0 < b0 + (if a1 < b1 + 0 then 1 else 0) then 1 else 0))) (by kernel_rfl) (by kernel_rfl) (PureV.does (k_extract (by kernel_rfl))) ?_
  refine oOp (.d (.int .u64 ((a0 - b0 - (if a1 < b1 + 0 then 1 else 0)) % 18446744073709551616))) (by kernel_rfl) (by kernel_rfl) (PureV.does (p_assign (by kernel_rfl))) ?_
  refine oOp (.d (.int .u64 (if a0 < b0 + (if a1 < b1 + 0 then 1 else 0) then 1 else 0))) (by kernel_rfl) (by kernel_rfl) (PureV.does (p_assign (by kernel_rfl))) ?_
  refine oEnd ?_
  refine oSeq ?_
  refine oRegion rfl ?_
  refine oOp (.d (.int .u64 ((a0 - b0 - (if a1 < b1 + 0 then 1 else 0)) % 18446744073709551616))) (by kernel_rfl) (by kernel_rfl) (PureV.does (p_move (by kernel_rfl))) ?_
  refine oOp (.d (.int .u64 ((a1 - b1 - 0) % 18446744073709551616))) (by kernel_rfl) (by kernel_rfl) (PureV.does (p_move (by kernel_rfl))) ?_
  refine oOp (.agg [.d (.int .u64 ((a0 - b0 - (if a1 < b1 + 0 then 1 else 0)) % 18446744073709551616)), .d (.int .u64 ((a1 - b1 - 0) % 18446744073709551616))]) (by kernel_rfl) (by kernel_rfl) (PureV.does (p_build bld72 (by kernel_rfl))) ?_
  refine oOp (.undef) (by kernel_rfl) (by kernel_rfl) (k_store (vs := [.d (.int .u64 ((a0 - b0 - (if a1 < b1 + 0 then 1 else 0)) % 18446744073709551616)), .d (.int .u64 ((a1 - b1 - 0) % 18446744073709551616))]) (H' := [.box [.d (.int .u64 a0), .d (.int .u64 a1)], .box [.d (.int .u64 b0), .d (.int .u64 b1)], .box [.d (.int .u64 ((a0 - b0 - (if a1 < b1 + 0 then 1 else 0)) % 18446744073709551616)), .d (.int .u64 ((a1 - b1 - 0) % 18446744073709551616))]]) 2 0 (by kernel_rfl) ty72 (by kernel_rfl) (by kernel_rfl) (by kernel_rfl)) ?_
  refine oEnd ?_
  exact oRet (r0 := ()) (rv := .agg [.d (.int .u64 ((a0 - b0 - (if a1 < b1 + 0 then 1 else 0)) % 18446744073709551616)), .d (.int .u64 ((a1 - b1 - 0) % 18446744073709551616))]) (B := []) (vs := [.agg [.d (.int .u64 ((a0 - b0 - (if a1 < b1 + 0 then 1 else 0)) % 18446744073709551616)), .d (.int .u64 ((a1 - b1 - 0) % 18446744073709551616))]]) (σ := []) (by kernel_rfl) Try.func58 rfl (.cons _ _ _ _ (.agg 4 72 2 0 [.d (.int .u64 ((a0 - b0 - (if a1 < b1 + 0 then 1 else 0)) % 18446744073709551616)), .d (.int .u64 ((a1 - b1 - 0) % 18446744073709551616))] [.d (.int .u64 ((a0 - b0 - (if a1 < b1 + 0 then 1 else 0)) % 18446744073709551616)), .d (.int .u64 ((a1 - b1 - 0) % 18446744073709551616))] _ _ _ _ (by kernel_rfl) (by kernel_rfl) Try.underlying72 (by kernel_rfl) ty72 (by kernel_rfl) (by kernel_rfl)) .nil) (by kernel_rfl) (by kernel_rfl) (by kernel_rfl) (by kernel_rfl) (by decide) (by kernel_rfl) (by kernel_rfl)

/-- awardingbody/awardingbodyref01.Divide -/
def ref01_Divide_b1 (k : Nat) (a0 : Int) (a1 : Int) (b0 : Int) (b1 : Int) (again : Int × Int × Int × Int × Int → Option (Int × Int × Int × Int)) : Int × Int × Int × Int × Int → Option (Int × Int × Int × Int) := uc fun i4 => uc fun x56 => uc fun x57 => uc fun x58 => fun x59 => bif (decide (i4 ≥ 0)) then Option.bind (gnn (IntKind.wrap .u64 (Int.tmod i4 64)) (Option.bind (bif (decide (i4 ≥ 64)) then gnn (IntKind.wrap .u64 (IntKind.wrap .i64 (i4 - 64))) (some (iand .u64 (Int.fdiv a0 (2 ^ (min (Int.toNat (IntKind.wrap .u64 (IntKind.wrap .i64 (i4 - 64)))) (IntKind.bits .u64)))) 1)) else some (iand .u64 (Int.fdiv a1 (2 ^ (min (Int.toNat (IntKind.wrap .u64 (Int.tmod i4 64))) (IntKind.bits .u64)))) 1) : Option (Int)) (fun bit4 => Option.bind (ref01_Twice k x58 x59) (uc fun r131 => fun r1118 => Option.bind (ref01_Twice k x56 x57) (uc fun r132 => fun r1119 => Option.bind (bif ((Int.fdiv x58 (2 ^ (min (Int.toNat 63) (IntKind.bits .u64)))) == 1) then some (true, (ior .u64 r1118 bit4)) else Option.bind (ref01_Order k r131 (ior .u64 r1118 bit4) b0 b1) (fun r134 => some ((decide (r134 ≥ 0)), (ior .u64 r1118 bit4))) : Option (Bool × Int)) (uc fun x76 => fun x77 => bif x76 then Option.bind (ref01_Minus k r131 x77 b0 b1) (u0 (some (r132, (ior .u64 r1119 1), ((r131 - b0 - (if x77 < b1 + 0 then 1 else 0)) % 18446744073709551616), ((x77 - b1 - 0) % 18446744073709551616)))) else some (r132, r1119, r131, x77)))))) : Option (Int × Int × Int × Int)) (uc fun x72 => uc fun x73 => uc fun x74 => fun x75 => again ((IntKind.wrap .i64 (i4 - 1)), x72, x73, x74, x75)) else some (x56, x57, x58, x59)
def ref01_Divide (k : Nat) (a0 : Int) (a1 : Int) (b0 : Int) (b1 : Int) : Option (Int × Int × Int × Int) := blet ((a0 == 0) && (b0 == 0)) fun x25 => bif x25 then gnz b1 (gnz b1 (some (0, (IntKind.wrap .u64 (Int.tdiv a1 b1)), 0, (Int.tmod a1 b1)))) else Option.bind (gloop (ref01_Divide_b1 k a0 a1 b0 b1) k (127, 0, 0, 0, 0) : Option (Int × Int × Int × Int)) (uc fun x46 => uc fun x47 => uc fun x48 => fun x49 => some (x46, x47, x48, x49))
def ref01_Divide_E (a0 : Int) (a1 : Int) (b0 : Int) (b1 : Int) : Int × Int × Int × Int → V × List Blk := uc fun r17 => uc fun r18 => uc fun r19 => fun r110 => (.tuple [.agg [.d (.int .u64 r17), .d (.int .u64 r18)], .agg [.d (.int .u64 r19), .d (.int .u64 r110)]], [])
theorem ref01_Divide_goes (k : Nat) (a0 : Int) (a1 : Int) (b0 : Int) (b1 : Int) : RunsO Try.prog 75 [.agg [.d (.int .u64 a0), .d (.int .u64 a1)], .agg [.d (.int .u64 b0), .d (.int .u64 b1)]] [] (ref01_Divide_E a0 a1 b0 b1) (ref01_Divide k a0 a1 b0 b1) := by
  refine RunsO.of_goes (N := 82) (m := 0) (T := [(0, .agg [.d (.int .u64 a0), .d (.int .u64 a1)]), (1, .agg [.d (.int .u64 b0), .d (.int .u64 b1)])]) Try.func75 rfl rfl (by kernel_rfl) (by kernel_rfl) (by kernel_rfl) ?_
  unfold ref01_Divide
  refine bStart ?_
  refine oSeq ?_
  refine oRegion rfl ?_
  refine oOp (.ptr 0 0) (by kernel_rfl) (by kernel_rfl) (k_box (H' := [.box [.d (.int .u64 a0), .d (.int .u64 a1)]]) (cells := [.d (.int .u64 a0), .d (.int .u64 a1)]) (by kernel_rfl) (by kernel_rfl) (by kernel_rfl)) ?_
  refine oOp (.ptr 1 0) (by kernel_rfl) (by kernel_rfl) (k_box (H' := [.box [.d (.int .u64 a0), .d (.int .u64 a1)], .box [.d (.int .u64 b0), .d (.int .u64 b1)]]) (cells := [.d (.int .u64 b0), .d (.int .u64 b1)]) (by kernel_rfl) (by kernel_rfl) (by kernel_rfl)) ?_
  refine oOp (.ptr 2 0) (by kernel_rfl) (by kernel_rfl) (k_alloc (H' := [.box [.d (.int .u64 a0), .d (.int .u64 a1)], .box [.d (.int .u64 b0), .d (.int .u64 b1)], .box [.d (.int .u64 0), .d (.int .u64 0)]]) ty72 (by kernel_rfl) (by kernel_rfl)) ?_
  refine oOp (.ptr 3 0) (by kernel_rfl) (by kernel_rfl) (k_alloc (H' := [.box [.d (.int .u64 a0), .d (.int .u64 a1)], .box [.d (.int .u64 b0), .d (.int .u64 b1)], .box [.d (.int .u64 0), .d (.int .u64 0)], .box [.d (.int .u64 0), .d (.int .u64 0)]]) ty72 (by kernel_rfl) (by kernel_rfl)) ?_
  refine oEnd ?_
  refine oSeq ?_
  refine oSeq ?_
  refine oRegion rfl ?_
  refine oOp (.ptr 0 0) (by kernel_rfl) (by kernel_rfl) (PureV.does (k_fieldAddr 0 0 (by kernel_rfl) Try.underlying72 rfl ty64 (by kernel_rfl))) ?_
  refine oOp (.d (.int .u64 a0)) (by kernel_rfl) (by kernel_rfl) (Quiet.does (k_load 0 0 (by kernel_rfl) Try.underlying64 (by kernel_rfl) (by kernel_rfl))) ?_
  refine oOp (.d (.bool (a0 == 0))) (by kernel_rfl) (by kernel_rfl) (PureV.does (p_int (k := .u64) (p := a0) (q := 0) (by kernel_rfl) (by kernel_rfl) (by kernel_rfl))) ?_
  refine oOp (.d (.bool (a0 == 0))) (by kernel_rfl) (by kernel_rfl) (PureV.does (p_move (by kernel_rfl))) ?_
  refine bMeetF (H' := [.box [.d (.int .u64 a0), .d (.int .u64 a1)], .box [.d (.int .u64 b0), .d (.int .u64 b1)], .box [.d (.int .u64 0), .d (.int .u64 0)], .box [.d (.int .u64 0), .d (.int .u64 0)]]) 4 rfl ((fun (x25 : Bool) => [(2, .ptr 0 0), (3, .ptr 1 0), (4, .ptr 2 0), (5, .ptr 3 0), (18, .d (.bool x25))])) (fun x25 => ?_) (fun F hj5 => ?_)
  ·refine oView (T' := [(2, .ptr 0 0), (3, .ptr 1 0), (4, .ptr 2 0), (5, .ptr 3 0), (18, .d (.bool x25))]) (H' := [.box [.d (.int .u64 a0), .d (.int .u64 a1)], .box [.d (.int .u64 b0), .d (.int .u64 b1)], .box [.d (.int .u64 0), .d (.int .u64 0)], .box [.d (.int .u64 0), .d (.int .u64 0)]]) (by kernel_rfl) (by kernel_rfl) ?_
   refine oEnd ?_
   refine bSplit 18 (by kernel_rfl) (fun hc => ?_) (fun hc => ?_)
   ·refine oCondT (by kernel_rfl) ?_
    refine oSeq ?_
    refine oDraw [(0, 14), (1, 14), (2, 12), (3, 13)] rfl ?_
    refine aTakeL (i := 0) (st' := []) (.ptr 0 1) rfl (by kernel_rfl) (by kernel_rfl) (by kernel_rfl) (by kernel_rfl) (by kernel_rfl) (by kernel_rfl) (by kernel_rfl) (PureV.quiet (k_fieldAddr 0 0 (by kernel_rfl) Try.underlying72 rfl ty64 (by kernel_rfl)) []) ?_
    refine aTakeL (i := 1) (st' := [0]) (.d (.int .u64 a1)) rfl (by kernel_rfl) (by kernel_rfl) (by kernel_rfl) (by kernel_rfl) (by kernel_rfl) (by kernel_rfl) (by kernel_rfl) (k_load 0 1 (by kernel_rfl) Try.underlying64 (by kernel_rfl) (by kernel_rfl)) ?_
    refine aTakeL (i := 2) (st' := []) (.ptr 1 1) rfl (by kernel_rfl) (by kernel_rfl) (by kernel_rfl) (by kernel_rfl) (by kernel_rfl) (by kernel_rfl) (by kernel_rfl) (PureV.quiet (k_fieldAddr 1 0 (by kernel_rfl) Try.underlying72 rfl ty64 (by kernel_rfl)) []) ?_
    refine aTakeL (i := 3) (st' := [1]) (.d (.int .u64 b1)) rfl (by kernel_rfl) (by kernel_rfl) (by kernel_rfl) (by kernel_rfl) (by kernel_rfl) (by kernel_rfl) (by kernel_rfl) (k_load 1 1 (by kernel_rfl) Try.underlying64 (by kernel_rfl) (by kernel_rfl)) ?_
    refine dNz (fun h1 => ?_)
    refine aTakeP (i := 4) (.d (.int .u64 (IntKind.wrap .u64 (Int.tdiv a1 b1)))) rfl (by kernel_rfl) (by kernel_rfl) (by kernel_rfl) (by kernel_rfl) (by kernel_rfl) (by kernel_rfl) (by kernel_rfl) (p_quo (k := .u64) (p := a1) (q := b1) (by kernel_rfl) (by kernel_rfl) h1 (by kernel_rfl)) ?_
    refine aTakeL (i := 5) (st' := []) (.agg [.d (.int .u64 0), .d (.int .u64 (IntKind.wrap .u64 (Int.tdiv a1 b1)))]) rfl (by kernel_rfl) (by kernel_rfl) (by kernel_rfl) (by kernel_rfl) (by kernel_rfl) (by kernel_rfl) (by kernel_rfl) (PureV.quiet (p_build bld72 (by kernel_rfl)) []) ?_
    refine aTakeL (i := 6) (st' := []) (.ptr 0 1) rfl (by kernel_rfl) (by kernel_rfl) (by kernel_rfl) (by kernel_rfl) (by kernel_rfl) (by kernel_rfl) (by kernel_rfl) (PureV.quiet (k_fieldAddr 0 0 (by kernel_rfl) Try.underlying72 rfl ty64 (by kernel_rfl)) []) ?_
    refine aTakeL (i := 7) (st' := [0]) (.d (.int .u64 a1)) rfl (by kernel_rfl) (by kernel_rfl) (by kernel_rfl) (by kernel_rfl) (by kernel_rfl) (by kernel_rfl) (by kernel_rfl) (k_load 0 1 (by kernel_rfl) Try.underlying64 (by kernel_rfl) (by kernel_rfl)) ?_
    refine aTakeL (i := 8) (st' := []) (.ptr 1 1) rfl (by kernel_rfl) (by kernel_rfl) (by kernel_rfl) (by kernel_rfl) (by kernel_rfl) (by kernel_rfl) (by kernel_rfl) (PureV.quiet (k_fieldAddr 1 0 (by kernel_rfl) Try.underlying72 rfl ty64 (by kernel_rfl)) []) ?_
    refine aTakeL (i := 9) (st' := [1]) (.d (.int .u64 b1)) rfl (by kernel_rfl) (by kernel_rfl) (by kernel_rfl) (by kernel_rfl) (by kernel_rfl) (by kernel_rfl) (by kernel_rfl) (k_load 1 1 (by kernel_rfl) Try.underlying64 (by kernel_rfl) (by kernel_rfl)) ?_
    refine dNz (fun h12 => ?_)
    refine aTakeP (i := 10) (.d (.int .u64 (Int.tmod a1 b1))) rfl (by kernel_rfl) (by kernel_rfl) (by kernel_rfl) (by kernel_rfl) (by kernel_rfl) (by kernel_rfl) (by kernel_rfl) (p_rem (k := .u64) (p := a1) (q := b1) (by kernel_rfl) (by kernel_rfl) h12 (by kernel_rfl)) ?_
    refine aTakeL (i := 11) (st' := []) (.agg [.d (.int .u64 0), .d (.int .u64 (Int.tmod a1 b1))]) rfl (by kernel_rfl) (by kernel_rfl) (by kernel_rfl) (by kernel_rfl) (by kernel_rfl) (by kernel_rfl) (by kernel_rfl) (PureV.quiet (p_build bld72 (by kernel_rfl)) []) ?_
    refine aOne (i := 12) (v := .undef) rfl (by kernel_rfl) (by kernel_rfl) (by kernel_rfl) (by kernel_rfl) (by kernel_rfl) (by kernel_rfl) (by kernel_rfl) (Does.acts (k_store (vs := [.d (.int .u64 0), .d (.int .u64 (IntKind.wrap .u64 (Int.tdiv a1 b1)))]) (H' := [.box [.d (.int .u64 a0), .d (.int .u64 a1)], .box [.d (.int .u64 b0), .d (.int .u64 b1)], .box [.d (.int .u64 0), .d (.int .u64 (IntKind.wrap .u64 (Int.tdiv a1 b1)))], .box [.d (.int .u64 0), .d (.int .u64 0)]]) 2 0 (by kernel_rfl) ty72 (by kernel_rfl) (by kernel_rfl) (by kernel_rfl))) (by kernel_rfl) ?_
    refine aOne (i := 13) (v := .undef) rfl (by kernel_rfl) (by kernel_rfl) (by kernel_rfl) (by kernel_rfl) (by kernel_rfl) (by kernel_rfl) (by kernel_rfl) (Does.acts (k_store (vs := [.d (.int .u64 0), .d (.int .u64 (Int.tmod a1 b1))]) (H' := [.box [.d (.int .u64 a0), .d (.int .u64 a1)], .box [.d (.int .u64 b0), .d (.int .u64 b1)], .box [.d (.int .u64 0), .d (.int .u64 (IntKind.wrap .u64 (Int.tdiv a1 b1)))], .box [.d (.int .u64 0), .d (.int .u64 (Int.tmod a1 b1))]]) 3 0 (by kernel_rfl) ty72 (by kernel_rfl) (by kernel_rfl) (by kernel_rfl))) (by kernel_rfl) ?_
    refine aDone (by kernel_rfl) ?_
    exact oRet (r0 := (0, (IntKind.wrap .u64 (Int.tdiv a1 b1)), 0, (Int.tmod a1 b1))) (rv := .tuple [.agg [.d (.int .u64 0), .d (.int .u64 (IntKind.wrap .u64 (Int.tdiv a1 b1)))], .agg [.d (.int .u64 0), .d (.int .u64 (Int.tmod a1 b1))]]) (B := []) (vs := [.agg [.d (.int .u64 0), .d (.int .u64 (IntKind.wrap .u64 (Int.tdiv a1 b1)))], .agg [.d (.int .u64 0), .d (.int .u64 (Int.tmod a1 b1))]]) (σ := []) (by kernel_rfl) Try.func75 rfl (.cons _ _ _ _ (.agg 4 72 2 0 [.d (.int .u64 0), .d (.int .u64 (IntKind.wrap .u64 (Int.tdiv a1 b1)))] [.d (.int .u64 0), .d (.int .u64 (IntKind.wrap .u64 (Int.tdiv a1 b1)))] _ _ _ _ (by kernel_rfl) (by kernel_rfl) Try.underlying72 (by kernel_rfl) ty72 (by kernel_rfl) (by kernel_rfl)) (.cons _ _ _ _ (.agg 5 72 3 0 [.d (.int .u64 0), .d (.int .u64 (Int.tmod a1 b1))] [.d (.int .u64 0), .d (.int .u64 (Int.tmod a1 b1))] _ _ _ _ (by kernel_rfl) (by kernel_rfl) Try.underlying72 (by kernel_rfl) ty72 (by kernel_rfl) (by kernel_rfl)) .nil)) (by kernel_rfl) (by kernel_rfl) (by kernel_rfl) (by kernel_rfl) (by decide) (by kernel_rfl) (by kernel_rfl)
   ·refine oCondF (by kernel_rfl) ?_
    refine oSkip ?_
    refine oSeq ?_
    refine oRegion rfl ?_
    refine oOp (.agg [.d (.int .u64 0), .d (.int .u64 0)]) (by kernel_rfl) (by kernel_rfl) (PureV.does (p_build bld72 (by kernel_rfl))) ?_
    refine oOp (.agg [.d (.int .u64 0), .d (.int .u64 0)]) (by kernel_rfl) (by kernel_rfl) (PureV.does (p_build bld72 (by kernel_rfl))) ?_
    refine oOp (.ptr 4 0) (by kernel_rfl) (by kernel_rfl) (k_alloc (H' := [.box [.d (.int .u64 a0), .d (.int .u64 a1)], .box [.d (.int .u64 b0), .d (.int .u64 b1)], .box [.d (.int .u64 0), .d (.int .u64 0)], .box [.d (.int .u64 0), .d (.int .u64 0)], .box [.d (.int .u64 0), .d (.int .u64 0)]]) ty72 (by kernel_rfl) (by kernel_rfl)) ?_
    refine oOp (.ptr 5 0) (by kernel_rfl) (by kernel_rfl) (k_alloc (H' := [.box [.d (.int .u64 a0), .d (.int .u64 a1)], .box [.d (.int .u64 b0), .d (.int .u64 b1)], .box [.d (.int .u64 0), .d (.int .u64 0)], .box [.d (.int .u64 0), .d (.int .u64 0)], .box [.d (.int .u64 0), .d (.int .u64 0)], .box [.d (.int .u64 0), .d (.int .u64 0)]]) ty72 (by kernel_rfl) (by kernel_rfl)) ?_
    refine oOp (.undef) (by kernel_rfl) (by kernel_rfl) (k_store (vs := [.d (.int .u64 0), .d (.int .u64 0)]) (H' := [.box [.d (.int .u64 a0), .d (.int .u64 a1)], .box [.d (.int .u64 b0), .d (.int .u64 b1)], .box [.d (.int .u64 0), .d (.int .u64 0)], .box [.d (.int .u64 0), .d (.int .u64 0)], .box [.d (.int .u64 0), .d (.int .u64 0)], .box [.d (.int .u64 0), .d (.int .u64 0)]]) 4 0 (by kernel_rfl) ty72 (by kernel_rfl) (by kernel_rfl) (by kernel_rfl)) ?_
    refine oOp (.undef) (by kernel_rfl) (by kernel_rfl) (k_store (vs := [.d (.int .u64 0), .d (.int .u64 0)]) (H' := [.box [.d (.int .u64 a0), .d (.int .u64 a1)], .box [.d (.int .u64 b0), .d (.int .u64 b1)], .box [.d (.int .u64 0), .d (.int .u64 0)], .box [.d (.int .u64 0), .d (.int .u64 0)], .box [.d (.int .u64 0), .d (.int .u64 0)], .box [.d (.int .u64 0), .d (.int .u64 0)]]) 5 0 (by kernel_rfl) ty72 (by kernel_rfl) (by kernel_rfl) (by kernel_rfl)) ?_
    refine oEnd ?_
    refine oSeq ?_
    refine oSeq ?_
    refine oRegion rfl ?_
    refine oOp (.d (.int .i64 127)) (by kernel_rfl) (by kernel_rfl) (PureV.does (p_assign (by kernel_rfl))) ?_
    refine oEnd ?_
    refine bJoin ((uc fun (x46 : Int) => (uc fun (x47 : Int) => (uc fun (x48 : Int) => (fun (x49 : Int) => [(4, .ptr 0 0), (5, .ptr 1 0), (6, .ptr 2 0), (7, .ptr 3 0)]))))) ((uc fun (x46 : Int) => (uc fun (x47 : Int) => (uc fun (x48 : Int) => (fun (x49 : Int) => [.box [.d (.int .u64 0), .d (.int .u64 0)], .box [.d (.int .u64 0), .d (.int .u64 0)], .box [.d (.int .u64 x46), .d (.int .u64 x47)], .box [.d (.int .u64 x48), .d (.int .u64 x49)]]))))) (fun s => s) (fun s => ?_) (fun hj9 => ?_)
    ·obtain ⟨x46, x47, x48, x49⟩ := s
     refine bUc ?_
     refine bUc ?_
     refine bUc ?_
     refine oView (T' := [(4, .ptr 0 0), (5, .ptr 1 0), (6, .ptr 2 0), (7, .ptr 3 0)]) (H' := [.box [.d (.int .u64 0), .d (.int .u64 0)], .box [.d (.int .u64 0), .d (.int .u64 0)], .box [.d (.int .u64 x46), .d (.int .u64 x47)], .box [.d (.int .u64 x48), .d (.int .u64 x49)]]) (by kernel_rfl) (by kernel_rfl) ?_
     refine oSeq ?_
     refine oDraw [(0, 2), (1, 3), (2, 4), (3, 4)] rfl ?_
     refine aTakeL (i := 0) (st' := [2]) (.agg [.d (.int .u64 x46), .d (.int .u64 x47)]) rfl (by kernel_rfl) (by kernel_rfl) (by kernel_rfl) (by kernel_rfl) (by kernel_rfl) (by kernel_rfl) (by kernel_rfl) (k_loadAgg 2 0 (by kernel_rfl) Try.underlying72 (by kernel_rfl) ty72 (by kernel_rfl)) ?_
     refine aTakeL (i := 1) (st' := [3]) (.agg [.d (.int .u64 x48), .d (.int .u64 x49)]) rfl (by kernel_rfl) (by kernel_rfl) (by kernel_rfl) (by kernel_rfl) (by kernel_rfl) (by kernel_rfl) (by kernel_rfl) (k_loadAgg 3 0 (by kernel_rfl) Try.underlying72 (by kernel_rfl) ty72 (by kernel_rfl)) ?_
     refine aOne (i := 2) (v := .undef) rfl (by kernel_rfl) (by kernel_rfl) (by kernel_rfl) (by kernel_rfl) (by kernel_rfl) (by kernel_rfl) (by kernel_rfl) (Does.acts (k_store (vs := [.d (.int .u64 x46), .d (.int .u64 x47)]) (H' := [.box [.d (.int .u64 x46), .d (.int .u64 x47)], .box [.d (.int .u64 0), .d (.int .u64 0)], .box [.d (.int .u64 x46), .d (.int .u64 x47)], .box [.d (.int .u64 x48), .d (.int .u64 x49)]]) 0 0 (by kernel_rfl) ty72 (by kernel_rfl) (by kernel_rfl) (by kernel_rfl))) (by kernel_rfl) ?_
     refine aOne (i := 3) (v := .undef) rfl (by kernel_rfl) (by kernel_rfl) (by kernel_rfl) (by kernel_rfl) (by kernel_rfl) (by kernel_rfl) (by kernel_rfl) (Does.acts (k_store (vs := [.d (.int .u64 x48), .d (.int .u64 x49)]) (H' := [.box [.d (.int .u64 x46), .d (.int .u64 x47)], .box [.d (.int .u64 x48), .d (.int .u64 x49)], .box [.d (.int .u64 x46), .d (.int .u64 x47)], .box [.d (.int .u64 x48), .d (.int .u64 x49)]]) 1 0 (by kernel_rfl) ty72 (by kernel_rfl) (by kernel_rfl) (by kernel_rfl))) (by kernel_rfl) ?_
     refine aDone (by kernel_rfl) ?_
     exact oRet (r0 := (x46, x47, x48, x49)) (rv := .tuple [.agg [.d (.int .u64 x46), .d (.int .u64 x47)], .agg [.d (.int .u64 x48), .d (.int .u64 x49)]]) (B := []) (vs := [.agg [.d (.int .u64 x46), .d (.int .u64 x47)], .agg [.d (.int .u64 x48), .d (.int .u64 x49)]]) (σ := []) (by kernel_rfl) Try.func75 rfl (.cons _ _ _ _ (.agg 4 72 0 0 [.d (.int .u64 x46), .d (.int .u64 x47)] [.d (.int .u64 x46), .d (.int .u64 x47)] _ _ _ _ (by kernel_rfl) (by kernel_rfl) Try.underlying72 (by kernel_rfl) ty72 (by kernel_rfl) (by kernel_rfl)) (.cons _ _ _ _ (.agg 5 72 1 0 [.d (.int .u64 x48), .d (.int .u64 x49)] [.d (.int .u64 x48), .d (.int .u64 x49)] _ _ _ _ (by kernel_rfl) (by kernel_rfl) Try.underlying72 (by kernel_rfl) ty72 (by kernel_rfl) (by kernel_rfl)) .nil)) (by kernel_rfl) (by kernel_rfl) (by kernel_rfl) (by kernel_rfl) (by decide) (by kernel_rfl) (by kernel_rfl)
    ·refine oBlock ?_
     refine oLoop ?_
     refine oHead [2, 3, 4, 5, 6, 7, 8] [0, 1, 2, 3, 4, 5] (T' := [(2, .ptr 0 0), (3, .ptr 1 0), (4, .ptr 2 0), (5, .ptr 3 0), (6, .ptr 4 0), (7, .ptr 5 0), (8, .d (.int .i64 127))]) (H' := [.box [.d (.int .u64 a0), .d (.int .u64 a1)], .box [.d (.int .u64 b0), .d (.int .u64 b1)], .box [.d (.int .u64 0), .d (.int .u64 0)], .box [.d (.int .u64 0), .d (.int .u64 0)], .box [.d (.int .u64 0), .d (.int .u64 0)], .box [.d (.int .u64 0), .d (.int .u64 0)]]) (by kernel_rfl) (by kernel_rfl) (by kernel_rfl) (by kernel_rfl) (by decide) (by kernel_rfl) (by kernel_rfl) ?_
     refine bLoop (body := ref01_Divide_b1 k a0 a1 b0 b1) ((uc fun (i4 : Int) => (uc fun (x56 : Int) => (uc fun (x57 : Int) => (uc fun (x58 : Int) => (fun (x59 : Int) => [(2, .ptr 0 0), (3, .ptr 1 0), (4, .ptr 2 0), (5, .ptr 3 0), (6, .ptr 4 0), (7, .ptr 5 0), (8, .d (.int .i64 i4))])))))) ((uc fun (i4 : Int) => (uc fun (x56 : Int) => (uc fun (x57 : Int) => (uc fun (x58 : Int) => (fun (x59 : Int) => [.box [.d (.int .u64 a0), .d (.int .u64 a1)], .box [.d (.int .u64 b0), .d (.int .u64 b1)], .box [.d (.int .u64 0), .d (.int .u64 0)], .box [.d (.int .u64 0), .d (.int .u64 0)], .box [.d (.int .u64 x56), .d (.int .u64 x57)], .box [.d (.int .u64 x58), .d (.int .u64 x59)]])))))) (fun again hag1 s => ?_) k (127, 0, 0, 0, 0)
     ·unfold ref01_Divide_b1
      obtain ⟨i4, x56, x57, x58, x59⟩ := s
      refine bUc ?_
      refine bUc ?_
      refine bUc ?_
      refine bUc ?_
      refine oView (T' := [(2, .ptr 0 0), (3, .ptr 1 0), (4, .ptr 2 0), (5, .ptr 3 0), (6, .ptr 4 0), (7, .ptr 5 0), (8, .d (.int .i64 i4))]) (H' := [.box [.d (.int .u64 a0), .d (.int .u64 a1)], .box [.d (.int .u64 b0), .d (.int .u64 b1)], .box [.d (.int .u64 0), .d (.int .u64 0)], .box [.d (.int .u64 0), .d (.int .u64 0)], .box [.d (.int .u64 x56), .d (.int .u64 x57)], .box [.d (.int .u64 x58), .d (.int .u64 x59)]]) (by kernel_rfl) (by kernel_rfl) ?_
      refine oSeq ?_
      refine oSeq ?_
      refine oRegion rfl ?_
      refine oOp (.d (.int .i64 i4)) (by kernel_rfl) (by kernel_rfl) (PureV.does (p_move (by kernel_rfl))) ?_
      refine oOp (.d (.bool (decide (i4 ≥ 0)))) (by kernel_rfl) (by kernel_rfl) (PureV.does (p_int (k := .i64) (p := i4) (q := 0) (by kernel_rfl) (by kernel_rfl) (by kernel_rfl))) ?_
      refine oEnd ?_
      refine bSplit 34 (by kernel_rfl) (fun hc => ?_) (fun hc => ?_)
      ·refine oCondT (by kernel_rfl) ?_
       refine oSkip ?_
       refine oSeq ?_
       refine bJoin ((uc fun (x72 : Int) => (uc fun (x73 : Int) => (uc fun (x74 : Int) => (fun (x75 : Int) => [(2, .ptr 0 0), (3, .ptr 1 0), (4, .ptr 2 0), (5, .ptr 3 0), (6, .ptr 4 0), (7, .ptr 5 0), (8, .d (.int .i64 i4))]))))) ((uc fun (x72 : Int) => (uc fun (x73 : Int) => (uc fun (x74 : Int) => (fun (x75 : Int) => [.box [.d (.int .u64 a0), .d (.int .u64 a1)], .box [.d (.int .u64 b0), .d (.int .u64 b1)], .box [.d (.int .u64 0), .d (.int .u64 0)], .box [.d (.int .u64 0), .d (.int .u64 0)], .box [.d (.int .u64 x72), .d (.int .u64 x73)], .box [.d (.int .u64 x74), .d (.int .u64 x75)]]))))) (fun s => s) (fun s => ?_) (fun hj14 => ?_)
       ·obtain ⟨x72, x73, x74, x75⟩ := s
        refine bUc ?_
        refine bUc ?_
        refine bUc ?_
        refine oView (T' := [(2, .ptr 0 0), (3, .ptr 1 0), (4, .ptr 2 0), (5, .ptr 3 0), (6, .ptr 4 0), (7, .ptr 5 0), (8, .d (.int .i64 i4))]) (H' := [.box [.d (.int .u64 a0), .d (.int .u64 a1)], .box [.d (.int .u64 b0), .d (.int .u64 b1)], .box [.d (.int .u64 0), .d (.int .u64 0)], .box [.d (.int .u64 0), .d (.int .u64 0)], .box [.d (.int .u64 x72), .d (.int .u64 x73)], .box [.d (.int .u64 x74), .d (.int .u64 x75)]]) (by kernel_rfl) (by kernel_rfl) ?_
        refine oRegion rfl ?_
        refine oOp (.d (.int .i64 i4)) (by kernel_rfl) (by kernel_rfl) (PureV.does (p_move (by kernel_rfl))) ?_
        refine oOp (.d (.int .i64 (IntKind.wrap .i64 (i4 - 1)))) (by kernel_rfl) (by kernel_rfl) (PureV.does (p_int (k := .i64) (p := i4) (q := 1) (by kernel_rfl) (by kernel_rfl) (by kernel_rfl))) ?_
        refine oOp (.d (.int .i64 (IntKind.wrap .i64 (i4 - 1)))) (by kernel_rfl) (by kernel_rfl) (PureV.does (p_assign (by kernel_rfl))) ?_
        refine oEnd ?_
        refine oAgain ?_
        refine oHead [2, 3, 4, 5, 6, 7, 8] [0, 1, 2, 3, 4, 5] (T' := [(2, .ptr 0 0), (3, .ptr 1 0), (4, .ptr 2 0), (5, .ptr 3 0), (6, .ptr 4 0), (7, .ptr 5 0), (8, .d (.int .i64 (IntKind.wrap .i64 (i4 - 1))))]) (H' := [.box [.d (.int .u64 a0), .d (.int .u64 a1)], .box [.d (.int .u64 b0), .d (.int .u64 b1)], .box [.d (.int .u64 0), .d (.int .u64 0)], .box [.d (.int .u64 0), .d (.int .u64 0)], .box [.d (.int .u64 x72), .d (.int .u64 x73)], .box [.d (.int .u64 x74), .d (.int .u64 x75)]]) (by kernel_rfl) (by kernel_rfl) (by kernel_rfl) (by kernel_rfl) (by decide) (by kernel_rfl) (by kernel_rfl) ?_
        exact hag1 ((IntKind.wrap .i64 (i4 - 1)), x72, x73, x74, x75)
       ·refine oBlock ?_
        refine oSeq ?_
        refine oRegion rfl ?_
        refine oOp (.ptr 0 1) (by kernel_rfl) (by kernel_rfl) (PureV.does (k_fieldAddr 0 0 (by kernel_rfl) Try.underlying72 rfl ty64 (by kernel_rfl))) ?_
        refine oOp (.d (.int .u64 a1)) (by kernel_rfl) (by kernel_rfl) (Quiet.does (k_load 0 1 (by kernel_rfl) Try.underlying64 (by kernel_rfl) (by kernel_rfl))) ?_
        refine oOp (.d (.int .i64 i4)) (by kernel_rfl) (by kernel_rfl) (PureV.does (p_move (by kernel_rfl))) ?_
        refine oOp (.d (.int .i64 (Int.tmod i4 64))) (by kernel_rfl) (by kernel_rfl) (PureV.does (p_rem (k := .i64) (p := i4) (q := 64) (by kernel_rfl) (by kernel_rfl) (by decide) (by kernel_rfl))) ?_
        refine oOp (.d (.int .u64 (IntKind.wrap .u64 (Int.tmod i4 64)))) (by kernel_rfl) (by kernel_rfl) (PureV.does (p_conv (k := .i64) (p := (Int.tmod i4 64)) (by kernel_rfl) Try.underlying3 Try.underlying78 (by kernel_rfl))) ?_
        refine bNn (fun h132 => ?_)
        refine oOp (.d (.int .u64 (Int.fdiv a1 (2 ^ (min (Int.toNat (IntKind.wrap .u64 (Int.tmod i4 64))) (IntKind.bits .u64)))))) (by kernel_rfl) (by kernel_rfl) (PureV.does (p_shr (k := .u64) (k2 := .u64) (p := a1) (q := (IntKind.wrap .u64 (Int.tmod i4 64))) (by kernel_rfl) (by kernel_rfl) h132 (by kernel_rfl))) ?_
        refine oOp (.d (.int .u64 (iand .u64 (Int.fdiv a1 (2 ^ (min (Int.toNat (IntKind.wrap .u64 (Int.tmod i4 64))) (IntKind.bits .u64)))) 1))) (by kernel_rfl) (by kernel_rfl) (PureV.does (p_int (k := .u64) (p := (Int.fdiv a1 (2 ^ (min (Int.toNat (IntKind.wrap .u64 (Int.tmod i4 64))) (IntKind.bits .u64))))) (q := 1) (by kernel_rfl) (by kernel_rfl) (by kernel_rfl))) ?_
        refine oOp (.d (.int .u64 (iand .u64 (Int.fdiv a1 (2 ^ (min (Int.toNat (IntKind.wrap .u64 (Int.tmod i4 64))) (IntKind.bits .u64)))) 1))) (by kernel_rfl) (by kernel_rfl) (PureV.does (p_assign (by kernel_rfl))) ?_
        refine oEnd ?_
        refine oSeq ?_
        refine oSeq ?_
        refine oRegion rfl ?_
        refine oOp (.d (.int .i64 i4)) (by kernel_rfl) (by kernel_rfl) (PureV.does (p_move (by kernel_rfl))) ?_
        refine oOp (.d (.bool (decide (i4 ≥ 64)))) (by kernel_rfl) (by kernel_rfl) (PureV.does (p_int (k := .i64) (p := i4) (q := 64) (by kernel_rfl) (by kernel_rfl) (by kernel_rfl))) ?_
        refine oEnd ?_
        refine bJoin ((fun (bit4 : Int) => [(2, .ptr 0 0), (3, .ptr 1 0), (4, .ptr 2 0), (5, .ptr 3 0), (6, .ptr 4 0), (7, .ptr 5 0), (8, .d (.int .i64 i4)), (9, .d (.int .u64 bit4))])) ((fun (bit4 : Int) => [.box [.d (.int .u64 a0), .d (.int .u64 a1)], .box [.d (.int .u64 b0), .d (.int .u64 b1)], .box [.d (.int .u64 0), .d (.int .u64 0)], .box [.d (.int .u64 0), .d (.int .u64 0)], .box [.d (.int .u64 x56), .d (.int .u64 x57)], .box [.d (.int .u64 x58), .d (.int .u64 x59)]])) (fun s => s) (fun bit4 => ?_) (fun hj15 => ?_)
        ·refine oView (T' := [(2, .ptr 0 0), (3, .ptr 1 0), (4, .ptr 2 0), (5, .ptr 3 0), (6, .ptr 4 0), (7, .ptr 5 0), (8, .d (.int .i64 i4)), (9, .d (.int .u64 bit4))]) (H' := [.box [.d (.int .u64 a0), .d (.int .u64 a1)], .box [.d (.int .u64 b0), .d (.int .u64 b1)], .box [.d (.int .u64 0), .d (.int .u64 0)], .box [.d (.int .u64 0), .d (.int .u64 0)], .box [.d (.int .u64 x56), .d (.int .u64 x57)], .box [.d (.int .u64 x58), .d (.int .u64 x59)]]) (by kernel_rfl) (by kernel_rfl) ?_
         refine oSeq ?_
         refine oRegion rfl ?_
         refine oOp (.ptr 5 0) (by kernel_rfl) (by kernel_rfl) (PureV.does (k_fieldAddr 5 0 (by kernel_rfl) Try.underlying72 rfl ty64 (by kernel_rfl))) ?_
         refine oOp (.d (.int .u64 x58)) (by kernel_rfl) (by kernel_rfl) (Quiet.does (k_load 5 0 (by kernel_rfl) Try.underlying64 (by kernel_rfl) (by kernel_rfl))) ?_
         refine oOp (.d (.int .u64 (Int.fdiv x58 (2 ^ (min (Int.toNat 63) (IntKind.bits .u64)))))) (by kernel_rfl) (by kernel_rfl) (PureV.does (p_shr (k := .u64) (k2 := .u64) (p := x58) (q := 63) (by kernel_rfl) (by kernel_rfl) (by decide) (by kernel_rfl))) ?_
         refine oOp (.d (.bool ((Int.fdiv x58 (2 ^ (min (Int.toNat 63) (IntKind.bits .u64)))) == 1))) (by kernel_rfl) (by kernel_rfl) (PureV.does (p_int (k := .u64) (p := (Int.fdiv x58 (2 ^ (min (Int.toNat 63) (IntKind.bits .u64))))) (q := 1) (by kernel_rfl) (by kernel_rfl) (by kernel_rfl))) ?_
         refine oOp (.d (.bool ((Int.fdiv x58 (2 ^ (min (Int.toNat 63) (IntKind.bits .u64)))) == 1))) (by kernel_rfl) (by kernel_rfl) (PureV.does (p_assign (by kernel_rfl))) ?_
         refine oEnd ?_
         refine oSeq ?_
         refine oRegion rfl ?_
         refine oOp (.agg [.d (.int .u64 x58), .d (.int .u64 x59)]) (by kernel_rfl) (by kernel_rfl) (Quiet.does (k_loadAgg 5 0 (by kernel_rfl) Try.underlying72 (by kernel_rfl) ty72 (by kernel_rfl))) ?_
         refine bCall (caps := []) (v := (uc fun (r131 : Int) => (fun (r1118 : Int) => (.agg [.d (.int .u64 r131), .d (.int .u64 r1118)] : V)))) (H' := (uc fun (r131 : Int) => (fun (r1118 : Int) => ([.box [.d (.int .u64 a0), .d (.int .u64 a1)], .box [.d (.int .u64 b0), .d (.int .u64 b1)], .box [.d (.int .u64 0), .d (.int .u64 0)], .box [.d (.int .u64 0), .d (.int .u64 0)], .box [.d (.int .u64 x56), .d (.int .u64 x57)], .box [.d (.int .u64 x58), .d (.int .u64 x59)]] : List Blk)))) [] _ (ref01_Twice_goes k x58 x59) (by kernel_rfl) (by kernel_rfl) rfl (by kernel_rfl) Try.func84 rfl (by kernel_rfl) (ConvRs.refl _ _) (by kernel_rfl) (by kernel_rfl) (by kernel_rfl) (by decide) (by kernel_rfl) (by kernel_rfl) (fun _ => (by kernel_rfl)) (fun _ => (by kernel_rfl)) (fun _ => (by kernel_rfl)) (fun r => ?_)
         obtain ⟨r131, r1118⟩ := r
         refine bUc ?_
         refine oOp (.undef) (by kernel_rfl) (by kernel_rfl) (k_store (vs := [.d (.int .u64 r131), .d (.int .u64 r1118)]) (H' := [.box [.d (.int .u64 a0), .d (.int .u64 a1)], .box [.d (.int .u64 b0), .d (.int .u64 b1)], .box [.d (.int .u64 0), .d (.int .u64 0)], .box [.d (.int .u64 0), .d (.int .u64 0)], .box [.d (.int .u64 x56), .d (.int .u64 x57)], .box [.d (.int .u64 r131), .d (.int .u64 r1118)]]) 5 0 (by kernel_rfl) ty72 (by kernel_rfl) (by kernel_rfl) (by kernel_rfl)) ?_
         refine oEnd ?_
         refine oSeq ?_
         refine oRegion rfl ?_
         refine oOp (.ptr 5 1) (by kernel_rfl) (by kernel_rfl) (PureV.does (k_fieldAddr 5 0 (by kernel_rfl) Try.underlying72 rfl ty64 (by kernel_rfl))) ?_
         refine oOp (.d (.int .u64 r1118)) (by kernel_rfl) (by kernel_rfl) (Quiet.does (k_load 5 1 (by kernel_rfl) Try.underlying64 (by kernel_rfl) (by kernel_rfl))) ?_
         refine oOp (.d (.int .u64 bit4)) (by kernel_rfl) (by kernel_rfl) (PureV.does (p_move (by kernel_rfl))) ?_
         refine oOp (.d (.int .u64 (ior .u64 r1118 bit4))) (by kernel_rfl) (by kernel_rfl) (PureV.does (p_int (k := .u64) (p := r1118) (q := bit4) (by kernel_rfl) (by kernel_rfl) (by kernel_rfl))) ?_
         refine oOp (.ptr 5 1) (by kernel_rfl) (by kernel_rfl) (PureV.does (k_fieldAddr 5 0 (by kernel_rfl) Try.underlying72 rfl ty64 (by kernel_rfl))) ?_
         refine oOp (.undef) (by kernel_rfl) (by kernel_rfl) (k_store (vs := [.d (.int .u64 (ior .u64 r1118 bit4))]) (H' := [.box [.d (.int .u64 a0), .d (.int .u64 a1)], .box [.d (.int .u64 b0), .d (.int .u64 b1)], .box [.d (.int .u64 0), .d (.int .u64 0)], .box [.d (.int .u64 0), .d (.int .u64 0)], .box [.d (.int .u64 x56), .d (.int .u64 x57)], .box [.d (.int .u64 r131), .d (.int .u64 (ior .u64 r1118 bit4))]]) 5 1 (by kernel_rfl) ty64 (by kernel_rfl) (by kernel_rfl) (by kernel_rfl)) ?_
         refine oEnd ?_
         refine oSeq ?_
         refine oRegion rfl ?_
         refine oOp (.agg [.d (.int .u64 x56), .d (.int .u64 x57)]) (by kernel_rfl) (by kernel_rfl) (Quiet.does (k_loadAgg 4 0 (by kernel_rfl) Try.underlying72 (by kernel_rfl) ty72 (by kernel_rfl))) ?_
         refine bCall (caps := []) (v := (uc fun (r132 : Int) => (fun (r1119 : Int) => (.agg [.d (.int .u64 r132), .d (.int .u64 r1119)] : V)))) (H' := (uc fun (r132 : Int) => (fun (r1119 : Int) => ([.box [.d (.int .u64 a0), .d (.int .u64 a1)], .box [.d (.int .u64 b0), .d (.int .u64 b1)], .box [.d (.int .u64 0), .d (.int .u64 0)], .box [.d (.int .u64 0), .d (.int .u64 0)], .box [.d (.int .u64 x56), .d (.int .u64 x57)], .box [.d (.int .u64 r131), .d (.int .u64 (ior .u64 r1118 bit4))]] : List Blk)))) [] _ (ref01_Twice_goes k x56 x57) (by kernel_rfl) (by kernel_rfl) rfl (by kernel_rfl) Try.func84 rfl (by kernel_rfl) (ConvRs.refl _ _) (by kernel_rfl) (by kernel_rfl) (by kernel_rfl) (by decide) (by kernel_rfl) (by kernel_rfl) (fun _ => (by kernel_rfl)) (fun _ => (by kernel_rfl)) (fun _ => (by kernel_rfl)) (fun r => ?_)
         obtain ⟨r132, r1119⟩ := r
         refine bUc ?_
         refine oOp (.undef) (by kernel_rfl) (by kernel_rfl) (k_store (vs := [.d (.int .u64 r132), .d (.int .u64 r1119)]) (H' := [.box [.d (.int .u64 a0), .d (.int .u64 a1)], .box [.d (.int .u64 b0), .d (.int .u64 b1)], .box [.d (.int .u64 0), .d (.int .u64 0)], .box [.d (.int .u64 0), .d (.int .u64 0)], .box [.d (.int .u64 r132), .d (.int .u64 r1119)], .box [.d (.int .u64 r131), .d (.int .u64 (ior .u64 r1118 bit4))]]) 4 0 (by kernel_rfl) ty72 (by kernel_rfl) (by kernel_rfl) (by kernel_rfl)) ?_
         refine oEnd ?_
         refine oSeq ?_
         refine oRegion rfl ?_
         refine oOp (.d (.bool ((Int.fdiv x58 (2 ^ (min (Int.toNat 63) (IntKind.bits .u64)))) == 1))) (by kernel_rfl) (by kernel_rfl) (PureV.does (p_move (by kernel_rfl))) ?_
         refine oOp (.d (.bool ((Int.fdiv x58 (2 ^ (min (Int.toNat 63) (IntKind.bits .u64)))) == 1))) (by kernel_rfl) (by kernel_rfl) (PureV.does (p_move (by kernel_rfl))) ?_
         refine bMeet 5 rfl ((uc fun (x76 : Bool) => (fun (x77 : Int) => [(2, .ptr 0 0), (3, .ptr 1 0), (4, .ptr 2 0), (5, .ptr 3 0), (6, .ptr 4 0), (7, .ptr 5 0), (8, .d (.int .i64 i4)), (72, .d (.bool x76))]))) ((uc fun (x76 : Bool) => (fun (x77 : Int) => [.box [.d (.int .u64 a0), .d (.int .u64 a1)], .box [.d (.int .u64 b0), .d (.int .u64 b1)], .box [.d (.int .u64 0), .d (.int .u64 0)], .box [.d (.int .u64 0), .d (.int .u64 0)], .box [.d (.int .u64 r132), .d (.int .u64 r1119)], .box [.d (.int .u64 r131), .d (.int .u64 x77)]]))) (fun s => s) (fun s => ?_) (fun hj16 => ?_)
         ·obtain ⟨x76, x77⟩ := s
          refine bUc ?_
          refine oView (T' := [(2, .ptr 0 0), (3, .ptr 1 0), (4, .ptr 2 0), (5, .ptr 3 0), (6, .ptr 4 0), (7, .ptr 5 0), (8, .d (.int .i64 i4)), (72, .d (.bool x76))]) (H' := [.box [.d (.int .u64 a0), .d (.int .u64 a1)], .box [.d (.int .u64 b0), .d (.int .u64 b1)], .box [.d (.int .u64 0), .d (.int .u64 0)], .box [.d (.int .u64 0), .d (.int .u64 0)], .box [.d (.int .u64 r132), .d (.int .u64 r1119)], .box [.d (.int .u64 r131), .d (.int .u64 x77)]]) (by kernel_rfl) (by kernel_rfl) ?_
          refine oEnd ?_
          refine bSplit 72 (by kernel_rfl) (fun hc => ?_) (fun hc => ?_)
          ·refine oCondT (by kernel_rfl) ?_
           refine oSeq ?_
           refine oRegion rfl ?_
           refine oOp (.agg [.d (.int .u64 r131), .d (.int .u64 x77)]) (by kernel_rfl) (by kernel_rfl) (Quiet.does (k_loadAgg 5 0 (by kernel_rfl) Try.underlying72 (by kernel_rfl) ty72 (by kernel_rfl))) ?_
           refine oOp (.agg [.d (.int .u64 b0), .d (.int .u64 b1)]) (by kernel_rfl) (by kernel_rfl) (Quiet.does (k_loadAgg 1 0 (by kernel_rfl) Try.underlying72 (by kernel_rfl) ty72 (by kernel_rfl))) ?_
           refine bCall (caps := []) (v := (u0 ((.agg [.d (.int .u64 ((r131 - b0 - (if x77 < b1 + 0 then 1 else 0)) % 18446744073709551616)), .d (.int .u64 ((x77 - b1 - 0) % 18446744073709551616))] : V)))) (H' := (u0 (([.box [.d (.int .u64 a0), .d (.int .u64 a1)], .box [.d (.int .u64 b0), .d (.int .u64 b1)], .box [.d (.int .u64 0), .d (.int .u64 0)], .box [.d (.int .u64 0), .d (.int .u64 0)], .box [.d (.int .u64 r132), .d (.int .u64 r1119)], .box [.d (.int .u64 r131), .d (.int .u64 x77)]] : List Blk)))) [] _ (ref01_Minus_goes k r131 x77 b0 b1) (by kernel_rfl) (by kernel_rfl) rfl (by kernel_rfl) Try.func58 rfl (by kernel_rfl) (ConvRs.refl _ _) (by kernel_rfl) (by kernel_rfl) (by kernel_rfl) (by decide) (by kernel_rfl) (by kernel_rfl) (fun _ => (by kernel_rfl)) (fun _ => (by kernel_rfl)) (fun _ => (by kernel_rfl)) (fun r => ?_)
           cases r
           refine bU0 ?_
           refine oOp (.undef) (by kernel_rfl) (by kernel_rfl) (k_store (vs := [.d (.int .u64 ((r131 - b0 - (if x77 < b1 + 0 then 1 else 0)) % 18446744073709551616)), .d (.int .u64 ((x77 - b1 - 0) % 18446744073709551616))]) (H' := [.box [.d (.int .u64 a0), .d (.int .u64 a1)], .box [.d (.int .u64 b0), .d (.int .u64 b1)], .box [.d (.int .u64 0), .d (.int .u64 0)], .box [.d (.int .u64 0), .d (.int .u64 0)], .box [.d (.int .u64 r132), .d (.int .u64 r1119)], .box [.d (.int .u64 ((r131 - b0 - (if x77 < b1 + 0 then 1 else 0)) % 18446744073709551616)), .d (.int .u64 ((x77 - b1 - 0) % 18446744073709551616))]]) 5 0 (by kernel_rfl) ty72 (by kernel_rfl) (by kernel_rfl) (by kernel_rfl)) ?_
           refine oEnd ?_
           refine oRegion rfl ?_
           refine oOp (.ptr 4 1) (by kernel_rfl) (by kernel_rfl) (PureV.does (k_fieldAddr 4 0 (by kernel_rfl) Try.underlying72 rfl ty64 (by kernel_rfl))) ?_
           refine oOp (.d (.int .u64 r1119)) (by kernel_rfl) (by kernel_rfl) (Quiet.does (k_load 4 1 (by kernel_rfl) Try.underlying64 (by kernel_rfl) (by kernel_rfl))) ?_
           refine oOp (.d (.int .u64 (ior .u64 r1119 1))) (by kernel_rfl) (by kernel_rfl) (PureV.does (p_int (k := .u64) (p := r1119) (q := 1) (by kernel_rfl) (by kernel_rfl) (by kernel_rfl))) ?_
           refine oOp (.ptr 4 1) (by kernel_rfl) (by kernel_rfl) (PureV.does (k_fieldAddr 4 0 (by kernel_rfl) Try.underlying72 rfl ty64 (by kernel_rfl))) ?_
           refine oOp (.undef) (by kernel_rfl) (by kernel_rfl) (k_store (vs := [.d (.int .u64 (ior .u64 r1119 1))]) (H' := [.box [.d (.int .u64 a0), .d (.int .u64 a1)], .box [.d (.int .u64 b0), .d (.int .u64 b1)], .box [.d (.int .u64 0), .d (.int .u64 0)], .box [.d (.int .u64 0), .d (.int .u64 0)], .box [.d (.int .u64 r132), .d (.int .u64 (ior .u64 r1119 1))], .box [.d (.int .u64 ((r131 - b0 - (if x77 < b1 + 0 then 1 else 0)) % 18446744073709551616)), .d (.int .u64 ((x77 - b1 - 0) % 18446744073709551616))]]) 4 1 (by kernel_rfl) ty64 (by kernel_rfl) (by kernel_rfl) (by kernel_rfl)) ?_
           refine oEnd ?_
           refine oBlk ?_
           refine oHead [2, 3, 4, 5, 6, 7, 8] [0, 1, 2, 3, 4, 5] (T' := [(2, .ptr 0 0), (3, .ptr 1 0), (4, .ptr 2 0), (5, .ptr 3 0), (6, .ptr 4 0), (7, .ptr 5 0), (8, .d (.int .i64 i4))]) (H' := [.box [.d (.int .u64 a0), .d (.int .u64 a1)], .box [.d (.int .u64 b0), .d (.int .u64 b1)], .box [.d (.int .u64 0), .d (.int .u64 0)], .box [.d (.int .u64 0), .d (.int .u64 0)], .box [.d (.int .u64 r132), .d (.int .u64 (ior .u64 r1119 1))], .box [.d (.int .u64 ((r131 - b0 - (if x77 < b1 + 0 then 1 else 0)) % 18446744073709551616)), .d (.int .u64 ((x77 - b1 - 0) % 18446744073709551616))]]) (by kernel_rfl) (by kernel_rfl) (by kernel_rfl) (by kernel_rfl) (by decide) (by kernel_rfl) (by kernel_rfl) ?_
           exact hj14 (r132, (ior .u64 r1119 1), ((r131 - b0 - (if x77 < b1 + 0 then 1 else 0)) % 18446744073709551616), ((x77 - b1 - 0) % 18446744073709551616))
          ·refine oCondF (by kernel_rfl) ?_
           refine oSkip ?_
           refine oBlk ?_
           refine oHead [2, 3, 4, 5, 6, 7, 8] [0, 1, 2, 3, 4, 5] (T' := [(2, .ptr 0 0), (3, .ptr 1 0), (4, .ptr 2 0), (5, .ptr 3 0), (6, .ptr 4 0), (7, .ptr 5 0), (8, .d (.int .i64 i4))]) (H' := [.box [.d (.int .u64 a0), .d (.int .u64 a1)], .box [.d (.int .u64 b0), .d (.int .u64 b1)], .box [.d (.int .u64 0), .d (.int .u64 0)], .box [.d (.int .u64 0), .d (.int .u64 0)], .box [.d (.int .u64 r132), .d (.int .u64 r1119)], .box [.d (.int .u64 r131), .d (.int .u64 x77)]]) (by kernel_rfl) (by kernel_rfl) (by kernel_rfl) (by kernel_rfl) (by decide) (by kernel_rfl) (by kernel_rfl) ?_
           exact hj14 (r132, r1119, r131, x77)
         ·refine bSplit 67 (by kernel_rfl) (fun hc => ?_) (fun hc => ?_)
          ·refine oNot (by kernel_rfl) (by kernel_rfl) ?_
           refine oNot (by kernel_rfl) (by kernel_rfl) ?_
           refine oNot (by kernel_rfl) (by kernel_rfl) ?_
           refine oNot (by kernel_rfl) (by kernel_rfl) ?_
           refine oOp (.d (.bool true)) (by kernel_rfl) (by kernel_rfl) (PureV.does (p_pick (b := true) (by kernel_rfl) (by kernel_rfl))) ?_
           refine oHead [2, 3, 4, 5, 6, 7, 8, 72] [0, 1, 2, 3, 4, 5] (T' := [(2, .ptr 0 0), (3, .ptr 1 0), (4, .ptr 2 0), (5, .ptr 3 0), (6, .ptr 4 0), (7, .ptr 5 0), (8, .d (.int .i64 i4)), (72, .d (.bool true))]) (H' := [.box [.d (.int .u64 a0), .d (.int .u64 a1)], .box [.d (.int .u64 b0), .d (.int .u64 b1)], .box [.d (.int .u64 0), .d (.int .u64 0)], .box [.d (.int .u64 0), .d (.int .u64 0)], .box [.d (.int .u64 r132), .d (.int .u64 r1119)], .box [.d (.int .u64 r131), .d (.int .u64 (ior .u64 r1118 bit4))]]) (by kernel_rfl) (by kernel_rfl) (by kernel_rfl) (by kernel_rfl) (by decide) (by kernel_rfl) (by kernel_rfl) ?_
           exact hj16 (true, (ior .u64 r1118 bit4))
          ·refine oOp (.agg [.d (.int .u64 r131), .d (.int .u64 (ior .u64 r1118 bit4))]) (by kernel_rfl) (by kernel_rfl) (Quiet.does (k_loadAgg 5 0 (by kernel_rfl) Try.underlying72 (by kernel_rfl) ty72 (by kernel_rfl))) ?_
           refine oOp (.agg [.d (.int .u64 b0), .d (.int .u64 b1)]) (by kernel_rfl) (by kernel_rfl) (Quiet.does (k_loadAgg 1 0 (by kernel_rfl) Try.underlying72 (by kernel_rfl) ty72 (by kernel_rfl))) ?_
           refine bCall (caps := []) (v := (fun (r134 : Int) => (.d (.int .i64 r134) : V))) (H' := (fun (r134 : Int) => ([.box [.d (.int .u64 a0), .d (.int .u64 a1)], .box [.d (.int .u64 b0), .d (.int .u64 b1)], .box [.d (.int .u64 0), .d (.int .u64 0)], .box [.d (.int .u64 0), .d (.int .u64 0)], .box [.d (.int .u64 r132), .d (.int .u64 r1119)], .box [.d (.int .u64 r131), .d (.int .u64 (ior .u64 r1118 bit4))]] : List Blk))) [] _ (ref01_Order_goes k r131 (ior .u64 r1118 bit4) b0 b1) (by kernel_rfl) (by kernel_rfl) rfl (by kernel_rfl) Try.func57 rfl (by kernel_rfl) (ConvRs.refl _ _) (by kernel_rfl) (by kernel_rfl) (by kernel_rfl) (by decide) (by kernel_rfl) (by kernel_rfl) (fun _ => (by kernel_rfl)) (fun _ => (by kernel_rfl)) (fun _ => (by kernel_rfl)) (fun r134 => ?_)
           refine oOp (.d (.bool (decide (r134 ≥ 0)))) (by kernel_rfl) (by kernel_rfl) (PureV.does (p_int (k := .i64) (p := r134) (q := 0) (by kernel_rfl) (by kernel_rfl) (by kernel_rfl))) ?_
           refine oOp (.d (.bool (decide (r134 ≥ 0)))) (by kernel_rfl) (by kernel_rfl) (PureV.does (p_pick (b := false) (by kernel_rfl) (by kernel_rfl))) ?_
           refine oHead [2, 3, 4, 5, 6, 7, 8, 72] [0, 1, 2, 3, 4, 5] (T' := [(2, .ptr 0 0), (3, .ptr 1 0), (4, .ptr 2 0), (5, .ptr 3 0), (6, .ptr 4 0), (7, .ptr 5 0), (8, .d (.int .i64 i4)), (72, .d (.bool (decide (r134 ≥ 0))))]) (H' := [.box [.d (.int .u64 a0), .d (.int .u64 a1)], .box [.d (.int .u64 b0), .d (.int .u64 b1)], .box [.d (.int .u64 0), .d (.int .u64 0)], .box [.d (.int .u64 0), .d (.int .u64 0)], .box [.d (.int .u64 r132), .d (.int .u64 r1119)], .box [.d (.int .u64 r131), .d (.int .u64 (ior .u64 r1118 bit4))]]) (by kernel_rfl) (by kernel_rfl) (by kernel_rfl) (by kernel_rfl) (by decide) (by kernel_rfl) (by kernel_rfl) ?_
           exact hj16 ((decide (r134 ≥ 0)), (ior .u64 r1118 bit4))
        ·refine bSplit 45 (by kernel_rfl) (fun hc => ?_) (fun hc => ?_)
         ·refine oCondT (by kernel_rfl) ?_
          refine oRegion rfl ?_
          refine oOp (.ptr 0 0) (by kernel_rfl) (by kernel_rfl) (PureV.does (k_fieldAddr 0 0 (by kernel_rfl) Try.underlying72 rfl ty64 (by kernel_rfl))) ?_
          refine oOp (.d (.int .u64 a0)) (by kernel_rfl) (by kernel_rfl) (Quiet.does (k_load 0 0 (by kernel_rfl) Try.underlying64 (by kernel_rfl) (by kernel_rfl))) ?_
          refine oOp (.d (.int .i64 i4)) (by kernel_rfl) (by kernel_rfl) (PureV.does (p_move (by kernel_rfl))) ?_
          refine oOp (.d (.int .i64 (IntKind.wrap .i64 (i4 - 64)))) (by kernel_rfl) (by kernel_rfl) (PureV.does (p_int (k := .i64) (p := i4) (q := 64) (by kernel_rfl) (by kernel_rfl) (by kernel_rfl))) ?_
          refine oOp (.d (.int .u64 (IntKind.wrap .u64 (IntKind.wrap .i64 (i4 - 64))))) (by kernel_rfl) (by kernel_rfl) (PureV.does (p_conv (k := .i64) (p := (IntKind.wrap .i64 (i4 - 64))) (by kernel_rfl) Try.underlying3 Try.underlying78 (by kernel_rfl))) ?_
          refine bNn (fun h134 => ?_)
          refine oOp (.d (.int .u64 (Int.fdiv a0 (2 ^ (min (Int.toNat (IntKind.wrap .u64 (IntKind.wrap .i64 (i4 - 64)))) (IntKind.bits .u64)))))) (by kernel_rfl) (by kernel_rfl) (PureV.does (p_shr (k := .u64) (k2 := .u64) (p := a0) (q := (IntKind.wrap .u64 (IntKind.wrap .i64 (i4 - 64)))) (by kernel_rfl) (by kernel_rfl) h134 (by kernel_rfl))) ?_
          refine oOp (.d (.int .u64 (iand .u64 (Int.fdiv a0 (2 ^ (min (Int.toNat (IntKind.wrap .u64 (IntKind.wrap .i64 (i4 - 64)))) (IntKind.bits .u64)))) 1))) (by kernel_rfl) (by kernel_rfl) (PureV.does (p_int (k := .u64) (p := (Int.fdiv a0 (2 ^ (min (Int.toNat (IntKind.wrap .u64 (IntKind.wrap .i64 (i4 - 64)))) (IntKind.bits .u64))))) (q := 1) (by kernel_rfl) (by kernel_rfl) (by kernel_rfl))) ?_
          refine oOp (.d (.int .u64 (iand .u64 (Int.fdiv a0 (2 ^ (min (Int.toNat (IntKind.wrap .u64 (IntKind.wrap .i64 (i4 - 64)))) (IntKind.bits .u64)))) 1))) (by kernel_rfl) (by kernel_rfl) (PureV.does (p_assign (by kernel_rfl))) ?_
          refine oEnd ?_
          refine oHead [2, 3, 4, 5, 6, 7, 8, 9] [0, 1, 2, 3, 4, 5] (T' := [(2, .ptr 0 0), (3, .ptr 1 0), (4, .ptr 2 0), (5, .ptr 3 0), (6, .ptr 4 0), (7, .ptr 5 0), (8, .d (.int .i64 i4)), (9, .d (.int .u64 (iand .u64 (Int.fdiv a0 (2 ^ (min (Int.toNat (IntKind.wrap .u64 (IntKind.wrap .i64 (i4 - 64)))) (IntKind.bits .u64)))) 1)))]) (H' := [.box [.d (.int .u64 a0), .d (.int .u64 a1)], .box [.d (.int .u64 b0), .d (.int .u64 b1)], .box [.d (.int .u64 0), .d (.int .u64 0)], .box [.d (.int .u64 0), .d (.int .u64 0)], .box [.d (.int .u64 x56), .d (.int .u64 x57)], .box [.d (.int .u64 x58), .d (.int .u64 x59)]]) (by kernel_rfl) (by kernel_rfl) (by kernel_rfl) (by kernel_rfl) (by decide) (by kernel_rfl) (by kernel_rfl) ?_
          exact hj15 (iand .u64 (Int.fdiv a0 (2 ^ (min (Int.toNat (IntKind.wrap .u64 (IntKind.wrap .i64 (i4 - 64)))) (IntKind.bits .u64)))) 1)
         ·refine oCondF (by kernel_rfl) ?_
          refine oSkip ?_
          refine oHead [2, 3, 4, 5, 6, 7, 8, 9] [0, 1, 2, 3, 4, 5] (T' := [(2, .ptr 0 0), (3, .ptr 1 0), (4, .ptr 2 0), (5, .ptr 3 0), (6, .ptr 4 0), (7, .ptr 5 0), (8, .d (.int .i64 i4)), (9, .d (.int .u64 (iand .u64 (Int.fdiv a1 (2 ^ (min (Int.toNat (IntKind.wrap .u64 (Int.tmod i4 64))) (IntKind.bits .u64)))) 1)))]) (H' := [.box [.d (.int .u64 a0), .d (.int .u64 a1)], .box [.d (.int .u64 b0), .d (.int .u64 b1)], .box [.d (.int .u64 0), .d (.int .u64 0)], .box [.d (.int .u64 0), .d (.int .u64 0)], .box [.d (.int .u64 x56), .d (.int .u64 x57)], .box [.d (.int .u64 x58), .d (.int .u64 x59)]]) (by kernel_rfl) (by kernel_rfl) (by kernel_rfl) (by kernel_rfl) (by decide) (by kernel_rfl) (by kernel_rfl) ?_
          exact hj15 (iand .u64 (Int.fdiv a1 (2 ^ (min (Int.toNat (IntKind.wrap .u64 (Int.tmod i4 64))) (IntKind.bits .u64)))) 1)
      ·refine oCondF (by kernel_rfl) ?_
       refine oExit rfl ?_
       refine oHead [4, 5, 6, 7] [2, 3, 4, 5] (T' := [(4, .ptr 0 0), (5, .ptr 1 0), (6, .ptr 2 0), (7, .ptr 3 0)]) (H' := [.box [.d (.int .u64 0), .d (.int .u64 0)], .box [.d (.int .u64 0), .d (.int .u64 0)], .box [.d (.int .u64 x56), .d (.int .u64 x57)], .box [.d (.int .u64 x58), .d (.int .u64 x59)]]) (by kernel_rfl) (by kernel_rfl) (by kernel_rfl) (by kernel_rfl) (by decide) (by kernel_rfl) (by kernel_rfl) ?_
       exact hj9 (x56, x57, x58, x59)
  ·refine bPickF 14 (fun c => F (c && (b0 == 0))) (by kernel_rfl) (fun hc => ?_) (fun hc => ?_)
   ·refine oOp (.ptr 1 0) (by kernel_rfl) (by kernel_rfl) (PureV.does (k_fieldAddr 1 0 (by kernel_rfl) Try.underlying72 rfl ty64 (by kernel_rfl))) ?_
    refine oOp (.d (.int .u64 b0)) (by kernel_rfl) (by kernel_rfl) (Quiet.does (k_load 1 0 (by kernel_rfl) Try.underlying64 (by kernel_rfl) (by kernel_rfl))) ?_
    refine oOp (.d (.bool (b0 == 0))) (by kernel_rfl) (by kernel_rfl) (PureV.does (p_int (k := .u64) (p := b0) (q := 0) (by kernel_rfl) (by kernel_rfl) (by kernel_rfl))) ?_
    refine oOp (.d (.bool (b0 == 0))) (by kernel_rfl) (by kernel_rfl) (PureV.does (p_pick (b := true) (by kernel_rfl) (by kernel_rfl))) ?_
    refine oHead [2, 3, 4, 5, 18] [0, 1, 2, 3] (T' := [(2, .ptr 0 0), (3, .ptr 1 0), (4, .ptr 2 0), (5, .ptr 3 0), (18, .d (.bool (b0 == 0)))]) (H' := [.box [.d (.int .u64 a0), .d (.int .u64 a1)], .box [.d (.int .u64 b0), .d (.int .u64 b1)], .box [.d (.int .u64 0), .d (.int .u64 0)], .box [.d (.int .u64 0), .d (.int .u64 0)]]) (by kernel_rfl) (by kernel_rfl) (by kernel_rfl) (by kernel_rfl) (by decide) (by kernel_rfl) (by kernel_rfl) ?_
    exact hj5 (b0 == 0)
   ·refine oNot (by kernel_rfl) (by kernel_rfl) ?_
    refine oNot (by kernel_rfl) (by kernel_rfl) ?_
    refine oNot (by kernel_rfl) (by kernel_rfl) ?_
    refine oOp (.d (.bool false)) (by kernel_rfl) (by kernel_rfl) (PureV.does (p_pick (b := false) (by kernel_rfl) (by kernel_rfl))) ?_
    refine oHead [2, 3, 4, 5, 18] [0, 1, 2, 3] (T' := [(2, .ptr 0 0), (3, .ptr 1 0), (4, .ptr 2 0), (5, .ptr 3 0), (18, .d (.bool false))]) (H' := [.box [.d (.int .u64 a0), .d (.int .u64 a1)], .box [.d (.int .u64 b0), .d (.int .u64 b1)], .box [.d (.int .u64 0), .d (.int .u64 0)], .box [.d (.int .u64 0), .d (.int .u64 0)]]) (by kernel_rfl) (by kernel_rfl) (by kernel_rfl) (by kernel_rfl) (by decide) (by kernel_rfl) (by kernel_rfl) ?_
    exact hj5 false

/-- awardingbody/awardingbodyref01.Divisor -/
def ref01_Divisor_b1 (k : Nat) (again : Int × Int × Int × Int → Option (Int × Int)) : Int × Int × Int × Int → Option (Int × Int) := uc fun x20 => uc fun x21 => uc fun x22 => fun x23 => bif (!((x22 == 0) && ((x23 == 0) && true))) then Option.bind (ref01_Divide k x20 x21 x22 x23) (uc fun r176 => uc fun r186 => uc fun r196 => fun r1106 => again (x22, x23, r196, r1106)) else some (x20, x21)
def ref01_Divisor (k : Nat) (a0 : Int) (a1 : Int) (b0 : Int) (b1 : Int) : Option (Int × Int) := Option.bind (gloop (ref01_Divisor_b1 k) k (a0, a1, b0, b1) : Option (Int × Int)) (uc fun x18 => fun x19 => some (x18, x19))
def ref01_Divisor_E (a0 : Int) (a1 : Int) (b0 : Int) (b1 : Int) : Int × Int → V × List Blk := uc fun r1 => fun r11 => (.agg [.d (.int .u64 r1), .d (.int .u64 r11)], [])
theorem ref01_Divisor_goes (k : Nat) (a0 : Int) (a1 : Int) (b0 : Int) (b1 : Int) : RunsO Try.prog 55 [.agg [.d (.int .u64 a0), .d (.int .u64 a1)], .agg [.d (.int .u64 b0), .d (.int .u64 b1)]] [] (ref01_Divisor_E a0 a1 b0 b1) (ref01_Divisor k a0 a1 b0 b1) := by
  refine RunsO.of_goes (N := 19) (m := 0) (T := [(0, .agg [.d (.int .u64 a0), .d (.int .u64 a1)]), (1, .agg [.d (.int .u64 b0), .d (.int .u64 b1)])]) Try.func55 rfl rfl (by kernel_rfl) (by kernel_rfl) (by kernel_rfl) ?_
  unfold ref01_Divisor
  refine bStart ?_
  refine oSeq ?_
  refine oRegion rfl ?_
  refine oOp (.ptr 0 0) (by kernel_rfl) (by kernel_rfl) (k_box (H' := [.box [.d (.int .u64 a0), .d (.int .u64 a1)]]) (cells := [.d (.int .u64 a0), .d (.int .u64 a1)]) (by kernel_rfl) (by kernel_rfl) (by kernel_rfl)) ?_
  refine oOp (.ptr 1 0) (by kernel_rfl) (by kernel_rfl) (k_box (H' := [.box [.d (.int .u64 a0), .d (.int .u64 a1)], .box [.d (.int .u64 b0), .d (.int .u64 b1)]]) (cells := [.d (.int .u64 b0), .d (.int .u64 b1)]) (by kernel_rfl) (by kernel_rfl) (by kernel_rfl)) ?_
  refine oOp (.ptr 2 0) (by kernel_rfl) (by kernel_rfl) (k_alloc (H' := [.box [.d (.int .u64 a0), .d (.int .u64 a1)], .box [.d (.int .u64 b0), .d (.int .u64 b1)], .box [.d (.int .u64 0), .d (.int .u64 0)]]) ty72 (by kernel_rfl) (by kernel_rfl)) ?_
  refine oEnd ?_
  refine oSeq ?_
  refine bJoin ((uc fun (x18 : Int) => (fun (x19 : Int) => [(2, .ptr 0 0), (4, .ptr 1 0)]))) ((uc fun (x18 : Int) => (fun (x19 : Int) => [.box [.d (.int .u64 x18), .d (.int .u64 x19)], .box [.d (.int .u64 0), .d (.int .u64 0)]]))) (fun s => s) (fun s => ?_) (fun hj2 => ?_)
  ·obtain ⟨x18, x19⟩ := s
   refine bUc ?_
   refine oView (T' := [(2, .ptr 0 0), (4, .ptr 1 0)]) (H' := [.box [.d (.int .u64 x18), .d (.int .u64 x19)], .box [.d (.int .u64 0), .d (.int .u64 0)]]) (by kernel_rfl) (by kernel_rfl) ?_
   refine oSeq ?_
   refine oRegion rfl ?_
   refine oOp (.agg [.d (.int .u64 x18), .d (.int .u64 x19)]) (by kernel_rfl) (by kernel_rfl) (Quiet.does (k_loadAgg 0 0 (by kernel_rfl) Try.underlying72 (by kernel_rfl) ty72 (by kernel_rfl))) ?_
   refine oOp (.undef) (by kernel_rfl) (by kernel_rfl) (k_store (vs := [.d (.int .u64 x18), .d (.int .u64 x19)]) (H' := [.box [.d (.int .u64 x18), .d (.int .u64 x19)], .box [.d (.int .u64 x18), .d (.int .u64 x19)]]) 1 0 (by kernel_rfl) ty72 (by kernel_rfl) (by kernel_rfl) (by kernel_rfl)) ?_
   refine oEnd ?_
   exact oRet (r0 := (x18, x19)) (rv := .agg [.d (.int .u64 x18), .d (.int .u64 x19)]) (B := []) (vs := [.agg [.d (.int .u64 x18), .d (.int .u64 x19)]]) (σ := []) (by kernel_rfl) Try.func55 rfl (.cons _ _ _ _ (.agg 4 72 1 0 [.d (.int .u64 x18), .d (.int .u64 x19)] [.d (.int .u64 x18), .d (.int .u64 x19)] _ _ _ _ (by kernel_rfl) (by kernel_rfl) Try.underlying72 (by kernel_rfl) ty72 (by kernel_rfl) (by kernel_rfl)) .nil) (by kernel_rfl) (by kernel_rfl) (by kernel_rfl) (by kernel_rfl) (by decide) (by kernel_rfl) (by kernel_rfl)
  ·refine oBlock ?_
   refine oLoop ?_
   refine oHead [2, 3, 4] [0, 1, 2] (T' := [(2, .ptr 0 0), (3, .ptr 1 0), (4, .ptr 2 0)]) (H' := [.box [.d (.int .u64 a0), .d (.int .u64 a1)], .box [.d (.int .u64 b0), .d (.int .u64 b1)], .box [.d (.int .u64 0), .d (.int .u64 0)]]) (by kernel_rfl) (by kernel_rfl) (by kernel_rfl) (by kernel_rfl) (by decide) (by kernel_rfl) (by kernel_rfl) ?_
   refine bLoop (body := ref01_Divisor_b1 k) ((uc fun (x20 : Int) => (uc fun (x21 : Int) => (uc fun (x22 : Int) => (fun (x23 : Int) => [(2, .ptr 0 0), (3, .ptr 1 0), (4, .ptr 2 0)]))))) ((uc fun (x20 : Int) => (uc fun (x21 : Int) => (uc fun (x22 : Int) => (fun (x23 : Int) => [.box [.d (.int .u64 x20), .d (.int .u64 x21)], .box [.d (.int .u64 x22), .d (.int .u64 x23)], .box [.d (.int .u64 0), .d (.int .u64 0)]]))))) (fun again hag1 s => ?_) k (a0, a1, b0, b1)
   ·unfold ref01_Divisor_b1
    obtain ⟨x20, x21, x22, x23⟩ := s
    refine bUc ?_
    refine bUc ?_
    refine bUc ?_
    refine oView (T' := [(2, .ptr 0 0), (3, .ptr 1 0), (4, .ptr 2 0)]) (H' := [.box [.d (.int .u64 x20), .d (.int .u64 x21)], .box [.d (.int .u64 x22), .d (.int .u64 x23)], .box [.d (.int .u64 0), .d (.int .u64 0)]]) (by kernel_rfl) (by kernel_rfl) ?_
    refine oSeq ?_
    refine oSeq ?_
    refine oRegion rfl ?_
    refine oOp (.agg [.d (.int .u64 x22), .d (.int .u64 x23)]) (by kernel_rfl) (by kernel_rfl) (Quiet.does (k_loadAgg 1 0 (by kernel_rfl) Try.underlying72 (by kernel_rfl) ty72 (by kernel_rfl))) ?_
    refine oOp (.agg [.d (.int .u64 0), .d (.int .u64 0)]) (by kernel_rfl) (by kernel_rfl) (PureV.does (p_build bld72 (by kernel_rfl))) ?_
    refine oOp (.d (.bool (!((x22 == 0) && ((x23 == 0) && true))))) (by kernel_rfl) (by kernel_rfl) (PureV.does (k_neAgg (by kernel_rfl) (by kernel_rfl) Try.eqGuardType72 (EqV.struct 1 72 [.d (.int .u64 x22), .d (.int .u64 x23)] [.d (.int .u64 0), .d (.int .u64 0)] _ ((x22 == 0) && ((x23 == 0) && true)) Try.underlying72 Try.stoodInHeld72 (EqF.one 1 1 _ _ _ _ _ _ _ (x22 == 0) ((x23 == 0) && true) (by kernel_rfl) Try.underlying64 (by kernel_rfl) (by kernel_rfl) (by kernel_rfl) (by kernel_rfl) (EqV.int 64 .u64 .u64 x22 0 Try.underlying64) (EqF.one 1 1 _ _ _ _ _ _ _ (x23 == 0) true (by kernel_rfl) Try.underlying64 (by kernel_rfl) (by kernel_rfl) (by kernel_rfl) (by kernel_rfl) (EqV.int 64 .u64 .u64 x23 0 Try.underlying64) (EqF.nil 1 _ _)))) (by kernel_rfl))) ?_
    refine oEnd ?_
    refine bSplit 9 (by kernel_rfl) (fun hc => ?_) (fun hc => ?_)
    ·refine oCondT (by kernel_rfl) ?_
     refine oSkip ?_
     refine oBlock ?_
     refine oSeq ?_
     refine oRegion rfl ?_
     refine oOp (.agg [.d (.int .u64 x20), .d (.int .u64 x21)]) (by kernel_rfl) (by kernel_rfl) (Quiet.does (k_loadAgg 0 0 (by kernel_rfl) Try.underlying72 (by kernel_rfl) ty72 (by kernel_rfl))) ?_
     refine oOp (.agg [.d (.int .u64 x22), .d (.int .u64 x23)]) (by kernel_rfl) (by kernel_rfl) (Quiet.does (k_loadAgg 1 0 (by kernel_rfl) Try.underlying72 (by kernel_rfl) ty72 (by kernel_rfl))) ?_
     refine bCall (caps := []) (v := (uc fun (r176 : Int) => (uc fun (r186 : Int) => (uc fun (r196 : Int) => (fun (r1106 : Int) => (.tuple [.agg [.d (.int .u64 r176), .d (.int .u64 r186)], .agg [.d (.int .u64 r196), .d (.int .u64 r1106)]] : V)))))) (H' := (uc fun (r176 : Int) => (uc fun (r186 : Int) => (uc fun (r196 : Int) => (fun (r1106 : Int) => ([.box [.d (.int .u64 x20), .d (.int .u64 x21)], .box [.d (.int .u64 x22), .d (.int .u64 x23)], .box [.d (.int .u64 0), .d (.int .u64 0)]] : List Blk)))))) [] _ (ref01_Divide_goes k x20 x21 x22 x23) (by kernel_rfl) (by kernel_rfl) rfl (by kernel_rfl) Try.func75 rfl (by kernel_rfl) (ConvRs.refl _ _) (by kernel_rfl) (by kernel_rfl) (by kernel_rfl) (by decide) (by kernel_rfl) (by kernel_rfl) (fun _ => (by kernel_rfl)) (fun _ => (by kernel_rfl)) (fun _ => (by kernel_rfl)) (fun r => ?_)
     obtain ⟨r176, r186, r196, r1106⟩ := r
     refine bUc ?_
     refine bUc ?_
     refine bUc ?_
     refine oOp (.tuple [.agg [.d (.int .u64 r176), .d (.int .u64 r186)], .agg [.d (.int .u64 r196), .d (.int .u64 r1106)]]) (by kernel_rfl) (by kernel_rfl) (PureV.does (p_move (by kernel_rfl))) ?_
     refine oOp (.agg [.d (.int .u64 r176), .d (.int .u64 r186)]) (by kernel_rfl) (by kernel_rfl) (PureV.does (k_extract (by kernel_rfl))) ?_
     refine oOp (.agg [.d (.int .u64 r196), .d (.int .u64 r1106)]) (by kernel_rfl) (by kernel_rfl) (PureV.does (k_extract (by kernel_rfl))) ?_
     refine oOp (.ptr 3 0) (by kernel_rfl) (by kernel_rfl) (k_alloc (H' := [.box [.d (.int .u64 x20), .d (.int .u64 x21)], .box [.d (.int .u64 x22), .d (.int .u64 x23)], .box [.d (.int .u64 0), .d (.int .u64 0)], .box [.d (.int .u64 0), .d (.int .u64 0)]]) ty72 (by kernel_rfl) (by kernel_rfl)) ?_
     refine oOp (.ptr 4 0) (by kernel_rfl) (by kernel_rfl) (k_alloc (H' := [.box [.d (.int .u64 x20), .d (.int .u64 x21)], .box [.d (.int .u64 x22), .d (.int .u64 x23)], .box [.d (.int .u64 0), .d (.int .u64 0)], .box [.d (.int .u64 0), .d (.int .u64 0)], .box [.d (.int .u64 0), .d (.int .u64 0)]]) ty72 (by kernel_rfl) (by kernel_rfl)) ?_
     refine oOp (.undef) (by kernel_rfl) (by kernel_rfl) (k_store (vs := [.d (.int .u64 r176), .d (.int .u64 r186)]) (H' := [.box [.d (.int .u64 x20), .d (.int .u64 x21)], .box [.d (.int .u64 x22), .d (.int .u64 x23)], .box [.d (.int .u64 0), .d (.int .u64 0)], .box [.d (.int .u64 r176), .d (.int .u64 r186)], .box [.d (.int .u64 0), .d (.int .u64 0)]]) 3 0 (by kernel_rfl) ty72 (by kernel_rfl) (by kernel_rfl) (by kernel_rfl)) ?_
     refine oOp (.undef) (by kernel_rfl) (by kernel_rfl) (k_store (vs := [.d (.int .u64 r196), .d (.int .u64 r1106)]) (H' := [.box [.d (.int .u64 x20), .d (.int .u64 x21)], .box [.d (.int .u64 x22), .d (.int .u64 x23)], .box [.d (.int .u64 0), .d (.int .u64 0)], .box [.d (.int .u64 r176), .d (.int .u64 r186)], .box [.d (.int .u64 r196), .d (.int .u64 r1106)]]) 4 0 (by kernel_rfl) ty72 (by kernel_rfl) (by kernel_rfl) (by kernel_rfl)) ?_
     refine oEnd ?_
     refine oDraw [(0, 2), (1, 3), (2, 4), (3, 4), (4, 4)] rfl ?_
     refine aTakeL (i := 0) (st' := [1]) (.agg [.d (.int .u64 x22), .d (.int .u64 x23)]) rfl (by kernel_rfl) (by kernel_rfl) (by kernel_rfl) (by kernel_rfl) (by kernel_rfl) (by kernel_rfl) (by kernel_rfl) (k_loadAgg 1 0 (by kernel_rfl) Try.underlying72 (by kernel_rfl) ty72 (by kernel_rfl)) ?_
     refine aTakeL (i := 1) (st' := [4]) (.agg [.d (.int .u64 r196), .d (.int .u64 r1106)]) rfl (by kernel_rfl) (by kernel_rfl) (by kernel_rfl) (by kernel_rfl) (by kernel_rfl) (by kernel_rfl) (by kernel_rfl) (k_loadAgg 4 0 (by kernel_rfl) Try.underlying72 (by kernel_rfl) ty72 (by kernel_rfl)) ?_
     refine aOne (i := 2) (v := .undef) rfl (by kernel_rfl) (by kernel_rfl) (by kernel_rfl) (by kernel_rfl) (by kernel_rfl) (by kernel_rfl) (by kernel_rfl) (Does.acts (k_store (vs := [.d (.int .u64 x22), .d (.int .u64 x23)]) (H' := [.box [.d (.int .u64 x22), .d (.int .u64 x23)], .box [.d (.int .u64 x22), .d (.int .u64 x23)], .box [.d (.int .u64 0), .d (.int .u64 0)], .box [.d (.int .u64 r176), .d (.int .u64 r186)], .box [.d (.int .u64 r196), .d (.int .u64 r1106)]]) 0 0 (by kernel_rfl) ty72 (by kernel_rfl) (by kernel_rfl) (by kernel_rfl))) (by kernel_rfl) ?_
     refine aOne (i := 3) (v := .undef) rfl (by kernel_rfl) (by kernel_rfl) (by kernel_rfl) (by kernel_rfl) (by kernel_rfl) (by kernel_rfl) (by kernel_rfl) (Does.acts (k_store (vs := [.d (.int .u64 r196), .d (.int .u64 r1106)]) (H' := [.box [.d (.int .u64 x22), .d (.int .u64 x23)], .box [.d (.int .u64 r196), .d (.int .u64 r1106)], .box [.d (.int .u64 0), .d (.int .u64 0)], .box [.d (.int .u64 r176), .d (.int .u64 r186)], .box [.d (.int .u64 r196), .d (.int .u64 r1106)]]) 1 0 (by kernel_rfl) ty72 (by kernel_rfl) (by kernel_rfl) (by kernel_rfl))) (by kernel_rfl) ?_
     refine aDone (by kernel_rfl) ?_
     refine oBlk ?_
     refine oAgain ?_
     refine oHead [2, 3, 4] [0, 1, 2] (T' := [(2, .ptr 0 0), (3, .ptr 1 0), (4, .ptr 2 0)]) (H' := [.box [.d (.int .u64 x22), .d (.int .u64 x23)], .box [.d (.int .u64 r196), .d (.int .u64 r1106)], .box [.d (.int .u64 0), .d (.int .u64 0)]]) (by kernel_rfl) (by kernel_rfl) (by kernel_rfl) (by kernel_rfl) (by decide) (by kernel_rfl) (by kernel_rfl) ?_
     exact hag1 (x22, x23, r196, r1106)
    ·refine oCondF (by kernel_rfl) ?_
     refine oExit rfl ?_
     refine oHead [2, 4] [0, 2] (T' := [(2, .ptr 0 0), (4, .ptr 1 0)]) (H' := [.box [.d (.int .u64 x20), .d (.int .u64 x21)], .box [.d (.int .u64 0), .d (.int .u64 0)]]) (by kernel_rfl) (by kernel_rfl) (by kernel_rfl) (by kernel_rfl) (by decide) (by kernel_rfl) (by kernel_rfl) ?_
     exact hj2 (x20, x21)

/-- awardingbody/awardingbodyref01.Valid -/
def ref01_Valid (k : Nat) (a0 : Int) (a1 : Int) : Option (Bool) := blet ((decide (a1 < 1)) || (decide (a1 > 1152921504606846976))) fun x3 => blet (x3 || (decide (a0 < (-1152921504606846976)))) fun x4 => blet (x4 || (decide (a0 > 1152921504606846976))) fun x5 => bif x5 then some false else Option.bind (ref01_Size k a0) (fun r1 => Option.bind (ref01_Size k a1) (fun r11 => Option.bind (ref01_Divisor k 0 r1 0 r11) (uc fun r12 => fun r111 => some ((r12 == 0) && ((r111 == 1) && true)))))
def ref01_Valid_E (a0 : Int) (a1 : Int) : Bool → V × List Blk := fun r13 => (.d (.bool r13), [])
theorem ref01_Valid_goes (k : Nat) (a0 : Int) (a1 : Int) : RunsO Try.prog 42 [.agg [.d (.int .i64 a0), .d (.int .i64 a1)]] [] (ref01_Valid_E a0 a1) (ref01_Valid k a0 a1) := by
  refine RunsO.of_goes (N := 32) (m := 0) (T := [(0, .agg [.d (.int .i64 a0), .d (.int .i64 a1)])]) Try.func42 rfl rfl (by kernel_rfl) (by kernel_rfl) (by kernel_rfl) ?_
  unfold ref01_Valid
  refine bStart ?_
  refine oSeq ?_
  refine oRegion rfl ?_
  refine oOp (.ptr 0 0) (by kernel_rfl) (by kernel_rfl) (k_box (H' := [.box [.d (.int .i64 a0), .d (.int .i64 a1)]]) (cells := [.d (.int .i64 a0), .d (.int .i64 a1)]) (by kernel_rfl) (by kernel_rfl) (by kernel_rfl)) ?_
  refine oOp (.d (.bool false)) (by kernel_rfl) (by kernel_rfl) (PureV.does (p_assign (by kernel_rfl))) ?_
  refine oEnd ?_
  refine oSeq ?_
  refine oSeq ?_
  refine oRegion rfl ?_
  refine oOp (.ptr 0 1) (by kernel_rfl) (by kernel_rfl) (PureV.does (k_fieldAddr 0 0 (by kernel_rfl) Try.underlying37 rfl ty3 (by kernel_rfl))) ?_
  refine oOp (.d (.int .i64 a1)) (by kernel_rfl) (by kernel_rfl) (Quiet.does (k_load 0 1 (by kernel_rfl) Try.underlying3 (by kernel_rfl) (by kernel_rfl))) ?_
  refine oOp (.d (.bool (decide (a1 < 1)))) (by kernel_rfl) (by kernel_rfl) (PureV.does (p_int (k := .i64) (p := a1) (q := 1) (by kernel_rfl) (by kernel_rfl) (by kernel_rfl))) ?_
  refine oOp (.d (.bool (decide (a1 < 1)))) (by kernel_rfl) (by kernel_rfl) (PureV.does (p_move (by kernel_rfl))) ?_
  refine bMeetF (H' := [.box [.d (.int .i64 a0), .d (.int .i64 a1)]]) 4 rfl ((fun (x3 : Bool) => [(1, .ptr 0 0), (10, .d (.bool x3))])) (fun x3 => ?_) (fun F hj1 => ?_)
  ·refine oView (T' := [(1, .ptr 0 0), (10, .d (.bool x3))]) (H' := [.box [.d (.int .i64 a0), .d (.int .i64 a1)]]) (by kernel_rfl) (by kernel_rfl) ?_
   refine oOp (.d (.bool x3)) (by kernel_rfl) (by kernel_rfl) (PureV.does (p_move (by kernel_rfl))) ?_
   refine bMeetF (H' := [.box [.d (.int .i64 a0), .d (.int .i64 a1)]]) 4 rfl ((fun (x4 : Bool) => [(1, .ptr 0 0), (15, .d (.bool x4))])) (fun x4 => ?_) (fun F hj2 => ?_)
   ·refine oView (T' := [(1, .ptr 0 0), (15, .d (.bool x4))]) (H' := [.box [.d (.int .i64 a0), .d (.int .i64 a1)]]) (by kernel_rfl) (by kernel_rfl) ?_
    refine oOp (.d (.bool x4)) (by kernel_rfl) (by kernel_rfl) (PureV.does (p_move (by kernel_rfl))) ?_
    refine bMeetF (H' := [.box [.d (.int .i64 a0), .d (.int .i64 a1)]]) 4 rfl ((fun (x5 : Bool) => [(1, .ptr 0 0), (20, .d (.bool x5))])) (fun x5 => ?_) (fun F hj3 => ?_)
    ·refine oView (T' := [(1, .ptr 0 0), (20, .d (.bool x5))]) (H' := [.box [.d (.int .i64 a0), .d (.int .i64 a1)]]) (by kernel_rfl) (by kernel_rfl) ?_
     refine oEnd ?_
     refine bSplit 20 (by kernel_rfl) (fun hc => ?_) (fun hc => ?_)
     ·refine oCondT (by kernel_rfl) ?_
      refine oSeq ?_
      refine oRegion rfl ?_
      refine oOp (.d (.bool false)) (by kernel_rfl) (by kernel_rfl) (PureV.does (p_assign (by kernel_rfl))) ?_
      refine oEnd ?_
      exact oRet (r0 := false) (rv := .d (.bool false)) (B := []) (vs := [.d (.bool false)]) (σ := []) (by kernel_rfl) Try.func42 rfl (.cons _ _ _ _ (.tmp 2 _ (by kernel_rfl)) .nil) (by kernel_rfl) (by kernel_rfl) (by kernel_rfl) (by kernel_rfl) (by decide) (by kernel_rfl) (by kernel_rfl)
     ·refine oCondF (by kernel_rfl) ?_
      refine oSkip ?_
      refine oSeq ?_
      refine oDraw [(0, 12)] rfl ?_
      refine aTakeL (i := 0) (st' := []) (.ptr 0 0) rfl (by kernel_rfl) (by kernel_rfl) (by kernel_rfl) (by kernel_rfl) (by kernel_rfl) (by kernel_rfl) (by kernel_rfl) (PureV.quiet (k_fieldAddr 0 0 (by kernel_rfl) Try.underlying37 rfl ty3 (by kernel_rfl)) []) ?_
      refine aTakeL (i := 1) (st' := [0]) (.d (.int .i64 a0)) rfl (by kernel_rfl) (by kernel_rfl) (by kernel_rfl) (by kernel_rfl) (by kernel_rfl) (by kernel_rfl) (by kernel_rfl) (k_load 0 0 (by kernel_rfl) Try.underlying3 (by kernel_rfl) (by kernel_rfl)) ?_
      refine aTakeL (i := 4) (st' := []) (.ptr 0 1) rfl (by kernel_rfl) (by kernel_rfl) (by kernel_rfl) (by kernel_rfl) (by kernel_rfl) (by kernel_rfl) (by kernel_rfl) (PureV.quiet (k_fieldAddr 0 0 (by kernel_rfl) Try.underlying37 rfl ty3 (by kernel_rfl)) []) ?_
      refine aTakeL (i := 5) (st' := [0]) (.d (.int .i64 a1)) rfl (by kernel_rfl) (by kernel_rfl) (by kernel_rfl) (by kernel_rfl) (by kernel_rfl) (by kernel_rfl) (by kernel_rfl) (k_load 0 1 (by kernel_rfl) Try.underlying3 (by kernel_rfl) (by kernel_rfl)) ?_
      refine aTakeL (i := 9) (st' := []) (.agg [.d (.int .u64 0), .d (.int .u64 1)]) rfl (by kernel_rfl) (by kernel_rfl) (by kernel_rfl) (by kernel_rfl) (by kernel_rfl) (by kernel_rfl) (by kernel_rfl) (PureV.quiet (p_build bld72 (by kernel_rfl)) []) ?_
      refine dCall (i := 2) (caps := []) (v := (fun (r1 : Int) => (.d (.int .u64 r1) : V))) (H' := (fun (r1 : Int) => ([.box [.d (.int .i64 a0), .d (.int .i64 a1)]] : List Blk))) [] _ (ref01_Size_goes k a0) rfl (by kernel_rfl) (by kernel_rfl) (by kernel_rfl) (by kernel_rfl) (by kernel_rfl) (by kernel_rfl) (by kernel_rfl) (by kernel_rfl) rfl (by kernel_rfl) Try.func45 rfl (by kernel_rfl) (ConvRs.refl _ _) (by kernel_rfl) (by kernel_rfl) (by kernel_rfl) (by decide) (by kernel_rfl) (by kernel_rfl) (fun _ => (by kernel_rfl)) (fun _ => (by kernel_rfl)) (fun _ => (by kernel_rfl)) (fun r1 => ?_)
      refine aTakeL (i := 3) (st' := []) (.agg [.d (.int .u64 0), .d (.int .u64 r1)]) rfl (by kernel_rfl) (by kernel_rfl) (by kernel_rfl) (by kernel_rfl) (by kernel_rfl) (by kernel_rfl) (by kernel_rfl) (PureV.quiet (p_build bld72 (by kernel_rfl)) []) ?_
      refine dCall (i := 6) (caps := []) (v := (fun (r11 : Int) => (.d (.int .u64 r11) : V))) (H' := (fun (r11 : Int) => ([.box [.d (.int .i64 a0), .d (.int .i64 a1)]] : List Blk))) [] _ (ref01_Size_goes k a1) rfl (by kernel_rfl) (by kernel_rfl) (by kernel_rfl) (by kernel_rfl) (by kernel_rfl) (by kernel_rfl) (by kernel_rfl) (by kernel_rfl) rfl (by kernel_rfl) Try.func45 rfl (by kernel_rfl) (ConvRs.refl _ _) (by kernel_rfl) (by kernel_rfl) (by kernel_rfl) (by decide) (by kernel_rfl) (by kernel_rfl) (fun _ => (by kernel_rfl)) (fun _ => (by kernel_rfl)) (fun _ => (by kernel_rfl)) (fun r11 => ?_)
      refine aTakeL (i := 7) (st' := []) (.agg [.d (.int .u64 0), .d (.int .u64 r11)]) rfl (by kernel_rfl) (by kernel_rfl) (by kernel_rfl) (by kernel_rfl) (by kernel_rfl) (by kernel_rfl) (by kernel_rfl) (PureV.quiet (p_build bld72 (by kernel_rfl)) []) ?_
      refine dCall (i := 8) (caps := []) (v := (uc fun (r12 : Int) => (fun (r111 : Int) => (.agg [.d (.int .u64 r12), .d (.int .u64 r111)] : V)))) (H' := (uc fun (r12 : Int) => (fun (r111 : Int) => ([.box [.d (.int .i64 a0), .d (.int .i64 a1)]] : List Blk)))) [] _ (ref01_Divisor_goes k 0 r1 0 r11) rfl (by kernel_rfl) (by kernel_rfl) (by kernel_rfl) (by kernel_rfl) (by kernel_rfl) (by kernel_rfl) (by kernel_rfl) (by kernel_rfl) rfl (by kernel_rfl) Try.func55 rfl (by kernel_rfl) (ConvRs.refl _ _) (by kernel_rfl) (by kernel_rfl) (by kernel_rfl) (by decide) (by kernel_rfl) (by kernel_rfl) (fun _ => (by kernel_rfl)) (fun _ => (by kernel_rfl)) (fun _ => (by kernel_rfl)) (fun r => ?_)
      obtain ⟨r12, r111⟩ := r
      refine dUc ?_
      refine aTakeP (i := 10) (.d (.bool ((r12 == 0) && ((r111 == 1) && true)))) rfl (by kernel_rfl) (by kernel_rfl) (by kernel_rfl) (by kernel_rfl) (by kernel_rfl) (by kernel_rfl) (by kernel_rfl) (k_eqAgg (by kernel_rfl) (by kernel_rfl) Try.eqGuardType72 (EqV.struct 1 72 [.d (.int .u64 r12), .d (.int .u64 r111)] [.d (.int .u64 0), .d (.int .u64 1)] _ ((r12 == 0) && ((r111 == 1) && true)) Try.underlying72 Try.stoodInHeld72 (EqF.one 1 1 _ _ _ _ _ _ _ (r12 == 0) ((r111 == 1) && true) (by kernel_rfl) Try.underlying64 (by kernel_rfl) (by kernel_rfl) (by kernel_rfl) (by kernel_rfl) (EqV.int 64 .u64 .u64 r12 0 Try.underlying64) (EqF.one 1 1 _ _ _ _ _ _ _ (r111 == 1) true (by kernel_rfl) Try.underlying64 (by kernel_rfl) (by kernel_rfl) (by kernel_rfl) (by kernel_rfl) (EqV.int 64 .u64 .u64 r111 1 Try.underlying64) (EqF.nil 1 _ _)))) (by kernel_rfl)) ?_
      refine aTakeL (i := 11) (st' := []) (.d (.bool ((r12 == 0) && ((r111 == 1) && true)))) rfl (by kernel_rfl) (by kernel_rfl) (by kernel_rfl) (by kernel_rfl) (by kernel_rfl) (by kernel_rfl) (by kernel_rfl) (PureV.quiet (p_assign (by kernel_rfl)) []) ?_
      refine aDone (by kernel_rfl) ?_
      exact oRet (r0 := ((r12 == 0) && ((r111 == 1) && true))) (rv := .d (.bool ((r12 == 0) && ((r111 == 1) && true)))) (B := []) (vs := [.d (.bool ((r12 == 0) && ((r111 == 1) && true)))]) (σ := []) (by kernel_rfl) Try.func42 rfl (.cons _ _ _ _ (.tmp 2 _ (by kernel_rfl)) .nil) (by kernel_rfl) (by kernel_rfl) (by kernel_rfl) (by kernel_rfl) (by decide) (by kernel_rfl) (by kernel_rfl)
    ·refine bPickF 16 (fun c => F (c || (decide (a0 > 1152921504606846976)))) (by kernel_rfl) (fun hc => ?_) (fun hc => ?_)
     ·refine oNot (by kernel_rfl) (by kernel_rfl) ?_
      refine oNot (by kernel_rfl) (by kernel_rfl) ?_
      refine oNot (by kernel_rfl) (by kernel_rfl) ?_
      refine oOp (.d (.bool true)) (by kernel_rfl) (by kernel_rfl) (PureV.does (p_pick (b := true) (by kernel_rfl) (by kernel_rfl))) ?_
      refine oHead [1, 20] [0] (T' := [(1, .ptr 0 0), (20, .d (.bool true))]) (H' := [.box [.d (.int .i64 a0), .d (.int .i64 a1)]]) (by kernel_rfl) (by kernel_rfl) (by kernel_rfl) (by kernel_rfl) (by decide) (by kernel_rfl) (by kernel_rfl) ?_
      exact hj3 true
     ·refine oOp (.ptr 0 0) (by kernel_rfl) (by kernel_rfl) (PureV.does (k_fieldAddr 0 0 (by kernel_rfl) Try.underlying37 rfl ty3 (by kernel_rfl))) ?_
      refine oOp (.d (.int .i64 a0)) (by kernel_rfl) (by kernel_rfl) (Quiet.does (k_load 0 0 (by kernel_rfl) Try.underlying3 (by kernel_rfl) (by kernel_rfl))) ?_
      refine oOp (.d (.bool (decide (a0 > 1152921504606846976)))) (by kernel_rfl) (by kernel_rfl) (PureV.does (p_int (k := .i64) (p := a0) (q := 1152921504606846976) (by kernel_rfl) (by kernel_rfl) (by kernel_rfl))) ?_
      refine oOp (.d (.bool (decide (a0 > 1152921504606846976)))) (by kernel_rfl) (by kernel_rfl) (PureV.does (p_pick (b := false) (by kernel_rfl) (by kernel_rfl))) ?_
      refine oHead [1, 20] [0] (T' := [(1, .ptr 0 0), (20, .d (.bool (decide (a0 > 1152921504606846976))))]) (H' := [.box [.d (.int .i64 a0), .d (.int .i64 a1)]]) (by kernel_rfl) (by kernel_rfl) (by kernel_rfl) (by kernel_rfl) (by decide) (by kernel_rfl) (by kernel_rfl) ?_
      exact hj3 (decide (a0 > 1152921504606846976))
   ·refine bPickF 11 (fun c => F (c || (decide (a0 < (-1152921504606846976))))) (by kernel_rfl) (fun hc => ?_) (fun hc => ?_)
    ·refine oNot (by kernel_rfl) (by kernel_rfl) ?_
     refine oNot (by kernel_rfl) (by kernel_rfl) ?_
     refine oNot (by kernel_rfl) (by kernel_rfl) ?_
     refine oOp (.d (.bool true)) (by kernel_rfl) (by kernel_rfl) (PureV.does (p_pick (b := true) (by kernel_rfl) (by kernel_rfl))) ?_
     refine oHead [1, 15] [0] (T' := [(1, .ptr 0 0), (15, .d (.bool true))]) (H' := [.box [.d (.int .i64 a0), .d (.int .i64 a1)]]) (by kernel_rfl) (by kernel_rfl) (by kernel_rfl) (by kernel_rfl) (by decide) (by kernel_rfl) (by kernel_rfl) ?_
     exact hj2 true
    ·refine oOp (.ptr 0 0) (by kernel_rfl) (by kernel_rfl) (PureV.does (k_fieldAddr 0 0 (by kernel_rfl) Try.underlying37 rfl ty3 (by kernel_rfl))) ?_
     refine oOp (.d (.int .i64 a0)) (by kernel_rfl) (by kernel_rfl) (Quiet.does (k_load 0 0 (by kernel_rfl) Try.underlying3 (by kernel_rfl) (by kernel_rfl))) ?_
     refine oOp (.d (.bool (decide (a0 < (-1152921504606846976))))) (by kernel_rfl) (by kernel_rfl) (PureV.does (p_int (k := .i64) (p := a0) (q := (-1152921504606846976)) (by kernel_rfl) (by kernel_rfl) (by kernel_rfl))) ?_
     refine oOp (.d (.bool (decide (a0 < (-1152921504606846976))))) (by kernel_rfl) (by kernel_rfl) (PureV.does (p_pick (b := false) (by kernel_rfl) (by kernel_rfl))) ?_
     refine oHead [1, 15] [0] (T' := [(1, .ptr 0 0), (15, .d (.bool (decide (a0 < (-1152921504606846976)))))]) (H' := [.box [.d (.int .i64 a0), .d (.int .i64 a1)]]) (by kernel_rfl) (by kernel_rfl) (by kernel_rfl) (by kernel_rfl) (by decide) (by kernel_rfl) (by kernel_rfl) ?_
     exact hj2 (decide (a0 < (-1152921504606846976)))
  ·refine bPickF 6 (fun c => F (c || (decide (a1 > 1152921504606846976)))) (by kernel_rfl) (fun hc => ?_) (fun hc => ?_)
   ·refine oNot (by kernel_rfl) (by kernel_rfl) ?_
    refine oNot (by kernel_rfl) (by kernel_rfl) ?_
    refine oNot (by kernel_rfl) (by kernel_rfl) ?_
    refine oOp (.d (.bool true)) (by kernel_rfl) (by kernel_rfl) (PureV.does (p_pick (b := true) (by kernel_rfl) (by kernel_rfl))) ?_
    refine oHead [1, 10] [0] (T' := [(1, .ptr 0 0), (10, .d (.bool true))]) (H' := [.box [.d (.int .i64 a0), .d (.int .i64 a1)]]) (by kernel_rfl) (by kernel_rfl) (by kernel_rfl) (by kernel_rfl) (by decide) (by kernel_rfl) (by kernel_rfl) ?_
    exact hj1 true
   ·refine oOp (.ptr 0 1) (by kernel_rfl) (by kernel_rfl) (PureV.does (k_fieldAddr 0 0 (by kernel_rfl) Try.underlying37 rfl ty3 (by kernel_rfl))) ?_
    refine oOp (.d (.int .i64 a1)) (by kernel_rfl) (by kernel_rfl) (Quiet.does (k_load 0 1 (by kernel_rfl) Try.underlying3 (by kernel_rfl) (by kernel_rfl))) ?_
    refine oOp (.d (.bool (decide (a1 > 1152921504606846976)))) (by kernel_rfl) (by kernel_rfl) (PureV.does (p_int (k := .i64) (p := a1) (q := 1152921504606846976) (by kernel_rfl) (by kernel_rfl) (by kernel_rfl))) ?_
    refine oOp (.d (.bool (decide (a1 > 1152921504606846976)))) (by kernel_rfl) (by kernel_rfl) (PureV.does (p_pick (b := false) (by kernel_rfl) (by kernel_rfl))) ?_
    refine oHead [1, 10] [0] (T' := [(1, .ptr 0 0), (10, .d (.bool (decide (a1 > 1152921504606846976))))]) (H' := [.box [.d (.int .i64 a0), .d (.int .i64 a1)]]) (by kernel_rfl) (by kernel_rfl) (by kernel_rfl) (by kernel_rfl) (by decide) (by kernel_rfl) (by kernel_rfl) ?_
    exact hj1 (decide (a1 > 1152921504606846976))

/-- awardingbody/awardingbodyref01.Product -/
def ref01_Product (k : Nat) (a : Int) (b : Int) : Option (Int × Int) := Option.bind (math_bits_Mul64 k a b) (uc fun r14 => fun r111 => some (r14, r111))
def ref01_Product_E (a : Int) (b : Int) : Int × Int → V × List Blk := uc fun r12 => fun r13 => (.agg [.d (.int .u64 r12), .d (.int .u64 r13)], [])
theorem ref01_Product_goes (k : Nat) (a : Int) (b : Int) : RunsO Try.prog 44 [.d (.int .u64 a), .d (.int .u64 b)] [] (ref01_Product_E a b) (ref01_Product k a b) := by
  refine RunsO.of_goes (N := 16) (m := 0) (T := [(0, .d (.int .u64 a)), (1, .d (.int .u64 b))]) Try.func44 rfl rfl (by kernel_rfl) (by kernel_rfl) (by kernel_rfl) ?_
  unfold ref01_Product
  refine bStart ?_
  refine oSeq ?_
  refine oRegion rfl ?_
  refine oOp (.ptr 0 0) (by kernel_rfl) (by kernel_rfl) (k_alloc (H' := [.box [.d (.int .u64 0), .d (.int .u64 0)]]) ty72 (by kernel_rfl) (by kernel_rfl)) ?_
  refine oEnd ?_
  refine oSeq ?_
  refine oRegion rfl ?_
  refine oOp (.d (.int .u64 a)) (by kernel_rfl) (by kernel_rfl) (PureV.does (p_move (by kernel_rfl))) ?_
  refine oOp (.d (.int .u64 b)) (by kernel_rfl) (by kernel_rfl) (PureV.does (p_move (by kernel_rfl))) ?_
  refine bCall (caps := []) (v := (uc fun (r14 : Int) => (fun (r111 : Int) => (.tuple [.d (.int .u64 r14), .d (.int .u64 r111)] : V)))) (H' := (uc fun (r14 : Int) => (fun (r111 : Int) => ([.box [.d (.int .u64 0), .d (.int .u64 0)]] : List Blk)))) [] _ (math_bits_Mul64_goes k a b) (by kernel_rfl) (by kernel_rfl) rfl (by kernel_rfl) Try.func59 rfl (by kernel_rfl) (ConvRs.refl _ _) (by kernel_rfl) (by kernel_rfl) (by kernel_rfl) (by decide) (by kernel_rfl) (by kernel_rfl) (fun _ => (by kernel_rfl)) (fun _ => (by kernel_rfl)) (fun _ => (by kernel_rfl)) (fun r => ?_)
  obtain ⟨r14, r111⟩ := r
  refine bUc ?_
  refine oOp (.tuple [.d (.int .u64 r14), .d (.int .u64 r111)]) (by kernel_rfl) (by kernel_rfl) (PureV.does (p_move (by kernel_rfl))) ?_
  refine oOp (.d (.int .u64 r14)) (by kernel_rfl) (by kernel_rfl) (PureV.does (k_extract (by kernel_rfl))) ?_
  refine oOp (.d (.int .u64 r111)) (by kernel_rfl) (by kernel_rfl) (PureV.does (k_extract (by kernel_rfl))) ?_
  refine oOp (.d (.int .u64 r14)) (by kernel_rfl) (by kernel_rfl) (PureV.does (p_assign (by kernel_rfl))) ?_
  refine oOp (.d (.int .u64 r111)) (by kernel_rfl) (by kernel_rfl) (PureV.does (p_assign (by kernel_rfl))) ?_
  refine oEnd ?_
  refine oSeq ?_
  refine oRegion rfl ?_
  refine oOp (.d (.int .u64 r14)) (by kernel_rfl) (by kernel_rfl) (PureV.does (p_move (by kernel_rfl))) ?_
  refine oOp (.d (.int .u64 r111)) (by kernel_rfl) (by kernel_rfl) (PureV.does (p_move (by kernel_rfl))) ?_
  refine oOp (.agg [.d (.int .u64 r14), .d (.int .u64 r111)]) (by kernel_rfl) (by kernel_rfl) (PureV.does (p_build bld72 (by kernel_rfl))) ?_
  refine oOp (.undef) (by kernel_rfl) (by kernel_rfl) (k_store (vs := [.d (.int .u64 r14), .d (.int .u64 r111)]) (H' := [.box [.d (.int .u64 r14), .d (.int .u64 r111)]]) 0 0 (by kernel_rfl) ty72 (by kernel_rfl) (by kernel_rfl) (by kernel_rfl)) ?_
  refine oEnd ?_
  exact oRet (r0 := (r14, r111)) (rv := .agg [.d (.int .u64 r14), .d (.int .u64 r111)]) (B := []) (vs := [.agg [.d (.int .u64 r14), .d (.int .u64 r111)]]) (σ := []) (by kernel_rfl) Try.func44 rfl (.cons _ _ _ _ (.agg 4 72 0 0 [.d (.int .u64 r14), .d (.int .u64 r111)] [.d (.int .u64 r14), .d (.int .u64 r111)] _ _ _ _ (by kernel_rfl) (by kernel_rfl) Try.underlying72 (by kernel_rfl) ty72 (by kernel_rfl) (by kernel_rfl)) .nil) (by kernel_rfl) (by kernel_rfl) (by kernel_rfl) (by kernel_rfl) (by decide) (by kernel_rfl) (by kernel_rfl)

/-- awardingbody/awardingbodyref01.Plus -/
def ref01_Plus (k : Nat) (a0 : Int) (a1 : Int) (b0 : Int) (b1 : Int) : Option (Unit) := gcarry a1 b1 0 (gcarry a0 b0 ((a1 + b1 + 0) / 18446744073709551616) (some ()))
def ref01_Plus_E (a0 : Int) (a1 : Int) (b0 : Int) (b1 : Int) : Unit → V × List Blk := u0 ((.agg [.d (.int .u64 ((a0 + b0 + ((a1 + b1 + 0) / 18446744073709551616)) % 18446744073709551616)), .d (.int .u64 ((a1 + b1 + 0) % 18446744073709551616))], []))
theorem ref01_Plus_goes (k : Nat) (a0 : Int) (a1 : Int) (b0 : Int) (b1 : Int) : RunsO Try.prog 56 [.agg [.d (.int .u64 a0), .d (.int .u64 a1)], .agg [.d (.int .u64 b0), .d (.int .u64 b1)]] [] (ref01_Plus_E a0 a1 b0 b1) (ref01_Plus k a0 a1 b0 b1) := by
  refine RunsO.of_goes (N := 29) (m := 0) (T := [(0, .agg [.d (.int .u64 a0), .d (.int .u64 a1)]), (1, .agg [.d (.int .u64 b0), .d (.int .u64 b1)])]) Try.func56 rfl rfl (by kernel_rfl) (by kernel_rfl) (by kernel_rfl) ?_
  unfold ref01_Plus
  refine bStart ?_
  refine oSeq ?_
  refine oRegion rfl ?_
  refine oOp (.ptr 0 0) (by kernel_rfl) (by kernel_rfl) (k_box (H' := [.box [.d (.int .u64 a0), .d (.int .u64 a1)]]) (cells := [.d (.int .u64 a0), .d (.int .u64 a1)]) (by kernel_rfl) (by kernel_rfl) (by kernel_rfl)) ?_
  refine oOp (.ptr 1 0) (by kernel_rfl) (by kernel_rfl) (k_box (H' := [.box [.d (.int .u64 a0), .d (.int .u64 a1)], .box [.d (.int .u64 b0), .d (.int .u64 b1)]]) (cells := [.d (.int .u64 b0), .d (.int .u64 b1)]) (by kernel_rfl) (by kernel_rfl) (by kernel_rfl)) ?_
  refine oOp (.ptr 2 0) (by kernel_rfl) (by kernel_rfl) (k_alloc (H' := [.box [.d (.int .u64 a0), .d (.int .u64 a1)], .box [.d (.int .u64 b0), .d (.int .u64 b1)], .box [.d (.int .u64 0), .d (.int .u64 0)]]) ty72 (by kernel_rfl) (by kernel_rfl)) ?_
  refine oEnd ?_
  refine oSeq ?_
  refine oRegion rfl ?_
  refine oOp (.ptr 0 1) (by kernel_rfl) (by kernel_rfl) (PureV.does (k_fieldAddr 0 0 (by kernel_rfl) Try.underlying72 rfl ty64 (by kernel_rfl))) ?_
  refine oOp (.d (.int .u64 a1)) (by kernel_rfl) (by kernel_rfl) (Quiet.does (k_load 0 1 (by kernel_rfl) Try.underlying64 (by kernel_rfl) (by kernel_rfl))) ?_
  refine oOp (.ptr 1 1) (by kernel_rfl) (by kernel_rfl) (PureV.does (k_fieldAddr 1 0 (by kernel_rfl) Try.underlying72 rfl ty64 (by kernel_rfl))) ?_
  refine oOp (.d (.int .u64 b1)) (by kernel_rfl) (by kernel_rfl) (Quiet.does (k_load 1 1 (by kernel_rfl) Try.underlying64 (by kernel_rfl) (by kernel_rfl))) ?_
  refine bCarry (fun h12 => ?_)
  refine oOp (.tuple [.d (.int .u64 ((a1 + b1 + 0) % 18446744073709551616)), .d (.int .u64 ((a1 + b1 + 0) / 18446744073709551616))]) (by kernel_rfl) (by kernel_rfl) (PureV.does (p_add64 (p := a1) (q := b1) (c := 0) (by kernel_rfl) Try.func76 (by kernel_rfl) (by kernel_rfl) (by kernel_rfl) (by kernel_rfl) (by kernel_rfl) (by kernel_rfl) (by kernel_rfl) h12)) ?_
  refine oOp (.tuple [.d (.int .u64 ((a1 + b1 + 0) % 18446744073709551616)), .d (.int .u64 ((a1 + b1 + 0) / 18446744073709551616))]) (by kernel_rfl) (by kernel_rfl) (PureV.does (p_move (by kernel_rfl))) ?_
  refine oOp (.d (.int .u64 ((a1 + b1 + 0) % 18446744073709551616))) (by kernel_rfl) (by kernel_rfl) (PureV.does (k_extract (by kernel_rfl))) ?_
  refine oOp (.d (.int .u64 ((a1 + b1 + 0) / 18446744073709551616))) (by kernel_rfl) (by kernel_rfl) (PureV.does (k_extract (by kernel_rfl))) ?_
  refine oOp (.d (.int .u64 ((a1 + b1 + 0) % 18446744073709551616))) (by kernel_rfl) (by kernel_rfl) (PureV.does (p_assign (by kernel_rfl))) ?_
  refine oOp (.d (.int .u64 ((a1 + b1 + 0) / 18446744073709551616))) (by kernel_rfl) (by kernel_rfl) (PureV.does (p_assign (by kernel_rfl))) ?_
  refine oEnd ?_
  refine oSeq ?_
  refine oRegion rfl ?_
  refine oOp (.ptr 0 0) (by kernel_rfl) (by kernel_rfl) (PureV.does (k_fieldAddr 0 0 (by kernel_rfl) Try.underlying72 rfl ty64 (by kernel_rfl))) ?_
  refine oOp (.d (.int .u64 a0)) (by kernel_rfl) (by kernel_rfl) (Quiet.does (k_load 0 0 (by kernel_rfl) Try.underlying64 (by kernel_rfl) (by kernel_rfl))) ?_
  refine oOp (.ptr 1 0) (by kernel_rfl) (by kernel_rfl) (PureV.does (k_fieldAddr 1 0 (by kernel_rfl) Try.underlying72 rfl ty64 (by kernel_rfl))) ?_
  refine oOp (.d (.int .u64 b0)) (by kernel_rfl) (by kernel_rfl) (Quiet.does (k_load 1 0 (by kernel_rfl) Try.underlying64 (by kernel_rfl) (by kernel_rfl))) ?_
  refine oOp (.d (.int .u64 ((a1 + b1 + 0) / 18446744073709551616))) (by kernel_rfl) (by kernel_rfl) (PureV.does (p_move (by kernel_rfl))) ?_
  refine bCarry (fun h13 => ?_)
  refine oOp (.tuple [.d (.int .u64 ((a0 + b0 + ((a1 + b1 + 0) / 18446744073709551616)) % 18446744073709551616)), .d (.int .u64 ((a0 + b0 + ((a1 + b1 + 0) / 18446744073709551616)) / 18446744073709551616))]) (by kernel_rfl) (by kernel_rfl) (PureV.does (p_add64 (p := a0) (q := b0) (c := ((a1 + b1 + 0) / 18446744073709551616)) (by kernel_rfl) Try.func76 (by kernel_rfl) (by kernel_rfl) (by kernel_rfl) (by kernel_rfl) (by kernel_rfl) (by kernel_rfl) (by kernel_rfl) h13)) ?_
  refine oOp (.tuple [.d (.int .u64 ((a0 + b0 + ((a1 + b1 + 0) / 18446744073709551616)) % 18446744073709551616)), .d (.int .u64 ((a0 + b0 + ((a1 + b1 + 0) / 18446744073709551616)) / 18446744073709551616))]) (by kernel_rfl) (by kernel_rfl) (PureV.does (p_move (by kernel_rfl))) ?_
  refine oOp (.d (.int .u64 ((a0 + b0 + ((a1 + b1 + 0) / 18446744073709551616)) % 18446744073709551616))) (by kernel_rfl) (by kernel_rfl) (PureV.does (k_extract (by kernel_rfl))) ?_
  refine oOp (.d (.int .u64 ((a0 + b0 + ((a1 + b1 + 0) / 18446744073709551616)) / 18446744073709551616))) (by kernel_rfl) (by kernel_rfl) (PureV.does (k_extract (by kernel_rfl))) ?_
  refine oOp (.d (.int .u64 ((a0 + b0 + ((a1 + b1 + 0) / 18446744073709551616)) % 18446744073709551616))) (by kernel_rfl) (by kernel_rfl) (PureV.does (p_assign (by kernel_rfl))) ?_
  refine oOp (.d (.int .u64 ((a0 + b0 + ((a1 + b1 + 0) / 18446744073709551616)) / 18446744073709551616))) (by kernel_rfl) (by kernel_rfl) (PureV.does (p_assign (by kernel_rfl))) ?_
  refine oEnd ?_
  refine oSeq ?_
  refine oRegion rfl ?_
  refine oOp (.d (.int .u64 ((a0 + b0 + ((a1 + b1 + 0) / 18446744073709551616)) % 18446744073709551616))) (by kernel_rfl) (by kernel_rfl) (PureV.does (p_move (by kernel_rfl))) ?_
  refine oOp (.d (.int .u64 ((a1 + b1 + 0) % 18446744073709551616))) (by kernel_rfl) (by kernel_rfl) (PureV.does (p_move (by kernel_rfl))) ?_
  refine oOp (.agg [.d (.int .u64 ((a0 + b0 + ((a1 + b1 + 0) / 18446744073709551616)) % 18446744073709551616)), .d (.int .u64 ((a1 + b1 + 0) % 18446744073709551616))]) (by kernel_rfl) (by kernel_rfl) (PureV.does (p_build bld72 (by kernel_rfl))) ?_
  refine oOp (.undef) (by kernel_rfl) (by kernel_rfl) (k_store (vs := [.d (.int .u64 ((a0 + b0 + ((a1 + b1 + 0) / 18446744073709551616)) % 18446744073709551616)), .d (.int .u64 ((a1 + b1 + 0) % 18446744073709551616))]) (H' := [.box [.d (.int .u64 a0), .d (.int .u64 a1)], .box [.d (.int .u64 b0), .d (.int .u64 b1)], .box [.d (.int .u64 ((a0 + b0 + ((a1 + b1 + 0) / 18446744073709551616)) % 18446744073709551616)), .d (.int .u64 ((a1 + b1 + 0) % 18446744073709551616))]]) 2 0 (by kernel_rfl) ty72 (by kernel_rfl) (by kernel_rfl) (by kernel_rfl)) ?_
  refine oEnd ?_
  exact oRet (r0 := ()) (rv := .agg [.d (.int .u64 ((a0 + b0 + ((a1 + b1 + 0) / 18446744073709551616)) % 18446744073709551616)), .d (.int .u64 ((a1 + b1 + 0) % 18446744073709551616))]) (B := []) (vs := [.agg [.d (.int .u64 ((a0 + b0 + ((a1 + b1 + 0) / 18446744073709551616)) % 18446744073709551616)), .d (.int .u64 ((a1 + b1 + 0) % 18446744073709551616))]]) (σ := []) (by kernel_rfl) Try.func56 rfl (.cons _ _ _ _ (.agg 4 72 2 0 [.d (.int .u64 ((a0 + b0 + ((a1 + b1 + 0) / 18446744073709551616)) % 18446744073709551616)), .d (.int .u64 ((a1 + b1 + 0) % 18446744073709551616))] [.d (.int .u64 ((a0 + b0 + ((a1 + b1 + 0) / 18446744073709551616)) % 18446744073709551616)), .d (.int .u64 ((a1 + b1 + 0) % 18446744073709551616))] _ _ _ _ (by kernel_rfl) (by kernel_rfl) Try.underlying72 (by kernel_rfl) ty72 (by kernel_rfl) (by kernel_rfl)) .nil) (by kernel_rfl) (by kernel_rfl) (by kernel_rfl) (by kernel_rfl) (by decide) (by kernel_rfl) (by kernel_rfl)

/-- awardingbody/awardingbodyref01.total -/
def ref01_total (k : Nat) (x : Bool) (a0 : Int) (a1 : Int) (y : Bool) (b0 : Int) (b1 : Int) : Option (Bool × Int × Int) := bif (x == y) then Option.bind (ref01_Plus k a0 a1 b0 b1) (u0 (some (x, ((a0 + b0 + ((a1 + b1 + 0) / 18446744073709551616)) % 18446744073709551616), ((a1 + b1 + 0) % 18446744073709551616)))) else Option.bind (ref01_Order k a0 a1 b0 b1) (fun r14 => bif (decide (r14 ≥ 0)) then Option.bind (ref01_Minus k a0 a1 b0 b1) (u0 (some (x, ((a0 - b0 - (if a1 < b1 + 0 then 1 else 0)) % 18446744073709551616), ((a1 - b1 - 0) % 18446744073709551616)))) else Option.bind (ref01_Minus k b0 b1 a0 a1) (u0 (some (y, ((b0 - a0 - (if b1 < a1 + 0 then 1 else 0)) % 18446744073709551616), ((b1 - a1 - 0) % 18446744073709551616)))))
def ref01_total_E (x : Bool) (a0 : Int) (a1 : Int) (y : Bool) (b0 : Int) (b1 : Int) : Bool × Int × Int → V × List Blk := uc fun r11 => uc fun r12 => fun r13 => (.tuple [.d (.bool r11), .agg [.d (.int .u64 r12), .d (.int .u64 r13)]], [])
theorem ref01_total_goes (k : Nat) (x : Bool) (a0 : Int) (a1 : Int) (y : Bool) (b0 : Int) (b1 : Int) : RunsO Try.prog 43 [.d (.bool x), .agg [.d (.int .u64 a0), .d (.int .u64 a1)], .d (.bool y), .agg [.d (.int .u64 b0), .d (.int .u64 b1)]] [] (ref01_total_E x a0 a1 y b0 b1) (ref01_total k x a0 a1 y b0 b1) := by
  refine RunsO.of_goes (N := 29) (m := 0) (T := [(0, .d (.bool x)), (1, .agg [.d (.int .u64 a0), .d (.int .u64 a1)]), (2, .d (.bool y)), (3, .agg [.d (.int .u64 b0), .d (.int .u64 b1)])]) Try.func43 rfl rfl (by kernel_rfl) (by kernel_rfl) (by kernel_rfl) ?_
  unfold ref01_total
  refine bStart ?_
  refine oSeq ?_
  refine oRegion rfl ?_
  refine oOp (.ptr 0 0) (by kernel_rfl) (by kernel_rfl) (k_box (H' := [.box [.d (.int .u64 a0), .d (.int .u64 a1)]]) (cells := [.d (.int .u64 a0), .d (.int .u64 a1)]) (by kernel_rfl) (by kernel_rfl) (by kernel_rfl)) ?_
  refine oOp (.ptr 1 0) (by kernel_rfl) (by kernel_rfl) (k_box (H' := [.box [.d (.int .u64 a0), .d (.int .u64 a1)], .box [.d (.int .u64 b0), .d (.int .u64 b1)]]) (cells := [.d (.int .u64 b0), .d (.int .u64 b1)]) (by kernel_rfl) (by kernel_rfl) (by kernel_rfl)) ?_
  refine oOp (.d (.bool false)) (by kernel_rfl) (by kernel_rfl) (PureV.does (p_assign (by kernel_rfl))) ?_
  refine oOp (.ptr 2 0) (by kernel_rfl) (by kernel_rfl) (k_alloc (H' := [.box [.d (.int .u64 a0), .d (.int .u64 a1)], .box [.d (.int .u64 b0), .d (.int .u64 b1)], .box [.d (.int .u64 0), .d (.int .u64 0)]]) ty72 (by kernel_rfl) (by kernel_rfl)) ?_
  refine oEnd ?_
  refine oSeq ?_
  refine oSeq ?_
  refine oRegion rfl ?_
  refine oOp (.d (.bool x)) (by kernel_rfl) (by kernel_rfl) (PureV.does (p_move (by kernel_rfl))) ?_
  refine oOp (.d (.bool y)) (by kernel_rfl) (by kernel_rfl) (PureV.does (p_move (by kernel_rfl))) ?_
  refine oOp (.d (.bool (x == y))) (by kernel_rfl) (by kernel_rfl) (PureV.does (p_boolEq (p := x) (q := y) (by kernel_rfl) (by kernel_rfl) Try.underlying4 (by kernel_rfl))) ?_
  refine oEnd ?_
  refine bSplit 12 (by kernel_rfl) (fun hc => ?_) (fun hc => ?_)
  ·refine oCondT (by kernel_rfl) ?_
   refine oSeq ?_
   refine oRegion rfl ?_
   refine oOp (.d (.bool x)) (by kernel_rfl) (by kernel_rfl) (PureV.does (p_move (by kernel_rfl))) ?_
   refine oOp (.agg [.d (.int .u64 a0), .d (.int .u64 a1)]) (by kernel_rfl) (by kernel_rfl) (Quiet.does (k_loadAgg 0 0 (by kernel_rfl) Try.underlying72 (by kernel_rfl) ty72 (by kernel_rfl))) ?_
   refine oOp (.agg [.d (.int .u64 b0), .d (.int .u64 b1)]) (by kernel_rfl) (by kernel_rfl) (Quiet.does (k_loadAgg 1 0 (by kernel_rfl) Try.underlying72 (by kernel_rfl) ty72 (by kernel_rfl))) ?_
   refine bCall (caps := []) (v := (u0 ((.agg [.d (.int .u64 ((a0 + b0 + ((a1 + b1 + 0) / 18446744073709551616)) % 18446744073709551616)), .d (.int .u64 ((a1 + b1 + 0) % 18446744073709551616))] : V)))) (H' := (u0 (([.box [.d (.int .u64 a0), .d (.int .u64 a1)], .box [.d (.int .u64 b0), .d (.int .u64 b1)], .box [.d (.int .u64 0), .d (.int .u64 0)]] : List Blk)))) [] _ (ref01_Plus_goes k a0 a1 b0 b1) (by kernel_rfl) (by kernel_rfl) rfl (by kernel_rfl) Try.func56 rfl (by kernel_rfl) (ConvRs.refl _ _) (by kernel_rfl) (by kernel_rfl) (by kernel_rfl) (by decide) (by kernel_rfl) (by kernel_rfl) (fun _ => (by kernel_rfl)) (fun _ => (by kernel_rfl)) (fun _ => (by kernel_rfl)) (fun r => ?_)
   cases r
   refine bU0 ?_
   refine oOp (.d (.bool x)) (by kernel_rfl) (by kernel_rfl) (PureV.does (p_assign (by kernel_rfl))) ?_
   refine oOp (.undef) (by kernel_rfl) (by kernel_rfl) (k_store (vs := [.d (.int .u64 ((a0 + b0 + ((a1 + b1 + 0) / 18446744073709551616)) % 18446744073709551616)), .d (.int .u64 ((a1 + b1 + 0) % 18446744073709551616))]) (H' := [.box [.d (.int .u64 a0), .d (.int .u64 a1)], .box [.d (.int .u64 b0), .d (.int .u64 b1)], .box [.d (.int .u64 ((a0 + b0 + ((a1 + b1 + 0) / 18446744073709551616)) % 18446744073709551616)), .d (.int .u64 ((a1 + b1 + 0) % 18446744073709551616))]]) 2 0 (by kernel_rfl) ty72 (by kernel_rfl) (by kernel_rfl) (by kernel_rfl)) ?_
   refine oEnd ?_
   exact oRet (r0 := (x, ((a0 + b0 + ((a1 + b1 + 0) / 18446744073709551616)) % 18446744073709551616), ((a1 + b1 + 0) % 18446744073709551616))) (rv := .tuple [.d (.bool x), .agg [.d (.int .u64 ((a0 + b0 + ((a1 + b1 + 0) / 18446744073709551616)) % 18446744073709551616)), .d (.int .u64 ((a1 + b1 + 0) % 18446744073709551616))]]) (B := []) (vs := [.d (.bool x), .agg [.d (.int .u64 ((a0 + b0 + ((a1 + b1 + 0) / 18446744073709551616)) % 18446744073709551616)), .d (.int .u64 ((a1 + b1 + 0) % 18446744073709551616))]]) (σ := []) (by kernel_rfl) Try.func43 rfl (.cons _ _ _ _ (.tmp 8 _ (by kernel_rfl)) (.cons _ _ _ _ (.agg 9 72 2 0 [.d (.int .u64 ((a0 + b0 + ((a1 + b1 + 0) / 18446744073709551616)) % 18446744073709551616)), .d (.int .u64 ((a1 + b1 + 0) % 18446744073709551616))] [.d (.int .u64 ((a0 + b0 + ((a1 + b1 + 0) / 18446744073709551616)) % 18446744073709551616)), .d (.int .u64 ((a1 + b1 + 0) % 18446744073709551616))] _ _ _ _ (by kernel_rfl) (by kernel_rfl) Try.underlying72 (by kernel_rfl) ty72 (by kernel_rfl) (by kernel_rfl)) .nil)) (by kernel_rfl) (by kernel_rfl) (by kernel_rfl) (by kernel_rfl) (by decide) (by kernel_rfl) (by kernel_rfl)
  ·refine oCondF (by kernel_rfl) ?_
   refine oSkip ?_
   refine oSeq ?_
   refine oSeq ?_
   refine oRegion rfl ?_
   refine oOp (.agg [.d (.int .u64 a0), .d (.int .u64 a1)]) (by kernel_rfl) (by kernel_rfl) (Quiet.does (k_loadAgg 0 0 (by kernel_rfl) Try.underlying72 (by kernel_rfl) ty72 (by kernel_rfl))) ?_
   refine oOp (.agg [.d (.int .u64 b0), .d (.int .u64 b1)]) (by kernel_rfl) (by kernel_rfl) (Quiet.does (k_loadAgg 1 0 (by kernel_rfl) Try.underlying72 (by kernel_rfl) ty72 (by kernel_rfl))) ?_
   refine bCall (caps := []) (v := (fun (r14 : Int) => (.d (.int .i64 r14) : V))) (H' := (fun (r14 : Int) => ([.box [.d (.int .u64 a0), .d (.int .u64 a1)], .box [.d (.int .u64 b0), .d (.int .u64 b1)], .box [.d (.int .u64 0), .d (.int .u64 0)]] : List Blk))) [] _ (ref01_Order_goes k a0 a1 b0 b1) (by kernel_rfl) (by kernel_rfl) rfl (by kernel_rfl) Try.func57 rfl (by kernel_rfl) (ConvRs.refl _ _) (by kernel_rfl) (by kernel_rfl) (by kernel_rfl) (by decide) (by kernel_rfl) (by kernel_rfl) (fun _ => (by kernel_rfl)) (fun _ => (by kernel_rfl)) (fun _ => (by kernel_rfl)) (fun r14 => ?_)
   refine oOp (.d (.bool (decide (r14 ≥ 0)))) (by kernel_rfl) (by kernel_rfl) (PureV.does (p_int (k := .i64) (p := r14) (q := 0) (by kernel_rfl) (by kernel_rfl) (by kernel_rfl))) ?_
   refine oEnd ?_
   refine bSplit 20 (by kernel_rfl) (fun hc => ?_) (fun hc => ?_)
   ·refine oCondT (by kernel_rfl) ?_
    refine oSeq ?_
    refine oRegion rfl ?_
    refine oOp (.d (.bool x)) (by kernel_rfl) (by kernel_rfl) (PureV.does (p_move (by kernel_rfl))) ?_
    refine oOp (.agg [.d (.int .u64 a0), .d (.int .u64 a1)]) (by kernel_rfl) (by kernel_rfl) (Quiet.does (k_loadAgg 0 0 (by kernel_rfl) Try.underlying72 (by kernel_rfl) ty72 (by kernel_rfl))) ?_
    refine oOp (.agg [.d (.int .u64 b0), .d (.int .u64 b1)]) (by kernel_rfl) (by kernel_rfl) (Quiet.does (k_loadAgg 1 0 (by kernel_rfl) Try.underlying72 (by kernel_rfl) ty72 (by kernel_rfl))) ?_
    refine bCall (caps := []) (v := (u0 ((.agg [.d (.int .u64 ((a0 - b0 - (if a1 < b1 + 0 then 1 else 0)) % 18446744073709551616)), .d (.int .u64 ((a1 - b1 - 0) % 18446744073709551616))] : V)))) (H' := (u0 (([.box [.d (.int .u64 a0), .d (.int .u64 a1)], .box [.d (.int .u64 b0), .d (.int .u64 b1)], .box [.d (.int .u64 0), .d (.int .u64 0)]] : List Blk)))) [] _ (ref01_Minus_goes k a0 a1 b0 b1) (by kernel_rfl) (by kernel_rfl) rfl (by kernel_rfl) Try.func58 rfl (by kernel_rfl) (ConvRs.refl _ _) (by kernel_rfl) (by kernel_rfl) (by kernel_rfl) (by decide) (by kernel_rfl) (by kernel_rfl) (fun _ => (by kernel_rfl)) (fun _ => (by kernel_rfl)) (fun _ => (by kernel_rfl)) (fun r => ?_)
    cases r
    refine bU0 ?_
    refine oOp (.d (.bool x)) (by kernel_rfl) (by kernel_rfl) (PureV.does (p_assign (by kernel_rfl))) ?_
    refine oOp (.undef) (by kernel_rfl) (by kernel_rfl) (k_store (vs := [.d (.int .u64 ((a0 - b0 - (if a1 < b1 + 0 then 1 else 0)) % 18446744073709551616)), .d (.int .u64 ((a1 - b1 - 0) % 18446744073709551616))]) (H' := [.box [.d (.int .u64 a0), .d (.int .u64 a1)], .box [.d (.int .u64 b0), .d (.int .u64 b1)], .box [.d (.int .u64 ((a0 - b0 - (if a1 < b1 + 0 then 1 else 0)) % 18446744073709551616)), .d (.int .u64 ((a1 - b1 - 0) % 18446744073709551616))]]) 2 0 (by kernel_rfl) ty72 (by kernel_rfl) (by kernel_rfl) (by kernel_rfl)) ?_
    refine oEnd ?_
    exact oRet (r0 := (x, ((a0 - b0 - (if a1 < b1 + 0 then 1 else 0)) % 18446744073709551616), ((a1 - b1 - 0) % 18446744073709551616))) (rv := .tuple [.d (.bool x), .agg [.d (.int .u64 ((a0 - b0 - (if a1 < b1 + 0 then 1 else 0)) % 18446744073709551616)), .d (.int .u64 ((a1 - b1 - 0) % 18446744073709551616))]]) (B := []) (vs := [.d (.bool x), .agg [.d (.int .u64 ((a0 - b0 - (if a1 < b1 + 0 then 1 else 0)) % 18446744073709551616)), .d (.int .u64 ((a1 - b1 - 0) % 18446744073709551616))]]) (σ := []) (by kernel_rfl) Try.func43 rfl (.cons _ _ _ _ (.tmp 8 _ (by kernel_rfl)) (.cons _ _ _ _ (.agg 9 72 2 0 [.d (.int .u64 ((a0 - b0 - (if a1 < b1 + 0 then 1 else 0)) % 18446744073709551616)), .d (.int .u64 ((a1 - b1 - 0) % 18446744073709551616))] [.d (.int .u64 ((a0 - b0 - (if a1 < b1 + 0 then 1 else 0)) % 18446744073709551616)), .d (.int .u64 ((a1 - b1 - 0) % 18446744073709551616))] _ _ _ _ (by kernel_rfl) (by kernel_rfl) Try.underlying72 (by kernel_rfl) ty72 (by kernel_rfl) (by kernel_rfl)) .nil)) (by kernel_rfl) (by kernel_rfl) (by kernel_rfl) (by kernel_rfl) (by decide) (by kernel_rfl) (by kernel_rfl)
   ·refine oCondF (by kernel_rfl) ?_
    refine oSkip ?_
    refine oSeq ?_
    refine oRegion rfl ?_
    refine oOp (.d (.bool y)) (by kernel_rfl) (by kernel_rfl) (PureV.does (p_move (by kernel_rfl))) ?_
    refine oOp (.agg [.d (.int .u64 b0), .d (.int .u64 b1)]) (by kernel_rfl) (by kernel_rfl) (Quiet.does (k_loadAgg 1 0 (by kernel_rfl) Try.underlying72 (by kernel_rfl) ty72 (by kernel_rfl))) ?_
    refine oOp (.agg [.d (.int .u64 a0), .d (.int .u64 a1)]) (by kernel_rfl) (by kernel_rfl) (Quiet.does (k_loadAgg 0 0 (by kernel_rfl) Try.underlying72 (by kernel_rfl) ty72 (by kernel_rfl))) ?_
    refine bCall (caps := []) (v := (u0 ((.agg [.d (.int .u64 ((b0 - a0 - (if b1 < a1 + 0 then 1 else 0)) % 18446744073709551616)), .d (.int .u64 ((b1 - a1 - 0) % 18446744073709551616))] : V)))) (H' := (u0 (([.box [.d (.int .u64 a0), .d (.int .u64 a1)], .box [.d (.int .u64 b0), .d (.int .u64 b1)], .box [.d (.int .u64 0), .d (.int .u64 0)]] : List Blk)))) [] _ (ref01_Minus_goes k b0 b1 a0 a1) (by kernel_rfl) (by kernel_rfl) rfl (by kernel_rfl) Try.func58 rfl (by kernel_rfl) (ConvRs.refl _ _) (by kernel_rfl) (by kernel_rfl) (by kernel_rfl) (by decide) (by kernel_rfl) (by kernel_rfl) (fun _ => (by kernel_rfl)) (fun _ => (by kernel_rfl)) (fun _ => (by kernel_rfl)) (fun r => ?_)
    cases r
    refine bU0 ?_
    refine oOp (.d (.bool y)) (by kernel_rfl) (by kernel_rfl) (PureV.does (p_assign (by kernel_rfl))) ?_
    refine oOp (.undef) (by kernel_rfl) (by kernel_rfl) (k_store (vs := [.d (.int .u64 ((b0 - a0 - (if b1 < a1 + 0 then 1 else 0)) % 18446744073709551616)), .d (.int .u64 ((b1 - a1 - 0) % 18446744073709551616))]) (H' := [.box [.d (.int .u64 a0), .d (.int .u64 a1)], .box [.d (.int .u64 b0), .d (.int .u64 b1)], .box [.d (.int .u64 ((b0 - a0 - (if b1 < a1 + 0 then 1 else 0)) % 18446744073709551616)), .d (.int .u64 ((b1 - a1 - 0) % 18446744073709551616))]]) 2 0 (by kernel_rfl) ty72 (by kernel_rfl) (by kernel_rfl) (by kernel_rfl)) ?_
    refine oEnd ?_
    exact oRet (r0 := (y, ((b0 - a0 - (if b1 < a1 + 0 then 1 else 0)) % 18446744073709551616), ((b1 - a1 - 0) % 18446744073709551616))) (rv := .tuple [.d (.bool y), .agg [.d (.int .u64 ((b0 - a0 - (if b1 < a1 + 0 then 1 else 0)) % 18446744073709551616)), .d (.int .u64 ((b1 - a1 - 0) % 18446744073709551616))]]) (B := []) (vs := [.d (.bool y), .agg [.d (.int .u64 ((b0 - a0 - (if b1 < a1 + 0 then 1 else 0)) % 18446744073709551616)), .d (.int .u64 ((b1 - a1 - 0) % 18446744073709551616))]]) (σ := []) (by kernel_rfl) Try.func43 rfl (.cons _ _ _ _ (.tmp 8 _ (by kernel_rfl)) (.cons _ _ _ _ (.agg 9 72 2 0 [.d (.int .u64 ((b0 - a0 - (if b1 < a1 + 0 then 1 else 0)) % 18446744073709551616)), .d (.int .u64 ((b1 - a1 - 0) % 18446744073709551616))] [.d (.int .u64 ((b0 - a0 - (if b1 < a1 + 0 then 1 else 0)) % 18446744073709551616)), .d (.int .u64 ((b1 - a1 - 0) % 18446744073709551616))] _ _ _ _ (by kernel_rfl) (by kernel_rfl) Try.underlying72 (by kernel_rfl) ty72 (by kernel_rfl) (by kernel_rfl)) .nil)) (by kernel_rfl) (by kernel_rfl) (by kernel_rfl) (by kernel_rfl) (by decide) (by kernel_rfl) (by kernel_rfl)

end Go.VM
