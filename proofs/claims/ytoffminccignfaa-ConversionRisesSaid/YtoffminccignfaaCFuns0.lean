/- Plain functions that answer as the program's functions do, and the proof that they do. -/
import Derived.Test.YtoffminccignfaaProg
import Derived.KernelRfl
import Derived.Test.YtoffminccignfaaEngW
import Derived.Test.YtoffminccignfaaCFacts
namespace Go.VM
open Go.Proofs
set_option linter.unusedVariables false
set_option linter.unusedSimpArgs false
set_option maxRecDepth 100000
/-- awardingbody/awardingbodymark.Light -/
def mark_Light (k : Nat) (l : (List Int)) : Option (Unit) := some ()
def mark_Light_E (l : (List Int)) : Unit → V × List Blk := u0 ((.d (.bool (decide (((List.length l) : Int) ≤ 600))), []))
theorem mark_Light_goes (k : Nat) (l : (List Int)) : RunsO Try.prog 6 [.d (.lit (List.map e_i64 l))] [] (mark_Light_E l) (mark_Light k l) := by
  refine RunsO.of_goes (N := 6) (m := 0) (T := [(0, .d (.lit (List.map e_i64 l)))]) Try.func6 rfl rfl (by kernel_rfl) (by kernel_rfl) (by kernel_rfl) ?_
  unfold mark_Light
  refine bStart ?_
  refine oSeq ?_
  refine oRegion rfl ?_
  refine oOp (.d (.bool false)) (by kernel_rfl) (by kernel_rfl) (PureV.does (p_assign (by kernel_rfl))) ?_
  refine oEnd ?_
  refine oSeq ?_
  refine oRegion rfl ?_
  refine oOp (.d (.lit (List.map e_i64 l))) (by kernel_rfl) (by kernel_rfl) (PureV.does (p_move (by kernel_rfl))) ?_
  refine oOp (.d (.int .i64 ((List.length l) : Int))) (by kernel_rfl) (by kernel_rfl) (PureV.does (k_lenLit (enc := e_i64) l (by kernel_rfl) Try.underlying22)) ?_
  refine oOp (.d (.bool (decide (((List.length l) : Int) ≤ 600)))) (by kernel_rfl) (by kernel_rfl) (PureV.does (p_int (k := .i64) (p := ((List.length l) : Int)) (q := 600) (by kernel_rfl) (by kernel_rfl) (by kernel_rfl))) ?_
  refine oOp (.d (.bool (decide (((List.length l) : Int) ≤ 600)))) (by kernel_rfl) (by kernel_rfl) (PureV.does (p_assign (by kernel_rfl))) ?_
  refine oEnd ?_
  exact oRet (r0 := ()) (rv := .d (.bool (decide (((List.length l) : Int) ≤ 600)))) (B := []) (vs := [.d (.bool (decide (((List.length l) : Int) ≤ 600)))]) (σ := []) (by kernel_rfl) Try.func6 rfl (.cons _ _ _ _ (.tmp 2 _ (by kernel_rfl)) .nil) (by kernel_rfl) (by kernel_rfl) (by kernel_rfl) (by kernel_rfl) (by decide) (by kernel_rfl) (by kernel_rfl)

/-- awardingbody/awardingbodylaw33.whole -/
def law33_whole (k : Nat) (n : Int) : Option (Unit) := some ()
def law33_whole_E (n : Int) : Unit → V × List Blk := u0 ((.agg [.d (.int .i64 n), .d (.int .i64 1)], []))
theorem law33_whole_goes (k : Nat) (n : Int) : RunsO Try.prog 18 [.d (.int .i64 n)] [] (law33_whole_E n) (law33_whole k n) := by
  refine RunsO.of_goes (N := 5) (m := 0) (T := [(0, .d (.int .i64 n))]) Try.func18 rfl rfl (by kernel_rfl) (by kernel_rfl) (by kernel_rfl) ?_
  unfold law33_whole
  refine bStart ?_
  refine oSeq ?_
  refine oRegion rfl ?_
  refine oOp (.ptr 0 0) (by kernel_rfl) (by kernel_rfl) (k_alloc (H' := [.box [.d (.int .i64 0), .d (.int .i64 0)]]) ty37 (by kernel_rfl) (by kernel_rfl)) ?_
  refine oEnd ?_
  refine oSeq ?_
  refine oRegion rfl ?_
  refine oOp (.d (.int .i64 n)) (by kernel_rfl) (by kernel_rfl) (PureV.does (p_move (by kernel_rfl))) ?_
  refine oOp (.agg [.d (.int .i64 n), .d (.int .i64 1)]) (by kernel_rfl) (by kernel_rfl) (PureV.does (p_build bld37 (by kernel_rfl))) ?_
  refine oOp (.undef) (by kernel_rfl) (by kernel_rfl) (k_store (vs := [.d (.int .i64 n), .d (.int .i64 1)]) (H' := [.box [.d (.int .i64 n), .d (.int .i64 1)]]) 0 0 (by kernel_rfl) ty37 (by kernel_rfl) (by kernel_rfl) (by kernel_rfl)) ?_
  refine oEnd ?_
  exact oRet (r0 := ()) (rv := .agg [.d (.int .i64 n), .d (.int .i64 1)]) (B := []) (vs := [.agg [.d (.int .i64 n), .d (.int .i64 1)]]) (σ := []) (by kernel_rfl) Try.func18 rfl (.cons _ _ _ _ (.agg 2 37 0 0 [.d (.int .i64 n), .d (.int .i64 1)] [.d (.int .i64 n), .d (.int .i64 1)] _ _ _ _ (by kernel_rfl) (by kernel_rfl) Try.underlying37 (by kernel_rfl) ty37 (by kernel_rfl) (by kernel_rfl)) .nil) (by kernel_rfl) (by kernel_rfl) (by kernel_rfl) (by kernel_rfl) (by decide) (by kernel_rfl) (by kernel_rfl)

/-- awardingbody/ratio.abs -/
def ratio_abs (k : Nat) (n : Int) : Option (Int) := bif (decide (n < 0)) then some (IntKind.wrap .u64 (IntKind.wrap .i64 (0 - n))) else some (IntKind.wrap .u64 n)
def ratio_abs_E (n : Int) : Int → V × List Blk := fun r1 => (.d (.int .u64 r1), [])
theorem ratio_abs_goes (k : Nat) (n : Int) : RunsO Try.prog 36 [.d (.int .i64 n)] [] (ratio_abs_E n) (ratio_abs k n) := by
  refine RunsO.of_goes (N := 10) (m := 0) (T := [(0, .d (.int .i64 n))]) Try.func36 rfl rfl (by kernel_rfl) (by kernel_rfl) (by kernel_rfl) ?_
  unfold ratio_abs
  refine bStart ?_
  refine oSeq ?_
  refine oRegion rfl ?_
  refine oOp (.d (.int .u64 0)) (by kernel_rfl) (by kernel_rfl) (PureV.does (p_assign (by kernel_rfl))) ?_
  refine oEnd ?_
  refine oSeq ?_
  refine oSeq ?_
  refine oRegion rfl ?_
  refine oOp (.d (.int .i64 n)) (by kernel_rfl) (by kernel_rfl) (PureV.does (p_move (by kernel_rfl))) ?_
  refine oOp (.d (.bool (decide (n < 0)))) (by kernel_rfl) (by kernel_rfl) (PureV.does (p_int (k := .i64) (p := n) (q := 0) (by kernel_rfl) (by kernel_rfl) (by kernel_rfl))) ?_
  refine oEnd ?_
  refine bSplit 4 (by kernel_rfl) (fun hc => ?_) (fun hc => ?_)
  ·refine oCondT (by kernel_rfl) ?_
   refine oSeq ?_
   refine oRegion rfl ?_
   refine oOp (.d (.int .i64 n)) (by kernel_rfl) (by kernel_rfl) (PureV.does (p_move (by kernel_rfl))) ?_
   refine oOp (.d (.int .i64 (IntKind.wrap .i64 (0 - n)))) (by kernel_rfl) (by kernel_rfl) (PureV.does (p_neg (k := .i64) (p := n) (by kernel_rfl) (by kernel_rfl))) ?_
   refine oOp (.d (.int .u64 (IntKind.wrap .u64 (IntKind.wrap .i64 (0 - n))))) (by kernel_rfl) (by kernel_rfl) (PureV.does (p_conv (k := .i64) (p := (IntKind.wrap .i64 (0 - n))) (by kernel_rfl) Try.underlying3 Try.underlying64 (by kernel_rfl))) ?_
   refine oOp (.d (.int .u64 (IntKind.wrap .u64 (IntKind.wrap .i64 (0 - n))))) (by kernel_rfl) (by kernel_rfl) (PureV.does (p_assign (by kernel_rfl))) ?_
   refine oEnd ?_
   exact oRet (r0 := (IntKind.wrap .u64 (IntKind.wrap .i64 (0 - n)))) (rv := .d (.int .u64 (IntKind.wrap .u64 (IntKind.wrap .i64 (0 - n))))) (B := []) (vs := [.d (.int .u64 (IntKind.wrap .u64 (IntKind.wrap .i64 (0 - n))))]) (σ := []) (by kernel_rfl) Try.func36 rfl (.cons _ _ _ _ (.tmp 2 _ (by kernel_rfl)) .nil) (by kernel_rfl) (by kernel_rfl) (by kernel_rfl) (by kernel_rfl) (by decide) (by kernel_rfl) (by kernel_rfl)
  ·refine oCondF (by kernel_rfl) ?_
   refine oSkip ?_
   refine oSeq ?_
   refine oRegion rfl ?_
   refine oOp (.d (.int .i64 n)) (by kernel_rfl) (by kernel_rfl) (PureV.does (p_move (by kernel_rfl))) ?_
   refine oOp (.d (.int .u64 (IntKind.wrap .u64 n))) (by kernel_rfl) (by kernel_rfl) (PureV.does (p_conv (k := .i64) (p := n) (by kernel_rfl) Try.underlying3 Try.underlying64 (by kernel_rfl))) ?_
   refine oOp (.d (.int .u64 (IntKind.wrap .u64 n))) (by kernel_rfl) (by kernel_rfl) (PureV.does (p_assign (by kernel_rfl))) ?_
   refine oEnd ?_
   exact oRet (r0 := (IntKind.wrap .u64 n)) (rv := .d (.int .u64 (IntKind.wrap .u64 n))) (B := []) (vs := [.d (.int .u64 (IntKind.wrap .u64 n))]) (σ := []) (by kernel_rfl) Try.func36 rfl (.cons _ _ _ _ (.tmp 2 _ (by kernel_rfl)) .nil) (by kernel_rfl) (by kernel_rfl) (by kernel_rfl) (by kernel_rfl) (by decide) (by kernel_rfl) (by kernel_rfl)

/-- awardingbody/ratio.gcd -/
def ratio_gcd_b1 (k : Nat) (again : Int × Int → Option (Int)) : Int × Int → Option (Int) := uc fun a7 => fun b5 => bif (b5 != 0) then gnz b5 (again (b5, (Int.tmod a7 b5))) else some a7
def ratio_gcd (k : Nat) (a : Int) (b : Int) : Option (Int) := Option.bind (gloop (ratio_gcd_b1 k) k (a, b) : Option (Int)) (fun a6 => some a6)
def ratio_gcd_E (a : Int) (b : Int) : Int → V × List Blk := fun r1 => (.d (.int .u64 r1), [])
theorem ratio_gcd_goes (k : Nat) (a : Int) (b : Int) : RunsO Try.prog 35 [.d (.int .u64 a), .d (.int .u64 b)] [] (ratio_gcd_E a b) (ratio_gcd k a b) := by
  refine RunsO.of_goes (N := 12) (m := 0) (T := [(0, .d (.int .u64 a)), (1, .d (.int .u64 b))]) Try.func35 rfl rfl (by kernel_rfl) (by kernel_rfl) (by kernel_rfl) ?_
  unfold ratio_gcd
  refine bStart ?_
  refine oSeq ?_
  refine oRegion rfl ?_
  refine oOp (.d (.int .u64 0)) (by kernel_rfl) (by kernel_rfl) (PureV.does (p_assign (by kernel_rfl))) ?_
  refine oEnd ?_
  refine oSeq ?_
  refine bJoin ((fun (a6 : Int) => [(0, .d (.int .u64 a6))])) ((fun (a6 : Int) => [])) (fun s => s) (fun a6 => ?_) (fun hj2 => ?_)
  ·refine oView (T' := [(0, .d (.int .u64 a6))]) (H' := []) (by kernel_rfl) (by kernel_rfl) ?_
   refine oSeq ?_
   refine oRegion rfl ?_
   refine oOp (.d (.int .u64 a6)) (by kernel_rfl) (by kernel_rfl) (PureV.does (p_move (by kernel_rfl))) ?_
   refine oOp (.d (.int .u64 a6)) (by kernel_rfl) (by kernel_rfl) (PureV.does (p_assign (by kernel_rfl))) ?_
   refine oEnd ?_
   exact oRet (r0 := a6) (rv := .d (.int .u64 a6)) (B := []) (vs := [.d (.int .u64 a6)]) (σ := []) (by kernel_rfl) Try.func35 rfl (.cons _ _ _ _ (.tmp 4 _ (by kernel_rfl)) .nil) (by kernel_rfl) (by kernel_rfl) (by kernel_rfl) (by kernel_rfl) (by decide) (by kernel_rfl) (by kernel_rfl)
  ·refine oBlock ?_
   refine oLoop ?_
   refine oHead [0, 1] [] (T' := [(0, .d (.int .u64 a)), (1, .d (.int .u64 b))]) (H' := []) (by kernel_rfl) (by kernel_rfl) (by kernel_rfl) (by kernel_rfl) (by decide) (by kernel_rfl) (by kernel_rfl) ?_
   refine bLoop (body := ratio_gcd_b1 k) ((uc fun (a7 : Int) => (fun (b5 : Int) => [(0, .d (.int .u64 a7)), (1, .d (.int .u64 b5))]))) ((uc fun (a7 : Int) => (fun (b5 : Int) => []))) (fun again hag1 s => ?_) k (a, b)
   ·unfold ratio_gcd_b1
    obtain ⟨a7, b5⟩ := s
    refine bUc ?_
    refine oView (T' := [(0, .d (.int .u64 a7)), (1, .d (.int .u64 b5))]) (H' := []) (by kernel_rfl) (by kernel_rfl) ?_
    refine oSeq ?_
    refine oSeq ?_
    refine oRegion rfl ?_
    refine oOp (.d (.int .u64 b5)) (by kernel_rfl) (by kernel_rfl) (PureV.does (p_move (by kernel_rfl))) ?_
    refine oOp (.d (.bool (b5 != 0))) (by kernel_rfl) (by kernel_rfl) (PureV.does (p_int (k := .u64) (p := b5) (q := 0) (by kernel_rfl) (by kernel_rfl) (by kernel_rfl))) ?_
    refine oEnd ?_
    refine bSplit 6 (by kernel_rfl) (fun hc => ?_) (fun hc => ?_)
    ·refine oCondT (by kernel_rfl) ?_
     refine oSkip ?_
     refine oBlock ?_
     refine oDraw [] rfl ?_
     refine aTakeL (i := 0) (st' := []) (.d (.int .u64 b5)) rfl (by kernel_rfl) (by kernel_rfl) (by kernel_rfl) (by kernel_rfl) (by kernel_rfl) (by kernel_rfl) (by kernel_rfl) (PureV.quiet (p_move (by kernel_rfl)) []) ?_
     refine aTakeL (i := 1) (st' := []) (.d (.int .u64 a7)) rfl (by kernel_rfl) (by kernel_rfl) (by kernel_rfl) (by kernel_rfl) (by kernel_rfl) (by kernel_rfl) (by kernel_rfl) (PureV.quiet (p_move (by kernel_rfl)) []) ?_
     refine aTakeL (i := 2) (st' := []) (.d (.int .u64 b5)) rfl (by kernel_rfl) (by kernel_rfl) (by kernel_rfl) (by kernel_rfl) (by kernel_rfl) (by kernel_rfl) (by kernel_rfl) (PureV.quiet (p_move (by kernel_rfl)) []) ?_
     refine dNz (fun h1 => ?_)
     refine aTakeP (i := 3) (.d (.int .u64 (Int.tmod a7 b5))) rfl (by kernel_rfl) (by kernel_rfl) (by kernel_rfl) (by kernel_rfl) (by kernel_rfl) (by kernel_rfl) (by kernel_rfl) (p_rem (k := .u64) (p := a7) (q := b5) (by kernel_rfl) (by kernel_rfl) h1 (by kernel_rfl)) ?_
     refine aTakeL (i := 4) (st' := []) (.d (.int .u64 b5)) rfl (by kernel_rfl) (by kernel_rfl) (by kernel_rfl) (by kernel_rfl) (by kernel_rfl) (by kernel_rfl) (by kernel_rfl) (PureV.quiet (p_assign (by kernel_rfl)) []) ?_
     refine aTakeL (i := 5) (st' := []) (.d (.int .u64 (Int.tmod a7 b5))) rfl (by kernel_rfl) (by kernel_rfl) (by kernel_rfl) (by kernel_rfl) (by kernel_rfl) (by kernel_rfl) (by kernel_rfl) (PureV.quiet (p_assign (by kernel_rfl)) []) ?_
     refine aDone (by kernel_rfl) ?_
     refine oBlk ?_
     refine oAgain ?_
     refine oHead [0, 1] [] (T' := [(0, .d (.int .u64 b5)), (1, .d (.int .u64 (Int.tmod a7 b5)))]) (H' := []) (by kernel_rfl) (by kernel_rfl) (by kernel_rfl) (by kernel_rfl) (by decide) (by kernel_rfl) (by kernel_rfl) ?_
     exact hag1 (b5, (Int.tmod a7 b5))
    ·refine oCondF (by kernel_rfl) ?_
     refine oExit rfl ?_
     refine oHead [0] [] (T' := [(0, .d (.int .u64 a7))]) (H' := []) (by kernel_rfl) (by kernel_rfl) (by kernel_rfl) (by kernel_rfl) (by decide) (by kernel_rfl) (by kernel_rfl) ?_
     exact hj2 a7

/-- awardingbody/ratio.Valid -/
def ratio_Valid (k : Nat) (a0 : Int) (a1 : Int) : Option (Bool) := blet ((decide (a1 ≥ 1)) && (decide (a1 ≤ 1152921504606846976))) fun x12 => blet (x12 && (decide (a0 ≥ (-1152921504606846976)))) fun x13 => blet (x13 && (decide (a0 ≤ 1152921504606846976))) fun x14 => Option.bind (bif x14 then Option.bind (ratio_abs k a0) (fun r1 => Option.bind (ratio_gcd k r1 (IntKind.wrap .u64 a1)) (fun r11 => some (r11 == 1))) else some false : Option Bool) (fun x15 => some x15)
def ratio_Valid_E (a0 : Int) (a1 : Int) : Bool → V × List Blk := fun r12 => (.d (.bool r12), [])
theorem ratio_Valid_goes (k : Nat) (a0 : Int) (a1 : Int) : RunsO Try.prog 24 [.agg [.d (.int .i64 a0), .d (.int .i64 a1)]] [] (ratio_Valid_E a0 a1) (ratio_Valid k a0 a1) := by
  refine RunsO.of_goes (N := 31) (m := 0) (T := [(0, .agg [.d (.int .i64 a0), .d (.int .i64 a1)])]) Try.func24 rfl rfl (by kernel_rfl) (by kernel_rfl) (by kernel_rfl) ?_
  unfold ratio_Valid
  refine bStart ?_
  refine oSeq ?_
  refine oRegion rfl ?_
  refine oOp (.ptr 0 0) (by kernel_rfl) (by kernel_rfl) (k_box (H' := [.box [.d (.int .i64 a0), .d (.int .i64 a1)]]) (cells := [.d (.int .i64 a0), .d (.int .i64 a1)]) (by kernel_rfl) (by kernel_rfl) (by kernel_rfl)) ?_
  refine oOp (.d (.bool false)) (by kernel_rfl) (by kernel_rfl) (PureV.does (p_assign (by kernel_rfl))) ?_
  refine oEnd ?_
  refine oSeq ?_
  refine oDraw [(0, 29)] rfl ?_
  refine aTakeL (i := 0) (st' := []) (.ptr 0 1) rfl (by kernel_rfl) (by kernel_rfl) (by kernel_rfl) (by kernel_rfl) (by kernel_rfl) (by kernel_rfl) (by kernel_rfl) (PureV.quiet (k_fieldAddr 0 0 (by kernel_rfl) Try.underlying37 rfl ty3 (by kernel_rfl)) []) ?_
  refine aTakeL (i := 1) (st' := [0]) (.d (.int .i64 a1)) rfl (by kernel_rfl) (by kernel_rfl) (by kernel_rfl) (by kernel_rfl) (by kernel_rfl) (by kernel_rfl) (by kernel_rfl) (k_load 0 1 (by kernel_rfl) Try.underlying3 (by kernel_rfl) (by kernel_rfl)) ?_
  refine aTakeL (i := 2) (st' := []) (.d (.bool (decide (a1 ≥ 1)))) rfl (by kernel_rfl) (by kernel_rfl) (by kernel_rfl) (by kernel_rfl) (by kernel_rfl) (by kernel_rfl) (by kernel_rfl) (PureV.quiet (p_int (k := .i64) (p := a1) (q := 1) (by kernel_rfl) (by kernel_rfl) (by kernel_rfl)) []) ?_
  refine aTakeL (i := 3) (st' := []) (.d (.bool (decide (a1 ≥ 1)))) rfl (by kernel_rfl) (by kernel_rfl) (by kernel_rfl) (by kernel_rfl) (by kernel_rfl) (by kernel_rfl) (by kernel_rfl) (PureV.quiet (p_move (by kernel_rfl)) []) ?_
  refine dMeetF [7, 6, 5, 4, 3, 2, 1, 0] (fun (x12 : Bool) => [(1, .ptr 0 0), (10, .d (.bool x12))]) (fun (x12 : Bool) => [(1, .ptr 0 0), (10, .d (.bool x12))]) (H' := [.box [.d (.int .i64 a0), .d (.int .i64 a1)]]) (fun x12 => ?_) (fun F hj5 => ?_)
  ·refine aTakeL (i := 8) (st' := []) (.d (.bool x12)) rfl (by kernel_rfl) (by kernel_rfl) (by kernel_rfl) (by kernel_rfl) (by kernel_rfl) (by kernel_rfl) (by kernel_rfl) (PureV.quiet (p_move (by kernel_rfl)) []) ?_
   refine dMeetF [12, 11, 10, 9, 8, 7, 6, 5, 4, 3, 2, 1, 0] (fun (x13 : Bool) => [(1, .ptr 0 0), (15, .d (.bool x13))]) (fun (x13 : Bool) => [(1, .ptr 0 0), (15, .d (.bool x13))]) (H' := [.box [.d (.int .i64 a0), .d (.int .i64 a1)]]) (fun x13 => ?_) (fun F hj6 => ?_)
   ·refine aTakeL (i := 13) (st' := []) (.d (.bool x13)) rfl (by kernel_rfl) (by kernel_rfl) (by kernel_rfl) (by kernel_rfl) (by kernel_rfl) (by kernel_rfl) (by kernel_rfl) (PureV.quiet (p_move (by kernel_rfl)) []) ?_
    refine dMeetF [17, 16, 15, 14, 13, 12, 11, 10, 9, 8, 7, 6, 5, 4, 3, 2, 1, 0] (fun (x14 : Bool) => [(1, .ptr 0 0), (20, .d (.bool x14))]) (fun (x14 : Bool) => [(1, .ptr 0 0), (20, .d (.bool x14))]) (H' := [.box [.d (.int .i64 a0), .d (.int .i64 a1)]]) (fun x14 => ?_) (fun F hj7 => ?_)
    ·refine aTakeL (i := 18) (st' := []) (.d (.bool x14)) rfl (by kernel_rfl) (by kernel_rfl) (by kernel_rfl) (by kernel_rfl) (by kernel_rfl) (by kernel_rfl) (by kernel_rfl) (PureV.quiet (p_move (by kernel_rfl)) []) ?_
     refine dMeet [27, 26, 25, 21, 24, 23, 22, 20, 19, 18, 17, 16, 15, 14, 13, 12, 11, 10, 9, 8, 7, 6, 5, 4, 3, 2, 1, 0] (fun (x15 : Bool) => [(30, .d (.bool x15))]) (fun (x15 : Bool) => [(30, .d (.bool x15))]) (fun _ => [.box [.d (.int .i64 a0), .d (.int .i64 a1)]]) (fun s => s) (fun x15 => ?_) (fun hj8 => ?_)
     ·refine aTakeL (i := 28) (st' := []) (.d (.bool x15)) rfl (by kernel_rfl) (by kernel_rfl) (by kernel_rfl) (by kernel_rfl) (by kernel_rfl) (by kernel_rfl) (by kernel_rfl) (PureV.quiet (p_assign (by kernel_rfl)) []) ?_
      refine aDone (by kernel_rfl) ?_
      exact oRet (r0 := x15) (rv := .d (.bool x15)) (B := []) (vs := [.d (.bool x15)]) (σ := []) (by kernel_rfl) Try.func24 rfl (.cons _ _ _ _ (.tmp 2 _ (by kernel_rfl)) .nil) (by kernel_rfl) (by kernel_rfl) (by kernel_rfl) (by kernel_rfl) (by decide) (by kernel_rfl) (by kernel_rfl)
     ·refine dSplit 21 (by kernel_rfl) (by kernel_rfl) (fun hc => ?_) (fun hc => ?_)
      ·refine aTakeL (i := 19) (st' := []) (.ptr 0 0) rfl (by kernel_rfl) (by kernel_rfl) (by kernel_rfl) (by kernel_rfl) (by kernel_rfl) (by kernel_rfl) (by kernel_rfl) (PureV.quiet (k_fieldAddr 0 0 (by kernel_rfl) Try.underlying37 rfl ty3 (by kernel_rfl)) []) ?_
       refine aTakeL (i := 20) (st' := [0]) (.d (.int .i64 a0)) rfl (by kernel_rfl) (by kernel_rfl) (by kernel_rfl) (by kernel_rfl) (by kernel_rfl) (by kernel_rfl) (by kernel_rfl) (k_load 0 0 (by kernel_rfl) Try.underlying3 (by kernel_rfl) (by kernel_rfl)) ?_
       refine aTakeL (i := 22) (st' := []) (.ptr 0 1) rfl (by kernel_rfl) (by kernel_rfl) (by kernel_rfl) (by kernel_rfl) (by kernel_rfl) (by kernel_rfl) (by kernel_rfl) (PureV.quiet (k_fieldAddr 0 0 (by kernel_rfl) Try.underlying37 rfl ty3 (by kernel_rfl)) []) ?_
       refine aTakeL (i := 23) (st' := [0]) (.d (.int .i64 a1)) rfl (by kernel_rfl) (by kernel_rfl) (by kernel_rfl) (by kernel_rfl) (by kernel_rfl) (by kernel_rfl) (by kernel_rfl) (k_load 0 1 (by kernel_rfl) Try.underlying3 (by kernel_rfl) (by kernel_rfl)) ?_
       refine aTakeL (i := 24) (st' := []) (.d (.int .u64 (IntKind.wrap .u64 a1))) rfl (by kernel_rfl) (by kernel_rfl) (by kernel_rfl) (by kernel_rfl) (by kernel_rfl) (by kernel_rfl) (by kernel_rfl) (PureV.quiet (p_conv (k := .i64) (p := a1) (by kernel_rfl) Try.underlying3 Try.underlying64 (by kernel_rfl)) []) ?_
       refine dCall (i := 21) (caps := []) (v := (fun (r1 : Int) => (.d (.int .u64 r1) : V))) (H' := (fun (r1 : Int) => ([.box [.d (.int .i64 a0), .d (.int .i64 a1)]] : List Blk))) [] _ (ratio_abs_goes k a0) rfl (by kernel_rfl) (by kernel_rfl) (by kernel_rfl) (by kernel_rfl) (by kernel_rfl) (by kernel_rfl) (by kernel_rfl) (by kernel_rfl) rfl (by kernel_rfl) Try.func36 rfl (by kernel_rfl) (ConvRs.refl _ _) (by kernel_rfl) (by kernel_rfl) (by kernel_rfl) (by decide) (by kernel_rfl) (by kernel_rfl) (fun _ => (by kernel_rfl)) (fun _ => (by kernel_rfl)) (fun _ => (by kernel_rfl)) (fun r1 => ?_)
       refine dCall (i := 25) (caps := []) (v := (fun (r11 : Int) => (.d (.int .u64 r11) : V))) (H' := (fun (r11 : Int) => ([.box [.d (.int .i64 a0), .d (.int .i64 a1)]] : List Blk))) [] _ (ratio_gcd_goes k r1 (IntKind.wrap .u64 a1)) rfl (by kernel_rfl) (by kernel_rfl) (by kernel_rfl) (by kernel_rfl) (by kernel_rfl) (by kernel_rfl) (by kernel_rfl) (by kernel_rfl) rfl (by kernel_rfl) Try.func35 rfl (by kernel_rfl) (ConvRs.refl _ _) (by kernel_rfl) (by kernel_rfl) (by kernel_rfl) (by decide) (by kernel_rfl) (by kernel_rfl) (fun _ => (by kernel_rfl)) (fun _ => (by kernel_rfl)) (fun _ => (by kernel_rfl)) (fun r11 => ?_)
       refine aTakeL (i := 26) (st' := []) (.d (.bool (r11 == 1))) rfl (by kernel_rfl) (by kernel_rfl) (by kernel_rfl) (by kernel_rfl) (by kernel_rfl) (by kernel_rfl) (by kernel_rfl) (PureV.quiet (p_int (k := .u64) (p := r11) (q := 1) (by kernel_rfl) (by kernel_rfl) (by kernel_rfl)) []) ?_
       refine aTakeL (i := 27) (st' := []) (.d (.bool (r11 == 1))) rfl (by kernel_rfl) (by kernel_rfl) (by kernel_rfl) (by kernel_rfl) (by kernel_rfl) (by kernel_rfl) (by kernel_rfl) (PureV.quiet (p_pick (b := true) (by kernel_rfl) (by kernel_rfl)) []) ?_
       refine dDrop [30] [30] (T' := [(30, .d (.bool (r11 == 1)))]) (U' := [(30, .d (.bool (r11 == 1)))]) (by kernel_rfl) (by kernel_rfl) ?_
       exact hj8 (r11 == 1)
      ·refine aTakeNot (i := 19) rfl (by kernel_rfl) (by kernel_rfl) (by kernel_rfl) (by kernel_rfl) (by kernel_rfl) (by kernel_rfl) (by kernel_rfl) ?_
       refine aTakeNot (i := 20) rfl (by kernel_rfl) (by kernel_rfl) (by kernel_rfl) (by kernel_rfl) (by kernel_rfl) (by kernel_rfl) (by kernel_rfl) ?_
       refine aTakeNot (i := 21) rfl (by kernel_rfl) (by kernel_rfl) (by kernel_rfl) (by kernel_rfl) (by kernel_rfl) (by kernel_rfl) (by kernel_rfl) ?_
       refine aTakeNot (i := 22) rfl (by kernel_rfl) (by kernel_rfl) (by kernel_rfl) (by kernel_rfl) (by kernel_rfl) (by kernel_rfl) (by kernel_rfl) ?_
       refine aTakeNot (i := 23) rfl (by kernel_rfl) (by kernel_rfl) (by kernel_rfl) (by kernel_rfl) (by kernel_rfl) (by kernel_rfl) (by kernel_rfl) ?_
       refine aTakeNot (i := 24) rfl (by kernel_rfl) (by kernel_rfl) (by kernel_rfl) (by kernel_rfl) (by kernel_rfl) (by kernel_rfl) (by kernel_rfl) ?_
       refine aTakeNot (i := 25) rfl (by kernel_rfl) (by kernel_rfl) (by kernel_rfl) (by kernel_rfl) (by kernel_rfl) (by kernel_rfl) (by kernel_rfl) ?_
       refine aTakeNot (i := 26) rfl (by kernel_rfl) (by kernel_rfl) (by kernel_rfl) (by kernel_rfl) (by kernel_rfl) (by kernel_rfl) (by kernel_rfl) ?_
       refine aTakeL (i := 27) (st' := []) (.d (.bool false)) rfl (by kernel_rfl) (by kernel_rfl) (by kernel_rfl) (by kernel_rfl) (by kernel_rfl) (by kernel_rfl) (by kernel_rfl) (PureV.quiet (p_pick (b := false) (by kernel_rfl) (by kernel_rfl)) []) ?_
       refine dDrop [30] [30] (T' := [(30, .d (.bool false))]) (U' := [(30, .d (.bool false))]) (by kernel_rfl) (by kernel_rfl) ?_
       refine dLv [27, 26, 25, 21, 24, 23, 22, 20, 19, 18, 17, 16, 15, 14, 13, 12, 11, 10, 9, 8, 7, 6, 5, 4, 3, 2, 1, 0] (by kernel_rfl) ?_
       exact hj8 false
    ·refine dPickF 16 (fun c => F (c && (decide (a0 ≤ 1152921504606846976)))) (by kernel_rfl) (by kernel_rfl) (fun hc => ?_) (fun hc => ?_)
     ·refine aTakeL (i := 14) (st' := []) (.ptr 0 0) rfl (by kernel_rfl) (by kernel_rfl) (by kernel_rfl) (by kernel_rfl) (by kernel_rfl) (by kernel_rfl) (by kernel_rfl) (PureV.quiet (k_fieldAddr 0 0 (by kernel_rfl) Try.underlying37 rfl ty3 (by kernel_rfl)) []) ?_
      refine aTakeL (i := 15) (st' := [0]) (.d (.int .i64 a0)) rfl (by kernel_rfl) (by kernel_rfl) (by kernel_rfl) (by kernel_rfl) (by kernel_rfl) (by kernel_rfl) (by kernel_rfl) (k_load 0 0 (by kernel_rfl) Try.underlying3 (by kernel_rfl) (by kernel_rfl)) ?_
      refine aTakeL (i := 16) (st' := []) (.d (.bool (decide (a0 ≤ 1152921504606846976)))) rfl (by kernel_rfl) (by kernel_rfl) (by kernel_rfl) (by kernel_rfl) (by kernel_rfl) (by kernel_rfl) (by kernel_rfl) (PureV.quiet (p_int (k := .i64) (p := a0) (q := 1152921504606846976) (by kernel_rfl) (by kernel_rfl) (by kernel_rfl)) []) ?_
      refine aTakeL (i := 17) (st' := []) (.d (.bool (decide (a0 ≤ 1152921504606846976)))) rfl (by kernel_rfl) (by kernel_rfl) (by kernel_rfl) (by kernel_rfl) (by kernel_rfl) (by kernel_rfl) (by kernel_rfl) (PureV.quiet (p_pick (b := true) (by kernel_rfl) (by kernel_rfl)) []) ?_
      refine dDrop [1, 20] [1, 20] (T' := [(1, .ptr 0 0), (20, .d (.bool (decide (a0 ≤ 1152921504606846976))))]) (U' := [(1, .ptr 0 0), (20, .d (.bool (decide (a0 ≤ 1152921504606846976))))]) (by kernel_rfl) (by kernel_rfl) ?_
      exact hj7 (decide (a0 ≤ 1152921504606846976))
     ·refine aTakeNot (i := 14) rfl (by kernel_rfl) (by kernel_rfl) (by kernel_rfl) (by kernel_rfl) (by kernel_rfl) (by kernel_rfl) (by kernel_rfl) ?_
      refine aTakeNot (i := 15) rfl (by kernel_rfl) (by kernel_rfl) (by kernel_rfl) (by kernel_rfl) (by kernel_rfl) (by kernel_rfl) (by kernel_rfl) ?_
      refine aTakeNot (i := 16) rfl (by kernel_rfl) (by kernel_rfl) (by kernel_rfl) (by kernel_rfl) (by kernel_rfl) (by kernel_rfl) (by kernel_rfl) ?_
      refine aTakeL (i := 17) (st' := []) (.d (.bool false)) rfl (by kernel_rfl) (by kernel_rfl) (by kernel_rfl) (by kernel_rfl) (by kernel_rfl) (by kernel_rfl) (by kernel_rfl) (PureV.quiet (p_pick (b := false) (by kernel_rfl) (by kernel_rfl)) []) ?_
      refine dDrop [1, 20] [1, 20] (T' := [(1, .ptr 0 0), (20, .d (.bool false))]) (U' := [(1, .ptr 0 0), (20, .d (.bool false))]) (by kernel_rfl) (by kernel_rfl) ?_
      exact hj7 false
   ·refine dPickF 11 (fun c => F (c && (decide (a0 ≥ (-1152921504606846976))))) (by kernel_rfl) (by kernel_rfl) (fun hc => ?_) (fun hc => ?_)
    ·refine aTakeL (i := 9) (st' := []) (.ptr 0 0) rfl (by kernel_rfl) (by kernel_rfl) (by kernel_rfl) (by kernel_rfl) (by kernel_rfl) (by kernel_rfl) (by kernel_rfl) (PureV.quiet (k_fieldAddr 0 0 (by kernel_rfl) Try.underlying37 rfl ty3 (by kernel_rfl)) []) ?_
     refine aTakeL (i := 10) (st' := [0]) (.d (.int .i64 a0)) rfl (by kernel_rfl) (by kernel_rfl) (by kernel_rfl) (by kernel_rfl) (by kernel_rfl) (by kernel_rfl) (by kernel_rfl) (k_load 0 0 (by kernel_rfl) Try.underlying3 (by kernel_rfl) (by kernel_rfl)) ?_
     refine aTakeL (i := 11) (st' := []) (.d (.bool (decide (a0 ≥ (-1152921504606846976))))) rfl (by kernel_rfl) (by kernel_rfl) (by kernel_rfl) (by kernel_rfl) (by kernel_rfl) (by kernel_rfl) (by kernel_rfl) (PureV.quiet (p_int (k := .i64) (p := a0) (q := (-1152921504606846976)) (by kernel_rfl) (by kernel_rfl) (by kernel_rfl)) []) ?_
     refine aTakeL (i := 12) (st' := []) (.d (.bool (decide (a0 ≥ (-1152921504606846976))))) rfl (by kernel_rfl) (by kernel_rfl) (by kernel_rfl) (by kernel_rfl) (by kernel_rfl) (by kernel_rfl) (by kernel_rfl) (PureV.quiet (p_pick (b := true) (by kernel_rfl) (by kernel_rfl)) []) ?_
     refine dDrop [1, 15] [1, 15] (T' := [(1, .ptr 0 0), (15, .d (.bool (decide (a0 ≥ (-1152921504606846976)))))]) (U' := [(1, .ptr 0 0), (15, .d (.bool (decide (a0 ≥ (-1152921504606846976)))))]) (by kernel_rfl) (by kernel_rfl) ?_
     exact hj6 (decide (a0 ≥ (-1152921504606846976)))
    ·refine aTakeNot (i := 9) rfl (by kernel_rfl) (by kernel_rfl) (by kernel_rfl) (by kernel_rfl) (by kernel_rfl) (by kernel_rfl) (by kernel_rfl) ?_
     refine aTakeNot (i := 10) rfl (by kernel_rfl) (by kernel_rfl) (by kernel_rfl) (by kernel_rfl) (by kernel_rfl) (by kernel_rfl) (by kernel_rfl) ?_
     refine aTakeNot (i := 11) rfl (by kernel_rfl) (by kernel_rfl) (by kernel_rfl) (by kernel_rfl) (by kernel_rfl) (by kernel_rfl) (by kernel_rfl) ?_
     refine aTakeL (i := 12) (st' := []) (.d (.bool false)) rfl (by kernel_rfl) (by kernel_rfl) (by kernel_rfl) (by kernel_rfl) (by kernel_rfl) (by kernel_rfl) (by kernel_rfl) (PureV.quiet (p_pick (b := false) (by kernel_rfl) (by kernel_rfl)) []) ?_
     refine dDrop [1, 15] [1, 15] (T' := [(1, .ptr 0 0), (15, .d (.bool false))]) (U' := [(1, .ptr 0 0), (15, .d (.bool false))]) (by kernel_rfl) (by kernel_rfl) ?_
     exact hj6 false
  ·refine dPickF 6 (fun c => F (c && (decide (a1 ≤ 1152921504606846976)))) (by kernel_rfl) (by kernel_rfl) (fun hc => ?_) (fun hc => ?_)
   ·refine aTakeL (i := 4) (st' := []) (.ptr 0 1) rfl (by kernel_rfl) (by kernel_rfl) (by kernel_rfl) (by kernel_rfl) (by kernel_rfl) (by kernel_rfl) (by kernel_rfl) (PureV.quiet (k_fieldAddr 0 0 (by kernel_rfl) Try.underlying37 rfl ty3 (by kernel_rfl)) []) ?_
    refine aTakeL (i := 5) (st' := [0]) (.d (.int .i64 a1)) rfl (by kernel_rfl) (by kernel_rfl) (by kernel_rfl) (by kernel_rfl) (by kernel_rfl) (by kernel_rfl) (by kernel_rfl) (k_load 0 1 (by kernel_rfl) Try.underlying3 (by kernel_rfl) (by kernel_rfl)) ?_
    refine aTakeL (i := 6) (st' := []) (.d (.bool (decide (a1 ≤ 1152921504606846976)))) rfl (by kernel_rfl) (by kernel_rfl) (by kernel_rfl) (by kernel_rfl) (by kernel_rfl) (by kernel_rfl) (by kernel_rfl) (PureV.quiet (p_int (k := .i64) (p := a1) (q := 1152921504606846976) (by kernel_rfl) (by kernel_rfl) (by kernel_rfl)) []) ?_
    refine aTakeL (i := 7) (st' := []) (.d (.bool (decide (a1 ≤ 1152921504606846976)))) rfl (by kernel_rfl) (by kernel_rfl) (by kernel_rfl) (by kernel_rfl) (by kernel_rfl) (by kernel_rfl) (by kernel_rfl) (PureV.quiet (p_pick (b := true) (by kernel_rfl) (by kernel_rfl)) []) ?_
    refine dDrop [1, 10] [1, 10] (T' := [(1, .ptr 0 0), (10, .d (.bool (decide (a1 ≤ 1152921504606846976))))]) (U' := [(1, .ptr 0 0), (10, .d (.bool (decide (a1 ≤ 1152921504606846976))))]) (by kernel_rfl) (by kernel_rfl) ?_
    exact hj5 (decide (a1 ≤ 1152921504606846976))
   ·refine aTakeNot (i := 4) rfl (by kernel_rfl) (by kernel_rfl) (by kernel_rfl) (by kernel_rfl) (by kernel_rfl) (by kernel_rfl) (by kernel_rfl) ?_
    refine aTakeNot (i := 5) rfl (by kernel_rfl) (by kernel_rfl) (by kernel_rfl) (by kernel_rfl) (by kernel_rfl) (by kernel_rfl) (by kernel_rfl) ?_
    refine aTakeNot (i := 6) rfl (by kernel_rfl) (by kernel_rfl) (by kernel_rfl) (by kernel_rfl) (by kernel_rfl) (by kernel_rfl) (by kernel_rfl) ?_
    refine aTakeL (i := 7) (st' := []) (.d (.bool false)) rfl (by kernel_rfl) (by kernel_rfl) (by kernel_rfl) (by kernel_rfl) (by kernel_rfl) (by kernel_rfl) (by kernel_rfl) (PureV.quiet (p_pick (b := false) (by kernel_rfl) (by kernel_rfl)) []) ?_
    refine dDrop [1, 10] [1, 10] (T' := [(1, .ptr 0 0), (10, .d (.bool false))]) (U' := [(1, .ptr 0 0), (10, .d (.bool false))]) (by kernel_rfl) (by kernel_rfl) ?_
    exact hj5 false

/-- math/bits.Mul64 -/
def math_bits_Mul64 (k : Nat) (x : Int) (y : Int) : Option (Int × Int) := some ((IntKind.wrap .u64 ((IntKind.wrap .u64 ((IntKind.wrap .u64 ((Int.fdiv x (2 ^ (min (Int.toNat 32) (IntKind.bits .u64)))) * (Int.fdiv y (2 ^ (min (Int.toNat 32) (IntKind.bits .u64)))))) + (Int.fdiv (IntKind.wrap .u64 ((IntKind.wrap .u64 ((Int.fdiv x (2 ^ (min (Int.toNat 32) (IntKind.bits .u64)))) * (iand .u64 y 4294967295))) + (Int.fdiv (IntKind.wrap .u64 ((iand .u64 x 4294967295) * (iand .u64 y 4294967295))) (2 ^ (min (Int.toNat 32) (IntKind.bits .u64)))))) (2 ^ (min (Int.toNat 32) (IntKind.bits .u64)))))) + (Int.fdiv (IntKind.wrap .u64 ((iand .u64 (IntKind.wrap .u64 ((IntKind.wrap .u64 ((Int.fdiv x (2 ^ (min (Int.toNat 32) (IntKind.bits .u64)))) * (iand .u64 y 4294967295))) + (Int.fdiv (IntKind.wrap .u64 ((iand .u64 x 4294967295) * (iand .u64 y 4294967295))) (2 ^ (min (Int.toNat 32) (IntKind.bits .u64)))))) 4294967295) + (IntKind.wrap .u64 ((iand .u64 x 4294967295) * (Int.fdiv y (2 ^ (min (Int.toNat 32) (IntKind.bits .u64)))))))) (2 ^ (min (Int.toNat 32) (IntKind.bits .u64)))))), (IntKind.wrap .u64 (x * y)))
def math_bits_Mul64_E (x : Int) (y : Int) : Int × Int → V × List Blk := uc fun r1 => fun r11 => (.tuple [.d (.int .u64 r1), .d (.int .u64 r11)], [])
theorem math_bits_Mul64_goes (k : Nat) (x : Int) (y : Int) : RunsO Try.prog 59 [.d (.int .u64 x), .d (.int .u64 y)] [] (math_bits_Mul64_E x y) (math_bits_Mul64 k x y) := by
  refine RunsO.of_goes (N := 51) (m := 0) (T := [(0, .d (.int .u64 x)), (1, .d (.int .u64 y))]) Try.func59 rfl rfl (by kernel_rfl) (by kernel_rfl) (by kernel_rfl) ?_
  unfold math_bits_Mul64
  refine bStart ?_
  refine oSeq ?_
  refine oRegion rfl ?_
  refine oOp (.d (.int .u64 0)) (by kernel_rfl) (by kernel_rfl) (PureV.does (p_assign (by kernel_rfl))) ?_
  refine oOp (.d (.int .u64 0)) (by kernel_rfl) (by kernel_rfl) (PureV.does (p_assign (by kernel_rfl))) ?_
  refine oEnd ?_
  refine oSeq ?_
  refine oRegion rfl ?_
  refine oOp (.d (.int .u64 x)) (by kernel_rfl) (by kernel_rfl) (PureV.does (p_move (by kernel_rfl))) ?_
  refine oOp (.d (.int .u64 (iand .u64 x 4294967295))) (by kernel_rfl) (by kernel_rfl) (PureV.does (p_int (k := .u64) (p := x) (q := 4294967295) (by kernel_rfl) (by kernel_rfl) (by kernel_rfl))) ?_
  refine oOp (.d (.int .u64 (iand .u64 x 4294967295))) (by kernel_rfl) (by kernel_rfl) (PureV.does (p_assign (by kernel_rfl))) ?_
  refine oEnd ?_
  refine oSeq ?_
  refine oRegion rfl ?_
  refine oOp (.d (.int .u64 x)) (by kernel_rfl) (by kernel_rfl) (PureV.does (p_move (by kernel_rfl))) ?_
  refine oOp (.d (.int .u64 (Int.fdiv x (2 ^ (min (Int.toNat 32) (IntKind.bits .u64)))))) (by kernel_rfl) (by kernel_rfl) (PureV.does (p_shr (k := .u64) (k2 := .u64) (p := x) (q := 32) (by kernel_rfl) (by kernel_rfl) (by decide) (by kernel_rfl))) ?_
  refine oOp (.d (.int .u64 (Int.fdiv x (2 ^ (min (Int.toNat 32) (IntKind.bits .u64)))))) (by kernel_rfl) (by kernel_rfl) (PureV.does (p_assign (by kernel_rfl))) ?_
  refine oEnd ?_
  refine oSeq ?_
  refine oRegion rfl ?_
  refine oOp (.d (.int .u64 y)) (by kernel_rfl) (by kernel_rfl) (PureV.does (p_move (by kernel_rfl))) ?_
  refine oOp (.d (.int .u64 (iand .u64 y 4294967295))) (by kernel_rfl) (by kernel_rfl) (PureV.does (p_int (k := .u64) (p := y) (q := 4294967295) (by kernel_rfl) (by kernel_rfl) (by kernel_rfl))) ?_
  refine oOp (.d (.int .u64 (iand .u64 y 4294967295))) (by kernel_rfl) (by kernel_rfl) (PureV.does (p_assign (by kernel_rfl))) ?_
  refine oEnd ?_
  refine oSeq ?_
  refine oRegion rfl ?_
  refine oOp (.d (.int .u64 y)) (by kernel_rfl) (by kernel_rfl) (PureV.does (p_move (by kernel_rfl))) ?_
  refine oOp (.d (.int .u64 (Int.fdiv y (2 ^ (min (Int.toNat 32) (IntKind.bits .u64)))))) (by kernel_rfl) (by kernel_rfl) (PureV.does (p_shr (k := .u64) (k2 := .u64) (p := y) (q := 32) (by kernel_rfl) (by kernel_rfl) (by decide) (by kernel_rfl))) ?_
  refine oOp (.d (.int .u64 (Int.fdiv y (2 ^ (min (Int.toNat 32) (IntKind.bits .u64)))))) (by kernel_rfl) (by kernel_rfl) (PureV.does (p_assign (by kernel_rfl))) ?_
  refine oEnd ?_
  refine oSeq ?_
  refine oRegion rfl ?_
  refine oOp (.d (.int .u64 (iand .u64 x 4294967295))) (by kernel_rfl) (by kernel_rfl) (PureV.does (p_move (by kernel_rfl))) ?_
  refine oOp (.d (.int .u64 (iand .u64 y 4294967295))) (by kernel_rfl) (by kernel_rfl) (PureV.does (p_move (by kernel_rfl))) ?_
  refine oOp (.d (.int .u64 (IntKind.wrap .u64 ((iand .u64 x 4294967295) * (iand .u64 y 4294967295))))) (by kernel_rfl) (by kernel_rfl) (PureV.does (p_int (k := .u64) (p := (iand .u64 x 4294967295)) (q := (iand .u64 y 4294967295)) (by kernel_rfl) (by kernel_rfl) (by kernel_rfl))) ?_
  refine oOp (.d (.int .u64 (IntKind.wrap .u64 ((iand .u64 x 4294967295) * (iand .u64 y 4294967295))))) (by kernel_rfl) (by kernel_rfl) (PureV.does (p_assign (by kernel_rfl))) ?_
  refine oEnd ?_
  refine oSeq ?_
  refine oRegion rfl ?_
  refine oOp (.d (.int .u64 (Int.fdiv x (2 ^ (min (Int.toNat 32) (IntKind.bits .u64)))))) (by kernel_rfl) (by kernel_rfl) (PureV.does (p_move (by kernel_rfl))) ?_
  refine oOp (.d (.int .u64 (iand .u64 y 4294967295))) (by kernel_rfl) (by kernel_rfl) (PureV.does (p_move (by kernel_rfl))) ?_
  refine oOp (.d (.int .u64 (IntKind.wrap .u64 ((Int.fdiv x (2 ^ (min (Int.toNat 32) (IntKind.bits .u64)))) * (iand .u64 y 4294967295))))) (by kernel_rfl) (by kernel_rfl) (PureV.does (p_int (k := .u64) (p := (Int.fdiv x (2 ^ (min (Int.toNat 32) (IntKind.bits .u64))))) (q := (iand .u64 y 4294967295)) (by kernel_rfl) (by kernel_rfl) (by kernel_rfl))) ?_
  refine oOp (.d (.int .u64 (IntKind.wrap .u64 ((iand .u64 x 4294967295) * (iand .u64 y 4294967295))))) (by kernel_rfl) (by kernel_rfl) (PureV.does (p_move (by kernel_rfl))) ?_
  refine oOp (.d (.int .u64 (Int.fdiv (IntKind.wrap .u64 ((iand .u64 x 4294967295) * (iand .u64 y 4294967295))) (2 ^ (min (Int.toNat 32) (IntKind.bits .u64)))))) (by kernel_rfl) (by kernel_rfl) (PureV.does (p_shr (k := .u64) (k2 := .u64) (p := (IntKind.wrap .u64 ((iand .u64 x 4294967295) * (iand .u64 y 4294967295)))) (q := 32) (by kernel_rfl) (by kernel_rfl) (by decide) (by kernel_rfl))) ?_
  refine oOp (.d (.int .u64 (IntKind.wrap .u64 ((IntKind.wrap .u64 ((Int.fdiv x (2 ^ (min (Int.toNat 32) (IntKind.bits .u64)))) * (iand .u64 y 4294967295))) + (Int.fdiv (IntKind.wrap .u64 ((iand .u64 x 4294967295) * (iand .u64 y 4294967295))) (2 ^ (min (Int.toNat 32) (IntKind.bits .u64)))))))) (by kernel_rfl) (by kernel_rfl) (PureV.does (p_int (k := .u64) (p := (IntKind.wrap .u64 ((Int.fdiv x (2 ^ (min (Int.toNat 32) (IntKind.bits .u64)))) * (iand .u64 y 4294967295)))) (q := (Int.fdiv (IntKind.wrap .u64 ((iand .u64 x 4294967295) * (iand .u64 y 4294967295))) (2 ^ (min (Int.toNat 32) (IntKind.bits .u64))))) (by kernel_rfl) (by kernel_rfl) (by kernel_rfl))) ?_
  refine oOp (.d (.int .u64 (IntKind.wrap .u64 ((IntKind.wrap .u64 ((Int.fdiv x (2 ^ (min (Int.toNat 32) (IntKind.bits .u64)))) * (iand .u64 y 4294967295))) + (Int.fdiv (IntKind.wrap .u64 ((iand .u64 x 4294967295) * (iand .u64 y 4294967295))) (2 ^ (min (Int.toNat 32) (IntKind.bits .u64)))))))) (by kernel_rfl) (by kernel_rfl) (PureV.does (p_assign (by kernel_rfl))) ?_
  refine oEnd ?_
  refine oSeq ?_
  refine oRegion rfl ?_
  refine oOp (.d (.int .u64 (IntKind.wrap .u64 ((IntKind.wrap .u64 ((Int.fdiv x (2 ^ (min (Int.toNat 32) (IntKind.bits .u64)))) * (iand .u64 y 4294967295))) + (Int.fdiv (IntKind.wrap .u64 ((iand .u64 x 4294967295) * (iand .u64 y 4294967295))) (2 ^ (min (Int.toNat 32) (IntKind.bits .u64)))))))) (by kernel_rfl) (by kernel_rfl) (PureV.does (p_move (by kernel_rfl))) ?_
  refine oOp (.d (.int .u64 (iand .u64 (IntKind.wrap .u64 ((IntKind.wrap .u64 ((Int.fdiv x (2 ^ (min (Int.toNat 32) (IntKind.bits .u64)))) * (iand .u64 y 4294967295))) + (Int.fdiv (IntKind.wrap .u64 ((iand .u64 x 4294967295) * (iand .u64 y 4294967295))) (2 ^ (min (Int.toNat 32) (IntKind.bits .u64)))))) 4294967295))) (by kernel_rfl) (by kernel_rfl) (PureV.does (p_int (k := .u64) (p := (IntKind.wrap .u64 ((IntKind.wrap .u64 ((Int.fdiv x (2 ^ (min (Int.toNat 32) (IntKind.bits .u64)))) * (iand .u64 y 4294967295))) + (Int.fdiv (IntKind.wrap .u64 ((iand .u64 x 4294967295) * (iand .u64 y 4294967295))) (2 ^ (min (Int.toNat 32) (IntKind.bits .u64))))))) (q := 4294967295) (by kernel_rfl) (by kernel_rfl) (by kernel_rfl))) ?_
  refine oOp (.d (.int .u64 (iand .u64 (IntKind.wrap .u64 ((IntKind.wrap .u64 ((Int.fdiv x (2 ^ (min (Int.toNat 32) (IntKind.bits .u64)))) * (iand .u64 y 4294967295))) + (Int.fdiv (IntKind.wrap .u64 ((iand .u64 x 4294967295) * (iand .u64 y 4294967295))) (2 ^ (min (Int.toNat 32) (IntKind.bits .u64)))))) 4294967295))) (by kernel_rfl) (by kernel_rfl) (PureV.does (p_assign (by kernel_rfl))) ?_
  refine oEnd ?_
  refine oSeq ?_
  refine oRegion rfl ?_
  refine oOp (.d (.int .u64 (IntKind.wrap .u64 ((IntKind.wrap .u64 ((Int.fdiv x (2 ^ (min (Int.toNat 32) (IntKind.bits .u64)))) * (iand .u64 y 4294967295))) + (Int.fdiv (IntKind.wrap .u64 ((iand .u64 x 4294967295) * (iand .u64 y 4294967295))) (2 ^ (min (Int.toNat 32) (IntKind.bits .u64)))))))) (by kernel_rfl) (by kernel_rfl) (PureV.does (p_move (by kernel_rfl))) ?_
  refine oOp (.d (.int .u64 (Int.fdiv (IntKind.wrap .u64 ((IntKind.wrap .u64 ((Int.fdiv x (2 ^ (min (Int.toNat 32) (IntKind.bits .u64)))) * (iand .u64 y 4294967295))) + (Int.fdiv (IntKind.wrap .u64 ((iand .u64 x 4294967295) * (iand .u64 y 4294967295))) (2 ^ (min (Int.toNat 32) (IntKind.bits .u64)))))) (2 ^ (min (Int.toNat 32) (IntKind.bits .u64)))))) (by kernel_rfl) (by kernel_rfl) (PureV.does (p_shr (k := .u64) (k2 := .u64) (p := (IntKind.wrap .u64 ((IntKind.wrap .u64 ((Int.fdiv x (2 ^ (min (Int.toNat 32) (IntKind.bits .u64)))) * (iand .u64 y 4294967295))) + (Int.fdiv (IntKind.wrap .u64 ((iand .u64 x 4294967295) * (iand .u64 y 4294967295))) (2 ^ (min (Int.toNat 32) (IntKind.bits .u64))))))) (q := 32) (by kernel_rfl) (by kernel_rfl) (by decide) (by kernel_rfl))) ?_
  refine oOp (.d (.int .u64 (Int.fdiv (IntKind.wrap .u64 ((IntKind.wrap .u64 ((Int.fdiv x (2 ^ (min (Int.toNat 32) (IntKind.bits .u64)))) * (iand .u64 y 4294967295))) + (Int.fdiv (IntKind.wrap .u64 ((iand .u64 x 4294967295) * (iand .u64 y 4294967295))) (2 ^ (min (Int.toNat 32) (IntKind.bits .u64)))))) (2 ^ (min (Int.toNat 32) (IntKind.bits .u64)))))) (by kernel_rfl) (by kernel_rfl) (PureV.does (p_assign (by kernel_rfl))) ?_
  refine oEnd ?_
  refine oSeq ?_
  refine oRegion rfl ?_
  refine oOp (.d (.int .u64 (iand .u64 (IntKind.wrap .u64 ((IntKind.wrap .u64 ((Int.fdiv x (2 ^ (min (Int.toNat 32) (IntKind.bits .u64)))) * (iand .u64 y 4294967295))) + (Int.fdiv (IntKind.wrap .u64 ((iand .u64 x 4294967295) * (iand .u64 y 4294967295))) (2 ^ (min (Int.toNat 32) (IntKind.bits .u64)))))) 4294967295))) (by kernel_rfl) (by kernel_rfl) (PureV.does (p_move (by kernel_rfl))) ?_
  refine oOp (.d (.int .u64 (iand .u64 x 4294967295))) (by kernel_rfl) (by kernel_rfl) (PureV.does (p_move (by kernel_rfl))) ?_
  refine oOp (.d (.int .u64 (Int.fdiv y (2 ^ (min (Int.toNat 32) (IntKind.bits .u64)))))) (by kernel_rfl) (by kernel_rfl) (PureV.does (p_move (by kernel_rfl))) ?_
  refine oOp (.d (.int .u64 (IntKind.wrap .u64 ((iand .u64 x 4294967295) * (Int.fdiv y (2 ^ (min (Int.toNat 32) (IntKind.bits .u64)))))))) (by kernel_rfl) (by kernel_rfl) (PureV.does (p_int (k := .u64) (p := (iand .u64 x 4294967295)) (q := (Int.fdiv y (2 ^ (min (Int.toNat 32) (IntKind.bits .u64))))) (by kernel_rfl) (by kernel_rfl) (by kernel_rfl))) ?_
  refine oOp (.d (.int .u64 (IntKind.wrap .u64 ((iand .u64 (IntKind.wrap .u64 ((IntKind.wrap .u64 ((Int.fdiv x (2 ^ (min (Int.toNat 32) (IntKind.bits .u64)))) * (iand .u64 y 4294967295))) + (Int.fdiv (IntKind.wrap .u64 ((iand .u64 x 4294967295) * (iand .u64 y 4294967295))) (2 ^ (min (Int.toNat 32) (IntKind.bits .u64)))))) 4294967295) + (IntKind.wrap .u64 ((iand .u64 x 4294967295) * (Int.fdiv y (2 ^ (min (Int.toNat 32) (IntKind.bits .u64)))))))))) (by kernel_rfl) (by kernel_rfl) (PureV.does (p_int (k := .u64) (p := (iand .u64 (IntKind.wrap .u64 ((IntKind.wrap .u64 ((Int.fdiv x (2 ^ (min (Int.toNat 32) (IntKind.bits .u64)))) * (iand .u64 y 4294967295))) + (Int.fdiv (IntKind.wrap .u64 ((iand .u64 x 4294967295) * (iand .u64 y 4294967295))) (2 ^ (min (Int.toNat 32) (IntKind.bits .u64)))))) 4294967295)) (q := (IntKind.wrap .u64 ((iand .u64 x 4294967295) * (Int.fdiv y (2 ^ (min (Int.toNat 32) (IntKind.bits .u64))))))) (by kernel_rfl) (by kernel_rfl) (by kernel_rfl))) ?_
  refine oOp (.d (.int .u64 (IntKind.wrap .u64 ((iand .u64 (IntKind.wrap .u64 ((IntKind.wrap .u64 ((Int.fdiv x (2 ^ (min (Int.toNat 32) (IntKind.bits .u64)))) * (iand .u64 y 4294967295))) + (Int.fdiv (IntKind.wrap .u64 ((iand .u64 x 4294967295) * (iand .u64 y 4294967295))) (2 ^ (min (Int.toNat 32) (IntKind.bits .u64)))))) 4294967295) + (IntKind.wrap .u64 ((iand .u64 x 4294967295) * (Int.fdiv y (2 ^ (min (Int.toNat 32) (IntKind.bits .u64)))))))))) (by kernel_rfl) (by kernel_rfl) (PureV.does (p_assign (by kernel_rfl))) ?_
  refine oEnd ?_
  refine oSeq ?_
  refine oRegion rfl ?_
  refine oOp (.d (.int .u64 (Int.fdiv x (2 ^ (min (Int.toNat 32) (IntKind.bits .u64)))))) (by kernel_rfl) (by kernel_rfl) (PureV.does (p_move (by kernel_rfl))) ?_
  refine oOp (.d (.int .u64 (Int.fdiv y (2 ^ (min (Int.toNat 32) (IntKind.bits .u64)))))) (by kernel_rfl) (by kernel_rfl) (PureV.does (p_move (by kernel_rfl))) ?_
  refine oOp (.d (.int .u64 (IntKind.wrap .u64 ((Int.fdiv x (2 ^ (min (Int.toNat 32) (IntKind.bits .u64)))) * (Int.fdiv y (2 ^ (min (Int.toNat 32) (IntKind.bits .u64)))))))) (by kernel_rfl) (by kernel_rfl) (PureV.does (p_int (k := .u64) (p := (Int.fdiv x (2 ^ (min (Int.toNat 32) (IntKind.bits .u64))))) (q := (Int.fdiv y (2 ^ (min (Int.toNat 32) (IntKind.bits .u64))))) (by kernel_rfl) (by kernel_rfl) (by kernel_rfl))) ?_
  refine oOp (.d (.int .u64 (Int.fdiv (IntKind.wrap .u64 ((IntKind.wrap .u64 ((Int.fdiv x (2 ^ (min (Int.toNat 32) (IntKind.bits .u64)))) * (iand .u64 y 4294967295))) + (Int.fdiv (IntKind.wrap .u64 ((iand .u64 x 4294967295) * (iand .u64 y 4294967295))) (2 ^ (min (Int.toNat 32) (IntKind.bits .u64)))))) (2 ^ (min (Int.toNat 32) (IntKind.bits .u64)))))) (by kernel_rfl) (by kernel_rfl) (PureV.does (p_move (by kernel_rfl))) ?_
  refine oOp (.d (.int .u64 (IntKind.wrap .u64 ((IntKind.wrap .u64 ((Int.fdiv x (2 ^ (min (Int.toNat 32) (IntKind.bits .u64)))) * (Int.fdiv y (2 ^ (min (Int.toNat 32) (IntKind.bits .u64)))))) + (Int.fdiv (IntKind.wrap .u64 ((IntKind.wrap .u64 ((Int.fdiv x (2 ^ (min (Int.toNat 32) (IntKind.bits .u64)))) * (iand .u64 y 4294967295))) + (Int.fdiv (IntKind.wrap .u64 ((iand .u64 x 4294967295) * (iand .u64 y 4294967295))) (2 ^ (min (Int.toNat 32) (IntKind.bits .u64)))))) (2 ^ (min (Int.toNat 32) (IntKind.bits .u64)))))))) (by kernel_rfl) (by kernel_rfl) (PureV.does (p_int (k := .u64) (p := (IntKind.wrap .u64 ((Int.fdiv x (2 ^ (min (Int.toNat 32) (IntKind.bits .u64)))) * (Int.fdiv y (2 ^ (min (Int.toNat 32) (IntKind.bits .u64))))))) (q := (Int.fdiv (IntKind.wrap .u64 ((IntKind.wrap .u64 ((Int.fdiv x (2 ^ (min (Int.toNat 32) (IntKind.bits .u64)))) * (iand .u64 y 4294967295))) + (Int.fdiv (IntKind.wrap .u64 ((iand .u64 x 4294967295) * (iand .u64 y 4294967295))) (2 ^ (min (Int.toNat 32) (IntKind.bits .u64)))))) (2 ^ (min (Int.toNat 32) (IntKind.bits .u64))))) (by kernel_rfl) (by kernel_rfl) (by kernel_rfl))) ?_
  refine oOp (.d (.int .u64 (IntKind.wrap .u64 ((iand .u64 (IntKind.wrap .u64 ((IntKind.wrap .u64 ((Int.fdiv x (2 ^ (min (Int.toNat 32) (IntKind.bits .u64)))) * (iand .u64 y 4294967295))) + (Int.fdiv (IntKind.wrap .u64 ((iand .u64 x 4294967295) * (iand .u64 y 4294967295))) (2 ^ (min (Int.toNat 32) (IntKind.bits .u64)))))) 4294967295) + (IntKind.wrap .u64 ((iand .u64 x 4294967295) * (Int.fdiv y (2 ^ (min (Int.toNat 32) (IntKind.bits .u64)))))))))) (by kernel_rfl) (by kernel_rfl) (PureV.does (p_move (by kernel_rfl))) ?_
  refine oOp (.d (.int .u64 (Int.fdiv (IntKind.wrap .u64 ((iand .u64 (IntKind.wrap .u64 ((IntKind.wrap .u64 ((Int.fdiv x (2 ^ (min (Int.toNat 32) (IntKind.bits .u64)))) * (iand .u64 y 4294967295))) + (Int.fdiv (IntKind.wrap .u64 ((iand .u64 x 4294967295) * (iand .u64 y 4294967295))) (2 ^ (min (Int.toNat 32) (IntKind.bits .u64)))))) 4294967295) + (IntKind.wrap .u64 ((iand .u64 x 4294967295) * (Int.fdiv y (2 ^ (min (Int.toNat 32) (IntKind.bits .u64)))))))) (2 ^ (min (Int.toNat 32) (IntKind.bits .u64)))))) (by kernel_rfl) (by kernel_rfl) (PureV.does (p_shr (k := .u64) (k2 := .u64) (p := (IntKind.wrap .u64 ((iand .u64 (IntKind.wrap .u64 ((IntKind.wrap .u64 ((Int.fdiv x (2 ^ (min (Int.toNat 32) (IntKind.bits .u64)))) * (iand .u64 y 4294967295))) + (Int.fdiv (IntKind.wrap .u64 ((iand .u64 x 4294967295) * (iand .u64 y 4294967295))) (2 ^ (min (Int.toNat 32) (IntKind.bits .u64)))))) 4294967295) + (IntKind.wrap .u64 ((iand .u64 x 4294967295) * (Int.fdiv y (2 ^ (min (Int.toNat 32) (IntKind.bits .u64))))))))) (q := 32) (by kernel_rfl) (by kernel_rfl) (by decide) (by kernel_rfl))) ?_
  refine oOp (.d (.int .u64 (IntKind.wrap .u64 ((IntKind.wrap .u64 ((IntKind.wrap .u64 ((Int.fdiv x (2 ^ (min (Int.toNat 32) (IntKind.bits .u64)))) * (Int.fdiv y (2 ^ (min (Int.toNat 32) (IntKind.bits .u64)))))) + (Int.fdiv (IntKind.wrap .u64 ((IntKind.wrap .u64 ((Int.fdiv x (2 ^ (min (Int.toNat 32) (IntKind.bits .u64)))) * (iand .u64 y 4294967295))) + (Int.fdiv (IntKind.wrap .u64 ((iand .u64 x 4294967295) * (iand .u64 y 4294967295))) (2 ^ (min (Int.toNat 32) (IntKind.bits .u64)))))) (2 ^ (min (Int.toNat 32) (IntKind.bits .u64)))))) + (Int.fdiv (IntKind.wrap .u64 ((iand .u64 (IntKind.wrap .u64 ((IntKind.wrap .u64 ((Int.fdiv x (2 ^ (min (Int.toNat 32) (IntKind.bits .u64)))) * (iand .u64 y 4294967295))) + (Int.fdiv (IntKind.wrap .u64 ((iand .u64 x 4294967295) * (iand .u64 y 4294967295))) (2 ^ (min (Int.toNat 32) (IntKind.bits .u64)))))) 4294967295) + (IntKind.wrap .u64 ((iand .u64 x 4294967295) * (Int.fdiv y (2 ^ (min (Int.toNat 32) (IntKind.bits .u64)))))))) (2 ^ (min (Int.toNat 32) (IntKind.bits .u64)))))))) (by kernel_rfl) (by kernel_rfl) (PureV.does (p_int (k := .u64) (p := (IntKind.wrap .u64 ((IntKind.wrap .u64 ((Int.fdiv x (2 ^ (min (Int.toNat 32) (IntKind.bits .u64)))) * (Int.fdiv y (2 ^ (min (Int.toNat 32) (IntKind.bits .u64)))))) + (Int.fdiv (IntKind.wrap .u64 ((IntKind.wrap .u64 ((Int.fdiv x (2 ^ (min (Int.toNat 32) (IntKind.bits .u64)))) * (iand .u64 y 4294967295))) + (Int.fdiv (IntKind.wrap .u64 ((iand .u64 x 4294967295) * (iand .u64 y 4294967295))) (2 ^ (min (Int.toNat 32) (IntKind.bits .u64)))))) (2 ^ (min (Int.toNat 32) (IntKind.bits .u64))))))) (q := (Int.fdiv (IntKind.wrap .u64 ((iand .u64 (IntKind.wrap .u64 ((IntKind.wrap .u64 ((Int.fdiv x (2 ^ (min (Int.toNat 32) (IntKind.bits .u64)))) * (iand .u64 y 4294967295))) + (Int.fdiv (IntKind.wrap .u64 ((iand .u64 x 4294967295) * (iand .u64 y 4294967295))) (2 ^ (min (Int.toNat 32) (IntKind.bits .u64)))))) 4294967295) + (IntKind.wrap .u64 ((iand .u64 x 4294967295) * (Int.fdiv y (2 ^ (min (Int.toNat 32) (IntKind.bits .u64)))))))) (2 ^ (min (Int.toNat 32) (IntKind.bits .u64))))) (by kernel_rfl) (by kernel_rfl) (by kernel_rfl))) ?_
  refine oOp (.d (.int .u64 (IntKind.wrap .u64 ((IntKind.wrap .u64 ((IntKind.wrap .u64 ((Int.fdiv x (2 ^ (min (Int.toNat 32) (IntKind.bits .u64)))) * (Int.fdiv y (2 ^ (min (Int.toNat 32) (IntKind.bits .u64)))))) + (Int.fdiv (IntKind.wrap .u64 ((IntKind.wrap .u64 ((Int.fdiv x (2 ^ (min (Int.toNat 32) (IntKind.bits .u64)))) * (iand .u64 y 4294967295))) + (Int.fdiv (IntKind.wrap .u64 ((iand .u64 x 4294967295) * (iand .u64 y 4294967295))) (2 ^ (min (Int.toNat 32) (IntKind.bits .u64)))))) (2 ^ (min (Int.toNat 32) (IntKind.bits .u64)))))) + (Int.fdiv (IntKind.wrap .u64 ((iand .u64 (IntKind.wrap .u64 ((IntKind.wrap .u64 ((Int.fdiv x (2 ^ (min (Int.toNat 32) (IntKind.bits .u64)))) * (iand .u64 y 4294967295))) + (Int.fdiv (IntKind.wrap .u64 ((iand .u64 x 4294967295) * (iand .u64 y 4294967295))) (2 ^ (min (Int.toNat 32) (IntKind.bits .u64)))))) 4294967295) + (IntKind.wrap .u64 ((iand .u64 x 4294967295) * (Int.fdiv y (2 ^ (min (Int.toNat 32) (IntKind.bits .u64)))))))) (2 ^ (min (Int.toNat 32) (IntKind.bits .u64)))))))) (by kernel_rfl) (by kernel_rfl) (PureV.does (p_assign (by kernel_rfl))) ?_
  refine oEnd ?_
  refine oSeq ?_
  refine oRegion rfl ?_
  refine oOp (.d (.int .u64 x)) (by kernel_rfl) (by kernel_rfl) (PureV.does (p_move (by kernel_rfl))) ?_
  refine oOp (.d (.int .u64 y)) (by kernel_rfl) (by kernel_rfl) (PureV.does (p_move (by kernel_rfl))) ?_
  refine oOp (.d (.int .u64 (IntKind.wrap .u64 (x * y)))) (by kernel_rfl) (by kernel_rfl) (PureV.does (p_int (k := .u64) (p := x) (q := y) (by kernel_rfl) (by kernel_rfl) (by kernel_rfl))) ?_
  refine oOp (.d (.int .u64 (IntKind.wrap .u64 (x * y)))) (by kernel_rfl) (by kernel_rfl) (PureV.does (p_assign (by kernel_rfl))) ?_
  refine oEnd ?_
  exact oRet (r0 := ((IntKind.wrap .u64 ((IntKind.wrap .u64 ((IntKind.wrap .u64 ((Int.fdiv x (2 ^ (min (Int.toNat 32) (IntKind.bits .u64)))) * (Int.fdiv y (2 ^ (min (Int.toNat 32) (IntKind.bits .u64)))))) + (Int.fdiv (IntKind.wrap .u64 ((IntKind.wrap .u64 ((Int.fdiv x (2 ^ (min (Int.toNat 32) (IntKind.bits .u64)))) * (iand .u64 y 4294967295))) + (Int.fdiv (IntKind.wrap .u64 ((iand .u64 x 4294967295) * (iand .u64 y 4294967295))) (2 ^ (min (Int.toNat 32) (IntKind.bits .u64)))))) (2 ^ (min (Int.toNat 32) (IntKind.bits .u64)))))) + (Int.fdiv (IntKind.wrap .u64 ((iand .u64 (IntKind.wrap .u64 ((IntKind.wrap .u64 ((Int.fdiv x (2 ^ (min (Int.toNat 32) (IntKind.bits .u64)))) * (iand .u64 y 4294967295))) + (Int.fdiv (IntKind.wrap .u64 ((iand .u64 x 4294967295) * (iand .u64 y 4294967295))) (2 ^ (min (Int.toNat 32) (IntKind.bits .u64)))))) 4294967295) + (IntKind.wrap .u64 ((iand .u64 x 4294967295) * (Int.fdiv y (2 ^ (min (Int.toNat 32) (IntKind.bits .u64)))))))) (2 ^ (min (Int.toNat 32) (IntKind.bits .u64)))))), (IntKind.wrap .u64 (x * y)))) (rv := .tuple [.d (.int .u64 (IntKind.wrap .u64 ((IntKind.wrap .u64 ((IntKind.wrap .u64 ((Int.fdiv x (2 ^ (min (Int.toNat 32) (IntKind.bits .u64)))) * (Int.fdiv y (2 ^ (min (Int.toNat 32) (IntKind.bits .u64)))))) + (Int.fdiv (IntKind.wrap .u64 ((IntKind.wrap .u64 ((Int.fdiv x (2 ^ (min (Int.toNat 32) (IntKind.bits .u64)))) * (iand .u64 y 4294967295))) + (Int.fdiv (IntKind.wrap .u64 ((iand .u64 x 4294967295) * (iand .u64 y 4294967295))) (2 ^ (min (Int.toNat 32) (IntKind.bits .u64)))))) (2 ^ (min (Int.toNat 32) (IntKind.bits .u64)))))) + (Int.fdiv (IntKind.wrap .u64 ((iand .u64 (IntKind.wrap .u64 ((IntKind.wrap .u64 ((Int.fdiv x (2 ^ (min (Int.toNat 32) (IntKind.bits .u64)))) * (iand .u64 y 4294967295))) + (Int.fdiv (IntKind.wrap .u64 ((iand .u64 x 4294967295) * (iand .u64 y 4294967295))) (2 ^ (min (Int.toNat 32) (IntKind.bits .u64)))))) 4294967295) + (IntKind.wrap .u64 ((iand .u64 x 4294967295) * (Int.fdiv y (2 ^ (min (Int.toNat 32) (IntKind.bits .u64)))))))) (2 ^ (min (Int.toNat 32) (IntKind.bits .u64))))))), .d (.int .u64 (IntKind.wrap .u64 (x * y)))]) (B := []) (vs := [.d (.int .u64 (IntKind.wrap .u64 ((IntKind.wrap .u64 ((IntKind.wrap .u64 ((Int.fdiv x (2 ^ (min (Int.toNat 32) (IntKind.bits .u64)))) * (Int.fdiv y (2 ^ (min (Int.toNat 32) (IntKind.bits .u64)))))) + (Int.fdiv (IntKind.wrap .u64 ((IntKind.wrap .u64 ((Int.fdiv x (2 ^ (min (Int.toNat 32) (IntKind.bits .u64)))) * (iand .u64 y 4294967295))) + (Int.fdiv (IntKind.wrap .u64 ((iand .u64 x 4294967295) * (iand .u64 y 4294967295))) (2 ^ (min (Int.toNat 32) (IntKind.bits .u64)))))) (2 ^ (min (Int.toNat 32) (IntKind.bits .u64)))))) + (Int.fdiv (IntKind.wrap .u64 ((iand .u64 (IntKind.wrap .u64 ((IntKind.wrap .u64 ((Int.fdiv x (2 ^ (min (Int.toNat 32) (IntKind.bits .u64)))) * (iand .u64 y 4294967295))) + (Int.fdiv (IntKind.wrap .u64 ((iand .u64 x 4294967295) * (iand .u64 y 4294967295))) (2 ^ (min (Int.toNat 32) (IntKind.bits .u64)))))) 4294967295) + (IntKind.wrap .u64 ((iand .u64 x 4294967295) * (Int.fdiv y (2 ^ (min (Int.toNat 32) (IntKind.bits .u64)))))))) (2 ^ (min (Int.toNat 32) (IntKind.bits .u64))))))), .d (.int .u64 (IntKind.wrap .u64 (x * y)))]) (σ := []) (by kernel_rfl) Try.func59 rfl (.cons _ _ _ _ (.tmp 4 _ (by kernel_rfl)) (.cons _ _ _ _ (.tmp 5 _ (by kernel_rfl)) .nil)) (by kernel_rfl) (by kernel_rfl) (by kernel_rfl) (by kernel_rfl) (by decide) (by kernel_rfl) (by kernel_rfl)

/-- awardingbody/ratio.times -/
def ratio_times (k : Nat) (n : Int) (by1 : Int) : Option (Int × Int) := Option.bind (ratio_abs k n) (fun r14 => Option.bind (math_bits_Mul64 k r14 by1) (uc fun r15 => fun r112 => some (r15, r112)))
def ratio_times_E (n : Int) (by1 : Int) : Int × Int → V × List Blk := uc fun r12 => fun r13 => (.agg [.d (.bool (decide (n < 0))), .d (.int .u64 r12), .d (.int .u64 r13)], [])
theorem ratio_times_goes (k : Nat) (n : Int) (by1 : Int) : RunsO Try.prog 48 [.d (.int .i64 n), .d (.int .u64 by1)] [] (ratio_times_E n by1) (ratio_times k n by1) := by
  refine RunsO.of_goes (N := 19) (m := 0) (T := [(0, .d (.int .i64 n)), (1, .d (.int .u64 by1))]) Try.func48 rfl rfl (by kernel_rfl) (by kernel_rfl) (by kernel_rfl) ?_
  unfold ratio_times
  refine bStart ?_
  refine oSeq ?_
  refine oRegion rfl ?_
  refine oOp (.ptr 0 0) (by kernel_rfl) (by kernel_rfl) (k_alloc (H' := [.box [.d (.bool false), .d (.int .u64 0), .d (.int .u64 0)]]) ty80 (by kernel_rfl) (by kernel_rfl)) ?_
  refine oEnd ?_
  refine oSeq ?_
  refine oRegion rfl ?_
  refine oOp (.d (.int .i64 n)) (by kernel_rfl) (by kernel_rfl) (PureV.does (p_move (by kernel_rfl))) ?_
  refine bCall (caps := []) (v := (fun (r14 : Int) => (.d (.int .u64 r14) : V))) (H' := (fun (r14 : Int) => ([.box [.d (.bool false), .d (.int .u64 0), .d (.int .u64 0)]] : List Blk))) [] _ (ratio_abs_goes k n) (by kernel_rfl) (by kernel_rfl) rfl (by kernel_rfl) Try.func36 rfl (by kernel_rfl) (ConvRs.refl _ _) (by kernel_rfl) (by kernel_rfl) (by kernel_rfl) (by decide) (by kernel_rfl) (by kernel_rfl) (fun _ => (by kernel_rfl)) (fun _ => (by kernel_rfl)) (fun _ => (by kernel_rfl)) (fun r14 => ?_)
  refine oOp (.d (.int .u64 by1)) (by kernel_rfl) (by kernel_rfl) (PureV.does (p_move (by kernel_rfl))) ?_
  refine bCall (caps := []) (v := (uc fun (r15 : Int) => (fun (r112 : Int) => (.tuple [.d (.int .u64 r15), .d (.int .u64 r112)] : V)))) (H' := (uc fun (r15 : Int) => (fun (r112 : Int) => ([.box [.d (.bool false), .d (.int .u64 0), .d (.int .u64 0)]] : List Blk)))) [] _ (math_bits_Mul64_goes k r14 by1) (by kernel_rfl) (by kernel_rfl) rfl (by kernel_rfl) Try.func59 rfl (by kernel_rfl) (ConvRs.refl _ _) (by kernel_rfl) (by kernel_rfl) (by kernel_rfl) (by decide) (by kernel_rfl) (by kernel_rfl) (fun _ => (by kernel_rfl)) (fun _ => (by kernel_rfl)) (fun _ => (by kernel_rfl)) (fun r => ?_)
  obtain ⟨r15, r112⟩ := r
  refine bUc ?_
  refine oOp (.tuple [.d (.int .u64 r15), .d (.int .u64 r112)]) (by kernel_rfl) (by kernel_rfl) (PureV.does (p_move (by kernel_rfl))) ?_
  refine oOp (.d (.int .u64 r15)) (by kernel_rfl) (by kernel_rfl) (PureV.does (k_extract (by kernel_rfl))) ?_
  refine oOp (.d (.int .u64 r112)) (by kernel_rfl) (by kernel_rfl) (PureV.does (k_extract (by kernel_rfl))) ?_
  refine oOp (.d (.int .u64 r15)) (by kernel_rfl) (by kernel_rfl) (PureV.does (p_assign (by kernel_rfl))) ?_
  refine oOp (.d (.int .u64 r112)) (by kernel_rfl) (by kernel_rfl) (PureV.does (p_assign (by kernel_rfl))) ?_
  refine oEnd ?_
  refine oSeq ?_
  refine oRegion rfl ?_
  refine oOp (.d (.int .i64 n)) (by kernel_rfl) (by kernel_rfl) (PureV.does (p_move (by kernel_rfl))) ?_
  refine oOp (.d (.bool (decide (n < 0)))) (by kernel_rfl) (by kernel_rfl) (PureV.does (p_int (k := .i64) (p := n) (q := 0) (by kernel_rfl) (by kernel_rfl) (by kernel_rfl))) ?_
  refine oOp (.d (.int .u64 r15)) (by kernel_rfl) (by kernel_rfl) (PureV.does (p_move (by kernel_rfl))) ?_
  refine oOp (.d (.int .u64 r112)) (by kernel_rfl) (by kernel_rfl) (PureV.does (p_move (by kernel_rfl))) ?_
  refine oOp (.agg [.d (.bool (decide (n < 0))), .d (.int .u64 r15), .d (.int .u64 r112)]) (by kernel_rfl) (by kernel_rfl) (PureV.does (p_build bld80 (by kernel_rfl))) ?_
  refine oOp (.undef) (by kernel_rfl) (by kernel_rfl) (k_store (vs := [.d (.bool (decide (n < 0))), .d (.int .u64 r15), .d (.int .u64 r112)]) (H' := [.box [.d (.bool (decide (n < 0))), .d (.int .u64 r15), .d (.int .u64 r112)]]) 0 0 (by kernel_rfl) ty80 (by kernel_rfl) (by kernel_rfl) (by kernel_rfl)) ?_
  refine oEnd ?_
  exact oRet (r0 := (r15, r112)) (rv := .agg [.d (.bool (decide (n < 0))), .d (.int .u64 r15), .d (.int .u64 r112)]) (B := []) (vs := [.agg [.d (.bool (decide (n < 0))), .d (.int .u64 r15), .d (.int .u64 r112)]]) (σ := []) (by kernel_rfl) Try.func48 rfl (.cons _ _ _ _ (.agg 4 80 0 0 [.d (.bool (decide (n < 0))), .d (.int .u64 r15), .d (.int .u64 r112)] [.d (.bool (decide (n < 0))), .d (.int .u64 r15), .d (.int .u64 r112)] _ _ _ _ (by kernel_rfl) (by kernel_rfl) Try.underlying80 (by kernel_rfl) ty80 (by kernel_rfl) (by kernel_rfl)) .nil) (by kernel_rfl) (by kernel_rfl) (by kernel_rfl) (by kernel_rfl) (by decide) (by kernel_rfl) (by kernel_rfl)

/-- (awardingbody/ratio.wide).compare -/
def ratio_wide_compare (k : Nat) (w0 : Bool) (w1 : Int) (w2 : Int) (v0 : Bool) (v1 : Int) (v2 : Int) : Option (Int) := blet ((w1 != v1) && (decide (w1 < v1))) fun x13 => Option.bind (bif x13 then some true else blet ((w1 == v1) && (decide (w2 < v2))) fun x18 => some x18 : Option (Bool)) (fun x15 => bif x15 then some (-1) else blet ((w1 == v1) && (w2 == v2)) fun x17 => bif x17 then some 0 else some 1)
def ratio_wide_compare_E (w0 : Bool) (w1 : Int) (w2 : Int) (v0 : Bool) (v1 : Int) (v2 : Int) : Int → V × List Blk := fun r1 => (.d (.int .i64 r1), [])
theorem ratio_wide_compare_goes (k : Nat) (w0 : Bool) (w1 : Int) (w2 : Int) (v0 : Bool) (v1 : Int) (v2 : Int) : RunsO Try.prog 49 [.agg [.d (.bool w0), .d (.int .u64 w1), .d (.int .u64 w2)], .agg [.d (.bool v0), .d (.int .u64 v1), .d (.int .u64 v2)]] [] (ratio_wide_compare_E w0 w1 w2 v0 v1 v2) (ratio_wide_compare k w0 w1 w2 v0 v1 v2) := by
  refine RunsO.of_goes (N := 43) (m := 0) (T := [(0, .agg [.d (.bool w0), .d (.int .u64 w1), .d (.int .u64 w2)]), (1, .agg [.d (.bool v0), .d (.int .u64 v1), .d (.int .u64 v2)])]) Try.func49 rfl rfl (by kernel_rfl) (by kernel_rfl) (by kernel_rfl) ?_
  unfold ratio_wide_compare
  refine bStart ?_
  refine oSeq ?_
  refine oRegion rfl ?_
  refine oOp (.ptr 0 0) (by kernel_rfl) (by kernel_rfl) (k_box (H' := [.box [.d (.bool w0), .d (.int .u64 w1), .d (.int .u64 w2)]]) (cells := [.d (.bool w0), .d (.int .u64 w1), .d (.int .u64 w2)]) (by kernel_rfl) (by kernel_rfl) (by kernel_rfl)) ?_
  refine oOp (.ptr 1 0) (by kernel_rfl) (by kernel_rfl) (k_box (H' := [.box [.d (.bool w0), .d (.int .u64 w1), .d (.int .u64 w2)], .box [.d (.bool v0), .d (.int .u64 v1), .d (.int .u64 v2)]]) (cells := [.d (.bool v0), .d (.int .u64 v1), .d (.int .u64 v2)]) (by kernel_rfl) (by kernel_rfl) (by kernel_rfl)) ?_
  refine oOp (.d (.int .i64 0)) (by kernel_rfl) (by kernel_rfl) (PureV.does (p_assign (by kernel_rfl))) ?_
  refine oEnd ?_
  refine oSeq ?_
  refine oBlock ?_
  refine oSeq ?_
  refine oSeq ?_
  refine oRegion rfl ?_
  refine oOp (.ptr 0 1) (by kernel_rfl) (by kernel_rfl) (PureV.does (k_fieldAddr 0 0 (by kernel_rfl) Try.underlying80 rfl ty64 (by kernel_rfl))) ?_
  refine oOp (.d (.int .u64 w1)) (by kernel_rfl) (by kernel_rfl) (Quiet.does (k_load 0 1 (by kernel_rfl) Try.underlying64 (by kernel_rfl) (by kernel_rfl))) ?_
  refine oOp (.ptr 1 1) (by kernel_rfl) (by kernel_rfl) (PureV.does (k_fieldAddr 1 0 (by kernel_rfl) Try.underlying80 rfl ty64 (by kernel_rfl))) ?_
  refine oOp (.d (.int .u64 v1)) (by kernel_rfl) (by kernel_rfl) (Quiet.does (k_load 1 1 (by kernel_rfl) Try.underlying64 (by kernel_rfl) (by kernel_rfl))) ?_
  refine oOp (.d (.bool (w1 != v1))) (by kernel_rfl) (by kernel_rfl) (PureV.does (p_int (k := .u64) (p := w1) (q := v1) (by kernel_rfl) (by kernel_rfl) (by kernel_rfl))) ?_
  refine oOp (.d (.bool (w1 != v1))) (by kernel_rfl) (by kernel_rfl) (PureV.does (p_move (by kernel_rfl))) ?_
  refine bMeetF (H' := [.box [.d (.bool w0), .d (.int .u64 w1), .d (.int .u64 w2)], .box [.d (.bool v0), .d (.int .u64 v1), .d (.int .u64 v2)]]) 6 rfl ((fun (x13 : Bool) => [(2, .ptr 0 0), (3, .ptr 1 0), (17, .d (.bool x13))])) (fun x13 => ?_) (fun F hj4 => ?_)
  ·refine oView (T' := [(2, .ptr 0 0), (3, .ptr 1 0), (17, .d (.bool x13))]) (H' := [.box [.d (.bool w0), .d (.int .u64 w1), .d (.int .u64 w2)], .box [.d (.bool v0), .d (.int .u64 v1), .d (.int .u64 v2)]]) (by kernel_rfl) (by kernel_rfl) ?_
   refine oOp (.d (.bool x13)) (by kernel_rfl) (by kernel_rfl) (PureV.does (p_assign (by kernel_rfl))) ?_
   refine oEnd ?_
   refine bJoin ((fun (x15 : Bool) => [(2, .ptr 0 0), (3, .ptr 1 0), (5, .d (.bool x15))])) ((fun (x15 : Bool) => [.box [.d (.bool w0), .d (.int .u64 w1), .d (.int .u64 w2)], .box [.d (.bool v0), .d (.int .u64 v1), .d (.int .u64 v2)]])) (fun s => s) (fun x15 => ?_) (fun hj5 => ?_)
   ·refine oView (T' := [(2, .ptr 0 0), (3, .ptr 1 0), (5, .d (.bool x15))]) (H' := [.box [.d (.bool w0), .d (.int .u64 w1), .d (.int .u64 w2)], .box [.d (.bool v0), .d (.int .u64 v1), .d (.int .u64 v2)]]) (by kernel_rfl) (by kernel_rfl) ?_
    refine bSplit 5 (by kernel_rfl) (fun hc => ?_) (fun hc => ?_)
    ·refine oCondT (by kernel_rfl) ?_
     refine oSeq ?_
     refine oRegion rfl ?_
     refine oOp (.d (.int .i64 (-1))) (by kernel_rfl) (by kernel_rfl) (PureV.does (p_assign (by kernel_rfl))) ?_
     refine oEnd ?_
     exact oRet (r0 := (-1)) (rv := .d (.int .i64 (-1))) (B := []) (vs := [.d (.int .i64 (-1))]) (σ := []) (by kernel_rfl) Try.func49 rfl (.cons _ _ _ _ (.tmp 4 _ (by kernel_rfl)) .nil) (by kernel_rfl) (by kernel_rfl) (by kernel_rfl) (by kernel_rfl) (by decide) (by kernel_rfl) (by kernel_rfl)
    ·refine oCondF (by kernel_rfl) ?_
     refine oSeq ?_
     refine oRegion rfl ?_
     refine oOp (.ptr 0 1) (by kernel_rfl) (by kernel_rfl) (PureV.does (k_fieldAddr 0 0 (by kernel_rfl) Try.underlying80 rfl ty64 (by kernel_rfl))) ?_
     refine oOp (.d (.int .u64 w1)) (by kernel_rfl) (by kernel_rfl) (Quiet.does (k_load 0 1 (by kernel_rfl) Try.underlying64 (by kernel_rfl) (by kernel_rfl))) ?_
     refine oOp (.ptr 1 1) (by kernel_rfl) (by kernel_rfl) (PureV.does (k_fieldAddr 1 0 (by kernel_rfl) Try.underlying80 rfl ty64 (by kernel_rfl))) ?_
     refine oOp (.d (.int .u64 v1)) (by kernel_rfl) (by kernel_rfl) (Quiet.does (k_load 1 1 (by kernel_rfl) Try.underlying64 (by kernel_rfl) (by kernel_rfl))) ?_
     refine oOp (.d (.bool (w1 == v1))) (by kernel_rfl) (by kernel_rfl) (PureV.does (p_int (k := .u64) (p := w1) (q := v1) (by kernel_rfl) (by kernel_rfl) (by kernel_rfl))) ?_
     refine oOp (.d (.bool (w1 == v1))) (by kernel_rfl) (by kernel_rfl) (PureV.does (p_move (by kernel_rfl))) ?_
     refine bMeetF (H' := []) 6 rfl ((fun (x17 : Bool) => [(42, .d (.bool x17))])) (fun x17 => ?_) (fun F hj6 => ?_)
     ·refine oView (T' := [(42, .d (.bool x17))]) (H' := []) (by kernel_rfl) (by kernel_rfl) ?_
      refine oOp (.d (.bool x17)) (by kernel_rfl) (by kernel_rfl) (PureV.does (p_assign (by kernel_rfl))) ?_
      refine oEnd ?_
      refine bSplit 30 (by kernel_rfl) (fun hc => ?_) (fun hc => ?_)
      ·refine oCondT (by kernel_rfl) ?_
       refine oSeq ?_
       refine oRegion rfl ?_
       refine oOp (.d (.int .i64 0)) (by kernel_rfl) (by kernel_rfl) (PureV.does (p_assign (by kernel_rfl))) ?_
       refine oEnd ?_
       exact oRet (r0 := 0) (rv := .d (.int .i64 0)) (B := []) (vs := [.d (.int .i64 0)]) (σ := []) (by kernel_rfl) Try.func49 rfl (.cons _ _ _ _ (.tmp 4 _ (by kernel_rfl)) .nil) (by kernel_rfl) (by kernel_rfl) (by kernel_rfl) (by kernel_rfl) (by decide) (by kernel_rfl) (by kernel_rfl)
      ·refine oCondF (by kernel_rfl) ?_
       refine oSkip ?_
       refine oBlk ?_
       refine oSeq ?_
       refine oRegion rfl ?_
       refine oOp (.d (.int .i64 1)) (by kernel_rfl) (by kernel_rfl) (PureV.does (p_assign (by kernel_rfl))) ?_
       refine oEnd ?_
       exact oRet (r0 := 1) (rv := .d (.int .i64 1)) (B := []) (vs := [.d (.int .i64 1)]) (σ := []) (by kernel_rfl) Try.func49 rfl (.cons _ _ _ _ (.tmp 4 _ (by kernel_rfl)) .nil) (by kernel_rfl) (by kernel_rfl) (by kernel_rfl) (by kernel_rfl) (by decide) (by kernel_rfl) (by kernel_rfl)
     ·refine bPickF 36 (fun c => F (c && (w2 == v2))) (by kernel_rfl) (fun hc => ?_) (fun hc => ?_)
      ·refine oOp (.ptr 0 2) (by kernel_rfl) (by kernel_rfl) (PureV.does (k_fieldAddr 0 0 (by kernel_rfl) Try.underlying80 rfl ty64 (by kernel_rfl))) ?_
       refine oOp (.d (.int .u64 w2)) (by kernel_rfl) (by kernel_rfl) (Quiet.does (k_load 0 2 (by kernel_rfl) Try.underlying64 (by kernel_rfl) (by kernel_rfl))) ?_
       refine oOp (.ptr 1 2) (by kernel_rfl) (by kernel_rfl) (PureV.does (k_fieldAddr 1 0 (by kernel_rfl) Try.underlying80 rfl ty64 (by kernel_rfl))) ?_
       refine oOp (.d (.int .u64 v2)) (by kernel_rfl) (by kernel_rfl) (Quiet.does (k_load 1 2 (by kernel_rfl) Try.underlying64 (by kernel_rfl) (by kernel_rfl))) ?_
       refine oOp (.d (.bool (w2 == v2))) (by kernel_rfl) (by kernel_rfl) (PureV.does (p_int (k := .u64) (p := w2) (q := v2) (by kernel_rfl) (by kernel_rfl) (by kernel_rfl))) ?_
       refine oOp (.d (.bool (w2 == v2))) (by kernel_rfl) (by kernel_rfl) (PureV.does (p_pick (b := true) (by kernel_rfl) (by kernel_rfl))) ?_
       refine oHead [42] [] (T' := [(42, .d (.bool (w2 == v2)))]) (H' := []) (by kernel_rfl) (by kernel_rfl) (by kernel_rfl) (by kernel_rfl) (by decide) (by kernel_rfl) (by kernel_rfl) ?_
       exact hj6 (w2 == v2)
      ·refine oNot (by kernel_rfl) (by kernel_rfl) ?_
       refine oNot (by kernel_rfl) (by kernel_rfl) ?_
       refine oNot (by kernel_rfl) (by kernel_rfl) ?_
       refine oNot (by kernel_rfl) (by kernel_rfl) ?_
       refine oNot (by kernel_rfl) (by kernel_rfl) ?_
       refine oOp (.d (.bool false)) (by kernel_rfl) (by kernel_rfl) (PureV.does (p_pick (b := false) (by kernel_rfl) (by kernel_rfl))) ?_
       refine oHead [42] [] (T' := [(42, .d (.bool false))]) (H' := []) (by kernel_rfl) (by kernel_rfl) (by kernel_rfl) (by kernel_rfl) (by decide) (by kernel_rfl) (by kernel_rfl) ?_
       exact hj6 false
   ·refine bSplit 5 (by kernel_rfl) (fun hc => ?_) (fun hc => ?_)
    ·refine oCondT (by kernel_rfl) ?_
     refine oSkip ?_
     refine oHead [2, 3, 5] [0, 1] (T' := [(2, .ptr 0 0), (3, .ptr 1 0), (5, .d (.bool true))]) (H' := [.box [.d (.bool w0), .d (.int .u64 w1), .d (.int .u64 w2)], .box [.d (.bool v0), .d (.int .u64 v1), .d (.int .u64 v2)]]) (by kernel_rfl) (by kernel_rfl) (by kernel_rfl) (by kernel_rfl) (by decide) (by kernel_rfl) (by kernel_rfl) ?_
     exact hj5 true
    ·refine oCondF (by kernel_rfl) ?_
     refine oRegion rfl ?_
     refine oOp (.ptr 0 1) (by kernel_rfl) (by kernel_rfl) (PureV.does (k_fieldAddr 0 0 (by kernel_rfl) Try.underlying80 rfl ty64 (by kernel_rfl))) ?_
     refine oOp (.d (.int .u64 w1)) (by kernel_rfl) (by kernel_rfl) (Quiet.does (k_load 0 1 (by kernel_rfl) Try.underlying64 (by kernel_rfl) (by kernel_rfl))) ?_
     refine oOp (.ptr 1 1) (by kernel_rfl) (by kernel_rfl) (PureV.does (k_fieldAddr 1 0 (by kernel_rfl) Try.underlying80 rfl ty64 (by kernel_rfl))) ?_
     refine oOp (.d (.int .u64 v1)) (by kernel_rfl) (by kernel_rfl) (Quiet.does (k_load 1 1 (by kernel_rfl) Try.underlying64 (by kernel_rfl) (by kernel_rfl))) ?_
     refine oOp (.d (.bool (w1 == v1))) (by kernel_rfl) (by kernel_rfl) (PureV.does (p_int (k := .u64) (p := w1) (q := v1) (by kernel_rfl) (by kernel_rfl) (by kernel_rfl))) ?_
     refine oOp (.d (.bool (w1 == v1))) (by kernel_rfl) (by kernel_rfl) (PureV.does (p_move (by kernel_rfl))) ?_
     refine bMeetF (H' := [.box [.d (.bool w0), .d (.int .u64 w1), .d (.int .u64 w2)], .box [.d (.bool v0), .d (.int .u64 v1), .d (.int .u64 v2)]]) 6 rfl ((fun (x18 : Bool) => [(2, .ptr 0 0), (3, .ptr 1 0), (29, .d (.bool x18))])) (fun x18 => ?_) (fun F hj7 => ?_)
     ·refine oView (T' := [(2, .ptr 0 0), (3, .ptr 1 0), (29, .d (.bool x18))]) (H' := [.box [.d (.bool w0), .d (.int .u64 w1), .d (.int .u64 w2)], .box [.d (.bool v0), .d (.int .u64 v1), .d (.int .u64 v2)]]) (by kernel_rfl) (by kernel_rfl) ?_
      refine oOp (.d (.bool x18)) (by kernel_rfl) (by kernel_rfl) (PureV.does (p_assign (by kernel_rfl))) ?_
      refine oEnd ?_
      refine oHead [2, 3, 5] [0, 1] (T' := [(2, .ptr 0 0), (3, .ptr 1 0), (5, .d (.bool x18))]) (H' := [.box [.d (.bool w0), .d (.int .u64 w1), .d (.int .u64 w2)], .box [.d (.bool v0), .d (.int .u64 v1), .d (.int .u64 v2)]]) (by kernel_rfl) (by kernel_rfl) (by kernel_rfl) (by kernel_rfl) (by decide) (by kernel_rfl) (by kernel_rfl) ?_
      exact hj5 x18
     ·refine bPickF 23 (fun c => F (c && (decide (w2 < v2)))) (by kernel_rfl) (fun hc => ?_) (fun hc => ?_)
      ·refine oOp (.ptr 0 2) (by kernel_rfl) (by kernel_rfl) (PureV.does (k_fieldAddr 0 0 (by kernel_rfl) Try.underlying80 rfl ty64 (by kernel_rfl))) ?_
       refine oOp (.d (.int .u64 w2)) (by kernel_rfl) (by kernel_rfl) (Quiet.does (k_load 0 2 (by kernel_rfl) Try.underlying64 (by kernel_rfl) (by kernel_rfl))) ?_
       refine oOp (.ptr 1 2) (by kernel_rfl) (by kernel_rfl) (PureV.does (k_fieldAddr 1 0 (by kernel_rfl) Try.underlying80 rfl ty64 (by kernel_rfl))) ?_
       refine oOp (.d (.int .u64 v2)) (by kernel_rfl) (by kernel_rfl) (Quiet.does (k_load 1 2 (by kernel_rfl) Try.underlying64 (by kernel_rfl) (by kernel_rfl))) ?_
       refine oOp (.d (.bool (decide (w2 < v2)))) (by kernel_rfl) (by kernel_rfl) (PureV.does (p_int (k := .u64) (p := w2) (q := v2) (by kernel_rfl) (by kernel_rfl) (by kernel_rfl))) ?_
       refine oOp (.d (.bool (decide (w2 < v2)))) (by kernel_rfl) (by kernel_rfl) (PureV.does (p_pick (b := true) (by kernel_rfl) (by kernel_rfl))) ?_
       refine oHead [2, 3, 29] [0, 1] (T' := [(2, .ptr 0 0), (3, .ptr 1 0), (29, .d (.bool (decide (w2 < v2))))]) (H' := [.box [.d (.bool w0), .d (.int .u64 w1), .d (.int .u64 w2)], .box [.d (.bool v0), .d (.int .u64 v1), .d (.int .u64 v2)]]) (by kernel_rfl) (by kernel_rfl) (by kernel_rfl) (by kernel_rfl) (by decide) (by kernel_rfl) (by kernel_rfl) ?_
       exact hj7 (decide (w2 < v2))
      ·refine oNot (by kernel_rfl) (by kernel_rfl) ?_
       refine oNot (by kernel_rfl) (by kernel_rfl) ?_
       refine oNot (by kernel_rfl) (by kernel_rfl) ?_
       refine oNot (by kernel_rfl) (by kernel_rfl) ?_
       refine oNot (by kernel_rfl) (by kernel_rfl) ?_
       refine oOp (.d (.bool false)) (by kernel_rfl) (by kernel_rfl) (PureV.does (p_pick (b := false) (by kernel_rfl) (by kernel_rfl))) ?_
       refine oHead [2, 3, 29] [0, 1] (T' := [(2, .ptr 0 0), (3, .ptr 1 0), (29, .d (.bool false))]) (H' := [.box [.d (.bool w0), .d (.int .u64 w1), .d (.int .u64 w2)], .box [.d (.bool v0), .d (.int .u64 v1), .d (.int .u64 v2)]]) (by kernel_rfl) (by kernel_rfl) (by kernel_rfl) (by kernel_rfl) (by decide) (by kernel_rfl) (by kernel_rfl) ?_
       exact hj7 false
  ·refine bPickF 11 (fun c => F (c && (decide (w1 < v1)))) (by kernel_rfl) (fun hc => ?_) (fun hc => ?_)
   ·refine oOp (.ptr 0 1) (by kernel_rfl) (by kernel_rfl) (PureV.does (k_fieldAddr 0 0 (by kernel_rfl) Try.underlying80 rfl ty64 (by kernel_rfl))) ?_
    refine oOp (.d (.int .u64 w1)) (by kernel_rfl) (by kernel_rfl) (Quiet.does (k_load 0 1 (by kernel_rfl) Try.underlying64 (by kernel_rfl) (by kernel_rfl))) ?_
    refine oOp (.ptr 1 1) (by kernel_rfl) (by kernel_rfl) (PureV.does (k_fieldAddr 1 0 (by kernel_rfl) Try.underlying80 rfl ty64 (by kernel_rfl))) ?_
    refine oOp (.d (.int .u64 v1)) (by kernel_rfl) (by kernel_rfl) (Quiet.does (k_load 1 1 (by kernel_rfl) Try.underlying64 (by kernel_rfl) (by kernel_rfl))) ?_
    refine oOp (.d (.bool (decide (w1 < v1)))) (by kernel_rfl) (by kernel_rfl) (PureV.does (p_int (k := .u64) (p := w1) (q := v1) (by kernel_rfl) (by kernel_rfl) (by kernel_rfl))) ?_
    refine oOp (.d (.bool (decide (w1 < v1)))) (by kernel_rfl) (by kernel_rfl) (PureV.does (p_pick (b := true) (by kernel_rfl) (by kernel_rfl))) ?_
    refine oHead [2, 3, 17] [0, 1] (T' := [(2, .ptr 0 0), (3, .ptr 1 0), (17, .d (.bool (decide (w1 < v1))))]) (H' := [.box [.d (.bool w0), .d (.int .u64 w1), .d (.int .u64 w2)], .box [.d (.bool v0), .d (.int .u64 v1), .d (.int .u64 v2)]]) (by kernel_rfl) (by kernel_rfl) (by kernel_rfl) (by kernel_rfl) (by decide) (by kernel_rfl) (by kernel_rfl) ?_
    exact hj4 (decide (w1 < v1))
   ·refine oNot (by kernel_rfl) (by kernel_rfl) ?_
    refine oNot (by kernel_rfl) (by kernel_rfl) ?_
    refine oNot (by kernel_rfl) (by kernel_rfl) ?_
    refine oNot (by kernel_rfl) (by kernel_rfl) ?_
    refine oNot (by kernel_rfl) (by kernel_rfl) ?_
    refine oOp (.d (.bool false)) (by kernel_rfl) (by kernel_rfl) (PureV.does (p_pick (b := false) (by kernel_rfl) (by kernel_rfl))) ?_
    refine oHead [2, 3, 17] [0, 1] (T' := [(2, .ptr 0 0), (3, .ptr 1 0), (17, .d (.bool false))]) (H' := [.box [.d (.bool w0), .d (.int .u64 w1), .d (.int .u64 w2)], .box [.d (.bool v0), .d (.int .u64 v1), .d (.int .u64 v2)]]) (by kernel_rfl) (by kernel_rfl) (by kernel_rfl) (by kernel_rfl) (by decide) (by kernel_rfl) (by kernel_rfl) ?_
    exact hj4 false

/-- awardingbody/ratio.Compare -/
def ratio_Compare (k : Nat) (a0 : Int) (a1 : Int) (b0 : Int) (b1 : Int) : Option (Int) := Option.bind (ratio_Valid k a0 a1) (fun r124 => Option.bind (bif (!r124) then some true else Option.bind (ratio_Valid k b0 b1) (fun r126 => some (!r126)) : Option (Bool)) (fun x6 => bif x6 then some 0 else Option.bind (ratio_times k a0 (IntKind.wrap .u64 b1)) (uc fun r122 => fun r13 => Option.bind (ratio_times k b0 (IntKind.wrap .u64 a1)) (uc fun r123 => fun r131 => blet ((decide (a0 < 0)) && (!(decide (b0 < 0)))) fun x9 => bif x9 then some (-1) else blet ((decide (b0 < 0)) && (!(decide (a0 < 0)))) fun x11 => bif x11 then some 1 else bif (decide (a0 < 0)) then Option.bind (ratio_wide_compare k (decide (b0 < 0)) r123 r131 (decide (a0 < 0)) r122 r13) (fun r113 => some r113) else Option.bind (ratio_wide_compare k (decide (a0 < 0)) r122 r13 (decide (b0 < 0)) r123 r131) (fun r114 => some r114)))))
def ratio_Compare_E (a0 : Int) (a1 : Int) (b0 : Int) (b1 : Int) : Int → V × List Blk := fun r18 => (.d (.int .i64 r18), [])
theorem ratio_Compare_goes (k : Nat) (a0 : Int) (a1 : Int) (b0 : Int) (b1 : Int) : RunsO Try.prog 29 [.agg [.d (.int .i64 a0), .d (.int .i64 a1)], .agg [.d (.int .i64 b0), .d (.int .i64 b1)]] [] (ratio_Compare_E a0 a1 b0 b1) (ratio_Compare k a0 a1 b0 b1) := by
  refine RunsO.of_goes (N := 52) (m := 0) (T := [(0, .agg [.d (.int .i64 a0), .d (.int .i64 a1)]), (1, .agg [.d (.int .i64 b0), .d (.int .i64 b1)])]) Try.func29 rfl rfl (by kernel_rfl) (by kernel_rfl) (by kernel_rfl) ?_
  unfold ratio_Compare
  refine bStart ?_
  refine oSeq ?_
  refine oRegion rfl ?_
  refine oOp (.ptr 0 0) (by kernel_rfl) (by kernel_rfl) (k_box (H' := [.box [.d (.int .i64 a0), .d (.int .i64 a1)]]) (cells := [.d (.int .i64 a0), .d (.int .i64 a1)]) (by kernel_rfl) (by kernel_rfl) (by kernel_rfl)) ?_
  refine oOp (.ptr 1 0) (by kernel_rfl) (by kernel_rfl) (k_box (H' := [.box [.d (.int .i64 a0), .d (.int .i64 a1)], .box [.d (.int .i64 b0), .d (.int .i64 b1)]]) (cells := [.d (.int .i64 b0), .d (.int .i64 b1)]) (by kernel_rfl) (by kernel_rfl) (by kernel_rfl)) ?_
  refine oOp (.d (.int .i64 0)) (by kernel_rfl) (by kernel_rfl) (PureV.does (p_assign (by kernel_rfl))) ?_
  refine oEnd ?_
  refine oSeq ?_
  refine oSeq ?_
  refine oRegion rfl ?_
  refine oOp (.agg [.d (.int .i64 a0), .d (.int .i64 a1)]) (by kernel_rfl) (by kernel_rfl) (Quiet.does (k_loadAgg 0 0 (by kernel_rfl) Try.underlying37 (by kernel_rfl) ty37 (by kernel_rfl))) ?_
  refine bCall (caps := []) (v := (fun (r124 : Bool) => (.d (.bool r124) : V))) (H' := (fun (r124 : Bool) => ([.box [.d (.int .i64 a0), .d (.int .i64 a1)], .box [.d (.int .i64 b0), .d (.int .i64 b1)]] : List Blk))) [] _ (ratio_Valid_goes k a0 a1) (by kernel_rfl) (by kernel_rfl) rfl (by kernel_rfl) Try.func24 rfl (by kernel_rfl) (ConvRs.refl _ _) (by kernel_rfl) (by kernel_rfl) (by kernel_rfl) (by decide) (by kernel_rfl) (by kernel_rfl) (fun _ => (by kernel_rfl)) (fun _ => (by kernel_rfl)) (fun _ => (by kernel_rfl)) (fun r124 => ?_)
  refine oOp (.d (.bool (!r124))) (by kernel_rfl) (by kernel_rfl) (PureV.does (p_not (p := r124) (by kernel_rfl) (by kernel_rfl))) ?_
  refine oOp (.d (.bool (!r124))) (by kernel_rfl) (by kernel_rfl) (PureV.does (p_move (by kernel_rfl))) ?_
  refine bMeet 4 rfl ((fun (x6 : Bool) => [(2, .ptr 0 0), (3, .ptr 1 0), (14, .d (.bool x6))])) ((fun (x6 : Bool) => [.box [.d (.int .i64 a0), .d (.int .i64 a1)], .box [.d (.int .i64 b0), .d (.int .i64 b1)]])) (fun s => s) (fun x6 => ?_) (fun hj3 => ?_)
  ·refine oView (T' := [(2, .ptr 0 0), (3, .ptr 1 0), (14, .d (.bool x6))]) (H' := [.box [.d (.int .i64 a0), .d (.int .i64 a1)], .box [.d (.int .i64 b0), .d (.int .i64 b1)]]) (by kernel_rfl) (by kernel_rfl) ?_
   refine oEnd ?_
   refine bSplit 14 (by kernel_rfl) (fun hc => ?_) (fun hc => ?_)
   ·refine oCondT (by kernel_rfl) ?_
    refine oSeq ?_
    refine oRegion rfl ?_
    refine oOp (.d (.int .i64 0)) (by kernel_rfl) (by kernel_rfl) (PureV.does (p_assign (by kernel_rfl))) ?_
    refine oEnd ?_
    exact oRet (r0 := 0) (rv := .d (.int .i64 0)) (B := []) (vs := [.d (.int .i64 0)]) (σ := []) (by kernel_rfl) Try.func29 rfl (.cons _ _ _ _ (.tmp 4 _ (by kernel_rfl)) .nil) (by kernel_rfl) (by kernel_rfl) (by kernel_rfl) (by kernel_rfl) (by decide) (by kernel_rfl) (by kernel_rfl)
   ·refine oCondF (by kernel_rfl) ?_
    refine oSkip ?_
    refine oSeq ?_
    refine oDraw [(0, 16), (1, 16)] rfl ?_
    refine aTakeL (i := 0) (st' := []) (.ptr 0 0) rfl (by kernel_rfl) (by kernel_rfl) (by kernel_rfl) (by kernel_rfl) (by kernel_rfl) (by kernel_rfl) (by kernel_rfl) (PureV.quiet (k_fieldAddr 0 0 (by kernel_rfl) Try.underlying37 rfl ty3 (by kernel_rfl)) []) ?_
    refine aTakeL (i := 1) (st' := [0]) (.d (.int .i64 a0)) rfl (by kernel_rfl) (by kernel_rfl) (by kernel_rfl) (by kernel_rfl) (by kernel_rfl) (by kernel_rfl) (by kernel_rfl) (k_load 0 0 (by kernel_rfl) Try.underlying3 (by kernel_rfl) (by kernel_rfl)) ?_
    refine aTakeL (i := 2) (st' := []) (.ptr 1 1) rfl (by kernel_rfl) (by kernel_rfl) (by kernel_rfl) (by kernel_rfl) (by kernel_rfl) (by kernel_rfl) (by kernel_rfl) (PureV.quiet (k_fieldAddr 1 0 (by kernel_rfl) Try.underlying37 rfl ty3 (by kernel_rfl)) []) ?_
    refine aTakeL (i := 3) (st' := [1]) (.d (.int .i64 b1)) rfl (by kernel_rfl) (by kernel_rfl) (by kernel_rfl) (by kernel_rfl) (by kernel_rfl) (by kernel_rfl) (by kernel_rfl) (k_load 1 1 (by kernel_rfl) Try.underlying3 (by kernel_rfl) (by kernel_rfl)) ?_
    refine aTakeL (i := 4) (st' := []) (.d (.int .u64 (IntKind.wrap .u64 b1))) rfl (by kernel_rfl) (by kernel_rfl) (by kernel_rfl) (by kernel_rfl) (by kernel_rfl) (by kernel_rfl) (by kernel_rfl) (PureV.quiet (p_conv (k := .i64) (p := b1) (by kernel_rfl) Try.underlying3 Try.underlying64 (by kernel_rfl)) []) ?_
    refine aTakeL (i := 6) (st' := []) (.ptr 1 0) rfl (by kernel_rfl) (by kernel_rfl) (by kernel_rfl) (by kernel_rfl) (by kernel_rfl) (by kernel_rfl) (by kernel_rfl) (PureV.quiet (k_fieldAddr 1 0 (by kernel_rfl) Try.underlying37 rfl ty3 (by kernel_rfl)) []) ?_
    refine aTakeL (i := 7) (st' := [1]) (.d (.int .i64 b0)) rfl (by kernel_rfl) (by kernel_rfl) (by kernel_rfl) (by kernel_rfl) (by kernel_rfl) (by kernel_rfl) (by kernel_rfl) (k_load 1 0 (by kernel_rfl) Try.underlying3 (by kernel_rfl) (by kernel_rfl)) ?_
    refine aTakeL (i := 8) (st' := []) (.ptr 0 1) rfl (by kernel_rfl) (by kernel_rfl) (by kernel_rfl) (by kernel_rfl) (by kernel_rfl) (by kernel_rfl) (by kernel_rfl) (PureV.quiet (k_fieldAddr 0 0 (by kernel_rfl) Try.underlying37 rfl ty3 (by kernel_rfl)) []) ?_
    refine aTakeL (i := 9) (st' := [0]) (.d (.int .i64 a1)) rfl (by kernel_rfl) (by kernel_rfl) (by kernel_rfl) (by kernel_rfl) (by kernel_rfl) (by kernel_rfl) (by kernel_rfl) (k_load 0 1 (by kernel_rfl) Try.underlying3 (by kernel_rfl) (by kernel_rfl)) ?_
    refine aTakeL (i := 10) (st' := []) (.d (.int .u64 (IntKind.wrap .u64 a1))) rfl (by kernel_rfl) (by kernel_rfl) (by kernel_rfl) (by kernel_rfl) (by kernel_rfl) (by kernel_rfl) (by kernel_rfl) (PureV.quiet (p_conv (k := .i64) (p := a1) (by kernel_rfl) Try.underlying3 Try.underlying64 (by kernel_rfl)) []) ?_
    refine dCall (i := 5) (caps := []) (v := (uc fun (r122 : Int) => (fun (r13 : Int) => (.agg [.d (.bool (decide (a0 < 0))), .d (.int .u64 r122), .d (.int .u64 r13)] : V)))) (H' := (uc fun (r122 : Int) => (fun (r13 : Int) => ([.box [.d (.int .i64 a0), .d (.int .i64 a1)], .box [.d (.int .i64 b0), .d (.int .i64 b1)]] : List Blk)))) [] _ (ratio_times_goes k a0 (IntKind.wrap .u64 b1)) rfl (by kernel_rfl) (by kernel_rfl) (by kernel_rfl) (by kernel_rfl) (by kernel_rfl) (by kernel_rfl) (by kernel_rfl) (by kernel_rfl) rfl (by kernel_rfl) Try.func48 rfl (by kernel_rfl) (ConvRs.refl _ _) (by kernel_rfl) (by kernel_rfl) (by kernel_rfl) (by decide) (by kernel_rfl) (by kernel_rfl) (fun _ => (by kernel_rfl)) (fun _ => (by kernel_rfl)) (fun _ => (by kernel_rfl)) (fun r => ?_)
    obtain ⟨r122, r13⟩ := r
    refine dUc ?_
    refine dCall (i := 11) (caps := []) (v := (uc fun (r123 : Int) => (fun (r131 : Int) => (.agg [.d (.bool (decide (b0 < 0))), .d (.int .u64 r123), .d (.int .u64 r131)] : V)))) (H' := (uc fun (r123 : Int) => (fun (r131 : Int) => ([.box [.d (.int .i64 a0), .d (.int .i64 a1)], .box [.d (.int .i64 b0), .d (.int .i64 b1)]] : List Blk)))) [] _ (ratio_times_goes k b0 (IntKind.wrap .u64 a1)) rfl (by kernel_rfl) (by kernel_rfl) (by kernel_rfl) (by kernel_rfl) (by kernel_rfl) (by kernel_rfl) (by kernel_rfl) (by kernel_rfl) rfl (by kernel_rfl) Try.func48 rfl (by kernel_rfl) (ConvRs.refl _ _) (by kernel_rfl) (by kernel_rfl) (by kernel_rfl) (by decide) (by kernel_rfl) (by kernel_rfl) (fun _ => (by kernel_rfl)) (fun _ => (by kernel_rfl)) (fun _ => (by kernel_rfl)) (fun r => ?_)
    obtain ⟨r123, r131⟩ := r
    refine dUc ?_
    refine aAlloc (i := 12) (d := 5) rfl (by kernel_rfl) (by kernel_rfl) rfl rfl (by kernel_rfl) (by kernel_rfl) ty80 (cells := [.d (.bool false), .d (.int .u64 0), .d (.int .u64 0)]) (by kernel_rfl) (by kernel_rfl) ?_
    refine dView (H' := [.box [.d (.int .i64 a0), .d (.int .i64 a1)], .box [.d (.int .i64 b0), .d (.int .i64 b1)], .box [.d (.bool false), .d (.int .u64 0), .d (.int .u64 0)]]) rfl rfl (by kernel_rfl) ?_
    refine aAlloc (i := 13) (d := 6) rfl (by kernel_rfl) (by kernel_rfl) rfl rfl (by kernel_rfl) (by kernel_rfl) ty80 (cells := [.d (.bool false), .d (.int .u64 0), .d (.int .u64 0)]) (by kernel_rfl) (by kernel_rfl) ?_
    refine dView (H' := [.box [.d (.int .i64 a0), .d (.int .i64 a1)], .box [.d (.int .i64 b0), .d (.int .i64 b1)], .box [.d (.bool false), .d (.int .u64 0), .d (.int .u64 0)], .box [.d (.bool false), .d (.int .u64 0), .d (.int .u64 0)]]) rfl rfl (by kernel_rfl) ?_
    refine aOne (i := 14) (v := .undef) rfl (by kernel_rfl) (by kernel_rfl) (by kernel_rfl) (by kernel_rfl) (by kernel_rfl) (by kernel_rfl) (by kernel_rfl) (Does.acts (k_store (vs := [.d (.bool (decide (a0 < 0))), .d (.int .u64 r122), .d (.int .u64 r13)]) (H' := [.box [.d (.int .i64 a0), .d (.int .i64 a1)], .box [.d (.int .i64 b0), .d (.int .i64 b1)], .box [.d (.bool (decide (a0 < 0))), .d (.int .u64 r122), .d (.int .u64 r13)], .box [.d (.bool false), .d (.int .u64 0), .d (.int .u64 0)]]) 2 0 (by kernel_rfl) ty80 (by kernel_rfl) (by kernel_rfl) (by kernel_rfl))) (by kernel_rfl) ?_
    refine aOne (i := 15) (v := .undef) rfl (by kernel_rfl) (by kernel_rfl) (by kernel_rfl) (by kernel_rfl) (by kernel_rfl) (by kernel_rfl) (by kernel_rfl) (Does.acts (k_store (vs := [.d (.bool (decide (b0 < 0))), .d (.int .u64 r123), .d (.int .u64 r131)]) (H' := [.box [.d (.int .i64 a0), .d (.int .i64 a1)], .box [.d (.int .i64 b0), .d (.int .i64 b1)], .box [.d (.bool (decide (a0 < 0))), .d (.int .u64 r122), .d (.int .u64 r13)], .box [.d (.bool (decide (b0 < 0))), .d (.int .u64 r123), .d (.int .u64 r131)]]) 3 0 (by kernel_rfl) ty80 (by kernel_rfl) (by kernel_rfl) (by kernel_rfl))) (by kernel_rfl) ?_
    refine aDone (by kernel_rfl) ?_
    refine oSeq ?_
    refine oBlock ?_
    refine oSeq ?_
    refine oRegion rfl ?_
    refine oOp (.ptr 2 0) (by kernel_rfl) (by kernel_rfl) (PureV.does (k_fieldAddr 2 0 (by kernel_rfl) Try.underlying80 rfl ty4 (by kernel_rfl))) ?_
    refine oOp (.d (.bool (decide (a0 < 0)))) (by kernel_rfl) (by kernel_rfl) (Quiet.does (k_load 2 0 (by kernel_rfl) Try.underlying4 (by kernel_rfl) (by kernel_rfl))) ?_
    refine oOp (.d (.bool (decide (a0 < 0)))) (by kernel_rfl) (by kernel_rfl) (PureV.does (p_move (by kernel_rfl))) ?_
    refine bMeetF (H' := [.box [.d (.bool (decide (a0 < 0))), .d (.int .u64 r122), .d (.int .u64 r13)], .box [.d (.bool (decide (b0 < 0))), .d (.int .u64 r123), .d (.int .u64 r131)]]) 4 rfl ((fun (x9 : Bool) => [(5, .ptr 0 0), (6, .ptr 1 0), (34, .d (.bool x9))])) (fun x9 => ?_) (fun F hj1 => ?_)
    ·refine oView (T' := [(5, .ptr 0 0), (6, .ptr 1 0), (34, .d (.bool x9))]) (H' := [.box [.d (.bool (decide (a0 < 0))), .d (.int .u64 r122), .d (.int .u64 r13)], .box [.d (.bool (decide (b0 < 0))), .d (.int .u64 r123), .d (.int .u64 r131)]]) (by kernel_rfl) (by kernel_rfl) ?_
     refine oOp (.d (.bool x9)) (by kernel_rfl) (by kernel_rfl) (PureV.does (p_assign (by kernel_rfl))) ?_
     refine oEnd ?_
     refine bSplit 27 (by kernel_rfl) (fun hc => ?_) (fun hc => ?_)
     ·refine oCondT (by kernel_rfl) ?_
      refine oSeq ?_
      refine oRegion rfl ?_
      refine oOp (.d (.int .i64 (-1))) (by kernel_rfl) (by kernel_rfl) (PureV.does (p_assign (by kernel_rfl))) ?_
      refine oEnd ?_
      exact oRet (r0 := (-1)) (rv := .d (.int .i64 (-1))) (B := []) (vs := [.d (.int .i64 (-1))]) (σ := []) (by kernel_rfl) Try.func29 rfl (.cons _ _ _ _ (.tmp 4 _ (by kernel_rfl)) .nil) (by kernel_rfl) (by kernel_rfl) (by kernel_rfl) (by kernel_rfl) (by decide) (by kernel_rfl) (by kernel_rfl)
     ·refine oCondF (by kernel_rfl) ?_
      refine oSeq ?_
      refine oRegion rfl ?_
      refine oOp (.ptr 1 0) (by kernel_rfl) (by kernel_rfl) (PureV.does (k_fieldAddr 1 0 (by kernel_rfl) Try.underlying80 rfl ty4 (by kernel_rfl))) ?_
      refine oOp (.d (.bool (decide (b0 < 0)))) (by kernel_rfl) (by kernel_rfl) (Quiet.does (k_load 1 0 (by kernel_rfl) Try.underlying4 (by kernel_rfl) (by kernel_rfl))) ?_
      refine oOp (.d (.bool (decide (b0 < 0)))) (by kernel_rfl) (by kernel_rfl) (PureV.does (p_move (by kernel_rfl))) ?_
      refine bMeetF (H' := [.box [.d (.bool (decide (a0 < 0))), .d (.int .u64 r122), .d (.int .u64 r13)], .box [.d (.bool (decide (b0 < 0))), .d (.int .u64 r123), .d (.int .u64 r131)]]) 4 rfl ((fun (x11 : Bool) => [(5, .ptr 0 0), (6, .ptr 1 0), (42, .d (.bool x11))])) (fun x11 => ?_) (fun F hj2 => ?_)
      ·refine oView (T' := [(5, .ptr 0 0), (6, .ptr 1 0), (42, .d (.bool x11))]) (H' := [.box [.d (.bool (decide (a0 < 0))), .d (.int .u64 r122), .d (.int .u64 r13)], .box [.d (.bool (decide (b0 < 0))), .d (.int .u64 r123), .d (.int .u64 r131)]]) (by kernel_rfl) (by kernel_rfl) ?_
       refine oOp (.d (.bool x11)) (by kernel_rfl) (by kernel_rfl) (PureV.does (p_assign (by kernel_rfl))) ?_
       refine oEnd ?_
       refine bSplit 35 (by kernel_rfl) (fun hc => ?_) (fun hc => ?_)
       ·refine oCondT (by kernel_rfl) ?_
        refine oSeq ?_
        refine oRegion rfl ?_
        refine oOp (.d (.int .i64 1)) (by kernel_rfl) (by kernel_rfl) (PureV.does (p_assign (by kernel_rfl))) ?_
        refine oEnd ?_
        exact oRet (r0 := 1) (rv := .d (.int .i64 1)) (B := []) (vs := [.d (.int .i64 1)]) (σ := []) (by kernel_rfl) Try.func29 rfl (.cons _ _ _ _ (.tmp 4 _ (by kernel_rfl)) .nil) (by kernel_rfl) (by kernel_rfl) (by kernel_rfl) (by kernel_rfl) (by decide) (by kernel_rfl) (by kernel_rfl)
       ·refine oCondF (by kernel_rfl) ?_
        refine oSeq ?_
        refine oRegion rfl ?_
        refine oOp (.ptr 0 0) (by kernel_rfl) (by kernel_rfl) (PureV.does (k_fieldAddr 0 0 (by kernel_rfl) Try.underlying80 rfl ty4 (by kernel_rfl))) ?_
        refine oOp (.d (.bool (decide (a0 < 0)))) (by kernel_rfl) (by kernel_rfl) (Quiet.does (k_load 0 0 (by kernel_rfl) Try.underlying4 (by kernel_rfl) (by kernel_rfl))) ?_
        refine oOp (.d (.bool (decide (a0 < 0)))) (by kernel_rfl) (by kernel_rfl) (PureV.does (p_assign (by kernel_rfl))) ?_
        refine oEnd ?_
        refine bSplit 43 (by kernel_rfl) (fun hc => ?_) (fun hc => ?_)
        ·refine oCondT (by kernel_rfl) ?_
         refine oSeq ?_
         refine oRegion rfl ?_
         refine oOp (.agg [.d (.bool (decide (b0 < 0))), .d (.int .u64 r123), .d (.int .u64 r131)]) (by kernel_rfl) (by kernel_rfl) (Quiet.does (k_loadAgg 1 0 (by kernel_rfl) Try.underlying80 (by kernel_rfl) ty80 (by kernel_rfl))) ?_
         refine oOp (.agg [.d (.bool (decide (a0 < 0))), .d (.int .u64 r122), .d (.int .u64 r13)]) (by kernel_rfl) (by kernel_rfl) (Quiet.does (k_loadAgg 0 0 (by kernel_rfl) Try.underlying80 (by kernel_rfl) ty80 (by kernel_rfl))) ?_
         refine bCall (caps := []) (v := (fun (r113 : Int) => (.d (.int .i64 r113) : V))) (H' := (fun (r113 : Int) => ([.box [.d (.bool (decide (a0 < 0))), .d (.int .u64 r122), .d (.int .u64 r13)], .box [.d (.bool (decide (b0 < 0))), .d (.int .u64 r123), .d (.int .u64 r131)]] : List Blk))) [] _ (ratio_wide_compare_goes k (decide (b0 < 0)) r123 r131 (decide (a0 < 0)) r122 r13) (by kernel_rfl) (by kernel_rfl) rfl (by kernel_rfl) Try.func49 rfl (by kernel_rfl) (ConvRs.refl _ _) (by kernel_rfl) (by kernel_rfl) (by kernel_rfl) (by decide) (by kernel_rfl) (by kernel_rfl) (fun _ => (by kernel_rfl)) (fun _ => (by kernel_rfl)) (fun _ => (by kernel_rfl)) (fun r113 => ?_)
         refine oOp (.d (.int .i64 r113)) (by kernel_rfl) (by kernel_rfl) (PureV.does (p_assign (by kernel_rfl))) ?_
         refine oEnd ?_
         exact oRet (r0 := r113) (rv := .d (.int .i64 r113)) (B := []) (vs := [.d (.int .i64 r113)]) (σ := []) (by kernel_rfl) Try.func29 rfl (.cons _ _ _ _ (.tmp 4 _ (by kernel_rfl)) .nil) (by kernel_rfl) (by kernel_rfl) (by kernel_rfl) (by kernel_rfl) (by decide) (by kernel_rfl) (by kernel_rfl)
        ·refine oCondF (by kernel_rfl) ?_
         refine oSkip ?_
         refine oBlk ?_
         refine oSeq ?_
         refine oRegion rfl ?_
         refine oOp (.agg [.d (.bool (decide (a0 < 0))), .d (.int .u64 r122), .d (.int .u64 r13)]) (by kernel_rfl) (by kernel_rfl) (Quiet.does (k_loadAgg 0 0 (by kernel_rfl) Try.underlying80 (by kernel_rfl) ty80 (by kernel_rfl))) ?_
         refine oOp (.agg [.d (.bool (decide (b0 < 0))), .d (.int .u64 r123), .d (.int .u64 r131)]) (by kernel_rfl) (by kernel_rfl) (Quiet.does (k_loadAgg 1 0 (by kernel_rfl) Try.underlying80 (by kernel_rfl) ty80 (by kernel_rfl))) ?_
         refine bCall (caps := []) (v := (fun (r114 : Int) => (.d (.int .i64 r114) : V))) (H' := (fun (r114 : Int) => ([.box [.d (.bool (decide (a0 < 0))), .d (.int .u64 r122), .d (.int .u64 r13)], .box [.d (.bool (decide (b0 < 0))), .d (.int .u64 r123), .d (.int .u64 r131)]] : List Blk))) [] _ (ratio_wide_compare_goes k (decide (a0 < 0)) r122 r13 (decide (b0 < 0)) r123 r131) (by kernel_rfl) (by kernel_rfl) rfl (by kernel_rfl) Try.func49 rfl (by kernel_rfl) (ConvRs.refl _ _) (by kernel_rfl) (by kernel_rfl) (by kernel_rfl) (by decide) (by kernel_rfl) (by kernel_rfl) (fun _ => (by kernel_rfl)) (fun _ => (by kernel_rfl)) (fun _ => (by kernel_rfl)) (fun r114 => ?_)
         refine oOp (.d (.int .i64 r114)) (by kernel_rfl) (by kernel_rfl) (PureV.does (p_assign (by kernel_rfl))) ?_
         refine oEnd ?_
         exact oRet (r0 := r114) (rv := .d (.int .i64 r114)) (B := []) (vs := [.d (.int .i64 r114)]) (σ := []) (by kernel_rfl) Try.func29 rfl (.cons _ _ _ _ (.tmp 4 _ (by kernel_rfl)) .nil) (by kernel_rfl) (by kernel_rfl) (by kernel_rfl) (by kernel_rfl) (by decide) (by kernel_rfl) (by kernel_rfl)
      ·refine bPickF 38 (fun c => F (c && (!(decide (a0 < 0))))) (by kernel_rfl) (fun hc => ?_) (fun hc => ?_)
       ·refine oOp (.ptr 0 0) (by kernel_rfl) (by kernel_rfl) (PureV.does (k_fieldAddr 0 0 (by kernel_rfl) Try.underlying80 rfl ty4 (by kernel_rfl))) ?_
        refine oOp (.d (.bool (decide (a0 < 0)))) (by kernel_rfl) (by kernel_rfl) (Quiet.does (k_load 0 0 (by kernel_rfl) Try.underlying4 (by kernel_rfl) (by kernel_rfl))) ?_
        refine oOp (.d (.bool (!(decide (a0 < 0))))) (by kernel_rfl) (by kernel_rfl) (PureV.does (p_not (p := (decide (a0 < 0))) (by kernel_rfl) (by kernel_rfl))) ?_
        refine oOp (.d (.bool (!(decide (a0 < 0))))) (by kernel_rfl) (by kernel_rfl) (PureV.does (p_pick (b := true) (by kernel_rfl) (by kernel_rfl))) ?_
        refine oHead [5, 6, 42] [0, 1] (T' := [(5, .ptr 0 0), (6, .ptr 1 0), (42, .d (.bool (!(decide (a0 < 0)))))]) (H' := [.box [.d (.bool (decide (a0 < 0))), .d (.int .u64 r122), .d (.int .u64 r13)], .box [.d (.bool (decide (b0 < 0))), .d (.int .u64 r123), .d (.int .u64 r131)]]) (by kernel_rfl) (by kernel_rfl) (by kernel_rfl) (by kernel_rfl) (by decide) (by kernel_rfl) (by kernel_rfl) ?_
        exact hj2 (!(decide (a0 < 0)))
       ·refine oNot (by kernel_rfl) (by kernel_rfl) ?_
        refine oNot (by kernel_rfl) (by kernel_rfl) ?_
        refine oNot (by kernel_rfl) (by kernel_rfl) ?_
        refine oOp (.d (.bool false)) (by kernel_rfl) (by kernel_rfl) (PureV.does (p_pick (b := false) (by kernel_rfl) (by kernel_rfl))) ?_
        refine oHead [5, 6, 42] [0, 1] (T' := [(5, .ptr 0 0), (6, .ptr 1 0), (42, .d (.bool false))]) (H' := [.box [.d (.bool (decide (a0 < 0))), .d (.int .u64 r122), .d (.int .u64 r13)], .box [.d (.bool (decide (b0 < 0))), .d (.int .u64 r123), .d (.int .u64 r131)]]) (by kernel_rfl) (by kernel_rfl) (by kernel_rfl) (by kernel_rfl) (by decide) (by kernel_rfl) (by kernel_rfl) ?_
        exact hj2 false
    ·refine bPickF 30 (fun c => F (c && (!(decide (b0 < 0))))) (by kernel_rfl) (fun hc => ?_) (fun hc => ?_)
     ·refine oOp (.ptr 3 0) (by kernel_rfl) (by kernel_rfl) (PureV.does (k_fieldAddr 3 0 (by kernel_rfl) Try.underlying80 rfl ty4 (by kernel_rfl))) ?_
      refine oOp (.d (.bool (decide (b0 < 0)))) (by kernel_rfl) (by kernel_rfl) (Quiet.does (k_load 3 0 (by kernel_rfl) Try.underlying4 (by kernel_rfl) (by kernel_rfl))) ?_
      refine oOp (.d (.bool (!(decide (b0 < 0))))) (by kernel_rfl) (by kernel_rfl) (PureV.does (p_not (p := (decide (b0 < 0))) (by kernel_rfl) (by kernel_rfl))) ?_
      refine oOp (.d (.bool (!(decide (b0 < 0))))) (by kernel_rfl) (by kernel_rfl) (PureV.does (p_pick (b := true) (by kernel_rfl) (by kernel_rfl))) ?_
      refine oHead [5, 6, 34] [2, 3] (T' := [(5, .ptr 0 0), (6, .ptr 1 0), (34, .d (.bool (!(decide (b0 < 0)))))]) (H' := [.box [.d (.bool (decide (a0 < 0))), .d (.int .u64 r122), .d (.int .u64 r13)], .box [.d (.bool (decide (b0 < 0))), .d (.int .u64 r123), .d (.int .u64 r131)]]) (by kernel_rfl) (by kernel_rfl) (by kernel_rfl) (by kernel_rfl) (by decide) (by kernel_rfl) (by kernel_rfl) ?_
      exact hj1 (!(decide (b0 < 0)))
     ·refine oNot (by kernel_rfl) (by kernel_rfl) ?_
      refine oNot (by kernel_rfl) (by kernel_rfl) ?_
      refine oNot (by kernel_rfl) (by kernel_rfl) ?_
      refine oOp (.d (.bool false)) (by kernel_rfl) (by kernel_rfl) (PureV.does (p_pick (b := false) (by kernel_rfl) (by kernel_rfl))) ?_
      refine oHead [5, 6, 34] [2, 3] (T' := [(5, .ptr 0 0), (6, .ptr 1 0), (34, .d (.bool false))]) (H' := [.box [.d (.bool (decide (a0 < 0))), .d (.int .u64 r122), .d (.int .u64 r13)], .box [.d (.bool (decide (b0 < 0))), .d (.int .u64 r123), .d (.int .u64 r131)]]) (by kernel_rfl) (by kernel_rfl) (by kernel_rfl) (by kernel_rfl) (by decide) (by kernel_rfl) (by kernel_rfl) ?_
      exact hj1 false
  ·refine bSplit 10 (by kernel_rfl) (fun hc => ?_) (fun hc => ?_)
   ·refine oNot (by kernel_rfl) (by kernel_rfl) ?_
    refine oNot (by kernel_rfl) (by kernel_rfl) ?_
    refine oNot (by kernel_rfl) (by kernel_rfl) ?_
    refine oOp (.d (.bool true)) (by kernel_rfl) (by kernel_rfl) (PureV.does (p_pick (b := true) (by kernel_rfl) (by kernel_rfl))) ?_
    refine oHead [2, 3, 14] [0, 1] (T' := [(2, .ptr 0 0), (3, .ptr 1 0), (14, .d (.bool true))]) (H' := [.box [.d (.int .i64 a0), .d (.int .i64 a1)], .box [.d (.int .i64 b0), .d (.int .i64 b1)]]) (by kernel_rfl) (by kernel_rfl) (by kernel_rfl) (by kernel_rfl) (by decide) (by kernel_rfl) (by kernel_rfl) ?_
    exact hj3 true
   ·refine oOp (.agg [.d (.int .i64 b0), .d (.int .i64 b1)]) (by kernel_rfl) (by kernel_rfl) (Quiet.does (k_loadAgg 1 0 (by kernel_rfl) Try.underlying37 (by kernel_rfl) ty37 (by kernel_rfl))) ?_
    refine bCall (caps := []) (v := (fun (r126 : Bool) => (.d (.bool r126) : V))) (H' := (fun (r126 : Bool) => ([.box [.d (.int .i64 a0), .d (.int .i64 a1)], .box [.d (.int .i64 b0), .d (.int .i64 b1)]] : List Blk))) [] _ (ratio_Valid_goes k b0 b1) (by kernel_rfl) (by kernel_rfl) rfl (by kernel_rfl) Try.func24 rfl (by kernel_rfl) (ConvRs.refl _ _) (by kernel_rfl) (by kernel_rfl) (by kernel_rfl) (by decide) (by kernel_rfl) (by kernel_rfl) (fun _ => (by kernel_rfl)) (fun _ => (by kernel_rfl)) (fun _ => (by kernel_rfl)) (fun r126 => ?_)
    refine oOp (.d (.bool (!r126))) (by kernel_rfl) (by kernel_rfl) (PureV.does (p_not (p := r126) (by kernel_rfl) (by kernel_rfl))) ?_
    refine oOp (.d (.bool (!r126))) (by kernel_rfl) (by kernel_rfl) (PureV.does (p_pick (b := false) (by kernel_rfl) (by kernel_rfl))) ?_
    refine oHead [2, 3, 14] [0, 1] (T' := [(2, .ptr 0 0), (3, .ptr 1 0), (14, .d (.bool (!r126)))]) (H' := [.box [.d (.int .i64 a0), .d (.int .i64 a1)], .box [.d (.int .i64 b0), .d (.int .i64 b1)]]) (by kernel_rfl) (by kernel_rfl) (by kernel_rfl) (by kernel_rfl) (by decide) (by kernel_rfl) (by kernel_rfl) ?_
    exact hj3 (!r126)

/-- awardingbody/ratio.Less -/
def ratio_Less (k : Nat) (a0 : Int) (a1 : Int) (b0 : Int) (b1 : Int) : Option (Bool) := Option.bind (ratio_Compare k a0 a1 b0 b1) (fun r181 => some (r181 == (-1)))
def ratio_Less_E (a0 : Int) (a1 : Int) (b0 : Int) (b1 : Int) : Bool → V × List Blk := fun r1 => (.d (.bool r1), [])
theorem ratio_Less_goes (k : Nat) (a0 : Int) (a1 : Int) (b0 : Int) (b1 : Int) : RunsO Try.prog 34 [.agg [.d (.int .i64 a0), .d (.int .i64 a1)], .agg [.d (.int .i64 b0), .d (.int .i64 b1)]] [] (ratio_Less_E a0 a1 b0 b1) (ratio_Less k a0 a1 b0 b1) := by
  refine RunsO.of_goes (N := 9) (m := 0) (T := [(0, .agg [.d (.int .i64 a0), .d (.int .i64 a1)]), (1, .agg [.d (.int .i64 b0), .d (.int .i64 b1)])]) Try.func34 rfl rfl (by kernel_rfl) (by kernel_rfl) (by kernel_rfl) ?_
  unfold ratio_Less
  refine bStart ?_
  refine oSeq ?_
  refine oRegion rfl ?_
  refine oOp (.ptr 0 0) (by kernel_rfl) (by kernel_rfl) (k_box (H' := [.box [.d (.int .i64 a0), .d (.int .i64 a1)]]) (cells := [.d (.int .i64 a0), .d (.int .i64 a1)]) (by kernel_rfl) (by kernel_rfl) (by kernel_rfl)) ?_
  refine oOp (.ptr 1 0) (by kernel_rfl) (by kernel_rfl) (k_box (H' := [.box [.d (.int .i64 a0), .d (.int .i64 a1)], .box [.d (.int .i64 b0), .d (.int .i64 b1)]]) (cells := [.d (.int .i64 b0), .d (.int .i64 b1)]) (by kernel_rfl) (by kernel_rfl) (by kernel_rfl)) ?_
  refine oOp (.d (.bool false)) (by kernel_rfl) (by kernel_rfl) (PureV.does (p_assign (by kernel_rfl))) ?_
  refine oEnd ?_
  refine oSeq ?_
  refine oRegion rfl ?_
  refine oOp (.agg [.d (.int .i64 a0), .d (.int .i64 a1)]) (by kernel_rfl) (by kernel_rfl) (Quiet.does (k_loadAgg 0 0 (by kernel_rfl) Try.underlying37 (by kernel_rfl) ty37 (by kernel_rfl))) ?_
  refine oOp (.agg [.d (.int .i64 b0), .d (.int .i64 b1)]) (by kernel_rfl) (by kernel_rfl) (Quiet.does (k_loadAgg 1 0 (by kernel_rfl) Try.underlying37 (by kernel_rfl) ty37 (by kernel_rfl))) ?_
  refine bCall (caps := []) (v := (fun (r181 : Int) => (.d (.int .i64 r181) : V))) (H' := (fun (r181 : Int) => ([.box [.d (.int .i64 a0), .d (.int .i64 a1)], .box [.d (.int .i64 b0), .d (.int .i64 b1)]] : List Blk))) [] _ (ratio_Compare_goes k a0 a1 b0 b1) (by kernel_rfl) (by kernel_rfl) rfl (by kernel_rfl) Try.func29 rfl (by kernel_rfl) (ConvRs.refl _ _) (by kernel_rfl) (by kernel_rfl) (by kernel_rfl) (by decide) (by kernel_rfl) (by kernel_rfl) (fun _ => (by kernel_rfl)) (fun _ => (by kernel_rfl)) (fun _ => (by kernel_rfl)) (fun r181 => ?_)
  refine oOp (.d (.bool (r181 == (-1)))) (by kernel_rfl) (by kernel_rfl) (PureV.does (p_int (k := .i64) (p := r181) (q := (-1)) (by kernel_rfl) (by kernel_rfl) (by kernel_rfl))) ?_
  refine oOp (.d (.bool (r181 == (-1)))) (by kernel_rfl) (by kernel_rfl) (PureV.does (p_assign (by kernel_rfl))) ?_
  refine oEnd ?_
  exact oRet (r0 := (r181 == (-1))) (rv := .d (.bool (r181 == (-1)))) (B := []) (vs := [.d (.bool (r181 == (-1)))]) (σ := []) (by kernel_rfl) Try.func34 rfl (.cons _ _ _ _ (.tmp 4 _ (by kernel_rfl)) .nil) (by kernel_rfl) (by kernel_rfl) (by kernel_rfl) (by kernel_rfl) (by decide) (by kernel_rfl) (by kernel_rfl)

/-- awardingbody/conversion.right -/
def conversion_right_b1 (k : Nat) (l : (List SPoint)) (again : Int → Option ((Unit) ⊕ (Bool))) : Int → Option ((Unit) ⊕ (Bool)) := fun x76 => bif (decide (x76 < ((List.length l) : Int))) then gidx l x76 fun e114 => Option.bind (ratio_Valid k e114.X_Num e114.X_Den) (fun r12 => Option.bind (bif (!r12) then some true else Option.bind (ratio_Valid k e114.Y_Num e114.Y_Den) (fun r121 => some (!r121)) : Option Bool) (fun x118 => Option.bind (bif x118 then some true else Option.bind (bif (decide (x76 > 0)) then gidx l (IntKind.wrap .i64 (x76 - 1)) fun e13 => Option.bind (ratio_Less k e13.X_Num e13.X_Den e114.X_Num e114.X_Den) (fun r1 => Option.bind (bif (!r1) then some true else Option.bind (ratio_Less k e13.Y_Num e13.Y_Den e114.Y_Num e114.Y_Den) (fun r11 => some (!r11)) : Option Bool) (fun x125 => some x125)) else some false : Option Bool) (fun x124 => some x124) : Option Bool) (fun x122 => bif x122 then some (Sum.inr false) else again (IntKind.wrap .i64 (x76 + 1))))) else some (Sum.inl ())
def conversion_right (k : Nat) (l : (List SPoint)) : Option (Bool) := Option.bind (gloop (conversion_right_b1 k l) k 0 : Option ((Unit) ⊕ (Bool))) (Sum.elim (u0 (some (decide (((List.length l) : Int) ≥ 2)))) (fun r => some r))
def conversion_right_E (l : (List SPoint)) : Bool → V × List Blk := fun r13 => (.d (.bool r13), [])
theorem conversion_right_goes (k : Nat) (l : (List SPoint)) : RunsO Try.prog 23 [.d (.lit (List.map e_SPoint l))] [] (conversion_right_E l) (conversion_right k l) := by
  refine RunsO.of_goes (N := 54) (m := 0) (T := [(0, .d (.lit (List.map e_SPoint l)))]) Try.func23 rfl rfl (by kernel_rfl) (by kernel_rfl) (by kernel_rfl) ?_
  unfold conversion_right
  refine bStart ?_
  refine oSeq ?_
  refine oRegion rfl ?_
  refine oOp (.d (.bool false)) (by kernel_rfl) (by kernel_rfl) (PureV.does (p_assign (by kernel_rfl))) ?_
  refine oEnd ?_
  refine oSeq ?_
  refine oSeq ?_
  refine oRegion rfl ?_
  refine oOp (.d (.lit (List.map e_SPoint l))) (by kernel_rfl) (by kernel_rfl) (PureV.does (p_move (by kernel_rfl))) ?_
  refine oOp (.d (.int .i64 ((List.length l) : Int))) (by kernel_rfl) (by kernel_rfl) (PureV.does (k_lenLit (enc := e_SPoint) l (by kernel_rfl) Try.underlying27)) ?_
  refine oOp (.d (.int .i64 0)) (by kernel_rfl) (by kernel_rfl) (PureV.does (p_move (by kernel_rfl))) ?_
  refine oEnd ?_
  refine bJoin ((u0 ([(0, .d (.lit (List.map e_SPoint l)))]))) ((u0 ([]))) Sum.inl (fun s => ?_) (fun hj42 => ?_)
  ·cases s
   refine bInl ?_
   refine bU0 ?_
   refine oView (T' := [(0, .d (.lit (List.map e_SPoint l)))]) (H' := []) (by kernel_rfl) (by kernel_rfl) ?_
   refine oSeq ?_
   refine oRegion rfl ?_
   refine oOp (.d (.lit (List.map e_SPoint l))) (by kernel_rfl) (by kernel_rfl) (PureV.does (p_move (by kernel_rfl))) ?_
   refine oOp (.d (.int .i64 ((List.length l) : Int))) (by kernel_rfl) (by kernel_rfl) (PureV.does (k_lenLit (enc := e_SPoint) l (by kernel_rfl) Try.underlying27)) ?_
   refine oOp (.d (.bool (decide (((List.length l) : Int) ≥ 2)))) (by kernel_rfl) (by kernel_rfl) (PureV.does (p_int (k := .i64) (p := ((List.length l) : Int)) (q := 2) (by kernel_rfl) (by kernel_rfl) (by kernel_rfl))) ?_
   refine oOp (.d (.bool (decide (((List.length l) : Int) ≥ 2)))) (by kernel_rfl) (by kernel_rfl) (PureV.does (p_assign (by kernel_rfl))) ?_
   refine oEnd ?_
   exact oRet (r0 := (decide (((List.length l) : Int) ≥ 2))) (rv := .d (.bool (decide (((List.length l) : Int) ≥ 2)))) (B := []) (vs := [.d (.bool (decide (((List.length l) : Int) ≥ 2)))]) (σ := []) (by kernel_rfl) Try.func23 rfl (.cons _ _ _ _ (.tmp 2 _ (by kernel_rfl)) .nil) (by kernel_rfl) (by kernel_rfl) (by kernel_rfl) (by kernel_rfl) (by decide) (by kernel_rfl) (by kernel_rfl)
  ·refine oBlock ?_
   refine oLoop ?_
   refine oHead [0, 5, 6, 7] [] (T' := [(0, .d (.lit (List.map e_SPoint l))), (5, .d (.lit (List.map e_SPoint l))), (6, .d (.int .i64 ((List.length l) : Int))), (7, .d (.int .i64 0))]) (H' := []) (by kernel_rfl) (by kernel_rfl) (by kernel_rfl) (by kernel_rfl) (by decide) (by kernel_rfl) (by kernel_rfl) ?_
   refine bLoop (body := conversion_right_b1 k l) ((fun (x76 : Int) => [(0, .d (.lit (List.map e_SPoint l))), (5, .d (.lit (List.map e_SPoint l))), (6, .d (.int .i64 ((List.length l) : Int))), (7, .d (.int .i64 x76))])) ((fun (x76 : Int) => [])) (fun again hag1 x76 => ?_) k 0
   ·unfold conversion_right_b1
    refine oView (T' := [(0, .d (.lit (List.map e_SPoint l))), (5, .d (.lit (List.map e_SPoint l))), (6, .d (.int .i64 ((List.length l) : Int))), (7, .d (.int .i64 x76))]) (H' := []) (by kernel_rfl) (by kernel_rfl) ?_
    refine oSeq ?_
    refine oRegion rfl ?_
    refine oOp (.d (.bool (decide (x76 < ((List.length l) : Int))))) (by kernel_rfl) (by kernel_rfl) (PureV.does (p_int (k := .i64) (p := x76) (q := ((List.length l) : Int)) (by kernel_rfl) (by kernel_rfl) (by kernel_rfl))) ?_
    refine oEnd ?_
    refine oSeq ?_
    refine bSplit 8 (by kernel_rfl) (fun hc => ?_) (fun hc => ?_)
    ·refine oCondT (by kernel_rfl) ?_
     refine oSkip ?_
     refine oSeq ?_
     refine oBlock ?_
     refine oSeq ?_
     refine oRegion rfl ?_
     refine oOp (.d (.int .i64 x76)) (by kernel_rfl) (by kernel_rfl) (PureV.does (p_move (by kernel_rfl))) ?_
     refine bIdx (fun e114 h128 h129 => ?_)
     refine oOp (.lptr (e_SPoint e114) 0) (by kernel_rfl) (by kernel_rfl) (PureV.does (k_idxLit e_SPoint_len l (a := e114) (by kernel_rfl) (k := .i64) (i := x76) (by kernel_rfl) Try.underlying27 ty39 h128 h129)) ?_
     refine oOp (.agg [.d (.int .i64 e114.X_Num), .d (.int .i64 e114.X_Den), .d (.int .i64 e114.Y_Num), .d (.int .i64 e114.Y_Den)]) (by kernel_rfl) (by kernel_rfl) (Quiet.does (k_loadLAgg (cells := e_SPoint e114) 0 [(.int .i64 e114.X_Num), (.int .i64 e114.X_Den), (.int .i64 e114.Y_Num), (.int .i64 e114.Y_Den)] (by kernel_rfl) Try.underlying39 (by kernel_rfl) ty39 (by kernel_rfl) (by kernel_rfl) (by kernel_rfl))) ?_
     refine oOp (.ptr 0 0) (by kernel_rfl) (by kernel_rfl) (k_alloc (H' := [.box [.d (.int .i64 0), .d (.int .i64 0), .d (.int .i64 0), .d (.int .i64 0)]]) ty39 (by kernel_rfl) (by kernel_rfl)) ?_
     refine oOp (.d (.int .i64 x76)) (by kernel_rfl) (by kernel_rfl) (PureV.does (p_assign (by kernel_rfl))) ?_
     refine oOp (.undef) (by kernel_rfl) (by kernel_rfl) (k_store (vs := [.d (.int .i64 e114.X_Num), .d (.int .i64 e114.X_Den), .d (.int .i64 e114.Y_Num), .d (.int .i64 e114.Y_Den)]) (H' := [.box [.d (.int .i64 e114.X_Num), .d (.int .i64 e114.X_Den), .d (.int .i64 e114.Y_Num), .d (.int .i64 e114.Y_Den)]]) 0 0 (by kernel_rfl) ty39 (by kernel_rfl) (by kernel_rfl) (by kernel_rfl)) ?_
     refine oEnd ?_
     refine oSeq ?_
     refine oDraw [(0, 38)] rfl ?_
     refine aTakeL (i := 0) (st' := []) (.ptr 0 0) rfl (by kernel_rfl) (by kernel_rfl) (by kernel_rfl) (by kernel_rfl) (by kernel_rfl) (by kernel_rfl) (by kernel_rfl) (PureV.quiet (k_fieldAddr 0 0 (by kernel_rfl) Try.underlying39 rfl ty37 (by kernel_rfl)) []) ?_
     refine aTakeL (i := 1) (st' := [0]) (.agg [.d (.int .i64 e114.X_Num), .d (.int .i64 e114.X_Den)]) rfl (by kernel_rfl) (by kernel_rfl) (by kernel_rfl) (by kernel_rfl) (by kernel_rfl) (by kernel_rfl) (by kernel_rfl) (k_loadAgg 0 0 (by kernel_rfl) Try.underlying37 (by kernel_rfl) ty37 (by kernel_rfl)) ?_
     refine dCall (i := 2) (caps := []) (v := (fun (r12 : Bool) => (.d (.bool r12) : V))) (H' := (fun (r12 : Bool) => ([.box [.d (.int .i64 e114.X_Num), .d (.int .i64 e114.X_Den), .d (.int .i64 e114.Y_Num), .d (.int .i64 e114.Y_Den)]] : List Blk))) [] _ (ratio_Valid_goes k e114.X_Num e114.X_Den) rfl (by kernel_rfl) (by kernel_rfl) (by kernel_rfl) (by kernel_rfl) (by kernel_rfl) (by kernel_rfl) (by kernel_rfl) (by kernel_rfl) rfl (by kernel_rfl) Try.func24 rfl (by kernel_rfl) (ConvRs.refl _ _) (by kernel_rfl) (by kernel_rfl) (by kernel_rfl) (by decide) (by kernel_rfl) (by kernel_rfl) (fun _ => (by kernel_rfl)) (fun _ => (by kernel_rfl)) (fun _ => (by kernel_rfl)) (fun r12 => ?_)
     refine aTakeL (i := 3) (st' := []) (.d (.bool (!r12))) rfl (by kernel_rfl) (by kernel_rfl) (by kernel_rfl) (by kernel_rfl) (by kernel_rfl) (by kernel_rfl) (by kernel_rfl) (PureV.quiet (p_not (p := r12) (by kernel_rfl) (by kernel_rfl)) []) ?_
     refine aTakeL (i := 4) (st' := []) (.d (.bool (!r12))) rfl (by kernel_rfl) (by kernel_rfl) (by kernel_rfl) (by kernel_rfl) (by kernel_rfl) (by kernel_rfl) (by kernel_rfl) (PureV.quiet (p_move (by kernel_rfl)) []) ?_
     refine dMeet [9, 8, 7, 6, 5, 4, 3, 2, 1, 0] (fun (x118 : Bool) => [(0, .d (.lit (List.map e_SPoint l))), (3, .d (.int .i64 x76)), (4, .ptr 0 0), (5, .d (.lit (List.map e_SPoint l))), (6, .d (.int .i64 ((List.length l) : Int))), (7, .d (.int .i64 x76)), (21, .d (.bool x118))]) (fun (x118 : Bool) => [(0, .d (.lit (List.map e_SPoint l))), (3, .d (.int .i64 x76)), (4, .ptr 0 0), (5, .d (.lit (List.map e_SPoint l))), (6, .d (.int .i64 ((List.length l) : Int))), (7, .d (.int .i64 x76)), (21, .d (.bool x118))]) (fun _ => [.box [.d (.int .i64 e114.X_Num), .d (.int .i64 e114.X_Den), .d (.int .i64 e114.Y_Num), .d (.int .i64 e114.Y_Den)]]) (fun s => s) (fun x118 => ?_) (fun hj71 => ?_)
     ·refine aTakeL (i := 10) (st' := []) (.d (.bool x118)) rfl (by kernel_rfl) (by kernel_rfl) (by kernel_rfl) (by kernel_rfl) (by kernel_rfl) (by kernel_rfl) (by kernel_rfl) (PureV.quiet (p_move (by kernel_rfl)) []) ?_
      refine dMeet [37, 36, 35, 34, 33, 32, 31, 30, 29, 28, 27, 26, 25, 24, 23, 22, 21, 20, 19, 18, 17, 16, 15, 14, 13, 12, 11, 10, 9, 8, 7, 6, 5, 4, 3, 2, 1, 0] (fun (x122 : Bool) => [(0, .d (.lit (List.map e_SPoint l))), (5, .d (.lit (List.map e_SPoint l))), (6, .d (.int .i64 ((List.length l) : Int))), (7, .d (.int .i64 x76)), (49, .d (.bool x122))]) (fun (x122 : Bool) => [(0, .d (.lit (List.map e_SPoint l))), (5, .d (.lit (List.map e_SPoint l))), (6, .d (.int .i64 ((List.length l) : Int))), (7, .d (.int .i64 x76)), (49, .d (.bool x122))]) (fun _ => [.box [.d (.int .i64 e114.X_Num), .d (.int .i64 e114.X_Den), .d (.int .i64 e114.Y_Num), .d (.int .i64 e114.Y_Den)]]) (fun s => s) (fun x122 => ?_) (fun hj75 => ?_)
      ·refine aDone (by kernel_rfl) ?_
       refine bSplit 49 (by kernel_rfl) (fun hc => ?_) (fun hc => ?_)
       ·refine oCondT (by kernel_rfl) ?_
        refine oSeq ?_
        refine oRegion rfl ?_
        refine oOp (.d (.bool false)) (by kernel_rfl) (by kernel_rfl) (PureV.does (p_assign (by kernel_rfl))) ?_
        refine oEnd ?_
        exact oRet (r0 := false) (rv := .d (.bool false)) (B := []) (vs := [.d (.bool false)]) (σ := []) (by kernel_rfl) Try.func23 rfl (.cons _ _ _ _ (.tmp 2 _ (by kernel_rfl)) .nil) (by kernel_rfl) (by kernel_rfl) (by kernel_rfl) (by kernel_rfl) (by decide) (by kernel_rfl) (by kernel_rfl)
       ·refine oCondF (by kernel_rfl) ?_
        refine oSkip ?_
        refine oBlk ?_
        refine oRegion rfl ?_
        refine oOp (.d (.int .i64 (IntKind.wrap .i64 (x76 + 1)))) (by kernel_rfl) (by kernel_rfl) (PureV.does (p_int (k := .i64) (p := x76) (q := 1) (by kernel_rfl) (by kernel_rfl) (by kernel_rfl))) ?_
        refine oOp (.d (.int .i64 (IntKind.wrap .i64 (x76 + 1)))) (by kernel_rfl) (by kernel_rfl) (PureV.does (p_move (by kernel_rfl))) ?_
        refine oEnd ?_
        refine oAgain ?_
        refine oHead [0, 5, 6, 7] [] (T' := [(0, .d (.lit (List.map e_SPoint l))), (5, .d (.lit (List.map e_SPoint l))), (6, .d (.int .i64 ((List.length l) : Int))), (7, .d (.int .i64 (IntKind.wrap .i64 (x76 + 1))))]) (H' := []) (by kernel_rfl) (by kernel_rfl) (by kernel_rfl) (by kernel_rfl) (by decide) (by kernel_rfl) (by kernel_rfl) ?_
        exact hag1 (IntKind.wrap .i64 (x76 + 1))
      ·refine dSplit 22 (by kernel_rfl) (by kernel_rfl) (fun hc => ?_) (fun hc => ?_)
       ·refine aTakeNot (i := 11) rfl (by kernel_rfl) (by kernel_rfl) (by kernel_rfl) (by kernel_rfl) (by kernel_rfl) (by kernel_rfl) (by kernel_rfl) ?_
        refine aTakeNot (i := 12) rfl (by kernel_rfl) (by kernel_rfl) (by kernel_rfl) (by kernel_rfl) (by kernel_rfl) (by kernel_rfl) (by kernel_rfl) ?_
        refine aTakeNot (i := 13) rfl (by kernel_rfl) (by kernel_rfl) (by kernel_rfl) (by kernel_rfl) (by kernel_rfl) (by kernel_rfl) (by kernel_rfl) ?_
        refine aTakeNot (i := 14) rfl (by kernel_rfl) (by kernel_rfl) (by kernel_rfl) (by kernel_rfl) (by kernel_rfl) (by kernel_rfl) (by kernel_rfl) ?_
        refine aTakeNot (i := 15) rfl (by kernel_rfl) (by kernel_rfl) (by kernel_rfl) (by kernel_rfl) (by kernel_rfl) (by kernel_rfl) (by kernel_rfl) ?_
        refine aTakeNot (i := 16) rfl (by kernel_rfl) (by kernel_rfl) (by kernel_rfl) (by kernel_rfl) (by kernel_rfl) (by kernel_rfl) (by kernel_rfl) ?_
        refine aTakeNot (i := 17) rfl (by kernel_rfl) (by kernel_rfl) (by kernel_rfl) (by kernel_rfl) (by kernel_rfl) (by kernel_rfl) (by kernel_rfl) ?_
        refine aTakeNot (i := 18) rfl (by kernel_rfl) (by kernel_rfl) (by kernel_rfl) (by kernel_rfl) (by kernel_rfl) (by kernel_rfl) (by kernel_rfl) ?_
        refine aTakeNot (i := 19) rfl (by kernel_rfl) (by kernel_rfl) (by kernel_rfl) (by kernel_rfl) (by kernel_rfl) (by kernel_rfl) (by kernel_rfl) ?_
        refine aTakeNot (i := 20) rfl (by kernel_rfl) (by kernel_rfl) (by kernel_rfl) (by kernel_rfl) (by kernel_rfl) (by kernel_rfl) (by kernel_rfl) ?_
        refine aTakeNot (i := 21) rfl (by kernel_rfl) (by kernel_rfl) (by kernel_rfl) (by kernel_rfl) (by kernel_rfl) (by kernel_rfl) (by kernel_rfl) ?_
        refine aTakeNot (i := 22) rfl (by kernel_rfl) (by kernel_rfl) (by kernel_rfl) (by kernel_rfl) (by kernel_rfl) (by kernel_rfl) (by kernel_rfl) ?_
        refine aTakeNot (i := 23) rfl (by kernel_rfl) (by kernel_rfl) (by kernel_rfl) (by kernel_rfl) (by kernel_rfl) (by kernel_rfl) (by kernel_rfl) ?_
        refine aTakeNot (i := 24) rfl (by kernel_rfl) (by kernel_rfl) (by kernel_rfl) (by kernel_rfl) (by kernel_rfl) (by kernel_rfl) (by kernel_rfl) ?_
        refine aTakeNot (i := 25) rfl (by kernel_rfl) (by kernel_rfl) (by kernel_rfl) (by kernel_rfl) (by kernel_rfl) (by kernel_rfl) (by kernel_rfl) ?_
        refine aTakeNot (i := 26) rfl (by kernel_rfl) (by kernel_rfl) (by kernel_rfl) (by kernel_rfl) (by kernel_rfl) (by kernel_rfl) (by kernel_rfl) ?_
        refine aTakeNot (i := 27) rfl (by kernel_rfl) (by kernel_rfl) (by kernel_rfl) (by kernel_rfl) (by kernel_rfl) (by kernel_rfl) (by kernel_rfl) ?_
        refine aTakeNot (i := 28) rfl (by kernel_rfl) (by kernel_rfl) (by kernel_rfl) (by kernel_rfl) (by kernel_rfl) (by kernel_rfl) (by kernel_rfl) ?_
        refine aTakeNot (i := 29) rfl (by kernel_rfl) (by kernel_rfl) (by kernel_rfl) (by kernel_rfl) (by kernel_rfl) (by kernel_rfl) (by kernel_rfl) ?_
        refine aTakeNot (i := 30) rfl (by kernel_rfl) (by kernel_rfl) (by kernel_rfl) (by kernel_rfl) (by kernel_rfl) (by kernel_rfl) (by kernel_rfl) ?_
        refine aTakeNot (i := 31) rfl (by kernel_rfl) (by kernel_rfl) (by kernel_rfl) (by kernel_rfl) (by kernel_rfl) (by kernel_rfl) (by kernel_rfl) ?_
        refine aTakeNot (i := 32) rfl (by kernel_rfl) (by kernel_rfl) (by kernel_rfl) (by kernel_rfl) (by kernel_rfl) (by kernel_rfl) (by kernel_rfl) ?_
        refine aTakeNot (i := 33) rfl (by kernel_rfl) (by kernel_rfl) (by kernel_rfl) (by kernel_rfl) (by kernel_rfl) (by kernel_rfl) (by kernel_rfl) ?_
        refine aTakeNot (i := 34) rfl (by kernel_rfl) (by kernel_rfl) (by kernel_rfl) (by kernel_rfl) (by kernel_rfl) (by kernel_rfl) (by kernel_rfl) ?_
        refine aTakeNot (i := 35) rfl (by kernel_rfl) (by kernel_rfl) (by kernel_rfl) (by kernel_rfl) (by kernel_rfl) (by kernel_rfl) (by kernel_rfl) ?_
        refine aTakeNot (i := 36) rfl (by kernel_rfl) (by kernel_rfl) (by kernel_rfl) (by kernel_rfl) (by kernel_rfl) (by kernel_rfl) (by kernel_rfl) ?_
        refine aTakeL (i := 37) (st' := []) (.d (.bool true)) rfl (by kernel_rfl) (by kernel_rfl) (by kernel_rfl) (by kernel_rfl) (by kernel_rfl) (by kernel_rfl) (by kernel_rfl) (PureV.quiet (p_pick (b := true) (by kernel_rfl) (by kernel_rfl)) []) ?_
        refine dDrop [0, 5, 6, 7, 49] [0, 5, 6, 7, 49] (T' := [(0, .d (.lit (List.map e_SPoint l))), (5, .d (.lit (List.map e_SPoint l))), (6, .d (.int .i64 ((List.length l) : Int))), (7, .d (.int .i64 x76)), (49, .d (.bool true))]) (U' := [(0, .d (.lit (List.map e_SPoint l))), (5, .d (.lit (List.map e_SPoint l))), (6, .d (.int .i64 ((List.length l) : Int))), (7, .d (.int .i64 x76)), (49, .d (.bool true))]) (by kernel_rfl) (by kernel_rfl) ?_
        exact hj75 true
       ·refine aTakeL (i := 11) (st' := []) (.d (.int .i64 x76)) rfl (by kernel_rfl) (by kernel_rfl) (by kernel_rfl) (by kernel_rfl) (by kernel_rfl) (by kernel_rfl) (by kernel_rfl) (PureV.quiet (p_move (by kernel_rfl)) []) ?_
        refine aTakeL (i := 12) (st' := []) (.d (.bool (decide (x76 > 0)))) rfl (by kernel_rfl) (by kernel_rfl) (by kernel_rfl) (by kernel_rfl) (by kernel_rfl) (by kernel_rfl) (by kernel_rfl) (PureV.quiet (p_int (k := .i64) (p := x76) (q := 0) (by kernel_rfl) (by kernel_rfl) (by kernel_rfl)) []) ?_
        refine aTakeL (i := 13) (st' := []) (.d (.bool (decide (x76 > 0)))) rfl (by kernel_rfl) (by kernel_rfl) (by kernel_rfl) (by kernel_rfl) (by kernel_rfl) (by kernel_rfl) (by kernel_rfl) (PureV.quiet (p_move (by kernel_rfl)) []) ?_
        refine dMeet [36, 35, 34, 33, 32, 31, 30, 29, 28, 27, 26, 25, 24, 23, 22, 21, 20, 19, 18, 17, 16, 15, 14, 13, 12, 11, 10, 9, 8, 7, 6, 5, 4, 3, 2, 1, 0] (fun (x124 : Bool) => [(0, .d (.lit (List.map e_SPoint l))), (5, .d (.lit (List.map e_SPoint l))), (6, .d (.int .i64 ((List.length l) : Int))), (7, .d (.int .i64 x76)), (22, .d (.bool false)), (48, .d (.bool x124))]) (fun (x124 : Bool) => [(0, .d (.lit (List.map e_SPoint l))), (5, .d (.lit (List.map e_SPoint l))), (6, .d (.int .i64 ((List.length l) : Int))), (7, .d (.int .i64 x76)), (22, .d (.bool false)), (48, .d (.bool x124))]) (fun _ => [.box [.d (.int .i64 e114.X_Num), .d (.int .i64 e114.X_Den), .d (.int .i64 e114.Y_Num), .d (.int .i64 e114.Y_Den)]]) (fun s => s) (fun x124 => ?_) (fun hj77 => ?_)
        ·refine aTakeL (i := 37) (st' := []) (.d (.bool x124)) rfl (by kernel_rfl) (by kernel_rfl) (by kernel_rfl) (by kernel_rfl) (by kernel_rfl) (by kernel_rfl) (by kernel_rfl) (PureV.quiet (p_pick (b := false) (by kernel_rfl) (by kernel_rfl)) []) ?_
         refine dDrop [0, 5, 6, 7, 49] [0, 5, 6, 7, 49] (T' := [(0, .d (.lit (List.map e_SPoint l))), (5, .d (.lit (List.map e_SPoint l))), (6, .d (.int .i64 ((List.length l) : Int))), (7, .d (.int .i64 x76)), (49, .d (.bool x124))]) (U' := [(0, .d (.lit (List.map e_SPoint l))), (5, .d (.lit (List.map e_SPoint l))), (6, .d (.int .i64 ((List.length l) : Int))), (7, .d (.int .i64 x76)), (49, .d (.bool x124))]) (by kernel_rfl) (by kernel_rfl) ?_
         exact hj75 x124
        ·refine dSplit 25 (by kernel_rfl) (by kernel_rfl) (fun hc => ?_) (fun hc => ?_)
         ·refine aTakeL (i := 14) (st' := []) (.d (.lit (List.map e_SPoint l))) rfl (by kernel_rfl) (by kernel_rfl) (by kernel_rfl) (by kernel_rfl) (by kernel_rfl) (by kernel_rfl) (by kernel_rfl) (PureV.quiet (p_move (by kernel_rfl)) []) ?_
          refine aTakeL (i := 15) (st' := []) (.d (.int .i64 x76)) rfl (by kernel_rfl) (by kernel_rfl) (by kernel_rfl) (by kernel_rfl) (by kernel_rfl) (by kernel_rfl) (by kernel_rfl) (PureV.quiet (p_move (by kernel_rfl)) []) ?_
          refine aTakeL (i := 16) (st' := []) (.d (.int .i64 (IntKind.wrap .i64 (x76 - 1)))) rfl (by kernel_rfl) (by kernel_rfl) (by kernel_rfl) (by kernel_rfl) (by kernel_rfl) (by kernel_rfl) (by kernel_rfl) (PureV.quiet (p_int (k := .i64) (p := x76) (q := 1) (by kernel_rfl) (by kernel_rfl) (by kernel_rfl)) []) ?_
          refine dIdx (fun e13 h16 h17 => ?_)
          refine aTakeL (i := 17) (st' := []) (.lptr (e_SPoint e13) 0) rfl (by kernel_rfl) (by kernel_rfl) (by kernel_rfl) (by kernel_rfl) (by kernel_rfl) (by kernel_rfl) (by kernel_rfl) (PureV.quiet (k_idxLit e_SPoint_len l (a := e13) (by kernel_rfl) (k := .i64) (i := (IntKind.wrap .i64 (x76 - 1))) (by kernel_rfl) Try.underlying27 ty39 h16 h17) []) ?_
          refine aTakeL (i := 18) (st' := []) (.lptr (e_SPoint e13) 0) rfl (by kernel_rfl) (by kernel_rfl) (by kernel_rfl) (by kernel_rfl) (by kernel_rfl) (by kernel_rfl) (by kernel_rfl) (PureV.quiet (k_fieldAddrL (cells := e_SPoint e13) 0 (by kernel_rfl) Try.underlying39 rfl ty37 (by kernel_rfl)) []) ?_
          refine aTakeL (i := 19) (st' := []) (.agg [.d (.int .i64 e13.X_Num), .d (.int .i64 e13.X_Den)]) rfl (by kernel_rfl) (by kernel_rfl) (by kernel_rfl) (by kernel_rfl) (by kernel_rfl) (by kernel_rfl) (by kernel_rfl) (k_loadLAgg (cells := e_SPoint e13) 0 [(.int .i64 e13.X_Num), (.int .i64 e13.X_Den)] (by kernel_rfl) Try.underlying37 (by kernel_rfl) ty37 (by kernel_rfl) (by kernel_rfl) (by kernel_rfl)) ?_
          refine aTakeL (i := 20) (st' := []) (.ptr 0 0) rfl (by kernel_rfl) (by kernel_rfl) (by kernel_rfl) (by kernel_rfl) (by kernel_rfl) (by kernel_rfl) (by kernel_rfl) (PureV.quiet (k_fieldAddr 0 0 (by kernel_rfl) Try.underlying39 rfl ty37 (by kernel_rfl)) []) ?_
          refine aTakeL (i := 21) (st' := [0]) (.agg [.d (.int .i64 e114.X_Num), .d (.int .i64 e114.X_Den)]) rfl (by kernel_rfl) (by kernel_rfl) (by kernel_rfl) (by kernel_rfl) (by kernel_rfl) (by kernel_rfl) (by kernel_rfl) (k_loadAgg 0 0 (by kernel_rfl) Try.underlying37 (by kernel_rfl) ty37 (by kernel_rfl)) ?_
          refine dCall (i := 22) (caps := []) (v := (fun (r1 : Bool) => (.d (.bool r1) : V))) (H' := (fun (r1 : Bool) => ([.box [.d (.int .i64 e114.X_Num), .d (.int .i64 e114.X_Den), .d (.int .i64 e114.Y_Num), .d (.int .i64 e114.Y_Den)]] : List Blk))) [] _ (ratio_Less_goes k e13.X_Num e13.X_Den e114.X_Num e114.X_Den) rfl (by kernel_rfl) (by kernel_rfl) (by kernel_rfl) (by kernel_rfl) (by kernel_rfl) (by kernel_rfl) (by kernel_rfl) (by kernel_rfl) rfl (by kernel_rfl) Try.func34 rfl (by kernel_rfl) (ConvRs.refl _ _) (by kernel_rfl) (by kernel_rfl) (by kernel_rfl) (by decide) (by kernel_rfl) (by kernel_rfl) (fun _ => (by kernel_rfl)) (fun _ => (by kernel_rfl)) (fun _ => (by kernel_rfl)) (fun r1 => ?_)
          refine aTakeL (i := 23) (st' := []) (.d (.bool (!r1))) rfl (by kernel_rfl) (by kernel_rfl) (by kernel_rfl) (by kernel_rfl) (by kernel_rfl) (by kernel_rfl) (by kernel_rfl) (PureV.quiet (p_not (p := r1) (by kernel_rfl) (by kernel_rfl)) []) ?_
          refine aTakeL (i := 24) (st' := []) (.d (.bool (!r1))) rfl (by kernel_rfl) (by kernel_rfl) (by kernel_rfl) (by kernel_rfl) (by kernel_rfl) (by kernel_rfl) (by kernel_rfl) (PureV.quiet (p_move (by kernel_rfl)) []) ?_
          refine dMeet [35, 34, 33, 32, 31, 30, 29, 28, 27, 26, 25, 24, 23, 22, 21, 20, 19, 18, 17, 16, 15, 14, 13, 12, 11, 10, 9, 8, 7, 6, 5, 4, 3, 2, 1, 0] (fun (x125 : Bool) => [(0, .d (.lit (List.map e_SPoint l))), (5, .d (.lit (List.map e_SPoint l))), (6, .d (.int .i64 ((List.length l) : Int))), (7, .d (.int .i64 x76)), (22, .d (.bool false)), (25, .d (.bool true)), (47, .d (.bool x125))]) (fun (x125 : Bool) => [(0, .d (.lit (List.map e_SPoint l))), (5, .d (.lit (List.map e_SPoint l))), (6, .d (.int .i64 ((List.length l) : Int))), (7, .d (.int .i64 x76)), (22, .d (.bool false)), (25, .d (.bool true)), (47, .d (.bool x125))]) (fun _ => [.box [.d (.int .i64 e114.X_Num), .d (.int .i64 e114.X_Den), .d (.int .i64 e114.Y_Num), .d (.int .i64 e114.Y_Den)]]) (fun s => s) (fun x125 => ?_) (fun hj78 => ?_)
          ·refine aTakeL (i := 36) (st' := []) (.d (.bool x125)) rfl (by kernel_rfl) (by kernel_rfl) (by kernel_rfl) (by kernel_rfl) (by kernel_rfl) (by kernel_rfl) (by kernel_rfl) (PureV.quiet (p_pick (b := true) (by kernel_rfl) (by kernel_rfl)) []) ?_
           refine dDrop [0, 5, 6, 7, 22, 48] [0, 5, 6, 7, 22, 48] (T' := [(0, .d (.lit (List.map e_SPoint l))), (5, .d (.lit (List.map e_SPoint l))), (6, .d (.int .i64 ((List.length l) : Int))), (7, .d (.int .i64 x76)), (22, .d (.bool false)), (48, .d (.bool x125))]) (U' := [(0, .d (.lit (List.map e_SPoint l))), (5, .d (.lit (List.map e_SPoint l))), (6, .d (.int .i64 ((List.length l) : Int))), (7, .d (.int .i64 x76)), (22, .d (.bool false)), (48, .d (.bool x125))]) (by kernel_rfl) (by kernel_rfl) ?_
           exact hj77 x125
          ·refine dSplit 36 (by kernel_rfl) (by kernel_rfl) (fun hc => ?_) (fun hc => ?_)
           ·refine aTakeNot (i := 25) rfl (by kernel_rfl) (by kernel_rfl) (by kernel_rfl) (by kernel_rfl) (by kernel_rfl) (by kernel_rfl) (by kernel_rfl) ?_
            refine aTakeNot (i := 26) rfl (by kernel_rfl) (by kernel_rfl) (by kernel_rfl) (by kernel_rfl) (by kernel_rfl) (by kernel_rfl) (by kernel_rfl) ?_
            refine aTakeNot (i := 27) rfl (by kernel_rfl) (by kernel_rfl) (by kernel_rfl) (by kernel_rfl) (by kernel_rfl) (by kernel_rfl) (by kernel_rfl) ?_
            refine aTakeNot (i := 28) rfl (by kernel_rfl) (by kernel_rfl) (by kernel_rfl) (by kernel_rfl) (by kernel_rfl) (by kernel_rfl) (by kernel_rfl) ?_
            refine aTakeNot (i := 29) rfl (by kernel_rfl) (by kernel_rfl) (by kernel_rfl) (by kernel_rfl) (by kernel_rfl) (by kernel_rfl) (by kernel_rfl) ?_
            refine aTakeNot (i := 30) rfl (by kernel_rfl) (by kernel_rfl) (by kernel_rfl) (by kernel_rfl) (by kernel_rfl) (by kernel_rfl) (by kernel_rfl) ?_
            refine aTakeNot (i := 31) rfl (by kernel_rfl) (by kernel_rfl) (by kernel_rfl) (by kernel_rfl) (by kernel_rfl) (by kernel_rfl) (by kernel_rfl) ?_
            refine aTakeNot (i := 32) rfl (by kernel_rfl) (by kernel_rfl) (by kernel_rfl) (by kernel_rfl) (by kernel_rfl) (by kernel_rfl) (by kernel_rfl) ?_
            refine aTakeNot (i := 33) rfl (by kernel_rfl) (by kernel_rfl) (by kernel_rfl) (by kernel_rfl) (by kernel_rfl) (by kernel_rfl) (by kernel_rfl) ?_
            refine aTakeNot (i := 34) rfl (by kernel_rfl) (by kernel_rfl) (by kernel_rfl) (by kernel_rfl) (by kernel_rfl) (by kernel_rfl) (by kernel_rfl) ?_
            refine aTakeL (i := 35) (st' := []) (.d (.bool true)) rfl (by kernel_rfl) (by kernel_rfl) (by kernel_rfl) (by kernel_rfl) (by kernel_rfl) (by kernel_rfl) (by kernel_rfl) (PureV.quiet (p_pick (b := true) (by kernel_rfl) (by kernel_rfl)) []) ?_
            refine dDrop [0, 5, 6, 7, 22, 25, 47] [0, 5, 6, 7, 22, 25, 47] (T' := [(0, .d (.lit (List.map e_SPoint l))), (5, .d (.lit (List.map e_SPoint l))), (6, .d (.int .i64 ((List.length l) : Int))), (7, .d (.int .i64 x76)), (22, .d (.bool false)), (25, .d (.bool true)), (47, .d (.bool true))]) (U' := [(0, .d (.lit (List.map e_SPoint l))), (5, .d (.lit (List.map e_SPoint l))), (6, .d (.int .i64 ((List.length l) : Int))), (7, .d (.int .i64 x76)), (22, .d (.bool false)), (25, .d (.bool true)), (47, .d (.bool true))]) (by kernel_rfl) (by kernel_rfl) ?_
            exact hj78 true
           ·refine aTakeL (i := 25) (st' := []) (.d (.lit (List.map e_SPoint l))) rfl (by kernel_rfl) (by kernel_rfl) (by kernel_rfl) (by kernel_rfl) (by kernel_rfl) (by kernel_rfl) (by kernel_rfl) (PureV.quiet (p_move (by kernel_rfl)) []) ?_
            refine aTakeL (i := 26) (st' := []) (.d (.int .i64 x76)) rfl (by kernel_rfl) (by kernel_rfl) (by kernel_rfl) (by kernel_rfl) (by kernel_rfl) (by kernel_rfl) (by kernel_rfl) (PureV.quiet (p_move (by kernel_rfl)) []) ?_
            refine aTakeL (i := 27) (st' := []) (.d (.int .i64 (IntKind.wrap .i64 (x76 - 1)))) rfl (by kernel_rfl) (by kernel_rfl) (by kernel_rfl) (by kernel_rfl) (by kernel_rfl) (by kernel_rfl) (by kernel_rfl) (PureV.quiet (p_int (k := .i64) (p := x76) (q := 1) (by kernel_rfl) (by kernel_rfl) (by kernel_rfl)) []) ?_
            refine aTakeL (i := 28) (st' := []) (.lptr (e_SPoint e13) 0) rfl (by kernel_rfl) (by kernel_rfl) (by kernel_rfl) (by kernel_rfl) (by kernel_rfl) (by kernel_rfl) (by kernel_rfl) (PureV.quiet (k_idxLit e_SPoint_len l (a := e13) (by kernel_rfl) (k := .i64) (i := (IntKind.wrap .i64 (x76 - 1))) (by kernel_rfl) Try.underlying27 ty39 h16 h17) []) ?_
            refine aTakeL (i := 29) (st' := []) (.lptr (e_SPoint e13) 2) rfl (by kernel_rfl) (by kernel_rfl) (by kernel_rfl) (by kernel_rfl) (by kernel_rfl) (by kernel_rfl) (by kernel_rfl) (PureV.quiet (k_fieldAddrL (cells := e_SPoint e13) 0 (by kernel_rfl) Try.underlying39 rfl ty37 (by kernel_rfl)) []) ?_
            refine aTakeL (i := 30) (st' := []) (.agg [.d (.int .i64 e13.Y_Num), .d (.int .i64 e13.Y_Den)]) rfl (by kernel_rfl) (by kernel_rfl) (by kernel_rfl) (by kernel_rfl) (by kernel_rfl) (by kernel_rfl) (by kernel_rfl) (k_loadLAgg (cells := e_SPoint e13) 2 [(.int .i64 e13.Y_Num), (.int .i64 e13.Y_Den)] (by kernel_rfl) Try.underlying37 (by kernel_rfl) ty37 (by kernel_rfl) (by kernel_rfl) (by kernel_rfl)) ?_
            refine aTakeL (i := 31) (st' := []) (.ptr 0 2) rfl (by kernel_rfl) (by kernel_rfl) (by kernel_rfl) (by kernel_rfl) (by kernel_rfl) (by kernel_rfl) (by kernel_rfl) (PureV.quiet (k_fieldAddr 0 0 (by kernel_rfl) Try.underlying39 rfl ty37 (by kernel_rfl)) []) ?_
            refine aTakeL (i := 32) (st' := [0]) (.agg [.d (.int .i64 e114.Y_Num), .d (.int .i64 e114.Y_Den)]) rfl (by kernel_rfl) (by kernel_rfl) (by kernel_rfl) (by kernel_rfl) (by kernel_rfl) (by kernel_rfl) (by kernel_rfl) (k_loadAgg 0 2 (by kernel_rfl) Try.underlying37 (by kernel_rfl) ty37 (by kernel_rfl)) ?_
            refine dCall (i := 33) (caps := []) (v := (fun (r11 : Bool) => (.d (.bool r11) : V))) (H' := (fun (r11 : Bool) => ([.box [.d (.int .i64 e114.X_Num), .d (.int .i64 e114.X_Den), .d (.int .i64 e114.Y_Num), .d (.int .i64 e114.Y_Den)]] : List Blk))) [] _ (ratio_Less_goes k e13.Y_Num e13.Y_Den e114.Y_Num e114.Y_Den) rfl (by kernel_rfl) (by kernel_rfl) (by kernel_rfl) (by kernel_rfl) (by kernel_rfl) (by kernel_rfl) (by kernel_rfl) (by kernel_rfl) rfl (by kernel_rfl) Try.func34 rfl (by kernel_rfl) (ConvRs.refl _ _) (by kernel_rfl) (by kernel_rfl) (by kernel_rfl) (by decide) (by kernel_rfl) (by kernel_rfl) (fun _ => (by kernel_rfl)) (fun _ => (by kernel_rfl)) (fun _ => (by kernel_rfl)) (fun r11 => ?_)
            refine aTakeL (i := 34) (st' := []) (.d (.bool (!r11))) rfl (by kernel_rfl) (by kernel_rfl) (by kernel_rfl) (by kernel_rfl) (by kernel_rfl) (by kernel_rfl) (by kernel_rfl) (PureV.quiet (p_not (p := r11) (by kernel_rfl) (by kernel_rfl)) []) ?_
            refine aTakeL (i := 35) (st' := []) (.d (.bool (!r11))) rfl (by kernel_rfl) (by kernel_rfl) (by kernel_rfl) (by kernel_rfl) (by kernel_rfl) (by kernel_rfl) (by kernel_rfl) (PureV.quiet (p_pick (b := false) (by kernel_rfl) (by kernel_rfl)) []) ?_
            refine dDrop [0, 5, 6, 7, 22, 25, 47] [0, 5, 6, 7, 22, 25, 47] (T' := [(0, .d (.lit (List.map e_SPoint l))), (5, .d (.lit (List.map e_SPoint l))), (6, .d (.int .i64 ((List.length l) : Int))), (7, .d (.int .i64 x76)), (22, .d (.bool false)), (25, .d (.bool true)), (47, .d (.bool (!r11)))]) (U' := [(0, .d (.lit (List.map e_SPoint l))), (5, .d (.lit (List.map e_SPoint l))), (6, .d (.int .i64 ((List.length l) : Int))), (7, .d (.int .i64 x76)), (22, .d (.bool false)), (25, .d (.bool true)), (47, .d (.bool (!r11)))]) (by kernel_rfl) (by kernel_rfl) ?_
            exact hj78 (!r11)
         ·refine aTakeNot (i := 14) rfl (by kernel_rfl) (by kernel_rfl) (by kernel_rfl) (by kernel_rfl) (by kernel_rfl) (by kernel_rfl) (by kernel_rfl) ?_
          refine aTakeNot (i := 15) rfl (by kernel_rfl) (by kernel_rfl) (by kernel_rfl) (by kernel_rfl) (by kernel_rfl) (by kernel_rfl) (by kernel_rfl) ?_
          refine aTakeNot (i := 16) rfl (by kernel_rfl) (by kernel_rfl) (by kernel_rfl) (by kernel_rfl) (by kernel_rfl) (by kernel_rfl) (by kernel_rfl) ?_
          refine aTakeNot (i := 17) rfl (by kernel_rfl) (by kernel_rfl) (by kernel_rfl) (by kernel_rfl) (by kernel_rfl) (by kernel_rfl) (by kernel_rfl) ?_
          refine aTakeNot (i := 18) rfl (by kernel_rfl) (by kernel_rfl) (by kernel_rfl) (by kernel_rfl) (by kernel_rfl) (by kernel_rfl) (by kernel_rfl) ?_
          refine aTakeNot (i := 19) rfl (by kernel_rfl) (by kernel_rfl) (by kernel_rfl) (by kernel_rfl) (by kernel_rfl) (by kernel_rfl) (by kernel_rfl) ?_
          refine aTakeNot (i := 20) rfl (by kernel_rfl) (by kernel_rfl) (by kernel_rfl) (by kernel_rfl) (by kernel_rfl) (by kernel_rfl) (by kernel_rfl) ?_
          refine aTakeNot (i := 21) rfl (by kernel_rfl) (by kernel_rfl) (by kernel_rfl) (by kernel_rfl) (by kernel_rfl) (by kernel_rfl) (by kernel_rfl) ?_
          refine aTakeNot (i := 22) rfl (by kernel_rfl) (by kernel_rfl) (by kernel_rfl) (by kernel_rfl) (by kernel_rfl) (by kernel_rfl) (by kernel_rfl) ?_
          refine aTakeNot (i := 23) rfl (by kernel_rfl) (by kernel_rfl) (by kernel_rfl) (by kernel_rfl) (by kernel_rfl) (by kernel_rfl) (by kernel_rfl) ?_
          refine aTakeNot (i := 24) rfl (by kernel_rfl) (by kernel_rfl) (by kernel_rfl) (by kernel_rfl) (by kernel_rfl) (by kernel_rfl) (by kernel_rfl) ?_
          refine aTakeNot (i := 25) rfl (by kernel_rfl) (by kernel_rfl) (by kernel_rfl) (by kernel_rfl) (by kernel_rfl) (by kernel_rfl) (by kernel_rfl) ?_
          refine aTakeNot (i := 26) rfl (by kernel_rfl) (by kernel_rfl) (by kernel_rfl) (by kernel_rfl) (by kernel_rfl) (by kernel_rfl) (by kernel_rfl) ?_
          refine aTakeNot (i := 27) rfl (by kernel_rfl) (by kernel_rfl) (by kernel_rfl) (by kernel_rfl) (by kernel_rfl) (by kernel_rfl) (by kernel_rfl) ?_
          refine aTakeNot (i := 28) rfl (by kernel_rfl) (by kernel_rfl) (by kernel_rfl) (by kernel_rfl) (by kernel_rfl) (by kernel_rfl) (by kernel_rfl) ?_
          refine aTakeNot (i := 29) rfl (by kernel_rfl) (by kernel_rfl) (by kernel_rfl) (by kernel_rfl) (by kernel_rfl) (by kernel_rfl) (by kernel_rfl) ?_
          refine aTakeNot (i := 30) rfl (by kernel_rfl) (by kernel_rfl) (by kernel_rfl) (by kernel_rfl) (by kernel_rfl) (by kernel_rfl) (by kernel_rfl) ?_
          refine aTakeNot (i := 31) rfl (by kernel_rfl) (by kernel_rfl) (by kernel_rfl) (by kernel_rfl) (by kernel_rfl) (by kernel_rfl) (by kernel_rfl) ?_
          refine aTakeNot (i := 32) rfl (by kernel_rfl) (by kernel_rfl) (by kernel_rfl) (by kernel_rfl) (by kernel_rfl) (by kernel_rfl) (by kernel_rfl) ?_
          refine aTakeNot (i := 33) rfl (by kernel_rfl) (by kernel_rfl) (by kernel_rfl) (by kernel_rfl) (by kernel_rfl) (by kernel_rfl) (by kernel_rfl) ?_
          refine aTakeNot (i := 34) rfl (by kernel_rfl) (by kernel_rfl) (by kernel_rfl) (by kernel_rfl) (by kernel_rfl) (by kernel_rfl) (by kernel_rfl) ?_
          refine aTakeNot (i := 35) rfl (by kernel_rfl) (by kernel_rfl) (by kernel_rfl) (by kernel_rfl) (by kernel_rfl) (by kernel_rfl) (by kernel_rfl) ?_
          refine aTakeL (i := 36) (st' := []) (.d (.bool false)) rfl (by kernel_rfl) (by kernel_rfl) (by kernel_rfl) (by kernel_rfl) (by kernel_rfl) (by kernel_rfl) (by kernel_rfl) (PureV.quiet (p_pick (b := false) (by kernel_rfl) (by kernel_rfl)) []) ?_
          refine dDrop [0, 5, 6, 7, 22, 48] [0, 5, 6, 7, 22, 48] (T' := [(0, .d (.lit (List.map e_SPoint l))), (5, .d (.lit (List.map e_SPoint l))), (6, .d (.int .i64 ((List.length l) : Int))), (7, .d (.int .i64 x76)), (22, .d (.bool false)), (48, .d (.bool false))]) (U' := [(0, .d (.lit (List.map e_SPoint l))), (5, .d (.lit (List.map e_SPoint l))), (6, .d (.int .i64 ((List.length l) : Int))), (7, .d (.int .i64 x76)), (22, .d (.bool false)), (48, .d (.bool false))]) (by kernel_rfl) (by kernel_rfl) ?_
          exact hj77 false
     ·refine dSplit 16 (by kernel_rfl) (by kernel_rfl) (fun hc => ?_) (fun hc => ?_)
      ·refine aTakeNot (i := 5) rfl (by kernel_rfl) (by kernel_rfl) (by kernel_rfl) (by kernel_rfl) (by kernel_rfl) (by kernel_rfl) (by kernel_rfl) ?_
       refine aTakeNot (i := 6) rfl (by kernel_rfl) (by kernel_rfl) (by kernel_rfl) (by kernel_rfl) (by kernel_rfl) (by kernel_rfl) (by kernel_rfl) ?_
       refine aTakeNot (i := 7) rfl (by kernel_rfl) (by kernel_rfl) (by kernel_rfl) (by kernel_rfl) (by kernel_rfl) (by kernel_rfl) (by kernel_rfl) ?_
       refine aTakeNot (i := 8) rfl (by kernel_rfl) (by kernel_rfl) (by kernel_rfl) (by kernel_rfl) (by kernel_rfl) (by kernel_rfl) (by kernel_rfl) ?_
       refine aTakeL (i := 9) (st' := []) (.d (.bool true)) rfl (by kernel_rfl) (by kernel_rfl) (by kernel_rfl) (by kernel_rfl) (by kernel_rfl) (by kernel_rfl) (by kernel_rfl) (PureV.quiet (p_pick (b := true) (by kernel_rfl) (by kernel_rfl)) []) ?_
       refine dDrop [0, 3, 4, 5, 6, 7, 21] [0, 3, 4, 5, 6, 7, 21] (T' := [(0, .d (.lit (List.map e_SPoint l))), (3, .d (.int .i64 x76)), (4, .ptr 0 0), (5, .d (.lit (List.map e_SPoint l))), (6, .d (.int .i64 ((List.length l) : Int))), (7, .d (.int .i64 x76)), (21, .d (.bool true))]) (U' := [(0, .d (.lit (List.map e_SPoint l))), (3, .d (.int .i64 x76)), (4, .ptr 0 0), (5, .d (.lit (List.map e_SPoint l))), (6, .d (.int .i64 ((List.length l) : Int))), (7, .d (.int .i64 x76)), (21, .d (.bool true))]) (by kernel_rfl) (by kernel_rfl) ?_
       exact hj71 true
      ·refine aTakeL (i := 5) (st' := []) (.ptr 0 2) rfl (by kernel_rfl) (by kernel_rfl) (by kernel_rfl) (by kernel_rfl) (by kernel_rfl) (by kernel_rfl) (by kernel_rfl) (PureV.quiet (k_fieldAddr 0 0 (by kernel_rfl) Try.underlying39 rfl ty37 (by kernel_rfl)) []) ?_
       refine aTakeL (i := 6) (st' := [0]) (.agg [.d (.int .i64 e114.Y_Num), .d (.int .i64 e114.Y_Den)]) rfl (by kernel_rfl) (by kernel_rfl) (by kernel_rfl) (by kernel_rfl) (by kernel_rfl) (by kernel_rfl) (by kernel_rfl) (k_loadAgg 0 2 (by kernel_rfl) Try.underlying37 (by kernel_rfl) ty37 (by kernel_rfl)) ?_
       refine dCall (i := 7) (caps := []) (v := (fun (r121 : Bool) => (.d (.bool r121) : V))) (H' := (fun (r121 : Bool) => ([.box [.d (.int .i64 e114.X_Num), .d (.int .i64 e114.X_Den), .d (.int .i64 e114.Y_Num), .d (.int .i64 e114.Y_Den)]] : List Blk))) [] _ (ratio_Valid_goes k e114.Y_Num e114.Y_Den) rfl (by kernel_rfl) (by kernel_rfl) (by kernel_rfl) (by kernel_rfl) (by kernel_rfl) (by kernel_rfl) (by kernel_rfl) (by kernel_rfl) rfl (by kernel_rfl) Try.func24 rfl (by kernel_rfl) (ConvRs.refl _ _) (by kernel_rfl) (by kernel_rfl) (by kernel_rfl) (by decide) (by kernel_rfl) (by kernel_rfl) (fun _ => (by kernel_rfl)) (fun _ => (by kernel_rfl)) (fun _ => (by kernel_rfl)) (fun r121 => ?_)
       refine aTakeL (i := 8) (st' := []) (.d (.bool (!r121))) rfl (by kernel_rfl) (by kernel_rfl) (by kernel_rfl) (by kernel_rfl) (by kernel_rfl) (by kernel_rfl) (by kernel_rfl) (PureV.quiet (p_not (p := r121) (by kernel_rfl) (by kernel_rfl)) []) ?_
       refine aTakeL (i := 9) (st' := []) (.d (.bool (!r121))) rfl (by kernel_rfl) (by kernel_rfl) (by kernel_rfl) (by kernel_rfl) (by kernel_rfl) (by kernel_rfl) (by kernel_rfl) (PureV.quiet (p_pick (b := false) (by kernel_rfl) (by kernel_rfl)) []) ?_
       refine dDrop [0, 3, 4, 5, 6, 7, 21] [0, 3, 4, 5, 6, 7, 21] (T' := [(0, .d (.lit (List.map e_SPoint l))), (3, .d (.int .i64 x76)), (4, .ptr 0 0), (5, .d (.lit (List.map e_SPoint l))), (6, .d (.int .i64 ((List.length l) : Int))), (7, .d (.int .i64 x76)), (21, .d (.bool (!r121)))]) (U' := [(0, .d (.lit (List.map e_SPoint l))), (3, .d (.int .i64 x76)), (4, .ptr 0 0), (5, .d (.lit (List.map e_SPoint l))), (6, .d (.int .i64 ((List.length l) : Int))), (7, .d (.int .i64 x76)), (21, .d (.bool (!r121)))]) (by kernel_rfl) (by kernel_rfl) ?_
       exact hj71 (!r121)
    ·refine oCondF (by kernel_rfl) ?_
     refine oExit rfl ?_
     refine oHead [0] [] (T' := [(0, .d (.lit (List.map e_SPoint l)))]) (H' := []) (by kernel_rfl) (by kernel_rfl) (by kernel_rfl) (by kernel_rfl) (by decide) (by kernel_rfl) (by kernel_rfl) ?_
     exact hj42 ()

/-- awardingbody/conversion.Valid -/
def conversion_Valid (k : Nat) (c0 : (List SPoint)) : Option (Bool) := Option.bind (bif (decide (((List.length c0) : Int) ≤ 410)) then Option.bind (conversion_right k c0) (fun r132 => some r132) else some false : Option (Bool)) (fun x1 => some x1)
def conversion_Valid_E (c0 : (List SPoint)) : Bool → V × List Blk := fun r1 => (.d (.bool r1), [])
theorem conversion_Valid_goes (k : Nat) (c0 : (List SPoint)) : RunsO Try.prog 12 [.agg [.d (.lit (List.map e_SPoint c0))]] [] (conversion_Valid_E c0) (conversion_Valid k c0) := by
  refine RunsO.of_goes (N := 12) (m := 0) (T := [(0, .agg [.d (.lit (List.map e_SPoint c0))])]) Try.func12 rfl rfl (by kernel_rfl) (by kernel_rfl) (by kernel_rfl) ?_
  unfold conversion_Valid
  refine bStart ?_
  refine oSeq ?_
  refine oRegion rfl ?_
  refine oOp (.ptr 0 0) (by kernel_rfl) (by kernel_rfl) (k_box (H' := [.box [.d (.lit (List.map e_SPoint c0))]]) (cells := [.d (.lit (List.map e_SPoint c0))]) (by kernel_rfl) (by kernel_rfl) (by kernel_rfl)) ?_
  refine oOp (.d (.bool false)) (by kernel_rfl) (by kernel_rfl) (PureV.does (p_assign (by kernel_rfl))) ?_
  refine oEnd ?_
  refine oSeq ?_
  refine oRegion rfl ?_
  refine oOp (.ptr 0 0) (by kernel_rfl) (by kernel_rfl) (PureV.does (k_fieldAddr 0 0 (by kernel_rfl) Try.underlying29 rfl ty27 (by kernel_rfl))) ?_
  refine oOp (.d (.lit (List.map e_SPoint c0))) (by kernel_rfl) (by kernel_rfl) (Quiet.does (k_load 0 0 (by kernel_rfl) Try.underlying27 (by kernel_rfl) (by kernel_rfl))) ?_
  refine oOp (.d (.int .i64 ((List.length c0) : Int))) (by kernel_rfl) (by kernel_rfl) (PureV.does (k_lenLit (enc := e_SPoint) c0 (by kernel_rfl) Try.underlying27)) ?_
  refine oOp (.d (.bool (decide (((List.length c0) : Int) ≤ 410)))) (by kernel_rfl) (by kernel_rfl) (PureV.does (p_int (k := .i64) (p := ((List.length c0) : Int)) (q := 410) (by kernel_rfl) (by kernel_rfl) (by kernel_rfl))) ?_
  refine oOp (.d (.bool (decide (((List.length c0) : Int) ≤ 410)))) (by kernel_rfl) (by kernel_rfl) (PureV.does (p_move (by kernel_rfl))) ?_
  refine bMeet 4 rfl ((fun (x1 : Bool) => [(11, .d (.bool x1))])) ((fun (x1 : Bool) => [])) (fun s => s) (fun x1 => ?_) (fun hj1 => ?_)
  ·refine oView (T' := [(11, .d (.bool x1))]) (H' := []) (by kernel_rfl) (by kernel_rfl) ?_
   refine oOp (.d (.bool x1)) (by kernel_rfl) (by kernel_rfl) (PureV.does (p_assign (by kernel_rfl))) ?_
   refine oEnd ?_
   exact oRet (r0 := x1) (rv := .d (.bool x1)) (B := []) (vs := [.d (.bool x1)]) (σ := []) (by kernel_rfl) Try.func12 rfl (.cons _ _ _ _ (.tmp 2 _ (by kernel_rfl)) .nil) (by kernel_rfl) (by kernel_rfl) (by kernel_rfl) (by kernel_rfl) (by decide) (by kernel_rfl) (by kernel_rfl)
  ·refine bSplit 7 (by kernel_rfl) (fun hc => ?_) (fun hc => ?_)
   ·refine oOp (.ptr 0 0) (by kernel_rfl) (by kernel_rfl) (PureV.does (k_fieldAddr 0 0 (by kernel_rfl) Try.underlying29 rfl ty27 (by kernel_rfl))) ?_
    refine oOp (.d (.lit (List.map e_SPoint c0))) (by kernel_rfl) (by kernel_rfl) (Quiet.does (k_load 0 0 (by kernel_rfl) Try.underlying27 (by kernel_rfl) (by kernel_rfl))) ?_
    refine bCall (caps := []) (v := (fun (r132 : Bool) => (.d (.bool r132) : V))) (H' := (fun (r132 : Bool) => ([.box [.d (.lit (List.map e_SPoint c0))]] : List Blk))) [] _ (conversion_right_goes k c0) (by kernel_rfl) (by kernel_rfl) rfl (by kernel_rfl) Try.func23 rfl (by kernel_rfl) (ConvRs.refl _ _) (by kernel_rfl) (by kernel_rfl) (by kernel_rfl) (by decide) (by kernel_rfl) (by kernel_rfl) (fun _ => (by kernel_rfl)) (fun _ => (by kernel_rfl)) (fun _ => (by kernel_rfl)) (fun r132 => ?_)
    refine oOp (.d (.bool r132)) (by kernel_rfl) (by kernel_rfl) (PureV.does (p_pick (b := true) (by kernel_rfl) (by kernel_rfl))) ?_
    refine oHead [11] [] (T' := [(11, .d (.bool r132))]) (H' := []) (by kernel_rfl) (by kernel_rfl) (by kernel_rfl) (by kernel_rfl) (by decide) (by kernel_rfl) (by kernel_rfl) ?_
    exact hj1 r132
   ·refine oNot (by kernel_rfl) (by kernel_rfl) ?_
    refine oNot (by kernel_rfl) (by kernel_rfl) ?_
    refine oNot (by kernel_rfl) (by kernel_rfl) ?_
    refine oOp (.d (.bool false)) (by kernel_rfl) (by kernel_rfl) (PureV.does (p_pick (b := false) (by kernel_rfl) (by kernel_rfl))) ?_
    refine oHead [11] [] (T' := [(11, .d (.bool false))]) (H' := []) (by kernel_rfl) (by kernel_rfl) (by kernel_rfl) (by kernel_rfl) (by decide) (by kernel_rfl) (by kernel_rfl) ?_
    exact hj1 false

/-- (*awardingbody/conversion.calc).eval$1 -/
def conversion_calc_eval_1 (k : Nat) (i : Int) (x : (List SPoint)) (x1 : Int) (x2 : Int) : Option (Bool) := gidx x (IntKind.wrap .i64 (i + 1)) fun e1 => Option.bind (ratio_Less k e1.X_Num e1.X_Den x1 x2) (fun r1 => some (!r1))
def conversion_calc_eval_1_E (i : Int) (x : (List SPoint)) (x1 : Int) (x2 : Int) : Bool → V × List Blk := fun r11 => (.d (.bool r11), [.box [.d (.lit (List.map e_SPoint x))], .box [.d (.int .i64 x1), .d (.int .i64 x2)]])
theorem conversion_calc_eval_1_goes (k : Nat) (i : Int) (x : (List SPoint)) (x1 : Int) (x2 : Int) : RunsO Try.prog 38 [.d (.int .i64 i), .ptr 0 0, .ptr 1 0] [.box [.d (.lit (List.map e_SPoint x))], .box [.d (.int .i64 x1), .d (.int .i64 x2)]] (conversion_calc_eval_1_E i x x1 x2) (conversion_calc_eval_1 k i x x1 x2) := by
  refine RunsO.of_goes (N := 14) (m := 2) (T := [(0, .d (.int .i64 i)), (1, .ptr 0 0), (2, .ptr 1 0)]) Try.func38 rfl rfl (by kernel_rfl) (by kernel_rfl) (by kernel_rfl) ?_
  unfold conversion_calc_eval_1
  refine bStart ?_
  refine oSeq ?_
  refine oRegion rfl ?_
  refine oOp (.d (.bool false)) (by kernel_rfl) (by kernel_rfl) (PureV.does (p_assign (by kernel_rfl))) ?_
  refine oEnd ?_
  refine oSeq ?_
  refine oDraw [(0, 10), (1, 10)] rfl ?_
  refine aTakeL (i := 0) (st' := [0]) (.d (.lit (List.map e_SPoint x))) rfl (by kernel_rfl) (by kernel_rfl) (by kernel_rfl) (by kernel_rfl) (by kernel_rfl) (by kernel_rfl) (by kernel_rfl) (k_load 0 0 (by kernel_rfl) Try.underlying27 (by kernel_rfl) (by kernel_rfl)) ?_
  refine aTakeL (i := 1) (st' := []) (.d (.int .i64 i)) rfl (by kernel_rfl) (by kernel_rfl) (by kernel_rfl) (by kernel_rfl) (by kernel_rfl) (by kernel_rfl) (by kernel_rfl) (PureV.quiet (p_move (by kernel_rfl)) []) ?_
  refine aTakeL (i := 2) (st' := []) (.d (.int .i64 (IntKind.wrap .i64 (i + 1)))) rfl (by kernel_rfl) (by kernel_rfl) (by kernel_rfl) (by kernel_rfl) (by kernel_rfl) (by kernel_rfl) (by kernel_rfl) (PureV.quiet (p_int (k := .i64) (p := i) (q := 1) (by kernel_rfl) (by kernel_rfl) (by kernel_rfl)) []) ?_
  refine dIdx (fun e1 h1 h11 => ?_)
  refine aTakeL (i := 3) (st' := []) (.lptr (e_SPoint e1) 0) rfl (by kernel_rfl) (by kernel_rfl) (by kernel_rfl) (by kernel_rfl) (by kernel_rfl) (by kernel_rfl) (by kernel_rfl) (PureV.quiet (k_idxLit e_SPoint_len x (a := e1) (by kernel_rfl) (k := .i64) (i := (IntKind.wrap .i64 (i + 1))) (by kernel_rfl) Try.underlying27 ty39 h1 h11) []) ?_
  refine aTakeL (i := 4) (st' := []) (.lptr (e_SPoint e1) 0) rfl (by kernel_rfl) (by kernel_rfl) (by kernel_rfl) (by kernel_rfl) (by kernel_rfl) (by kernel_rfl) (by kernel_rfl) (PureV.quiet (k_fieldAddrL (cells := e_SPoint e1) 0 (by kernel_rfl) Try.underlying39 rfl ty37 (by kernel_rfl)) []) ?_
  refine aTakeL (i := 5) (st' := []) (.agg [.d (.int .i64 e1.X_Num), .d (.int .i64 e1.X_Den)]) rfl (by kernel_rfl) (by kernel_rfl) (by kernel_rfl) (by kernel_rfl) (by kernel_rfl) (by kernel_rfl) (by kernel_rfl) (k_loadLAgg (cells := e_SPoint e1) 0 [(.int .i64 e1.X_Num), (.int .i64 e1.X_Den)] (by kernel_rfl) Try.underlying37 (by kernel_rfl) ty37 (by kernel_rfl) (by kernel_rfl) (by kernel_rfl)) ?_
  refine aTakeL (i := 6) (st' := [1]) (.agg [.d (.int .i64 x1), .d (.int .i64 x2)]) rfl (by kernel_rfl) (by kernel_rfl) (by kernel_rfl) (by kernel_rfl) (by kernel_rfl) (by kernel_rfl) (by kernel_rfl) (k_loadAgg 1 0 (by kernel_rfl) Try.underlying37 (by kernel_rfl) ty37 (by kernel_rfl)) ?_
  refine dCall (i := 7) (caps := []) (v := (fun (r1 : Bool) => (.d (.bool r1) : V))) (H' := (fun (r1 : Bool) => ([.box [.d (.lit (List.map e_SPoint x))], .box [.d (.int .i64 x1), .d (.int .i64 x2)]] : List Blk))) [] _ (ratio_Less_goes k e1.X_Num e1.X_Den x1 x2) rfl (by kernel_rfl) (by kernel_rfl) (by kernel_rfl) (by kernel_rfl) (by kernel_rfl) (by kernel_rfl) (by kernel_rfl) (by kernel_rfl) rfl (by kernel_rfl) Try.func34 rfl (by kernel_rfl) (ConvRs.refl _ _) (by kernel_rfl) (by kernel_rfl) (by kernel_rfl) (by decide) (by kernel_rfl) (by kernel_rfl) (fun _ => (by kernel_rfl)) (fun _ => (by kernel_rfl)) (fun _ => (by kernel_rfl)) (fun r1 => ?_)
  refine aTakeL (i := 8) (st' := []) (.d (.bool (!r1))) rfl (by kernel_rfl) (by kernel_rfl) (by kernel_rfl) (by kernel_rfl) (by kernel_rfl) (by kernel_rfl) (by kernel_rfl) (PureV.quiet (p_not (p := r1) (by kernel_rfl) (by kernel_rfl)) []) ?_
  refine aTakeL (i := 9) (st' := []) (.d (.bool (!r1))) rfl (by kernel_rfl) (by kernel_rfl) (by kernel_rfl) (by kernel_rfl) (by kernel_rfl) (by kernel_rfl) (by kernel_rfl) (PureV.quiet (p_assign (by kernel_rfl)) []) ?_
  refine aDone (by kernel_rfl) ?_
  exact oRet (r0 := (!r1)) (rv := .d (.bool (!r1))) (B := [.box [.d (.lit (List.map e_SPoint x))], .box [.d (.int .i64 x1), .d (.int .i64 x2)]]) (vs := [.d (.bool (!r1))]) (σ := [0, 1]) (by kernel_rfl) Try.func38 rfl (.cons _ _ _ _ (.tmp 4 _ (by kernel_rfl)) .nil) (by kernel_rfl) (by kernel_rfl) (by kernel_rfl) (by kernel_rfl) (by decide) (by kernel_rfl) (by kernel_rfl)

end Go.VM
