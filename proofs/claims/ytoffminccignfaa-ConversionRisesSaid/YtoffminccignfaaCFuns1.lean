/- Plain functions that answer as the program's functions do, and the proof that they do. -/
import Derived.Test.YtoffminccignfaaProg
import Derived.KernelRfl
import Derived.Test.YtoffminccignfaaEngW
import Derived.Test.YtoffminccignfaaCFacts
import Derived.Test.YtoffminccignfaaCFuns0
namespace Go.VM
open Go.Proofs
set_option linter.unusedVariables false
set_option linter.unusedSimpArgs false
set_option maxRecDepth 100000
/-- sort.Search -/
def sort_Search_b1 (k : Nat) (x : (List SPoint)) (x1 : Int) (x2 : Int) (again : Int × Int → Option (Int)) : Int × Int → Option (Int) := uc fun i6 => fun j4 => bif (decide (i6 < j4)) then Option.bind (conversion_calc_eval_1 k (IntKind.wrap .i64 (Int.fdiv (IntKind.wrap .u64 (IntKind.wrap .i64 (i6 + j4))) (2 ^ (min (Int.toNat 1) (IntKind.bits .u64))))) x x1 x2) (fun r116 => bif (!r116) then again ((IntKind.wrap .i64 ((IntKind.wrap .i64 (Int.fdiv (IntKind.wrap .u64 (IntKind.wrap .i64 (i6 + j4))) (2 ^ (min (Int.toNat 1) (IntKind.bits .u64))))) + 1)), j4) else again (i6, (IntKind.wrap .i64 (Int.fdiv (IntKind.wrap .u64 (IntKind.wrap .i64 (i6 + j4))) (2 ^ (min (Int.toNat 1) (IntKind.bits .u64))))))) else some i6
def sort_Search (k : Nat) (n : Int) (x : (List SPoint)) (x1 : Int) (x2 : Int) : Option (Int) := Option.bind (gloop (sort_Search_b1 k x x1 x2) k (0, n) : Option (Int)) (fun i5 => some i5)
def sort_Search_E (n : Int) (x : (List SPoint)) (x1 : Int) (x2 : Int) : Int → V × List Blk := fun r1 => (.d (.int .i64 r1), [.box [.d (.lit (List.map e_SPoint x))], .box [.d (.int .i64 x1), .d (.int .i64 x2)]])
theorem sort_Search_goes (k : Nat) (n : Int) (x : (List SPoint)) (x1 : Int) (x2 : Int) : RunsO Try.prog 37 [.d (.int .i64 n), .fn 38 [.ptr 0 0, .ptr 1 0]] [.box [.d (.lit (List.map e_SPoint x))], .box [.d (.int .i64 x1), .d (.int .i64 x2)]] (sort_Search_E n x x1 x2) (sort_Search k n x x1 x2) := by
  refine RunsO.of_goes (N := 26) (m := 2) (T := [(0, .d (.int .i64 n)), (1, .fn 38 [.ptr 0 0, .ptr 1 0])]) Try.func37 rfl rfl (by kernel_rfl) (by kernel_rfl) (by kernel_rfl) ?_
  unfold sort_Search
  refine bStart ?_
  refine oSeq ?_
  refine oRegion rfl ?_
  refine oOp (.d (.int .i64 0)) (by kernel_rfl) (by kernel_rfl) (PureV.does (p_assign (by kernel_rfl))) ?_
  refine oEnd ?_
  refine oSeq ?_
  refine oRegion rfl ?_
  refine oOp (.d (.int .i64 n)) (by kernel_rfl) (by kernel_rfl) (PureV.does (p_move (by kernel_rfl))) ?_
  refine oOp (.d (.int .i64 0)) (by kernel_rfl) (by kernel_rfl) (PureV.does (p_assign (by kernel_rfl))) ?_
  refine oOp (.d (.int .i64 n)) (by kernel_rfl) (by kernel_rfl) (PureV.does (p_assign (by kernel_rfl))) ?_
  refine oEnd ?_
  refine oSeq ?_
  refine bJoin ((fun (i5 : Int) => [(5, .d (.int .i64 i5))])) ((fun (i5 : Int) => [.box [.d (.lit (List.map e_SPoint x))], .box [.d (.int .i64 x1), .d (.int .i64 x2)]])) (fun s => s) (fun i5 => ?_) (fun hj2 => ?_)
  ·refine oView (T' := [(5, .d (.int .i64 i5))]) (H' := [.box [.d (.lit (List.map e_SPoint x))], .box [.d (.int .i64 x1), .d (.int .i64 x2)]]) (by kernel_rfl) (by kernel_rfl) ?_
   refine oSeq ?_
   refine oRegion rfl ?_
   refine oOp (.d (.int .i64 i5)) (by kernel_rfl) (by kernel_rfl) (PureV.does (p_move (by kernel_rfl))) ?_
   refine oOp (.d (.int .i64 i5)) (by kernel_rfl) (by kernel_rfl) (PureV.does (p_assign (by kernel_rfl))) ?_
   refine oEnd ?_
   exact oRet (r0 := i5) (rv := .d (.int .i64 i5)) (B := [.box [.d (.lit (List.map e_SPoint x))], .box [.d (.int .i64 x1), .d (.int .i64 x2)]]) (vs := [.d (.int .i64 i5)]) (σ := [0, 1]) (by kernel_rfl) Try.func37 rfl (.cons _ _ _ _ (.tmp 4 _ (by kernel_rfl)) .nil) (by kernel_rfl) (by kernel_rfl) (by kernel_rfl) (by kernel_rfl) (by decide) (by kernel_rfl) (by kernel_rfl)
  ·refine oBlock ?_
   refine oLoop ?_
   refine oHead [1, 5, 6] [0, 1] (T' := [(1, .fn 38 [.ptr 0 0, .ptr 1 0]), (5, .d (.int .i64 0)), (6, .d (.int .i64 n))]) (H' := [.box [.d (.lit (List.map e_SPoint x))], .box [.d (.int .i64 x1), .d (.int .i64 x2)]]) (by kernel_rfl) (by kernel_rfl) (by kernel_rfl) (by kernel_rfl) (by decide) (by kernel_rfl) (by kernel_rfl) ?_
   refine bLoop (body := sort_Search_b1 k x x1 x2) ((uc fun (i6 : Int) => (fun (j4 : Int) => [(1, .fn 38 [.ptr 0 0, .ptr 1 0]), (5, .d (.int .i64 i6)), (6, .d (.int .i64 j4))]))) ((uc fun (i6 : Int) => (fun (j4 : Int) => [.box [.d (.lit (List.map e_SPoint x))], .box [.d (.int .i64 x1), .d (.int .i64 x2)]]))) (fun again hag1 s => ?_) k (0, n)
   ·unfold sort_Search_b1
    obtain ⟨i6, j4⟩ := s
    refine bUc ?_
    refine oView (T' := [(1, .fn 38 [.ptr 0 0, .ptr 1 0]), (5, .d (.int .i64 i6)), (6, .d (.int .i64 j4))]) (H' := [.box [.d (.lit (List.map e_SPoint x))], .box [.d (.int .i64 x1), .d (.int .i64 x2)]]) (by kernel_rfl) (by kernel_rfl) ?_
    refine oSeq ?_
    refine oSeq ?_
    refine oRegion rfl ?_
    refine oOp (.d (.int .i64 i6)) (by kernel_rfl) (by kernel_rfl) (PureV.does (p_move (by kernel_rfl))) ?_
    refine oOp (.d (.int .i64 j4)) (by kernel_rfl) (by kernel_rfl) (PureV.does (p_move (by kernel_rfl))) ?_
    refine oOp (.d (.bool (decide (i6 < j4)))) (by kernel_rfl) (by kernel_rfl) (PureV.does (p_int (k := .i64) (p := i6) (q := j4) (by kernel_rfl) (by kernel_rfl) (by kernel_rfl))) ?_
    refine oEnd ?_
    refine bSplit 11 (by kernel_rfl) (fun hc => ?_) (fun hc => ?_)
    ·refine oCondT (by kernel_rfl) ?_
     refine oSkip ?_
     refine oBlock ?_
     refine oSeq ?_
     refine oRegion rfl ?_
     refine oOp (.d (.int .i64 i6)) (by kernel_rfl) (by kernel_rfl) (PureV.does (p_move (by kernel_rfl))) ?_
     refine oOp (.d (.int .i64 j4)) (by kernel_rfl) (by kernel_rfl) (PureV.does (p_move (by kernel_rfl))) ?_
     refine oOp (.d (.int .i64 (IntKind.wrap .i64 (i6 + j4)))) (by kernel_rfl) (by kernel_rfl) (PureV.does (p_int (k := .i64) (p := i6) (q := j4) (by kernel_rfl) (by kernel_rfl) (by kernel_rfl))) ?_
     refine oOp (.d (.int .u64 (IntKind.wrap .u64 (IntKind.wrap .i64 (i6 + j4))))) (by kernel_rfl) (by kernel_rfl) (PureV.does (p_conv (k := .i64) (p := (IntKind.wrap .i64 (i6 + j4))) (by kernel_rfl) Try.underlying3 Try.underlying78 (by kernel_rfl))) ?_
     refine oOp (.d (.int .u64 (Int.fdiv (IntKind.wrap .u64 (IntKind.wrap .i64 (i6 + j4))) (2 ^ (min (Int.toNat 1) (IntKind.bits .u64)))))) (by kernel_rfl) (by kernel_rfl) (PureV.does (p_shr (k := .u64) (k2 := .u64) (p := (IntKind.wrap .u64 (IntKind.wrap .i64 (i6 + j4)))) (q := 1) (by kernel_rfl) (by kernel_rfl) (by decide) (by kernel_rfl))) ?_
     refine oOp (.d (.int .i64 (IntKind.wrap .i64 (Int.fdiv (IntKind.wrap .u64 (IntKind.wrap .i64 (i6 + j4))) (2 ^ (min (Int.toNat 1) (IntKind.bits .u64))))))) (by kernel_rfl) (by kernel_rfl) (PureV.does (p_conv (k := .u64) (p := (Int.fdiv (IntKind.wrap .u64 (IntKind.wrap .i64 (i6 + j4))) (2 ^ (min (Int.toNat 1) (IntKind.bits .u64))))) (by kernel_rfl) Try.underlying78 Try.underlying3 (by kernel_rfl))) ?_
     refine oOp (.d (.int .i64 (IntKind.wrap .i64 (Int.fdiv (IntKind.wrap .u64 (IntKind.wrap .i64 (i6 + j4))) (2 ^ (min (Int.toNat 1) (IntKind.bits .u64))))))) (by kernel_rfl) (by kernel_rfl) (PureV.does (p_assign (by kernel_rfl))) ?_
     refine oEnd ?_
     refine oSeq ?_
     refine oRegion rfl ?_
     refine oOp (.fn 38 [.ptr 0 0, .ptr 1 0]) (by kernel_rfl) (by kernel_rfl) (PureV.does (p_move (by kernel_rfl))) ?_
     refine oOp (.d (.int .i64 (IntKind.wrap .i64 (Int.fdiv (IntKind.wrap .u64 (IntKind.wrap .i64 (i6 + j4))) (2 ^ (min (Int.toNat 1) (IntKind.bits .u64))))))) (by kernel_rfl) (by kernel_rfl) (PureV.does (p_move (by kernel_rfl))) ?_
     refine bCall (caps := [.ptr 0 0, .ptr 1 0]) (v := (fun (r116 : Bool) => (.d (.bool r116) : V))) (H' := (fun (r116 : Bool) => ([.box [.d (.lit (List.map e_SPoint x))], .box [.d (.int .i64 x1), .d (.int .i64 x2)]] : List Blk))) [0, 1] _ (conversion_calc_eval_1_goes k (IntKind.wrap .i64 (Int.fdiv (IntKind.wrap .u64 (IntKind.wrap .i64 (i6 + j4))) (2 ^ (min (Int.toNat 1) (IntKind.bits .u64))))) x x1 x2) (by kernel_rfl) (by kernel_rfl) rfl (by kernel_rfl) Try.func38 rfl (by kernel_rfl) (ConvRs.refl _ _) (by kernel_rfl) (by kernel_rfl) (by kernel_rfl) (by decide) (by kernel_rfl) (by kernel_rfl) (fun _ => (by kernel_rfl)) (fun _ => (by kernel_rfl)) (fun _ => (by kernel_rfl)) (fun r116 => ?_)
     refine oOp (.d (.bool (!r116))) (by kernel_rfl) (by kernel_rfl) (PureV.does (p_not (p := r116) (by kernel_rfl) (by kernel_rfl))) ?_
     refine oEnd ?_
     refine bSplit 21 (by kernel_rfl) (fun hc => ?_) (fun hc => ?_)
     ·refine oCondT (by kernel_rfl) ?_
      refine oRegion rfl ?_
      refine oOp (.d (.int .i64 (IntKind.wrap .i64 (Int.fdiv (IntKind.wrap .u64 (IntKind.wrap .i64 (i6 + j4))) (2 ^ (min (Int.toNat 1) (IntKind.bits .u64))))))) (by kernel_rfl) (by kernel_rfl) (PureV.does (p_move (by kernel_rfl))) ?_
      refine oOp (.d (.int .i64 (IntKind.wrap .i64 ((IntKind.wrap .i64 (Int.fdiv (IntKind.wrap .u64 (IntKind.wrap .i64 (i6 + j4))) (2 ^ (min (Int.toNat 1) (IntKind.bits .u64))))) + 1)))) (by kernel_rfl) (by kernel_rfl) (PureV.does (p_int (k := .i64) (p := (IntKind.wrap .i64 (Int.fdiv (IntKind.wrap .u64 (IntKind.wrap .i64 (i6 + j4))) (2 ^ (min (Int.toNat 1) (IntKind.bits .u64)))))) (q := 1) (by kernel_rfl) (by kernel_rfl) (by kernel_rfl))) ?_
      refine oOp (.d (.int .i64 (IntKind.wrap .i64 ((IntKind.wrap .i64 (Int.fdiv (IntKind.wrap .u64 (IntKind.wrap .i64 (i6 + j4))) (2 ^ (min (Int.toNat 1) (IntKind.bits .u64))))) + 1)))) (by kernel_rfl) (by kernel_rfl) (PureV.does (p_assign (by kernel_rfl))) ?_
      refine oEnd ?_
      refine oBlk ?_
      refine oAgain ?_
      refine oHead [1, 5, 6] [0, 1] (T' := [(1, .fn 38 [.ptr 0 0, .ptr 1 0]), (5, .d (.int .i64 (IntKind.wrap .i64 ((IntKind.wrap .i64 (Int.fdiv (IntKind.wrap .u64 (IntKind.wrap .i64 (i6 + j4))) (2 ^ (min (Int.toNat 1) (IntKind.bits .u64))))) + 1)))), (6, .d (.int .i64 j4))]) (H' := [.box [.d (.lit (List.map e_SPoint x))], .box [.d (.int .i64 x1), .d (.int .i64 x2)]]) (by kernel_rfl) (by kernel_rfl) (by kernel_rfl) (by kernel_rfl) (by decide) (by kernel_rfl) (by kernel_rfl) ?_
      exact hag1 ((IntKind.wrap .i64 ((IntKind.wrap .i64 (Int.fdiv (IntKind.wrap .u64 (IntKind.wrap .i64 (i6 + j4))) (2 ^ (min (Int.toNat 1) (IntKind.bits .u64))))) + 1)), j4)
     ·refine oCondF (by kernel_rfl) ?_
      refine oRegion rfl ?_
      refine oOp (.d (.int .i64 (IntKind.wrap .i64 (Int.fdiv (IntKind.wrap .u64 (IntKind.wrap .i64 (i6 + j4))) (2 ^ (min (Int.toNat 1) (IntKind.bits .u64))))))) (by kernel_rfl) (by kernel_rfl) (PureV.does (p_move (by kernel_rfl))) ?_
      refine oOp (.d (.int .i64 (IntKind.wrap .i64 (Int.fdiv (IntKind.wrap .u64 (IntKind.wrap .i64 (i6 + j4))) (2 ^ (min (Int.toNat 1) (IntKind.bits .u64))))))) (by kernel_rfl) (by kernel_rfl) (PureV.does (p_assign (by kernel_rfl))) ?_
      refine oEnd ?_
      refine oBlk ?_
      refine oAgain ?_
      refine oHead [1, 5, 6] [0, 1] (T' := [(1, .fn 38 [.ptr 0 0, .ptr 1 0]), (5, .d (.int .i64 i6)), (6, .d (.int .i64 (IntKind.wrap .i64 (Int.fdiv (IntKind.wrap .u64 (IntKind.wrap .i64 (i6 + j4))) (2 ^ (min (Int.toNat 1) (IntKind.bits .u64)))))))]) (H' := [.box [.d (.lit (List.map e_SPoint x))], .box [.d (.int .i64 x1), .d (.int .i64 x2)]]) (by kernel_rfl) (by kernel_rfl) (by kernel_rfl) (by kernel_rfl) (by decide) (by kernel_rfl) (by kernel_rfl) ?_
      exact hag1 (i6, (IntKind.wrap .i64 (Int.fdiv (IntKind.wrap .u64 (IntKind.wrap .i64 (i6 + j4))) (2 ^ (min (Int.toNat 1) (IntKind.bits .u64))))))
    ·refine oCondF (by kernel_rfl) ?_
     refine oExit rfl ?_
     refine oHead [5] [0, 1] (T' := [(5, .d (.int .i64 i6))]) (H' := [.box [.d (.lit (List.map e_SPoint x))], .box [.d (.int .i64 x1), .d (.int .i64 x2)]]) (by kernel_rfl) (by kernel_rfl) (by kernel_rfl) (by kernel_rfl) (by decide) (by kernel_rfl) (by kernel_rfl) ?_
     exact hj2 i6

/-- (awardingbody/ratio.wide).plus -/
def ratio_wide_plus (k : Nat) (w0 : Bool) (w1 : Int) (w2 : Int) (v0 : Bool) (v1 : Int) (v2 : Int) : Option (Bool × Int × Int) := bif (w0 == v0) then gcarry w2 v2 0 (gcarry w1 v1 ((w2 + v2 + 0) / 18446744073709551616) (some (w0, ((w1 + v1 + ((w2 + v2 + 0) / 18446744073709551616)) % 18446744073709551616), ((w2 + v2 + 0) % 18446744073709551616)))) else Option.bind (ratio_wide_compare k w0 w1 w2 v0 v1 v2) (fun r14 => Option.bind (bif (decide (r14 < 0)) then some (v0, v1, v2, w0, w1, w2) else some (w0, w1, w2, v0, v1, v2) : Option (Bool × Int × Int × Bool × Int × Int)) (uc fun x6 => uc fun x7 => uc fun x8 => uc fun x9 => uc fun x10 => fun x11 => gcarry x8 x11 0 (gle x11 18446744073709551615 (gcarry x7 x10 (if x8 < x11 + 0 then 1 else 0) (gle x10 18446744073709551615 (some (x6, ((x7 - x10 - (if x8 < x11 + 0 then 1 else 0)) % 18446744073709551616), ((x8 - x11 - 0) % 18446744073709551616))))))))
def ratio_wide_plus_E (w0 : Bool) (w1 : Int) (w2 : Int) (v0 : Bool) (v1 : Int) (v2 : Int) : Bool × Int × Int → V × List Blk := uc fun r11 => uc fun r12 => fun r13 => (.agg [.d (.bool r11), .d (.int .u64 r12), .d (.int .u64 r13)], [])
theorem ratio_wide_plus_goes (k : Nat) (w0 : Bool) (w1 : Int) (w2 : Int) (v0 : Bool) (v1 : Int) (v2 : Int) : RunsO Try.prog 70 [.agg [.d (.bool w0), .d (.int .u64 w1), .d (.int .u64 w2)], .agg [.d (.bool v0), .d (.int .u64 v1), .d (.int .u64 v2)]] [] (ratio_wide_plus_E w0 w1 w2 v0 v1 v2) (ratio_wide_plus k w0 w1 w2 v0 v1 v2) := by
  refine RunsO.of_goes (N := 68) (m := 0) (T := [(0, .agg [.d (.bool w0), .d (.int .u64 w1), .d (.int .u64 w2)]), (1, .agg [.d (.bool v0), .d (.int .u64 v1), .d (.int .u64 v2)])]) Try.func70 rfl rfl (by kernel_rfl) (by kernel_rfl) (by kernel_rfl) ?_
  unfold ratio_wide_plus
  refine bStart ?_
  refine oSeq ?_
  refine oRegion rfl ?_
  refine oOp (.ptr 0 0) (by kernel_rfl) (by kernel_rfl) (k_box (H' := [.box [.d (.bool w0), .d (.int .u64 w1), .d (.int .u64 w2)]]) (cells := [.d (.bool w0), .d (.int .u64 w1), .d (.int .u64 w2)]) (by kernel_rfl) (by kernel_rfl) (by kernel_rfl)) ?_
  refine oOp (.ptr 1 0) (by kernel_rfl) (by kernel_rfl) (k_box (H' := [.box [.d (.bool w0), .d (.int .u64 w1), .d (.int .u64 w2)], .box [.d (.bool v0), .d (.int .u64 v1), .d (.int .u64 v2)]]) (cells := [.d (.bool v0), .d (.int .u64 v1), .d (.int .u64 v2)]) (by kernel_rfl) (by kernel_rfl) (by kernel_rfl)) ?_
  refine oOp (.ptr 2 0) (by kernel_rfl) (by kernel_rfl) (k_alloc (H' := [.box [.d (.bool w0), .d (.int .u64 w1), .d (.int .u64 w2)], .box [.d (.bool v0), .d (.int .u64 v1), .d (.int .u64 v2)], .box [.d (.bool false), .d (.int .u64 0), .d (.int .u64 0)]]) ty80 (by kernel_rfl) (by kernel_rfl)) ?_
  refine oEnd ?_
  refine oSeq ?_
  refine oSeq ?_
  refine oRegion rfl ?_
  refine oOp (.ptr 0 0) (by kernel_rfl) (by kernel_rfl) (PureV.does (k_fieldAddr 0 0 (by kernel_rfl) Try.underlying80 rfl ty4 (by kernel_rfl))) ?_
  refine oOp (.d (.bool w0)) (by kernel_rfl) (by kernel_rfl) (Quiet.does (k_load 0 0 (by kernel_rfl) Try.underlying4 (by kernel_rfl) (by kernel_rfl))) ?_
  refine oOp (.ptr 1 0) (by kernel_rfl) (by kernel_rfl) (PureV.does (k_fieldAddr 1 0 (by kernel_rfl) Try.underlying80 rfl ty4 (by kernel_rfl))) ?_
  refine oOp (.d (.bool v0)) (by kernel_rfl) (by kernel_rfl) (Quiet.does (k_load 1 0 (by kernel_rfl) Try.underlying4 (by kernel_rfl) (by kernel_rfl))) ?_
  refine oOp (.d (.bool (w0 == v0))) (by kernel_rfl) (by kernel_rfl) (PureV.does (p_boolEq (p := w0) (q := v0) (by kernel_rfl) (by kernel_rfl) Try.underlying4 (by kernel_rfl))) ?_
  refine oEnd ?_
  refine bSplit 17 (by kernel_rfl) (fun hc => ?_) (fun hc => ?_)
  ·refine oCondT (by kernel_rfl) ?_
   refine oSeq ?_
   refine oRegion rfl ?_
   refine oOp (.ptr 0 2) (by kernel_rfl) (by kernel_rfl) (PureV.does (k_fieldAddr 0 0 (by kernel_rfl) Try.underlying80 rfl ty64 (by kernel_rfl))) ?_
   refine oOp (.d (.int .u64 w2)) (by kernel_rfl) (by kernel_rfl) (Quiet.does (k_load 0 2 (by kernel_rfl) Try.underlying64 (by kernel_rfl) (by kernel_rfl))) ?_
   refine oOp (.ptr 1 2) (by kernel_rfl) (by kernel_rfl) (PureV.does (k_fieldAddr 1 0 (by kernel_rfl) Try.underlying80 rfl ty64 (by kernel_rfl))) ?_
   refine oOp (.d (.int .u64 v2)) (by kernel_rfl) (by kernel_rfl) (Quiet.does (k_load 1 2 (by kernel_rfl) Try.underlying64 (by kernel_rfl) (by kernel_rfl))) ?_
   refine bCarry (fun h110 => ?_)
   refine oOp (.tuple [.d (.int .u64 ((w2 + v2 + 0) % 18446744073709551616)), .d (.int .u64 ((w2 + v2 + 0) / 18446744073709551616))]) (by kernel_rfl) (by kernel_rfl) (PureV.does (p_add64 (p := w2) (q := v2) (c := 0) (by kernel_rfl) Try.func76 (by kernel_rfl) (by kernel_rfl) (by kernel_rfl) (by kernel_rfl) (by kernel_rfl) (by kernel_rfl) (by kernel_rfl) h110)) ?_
   refine oOp (.tuple [.d (.int .u64 ((w2 + v2 + 0) % 18446744073709551616)), .d (.int .u64 ((w2 + v2 + 0) / 18446744073709551616))]) (by kernel_rfl) (by kernel_rfl) (PureV.does (p_move (by kernel_rfl))) ?_
   refine oOp (.d (.int .u64 ((w2 + v2 + 0) % 18446744073709551616))) (by kernel_rfl) (by kernel_rfl) (PureV.does (k_extract (by kernel_rfl))) ?_
   refine oOp (.d (.int .u64 ((w2 + v2 + 0) / 18446744073709551616))) (by kernel_rfl) (by kernel_rfl) (PureV.does (k_extract (by kernel_rfl))) ?_
   refine oOp (.d (.int .u64 ((w2 + v2 + 0) % 18446744073709551616))) (by kernel_rfl) (by kernel_rfl) (PureV.does (p_assign (by kernel_rfl))) ?_
   refine oOp (.d (.int .u64 ((w2 + v2 + 0) / 18446744073709551616))) (by kernel_rfl) (by kernel_rfl) (PureV.does (p_assign (by kernel_rfl))) ?_
   refine oEnd ?_
   refine oSeq ?_
   refine oRegion rfl ?_
   refine oOp (.ptr 0 1) (by kernel_rfl) (by kernel_rfl) (PureV.does (k_fieldAddr 0 0 (by kernel_rfl) Try.underlying80 rfl ty64 (by kernel_rfl))) ?_
   refine oOp (.d (.int .u64 w1)) (by kernel_rfl) (by kernel_rfl) (Quiet.does (k_load 0 1 (by kernel_rfl) Try.underlying64 (by kernel_rfl) (by kernel_rfl))) ?_
   refine oOp (.ptr 1 1) (by kernel_rfl) (by kernel_rfl) (PureV.does (k_fieldAddr 1 0 (by kernel_rfl) Try.underlying80 rfl ty64 (by kernel_rfl))) ?_
   refine oOp (.d (.int .u64 v1)) (by kernel_rfl) (by kernel_rfl) (Quiet.does (k_load 1 1 (by kernel_rfl) Try.underlying64 (by kernel_rfl) (by kernel_rfl))) ?_
   refine oOp (.d (.int .u64 ((w2 + v2 + 0) / 18446744073709551616))) (by kernel_rfl) (by kernel_rfl) (PureV.does (p_move (by kernel_rfl))) ?_
   refine bCarry (fun h111 => ?_)
   refine oOp (.tuple [.d (.int .u64 ((w1 + v1 + ((w2 + v2 + 0) / 18446744073709551616)) % 18446744073709551616)), .d (.int .u64 ((w1 + v1 + ((w2 + v2 + 0) / 18446744073709551616)) / 18446744073709551616))]) (by kernel_rfl) (by kernel_rfl) (PureV.does (p_add64 (p := w1) (q := v1) (c := ((w2 + v2 + 0) / 18446744073709551616)) (by kernel_rfl) Try.func76 (by kernel_rfl) (by kernel_rfl) (by kernel_rfl) (by kernel_rfl) (by kernel_rfl) (by kernel_rfl) (by kernel_rfl) h111)) ?_
   refine oOp (.tuple [.d (.int .u64 ((w1 + v1 + ((w2 + v2 + 0) / 18446744073709551616)) % 18446744073709551616)), .d (.int .u64 ((w1 + v1 + ((w2 + v2 + 0) / 18446744073709551616)) / 18446744073709551616))]) (by kernel_rfl) (by kernel_rfl) (PureV.does (p_move (by kernel_rfl))) ?_
   refine oOp (.d (.int .u64 ((w1 + v1 + ((w2 + v2 + 0) / 18446744073709551616)) % 18446744073709551616))) (by kernel_rfl) (by kernel_rfl) (PureV.does (k_extract (by kernel_rfl))) ?_
   refine oOp (.d (.int .u64 ((w1 + v1 + ((w2 + v2 + 0) / 18446744073709551616)) / 18446744073709551616))) (by kernel_rfl) (by kernel_rfl) (PureV.does (k_extract (by kernel_rfl))) ?_
   refine oOp (.d (.int .u64 ((w1 + v1 + ((w2 + v2 + 0) / 18446744073709551616)) % 18446744073709551616))) (by kernel_rfl) (by kernel_rfl) (PureV.does (p_assign (by kernel_rfl))) ?_
   refine oOp (.d (.int .u64 ((w1 + v1 + ((w2 + v2 + 0) / 18446744073709551616)) / 18446744073709551616))) (by kernel_rfl) (by kernel_rfl) (PureV.does (p_assign (by kernel_rfl))) ?_
   refine oEnd ?_
   refine oSeq ?_
   refine oRegion rfl ?_
   refine oOp (.ptr 0 0) (by kernel_rfl) (by kernel_rfl) (PureV.does (k_fieldAddr 0 0 (by kernel_rfl) Try.underlying80 rfl ty4 (by kernel_rfl))) ?_
   refine oOp (.d (.bool w0)) (by kernel_rfl) (by kernel_rfl) (Quiet.does (k_load 0 0 (by kernel_rfl) Try.underlying4 (by kernel_rfl) (by kernel_rfl))) ?_
   refine oOp (.d (.int .u64 ((w1 + v1 + ((w2 + v2 + 0) / 18446744073709551616)) % 18446744073709551616))) (by kernel_rfl) (by kernel_rfl) (PureV.does (p_move (by kernel_rfl))) ?_
   refine oOp (.d (.int .u64 ((w2 + v2 + 0) % 18446744073709551616))) (by kernel_rfl) (by kernel_rfl) (PureV.does (p_move (by kernel_rfl))) ?_
   refine oOp (.agg [.d (.bool w0), .d (.int .u64 ((w1 + v1 + ((w2 + v2 + 0) / 18446744073709551616)) % 18446744073709551616)), .d (.int .u64 ((w2 + v2 + 0) % 18446744073709551616))]) (by kernel_rfl) (by kernel_rfl) (PureV.does (p_build bld80 (by kernel_rfl))) ?_
   refine oOp (.undef) (by kernel_rfl) (by kernel_rfl) (k_store (vs := [.d (.bool w0), .d (.int .u64 ((w1 + v1 + ((w2 + v2 + 0) / 18446744073709551616)) % 18446744073709551616)), .d (.int .u64 ((w2 + v2 + 0) % 18446744073709551616))]) (H' := [.box [.d (.bool w0), .d (.int .u64 w1), .d (.int .u64 w2)], .box [.d (.bool v0), .d (.int .u64 v1), .d (.int .u64 v2)], .box [.d (.bool w0), .d (.int .u64 ((w1 + v1 + ((w2 + v2 + 0) / 18446744073709551616)) % 18446744073709551616)), .d (.int .u64 ((w2 + v2 + 0) % 18446744073709551616))]]) 2 0 (by kernel_rfl) ty80 (by kernel_rfl) (by kernel_rfl) (by kernel_rfl)) ?_
   refine oEnd ?_
   exact oRet (r0 := (w0, ((w1 + v1 + ((w2 + v2 + 0) / 18446744073709551616)) % 18446744073709551616), ((w2 + v2 + 0) % 18446744073709551616))) (rv := .agg [.d (.bool w0), .d (.int .u64 ((w1 + v1 + ((w2 + v2 + 0) / 18446744073709551616)) % 18446744073709551616)), .d (.int .u64 ((w2 + v2 + 0) % 18446744073709551616))]) (B := []) (vs := [.agg [.d (.bool w0), .d (.int .u64 ((w1 + v1 + ((w2 + v2 + 0) / 18446744073709551616)) % 18446744073709551616)), .d (.int .u64 ((w2 + v2 + 0) % 18446744073709551616))]]) (σ := []) (by kernel_rfl) Try.func70 rfl (.cons _ _ _ _ (.agg 4 80 2 0 [.d (.bool w0), .d (.int .u64 ((w1 + v1 + ((w2 + v2 + 0) / 18446744073709551616)) % 18446744073709551616)), .d (.int .u64 ((w2 + v2 + 0) % 18446744073709551616))] [.d (.bool w0), .d (.int .u64 ((w1 + v1 + ((w2 + v2 + 0) / 18446744073709551616)) % 18446744073709551616)), .d (.int .u64 ((w2 + v2 + 0) % 18446744073709551616))] _ _ _ _ (by kernel_rfl) (by kernel_rfl) Try.underlying80 (by kernel_rfl) ty80 (by kernel_rfl) (by kernel_rfl)) .nil) (by kernel_rfl) (by kernel_rfl) (by kernel_rfl) (by kernel_rfl) (by decide) (by kernel_rfl) (by kernel_rfl)
  ·refine oCondF (by kernel_rfl) ?_
   refine oSkip ?_
   refine oSeq ?_
   refine oSeq ?_
   refine oRegion rfl ?_
   refine oOp (.agg [.d (.bool w0), .d (.int .u64 w1), .d (.int .u64 w2)]) (by kernel_rfl) (by kernel_rfl) (Quiet.does (k_loadAgg 0 0 (by kernel_rfl) Try.underlying80 (by kernel_rfl) ty80 (by kernel_rfl))) ?_
   refine oOp (.agg [.d (.bool v0), .d (.int .u64 v1), .d (.int .u64 v2)]) (by kernel_rfl) (by kernel_rfl) (Quiet.does (k_loadAgg 1 0 (by kernel_rfl) Try.underlying80 (by kernel_rfl) ty80 (by kernel_rfl))) ?_
   refine bCall (caps := []) (v := (fun (r14 : Int) => (.d (.int .i64 r14) : V))) (H' := (fun (r14 : Int) => ([.box [.d (.bool w0), .d (.int .u64 w1), .d (.int .u64 w2)], .box [.d (.bool v0), .d (.int .u64 v1), .d (.int .u64 v2)], .box [.d (.bool false), .d (.int .u64 0), .d (.int .u64 0)]] : List Blk))) [] _ (ratio_wide_compare_goes k w0 w1 w2 v0 v1 v2) (by kernel_rfl) (by kernel_rfl) rfl (by kernel_rfl) Try.func49 rfl (by kernel_rfl) (ConvRs.refl _ _) (by kernel_rfl) (by kernel_rfl) (by kernel_rfl) (by decide) (by kernel_rfl) (by kernel_rfl) (fun _ => (by kernel_rfl)) (fun _ => (by kernel_rfl)) (fun _ => (by kernel_rfl)) (fun r14 => ?_)
   refine oOp (.d (.bool (decide (r14 < 0)))) (by kernel_rfl) (by kernel_rfl) (PureV.does (p_int (k := .i64) (p := r14) (q := 0) (by kernel_rfl) (by kernel_rfl) (by kernel_rfl))) ?_
   refine oEnd ?_
   refine bJoin ((uc fun (x6 : Bool) => (uc fun (x7 : Int) => (uc fun (x8 : Int) => (uc fun (x9 : Bool) => (uc fun (x10 : Int) => (fun (x11 : Int) => [(2, .ptr 0 0), (3, .ptr 1 0), (4, .ptr 2 0)]))))))) ((uc fun (x6 : Bool) => (uc fun (x7 : Int) => (uc fun (x8 : Int) => (uc fun (x9 : Bool) => (uc fun (x10 : Int) => (fun (x11 : Int) => [.box [.d (.bool x6), .d (.int .u64 x7), .d (.int .u64 x8)], .box [.d (.bool x9), .d (.int .u64 x10), .d (.int .u64 x11)], .box [.d (.bool false), .d (.int .u64 0), .d (.int .u64 0)]]))))))) (fun s => s) (fun s => ?_) (fun hj2 => ?_)
   ·obtain ⟨x6, x7, x8, x9, x10, x11⟩ := s
    refine bUc ?_
    refine bUc ?_
    refine bUc ?_
    refine bUc ?_
    refine bUc ?_
    refine oView (T' := [(2, .ptr 0 0), (3, .ptr 1 0), (4, .ptr 2 0)]) (H' := [.box [.d (.bool x6), .d (.int .u64 x7), .d (.int .u64 x8)], .box [.d (.bool x9), .d (.int .u64 x10), .d (.int .u64 x11)], .box [.d (.bool false), .d (.int .u64 0), .d (.int .u64 0)]]) (by kernel_rfl) (by kernel_rfl) ?_
    refine oSeq ?_
    refine oRegion rfl ?_
    refine oOp (.ptr 0 2) (by kernel_rfl) (by kernel_rfl) (PureV.does (k_fieldAddr 0 0 (by kernel_rfl) Try.underlying80 rfl ty64 (by kernel_rfl))) ?_
    refine oOp (.d (.int .u64 x8)) (by kernel_rfl) (by kernel_rfl) (Quiet.does (k_load 0 2 (by kernel_rfl) Try.underlying64 (by kernel_rfl) (by kernel_rfl))) ?_
    refine oOp (.ptr 1 2) (by kernel_rfl) (by kernel_rfl) (PureV.does (k_fieldAddr 1 0 (by kernel_rfl) Try.underlying80 rfl ty64 (by kernel_rfl))) ?_
    refine oOp (.d (.int .u64 x11)) (by kernel_rfl) (by kernel_rfl) (Quiet.does (k_load 1 2 (by kernel_rfl) Try.underlying64 (by kernel_rfl) (by kernel_rfl))) ?_
    refine bCarry (fun h112 => ?_)
    refine bLe (fun h113 => ?_)
    refine oOp (.tuple [.d (.int .u64 ((x8 - x11 - 0) % 18446744073709551616)), .d (.int .u64 (if x8 < x11 + 0 then 1 else 0))]) (by kernel_rfl) (by kernel_rfl) (PureV.does (p_sub64 (p := x8) (q := x11) (c := 0) (by kernel_rfl) Try.func77 (by kernel_rfl) (by kernel_rfl) (by kernel_rfl) (by kernel_rfl) (by kernel_rfl) (by kernel_rfl) (by kernel_rfl) h112 h113)) ?_
    refine oOp (.tuple [.d (.int .u64 ((x8 - x11 - 0) % 18446744073709551616)), .d (.int .u64 (if x8 < x11 + 0 then 1 else 0))]) (by kernel_rfl) (by kernel_rfl) (PureV.does (p_move (by kernel_rfl))) ?_
    refine oOp (.d (.int .u64 ((x8 - x11 - 0) % 18446744073709551616))) (by kernel_rfl) (by kernel_rfl) (PureV.does (k_extract (by kernel_rfl))) ?_
    refine oOp (.d (.int .u64 (if x8 < x11 + 0 then 1 else 0))) (by kernel_rfl) (by kernel_rfl) (PureV.does (k_extract (by kernel_rfl))) ?_
    refine oOp (.d (.int .u64 ((x8 - x11 - 0) % 18446744073709551616))) (by kernel_rfl) (by kernel_rfl) (PureV.does (p_assign (by kernel_rfl))) ?_
    refine oOp (.d (.int .u64 (if x8 < x11 + 0 then 1 else 0))) (by kernel_rfl) (by kernel_rfl) (PureV.does (p_assign (by kernel_rfl))) ?_
    refine oEnd ?_
    refine oSeq ?_
    refine oRegion rfl ?_
    refine oOp (.ptr 0 1) (by kernel_rfl) (by kernel_rfl) (PureV.does (k_fieldAddr 0 0 (by kernel_rfl) Try.underlying80 rfl ty64 (by kernel_rfl))) ?_
    refine oOp (.d (.int .u64 x7)) (by kernel_rfl) (by kernel_rfl) (Quiet.does (k_load 0 1 (by kernel_rfl) Try.underlying64 (by kernel_rfl) (by kernel_rfl))) ?_
    refine oOp (.ptr 1 1) (by kernel_rfl) (by kernel_rfl) (PureV.does (k_fieldAddr 1 0 (by kernel_rfl) Try.underlying80 rfl ty64 (by kernel_rfl))) ?_
    refine oOp (.d (.int .u64 x10)) (by kernel_rfl) (by kernel_rfl) (Quiet.does (k_load 1 1 (by kernel_rfl) Try.underlying64 (by kernel_rfl) (by kernel_rfl))) ?_
    refine oOp (.d (.int .u64 (if x8 < x11 + 0 then 1 else 0))) (by kernel_rfl) (by kernel_rfl) (PureV.does (p_move (by kernel_rfl))) ?_
    refine bCarry (fun h114 => ?_)
    refine bLe (fun h115 => ?_)
    refine oOp (.tuple [.d (.int .u64 ((x7 - x10 - (if x8 < x11 + 0 then 1 else 0)) % 18446744073709551616)), .d (.int .u64 (if x7 < x10 + (if x8 < x11 + 0 then 1 else 0) then 1 else 0))]) (by kernel_rfl) (by kernel_rfl) (PureV.does (p_sub64 (p := x7) (q := x10) (c := (if x8 < x11 + 0 then 1 else 0)) (by kernel_rfl) Try.func77 (by kernel_rfl) (by kernel_rfl) (by kernel_rfl) (by kernel_rfl) (by kernel_rfl) (by kernel_rfl) (by kernel_rfl) h114 h115)) ?_
    refine oOp (.tuple [.d (.int .u64 ((x7 - x10 - (if x8 < x11 + 0 then 1 else 0)) % 18446744073709551616)), .d (.int .u64 (if x7 < x10 + (if x8 < x11 + 0 then 1 else 0) then 1 else 0))]) (by kernel_rfl) (by kernel_rfl) (PureV.does (p_move (by kernel_rfl))) ?_
    refine oOp (.d (.int .u64 ((x7 - x10 - (if x8 < x11 + 0 then 1 else 0)) % 18446744073709551616))) (by kernel_rfl) (by kernel_rfl) (PureV.does (k_extract (by kernel_rfl))) ?_
    refine oOp (.d (.int .u64 (if x7 < x10 + (if x8 < x11 + 0 then 1 else 0) then 1 else 0))) (by kernel_rfl) (by kernel_rfl) (PureV.does (k_extract (by kernel_rfl))) ?_
    refine oOp (.d (.int .u64 ((x7 - x10 - (if x8 < x11 + 0 then 1 else 0)) % 18446744073709551616))) (by kernel_rfl) (by kernel_rfl) (PureV.does (p_assign (by kernel_rfl))) ?_
    refine oOp (.d (.int .u64 (if x7 < x10 + (if x8 < x11 + 0 then 1 else 0) then 1 else 0))) (by kernel_rfl) (by kernel_rfl) (PureV.does (p_assign (by kernel_rfl))) ?_
    refine oEnd ?_
    refine oSeq ?_
    refine oRegion rfl ?_
    refine oOp (.ptr 0 0) (by kernel_rfl) (by kernel_rfl) (PureV.does (k_fieldAddr 0 0 (by kernel_rfl) Try.underlying80 rfl ty4 (by kernel_rfl))) ?_
    refine oOp (.d (.bool x6)) (by kernel_rfl) (by kernel_rfl) (Quiet.does (k_load 0 0 (by kernel_rfl) Try.underlying4 (by kernel_rfl) (by kernel_rfl))) ?_
    refine oOp (.d (.int .u64 ((x7 - x10 - (if x8 < x11 + 0 then 1 else 0)) % 18446744073709551616))) (by kernel_rfl) (by kernel_rfl) (PureV.does (p_move (by kernel_rfl))) ?_
    refine oOp (.d (.int .u64 ((x8 - x11 - 0) % 18446744073709551616))) (by kernel_rfl) (by kernel_rfl) (PureV.does (p_move (by kernel_rfl))) ?_
    refine oOp (.agg [.d (.bool x6), .d (.int .u64 ((x7 - x10 - (if x8 < x11 + 0 then 1 else 0)) % 18446744073709551616)), .d (.int .u64 ((x8 - x11 - 0) % 18446744073709551616))]) (by kernel_rfl) (by kernel_rfl) (PureV.does (p_build bld80 (by kernel_rfl))) ?_
    refine oOp (.undef) (by kernel_rfl) (by kernel_rfl) (k_store (vs := [.d (.bool x6), .d (.int .u64 ((x7 - x10 - (if x8 < x11 + 0 then 1 else 0)) % 18446744073709551616)), .d (.int .u64 ((x8 - x11 - 0) % 18446744073709551616))]) (H' := [.box [.d (.bool x6), .d (.int .u64 x7), .d (.int .u64 x8)], .box [.d (.bool x9), .d (.int .u64 x10), .d (.int .u64 x11)], .box [.d (.bool x6), .d (.int .u64 ((x7 - x10 - (if x8 < x11 + 0 then 1 else 0)) % 18446744073709551616)), .d (.int .u64 ((x8 - x11 - 0) % 18446744073709551616))]]) 2 0 (by kernel_rfl) ty80 (by kernel_rfl) (by kernel_rfl) (by kernel_rfl)) ?_
    refine oEnd ?_
    exact oRet (r0 := (x6, ((x7 - x10 - (if x8 < x11 + 0 then 1 else 0)) % 18446744073709551616), ((x8 - x11 - 0) % 18446744073709551616))) (rv := .agg [.d (.bool x6), .d (.int .u64 ((x7 - x10 - (if x8 < x11 + 0 then 1 else 0)) % 18446744073709551616)), .d (.int .u64 ((x8 - x11 - 0) % 18446744073709551616))]) (B := []) (vs := [.agg [.d (.bool x6), .d (.int .u64 ((x7 - x10 - (if x8 < x11 + 0 then 1 else 0)) % 18446744073709551616)), .d (.int .u64 ((x8 - x11 - 0) % 18446744073709551616))]]) (σ := []) (by kernel_rfl) Try.func70 rfl (.cons _ _ _ _ (.agg 4 80 2 0 [.d (.bool x6), .d (.int .u64 ((x7 - x10 - (if x8 < x11 + 0 then 1 else 0)) % 18446744073709551616)), .d (.int .u64 ((x8 - x11 - 0) % 18446744073709551616))] [.d (.bool x6), .d (.int .u64 ((x7 - x10 - (if x8 < x11 + 0 then 1 else 0)) % 18446744073709551616)), .d (.int .u64 ((x8 - x11 - 0) % 18446744073709551616))] _ _ _ _ (by kernel_rfl) (by kernel_rfl) Try.underlying80 (by kernel_rfl) ty80 (by kernel_rfl) (by kernel_rfl)) .nil) (by kernel_rfl) (by kernel_rfl) (by kernel_rfl) (by kernel_rfl) (by decide) (by kernel_rfl) (by kernel_rfl)
   ·refine bSplit 43 (by kernel_rfl) (fun hc => ?_) (fun hc => ?_)
    ·refine oCondT (by kernel_rfl) ?_
     refine oRegion rfl ?_
     refine oOp (.agg [.d (.bool v0), .d (.int .u64 v1), .d (.int .u64 v2)]) (by kernel_rfl) (by kernel_rfl) (Quiet.does (k_loadAgg 1 0 (by kernel_rfl) Try.underlying80 (by kernel_rfl) ty80 (by kernel_rfl))) ?_
     refine oOp (.agg [.d (.bool w0), .d (.int .u64 w1), .d (.int .u64 w2)]) (by kernel_rfl) (by kernel_rfl) (Quiet.does (k_loadAgg 0 0 (by kernel_rfl) Try.underlying80 (by kernel_rfl) ty80 (by kernel_rfl))) ?_
     refine oOp (.undef) (by kernel_rfl) (by kernel_rfl) (k_store (vs := [.d (.bool v0), .d (.int .u64 v1), .d (.int .u64 v2)]) (H' := [.box [.d (.bool v0), .d (.int .u64 v1), .d (.int .u64 v2)], .box [.d (.bool v0), .d (.int .u64 v1), .d (.int .u64 v2)], .box [.d (.bool false), .d (.int .u64 0), .d (.int .u64 0)]]) 0 0 (by kernel_rfl) ty80 (by kernel_rfl) (by kernel_rfl) (by kernel_rfl)) ?_
     refine oOp (.undef) (by kernel_rfl) (by kernel_rfl) (k_store (vs := [.d (.bool w0), .d (.int .u64 w1), .d (.int .u64 w2)]) (H' := [.box [.d (.bool v0), .d (.int .u64 v1), .d (.int .u64 v2)], .box [.d (.bool w0), .d (.int .u64 w1), .d (.int .u64 w2)], .box [.d (.bool false), .d (.int .u64 0), .d (.int .u64 0)]]) 1 0 (by kernel_rfl) ty80 (by kernel_rfl) (by kernel_rfl) (by kernel_rfl)) ?_
     refine oEnd ?_
     refine oHead [2, 3, 4] [0, 1, 2] (T' := [(2, .ptr 0 0), (3, .ptr 1 0), (4, .ptr 2 0)]) (H' := [.box [.d (.bool v0), .d (.int .u64 v1), .d (.int .u64 v2)], .box [.d (.bool w0), .d (.int .u64 w1), .d (.int .u64 w2)], .box [.d (.bool false), .d (.int .u64 0), .d (.int .u64 0)]]) (by kernel_rfl) (by kernel_rfl) (by kernel_rfl) (by kernel_rfl) (by decide) (by kernel_rfl) (by kernel_rfl) ?_
     exact hj2 (v0, v1, v2, w0, w1, w2)
    ·refine oCondF (by kernel_rfl) ?_
     refine oSkip ?_
     refine oHead [2, 3, 4] [0, 1, 2] (T' := [(2, .ptr 0 0), (3, .ptr 1 0), (4, .ptr 2 0)]) (H' := [.box [.d (.bool w0), .d (.int .u64 w1), .d (.int .u64 w2)], .box [.d (.bool v0), .d (.int .u64 v1), .d (.int .u64 v2)], .box [.d (.bool false), .d (.int .u64 0), .d (.int .u64 0)]]) (by kernel_rfl) (by kernel_rfl) (by kernel_rfl) (by kernel_rfl) (by decide) (by kernel_rfl) (by kernel_rfl) ?_
     exact hj2 (w0, w1, w2, v0, v1, v2)

/-- math/bits.Len64 -/
def math_bits_Len64 (k : Nat) (x : Int) : Option (Int) := Option.bind (bif (decide (x ≥ 4294967296)) then some ((Int.fdiv x (2 ^ (min (Int.toNat 32) (IntKind.bits .u64)))), 32) else some (x, 0) : Option (Int × Int)) (uc fun x4 => fun n3 => Option.bind (bif (decide (x4 ≥ 65536)) then some ((Int.fdiv x4 (2 ^ (min (Int.toNat 16) (IntKind.bits .u64)))), (IntKind.wrap .i64 (n3 + 16))) else some (x4, n3) : Option (Int × Int)) (uc fun x5 => fun n4 => Option.bind (bif (decide (x5 ≥ 256)) then some ((Int.fdiv x5 (2 ^ (min (Int.toNat 8) (IntKind.bits .u64)))), (IntKind.wrap .i64 (n4 + 8))) else some (x5, n4) : Option (Int × Int)) (uc fun x6 => fun n5 => gidx tab0 (IntKind.wrap .u8 x6) fun e11 => some (IntKind.wrap .i64 (n5 + (IntKind.wrap .i64 e11))))))
def math_bits_Len64_E (x : Int) : Int → V × List Blk := fun r1 => (.d (.int .i64 r1), [])
theorem math_bits_Len64_goes (k : Nat) (x : Int) : RunsO Try.prog 69 [.d (.int .u64 x)] [] (math_bits_Len64_E x) (math_bits_Len64 k x) := by
  refine RunsO.of_goes (N := 25) (m := 0) (T := [(0, .d (.int .u64 x))]) Try.func69 rfl rfl (by kernel_rfl) (by kernel_rfl) (by kernel_rfl) ?_
  unfold math_bits_Len64
  refine bStart ?_
  refine oSeq ?_
  refine oRegion rfl ?_
  refine oOp (.d (.int .i64 0)) (by kernel_rfl) (by kernel_rfl) (PureV.does (p_assign (by kernel_rfl))) ?_
  refine oEnd ?_
  refine oSeq ?_
  refine oSeq ?_
  refine oRegion rfl ?_
  refine oOp (.d (.int .u64 x)) (by kernel_rfl) (by kernel_rfl) (PureV.does (p_move (by kernel_rfl))) ?_
  refine oOp (.d (.bool (decide (x ≥ 4294967296)))) (by kernel_rfl) (by kernel_rfl) (PureV.does (p_int (k := .u64) (p := x) (q := 4294967296) (by kernel_rfl) (by kernel_rfl) (by kernel_rfl))) ?_
  refine oEnd ?_
  refine bJoin ((uc fun (x4 : Int) => (fun (n3 : Int) => [(0, .d (.int .u64 x4)), (2, .d (.int .i64 n3))]))) ((uc fun (x4 : Int) => (fun (n3 : Int) => []))) (fun s => s) (fun s => ?_) (fun hj4 => ?_)
  ·obtain ⟨x4, n3⟩ := s
   refine bUc ?_
   refine oView (T' := [(0, .d (.int .u64 x4)), (2, .d (.int .i64 n3))]) (H' := []) (by kernel_rfl) (by kernel_rfl) ?_
   refine oSeq ?_
   refine oSeq ?_
   refine oRegion rfl ?_
   refine oOp (.d (.int .u64 x4)) (by kernel_rfl) (by kernel_rfl) (PureV.does (p_move (by kernel_rfl))) ?_
   refine oOp (.d (.bool (decide (x4 ≥ 65536)))) (by kernel_rfl) (by kernel_rfl) (PureV.does (p_int (k := .u64) (p := x4) (q := 65536) (by kernel_rfl) (by kernel_rfl) (by kernel_rfl))) ?_
   refine oEnd ?_
   refine bJoin ((uc fun (x5 : Int) => (fun (n4 : Int) => [(0, .d (.int .u64 x5)), (2, .d (.int .i64 n4))]))) ((uc fun (x5 : Int) => (fun (n4 : Int) => []))) (fun s => s) (fun s => ?_) (fun hj5 => ?_)
   ·obtain ⟨x5, n4⟩ := s
    refine bUc ?_
    refine oView (T' := [(0, .d (.int .u64 x5)), (2, .d (.int .i64 n4))]) (H' := []) (by kernel_rfl) (by kernel_rfl) ?_
    refine oSeq ?_
    refine oSeq ?_
    refine oRegion rfl ?_
    refine oOp (.d (.int .u64 x5)) (by kernel_rfl) (by kernel_rfl) (PureV.does (p_move (by kernel_rfl))) ?_
    refine oOp (.d (.bool (decide (x5 ≥ 256)))) (by kernel_rfl) (by kernel_rfl) (PureV.does (p_int (k := .u64) (p := x5) (q := 256) (by kernel_rfl) (by kernel_rfl) (by kernel_rfl))) ?_
    refine oEnd ?_
    refine bJoin ((uc fun (x6 : Int) => (fun (n5 : Int) => [(0, .d (.int .u64 x6)), (2, .d (.int .i64 n5))]))) ((uc fun (x6 : Int) => (fun (n5 : Int) => []))) (fun s => s) (fun s => ?_) (fun hj6 => ?_)
    ·obtain ⟨x6, n5⟩ := s
     refine bUc ?_
     refine oView (T' := [(0, .d (.int .u64 x6)), (2, .d (.int .i64 n5))]) (H' := []) (by kernel_rfl) (by kernel_rfl) ?_
     refine oSeq ?_
     refine oRegion rfl ?_
     refine oOp (.d (.int .i64 n5)) (by kernel_rfl) (by kernel_rfl) (PureV.does (p_move (by kernel_rfl))) ?_
     refine oOp (.d (.int .u64 x6)) (by kernel_rfl) (by kernel_rfl) (PureV.does (p_move (by kernel_rfl))) ?_
     refine oOp (.d (.int .u8 (IntKind.wrap .u8 x6))) (by kernel_rfl) (by kernel_rfl) (PureV.does (p_conv (k := .u64) (p := x6) (by kernel_rfl) Try.underlying64 Try.underlying5 (by kernel_rfl))) ?_
     refine bIdx (fun e11 h12 h13 => ?_)
     refine oOp (.d (.int .u8 e11)) (by kernel_rfl) (by kernel_rfl) (PureV.does (k_idxStr (xs := tab0) (k := .u8) (i := (IntKind.wrap .u8 x6)) (by kernel_rfl) (by kernel_rfl) Try.underlying9 h12 h13)) ?_
     refine oOp (.d (.int .i64 (IntKind.wrap .i64 e11))) (by kernel_rfl) (by kernel_rfl) (PureV.does (p_conv (k := .u8) (p := e11) (by kernel_rfl) Try.underlying5 Try.underlying3 (by kernel_rfl))) ?_
     refine oOp (.d (.int .i64 (IntKind.wrap .i64 (n5 + (IntKind.wrap .i64 e11))))) (by kernel_rfl) (by kernel_rfl) (PureV.does (p_int (k := .i64) (p := n5) (q := (IntKind.wrap .i64 e11)) (by kernel_rfl) (by kernel_rfl) (by kernel_rfl))) ?_
     refine oOp (.d (.int .i64 (IntKind.wrap .i64 (n5 + (IntKind.wrap .i64 e11))))) (by kernel_rfl) (by kernel_rfl) (PureV.does (p_assign (by kernel_rfl))) ?_
     refine oEnd ?_
     exact oRet (r0 := (IntKind.wrap .i64 (n5 + (IntKind.wrap .i64 e11)))) (rv := .d (.int .i64 (IntKind.wrap .i64 (n5 + (IntKind.wrap .i64 e11))))) (B := []) (vs := [.d (.int .i64 (IntKind.wrap .i64 (n5 + (IntKind.wrap .i64 e11))))]) (σ := []) (by kernel_rfl) Try.func69 rfl (.cons _ _ _ _ (.tmp 2 _ (by kernel_rfl)) .nil) (by kernel_rfl) (by kernel_rfl) (by kernel_rfl) (by kernel_rfl) (by decide) (by kernel_rfl) (by kernel_rfl)
    ·refine bSplit 14 (by kernel_rfl) (fun hc => ?_) (fun hc => ?_)
     ·refine oCondT (by kernel_rfl) ?_
      refine oSeq ?_
      refine oRegion rfl ?_
      refine oOp (.d (.int .u64 x5)) (by kernel_rfl) (by kernel_rfl) (PureV.does (p_move (by kernel_rfl))) ?_
      refine oOp (.d (.int .u64 (Int.fdiv x5 (2 ^ (min (Int.toNat 8) (IntKind.bits .u64)))))) (by kernel_rfl) (by kernel_rfl) (PureV.does (p_shr (k := .u64) (k2 := .u64) (p := x5) (q := 8) (by kernel_rfl) (by kernel_rfl) (by decide) (by kernel_rfl))) ?_
      refine oOp (.d (.int .u64 (Int.fdiv x5 (2 ^ (min (Int.toNat 8) (IntKind.bits .u64)))))) (by kernel_rfl) (by kernel_rfl) (PureV.does (p_assign (by kernel_rfl))) ?_
      refine oEnd ?_
      refine oRegion rfl ?_
      refine oOp (.d (.int .i64 n4)) (by kernel_rfl) (by kernel_rfl) (PureV.does (p_move (by kernel_rfl))) ?_
      refine oOp (.d (.int .i64 (IntKind.wrap .i64 (n4 + 8)))) (by kernel_rfl) (by kernel_rfl) (PureV.does (p_int (k := .i64) (p := n4) (q := 8) (by kernel_rfl) (by kernel_rfl) (by kernel_rfl))) ?_
      refine oOp (.d (.int .i64 (IntKind.wrap .i64 (n4 + 8)))) (by kernel_rfl) (by kernel_rfl) (PureV.does (p_assign (by kernel_rfl))) ?_
      refine oEnd ?_
      refine oHead [0, 2] [] (T' := [(0, .d (.int .u64 (Int.fdiv x5 (2 ^ (min (Int.toNat 8) (IntKind.bits .u64)))))), (2, .d (.int .i64 (IntKind.wrap .i64 (n4 + 8))))]) (H' := []) (by kernel_rfl) (by kernel_rfl) (by kernel_rfl) (by kernel_rfl) (by decide) (by kernel_rfl) (by kernel_rfl) ?_
      exact hj6 ((Int.fdiv x5 (2 ^ (min (Int.toNat 8) (IntKind.bits .u64)))), (IntKind.wrap .i64 (n4 + 8)))
     ·refine oCondF (by kernel_rfl) ?_
      refine oSkip ?_
      refine oHead [0, 2] [] (T' := [(0, .d (.int .u64 x5)), (2, .d (.int .i64 n4))]) (H' := []) (by kernel_rfl) (by kernel_rfl) (by kernel_rfl) (by kernel_rfl) (by decide) (by kernel_rfl) (by kernel_rfl) ?_
      exact hj6 (x5, n4)
   ·refine bSplit 8 (by kernel_rfl) (fun hc => ?_) (fun hc => ?_)
    ·refine oCondT (by kernel_rfl) ?_
     refine oSeq ?_
     refine oRegion rfl ?_
     refine oOp (.d (.int .u64 x4)) (by kernel_rfl) (by kernel_rfl) (PureV.does (p_move (by kernel_rfl))) ?_
     refine oOp (.d (.int .u64 (Int.fdiv x4 (2 ^ (min (Int.toNat 16) (IntKind.bits .u64)))))) (by kernel_rfl) (by kernel_rfl) (PureV.does (p_shr (k := .u64) (k2 := .u64) (p := x4) (q := 16) (by kernel_rfl) (by kernel_rfl) (by decide) (by kernel_rfl))) ?_
     refine oOp (.d (.int .u64 (Int.fdiv x4 (2 ^ (min (Int.toNat 16) (IntKind.bits .u64)))))) (by kernel_rfl) (by kernel_rfl) (PureV.does (p_assign (by kernel_rfl))) ?_
     refine oEnd ?_
     refine oRegion rfl ?_
     refine oOp (.d (.int .i64 n3)) (by kernel_rfl) (by kernel_rfl) (PureV.does (p_move (by kernel_rfl))) ?_
     refine oOp (.d (.int .i64 (IntKind.wrap .i64 (n3 + 16)))) (by kernel_rfl) (by kernel_rfl) (PureV.does (p_int (k := .i64) (p := n3) (q := 16) (by kernel_rfl) (by kernel_rfl) (by kernel_rfl))) ?_
     refine oOp (.d (.int .i64 (IntKind.wrap .i64 (n3 + 16)))) (by kernel_rfl) (by kernel_rfl) (PureV.does (p_assign (by kernel_rfl))) ?_
     refine oEnd ?_
     refine oHead [0, 2] [] (T' := [(0, .d (.int .u64 (Int.fdiv x4 (2 ^ (min (Int.toNat 16) (IntKind.bits .u64)))))), (2, .d (.int .i64 (IntKind.wrap .i64 (n3 + 16))))]) (H' := []) (by kernel_rfl) (by kernel_rfl) (by kernel_rfl) (by kernel_rfl) (by decide) (by kernel_rfl) (by kernel_rfl) ?_
     exact hj5 ((Int.fdiv x4 (2 ^ (min (Int.toNat 16) (IntKind.bits .u64)))), (IntKind.wrap .i64 (n3 + 16)))
    ·refine oCondF (by kernel_rfl) ?_
     refine oSkip ?_
     refine oHead [0, 2] [] (T' := [(0, .d (.int .u64 x4)), (2, .d (.int .i64 n3))]) (H' := []) (by kernel_rfl) (by kernel_rfl) (by kernel_rfl) (by kernel_rfl) (by decide) (by kernel_rfl) (by kernel_rfl) ?_
     exact hj5 (x4, n3)
  ·refine bSplit 4 (by kernel_rfl) (fun hc => ?_) (fun hc => ?_)
   ·refine oCondT (by kernel_rfl) ?_
    refine oSeq ?_
    refine oRegion rfl ?_
    refine oOp (.d (.int .u64 x)) (by kernel_rfl) (by kernel_rfl) (PureV.does (p_move (by kernel_rfl))) ?_
    refine oOp (.d (.int .u64 (Int.fdiv x (2 ^ (min (Int.toNat 32) (IntKind.bits .u64)))))) (by kernel_rfl) (by kernel_rfl) (PureV.does (p_shr (k := .u64) (k2 := .u64) (p := x) (q := 32) (by kernel_rfl) (by kernel_rfl) (by decide) (by kernel_rfl))) ?_
    refine oOp (.d (.int .u64 (Int.fdiv x (2 ^ (min (Int.toNat 32) (IntKind.bits .u64)))))) (by kernel_rfl) (by kernel_rfl) (PureV.does (p_assign (by kernel_rfl))) ?_
    refine oEnd ?_
    refine oRegion rfl ?_
    refine oOp (.d (.int .i64 32)) (by kernel_rfl) (by kernel_rfl) (PureV.does (p_assign (by kernel_rfl))) ?_
    refine oEnd ?_
    refine oHead [0, 2] [] (T' := [(0, .d (.int .u64 (Int.fdiv x (2 ^ (min (Int.toNat 32) (IntKind.bits .u64)))))), (2, .d (.int .i64 32))]) (H' := []) (by kernel_rfl) (by kernel_rfl) (by kernel_rfl) (by kernel_rfl) (by decide) (by kernel_rfl) (by kernel_rfl) ?_
    exact hj4 ((Int.fdiv x (2 ^ (min (Int.toNat 32) (IntKind.bits .u64)))), 32)
   ·refine oCondF (by kernel_rfl) ?_
    refine oSkip ?_
    refine oHead [0, 2] [] (T' := [(0, .d (.int .u64 x)), (2, .d (.int .i64 0))]) (H' := []) (by kernel_rfl) (by kernel_rfl) (by kernel_rfl) (by kernel_rfl) (by decide) (by kernel_rfl) (by kernel_rfl) ?_
    exact hj4 (x, 0)

/-- math/bits.LeadingZeros64 -/
def math_bits_LeadingZeros64 (k : Nat) (x : Int) : Option (Int) := Option.bind (math_bits_Len64 k x) (fun r12 => some (IntKind.wrap .i64 (64 - r12)))
def math_bits_LeadingZeros64_E (x : Int) : Int → V × List Blk := fun r11 => (.d (.int .i64 r11), [])
theorem math_bits_LeadingZeros64_goes (k : Nat) (x : Int) : RunsO Try.prog 86 [.d (.int .u64 x)] [] (math_bits_LeadingZeros64_E x) (math_bits_LeadingZeros64 k x) := by
  refine RunsO.of_goes (N := 6) (m := 0) (T := [(0, .d (.int .u64 x))]) Try.func86 rfl rfl (by kernel_rfl) (by kernel_rfl) (by kernel_rfl) ?_
  unfold math_bits_LeadingZeros64
  refine bStart ?_
  refine oSeq ?_
  refine oRegion rfl ?_
  refine oOp (.d (.int .i64 0)) (by kernel_rfl) (by kernel_rfl) (PureV.does (p_assign (by kernel_rfl))) ?_
  refine oEnd ?_
  refine oSeq ?_
  refine oRegion rfl ?_
  refine oOp (.d (.int .u64 x)) (by kernel_rfl) (by kernel_rfl) (PureV.does (p_move (by kernel_rfl))) ?_
  refine bCall (caps := []) (v := (fun (r12 : Int) => (.d (.int .i64 r12) : V))) (H' := (fun (r12 : Int) => ([] : List Blk))) [] _ (math_bits_Len64_goes k x) (by kernel_rfl) (by kernel_rfl) rfl (by kernel_rfl) Try.func69 rfl (by kernel_rfl) (ConvRs.refl _ _) (by kernel_rfl) (by kernel_rfl) (by kernel_rfl) (by decide) (by kernel_rfl) (by kernel_rfl) (fun _ => (by kernel_rfl)) (fun _ => (by kernel_rfl)) (fun _ => (by kernel_rfl)) (fun r12 => ?_)
  refine oOp (.d (.int .i64 (IntKind.wrap .i64 (64 - r12)))) (by kernel_rfl) (by kernel_rfl) (PureV.does (p_int (k := .i64) (p := 64) (q := r12) (by kernel_rfl) (by kernel_rfl) (by kernel_rfl))) ?_
  refine oOp (.d (.int .i64 (IntKind.wrap .i64 (64 - r12)))) (by kernel_rfl) (by kernel_rfl) (PureV.does (p_assign (by kernel_rfl))) ?_
  refine oEnd ?_
  exact oRet (r0 := (IntKind.wrap .i64 (64 - r12))) (rv := .d (.int .i64 (IntKind.wrap .i64 (64 - r12)))) (B := []) (vs := [.d (.int .i64 (IntKind.wrap .i64 (64 - r12)))]) (σ := []) (by kernel_rfl) Try.func86 rfl (.cons _ _ _ _ (.tmp 2 _ (by kernel_rfl)) .nil) (by kernel_rfl) (by kernel_rfl) (by kernel_rfl) (by kernel_rfl) (by decide) (by kernel_rfl) (by kernel_rfl)

/-- math/bits.Div64 -/
def math_bits_Div64_b1 (k : Nat) (yn15 : Int) (yn05 : Int) (un05 : Int) (again : Int × Int × Int → Option (Int × Int)) : Int × Int × Int → Option (Int × Int) := uc fun rhat8 => uc fun un216 => fun q06 => Option.bind (bif (decide (q06 ≥ 4294967296)) then some true else some (decide ((IntKind.wrap .u64 (q06 * yn05)) > (IntKind.wrap .u64 ((IntKind.wrap .u64 (4294967296 * rhat8)) + un05)))) : Option (Bool)) (fun x5 => bif x5 then bif (decide ((IntKind.wrap .u64 (rhat8 + yn15)) ≥ 4294967296)) then some (un216, (IntKind.wrap .u64 (q06 - 1))) else again ((IntKind.wrap .u64 (rhat8 + yn15)), un216, (IntKind.wrap .u64 (q06 - 1))) else some (un216, q06))
def math_bits_Div64_b2 (k : Nat) (again : Int × Int × Int × Int × Int × Int × Int × Int × Int → Option (Int × Int × Int × Int × Int × Int × Int × Int)) : Int × Int × Int × Int × Int × Int × Int × Int × Int → Option (Int × Int × Int × Int × Int × Int × Int × Int) := uc fun y7 => uc fun s16 => uc fun yn16 => uc fun yn06 => uc fun un326 => uc fun un16 => uc fun un06 => uc fun q16 => fun rhat10 => Option.bind (bif (decide (q16 ≥ 4294967296)) then some true else some (decide ((IntKind.wrap .u64 (q16 * yn06)) > (IntKind.wrap .u64 ((IntKind.wrap .u64 (4294967296 * rhat10)) + un16)))) : Option (Bool)) (fun x7 => bif x7 then bif (decide ((IntKind.wrap .u64 (rhat10 + yn16)) ≥ 4294967296)) then some (y7, s16, yn16, yn06, un326, un16, un06, (IntKind.wrap .u64 (q16 - 1))) else again (y7, s16, yn16, yn06, un326, un16, un06, (IntKind.wrap .u64 (q16 - 1)), (IntKind.wrap .u64 (rhat10 + yn16))) else some (y7, s16, yn16, yn06, un326, un16, un06, q16))
def math_bits_Div64 (k : Nat) (hi : Int) (lo : Int) (y : Int) : Option (Int × Int) := bif (y == 0) then none else bif (decide (y ≤ hi)) then none else bif (hi == 0) then gnz y (gnz y (some ((IntKind.wrap .u64 (Int.tdiv lo y)), (Int.tmod lo y)))) else Option.bind (math_bits_LeadingZeros64 k y) (fun r111 => gnn (IntKind.wrap .u64 r111) (gnn (IntKind.wrap .u64 r111) (gnn (IntKind.wrap .u64 (64 - (IntKind.wrap .u64 r111))) (gnn (IntKind.wrap .u64 r111) (gnz (Int.fdiv (IntKind.wrap .u64 (y * 2 ^ (min (Int.toNat (IntKind.wrap .u64 r111)) (IntKind.bits .u64)))) (2 ^ (min (Int.toNat 32) (IntKind.bits .u64)))) (Option.bind (gloop (math_bits_Div64_b2 k) k ((IntKind.wrap .u64 (y * 2 ^ (min (Int.toNat (IntKind.wrap .u64 r111)) (IntKind.bits .u64)))), (IntKind.wrap .u64 r111), (Int.fdiv (IntKind.wrap .u64 (y * 2 ^ (min (Int.toNat (IntKind.wrap .u64 r111)) (IntKind.bits .u64)))) (2 ^ (min (Int.toNat 32) (IntKind.bits .u64)))), (iand .u64 (IntKind.wrap .u64 (y * 2 ^ (min (Int.toNat (IntKind.wrap .u64 r111)) (IntKind.bits .u64)))) 4294967295), (ior .u64 (IntKind.wrap .u64 (hi * 2 ^ (min (Int.toNat (IntKind.wrap .u64 r111)) (IntKind.bits .u64)))) (Int.fdiv lo (2 ^ (min (Int.toNat (IntKind.wrap .u64 (64 - (IntKind.wrap .u64 r111)))) (IntKind.bits .u64))))), (Int.fdiv (IntKind.wrap .u64 (lo * 2 ^ (min (Int.toNat (IntKind.wrap .u64 r111)) (IntKind.bits .u64)))) (2 ^ (min (Int.toNat 32) (IntKind.bits .u64)))), (iand .u64 (IntKind.wrap .u64 (lo * 2 ^ (min (Int.toNat (IntKind.wrap .u64 r111)) (IntKind.bits .u64)))) 4294967295), (IntKind.wrap .u64 (Int.tdiv (ior .u64 (IntKind.wrap .u64 (hi * 2 ^ (min (Int.toNat (IntKind.wrap .u64 r111)) (IntKind.bits .u64)))) (Int.fdiv lo (2 ^ (min (Int.toNat (IntKind.wrap .u64 (64 - (IntKind.wrap .u64 r111)))) (IntKind.bits .u64))))) (Int.fdiv (IntKind.wrap .u64 (y * 2 ^ (min (Int.toNat (IntKind.wrap .u64 r111)) (IntKind.bits .u64)))) (2 ^ (min (Int.toNat 32) (IntKind.bits .u64)))))), (IntKind.wrap .u64 ((ior .u64 (IntKind.wrap .u64 (hi * 2 ^ (min (Int.toNat (IntKind.wrap .u64 r111)) (IntKind.bits .u64)))) (Int.fdiv lo (2 ^ (min (Int.toNat (IntKind.wrap .u64 (64 - (IntKind.wrap .u64 r111)))) (IntKind.bits .u64))))) - (IntKind.wrap .u64 ((IntKind.wrap .u64 (Int.tdiv (ior .u64 (IntKind.wrap .u64 (hi * 2 ^ (min (Int.toNat (IntKind.wrap .u64 r111)) (IntKind.bits .u64)))) (Int.fdiv lo (2 ^ (min (Int.toNat (IntKind.wrap .u64 (64 - (IntKind.wrap .u64 r111)))) (IntKind.bits .u64))))) (Int.fdiv (IntKind.wrap .u64 (y * 2 ^ (min (Int.toNat (IntKind.wrap .u64 r111)) (IntKind.bits .u64)))) (2 ^ (min (Int.toNat 32) (IntKind.bits .u64)))))) * (Int.fdiv (IntKind.wrap .u64 (y * 2 ^ (min (Int.toNat (IntKind.wrap .u64 r111)) (IntKind.bits .u64)))) (2 ^ (min (Int.toNat 32) (IntKind.bits .u64))))))))) : Option (Int × Int × Int × Int × Int × Int × Int × Int)) (uc fun y6 => uc fun s15 => uc fun yn15 => uc fun yn05 => uc fun un325 => uc fun un15 => uc fun un05 => fun q15 => gnz yn15 (Option.bind (gloop (math_bits_Div64_b1 k yn15 yn05 un05) k ((IntKind.wrap .u64 ((IntKind.wrap .u64 ((IntKind.wrap .u64 ((IntKind.wrap .u64 (un325 * 4294967296)) + un15)) - (IntKind.wrap .u64 (q15 * y6)))) - (IntKind.wrap .u64 ((IntKind.wrap .u64 (Int.tdiv (IntKind.wrap .u64 ((IntKind.wrap .u64 ((IntKind.wrap .u64 (un325 * 4294967296)) + un15)) - (IntKind.wrap .u64 (q15 * y6)))) yn15)) * yn15)))), (IntKind.wrap .u64 ((IntKind.wrap .u64 ((IntKind.wrap .u64 (un325 * 4294967296)) + un15)) - (IntKind.wrap .u64 (q15 * y6)))), (IntKind.wrap .u64 (Int.tdiv (IntKind.wrap .u64 ((IntKind.wrap .u64 ((IntKind.wrap .u64 (un325 * 4294967296)) + un15)) - (IntKind.wrap .u64 (q15 * y6)))) yn15))) : Option (Int × Int)) (uc fun un215 => fun q05 => gnn s15 (some ((IntKind.wrap .u64 ((IntKind.wrap .u64 (q15 * 4294967296)) + q05)), (Int.fdiv (IntKind.wrap .u64 ((IntKind.wrap .u64 ((IntKind.wrap .u64 (un215 * 4294967296)) + un05)) - (IntKind.wrap .u64 (q05 * y6)))) (2 ^ (min (Int.toNat s15) (IntKind.bits .u64)))))))))))))))
def math_bits_Div64_E (hi : Int) (lo : Int) (y : Int) : Int × Int → V × List Blk := uc fun r1 => fun r12 => (.tuple [.d (.int .u64 r1), .d (.int .u64 r12)], [])
theorem math_bits_Div64_goes (k : Nat) (hi : Int) (lo : Int) (y : Int) : RunsO Try.prog 83 [.d (.int .u64 hi), .d (.int .u64 lo), .d (.int .u64 y)] [] (math_bits_Div64_E hi lo y) (math_bits_Div64 k hi lo y) := by
  refine RunsO.of_goes (N := 135) (m := 0) (T := [(0, .d (.int .u64 hi)), (1, .d (.int .u64 lo)), (2, .d (.int .u64 y))]) Try.func83 rfl rfl (by kernel_rfl) (by kernel_rfl) (by kernel_rfl) ?_
  unfold math_bits_Div64
  refine bStart ?_
  refine oSeq ?_
  refine oRegion rfl ?_
  refine oOp (.d (.int .u64 0)) (by kernel_rfl) (by kernel_rfl) (PureV.does (p_assign (by kernel_rfl))) ?_
  refine oOp (.d (.int .u64 0)) (by kernel_rfl) (by kernel_rfl) (PureV.does (p_assign (by kernel_rfl))) ?_
  refine oEnd ?_
  refine oSeq ?_
  refine oSeq ?_
  refine oRegion rfl ?_
  refine oOp (.d (.int .u64 y)) (by kernel_rfl) (by kernel_rfl) (PureV.does (p_move (by kernel_rfl))) ?_
  refine oOp (.d (.bool (y == 0))) (by kernel_rfl) (by kernel_rfl) (PureV.does (p_int (k := .u64) (p := y) (q := 0) (by kernel_rfl) (by kernel_rfl) (by kernel_rfl))) ?_
  refine oEnd ?_
  refine bSplit 20 (by kernel_rfl) (fun hc => ?_) (fun hc => ?_)
  ·refine oCondT (by kernel_rfl) ?_
   exact bNone
  ·refine oCondF (by kernel_rfl) ?_
   refine oSkip ?_
   refine oSeq ?_
   refine oSeq ?_
   refine oRegion rfl ?_
   refine oOp (.d (.int .u64 y)) (by kernel_rfl) (by kernel_rfl) (PureV.does (p_move (by kernel_rfl))) ?_
   refine oOp (.d (.int .u64 hi)) (by kernel_rfl) (by kernel_rfl) (PureV.does (p_move (by kernel_rfl))) ?_
   refine oOp (.d (.bool (decide (y ≤ hi)))) (by kernel_rfl) (by kernel_rfl) (PureV.does (p_int (k := .u64) (p := y) (q := hi) (by kernel_rfl) (by kernel_rfl) (by kernel_rfl))) ?_
   refine oEnd ?_
   refine bSplit 24 (by kernel_rfl) (fun hc => ?_) (fun hc => ?_)
   ·refine oCondT (by kernel_rfl) ?_
    exact bNone
   ·refine oCondF (by kernel_rfl) ?_
    refine oSkip ?_
    refine oSeq ?_
    refine oSeq ?_
    refine oRegion rfl ?_
    refine oOp (.d (.int .u64 hi)) (by kernel_rfl) (by kernel_rfl) (PureV.does (p_move (by kernel_rfl))) ?_
    refine oOp (.d (.bool (hi == 0))) (by kernel_rfl) (by kernel_rfl) (PureV.does (p_int (k := .u64) (p := hi) (q := 0) (by kernel_rfl) (by kernel_rfl) (by kernel_rfl))) ?_
    refine oEnd ?_
    refine bSplit 27 (by kernel_rfl) (fun hc => ?_) (fun hc => ?_)
    ·refine oCondT (by kernel_rfl) ?_
     refine oSeq ?_
     refine oDraw [] rfl ?_
     refine aTakeL (i := 0) (st' := []) (.d (.int .u64 lo)) rfl (by kernel_rfl) (by kernel_rfl) (by kernel_rfl) (by kernel_rfl) (by kernel_rfl) (by kernel_rfl) (by kernel_rfl) (PureV.quiet (p_move (by kernel_rfl)) []) ?_
     refine aTakeL (i := 1) (st' := []) (.d (.int .u64 y)) rfl (by kernel_rfl) (by kernel_rfl) (by kernel_rfl) (by kernel_rfl) (by kernel_rfl) (by kernel_rfl) (by kernel_rfl) (PureV.quiet (p_move (by kernel_rfl)) []) ?_
     refine dNz (fun h1 => ?_)
     refine aTakeP (i := 2) (.d (.int .u64 (IntKind.wrap .u64 (Int.tdiv lo y)))) rfl (by kernel_rfl) (by kernel_rfl) (by kernel_rfl) (by kernel_rfl) (by kernel_rfl) (by kernel_rfl) (by kernel_rfl) (p_quo (k := .u64) (p := lo) (q := y) (by kernel_rfl) (by kernel_rfl) h1 (by kernel_rfl)) ?_
     refine aTakeL (i := 3) (st' := []) (.d (.int .u64 lo)) rfl (by kernel_rfl) (by kernel_rfl) (by kernel_rfl) (by kernel_rfl) (by kernel_rfl) (by kernel_rfl) (by kernel_rfl) (PureV.quiet (p_move (by kernel_rfl)) []) ?_
     refine aTakeL (i := 4) (st' := []) (.d (.int .u64 y)) rfl (by kernel_rfl) (by kernel_rfl) (by kernel_rfl) (by kernel_rfl) (by kernel_rfl) (by kernel_rfl) (by kernel_rfl) (PureV.quiet (p_move (by kernel_rfl)) []) ?_
     refine dNz (fun h12 => ?_)
     refine aTakeP (i := 5) (.d (.int .u64 (Int.tmod lo y))) rfl (by kernel_rfl) (by kernel_rfl) (by kernel_rfl) (by kernel_rfl) (by kernel_rfl) (by kernel_rfl) (by kernel_rfl) (p_rem (k := .u64) (p := lo) (q := y) (by kernel_rfl) (by kernel_rfl) h12 (by kernel_rfl)) ?_
     refine aTakeL (i := 6) (st' := []) (.d (.int .u64 (IntKind.wrap .u64 (Int.tdiv lo y)))) rfl (by kernel_rfl) (by kernel_rfl) (by kernel_rfl) (by kernel_rfl) (by kernel_rfl) (by kernel_rfl) (by kernel_rfl) (PureV.quiet (p_assign (by kernel_rfl)) []) ?_
     refine aTakeL (i := 7) (st' := []) (.d (.int .u64 (Int.tmod lo y))) rfl (by kernel_rfl) (by kernel_rfl) (by kernel_rfl) (by kernel_rfl) (by kernel_rfl) (by kernel_rfl) (by kernel_rfl) (PureV.quiet (p_assign (by kernel_rfl)) []) ?_
     refine aDone (by kernel_rfl) ?_
     exact oRet (r0 := ((IntKind.wrap .u64 (Int.tdiv lo y)), (Int.tmod lo y))) (rv := .tuple [.d (.int .u64 (IntKind.wrap .u64 (Int.tdiv lo y))), .d (.int .u64 (Int.tmod lo y))]) (B := []) (vs := [.d (.int .u64 (IntKind.wrap .u64 (Int.tdiv lo y))), .d (.int .u64 (Int.tmod lo y))]) (σ := []) (by kernel_rfl) Try.func83 rfl (.cons _ _ _ _ (.tmp 6 _ (by kernel_rfl)) (.cons _ _ _ _ (.tmp 7 _ (by kernel_rfl)) .nil)) (by kernel_rfl) (by kernel_rfl) (by kernel_rfl) (by kernel_rfl) (by decide) (by kernel_rfl) (by kernel_rfl)
    ·refine oCondF (by kernel_rfl) ?_
     refine oSkip ?_
     refine oSeq ?_
     refine oRegion rfl ?_
     refine oOp (.d (.int .u64 y)) (by kernel_rfl) (by kernel_rfl) (PureV.does (p_move (by kernel_rfl))) ?_
     refine bCall (caps := []) (v := (fun (r111 : Int) => (.d (.int .i64 r111) : V))) (H' := (fun (r111 : Int) => ([] : List Blk))) [] _ (math_bits_LeadingZeros64_goes k y) (by kernel_rfl) (by kernel_rfl) rfl (by kernel_rfl) Try.func86 rfl (by kernel_rfl) (ConvRs.refl _ _) (by kernel_rfl) (by kernel_rfl) (by kernel_rfl) (by decide) (by kernel_rfl) (by kernel_rfl) (fun _ => (by kernel_rfl)) (fun _ => (by kernel_rfl)) (fun _ => (by kernel_rfl)) (fun r111 => ?_)
     refine oOp (.d (.int .u64 (IntKind.wrap .u64 r111))) (by kernel_rfl) (by kernel_rfl) (PureV.does (p_conv (k := .i64) (p := r111) (by kernel_rfl) Try.underlying3 Try.underlying78 (by kernel_rfl))) ?_
     refine oOp (.d (.int .u64 (IntKind.wrap .u64 r111))) (by kernel_rfl) (by kernel_rfl) (PureV.does (p_assign (by kernel_rfl))) ?_
     refine oEnd ?_
     refine oSeq ?_
     refine oRegion rfl ?_
     refine oOp (.d (.int .u64 y)) (by kernel_rfl) (by kernel_rfl) (PureV.does (p_move (by kernel_rfl))) ?_
     refine oOp (.d (.int .u64 (IntKind.wrap .u64 r111))) (by kernel_rfl) (by kernel_rfl) (PureV.does (p_move (by kernel_rfl))) ?_
     refine bNn (fun h125 => ?_)
     refine oOp (.d (.int .u64 (IntKind.wrap .u64 (y * 2 ^ (min (Int.toNat (IntKind.wrap .u64 r111)) (IntKind.bits .u64)))))) (by kernel_rfl) (by kernel_rfl) (PureV.does (p_shl (k := .u64) (k2 := .u64) (p := y) (q := (IntKind.wrap .u64 r111)) (by kernel_rfl) (by kernel_rfl) h125 (by kernel_rfl))) ?_
     refine oOp (.d (.int .u64 (IntKind.wrap .u64 (y * 2 ^ (min (Int.toNat (IntKind.wrap .u64 r111)) (IntKind.bits .u64)))))) (by kernel_rfl) (by kernel_rfl) (PureV.does (p_assign (by kernel_rfl))) ?_
     refine oEnd ?_
     refine oSeq ?_
     refine oRegion rfl ?_
     refine oOp (.d (.int .u64 (IntKind.wrap .u64 (y * 2 ^ (min (Int.toNat (IntKind.wrap .u64 r111)) (IntKind.bits .u64)))))) (by kernel_rfl) (by kernel_rfl) (PureV.does (p_move (by kernel_rfl))) ?_
     refine oOp (.d (.int .u64 (Int.fdiv (IntKind.wrap .u64 (y * 2 ^ (min (Int.toNat (IntKind.wrap .u64 r111)) (IntKind.bits .u64)))) (2 ^ (min (Int.toNat 32) (IntKind.bits .u64)))))) (by kernel_rfl) (by kernel_rfl) (PureV.does (p_shr (k := .u64) (k2 := .u64) (p := (IntKind.wrap .u64 (y * 2 ^ (min (Int.toNat (IntKind.wrap .u64 r111)) (IntKind.bits .u64))))) (q := 32) (by kernel_rfl) (by kernel_rfl) (by decide) (by kernel_rfl))) ?_
     refine oOp (.d (.int .u64 (Int.fdiv (IntKind.wrap .u64 (y * 2 ^ (min (Int.toNat (IntKind.wrap .u64 r111)) (IntKind.bits .u64)))) (2 ^ (min (Int.toNat 32) (IntKind.bits .u64)))))) (by kernel_rfl) (by kernel_rfl) (PureV.does (p_assign (by kernel_rfl))) ?_
     refine oEnd ?_
     refine oSeq ?_
     refine oRegion rfl ?_
     refine oOp (.d (.int .u64 (IntKind.wrap .u64 (y * 2 ^ (min (Int.toNat (IntKind.wrap .u64 r111)) (IntKind.bits .u64)))))) (by kernel_rfl) (by kernel_rfl) (PureV.does (p_move (by kernel_rfl))) ?_
     refine oOp (.d (.int .u64 (iand .u64 (IntKind.wrap .u64 (y * 2 ^ (min (Int.toNat (IntKind.wrap .u64 r111)) (IntKind.bits .u64)))) 4294967295))) (by kernel_rfl) (by kernel_rfl) (PureV.does (p_int (k := .u64) (p := (IntKind.wrap .u64 (y * 2 ^ (min (Int.toNat (IntKind.wrap .u64 r111)) (IntKind.bits .u64))))) (q := 4294967295) (by kernel_rfl) (by kernel_rfl) (by kernel_rfl))) ?_
     refine oOp (.d (.int .u64 (iand .u64 (IntKind.wrap .u64 (y * 2 ^ (min (Int.toNat (IntKind.wrap .u64 r111)) (IntKind.bits .u64)))) 4294967295))) (by kernel_rfl) (by kernel_rfl) (PureV.does (p_assign (by kernel_rfl))) ?_
     refine oEnd ?_
     refine oSeq ?_
     refine oRegion rfl ?_
     refine oOp (.d (.int .u64 hi)) (by kernel_rfl) (by kernel_rfl) (PureV.does (p_move (by kernel_rfl))) ?_
     refine oOp (.d (.int .u64 (IntKind.wrap .u64 r111))) (by kernel_rfl) (by kernel_rfl) (PureV.does (p_move (by kernel_rfl))) ?_
     refine bNn (fun h126 => ?_)
     refine oOp (.d (.int .u64 (IntKind.wrap .u64 (hi * 2 ^ (min (Int.toNat (IntKind.wrap .u64 r111)) (IntKind.bits .u64)))))) (by kernel_rfl) (by kernel_rfl) (PureV.does (p_shl (k := .u64) (k2 := .u64) (p := hi) (q := (IntKind.wrap .u64 r111)) (by kernel_rfl) (by kernel_rfl) h126 (by kernel_rfl))) ?_
     refine oOp (.d (.int .u64 lo)) (by kernel_rfl) (by kernel_rfl) (PureV.does (p_move (by kernel_rfl))) ?_
     refine oOp (.d (.int .u64 (IntKind.wrap .u64 r111))) (by kernel_rfl) (by kernel_rfl) (PureV.does (p_move (by kernel_rfl))) ?_
     refine oOp (.d (.int .u64 (IntKind.wrap .u64 (64 - (IntKind.wrap .u64 r111))))) (by kernel_rfl) (by kernel_rfl) (PureV.does (p_int (k := .u64) (p := 64) (q := (IntKind.wrap .u64 r111)) (by kernel_rfl) (by kernel_rfl) (by kernel_rfl))) ?_
     refine bNn (fun h127 => ?_)
     refine oOp (.d (.int .u64 (Int.fdiv lo (2 ^ (min (Int.toNat (IntKind.wrap .u64 (64 - (IntKind.wrap .u64 r111)))) (IntKind.bits .u64)))))) (by kernel_rfl) (by kernel_rfl) (PureV.does (p_shr (k := .u64) (k2 := .u64) (p := lo) (q := (IntKind.wrap .u64 (64 - (IntKind.wrap .u64 r111)))) (by kernel_rfl) (by kernel_rfl) h127 (by kernel_rfl))) ?_
     refine oOp (.d (.int .u64 (ior .u64 (IntKind.wrap .u64 (hi * 2 ^ (min (Int.toNat (IntKind.wrap .u64 r111)) (IntKind.bits .u64)))) (Int.fdiv lo (2 ^ (min (Int.toNat (IntKind.wrap .u64 (64 - (IntKind.wrap .u64 r111)))) (IntKind.bits .u64))))))) (by kernel_rfl) (by kernel_rfl) (PureV.does (p_int (k := .u64) (p := (IntKind.wrap .u64 (hi * 2 ^ (min (Int.toNat (IntKind.wrap .u64 r111)) (IntKind.bits .u64))))) (q := (Int.fdiv lo (2 ^ (min (Int.toNat (IntKind.wrap .u64 (64 - (IntKind.wrap .u64 r111)))) (IntKind.bits .u64))))) (by kernel_rfl) (by kernel_rfl) (by kernel_rfl))) ?_
     refine oOp (.d (.int .u64 (ior .u64 (IntKind.wrap .u64 (hi * 2 ^ (min (Int.toNat (IntKind.wrap .u64 r111)) (IntKind.bits .u64)))) (Int.fdiv lo (2 ^ (min (Int.toNat (IntKind.wrap .u64 (64 - (IntKind.wrap .u64 r111)))) (IntKind.bits .u64))))))) (by kernel_rfl) (by kernel_rfl) (PureV.does (p_assign (by kernel_rfl))) ?_
     refine oEnd ?_
     refine oSeq ?_
     refine oRegion rfl ?_
     refine oOp (.d (.int .u64 lo)) (by kernel_rfl) (by kernel_rfl) (PureV.does (p_move (by kernel_rfl))) ?_
     refine oOp (.d (.int .u64 (IntKind.wrap .u64 r111))) (by kernel_rfl) (by kernel_rfl) (PureV.does (p_move (by kernel_rfl))) ?_
     refine bNn (fun h128 => ?_)
     refine oOp (.d (.int .u64 (IntKind.wrap .u64 (lo * 2 ^ (min (Int.toNat (IntKind.wrap .u64 r111)) (IntKind.bits .u64)))))) (by kernel_rfl) (by kernel_rfl) (PureV.does (p_shl (k := .u64) (k2 := .u64) (p := lo) (q := (IntKind.wrap .u64 r111)) (by kernel_rfl) (by kernel_rfl) h128 (by kernel_rfl))) ?_
     refine oOp (.d (.int .u64 (IntKind.wrap .u64 (lo * 2 ^ (min (Int.toNat (IntKind.wrap .u64 r111)) (IntKind.bits .u64)))))) (by kernel_rfl) (by kernel_rfl) (PureV.does (p_assign (by kernel_rfl))) ?_
     refine oEnd ?_
     refine oSeq ?_
     refine oRegion rfl ?_
     refine oOp (.d (.int .u64 (IntKind.wrap .u64 (lo * 2 ^ (min (Int.toNat (IntKind.wrap .u64 r111)) (IntKind.bits .u64)))))) (by kernel_rfl) (by kernel_rfl) (PureV.does (p_move (by kernel_rfl))) ?_
     refine oOp (.d (.int .u64 (Int.fdiv (IntKind.wrap .u64 (lo * 2 ^ (min (Int.toNat (IntKind.wrap .u64 r111)) (IntKind.bits .u64)))) (2 ^ (min (Int.toNat 32) (IntKind.bits .u64)))))) (by kernel_rfl) (by kernel_rfl) (PureV.does (p_shr (k := .u64) (k2 := .u64) (p := (IntKind.wrap .u64 (lo * 2 ^ (min (Int.toNat (IntKind.wrap .u64 r111)) (IntKind.bits .u64))))) (q := 32) (by kernel_rfl) (by kernel_rfl) (by decide) (by kernel_rfl))) ?_
     refine oOp (.d (.int .u64 (Int.fdiv (IntKind.wrap .u64 (lo * 2 ^ (min (Int.toNat (IntKind.wrap .u64 r111)) (IntKind.bits .u64)))) (2 ^ (min (Int.toNat 32) (IntKind.bits .u64)))))) (by kernel_rfl) (by kernel_rfl) (PureV.does (p_assign (by kernel_rfl))) ?_
     refine oEnd ?_
     refine oSeq ?_
     refine oRegion rfl ?_
     refine oOp (.d (.int .u64 (IntKind.wrap .u64 (lo * 2 ^ (min (Int.toNat (IntKind.wrap .u64 r111)) (IntKind.bits .u64)))))) (by kernel_rfl) (by kernel_rfl) (PureV.does (p_move (by kernel_rfl))) ?_
     refine oOp (.d (.int .u64 (iand .u64 (IntKind.wrap .u64 (lo * 2 ^ (min (Int.toNat (IntKind.wrap .u64 r111)) (IntKind.bits .u64)))) 4294967295))) (by kernel_rfl) (by kernel_rfl) (PureV.does (p_int (k := .u64) (p := (IntKind.wrap .u64 (lo * 2 ^ (min (Int.toNat (IntKind.wrap .u64 r111)) (IntKind.bits .u64))))) (q := 4294967295) (by kernel_rfl) (by kernel_rfl) (by kernel_rfl))) ?_
     refine oOp (.d (.int .u64 (iand .u64 (IntKind.wrap .u64 (lo * 2 ^ (min (Int.toNat (IntKind.wrap .u64 r111)) (IntKind.bits .u64)))) 4294967295))) (by kernel_rfl) (by kernel_rfl) (PureV.does (p_assign (by kernel_rfl))) ?_
     refine oEnd ?_
     refine oSeq ?_
     refine oRegion rfl ?_
     refine oOp (.d (.int .u64 (ior .u64 (IntKind.wrap .u64 (hi * 2 ^ (min (Int.toNat (IntKind.wrap .u64 r111)) (IntKind.bits .u64)))) (Int.fdiv lo (2 ^ (min (Int.toNat (IntKind.wrap .u64 (64 - (IntKind.wrap .u64 r111)))) (IntKind.bits .u64))))))) (by kernel_rfl) (by kernel_rfl) (PureV.does (p_move (by kernel_rfl))) ?_
     refine oOp (.d (.int .u64 (Int.fdiv (IntKind.wrap .u64 (y * 2 ^ (min (Int.toNat (IntKind.wrap .u64 r111)) (IntKind.bits .u64)))) (2 ^ (min (Int.toNat 32) (IntKind.bits .u64)))))) (by kernel_rfl) (by kernel_rfl) (PureV.does (p_move (by kernel_rfl))) ?_
     refine bNz (fun h129 => ?_)
     refine oOp (.d (.int .u64 (IntKind.wrap .u64 (Int.tdiv (ior .u64 (IntKind.wrap .u64 (hi * 2 ^ (min (Int.toNat (IntKind.wrap .u64 r111)) (IntKind.bits .u64)))) (Int.fdiv lo (2 ^ (min (Int.toNat (IntKind.wrap .u64 (64 - (IntKind.wrap .u64 r111)))) (IntKind.bits .u64))))) (Int.fdiv (IntKind.wrap .u64 (y * 2 ^ (min (Int.toNat (IntKind.wrap .u64 r111)) (IntKind.bits .u64)))) (2 ^ (min (Int.toNat 32) (IntKind.bits .u64)))))))) (by kernel_rfl) (by kernel_rfl) (PureV.does (p_quo (k := .u64) (p := (ior .u64 (IntKind.wrap .u64 (hi * 2 ^ (min (Int.toNat (IntKind.wrap .u64 r111)) (IntKind.bits .u64)))) (Int.fdiv lo (2 ^ (min (Int.toNat (IntKind.wrap .u64 (64 - (IntKind.wrap .u64 r111)))) (IntKind.bits .u64)))))) (q := (Int.fdiv (IntKind.wrap .u64 (y * 2 ^ (min (Int.toNat (IntKind.wrap .u64 r111)) (IntKind.bits .u64)))) (2 ^ (min (Int.toNat 32) (IntKind.bits .u64))))) (by kernel_rfl) (by kernel_rfl) h129 (by kernel_rfl))) ?_
     refine oOp (.d (.int .u64 (IntKind.wrap .u64 (Int.tdiv (ior .u64 (IntKind.wrap .u64 (hi * 2 ^ (min (Int.toNat (IntKind.wrap .u64 r111)) (IntKind.bits .u64)))) (Int.fdiv lo (2 ^ (min (Int.toNat (IntKind.wrap .u64 (64 - (IntKind.wrap .u64 r111)))) (IntKind.bits .u64))))) (Int.fdiv (IntKind.wrap .u64 (y * 2 ^ (min (Int.toNat (IntKind.wrap .u64 r111)) (IntKind.bits .u64)))) (2 ^ (min (Int.toNat 32) (IntKind.bits .u64)))))))) (by kernel_rfl) (by kernel_rfl) (PureV.does (p_assign (by kernel_rfl))) ?_
     refine oEnd ?_
     refine oSeq ?_
     refine oRegion rfl ?_
     refine oOp (.d (.int .u64 (ior .u64 (IntKind.wrap .u64 (hi * 2 ^ (min (Int.toNat (IntKind.wrap .u64 r111)) (IntKind.bits .u64)))) (Int.fdiv lo (2 ^ (min (Int.toNat (IntKind.wrap .u64 (64 - (IntKind.wrap .u64 r111)))) (IntKind.bits .u64))))))) (by kernel_rfl) (by kernel_rfl) (PureV.does (p_move (by kernel_rfl))) ?_
     refine oOp (.d (.int .u64 (IntKind.wrap .u64 (Int.tdiv (ior .u64 (IntKind.wrap .u64 (hi * 2 ^ (min (Int.toNat (IntKind.wrap .u64 r111)) (IntKind.bits .u64)))) (Int.fdiv lo (2 ^ (min (Int.toNat (IntKind.wrap .u64 (64 - (IntKind.wrap .u64 r111)))) (IntKind.bits .u64))))) (Int.fdiv (IntKind.wrap .u64 (y * 2 ^ (min (Int.toNat (IntKind.wrap .u64 r111)) (IntKind.bits .u64)))) (2 ^ (min (Int.toNat 32) (IntKind.bits .u64)))))))) (by kernel_rfl) (by kernel_rfl) (PureV.does (p_move (by kernel_rfl))) ?_
     refine oOp (.d (.int .u64 (Int.fdiv (IntKind.wrap .u64 (y * 2 ^ (min (Int.toNat (IntKind.wrap .u64 r111)) (IntKind.bits .u64)))) (2 ^ (min (Int.toNat 32) (IntKind.bits .u64)))))) (by kernel_rfl) (by kernel_rfl) (PureV.does (p_move (by kernel_rfl))) ?_
     refine oOp (.d (.int .u64 (IntKind.wrap .u64 ((IntKind.wrap .u64 (Int.tdiv (ior .u64 (IntKind.wrap .u64 (hi * 2 ^ (min (Int.toNat (IntKind.wrap .u64 r111)) (IntKind.bits .u64)))) (Int.fdiv lo (2 ^ (min (Int.toNat (IntKind.wrap .u64 (64 - (IntKind.wrap .u64 r111)))) (IntKind.bits .u64))))) (Int.fdiv (IntKind.wrap .u64 (y * 2 ^ (min (Int.toNat (IntKind.wrap .u64 r111)) (IntKind.bits .u64)))) (2 ^ (min (Int.toNat 32) (IntKind.bits .u64)))))) * (Int.fdiv (IntKind.wrap .u64 (y * 2 ^ (min (Int.toNat (IntKind.wrap .u64 r111)) (IntKind.bits .u64)))) (2 ^ (min (Int.toNat 32) (IntKind.bits .u64)))))))) (by kernel_rfl) (by kernel_rfl) (PureV.does (p_int (k := .u64) (p := (IntKind.wrap .u64 (Int.tdiv (ior .u64 (IntKind.wrap .u64 (hi * 2 ^ (min (Int.toNat (IntKind.wrap .u64 r111)) (IntKind.bits .u64)))) (Int.fdiv lo (2 ^ (min (Int.toNat (IntKind.wrap .u64 (64 - (IntKind.wrap .u64 r111)))) (IntKind.bits .u64))))) (Int.fdiv (IntKind.wrap .u64 (y * 2 ^ (min (Int.toNat (IntKind.wrap .u64 r111)) (IntKind.bits .u64)))) (2 ^ (min (Int.toNat 32) (IntKind.bits .u64))))))) (q := (Int.fdiv (IntKind.wrap .u64 (y * 2 ^ (min (Int.toNat (IntKind.wrap .u64 r111)) (IntKind.bits .u64)))) (2 ^ (min (Int.toNat 32) (IntKind.bits .u64))))) (by kernel_rfl) (by kernel_rfl) (by kernel_rfl))) ?_
     refine oOp (.d (.int .u64 (IntKind.wrap .u64 ((ior .u64 (IntKind.wrap .u64 (hi * 2 ^ (min (Int.toNat (IntKind.wrap .u64 r111)) (IntKind.bits .u64)))) (Int.fdiv lo (2 ^ (min (Int.toNat (IntKind.wrap .u64 (64 - (IntKind.wrap .u64 r111)))) (IntKind.bits .u64))))) - (IntKind.wrap .u64 ((IntKind.wrap .u64 (Int.tdiv (ior .u64 (IntKind.wrap .u64 (hi * 2 ^ (min (Int.toNat (IntKind.wrap .u64 r111)) (IntKind.bits .u64)))) (Int.fdiv lo (2 ^ (min (Int.toNat (IntKind.wrap .u64 (64 - (IntKind.wrap .u64 r111)))) (IntKind.bits .u64))))) (Int.fdiv (IntKind.wrap .u64 (y * 2 ^ (min (Int.toNat (IntKind.wrap .u64 r111)) (IntKind.bits .u64)))) (2 ^ (min (Int.toNat 32) (IntKind.bits .u64)))))) * (Int.fdiv (IntKind.wrap .u64 (y * 2 ^ (min (Int.toNat (IntKind.wrap .u64 r111)) (IntKind.bits .u64)))) (2 ^ (min (Int.toNat 32) (IntKind.bits .u64)))))))))) (by kernel_rfl) (by kernel_rfl) (PureV.does (p_int (k := .u64) (p := (ior .u64 (IntKind.wrap .u64 (hi * 2 ^ (min (Int.toNat (IntKind.wrap .u64 r111)) (IntKind.bits .u64)))) (Int.fdiv lo (2 ^ (min (Int.toNat (IntKind.wrap .u64 (64 - (IntKind.wrap .u64 r111)))) (IntKind.bits .u64)))))) (q := (IntKind.wrap .u64 ((IntKind.wrap .u64 (Int.tdiv (ior .u64 (IntKind.wrap .u64 (hi * 2 ^ (min (Int.toNat (IntKind.wrap .u64 r111)) (IntKind.bits .u64)))) (Int.fdiv lo (2 ^ (min (Int.toNat (IntKind.wrap .u64 (64 - (IntKind.wrap .u64 r111)))) (IntKind.bits .u64))))) (Int.fdiv (IntKind.wrap .u64 (y * 2 ^ (min (Int.toNat (IntKind.wrap .u64 r111)) (IntKind.bits .u64)))) (2 ^ (min (Int.toNat 32) (IntKind.bits .u64)))))) * (Int.fdiv (IntKind.wrap .u64 (y * 2 ^ (min (Int.toNat (IntKind.wrap .u64 r111)) (IntKind.bits .u64)))) (2 ^ (min (Int.toNat 32) (IntKind.bits .u64))))))) (by kernel_rfl) (by kernel_rfl) (by kernel_rfl))) ?_
     refine oOp (.d (.int .u64 (IntKind.wrap .u64 ((ior .u64 (IntKind.wrap .u64 (hi * 2 ^ (min (Int.toNat (IntKind.wrap .u64 r111)) (IntKind.bits .u64)))) (Int.fdiv lo (2 ^ (min (Int.toNat (IntKind.wrap .u64 (64 - (IntKind.wrap .u64 r111)))) (IntKind.bits .u64))))) - (IntKind.wrap .u64 ((IntKind.wrap .u64 (Int.tdiv (ior .u64 (IntKind.wrap .u64 (hi * 2 ^ (min (Int.toNat (IntKind.wrap .u64 r111)) (IntKind.bits .u64)))) (Int.fdiv lo (2 ^ (min (Int.toNat (IntKind.wrap .u64 (64 - (IntKind.wrap .u64 r111)))) (IntKind.bits .u64))))) (Int.fdiv (IntKind.wrap .u64 (y * 2 ^ (min (Int.toNat (IntKind.wrap .u64 r111)) (IntKind.bits .u64)))) (2 ^ (min (Int.toNat 32) (IntKind.bits .u64)))))) * (Int.fdiv (IntKind.wrap .u64 (y * 2 ^ (min (Int.toNat (IntKind.wrap .u64 r111)) (IntKind.bits .u64)))) (2 ^ (min (Int.toNat 32) (IntKind.bits .u64)))))))))) (by kernel_rfl) (by kernel_rfl) (PureV.does (p_assign (by kernel_rfl))) ?_
     refine oEnd ?_
     refine oSeq ?_
     refine bJoin ((uc fun (y6 : Int) => (uc fun (s15 : Int) => (uc fun (yn15 : Int) => (uc fun (yn05 : Int) => (uc fun (un325 : Int) => (uc fun (un15 : Int) => (uc fun (un05 : Int) => (fun (q15 : Int) => [(2, .d (.int .u64 y6)), (8, .d (.int .u64 s15)), (9, .d (.int .u64 yn15)), (10, .d (.int .u64 yn05)), (11, .d (.int .u64 un325)), (13, .d (.int .u64 un15)), (14, .d (.int .u64 un05)), (15, .d (.int .u64 q15))]))))))))) ((uc fun (y6 : Int) => (uc fun (s15 : Int) => (uc fun (yn15 : Int) => (uc fun (yn05 : Int) => (uc fun (un325 : Int) => (uc fun (un15 : Int) => (uc fun (un05 : Int) => (fun (q15 : Int) => []))))))))) (fun s => s) (fun s => ?_) (fun hj3 => ?_)
     ·obtain ⟨y6, s15, yn15, yn05, un325, un15, un05, q15⟩ := s
      refine bUc ?_
      refine bUc ?_
      refine bUc ?_
      refine bUc ?_
      refine bUc ?_
      refine bUc ?_
      refine bUc ?_
      refine oView (T' := [(2, .d (.int .u64 y6)), (8, .d (.int .u64 s15)), (9, .d (.int .u64 yn15)), (10, .d (.int .u64 yn05)), (11, .d (.int .u64 un325)), (13, .d (.int .u64 un15)), (14, .d (.int .u64 un05)), (15, .d (.int .u64 q15))]) (H' := []) (by kernel_rfl) (by kernel_rfl) ?_
      refine oSeq ?_
      refine oRegion rfl ?_
      refine oOp (.d (.int .u64 un325)) (by kernel_rfl) (by kernel_rfl) (PureV.does (p_move (by kernel_rfl))) ?_
      refine oOp (.d (.int .u64 (IntKind.wrap .u64 (un325 * 4294967296)))) (by kernel_rfl) (by kernel_rfl) (PureV.does (p_int (k := .u64) (p := un325) (q := 4294967296) (by kernel_rfl) (by kernel_rfl) (by kernel_rfl))) ?_
      refine oOp (.d (.int .u64 un15)) (by kernel_rfl) (by kernel_rfl) (PureV.does (p_move (by kernel_rfl))) ?_
      refine oOp (.d (.int .u64 (IntKind.wrap .u64 ((IntKind.wrap .u64 (un325 * 4294967296)) + un15)))) (by kernel_rfl) (by kernel_rfl) (PureV.does (p_int (k := .u64) (p := (IntKind.wrap .u64 (un325 * 4294967296))) (q := un15) (by kernel_rfl) (by kernel_rfl) (by kernel_rfl))) ?_
      refine oOp (.d (.int .u64 q15)) (by kernel_rfl) (by kernel_rfl) (PureV.does (p_move (by kernel_rfl))) ?_
      refine oOp (.d (.int .u64 y6)) (by kernel_rfl) (by kernel_rfl) (PureV.does (p_move (by kernel_rfl))) ?_
      refine oOp (.d (.int .u64 (IntKind.wrap .u64 (q15 * y6)))) (by kernel_rfl) (by kernel_rfl) (PureV.does (p_int (k := .u64) (p := q15) (q := y6) (by kernel_rfl) (by kernel_rfl) (by kernel_rfl))) ?_
      refine oOp (.d (.int .u64 (IntKind.wrap .u64 ((IntKind.wrap .u64 ((IntKind.wrap .u64 (un325 * 4294967296)) + un15)) - (IntKind.wrap .u64 (q15 * y6)))))) (by kernel_rfl) (by kernel_rfl) (PureV.does (p_int (k := .u64) (p := (IntKind.wrap .u64 ((IntKind.wrap .u64 (un325 * 4294967296)) + un15))) (q := (IntKind.wrap .u64 (q15 * y6))) (by kernel_rfl) (by kernel_rfl) (by kernel_rfl))) ?_
      refine oOp (.d (.int .u64 (IntKind.wrap .u64 ((IntKind.wrap .u64 ((IntKind.wrap .u64 (un325 * 4294967296)) + un15)) - (IntKind.wrap .u64 (q15 * y6)))))) (by kernel_rfl) (by kernel_rfl) (PureV.does (p_assign (by kernel_rfl))) ?_
      refine oEnd ?_
      refine oSeq ?_
      refine oRegion rfl ?_
      refine oOp (.d (.int .u64 (IntKind.wrap .u64 ((IntKind.wrap .u64 ((IntKind.wrap .u64 (un325 * 4294967296)) + un15)) - (IntKind.wrap .u64 (q15 * y6)))))) (by kernel_rfl) (by kernel_rfl) (PureV.does (p_move (by kernel_rfl))) ?_
      refine oOp (.d (.int .u64 yn15)) (by kernel_rfl) (by kernel_rfl) (PureV.does (p_move (by kernel_rfl))) ?_
      refine bNz (fun h130 => ?_)
      refine oOp (.d (.int .u64 (IntKind.wrap .u64 (Int.tdiv (IntKind.wrap .u64 ((IntKind.wrap .u64 ((IntKind.wrap .u64 (un325 * 4294967296)) + un15)) - (IntKind.wrap .u64 (q15 * y6)))) yn15)))) (by kernel_rfl) (by kernel_rfl) (PureV.does (p_quo (k := .u64) (p := (IntKind.wrap .u64 ((IntKind.wrap .u64 ((IntKind.wrap .u64 (un325 * 4294967296)) + un15)) - (IntKind.wrap .u64 (q15 * y6))))) (q := yn15) (by kernel_rfl) (by kernel_rfl) h130 (by kernel_rfl))) ?_
      refine oOp (.d (.int .u64 (IntKind.wrap .u64 (Int.tdiv (IntKind.wrap .u64 ((IntKind.wrap .u64 ((IntKind.wrap .u64 (un325 * 4294967296)) + un15)) - (IntKind.wrap .u64 (q15 * y6)))) yn15)))) (by kernel_rfl) (by kernel_rfl) (PureV.does (p_assign (by kernel_rfl))) ?_
      refine oEnd ?_
      refine oSeq ?_
      refine oRegion rfl ?_
      refine oOp (.d (.int .u64 (IntKind.wrap .u64 ((IntKind.wrap .u64 ((IntKind.wrap .u64 (un325 * 4294967296)) + un15)) - (IntKind.wrap .u64 (q15 * y6)))))) (by kernel_rfl) (by kernel_rfl) (PureV.does (p_move (by kernel_rfl))) ?_
      refine oOp (.d (.int .u64 (IntKind.wrap .u64 (Int.tdiv (IntKind.wrap .u64 ((IntKind.wrap .u64 ((IntKind.wrap .u64 (un325 * 4294967296)) + un15)) - (IntKind.wrap .u64 (q15 * y6)))) yn15)))) (by kernel_rfl) (by kernel_rfl) (PureV.does (p_move (by kernel_rfl))) ?_
      refine oOp (.d (.int .u64 yn15)) (by kernel_rfl) (by kernel_rfl) (PureV.does (p_move (by kernel_rfl))) ?_
      refine oOp (.d (.int .u64 (IntKind.wrap .u64 ((IntKind.wrap .u64 (Int.tdiv (IntKind.wrap .u64 ((IntKind.wrap .u64 ((IntKind.wrap .u64 (un325 * 4294967296)) + un15)) - (IntKind.wrap .u64 (q15 * y6)))) yn15)) * yn15)))) (by kernel_rfl) (by kernel_rfl) (PureV.does (p_int (k := .u64) (p := (IntKind.wrap .u64 (Int.tdiv (IntKind.wrap .u64 ((IntKind.wrap .u64 ((IntKind.wrap .u64 (un325 * 4294967296)) + un15)) - (IntKind.wrap .u64 (q15 * y6)))) yn15))) (q := yn15) (by kernel_rfl) (by kernel_rfl) (by kernel_rfl))) ?_
      refine oOp (.d (.int .u64 (IntKind.wrap .u64 ((IntKind.wrap .u64 ((IntKind.wrap .u64 ((IntKind.wrap .u64 (un325 * 4294967296)) + un15)) - (IntKind.wrap .u64 (q15 * y6)))) - (IntKind.wrap .u64 ((IntKind.wrap .u64 (Int.tdiv (IntKind.wrap .u64 ((IntKind.wrap .u64 ((IntKind.wrap .u64 (un325 * 4294967296)) + un15)) - (IntKind.wrap .u64 (q15 * y6)))) yn15)) * yn15)))))) (by kernel_rfl) (by kernel_rfl) (PureV.does (p_int (k := .u64) (p := (IntKind.wrap .u64 ((IntKind.wrap .u64 ((IntKind.wrap .u64 (un325 * 4294967296)) + un15)) - (IntKind.wrap .u64 (q15 * y6))))) (q := (IntKind.wrap .u64 ((IntKind.wrap .u64 (Int.tdiv (IntKind.wrap .u64 ((IntKind.wrap .u64 ((IntKind.wrap .u64 (un325 * 4294967296)) + un15)) - (IntKind.wrap .u64 (q15 * y6)))) yn15)) * yn15))) (by kernel_rfl) (by kernel_rfl) (by kernel_rfl))) ?_
      refine oOp (.d (.int .u64 (IntKind.wrap .u64 ((IntKind.wrap .u64 ((IntKind.wrap .u64 ((IntKind.wrap .u64 (un325 * 4294967296)) + un15)) - (IntKind.wrap .u64 (q15 * y6)))) - (IntKind.wrap .u64 ((IntKind.wrap .u64 (Int.tdiv (IntKind.wrap .u64 ((IntKind.wrap .u64 ((IntKind.wrap .u64 (un325 * 4294967296)) + un15)) - (IntKind.wrap .u64 (q15 * y6)))) yn15)) * yn15)))))) (by kernel_rfl) (by kernel_rfl) (PureV.does (p_assign (by kernel_rfl))) ?_
      refine oEnd ?_
      refine oSeq ?_
      refine bJoin ((uc fun (un215 : Int) => (fun (q05 : Int) => [(2, .d (.int .u64 y6)), (8, .d (.int .u64 s15)), (14, .d (.int .u64 un05)), (15, .d (.int .u64 q15)), (17, .d (.int .u64 un215)), (18, .d (.int .u64 q05))]))) ((uc fun (un215 : Int) => (fun (q05 : Int) => []))) (fun s => s) (fun s => ?_) (fun hj4 => ?_)
      ·obtain ⟨un215, q05⟩ := s
       refine bUc ?_
       refine oView (T' := [(2, .d (.int .u64 y6)), (8, .d (.int .u64 s15)), (14, .d (.int .u64 un05)), (15, .d (.int .u64 q15)), (17, .d (.int .u64 un215)), (18, .d (.int .u64 q05))]) (H' := []) (by kernel_rfl) (by kernel_rfl) ?_
       refine oSeq ?_
       refine oRegion rfl ?_
       refine oOp (.d (.int .u64 q15)) (by kernel_rfl) (by kernel_rfl) (PureV.does (p_move (by kernel_rfl))) ?_
       refine oOp (.d (.int .u64 (IntKind.wrap .u64 (q15 * 4294967296)))) (by kernel_rfl) (by kernel_rfl) (PureV.does (p_int (k := .u64) (p := q15) (q := 4294967296) (by kernel_rfl) (by kernel_rfl) (by kernel_rfl))) ?_
       refine oOp (.d (.int .u64 q05)) (by kernel_rfl) (by kernel_rfl) (PureV.does (p_move (by kernel_rfl))) ?_
       refine oOp (.d (.int .u64 (IntKind.wrap .u64 ((IntKind.wrap .u64 (q15 * 4294967296)) + q05)))) (by kernel_rfl) (by kernel_rfl) (PureV.does (p_int (k := .u64) (p := (IntKind.wrap .u64 (q15 * 4294967296))) (q := q05) (by kernel_rfl) (by kernel_rfl) (by kernel_rfl))) ?_
       refine oOp (.d (.int .u64 un215)) (by kernel_rfl) (by kernel_rfl) (PureV.does (p_move (by kernel_rfl))) ?_
       refine oOp (.d (.int .u64 (IntKind.wrap .u64 (un215 * 4294967296)))) (by kernel_rfl) (by kernel_rfl) (PureV.does (p_int (k := .u64) (p := un215) (q := 4294967296) (by kernel_rfl) (by kernel_rfl) (by kernel_rfl))) ?_
       refine oOp (.d (.int .u64 un05)) (by kernel_rfl) (by kernel_rfl) (PureV.does (p_move (by kernel_rfl))) ?_
       refine oOp (.d (.int .u64 (IntKind.wrap .u64 ((IntKind.wrap .u64 (un215 * 4294967296)) + un05)))) (by kernel_rfl) (by kernel_rfl) (PureV.does (p_int (k := .u64) (p := (IntKind.wrap .u64 (un215 * 4294967296))) (q := un05) (by kernel_rfl) (by kernel_rfl) (by kernel_rfl))) ?_
       refine oOp (.d (.int .u64 q05)) (by kernel_rfl) (by kernel_rfl) (PureV.does (p_move (by kernel_rfl))) ?_
       refine oOp (.d (.int .u64 y6)) (by kernel_rfl) (by kernel_rfl) (PureV.does (p_move (by kernel_rfl))) ?_
       refine oOp (.d (.int .u64 (IntKind.wrap .u64 (q05 * y6)))) (by kernel_rfl) (by kernel_rfl) (PureV.does (p_int (k := .u64) (p := q05) (q := y6) (by kernel_rfl) (by kernel_rfl) (by kernel_rfl))) ?_
       refine oOp (.d (.int .u64 (IntKind.wrap .u64 ((IntKind.wrap .u64 ((IntKind.wrap .u64 (un215 * 4294967296)) + un05)) - (IntKind.wrap .u64 (q05 * y6)))))) (by kernel_rfl) (by kernel_rfl) (PureV.does (p_int (k := .u64) (p := (IntKind.wrap .u64 ((IntKind.wrap .u64 (un215 * 4294967296)) + un05))) (q := (IntKind.wrap .u64 (q05 * y6))) (by kernel_rfl) (by kernel_rfl) (by kernel_rfl))) ?_
       refine oOp (.d (.int .u64 s15)) (by kernel_rfl) (by kernel_rfl) (PureV.does (p_move (by kernel_rfl))) ?_
       refine bNn (fun h131 => ?_)
       refine oOp (.d (.int .u64 (Int.fdiv (IntKind.wrap .u64 ((IntKind.wrap .u64 ((IntKind.wrap .u64 (un215 * 4294967296)) + un05)) - (IntKind.wrap .u64 (q05 * y6)))) (2 ^ (min (Int.toNat s15) (IntKind.bits .u64)))))) (by kernel_rfl) (by kernel_rfl) (PureV.does (p_shr (k := .u64) (k2 := .u64) (p := (IntKind.wrap .u64 ((IntKind.wrap .u64 ((IntKind.wrap .u64 (un215 * 4294967296)) + un05)) - (IntKind.wrap .u64 (q05 * y6))))) (q := s15) (by kernel_rfl) (by kernel_rfl) h131 (by kernel_rfl))) ?_
       refine oOp (.d (.int .u64 (IntKind.wrap .u64 ((IntKind.wrap .u64 (q15 * 4294967296)) + q05)))) (by kernel_rfl) (by kernel_rfl) (PureV.does (p_assign (by kernel_rfl))) ?_
       refine oOp (.d (.int .u64 (Int.fdiv (IntKind.wrap .u64 ((IntKind.wrap .u64 ((IntKind.wrap .u64 (un215 * 4294967296)) + un05)) - (IntKind.wrap .u64 (q05 * y6)))) (2 ^ (min (Int.toNat s15) (IntKind.bits .u64)))))) (by kernel_rfl) (by kernel_rfl) (PureV.does (p_assign (by kernel_rfl))) ?_
       refine oEnd ?_
       exact oRet (r0 := ((IntKind.wrap .u64 ((IntKind.wrap .u64 (q15 * 4294967296)) + q05)), (Int.fdiv (IntKind.wrap .u64 ((IntKind.wrap .u64 ((IntKind.wrap .u64 (un215 * 4294967296)) + un05)) - (IntKind.wrap .u64 (q05 * y6)))) (2 ^ (min (Int.toNat s15) (IntKind.bits .u64)))))) (rv := .tuple [.d (.int .u64 (IntKind.wrap .u64 ((IntKind.wrap .u64 (q15 * 4294967296)) + q05))), .d (.int .u64 (Int.fdiv (IntKind.wrap .u64 ((IntKind.wrap .u64 ((IntKind.wrap .u64 (un215 * 4294967296)) + un05)) - (IntKind.wrap .u64 (q05 * y6)))) (2 ^ (min (Int.toNat s15) (IntKind.bits .u64)))))]) (B := []) (vs := [.d (.int .u64 (IntKind.wrap .u64 ((IntKind.wrap .u64 (q15 * 4294967296)) + q05))), .d (.int .u64 (Int.fdiv (IntKind.wrap .u64 ((IntKind.wrap .u64 ((IntKind.wrap .u64 (un215 * 4294967296)) + un05)) - (IntKind.wrap .u64 (q05 * y6)))) (2 ^ (min (Int.toNat s15) (IntKind.bits .u64)))))]) (σ := []) (by kernel_rfl) Try.func83 rfl (.cons _ _ _ _ (.tmp 6 _ (by kernel_rfl)) (.cons _ _ _ _ (.tmp 7 _ (by kernel_rfl)) .nil)) (by kernel_rfl) (by kernel_rfl) (by kernel_rfl) (by kernel_rfl) (by decide) (by kernel_rfl) (by kernel_rfl)
      ·refine oBlock ?_
       refine oLoop ?_
       refine oHead [2, 8, 9, 10, 14, 15, 16, 17, 18] [] (T' := [(2, .d (.int .u64 y6)), (8, .d (.int .u64 s15)), (9, .d (.int .u64 yn15)), (10, .d (.int .u64 yn05)), (14, .d (.int .u64 un05)), (15, .d (.int .u64 q15)), (16, .d (.int .u64 (IntKind.wrap .u64 ((IntKind.wrap .u64 ((IntKind.wrap .u64 ((IntKind.wrap .u64 (un325 * 4294967296)) + un15)) - (IntKind.wrap .u64 (q15 * y6)))) - (IntKind.wrap .u64 ((IntKind.wrap .u64 (Int.tdiv (IntKind.wrap .u64 ((IntKind.wrap .u64 ((IntKind.wrap .u64 (un325 * 4294967296)) + un15)) - (IntKind.wrap .u64 (q15 * y6)))) yn15)) * yn15)))))), (17, .d (.int .u64 (IntKind.wrap .u64 ((IntKind.wrap .u64 ((IntKind.wrap .u64 (un325 * 4294967296)) + un15)) - (IntKind.wrap .u64 (q15 * y6)))))), (18, .d (.int .u64 (IntKind.wrap .u64 (Int.tdiv (IntKind.wrap .u64 ((IntKind.wrap .u64 ((IntKind.wrap .u64 (un325 * 4294967296)) + un15)) - (IntKind.wrap .u64 (q15 * y6)))) yn15))))]) (H' := []) (by kernel_rfl) (by kernel_rfl) (by kernel_rfl) (by kernel_rfl) (by decide) (by kernel_rfl) (by kernel_rfl) ?_
       refine bLoop (body := math_bits_Div64_b1 k yn15 yn05 un05) ((uc fun (rhat8 : Int) => (uc fun (un216 : Int) => (fun (q06 : Int) => [(2, .d (.int .u64 y6)), (8, .d (.int .u64 s15)), (9, .d (.int .u64 yn15)), (10, .d (.int .u64 yn05)), (14, .d (.int .u64 un05)), (15, .d (.int .u64 q15)), (16, .d (.int .u64 rhat8)), (17, .d (.int .u64 un216)), (18, .d (.int .u64 q06))])))) ((uc fun (rhat8 : Int) => (uc fun (un216 : Int) => (fun (q06 : Int) => [])))) (fun again hag1 s => ?_) k ((IntKind.wrap .u64 ((IntKind.wrap .u64 ((IntKind.wrap .u64 ((IntKind.wrap .u64 (un325 * 4294967296)) + un15)) - (IntKind.wrap .u64 (q15 * y6)))) - (IntKind.wrap .u64 ((IntKind.wrap .u64 (Int.tdiv (IntKind.wrap .u64 ((IntKind.wrap .u64 ((IntKind.wrap .u64 (un325 * 4294967296)) + un15)) - (IntKind.wrap .u64 (q15 * y6)))) yn15)) * yn15)))), (IntKind.wrap .u64 ((IntKind.wrap .u64 ((IntKind.wrap .u64 (un325 * 4294967296)) + un15)) - (IntKind.wrap .u64 (q15 * y6)))), (IntKind.wrap .u64 (Int.tdiv (IntKind.wrap .u64 ((IntKind.wrap .u64 ((IntKind.wrap .u64 (un325 * 4294967296)) + un15)) - (IntKind.wrap .u64 (q15 * y6)))) yn15)))
       ·unfold math_bits_Div64_b1
        obtain ⟨rhat8, un216, q06⟩ := s
        refine bUc ?_
        refine bUc ?_
        refine oView (T' := [(2, .d (.int .u64 y6)), (8, .d (.int .u64 s15)), (9, .d (.int .u64 yn15)), (10, .d (.int .u64 yn05)), (14, .d (.int .u64 un05)), (15, .d (.int .u64 q15)), (16, .d (.int .u64 rhat8)), (17, .d (.int .u64 un216)), (18, .d (.int .u64 q06))]) (H' := []) (by kernel_rfl) (by kernel_rfl) ?_
        refine oSeq ?_
        refine oSeq ?_
        refine oRegion rfl ?_
        refine oOp (.d (.int .u64 q06)) (by kernel_rfl) (by kernel_rfl) (PureV.does (p_move (by kernel_rfl))) ?_
        refine oOp (.d (.bool (decide (q06 ≥ 4294967296)))) (by kernel_rfl) (by kernel_rfl) (PureV.does (p_int (k := .u64) (p := q06) (q := 4294967296) (by kernel_rfl) (by kernel_rfl) (by kernel_rfl))) ?_
        refine oOp (.d (.bool (decide (q06 ≥ 4294967296)))) (by kernel_rfl) (by kernel_rfl) (PureV.does (p_move (by kernel_rfl))) ?_
        refine bMeet 9 rfl ((fun (x5 : Bool) => [(2, .d (.int .u64 y6)), (8, .d (.int .u64 s15)), (9, .d (.int .u64 yn15)), (10, .d (.int .u64 yn05)), (14, .d (.int .u64 un05)), (15, .d (.int .u64 q15)), (16, .d (.int .u64 rhat8)), (17, .d (.int .u64 un216)), (18, .d (.int .u64 q06)), (113, .d (.bool x5))])) ((fun (x5 : Bool) => [])) (fun s => s) (fun x5 => ?_) (fun hj5 => ?_)
        ·refine oView (T' := [(2, .d (.int .u64 y6)), (8, .d (.int .u64 s15)), (9, .d (.int .u64 yn15)), (10, .d (.int .u64 yn05)), (14, .d (.int .u64 un05)), (15, .d (.int .u64 q15)), (16, .d (.int .u64 rhat8)), (17, .d (.int .u64 un216)), (18, .d (.int .u64 q06)), (113, .d (.bool x5))]) (H' := []) (by kernel_rfl) (by kernel_rfl) ?_
         refine oEnd ?_
         refine bSplit 113 (by kernel_rfl) (fun hc => ?_) (fun hc => ?_)
         ·refine oCondT (by kernel_rfl) ?_
          refine oSkip ?_
          refine oBlock ?_
          refine oSeq ?_
          refine oRegion rfl ?_
          refine oOp (.d (.int .u64 q06)) (by kernel_rfl) (by kernel_rfl) (PureV.does (p_move (by kernel_rfl))) ?_
          refine oOp (.d (.int .u64 (IntKind.wrap .u64 (q06 - 1)))) (by kernel_rfl) (by kernel_rfl) (PureV.does (p_int (k := .u64) (p := q06) (q := 1) (by kernel_rfl) (by kernel_rfl) (by kernel_rfl))) ?_
          refine oOp (.d (.int .u64 (IntKind.wrap .u64 (q06 - 1)))) (by kernel_rfl) (by kernel_rfl) (PureV.does (p_assign (by kernel_rfl))) ?_
          refine oEnd ?_
          refine oSeq ?_
          refine oRegion rfl ?_
          refine oOp (.d (.int .u64 rhat8)) (by kernel_rfl) (by kernel_rfl) (PureV.does (p_move (by kernel_rfl))) ?_
          refine oOp (.d (.int .u64 yn15)) (by kernel_rfl) (by kernel_rfl) (PureV.does (p_move (by kernel_rfl))) ?_
          refine oOp (.d (.int .u64 (IntKind.wrap .u64 (rhat8 + yn15)))) (by kernel_rfl) (by kernel_rfl) (PureV.does (p_int (k := .u64) (p := rhat8) (q := yn15) (by kernel_rfl) (by kernel_rfl) (by kernel_rfl))) ?_
          refine oOp (.d (.int .u64 (IntKind.wrap .u64 (rhat8 + yn15)))) (by kernel_rfl) (by kernel_rfl) (PureV.does (p_assign (by kernel_rfl))) ?_
          refine oEnd ?_
          refine oSeq ?_
          refine oRegion rfl ?_
          refine oOp (.d (.int .u64 (IntKind.wrap .u64 (rhat8 + yn15)))) (by kernel_rfl) (by kernel_rfl) (PureV.does (p_move (by kernel_rfl))) ?_
          refine oOp (.d (.bool (decide ((IntKind.wrap .u64 (rhat8 + yn15)) ≥ 4294967296)))) (by kernel_rfl) (by kernel_rfl) (PureV.does (p_int (k := .u64) (p := (IntKind.wrap .u64 (rhat8 + yn15))) (q := 4294967296) (by kernel_rfl) (by kernel_rfl) (by kernel_rfl))) ?_
          refine oEnd ?_
          refine bSplit 120 (by kernel_rfl) (fun hc => ?_) (fun hc => ?_)
          ·refine oCondT (by kernel_rfl) ?_
           refine oExit rfl ?_
           refine oHead [2, 8, 14, 15, 17, 18] [] (T' := [(2, .d (.int .u64 y6)), (8, .d (.int .u64 s15)), (14, .d (.int .u64 un05)), (15, .d (.int .u64 q15)), (17, .d (.int .u64 un216)), (18, .d (.int .u64 (IntKind.wrap .u64 (q06 - 1))))]) (H' := []) (by kernel_rfl) (by kernel_rfl) (by kernel_rfl) (by kernel_rfl) (by decide) (by kernel_rfl) (by kernel_rfl) ?_
           exact hj4 (un216, (IntKind.wrap .u64 (q06 - 1)))
          ·refine oCondF (by kernel_rfl) ?_
           refine oSkip ?_
           refine oBlk ?_
           refine oAgain ?_
           refine oHead [2, 8, 9, 10, 14, 15, 16, 17, 18] [] (T' := [(2, .d (.int .u64 y6)), (8, .d (.int .u64 s15)), (9, .d (.int .u64 yn15)), (10, .d (.int .u64 yn05)), (14, .d (.int .u64 un05)), (15, .d (.int .u64 q15)), (16, .d (.int .u64 (IntKind.wrap .u64 (rhat8 + yn15)))), (17, .d (.int .u64 un216)), (18, .d (.int .u64 (IntKind.wrap .u64 (q06 - 1))))]) (H' := []) (by kernel_rfl) (by kernel_rfl) (by kernel_rfl) (by kernel_rfl) (by decide) (by kernel_rfl) (by kernel_rfl) ?_
           exact hag1 ((IntKind.wrap .u64 (rhat8 + yn15)), un216, (IntKind.wrap .u64 (q06 - 1)))
         ·refine oCondF (by kernel_rfl) ?_
          refine oExit rfl ?_
          refine oHead [2, 8, 14, 15, 17, 18] [] (T' := [(2, .d (.int .u64 y6)), (8, .d (.int .u64 s15)), (14, .d (.int .u64 un05)), (15, .d (.int .u64 q15)), (17, .d (.int .u64 un216)), (18, .d (.int .u64 q06))]) (H' := []) (by kernel_rfl) (by kernel_rfl) (by kernel_rfl) (by kernel_rfl) (by decide) (by kernel_rfl) (by kernel_rfl) ?_
          exact hj4 (un216, q06)
        ·refine bSplit 104 (by kernel_rfl) (fun hc => ?_) (fun hc => ?_)
         ·refine oNot (by kernel_rfl) (by kernel_rfl) ?_
          refine oNot (by kernel_rfl) (by kernel_rfl) ?_
          refine oNot (by kernel_rfl) (by kernel_rfl) ?_
          refine oNot (by kernel_rfl) (by kernel_rfl) ?_
          refine oNot (by kernel_rfl) (by kernel_rfl) ?_
          refine oNot (by kernel_rfl) (by kernel_rfl) ?_
          refine oNot (by kernel_rfl) (by kernel_rfl) ?_
          refine oNot (by kernel_rfl) (by kernel_rfl) ?_
          refine oOp (.d (.bool true)) (by kernel_rfl) (by kernel_rfl) (PureV.does (p_pick (b := true) (by kernel_rfl) (by kernel_rfl))) ?_
          refine oHead [2, 8, 9, 10, 14, 15, 16, 17, 18, 113] [] (T' := [(2, .d (.int .u64 y6)), (8, .d (.int .u64 s15)), (9, .d (.int .u64 yn15)), (10, .d (.int .u64 yn05)), (14, .d (.int .u64 un05)), (15, .d (.int .u64 q15)), (16, .d (.int .u64 rhat8)), (17, .d (.int .u64 un216)), (18, .d (.int .u64 q06)), (113, .d (.bool true))]) (H' := []) (by kernel_rfl) (by kernel_rfl) (by kernel_rfl) (by kernel_rfl) (by decide) (by kernel_rfl) (by kernel_rfl) ?_
          exact hj5 true
         ·refine oOp (.d (.int .u64 q06)) (by kernel_rfl) (by kernel_rfl) (PureV.does (p_move (by kernel_rfl))) ?_
          refine oOp (.d (.int .u64 yn05)) (by kernel_rfl) (by kernel_rfl) (PureV.does (p_move (by kernel_rfl))) ?_
          refine oOp (.d (.int .u64 (IntKind.wrap .u64 (q06 * yn05)))) (by kernel_rfl) (by kernel_rfl) (PureV.does (p_int (k := .u64) (p := q06) (q := yn05) (by kernel_rfl) (by kernel_rfl) (by kernel_rfl))) ?_
          refine oOp (.d (.int .u64 rhat8)) (by kernel_rfl) (by kernel_rfl) (PureV.does (p_move (by kernel_rfl))) ?_
          refine oOp (.d (.int .u64 (IntKind.wrap .u64 (4294967296 * rhat8)))) (by kernel_rfl) (by kernel_rfl) (PureV.does (p_int (k := .u64) (p := 4294967296) (q := rhat8) (by kernel_rfl) (by kernel_rfl) (by kernel_rfl))) ?_
          refine oOp (.d (.int .u64 un05)) (by kernel_rfl) (by kernel_rfl) (PureV.does (p_move (by kernel_rfl))) ?_
          refine oOp (.d (.int .u64 (IntKind.wrap .u64 ((IntKind.wrap .u64 (4294967296 * rhat8)) + un05)))) (by kernel_rfl) (by kernel_rfl) (PureV.does (p_int (k := .u64) (p := (IntKind.wrap .u64 (4294967296 * rhat8))) (q := un05) (by kernel_rfl) (by kernel_rfl) (by kernel_rfl))) ?_
          refine oOp (.d (.bool (decide ((IntKind.wrap .u64 (q06 * yn05)) > (IntKind.wrap .u64 ((IntKind.wrap .u64 (4294967296 * rhat8)) + un05)))))) (by kernel_rfl) (by kernel_rfl) (PureV.does (p_int (k := .u64) (p := (IntKind.wrap .u64 (q06 * yn05))) (q := (IntKind.wrap .u64 ((IntKind.wrap .u64 (4294967296 * rhat8)) + un05))) (by kernel_rfl) (by kernel_rfl) (by kernel_rfl))) ?_
          refine oOp (.d (.bool (decide ((IntKind.wrap .u64 (q06 * yn05)) > (IntKind.wrap .u64 ((IntKind.wrap .u64 (4294967296 * rhat8)) + un05)))))) (by kernel_rfl) (by kernel_rfl) (PureV.does (p_pick (b := false) (by kernel_rfl) (by kernel_rfl))) ?_
          refine oHead [2, 8, 9, 10, 14, 15, 16, 17, 18, 113] [] (T' := [(2, .d (.int .u64 y6)), (8, .d (.int .u64 s15)), (9, .d (.int .u64 yn15)), (10, .d (.int .u64 yn05)), (14, .d (.int .u64 un05)), (15, .d (.int .u64 q15)), (16, .d (.int .u64 rhat8)), (17, .d (.int .u64 un216)), (18, .d (.int .u64 q06)), (113, .d (.bool (decide ((IntKind.wrap .u64 (q06 * yn05)) > (IntKind.wrap .u64 ((IntKind.wrap .u64 (4294967296 * rhat8)) + un05))))))]) (H' := []) (by kernel_rfl) (by kernel_rfl) (by kernel_rfl) (by kernel_rfl) (by decide) (by kernel_rfl) (by kernel_rfl) ?_
          exact hj5 (decide ((IntKind.wrap .u64 (q06 * yn05)) > (IntKind.wrap .u64 ((IntKind.wrap .u64 (4294967296 * rhat8)) + un05))))
     ·refine oBlock ?_
      refine oLoop ?_
      refine oHead [2, 8, 9, 10, 11, 13, 14, 15, 16] [] (T' := [(2, .d (.int .u64 (IntKind.wrap .u64 (y * 2 ^ (min (Int.toNat (IntKind.wrap .u64 r111)) (IntKind.bits .u64)))))), (8, .d (.int .u64 (IntKind.wrap .u64 r111))), (9, .d (.int .u64 (Int.fdiv (IntKind.wrap .u64 (y * 2 ^ (min (Int.toNat (IntKind.wrap .u64 r111)) (IntKind.bits .u64)))) (2 ^ (min (Int.toNat 32) (IntKind.bits .u64)))))), (10, .d (.int .u64 (iand .u64 (IntKind.wrap .u64 (y * 2 ^ (min (Int.toNat (IntKind.wrap .u64 r111)) (IntKind.bits .u64)))) 4294967295))), (11, .d (.int .u64 (ior .u64 (IntKind.wrap .u64 (hi * 2 ^ (min (Int.toNat (IntKind.wrap .u64 r111)) (IntKind.bits .u64)))) (Int.fdiv lo (2 ^ (min (Int.toNat (IntKind.wrap .u64 (64 - (IntKind.wrap .u64 r111)))) (IntKind.bits .u64))))))), (13, .d (.int .u64 (Int.fdiv (IntKind.wrap .u64 (lo * 2 ^ (min (Int.toNat (IntKind.wrap .u64 r111)) (IntKind.bits .u64)))) (2 ^ (min (Int.toNat 32) (IntKind.bits .u64)))))), (14, .d (.int .u64 (iand .u64 (IntKind.wrap .u64 (lo * 2 ^ (min (Int.toNat (IntKind.wrap .u64 r111)) (IntKind.bits .u64)))) 4294967295))), (15, .d (.int .u64 (IntKind.wrap .u64 (Int.tdiv (ior .u64 (IntKind.wrap .u64 (hi * 2 ^ (min (Int.toNat (IntKind.wrap .u64 r111)) (IntKind.bits .u64)))) (Int.fdiv lo (2 ^ (min (Int.toNat (IntKind.wrap .u64 (64 - (IntKind.wrap .u64 r111)))) (IntKind.bits .u64))))) (Int.fdiv (IntKind.wrap .u64 (y * 2 ^ (min (Int.toNat (IntKind.wrap .u64 r111)) (IntKind.bits .u64)))) (2 ^ (min (Int.toNat 32) (IntKind.bits .u64)))))))), (16, .d (.int .u64 (IntKind.wrap .u64 ((ior .u64 (IntKind.wrap .u64 (hi * 2 ^ (min (Int.toNat (IntKind.wrap .u64 r111)) (IntKind.bits .u64)))) (Int.fdiv lo (2 ^ (min (Int.toNat (IntKind.wrap .u64 (64 - (IntKind.wrap .u64 r111)))) (IntKind.bits .u64))))) - (IntKind.wrap .u64 ((IntKind.wrap .u64 (Int.tdiv (ior .u64 (IntKind.wrap .u64 (hi * 2 ^ (min (Int.toNat (IntKind.wrap .u64 r111)) (IntKind.bits .u64)))) (Int.fdiv lo (2 ^ (min (Int.toNat (IntKind.wrap .u64 (64 - (IntKind.wrap .u64 r111)))) (IntKind.bits .u64))))) (Int.fdiv (IntKind.wrap .u64 (y * 2 ^ (min (Int.toNat (IntKind.wrap .u64 r111)) (IntKind.bits .u64)))) (2 ^ (min (Int.toNat 32) (IntKind.bits .u64)))))) * (Int.fdiv (IntKind.wrap .u64 (y * 2 ^ (min (Int.toNat (IntKind.wrap .u64 r111)) (IntKind.bits .u64)))) (2 ^ (min (Int.toNat 32) (IntKind.bits .u64))))))))))]) (H' := []) (by kernel_rfl) (by kernel_rfl) (by kernel_rfl) (by kernel_rfl) (by decide) (by kernel_rfl) (by kernel_rfl) ?_
      refine bLoop (body := math_bits_Div64_b2 k) ((uc fun (y7 : Int) => (uc fun (s16 : Int) => (uc fun (yn16 : Int) => (uc fun (yn06 : Int) => (uc fun (un326 : Int) => (uc fun (un16 : Int) => (uc fun (un06 : Int) => (uc fun (q16 : Int) => (fun (rhat10 : Int) => [(2, .d (.int .u64 y7)), (8, .d (.int .u64 s16)), (9, .d (.int .u64 yn16)), (10, .d (.int .u64 yn06)), (11, .d (.int .u64 un326)), (13, .d (.int .u64 un16)), (14, .d (.int .u64 un06)), (15, .d (.int .u64 q16)), (16, .d (.int .u64 rhat10))])))))))))) ((uc fun (y7 : Int) => (uc fun (s16 : Int) => (uc fun (yn16 : Int) => (uc fun (yn06 : Int) => (uc fun (un326 : Int) => (uc fun (un16 : Int) => (uc fun (un06 : Int) => (uc fun (q16 : Int) => (fun (rhat10 : Int) => [])))))))))) (fun again hag2 s => ?_) k ((IntKind.wrap .u64 (y * 2 ^ (min (Int.toNat (IntKind.wrap .u64 r111)) (IntKind.bits .u64)))), (IntKind.wrap .u64 r111), (Int.fdiv (IntKind.wrap .u64 (y * 2 ^ (min (Int.toNat (IntKind.wrap .u64 r111)) (IntKind.bits .u64)))) (2 ^ (min (Int.toNat 32) (IntKind.bits .u64)))), (iand .u64 (IntKind.wrap .u64 (y * 2 ^ (min (Int.toNat (IntKind.wrap .u64 r111)) (IntKind.bits .u64)))) 4294967295), (ior .u64 (IntKind.wrap .u64 (hi * 2 ^ (min (Int.toNat (IntKind.wrap .u64 r111)) (IntKind.bits .u64)))) (Int.fdiv lo (2 ^ (min (Int.toNat (IntKind.wrap .u64 (64 - (IntKind.wrap .u64 r111)))) (IntKind.bits .u64))))), (Int.fdiv (IntKind.wrap .u64 (lo * 2 ^ (min (Int.toNat (IntKind.wrap .u64 r111)) (IntKind.bits .u64)))) (2 ^ (min (Int.toNat 32) (IntKind.bits .u64)))), (iand .u64 (IntKind.wrap .u64 (lo * 2 ^ (min (Int.toNat (IntKind.wrap .u64 r111)) (IntKind.bits .u64)))) 4294967295), (IntKind.wrap .u64 (Int.tdiv (ior .u64 (IntKind.wrap .u64 (hi * 2 ^ (min (Int.toNat (IntKind.wrap .u64 r111)) (IntKind.bits .u64)))) (Int.fdiv lo (2 ^ (min (Int.toNat (IntKind.wrap .u64 (64 - (IntKind.wrap .u64 r111)))) (IntKind.bits .u64))))) (Int.fdiv (IntKind.wrap .u64 (y * 2 ^ (min (Int.toNat (IntKind.wrap .u64 r111)) (IntKind.bits .u64)))) (2 ^ (min (Int.toNat 32) (IntKind.bits .u64)))))), (IntKind.wrap .u64 ((ior .u64 (IntKind.wrap .u64 (hi * 2 ^ (min (Int.toNat (IntKind.wrap .u64 r111)) (IntKind.bits .u64)))) (Int.fdiv lo (2 ^ (min (Int.toNat (IntKind.wrap .u64 (64 - (IntKind.wrap .u64 r111)))) (IntKind.bits .u64))))) - (IntKind.wrap .u64 ((IntKind.wrap .u64 (Int.tdiv (ior .u64 (IntKind.wrap .u64 (hi * 2 ^ (min (Int.toNat (IntKind.wrap .u64 r111)) (IntKind.bits .u64)))) (Int.fdiv lo (2 ^ (min (Int.toNat (IntKind.wrap .u64 (64 - (IntKind.wrap .u64 r111)))) (IntKind.bits .u64))))) (Int.fdiv (IntKind.wrap .u64 (y * 2 ^ (min (Int.toNat (IntKind.wrap .u64 r111)) (IntKind.bits .u64)))) (2 ^ (min (Int.toNat 32) (IntKind.bits .u64)))))) * (Int.fdiv (IntKind.wrap .u64 (y * 2 ^ (min (Int.toNat (IntKind.wrap .u64 r111)) (IntKind.bits .u64)))) (2 ^ (min (Int.toNat 32) (IntKind.bits .u64)))))))))
      ·unfold math_bits_Div64_b2
       obtain ⟨y7, s16, yn16, yn06, un326, un16, un06, q16, rhat10⟩ := s
       refine bUc ?_
       refine bUc ?_
       refine bUc ?_
       refine bUc ?_
       refine bUc ?_
       refine bUc ?_
       refine bUc ?_
       refine bUc ?_
       refine oView (T' := [(2, .d (.int .u64 y7)), (8, .d (.int .u64 s16)), (9, .d (.int .u64 yn16)), (10, .d (.int .u64 yn06)), (11, .d (.int .u64 un326)), (13, .d (.int .u64 un16)), (14, .d (.int .u64 un06)), (15, .d (.int .u64 q16)), (16, .d (.int .u64 rhat10))]) (H' := []) (by kernel_rfl) (by kernel_rfl) ?_
       refine oSeq ?_
       refine oSeq ?_
       refine oRegion rfl ?_
       refine oOp (.d (.int .u64 q16)) (by kernel_rfl) (by kernel_rfl) (PureV.does (p_move (by kernel_rfl))) ?_
       refine oOp (.d (.bool (decide (q16 ≥ 4294967296)))) (by kernel_rfl) (by kernel_rfl) (PureV.does (p_int (k := .u64) (p := q16) (q := 4294967296) (by kernel_rfl) (by kernel_rfl) (by kernel_rfl))) ?_
       refine oOp (.d (.bool (decide (q16 ≥ 4294967296)))) (by kernel_rfl) (by kernel_rfl) (PureV.does (p_move (by kernel_rfl))) ?_
       refine bMeet 9 rfl ((fun (x7 : Bool) => [(2, .d (.int .u64 y7)), (8, .d (.int .u64 s16)), (9, .d (.int .u64 yn16)), (10, .d (.int .u64 yn06)), (11, .d (.int .u64 un326)), (13, .d (.int .u64 un16)), (14, .d (.int .u64 un06)), (15, .d (.int .u64 q16)), (16, .d (.int .u64 rhat10)), (78, .d (.bool x7))])) ((fun (x7 : Bool) => [])) (fun s => s) (fun x7 => ?_) (fun hj6 => ?_)
       ·refine oView (T' := [(2, .d (.int .u64 y7)), (8, .d (.int .u64 s16)), (9, .d (.int .u64 yn16)), (10, .d (.int .u64 yn06)), (11, .d (.int .u64 un326)), (13, .d (.int .u64 un16)), (14, .d (.int .u64 un06)), (15, .d (.int .u64 q16)), (16, .d (.int .u64 rhat10)), (78, .d (.bool x7))]) (H' := []) (by kernel_rfl) (by kernel_rfl) ?_
        refine oEnd ?_
        refine bSplit 78 (by kernel_rfl) (fun hc => ?_) (fun hc => ?_)
        ·refine oCondT (by kernel_rfl) ?_
         refine oSkip ?_
         refine oBlock ?_
         refine oSeq ?_
         refine oRegion rfl ?_
         refine oOp (.d (.int .u64 q16)) (by kernel_rfl) (by kernel_rfl) (PureV.does (p_move (by kernel_rfl))) ?_
         refine oOp (.d (.int .u64 (IntKind.wrap .u64 (q16 - 1)))) (by kernel_rfl) (by kernel_rfl) (PureV.does (p_int (k := .u64) (p := q16) (q := 1) (by kernel_rfl) (by kernel_rfl) (by kernel_rfl))) ?_
         refine oOp (.d (.int .u64 (IntKind.wrap .u64 (q16 - 1)))) (by kernel_rfl) (by kernel_rfl) (PureV.does (p_assign (by kernel_rfl))) ?_
         refine oEnd ?_
         refine oSeq ?_
         refine oRegion rfl ?_
         refine oOp (.d (.int .u64 rhat10)) (by kernel_rfl) (by kernel_rfl) (PureV.does (p_move (by kernel_rfl))) ?_
         refine oOp (.d (.int .u64 yn16)) (by kernel_rfl) (by kernel_rfl) (PureV.does (p_move (by kernel_rfl))) ?_
         refine oOp (.d (.int .u64 (IntKind.wrap .u64 (rhat10 + yn16)))) (by kernel_rfl) (by kernel_rfl) (PureV.does (p_int (k := .u64) (p := rhat10) (q := yn16) (by kernel_rfl) (by kernel_rfl) (by kernel_rfl))) ?_
         refine oOp (.d (.int .u64 (IntKind.wrap .u64 (rhat10 + yn16)))) (by kernel_rfl) (by kernel_rfl) (PureV.does (p_assign (by kernel_rfl))) ?_
         refine oEnd ?_
         refine oSeq ?_
         refine oRegion rfl ?_
         refine oOp (.d (.int .u64 (IntKind.wrap .u64 (rhat10 + yn16)))) (by kernel_rfl) (by kernel_rfl) (PureV.does (p_move (by kernel_rfl))) ?_
         refine oOp (.d (.bool (decide ((IntKind.wrap .u64 (rhat10 + yn16)) ≥ 4294967296)))) (by kernel_rfl) (by kernel_rfl) (PureV.does (p_int (k := .u64) (p := (IntKind.wrap .u64 (rhat10 + yn16))) (q := 4294967296) (by kernel_rfl) (by kernel_rfl) (by kernel_rfl))) ?_
         refine oEnd ?_
         refine bSplit 85 (by kernel_rfl) (fun hc => ?_) (fun hc => ?_)
         ·refine oCondT (by kernel_rfl) ?_
          refine oExit rfl ?_
          refine oHead [2, 8, 9, 10, 11, 13, 14, 15] [] (T' := [(2, .d (.int .u64 y7)), (8, .d (.int .u64 s16)), (9, .d (.int .u64 yn16)), (10, .d (.int .u64 yn06)), (11, .d (.int .u64 un326)), (13, .d (.int .u64 un16)), (14, .d (.int .u64 un06)), (15, .d (.int .u64 (IntKind.wrap .u64 (q16 - 1))))]) (H' := []) (by kernel_rfl) (by kernel_rfl) (by kernel_rfl) (by kernel_rfl) (by decide) (by kernel_rfl) (by kernel_rfl) ?_
          exact hj3 (y7, s16, yn16, yn06, un326, un16, un06, (IntKind.wrap .u64 (q16 - 1)))
         ·refine oCondF (by kernel_rfl) ?_
          refine oSkip ?_
          refine oBlk ?_
          refine oAgain ?_
          refine oHead [2, 8, 9, 10, 11, 13, 14, 15, 16] [] (T' := [(2, .d (.int .u64 y7)), (8, .d (.int .u64 s16)), (9, .d (.int .u64 yn16)), (10, .d (.int .u64 yn06)), (11, .d (.int .u64 un326)), (13, .d (.int .u64 un16)), (14, .d (.int .u64 un06)), (15, .d (.int .u64 (IntKind.wrap .u64 (q16 - 1)))), (16, .d (.int .u64 (IntKind.wrap .u64 (rhat10 + yn16))))]) (H' := []) (by kernel_rfl) (by kernel_rfl) (by kernel_rfl) (by kernel_rfl) (by decide) (by kernel_rfl) (by kernel_rfl) ?_
          exact hag2 (y7, s16, yn16, yn06, un326, un16, un06, (IntKind.wrap .u64 (q16 - 1)), (IntKind.wrap .u64 (rhat10 + yn16)))
        ·refine oCondF (by kernel_rfl) ?_
         refine oExit rfl ?_
         refine oHead [2, 8, 9, 10, 11, 13, 14, 15] [] (T' := [(2, .d (.int .u64 y7)), (8, .d (.int .u64 s16)), (9, .d (.int .u64 yn16)), (10, .d (.int .u64 yn06)), (11, .d (.int .u64 un326)), (13, .d (.int .u64 un16)), (14, .d (.int .u64 un06)), (15, .d (.int .u64 q16))]) (H' := []) (by kernel_rfl) (by kernel_rfl) (by kernel_rfl) (by kernel_rfl) (by decide) (by kernel_rfl) (by kernel_rfl) ?_
         exact hj3 (y7, s16, yn16, yn06, un326, un16, un06, q16)
       ·refine bSplit 69 (by kernel_rfl) (fun hc => ?_) (fun hc => ?_)
        ·refine oNot (by kernel_rfl) (by kernel_rfl) ?_
         refine oNot (by kernel_rfl) (by kernel_rfl) ?_
         refine oNot (by kernel_rfl) (by kernel_rfl) ?_
         refine oNot (by kernel_rfl) (by kernel_rfl) ?_
         refine oNot (by kernel_rfl) (by kernel_rfl) ?_
         refine oNot (by kernel_rfl) (by kernel_rfl) ?_
         refine oNot (by kernel_rfl) (by kernel_rfl) ?_
         refine oNot (by kernel_rfl) (by kernel_rfl) ?_
         refine oOp (.d (.bool true)) (by kernel_rfl) (by kernel_rfl) (PureV.does (p_pick (b := true) (by kernel_rfl) (by kernel_rfl))) ?_
         refine oHead [2, 8, 9, 10, 11, 13, 14, 15, 16, 78] [] (T' := [(2, .d (.int .u64 y7)), (8, .d (.int .u64 s16)), (9, .d (.int .u64 yn16)), (10, .d (.int .u64 yn06)), (11, .d (.int .u64 un326)), (13, .d (.int .u64 un16)), (14, .d (.int .u64 un06)), (15, .d (.int .u64 q16)), (16, .d (.int .u64 rhat10)), (78, .d (.bool true))]) (H' := []) (by kernel_rfl) (by kernel_rfl) (by kernel_rfl) (by kernel_rfl) (by decide) (by kernel_rfl) (by kernel_rfl) ?_
         exact hj6 true
        ·refine oOp (.d (.int .u64 q16)) (by kernel_rfl) (by kernel_rfl) (PureV.does (p_move (by kernel_rfl))) ?_
         refine oOp (.d (.int .u64 yn06)) (by kernel_rfl) (by kernel_rfl) (PureV.does (p_move (by kernel_rfl))) ?_
         refine oOp (.d (.int .u64 (IntKind.wrap .u64 (q16 * yn06)))) (by kernel_rfl) (by kernel_rfl) (PureV.does (p_int (k := .u64) (p := q16) (q := yn06) (by kernel_rfl) (by kernel_rfl) (by kernel_rfl))) ?_
         refine oOp (.d (.int .u64 rhat10)) (by kernel_rfl) (by kernel_rfl) (PureV.does (p_move (by kernel_rfl))) ?_
         refine oOp (.d (.int .u64 (IntKind.wrap .u64 (4294967296 * rhat10)))) (by kernel_rfl) (by kernel_rfl) (PureV.does (p_int (k := .u64) (p := 4294967296) (q := rhat10) (by kernel_rfl) (by kernel_rfl) (by kernel_rfl))) ?_
         refine oOp (.d (.int .u64 un16)) (by kernel_rfl) (by kernel_rfl) (PureV.does (p_move (by kernel_rfl))) ?_
         refine oOp (.d (.int .u64 (IntKind.wrap .u64 ((IntKind.wrap .u64 (4294967296 * rhat10)) + un16)))) (by kernel_rfl) (by kernel_rfl) (PureV.does (p_int (k := .u64) (p := (IntKind.wrap .u64 (4294967296 * rhat10))) (q := un16) (by kernel_rfl) (by kernel_rfl) (by kernel_rfl))) ?_
         refine oOp (.d (.bool (decide ((IntKind.wrap .u64 (q16 * yn06)) > (IntKind.wrap .u64 ((IntKind.wrap .u64 (4294967296 * rhat10)) + un16)))))) (by kernel_rfl) (by kernel_rfl) (PureV.does (p_int (k := .u64) (p := (IntKind.wrap .u64 (q16 * yn06))) (q := (IntKind.wrap .u64 ((IntKind.wrap .u64 (4294967296 * rhat10)) + un16))) (by kernel_rfl) (by kernel_rfl) (by kernel_rfl))) ?_
         refine oOp (.d (.bool (decide ((IntKind.wrap .u64 (q16 * yn06)) > (IntKind.wrap .u64 ((IntKind.wrap .u64 (4294967296 * rhat10)) + un16)))))) (by kernel_rfl) (by kernel_rfl) (PureV.does (p_pick (b := false) (by kernel_rfl) (by kernel_rfl))) ?_
         refine oHead [2, 8, 9, 10, 11, 13, 14, 15, 16, 78] [] (T' := [(2, .d (.int .u64 y7)), (8, .d (.int .u64 s16)), (9, .d (.int .u64 yn16)), (10, .d (.int .u64 yn06)), (11, .d (.int .u64 un326)), (13, .d (.int .u64 un16)), (14, .d (.int .u64 un06)), (15, .d (.int .u64 q16)), (16, .d (.int .u64 rhat10)), (78, .d (.bool (decide ((IntKind.wrap .u64 (q16 * yn06)) > (IntKind.wrap .u64 ((IntKind.wrap .u64 (4294967296 * rhat10)) + un16))))))]) (H' := []) (by kernel_rfl) (by kernel_rfl) (by kernel_rfl) (by kernel_rfl) (by decide) (by kernel_rfl) (by kernel_rfl) ?_
         exact hj6 (decide ((IntKind.wrap .u64 (q16 * yn06)) > (IntKind.wrap .u64 ((IntKind.wrap .u64 (4294967296 * rhat10)) + un16))))

/-- math/bits.Rem64 -/
def math_bits_Rem64 (k : Nat) (hi : Int) (lo : Int) (y : Int) : Option (Int) := gnz y (Option.bind (math_bits_Div64 k (Int.tmod hi y) lo y) (uc fun r13 => fun r121 => some r121))
def math_bits_Rem64_E (hi : Int) (lo : Int) (y : Int) : Int → V × List Blk := fun r11 => (.d (.int .u64 r11), [])
theorem math_bits_Rem64_goes (k : Nat) (hi : Int) (lo : Int) (y : Int) : RunsO Try.prog 71 [.d (.int .u64 hi), .d (.int .u64 lo), .d (.int .u64 y)] [] (math_bits_Rem64_E hi lo y) (math_bits_Rem64 k hi lo y) := by
  refine RunsO.of_goes (N := 19) (m := 0) (T := [(0, .d (.int .u64 hi)), (1, .d (.int .u64 lo)), (2, .d (.int .u64 y))]) Try.func71 rfl rfl (by kernel_rfl) (by kernel_rfl) (by kernel_rfl) ?_
  unfold math_bits_Rem64
  refine bStart ?_
  refine oSeq ?_
  refine oRegion rfl ?_
  refine oOp (.d (.int .u64 0)) (by kernel_rfl) (by kernel_rfl) (PureV.does (p_assign (by kernel_rfl))) ?_
  refine oEnd ?_
  refine oSeq ?_
  refine oRegion rfl ?_
  refine oOp (.d (.int .u64 hi)) (by kernel_rfl) (by kernel_rfl) (PureV.does (p_move (by kernel_rfl))) ?_
  refine oOp (.d (.int .u64 y)) (by kernel_rfl) (by kernel_rfl) (PureV.does (p_move (by kernel_rfl))) ?_
  refine bNz (fun h11 => ?_)
  refine oOp (.d (.int .u64 (Int.tmod hi y))) (by kernel_rfl) (by kernel_rfl) (PureV.does (p_rem (k := .u64) (p := hi) (q := y) (by kernel_rfl) (by kernel_rfl) h11 (by kernel_rfl))) ?_
  refine oOp (.d (.int .u64 lo)) (by kernel_rfl) (by kernel_rfl) (PureV.does (p_move (by kernel_rfl))) ?_
  refine oOp (.d (.int .u64 y)) (by kernel_rfl) (by kernel_rfl) (PureV.does (p_move (by kernel_rfl))) ?_
  refine bCall (caps := []) (v := (uc fun (r13 : Int) => (fun (r121 : Int) => (.tuple [.d (.int .u64 r13), .d (.int .u64 r121)] : V)))) (H' := (uc fun (r13 : Int) => (fun (r121 : Int) => ([] : List Blk)))) [] _ (math_bits_Div64_goes k (Int.tmod hi y) lo y) (by kernel_rfl) (by kernel_rfl) rfl (by kernel_rfl) Try.func83 rfl (by kernel_rfl) (ConvRs.refl _ _) (by kernel_rfl) (by kernel_rfl) (by kernel_rfl) (by decide) (by kernel_rfl) (by kernel_rfl) (fun _ => (by kernel_rfl)) (fun _ => (by kernel_rfl)) (fun _ => (by kernel_rfl)) (fun r => ?_)
  obtain ⟨r13, r121⟩ := r
  refine bUc ?_
  refine oOp (.tuple [.d (.int .u64 r13), .d (.int .u64 r121)]) (by kernel_rfl) (by kernel_rfl) (PureV.does (p_move (by kernel_rfl))) ?_
  refine oOp (.d (.int .u64 r13)) (by kernel_rfl) (by kernel_rfl) (PureV.does (k_extract (by kernel_rfl))) ?_
  refine oOp (.d (.int .u64 r121)) (by kernel_rfl) (by kernel_rfl) (PureV.does (k_extract (by kernel_rfl))) ?_
  refine oOp (.d (.int .u64 r13)) (by kernel_rfl) (by kernel_rfl) (PureV.does (p_assign (by kernel_rfl))) ?_
  refine oOp (.d (.int .u64 r121)) (by kernel_rfl) (by kernel_rfl) (PureV.does (p_assign (by kernel_rfl))) ?_
  refine oEnd ?_
  refine oSeq ?_
  refine oRegion rfl ?_
  refine oOp (.d (.int .u64 r121)) (by kernel_rfl) (by kernel_rfl) (PureV.does (p_move (by kernel_rfl))) ?_
  refine oOp (.d (.int .u64 r121)) (by kernel_rfl) (by kernel_rfl) (PureV.does (p_assign (by kernel_rfl))) ?_
  refine oEnd ?_
  exact oRet (r0 := r121) (rv := .d (.int .u64 r121)) (B := []) (vs := [.d (.int .u64 r121)]) (σ := []) (by kernel_rfl) Try.func71 rfl (.cons _ _ _ _ (.tmp 6 _ (by kernel_rfl)) .nil) (by kernel_rfl) (by kernel_rfl) (by kernel_rfl) (by kernel_rfl) (by decide) (by kernel_rfl) (by kernel_rfl)

/-- (awardingbody/ratio.wide).over -/
def ratio_wide_over (k : Nat) (w0 : Bool) (w1 : Int) (w2 : Int) (d : Int) : Option (Int × Int) := gnz d (Option.bind (math_bits_Div64 k (Int.tmod w1 d) w2 d) (uc fun r1 => fun r12 => gnz d (some ((IntKind.wrap .u64 (Int.tdiv w1 d)), r1))))
def ratio_wide_over_E (w0 : Bool) (w1 : Int) (w2 : Int) (d : Int) : Int × Int → V × List Blk := uc fun r11 => fun r13 => (.agg [.d (.bool w0), .d (.int .u64 r11), .d (.int .u64 r13)], [])
theorem ratio_wide_over_goes (k : Nat) (w0 : Bool) (w1 : Int) (w2 : Int) (d : Int) : RunsO Try.prog 73 [.agg [.d (.bool w0), .d (.int .u64 w1), .d (.int .u64 w2)], .d (.int .u64 d)] [] (ratio_wide_over_E w0 w1 w2 d) (ratio_wide_over k w0 w1 w2 d) := by
  refine RunsO.of_goes (N := 26) (m := 0) (T := [(0, .agg [.d (.bool w0), .d (.int .u64 w1), .d (.int .u64 w2)]), (1, .d (.int .u64 d))]) Try.func73 rfl rfl (by kernel_rfl) (by kernel_rfl) (by kernel_rfl) ?_
  unfold ratio_wide_over
  refine bStart ?_
  refine oSeq ?_
  refine oRegion rfl ?_
  refine oOp (.ptr 0 0) (by kernel_rfl) (by kernel_rfl) (k_box (H' := [.box [.d (.bool w0), .d (.int .u64 w1), .d (.int .u64 w2)]]) (cells := [.d (.bool w0), .d (.int .u64 w1), .d (.int .u64 w2)]) (by kernel_rfl) (by kernel_rfl) (by kernel_rfl)) ?_
  refine oOp (.ptr 1 0) (by kernel_rfl) (by kernel_rfl) (k_alloc (H' := [.box [.d (.bool w0), .d (.int .u64 w1), .d (.int .u64 w2)], .box [.d (.bool false), .d (.int .u64 0), .d (.int .u64 0)]]) ty80 (by kernel_rfl) (by kernel_rfl)) ?_
  refine oEnd ?_
  refine oSeq ?_
  refine oDraw [(0, 13), (1, 13)] rfl ?_
  refine aTakeL (i := 0) (st' := []) (.ptr 0 1) rfl (by kernel_rfl) (by kernel_rfl) (by kernel_rfl) (by kernel_rfl) (by kernel_rfl) (by kernel_rfl) (by kernel_rfl) (PureV.quiet (k_fieldAddr 0 0 (by kernel_rfl) Try.underlying80 rfl ty64 (by kernel_rfl)) []) ?_
  refine aTakeL (i := 1) (st' := [0]) (.d (.int .u64 w1)) rfl (by kernel_rfl) (by kernel_rfl) (by kernel_rfl) (by kernel_rfl) (by kernel_rfl) (by kernel_rfl) (by kernel_rfl) (k_load 0 1 (by kernel_rfl) Try.underlying64 (by kernel_rfl) (by kernel_rfl)) ?_
  refine aTakeL (i := 2) (st' := []) (.d (.int .u64 d)) rfl (by kernel_rfl) (by kernel_rfl) (by kernel_rfl) (by kernel_rfl) (by kernel_rfl) (by kernel_rfl) (by kernel_rfl) (PureV.quiet (p_move (by kernel_rfl)) []) ?_
  refine dNz (fun h1 => ?_)
  refine aTakeP (i := 3) (.d (.int .u64 (Int.tmod w1 d))) rfl (by kernel_rfl) (by kernel_rfl) (by kernel_rfl) (by kernel_rfl) (by kernel_rfl) (by kernel_rfl) (by kernel_rfl) (p_rem (k := .u64) (p := w1) (q := d) (by kernel_rfl) (by kernel_rfl) h1 (by kernel_rfl)) ?_
  refine aTakeL (i := 4) (st' := []) (.ptr 0 2) rfl (by kernel_rfl) (by kernel_rfl) (by kernel_rfl) (by kernel_rfl) (by kernel_rfl) (by kernel_rfl) (by kernel_rfl) (PureV.quiet (k_fieldAddr 0 0 (by kernel_rfl) Try.underlying80 rfl ty64 (by kernel_rfl)) []) ?_
  refine aTakeL (i := 5) (st' := [0]) (.d (.int .u64 w2)) rfl (by kernel_rfl) (by kernel_rfl) (by kernel_rfl) (by kernel_rfl) (by kernel_rfl) (by kernel_rfl) (by kernel_rfl) (k_load 0 2 (by kernel_rfl) Try.underlying64 (by kernel_rfl) (by kernel_rfl)) ?_
  refine aTakeL (i := 6) (st' := []) (.d (.int .u64 d)) rfl (by kernel_rfl) (by kernel_rfl) (by kernel_rfl) (by kernel_rfl) (by kernel_rfl) (by kernel_rfl) (by kernel_rfl) (PureV.quiet (p_move (by kernel_rfl)) []) ?_
  refine dCall (i := 7) (caps := []) (v := (uc fun (r1 : Int) => (fun (r12 : Int) => (.tuple [.d (.int .u64 r1), .d (.int .u64 r12)] : V)))) (H' := (uc fun (r1 : Int) => (fun (r12 : Int) => ([.box [.d (.bool w0), .d (.int .u64 w1), .d (.int .u64 w2)], .box [.d (.bool false), .d (.int .u64 0), .d (.int .u64 0)]] : List Blk)))) [] _ (math_bits_Div64_goes k (Int.tmod w1 d) w2 d) rfl (by kernel_rfl) (by kernel_rfl) (by kernel_rfl) (by kernel_rfl) (by kernel_rfl) (by kernel_rfl) (by kernel_rfl) (by kernel_rfl) rfl (by kernel_rfl) Try.func83 rfl (by kernel_rfl) (ConvRs.refl _ _) (by kernel_rfl) (by kernel_rfl) (by kernel_rfl) (by decide) (by kernel_rfl) (by kernel_rfl) (fun _ => (by kernel_rfl)) (fun _ => (by kernel_rfl)) (fun _ => (by kernel_rfl)) (fun r => ?_)
  obtain ⟨r1, r12⟩ := r
  refine dUc ?_
  refine aTakeP (i := 8) (.tuple [.d (.int .u64 r1), .d (.int .u64 r12)]) rfl (by kernel_rfl) (by kernel_rfl) (by kernel_rfl) (by kernel_rfl) (by kernel_rfl) (by kernel_rfl) (by kernel_rfl) (p_move (by kernel_rfl)) ?_
  refine aTakeP (i := 9) (.d (.int .u64 r1)) rfl (by kernel_rfl) (by kernel_rfl) (by kernel_rfl) (by kernel_rfl) (by kernel_rfl) (by kernel_rfl) (by kernel_rfl) (k_extract (by kernel_rfl)) ?_
  refine aTakeP (i := 10) (.d (.int .u64 r12)) rfl (by kernel_rfl) (by kernel_rfl) (by kernel_rfl) (by kernel_rfl) (by kernel_rfl) (by kernel_rfl) (by kernel_rfl) (k_extract (by kernel_rfl)) ?_
  refine aTakeL (i := 11) (st' := []) (.d (.int .u64 r1)) rfl (by kernel_rfl) (by kernel_rfl) (by kernel_rfl) (by kernel_rfl) (by kernel_rfl) (by kernel_rfl) (by kernel_rfl) (PureV.quiet (p_assign (by kernel_rfl)) []) ?_
  refine aTakeL (i := 12) (st' := []) (.d (.int .u64 r12)) rfl (by kernel_rfl) (by kernel_rfl) (by kernel_rfl) (by kernel_rfl) (by kernel_rfl) (by kernel_rfl) (by kernel_rfl) (PureV.quiet (p_assign (by kernel_rfl)) []) ?_
  refine aDone (by kernel_rfl) ?_
  refine oSeq ?_
  refine oDraw [(0, 9), (1, 8)] rfl ?_
  refine aTakeL (i := 0) (st' := []) (.ptr 0 0) rfl (by kernel_rfl) (by kernel_rfl) (by kernel_rfl) (by kernel_rfl) (by kernel_rfl) (by kernel_rfl) (by kernel_rfl) (PureV.quiet (k_fieldAddr 0 0 (by kernel_rfl) Try.underlying80 rfl ty4 (by kernel_rfl)) []) ?_
  refine aTakeL (i := 1) (st' := [0]) (.d (.bool w0)) rfl (by kernel_rfl) (by kernel_rfl) (by kernel_rfl) (by kernel_rfl) (by kernel_rfl) (by kernel_rfl) (by kernel_rfl) (k_load 0 0 (by kernel_rfl) Try.underlying4 (by kernel_rfl) (by kernel_rfl)) ?_
  refine aTakeL (i := 2) (st' := []) (.ptr 0 1) rfl (by kernel_rfl) (by kernel_rfl) (by kernel_rfl) (by kernel_rfl) (by kernel_rfl) (by kernel_rfl) (by kernel_rfl) (PureV.quiet (k_fieldAddr 0 0 (by kernel_rfl) Try.underlying80 rfl ty64 (by kernel_rfl)) []) ?_
  refine aTakeL (i := 3) (st' := [0]) (.d (.int .u64 w1)) rfl (by kernel_rfl) (by kernel_rfl) (by kernel_rfl) (by kernel_rfl) (by kernel_rfl) (by kernel_rfl) (by kernel_rfl) (k_load 0 1 (by kernel_rfl) Try.underlying64 (by kernel_rfl) (by kernel_rfl)) ?_
  refine aTakeL (i := 4) (st' := []) (.d (.int .u64 d)) rfl (by kernel_rfl) (by kernel_rfl) (by kernel_rfl) (by kernel_rfl) (by kernel_rfl) (by kernel_rfl) (by kernel_rfl) (PureV.quiet (p_move (by kernel_rfl)) []) ?_
  refine dNz (fun h13 => ?_)
  refine aTakeP (i := 5) (.d (.int .u64 (IntKind.wrap .u64 (Int.tdiv w1 d)))) rfl (by kernel_rfl) (by kernel_rfl) (by kernel_rfl) (by kernel_rfl) (by kernel_rfl) (by kernel_rfl) (by kernel_rfl) (p_quo (k := .u64) (p := w1) (q := d) (by kernel_rfl) (by kernel_rfl) h13 (by kernel_rfl)) ?_
  refine aTakeL (i := 6) (st' := []) (.d (.int .u64 r1)) rfl (by kernel_rfl) (by kernel_rfl) (by kernel_rfl) (by kernel_rfl) (by kernel_rfl) (by kernel_rfl) (by kernel_rfl) (PureV.quiet (p_move (by kernel_rfl)) []) ?_
  refine aTakeL (i := 7) (st' := []) (.agg [.d (.bool w0), .d (.int .u64 (IntKind.wrap .u64 (Int.tdiv w1 d))), .d (.int .u64 r1)]) rfl (by kernel_rfl) (by kernel_rfl) (by kernel_rfl) (by kernel_rfl) (by kernel_rfl) (by kernel_rfl) (by kernel_rfl) (PureV.quiet (p_build bld80 (by kernel_rfl)) []) ?_
  refine aOne (i := 8) (v := .undef) rfl (by kernel_rfl) (by kernel_rfl) (by kernel_rfl) (by kernel_rfl) (by kernel_rfl) (by kernel_rfl) (by kernel_rfl) (Does.acts (k_store (vs := [.d (.bool w0), .d (.int .u64 (IntKind.wrap .u64 (Int.tdiv w1 d))), .d (.int .u64 r1)]) (H' := [.box [.d (.bool w0), .d (.int .u64 w1), .d (.int .u64 w2)], .box [.d (.bool w0), .d (.int .u64 (IntKind.wrap .u64 (Int.tdiv w1 d))), .d (.int .u64 r1)]]) 1 0 (by kernel_rfl) ty80 (by kernel_rfl) (by kernel_rfl) (by kernel_rfl))) (by kernel_rfl) ?_
  refine aDone (by kernel_rfl) ?_
  exact oRet (r0 := ((IntKind.wrap .u64 (Int.tdiv w1 d)), r1)) (rv := .agg [.d (.bool w0), .d (.int .u64 (IntKind.wrap .u64 (Int.tdiv w1 d))), .d (.int .u64 r1)]) (B := []) (vs := [.agg [.d (.bool w0), .d (.int .u64 (IntKind.wrap .u64 (Int.tdiv w1 d))), .d (.int .u64 r1)]]) (σ := []) (by kernel_rfl) Try.func73 rfl (.cons _ _ _ _ (.agg 4 80 1 0 [.d (.bool w0), .d (.int .u64 (IntKind.wrap .u64 (Int.tdiv w1 d))), .d (.int .u64 r1)] [.d (.bool w0), .d (.int .u64 (IntKind.wrap .u64 (Int.tdiv w1 d))), .d (.int .u64 r1)] _ _ _ _ (by kernel_rfl) (by kernel_rfl) Try.underlying80 (by kernel_rfl) ty80 (by kernel_rfl) (by kernel_rfl)) .nil) (by kernel_rfl) (by kernel_rfl) (by kernel_rfl) (by kernel_rfl) (by decide) (by kernel_rfl) (by kernel_rfl)

/-- awardingbody/ratio.lowest -/
def ratio_lowest (k : Nat) (num0 : Bool) (num1 : Int) (num2 : Int) (den : Int) : Option (Int × Int × Int) := Option.bind (math_bits_Rem64 k num1 num2 den) (fun r112 => Option.bind (ratio_gcd k den r112) (fun r16 => gnz r16 (Option.bind (ratio_wide_over k num0 num1 num2 r16) (uc fun r111 => fun r13 => Option.bind (bif (r111 != 0) then some ((IntKind.wrap .u64 (Int.tdiv den r16)), true) else some ((IntKind.wrap .u64 (Int.tdiv den r16)), (decide (r13 > 1152921504606846976))) : Option (Int × Bool)) (uc fun den4 => fun x4 => blet (x4 || (decide (den4 > 1152921504606846976))) fun x5 => bif x5 then some (0, 0, 6) else Option.bind (bif num0 then some (IntKind.wrap .i64 (0 - (IntKind.wrap .i64 r13))) else some (IntKind.wrap .i64 r13) : Option (Int)) (fun n1 => some (n1, (IntKind.wrap .i64 den4), 0)))))))
def ratio_lowest_E (num0 : Bool) (num1 : Int) (num2 : Int) (den : Int) : Int × Int × Int → V × List Blk := uc fun r12 => uc fun r14 => fun r15 => (.tuple [.agg [.d (.int .i64 r12), .d (.int .i64 r14)], .d (.int .i64 r15)], [])
theorem ratio_lowest_goes (k : Nat) (num0 : Bool) (num1 : Int) (num2 : Int) (den : Int) : RunsO Try.prog 72 [.agg [.d (.bool num0), .d (.int .u64 num1), .d (.int .u64 num2)], .d (.int .u64 den)] [] (ratio_lowest_E num0 num1 num2 den) (ratio_lowest k num0 num1 num2 den) := by
  refine RunsO.of_goes (N := 46) (m := 0) (T := [(0, .agg [.d (.bool num0), .d (.int .u64 num1), .d (.int .u64 num2)]), (1, .d (.int .u64 den))]) Try.func72 rfl rfl (by kernel_rfl) (by kernel_rfl) (by kernel_rfl) ?_
  unfold ratio_lowest
  refine bStart ?_
  refine oSeq ?_
  refine oRegion rfl ?_
  refine oOp (.ptr 0 0) (by kernel_rfl) (by kernel_rfl) (k_box (H' := [.box [.d (.bool num0), .d (.int .u64 num1), .d (.int .u64 num2)]]) (cells := [.d (.bool num0), .d (.int .u64 num1), .d (.int .u64 num2)]) (by kernel_rfl) (by kernel_rfl) (by kernel_rfl)) ?_
  refine oOp (.ptr 1 0) (by kernel_rfl) (by kernel_rfl) (k_alloc (H' := [.box [.d (.bool num0), .d (.int .u64 num1), .d (.int .u64 num2)], .box [.d (.int .i64 0), .d (.int .i64 0)]]) ty37 (by kernel_rfl) (by kernel_rfl)) ?_
  refine oOp (.d (.int .i64 0)) (by kernel_rfl) (by kernel_rfl) (PureV.does (p_assign (by kernel_rfl))) ?_
  refine oEnd ?_
  refine oSeq ?_
  refine oRegion rfl ?_
  refine oOp (.d (.int .u64 den)) (by kernel_rfl) (by kernel_rfl) (PureV.does (p_move (by kernel_rfl))) ?_
  refine oOp (.ptr 0 1) (by kernel_rfl) (by kernel_rfl) (PureV.does (k_fieldAddr 0 0 (by kernel_rfl) Try.underlying80 rfl ty64 (by kernel_rfl))) ?_
  refine oOp (.d (.int .u64 num1)) (by kernel_rfl) (by kernel_rfl) (Quiet.does (k_load 0 1 (by kernel_rfl) Try.underlying64 (by kernel_rfl) (by kernel_rfl))) ?_
  refine oOp (.ptr 0 2) (by kernel_rfl) (by kernel_rfl) (PureV.does (k_fieldAddr 0 0 (by kernel_rfl) Try.underlying80 rfl ty64 (by kernel_rfl))) ?_
  refine oOp (.d (.int .u64 num2)) (by kernel_rfl) (by kernel_rfl) (Quiet.does (k_load 0 2 (by kernel_rfl) Try.underlying64 (by kernel_rfl) (by kernel_rfl))) ?_
  refine oOp (.d (.int .u64 den)) (by kernel_rfl) (by kernel_rfl) (PureV.does (p_move (by kernel_rfl))) ?_
  refine bCall (caps := []) (v := (fun (r112 : Int) => (.d (.int .u64 r112) : V))) (H' := (fun (r112 : Int) => ([.box [.d (.bool num0), .d (.int .u64 num1), .d (.int .u64 num2)], .box [.d (.int .i64 0), .d (.int .i64 0)]] : List Blk))) [] _ (math_bits_Rem64_goes k num1 num2 den) (by kernel_rfl) (by kernel_rfl) rfl (by kernel_rfl) Try.func71 rfl (by kernel_rfl) (ConvRs.refl _ _) (by kernel_rfl) (by kernel_rfl) (by kernel_rfl) (by decide) (by kernel_rfl) (by kernel_rfl) (fun _ => (by kernel_rfl)) (fun _ => (by kernel_rfl)) (fun _ => (by kernel_rfl)) (fun r112 => ?_)
  refine bCall (caps := []) (v := (fun (r16 : Int) => (.d (.int .u64 r16) : V))) (H' := (fun (r16 : Int) => ([.box [.d (.bool num0), .d (.int .u64 num1), .d (.int .u64 num2)], .box [.d (.int .i64 0), .d (.int .i64 0)]] : List Blk))) [] _ (ratio_gcd_goes k den r112) (by kernel_rfl) (by kernel_rfl) rfl (by kernel_rfl) Try.func35 rfl (by kernel_rfl) (ConvRs.refl _ _) (by kernel_rfl) (by kernel_rfl) (by kernel_rfl) (by decide) (by kernel_rfl) (by kernel_rfl) (fun _ => (by kernel_rfl)) (fun _ => (by kernel_rfl)) (fun _ => (by kernel_rfl)) (fun r16 => ?_)
  refine oOp (.d (.int .u64 r16)) (by kernel_rfl) (by kernel_rfl) (PureV.does (p_assign (by kernel_rfl))) ?_
  refine oEnd ?_
  refine oSeq ?_
  refine oDraw [(0, 6), (1, 8)] rfl ?_
  refine aTakeL (i := 0) (st' := [0]) (.agg [.d (.bool num0), .d (.int .u64 num1), .d (.int .u64 num2)]) rfl (by kernel_rfl) (by kernel_rfl) (by kernel_rfl) (by kernel_rfl) (by kernel_rfl) (by kernel_rfl) (by kernel_rfl) (k_loadAgg 0 0 (by kernel_rfl) Try.underlying80 (by kernel_rfl) ty80 (by kernel_rfl)) ?_
  refine aTakeL (i := 1) (st' := []) (.d (.int .u64 r16)) rfl (by kernel_rfl) (by kernel_rfl) (by kernel_rfl) (by kernel_rfl) (by kernel_rfl) (by kernel_rfl) (by kernel_rfl) (PureV.quiet (p_move (by kernel_rfl)) []) ?_
  refine aTakeL (i := 3) (st' := []) (.d (.int .u64 den)) rfl (by kernel_rfl) (by kernel_rfl) (by kernel_rfl) (by kernel_rfl) (by kernel_rfl) (by kernel_rfl) (by kernel_rfl) (PureV.quiet (p_move (by kernel_rfl)) []) ?_
  refine aTakeL (i := 4) (st' := []) (.d (.int .u64 r16)) rfl (by kernel_rfl) (by kernel_rfl) (by kernel_rfl) (by kernel_rfl) (by kernel_rfl) (by kernel_rfl) (by kernel_rfl) (PureV.quiet (p_move (by kernel_rfl)) []) ?_
  refine dNz (fun h1 => ?_)
  refine aTakeP (i := 5) (.d (.int .u64 (IntKind.wrap .u64 (Int.tdiv den r16)))) rfl (by kernel_rfl) (by kernel_rfl) (by kernel_rfl) (by kernel_rfl) (by kernel_rfl) (by kernel_rfl) (by kernel_rfl) (p_quo (k := .u64) (p := den) (q := r16) (by kernel_rfl) (by kernel_rfl) h1 (by kernel_rfl)) ?_
  refine dCall (i := 2) (caps := []) (v := (uc fun (r111 : Int) => (fun (r13 : Int) => (.agg [.d (.bool num0), .d (.int .u64 r111), .d (.int .u64 r13)] : V)))) (H' := (uc fun (r111 : Int) => (fun (r13 : Int) => ([.box [.d (.bool num0), .d (.int .u64 num1), .d (.int .u64 num2)], .box [.d (.int .i64 0), .d (.int .i64 0)]] : List Blk)))) [] _ (ratio_wide_over_goes k num0 num1 num2 r16) rfl (by kernel_rfl) (by kernel_rfl) (by kernel_rfl) (by kernel_rfl) (by kernel_rfl) (by kernel_rfl) (by kernel_rfl) (by kernel_rfl) rfl (by kernel_rfl) Try.func73 rfl (by kernel_rfl) (ConvRs.refl _ _) (by kernel_rfl) (by kernel_rfl) (by kernel_rfl) (by decide) (by kernel_rfl) (by kernel_rfl) (fun _ => (by kernel_rfl)) (fun _ => (by kernel_rfl)) (fun _ => (by kernel_rfl)) (fun r => ?_)
  obtain ⟨r111, r13⟩ := r
  refine dUc ?_
  refine aOne (i := 6) (v := .undef) rfl (by kernel_rfl) (by kernel_rfl) (by kernel_rfl) (by kernel_rfl) (by kernel_rfl) (by kernel_rfl) (by kernel_rfl) (Does.acts (k_store (vs := [.d (.bool num0), .d (.int .u64 r111), .d (.int .u64 r13)]) (H' := [.box [.d (.bool num0), .d (.int .u64 r111), .d (.int .u64 r13)], .box [.d (.int .i64 0), .d (.int .i64 0)]]) 0 0 (by kernel_rfl) ty80 (by kernel_rfl) (by kernel_rfl) (by kernel_rfl))) (by kernel_rfl) ?_
  refine aTakeL (i := 7) (st' := []) (.d (.int .u64 (IntKind.wrap .u64 (Int.tdiv den r16)))) rfl (by kernel_rfl) (by kernel_rfl) (by kernel_rfl) (by kernel_rfl) (by kernel_rfl) (by kernel_rfl) (by kernel_rfl) (PureV.quiet (p_assign (by kernel_rfl)) []) ?_
  refine aDone (by kernel_rfl) ?_
  refine oSeq ?_
  refine oSeq ?_
  refine oRegion rfl ?_
  refine oOp (.ptr 0 1) (by kernel_rfl) (by kernel_rfl) (PureV.does (k_fieldAddr 0 0 (by kernel_rfl) Try.underlying80 rfl ty64 (by kernel_rfl))) ?_
  refine oOp (.d (.int .u64 r111)) (by kernel_rfl) (by kernel_rfl) (Quiet.does (k_load 0 1 (by kernel_rfl) Try.underlying64 (by kernel_rfl) (by kernel_rfl))) ?_
  refine oOp (.d (.bool (r111 != 0))) (by kernel_rfl) (by kernel_rfl) (PureV.does (p_int (k := .u64) (p := r111) (q := 0) (by kernel_rfl) (by kernel_rfl) (by kernel_rfl))) ?_
  refine oOp (.d (.bool (r111 != 0))) (by kernel_rfl) (by kernel_rfl) (PureV.does (p_move (by kernel_rfl))) ?_
  refine bMeet 4 rfl ((uc fun (den4 : Int) => (fun (x4 : Bool) => [(1, .d (.int .u64 den4)), (2, .ptr 0 0), (4, .ptr 1 0), (29, .d (.bool x4))]))) ((uc fun (den4 : Int) => (fun (x4 : Bool) => [.box [.d (.bool num0), .d (.int .u64 r111), .d (.int .u64 r13)], .box [.d (.int .i64 0), .d (.int .i64 0)]]))) (fun s => s) (fun s => ?_) (fun hj4 => ?_)
  ·obtain ⟨den4, x4⟩ := s
   refine bUc ?_
   refine oView (T' := [(1, .d (.int .u64 den4)), (2, .ptr 0 0), (4, .ptr 1 0), (29, .d (.bool x4))]) (H' := [.box [.d (.bool num0), .d (.int .u64 r111), .d (.int .u64 r13)], .box [.d (.int .i64 0), .d (.int .i64 0)]]) (by kernel_rfl) (by kernel_rfl) ?_
   refine oOp (.d (.bool x4)) (by kernel_rfl) (by kernel_rfl) (PureV.does (p_move (by kernel_rfl))) ?_
   refine bMeetF (H' := [.box [.d (.bool num0), .d (.int .u64 r111), .d (.int .u64 r13)], .box [.d (.int .i64 0), .d (.int .i64 0)]]) 3 rfl ((fun (x5 : Bool) => [(1, .d (.int .u64 den4)), (2, .ptr 0 0), (4, .ptr 1 0), (33, .d (.bool x5))])) (fun x5 => ?_) (fun F hj2 => ?_)
   ·refine oView (T' := [(1, .d (.int .u64 den4)), (2, .ptr 0 0), (4, .ptr 1 0), (33, .d (.bool x5))]) (H' := [.box [.d (.bool num0), .d (.int .u64 r111), .d (.int .u64 r13)], .box [.d (.int .i64 0), .d (.int .i64 0)]]) (by kernel_rfl) (by kernel_rfl) ?_
    refine oEnd ?_
    refine bSplit 33 (by kernel_rfl) (fun hc => ?_) (fun hc => ?_)
    ·refine oCondT (by kernel_rfl) ?_
     refine oSeq ?_
     refine oRegion rfl ?_
     refine oOp (.agg [.d (.int .i64 0), .d (.int .i64 0)]) (by kernel_rfl) (by kernel_rfl) (PureV.does (p_build bld37 (by kernel_rfl))) ?_
     refine oOp (.undef) (by kernel_rfl) (by kernel_rfl) (k_store (vs := [.d (.int .i64 0), .d (.int .i64 0)]) (H' := [.box [.d (.bool num0), .d (.int .u64 r111), .d (.int .u64 r13)], .box [.d (.int .i64 0), .d (.int .i64 0)]]) 1 0 (by kernel_rfl) ty37 (by kernel_rfl) (by kernel_rfl) (by kernel_rfl)) ?_
     refine oOp (.d (.int .i64 6)) (by kernel_rfl) (by kernel_rfl) (PureV.does (p_assign (by kernel_rfl))) ?_
     refine oEnd ?_
     exact oRet (r0 := (0, 0, 6)) (rv := .tuple [.agg [.d (.int .i64 0), .d (.int .i64 0)], .d (.int .i64 6)]) (B := []) (vs := [.agg [.d (.int .i64 0), .d (.int .i64 0)], .d (.int .i64 6)]) (σ := []) (by kernel_rfl) Try.func72 rfl (.cons _ _ _ _ (.agg 4 37 1 0 [.d (.int .i64 0), .d (.int .i64 0)] [.d (.int .i64 0), .d (.int .i64 0)] _ _ _ _ (by kernel_rfl) (by kernel_rfl) Try.underlying37 (by kernel_rfl) ty37 (by kernel_rfl) (by kernel_rfl)) (.cons _ _ _ _ (.tmp 5 _ (by kernel_rfl)) .nil)) (by kernel_rfl) (by kernel_rfl) (by kernel_rfl) (by kernel_rfl) (by decide) (by kernel_rfl) (by kernel_rfl)
    ·refine oCondF (by kernel_rfl) ?_
     refine oSkip ?_
     refine oSeq ?_
     refine oRegion rfl ?_
     refine oOp (.ptr 0 2) (by kernel_rfl) (by kernel_rfl) (PureV.does (k_fieldAddr 0 0 (by kernel_rfl) Try.underlying80 rfl ty64 (by kernel_rfl))) ?_
     refine oOp (.d (.int .u64 r13)) (by kernel_rfl) (by kernel_rfl) (Quiet.does (k_load 0 2 (by kernel_rfl) Try.underlying64 (by kernel_rfl) (by kernel_rfl))) ?_
     refine oOp (.d (.int .i64 (IntKind.wrap .i64 r13))) (by kernel_rfl) (by kernel_rfl) (PureV.does (p_conv (k := .u64) (p := r13) (by kernel_rfl) Try.underlying64 Try.underlying3 (by kernel_rfl))) ?_
     refine oOp (.d (.int .i64 (IntKind.wrap .i64 r13))) (by kernel_rfl) (by kernel_rfl) (PureV.does (p_assign (by kernel_rfl))) ?_
     refine oEnd ?_
     refine oSeq ?_
     refine oSeq ?_
     refine oRegion rfl ?_
     refine oOp (.ptr 0 0) (by kernel_rfl) (by kernel_rfl) (PureV.does (k_fieldAddr 0 0 (by kernel_rfl) Try.underlying80 rfl ty4 (by kernel_rfl))) ?_
     refine oOp (.d (.bool num0)) (by kernel_rfl) (by kernel_rfl) (Quiet.does (k_load 0 0 (by kernel_rfl) Try.underlying4 (by kernel_rfl) (by kernel_rfl))) ?_
     refine oEnd ?_
     refine bJoin ((fun (n1 : Int) => [(1, .d (.int .u64 den4)), (4, .ptr 0 0), (7, .d (.int .i64 n1))])) ((fun (n1 : Int) => [.box [.d (.int .i64 0), .d (.int .i64 0)]])) (fun s => s) (fun n1 => ?_) (fun hj3 => ?_)
     ·refine oView (T' := [(1, .d (.int .u64 den4)), (4, .ptr 0 0), (7, .d (.int .i64 n1))]) (H' := [.box [.d (.int .i64 0), .d (.int .i64 0)]]) (by kernel_rfl) (by kernel_rfl) ?_
      refine oSeq ?_
      refine oRegion rfl ?_
      refine oOp (.d (.int .i64 n1)) (by kernel_rfl) (by kernel_rfl) (PureV.does (p_move (by kernel_rfl))) ?_
      refine oOp (.d (.int .u64 den4)) (by kernel_rfl) (by kernel_rfl) (PureV.does (p_move (by kernel_rfl))) ?_
      refine oOp (.d (.int .i64 (IntKind.wrap .i64 den4))) (by kernel_rfl) (by kernel_rfl) (PureV.does (p_conv (k := .u64) (p := den4) (by kernel_rfl) Try.underlying64 Try.underlying3 (by kernel_rfl))) ?_
      refine oOp (.agg [.d (.int .i64 n1), .d (.int .i64 (IntKind.wrap .i64 den4))]) (by kernel_rfl) (by kernel_rfl) (PureV.does (p_build bld37 (by kernel_rfl))) ?_
      refine oOp (.undef) (by kernel_rfl) (by kernel_rfl) (k_store (vs := [.d (.int .i64 n1), .d (.int .i64 (IntKind.wrap .i64 den4))]) (H' := [.box [.d (.int .i64 n1), .d (.int .i64 (IntKind.wrap .i64 den4))]]) 0 0 (by kernel_rfl) ty37 (by kernel_rfl) (by kernel_rfl) (by kernel_rfl)) ?_
      refine oOp (.d (.int .i64 0)) (by kernel_rfl) (by kernel_rfl) (PureV.does (p_assign (by kernel_rfl))) ?_
      refine oEnd ?_
      exact oRet (r0 := (n1, (IntKind.wrap .i64 den4), 0)) (rv := .tuple [.agg [.d (.int .i64 n1), .d (.int .i64 (IntKind.wrap .i64 den4))], .d (.int .i64 0)]) (B := []) (vs := [.agg [.d (.int .i64 n1), .d (.int .i64 (IntKind.wrap .i64 den4))], .d (.int .i64 0)]) (σ := []) (by kernel_rfl) Try.func72 rfl (.cons _ _ _ _ (.agg 4 37 0 0 [.d (.int .i64 n1), .d (.int .i64 (IntKind.wrap .i64 den4))] [.d (.int .i64 n1), .d (.int .i64 (IntKind.wrap .i64 den4))] _ _ _ _ (by kernel_rfl) (by kernel_rfl) Try.underlying37 (by kernel_rfl) ty37 (by kernel_rfl) (by kernel_rfl)) (.cons _ _ _ _ (.tmp 5 _ (by kernel_rfl)) .nil)) (by kernel_rfl) (by kernel_rfl) (by kernel_rfl) (by kernel_rfl) (by decide) (by kernel_rfl) (by kernel_rfl)
     ·refine bSplit 39 (by kernel_rfl) (fun hc => ?_) (fun hc => ?_)
      ·refine oCondT (by kernel_rfl) ?_
       refine oRegion rfl ?_
       refine oOp (.d (.int .i64 (IntKind.wrap .i64 r13))) (by kernel_rfl) (by kernel_rfl) (PureV.does (p_move (by kernel_rfl))) ?_
       refine oOp (.d (.int .i64 (IntKind.wrap .i64 (0 - (IntKind.wrap .i64 r13))))) (by kernel_rfl) (by kernel_rfl) (PureV.does (p_neg (k := .i64) (p := (IntKind.wrap .i64 r13)) (by kernel_rfl) (by kernel_rfl))) ?_
       refine oOp (.d (.int .i64 (IntKind.wrap .i64 (0 - (IntKind.wrap .i64 r13))))) (by kernel_rfl) (by kernel_rfl) (PureV.does (p_assign (by kernel_rfl))) ?_
       refine oEnd ?_
       refine oHead [1, 4, 7] [1] (T' := [(1, .d (.int .u64 den4)), (4, .ptr 0 0), (7, .d (.int .i64 (IntKind.wrap .i64 (0 - (IntKind.wrap .i64 r13)))))]) (H' := [.box [.d (.int .i64 0), .d (.int .i64 0)]]) (by kernel_rfl) (by kernel_rfl) (by kernel_rfl) (by kernel_rfl) (by decide) (by kernel_rfl) (by kernel_rfl) ?_
       exact hj3 (IntKind.wrap .i64 (0 - (IntKind.wrap .i64 r13)))
      ·refine oCondF (by kernel_rfl) ?_
       refine oSkip ?_
       refine oHead [1, 4, 7] [1] (T' := [(1, .d (.int .u64 den4)), (4, .ptr 0 0), (7, .d (.int .i64 (IntKind.wrap .i64 r13)))]) (H' := [.box [.d (.int .i64 0), .d (.int .i64 0)]]) (by kernel_rfl) (by kernel_rfl) (by kernel_rfl) (by kernel_rfl) (by decide) (by kernel_rfl) (by kernel_rfl) ?_
       exact hj3 (IntKind.wrap .i64 r13)
   ·refine bPickF 30 (fun c => F (c || (decide (den4 > 1152921504606846976)))) (by kernel_rfl) (fun hc => ?_) (fun hc => ?_)
    ·refine oNot (by kernel_rfl) (by kernel_rfl) ?_
     refine oNot (by kernel_rfl) (by kernel_rfl) ?_
     refine oOp (.d (.bool true)) (by kernel_rfl) (by kernel_rfl) (PureV.does (p_pick (b := true) (by kernel_rfl) (by kernel_rfl))) ?_
     refine oHead [1, 2, 4, 33] [0, 1] (T' := [(1, .d (.int .u64 den4)), (2, .ptr 0 0), (4, .ptr 1 0), (33, .d (.bool true))]) (H' := [.box [.d (.bool num0), .d (.int .u64 r111), .d (.int .u64 r13)], .box [.d (.int .i64 0), .d (.int .i64 0)]]) (by kernel_rfl) (by kernel_rfl) (by kernel_rfl) (by kernel_rfl) (by decide) (by kernel_rfl) (by kernel_rfl) ?_
     exact hj2 true
    ·refine oOp (.d (.int .u64 den4)) (by kernel_rfl) (by kernel_rfl) (PureV.does (p_move (by kernel_rfl))) ?_
     refine oOp (.d (.bool (decide (den4 > 1152921504606846976)))) (by kernel_rfl) (by kernel_rfl) (PureV.does (p_int (k := .u64) (p := den4) (q := 1152921504606846976) (by kernel_rfl) (by kernel_rfl) (by kernel_rfl))) ?_
     refine oOp (.d (.bool (decide (den4 > 1152921504606846976)))) (by kernel_rfl) (by kernel_rfl) (PureV.does (p_pick (b := false) (by kernel_rfl) (by kernel_rfl))) ?_
     refine oHead [1, 2, 4, 33] [0, 1] (T' := [(1, .d (.int .u64 den4)), (2, .ptr 0 0), (4, .ptr 1 0), (33, .d (.bool (decide (den4 > 1152921504606846976))))]) (H' := [.box [.d (.bool num0), .d (.int .u64 r111), .d (.int .u64 r13)], .box [.d (.int .i64 0), .d (.int .i64 0)]]) (by kernel_rfl) (by kernel_rfl) (by kernel_rfl) (by kernel_rfl) (by decide) (by kernel_rfl) (by kernel_rfl) ?_
     exact hj2 (decide (den4 > 1152921504606846976))
  ·refine bSplit 25 (by kernel_rfl) (fun hc => ?_) (fun hc => ?_)
   ·refine oNot (by kernel_rfl) (by kernel_rfl) ?_
    refine oNot (by kernel_rfl) (by kernel_rfl) ?_
    refine oNot (by kernel_rfl) (by kernel_rfl) ?_
    refine oOp (.d (.bool true)) (by kernel_rfl) (by kernel_rfl) (PureV.does (p_pick (b := true) (by kernel_rfl) (by kernel_rfl))) ?_
    refine oHead [1, 2, 4, 29] [0, 1] (T' := [(1, .d (.int .u64 (IntKind.wrap .u64 (Int.tdiv den r16)))), (2, .ptr 0 0), (4, .ptr 1 0), (29, .d (.bool true))]) (H' := [.box [.d (.bool num0), .d (.int .u64 r111), .d (.int .u64 r13)], .box [.d (.int .i64 0), .d (.int .i64 0)]]) (by kernel_rfl) (by kernel_rfl) (by kernel_rfl) (by kernel_rfl) (by decide) (by kernel_rfl) (by kernel_rfl) ?_
    exact hj4 ((IntKind.wrap .u64 (Int.tdiv den r16)), true)
   ·refine oOp (.ptr 0 2) (by kernel_rfl) (by kernel_rfl) (PureV.does (k_fieldAddr 0 0 (by kernel_rfl) Try.underlying80 rfl ty64 (by kernel_rfl))) ?_
    refine oOp (.d (.int .u64 r13)) (by kernel_rfl) (by kernel_rfl) (Quiet.does (k_load 0 2 (by kernel_rfl) Try.underlying64 (by kernel_rfl) (by kernel_rfl))) ?_
    refine oOp (.d (.bool (decide (r13 > 1152921504606846976)))) (by kernel_rfl) (by kernel_rfl) (PureV.does (p_int (k := .u64) (p := r13) (q := 1152921504606846976) (by kernel_rfl) (by kernel_rfl) (by kernel_rfl))) ?_
    refine oOp (.d (.bool (decide (r13 > 1152921504606846976)))) (by kernel_rfl) (by kernel_rfl) (PureV.does (p_pick (b := false) (by kernel_rfl) (by kernel_rfl))) ?_
    refine oHead [1, 2, 4, 29] [0, 1] (T' := [(1, .d (.int .u64 (IntKind.wrap .u64 (Int.tdiv den r16)))), (2, .ptr 0 0), (4, .ptr 1 0), (29, .d (.bool (decide (r13 > 1152921504606846976))))]) (H' := [.box [.d (.bool num0), .d (.int .u64 r111), .d (.int .u64 r13)], .box [.d (.int .i64 0), .d (.int .i64 0)]]) (by kernel_rfl) (by kernel_rfl) (by kernel_rfl) (by kernel_rfl) (by decide) (by kernel_rfl) (by kernel_rfl) ?_
    exact hj4 ((IntKind.wrap .u64 (Int.tdiv den r16)), (decide (r13 > 1152921504606846976)))

end Go.VM
