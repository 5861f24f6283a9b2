/- Plain functions that answer as the program's functions do, and the proof that they do. -/
import Derived.Test.YtmnpognjbfjhbaaProg
import Derived.KernelRfl
import Derived.Test.YtmnpognjbfjhbaaEngOM
import Derived.Test.YtmnpognjbfjhbaaSmFacts
import Derived.Test.YtmnpognjbfjhbaaSmFuns0
import Derived.Test.YtmnpognjbfjhbaaSmFuns1
import Derived.Test.YtmnpognjbfjhbaaSmFuns2
namespace Go.VM
open Go.Proofs
set_option linter.unusedVariables false
set_option linter.unusedSimpArgs false
set_option maxRecDepth 100000
/-- awardingbody/awardingbodyref01.Reduce -/
def ref01_Reduce (k : Nat) (negative : Bool) (num0 : Int) (num1 : Int) (den0 : Int) (den1 : Int) : Option (Int × Int × Int) := Option.bind (ref01_Divisor k num0 num1 den0 den1) (uc fun r15 => fun r111 => Option.bind (ref01_Divide k num0 num1 r15 r111) (uc fun r172 => uc fun r182 => uc fun r192 => fun r1102 => Option.bind (ref01_Divide k den0 den1 r15 r111) (uc fun r173 => uc fun r183 => uc fun r193 => fun r1103 => blet ((decide (r172 > 0)) || (decide (r173 > 0))) fun x5 => blet (x5 || (decide (r182 > 1152921504606846976))) fun x6 => blet (x6 || (decide (r183 > 1152921504606846976))) fun x7 => bif x7 then some (0, 0, 6) else Option.bind (bif negative then some ((IntKind.wrap .i64 (0 - (IntKind.wrap .i64 r182))), (IntKind.wrap .i64 r183)) else some ((IntKind.wrap .i64 r182), (IntKind.wrap .i64 r183)) : Option (Int × Int)) (uc fun x8 => fun x9 => some (x8, x9, 0)))))
def ref01_Reduce_E (negative : Bool) (num0 : Int) (num1 : Int) (den0 : Int) (den1 : Int) : Int × Int × Int → V × List Blk := uc fun r12 => uc fun r13 => fun r14 => (.tuple [.agg [.d (.int .i64 r12), .d (.int .i64 r13)], .d (.int .i64 r14)], [])
theorem ref01_Reduce_goes (k : Nat) (negative : Bool) (num0 : Int) (num1 : Int) (den0 : Int) (den1 : Int) : RunsO Try.prog 41 [.d (.bool negative), .agg [.d (.int .u64 num0), .d (.int .u64 num1)], .agg [.d (.int .u64 den0), .d (.int .u64 den1)]] [] (ref01_Reduce_E negative num0 num1 den0 den1) (ref01_Reduce k negative num0 num1 den0 den1) := by
  refine RunsO.of_goes (N := 61) (m := 0) (T := [(0, .d (.bool negative)), (1, .agg [.d (.int .u64 num0), .d (.int .u64 num1)]), (2, .agg [.d (.int .u64 den0), .d (.int .u64 den1)])]) Try.func41 rfl rfl (h := ?_)
  unfold ref01_Reduce
  refine bStart ?_
  refine oSR rfl ?_
  refine oD (.ptr 0 0) (k_box (H' := [.box [.d (.int .u64 num0), .d (.int .u64 num1)]]) (cells := [.d (.int .u64 num0), .d (.int .u64 num1)])) ?_
  refine oD (.ptr 1 0) (k_box (H' := [.box [.d (.int .u64 num0), .d (.int .u64 num1)], .box [.d (.int .u64 den0), .d (.int .u64 den1)]]) (cells := [.d (.int .u64 den0), .d (.int .u64 den1)])) ?_
  refine oD (.ptr 2 0) (k_alloc (H' := [.box [.d (.int .u64 num0), .d (.int .u64 num1)], .box [.d (.int .u64 den0), .d (.int .u64 den1)], .box [.d (.int .i64 0), .d (.int .i64 0)]]) ty31) ?_
  refine oP (.d (.int .i64 0)) p_assign ?_
  refine oEnd ?_
  refine oSR rfl ?_
  refine oQ (.agg [.d (.int .u64 num0), .d (.int .u64 num1)]) (k_loadAgg 0 0 (hu := Try.underlying64) (hi := ty64)) ?_
  refine oQ (.agg [.d (.int .u64 den0), .d (.int .u64 den1)]) (k_loadAgg 1 0 (hu := Try.underlying64) (hi := ty64)) ?_
  refine bCall (caps := []) (v := (uc fun (r15 : Int) => (fun (r111 : Int) => (.agg [.d (.int .u64 r15), .d (.int .u64 r111)] : V)))) (H' := (uc fun (r15 : Int) => (fun (r111 : Int) => ([.box [.d (.int .u64 num0), .d (.int .u64 num1)], .box [.d (.int .u64 den0), .d (.int .u64 den1)], .box [.d (.int .i64 0), .d (.int .i64 0)]] : List Blk)))) [] _ (ref01_Divisor_goes k num0 num1 den0 den1) (ho := rfl) (hfn := Try.func59) (hb := rfl) (hconv := ConvRs.refl _ _) (hnd := by decide) (hBl := fun _ => (by kernel_rfl)) (hv := fun _ => (by kernel_rfl)) (hH' := fun _ => (by kernel_rfl)) (h := fun r => ?_)
  obtain ⟨r15, r111⟩ := r
  refine bUc ?_
  refine oD (.ptr 3 0) (k_alloc (H' := [.box [.d (.int .u64 num0), .d (.int .u64 num1)], .box [.d (.int .u64 den0), .d (.int .u64 den1)], .box [.d (.int .i64 0), .d (.int .i64 0)], .box [.d (.int .u64 0), .d (.int .u64 0)]]) ty64) ?_
  refine oD (.undef) (k_store (vs := [.d (.int .u64 r15), .d (.int .u64 r111)]) (H' := [.box [.d (.int .u64 num0), .d (.int .u64 num1)], .box [.d (.int .u64 den0), .d (.int .u64 den1)], .box [.d (.int .i64 0), .d (.int .i64 0)], .box [.d (.int .u64 r15), .d (.int .u64 r111)]]) 3 0 (hi := ty64)) ?_
  refine oEnd ?_
  refine oSR rfl ?_
  refine oQ (.agg [.d (.int .u64 num0), .d (.int .u64 num1)]) (k_loadAgg 0 0 (hu := Try.underlying64) (hi := ty64)) ?_
  refine oQ (.agg [.d (.int .u64 r15), .d (.int .u64 r111)]) (k_loadAgg 3 0 (hu := Try.underlying64) (hi := ty64)) ?_
  refine bCall (caps := []) (v := (uc fun (r172 : Int) => (uc fun (r182 : Int) => (uc fun (r192 : Int) => (fun (r1102 : Int) => (.tuple [.agg [.d (.int .u64 r172), .d (.int .u64 r182)], .agg [.d (.int .u64 r192), .d (.int .u64 r1102)]] : V)))))) (H' := (uc fun (r172 : Int) => (uc fun (r182 : Int) => (uc fun (r192 : Int) => (fun (r1102 : Int) => ([.box [.d (.int .u64 num0), .d (.int .u64 num1)], .box [.d (.int .u64 den0), .d (.int .u64 den1)], .box [.d (.int .i64 0), .d (.int .i64 0)], .box [.d (.int .u64 r15), .d (.int .u64 r111)]] : List Blk)))))) [] _ (ref01_Divide_goes k num0 num1 r15 r111) (ho := rfl) (hfn := Try.func60) (hb := rfl) (hconv := ConvRs.refl _ _) (hnd := by decide) (hBl := fun _ => (by kernel_rfl)) (hv := fun _ => (by kernel_rfl)) (hH' := fun _ => (by kernel_rfl)) (h := fun r => ?_)
  obtain ⟨r172, r182, r192, r1102⟩ := r
  refine bUc ?_
  refine bUc ?_
  refine bUc ?_
  refine oP (.tuple [.agg [.d (.int .u64 r172), .d (.int .u64 r182)], .agg [.d (.int .u64 r192), .d (.int .u64 r1102)]]) p_move ?_
  refine oP (.agg [.d (.int .u64 r172), .d (.int .u64 r182)]) k_extract ?_
  refine oP (.agg [.d (.int .u64 r192), .d (.int .u64 r1102)]) k_extract ?_
  refine oD (.ptr 4 0) (k_alloc (H' := [.box [.d (.int .u64 num0), .d (.int .u64 num1)], .box [.d (.int .u64 den0), .d (.int .u64 den1)], .box [.d (.int .i64 0), .d (.int .i64 0)], .box [.d (.int .u64 r15), .d (.int .u64 r111)], .box [.d (.int .u64 0), .d (.int .u64 0)]]) ty64) ?_
  refine oD (.ptr 5 0) (k_alloc (H' := [.box [.d (.int .u64 num0), .d (.int .u64 num1)], .box [.d (.int .u64 den0), .d (.int .u64 den1)], .box [.d (.int .i64 0), .d (.int .i64 0)], .box [.d (.int .u64 r15), .d (.int .u64 r111)], .box [.d (.int .u64 0), .d (.int .u64 0)], .box [.d (.int .u64 0), .d (.int .u64 0)]]) ty64) ?_
  refine oD (.undef) (k_store (vs := [.d (.int .u64 r172), .d (.int .u64 r182)]) (H' := [.box [.d (.int .u64 num0), .d (.int .u64 num1)], .box [.d (.int .u64 den0), .d (.int .u64 den1)], .box [.d (.int .i64 0), .d (.int .i64 0)], .box [.d (.int .u64 r15), .d (.int .u64 r111)], .box [.d (.int .u64 r172), .d (.int .u64 r182)], .box [.d (.int .u64 0), .d (.int .u64 0)]]) 4 0 (hi := ty64)) ?_
  refine oD (.undef) (k_store (vs := [.d (.int .u64 r192), .d (.int .u64 r1102)]) (H' := [.box [.d (.int .u64 num0), .d (.int .u64 num1)], .box [.d (.int .u64 den0), .d (.int .u64 den1)], .box [.d (.int .i64 0), .d (.int .i64 0)], .box [.d (.int .u64 r15), .d (.int .u64 r111)], .box [.d (.int .u64 r172), .d (.int .u64 r182)], .box [.d (.int .u64 r192), .d (.int .u64 r1102)]]) 5 0 (hi := ty64)) ?_
  refine oEnd ?_
  refine oSR rfl ?_
  refine oQ (.agg [.d (.int .u64 den0), .d (.int .u64 den1)]) (k_loadAgg 1 0 (hu := Try.underlying64) (hi := ty64)) ?_
  refine oQ (.agg [.d (.int .u64 r15), .d (.int .u64 r111)]) (k_loadAgg 3 0 (hu := Try.underlying64) (hi := ty64)) ?_
  refine bCall (caps := []) (v := (uc fun (r173 : Int) => (uc fun (r183 : Int) => (uc fun (r193 : Int) => (fun (r1103 : Int) => (.tuple [.agg [.d (.int .u64 r173), .d (.int .u64 r183)], .agg [.d (.int .u64 r193), .d (.int .u64 r1103)]] : V)))))) (H' := (uc fun (r173 : Int) => (uc fun (r183 : Int) => (uc fun (r193 : Int) => (fun (r1103 : Int) => ([.box [.d (.int .u64 num0), .d (.int .u64 num1)], .box [.d (.int .u64 den0), .d (.int .u64 den1)], .box [.d (.int .i64 0), .d (.int .i64 0)], .box [.d (.int .u64 r15), .d (.int .u64 r111)], .box [.d (.int .u64 r172), .d (.int .u64 r182)], .box [.d (.int .u64 r192), .d (.int .u64 r1102)]] : List Blk)))))) [] _ (ref01_Divide_goes k den0 den1 r15 r111) (ho := rfl) (hfn := Try.func60) (hb := rfl) (hconv := ConvRs.refl _ _) (hnd := by decide) (hBl := fun _ => (by kernel_rfl)) (hv := fun _ => (by kernel_rfl)) (hH' := fun _ => (by kernel_rfl)) (h := fun r => ?_)
  obtain ⟨r173, r183, r193, r1103⟩ := r
  refine bUc ?_
  refine bUc ?_
  refine bUc ?_
  refine oP (.tuple [.agg [.d (.int .u64 r173), .d (.int .u64 r183)], .agg [.d (.int .u64 r193), .d (.int .u64 r1103)]]) p_move ?_
  refine oP (.agg [.d (.int .u64 r173), .d (.int .u64 r183)]) k_extract ?_
  refine oP (.agg [.d (.int .u64 r193), .d (.int .u64 r1103)]) k_extract ?_
  refine oD (.ptr 6 0) (k_alloc (H' := [.box [.d (.int .u64 num0), .d (.int .u64 num1)], .box [.d (.int .u64 den0), .d (.int .u64 den1)], .box [.d (.int .i64 0), .d (.int .i64 0)], .box [.d (.int .u64 r15), .d (.int .u64 r111)], .box [.d (.int .u64 r172), .d (.int .u64 r182)], .box [.d (.int .u64 r192), .d (.int .u64 r1102)], .box [.d (.int .u64 0), .d (.int .u64 0)]]) ty64) ?_
  refine oD (.ptr 7 0) (k_alloc (H' := [.box [.d (.int .u64 num0), .d (.int .u64 num1)], .box [.d (.int .u64 den0), .d (.int .u64 den1)], .box [.d (.int .i64 0), .d (.int .i64 0)], .box [.d (.int .u64 r15), .d (.int .u64 r111)], .box [.d (.int .u64 r172), .d (.int .u64 r182)], .box [.d (.int .u64 r192), .d (.int .u64 r1102)], .box [.d (.int .u64 0), .d (.int .u64 0)], .box [.d (.int .u64 0), .d (.int .u64 0)]]) ty64) ?_
  refine oD (.undef) (k_store (vs := [.d (.int .u64 r173), .d (.int .u64 r183)]) (H' := [.box [.d (.int .u64 num0), .d (.int .u64 num1)], .box [.d (.int .u64 den0), .d (.int .u64 den1)], .box [.d (.int .i64 0), .d (.int .i64 0)], .box [.d (.int .u64 r15), .d (.int .u64 r111)], .box [.d (.int .u64 r172), .d (.int .u64 r182)], .box [.d (.int .u64 r192), .d (.int .u64 r1102)], .box [.d (.int .u64 r173), .d (.int .u64 r183)], .box [.d (.int .u64 0), .d (.int .u64 0)]]) 6 0 (hi := ty64)) ?_
  refine oD (.undef) (k_store (vs := [.d (.int .u64 r193), .d (.int .u64 r1103)]) (H' := [.box [.d (.int .u64 num0), .d (.int .u64 num1)], .box [.d (.int .u64 den0), .d (.int .u64 den1)], .box [.d (.int .i64 0), .d (.int .i64 0)], .box [.d (.int .u64 r15), .d (.int .u64 r111)], .box [.d (.int .u64 r172), .d (.int .u64 r182)], .box [.d (.int .u64 r192), .d (.int .u64 r1102)], .box [.d (.int .u64 r173), .d (.int .u64 r183)], .box [.d (.int .u64 r193), .d (.int .u64 r1103)]]) 7 0 (hi := ty64)) ?_
  refine oEnd ?_
  refine oSeq ?_
  refine oSR rfl ?_
  refine oP (.ptr 4 0) (k_fieldAddr 4 0 (hu := Try.underlying64) (hf := rfl) (hi := ty61)) ?_
  refine oQ (.d (.int .u64 r172)) (k_load 4 0 (hu := Try.underlying61)) ?_
  refine oP (.d (.bool (decide (r172 > 0)))) (p_int (k := .u64) (p := r172) (q := 0)) ?_
  refine oP (.d (.bool (decide (r172 > 0)))) p_move ?_
  refine bMeetF (H' := [.box [.d (.int .i64 0), .d (.int .i64 0)], .box [.d (.int .u64 r172), .d (.int .u64 r182)], .box [.d (.int .u64 r173), .d (.int .u64 r183)]]) 4 rfl ((fun (x5 : Bool) => [(0, .d (.bool negative)), (6, .ptr 0 0), (9, .ptr 1 0), (11, .ptr 2 0), (36, .d (.bool x5))])) (fun x5 => ?_) (fun F hj2 => ?_)
  ·refine oView (T' := [(0, .d (.bool negative)), (6, .ptr 0 0), (9, .ptr 1 0), (11, .ptr 2 0), (36, .d (.bool x5))]) (H' := [.box [.d (.int .i64 0), .d (.int .i64 0)], .box [.d (.int .u64 r172), .d (.int .u64 r182)], .box [.d (.int .u64 r173), .d (.int .u64 r183)]]) (h := ?_)
   refine oP (.d (.bool x5)) p_move ?_
   refine bMeetF (H' := [.box [.d (.int .i64 0), .d (.int .i64 0)], .box [.d (.int .u64 r172), .d (.int .u64 r182)], .box [.d (.int .u64 r173), .d (.int .u64 r183)]]) 4 rfl ((fun (x6 : Bool) => [(0, .d (.bool negative)), (6, .ptr 0 0), (9, .ptr 1 0), (11, .ptr 2 0), (41, .d (.bool x6))])) (fun x6 => ?_) (fun F hj3 => ?_)
   ·refine oView (T' := [(0, .d (.bool negative)), (6, .ptr 0 0), (9, .ptr 1 0), (11, .ptr 2 0), (41, .d (.bool x6))]) (H' := [.box [.d (.int .i64 0), .d (.int .i64 0)], .box [.d (.int .u64 r172), .d (.int .u64 r182)], .box [.d (.int .u64 r173), .d (.int .u64 r183)]]) (h := ?_)
    refine oP (.d (.bool x6)) p_move ?_
    refine bMeetF (H' := [.box [.d (.int .i64 0), .d (.int .i64 0)], .box [.d (.int .u64 r172), .d (.int .u64 r182)], .box [.d (.int .u64 r173), .d (.int .u64 r183)]]) 4 rfl ((fun (x7 : Bool) => [(0, .d (.bool negative)), (6, .ptr 0 0), (9, .ptr 1 0), (11, .ptr 2 0), (46, .d (.bool x7))])) (fun x7 => ?_) (fun F hj4 => ?_)
    ·refine oView (T' := [(0, .d (.bool negative)), (6, .ptr 0 0), (9, .ptr 1 0), (11, .ptr 2 0), (46, .d (.bool x7))]) (H' := [.box [.d (.int .i64 0), .d (.int .i64 0)], .box [.d (.int .u64 r172), .d (.int .u64 r182)], .box [.d (.int .u64 r173), .d (.int .u64 r183)]]) (h := ?_)
     refine oEnd ?_
     refine bSplit 46 (h1 := fun hc => ?_) (h2 := fun hc => ?_)
     ·refine oCondT (h := ?_)
      refine oSR rfl ?_
      refine oP (.agg [.d (.int .i64 0), .d (.int .i64 0)]) (p_build bld31) ?_
      refine oD (.undef) (k_store (vs := [.d (.int .i64 0), .d (.int .i64 0)]) (H' := [.box [.d (.int .i64 0), .d (.int .i64 0)], .box [.d (.int .u64 r172), .d (.int .u64 r182)], .box [.d (.int .u64 r173), .d (.int .u64 r183)]]) 0 0 (hi := ty31)) ?_
      refine oP (.d (.int .i64 6)) p_assign ?_
      refine oEnd ?_
      exact oRet (r0 := (0, 0, 6)) (rv := .tuple [.agg [.d (.int .i64 0), .d (.int .i64 0)], .d (.int .i64 6)]) (B := []) (vs := [.agg [.d (.int .i64 0), .d (.int .i64 0)], .d (.int .i64 6)]) (σ := []) (hf := Try.func41) (hrs := rfl) (hres := .cons _ _ _ _ (.agg 6 31 0 0 [.d (.int .i64 0), .d (.int .i64 0)] [.d (.int .i64 0), .d (.int .i64 0)] _ _ _ _ (by kernel_rfl) (by kernel_rfl) Try.underlying31 (by kernel_rfl) ty31 (by kernel_rfl) (by kernel_rfl)) (.cons _ _ _ _ (.tmp 7 _ (by kernel_rfl)) .nil)) (hnd := by decide)
     ·refine oCondF (h := ?_)
      refine oSkip ?_
      refine oSR rfl ?_
      refine oP (.ptr 1 1) (k_fieldAddr 1 0 (hu := Try.underlying64) (hf := rfl) (hi := ty61)) ?_
      refine oQ (.d (.int .u64 r182)) (k_load 1 1 (hu := Try.underlying61)) ?_
      refine oP (.d (.int .i64 (IntKind.wrap .i64 r182))) (p_conv (k := .u64) (p := r182) (hu1 := Try.underlying61) (hu2 := Try.underlying3)) ?_
      refine oP (.ptr 2 1) (k_fieldAddr 2 0 (hu := Try.underlying64) (hf := rfl) (hi := ty61)) ?_
      refine oQ (.d (.int .u64 r183)) (k_load 2 1 (hu := Try.underlying61)) ?_
      refine oP (.d (.int .i64 (IntKind.wrap .i64 r183))) (p_conv (k := .u64) (p := r183) (hu1 := Try.underlying61) (hu2 := Try.underlying3)) ?_
      refine oP (.agg [.d (.int .i64 (IntKind.wrap .i64 r182)), .d (.int .i64 (IntKind.wrap .i64 r183))]) (p_build bld31) ?_
      refine oD (.ptr 3 0) (k_alloc (H' := [.box [.d (.int .i64 0), .d (.int .i64 0)], .box [.d (.int .u64 r172), .d (.int .u64 r182)], .box [.d (.int .u64 r173), .d (.int .u64 r183)], .box [.d (.int .i64 0), .d (.int .i64 0)]]) ty31) ?_
      refine oD (.undef) (k_store (vs := [.d (.int .i64 (IntKind.wrap .i64 r182)), .d (.int .i64 (IntKind.wrap .i64 r183))]) (H' := [.box [.d (.int .i64 0), .d (.int .i64 0)], .box [.d (.int .u64 r172), .d (.int .u64 r182)], .box [.d (.int .u64 r173), .d (.int .u64 r183)], .box [.d (.int .i64 (IntKind.wrap .i64 r182)), .d (.int .i64 (IntKind.wrap .i64 r183))]]) 3 0 (hi := ty31)) ?_
      refine oEnd ?_
      refine oSeq ?_
      refine oSR rfl ?_
      refine oP (.d (.bool negative)) p_move ?_
      refine oEnd ?_
      refine bJoin ((uc fun (x8 : Int) => (fun (x9 : Int) => [(6, .ptr 0 0), (13, .ptr 1 0)]))) ((uc fun (x8 : Int) => (fun (x9 : Int) => [.box [.d (.int .i64 0), .d (.int .i64 0)], .box [.d (.int .i64 x8), .d (.int .i64 x9)]]))) (fun s => s) (fun s => ?_) (fun hj5 => ?_)
      ·obtain ⟨x8, x9⟩ := s
       refine bUc ?_
       refine oView (T' := [(6, .ptr 0 0), (13, .ptr 1 0)]) (H' := [.box [.d (.int .i64 0), .d (.int .i64 0)], .box [.d (.int .i64 x8), .d (.int .i64 x9)]]) (h := ?_)
       refine oSR rfl ?_
       refine oQ (.agg [.d (.int .i64 x8), .d (.int .i64 x9)]) (k_loadAgg 1 0 (hu := Try.underlying31) (hi := ty31)) ?_
       refine oD (.undef) (k_store (vs := [.d (.int .i64 x8), .d (.int .i64 x9)]) (H' := [.box [.d (.int .i64 x8), .d (.int .i64 x9)], .box [.d (.int .i64 x8), .d (.int .i64 x9)]]) 0 0 (hi := ty31)) ?_
       refine oP (.d (.int .i64 0)) p_assign ?_
       refine oEnd ?_
       exact oRet (r0 := (x8, x9, 0)) (rv := .tuple [.agg [.d (.int .i64 x8), .d (.int .i64 x9)], .d (.int .i64 0)]) (B := []) (vs := [.agg [.d (.int .i64 x8), .d (.int .i64 x9)], .d (.int .i64 0)]) (σ := []) (hf := Try.func41) (hrs := rfl) (hres := .cons _ _ _ _ (.agg 6 31 0 0 [.d (.int .i64 x8), .d (.int .i64 x9)] [.d (.int .i64 x8), .d (.int .i64 x9)] _ _ _ _ (by kernel_rfl) (by kernel_rfl) Try.underlying31 (by kernel_rfl) ty31 (by kernel_rfl) (by kernel_rfl)) (.cons _ _ _ _ (.tmp 7 _ (by kernel_rfl)) .nil)) (hnd := by decide)
      ·refine bSplit 55 (h1 := fun hc => ?_) (h2 := fun hc => ?_)
       ·refine oCondT (h := ?_)
        refine oRegion rfl ?_
        refine oP (.ptr 3 0) (k_fieldAddr 3 0 (hu := Try.underlying31) (hf := rfl) (hi := ty3)) ?_
        refine oQ (.d (.int .i64 (IntKind.wrap .i64 r182))) (k_load 3 0 (hu := Try.underlying3)) ?_
        refine oP (.d (.int .i64 (IntKind.wrap .i64 (0 - (IntKind.wrap .i64 r182))))) (p_neg (k := .i64) (p := (IntKind.wrap .i64 r182))) ?_
        refine oP (.ptr 3 0) (k_fieldAddr 3 0 (hu := Try.underlying31) (hf := rfl) (hi := ty3)) ?_
        refine oD (.undef) (k_store (vs := [.d (.int .i64 (IntKind.wrap .i64 (0 - (IntKind.wrap .i64 r182))))]) (H' := [.box [.d (.int .i64 0), .d (.int .i64 0)], .box [.d (.int .u64 r172), .d (.int .u64 r182)], .box [.d (.int .u64 r173), .d (.int .u64 r183)], .box [.d (.int .i64 (IntKind.wrap .i64 (0 - (IntKind.wrap .i64 r182)))), .d (.int .i64 (IntKind.wrap .i64 r183))]]) 3 0 (hi := ty3)) ?_
        refine oEnd ?_
        refine oHead [6, 13] [0, 3] (T' := [(6, .ptr 0 0), (13, .ptr 1 0)]) (H' := [.box [.d (.int .i64 0), .d (.int .i64 0)], .box [.d (.int .i64 (IntKind.wrap .i64 (0 - (IntKind.wrap .i64 r182)))), .d (.int .i64 (IntKind.wrap .i64 r183))]]) (hnd := by decide) (h := ?_)
        exact hj5 ((IntKind.wrap .i64 (0 - (IntKind.wrap .i64 r182))), (IntKind.wrap .i64 r183))
       ·refine oCondF (h := ?_)
        refine oSkip ?_
        refine oHead [6, 13] [0, 3] (T' := [(6, .ptr 0 0), (13, .ptr 1 0)]) (H' := [.box [.d (.int .i64 0), .d (.int .i64 0)], .box [.d (.int .i64 (IntKind.wrap .i64 r182)), .d (.int .i64 (IntKind.wrap .i64 r183))]]) (hnd := by decide) (h := ?_)
        exact hj5 ((IntKind.wrap .i64 r182), (IntKind.wrap .i64 r183))
    ·refine bPickF 42 (fun c => F (c || (decide (r183 > 1152921504606846976)))) (h1 := fun hc => ?_) (h2 := fun hc => ?_)
     ·refine oNot (h := ?_)
      refine oNot (h := ?_)
      refine oNot (h := ?_)
      refine oP (.d (.bool true)) (p_pick (b := true)) ?_
      refine oHead [0, 6, 9, 11, 46] [0, 1, 2] (T' := [(0, .d (.bool negative)), (6, .ptr 0 0), (9, .ptr 1 0), (11, .ptr 2 0), (46, .d (.bool true))]) (H' := [.box [.d (.int .i64 0), .d (.int .i64 0)], .box [.d (.int .u64 r172), .d (.int .u64 r182)], .box [.d (.int .u64 r173), .d (.int .u64 r183)]]) (hnd := by decide) (h := ?_)
      exact hj4 true
     ·refine oP (.ptr 2 1) (k_fieldAddr 2 0 (hu := Try.underlying64) (hf := rfl) (hi := ty61)) ?_
      refine oQ (.d (.int .u64 r183)) (k_load 2 1 (hu := Try.underlying61)) ?_
      refine oP (.d (.bool (decide (r183 > 1152921504606846976)))) (p_int (k := .u64) (p := r183) (q := 1152921504606846976)) ?_
      refine oP (.d (.bool (decide (r183 > 1152921504606846976)))) (p_pick (b := false)) ?_
      refine oHead [0, 6, 9, 11, 46] [0, 1, 2] (T' := [(0, .d (.bool negative)), (6, .ptr 0 0), (9, .ptr 1 0), (11, .ptr 2 0), (46, .d (.bool (decide (r183 > 1152921504606846976))))]) (H' := [.box [.d (.int .i64 0), .d (.int .i64 0)], .box [.d (.int .u64 r172), .d (.int .u64 r182)], .box [.d (.int .u64 r173), .d (.int .u64 r183)]]) (hnd := by decide) (h := ?_)
      exact hj4 (decide (r183 > 1152921504606846976))
   ·refine bPickF 37 (fun c => F (c || (decide (r182 > 1152921504606846976)))) (h1 := fun hc => ?_) (h2 := fun hc => ?_)
    ·refine oNot (h := ?_)
     refine oNot (h := ?_)
     refine oNot (h := ?_)
     refine oP (.d (.bool true)) (p_pick (b := true)) ?_
     refine oHead [0, 6, 9, 11, 41] [0, 1, 2] (T' := [(0, .d (.bool negative)), (6, .ptr 0 0), (9, .ptr 1 0), (11, .ptr 2 0), (41, .d (.bool true))]) (H' := [.box [.d (.int .i64 0), .d (.int .i64 0)], .box [.d (.int .u64 r172), .d (.int .u64 r182)], .box [.d (.int .u64 r173), .d (.int .u64 r183)]]) (hnd := by decide) (h := ?_)
     exact hj3 true
    ·refine oP (.ptr 1 1) (k_fieldAddr 1 0 (hu := Try.underlying64) (hf := rfl) (hi := ty61)) ?_
     refine oQ (.d (.int .u64 r182)) (k_load 1 1 (hu := Try.underlying61)) ?_
     refine oP (.d (.bool (decide (r182 > 1152921504606846976)))) (p_int (k := .u64) (p := r182) (q := 1152921504606846976)) ?_
     refine oP (.d (.bool (decide (r182 > 1152921504606846976)))) (p_pick (b := false)) ?_
     refine oHead [0, 6, 9, 11, 41] [0, 1, 2] (T' := [(0, .d (.bool negative)), (6, .ptr 0 0), (9, .ptr 1 0), (11, .ptr 2 0), (41, .d (.bool (decide (r182 > 1152921504606846976))))]) (H' := [.box [.d (.int .i64 0), .d (.int .i64 0)], .box [.d (.int .u64 r172), .d (.int .u64 r182)], .box [.d (.int .u64 r173), .d (.int .u64 r183)]]) (hnd := by decide) (h := ?_)
     exact hj3 (decide (r182 > 1152921504606846976))
  ·refine bPickF 32 (fun c => F (c || (decide (r173 > 0)))) (h1 := fun hc => ?_) (h2 := fun hc => ?_)
   ·refine oNot (h := ?_)
    refine oNot (h := ?_)
    refine oNot (h := ?_)
    refine oP (.d (.bool true)) (p_pick (b := true)) ?_
    refine oHead [0, 6, 9, 11, 36] [2, 4, 6] (T' := [(0, .d (.bool negative)), (6, .ptr 0 0), (9, .ptr 1 0), (11, .ptr 2 0), (36, .d (.bool true))]) (H' := [.box [.d (.int .i64 0), .d (.int .i64 0)], .box [.d (.int .u64 r172), .d (.int .u64 r182)], .box [.d (.int .u64 r173), .d (.int .u64 r183)]]) (hnd := by decide) (h := ?_)
    exact hj2 true
   ·refine oP (.ptr 6 0) (k_fieldAddr 6 0 (hu := Try.underlying64) (hf := rfl) (hi := ty61)) ?_
    refine oQ (.d (.int .u64 r173)) (k_load 6 0 (hu := Try.underlying61)) ?_
    refine oP (.d (.bool (decide (r173 > 0)))) (p_int (k := .u64) (p := r173) (q := 0)) ?_
    refine oP (.d (.bool (decide (r173 > 0)))) (p_pick (b := false)) ?_
    refine oHead [0, 6, 9, 11, 36] [2, 4, 6] (T' := [(0, .d (.bool negative)), (6, .ptr 0 0), (9, .ptr 1 0), (11, .ptr 2 0), (36, .d (.bool (decide (r173 > 0))))]) (H' := [.box [.d (.int .i64 0), .d (.int .i64 0)], .box [.d (.int .u64 r172), .d (.int .u64 r182)], .box [.d (.int .u64 r173), .d (.int .u64 r183)]]) (hnd := by decide) (h := ?_)
    exact hj2 (decide (r173 > 0))

/-- awardingbody/awardingbodyref01.New -/
def ref01_New (k : Nat) (num : Int) (den : Int) : Option (Int × Int × Int) := bif (den == 0) then some (0, 0, 2) else Option.bind (ref01_Size k num) (fun r18 => Option.bind (ref01_Size k den) (fun r19 => Option.bind (ref01_Reduce k (!((decide (num < 0)) == (decide (den < 0)))) 0 r18 0 r19) (uc fun r121 => uc fun r131 => fun r141 => some (r121, r131, r141))))
def ref01_New_E (num : Int) (den : Int) : Int × Int × Int → V × List Blk := uc fun r15 => uc fun r16 => fun r17 => (.tuple [.agg [.d (.int .i64 r15), .d (.int .i64 r16)], .d (.int .i64 r17)], [])
theorem ref01_New_goes (k : Nat) (num : Int) (den : Int) : RunsO Try.prog 13 [.d (.int .i64 num), .d (.int .i64 den)] [] (ref01_New_E num den) (ref01_New k num den) := by
  refine RunsO.of_goes (N := 23) (m := 0) (T := [(0, .d (.int .i64 num)), (1, .d (.int .i64 den))]) Try.func13 rfl rfl (h := ?_)
  unfold ref01_New
  refine bStart ?_
  refine oSR rfl ?_
  refine oD (.ptr 0 0) (k_alloc (H' := [.box [.d (.int .i64 0), .d (.int .i64 0)]]) ty31) ?_
  refine oP (.d (.int .i64 0)) p_assign ?_
  refine oEnd ?_
  refine oSeq ?_
  refine oSR rfl ?_
  refine oP (.d (.int .i64 den)) p_move ?_
  refine oP (.d (.bool (den == 0))) (p_int (k := .i64) (p := den) (q := 0)) ?_
  refine oEnd ?_
  refine bSplit 7 (h1 := fun hc => ?_) (h2 := fun hc => ?_)
  ·refine oCondT (h := ?_)
   refine oSR rfl ?_
   refine oP (.agg [.d (.int .i64 0), .d (.int .i64 0)]) (p_build bld31) ?_
   refine oD (.undef) (k_store (vs := [.d (.int .i64 0), .d (.int .i64 0)]) (H' := [.box [.d (.int .i64 0), .d (.int .i64 0)]]) 0 0 (hi := ty31)) ?_
   refine oP (.d (.int .i64 2)) p_assign ?_
   refine oEnd ?_
   exact oRet (r0 := (0, 0, 2)) (rv := .tuple [.agg [.d (.int .i64 0), .d (.int .i64 0)], .d (.int .i64 2)]) (B := []) (vs := [.agg [.d (.int .i64 0), .d (.int .i64 0)], .d (.int .i64 2)]) (σ := []) (hf := Try.func13) (hrs := rfl) (hres := .cons _ _ _ _ (.agg 4 31 0 0 [.d (.int .i64 0), .d (.int .i64 0)] [.d (.int .i64 0), .d (.int .i64 0)] _ _ _ _ (by kernel_rfl) (by kernel_rfl) Try.underlying31 (by kernel_rfl) ty31 (by kernel_rfl) (by kernel_rfl)) (.cons _ _ _ _ (.tmp 5 _ (by kernel_rfl)) .nil)) (hnd := by decide)
  ·refine oCondF (h := ?_)
   refine oSkip ?_
   refine oSR rfl ?_
   refine oP (.d (.int .i64 num)) p_move ?_
   refine oP (.d (.bool (decide (num < 0)))) (p_int (k := .i64) (p := num) (q := 0)) ?_
   refine oP (.d (.int .i64 den)) p_move ?_
   refine oP (.d (.bool (decide (den < 0)))) (p_int (k := .i64) (p := den) (q := 0)) ?_
   refine oP (.d (.bool (!((decide (num < 0)) == (decide (den < 0)))))) (p_boolNe (p := (decide (num < 0))) (q := (decide (den < 0))) (hu := Try.underlying4)) ?_
   refine oP (.d (.int .i64 num)) p_move ?_
   refine bCall (caps := []) (v := (fun (r18 : Int) => (.d (.int .u64 r18) : V))) (H' := (fun (r18 : Int) => ([.box [.d (.int .i64 0), .d (.int .i64 0)]] : List Blk))) [] _ (ref01_Size_goes k num) (ho := rfl) (hfn := Try.func42) (hb := rfl) (hconv := ConvRs.refl _ _) (hnd := by decide) (hBl := fun _ => (by kernel_rfl)) (hv := fun _ => (by kernel_rfl)) (hH' := fun _ => (by kernel_rfl)) (h := fun r18 => ?_)
   refine oP (.agg [.d (.int .u64 0), .d (.int .u64 r18)]) (p_build bld64) ?_
   refine oP (.d (.int .i64 den)) p_move ?_
   refine bCall (caps := []) (v := (fun (r19 : Int) => (.d (.int .u64 r19) : V))) (H' := (fun (r19 : Int) => ([.box [.d (.int .i64 0), .d (.int .i64 0)]] : List Blk))) [] _ (ref01_Size_goes k den) (ho := rfl) (hfn := Try.func42) (hb := rfl) (hconv := ConvRs.refl _ _) (hnd := by decide) (hBl := fun _ => (by kernel_rfl)) (hv := fun _ => (by kernel_rfl)) (hH' := fun _ => (by kernel_rfl)) (h := fun r19 => ?_)
   refine oP (.agg [.d (.int .u64 0), .d (.int .u64 r19)]) (p_build bld64) ?_
   refine bCall (caps := []) (v := (uc fun (r121 : Int) => (uc fun (r131 : Int) => (fun (r141 : Int) => (.tuple [.agg [.d (.int .i64 r121), .d (.int .i64 r131)], .d (.int .i64 r141)] : V))))) (H' := (uc fun (r121 : Int) => (uc fun (r131 : Int) => (fun (r141 : Int) => ([.box [.d (.int .i64 0), .d (.int .i64 0)]] : List Blk))))) [] _ (ref01_Reduce_goes k (!((decide (num < 0)) == (decide (den < 0)))) 0 r18 0 r19) (ho := rfl) (hfn := Try.func41) (hb := rfl) (hconv := ConvRs.refl _ _) (hnd := by decide) (hBl := fun _ => (by kernel_rfl)) (hv := fun _ => (by kernel_rfl)) (hH' := fun _ => (by kernel_rfl)) (h := fun r => ?_)
   obtain ⟨r121, r131, r141⟩ := r
   refine bUc ?_
   refine bUc ?_
   refine oP (.agg [.d (.int .i64 r121), .d (.int .i64 r131)]) k_extract ?_
   refine oP (.d (.int .i64 r141)) k_extract ?_
   refine oD (.undef) (k_store (vs := [.d (.int .i64 r121), .d (.int .i64 r131)]) (H' := [.box [.d (.int .i64 r121), .d (.int .i64 r131)]]) 0 0 (hi := ty31)) ?_
   refine oP (.d (.int .i64 r141)) p_assign ?_
   refine oEnd ?_
   exact oRet (r0 := (r121, r131, r141)) (rv := .tuple [.agg [.d (.int .i64 r121), .d (.int .i64 r131)], .d (.int .i64 r141)]) (B := []) (vs := [.agg [.d (.int .i64 r121), .d (.int .i64 r131)], .d (.int .i64 r141)]) (σ := []) (hf := Try.func13) (hrs := rfl) (hres := .cons _ _ _ _ (.agg 4 31 0 0 [.d (.int .i64 r121), .d (.int .i64 r131)] [.d (.int .i64 r121), .d (.int .i64 r131)] _ _ _ _ (by kernel_rfl) (by kernel_rfl) Try.underlying31 (by kernel_rfl) ty31 (by kernel_rfl) (by kernel_rfl)) (.cons _ _ _ _ (.tmp 5 _ (by kernel_rfl)) .nil)) (hnd := by decide)

/-- awardingbody/awardingbodyref01.Valid -/
def ref01_Valid (k : Nat) (a0 : Int) (a1 : Int) : Option (Bool) := blet ((decide (a1 < 1)) || (decide (a1 > 1152921504606846976))) fun x3 => blet (x3 || (decide (a0 < (-1152921504606846976)))) fun x4 => blet (x4 || (decide (a0 > 1152921504606846976))) fun x5 => bif x5 then some false else Option.bind (ref01_Size k a0) (fun r1 => Option.bind (ref01_Size k a1) (fun r11 => Option.bind (ref01_Divisor k 0 r1 0 r11) (uc fun r12 => fun r111 => some ((r12 == 0) && ((r111 == 1) && true)))))
def ref01_Valid_E (a0 : Int) (a1 : Int) : Bool → V × List Blk := fun r13 => (.d (.bool r13), [])
theorem ref01_Valid_goes (k : Nat) (a0 : Int) (a1 : Int) : RunsO Try.prog 56 [.agg [.d (.int .i64 a0), .d (.int .i64 a1)]] [] (ref01_Valid_E a0 a1) (ref01_Valid k a0 a1) := by
  refine RunsO.of_goes (N := 32) (m := 0) (T := [(0, .agg [.d (.int .i64 a0), .d (.int .i64 a1)])]) Try.func56 rfl rfl (h := ?_)
  unfold ref01_Valid
  refine bStart ?_
  refine oSR rfl ?_
  refine oD (.ptr 0 0) (k_box (H' := [.box [.d (.int .i64 a0), .d (.int .i64 a1)]]) (cells := [.d (.int .i64 a0), .d (.int .i64 a1)])) ?_
  refine oP (.d (.bool false)) p_assign ?_
  refine oEnd ?_
  refine oSeq ?_
  refine oSR rfl ?_
  refine oP (.ptr 0 1) (k_fieldAddr 0 0 (hu := Try.underlying31) (hf := rfl) (hi := ty3)) ?_
  refine oQ (.d (.int .i64 a1)) (k_load 0 1 (hu := Try.underlying3)) ?_
  refine oP (.d (.bool (decide (a1 < 1)))) (p_int (k := .i64) (p := a1) (q := 1)) ?_
  refine oP (.d (.bool (decide (a1 < 1)))) p_move ?_
  refine bMeetF (H' := [.box [.d (.int .i64 a0), .d (.int .i64 a1)]]) 4 rfl ((fun (x3 : Bool) => [(1, .ptr 0 0), (10, .d (.bool x3))])) (fun x3 => ?_) (fun F hj1 => ?_)
  ·refine oView (T' := [(1, .ptr 0 0), (10, .d (.bool x3))]) (H' := [.box [.d (.int .i64 a0), .d (.int .i64 a1)]]) (h := ?_)
   refine oP (.d (.bool x3)) p_move ?_
   refine bMeetF (H' := [.box [.d (.int .i64 a0), .d (.int .i64 a1)]]) 4 rfl ((fun (x4 : Bool) => [(1, .ptr 0 0), (15, .d (.bool x4))])) (fun x4 => ?_) (fun F hj2 => ?_)
   ·refine oView (T' := [(1, .ptr 0 0), (15, .d (.bool x4))]) (H' := [.box [.d (.int .i64 a0), .d (.int .i64 a1)]]) (h := ?_)
    refine oP (.d (.bool x4)) p_move ?_
    refine bMeetF (H' := [.box [.d (.int .i64 a0), .d (.int .i64 a1)]]) 4 rfl ((fun (x5 : Bool) => [(1, .ptr 0 0), (20, .d (.bool x5))])) (fun x5 => ?_) (fun F hj3 => ?_)
    ·refine oView (T' := [(1, .ptr 0 0), (20, .d (.bool x5))]) (H' := [.box [.d (.int .i64 a0), .d (.int .i64 a1)]]) (h := ?_)
     refine oEnd ?_
     refine bSplit 20 (h1 := fun hc => ?_) (h2 := fun hc => ?_)
     ·refine oCondT (h := ?_)
      refine oSR rfl ?_
      refine oP (.d (.bool false)) p_assign ?_
      refine oEnd ?_
      exact oRet (r0 := false) (rv := .d (.bool false)) (B := []) (vs := [.d (.bool false)]) (σ := []) (hf := Try.func56) (hrs := rfl) (hres := .cons _ _ _ _ (.tmp 2 _ (by kernel_rfl)) .nil) (hnd := by decide)
     ·refine oCondF (h := ?_)
      refine oSkip ?_
      refine oSeq ?_
      refine oDraw [(0, 12)] rfl ?_
      refine aP 0 (.ptr 0 0) rfl (k_fieldAddr 0 0 (hu := Try.underlying31) (hf := rfl) (hi := ty3)) ?_
      refine aQ 1 [0] (.d (.int .i64 a0)) rfl (k_load 0 0 (hu := Try.underlying3)) ?_
      refine aP 4 (.ptr 0 1) rfl (k_fieldAddr 0 0 (hu := Try.underlying31) (hf := rfl) (hi := ty3)) ?_
      refine aQ 5 [0] (.d (.int .i64 a1)) rfl (k_load 0 1 (hu := Try.underlying3)) ?_
      refine aP 9 (.agg [.d (.int .u64 0), .d (.int .u64 1)]) rfl (p_build bld64) ?_
      refine dCall (i := 2) (caps := []) (v := (fun (r1 : Int) => (.d (.int .u64 r1) : V))) (H' := (fun (r1 : Int) => ([.box [.d (.int .i64 a0), .d (.int .i64 a1)]] : List Blk))) [] _ (ref01_Size_goes k a0) rfl (ho := rfl) (hfn := Try.func42) (hb := rfl) (hconv := ConvRs.refl _ _) (hnd := by decide) (hBl := fun _ => (by kernel_rfl)) (hv := fun _ => (by kernel_rfl)) (hH' := fun _ => (by kernel_rfl)) (h := fun r1 => ?_)
      refine aP 3 (.agg [.d (.int .u64 0), .d (.int .u64 r1)]) rfl (p_build bld64) ?_
      refine dCall (i := 6) (caps := []) (v := (fun (r11 : Int) => (.d (.int .u64 r11) : V))) (H' := (fun (r11 : Int) => ([.box [.d (.int .i64 a0), .d (.int .i64 a1)]] : List Blk))) [] _ (ref01_Size_goes k a1) rfl (ho := rfl) (hfn := Try.func42) (hb := rfl) (hconv := ConvRs.refl _ _) (hnd := by decide) (hBl := fun _ => (by kernel_rfl)) (hv := fun _ => (by kernel_rfl)) (hH' := fun _ => (by kernel_rfl)) (h := fun r11 => ?_)
      refine aP 7 (.agg [.d (.int .u64 0), .d (.int .u64 r11)]) rfl (p_build bld64) ?_
      refine dCall (i := 8) (caps := []) (v := (uc fun (r12 : Int) => (fun (r111 : Int) => (.agg [.d (.int .u64 r12), .d (.int .u64 r111)] : V)))) (H' := (uc fun (r12 : Int) => (fun (r111 : Int) => ([.box [.d (.int .i64 a0), .d (.int .i64 a1)]] : List Blk)))) [] _ (ref01_Divisor_goes k 0 r1 0 r11) rfl (ho := rfl) (hfn := Try.func59) (hb := rfl) (hconv := ConvRs.refl _ _) (hnd := by decide) (hBl := fun _ => (by kernel_rfl)) (hv := fun _ => (by kernel_rfl)) (hH' := fun _ => (by kernel_rfl)) (h := fun r => ?_)
      obtain ⟨r12, r111⟩ := r
      refine dUc ?_
      refine aTakeP (i := 10) (.d (.bool ((r12 == 0) && ((r111 == 1) && true)))) rfl (hp := k_eqAgg (hg := Try.eqGuardType64) (h := EqV.struct 1 64 [.d (.int .u64 r12), .d (.int .u64 r111)] [.d (.int .u64 0), .d (.int .u64 1)] _ ((r12 == 0) && ((r111 == 1) && true)) Try.underlying64 Try.stoodInHeld64 (EqF.one 1 1 _ _ _ _ _ _ _ (r12 == 0) ((r111 == 1) && true) (by kernel_rfl) Try.underlying61 (by kernel_rfl) (by kernel_rfl) (by kernel_rfl) (by kernel_rfl) (EqV.int 61 .u64 .u64 r12 0 Try.underlying61) (EqF.one 1 1 _ _ _ _ _ _ _ (r111 == 1) true (by kernel_rfl) Try.underlying61 (by kernel_rfl) (by kernel_rfl) (by kernel_rfl) (by kernel_rfl) (EqV.int 61 .u64 .u64 r111 1 Try.underlying61) (EqF.nil 1 _ _))))) (h := ?_)
      refine aP 11 (.d (.bool ((r12 == 0) && ((r111 == 1) && true)))) rfl p_assign ?_
      refine aDone (h := ?_)
      exact oRet (r0 := ((r12 == 0) && ((r111 == 1) && true))) (rv := .d (.bool ((r12 == 0) && ((r111 == 1) && true)))) (B := []) (vs := [.d (.bool ((r12 == 0) && ((r111 == 1) && true)))]) (σ := []) (hf := Try.func56) (hrs := rfl) (hres := .cons _ _ _ _ (.tmp 2 _ (by kernel_rfl)) .nil) (hnd := by decide)
    ·refine bPickF 16 (fun c => F (c || (decide (a0 > 1152921504606846976)))) (h1 := fun hc => ?_) (h2 := fun hc => ?_)
     ·refine oNot (h := ?_)
      refine oNot (h := ?_)
      refine oNot (h := ?_)
      refine oP (.d (.bool true)) (p_pick (b := true)) ?_
      refine oHead [1, 20] [0] (T' := [(1, .ptr 0 0), (20, .d (.bool true))]) (H' := [.box [.d (.int .i64 a0), .d (.int .i64 a1)]]) (hnd := by decide) (h := ?_)
      exact hj3 true
     ·refine oP (.ptr 0 0) (k_fieldAddr 0 0 (hu := Try.underlying31) (hf := rfl) (hi := ty3)) ?_
      refine oQ (.d (.int .i64 a0)) (k_load 0 0 (hu := Try.underlying3)) ?_
      refine oP (.d (.bool (decide (a0 > 1152921504606846976)))) (p_int (k := .i64) (p := a0) (q := 1152921504606846976)) ?_
      refine oP (.d (.bool (decide (a0 > 1152921504606846976)))) (p_pick (b := false)) ?_
      refine oHead [1, 20] [0] (T' := [(1, .ptr 0 0), (20, .d (.bool (decide (a0 > 1152921504606846976))))]) (H' := [.box [.d (.int .i64 a0), .d (.int .i64 a1)]]) (hnd := by decide) (h := ?_)
      exact hj3 (decide (a0 > 1152921504606846976))
   ·refine bPickF 11 (fun c => F (c || (decide (a0 < (-1152921504606846976))))) (h1 := fun hc => ?_) (h2 := fun hc => ?_)
    ·refine oNot (h := ?_)
     refine oNot (h := ?_)
     refine oNot (h := ?_)
     refine oP (.d (.bool true)) (p_pick (b := true)) ?_
     refine oHead [1, 15] [0] (T' := [(1, .ptr 0 0), (15, .d (.bool true))]) (H' := [.box [.d (.int .i64 a0), .d (.int .i64 a1)]]) (hnd := by decide) (h := ?_)
     exact hj2 true
    ·refine oP (.ptr 0 0) (k_fieldAddr 0 0 (hu := Try.underlying31) (hf := rfl) (hi := ty3)) ?_
     refine oQ (.d (.int .i64 a0)) (k_load 0 0 (hu := Try.underlying3)) ?_
     refine oP (.d (.bool (decide (a0 < (-1152921504606846976))))) (p_int (k := .i64) (p := a0) (q := (-1152921504606846976))) ?_
     refine oP (.d (.bool (decide (a0 < (-1152921504606846976))))) (p_pick (b := false)) ?_
     refine oHead [1, 15] [0] (T' := [(1, .ptr 0 0), (15, .d (.bool (decide (a0 < (-1152921504606846976)))))]) (H' := [.box [.d (.int .i64 a0), .d (.int .i64 a1)]]) (hnd := by decide) (h := ?_)
     exact hj2 (decide (a0 < (-1152921504606846976)))
  ·refine bPickF 6 (fun c => F (c || (decide (a1 > 1152921504606846976)))) (h1 := fun hc => ?_) (h2 := fun hc => ?_)
   ·refine oNot (h := ?_)
    refine oNot (h := ?_)
    refine oNot (h := ?_)
    refine oP (.d (.bool true)) (p_pick (b := true)) ?_
    refine oHead [1, 10] [0] (T' := [(1, .ptr 0 0), (10, .d (.bool true))]) (H' := [.box [.d (.int .i64 a0), .d (.int .i64 a1)]]) (hnd := by decide) (h := ?_)
    exact hj1 true
   ·refine oP (.ptr 0 1) (k_fieldAddr 0 0 (hu := Try.underlying31) (hf := rfl) (hi := ty3)) ?_
    refine oQ (.d (.int .i64 a1)) (k_load 0 1 (hu := Try.underlying3)) ?_
    refine oP (.d (.bool (decide (a1 > 1152921504606846976)))) (p_int (k := .i64) (p := a1) (q := 1152921504606846976)) ?_
    refine oP (.d (.bool (decide (a1 > 1152921504606846976)))) (p_pick (b := false)) ?_
    refine oHead [1, 10] [0] (T' := [(1, .ptr 0 0), (10, .d (.bool (decide (a1 > 1152921504606846976))))]) (H' := [.box [.d (.int .i64 a0), .d (.int .i64 a1)]]) (hnd := by decide) (h := ?_)
    exact hj1 (decide (a1 > 1152921504606846976))

/-- awardingbody/awardingbodyref01.Product -/
def ref01_Product (k : Nat) (a : Int) (b : Int) : Option (Int × Int) := Option.bind (math_bits_Mul64 k a b) (uc fun r14 => fun r111 => some (r14, r111))
def ref01_Product_E (a : Int) (b : Int) : Int × Int → V × List Blk := uc fun r12 => fun r13 => (.agg [.d (.int .u64 r12), .d (.int .u64 r13)], [])
theorem ref01_Product_goes (k : Nat) (a : Int) (b : Int) : RunsO Try.prog 67 [.d (.int .u64 a), .d (.int .u64 b)] [] (ref01_Product_E a b) (ref01_Product k a b) := by
  refine RunsO.of_goes (N := 16) (m := 0) (T := [(0, .d (.int .u64 a)), (1, .d (.int .u64 b))]) Try.func67 rfl rfl (h := ?_)
  unfold ref01_Product
  refine bStart ?_
  refine oSR rfl ?_
  refine oD (.ptr 0 0) (k_alloc (H' := [.box [.d (.int .u64 0), .d (.int .u64 0)]]) ty64) ?_
  refine oEnd ?_
  refine oSR rfl ?_
  refine oP (.d (.int .u64 a)) p_move ?_
  refine oP (.d (.int .u64 b)) p_move ?_
  refine bCall (caps := []) (v := (uc fun (r14 : Int) => (fun (r111 : Int) => (.tuple [.d (.int .u64 r14), .d (.int .u64 r111)] : V)))) (H' := (uc fun (r14 : Int) => (fun (r111 : Int) => ([.box [.d (.int .u64 0), .d (.int .u64 0)]] : List Blk)))) [] _ (math_bits_Mul64_goes k a b) (ho := rfl) (hfn := Try.func77) (hb := rfl) (hconv := ConvRs.refl _ _) (hnd := by decide) (hBl := fun _ => (by kernel_rfl)) (hv := fun _ => (by kernel_rfl)) (hH' := fun _ => (by kernel_rfl)) (h := fun r => ?_)
  obtain ⟨r14, r111⟩ := r
  refine bUc ?_
  refine oP (.tuple [.d (.int .u64 r14), .d (.int .u64 r111)]) p_move ?_
  refine oP (.d (.int .u64 r14)) k_extract ?_
  refine oP (.d (.int .u64 r111)) k_extract ?_
  refine oP (.d (.int .u64 r14)) p_assign ?_
  refine oP (.d (.int .u64 r111)) p_assign ?_
  refine oEnd ?_
  refine oSR rfl ?_
  refine oP (.d (.int .u64 r14)) p_move ?_
  refine oP (.d (.int .u64 r111)) p_move ?_
  refine oP (.agg [.d (.int .u64 r14), .d (.int .u64 r111)]) (p_build bld64) ?_
  refine oD (.undef) (k_store (vs := [.d (.int .u64 r14), .d (.int .u64 r111)]) (H' := [.box [.d (.int .u64 r14), .d (.int .u64 r111)]]) 0 0 (hi := ty64)) ?_
  refine oEnd ?_
  exact oRet (r0 := (r14, r111)) (rv := .agg [.d (.int .u64 r14), .d (.int .u64 r111)]) (B := []) (vs := [.agg [.d (.int .u64 r14), .d (.int .u64 r111)]]) (σ := []) (hf := Try.func67) (hrs := rfl) (hres := .cons _ _ _ _ (.agg 4 64 0 0 [.d (.int .u64 r14), .d (.int .u64 r111)] [.d (.int .u64 r14), .d (.int .u64 r111)] _ _ _ _ (by kernel_rfl) (by kernel_rfl) Try.underlying64 (by kernel_rfl) ty64 (by kernel_rfl) (by kernel_rfl)) .nil) (hnd := by decide)

/-- awardingbody/awardingbodyref01.Plus -/
def ref01_Plus (k : Nat) (a0 : Int) (a1 : Int) (b0 : Int) (b1 : Int) : Option (Unit) := gcarry a1 b1 0 (gcarry a0 b0 ((a1 + b1 + 0) / 18446744073709551616) (some ()))
def ref01_Plus_E (a0 : Int) (a1 : Int) (b0 : Int) (b1 : Int) : Unit → V × List Blk := u0 ((.agg [.d (.int .u64 ((a0 + b0 + ((a1 + b1 + 0) / 18446744073709551616)) % 18446744073709551616)), .d (.int .u64 ((a1 + b1 + 0) % 18446744073709551616))], []))
theorem ref01_Plus_goes (k : Nat) (a0 : Int) (a1 : Int) (b0 : Int) (b1 : Int) : RunsO Try.prog 76 [.agg [.d (.int .u64 a0), .d (.int .u64 a1)], .agg [.d (.int .u64 b0), .d (.int .u64 b1)]] [] (ref01_Plus_E a0 a1 b0 b1) (ref01_Plus k a0 a1 b0 b1) := by
  refine RunsO.of_goes (N := 29) (m := 0) (T := [(0, .agg [.d (.int .u64 a0), .d (.int .u64 a1)]), (1, .agg [.d (.int .u64 b0), .d (.int .u64 b1)])]) Try.func76 rfl rfl (h := ?_)
  unfold ref01_Plus
  refine bStart ?_
  refine oSR rfl ?_
  refine oD (.ptr 0 0) (k_box (H' := [.box [.d (.int .u64 a0), .d (.int .u64 a1)]]) (cells := [.d (.int .u64 a0), .d (.int .u64 a1)])) ?_
  refine oD (.ptr 1 0) (k_box (H' := [.box [.d (.int .u64 a0), .d (.int .u64 a1)], .box [.d (.int .u64 b0), .d (.int .u64 b1)]]) (cells := [.d (.int .u64 b0), .d (.int .u64 b1)])) ?_
  refine oD (.ptr 2 0) (k_alloc (H' := [.box [.d (.int .u64 a0), .d (.int .u64 a1)], .box [.d (.int .u64 b0), .d (.int .u64 b1)], .box [.d (.int .u64 0), .d (.int .u64 0)]]) ty64) ?_
  refine oEnd ?_
  refine oSR rfl ?_
  refine oP (.ptr 0 1) (k_fieldAddr 0 0 (hu := Try.underlying64) (hf := rfl) (hi := ty61)) ?_
  refine oQ (.d (.int .u64 a1)) (k_load 0 1 (hu := Try.underlying61)) ?_
  refine oP (.ptr 1 1) (k_fieldAddr 1 0 (hu := Try.underlying64) (hf := rfl) (hi := ty61)) ?_
  refine oQ (.d (.int .u64 b1)) (k_load 1 1 (hu := Try.underlying61)) ?_
  refine bCarry (fun h12 => ?_)
  refine oP (.tuple [.d (.int .u64 ((a1 + b1 + 0) % 18446744073709551616)), .d (.int .u64 ((a1 + b1 + 0) / 18446744073709551616))]) (p_add64 (p := a1) (q := b1) (c := 0) (hfn := Try.func81) (hc := h12)) ?_
  refine oP (.tuple [.d (.int .u64 ((a1 + b1 + 0) % 18446744073709551616)), .d (.int .u64 ((a1 + b1 + 0) / 18446744073709551616))]) p_move ?_
  refine oP (.d (.int .u64 ((a1 + b1 + 0) % 18446744073709551616))) k_extract ?_
  refine oP (.d (.int .u64 ((a1 + b1 + 0) / 18446744073709551616))) k_extract ?_
  refine oP (.d (.int .u64 ((a1 + b1 + 0) % 18446744073709551616))) p_assign ?_
  refine oP (.d (.int .u64 ((a1 + b1 + 0) / 18446744073709551616))) p_assign ?_
  refine oEnd ?_
  refine oSR rfl ?_
  refine oP (.ptr 0 0) (k_fieldAddr 0 0 (hu := Try.underlying64) (hf := rfl) (hi := ty61)) ?_
  refine oQ (.d (.int .u64 a0)) (k_load 0 0 (hu := Try.underlying61)) ?_
  refine oP (.ptr 1 0) (k_fieldAddr 1 0 (hu := Try.underlying64) (hf := rfl) (hi := ty61)) ?_
  refine oQ (.d (.int .u64 b0)) (k_load 1 0 (hu := Try.underlying61)) ?_
  refine oP (.d (.int .u64 ((a1 + b1 + 0) / 18446744073709551616))) p_move ?_
  refine bCarry (fun h13 => ?_)
  refine oP (.tuple [.d (.int .u64 ((a0 + b0 + ((a1 + b1 + 0) / 18446744073709551616)) % 18446744073709551616)), .d (.int .u64 ((a0 + b0 + ((a1 + b1 + 0) / 18446744073709551616)) / 18446744073709551616))]) (p_add64 (p := a0) (q := b0) (c := ((a1 + b1 + 0) / 18446744073709551616)) (hfn := Try.func81) (hc := h13)) ?_
  refine oP (.tuple [.d (.int .u64 ((a0 + b0 + ((a1 + b1 + 0) / 18446744073709551616)) % 18446744073709551616)), .d (.int .u64 ((a0 + b0 + ((a1 + b1 + 0) / 18446744073709551616)) / 18446744073709551616))]) p_move ?_
  refine oP (.d (.int .u64 ((a0 + b0 + ((a1 + b1 + 0) / 18446744073709551616)) % 18446744073709551616))) k_extract ?_
  refine oP (.d (.int .u64 ((a0 + b0 + ((a1 + b1 + 0) / 18446744073709551616)) / 18446744073709551616))) k_extract ?_
  refine oP (.d (.int .u64 ((a0 + b0 + ((a1 + b1 + 0) / 18446744073709551616)) % 18446744073709551616))) p_assign ?_
  refine oP (.d (.int .u64 ((a0 + b0 + ((a1 + b1 + 0) / 18446744073709551616)) / 18446744073709551616))) p_assign ?_
  refine oEnd ?_
  refine oSR rfl ?_
  refine oP (.d (.int .u64 ((a0 + b0 + ((a1 + b1 + 0) / 18446744073709551616)) % 18446744073709551616))) p_move ?_
  refine oP (.d (.int .u64 ((a1 + b1 + 0) % 18446744073709551616))) p_move ?_
  refine oP (.agg [.d (.int .u64 ((a0 + b0 + ((a1 + b1 + 0) / 18446744073709551616)) % 18446744073709551616)), .d (.int .u64 ((a1 + b1 + 0) % 18446744073709551616))]) (p_build bld64) ?_
  refine oD (.undef) (k_store (vs := [.d (.int .u64 ((a0 + b0 + ((a1 + b1 + 0) / 18446744073709551616)) % 18446744073709551616)), .d (.int .u64 ((a1 + b1 + 0) % 18446744073709551616))]) (H' := [.box [.d (.int .u64 a0), .d (.int .u64 a1)], .box [.d (.int .u64 b0), .d (.int .u64 b1)], .box [.d (.int .u64 ((a0 + b0 + ((a1 + b1 + 0) / 18446744073709551616)) % 18446744073709551616)), .d (.int .u64 ((a1 + b1 + 0) % 18446744073709551616))]]) 2 0 (hi := ty64)) ?_
  refine oEnd ?_
  exact oRet (r0 := ()) (rv := .agg [.d (.int .u64 ((a0 + b0 + ((a1 + b1 + 0) / 18446744073709551616)) % 18446744073709551616)), .d (.int .u64 ((a1 + b1 + 0) % 18446744073709551616))]) (B := []) (vs := [.agg [.d (.int .u64 ((a0 + b0 + ((a1 + b1 + 0) / 18446744073709551616)) % 18446744073709551616)), .d (.int .u64 ((a1 + b1 + 0) % 18446744073709551616))]]) (σ := []) (hf := Try.func76) (hrs := rfl) (hres := .cons _ _ _ _ (.agg 4 64 2 0 [.d (.int .u64 ((a0 + b0 + ((a1 + b1 + 0) / 18446744073709551616)) % 18446744073709551616)), .d (.int .u64 ((a1 + b1 + 0) % 18446744073709551616))] [.d (.int .u64 ((a0 + b0 + ((a1 + b1 + 0) / 18446744073709551616)) % 18446744073709551616)), .d (.int .u64 ((a1 + b1 + 0) % 18446744073709551616))] _ _ _ _ (by kernel_rfl) (by kernel_rfl) Try.underlying64 (by kernel_rfl) ty64 (by kernel_rfl) (by kernel_rfl)) .nil) (hnd := by decide)

/-- awardingbody/awardingbodyref01.total -/
def ref01_total (k : Nat) (x : Bool) (a0 : Int) (a1 : Int) (y : Bool) (b0 : Int) (b1 : Int) : Option (Bool × Int × Int) := bif (x == y) then Option.bind (ref01_Plus k a0 a1 b0 b1) (u0 (some (x, ((a0 + b0 + ((a1 + b1 + 0) / 18446744073709551616)) % 18446744073709551616), ((a1 + b1 + 0) % 18446744073709551616)))) else Option.bind (ref01_Order k a0 a1 b0 b1) (fun r14 => bif (decide (r14 ≥ 0)) then Option.bind (ref01_Minus k a0 a1 b0 b1) (u0 (some (x, ((a0 - b0 - (if a1 < b1 + 0 then 1 else 0)) % 18446744073709551616), ((a1 - b1 - 0) % 18446744073709551616)))) else Option.bind (ref01_Minus k b0 b1 a0 a1) (u0 (some (y, ((b0 - a0 - (if b1 < a1 + 0 then 1 else 0)) % 18446744073709551616), ((b1 - a1 - 0) % 18446744073709551616)))))
def ref01_total_E (x : Bool) (a0 : Int) (a1 : Int) (y : Bool) (b0 : Int) (b1 : Int) : Bool × Int × Int → V × List Blk := uc fun r11 => uc fun r12 => fun r13 => (.tuple [.d (.bool r11), .agg [.d (.int .u64 r12), .d (.int .u64 r13)]], [])
theorem ref01_total_goes (k : Nat) (x : Bool) (a0 : Int) (a1 : Int) (y : Bool) (b0 : Int) (b1 : Int) : RunsO Try.prog 66 [.d (.bool x), .agg [.d (.int .u64 a0), .d (.int .u64 a1)], .d (.bool y), .agg [.d (.int .u64 b0), .d (.int .u64 b1)]] [] (ref01_total_E x a0 a1 y b0 b1) (ref01_total k x a0 a1 y b0 b1) := by
  refine RunsO.of_goes (N := 29) (m := 0) (T := [(0, .d (.bool x)), (1, .agg [.d (.int .u64 a0), .d (.int .u64 a1)]), (2, .d (.bool y)), (3, .agg [.d (.int .u64 b0), .d (.int .u64 b1)])]) Try.func66 rfl rfl (h := ?_)
  unfold ref01_total
  refine bStart ?_
  refine oSR rfl ?_
  refine oD (.ptr 0 0) (k_box (H' := [.box [.d (.int .u64 a0), .d (.int .u64 a1)]]) (cells := [.d (.int .u64 a0), .d (.int .u64 a1)])) ?_
  refine oD (.ptr 1 0) (k_box (H' := [.box [.d (.int .u64 a0), .d (.int .u64 a1)], .box [.d (.int .u64 b0), .d (.int .u64 b1)]]) (cells := [.d (.int .u64 b0), .d (.int .u64 b1)])) ?_
  refine oP (.d (.bool false)) p_assign ?_
  refine oD (.ptr 2 0) (k_alloc (H' := [.box [.d (.int .u64 a0), .d (.int .u64 a1)], .box [.d (.int .u64 b0), .d (.int .u64 b1)], .box [.d (.int .u64 0), .d (.int .u64 0)]]) ty64) ?_
  refine oEnd ?_
  refine oSeq ?_
  refine oSR rfl ?_
  refine oP (.d (.bool x)) p_move ?_
  refine oP (.d (.bool y)) p_move ?_
  refine oP (.d (.bool (x == y))) (p_boolEq (p := x) (q := y) (hu := Try.underlying4)) ?_
  refine oEnd ?_
  refine bSplit 12 (h1 := fun hc => ?_) (h2 := fun hc => ?_)
  ·refine oCondT (h := ?_)
   refine oSR rfl ?_
   refine oP (.d (.bool x)) p_move ?_
   refine oQ (.agg [.d (.int .u64 a0), .d (.int .u64 a1)]) (k_loadAgg 0 0 (hu := Try.underlying64) (hi := ty64)) ?_
   refine oQ (.agg [.d (.int .u64 b0), .d (.int .u64 b1)]) (k_loadAgg 1 0 (hu := Try.underlying64) (hi := ty64)) ?_
   refine bCall (caps := []) (v := (u0 ((.agg [.d (.int .u64 ((a0 + b0 + ((a1 + b1 + 0) / 18446744073709551616)) % 18446744073709551616)), .d (.int .u64 ((a1 + b1 + 0) % 18446744073709551616))] : V)))) (H' := (u0 (([.box [.d (.int .u64 a0), .d (.int .u64 a1)], .box [.d (.int .u64 b0), .d (.int .u64 b1)], .box [.d (.int .u64 0), .d (.int .u64 0)]] : List Blk)))) [] _ (ref01_Plus_goes k a0 a1 b0 b1) (ho := rfl) (hfn := Try.func76) (hb := rfl) (hconv := ConvRs.refl _ _) (hnd := by decide) (hBl := fun _ => (by kernel_rfl)) (hv := fun _ => (by kernel_rfl)) (hH' := fun _ => (by kernel_rfl)) (h := fun r => ?_)
   cases r
   refine bU0 ?_
   refine oP (.d (.bool x)) p_assign ?_
   refine oD (.undef) (k_store (vs := [.d (.int .u64 ((a0 + b0 + ((a1 + b1 + 0) / 18446744073709551616)) % 18446744073709551616)), .d (.int .u64 ((a1 + b1 + 0) % 18446744073709551616))]) (H' := [.box [.d (.int .u64 a0), .d (.int .u64 a1)], .box [.d (.int .u64 b0), .d (.int .u64 b1)], .box [.d (.int .u64 ((a0 + b0 + ((a1 + b1 + 0) / 18446744073709551616)) % 18446744073709551616)), .d (.int .u64 ((a1 + b1 + 0) % 18446744073709551616))]]) 2 0 (hi := ty64)) ?_
   refine oEnd ?_
   exact oRet (r0 := (x, ((a0 + b0 + ((a1 + b1 + 0) / 18446744073709551616)) % 18446744073709551616), ((a1 + b1 + 0) % 18446744073709551616))) (rv := .tuple [.d (.bool x), .agg [.d (.int .u64 ((a0 + b0 + ((a1 + b1 + 0) / 18446744073709551616)) % 18446744073709551616)), .d (.int .u64 ((a1 + b1 + 0) % 18446744073709551616))]]) (B := []) (vs := [.d (.bool x), .agg [.d (.int .u64 ((a0 + b0 + ((a1 + b1 + 0) / 18446744073709551616)) % 18446744073709551616)), .d (.int .u64 ((a1 + b1 + 0) % 18446744073709551616))]]) (σ := []) (hf := Try.func66) (hrs := rfl) (hres := .cons _ _ _ _ (.tmp 8 _ (by kernel_rfl)) (.cons _ _ _ _ (.agg 9 64 2 0 [.d (.int .u64 ((a0 + b0 + ((a1 + b1 + 0) / 18446744073709551616)) % 18446744073709551616)), .d (.int .u64 ((a1 + b1 + 0) % 18446744073709551616))] [.d (.int .u64 ((a0 + b0 + ((a1 + b1 + 0) / 18446744073709551616)) % 18446744073709551616)), .d (.int .u64 ((a1 + b1 + 0) % 18446744073709551616))] _ _ _ _ (by kernel_rfl) (by kernel_rfl) Try.underlying64 (by kernel_rfl) ty64 (by kernel_rfl) (by kernel_rfl)) .nil)) (hnd := by decide)
  ·refine oCondF (h := ?_)
   refine oSkip ?_
   refine oSeq ?_
   refine oSR rfl ?_
   refine oQ (.agg [.d (.int .u64 a0), .d (.int .u64 a1)]) (k_loadAgg 0 0 (hu := Try.underlying64) (hi := ty64)) ?_
   refine oQ (.agg [.d (.int .u64 b0), .d (.int .u64 b1)]) (k_loadAgg 1 0 (hu := Try.underlying64) (hi := ty64)) ?_
   refine bCall (caps := []) (v := (fun (r14 : Int) => (.d (.int .i64 r14) : V))) (H' := (fun (r14 : Int) => ([.box [.d (.int .u64 a0), .d (.int .u64 a1)], .box [.d (.int .u64 b0), .d (.int .u64 b1)], .box [.d (.int .u64 0), .d (.int .u64 0)]] : List Blk))) [] _ (ref01_Order_goes k a0 a1 b0 b1) (ho := rfl) (hfn := Try.func70) (hb := rfl) (hconv := ConvRs.refl _ _) (hnd := by decide) (hBl := fun _ => (by kernel_rfl)) (hv := fun _ => (by kernel_rfl)) (hH' := fun _ => (by kernel_rfl)) (h := fun r14 => ?_)
   refine oP (.d (.bool (decide (r14 ≥ 0)))) (p_int (k := .i64) (p := r14) (q := 0)) ?_
   refine oEnd ?_
   refine bSplit 20 (h1 := fun hc => ?_) (h2 := fun hc => ?_)
   ·refine oCondT (h := ?_)
    refine oSR rfl ?_
    refine oP (.d (.bool x)) p_move ?_
    refine oQ (.agg [.d (.int .u64 a0), .d (.int .u64 a1)]) (k_loadAgg 0 0 (hu := Try.underlying64) (hi := ty64)) ?_
    refine oQ (.agg [.d (.int .u64 b0), .d (.int .u64 b1)]) (k_loadAgg 1 0 (hu := Try.underlying64) (hi := ty64)) ?_
    refine bCall (caps := []) (v := (u0 ((.agg [.d (.int .u64 ((a0 - b0 - (if a1 < b1 + 0 then 1 else 0)) % 18446744073709551616)), .d (.int .u64 ((a1 - b1 - 0) % 18446744073709551616))] : V)))) (H' := (u0 (([.box [.d (.int .u64 a0), .d (.int .u64 a1)], .box [.d (.int .u64 b0), .d (.int .u64 b1)], .box [.d (.int .u64 0), .d (.int .u64 0)]] : List Blk)))) [] _ (ref01_Minus_goes k a0 a1 b0 b1) (ho := rfl) (hfn := Try.func71) (hb := rfl) (hconv := ConvRs.refl _ _) (hnd := by decide) (hBl := fun _ => (by kernel_rfl)) (hv := fun _ => (by kernel_rfl)) (hH' := fun _ => (by kernel_rfl)) (h := fun r => ?_)
    cases r
    refine bU0 ?_
    refine oP (.d (.bool x)) p_assign ?_
    refine oD (.undef) (k_store (vs := [.d (.int .u64 ((a0 - b0 - (if a1 < b1 + 0 then 1 else 0)) % 18446744073709551616)), .d (.int .u64 ((a1 - b1 - 0) % 18446744073709551616))]) (H' := [.box [.d (.int .u64 a0), .d (.int .u64 a1)], .box [.d (.int .u64 b0), .d (.int .u64 b1)], .box [.d (.int .u64 ((a0 - b0 - (if a1 < b1 + 0 then 1 else 0)) % 18446744073709551616)), .d (.int .u64 ((a1 - b1 - 0) % 18446744073709551616))]]) 2 0 (hi := ty64)) ?_
    refine oEnd ?_
    exact oRet (r0 := (x, ((a0 - b0 - (if a1 < b1 + 0 then 1 else 0)) % 18446744073709551616), ((a1 - b1 - 0) % 18446744073709551616))) (rv := .tuple [.d (.bool x), .agg [.d (.int .u64 ((a0 - b0 - (if a1 < b1 + 0 then 1 else 0)) % 18446744073709551616)), .d (.int .u64 ((a1 - b1 - 0) % 18446744073709551616))]]) (B := []) (vs := [.d (.bool x), .agg [.d (.int .u64 ((a0 - b0 - (if a1 < b1 + 0 then 1 else 0)) % 18446744073709551616)), .d (.int .u64 ((a1 - b1 - 0) % 18446744073709551616))]]) (σ := []) (hf := Try.func66) (hrs := rfl) (hres := .cons _ _ _ _ (.tmp 8 _ (by kernel_rfl)) (.cons _ _ _ _ (.agg 9 64 2 0 [.d (.int .u64 ((a0 - b0 - (if a1 < b1 + 0 then 1 else 0)) % 18446744073709551616)), .d (.int .u64 ((a1 - b1 - 0) % 18446744073709551616))] [.d (.int .u64 ((a0 - b0 - (if a1 < b1 + 0 then 1 else 0)) % 18446744073709551616)), .d (.int .u64 ((a1 - b1 - 0) % 18446744073709551616))] _ _ _ _ (by kernel_rfl) (by kernel_rfl) Try.underlying64 (by kernel_rfl) ty64 (by kernel_rfl) (by kernel_rfl)) .nil)) (hnd := by decide)
   ·refine oCondF (h := ?_)
    refine oSkip ?_
    refine oSR rfl ?_
    refine oP (.d (.bool y)) p_move ?_
    refine oQ (.agg [.d (.int .u64 b0), .d (.int .u64 b1)]) (k_loadAgg 1 0 (hu := Try.underlying64) (hi := ty64)) ?_
    refine oQ (.agg [.d (.int .u64 a0), .d (.int .u64 a1)]) (k_loadAgg 0 0 (hu := Try.underlying64) (hi := ty64)) ?_
    refine bCall (caps := []) (v := (u0 ((.agg [.d (.int .u64 ((b0 - a0 - (if b1 < a1 + 0 then 1 else 0)) % 18446744073709551616)), .d (.int .u64 ((b1 - a1 - 0) % 18446744073709551616))] : V)))) (H' := (u0 (([.box [.d (.int .u64 a0), .d (.int .u64 a1)], .box [.d (.int .u64 b0), .d (.int .u64 b1)], .box [.d (.int .u64 0), .d (.int .u64 0)]] : List Blk)))) [] _ (ref01_Minus_goes k b0 b1 a0 a1) (ho := rfl) (hfn := Try.func71) (hb := rfl) (hconv := ConvRs.refl _ _) (hnd := by decide) (hBl := fun _ => (by kernel_rfl)) (hv := fun _ => (by kernel_rfl)) (hH' := fun _ => (by kernel_rfl)) (h := fun r => ?_)
    cases r
    refine bU0 ?_
    refine oP (.d (.bool y)) p_assign ?_
    refine oD (.undef) (k_store (vs := [.d (.int .u64 ((b0 - a0 - (if b1 < a1 + 0 then 1 else 0)) % 18446744073709551616)), .d (.int .u64 ((b1 - a1 - 0) % 18446744073709551616))]) (H' := [.box [.d (.int .u64 a0), .d (.int .u64 a1)], .box [.d (.int .u64 b0), .d (.int .u64 b1)], .box [.d (.int .u64 ((b0 - a0 - (if b1 < a1 + 0 then 1 else 0)) % 18446744073709551616)), .d (.int .u64 ((b1 - a1 - 0) % 18446744073709551616))]]) 2 0 (hi := ty64)) ?_
    refine oEnd ?_
    exact oRet (r0 := (y, ((b0 - a0 - (if b1 < a1 + 0 then 1 else 0)) % 18446744073709551616), ((b1 - a1 - 0) % 18446744073709551616))) (rv := .tuple [.d (.bool y), .agg [.d (.int .u64 ((b0 - a0 - (if b1 < a1 + 0 then 1 else 0)) % 18446744073709551616)), .d (.int .u64 ((b1 - a1 - 0) % 18446744073709551616))]]) (B := []) (vs := [.d (.bool y), .agg [.d (.int .u64 ((b0 - a0 - (if b1 < a1 + 0 then 1 else 0)) % 18446744073709551616)), .d (.int .u64 ((b1 - a1 - 0) % 18446744073709551616))]]) (σ := []) (hf := Try.func66) (hrs := rfl) (hres := .cons _ _ _ _ (.tmp 8 _ (by kernel_rfl)) (.cons _ _ _ _ (.agg 9 64 2 0 [.d (.int .u64 ((b0 - a0 - (if b1 < a1 + 0 then 1 else 0)) % 18446744073709551616)), .d (.int .u64 ((b1 - a1 - 0) % 18446744073709551616))] [.d (.int .u64 ((b0 - a0 - (if b1 < a1 + 0 then 1 else 0)) % 18446744073709551616)), .d (.int .u64 ((b1 - a1 - 0) % 18446744073709551616))] _ _ _ _ (by kernel_rfl) (by kernel_rfl) Try.underlying64 (by kernel_rfl) ty64 (by kernel_rfl) (by kernel_rfl)) .nil)) (hnd := by decide)

/-- awardingbody/awardingbodyref01.Compare -/
def ref01_Compare (k : Nat) (a0 : Int) (a1 : Int) (b0 : Int) (b1 : Int) : Option (Int) := Option.bind (ref01_Valid k a0 a1) (fun r135 => Option.bind (bif (!r135) then some true else Option.bind (ref01_Valid k b0 b1) (fun r137 => some (!r137)) : Option (Bool)) (fun x1 => bif x1 then some 0 else Option.bind (ref01_Size k a0) (fun r1 => Option.bind (ref01_Size k b1) (fun r11 => Option.bind (ref01_Product k r1 r11) (uc fun r12 => fun r132 => Option.bind (ref01_Size k b0) (fun r14 => Option.bind (ref01_Size k a1) (fun r15 => Option.bind (ref01_Product k r14 r15) (uc fun r121 => fun r133 => Option.bind (ref01_total k (decide (a0 < 0)) r12 r132 (decide (b0 > 0)) r121 r133) (uc fun r111 => uc fun r122 => fun r134 => bif ((r122 == 0) && ((r134 == 0) && true)) then some 0 else bif r111 then some (-1) else some 1)))))))))
def ref01_Compare_E (a0 : Int) (a1 : Int) (b0 : Int) (b1 : Int) : Int → V × List Blk := fun r16 => (.d (.int .i64 r16), [])
theorem ref01_Compare_goes (k : Nat) (a0 : Int) (a1 : Int) (b0 : Int) (b1 : Int) : RunsO Try.prog 51 [.agg [.d (.int .i64 a0), .d (.int .i64 a1)], .agg [.d (.int .i64 b0), .d (.int .i64 b1)]] [] (ref01_Compare_E a0 a1 b0 b1) (ref01_Compare k a0 a1 b0 b1) := by
  refine RunsO.of_goes (N := 43) (m := 0) (T := [(0, .agg [.d (.int .i64 a0), .d (.int .i64 a1)]), (1, .agg [.d (.int .i64 b0), .d (.int .i64 b1)])]) Try.func51 rfl rfl (h := ?_)
  unfold ref01_Compare
  refine bStart ?_
  refine oSR rfl ?_
  refine oD (.ptr 0 0) (k_box (H' := [.box [.d (.int .i64 a0), .d (.int .i64 a1)]]) (cells := [.d (.int .i64 a0), .d (.int .i64 a1)])) ?_
  refine oD (.ptr 1 0) (k_box (H' := [.box [.d (.int .i64 a0), .d (.int .i64 a1)], .box [.d (.int .i64 b0), .d (.int .i64 b1)]]) (cells := [.d (.int .i64 b0), .d (.int .i64 b1)])) ?_
  refine oP (.d (.int .i64 0)) p_assign ?_
  refine oEnd ?_
  refine oSeq ?_
  refine oSR rfl ?_
  refine oQ (.agg [.d (.int .i64 a0), .d (.int .i64 a1)]) (k_loadAgg 0 0 (hu := Try.underlying31) (hi := ty31)) ?_
  refine bCall (caps := []) (v := (fun (r135 : Bool) => (.d (.bool r135) : V))) (H' := (fun (r135 : Bool) => ([.box [.d (.int .i64 a0), .d (.int .i64 a1)], .box [.d (.int .i64 b0), .d (.int .i64 b1)]] : List Blk))) [] _ (ref01_Valid_goes k a0 a1) (ho := rfl) (hfn := Try.func56) (hb := rfl) (hconv := ConvRs.refl _ _) (hnd := by decide) (hBl := fun _ => (by kernel_rfl)) (hv := fun _ => (by kernel_rfl)) (hH' := fun _ => (by kernel_rfl)) (h := fun r135 => ?_)
  refine oP (.d (.bool (!r135))) (p_not (p := r135)) ?_
  refine oP (.d (.bool (!r135))) p_move ?_
  refine bMeet 4 rfl ((fun (x1 : Bool) => [(2, .ptr 0 0), (3, .ptr 1 0), (14, .d (.bool x1))])) ((fun (x1 : Bool) => [.box [.d (.int .i64 a0), .d (.int .i64 a1)], .box [.d (.int .i64 b0), .d (.int .i64 b1)]])) (fun s => s) (fun x1 => ?_) (fun hj1 => ?_)
  ·refine oView (T' := [(2, .ptr 0 0), (3, .ptr 1 0), (14, .d (.bool x1))]) (H' := [.box [.d (.int .i64 a0), .d (.int .i64 a1)], .box [.d (.int .i64 b0), .d (.int .i64 b1)]]) (h := ?_)
   refine oEnd ?_
   refine bSplit 14 (h1 := fun hc => ?_) (h2 := fun hc => ?_)
   ·refine oCondT (h := ?_)
    refine oSR rfl ?_
    refine oP (.d (.int .i64 0)) p_assign ?_
    refine oEnd ?_
    exact oRet (r0 := 0) (rv := .d (.int .i64 0)) (B := []) (vs := [.d (.int .i64 0)]) (σ := []) (hf := Try.func51) (hrs := rfl) (hres := .cons _ _ _ _ (.tmp 4 _ (by kernel_rfl)) .nil) (hnd := by decide)
   ·refine oCondF (h := ?_)
    refine oSkip ?_
    refine oSeq ?_
    refine oDraw [(0, 27), (1, 27)] rfl ?_
    refine aP 0 (.ptr 0 0) rfl (k_fieldAddr 0 0 (hu := Try.underlying31) (hf := rfl) (hi := ty3)) ?_
    refine aQ 1 [0] (.d (.int .i64 a0)) rfl (k_load 0 0 (hu := Try.underlying3)) ?_
    refine aP 2 (.d (.bool (decide (a0 < 0)))) rfl (p_int (k := .i64) (p := a0) (q := 0)) ?_
    refine aP 3 (.ptr 0 0) rfl (k_fieldAddr 0 0 (hu := Try.underlying31) (hf := rfl) (hi := ty3)) ?_
    refine aQ 4 [0] (.d (.int .i64 a0)) rfl (k_load 0 0 (hu := Try.underlying3)) ?_
    refine aP 6 (.ptr 1 1) rfl (k_fieldAddr 1 0 (hu := Try.underlying31) (hf := rfl) (hi := ty3)) ?_
    refine aQ 7 [1] (.d (.int .i64 b1)) rfl (k_load 1 1 (hu := Try.underlying3)) ?_
    refine aP 10 (.ptr 1 0) rfl (k_fieldAddr 1 0 (hu := Try.underlying31) (hf := rfl) (hi := ty3)) ?_
    refine aQ 11 [1] (.d (.int .i64 b0)) rfl (k_load 1 0 (hu := Try.underlying3)) ?_
    refine aP 12 (.d (.bool (decide (b0 > 0)))) rfl (p_int (k := .i64) (p := b0) (q := 0)) ?_
    refine aP 13 (.ptr 1 0) rfl (k_fieldAddr 1 0 (hu := Try.underlying31) (hf := rfl) (hi := ty3)) ?_
    refine aQ 14 [1] (.d (.int .i64 b0)) rfl (k_load 1 0 (hu := Try.underlying3)) ?_
    refine aP 16 (.ptr 0 1) rfl (k_fieldAddr 0 0 (hu := Try.underlying31) (hf := rfl) (hi := ty3)) ?_
    refine aQ 17 [0] (.d (.int .i64 a1)) rfl (k_load 0 1 (hu := Try.underlying3)) ?_
    refine dCall (i := 5) (caps := []) (v := (fun (r1 : Int) => (.d (.int .u64 r1) : V))) (H' := (fun (r1 : Int) => ([.box [.d (.int .i64 a0), .d (.int .i64 a1)], .box [.d (.int .i64 b0), .d (.int .i64 b1)]] : List Blk))) [] _ (ref01_Size_goes k a0) rfl (ho := rfl) (hfn := Try.func42) (hb := rfl) (hconv := ConvRs.refl _ _) (hnd := by decide) (hBl := fun _ => (by kernel_rfl)) (hv := fun _ => (by kernel_rfl)) (hH' := fun _ => (by kernel_rfl)) (h := fun r1 => ?_)
    refine dCall (i := 8) (caps := []) (v := (fun (r11 : Int) => (.d (.int .u64 r11) : V))) (H' := (fun (r11 : Int) => ([.box [.d (.int .i64 a0), .d (.int .i64 a1)], .box [.d (.int .i64 b0), .d (.int .i64 b1)]] : List Blk))) [] _ (ref01_Size_goes k b1) rfl (ho := rfl) (hfn := Try.func42) (hb := rfl) (hconv := ConvRs.refl _ _) (hnd := by decide) (hBl := fun _ => (by kernel_rfl)) (hv := fun _ => (by kernel_rfl)) (hH' := fun _ => (by kernel_rfl)) (h := fun r11 => ?_)
    refine dCall (i := 9) (caps := []) (v := (uc fun (r12 : Int) => (fun (r132 : Int) => (.agg [.d (.int .u64 r12), .d (.int .u64 r132)] : V)))) (H' := (uc fun (r12 : Int) => (fun (r132 : Int) => ([.box [.d (.int .i64 a0), .d (.int .i64 a1)], .box [.d (.int .i64 b0), .d (.int .i64 b1)]] : List Blk)))) [] _ (ref01_Product_goes k r1 r11) rfl (ho := rfl) (hfn := Try.func67) (hb := rfl) (hconv := ConvRs.refl _ _) (hnd := by decide) (hBl := fun _ => (by kernel_rfl)) (hv := fun _ => (by kernel_rfl)) (hH' := fun _ => (by kernel_rfl)) (h := fun r => ?_)
    obtain ⟨r12, r132⟩ := r
    refine dUc ?_
    refine dCall (i := 15) (caps := []) (v := (fun (r14 : Int) => (.d (.int .u64 r14) : V))) (H' := (fun (r14 : Int) => ([.box [.d (.int .i64 a0), .d (.int .i64 a1)], .box [.d (.int .i64 b0), .d (.int .i64 b1)]] : List Blk))) [] _ (ref01_Size_goes k b0) rfl (ho := rfl) (hfn := Try.func42) (hb := rfl) (hconv := ConvRs.refl _ _) (hnd := by decide) (hBl := fun _ => (by kernel_rfl)) (hv := fun _ => (by kernel_rfl)) (hH' := fun _ => (by kernel_rfl)) (h := fun r14 => ?_)
    refine dCall (i := 18) (caps := []) (v := (fun (r15 : Int) => (.d (.int .u64 r15) : V))) (H' := (fun (r15 : Int) => ([.box [.d (.int .i64 a0), .d (.int .i64 a1)], .box [.d (.int .i64 b0), .d (.int .i64 b1)]] : List Blk))) [] _ (ref01_Size_goes k a1) rfl (ho := rfl) (hfn := Try.func42) (hb := rfl) (hconv := ConvRs.refl _ _) (hnd := by decide) (hBl := fun _ => (by kernel_rfl)) (hv := fun _ => (by kernel_rfl)) (hH' := fun _ => (by kernel_rfl)) (h := fun r15 => ?_)
    refine dCall (i := 19) (caps := []) (v := (uc fun (r121 : Int) => (fun (r133 : Int) => (.agg [.d (.int .u64 r121), .d (.int .u64 r133)] : V)))) (H' := (uc fun (r121 : Int) => (fun (r133 : Int) => ([.box [.d (.int .i64 a0), .d (.int .i64 a1)], .box [.d (.int .i64 b0), .d (.int .i64 b1)]] : List Blk)))) [] _ (ref01_Product_goes k r14 r15) rfl (ho := rfl) (hfn := Try.func67) (hb := rfl) (hconv := ConvRs.refl _ _) (hnd := by decide) (hBl := fun _ => (by kernel_rfl)) (hv := fun _ => (by kernel_rfl)) (hH' := fun _ => (by kernel_rfl)) (h := fun r => ?_)
    obtain ⟨r121, r133⟩ := r
    refine dUc ?_
    refine dCall (i := 20) (caps := []) (v := (uc fun (r111 : Bool) => (uc fun (r122 : Int) => (fun (r134 : Int) => (.tuple [.d (.bool r111), .agg [.d (.int .u64 r122), .d (.int .u64 r134)]] : V))))) (H' := (uc fun (r111 : Bool) => (uc fun (r122 : Int) => (fun (r134 : Int) => ([.box [.d (.int .i64 a0), .d (.int .i64 a1)], .box [.d (.int .i64 b0), .d (.int .i64 b1)]] : List Blk))))) [] _ (ref01_total_goes k (decide (a0 < 0)) r12 r132 (decide (b0 > 0)) r121 r133) rfl (ho := rfl) (hfn := Try.func66) (hb := rfl) (hconv := ConvRs.refl _ _) (hnd := by decide) (hBl := fun _ => (by kernel_rfl)) (hv := fun _ => (by kernel_rfl)) (hH' := fun _ => (by kernel_rfl)) (h := fun r => ?_)
    obtain ⟨r111, r122, r134⟩ := r
    refine dUc ?_
    refine dUc ?_
    refine aTakeP (i := 21) (.tuple [.d (.bool r111), .agg [.d (.int .u64 r122), .d (.int .u64 r134)]]) rfl (hp := p_move) (h := ?_)
    refine aTakeP (i := 22) (.d (.bool r111)) rfl (hp := k_extract) (h := ?_)
    refine aTakeP (i := 23) (.agg [.d (.int .u64 r122), .d (.int .u64 r134)]) rfl (hp := k_extract) (h := ?_)
    refine aAlloc (i := 24) (d := 6) rfl (hop := rfl) (hd := rfl) (hty := ty64) (cells := [.d (.int .u64 0), .d (.int .u64 0)]) (h := ?_)
    refine dView (H' := [.box [.d (.int .i64 a0), .d (.int .i64 a1)], .box [.d (.int .i64 b0), .d (.int .i64 b1)], .box [.d (.int .u64 0), .d (.int .u64 0)]]) rfl rfl (h := ?_)
    refine aP 25 (.d (.bool r111)) rfl p_assign ?_
    refine aOne (i := 26) (v := .undef) rfl (hac := Does.acts (k_store (vs := [.d (.int .u64 r122), .d (.int .u64 r134)]) (H' := [.box [.d (.int .i64 a0), .d (.int .i64 a1)], .box [.d (.int .i64 b0), .d (.int .i64 b1)], .box [.d (.int .u64 r122), .d (.int .u64 r134)]]) 2 0 (hi := ty64))) (h := ?_)
    refine aDone (h := ?_)
    refine oSeq ?_
    refine oSR rfl ?_
    refine oQ (.agg [.d (.int .u64 r122), .d (.int .u64 r134)]) (k_loadAgg 2 0 (hu := Try.underlying64) (hi := ty64)) ?_
    refine oP (.agg [.d (.int .u64 0), .d (.int .u64 0)]) (p_build bld64) ?_
    refine oP (.d (.bool ((r122 == 0) && ((r134 == 0) && true)))) (k_eqAgg (hg := Try.eqGuardType64) (h := EqV.struct 1 64 [.d (.int .u64 r122), .d (.int .u64 r134)] [.d (.int .u64 0), .d (.int .u64 0)] _ ((r122 == 0) && ((r134 == 0) && true)) Try.underlying64 Try.stoodInHeld64 (EqF.one 1 1 _ _ _ _ _ _ _ (r122 == 0) ((r134 == 0) && true) (by kernel_rfl) Try.underlying61 (by kernel_rfl) (by kernel_rfl) (by kernel_rfl) (by kernel_rfl) (EqV.int 61 .u64 .u64 r122 0 Try.underlying61) (EqF.one 1 1 _ _ _ _ _ _ _ (r134 == 0) true (by kernel_rfl) Try.underlying61 (by kernel_rfl) (by kernel_rfl) (by kernel_rfl) (by kernel_rfl) (EqV.int 61 .u64 .u64 r134 0 Try.underlying61) (EqF.nil 1 _ _))))) ?_
    refine oEnd ?_
    refine bSplit 41 (h1 := fun hc => ?_) (h2 := fun hc => ?_)
    ·refine oCondT (h := ?_)
     refine oSR rfl ?_
     refine oP (.d (.int .i64 0)) p_assign ?_
     refine oEnd ?_
     exact oRet (r0 := 0) (rv := .d (.int .i64 0)) (B := []) (vs := [.d (.int .i64 0)]) (σ := []) (hf := Try.func51) (hrs := rfl) (hres := .cons _ _ _ _ (.tmp 4 _ (by kernel_rfl)) .nil) (hnd := by decide)
    ·refine oCondF (h := ?_)
     refine oSkip ?_
     refine oSeq ?_
     refine oSR rfl ?_
     refine oP (.d (.bool r111)) p_move ?_
     refine oEnd ?_
     refine bSplit 42 (h1 := fun hc => ?_) (h2 := fun hc => ?_)
     ·refine oCondT (h := ?_)
      refine oSR rfl ?_
      refine oP (.d (.int .i64 (-1))) p_assign ?_
      refine oEnd ?_
      exact oRet (r0 := (-1)) (rv := .d (.int .i64 (-1))) (B := []) (vs := [.d (.int .i64 (-1))]) (σ := []) (hf := Try.func51) (hrs := rfl) (hres := .cons _ _ _ _ (.tmp 4 _ (by kernel_rfl)) .nil) (hnd := by decide)
     ·refine oCondF (h := ?_)
      refine oSkip ?_
      refine oSR rfl ?_
      refine oP (.d (.int .i64 1)) p_assign ?_
      refine oEnd ?_
      exact oRet (r0 := 1) (rv := .d (.int .i64 1)) (B := []) (vs := [.d (.int .i64 1)]) (σ := []) (hf := Try.func51) (hrs := rfl) (hres := .cons _ _ _ _ (.tmp 4 _ (by kernel_rfl)) .nil) (hnd := by decide)
  ·refine bSplit 10 (h1 := fun hc => ?_) (h2 := fun hc => ?_)
   ·refine oNot (h := ?_)
    refine oNot (h := ?_)
    refine oNot (h := ?_)
    refine oP (.d (.bool true)) (p_pick (b := true)) ?_
    refine oHead [2, 3, 14] [0, 1] (T' := [(2, .ptr 0 0), (3, .ptr 1 0), (14, .d (.bool true))]) (H' := [.box [.d (.int .i64 a0), .d (.int .i64 a1)], .box [.d (.int .i64 b0), .d (.int .i64 b1)]]) (hnd := by decide) (h := ?_)
    exact hj1 true
   ·refine oQ (.agg [.d (.int .i64 b0), .d (.int .i64 b1)]) (k_loadAgg 1 0 (hu := Try.underlying31) (hi := ty31)) ?_
    refine bCall (caps := []) (v := (fun (r137 : Bool) => (.d (.bool r137) : V))) (H' := (fun (r137 : Bool) => ([.box [.d (.int .i64 a0), .d (.int .i64 a1)], .box [.d (.int .i64 b0), .d (.int .i64 b1)]] : List Blk))) [] _ (ref01_Valid_goes k b0 b1) (ho := rfl) (hfn := Try.func56) (hb := rfl) (hconv := ConvRs.refl _ _) (hnd := by decide) (hBl := fun _ => (by kernel_rfl)) (hv := fun _ => (by kernel_rfl)) (hH' := fun _ => (by kernel_rfl)) (h := fun r137 => ?_)
    refine oP (.d (.bool (!r137))) (p_not (p := r137)) ?_
    refine oP (.d (.bool (!r137))) (p_pick (b := false)) ?_
    refine oHead [2, 3, 14] [0, 1] (T' := [(2, .ptr 0 0), (3, .ptr 1 0), (14, .d (.bool (!r137)))]) (H' := [.box [.d (.int .i64 a0), .d (.int .i64 a1)], .box [.d (.int .i64 b0), .d (.int .i64 b1)]]) (hnd := by decide) (h := ?_)
    exact hj1 (!r137)

/-- awardingbody/awardingbodyref01.Less -/
def ref01_Less (k : Nat) (a0 : Int) (a1 : Int) (b0 : Int) (b1 : Int) : Option (Bool) := Option.bind (ref01_Compare k a0 a1 b0 b1) (fun r161 => some (decide (r161 < 0)))
def ref01_Less_E (a0 : Int) (a1 : Int) (b0 : Int) (b1 : Int) : Bool → V × List Blk := fun r1 => (.d (.bool r1), [])
theorem ref01_Less_goes (k : Nat) (a0 : Int) (a1 : Int) (b0 : Int) (b1 : Int) : RunsO Try.prog 21 [.agg [.d (.int .i64 a0), .d (.int .i64 a1)], .agg [.d (.int .i64 b0), .d (.int .i64 b1)]] [] (ref01_Less_E a0 a1 b0 b1) (ref01_Less k a0 a1 b0 b1) := by
  refine RunsO.of_goes (N := 9) (m := 0) (T := [(0, .agg [.d (.int .i64 a0), .d (.int .i64 a1)]), (1, .agg [.d (.int .i64 b0), .d (.int .i64 b1)])]) Try.func21 rfl rfl (h := ?_)
  unfold ref01_Less
  refine bStart ?_
  refine oSR rfl ?_
  refine oD (.ptr 0 0) (k_box (H' := [.box [.d (.int .i64 a0), .d (.int .i64 a1)]]) (cells := [.d (.int .i64 a0), .d (.int .i64 a1)])) ?_
  refine oD (.ptr 1 0) (k_box (H' := [.box [.d (.int .i64 a0), .d (.int .i64 a1)], .box [.d (.int .i64 b0), .d (.int .i64 b1)]]) (cells := [.d (.int .i64 b0), .d (.int .i64 b1)])) ?_
  refine oP (.d (.bool false)) p_assign ?_
  refine oEnd ?_
  refine oSR rfl ?_
  refine oQ (.agg [.d (.int .i64 a0), .d (.int .i64 a1)]) (k_loadAgg 0 0 (hu := Try.underlying31) (hi := ty31)) ?_
  refine oQ (.agg [.d (.int .i64 b0), .d (.int .i64 b1)]) (k_loadAgg 1 0 (hu := Try.underlying31) (hi := ty31)) ?_
  refine bCall (caps := []) (v := (fun (r161 : Int) => (.d (.int .i64 r161) : V))) (H' := (fun (r161 : Int) => ([.box [.d (.int .i64 a0), .d (.int .i64 a1)], .box [.d (.int .i64 b0), .d (.int .i64 b1)]] : List Blk))) [] _ (ref01_Compare_goes k a0 a1 b0 b1) (ho := rfl) (hfn := Try.func51) (hb := rfl) (hconv := ConvRs.refl _ _) (hnd := by decide) (hBl := fun _ => (by kernel_rfl)) (hv := fun _ => (by kernel_rfl)) (hH' := fun _ => (by kernel_rfl)) (h := fun r161 => ?_)
  refine oP (.d (.bool (decide (r161 < 0)))) (p_int (k := .i64) (p := r161) (q := 0)) ?_
  refine oP (.d (.bool (decide (r161 < 0)))) p_assign ?_
  refine oEnd ?_
  exact oRet (r0 := (decide (r161 < 0))) (rv := .d (.bool (decide (r161 < 0)))) (B := []) (vs := [.d (.bool (decide (r161 < 0)))]) (σ := []) (hf := Try.func21) (hrs := rfl) (hres := .cons _ _ _ _ (.tmp 4 _ (by kernel_rfl)) .nil) (hnd := by decide)

/-- awardingbody/awardingbodylaw32.DistributionSmooth -/
def law32_DistributionSmooth_b1 (k : Nat) (r123 : (List Int)) (r143 : (List Int)) (again : Int → Option ((Unit) ⊕ (Bool))) : Int → Option ((Unit) ⊕ (Bool)) := fun x22 => bif (decide (x22 < ((List.length r143) : Int))) then gidx r143 x22 fun e1 => gidx r123 x22 fun e11 => bif (e1 != (IntKind.wrap .i64 (e11 + 1))) then some (Sum.inr false) else again (IntKind.wrap .i64 (x22 + 1)) else some (Sum.inl ())
def law32_DistributionSmooth (k : Nat) (t : (List Int)) : Option (Bool) := Option.bind (mark_Light k t) (u0 (bif (!(decide (((List.length t) : Int) ≤ 600))) then Option.bind (law32_sane k) (fun r116 => some r116) else Option.bind (mark_Roll k t) (u0 (Option.bind (mark_Dice_Distribution k 8 false t 0) (uc fun r123 => fun x71 => Option.bind (distribution_Smooth k r123) (uc fun r143 => fun r154 => blet ((r154 != 0) || (((List.length r143) : Int) != ((List.length r123) : Int))) fun x11 => bif x11 then some false else Option.bind (gloop (law32_DistributionSmooth_b1 k r123 r143) k 0 : Option ((Unit) ⊕ (Bool))) (Sum.elim (u0 (Option.bind (ref01_New k (IntKind.wrap .i64 (((List.length r123) : Int) - 1)) 2) (uc fun r155 => uc fun r161 => fun r171 => Option.bind (distribution_Mean k r123) (uc fun r124 => uc fun r144 => fun r156 => Option.bind (distribution_Mean k r143) (uc fun r125 => uc fun r145 => fun r157 => blet ((r171 != 0) || (r157 != 0)) fun x14 => bif x14 then some false else bif (r156 != 0) then Option.bind (bif ((r125 == r155) && ((r145 == r161) && true)) then Option.bind (law32_sane k) (fun r119 => some r119) else some false : Option (Bool)) (fun x16 => some x16) else Option.bind (ref01_Less k r125 r145 r124 r144) (fun r120 => Option.bind (bif r120 then Option.bind (ref01_Less k r125 r145 r155 r161) (fun r134 => some r134) else some false : Option (Bool)) (fun x17 => Option.bind (bif (!x17) then Option.bind (ref01_Less k r124 r144 r125 r145) (fun r131 => Option.bind (bif r131 then Option.bind (ref01_Less k r155 r161 r125 r145) (fun r133 => some r133) else some false : Option (Bool)) (fun x21 => some (!x21))) else some false : Option (Bool)) (fun x19 => Option.bind (bif x19 then Option.bind (law32_sane k) (fun r130 => some r130) else some false : Option (Bool)) (fun x20 => some x20))))))))) (fun r => some r))))))))
def law32_DistributionSmooth_E (t : (List Int)) : Bool → V × List Blk := fun r114 => (.d (.bool r114), [])
theorem law32_DistributionSmooth_goes (k : Nat) (t : (List Int)) : RunsO Try.prog 7 [.d (.lit (List.map e_i64 t))] [] (law32_DistributionSmooth_E t) (law32_DistributionSmooth k t) := by
  refine RunsO.of_goes (N := 110) (m := 0) (T := [(0, .d (.lit (List.map e_i64 t)))]) Try.func7 rfl rfl (h := ?_)
  unfold law32_DistributionSmooth
  refine bStart ?_
  refine oSR rfl ?_
  refine oP (.d (.bool false)) p_assign ?_
  refine oEnd ?_
  refine oSeq ?_
  refine oSR rfl ?_
  refine oP (.d (.lit (List.map e_i64 t))) p_move ?_
  refine bCall (caps := []) (v := (u0 ((.d (.bool (decide (((List.length t) : Int) ≤ 600))) : V)))) (H' := (u0 (([] : List Blk)))) [] _ (mark_Light_goes k t) (ho := rfl) (hfn := Try.func9) (hb := rfl) (hconv := ConvRs.refl _ _) (hnd := by decide) (hBl := fun _ => (by kernel_rfl)) (hv := fun _ => (by kernel_rfl)) (hH' := fun _ => (by kernel_rfl)) (h := fun r => ?_)
  cases r
  refine bU0 ?_
  refine oP (.d (.bool (!(decide (((List.length t) : Int) ≤ 600))))) (p_not (p := (decide (((List.length t) : Int) ≤ 600)))) ?_
  refine oEnd ?_
  refine bSplit 15 (h1 := fun hc => ?_) (h2 := fun hc => ?_)
  ·refine oCondT (h := ?_)
   refine oSR rfl ?_
   refine bCall (caps := []) (v := (fun (r116 : Bool) => (.d (.bool r116) : V))) (H' := (fun (r116 : Bool) => ([] : List Blk))) [] _ (law32_sane_goes k) (ho := rfl) (hfn := Try.func10) (hb := rfl) (hconv := ConvRs.refl _ _) (hnd := by decide) (hBl := fun _ => (by kernel_rfl)) (hv := fun _ => (by kernel_rfl)) (hH' := fun _ => (by kernel_rfl)) (h := fun r116 => ?_)
   refine oP (.d (.bool r116)) p_assign ?_
   refine oEnd ?_
   exact oRet (r0 := r116) (rv := .d (.bool r116)) (B := []) (vs := [.d (.bool r116)]) (σ := []) (hf := Try.func7) (hrs := rfl) (hres := .cons _ _ _ _ (.tmp 2 _ (by kernel_rfl)) .nil) (hnd := by decide)
  ·refine oCondF (h := ?_)
   refine oSkip ?_
   refine oSR rfl ?_
   refine oP (.d (.lit (List.map e_i64 t))) p_move ?_
   refine bCall (caps := []) (v := (u0 ((.ptr 0 0 : V)))) (H' := (u0 (([.box [.d (.lit (List.map e_i64 t)), .d (.int .i64 0)]] : List Blk)))) [] _ (mark_Roll_goes k t) (ho := rfl) (hfn := Try.func11) (hb := rfl) (hconv := ConvRs.refl _ _) (hnd := by decide) (hBl := fun _ => (by kernel_rfl)) (hv := fun _ => (by kernel_rfl)) (hH' := fun _ => (by kernel_rfl)) (h := fun r => ?_)
   cases r
   refine bU0 ?_
   refine bCall (caps := []) (v := (uc fun (r123 : (List Int)) => (fun (x71 : Int) => (.agg [.d (.lit (List.map e_i64 r123))] : V)))) (H' := (uc fun (r123 : (List Int)) => (fun (x71 : Int) => ([.box [.d (.lit (List.map e_i64 t)), .d (.int .i64 x71)]] : List Blk)))) [0] _ (mark_Dice_Distribution_goes k 8 false t 0) (ho := rfl) (hfn := Try.func12) (hb := rfl) (hconv := ConvRs.refl _ _) (hnd := by decide) (hBl := fun _ => (by kernel_rfl)) (hv := fun _ => (by kernel_rfl)) (hH' := fun _ => (by kernel_rfl)) (h := fun r => ?_)
   obtain ⟨r123, x71⟩ := r
   refine bUc ?_
   refine oD (.ptr 1 0) (k_alloc (H' := [.box [.d (.lit (List.map e_i64 t)), .d (.int .i64 x71)], .box [.nilc]]) ty26) ?_
   refine oD (.undef) (k_store (vs := [.d (.lit (List.map e_i64 r123))]) (H' := [.box [.d (.lit (List.map e_i64 t)), .d (.int .i64 x71)], .box [.d (.lit (List.map e_i64 r123))]]) 1 0 (hi := ty26)) ?_
   refine oEnd ?_
   refine oSR rfl ?_
   refine oQ (.agg [.d (.lit (List.map e_i64 r123))]) (k_loadAgg 1 0 (hu := Try.underlying26) (hi := ty26)) ?_
   refine bCall (caps := []) (v := (uc fun (r143 : (List Int)) => (fun (r154 : Int) => (.tuple [.agg [.d (.lit (List.map e_i64 r143))], .d (.int .i64 r154)] : V)))) (H' := (uc fun (r143 : (List Int)) => (fun (r154 : Int) => ([.box [.d (.lit (List.map e_i64 t)), .d (.int .i64 x71)], .box [.d (.lit (List.map e_i64 r123))]] : List Blk)))) [] _ (distribution_Smooth_goes k r123) (ho := rfl) (hfn := Try.func24) (hb := rfl) (hconv := ConvRs.refl _ _) (hnd := by decide) (hBl := fun _ => (by kernel_rfl)) (hv := fun _ => (by kernel_rfl)) (hH' := fun _ => (by kernel_rfl)) (h := fun r => ?_)
   obtain ⟨r143, r154⟩ := r
   refine bUc ?_
   refine oP (.tuple [.agg [.d (.lit (List.map e_i64 r143))], .d (.int .i64 r154)]) p_move ?_
   refine oP (.agg [.d (.lit (List.map e_i64 r143))]) k_extract ?_
   refine oP (.d (.int .i64 r154)) k_extract ?_
   refine oD (.ptr 2 0) (k_alloc (H' := [.box [.d (.lit (List.map e_i64 t)), .d (.int .i64 x71)], .box [.d (.lit (List.map e_i64 r123))], .box [.nilc]]) ty26) ?_
   refine oD (.undef) (k_store (vs := [.d (.lit (List.map e_i64 r143))]) (H' := [.box [.d (.lit (List.map e_i64 t)), .d (.int .i64 x71)], .box [.d (.lit (List.map e_i64 r123))], .box [.d (.lit (List.map e_i64 r143))]]) 2 0 (hi := ty26)) ?_
   refine oP (.d (.int .i64 r154)) p_assign ?_
   refine oEnd ?_
   refine oSeq ?_
   refine oSR rfl ?_
   refine oP (.d (.int .i64 r154)) p_move ?_
   refine oP (.d (.bool (r154 != 0))) (p_int (k := .i64) (p := r154) (q := 0)) ?_
   refine oP (.d (.bool (r154 != 0))) p_move ?_
   refine bMeetF (H' := [.box [.d (.lit (List.map e_i64 r123))], .box [.d (.lit (List.map e_i64 r143))]]) 8 rfl ((fun (x11 : Bool) => [(3, .ptr 0 0), (4, .ptr 1 0), (35, .d (.bool x11))])) (fun x11 => ?_) (fun F hj2 => ?_)
   ·refine oView (T' := [(3, .ptr 0 0), (4, .ptr 1 0), (35, .d (.bool x11))]) (H' := [.box [.d (.lit (List.map e_i64 r123))], .box [.d (.lit (List.map e_i64 r143))]]) (h := ?_)
    refine oEnd ?_
    refine bSplit 35 (h1 := fun hc => ?_) (h2 := fun hc => ?_)
    ·refine oCondT (h := ?_)
     refine oSR rfl ?_
     refine oP (.d (.bool false)) p_assign ?_
     refine oEnd ?_
     exact oRet (r0 := false) (rv := .d (.bool false)) (B := []) (vs := [.d (.bool false)]) (σ := []) (hf := Try.func7) (hrs := rfl) (hres := .cons _ _ _ _ (.tmp 2 _ (by kernel_rfl)) .nil) (hnd := by decide)
    ·refine oCondF (h := ?_)
     refine oSkip ?_
     refine oSeq ?_
     refine oSR rfl ?_
     refine oP (.ptr 1 0) (k_fieldAddr 1 0 (hu := Try.underlying26) (hf := rfl) (hi := ty22)) ?_
     refine oQ (.d (.lit (List.map e_i64 r143))) (k_load 1 0 (hu := Try.underlying22)) ?_
     refine oP (.d (.int .i64 ((List.length r143) : Int))) (k_lenLit (enc := e_i64) r143 (hu := Try.underlying22)) ?_
     refine oP (.d (.int .i64 0)) p_move ?_
     refine oEnd ?_
     refine bJoin ((u0 ([(3, .ptr 0 0), (4, .ptr 1 0)]))) ((u0 ([.box [.d (.lit (List.map e_i64 r123))], .box [.d (.lit (List.map e_i64 r143))]]))) Sum.inl (fun s => ?_) (fun hj3 => ?_)
     ·cases s
      refine bInl ?_
      refine bU0 ?_
      refine oView (T' := [(3, .ptr 0 0), (4, .ptr 1 0)]) (H' := [.box [.d (.lit (List.map e_i64 r123))], .box [.d (.lit (List.map e_i64 r143))]]) (h := ?_)
      refine oSR rfl ?_
      refine oP (.ptr 0 0) (k_fieldAddr 0 0 (hu := Try.underlying26) (hf := rfl) (hi := ty22)) ?_
      refine oQ (.d (.lit (List.map e_i64 r123))) (k_load 0 0 (hu := Try.underlying22)) ?_
      refine oP (.d (.int .i64 ((List.length r123) : Int))) (k_lenLit (enc := e_i64) r123 (hu := Try.underlying22)) ?_
      refine oP (.d (.int .i64 (IntKind.wrap .i64 (((List.length r123) : Int) - 1)))) (p_int (k := .i64) (p := ((List.length r123) : Int)) (q := 1)) ?_
      refine bCall (caps := []) (v := (uc fun (r155 : Int) => (uc fun (r161 : Int) => (fun (r171 : Int) => (.tuple [.agg [.d (.int .i64 r155), .d (.int .i64 r161)], .d (.int .i64 r171)] : V))))) (H' := (uc fun (r155 : Int) => (uc fun (r161 : Int) => (fun (r171 : Int) => ([.box [.d (.lit (List.map e_i64 r123))], .box [.d (.lit (List.map e_i64 r143))]] : List Blk))))) [] _ (ref01_New_goes k (IntKind.wrap .i64 (((List.length r123) : Int) - 1)) 2) (ho := rfl) (hfn := Try.func13) (hb := rfl) (hconv := ConvRs.refl _ _) (hnd := by decide) (hBl := fun _ => (by kernel_rfl)) (hv := fun _ => (by kernel_rfl)) (hH' := fun _ => (by kernel_rfl)) (h := fun r => ?_)
      obtain ⟨r155, r161, r171⟩ := r
      refine bUc ?_
      refine bUc ?_
      refine oP (.tuple [.agg [.d (.int .i64 r155), .d (.int .i64 r161)], .d (.int .i64 r171)]) p_move ?_
      refine oP (.agg [.d (.int .i64 r155), .d (.int .i64 r161)]) k_extract ?_
      refine oP (.d (.int .i64 r171)) k_extract ?_
      refine oD (.ptr 2 0) (k_alloc (H' := [.box [.d (.lit (List.map e_i64 r123))], .box [.d (.lit (List.map e_i64 r143))], .box [.d (.int .i64 0), .d (.int .i64 0)]]) ty31) ?_
      refine oD (.undef) (k_store (vs := [.d (.int .i64 r155), .d (.int .i64 r161)]) (H' := [.box [.d (.lit (List.map e_i64 r123))], .box [.d (.lit (List.map e_i64 r143))], .box [.d (.int .i64 r155), .d (.int .i64 r161)]]) 2 0 (hi := ty31)) ?_
      refine oP (.d (.int .i64 r171)) p_assign ?_
      refine oEnd ?_
      refine oSR rfl ?_
      refine oQ (.agg [.d (.lit (List.map e_i64 r123))]) (k_loadAgg 0 0 (hu := Try.underlying26) (hi := ty26)) ?_
      refine bCall (caps := []) (v := (uc fun (r124 : Int) => (uc fun (r144 : Int) => (fun (r156 : Int) => (.tuple [.agg [.d (.int .i64 r124), .d (.int .i64 r144)], .d (.int .i64 r156)] : V))))) (H' := (uc fun (r124 : Int) => (uc fun (r144 : Int) => (fun (r156 : Int) => ([.box [.d (.lit (List.map e_i64 r123))], .box [.d (.lit (List.map e_i64 r143))], .box [.d (.int .i64 r155), .d (.int .i64 r161)]] : List Blk))))) [] _ (distribution_Mean_goes k r123) (ho := rfl) (hfn := Try.func19) (hb := rfl) (hconv := ConvRs.refl _ _) (hnd := by decide) (hBl := fun _ => (by kernel_rfl)) (hv := fun _ => (by kernel_rfl)) (hH' := fun _ => (by kernel_rfl)) (h := fun r => ?_)
      obtain ⟨r124, r144, r156⟩ := r
      refine bUc ?_
      refine bUc ?_
      refine oP (.tuple [.agg [.d (.int .i64 r124), .d (.int .i64 r144)], .d (.int .i64 r156)]) p_move ?_
      refine oP (.agg [.d (.int .i64 r124), .d (.int .i64 r144)]) k_extract ?_
      refine oP (.d (.int .i64 r156)) k_extract ?_
      refine oD (.ptr 3 0) (k_alloc (H' := [.box [.d (.lit (List.map e_i64 r123))], .box [.d (.lit (List.map e_i64 r143))], .box [.d (.int .i64 r155), .d (.int .i64 r161)], .box [.d (.int .i64 0), .d (.int .i64 0)]]) ty31) ?_
      refine oD (.undef) (k_store (vs := [.d (.int .i64 r124), .d (.int .i64 r144)]) (H' := [.box [.d (.lit (List.map e_i64 r123))], .box [.d (.lit (List.map e_i64 r143))], .box [.d (.int .i64 r155), .d (.int .i64 r161)], .box [.d (.int .i64 r124), .d (.int .i64 r144)]]) 3 0 (hi := ty31)) ?_
      refine oP (.d (.int .i64 r156)) p_assign ?_
      refine oEnd ?_
      refine oSR rfl ?_
      refine oQ (.agg [.d (.lit (List.map e_i64 r143))]) (k_loadAgg 1 0 (hu := Try.underlying26) (hi := ty26)) ?_
      refine bCall (caps := []) (v := (uc fun (r125 : Int) => (uc fun (r145 : Int) => (fun (r157 : Int) => (.tuple [.agg [.d (.int .i64 r125), .d (.int .i64 r145)], .d (.int .i64 r157)] : V))))) (H' := (uc fun (r125 : Int) => (uc fun (r145 : Int) => (fun (r157 : Int) => ([.box [.d (.lit (List.map e_i64 r123))], .box [.d (.lit (List.map e_i64 r143))], .box [.d (.int .i64 r155), .d (.int .i64 r161)], .box [.d (.int .i64 r124), .d (.int .i64 r144)]] : List Blk))))) [] _ (distribution_Mean_goes k r143) (ho := rfl) (hfn := Try.func19) (hb := rfl) (hconv := ConvRs.refl _ _) (hnd := by decide) (hBl := fun _ => (by kernel_rfl)) (hv := fun _ => (by kernel_rfl)) (hH' := fun _ => (by kernel_rfl)) (h := fun r => ?_)
      obtain ⟨r125, r145, r157⟩ := r
      refine bUc ?_
      refine bUc ?_
      refine oP (.tuple [.agg [.d (.int .i64 r125), .d (.int .i64 r145)], .d (.int .i64 r157)]) p_move ?_
      refine oP (.agg [.d (.int .i64 r125), .d (.int .i64 r145)]) k_extract ?_
      refine oP (.d (.int .i64 r157)) k_extract ?_
      refine oD (.ptr 4 0) (k_alloc (H' := [.box [.d (.lit (List.map e_i64 r123))], .box [.d (.lit (List.map e_i64 r143))], .box [.d (.int .i64 r155), .d (.int .i64 r161)], .box [.d (.int .i64 r124), .d (.int .i64 r144)], .box [.d (.int .i64 0), .d (.int .i64 0)]]) ty31) ?_
      refine oD (.undef) (k_store (vs := [.d (.int .i64 r125), .d (.int .i64 r145)]) (H' := [.box [.d (.lit (List.map e_i64 r123))], .box [.d (.lit (List.map e_i64 r143))], .box [.d (.int .i64 r155), .d (.int .i64 r161)], .box [.d (.int .i64 r124), .d (.int .i64 r144)], .box [.d (.int .i64 r125), .d (.int .i64 r145)]]) 4 0 (hi := ty31)) ?_
      refine oP (.d (.int .i64 r157)) p_assign ?_
      refine oEnd ?_
      refine oSeq ?_
      refine oSR rfl ?_
      refine oP (.d (.int .i64 r171)) p_move ?_
      refine oP (.d (.bool (r171 != 0))) (p_int (k := .i64) (p := r171) (q := 0)) ?_
      refine oP (.d (.bool (r171 != 0))) p_move ?_
      refine bMeetF (H' := [.box [.d (.int .i64 r155), .d (.int .i64 r161)], .box [.d (.int .i64 r124), .d (.int .i64 r144)], .box [.d (.int .i64 r125), .d (.int .i64 r145)]]) 3 rfl ((fun (x14 : Bool) => [(7, .ptr 0 0), (9, .ptr 1 0), (10, .d (.int .i64 r156)), (11, .ptr 2 0), (78, .d (.bool x14))])) (fun x14 => ?_) (fun F hj4 => ?_)
      ·refine oView (T' := [(7, .ptr 0 0), (9, .ptr 1 0), (10, .d (.int .i64 r156)), (11, .ptr 2 0), (78, .d (.bool x14))]) (H' := [.box [.d (.int .i64 r155), .d (.int .i64 r161)], .box [.d (.int .i64 r124), .d (.int .i64 r144)], .box [.d (.int .i64 r125), .d (.int .i64 r145)]]) (h := ?_)
       refine oEnd ?_
       refine bSplit 78 (h1 := fun hc => ?_) (h2 := fun hc => ?_)
       ·refine oCondT (h := ?_)
        refine oSR rfl ?_
        refine oP (.d (.bool false)) p_assign ?_
        refine oEnd ?_
        exact oRet (r0 := false) (rv := .d (.bool false)) (B := []) (vs := [.d (.bool false)]) (σ := []) (hf := Try.func7) (hrs := rfl) (hres := .cons _ _ _ _ (.tmp 2 _ (by kernel_rfl)) .nil) (hnd := by decide)
       ·refine oCondF (h := ?_)
        refine oSkip ?_
        refine oSeq ?_
        refine oSR rfl ?_
        refine oP (.d (.int .i64 r156)) p_move ?_
        refine oP (.d (.bool (r156 != 0))) (p_int (k := .i64) (p := r156) (q := 0)) ?_
        refine oEnd ?_
        refine bSplit 80 (h1 := fun hc => ?_) (h2 := fun hc => ?_)
        ·refine oCondT (h := ?_)
         refine oSR rfl ?_
         refine oQ (.agg [.d (.int .i64 r125), .d (.int .i64 r145)]) (k_loadAgg 2 0 (hu := Try.underlying31) (hi := ty31)) ?_
         refine oQ (.agg [.d (.int .i64 r155), .d (.int .i64 r161)]) (k_loadAgg 0 0 (hu := Try.underlying31) (hi := ty31)) ?_
         refine oP (.d (.bool ((r125 == r155) && ((r145 == r161) && true)))) (k_eqAgg (hg := Try.eqGuardType31) (h := EqV.struct 1 31 [.d (.int .i64 r125), .d (.int .i64 r145)] [.d (.int .i64 r155), .d (.int .i64 r161)] _ ((r125 == r155) && ((r145 == r161) && true)) Try.underlying31 Try.stoodInHeld31 (EqF.one 1 1 _ _ _ _ _ _ _ (r125 == r155) ((r145 == r161) && true) (by kernel_rfl) Try.underlying3 (by kernel_rfl) (by kernel_rfl) (by kernel_rfl) (by kernel_rfl) (EqV.int 3 .i64 .i64 r125 r155 Try.underlying3) (EqF.one 1 1 _ _ _ _ _ _ _ (r145 == r161) true (by kernel_rfl) Try.underlying3 (by kernel_rfl) (by kernel_rfl) (by kernel_rfl) (by kernel_rfl) (EqV.int 3 .i64 .i64 r145 r161 Try.underlying3) (EqF.nil 1 _ _))))) ?_
         refine oP (.d (.bool ((r125 == r155) && ((r145 == r161) && true)))) p_move ?_
         refine bMeet 2 rfl ((fun (x16 : Bool) => [(86, .d (.bool x16))])) ((fun (x16 : Bool) => [])) (fun s => s) (fun x16 => ?_) (fun hj5 => ?_)
         ·refine oView (T' := [(86, .d (.bool x16))]) (H' := []) (h := ?_)
          refine oP (.d (.bool x16)) p_assign ?_
          refine oEnd ?_
          exact oRet (r0 := x16) (rv := .d (.bool x16)) (B := []) (vs := [.d (.bool x16)]) (σ := []) (hf := Try.func7) (hrs := rfl) (hres := .cons _ _ _ _ (.tmp 2 _ (by kernel_rfl)) .nil) (hnd := by decide)
         ·refine bSplit 84 (h1 := fun hc => ?_) (h2 := fun hc => ?_)
          ·refine bCall (caps := []) (v := (fun (r119 : Bool) => (.d (.bool r119) : V))) (H' := (fun (r119 : Bool) => ([.box [.d (.int .i64 r155), .d (.int .i64 r161)], .box [.d (.int .i64 r124), .d (.int .i64 r144)], .box [.d (.int .i64 r125), .d (.int .i64 r145)]] : List Blk))) [] _ (law32_sane_goes k) (ho := rfl) (hfn := Try.func10) (hb := rfl) (hconv := ConvRs.refl _ _) (hnd := by decide) (hBl := fun _ => (by kernel_rfl)) (hv := fun _ => (by kernel_rfl)) (hH' := fun _ => (by kernel_rfl)) (h := fun r119 => ?_)
           refine oP (.d (.bool r119)) (p_pick (b := true)) ?_
           refine oHead [86] [] (T' := [(86, .d (.bool r119))]) (H' := []) (hnd := by decide) (h := ?_)
           exact hj5 r119
          ·refine oNot (h := ?_)
           refine oP (.d (.bool false)) (p_pick (b := false)) ?_
           refine oHead [86] [] (T' := [(86, .d (.bool false))]) (H' := []) (hnd := by decide) (h := ?_)
           exact hj5 false
        ·refine oCondF (h := ?_)
         refine oSkip ?_
         refine oSR rfl ?_
         refine oQ (.agg [.d (.int .i64 r125), .d (.int .i64 r145)]) (k_loadAgg 2 0 (hu := Try.underlying31) (hi := ty31)) ?_
         refine oQ (.agg [.d (.int .i64 r124), .d (.int .i64 r144)]) (k_loadAgg 1 0 (hu := Try.underlying31) (hi := ty31)) ?_
         refine bCall (caps := []) (v := (fun (r120 : Bool) => (.d (.bool r120) : V))) (H' := (fun (r120 : Bool) => ([.box [.d (.int .i64 r155), .d (.int .i64 r161)], .box [.d (.int .i64 r124), .d (.int .i64 r144)], .box [.d (.int .i64 r125), .d (.int .i64 r145)]] : List Blk))) [] _ (ref01_Less_goes k r125 r145 r124 r144) (ho := rfl) (hfn := Try.func21) (hb := rfl) (hconv := ConvRs.refl _ _) (hnd := by decide) (hBl := fun _ => (by kernel_rfl)) (hv := fun _ => (by kernel_rfl)) (hH' := fun _ => (by kernel_rfl)) (h := fun r120 => ?_)
         refine oP (.d (.bool r120)) p_move ?_
         refine bMeet 4 rfl ((fun (x17 : Bool) => [(7, .ptr 0 0), (9, .ptr 1 0), (11, .ptr 2 0), (94, .d (.bool x17))])) ((fun (x17 : Bool) => [.box [.d (.int .i64 r155), .d (.int .i64 r161)], .box [.d (.int .i64 r124), .d (.int .i64 r144)], .box [.d (.int .i64 r125), .d (.int .i64 r145)]])) (fun s => s) (fun x17 => ?_) (fun hj9 => ?_)
         ·refine oView (T' := [(7, .ptr 0 0), (9, .ptr 1 0), (11, .ptr 2 0), (94, .d (.bool x17))]) (H' := [.box [.d (.int .i64 r155), .d (.int .i64 r161)], .box [.d (.int .i64 r124), .d (.int .i64 r144)], .box [.d (.int .i64 r125), .d (.int .i64 r145)]]) (h := ?_)
          refine oP (.d (.bool (!x17))) (p_not (p := x17)) ?_
          refine oP (.d (.bool (!x17))) p_move ?_
          refine bMeet 10 rfl ((fun (x19 : Bool) => [(106, .d (.bool x19))])) ((fun (x19 : Bool) => [])) (fun s => s) (fun x19 => ?_) (fun hj7 => ?_)
          ·refine oView (T' := [(106, .d (.bool x19))]) (H' := []) (h := ?_)
           refine oP (.d (.bool x19)) p_move ?_
           refine bMeet 2 rfl ((fun (x20 : Bool) => [(109, .d (.bool x20))])) ((fun (x20 : Bool) => [])) (fun s => s) (fun x20 => ?_) (fun hj6 => ?_)
           ·refine oView (T' := [(109, .d (.bool x20))]) (H' := []) (h := ?_)
            refine oP (.d (.bool x20)) p_assign ?_
            refine oEnd ?_
            exact oRet (r0 := x20) (rv := .d (.bool x20)) (B := []) (vs := [.d (.bool x20)]) (σ := []) (hf := Try.func7) (hrs := rfl) (hres := .cons _ _ _ _ (.tmp 2 _ (by kernel_rfl)) .nil) (hnd := by decide)
           ·refine bSplit 107 (h1 := fun hc => ?_) (h2 := fun hc => ?_)
            ·refine bCall (caps := []) (v := (fun (r130 : Bool) => (.d (.bool r130) : V))) (H' := (fun (r130 : Bool) => ([] : List Blk))) [] _ (law32_sane_goes k) (ho := rfl) (hfn := Try.func10) (hb := rfl) (hconv := ConvRs.refl _ _) (hnd := by decide) (hBl := fun _ => (by kernel_rfl)) (hv := fun _ => (by kernel_rfl)) (hH' := fun _ => (by kernel_rfl)) (h := fun r130 => ?_)
             refine oP (.d (.bool r130)) (p_pick (b := true)) ?_
             refine oHead [109] [] (T' := [(109, .d (.bool r130))]) (H' := []) (hnd := by decide) (h := ?_)
             exact hj6 r130
            ·refine oNot (h := ?_)
             refine oP (.d (.bool false)) (p_pick (b := false)) ?_
             refine oHead [109] [] (T' := [(109, .d (.bool false))]) (H' := []) (hnd := by decide) (h := ?_)
             exact hj6 false
          ·refine bSplit 96 (h1 := fun hc => ?_) (h2 := fun hc => ?_)
           ·refine oQ (.agg [.d (.int .i64 r124), .d (.int .i64 r144)]) (k_loadAgg 1 0 (hu := Try.underlying31) (hi := ty31)) ?_
            refine oQ (.agg [.d (.int .i64 r125), .d (.int .i64 r145)]) (k_loadAgg 2 0 (hu := Try.underlying31) (hi := ty31)) ?_
            refine bCall (caps := []) (v := (fun (r131 : Bool) => (.d (.bool r131) : V))) (H' := (fun (r131 : Bool) => ([.box [.d (.int .i64 r155), .d (.int .i64 r161)], .box [.d (.int .i64 r124), .d (.int .i64 r144)], .box [.d (.int .i64 r125), .d (.int .i64 r145)]] : List Blk))) [] _ (ref01_Less_goes k r124 r144 r125 r145) (ho := rfl) (hfn := Try.func21) (hb := rfl) (hconv := ConvRs.refl _ _) (hnd := by decide) (hBl := fun _ => (by kernel_rfl)) (hv := fun _ => (by kernel_rfl)) (hH' := fun _ => (by kernel_rfl)) (h := fun r131 => ?_)
            refine oP (.d (.bool r131)) p_move ?_
            refine bMeet 4 rfl ((fun (x21 : Bool) => [(96, .d (.bool true)), (104, .d (.bool x21))])) ((fun (x21 : Bool) => [])) (fun s => s) (fun x21 => ?_) (fun hj8 => ?_)
            ·refine oView (T' := [(96, .d (.bool true)), (104, .d (.bool x21))]) (H' := []) (h := ?_)
             refine oP (.d (.bool (!x21))) (p_not (p := x21)) ?_
             refine oP (.d (.bool (!x21))) (p_pick (b := true)) ?_
             refine oHead [106] [] (T' := [(106, .d (.bool (!x21)))]) (H' := []) (hnd := by decide) (h := ?_)
             exact hj7 (!x21)
            ·refine bSplit 100 (h1 := fun hc => ?_) (h2 := fun hc => ?_)
             ·refine oQ (.agg [.d (.int .i64 r155), .d (.int .i64 r161)]) (k_loadAgg 0 0 (hu := Try.underlying31) (hi := ty31)) ?_
              refine oQ (.agg [.d (.int .i64 r125), .d (.int .i64 r145)]) (k_loadAgg 2 0 (hu := Try.underlying31) (hi := ty31)) ?_
              refine bCall (caps := []) (v := (fun (r133 : Bool) => (.d (.bool r133) : V))) (H' := (fun (r133 : Bool) => ([.box [.d (.int .i64 r155), .d (.int .i64 r161)], .box [.d (.int .i64 r124), .d (.int .i64 r144)], .box [.d (.int .i64 r125), .d (.int .i64 r145)]] : List Blk))) [] _ (ref01_Less_goes k r155 r161 r125 r145) (ho := rfl) (hfn := Try.func21) (hb := rfl) (hconv := ConvRs.refl _ _) (hnd := by decide) (hBl := fun _ => (by kernel_rfl)) (hv := fun _ => (by kernel_rfl)) (hH' := fun _ => (by kernel_rfl)) (h := fun r133 => ?_)
              refine oP (.d (.bool r133)) (p_pick (b := true)) ?_
              refine oHead [96, 104] [] (T' := [(96, .d (.bool true)), (104, .d (.bool r133))]) (H' := []) (hnd := by decide) (h := ?_)
              exact hj8 r133
             ·refine oNot (h := ?_)
              refine oNot (h := ?_)
              refine oNot (h := ?_)
              refine oP (.d (.bool false)) (p_pick (b := false)) ?_
              refine oHead [96, 104] [] (T' := [(96, .d (.bool true)), (104, .d (.bool false))]) (H' := []) (hnd := by decide) (h := ?_)
              exact hj8 false
           ·refine oNot (h := ?_)
            refine oNot (h := ?_)
            refine oNot (h := ?_)
            refine oNot (h := ?_)
            refine oNot (h := ?_)
            refine oNot (h := ?_)
            refine oNot (h := ?_)
            refine oNot (h := ?_)
            refine oNot (h := ?_)
            refine oP (.d (.bool false)) (p_pick (b := false)) ?_
            refine oHead [106] [] (T' := [(106, .d (.bool false))]) (H' := []) (hnd := by decide) (h := ?_)
            exact hj7 false
         ·refine bSplit 90 (h1 := fun hc => ?_) (h2 := fun hc => ?_)
          ·refine oQ (.agg [.d (.int .i64 r125), .d (.int .i64 r145)]) (k_loadAgg 2 0 (hu := Try.underlying31) (hi := ty31)) ?_
           refine oQ (.agg [.d (.int .i64 r155), .d (.int .i64 r161)]) (k_loadAgg 0 0 (hu := Try.underlying31) (hi := ty31)) ?_
           refine bCall (caps := []) (v := (fun (r134 : Bool) => (.d (.bool r134) : V))) (H' := (fun (r134 : Bool) => ([.box [.d (.int .i64 r155), .d (.int .i64 r161)], .box [.d (.int .i64 r124), .d (.int .i64 r144)], .box [.d (.int .i64 r125), .d (.int .i64 r145)]] : List Blk))) [] _ (ref01_Less_goes k r125 r145 r155 r161) (ho := rfl) (hfn := Try.func21) (hb := rfl) (hconv := ConvRs.refl _ _) (hnd := by decide) (hBl := fun _ => (by kernel_rfl)) (hv := fun _ => (by kernel_rfl)) (hH' := fun _ => (by kernel_rfl)) (h := fun r134 => ?_)
           refine oP (.d (.bool r134)) (p_pick (b := true)) ?_
           refine oHead [7, 9, 11, 94] [0, 1, 2] (T' := [(7, .ptr 0 0), (9, .ptr 1 0), (11, .ptr 2 0), (94, .d (.bool r134))]) (H' := [.box [.d (.int .i64 r155), .d (.int .i64 r161)], .box [.d (.int .i64 r124), .d (.int .i64 r144)], .box [.d (.int .i64 r125), .d (.int .i64 r145)]]) (hnd := by decide) (h := ?_)
           exact hj9 r134
          ·refine oNot (h := ?_)
           refine oNot (h := ?_)
           refine oNot (h := ?_)
           refine oP (.d (.bool false)) (p_pick (b := false)) ?_
           refine oHead [7, 9, 11, 94] [0, 1, 2] (T' := [(7, .ptr 0 0), (9, .ptr 1 0), (11, .ptr 2 0), (94, .d (.bool false))]) (H' := [.box [.d (.int .i64 r155), .d (.int .i64 r161)], .box [.d (.int .i64 r124), .d (.int .i64 r144)], .box [.d (.int .i64 r125), .d (.int .i64 r145)]]) (hnd := by decide) (h := ?_)
           exact hj9 false
      ·refine bPickF 75 (fun c => F (c || (r157 != 0))) (h1 := fun hc => ?_) (h2 := fun hc => ?_)
       ·refine oNot (h := ?_)
        refine oNot (h := ?_)
        refine oP (.d (.bool true)) (p_pick (b := true)) ?_
        refine oHead [7, 9, 10, 11, 78] [2, 3, 4] (T' := [(7, .ptr 0 0), (9, .ptr 1 0), (10, .d (.int .i64 r156)), (11, .ptr 2 0), (78, .d (.bool true))]) (H' := [.box [.d (.int .i64 r155), .d (.int .i64 r161)], .box [.d (.int .i64 r124), .d (.int .i64 r144)], .box [.d (.int .i64 r125), .d (.int .i64 r145)]]) (hnd := by decide) (h := ?_)
        exact hj4 true
       ·refine oP (.d (.int .i64 r157)) p_move ?_
        refine oP (.d (.bool (r157 != 0))) (p_int (k := .i64) (p := r157) (q := 0)) ?_
        refine oP (.d (.bool (r157 != 0))) (p_pick (b := false)) ?_
        refine oHead [7, 9, 10, 11, 78] [2, 3, 4] (T' := [(7, .ptr 0 0), (9, .ptr 1 0), (10, .d (.int .i64 r156)), (11, .ptr 2 0), (78, .d (.bool (r157 != 0)))]) (H' := [.box [.d (.int .i64 r155), .d (.int .i64 r161)], .box [.d (.int .i64 r124), .d (.int .i64 r144)], .box [.d (.int .i64 r125), .d (.int .i64 r145)]]) (hnd := by decide) (h := ?_)
        exact hj4 (r157 != 0)
     ·refine oBlock ?_
      refine oLoop ?_
      refine oHead [3, 4, 38, 39] [0, 1] (T' := [(3, .ptr 0 0), (4, .ptr 1 0), (38, .d (.int .i64 ((List.length r143) : Int))), (39, .d (.int .i64 0))]) (H' := [.box [.d (.lit (List.map e_i64 r123))], .box [.d (.lit (List.map e_i64 r143))]]) (hnd := by decide) (h := ?_)
      refine bLoop (body := law32_DistributionSmooth_b1 k r123 r143) ((fun (x22 : Int) => [(3, .ptr 0 0), (4, .ptr 1 0), (38, .d (.int .i64 ((List.length r143) : Int))), (39, .d (.int .i64 x22))])) ((fun (x22 : Int) => [.box [.d (.lit (List.map e_i64 r123))], .box [.d (.lit (List.map e_i64 r143))]])) (fun again hag1 x22 => ?_) k 0
      ·unfold law32_DistributionSmooth_b1
       refine oView (T' := [(3, .ptr 0 0), (4, .ptr 1 0), (38, .d (.int .i64 ((List.length r143) : Int))), (39, .d (.int .i64 x22))]) (H' := [.box [.d (.lit (List.map e_i64 r123))], .box [.d (.lit (List.map e_i64 r143))]]) (h := ?_)
       refine oSR rfl ?_
       refine oP (.d (.bool (decide (x22 < ((List.length r143) : Int))))) (p_int (k := .i64) (p := x22) (q := ((List.length r143) : Int))) ?_
       refine oEnd ?_
       refine oSeq ?_
       refine bSplit 40 (h1 := fun hc => ?_) (h2 := fun hc => ?_)
       ·refine oCondT (h := ?_)
        refine oSkip ?_
        refine oSeq ?_
        refine oBlock ?_
        refine oSR rfl ?_
        refine oP (.d (.int .i64 x22)) p_move ?_
        refine oP (.d (.int .i64 x22)) p_assign ?_
        refine oEnd ?_
        refine oSeq ?_
        refine oDraw [(0, 12), (1, 12)] rfl ?_
        refine aP 0 (.ptr 1 0) rfl (k_fieldAddr 1 0 (hu := Try.underlying26) (hf := rfl) (hi := ty22)) ?_
        refine aQ 1 [1] (.d (.lit (List.map e_i64 r143))) rfl (k_load 1 0 (hu := Try.underlying22)) ?_
        refine aP 2 (.d (.int .i64 x22)) rfl p_move ?_
        refine dIdx (fun e1 h1 h11 => ?_)
        refine aP 3 (.lptr (e_i64 e1) 0) rfl (k_idxLit e_i64_len r143 (a := e1) (k := .i64) (i := x22) (hu := Try.underlying22) (hi := ty3) (h0 := h1) (he := h11)) ?_
        refine aQ 4 [] (.d (.int .i64 e1)) rfl (k_loadL (cells := e_i64 e1) 0 (hu := Try.underlying3)) ?_
        refine aP 5 (.ptr 0 0) rfl (k_fieldAddr 0 0 (hu := Try.underlying26) (hf := rfl) (hi := ty22)) ?_
        refine aQ 6 [0] (.d (.lit (List.map e_i64 r123))) rfl (k_load 0 0 (hu := Try.underlying22)) ?_
        refine aP 7 (.d (.int .i64 x22)) rfl p_move ?_
        refine dIdx (fun e11 h12 h13 => ?_)
        refine aP 8 (.lptr (e_i64 e11) 0) rfl (k_idxLit e_i64_len r123 (a := e11) (k := .i64) (i := x22) (hu := Try.underlying22) (hi := ty3) (h0 := h12) (he := h13)) ?_
        refine aQ 9 [] (.d (.int .i64 e11)) rfl (k_loadL (cells := e_i64 e11) 0 (hu := Try.underlying3)) ?_
        refine aP 10 (.d (.int .i64 (IntKind.wrap .i64 (e11 + 1)))) rfl (p_int (k := .i64) (p := e11) (q := 1)) ?_
        refine aP 11 (.d (.bool (e1 != (IntKind.wrap .i64 (e11 + 1))))) rfl (p_int (k := .i64) (p := e1) (q := (IntKind.wrap .i64 (e11 + 1)))) ?_
        refine aDone (h := ?_)
        refine bSplit 53 (h1 := fun hc => ?_) (h2 := fun hc => ?_)
        ·refine oCondT (h := ?_)
         refine oSR rfl ?_
         refine oP (.d (.bool false)) p_assign ?_
         refine oEnd ?_
         exact oRet (r0 := false) (rv := .d (.bool false)) (B := []) (vs := [.d (.bool false)]) (σ := []) (hf := Try.func7) (hrs := rfl) (hres := .cons _ _ _ _ (.tmp 2 _ (by kernel_rfl)) .nil) (hnd := by decide)
        ·refine oCondF (h := ?_)
         refine oSkip ?_
         refine oBlk ?_
         refine oRegion rfl ?_
         refine oP (.d (.int .i64 (IntKind.wrap .i64 (x22 + 1)))) (p_int (k := .i64) (p := x22) (q := 1)) ?_
         refine oP (.d (.int .i64 (IntKind.wrap .i64 (x22 + 1)))) p_move ?_
         refine oEnd ?_
         refine oAgain ?_
         refine oHead [3, 4, 38, 39] [0, 1] (T' := [(3, .ptr 0 0), (4, .ptr 1 0), (38, .d (.int .i64 ((List.length r143) : Int))), (39, .d (.int .i64 (IntKind.wrap .i64 (x22 + 1))))]) (H' := [.box [.d (.lit (List.map e_i64 r123))], .box [.d (.lit (List.map e_i64 r143))]]) (hnd := by decide) (h := ?_)
         exact hag1 (IntKind.wrap .i64 (x22 + 1))
       ·refine oCondF (h := ?_)
        refine oExit rfl ?_
        refine oHead [3, 4] [0, 1] (T' := [(3, .ptr 0 0), (4, .ptr 1 0)]) (H' := [.box [.d (.lit (List.map e_i64 r123))], .box [.d (.lit (List.map e_i64 r143))]]) (hnd := by decide) (h := ?_)
        exact hj3 ()
   ·refine bPickF 27 (fun c => F (c || (((List.length r143) : Int) != ((List.length r123) : Int)))) (h1 := fun hc => ?_) (h2 := fun hc => ?_)
    ·refine oNot (h := ?_)
     refine oNot (h := ?_)
     refine oNot (h := ?_)
     refine oNot (h := ?_)
     refine oNot (h := ?_)
     refine oNot (h := ?_)
     refine oNot (h := ?_)
     refine oP (.d (.bool true)) (p_pick (b := true)) ?_
     refine oHead [3, 4, 35] [1, 2] (T' := [(3, .ptr 0 0), (4, .ptr 1 0), (35, .d (.bool true))]) (H' := [.box [.d (.lit (List.map e_i64 r123))], .box [.d (.lit (List.map e_i64 r143))]]) (hnd := by decide) (h := ?_)
     exact hj2 true
    ·refine oP (.ptr 2 0) (k_fieldAddr 2 0 (hu := Try.underlying26) (hf := rfl) (hi := ty22)) ?_
     refine oQ (.d (.lit (List.map e_i64 r143))) (k_load 2 0 (hu := Try.underlying22)) ?_
     refine oP (.d (.int .i64 ((List.length r143) : Int))) (k_lenLit (enc := e_i64) r143 (hu := Try.underlying22)) ?_
     refine oP (.ptr 1 0) (k_fieldAddr 1 0 (hu := Try.underlying26) (hf := rfl) (hi := ty22)) ?_
     refine oQ (.d (.lit (List.map e_i64 r123))) (k_load 1 0 (hu := Try.underlying22)) ?_
     refine oP (.d (.int .i64 ((List.length r123) : Int))) (k_lenLit (enc := e_i64) r123 (hu := Try.underlying22)) ?_
     refine oP (.d (.bool (((List.length r143) : Int) != ((List.length r123) : Int)))) (p_int (k := .i64) (p := ((List.length r143) : Int)) (q := ((List.length r123) : Int))) ?_
     refine oP (.d (.bool (((List.length r143) : Int) != ((List.length r123) : Int)))) (p_pick (b := false)) ?_
     refine oHead [3, 4, 35] [1, 2] (T' := [(3, .ptr 0 0), (4, .ptr 1 0), (35, .d (.bool (((List.length r143) : Int) != ((List.length r123) : Int))))]) (H' := [.box [.d (.lit (List.map e_i64 r123))], .box [.d (.lit (List.map e_i64 r143))]]) (hnd := by decide) (h := ?_)
     exact hj2 (((List.length r143) : Int) != ((List.length r123) : Int))

end Go.VM
