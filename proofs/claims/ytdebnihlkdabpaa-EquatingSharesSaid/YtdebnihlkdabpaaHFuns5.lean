/- Plain functions that answer as the program's functions do, and the proof that they do. -/
import Derived.Test.YtdebnihlkdabpaaProg
import Derived.KernelRfl
import Derived.Test.YtdebnihlkdabpaaEngX
import Derived.Test.YtdebnihlkdabpaaHFacts
import Derived.Test.YtdebnihlkdabpaaHFuns0
import Derived.Test.YtdebnihlkdabpaaHFuns3
import Derived.Test.YtdebnihlkdabpaaHFuns4
namespace Go.VM
open Go.Proofs
set_option linter.unusedVariables false
set_option linter.unusedSimpArgs false
set_option maxRecDepth 100000
/-- awardingbody/awardingbodyref01.Reduce -/
def ref01_Reduce (k : Nat) (negative : Bool) (num0 : Int) (num1 : Int) (den0 : Int) (den1 : Int) : Option (Int × Int × Int) := Option.bind (ref01_Divisor k num0 num1 den0 den1) (uc fun r15 => fun r111 => Option.bind (ref01_Divide k num0 num1 r15 r111) (uc fun r172 => uc fun r182 => uc fun r192 => fun r1102 => Option.bind (ref01_Divide k den0 den1 r15 r111) (uc fun r173 => uc fun r183 => uc fun r193 => fun r1103 => blet ((decide (r172 > 0)) || (decide (r173 > 0))) fun x5 => blet (x5 || (decide (r182 > 1152921504606846976))) fun x6 => blet (x6 || (decide (r183 > 1152921504606846976))) fun x7 => bif x7 then some (0, 0, 6) else Option.bind (bif negative then some ((IntKind.wrap .i64 (0 - (IntKind.wrap .i64 r182))), (IntKind.wrap .i64 r183)) else some ((IntKind.wrap .i64 r182), (IntKind.wrap .i64 r183)) : Option (Int × Int)) (uc fun x8 => fun x9 => some (x8, x9, 0)))))
def ref01_Reduce_E (negative : Bool) (num0 : Int) (num1 : Int) (den0 : Int) (den1 : Int) : Int × Int × Int → V × List Blk := uc fun r12 => uc fun r13 => fun r14 => (.tuple [.agg [.d (.int .i64 r12), .d (.int .i64 r13)], .d (.int .i64 r14)], [])
theorem ref01_Reduce_goes (k : Nat) (negative : Bool) (num0 : Int) (num1 : Int) (den0 : Int) (den1 : Int) : RunsO Try.prog 36 [.d (.bool negative), .agg [.d (.int .u64 num0), .d (.int .u64 num1)], .agg [.d (.int .u64 den0), .d (.int .u64 den1)]] [] (ref01_Reduce_E negative num0 num1 den0 den1) (ref01_Reduce k negative num0 num1 den0 den1) := by
  refine RunsO.of_goes (N := 61) (m := 0) (T := [(0, .d (.bool negative)), (1, .agg [.d (.int .u64 num0), .d (.int .u64 num1)]), (2, .agg [.d (.int .u64 den0), .d (.int .u64 den1)])]) Try.func36 rfl rfl (h := ?_)
  unfold ref01_Reduce
  refine bStart ?_
  refine oSR rfl ?_
  refine oD (.ptr 0 0) (k_box (H' := [.box [.d (.int .u64 num0), .d (.int .u64 num1)]]) (cells := [.d (.int .u64 num0), .d (.int .u64 num1)])) ?_
  refine oD (.ptr 1 0) (k_box (H' := [.box [.d (.int .u64 num0), .d (.int .u64 num1)], .box [.d (.int .u64 den0), .d (.int .u64 den1)]]) (cells := [.d (.int .u64 den0), .d (.int .u64 den1)])) ?_
  refine oD (.ptr 2 0) (k_alloc (H' := [.box [.d (.int .u64 num0), .d (.int .u64 num1)], .box [.d (.int .u64 den0), .d (.int .u64 den1)], .box [.d (.int .i64 0), .d (.int .i64 0)]]) ty38) ?_
  refine oP (.d (.int .i64 0)) p_assign ?_
  refine oEnd ?_
  refine oSR rfl ?_
  refine oQ (.agg [.d (.int .u64 num0), .d (.int .u64 num1)]) (k_loadAgg 0 0 (hu := Try.underlying65) (hi := ty65)) ?_
  refine oQ (.agg [.d (.int .u64 den0), .d (.int .u64 den1)]) (k_loadAgg 1 0 (hu := Try.underlying65) (hi := ty65)) ?_
  refine bCall (caps := []) (v := (uc fun (r15 : Int) => (fun (r111 : Int) => (.agg [.d (.int .u64 r15), .d (.int .u64 r111)] : V)))) (H' := (uc fun (r15 : Int) => (fun (r111 : Int) => ([.box [.d (.int .u64 num0), .d (.int .u64 num1)], .box [.d (.int .u64 den0), .d (.int .u64 den1)], .box [.d (.int .i64 0), .d (.int .i64 0)]] : List Blk)))) [] _ (ref01_Divisor_goes k num0 num1 den0 den1) (ho := rfl) (hfn := Try.func62) (hb := rfl) (hconv := ConvRs.refl _ _) (hnd := by decide) (hBl := fun _ => (by kernel_rfl)) (hv := fun _ => (by kernel_rfl)) (hH' := fun _ => (by kernel_rfl)) (h := fun r => ?_)
  obtain ⟨r15, r111⟩ := r
  refine bUc ?_
  refine oD (.ptr 3 0) (k_alloc (H' := [.box [.d (.int .u64 num0), .d (.int .u64 num1)], .box [.d (.int .u64 den0), .d (.int .u64 den1)], .box [.d (.int .i64 0), .d (.int .i64 0)], .box [.d (.int .u64 0), .d (.int .u64 0)]]) ty65) ?_
  refine oD (.undef) (k_store (vs := [.d (.int .u64 r15), .d (.int .u64 r111)]) (H' := [.box [.d (.int .u64 num0), .d (.int .u64 num1)], .box [.d (.int .u64 den0), .d (.int .u64 den1)], .box [.d (.int .i64 0), .d (.int .i64 0)], .box [.d (.int .u64 r15), .d (.int .u64 r111)]]) 3 0 (hi := ty65)) ?_
  refine oEnd ?_
  refine oSR rfl ?_
  refine oQ (.agg [.d (.int .u64 num0), .d (.int .u64 num1)]) (k_loadAgg 0 0 (hu := Try.underlying65) (hi := ty65)) ?_
  refine oQ (.agg [.d (.int .u64 r15), .d (.int .u64 r111)]) (k_loadAgg 3 0 (hu := Try.underlying65) (hi := ty65)) ?_
  refine bCall (caps := []) (v := (uc fun (r172 : Int) => (uc fun (r182 : Int) => (uc fun (r192 : Int) => (fun (r1102 : Int) => (.tuple [.agg [.d (.int .u64 r172), .d (.int .u64 r182)], .agg [.d (.int .u64 r192), .d (.int .u64 r1102)]] : V)))))) (H' := (uc fun (r172 : Int) => (uc fun (r182 : Int) => (uc fun (r192 : Int) => (fun (r1102 : Int) => ([.box [.d (.int .u64 num0), .d (.int .u64 num1)], .box [.d (.int .u64 den0), .d (.int .u64 den1)], .box [.d (.int .i64 0), .d (.int .i64 0)], .box [.d (.int .u64 r15), .d (.int .u64 r111)]] : List Blk)))))) [] _ (ref01_Divide_goes k num0 num1 r15 r111) (ho := rfl) (hfn := Try.func63) (hb := rfl) (hconv := ConvRs.refl _ _) (hnd := by decide) (hBl := fun _ => (by kernel_rfl)) (hv := fun _ => (by kernel_rfl)) (hH' := fun _ => (by kernel_rfl)) (h := fun r => ?_)
  obtain ⟨r172, r182, r192, r1102⟩ := r
  refine bUc ?_
  refine bUc ?_
  refine bUc ?_
  refine oP (.tuple [.agg [.d (.int .u64 r172), .d (.int .u64 r182)], .agg [.d (.int .u64 r192), .d (.int .u64 r1102)]]) p_move ?_
  refine oP (.agg [.d (.int .u64 r172), .d (.int .u64 r182)]) k_extract ?_
  refine oP (.agg [.d (.int .u64 r192), .d (.int .u64 r1102)]) k_extract ?_
  refine oD (.ptr 4 0) (k_alloc (H' := [.box [.d (.int .u64 num0), .d (.int .u64 num1)], .box [.d (.int .u64 den0), .d (.int .u64 den1)], .box [.d (.int .i64 0), .d (.int .i64 0)], .box [.d (.int .u64 r15), .d (.int .u64 r111)], .box [.d (.int .u64 0), .d (.int .u64 0)]]) ty65) ?_
  refine oD (.ptr 5 0) (k_alloc (H' := [.box [.d (.int .u64 num0), .d (.int .u64 num1)], .box [.d (.int .u64 den0), .d (.int .u64 den1)], .box [.d (.int .i64 0), .d (.int .i64 0)], .box [.d (.int .u64 r15), .d (.int .u64 r111)], .box [.d (.int .u64 0), .d (.int .u64 0)], .box [.d (.int .u64 0), .d (.int .u64 0)]]) ty65) ?_
  refine oD (.undef) (k_store (vs := [.d (.int .u64 r172), .d (.int .u64 r182)]) (H' := [.box [.d (.int .u64 num0), .d (.int .u64 num1)], .box [.d (.int .u64 den0), .d (.int .u64 den1)], .box [.d (.int .i64 0), .d (.int .i64 0)], .box [.d (.int .u64 r15), .d (.int .u64 r111)], .box [.d (.int .u64 r172), .d (.int .u64 r182)], .box [.d (.int .u64 0), .d (.int .u64 0)]]) 4 0 (hi := ty65)) ?_
  refine oD (.undef) (k_store (vs := [.d (.int .u64 r192), .d (.int .u64 r1102)]) (H' := [.box [.d (.int .u64 num0), .d (.int .u64 num1)], .box [.d (.int .u64 den0), .d (.int .u64 den1)], .box [.d (.int .i64 0), .d (.int .i64 0)], .box [.d (.int .u64 r15), .d (.int .u64 r111)], .box [.d (.int .u64 r172), .d (.int .u64 r182)], .box [.d (.int .u64 r192), .d (.int .u64 r1102)]]) 5 0 (hi := ty65)) ?_
  refine oEnd ?_
  refine oSR rfl ?_
  refine oQ (.agg [.d (.int .u64 den0), .d (.int .u64 den1)]) (k_loadAgg 1 0 (hu := Try.underlying65) (hi := ty65)) ?_
  refine oQ (.agg [.d (.int .u64 r15), .d (.int .u64 r111)]) (k_loadAgg 3 0 (hu := Try.underlying65) (hi := ty65)) ?_
  refine bCall (caps := []) (v := (uc fun (r173 : Int) => (uc fun (r183 : Int) => (uc fun (r193 : Int) => (fun (r1103 : Int) => (.tuple [.agg [.d (.int .u64 r173), .d (.int .u64 r183)], .agg [.d (.int .u64 r193), .d (.int .u64 r1103)]] : V)))))) (H' := (uc fun (r173 : Int) => (uc fun (r183 : Int) => (uc fun (r193 : Int) => (fun (r1103 : Int) => ([.box [.d (.int .u64 num0), .d (.int .u64 num1)], .box [.d (.int .u64 den0), .d (.int .u64 den1)], .box [.d (.int .i64 0), .d (.int .i64 0)], .box [.d (.int .u64 r15), .d (.int .u64 r111)], .box [.d (.int .u64 r172), .d (.int .u64 r182)], .box [.d (.int .u64 r192), .d (.int .u64 r1102)]] : List Blk)))))) [] _ (ref01_Divide_goes k den0 den1 r15 r111) (ho := rfl) (hfn := Try.func63) (hb := rfl) (hconv := ConvRs.refl _ _) (hnd := by decide) (hBl := fun _ => (by kernel_rfl)) (hv := fun _ => (by kernel_rfl)) (hH' := fun _ => (by kernel_rfl)) (h := fun r => ?_)
  obtain ⟨r173, r183, r193, r1103⟩ := r
  refine bUc ?_
  refine bUc ?_
  refine bUc ?_
  refine oP (.tuple [.agg [.d (.int .u64 r173), .d (.int .u64 r183)], .agg [.d (.int .u64 r193), .d (.int .u64 r1103)]]) p_move ?_
  refine oP (.agg [.d (.int .u64 r173), .d (.int .u64 r183)]) k_extract ?_
  refine oP (.agg [.d (.int .u64 r193), .d (.int .u64 r1103)]) k_extract ?_
  refine oD (.ptr 6 0) (k_alloc (H' := [.box [.d (.int .u64 num0), .d (.int .u64 num1)], .box [.d (.int .u64 den0), .d (.int .u64 den1)], .box [.d (.int .i64 0), .d (.int .i64 0)], .box [.d (.int .u64 r15), .d (.int .u64 r111)], .box [.d (.int .u64 r172), .d (.int .u64 r182)], .box [.d (.int .u64 r192), .d (.int .u64 r1102)], .box [.d (.int .u64 0), .d (.int .u64 0)]]) ty65) ?_
  refine oD (.ptr 7 0) (k_alloc (H' := [.box [.d (.int .u64 num0), .d (.int .u64 num1)], .box [.d (.int .u64 den0), .d (.int .u64 den1)], .box [.d (.int .i64 0), .d (.int .i64 0)], .box [.d (.int .u64 r15), .d (.int .u64 r111)], .box [.d (.int .u64 r172), .d (.int .u64 r182)], .box [.d (.int .u64 r192), .d (.int .u64 r1102)], .box [.d (.int .u64 0), .d (.int .u64 0)], .box [.d (.int .u64 0), .d (.int .u64 0)]]) ty65) ?_
  refine oD (.undef) (k_store (vs := [.d (.int .u64 r173), .d (.int .u64 r183)]) (H' := [.box [.d (.int .u64 num0), .d (.int .u64 num1)], .box [.d (.int .u64 den0), .d (.int .u64 den1)], .box [.d (.int .i64 0), .d (.int .i64 0)], .box [.d (.int .u64 r15), .d (.int .u64 r111)], .box [.d (.int .u64 r172), .d (.int .u64 r182)], .box [.d (.int .u64 r192), .d (.int .u64 r1102)], .box [.d (.int .u64 r173), .d (.int .u64 r183)], .box [.d (.int .u64 0), .d (.int .u64 0)]]) 6 0 (hi := ty65)) ?_
  refine oD (.undef) (k_store (vs := [.d (.int .u64 r193), .d (.int .u64 r1103)]) (H' := [.box [.d (.int .u64 num0), .d (.int .u64 num1)], .box [.d (.int .u64 den0), .d (.int .u64 den1)], .box [.d (.int .i64 0), .d (.int .i64 0)], .box [.d (.int .u64 r15), .d (.int .u64 r111)], .box [.d (.int .u64 r172), .d (.int .u64 r182)], .box [.d (.int .u64 r192), .d (.int .u64 r1102)], .box [.d (.int .u64 r173), .d (.int .u64 r183)], .box [.d (.int .u64 r193), .d (.int .u64 r1103)]]) 7 0 (hi := ty65)) ?_
  refine oEnd ?_
  refine oSeq ?_
  refine oSR rfl ?_
  refine oP (.ptr 4 0) (k_fieldAddr 4 0 (hu := Try.underlying65) (hf := rfl) (hi := ty62)) ?_
  refine oQ (.d (.int .u64 r172)) (k_load 4 0 (hu := Try.underlying62)) ?_
  refine oP (.d (.bool (decide (r172 > 0)))) (p_int (k := .u64) (p := r172) (q := 0)) ?_
  refine oP (.d (.bool (decide (r172 > 0)))) p_move ?_
  refine bMeetF (H' := [.box [.d (.int .i64 0), .d (.int .i64 0)], .box [.d (.int .u64 r172), .d (.int .u64 r182)], .box [.d (.int .u64 r173), .d (.int .u64 r183)]]) 4 rfl ((fun (x5 : Bool) => [(0, .d (.bool negative)), (6, .ptr 0 0), (9, .ptr 1 0), (11, .ptr 2 0), (36, .d (.bool x5))])) (fun x5 => ?_) (fun F hj2 => ?_)
  ·refine oView (T' := [(0, .d (.bool negative)), (6, .ptr 0 0), (9, .ptr 1 0), (11, .ptr 2 0), (36, .d (.bool x5))]) (H' := [.box [.d (.int .i64 0), .d (.int .i64 0)], .box [.d (.int .u64 r172), .d (.int .u64 r182)], .box [.d (.int .u64 r173), .d (.int .u64 r183)]]) (h := ?_)
   refine oP (.d (.bool x5)) p_move ?_
   refine bMeetF (H' := [.box [.d (.int .i64 0), .d (.int .i64 0)], .box [.d (.int .u64 r172), .d (.int .u64 r182)], .box [.d (.int .u64 r173), .d (.int .u64 r183)]]) 4 rfl ((fun (x6 : Bool) => [(0, .d (.bool negative)), (6, .ptr 0 0), (9, .ptr 1 0), (11, .ptr 2 0), (41, .d (.bool x6))])) (fun x6 => ?_) (fun F hj3 => ?_)
   ·refine oView (T' := [(0, .d (.bool negative)), (6, .ptr 0 0), (9, .ptr 1 0), (11, .ptr 2 0), (41, .d (.bool x6))]) (H' := [.box [.d (.int .i64 0), .d (.int .i64 0)], .box [.d (.int .u64 r172), .d (.int .u64 r182)], .box [.d (.int .u64 r173), .d (.int .u64 r183)]]) (h := ?_)
    refine oP (.d (.bool x6)) p_move ?_
    refine bMeetF (H' := [.box [.d (.int .i64 0), .d (.int .i64 0)], .box [.d (.int .u64 r172), .d (.int .u64 r182)], .box [.d (.int .u64 r173), .d (.int .u64 r183)]]) 4 rfl ((fun (x7 : Bool) => [(0, .d (.bool negative)), (6, .ptr 0 0), (9, .ptr 1 0), (11, .ptr 2 0), (46, .d (.bool x7))])) (fun x7 => ?_) (fun F hj4 => ?_)
    ·refine oView (T' := [(0, .d (.bool negative)), (6, .ptr 0 0), (9, .ptr 1 0), (11, .ptr 2 0), (46, .d (.bool x7))]) (H' := [.box [.d (.int .i64 0), .d (.int .i64 0)], .box [.d (.int .u64 r172), .d (.int .u64 r182)], .box [.d (.int .u64 r173), .d (.int .u64 r183)]]) (h := ?_)
     refine oEnd ?_
     refine bSplit 46 (h1 := fun hc => ?_) (h2 := fun hc => ?_)
     ·refine oCondT (h := ?_)
      refine oSR rfl ?_
      refine oP (.agg [.d (.int .i64 0), .d (.int .i64 0)]) (p_build bld38) ?_
      refine oD (.undef) (k_store (vs := [.d (.int .i64 0), .d (.int .i64 0)]) (H' := [.box [.d (.int .i64 0), .d (.int .i64 0)], .box [.d (.int .u64 r172), .d (.int .u64 r182)], .box [.d (.int .u64 r173), .d (.int .u64 r183)]]) 0 0 (hi := ty38)) ?_
      refine oP (.d (.int .i64 6)) p_assign ?_
      refine oEnd ?_
      exact oRet (r0 := (0, 0, 6)) (rv := .tuple [.agg [.d (.int .i64 0), .d (.int .i64 0)], .d (.int .i64 6)]) (B := []) (vs := [.agg [.d (.int .i64 0), .d (.int .i64 0)], .d (.int .i64 6)]) (σ := []) (hf := Try.func36) (hrs := rfl) (hres := .cons _ _ _ _ (.agg 6 38 0 0 [.d (.int .i64 0), .d (.int .i64 0)] [.d (.int .i64 0), .d (.int .i64 0)] _ _ _ _ (by kernel_rfl) (by kernel_rfl) Try.underlying38 (by kernel_rfl) ty38 (by kernel_rfl) (by kernel_rfl)) (.cons _ _ _ _ (.tmp 7 _ (by kernel_rfl)) .nil)) (hnd := by decide)
     ·refine oCondF (h := ?_)
      refine oSkip ?_
      refine oSR rfl ?_
      refine oP (.ptr 1 1) (k_fieldAddr 1 0 (hu := Try.underlying65) (hf := rfl) (hi := ty62)) ?_
      refine oQ (.d (.int .u64 r182)) (k_load 1 1 (hu := Try.underlying62)) ?_
      refine oP (.d (.int .i64 (IntKind.wrap .i64 r182))) (p_conv (k := .u64) (p := r182) (hu1 := Try.underlying62) (hu2 := Try.underlying3)) ?_
      refine oP (.ptr 2 1) (k_fieldAddr 2 0 (hu := Try.underlying65) (hf := rfl) (hi := ty62)) ?_
      refine oQ (.d (.int .u64 r183)) (k_load 2 1 (hu := Try.underlying62)) ?_
      refine oP (.d (.int .i64 (IntKind.wrap .i64 r183))) (p_conv (k := .u64) (p := r183) (hu1 := Try.underlying62) (hu2 := Try.underlying3)) ?_
      refine oP (.agg [.d (.int .i64 (IntKind.wrap .i64 r182)), .d (.int .i64 (IntKind.wrap .i64 r183))]) (p_build bld38) ?_
      refine oD (.ptr 3 0) (k_alloc (H' := [.box [.d (.int .i64 0), .d (.int .i64 0)], .box [.d (.int .u64 r172), .d (.int .u64 r182)], .box [.d (.int .u64 r173), .d (.int .u64 r183)], .box [.d (.int .i64 0), .d (.int .i64 0)]]) ty38) ?_
      refine oD (.undef) (k_store (vs := [.d (.int .i64 (IntKind.wrap .i64 r182)), .d (.int .i64 (IntKind.wrap .i64 r183))]) (H' := [.box [.d (.int .i64 0), .d (.int .i64 0)], .box [.d (.int .u64 r172), .d (.int .u64 r182)], .box [.d (.int .u64 r173), .d (.int .u64 r183)], .box [.d (.int .i64 (IntKind.wrap .i64 r182)), .d (.int .i64 (IntKind.wrap .i64 r183))]]) 3 0 (hi := ty38)) ?_
      refine oEnd ?_
      refine oSeq ?_
      refine oSR rfl ?_
      refine oP (.d (.bool negative)) p_move ?_
      refine oEnd ?_
      refine bJoin ((uc fun (x8 : Int) => (fun (x9 : Int) => [(6, .ptr 0 0), (13, .ptr 1 0)]))) ((uc fun (x8 : Int) => (fun (x9 : Int) => [.box [.d (.int .i64 0), .d (.int .i64 0)], .box [.d (.int .i64 x8), .d (.int .i64 x9)]]))) (fun s => s) (fun s => ?_) (fun hj5 => ?_)
      ·obtain ⟨x8, x9⟩ := s
       refine bUc ?_
       refine oView (T' := [(6, .ptr 0 0), (13, .ptr 1 0)]) (H' := [.box [.d (.int .i64 0), .d (.int .i64 0)], .box [.d (.int .i64 x8), .d (.int .i64 x9)]]) (h := ?_)
       refine oSR rfl ?_
       refine oQ (.agg [.d (.int .i64 x8), .d (.int .i64 x9)]) (k_loadAgg 1 0 (hu := Try.underlying38) (hi := ty38)) ?_
       refine oD (.undef) (k_store (vs := [.d (.int .i64 x8), .d (.int .i64 x9)]) (H' := [.box [.d (.int .i64 x8), .d (.int .i64 x9)], .box [.d (.int .i64 x8), .d (.int .i64 x9)]]) 0 0 (hi := ty38)) ?_
       refine oP (.d (.int .i64 0)) p_assign ?_
       refine oEnd ?_
       exact oRet (r0 := (x8, x9, 0)) (rv := .tuple [.agg [.d (.int .i64 x8), .d (.int .i64 x9)], .d (.int .i64 0)]) (B := []) (vs := [.agg [.d (.int .i64 x8), .d (.int .i64 x9)], .d (.int .i64 0)]) (σ := []) (hf := Try.func36) (hrs := rfl) (hres := .cons _ _ _ _ (.agg 6 38 0 0 [.d (.int .i64 x8), .d (.int .i64 x9)] [.d (.int .i64 x8), .d (.int .i64 x9)] _ _ _ _ (by kernel_rfl) (by kernel_rfl) Try.underlying38 (by kernel_rfl) ty38 (by kernel_rfl) (by kernel_rfl)) (.cons _ _ _ _ (.tmp 7 _ (by kernel_rfl)) .nil)) (hnd := by decide)
      ·refine bSplit 55 (h1 := fun hc => ?_) (h2 := fun hc => ?_)
       ·refine oCondT (h := ?_)
        refine oRegion rfl ?_
        refine oP (.ptr 3 0) (k_fieldAddr 3 0 (hu := Try.underlying38) (hf := rfl) (hi := ty3)) ?_
        refine oQ (.d (.int .i64 (IntKind.wrap .i64 r182))) (k_load 3 0 (hu := Try.underlying3)) ?_
        refine oP (.d (.int .i64 (IntKind.wrap .i64 (0 - (IntKind.wrap .i64 r182))))) (p_neg (k := .i64) (p := (IntKind.wrap .i64 r182))) ?_
        refine oP (.ptr 3 0) (k_fieldAddr 3 0 (hu := Try.underlying38) (hf := rfl) (hi := ty3)) ?_
        refine oD (.undef) (k_store (vs := [.d (.int .i64 (IntKind.wrap .i64 (0 - (IntKind.wrap .i64 r182))))]) (H' := [.box [.d (.int .i64 0), .d (.int .i64 0)], .box [.d (.int .u64 r172), .d (.int .u64 r182)], .box [.d (.int .u64 r173), .d (.int .u64 r183)], .box [.d (.int .i64 (IntKind.wrap .i64 (0 - (IntKind.wrap .i64 r182)))), .d (.int .i64 (IntKind.wrap .i64 r183))]]) 3 0 (hi := ty3)) ?_
        refine oEnd ?_
        refine oHead [6, 13] [0, 3] (T' := [(6, .ptr 0 0), (13, .ptr 1 0)]) (H' := [.box [.d (.int .i64 0), .d (.int .i64 0)], .box [.d (.int .i64 (IntKind.wrap .i64 (0 - (IntKind.wrap .i64 r182)))), .d (.int .i64 (IntKind.wrap .i64 r183))]]) (hnd := by decide) (h := ?_)
        exact hj5 ((IntKind.wrap .i64 (0 - (IntKind.wrap .i64 r182))), (IntKind.wrap .i64 r183))
       ·refine oCondF (h := ?_)
        refine oSkip ?_
        refine oHead [6, 13] [0, 3] (T' := [(6, .ptr 0 0), (13, .ptr 1 0)]) (H' := [.box [.d (.int .i64 0), .d (.int .i64 0)], .box [.d (.int .i64 (IntKind.wrap .i64 r182)), .d (.int .i64 (IntKind.wrap .i64 r183))]]) (hnd := by decide) (h := ?_)
        exact hj5 ((IntKind.wrap .i64 r182), (IntKind.wrap .i64 r183))
    ·refine bPickF 42 (fun c => F (c || (decide (r183 > 1152921504606846976)))) (h1 := fun hc => ?_) (h2 := fun hc => ?_)
     ·refine oNot (h := ?_)
      refine oNot (h := ?_)
      refine oNot (h := ?_)
      refine oP (.d (.bool true)) (p_pick (b := true)) ?_
      refine oHead [0, 6, 9, 11, 46] [0, 1, 2] (T' := [(0, .d (.bool negative)), (6, .ptr 0 0), (9, .ptr 1 0), (11, .ptr 2 0), (46, .d (.bool true))]) (H' := [.box [.d (.int .i64 0), .d (.int .i64 0)], .box [.d (.int .u64 r172), .d (.int .u64 r182)], .box [.d (.int .u64 r173), .d (.int .u64 r183)]]) (hnd := by decide) (h := ?_)
      exact hj4 true
     ·refine oP (.ptr 2 1) (k_fieldAddr 2 0 (hu := Try.underlying65) (hf := rfl) (hi := ty62)) ?_
      refine oQ (.d (.int .u64 r183)) (k_load 2 1 (hu := Try.underlying62)) ?_
      refine oP (.d (.bool (decide (r183 > 1152921504606846976)))) (p_int (k := .u64) (p := r183) (q := 1152921504606846976)) ?_
      refine oP (.d (.bool (decide (r183 > 1152921504606846976)))) (p_pick (b := false)) ?_
      refine oHead [0, 6, 9, 11, 46] [0, 1, 2] (T' := [(0, .d (.bool negative)), (6, .ptr 0 0), (9, .ptr 1 0), (11, .ptr 2 0), (46, .d (.bool (decide (r183 > 1152921504606846976))))]) (H' := [.box [.d (.int .i64 0), .d (.int .i64 0)], .box [.d (.int .u64 r172), .d (.int .u64 r182)], .box [.d (.int .u64 r173), .d (.int .u64 r183)]]) (hnd := by decide) (h := ?_)
      exact hj4 (decide (r183 > 1152921504606846976))
   ·refine bPickF 37 (fun c => F (c || (decide (r182 > 1152921504606846976)))) (h1 := fun hc => ?_) (h2 := fun hc => ?_)
    ·refine oNot (h := ?_)
     refine oNot (h := ?_)
     refine oNot (h := ?_)
     refine oP (.d (.bool true)) (p_pick (b := true)) ?_
     refine oHead [0, 6, 9, 11, 41] [0, 1, 2] (T' := [(0, .d (.bool negative)), (6, .ptr 0 0), (9, .ptr 1 0), (11, .ptr 2 0), (41, .d (.bool true))]) (H' := [.box [.d (.int .i64 0), .d (.int .i64 0)], .box [.d (.int .u64 r172), .d (.int .u64 r182)], .box [.d (.int .u64 r173), .d (.int .u64 r183)]]) (hnd := by decide) (h := ?_)
     exact hj3 true
    ·refine oP (.ptr 1 1) (k_fieldAddr 1 0 (hu := Try.underlying65) (hf := rfl) (hi := ty62)) ?_
     refine oQ (.d (.int .u64 r182)) (k_load 1 1 (hu := Try.underlying62)) ?_
     refine oP (.d (.bool (decide (r182 > 1152921504606846976)))) (p_int (k := .u64) (p := r182) (q := 1152921504606846976)) ?_
     refine oP (.d (.bool (decide (r182 > 1152921504606846976)))) (p_pick (b := false)) ?_
     refine oHead [0, 6, 9, 11, 41] [0, 1, 2] (T' := [(0, .d (.bool negative)), (6, .ptr 0 0), (9, .ptr 1 0), (11, .ptr 2 0), (41, .d (.bool (decide (r182 > 1152921504606846976))))]) (H' := [.box [.d (.int .i64 0), .d (.int .i64 0)], .box [.d (.int .u64 r172), .d (.int .u64 r182)], .box [.d (.int .u64 r173), .d (.int .u64 r183)]]) (hnd := by decide) (h := ?_)
     exact hj3 (decide (r182 > 1152921504606846976))
  ·refine bPickF 32 (fun c => F (c || (decide (r173 > 0)))) (h1 := fun hc => ?_) (h2 := fun hc => ?_)
   ·refine oNot (h := ?_)
    refine oNot (h := ?_)
    refine oNot (h := ?_)
    refine oP (.d (.bool true)) (p_pick (b := true)) ?_
    refine oHead [0, 6, 9, 11, 36] [2, 4, 6] (T' := [(0, .d (.bool negative)), (6, .ptr 0 0), (9, .ptr 1 0), (11, .ptr 2 0), (36, .d (.bool true))]) (H' := [.box [.d (.int .i64 0), .d (.int .i64 0)], .box [.d (.int .u64 r172), .d (.int .u64 r182)], .box [.d (.int .u64 r173), .d (.int .u64 r183)]]) (hnd := by decide) (h := ?_)
    exact hj2 true
   ·refine oP (.ptr 6 0) (k_fieldAddr 6 0 (hu := Try.underlying65) (hf := rfl) (hi := ty62)) ?_
    refine oQ (.d (.int .u64 r173)) (k_load 6 0 (hu := Try.underlying62)) ?_
    refine oP (.d (.bool (decide (r173 > 0)))) (p_int (k := .u64) (p := r173) (q := 0)) ?_
    refine oP (.d (.bool (decide (r173 > 0)))) (p_pick (b := false)) ?_
    refine oHead [0, 6, 9, 11, 36] [2, 4, 6] (T' := [(0, .d (.bool negative)), (6, .ptr 0 0), (9, .ptr 1 0), (11, .ptr 2 0), (36, .d (.bool (decide (r173 > 0))))]) (H' := [.box [.d (.int .i64 0), .d (.int .i64 0)], .box [.d (.int .u64 r172), .d (.int .u64 r182)], .box [.d (.int .u64 r173), .d (.int .u64 r183)]]) (hnd := by decide) (h := ?_)
    exact hj2 (decide (r173 > 0))

/-- awardingbody/awardingbodyref01.New -/
def ref01_New (k : Nat) (num : Int) (den : Int) : Option (Int × Int × Int) := bif (den == 0) then some (0, 0, 2) else Option.bind (ref01_Size k num) (fun r18 => Option.bind (ref01_Size k den) (fun r19 => Option.bind (ref01_Reduce k (!((decide (num < 0)) == (decide (den < 0)))) 0 r18 0 r19) (uc fun r121 => uc fun r131 => fun r141 => some (r121, r131, r141))))
def ref01_New_E (num : Int) (den : Int) : Int × Int × Int → V × List Blk := uc fun r15 => uc fun r16 => fun r17 => (.tuple [.agg [.d (.int .i64 r15), .d (.int .i64 r16)], .d (.int .i64 r17)], [])
theorem ref01_New_goes (k : Nat) (num : Int) (den : Int) : RunsO Try.prog 13 [.d (.int .i64 num), .d (.int .i64 den)] [] (ref01_New_E num den) (ref01_New k num den) := by
  refine RunsO.of_goes (N := 23) (m := 0) (T := [(0, .d (.int .i64 num)), (1, .d (.int .i64 den))]) Try.func13 rfl rfl (h := ?_)
  unfold ref01_New
  refine bStart ?_
  refine oSR rfl ?_
  refine oD (.ptr 0 0) (k_alloc (H' := [.box [.d (.int .i64 0), .d (.int .i64 0)]]) ty38) ?_
  refine oP (.d (.int .i64 0)) p_assign ?_
  refine oEnd ?_
  refine oSeq ?_
  refine oSR rfl ?_
  refine oP (.d (.int .i64 den)) p_move ?_
  refine oP (.d (.bool (den == 0))) (p_int (k := .i64) (p := den) (q := 0)) ?_
  refine oEnd ?_
  refine bSplit 7 (h1 := fun hc => ?_) (h2 := fun hc => ?_)
  ·refine oCondT (h := ?_)
   refine oSR rfl ?_
   refine oP (.agg [.d (.int .i64 0), .d (.int .i64 0)]) (p_build bld38) ?_
   refine oD (.undef) (k_store (vs := [.d (.int .i64 0), .d (.int .i64 0)]) (H' := [.box [.d (.int .i64 0), .d (.int .i64 0)]]) 0 0 (hi := ty38)) ?_
   refine oP (.d (.int .i64 2)) p_assign ?_
   refine oEnd ?_
   exact oRet (r0 := (0, 0, 2)) (rv := .tuple [.agg [.d (.int .i64 0), .d (.int .i64 0)], .d (.int .i64 2)]) (B := []) (vs := [.agg [.d (.int .i64 0), .d (.int .i64 0)], .d (.int .i64 2)]) (σ := []) (hf := Try.func13) (hrs := rfl) (hres := .cons _ _ _ _ (.agg 4 38 0 0 [.d (.int .i64 0), .d (.int .i64 0)] [.d (.int .i64 0), .d (.int .i64 0)] _ _ _ _ (by kernel_rfl) (by kernel_rfl) Try.underlying38 (by kernel_rfl) ty38 (by kernel_rfl) (by kernel_rfl)) (.cons _ _ _ _ (.tmp 5 _ (by kernel_rfl)) .nil)) (hnd := by decide)
  ·refine oCondF (h := ?_)
   refine oSkip ?_
   refine oSR rfl ?_
   refine oP (.d (.int .i64 num)) p_move ?_
   refine oP (.d (.bool (decide (num < 0)))) (p_int (k := .i64) (p := num) (q := 0)) ?_
   refine oP (.d (.int .i64 den)) p_move ?_
   refine oP (.d (.bool (decide (den < 0)))) (p_int (k := .i64) (p := den) (q := 0)) ?_
   refine oP (.d (.bool (!((decide (num < 0)) == (decide (den < 0)))))) (p_boolNe (p := (decide (num < 0))) (q := (decide (den < 0))) (hu := Try.underlying4)) ?_
   refine oP (.d (.int .i64 num)) p_move ?_
   refine bCall (caps := []) (v := (fun (r18 : Int) => (.d (.int .u64 r18) : V))) (H' := (fun (r18 : Int) => ([.box [.d (.int .i64 0), .d (.int .i64 0)]] : List Blk))) [] _ (ref01_Size_goes k num) (ho := rfl) (hfn := Try.func37) (hb := rfl) (hconv := ConvRs.refl _ _) (hnd := by decide) (hBl := fun _ => (by kernel_rfl)) (hv := fun _ => (by kernel_rfl)) (hH' := fun _ => (by kernel_rfl)) (h := fun r18 => ?_)
   refine oP (.agg [.d (.int .u64 0), .d (.int .u64 r18)]) (p_build bld65) ?_
   refine oP (.d (.int .i64 den)) p_move ?_
   refine bCall (caps := []) (v := (fun (r19 : Int) => (.d (.int .u64 r19) : V))) (H' := (fun (r19 : Int) => ([.box [.d (.int .i64 0), .d (.int .i64 0)]] : List Blk))) [] _ (ref01_Size_goes k den) (ho := rfl) (hfn := Try.func37) (hb := rfl) (hconv := ConvRs.refl _ _) (hnd := by decide) (hBl := fun _ => (by kernel_rfl)) (hv := fun _ => (by kernel_rfl)) (hH' := fun _ => (by kernel_rfl)) (h := fun r19 => ?_)
   refine oP (.agg [.d (.int .u64 0), .d (.int .u64 r19)]) (p_build bld65) ?_
   refine bCall (caps := []) (v := (uc fun (r121 : Int) => (uc fun (r131 : Int) => (fun (r141 : Int) => (.tuple [.agg [.d (.int .i64 r121), .d (.int .i64 r131)], .d (.int .i64 r141)] : V))))) (H' := (uc fun (r121 : Int) => (uc fun (r131 : Int) => (fun (r141 : Int) => ([.box [.d (.int .i64 0), .d (.int .i64 0)]] : List Blk))))) [] _ (ref01_Reduce_goes k (!((decide (num < 0)) == (decide (den < 0)))) 0 r18 0 r19) (ho := rfl) (hfn := Try.func36) (hb := rfl) (hconv := ConvRs.refl _ _) (hnd := by decide) (hBl := fun _ => (by kernel_rfl)) (hv := fun _ => (by kernel_rfl)) (hH' := fun _ => (by kernel_rfl)) (h := fun r => ?_)
   obtain ⟨r121, r131, r141⟩ := r
   refine bUc ?_
   refine bUc ?_
   refine oP (.agg [.d (.int .i64 r121), .d (.int .i64 r131)]) k_extract ?_
   refine oP (.d (.int .i64 r141)) k_extract ?_
   refine oD (.undef) (k_store (vs := [.d (.int .i64 r121), .d (.int .i64 r131)]) (H' := [.box [.d (.int .i64 r121), .d (.int .i64 r131)]]) 0 0 (hi := ty38)) ?_
   refine oP (.d (.int .i64 r141)) p_assign ?_
   refine oEnd ?_
   exact oRet (r0 := (r121, r131, r141)) (rv := .tuple [.agg [.d (.int .i64 r121), .d (.int .i64 r131)], .d (.int .i64 r141)]) (B := []) (vs := [.agg [.d (.int .i64 r121), .d (.int .i64 r131)], .d (.int .i64 r141)]) (σ := []) (hf := Try.func13) (hrs := rfl) (hres := .cons _ _ _ _ (.agg 4 38 0 0 [.d (.int .i64 r121), .d (.int .i64 r131)] [.d (.int .i64 r121), .d (.int .i64 r131)] _ _ _ _ (by kernel_rfl) (by kernel_rfl) Try.underlying38 (by kernel_rfl) ty38 (by kernel_rfl) (by kernel_rfl)) (.cons _ _ _ _ (.tmp 5 _ (by kernel_rfl)) .nil)) (hnd := by decide)

/-- awardingbody/awardingbodylaw34.EquatingShares -/
def law34_EquatingShares_b2 (k : Nat) (r125 : (List Int)) (r1117 : Int) (r1314 : Int) (again : Int → Option (Int)) : Int → Option (Int) := fun k142 => Option.bind (bif (decide ((IntKind.wrap .i64 (k142 + 1)) < ((List.length r125) : Int))) then some (decide ((IntKind.wrap .i64 (r1117 * 2)) > (IntKind.wrap .i64 ((IntKind.wrap .i64 ((IntKind.wrap .i64 (2 * k142)) + 1)) * r1314)))) else some false : Option (Bool)) (fun x45 => bif x45 then again (IntKind.wrap .i64 (k142 + 1)) else some k142)
def law34_EquatingShares_b1 (k : Nat) (r13 : Int) (r14 : Int) (r124 : (List Int)) (r125 : (List Int)) (r181 : (List SPoint)) (again : Int → Option ((Unit) ⊕ (Bool))) : Int → Option ((Unit) ⊕ (Bool)) := fun i4 => bif (decide (i4 ≤ ((List.length r124) : Int))) then Option.bind (ref01_New k (IntKind.wrap .i64 ((IntKind.wrap .i64 (2 * i4)) - 1)) 2) (uc fun r1513 => uc fun r1613 => fun r1713 => Option.bind (conversion_Eval k r181 r1513 r1613) (uc fun r1117 => uc fun r1314 => fun r1414 => blet ((r1713 != 0) || (r1414 != 0)) fun x40 => bif x40 then some (Sum.inr false) else Option.bind (gloop (law34_EquatingShares_b2 k r125 r1117 r1314) k 0 : Option (Int)) (fun k141 => gidx r125 k141 fun e1 => Option.bind (ref32_Below k r125 k141) (fun r122 => Option.bind (ref32_Below k r124 i4) (fun r123 => bif ((IntKind.wrap .i64 ((IntKind.wrap .i64 ((IntKind.wrap .i64 ((IntKind.wrap .i64 (r122 * 2)) * r1314)) + (IntKind.wrap .i64 (e1 * (IntKind.wrap .i64 ((IntKind.wrap .i64 (2 * r1117)) - (IntKind.wrap .i64 ((IntKind.wrap .i64 ((IntKind.wrap .i64 (2 * k141)) - 1)) * r1314)))))))) * r13)) != (IntKind.wrap .i64 ((IntKind.wrap .i64 ((IntKind.wrap .i64 (r123 * r14)) * 2)) * r1314))) then some (Sum.inr false) else again (IntKind.wrap .i64 (i4 + 1))))))) else some (Sum.inl ())
def law34_EquatingShares (k : Nat) (t : (List Int)) : Option (Bool) := Option.bind (mark_Light k t) (u0 (bif (!(decide (((List.length t) : Int) ≤ 600))) then Option.bind (law34_sane k) (fun r117 => some r117) else Option.bind (mark_Roll k t) (u0 (Option.bind (mark_Dice_Distribution k 6 true t 0) (uc fun r124 => fun x72 => Option.bind (mark_Dice_Distribution k 6 true t x72) (uc fun r125 => fun x73 => Option.bind (equating_Percentile k r124 r125) (uc fun r181 => fun r191 => bif (r191 != 0) then some false else Option.bind (ref32_Count k r124) (fun r13 => Option.bind (ref32_Count k r125) (fun r14 => Option.bind (gloop (law34_EquatingShares_b1 k r13 r14 r124 r125 r181) k 0 : Option ((Unit) ⊕ (Bool))) (Sum.elim (u0 (Option.bind (law34_sane k) (fun r120 => some r120))) (fun r => some r)))))))))))
def law34_EquatingShares_E (t : (List Int)) : Bool → V × List Blk := fun r115 => (.d (.bool r115), [])
theorem law34_EquatingShares_goes (k : Nat) (t : (List Int)) : RunsO Try.prog 3 [.d (.lit (List.map e_i64 t))] [] (law34_EquatingShares_E t) (law34_EquatingShares k t) := by
  refine RunsO.of_goes (N := 123) (m := 0) (T := [(0, .d (.lit (List.map e_i64 t)))]) Try.func3 rfl rfl (h := ?_)
  unfold law34_EquatingShares
  refine bStart ?_
  refine oSR rfl ?_
  refine oP (.d (.bool false)) p_assign ?_
  refine oEnd ?_
  refine oSeq ?_
  refine oSR rfl ?_
  refine oP (.d (.lit (List.map e_i64 t))) p_move ?_
  refine bCall (caps := []) (v := (u0 ((.d (.bool (decide (((List.length t) : Int) ≤ 600))) : V)))) (H' := (u0 (([] : List Blk)))) [] _ (mark_Light_goes k t) (ho := rfl) (hfn := Try.func7) (hb := rfl) (hconv := ConvRs.refl _ _) (hnd := by decide) (hBl := fun _ => (by kernel_rfl)) (hv := fun _ => (by kernel_rfl)) (hH' := fun _ => (by kernel_rfl)) (h := fun r => ?_)
  cases r
  refine bU0 ?_
  refine oP (.d (.bool (!(decide (((List.length t) : Int) ≤ 600))))) (p_not (p := (decide (((List.length t) : Int) ≤ 600)))) ?_
  refine oEnd ?_
  refine bSplit 19 (h1 := fun hc => ?_) (h2 := fun hc => ?_)
  ·refine oCondT (h := ?_)
   refine oSR rfl ?_
   refine bCall (caps := []) (v := (fun (r117 : Bool) => (.d (.bool r117) : V))) (H' := (fun (r117 : Bool) => ([] : List Blk))) [] _ (law34_sane_goes k) (ho := rfl) (hfn := Try.func8) (hb := rfl) (hconv := ConvRs.refl _ _) (hnd := by decide) (hBl := fun _ => (by kernel_rfl)) (hv := fun _ => (by kernel_rfl)) (hH' := fun _ => (by kernel_rfl)) (h := fun r117 => ?_)
   refine oP (.d (.bool r117)) p_assign ?_
   refine oEnd ?_
   exact oRet (r0 := r117) (rv := .d (.bool r117)) (B := []) (vs := [.d (.bool r117)]) (σ := []) (hf := Try.func3) (hrs := rfl) (hres := .cons _ _ _ _ (.tmp 2 _ (by kernel_rfl)) .nil) (hnd := by decide)
  ·refine oCondF (h := ?_)
   refine oSkip ?_
   refine oSR rfl ?_
   refine oP (.d (.lit (List.map e_i64 t))) p_move ?_
   refine bCall (caps := []) (v := (u0 ((.ptr 0 0 : V)))) (H' := (u0 (([.box [.d (.lit (List.map e_i64 t)), .d (.int .i64 0)]] : List Blk)))) [] _ (mark_Roll_goes k t) (ho := rfl) (hfn := Try.func9) (hb := rfl) (hconv := ConvRs.refl _ _) (hnd := by decide) (hBl := fun _ => (by kernel_rfl)) (hv := fun _ => (by kernel_rfl)) (hH' := fun _ => (by kernel_rfl)) (h := fun r => ?_)
   cases r
   refine bU0 ?_
   refine oP (.ptr 0 0) p_assign ?_
   refine oEnd ?_
   refine oSR rfl ?_
   refine oP (.ptr 0 0) p_move ?_
   refine bCall (caps := []) (v := (uc fun (r124 : (List Int)) => (fun (x72 : Int) => (.agg [.d (.lit (List.map e_i64 r124))] : V)))) (H' := (uc fun (r124 : (List Int)) => (fun (x72 : Int) => ([.box [.d (.lit (List.map e_i64 t)), .d (.int .i64 x72)]] : List Blk)))) [0] _ (mark_Dice_Distribution_goes k 6 true t 0) (ho := rfl) (hfn := Try.func10) (hb := rfl) (hconv := ConvRs.refl _ _) (hnd := by decide) (hBl := fun _ => (by kernel_rfl)) (hv := fun _ => (by kernel_rfl)) (hH' := fun _ => (by kernel_rfl)) (h := fun r => ?_)
   obtain ⟨r124, x72⟩ := r
   refine bUc ?_
   refine oP (.ptr 0 0) p_move ?_
   refine bCall (caps := []) (v := (uc fun (r125 : (List Int)) => (fun (x73 : Int) => (.agg [.d (.lit (List.map e_i64 r125))] : V)))) (H' := (uc fun (r125 : (List Int)) => (fun (x73 : Int) => ([.box [.d (.lit (List.map e_i64 t)), .d (.int .i64 x73)]] : List Blk)))) [0] _ (mark_Dice_Distribution_goes k 6 true t x72) (ho := rfl) (hfn := Try.func10) (hb := rfl) (hconv := ConvRs.refl _ _) (hnd := by decide) (hBl := fun _ => (by kernel_rfl)) (hv := fun _ => (by kernel_rfl)) (hH' := fun _ => (by kernel_rfl)) (h := fun r => ?_)
   obtain ⟨r125, x73⟩ := r
   refine bUc ?_
   refine oD (.ptr 1 0) (k_alloc (H' := [.box [.d (.lit (List.map e_i64 t)), .d (.int .i64 x73)], .box [.nilc]]) ty28) ?_
   refine oD (.ptr 2 0) (k_alloc (H' := [.box [.d (.lit (List.map e_i64 t)), .d (.int .i64 x73)], .box [.nilc], .box [.nilc]]) ty28) ?_
   refine oD (.undef) (k_store (vs := [.d (.lit (List.map e_i64 r124))]) (H' := [.box [.d (.lit (List.map e_i64 t)), .d (.int .i64 x73)], .box [.d (.lit (List.map e_i64 r124))], .box [.nilc]]) 1 0 (hi := ty28)) ?_
   refine oD (.undef) (k_store (vs := [.d (.lit (List.map e_i64 r125))]) (H' := [.box [.d (.lit (List.map e_i64 t)), .d (.int .i64 x73)], .box [.d (.lit (List.map e_i64 r124))], .box [.d (.lit (List.map e_i64 r125))]]) 2 0 (hi := ty28)) ?_
   refine oEnd ?_
   refine oSR rfl ?_
   refine oQ (.agg [.d (.lit (List.map e_i64 r124))]) (k_loadAgg 1 0 (hu := Try.underlying28) (hi := ty28)) ?_
   refine oQ (.agg [.d (.lit (List.map e_i64 r125))]) (k_loadAgg 2 0 (hu := Try.underlying28) (hi := ty28)) ?_
   refine bCall (caps := []) (v := (uc fun (r181 : (List SPoint)) => (fun (r191 : Int) => (.tuple [.agg [.d (.lit (List.map e_SPoint r181))], .d (.int .i64 r191)] : V)))) (H' := (uc fun (r181 : (List SPoint)) => (fun (r191 : Int) => ([.box [.d (.lit (List.map e_i64 t)), .d (.int .i64 x73)], .box [.d (.lit (List.map e_i64 r124))], .box [.d (.lit (List.map e_i64 r125))]] : List Blk)))) [] _ (equating_Percentile_goes k r124 r125) (ho := rfl) (hfn := Try.func11) (hb := rfl) (hconv := ConvRs.refl _ _) (hnd := by decide) (hBl := fun _ => (by kernel_rfl)) (hv := fun _ => (by kernel_rfl)) (hH' := fun _ => (by kernel_rfl)) (h := fun r => ?_)
   obtain ⟨r181, r191⟩ := r
   refine bUc ?_
   refine oP (.tuple [.agg [.d (.lit (List.map e_SPoint r181))], .d (.int .i64 r191)]) p_move ?_
   refine oP (.agg [.d (.lit (List.map e_SPoint r181))]) k_extract ?_
   refine oP (.d (.int .i64 r191)) k_extract ?_
   refine oD (.ptr 3 0) (k_alloc (H' := [.box [.d (.lit (List.map e_i64 t)), .d (.int .i64 x73)], .box [.d (.lit (List.map e_i64 r124))], .box [.d (.lit (List.map e_i64 r125))], .box [.nilc]]) ty32) ?_
   refine oD (.undef) (k_store (vs := [.d (.lit (List.map e_SPoint r181))]) (H' := [.box [.d (.lit (List.map e_i64 t)), .d (.int .i64 x73)], .box [.d (.lit (List.map e_i64 r124))], .box [.d (.lit (List.map e_i64 r125))], .box [.d (.lit (List.map e_SPoint r181))]]) 3 0 (hi := ty32)) ?_
   refine oP (.d (.int .i64 r191)) p_assign ?_
   refine oEnd ?_
   refine oSeq ?_
   refine oSR rfl ?_
   refine oP (.d (.int .i64 r191)) p_move ?_
   refine oP (.d (.bool (r191 != 0))) (p_int (k := .i64) (p := r191) (q := 0)) ?_
   refine oEnd ?_
   refine bSplit 34 (h1 := fun hc => ?_) (h2 := fun hc => ?_)
   ·refine oCondT (h := ?_)
    refine oSR rfl ?_
    refine oP (.d (.bool false)) p_assign ?_
    refine oEnd ?_
    exact oRet (r0 := false) (rv := .d (.bool false)) (B := []) (vs := [.d (.bool false)]) (σ := []) (hf := Try.func3) (hrs := rfl) (hres := .cons _ _ _ _ (.tmp 2 _ (by kernel_rfl)) .nil) (hnd := by decide)
   ·refine oCondF (h := ?_)
    refine oSkip ?_
    refine oSeq ?_
    refine oDraw [(0, 6), (1, 6), (2, 6), (3, 6)] rfl ?_
    refine aQ 0 [1] (.agg [.d (.lit (List.map e_i64 r124))]) rfl (k_loadAgg 1 0 (hu := Try.underlying28) (hi := ty28)) ?_
    refine aQ 2 [2] (.agg [.d (.lit (List.map e_i64 r125))]) rfl (k_loadAgg 2 0 (hu := Try.underlying28) (hi := ty28)) ?_
    refine dCall (i := 1) (caps := []) (v := (fun (r13 : Int) => (.d (.int .i64 r13) : V))) (H' := (fun (r13 : Int) => ([.box [.d (.lit (List.map e_i64 t)), .d (.int .i64 x73)], .box [.d (.lit (List.map e_i64 r124))], .box [.d (.lit (List.map e_i64 r125))], .box [.d (.lit (List.map e_SPoint r181))]] : List Blk))) [] _ (ref32_Count_goes k r124) rfl (ho := rfl) (hfn := Try.func12) (hb := rfl) (hconv := ConvRs.refl _ _) (hnd := by decide) (hBl := fun _ => (by kernel_rfl)) (hv := fun _ => (by kernel_rfl)) (hH' := fun _ => (by kernel_rfl)) (h := fun r13 => ?_)
    refine dCall (i := 3) (caps := []) (v := (fun (r14 : Int) => (.d (.int .i64 r14) : V))) (H' := (fun (r14 : Int) => ([.box [.d (.lit (List.map e_i64 t)), .d (.int .i64 x73)], .box [.d (.lit (List.map e_i64 r124))], .box [.d (.lit (List.map e_i64 r125))], .box [.d (.lit (List.map e_SPoint r181))]] : List Blk))) [] _ (ref32_Count_goes k r125) rfl (ho := rfl) (hfn := Try.func12) (hb := rfl) (hconv := ConvRs.refl _ _) (hnd := by decide) (hBl := fun _ => (by kernel_rfl)) (hv := fun _ => (by kernel_rfl)) (hH' := fun _ => (by kernel_rfl)) (h := fun r14 => ?_)
    refine aP 4 (.d (.int .i64 r13)) rfl p_assign ?_
    refine aP 5 (.d (.int .i64 r14)) rfl p_assign ?_
    refine aDone (h := ?_)
    refine oSeq ?_
    refine oSR rfl ?_
    refine oP (.d (.int .i64 0)) p_assign ?_
    refine oEnd ?_
    refine bJoin ((u0 ([]))) ((u0 ([]))) Sum.inl (fun s => ?_) (fun hj10 => ?_)
    ·cases s
     refine bInl ?_
     refine bU0 ?_
     refine oView (T' := []) (H' := []) (h := ?_)
     refine oSR rfl ?_
     refine bCall (caps := []) (v := (fun (r120 : Bool) => (.d (.bool r120) : V))) (H' := (fun (r120 : Bool) => ([] : List Blk))) [] _ (law34_sane_goes k) (ho := rfl) (hfn := Try.func8) (hb := rfl) (hconv := ConvRs.refl _ _) (hnd := by decide) (hBl := fun _ => (by kernel_rfl)) (hv := fun _ => (by kernel_rfl)) (hH' := fun _ => (by kernel_rfl)) (h := fun r120 => ?_)
     refine oP (.d (.bool r120)) p_assign ?_
     refine oEnd ?_
     exact oRet (r0 := r120) (rv := .d (.bool r120)) (B := []) (vs := [.d (.bool r120)]) (σ := []) (hf := Try.func3) (hrs := rfl) (hres := .cons _ _ _ _ (.tmp 2 _ (by kernel_rfl)) .nil) (hnd := by decide)
    ·refine oBlock ?_
     refine oLoop ?_
     refine oHead [4, 5, 6, 8, 9, 10] [1, 2, 3] (T' := [(4, .ptr 0 0), (5, .ptr 1 0), (6, .ptr 2 0), (8, .d (.int .i64 r13)), (9, .d (.int .i64 r14)), (10, .d (.int .i64 0))]) (H' := [.box [.d (.lit (List.map e_i64 r124))], .box [.d (.lit (List.map e_i64 r125))], .box [.d (.lit (List.map e_SPoint r181))]]) (hnd := by decide) (h := ?_)
     refine bLoop (body := law34_EquatingShares_b1 k r13 r14 r124 r125 r181) ((fun (i4 : Int) => [(4, .ptr 0 0), (5, .ptr 1 0), (6, .ptr 2 0), (8, .d (.int .i64 r13)), (9, .d (.int .i64 r14)), (10, .d (.int .i64 i4))])) ((fun (i4 : Int) => [.box [.d (.lit (List.map e_i64 r124))], .box [.d (.lit (List.map e_i64 r125))], .box [.d (.lit (List.map e_SPoint r181))]])) (fun again hag1 i4 => ?_) k 0
     ·unfold law34_EquatingShares_b1
      refine oView (T' := [(4, .ptr 0 0), (5, .ptr 1 0), (6, .ptr 2 0), (8, .d (.int .i64 r13)), (9, .d (.int .i64 r14)), (10, .d (.int .i64 i4))]) (H' := [.box [.d (.lit (List.map e_i64 r124))], .box [.d (.lit (List.map e_i64 r125))], .box [.d (.lit (List.map e_SPoint r181))]]) (h := ?_)
      refine oSeq ?_
      refine oSR rfl ?_
      refine oP (.d (.int .i64 i4)) p_move ?_
      refine oP (.ptr 0 0) (k_fieldAddr 0 0 (hu := Try.underlying28) (hf := rfl) (hi := ty22)) ?_
      refine oQ (.d (.lit (List.map e_i64 r124))) (k_load 0 0 (hu := Try.underlying22)) ?_
      refine oP (.d (.int .i64 ((List.length r124) : Int))) (k_lenLit (enc := e_i64) r124 (hu := Try.underlying22)) ?_
      refine oP (.d (.bool (decide (i4 ≤ ((List.length r124) : Int))))) (p_int (k := .i64) (p := i4) (q := ((List.length r124) : Int))) ?_
      refine oEnd ?_
      refine bSplit 43 (h1 := fun hc => ?_) (h2 := fun hc => ?_)
      ·refine oCondT (h := ?_)
       refine oSkip ?_
       refine oSeq ?_
       refine oBlock ?_
       refine oSR rfl ?_
       refine oP (.d (.int .i64 i4)) p_move ?_
       refine oP (.d (.int .i64 (IntKind.wrap .i64 (2 * i4)))) (p_int (k := .i64) (p := 2) (q := i4)) ?_
       refine oP (.d (.int .i64 (IntKind.wrap .i64 ((IntKind.wrap .i64 (2 * i4)) - 1)))) (p_int (k := .i64) (p := (IntKind.wrap .i64 (2 * i4))) (q := 1)) ?_
       refine bCall (caps := []) (v := (uc fun (r1513 : Int) => (uc fun (r1613 : Int) => (fun (r1713 : Int) => (.tuple [.agg [.d (.int .i64 r1513), .d (.int .i64 r1613)], .d (.int .i64 r1713)] : V))))) (H' := (uc fun (r1513 : Int) => (uc fun (r1613 : Int) => (fun (r1713 : Int) => ([.box [.d (.lit (List.map e_i64 r124))], .box [.d (.lit (List.map e_i64 r125))], .box [.d (.lit (List.map e_SPoint r181))]] : List Blk))))) [] _ (ref01_New_goes k (IntKind.wrap .i64 ((IntKind.wrap .i64 (2 * i4)) - 1)) 2) (ho := rfl) (hfn := Try.func13) (hb := rfl) (hconv := ConvRs.refl _ _) (hnd := by decide) (hBl := fun _ => (by kernel_rfl)) (hv := fun _ => (by kernel_rfl)) (hH' := fun _ => (by kernel_rfl)) (h := fun r => ?_)
       obtain ⟨r1513, r1613, r1713⟩ := r
       refine bUc ?_
       refine bUc ?_
       refine oP (.tuple [.agg [.d (.int .i64 r1513), .d (.int .i64 r1613)], .d (.int .i64 r1713)]) p_move ?_
       refine oP (.agg [.d (.int .i64 r1513), .d (.int .i64 r1613)]) k_extract ?_
       refine oP (.d (.int .i64 r1713)) k_extract ?_
       refine oD (.ptr 3 0) (k_alloc (H' := [.box [.d (.lit (List.map e_i64 r124))], .box [.d (.lit (List.map e_i64 r125))], .box [.d (.lit (List.map e_SPoint r181))], .box [.d (.int .i64 0), .d (.int .i64 0)]]) ty38) ?_
       refine oD (.undef) (k_store (vs := [.d (.int .i64 r1513), .d (.int .i64 r1613)]) (H' := [.box [.d (.lit (List.map e_i64 r124))], .box [.d (.lit (List.map e_i64 r125))], .box [.d (.lit (List.map e_SPoint r181))], .box [.d (.int .i64 r1513), .d (.int .i64 r1613)]]) 3 0 (hi := ty38)) ?_
       refine oP (.d (.int .i64 r1713)) p_assign ?_
       refine oEnd ?_
       refine oSR rfl ?_
       refine oQ (.agg [.d (.lit (List.map e_SPoint r181))]) (k_loadAgg 2 0 (hu := Try.underlying32) (hi := ty32)) ?_
       refine oQ (.agg [.d (.int .i64 r1513), .d (.int .i64 r1613)]) (k_loadAgg 3 0 (hu := Try.underlying38) (hi := ty38)) ?_
       refine bCall (caps := []) (v := (uc fun (r1117 : Int) => (uc fun (r1314 : Int) => (fun (r1414 : Int) => (.tuple [.agg [.d (.int .i64 r1117), .d (.int .i64 r1314)], .d (.int .i64 r1414)] : V))))) (H' := (uc fun (r1117 : Int) => (uc fun (r1314 : Int) => (fun (r1414 : Int) => ([.box [.d (.lit (List.map e_i64 r124))], .box [.d (.lit (List.map e_i64 r125))], .box [.d (.lit (List.map e_SPoint r181))], .box [.d (.int .i64 r1513), .d (.int .i64 r1613)]] : List Blk))))) [] _ (conversion_Eval_goes k r181 r1513 r1613) (ho := rfl) (hfn := Try.func14) (hb := rfl) (hconv := ConvRs.refl _ _) (hnd := by decide) (hBl := fun _ => (by kernel_rfl)) (hv := fun _ => (by kernel_rfl)) (hH' := fun _ => (by kernel_rfl)) (h := fun r => ?_)
       obtain ⟨r1117, r1314, r1414⟩ := r
       refine bUc ?_
       refine bUc ?_
       refine oP (.tuple [.agg [.d (.int .i64 r1117), .d (.int .i64 r1314)], .d (.int .i64 r1414)]) p_move ?_
       refine oP (.agg [.d (.int .i64 r1117), .d (.int .i64 r1314)]) k_extract ?_
       refine oP (.d (.int .i64 r1414)) k_extract ?_
       refine oD (.ptr 4 0) (k_alloc (H' := [.box [.d (.lit (List.map e_i64 r124))], .box [.d (.lit (List.map e_i64 r125))], .box [.d (.lit (List.map e_SPoint r181))], .box [.d (.int .i64 r1513), .d (.int .i64 r1613)], .box [.d (.int .i64 0), .d (.int .i64 0)]]) ty38) ?_
       refine oD (.undef) (k_store (vs := [.d (.int .i64 r1117), .d (.int .i64 r1314)]) (H' := [.box [.d (.lit (List.map e_i64 r124))], .box [.d (.lit (List.map e_i64 r125))], .box [.d (.lit (List.map e_SPoint r181))], .box [.d (.int .i64 r1513), .d (.int .i64 r1613)], .box [.d (.int .i64 r1117), .d (.int .i64 r1314)]]) 4 0 (hi := ty38)) ?_
       refine oP (.d (.int .i64 r1414)) p_assign ?_
       refine oEnd ?_
       refine oSeq ?_
       refine oSR rfl ?_
       refine oP (.d (.int .i64 r1713)) p_move ?_
       refine oP (.d (.bool (r1713 != 0))) (p_int (k := .i64) (p := r1713) (q := 0)) ?_
       refine oP (.d (.bool (r1713 != 0))) p_move ?_
       refine bMeetF (H' := [.box [.d (.lit (List.map e_i64 r124))], .box [.d (.lit (List.map e_i64 r125))], .box [.d (.lit (List.map e_SPoint r181))], .box [.d (.int .i64 r1117), .d (.int .i64 r1314)]]) 3 rfl ((fun (x40 : Bool) => [(4, .ptr 0 0), (5, .ptr 1 0), (6, .ptr 2 0), (8, .d (.int .i64 r13)), (9, .d (.int .i64 r14)), (10, .d (.int .i64 i4)), (13, .ptr 3 0), (64, .d (.bool x40))])) (fun x40 => ?_) (fun F hj16 => ?_)
       ·refine oView (T' := [(4, .ptr 0 0), (5, .ptr 1 0), (6, .ptr 2 0), (8, .d (.int .i64 r13)), (9, .d (.int .i64 r14)), (10, .d (.int .i64 i4)), (13, .ptr 3 0), (64, .d (.bool x40))]) (H' := [.box [.d (.lit (List.map e_i64 r124))], .box [.d (.lit (List.map e_i64 r125))], .box [.d (.lit (List.map e_SPoint r181))], .box [.d (.int .i64 r1117), .d (.int .i64 r1314)]]) (h := ?_)
        refine oEnd ?_
        refine bSplit 64 (h1 := fun hc => ?_) (h2 := fun hc => ?_)
        ·refine oCondT (h := ?_)
         refine oSR rfl ?_
         refine oP (.d (.bool false)) p_assign ?_
         refine oEnd ?_
         exact oRet (r0 := false) (rv := .d (.bool false)) (B := []) (vs := [.d (.bool false)]) (σ := []) (hf := Try.func3) (hrs := rfl) (hres := .cons _ _ _ _ (.tmp 2 _ (by kernel_rfl)) .nil) (hnd := by decide)
        ·refine oCondF (h := ?_)
         refine oSkip ?_
         refine oSR rfl ?_
         refine oP (.d (.int .i64 0)) p_assign ?_
         refine oEnd ?_
         refine oSeq ?_
         refine bJoin ((fun (k141 : Int) => [(4, .ptr 0 0), (5, .ptr 1 0), (6, .ptr 2 0), (8, .d (.int .i64 r13)), (9, .d (.int .i64 r14)), (10, .d (.int .i64 i4)), (13, .ptr 3 0), (15, .d (.int .i64 k141))])) ((fun (k141 : Int) => [.box [.d (.lit (List.map e_i64 r124))], .box [.d (.lit (List.map e_i64 r125))], .box [.d (.lit (List.map e_SPoint r181))], .box [.d (.int .i64 r1117), .d (.int .i64 r1314)]])) (fun s => s) (fun k141 => ?_) (fun hj17 => ?_)
         ·refine oView (T' := [(4, .ptr 0 0), (5, .ptr 1 0), (6, .ptr 2 0), (8, .d (.int .i64 r13)), (9, .d (.int .i64 r14)), (10, .d (.int .i64 i4)), (13, .ptr 3 0), (15, .d (.int .i64 k141))]) (H' := [.box [.d (.lit (List.map e_i64 r124))], .box [.d (.lit (List.map e_i64 r125))], .box [.d (.lit (List.map e_SPoint r181))], .box [.d (.int .i64 r1117), .d (.int .i64 r1314)]]) (h := ?_)
          refine oSeq ?_
          refine oDraw [(0, 25), (1, 25), (2, 25), (3, 25)] rfl ?_
          refine aQ 0 [1] (.agg [.d (.lit (List.map e_i64 r125))]) rfl (k_loadAgg 1 0 (hu := Try.underlying28) (hi := ty28)) ?_
          refine aP 1 (.d (.int .i64 k141)) rfl p_move ?_
          refine aP 4 (.ptr 3 1) rfl (k_fieldAddr 3 0 (hu := Try.underlying38) (hf := rfl) (hi := ty3)) ?_
          refine aQ 5 [3] (.d (.int .i64 r1314)) rfl (k_load 3 1 (hu := Try.underlying3)) ?_
          refine aP 7 (.ptr 1 0) rfl (k_fieldAddr 1 0 (hu := Try.underlying28) (hf := rfl) (hi := ty22)) ?_
          refine aQ 8 [1] (.d (.lit (List.map e_i64 r125))) rfl (k_load 1 0 (hu := Try.underlying22)) ?_
          refine aP 9 (.d (.int .i64 k141)) rfl p_move ?_
          refine dIdx (fun e1 h1 h11 => ?_)
          refine aP 10 (.lptr (e_i64 e1) 0) rfl (k_idxLit e_i64_len r125 (a := e1) (k := .i64) (i := k141) (hu := Try.underlying22) (hi := ty3) (h0 := h1) (he := h11)) ?_
          refine aQ 11 [] (.d (.int .i64 e1)) rfl (k_loadL (cells := e_i64 e1) 0 (hu := Try.underlying3)) ?_
          refine aP 12 (.ptr 3 0) rfl (k_fieldAddr 3 0 (hu := Try.underlying38) (hf := rfl) (hi := ty3)) ?_
          refine aQ 13 [3] (.d (.int .i64 r1117)) rfl (k_load 3 0 (hu := Try.underlying3)) ?_
          refine aP 14 (.d (.int .i64 (IntKind.wrap .i64 (2 * r1117)))) rfl (p_int (k := .i64) (p := 2) (q := r1117)) ?_
          refine aP 15 (.d (.int .i64 k141)) rfl p_move ?_
          refine aP 16 (.d (.int .i64 (IntKind.wrap .i64 (2 * k141)))) rfl (p_int (k := .i64) (p := 2) (q := k141)) ?_
          refine aP 17 (.d (.int .i64 (IntKind.wrap .i64 ((IntKind.wrap .i64 (2 * k141)) - 1)))) rfl (p_int (k := .i64) (p := (IntKind.wrap .i64 (2 * k141))) (q := 1)) ?_
          refine aP 18 (.ptr 3 1) rfl (k_fieldAddr 3 0 (hu := Try.underlying38) (hf := rfl) (hi := ty3)) ?_
          refine aQ 19 [3] (.d (.int .i64 r1314)) rfl (k_load 3 1 (hu := Try.underlying3)) ?_
          refine aP 20 (.d (.int .i64 (IntKind.wrap .i64 ((IntKind.wrap .i64 ((IntKind.wrap .i64 (2 * k141)) - 1)) * r1314)))) rfl (p_int (k := .i64) (p := (IntKind.wrap .i64 ((IntKind.wrap .i64 (2 * k141)) - 1))) (q := r1314)) ?_
          refine aP 21 (.d (.int .i64 (IntKind.wrap .i64 ((IntKind.wrap .i64 (2 * r1117)) - (IntKind.wrap .i64 ((IntKind.wrap .i64 ((IntKind.wrap .i64 (2 * k141)) - 1)) * r1314)))))) rfl (p_int (k := .i64) (p := (IntKind.wrap .i64 (2 * r1117))) (q := (IntKind.wrap .i64 ((IntKind.wrap .i64 ((IntKind.wrap .i64 (2 * k141)) - 1)) * r1314)))) ?_
          refine aP 22 (.d (.int .i64 (IntKind.wrap .i64 (e1 * (IntKind.wrap .i64 ((IntKind.wrap .i64 (2 * r1117)) - (IntKind.wrap .i64 ((IntKind.wrap .i64 ((IntKind.wrap .i64 (2 * k141)) - 1)) * r1314)))))))) rfl (p_int (k := .i64) (p := e1) (q := (IntKind.wrap .i64 ((IntKind.wrap .i64 (2 * r1117)) - (IntKind.wrap .i64 ((IntKind.wrap .i64 ((IntKind.wrap .i64 (2 * k141)) - 1)) * r1314)))))) ?_
          refine dCall (i := 2) (caps := []) (v := (fun (r122 : Int) => (.d (.int .i64 r122) : V))) (H' := (fun (r122 : Int) => ([.box [.d (.lit (List.map e_i64 r124))], .box [.d (.lit (List.map e_i64 r125))], .box [.d (.lit (List.map e_SPoint r181))], .box [.d (.int .i64 r1117), .d (.int .i64 r1314)]] : List Blk))) [] _ (ref32_Below_goes k r125 k141) rfl (ho := rfl) (hfn := Try.func15) (hb := rfl) (hconv := ConvRs.refl _ _) (hnd := by decide) (hBl := fun _ => (by kernel_rfl)) (hv := fun _ => (by kernel_rfl)) (hH' := fun _ => (by kernel_rfl)) (h := fun r122 => ?_)
          refine aP 3 (.d (.int .i64 (IntKind.wrap .i64 (r122 * 2)))) rfl (p_int (k := .i64) (p := r122) (q := 2)) ?_
          refine aP 6 (.d (.int .i64 (IntKind.wrap .i64 ((IntKind.wrap .i64 (r122 * 2)) * r1314)))) rfl (p_int (k := .i64) (p := (IntKind.wrap .i64 (r122 * 2))) (q := r1314)) ?_
          refine aP 23 (.d (.int .i64 (IntKind.wrap .i64 ((IntKind.wrap .i64 ((IntKind.wrap .i64 (r122 * 2)) * r1314)) + (IntKind.wrap .i64 (e1 * (IntKind.wrap .i64 ((IntKind.wrap .i64 (2 * r1117)) - (IntKind.wrap .i64 ((IntKind.wrap .i64 ((IntKind.wrap .i64 (2 * k141)) - 1)) * r1314)))))))))) rfl (p_int (k := .i64) (p := (IntKind.wrap .i64 ((IntKind.wrap .i64 (r122 * 2)) * r1314))) (q := (IntKind.wrap .i64 (e1 * (IntKind.wrap .i64 ((IntKind.wrap .i64 (2 * r1117)) - (IntKind.wrap .i64 ((IntKind.wrap .i64 ((IntKind.wrap .i64 (2 * k141)) - 1)) * r1314)))))))) ?_
          refine aP 24 (.d (.int .i64 (IntKind.wrap .i64 ((IntKind.wrap .i64 ((IntKind.wrap .i64 (r122 * 2)) * r1314)) + (IntKind.wrap .i64 (e1 * (IntKind.wrap .i64 ((IntKind.wrap .i64 (2 * r1117)) - (IntKind.wrap .i64 ((IntKind.wrap .i64 ((IntKind.wrap .i64 (2 * k141)) - 1)) * r1314)))))))))) rfl p_assign ?_
          refine aDone (h := ?_)
          refine oSeq ?_
          refine oDraw [(0, 13), (1, 13), (2, 13), (3, 13)] rfl ?_
          refine aP 0 (.d (.int .i64 (IntKind.wrap .i64 ((IntKind.wrap .i64 ((IntKind.wrap .i64 (r122 * 2)) * r1314)) + (IntKind.wrap .i64 (e1 * (IntKind.wrap .i64 ((IntKind.wrap .i64 (2 * r1117)) - (IntKind.wrap .i64 ((IntKind.wrap .i64 ((IntKind.wrap .i64 (2 * k141)) - 1)) * r1314)))))))))) rfl p_move ?_
          refine aP 1 (.d (.int .i64 r13)) rfl p_move ?_
          refine aP 2 (.d (.int .i64 (IntKind.wrap .i64 ((IntKind.wrap .i64 ((IntKind.wrap .i64 ((IntKind.wrap .i64 (r122 * 2)) * r1314)) + (IntKind.wrap .i64 (e1 * (IntKind.wrap .i64 ((IntKind.wrap .i64 (2 * r1117)) - (IntKind.wrap .i64 ((IntKind.wrap .i64 ((IntKind.wrap .i64 (2 * k141)) - 1)) * r1314)))))))) * r13)))) rfl (p_int (k := .i64) (p := (IntKind.wrap .i64 ((IntKind.wrap .i64 ((IntKind.wrap .i64 (r122 * 2)) * r1314)) + (IntKind.wrap .i64 (e1 * (IntKind.wrap .i64 ((IntKind.wrap .i64 (2 * r1117)) - (IntKind.wrap .i64 ((IntKind.wrap .i64 ((IntKind.wrap .i64 (2 * k141)) - 1)) * r1314))))))))) (q := r13)) ?_
          refine aQ 3 [0] (.agg [.d (.lit (List.map e_i64 r124))]) rfl (k_loadAgg 0 0 (hu := Try.underlying28) (hi := ty28)) ?_
          refine aP 4 (.d (.int .i64 i4)) rfl p_move ?_
          refine aP 6 (.d (.int .i64 r14)) rfl p_move ?_
          refine aP 9 (.ptr 3 1) rfl (k_fieldAddr 3 0 (hu := Try.underlying38) (hf := rfl) (hi := ty3)) ?_
          refine aQ 10 [3] (.d (.int .i64 r1314)) rfl (k_load 3 1 (hu := Try.underlying3)) ?_
          refine dCall (i := 5) (caps := []) (v := (fun (r123 : Int) => (.d (.int .i64 r123) : V))) (H' := (fun (r123 : Int) => ([.box [.d (.lit (List.map e_i64 r124))], .box [.d (.lit (List.map e_i64 r125))], .box [.d (.lit (List.map e_SPoint r181))], .box [.d (.int .i64 r1117), .d (.int .i64 r1314)]] : List Blk))) [] _ (ref32_Below_goes k r124 i4) rfl (ho := rfl) (hfn := Try.func15) (hb := rfl) (hconv := ConvRs.refl _ _) (hnd := by decide) (hBl := fun _ => (by kernel_rfl)) (hv := fun _ => (by kernel_rfl)) (hH' := fun _ => (by kernel_rfl)) (h := fun r123 => ?_)
          refine aP 7 (.d (.int .i64 (IntKind.wrap .i64 (r123 * r14)))) rfl (p_int (k := .i64) (p := r123) (q := r14)) ?_
          refine aP 8 (.d (.int .i64 (IntKind.wrap .i64 ((IntKind.wrap .i64 (r123 * r14)) * 2)))) rfl (p_int (k := .i64) (p := (IntKind.wrap .i64 (r123 * r14))) (q := 2)) ?_
          refine aP 11 (.d (.int .i64 (IntKind.wrap .i64 ((IntKind.wrap .i64 ((IntKind.wrap .i64 (r123 * r14)) * 2)) * r1314)))) rfl (p_int (k := .i64) (p := (IntKind.wrap .i64 ((IntKind.wrap .i64 (r123 * r14)) * 2))) (q := r1314)) ?_
          refine aP 12 (.d (.bool ((IntKind.wrap .i64 ((IntKind.wrap .i64 ((IntKind.wrap .i64 ((IntKind.wrap .i64 (r122 * 2)) * r1314)) + (IntKind.wrap .i64 (e1 * (IntKind.wrap .i64 ((IntKind.wrap .i64 (2 * r1117)) - (IntKind.wrap .i64 ((IntKind.wrap .i64 ((IntKind.wrap .i64 (2 * k141)) - 1)) * r1314)))))))) * r13)) != (IntKind.wrap .i64 ((IntKind.wrap .i64 ((IntKind.wrap .i64 (r123 * r14)) * 2)) * r1314))))) rfl (p_int (k := .i64) (p := (IntKind.wrap .i64 ((IntKind.wrap .i64 ((IntKind.wrap .i64 ((IntKind.wrap .i64 (r122 * 2)) * r1314)) + (IntKind.wrap .i64 (e1 * (IntKind.wrap .i64 ((IntKind.wrap .i64 (2 * r1117)) - (IntKind.wrap .i64 ((IntKind.wrap .i64 ((IntKind.wrap .i64 (2 * k141)) - 1)) * r1314)))))))) * r13))) (q := (IntKind.wrap .i64 ((IntKind.wrap .i64 ((IntKind.wrap .i64 (r123 * r14)) * 2)) * r1314)))) ?_
          refine aDone (h := ?_)
          refine bSplit 121 (h1 := fun hc => ?_) (h2 := fun hc => ?_)
          ·refine oCondT (h := ?_)
           refine oSR rfl ?_
           refine oP (.d (.bool false)) p_assign ?_
           refine oEnd ?_
           exact oRet (r0 := false) (rv := .d (.bool false)) (B := []) (vs := [.d (.bool false)]) (σ := []) (hf := Try.func3) (hrs := rfl) (hres := .cons _ _ _ _ (.tmp 2 _ (by kernel_rfl)) .nil) (hnd := by decide)
          ·refine oCondF (h := ?_)
           refine oSkip ?_
           refine oBlk ?_
           refine oRegion rfl ?_
           refine oP (.d (.int .i64 i4)) p_move ?_
           refine oP (.d (.int .i64 (IntKind.wrap .i64 (i4 + 1)))) (p_int (k := .i64) (p := i4) (q := 1)) ?_
           refine oP (.d (.int .i64 (IntKind.wrap .i64 (i4 + 1)))) p_assign ?_
           refine oEnd ?_
           refine oAgain ?_
           refine oHead [4, 5, 6, 8, 9, 10] [0, 1, 2] (T' := [(4, .ptr 0 0), (5, .ptr 1 0), (6, .ptr 2 0), (8, .d (.int .i64 r13)), (9, .d (.int .i64 r14)), (10, .d (.int .i64 (IntKind.wrap .i64 (i4 + 1))))]) (H' := [.box [.d (.lit (List.map e_i64 r124))], .box [.d (.lit (List.map e_i64 r125))], .box [.d (.lit (List.map e_SPoint r181))]]) (hnd := by decide) (h := ?_)
           exact hag1 (IntKind.wrap .i64 (i4 + 1))
         ·refine oBlock ?_
          refine oLoop ?_
          refine oHead [4, 5, 6, 8, 9, 10, 13, 15] [0, 1, 2, 3] (T' := [(4, .ptr 0 0), (5, .ptr 1 0), (6, .ptr 2 0), (8, .d (.int .i64 r13)), (9, .d (.int .i64 r14)), (10, .d (.int .i64 i4)), (13, .ptr 3 0), (15, .d (.int .i64 0))]) (H' := [.box [.d (.lit (List.map e_i64 r124))], .box [.d (.lit (List.map e_i64 r125))], .box [.d (.lit (List.map e_SPoint r181))], .box [.d (.int .i64 r1117), .d (.int .i64 r1314)]]) (hnd := by decide) (h := ?_)
          refine bLoop (body := law34_EquatingShares_b2 k r125 r1117 r1314) ((fun (k142 : Int) => [(4, .ptr 0 0), (5, .ptr 1 0), (6, .ptr 2 0), (8, .d (.int .i64 r13)), (9, .d (.int .i64 r14)), (10, .d (.int .i64 i4)), (13, .ptr 3 0), (15, .d (.int .i64 k142))])) ((fun (k142 : Int) => [.box [.d (.lit (List.map e_i64 r124))], .box [.d (.lit (List.map e_i64 r125))], .box [.d (.lit (List.map e_SPoint r181))], .box [.d (.int .i64 r1117), .d (.int .i64 r1314)]])) (fun again hag2 k142 => ?_) k 0
          ·unfold law34_EquatingShares_b2
           refine oView (T' := [(4, .ptr 0 0), (5, .ptr 1 0), (6, .ptr 2 0), (8, .d (.int .i64 r13)), (9, .d (.int .i64 r14)), (10, .d (.int .i64 i4)), (13, .ptr 3 0), (15, .d (.int .i64 k142))]) (H' := [.box [.d (.lit (List.map e_i64 r124))], .box [.d (.lit (List.map e_i64 r125))], .box [.d (.lit (List.map e_SPoint r181))], .box [.d (.int .i64 r1117), .d (.int .i64 r1314)]]) (h := ?_)
           refine oSeq ?_
           refine oSR rfl ?_
           refine oP (.d (.int .i64 k142)) p_move ?_
           refine oP (.d (.int .i64 (IntKind.wrap .i64 (k142 + 1)))) (p_int (k := .i64) (p := k142) (q := 1)) ?_
           refine oP (.ptr 1 0) (k_fieldAddr 1 0 (hu := Try.underlying28) (hf := rfl) (hi := ty22)) ?_
           refine oQ (.d (.lit (List.map e_i64 r125))) (k_load 1 0 (hu := Try.underlying22)) ?_
           refine oP (.d (.int .i64 ((List.length r125) : Int))) (k_lenLit (enc := e_i64) r125 (hu := Try.underlying22)) ?_
           refine oP (.d (.bool (decide ((IntKind.wrap .i64 (k142 + 1)) < ((List.length r125) : Int))))) (p_int (k := .i64) (p := (IntKind.wrap .i64 (k142 + 1))) (q := ((List.length r125) : Int))) ?_
           refine oP (.d (.bool (decide ((IntKind.wrap .i64 (k142 + 1)) < ((List.length r125) : Int))))) p_move ?_
           refine bMeet 11 rfl ((fun (x45 : Bool) => [(4, .ptr 0 0), (5, .ptr 1 0), (6, .ptr 2 0), (8, .d (.int .i64 r13)), (9, .d (.int .i64 r14)), (10, .d (.int .i64 i4)), (13, .ptr 3 0), (15, .d (.int .i64 k142)), (82, .d (.bool x45))])) ((fun (x45 : Bool) => [.box [.d (.lit (List.map e_i64 r124))], .box [.d (.lit (List.map e_i64 r125))], .box [.d (.lit (List.map e_SPoint r181))], .box [.d (.int .i64 r1117), .d (.int .i64 r1314)]])) (fun s => s) (fun x45 => ?_) (fun hj18 => ?_)
           ·refine oView (T' := [(4, .ptr 0 0), (5, .ptr 1 0), (6, .ptr 2 0), (8, .d (.int .i64 r13)), (9, .d (.int .i64 r14)), (10, .d (.int .i64 i4)), (13, .ptr 3 0), (15, .d (.int .i64 k142)), (82, .d (.bool x45))]) (H' := [.box [.d (.lit (List.map e_i64 r124))], .box [.d (.lit (List.map e_i64 r125))], .box [.d (.lit (List.map e_SPoint r181))], .box [.d (.int .i64 r1117), .d (.int .i64 r1314)]]) (h := ?_)
            refine oEnd ?_
            refine bSplit 82 (h1 := fun hc => ?_) (h2 := fun hc => ?_)
            ·refine oCondT (h := ?_)
             refine oSkip ?_
             refine oBlock ?_
             refine oRegion rfl ?_
             refine oP (.d (.int .i64 k142)) p_move ?_
             refine oP (.d (.int .i64 (IntKind.wrap .i64 (k142 + 1)))) (p_int (k := .i64) (p := k142) (q := 1)) ?_
             refine oP (.d (.int .i64 (IntKind.wrap .i64 (k142 + 1)))) p_assign ?_
             refine oEnd ?_
             refine oBlk ?_
             refine oAgain ?_
             refine oHead [4, 5, 6, 8, 9, 10, 13, 15] [0, 1, 2, 3] (T' := [(4, .ptr 0 0), (5, .ptr 1 0), (6, .ptr 2 0), (8, .d (.int .i64 r13)), (9, .d (.int .i64 r14)), (10, .d (.int .i64 i4)), (13, .ptr 3 0), (15, .d (.int .i64 (IntKind.wrap .i64 (k142 + 1))))]) (H' := [.box [.d (.lit (List.map e_i64 r124))], .box [.d (.lit (List.map e_i64 r125))], .box [.d (.lit (List.map e_SPoint r181))], .box [.d (.int .i64 r1117), .d (.int .i64 r1314)]]) (hnd := by decide) (h := ?_)
             exact hag2 (IntKind.wrap .i64 (k142 + 1))
            ·refine oCondF (h := ?_)
             refine oExit rfl ?_
             refine oHead [4, 5, 6, 8, 9, 10, 13, 15] [0, 1, 2, 3] (T' := [(4, .ptr 0 0), (5, .ptr 1 0), (6, .ptr 2 0), (8, .d (.int .i64 r13)), (9, .d (.int .i64 r14)), (10, .d (.int .i64 i4)), (13, .ptr 3 0), (15, .d (.int .i64 k142))]) (H' := [.box [.d (.lit (List.map e_i64 r124))], .box [.d (.lit (List.map e_i64 r125))], .box [.d (.lit (List.map e_SPoint r181))], .box [.d (.int .i64 r1117), .d (.int .i64 r1314)]]) (hnd := by decide) (h := ?_)
             exact hj17 k142
           ·refine bSplit 71 (h1 := fun hc => ?_) (h2 := fun hc => ?_)
            ·refine oP (.ptr 3 0) (k_fieldAddr 3 0 (hu := Try.underlying38) (hf := rfl) (hi := ty3)) ?_
             refine oQ (.d (.int .i64 r1117)) (k_load 3 0 (hu := Try.underlying3)) ?_
             refine oP (.d (.int .i64 (IntKind.wrap .i64 (r1117 * 2)))) (p_int (k := .i64) (p := r1117) (q := 2)) ?_
             refine oP (.d (.int .i64 k142)) p_move ?_
             refine oP (.d (.int .i64 (IntKind.wrap .i64 (2 * k142)))) (p_int (k := .i64) (p := 2) (q := k142)) ?_
             refine oP (.d (.int .i64 (IntKind.wrap .i64 ((IntKind.wrap .i64 (2 * k142)) + 1)))) (p_int (k := .i64) (p := (IntKind.wrap .i64 (2 * k142))) (q := 1)) ?_
             refine oP (.ptr 3 1) (k_fieldAddr 3 0 (hu := Try.underlying38) (hf := rfl) (hi := ty3)) ?_
             refine oQ (.d (.int .i64 r1314)) (k_load 3 1 (hu := Try.underlying3)) ?_
             refine oP (.d (.int .i64 (IntKind.wrap .i64 ((IntKind.wrap .i64 ((IntKind.wrap .i64 (2 * k142)) + 1)) * r1314)))) (p_int (k := .i64) (p := (IntKind.wrap .i64 ((IntKind.wrap .i64 (2 * k142)) + 1))) (q := r1314)) ?_
             refine oP (.d (.bool (decide ((IntKind.wrap .i64 (r1117 * 2)) > (IntKind.wrap .i64 ((IntKind.wrap .i64 ((IntKind.wrap .i64 (2 * k142)) + 1)) * r1314)))))) (p_int (k := .i64) (p := (IntKind.wrap .i64 (r1117 * 2))) (q := (IntKind.wrap .i64 ((IntKind.wrap .i64 ((IntKind.wrap .i64 (2 * k142)) + 1)) * r1314)))) ?_
             refine oP (.d (.bool (decide ((IntKind.wrap .i64 (r1117 * 2)) > (IntKind.wrap .i64 ((IntKind.wrap .i64 ((IntKind.wrap .i64 (2 * k142)) + 1)) * r1314)))))) (p_pick (b := true)) ?_
             refine oHead [4, 5, 6, 8, 9, 10, 13, 15, 82] [0, 1, 2, 3] (T' := [(4, .ptr 0 0), (5, .ptr 1 0), (6, .ptr 2 0), (8, .d (.int .i64 r13)), (9, .d (.int .i64 r14)), (10, .d (.int .i64 i4)), (13, .ptr 3 0), (15, .d (.int .i64 k142)), (82, .d (.bool (decide ((IntKind.wrap .i64 (r1117 * 2)) > (IntKind.wrap .i64 ((IntKind.wrap .i64 ((IntKind.wrap .i64 (2 * k142)) + 1)) * r1314))))))]) (H' := [.box [.d (.lit (List.map e_i64 r124))], .box [.d (.lit (List.map e_i64 r125))], .box [.d (.lit (List.map e_SPoint r181))], .box [.d (.int .i64 r1117), .d (.int .i64 r1314)]]) (hnd := by decide) (h := ?_)
             exact hj18 (decide ((IntKind.wrap .i64 (r1117 * 2)) > (IntKind.wrap .i64 ((IntKind.wrap .i64 ((IntKind.wrap .i64 (2 * k142)) + 1)) * r1314))))
            ·refine oNot (h := ?_)
             refine oNot (h := ?_)
             refine oNot (h := ?_)
             refine oNot (h := ?_)
             refine oNot (h := ?_)
             refine oNot (h := ?_)
             refine oNot (h := ?_)
             refine oNot (h := ?_)
             refine oNot (h := ?_)
             refine oNot (h := ?_)
             refine oP (.d (.bool false)) (p_pick (b := false)) ?_
             refine oHead [4, 5, 6, 8, 9, 10, 13, 15, 82] [0, 1, 2, 3] (T' := [(4, .ptr 0 0), (5, .ptr 1 0), (6, .ptr 2 0), (8, .d (.int .i64 r13)), (9, .d (.int .i64 r14)), (10, .d (.int .i64 i4)), (13, .ptr 3 0), (15, .d (.int .i64 k142)), (82, .d (.bool false))]) (H' := [.box [.d (.lit (List.map e_i64 r124))], .box [.d (.lit (List.map e_i64 r125))], .box [.d (.lit (List.map e_SPoint r181))], .box [.d (.int .i64 r1117), .d (.int .i64 r1314)]]) (hnd := by decide) (h := ?_)
             exact hj18 false
       ·refine bPickF 61 (fun c => F (c || (r1414 != 0))) (h1 := fun hc => ?_) (h2 := fun hc => ?_)
        ·refine oNot (h := ?_)
         refine oNot (h := ?_)
         refine oP (.d (.bool true)) (p_pick (b := true)) ?_
         refine oHead [4, 5, 6, 8, 9, 10, 13, 64] [0, 1, 2, 4] (T' := [(4, .ptr 0 0), (5, .ptr 1 0), (6, .ptr 2 0), (8, .d (.int .i64 r13)), (9, .d (.int .i64 r14)), (10, .d (.int .i64 i4)), (13, .ptr 3 0), (64, .d (.bool true))]) (H' := [.box [.d (.lit (List.map e_i64 r124))], .box [.d (.lit (List.map e_i64 r125))], .box [.d (.lit (List.map e_SPoint r181))], .box [.d (.int .i64 r1117), .d (.int .i64 r1314)]]) (hnd := by decide) (h := ?_)
         exact hj16 true
        ·refine oP (.d (.int .i64 r1414)) p_move ?_
         refine oP (.d (.bool (r1414 != 0))) (p_int (k := .i64) (p := r1414) (q := 0)) ?_
         refine oP (.d (.bool (r1414 != 0))) (p_pick (b := false)) ?_
         refine oHead [4, 5, 6, 8, 9, 10, 13, 64] [0, 1, 2, 4] (T' := [(4, .ptr 0 0), (5, .ptr 1 0), (6, .ptr 2 0), (8, .d (.int .i64 r13)), (9, .d (.int .i64 r14)), (10, .d (.int .i64 i4)), (13, .ptr 3 0), (64, .d (.bool (r1414 != 0)))]) (H' := [.box [.d (.lit (List.map e_i64 r124))], .box [.d (.lit (List.map e_i64 r125))], .box [.d (.lit (List.map e_SPoint r181))], .box [.d (.int .i64 r1117), .d (.int .i64 r1314)]]) (hnd := by decide) (h := ?_)
         exact hj16 (r1414 != 0)
      ·refine oCondF (h := ?_)
       refine oExit rfl ?_
       refine oHead [] [] (T' := []) (H' := []) (hnd := by decide) (h := ?_)
       exact hj10 ()

end Go.VM
