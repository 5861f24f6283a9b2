/- Plain functions that answer as the program's functions do, and the proof that they do. -/
import Derived.Test.YtmnpognjbfjhbaaProg
import Derived.KernelRfl
import Derived.Test.YtmnpognjbfjhbaaEngOM
import Derived.Test.YtmnpognjbfjhbaaSmFacts
import Derived.Test.YtmnpognjbfjhbaaSmFuns0
import Derived.Test.YtmnpognjbfjhbaaSmFuns1
namespace Go.VM
open Go.Proofs
set_option linter.unusedVariables false
set_option linter.unusedSimpArgs false
set_option maxRecDepth 100000
/-- (*awardingbody/awardingbodymark.Dice).Distribution -/
def mark_Dice_Distribution_b1 (k : Nat) (x : (List Int)) (least1 : Int) (again : Int × Int × (List Int) → Option (Int × (List Int))) : Int × Int × (List Int) → Option (Int × (List Int)) := uc fun i7 => uc fun x11 => fun xs6 => bif (decide (i7 > 0)) then Option.bind (mark_Dice_Pick k x x11 ([0, 1, 2, 5, 0] : List Int)) (uc fun r11 => fun x2 => gcap (List.length (xs6 ++ ([(IntKind.wrap .i64 (least1 + r11))] : List Int))) 8 (again ((IntKind.wrap .i64 (i7 - 1)), x2, (xs6 ++ ([(IntKind.wrap .i64 (least1 + r11))] : List Int))))) else some (x11, xs6)
def mark_Dice_Distribution (k : Nat) (n : Int) (full : Bool) (x : (List Int)) (x1 : Int) : Option ((List Int) × Int) := Option.bind (bif full then some 1 else some 0 : Option (Int)) (fun least1 => Option.bind (mark_Dice_Next k (IntKind.wrap .i64 (n + 1)) x x1) (uc fun r13 => fun x61 => Option.bind (gloop (mark_Dice_Distribution_b1 k x least1) k ((IntKind.wrap .i64 (1 + r13)), x61, ([] : List Int)) : Option (Int × (List Int))) (uc fun x10 => fun xs5 => some (xs5, x10))))
def mark_Dice_Distribution_E (n : Int) (full : Bool) (x : (List Int)) (x1 : Int) : (List Int) × Int → V × List Blk := uc fun r12 => fun x7 => (.agg [.d (.lit (List.map e_i64 r12))], [.box [.d (.lit (List.map e_i64 x)), .d (.int .i64 x7)]])
theorem mark_Dice_Distribution_goes (k : Nat) (n : Int) (full : Bool) (x : (List Int)) (x1 : Int) : RunsO Try.prog 12 [.ptr 0 0, .d (.int .i64 n), .d (.bool full)] [.box [.d (.lit (List.map e_i64 x)), .d (.int .i64 x1)]] (mark_Dice_Distribution_E n full x x1) (mark_Dice_Distribution k n full x x1) := by
  refine RunsO.of_goes (N := 31) (m := 1) (T := [(0, .ptr 0 0), (1, .d (.int .i64 n)), (2, .d (.bool full))]) Try.func12 rfl rfl (h := ?_)
  unfold mark_Dice_Distribution
  refine bStart ?_
  refine oSR rfl ?_
  refine oD (.ptr 1 0) (k_alloc (H' := [.box [.d (.lit (List.map e_i64 x)), .d (.int .i64 x1)], .box [.nilc]]) ty26) ?_
  refine oEnd ?_
  refine oSR rfl ?_
  refine oD (.ptr 2 0) (k_alloc (H' := [.box [.d (.lit (List.map e_i64 x)), .d (.int .i64 x1)], .box [.nilc], .box [.nilc]]) ty26) ?_
  refine oEnd ?_
  refine oSR rfl ?_
  refine oP (.d (.int .i64 0)) p_assign ?_
  refine oEnd ?_
  refine oSeq ?_
  refine oSR rfl ?_
  refine oP (.d (.bool full)) p_move ?_
  refine oEnd ?_
  refine bJoin ((fun (least1 : Int) => [(0, .ptr 0 0), (1, .d (.int .i64 n)), (6, .ptr 1 0), (7, .ptr 2 0), (8, .d (.int .i64 least1))])) ((fun (least1 : Int) => [.box [.d (.lit (List.map e_i64 x)), .d (.int .i64 x1)], .box [.nilc], .box [.nilc]])) (fun s => s) (fun least1 => ?_) (fun hj3 => ?_)
  ·refine oView (T' := [(0, .ptr 0 0), (1, .d (.int .i64 n)), (6, .ptr 1 0), (7, .ptr 2 0), (8, .d (.int .i64 least1))]) (H' := [.box [.d (.lit (List.map e_i64 x)), .d (.int .i64 x1)], .box [.nilc], .box [.nilc]]) (h := ?_)
   refine oSeq ?_
   refine oSR rfl ?_
   refine oP (.ptr 0 0) p_move ?_
   refine oP (.d (.int .i64 n)) p_move ?_
   refine oP (.d (.int .i64 (IntKind.wrap .i64 (n + 1)))) (p_int (k := .i64) (p := n) (q := 1)) ?_
   refine bCall (caps := []) (v := (uc fun (r13 : Int) => (fun (x61 : Int) => (.d (.int .i64 r13) : V)))) (H' := (uc fun (r13 : Int) => (fun (x61 : Int) => ([.box [.d (.lit (List.map e_i64 x)), .d (.int .i64 x61)], .box [.nilc], .box [.nilc]] : List Blk)))) [0] _ (mark_Dice_Next_goes k (IntKind.wrap .i64 (n + 1)) x x1) (ho := rfl) (hfn := Try.func26) (hb := rfl) (hconv := ConvRs.refl _ _) (hnd := by decide) (hBl := fun _ => (by kernel_rfl)) (hv := fun _ => (by kernel_rfl)) (hH' := fun _ => (by kernel_rfl)) (h := fun r => ?_)
   obtain ⟨r13, x61⟩ := r
   refine bUc ?_
   refine oP (.d (.int .i64 (IntKind.wrap .i64 (1 + r13)))) (p_int (k := .i64) (p := 1) (q := r13)) ?_
   refine oP (.d (.int .i64 (IntKind.wrap .i64 (1 + r13)))) p_assign ?_
   refine oEnd ?_
   refine bJoin ((uc fun (x10 : Int) => (fun (xs5 : (List Int)) => [(6, .ptr 1 0), (7, .ptr 2 0)]))) ((uc fun (x10 : Int) => (fun (xs5 : (List Int)) => [.box [.d (.lit (List.map e_i64 x)), .d (.int .i64 x10)], .box [.nilc], .box [.ref 3 (List.length xs5) 0 (List.length xs5)], .sl 1 (List.map e_i64 xs5) false]))) (fun s => s) (fun s => ?_) (fun hj4 => ?_)
   ·obtain ⟨x10, xs5⟩ := s
    refine bUc ?_
    refine oView (T' := [(6, .ptr 1 0), (7, .ptr 2 0)]) (H' := [.box [.d (.lit (List.map e_i64 x)), .d (.int .i64 x10)], .box [.nilc], .box [.ref 3 (List.length xs5) 0 (List.length xs5)], .sl 1 (List.map e_i64 xs5) false]) (h := ?_)
    refine oSR rfl ?_
    refine oQ (.agg [.ref 3 (List.length xs5) 0 (List.length xs5)]) (k_loadAgg 2 0 (hu := Try.underlying26) (hi := ty26)) ?_
    refine oD (.undef) (k_store (vs := [.ref 3 (List.length xs5) 0 (List.length xs5)]) (H' := [.box [.d (.lit (List.map e_i64 x)), .d (.int .i64 x10)], .box [.ref 3 (List.length xs5) 0 (List.length xs5)], .box [.ref 3 (List.length xs5) 0 (List.length xs5)], .sl 1 (List.map e_i64 xs5) false]) 1 0 (hi := ty26)) ?_
    refine oEnd ?_
    refine oFreeze 3 (esz := 1) (xs := List.map e_i64 xs5) (h := ?_)
    refine oView (H' := [.box [.d (.lit (List.map e_i64 x)), .d (.int .i64 x10)], .box [.ref 3 (List.length xs5) 0 (List.length xs5)], .box [.ref 3 (List.length xs5) 0 (List.length xs5)], .sl 1 (List.map e_i64 xs5) true]) rfl (h := ?_)
    refine oConvB 1 (cells := [.ref 3 (List.length xs5) 0 (List.length xs5)]) (cells' := [.d (.lit (List.map e_i64 xs5))]) (hc := .cons _ _ _ _ (k_lit (enc := e_i64) (sz := 1) 3 xs5) .nil) (h := ?_)
    refine oView (H' := [.box [.d (.lit (List.map e_i64 x)), .d (.int .i64 x10)], .box [.d (.lit (List.map e_i64 xs5))], .box [.ref 3 (List.length xs5) 0 (List.length xs5)], .sl 1 (List.map e_i64 xs5) true]) rfl (h := ?_)
    exact oRet (r0 := (xs5, x10)) (rv := .agg [.d (.lit (List.map e_i64 xs5))]) (B := [.box [.d (.lit (List.map e_i64 x)), .d (.int .i64 x10)]]) (vs := [.agg [.d (.lit (List.map e_i64 xs5))]]) (σ := [0]) (hf := Try.func12) (hrs := rfl) (hres := .cons _ _ _ _ (.agg 6 26 1 0 [.d (.lit (List.map e_i64 xs5))] [.d (.lit (List.map e_i64 xs5))] _ _ _ _ (by kernel_rfl) (by kernel_rfl) Try.underlying26 (by kernel_rfl) ty26 (by kernel_rfl) (by kernel_rfl)) .nil) (hnd := by decide)
   ·refine oBlock ?_
    refine oLoop ?_
    refine oVirtB (esz := 1) 2 0 (cells := [.nilc]) (h := ?_)
    refine oView (H' := [.box [.d (.lit (List.map e_i64 x)), .d (.int .i64 x61)], .box [.nilc], .box [.ref 3 (List.length ([] : List Int)) 0 (List.length ([] : List Int))], .sl 1 (List.map e_i64 ([] : List Int)) false]) rfl (h := ?_)
    refine oHead [0, 6, 7, 8, 9] [0, 1, 2, 3] (T' := [(0, .ptr 0 0), (6, .ptr 1 0), (7, .ptr 2 0), (8, .d (.int .i64 least1)), (9, .d (.int .i64 (IntKind.wrap .i64 (1 + r13))))]) (H' := [.box [.d (.lit (List.map e_i64 x)), .d (.int .i64 x61)], .box [.nilc], .box [.ref 3 (List.length ([] : List Int)) 0 (List.length ([] : List Int))], .sl 1 (List.map e_i64 ([] : List Int)) false]) (hnd := by decide) (h := ?_)
    refine bLoop (body := mark_Dice_Distribution_b1 k x least1) ((uc fun (i7 : Int) => (uc fun (x11 : Int) => (fun (xs6 : (List Int)) => [(0, .ptr 0 0), (6, .ptr 1 0), (7, .ptr 2 0), (8, .d (.int .i64 least1)), (9, .d (.int .i64 i7))])))) ((uc fun (i7 : Int) => (uc fun (x11 : Int) => (fun (xs6 : (List Int)) => [.box [.d (.lit (List.map e_i64 x)), .d (.int .i64 x11)], .box [.nilc], .box [.ref 3 (List.length xs6) 0 (List.length xs6)], .sl 1 (List.map e_i64 xs6) false])))) (fun again hag1 s => ?_) k ((IntKind.wrap .i64 (1 + r13)), x61, ([] : List Int))
    ·unfold mark_Dice_Distribution_b1
     obtain ⟨i7, x11, xs6⟩ := s
     refine bUc ?_
     refine bUc ?_
     refine oView (T' := [(0, .ptr 0 0), (6, .ptr 1 0), (7, .ptr 2 0), (8, .d (.int .i64 least1)), (9, .d (.int .i64 i7))]) (H' := [.box [.d (.lit (List.map e_i64 x)), .d (.int .i64 x11)], .box [.nilc], .box [.ref 3 (List.length xs6) 0 (List.length xs6)], .sl 1 (List.map e_i64 xs6) false]) (h := ?_)
     refine oSeq ?_
     refine oSR rfl ?_
     refine oP (.d (.int .i64 i7)) p_move ?_
     refine oP (.d (.bool (decide (i7 > 0)))) (p_int (k := .i64) (p := i7) (q := 0)) ?_
     refine oEnd ?_
     refine bSplit 17 (h1 := fun hc => ?_) (h2 := fun hc => ?_)
     ·refine oCondT (h := ?_)
      refine oSkip ?_
      refine oSeq ?_
      refine oBlock ?_
      refine oDraw [(0, 5), (1, 11), (2, 10), (3, 8)] rfl ?_
      refine aP 0 (.ptr 2 0) rfl (k_fieldAddr 2 0 (hu := Try.underlying26) (hf := rfl) (hi := ty22)) ?_
      refine aQ 1 [2] (.ref 3 (List.length xs6) 0 (List.length xs6)) rfl (k_load 2 0 (hu := Try.underlying22)) ?_
      refine aP 2 (.d (.int .i64 least1)) rfl p_move ?_
      refine aP 3 (.ptr 0 0) rfl p_move ?_
      refine aOne (i := 4) (v := .ref 4 (List.length ([0, 1, 2, 5, 0] : List Int)) 0 (List.length ([0, 1, 2, 5, 0] : List Int))) rfl (hac := (Does.acts (k_buildSlice (H' := [.box [.d (.lit (List.map e_i64 x)), .d (.int .i64 x11)], .box [.nilc], .box [.ref 3 (List.length xs6) 0 (List.length xs6)], .sl 1 (List.map e_i64 xs6) false, .sl 1 (List.map e_i64 ([0, 1, 2, 5, 0] : List Int)) false]) (List.map e_i64 ([0, 1, 2, 5, 0] : List Int)) Try.underlying22 ty3))) (h := ?_)
      refine dCall (i := 5) (caps := []) (v := (uc fun (r11 : Int) => (fun (x2 : Int) => (.d (.int .i64 r11) : V)))) (H' := (uc fun (r11 : Int) => (fun (x2 : Int) => ([.box [.d (.lit (List.map e_i64 x)), .d (.int .i64 x2)], .box [.nilc], .box [.ref 3 (List.length xs6) 0 (List.length xs6)], .sl 1 (List.map e_i64 xs6) false, .sl 1 (List.map e_i64 ([0, 1, 2, 5, 0] : List Int)) false] : List Blk)))) [0, 4] _ (mark_Dice_Pick_goes k x x11 ([0, 1, 2, 5, 0] : List Int)) rfl (ho := rfl) (hfn := Try.func40) (hb := rfl) (hconv := ConvRs.refl _ _) (hnd := by decide) (hBl := fun _ => (by kernel_rfl)) (hv := fun _ => (by kernel_rfl)) (hH' := fun _ => (by kernel_rfl)) (h := fun r => ?_)
      obtain ⟨r11, x2⟩ := r
      refine dUc ?_
      refine aP 6 (.d (.int .i64 (IntKind.wrap .i64 (least1 + r11)))) rfl (p_int (k := .i64) (p := least1) (q := r11)) ?_
      refine aOne (i := 7) (v := .ref 5 (List.length ([(IntKind.wrap .i64 (least1 + r11))] : List Int)) 0 (List.length ([(IntKind.wrap .i64 (least1 + r11))] : List Int))) rfl (hac := (Does.acts (k_buildSlice (H' := [.box [.d (.lit (List.map e_i64 x)), .d (.int .i64 x2)], .box [.nilc], .box [.ref 3 (List.length xs6) 0 (List.length xs6)], .sl 1 (List.map e_i64 xs6) false, .sl 1 (List.map e_i64 ([0, 1, 2, 5, 0] : List Int)) false, .sl 1 (List.map e_i64 ([(IntKind.wrap .i64 (least1 + r11))] : List Int)) false]) (List.map e_i64 ([(IntKind.wrap .i64 (least1 + r11))] : List Int)) Try.underlying22 ty3))) (h := ?_)
      refine dCap (fun h1 => ?_)
      refine aOne (i := 8) (v := .ref 3 (List.length (xs6 ++ ([(IntKind.wrap .i64 (least1 + r11))] : List Int))) 0 (List.length (xs6 ++ ([(IntKind.wrap .i64 (least1 + r11))] : List Int)))) rfl (hac := (Does.acts (k_append (H' := [.box [.d (.lit (List.map e_i64 x)), .d (.int .i64 x2)], .box [.nilc], .box [.ref 3 (List.length xs6) 0 (List.length xs6)], .sl 1 (List.map e_i64 (xs6 ++ ([(IntKind.wrap .i64 (least1 + r11))] : List Int))) false, .sl 1 (List.map e_i64 ([0, 1, 2, 5, 0] : List Int)) false, .sl 1 (List.map e_i64 ([(IntKind.wrap .i64 (least1 + r11))] : List Int)) false]) (enc := e_i64) 3 xs6 ([(IntKind.wrap .i64 (least1 + r11))] : List Int) Try.underlying22 Try.underlying22 ty3 (hy := (holdsRef (enc := e_i64) 5 ([(IntKind.wrap .i64 (least1 + r11))] : List Int) false)) (hfit := h1)))) (h := ?_)
      refine aP 9 (.ptr 2 0) rfl (k_fieldAddr 2 0 (hu := Try.underlying26) (hf := rfl) (hi := ty22)) ?_
      refine aOne (i := 10) (v := .undef) rfl (hac := (Does.acts (k_store (vs := [.ref 3 (List.length (xs6 ++ ([(IntKind.wrap .i64 (least1 + r11))] : List Int))) 0 (List.length (xs6 ++ ([(IntKind.wrap .i64 (least1 + r11))] : List Int)))]) (H' := [.box [.d (.lit (List.map e_i64 x)), .d (.int .i64 x2)], .box [.nilc], .box [.ref 3 (List.length (xs6 ++ ([(IntKind.wrap .i64 (least1 + r11))] : List Int))) 0 (List.length (xs6 ++ ([(IntKind.wrap .i64 (least1 + r11))] : List Int)))], .sl 1 (List.map e_i64 (xs6 ++ ([(IntKind.wrap .i64 (least1 + r11))] : List Int))) false, .sl 1 (List.map e_i64 ([0, 1, 2, 5, 0] : List Int)) false, .sl 1 (List.map e_i64 ([(IntKind.wrap .i64 (least1 + r11))] : List Int)) false]) 2 0 (hi := ty22)))) (h := ?_)
      refine aDone (h := ?_)
      refine oBlk ?_
      refine oRegion rfl ?_
      refine oP (.d (.int .i64 i7)) p_move ?_
      refine oP (.d (.int .i64 (IntKind.wrap .i64 (i7 - 1)))) (p_int (k := .i64) (p := i7) (q := 1)) ?_
      refine oP (.d (.int .i64 (IntKind.wrap .i64 (i7 - 1)))) p_assign ?_
      refine oEnd ?_
      refine oAgain ?_
      refine oHead [0, 6, 7, 8, 9] [0, 1, 2, 3] (T' := [(0, .ptr 0 0), (6, .ptr 1 0), (7, .ptr 2 0), (8, .d (.int .i64 least1)), (9, .d (.int .i64 (IntKind.wrap .i64 (i7 - 1))))]) (H' := [.box [.d (.lit (List.map e_i64 x)), .d (.int .i64 x2)], .box [.nilc], .box [.ref 3 (List.length (xs6 ++ ([(IntKind.wrap .i64 (least1 + r11))] : List Int))) 0 (List.length (xs6 ++ ([(IntKind.wrap .i64 (least1 + r11))] : List Int)))], .sl 1 (List.map e_i64 (xs6 ++ ([(IntKind.wrap .i64 (least1 + r11))] : List Int))) false]) (hnd := by decide) (h := ?_)
      exact hag1 ((IntKind.wrap .i64 (i7 - 1)), x2, (xs6 ++ ([(IntKind.wrap .i64 (least1 + r11))] : List Int)))
     ·refine oCondF (h := ?_)
      refine oExit rfl ?_
      refine oHead [6, 7] [0, 1, 2, 3] (T' := [(6, .ptr 1 0), (7, .ptr 2 0)]) (H' := [.box [.d (.lit (List.map e_i64 x)), .d (.int .i64 x11)], .box [.nilc], .box [.ref 3 (List.length xs6) 0 (List.length xs6)], .sl 1 (List.map e_i64 xs6) false]) (hnd := by decide) (h := ?_)
      exact hj4 (x11, xs6)
  ·refine bSplit 10 (h1 := fun hc => ?_) (h2 := fun hc => ?_)
   ·refine oCondT (h := ?_)
    refine oRegion rfl ?_
    refine oP (.d (.int .i64 1)) p_assign ?_
    refine oEnd ?_
    refine oHead [0, 1, 6, 7, 8] [0, 1, 2] (T' := [(0, .ptr 0 0), (1, .d (.int .i64 n)), (6, .ptr 1 0), (7, .ptr 2 0), (8, .d (.int .i64 1))]) (H' := [.box [.d (.lit (List.map e_i64 x)), .d (.int .i64 x1)], .box [.nilc], .box [.nilc]]) (hnd := by decide) (h := ?_)
    exact hj3 1
   ·refine oCondF (h := ?_)
    refine oSkip ?_
    refine oHead [0, 1, 6, 7, 8] [0, 1, 2] (T' := [(0, .ptr 0 0), (1, .d (.int .i64 n)), (6, .ptr 1 0), (7, .ptr 2 0), (8, .d (.int .i64 0))]) (H' := [.box [.d (.lit (List.map e_i64 x)), .d (.int .i64 x1)], .box [.nilc], .box [.nilc]]) (hnd := by decide) (h := ?_)
    exact hj3 0

/-- math/bits.Mul -/
def math_bits_Mul (k : Nat) (x : Int) (y : Int) : Option (Int × Int) := Option.bind (math_bits_Mul64 k x y) (uc fun r14 => fun r111 => some (r14, r111))
def math_bits_Mul_E (x : Int) (y : Int) : Int × Int → V × List Blk := uc fun r12 => fun r13 => (.tuple [.d (.int .u64 r12), .d (.int .u64 r13)], [])
theorem math_bits_Mul_goes (k : Nat) (x : Int) (y : Int) : RunsO Try.prog 68 [.d (.int .u64 x), .d (.int .u64 y)] [] (math_bits_Mul_E x y) (math_bits_Mul k x y) := by
  refine RunsO.of_goes (N := 30) (m := 0) (T := [(0, .d (.int .u64 x)), (1, .d (.int .u64 y))]) Try.func68 rfl rfl (h := ?_)
  unfold math_bits_Mul
  refine bStart ?_
  refine oSR rfl ?_
  refine oP (.d (.int .u64 0)) p_assign ?_
  refine oP (.d (.int .u64 0)) p_assign ?_
  refine oEnd ?_
  refine oSeq ?_
  refine oCondF (h := ?_)
  refine oSkip ?_
  refine oSR rfl ?_
  refine oP (.d (.int .u64 x)) p_move ?_
  refine oP (.d (.int .u64 y)) p_move ?_
  refine bCall (caps := []) (v := (uc fun (r14 : Int) => (fun (r111 : Int) => (.tuple [.d (.int .u64 r14), .d (.int .u64 r111)] : V)))) (H' := (uc fun (r14 : Int) => (fun (r111 : Int) => ([] : List Blk)))) [] _ (math_bits_Mul64_goes k x y) (ho := rfl) (hfn := Try.func77) (hb := rfl) (hconv := ConvRs.refl _ _) (hnd := by decide) (hBl := fun _ => (by kernel_rfl)) (hv := fun _ => (by kernel_rfl)) (hH' := fun _ => (by kernel_rfl)) (h := fun r => ?_)
  obtain ⟨r14, r111⟩ := r
  refine bUc ?_
  refine oP (.tuple [.d (.int .u64 r14), .d (.int .u64 r111)]) p_move ?_
  refine oP (.d (.int .u64 r14)) k_extract ?_
  refine oP (.d (.int .u64 r111)) k_extract ?_
  refine oP (.d (.int .u64 r14)) p_assign ?_
  refine oP (.d (.int .u64 r111)) p_assign ?_
  refine oEnd ?_
  refine oSR rfl ?_
  refine oP (.d (.int .u64 r14)) p_move ?_
  refine oP (.d (.int .u64 r111)) p_move ?_
  refine oP (.d (.int .u64 r14)) p_assign ?_
  refine oP (.d (.int .u64 r111)) p_assign ?_
  refine oEnd ?_
  exact oRet (r0 := (r14, r111)) (rv := .tuple [.d (.int .u64 r14), .d (.int .u64 r111)]) (B := []) (vs := [.d (.int .u64 r14), .d (.int .u64 r111)]) (σ := []) (hf := Try.func68) (hrs := rfl) (hres := .cons _ _ _ _ (.tmp 4 _ (by kernel_rfl)) (.cons _ _ _ _ (.tmp 5 _ (by kernel_rfl)) .nil)) (hnd := by decide)

/-- slices.Repeat[[]int,int] -/
def slices_Repeat_int_b1 (k : Nat) (again : Int × (List Int) → Option ((List Int))) : Int × (List Int) → Option ((List Int)) := uc fun n7 => fun xs12 => bif (decide (n7 < ((List.length xs12) : Int))) then gcut 0 n7 ((List.length xs12) : Int) (gcut 0 n7 ((List.length xs12) : Int) (blet (gcopy xs12 (List.take (Int.toNat n7) (List.drop 0 xs12)) (0 + Int.toNat n7) ((List.length xs12) - Int.toNat n7)) fun xs3 => again ((IntKind.wrap .i64 (n7 + ((Nat.min (List.length (List.take (Int.toNat n7) (List.drop 0 xs12))) ((List.length xs12) - Int.toNat n7) : Nat) : Int))), xs3))) else some xs12
def slices_Repeat_int (k : Nat) (count : Int) (xs : (List Int)) : Option ((List Int)) := bif (decide (count < 0)) then none else Option.bind (math_bits_Mul k (IntKind.wrap .u64 ((List.length xs) : Int)) (IntKind.wrap .u64 count)) (uc fun r121 => fun r131 => blet ((decide (r121 > 0)) || (decide (r131 > 9223372036854775807))) fun x1 => bif x1 then none else gmake (IntKind.wrap .i64 r131) 8 (blet (List.replicate (Int.toNat (IntKind.wrap .i64 r131)) 0) fun xs7 => blet (gcopy xs7 xs 0 (List.length xs7)) fun xs8 => Option.bind (gloop (slices_Repeat_int_b1 k) k (((Nat.min (List.length xs) (List.length xs7) : Nat) : Int), xs8) : Option ((List Int))) (fun xs11 => some xs11)))
def slices_Repeat_int_E (count : Int) (xs : (List Int)) : (List Int) → V × List Blk := fun r1 => (.d (.lit (List.map e_i64 r1)), [.sl 1 (List.map e_i64 xs) false])
theorem slices_Repeat_int_goes (k : Nat) (count : Int) (xs : (List Int)) : RunsO Try.prog 52 [.ref 0 (List.length xs) 0 (List.length xs), .d (.int .i64 count)] [.sl 1 (List.map e_i64 xs) false] (slices_Repeat_int_E count xs) (slices_Repeat_int k count xs) := by
  refine RunsO.of_goes (N := 48) (m := 1) (T := [(0, .ref 0 (List.length xs) 0 (List.length xs)), (1, .d (.int .i64 count))]) Try.func52 rfl rfl (h := ?_)
  unfold slices_Repeat_int
  refine bStart ?_
  refine oSR rfl ?_
  refine oP (.nilc) p_assign ?_
  refine oEnd ?_
  refine oSeq ?_
  refine oSR rfl ?_
  refine oP (.d (.int .i64 count)) p_move ?_
  refine oP (.d (.bool (decide (count < 0)))) (p_int (k := .i64) (p := count) (q := 0)) ?_
  refine oEnd ?_
  refine bSplit 10 (h1 := fun hc => ?_) (h2 := fun hc => ?_)
  ·refine oCondT (h := ?_)
   exact bNone
  ·refine oCondF (h := ?_)
   refine oSkip ?_
   refine oSR rfl ?_
   refine oP (.ref 0 (List.length xs) 0 (List.length xs)) p_move ?_
   refine oP (.d (.int .i64 ((List.length xs) : Int))) (k_lenRef (enc := e_i64) (sz := 1) (fro := false) 0 xs (hu := Try.underlying22)) ?_
   refine oP (.d (.int .u64 (IntKind.wrap .u64 ((List.length xs) : Int)))) (p_conv (k := .i64) (p := ((List.length xs) : Int)) (hu1 := Try.underlying3) (hu2 := Try.underlying85)) ?_
   refine oP (.d (.int .i64 count)) p_move ?_
   refine oP (.d (.int .u64 (IntKind.wrap .u64 count))) (p_conv (k := .i64) (p := count) (hu1 := Try.underlying3) (hu2 := Try.underlying85)) ?_
   refine bCall (caps := []) (v := (uc fun (r121 : Int) => (fun (r131 : Int) => (.tuple [.d (.int .u64 r121), .d (.int .u64 r131)] : V)))) (H' := (uc fun (r121 : Int) => (fun (r131 : Int) => ([.sl 1 (List.map e_i64 xs) false] : List Blk)))) [] _ (math_bits_Mul_goes k (IntKind.wrap .u64 ((List.length xs) : Int)) (IntKind.wrap .u64 count)) (ho := rfl) (hfn := Try.func68) (hb := rfl) (hconv := ConvRs.refl _ _) (hnd := by decide) (hBl := fun _ => (by kernel_rfl)) (hv := fun _ => (by kernel_rfl)) (hH' := fun _ => (by kernel_rfl)) (h := fun r => ?_)
   obtain ⟨r121, r131⟩ := r
   refine bUc ?_
   refine oP (.tuple [.d (.int .u64 r121), .d (.int .u64 r131)]) p_move ?_
   refine oP (.d (.int .u64 r121)) k_extract ?_
   refine oP (.d (.int .u64 r131)) k_extract ?_
   refine oP (.d (.int .u64 r121)) p_assign ?_
   refine oP (.d (.int .u64 r131)) p_assign ?_
   refine oEnd ?_
   refine oSeq ?_
   refine oSR rfl ?_
   refine oP (.d (.int .u64 r121)) p_move ?_
   refine oP (.d (.bool (decide (r121 > 0)))) (p_int (k := .u64) (p := r121) (q := 0)) ?_
   refine oP (.d (.bool (decide (r121 > 0)))) p_move ?_
   refine bMeetF (H' := [.sl 1 (List.map e_i64 xs) false]) 3 rfl ((fun (x1 : Bool) => [(0, .ref 0 (List.length xs) 0 (List.length xs)), (6, .d (.int .u64 r131)), (26, .d (.bool x1))])) (fun x1 => ?_) (fun F hj2 => ?_)
   ·refine oView (T' := [(0, .ref 0 (List.length xs) 0 (List.length xs)), (6, .d (.int .u64 r131)), (26, .d (.bool x1))]) (H' := [.sl 1 (List.map e_i64 xs) false]) (h := ?_)
    refine oEnd ?_
    refine bSplit 26 (h1 := fun hc => ?_) (h2 := fun hc => ?_)
    ·refine oCondT (h := ?_)
     exact bNone
    ·refine oCondF (h := ?_)
     refine oSkip ?_
     refine oSR rfl ?_
     refine oP (.d (.int .u64 r131)) p_move ?_
     refine oP (.d (.int .i64 (IntKind.wrap .i64 r131))) (p_conv (k := .u64) (p := r131) (hu1 := Try.underlying85) (hu2 := Try.underlying3)) ?_
     refine bMake (fun h132 h133 => ?_)
     refine bSet _ (fun xs7 hs3 => ?_)
     refine oD (.ref 1 (Int.toNat (IntKind.wrap .i64 r131)) 0 (Int.toNat (IntKind.wrap .i64 r131))) (k_make (enc := e_i64) (k1 := .i64) (k2 := .i64) (H' := [.sl 1 (List.map e_i64 xs) false, .sl 1 (List.map e_i64 xs7) false]) 0 [(.int .i64 0)] (hu := Try.underlying22) (hi := ty3) (h0 := h132) (hb := h133) (hH := by subst hs3; rfl)) ?_
     refine oHead [0, 30] [0, 1] (T' := [(0, .ref 0 (List.length xs) 0 (List.length xs)), (30, .ref 1 (Int.toNat (IntKind.wrap .i64 r131)) 0 (Int.toNat (IntKind.wrap .i64 r131)))]) (H' := [.sl 1 (List.map e_i64 xs) false, .sl 1 (List.map e_i64 xs7) false]) (hnd := by decide) (h := ?_)
     refine oView (T' := [(0, .ref 0 (List.length xs) 0 (List.length xs)), (30, .ref 1 (List.length xs7) 0 (List.length xs7))]) (H' := [.sl 1 (List.map e_i64 xs) false, .sl 1 (List.map e_i64 xs7) false]) (by first | rw [(rep_len hs3)] | rfl) (by first | rw [(rep_len hs3)] | rfl) ?_
     refine oP (.ref 1 (List.length xs7) 0 (List.length xs7)) p_assign ?_
     refine oEnd ?_
     refine oSR rfl ?_
     refine oP (.ref 1 (List.length xs7) 0 (List.length xs7)) p_move ?_
     refine oP (.ref 0 (List.length xs) 0 (List.length xs)) p_move ?_
     refine bSet _ (fun xs8 hs4 => ?_)
     refine oD (.d (.int .i64 ((Nat.min (List.length xs) (List.length xs7) : Nat) : Int))) (k_copy (enc := e_i64) (H' := [.sl 1 (List.map e_i64 xs) false, .sl 1 (List.map e_i64 xs8) false]) 1 0 (List.length xs7) xs7 xs Try.underlying22 ty3 (by kernel_rfl) (by kernel_rfl) (by kernel_rfl) (holdsRef (enc := e_i64) 0 xs false) (by rfl) hs4 (by kernel_rfl)) ?_
     refine oHead [7, 33] [0, 1] (T' := [(7, .ref 1 (List.length xs7) 0 (List.length xs7)), (33, .d (.int .i64 ((Nat.min (List.length xs) (List.length xs7) : Nat) : Int)))]) (H' := [.sl 1 (List.map e_i64 xs) false, .sl 1 (List.map e_i64 xs8) false]) (hnd := by decide) (h := ?_)
     refine oView (T' := [(7, .ref 1 (List.length xs8) 0 (List.length xs8)), (33, .d (.int .i64 ((Nat.min (List.length xs) (List.length xs7) : Nat) : Int)))]) (H' := [.sl 1 (List.map e_i64 xs) false, .sl 1 (List.map e_i64 xs8) false]) (by first | rw [(copy_len hs4)] | rfl) (by first | rw [(copy_len hs4)] | rfl) ?_
     refine oP (.d (.int .i64 ((Nat.min (List.length xs) (List.length xs7) : Nat) : Int))) p_assign ?_
     refine oEnd ?_
     refine oSeq ?_
     refine bJoin ((fun (xs11 : (List Int)) => [(7, .ref 1 (List.length xs11) 0 (List.length xs11))])) ((fun (xs11 : (List Int)) => [.sl 1 (List.map e_i64 xs) false, .sl 1 (List.map e_i64 xs11) false])) (fun s => s) (fun xs11 => ?_) (fun hj3 => ?_)
     ·refine oView (T' := [(7, .ref 1 (List.length xs11) 0 (List.length xs11))]) (H' := [.sl 1 (List.map e_i64 xs) false, .sl 1 (List.map e_i64 xs11) false]) (h := ?_)
      refine oSR rfl ?_
      refine oP (.ref 1 (List.length xs11) 0 (List.length xs11)) p_move ?_
      refine oP (.ref 1 (List.length xs11) 0 (List.length xs11)) p_assign ?_
      refine oEnd ?_
      refine oFreeze 1 (esz := 1) (xs := List.map e_i64 xs11) (h := ?_)
      refine oView (H' := [.sl 1 (List.map e_i64 xs) false, .sl 1 (List.map e_i64 xs11) true]) rfl (h := ?_)
      refine oConv 4 (v := .ref 1 (List.length xs11) 0 (List.length xs11)) (v' := .d (.lit (List.map e_i64 xs11))) (hc := k_lit (enc := e_i64) (sz := 1) 1 xs11) (h := ?_)
      exact oRet (r0 := xs11) (rv := .d (.lit (List.map e_i64 xs11))) (B := [.sl 1 (List.map e_i64 xs) false]) (vs := [.d (.lit (List.map e_i64 xs11))]) (σ := [0]) (hf := Try.func52) (hrs := rfl) (hres := .cons _ _ _ _ (.tmp 4 _ (by kernel_rfl)) .nil) (hnd := by decide)
     ·refine oBlock ?_
      refine oLoop ?_
      refine oHead [7, 8] [0, 1] (T' := [(7, .ref 1 (List.length xs8) 0 (List.length xs8)), (8, .d (.int .i64 ((Nat.min (List.length xs) (List.length xs7) : Nat) : Int)))]) (H' := [.sl 1 (List.map e_i64 xs) false, .sl 1 (List.map e_i64 xs8) false]) (hnd := by decide) (h := ?_)
      refine bLoop (body := slices_Repeat_int_b1 k) ((uc fun (n7 : Int) => (fun (xs12 : (List Int)) => [(7, .ref 1 (List.length xs12) 0 (List.length xs12)), (8, .d (.int .i64 n7))]))) ((uc fun (n7 : Int) => (fun (xs12 : (List Int)) => [.sl 1 (List.map e_i64 xs) false, .sl 1 (List.map e_i64 xs12) false]))) (fun again hag1 s => ?_) k (((Nat.min (List.length xs) (List.length xs7) : Nat) : Int), xs8)
      ·unfold slices_Repeat_int_b1
       obtain ⟨n7, xs12⟩ := s
       refine bUc ?_
       refine oView (T' := [(7, .ref 1 (List.length xs12) 0 (List.length xs12)), (8, .d (.int .i64 n7))]) (H' := [.sl 1 (List.map e_i64 xs) false, .sl 1 (List.map e_i64 xs12) false]) (h := ?_)
       refine oSeq ?_
       refine oSR rfl ?_
       refine oP (.d (.int .i64 n7)) p_move ?_
       refine oP (.ref 1 (List.length xs12) 0 (List.length xs12)) p_move ?_
       refine oP (.d (.int .i64 ((List.length xs12) : Int))) (k_lenRef (enc := e_i64) (sz := 1) (fro := false) 1 xs12 (hu := Try.underlying22)) ?_
       refine oP (.d (.bool (decide (n7 < ((List.length xs12) : Int))))) (p_int (k := .i64) (p := n7) (q := ((List.length xs12) : Int))) ?_
       refine oEnd ?_
       refine bSplit 37 (h1 := fun hc => ?_) (h2 := fun hc => ?_)
       ·refine oCondT (h := ?_)
        refine oSkip ?_
        refine oBlock ?_
        refine oDraw [(0, 10), (1, 7)] rfl ?_
        refine aP 0 (.d (.int .i64 n7)) rfl p_move ?_
        refine aP 1 (.ref 1 (List.length xs12) 0 (List.length xs12)) rfl p_move ?_
        refine aP 2 (.d (.int .i64 n7)) rfl p_move ?_
        refine dCut (fun h12 h13 h14 => ?_)
        refine aTakeP (i := 3) (.ref 1 (List.length xs12) (0 + Int.toNat n7) ((List.length xs12) - Int.toNat n7)) rfl (hp := k_partL (enc := e_i64) (fro := false) (k1 := .i64) (l := n7) 1 0 (List.length xs12) xs12 (by kernel_rfl) (by kernel_rfl) (by kernel_rfl) Try.underlying22 ty3 h13 h14) (h := ?_)
        refine aP 4 (.ref 1 (List.length xs12) 0 (List.length xs12)) rfl p_move ?_
        refine aP 5 (.d (.int .i64 n7)) rfl p_move ?_
        refine dCut (fun h18 h19 h110 => ?_)
        refine aTakeP (i := 6) (.ref 1 (List.length xs12) 0 (Int.toNat n7)) rfl (hp := k_partH (enc := e_i64) (fro := false) (k2 := .i64) (h := n7) 1 0 (List.length xs12) xs12 (by kernel_rfl) (by kernel_rfl) (by kernel_rfl) Try.underlying22 ty3 h19 h110) (h := ?_)
        refine dSet _ (fun xs3 hs2 => ?_)
        refine aOne (i := 7) (v := .d (.int .i64 ((Nat.min (List.length (List.take (Int.toNat n7) (List.drop 0 xs12))) ((List.length xs12) - Int.toNat n7) : Nat) : Int))) rfl (hac := Does.acts (k_copy (enc := e_i64) (H' := [.sl 1 (List.map e_i64 xs) false, .sl 1 (List.map e_i64 xs3) false]) 1 (0 + Int.toNat n7) ((List.length xs12) - Int.toNat n7) xs12 (List.take (Int.toNat n7) (List.drop 0 xs12)) Try.underlying22 ty3 (by kernel_rfl) (by kernel_rfl) (by kernel_rfl) (holdsPart (enc := e_i64) 1 0 (Int.toNat n7) xs12 (List.take (Int.toNat n7) (List.drop 0 xs12)) false (by kernel_rfl) (by kernel_rfl) (by omega) rfl) (by rfl) hs2 (by kernel_rfl))) (h := ?_)
        refine dDrop [7, 38, 45] [7, 38, 45] (T' := [(7, .ref 1 (List.length xs12) 0 (List.length xs12)), (38, .d (.int .i64 n7)), (45, .d (.int .i64 ((Nat.min (List.length (List.take (Int.toNat n7) (List.drop 0 xs12))) ((List.length xs12) - Int.toNat n7) : Nat) : Int)))]) (U' := [(7, .ref 1 (List.length xs12) 0 (List.length xs12)), (38, .d (.int .i64 n7)), (45, .d (.int .i64 ((Nat.min (List.length (List.take (Int.toNat n7) (List.drop 0 xs12))) ((List.length xs12) - Int.toNat n7) : Nat) : Int)))]) (h := ?_)
        refine dView (H' := [.sl 1 (List.map e_i64 xs) false, .sl 1 (List.map e_i64 xs3) false]) rfl rfl (h := ?_)
        refine dView (T' := [(7, .ref 1 (List.length xs3) 0 (List.length xs3)), (38, .d (.int .i64 n7)), (45, .d (.int .i64 ((Nat.min (List.length (List.take (Int.toNat n7) (List.drop 0 xs12))) ((List.length xs12) - Int.toNat n7) : Nat) : Int)))]) (H' := [.sl 1 (List.map e_i64 xs) false, .sl 1 (List.map e_i64 xs3) false]) (by first | rw [(copy_len hs2)] | rfl) rfl (by first | rw [(copy_len hs2)] | rfl) ?_
        refine aP 8 (.d (.int .i64 (IntKind.wrap .i64 (n7 + ((Nat.min (List.length (List.take (Int.toNat n7) (List.drop 0 xs12))) ((List.length xs12) - Int.toNat n7) : Nat) : Int))))) rfl (p_int (k := .i64) (p := n7) (q := ((Nat.min (List.length (List.take (Int.toNat n7) (List.drop 0 xs12))) ((List.length xs12) - Int.toNat n7) : Nat) : Int))) ?_
        refine aP 9 (.d (.int .i64 (IntKind.wrap .i64 (n7 + ((Nat.min (List.length (List.take (Int.toNat n7) (List.drop 0 xs12))) ((List.length xs12) - Int.toNat n7) : Nat) : Int))))) rfl p_assign ?_
        refine aDone (h := ?_)
        refine oBlk ?_
        refine oAgain ?_
        refine oHead [7, 8] [0, 1] (T' := [(7, .ref 1 (List.length xs3) 0 (List.length xs3)), (8, .d (.int .i64 (IntKind.wrap .i64 (n7 + ((Nat.min (List.length (List.take (Int.toNat n7) (List.drop 0 xs12))) ((List.length xs12) - Int.toNat n7) : Nat) : Int)))))]) (H' := [.sl 1 (List.map e_i64 xs) false, .sl 1 (List.map e_i64 xs3) false]) (hnd := by decide) (h := ?_)
        exact hag1 ((IntKind.wrap .i64 (n7 + ((Nat.min (List.length (List.take (Int.toNat n7) (List.drop 0 xs12))) ((List.length xs12) - Int.toNat n7) : Nat) : Int))), xs3)
       ·refine oCondF (h := ?_)
        refine oExit rfl ?_
        refine oHead [7] [0, 1] (T' := [(7, .ref 1 (List.length xs12) 0 (List.length xs12))]) (H' := [.sl 1 (List.map e_i64 xs) false, .sl 1 (List.map e_i64 xs12) false]) (hnd := by decide) (h := ?_)
        exact hj3 xs12
   ·refine bPickF 23 (fun c => F (c || (decide (r131 > 9223372036854775807)))) (h1 := fun hc => ?_) (h2 := fun hc => ?_)
    ·refine oNot (h := ?_)
     refine oNot (h := ?_)
     refine oP (.d (.bool true)) (p_pick (b := true)) ?_
     refine oHead [0, 6, 26] [0] (T' := [(0, .ref 0 (List.length xs) 0 (List.length xs)), (6, .d (.int .u64 r131)), (26, .d (.bool true))]) (H' := [.sl 1 (List.map e_i64 xs) false]) (hnd := by decide) (h := ?_)
     exact hj2 true
    ·refine oP (.d (.int .u64 r131)) p_move ?_
     refine oP (.d (.bool (decide (r131 > 9223372036854775807)))) (p_int (k := .u64) (p := r131) (q := 9223372036854775807)) ?_
     refine oP (.d (.bool (decide (r131 > 9223372036854775807)))) (p_pick (b := false)) ?_
     refine oHead [0, 6, 26] [0] (T' := [(0, .ref 0 (List.length xs) 0 (List.length xs)), (6, .d (.int .u64 r131)), (26, .d (.bool (decide (r131 > 9223372036854775807))))]) (H' := [.sl 1 (List.map e_i64 xs) false]) (hnd := by decide) (h := ?_)
     exact hj2 (decide (r131 > 9223372036854775807))

/-- awardingbody/distribution.Add -/
def distribution_Add_b2 (k : Nat) (e1117 : SDistribution) (again : Int × (List Int) → Option ((List Int))) : Int × (List Int) → Option ((List Int)) := uc fun x38 => fun xs110 => bif (decide (x38 < ((List.length e1117.Counts) : Int))) then gidx e1117.Counts x38 fun e1136 => gidx xs110 x38 fun e1137 => blet (List.set xs110 (Int.toNat x38) (IntKind.wrap .i64 (e1137 + e1136))) fun xs115 => again ((IntKind.wrap .i64 (x38 + 1)), xs115) else some xs110
def distribution_Add_b1 (k : Nat) (a0 : (List Int)) (b0 : (List Int)) (again : Int × (List Int) → Option ((List Int))) : Int × (List Int) → Option ((List Int)) := uc fun x28 => fun xs78 => bif (decide (x28 < ((List.length ([(⟨a0⟩ : SDistribution), (⟨b0⟩ : SDistribution)] : List SDistribution)) : Int))) then gidx ([(⟨a0⟩ : SDistribution), (⟨b0⟩ : SDistribution)] : List SDistribution) x28 fun e1117 => Option.bind (gloop (distribution_Add_b2 k e1117) k (0, xs78) : Option ((List Int))) (fun xs107 => again ((IntKind.wrap .i64 (x28 + 1)), xs107)) else some xs78
def distribution_Add (k : Nat) (a0 : (List Int)) (b0 : (List Int)) : Option ((List Int) × Int) := Option.bind (distribution_Valid k a0) (fun r126 => Option.bind (bif (!r126) then some true else Option.bind (distribution_Valid k b0) (fun r128 => some (!r128)) : Option (Bool)) (fun x13 => bif x13 then some ([], 1) else Option.bind (distribution_Count k a0) (fun r11 => Option.bind (distribution_Count k b0) (fun r111 => bif (decide ((IntKind.wrap .i64 (r11 + r111)) > 1048576)) then some ([], 3) else gmake (gmax ((List.length a0) : Int) ((List.length b0) : Int)) 8 (blet (List.replicate (Int.toNat (gmax ((List.length a0) : Int) ((List.length b0) : Int))) 0) fun xs32 => Option.bind (gloop (distribution_Add_b1 k a0 b0) k (0, xs32) : Option ((List Int))) (fun xs63 => some (xs63, 0)))))))
def distribution_Add_E (a0 : (List Int)) (b0 : (List Int)) : (List Int) × Int → V × List Blk := uc fun r1 => fun r13 => (.tuple [.agg [.d (.lit (List.map e_i64 r1))], .d (.int .i64 r13)], [])
theorem distribution_Add_goes (k : Nat) (a0 : (List Int)) (b0 : (List Int)) : RunsO Try.prog 22 [.agg [.d (.lit (List.map e_i64 a0))], .agg [.d (.lit (List.map e_i64 b0))]] [] (distribution_Add_E a0 b0) (distribution_Add k a0 b0) := by
  refine RunsO.of_goes (N := 65) (m := 0) (T := [(0, .agg [.d (.lit (List.map e_i64 a0))]), (1, .agg [.d (.lit (List.map e_i64 b0))])]) Try.func22 rfl rfl (h := ?_)
  unfold distribution_Add
  refine bStart ?_
  refine oSR rfl ?_
  refine oD (.ptr 0 0) (k_box (H' := [.box [.d (.lit (List.map e_i64 a0))]]) (cells := [.d (.lit (List.map e_i64 a0))])) ?_
  refine oD (.ptr 1 0) (k_box (H' := [.box [.d (.lit (List.map e_i64 a0))], .box [.d (.lit (List.map e_i64 b0))]]) (cells := [.d (.lit (List.map e_i64 b0))])) ?_
  refine oD (.ptr 2 0) (k_alloc (H' := [.box [.d (.lit (List.map e_i64 a0))], .box [.d (.lit (List.map e_i64 b0))], .box [.nilc]]) ty26) ?_
  refine oP (.d (.int .i64 0)) p_assign ?_
  refine oEnd ?_
  refine oSeq ?_
  refine oBlock ?_
  refine oSR rfl ?_
  refine oQ (.agg [.d (.lit (List.map e_i64 a0))]) (k_loadAgg 0 0 (hu := Try.underlying26) (hi := ty26)) ?_
  refine bCall (caps := []) (v := (fun (r126 : Bool) => (.d (.bool r126) : V))) (H' := (fun (r126 : Bool) => ([.box [.d (.lit (List.map e_i64 a0))], .box [.d (.lit (List.map e_i64 b0))], .box [.nilc]] : List Blk))) [] _ (distribution_Valid_goes k a0) (ho := rfl) (hfn := Try.func28) (hb := rfl) (hconv := ConvRs.refl _ _) (hnd := by decide) (hBl := fun _ => (by kernel_rfl)) (hv := fun _ => (by kernel_rfl)) (hH' := fun _ => (by kernel_rfl)) (h := fun r126 => ?_)
  refine oP (.d (.bool (!r126))) (p_not (p := r126)) ?_
  refine oP (.d (.bool (!r126))) p_move ?_
  refine bMeet 4 rfl ((fun (x13 : Bool) => [(2, .ptr 0 0), (3, .ptr 1 0), (4, .ptr 2 0), (19, .d (.bool x13))])) ((fun (x13 : Bool) => [.box [.d (.lit (List.map e_i64 a0))], .box [.d (.lit (List.map e_i64 b0))], .box [.nilc]])) (fun s => s) (fun x13 => ?_) (fun hj17 => ?_)
  ·refine oView (T' := [(2, .ptr 0 0), (3, .ptr 1 0), (4, .ptr 2 0), (19, .d (.bool x13))]) (H' := [.box [.d (.lit (List.map e_i64 a0))], .box [.d (.lit (List.map e_i64 b0))], .box [.nilc]]) (h := ?_)
   refine oP (.d (.bool x13)) p_assign ?_
   refine oEnd ?_
   refine bSplit 11 (h1 := fun hc => ?_) (h2 := fun hc => ?_)
   ·refine oCondT (h := ?_)
    refine oSR rfl ?_
    refine oP (.agg [.nilc]) (p_build bld26) ?_
    refine oD (.undef) (k_store (vs := [.nilc]) (H' := [.box [.d (.lit (List.map e_i64 a0))], .box [.d (.lit (List.map e_i64 b0))], .box [.nilc]]) 2 0 (hi := ty26)) ?_
    refine oP (.d (.int .i64 1)) p_assign ?_
    refine oEnd ?_
    refine oConvB 2 (cells := [.nilc]) (cells' := [.d (.lit (List.map e_i64 []))]) (hc := .cons _ _ _ _ .nil .nil) (h := ?_)
    refine oView (H' := [.box [.d (.lit (List.map e_i64 a0))], .box [.d (.lit (List.map e_i64 b0))], .box [.d (.lit (List.map e_i64 []))]]) rfl (h := ?_)
    exact oRet (r0 := ([], 1)) (rv := .tuple [.agg [.d (.lit (List.map e_i64 []))], .d (.int .i64 1)]) (B := []) (vs := [.agg [.d (.lit (List.map e_i64 []))], .d (.int .i64 1)]) (σ := []) (hf := Try.func22) (hrs := rfl) (hres := .cons _ _ _ _ (.agg 4 26 2 0 [.d (.lit (List.map e_i64 []))] [.d (.lit (List.map e_i64 []))] _ _ _ _ (by kernel_rfl) (by kernel_rfl) Try.underlying26 (by kernel_rfl) ty26 (by kernel_rfl) (by kernel_rfl)) (.cons _ _ _ _ (.tmp 5 _ (by kernel_rfl)) .nil)) (hnd := by decide)
   ·refine oCondF (h := ?_)
    refine oSeq ?_
    refine oDraw [(0, 7), (1, 7), (2, 7)] rfl ?_
    refine aQ 0 [0] (.agg [.d (.lit (List.map e_i64 a0))]) rfl (k_loadAgg 0 0 (hu := Try.underlying26) (hi := ty26)) ?_
    refine aQ 2 [1] (.agg [.d (.lit (List.map e_i64 b0))]) rfl (k_loadAgg 1 0 (hu := Try.underlying26) (hi := ty26)) ?_
    refine dCall (i := 1) (caps := []) (v := (fun (r11 : Int) => (.d (.int .i64 r11) : V))) (H' := (fun (r11 : Int) => ([.box [.d (.lit (List.map e_i64 a0))], .box [.d (.lit (List.map e_i64 b0))], .box [.nilc]] : List Blk))) [] _ (distribution_Count_goes k a0) rfl (ho := rfl) (hfn := Try.func15) (hb := rfl) (hconv := ConvRs.refl _ _) (hnd := by decide) (hBl := fun _ => (by kernel_rfl)) (hv := fun _ => (by kernel_rfl)) (hH' := fun _ => (by kernel_rfl)) (h := fun r11 => ?_)
    refine dCall (i := 3) (caps := []) (v := (fun (r111 : Int) => (.d (.int .i64 r111) : V))) (H' := (fun (r111 : Int) => ([.box [.d (.lit (List.map e_i64 a0))], .box [.d (.lit (List.map e_i64 b0))], .box [.nilc]] : List Blk))) [] _ (distribution_Count_goes k b0) rfl (ho := rfl) (hfn := Try.func15) (hb := rfl) (hconv := ConvRs.refl _ _) (hnd := by decide) (hBl := fun _ => (by kernel_rfl)) (hv := fun _ => (by kernel_rfl)) (hH' := fun _ => (by kernel_rfl)) (h := fun r111 => ?_)
    refine aP 4 (.d (.int .i64 (IntKind.wrap .i64 (r11 + r111)))) rfl (p_int (k := .i64) (p := r11) (q := r111)) ?_
    refine aP 5 (.d (.bool (decide ((IntKind.wrap .i64 (r11 + r111)) > 1048576)))) rfl (p_int (k := .i64) (p := (IntKind.wrap .i64 (r11 + r111))) (q := 1048576)) ?_
    refine aP 6 (.d (.bool (decide ((IntKind.wrap .i64 (r11 + r111)) > 1048576)))) rfl p_assign ?_
    refine aDone (h := ?_)
    refine bSplit 21 (h1 := fun hc => ?_) (h2 := fun hc => ?_)
    ·refine oCondT (h := ?_)
     refine oSR rfl ?_
     refine oP (.agg [.nilc]) (p_build bld26) ?_
     refine oD (.undef) (k_store (vs := [.nilc]) (H' := [.box [.d (.lit (List.map e_i64 a0))], .box [.d (.lit (List.map e_i64 b0))], .box [.nilc]]) 2 0 (hi := ty26)) ?_
     refine oP (.d (.int .i64 3)) p_assign ?_
     refine oEnd ?_
     refine oConvB 2 (cells := [.nilc]) (cells' := [.d (.lit (List.map e_i64 []))]) (hc := .cons _ _ _ _ .nil .nil) (h := ?_)
     refine oView (H' := [.box [.d (.lit (List.map e_i64 a0))], .box [.d (.lit (List.map e_i64 b0))], .box [.d (.lit (List.map e_i64 []))]]) rfl (h := ?_)
     exact oRet (r0 := ([], 3)) (rv := .tuple [.agg [.d (.lit (List.map e_i64 []))], .d (.int .i64 3)]) (B := []) (vs := [.agg [.d (.lit (List.map e_i64 []))], .d (.int .i64 3)]) (σ := []) (hf := Try.func22) (hrs := rfl) (hres := .cons _ _ _ _ (.agg 4 26 2 0 [.d (.lit (List.map e_i64 []))] [.d (.lit (List.map e_i64 []))] _ _ _ _ (by kernel_rfl) (by kernel_rfl) Try.underlying26 (by kernel_rfl) ty26 (by kernel_rfl) (by kernel_rfl)) (.cons _ _ _ _ (.tmp 5 _ (by kernel_rfl)) .nil)) (hnd := by decide)
    ·refine oCondF (h := ?_)
     refine oSkip ?_
     refine oBlk ?_
     refine oSR rfl ?_
     refine oP (.ptr 0 0) (k_fieldAddr 0 0 (hu := Try.underlying26) (hf := rfl) (hi := ty22)) ?_
     refine oQ (.d (.lit (List.map e_i64 a0))) (k_load 0 0 (hu := Try.underlying22)) ?_
     refine oP (.d (.int .i64 ((List.length a0) : Int))) (k_lenLit (enc := e_i64) a0 (hu := Try.underlying22)) ?_
     refine oP (.ptr 1 0) (k_fieldAddr 1 0 (hu := Try.underlying26) (hf := rfl) (hi := ty22)) ?_
     refine oQ (.d (.lit (List.map e_i64 b0))) (k_load 1 0 (hu := Try.underlying22)) ?_
     refine oP (.d (.int .i64 ((List.length b0) : Int))) (k_lenLit (enc := e_i64) b0 (hu := Try.underlying22)) ?_
     refine oP (.d (.int .i64 (gmax ((List.length a0) : Int) ((List.length b0) : Int)))) (p_max2 (k := .i64) (p := ((List.length a0) : Int)) (q := ((List.length b0) : Int))) ?_
     refine bMake (fun h174 h175 => ?_)
     refine bSet _ (fun xs32 hs17 => ?_)
     refine oD (.ref 3 (Int.toNat (gmax ((List.length a0) : Int) ((List.length b0) : Int))) 0 (Int.toNat (gmax ((List.length a0) : Int) ((List.length b0) : Int)))) (k_make (enc := e_i64) (k1 := .i64) (k2 := .i64) (H' := [.box [.d (.lit (List.map e_i64 a0))], .box [.d (.lit (List.map e_i64 b0))], .box [.nilc], .sl 1 (List.map e_i64 xs32) false]) 0 [(.int .i64 0)] (hu := Try.underlying22) (hi := ty3) (h0 := h174) (hb := h175) (hH := by subst hs17; rfl)) ?_
     refine oHead [2, 3, 4, 36] [0, 1, 2, 3] (T' := [(2, .ptr 0 0), (3, .ptr 1 0), (4, .ptr 2 0), (36, .ref 3 (Int.toNat (gmax ((List.length a0) : Int) ((List.length b0) : Int))) 0 (Int.toNat (gmax ((List.length a0) : Int) ((List.length b0) : Int))))]) (H' := [.box [.d (.lit (List.map e_i64 a0))], .box [.d (.lit (List.map e_i64 b0))], .box [.nilc], .sl 1 (List.map e_i64 xs32) false]) (hnd := by decide) (h := ?_)
     refine oView (T' := [(2, .ptr 0 0), (3, .ptr 1 0), (4, .ptr 2 0), (36, .ref 3 (List.length xs32) 0 (List.length xs32))]) (H' := [.box [.d (.lit (List.map e_i64 a0))], .box [.d (.lit (List.map e_i64 b0))], .box [.nilc], .sl 1 (List.map e_i64 xs32) false]) (by first | rw [(rep_len hs17)] | rfl) (by first | rw [(rep_len hs17)] | rfl) ?_
     refine oP (.agg [.ref 3 (List.length xs32) 0 (List.length xs32)]) (p_build bld26) ?_
     refine oD (.ptr 4 0) (k_alloc (H' := [.box [.d (.lit (List.map e_i64 a0))], .box [.d (.lit (List.map e_i64 b0))], .box [.nilc], .sl 1 (List.map e_i64 xs32) false, .box [.nilc]]) ty26) ?_
     refine oD (.undef) (k_store (vs := [.ref 3 (List.length xs32) 0 (List.length xs32)]) (H' := [.box [.d (.lit (List.map e_i64 a0))], .box [.d (.lit (List.map e_i64 b0))], .box [.nilc], .sl 1 (List.map e_i64 xs32) false, .box [.ref 3 (List.length xs32) 0 (List.length xs32)]]) 4 0 (hi := ty26)) ?_
     refine oEnd ?_
     refine oSeq ?_
     refine oSR rfl ?_
     refine oQ (.agg [.d (.lit (List.map e_i64 a0))]) (k_loadAgg 0 0 (hu := Try.underlying26) (hi := ty26)) ?_
     refine oQ (.agg [.d (.lit (List.map e_i64 b0))]) (k_loadAgg 1 0 (hu := Try.underlying26) (hi := ty26)) ?_
     refine oD (.ref 5 (List.length ([(⟨a0⟩ : SDistribution), (⟨b0⟩ : SDistribution)] : List SDistribution)) 0 (List.length ([(⟨a0⟩ : SDistribution), (⟨b0⟩ : SDistribution)] : List SDistribution))) (k_buildSlice (H' := [.box [.d (.lit (List.map e_i64 a0))], .box [.d (.lit (List.map e_i64 b0))], .box [.nilc], .sl 1 (List.map e_i64 xs32) false, .box [.ref 3 (List.length xs32) 0 (List.length xs32)], .sl 1 (List.map e_SDistribution ([(⟨a0⟩ : SDistribution), (⟨b0⟩ : SDistribution)] : List SDistribution)) false]) (List.map e_SDistribution ([(⟨a0⟩ : SDistribution), (⟨b0⟩ : SDistribution)] : List SDistribution)) Try.underlying71 ty26) ?_
     refine oP (.d (.int .i64 ((List.length ([(⟨a0⟩ : SDistribution), (⟨b0⟩ : SDistribution)] : List SDistribution)) : Int))) (k_lenRef (enc := e_SDistribution) (sz := 1) (fro := false) 5 ([(⟨a0⟩ : SDistribution), (⟨b0⟩ : SDistribution)] : List SDistribution) (hu := Try.underlying71)) ?_
     refine oP (.d (.int .i64 0)) p_move ?_
     refine oEnd ?_
     refine bJoin ((fun (xs63 : (List Int)) => [(4, .ptr 0 0), (6, .ptr 1 0)])) ((fun (xs63 : (List Int)) => [.box [.nilc], .box [.ref 2 (List.length xs63) 0 (List.length xs63)], .sl 1 (List.map e_i64 xs63) false])) (fun s => s) (fun xs63 => ?_) (fun hj10 => ?_)
     ·refine oView (T' := [(4, .ptr 0 0), (6, .ptr 1 0)]) (H' := [.box [.nilc], .box [.ref 2 (List.length xs63) 0 (List.length xs63)], .sl 1 (List.map e_i64 xs63) false]) (h := ?_)
      refine oSR rfl ?_
      refine oQ (.agg [.ref 2 (List.length xs63) 0 (List.length xs63)]) (k_loadAgg 1 0 (hu := Try.underlying26) (hi := ty26)) ?_
      refine oD (.undef) (k_store (vs := [.ref 2 (List.length xs63) 0 (List.length xs63)]) (H' := [.box [.ref 2 (List.length xs63) 0 (List.length xs63)], .box [.ref 2 (List.length xs63) 0 (List.length xs63)], .sl 1 (List.map e_i64 xs63) false]) 0 0 (hi := ty26)) ?_
      refine oP (.d (.int .i64 0)) p_assign ?_
      refine oEnd ?_
      refine oFreeze 2 (esz := 1) (xs := List.map e_i64 xs63) (h := ?_)
      refine oView (H' := [.box [.ref 2 (List.length xs63) 0 (List.length xs63)], .box [.ref 2 (List.length xs63) 0 (List.length xs63)], .sl 1 (List.map e_i64 xs63) true]) rfl (h := ?_)
      refine oConvB 0 (cells := [.ref 2 (List.length xs63) 0 (List.length xs63)]) (cells' := [.d (.lit (List.map e_i64 xs63))]) (hc := .cons _ _ _ _ (k_lit (enc := e_i64) (sz := 1) 2 xs63) .nil) (h := ?_)
      refine oView (H' := [.box [.d (.lit (List.map e_i64 xs63))], .box [.ref 2 (List.length xs63) 0 (List.length xs63)], .sl 1 (List.map e_i64 xs63) true]) rfl (h := ?_)
      exact oRet (r0 := (xs63, 0)) (rv := .tuple [.agg [.d (.lit (List.map e_i64 xs63))], .d (.int .i64 0)]) (B := []) (vs := [.agg [.d (.lit (List.map e_i64 xs63))], .d (.int .i64 0)]) (σ := []) (hf := Try.func22) (hrs := rfl) (hres := .cons _ _ _ _ (.agg 4 26 0 0 [.d (.lit (List.map e_i64 xs63))] [.d (.lit (List.map e_i64 xs63))] _ _ _ _ (by kernel_rfl) (by kernel_rfl) Try.underlying26 (by kernel_rfl) ty26 (by kernel_rfl) (by kernel_rfl)) (.cons _ _ _ _ (.tmp 5 _ (by kernel_rfl)) .nil)) (hnd := by decide)
     ·refine oBlock ?_
      refine oLoop ?_
      refine oHead [4, 6, 40, 41, 42] [2, 4, 5, 3] (T' := [(4, .ptr 0 0), (6, .ptr 1 0), (40, .ref 2 (List.length ([(⟨a0⟩ : SDistribution), (⟨b0⟩ : SDistribution)] : List SDistribution)) 0 (List.length ([(⟨a0⟩ : SDistribution), (⟨b0⟩ : SDistribution)] : List SDistribution))), (41, .d (.int .i64 ((List.length ([(⟨a0⟩ : SDistribution), (⟨b0⟩ : SDistribution)] : List SDistribution)) : Int))), (42, .d (.int .i64 0))]) (H' := [.box [.nilc], .box [.ref 3 (List.length xs32) 0 (List.length xs32)], .sl 1 (List.map e_SDistribution ([(⟨a0⟩ : SDistribution), (⟨b0⟩ : SDistribution)] : List SDistribution)) false, .sl 1 (List.map e_i64 xs32) false]) (hnd := by decide) (h := ?_)
      refine bLoop (body := distribution_Add_b1 k a0 b0) ((uc fun (x28 : Int) => (fun (xs78 : (List Int)) => [(4, .ptr 0 0), (6, .ptr 1 0), (40, .ref 2 (List.length ([(⟨a0⟩ : SDistribution), (⟨b0⟩ : SDistribution)] : List SDistribution)) 0 (List.length ([(⟨a0⟩ : SDistribution), (⟨b0⟩ : SDistribution)] : List SDistribution))), (41, .d (.int .i64 ((List.length ([(⟨a0⟩ : SDistribution), (⟨b0⟩ : SDistribution)] : List SDistribution)) : Int))), (42, .d (.int .i64 x28))]))) ((uc fun (x28 : Int) => (fun (xs78 : (List Int)) => [.box [.nilc], .box [.ref 3 (List.length xs78) 0 (List.length xs78)], .sl 1 (List.map e_SDistribution ([(⟨a0⟩ : SDistribution), (⟨b0⟩ : SDistribution)] : List SDistribution)) false, .sl 1 (List.map e_i64 xs78) false]))) (fun again hag1 s => ?_) k (0, xs32)
      ·unfold distribution_Add_b1
       obtain ⟨x28, xs78⟩ := s
       refine bUc ?_
       refine oView (T' := [(4, .ptr 0 0), (6, .ptr 1 0), (40, .ref 2 (List.length ([(⟨a0⟩ : SDistribution), (⟨b0⟩ : SDistribution)] : List SDistribution)) 0 (List.length ([(⟨a0⟩ : SDistribution), (⟨b0⟩ : SDistribution)] : List SDistribution))), (41, .d (.int .i64 ((List.length ([(⟨a0⟩ : SDistribution), (⟨b0⟩ : SDistribution)] : List SDistribution)) : Int))), (42, .d (.int .i64 x28))]) (H' := [.box [.nilc], .box [.ref 3 (List.length xs78) 0 (List.length xs78)], .sl 1 (List.map e_SDistribution ([(⟨a0⟩ : SDistribution), (⟨b0⟩ : SDistribution)] : List SDistribution)) false, .sl 1 (List.map e_i64 xs78) false]) (h := ?_)
       refine oSR rfl ?_
       refine oP (.d (.bool (decide (x28 < ((List.length ([(⟨a0⟩ : SDistribution), (⟨b0⟩ : SDistribution)] : List SDistribution)) : Int))))) (p_int (k := .i64) (p := x28) (q := ((List.length ([(⟨a0⟩ : SDistribution), (⟨b0⟩ : SDistribution)] : List SDistribution)) : Int))) ?_
       refine oEnd ?_
       refine oSeq ?_
       refine bSplit 43 (h1 := fun hc => ?_) (h2 := fun hc => ?_)
       ·refine oCondT (h := ?_)
        refine oSkip ?_
        refine oSeq ?_
        refine oBlock ?_
        refine oSR rfl ?_
        refine bIdx (fun e1117 h1238 h1239 => ?_)
        refine oP (.eptr 2 (List.length ([(⟨a0⟩ : SDistribution), (⟨b0⟩ : SDistribution)] : List SDistribution)) (Int.toNat x28) 0) (k_idxRef (enc := e_SDistribution) (fro := false) ([(⟨a0⟩ : SDistribution), (⟨b0⟩ : SDistribution)] : List SDistribution) (a := e1117) (k := .i64) (i := x28) (hu := Try.underlying71) (hi := ty26) (h0 := h1238) (he := h1239)) ?_
        refine oQ (.agg [.d (.lit (List.map e_i64 e1117.Counts))]) (k_loadEAgg (enc := e_SDistribution) (sz0 := 1) (fro := false) 2 0 ([(⟨a0⟩ : SDistribution), (⟨b0⟩ : SDistribution)] : List SDistribution) [(.lit (List.map e_i64 e1117.Counts))] (hu := Try.underlying26) (hi := ty26) (he := h1239)) ?_
        refine oD (.ptr 4 0) (k_alloc (H' := [.box [.nilc], .box [.ref 3 (List.length xs78) 0 (List.length xs78)], .sl 1 (List.map e_SDistribution ([(⟨a0⟩ : SDistribution), (⟨b0⟩ : SDistribution)] : List SDistribution)) false, .sl 1 (List.map e_i64 xs78) false, .box [.nilc]]) ty26) ?_
        refine oD (.undef) (k_store (vs := [.d (.lit (List.map e_i64 e1117.Counts))]) (H' := [.box [.nilc], .box [.ref 3 (List.length xs78) 0 (List.length xs78)], .sl 1 (List.map e_SDistribution ([(⟨a0⟩ : SDistribution), (⟨b0⟩ : SDistribution)] : List SDistribution)) false, .sl 1 (List.map e_i64 xs78) false, .box [.d (.lit (List.map e_i64 e1117.Counts))]]) 4 0 (hi := ty26)) ?_
        refine oEnd ?_
        refine oSR rfl ?_
        refine oP (.ptr 4 0) (k_fieldAddr 4 0 (hu := Try.underlying26) (hf := rfl) (hi := ty22)) ?_
        refine oQ (.d (.lit (List.map e_i64 e1117.Counts))) (k_load 4 0 (hu := Try.underlying22)) ?_
        refine oP (.d (.int .i64 ((List.length e1117.Counts) : Int))) (k_lenLit (enc := e_i64) e1117.Counts (hu := Try.underlying22)) ?_
        refine oP (.d (.int .i64 0)) p_move ?_
        refine oEnd ?_
        refine bJoin ((fun (xs107 : (List Int)) => [(4, .ptr 0 0), (6, .ptr 1 0), (40, .ref 2 (List.length ([(⟨a0⟩ : SDistribution), (⟨b0⟩ : SDistribution)] : List SDistribution)) 0 (List.length ([(⟨a0⟩ : SDistribution), (⟨b0⟩ : SDistribution)] : List SDistribution))), (41, .d (.int .i64 ((List.length ([(⟨a0⟩ : SDistribution), (⟨b0⟩ : SDistribution)] : List SDistribution)) : Int))), (42, .d (.int .i64 x28))])) ((fun (xs107 : (List Int)) => [.box [.nilc], .box [.ref 3 (List.length xs107) 0 (List.length xs107)], .sl 1 (List.map e_SDistribution ([(⟨a0⟩ : SDistribution), (⟨b0⟩ : SDistribution)] : List SDistribution)) false, .sl 1 (List.map e_i64 xs107) false])) (fun s => s) (fun xs107 => ?_) (fun hj16 => ?_)
        ·refine oView (T' := [(4, .ptr 0 0), (6, .ptr 1 0), (40, .ref 2 (List.length ([(⟨a0⟩ : SDistribution), (⟨b0⟩ : SDistribution)] : List SDistribution)) 0 (List.length ([(⟨a0⟩ : SDistribution), (⟨b0⟩ : SDistribution)] : List SDistribution))), (41, .d (.int .i64 ((List.length ([(⟨a0⟩ : SDistribution), (⟨b0⟩ : SDistribution)] : List SDistribution)) : Int))), (42, .d (.int .i64 x28))]) (H' := [.box [.nilc], .box [.ref 3 (List.length xs107) 0 (List.length xs107)], .sl 1 (List.map e_SDistribution ([(⟨a0⟩ : SDistribution), (⟨b0⟩ : SDistribution)] : List SDistribution)) false, .sl 1 (List.map e_i64 xs107) false]) (h := ?_)
         refine oBlk ?_
         refine oRegion rfl ?_
         refine oP (.d (.int .i64 (IntKind.wrap .i64 (x28 + 1)))) (p_int (k := .i64) (p := x28) (q := 1)) ?_
         refine oP (.d (.int .i64 (IntKind.wrap .i64 (x28 + 1)))) p_move ?_
         refine oEnd ?_
         refine oAgain ?_
         refine oHead [4, 6, 40, 41, 42] [0, 1, 2, 3] (T' := [(4, .ptr 0 0), (6, .ptr 1 0), (40, .ref 2 (List.length ([(⟨a0⟩ : SDistribution), (⟨b0⟩ : SDistribution)] : List SDistribution)) 0 (List.length ([(⟨a0⟩ : SDistribution), (⟨b0⟩ : SDistribution)] : List SDistribution))), (41, .d (.int .i64 ((List.length ([(⟨a0⟩ : SDistribution), (⟨b0⟩ : SDistribution)] : List SDistribution)) : Int))), (42, .d (.int .i64 (IntKind.wrap .i64 (x28 + 1))))]) (H' := [.box [.nilc], .box [.ref 3 (List.length xs107) 0 (List.length xs107)], .sl 1 (List.map e_SDistribution ([(⟨a0⟩ : SDistribution), (⟨b0⟩ : SDistribution)] : List SDistribution)) false, .sl 1 (List.map e_i64 xs107) false]) (hnd := by decide) (h := ?_)
         exact hag1 ((IntKind.wrap .i64 (x28 + 1)), xs107)
        ·refine oBlock ?_
         refine oLoop ?_
         refine oHead [4, 6, 40, 41, 42, 47, 48, 49] [0, 1, 2, 3] (T' := [(4, .ptr 0 0), (6, .ptr 1 0), (40, .ref 2 (List.length ([(⟨a0⟩ : SDistribution), (⟨b0⟩ : SDistribution)] : List SDistribution)) 0 (List.length ([(⟨a0⟩ : SDistribution), (⟨b0⟩ : SDistribution)] : List SDistribution))), (41, .d (.int .i64 ((List.length ([(⟨a0⟩ : SDistribution), (⟨b0⟩ : SDistribution)] : List SDistribution)) : Int))), (42, .d (.int .i64 x28)), (47, .d (.lit (List.map e_i64 e1117.Counts))), (48, .d (.int .i64 ((List.length e1117.Counts) : Int))), (49, .d (.int .i64 0))]) (H' := [.box [.nilc], .box [.ref 3 (List.length xs78) 0 (List.length xs78)], .sl 1 (List.map e_SDistribution ([(⟨a0⟩ : SDistribution), (⟨b0⟩ : SDistribution)] : List SDistribution)) false, .sl 1 (List.map e_i64 xs78) false]) (hnd := by decide) (h := ?_)
         refine bLoop (body := distribution_Add_b2 k e1117) ((uc fun (x38 : Int) => (fun (xs110 : (List Int)) => [(4, .ptr 0 0), (6, .ptr 1 0), (40, .ref 2 (List.length ([(⟨a0⟩ : SDistribution), (⟨b0⟩ : SDistribution)] : List SDistribution)) 0 (List.length ([(⟨a0⟩ : SDistribution), (⟨b0⟩ : SDistribution)] : List SDistribution))), (41, .d (.int .i64 ((List.length ([(⟨a0⟩ : SDistribution), (⟨b0⟩ : SDistribution)] : List SDistribution)) : Int))), (42, .d (.int .i64 x28)), (47, .d (.lit (List.map e_i64 e1117.Counts))), (48, .d (.int .i64 ((List.length e1117.Counts) : Int))), (49, .d (.int .i64 x38))]))) ((uc fun (x38 : Int) => (fun (xs110 : (List Int)) => [.box [.nilc], .box [.ref 3 (List.length xs110) 0 (List.length xs110)], .sl 1 (List.map e_SDistribution ([(⟨a0⟩ : SDistribution), (⟨b0⟩ : SDistribution)] : List SDistribution)) false, .sl 1 (List.map e_i64 xs110) false]))) (fun again hag2 s => ?_) k (0, xs78)
         ·unfold distribution_Add_b2
          obtain ⟨x38, xs110⟩ := s
          refine bUc ?_
          refine oView (T' := [(4, .ptr 0 0), (6, .ptr 1 0), (40, .ref 2 (List.length ([(⟨a0⟩ : SDistribution), (⟨b0⟩ : SDistribution)] : List SDistribution)) 0 (List.length ([(⟨a0⟩ : SDistribution), (⟨b0⟩ : SDistribution)] : List SDistribution))), (41, .d (.int .i64 ((List.length ([(⟨a0⟩ : SDistribution), (⟨b0⟩ : SDistribution)] : List SDistribution)) : Int))), (42, .d (.int .i64 x28)), (47, .d (.lit (List.map e_i64 e1117.Counts))), (48, .d (.int .i64 ((List.length e1117.Counts) : Int))), (49, .d (.int .i64 x38))]) (H' := [.box [.nilc], .box [.ref 3 (List.length xs110) 0 (List.length xs110)], .sl 1 (List.map e_SDistribution ([(⟨a0⟩ : SDistribution), (⟨b0⟩ : SDistribution)] : List SDistribution)) false, .sl 1 (List.map e_i64 xs110) false]) (h := ?_)
          refine oSR rfl ?_
          refine oP (.d (.bool (decide (x38 < ((List.length e1117.Counts) : Int))))) (p_int (k := .i64) (p := x38) (q := ((List.length e1117.Counts) : Int))) ?_
          refine oEnd ?_
          refine oSeq ?_
          refine bSplit 50 (h1 := fun hc => ?_) (h2 := fun hc => ?_)
          ·refine oCondT (h := ?_)
           refine oSkip ?_
           refine oSeq ?_
           refine oBlock ?_
           refine oSR rfl ?_
           refine oP (.d (.int .i64 x38)) p_move ?_
           refine bIdx (fun e1136 h1276 h1277 => ?_)
           refine oP (.lptr (e_i64 e1136) 0) (k_idxLit e_i64_len e1117.Counts (a := e1136) (k := .i64) (i := x38) (hu := Try.underlying22) (hi := ty3) (h0 := h1276) (he := h1277)) ?_
           refine oQ (.d (.int .i64 e1136)) (k_loadL (cells := e_i64 e1136) 0 (hu := Try.underlying3)) ?_
           refine oP (.d (.int .i64 x38)) p_assign ?_
           refine oP (.d (.int .i64 e1136)) p_assign ?_
           refine oEnd ?_
           refine oRegion rfl ?_
           refine oP (.ptr 1 0) (k_fieldAddr 1 0 (hu := Try.underlying26) (hf := rfl) (hi := ty22)) ?_
           refine oQ (.ref 3 (List.length xs110) 0 (List.length xs110)) (k_load 1 0 (hu := Try.underlying22)) ?_
           refine oP (.d (.int .i64 x38)) p_move ?_
           refine bIdx (fun e1137 h1278 h1279 => ?_)
           refine oP (.eptr 3 (List.length xs110) (Int.toNat x38) 0) (k_idxRef (enc := e_i64) (fro := false) xs110 (a := e1137) (k := .i64) (i := x38) (hu := Try.underlying22) (hi := ty3) (h0 := h1278) (he := h1279)) ?_
           refine oQ (.d (.int .i64 e1137)) (k_loadE (enc := e_i64) (sz := 1) (fro := false) 3 0 xs110 (hu := Try.underlying3) (he := h1279)) ?_
           refine oP (.d (.int .i64 e1136)) p_move ?_
           refine oP (.d (.int .i64 (IntKind.wrap .i64 (e1137 + e1136)))) (p_int (k := .i64) (p := e1137) (q := e1136)) ?_
           refine oP (.eptr 3 (List.length xs110) (Int.toNat x38) 0) (k_idxRef (enc := e_i64) (fro := false) xs110 (a := e1137) (k := .i64) (i := x38) (hu := Try.underlying22) (hi := ty3) (h0 := h1278) (he := h1279)) ?_
           refine bSet _ (fun xs115 hs63 => ?_)
           refine oD (.undef) (k_storeE (H' := [.box [.nilc], .box [.ref 3 (List.length xs110) 0 (List.length xs110)], .sl 1 (List.map e_SDistribution ([(⟨a0⟩ : SDistribution), (⟨b0⟩ : SDistribution)] : List SDistribution)) false, .sl 1 (List.map e_i64 xs115) false]) 3 0 xs110 (IntKind.wrap .i64 (e1137 + e1136)) [(.int .i64 (IntKind.wrap .i64 (e1137 + e1136)))] e_i64_len (he := h1279) (hi := ty3) (hxs := hs63)) ?_
           refine oHead [4, 6, 40, 41, 42, 47, 48, 49] [0, 1, 2, 3] (T' := [(4, .ptr 0 0), (6, .ptr 1 0), (40, .ref 2 (List.length ([(⟨a0⟩ : SDistribution), (⟨b0⟩ : SDistribution)] : List SDistribution)) 0 (List.length ([(⟨a0⟩ : SDistribution), (⟨b0⟩ : SDistribution)] : List SDistribution))), (41, .d (.int .i64 ((List.length ([(⟨a0⟩ : SDistribution), (⟨b0⟩ : SDistribution)] : List SDistribution)) : Int))), (42, .d (.int .i64 x28)), (47, .d (.lit (List.map e_i64 e1117.Counts))), (48, .d (.int .i64 ((List.length e1117.Counts) : Int))), (49, .d (.int .i64 x38))]) (H' := [.box [.nilc], .box [.ref 3 (List.length xs110) 0 (List.length xs110)], .sl 1 (List.map e_SDistribution ([(⟨a0⟩ : SDistribution), (⟨b0⟩ : SDistribution)] : List SDistribution)) false, .sl 1 (List.map e_i64 xs115) false]) (hnd := by decide) (h := ?_)
           refine oView (T' := [(4, .ptr 0 0), (6, .ptr 1 0), (40, .ref 2 (List.length ([(⟨a0⟩ : SDistribution), (⟨b0⟩ : SDistribution)] : List SDistribution)) 0 (List.length ([(⟨a0⟩ : SDistribution), (⟨b0⟩ : SDistribution)] : List SDistribution))), (41, .d (.int .i64 ((List.length ([(⟨a0⟩ : SDistribution), (⟨b0⟩ : SDistribution)] : List SDistribution)) : Int))), (42, .d (.int .i64 x28)), (47, .d (.lit (List.map e_i64 e1117.Counts))), (48, .d (.int .i64 ((List.length e1117.Counts) : Int))), (49, .d (.int .i64 x38))]) (H' := [.box [.nilc], .box [.ref 3 (List.length xs115) 0 (List.length xs115)], .sl 1 (List.map e_SDistribution ([(⟨a0⟩ : SDistribution), (⟨b0⟩ : SDistribution)] : List SDistribution)) false, .sl 1 (List.map e_i64 xs115) false]) (by first | rw [(set_len hs63)] | rfl) (by first | rw [(set_len hs63)] | rfl) ?_
           refine oEnd ?_
           refine oBlk ?_
           refine oRegion rfl ?_
           refine oP (.d (.int .i64 (IntKind.wrap .i64 (x38 + 1)))) (p_int (k := .i64) (p := x38) (q := 1)) ?_
           refine oP (.d (.int .i64 (IntKind.wrap .i64 (x38 + 1)))) p_move ?_
           refine oEnd ?_
           refine oAgain ?_
           refine oHead [4, 6, 40, 41, 42, 47, 48, 49] [0, 1, 2, 3] (T' := [(4, .ptr 0 0), (6, .ptr 1 0), (40, .ref 2 (List.length ([(⟨a0⟩ : SDistribution), (⟨b0⟩ : SDistribution)] : List SDistribution)) 0 (List.length ([(⟨a0⟩ : SDistribution), (⟨b0⟩ : SDistribution)] : List SDistribution))), (41, .d (.int .i64 ((List.length ([(⟨a0⟩ : SDistribution), (⟨b0⟩ : SDistribution)] : List SDistribution)) : Int))), (42, .d (.int .i64 x28)), (47, .d (.lit (List.map e_i64 e1117.Counts))), (48, .d (.int .i64 ((List.length e1117.Counts) : Int))), (49, .d (.int .i64 (IntKind.wrap .i64 (x38 + 1))))]) (H' := [.box [.nilc], .box [.ref 3 (List.length xs115) 0 (List.length xs115)], .sl 1 (List.map e_SDistribution ([(⟨a0⟩ : SDistribution), (⟨b0⟩ : SDistribution)] : List SDistribution)) false, .sl 1 (List.map e_i64 xs115) false]) (hnd := by decide) (h := ?_)
           exact hag2 ((IntKind.wrap .i64 (x38 + 1)), xs115)
          ·refine oCondF (h := ?_)
           refine oExit rfl ?_
           refine oHead [4, 6, 40, 41, 42] [0, 1, 2, 3] (T' := [(4, .ptr 0 0), (6, .ptr 1 0), (40, .ref 2 (List.length ([(⟨a0⟩ : SDistribution), (⟨b0⟩ : SDistribution)] : List SDistribution)) 0 (List.length ([(⟨a0⟩ : SDistribution), (⟨b0⟩ : SDistribution)] : List SDistribution))), (41, .d (.int .i64 ((List.length ([(⟨a0⟩ : SDistribution), (⟨b0⟩ : SDistribution)] : List SDistribution)) : Int))), (42, .d (.int .i64 x28))]) (H' := [.box [.nilc], .box [.ref 3 (List.length xs110) 0 (List.length xs110)], .sl 1 (List.map e_SDistribution ([(⟨a0⟩ : SDistribution), (⟨b0⟩ : SDistribution)] : List SDistribution)) false, .sl 1 (List.map e_i64 xs110) false]) (hnd := by decide) (h := ?_)
           exact hj16 xs110
       ·refine oCondF (h := ?_)
        refine oExit rfl ?_
        refine oHead [4, 6] [0, 1, 3] (T' := [(4, .ptr 0 0), (6, .ptr 1 0)]) (H' := [.box [.nilc], .box [.ref 2 (List.length xs78) 0 (List.length xs78)], .sl 1 (List.map e_i64 xs78) false]) (hnd := by decide) (h := ?_)
        exact hj10 xs78
  ·refine bSplit 15 (h1 := fun hc => ?_) (h2 := fun hc => ?_)
   ·refine oNot (h := ?_)
    refine oNot (h := ?_)
    refine oNot (h := ?_)
    refine oP (.d (.bool true)) (p_pick (b := true)) ?_
    refine oHead [2, 3, 4, 19] [0, 1, 2] (T' := [(2, .ptr 0 0), (3, .ptr 1 0), (4, .ptr 2 0), (19, .d (.bool true))]) (H' := [.box [.d (.lit (List.map e_i64 a0))], .box [.d (.lit (List.map e_i64 b0))], .box [.nilc]]) (hnd := by decide) (h := ?_)
    exact hj17 true
   ·refine oQ (.agg [.d (.lit (List.map e_i64 b0))]) (k_loadAgg 1 0 (hu := Try.underlying26) (hi := ty26)) ?_
    refine bCall (caps := []) (v := (fun (r128 : Bool) => (.d (.bool r128) : V))) (H' := (fun (r128 : Bool) => ([.box [.d (.lit (List.map e_i64 a0))], .box [.d (.lit (List.map e_i64 b0))], .box [.nilc]] : List Blk))) [] _ (distribution_Valid_goes k b0) (ho := rfl) (hfn := Try.func28) (hb := rfl) (hconv := ConvRs.refl _ _) (hnd := by decide) (hBl := fun _ => (by kernel_rfl)) (hv := fun _ => (by kernel_rfl)) (hH' := fun _ => (by kernel_rfl)) (h := fun r128 => ?_)
    refine oP (.d (.bool (!r128))) (p_not (p := r128)) ?_
    refine oP (.d (.bool (!r128))) (p_pick (b := false)) ?_
    refine oHead [2, 3, 4, 19] [0, 1, 2] (T' := [(2, .ptr 0 0), (3, .ptr 1 0), (4, .ptr 2 0), (19, .d (.bool (!r128)))]) (H' := [.box [.d (.lit (List.map e_i64 a0))], .box [.d (.lit (List.map e_i64 b0))], .box [.nilc]]) (hnd := by decide) (h := ?_)
    exact hj17 (!r128)

/-- awardingbody/distribution.Smooth -/
def distribution_Smooth (k : Nat) (d0 : (List Int)) : Option ((List Int) × Int) := Option.bind (distribution_Valid k d0) (fun r121 => bif (!r121) then some ([], 1) else Option.bind (slices_Repeat_int k ((List.length d0) : Int) ([1] : List Int)) (fun r1 => Option.bind (distribution_Add k d0 r1) (uc fun r11 => fun r13 => some (r11, r13))))
def distribution_Smooth_E (d0 : (List Int)) : (List Int) × Int → V × List Blk := uc fun r14 => fun r15 => (.tuple [.agg [.d (.lit (List.map e_i64 r14))], .d (.int .i64 r15)], [])
theorem distribution_Smooth_goes (k : Nat) (d0 : (List Int)) : RunsO Try.prog 24 [.agg [.d (.lit (List.map e_i64 d0))]] [] (distribution_Smooth_E d0) (distribution_Smooth k d0) := by
  refine RunsO.of_goes (N := 18) (m := 0) (T := [(0, .agg [.d (.lit (List.map e_i64 d0))])]) Try.func24 rfl rfl (h := ?_)
  unfold distribution_Smooth
  refine bStart ?_
  refine oSR rfl ?_
  refine oD (.ptr 0 0) (k_box (H' := [.box [.d (.lit (List.map e_i64 d0))]]) (cells := [.d (.lit (List.map e_i64 d0))])) ?_
  refine oD (.ptr 1 0) (k_alloc (H' := [.box [.d (.lit (List.map e_i64 d0))], .box [.nilc]]) ty26) ?_
  refine oP (.d (.int .i64 0)) p_assign ?_
  refine oEnd ?_
  refine oSeq ?_
  refine oSR rfl ?_
  refine oQ (.agg [.d (.lit (List.map e_i64 d0))]) (k_loadAgg 0 0 (hu := Try.underlying26) (hi := ty26)) ?_
  refine bCall (caps := []) (v := (fun (r121 : Bool) => (.d (.bool r121) : V))) (H' := (fun (r121 : Bool) => ([.box [.d (.lit (List.map e_i64 d0))], .box [.nilc]] : List Blk))) [] _ (distribution_Valid_goes k d0) (ho := rfl) (hfn := Try.func28) (hb := rfl) (hconv := ConvRs.refl _ _) (hnd := by decide) (hBl := fun _ => (by kernel_rfl)) (hv := fun _ => (by kernel_rfl)) (hH' := fun _ => (by kernel_rfl)) (h := fun r121 => ?_)
  refine oP (.d (.bool (!r121))) (p_not (p := r121)) ?_
  refine oEnd ?_
  refine bSplit 6 (h1 := fun hc => ?_) (h2 := fun hc => ?_)
  ·refine oCondT (h := ?_)
   refine oSR rfl ?_
   refine oP (.agg [.nilc]) (p_build bld26) ?_
   refine oD (.undef) (k_store (vs := [.nilc]) (H' := [.box [.d (.lit (List.map e_i64 d0))], .box [.nilc]]) 1 0 (hi := ty26)) ?_
   refine oP (.d (.int .i64 1)) p_assign ?_
   refine oEnd ?_
   refine oConvB 1 (cells := [.nilc]) (cells' := [.d (.lit (List.map e_i64 []))]) (hc := .cons _ _ _ _ .nil .nil) (h := ?_)
   refine oView (H' := [.box [.d (.lit (List.map e_i64 d0))], .box [.d (.lit (List.map e_i64 []))]]) rfl (h := ?_)
   exact oRet (r0 := ([], 1)) (rv := .tuple [.agg [.d (.lit (List.map e_i64 []))], .d (.int .i64 1)]) (B := []) (vs := [.agg [.d (.lit (List.map e_i64 []))], .d (.int .i64 1)]) (σ := []) (hf := Try.func24) (hrs := rfl) (hres := .cons _ _ _ _ (.agg 2 26 1 0 [.d (.lit (List.map e_i64 []))] [.d (.lit (List.map e_i64 []))] _ _ _ _ (by kernel_rfl) (by kernel_rfl) Try.underlying26 (by kernel_rfl) ty26 (by kernel_rfl) (by kernel_rfl)) (.cons _ _ _ _ (.tmp 3 _ (by kernel_rfl)) .nil)) (hnd := by decide)
  ·refine oCondF (h := ?_)
   refine oSkip ?_
   refine oSeq ?_
   refine oDraw [(0, 12), (1, 10)] rfl ?_
   refine aQ 0 [0] (.agg [.d (.lit (List.map e_i64 d0))]) rfl (k_loadAgg 0 0 (hu := Try.underlying26) (hi := ty26)) ?_
   refine aP 2 (.ptr 0 0) rfl (k_fieldAddr 0 0 (hu := Try.underlying26) (hf := rfl) (hi := ty22)) ?_
   refine aQ 3 [0] (.d (.lit (List.map e_i64 d0))) rfl (k_load 0 0 (hu := Try.underlying22)) ?_
   refine aP 4 (.d (.int .i64 ((List.length d0) : Int))) rfl (k_lenLit (enc := e_i64) d0 (hu := Try.underlying22)) ?_
   refine aOne (i := 1) (v := .ref 2 (List.length ([1] : List Int)) 0 (List.length ([1] : List Int))) rfl (hac := (Does.acts (k_buildSlice (H' := [.box [.d (.lit (List.map e_i64 d0))], .box [.nilc], .sl 1 (List.map e_i64 ([1] : List Int)) false]) (List.map e_i64 ([1] : List Int)) Try.underlying22 ty3))) (h := ?_)
   refine dCall (i := 5) (caps := []) (v := (fun (r1 : (List Int)) => (.d (.lit (List.map e_i64 r1)) : V))) (H' := (fun (r1 : (List Int)) => ([.box [.d (.lit (List.map e_i64 d0))], .box [.nilc], .sl 1 (List.map e_i64 ([1] : List Int)) false] : List Blk))) [2] _ (slices_Repeat_int_goes k ((List.length d0) : Int) ([1] : List Int)) rfl (ho := rfl) (hfn := Try.func52) (hb := rfl) (hconv := ConvRs.refl _ _) (hnd := by decide) (hBl := fun _ => (by kernel_rfl)) (hv := fun _ => (by kernel_rfl)) (hH' := fun _ => (by kernel_rfl)) (h := fun r1 => ?_)
   refine aTakeP (i := 6) (.agg [.d (.lit (List.map e_i64 r1))]) rfl (hp := p_build bld26) (h := ?_)
   refine dCall (i := 7) (caps := []) (v := (uc fun (r11 : (List Int)) => (fun (r13 : Int) => (.tuple [.agg [.d (.lit (List.map e_i64 r11))], .d (.int .i64 r13)] : V)))) (H' := (uc fun (r11 : (List Int)) => (fun (r13 : Int) => ([.box [.d (.lit (List.map e_i64 d0))], .box [.nilc], .sl 1 (List.map e_i64 ([1] : List Int)) false] : List Blk)))) [] _ (distribution_Add_goes k d0 r1) rfl (ho := rfl) (hfn := Try.func22) (hb := rfl) (hconv := ConvRs.refl _ _) (hnd := by decide) (hBl := fun _ => (by kernel_rfl)) (hv := fun _ => (by kernel_rfl)) (hH' := fun _ => (by kernel_rfl)) (h := fun r => ?_)
   obtain ⟨r11, r13⟩ := r
   refine dUc ?_
   refine aTakeP (i := 8) (.agg [.d (.lit (List.map e_i64 r11))]) rfl (hp := k_extract) (h := ?_)
   refine aTakeP (i := 9) (.d (.int .i64 r13)) rfl (hp := k_extract) (h := ?_)
   refine aOne (i := 10) (v := .undef) rfl (hac := (Does.acts (k_store (vs := [.d (.lit (List.map e_i64 r11))]) (H' := [.box [.d (.lit (List.map e_i64 d0))], .box [.d (.lit (List.map e_i64 r11))], .sl 1 (List.map e_i64 ([1] : List Int)) false]) 1 0 (hi := ty26)))) (h := ?_)
   refine aP 11 (.d (.int .i64 r13)) rfl p_assign ?_
   refine aDone (h := ?_)
   exact oRet (r0 := (r11, r13)) (rv := .tuple [.agg [.d (.lit (List.map e_i64 r11))], .d (.int .i64 r13)]) (B := []) (vs := [.agg [.d (.lit (List.map e_i64 r11))], .d (.int .i64 r13)]) (σ := []) (hf := Try.func24) (hrs := rfl) (hres := .cons _ _ _ _ (.agg 2 26 1 0 [.d (.lit (List.map e_i64 r11))] [.d (.lit (List.map e_i64 r11))] _ _ _ _ (by kernel_rfl) (by kernel_rfl) Try.underlying26 (by kernel_rfl) ty26 (by kernel_rfl) (by kernel_rfl)) (.cons _ _ _ _ (.tmp 3 _ (by kernel_rfl)) .nil)) (hnd := by decide)

/-- awardingbody/awardingbodyref01.Size -/
def ref01_Size (k : Nat) (n : Int) : Option (Int) := bif (decide (n < 0)) then some (IntKind.wrap .u64 ((IntKind.wrap .u64 (IntKind.wrap .i64 (0 - (IntKind.wrap .i64 (n + 1))))) + 1)) else some (IntKind.wrap .u64 n)
def ref01_Size_E (n : Int) : Int → V × List Blk := fun r1 => (.d (.int .u64 r1), [])
theorem ref01_Size_goes (k : Nat) (n : Int) : RunsO Try.prog 42 [.d (.int .i64 n)] [] (ref01_Size_E n) (ref01_Size k n) := by
  refine RunsO.of_goes (N := 12) (m := 0) (T := [(0, .d (.int .i64 n))]) Try.func42 rfl rfl (h := ?_)
  unfold ref01_Size
  refine bStart ?_
  refine oSR rfl ?_
  refine oP (.d (.int .u64 0)) p_assign ?_
  refine oEnd ?_
  refine oSeq ?_
  refine oSR rfl ?_
  refine oP (.d (.int .i64 n)) p_move ?_
  refine oP (.d (.bool (decide (n < 0)))) (p_int (k := .i64) (p := n) (q := 0)) ?_
  refine oEnd ?_
  refine bSplit 4 (h1 := fun hc => ?_) (h2 := fun hc => ?_)
  ·refine oCondT (h := ?_)
   refine oSR rfl ?_
   refine oP (.d (.int .i64 n)) p_move ?_
   refine oP (.d (.int .i64 (IntKind.wrap .i64 (n + 1)))) (p_int (k := .i64) (p := n) (q := 1)) ?_
   refine oP (.d (.int .i64 (IntKind.wrap .i64 (0 - (IntKind.wrap .i64 (n + 1)))))) (p_neg (k := .i64) (p := (IntKind.wrap .i64 (n + 1)))) ?_
   refine oP (.d (.int .u64 (IntKind.wrap .u64 (IntKind.wrap .i64 (0 - (IntKind.wrap .i64 (n + 1))))))) (p_conv (k := .i64) (p := (IntKind.wrap .i64 (0 - (IntKind.wrap .i64 (n + 1))))) (hu1 := Try.underlying3) (hu2 := Try.underlying61)) ?_
   refine oP (.d (.int .u64 (IntKind.wrap .u64 ((IntKind.wrap .u64 (IntKind.wrap .i64 (0 - (IntKind.wrap .i64 (n + 1))))) + 1)))) (p_int (k := .u64) (p := (IntKind.wrap .u64 (IntKind.wrap .i64 (0 - (IntKind.wrap .i64 (n + 1)))))) (q := 1)) ?_
   refine oP (.d (.int .u64 (IntKind.wrap .u64 ((IntKind.wrap .u64 (IntKind.wrap .i64 (0 - (IntKind.wrap .i64 (n + 1))))) + 1)))) p_assign ?_
   refine oEnd ?_
   exact oRet (r0 := (IntKind.wrap .u64 ((IntKind.wrap .u64 (IntKind.wrap .i64 (0 - (IntKind.wrap .i64 (n + 1))))) + 1))) (rv := .d (.int .u64 (IntKind.wrap .u64 ((IntKind.wrap .u64 (IntKind.wrap .i64 (0 - (IntKind.wrap .i64 (n + 1))))) + 1)))) (B := []) (vs := [.d (.int .u64 (IntKind.wrap .u64 ((IntKind.wrap .u64 (IntKind.wrap .i64 (0 - (IntKind.wrap .i64 (n + 1))))) + 1)))]) (σ := []) (hf := Try.func42) (hrs := rfl) (hres := .cons _ _ _ _ (.tmp 2 _ (by kernel_rfl)) .nil) (hnd := by decide)
  ·refine oCondF (h := ?_)
   refine oSkip ?_
   refine oSR rfl ?_
   refine oP (.d (.int .i64 n)) p_move ?_
   refine oP (.d (.int .u64 (IntKind.wrap .u64 n))) (p_conv (k := .i64) (p := n) (hu1 := Try.underlying3) (hu2 := Try.underlying61)) ?_
   refine oP (.d (.int .u64 (IntKind.wrap .u64 n))) p_assign ?_
   refine oEnd ?_
   exact oRet (r0 := (IntKind.wrap .u64 n)) (rv := .d (.int .u64 (IntKind.wrap .u64 n))) (B := []) (vs := [.d (.int .u64 (IntKind.wrap .u64 n))]) (σ := []) (hf := Try.func42) (hrs := rfl) (hres := .cons _ _ _ _ (.tmp 2 _ (by kernel_rfl)) .nil) (hnd := by decide)

/-- awardingbody/awardingbodyref01.Twice -/
def ref01_Twice (k : Nat) (a0 : Int) (a1 : Int) : Option (Int × Int) := some ((ior .u64 (IntKind.wrap .u64 (a0 * 2 ^ (min (Int.toNat 1) (IntKind.bits .u64)))) (Int.fdiv a1 (2 ^ (min (Int.toNat 63) (IntKind.bits .u64))))), (IntKind.wrap .u64 (a1 * 2 ^ (min (Int.toNat 1) (IntKind.bits .u64)))))
def ref01_Twice_E (a0 : Int) (a1 : Int) : Int × Int → V × List Blk := uc fun r1 => fun r11 => (.agg [.d (.int .u64 r1), .d (.int .u64 r11)], [])
theorem ref01_Twice_goes (k : Nat) (a0 : Int) (a1 : Int) : RunsO Try.prog 69 [.agg [.d (.int .u64 a0), .d (.int .u64 a1)]] [] (ref01_Twice_E a0 a1) (ref01_Twice k a0 a1) := by
  refine RunsO.of_goes (N := 14) (m := 0) (T := [(0, .agg [.d (.int .u64 a0), .d (.int .u64 a1)])]) Try.func69 rfl rfl (h := ?_)
  unfold ref01_Twice
  refine bStart ?_
  refine oSR rfl ?_
  refine oD (.ptr 0 0) (k_box (H' := [.box [.d (.int .u64 a0), .d (.int .u64 a1)]]) (cells := [.d (.int .u64 a0), .d (.int .u64 a1)])) ?_
  refine oD (.ptr 1 0) (k_alloc (H' := [.box [.d (.int .u64 a0), .d (.int .u64 a1)], .box [.d (.int .u64 0), .d (.int .u64 0)]]) ty64) ?_
  refine oEnd ?_
  refine oSR rfl ?_
  refine oP (.ptr 0 0) (k_fieldAddr 0 0 (hu := Try.underlying64) (hf := rfl) (hi := ty61)) ?_
  refine oQ (.d (.int .u64 a0)) (k_load 0 0 (hu := Try.underlying61)) ?_
  refine oP (.d (.int .u64 (IntKind.wrap .u64 (a0 * 2 ^ (min (Int.toNat 1) (IntKind.bits .u64)))))) (p_shl (k := .u64) (k2 := .u64) (p := a0) (q := 1) (hq := by decide)) ?_
  refine oP (.ptr 0 1) (k_fieldAddr 0 0 (hu := Try.underlying64) (hf := rfl) (hi := ty61)) ?_
  refine oQ (.d (.int .u64 a1)) (k_load 0 1 (hu := Try.underlying61)) ?_
  refine oP (.d (.int .u64 (Int.fdiv a1 (2 ^ (min (Int.toNat 63) (IntKind.bits .u64)))))) (p_shr (k := .u64) (k2 := .u64) (p := a1) (q := 63) (hq := by decide)) ?_
  refine oP (.d (.int .u64 (ior .u64 (IntKind.wrap .u64 (a0 * 2 ^ (min (Int.toNat 1) (IntKind.bits .u64)))) (Int.fdiv a1 (2 ^ (min (Int.toNat 63) (IntKind.bits .u64))))))) (p_int (k := .u64) (p := (IntKind.wrap .u64 (a0 * 2 ^ (min (Int.toNat 1) (IntKind.bits .u64))))) (q := (Int.fdiv a1 (2 ^ (min (Int.toNat 63) (IntKind.bits .u64)))))) ?_
  refine oP (.ptr 0 1) (k_fieldAddr 0 0 (hu := Try.underlying64) (hf := rfl) (hi := ty61)) ?_
  refine oQ (.d (.int .u64 a1)) (k_load 0 1 (hu := Try.underlying61)) ?_
  refine oP (.d (.int .u64 (IntKind.wrap .u64 (a1 * 2 ^ (min (Int.toNat 1) (IntKind.bits .u64)))))) (p_shl (k := .u64) (k2 := .u64) (p := a1) (q := 1) (hq := by decide)) ?_
  refine oP (.agg [.d (.int .u64 (ior .u64 (IntKind.wrap .u64 (a0 * 2 ^ (min (Int.toNat 1) (IntKind.bits .u64)))) (Int.fdiv a1 (2 ^ (min (Int.toNat 63) (IntKind.bits .u64)))))), .d (.int .u64 (IntKind.wrap .u64 (a1 * 2 ^ (min (Int.toNat 1) (IntKind.bits .u64)))))]) (p_build bld64) ?_
  refine oD (.undef) (k_store (vs := [.d (.int .u64 (ior .u64 (IntKind.wrap .u64 (a0 * 2 ^ (min (Int.toNat 1) (IntKind.bits .u64)))) (Int.fdiv a1 (2 ^ (min (Int.toNat 63) (IntKind.bits .u64)))))), .d (.int .u64 (IntKind.wrap .u64 (a1 * 2 ^ (min (Int.toNat 1) (IntKind.bits .u64)))))]) (H' := [.box [.d (.int .u64 a0), .d (.int .u64 a1)], .box [.d (.int .u64 (ior .u64 (IntKind.wrap .u64 (a0 * 2 ^ (min (Int.toNat 1) (IntKind.bits .u64)))) (Int.fdiv a1 (2 ^ (min (Int.toNat 63) (IntKind.bits .u64)))))), .d (.int .u64 (IntKind.wrap .u64 (a1 * 2 ^ (min (Int.toNat 1) (IntKind.bits .u64)))))]]) 1 0 (hi := ty64)) ?_
  refine oEnd ?_
  exact oRet (r0 := ((ior .u64 (IntKind.wrap .u64 (a0 * 2 ^ (min (Int.toNat 1) (IntKind.bits .u64)))) (Int.fdiv a1 (2 ^ (min (Int.toNat 63) (IntKind.bits .u64))))), (IntKind.wrap .u64 (a1 * 2 ^ (min (Int.toNat 1) (IntKind.bits .u64)))))) (rv := .agg [.d (.int .u64 (ior .u64 (IntKind.wrap .u64 (a0 * 2 ^ (min (Int.toNat 1) (IntKind.bits .u64)))) (Int.fdiv a1 (2 ^ (min (Int.toNat 63) (IntKind.bits .u64)))))), .d (.int .u64 (IntKind.wrap .u64 (a1 * 2 ^ (min (Int.toNat 1) (IntKind.bits .u64)))))]) (B := []) (vs := [.agg [.d (.int .u64 (ior .u64 (IntKind.wrap .u64 (a0 * 2 ^ (min (Int.toNat 1) (IntKind.bits .u64)))) (Int.fdiv a1 (2 ^ (min (Int.toNat 63) (IntKind.bits .u64)))))), .d (.int .u64 (IntKind.wrap .u64 (a1 * 2 ^ (min (Int.toNat 1) (IntKind.bits .u64)))))]]) (σ := []) (hf := Try.func69) (hrs := rfl) (hres := .cons _ _ _ _ (.agg 2 64 1 0 [.d (.int .u64 (ior .u64 (IntKind.wrap .u64 (a0 * 2 ^ (min (Int.toNat 1) (IntKind.bits .u64)))) (Int.fdiv a1 (2 ^ (min (Int.toNat 63) (IntKind.bits .u64)))))), .d (.int .u64 (IntKind.wrap .u64 (a1 * 2 ^ (min (Int.toNat 1) (IntKind.bits .u64)))))] [.d (.int .u64 (ior .u64 (IntKind.wrap .u64 (a0 * 2 ^ (min (Int.toNat 1) (IntKind.bits .u64)))) (Int.fdiv a1 (2 ^ (min (Int.toNat 63) (IntKind.bits .u64)))))), .d (.int .u64 (IntKind.wrap .u64 (a1 * 2 ^ (min (Int.toNat 1) (IntKind.bits .u64)))))] _ _ _ _ (by kernel_rfl) (by kernel_rfl) Try.underlying64 (by kernel_rfl) ty64 (by kernel_rfl) (by kernel_rfl)) .nil) (hnd := by decide)

/-- awardingbody/awardingbodyref01.Order -/
def ref01_Order (k : Nat) (a0 : Int) (a1 : Int) (b0 : Int) (b1 : Int) : Option (Int) := Option.bind (bif (decide (a0 < b0)) then some true else blet ((a0 == b0) && (decide (a1 < b1))) fun x4 => some x4 : Option (Bool)) (fun x3 => bif x3 then some (-1) else bif ((a0 == b0) && ((a1 == b1) && true)) then some 0 else some 1)
def ref01_Order_E (a0 : Int) (a1 : Int) (b0 : Int) (b1 : Int) : Int → V × List Blk := fun r1 => (.d (.int .i64 r1), [])
theorem ref01_Order_goes (k : Nat) (a0 : Int) (a1 : Int) (b0 : Int) (b1 : Int) : RunsO Try.prog 70 [.agg [.d (.int .u64 a0), .d (.int .u64 a1)], .agg [.d (.int .u64 b0), .d (.int .u64 b1)]] [] (ref01_Order_E a0 a1 b0 b1) (ref01_Order k a0 a1 b0 b1) := by
  refine RunsO.of_goes (N := 27) (m := 0) (T := [(0, .agg [.d (.int .u64 a0), .d (.int .u64 a1)]), (1, .agg [.d (.int .u64 b0), .d (.int .u64 b1)])]) Try.func70 rfl rfl (h := ?_)
  unfold ref01_Order
  refine bStart ?_
  refine oSR rfl ?_
  refine oD (.ptr 0 0) (k_box (H' := [.box [.d (.int .u64 a0), .d (.int .u64 a1)]]) (cells := [.d (.int .u64 a0), .d (.int .u64 a1)])) ?_
  refine oD (.ptr 1 0) (k_box (H' := [.box [.d (.int .u64 a0), .d (.int .u64 a1)], .box [.d (.int .u64 b0), .d (.int .u64 b1)]]) (cells := [.d (.int .u64 b0), .d (.int .u64 b1)])) ?_
  refine oP (.d (.int .i64 0)) p_assign ?_
  refine oEnd ?_
  refine oSeq ?_
  refine oSR rfl ?_
  refine oP (.ptr 0 0) (k_fieldAddr 0 0 (hu := Try.underlying64) (hf := rfl) (hi := ty61)) ?_
  refine oQ (.d (.int .u64 a0)) (k_load 0 0 (hu := Try.underlying61)) ?_
  refine oP (.ptr 1 0) (k_fieldAddr 1 0 (hu := Try.underlying64) (hf := rfl) (hi := ty61)) ?_
  refine oQ (.d (.int .u64 b0)) (k_load 1 0 (hu := Try.underlying61)) ?_
  refine oP (.d (.bool (decide (a0 < b0)))) (p_int (k := .u64) (p := a0) (q := b0)) ?_
  refine oP (.d (.bool (decide (a0 < b0)))) p_move ?_
  refine bMeet 13 rfl ((fun (x3 : Bool) => [(2, .ptr 0 0), (3, .ptr 1 0), (23, .d (.bool x3))])) ((fun (x3 : Bool) => [.box [.d (.int .u64 a0), .d (.int .u64 a1)], .box [.d (.int .u64 b0), .d (.int .u64 b1)]])) (fun s => s) (fun x3 => ?_) (fun hj1 => ?_)
  ·refine oView (T' := [(2, .ptr 0 0), (3, .ptr 1 0), (23, .d (.bool x3))]) (H' := [.box [.d (.int .u64 a0), .d (.int .u64 a1)], .box [.d (.int .u64 b0), .d (.int .u64 b1)]]) (h := ?_)
   refine oEnd ?_
   refine bSplit 23 (h1 := fun hc => ?_) (h2 := fun hc => ?_)
   ·refine oCondT (h := ?_)
    refine oSR rfl ?_
    refine oP (.d (.int .i64 (-1))) p_assign ?_
    refine oEnd ?_
    exact oRet (r0 := (-1)) (rv := .d (.int .i64 (-1))) (B := []) (vs := [.d (.int .i64 (-1))]) (σ := []) (hf := Try.func70) (hrs := rfl) (hres := .cons _ _ _ _ (.tmp 4 _ (by kernel_rfl)) .nil) (hnd := by decide)
   ·refine oCondF (h := ?_)
    refine oSkip ?_
    refine oSeq ?_
    refine oSR rfl ?_
    refine oQ (.agg [.d (.int .u64 a0), .d (.int .u64 a1)]) (k_loadAgg 0 0 (hu := Try.underlying64) (hi := ty64)) ?_
    refine oQ (.agg [.d (.int .u64 b0), .d (.int .u64 b1)]) (k_loadAgg 1 0 (hu := Try.underlying64) (hi := ty64)) ?_
    refine oP (.d (.bool ((a0 == b0) && ((a1 == b1) && true)))) (k_eqAgg (hg := Try.eqGuardType64) (h := EqV.struct 1 64 [.d (.int .u64 a0), .d (.int .u64 a1)] [.d (.int .u64 b0), .d (.int .u64 b1)] _ ((a0 == b0) && ((a1 == b1) && true)) Try.underlying64 Try.stoodInHeld64 (EqF.one 1 1 _ _ _ _ _ _ _ (a0 == b0) ((a1 == b1) && true) (by kernel_rfl) Try.underlying61 (by kernel_rfl) (by kernel_rfl) (by kernel_rfl) (by kernel_rfl) (EqV.int 61 .u64 .u64 a0 b0 Try.underlying61) (EqF.one 1 1 _ _ _ _ _ _ _ (a1 == b1) true (by kernel_rfl) Try.underlying61 (by kernel_rfl) (by kernel_rfl) (by kernel_rfl) (by kernel_rfl) (EqV.int 61 .u64 .u64 a1 b1 Try.underlying61) (EqF.nil 1 _ _))))) ?_
    refine oEnd ?_
    refine bSplit 26 (h1 := fun hc => ?_) (h2 := fun hc => ?_)
    ·refine oCondT (h := ?_)
     refine oSR rfl ?_
     refine oP (.d (.int .i64 0)) p_assign ?_
     refine oEnd ?_
     exact oRet (r0 := 0) (rv := .d (.int .i64 0)) (B := []) (vs := [.d (.int .i64 0)]) (σ := []) (hf := Try.func70) (hrs := rfl) (hres := .cons _ _ _ _ (.tmp 4 _ (by kernel_rfl)) .nil) (hnd := by decide)
    ·refine oCondF (h := ?_)
     refine oSkip ?_
     refine oSR rfl ?_
     refine oP (.d (.int .i64 1)) p_assign ?_
     refine oEnd ?_
     exact oRet (r0 := 1) (rv := .d (.int .i64 1)) (B := []) (vs := [.d (.int .i64 1)]) (σ := []) (hf := Try.func70) (hrs := rfl) (hres := .cons _ _ _ _ (.tmp 4 _ (by kernel_rfl)) .nil) (hnd := by decide)
  ·refine bSplit 10 (h1 := fun hc => ?_) (h2 := fun hc => ?_)
   ·refine oNot (h := ?_)
    refine oNot (h := ?_)
    refine oNot (h := ?_)
    refine oNot (h := ?_)
    refine oNot (h := ?_)
    refine oNot (h := ?_)
    refine oNot (h := ?_)
    refine oNot (h := ?_)
    refine oNot (h := ?_)
    refine oNot (h := ?_)
    refine oNot (h := ?_)
    refine oNot (h := ?_)
    refine oP (.d (.bool true)) (p_pick (b := true)) ?_
    refine oHead [2, 3, 23] [0, 1] (T' := [(2, .ptr 0 0), (3, .ptr 1 0), (23, .d (.bool true))]) (H' := [.box [.d (.int .u64 a0), .d (.int .u64 a1)], .box [.d (.int .u64 b0), .d (.int .u64 b1)]]) (hnd := by decide) (h := ?_)
    exact hj1 true
   ·refine oP (.ptr 0 0) (k_fieldAddr 0 0 (hu := Try.underlying64) (hf := rfl) (hi := ty61)) ?_
    refine oQ (.d (.int .u64 a0)) (k_load 0 0 (hu := Try.underlying61)) ?_
    refine oP (.ptr 1 0) (k_fieldAddr 1 0 (hu := Try.underlying64) (hf := rfl) (hi := ty61)) ?_
    refine oQ (.d (.int .u64 b0)) (k_load 1 0 (hu := Try.underlying61)) ?_
    refine oP (.d (.bool (a0 == b0))) (p_int (k := .u64) (p := a0) (q := b0)) ?_
    refine oP (.d (.bool (a0 == b0))) p_move ?_
    refine bMeetF (H' := [.box [.d (.int .u64 a0), .d (.int .u64 a1)], .box [.d (.int .u64 b0), .d (.int .u64 b1)]]) 6 rfl ((fun (x4 : Bool) => [(2, .ptr 0 0), (3, .ptr 1 0), (10, .d (.bool false)), (22, .d (.bool x4))])) (fun x4 => ?_) (fun F hj2 => ?_)
    ·refine oView (T' := [(2, .ptr 0 0), (3, .ptr 1 0), (10, .d (.bool false)), (22, .d (.bool x4))]) (H' := [.box [.d (.int .u64 a0), .d (.int .u64 a1)], .box [.d (.int .u64 b0), .d (.int .u64 b1)]]) (h := ?_)
     refine oP (.d (.bool x4)) (p_pick (b := false)) ?_
     refine oHead [2, 3, 23] [0, 1] (T' := [(2, .ptr 0 0), (3, .ptr 1 0), (23, .d (.bool x4))]) (H' := [.box [.d (.int .u64 a0), .d (.int .u64 a1)], .box [.d (.int .u64 b0), .d (.int .u64 b1)]]) (hnd := by decide) (h := ?_)
     exact hj1 x4
    ·refine bPickF 16 (fun c => F (c && (decide (a1 < b1)))) (h1 := fun hc => ?_) (h2 := fun hc => ?_)
     ·refine oP (.ptr 0 1) (k_fieldAddr 0 0 (hu := Try.underlying64) (hf := rfl) (hi := ty61)) ?_
      refine oQ (.d (.int .u64 a1)) (k_load 0 1 (hu := Try.underlying61)) ?_
      refine oP (.ptr 1 1) (k_fieldAddr 1 0 (hu := Try.underlying64) (hf := rfl) (hi := ty61)) ?_
      refine oQ (.d (.int .u64 b1)) (k_load 1 1 (hu := Try.underlying61)) ?_
      refine oP (.d (.bool (decide (a1 < b1)))) (p_int (k := .u64) (p := a1) (q := b1)) ?_
      refine oP (.d (.bool (decide (a1 < b1)))) (p_pick (b := true)) ?_
      refine oHead [2, 3, 10, 22] [0, 1] (T' := [(2, .ptr 0 0), (3, .ptr 1 0), (10, .d (.bool false)), (22, .d (.bool (decide (a1 < b1))))]) (H' := [.box [.d (.int .u64 a0), .d (.int .u64 a1)], .box [.d (.int .u64 b0), .d (.int .u64 b1)]]) (hnd := by decide) (h := ?_)
      exact hj2 (decide (a1 < b1))
     ·refine oNot (h := ?_)
      refine oNot (h := ?_)
      refine oNot (h := ?_)
      refine oNot (h := ?_)
      refine oNot (h := ?_)
      refine oP (.d (.bool false)) (p_pick (b := false)) ?_
      refine oHead [2, 3, 10, 22] [0, 1] (T' := [(2, .ptr 0 0), (3, .ptr 1 0), (10, .d (.bool false)), (22, .d (.bool false))]) (H' := [.box [.d (.int .u64 a0), .d (.int .u64 a1)], .box [.d (.int .u64 b0), .d (.int .u64 b1)]]) (hnd := by decide) (h := ?_)
      exact hj2 false

/-- awardingbody/awardingbodyref01.Minus -/
def ref01_Minus (k : Nat) (a0 : Int) (a1 : Int) (b0 : Int) (b1 : Int) : Option (Unit) := gcarry a1 b1 0 (gle b1 18446744073709551615 (gcarry a0 b0 (if a1 < b1 + 0 then 1 else 0) (gle b0 18446744073709551615 (some ()))))
def ref01_Minus_E (a0 : Int) (a1 : Int) (b0 : Int) (b1 : Int) : Unit → V × List Blk := u0 ((.agg [.d (.int .u64 ((a0 - b0 - (if a1 < b1 + 0 then 1 else 0)) % 18446744073709551616)), .d (.int .u64 ((a1 - b1 - 0) % 18446744073709551616))], []))
theorem ref01_Minus_goes (k : Nat) (a0 : Int) (a1 : Int) (b0 : Int) (b1 : Int) : RunsO Try.prog 71 [.agg [.d (.int .u64 a0), .d (.int .u64 a1)], .agg [.d (.int .u64 b0), .d (.int .u64 b1)]] [] (ref01_Minus_E a0 a1 b0 b1) (ref01_Minus k a0 a1 b0 b1) := by
  refine RunsO.of_goes (N := 29) (m := 0) (T := [(0, .agg [.d (.int .u64 a0), .d (.int .u64 a1)]), (1, .agg [.d (.int .u64 b0), .d (.int .u64 b1)])]) Try.func71 rfl rfl (h := ?_)
  unfold ref01_Minus
  refine bStart ?_
  refine oSR rfl ?_
  refine oD (.ptr 0 0) (k_box (H' := [.box [.d (.int .u64 a0), .d (.int .u64 a1)]]) (cells := [.d (.int .u64 a0), .d (.int .u64 a1)])) ?_
  refine oD (.ptr 1 0) (k_box (H' := [.box [.d (.int .u64 a0), .d (.int .u64 a1)], .box [.d (.int .u64 b0), .d (.int .u64 b1)]]) (cells := [.d (.int .u64 b0), .d (.int .u64 b1)])) ?_
  refine oD (.ptr 2 0) (k_alloc (H' := [.box [.d (.int .u64 a0), .d (.int .u64 a1)], .box [.d (.int .u64 b0), .d (.int .u64 b1)], .box [.d (.int .u64 0), .d (.int .u64 0)]]) ty64) ?_
  refine oEnd ?_
  refine oSR rfl ?_
  refine oP (.ptr 0 1) (k_fieldAddr 0 0 (hu := Try.underlying64) (hf := rfl) (hi := ty61)) ?_
  refine oQ (.d (.int .u64 a1)) (k_load 0 1 (hu := Try.underlying61)) ?_
  refine oP (.ptr 1 1) (k_fieldAddr 1 0 (hu := Try.underlying64) (hf := rfl) (hi := ty61)) ?_
  refine oQ (.d (.int .u64 b1)) (k_load 1 1 (hu := Try.underlying61)) ?_
  refine bCarry (fun h14 => ?_)
  refine bLe (fun h15 => ?_)
  refine oP (.tuple [.d (.int .u64 ((a1 - b1 - 0) % 18446744073709551616)), .d (.int .u64 (if a1 < b1 + 0 then 1 else 0))]) (p_sub64 (p := a1) (q := b1) (c := 0) (hfn := Try.func79) (hc := h14) (hq := h15)) ?_
  refine oP (.tuple [.d (.int .u64 ((a1 - b1 - 0) % 18446744073709551616)), .d (.int .u64 (if a1 < b1 + 0 then 1 else 0))]) p_move ?_
  refine oP (.d (.int .u64 ((a1 - b1 - 0) % 18446744073709551616))) k_extract ?_
  refine oP (.d (.int .u64 (if a1 < b1 + 0 then 1 else 0))) k_extract ?_
  refine oP (.d (.int .u64 ((a1 - b1 - 0) % 18446744073709551616))) p_assign ?_
  refine oP (.d (.int .u64 (if a1 < b1 + 0 then 1 else 0))) p_assign ?_
  refine oEnd ?_
  refine oSR rfl ?_
  refine oP (.ptr 0 0) (k_fieldAddr 0 0 (hu := Try.underlying64) (hf := rfl) (hi := ty61)) ?_
  refine oQ (.d (.int .u64 a0)) (k_load 0 0 (hu := Try.underlying61)) ?_
  refine oP (.ptr 1 0) (k_fieldAddr 1 0 (hu := Try.underlying64) (hf := rfl) (hi := ty61)) ?_
  refine oQ (.d (.int .u64 b0)) (k_load 1 0 (hu := Try.underlying61)) ?_
  refine oP (.d (.int .u64 (if a1 < b1 + 0 then 1 else 0))) p_move ?_
  refine bCarry (fun h16 => ?_)
  refine bLe (fun h17 => ?_)
  refine oP (.tuple [.d (.int .u64 ((a0 - b0 - (if a1 < b1 + 0 then 1 else 0)) % 18446744073709551616)), .d (.int .u64 (if a0 < b0 + (if a1 < b1 + 0 then 1 else 0) then 1 else 0))]) (p_sub64 (p := a0) (q := b0) (c := (if a1 < b1 + 0 then 1 else 0)) (hfn := Try.func79) (hc := h16) (hq := h17)) ?_
  refine oP (.tuple [.d (.int .u64 ((a0 - b0 - (if a1 < b1 + 0 then 1 else 0)) % 18446744073709551616)), .d (.int .u64 (if a0 < b0 + (if a1 < b1 + 0 then 1 else 0) then 1 else 0))]) p_move ?_
  refine oP (.d (.int .u64 ((a0 - b0 - (if a1 < b1 + 0 then 1 else 0)) % 18446744073709551616))) k_extract ?_
  refine oP (.d (.int .u64 (if a0 < b0 + (if a1 < b1 + 0 then 1 else 0) then 1 else 0))) k_extract ?_
  refine oP (.d (.int .u64 ((a0 - b0 - (if a1 < b1 + 0 then 1 else 0)) % 18446744073709551616))) p_assign ?_
  refine oP (.d (.int .u64 (if a0 < b0 + (if a1 < b1 + 0 then 1 else 0) then 1 else 0))) p_assign ?_
  refine oEnd ?_
  refine oSR rfl ?_
  refine oP (.d (.int .u64 ((a0 - b0 - (if a1 < b1 + 0 then 1 else 0)) % 18446744073709551616))) p_move ?_
  refine oP (.d (.int .u64 ((a1 - b1 - 0) % 18446744073709551616))) p_move ?_
  refine oP (.agg [.d (.int .u64 ((a0 - b0 - (if a1 < b1 + 0 then 1 else 0)) % 18446744073709551616)), .d (.int .u64 ((a1 - b1 - 0) % 18446744073709551616))]) (p_build bld64) ?_
  refine oD (.undef) (k_store (vs := [.d (.int .u64 ((a0 - b0 - (if a1 < b1 + 0 then 1 else 0)) % 18446744073709551616)), .d (.int .u64 ((a1 - b1 - 0) % 18446744073709551616))]) (H' := [.box [.d (.int .u64 a0), .d (.int .u64 a1)], .box [.d (.int .u64 b0), .d (.int .u64 b1)], .box [.d (.int .u64 ((a0 - b0 - (if a1 < b1 + 0 then 1 else 0)) % 18446744073709551616)), .d (.int .u64 ((a1 - b1 - 0) % 18446744073709551616))]]) 2 0 (hi := ty64)) ?_
  refine oEnd ?_
  exact oRet (r0 := ()) (rv := .agg [.d (.int .u64 ((a0 - b0 - (if a1 < b1 + 0 then 1 else 0)) % 18446744073709551616)), .d (.int .u64 ((a1 - b1 - 0) % 18446744073709551616))]) (B := []) (vs := [.agg [.d (.int .u64 ((a0 - b0 - (if a1 < b1 + 0 then 1 else 0)) % 18446744073709551616)), .d (.int .u64 ((a1 - b1 - 0) % 18446744073709551616))]]) (σ := []) (hf := Try.func71) (hrs := rfl) (hres := .cons _ _ _ _ (.agg 4 64 2 0 [.d (.int .u64 ((a0 - b0 - (if a1 < b1 + 0 then 1 else 0)) % 18446744073709551616)), .d (.int .u64 ((a1 - b1 - 0) % 18446744073709551616))] [.d (.int .u64 ((a0 - b0 - (if a1 < b1 + 0 then 1 else 0)) % 18446744073709551616)), .d (.int .u64 ((a1 - b1 - 0) % 18446744073709551616))] _ _ _ _ (by kernel_rfl) (by kernel_rfl) Try.underlying64 (by kernel_rfl) ty64 (by kernel_rfl) (by kernel_rfl)) .nil) (hnd := by decide)

/-- awardingbody/awardingbodyref01.Divide -/
def ref01_Divide_b1 (k : Nat) (a0 : Int) (a1 : Int) (b0 : Int) (b1 : Int) (again : Int × Int × Int × Int × Int → Option (Int × Int × Int × Int)) : Int × Int × Int × Int × Int → Option (Int × Int × Int × Int) := uc fun i4 => uc fun x56 => uc fun x57 => uc fun x58 => fun x59 => bif (decide (i4 ≥ 0)) then Option.bind (gnn (IntKind.wrap .u64 (Int.tmod i4 64)) (Option.bind (bif (decide (i4 ≥ 64)) then gnn (IntKind.wrap .u64 (IntKind.wrap .i64 (i4 - 64))) (some (iand .u64 (Int.fdiv a0 (2 ^ (min (Int.toNat (IntKind.wrap .u64 (IntKind.wrap .i64 (i4 - 64)))) (IntKind.bits .u64)))) 1)) else some (iand .u64 (Int.fdiv a1 (2 ^ (min (Int.toNat (IntKind.wrap .u64 (Int.tmod i4 64))) (IntKind.bits .u64)))) 1) : Option (Int)) (fun bit4 => Option.bind (ref01_Twice k x58 x59) (uc fun r131 => fun r1118 => Option.bind (ref01_Twice k x56 x57) (uc fun r132 => fun r1119 => Option.bind (bif ((Int.fdiv x58 (2 ^ (min (Int.toNat 63) (IntKind.bits .u64)))) == 1) then some (true, (ior .u64 r1118 bit4)) else Option.bind (ref01_Order k r131 (ior .u64 r1118 bit4) b0 b1) (fun r134 => some ((decide (r134 ≥ 0)), (ior .u64 r1118 bit4))) : Option (Bool × Int)) (uc fun x76 => fun x77 => bif x76 then Option.bind (ref01_Minus k r131 x77 b0 b1) (u0 (some (r132, (ior .u64 r1119 1), ((r131 - b0 - (if x77 < b1 + 0 then 1 else 0)) % 18446744073709551616), ((x77 - b1 - 0) % 18446744073709551616)))) else some (r132, r1119, r131, x77)))))) : Option (Int × Int × Int × Int)) (uc fun x72 => uc fun x73 => uc fun x74 => fun x75 => again ((IntKind.wrap .i64 (i4 - 1)), x72, x73, x74, x75)) else some (x56, x57, x58, x59)
def ref01_Divide (k : Nat) (a0 : Int) (a1 : Int) (b0 : Int) (b1 : Int) : Option (Int × Int × Int × Int) := blet ((a0 == 0) && (b0 == 0)) fun x25 => bif x25 then gnz b1 (gnz b1 (some (0, (IntKind.wrap .u64 (Int.tdiv a1 b1)), 0, (Int.tmod a1 b1)))) else Option.bind (gloop (ref01_Divide_b1 k a0 a1 b0 b1) k (127, 0, 0, 0, 0) : Option (Int × Int × Int × Int)) (uc fun x46 => uc fun x47 => uc fun x48 => fun x49 => some (x46, x47, x48, x49))
def ref01_Divide_E (a0 : Int) (a1 : Int) (b0 : Int) (b1 : Int) : Int × Int × Int × Int → V × List Blk := uc fun r17 => uc fun r18 => uc fun r19 => fun r110 => (.tuple [.agg [.d (.int .u64 r17), .d (.int .u64 r18)], .agg [.d (.int .u64 r19), .d (.int .u64 r110)]], [])
theorem ref01_Divide_goes (k : Nat) (a0 : Int) (a1 : Int) (b0 : Int) (b1 : Int) : RunsO Try.prog 60 [.agg [.d (.int .u64 a0), .d (.int .u64 a1)], .agg [.d (.int .u64 b0), .d (.int .u64 b1)]] [] (ref01_Divide_E a0 a1 b0 b1) (ref01_Divide k a0 a1 b0 b1) := by
  refine RunsO.of_goes (N := 82) (m := 0) (T := [(0, .agg [.d (.int .u64 a0), .d (.int .u64 a1)]), (1, .agg [.d (.int .u64 b0), .d (.int .u64 b1)])]) Try.func60 rfl rfl (h := ?_)
  unfold ref01_Divide
  refine bStart ?_
  refine oSR rfl ?_
  refine oD (.ptr 0 0) (k_box (H' := [.box [.d (.int .u64 a0), .d (.int .u64 a1)]]) (cells := [.d (.int .u64 a0), .d (.int .u64 a1)])) ?_
  refine oD (.ptr 1 0) (k_box (H' := [.box [.d (.int .u64 a0), .d (.int .u64 a1)], .box [.d (.int .u64 b0), .d (.int .u64 b1)]]) (cells := [.d (.int .u64 b0), .d (.int .u64 b1)])) ?_
  refine oD (.ptr 2 0) (k_alloc (H' := [.box [.d (.int .u64 a0), .d (.int .u64 a1)], .box [.d (.int .u64 b0), .d (.int .u64 b1)], .box [.d (.int .u64 0), .d (.int .u64 0)]]) ty64) ?_
  refine oD (.ptr 3 0) (k_alloc (H' := [.box [.d (.int .u64 a0), .d (.int .u64 a1)], .box [.d (.int .u64 b0), .d (.int .u64 b1)], .box [.d (.int .u64 0), .d (.int .u64 0)], .box [.d (.int .u64 0), .d (.int .u64 0)]]) ty64) ?_
  refine oEnd ?_
  refine oSeq ?_
  refine oSR rfl ?_
  refine oP (.ptr 0 0) (k_fieldAddr 0 0 (hu := Try.underlying64) (hf := rfl) (hi := ty61)) ?_
  refine oQ (.d (.int .u64 a0)) (k_load 0 0 (hu := Try.underlying61)) ?_
  refine oP (.d (.bool (a0 == 0))) (p_int (k := .u64) (p := a0) (q := 0)) ?_
  refine oP (.d (.bool (a0 == 0))) p_move ?_
  refine bMeetF (H' := [.box [.d (.int .u64 a0), .d (.int .u64 a1)], .box [.d (.int .u64 b0), .d (.int .u64 b1)], .box [.d (.int .u64 0), .d (.int .u64 0)], .box [.d (.int .u64 0), .d (.int .u64 0)]]) 4 rfl ((fun (x25 : Bool) => [(2, .ptr 0 0), (3, .ptr 1 0), (4, .ptr 2 0), (5, .ptr 3 0), (18, .d (.bool x25))])) (fun x25 => ?_) (fun F hj5 => ?_)
  ·refine oView (T' := [(2, .ptr 0 0), (3, .ptr 1 0), (4, .ptr 2 0), (5, .ptr 3 0), (18, .d (.bool x25))]) (H' := [.box [.d (.int .u64 a0), .d (.int .u64 a1)], .box [.d (.int .u64 b0), .d (.int .u64 b1)], .box [.d (.int .u64 0), .d (.int .u64 0)], .box [.d (.int .u64 0), .d (.int .u64 0)]]) (h := ?_)
   refine oEnd ?_
   refine bSplit 18 (h1 := fun hc => ?_) (h2 := fun hc => ?_)
   ·refine oCondT (h := ?_)
    refine oSeq ?_
    refine oDraw [(0, 14), (1, 14), (2, 12), (3, 13)] rfl ?_
    refine aP 0 (.ptr 0 1) rfl (k_fieldAddr 0 0 (hu := Try.underlying64) (hf := rfl) (hi := ty61)) ?_
    refine aQ 1 [0] (.d (.int .u64 a1)) rfl (k_load 0 1 (hu := Try.underlying61)) ?_
    refine aP 2 (.ptr 1 1) rfl (k_fieldAddr 1 0 (hu := Try.underlying64) (hf := rfl) (hi := ty61)) ?_
    refine aQ 3 [1] (.d (.int .u64 b1)) rfl (k_load 1 1 (hu := Try.underlying61)) ?_
    refine dNz (fun h1 => ?_)
    refine aTakeP (i := 4) (.d (.int .u64 (IntKind.wrap .u64 (Int.tdiv a1 b1)))) rfl (hp := p_quo (k := .u64) (p := a1) (q := b1) (hq := h1)) (h := ?_)
    refine aP 5 (.agg [.d (.int .u64 0), .d (.int .u64 (IntKind.wrap .u64 (Int.tdiv a1 b1)))]) rfl (p_build bld64) ?_
    refine aP 6 (.ptr 0 1) rfl (k_fieldAddr 0 0 (hu := Try.underlying64) (hf := rfl) (hi := ty61)) ?_
    refine aQ 7 [0] (.d (.int .u64 a1)) rfl (k_load 0 1 (hu := Try.underlying61)) ?_
    refine aP 8 (.ptr 1 1) rfl (k_fieldAddr 1 0 (hu := Try.underlying64) (hf := rfl) (hi := ty61)) ?_
    refine aQ 9 [1] (.d (.int .u64 b1)) rfl (k_load 1 1 (hu := Try.underlying61)) ?_
    refine dNz (fun h12 => ?_)
    refine aTakeP (i := 10) (.d (.int .u64 (Int.tmod a1 b1))) rfl (hp := p_rem (k := .u64) (p := a1) (q := b1) (hq := h12)) (h := ?_)
    refine aP 11 (.agg [.d (.int .u64 0), .d (.int .u64 (Int.tmod a1 b1))]) rfl (p_build bld64) ?_
    refine aOne (i := 12) (v := .undef) rfl (hac := Does.acts (k_store (vs := [.d (.int .u64 0), .d (.int .u64 (IntKind.wrap .u64 (Int.tdiv a1 b1)))]) (H' := [.box [.d (.int .u64 a0), .d (.int .u64 a1)], .box [.d (.int .u64 b0), .d (.int .u64 b1)], .box [.d (.int .u64 0), .d (.int .u64 (IntKind.wrap .u64 (Int.tdiv a1 b1)))], .box [.d (.int .u64 0), .d (.int .u64 0)]]) 2 0 (hi := ty64))) (h := ?_)
    refine aOne (i := 13) (v := .undef) rfl (hac := Does.acts (k_store (vs := [.d (.int .u64 0), .d (.int .u64 (Int.tmod a1 b1))]) (H' := [.box [.d (.int .u64 a0), .d (.int .u64 a1)], .box [.d (.int .u64 b0), .d (.int .u64 b1)], .box [.d (.int .u64 0), .d (.int .u64 (IntKind.wrap .u64 (Int.tdiv a1 b1)))], .box [.d (.int .u64 0), .d (.int .u64 (Int.tmod a1 b1))]]) 3 0 (hi := ty64))) (h := ?_)
    refine aDone (h := ?_)
    exact oRet (r0 := (0, (IntKind.wrap .u64 (Int.tdiv a1 b1)), 0, (Int.tmod a1 b1))) (rv := .tuple [.agg [.d (.int .u64 0), .d (.int .u64 (IntKind.wrap .u64 (Int.tdiv a1 b1)))], .agg [.d (.int .u64 0), .d (.int .u64 (Int.tmod a1 b1))]]) (B := []) (vs := [.agg [.d (.int .u64 0), .d (.int .u64 (IntKind.wrap .u64 (Int.tdiv a1 b1)))], .agg [.d (.int .u64 0), .d (.int .u64 (Int.tmod a1 b1))]]) (σ := []) (hf := Try.func60) (hrs := rfl) (hres := .cons _ _ _ _ (.agg 4 64 2 0 [.d (.int .u64 0), .d (.int .u64 (IntKind.wrap .u64 (Int.tdiv a1 b1)))] [.d (.int .u64 0), .d (.int .u64 (IntKind.wrap .u64 (Int.tdiv a1 b1)))] _ _ _ _ (by kernel_rfl) (by kernel_rfl) Try.underlying64 (by kernel_rfl) ty64 (by kernel_rfl) (by kernel_rfl)) (.cons _ _ _ _ (.agg 5 64 3 0 [.d (.int .u64 0), .d (.int .u64 (Int.tmod a1 b1))] [.d (.int .u64 0), .d (.int .u64 (Int.tmod a1 b1))] _ _ _ _ (by kernel_rfl) (by kernel_rfl) Try.underlying64 (by kernel_rfl) ty64 (by kernel_rfl) (by kernel_rfl)) .nil)) (hnd := by decide)
   ·refine oCondF (h := ?_)
    refine oSkip ?_
    refine oSR rfl ?_
    refine oP (.agg [.d (.int .u64 0), .d (.int .u64 0)]) (p_build bld64) ?_
    refine oP (.agg [.d (.int .u64 0), .d (.int .u64 0)]) (p_build bld64) ?_
    refine oD (.ptr 4 0) (k_alloc (H' := [.box [.d (.int .u64 a0), .d (.int .u64 a1)], .box [.d (.int .u64 b0), .d (.int .u64 b1)], .box [.d (.int .u64 0), .d (.int .u64 0)], .box [.d (.int .u64 0), .d (.int .u64 0)], .box [.d (.int .u64 0), .d (.int .u64 0)]]) ty64) ?_
    refine oD (.ptr 5 0) (k_alloc (H' := [.box [.d (.int .u64 a0), .d (.int .u64 a1)], .box [.d (.int .u64 b0), .d (.int .u64 b1)], .box [.d (.int .u64 0), .d (.int .u64 0)], .box [.d (.int .u64 0), .d (.int .u64 0)], .box [.d (.int .u64 0), .d (.int .u64 0)], .box [.d (.int .u64 0), .d (.int .u64 0)]]) ty64) ?_
    refine oD (.undef) (k_store (vs := [.d (.int .u64 0), .d (.int .u64 0)]) (H' := [.box [.d (.int .u64 a0), .d (.int .u64 a1)], .box [.d (.int .u64 b0), .d (.int .u64 b1)], .box [.d (.int .u64 0), .d (.int .u64 0)], .box [.d (.int .u64 0), .d (.int .u64 0)], .box [.d (.int .u64 0), .d (.int .u64 0)], .box [.d (.int .u64 0), .d (.int .u64 0)]]) 4 0 (hi := ty64)) ?_
    refine oD (.undef) (k_store (vs := [.d (.int .u64 0), .d (.int .u64 0)]) (H' := [.box [.d (.int .u64 a0), .d (.int .u64 a1)], .box [.d (.int .u64 b0), .d (.int .u64 b1)], .box [.d (.int .u64 0), .d (.int .u64 0)], .box [.d (.int .u64 0), .d (.int .u64 0)], .box [.d (.int .u64 0), .d (.int .u64 0)], .box [.d (.int .u64 0), .d (.int .u64 0)]]) 5 0 (hi := ty64)) ?_
    refine oEnd ?_
    refine oSeq ?_
    refine oSR rfl ?_
    refine oP (.d (.int .i64 127)) p_assign ?_
    refine oEnd ?_
    refine bJoin ((uc fun (x46 : Int) => (uc fun (x47 : Int) => (uc fun (x48 : Int) => (fun (x49 : Int) => [(4, .ptr 0 0), (5, .ptr 1 0), (6, .ptr 2 0), (7, .ptr 3 0)]))))) ((uc fun (x46 : Int) => (uc fun (x47 : Int) => (uc fun (x48 : Int) => (fun (x49 : Int) => [.box [.d (.int .u64 0), .d (.int .u64 0)], .box [.d (.int .u64 0), .d (.int .u64 0)], .box [.d (.int .u64 x46), .d (.int .u64 x47)], .box [.d (.int .u64 x48), .d (.int .u64 x49)]]))))) (fun s => s) (fun s => ?_) (fun hj9 => ?_)
    ·obtain ⟨x46, x47, x48, x49⟩ := s
     refine bUc ?_
     refine bUc ?_
     refine bUc ?_
     refine oView (T' := [(4, .ptr 0 0), (5, .ptr 1 0), (6, .ptr 2 0), (7, .ptr 3 0)]) (H' := [.box [.d (.int .u64 0), .d (.int .u64 0)], .box [.d (.int .u64 0), .d (.int .u64 0)], .box [.d (.int .u64 x46), .d (.int .u64 x47)], .box [.d (.int .u64 x48), .d (.int .u64 x49)]]) (h := ?_)
     refine oSeq ?_
     refine oDraw [(0, 2), (1, 3), (2, 4), (3, 4)] rfl ?_
     refine aQ 0 [2] (.agg [.d (.int .u64 x46), .d (.int .u64 x47)]) rfl (k_loadAgg 2 0 (hu := Try.underlying64) (hi := ty64)) ?_
     refine aQ 1 [3] (.agg [.d (.int .u64 x48), .d (.int .u64 x49)]) rfl (k_loadAgg 3 0 (hu := Try.underlying64) (hi := ty64)) ?_
     refine aOne (i := 2) (v := .undef) rfl (hac := Does.acts (k_store (vs := [.d (.int .u64 x46), .d (.int .u64 x47)]) (H' := [.box [.d (.int .u64 x46), .d (.int .u64 x47)], .box [.d (.int .u64 0), .d (.int .u64 0)], .box [.d (.int .u64 x46), .d (.int .u64 x47)], .box [.d (.int .u64 x48), .d (.int .u64 x49)]]) 0 0 (hi := ty64))) (h := ?_)
     refine aOne (i := 3) (v := .undef) rfl (hac := Does.acts (k_store (vs := [.d (.int .u64 x48), .d (.int .u64 x49)]) (H' := [.box [.d (.int .u64 x46), .d (.int .u64 x47)], .box [.d (.int .u64 x48), .d (.int .u64 x49)], .box [.d (.int .u64 x46), .d (.int .u64 x47)], .box [.d (.int .u64 x48), .d (.int .u64 x49)]]) 1 0 (hi := ty64))) (h := ?_)
     refine aDone (h := ?_)
     exact oRet (r0 := (x46, x47, x48, x49)) (rv := .tuple [.agg [.d (.int .u64 x46), .d (.int .u64 x47)], .agg [.d (.int .u64 x48), .d (.int .u64 x49)]]) (B := []) (vs := [.agg [.d (.int .u64 x46), .d (.int .u64 x47)], .agg [.d (.int .u64 x48), .d (.int .u64 x49)]]) (σ := []) (hf := Try.func60) (hrs := rfl) (hres := .cons _ _ _ _ (.agg 4 64 0 0 [.d (.int .u64 x46), .d (.int .u64 x47)] [.d (.int .u64 x46), .d (.int .u64 x47)] _ _ _ _ (by kernel_rfl) (by kernel_rfl) Try.underlying64 (by kernel_rfl) ty64 (by kernel_rfl) (by kernel_rfl)) (.cons _ _ _ _ (.agg 5 64 1 0 [.d (.int .u64 x48), .d (.int .u64 x49)] [.d (.int .u64 x48), .d (.int .u64 x49)] _ _ _ _ (by kernel_rfl) (by kernel_rfl) Try.underlying64 (by kernel_rfl) ty64 (by kernel_rfl) (by kernel_rfl)) .nil)) (hnd := by decide)
    ·refine oBlock ?_
     refine oLoop ?_
     refine oHead [2, 3, 4, 5, 6, 7, 8] [0, 1, 2, 3, 4, 5] (T' := [(2, .ptr 0 0), (3, .ptr 1 0), (4, .ptr 2 0), (5, .ptr 3 0), (6, .ptr 4 0), (7, .ptr 5 0), (8, .d (.int .i64 127))]) (H' := [.box [.d (.int .u64 a0), .d (.int .u64 a1)], .box [.d (.int .u64 b0), .d (.int .u64 b1)], .box [.d (.int .u64 0), .d (.int .u64 0)], .box [.d (.int .u64 0), .d (.int .u64 0)], .box [.d (.int .u64 0), .d (.int .u64 0)], .box [.d (.int .u64 0), .d (.int .u64 0)]]) (hnd := by decide) (h := ?_)
     refine bLoop (body := ref01_Divide_b1 k a0 a1 b0 b1) ((uc fun (i4 : Int) => (uc fun (x56 : Int) => (uc fun (x57 : Int) => (uc fun (x58 : Int) => (fun (x59 : Int) => [(2, .ptr 0 0), (3, .ptr 1 0), (4, .ptr 2 0), (5, .ptr 3 0), (6, .ptr 4 0), (7, .ptr 5 0), (8, .d (.int .i64 i4))])))))) ((uc fun (i4 : Int) => (uc fun (x56 : Int) => (uc fun (x57 : Int) => (uc fun (x58 : Int) => (fun (x59 : Int) => [.box [.d (.int .u64 a0), .d (.int .u64 a1)], .box [.d (.int .u64 b0), .d (.int .u64 b1)], .box [.d (.int .u64 0), .d (.int .u64 0)], .box [.d (.int .u64 0), .d (.int .u64 0)], .box [.d (.int .u64 x56), .d (.int .u64 x57)], .box [.d (.int .u64 x58), .d (.int .u64 x59)]])))))) (fun again hag1 s => ?_) k (127, 0, 0, 0, 0)
     ·unfold ref01_Divide_b1
      obtain ⟨i4, x56, x57, x58, x59⟩ := s
      refine bUc ?_
      refine bUc ?_
      refine bUc ?_
      refine bUc ?_
      refine oView (T' := [(2, .ptr 0 0), (3, .ptr 1 0), (4, .ptr 2 0), (5, .ptr 3 0), (6, .ptr 4 0), (7, .ptr 5 0), (8, .d (.int .i64 i4))]) (H' := [.box [.d (.int .u64 a0), .d (.int .u64 a1)], .box [.d (.int .u64 b0), .d (.int .u64 b1)], .box [.d (.int .u64 0), .d (.int .u64 0)], .box [.d (.int .u64 0), .d (.int .u64 0)], .box [.d (.int .u64 x56), .d (.int .u64 x57)], .box [.d (.int .u64 x58), .d (.int .u64 x59)]]) (h := ?_)
      refine oSeq ?_
      refine oSR rfl ?_
      refine oP (.d (.int .i64 i4)) p_move ?_
      refine oP (.d (.bool (decide (i4 ≥ 0)))) (p_int (k := .i64) (p := i4) (q := 0)) ?_
      refine oEnd ?_
      refine bSplit 34 (h1 := fun hc => ?_) (h2 := fun hc => ?_)
      ·refine oCondT (h := ?_)
       refine oSkip ?_
       refine oSeq ?_
       refine bJoin ((uc fun (x72 : Int) => (uc fun (x73 : Int) => (uc fun (x74 : Int) => (fun (x75 : Int) => [(2, .ptr 0 0), (3, .ptr 1 0), (4, .ptr 2 0), (5, .ptr 3 0), (6, .ptr 4 0), (7, .ptr 5 0), (8, .d (.int .i64 i4))]))))) ((uc fun (x72 : Int) => (uc fun (x73 : Int) => (uc fun (x74 : Int) => (fun (x75 : Int) => [.box [.d (.int .u64 a0), .d (.int .u64 a1)], .box [.d (.int .u64 b0), .d (.int .u64 b1)], .box [.d (.int .u64 0), .d (.int .u64 0)], .box [.d (.int .u64 0), .d (.int .u64 0)], .box [.d (.int .u64 x72), .d (.int .u64 x73)], .box [.d (.int .u64 x74), .d (.int .u64 x75)]]))))) (fun s => s) (fun s => ?_) (fun hj14 => ?_)
       ·obtain ⟨x72, x73, x74, x75⟩ := s
        refine bUc ?_
        refine bUc ?_
        refine bUc ?_
        refine oView (T' := [(2, .ptr 0 0), (3, .ptr 1 0), (4, .ptr 2 0), (5, .ptr 3 0), (6, .ptr 4 0), (7, .ptr 5 0), (8, .d (.int .i64 i4))]) (H' := [.box [.d (.int .u64 a0), .d (.int .u64 a1)], .box [.d (.int .u64 b0), .d (.int .u64 b1)], .box [.d (.int .u64 0), .d (.int .u64 0)], .box [.d (.int .u64 0), .d (.int .u64 0)], .box [.d (.int .u64 x72), .d (.int .u64 x73)], .box [.d (.int .u64 x74), .d (.int .u64 x75)]]) (h := ?_)
        refine oRegion rfl ?_
        refine oP (.d (.int .i64 i4)) p_move ?_
        refine oP (.d (.int .i64 (IntKind.wrap .i64 (i4 - 1)))) (p_int (k := .i64) (p := i4) (q := 1)) ?_
        refine oP (.d (.int .i64 (IntKind.wrap .i64 (i4 - 1)))) p_assign ?_
        refine oEnd ?_
        refine oAgain ?_
        refine oHead [2, 3, 4, 5, 6, 7, 8] [0, 1, 2, 3, 4, 5] (T' := [(2, .ptr 0 0), (3, .ptr 1 0), (4, .ptr 2 0), (5, .ptr 3 0), (6, .ptr 4 0), (7, .ptr 5 0), (8, .d (.int .i64 (IntKind.wrap .i64 (i4 - 1))))]) (H' := [.box [.d (.int .u64 a0), .d (.int .u64 a1)], .box [.d (.int .u64 b0), .d (.int .u64 b1)], .box [.d (.int .u64 0), .d (.int .u64 0)], .box [.d (.int .u64 0), .d (.int .u64 0)], .box [.d (.int .u64 x72), .d (.int .u64 x73)], .box [.d (.int .u64 x74), .d (.int .u64 x75)]]) (hnd := by decide) (h := ?_)
        exact hag1 ((IntKind.wrap .i64 (i4 - 1)), x72, x73, x74, x75)
       ·refine oBlock ?_
        refine oSR rfl ?_
        refine oP (.ptr 0 1) (k_fieldAddr 0 0 (hu := Try.underlying64) (hf := rfl) (hi := ty61)) ?_
        refine oQ (.d (.int .u64 a1)) (k_load 0 1 (hu := Try.underlying61)) ?_
        refine oP (.d (.int .i64 i4)) p_move ?_
        refine oP (.d (.int .i64 (Int.tmod i4 64))) (p_rem (k := .i64) (p := i4) (q := 64) (hq := by decide)) ?_
        refine oP (.d (.int .u64 (IntKind.wrap .u64 (Int.tmod i4 64)))) (p_conv (k := .i64) (p := (Int.tmod i4 64)) (hu1 := Try.underlying3) (hu2 := Try.underlying85)) ?_
        refine bNn (fun h132 => ?_)
        refine oP (.d (.int .u64 (Int.fdiv a1 (2 ^ (min (Int.toNat (IntKind.wrap .u64 (Int.tmod i4 64))) (IntKind.bits .u64)))))) (p_shr (k := .u64) (k2 := .u64) (p := a1) (q := (IntKind.wrap .u64 (Int.tmod i4 64))) (hq := h132)) ?_
        refine oP (.d (.int .u64 (iand .u64 (Int.fdiv a1 (2 ^ (min (Int.toNat (IntKind.wrap .u64 (Int.tmod i4 64))) (IntKind.bits .u64)))) 1))) (p_int (k := .u64) (p := (Int.fdiv a1 (2 ^ (min (Int.toNat (IntKind.wrap .u64 (Int.tmod i4 64))) (IntKind.bits .u64))))) (q := 1)) ?_
        refine oP (.d (.int .u64 (iand .u64 (Int.fdiv a1 (2 ^ (min (Int.toNat (IntKind.wrap .u64 (Int.tmod i4 64))) (IntKind.bits .u64)))) 1))) p_assign ?_
        refine oEnd ?_
        refine oSeq ?_
        refine oSR rfl ?_
        refine oP (.d (.int .i64 i4)) p_move ?_
        refine oP (.d (.bool (decide (i4 ≥ 64)))) (p_int (k := .i64) (p := i4) (q := 64)) ?_
        refine oEnd ?_
        refine bJoin ((fun (bit4 : Int) => [(2, .ptr 0 0), (3, .ptr 1 0), (4, .ptr 2 0), (5, .ptr 3 0), (6, .ptr 4 0), (7, .ptr 5 0), (8, .d (.int .i64 i4)), (9, .d (.int .u64 bit4))])) ((fun (bit4 : Int) => [.box [.d (.int .u64 a0), .d (.int .u64 a1)], .box [.d (.int .u64 b0), .d (.int .u64 b1)], .box [.d (.int .u64 0), .d (.int .u64 0)], .box [.d (.int .u64 0), .d (.int .u64 0)], .box [.d (.int .u64 x56), .d (.int .u64 x57)], .box [.d (.int .u64 x58), .d (.int .u64 x59)]])) (fun s => s) (fun bit4 => ?_) (fun hj15 => ?_)
        ·refine oView (T' := [(2, .ptr 0 0), (3, .ptr 1 0), (4, .ptr 2 0), (5, .ptr 3 0), (6, .ptr 4 0), (7, .ptr 5 0), (8, .d (.int .i64 i4)), (9, .d (.int .u64 bit4))]) (H' := [.box [.d (.int .u64 a0), .d (.int .u64 a1)], .box [.d (.int .u64 b0), .d (.int .u64 b1)], .box [.d (.int .u64 0), .d (.int .u64 0)], .box [.d (.int .u64 0), .d (.int .u64 0)], .box [.d (.int .u64 x56), .d (.int .u64 x57)], .box [.d (.int .u64 x58), .d (.int .u64 x59)]]) (h := ?_)
         refine oSR rfl ?_
         refine oP (.ptr 5 0) (k_fieldAddr 5 0 (hu := Try.underlying64) (hf := rfl) (hi := ty61)) ?_
         refine oQ (.d (.int .u64 x58)) (k_load 5 0 (hu := Try.underlying61)) ?_
         refine oP (.d (.int .u64 (Int.fdiv x58 (2 ^ (min (Int.toNat 63) (IntKind.bits .u64)))))) (p_shr (k := .u64) (k2 := .u64) (p := x58) (q := 63) (hq := by decide)) ?_
         refine oP (.d (.bool ((Int.fdiv x58 (2 ^ (min (Int.toNat 63) (IntKind.bits .u64)))) == 1))) (p_int (k := .u64) (p := (Int.fdiv x58 (2 ^ (min (Int.toNat 63) (IntKind.bits .u64))))) (q := 1)) ?_
         refine oP (.d (.bool ((Int.fdiv x58 (2 ^ (min (Int.toNat 63) (IntKind.bits .u64)))) == 1))) p_assign ?_
         refine oEnd ?_
         refine oSR rfl ?_
         refine oQ (.agg [.d (.int .u64 x58), .d (.int .u64 x59)]) (k_loadAgg 5 0 (hu := Try.underlying64) (hi := ty64)) ?_
         refine bCall (caps := []) (v := (uc fun (r131 : Int) => (fun (r1118 : Int) => (.agg [.d (.int .u64 r131), .d (.int .u64 r1118)] : V)))) (H' := (uc fun (r131 : Int) => (fun (r1118 : Int) => ([.box [.d (.int .u64 a0), .d (.int .u64 a1)], .box [.d (.int .u64 b0), .d (.int .u64 b1)], .box [.d (.int .u64 0), .d (.int .u64 0)], .box [.d (.int .u64 0), .d (.int .u64 0)], .box [.d (.int .u64 x56), .d (.int .u64 x57)], .box [.d (.int .u64 x58), .d (.int .u64 x59)]] : List Blk)))) [] _ (ref01_Twice_goes k x58 x59) (ho := rfl) (hfn := Try.func69) (hb := rfl) (hconv := ConvRs.refl _ _) (hnd := by decide) (hBl := fun _ => (by kernel_rfl)) (hv := fun _ => (by kernel_rfl)) (hH' := fun _ => (by kernel_rfl)) (h := fun r => ?_)
         obtain ⟨r131, r1118⟩ := r
         refine bUc ?_
         refine oD (.undef) (k_store (vs := [.d (.int .u64 r131), .d (.int .u64 r1118)]) (H' := [.box [.d (.int .u64 a0), .d (.int .u64 a1)], .box [.d (.int .u64 b0), .d (.int .u64 b1)], .box [.d (.int .u64 0), .d (.int .u64 0)], .box [.d (.int .u64 0), .d (.int .u64 0)], .box [.d (.int .u64 x56), .d (.int .u64 x57)], .box [.d (.int .u64 r131), .d (.int .u64 r1118)]]) 5 0 (hi := ty64)) ?_
         refine oEnd ?_
         refine oSR rfl ?_
         refine oP (.ptr 5 1) (k_fieldAddr 5 0 (hu := Try.underlying64) (hf := rfl) (hi := ty61)) ?_
         refine oQ (.d (.int .u64 r1118)) (k_load 5 1 (hu := Try.underlying61)) ?_
         refine oP (.d (.int .u64 bit4)) p_move ?_
         refine oP (.d (.int .u64 (ior .u64 r1118 bit4))) (p_int (k := .u64) (p := r1118) (q := bit4)) ?_
         refine oP (.ptr 5 1) (k_fieldAddr 5 0 (hu := Try.underlying64) (hf := rfl) (hi := ty61)) ?_
         refine oD (.undef) (k_store (vs := [.d (.int .u64 (ior .u64 r1118 bit4))]) (H' := [.box [.d (.int .u64 a0), .d (.int .u64 a1)], .box [.d (.int .u64 b0), .d (.int .u64 b1)], .box [.d (.int .u64 0), .d (.int .u64 0)], .box [.d (.int .u64 0), .d (.int .u64 0)], .box [.d (.int .u64 x56), .d (.int .u64 x57)], .box [.d (.int .u64 r131), .d (.int .u64 (ior .u64 r1118 bit4))]]) 5 1 (hi := ty61)) ?_
         refine oEnd ?_
         refine oSR rfl ?_
         refine oQ (.agg [.d (.int .u64 x56), .d (.int .u64 x57)]) (k_loadAgg 4 0 (hu := Try.underlying64) (hi := ty64)) ?_
         refine bCall (caps := []) (v := (uc fun (r132 : Int) => (fun (r1119 : Int) => (.agg [.d (.int .u64 r132), .d (.int .u64 r1119)] : V)))) (H' := (uc fun (r132 : Int) => (fun (r1119 : Int) => ([.box [.d (.int .u64 a0), .d (.int .u64 a1)], .box [.d (.int .u64 b0), .d (.int .u64 b1)], .box [.d (.int .u64 0), .d (.int .u64 0)], .box [.d (.int .u64 0), .d (.int .u64 0)], .box [.d (.int .u64 x56), .d (.int .u64 x57)], .box [.d (.int .u64 r131), .d (.int .u64 (ior .u64 r1118 bit4))]] : List Blk)))) [] _ (ref01_Twice_goes k x56 x57) (ho := rfl) (hfn := Try.func69) (hb := rfl) (hconv := ConvRs.refl _ _) (hnd := by decide) (hBl := fun _ => (by kernel_rfl)) (hv := fun _ => (by kernel_rfl)) (hH' := fun _ => (by kernel_rfl)) (h := fun r => ?_)
         obtain ⟨r132, r1119⟩ := r
         refine bUc ?_
         refine oD (.undef) (k_store (vs := [.d (.int .u64 r132), .d (.int .u64 r1119)]) (H' := [.box [.d (.int .u64 a0), .d (.int .u64 a1)], .box [.d (.int .u64 b0), .d (.int .u64 b1)], .box [.d (.int .u64 0), .d (.int .u64 0)], .box [.d (.int .u64 0), .d (.int .u64 0)], .box [.d (.int .u64 r132), .d (.int .u64 r1119)], .box [.d (.int .u64 r131), .d (.int .u64 (ior .u64 r1118 bit4))]]) 4 0 (hi := ty64)) ?_
         refine oEnd ?_
         refine oSR rfl ?_
         refine oP (.d (.bool ((Int.fdiv x58 (2 ^ (min (Int.toNat 63) (IntKind.bits .u64)))) == 1))) p_move ?_
         refine oP (.d (.bool ((Int.fdiv x58 (2 ^ (min (Int.toNat 63) (IntKind.bits .u64)))) == 1))) p_move ?_
         refine bMeet 5 rfl ((uc fun (x76 : Bool) => (fun (x77 : Int) => [(2, .ptr 0 0), (3, .ptr 1 0), (4, .ptr 2 0), (5, .ptr 3 0), (6, .ptr 4 0), (7, .ptr 5 0), (8, .d (.int .i64 i4)), (72, .d (.bool x76))]))) ((uc fun (x76 : Bool) => (fun (x77 : Int) => [.box [.d (.int .u64 a0), .d (.int .u64 a1)], .box [.d (.int .u64 b0), .d (.int .u64 b1)], .box [.d (.int .u64 0), .d (.int .u64 0)], .box [.d (.int .u64 0), .d (.int .u64 0)], .box [.d (.int .u64 r132), .d (.int .u64 r1119)], .box [.d (.int .u64 r131), .d (.int .u64 x77)]]))) (fun s => s) (fun s => ?_) (fun hj16 => ?_)
         ·obtain ⟨x76, x77⟩ := s
          refine bUc ?_
          refine oView (T' := [(2, .ptr 0 0), (3, .ptr 1 0), (4, .ptr 2 0), (5, .ptr 3 0), (6, .ptr 4 0), (7, .ptr 5 0), (8, .d (.int .i64 i4)), (72, .d (.bool x76))]) (H' := [.box [.d (.int .u64 a0), .d (.int .u64 a1)], .box [.d (.int .u64 b0), .d (.int .u64 b1)], .box [.d (.int .u64 0), .d (.int .u64 0)], .box [.d (.int .u64 0), .d (.int .u64 0)], .box [.d (.int .u64 r132), .d (.int .u64 r1119)], .box [.d (.int .u64 r131), .d (.int .u64 x77)]]) (h := ?_)
          refine oEnd ?_
          refine bSplit 72 (h1 := fun hc => ?_) (h2 := fun hc => ?_)
          ·refine oCondT (h := ?_)
           refine oSR rfl ?_
           refine oQ (.agg [.d (.int .u64 r131), .d (.int .u64 x77)]) (k_loadAgg 5 0 (hu := Try.underlying64) (hi := ty64)) ?_
           refine oQ (.agg [.d (.int .u64 b0), .d (.int .u64 b1)]) (k_loadAgg 1 0 (hu := Try.underlying64) (hi := ty64)) ?_
           refine bCall (caps := []) (v := (u0 ((.agg [.d (.int .u64 ((r131 - b0 - (if x77 < b1 + 0 then 1 else 0)) % 18446744073709551616)), .d (.int .u64 ((x77 - b1 - 0) % 18446744073709551616))] : V)))) (H' := (u0 (([.box [.d (.int .u64 a0), .d (.int .u64 a1)], .box [.d (.int .u64 b0), .d (.int .u64 b1)], .box [.d (.int .u64 0), .d (.int .u64 0)], .box [.d (.int .u64 0), .d (.int .u64 0)], .box [.d (.int .u64 r132), .d (.int .u64 r1119)], .box [.d (.int .u64 r131), .d (.int .u64 x77)]] : List Blk)))) [] _ (ref01_Minus_goes k r131 x77 b0 b1) (ho := rfl) (hfn := Try.func71) (hb := rfl) (hconv := ConvRs.refl _ _) (hnd := by decide) (hBl := fun _ => (by kernel_rfl)) (hv := fun _ => (by kernel_rfl)) (hH' := fun _ => (by kernel_rfl)) (h := fun r => ?_)
           cases r
           refine bU0 ?_
           refine oD (.undef) (k_store (vs := [.d (.int .u64 ((r131 - b0 - (if x77 < b1 + 0 then 1 else 0)) % 18446744073709551616)), .d (.int .u64 ((x77 - b1 - 0) % 18446744073709551616))]) (H' := [.box [.d (.int .u64 a0), .d (.int .u64 a1)], .box [.d (.int .u64 b0), .d (.int .u64 b1)], .box [.d (.int .u64 0), .d (.int .u64 0)], .box [.d (.int .u64 0), .d (.int .u64 0)], .box [.d (.int .u64 r132), .d (.int .u64 r1119)], .box [.d (.int .u64 ((r131 - b0 - (if x77 < b1 + 0 then 1 else 0)) % 18446744073709551616)), .d (.int .u64 ((x77 - b1 - 0) % 18446744073709551616))]]) 5 0 (hi := ty64)) ?_
           refine oEnd ?_
           refine oRegion rfl ?_
           refine oP (.ptr 4 1) (k_fieldAddr 4 0 (hu := Try.underlying64) (hf := rfl) (hi := ty61)) ?_
           refine oQ (.d (.int .u64 r1119)) (k_load 4 1 (hu := Try.underlying61)) ?_
           refine oP (.d (.int .u64 (ior .u64 r1119 1))) (p_int (k := .u64) (p := r1119) (q := 1)) ?_
           refine oP (.ptr 4 1) (k_fieldAddr 4 0 (hu := Try.underlying64) (hf := rfl) (hi := ty61)) ?_
           refine oD (.undef) (k_store (vs := [.d (.int .u64 (ior .u64 r1119 1))]) (H' := [.box [.d (.int .u64 a0), .d (.int .u64 a1)], .box [.d (.int .u64 b0), .d (.int .u64 b1)], .box [.d (.int .u64 0), .d (.int .u64 0)], .box [.d (.int .u64 0), .d (.int .u64 0)], .box [.d (.int .u64 r132), .d (.int .u64 (ior .u64 r1119 1))], .box [.d (.int .u64 ((r131 - b0 - (if x77 < b1 + 0 then 1 else 0)) % 18446744073709551616)), .d (.int .u64 ((x77 - b1 - 0) % 18446744073709551616))]]) 4 1 (hi := ty61)) ?_
           refine oEnd ?_
           refine oBlk ?_
           refine oHead [2, 3, 4, 5, 6, 7, 8] [0, 1, 2, 3, 4, 5] (T' := [(2, .ptr 0 0), (3, .ptr 1 0), (4, .ptr 2 0), (5, .ptr 3 0), (6, .ptr 4 0), (7, .ptr 5 0), (8, .d (.int .i64 i4))]) (H' := [.box [.d (.int .u64 a0), .d (.int .u64 a1)], .box [.d (.int .u64 b0), .d (.int .u64 b1)], .box [.d (.int .u64 0), .d (.int .u64 0)], .box [.d (.int .u64 0), .d (.int .u64 0)], .box [.d (.int .u64 r132), .d (.int .u64 (ior .u64 r1119 1))], .box [.d (.int .u64 ((r131 - b0 - (if x77 < b1 + 0 then 1 else 0)) % 18446744073709551616)), .d (.int .u64 ((x77 - b1 - 0) % 18446744073709551616))]]) (hnd := by decide) (h := ?_)
           exact hj14 (r132, (ior .u64 r1119 1), ((r131 - b0 - (if x77 < b1 + 0 then 1 else 0)) % 18446744073709551616), ((x77 - b1 - 0) % 18446744073709551616))
          ·refine oCondF (h := ?_)
           refine oSkip ?_
           refine oBlk ?_
           refine oHead [2, 3, 4, 5, 6, 7, 8] [0, 1, 2, 3, 4, 5] (T' := [(2, .ptr 0 0), (3, .ptr 1 0), (4, .ptr 2 0), (5, .ptr 3 0), (6, .ptr 4 0), (7, .ptr 5 0), (8, .d (.int .i64 i4))]) (H' := [.box [.d (.int .u64 a0), .d (.int .u64 a1)], .box [.d (.int .u64 b0), .d (.int .u64 b1)], .box [.d (.int .u64 0), .d (.int .u64 0)], .box [.d (.int .u64 0), .d (.int .u64 0)], .box [.d (.int .u64 r132), .d (.int .u64 r1119)], .box [.d (.int .u64 r131), .d (.int .u64 x77)]]) (hnd := by decide) (h := ?_)
           exact hj14 (r132, r1119, r131, x77)
         ·refine bSplit 67 (h1 := fun hc => ?_) (h2 := fun hc => ?_)
          ·refine oNot (h := ?_)
           refine oNot (h := ?_)
           refine oNot (h := ?_)
           refine oNot (h := ?_)
           refine oP (.d (.bool true)) (p_pick (b := true)) ?_
           refine oHead [2, 3, 4, 5, 6, 7, 8, 72] [0, 1, 2, 3, 4, 5] (T' := [(2, .ptr 0 0), (3, .ptr 1 0), (4, .ptr 2 0), (5, .ptr 3 0), (6, .ptr 4 0), (7, .ptr 5 0), (8, .d (.int .i64 i4)), (72, .d (.bool true))]) (H' := [.box [.d (.int .u64 a0), .d (.int .u64 a1)], .box [.d (.int .u64 b0), .d (.int .u64 b1)], .box [.d (.int .u64 0), .d (.int .u64 0)], .box [.d (.int .u64 0), .d (.int .u64 0)], .box [.d (.int .u64 r132), .d (.int .u64 r1119)], .box [.d (.int .u64 r131), .d (.int .u64 (ior .u64 r1118 bit4))]]) (hnd := by decide) (h := ?_)
           exact hj16 (true, (ior .u64 r1118 bit4))
          ·refine oQ (.agg [.d (.int .u64 r131), .d (.int .u64 (ior .u64 r1118 bit4))]) (k_loadAgg 5 0 (hu := Try.underlying64) (hi := ty64)) ?_
           refine oQ (.agg [.d (.int .u64 b0), .d (.int .u64 b1)]) (k_loadAgg 1 0 (hu := Try.underlying64) (hi := ty64)) ?_
           refine bCall (caps := []) (v := (fun (r134 : Int) => (.d (.int .i64 r134) : V))) (H' := (fun (r134 : Int) => ([.box [.d (.int .u64 a0), .d (.int .u64 a1)], .box [.d (.int .u64 b0), .d (.int .u64 b1)], .box [.d (.int .u64 0), .d (.int .u64 0)], .box [.d (.int .u64 0), .d (.int .u64 0)], .box [.d (.int .u64 r132), .d (.int .u64 r1119)], .box [.d (.int .u64 r131), .d (.int .u64 (ior .u64 r1118 bit4))]] : List Blk))) [] _ (ref01_Order_goes k r131 (ior .u64 r1118 bit4) b0 b1) (ho := rfl) (hfn := Try.func70) (hb := rfl) (hconv := ConvRs.refl _ _) (hnd := by decide) (hBl := fun _ => (by kernel_rfl)) (hv := fun _ => (by kernel_rfl)) (hH' := fun _ => (by kernel_rfl)) (h := fun r134 => ?_)
           refine oP (.d (.bool (decide (r134 ≥ 0)))) (p_int (k := .i64) (p := r134) (q := 0)) ?_
           refine oP (.d (.bool (decide (r134 ≥ 0)))) (p_pick (b := false)) ?_
           refine oHead [2, 3, 4, 5, 6, 7, 8, 72] [0, 1, 2, 3, 4, 5] (T' := [(2, .ptr 0 0), (3, .ptr 1 0), (4, .ptr 2 0), (5, .ptr 3 0), (6, .ptr 4 0), (7, .ptr 5 0), (8, .d (.int .i64 i4)), (72, .d (.bool (decide (r134 ≥ 0))))]) (H' := [.box [.d (.int .u64 a0), .d (.int .u64 a1)], .box [.d (.int .u64 b0), .d (.int .u64 b1)], .box [.d (.int .u64 0), .d (.int .u64 0)], .box [.d (.int .u64 0), .d (.int .u64 0)], .box [.d (.int .u64 r132), .d (.int .u64 r1119)], .box [.d (.int .u64 r131), .d (.int .u64 (ior .u64 r1118 bit4))]]) (hnd := by decide) (h := ?_)
           exact hj16 ((decide (r134 ≥ 0)), (ior .u64 r1118 bit4))
        ·refine bSplit 45 (h1 := fun hc => ?_) (h2 := fun hc => ?_)
         ·refine oCondT (h := ?_)
          refine oRegion rfl ?_
          refine oP (.ptr 0 0) (k_fieldAddr 0 0 (hu := Try.underlying64) (hf := rfl) (hi := ty61)) ?_
          refine oQ (.d (.int .u64 a0)) (k_load 0 0 (hu := Try.underlying61)) ?_
          refine oP (.d (.int .i64 i4)) p_move ?_
          refine oP (.d (.int .i64 (IntKind.wrap .i64 (i4 - 64)))) (p_int (k := .i64) (p := i4) (q := 64)) ?_
          refine oP (.d (.int .u64 (IntKind.wrap .u64 (IntKind.wrap .i64 (i4 - 64))))) (p_conv (k := .i64) (p := (IntKind.wrap .i64 (i4 - 64))) (hu1 := Try.underlying3) (hu2 := Try.underlying85)) ?_
          refine bNn (fun h134 => ?_)
          refine oP (.d (.int .u64 (Int.fdiv a0 (2 ^ (min (Int.toNat (IntKind.wrap .u64 (IntKind.wrap .i64 (i4 - 64)))) (IntKind.bits .u64)))))) (p_shr (k := .u64) (k2 := .u64) (p := a0) (q := (IntKind.wrap .u64 (IntKind.wrap .i64 (i4 - 64)))) (hq := h134)) ?_
          refine oP (.d (.int .u64 (iand .u64 (Int.fdiv a0 (2 ^ (min (Int.toNat (IntKind.wrap .u64 (IntKind.wrap .i64 (i4 - 64)))) (IntKind.bits .u64)))) 1))) (p_int (k := .u64) (p := (Int.fdiv a0 (2 ^ (min (Int.toNat (IntKind.wrap .u64 (IntKind.wrap .i64 (i4 - 64)))) (IntKind.bits .u64))))) (q := 1)) ?_
          refine oP (.d (.int .u64 (iand .u64 (Int.fdiv a0 (2 ^ (min (Int.toNat (IntKind.wrap .u64 (IntKind.wrap .i64 (i4 - 64)))) (IntKind.bits .u64)))) 1))) p_assign ?_
          refine oEnd ?_
          refine oHead [2, 3, 4, 5, 6, 7, 8, 9] [0, 1, 2, 3, 4, 5] (T' := [(2, .ptr 0 0), (3, .ptr 1 0), (4, .ptr 2 0), (5, .ptr 3 0), (6, .ptr 4 0), (7, .ptr 5 0), (8, .d (.int .i64 i4)), (9, .d (.int .u64 (iand .u64 (Int.fdiv a0 (2 ^ (min (Int.toNat (IntKind.wrap .u64 (IntKind.wrap .i64 (i4 - 64)))) (IntKind.bits .u64)))) 1)))]) (H' := [.box [.d (.int .u64 a0), .d (.int .u64 a1)], .box [.d (.int .u64 b0), .d (.int .u64 b1)], .box [.d (.int .u64 0), .d (.int .u64 0)], .box [.d (.int .u64 0), .d (.int .u64 0)], .box [.d (.int .u64 x56), .d (.int .u64 x57)], .box [.d (.int .u64 x58), .d (.int .u64 x59)]]) (hnd := by decide) (h := ?_)
          exact hj15 (iand .u64 (Int.fdiv a0 (2 ^ (min (Int.toNat (IntKind.wrap .u64 (IntKind.wrap .i64 (i4 - 64)))) (IntKind.bits .u64)))) 1)
         ·refine oCondF (h := ?_)
          refine oSkip ?_
          refine oHead [2, 3, 4, 5, 6, 7, 8, 9] [0, 1, 2, 3, 4, 5] (T' := [(2, .ptr 0 0), (3, .ptr 1 0), (4, .ptr 2 0), (5, .ptr 3 0), (6, .ptr 4 0), (7, .ptr 5 0), (8, .d (.int .i64 i4)), (9, .d (.int .u64 (iand .u64 (Int.fdiv a1 (2 ^ (min (Int.toNat (IntKind.wrap .u64 (Int.tmod i4 64))) (IntKind.bits .u64)))) 1)))]) (H' := [.box [.d (.int .u64 a0), .d (.int .u64 a1)], .box [.d (.int .u64 b0), .d (.int .u64 b1)], .box [.d (.int .u64 0), .d (.int .u64 0)], .box [.d (.int .u64 0), .d (.int .u64 0)], .box [.d (.int .u64 x56), .d (.int .u64 x57)], .box [.d (.int .u64 x58), .d (.int .u64 x59)]]) (hnd := by decide) (h := ?_)
          exact hj15 (iand .u64 (Int.fdiv a1 (2 ^ (min (Int.toNat (IntKind.wrap .u64 (Int.tmod i4 64))) (IntKind.bits .u64)))) 1)
      ·refine oCondF (h := ?_)
       refine oExit rfl ?_
       refine oHead [4, 5, 6, 7] [2, 3, 4, 5] (T' := [(4, .ptr 0 0), (5, .ptr 1 0), (6, .ptr 2 0), (7, .ptr 3 0)]) (H' := [.box [.d (.int .u64 0), .d (.int .u64 0)], .box [.d (.int .u64 0), .d (.int .u64 0)], .box [.d (.int .u64 x56), .d (.int .u64 x57)], .box [.d (.int .u64 x58), .d (.int .u64 x59)]]) (hnd := by decide) (h := ?_)
       exact hj9 (x56, x57, x58, x59)
  ·refine bPickF 14 (fun c => F (c && (b0 == 0))) (h1 := fun hc => ?_) (h2 := fun hc => ?_)
   ·refine oP (.ptr 1 0) (k_fieldAddr 1 0 (hu := Try.underlying64) (hf := rfl) (hi := ty61)) ?_
    refine oQ (.d (.int .u64 b0)) (k_load 1 0 (hu := Try.underlying61)) ?_
    refine oP (.d (.bool (b0 == 0))) (p_int (k := .u64) (p := b0) (q := 0)) ?_
    refine oP (.d (.bool (b0 == 0))) (p_pick (b := true)) ?_
    refine oHead [2, 3, 4, 5, 18] [0, 1, 2, 3] (T' := [(2, .ptr 0 0), (3, .ptr 1 0), (4, .ptr 2 0), (5, .ptr 3 0), (18, .d (.bool (b0 == 0)))]) (H' := [.box [.d (.int .u64 a0), .d (.int .u64 a1)], .box [.d (.int .u64 b0), .d (.int .u64 b1)], .box [.d (.int .u64 0), .d (.int .u64 0)], .box [.d (.int .u64 0), .d (.int .u64 0)]]) (hnd := by decide) (h := ?_)
    exact hj5 (b0 == 0)
   ·refine oNot (h := ?_)
    refine oNot (h := ?_)
    refine oNot (h := ?_)
    refine oP (.d (.bool false)) (p_pick (b := false)) ?_
    refine oHead [2, 3, 4, 5, 18] [0, 1, 2, 3] (T' := [(2, .ptr 0 0), (3, .ptr 1 0), (4, .ptr 2 0), (5, .ptr 3 0), (18, .d (.bool false))]) (H' := [.box [.d (.int .u64 a0), .d (.int .u64 a1)], .box [.d (.int .u64 b0), .d (.int .u64 b1)], .box [.d (.int .u64 0), .d (.int .u64 0)], .box [.d (.int .u64 0), .d (.int .u64 0)]]) (hnd := by decide) (h := ?_)
    exact hj5 false

/-- awardingbody/awardingbodyref01.Divisor -/
def ref01_Divisor_b1 (k : Nat) (again : Int × Int × Int × Int → Option (Int × Int)) : Int × Int × Int × Int → Option (Int × Int) := uc fun x20 => uc fun x21 => uc fun x22 => fun x23 => bif (!((x22 == 0) && ((x23 == 0) && true))) then Option.bind (ref01_Divide k x20 x21 x22 x23) (uc fun r176 => uc fun r186 => uc fun r196 => fun r1106 => again (x22, x23, r196, r1106)) else some (x20, x21)
def ref01_Divisor (k : Nat) (a0 : Int) (a1 : Int) (b0 : Int) (b1 : Int) : Option (Int × Int) := Option.bind (gloop (ref01_Divisor_b1 k) k (a0, a1, b0, b1) : Option (Int × Int)) (uc fun x18 => fun x19 => some (x18, x19))
def ref01_Divisor_E (a0 : Int) (a1 : Int) (b0 : Int) (b1 : Int) : Int × Int → V × List Blk := uc fun r1 => fun r11 => (.agg [.d (.int .u64 r1), .d (.int .u64 r11)], [])
theorem ref01_Divisor_goes (k : Nat) (a0 : Int) (a1 : Int) (b0 : Int) (b1 : Int) : RunsO Try.prog 59 [.agg [.d (.int .u64 a0), .d (.int .u64 a1)], .agg [.d (.int .u64 b0), .d (.int .u64 b1)]] [] (ref01_Divisor_E a0 a1 b0 b1) (ref01_Divisor k a0 a1 b0 b1) := by
  refine RunsO.of_goes (N := 19) (m := 0) (T := [(0, .agg [.d (.int .u64 a0), .d (.int .u64 a1)]), (1, .agg [.d (.int .u64 b0), .d (.int .u64 b1)])]) Try.func59 rfl rfl (h := ?_)
  unfold ref01_Divisor
  refine bStart ?_
  refine oSR rfl ?_
  refine oD (.ptr 0 0) (k_box (H' := [.box [.d (.int .u64 a0), .d (.int .u64 a1)]]) (cells := [.d (.int .u64 a0), .d (.int .u64 a1)])) ?_
  refine oD (.ptr 1 0) (k_box (H' := [.box [.d (.int .u64 a0), .d (.int .u64 a1)], .box [.d (.int .u64 b0), .d (.int .u64 b1)]]) (cells := [.d (.int .u64 b0), .d (.int .u64 b1)])) ?_
  refine oD (.ptr 2 0) (k_alloc (H' := [.box [.d (.int .u64 a0), .d (.int .u64 a1)], .box [.d (.int .u64 b0), .d (.int .u64 b1)], .box [.d (.int .u64 0), .d (.int .u64 0)]]) ty64) ?_
  refine oEnd ?_
  refine oSeq ?_
  refine bJoin ((uc fun (x18 : Int) => (fun (x19 : Int) => [(2, .ptr 0 0), (4, .ptr 1 0)]))) ((uc fun (x18 : Int) => (fun (x19 : Int) => [.box [.d (.int .u64 x18), .d (.int .u64 x19)], .box [.d (.int .u64 0), .d (.int .u64 0)]]))) (fun s => s) (fun s => ?_) (fun hj2 => ?_)
  ·obtain ⟨x18, x19⟩ := s
   refine bUc ?_
   refine oView (T' := [(2, .ptr 0 0), (4, .ptr 1 0)]) (H' := [.box [.d (.int .u64 x18), .d (.int .u64 x19)], .box [.d (.int .u64 0), .d (.int .u64 0)]]) (h := ?_)
   refine oSR rfl ?_
   refine oQ (.agg [.d (.int .u64 x18), .d (.int .u64 x19)]) (k_loadAgg 0 0 (hu := Try.underlying64) (hi := ty64)) ?_
   refine oD (.undef) (k_store (vs := [.d (.int .u64 x18), .d (.int .u64 x19)]) (H' := [.box [.d (.int .u64 x18), .d (.int .u64 x19)], .box [.d (.int .u64 x18), .d (.int .u64 x19)]]) 1 0 (hi := ty64)) ?_
   refine oEnd ?_
   exact oRet (r0 := (x18, x19)) (rv := .agg [.d (.int .u64 x18), .d (.int .u64 x19)]) (B := []) (vs := [.agg [.d (.int .u64 x18), .d (.int .u64 x19)]]) (σ := []) (hf := Try.func59) (hrs := rfl) (hres := .cons _ _ _ _ (.agg 4 64 1 0 [.d (.int .u64 x18), .d (.int .u64 x19)] [.d (.int .u64 x18), .d (.int .u64 x19)] _ _ _ _ (by kernel_rfl) (by kernel_rfl) Try.underlying64 (by kernel_rfl) ty64 (by kernel_rfl) (by kernel_rfl)) .nil) (hnd := by decide)
  ·refine oBlock ?_
   refine oLoop ?_
   refine oHead [2, 3, 4] [0, 1, 2] (T' := [(2, .ptr 0 0), (3, .ptr 1 0), (4, .ptr 2 0)]) (H' := [.box [.d (.int .u64 a0), .d (.int .u64 a1)], .box [.d (.int .u64 b0), .d (.int .u64 b1)], .box [.d (.int .u64 0), .d (.int .u64 0)]]) (hnd := by decide) (h := ?_)
   refine bLoop (body := ref01_Divisor_b1 k) ((uc fun (x20 : Int) => (uc fun (x21 : Int) => (uc fun (x22 : Int) => (fun (x23 : Int) => [(2, .ptr 0 0), (3, .ptr 1 0), (4, .ptr 2 0)]))))) ((uc fun (x20 : Int) => (uc fun (x21 : Int) => (uc fun (x22 : Int) => (fun (x23 : Int) => [.box [.d (.int .u64 x20), .d (.int .u64 x21)], .box [.d (.int .u64 x22), .d (.int .u64 x23)], .box [.d (.int .u64 0), .d (.int .u64 0)]]))))) (fun again hag1 s => ?_) k (a0, a1, b0, b1)
   ·unfold ref01_Divisor_b1
    obtain ⟨x20, x21, x22, x23⟩ := s
    refine bUc ?_
    refine bUc ?_
    refine bUc ?_
    refine oView (T' := [(2, .ptr 0 0), (3, .ptr 1 0), (4, .ptr 2 0)]) (H' := [.box [.d (.int .u64 x20), .d (.int .u64 x21)], .box [.d (.int .u64 x22), .d (.int .u64 x23)], .box [.d (.int .u64 0), .d (.int .u64 0)]]) (h := ?_)
    refine oSeq ?_
    refine oSR rfl ?_
    refine oQ (.agg [.d (.int .u64 x22), .d (.int .u64 x23)]) (k_loadAgg 1 0 (hu := Try.underlying64) (hi := ty64)) ?_
    refine oP (.agg [.d (.int .u64 0), .d (.int .u64 0)]) (p_build bld64) ?_
    refine oP (.d (.bool (!((x22 == 0) && ((x23 == 0) && true))))) (k_neAgg (hg := Try.eqGuardType64) (h := EqV.struct 1 64 [.d (.int .u64 x22), .d (.int .u64 x23)] [.d (.int .u64 0), .d (.int .u64 0)] _ ((x22 == 0) && ((x23 == 0) && true)) Try.underlying64 Try.stoodInHeld64 (EqF.one 1 1 _ _ _ _ _ _ _ (x22 == 0) ((x23 == 0) && true) (by kernel_rfl) Try.underlying61 (by kernel_rfl) (by kernel_rfl) (by kernel_rfl) (by kernel_rfl) (EqV.int 61 .u64 .u64 x22 0 Try.underlying61) (EqF.one 1 1 _ _ _ _ _ _ _ (x23 == 0) true (by kernel_rfl) Try.underlying61 (by kernel_rfl) (by kernel_rfl) (by kernel_rfl) (by kernel_rfl) (EqV.int 61 .u64 .u64 x23 0 Try.underlying61) (EqF.nil 1 _ _))))) ?_
    refine oEnd ?_
    refine bSplit 9 (h1 := fun hc => ?_) (h2 := fun hc => ?_)
    ·refine oCondT (h := ?_)
     refine oSkip ?_
     refine oBlock ?_
     refine oSR rfl ?_
     refine oQ (.agg [.d (.int .u64 x20), .d (.int .u64 x21)]) (k_loadAgg 0 0 (hu := Try.underlying64) (hi := ty64)) ?_
     refine oQ (.agg [.d (.int .u64 x22), .d (.int .u64 x23)]) (k_loadAgg 1 0 (hu := Try.underlying64) (hi := ty64)) ?_
     refine bCall (caps := []) (v := (uc fun (r176 : Int) => (uc fun (r186 : Int) => (uc fun (r196 : Int) => (fun (r1106 : Int) => (.tuple [.agg [.d (.int .u64 r176), .d (.int .u64 r186)], .agg [.d (.int .u64 r196), .d (.int .u64 r1106)]] : V)))))) (H' := (uc fun (r176 : Int) => (uc fun (r186 : Int) => (uc fun (r196 : Int) => (fun (r1106 : Int) => ([.box [.d (.int .u64 x20), .d (.int .u64 x21)], .box [.d (.int .u64 x22), .d (.int .u64 x23)], .box [.d (.int .u64 0), .d (.int .u64 0)]] : List Blk)))))) [] _ (ref01_Divide_goes k x20 x21 x22 x23) (ho := rfl) (hfn := Try.func60) (hb := rfl) (hconv := ConvRs.refl _ _) (hnd := by decide) (hBl := fun _ => (by kernel_rfl)) (hv := fun _ => (by kernel_rfl)) (hH' := fun _ => (by kernel_rfl)) (h := fun r => ?_)
     obtain ⟨r176, r186, r196, r1106⟩ := r
     refine bUc ?_
     refine bUc ?_
     refine bUc ?_
     refine oP (.tuple [.agg [.d (.int .u64 r176), .d (.int .u64 r186)], .agg [.d (.int .u64 r196), .d (.int .u64 r1106)]]) p_move ?_
     refine oP (.agg [.d (.int .u64 r176), .d (.int .u64 r186)]) k_extract ?_
     refine oP (.agg [.d (.int .u64 r196), .d (.int .u64 r1106)]) k_extract ?_
     refine oD (.ptr 3 0) (k_alloc (H' := [.box [.d (.int .u64 x20), .d (.int .u64 x21)], .box [.d (.int .u64 x22), .d (.int .u64 x23)], .box [.d (.int .u64 0), .d (.int .u64 0)], .box [.d (.int .u64 0), .d (.int .u64 0)]]) ty64) ?_
     refine oD (.ptr 4 0) (k_alloc (H' := [.box [.d (.int .u64 x20), .d (.int .u64 x21)], .box [.d (.int .u64 x22), .d (.int .u64 x23)], .box [.d (.int .u64 0), .d (.int .u64 0)], .box [.d (.int .u64 0), .d (.int .u64 0)], .box [.d (.int .u64 0), .d (.int .u64 0)]]) ty64) ?_
     refine oD (.undef) (k_store (vs := [.d (.int .u64 r176), .d (.int .u64 r186)]) (H' := [.box [.d (.int .u64 x20), .d (.int .u64 x21)], .box [.d (.int .u64 x22), .d (.int .u64 x23)], .box [.d (.int .u64 0), .d (.int .u64 0)], .box [.d (.int .u64 r176), .d (.int .u64 r186)], .box [.d (.int .u64 0), .d (.int .u64 0)]]) 3 0 (hi := ty64)) ?_
     refine oD (.undef) (k_store (vs := [.d (.int .u64 r196), .d (.int .u64 r1106)]) (H' := [.box [.d (.int .u64 x20), .d (.int .u64 x21)], .box [.d (.int .u64 x22), .d (.int .u64 x23)], .box [.d (.int .u64 0), .d (.int .u64 0)], .box [.d (.int .u64 r176), .d (.int .u64 r186)], .box [.d (.int .u64 r196), .d (.int .u64 r1106)]]) 4 0 (hi := ty64)) ?_
     refine oEnd ?_
     refine oDraw [(0, 2), (1, 3), (2, 4), (3, 4), (4, 4)] rfl ?_
     refine aQ 0 [1] (.agg [.d (.int .u64 x22), .d (.int .u64 x23)]) rfl (k_loadAgg 1 0 (hu := Try.underlying64) (hi := ty64)) ?_
     refine aQ 1 [4] (.agg [.d (.int .u64 r196), .d (.int .u64 r1106)]) rfl (k_loadAgg 4 0 (hu := Try.underlying64) (hi := ty64)) ?_
     refine aOne (i := 2) (v := .undef) rfl (hac := Does.acts (k_store (vs := [.d (.int .u64 x22), .d (.int .u64 x23)]) (H' := [.box [.d (.int .u64 x22), .d (.int .u64 x23)], .box [.d (.int .u64 x22), .d (.int .u64 x23)], .box [.d (.int .u64 0), .d (.int .u64 0)], .box [.d (.int .u64 r176), .d (.int .u64 r186)], .box [.d (.int .u64 r196), .d (.int .u64 r1106)]]) 0 0 (hi := ty64))) (h := ?_)
     refine aOne (i := 3) (v := .undef) rfl (hac := Does.acts (k_store (vs := [.d (.int .u64 r196), .d (.int .u64 r1106)]) (H' := [.box [.d (.int .u64 x22), .d (.int .u64 x23)], .box [.d (.int .u64 r196), .d (.int .u64 r1106)], .box [.d (.int .u64 0), .d (.int .u64 0)], .box [.d (.int .u64 r176), .d (.int .u64 r186)], .box [.d (.int .u64 r196), .d (.int .u64 r1106)]]) 1 0 (hi := ty64))) (h := ?_)
     refine aDone (h := ?_)
     refine oBlk ?_
     refine oAgain ?_
     refine oHead [2, 3, 4] [0, 1, 2] (T' := [(2, .ptr 0 0), (3, .ptr 1 0), (4, .ptr 2 0)]) (H' := [.box [.d (.int .u64 x22), .d (.int .u64 x23)], .box [.d (.int .u64 r196), .d (.int .u64 r1106)], .box [.d (.int .u64 0), .d (.int .u64 0)]]) (hnd := by decide) (h := ?_)
     exact hag1 (x22, x23, r196, r1106)
    ·refine oCondF (h := ?_)
     refine oExit rfl ?_
     refine oHead [2, 4] [0, 2] (T' := [(2, .ptr 0 0), (4, .ptr 1 0)]) (H' := [.box [.d (.int .u64 x20), .d (.int .u64 x21)], .box [.d (.int .u64 0), .d (.int .u64 0)]]) (hnd := by decide) (h := ?_)
     exact hj2 (x20, x21)

end Go.VM
