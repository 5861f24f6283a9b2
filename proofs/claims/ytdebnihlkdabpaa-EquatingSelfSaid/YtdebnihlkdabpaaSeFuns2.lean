/- Plain functions that answer as the program's functions do, and the proof that they do. -/
import Derived.Test.YtdebnihlkdabpaaProg
import Derived.KernelRfl
import Derived.Test.YtdebnihlkdabpaaEngYM
import Derived.Test.YtdebnihlkdabpaaSeFacts
import Derived.Test.YtdebnihlkdabpaaSeFuns0
import Derived.Test.YtdebnihlkdabpaaSeFuns1
namespace Go.VM
open Go.Proofs
set_option linter.unusedVariables false
set_option linter.unusedSimpArgs false
set_option maxRecDepth 100000
/-- awardingbody/ratio.Mul -/
def ratio_Mul (k : Nat) (a0 : Int) (a1 : Int) (b0 : Int) (b1 : Int) : Option (Int × Int × Int) := Option.bind (ratio_Valid k a0 a1) (fun r124 => Option.bind (bif (!r124) then some true else Option.bind (ratio_Valid k b0 b1) (fun r127 => some (!r127)) : Option (Bool)) (fun x1 => bif x1 then some (0, 0, 1) else Option.bind (ratio_abs k a0) (fun r1 => Option.bind (ratio_gcd k r1 (IntKind.wrap .u64 b1)) (fun r11 => Option.bind (ratio_abs k b0) (fun r13 => Option.bind (ratio_gcd k r13 (IntKind.wrap .u64 a1)) (fun r14 => gnz (IntKind.wrap .i64 r11) (Option.bind (ratio_abs k b0) (fun r15 => gnz r14 (Option.bind (ratio_times k (IntKind.wrap .i64 (Int.tdiv a0 (IntKind.wrap .i64 r11))) (IntKind.wrap .u64 (Int.tdiv r15 r14))) (uc fun r122 => fun r131 => gnz r14 (gnz r11 (Option.bind (math_bits_Mul64 k (IntKind.wrap .u64 (Int.tdiv (IntKind.wrap .u64 a1) r14)) (IntKind.wrap .u64 (Int.tdiv (IntKind.wrap .u64 b1) r11))) (uc fun r16 => fun r111 => bif (r16 != 0) then some (0, 0, 6) else Option.bind (ratio_lowest k (!((decide ((IntKind.wrap .i64 (Int.tdiv a0 (IntKind.wrap .i64 r11))) < 0)) == (decide (b0 < 0)))) r122 r131 r111) (uc fun r126 => uc fun r142 => fun r152 => some (r126, r142, r152)))))))))))))))
def ratio_Mul_E (a0 : Int) (a1 : Int) (b0 : Int) (b1 : Int) : Int × Int × Int → V × List Blk := uc fun r17 => uc fun r18 => fun r19 => (.tuple [.agg [.d (.int .i64 r17), .d (.int .i64 r18)], .d (.int .i64 r19)], [])
theorem ratio_Mul_goes (k : Nat) (a0 : Int) (a1 : Int) (b0 : Int) (b1 : Int) : RunsO Try.prog 74 [.agg [.d (.int .i64 a0), .d (.int .i64 a1)], .agg [.d (.int .i64 b0), .d (.int .i64 b1)]] [] (ratio_Mul_E a0 a1 b0 b1) (ratio_Mul k a0 a1 b0 b1) := by
  refine RunsO.of_goes (N := 74) (m := 0) (T := [(0, .agg [.d (.int .i64 a0), .d (.int .i64 a1)]), (1, .agg [.d (.int .i64 b0), .d (.int .i64 b1)])]) Try.func74 rfl rfl (h := ?_)
  unfold ratio_Mul
  refine bStart ?_
  refine oSR rfl ?_
  refine oD (.ptr 0 0) (k_box (H' := [.box [.d (.int .i64 a0), .d (.int .i64 a1)]]) (cells := [.d (.int .i64 a0), .d (.int .i64 a1)])) ?_
  refine oD (.ptr 1 0) (k_box (H' := [.box [.d (.int .i64 a0), .d (.int .i64 a1)], .box [.d (.int .i64 b0), .d (.int .i64 b1)]]) (cells := [.d (.int .i64 b0), .d (.int .i64 b1)])) ?_
  refine oD (.ptr 2 0) (k_alloc (H' := [.box [.d (.int .i64 a0), .d (.int .i64 a1)], .box [.d (.int .i64 b0), .d (.int .i64 b1)], .box [.d (.int .i64 0), .d (.int .i64 0)]]) ty38) ?_
  refine oP (.d (.int .i64 0)) p_assign ?_
  refine oEnd ?_
  refine oSeq ?_
  refine oSR rfl ?_
  refine oQ (.agg [.d (.int .i64 a0), .d (.int .i64 a1)]) (k_loadAgg 0 0 (hu := Try.underlying38) (hi := ty38)) ?_
  refine bCall (caps := []) (v := (fun (r124 : Bool) => (.d (.bool r124) : V))) (H' := (fun (r124 : Bool) => ([.box [.d (.int .i64 a0), .d (.int .i64 a1)], .box [.d (.int .i64 b0), .d (.int .i64 b1)], .box [.d (.int .i64 0), .d (.int .i64 0)]] : List Blk))) [] _ (ratio_Valid_goes k a0 a1) (ho := rfl) (hfn := Try.func39) (hb := rfl) (hconv := ConvRs.refl _ _) (hnd := by decide) (hBl := fun _ => (by kernel_rfl)) (hv := fun _ => (by kernel_rfl)) (hH' := fun _ => (by kernel_rfl)) (h := fun r124 => ?_)
  refine oP (.d (.bool (!r124))) (p_not (p := r124)) ?_
  refine oP (.d (.bool (!r124))) p_move ?_
  refine bMeet 4 rfl ((fun (x1 : Bool) => [(2, .ptr 0 0), (3, .ptr 1 0), (4, .ptr 2 0), (18, .d (.bool x1))])) ((fun (x1 : Bool) => [.box [.d (.int .i64 a0), .d (.int .i64 a1)], .box [.d (.int .i64 b0), .d (.int .i64 b1)], .box [.d (.int .i64 0), .d (.int .i64 0)]])) (fun s => s) (fun x1 => ?_) (fun hj1 => ?_)
  ·refine oView (T' := [(2, .ptr 0 0), (3, .ptr 1 0), (4, .ptr 2 0), (18, .d (.bool x1))]) (H' := [.box [.d (.int .i64 a0), .d (.int .i64 a1)], .box [.d (.int .i64 b0), .d (.int .i64 b1)], .box [.d (.int .i64 0), .d (.int .i64 0)]]) (h := ?_)
   refine oEnd ?_
   refine bSplit 18 (h1 := fun hc => ?_) (h2 := fun hc => ?_)
   ·refine oCondT (h := ?_)
    refine oSR rfl ?_
    refine oP (.agg [.d (.int .i64 0), .d (.int .i64 0)]) (p_build bld38) ?_
    refine oD (.undef) (k_store (vs := [.d (.int .i64 0), .d (.int .i64 0)]) (H' := [.box [.d (.int .i64 a0), .d (.int .i64 a1)], .box [.d (.int .i64 b0), .d (.int .i64 b1)], .box [.d (.int .i64 0), .d (.int .i64 0)]]) 2 0 (hi := ty38)) ?_
    refine oP (.d (.int .i64 1)) p_assign ?_
    refine oEnd ?_
    exact oRet (r0 := (0, 0, 1)) (rv := .tuple [.agg [.d (.int .i64 0), .d (.int .i64 0)], .d (.int .i64 1)]) (B := []) (vs := [.agg [.d (.int .i64 0), .d (.int .i64 0)], .d (.int .i64 1)]) (σ := []) (hf := Try.func74) (hrs := rfl) (hres := .cons _ _ _ _ (.agg 4 38 2 0 [.d (.int .i64 0), .d (.int .i64 0)] [.d (.int .i64 0), .d (.int .i64 0)] _ _ _ _ (by kernel_rfl) (by kernel_rfl) Try.underlying38 (by kernel_rfl) ty38 (by kernel_rfl) (by kernel_rfl)) (.cons _ _ _ _ (.tmp 5 _ (by kernel_rfl)) .nil)) (hnd := by decide)
   ·refine oCondF (h := ?_)
    refine oSkip ?_
    refine oSeq ?_
    refine oDraw [(0, 16), (1, 16), (2, 16)] rfl ?_
    refine aP 0 (.ptr 0 0) rfl (k_fieldAddr 0 0 (hu := Try.underlying38) (hf := rfl) (hi := ty3)) ?_
    refine aQ 1 [0] (.d (.int .i64 a0)) rfl (k_load 0 0 (hu := Try.underlying3)) ?_
    refine aP 3 (.ptr 1 1) rfl (k_fieldAddr 1 0 (hu := Try.underlying38) (hf := rfl) (hi := ty3)) ?_
    refine aQ 4 [1] (.d (.int .i64 b1)) rfl (k_load 1 1 (hu := Try.underlying3)) ?_
    refine aP 5 (.d (.int .u64 (IntKind.wrap .u64 b1))) rfl (p_conv (k := .i64) (p := b1) (hu1 := Try.underlying3) (hu2 := Try.underlying62)) ?_
    refine aP 7 (.ptr 1 0) rfl (k_fieldAddr 1 0 (hu := Try.underlying38) (hf := rfl) (hi := ty3)) ?_
    refine aQ 8 [1] (.d (.int .i64 b0)) rfl (k_load 1 0 (hu := Try.underlying3)) ?_
    refine aP 10 (.ptr 0 1) rfl (k_fieldAddr 0 0 (hu := Try.underlying38) (hf := rfl) (hi := ty3)) ?_
    refine aQ 11 [0] (.d (.int .i64 a1)) rfl (k_load 0 1 (hu := Try.underlying3)) ?_
    refine aP 12 (.d (.int .u64 (IntKind.wrap .u64 a1))) rfl (p_conv (k := .i64) (p := a1) (hu1 := Try.underlying3) (hu2 := Try.underlying62)) ?_
    refine dCall (i := 2) (caps := []) (v := (fun (r1 : Int) => (.d (.int .u64 r1) : V))) (H' := (fun (r1 : Int) => ([.box [.d (.int .i64 a0), .d (.int .i64 a1)], .box [.d (.int .i64 b0), .d (.int .i64 b1)], .box [.d (.int .i64 0), .d (.int .i64 0)]] : List Blk))) [] _ (ratio_abs_goes k a0) rfl (ho := rfl) (hfn := Try.func66) (hb := rfl) (hconv := ConvRs.refl _ _) (hnd := by decide) (hBl := fun _ => (by kernel_rfl)) (hv := fun _ => (by kernel_rfl)) (hH' := fun _ => (by kernel_rfl)) (h := fun r1 => ?_)
    refine dCall (i := 6) (caps := []) (v := (fun (r11 : Int) => (.d (.int .u64 r11) : V))) (H' := (fun (r11 : Int) => ([.box [.d (.int .i64 a0), .d (.int .i64 a1)], .box [.d (.int .i64 b0), .d (.int .i64 b1)], .box [.d (.int .i64 0), .d (.int .i64 0)]] : List Blk))) [] _ (ratio_gcd_goes k r1 (IntKind.wrap .u64 b1)) rfl (ho := rfl) (hfn := Try.func65) (hb := rfl) (hconv := ConvRs.refl _ _) (hnd := by decide) (hBl := fun _ => (by kernel_rfl)) (hv := fun _ => (by kernel_rfl)) (hH' := fun _ => (by kernel_rfl)) (h := fun r11 => ?_)
    refine dCall (i := 9) (caps := []) (v := (fun (r13 : Int) => (.d (.int .u64 r13) : V))) (H' := (fun (r13 : Int) => ([.box [.d (.int .i64 a0), .d (.int .i64 a1)], .box [.d (.int .i64 b0), .d (.int .i64 b1)], .box [.d (.int .i64 0), .d (.int .i64 0)]] : List Blk))) [] _ (ratio_abs_goes k b0) rfl (ho := rfl) (hfn := Try.func66) (hb := rfl) (hconv := ConvRs.refl _ _) (hnd := by decide) (hBl := fun _ => (by kernel_rfl)) (hv := fun _ => (by kernel_rfl)) (hH' := fun _ => (by kernel_rfl)) (h := fun r13 => ?_)
    refine dCall (i := 13) (caps := []) (v := (fun (r14 : Int) => (.d (.int .u64 r14) : V))) (H' := (fun (r14 : Int) => ([.box [.d (.int .i64 a0), .d (.int .i64 a1)], .box [.d (.int .i64 b0), .d (.int .i64 b1)], .box [.d (.int .i64 0), .d (.int .i64 0)]] : List Blk))) [] _ (ratio_gcd_goes k r13 (IntKind.wrap .u64 a1)) rfl (ho := rfl) (hfn := Try.func65) (hb := rfl) (hconv := ConvRs.refl _ _) (hnd := by decide) (hBl := fun _ => (by kernel_rfl)) (hv := fun _ => (by kernel_rfl)) (hH' := fun _ => (by kernel_rfl)) (h := fun r14 => ?_)
    refine aP 14 (.d (.int .u64 r11)) rfl p_assign ?_
    refine aP 15 (.d (.int .u64 r14)) rfl p_assign ?_
    refine aDone (h := ?_)
    refine oSeq ?_
    refine oDraw [(0, 13), (1, 13), (2, 13)] rfl ?_
    refine aP 0 (.ptr 0 0) rfl (k_fieldAddr 0 0 (hu := Try.underlying38) (hf := rfl) (hi := ty3)) ?_
    refine aQ 1 [0] (.d (.int .i64 a0)) rfl (k_load 0 0 (hu := Try.underlying3)) ?_
    refine aP 2 (.d (.int .u64 r11)) rfl p_move ?_
    refine aP 3 (.d (.int .i64 (IntKind.wrap .i64 r11))) rfl (p_conv (k := .u64) (p := r11) (hu1 := Try.underlying62) (hu2 := Try.underlying3)) ?_
    refine dNz (fun h1 => ?_)
    refine aTakeP (i := 4) (.d (.int .i64 (IntKind.wrap .i64 (Int.tdiv a0 (IntKind.wrap .i64 r11))))) rfl (hp := p_quo (k := .i64) (p := a0) (q := (IntKind.wrap .i64 r11)) (hq := h1)) (h := ?_)
    refine aP 5 (.ptr 1 0) rfl (k_fieldAddr 1 0 (hu := Try.underlying38) (hf := rfl) (hi := ty3)) ?_
    refine aQ 6 [1] (.d (.int .i64 b0)) rfl (k_load 1 0 (hu := Try.underlying3)) ?_
    refine aP 8 (.d (.int .u64 r14)) rfl p_move ?_
    refine dCall (i := 7) (caps := []) (v := (fun (r15 : Int) => (.d (.int .u64 r15) : V))) (H' := (fun (r15 : Int) => ([.box [.d (.int .i64 a0), .d (.int .i64 a1)], .box [.d (.int .i64 b0), .d (.int .i64 b1)], .box [.d (.int .i64 0), .d (.int .i64 0)]] : List Blk))) [] _ (ratio_abs_goes k b0) rfl (ho := rfl) (hfn := Try.func66) (hb := rfl) (hconv := ConvRs.refl _ _) (hnd := by decide) (hBl := fun _ => (by kernel_rfl)) (hv := fun _ => (by kernel_rfl)) (hH' := fun _ => (by kernel_rfl)) (h := fun r15 => ?_)
    refine dNz (fun h12 => ?_)
    refine aTakeP (i := 9) (.d (.int .u64 (IntKind.wrap .u64 (Int.tdiv r15 r14)))) rfl (hp := p_quo (k := .u64) (p := r15) (q := r14) (hq := h12)) (h := ?_)
    refine dCall (i := 10) (caps := []) (v := (uc fun (r122 : Int) => (fun (r131 : Int) => (.agg [.d (.bool (decide ((IntKind.wrap .i64 (Int.tdiv a0 (IntKind.wrap .i64 r11))) < 0))), .d (.int .u64 r122), .d (.int .u64 r131)] : V)))) (H' := (uc fun (r122 : Int) => (fun (r131 : Int) => ([.box [.d (.int .i64 a0), .d (.int .i64 a1)], .box [.d (.int .i64 b0), .d (.int .i64 b1)], .box [.d (.int .i64 0), .d (.int .i64 0)]] : List Blk)))) [] _ (ratio_times_goes k (IntKind.wrap .i64 (Int.tdiv a0 (IntKind.wrap .i64 r11))) (IntKind.wrap .u64 (Int.tdiv r15 r14))) rfl (ho := rfl) (hfn := Try.func92) (hb := rfl) (hconv := ConvRs.refl _ _) (hnd := by decide) (hBl := fun _ => (by kernel_rfl)) (hv := fun _ => (by kernel_rfl)) (hH' := fun _ => (by kernel_rfl)) (h := fun r => ?_)
    obtain ⟨r122, r131⟩ := r
    refine dUc ?_
    refine aAlloc (i := 11) (d := 8) rfl (hop := rfl) (hd := rfl) (hty := ty106) (cells := [.d (.bool false), .d (.int .u64 0), .d (.int .u64 0)]) (h := ?_)
    refine dView (H' := [.box [.d (.int .i64 a0), .d (.int .i64 a1)], .box [.d (.int .i64 b0), .d (.int .i64 b1)], .box [.d (.int .i64 0), .d (.int .i64 0)], .box [.d (.bool false), .d (.int .u64 0), .d (.int .u64 0)]]) rfl rfl (h := ?_)
    refine aOne (i := 12) (v := .undef) rfl (hac := Does.acts (k_store (vs := [.d (.bool (decide ((IntKind.wrap .i64 (Int.tdiv a0 (IntKind.wrap .i64 r11))) < 0))), .d (.int .u64 r122), .d (.int .u64 r131)]) (H' := [.box [.d (.int .i64 a0), .d (.int .i64 a1)], .box [.d (.int .i64 b0), .d (.int .i64 b1)], .box [.d (.int .i64 0), .d (.int .i64 0)], .box [.d (.bool (decide ((IntKind.wrap .i64 (Int.tdiv a0 (IntKind.wrap .i64 r11))) < 0))), .d (.int .u64 r122), .d (.int .u64 r131)]]) 3 0 (hi := ty106))) (h := ?_)
    refine aDone (h := ?_)
    refine oSR rfl ?_
    refine oP (.ptr 3 0) (k_fieldAddr 3 0 (hu := Try.underlying106) (hf := rfl) (hi := ty4)) ?_
    refine oQ (.d (.bool (decide ((IntKind.wrap .i64 (Int.tdiv a0 (IntKind.wrap .i64 r11))) < 0)))) (k_load 3 0 (hu := Try.underlying4)) ?_
    refine oP (.ptr 1 0) (k_fieldAddr 1 0 (hu := Try.underlying38) (hf := rfl) (hi := ty3)) ?_
    refine oQ (.d (.int .i64 b0)) (k_load 1 0 (hu := Try.underlying3)) ?_
    refine oP (.d (.bool (decide (b0 < 0)))) (p_int (k := .i64) (p := b0) (q := 0)) ?_
    refine oP (.d (.bool (!((decide ((IntKind.wrap .i64 (Int.tdiv a0 (IntKind.wrap .i64 r11))) < 0)) == (decide (b0 < 0)))))) (p_boolNe (p := (decide ((IntKind.wrap .i64 (Int.tdiv a0 (IntKind.wrap .i64 r11))) < 0))) (q := (decide (b0 < 0))) (hu := Try.underlying4)) ?_
    refine oP (.ptr 3 0) (k_fieldAddr 3 0 (hu := Try.underlying106) (hf := rfl) (hi := ty4)) ?_
    refine oD (.undef) (k_store (vs := [.d (.bool (!((decide ((IntKind.wrap .i64 (Int.tdiv a0 (IntKind.wrap .i64 r11))) < 0)) == (decide (b0 < 0)))))]) (H' := [.box [.d (.int .i64 a0), .d (.int .i64 a1)], .box [.d (.int .i64 b0), .d (.int .i64 b1)], .box [.d (.int .i64 0), .d (.int .i64 0)], .box [.d (.bool (!((decide ((IntKind.wrap .i64 (Int.tdiv a0 (IntKind.wrap .i64 r11))) < 0)) == (decide (b0 < 0))))), .d (.int .u64 r122), .d (.int .u64 r131)]]) 3 0 (hi := ty4)) ?_
    refine oEnd ?_
    refine oSeq ?_
    refine oDraw [(0, 16), (1, 16), (2, 16), (3, 16)] rfl ?_
    refine aP 0 (.ptr 0 1) rfl (k_fieldAddr 0 0 (hu := Try.underlying38) (hf := rfl) (hi := ty3)) ?_
    refine aQ 1 [0] (.d (.int .i64 a1)) rfl (k_load 0 1 (hu := Try.underlying3)) ?_
    refine aP 2 (.d (.int .u64 (IntKind.wrap .u64 a1))) rfl (p_conv (k := .i64) (p := a1) (hu1 := Try.underlying3) (hu2 := Try.underlying62)) ?_
    refine aP 3 (.d (.int .u64 r14)) rfl p_move ?_
    refine dNz (fun h16 => ?_)
    refine aTakeP (i := 4) (.d (.int .u64 (IntKind.wrap .u64 (Int.tdiv (IntKind.wrap .u64 a1) r14)))) rfl (hp := p_quo (k := .u64) (p := (IntKind.wrap .u64 a1)) (q := r14) (hq := h16)) (h := ?_)
    refine aP 5 (.ptr 1 1) rfl (k_fieldAddr 1 0 (hu := Try.underlying38) (hf := rfl) (hi := ty3)) ?_
    refine aQ 6 [1] (.d (.int .i64 b1)) rfl (k_load 1 1 (hu := Try.underlying3)) ?_
    refine aP 7 (.d (.int .u64 (IntKind.wrap .u64 b1))) rfl (p_conv (k := .i64) (p := b1) (hu1 := Try.underlying3) (hu2 := Try.underlying62)) ?_
    refine aP 8 (.d (.int .u64 r11)) rfl p_move ?_
    refine dNz (fun h18 => ?_)
    refine aTakeP (i := 9) (.d (.int .u64 (IntKind.wrap .u64 (Int.tdiv (IntKind.wrap .u64 b1) r11)))) rfl (hp := p_quo (k := .u64) (p := (IntKind.wrap .u64 b1)) (q := r11) (hq := h18)) (h := ?_)
    refine dCall (i := 10) (caps := []) (v := (uc fun (r16 : Int) => (fun (r111 : Int) => (.tuple [.d (.int .u64 r16), .d (.int .u64 r111)] : V)))) (H' := (uc fun (r16 : Int) => (fun (r111 : Int) => ([.box [.d (.int .i64 a0), .d (.int .i64 a1)], .box [.d (.int .i64 b0), .d (.int .i64 b1)], .box [.d (.int .i64 0), .d (.int .i64 0)], .box [.d (.bool (!((decide ((IntKind.wrap .i64 (Int.tdiv a0 (IntKind.wrap .i64 r11))) < 0)) == (decide (b0 < 0))))), .d (.int .u64 r122), .d (.int .u64 r131)]] : List Blk)))) [] _ (math_bits_Mul64_goes k (IntKind.wrap .u64 (Int.tdiv (IntKind.wrap .u64 a1) r14)) (IntKind.wrap .u64 (Int.tdiv (IntKind.wrap .u64 b1) r11))) rfl (ho := rfl) (hfn := Try.func81) (hb := rfl) (hconv := ConvRs.refl _ _) (hnd := by decide) (hBl := fun _ => (by kernel_rfl)) (hv := fun _ => (by kernel_rfl)) (hH' := fun _ => (by kernel_rfl)) (h := fun r => ?_)
    obtain ⟨r16, r111⟩ := r
    refine dUc ?_
    refine aTakeP (i := 11) (.tuple [.d (.int .u64 r16), .d (.int .u64 r111)]) rfl (hp := p_move) (h := ?_)
    refine aTakeP (i := 12) (.d (.int .u64 r16)) rfl (hp := k_extract) (h := ?_)
    refine aTakeP (i := 13) (.d (.int .u64 r111)) rfl (hp := k_extract) (h := ?_)
    refine aP 14 (.d (.int .u64 r16)) rfl p_assign ?_
    refine aP 15 (.d (.int .u64 r111)) rfl p_assign ?_
    refine aDone (h := ?_)
    refine oSeq ?_
    refine oSR rfl ?_
    refine oP (.d (.int .u64 r16)) p_move ?_
    refine oP (.d (.bool (r16 != 0))) (p_int (k := .u64) (p := r16) (q := 0)) ?_
    refine oEnd ?_
    refine bSplit 67 (h1 := fun hc => ?_) (h2 := fun hc => ?_)
    ·refine oCondT (h := ?_)
     refine oSR rfl ?_
     refine oP (.agg [.d (.int .i64 0), .d (.int .i64 0)]) (p_build bld38) ?_
     refine oD (.undef) (k_store (vs := [.d (.int .i64 0), .d (.int .i64 0)]) (H' := [.box [.d (.int .i64 a0), .d (.int .i64 a1)], .box [.d (.int .i64 b0), .d (.int .i64 b1)], .box [.d (.int .i64 0), .d (.int .i64 0)], .box [.d (.bool (!((decide ((IntKind.wrap .i64 (Int.tdiv a0 (IntKind.wrap .i64 r11))) < 0)) == (decide (b0 < 0))))), .d (.int .u64 r122), .d (.int .u64 r131)]]) 2 0 (hi := ty38)) ?_
     refine oP (.d (.int .i64 6)) p_assign ?_
     refine oEnd ?_
     exact oRet (r0 := (0, 0, 6)) (rv := .tuple [.agg [.d (.int .i64 0), .d (.int .i64 0)], .d (.int .i64 6)]) (B := []) (vs := [.agg [.d (.int .i64 0), .d (.int .i64 0)], .d (.int .i64 6)]) (σ := []) (hf := Try.func74) (hrs := rfl) (hres := .cons _ _ _ _ (.agg 4 38 2 0 [.d (.int .i64 0), .d (.int .i64 0)] [.d (.int .i64 0), .d (.int .i64 0)] _ _ _ _ (by kernel_rfl) (by kernel_rfl) Try.underlying38 (by kernel_rfl) ty38 (by kernel_rfl) (by kernel_rfl)) (.cons _ _ _ _ (.tmp 5 _ (by kernel_rfl)) .nil)) (hnd := by decide)
    ·refine oCondF (h := ?_)
     refine oSkip ?_
     refine oSR rfl ?_
     refine oQ (.agg [.d (.bool (!((decide ((IntKind.wrap .i64 (Int.tdiv a0 (IntKind.wrap .i64 r11))) < 0)) == (decide (b0 < 0))))), .d (.int .u64 r122), .d (.int .u64 r131)]) (k_loadAgg 3 0 (hu := Try.underlying106) (hi := ty106)) ?_
     refine oP (.d (.int .u64 r111)) p_move ?_
     refine bCall (caps := []) (v := (uc fun (r126 : Int) => (uc fun (r142 : Int) => (fun (r152 : Int) => (.tuple [.agg [.d (.int .i64 r126), .d (.int .i64 r142)], .d (.int .i64 r152)] : V))))) (H' := (uc fun (r126 : Int) => (uc fun (r142 : Int) => (fun (r152 : Int) => ([.box [.d (.int .i64 a0), .d (.int .i64 a1)], .box [.d (.int .i64 b0), .d (.int .i64 b1)], .box [.d (.int .i64 0), .d (.int .i64 0)], .box [.d (.bool (!((decide ((IntKind.wrap .i64 (Int.tdiv a0 (IntKind.wrap .i64 r11))) < 0)) == (decide (b0 < 0))))), .d (.int .u64 r122), .d (.int .u64 r131)]] : List Blk))))) [] _ (ratio_lowest_goes k (!((decide ((IntKind.wrap .i64 (Int.tdiv a0 (IntKind.wrap .i64 r11))) < 0)) == (decide (b0 < 0)))) r122 r131 r111) (ho := rfl) (hfn := Try.func89) (hb := rfl) (hconv := ConvRs.refl _ _) (hnd := by decide) (hBl := fun _ => (by kernel_rfl)) (hv := fun _ => (by kernel_rfl)) (hH' := fun _ => (by kernel_rfl)) (h := fun r => ?_)
     obtain ⟨r126, r142, r152⟩ := r
     refine bUc ?_
     refine bUc ?_
     refine oP (.agg [.d (.int .i64 r126), .d (.int .i64 r142)]) k_extract ?_
     refine oP (.d (.int .i64 r152)) k_extract ?_
     refine oD (.undef) (k_store (vs := [.d (.int .i64 r126), .d (.int .i64 r142)]) (H' := [.box [.d (.int .i64 a0), .d (.int .i64 a1)], .box [.d (.int .i64 b0), .d (.int .i64 b1)], .box [.d (.int .i64 r126), .d (.int .i64 r142)], .box [.d (.bool (!((decide ((IntKind.wrap .i64 (Int.tdiv a0 (IntKind.wrap .i64 r11))) < 0)) == (decide (b0 < 0))))), .d (.int .u64 r122), .d (.int .u64 r131)]]) 2 0 (hi := ty38)) ?_
     refine oP (.d (.int .i64 r152)) p_assign ?_
     refine oEnd ?_
     exact oRet (r0 := (r126, r142, r152)) (rv := .tuple [.agg [.d (.int .i64 r126), .d (.int .i64 r142)], .d (.int .i64 r152)]) (B := []) (vs := [.agg [.d (.int .i64 r126), .d (.int .i64 r142)], .d (.int .i64 r152)]) (σ := []) (hf := Try.func74) (hrs := rfl) (hres := .cons _ _ _ _ (.agg 4 38 2 0 [.d (.int .i64 r126), .d (.int .i64 r142)] [.d (.int .i64 r126), .d (.int .i64 r142)] _ _ _ _ (by kernel_rfl) (by kernel_rfl) Try.underlying38 (by kernel_rfl) ty38 (by kernel_rfl) (by kernel_rfl)) (.cons _ _ _ _ (.tmp 5 _ (by kernel_rfl)) .nil)) (hnd := by decide)
  ·refine bSplit 14 (h1 := fun hc => ?_) (h2 := fun hc => ?_)
   ·refine oNot (h := ?_)
    refine oNot (h := ?_)
    refine oNot (h := ?_)
    refine oP (.d (.bool true)) (p_pick (b := true)) ?_
    refine oHead [2, 3, 4, 18] [0, 1, 2] (T' := [(2, .ptr 0 0), (3, .ptr 1 0), (4, .ptr 2 0), (18, .d (.bool true))]) (H' := [.box [.d (.int .i64 a0), .d (.int .i64 a1)], .box [.d (.int .i64 b0), .d (.int .i64 b1)], .box [.d (.int .i64 0), .d (.int .i64 0)]]) (hnd := by decide) (h := ?_)
    exact hj1 true
   ·refine oQ (.agg [.d (.int .i64 b0), .d (.int .i64 b1)]) (k_loadAgg 1 0 (hu := Try.underlying38) (hi := ty38)) ?_
    refine bCall (caps := []) (v := (fun (r127 : Bool) => (.d (.bool r127) : V))) (H' := (fun (r127 : Bool) => ([.box [.d (.int .i64 a0), .d (.int .i64 a1)], .box [.d (.int .i64 b0), .d (.int .i64 b1)], .box [.d (.int .i64 0), .d (.int .i64 0)]] : List Blk))) [] _ (ratio_Valid_goes k b0 b1) (ho := rfl) (hfn := Try.func39) (hb := rfl) (hconv := ConvRs.refl _ _) (hnd := by decide) (hBl := fun _ => (by kernel_rfl)) (hv := fun _ => (by kernel_rfl)) (hH' := fun _ => (by kernel_rfl)) (h := fun r127 => ?_)
    refine oP (.d (.bool (!r127))) (p_not (p := r127)) ?_
    refine oP (.d (.bool (!r127))) (p_pick (b := false)) ?_
    refine oHead [2, 3, 4, 18] [0, 1, 2] (T' := [(2, .ptr 0 0), (3, .ptr 1 0), (4, .ptr 2 0), (18, .d (.bool (!r127)))]) (H' := [.box [.d (.int .i64 a0), .d (.int .i64 a1)], .box [.d (.int .i64 b0), .d (.int .i64 b1)], .box [.d (.int .i64 0), .d (.int .i64 0)]]) (hnd := by decide) (h := ?_)
    exact hj1 (!r127)

/-- awardingbody/ratio.Div -/
def ratio_Div (k : Nat) (a0 : Int) (a1 : Int) (b0 : Int) (b1 : Int) : Option (Int × Int × Int) := Option.bind (ratio_Valid k a0 a1) (fun r122 => Option.bind (bif (!r122) then some true else Option.bind (ratio_Valid k b0 b1) (fun r124 => some (!r124)) : Option (Bool)) (fun x3 => bif x3 then some (0, 0, 1) else bif (b0 == 0) then some (0, 0, 2) else Option.bind (bif (decide (b0 < 0)) then some ((IntKind.wrap .i64 (0 - b1)), (IntKind.wrap .i64 (0 - b0))) else some (b1, b0) : Option (Int × Int)) (uc fun x4 => fun x5 => Option.bind (ratio_Mul k a0 a1 x4 x5) (uc fun r171 => uc fun r181 => fun r191 => some (r171, r181, r191)))))
def ratio_Div_E (a0 : Int) (a1 : Int) (b0 : Int) (b1 : Int) : Int × Int × Int → V × List Blk := uc fun r1 => uc fun r11 => fun r13 => (.tuple [.agg [.d (.int .i64 r1), .d (.int .i64 r11)], .d (.int .i64 r13)], [])
theorem ratio_Div_goes (k : Nat) (a0 : Int) (a1 : Int) (b0 : Int) (b1 : Int) : RunsO Try.prog 45 [.agg [.d (.int .i64 a0), .d (.int .i64 a1)], .agg [.d (.int .i64 b0), .d (.int .i64 b1)]] [] (ratio_Div_E a0 a1 b0 b1) (ratio_Div k a0 a1 b0 b1) := by
  refine RunsO.of_goes (N := 40) (m := 0) (T := [(0, .agg [.d (.int .i64 a0), .d (.int .i64 a1)]), (1, .agg [.d (.int .i64 b0), .d (.int .i64 b1)])]) Try.func45 rfl rfl (h := ?_)
  unfold ratio_Div
  refine bStart ?_
  refine oSR rfl ?_
  refine oD (.ptr 0 0) (k_box (H' := [.box [.d (.int .i64 a0), .d (.int .i64 a1)]]) (cells := [.d (.int .i64 a0), .d (.int .i64 a1)])) ?_
  refine oD (.ptr 1 0) (k_box (H' := [.box [.d (.int .i64 a0), .d (.int .i64 a1)], .box [.d (.int .i64 b0), .d (.int .i64 b1)]]) (cells := [.d (.int .i64 b0), .d (.int .i64 b1)])) ?_
  refine oD (.ptr 2 0) (k_alloc (H' := [.box [.d (.int .i64 a0), .d (.int .i64 a1)], .box [.d (.int .i64 b0), .d (.int .i64 b1)], .box [.d (.int .i64 0), .d (.int .i64 0)]]) ty38) ?_
  refine oP (.d (.int .i64 0)) p_assign ?_
  refine oEnd ?_
  refine oSeq ?_
  refine oSR rfl ?_
  refine oQ (.agg [.d (.int .i64 a0), .d (.int .i64 a1)]) (k_loadAgg 0 0 (hu := Try.underlying38) (hi := ty38)) ?_
  refine bCall (caps := []) (v := (fun (r122 : Bool) => (.d (.bool r122) : V))) (H' := (fun (r122 : Bool) => ([.box [.d (.int .i64 a0), .d (.int .i64 a1)], .box [.d (.int .i64 b0), .d (.int .i64 b1)], .box [.d (.int .i64 0), .d (.int .i64 0)]] : List Blk))) [] _ (ratio_Valid_goes k a0 a1) (ho := rfl) (hfn := Try.func39) (hb := rfl) (hconv := ConvRs.refl _ _) (hnd := by decide) (hBl := fun _ => (by kernel_rfl)) (hv := fun _ => (by kernel_rfl)) (hH' := fun _ => (by kernel_rfl)) (h := fun r122 => ?_)
  refine oP (.d (.bool (!r122))) (p_not (p := r122)) ?_
  refine oP (.d (.bool (!r122))) p_move ?_
  refine bMeet 4 rfl ((fun (x3 : Bool) => [(2, .ptr 0 0), (3, .ptr 1 0), (4, .ptr 2 0), (14, .d (.bool x3))])) ((fun (x3 : Bool) => [.box [.d (.int .i64 a0), .d (.int .i64 a1)], .box [.d (.int .i64 b0), .d (.int .i64 b1)], .box [.d (.int .i64 0), .d (.int .i64 0)]])) (fun s => s) (fun x3 => ?_) (fun hj3 => ?_)
  ·refine oView (T' := [(2, .ptr 0 0), (3, .ptr 1 0), (4, .ptr 2 0), (14, .d (.bool x3))]) (H' := [.box [.d (.int .i64 a0), .d (.int .i64 a1)], .box [.d (.int .i64 b0), .d (.int .i64 b1)], .box [.d (.int .i64 0), .d (.int .i64 0)]]) (h := ?_)
   refine oEnd ?_
   refine bSplit 14 (h1 := fun hc => ?_) (h2 := fun hc => ?_)
   ·refine oCondT (h := ?_)
    refine oSR rfl ?_
    refine oP (.agg [.d (.int .i64 0), .d (.int .i64 0)]) (p_build bld38) ?_
    refine oD (.undef) (k_store (vs := [.d (.int .i64 0), .d (.int .i64 0)]) (H' := [.box [.d (.int .i64 a0), .d (.int .i64 a1)], .box [.d (.int .i64 b0), .d (.int .i64 b1)], .box [.d (.int .i64 0), .d (.int .i64 0)]]) 2 0 (hi := ty38)) ?_
    refine oP (.d (.int .i64 1)) p_assign ?_
    refine oEnd ?_
    exact oRet (r0 := (0, 0, 1)) (rv := .tuple [.agg [.d (.int .i64 0), .d (.int .i64 0)], .d (.int .i64 1)]) (B := []) (vs := [.agg [.d (.int .i64 0), .d (.int .i64 0)], .d (.int .i64 1)]) (σ := []) (hf := Try.func45) (hrs := rfl) (hres := .cons _ _ _ _ (.agg 4 38 2 0 [.d (.int .i64 0), .d (.int .i64 0)] [.d (.int .i64 0), .d (.int .i64 0)] _ _ _ _ (by kernel_rfl) (by kernel_rfl) Try.underlying38 (by kernel_rfl) ty38 (by kernel_rfl) (by kernel_rfl)) (.cons _ _ _ _ (.tmp 5 _ (by kernel_rfl)) .nil)) (hnd := by decide)
   ·refine oCondF (h := ?_)
    refine oSkip ?_
    refine oSeq ?_
    refine oSR rfl ?_
    refine oP (.ptr 1 0) (k_fieldAddr 1 0 (hu := Try.underlying38) (hf := rfl) (hi := ty3)) ?_
    refine oQ (.d (.int .i64 b0)) (k_load 1 0 (hu := Try.underlying3)) ?_
    refine oP (.d (.bool (b0 == 0))) (p_int (k := .i64) (p := b0) (q := 0)) ?_
    refine oEnd ?_
    refine bSplit 18 (h1 := fun hc => ?_) (h2 := fun hc => ?_)
    ·refine oCondT (h := ?_)
     refine oSR rfl ?_
     refine oP (.agg [.d (.int .i64 0), .d (.int .i64 0)]) (p_build bld38) ?_
     refine oD (.undef) (k_store (vs := [.d (.int .i64 0), .d (.int .i64 0)]) (H' := [.box [.d (.int .i64 a0), .d (.int .i64 a1)], .box [.d (.int .i64 b0), .d (.int .i64 b1)], .box [.d (.int .i64 0), .d (.int .i64 0)]]) 2 0 (hi := ty38)) ?_
     refine oP (.d (.int .i64 2)) p_assign ?_
     refine oEnd ?_
     exact oRet (r0 := (0, 0, 2)) (rv := .tuple [.agg [.d (.int .i64 0), .d (.int .i64 0)], .d (.int .i64 2)]) (B := []) (vs := [.agg [.d (.int .i64 0), .d (.int .i64 0)], .d (.int .i64 2)]) (σ := []) (hf := Try.func45) (hrs := rfl) (hres := .cons _ _ _ _ (.agg 4 38 2 0 [.d (.int .i64 0), .d (.int .i64 0)] [.d (.int .i64 0), .d (.int .i64 0)] _ _ _ _ (by kernel_rfl) (by kernel_rfl) Try.underlying38 (by kernel_rfl) ty38 (by kernel_rfl) (by kernel_rfl)) (.cons _ _ _ _ (.tmp 5 _ (by kernel_rfl)) .nil)) (hnd := by decide)
    ·refine oCondF (h := ?_)
     refine oSkip ?_
     refine oSR rfl ?_
     refine oP (.ptr 1 1) (k_fieldAddr 1 0 (hu := Try.underlying38) (hf := rfl) (hi := ty3)) ?_
     refine oQ (.d (.int .i64 b1)) (k_load 1 1 (hu := Try.underlying3)) ?_
     refine oP (.ptr 1 0) (k_fieldAddr 1 0 (hu := Try.underlying38) (hf := rfl) (hi := ty3)) ?_
     refine oQ (.d (.int .i64 b0)) (k_load 1 0 (hu := Try.underlying3)) ?_
     refine oP (.agg [.d (.int .i64 b1), .d (.int .i64 b0)]) (p_build bld38) ?_
     refine oD (.ptr 3 0) (k_alloc (H' := [.box [.d (.int .i64 a0), .d (.int .i64 a1)], .box [.d (.int .i64 b0), .d (.int .i64 b1)], .box [.d (.int .i64 0), .d (.int .i64 0)], .box [.d (.int .i64 0), .d (.int .i64 0)]]) ty38) ?_
     refine oD (.undef) (k_store (vs := [.d (.int .i64 b1), .d (.int .i64 b0)]) (H' := [.box [.d (.int .i64 a0), .d (.int .i64 a1)], .box [.d (.int .i64 b0), .d (.int .i64 b1)], .box [.d (.int .i64 0), .d (.int .i64 0)], .box [.d (.int .i64 b1), .d (.int .i64 b0)]]) 3 0 (hi := ty38)) ?_
     refine oEnd ?_
     refine oSeq ?_
     refine oSR rfl ?_
     refine oP (.ptr 1 0) (k_fieldAddr 1 0 (hu := Try.underlying38) (hf := rfl) (hi := ty3)) ?_
     refine oQ (.d (.int .i64 b0)) (k_load 1 0 (hu := Try.underlying3)) ?_
     refine oP (.d (.bool (decide (b0 < 0)))) (p_int (k := .i64) (p := b0) (q := 0)) ?_
     refine oEnd ?_
     refine bJoin ((uc fun (x4 : Int) => (fun (x5 : Int) => [(2, .ptr 0 0), (4, .ptr 1 0), (6, .ptr 2 0)]))) ((uc fun (x4 : Int) => (fun (x5 : Int) => [.box [.d (.int .i64 a0), .d (.int .i64 a1)], .box [.d (.int .i64 0), .d (.int .i64 0)], .box [.d (.int .i64 x4), .d (.int .i64 x5)]]))) (fun s => s) (fun s => ?_) (fun hj2 => ?_)
     ·obtain ⟨x4, x5⟩ := s
      refine bUc ?_
      refine oView (T' := [(2, .ptr 0 0), (4, .ptr 1 0), (6, .ptr 2 0)]) (H' := [.box [.d (.int .i64 a0), .d (.int .i64 a1)], .box [.d (.int .i64 0), .d (.int .i64 0)], .box [.d (.int .i64 x4), .d (.int .i64 x5)]]) (h := ?_)
      refine oSR rfl ?_
      refine oQ (.agg [.d (.int .i64 a0), .d (.int .i64 a1)]) (k_loadAgg 0 0 (hu := Try.underlying38) (hi := ty38)) ?_
      refine oQ (.agg [.d (.int .i64 x4), .d (.int .i64 x5)]) (k_loadAgg 2 0 (hu := Try.underlying38) (hi := ty38)) ?_
      refine bCall (caps := []) (v := (uc fun (r171 : Int) => (uc fun (r181 : Int) => (fun (r191 : Int) => (.tuple [.agg [.d (.int .i64 r171), .d (.int .i64 r181)], .d (.int .i64 r191)] : V))))) (H' := (uc fun (r171 : Int) => (uc fun (r181 : Int) => (fun (r191 : Int) => ([.box [.d (.int .i64 a0), .d (.int .i64 a1)], .box [.d (.int .i64 0), .d (.int .i64 0)], .box [.d (.int .i64 x4), .d (.int .i64 x5)]] : List Blk))))) [] _ (ratio_Mul_goes k a0 a1 x4 x5) (ho := rfl) (hfn := Try.func74) (hb := rfl) (hconv := ConvRs.refl _ _) (hnd := by decide) (hBl := fun _ => (by kernel_rfl)) (hv := fun _ => (by kernel_rfl)) (hH' := fun _ => (by kernel_rfl)) (h := fun r => ?_)
      obtain ⟨r171, r181, r191⟩ := r
      refine bUc ?_
      refine bUc ?_
      refine oP (.agg [.d (.int .i64 r171), .d (.int .i64 r181)]) k_extract ?_
      refine oP (.d (.int .i64 r191)) k_extract ?_
      refine oD (.undef) (k_store (vs := [.d (.int .i64 r171), .d (.int .i64 r181)]) (H' := [.box [.d (.int .i64 a0), .d (.int .i64 a1)], .box [.d (.int .i64 r171), .d (.int .i64 r181)], .box [.d (.int .i64 x4), .d (.int .i64 x5)]]) 1 0 (hi := ty38)) ?_
      refine oP (.d (.int .i64 r191)) p_assign ?_
      refine oEnd ?_
      exact oRet (r0 := (r171, r181, r191)) (rv := .tuple [.agg [.d (.int .i64 r171), .d (.int .i64 r181)], .d (.int .i64 r191)]) (B := []) (vs := [.agg [.d (.int .i64 r171), .d (.int .i64 r181)], .d (.int .i64 r191)]) (σ := []) (hf := Try.func45) (hrs := rfl) (hres := .cons _ _ _ _ (.agg 4 38 1 0 [.d (.int .i64 r171), .d (.int .i64 r181)] [.d (.int .i64 r171), .d (.int .i64 r181)] _ _ _ _ (by kernel_rfl) (by kernel_rfl) Try.underlying38 (by kernel_rfl) ty38 (by kernel_rfl) (by kernel_rfl)) (.cons _ _ _ _ (.tmp 5 _ (by kernel_rfl)) .nil)) (hnd := by decide)
     ·refine bSplit 27 (h1 := fun hc => ?_) (h2 := fun hc => ?_)
      ·refine oCondT (h := ?_)
       refine oRegion rfl ?_
       refine oP (.ptr 1 1) (k_fieldAddr 1 0 (hu := Try.underlying38) (hf := rfl) (hi := ty3)) ?_
       refine oQ (.d (.int .i64 b1)) (k_load 1 1 (hu := Try.underlying3)) ?_
       refine oP (.d (.int .i64 (IntKind.wrap .i64 (0 - b1)))) (p_neg (k := .i64) (p := b1)) ?_
       refine oP (.ptr 1 0) (k_fieldAddr 1 0 (hu := Try.underlying38) (hf := rfl) (hi := ty3)) ?_
       refine oQ (.d (.int .i64 b0)) (k_load 1 0 (hu := Try.underlying3)) ?_
       refine oP (.d (.int .i64 (IntKind.wrap .i64 (0 - b0)))) (p_neg (k := .i64) (p := b0)) ?_
       refine oP (.agg [.d (.int .i64 (IntKind.wrap .i64 (0 - b1))), .d (.int .i64 (IntKind.wrap .i64 (0 - b0)))]) (p_build bld38) ?_
       refine oD (.undef) (k_store (vs := [.d (.int .i64 (IntKind.wrap .i64 (0 - b1))), .d (.int .i64 (IntKind.wrap .i64 (0 - b0)))]) (H' := [.box [.d (.int .i64 a0), .d (.int .i64 a1)], .box [.d (.int .i64 b0), .d (.int .i64 b1)], .box [.d (.int .i64 0), .d (.int .i64 0)], .box [.d (.int .i64 (IntKind.wrap .i64 (0 - b1))), .d (.int .i64 (IntKind.wrap .i64 (0 - b0)))]]) 3 0 (hi := ty38)) ?_
       refine oEnd ?_
       refine oHead [2, 4, 6] [0, 2, 3] (T' := [(2, .ptr 0 0), (4, .ptr 1 0), (6, .ptr 2 0)]) (H' := [.box [.d (.int .i64 a0), .d (.int .i64 a1)], .box [.d (.int .i64 0), .d (.int .i64 0)], .box [.d (.int .i64 (IntKind.wrap .i64 (0 - b1))), .d (.int .i64 (IntKind.wrap .i64 (0 - b0)))]]) (hnd := by decide) (h := ?_)
       exact hj2 ((IntKind.wrap .i64 (0 - b1)), (IntKind.wrap .i64 (0 - b0)))
      ·refine oCondF (h := ?_)
       refine oSkip ?_
       refine oHead [2, 4, 6] [0, 2, 3] (T' := [(2, .ptr 0 0), (4, .ptr 1 0), (6, .ptr 2 0)]) (H' := [.box [.d (.int .i64 a0), .d (.int .i64 a1)], .box [.d (.int .i64 0), .d (.int .i64 0)], .box [.d (.int .i64 b1), .d (.int .i64 b0)]]) (hnd := by decide) (h := ?_)
       exact hj2 (b1, b0)
  ·refine bSplit 10 (h1 := fun hc => ?_) (h2 := fun hc => ?_)
   ·refine oNot (h := ?_)
    refine oNot (h := ?_)
    refine oNot (h := ?_)
    refine oP (.d (.bool true)) (p_pick (b := true)) ?_
    refine oHead [2, 3, 4, 14] [0, 1, 2] (T' := [(2, .ptr 0 0), (3, .ptr 1 0), (4, .ptr 2 0), (14, .d (.bool true))]) (H' := [.box [.d (.int .i64 a0), .d (.int .i64 a1)], .box [.d (.int .i64 b0), .d (.int .i64 b1)], .box [.d (.int .i64 0), .d (.int .i64 0)]]) (hnd := by decide) (h := ?_)
    exact hj3 true
   ·refine oQ (.agg [.d (.int .i64 b0), .d (.int .i64 b1)]) (k_loadAgg 1 0 (hu := Try.underlying38) (hi := ty38)) ?_
    refine bCall (caps := []) (v := (fun (r124 : Bool) => (.d (.bool r124) : V))) (H' := (fun (r124 : Bool) => ([.box [.d (.int .i64 a0), .d (.int .i64 a1)], .box [.d (.int .i64 b0), .d (.int .i64 b1)], .box [.d (.int .i64 0), .d (.int .i64 0)]] : List Blk))) [] _ (ratio_Valid_goes k b0 b1) (ho := rfl) (hfn := Try.func39) (hb := rfl) (hconv := ConvRs.refl _ _) (hnd := by decide) (hBl := fun _ => (by kernel_rfl)) (hv := fun _ => (by kernel_rfl)) (hH' := fun _ => (by kernel_rfl)) (h := fun r124 => ?_)
    refine oP (.d (.bool (!r124))) (p_not (p := r124)) ?_
    refine oP (.d (.bool (!r124))) (p_pick (b := false)) ?_
    refine oHead [2, 3, 4, 14] [0, 1, 2] (T' := [(2, .ptr 0 0), (3, .ptr 1 0), (4, .ptr 2 0), (14, .d (.bool (!r124)))]) (H' := [.box [.d (.int .i64 a0), .d (.int .i64 a1)], .box [.d (.int .i64 b0), .d (.int .i64 b1)], .box [.d (.int .i64 0), .d (.int .i64 0)]]) (hnd := by decide) (h := ?_)
    exact hj3 (!r124)

/-- (*awardingbody/conversion.calc).div -/
def conversion_calc_div (k : Nat) (a0 : Int) (a1 : Int) (b0 : Int) (b1 : Int) (x : Int) : Option (Int × Int × Int) := Option.bind (ratio_Div k a0 a1 b0 b1) (uc fun r15 => uc fun r111 => fun r131 => Option.bind (conversion_calc_do k r15 r111 r131 x) (fun x31 => some (r15, r111, x31)))
def conversion_calc_div_E (a0 : Int) (a1 : Int) (b0 : Int) (b1 : Int) (x : Int) : Int × Int × Int → V × List Blk := uc fun r12 => uc fun r14 => fun x1 => (.agg [.d (.int .i64 r12), .d (.int .i64 r14)], [.box [.d (.int .i64 x1)]])
theorem conversion_calc_div_goes (k : Nat) (a0 : Int) (a1 : Int) (b0 : Int) (b1 : Int) (x : Int) : RunsO Try.prog 91 [.ptr 0 0, .agg [.d (.int .i64 a0), .d (.int .i64 a1)], .agg [.d (.int .i64 b0), .d (.int .i64 b1)]] [.box [.d (.int .i64 x)]] (conversion_calc_div_E a0 a1 b0 b1 x) (conversion_calc_div k a0 a1 b0 b1 x) := by
  refine RunsO.of_goes (N := 14) (m := 1) (T := [(0, .ptr 0 0), (1, .agg [.d (.int .i64 a0), .d (.int .i64 a1)]), (2, .agg [.d (.int .i64 b0), .d (.int .i64 b1)])]) Try.func91 rfl rfl (h := ?_)
  unfold conversion_calc_div
  refine bStart ?_
  refine oSR rfl ?_
  refine oD (.ptr 1 0) (k_box (H' := [.box [.d (.int .i64 x)], .box [.d (.int .i64 a0), .d (.int .i64 a1)]]) (cells := [.d (.int .i64 a0), .d (.int .i64 a1)])) ?_
  refine oD (.ptr 2 0) (k_box (H' := [.box [.d (.int .i64 x)], .box [.d (.int .i64 a0), .d (.int .i64 a1)], .box [.d (.int .i64 b0), .d (.int .i64 b1)]]) (cells := [.d (.int .i64 b0), .d (.int .i64 b1)])) ?_
  refine oD (.ptr 3 0) (k_alloc (H' := [.box [.d (.int .i64 x)], .box [.d (.int .i64 a0), .d (.int .i64 a1)], .box [.d (.int .i64 b0), .d (.int .i64 b1)], .box [.d (.int .i64 0), .d (.int .i64 0)]]) ty38) ?_
  refine oEnd ?_
  refine oSR rfl ?_
  refine oP (.ptr 0 0) p_move ?_
  refine oQ (.agg [.d (.int .i64 a0), .d (.int .i64 a1)]) (k_loadAgg 1 0 (hu := Try.underlying38) (hi := ty38)) ?_
  refine oQ (.agg [.d (.int .i64 b0), .d (.int .i64 b1)]) (k_loadAgg 2 0 (hu := Try.underlying38) (hi := ty38)) ?_
  refine bCall (caps := []) (v := (uc fun (r15 : Int) => (uc fun (r111 : Int) => (fun (r131 : Int) => (.tuple [.agg [.d (.int .i64 r15), .d (.int .i64 r111)], .d (.int .i64 r131)] : V))))) (H' := (uc fun (r15 : Int) => (uc fun (r111 : Int) => (fun (r131 : Int) => ([.box [.d (.int .i64 x)], .box [.d (.int .i64 a0), .d (.int .i64 a1)], .box [.d (.int .i64 b0), .d (.int .i64 b1)], .box [.d (.int .i64 0), .d (.int .i64 0)]] : List Blk))))) [] _ (ratio_Div_goes k a0 a1 b0 b1) (ho := rfl) (hfn := Try.func45) (hb := rfl) (hconv := ConvRs.refl _ _) (hnd := by decide) (hBl := fun _ => (by kernel_rfl)) (hv := fun _ => (by kernel_rfl)) (hH' := fun _ => (by kernel_rfl)) (h := fun r => ?_)
  obtain ⟨r15, r111, r131⟩ := r
  refine bUc ?_
  refine bUc ?_
  refine oP (.agg [.d (.int .i64 r15), .d (.int .i64 r111)]) k_extract ?_
  refine oP (.d (.int .i64 r131)) k_extract ?_
  refine bCall (caps := []) (v := (fun (x31 : Int) => (.agg [.d (.int .i64 r15), .d (.int .i64 r111)] : V))) (H' := (fun (x31 : Int) => ([.box [.d (.int .i64 x31)], .box [.d (.int .i64 a0), .d (.int .i64 a1)], .box [.d (.int .i64 b0), .d (.int .i64 b1)], .box [.d (.int .i64 0), .d (.int .i64 0)]] : List Blk))) [0] _ (conversion_calc_do_goes k r15 r111 r131 x) (ho := rfl) (hfn := Try.func83) (hb := rfl) (hconv := ConvRs.refl _ _) (hnd := by decide) (hBl := fun _ => (by kernel_rfl)) (hv := fun _ => (by kernel_rfl)) (hH' := fun _ => (by kernel_rfl)) (h := fun x31 => ?_)
  refine oD (.undef) (k_store (vs := [.d (.int .i64 r15), .d (.int .i64 r111)]) (H' := [.box [.d (.int .i64 x31)], .box [.d (.int .i64 a0), .d (.int .i64 a1)], .box [.d (.int .i64 b0), .d (.int .i64 b1)], .box [.d (.int .i64 r15), .d (.int .i64 r111)]]) 3 0 (hi := ty38)) ?_
  refine oEnd ?_
  exact oRet (r0 := (r15, r111, x31)) (rv := .agg [.d (.int .i64 r15), .d (.int .i64 r111)]) (B := [.box [.d (.int .i64 x31)]]) (vs := [.agg [.d (.int .i64 r15), .d (.int .i64 r111)]]) (σ := [0]) (hf := Try.func91) (hrs := rfl) (hres := .cons _ _ _ _ (.agg 6 38 3 0 [.d (.int .i64 r15), .d (.int .i64 r111)] [.d (.int .i64 r15), .d (.int .i64 r111)] _ _ _ _ (by kernel_rfl) (by kernel_rfl) Try.underlying38 (by kernel_rfl) ty38 (by kernel_rfl) (by kernel_rfl)) .nil) (hnd := by decide)

/-- (*awardingbody/conversion.calc).slope -/
def conversion_calc_slope (k : Nat) (l : (List SPoint)) (i : Int) (x : Int) : Option (Int × Int × Int) := gidx l i fun e1 => gidx l (IntKind.wrap .i64 (i - 1)) fun e11 => Option.bind (conversion_calc_sub k e1.Y_Num e1.Y_Den e11.Y_Num e11.Y_Den x) (uc fun r12 => uc fun r14 => fun x1 => Option.bind (conversion_calc_sub k e1.X_Num e1.X_Den e11.X_Num e11.X_Den x1) (uc fun r121 => uc fun r141 => fun x11 => Option.bind (conversion_calc_div k r12 r14 r121 r141 x11) (uc fun r122 => uc fun r142 => fun x12 => some (r122, r142, x12))))
def conversion_calc_slope_E (l : (List SPoint)) (i : Int) (x : Int) : Int × Int × Int → V × List Blk := uc fun r1 => uc fun r11 => fun x2 => (.agg [.d (.int .i64 r1), .d (.int .i64 r11)], [.box [.d (.int .i64 x2)]])
theorem conversion_calc_slope_goes (k : Nat) (l : (List SPoint)) (i : Int) (x : Int) : RunsO Try.prog 72 [.ptr 0 0, .d (.lit (List.map e_SPoint l)), .d (.int .i64 i)] [.box [.d (.int .i64 x)]] (conversion_calc_slope_E l i x) (conversion_calc_slope k l i x) := by
  refine RunsO.of_goes (N := 35) (m := 1) (T := [(0, .ptr 0 0), (1, .d (.lit (List.map e_SPoint l))), (2, .d (.int .i64 i))]) Try.func72 rfl rfl (h := ?_)
  unfold conversion_calc_slope
  refine bStart ?_
  refine oSR rfl ?_
  refine oD (.ptr 1 0) (k_alloc (H' := [.box [.d (.int .i64 x)], .box [.d (.int .i64 0), .d (.int .i64 0)]]) ty38) ?_
  refine oEnd ?_
  refine oSeq ?_
  refine oDraw [(0, 13), (1, 28)] rfl ?_
  refine aP 0 (.ptr 0 0) rfl p_move ?_
  refine aP 1 (.ptr 0 0) rfl p_move ?_
  refine aP 2 (.d (.lit (List.map e_SPoint l))) rfl p_move ?_
  refine aP 3 (.d (.int .i64 i)) rfl p_move ?_
  refine dIdx (fun e1 h1 h11 => ?_)
  refine aP 4 (.lptr (e_SPoint e1) 0) rfl (k_idxLit e_SPoint_len l (a := e1) (k := .i64) (i := i) (hu := Try.underlying30) (hi := ty60) (h0 := h1) (he := h11)) ?_
  refine aP 5 (.lptr (e_SPoint e1) 2) rfl (k_fieldAddrL (cells := e_SPoint e1) 0 (hu := Try.underlying60) (hf := rfl) (hi := ty38)) ?_
  refine aQ 6 [] (.agg [.d (.int .i64 e1.Y_Num), .d (.int .i64 e1.Y_Den)]) rfl (k_loadLAgg (cells := e_SPoint e1) 2 [(.int .i64 e1.Y_Num), (.int .i64 e1.Y_Den)] (hu := Try.underlying38) (hi := ty38)) ?_
  refine aP 7 (.d (.lit (List.map e_SPoint l))) rfl p_move ?_
  refine aP 8 (.d (.int .i64 i)) rfl p_move ?_
  refine aP 9 (.d (.int .i64 (IntKind.wrap .i64 (i - 1)))) rfl (p_int (k := .i64) (p := i) (q := 1)) ?_
  refine dIdx (fun e11 h12 h13 => ?_)
  refine aP 10 (.lptr (e_SPoint e11) 0) rfl (k_idxLit e_SPoint_len l (a := e11) (k := .i64) (i := (IntKind.wrap .i64 (i - 1))) (hu := Try.underlying30) (hi := ty60) (h0 := h12) (he := h13)) ?_
  refine aP 11 (.lptr (e_SPoint e11) 2) rfl (k_fieldAddrL (cells := e_SPoint e11) 0 (hu := Try.underlying60) (hf := rfl) (hi := ty38)) ?_
  refine aQ 12 [] (.agg [.d (.int .i64 e11.Y_Num), .d (.int .i64 e11.Y_Den)]) rfl (k_loadLAgg (cells := e_SPoint e11) 2 [(.int .i64 e11.Y_Num), (.int .i64 e11.Y_Den)] (hu := Try.underlying38) (hi := ty38)) ?_
  refine aP 14 (.ptr 0 0) rfl p_move ?_
  refine aP 15 (.d (.lit (List.map e_SPoint l))) rfl p_move ?_
  refine aP 16 (.d (.int .i64 i)) rfl p_move ?_
  refine aP 17 (.lptr (e_SPoint e1) 0) rfl (k_idxLit e_SPoint_len l (a := e1) (k := .i64) (i := i) (hu := Try.underlying30) (hi := ty60) (h0 := h1) (he := h11)) ?_
  refine aP 18 (.lptr (e_SPoint e1) 0) rfl (k_fieldAddrL (cells := e_SPoint e1) 0 (hu := Try.underlying60) (hf := rfl) (hi := ty38)) ?_
  refine aQ 19 [] (.agg [.d (.int .i64 e1.X_Num), .d (.int .i64 e1.X_Den)]) rfl (k_loadLAgg (cells := e_SPoint e1) 0 [(.int .i64 e1.X_Num), (.int .i64 e1.X_Den)] (hu := Try.underlying38) (hi := ty38)) ?_
  refine aP 20 (.d (.lit (List.map e_SPoint l))) rfl p_move ?_
  refine aP 21 (.d (.int .i64 i)) rfl p_move ?_
  refine aP 22 (.d (.int .i64 (IntKind.wrap .i64 (i - 1)))) rfl (p_int (k := .i64) (p := i) (q := 1)) ?_
  refine aP 23 (.lptr (e_SPoint e11) 0) rfl (k_idxLit e_SPoint_len l (a := e11) (k := .i64) (i := (IntKind.wrap .i64 (i - 1))) (hu := Try.underlying30) (hi := ty60) (h0 := h12) (he := h13)) ?_
  refine aP 24 (.lptr (e_SPoint e11) 0) rfl (k_fieldAddrL (cells := e_SPoint e11) 0 (hu := Try.underlying60) (hf := rfl) (hi := ty38)) ?_
  refine aQ 25 [] (.agg [.d (.int .i64 e11.X_Num), .d (.int .i64 e11.X_Den)]) rfl (k_loadLAgg (cells := e_SPoint e11) 0 [(.int .i64 e11.X_Num), (.int .i64 e11.X_Den)] (hu := Try.underlying38) (hi := ty38)) ?_
  refine dCall (i := 13) (caps := []) (v := (uc fun (r12 : Int) => (uc fun (r14 : Int) => (fun (x1 : Int) => (.agg [.d (.int .i64 r12), .d (.int .i64 r14)] : V))))) (H' := (uc fun (r12 : Int) => (uc fun (r14 : Int) => (fun (x1 : Int) => ([.box [.d (.int .i64 x1)], .box [.d (.int .i64 0), .d (.int .i64 0)]] : List Blk))))) [0] _ (conversion_calc_sub_goes k e1.Y_Num e1.Y_Den e11.Y_Num e11.Y_Den x) rfl (ho := rfl) (hfn := Try.func70) (hb := rfl) (hconv := ConvRs.refl _ _) (hnd := by decide) (hBl := fun _ => (by kernel_rfl)) (hv := fun _ => (by kernel_rfl)) (hH' := fun _ => (by kernel_rfl)) (h := fun r => ?_)
  obtain ⟨r12, r14, x1⟩ := r
  refine dUc ?_
  refine dUc ?_
  refine dCall (i := 26) (caps := []) (v := (uc fun (r121 : Int) => (uc fun (r141 : Int) => (fun (x11 : Int) => (.agg [.d (.int .i64 r121), .d (.int .i64 r141)] : V))))) (H' := (uc fun (r121 : Int) => (uc fun (r141 : Int) => (fun (x11 : Int) => ([.box [.d (.int .i64 x11)], .box [.d (.int .i64 0), .d (.int .i64 0)]] : List Blk))))) [0] _ (conversion_calc_sub_goes k e1.X_Num e1.X_Den e11.X_Num e11.X_Den x1) rfl (ho := rfl) (hfn := Try.func70) (hb := rfl) (hconv := ConvRs.refl _ _) (hnd := by decide) (hBl := fun _ => (by kernel_rfl)) (hv := fun _ => (by kernel_rfl)) (hH' := fun _ => (by kernel_rfl)) (h := fun r => ?_)
  obtain ⟨r121, r141, x11⟩ := r
  refine dUc ?_
  refine dUc ?_
  refine dCall (i := 27) (caps := []) (v := (uc fun (r122 : Int) => (uc fun (r142 : Int) => (fun (x12 : Int) => (.agg [.d (.int .i64 r122), .d (.int .i64 r142)] : V))))) (H' := (uc fun (r122 : Int) => (uc fun (r142 : Int) => (fun (x12 : Int) => ([.box [.d (.int .i64 x12)], .box [.d (.int .i64 0), .d (.int .i64 0)]] : List Blk))))) [0] _ (conversion_calc_div_goes k r12 r14 r121 r141 x11) rfl (ho := rfl) (hfn := Try.func91) (hb := rfl) (hconv := ConvRs.refl _ _) (hnd := by decide) (hBl := fun _ => (by kernel_rfl)) (hv := fun _ => (by kernel_rfl)) (hH' := fun _ => (by kernel_rfl)) (h := fun r => ?_)
  obtain ⟨r122, r142, x12⟩ := r
  refine dUc ?_
  refine dUc ?_
  refine aOne (i := 28) (v := .undef) rfl (hac := Does.acts (k_store (vs := [.d (.int .i64 r122), .d (.int .i64 r142)]) (H' := [.box [.d (.int .i64 x12)], .box [.d (.int .i64 r122), .d (.int .i64 r142)]]) 1 0 (hi := ty38))) (h := ?_)
  refine aDone (h := ?_)
  exact oRet (r0 := (r122, r142, x12)) (rv := .agg [.d (.int .i64 r122), .d (.int .i64 r142)]) (B := [.box [.d (.int .i64 x12)]]) (vs := [.agg [.d (.int .i64 r122), .d (.int .i64 r142)]]) (σ := [0]) (hf := Try.func72) (hrs := rfl) (hres := .cons _ _ _ _ (.agg 6 38 1 0 [.d (.int .i64 r122), .d (.int .i64 r142)] [.d (.int .i64 r122), .d (.int .i64 r142)] _ _ _ _ (by kernel_rfl) (by kernel_rfl) Try.underlying38 (by kernel_rfl) ty38 (by kernel_rfl) (by kernel_rfl)) .nil) (hnd := by decide)

/-- awardingbody/conversion.whole -/
def conversion_whole (k : Nat) (n : Int) : Option (Unit) := some ()
def conversion_whole_E (n : Int) : Unit → V × List Blk := u0 ((.agg [.d (.int .i64 n), .d (.int .i64 1)], []))
theorem conversion_whole_goes (k : Nat) (n : Int) : RunsO Try.prog 55 [.d (.int .i64 n)] [] (conversion_whole_E n) (conversion_whole k n) := by
  refine RunsO.of_goes (N := 5) (m := 0) (T := [(0, .d (.int .i64 n))]) Try.func55 rfl rfl (h := ?_)
  unfold conversion_whole
  refine bStart ?_
  refine oSR rfl ?_
  refine oD (.ptr 0 0) (k_alloc (H' := [.box [.d (.int .i64 0), .d (.int .i64 0)]]) ty38) ?_
  refine oEnd ?_
  refine oSR rfl ?_
  refine oP (.d (.int .i64 n)) p_move ?_
  refine oP (.agg [.d (.int .i64 n), .d (.int .i64 1)]) (p_build bld38) ?_
  refine oD (.undef) (k_store (vs := [.d (.int .i64 n), .d (.int .i64 1)]) (H' := [.box [.d (.int .i64 n), .d (.int .i64 1)]]) 0 0 (hi := ty38)) ?_
  refine oEnd ?_
  exact oRet (r0 := ()) (rv := .agg [.d (.int .i64 n), .d (.int .i64 1)]) (B := []) (vs := [.agg [.d (.int .i64 n), .d (.int .i64 1)]]) (σ := []) (hf := Try.func55) (hrs := rfl) (hres := .cons _ _ _ _ (.agg 2 38 0 0 [.d (.int .i64 n), .d (.int .i64 1)] [.d (.int .i64 n), .d (.int .i64 1)] _ _ _ _ (by kernel_rfl) (by kernel_rfl) Try.underlying38 (by kernel_rfl) ty38 (by kernel_rfl) (by kernel_rfl)) .nil) (hnd := by decide)

/-- (*awardingbody/conversion.calc).add -/
def conversion_calc_add (k : Nat) (a0 : Int) (a1 : Int) (b0 : Int) (b1 : Int) (x : Int) : Option (Int × Int × Int) := Option.bind (ratio_Add k a0 a1 b0 b1) (uc fun r171 => uc fun r181 => fun r191 => Option.bind (conversion_calc_do k r171 r181 r191 x) (fun x31 => some (r171, r181, x31)))
def conversion_calc_add_E (a0 : Int) (a1 : Int) (b0 : Int) (b1 : Int) (x : Int) : Int × Int × Int → V × List Blk := uc fun r1 => uc fun r11 => fun x1 => (.agg [.d (.int .i64 r1), .d (.int .i64 r11)], [.box [.d (.int .i64 x1)]])
theorem conversion_calc_add_goes (k : Nat) (a0 : Int) (a1 : Int) (b0 : Int) (b1 : Int) (x : Int) : RunsO Try.prog 54 [.ptr 0 0, .agg [.d (.int .i64 a0), .d (.int .i64 a1)], .agg [.d (.int .i64 b0), .d (.int .i64 b1)]] [.box [.d (.int .i64 x)]] (conversion_calc_add_E a0 a1 b0 b1 x) (conversion_calc_add k a0 a1 b0 b1 x) := by
  refine RunsO.of_goes (N := 14) (m := 1) (T := [(0, .ptr 0 0), (1, .agg [.d (.int .i64 a0), .d (.int .i64 a1)]), (2, .agg [.d (.int .i64 b0), .d (.int .i64 b1)])]) Try.func54 rfl rfl (h := ?_)
  unfold conversion_calc_add
  refine bStart ?_
  refine oSR rfl ?_
  refine oD (.ptr 1 0) (k_box (H' := [.box [.d (.int .i64 x)], .box [.d (.int .i64 a0), .d (.int .i64 a1)]]) (cells := [.d (.int .i64 a0), .d (.int .i64 a1)])) ?_
  refine oD (.ptr 2 0) (k_box (H' := [.box [.d (.int .i64 x)], .box [.d (.int .i64 a0), .d (.int .i64 a1)], .box [.d (.int .i64 b0), .d (.int .i64 b1)]]) (cells := [.d (.int .i64 b0), .d (.int .i64 b1)])) ?_
  refine oD (.ptr 3 0) (k_alloc (H' := [.box [.d (.int .i64 x)], .box [.d (.int .i64 a0), .d (.int .i64 a1)], .box [.d (.int .i64 b0), .d (.int .i64 b1)], .box [.d (.int .i64 0), .d (.int .i64 0)]]) ty38) ?_
  refine oEnd ?_
  refine oSR rfl ?_
  refine oP (.ptr 0 0) p_move ?_
  refine oQ (.agg [.d (.int .i64 a0), .d (.int .i64 a1)]) (k_loadAgg 1 0 (hu := Try.underlying38) (hi := ty38)) ?_
  refine oQ (.agg [.d (.int .i64 b0), .d (.int .i64 b1)]) (k_loadAgg 2 0 (hu := Try.underlying38) (hi := ty38)) ?_
  refine bCall (caps := []) (v := (uc fun (r171 : Int) => (uc fun (r181 : Int) => (fun (r191 : Int) => (.tuple [.agg [.d (.int .i64 r171), .d (.int .i64 r181)], .d (.int .i64 r191)] : V))))) (H' := (uc fun (r171 : Int) => (uc fun (r181 : Int) => (fun (r191 : Int) => ([.box [.d (.int .i64 x)], .box [.d (.int .i64 a0), .d (.int .i64 a1)], .box [.d (.int .i64 b0), .d (.int .i64 b1)], .box [.d (.int .i64 0), .d (.int .i64 0)]] : List Blk))))) [] _ (ratio_Add_goes k a0 a1 b0 b1) (ho := rfl) (hfn := Try.func84) (hb := rfl) (hconv := ConvRs.refl _ _) (hnd := by decide) (hBl := fun _ => (by kernel_rfl)) (hv := fun _ => (by kernel_rfl)) (hH' := fun _ => (by kernel_rfl)) (h := fun r => ?_)
  obtain ⟨r171, r181, r191⟩ := r
  refine bUc ?_
  refine bUc ?_
  refine oP (.agg [.d (.int .i64 r171), .d (.int .i64 r181)]) k_extract ?_
  refine oP (.d (.int .i64 r191)) k_extract ?_
  refine bCall (caps := []) (v := (fun (x31 : Int) => (.agg [.d (.int .i64 r171), .d (.int .i64 r181)] : V))) (H' := (fun (x31 : Int) => ([.box [.d (.int .i64 x31)], .box [.d (.int .i64 a0), .d (.int .i64 a1)], .box [.d (.int .i64 b0), .d (.int .i64 b1)], .box [.d (.int .i64 0), .d (.int .i64 0)]] : List Blk))) [0] _ (conversion_calc_do_goes k r171 r181 r191 x) (ho := rfl) (hfn := Try.func83) (hb := rfl) (hconv := ConvRs.refl _ _) (hnd := by decide) (hBl := fun _ => (by kernel_rfl)) (hv := fun _ => (by kernel_rfl)) (hH' := fun _ => (by kernel_rfl)) (h := fun x31 => ?_)
  refine oD (.undef) (k_store (vs := [.d (.int .i64 r171), .d (.int .i64 r181)]) (H' := [.box [.d (.int .i64 x31)], .box [.d (.int .i64 a0), .d (.int .i64 a1)], .box [.d (.int .i64 b0), .d (.int .i64 b1)], .box [.d (.int .i64 r171), .d (.int .i64 r181)]]) 3 0 (hi := ty38)) ?_
  refine oEnd ?_
  exact oRet (r0 := (r171, r181, x31)) (rv := .agg [.d (.int .i64 r171), .d (.int .i64 r181)]) (B := [.box [.d (.int .i64 x31)]]) (vs := [.agg [.d (.int .i64 r171), .d (.int .i64 r181)]]) (σ := [0]) (hf := Try.func54) (hrs := rfl) (hres := .cons _ _ _ _ (.agg 6 38 3 0 [.d (.int .i64 r171), .d (.int .i64 r181)] [.d (.int .i64 r171), .d (.int .i64 r181)] _ _ _ _ (by kernel_rfl) (by kernel_rfl) Try.underlying38 (by kernel_rfl) ty38 (by kernel_rfl) (by kernel_rfl)) .nil) (hnd := by decide)

/-- (*awardingbody/conversion.calc).eval$1 -/
def conversion_calc_eval_1 (k : Nat) (i : Int) (x : (List SPoint)) (x1 : Int) (x2 : Int) : Option (Bool) := gidx x (IntKind.wrap .i64 (i + 1)) fun e1 => Option.bind (ratio_Less k e1.X_Num e1.X_Den x1 x2) (fun r1 => some (!r1))
def conversion_calc_eval_1_E (i : Int) (x : (List SPoint)) (x1 : Int) (x2 : Int) : Bool → V × List Blk := fun r11 => (.d (.bool r11), [.box [.d (.lit (List.map e_SPoint x))], .box [.d (.int .i64 x1), .d (.int .i64 x2)]])
theorem conversion_calc_eval_1_goes (k : Nat) (i : Int) (x : (List SPoint)) (x1 : Int) (x2 : Int) : RunsO Try.prog 68 [.d (.int .i64 i), .ptr 0 0, .ptr 1 0] [.box [.d (.lit (List.map e_SPoint x))], .box [.d (.int .i64 x1), .d (.int .i64 x2)]] (conversion_calc_eval_1_E i x x1 x2) (conversion_calc_eval_1 k i x x1 x2) := by
  refine RunsO.of_goes (N := 14) (m := 2) (T := [(0, .d (.int .i64 i)), (1, .ptr 0 0), (2, .ptr 1 0)]) Try.func68 rfl rfl (h := ?_)
  unfold conversion_calc_eval_1
  refine bStart ?_
  refine oSR rfl ?_
  refine oP (.d (.bool false)) p_assign ?_
  refine oEnd ?_
  refine oSeq ?_
  refine oDraw [(0, 10), (1, 10)] rfl ?_
  refine aQ 0 [0] (.d (.lit (List.map e_SPoint x))) rfl (k_load 0 0 (hu := Try.underlying30)) ?_
  refine aP 1 (.d (.int .i64 i)) rfl p_move ?_
  refine aP 2 (.d (.int .i64 (IntKind.wrap .i64 (i + 1)))) rfl (p_int (k := .i64) (p := i) (q := 1)) ?_
  refine dIdx (fun e1 h1 h11 => ?_)
  refine aP 3 (.lptr (e_SPoint e1) 0) rfl (k_idxLit e_SPoint_len x (a := e1) (k := .i64) (i := (IntKind.wrap .i64 (i + 1))) (hu := Try.underlying30) (hi := ty60) (h0 := h1) (he := h11)) ?_
  refine aP 4 (.lptr (e_SPoint e1) 0) rfl (k_fieldAddrL (cells := e_SPoint e1) 0 (hu := Try.underlying60) (hf := rfl) (hi := ty38)) ?_
  refine aQ 5 [] (.agg [.d (.int .i64 e1.X_Num), .d (.int .i64 e1.X_Den)]) rfl (k_loadLAgg (cells := e_SPoint e1) 0 [(.int .i64 e1.X_Num), (.int .i64 e1.X_Den)] (hu := Try.underlying38) (hi := ty38)) ?_
  refine aQ 6 [1] (.agg [.d (.int .i64 x1), .d (.int .i64 x2)]) rfl (k_loadAgg 1 0 (hu := Try.underlying38) (hi := ty38)) ?_
  refine dCall (i := 7) (caps := []) (v := (fun (r1 : Bool) => (.d (.bool r1) : V))) (H' := (fun (r1 : Bool) => ([.box [.d (.lit (List.map e_SPoint x))], .box [.d (.int .i64 x1), .d (.int .i64 x2)]] : List Blk))) [] _ (ratio_Less_goes k e1.X_Num e1.X_Den x1 x2) rfl (ho := rfl) (hfn := Try.func69) (hb := rfl) (hconv := ConvRs.refl _ _) (hnd := by decide) (hBl := fun _ => (by kernel_rfl)) (hv := fun _ => (by kernel_rfl)) (hH' := fun _ => (by kernel_rfl)) (h := fun r1 => ?_)
  refine aP 8 (.d (.bool (!r1))) rfl (p_not (p := r1)) ?_
  refine aP 9 (.d (.bool (!r1))) rfl p_assign ?_
  refine aDone (h := ?_)
  exact oRet (r0 := (!r1)) (rv := .d (.bool (!r1))) (B := [.box [.d (.lit (List.map e_SPoint x))], .box [.d (.int .i64 x1), .d (.int .i64 x2)]]) (vs := [.d (.bool (!r1))]) (σ := [0, 1]) (hf := Try.func68) (hrs := rfl) (hres := .cons _ _ _ _ (.tmp 4 _ (by kernel_rfl)) .nil) (hnd := by decide)

/-- sort.Search -/
def sort_Search_b1 (k : Nat) (x : (List SPoint)) (x1 : Int) (x2 : Int) (again : Int × Int → Option (Int)) : Int × Int → Option (Int) := uc fun i6 => fun j4 => bif (decide (i6 < j4)) then Option.bind (conversion_calc_eval_1 k (IntKind.wrap .i64 (Int.fdiv (IntKind.wrap .u64 (IntKind.wrap .i64 (i6 + j4))) (2 ^ (min (Int.toNat 1) (IntKind.bits .u64))))) x x1 x2) (fun r116 => bif (!r116) then again ((IntKind.wrap .i64 ((IntKind.wrap .i64 (Int.fdiv (IntKind.wrap .u64 (IntKind.wrap .i64 (i6 + j4))) (2 ^ (min (Int.toNat 1) (IntKind.bits .u64))))) + 1)), j4) else again (i6, (IntKind.wrap .i64 (Int.fdiv (IntKind.wrap .u64 (IntKind.wrap .i64 (i6 + j4))) (2 ^ (min (Int.toNat 1) (IntKind.bits .u64))))))) else some i6
def sort_Search (k : Nat) (n : Int) (x : (List SPoint)) (x1 : Int) (x2 : Int) : Option (Int) := Option.bind (gloop (sort_Search_b1 k x x1 x2) k (0, n) : Option (Int)) (fun i5 => some i5)
def sort_Search_E (n : Int) (x : (List SPoint)) (x1 : Int) (x2 : Int) : Int → V × List Blk := fun r1 => (.d (.int .i64 r1), [.box [.d (.lit (List.map e_SPoint x))], .box [.d (.int .i64 x1), .d (.int .i64 x2)]])
theorem sort_Search_goes (k : Nat) (n : Int) (x : (List SPoint)) (x1 : Int) (x2 : Int) : RunsO Try.prog 67 [.d (.int .i64 n), .fn 68 [.ptr 0 0, .ptr 1 0]] [.box [.d (.lit (List.map e_SPoint x))], .box [.d (.int .i64 x1), .d (.int .i64 x2)]] (sort_Search_E n x x1 x2) (sort_Search k n x x1 x2) := by
  refine RunsO.of_goes (N := 26) (m := 2) (T := [(0, .d (.int .i64 n)), (1, .fn 68 [.ptr 0 0, .ptr 1 0])]) Try.func67 rfl rfl (h := ?_)
  unfold sort_Search
  refine bStart ?_
  refine oSR rfl ?_
  refine oP (.d (.int .i64 0)) p_assign ?_
  refine oEnd ?_
  refine oSR rfl ?_
  refine oP (.d (.int .i64 n)) p_move ?_
  refine oP (.d (.int .i64 0)) p_assign ?_
  refine oP (.d (.int .i64 n)) p_assign ?_
  refine oEnd ?_
  refine oSeq ?_
  refine bJoin ((fun (i5 : Int) => [(5, .d (.int .i64 i5))])) ((fun (i5 : Int) => [.box [.d (.lit (List.map e_SPoint x))], .box [.d (.int .i64 x1), .d (.int .i64 x2)]])) (fun s => s) (fun i5 => ?_) (fun hj2 => ?_)
  ·refine oView (T' := [(5, .d (.int .i64 i5))]) (H' := [.box [.d (.lit (List.map e_SPoint x))], .box [.d (.int .i64 x1), .d (.int .i64 x2)]]) (h := ?_)
   refine oSR rfl ?_
   refine oP (.d (.int .i64 i5)) p_move ?_
   refine oP (.d (.int .i64 i5)) p_assign ?_
   refine oEnd ?_
   exact oRet (r0 := i5) (rv := .d (.int .i64 i5)) (B := [.box [.d (.lit (List.map e_SPoint x))], .box [.d (.int .i64 x1), .d (.int .i64 x2)]]) (vs := [.d (.int .i64 i5)]) (σ := [0, 1]) (hf := Try.func67) (hrs := rfl) (hres := .cons _ _ _ _ (.tmp 4 _ (by kernel_rfl)) .nil) (hnd := by decide)
  ·refine oBlock ?_
   refine oLoop ?_
   refine oHead [1, 5, 6] [0, 1] (T' := [(1, .fn 68 [.ptr 0 0, .ptr 1 0]), (5, .d (.int .i64 0)), (6, .d (.int .i64 n))]) (H' := [.box [.d (.lit (List.map e_SPoint x))], .box [.d (.int .i64 x1), .d (.int .i64 x2)]]) (hnd := by decide) (h := ?_)
   refine bLoop (body := sort_Search_b1 k x x1 x2) ((uc fun (i6 : Int) => (fun (j4 : Int) => [(1, .fn 68 [.ptr 0 0, .ptr 1 0]), (5, .d (.int .i64 i6)), (6, .d (.int .i64 j4))]))) ((uc fun (i6 : Int) => (fun (j4 : Int) => [.box [.d (.lit (List.map e_SPoint x))], .box [.d (.int .i64 x1), .d (.int .i64 x2)]]))) (fun again hag1 s => ?_) k (0, n)
   ·unfold sort_Search_b1
    obtain ⟨i6, j4⟩ := s
    refine bUc ?_
    refine oView (T' := [(1, .fn 68 [.ptr 0 0, .ptr 1 0]), (5, .d (.int .i64 i6)), (6, .d (.int .i64 j4))]) (H' := [.box [.d (.lit (List.map e_SPoint x))], .box [.d (.int .i64 x1), .d (.int .i64 x2)]]) (h := ?_)
    refine oSeq ?_
    refine oSR rfl ?_
    refine oP (.d (.int .i64 i6)) p_move ?_
    refine oP (.d (.int .i64 j4)) p_move ?_
    refine oP (.d (.bool (decide (i6 < j4)))) (p_int (k := .i64) (p := i6) (q := j4)) ?_
    refine oEnd ?_
    refine bSplit 11 (h1 := fun hc => ?_) (h2 := fun hc => ?_)
    ·refine oCondT (h := ?_)
     refine oSkip ?_
     refine oBlock ?_
     refine oSR rfl ?_
     refine oP (.d (.int .i64 i6)) p_move ?_
     refine oP (.d (.int .i64 j4)) p_move ?_
     refine oP (.d (.int .i64 (IntKind.wrap .i64 (i6 + j4)))) (p_int (k := .i64) (p := i6) (q := j4)) ?_
     refine oP (.d (.int .u64 (IntKind.wrap .u64 (IntKind.wrap .i64 (i6 + j4))))) (p_conv (k := .i64) (p := (IntKind.wrap .i64 (i6 + j4))) (hu1 := Try.underlying3) (hu2 := Try.underlying107)) ?_
     refine oP (.d (.int .u64 (Int.fdiv (IntKind.wrap .u64 (IntKind.wrap .i64 (i6 + j4))) (2 ^ (min (Int.toNat 1) (IntKind.bits .u64)))))) (p_shr (k := .u64) (k2 := .u64) (p := (IntKind.wrap .u64 (IntKind.wrap .i64 (i6 + j4)))) (q := 1) (hq := by decide)) ?_
     refine oP (.d (.int .i64 (IntKind.wrap .i64 (Int.fdiv (IntKind.wrap .u64 (IntKind.wrap .i64 (i6 + j4))) (2 ^ (min (Int.toNat 1) (IntKind.bits .u64))))))) (p_conv (k := .u64) (p := (Int.fdiv (IntKind.wrap .u64 (IntKind.wrap .i64 (i6 + j4))) (2 ^ (min (Int.toNat 1) (IntKind.bits .u64))))) (hu1 := Try.underlying107) (hu2 := Try.underlying3)) ?_
     refine oP (.d (.int .i64 (IntKind.wrap .i64 (Int.fdiv (IntKind.wrap .u64 (IntKind.wrap .i64 (i6 + j4))) (2 ^ (min (Int.toNat 1) (IntKind.bits .u64))))))) p_assign ?_
     refine oEnd ?_
     refine oSR rfl ?_
     refine oP (.fn 68 [.ptr 0 0, .ptr 1 0]) p_move ?_
     refine oP (.d (.int .i64 (IntKind.wrap .i64 (Int.fdiv (IntKind.wrap .u64 (IntKind.wrap .i64 (i6 + j4))) (2 ^ (min (Int.toNat 1) (IntKind.bits .u64))))))) p_move ?_
     refine bCall (caps := [.ptr 0 0, .ptr 1 0]) (v := (fun (r116 : Bool) => (.d (.bool r116) : V))) (H' := (fun (r116 : Bool) => ([.box [.d (.lit (List.map e_SPoint x))], .box [.d (.int .i64 x1), .d (.int .i64 x2)]] : List Blk))) [0, 1] _ (conversion_calc_eval_1_goes k (IntKind.wrap .i64 (Int.fdiv (IntKind.wrap .u64 (IntKind.wrap .i64 (i6 + j4))) (2 ^ (min (Int.toNat 1) (IntKind.bits .u64))))) x x1 x2) (ho := rfl) (hfn := Try.func68) (hb := rfl) (hconv := ConvRs.refl _ _) (hnd := by decide) (hBl := fun _ => (by kernel_rfl)) (hv := fun _ => (by kernel_rfl)) (hH' := fun _ => (by kernel_rfl)) (h := fun r116 => ?_)
     refine oP (.d (.bool (!r116))) (p_not (p := r116)) ?_
     refine oEnd ?_
     refine bSplit 21 (h1 := fun hc => ?_) (h2 := fun hc => ?_)
     ·refine oCondT (h := ?_)
      refine oRegion rfl ?_
      refine oP (.d (.int .i64 (IntKind.wrap .i64 (Int.fdiv (IntKind.wrap .u64 (IntKind.wrap .i64 (i6 + j4))) (2 ^ (min (Int.toNat 1) (IntKind.bits .u64))))))) p_move ?_
      refine oP (.d (.int .i64 (IntKind.wrap .i64 ((IntKind.wrap .i64 (Int.fdiv (IntKind.wrap .u64 (IntKind.wrap .i64 (i6 + j4))) (2 ^ (min (Int.toNat 1) (IntKind.bits .u64))))) + 1)))) (p_int (k := .i64) (p := (IntKind.wrap .i64 (Int.fdiv (IntKind.wrap .u64 (IntKind.wrap .i64 (i6 + j4))) (2 ^ (min (Int.toNat 1) (IntKind.bits .u64)))))) (q := 1)) ?_
      refine oP (.d (.int .i64 (IntKind.wrap .i64 ((IntKind.wrap .i64 (Int.fdiv (IntKind.wrap .u64 (IntKind.wrap .i64 (i6 + j4))) (2 ^ (min (Int.toNat 1) (IntKind.bits .u64))))) + 1)))) p_assign ?_
      refine oEnd ?_
      refine oBlk ?_
      refine oAgain ?_
      refine oHead [1, 5, 6] [0, 1] (T' := [(1, .fn 68 [.ptr 0 0, .ptr 1 0]), (5, .d (.int .i64 (IntKind.wrap .i64 ((IntKind.wrap .i64 (Int.fdiv (IntKind.wrap .u64 (IntKind.wrap .i64 (i6 + j4))) (2 ^ (min (Int.toNat 1) (IntKind.bits .u64))))) + 1)))), (6, .d (.int .i64 j4))]) (H' := [.box [.d (.lit (List.map e_SPoint x))], .box [.d (.int .i64 x1), .d (.int .i64 x2)]]) (hnd := by decide) (h := ?_)
      exact hag1 ((IntKind.wrap .i64 ((IntKind.wrap .i64 (Int.fdiv (IntKind.wrap .u64 (IntKind.wrap .i64 (i6 + j4))) (2 ^ (min (Int.toNat 1) (IntKind.bits .u64))))) + 1)), j4)
     ·refine oCondF (h := ?_)
      refine oRegion rfl ?_
      refine oP (.d (.int .i64 (IntKind.wrap .i64 (Int.fdiv (IntKind.wrap .u64 (IntKind.wrap .i64 (i6 + j4))) (2 ^ (min (Int.toNat 1) (IntKind.bits .u64))))))) p_move ?_
      refine oP (.d (.int .i64 (IntKind.wrap .i64 (Int.fdiv (IntKind.wrap .u64 (IntKind.wrap .i64 (i6 + j4))) (2 ^ (min (Int.toNat 1) (IntKind.bits .u64))))))) p_assign ?_
      refine oEnd ?_
      refine oBlk ?_
      refine oAgain ?_
      refine oHead [1, 5, 6] [0, 1] (T' := [(1, .fn 68 [.ptr 0 0, .ptr 1 0]), (5, .d (.int .i64 i6)), (6, .d (.int .i64 (IntKind.wrap .i64 (Int.fdiv (IntKind.wrap .u64 (IntKind.wrap .i64 (i6 + j4))) (2 ^ (min (Int.toNat 1) (IntKind.bits .u64)))))))]) (H' := [.box [.d (.lit (List.map e_SPoint x))], .box [.d (.int .i64 x1), .d (.int .i64 x2)]]) (hnd := by decide) (h := ?_)
      exact hag1 (i6, (IntKind.wrap .i64 (Int.fdiv (IntKind.wrap .u64 (IntKind.wrap .i64 (i6 + j4))) (2 ^ (min (Int.toNat 1) (IntKind.bits .u64))))))
    ·refine oCondF (h := ?_)
     refine oExit rfl ?_
     refine oHead [5] [0, 1] (T' := [(5, .d (.int .i64 i6))]) (H' := [.box [.d (.lit (List.map e_SPoint x))], .box [.d (.int .i64 x1), .d (.int .i64 x2)]]) (hnd := by decide) (h := ?_)
     exact hj2 i6

/-- (*awardingbody/conversion.calc).mul -/
def conversion_calc_mul (k : Nat) (a0 : Int) (a1 : Int) (b0 : Int) (b1 : Int) (x : Int) : Option (Int × Int × Int) := Option.bind (ratio_Mul k a0 a1 b0 b1) (uc fun r171 => uc fun r181 => fun r191 => Option.bind (conversion_calc_do k r171 r181 r191 x) (fun x31 => some (r171, r181, x31)))
def conversion_calc_mul_E (a0 : Int) (a1 : Int) (b0 : Int) (b1 : Int) (x : Int) : Int × Int × Int → V × List Blk := uc fun r1 => uc fun r11 => fun x1 => (.agg [.d (.int .i64 r1), .d (.int .i64 r11)], [.box [.d (.int .i64 x1)]])
theorem conversion_calc_mul_goes (k : Nat) (a0 : Int) (a1 : Int) (b0 : Int) (b1 : Int) (x : Int) : RunsO Try.prog 71 [.ptr 0 0, .agg [.d (.int .i64 a0), .d (.int .i64 a1)], .agg [.d (.int .i64 b0), .d (.int .i64 b1)]] [.box [.d (.int .i64 x)]] (conversion_calc_mul_E a0 a1 b0 b1 x) (conversion_calc_mul k a0 a1 b0 b1 x) := by
  refine RunsO.of_goes (N := 14) (m := 1) (T := [(0, .ptr 0 0), (1, .agg [.d (.int .i64 a0), .d (.int .i64 a1)]), (2, .agg [.d (.int .i64 b0), .d (.int .i64 b1)])]) Try.func71 rfl rfl (h := ?_)
  unfold conversion_calc_mul
  refine bStart ?_
  refine oSR rfl ?_
  refine oD (.ptr 1 0) (k_box (H' := [.box [.d (.int .i64 x)], .box [.d (.int .i64 a0), .d (.int .i64 a1)]]) (cells := [.d (.int .i64 a0), .d (.int .i64 a1)])) ?_
  refine oD (.ptr 2 0) (k_box (H' := [.box [.d (.int .i64 x)], .box [.d (.int .i64 a0), .d (.int .i64 a1)], .box [.d (.int .i64 b0), .d (.int .i64 b1)]]) (cells := [.d (.int .i64 b0), .d (.int .i64 b1)])) ?_
  refine oD (.ptr 3 0) (k_alloc (H' := [.box [.d (.int .i64 x)], .box [.d (.int .i64 a0), .d (.int .i64 a1)], .box [.d (.int .i64 b0), .d (.int .i64 b1)], .box [.d (.int .i64 0), .d (.int .i64 0)]]) ty38) ?_
  refine oEnd ?_
  refine oSR rfl ?_
  refine oP (.ptr 0 0) p_move ?_
  refine oQ (.agg [.d (.int .i64 a0), .d (.int .i64 a1)]) (k_loadAgg 1 0 (hu := Try.underlying38) (hi := ty38)) ?_
  refine oQ (.agg [.d (.int .i64 b0), .d (.int .i64 b1)]) (k_loadAgg 2 0 (hu := Try.underlying38) (hi := ty38)) ?_
  refine bCall (caps := []) (v := (uc fun (r171 : Int) => (uc fun (r181 : Int) => (fun (r191 : Int) => (.tuple [.agg [.d (.int .i64 r171), .d (.int .i64 r181)], .d (.int .i64 r191)] : V))))) (H' := (uc fun (r171 : Int) => (uc fun (r181 : Int) => (fun (r191 : Int) => ([.box [.d (.int .i64 x)], .box [.d (.int .i64 a0), .d (.int .i64 a1)], .box [.d (.int .i64 b0), .d (.int .i64 b1)], .box [.d (.int .i64 0), .d (.int .i64 0)]] : List Blk))))) [] _ (ratio_Mul_goes k a0 a1 b0 b1) (ho := rfl) (hfn := Try.func74) (hb := rfl) (hconv := ConvRs.refl _ _) (hnd := by decide) (hBl := fun _ => (by kernel_rfl)) (hv := fun _ => (by kernel_rfl)) (hH' := fun _ => (by kernel_rfl)) (h := fun r => ?_)
  obtain ⟨r171, r181, r191⟩ := r
  refine bUc ?_
  refine bUc ?_
  refine oP (.agg [.d (.int .i64 r171), .d (.int .i64 r181)]) k_extract ?_
  refine oP (.d (.int .i64 r191)) k_extract ?_
  refine bCall (caps := []) (v := (fun (x31 : Int) => (.agg [.d (.int .i64 r171), .d (.int .i64 r181)] : V))) (H' := (fun (x31 : Int) => ([.box [.d (.int .i64 x31)], .box [.d (.int .i64 a0), .d (.int .i64 a1)], .box [.d (.int .i64 b0), .d (.int .i64 b1)], .box [.d (.int .i64 0), .d (.int .i64 0)]] : List Blk))) [0] _ (conversion_calc_do_goes k r171 r181 r191 x) (ho := rfl) (hfn := Try.func83) (hb := rfl) (hconv := ConvRs.refl _ _) (hnd := by decide) (hBl := fun _ => (by kernel_rfl)) (hv := fun _ => (by kernel_rfl)) (hH' := fun _ => (by kernel_rfl)) (h := fun x31 => ?_)
  refine oD (.undef) (k_store (vs := [.d (.int .i64 r171), .d (.int .i64 r181)]) (H' := [.box [.d (.int .i64 x31)], .box [.d (.int .i64 a0), .d (.int .i64 a1)], .box [.d (.int .i64 b0), .d (.int .i64 b1)], .box [.d (.int .i64 r171), .d (.int .i64 r181)]]) 3 0 (hi := ty38)) ?_
  refine oEnd ?_
  exact oRet (r0 := (r171, r181, x31)) (rv := .agg [.d (.int .i64 r171), .d (.int .i64 r181)]) (B := [.box [.d (.int .i64 x31)]]) (vs := [.agg [.d (.int .i64 r171), .d (.int .i64 r181)]]) (σ := [0]) (hf := Try.func71) (hrs := rfl) (hres := .cons _ _ _ _ (.agg 6 38 3 0 [.d (.int .i64 r171), .d (.int .i64 r181)] [.d (.int .i64 r171), .d (.int .i64 r181)] _ _ _ _ (by kernel_rfl) (by kernel_rfl) Try.underlying38 (by kernel_rfl) ty38 (by kernel_rfl) (by kernel_rfl)) .nil) (hnd := by decide)

/-- (*awardingbody/conversion.calc).eval -/
def conversion_calc_eval (k : Nat) (l : (List SPoint)) (x0 : Int) (x1 : Int) (x : Int) : Option (Int × Int × Int) := Option.bind (sort_Search k (IntKind.wrap .i64 (((List.length l) : Int) - 2)) l x0 x1) (fun r18 => gidx l (IntKind.wrap .i64 ((IntKind.wrap .i64 (1 + r18)) - 1)) fun e1 => Option.bind (conversion_calc_sub k x0 x1 e1.X_Num e1.X_Den x) (uc fun r12 => uc fun r14 => fun x11 => Option.bind (conversion_calc_slope k l (IntKind.wrap .i64 (1 + r18)) x11) (uc fun r11 => uc fun r111 => fun x2 => Option.bind (conversion_calc_mul k r12 r14 r11 r111 x2) (uc fun r13 => uc fun r112 => fun x12 => Option.bind (conversion_calc_add k e1.Y_Num e1.Y_Den r13 r112 x12) (uc fun r15 => uc fun r113 => fun x13 => some (r15, r113, x13))))))
def conversion_calc_eval_E (l : (List SPoint)) (x0 : Int) (x1 : Int) (x : Int) : Int × Int × Int → V × List Blk := uc fun r16 => uc fun r17 => fun x3 => (.agg [.d (.int .i64 r16), .d (.int .i64 r17)], [.box [.d (.int .i64 x3)]])
theorem conversion_calc_eval_goes (k : Nat) (l : (List SPoint)) (x0 : Int) (x1 : Int) (x : Int) : RunsO Try.prog 40 [.ptr 0 0, .d (.lit (List.map e_SPoint l)), .agg [.d (.int .i64 x0), .d (.int .i64 x1)]] [.box [.d (.int .i64 x)]] (conversion_calc_eval_E l x0 x1 x) (conversion_calc_eval k l x0 x1 x) := by
  refine RunsO.of_goes (N := 39) (m := 1) (T := [(0, .ptr 0 0), (1, .d (.lit (List.map e_SPoint l))), (2, .agg [.d (.int .i64 x0), .d (.int .i64 x1)])]) Try.func40 rfl rfl (h := ?_)
  unfold conversion_calc_eval
  refine bStart ?_
  refine oSR rfl ?_
  refine oD (.ptr 1 0) (k_box (H' := [.box [.d (.int .i64 x)], .box [.d (.lit (List.map e_SPoint l))]]) (cells := [.d (.lit (List.map e_SPoint l))])) ?_
  refine oD (.ptr 2 0) (k_box (H' := [.box [.d (.int .i64 x)], .box [.d (.lit (List.map e_SPoint l))], .box [.d (.int .i64 x0), .d (.int .i64 x1)]]) (cells := [.d (.int .i64 x0), .d (.int .i64 x1)])) ?_
  refine oD (.ptr 3 0) (k_alloc (H' := [.box [.d (.int .i64 x)], .box [.d (.lit (List.map e_SPoint l))], .box [.d (.int .i64 x0), .d (.int .i64 x1)], .box [.d (.int .i64 0), .d (.int .i64 0)]]) ty38) ?_
  refine oEnd ?_
  refine oSR rfl ?_
  refine oQ (.d (.lit (List.map e_SPoint l))) (k_load 1 0 (hu := Try.underlying30)) ?_
  refine oP (.d (.int .i64 ((List.length l) : Int))) (k_lenLit (enc := e_SPoint) l (hu := Try.underlying30)) ?_
  refine oP (.d (.int .i64 (IntKind.wrap .i64 (((List.length l) : Int) - 2)))) (p_int (k := .i64) (p := ((List.length l) : Int)) (q := 2)) ?_
  refine oP (.fn 68 [.ptr 1 0, .ptr 2 0]) p_makeFunc ?_
  refine bCall (caps := []) (v := (fun (r18 : Int) => (.d (.int .i64 r18) : V))) (H' := (fun (r18 : Int) => ([.box [.d (.int .i64 x)], .box [.d (.lit (List.map e_SPoint l))], .box [.d (.int .i64 x0), .d (.int .i64 x1)], .box [.d (.int .i64 0), .d (.int .i64 0)]] : List Blk))) [1, 2] _ (sort_Search_goes k (IntKind.wrap .i64 (((List.length l) : Int) - 2)) l x0 x1) (ho := rfl) (hfn := Try.func67) (hb := rfl) (hconv := ConvRs.refl _ _) (hnd := by decide) (hBl := fun _ => (by kernel_rfl)) (hv := fun _ => (by kernel_rfl)) (hH' := fun _ => (by kernel_rfl)) (h := fun r18 => ?_)
  refine oP (.d (.int .i64 (IntKind.wrap .i64 (1 + r18)))) (p_int (k := .i64) (p := 1) (q := r18)) ?_
  refine oP (.d (.int .i64 (IntKind.wrap .i64 (1 + r18)))) p_assign ?_
  refine oEnd ?_
  refine oSeq ?_
  refine oDraw [(0, 8), (1, 11), (2, 11), (3, 11)] rfl ?_
  refine aP 0 (.ptr 0 0) rfl p_move ?_
  refine aQ 1 [2] (.agg [.d (.int .i64 x0), .d (.int .i64 x1)]) rfl (k_loadAgg 2 0 (hu := Try.underlying38) (hi := ty38)) ?_
  refine aQ 2 [1] (.d (.lit (List.map e_SPoint l))) rfl (k_load 1 0 (hu := Try.underlying30)) ?_
  refine aP 3 (.d (.int .i64 (IntKind.wrap .i64 (1 + r18)))) rfl p_move ?_
  refine aP 4 (.d (.int .i64 (IntKind.wrap .i64 ((IntKind.wrap .i64 (1 + r18)) - 1)))) rfl (p_int (k := .i64) (p := (IntKind.wrap .i64 (1 + r18))) (q := 1)) ?_
  refine dIdx (fun e1 h1 h11 => ?_)
  refine aP 5 (.lptr (e_SPoint e1) 0) rfl (k_idxLit e_SPoint_len l (a := e1) (k := .i64) (i := (IntKind.wrap .i64 ((IntKind.wrap .i64 (1 + r18)) - 1))) (hu := Try.underlying30) (hi := ty60) (h0 := h1) (he := h11)) ?_
  refine aP 6 (.lptr (e_SPoint e1) 0) rfl (k_fieldAddrL (cells := e_SPoint e1) 0 (hu := Try.underlying60) (hf := rfl) (hi := ty38)) ?_
  refine aQ 7 [] (.agg [.d (.int .i64 e1.X_Num), .d (.int .i64 e1.X_Den)]) rfl (k_loadLAgg (cells := e_SPoint e1) 0 [(.int .i64 e1.X_Num), (.int .i64 e1.X_Den)] (hu := Try.underlying38) (hi := ty38)) ?_
  refine dCall (i := 8) (caps := []) (v := (uc fun (r12 : Int) => (uc fun (r14 : Int) => (fun (x11 : Int) => (.agg [.d (.int .i64 r12), .d (.int .i64 r14)] : V))))) (H' := (uc fun (r12 : Int) => (uc fun (r14 : Int) => (fun (x11 : Int) => ([.box [.d (.int .i64 x11)], .box [.d (.lit (List.map e_SPoint l))], .box [.d (.int .i64 x0), .d (.int .i64 x1)], .box [.d (.int .i64 0), .d (.int .i64 0)]] : List Blk))))) [0] _ (conversion_calc_sub_goes k x0 x1 e1.X_Num e1.X_Den x) rfl (ho := rfl) (hfn := Try.func70) (hb := rfl) (hconv := ConvRs.refl _ _) (hnd := by decide) (hBl := fun _ => (by kernel_rfl)) (hv := fun _ => (by kernel_rfl)) (hH' := fun _ => (by kernel_rfl)) (h := fun r => ?_)
  obtain ⟨r12, r14, x11⟩ := r
  refine dUc ?_
  refine dUc ?_
  refine aAlloc (i := 9) (d := 8) rfl (hop := rfl) (hd := rfl) (hty := ty38) (cells := [.d (.int .i64 0), .d (.int .i64 0)]) (h := ?_)
  refine dView (H' := [.box [.d (.int .i64 x11)], .box [.d (.lit (List.map e_SPoint l))], .box [.d (.int .i64 x0), .d (.int .i64 x1)], .box [.d (.int .i64 0), .d (.int .i64 0)], .box [.d (.int .i64 0), .d (.int .i64 0)]]) rfl rfl (h := ?_)
  refine aOne (i := 10) (v := .undef) rfl (hac := Does.acts (k_store (vs := [.d (.int .i64 r12), .d (.int .i64 r14)]) (H' := [.box [.d (.int .i64 x11)], .box [.d (.lit (List.map e_SPoint l))], .box [.d (.int .i64 x0), .d (.int .i64 x1)], .box [.d (.int .i64 0), .d (.int .i64 0)], .box [.d (.int .i64 r12), .d (.int .i64 r14)]]) 4 0 (hi := ty38))) (h := ?_)
  refine aDone (h := ?_)
  refine oSeq ?_
  refine oDraw [(0, 12), (1, 16), (2, 16), (3, 15), (4, 16)] rfl ?_
  refine aP 0 (.ptr 0 0) rfl p_move ?_
  refine aQ 1 [1] (.d (.lit (List.map e_SPoint l))) rfl (k_load 1 0 (hu := Try.underlying30)) ?_
  refine aP 2 (.d (.int .i64 (IntKind.wrap .i64 (1 + r18)))) rfl p_move ?_
  refine aP 3 (.d (.int .i64 (IntKind.wrap .i64 ((IntKind.wrap .i64 (1 + r18)) - 1)))) rfl (p_int (k := .i64) (p := (IntKind.wrap .i64 (1 + r18))) (q := 1)) ?_
  refine aP 4 (.lptr (e_SPoint e1) 0) rfl (k_idxLit e_SPoint_len l (a := e1) (k := .i64) (i := (IntKind.wrap .i64 ((IntKind.wrap .i64 (1 + r18)) - 1))) (hu := Try.underlying30) (hi := ty60) (h0 := h1) (he := h11)) ?_
  refine aP 5 (.lptr (e_SPoint e1) 2) rfl (k_fieldAddrL (cells := e_SPoint e1) 0 (hu := Try.underlying60) (hf := rfl) (hi := ty38)) ?_
  refine aQ 6 [] (.agg [.d (.int .i64 e1.Y_Num), .d (.int .i64 e1.Y_Den)]) rfl (k_loadLAgg (cells := e_SPoint e1) 2 [(.int .i64 e1.Y_Num), (.int .i64 e1.Y_Den)] (hu := Try.underlying38) (hi := ty38)) ?_
  refine aP 7 (.ptr 0 0) rfl p_move ?_
  refine aQ 8 [4] (.agg [.d (.int .i64 r12), .d (.int .i64 r14)]) rfl (k_loadAgg 4 0 (hu := Try.underlying38) (hi := ty38)) ?_
  refine aP 9 (.ptr 0 0) rfl p_move ?_
  refine aQ 10 [1] (.d (.lit (List.map e_SPoint l))) rfl (k_load 1 0 (hu := Try.underlying30)) ?_
  refine aP 11 (.d (.int .i64 (IntKind.wrap .i64 (1 + r18)))) rfl p_move ?_
  refine dCall (i := 12) (caps := []) (v := (uc fun (r11 : Int) => (uc fun (r111 : Int) => (fun (x2 : Int) => (.agg [.d (.int .i64 r11), .d (.int .i64 r111)] : V))))) (H' := (uc fun (r11 : Int) => (uc fun (r111 : Int) => (fun (x2 : Int) => ([.box [.d (.int .i64 x2)], .box [.d (.lit (List.map e_SPoint l))], .box [.d (.int .i64 x0), .d (.int .i64 x1)], .box [.d (.int .i64 0), .d (.int .i64 0)], .box [.d (.int .i64 r12), .d (.int .i64 r14)]] : List Blk))))) [0] _ (conversion_calc_slope_goes k l (IntKind.wrap .i64 (1 + r18)) x11) rfl (ho := rfl) (hfn := Try.func72) (hb := rfl) (hconv := ConvRs.refl _ _) (hnd := by decide) (hBl := fun _ => (by kernel_rfl)) (hv := fun _ => (by kernel_rfl)) (hH' := fun _ => (by kernel_rfl)) (h := fun r => ?_)
  obtain ⟨r11, r111, x2⟩ := r
  refine dUc ?_
  refine dUc ?_
  refine dCall (i := 13) (caps := []) (v := (uc fun (r13 : Int) => (uc fun (r112 : Int) => (fun (x12 : Int) => (.agg [.d (.int .i64 r13), .d (.int .i64 r112)] : V))))) (H' := (uc fun (r13 : Int) => (uc fun (r112 : Int) => (fun (x12 : Int) => ([.box [.d (.int .i64 x12)], .box [.d (.lit (List.map e_SPoint l))], .box [.d (.int .i64 x0), .d (.int .i64 x1)], .box [.d (.int .i64 0), .d (.int .i64 0)], .box [.d (.int .i64 r12), .d (.int .i64 r14)]] : List Blk))))) [0] _ (conversion_calc_mul_goes k r12 r14 r11 r111 x2) rfl (ho := rfl) (hfn := Try.func71) (hb := rfl) (hconv := ConvRs.refl _ _) (hnd := by decide) (hBl := fun _ => (by kernel_rfl)) (hv := fun _ => (by kernel_rfl)) (hH' := fun _ => (by kernel_rfl)) (h := fun r => ?_)
  obtain ⟨r13, r112, x12⟩ := r
  refine dUc ?_
  refine dUc ?_
  refine dCall (i := 14) (caps := []) (v := (uc fun (r15 : Int) => (uc fun (r113 : Int) => (fun (x13 : Int) => (.agg [.d (.int .i64 r15), .d (.int .i64 r113)] : V))))) (H' := (uc fun (r15 : Int) => (uc fun (r113 : Int) => (fun (x13 : Int) => ([.box [.d (.int .i64 x13)], .box [.d (.lit (List.map e_SPoint l))], .box [.d (.int .i64 x0), .d (.int .i64 x1)], .box [.d (.int .i64 0), .d (.int .i64 0)], .box [.d (.int .i64 r12), .d (.int .i64 r14)]] : List Blk))))) [0] _ (conversion_calc_add_goes k e1.Y_Num e1.Y_Den r13 r112 x12) rfl (ho := rfl) (hfn := Try.func54) (hb := rfl) (hconv := ConvRs.refl _ _) (hnd := by decide) (hBl := fun _ => (by kernel_rfl)) (hv := fun _ => (by kernel_rfl)) (hH' := fun _ => (by kernel_rfl)) (h := fun r => ?_)
  obtain ⟨r15, r113, x13⟩ := r
  refine dUc ?_
  refine dUc ?_
  refine aOne (i := 15) (v := .undef) rfl (hac := Does.acts (k_store (vs := [.d (.int .i64 r15), .d (.int .i64 r113)]) (H' := [.box [.d (.int .i64 x13)], .box [.d (.lit (List.map e_SPoint l))], .box [.d (.int .i64 x0), .d (.int .i64 x1)], .box [.d (.int .i64 r15), .d (.int .i64 r113)], .box [.d (.int .i64 r12), .d (.int .i64 r14)]]) 3 0 (hi := ty38))) (h := ?_)
  refine aDone (h := ?_)
  exact oRet (r0 := (r15, r113, x13)) (rv := .agg [.d (.int .i64 r15), .d (.int .i64 r113)]) (B := [.box [.d (.int .i64 x13)]]) (vs := [.agg [.d (.int .i64 r15), .d (.int .i64 r113)]]) (σ := [0]) (hf := Try.func40) (hrs := rfl) (hres := .cons _ _ _ _ (.agg 6 38 3 0 [.d (.int .i64 r15), .d (.int .i64 r113)] [.d (.int .i64 r15), .d (.int .i64 r113)] _ _ _ _ (by kernel_rfl) (by kernel_rfl) Try.underlying38 (by kernel_rfl) ty38 (by kernel_rfl) (by kernel_rfl)) .nil) (hnd := by decide)

/-- (*awardingbody/conversion.calc).normal -/
def conversion_calc_normal_b1 (k : Nat) (l : (List SPoint)) (again : Int × Int × (List SPoint) × Int × Int → Option (Int × (List SPoint))) : Int × Int × (List SPoint) × Int × Int → Option (Int × (List SPoint)) := uc fun i4 => uc fun x55 => uc fun xs11 => uc fun x56 => fun x57 => blet ((decide (i4 < ((List.length l) : Int))) && (x55 == 0)) fun x65 => bif x65 then Option.bind (Option.bind (conversion_calc_slope k l i4 x55) (uc fun r123 => uc fun r1112 => fun x214 => bif (!((r123 == x56) && ((r1112 == x57) && true))) then gidx l (IntKind.wrap .i64 (i4 - 1)) fun e1 => gcap (List.length (xs11 ++ ([e1] : List SPoint))) 32 (some (x214, (xs11 ++ ([e1] : List SPoint)), r123, r1112)) else some (x214, xs11, x56, x57)) : Option (Int × (List SPoint) × Int × Int)) (uc fun x66 => uc fun xs14 => uc fun x67 => fun x68 => again ((IntKind.wrap .i64 (i4 + 1)), x66, xs14, x67, x68)) else some (x55, xs11)
def conversion_calc_normal (k : Nat) (l : (List SPoint)) (x : Int) : Option ((List SPoint) × Int) := Option.bind (conversion_calc_slope k l 1 x) (uc fun r19 => uc fun r114 => fun x27 => Option.bind (gloop (conversion_calc_normal_b1 k l) k (2, x27, ([] : List SPoint), r19, r114) : Option (Int × (List SPoint))) (uc fun x45 => fun xs9 => bif (x45 != 0) then some ([], x45) else Option.bind (conversion_whole k 0) (u0 (Option.bind (conversion_whole k 1) (u0 (Option.bind (bif (decide (((List.length xs9) : Int) > 0)) then gidx xs9 0 fun e11 => gidx xs9 (IntKind.wrap .i64 (((List.length xs9) : Int) - 1)) fun e12 => Option.bind (conversion_whole k 1) (u0 (Option.bind (conversion_calc_sub k e11.X_Num e11.X_Den 1 1 x45) (uc fun r121 => uc fun r14 => fun x17 => Option.bind (conversion_whole k 1) (u0 (Option.bind (conversion_calc_add k e12.X_Num e12.X_Den 1 1 x17) (uc fun r15 => uc fun r113 => fun x18 => some (x18, r121, r14, r15, r113))))))) else some (x45, 0, 1, 1, 1) : Option (Int × Int × Int × Int × Int)) (uc fun x46 => uc fun x47 => uc fun x48 => uc fun x49 => fun x50 => bif (x46 != 0) then some ([], x46) else Option.bind (conversion_calc_eval k l x47 x48 x46) (uc fun r16 => uc fun r17 => fun x31 => gcap (List.length (([(⟨x47, x48, r16, r17⟩ : SPoint)] : List SPoint) ++ xs9)) 32 (Option.bind (conversion_calc_eval k l x49 x50 x31) (uc fun r161 => uc fun r171 => fun x32 => gcap (List.length ((([(⟨x47, x48, r16, r17⟩ : SPoint)] : List SPoint) ++ xs9) ++ ([(⟨x49, x50, r161, r171⟩ : SPoint)] : List SPoint))) 32 (some (((([(⟨x47, x48, r16, r17⟩ : SPoint)] : List SPoint) ++ xs9) ++ ([(⟨x49, x50, r161, r171⟩ : SPoint)] : List SPoint)), x32))))))))))))
def conversion_calc_normal_E (l : (List SPoint)) (x : Int) : (List SPoint) × Int → V × List Blk := uc fun r18 => fun x26 => (.d (.lit (List.map e_SPoint r18)), [.box [.d (.int .i64 x26)]])
theorem conversion_calc_normal_goes (k : Nat) (l : (List SPoint)) (x : Int) : RunsO Try.prog 82 [.ptr 0 0, .d (.lit (List.map e_SPoint l))] [.box [.d (.int .i64 x)]] (conversion_calc_normal_E l x) (conversion_calc_normal k l x) := by
  refine RunsO.of_goes (N := 95) (m := 1) (T := [(0, .ptr 0 0), (1, .d (.lit (List.map e_SPoint l)))]) Try.func82 rfl rfl (h := ?_)
  unfold conversion_calc_normal
  refine bStart ?_
  refine oSR rfl ?_
  refine oP (.nilc) p_assign ?_
  refine oEnd ?_
  refine oSR rfl ?_
  refine oP (.nilc) p_assign ?_
  refine oEnd ?_
  refine oSR rfl ?_
  refine oP (.ptr 0 0) p_move ?_
  refine oP (.d (.lit (List.map e_SPoint l))) p_move ?_
  refine bCall (caps := []) (v := (uc fun (r19 : Int) => (uc fun (r114 : Int) => (fun (x27 : Int) => (.agg [.d (.int .i64 r19), .d (.int .i64 r114)] : V))))) (H' := (uc fun (r19 : Int) => (uc fun (r114 : Int) => (fun (x27 : Int) => ([.box [.d (.int .i64 x27)]] : List Blk))))) [0] _ (conversion_calc_slope_goes k l 1 x) (ho := rfl) (hfn := Try.func72) (hb := rfl) (hconv := ConvRs.refl _ _) (hnd := by decide) (hBl := fun _ => (by kernel_rfl)) (hv := fun _ => (by kernel_rfl)) (hH' := fun _ => (by kernel_rfl)) (h := fun r => ?_)
  obtain ⟨r19, r114, x27⟩ := r
  refine bUc ?_
  refine bUc ?_
  refine oD (.ptr 1 0) (k_alloc (H' := [.box [.d (.int .i64 x27)], .box [.d (.int .i64 0), .d (.int .i64 0)]]) ty38) ?_
  refine oD (.undef) (k_store (vs := [.d (.int .i64 r19), .d (.int .i64 r114)]) (H' := [.box [.d (.int .i64 x27)], .box [.d (.int .i64 r19), .d (.int .i64 r114)]]) 1 0 (hi := ty38)) ?_
  refine oEnd ?_
  refine oSeq ?_
  refine oSR rfl ?_
  refine oP (.d (.int .i64 2)) p_assign ?_
  refine oEnd ?_
  refine bJoin ((uc fun (x45 : Int) => (fun (xs9 : (List SPoint)) => [(0, .ptr 0 0), (1, .d (.lit (List.map e_SPoint l))), (5, .ref 1 (List.length xs9) 0 (List.length xs9))]))) ((uc fun (x45 : Int) => (fun (xs9 : (List SPoint)) => [.box [.d (.int .i64 x45)], .sl 4 (List.map e_SPoint xs9) false]))) (fun s => s) (fun s => ?_) (fun hj7 => ?_)
  ·obtain ⟨x45, xs9⟩ := s
   refine bUc ?_
   refine oView (T' := [(0, .ptr 0 0), (1, .d (.lit (List.map e_SPoint l))), (5, .ref 1 (List.length xs9) 0 (List.length xs9))]) (H' := [.box [.d (.int .i64 x45)], .sl 4 (List.map e_SPoint xs9) false]) (h := ?_)
   refine oSeq ?_
   refine oSR rfl ?_
   refine oP (.ptr 0 0) p_move ?_
   refine oP (.ptr 0 0) (k_nilCheck 0 0) ?_
   refine oP (.ptr 0 0) (k_fieldAddr 0 0 (hu := Try.underlying69) (hf := rfl) (hi := ty33)) ?_
   refine oQ (.d (.int .i64 x45)) (k_load 0 0 (hu := Try.underlying33)) ?_
   refine oP (.d (.bool (x45 != 0))) (p_int (k := .i64) (p := x45) (q := 0)) ?_
   refine oEnd ?_
   refine bSplit 49 (h1 := fun hc => ?_) (h2 := fun hc => ?_)
   ·refine oCondT (h := ?_)
    refine oSR rfl ?_
    refine oP (.nilc) p_assign ?_
    refine oEnd ?_
    refine oConv 4 (v := .nilc) (v' := .d (.lit (List.map e_SPoint []))) (hc := .nil) (h := ?_)
    exact oRet (r0 := ([], x45)) (rv := .d (.lit (List.map e_SPoint []))) (B := [.box [.d (.int .i64 x45)]]) (vs := [.d (.lit (List.map e_SPoint []))]) (σ := [0]) (hf := Try.func82) (hrs := rfl) (hres := .cons _ _ _ _ (.tmp 4 _ (by kernel_rfl)) .nil) (hnd := by decide)
   ·refine oCondF (h := ?_)
    refine oSkip ?_
    refine oSR rfl ?_
    refine bCall (caps := []) (v := (u0 ((.agg [.d (.int .i64 0), .d (.int .i64 1)] : V)))) (H' := (u0 (([.box [.d (.int .i64 x45)], .sl 4 (List.map e_SPoint xs9) false] : List Blk)))) [] _ (conversion_whole_goes k 0) (ho := rfl) (hfn := Try.func55) (hb := rfl) (hconv := ConvRs.refl _ _) (hnd := by decide) (hBl := fun _ => (by kernel_rfl)) (hv := fun _ => (by kernel_rfl)) (hH' := fun _ => (by kernel_rfl)) (h := fun r => ?_)
    cases r
    refine bU0 ?_
    refine bCall (caps := []) (v := (u0 ((.agg [.d (.int .i64 1), .d (.int .i64 1)] : V)))) (H' := (u0 (([.box [.d (.int .i64 x45)], .sl 4 (List.map e_SPoint xs9) false] : List Blk)))) [] _ (conversion_whole_goes k 1) (ho := rfl) (hfn := Try.func55) (hb := rfl) (hconv := ConvRs.refl _ _) (hnd := by decide) (hBl := fun _ => (by kernel_rfl)) (hv := fun _ => (by kernel_rfl)) (hH' := fun _ => (by kernel_rfl)) (h := fun r => ?_)
    cases r
    refine bU0 ?_
    refine oD (.ptr 2 0) (k_alloc (H' := [.box [.d (.int .i64 x45)], .sl 4 (List.map e_SPoint xs9) false, .box [.d (.int .i64 0), .d (.int .i64 0)]]) ty38) ?_
    refine oD (.ptr 3 0) (k_alloc (H' := [.box [.d (.int .i64 x45)], .sl 4 (List.map e_SPoint xs9) false, .box [.d (.int .i64 0), .d (.int .i64 0)], .box [.d (.int .i64 0), .d (.int .i64 0)]]) ty38) ?_
    refine oD (.undef) (k_store (vs := [.d (.int .i64 0), .d (.int .i64 1)]) (H' := [.box [.d (.int .i64 x45)], .sl 4 (List.map e_SPoint xs9) false, .box [.d (.int .i64 0), .d (.int .i64 1)], .box [.d (.int .i64 0), .d (.int .i64 0)]]) 2 0 (hi := ty38)) ?_
    refine oD (.undef) (k_store (vs := [.d (.int .i64 1), .d (.int .i64 1)]) (H' := [.box [.d (.int .i64 x45)], .sl 4 (List.map e_SPoint xs9) false, .box [.d (.int .i64 0), .d (.int .i64 1)], .box [.d (.int .i64 1), .d (.int .i64 1)]]) 3 0 (hi := ty38)) ?_
    refine oEnd ?_
    refine oSeq ?_
    refine oSR rfl ?_
    refine oP (.ref 1 (List.length xs9) 0 (List.length xs9)) p_move ?_
    refine oP (.d (.int .i64 ((List.length xs9) : Int))) (k_lenRef (enc := e_SPoint) (sz := 4) (fro := false) 1 xs9 (hu := Try.underlying30)) ?_
    refine oP (.d (.int .i64 ((List.length xs9) : Int))) p_assign ?_
    refine oEnd ?_
    refine oSR rfl ?_
    refine oP (.d (.int .i64 ((List.length xs9) : Int))) p_move ?_
    refine oP (.d (.bool (decide (((List.length xs9) : Int) > 0)))) (p_int (k := .i64) (p := ((List.length xs9) : Int)) (q := 0)) ?_
    refine oEnd ?_
    refine bJoin ((uc fun (x46 : Int) => (uc fun (x47 : Int) => (uc fun (x48 : Int) => (uc fun (x49 : Int) => (fun (x50 : Int) => [(0, .ptr 0 0), (1, .d (.lit (List.map e_SPoint l))), (5, .d (.lit (List.map e_SPoint xs9))), (9, .ptr 1 0), (10, .ptr 2 0)])))))) ((uc fun (x46 : Int) => (uc fun (x47 : Int) => (uc fun (x48 : Int) => (uc fun (x49 : Int) => (fun (x50 : Int) => [.box [.d (.int .i64 x46)], .box [.d (.int .i64 x47), .d (.int .i64 x48)], .box [.d (.int .i64 x49), .d (.int .i64 x50)]])))))) (fun s => s) (fun s => ?_) (fun hj8 => ?_)
    ·obtain ⟨x46, x47, x48, x49, x50⟩ := s
     refine bUc ?_
     refine bUc ?_
     refine bUc ?_
     refine bUc ?_
     refine oView (T' := [(0, .ptr 0 0), (1, .d (.lit (List.map e_SPoint l))), (5, .d (.lit (List.map e_SPoint xs9))), (9, .ptr 1 0), (10, .ptr 2 0)]) (H' := [.box [.d (.int .i64 x46)], .box [.d (.int .i64 x47), .d (.int .i64 x48)], .box [.d (.int .i64 x49), .d (.int .i64 x50)]]) (h := ?_)
     refine oSeq ?_
     refine oSR rfl ?_
     refine oP (.ptr 0 0) p_move ?_
     refine oP (.ptr 0 0) (k_nilCheck 0 0) ?_
     refine oP (.ptr 0 0) (k_fieldAddr 0 0 (hu := Try.underlying69) (hf := rfl) (hi := ty33)) ?_
     refine oQ (.d (.int .i64 x46)) (k_load 0 0 (hu := Try.underlying33)) ?_
     refine oP (.d (.bool (x46 != 0))) (p_int (k := .i64) (p := x46) (q := 0)) ?_
     refine oEnd ?_
     refine bSplit 76 (h1 := fun hc => ?_) (h2 := fun hc => ?_)
     ·refine oCondT (h := ?_)
      refine oSR rfl ?_
      refine oP (.nilc) p_assign ?_
      refine oEnd ?_
      refine oConv 4 (v := .nilc) (v' := .d (.lit (List.map e_SPoint []))) (hc := .nil) (h := ?_)
      exact oRet (r0 := ([], x46)) (rv := .d (.lit (List.map e_SPoint []))) (B := [.box [.d (.int .i64 x46)]]) (vs := [.d (.lit (List.map e_SPoint []))]) (σ := [0]) (hf := Try.func82) (hrs := rfl) (hres := .cons _ _ _ _ (.tmp 4 _ (by kernel_rfl)) .nil) (hnd := by decide)
     ·refine oCondF (h := ?_)
      refine oSkip ?_
      refine oSeq ?_
      refine oDraw [(0, 4), (1, 10), (2, 10)] rfl ?_
      refine aQ 0 [1] (.agg [.d (.int .i64 x47), .d (.int .i64 x48)]) rfl (k_loadAgg 1 0 (hu := Try.underlying38) (hi := ty38)) ?_
      refine aP 1 (.ptr 0 0) rfl p_move ?_
      refine aP 2 (.d (.lit (List.map e_SPoint l))) rfl p_move ?_
      refine aQ 3 [1] (.agg [.d (.int .i64 x47), .d (.int .i64 x48)]) rfl (k_loadAgg 1 0 (hu := Try.underlying38) (hi := ty38)) ?_
      refine aP 7 (.d (.lit (List.map e_SPoint xs9))) rfl p_move ?_
      refine dCall (i := 4) (caps := []) (v := (uc fun (r16 : Int) => (uc fun (r17 : Int) => (fun (x31 : Int) => (.agg [.d (.int .i64 r16), .d (.int .i64 r17)] : V))))) (H' := (uc fun (r16 : Int) => (uc fun (r17 : Int) => (fun (x31 : Int) => ([.box [.d (.int .i64 x31)], .box [.d (.int .i64 x47), .d (.int .i64 x48)], .box [.d (.int .i64 x49), .d (.int .i64 x50)]] : List Blk))))) [0] _ (conversion_calc_eval_goes k l x47 x48 x46) rfl (ho := rfl) (hfn := Try.func40) (hb := rfl) (hconv := ConvRs.refl _ _) (hnd := by decide) (hBl := fun _ => (by kernel_rfl)) (hv := fun _ => (by kernel_rfl)) (hH' := fun _ => (by kernel_rfl)) (h := fun r => ?_)
      obtain ⟨r16, r17, x31⟩ := r
      refine dUc ?_
      refine dUc ?_
      refine aTakeP (i := 5) (.agg [.d (.int .i64 x47), .d (.int .i64 x48), .d (.int .i64 r16), .d (.int .i64 r17)]) rfl (hp := p_build bld60) (h := ?_)
      refine aOne (i := 6) (v := .ref 3 (List.length ([(⟨x47, x48, r16, r17⟩ : SPoint)] : List SPoint)) 0 (List.length ([(⟨x47, x48, r16, r17⟩ : SPoint)] : List SPoint))) rfl (hac := (Does.acts (k_buildSlice (H' := [.box [.d (.int .i64 x31)], .box [.d (.int .i64 x47), .d (.int .i64 x48)], .box [.d (.int .i64 x49), .d (.int .i64 x50)], .sl 4 (List.map e_SPoint ([(⟨x47, x48, r16, r17⟩ : SPoint)] : List SPoint)) false]) (List.map e_SPoint ([(⟨x47, x48, r16, r17⟩ : SPoint)] : List SPoint)) Try.underlying30 ty60))) (h := ?_)
      refine dCap (fun h17 => ?_)
      refine aOne (i := 8) (v := .ref 3 (List.length (([(⟨x47, x48, r16, r17⟩ : SPoint)] : List SPoint) ++ xs9)) 0 (List.length (([(⟨x47, x48, r16, r17⟩ : SPoint)] : List SPoint) ++ xs9))) rfl (hac := (Does.acts (k_append (H' := [.box [.d (.int .i64 x31)], .box [.d (.int .i64 x47), .d (.int .i64 x48)], .box [.d (.int .i64 x49), .d (.int .i64 x50)], .sl 4 (List.map e_SPoint (([(⟨x47, x48, r16, r17⟩ : SPoint)] : List SPoint) ++ xs9)) false]) (enc := e_SPoint) 3 ([(⟨x47, x48, r16, r17⟩ : SPoint)] : List SPoint) xs9 Try.underlying30 Try.underlying30 ty60 (hy := holdsLit e_SPoint_len xs9) (hfit := h17)))) (h := ?_)
      refine aTakeP (i := 9) (.ref 3 (List.length (([(⟨x47, x48, r16, r17⟩ : SPoint)] : List SPoint) ++ xs9)) 0 (List.length (([(⟨x47, x48, r16, r17⟩ : SPoint)] : List SPoint) ++ xs9))) rfl (hp := p_assign) (h := ?_)
      refine aDone (h := ?_)
      refine oSeq ?_
      refine oDraw [(0, 5), (1, 10), (2, 10), (3, 8)] rfl ?_
      refine aP 0 (.ref 3 (List.length (([(⟨x47, x48, r16, r17⟩ : SPoint)] : List SPoint) ++ xs9)) 0 (List.length (([(⟨x47, x48, r16, r17⟩ : SPoint)] : List SPoint) ++ xs9))) rfl p_move ?_
      refine aQ 1 [2] (.agg [.d (.int .i64 x49), .d (.int .i64 x50)]) rfl (k_loadAgg 2 0 (hu := Try.underlying38) (hi := ty38)) ?_
      refine aP 2 (.ptr 0 0) rfl p_move ?_
      refine aP 3 (.d (.lit (List.map e_SPoint l))) rfl p_move ?_
      refine aQ 4 [2] (.agg [.d (.int .i64 x49), .d (.int .i64 x50)]) rfl (k_loadAgg 2 0 (hu := Try.underlying38) (hi := ty38)) ?_
      refine dCall (i := 5) (caps := []) (v := (uc fun (r161 : Int) => (uc fun (r171 : Int) => (fun (x32 : Int) => (.agg [.d (.int .i64 r161), .d (.int .i64 r171)] : V))))) (H' := (uc fun (r161 : Int) => (uc fun (r171 : Int) => (fun (x32 : Int) => ([.box [.d (.int .i64 x32)], .box [.d (.int .i64 x47), .d (.int .i64 x48)], .box [.d (.int .i64 x49), .d (.int .i64 x50)], .sl 4 (List.map e_SPoint (([(⟨x47, x48, r16, r17⟩ : SPoint)] : List SPoint) ++ xs9)) false] : List Blk))))) [0] _ (conversion_calc_eval_goes k l x49 x50 x31) rfl (ho := rfl) (hfn := Try.func40) (hb := rfl) (hconv := ConvRs.refl _ _) (hnd := by decide) (hBl := fun _ => (by kernel_rfl)) (hv := fun _ => (by kernel_rfl)) (hH' := fun _ => (by kernel_rfl)) (h := fun r => ?_)
      obtain ⟨r161, r171, x32⟩ := r
      refine dUc ?_
      refine dUc ?_
      refine aTakeP (i := 6) (.agg [.d (.int .i64 x49), .d (.int .i64 x50), .d (.int .i64 r161), .d (.int .i64 r171)]) rfl (hp := p_build bld60) (h := ?_)
      refine aOne (i := 7) (v := .ref 4 (List.length ([(⟨x49, x50, r161, r171⟩ : SPoint)] : List SPoint)) 0 (List.length ([(⟨x49, x50, r161, r171⟩ : SPoint)] : List SPoint))) rfl (hac := (Does.acts (k_buildSlice (H' := [.box [.d (.int .i64 x32)], .box [.d (.int .i64 x47), .d (.int .i64 x48)], .box [.d (.int .i64 x49), .d (.int .i64 x50)], .sl 4 (List.map e_SPoint (([(⟨x47, x48, r16, r17⟩ : SPoint)] : List SPoint) ++ xs9)) false, .sl 4 (List.map e_SPoint ([(⟨x49, x50, r161, r171⟩ : SPoint)] : List SPoint)) false]) (List.map e_SPoint ([(⟨x49, x50, r161, r171⟩ : SPoint)] : List SPoint)) Try.underlying30 ty60))) (h := ?_)
      refine dCap (fun h18 => ?_)
      refine aOne (i := 8) (v := .ref 3 (List.length ((([(⟨x47, x48, r16, r17⟩ : SPoint)] : List SPoint) ++ xs9) ++ ([(⟨x49, x50, r161, r171⟩ : SPoint)] : List SPoint))) 0 (List.length ((([(⟨x47, x48, r16, r17⟩ : SPoint)] : List SPoint) ++ xs9) ++ ([(⟨x49, x50, r161, r171⟩ : SPoint)] : List SPoint)))) rfl (hac := (Does.acts (k_append (H' := [.box [.d (.int .i64 x32)], .box [.d (.int .i64 x47), .d (.int .i64 x48)], .box [.d (.int .i64 x49), .d (.int .i64 x50)], .sl 4 (List.map e_SPoint ((([(⟨x47, x48, r16, r17⟩ : SPoint)] : List SPoint) ++ xs9) ++ ([(⟨x49, x50, r161, r171⟩ : SPoint)] : List SPoint))) false, .sl 4 (List.map e_SPoint ([(⟨x49, x50, r161, r171⟩ : SPoint)] : List SPoint)) false]) (enc := e_SPoint) 3 (([(⟨x47, x48, r16, r17⟩ : SPoint)] : List SPoint) ++ xs9) ([(⟨x49, x50, r161, r171⟩ : SPoint)] : List SPoint) Try.underlying30 Try.underlying30 ty60 (hy := (holdsRef (enc := e_SPoint) 4 ([(⟨x49, x50, r161, r171⟩ : SPoint)] : List SPoint) false)) (hfit := h18)))) (h := ?_)
      refine aTakeP (i := 9) (.ref 3 (List.length ((([(⟨x47, x48, r16, r17⟩ : SPoint)] : List SPoint) ++ xs9) ++ ([(⟨x49, x50, r161, r171⟩ : SPoint)] : List SPoint))) 0 (List.length ((([(⟨x47, x48, r16, r17⟩ : SPoint)] : List SPoint) ++ xs9) ++ ([(⟨x49, x50, r161, r171⟩ : SPoint)] : List SPoint)))) rfl (hp := p_assign) (h := ?_)
      refine aDone (h := ?_)
      refine oFreeze 3 (esz := 4) (xs := List.map e_SPoint ((([(⟨x47, x48, r16, r17⟩ : SPoint)] : List SPoint) ++ xs9) ++ ([(⟨x49, x50, r161, r171⟩ : SPoint)] : List SPoint))) (h := ?_)
      refine oView (H' := [.box [.d (.int .i64 x32)], .box [.d (.int .i64 x47), .d (.int .i64 x48)], .box [.d (.int .i64 x49), .d (.int .i64 x50)], .sl 4 (List.map e_SPoint ((([(⟨x47, x48, r16, r17⟩ : SPoint)] : List SPoint) ++ xs9) ++ ([(⟨x49, x50, r161, r171⟩ : SPoint)] : List SPoint))) true, .sl 4 (List.map e_SPoint ([(⟨x49, x50, r161, r171⟩ : SPoint)] : List SPoint)) false]) rfl (h := ?_)
      refine oConv 4 (v := .ref 3 (List.length ((([(⟨x47, x48, r16, r17⟩ : SPoint)] : List SPoint) ++ xs9) ++ ([(⟨x49, x50, r161, r171⟩ : SPoint)] : List SPoint))) 0 (List.length ((([(⟨x47, x48, r16, r17⟩ : SPoint)] : List SPoint) ++ xs9) ++ ([(⟨x49, x50, r161, r171⟩ : SPoint)] : List SPoint)))) (v' := .d (.lit (List.map e_SPoint ((([(⟨x47, x48, r16, r17⟩ : SPoint)] : List SPoint) ++ xs9) ++ ([(⟨x49, x50, r161, r171⟩ : SPoint)] : List SPoint))))) (hc := (k_lit (enc := e_SPoint) (sz := 4) 3 ((([(⟨x47, x48, r16, r17⟩ : SPoint)] : List SPoint) ++ xs9) ++ ([(⟨x49, x50, r161, r171⟩ : SPoint)] : List SPoint)))) (h := ?_)
      exact oRet (r0 := (((([(⟨x47, x48, r16, r17⟩ : SPoint)] : List SPoint) ++ xs9) ++ ([(⟨x49, x50, r161, r171⟩ : SPoint)] : List SPoint)), x32)) (rv := .d (.lit (List.map e_SPoint ((([(⟨x47, x48, r16, r17⟩ : SPoint)] : List SPoint) ++ xs9) ++ ([(⟨x49, x50, r161, r171⟩ : SPoint)] : List SPoint))))) (B := [.box [.d (.int .i64 x32)]]) (vs := [.d (.lit (List.map e_SPoint ((([(⟨x47, x48, r16, r17⟩ : SPoint)] : List SPoint) ++ xs9) ++ ([(⟨x49, x50, r161, r171⟩ : SPoint)] : List SPoint))))]) (σ := [0]) (hf := Try.func82) (hrs := rfl) (hres := .cons _ _ _ _ (.tmp 4 _ (by kernel_rfl)) .nil) (hnd := by decide)
    ·refine bSplit 55 (h1 := fun hc => ?_) (h2 := fun hc => ?_)
     ·refine oCondT (h := ?_)
      refine oFreeze 1 (esz := 4) (xs := List.map e_SPoint xs9) (h := ?_)
      refine oView (H' := [.box [.d (.int .i64 x45)], .sl 4 (List.map e_SPoint xs9) true, .box [.d (.int .i64 0), .d (.int .i64 1)], .box [.d (.int .i64 1), .d (.int .i64 1)]]) rfl (h := ?_)
      refine oConv 5 (v := .ref 1 (List.length xs9) 0 (List.length xs9)) (v' := .d (.lit (List.map e_SPoint xs9))) (hc := k_lit (enc := e_SPoint) (sz := 4) 1 xs9) (h := ?_)
      refine oDraw [(0, 6), (1, 18), (2, 16), (3, 17)] rfl ?_
      refine aP 0 (.ptr 0 0) rfl p_move ?_
      refine aP 1 (.d (.lit (List.map e_SPoint xs9))) rfl p_move ?_
      refine dIdx (fun e11 h13 h14 => ?_)
      refine aP 2 (.lptr (e_SPoint e11) 0) rfl (k_idxLit e_SPoint_len xs9 (a := e11) (k := .i64) (i := 0) (hu := Try.underlying30) (hi := ty60) (h0 := h13) (he := h14)) ?_
      refine aP 3 (.lptr (e_SPoint e11) 0) rfl (k_fieldAddrL (cells := e_SPoint e11) 0 (hu := Try.underlying60) (hf := rfl) (hi := ty38)) ?_
      refine aQ 4 [] (.agg [.d (.int .i64 e11.X_Num), .d (.int .i64 e11.X_Den)]) rfl (k_loadLAgg (cells := e_SPoint e11) 0 [(.int .i64 e11.X_Num), (.int .i64 e11.X_Den)] (hu := Try.underlying38) (hi := ty38)) ?_
      refine aP 7 (.ptr 0 0) rfl p_move ?_
      refine aP 8 (.d (.lit (List.map e_SPoint xs9))) rfl p_move ?_
      refine aP 9 (.d (.int .i64 ((List.length xs9) : Int))) rfl p_move ?_
      refine aP 10 (.d (.int .i64 (IntKind.wrap .i64 (((List.length xs9) : Int) - 1)))) rfl (p_int (k := .i64) (p := ((List.length xs9) : Int)) (q := 1)) ?_
      refine dIdx (fun e12 h15 h16 => ?_)
      refine aP 11 (.lptr (e_SPoint e12) 0) rfl (k_idxLit e_SPoint_len xs9 (a := e12) (k := .i64) (i := (IntKind.wrap .i64 (((List.length xs9) : Int) - 1))) (hu := Try.underlying30) (hi := ty60) (h0 := h15) (he := h16)) ?_
      refine aP 12 (.lptr (e_SPoint e12) 0) rfl (k_fieldAddrL (cells := e_SPoint e12) 0 (hu := Try.underlying60) (hf := rfl) (hi := ty38)) ?_
      refine aQ 13 [] (.agg [.d (.int .i64 e12.X_Num), .d (.int .i64 e12.X_Den)]) rfl (k_loadLAgg (cells := e_SPoint e12) 0 [(.int .i64 e12.X_Num), (.int .i64 e12.X_Den)] (hu := Try.underlying38) (hi := ty38)) ?_
      refine dCall (i := 5) (caps := []) (v := (u0 ((.agg [.d (.int .i64 1), .d (.int .i64 1)] : V)))) (H' := (u0 (([.box [.d (.int .i64 x45)], .sl 4 (List.map e_SPoint xs9) true, .box [.d (.int .i64 0), .d (.int .i64 1)], .box [.d (.int .i64 1), .d (.int .i64 1)]] : List Blk)))) [] _ (conversion_whole_goes k 1) rfl (ho := rfl) (hfn := Try.func55) (hb := rfl) (hconv := ConvRs.refl _ _) (hnd := by decide) (hBl := fun _ => (by kernel_rfl)) (hv := fun _ => (by kernel_rfl)) (hH' := fun _ => (by kernel_rfl)) (h := fun r => ?_)
      cases r
      refine dU0 ?_
      refine dCall (i := 6) (caps := []) (v := (uc fun (r121 : Int) => (uc fun (r14 : Int) => (fun (x17 : Int) => (.agg [.d (.int .i64 r121), .d (.int .i64 r14)] : V))))) (H' := (uc fun (r121 : Int) => (uc fun (r14 : Int) => (fun (x17 : Int) => ([.box [.d (.int .i64 x17)], .sl 4 (List.map e_SPoint xs9) true, .box [.d (.int .i64 0), .d (.int .i64 1)], .box [.d (.int .i64 1), .d (.int .i64 1)]] : List Blk))))) [0] _ (conversion_calc_sub_goes k e11.X_Num e11.X_Den 1 1 x45) rfl (ho := rfl) (hfn := Try.func70) (hb := rfl) (hconv := ConvRs.refl _ _) (hnd := by decide) (hBl := fun _ => (by kernel_rfl)) (hv := fun _ => (by kernel_rfl)) (hH' := fun _ => (by kernel_rfl)) (h := fun r => ?_)
      obtain ⟨r121, r14, x17⟩ := r
      refine dUc ?_
      refine dUc ?_
      refine dCall (i := 14) (caps := []) (v := (u0 ((.agg [.d (.int .i64 1), .d (.int .i64 1)] : V)))) (H' := (u0 (([.box [.d (.int .i64 x17)], .sl 4 (List.map e_SPoint xs9) true, .box [.d (.int .i64 0), .d (.int .i64 1)], .box [.d (.int .i64 1), .d (.int .i64 1)]] : List Blk)))) [] _ (conversion_whole_goes k 1) rfl (ho := rfl) (hfn := Try.func55) (hb := rfl) (hconv := ConvRs.refl _ _) (hnd := by decide) (hBl := fun _ => (by kernel_rfl)) (hv := fun _ => (by kernel_rfl)) (hH' := fun _ => (by kernel_rfl)) (h := fun r => ?_)
      cases r
      refine dU0 ?_
      refine dCall (i := 15) (caps := []) (v := (uc fun (r15 : Int) => (uc fun (r113 : Int) => (fun (x18 : Int) => (.agg [.d (.int .i64 r15), .d (.int .i64 r113)] : V))))) (H' := (uc fun (r15 : Int) => (uc fun (r113 : Int) => (fun (x18 : Int) => ([.box [.d (.int .i64 x18)], .sl 4 (List.map e_SPoint xs9) true, .box [.d (.int .i64 0), .d (.int .i64 1)], .box [.d (.int .i64 1), .d (.int .i64 1)]] : List Blk))))) [0] _ (conversion_calc_add_goes k e12.X_Num e12.X_Den 1 1 x17) rfl (ho := rfl) (hfn := Try.func54) (hb := rfl) (hconv := ConvRs.refl _ _) (hnd := by decide) (hBl := fun _ => (by kernel_rfl)) (hv := fun _ => (by kernel_rfl)) (hH' := fun _ => (by kernel_rfl)) (h := fun r => ?_)
      obtain ⟨r15, r113, x18⟩ := r
      refine dUc ?_
      refine dUc ?_
      refine aOne (i := 16) (v := .undef) rfl (hac := Does.acts (k_store (vs := [.d (.int .i64 r121), .d (.int .i64 r14)]) (H' := [.box [.d (.int .i64 x18)], .sl 4 (List.map e_SPoint xs9) true, .box [.d (.int .i64 r121), .d (.int .i64 r14)], .box [.d (.int .i64 1), .d (.int .i64 1)]]) 2 0 (hi := ty38))) (h := ?_)
      refine aOne (i := 17) (v := .undef) rfl (hac := Does.acts (k_store (vs := [.d (.int .i64 r15), .d (.int .i64 r113)]) (H' := [.box [.d (.int .i64 x18)], .sl 4 (List.map e_SPoint xs9) true, .box [.d (.int .i64 r121), .d (.int .i64 r14)], .box [.d (.int .i64 r15), .d (.int .i64 r113)]]) 3 0 (hi := ty38))) (h := ?_)
      refine aDone (h := ?_)
      refine oHead [0, 1, 5, 9, 10] [0, 2, 3] (T' := [(0, .ptr 0 0), (1, .d (.lit (List.map e_SPoint l))), (5, .d (.lit (List.map e_SPoint xs9))), (9, .ptr 1 0), (10, .ptr 2 0)]) (H' := [.box [.d (.int .i64 x18)], .box [.d (.int .i64 r121), .d (.int .i64 r14)], .box [.d (.int .i64 r15), .d (.int .i64 r113)]]) (hnd := by decide) (h := ?_)
      exact hj8 (x18, r121, r14, r15, r113)
     ·refine oCondF (h := ?_)
      refine oSkip ?_
      refine oFreeze 1 (esz := 4) (xs := List.map e_SPoint xs9) (h := ?_)
      refine oView (H' := [.box [.d (.int .i64 x45)], .sl 4 (List.map e_SPoint xs9) true, .box [.d (.int .i64 0), .d (.int .i64 1)], .box [.d (.int .i64 1), .d (.int .i64 1)]]) rfl (h := ?_)
      refine oConv 5 (v := .ref 1 (List.length xs9) 0 (List.length xs9)) (v' := .d (.lit (List.map e_SPoint xs9))) (hc := k_lit (enc := e_SPoint) (sz := 4) 1 xs9) (h := ?_)
      refine oHead [0, 1, 5, 9, 10] [0, 2, 3] (T' := [(0, .ptr 0 0), (1, .d (.lit (List.map e_SPoint l))), (5, .d (.lit (List.map e_SPoint xs9))), (9, .ptr 1 0), (10, .ptr 2 0)]) (H' := [.box [.d (.int .i64 x45)], .box [.d (.int .i64 0), .d (.int .i64 1)], .box [.d (.int .i64 1), .d (.int .i64 1)]]) (hnd := by decide) (h := ?_)
      exact hj8 (x45, 0, 1, 1, 1)
  ·refine oBlock ?_
   refine oLoop ?_
   refine oVirt (esz := 4) 5 (h := ?_)
   refine oView (H' := [.box [.d (.int .i64 x27)], .box [.d (.int .i64 r19), .d (.int .i64 r114)], .sl 4 (List.map e_SPoint ([] : List SPoint)) false]) rfl (h := ?_)
   refine oHead [0, 1, 5, 6, 7] [0, 2, 1] (T' := [(0, .ptr 0 0), (1, .d (.lit (List.map e_SPoint l))), (5, .ref 1 (List.length ([] : List SPoint)) 0 (List.length ([] : List SPoint))), (6, .ptr 2 0), (7, .d (.int .i64 2))]) (H' := [.box [.d (.int .i64 x27)], .sl 4 (List.map e_SPoint ([] : List SPoint)) false, .box [.d (.int .i64 r19), .d (.int .i64 r114)]]) (hnd := by decide) (h := ?_)
   refine bLoop (body := conversion_calc_normal_b1 k l) ((uc fun (i4 : Int) => (uc fun (x55 : Int) => (uc fun (xs11 : (List SPoint)) => (uc fun (x56 : Int) => (fun (x57 : Int) => [(0, .ptr 0 0), (1, .d (.lit (List.map e_SPoint l))), (5, .ref 1 (List.length xs11) 0 (List.length xs11)), (6, .ptr 2 0), (7, .d (.int .i64 i4))])))))) ((uc fun (i4 : Int) => (uc fun (x55 : Int) => (uc fun (xs11 : (List SPoint)) => (uc fun (x56 : Int) => (fun (x57 : Int) => [.box [.d (.int .i64 x55)], .sl 4 (List.map e_SPoint xs11) false, .box [.d (.int .i64 x56), .d (.int .i64 x57)]])))))) (fun again hag1 s => ?_) k (2, x27, ([] : List SPoint), r19, r114)
   ·unfold conversion_calc_normal_b1
    obtain ⟨i4, x55, xs11, x56, x57⟩ := s
    refine bUc ?_
    refine bUc ?_
    refine bUc ?_
    refine bUc ?_
    refine oView (T' := [(0, .ptr 0 0), (1, .d (.lit (List.map e_SPoint l))), (5, .ref 1 (List.length xs11) 0 (List.length xs11)), (6, .ptr 2 0), (7, .d (.int .i64 i4))]) (H' := [.box [.d (.int .i64 x55)], .sl 4 (List.map e_SPoint xs11) false, .box [.d (.int .i64 x56), .d (.int .i64 x57)]]) (h := ?_)
    refine oSeq ?_
    refine oSR rfl ?_
    refine oP (.d (.int .i64 i4)) p_move ?_
    refine oP (.d (.lit (List.map e_SPoint l))) p_move ?_
    refine oP (.d (.int .i64 ((List.length l) : Int))) (k_lenLit (enc := e_SPoint) l (hu := Try.underlying30)) ?_
    refine oP (.d (.bool (decide (i4 < ((List.length l) : Int))))) (p_int (k := .i64) (p := i4) (q := ((List.length l) : Int))) ?_
    refine oP (.d (.bool (decide (i4 < ((List.length l) : Int))))) p_move ?_
    refine bMeetF (H' := [.box [.d (.int .i64 x55)], .sl 4 (List.map e_SPoint xs11) false, .box [.d (.int .i64 x56), .d (.int .i64 x57)]]) 6 rfl ((fun (x65 : Bool) => [(0, .ptr 0 0), (1, .d (.lit (List.map e_SPoint l))), (5, .ref 1 (List.length xs11) 0 (List.length xs11)), (6, .ptr 2 0), (7, .d (.int .i64 i4)), (26, .d (.bool x65))])) (fun x65 => ?_) (fun F hj11 => ?_)
    ·refine oView (T' := [(0, .ptr 0 0), (1, .d (.lit (List.map e_SPoint l))), (5, .ref 1 (List.length xs11) 0 (List.length xs11)), (6, .ptr 2 0), (7, .d (.int .i64 i4)), (26, .d (.bool x65))]) (H' := [.box [.d (.int .i64 x55)], .sl 4 (List.map e_SPoint xs11) false, .box [.d (.int .i64 x56), .d (.int .i64 x57)]]) (h := ?_)
     refine oEnd ?_
     refine bSplit 26 (h1 := fun hc => ?_) (h2 := fun hc => ?_)
     ·refine oCondT (h := ?_)
      refine oSkip ?_
      refine oSeq ?_
      refine bJoin ((uc fun (x66 : Int) => (uc fun (xs14 : (List SPoint)) => (uc fun (x67 : Int) => (fun (x68 : Int) => [(0, .ptr 0 0), (1, .d (.lit (List.map e_SPoint l))), (5, .ref 1 (List.length xs14) 0 (List.length xs14)), (6, .ptr 2 0), (7, .d (.int .i64 i4))]))))) ((uc fun (x66 : Int) => (uc fun (xs14 : (List SPoint)) => (uc fun (x67 : Int) => (fun (x68 : Int) => [.box [.d (.int .i64 x66)], .sl 4 (List.map e_SPoint xs14) false, .box [.d (.int .i64 x67), .d (.int .i64 x68)]]))))) (fun s => s) (fun s => ?_) (fun hj12 => ?_)
      ·obtain ⟨x66, xs14, x67, x68⟩ := s
       refine bUc ?_
       refine bUc ?_
       refine bUc ?_
       refine oView (T' := [(0, .ptr 0 0), (1, .d (.lit (List.map e_SPoint l))), (5, .ref 1 (List.length xs14) 0 (List.length xs14)), (6, .ptr 2 0), (7, .d (.int .i64 i4))]) (H' := [.box [.d (.int .i64 x66)], .sl 4 (List.map e_SPoint xs14) false, .box [.d (.int .i64 x67), .d (.int .i64 x68)]]) (h := ?_)
       refine oRegion rfl ?_
       refine oP (.d (.int .i64 i4)) p_move ?_
       refine oP (.d (.int .i64 (IntKind.wrap .i64 (i4 + 1)))) (p_int (k := .i64) (p := i4) (q := 1)) ?_
       refine oP (.d (.int .i64 (IntKind.wrap .i64 (i4 + 1)))) p_assign ?_
       refine oEnd ?_
       refine oAgain ?_
       refine oHead [0, 1, 5, 6, 7] [0, 1, 2] (T' := [(0, .ptr 0 0), (1, .d (.lit (List.map e_SPoint l))), (5, .ref 1 (List.length xs14) 0 (List.length xs14)), (6, .ptr 2 0), (7, .d (.int .i64 (IntKind.wrap .i64 (i4 + 1))))]) (H' := [.box [.d (.int .i64 x66)], .sl 4 (List.map e_SPoint xs14) false, .box [.d (.int .i64 x67), .d (.int .i64 x68)]]) (hnd := by decide) (h := ?_)
       exact hag1 ((IntKind.wrap .i64 (i4 + 1)), x66, xs14, x67, x68)
      ·refine oBlock ?_
       refine oSR rfl ?_
       refine oP (.ptr 0 0) p_move ?_
       refine oP (.d (.lit (List.map e_SPoint l))) p_move ?_
       refine oP (.d (.int .i64 i4)) p_move ?_
       refine bCall (caps := []) (v := (uc fun (r123 : Int) => (uc fun (r1112 : Int) => (fun (x214 : Int) => (.agg [.d (.int .i64 r123), .d (.int .i64 r1112)] : V))))) (H' := (uc fun (r123 : Int) => (uc fun (r1112 : Int) => (fun (x214 : Int) => ([.box [.d (.int .i64 x214)], .sl 4 (List.map e_SPoint xs11) false, .box [.d (.int .i64 x56), .d (.int .i64 x57)]] : List Blk))))) [0] _ (conversion_calc_slope_goes k l i4 x55) (ho := rfl) (hfn := Try.func72) (hb := rfl) (hconv := ConvRs.refl _ _) (hnd := by decide) (hBl := fun _ => (by kernel_rfl)) (hv := fun _ => (by kernel_rfl)) (hH' := fun _ => (by kernel_rfl)) (h := fun r => ?_)
       obtain ⟨r123, r1112, x214⟩ := r
       refine bUc ?_
       refine bUc ?_
       refine oD (.ptr 3 0) (k_alloc (H' := [.box [.d (.int .i64 x214)], .sl 4 (List.map e_SPoint xs11) false, .box [.d (.int .i64 x56), .d (.int .i64 x57)], .box [.d (.int .i64 0), .d (.int .i64 0)]]) ty38) ?_
       refine oD (.undef) (k_store (vs := [.d (.int .i64 r123), .d (.int .i64 r1112)]) (H' := [.box [.d (.int .i64 x214)], .sl 4 (List.map e_SPoint xs11) false, .box [.d (.int .i64 x56), .d (.int .i64 x57)], .box [.d (.int .i64 r123), .d (.int .i64 r1112)]]) 3 0 (hi := ty38)) ?_
       refine oEnd ?_
       refine oSR rfl ?_
       refine oQ (.agg [.d (.int .i64 r123), .d (.int .i64 r1112)]) (k_loadAgg 3 0 (hu := Try.underlying38) (hi := ty38)) ?_
       refine oQ (.agg [.d (.int .i64 x56), .d (.int .i64 x57)]) (k_loadAgg 2 0 (hu := Try.underlying38) (hi := ty38)) ?_
       refine oP (.d (.bool (!((r123 == x56) && ((r1112 == x57) && true))))) (k_neAgg (hg := Try.eqGuardType38) (h := EqV.struct 1 38 [.d (.int .i64 r123), .d (.int .i64 r1112)] [.d (.int .i64 x56), .d (.int .i64 x57)] _ ((r123 == x56) && ((r1112 == x57) && true)) Try.underlying38 Try.stoodInHeld38 (EqF.one 1 1 _ _ _ _ _ _ _ (r123 == x56) ((r1112 == x57) && true) (by kernel_rfl) Try.underlying3 (by kernel_rfl) (by kernel_rfl) (by kernel_rfl) (by kernel_rfl) (EqV.int 3 .i64 .i64 r123 x56 Try.underlying3) (EqF.one 1 1 _ _ _ _ _ _ _ (r1112 == x57) true (by kernel_rfl) Try.underlying3 (by kernel_rfl) (by kernel_rfl) (by kernel_rfl) (by kernel_rfl) (EqV.int 3 .i64 .i64 r1112 x57 Try.underlying3) (EqF.nil 1 _ _))))) ?_
       refine oEnd ?_
       refine bSplit 35 (h1 := fun hc => ?_) (h2 := fun hc => ?_)
       ·refine oCondT (h := ?_)
        refine oDraw [(0, 11), (1, 7), (2, 10), (3, 11)] rfl ?_
        refine aP 0 (.ref 1 (List.length xs11) 0 (List.length xs11)) rfl p_move ?_
        refine aP 1 (.d (.lit (List.map e_SPoint l))) rfl p_move ?_
        refine aP 2 (.d (.int .i64 i4)) rfl p_move ?_
        refine aP 3 (.d (.int .i64 (IntKind.wrap .i64 (i4 - 1)))) rfl (p_int (k := .i64) (p := i4) (q := 1)) ?_
        refine dIdx (fun e1 h1 h11 => ?_)
        refine aP 4 (.lptr (e_SPoint e1) 0) rfl (k_idxLit e_SPoint_len l (a := e1) (k := .i64) (i := (IntKind.wrap .i64 (i4 - 1))) (hu := Try.underlying30) (hi := ty60) (h0 := h1) (he := h11)) ?_
        refine aQ 5 [] (.agg [.d (.int .i64 e1.X_Num), .d (.int .i64 e1.X_Den), .d (.int .i64 e1.Y_Num), .d (.int .i64 e1.Y_Den)]) rfl (k_loadLAgg (cells := e_SPoint e1) 0 [(.int .i64 e1.X_Num), (.int .i64 e1.X_Den), (.int .i64 e1.Y_Num), (.int .i64 e1.Y_Den)] (hu := Try.underlying60) (hi := ty60)) ?_
        refine aQ 8 [3] (.agg [.d (.int .i64 r123), .d (.int .i64 r1112)]) rfl (k_loadAgg 3 0 (hu := Try.underlying38) (hi := ty38)) ?_
        refine aOne (i := 6) (v := .ref 4 (List.length ([e1] : List SPoint)) 0 (List.length ([e1] : List SPoint))) rfl (hac := (Does.acts (k_buildSlice (H' := [.box [.d (.int .i64 x214)], .sl 4 (List.map e_SPoint xs11) false, .box [.d (.int .i64 x56), .d (.int .i64 x57)], .box [.d (.int .i64 r123), .d (.int .i64 r1112)], .sl 4 (List.map e_SPoint ([e1] : List SPoint)) false]) (List.map e_SPoint ([e1] : List SPoint)) Try.underlying30 ty60))) (h := ?_)
        refine dCap (fun h12 => ?_)
        refine aOne (i := 7) (v := .ref 1 (List.length (xs11 ++ ([e1] : List SPoint))) 0 (List.length (xs11 ++ ([e1] : List SPoint)))) rfl (hac := (Does.acts (k_append (H' := [.box [.d (.int .i64 x214)], .sl 4 (List.map e_SPoint (xs11 ++ ([e1] : List SPoint))) false, .box [.d (.int .i64 x56), .d (.int .i64 x57)], .box [.d (.int .i64 r123), .d (.int .i64 r1112)], .sl 4 (List.map e_SPoint ([e1] : List SPoint)) false]) (enc := e_SPoint) 1 xs11 ([e1] : List SPoint) Try.underlying30 Try.underlying30 ty60 (hy := (holdsRef (enc := e_SPoint) 4 ([e1] : List SPoint) false)) (hfit := h12)))) (h := ?_)
        refine aTakeP (i := 9) (.ref 1 (List.length (xs11 ++ ([e1] : List SPoint))) 0 (List.length (xs11 ++ ([e1] : List SPoint)))) rfl (hp := p_assign) (h := ?_)
        refine aOne (i := 10) (v := .undef) rfl (hac := (Does.acts (k_store (vs := [.d (.int .i64 r123), .d (.int .i64 r1112)]) (H' := [.box [.d (.int .i64 x214)], .sl 4 (List.map e_SPoint (xs11 ++ ([e1] : List SPoint))) false, .box [.d (.int .i64 r123), .d (.int .i64 r1112)], .box [.d (.int .i64 r123), .d (.int .i64 r1112)], .sl 4 (List.map e_SPoint ([e1] : List SPoint)) false]) 2 0 (hi := ty38)))) (h := ?_)
        refine aDone (h := ?_)
        refine oBlk ?_
        refine oHead [0, 1, 5, 6, 7] [0, 1, 2] (T' := [(0, .ptr 0 0), (1, .d (.lit (List.map e_SPoint l))), (5, .ref 1 (List.length (xs11 ++ ([e1] : List SPoint))) 0 (List.length (xs11 ++ ([e1] : List SPoint)))), (6, .ptr 2 0), (7, .d (.int .i64 i4))]) (H' := [.box [.d (.int .i64 x214)], .sl 4 (List.map e_SPoint (xs11 ++ ([e1] : List SPoint))) false, .box [.d (.int .i64 r123), .d (.int .i64 r1112)]]) (hnd := by decide) (h := ?_)
        exact hj12 (x214, (xs11 ++ ([e1] : List SPoint)), r123, r1112)
       ·refine oCondF (h := ?_)
        refine oSkip ?_
        refine oBlk ?_
        refine oHead [0, 1, 5, 6, 7] [0, 1, 2] (T' := [(0, .ptr 0 0), (1, .d (.lit (List.map e_SPoint l))), (5, .ref 1 (List.length xs11) 0 (List.length xs11)), (6, .ptr 2 0), (7, .d (.int .i64 i4))]) (H' := [.box [.d (.int .i64 x214)], .sl 4 (List.map e_SPoint xs11) false, .box [.d (.int .i64 x56), .d (.int .i64 x57)]]) (hnd := by decide) (h := ?_)
        exact hj12 (x214, xs11, x56, x57)
     ·refine oCondF (h := ?_)
      refine oExit rfl ?_
      refine oHead [0, 1, 5] [0, 1] (T' := [(0, .ptr 0 0), (1, .d (.lit (List.map e_SPoint l))), (5, .ref 1 (List.length xs11) 0 (List.length xs11))]) (H' := [.box [.d (.int .i64 x55)], .sl 4 (List.map e_SPoint xs11) false]) (hnd := by decide) (h := ?_)
      exact hj7 (x55, xs11)
    ·refine bPickF 20 (fun c => F (c && (x55 == 0))) (h1 := fun hc => ?_) (h2 := fun hc => ?_)
     ·refine oP (.ptr 0 0) p_move ?_
      refine oP (.ptr 0 0) (k_nilCheck 0 0) ?_
      refine oP (.ptr 0 0) (k_fieldAddr 0 0 (hu := Try.underlying69) (hf := rfl) (hi := ty33)) ?_
      refine oQ (.d (.int .i64 x55)) (k_load 0 0 (hu := Try.underlying33)) ?_
      refine oP (.d (.bool (x55 == 0))) (p_int (k := .i64) (p := x55) (q := 0)) ?_
      refine oP (.d (.bool (x55 == 0))) (p_pick (b := true)) ?_
      refine oHead [0, 1, 5, 6, 7, 26] [0, 1, 2] (T' := [(0, .ptr 0 0), (1, .d (.lit (List.map e_SPoint l))), (5, .ref 1 (List.length xs11) 0 (List.length xs11)), (6, .ptr 2 0), (7, .d (.int .i64 i4)), (26, .d (.bool (x55 == 0)))]) (H' := [.box [.d (.int .i64 x55)], .sl 4 (List.map e_SPoint xs11) false, .box [.d (.int .i64 x56), .d (.int .i64 x57)]]) (hnd := by decide) (h := ?_)
      exact hj11 (x55 == 0)
     ·refine oNot (h := ?_)
      refine oNot (h := ?_)
      refine oNot (h := ?_)
      refine oNot (h := ?_)
      refine oNot (h := ?_)
      refine oP (.d (.bool false)) (p_pick (b := false)) ?_
      refine oHead [0, 1, 5, 6, 7, 26] [0, 1, 2] (T' := [(0, .ptr 0 0), (1, .d (.lit (List.map e_SPoint l))), (5, .ref 1 (List.length xs11) 0 (List.length xs11)), (6, .ptr 2 0), (7, .d (.int .i64 i4)), (26, .d (.bool false))]) (H' := [.box [.d (.int .i64 x55)], .sl 4 (List.map e_SPoint xs11) false, .box [.d (.int .i64 x56), .d (.int .i64 x57)]]) (hnd := by decide) (h := ?_)
      exact hj11 false

/-- awardingbody/conversion.formed -/
def conversion_formed (k : Nat) (l : (List SPoint)) : Option ((List SPoint) × Int) := Option.bind (conversion_calc_normal k l 0) (uc fun r181 => fun x261 => bif (x261 != 0) then some ([], x261) else bif (decide (((List.length r181) : Int) > 410)) then some ([], 3) else some (r181, 0))
def conversion_formed_E (l : (List SPoint)) : (List SPoint) × Int → V × List Blk := uc fun r1 => fun r11 => (.tuple [.agg [.d (.lit (List.map e_SPoint r1))], .d (.int .i64 r11)], [])
theorem conversion_formed_goes (k : Nat) (l : (List SPoint)) : RunsO Try.prog 51 [.d (.lit (List.map e_SPoint l))] [] (conversion_formed_E l) (conversion_formed k l) := by
  refine RunsO.of_goes (N := 22) (m := 0) (T := [(0, .d (.lit (List.map e_SPoint l)))]) Try.func51 rfl rfl (h := ?_)
  unfold conversion_formed
  refine bStart ?_
  refine oSR rfl ?_
  refine oD (.ptr 0 0) (k_alloc (H' := [.box [.nilc]]) ty32) ?_
  refine oP (.d (.int .i64 0)) p_assign ?_
  refine oEnd ?_
  refine oSR rfl ?_
  refine oD (.ptr 1 0) (k_alloc (H' := [.box [.nilc], .box [.d (.int .i64 0)]]) ty69) ?_
  refine oEnd ?_
  refine oSR rfl ?_
  refine oP (.d (.lit (List.map e_SPoint l))) p_move ?_
  refine bCall (caps := []) (v := (uc fun (r181 : (List SPoint)) => (fun (x261 : Int) => (.d (.lit (List.map e_SPoint r181)) : V)))) (H' := (uc fun (r181 : (List SPoint)) => (fun (x261 : Int) => ([.box [.nilc], .box [.d (.int .i64 x261)]] : List Blk)))) [1] _ (conversion_calc_normal_goes k l 0) (ho := rfl) (hfn := Try.func82) (hb := rfl) (hconv := ConvRs.refl _ _) (hnd := by decide) (hBl := fun _ => (by kernel_rfl)) (hv := fun _ => (by kernel_rfl)) (hH' := fun _ => (by kernel_rfl)) (h := fun r => ?_)
  obtain ⟨r181, x261⟩ := r
  refine bUc ?_
  refine oP (.d (.lit (List.map e_SPoint r181))) p_assign ?_
  refine oEnd ?_
  refine oSeq ?_
  refine oBlock ?_
  refine oSR rfl ?_
  refine oP (.ptr 1 0) (k_fieldAddr 1 0 (hu := Try.underlying69) (hf := rfl) (hi := ty33)) ?_
  refine oQ (.d (.int .i64 x261)) (k_load 1 0 (hu := Try.underlying33)) ?_
  refine oP (.d (.bool (x261 != 0))) (p_int (k := .i64) (p := x261) (q := 0)) ?_
  refine oP (.d (.bool (x261 != 0))) p_assign ?_
  refine oEnd ?_
  refine bSplit 8 (h1 := fun hc => ?_) (h2 := fun hc => ?_)
  ·refine oCondT (h := ?_)
   refine oSeq ?_
   refine oDraw [(0, 3), (1, 5)] rfl ?_
   refine aP 0 (.agg [.nilc]) rfl (p_build bld32) ?_
   refine aP 1 (.ptr 1 0) rfl (k_fieldAddr 1 0 (hu := Try.underlying69) (hf := rfl) (hi := ty33)) ?_
   refine aQ 2 [1] (.d (.int .i64 x261)) rfl (k_load 1 0 (hu := Try.underlying33)) ?_
   refine aOne (i := 3) (v := .undef) rfl (hac := Does.acts (k_store (vs := [.nilc]) (H' := [.box [.nilc], .box [.d (.int .i64 x261)]]) 0 0 (hi := ty32))) (h := ?_)
   refine aP 4 (.d (.int .i64 x261)) rfl p_assign ?_
   refine aDone (h := ?_)
   refine oConvB 0 (cells := [.nilc]) (cells' := [.d (.lit (List.map e_SPoint []))]) (hc := .cons _ _ _ _ .nil .nil) (h := ?_)
   refine oView (H' := [.box [.d (.lit (List.map e_SPoint []))], .box [.d (.int .i64 x261)]]) rfl (h := ?_)
   exact oRet (r0 := ([], x261)) (rv := .tuple [.agg [.d (.lit (List.map e_SPoint []))], .d (.int .i64 x261)]) (B := []) (vs := [.agg [.d (.lit (List.map e_SPoint []))], .d (.int .i64 x261)]) (σ := []) (hf := Try.func51) (hrs := rfl) (hres := .cons _ _ _ _ (.agg 2 32 0 0 [.d (.lit (List.map e_SPoint []))] [.d (.lit (List.map e_SPoint []))] _ _ _ _ (by kernel_rfl) (by kernel_rfl) Try.underlying32 (by kernel_rfl) ty32 (by kernel_rfl) (by kernel_rfl)) (.cons _ _ _ _ (.tmp 3 _ (by kernel_rfl)) .nil)) (hnd := by decide)
  ·refine oCondF (h := ?_)
   refine oSR rfl ?_
   refine oP (.d (.lit (List.map e_SPoint r181))) p_move ?_
   refine oP (.d (.int .i64 ((List.length r181) : Int))) (k_lenLit (enc := e_SPoint) r181 (hu := Try.underlying30)) ?_
   refine oP (.d (.bool (decide (((List.length r181) : Int) > 410)))) (p_int (k := .i64) (p := ((List.length r181) : Int)) (q := 410)) ?_
   refine oP (.d (.bool (decide (((List.length r181) : Int) > 410)))) p_assign ?_
   refine oEnd ?_
   refine bSplit 15 (h1 := fun hc => ?_) (h2 := fun hc => ?_)
   ·refine oCondT (h := ?_)
    refine oSR rfl ?_
    refine oP (.agg [.nilc]) (p_build bld32) ?_
    refine oD (.undef) (k_store (vs := [.nilc]) (H' := [.box [.nilc], .box [.d (.int .i64 x261)]]) 0 0 (hi := ty32)) ?_
    refine oP (.d (.int .i64 3)) p_assign ?_
    refine oEnd ?_
    refine oConvB 0 (cells := [.nilc]) (cells' := [.d (.lit (List.map e_SPoint []))]) (hc := .cons _ _ _ _ .nil .nil) (h := ?_)
    refine oView (H' := [.box [.d (.lit (List.map e_SPoint []))], .box [.d (.int .i64 x261)]]) rfl (h := ?_)
    exact oRet (r0 := ([], 3)) (rv := .tuple [.agg [.d (.lit (List.map e_SPoint []))], .d (.int .i64 3)]) (B := []) (vs := [.agg [.d (.lit (List.map e_SPoint []))], .d (.int .i64 3)]) (σ := []) (hf := Try.func51) (hrs := rfl) (hres := .cons _ _ _ _ (.agg 2 32 0 0 [.d (.lit (List.map e_SPoint []))] [.d (.lit (List.map e_SPoint []))] _ _ _ _ (by kernel_rfl) (by kernel_rfl) Try.underlying32 (by kernel_rfl) ty32 (by kernel_rfl) (by kernel_rfl)) (.cons _ _ _ _ (.tmp 3 _ (by kernel_rfl)) .nil)) (hnd := by decide)
   ·refine oCondF (h := ?_)
    refine oSkip ?_
    refine oBlk ?_
    refine oSR rfl ?_
    refine oP (.d (.lit (List.map e_SPoint r181))) p_move ?_
    refine oP (.agg [.d (.lit (List.map e_SPoint r181))]) (p_build bld32) ?_
    refine oD (.undef) (k_store (vs := [.d (.lit (List.map e_SPoint r181))]) (H' := [.box [.d (.lit (List.map e_SPoint r181))], .box [.d (.int .i64 x261)]]) 0 0 (hi := ty32)) ?_
    refine oP (.d (.int .i64 0)) p_assign ?_
    refine oEnd ?_
    exact oRet (r0 := (r181, 0)) (rv := .tuple [.agg [.d (.lit (List.map e_SPoint r181))], .d (.int .i64 0)]) (B := []) (vs := [.agg [.d (.lit (List.map e_SPoint r181))], .d (.int .i64 0)]) (σ := []) (hf := Try.func51) (hrs := rfl) (hres := .cons _ _ _ _ (.agg 2 32 0 0 [.d (.lit (List.map e_SPoint r181))] [.d (.lit (List.map e_SPoint r181))] _ _ _ _ (by kernel_rfl) (by kernel_rfl) Try.underlying32 (by kernel_rfl) ty32 (by kernel_rfl) (by kernel_rfl)) (.cons _ _ _ _ (.tmp 3 _ (by kernel_rfl)) .nil)) (hnd := by decide)

/-- awardingbody/conversion.Normal -/
def conversion_Normal (k : Nat) (c0 : (List SPoint)) : Option ((List SPoint) × Int) := Option.bind (conversion_Valid k c0) (fun r14 => bif (!r14) then some ([], 1) else Option.bind (conversion_formed k c0) (uc fun r15 => fun r112 => some (r15, r112)))
def conversion_Normal_E (c0 : (List SPoint)) : (List SPoint) × Int → V × List Blk := uc fun r12 => fun r13 => (.tuple [.agg [.d (.lit (List.map e_SPoint r12))], .d (.int .i64 r13)], [])
theorem conversion_Normal_goes (k : Nat) (c0 : (List SPoint)) : RunsO Try.prog 35 [.agg [.d (.lit (List.map e_SPoint c0))]] [] (conversion_Normal_E c0) (conversion_Normal k c0) := by
  refine RunsO.of_goes (N := 13) (m := 0) (T := [(0, .agg [.d (.lit (List.map e_SPoint c0))])]) Try.func35 rfl rfl (h := ?_)
  unfold conversion_Normal
  refine bStart ?_
  refine oSR rfl ?_
  refine oD (.ptr 0 0) (k_box (H' := [.box [.d (.lit (List.map e_SPoint c0))]]) (cells := [.d (.lit (List.map e_SPoint c0))])) ?_
  refine oD (.ptr 1 0) (k_alloc (H' := [.box [.d (.lit (List.map e_SPoint c0))], .box [.nilc]]) ty32) ?_
  refine oP (.d (.int .i64 0)) p_assign ?_
  refine oEnd ?_
  refine oSeq ?_
  refine oSR rfl ?_
  refine oQ (.agg [.d (.lit (List.map e_SPoint c0))]) (k_loadAgg 0 0 (hu := Try.underlying32) (hi := ty32)) ?_
  refine bCall (caps := []) (v := (fun (r14 : Bool) => (.d (.bool r14) : V))) (H' := (fun (r14 : Bool) => ([.box [.d (.lit (List.map e_SPoint c0))], .box [.nilc]] : List Blk))) [] _ (conversion_Valid_goes k c0) (ho := rfl) (hfn := Try.func38) (hb := rfl) (hconv := ConvRs.refl _ _) (hnd := by decide) (hBl := fun _ => (by kernel_rfl)) (hv := fun _ => (by kernel_rfl)) (hH' := fun _ => (by kernel_rfl)) (h := fun r14 => ?_)
  refine oP (.d (.bool (!r14))) (p_not (p := r14)) ?_
  refine oEnd ?_
  refine bSplit 6 (h1 := fun hc => ?_) (h2 := fun hc => ?_)
  ·refine oCondT (h := ?_)
   refine oSR rfl ?_
   refine oP (.agg [.nilc]) (p_build bld32) ?_
   refine oD (.undef) (k_store (vs := [.nilc]) (H' := [.box [.d (.lit (List.map e_SPoint c0))], .box [.nilc]]) 1 0 (hi := ty32)) ?_
   refine oP (.d (.int .i64 1)) p_assign ?_
   refine oEnd ?_
   refine oConvB 1 (cells := [.nilc]) (cells' := [.d (.lit (List.map e_SPoint []))]) (hc := .cons _ _ _ _ .nil .nil) (h := ?_)
   refine oView (H' := [.box [.d (.lit (List.map e_SPoint c0))], .box [.d (.lit (List.map e_SPoint []))]]) rfl (h := ?_)
   exact oRet (r0 := ([], 1)) (rv := .tuple [.agg [.d (.lit (List.map e_SPoint []))], .d (.int .i64 1)]) (B := []) (vs := [.agg [.d (.lit (List.map e_SPoint []))], .d (.int .i64 1)]) (σ := []) (hf := Try.func35) (hrs := rfl) (hres := .cons _ _ _ _ (.agg 2 32 1 0 [.d (.lit (List.map e_SPoint []))] [.d (.lit (List.map e_SPoint []))] _ _ _ _ (by kernel_rfl) (by kernel_rfl) Try.underlying32 (by kernel_rfl) ty32 (by kernel_rfl) (by kernel_rfl)) (.cons _ _ _ _ (.tmp 3 _ (by kernel_rfl)) .nil)) (hnd := by decide)
  ·refine oCondF (h := ?_)
   refine oSkip ?_
   refine oSR rfl ?_
   refine oP (.ptr 0 0) (k_fieldAddr 0 0 (hu := Try.underlying32) (hf := rfl) (hi := ty30)) ?_
   refine oQ (.d (.lit (List.map e_SPoint c0))) (k_load 0 0 (hu := Try.underlying30)) ?_
   refine bCall (caps := []) (v := (uc fun (r15 : (List SPoint)) => (fun (r112 : Int) => (.tuple [.agg [.d (.lit (List.map e_SPoint r15))], .d (.int .i64 r112)] : V)))) (H' := (uc fun (r15 : (List SPoint)) => (fun (r112 : Int) => ([.box [.d (.lit (List.map e_SPoint c0))], .box [.nilc]] : List Blk)))) [] _ (conversion_formed_goes k c0) (ho := rfl) (hfn := Try.func51) (hb := rfl) (hconv := ConvRs.refl _ _) (hnd := by decide) (hBl := fun _ => (by kernel_rfl)) (hv := fun _ => (by kernel_rfl)) (hH' := fun _ => (by kernel_rfl)) (h := fun r => ?_)
   obtain ⟨r15, r112⟩ := r
   refine bUc ?_
   refine oP (.agg [.d (.lit (List.map e_SPoint r15))]) k_extract ?_
   refine oP (.d (.int .i64 r112)) k_extract ?_
   refine oD (.undef) (k_store (vs := [.d (.lit (List.map e_SPoint r15))]) (H' := [.box [.d (.lit (List.map e_SPoint c0))], .box [.d (.lit (List.map e_SPoint r15))]]) 1 0 (hi := ty32)) ?_
   refine oP (.d (.int .i64 r112)) p_assign ?_
   refine oEnd ?_
   exact oRet (r0 := (r15, r112)) (rv := .tuple [.agg [.d (.lit (List.map e_SPoint r15))], .d (.int .i64 r112)]) (B := []) (vs := [.agg [.d (.lit (List.map e_SPoint r15))], .d (.int .i64 r112)]) (σ := []) (hf := Try.func35) (hrs := rfl) (hres := .cons _ _ _ _ (.agg 2 32 1 0 [.d (.lit (List.map e_SPoint r15))] [.d (.lit (List.map e_SPoint r15))] _ _ _ _ (by kernel_rfl) (by kernel_rfl) Try.underlying32 (by kernel_rfl) ty32 (by kernel_rfl) (by kernel_rfl)) (.cons _ _ _ _ (.tmp 3 _ (by kernel_rfl)) .nil)) (hnd := by decide)

end Go.VM
