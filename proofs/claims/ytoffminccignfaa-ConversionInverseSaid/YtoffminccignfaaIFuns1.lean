/- Plain functions that answer as the program's functions do, and the proof that they do. -/
import Derived.Test.YtoffminccignfaaProg
import Derived.KernelRfl
import Derived.Test.YtoffminccignfaaEngPart
import Derived.Test.YtoffminccignfaaIFacts
import Derived.Test.YtoffminccignfaaIFuns0
namespace Go.VM
open Go.Proofs
set_option linter.unusedVariables false
set_option linter.unusedSimpArgs false
set_option maxRecDepth 100000
/-- math/bits.Div64 -/
def math_bits_Div64_b1 (k : Nat) (yn15 : Int) (yn05 : Int) (un05 : Int) (again : Int × Int × Int → Option (Int × Int)) : Int × Int × Int → Option (Int × Int) := uc fun rhat8 => uc fun un216 => fun q06 => Option.bind (bif (decide (q06 ≥ 4294967296)) then some true else some (decide ((IntKind.wrap .u64 (q06 * yn05)) > (IntKind.wrap .u64 ((IntKind.wrap .u64 (4294967296 * rhat8)) + un05)))) : Option (Bool)) (fun x5 => bif x5 then bif (decide ((IntKind.wrap .u64 (rhat8 + yn15)) ≥ 4294967296)) then some (un216, (IntKind.wrap .u64 (q06 - 1))) else again ((IntKind.wrap .u64 (rhat8 + yn15)), un216, (IntKind.wrap .u64 (q06 - 1))) else some (un216, q06))
def math_bits_Div64_b2 (k : Nat) (again : Int × Int × Int × Int × Int × Int × Int × Int × Int → Option (Int × Int × Int × Int × Int × Int × Int × Int)) : Int × Int × Int × Int × Int × Int × Int × Int × Int → Option (Int × Int × Int × Int × Int × Int × Int × Int) := uc fun y7 => uc fun s16 => uc fun yn16 => uc fun yn06 => uc fun un326 => uc fun un16 => uc fun un06 => uc fun q16 => fun rhat10 => Option.bind (bif (decide (q16 ≥ 4294967296)) then some true else some (decide ((IntKind.wrap .u64 (q16 * yn06)) > (IntKind.wrap .u64 ((IntKind.wrap .u64 (4294967296 * rhat10)) + un16)))) : Option (Bool)) (fun x7 => bif x7 then bif (decide ((IntKind.wrap .u64 (rhat10 + yn16)) ≥ 4294967296)) then some (y7, s16, yn16, yn06, un326, un16, un06, (IntKind.wrap .u64 (q16 - 1))) else again (y7, s16, yn16, yn06, un326, un16, un06, (IntKind.wrap .u64 (q16 - 1)), (IntKind.wrap .u64 (rhat10 + yn16))) else some (y7, s16, yn16, yn06, un326, un16, un06, q16))
def math_bits_Div64 (k : Nat) (hi : Int) (lo : Int) (y : Int) : Option (Int × Int) := bif (y == 0) then none else bif (decide (y ≤ hi)) then none else bif (hi == 0) then gnz y (gnz y (some ((IntKind.wrap .u64 (Int.tdiv lo y)), (Int.tmod lo y)))) else Option.bind (math_bits_LeadingZeros64 k y) (fun r111 => gnn (IntKind.wrap .u64 r111) (gnn (IntKind.wrap .u64 r111) (gnn (IntKind.wrap .u64 (64 - (IntKind.wrap .u64 r111))) (gnn (IntKind.wrap .u64 r111) (gnz (Int.fdiv (IntKind.wrap .u64 (y * 2 ^ (min (Int.toNat (IntKind.wrap .u64 r111)) (IntKind.bits .u64)))) (2 ^ (min (Int.toNat 32) (IntKind.bits .u64)))) (Option.bind (gloop (math_bits_Div64_b2 k) k ((IntKind.wrap .u64 (y * 2 ^ (min (Int.toNat (IntKind.wrap .u64 r111)) (IntKind.bits .u64)))), (IntKind.wrap .u64 r111), (Int.fdiv (IntKind.wrap .u64 (y * 2 ^ (min (Int.toNat (IntKind.wrap .u64 r111)) (IntKind.bits .u64)))) (2 ^ (min (Int.toNat 32) (IntKind.bits .u64)))), (iand .u64 (IntKind.wrap .u64 (y * 2 ^ (min (Int.toNat (IntKind.wrap .u64 r111)) (IntKind.bits .u64)))) 4294967295), (ior .u64 (IntKind.wrap .u64 (hi * 2 ^ (min (Int.toNat (IntKind.wrap .u64 r111)) (IntKind.bits .u64)))) (Int.fdiv lo (2 ^ (min (Int.toNat (IntKind.wrap .u64 (64 - (IntKind.wrap .u64 r111)))) (IntKind.bits .u64))))), (Int.fdiv (IntKind.wrap .u64 (lo * 2 ^ (min (Int.toNat (IntKind.wrap .u64 r111)) (IntKind.bits .u64)))) (2 ^ (min (Int.toNat 32) (IntKind.bits .u64)))), (iand .u64 (IntKind.wrap .u64 (lo * 2 ^ (min (Int.toNat (IntKind.wrap .u64 r111)) (IntKind.bits .u64)))) 4294967295), (IntKind.wrap .u64 (Int.tdiv (ior .u64 (IntKind.wrap .u64 (hi * 2 ^ (min (Int.toNat (IntKind.wrap .u64 r111)) (IntKind.bits .u64)))) (Int.fdiv lo (2 ^ (min (Int.toNat (IntKind.wrap .u64 (64 - (IntKind.wrap .u64 r111)))) (IntKind.bits .u64))))) (Int.fdiv (IntKind.wrap .u64 (y * 2 ^ (min (Int.toNat (IntKind.wrap .u64 r111)) (IntKind.bits .u64)))) (2 ^ (min (Int.toNat 32) (IntKind.bits .u64)))))), (IntKind.wrap .u64 ((ior .u64 (IntKind.wrap .u64 (hi * 2 ^ (min (Int.toNat (IntKind.wrap .u64 r111)) (IntKind.bits .u64)))) (Int.fdiv lo (2 ^ (min (Int.toNat (IntKind.wrap .u64 (64 - (IntKind.wrap .u64 r111)))) (IntKind.bits .u64))))) - (IntKind.wrap .u64 ((IntKind.wrap .u64 (Int.tdiv (ior .u64 (IntKind.wrap .u64 (hi * 2 ^ (min (Int.toNat (IntKind.wrap .u64 r111)) (IntKind.bits .u64)))) (Int.fdiv lo (2 ^ (min (Int.toNat (IntKind.wrap .u64 (64 - (IntKind.wrap .u64 r111)))) (IntKind.bits .u64))))) (Int.fdiv (IntKind.wrap .u64 (y * 2 ^ (min (Int.toNat (IntKind.wrap .u64 r111)) (IntKind.bits .u64)))) (2 ^ (min (Int.toNat 32) (IntKind.bits .u64)))))) * (Int.fdiv (IntKind.wrap .u64 (y * 2 ^ (min (Int.toNat (IntKind.wrap .u64 r111)) (IntKind.bits .u64)))) (2 ^ (min (Int.toNat 32) (IntKind.bits .u64))))))))) : Option (Int × Int × Int × Int × Int × Int × Int × Int)) (uc fun y6 => uc fun s15 => uc fun yn15 => uc fun yn05 => uc fun un325 => uc fun un15 => uc fun un05 => fun q15 => gnz yn15 (Option.bind (gloop (math_bits_Div64_b1 k yn15 yn05 un05) k ((IntKind.wrap .u64 ((IntKind.wrap .u64 ((IntKind.wrap .u64 ((IntKind.wrap .u64 (un325 * 4294967296)) + un15)) - (IntKind.wrap .u64 (q15 * y6)))) - (IntKind.wrap .u64 ((IntKind.wrap .u64 (Int.tdiv (IntKind.wrap .u64 ((IntKind.wrap .u64 ((IntKind.wrap .u64 (un325 * 4294967296)) + un15)) - (IntKind.wrap .u64 (q15 * y6)))) yn15)) * yn15)))), (IntKind.wrap .u64 ((IntKind.wrap .u64 ((IntKind.wrap .u64 (un325 * 4294967296)) + un15)) - (IntKind.wrap .u64 (q15 * y6)))), (IntKind.wrap .u64 (Int.tdiv (IntKind.wrap .u64 ((IntKind.wrap .u64 ((IntKind.wrap .u64 (un325 * 4294967296)) + un15)) - (IntKind.wrap .u64 (q15 * y6)))) yn15))) : Option (Int × Int)) (uc fun un215 => fun q05 => gnn s15 (some ((IntKind.wrap .u64 ((IntKind.wrap .u64 (q15 * 4294967296)) + q05)), (Int.fdiv (IntKind.wrap .u64 ((IntKind.wrap .u64 ((IntKind.wrap .u64 (un215 * 4294967296)) + un05)) - (IntKind.wrap .u64 (q05 * y6)))) (2 ^ (min (Int.toNat s15) (IntKind.bits .u64)))))))))))))))
def math_bits_Div64_E (hi : Int) (lo : Int) (y : Int) : Int × Int → V × List Blk := uc fun r1 => fun r12 => (.tuple [.d (.int .u64 r1), .d (.int .u64 r12)], [])
theorem math_bits_Div64_goes (k : Nat) (hi : Int) (lo : Int) (y : Int) : RunsO Try.prog 83 [.d (.int .u64 hi), .d (.int .u64 lo), .d (.int .u64 y)] [] (math_bits_Div64_E hi lo y) (math_bits_Div64 k hi lo y) := by
  refine RunsO.of_goes (N := 135) (m := 0) (T := [(0, .d (.int .u64 hi)), (1, .d (.int .u64 lo)), (2, .d (.int .u64 y))]) Try.func83 rfl rfl (h := ?_)
  unfold math_bits_Div64
  refine bStart ?_
  refine oSR rfl ?_
  refine oP (.d (.int .u64 0)) p_assign ?_
  refine oP (.d (.int .u64 0)) p_assign ?_
  refine oEnd ?_
  refine oSeq ?_
  refine oSR rfl ?_
  refine oP (.d (.int .u64 y)) p_move ?_
  refine oP (.d (.bool (y == 0))) (p_int (k := .u64) (p := y) (q := 0)) ?_
  refine oEnd ?_
  refine bSplit 20 (h1 := fun hc => ?_) (h2 := fun hc => ?_)
  ·refine oCondT (h := ?_)
   exact bNone
  ·refine oCondF (h := ?_)
   refine oSkip ?_
   refine oSeq ?_
   refine oSR rfl ?_
   refine oP (.d (.int .u64 y)) p_move ?_
   refine oP (.d (.int .u64 hi)) p_move ?_
   refine oP (.d (.bool (decide (y ≤ hi)))) (p_int (k := .u64) (p := y) (q := hi)) ?_
   refine oEnd ?_
   refine bSplit 24 (h1 := fun hc => ?_) (h2 := fun hc => ?_)
   ·refine oCondT (h := ?_)
    exact bNone
   ·refine oCondF (h := ?_)
    refine oSkip ?_
    refine oSeq ?_
    refine oSR rfl ?_
    refine oP (.d (.int .u64 hi)) p_move ?_
    refine oP (.d (.bool (hi == 0))) (p_int (k := .u64) (p := hi) (q := 0)) ?_
    refine oEnd ?_
    refine bSplit 27 (h1 := fun hc => ?_) (h2 := fun hc => ?_)
    ·refine oCondT (h := ?_)
     refine oSeq ?_
     refine oDraw [] rfl ?_
     refine aP 0 (.d (.int .u64 lo)) rfl p_move ?_
     refine aP 1 (.d (.int .u64 y)) rfl p_move ?_
     refine dNz (fun h1 => ?_)
     refine aTakeP (i := 2) (.d (.int .u64 (IntKind.wrap .u64 (Int.tdiv lo y)))) rfl (hp := p_quo (k := .u64) (p := lo) (q := y) (hq := h1)) (h := ?_)
     refine aP 3 (.d (.int .u64 lo)) rfl p_move ?_
     refine aP 4 (.d (.int .u64 y)) rfl p_move ?_
     refine dNz (fun h12 => ?_)
     refine aTakeP (i := 5) (.d (.int .u64 (Int.tmod lo y))) rfl (hp := p_rem (k := .u64) (p := lo) (q := y) (hq := h12)) (h := ?_)
     refine aP 6 (.d (.int .u64 (IntKind.wrap .u64 (Int.tdiv lo y)))) rfl p_assign ?_
     refine aP 7 (.d (.int .u64 (Int.tmod lo y))) rfl p_assign ?_
     refine aDone (h := ?_)
     exact oRet (r0 := ((IntKind.wrap .u64 (Int.tdiv lo y)), (Int.tmod lo y))) (rv := .tuple [.d (.int .u64 (IntKind.wrap .u64 (Int.tdiv lo y))), .d (.int .u64 (Int.tmod lo y))]) (B := []) (vs := [.d (.int .u64 (IntKind.wrap .u64 (Int.tdiv lo y))), .d (.int .u64 (Int.tmod lo y))]) (σ := []) (hf := Try.func83) (hrs := rfl) (hres := .cons _ _ _ _ (.tmp 6 _ (by kernel_rfl)) (.cons _ _ _ _ (.tmp 7 _ (by kernel_rfl)) .nil)) (hnd := by decide)
    ·refine oCondF (h := ?_)
     refine oSkip ?_
     refine oSR rfl ?_
     refine oP (.d (.int .u64 y)) p_move ?_
     refine bCall (caps := []) (v := (fun (r111 : Int) => (.d (.int .i64 r111) : V))) (H' := (fun (r111 : Int) => ([] : List Blk))) [] _ (math_bits_LeadingZeros64_goes k y) (ho := rfl) (hfn := Try.func86) (hb := rfl) (hconv := ConvRs.refl _ _) (hnd := by decide) (hBl := fun _ => (by kernel_rfl)) (hv := fun _ => (by kernel_rfl)) (hH' := fun _ => (by kernel_rfl)) (h := fun r111 => ?_)
     refine oP (.d (.int .u64 (IntKind.wrap .u64 r111))) (p_conv (k := .i64) (p := r111) (hu1 := Try.underlying3) (hu2 := Try.underlying78)) ?_
     refine oP (.d (.int .u64 (IntKind.wrap .u64 r111))) p_assign ?_
     refine oEnd ?_
     refine oSR rfl ?_
     refine oP (.d (.int .u64 y)) p_move ?_
     refine oP (.d (.int .u64 (IntKind.wrap .u64 r111))) p_move ?_
     refine bNn (fun h125 => ?_)
     refine oP (.d (.int .u64 (IntKind.wrap .u64 (y * 2 ^ (min (Int.toNat (IntKind.wrap .u64 r111)) (IntKind.bits .u64)))))) (p_shl (k := .u64) (k2 := .u64) (p := y) (q := (IntKind.wrap .u64 r111)) (hq := h125)) ?_
     refine oP (.d (.int .u64 (IntKind.wrap .u64 (y * 2 ^ (min (Int.toNat (IntKind.wrap .u64 r111)) (IntKind.bits .u64)))))) p_assign ?_
     refine oEnd ?_
     refine oSR rfl ?_
     refine oP (.d (.int .u64 (IntKind.wrap .u64 (y * 2 ^ (min (Int.toNat (IntKind.wrap .u64 r111)) (IntKind.bits .u64)))))) p_move ?_
     refine oP (.d (.int .u64 (Int.fdiv (IntKind.wrap .u64 (y * 2 ^ (min (Int.toNat (IntKind.wrap .u64 r111)) (IntKind.bits .u64)))) (2 ^ (min (Int.toNat 32) (IntKind.bits .u64)))))) (p_shr (k := .u64) (k2 := .u64) (p := (IntKind.wrap .u64 (y * 2 ^ (min (Int.toNat (IntKind.wrap .u64 r111)) (IntKind.bits .u64))))) (q := 32) (hq := by decide)) ?_
     refine oP (.d (.int .u64 (Int.fdiv (IntKind.wrap .u64 (y * 2 ^ (min (Int.toNat (IntKind.wrap .u64 r111)) (IntKind.bits .u64)))) (2 ^ (min (Int.toNat 32) (IntKind.bits .u64)))))) p_assign ?_
     refine oEnd ?_
     refine oSR rfl ?_
     refine oP (.d (.int .u64 (IntKind.wrap .u64 (y * 2 ^ (min (Int.toNat (IntKind.wrap .u64 r111)) (IntKind.bits .u64)))))) p_move ?_
     refine oP (.d (.int .u64 (iand .u64 (IntKind.wrap .u64 (y * 2 ^ (min (Int.toNat (IntKind.wrap .u64 r111)) (IntKind.bits .u64)))) 4294967295))) (p_int (k := .u64) (p := (IntKind.wrap .u64 (y * 2 ^ (min (Int.toNat (IntKind.wrap .u64 r111)) (IntKind.bits .u64))))) (q := 4294967295)) ?_
     refine oP (.d (.int .u64 (iand .u64 (IntKind.wrap .u64 (y * 2 ^ (min (Int.toNat (IntKind.wrap .u64 r111)) (IntKind.bits .u64)))) 4294967295))) p_assign ?_
     refine oEnd ?_
     refine oSR rfl ?_
     refine oP (.d (.int .u64 hi)) p_move ?_
     refine oP (.d (.int .u64 (IntKind.wrap .u64 r111))) p_move ?_
     refine bNn (fun h126 => ?_)
     refine oP (.d (.int .u64 (IntKind.wrap .u64 (hi * 2 ^ (min (Int.toNat (IntKind.wrap .u64 r111)) (IntKind.bits .u64)))))) (p_shl (k := .u64) (k2 := .u64) (p := hi) (q := (IntKind.wrap .u64 r111)) (hq := h126)) ?_
     refine oP (.d (.int .u64 lo)) p_move ?_
     refine oP (.d (.int .u64 (IntKind.wrap .u64 r111))) p_move ?_
     refine oP (.d (.int .u64 (IntKind.wrap .u64 (64 - (IntKind.wrap .u64 r111))))) (p_int (k := .u64) (p := 64) (q := (IntKind.wrap .u64 r111))) ?_
     refine bNn (fun h127 => ?_)
     refine oP (.d (.int .u64 (Int.fdiv lo (2 ^ (min (Int.toNat (IntKind.wrap .u64 (64 - (IntKind.wrap .u64 r111)))) (IntKind.bits .u64)))))) (p_shr (k := .u64) (k2 := .u64) (p := lo) (q := (IntKind.wrap .u64 (64 - (IntKind.wrap .u64 r111)))) (hq := h127)) ?_
     refine oP (.d (.int .u64 (ior .u64 (IntKind.wrap .u64 (hi * 2 ^ (min (Int.toNat (IntKind.wrap .u64 r111)) (IntKind.bits .u64)))) (Int.fdiv lo (2 ^ (min (Int.toNat (IntKind.wrap .u64 (64 - (IntKind.wrap .u64 r111)))) (IntKind.bits .u64))))))) (p_int (k := .u64) (p := (IntKind.wrap .u64 (hi * 2 ^ (min (Int.toNat (IntKind.wrap .u64 r111)) (IntKind.bits .u64))))) (q := (Int.fdiv lo (2 ^ (min (Int.toNat (IntKind.wrap .u64 (64 - (IntKind.wrap .u64 r111)))) (IntKind.bits .u64)))))) ?_
     refine oP (.d (.int .u64 (ior .u64 (IntKind.wrap .u64 (hi * 2 ^ (min (Int.toNat (IntKind.wrap .u64 r111)) (IntKind.bits .u64)))) (Int.fdiv lo (2 ^ (min (Int.toNat (IntKind.wrap .u64 (64 - (IntKind.wrap .u64 r111)))) (IntKind.bits .u64))))))) p_assign ?_
     refine oEnd ?_
     refine oSR rfl ?_
     refine oP (.d (.int .u64 lo)) p_move ?_
     refine oP (.d (.int .u64 (IntKind.wrap .u64 r111))) p_move ?_
     refine bNn (fun h128 => ?_)
     refine oP (.d (.int .u64 (IntKind.wrap .u64 (lo * 2 ^ (min (Int.toNat (IntKind.wrap .u64 r111)) (IntKind.bits .u64)))))) (p_shl (k := .u64) (k2 := .u64) (p := lo) (q := (IntKind.wrap .u64 r111)) (hq := h128)) ?_
     refine oP (.d (.int .u64 (IntKind.wrap .u64 (lo * 2 ^ (min (Int.toNat (IntKind.wrap .u64 r111)) (IntKind.bits .u64)))))) p_assign ?_
     refine oEnd ?_
     refine oSR rfl ?_
     refine oP (.d (.int .u64 (IntKind.wrap .u64 (lo * 2 ^ (min (Int.toNat (IntKind.wrap .u64 r111)) (IntKind.bits .u64)))))) p_move ?_
     refine oP (.d (.int .u64 (Int.fdiv (IntKind.wrap .u64 (lo * 2 ^ (min (Int.toNat (IntKind.wrap .u64 r111)) (IntKind.bits .u64)))) (2 ^ (min (Int.toNat 32) (IntKind.bits .u64)))))) (p_shr (k := .u64) (k2 := .u64) (p := (IntKind.wrap .u64 (lo * 2 ^ (min (Int.toNat (IntKind.wrap .u64 r111)) (IntKind.bits .u64))))) (q := 32) (hq := by decide)) ?_
     refine oP (.d (.int .u64 (Int.fdiv (IntKind.wrap .u64 (lo * 2 ^ (min (Int.toNat (IntKind.wrap .u64 r111)) (IntKind.bits .u64)))) (2 ^ (min (Int.toNat 32) (IntKind.bits .u64)))))) p_assign ?_
     refine oEnd ?_
     refine oSR rfl ?_
     refine oP (.d (.int .u64 (IntKind.wrap .u64 (lo * 2 ^ (min (Int.toNat (IntKind.wrap .u64 r111)) (IntKind.bits .u64)))))) p_move ?_
     refine oP (.d (.int .u64 (iand .u64 (IntKind.wrap .u64 (lo * 2 ^ (min (Int.toNat (IntKind.wrap .u64 r111)) (IntKind.bits .u64)))) 4294967295))) (p_int (k := .u64) (p := (IntKind.wrap .u64 (lo * 2 ^ (min (Int.toNat (IntKind.wrap .u64 r111)) (IntKind.bits .u64))))) (q := 4294967295)) ?_
     refine oP (.d (.int .u64 (iand .u64 (IntKind.wrap .u64 (lo * 2 ^ (min (Int.toNat (IntKind.wrap .u64 r111)) (IntKind.bits .u64)))) 4294967295))) p_assign ?_
     refine oEnd ?_
     refine oSR rfl ?_
     refine oP (.d (.int .u64 (ior .u64 (IntKind.wrap .u64 (hi * 2 ^ (min (Int.toNat (IntKind.wrap .u64 r111)) (IntKind.bits .u64)))) (Int.fdiv lo (2 ^ (min (Int.toNat (IntKind.wrap .u64 (64 - (IntKind.wrap .u64 r111)))) (IntKind.bits .u64))))))) p_move ?_
     refine oP (.d (.int .u64 (Int.fdiv (IntKind.wrap .u64 (y * 2 ^ (min (Int.toNat (IntKind.wrap .u64 r111)) (IntKind.bits .u64)))) (2 ^ (min (Int.toNat 32) (IntKind.bits .u64)))))) p_move ?_
     refine bNz (fun h129 => ?_)
     refine oP (.d (.int .u64 (IntKind.wrap .u64 (Int.tdiv (ior .u64 (IntKind.wrap .u64 (hi * 2 ^ (min (Int.toNat (IntKind.wrap .u64 r111)) (IntKind.bits .u64)))) (Int.fdiv lo (2 ^ (min (Int.toNat (IntKind.wrap .u64 (64 - (IntKind.wrap .u64 r111)))) (IntKind.bits .u64))))) (Int.fdiv (IntKind.wrap .u64 (y * 2 ^ (min (Int.toNat (IntKind.wrap .u64 r111)) (IntKind.bits .u64)))) (2 ^ (min (Int.toNat 32) (IntKind.bits .u64)))))))) (p_quo (k := .u64) (p := (ior .u64 (IntKind.wrap .u64 (hi * 2 ^ (min (Int.toNat (IntKind.wrap .u64 r111)) (IntKind.bits .u64)))) (Int.fdiv lo (2 ^ (min (Int.toNat (IntKind.wrap .u64 (64 - (IntKind.wrap .u64 r111)))) (IntKind.bits .u64)))))) (q := (Int.fdiv (IntKind.wrap .u64 (y * 2 ^ (min (Int.toNat (IntKind.wrap .u64 r111)) (IntKind.bits .u64)))) (2 ^ (min (Int.toNat 32) (IntKind.bits .u64))))) (hq := h129)) ?_
     refine oP (.d (.int .u64 (IntKind.wrap .u64 (Int.tdiv (ior .u64 (IntKind.wrap .u64 (hi * 2 ^ (min (Int.toNat (IntKind.wrap .u64 r111)) (IntKind.bits .u64)))) (Int.fdiv lo (2 ^ (min (Int.toNat (IntKind.wrap .u64 (64 - (IntKind.wrap .u64 r111)))) (IntKind.bits .u64))))) (Int.fdiv (IntKind.wrap .u64 (y * 2 ^ (min (Int.toNat (IntKind.wrap .u64 r111)) (IntKind.bits .u64)))) (2 ^ (min (Int.toNat 32) (IntKind.bits .u64)))))))) p_assign ?_
     refine oEnd ?_
     refine oSR rfl ?_
     refine oP (.d (.int .u64 (ior .u64 (IntKind.wrap .u64 (hi * 2 ^ (min (Int.toNat (IntKind.wrap .u64 r111)) (IntKind.bits .u64)))) (Int.fdiv lo (2 ^ (min (Int.toNat (IntKind.wrap .u64 (64 - (IntKind.wrap .u64 r111)))) (IntKind.bits .u64))))))) p_move ?_
     refine oP (.d (.int .u64 (IntKind.wrap .u64 (Int.tdiv (ior .u64 (IntKind.wrap .u64 (hi * 2 ^ (min (Int.toNat (IntKind.wrap .u64 r111)) (IntKind.bits .u64)))) (Int.fdiv lo (2 ^ (min (Int.toNat (IntKind.wrap .u64 (64 - (IntKind.wrap .u64 r111)))) (IntKind.bits .u64))))) (Int.fdiv (IntKind.wrap .u64 (y * 2 ^ (min (Int.toNat (IntKind.wrap .u64 r111)) (IntKind.bits .u64)))) (2 ^ (min (Int.toNat 32) (IntKind.bits .u64)))))))) p_move ?_
     refine oP (.d (.int .u64 (Int.fdiv (IntKind.wrap .u64 (y * 2 ^ (min (Int.toNat (IntKind.wrap .u64 r111)) (IntKind.bits .u64)))) (2 ^ (min (Int.toNat 32) (IntKind.bits .u64)))))) p_move ?_
     refine oP (.d (.int .u64 (IntKind.wrap .u64 ((IntKind.wrap .u64 (Int.tdiv (ior .u64 (IntKind.wrap .u64 (hi * 2 ^ (min (Int.toNat (IntKind.wrap .u64 r111)) (IntKind.bits .u64)))) (Int.fdiv lo (2 ^ (min (Int.toNat (IntKind.wrap .u64 (64 - (IntKind.wrap .u64 r111)))) (IntKind.bits .u64))))) (Int.fdiv (IntKind.wrap .u64 (y * 2 ^ (min (Int.toNat (IntKind.wrap .u64 r111)) (IntKind.bits .u64)))) (2 ^ (min (Int.toNat 32) (IntKind.bits .u64)))))) * (Int.fdiv (IntKind.wrap .u64 (y * 2 ^ (min (Int.toNat (IntKind.wrap .u64 r111)) (IntKind.bits .u64)))) (2 ^ (min (Int.toNat 32) (IntKind.bits .u64)))))))) (p_int (k := .u64) (p := (IntKind.wrap .u64 (Int.tdiv (ior .u64 (IntKind.wrap .u64 (hi * 2 ^ (min (Int.toNat (IntKind.wrap .u64 r111)) (IntKind.bits .u64)))) (Int.fdiv lo (2 ^ (min (Int.toNat (IntKind.wrap .u64 (64 - (IntKind.wrap .u64 r111)))) (IntKind.bits .u64))))) (Int.fdiv (IntKind.wrap .u64 (y * 2 ^ (min (Int.toNat (IntKind.wrap .u64 r111)) (IntKind.bits .u64)))) (2 ^ (min (Int.toNat 32) (IntKind.bits .u64))))))) (q := (Int.fdiv (IntKind.wrap .u64 (y * 2 ^ (min (Int.toNat (IntKind.wrap .u64 r111)) (IntKind.bits .u64)))) (2 ^ (min (Int.toNat 32) (IntKind.bits .u64)))))) ?_
     refine oP (.d (.int .u64 (IntKind.wrap .u64 ((ior .u64 (IntKind.wrap .u64 (hi * 2 ^ (min (Int.toNat (IntKind.wrap .u64 r111)) (IntKind.bits .u64)))) (Int.fdiv lo (2 ^ (min (Int.toNat (IntKind.wrap .u64 (64 - (IntKind.wrap .u64 r111)))) (IntKind.bits .u64))))) - (IntKind.wrap .u64 ((IntKind.wrap .u64 (Int.tdiv (ior .u64 (IntKind.wrap .u64 (hi * 2 ^ (min (Int.toNat (IntKind.wrap .u64 r111)) (IntKind.bits .u64)))) (Int.fdiv lo (2 ^ (min (Int.toNat (IntKind.wrap .u64 (64 - (IntKind.wrap .u64 r111)))) (IntKind.bits .u64))))) (Int.fdiv (IntKind.wrap .u64 (y * 2 ^ (min (Int.toNat (IntKind.wrap .u64 r111)) (IntKind.bits .u64)))) (2 ^ (min (Int.toNat 32) (IntKind.bits .u64)))))) * (Int.fdiv (IntKind.wrap .u64 (y * 2 ^ (min (Int.toNat (IntKind.wrap .u64 r111)) (IntKind.bits .u64)))) (2 ^ (min (Int.toNat 32) (IntKind.bits .u64)))))))))) (p_int (k := .u64) (p := (ior .u64 (IntKind.wrap .u64 (hi * 2 ^ (min (Int.toNat (IntKind.wrap .u64 r111)) (IntKind.bits .u64)))) (Int.fdiv lo (2 ^ (min (Int.toNat (IntKind.wrap .u64 (64 - (IntKind.wrap .u64 r111)))) (IntKind.bits .u64)))))) (q := (IntKind.wrap .u64 ((IntKind.wrap .u64 (Int.tdiv (ior .u64 (IntKind.wrap .u64 (hi * 2 ^ (min (Int.toNat (IntKind.wrap .u64 r111)) (IntKind.bits .u64)))) (Int.fdiv lo (2 ^ (min (Int.toNat (IntKind.wrap .u64 (64 - (IntKind.wrap .u64 r111)))) (IntKind.bits .u64))))) (Int.fdiv (IntKind.wrap .u64 (y * 2 ^ (min (Int.toNat (IntKind.wrap .u64 r111)) (IntKind.bits .u64)))) (2 ^ (min (Int.toNat 32) (IntKind.bits .u64)))))) * (Int.fdiv (IntKind.wrap .u64 (y * 2 ^ (min (Int.toNat (IntKind.wrap .u64 r111)) (IntKind.bits .u64)))) (2 ^ (min (Int.toNat 32) (IntKind.bits .u64)))))))) ?_
     refine oP (.d (.int .u64 (IntKind.wrap .u64 ((ior .u64 (IntKind.wrap .u64 (hi * 2 ^ (min (Int.toNat (IntKind.wrap .u64 r111)) (IntKind.bits .u64)))) (Int.fdiv lo (2 ^ (min (Int.toNat (IntKind.wrap .u64 (64 - (IntKind.wrap .u64 r111)))) (IntKind.bits .u64))))) - (IntKind.wrap .u64 ((IntKind.wrap .u64 (Int.tdiv (ior .u64 (IntKind.wrap .u64 (hi * 2 ^ (min (Int.toNat (IntKind.wrap .u64 r111)) (IntKind.bits .u64)))) (Int.fdiv lo (2 ^ (min (Int.toNat (IntKind.wrap .u64 (64 - (IntKind.wrap .u64 r111)))) (IntKind.bits .u64))))) (Int.fdiv (IntKind.wrap .u64 (y * 2 ^ (min (Int.toNat (IntKind.wrap .u64 r111)) (IntKind.bits .u64)))) (2 ^ (min (Int.toNat 32) (IntKind.bits .u64)))))) * (Int.fdiv (IntKind.wrap .u64 (y * 2 ^ (min (Int.toNat (IntKind.wrap .u64 r111)) (IntKind.bits .u64)))) (2 ^ (min (Int.toNat 32) (IntKind.bits .u64)))))))))) p_assign ?_
     refine oEnd ?_
     refine oSeq ?_
     refine bJoin ((uc fun (y6 : Int) => (uc fun (s15 : Int) => (uc fun (yn15 : Int) => (uc fun (yn05 : Int) => (uc fun (un325 : Int) => (uc fun (un15 : Int) => (uc fun (un05 : Int) => (fun (q15 : Int) => [(2, .d (.int .u64 y6)), (8, .d (.int .u64 s15)), (9, .d (.int .u64 yn15)), (10, .d (.int .u64 yn05)), (11, .d (.int .u64 un325)), (13, .d (.int .u64 un15)), (14, .d (.int .u64 un05)), (15, .d (.int .u64 q15))]))))))))) ((uc fun (y6 : Int) => (uc fun (s15 : Int) => (uc fun (yn15 : Int) => (uc fun (yn05 : Int) => (uc fun (un325 : Int) => (uc fun (un15 : Int) => (uc fun (un05 : Int) => (fun (q15 : Int) => []))))))))) (fun s => s) (fun s => ?_) (fun hj3 => ?_)
     ·obtain ⟨y6, s15, yn15, yn05, un325, un15, un05, q15⟩ := s
      refine bUc ?_
      refine bUc ?_
      refine bUc ?_
      refine bUc ?_
      refine bUc ?_
      refine bUc ?_
      refine bUc ?_
      refine oView (T' := [(2, .d (.int .u64 y6)), (8, .d (.int .u64 s15)), (9, .d (.int .u64 yn15)), (10, .d (.int .u64 yn05)), (11, .d (.int .u64 un325)), (13, .d (.int .u64 un15)), (14, .d (.int .u64 un05)), (15, .d (.int .u64 q15))]) (H' := []) (h := ?_)
      refine oSR rfl ?_
      refine oP (.d (.int .u64 un325)) p_move ?_
      refine oP (.d (.int .u64 (IntKind.wrap .u64 (un325 * 4294967296)))) (p_int (k := .u64) (p := un325) (q := 4294967296)) ?_
      refine oP (.d (.int .u64 un15)) p_move ?_
      refine oP (.d (.int .u64 (IntKind.wrap .u64 ((IntKind.wrap .u64 (un325 * 4294967296)) + un15)))) (p_int (k := .u64) (p := (IntKind.wrap .u64 (un325 * 4294967296))) (q := un15)) ?_
      refine oP (.d (.int .u64 q15)) p_move ?_
      refine oP (.d (.int .u64 y6)) p_move ?_
      refine oP (.d (.int .u64 (IntKind.wrap .u64 (q15 * y6)))) (p_int (k := .u64) (p := q15) (q := y6)) ?_
      refine oP (.d (.int .u64 (IntKind.wrap .u64 ((IntKind.wrap .u64 ((IntKind.wrap .u64 (un325 * 4294967296)) + un15)) - (IntKind.wrap .u64 (q15 * y6)))))) (p_int (k := .u64) (p := (IntKind.wrap .u64 ((IntKind.wrap .u64 (un325 * 4294967296)) + un15))) (q := (IntKind.wrap .u64 (q15 * y6)))) ?_
      refine oP (.d (.int .u64 (IntKind.wrap .u64 ((IntKind.wrap .u64 ((IntKind.wrap .u64 (un325 * 4294967296)) + un15)) - (IntKind.wrap .u64 (q15 * y6)))))) p_assign ?_
      refine oEnd ?_
      refine oSR rfl ?_
      refine oP (.d (.int .u64 (IntKind.wrap .u64 ((IntKind.wrap .u64 ((IntKind.wrap .u64 (un325 * 4294967296)) + un15)) - (IntKind.wrap .u64 (q15 * y6)))))) p_move ?_
      refine oP (.d (.int .u64 yn15)) p_move ?_
      refine bNz (fun h130 => ?_)
      refine oP (.d (.int .u64 (IntKind.wrap .u64 (Int.tdiv (IntKind.wrap .u64 ((IntKind.wrap .u64 ((IntKind.wrap .u64 (un325 * 4294967296)) + un15)) - (IntKind.wrap .u64 (q15 * y6)))) yn15)))) (p_quo (k := .u64) (p := (IntKind.wrap .u64 ((IntKind.wrap .u64 ((IntKind.wrap .u64 (un325 * 4294967296)) + un15)) - (IntKind.wrap .u64 (q15 * y6))))) (q := yn15) (hq := h130)) ?_
      refine oP (.d (.int .u64 (IntKind.wrap .u64 (Int.tdiv (IntKind.wrap .u64 ((IntKind.wrap .u64 ((IntKind.wrap .u64 (un325 * 4294967296)) + un15)) - (IntKind.wrap .u64 (q15 * y6)))) yn15)))) p_assign ?_
      refine oEnd ?_
      refine oSR rfl ?_
      refine oP (.d (.int .u64 (IntKind.wrap .u64 ((IntKind.wrap .u64 ((IntKind.wrap .u64 (un325 * 4294967296)) + un15)) - (IntKind.wrap .u64 (q15 * y6)))))) p_move ?_
      refine oP (.d (.int .u64 (IntKind.wrap .u64 (Int.tdiv (IntKind.wrap .u64 ((IntKind.wrap .u64 ((IntKind.wrap .u64 (un325 * 4294967296)) + un15)) - (IntKind.wrap .u64 (q15 * y6)))) yn15)))) p_move ?_
      refine oP (.d (.int .u64 yn15)) p_move ?_
      refine oP (.d (.int .u64 (IntKind.wrap .u64 ((IntKind.wrap .u64 (Int.tdiv (IntKind.wrap .u64 ((IntKind.wrap .u64 ((IntKind.wrap .u64 (un325 * 4294967296)) + un15)) - (IntKind.wrap .u64 (q15 * y6)))) yn15)) * yn15)))) (p_int (k := .u64) (p := (IntKind.wrap .u64 (Int.tdiv (IntKind.wrap .u64 ((IntKind.wrap .u64 ((IntKind.wrap .u64 (un325 * 4294967296)) + un15)) - (IntKind.wrap .u64 (q15 * y6)))) yn15))) (q := yn15)) ?_
      refine oP (.d (.int .u64 (IntKind.wrap .u64 ((IntKind.wrap .u64 ((IntKind.wrap .u64 ((IntKind.wrap .u64 (un325 * 4294967296)) + un15)) - (IntKind.wrap .u64 (q15 * y6)))) - (IntKind.wrap .u64 ((IntKind.wrap .u64 (Int.tdiv (IntKind.wrap .u64 ((IntKind.wrap .u64 ((IntKind.wrap .u64 (un325 * 4294967296)) + un15)) - (IntKind.wrap .u64 (q15 * y6)))) yn15)) * yn15)))))) (p_int (k := .u64) (p := (IntKind.wrap .u64 ((IntKind.wrap .u64 ((IntKind.wrap .u64 (un325 * 4294967296)) + un15)) - (IntKind.wrap .u64 (q15 * y6))))) (q := (IntKind.wrap .u64 ((IntKind.wrap .u64 (Int.tdiv (IntKind.wrap .u64 ((IntKind.wrap .u64 ((IntKind.wrap .u64 (un325 * 4294967296)) + un15)) - (IntKind.wrap .u64 (q15 * y6)))) yn15)) * yn15)))) ?_
      refine oP (.d (.int .u64 (IntKind.wrap .u64 ((IntKind.wrap .u64 ((IntKind.wrap .u64 ((IntKind.wrap .u64 (un325 * 4294967296)) + un15)) - (IntKind.wrap .u64 (q15 * y6)))) - (IntKind.wrap .u64 ((IntKind.wrap .u64 (Int.tdiv (IntKind.wrap .u64 ((IntKind.wrap .u64 ((IntKind.wrap .u64 (un325 * 4294967296)) + un15)) - (IntKind.wrap .u64 (q15 * y6)))) yn15)) * yn15)))))) p_assign ?_
      refine oEnd ?_
      refine oSeq ?_
      refine bJoin ((uc fun (un215 : Int) => (fun (q05 : Int) => [(2, .d (.int .u64 y6)), (8, .d (.int .u64 s15)), (14, .d (.int .u64 un05)), (15, .d (.int .u64 q15)), (17, .d (.int .u64 un215)), (18, .d (.int .u64 q05))]))) ((uc fun (un215 : Int) => (fun (q05 : Int) => []))) (fun s => s) (fun s => ?_) (fun hj4 => ?_)
      ·obtain ⟨un215, q05⟩ := s
       refine bUc ?_
       refine oView (T' := [(2, .d (.int .u64 y6)), (8, .d (.int .u64 s15)), (14, .d (.int .u64 un05)), (15, .d (.int .u64 q15)), (17, .d (.int .u64 un215)), (18, .d (.int .u64 q05))]) (H' := []) (h := ?_)
       refine oSR rfl ?_
       refine oP (.d (.int .u64 q15)) p_move ?_
       refine oP (.d (.int .u64 (IntKind.wrap .u64 (q15 * 4294967296)))) (p_int (k := .u64) (p := q15) (q := 4294967296)) ?_
       refine oP (.d (.int .u64 q05)) p_move ?_
       refine oP (.d (.int .u64 (IntKind.wrap .u64 ((IntKind.wrap .u64 (q15 * 4294967296)) + q05)))) (p_int (k := .u64) (p := (IntKind.wrap .u64 (q15 * 4294967296))) (q := q05)) ?_
       refine oP (.d (.int .u64 un215)) p_move ?_
       refine oP (.d (.int .u64 (IntKind.wrap .u64 (un215 * 4294967296)))) (p_int (k := .u64) (p := un215) (q := 4294967296)) ?_
       refine oP (.d (.int .u64 un05)) p_move ?_
       refine oP (.d (.int .u64 (IntKind.wrap .u64 ((IntKind.wrap .u64 (un215 * 4294967296)) + un05)))) (p_int (k := .u64) (p := (IntKind.wrap .u64 (un215 * 4294967296))) (q := un05)) ?_
       refine oP (.d (.int .u64 q05)) p_move ?_
       refine oP (.d (.int .u64 y6)) p_move ?_
       refine oP (.d (.int .u64 (IntKind.wrap .u64 (q05 * y6)))) (p_int (k := .u64) (p := q05) (q := y6)) ?_
       refine oP (.d (.int .u64 (IntKind.wrap .u64 ((IntKind.wrap .u64 ((IntKind.wrap .u64 (un215 * 4294967296)) + un05)) - (IntKind.wrap .u64 (q05 * y6)))))) (p_int (k := .u64) (p := (IntKind.wrap .u64 ((IntKind.wrap .u64 (un215 * 4294967296)) + un05))) (q := (IntKind.wrap .u64 (q05 * y6)))) ?_
       refine oP (.d (.int .u64 s15)) p_move ?_
       refine bNn (fun h131 => ?_)
       refine oP (.d (.int .u64 (Int.fdiv (IntKind.wrap .u64 ((IntKind.wrap .u64 ((IntKind.wrap .u64 (un215 * 4294967296)) + un05)) - (IntKind.wrap .u64 (q05 * y6)))) (2 ^ (min (Int.toNat s15) (IntKind.bits .u64)))))) (p_shr (k := .u64) (k2 := .u64) (p := (IntKind.wrap .u64 ((IntKind.wrap .u64 ((IntKind.wrap .u64 (un215 * 4294967296)) + un05)) - (IntKind.wrap .u64 (q05 * y6))))) (q := s15) (hq := h131)) ?_
       refine oP (.d (.int .u64 (IntKind.wrap .u64 ((IntKind.wrap .u64 (q15 * 4294967296)) + q05)))) p_assign ?_
       refine oP (.d (.int .u64 (Int.fdiv (IntKind.wrap .u64 ((IntKind.wrap .u64 ((IntKind.wrap .u64 (un215 * 4294967296)) + un05)) - (IntKind.wrap .u64 (q05 * y6)))) (2 ^ (min (Int.toNat s15) (IntKind.bits .u64)))))) p_assign ?_
       refine oEnd ?_
       exact oRet (r0 := ((IntKind.wrap .u64 ((IntKind.wrap .u64 (q15 * 4294967296)) + q05)), (Int.fdiv (IntKind.wrap .u64 ((IntKind.wrap .u64 ((IntKind.wrap .u64 (un215 * 4294967296)) + un05)) - (IntKind.wrap .u64 (q05 * y6)))) (2 ^ (min (Int.toNat s15) (IntKind.bits .u64)))))) (rv := .tuple [.d (.int .u64 (IntKind.wrap .u64 ((IntKind.wrap .u64 (q15 * 4294967296)) + q05))), .d (.int .u64 (Int.fdiv (IntKind.wrap .u64 ((IntKind.wrap .u64 ((IntKind.wrap .u64 (un215 * 4294967296)) + un05)) - (IntKind.wrap .u64 (q05 * y6)))) (2 ^ (min (Int.toNat s15) (IntKind.bits .u64)))))]) (B := []) (vs := [.d (.int .u64 (IntKind.wrap .u64 ((IntKind.wrap .u64 (q15 * 4294967296)) + q05))), .d (.int .u64 (Int.fdiv (IntKind.wrap .u64 ((IntKind.wrap .u64 ((IntKind.wrap .u64 (un215 * 4294967296)) + un05)) - (IntKind.wrap .u64 (q05 * y6)))) (2 ^ (min (Int.toNat s15) (IntKind.bits .u64)))))]) (σ := []) (hf := Try.func83) (hrs := rfl) (hres := .cons _ _ _ _ (.tmp 6 _ (by kernel_rfl)) (.cons _ _ _ _ (.tmp 7 _ (by kernel_rfl)) .nil)) (hnd := by decide)
      ·refine oBlock ?_
       refine oLoop ?_
       refine oHead [2, 8, 9, 10, 14, 15, 16, 17, 18] [] (T' := [(2, .d (.int .u64 y6)), (8, .d (.int .u64 s15)), (9, .d (.int .u64 yn15)), (10, .d (.int .u64 yn05)), (14, .d (.int .u64 un05)), (15, .d (.int .u64 q15)), (16, .d (.int .u64 (IntKind.wrap .u64 ((IntKind.wrap .u64 ((IntKind.wrap .u64 ((IntKind.wrap .u64 (un325 * 4294967296)) + un15)) - (IntKind.wrap .u64 (q15 * y6)))) - (IntKind.wrap .u64 ((IntKind.wrap .u64 (Int.tdiv (IntKind.wrap .u64 ((IntKind.wrap .u64 ((IntKind.wrap .u64 (un325 * 4294967296)) + un15)) - (IntKind.wrap .u64 (q15 * y6)))) yn15)) * yn15)))))), (17, .d (.int .u64 (IntKind.wrap .u64 ((IntKind.wrap .u64 ((IntKind.wrap .u64 (un325 * 4294967296)) + un15)) - (IntKind.wrap .u64 (q15 * y6)))))), (18, .d (.int .u64 (IntKind.wrap .u64 (Int.tdiv (IntKind.wrap .u64 ((IntKind.wrap .u64 ((IntKind.wrap .u64 (un325 * 4294967296)) + un15)) - (IntKind.wrap .u64 (q15 * y6)))) yn15))))]) (H' := []) (hnd := by decide) (h := ?_)
       refine bLoop (body := math_bits_Div64_b1 k yn15 yn05 un05) ((uc fun (rhat8 : Int) => (uc fun (un216 : Int) => (fun (q06 : Int) => [(2, .d (.int .u64 y6)), (8, .d (.int .u64 s15)), (9, .d (.int .u64 yn15)), (10, .d (.int .u64 yn05)), (14, .d (.int .u64 un05)), (15, .d (.int .u64 q15)), (16, .d (.int .u64 rhat8)), (17, .d (.int .u64 un216)), (18, .d (.int .u64 q06))])))) ((uc fun (rhat8 : Int) => (uc fun (un216 : Int) => (fun (q06 : Int) => [])))) (fun again hag1 s => ?_) k ((IntKind.wrap .u64 ((IntKind.wrap .u64 ((IntKind.wrap .u64 ((IntKind.wrap .u64 (un325 * 4294967296)) + un15)) - (IntKind.wrap .u64 (q15 * y6)))) - (IntKind.wrap .u64 ((IntKind.wrap .u64 (Int.tdiv (IntKind.wrap .u64 ((IntKind.wrap .u64 ((IntKind.wrap .u64 (un325 * 4294967296)) + un15)) - (IntKind.wrap .u64 (q15 * y6)))) yn15)) * yn15)))), (IntKind.wrap .u64 ((IntKind.wrap .u64 ((IntKind.wrap .u64 (un325 * 4294967296)) + un15)) - (IntKind.wrap .u64 (q15 * y6)))), (IntKind.wrap .u64 (Int.tdiv (IntKind.wrap .u64 ((IntKind.wrap .u64 ((IntKind.wrap .u64 (un325 * 4294967296)) + un15)) - (IntKind.wrap .u64 (q15 * y6)))) yn15)))
       ·unfold math_bits_Div64_b1
        obtain ⟨rhat8, un216, q06⟩ := s
        refine bUc ?_
        refine bUc ?_
        refine oView (T' := [(2, .d (.int .u64 y6)), (8, .d (.int .u64 s15)), (9, .d (.int .u64 yn15)), (10, .d (.int .u64 yn05)), (14, .d (.int .u64 un05)), (15, .d (.int .u64 q15)), (16, .d (.int .u64 rhat8)), (17, .d (.int .u64 un216)), (18, .d (.int .u64 q06))]) (H' := []) (h := ?_)
        refine oSeq ?_
        refine oSR rfl ?_
        refine oP (.d (.int .u64 q06)) p_move ?_
        refine oP (.d (.bool (decide (q06 ≥ 4294967296)))) (p_int (k := .u64) (p := q06) (q := 4294967296)) ?_
        refine oP (.d (.bool (decide (q06 ≥ 4294967296)))) p_move ?_
        refine bMeet 9 rfl ((fun (x5 : Bool) => [(2, .d (.int .u64 y6)), (8, .d (.int .u64 s15)), (9, .d (.int .u64 yn15)), (10, .d (.int .u64 yn05)), (14, .d (.int .u64 un05)), (15, .d (.int .u64 q15)), (16, .d (.int .u64 rhat8)), (17, .d (.int .u64 un216)), (18, .d (.int .u64 q06)), (113, .d (.bool x5))])) ((fun (x5 : Bool) => [])) (fun s => s) (fun x5 => ?_) (fun hj5 => ?_)
        ·refine oView (T' := [(2, .d (.int .u64 y6)), (8, .d (.int .u64 s15)), (9, .d (.int .u64 yn15)), (10, .d (.int .u64 yn05)), (14, .d (.int .u64 un05)), (15, .d (.int .u64 q15)), (16, .d (.int .u64 rhat8)), (17, .d (.int .u64 un216)), (18, .d (.int .u64 q06)), (113, .d (.bool x5))]) (H' := []) (h := ?_)
         refine oEnd ?_
         refine bSplit 113 (h1 := fun hc => ?_) (h2 := fun hc => ?_)
         ·refine oCondT (h := ?_)
          refine oSkip ?_
          refine oBlock ?_
          refine oSR rfl ?_
          refine oP (.d (.int .u64 q06)) p_move ?_
          refine oP (.d (.int .u64 (IntKind.wrap .u64 (q06 - 1)))) (p_int (k := .u64) (p := q06) (q := 1)) ?_
          refine oP (.d (.int .u64 (IntKind.wrap .u64 (q06 - 1)))) p_assign ?_
          refine oEnd ?_
          refine oSR rfl ?_
          refine oP (.d (.int .u64 rhat8)) p_move ?_
          refine oP (.d (.int .u64 yn15)) p_move ?_
          refine oP (.d (.int .u64 (IntKind.wrap .u64 (rhat8 + yn15)))) (p_int (k := .u64) (p := rhat8) (q := yn15)) ?_
          refine oP (.d (.int .u64 (IntKind.wrap .u64 (rhat8 + yn15)))) p_assign ?_
          refine oEnd ?_
          refine oSR rfl ?_
          refine oP (.d (.int .u64 (IntKind.wrap .u64 (rhat8 + yn15)))) p_move ?_
          refine oP (.d (.bool (decide ((IntKind.wrap .u64 (rhat8 + yn15)) ≥ 4294967296)))) (p_int (k := .u64) (p := (IntKind.wrap .u64 (rhat8 + yn15))) (q := 4294967296)) ?_
          refine oEnd ?_
          refine bSplit 120 (h1 := fun hc => ?_) (h2 := fun hc => ?_)
          ·refine oCondT (h := ?_)
           refine oExit rfl ?_
           refine oHead [2, 8, 14, 15, 17, 18] [] (T' := [(2, .d (.int .u64 y6)), (8, .d (.int .u64 s15)), (14, .d (.int .u64 un05)), (15, .d (.int .u64 q15)), (17, .d (.int .u64 un216)), (18, .d (.int .u64 (IntKind.wrap .u64 (q06 - 1))))]) (H' := []) (hnd := by decide) (h := ?_)
           exact hj4 (un216, (IntKind.wrap .u64 (q06 - 1)))
          ·refine oCondF (h := ?_)
           refine oSkip ?_
           refine oBlk ?_
           refine oAgain ?_
           refine oHead [2, 8, 9, 10, 14, 15, 16, 17, 18] [] (T' := [(2, .d (.int .u64 y6)), (8, .d (.int .u64 s15)), (9, .d (.int .u64 yn15)), (10, .d (.int .u64 yn05)), (14, .d (.int .u64 un05)), (15, .d (.int .u64 q15)), (16, .d (.int .u64 (IntKind.wrap .u64 (rhat8 + yn15)))), (17, .d (.int .u64 un216)), (18, .d (.int .u64 (IntKind.wrap .u64 (q06 - 1))))]) (H' := []) (hnd := by decide) (h := ?_)
           exact hag1 ((IntKind.wrap .u64 (rhat8 + yn15)), un216, (IntKind.wrap .u64 (q06 - 1)))
         ·refine oCondF (h := ?_)
          refine oExit rfl ?_
          refine oHead [2, 8, 14, 15, 17, 18] [] (T' := [(2, .d (.int .u64 y6)), (8, .d (.int .u64 s15)), (14, .d (.int .u64 un05)), (15, .d (.int .u64 q15)), (17, .d (.int .u64 un216)), (18, .d (.int .u64 q06))]) (H' := []) (hnd := by decide) (h := ?_)
          exact hj4 (un216, q06)
        ·refine bSplit 104 (h1 := fun hc => ?_) (h2 := fun hc => ?_)
         ·refine oNot (h := ?_)
          refine oNot (h := ?_)
          refine oNot (h := ?_)
          refine oNot (h := ?_)
          refine oNot (h := ?_)
          refine oNot (h := ?_)
          refine oNot (h := ?_)
          refine oNot (h := ?_)
          refine oP (.d (.bool true)) (p_pick (b := true)) ?_
          refine oHead [2, 8, 9, 10, 14, 15, 16, 17, 18, 113] [] (T' := [(2, .d (.int .u64 y6)), (8, .d (.int .u64 s15)), (9, .d (.int .u64 yn15)), (10, .d (.int .u64 yn05)), (14, .d (.int .u64 un05)), (15, .d (.int .u64 q15)), (16, .d (.int .u64 rhat8)), (17, .d (.int .u64 un216)), (18, .d (.int .u64 q06)), (113, .d (.bool true))]) (H' := []) (hnd := by decide) (h := ?_)
          exact hj5 true
         ·refine oP (.d (.int .u64 q06)) p_move ?_
          refine oP (.d (.int .u64 yn05)) p_move ?_
          refine oP (.d (.int .u64 (IntKind.wrap .u64 (q06 * yn05)))) (p_int (k := .u64) (p := q06) (q := yn05)) ?_
          refine oP (.d (.int .u64 rhat8)) p_move ?_
          refine oP (.d (.int .u64 (IntKind.wrap .u64 (4294967296 * rhat8)))) (p_int (k := .u64) (p := 4294967296) (q := rhat8)) ?_
          refine oP (.d (.int .u64 un05)) p_move ?_
          refine oP (.d (.int .u64 (IntKind.wrap .u64 ((IntKind.wrap .u64 (4294967296 * rhat8)) + un05)))) (p_int (k := .u64) (p := (IntKind.wrap .u64 (4294967296 * rhat8))) (q := un05)) ?_
          refine oP (.d (.bool (decide ((IntKind.wrap .u64 (q06 * yn05)) > (IntKind.wrap .u64 ((IntKind.wrap .u64 (4294967296 * rhat8)) + un05)))))) (p_int (k := .u64) (p := (IntKind.wrap .u64 (q06 * yn05))) (q := (IntKind.wrap .u64 ((IntKind.wrap .u64 (4294967296 * rhat8)) + un05)))) ?_
          refine oP (.d (.bool (decide ((IntKind.wrap .u64 (q06 * yn05)) > (IntKind.wrap .u64 ((IntKind.wrap .u64 (4294967296 * rhat8)) + un05)))))) (p_pick (b := false)) ?_
          refine oHead [2, 8, 9, 10, 14, 15, 16, 17, 18, 113] [] (T' := [(2, .d (.int .u64 y6)), (8, .d (.int .u64 s15)), (9, .d (.int .u64 yn15)), (10, .d (.int .u64 yn05)), (14, .d (.int .u64 un05)), (15, .d (.int .u64 q15)), (16, .d (.int .u64 rhat8)), (17, .d (.int .u64 un216)), (18, .d (.int .u64 q06)), (113, .d (.bool (decide ((IntKind.wrap .u64 (q06 * yn05)) > (IntKind.wrap .u64 ((IntKind.wrap .u64 (4294967296 * rhat8)) + un05))))))]) (H' := []) (hnd := by decide) (h := ?_)
          exact hj5 (decide ((IntKind.wrap .u64 (q06 * yn05)) > (IntKind.wrap .u64 ((IntKind.wrap .u64 (4294967296 * rhat8)) + un05))))
     ·refine oBlock ?_
      refine oLoop ?_
      refine oHead [2, 8, 9, 10, 11, 13, 14, 15, 16] [] (T' := [(2, .d (.int .u64 (IntKind.wrap .u64 (y * 2 ^ (min (Int.toNat (IntKind.wrap .u64 r111)) (IntKind.bits .u64)))))), (8, .d (.int .u64 (IntKind.wrap .u64 r111))), (9, .d (.int .u64 (Int.fdiv (IntKind.wrap .u64 (y * 2 ^ (min (Int.toNat (IntKind.wrap .u64 r111)) (IntKind.bits .u64)))) (2 ^ (min (Int.toNat 32) (IntKind.bits .u64)))))), (10, .d (.int .u64 (iand .u64 (IntKind.wrap .u64 (y * 2 ^ (min (Int.toNat (IntKind.wrap .u64 r111)) (IntKind.bits .u64)))) 4294967295))), (11, .d (.int .u64 (ior .u64 (IntKind.wrap .u64 (hi * 2 ^ (min (Int.toNat (IntKind.wrap .u64 r111)) (IntKind.bits .u64)))) (Int.fdiv lo (2 ^ (min (Int.toNat (IntKind.wrap .u64 (64 - (IntKind.wrap .u64 r111)))) (IntKind.bits .u64))))))), (13, .d (.int .u64 (Int.fdiv (IntKind.wrap .u64 (lo * 2 ^ (min (Int.toNat (IntKind.wrap .u64 r111)) (IntKind.bits .u64)))) (2 ^ (min (Int.toNat 32) (IntKind.bits .u64)))))), (14, .d (.int .u64 (iand .u64 (IntKind.wrap .u64 (lo * 2 ^ (min (Int.toNat (IntKind.wrap .u64 r111)) (IntKind.bits .u64)))) 4294967295))), (15, .d (.int .u64 (IntKind.wrap .u64 (Int.tdiv (ior .u64 (IntKind.wrap .u64 (hi * 2 ^ (min (Int.toNat (IntKind.wrap .u64 r111)) (IntKind.bits .u64)))) (Int.fdiv lo (2 ^ (min (Int.toNat (IntKind.wrap .u64 (64 - (IntKind.wrap .u64 r111)))) (IntKind.bits .u64))))) (Int.fdiv (IntKind.wrap .u64 (y * 2 ^ (min (Int.toNat (IntKind.wrap .u64 r111)) (IntKind.bits .u64)))) (2 ^ (min (Int.toNat 32) (IntKind.bits .u64)))))))), (16, .d (.int .u64 (IntKind.wrap .u64 ((ior .u64 (IntKind.wrap .u64 (hi * 2 ^ (min (Int.toNat (IntKind.wrap .u64 r111)) (IntKind.bits .u64)))) (Int.fdiv lo (2 ^ (min (Int.toNat (IntKind.wrap .u64 (64 - (IntKind.wrap .u64 r111)))) (IntKind.bits .u64))))) - (IntKind.wrap .u64 ((IntKind.wrap .u64 (Int.tdiv (ior .u64 (IntKind.wrap .u64 (hi * 2 ^ (min (Int.toNat (IntKind.wrap .u64 r111)) (IntKind.bits .u64)))) (Int.fdiv lo (2 ^ (min (Int.toNat (IntKind.wrap .u64 (64 - (IntKind.wrap .u64 r111)))) (IntKind.bits .u64))))) (Int.fdiv (IntKind.wrap .u64 (y * 2 ^ (min (Int.toNat (IntKind.wrap .u64 r111)) (IntKind.bits .u64)))) (2 ^ (min (Int.toNat 32) (IntKind.bits .u64)))))) * (Int.fdiv (IntKind.wrap .u64 (y * 2 ^ (min (Int.toNat (IntKind.wrap .u64 r111)) (IntKind.bits .u64)))) (2 ^ (min (Int.toNat 32) (IntKind.bits .u64))))))))))]) (H' := []) (hnd := by decide) (h := ?_)
      refine bLoop (body := math_bits_Div64_b2 k) ((uc fun (y7 : Int) => (uc fun (s16 : Int) => (uc fun (yn16 : Int) => (uc fun (yn06 : Int) => (uc fun (un326 : Int) => (uc fun (un16 : Int) => (uc fun (un06 : Int) => (uc fun (q16 : Int) => (fun (rhat10 : Int) => [(2, .d (.int .u64 y7)), (8, .d (.int .u64 s16)), (9, .d (.int .u64 yn16)), (10, .d (.int .u64 yn06)), (11, .d (.int .u64 un326)), (13, .d (.int .u64 un16)), (14, .d (.int .u64 un06)), (15, .d (.int .u64 q16)), (16, .d (.int .u64 rhat10))])))))))))) ((uc fun (y7 : Int) => (uc fun (s16 : Int) => (uc fun (yn16 : Int) => (uc fun (yn06 : Int) => (uc fun (un326 : Int) => (uc fun (un16 : Int) => (uc fun (un06 : Int) => (uc fun (q16 : Int) => (fun (rhat10 : Int) => [])))))))))) (fun again hag2 s => ?_) k ((IntKind.wrap .u64 (y * 2 ^ (min (Int.toNat (IntKind.wrap .u64 r111)) (IntKind.bits .u64)))), (IntKind.wrap .u64 r111), (Int.fdiv (IntKind.wrap .u64 (y * 2 ^ (min (Int.toNat (IntKind.wrap .u64 r111)) (IntKind.bits .u64)))) (2 ^ (min (Int.toNat 32) (IntKind.bits .u64)))), (iand .u64 (IntKind.wrap .u64 (y * 2 ^ (min (Int.toNat (IntKind.wrap .u64 r111)) (IntKind.bits .u64)))) 4294967295), (ior .u64 (IntKind.wrap .u64 (hi * 2 ^ (min (Int.toNat (IntKind.wrap .u64 r111)) (IntKind.bits .u64)))) (Int.fdiv lo (2 ^ (min (Int.toNat (IntKind.wrap .u64 (64 - (IntKind.wrap .u64 r111)))) (IntKind.bits .u64))))), (Int.fdiv (IntKind.wrap .u64 (lo * 2 ^ (min (Int.toNat (IntKind.wrap .u64 r111)) (IntKind.bits .u64)))) (2 ^ (min (Int.toNat 32) (IntKind.bits .u64)))), (iand .u64 (IntKind.wrap .u64 (lo * 2 ^ (min (Int.toNat (IntKind.wrap .u64 r111)) (IntKind.bits .u64)))) 4294967295), (IntKind.wrap .u64 (Int.tdiv (ior .u64 (IntKind.wrap .u64 (hi * 2 ^ (min (Int.toNat (IntKind.wrap .u64 r111)) (IntKind.bits .u64)))) (Int.fdiv lo (2 ^ (min (Int.toNat (IntKind.wrap .u64 (64 - (IntKind.wrap .u64 r111)))) (IntKind.bits .u64))))) (Int.fdiv (IntKind.wrap .u64 (y * 2 ^ (min (Int.toNat (IntKind.wrap .u64 r111)) (IntKind.bits .u64)))) (2 ^ (min (Int.toNat 32) (IntKind.bits .u64)))))), (IntKind.wrap .u64 ((ior .u64 (IntKind.wrap .u64 (hi * 2 ^ (min (Int.toNat (IntKind.wrap .u64 r111)) (IntKind.bits .u64)))) (Int.fdiv lo (2 ^ (min (Int.toNat (IntKind.wrap .u64 (64 - (IntKind.wrap .u64 r111)))) (IntKind.bits .u64))))) - (IntKind.wrap .u64 ((IntKind.wrap .u64 (Int.tdiv (ior .u64 (IntKind.wrap .u64 (hi * 2 ^ (min (Int.toNat (IntKind.wrap .u64 r111)) (IntKind.bits .u64)))) (Int.fdiv lo (2 ^ (min (Int.toNat (IntKind.wrap .u64 (64 - (IntKind.wrap .u64 r111)))) (IntKind.bits .u64))))) (Int.fdiv (IntKind.wrap .u64 (y * 2 ^ (min (Int.toNat (IntKind.wrap .u64 r111)) (IntKind.bits .u64)))) (2 ^ (min (Int.toNat 32) (IntKind.bits .u64)))))) * (Int.fdiv (IntKind.wrap .u64 (y * 2 ^ (min (Int.toNat (IntKind.wrap .u64 r111)) (IntKind.bits .u64)))) (2 ^ (min (Int.toNat 32) (IntKind.bits .u64)))))))))
      ·unfold math_bits_Div64_b2
       obtain ⟨y7, s16, yn16, yn06, un326, un16, un06, q16, rhat10⟩ := s
       refine bUc ?_
       refine bUc ?_
       refine bUc ?_
       refine bUc ?_
       refine bUc ?_
       refine bUc ?_
       refine bUc ?_
       refine bUc ?_
       refine oView (T' := [(2, .d (.int .u64 y7)), (8, .d (.int .u64 s16)), (9, .d (.int .u64 yn16)), (10, .d (.int .u64 yn06)), (11, .d (.int .u64 un326)), (13, .d (.int .u64 un16)), (14, .d (.int .u64 un06)), (15, .d (.int .u64 q16)), (16, .d (.int .u64 rhat10))]) (H' := []) (h := ?_)
       refine oSeq ?_
       refine oSR rfl ?_
       refine oP (.d (.int .u64 q16)) p_move ?_
       refine oP (.d (.bool (decide (q16 ≥ 4294967296)))) (p_int (k := .u64) (p := q16) (q := 4294967296)) ?_
       refine oP (.d (.bool (decide (q16 ≥ 4294967296)))) p_move ?_
       refine bMeet 9 rfl ((fun (x7 : Bool) => [(2, .d (.int .u64 y7)), (8, .d (.int .u64 s16)), (9, .d (.int .u64 yn16)), (10, .d (.int .u64 yn06)), (11, .d (.int .u64 un326)), (13, .d (.int .u64 un16)), (14, .d (.int .u64 un06)), (15, .d (.int .u64 q16)), (16, .d (.int .u64 rhat10)), (78, .d (.bool x7))])) ((fun (x7 : Bool) => [])) (fun s => s) (fun x7 => ?_) (fun hj6 => ?_)
       ·refine oView (T' := [(2, .d (.int .u64 y7)), (8, .d (.int .u64 s16)), (9, .d (.int .u64 yn16)), (10, .d (.int .u64 yn06)), (11, .d (.int .u64 un326)), (13, .d (.int .u64 un16)), (14, .d (.int .u64 un06)), (15, .d (.int .u64 q16)), (16, .d (.int .u64 rhat10)), (78, .d (.bool x7))]) (H' := []) (h := ?_)
        refine oEnd ?_
        refine bSplit 78 (h1 := fun hc => ?_) (h2 := fun hc => ?_)
        ·refine oCondT (h := ?_)
         refine oSkip ?_
         refine oBlock ?_
         refine oSR rfl ?_
         refine oP (.d (.int .u64 q16)) p_move ?_
         refine oP (.d (.int .u64 (IntKind.wrap .u64 (q16 - 1)))) (p_int (k := .u64) (p := q16) (q := 1)) ?_
         refine oP (.d (.int .u64 (IntKind.wrap .u64 (q16 - 1)))) p_assign ?_
         refine oEnd ?_
         refine oSR rfl ?_
         refine oP (.d (.int .u64 rhat10)) p_move ?_
         refine oP (.d (.int .u64 yn16)) p_move ?_
         refine oP (.d (.int .u64 (IntKind.wrap .u64 (rhat10 + yn16)))) (p_int (k := .u64) (p := rhat10) (q := yn16)) ?_
         refine oP (.d (.int .u64 (IntKind.wrap .u64 (rhat10 + yn16)))) p_assign ?_
         refine oEnd ?_
         refine oSR rfl ?_
         refine oP (.d (.int .u64 (IntKind.wrap .u64 (rhat10 + yn16)))) p_move ?_
         refine oP (.d (.bool (decide ((IntKind.wrap .u64 (rhat10 + yn16)) ≥ 4294967296)))) (p_int (k := .u64) (p := (IntKind.wrap .u64 (rhat10 + yn16))) (q := 4294967296)) ?_
         refine oEnd ?_
         refine bSplit 85 (h1 := fun hc => ?_) (h2 := fun hc => ?_)
         ·refine oCondT (h := ?_)
          refine oExit rfl ?_
          refine oHead [2, 8, 9, 10, 11, 13, 14, 15] [] (T' := [(2, .d (.int .u64 y7)), (8, .d (.int .u64 s16)), (9, .d (.int .u64 yn16)), (10, .d (.int .u64 yn06)), (11, .d (.int .u64 un326)), (13, .d (.int .u64 un16)), (14, .d (.int .u64 un06)), (15, .d (.int .u64 (IntKind.wrap .u64 (q16 - 1))))]) (H' := []) (hnd := by decide) (h := ?_)
          exact hj3 (y7, s16, yn16, yn06, un326, un16, un06, (IntKind.wrap .u64 (q16 - 1)))
         ·refine oCondF (h := ?_)
          refine oSkip ?_
          refine oBlk ?_
          refine oAgain ?_
          refine oHead [2, 8, 9, 10, 11, 13, 14, 15, 16] [] (T' := [(2, .d (.int .u64 y7)), (8, .d (.int .u64 s16)), (9, .d (.int .u64 yn16)), (10, .d (.int .u64 yn06)), (11, .d (.int .u64 un326)), (13, .d (.int .u64 un16)), (14, .d (.int .u64 un06)), (15, .d (.int .u64 (IntKind.wrap .u64 (q16 - 1)))), (16, .d (.int .u64 (IntKind.wrap .u64 (rhat10 + yn16))))]) (H' := []) (hnd := by decide) (h := ?_)
          exact hag2 (y7, s16, yn16, yn06, un326, un16, un06, (IntKind.wrap .u64 (q16 - 1)), (IntKind.wrap .u64 (rhat10 + yn16)))
        ·refine oCondF (h := ?_)
         refine oExit rfl ?_
         refine oHead [2, 8, 9, 10, 11, 13, 14, 15] [] (T' := [(2, .d (.int .u64 y7)), (8, .d (.int .u64 s16)), (9, .d (.int .u64 yn16)), (10, .d (.int .u64 yn06)), (11, .d (.int .u64 un326)), (13, .d (.int .u64 un16)), (14, .d (.int .u64 un06)), (15, .d (.int .u64 q16))]) (H' := []) (hnd := by decide) (h := ?_)
         exact hj3 (y7, s16, yn16, yn06, un326, un16, un06, q16)
       ·refine bSplit 69 (h1 := fun hc => ?_) (h2 := fun hc => ?_)
        ·refine oNot (h := ?_)
         refine oNot (h := ?_)
         refine oNot (h := ?_)
         refine oNot (h := ?_)
         refine oNot (h := ?_)
         refine oNot (h := ?_)
         refine oNot (h := ?_)
         refine oNot (h := ?_)
         refine oP (.d (.bool true)) (p_pick (b := true)) ?_
         refine oHead [2, 8, 9, 10, 11, 13, 14, 15, 16, 78] [] (T' := [(2, .d (.int .u64 y7)), (8, .d (.int .u64 s16)), (9, .d (.int .u64 yn16)), (10, .d (.int .u64 yn06)), (11, .d (.int .u64 un326)), (13, .d (.int .u64 un16)), (14, .d (.int .u64 un06)), (15, .d (.int .u64 q16)), (16, .d (.int .u64 rhat10)), (78, .d (.bool true))]) (H' := []) (hnd := by decide) (h := ?_)
         exact hj6 true
        ·refine oP (.d (.int .u64 q16)) p_move ?_
         refine oP (.d (.int .u64 yn06)) p_move ?_
         refine oP (.d (.int .u64 (IntKind.wrap .u64 (q16 * yn06)))) (p_int (k := .u64) (p := q16) (q := yn06)) ?_
         refine oP (.d (.int .u64 rhat10)) p_move ?_
         refine oP (.d (.int .u64 (IntKind.wrap .u64 (4294967296 * rhat10)))) (p_int (k := .u64) (p := 4294967296) (q := rhat10)) ?_
         refine oP (.d (.int .u64 un16)) p_move ?_
         refine oP (.d (.int .u64 (IntKind.wrap .u64 ((IntKind.wrap .u64 (4294967296 * rhat10)) + un16)))) (p_int (k := .u64) (p := (IntKind.wrap .u64 (4294967296 * rhat10))) (q := un16)) ?_
         refine oP (.d (.bool (decide ((IntKind.wrap .u64 (q16 * yn06)) > (IntKind.wrap .u64 ((IntKind.wrap .u64 (4294967296 * rhat10)) + un16)))))) (p_int (k := .u64) (p := (IntKind.wrap .u64 (q16 * yn06))) (q := (IntKind.wrap .u64 ((IntKind.wrap .u64 (4294967296 * rhat10)) + un16)))) ?_
         refine oP (.d (.bool (decide ((IntKind.wrap .u64 (q16 * yn06)) > (IntKind.wrap .u64 ((IntKind.wrap .u64 (4294967296 * rhat10)) + un16)))))) (p_pick (b := false)) ?_
         refine oHead [2, 8, 9, 10, 11, 13, 14, 15, 16, 78] [] (T' := [(2, .d (.int .u64 y7)), (8, .d (.int .u64 s16)), (9, .d (.int .u64 yn16)), (10, .d (.int .u64 yn06)), (11, .d (.int .u64 un326)), (13, .d (.int .u64 un16)), (14, .d (.int .u64 un06)), (15, .d (.int .u64 q16)), (16, .d (.int .u64 rhat10)), (78, .d (.bool (decide ((IntKind.wrap .u64 (q16 * yn06)) > (IntKind.wrap .u64 ((IntKind.wrap .u64 (4294967296 * rhat10)) + un16))))))]) (H' := []) (hnd := by decide) (h := ?_)
         exact hj6 (decide ((IntKind.wrap .u64 (q16 * yn06)) > (IntKind.wrap .u64 ((IntKind.wrap .u64 (4294967296 * rhat10)) + un16))))

/-- math/bits.Rem64 -/
def math_bits_Rem64 (k : Nat) (hi : Int) (lo : Int) (y : Int) : Option (Int) := gnz y (Option.bind (math_bits_Div64 k (Int.tmod hi y) lo y) (uc fun r13 => fun r121 => some r121))
def math_bits_Rem64_E (hi : Int) (lo : Int) (y : Int) : Int → V × List Blk := fun r11 => (.d (.int .u64 r11), [])
theorem math_bits_Rem64_goes (k : Nat) (hi : Int) (lo : Int) (y : Int) : RunsO Try.prog 71 [.d (.int .u64 hi), .d (.int .u64 lo), .d (.int .u64 y)] [] (math_bits_Rem64_E hi lo y) (math_bits_Rem64 k hi lo y) := by
  refine RunsO.of_goes (N := 19) (m := 0) (T := [(0, .d (.int .u64 hi)), (1, .d (.int .u64 lo)), (2, .d (.int .u64 y))]) Try.func71 rfl rfl (h := ?_)
  unfold math_bits_Rem64
  refine bStart ?_
  refine oSR rfl ?_
  refine oP (.d (.int .u64 0)) p_assign ?_
  refine oEnd ?_
  refine oSR rfl ?_
  refine oP (.d (.int .u64 hi)) p_move ?_
  refine oP (.d (.int .u64 y)) p_move ?_
  refine bNz (fun h11 => ?_)
  refine oP (.d (.int .u64 (Int.tmod hi y))) (p_rem (k := .u64) (p := hi) (q := y) (hq := h11)) ?_
  refine oP (.d (.int .u64 lo)) p_move ?_
  refine oP (.d (.int .u64 y)) p_move ?_
  refine bCall (caps := []) (v := (uc fun (r13 : Int) => (fun (r121 : Int) => (.tuple [.d (.int .u64 r13), .d (.int .u64 r121)] : V)))) (H' := (uc fun (r13 : Int) => (fun (r121 : Int) => ([] : List Blk)))) [] _ (math_bits_Div64_goes k (Int.tmod hi y) lo y) (ho := rfl) (hfn := Try.func83) (hb := rfl) (hconv := ConvRs.refl _ _) (hnd := by decide) (hBl := fun _ => (by kernel_rfl)) (hv := fun _ => (by kernel_rfl)) (hH' := fun _ => (by kernel_rfl)) (h := fun r => ?_)
  obtain ⟨r13, r121⟩ := r
  refine bUc ?_
  refine oP (.tuple [.d (.int .u64 r13), .d (.int .u64 r121)]) p_move ?_
  refine oP (.d (.int .u64 r13)) k_extract ?_
  refine oP (.d (.int .u64 r121)) k_extract ?_
  refine oP (.d (.int .u64 r13)) p_assign ?_
  refine oP (.d (.int .u64 r121)) p_assign ?_
  refine oEnd ?_
  refine oSR rfl ?_
  refine oP (.d (.int .u64 r121)) p_move ?_
  refine oP (.d (.int .u64 r121)) p_assign ?_
  refine oEnd ?_
  exact oRet (r0 := r121) (rv := .d (.int .u64 r121)) (B := []) (vs := [.d (.int .u64 r121)]) (σ := []) (hf := Try.func71) (hrs := rfl) (hres := .cons _ _ _ _ (.tmp 6 _ (by kernel_rfl)) .nil) (hnd := by decide)

/-- (awardingbody/ratio.wide).over -/
def ratio_wide_over (k : Nat) (w0 : Bool) (w1 : Int) (w2 : Int) (d : Int) : Option (Int × Int) := gnz d (Option.bind (math_bits_Div64 k (Int.tmod w1 d) w2 d) (uc fun r1 => fun r12 => gnz d (some ((IntKind.wrap .u64 (Int.tdiv w1 d)), r1))))
def ratio_wide_over_E (w0 : Bool) (w1 : Int) (w2 : Int) (d : Int) : Int × Int → V × List Blk := uc fun r11 => fun r13 => (.agg [.d (.bool w0), .d (.int .u64 r11), .d (.int .u64 r13)], [])
theorem ratio_wide_over_goes (k : Nat) (w0 : Bool) (w1 : Int) (w2 : Int) (d : Int) : RunsO Try.prog 73 [.agg [.d (.bool w0), .d (.int .u64 w1), .d (.int .u64 w2)], .d (.int .u64 d)] [] (ratio_wide_over_E w0 w1 w2 d) (ratio_wide_over k w0 w1 w2 d) := by
  refine RunsO.of_goes (N := 26) (m := 0) (T := [(0, .agg [.d (.bool w0), .d (.int .u64 w1), .d (.int .u64 w2)]), (1, .d (.int .u64 d))]) Try.func73 rfl rfl (h := ?_)
  unfold ratio_wide_over
  refine bStart ?_
  refine oSR rfl ?_
  refine oD (.ptr 0 0) (k_box (H' := [.box [.d (.bool w0), .d (.int .u64 w1), .d (.int .u64 w2)]]) (cells := [.d (.bool w0), .d (.int .u64 w1), .d (.int .u64 w2)])) ?_
  refine oD (.ptr 1 0) (k_alloc (H' := [.box [.d (.bool w0), .d (.int .u64 w1), .d (.int .u64 w2)], .box [.d (.bool false), .d (.int .u64 0), .d (.int .u64 0)]]) ty80) ?_
  refine oEnd ?_
  refine oSeq ?_
  refine oDraw [(0, 13), (1, 13)] rfl ?_
  refine aP 0 (.ptr 0 1) rfl (k_fieldAddr 0 0 (hu := Try.underlying80) (hf := rfl) (hi := ty64)) ?_
  refine aQ 1 [0] (.d (.int .u64 w1)) rfl (k_load 0 1 (hu := Try.underlying64)) ?_
  refine aP 2 (.d (.int .u64 d)) rfl p_move ?_
  refine dNz (fun h1 => ?_)
  refine aTakeP (i := 3) (.d (.int .u64 (Int.tmod w1 d))) rfl (hp := p_rem (k := .u64) (p := w1) (q := d) (hq := h1)) (h := ?_)
  refine aP 4 (.ptr 0 2) rfl (k_fieldAddr 0 0 (hu := Try.underlying80) (hf := rfl) (hi := ty64)) ?_
  refine aQ 5 [0] (.d (.int .u64 w2)) rfl (k_load 0 2 (hu := Try.underlying64)) ?_
  refine aP 6 (.d (.int .u64 d)) rfl p_move ?_
  refine dCall (i := 7) (caps := []) (v := (uc fun (r1 : Int) => (fun (r12 : Int) => (.tuple [.d (.int .u64 r1), .d (.int .u64 r12)] : V)))) (H' := (uc fun (r1 : Int) => (fun (r12 : Int) => ([.box [.d (.bool w0), .d (.int .u64 w1), .d (.int .u64 w2)], .box [.d (.bool false), .d (.int .u64 0), .d (.int .u64 0)]] : List Blk)))) [] _ (math_bits_Div64_goes k (Int.tmod w1 d) w2 d) rfl (ho := rfl) (hfn := Try.func83) (hb := rfl) (hconv := ConvRs.refl _ _) (hnd := by decide) (hBl := fun _ => (by kernel_rfl)) (hv := fun _ => (by kernel_rfl)) (hH' := fun _ => (by kernel_rfl)) (h := fun r => ?_)
  obtain ⟨r1, r12⟩ := r
  refine dUc ?_
  refine aTakeP (i := 8) (.tuple [.d (.int .u64 r1), .d (.int .u64 r12)]) rfl (hp := p_move) (h := ?_)
  refine aTakeP (i := 9) (.d (.int .u64 r1)) rfl (hp := k_extract) (h := ?_)
  refine aTakeP (i := 10) (.d (.int .u64 r12)) rfl (hp := k_extract) (h := ?_)
  refine aP 11 (.d (.int .u64 r1)) rfl p_assign ?_
  refine aP 12 (.d (.int .u64 r12)) rfl p_assign ?_
  refine aDone (h := ?_)
  refine oSeq ?_
  refine oDraw [(0, 9), (1, 8)] rfl ?_
  refine aP 0 (.ptr 0 0) rfl (k_fieldAddr 0 0 (hu := Try.underlying80) (hf := rfl) (hi := ty4)) ?_
  refine aQ 1 [0] (.d (.bool w0)) rfl (k_load 0 0 (hu := Try.underlying4)) ?_
  refine aP 2 (.ptr 0 1) rfl (k_fieldAddr 0 0 (hu := Try.underlying80) (hf := rfl) (hi := ty64)) ?_
  refine aQ 3 [0] (.d (.int .u64 w1)) rfl (k_load 0 1 (hu := Try.underlying64)) ?_
  refine aP 4 (.d (.int .u64 d)) rfl p_move ?_
  refine dNz (fun h13 => ?_)
  refine aTakeP (i := 5) (.d (.int .u64 (IntKind.wrap .u64 (Int.tdiv w1 d)))) rfl (hp := p_quo (k := .u64) (p := w1) (q := d) (hq := h13)) (h := ?_)
  refine aP 6 (.d (.int .u64 r1)) rfl p_move ?_
  refine aP 7 (.agg [.d (.bool w0), .d (.int .u64 (IntKind.wrap .u64 (Int.tdiv w1 d))), .d (.int .u64 r1)]) rfl (p_build bld80) ?_
  refine aOne (i := 8) (v := .undef) rfl (hac := Does.acts (k_store (vs := [.d (.bool w0), .d (.int .u64 (IntKind.wrap .u64 (Int.tdiv w1 d))), .d (.int .u64 r1)]) (H' := [.box [.d (.bool w0), .d (.int .u64 w1), .d (.int .u64 w2)], .box [.d (.bool w0), .d (.int .u64 (IntKind.wrap .u64 (Int.tdiv w1 d))), .d (.int .u64 r1)]]) 1 0 (hi := ty80))) (h := ?_)
  refine aDone (h := ?_)
  exact oRet (r0 := ((IntKind.wrap .u64 (Int.tdiv w1 d)), r1)) (rv := .agg [.d (.bool w0), .d (.int .u64 (IntKind.wrap .u64 (Int.tdiv w1 d))), .d (.int .u64 r1)]) (B := []) (vs := [.agg [.d (.bool w0), .d (.int .u64 (IntKind.wrap .u64 (Int.tdiv w1 d))), .d (.int .u64 r1)]]) (σ := []) (hf := Try.func73) (hrs := rfl) (hres := .cons _ _ _ _ (.agg 4 80 1 0 [.d (.bool w0), .d (.int .u64 (IntKind.wrap .u64 (Int.tdiv w1 d))), .d (.int .u64 r1)] [.d (.bool w0), .d (.int .u64 (IntKind.wrap .u64 (Int.tdiv w1 d))), .d (.int .u64 r1)] _ _ _ _ (by kernel_rfl) (by kernel_rfl) Try.underlying80 (by kernel_rfl) ty80 (by kernel_rfl) (by kernel_rfl)) .nil) (hnd := by decide)

/-- awardingbody/ratio.lowest -/
def ratio_lowest (k : Nat) (num0 : Bool) (num1 : Int) (num2 : Int) (den : Int) : Option (Int × Int × Int) := Option.bind (math_bits_Rem64 k num1 num2 den) (fun r112 => Option.bind (ratio_gcd k den r112) (fun r16 => gnz r16 (Option.bind (ratio_wide_over k num0 num1 num2 r16) (uc fun r111 => fun r13 => Option.bind (bif (r111 != 0) then some ((IntKind.wrap .u64 (Int.tdiv den r16)), true) else some ((IntKind.wrap .u64 (Int.tdiv den r16)), (decide (r13 > 1152921504606846976))) : Option (Int × Bool)) (uc fun den4 => fun x4 => blet (x4 || (decide (den4 > 1152921504606846976))) fun x5 => bif x5 then some (0, 0, 6) else Option.bind (bif num0 then some (IntKind.wrap .i64 (0 - (IntKind.wrap .i64 r13))) else some (IntKind.wrap .i64 r13) : Option (Int)) (fun n1 => some (n1, (IntKind.wrap .i64 den4), 0)))))))
def ratio_lowest_E (num0 : Bool) (num1 : Int) (num2 : Int) (den : Int) : Int × Int × Int → V × List Blk := uc fun r12 => uc fun r14 => fun r15 => (.tuple [.agg [.d (.int .i64 r12), .d (.int .i64 r14)], .d (.int .i64 r15)], [])
theorem ratio_lowest_goes (k : Nat) (num0 : Bool) (num1 : Int) (num2 : Int) (den : Int) : RunsO Try.prog 72 [.agg [.d (.bool num0), .d (.int .u64 num1), .d (.int .u64 num2)], .d (.int .u64 den)] [] (ratio_lowest_E num0 num1 num2 den) (ratio_lowest k num0 num1 num2 den) := by
  refine RunsO.of_goes (N := 46) (m := 0) (T := [(0, .agg [.d (.bool num0), .d (.int .u64 num1), .d (.int .u64 num2)]), (1, .d (.int .u64 den))]) Try.func72 rfl rfl (h := ?_)
  unfold ratio_lowest
  refine bStart ?_
  refine oSR rfl ?_
  refine oD (.ptr 0 0) (k_box (H' := [.box [.d (.bool num0), .d (.int .u64 num1), .d (.int .u64 num2)]]) (cells := [.d (.bool num0), .d (.int .u64 num1), .d (.int .u64 num2)])) ?_
  refine oD (.ptr 1 0) (k_alloc (H' := [.box [.d (.bool num0), .d (.int .u64 num1), .d (.int .u64 num2)], .box [.d (.int .i64 0), .d (.int .i64 0)]]) ty37) ?_
  refine oP (.d (.int .i64 0)) p_assign ?_
  refine oEnd ?_
  refine oSR rfl ?_
  refine oP (.d (.int .u64 den)) p_move ?_
  refine oP (.ptr 0 1) (k_fieldAddr 0 0 (hu := Try.underlying80) (hf := rfl) (hi := ty64)) ?_
  refine oQ (.d (.int .u64 num1)) (k_load 0 1 (hu := Try.underlying64)) ?_
  refine oP (.ptr 0 2) (k_fieldAddr 0 0 (hu := Try.underlying80) (hf := rfl) (hi := ty64)) ?_
  refine oQ (.d (.int .u64 num2)) (k_load 0 2 (hu := Try.underlying64)) ?_
  refine oP (.d (.int .u64 den)) p_move ?_
  refine bCall (caps := []) (v := (fun (r112 : Int) => (.d (.int .u64 r112) : V))) (H' := (fun (r112 : Int) => ([.box [.d (.bool num0), .d (.int .u64 num1), .d (.int .u64 num2)], .box [.d (.int .i64 0), .d (.int .i64 0)]] : List Blk))) [] _ (math_bits_Rem64_goes k num1 num2 den) (ho := rfl) (hfn := Try.func71) (hb := rfl) (hconv := ConvRs.refl _ _) (hnd := by decide) (hBl := fun _ => (by kernel_rfl)) (hv := fun _ => (by kernel_rfl)) (hH' := fun _ => (by kernel_rfl)) (h := fun r112 => ?_)
  refine bCall (caps := []) (v := (fun (r16 : Int) => (.d (.int .u64 r16) : V))) (H' := (fun (r16 : Int) => ([.box [.d (.bool num0), .d (.int .u64 num1), .d (.int .u64 num2)], .box [.d (.int .i64 0), .d (.int .i64 0)]] : List Blk))) [] _ (ratio_gcd_goes k den r112) (ho := rfl) (hfn := Try.func35) (hb := rfl) (hconv := ConvRs.refl _ _) (hnd := by decide) (hBl := fun _ => (by kernel_rfl)) (hv := fun _ => (by kernel_rfl)) (hH' := fun _ => (by kernel_rfl)) (h := fun r16 => ?_)
  refine oP (.d (.int .u64 r16)) p_assign ?_
  refine oEnd ?_
  refine oSeq ?_
  refine oDraw [(0, 6), (1, 8)] rfl ?_
  refine aQ 0 [0] (.agg [.d (.bool num0), .d (.int .u64 num1), .d (.int .u64 num2)]) rfl (k_loadAgg 0 0 (hu := Try.underlying80) (hi := ty80)) ?_
  refine aP 1 (.d (.int .u64 r16)) rfl p_move ?_
  refine aP 3 (.d (.int .u64 den)) rfl p_move ?_
  refine aP 4 (.d (.int .u64 r16)) rfl p_move ?_
  refine dNz (fun h1 => ?_)
  refine aTakeP (i := 5) (.d (.int .u64 (IntKind.wrap .u64 (Int.tdiv den r16)))) rfl (hp := p_quo (k := .u64) (p := den) (q := r16) (hq := h1)) (h := ?_)
  refine dCall (i := 2) (caps := []) (v := (uc fun (r111 : Int) => (fun (r13 : Int) => (.agg [.d (.bool num0), .d (.int .u64 r111), .d (.int .u64 r13)] : V)))) (H' := (uc fun (r111 : Int) => (fun (r13 : Int) => ([.box [.d (.bool num0), .d (.int .u64 num1), .d (.int .u64 num2)], .box [.d (.int .i64 0), .d (.int .i64 0)]] : List Blk)))) [] _ (ratio_wide_over_goes k num0 num1 num2 r16) rfl (ho := rfl) (hfn := Try.func73) (hb := rfl) (hconv := ConvRs.refl _ _) (hnd := by decide) (hBl := fun _ => (by kernel_rfl)) (hv := fun _ => (by kernel_rfl)) (hH' := fun _ => (by kernel_rfl)) (h := fun r => ?_)
  obtain ⟨r111, r13⟩ := r
  refine dUc ?_
  refine aOne (i := 6) (v := .undef) rfl (hac := Does.acts (k_store (vs := [.d (.bool num0), .d (.int .u64 r111), .d (.int .u64 r13)]) (H' := [.box [.d (.bool num0), .d (.int .u64 r111), .d (.int .u64 r13)], .box [.d (.int .i64 0), .d (.int .i64 0)]]) 0 0 (hi := ty80))) (h := ?_)
  refine aP 7 (.d (.int .u64 (IntKind.wrap .u64 (Int.tdiv den r16)))) rfl p_assign ?_
  refine aDone (h := ?_)
  refine oSeq ?_
  refine oSR rfl ?_
  refine oP (.ptr 0 1) (k_fieldAddr 0 0 (hu := Try.underlying80) (hf := rfl) (hi := ty64)) ?_
  refine oQ (.d (.int .u64 r111)) (k_load 0 1 (hu := Try.underlying64)) ?_
  refine oP (.d (.bool (r111 != 0))) (p_int (k := .u64) (p := r111) (q := 0)) ?_
  refine oP (.d (.bool (r111 != 0))) p_move ?_
  refine bMeet 4 rfl ((uc fun (den4 : Int) => (fun (x4 : Bool) => [(1, .d (.int .u64 den4)), (2, .ptr 0 0), (4, .ptr 1 0), (29, .d (.bool x4))]))) ((uc fun (den4 : Int) => (fun (x4 : Bool) => [.box [.d (.bool num0), .d (.int .u64 r111), .d (.int .u64 r13)], .box [.d (.int .i64 0), .d (.int .i64 0)]]))) (fun s => s) (fun s => ?_) (fun hj4 => ?_)
  ·obtain ⟨den4, x4⟩ := s
   refine bUc ?_
   refine oView (T' := [(1, .d (.int .u64 den4)), (2, .ptr 0 0), (4, .ptr 1 0), (29, .d (.bool x4))]) (H' := [.box [.d (.bool num0), .d (.int .u64 r111), .d (.int .u64 r13)], .box [.d (.int .i64 0), .d (.int .i64 0)]]) (h := ?_)
   refine oP (.d (.bool x4)) p_move ?_
   refine bMeetF (H' := [.box [.d (.bool num0), .d (.int .u64 r111), .d (.int .u64 r13)], .box [.d (.int .i64 0), .d (.int .i64 0)]]) 3 rfl ((fun (x5 : Bool) => [(1, .d (.int .u64 den4)), (2, .ptr 0 0), (4, .ptr 1 0), (33, .d (.bool x5))])) (fun x5 => ?_) (fun F hj2 => ?_)
   ·refine oView (T' := [(1, .d (.int .u64 den4)), (2, .ptr 0 0), (4, .ptr 1 0), (33, .d (.bool x5))]) (H' := [.box [.d (.bool num0), .d (.int .u64 r111), .d (.int .u64 r13)], .box [.d (.int .i64 0), .d (.int .i64 0)]]) (h := ?_)
    refine oEnd ?_
    refine bSplit 33 (h1 := fun hc => ?_) (h2 := fun hc => ?_)
    ·refine oCondT (h := ?_)
     refine oSR rfl ?_
     refine oP (.agg [.d (.int .i64 0), .d (.int .i64 0)]) (p_build bld37) ?_
     refine oD (.undef) (k_store (vs := [.d (.int .i64 0), .d (.int .i64 0)]) (H' := [.box [.d (.bool num0), .d (.int .u64 r111), .d (.int .u64 r13)], .box [.d (.int .i64 0), .d (.int .i64 0)]]) 1 0 (hi := ty37)) ?_
     refine oP (.d (.int .i64 6)) p_assign ?_
     refine oEnd ?_
     exact oRet (r0 := (0, 0, 6)) (rv := .tuple [.agg [.d (.int .i64 0), .d (.int .i64 0)], .d (.int .i64 6)]) (B := []) (vs := [.agg [.d (.int .i64 0), .d (.int .i64 0)], .d (.int .i64 6)]) (σ := []) (hf := Try.func72) (hrs := rfl) (hres := .cons _ _ _ _ (.agg 4 37 1 0 [.d (.int .i64 0), .d (.int .i64 0)] [.d (.int .i64 0), .d (.int .i64 0)] _ _ _ _ (by kernel_rfl) (by kernel_rfl) Try.underlying37 (by kernel_rfl) ty37 (by kernel_rfl) (by kernel_rfl)) (.cons _ _ _ _ (.tmp 5 _ (by kernel_rfl)) .nil)) (hnd := by decide)
    ·refine oCondF (h := ?_)
     refine oSkip ?_
     refine oSR rfl ?_
     refine oP (.ptr 0 2) (k_fieldAddr 0 0 (hu := Try.underlying80) (hf := rfl) (hi := ty64)) ?_
     refine oQ (.d (.int .u64 r13)) (k_load 0 2 (hu := Try.underlying64)) ?_
     refine oP (.d (.int .i64 (IntKind.wrap .i64 r13))) (p_conv (k := .u64) (p := r13) (hu1 := Try.underlying64) (hu2 := Try.underlying3)) ?_
     refine oP (.d (.int .i64 (IntKind.wrap .i64 r13))) p_assign ?_
     refine oEnd ?_
     refine oSeq ?_
     refine oSR rfl ?_
     refine oP (.ptr 0 0) (k_fieldAddr 0 0 (hu := Try.underlying80) (hf := rfl) (hi := ty4)) ?_
     refine oQ (.d (.bool num0)) (k_load 0 0 (hu := Try.underlying4)) ?_
     refine oEnd ?_
     refine bJoin ((fun (n1 : Int) => [(1, .d (.int .u64 den4)), (4, .ptr 0 0), (7, .d (.int .i64 n1))])) ((fun (n1 : Int) => [.box [.d (.int .i64 0), .d (.int .i64 0)]])) (fun s => s) (fun n1 => ?_) (fun hj3 => ?_)
     ·refine oView (T' := [(1, .d (.int .u64 den4)), (4, .ptr 0 0), (7, .d (.int .i64 n1))]) (H' := [.box [.d (.int .i64 0), .d (.int .i64 0)]]) (h := ?_)
      refine oSR rfl ?_
      refine oP (.d (.int .i64 n1)) p_move ?_
      refine oP (.d (.int .u64 den4)) p_move ?_
      refine oP (.d (.int .i64 (IntKind.wrap .i64 den4))) (p_conv (k := .u64) (p := den4) (hu1 := Try.underlying64) (hu2 := Try.underlying3)) ?_
      refine oP (.agg [.d (.int .i64 n1), .d (.int .i64 (IntKind.wrap .i64 den4))]) (p_build bld37) ?_
      refine oD (.undef) (k_store (vs := [.d (.int .i64 n1), .d (.int .i64 (IntKind.wrap .i64 den4))]) (H' := [.box [.d (.int .i64 n1), .d (.int .i64 (IntKind.wrap .i64 den4))]]) 0 0 (hi := ty37)) ?_
      refine oP (.d (.int .i64 0)) p_assign ?_
      refine oEnd ?_
      exact oRet (r0 := (n1, (IntKind.wrap .i64 den4), 0)) (rv := .tuple [.agg [.d (.int .i64 n1), .d (.int .i64 (IntKind.wrap .i64 den4))], .d (.int .i64 0)]) (B := []) (vs := [.agg [.d (.int .i64 n1), .d (.int .i64 (IntKind.wrap .i64 den4))], .d (.int .i64 0)]) (σ := []) (hf := Try.func72) (hrs := rfl) (hres := .cons _ _ _ _ (.agg 4 37 0 0 [.d (.int .i64 n1), .d (.int .i64 (IntKind.wrap .i64 den4))] [.d (.int .i64 n1), .d (.int .i64 (IntKind.wrap .i64 den4))] _ _ _ _ (by kernel_rfl) (by kernel_rfl) Try.underlying37 (by kernel_rfl) ty37 (by kernel_rfl) (by kernel_rfl)) (.cons _ _ _ _ (.tmp 5 _ (by kernel_rfl)) .nil)) (hnd := by decide)
     ·refine bSplit 39 (h1 := fun hc => ?_) (h2 := fun hc => ?_)
      ·refine oCondT (h := ?_)
       refine oRegion rfl ?_
       refine oP (.d (.int .i64 (IntKind.wrap .i64 r13))) p_move ?_
       refine oP (.d (.int .i64 (IntKind.wrap .i64 (0 - (IntKind.wrap .i64 r13))))) (p_neg (k := .i64) (p := (IntKind.wrap .i64 r13))) ?_
       refine oP (.d (.int .i64 (IntKind.wrap .i64 (0 - (IntKind.wrap .i64 r13))))) p_assign ?_
       refine oEnd ?_
       refine oHead [1, 4, 7] [1] (T' := [(1, .d (.int .u64 den4)), (4, .ptr 0 0), (7, .d (.int .i64 (IntKind.wrap .i64 (0 - (IntKind.wrap .i64 r13)))))]) (H' := [.box [.d (.int .i64 0), .d (.int .i64 0)]]) (hnd := by decide) (h := ?_)
       exact hj3 (IntKind.wrap .i64 (0 - (IntKind.wrap .i64 r13)))
      ·refine oCondF (h := ?_)
       refine oSkip ?_
       refine oHead [1, 4, 7] [1] (T' := [(1, .d (.int .u64 den4)), (4, .ptr 0 0), (7, .d (.int .i64 (IntKind.wrap .i64 r13)))]) (H' := [.box [.d (.int .i64 0), .d (.int .i64 0)]]) (hnd := by decide) (h := ?_)
       exact hj3 (IntKind.wrap .i64 r13)
   ·refine bPickF 30 (fun c => F (c || (decide (den4 > 1152921504606846976)))) (h1 := fun hc => ?_) (h2 := fun hc => ?_)
    ·refine oNot (h := ?_)
     refine oNot (h := ?_)
     refine oP (.d (.bool true)) (p_pick (b := true)) ?_
     refine oHead [1, 2, 4, 33] [0, 1] (T' := [(1, .d (.int .u64 den4)), (2, .ptr 0 0), (4, .ptr 1 0), (33, .d (.bool true))]) (H' := [.box [.d (.bool num0), .d (.int .u64 r111), .d (.int .u64 r13)], .box [.d (.int .i64 0), .d (.int .i64 0)]]) (hnd := by decide) (h := ?_)
     exact hj2 true
    ·refine oP (.d (.int .u64 den4)) p_move ?_
     refine oP (.d (.bool (decide (den4 > 1152921504606846976)))) (p_int (k := .u64) (p := den4) (q := 1152921504606846976)) ?_
     refine oP (.d (.bool (decide (den4 > 1152921504606846976)))) (p_pick (b := false)) ?_
     refine oHead [1, 2, 4, 33] [0, 1] (T' := [(1, .d (.int .u64 den4)), (2, .ptr 0 0), (4, .ptr 1 0), (33, .d (.bool (decide (den4 > 1152921504606846976))))]) (H' := [.box [.d (.bool num0), .d (.int .u64 r111), .d (.int .u64 r13)], .box [.d (.int .i64 0), .d (.int .i64 0)]]) (hnd := by decide) (h := ?_)
     exact hj2 (decide (den4 > 1152921504606846976))
  ·refine bSplit 25 (h1 := fun hc => ?_) (h2 := fun hc => ?_)
   ·refine oNot (h := ?_)
    refine oNot (h := ?_)
    refine oNot (h := ?_)
    refine oP (.d (.bool true)) (p_pick (b := true)) ?_
    refine oHead [1, 2, 4, 29] [0, 1] (T' := [(1, .d (.int .u64 (IntKind.wrap .u64 (Int.tdiv den r16)))), (2, .ptr 0 0), (4, .ptr 1 0), (29, .d (.bool true))]) (H' := [.box [.d (.bool num0), .d (.int .u64 r111), .d (.int .u64 r13)], .box [.d (.int .i64 0), .d (.int .i64 0)]]) (hnd := by decide) (h := ?_)
    exact hj4 ((IntKind.wrap .u64 (Int.tdiv den r16)), true)
   ·refine oP (.ptr 0 2) (k_fieldAddr 0 0 (hu := Try.underlying80) (hf := rfl) (hi := ty64)) ?_
    refine oQ (.d (.int .u64 r13)) (k_load 0 2 (hu := Try.underlying64)) ?_
    refine oP (.d (.bool (decide (r13 > 1152921504606846976)))) (p_int (k := .u64) (p := r13) (q := 1152921504606846976)) ?_
    refine oP (.d (.bool (decide (r13 > 1152921504606846976)))) (p_pick (b := false)) ?_
    refine oHead [1, 2, 4, 29] [0, 1] (T' := [(1, .d (.int .u64 (IntKind.wrap .u64 (Int.tdiv den r16)))), (2, .ptr 0 0), (4, .ptr 1 0), (29, .d (.bool (decide (r13 > 1152921504606846976))))]) (H' := [.box [.d (.bool num0), .d (.int .u64 r111), .d (.int .u64 r13)], .box [.d (.int .i64 0), .d (.int .i64 0)]]) (hnd := by decide) (h := ?_)
    exact hj4 ((IntKind.wrap .u64 (Int.tdiv den r16)), (decide (r13 > 1152921504606846976)))

/-- awardingbody/ratio.Add -/
def ratio_Add (k : Nat) (a0 : Int) (a1 : Int) (b0 : Int) (b1 : Int) : Option (Int × Int × Int) := Option.bind (ratio_Valid k a0 a1) (fun r126 => Option.bind (bif (!r126) then some true else Option.bind (ratio_Valid k b0 b1) (fun r129 => some (!r129)) : Option (Bool)) (fun x3 => bif x3 then some (0, 0, 1) else Option.bind (ratio_gcd k (IntKind.wrap .u64 a1) (IntKind.wrap .u64 b1)) (fun r110 => gnz r110 (gnz r110 (Option.bind (ratio_times k a0 (IntKind.wrap .u64 (Int.tdiv (IntKind.wrap .u64 b1) r110))) (uc fun r122 => fun r13 => Option.bind (ratio_times k b0 (IntKind.wrap .u64 (Int.tdiv (IntKind.wrap .u64 a1) r110))) (uc fun r123 => fun r131 => Option.bind (ratio_wide_plus k (decide (a0 < 0)) r122 r13 (decide (b0 < 0)) r123 r131) (uc fun r11 => uc fun r124 => fun r132 => Option.bind (bif (r124 == 0) then some ((IntKind.wrap .u64 (Int.tdiv (IntKind.wrap .u64 a1) r110)), (IntKind.wrap .u64 (Int.tdiv (IntKind.wrap .u64 b1) r110)), (r132 == 0)) else some ((IntKind.wrap .u64 (Int.tdiv (IntKind.wrap .u64 a1) r110)), (IntKind.wrap .u64 (Int.tdiv (IntKind.wrap .u64 b1) r110)), false) : Option (Int × Int × Bool)) (uc fun p3 => uc fun q3 => fun x5 => bif x5 then some (0, 1, 0) else Option.bind (math_bits_Rem64 k r124 r132 r110) (fun r115 => Option.bind (ratio_gcd k r110 r115) (fun r116 => gnz r116 (Option.bind (math_bits_Mul64 k (IntKind.wrap .u64 (Int.tdiv r110 r116)) p3) (uc fun r117 => fun r118 => bif (r117 != 0) then some (0, 0, 6) else Option.bind (math_bits_Mul64 k r118 q3) (uc fun r119 => fun r1110 => bif (r119 != 0) then some (0, 0, 6) else Option.bind (ratio_wide_over k r11 r124 r132 r116) (uc fun r1111 => fun r134 => Option.bind (ratio_lowest k r11 r1111 r134 r1110) (uc fun r128 => uc fun r142 => fun r152 => some (r128, r142, r152)))))))))))))))))
def ratio_Add_E (a0 : Int) (a1 : Int) (b0 : Int) (b1 : Int) : Int × Int × Int → V × List Blk := uc fun r17 => uc fun r18 => fun r19 => (.tuple [.agg [.d (.int .i64 r17), .d (.int .i64 r18)], .d (.int .i64 r19)], [])
theorem ratio_Add_goes (k : Nat) (a0 : Int) (a1 : Int) (b0 : Int) (b1 : Int) : RunsO Try.prog 51 [.agg [.d (.int .i64 a0), .d (.int .i64 a1)], .agg [.d (.int .i64 b0), .d (.int .i64 b1)]] [] (ratio_Add_E a0 a1 b0 b1) (ratio_Add k a0 a1 b0 b1) := by
  refine RunsO.of_goes (N := 92) (m := 0) (T := [(0, .agg [.d (.int .i64 a0), .d (.int .i64 a1)]), (1, .agg [.d (.int .i64 b0), .d (.int .i64 b1)])]) Try.func51 rfl rfl (h := ?_)
  unfold ratio_Add
  refine bStart ?_
  refine oSR rfl ?_
  refine oD (.ptr 0 0) (k_box (H' := [.box [.d (.int .i64 a0), .d (.int .i64 a1)]]) (cells := [.d (.int .i64 a0), .d (.int .i64 a1)])) ?_
  refine oD (.ptr 1 0) (k_box (H' := [.box [.d (.int .i64 a0), .d (.int .i64 a1)], .box [.d (.int .i64 b0), .d (.int .i64 b1)]]) (cells := [.d (.int .i64 b0), .d (.int .i64 b1)])) ?_
  refine oD (.ptr 2 0) (k_alloc (H' := [.box [.d (.int .i64 a0), .d (.int .i64 a1)], .box [.d (.int .i64 b0), .d (.int .i64 b1)], .box [.d (.int .i64 0), .d (.int .i64 0)]]) ty37) ?_
  refine oP (.d (.int .i64 0)) p_assign ?_
  refine oEnd ?_
  refine oSeq ?_
  refine oSR rfl ?_
  refine oQ (.agg [.d (.int .i64 a0), .d (.int .i64 a1)]) (k_loadAgg 0 0 (hu := Try.underlying37) (hi := ty37)) ?_
  refine bCall (caps := []) (v := (fun (r126 : Bool) => (.d (.bool r126) : V))) (H' := (fun (r126 : Bool) => ([.box [.d (.int .i64 a0), .d (.int .i64 a1)], .box [.d (.int .i64 b0), .d (.int .i64 b1)], .box [.d (.int .i64 0), .d (.int .i64 0)]] : List Blk))) [] _ (ratio_Valid_goes k a0 a1) (ho := rfl) (hfn := Try.func24) (hb := rfl) (hconv := ConvRs.refl _ _) (hnd := by decide) (hBl := fun _ => (by kernel_rfl)) (hv := fun _ => (by kernel_rfl)) (hH' := fun _ => (by kernel_rfl)) (h := fun r126 => ?_)
  refine oP (.d (.bool (!r126))) (p_not (p := r126)) ?_
  refine oP (.d (.bool (!r126))) p_move ?_
  refine bMeet 4 rfl ((fun (x3 : Bool) => [(2, .ptr 0 0), (3, .ptr 1 0), (4, .ptr 2 0), (20, .d (.bool x3))])) ((fun (x3 : Bool) => [.box [.d (.int .i64 a0), .d (.int .i64 a1)], .box [.d (.int .i64 b0), .d (.int .i64 b1)], .box [.d (.int .i64 0), .d (.int .i64 0)]])) (fun s => s) (fun x3 => ?_) (fun hj2 => ?_)
  ·refine oView (T' := [(2, .ptr 0 0), (3, .ptr 1 0), (4, .ptr 2 0), (20, .d (.bool x3))]) (H' := [.box [.d (.int .i64 a0), .d (.int .i64 a1)], .box [.d (.int .i64 b0), .d (.int .i64 b1)], .box [.d (.int .i64 0), .d (.int .i64 0)]]) (h := ?_)
   refine oEnd ?_
   refine bSplit 20 (h1 := fun hc => ?_) (h2 := fun hc => ?_)
   ·refine oCondT (h := ?_)
    refine oSR rfl ?_
    refine oP (.agg [.d (.int .i64 0), .d (.int .i64 0)]) (p_build bld37) ?_
    refine oD (.undef) (k_store (vs := [.d (.int .i64 0), .d (.int .i64 0)]) (H' := [.box [.d (.int .i64 a0), .d (.int .i64 a1)], .box [.d (.int .i64 b0), .d (.int .i64 b1)], .box [.d (.int .i64 0), .d (.int .i64 0)]]) 2 0 (hi := ty37)) ?_
    refine oP (.d (.int .i64 1)) p_assign ?_
    refine oEnd ?_
    exact oRet (r0 := (0, 0, 1)) (rv := .tuple [.agg [.d (.int .i64 0), .d (.int .i64 0)], .d (.int .i64 1)]) (B := []) (vs := [.agg [.d (.int .i64 0), .d (.int .i64 0)], .d (.int .i64 1)]) (σ := []) (hf := Try.func51) (hrs := rfl) (hres := .cons _ _ _ _ (.agg 4 37 2 0 [.d (.int .i64 0), .d (.int .i64 0)] [.d (.int .i64 0), .d (.int .i64 0)] _ _ _ _ (by kernel_rfl) (by kernel_rfl) Try.underlying37 (by kernel_rfl) ty37 (by kernel_rfl) (by kernel_rfl)) (.cons _ _ _ _ (.tmp 5 _ (by kernel_rfl)) .nil)) (hnd := by decide)
   ·refine oCondF (h := ?_)
    refine oSkip ?_
    refine oSR rfl ?_
    refine oP (.ptr 0 1) (k_fieldAddr 0 0 (hu := Try.underlying37) (hf := rfl) (hi := ty3)) ?_
    refine oQ (.d (.int .i64 a1)) (k_load 0 1 (hu := Try.underlying3)) ?_
    refine oP (.d (.int .u64 (IntKind.wrap .u64 a1))) (p_conv (k := .i64) (p := a1) (hu1 := Try.underlying3) (hu2 := Try.underlying64)) ?_
    refine oP (.ptr 1 1) (k_fieldAddr 1 0 (hu := Try.underlying37) (hf := rfl) (hi := ty3)) ?_
    refine oQ (.d (.int .i64 b1)) (k_load 1 1 (hu := Try.underlying3)) ?_
    refine oP (.d (.int .u64 (IntKind.wrap .u64 b1))) (p_conv (k := .i64) (p := b1) (hu1 := Try.underlying3) (hu2 := Try.underlying64)) ?_
    refine bCall (caps := []) (v := (fun (r110 : Int) => (.d (.int .u64 r110) : V))) (H' := (fun (r110 : Int) => ([.box [.d (.int .i64 a0), .d (.int .i64 a1)], .box [.d (.int .i64 b0), .d (.int .i64 b1)], .box [.d (.int .i64 0), .d (.int .i64 0)]] : List Blk))) [] _ (ratio_gcd_goes k (IntKind.wrap .u64 a1) (IntKind.wrap .u64 b1)) (ho := rfl) (hfn := Try.func35) (hb := rfl) (hconv := ConvRs.refl _ _) (hnd := by decide) (hBl := fun _ => (by kernel_rfl)) (hv := fun _ => (by kernel_rfl)) (hH' := fun _ => (by kernel_rfl)) (h := fun r110 => ?_)
    refine oP (.d (.int .u64 r110)) p_assign ?_
    refine oEnd ?_
    refine oSeq ?_
    refine oDraw [(0, 12), (1, 12), (2, 12)] rfl ?_
    refine aP 0 (.ptr 0 1) rfl (k_fieldAddr 0 0 (hu := Try.underlying37) (hf := rfl) (hi := ty3)) ?_
    refine aQ 1 [0] (.d (.int .i64 a1)) rfl (k_load 0 1 (hu := Try.underlying3)) ?_
    refine aP 2 (.d (.int .u64 (IntKind.wrap .u64 a1))) rfl (p_conv (k := .i64) (p := a1) (hu1 := Try.underlying3) (hu2 := Try.underlying64)) ?_
    refine aP 3 (.d (.int .u64 r110)) rfl p_move ?_
    refine dNz (fun h1 => ?_)
    refine aTakeP (i := 4) (.d (.int .u64 (IntKind.wrap .u64 (Int.tdiv (IntKind.wrap .u64 a1) r110)))) rfl (hp := p_quo (k := .u64) (p := (IntKind.wrap .u64 a1)) (q := r110) (hq := h1)) (h := ?_)
    refine aP 5 (.ptr 1 1) rfl (k_fieldAddr 1 0 (hu := Try.underlying37) (hf := rfl) (hi := ty3)) ?_
    refine aQ 6 [1] (.d (.int .i64 b1)) rfl (k_load 1 1 (hu := Try.underlying3)) ?_
    refine aP 7 (.d (.int .u64 (IntKind.wrap .u64 b1))) rfl (p_conv (k := .i64) (p := b1) (hu1 := Try.underlying3) (hu2 := Try.underlying64)) ?_
    refine aP 8 (.d (.int .u64 r110)) rfl p_move ?_
    refine dNz (fun h12 => ?_)
    refine aTakeP (i := 9) (.d (.int .u64 (IntKind.wrap .u64 (Int.tdiv (IntKind.wrap .u64 b1) r110)))) rfl (hp := p_quo (k := .u64) (p := (IntKind.wrap .u64 b1)) (q := r110) (hq := h12)) (h := ?_)
    refine aP 10 (.d (.int .u64 (IntKind.wrap .u64 (Int.tdiv (IntKind.wrap .u64 a1) r110)))) rfl p_assign ?_
    refine aP 11 (.d (.int .u64 (IntKind.wrap .u64 (Int.tdiv (IntKind.wrap .u64 b1) r110)))) rfl p_assign ?_
    refine aDone (h := ?_)
    refine oSeq ?_
    refine oDraw [(0, 11), (1, 11), (2, 11)] rfl ?_
    refine aP 0 (.ptr 0 0) rfl (k_fieldAddr 0 0 (hu := Try.underlying37) (hf := rfl) (hi := ty3)) ?_
    refine aQ 1 [0] (.d (.int .i64 a0)) rfl (k_load 0 0 (hu := Try.underlying3)) ?_
    refine aP 2 (.d (.int .u64 (IntKind.wrap .u64 (Int.tdiv (IntKind.wrap .u64 b1) r110)))) rfl p_move ?_
    refine aP 4 (.ptr 1 0) rfl (k_fieldAddr 1 0 (hu := Try.underlying37) (hf := rfl) (hi := ty3)) ?_
    refine aQ 5 [1] (.d (.int .i64 b0)) rfl (k_load 1 0 (hu := Try.underlying3)) ?_
    refine aP 6 (.d (.int .u64 (IntKind.wrap .u64 (Int.tdiv (IntKind.wrap .u64 a1) r110)))) rfl p_move ?_
    refine dCall (i := 3) (caps := []) (v := (uc fun (r122 : Int) => (fun (r13 : Int) => (.agg [.d (.bool (decide (a0 < 0))), .d (.int .u64 r122), .d (.int .u64 r13)] : V)))) (H' := (uc fun (r122 : Int) => (fun (r13 : Int) => ([.box [.d (.int .i64 a0), .d (.int .i64 a1)], .box [.d (.int .i64 b0), .d (.int .i64 b1)], .box [.d (.int .i64 0), .d (.int .i64 0)]] : List Blk)))) [] _ (ratio_times_goes k a0 (IntKind.wrap .u64 (Int.tdiv (IntKind.wrap .u64 b1) r110))) rfl (ho := rfl) (hfn := Try.func48) (hb := rfl) (hconv := ConvRs.refl _ _) (hnd := by decide) (hBl := fun _ => (by kernel_rfl)) (hv := fun _ => (by kernel_rfl)) (hH' := fun _ => (by kernel_rfl)) (h := fun r => ?_)
    obtain ⟨r122, r13⟩ := r
    refine dUc ?_
    refine dCall (i := 7) (caps := []) (v := (uc fun (r123 : Int) => (fun (r131 : Int) => (.agg [.d (.bool (decide (b0 < 0))), .d (.int .u64 r123), .d (.int .u64 r131)] : V)))) (H' := (uc fun (r123 : Int) => (fun (r131 : Int) => ([.box [.d (.int .i64 a0), .d (.int .i64 a1)], .box [.d (.int .i64 b0), .d (.int .i64 b1)], .box [.d (.int .i64 0), .d (.int .i64 0)]] : List Blk)))) [] _ (ratio_times_goes k b0 (IntKind.wrap .u64 (Int.tdiv (IntKind.wrap .u64 a1) r110))) rfl (ho := rfl) (hfn := Try.func48) (hb := rfl) (hconv := ConvRs.refl _ _) (hnd := by decide) (hBl := fun _ => (by kernel_rfl)) (hv := fun _ => (by kernel_rfl)) (hH' := fun _ => (by kernel_rfl)) (h := fun r => ?_)
    obtain ⟨r123, r131⟩ := r
    refine dUc ?_
    refine dCall (i := 8) (caps := []) (v := (uc fun (r11 : Bool) => (uc fun (r124 : Int) => (fun (r132 : Int) => (.agg [.d (.bool r11), .d (.int .u64 r124), .d (.int .u64 r132)] : V))))) (H' := (uc fun (r11 : Bool) => (uc fun (r124 : Int) => (fun (r132 : Int) => ([.box [.d (.int .i64 a0), .d (.int .i64 a1)], .box [.d (.int .i64 b0), .d (.int .i64 b1)], .box [.d (.int .i64 0), .d (.int .i64 0)]] : List Blk))))) [] _ (ratio_wide_plus_goes k (decide (a0 < 0)) r122 r13 (decide (b0 < 0)) r123 r131) rfl (ho := rfl) (hfn := Try.func70) (hb := rfl) (hconv := ConvRs.refl _ _) (hnd := by decide) (hBl := fun _ => (by kernel_rfl)) (hv := fun _ => (by kernel_rfl)) (hH' := fun _ => (by kernel_rfl)) (h := fun r => ?_)
    obtain ⟨r11, r124, r132⟩ := r
    refine dUc ?_
    refine dUc ?_
    refine aAlloc (i := 9) (d := 9) rfl (hop := rfl) (hd := rfl) (hty := ty80) (cells := [.d (.bool false), .d (.int .u64 0), .d (.int .u64 0)]) (h := ?_)
    refine dView (H' := [.box [.d (.int .i64 a0), .d (.int .i64 a1)], .box [.d (.int .i64 b0), .d (.int .i64 b1)], .box [.d (.int .i64 0), .d (.int .i64 0)], .box [.d (.bool false), .d (.int .u64 0), .d (.int .u64 0)]]) rfl rfl (h := ?_)
    refine aOne (i := 10) (v := .undef) rfl (hac := Does.acts (k_store (vs := [.d (.bool r11), .d (.int .u64 r124), .d (.int .u64 r132)]) (H' := [.box [.d (.int .i64 a0), .d (.int .i64 a1)], .box [.d (.int .i64 b0), .d (.int .i64 b1)], .box [.d (.int .i64 0), .d (.int .i64 0)], .box [.d (.bool r11), .d (.int .u64 r124), .d (.int .u64 r132)]]) 3 0 (hi := ty80))) (h := ?_)
    refine aDone (h := ?_)
    refine oSeq ?_
    refine oSR rfl ?_
    refine oP (.ptr 3 1) (k_fieldAddr 3 0 (hu := Try.underlying80) (hf := rfl) (hi := ty64)) ?_
    refine oQ (.d (.int .u64 r124)) (k_load 3 1 (hu := Try.underlying64)) ?_
    refine oP (.d (.bool (r124 == 0))) (p_int (k := .u64) (p := r124) (q := 0)) ?_
    refine oP (.d (.bool (r124 == 0))) p_move ?_
    refine bMeet 4 rfl ((uc fun (p3 : Int) => (uc fun (q3 : Int) => (fun (x5 : Bool) => [(4, .ptr 0 0), (6, .d (.int .u64 r110)), (7, .d (.int .u64 p3)), (8, .d (.int .u64 q3)), (9, .ptr 1 0), (55, .d (.bool x5))])))) ((uc fun (p3 : Int) => (uc fun (q3 : Int) => (fun (x5 : Bool) => [.box [.d (.int .i64 0), .d (.int .i64 0)], .box [.d (.bool r11), .d (.int .u64 r124), .d (.int .u64 r132)]])))) (fun s => s) (fun s => ?_) (fun hj1 => ?_)
    ·obtain ⟨p3, q3, x5⟩ := s
     refine bUc ?_
     refine bUc ?_
     refine oView (T' := [(4, .ptr 0 0), (6, .d (.int .u64 r110)), (7, .d (.int .u64 p3)), (8, .d (.int .u64 q3)), (9, .ptr 1 0), (55, .d (.bool x5))]) (H' := [.box [.d (.int .i64 0), .d (.int .i64 0)], .box [.d (.bool r11), .d (.int .u64 r124), .d (.int .u64 r132)]]) (h := ?_)
     refine oEnd ?_
     refine bSplit 55 (h1 := fun hc => ?_) (h2 := fun hc => ?_)
     ·refine oCondT (h := ?_)
      refine oSR rfl ?_
      refine oP (.agg [.d (.int .i64 0), .d (.int .i64 1)]) (p_build bld37) ?_
      refine oD (.undef) (k_store (vs := [.d (.int .i64 0), .d (.int .i64 1)]) (H' := [.box [.d (.int .i64 0), .d (.int .i64 1)], .box [.d (.bool r11), .d (.int .u64 r124), .d (.int .u64 r132)]]) 0 0 (hi := ty37)) ?_
      refine oP (.d (.int .i64 0)) p_assign ?_
      refine oEnd ?_
      exact oRet (r0 := (0, 1, 0)) (rv := .tuple [.agg [.d (.int .i64 0), .d (.int .i64 1)], .d (.int .i64 0)]) (B := []) (vs := [.agg [.d (.int .i64 0), .d (.int .i64 1)], .d (.int .i64 0)]) (σ := []) (hf := Try.func51) (hrs := rfl) (hres := .cons _ _ _ _ (.agg 4 37 0 0 [.d (.int .i64 0), .d (.int .i64 1)] [.d (.int .i64 0), .d (.int .i64 1)] _ _ _ _ (by kernel_rfl) (by kernel_rfl) Try.underlying37 (by kernel_rfl) ty37 (by kernel_rfl) (by kernel_rfl)) (.cons _ _ _ _ (.tmp 5 _ (by kernel_rfl)) .nil)) (hnd := by decide)
     ·refine oCondF (h := ?_)
      refine oSkip ?_
      refine oSR rfl ?_
      refine oP (.d (.int .u64 r110)) p_move ?_
      refine oP (.ptr 1 1) (k_fieldAddr 1 0 (hu := Try.underlying80) (hf := rfl) (hi := ty64)) ?_
      refine oQ (.d (.int .u64 r124)) (k_load 1 1 (hu := Try.underlying64)) ?_
      refine oP (.ptr 1 2) (k_fieldAddr 1 0 (hu := Try.underlying80) (hf := rfl) (hi := ty64)) ?_
      refine oQ (.d (.int .u64 r132)) (k_load 1 2 (hu := Try.underlying64)) ?_
      refine oP (.d (.int .u64 r110)) p_move ?_
      refine bCall (caps := []) (v := (fun (r115 : Int) => (.d (.int .u64 r115) : V))) (H' := (fun (r115 : Int) => ([.box [.d (.int .i64 0), .d (.int .i64 0)], .box [.d (.bool r11), .d (.int .u64 r124), .d (.int .u64 r132)]] : List Blk))) [] _ (math_bits_Rem64_goes k r124 r132 r110) (ho := rfl) (hfn := Try.func71) (hb := rfl) (hconv := ConvRs.refl _ _) (hnd := by decide) (hBl := fun _ => (by kernel_rfl)) (hv := fun _ => (by kernel_rfl)) (hH' := fun _ => (by kernel_rfl)) (h := fun r115 => ?_)
      refine bCall (caps := []) (v := (fun (r116 : Int) => (.d (.int .u64 r116) : V))) (H' := (fun (r116 : Int) => ([.box [.d (.int .i64 0), .d (.int .i64 0)], .box [.d (.bool r11), .d (.int .u64 r124), .d (.int .u64 r132)]] : List Blk))) [] _ (ratio_gcd_goes k r110 r115) (ho := rfl) (hfn := Try.func35) (hb := rfl) (hconv := ConvRs.refl _ _) (hnd := by decide) (hBl := fun _ => (by kernel_rfl)) (hv := fun _ => (by kernel_rfl)) (hH' := fun _ => (by kernel_rfl)) (h := fun r116 => ?_)
      refine oP (.d (.int .u64 r116)) p_assign ?_
      refine oEnd ?_
      refine oSR rfl ?_
      refine oP (.d (.int .u64 r110)) p_move ?_
      refine oP (.d (.int .u64 r116)) p_move ?_
      refine bNz (fun h111 => ?_)
      refine oP (.d (.int .u64 (IntKind.wrap .u64 (Int.tdiv r110 r116)))) (p_quo (k := .u64) (p := r110) (q := r116) (hq := h111)) ?_
      refine oP (.d (.int .u64 p3)) p_move ?_
      refine bCall (caps := []) (v := (uc fun (r117 : Int) => (fun (r118 : Int) => (.tuple [.d (.int .u64 r117), .d (.int .u64 r118)] : V)))) (H' := (uc fun (r117 : Int) => (fun (r118 : Int) => ([.box [.d (.int .i64 0), .d (.int .i64 0)], .box [.d (.bool r11), .d (.int .u64 r124), .d (.int .u64 r132)]] : List Blk)))) [] _ (math_bits_Mul64_goes k (IntKind.wrap .u64 (Int.tdiv r110 r116)) p3) (ho := rfl) (hfn := Try.func59) (hb := rfl) (hconv := ConvRs.refl _ _) (hnd := by decide) (hBl := fun _ => (by kernel_rfl)) (hv := fun _ => (by kernel_rfl)) (hH' := fun _ => (by kernel_rfl)) (h := fun r => ?_)
      obtain ⟨r117, r118⟩ := r
      refine bUc ?_
      refine oP (.tuple [.d (.int .u64 r117), .d (.int .u64 r118)]) p_move ?_
      refine oP (.d (.int .u64 r117)) k_extract ?_
      refine oP (.d (.int .u64 r118)) k_extract ?_
      refine oP (.d (.int .u64 r117)) p_assign ?_
      refine oP (.d (.int .u64 r118)) p_assign ?_
      refine oEnd ?_
      refine oSeq ?_
      refine oSR rfl ?_
      refine oP (.d (.int .u64 r117)) p_move ?_
      refine oP (.d (.bool (r117 != 0))) (p_int (k := .u64) (p := r117) (q := 0)) ?_
      refine oEnd ?_
      refine bSplit 74 (h1 := fun hc => ?_) (h2 := fun hc => ?_)
      ·refine oCondT (h := ?_)
       refine oSR rfl ?_
       refine oP (.agg [.d (.int .i64 0), .d (.int .i64 0)]) (p_build bld37) ?_
       refine oD (.undef) (k_store (vs := [.d (.int .i64 0), .d (.int .i64 0)]) (H' := [.box [.d (.int .i64 0), .d (.int .i64 0)], .box [.d (.bool r11), .d (.int .u64 r124), .d (.int .u64 r132)]]) 0 0 (hi := ty37)) ?_
       refine oP (.d (.int .i64 6)) p_assign ?_
       refine oEnd ?_
       exact oRet (r0 := (0, 0, 6)) (rv := .tuple [.agg [.d (.int .i64 0), .d (.int .i64 0)], .d (.int .i64 6)]) (B := []) (vs := [.agg [.d (.int .i64 0), .d (.int .i64 0)], .d (.int .i64 6)]) (σ := []) (hf := Try.func51) (hrs := rfl) (hres := .cons _ _ _ _ (.agg 4 37 0 0 [.d (.int .i64 0), .d (.int .i64 0)] [.d (.int .i64 0), .d (.int .i64 0)] _ _ _ _ (by kernel_rfl) (by kernel_rfl) Try.underlying37 (by kernel_rfl) ty37 (by kernel_rfl) (by kernel_rfl)) (.cons _ _ _ _ (.tmp 5 _ (by kernel_rfl)) .nil)) (hnd := by decide)
      ·refine oCondF (h := ?_)
       refine oSkip ?_
       refine oSR rfl ?_
       refine oP (.d (.int .u64 r118)) p_move ?_
       refine oP (.d (.int .u64 q3)) p_move ?_
       refine bCall (caps := []) (v := (uc fun (r119 : Int) => (fun (r1110 : Int) => (.tuple [.d (.int .u64 r119), .d (.int .u64 r1110)] : V)))) (H' := (uc fun (r119 : Int) => (fun (r1110 : Int) => ([.box [.d (.int .i64 0), .d (.int .i64 0)], .box [.d (.bool r11), .d (.int .u64 r124), .d (.int .u64 r132)]] : List Blk)))) [] _ (math_bits_Mul64_goes k r118 q3) (ho := rfl) (hfn := Try.func59) (hb := rfl) (hconv := ConvRs.refl _ _) (hnd := by decide) (hBl := fun _ => (by kernel_rfl)) (hv := fun _ => (by kernel_rfl)) (hH' := fun _ => (by kernel_rfl)) (h := fun r => ?_)
       obtain ⟨r119, r1110⟩ := r
       refine bUc ?_
       refine oP (.tuple [.d (.int .u64 r119), .d (.int .u64 r1110)]) p_move ?_
       refine oP (.d (.int .u64 r119)) k_extract ?_
       refine oP (.d (.int .u64 r1110)) k_extract ?_
       refine oP (.d (.int .u64 r119)) p_assign ?_
       refine oP (.d (.int .u64 r1110)) p_assign ?_
       refine oEnd ?_
       refine oSeq ?_
       refine oSR rfl ?_
       refine oP (.d (.int .u64 r119)) p_move ?_
       refine oP (.d (.bool (r119 != 0))) (p_int (k := .u64) (p := r119) (q := 0)) ?_
       refine oEnd ?_
       refine bSplit 83 (h1 := fun hc => ?_) (h2 := fun hc => ?_)
       ·refine oCondT (h := ?_)
        refine oSR rfl ?_
        refine oP (.agg [.d (.int .i64 0), .d (.int .i64 0)]) (p_build bld37) ?_
        refine oD (.undef) (k_store (vs := [.d (.int .i64 0), .d (.int .i64 0)]) (H' := [.box [.d (.int .i64 0), .d (.int .i64 0)], .box [.d (.bool r11), .d (.int .u64 r124), .d (.int .u64 r132)]]) 0 0 (hi := ty37)) ?_
        refine oP (.d (.int .i64 6)) p_assign ?_
        refine oEnd ?_
        exact oRet (r0 := (0, 0, 6)) (rv := .tuple [.agg [.d (.int .i64 0), .d (.int .i64 0)], .d (.int .i64 6)]) (B := []) (vs := [.agg [.d (.int .i64 0), .d (.int .i64 0)], .d (.int .i64 6)]) (σ := []) (hf := Try.func51) (hrs := rfl) (hres := .cons _ _ _ _ (.agg 4 37 0 0 [.d (.int .i64 0), .d (.int .i64 0)] [.d (.int .i64 0), .d (.int .i64 0)] _ _ _ _ (by kernel_rfl) (by kernel_rfl) Try.underlying37 (by kernel_rfl) ty37 (by kernel_rfl) (by kernel_rfl)) (.cons _ _ _ _ (.tmp 5 _ (by kernel_rfl)) .nil)) (hnd := by decide)
       ·refine oCondF (h := ?_)
        refine oSkip ?_
        refine oSR rfl ?_
        refine oQ (.agg [.d (.bool r11), .d (.int .u64 r124), .d (.int .u64 r132)]) (k_loadAgg 1 0 (hu := Try.underlying80) (hi := ty80)) ?_
        refine oP (.d (.int .u64 r116)) p_move ?_
        refine bCall (caps := []) (v := (uc fun (r1111 : Int) => (fun (r134 : Int) => (.agg [.d (.bool r11), .d (.int .u64 r1111), .d (.int .u64 r134)] : V)))) (H' := (uc fun (r1111 : Int) => (fun (r134 : Int) => ([.box [.d (.int .i64 0), .d (.int .i64 0)], .box [.d (.bool r11), .d (.int .u64 r124), .d (.int .u64 r132)]] : List Blk)))) [] _ (ratio_wide_over_goes k r11 r124 r132 r116) (ho := rfl) (hfn := Try.func73) (hb := rfl) (hconv := ConvRs.refl _ _) (hnd := by decide) (hBl := fun _ => (by kernel_rfl)) (hv := fun _ => (by kernel_rfl)) (hH' := fun _ => (by kernel_rfl)) (h := fun r => ?_)
        obtain ⟨r1111, r134⟩ := r
        refine bUc ?_
        refine oP (.d (.int .u64 r1110)) p_move ?_
        refine bCall (caps := []) (v := (uc fun (r128 : Int) => (uc fun (r142 : Int) => (fun (r152 : Int) => (.tuple [.agg [.d (.int .i64 r128), .d (.int .i64 r142)], .d (.int .i64 r152)] : V))))) (H' := (uc fun (r128 : Int) => (uc fun (r142 : Int) => (fun (r152 : Int) => ([.box [.d (.int .i64 0), .d (.int .i64 0)], .box [.d (.bool r11), .d (.int .u64 r124), .d (.int .u64 r132)]] : List Blk))))) [] _ (ratio_lowest_goes k r11 r1111 r134 r1110) (ho := rfl) (hfn := Try.func72) (hb := rfl) (hconv := ConvRs.refl _ _) (hnd := by decide) (hBl := fun _ => (by kernel_rfl)) (hv := fun _ => (by kernel_rfl)) (hH' := fun _ => (by kernel_rfl)) (h := fun r => ?_)
        obtain ⟨r128, r142, r152⟩ := r
        refine bUc ?_
        refine bUc ?_
        refine oP (.agg [.d (.int .i64 r128), .d (.int .i64 r142)]) k_extract ?_
        refine oP (.d (.int .i64 r152)) k_extract ?_
        refine oD (.undef) (k_store (vs := [.d (.int .i64 r128), .d (.int .i64 r142)]) (H' := [.box [.d (.int .i64 r128), .d (.int .i64 r142)], .box [.d (.bool r11), .d (.int .u64 r124), .d (.int .u64 r132)]]) 0 0 (hi := ty37)) ?_
        refine oP (.d (.int .i64 r152)) p_assign ?_
        refine oEnd ?_
        exact oRet (r0 := (r128, r142, r152)) (rv := .tuple [.agg [.d (.int .i64 r128), .d (.int .i64 r142)], .d (.int .i64 r152)]) (B := []) (vs := [.agg [.d (.int .i64 r128), .d (.int .i64 r142)], .d (.int .i64 r152)]) (σ := []) (hf := Try.func51) (hrs := rfl) (hres := .cons _ _ _ _ (.agg 4 37 0 0 [.d (.int .i64 r128), .d (.int .i64 r142)] [.d (.int .i64 r128), .d (.int .i64 r142)] _ _ _ _ (by kernel_rfl) (by kernel_rfl) Try.underlying37 (by kernel_rfl) ty37 (by kernel_rfl) (by kernel_rfl)) (.cons _ _ _ _ (.tmp 5 _ (by kernel_rfl)) .nil)) (hnd := by decide)
    ·refine bSplit 51 (h1 := fun hc => ?_) (h2 := fun hc => ?_)
     ·refine oP (.ptr 3 2) (k_fieldAddr 3 0 (hu := Try.underlying80) (hf := rfl) (hi := ty64)) ?_
      refine oQ (.d (.int .u64 r132)) (k_load 3 2 (hu := Try.underlying64)) ?_
      refine oP (.d (.bool (r132 == 0))) (p_int (k := .u64) (p := r132) (q := 0)) ?_
      refine oP (.d (.bool (r132 == 0))) (p_pick (b := true)) ?_
      refine oHead [4, 6, 7, 8, 9, 55] [2, 3] (T' := [(4, .ptr 0 0), (6, .d (.int .u64 r110)), (7, .d (.int .u64 (IntKind.wrap .u64 (Int.tdiv (IntKind.wrap .u64 a1) r110)))), (8, .d (.int .u64 (IntKind.wrap .u64 (Int.tdiv (IntKind.wrap .u64 b1) r110)))), (9, .ptr 1 0), (55, .d (.bool (r132 == 0)))]) (H' := [.box [.d (.int .i64 0), .d (.int .i64 0)], .box [.d (.bool r11), .d (.int .u64 r124), .d (.int .u64 r132)]]) (hnd := by decide) (h := ?_)
      exact hj1 ((IntKind.wrap .u64 (Int.tdiv (IntKind.wrap .u64 a1) r110)), (IntKind.wrap .u64 (Int.tdiv (IntKind.wrap .u64 b1) r110)), (r132 == 0))
     ·refine oNot (h := ?_)
      refine oNot (h := ?_)
      refine oNot (h := ?_)
      refine oP (.d (.bool false)) (p_pick (b := false)) ?_
      refine oHead [4, 6, 7, 8, 9, 55] [2, 3] (T' := [(4, .ptr 0 0), (6, .d (.int .u64 r110)), (7, .d (.int .u64 (IntKind.wrap .u64 (Int.tdiv (IntKind.wrap .u64 a1) r110)))), (8, .d (.int .u64 (IntKind.wrap .u64 (Int.tdiv (IntKind.wrap .u64 b1) r110)))), (9, .ptr 1 0), (55, .d (.bool false))]) (H' := [.box [.d (.int .i64 0), .d (.int .i64 0)], .box [.d (.bool r11), .d (.int .u64 r124), .d (.int .u64 r132)]]) (hnd := by decide) (h := ?_)
      exact hj1 ((IntKind.wrap .u64 (Int.tdiv (IntKind.wrap .u64 a1) r110)), (IntKind.wrap .u64 (Int.tdiv (IntKind.wrap .u64 b1) r110)), false)
  ·refine bSplit 16 (h1 := fun hc => ?_) (h2 := fun hc => ?_)
   ·refine oNot (h := ?_)
    refine oNot (h := ?_)
    refine oNot (h := ?_)
    refine oP (.d (.bool true)) (p_pick (b := true)) ?_
    refine oHead [2, 3, 4, 20] [0, 1, 2] (T' := [(2, .ptr 0 0), (3, .ptr 1 0), (4, .ptr 2 0), (20, .d (.bool true))]) (H' := [.box [.d (.int .i64 a0), .d (.int .i64 a1)], .box [.d (.int .i64 b0), .d (.int .i64 b1)], .box [.d (.int .i64 0), .d (.int .i64 0)]]) (hnd := by decide) (h := ?_)
    exact hj2 true
   ·refine oQ (.agg [.d (.int .i64 b0), .d (.int .i64 b1)]) (k_loadAgg 1 0 (hu := Try.underlying37) (hi := ty37)) ?_
    refine bCall (caps := []) (v := (fun (r129 : Bool) => (.d (.bool r129) : V))) (H' := (fun (r129 : Bool) => ([.box [.d (.int .i64 a0), .d (.int .i64 a1)], .box [.d (.int .i64 b0), .d (.int .i64 b1)], .box [.d (.int .i64 0), .d (.int .i64 0)]] : List Blk))) [] _ (ratio_Valid_goes k b0 b1) (ho := rfl) (hfn := Try.func24) (hb := rfl) (hconv := ConvRs.refl _ _) (hnd := by decide) (hBl := fun _ => (by kernel_rfl)) (hv := fun _ => (by kernel_rfl)) (hH' := fun _ => (by kernel_rfl)) (h := fun r129 => ?_)
    refine oP (.d (.bool (!r129))) (p_not (p := r129)) ?_
    refine oP (.d (.bool (!r129))) (p_pick (b := false)) ?_
    refine oHead [2, 3, 4, 20] [0, 1, 2] (T' := [(2, .ptr 0 0), (3, .ptr 1 0), (4, .ptr 2 0), (20, .d (.bool (!r129)))]) (H' := [.box [.d (.int .i64 a0), .d (.int .i64 a1)], .box [.d (.int .i64 b0), .d (.int .i64 b1)], .box [.d (.int .i64 0), .d (.int .i64 0)]]) (hnd := by decide) (h := ?_)
    exact hj2 (!r129)

/-- awardingbody/ratio.Sub -/
def ratio_Sub (k : Nat) (a0 : Int) (a1 : Int) (b0 : Int) (b1 : Int) : Option (Int × Int × Int) := Option.bind (ratio_Valid k a0 a1) (fun r122 => Option.bind (bif (!r122) then some true else Option.bind (ratio_Valid k b0 b1) (fun r124 => some (!r124)) : Option (Bool)) (fun x1 => bif x1 then some (0, 0, 1) else Option.bind (ratio_Add k a0 a1 (IntKind.wrap .i64 (0 - b0)) b1) (uc fun r171 => uc fun r181 => fun r191 => some (r171, r181, r191))))
def ratio_Sub_E (a0 : Int) (a1 : Int) (b0 : Int) (b1 : Int) : Int × Int × Int → V × List Blk := uc fun r1 => uc fun r11 => fun r13 => (.tuple [.agg [.d (.int .i64 r1), .d (.int .i64 r11)], .d (.int .i64 r13)], [])
theorem ratio_Sub_goes (k : Nat) (a0 : Int) (a1 : Int) (b0 : Int) (b1 : Int) : RunsO Try.prog 52 [.agg [.d (.int .i64 a0), .d (.int .i64 a1)], .agg [.d (.int .i64 b0), .d (.int .i64 b1)]] [] (ratio_Sub_E a0 a1 b0 b1) (ratio_Sub k a0 a1 b0 b1) := by
  refine RunsO.of_goes (N := 25) (m := 0) (T := [(0, .agg [.d (.int .i64 a0), .d (.int .i64 a1)]), (1, .agg [.d (.int .i64 b0), .d (.int .i64 b1)])]) Try.func52 rfl rfl (h := ?_)
  unfold ratio_Sub
  refine bStart ?_
  refine oSR rfl ?_
  refine oD (.ptr 0 0) (k_box (H' := [.box [.d (.int .i64 a0), .d (.int .i64 a1)]]) (cells := [.d (.int .i64 a0), .d (.int .i64 a1)])) ?_
  refine oD (.ptr 1 0) (k_box (H' := [.box [.d (.int .i64 a0), .d (.int .i64 a1)], .box [.d (.int .i64 b0), .d (.int .i64 b1)]]) (cells := [.d (.int .i64 b0), .d (.int .i64 b1)])) ?_
  refine oD (.ptr 2 0) (k_alloc (H' := [.box [.d (.int .i64 a0), .d (.int .i64 a1)], .box [.d (.int .i64 b0), .d (.int .i64 b1)], .box [.d (.int .i64 0), .d (.int .i64 0)]]) ty37) ?_
  refine oP (.d (.int .i64 0)) p_assign ?_
  refine oEnd ?_
  refine oSeq ?_
  refine oSR rfl ?_
  refine oQ (.agg [.d (.int .i64 a0), .d (.int .i64 a1)]) (k_loadAgg 0 0 (hu := Try.underlying37) (hi := ty37)) ?_
  refine bCall (caps := []) (v := (fun (r122 : Bool) => (.d (.bool r122) : V))) (H' := (fun (r122 : Bool) => ([.box [.d (.int .i64 a0), .d (.int .i64 a1)], .box [.d (.int .i64 b0), .d (.int .i64 b1)], .box [.d (.int .i64 0), .d (.int .i64 0)]] : List Blk))) [] _ (ratio_Valid_goes k a0 a1) (ho := rfl) (hfn := Try.func24) (hb := rfl) (hconv := ConvRs.refl _ _) (hnd := by decide) (hBl := fun _ => (by kernel_rfl)) (hv := fun _ => (by kernel_rfl)) (hH' := fun _ => (by kernel_rfl)) (h := fun r122 => ?_)
  refine oP (.d (.bool (!r122))) (p_not (p := r122)) ?_
  refine oP (.d (.bool (!r122))) p_move ?_
  refine bMeet 4 rfl ((fun (x1 : Bool) => [(2, .ptr 0 0), (3, .ptr 1 0), (4, .ptr 2 0), (13, .d (.bool x1))])) ((fun (x1 : Bool) => [.box [.d (.int .i64 a0), .d (.int .i64 a1)], .box [.d (.int .i64 b0), .d (.int .i64 b1)], .box [.d (.int .i64 0), .d (.int .i64 0)]])) (fun s => s) (fun x1 => ?_) (fun hj1 => ?_)
  ·refine oView (T' := [(2, .ptr 0 0), (3, .ptr 1 0), (4, .ptr 2 0), (13, .d (.bool x1))]) (H' := [.box [.d (.int .i64 a0), .d (.int .i64 a1)], .box [.d (.int .i64 b0), .d (.int .i64 b1)], .box [.d (.int .i64 0), .d (.int .i64 0)]]) (h := ?_)
   refine oEnd ?_
   refine bSplit 13 (h1 := fun hc => ?_) (h2 := fun hc => ?_)
   ·refine oCondT (h := ?_)
    refine oSR rfl ?_
    refine oP (.agg [.d (.int .i64 0), .d (.int .i64 0)]) (p_build bld37) ?_
    refine oD (.undef) (k_store (vs := [.d (.int .i64 0), .d (.int .i64 0)]) (H' := [.box [.d (.int .i64 a0), .d (.int .i64 a1)], .box [.d (.int .i64 b0), .d (.int .i64 b1)], .box [.d (.int .i64 0), .d (.int .i64 0)]]) 2 0 (hi := ty37)) ?_
    refine oP (.d (.int .i64 1)) p_assign ?_
    refine oEnd ?_
    exact oRet (r0 := (0, 0, 1)) (rv := .tuple [.agg [.d (.int .i64 0), .d (.int .i64 0)], .d (.int .i64 1)]) (B := []) (vs := [.agg [.d (.int .i64 0), .d (.int .i64 0)], .d (.int .i64 1)]) (σ := []) (hf := Try.func52) (hrs := rfl) (hres := .cons _ _ _ _ (.agg 4 37 2 0 [.d (.int .i64 0), .d (.int .i64 0)] [.d (.int .i64 0), .d (.int .i64 0)] _ _ _ _ (by kernel_rfl) (by kernel_rfl) Try.underlying37 (by kernel_rfl) ty37 (by kernel_rfl) (by kernel_rfl)) (.cons _ _ _ _ (.tmp 5 _ (by kernel_rfl)) .nil)) (hnd := by decide)
   ·refine oCondF (h := ?_)
    refine oSkip ?_
    refine oSR rfl ?_
    refine oQ (.agg [.d (.int .i64 a0), .d (.int .i64 a1)]) (k_loadAgg 0 0 (hu := Try.underlying37) (hi := ty37)) ?_
    refine oP (.ptr 1 0) (k_fieldAddr 1 0 (hu := Try.underlying37) (hf := rfl) (hi := ty3)) ?_
    refine oQ (.d (.int .i64 b0)) (k_load 1 0 (hu := Try.underlying3)) ?_
    refine oP (.d (.int .i64 (IntKind.wrap .i64 (0 - b0)))) (p_neg (k := .i64) (p := b0)) ?_
    refine oP (.ptr 1 1) (k_fieldAddr 1 0 (hu := Try.underlying37) (hf := rfl) (hi := ty3)) ?_
    refine oQ (.d (.int .i64 b1)) (k_load 1 1 (hu := Try.underlying3)) ?_
    refine oP (.agg [.d (.int .i64 (IntKind.wrap .i64 (0 - b0))), .d (.int .i64 b1)]) (p_build bld37) ?_
    refine bCall (caps := []) (v := (uc fun (r171 : Int) => (uc fun (r181 : Int) => (fun (r191 : Int) => (.tuple [.agg [.d (.int .i64 r171), .d (.int .i64 r181)], .d (.int .i64 r191)] : V))))) (H' := (uc fun (r171 : Int) => (uc fun (r181 : Int) => (fun (r191 : Int) => ([.box [.d (.int .i64 a0), .d (.int .i64 a1)], .box [.d (.int .i64 b0), .d (.int .i64 b1)], .box [.d (.int .i64 0), .d (.int .i64 0)]] : List Blk))))) [] _ (ratio_Add_goes k a0 a1 (IntKind.wrap .i64 (0 - b0)) b1) (ho := rfl) (hfn := Try.func51) (hb := rfl) (hconv := ConvRs.refl _ _) (hnd := by decide) (hBl := fun _ => (by kernel_rfl)) (hv := fun _ => (by kernel_rfl)) (hH' := fun _ => (by kernel_rfl)) (h := fun r => ?_)
    obtain ⟨r171, r181, r191⟩ := r
    refine bUc ?_
    refine bUc ?_
    refine oP (.agg [.d (.int .i64 r171), .d (.int .i64 r181)]) k_extract ?_
    refine oP (.d (.int .i64 r191)) k_extract ?_
    refine oD (.undef) (k_store (vs := [.d (.int .i64 r171), .d (.int .i64 r181)]) (H' := [.box [.d (.int .i64 a0), .d (.int .i64 a1)], .box [.d (.int .i64 b0), .d (.int .i64 b1)], .box [.d (.int .i64 r171), .d (.int .i64 r181)]]) 2 0 (hi := ty37)) ?_
    refine oP (.d (.int .i64 r191)) p_assign ?_
    refine oEnd ?_
    exact oRet (r0 := (r171, r181, r191)) (rv := .tuple [.agg [.d (.int .i64 r171), .d (.int .i64 r181)], .d (.int .i64 r191)]) (B := []) (vs := [.agg [.d (.int .i64 r171), .d (.int .i64 r181)], .d (.int .i64 r191)]) (σ := []) (hf := Try.func52) (hrs := rfl) (hres := .cons _ _ _ _ (.agg 4 37 2 0 [.d (.int .i64 r171), .d (.int .i64 r181)] [.d (.int .i64 r171), .d (.int .i64 r181)] _ _ _ _ (by kernel_rfl) (by kernel_rfl) Try.underlying37 (by kernel_rfl) ty37 (by kernel_rfl) (by kernel_rfl)) (.cons _ _ _ _ (.tmp 5 _ (by kernel_rfl)) .nil)) (hnd := by decide)
  ·refine bSplit 9 (h1 := fun hc => ?_) (h2 := fun hc => ?_)
   ·refine oNot (h := ?_)
    refine oNot (h := ?_)
    refine oNot (h := ?_)
    refine oP (.d (.bool true)) (p_pick (b := true)) ?_
    refine oHead [2, 3, 4, 13] [0, 1, 2] (T' := [(2, .ptr 0 0), (3, .ptr 1 0), (4, .ptr 2 0), (13, .d (.bool true))]) (H' := [.box [.d (.int .i64 a0), .d (.int .i64 a1)], .box [.d (.int .i64 b0), .d (.int .i64 b1)], .box [.d (.int .i64 0), .d (.int .i64 0)]]) (hnd := by decide) (h := ?_)
    exact hj1 true
   ·refine oQ (.agg [.d (.int .i64 b0), .d (.int .i64 b1)]) (k_loadAgg 1 0 (hu := Try.underlying37) (hi := ty37)) ?_
    refine bCall (caps := []) (v := (fun (r124 : Bool) => (.d (.bool r124) : V))) (H' := (fun (r124 : Bool) => ([.box [.d (.int .i64 a0), .d (.int .i64 a1)], .box [.d (.int .i64 b0), .d (.int .i64 b1)], .box [.d (.int .i64 0), .d (.int .i64 0)]] : List Blk))) [] _ (ratio_Valid_goes k b0 b1) (ho := rfl) (hfn := Try.func24) (hb := rfl) (hconv := ConvRs.refl _ _) (hnd := by decide) (hBl := fun _ => (by kernel_rfl)) (hv := fun _ => (by kernel_rfl)) (hH' := fun _ => (by kernel_rfl)) (h := fun r124 => ?_)
    refine oP (.d (.bool (!r124))) (p_not (p := r124)) ?_
    refine oP (.d (.bool (!r124))) (p_pick (b := false)) ?_
    refine oHead [2, 3, 4, 13] [0, 1, 2] (T' := [(2, .ptr 0 0), (3, .ptr 1 0), (4, .ptr 2 0), (13, .d (.bool (!r124)))]) (H' := [.box [.d (.int .i64 a0), .d (.int .i64 a1)], .box [.d (.int .i64 b0), .d (.int .i64 b1)], .box [.d (.int .i64 0), .d (.int .i64 0)]]) (hnd := by decide) (h := ?_)
    exact hj1 (!r124)

/-- (*awardingbody/conversion.calc).do -/
def conversion_calc_do (k : Nat) (r0 : Int) (r1 : Int) (e1 : Int) (x : Int) : Option (Int) := blet ((x == 0) && (e1 != 0)) fun x4 => Option.bind (bif x4 then some 6 else some x : Option (Int)) (fun x5 => some x5)
def conversion_calc_do_E (r0 : Int) (r1 : Int) (e1 : Int) (x : Int) : Int → V × List Blk := fun x3 => (.agg [.d (.int .i64 r0), .d (.int .i64 r1)], [.box [.d (.int .i64 x3)]])
theorem conversion_calc_do_goes (k : Nat) (r0 : Int) (r1 : Int) (e1 : Int) (x : Int) : RunsO Try.prog 50 [.ptr 0 0, .agg [.d (.int .i64 r0), .d (.int .i64 r1)], .d (.int .i64 e1)] [.box [.d (.int .i64 x)]] (conversion_calc_do_E r0 r1 e1 x) (conversion_calc_do k r0 r1 e1 x) := by
  refine RunsO.of_goes (N := 20) (m := 1) (T := [(0, .ptr 0 0), (1, .agg [.d (.int .i64 r0), .d (.int .i64 r1)]), (2, .d (.int .i64 e1))]) Try.func50 rfl rfl (h := ?_)
  unfold conversion_calc_do
  refine bStart ?_
  refine oSR rfl ?_
  refine oD (.ptr 1 0) (k_box (H' := [.box [.d (.int .i64 x)], .box [.d (.int .i64 r0), .d (.int .i64 r1)]]) (cells := [.d (.int .i64 r0), .d (.int .i64 r1)])) ?_
  refine oD (.ptr 2 0) (k_alloc (H' := [.box [.d (.int .i64 x)], .box [.d (.int .i64 r0), .d (.int .i64 r1)], .box [.d (.int .i64 0), .d (.int .i64 0)]]) ty37) ?_
  refine oEnd ?_
  refine oSeq ?_
  refine oSR rfl ?_
  refine oP (.ptr 0 0) p_move ?_
  refine oP (.ptr 0 0) (k_nilCheck 0 0) ?_
  refine oP (.ptr 0 0) (k_fieldAddr 0 0 (hu := Try.underlying56) (hf := rfl) (hi := ty31)) ?_
  refine oQ (.d (.int .i64 x)) (k_load 0 0 (hu := Try.underlying31)) ?_
  refine oP (.d (.bool (x == 0))) (p_int (k := .i64) (p := x) (q := 0)) ?_
  refine oP (.d (.bool (x == 0))) p_move ?_
  refine bMeetF (H' := [.box [.d (.int .i64 x)], .box [.d (.int .i64 r0), .d (.int .i64 r1)], .box [.d (.int .i64 0), .d (.int .i64 0)]]) 3 rfl ((fun (x4 : Bool) => [(0, .ptr 0 0), (4, .ptr 1 0), (6, .ptr 2 0), (15, .d (.bool x4))])) (fun x4 => ?_) (fun F hj2 => ?_)
  ·refine oView (T' := [(0, .ptr 0 0), (4, .ptr 1 0), (6, .ptr 2 0), (15, .d (.bool x4))]) (H' := [.box [.d (.int .i64 x)], .box [.d (.int .i64 r0), .d (.int .i64 r1)], .box [.d (.int .i64 0), .d (.int .i64 0)]]) (h := ?_)
   refine oEnd ?_
   refine bJoin ((fun (x5 : Int) => [(4, .ptr 1 0), (6, .ptr 2 0)])) ((fun (x5 : Int) => [.box [.d (.int .i64 x5)], .box [.d (.int .i64 r0), .d (.int .i64 r1)], .box [.d (.int .i64 0), .d (.int .i64 0)]])) (fun s => s) (fun x5 => ?_) (fun hj3 => ?_)
   ·refine oView (T' := [(4, .ptr 1 0), (6, .ptr 2 0)]) (H' := [.box [.d (.int .i64 x5)], .box [.d (.int .i64 r0), .d (.int .i64 r1)], .box [.d (.int .i64 0), .d (.int .i64 0)]]) (h := ?_)
    refine oSR rfl ?_
    refine oQ (.agg [.d (.int .i64 r0), .d (.int .i64 r1)]) (k_loadAgg 1 0 (hu := Try.underlying37) (hi := ty37)) ?_
    refine oD (.undef) (k_store (vs := [.d (.int .i64 r0), .d (.int .i64 r1)]) (H' := [.box [.d (.int .i64 x5)], .box [.d (.int .i64 r0), .d (.int .i64 r1)], .box [.d (.int .i64 r0), .d (.int .i64 r1)]]) 2 0 (hi := ty37)) ?_
    refine oEnd ?_
    exact oRet (r0 := x5) (rv := .agg [.d (.int .i64 r0), .d (.int .i64 r1)]) (B := [.box [.d (.int .i64 x5)]]) (vs := [.agg [.d (.int .i64 r0), .d (.int .i64 r1)]]) (σ := [0]) (hf := Try.func50) (hrs := rfl) (hres := .cons _ _ _ _ (.agg 6 37 2 0 [.d (.int .i64 r0), .d (.int .i64 r1)] [.d (.int .i64 r0), .d (.int .i64 r1)] _ _ _ _ (by kernel_rfl) (by kernel_rfl) Try.underlying37 (by kernel_rfl) ty37 (by kernel_rfl) (by kernel_rfl)) .nil) (hnd := by decide)
   ·refine bSplit 15 (h1 := fun hc => ?_) (h2 := fun hc => ?_)
    ·refine oCondT (h := ?_)
     refine oRegion rfl ?_
     refine oP (.ptr 0 0) p_move ?_
     refine oP (.ptr 0 0) (k_nilCheck 0 0) ?_
     refine oP (.ptr 0 0) (k_fieldAddr 0 0 (hu := Try.underlying56) (hf := rfl) (hi := ty31)) ?_
     refine oD (.undef) (k_store (vs := [.d (.int .i64 6)]) (H' := [.box [.d (.int .i64 6)], .box [.d (.int .i64 r0), .d (.int .i64 r1)], .box [.d (.int .i64 0), .d (.int .i64 0)]]) 0 0 (hi := ty31)) ?_
     refine oEnd ?_
     refine oHead [4, 6] [0, 1, 2] (T' := [(4, .ptr 1 0), (6, .ptr 2 0)]) (H' := [.box [.d (.int .i64 6)], .box [.d (.int .i64 r0), .d (.int .i64 r1)], .box [.d (.int .i64 0), .d (.int .i64 0)]]) (hnd := by decide) (h := ?_)
     exact hj3 6
    ·refine oCondF (h := ?_)
     refine oSkip ?_
     refine oHead [4, 6] [0, 1, 2] (T' := [(4, .ptr 1 0), (6, .ptr 2 0)]) (H' := [.box [.d (.int .i64 x)], .box [.d (.int .i64 r0), .d (.int .i64 r1)], .box [.d (.int .i64 0), .d (.int .i64 0)]]) (hnd := by decide) (h := ?_)
     exact hj3 x
  ·refine bPickF 12 (fun c => F (c && (e1 != 0))) (h1 := fun hc => ?_) (h2 := fun hc => ?_)
   ·refine oP (.d (.int .i64 e1)) p_move ?_
    refine oP (.d (.bool (e1 != 0))) (p_int (k := .i64) (p := e1) (q := 0)) ?_
    refine oP (.d (.bool (e1 != 0))) (p_pick (b := true)) ?_
    refine oHead [0, 4, 6, 15] [0, 1, 2] (T' := [(0, .ptr 0 0), (4, .ptr 1 0), (6, .ptr 2 0), (15, .d (.bool (e1 != 0)))]) (H' := [.box [.d (.int .i64 x)], .box [.d (.int .i64 r0), .d (.int .i64 r1)], .box [.d (.int .i64 0), .d (.int .i64 0)]]) (hnd := by decide) (h := ?_)
    exact hj2 (e1 != 0)
   ·refine oNot (h := ?_)
    refine oNot (h := ?_)
    refine oP (.d (.bool false)) (p_pick (b := false)) ?_
    refine oHead [0, 4, 6, 15] [0, 1, 2] (T' := [(0, .ptr 0 0), (4, .ptr 1 0), (6, .ptr 2 0), (15, .d (.bool false))]) (H' := [.box [.d (.int .i64 x)], .box [.d (.int .i64 r0), .d (.int .i64 r1)], .box [.d (.int .i64 0), .d (.int .i64 0)]]) (hnd := by decide) (h := ?_)
    exact hj2 false

/-- (*awardingbody/conversion.calc).sub -/
def conversion_calc_sub (k : Nat) (a0 : Int) (a1 : Int) (b0 : Int) (b1 : Int) (x : Int) : Option (Int × Int × Int) := Option.bind (ratio_Sub k a0 a1 b0 b1) (uc fun r15 => uc fun r111 => fun r131 => Option.bind (conversion_calc_do k r15 r111 r131 x) (fun x31 => some (r15, r111, x31)))
def conversion_calc_sub_E (a0 : Int) (a1 : Int) (b0 : Int) (b1 : Int) (x : Int) : Int × Int × Int → V × List Blk := uc fun r12 => uc fun r14 => fun x1 => (.agg [.d (.int .i64 r12), .d (.int .i64 r14)], [.box [.d (.int .i64 x1)]])
theorem conversion_calc_sub_goes (k : Nat) (a0 : Int) (a1 : Int) (b0 : Int) (b1 : Int) (x : Int) : RunsO Try.prog 39 [.ptr 0 0, .agg [.d (.int .i64 a0), .d (.int .i64 a1)], .agg [.d (.int .i64 b0), .d (.int .i64 b1)]] [.box [.d (.int .i64 x)]] (conversion_calc_sub_E a0 a1 b0 b1 x) (conversion_calc_sub k a0 a1 b0 b1 x) := by
  refine RunsO.of_goes (N := 14) (m := 1) (T := [(0, .ptr 0 0), (1, .agg [.d (.int .i64 a0), .d (.int .i64 a1)]), (2, .agg [.d (.int .i64 b0), .d (.int .i64 b1)])]) Try.func39 rfl rfl (h := ?_)
  unfold conversion_calc_sub
  refine bStart ?_
  refine oSR rfl ?_
  refine oD (.ptr 1 0) (k_box (H' := [.box [.d (.int .i64 x)], .box [.d (.int .i64 a0), .d (.int .i64 a1)]]) (cells := [.d (.int .i64 a0), .d (.int .i64 a1)])) ?_
  refine oD (.ptr 2 0) (k_box (H' := [.box [.d (.int .i64 x)], .box [.d (.int .i64 a0), .d (.int .i64 a1)], .box [.d (.int .i64 b0), .d (.int .i64 b1)]]) (cells := [.d (.int .i64 b0), .d (.int .i64 b1)])) ?_
  refine oD (.ptr 3 0) (k_alloc (H' := [.box [.d (.int .i64 x)], .box [.d (.int .i64 a0), .d (.int .i64 a1)], .box [.d (.int .i64 b0), .d (.int .i64 b1)], .box [.d (.int .i64 0), .d (.int .i64 0)]]) ty37) ?_
  refine oEnd ?_
  refine oSR rfl ?_
  refine oP (.ptr 0 0) p_move ?_
  refine oQ (.agg [.d (.int .i64 a0), .d (.int .i64 a1)]) (k_loadAgg 1 0 (hu := Try.underlying37) (hi := ty37)) ?_
  refine oQ (.agg [.d (.int .i64 b0), .d (.int .i64 b1)]) (k_loadAgg 2 0 (hu := Try.underlying37) (hi := ty37)) ?_
  refine bCall (caps := []) (v := (uc fun (r15 : Int) => (uc fun (r111 : Int) => (fun (r131 : Int) => (.tuple [.agg [.d (.int .i64 r15), .d (.int .i64 r111)], .d (.int .i64 r131)] : V))))) (H' := (uc fun (r15 : Int) => (uc fun (r111 : Int) => (fun (r131 : Int) => ([.box [.d (.int .i64 x)], .box [.d (.int .i64 a0), .d (.int .i64 a1)], .box [.d (.int .i64 b0), .d (.int .i64 b1)], .box [.d (.int .i64 0), .d (.int .i64 0)]] : List Blk))))) [] _ (ratio_Sub_goes k a0 a1 b0 b1) (ho := rfl) (hfn := Try.func52) (hb := rfl) (hconv := ConvRs.refl _ _) (hnd := by decide) (hBl := fun _ => (by kernel_rfl)) (hv := fun _ => (by kernel_rfl)) (hH' := fun _ => (by kernel_rfl)) (h := fun r => ?_)
  obtain ⟨r15, r111, r131⟩ := r
  refine bUc ?_
  refine bUc ?_
  refine oP (.agg [.d (.int .i64 r15), .d (.int .i64 r111)]) k_extract ?_
  refine oP (.d (.int .i64 r131)) k_extract ?_
  refine bCall (caps := []) (v := (fun (x31 : Int) => (.agg [.d (.int .i64 r15), .d (.int .i64 r111)] : V))) (H' := (fun (x31 : Int) => ([.box [.d (.int .i64 x31)], .box [.d (.int .i64 a0), .d (.int .i64 a1)], .box [.d (.int .i64 b0), .d (.int .i64 b1)], .box [.d (.int .i64 0), .d (.int .i64 0)]] : List Blk))) [0] _ (conversion_calc_do_goes k r15 r111 r131 x) (ho := rfl) (hfn := Try.func50) (hb := rfl) (hconv := ConvRs.refl _ _) (hnd := by decide) (hBl := fun _ => (by kernel_rfl)) (hv := fun _ => (by kernel_rfl)) (hH' := fun _ => (by kernel_rfl)) (h := fun x31 => ?_)
  refine oD (.undef) (k_store (vs := [.d (.int .i64 r15), .d (.int .i64 r111)]) (H' := [.box [.d (.int .i64 x31)], .box [.d (.int .i64 a0), .d (.int .i64 a1)], .box [.d (.int .i64 b0), .d (.int .i64 b1)], .box [.d (.int .i64 r15), .d (.int .i64 r111)]]) 3 0 (hi := ty37)) ?_
  refine oEnd ?_
  exact oRet (r0 := (r15, r111, x31)) (rv := .agg [.d (.int .i64 r15), .d (.int .i64 r111)]) (B := [.box [.d (.int .i64 x31)]]) (vs := [.agg [.d (.int .i64 r15), .d (.int .i64 r111)]]) (σ := [0]) (hf := Try.func39) (hrs := rfl) (hres := .cons _ _ _ _ (.agg 6 37 3 0 [.d (.int .i64 r15), .d (.int .i64 r111)] [.d (.int .i64 r15), .d (.int .i64 r111)] _ _ _ _ (by kernel_rfl) (by kernel_rfl) Try.underlying37 (by kernel_rfl) ty37 (by kernel_rfl) (by kernel_rfl)) .nil) (hnd := by decide)

/-- awardingbody/ratio.Mul -/
def ratio_Mul (k : Nat) (a0 : Int) (a1 : Int) (b0 : Int) (b1 : Int) : Option (Int × Int × Int) := Option.bind (ratio_Valid k a0 a1) (fun r124 => Option.bind (bif (!r124) then some true else Option.bind (ratio_Valid k b0 b1) (fun r127 => some (!r127)) : Option (Bool)) (fun x1 => bif x1 then some (0, 0, 1) else Option.bind (ratio_abs k a0) (fun r1 => Option.bind (ratio_gcd k r1 (IntKind.wrap .u64 b1)) (fun r11 => Option.bind (ratio_abs k b0) (fun r13 => Option.bind (ratio_gcd k r13 (IntKind.wrap .u64 a1)) (fun r14 => gnz (IntKind.wrap .i64 r11) (Option.bind (ratio_abs k b0) (fun r15 => gnz r14 (Option.bind (ratio_times k (IntKind.wrap .i64 (Int.tdiv a0 (IntKind.wrap .i64 r11))) (IntKind.wrap .u64 (Int.tdiv r15 r14))) (uc fun r122 => fun r131 => gnz r14 (gnz r11 (Option.bind (math_bits_Mul64 k (IntKind.wrap .u64 (Int.tdiv (IntKind.wrap .u64 a1) r14)) (IntKind.wrap .u64 (Int.tdiv (IntKind.wrap .u64 b1) r11))) (uc fun r16 => fun r111 => bif (r16 != 0) then some (0, 0, 6) else Option.bind (ratio_lowest k (!((decide ((IntKind.wrap .i64 (Int.tdiv a0 (IntKind.wrap .i64 r11))) < 0)) == (decide (b0 < 0)))) r122 r131 r111) (uc fun r126 => uc fun r142 => fun r152 => some (r126, r142, r152)))))))))))))))
def ratio_Mul_E (a0 : Int) (a1 : Int) (b0 : Int) (b1 : Int) : Int × Int × Int → V × List Blk := uc fun r17 => uc fun r18 => fun r19 => (.tuple [.agg [.d (.int .i64 r17), .d (.int .i64 r18)], .d (.int .i64 r19)], [])
theorem ratio_Mul_goes (k : Nat) (a0 : Int) (a1 : Int) (b0 : Int) (b1 : Int) : RunsO Try.prog 53 [.agg [.d (.int .i64 a0), .d (.int .i64 a1)], .agg [.d (.int .i64 b0), .d (.int .i64 b1)]] [] (ratio_Mul_E a0 a1 b0 b1) (ratio_Mul k a0 a1 b0 b1) := by
  refine RunsO.of_goes (N := 74) (m := 0) (T := [(0, .agg [.d (.int .i64 a0), .d (.int .i64 a1)]), (1, .agg [.d (.int .i64 b0), .d (.int .i64 b1)])]) Try.func53 rfl rfl (h := ?_)
  unfold ratio_Mul
  refine bStart ?_
  refine oSR rfl ?_
  refine oD (.ptr 0 0) (k_box (H' := [.box [.d (.int .i64 a0), .d (.int .i64 a1)]]) (cells := [.d (.int .i64 a0), .d (.int .i64 a1)])) ?_
  refine oD (.ptr 1 0) (k_box (H' := [.box [.d (.int .i64 a0), .d (.int .i64 a1)], .box [.d (.int .i64 b0), .d (.int .i64 b1)]]) (cells := [.d (.int .i64 b0), .d (.int .i64 b1)])) ?_
  refine oD (.ptr 2 0) (k_alloc (H' := [.box [.d (.int .i64 a0), .d (.int .i64 a1)], .box [.d (.int .i64 b0), .d (.int .i64 b1)], .box [.d (.int .i64 0), .d (.int .i64 0)]]) ty37) ?_
  refine oP (.d (.int .i64 0)) p_assign ?_
  refine oEnd ?_
  refine oSeq ?_
  refine oSR rfl ?_
  refine oQ (.agg [.d (.int .i64 a0), .d (.int .i64 a1)]) (k_loadAgg 0 0 (hu := Try.underlying37) (hi := ty37)) ?_
  refine bCall (caps := []) (v := (fun (r124 : Bool) => (.d (.bool r124) : V))) (H' := (fun (r124 : Bool) => ([.box [.d (.int .i64 a0), .d (.int .i64 a1)], .box [.d (.int .i64 b0), .d (.int .i64 b1)], .box [.d (.int .i64 0), .d (.int .i64 0)]] : List Blk))) [] _ (ratio_Valid_goes k a0 a1) (ho := rfl) (hfn := Try.func24) (hb := rfl) (hconv := ConvRs.refl _ _) (hnd := by decide) (hBl := fun _ => (by kernel_rfl)) (hv := fun _ => (by kernel_rfl)) (hH' := fun _ => (by kernel_rfl)) (h := fun r124 => ?_)
  refine oP (.d (.bool (!r124))) (p_not (p := r124)) ?_
  refine oP (.d (.bool (!r124))) p_move ?_
  refine bMeet 4 rfl ((fun (x1 : Bool) => [(2, .ptr 0 0), (3, .ptr 1 0), (4, .ptr 2 0), (18, .d (.bool x1))])) ((fun (x1 : Bool) => [.box [.d (.int .i64 a0), .d (.int .i64 a1)], .box [.d (.int .i64 b0), .d (.int .i64 b1)], .box [.d (.int .i64 0), .d (.int .i64 0)]])) (fun s => s) (fun x1 => ?_) (fun hj1 => ?_)
  ·refine oView (T' := [(2, .ptr 0 0), (3, .ptr 1 0), (4, .ptr 2 0), (18, .d (.bool x1))]) (H' := [.box [.d (.int .i64 a0), .d (.int .i64 a1)], .box [.d (.int .i64 b0), .d (.int .i64 b1)], .box [.d (.int .i64 0), .d (.int .i64 0)]]) (h := ?_)
   refine oEnd ?_
   refine bSplit 18 (h1 := fun hc => ?_) (h2 := fun hc => ?_)
   ·refine oCondT (h := ?_)
    refine oSR rfl ?_
    refine oP (.agg [.d (.int .i64 0), .d (.int .i64 0)]) (p_build bld37) ?_
    refine oD (.undef) (k_store (vs := [.d (.int .i64 0), .d (.int .i64 0)]) (H' := [.box [.d (.int .i64 a0), .d (.int .i64 a1)], .box [.d (.int .i64 b0), .d (.int .i64 b1)], .box [.d (.int .i64 0), .d (.int .i64 0)]]) 2 0 (hi := ty37)) ?_
    refine oP (.d (.int .i64 1)) p_assign ?_
    refine oEnd ?_
    exact oRet (r0 := (0, 0, 1)) (rv := .tuple [.agg [.d (.int .i64 0), .d (.int .i64 0)], .d (.int .i64 1)]) (B := []) (vs := [.agg [.d (.int .i64 0), .d (.int .i64 0)], .d (.int .i64 1)]) (σ := []) (hf := Try.func53) (hrs := rfl) (hres := .cons _ _ _ _ (.agg 4 37 2 0 [.d (.int .i64 0), .d (.int .i64 0)] [.d (.int .i64 0), .d (.int .i64 0)] _ _ _ _ (by kernel_rfl) (by kernel_rfl) Try.underlying37 (by kernel_rfl) ty37 (by kernel_rfl) (by kernel_rfl)) (.cons _ _ _ _ (.tmp 5 _ (by kernel_rfl)) .nil)) (hnd := by decide)
   ·refine oCondF (h := ?_)
    refine oSkip ?_
    refine oSeq ?_
    refine oDraw [(0, 16), (1, 16), (2, 16)] rfl ?_
    refine aP 0 (.ptr 0 0) rfl (k_fieldAddr 0 0 (hu := Try.underlying37) (hf := rfl) (hi := ty3)) ?_
    refine aQ 1 [0] (.d (.int .i64 a0)) rfl (k_load 0 0 (hu := Try.underlying3)) ?_
    refine aP 3 (.ptr 1 1) rfl (k_fieldAddr 1 0 (hu := Try.underlying37) (hf := rfl) (hi := ty3)) ?_
    refine aQ 4 [1] (.d (.int .i64 b1)) rfl (k_load 1 1 (hu := Try.underlying3)) ?_
    refine aP 5 (.d (.int .u64 (IntKind.wrap .u64 b1))) rfl (p_conv (k := .i64) (p := b1) (hu1 := Try.underlying3) (hu2 := Try.underlying64)) ?_
    refine aP 7 (.ptr 1 0) rfl (k_fieldAddr 1 0 (hu := Try.underlying37) (hf := rfl) (hi := ty3)) ?_
    refine aQ 8 [1] (.d (.int .i64 b0)) rfl (k_load 1 0 (hu := Try.underlying3)) ?_
    refine aP 10 (.ptr 0 1) rfl (k_fieldAddr 0 0 (hu := Try.underlying37) (hf := rfl) (hi := ty3)) ?_
    refine aQ 11 [0] (.d (.int .i64 a1)) rfl (k_load 0 1 (hu := Try.underlying3)) ?_
    refine aP 12 (.d (.int .u64 (IntKind.wrap .u64 a1))) rfl (p_conv (k := .i64) (p := a1) (hu1 := Try.underlying3) (hu2 := Try.underlying64)) ?_
    refine dCall (i := 2) (caps := []) (v := (fun (r1 : Int) => (.d (.int .u64 r1) : V))) (H' := (fun (r1 : Int) => ([.box [.d (.int .i64 a0), .d (.int .i64 a1)], .box [.d (.int .i64 b0), .d (.int .i64 b1)], .box [.d (.int .i64 0), .d (.int .i64 0)]] : List Blk))) [] _ (ratio_abs_goes k a0) rfl (ho := rfl) (hfn := Try.func36) (hb := rfl) (hconv := ConvRs.refl _ _) (hnd := by decide) (hBl := fun _ => (by kernel_rfl)) (hv := fun _ => (by kernel_rfl)) (hH' := fun _ => (by kernel_rfl)) (h := fun r1 => ?_)
    refine dCall (i := 6) (caps := []) (v := (fun (r11 : Int) => (.d (.int .u64 r11) : V))) (H' := (fun (r11 : Int) => ([.box [.d (.int .i64 a0), .d (.int .i64 a1)], .box [.d (.int .i64 b0), .d (.int .i64 b1)], .box [.d (.int .i64 0), .d (.int .i64 0)]] : List Blk))) [] _ (ratio_gcd_goes k r1 (IntKind.wrap .u64 b1)) rfl (ho := rfl) (hfn := Try.func35) (hb := rfl) (hconv := ConvRs.refl _ _) (hnd := by decide) (hBl := fun _ => (by kernel_rfl)) (hv := fun _ => (by kernel_rfl)) (hH' := fun _ => (by kernel_rfl)) (h := fun r11 => ?_)
    refine dCall (i := 9) (caps := []) (v := (fun (r13 : Int) => (.d (.int .u64 r13) : V))) (H' := (fun (r13 : Int) => ([.box [.d (.int .i64 a0), .d (.int .i64 a1)], .box [.d (.int .i64 b0), .d (.int .i64 b1)], .box [.d (.int .i64 0), .d (.int .i64 0)]] : List Blk))) [] _ (ratio_abs_goes k b0) rfl (ho := rfl) (hfn := Try.func36) (hb := rfl) (hconv := ConvRs.refl _ _) (hnd := by decide) (hBl := fun _ => (by kernel_rfl)) (hv := fun _ => (by kernel_rfl)) (hH' := fun _ => (by kernel_rfl)) (h := fun r13 => ?_)
    refine dCall (i := 13) (caps := []) (v := (fun (r14 : Int) => (.d (.int .u64 r14) : V))) (H' := (fun (r14 : Int) => ([.box [.d (.int .i64 a0), .d (.int .i64 a1)], .box [.d (.int .i64 b0), .d (.int .i64 b1)], .box [.d (.int .i64 0), .d (.int .i64 0)]] : List Blk))) [] _ (ratio_gcd_goes k r13 (IntKind.wrap .u64 a1)) rfl (ho := rfl) (hfn := Try.func35) (hb := rfl) (hconv := ConvRs.refl _ _) (hnd := by decide) (hBl := fun _ => (by kernel_rfl)) (hv := fun _ => (by kernel_rfl)) (hH' := fun _ => (by kernel_rfl)) (h := fun r14 => ?_)
    refine aP 14 (.d (.int .u64 r11)) rfl p_assign ?_
    refine aP 15 (.d (.int .u64 r14)) rfl p_assign ?_
    refine aDone (h := ?_)
    refine oSeq ?_
    refine oDraw [(0, 13), (1, 13), (2, 13)] rfl ?_
    refine aP 0 (.ptr 0 0) rfl (k_fieldAddr 0 0 (hu := Try.underlying37) (hf := rfl) (hi := ty3)) ?_
    refine aQ 1 [0] (.d (.int .i64 a0)) rfl (k_load 0 0 (hu := Try.underlying3)) ?_
    refine aP 2 (.d (.int .u64 r11)) rfl p_move ?_
    refine aP 3 (.d (.int .i64 (IntKind.wrap .i64 r11))) rfl (p_conv (k := .u64) (p := r11) (hu1 := Try.underlying64) (hu2 := Try.underlying3)) ?_
    refine dNz (fun h1 => ?_)
    refine aTakeP (i := 4) (.d (.int .i64 (IntKind.wrap .i64 (Int.tdiv a0 (IntKind.wrap .i64 r11))))) rfl (hp := p_quo (k := .i64) (p := a0) (q := (IntKind.wrap .i64 r11)) (hq := h1)) (h := ?_)
    refine aP 5 (.ptr 1 0) rfl (k_fieldAddr 1 0 (hu := Try.underlying37) (hf := rfl) (hi := ty3)) ?_
    refine aQ 6 [1] (.d (.int .i64 b0)) rfl (k_load 1 0 (hu := Try.underlying3)) ?_
    refine aP 8 (.d (.int .u64 r14)) rfl p_move ?_
    refine dCall (i := 7) (caps := []) (v := (fun (r15 : Int) => (.d (.int .u64 r15) : V))) (H' := (fun (r15 : Int) => ([.box [.d (.int .i64 a0), .d (.int .i64 a1)], .box [.d (.int .i64 b0), .d (.int .i64 b1)], .box [.d (.int .i64 0), .d (.int .i64 0)]] : List Blk))) [] _ (ratio_abs_goes k b0) rfl (ho := rfl) (hfn := Try.func36) (hb := rfl) (hconv := ConvRs.refl _ _) (hnd := by decide) (hBl := fun _ => (by kernel_rfl)) (hv := fun _ => (by kernel_rfl)) (hH' := fun _ => (by kernel_rfl)) (h := fun r15 => ?_)
    refine dNz (fun h12 => ?_)
    refine aTakeP (i := 9) (.d (.int .u64 (IntKind.wrap .u64 (Int.tdiv r15 r14)))) rfl (hp := p_quo (k := .u64) (p := r15) (q := r14) (hq := h12)) (h := ?_)
    refine dCall (i := 10) (caps := []) (v := (uc fun (r122 : Int) => (fun (r131 : Int) => (.agg [.d (.bool (decide ((IntKind.wrap .i64 (Int.tdiv a0 (IntKind.wrap .i64 r11))) < 0))), .d (.int .u64 r122), .d (.int .u64 r131)] : V)))) (H' := (uc fun (r122 : Int) => (fun (r131 : Int) => ([.box [.d (.int .i64 a0), .d (.int .i64 a1)], .box [.d (.int .i64 b0), .d (.int .i64 b1)], .box [.d (.int .i64 0), .d (.int .i64 0)]] : List Blk)))) [] _ (ratio_times_goes k (IntKind.wrap .i64 (Int.tdiv a0 (IntKind.wrap .i64 r11))) (IntKind.wrap .u64 (Int.tdiv r15 r14))) rfl (ho := rfl) (hfn := Try.func48) (hb := rfl) (hconv := ConvRs.refl _ _) (hnd := by decide) (hBl := fun _ => (by kernel_rfl)) (hv := fun _ => (by kernel_rfl)) (hH' := fun _ => (by kernel_rfl)) (h := fun r => ?_)
    obtain ⟨r122, r131⟩ := r
    refine dUc ?_
    refine aAlloc (i := 11) (d := 8) rfl (hop := rfl) (hd := rfl) (hty := ty80) (cells := [.d (.bool false), .d (.int .u64 0), .d (.int .u64 0)]) (h := ?_)
    refine dView (H' := [.box [.d (.int .i64 a0), .d (.int .i64 a1)], .box [.d (.int .i64 b0), .d (.int .i64 b1)], .box [.d (.int .i64 0), .d (.int .i64 0)], .box [.d (.bool false), .d (.int .u64 0), .d (.int .u64 0)]]) rfl rfl (h := ?_)
    refine aOne (i := 12) (v := .undef) rfl (hac := Does.acts (k_store (vs := [.d (.bool (decide ((IntKind.wrap .i64 (Int.tdiv a0 (IntKind.wrap .i64 r11))) < 0))), .d (.int .u64 r122), .d (.int .u64 r131)]) (H' := [.box [.d (.int .i64 a0), .d (.int .i64 a1)], .box [.d (.int .i64 b0), .d (.int .i64 b1)], .box [.d (.int .i64 0), .d (.int .i64 0)], .box [.d (.bool (decide ((IntKind.wrap .i64 (Int.tdiv a0 (IntKind.wrap .i64 r11))) < 0))), .d (.int .u64 r122), .d (.int .u64 r131)]]) 3 0 (hi := ty80))) (h := ?_)
    refine aDone (h := ?_)
    refine oSR rfl ?_
    refine oP (.ptr 3 0) (k_fieldAddr 3 0 (hu := Try.underlying80) (hf := rfl) (hi := ty4)) ?_
    refine oQ (.d (.bool (decide ((IntKind.wrap .i64 (Int.tdiv a0 (IntKind.wrap .i64 r11))) < 0)))) (k_load 3 0 (hu := Try.underlying4)) ?_
    refine oP (.ptr 1 0) (k_fieldAddr 1 0 (hu := Try.underlying37) (hf := rfl) (hi := ty3)) ?_
    refine oQ (.d (.int .i64 b0)) (k_load 1 0 (hu := Try.underlying3)) ?_
    refine oP (.d (.bool (decide (b0 < 0)))) (p_int (k := .i64) (p := b0) (q := 0)) ?_
    refine oP (.d (.bool (!((decide ((IntKind.wrap .i64 (Int.tdiv a0 (IntKind.wrap .i64 r11))) < 0)) == (decide (b0 < 0)))))) (p_boolNe (p := (decide ((IntKind.wrap .i64 (Int.tdiv a0 (IntKind.wrap .i64 r11))) < 0))) (q := (decide (b0 < 0))) (hu := Try.underlying4)) ?_
    refine oP (.ptr 3 0) (k_fieldAddr 3 0 (hu := Try.underlying80) (hf := rfl) (hi := ty4)) ?_
    refine oD (.undef) (k_store (vs := [.d (.bool (!((decide ((IntKind.wrap .i64 (Int.tdiv a0 (IntKind.wrap .i64 r11))) < 0)) == (decide (b0 < 0)))))]) (H' := [.box [.d (.int .i64 a0), .d (.int .i64 a1)], .box [.d (.int .i64 b0), .d (.int .i64 b1)], .box [.d (.int .i64 0), .d (.int .i64 0)], .box [.d (.bool (!((decide ((IntKind.wrap .i64 (Int.tdiv a0 (IntKind.wrap .i64 r11))) < 0)) == (decide (b0 < 0))))), .d (.int .u64 r122), .d (.int .u64 r131)]]) 3 0 (hi := ty4)) ?_
    refine oEnd ?_
    refine oSeq ?_
    refine oDraw [(0, 16), (1, 16), (2, 16), (3, 16)] rfl ?_
    refine aP 0 (.ptr 0 1) rfl (k_fieldAddr 0 0 (hu := Try.underlying37) (hf := rfl) (hi := ty3)) ?_
    refine aQ 1 [0] (.d (.int .i64 a1)) rfl (k_load 0 1 (hu := Try.underlying3)) ?_
    refine aP 2 (.d (.int .u64 (IntKind.wrap .u64 a1))) rfl (p_conv (k := .i64) (p := a1) (hu1 := Try.underlying3) (hu2 := Try.underlying64)) ?_
    refine aP 3 (.d (.int .u64 r14)) rfl p_move ?_
    refine dNz (fun h16 => ?_)
    refine aTakeP (i := 4) (.d (.int .u64 (IntKind.wrap .u64 (Int.tdiv (IntKind.wrap .u64 a1) r14)))) rfl (hp := p_quo (k := .u64) (p := (IntKind.wrap .u64 a1)) (q := r14) (hq := h16)) (h := ?_)
    refine aP 5 (.ptr 1 1) rfl (k_fieldAddr 1 0 (hu := Try.underlying37) (hf := rfl) (hi := ty3)) ?_
    refine aQ 6 [1] (.d (.int .i64 b1)) rfl (k_load 1 1 (hu := Try.underlying3)) ?_
    refine aP 7 (.d (.int .u64 (IntKind.wrap .u64 b1))) rfl (p_conv (k := .i64) (p := b1) (hu1 := Try.underlying3) (hu2 := Try.underlying64)) ?_
    refine aP 8 (.d (.int .u64 r11)) rfl p_move ?_
    refine dNz (fun h18 => ?_)
    refine aTakeP (i := 9) (.d (.int .u64 (IntKind.wrap .u64 (Int.tdiv (IntKind.wrap .u64 b1) r11)))) rfl (hp := p_quo (k := .u64) (p := (IntKind.wrap .u64 b1)) (q := r11) (hq := h18)) (h := ?_)
    refine dCall (i := 10) (caps := []) (v := (uc fun (r16 : Int) => (fun (r111 : Int) => (.tuple [.d (.int .u64 r16), .d (.int .u64 r111)] : V)))) (H' := (uc fun (r16 : Int) => (fun (r111 : Int) => ([.box [.d (.int .i64 a0), .d (.int .i64 a1)], .box [.d (.int .i64 b0), .d (.int .i64 b1)], .box [.d (.int .i64 0), .d (.int .i64 0)], .box [.d (.bool (!((decide ((IntKind.wrap .i64 (Int.tdiv a0 (IntKind.wrap .i64 r11))) < 0)) == (decide (b0 < 0))))), .d (.int .u64 r122), .d (.int .u64 r131)]] : List Blk)))) [] _ (math_bits_Mul64_goes k (IntKind.wrap .u64 (Int.tdiv (IntKind.wrap .u64 a1) r14)) (IntKind.wrap .u64 (Int.tdiv (IntKind.wrap .u64 b1) r11))) rfl (ho := rfl) (hfn := Try.func59) (hb := rfl) (hconv := ConvRs.refl _ _) (hnd := by decide) (hBl := fun _ => (by kernel_rfl)) (hv := fun _ => (by kernel_rfl)) (hH' := fun _ => (by kernel_rfl)) (h := fun r => ?_)
    obtain ⟨r16, r111⟩ := r
    refine dUc ?_
    refine aTakeP (i := 11) (.tuple [.d (.int .u64 r16), .d (.int .u64 r111)]) rfl (hp := p_move) (h := ?_)
    refine aTakeP (i := 12) (.d (.int .u64 r16)) rfl (hp := k_extract) (h := ?_)
    refine aTakeP (i := 13) (.d (.int .u64 r111)) rfl (hp := k_extract) (h := ?_)
    refine aP 14 (.d (.int .u64 r16)) rfl p_assign ?_
    refine aP 15 (.d (.int .u64 r111)) rfl p_assign ?_
    refine aDone (h := ?_)
    refine oSeq ?_
    refine oSR rfl ?_
    refine oP (.d (.int .u64 r16)) p_move ?_
    refine oP (.d (.bool (r16 != 0))) (p_int (k := .u64) (p := r16) (q := 0)) ?_
    refine oEnd ?_
    refine bSplit 67 (h1 := fun hc => ?_) (h2 := fun hc => ?_)
    ·refine oCondT (h := ?_)
     refine oSR rfl ?_
     refine oP (.agg [.d (.int .i64 0), .d (.int .i64 0)]) (p_build bld37) ?_
     refine oD (.undef) (k_store (vs := [.d (.int .i64 0), .d (.int .i64 0)]) (H' := [.box [.d (.int .i64 a0), .d (.int .i64 a1)], .box [.d (.int .i64 b0), .d (.int .i64 b1)], .box [.d (.int .i64 0), .d (.int .i64 0)], .box [.d (.bool (!((decide ((IntKind.wrap .i64 (Int.tdiv a0 (IntKind.wrap .i64 r11))) < 0)) == (decide (b0 < 0))))), .d (.int .u64 r122), .d (.int .u64 r131)]]) 2 0 (hi := ty37)) ?_
     refine oP (.d (.int .i64 6)) p_assign ?_
     refine oEnd ?_
     exact oRet (r0 := (0, 0, 6)) (rv := .tuple [.agg [.d (.int .i64 0), .d (.int .i64 0)], .d (.int .i64 6)]) (B := []) (vs := [.agg [.d (.int .i64 0), .d (.int .i64 0)], .d (.int .i64 6)]) (σ := []) (hf := Try.func53) (hrs := rfl) (hres := .cons _ _ _ _ (.agg 4 37 2 0 [.d (.int .i64 0), .d (.int .i64 0)] [.d (.int .i64 0), .d (.int .i64 0)] _ _ _ _ (by kernel_rfl) (by kernel_rfl) Try.underlying37 (by kernel_rfl) ty37 (by kernel_rfl) (by kernel_rfl)) (.cons _ _ _ _ (.tmp 5 _ (by kernel_rfl)) .nil)) (hnd := by decide)
    ·refine oCondF (h := ?_)
     refine oSkip ?_
     refine oSR rfl ?_
     refine oQ (.agg [.d (.bool (!((decide ((IntKind.wrap .i64 (Int.tdiv a0 (IntKind.wrap .i64 r11))) < 0)) == (decide (b0 < 0))))), .d (.int .u64 r122), .d (.int .u64 r131)]) (k_loadAgg 3 0 (hu := Try.underlying80) (hi := ty80)) ?_
     refine oP (.d (.int .u64 r111)) p_move ?_
     refine bCall (caps := []) (v := (uc fun (r126 : Int) => (uc fun (r142 : Int) => (fun (r152 : Int) => (.tuple [.agg [.d (.int .i64 r126), .d (.int .i64 r142)], .d (.int .i64 r152)] : V))))) (H' := (uc fun (r126 : Int) => (uc fun (r142 : Int) => (fun (r152 : Int) => ([.box [.d (.int .i64 a0), .d (.int .i64 a1)], .box [.d (.int .i64 b0), .d (.int .i64 b1)], .box [.d (.int .i64 0), .d (.int .i64 0)], .box [.d (.bool (!((decide ((IntKind.wrap .i64 (Int.tdiv a0 (IntKind.wrap .i64 r11))) < 0)) == (decide (b0 < 0))))), .d (.int .u64 r122), .d (.int .u64 r131)]] : List Blk))))) [] _ (ratio_lowest_goes k (!((decide ((IntKind.wrap .i64 (Int.tdiv a0 (IntKind.wrap .i64 r11))) < 0)) == (decide (b0 < 0)))) r122 r131 r111) (ho := rfl) (hfn := Try.func72) (hb := rfl) (hconv := ConvRs.refl _ _) (hnd := by decide) (hBl := fun _ => (by kernel_rfl)) (hv := fun _ => (by kernel_rfl)) (hH' := fun _ => (by kernel_rfl)) (h := fun r => ?_)
     obtain ⟨r126, r142, r152⟩ := r
     refine bUc ?_
     refine bUc ?_
     refine oP (.agg [.d (.int .i64 r126), .d (.int .i64 r142)]) k_extract ?_
     refine oP (.d (.int .i64 r152)) k_extract ?_
     refine oD (.undef) (k_store (vs := [.d (.int .i64 r126), .d (.int .i64 r142)]) (H' := [.box [.d (.int .i64 a0), .d (.int .i64 a1)], .box [.d (.int .i64 b0), .d (.int .i64 b1)], .box [.d (.int .i64 r126), .d (.int .i64 r142)], .box [.d (.bool (!((decide ((IntKind.wrap .i64 (Int.tdiv a0 (IntKind.wrap .i64 r11))) < 0)) == (decide (b0 < 0))))), .d (.int .u64 r122), .d (.int .u64 r131)]]) 2 0 (hi := ty37)) ?_
     refine oP (.d (.int .i64 r152)) p_assign ?_
     refine oEnd ?_
     exact oRet (r0 := (r126, r142, r152)) (rv := .tuple [.agg [.d (.int .i64 r126), .d (.int .i64 r142)], .d (.int .i64 r152)]) (B := []) (vs := [.agg [.d (.int .i64 r126), .d (.int .i64 r142)], .d (.int .i64 r152)]) (σ := []) (hf := Try.func53) (hrs := rfl) (hres := .cons _ _ _ _ (.agg 4 37 2 0 [.d (.int .i64 r126), .d (.int .i64 r142)] [.d (.int .i64 r126), .d (.int .i64 r142)] _ _ _ _ (by kernel_rfl) (by kernel_rfl) Try.underlying37 (by kernel_rfl) ty37 (by kernel_rfl) (by kernel_rfl)) (.cons _ _ _ _ (.tmp 5 _ (by kernel_rfl)) .nil)) (hnd := by decide)
  ·refine bSplit 14 (h1 := fun hc => ?_) (h2 := fun hc => ?_)
   ·refine oNot (h := ?_)
    refine oNot (h := ?_)
    refine oNot (h := ?_)
    refine oP (.d (.bool true)) (p_pick (b := true)) ?_
    refine oHead [2, 3, 4, 18] [0, 1, 2] (T' := [(2, .ptr 0 0), (3, .ptr 1 0), (4, .ptr 2 0), (18, .d (.bool true))]) (H' := [.box [.d (.int .i64 a0), .d (.int .i64 a1)], .box [.d (.int .i64 b0), .d (.int .i64 b1)], .box [.d (.int .i64 0), .d (.int .i64 0)]]) (hnd := by decide) (h := ?_)
    exact hj1 true
   ·refine oQ (.agg [.d (.int .i64 b0), .d (.int .i64 b1)]) (k_loadAgg 1 0 (hu := Try.underlying37) (hi := ty37)) ?_
    refine bCall (caps := []) (v := (fun (r127 : Bool) => (.d (.bool r127) : V))) (H' := (fun (r127 : Bool) => ([.box [.d (.int .i64 a0), .d (.int .i64 a1)], .box [.d (.int .i64 b0), .d (.int .i64 b1)], .box [.d (.int .i64 0), .d (.int .i64 0)]] : List Blk))) [] _ (ratio_Valid_goes k b0 b1) (ho := rfl) (hfn := Try.func24) (hb := rfl) (hconv := ConvRs.refl _ _) (hnd := by decide) (hBl := fun _ => (by kernel_rfl)) (hv := fun _ => (by kernel_rfl)) (hH' := fun _ => (by kernel_rfl)) (h := fun r127 => ?_)
    refine oP (.d (.bool (!r127))) (p_not (p := r127)) ?_
    refine oP (.d (.bool (!r127))) (p_pick (b := false)) ?_
    refine oHead [2, 3, 4, 18] [0, 1, 2] (T' := [(2, .ptr 0 0), (3, .ptr 1 0), (4, .ptr 2 0), (18, .d (.bool (!r127)))]) (H' := [.box [.d (.int .i64 a0), .d (.int .i64 a1)], .box [.d (.int .i64 b0), .d (.int .i64 b1)], .box [.d (.int .i64 0), .d (.int .i64 0)]]) (hnd := by decide) (h := ?_)
    exact hj1 (!r127)

end Go.VM
