/- New fractions in the reference: plain reasoning about the printed functions. -/
import Derived.Test.YtdebnihlkdabpaaHPRatioB
namespace Go.VM
set_option linter.unusedVariables false
set_option linter.unusedSimpArgs false

theorem rReduce_ok {k : Nat} {s : Bool} {n d : Int} (hn : 0 ≤ n) (hn2 : n ≤ 1152921504606846976) (hd : 1 ≤ d) (hd2 : d ≤ 1152921504606846976) (hk : d.toNat < k) : ref01_Reduce k s 0 n 0 d = some (bif s then -rnum n d else rnum n d, rden n d, 0) := by
  unfold ref01_Reduce
  have hg := gcd_pos (n := n) (d := d) (by omega)
  have hr1 := rnum_le (d := d) hn
  have hr2 := rden_le (n := n) (d := d) (by omega)
  have hr3 := rden_pos (n := n) (d := d) (by omega)
  have e1 : n / (Int.gcd n d : Int) = rnum n d := rfl
  have e2 : d / (Int.gcd n d : Int) = rden n d := rfl
  rw [Divisor_ok hn (by omega) (by omega) (by omega) hk]
  simp only [Option.bind_some, uc_mk]
  rw [Divide_ok hn (by omega) (by omega), Divide_ok (by omega) (by omega) (by omega), e1, e2]
  simp only [Option.bind_some, uc_mk, blet_mk]
  rw [show decide (rnum n d > 1152921504606846976) = false from decide_eq_false (by omega), show decide (rden n d > 1152921504606846976) = false from decide_eq_false (by omega)]
  rw [show decide ((0 : Int) > 0) = false from rfl]
  simp only [Bool.or_false, cond_false]
  rw [w64 (x := rnum n d) (by omega) (by omega), w64 (x := 0 - rnum n d) (by omega) (by omega), w64 (x := rden n d) (by omega) (by omega)]
  cases s
  · simp [uc]
  · simp [uc]
theorem rNew_ok {k : Nat} {n d : Int} (hn : -1152921504606846976 ≤ n) (hn2 : n ≤ 1152921504606846976) (hd : 1 ≤ d) (hd2 : d ≤ 1152921504606846976) (hk : d.toNat < k) : ref01_New k n d = some (rnum n d, rden n d, 0) := by
  unfold ref01_New
  rw [show (d == 0) = false by rw [beq_int]; simp; omega, cond_false, Size_ok (by omega) (by omega), Size_ok (by omega) (by omega), Option.bind_some, Option.bind_some]
  rw [show ((d.natAbs : Nat) : Int) = d by omega, rReduce_ok (by omega) (by omega) hd hd2 hk]
  rw [show decide (d < 0) = false from decide_eq_false (by omega)]
  simp only [Option.bind_some, uc_mk]
  by_cases h : n < 0
  · rw [decide_eq_true h, show ((n.natAbs : Nat) : Int) = -n by omega, rnum_neg]
    simp [rden, Int.neg_gcd]
  · rw [decide_eq_false h, show ((n.natAbs : Nat) : Int) = n by omega]
    simp
end Go.VM
