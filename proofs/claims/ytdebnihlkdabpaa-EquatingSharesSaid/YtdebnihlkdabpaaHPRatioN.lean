/- New fractions of small numbers: plain reasoning about the printed functions. -/
import Derived.Test.YtdebnihlkdabpaaHPRatioA
namespace Go.VM
set_option linter.unusedVariables false
set_option linter.unusedSimpArgs false

theorem New_ok {k : Nat} {n d : Int} (hn : -1152921504606846976 ≤ n) (hn2 : n ≤ 1152921504606846976) (hd : 1 ≤ d) (hd2 : d ≤ 1152921504606846976) (hk : d.toNat < k) : ratio_New k n d = some (rnum n d, rden n d, 0) := by
  unfold ratio_New
  rw [show (d == 0) = false by rw [beq_int]; simp; omega, cond_false, abs_ok (by omega) (by omega), abs_ok (by omega) (by omega), Option.bind_some, Option.bind_some]
  rw [show ((d.natAbs : Nat) : Int) = d by omega, lowest_ok (by omega) (by omega) hd hd2 hk]
  rw [show decide (d < 0) = false from decide_eq_false (by omega)]
  simp only [Option.bind_some, uc_mk]
  by_cases h : n < 0
  · rw [decide_eq_true h, show ((n.natAbs : Nat) : Int) = -n by omega, rnum_neg]
    simp [rden, Int.neg_gcd]
  · rw [decide_eq_false h, show ((n.natAbs : Nat) : Int) = n by omega]
    simp
end Go.VM
