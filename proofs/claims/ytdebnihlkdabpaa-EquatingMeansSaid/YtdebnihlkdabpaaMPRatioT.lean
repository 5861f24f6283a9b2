/- Validity, products and differences in the reference: plain reasoning about the printed functions. -/
import Derived.Test.YtdebnihlkdabpaaMPRatioB
namespace Go.VM
set_option linter.unusedVariables false
set_option linter.unusedSimpArgs false

theorem rValid01_ok {k : Nat} {n d : Int} (h : Frac n d) (hk : d.toNat < k) : ref01_Valid k n d = some true := by
  obtain ⟨h1, h2, h3, h4, h5⟩ := h
  unfold ref01_Valid
  rw [show decide (d < 1) = false from decide_eq_false (by omega), show decide (d > 1152921504606846976) = false from decide_eq_false (by omega), show decide (n < -1152921504606846976) = false from decide_eq_false (by omega), show decide (n > 1152921504606846976) = false from decide_eq_false (by omega)]
  simp only [blet_mk, Bool.or_false, cond_false]
  rw [Size_ok (by omega) (by omega), Size_ok (by omega) (by omega), Option.bind_some, Option.bind_some, Divisor_ok (by omega) (by omega) (by omega) (by omega) (by omega), Option.bind_some, uc_mk]
  rw [show Int.gcd (n.natAbs : Int) (d.natAbs : Int) = Int.gcd n d by simp [Int.gcd], h5]
  rfl
theorem Product_ok {k : Nat} {x y : Int} (hx0 : 0 ≤ x) (hx : x ≤ 4294967295) (hy0 : 0 ≤ y) (hy : y ≤ 4294967295) : ref01_Product k x y = some (0, x * y) := by
  unfold ref01_Product
  rw [Mul64_ok hx0 hx hy0 hy]
  rfl
theorem Order_ok {k : Nat} {a b : Int} : ref01_Order k 0 a 0 b = some (if a < b then -1 else if a = b then 0 else 1) := by
  unfold ref01_Order
  simp only [blet_mk, beq_self_eq_true, Bool.true_and, Bool.and_true]
  rw [show decide ((0 : Int) < 0) = false from rfl, cond_false, Option.bind_some]
  by_cases h : a < b
  · rw [decide_eq_true h, cond_true, if_pos h]
  · rw [decide_eq_false h, cond_false, if_neg h, beq_int]
    by_cases h' : a = b
    · rw [decide_eq_true h', cond_true, if_pos h']
    · rw [decide_eq_false h', cond_false, if_neg h']
/-- The difference of two signed magnitudes. -/
theorem total_ok {k : Nat} {x y : Bool} {a b : Int} (ha : 0 ≤ a) (ha2 : a ≤ 9223372036854775807) (hb : 0 ≤ b) (hb2 : b ≤ 9223372036854775807) :
    ref01_total k x 0 a y 0 b = some (if x = y then (x, 0, a + b) else if b ≤ a then (x, 0, a - b) else (y, 0, b - a)) := by
  unfold ref01_total
  by_cases hxy : x = y
  · subst hxy
    rw [if_pos rfl]
    unfold ref01_Plus
    rw [gcarry_some ha hb (by omega) (by omega), gcarry_some (by omega) (by omega) (by omega) (by omega)]
    simp only [beq_self_eq_true, cond_true, Option.bind_some, u0_mk]
    congr 2
    congr 1 <;> omega
  · rw [if_neg hxy, show (x == y) = false by simpa using hxy, cond_false, Order_ok, Option.bind_some]
    unfold ref01_Minus
    by_cases h : b ≤ a
    · rw [if_neg (show ¬a < b by omega), if_pos h]
      have : decide ((if a = b then (0 : Int) else 1) ≥ 0) = true := by split <;> rfl
      rw [this, cond_true, if_neg (show ¬a < b + 0 by omega), gcarry_some ha hb (by omega) (by omega), gle_some (by omega), gcarry_some (by omega) (by omega) (by omega) (by omega), gle_some (by omega)]
      simp only [Option.bind_some, u0_mk]
      congr 2
      congr 1; omega
    · rw [if_pos (show a < b by omega), if_neg h]
      rw [show decide ((-1 : Int) ≥ 0) = false from rfl, cond_false, if_neg (show ¬b < a + 0 by omega), gcarry_some hb ha (by omega) (by omega), gle_some (by omega), gcarry_some (by omega) (by omega) (by omega) (by omega), gle_some (by omega)]
      simp only [Option.bind_some, u0_mk]
      congr 2
      congr 1; omega
end Go.VM
