/- Comparisons of fractions in the reference: plain reasoning about the printed functions. -/
import Derived.Test.YtoffminccignfaaCPRatioB
namespace Go.VM
set_option linter.unusedVariables false
set_option linter.unusedSimpArgs false

theorem rValid01_ok {k : Nat} {n d : Int} (h : Frac n d) (hk : d.toNat < k) : ref01_Valid k n d = some true := by
  obtain ⟨h1, h2, h3, h4, h5⟩ := h
  unfold ref01_Valid
  rw [show decide (d < 1) = false from decide_eq_false (by omega), show decide (d > 1152921504606846976) = false from decide_eq_false (by omega), show decide (n < -1152921504606846976) = false from decide_eq_false (by omega), show decide (n > 1152921504606846976) = false from decide_eq_false (by omega)]
  simp only [blet_mk, Bool.or_false, cond_false]
  rw [Size_ok (by omega) (by omega), Size_ok (by omega) (by omega), Option.bind_some, Option.bind_some, Divisor_ok (by omega) (by omega) (by omega) (by omega) (by omega), Option.bind_some, uc_mk]
  rw [show Int.gcd (n.natAbs : Int) (d.natAbs : Int) = Int.gcd n d by simp [Int.gcd], h5]
  rfl
theorem Product_ok {k : Nat} {x y : Int} (hx0 : 0 ≤ x) (hx : x ≤ 4294967295) (hy0 : 0 ≤ y) (hy : y ≤ 4294967295) : ref01_Product k x y = some (0, x * y) := by
  unfold ref01_Product
  rw [Mul64_ok hx0 hx hy0 hy]
  rfl
theorem Order_ok {k : Nat} {a b : Int} : ref01_Order k 0 a 0 b = some (if a < b then -1 else if a = b then 0 else 1) := by
  unfold ref01_Order
  simp only [blet_mk, beq_self_eq_true, Bool.true_and, Bool.and_true]
  rw [show decide ((0 : Int) < 0) = false from rfl, cond_false, Option.bind_some]
  by_cases h : a < b
  · rw [decide_eq_true h, cond_true, if_pos h]
  · rw [decide_eq_false h, cond_false, if_neg h, beq_int]
    by_cases h' : a = b
    · rw [decide_eq_true h', cond_true, if_pos h']
    · rw [decide_eq_false h', cond_false, if_neg h']
/-- The difference of two signed magnitudes. -/
theorem total_ok {k : Nat} {x y : Bool} {a b : Int} (ha : 0 ≤ a) (ha2 : a ≤ 9223372036854775807) (hb : 0 ≤ b) (hb2 : b ≤ 9223372036854775807) :
    ref01_total k x 0 a y 0 b = some (if x = y then (x, 0, a + b) else if b ≤ a then (x, 0, a - b) else (y, 0, b - a)) := by
  unfold ref01_total
  by_cases hxy : x = y
  · subst hxy
    rw [if_pos rfl]
    unfold ref01_Plus
    rw [gcarry_some ha hb (by omega) (by omega), gcarry_some (by omega) (by omega) (by omega) (by omega)]
    simp only [beq_self_eq_true, cond_true, Option.bind_some, u0_mk]
    congr 2
    congr 1 <;> omega
  · rw [if_neg hxy, show (x == y) = false by simpa using hxy, cond_false, Order_ok, Option.bind_some]
    unfold ref01_Minus
    by_cases h : b ≤ a
    · rw [if_neg (show ¬a < b by omega), if_pos h]
      have : decide ((if a = b then (0 : Int) else 1) ≥ 0) = true := by split <;> rfl
      rw [this, cond_true, if_neg (show ¬a < b + 0 by omega), gcarry_some ha hb (by omega) (by omega), gle_some (by omega), gcarry_some (by omega) (by omega) (by omega) (by omega), gle_some (by omega)]
      simp only [Option.bind_some, u0_mk]
      congr 2
      congr 1; omega
    · rw [if_pos (show a < b by omega), if_neg h]
      rw [show decide ((-1 : Int) ≥ 0) = false from rfl, cond_false, if_neg (show ¬b < a + 0 by omega), gcarry_some hb ha (by omega) (by omega), gle_some (by omega), gcarry_some (by omega) (by omega) (by omega) (by omega), gle_some (by omega)]
      simp only [Option.bind_some, u0_mk]
      congr 2
      congr 1; omega
theorem rCompare_ok {k : Nat} {a b c d : Int} (h : Frac a b) (h' : Frac c d) (hk : b.toNat < k) (hk' : d.toNat < k) : ref01_Compare k a b c d = some (if a * d < c * b then -1 else if a * d = c * b then 0 else 1) := by
  obtain ⟨h1, h2, h3, h4, h5⟩ := id h
  obtain ⟨g1, g2, g3, g4, g5⟩ := id h'
  unfold ref01_Compare
  rw [rValid01_ok h hk, rValid01_ok h' hk', Size_ok (n := a) (by omega) (by omega), Size_ok (n := b) (by omega) (by omega), Size_ok (n := c) (by omega) (by omega), Size_ok (n := d) (by omega) (by omega)]
  simp only [Option.bind_some, Bool.not_true, cond_false]
  rw [Product_ok (by omega) (by omega) (by omega) (by omega), Product_ok (by omega) (by omega) (by omega) (by omega)]
  simp only [Option.bind_some, uc_mk]
  have hd : ((d.natAbs : Nat) : Int) = d := by omega
  have hb : ((b.natAbs : Nat) : Int) = b := by omega
  rw [hd, hb]
  have p0 := Int.mul_nonneg (show (0 : Int) ≤ a.natAbs by omega) (show 0 ≤ d by omega)
  have p1 : (a.natAbs : Int) * d ≤ 2147483647 * 2147483647 := Int.mul_le_mul (by omega) g4 (by omega) (by omega)
  have q0 := Int.mul_nonneg (show (0 : Int) ≤ c.natAbs by omega) (show 0 ≤ b by omega)
  have q1 : (c.natAbs : Int) * b ≤ 2147483647 * 2147483647 := Int.mul_le_mul (by omega) h4 (by omega) (by omega)
  rw [total_ok p0 (by omega) q0 (by omega), Option.bind_some]
  have ea : a < 0 ∧ a * d = -((a.natAbs : Int) * d) ∨ 0 ≤ a ∧ a * d = (a.natAbs : Int) * d := by
    by_cases ha : a < 0
    · left; exact ⟨ha, by rw [show ((a.natAbs : Nat) : Int) = -a by omega, Int.neg_mul]; omega⟩
    · right; exact ⟨by omega, by rw [show ((a.natAbs : Nat) : Int) = a by omega]⟩
  have ec : c ≤ 0 ∧ c * b = -((c.natAbs : Int) * b) ∨ 0 < c ∧ c * b = (c.natAbs : Int) * b := by
    by_cases hc : c ≤ 0
    · left; exact ⟨hc, by rw [show ((c.natAbs : Nat) : Int) = -c by omega, Int.neg_mul]; omega⟩
    · right; exact ⟨by omega, by rw [show ((c.natAbs : Nat) : Int) = c by omega]⟩
  have ep : a < 0 → 0 < (a.natAbs : Int) * d := fun h => Int.mul_pos (by omega) (by omega)
  have eq : 0 < c → 0 < (c.natAbs : Int) * b := fun h => Int.mul_pos (by omega) (by omega)
  have finT : ∀ (n r : Int), (n = 0 ∧ r = 0 ∨ n ≠ 0 ∧ r = -1) → (uc (fun r111 => uc fun r122 r134 => bif r122 == 0 && (r134 == 0 && true) then some (0 : Int) else bif r111 then some (-1) else some 1) (true, (0 : Int), n)) = some r := fun n r hr => by
    simp only [uc_mk, beq_self_eq_true, Bool.true_and, Bool.and_true, beq_int]
    rcases hr with ⟨h, rfl⟩ | ⟨h, rfl⟩ <;> simp [h]
  have finF : ∀ (n r : Int), (n = 0 ∧ r = 0 ∨ n ≠ 0 ∧ r = 1) → (uc (fun r111 => uc fun r122 r134 => bif r122 == 0 && (r134 == 0 && true) then some (0 : Int) else bif r111 then some (-1) else some 1) (false, (0 : Int), n)) = some r := fun n r hr => by
    simp only [uc_mk, beq_self_eq_true, Bool.true_and, Bool.and_true, beq_int]
    rcases hr with ⟨h, rfl⟩ | ⟨h, rfl⟩ <;> simp [h]
  rcases ea with ⟨a1, a2⟩ | ⟨a1, a2⟩ <;> rcases ec with ⟨c1, c2⟩ | ⟨c1, c2⟩
  · rw [decide_eq_true a1, show decide (c > 0) = false from decide_eq_false (by omega), if_neg (by simp)]
    split
    · refine finT _ _ ?_
      split <;> (try split) <;> omega
    · refine finF _ _ ?_
      split <;> (try split) <;> omega
  · rw [decide_eq_true a1, show decide (c > 0) = true from decide_eq_true (by omega), if_pos rfl]
    refine finT _ _ ?_
    have := ep a1
    split <;> (try split) <;> omega
  · rw [decide_eq_false (show ¬a < 0 by omega), show decide (c > 0) = false from decide_eq_false (by omega), if_pos rfl]
    refine finF _ _ ?_
    split <;> (try split) <;> omega
  · rw [decide_eq_false (show ¬a < 0 by omega), show decide (c > 0) = true from decide_eq_true (by omega), if_neg (by simp)]
    split
    · refine finF _ _ ?_
      split <;> (try split) <;> omega
    · refine finT _ _ ?_
      split <;> (try split) <;> omega
theorem rLess_ok {k : Nat} {a b c d : Int} (h : Frac a b) (h' : Frac c d) (hk : b.toNat < k) (hk' : d.toNat < k) : ref01_Less k a b c d = some (decide (a * d < c * b)) := by
  unfold ref01_Less
  rw [rCompare_ok h h' hk hk', Option.bind_some]
  by_cases h : a * d < c * b
  · rw [if_pos h, decide_eq_true h]; rfl
  · rw [if_neg h, decide_eq_false h]
    split <;> rfl
end Go.VM
