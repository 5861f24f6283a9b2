/- Sums in the reference as rational numbers, for small numbers: plain reasoning about the printed functions. -/
import Derived.Test.YtdebnihlkdabpaaMPRatioBN
import Derived.Test.YtdebnihlkdabpaaMPRatioT
import Derived.Test.YtdebnihlkdabpaaMPRatG
namespace Go.VM
set_option linter.unusedVariables false
set_option linter.unusedSimpArgs false

/-- A number with a small numerator and denominator. -/
def Sn (x : Rat) : Prop := -2147483647 ≤ x.num ∧ x.num ≤ 2147483647 ∧ (x.den : Int) ≤ 536870912
theorem Sn.frac {x : Rat} (h : Sn x) : Frac x.num x.den := by
  obtain ⟨h1, h2, h3⟩ := h
  exact ⟨by omega, by omega, den_pos x, by omega, rat_gcd x⟩
theorem grid_sn {D B : Nat} {v : Rat} (h : Grid D B v) (hD : D ≠ 0) (h1 : D ≤ 536870912) (h2 : B ≤ 2147483647) : Sn v := by
  have := h.num hD
  exact ⟨by omega, by omega, by omega⟩
theorem reduce_signed {s : Bool} {N d t : Int} (x : Rat) (hN : 0 ≤ N) (hN2 : N ≤ 1152921504606846976) (hd : 1 ≤ d) (hd2 : d ≤ 1152921504606846976) (ht : t = bif s then -N else N) (hx : t * x.den = x.num * d) : ref01_Reduce fuel s 0 N 0 d = some (x.num, (x.den : Int), 0) := by
  rw [rReduce_ok hN hN2 hd hd2 (by unfold fuel; omega)]
  have h := lowest_rat hd x hx
  have e1 : (bif s then -rnum N d else rnum N d) = rnum t d := by
    cases s
    · rw [ht]; rfl
    · rw [ht, cond_true, cond_true, rnum_neg]
  have e2 : rden N d = rden t d := by
    cases s
    · rw [ht]; rfl
    · rw [ht, cond_true]; unfold rden; rw [Int.neg_gcd]
  rw [e1, e2, h.1, h.2]
theorem rrat_add {x y : Rat} (hx : Sn x) (hy : Sn y) (hb : (x.num.natAbs : Int) * y.den + (y.num.natAbs : Int) * x.den ≤ 1152921504606846976) : ref01_Add fuel x.num x.den y.num y.den = some ((x + y).num, ((x + y).den : Int), 0) := by
  obtain ⟨a1, a2, a3⟩ := id hx
  obtain ⟨b1, b2, b3⟩ := id hy
  have px := den_pos x
  have py := den_pos y
  have hsum : (x + y).num * (x.den * y.den) = (x.num * y.den + y.num * x.den) * (x + y).den := by
    have h := Rat.add_def' x y
    have h2 : mkRat (x + y).num (x + y).den = mkRat (x.num * y.den + y.num * x.den) (x.den * y.den) := by rw [Rat.mkRat_self, ← h]
    have h3 := (Rat.mkRat_eq_iff (x + y).den_nz (Nat.mul_ne_zero x.den_nz y.den_nz)).1 h2
    rw [Int.natCast_mul] at h3
    exact h3
  unfold ref01_Add
  rw [rValid01_ok hx.frac (by unfold fuel; omega), rValid01_ok hy.frac (by unfold fuel; omega)]
  simp only [Option.bind_some, Bool.not_true, cond_false]
  generalize x.num = a at *
  generalize y.num = c at *
  generalize (x.den : Int) = b at *
  generalize (y.den : Int) = d at *
  rw [Size_ok (n := a) (by omega) (by omega), Size_ok (n := b) (by omega) (by omega), Size_ok (n := c) (by omega) (by omega), Size_ok (n := d) (by omega) (by omega)]
  simp only [Option.bind_some]
  rw [show ((d.natAbs : Nat) : Int) = d by omega, show ((b.natAbs : Nat) : Int) = b by omega, Product_ok (by omega) (by omega) (by omega) (by omega), Product_ok (by omega) (by omega) (by omega) (by omega), Product_ok (by omega) (by omega) (by omega) (by omega)]
  simp only [Option.bind_some, uc_mk]
  have p0 := Int.mul_nonneg (show (0 : Int) ≤ a.natAbs by omega) (show 0 ≤ d by omega)
  have q0 := Int.mul_nonneg (show (0 : Int) ≤ c.natAbs by omega) (show 0 ≤ b by omega)
  have m5 := mul_hi (a := b) (m := 536870912) (b := d) (n := 536870912) (by omega) (by omega) (by omega) (by omega)
  have m6 : 0 < b * d := Int.mul_pos (by omega) (by omega)
  rw [total_ok p0 (by omega) q0 (by omega), Option.bind_some]
  have ea : a < 0 ∧ a * d = -((a.natAbs : Int) * d) ∨ 0 ≤ a ∧ a * d = (a.natAbs : Int) * d := by
    by_cases ha : a < 0
    · left; exact ⟨ha, by rw [show ((a.natAbs : Nat) : Int) = -a by omega, Int.neg_mul]; omega⟩
    · right; exact ⟨by omega, by rw [show ((a.natAbs : Nat) : Int) = a by omega]⟩
  have ec : c < 0 ∧ c * b = -((c.natAbs : Int) * b) ∨ 0 ≤ c ∧ c * b = (c.natAbs : Int) * b := by
    by_cases hc : c < 0
    · left; exact ⟨hc, by rw [show ((c.natAbs : Nat) : Int) = -c by omega, Int.neg_mul]; omega⟩
    · right; exact ⟨by omega, by rw [show ((c.natAbs : Nat) : Int) = c by omega]⟩
  have fin : ∀ (s : Bool) (N : Int), 0 ≤ N → N ≤ 1152921504606846976 → a * d + c * b = (bif s then -N else N) → Option.bind (ref01_Reduce fuel s 0 N 0 (b * d)) (uc fun r124 => uc fun r136 => fun r141 => some (r124, r136, r141)) = some ((x + y).num, ((x + y).den : Int), 0) := fun s N h1 h2 h3 => by
    rw [reduce_signed (x + y) h1 h2 (by omega) (by omega) h3 (by rw [hsum])]
    rfl
  rcases ea with ⟨a1', a2'⟩ | ⟨a1', a2'⟩ <;> rcases ec with ⟨c1, c2⟩ | ⟨c1, c2⟩
  · rw [decide_eq_true a1', decide_eq_true c1, if_pos rfl]
    simp only [uc_mk]
    exact fin _ _ (by omega) (by omega) (by rw [cond_true]; omega)
  · rw [decide_eq_true a1', decide_eq_false (show ¬c < 0 by omega), if_neg (by simp)]
    split
    · simp only [uc_mk]; exact fin _ _ (by omega) (by omega) (by rw [cond_true]; omega)
    · simp only [uc_mk]; exact fin _ _ (by omega) (by omega) (by rw [cond_false]; omega)
  · rw [decide_eq_false (show ¬a < 0 by omega), decide_eq_true c1, if_neg (by simp)]
    split
    · simp only [uc_mk]; exact fin _ _ (by omega) (by omega) (by rw [cond_false]; omega)
    · simp only [uc_mk]; exact fin _ _ (by omega) (by omega) (by rw [cond_true]; omega)
  · rw [decide_eq_false (show ¬a < 0 by omega), decide_eq_false (show ¬c < 0 by omega), if_pos rfl]
    simp only [uc_mk]
    exact fin _ _ (by omega) (by omega) (by rw [cond_false]; omega)
theorem rrat_sub {x y : Rat} (hx : Sn x) (hy : Sn y) (hb : (x.num.natAbs : Int) * y.den + (y.num.natAbs : Int) * x.den ≤ 1152921504606846976) : ref01_Sub fuel x.num x.den y.num y.den = some ((x - y).num, ((x - y).den : Int), 0) := by
  have hn : Sn (-y) := ⟨by have := hy.2.1; simp only [Rat.neg_num]; omega, by have := hy.1; simp only [Rat.neg_num]; omega, by simpa using hy.2.2⟩
  obtain ⟨b1, b2, b3⟩ := id hy
  obtain ⟨a1, a2, a3⟩ := id hx
  unfold ref01_Sub
  rw [rValid01_ok hx.frac (by unfold fuel; omega), rValid01_ok hy.frac (by unfold fuel; omega)]
  simp only [Option.bind_some, Bool.not_true, cond_false]
  rw [w64 (x := 0 - y.num) (by omega) (by omega), show 0 - y.num = (-y).num by simp, show (y.den : Int) = ((-y).den : Int) by simp, rrat_add hx hn (by simpa using hb), ← Rat.sub_eq_add_neg]
  rfl
end Go.VM
