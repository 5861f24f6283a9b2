/- Products and quotients as rational numbers: plain reasoning about the printed functions. -/
import Derived.Test.YtoffminccignfaaCPRatA
namespace Go.VM
set_option linter.unusedVariables false
set_option linter.unusedSimpArgs false

theorem natAbs_div {a g : Int} (h : g ∣ a) (hg : 0 < g) : ((a.natAbs : Int) / g) = ((a / g).natAbs : Int) := by
  have e := parts h
  generalize a / g = q at *
  rw [e, Int.natAbs_mul, Int.natCast_mul, show ((g.natAbs : Nat) : Int) = g by omega, Int.mul_ediv_cancel_left _ (by omega)]
theorem rat_mul {x y : Rat} (hx : Sm x) (hy : Sm y) : ratio_Mul fuel x.num x.den y.num y.den = some ((x * y).num, ((x * y).den : Int), 0) := by
  obtain ⟨a1, a2, a3⟩ := id hx
  obtain ⟨b1, b2, b3⟩ := id hy
  have px := den_pos x
  have py := den_pos y
  have hprod : (x * y).num * (x.den * y.den) = (x.num * y.num) * (x * y).den := by
    have h := Rat.mul_def' x y
    have h2 : mkRat (x * y).num (x * y).den = mkRat (x.num * y.num) (x.den * y.den) := by rw [Rat.mkRat_self, ← h]
    have h3 := (Rat.mkRat_eq_iff (x * y).den_nz (Nat.mul_ne_zero x.den_nz y.den_nz)).1 h2
    rw [Int.natCast_mul] at h3
    exact h3
  unfold ratio_Mul
  rw [rat_valid hx, rat_valid hy]
  simp only [Option.bind_some, Bool.not_true, cond_false]
  generalize x.num = a at *
  generalize y.num = c at *
  generalize (x.den : Int) = b at *
  generalize (y.den : Int) = d at *
  rw [abs_ok (by omega) (by omega), abs_ok (by omega) (by omega), wu64 (x := b) (by omega) (by omega), wu64 (x := d) (by omega) (by omega)]
  simp only [Option.bind_some]
  rw [gcd_ok (by omega) (by omega) (by unfold fuel; omega)]
  simp only [Option.bind_some]
  rw [gcd_ok (by omega) (by omega) (by unfold fuel; omega)]
  simp only [Option.bind_some]
  rw [show Int.gcd (a.natAbs : Int) d = Int.gcd a d by simp [Int.gcd], show Int.gcd (c.natAbs : Int) b = Int.gcd c b by simp [Int.gcd]]
  have hg := gcd_pos (n := a) (d := d) (by omega)
  have hh := gcd_pos (n := c) (d := b) (by omega)
  have ga : (Int.gcd a d : Int) ∣ a := Int.gcd_dvd_left ..
  have gd : (Int.gcd a d : Int) ∣ d := Int.gcd_dvd_right ..
  have hc : (Int.gcd c b : Int) ∣ c := Int.gcd_dvd_left ..
  have hb : (Int.gcd c b : Int) ∣ b := Int.gcd_dvd_right ..
  have gle : (Int.gcd a d : Int) ≤ d := Int.le_of_dvd (by omega) gd
  have hle : (Int.gcd c b : Int) ≤ b := Int.le_of_dvd (by omega) hb
  generalize (Int.gcd a d : Int) = g at *
  generalize (Int.gcd c b : Int) = h at *
  rw [w64 (x := g) (by omega) (by omega), gnz_some (by omega), gnz_some (by omega), Int.tdiv_eq_ediv_of_dvd ga, Int.tdiv_eq_ediv_of_nonneg (a := (c.natAbs : Int)) (by omega), Int.tdiv_eq_ediv_of_nonneg (a := b) (by omega), Int.tdiv_eq_ediv_of_nonneg (a := d) (by omega), natAbs_div hc hh]
  have ea := parts ga
  have ed := parts gd
  have ec := parts hc
  have eb := parts hb
  have hd' := div_le (a := d) (g := g) (by omega) (by omega)
  have hb' := div_le (a := b) (g := h) (by omega) (by omega)
  have hd0 := div_pos_ (a := d) (by omega) hg gd
  have hb0 := div_pos_ (a := b) (by omega) hh hb
  have za : ((a / g).natAbs : Int) ≤ a.natAbs := by
    rw [← natAbs_div ga hg]; exact Int.ediv_le_self _ (by omega)
  have zc : ((c / h).natAbs : Int) ≤ c.natAbs := by
    rw [← natAbs_div hc hh]; exact Int.ediv_le_self _ (by omega)
  have sc : c < 0 ↔ c / h < 0 := by
    have := (natAbs_mul_pos (c / h) hh).2
    rw [Int.mul_comm, ← ec] at this
    exact this.symm
  generalize a / g = a' at *
  generalize c / h = c' at *
  generalize b / h = b' at *
  generalize d / g = d' at *
  rw [w64 (x := a') (by omega) (by omega), wu64 (x := (c'.natAbs : Int)) (by omega) (by omega), times_ok (by omega) (by omega) (by omega) (by omega), wu64 (x := b') (by omega) (by omega), wu64 (x := d') (by omega) (by omega), Mul64_ok (by omega) (by omega) (by omega) (by omega)]
  simp only [Option.bind_some, uc_mk]
  rw [gnz_some (by omega), gnz_some (by omega)]
  simp only [Option.bind_some, uc_mk, bne_self_eq_false, cond_false]
  have m1 := mul_hi (a := (a'.natAbs : Int)) (m := 536870912) (b := (c'.natAbs : Int)) (n := 536870912) (by omega) (by omega) (by omega) (by omega)
  have m2 := mul_hi (a := b') (m := 536870912) (b := d') (n := 536870912) (by omega) (by omega) (by omega) (by omega)
  have m3 : 0 < b' * d' := Int.mul_pos hb0 hd0
  have hd : decide (c < 0) = decide (c' < 0) := decide_eq_decide.2 sc
  rw [hd, lowest_signed (x * y) (t := a' * c') m1.1 (by omega) (by omega) (by omega) ?_ ?_]
  · rfl
  · by_cases h1 : a' < 0 <;> by_cases h2 : c' < 0
    · rw [decide_eq_true h1, decide_eq_true h2, show ((a'.natAbs : Nat) : Int) = -a' by omega, show ((c'.natAbs : Nat) : Int) = -c' by omega, Int.neg_mul_neg]; rfl
    · rw [decide_eq_true h1, decide_eq_false h2, show ((a'.natAbs : Nat) : Int) = -a' by omega, show ((c'.natAbs : Nat) : Int) = c' by omega, Int.neg_mul]; simp
    · rw [decide_eq_false h1, decide_eq_true h2, show ((a'.natAbs : Nat) : Int) = a' by omega, show ((c'.natAbs : Nat) : Int) = -c' by omega, Int.mul_neg]; simp
    · rw [decide_eq_false h1, decide_eq_false h2, show ((a'.natAbs : Nat) : Int) = a' by omega, show ((c'.natAbs : Nat) : Int) = c' by omega]; rfl
  · have hfg : 0 < g * h := Int.mul_pos hg hh
    have : a' * c' * ((x * y).den : Int) * (g * h) = (x * y).num * (b' * d') * (g * h) := by
      have l1 : a' * c' * ((x * y).den : Int) * (g * h) = (g * a') * (h * c') * (x * y).den := by ac_rfl
      have l2 : (x * y).num * (b' * d') * (g * h) = (x * y).num * ((h * b') * (g * d')) := by ac_rfl
      rw [l1, l2, ← ea, ← ec, ← eb, ← ed, hprod]
    exact Int.eq_of_mul_eq_mul_right (by omega) this
theorem rat_div {x y : Rat} (hx : Sm x) (hy : Sm y) (h0 : y ≠ 0) : ratio_Div fuel x.num x.den y.num y.den = some ((x / y).num, ((x / y).den : Int), 0) := by
  obtain ⟨b1, b2, b3⟩ := id hy
  have py := den_pos y
  have hn0 : y.num ≠ 0 := fun h => h0 (Rat.num_eq_zero.1 h)
  have hd : ((y⁻¹).den : Int) = y.num.natAbs := by rw [Rat.den_inv, if_neg hn0]
  have hn : (y⁻¹).num = y.num.sign * y.den := Rat.num_inv y
  have hinv : Sm y⁻¹ := by
    unfold Sm
    rw [hn, hd]
    rcases Int.lt_trichotomy y.num 0 with h | h | h
    · rw [Int.sign_eq_neg_one_of_neg h]; omega
    · exact absurd h hn0
    · rw [Int.sign_eq_one_of_pos h]; omega
  unfold ratio_Div
  rw [rat_valid hx, rat_valid hy]
  simp only [Option.bind_some, Bool.not_true, cond_false]
  rw [show (y.num == 0) = false by rw [beq_int]; exact decide_eq_false hn0, cond_false]
  have key : (bif decide (y.num < 0) then some (IntKind.wrap .i64 (0 - (y.den : Int)), IntKind.wrap .i64 (0 - y.num)) else some ((y.den : Int), y.num) : Option (Int × Int)) = some ((y⁻¹).num, ((y⁻¹).den : Int)) := by
    rw [hn, hd]
    by_cases h : y.num < 0
    · rw [decide_eq_true h, cond_true, w64 (by omega) (by omega), w64 (by omega) (by omega), Int.sign_eq_neg_one_of_neg h]
      congr 2 <;> omega
    · rw [decide_eq_false h, cond_false, Int.sign_eq_one_of_pos (by omega)]
      congr 2 <;> omega
  rw [key]
  simp only [Option.bind_some, uc_mk]
  rw [rat_mul hx hinv, ← Rat.div_def]
  rfl
/-- A small number: its magnitude, and what its denominator divides. -/
theorem Sm.of {x : Rat} (D : Nat) (M : Nat) (hD : (x.den : Int) ≤ D) (h1 : -(M : Rat) ≤ x) (h2 : x ≤ M) (hM : D * M ≤ 536870912) (hD2 : D ≤ 536870912) : Sm x := by
  have px := den_pos x
  rw [Rat.le_iff] at h1 h2
  simp only [Rat.neg_num, Rat.num_natCast, Rat.neg_den, Rat.den_natCast] at h1 h2
  have hm : (M : Int) * x.den ≤ D * M := by
    rw [Int.mul_comm]
    exact Int.mul_le_mul_of_nonneg_right hD (by omega)
  have : ((D * M : Nat) : Int) = (D : Int) * M := Int.natCast_mul ..
  rw [Int.neg_mul] at h1
  refine ⟨by omega, by omega, by omega⟩
theorem den_of {x : Rat} {n : Int} {d : Nat} (hd : d ≠ 0) (h : x * d = n) : (x.den : Int) ≤ d := by
  have e : x = mkRat n d := by
    rw [Rat.mkRat_eq_div, ← h]
    have : (d : Rat) ≠ 0 := by
      intro h0
      have := congrArg Rat.num h0
      simp at this
      exact hd this
    rw [Rat.mul_div_cancel this]
  rw [e, Rat.den_mkRat, if_neg hd]
  have := Nat.div_le_self d (d.gcd n.natAbs)
  omega
end Go.VM
