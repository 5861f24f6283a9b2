/- Fractions as rational numbers: plain reasoning about the printed functions. -/
import Derived.Test.YtoffminccignfaaCPRatioA
namespace Go.VM
set_option linter.unusedVariables false
set_option linter.unusedSimpArgs false

/-- A number with a small numerator and denominator. -/
def Sm (x : Rat) : Prop := -536870912 ≤ x.num ∧ x.num ≤ 536870912 ∧ (x.den : Int) ≤ 536870912
theorem den_pos (x : Rat) : (1 : Int) ≤ x.den := by have := x.den_pos; omega
theorem rat_gcd (x : Rat) : Int.gcd x.num (x.den : Int) = 1 := x.reduced
theorem Sm.frac {x : Rat} (h : Sm x) : Frac x.num x.den := by
  obtain ⟨h1, h2, h3⟩ := h
  exact ⟨by omega, by omega, den_pos x, by omega, rat_gcd x⟩
theorem rnum_rat (n : Int) {d : Nat} (hd : d ≠ 0) : rnum n d = (mkRat n d).num := by
  rw [Rat.num_mkRat, if_neg hd, Nat.gcd_comm]
  rfl
theorem rden_rat (n : Int) {d : Nat} (hd : d ≠ 0) : rden n d = ((mkRat n d).den : Int) := by
  rw [Rat.den_mkRat, if_neg hd, Nat.gcd_comm]
  rfl
/-- What the lowest terms of n / d are. -/
theorem lowest_rat {n d : Int} (hd : 1 ≤ d) (x : Rat) (h : n * x.den = x.num * d) : rnum n d = x.num ∧ rden n d = x.den := by
  have h1 := rnum_eq (n := n) (d := d) (m := x.num) (e := x.den) (by omega) (by have := den_pos x; omega) h
  have h2 : rnum x.num x.den = x.num := by unfold rnum; rw [rat_gcd]; simp
  have h3 : rden x.num x.den = x.den := by unfold rden; rw [rat_gcd]; simp
  rw [h2, h3] at h1
  exact h1
abbrev fuel : Nat := 2305843009213693952
theorem rat_valid {x : Rat} (h : Sm x) : ratio_Valid fuel x.num x.den = some true := rValidR_ok h.frac (by have := h.2.2; unfold fuel; omega)
theorem rat_less {x y : Rat} (h : Sm x) (h' : Sm y) : ratio_Less fuel x.num x.den y.num y.den = some (decide (x < y)) := by
  rw [Less_ok h.frac h'.frac (by have := h.2.2; unfold fuel; omega) (by have := h'.2.2; unfold fuel; omega)]
  congr 1
  rw [decide_eq_decide, Rat.lt_iff]
/-- lowest on a signed numerator. -/
theorem lowest_signed {s : Bool} {N d t : Int} (x : Rat) (hN : 0 ≤ N) (hN2 : N ≤ 1152921504606846976) (hd : 1 ≤ d) (hd2 : d ≤ 1152921504606846976) (ht : t = bif s then -N else N) (hx : t * x.den = x.num * d) : ratio_lowest fuel s 0 N d = some (x.num, (x.den : Int), 0) := by
  rw [lowest_ok hN hN2 hd hd2 (by unfold fuel; omega)]
  have h := lowest_rat hd x hx
  have e1 : (bif s then -rnum N d else rnum N d) = rnum t d := by
    cases s
    · rw [ht]; rfl
    · rw [ht, cond_true, cond_true, rnum_neg]
  have e2 : rden N d = rden t d := by
    cases s
    · rw [ht]; rfl
    · rw [ht, cond_true]; unfold rden; rw [Int.neg_gcd]
  rw [e1, e2, h.1, h.2]
theorem wplus_ok {k : Nat} {u v : Int} (hu : (u.natAbs : Int) ≤ 2305843009213693952) (hv : (v.natAbs : Int) ≤ 2305843009213693952) :
    ∃ s N, ratio_wide_plus k (decide (u < 0)) 0 u.natAbs (decide (v < 0)) 0 v.natAbs = some (s, 0, N) ∧ u + v = (bif s then -N else N) ∧ 0 ≤ N ∧ N ≤ (u.natAbs : Int) + v.natAbs := by
  unfold ratio_wide_plus
  by_cases hs : decide (u < 0) = decide (v < 0)
  · rw [show (decide (u < 0) == decide (v < 0)) = true by rw [hs]; simp, cond_true, gcarry_some (by omega) (by omega) (by omega) (by omega), gcarry_some (by omega) (by omega) (by omega) (by omega)]
    refine ⟨decide (u < 0), (u.natAbs : Int) + v.natAbs, ?_, ?_, by omega, by omega⟩
    · congr 2
      congr 1 <;> omega
    · by_cases h : u < 0
      · have h2 : v < 0 := by rw [decide_eq_true h] at hs; exact of_decide_eq_true hs.symm
        rw [decide_eq_true h, cond_true]; omega
      · have h2 : ¬ v < 0 := by rw [decide_eq_false h] at hs; exact of_decide_eq_false hs.symm
        rw [decide_eq_false h, cond_false]; omega
  · rw [show (decide (u < 0) == decide (v < 0)) = false by simpa using hs, cond_false, wcompare_ok, Option.bind_some]
    have hsgn : u < 0 ∧ ¬ v < 0 ∨ ¬ u < 0 ∧ v < 0 := by
      by_cases h : u < 0 <;> by_cases h2 : v < 0 <;> simp [h, h2] at hs ⊢
    by_cases hlt : (u.natAbs : Int) < v.natAbs
    · rw [if_pos hlt]
      rw [show decide ((-1 : Int) < 0) = true from rfl, cond_true, Option.bind_some]
      simp only [uc_mk]
      rw [if_neg (show ¬ (v.natAbs : Int) < u.natAbs + 0 by omega), gcarry_some (by omega) (by omega) (by omega) (by omega), gle_some (by omega), gcarry_some (by omega) (by omega) (by omega) (by omega), gle_some (by omega)]
      refine ⟨decide (v < 0), (v.natAbs : Int) - u.natAbs, ?_, ?_, by omega, by omega⟩
      · congr 2
        congr 1; omega
      · rcases hsgn with ⟨h1, h2⟩ | ⟨h1, h2⟩
        · rw [decide_eq_false h2, cond_false]; omega
        · rw [decide_eq_true h2, cond_true]; omega
    · rw [if_neg hlt]
      rw [show decide ((if (u.natAbs : Int) = v.natAbs then (0 : Int) else 1) < 0) = false by split <;> rfl, cond_false, Option.bind_some]
      simp only [uc_mk]
      rw [if_neg (show ¬ (u.natAbs : Int) < v.natAbs + 0 by omega), gcarry_some (by omega) (by omega) (by omega) (by omega), gle_some (by omega), gcarry_some (by omega) (by omega) (by omega) (by omega), gle_some (by omega)]
      refine ⟨decide (u < 0), (u.natAbs : Int) - v.natAbs, ?_, ?_, by omega, by omega⟩
      · congr 2
        congr 1; omega
      · rcases hsgn with ⟨h1, h2⟩ | ⟨h1, h2⟩
        · rw [decide_eq_true h1, cond_true]; omega
        · rw [decide_eq_false h1, cond_false]; omega
theorem natAbs_mul_pos (a : Int) {q : Int} (hq : 0 < q) : ((a * q).natAbs : Int) = a.natAbs * q ∧ (a < 0 ↔ a * q < 0) := by
  constructor
  · rw [Int.natAbs_mul]
    rw [Int.natCast_mul]
    congr 1
    omega
  · constructor
    · intro h; exact Int.mul_neg_of_neg_of_pos h hq
    · intro h
      rcases Int.lt_or_le a 0 with h' | h'
      · exact h'
      · have := Int.mul_nonneg h' (Int.le_of_lt hq); omega
/-- The parts of a number by a common divisor. -/
theorem parts {a g : Int} (h : g ∣ a) : a = g * (a / g) := by rw [Int.mul_comm]; exact (Int.ediv_mul_cancel h).symm
theorem div_le {a g : Int} (ha : 0 ≤ a) : 0 ≤ g → 0 ≤ a / g ∧ a / g ≤ a := fun hg => ⟨Int.ediv_nonneg ha hg, Int.ediv_le_self g ha⟩
theorem div_pos_ {a g : Int} (ha : 0 < a) (hg : 0 < g) (h : g ∣ a) : 0 < a / g := by
  have := parts h
  have h1 : 0 ≤ a / g := Int.ediv_nonneg (by omega) (by omega)
  rcases Int.lt_or_le 0 (a / g) with h2 | h2
  · exact h2
  · have h3 : a / g = 0 := by omega
    rw [h3, Int.mul_zero] at this
    omega
theorem mul_hi {a b m n : Int} (h0 : 0 ≤ a) (h1 : a ≤ m) (h2 : 0 ≤ b) (h3 : b ≤ n) : 0 ≤ a * b ∧ a * b ≤ m * n := ⟨Int.mul_nonneg h0 h2, Int.mul_le_mul h1 h3 h2 (by omega)⟩
theorem rat_add {x y : Rat} (hx : Sm x) (hy : Sm y) : ratio_Add fuel x.num x.den y.num y.den = some ((x + y).num, ((x + y).den : Int), 0) := by
  obtain ⟨a1, a2, a3⟩ := id hx
  obtain ⟨b1, b2, b3⟩ := id hy
  have px := den_pos x
  have py := den_pos y
  -- the value of the sum
  have hsum : (x + y).num * (x.den * y.den) = (x.num * y.den + y.num * x.den) * (x + y).den := by
    have h := Rat.add_def' x y
    have h2 : mkRat (x + y).num (x + y).den = mkRat (x.num * y.den + y.num * x.den) (x.den * y.den) := by rw [Rat.mkRat_self, ← h]
    have h3 := (Rat.mkRat_eq_iff (x + y).den_nz (Nat.mul_ne_zero x.den_nz y.den_nz)).1 h2
    rw [Int.natCast_mul] at h3
    exact h3
  unfold ratio_Add
  rw [rat_valid hx, rat_valid hy]
  simp only [Option.bind_some, Bool.not_true, cond_false]
  generalize x.num = a at *
  generalize y.num = c at *
  generalize (x.den : Int) = b at *
  generalize (y.den : Int) = d at *
  rw [wu64 (x := b) (by omega) (by omega), wu64 (x := d) (by omega) (by omega), gcd_ok (by omega) (by omega) (by unfold fuel; omega)]
  have hg := gcd_pos (n := b) (d := d) (by omega)
  have gb : (Int.gcd b d : Int) ∣ b := Int.gcd_dvd_left ..
  have gd : (Int.gcd b d : Int) ∣ d := Int.gcd_dvd_right ..
  have gle : (Int.gcd b d : Int) ≤ b := Int.le_of_dvd (by omega) gb
  generalize (Int.gcd b d : Int) = g at *
  simp only [Option.bind_some]
  rw [gnz_some (by omega), gnz_some (by omega), Int.tdiv_eq_ediv_of_nonneg (by omega), Int.tdiv_eq_ediv_of_nonneg (by omega)]
  have eb := parts gb
  have ed := parts gd
  have hp := div_le (a := b) (g := g) (by omega) (by omega)
  have hq := div_le (a := d) (g := g) (by omega) (by omega)
  have hp0 := div_pos_ (a := b) (by omega) hg gb
  have hq0 := div_pos_ (a := d) (by omega) hg gd
  generalize b / g = p at *
  generalize d / g = q at *
  rw [wu64 (x := p) (by omega) (by omega), wu64 (x := q) (by omega) (by omega), times_ok (by omega) (by omega) (by omega) (by omega), times_ok (by omega) (by omega) (by omega) (by omega)]
  simp only [Option.bind_some, uc_mk]
  have n1 := natAbs_mul_pos a hq0
  have n2 := natAbs_mul_pos c hp0
  have m1 := mul_hi (a := (a.natAbs : Int)) (m := 536870912) (b := q) (n := 536870912) (by omega) (by omega) (by omega) (by omega)
  have m2 := mul_hi (a := (c.natAbs : Int)) (m := 536870912) (b := p) (n := 536870912) (by omega) (by omega) (by omega) (by omega)
  have d1 : decide (a < 0) = decide (a * q < 0) := decide_eq_decide.2 n1.2
  have d2 : decide (c < 0) = decide (c * p < 0) := decide_eq_decide.2 n2.2
  rw [← n1.1] at m1
  rw [← n2.1] at m2
  rw [d1, d2, ← n1.1, ← n2.1]
  obtain ⟨s, N, e1, e2, e3, e4⟩ := wplus_ok (k := fuel) (u := a * q) (v := c * p) (by omega) (by omega)
  rw [e1]
  simp only [Option.bind_some, uc_mk, beq_self_eq_true, cond_true]
  have hN : N ≤ 576460752303423488 := by omega
  -- t is the numerator over g * p * q
  obtain ⟨t, ht⟩ : ∃ t, t = a * q + c * p := ⟨_, rfl⟩
  rw [← ht] at e2
  have hnum : a * d + c * b = g * t := by rw [ht, eb, ed, Int.mul_add]; congr 1 <;> ac_rfl
  rw [hnum] at hsum
  refine Option.some_inj.1 ?_ |> fun h => h
  clear e1 m1 m2 n1 n2 d1 d2
  by_cases hN0 : N = 0
  · rw [hN0]
    have ht0 : t = 0 := by rw [e2, hN0]; cases s <;> rfl
    rw [ht0, Int.mul_zero, Int.zero_mul] at hsum
    have hxy : (x + y).num = 0 := by
      rcases Int.mul_eq_zero.1 hsum with h | h
      · exact h
      · rcases Int.mul_eq_zero.1 h with h | h <;> omega
    have hz : x + y = 0 := Rat.num_eq_zero.1 hxy
    rw [hz]
    rfl
  · rw [show (N == 0) = false by rw [beq_int]; exact decide_eq_false hN0, cond_false, Rem64_ok e3 (by omega) (by omega)]
    have r0 := Int.emod_nonneg N (show g ≠ 0 by omega)
    have r1 := Int.emod_lt_of_pos N (show 0 < g by omega)
    rw [Option.bind_some, gcd_ok (by omega) r0 (by unfold fuel; omega), show Int.gcd g (N % g) = Int.gcd N g by rw [Int.gcd_comm, gcd_emod_ e3 (by omega)]]
    have hc := gcd_pos (n := N) (d := g) hg
    have cN : (Int.gcd N g : Int) ∣ N := Int.gcd_dvd_left ..
    have cg : (Int.gcd N g : Int) ∣ g := Int.gcd_dvd_right ..
    generalize (Int.gcd N g : Int) = f at *
    rw [Option.bind_some, gnz_some (by omega), Int.tdiv_eq_ediv_of_nonneg (by omega)]
    have eN := parts cN
    have eg := parts cg
    have hN' := div_le (a := N) (g := f) e3 (by omega)
    have hg' := div_le (a := g) (g := f) (by omega) (by omega)
    have hg0' := div_pos_ (a := g) hg hc cg
    unfold ratio_wide_over
    rw [Int.zero_tmod, Div64_ok e3 (by omega) (by omega), Int.zero_tdiv]
    generalize N / f = N' at *
    generalize g / f = g' at *
    have m3 := mul_hi (a := g') (m := g) (b := p) (n := p) (by omega) (by omega) (by omega) (by omega)
    rw [← eb] at m3
    have m4 := mul_hi (a := g' * p) (m := b) (b := q) (n := d) (by omega) (by omega) (by omega) (by omega)
    have m5 := mul_hi (a := b) (m := 536870912) (b := d) (n := 536870912) (by omega) (by omega) (by omega) (by omega)
    have m6 : 0 < g' * p * q := Int.mul_pos (Int.mul_pos hg0' hp0) hq0
    rw [wu64 (x := g') (by omega) (by omega), Mul64_ok (by omega) (by omega) (by omega) (by omega)]
    simp only [Option.bind_some, uc_mk, bne_self_eq_false, cond_false]
    rw [Mul64_ok (by omega) (by omega) (by omega) (by omega)]
    simp only [Option.bind_some, uc_mk, bne_self_eq_false, cond_false]
    rw [gnz_some (by omega), gnz_some (by omega)]
    simp only [Option.bind_some, uc_mk]
    rw [wu64 (x := 0) (by omega) (by omega)]
    rw [lowest_signed (x + y) (s := s) (N := N') (d := g' * p * q) (t := bif s then -N' else N') (by omega) (by omega) (by omega) (by omega) rfl ?_]
    · rfl
    · have et : t = f * (bif s then -N' else N') := by rw [e2]; cases s <;> simp only [cond_true, cond_false] <;> rw [eN] <;> (try rw [Int.mul_neg])
      generalize (bif s then -N' else N') = t' at *
      have hfg : 0 < f * g := Int.mul_pos hc hg
      -- (x + y).num * (b * d) = g * t * (x + y).den
      have : t' * ((x + y).den : Int) * (f * g) = (x + y).num * (g' * p * q) * (f * g) := by
        have l1 : t' * ((x + y).den : Int) * (f * g) = g * (f * t') * (x + y).den := by ac_rfl
        have l2 : (x + y).num * (g' * p * q) * (f * g) = (x + y).num * ((g * p) * ((f * g') * q)) := by ac_rfl
        rw [l1, l2, ← et, ← eg, ← eb, ← ed, hsum]
      exact Int.eq_of_mul_eq_mul_right (by omega) this
theorem rat_sub {x y : Rat} (hx : Sm x) (hy : Sm y) : ratio_Sub fuel x.num x.den y.num y.den = some ((x - y).num, ((x - y).den : Int), 0) := by
  have hn : Sm (-y) := ⟨by have := hy.2.1; simp only [Rat.neg_num]; omega, by have := hy.1; simp only [Rat.neg_num]; omega, by simpa using hy.2.2⟩
  obtain ⟨b1, b2, b3⟩ := id hy
  unfold ratio_Sub
  rw [rat_valid hx, rat_valid hy]
  simp only [Option.bind_some, Bool.not_true, cond_false]
  rw [w64 (x := 0 - y.num) (by omega) (by omega), show 0 - y.num = (-y).num by simp, show (y.den : Int) = ((-y).den : Int) by simp, rat_add hx hn, ← Rat.sub_eq_add_neg]
  rfl
end Go.VM
