/- Fractions as rational numbers, up to the greatest numbers: plain reasoning about the printed functions. -/
import Derived.Test.YtdebnihlkdabpaaHPRatioA
import Derived.Test.YtdebnihlkdabpaaPGrid
namespace Go.VM
set_option linter.unusedVariables false
set_option linter.unusedSimpArgs false

theorem fdiv_mask {x : Int} (h1 : 0 ≤ x) (h2 : x ≤ 18446744073709551615) : iand .u64 x 4294967295 = x % 4294967296 := by
  unfold iand
  obtain ⟨n, rfl⟩ : ∃ n : Nat, x = n := ⟨x.toNat, by omega⟩
  have e : (BitVec.ofInt IntKind.u64.bits ((n : Nat) : Int) &&& BitVec.ofInt IntKind.u64.bits 4294967295).toNat = n % 4294967296 := by
    rw [BitVec.toNat_and]
    have e1 : (BitVec.ofInt IntKind.u64.bits ((n : Nat) : Int)).toNat = n := by
      rw [BitVec.toNat_ofInt]
      simp [IntKind.bits]
      omega
    have e2 : (BitVec.ofInt IntKind.u64.bits 4294967295).toNat = 2 ^ 32 - 1 := by decide
    rw [e1, e2, Nat.and_two_pow_sub_one_eq_mod]
  rw [e]
  have : ((n % 4294967296 : Nat) : Int) = (n : Int) % 4294967296 := Int.natCast_emod ..
  rw [this]
  exact wu64 (by omega) (by omega)
theorem wu64_mod (x : Int) (h : 0 ≤ x) : IntKind.wrap .u64 x = x % 18446744073709551616 := by
  simp [IntKind.wrap, IntKind.signed, IntKind.bits]
/-- The product of two words, in two words. -/
theorem Mul64_full {k : Nat} {x y : Int} (hx0 : 0 ≤ x) (hx : x ≤ 18446744073709551615) (hy0 : 0 ≤ y) (hy : y ≤ 18446744073709551615) : math_bits_Mul64 k x y = some (x * y / 18446744073709551616, x * y % 18446744073709551616) := by
  unfold math_bits_Mul64
  simp only [shift32, fdiv32]
  rw [fdiv_mask hx0 hx, fdiv_mask hy0 hy, wu64_mod (x * y) (Int.mul_nonneg hx0 hy0)]
  obtain ⟨a, ha⟩ : ∃ a, a = x / 4294967296 := ⟨_, rfl⟩
  obtain ⟨b, hb⟩ : ∃ b, b = x % 4294967296 := ⟨_, rfl⟩
  obtain ⟨c, hc⟩ : ∃ c, c = y / 4294967296 := ⟨_, rfl⟩
  obtain ⟨d, hd⟩ : ∃ d, d = y % 4294967296 := ⟨_, rfl⟩
  have ex : x = 4294967296 * a + b := by omega
  have ey : y = 4294967296 * c + d := by omega
  rw [← ha, ← hb, ← hc, ← hd]
  have a1 : 0 ≤ a ∧ a ≤ 4294967295 := by omega
  have b1 : 0 ≤ b ∧ b ≤ 4294967295 := by omega
  have c1 : 0 ≤ c ∧ c ≤ 4294967295 := by omega
  have d1 : 0 ≤ d ∧ d ≤ 4294967295 := by omega
  have hxy : x * y = 18446744073709551616 * (a * c) + 4294967296 * (a * d + b * c) + b * d := by
    rw [ex, ey]
    simp only [Int.add_mul, Int.mul_add]
    have e1 : 4294967296 * a * (4294967296 * c) = 18446744073709551616 * (a * c) := by
      rw [show (18446744073709551616 : Int) = 4294967296 * 4294967296 by decide]; ac_rfl
    have e2 : 4294967296 * a * d = 4294967296 * (a * d) := by ac_rfl
    have e3 : b * (4294967296 * c) = 4294967296 * (b * c) := by ac_rfl
    omega
  rw [hxy]
  have m1 : 0 ≤ a * c ∧ a * c ≤ 4294967295 * 4294967295 := ⟨Int.mul_nonneg a1.1 c1.1, Int.mul_le_mul a1.2 c1.2 c1.1 (by omega)⟩
  have m2 : 0 ≤ a * d ∧ a * d ≤ 4294967295 * 4294967295 := ⟨Int.mul_nonneg a1.1 d1.1, Int.mul_le_mul a1.2 d1.2 d1.1 (by omega)⟩
  have m3 : 0 ≤ b * c ∧ b * c ≤ 4294967295 * 4294967295 := ⟨Int.mul_nonneg b1.1 c1.1, Int.mul_le_mul b1.2 c1.2 c1.1 (by omega)⟩
  have m4 : 0 ≤ b * d ∧ b * d ≤ 4294967295 * 4294967295 := ⟨Int.mul_nonneg b1.1 d1.1, Int.mul_le_mul b1.2 d1.2 d1.1 (by omega)⟩
  clear hxy ex ey ha hb hc hd
  generalize a * c = A at *
  generalize a * d = B at *
  generalize b * c = C at *
  generalize b * d = D at *
  rw [wu64 (x := D) (by omega) (by omega), wu64 (x := B) (by omega) (by omega), wu64 (x := A) (by omega) (by omega), wu64 (x := C) (by omega) (by omega), wu64 (x := B + D / 4294967296) (by omega) (by omega), fdiv_mask (x := B + D / 4294967296) (by omega) (by omega)]
  rw [wu64 (x := (B + D / 4294967296) % 4294967296 + C) (by omega) (by omega), wu64 (x := A + (B + D / 4294967296) / 4294967296) (by omega) (by omega), wu64 (by omega) (by omega)]
  congr 2
  omega
theorem Mul64_small {k : Nat} {x y : Int} (hx0 : 0 ≤ x) (hx : x ≤ 18446744073709551615) (hy0 : 0 ≤ y) (hy : y ≤ 18446744073709551615) (h : x * y ≤ 18446744073709551615) : math_bits_Mul64 k x y = some (0, x * y) := by
  rw [Mul64_full hx0 hx hy0 hy]
  have := Int.mul_nonneg hx0 hy0
  generalize x * y = p at *
  rw [show p / 18446744073709551616 = 0 by omega, show p % 18446744073709551616 = p by omega]
theorem times_full {k : Nat} {n b : Int} (h1 : -1152921504606846976 ≤ n) (h2 : n ≤ 1152921504606846976) (h3 : 0 ≤ b) (h4 : b ≤ 1152921504606846976) : ratio_times k n b = some ((n.natAbs : Int) * b / 18446744073709551616, (n.natAbs : Int) * b % 18446744073709551616) := by
  unfold ratio_times
  rw [abs_ok (by omega) (by omega), Option.bind_some, Mul64_full (by omega) (by omega) h3 (by omega)]
  rfl
theorem times_small {k : Nat} {n b : Int} (h1 : -1152921504606846976 ≤ n) (h2 : n ≤ 1152921504606846976) (h3 : 0 ≤ b) (h4 : b ≤ 1152921504606846976) (h : (n.natAbs : Int) * b ≤ 18446744073709551615) : ratio_times k n b = some (0, (n.natAbs : Int) * b) := by
  unfold ratio_times
  rw [abs_ok (by omega) (by omega), Option.bind_some, Mul64_small (by omega) (by omega) h3 (by omega) h]
  rfl
/-- A number that is valid as a fraction. -/
def Sm (x : Rat) : Prop := -1152921504606846976 ≤ x.num ∧ x.num ≤ 1152921504606846976 ∧ (x.den : Int) ≤ 1152921504606846976
theorem den_pos (x : Rat) : (1 : Int) ≤ x.den := by have := x.den_pos; omega
theorem rat_gcd (x : Rat) : Int.gcd x.num (x.den : Int) = 1 := x.reduced
theorem rnum_rat (n : Int) {d : Nat} (hd : d ≠ 0) : rnum n d = (mkRat n d).num := by
  rw [Rat.num_mkRat, if_neg hd, Nat.gcd_comm]
  rfl
theorem rden_rat (n : Int) {d : Nat} (hd : d ≠ 0) : rden n d = ((mkRat n d).den : Int) := by
  rw [Rat.den_mkRat, if_neg hd, Nat.gcd_comm]
  rfl
/-- What the lowest terms of n / d are. -/
theorem lowest_rat {n d : Int} (hd : 1 ≤ d) (x : Rat) (h : n * x.den = x.num * d) : rnum n d = x.num ∧ rden n d = x.den := by
  have h1 := rnum_eq (n := n) (d := d) (m := x.num) (e := x.den) (by omega) (by have := den_pos x; omega) h
  have h2 : rnum x.num x.den = x.num := by unfold rnum; rw [rat_gcd]; simp
  have h3 : rden x.num x.den = x.den := by unfold rden; rw [rat_gcd]; simp
  rw [h2, h3] at h1
  exact h1
abbrev fuel : Nat := 2305843009213693952
theorem rat_valid {x : Rat} (h : Sm x) : ratio_Valid fuel x.num x.den = some true := by
  obtain ⟨h1, h2, h3⟩ := h
  have p := den_pos x
  unfold ratio_Valid
  rw [show decide ((x.den : Int) ≥ 1) = true from decide_eq_true (by omega), show decide ((x.den : Int) ≤ 1152921504606846976) = true from decide_eq_true (by omega), show decide (x.num ≥ -1152921504606846976) = true from decide_eq_true (by omega), show decide (x.num ≤ 1152921504606846976) = true from decide_eq_true (by omega)]
  simp only [blet_mk, Bool.and_true, cond_true]
  rw [abs_ok (by omega) (by omega), wu64 (by omega) (by omega), Option.bind_some, gcd_ok (by omega) (by omega) (by unfold fuel; omega), Option.bind_some, Option.bind_some]
  rw [show Int.gcd (x.num.natAbs : Int) (x.den : Int) = Int.gcd x.num x.den by simp [Int.gcd], rat_gcd]
  rfl
theorem wcompare_full {k : Nat} {s t : Bool} {a b : Int} (ha : 0 ≤ a) (hb : 0 ≤ b) : ratio_wide_compare k s (a / 18446744073709551616) (a % 18446744073709551616) t (b / 18446744073709551616) (b % 18446744073709551616) = some (if a < b then -1 else if a = b then 0 else 1) := by
  unfold ratio_wide_compare
  simp only [blet_mk, bne_int, beq_int]
  by_cases h1 : a / 18446744073709551616 < b / 18446744073709551616
  · rw [if_pos (by omega), decide_eq_true (show a / 18446744073709551616 ≠ b / 18446744073709551616 by omega), decide_eq_true h1]
    rfl
  · rw [decide_eq_false h1, Bool.and_false, cond_false]
    by_cases h2 : a / 18446744073709551616 = b / 18446744073709551616
    · rw [decide_eq_true h2, Bool.true_and, Bool.true_and, Option.bind_some]
      by_cases h3 : a % 18446744073709551616 < b % 18446744073709551616
      · rw [decide_eq_true h3, cond_true, if_pos (by omega)]
      · rw [decide_eq_false h3, cond_false, if_neg (by omega)]
        by_cases h4 : a % 18446744073709551616 = b % 18446744073709551616
        · rw [decide_eq_true h4, cond_true, if_pos (by omega)]
        · rw [decide_eq_false h4, cond_false, if_neg (by omega)]
    · rw [decide_eq_false h2, Bool.false_and, Bool.false_and, Option.bind_some, cond_false, cond_false, if_neg (by omega), if_neg (by omega)]
theorem rat_compare {x y : Rat} (h : Sm x) (h' : Sm y) : ratio_Compare fuel x.num x.den y.num y.den = some (if x < y then -1 else if x = y then 0 else 1) := by
  obtain ⟨h1, h2, h3⟩ := id h
  obtain ⟨g1, g2, g3⟩ := id h'
  have px := den_pos x
  have py := den_pos y
  have el : x < y ↔ x.num * y.den < y.num * x.den := Rat.lt_iff x y
  have ee : x = y ↔ x.num * y.den = y.num * x.den := Rat.eq_iff_mul_eq_mul
  unfold ratio_Compare
  rw [rat_valid h, rat_valid h', wu64 (x := (x.den : Int)) (by omega) (by omega), wu64 (x := (y.den : Int)) (by omega) (by omega), times_full h1 h2 (by omega) (by omega), times_full g1 g2 (by omega) (by omega)]
  simp only [Option.bind_some, Bool.not_true, cond_false, uc_mk, blet_mk]
  rw [show (if x < y then (-1 : Int) else if x = y then 0 else 1) = (if x.num * y.den < y.num * x.den then -1 else if x.num * y.den = y.num * x.den then 0 else 1) by simp only [el, ee]]
  clear el ee
  generalize x.num = a at *
  generalize y.num = c at *
  generalize (x.den : Int) = b at *
  generalize (y.den : Int) = d at *
  by_cases ha : a < 0
  · have na : ((a.natAbs : Nat) : Int) = -a := by omega
    rw [decide_eq_true ha]
    by_cases hc : c < 0
    · have nc : ((c.natAbs : Nat) : Int) = -c := by omega
      have p1 : 0 ≤ -a * d := Int.mul_nonneg (by omega) (by omega)
      have p2 : 0 ≤ -c * b := Int.mul_nonneg (by omega) (by omega)
      rw [decide_eq_true hc, na, nc, wcompare_full p2 p1, Int.neg_mul, Int.neg_mul]
      simp only [Bool.not_true, Bool.and_false, cond_false, cond_true, Option.bind_some]
      congr 1
      split <;> split <;> (first | (split <;> (try split) <;> omega) | omega)
    · have p1 : a * d < 0 := Int.mul_neg_of_neg_of_pos ha (by omega)
      have p2 : 0 ≤ c * b := Int.mul_nonneg (by omega) (by omega)
      rw [decide_eq_false hc, if_pos (by omega)]
      simp
  · have na : ((a.natAbs : Nat) : Int) = a := by omega
    rw [decide_eq_false ha]
    by_cases hc : c < 0
    · have p1 : 0 ≤ a * d := Int.mul_nonneg (by omega) (by omega)
      have p2 : c * b < 0 := Int.mul_neg_of_neg_of_pos hc (by omega)
      rw [decide_eq_true hc, if_neg (by omega), if_neg (by omega)]
      simp
    · have nc : ((c.natAbs : Nat) : Int) = c := by omega
      have p1 : 0 ≤ a * d := Int.mul_nonneg (by omega) (by omega)
      have p2 : 0 ≤ c * b := Int.mul_nonneg (by omega) (by omega)
      rw [decide_eq_false hc, na, nc]
      simp only [Bool.not_false, Bool.and_true, Bool.false_and, cond_false]
      rw [wcompare_full p1 p2]
      rfl
theorem rat_less {x y : Rat} (h : Sm x) (h' : Sm y) : ratio_Less fuel x.num x.den y.num y.den = some (decide (x < y)) := by
  unfold ratio_Less
  rw [rat_compare h h', Option.bind_some]
  by_cases h : x < y
  · rw [if_pos h, decide_eq_true h]; rfl
  · rw [if_neg h, decide_eq_false h]
    split <;> rfl
/-- lowest on a signed numerator. -/
theorem lowest_signed {s : Bool} {N d t : Int} (x : Rat) (hN : 0 ≤ N) (hN2 : N ≤ 1152921504606846976) (hd : 1 ≤ d) (hd2 : d ≤ 1152921504606846976) (ht : t = bif s then -N else N) (hx : t * x.den = x.num * d) : ratio_lowest fuel s 0 N d = some (x.num, (x.den : Int), 0) := by
  rw [lowest_ok hN hN2 hd hd2 (by unfold fuel; omega)]
  have h := lowest_rat hd x hx
  have e1 : (bif s then -rnum N d else rnum N d) = rnum t d := by
    cases s
    · rw [ht]; rfl
    · rw [ht, cond_true, cond_true, rnum_neg]
  have e2 : rden N d = rden t d := by
    cases s
    · rw [ht]; rfl
    · rw [ht, cond_true]; unfold rden; rw [Int.neg_gcd]
  rw [e1, e2, h.1, h.2]
theorem wplus_ok {k : Nat} {u v : Int} (hu : (u.natAbs : Int) ≤ 2305843009213693952) (hv : (v.natAbs : Int) ≤ 2305843009213693952) :
    ∃ s N, ratio_wide_plus k (decide (u < 0)) 0 u.natAbs (decide (v < 0)) 0 v.natAbs = some (s, 0, N) ∧ u + v = (bif s then -N else N) ∧ 0 ≤ N ∧ N ≤ (u.natAbs : Int) + v.natAbs := by
  unfold ratio_wide_plus
  by_cases hs : decide (u < 0) = decide (v < 0)
  · rw [show (decide (u < 0) == decide (v < 0)) = true by rw [hs]; simp, cond_true, gcarry_some (by omega) (by omega) (by omega) (by omega), gcarry_some (by omega) (by omega) (by omega) (by omega)]
    refine ⟨decide (u < 0), (u.natAbs : Int) + v.natAbs, ?_, ?_, by omega, by omega⟩
    · congr 2
      congr 1 <;> omega
    · by_cases h : u < 0
      · have h2 : v < 0 := by rw [decide_eq_true h] at hs; exact of_decide_eq_true hs.symm
        rw [decide_eq_true h, cond_true]; omega
      · have h2 : ¬ v < 0 := by rw [decide_eq_false h] at hs; exact of_decide_eq_false hs.symm
        rw [decide_eq_false h, cond_false]; omega
  · rw [show (decide (u < 0) == decide (v < 0)) = false by simpa using hs, cond_false, wcompare_ok, Option.bind_some]
    have hsgn : u < 0 ∧ ¬ v < 0 ∨ ¬ u < 0 ∧ v < 0 := by
      by_cases h : u < 0 <;> by_cases h2 : v < 0 <;> simp [h, h2] at hs ⊢
    by_cases hlt : (u.natAbs : Int) < v.natAbs
    · rw [if_pos hlt]
      rw [show decide ((-1 : Int) < 0) = true from rfl, cond_true, Option.bind_some]
      simp only [uc_mk]
      rw [if_neg (show ¬ (v.natAbs : Int) < u.natAbs + 0 by omega), gcarry_some (by omega) (by omega) (by omega) (by omega), gle_some (by omega), gcarry_some (by omega) (by omega) (by omega) (by omega), gle_some (by omega)]
      refine ⟨decide (v < 0), (v.natAbs : Int) - u.natAbs, ?_, ?_, by omega, by omega⟩
      · congr 2
        congr 1; omega
      · rcases hsgn with ⟨h1, h2⟩ | ⟨h1, h2⟩
        · rw [decide_eq_false h2, cond_false]; omega
        · rw [decide_eq_true h2, cond_true]; omega
    · rw [if_neg hlt]
      rw [show decide ((if (u.natAbs : Int) = v.natAbs then (0 : Int) else 1) < 0) = false by split <;> rfl, cond_false, Option.bind_some]
      simp only [uc_mk]
      rw [if_neg (show ¬ (u.natAbs : Int) < v.natAbs + 0 by omega), gcarry_some (by omega) (by omega) (by omega) (by omega), gle_some (by omega), gcarry_some (by omega) (by omega) (by omega) (by omega), gle_some (by omega)]
      refine ⟨decide (u < 0), (u.natAbs : Int) - v.natAbs, ?_, ?_, by omega, by omega⟩
      · congr 2
        congr 1; omega
      · rcases hsgn with ⟨h1, h2⟩ | ⟨h1, h2⟩
        · rw [decide_eq_true h1, cond_true]; omega
        · rw [decide_eq_false h1, cond_false]; omega
theorem natAbs_mul_pos (a : Int) {q : Int} (hq : 0 < q) : ((a * q).natAbs : Int) = a.natAbs * q ∧ (a < 0 ↔ a * q < 0) := by
  constructor
  · rw [Int.natAbs_mul]
    rw [Int.natCast_mul]
    congr 1
    omega
  · constructor
    · intro h; exact Int.mul_neg_of_neg_of_pos h hq
    · intro h
      rcases Int.lt_or_le a 0 with h' | h'
      · exact h'
      · have := Int.mul_nonneg h' (Int.le_of_lt hq); omega
/-- The parts of a number by a common divisor. -/
theorem parts {a g : Int} (h : g ∣ a) : a = g * (a / g) := by rw [Int.mul_comm]; exact (Int.ediv_mul_cancel h).symm
theorem div_le {a g : Int} (ha : 0 ≤ a) : 0 ≤ g → 0 ≤ a / g ∧ a / g ≤ a := fun hg => ⟨Int.ediv_nonneg ha hg, Int.ediv_le_self g ha⟩
theorem div_pos_ {a g : Int} (ha : 0 < a) (hg : 0 < g) (h : g ∣ a) : 0 < a / g := by
  have := parts h
  have h1 : 0 ≤ a / g := Int.ediv_nonneg (by omega) (by omega)
  rcases Int.lt_or_le 0 (a / g) with h2 | h2
  · exact h2
  · have h3 : a / g = 0 := by omega
    rw [h3, Int.mul_zero] at this
    omega
theorem mul_hi {a b m n : Int} (h0 : 0 ≤ a) (h1 : a ≤ m) (h2 : 0 ≤ b) (h3 : b ≤ n) : 0 ≤ a * b ∧ a * b ≤ m * n := ⟨Int.mul_nonneg h0 h2, Int.mul_le_mul h1 h3 h2 (by omega)⟩
/-- The numbers that are met where two numbers are added. -/
structure Ad (x y : Rat) : Prop where
  sx : Sm x
  sy : Sm y
  u : (x.num.natAbs : Int) * ((y.den : Int) / (Int.gcd x.den y.den : Int)) ≤ 576460752303423488
  v : (y.num.natAbs : Int) * ((x.den : Int) / (Int.gcd x.den y.den : Int)) ≤ 576460752303423488
  d : (x.den : Int) * ((y.den : Int) / (Int.gcd x.den y.den : Int)) ≤ 1152921504606846976
theorem rat_add {x y : Rat} (h : Ad x y) : ratio_Add fuel x.num x.den y.num y.den = some ((x + y).num, ((x + y).den : Int), 0) := by
  obtain ⟨hx, hy, hu, hv, hdd⟩ := h
  obtain ⟨a1, a2, a3⟩ := id hx
  obtain ⟨b1, b2, b3⟩ := id hy
  have px := den_pos x
  have py := den_pos y
  -- the value of the sum
  have hsum : (x + y).num * (x.den * y.den) = (x.num * y.den + y.num * x.den) * (x + y).den := by
    have h := Rat.add_def' x y
    have h2 : mkRat (x + y).num (x + y).den = mkRat (x.num * y.den + y.num * x.den) (x.den * y.den) := by rw [Rat.mkRat_self, ← h]
    have h3 := (Rat.mkRat_eq_iff (x + y).den_nz (Nat.mul_ne_zero x.den_nz y.den_nz)).1 h2
    rw [Int.natCast_mul] at h3
    exact h3
  unfold ratio_Add
  rw [rat_valid hx, rat_valid hy]
  simp only [Option.bind_some, Bool.not_true, cond_false]
  generalize x.num = a at *
  generalize y.num = c at *
  generalize (x.den : Int) = b at *
  generalize (y.den : Int) = d at *
  rw [wu64 (x := b) (by omega) (by omega), wu64 (x := d) (by omega) (by omega), gcd_ok (by omega) (by omega) (by unfold fuel; omega)]
  have hg := gcd_pos (n := b) (d := d) (by omega)
  have gb : (Int.gcd b d : Int) ∣ b := Int.gcd_dvd_left ..
  have gd : (Int.gcd b d : Int) ∣ d := Int.gcd_dvd_right ..
  have gle : (Int.gcd b d : Int) ≤ b := Int.le_of_dvd (by omega) gb
  generalize (Int.gcd b d : Int) = g at *
  simp only [Option.bind_some]
  rw [gnz_some (by omega), gnz_some (by omega), Int.tdiv_eq_ediv_of_nonneg (by omega), Int.tdiv_eq_ediv_of_nonneg (by omega)]
  have eb := parts gb
  have ed := parts gd
  have hp := div_le (a := b) (g := g) (by omega) (by omega)
  have hq := div_le (a := d) (g := g) (by omega) (by omega)
  have hp0 := div_pos_ (a := b) (by omega) hg gb
  have hq0 := div_pos_ (a := d) (by omega) hg gd
  generalize b / g = p at *
  generalize d / g = q at *
  rw [wu64 (x := p) (by omega) (by omega), wu64 (x := q) (by omega) (by omega), times_small (by omega) (by omega) (by omega) (by omega) (by omega), times_small (by omega) (by omega) (by omega) (by omega) (by omega)]
  simp only [Option.bind_some, uc_mk]
  have n1 := natAbs_mul_pos a hq0
  have n2 := natAbs_mul_pos c hp0
  have d1 : decide (a < 0) = decide (a * q < 0) := decide_eq_decide.2 n1.2
  have d2 : decide (c < 0) = decide (c * p < 0) := decide_eq_decide.2 n2.2
  rw [← n1.1] at hu
  rw [← n2.1] at hv
  rw [d1, d2, ← n1.1, ← n2.1]
  obtain ⟨s, N, e1, e2, e3, e4⟩ := wplus_ok (k := fuel) (u := a * q) (v := c * p) (by omega) (by omega)
  rw [e1]
  simp only [Option.bind_some, uc_mk, beq_self_eq_true, cond_true]
  have hN : N ≤ 1152921504606846976 := by omega
  -- t is the numerator over g * p * q
  obtain ⟨t, ht⟩ : ∃ t, t = a * q + c * p := ⟨_, rfl⟩
  rw [← ht] at e2
  have hnum : a * d + c * b = g * t := by rw [ht, eb, ed, Int.mul_add]; congr 1 <;> ac_rfl
  rw [hnum] at hsum
  clear e1 n1 n2 d1 d2
  by_cases hN0 : N = 0
  · rw [hN0]
    have ht0 : t = 0 := by rw [e2, hN0]; cases s <;> rfl
    rw [ht0, Int.mul_zero, Int.zero_mul] at hsum
    have hxy : (x + y).num = 0 := by
      rcases Int.mul_eq_zero.1 hsum with h | h
      · exact h
      · rcases Int.mul_eq_zero.1 h with h | h <;> omega
    have hz : x + y = 0 := Rat.num_eq_zero.1 hxy
    rw [hz]
    rfl
  · rw [show (N == 0) = false by rw [beq_int]; exact decide_eq_false hN0, cond_false, Rem64_ok e3 (by omega) (by omega)]
    have r0 := Int.emod_nonneg N (show g ≠ 0 by omega)
    have r1 := Int.emod_lt_of_pos N (show 0 < g by omega)
    rw [Option.bind_some, gcd_ok (by omega) r0 (by unfold fuel; omega), show Int.gcd g (N % g) = Int.gcd N g by rw [Int.gcd_comm, gcd_emod_ e3 (by omega)]]
    have hc := gcd_pos (n := N) (d := g) hg
    have cN : (Int.gcd N g : Int) ∣ N := Int.gcd_dvd_left ..
    have cg : (Int.gcd N g : Int) ∣ g := Int.gcd_dvd_right ..
    generalize (Int.gcd N g : Int) = f at *
    rw [Option.bind_some, gnz_some (by omega), Int.tdiv_eq_ediv_of_nonneg (by omega)]
    have eN := parts cN
    have eg := parts cg
    have hN' := div_le (a := N) (g := f) e3 (by omega)
    have hg' := div_le (a := g) (g := f) (by omega) (by omega)
    have hg0' := div_pos_ (a := g) hg hc cg
    unfold ratio_wide_over
    rw [Int.zero_tmod, Div64_ok e3 (by omega) (by omega), Int.zero_tdiv]
    generalize N / f = N' at *
    generalize g / f = g' at *
    have m3 := mul_hi (a := g') (m := g) (b := p) (n := p) (by omega) (by omega) (by omega) (by omega)
    rw [← eb] at m3
    have m4 := mul_hi (a := g' * p) (m := b) (b := q) (n := q) (by omega) (by omega) (by omega) (by omega)
    have m6 : 0 < g' * p * q := Int.mul_pos (Int.mul_pos hg0' hp0) hq0
    rw [wu64 (x := g') (by omega) (by omega), Mul64_small (by omega) (by omega) (by omega) (by omega) (by omega)]
    simp only [Option.bind_some, uc_mk, bne_self_eq_false, cond_false]
    rw [Mul64_small (by omega) (by omega) (by omega) (by omega) (by omega)]
    simp only [Option.bind_some, uc_mk, bne_self_eq_false, cond_false]
    rw [gnz_some (by omega), gnz_some (by omega)]
    simp only [Option.bind_some, uc_mk]
    rw [wu64 (x := 0) (by omega) (by omega)]
    rw [lowest_signed (x + y) (s := s) (N := N') (d := g' * p * q) (t := bif s then -N' else N') (by omega) (by omega) (by omega) (by omega) rfl ?_]
    · rfl
    · have et : t = f * (bif s then -N' else N') := by rw [e2]; cases s <;> simp only [cond_true, cond_false] <;> rw [eN] <;> (try rw [Int.mul_neg])
      generalize (bif s then -N' else N') = t' at *
      have hfg : 0 < f * g := Int.mul_pos hc hg
      have : t' * ((x + y).den : Int) * (f * g) = (x + y).num * (g' * p * q) * (f * g) := by
        have l1 : t' * ((x + y).den : Int) * (f * g) = g * (f * t') * (x + y).den := by ac_rfl
        have l2 : (x + y).num * (g' * p * q) * (f * g) = (x + y).num * ((g * p) * ((f * g') * q)) := by ac_rfl
        rw [l1, l2, ← et, ← eg, ← eb, ← ed, hsum]
      exact Int.eq_of_mul_eq_mul_right (by omega) this
theorem rat_sub {x y : Rat} (h : Ad x (-y)) : ratio_Sub fuel x.num x.den y.num y.den = some ((x - y).num, ((x - y).den : Int), 0) := by
  have hx := h.sx
  have hn := h.sy
  have hy : Sm y := ⟨by have := hn.2.1; simp only [Rat.neg_num] at this; omega, by have := hn.1; simp only [Rat.neg_num] at this; omega, by simpa using hn.2.2⟩
  obtain ⟨b1, b2, b3⟩ := id hy
  unfold ratio_Sub
  rw [rat_valid hx, rat_valid hy]
  simp only [Option.bind_some, Bool.not_true, cond_false]
  rw [w64 (x := 0 - y.num) (by omega) (by omega), show 0 - y.num = (-y).num by simp, show (y.den : Int) = ((-y).den : Int) by simp, rat_add h, ← Rat.sub_eq_add_neg]
  rfl
theorem natAbs_div {a g : Int} (h : g ∣ a) (hg : 0 < g) : ((a.natAbs : Int) / g) = ((a / g).natAbs : Int) := by
  have e := parts h
  generalize a / g = q at *
  rw [e, Int.natAbs_mul, Int.natCast_mul, show ((g.natAbs : Nat) : Int) = g by omega, Int.mul_ediv_cancel_left _ (by omega)]
/-- The numbers that are met where two numbers are multiplied. -/
structure Mu (x y : Rat) : Prop where
  sx : Sm x
  sy : Sm y
  n : (x.num.natAbs : Int) * y.num.natAbs ≤ 1152921504606846976
  d : (x.den : Int) * y.den ≤ 1152921504606846976
theorem rat_mul {x y : Rat} (hm : Mu x y) : ratio_Mul fuel x.num x.den y.num y.den = some ((x * y).num, ((x * y).den : Int), 0) := by
  obtain ⟨hx, hy, hnn, hdd⟩ := hm
  obtain ⟨a1, a2, a3⟩ := id hx
  obtain ⟨b1, b2, b3⟩ := id hy
  have px := den_pos x
  have py := den_pos y
  have hprod : (x * y).num * (x.den * y.den) = (x.num * y.num) * (x * y).den := by
    have h := Rat.mul_def' x y
    have h2 : mkRat (x * y).num (x * y).den = mkRat (x.num * y.num) (x.den * y.den) := by rw [Rat.mkRat_self, ← h]
    have h3 := (Rat.mkRat_eq_iff (x * y).den_nz (Nat.mul_ne_zero x.den_nz y.den_nz)).1 h2
    rw [Int.natCast_mul] at h3
    exact h3
  unfold ratio_Mul
  rw [rat_valid hx, rat_valid hy]
  simp only [Option.bind_some, Bool.not_true, cond_false]
  generalize x.num = a at *
  generalize y.num = c at *
  generalize (x.den : Int) = b at *
  generalize (y.den : Int) = d at *
  rw [abs_ok (by omega) (by omega), abs_ok (by omega) (by omega), wu64 (x := b) (by omega) (by omega), wu64 (x := d) (by omega) (by omega)]
  simp only [Option.bind_some]
  rw [gcd_ok (by omega) (by omega) (by unfold fuel; omega)]
  simp only [Option.bind_some]
  rw [gcd_ok (by omega) (by omega) (by unfold fuel; omega)]
  simp only [Option.bind_some]
  rw [show Int.gcd (a.natAbs : Int) d = Int.gcd a d by simp [Int.gcd], show Int.gcd (c.natAbs : Int) b = Int.gcd c b by simp [Int.gcd]]
  have hg := gcd_pos (n := a) (d := d) (by omega)
  have hh := gcd_pos (n := c) (d := b) (by omega)
  have ga : (Int.gcd a d : Int) ∣ a := Int.gcd_dvd_left ..
  have gd : (Int.gcd a d : Int) ∣ d := Int.gcd_dvd_right ..
  have hc : (Int.gcd c b : Int) ∣ c := Int.gcd_dvd_left ..
  have hb : (Int.gcd c b : Int) ∣ b := Int.gcd_dvd_right ..
  have gle : (Int.gcd a d : Int) ≤ d := Int.le_of_dvd (by omega) gd
  have hle : (Int.gcd c b : Int) ≤ b := Int.le_of_dvd (by omega) hb
  generalize (Int.gcd a d : Int) = g at *
  generalize (Int.gcd c b : Int) = h at *
  rw [w64 (x := g) (by omega) (by omega), gnz_some (by omega), gnz_some (by omega), Int.tdiv_eq_ediv_of_dvd ga, Int.tdiv_eq_ediv_of_nonneg (a := (c.natAbs : Int)) (by omega), Int.tdiv_eq_ediv_of_nonneg (a := b) (by omega), Int.tdiv_eq_ediv_of_nonneg (a := d) (by omega), natAbs_div hc hh]
  have ea := parts ga
  have ed := parts gd
  have ec := parts hc
  have eb := parts hb
  have hd' := div_le (a := d) (g := g) (by omega) (by omega)
  have hb' := div_le (a := b) (g := h) (by omega) (by omega)
  have hd0 := div_pos_ (a := d) (by omega) hg gd
  have hb0 := div_pos_ (a := b) (by omega) hh hb
  have za : ((a / g).natAbs : Int) ≤ a.natAbs := by
    rw [← natAbs_div ga hg]; exact Int.ediv_le_self _ (by omega)
  have zc : ((c / h).natAbs : Int) ≤ c.natAbs := by
    rw [← natAbs_div hc hh]; exact Int.ediv_le_self _ (by omega)
  have sc : c < 0 ↔ c / h < 0 := by
    have := (natAbs_mul_pos (c / h) hh).2
    rw [Int.mul_comm, ← ec] at this
    exact this.symm
  generalize a / g = a' at *
  generalize c / h = c' at *
  generalize b / h = b' at *
  generalize d / g = d' at *
  have m1 := mul_hi (a := (a'.natAbs : Int)) (m := (a.natAbs : Int)) (b := (c'.natAbs : Int)) (n := (c.natAbs : Int)) (by omega) (by omega) (by omega) (by omega)
  have m2 := mul_hi (a := b') (m := b) (b := d') (n := d) (by omega) (by omega) (by omega) (by omega)
  have m3 : 0 < b' * d' := Int.mul_pos hb0 hd0
  rw [w64 (x := a') (by omega) (by omega), wu64 (x := (c'.natAbs : Int)) (by omega) (by omega), times_small (by omega) (by omega) (by omega) (by omega) (by omega), wu64 (x := b') (by omega) (by omega), wu64 (x := d') (by omega) (by omega), Mul64_small (by omega) (by omega) (by omega) (by omega) (by omega)]
  simp only [Option.bind_some, uc_mk]
  rw [gnz_some (by omega), gnz_some (by omega)]
  simp only [Option.bind_some, uc_mk, bne_self_eq_false, cond_false]
  have hd : decide (c < 0) = decide (c' < 0) := decide_eq_decide.2 sc
  rw [hd, lowest_signed (x * y) (t := a' * c') m1.1 (by omega) (by omega) (by omega) ?_ ?_]
  · rfl
  · by_cases h1 : a' < 0 <;> by_cases h2 : c' < 0
    · rw [decide_eq_true h1, decide_eq_true h2, show ((a'.natAbs : Nat) : Int) = -a' by omega, show ((c'.natAbs : Nat) : Int) = -c' by omega, Int.neg_mul_neg]; rfl
    · rw [decide_eq_true h1, decide_eq_false h2, show ((a'.natAbs : Nat) : Int) = -a' by omega, show ((c'.natAbs : Nat) : Int) = c' by omega, Int.neg_mul]; simp
    · rw [decide_eq_false h1, decide_eq_true h2, show ((a'.natAbs : Nat) : Int) = a' by omega, show ((c'.natAbs : Nat) : Int) = -c' by omega, Int.mul_neg]; simp
    · rw [decide_eq_false h1, decide_eq_false h2, show ((a'.natAbs : Nat) : Int) = a' by omega, show ((c'.natAbs : Nat) : Int) = c' by omega]; rfl
  · have hfg : 0 < g * h := Int.mul_pos hg hh
    have : a' * c' * ((x * y).den : Int) * (g * h) = (x * y).num * (b' * d') * (g * h) := by
      have l1 : a' * c' * ((x * y).den : Int) * (g * h) = (g * a') * (h * c') * (x * y).den := by ac_rfl
      have l2 : (x * y).num * (b' * d') * (g * h) = (x * y).num * ((h * b') * (g * d')) := by ac_rfl
      rw [l1, l2, ← ea, ← ec, ← eb, ← ed, hprod]
    exact Int.eq_of_mul_eq_mul_right (by omega) this
/-- The numbers that are met where one number is divided by another. -/
structure Di (x y : Rat) : Prop where
  sx : Sm x
  sy : Sm y
  z : y ≠ 0
  n : (x.num.natAbs : Int) * y.den ≤ 1152921504606846976
  d : (x.den : Int) * y.num.natAbs ≤ 1152921504606846976
theorem inv_num {y : Rat} (h0 : y ≠ 0) : ((y⁻¹).num.natAbs : Int) = y.den ∧ ((y⁻¹).den : Int) = y.num.natAbs := by
  have hn0 : y.num ≠ 0 := fun h => h0 (Rat.num_eq_zero.1 h)
  constructor
  · rw [Rat.num_inv, Int.natAbs_mul, Int.natAbs_sign_of_ne_zero hn0]
    simp
  · rw [Rat.den_inv, if_neg hn0]
theorem rat_div {x y : Rat} (h : Di x y) : ratio_Div fuel x.num x.den y.num y.den = some ((x / y).num, ((x / y).den : Int), 0) := by
  obtain ⟨hx, hy, h0, hnn, hdd⟩ := h
  obtain ⟨b1, b2, b3⟩ := id hy
  have py := den_pos y
  have hn0 : y.num ≠ 0 := fun h => h0 (Rat.num_eq_zero.1 h)
  have hi := inv_num h0
  have hd : ((y⁻¹).den : Int) = y.num.natAbs := hi.2
  have hn : (y⁻¹).num = y.num.sign * y.den := Rat.num_inv y
  have hinv : Sm y⁻¹ := by
    unfold Sm
    rw [hn, hd]
    rcases Int.lt_trichotomy y.num 0 with h | h | h
    · rw [Int.sign_eq_neg_one_of_neg h]; omega
    · exact absurd h hn0
    · rw [Int.sign_eq_one_of_pos h]; omega
  unfold ratio_Div
  rw [rat_valid hx, rat_valid hy]
  simp only [Option.bind_some, Bool.not_true, cond_false]
  rw [show (y.num == 0) = false by rw [beq_int]; exact decide_eq_false hn0, cond_false]
  have key : (bif decide (y.num < 0) then some (IntKind.wrap .i64 (0 - (y.den : Int)), IntKind.wrap .i64 (0 - y.num)) else some ((y.den : Int), y.num) : Option (Int × Int)) = some ((y⁻¹).num, ((y⁻¹).den : Int)) := by
    rw [hn, hd]
    by_cases h : y.num < 0
    · rw [decide_eq_true h, cond_true, w64 (by omega) (by omega), w64 (by omega) (by omega), Int.sign_eq_neg_one_of_neg h]
      congr 2 <;> omega
    · rw [decide_eq_false h, cond_false, Int.sign_eq_one_of_pos (by omega)]
      congr 2 <;> omega
  rw [key]
  simp only [Option.bind_some, uc_mk]
  rw [rat_mul ⟨hx, hinv, by rw [hi.1]; exact hnn, by rw [hd]; exact hdd⟩, ← Rat.div_def]
  rfl

/-! ### numbers on grids -/
theorem grid_sm {D B : Nat} {v : Rat} (h : Grid D B v) (hD : D ≠ 0) (h1 : D ≤ 1152921504606846976) (h2 : B ≤ 1152921504606846976) : Sm v := by
  have := h.num hD
  exact ⟨by omega, by omega, by omega⟩
theorem grid_den {D B : Nat} {v : Rat} (hD : D ≠ 0) (h : Grid D B v) : ∃ t : Nat, D = v.den * t ∧ v.num.natAbs * t ≤ B := by
  obtain ⟨n, rfl, hn⟩ := h.mk hD
  rw [Rat.num_mkRat, Rat.den_mkRat, if_neg hD, if_neg hD]
  have g1 : D.gcd n.natAbs ∣ D := Nat.gcd_dvd_left ..
  have hg : ((D.gcd n.natAbs : Nat) : Int) ∣ n := Int.ofNat_dvd_left.2 (Nat.gcd_dvd_right ..)
  refine ⟨D.gcd n.natAbs, (Nat.div_mul_cancel g1).symm, ?_⟩
  rw [Int.natAbs_ediv_of_dvd hg, Int.natAbs_natCast, Nat.div_mul_cancel (Nat.gcd_dvd_right ..)]
  exact hn
theorem grid_neg {D B : Nat} {v : Rat} (h : Grid D B v) : Grid D B (-v) := by
  obtain ⟨n, e, hn⟩ := h
  exact ⟨-n, by rw [Rat.intCast_neg, ← e]; grind, by omega⟩
theorem Ad.of {D B C : Nat} {x y : Rat} (hx : Grid D B x) (hy : Grid D C y) (hD : D ≠ 0) (h1 : D ≤ 1152921504606846976) (h2 : B ≤ 576460752303423488) (h3 : C ≤ 576460752303423488) : Ad x y := by
  obtain ⟨s, es, hs⟩ := grid_den hD hx
  obtain ⟨t, et, ht⟩ := grid_den hD hy
  have gpos : 0 < x.den.gcd y.den := Nat.gcd_pos_of_pos_left _ x.den_pos
  have gx : x.den.gcd y.den ∣ x.den := Nat.gcd_dvd_left ..
  have gy : x.den.gcd y.den ∣ y.den := Nat.gcd_dvd_right ..
  have hg : (Int.gcd (x.den : Int) (y.den : Int) : Int) = ((x.den.gcd y.den : Nat) : Int) := rfl
  have hcop := Nat.coprime_div_gcd_div_gcd gpos
  have e1 : x.den = x.den.gcd y.den * (x.den / x.den.gcd y.den) := (Nat.mul_div_cancel' gx).symm
  have e2 : y.den = x.den.gcd y.den * (y.den / x.den.gcd y.den) := (Nat.mul_div_cancel' gy).symm
  have c1 : (y.den : Int) / (x.den.gcd y.den : Nat) = ((y.den / x.den.gcd y.den : Nat) : Int) := (Int.natCast_ediv ..).symm
  have c2 : (x.den : Int) / (x.den.gcd y.den : Nat) = ((x.den / x.den.gcd y.den : Nat) : Int) := (Int.natCast_ediv ..).symm
  -- the other's part divides what is left
  have hq : y.den / x.den.gcd y.den ∣ s := by
    have h : x.den * s = y.den * t := by rw [← es, ← et]
    have h2 : x.den / x.den.gcd y.den * s = y.den / x.den.gcd y.den * t := by
      apply Nat.eq_of_mul_eq_mul_left gpos
      rw [← Nat.mul_assoc, ← Nat.mul_assoc, ← e1, ← e2, h]
    exact hcop.symm.dvd_of_dvd_mul_left ⟨t, h2⟩
  have hp : x.den / x.den.gcd y.den ∣ t := by
    have h : x.den * s = y.den * t := by rw [← es, ← et]
    have h2 : x.den / x.den.gcd y.den * s = y.den / x.den.gcd y.den * t := by
      apply Nat.eq_of_mul_eq_mul_left gpos
      rw [← Nat.mul_assoc, ← Nat.mul_assoc, ← e1, ← e2, h]
    exact hcop.dvd_of_dvd_mul_left ⟨s, h2.symm⟩
  have s0 : 0 < s := by rcases Nat.eq_zero_or_pos s with h | h; · rw [h] at es; omega
                        · exact h
  have t0 : 0 < t := by rcases Nat.eq_zero_or_pos t with h | h; · rw [h] at et; omega
                        · exact h
  have qs := Nat.le_of_dvd s0 hq
  have pt := Nat.le_of_dvd t0 hp
  refine ⟨grid_sm hx hD h1 (by omega), grid_sm hy hD h1 (by omega), ?_, ?_, ?_⟩
  · rw [hg, c1, ← Int.natCast_mul]
    have := Nat.mul_le_mul_left x.num.natAbs qs
    omega
  · rw [hg, c2, ← Int.natCast_mul]
    have := Nat.mul_le_mul_left y.num.natAbs pt
    omega
  · rw [hg, c1, ← Int.natCast_mul]
    have := Nat.mul_le_mul_left x.den qs
    omega
theorem Mu.of {D B E C : Nat} {x y : Rat} (hx : Grid D B x) (hy : Grid E C y) (hD : D ≠ 0) (hE : E ≠ 0) (h1 : D * E ≤ 1152921504606846976) (h2 : B * C ≤ 1152921504606846976) (h3 : B ≤ 1152921504606846976) (h4 : C ≤ 1152921504606846976) : Mu x y := by
  have nx := hx.num hD
  have ny := hy.num hE
  have a1 : D * 1 ≤ D * E := Nat.mul_le_mul_left D (by omega)
  have a2 : 1 * E ≤ D * E := Nat.mul_le_mul_right E (by omega)
  refine ⟨grid_sm hx hD (by omega) h3, grid_sm hy hE (by omega) h4, ?_, ?_⟩
  · rw [← Int.natCast_mul]
    have := Nat.mul_le_mul nx.1 ny.1
    omega
  · rw [← Int.natCast_mul]
    have := Nat.mul_le_mul nx.2 ny.2
    omega
theorem Di.of {D B E C : Nat} {x y : Rat} (hx : Grid D B x) (hy : Grid E C y) (hD : D ≠ 0) (hE : E ≠ 0) (h0 : y ≠ 0) (h1 : B * E ≤ 1152921504606846976) (h2 : D * C ≤ 1152921504606846976) (h3 : B ≤ 1152921504606846976) (h4 : C ≤ 1152921504606846976) (h5 : D ≤ 1152921504606846976) (h6 : E ≤ 1152921504606846976) : Di x y := by
  have nx := hx.num hD
  have ny := hy.num hE
  refine ⟨grid_sm hx hD h5 h3, grid_sm hy hE h6 h4, h0, ?_, ?_⟩
  · rw [← Int.natCast_mul]
    have := Nat.mul_le_mul nx.1 ny.2
    omega
  · rw [← Int.natCast_mul]
    have := Nat.mul_le_mul nx.2 ny.1
    omega
end Go.VM
