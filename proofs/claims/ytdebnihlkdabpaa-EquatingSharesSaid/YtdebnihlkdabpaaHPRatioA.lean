/- Fractions of small numbers: plain reasoning about the printed functions. -/
import Derived.Test.YtdebnihlkdabpaaHFuns
import Derived.Test.YtdebnihlkdabpaaEngV
import Derived.Test.YtdebnihlkdabpaaEngW
namespace Go.VM
set_option linter.unusedVariables false
set_option linter.unusedSimpArgs false

theorem gcarry_some {R : Type} {x y c : Int} {o : Option R} (hx : 0 ≤ x) (hy : 0 ≤ y) (hc : 0 ≤ c) (hc1 : c ≤ 1) : gcarry x y c o = o := by
  unfold gcarry; simp [hx, hy, hc, hc1]
theorem gle_some {R : Type} {x y : Int} {o : Option R} (h : x ≤ y) : gle x y o = o := by
  unfold gle; simp [h]
theorem wu64 {x : Int} (h1 : 0 ≤ x) (h2 : x ≤ 18446744073709551615) : IntKind.wrap .u64 x = x := by
  simp [IntKind.wrap, IntKind.signed, IntKind.bits]; omega
theorem iand_mask {x : Int} (h1 : 0 ≤ x) (h2 : x ≤ 4294967295) : iand .u64 x 4294967295 = x := by
  unfold iand
  obtain ⟨n, rfl⟩ : ∃ n : Nat, x = n := ⟨x.toNat, by omega⟩
  have e : (BitVec.ofInt IntKind.u64.bits ((n : Nat) : Int) &&& BitVec.ofInt IntKind.u64.bits 4294967295).toNat = n := by
    rw [BitVec.toNat_and]
    have e1 : (BitVec.ofInt IntKind.u64.bits ((n : Nat) : Int)).toNat = n := by
      rw [BitVec.toNat_ofInt]
      simp [IntKind.bits]
      omega
    have e2 : (BitVec.ofInt IntKind.u64.bits 4294967295).toNat = 2 ^ 32 - 1 := by decide
    rw [e1, e2, Nat.and_two_pow_sub_one_eq_mod]
    exact Nat.mod_eq_of_lt (by omega)
  rw [e]
  exact wu64 (by omega) (by omega)
theorem shift32 : ((2 : Int) ^ (min (Int.toNat 32) (IntKind.bits .u64))) = 4294967296 := by decide
theorem fdiv32 (x : Int) : Int.fdiv x 4294967296 = x / 4294967296 := Int.fdiv_eq_ediv_of_nonneg x (by omega)
theorem Mul64_ok {k : Nat} {x y : Int} (hx0 : 0 ≤ x) (hx : x ≤ 4294967295) (hy0 : 0 ≤ y) (hy : y ≤ 4294967295) : math_bits_Mul64 k x y = some (0, x * y) := by
  have p0 := Int.mul_nonneg hx0 hy0
  have p1 : x * y ≤ 4294967295 * 4294967295 := Int.mul_le_mul hx hy hy0 (by omega)
  unfold math_bits_Mul64
  simp only [shift32, fdiv32]
  rw [show x / 4294967296 = 0 by omega, show y / 4294967296 = 0 by omega, iand_mask hx0 hx, iand_mask hy0 hy]
  rw [wu64 (x := x * y) p0 (by omega)]
  simp only [Int.zero_mul, Int.mul_zero, Int.zero_add]
  rw [wu64 (x := 0) (by omega) (by omega)]
  simp only [Int.zero_add]
  have q0 : 0 ≤ x * y / 4294967296 ∧ x * y / 4294967296 ≤ 4294967295 := by omega
  rw [wu64 (x := x * y / 4294967296) q0.1 (by omega), iand_mask q0.1 q0.2]
  simp only [Int.add_zero, Int.zero_add]
  rw [show x * y / 4294967296 / 4294967296 = 0 by omega, wu64 (x := x * y / 4294967296) q0.1 (by omega), show x * y / 4294967296 / 4294967296 = 0 by omega]
  rfl
theorem Div64_ok {k : Nat} {lo y : Int} (h0 : 0 ≤ lo) (h1 : lo ≤ 18446744073709551615) (hy : 1 ≤ y) : math_bits_Div64 k 0 lo y = some (lo / y, lo % y) := by
  unfold math_bits_Div64
  rw [show (y == 0) = false by rw [beq_int]; simp; omega, cond_false, dec_le_f (by omega), cond_false]
  simp only [beq_self_eq_true, cond_true]
  rw [gnz_some (by omega), gnz_some (by omega), Int.tdiv_eq_ediv_of_nonneg h0, Int.tmod_eq_emod_of_nonneg h0, wu64 (Int.ediv_nonneg h0 (by omega)) (Int.le_trans (Int.ediv_le_self y h0) h1)]
where
  dec_le_f {a b : Int} (h : b < a) : decide (a ≤ b) = false := decide_eq_false (by omega)
theorem Rem64_ok {k : Nat} {lo y : Int} (h0 : 0 ≤ lo) (h1 : lo ≤ 18446744073709551615) (hy : 1 ≤ y) : math_bits_Rem64 k 0 lo y = some (lo % y) := by
  unfold math_bits_Rem64
  rw [gnz_some (by omega), Int.zero_tmod, Div64_ok h0 h1 hy]
  rfl
theorem abs_ok {k : Nat} {n : Int} (h : -9223372036854775807 ≤ n) (h2 : n ≤ 9223372036854775807) : ratio_abs k n = some (n.natAbs : Int) := by
  unfold ratio_abs
  by_cases hn : n < 0
  · rw [decide_eq_true hn, cond_true, w64 (by omega) (by omega), wu64 (by omega) (by omega)]
    congr 1; omega
  · rw [decide_eq_false hn, cond_false, wu64 (by omega) (by omega)]
    congr 1; omega
theorem gcd_emod_ {a b : Int} (ha : 0 ≤ a) (hb : 0 ≤ b) : Int.gcd (a % b) b = Int.gcd a b := by
  obtain ⟨m, rfl⟩ : ∃ n : Nat, a = n := ⟨a.toNat, by omega⟩
  obtain ⟨n, rfl⟩ : ∃ n : Nat, b = n := ⟨b.toNat, by omega⟩
  rw [← Int.natCast_emod]
  show Nat.gcd (m % n) n = Nat.gcd m n
  rw [← Nat.gcd_rec, Nat.gcd_comm]
theorem gcd_ok {k : Nat} {a b : Int} (ha : 0 ≤ a) (hb : 0 ≤ b) (hk : b.toNat < k) : ratio_gcd k a b = some (Int.gcd a b : Int) := by
  apply Ok.eq
  unfold ratio_gcd
  refine Ok.bind (Q := fun r => r = (Int.gcd a b : Int)) (ok_loop (fun s => 0 ≤ s.1 ∧ 0 ≤ s.2 ∧ Int.gcd s.1 s.2 = Int.gcd a b) (fun s => s.2.toNat) ⟨ha, hb, rfl⟩ hk ?_) fun r hr => Ok.ret hr
  intro again s hs hag
  obtain ⟨x, y⟩ := s
  obtain ⟨g1, g2, g3⟩ := hs
  simp only at g1 g2 g3
  simp only [ratio_gcd_b1, uc_mk]
  refine ok_bif (fun hc => ?_) fun hc => ?_
  · have hy : y ≠ 0 := by simpa using hc
    refine ok_nz hy ?_
    rw [Int.tmod_eq_emod_of_nonneg g1]
    have h1 := Int.emod_nonneg x hy
    have h2 := Int.emod_lt_of_pos x (show 0 < y by omega)
    refine hag _ ⟨g2, h1, ?_⟩ (by dsimp only; omega)
    dsimp only
    rw [← g3, Int.gcd_comm y, gcd_emod_ g1 g2]
  · have hy : y = 0 := by simpa using hc
    subst hy
    refine Ok.ret ?_
    rw [← g3]
    simp
    omega
/-- The parts of a fraction in lowest terms. -/
def rnum (n d : Int) : Int := n / (Int.gcd n d : Int)
def rden (n d : Int) : Int := d / (Int.gcd n d : Int)
theorem gcd_pos {n d : Int} (hd : 0 < d) : 0 < (Int.gcd n d : Int) := by
  have := Int.gcd_pos_of_ne_zero_right n (b := d) (by omega)
  omega
theorem rnum_mul {n d : Int} : rnum n d * (Int.gcd n d : Int) = n := Int.ediv_mul_cancel (Int.gcd_dvd_left ..)
theorem rden_mul {n d : Int} : rden n d * (Int.gcd n d : Int) = d := Int.ediv_mul_cancel (Int.gcd_dvd_right ..)
theorem rden_pos {n d : Int} (hd : 0 < d) : 0 < rden n d := by
  have h1 := gcd_pos (n := n) hd
  have h2 := rden_mul (n := n) (d := d)
  refine Int.pos_of_mul_pos_left ?_ h1
  omega
where
  Int.pos_of_mul_pos_left {a b : Int} (h : 0 < a * b) (hb : 0 < b) : 0 < a := by
    rcases Int.lt_or_le 0 a with h' | h'
    · exact h'
    · have := Int.mul_le_mul_of_nonneg_right h' (Int.le_of_lt hb)
      omega
theorem rden_le {n d : Int} (hd : 0 < d) : rden n d ≤ d := Int.ediv_le_self _ (by omega)
theorem rnum_le {n d : Int} (hn : 0 ≤ n) : 0 ≤ rnum n d ∧ rnum n d ≤ n := ⟨Int.ediv_nonneg hn (by omega), Int.ediv_le_self _ hn⟩
theorem rgcd {n d : Int} (hd : 0 < d) : Int.gcd (rnum n d) (rden n d) = 1 := by
  unfold rnum rden
  exact Int.gcd_ediv_gcd_ediv_gcd (by have := gcd_pos (n := n) hd; omega)
theorem rnum_neg {n d : Int} : rnum (-n) d = -rnum n d := by
  unfold rnum
  rw [Int.neg_gcd, Int.neg_ediv_of_dvd (Int.gcd_dvd_left ..)]
/-- The value of a fraction in lowest terms is that of the fraction. -/
theorem rcross {n d : Int} : rnum n d * d = n * rden n d := by
  have h1 := rnum_mul (n := n) (d := d)
  have h2 := rden_mul (n := n) (d := d)
  generalize rnum n d = p at *
  generalize rden n d = q at *
  generalize (Int.gcd n d : Int) = g at *
  rw [← h2, ← h1, Int.mul_assoc, Int.mul_comm g q]
theorem lowest_ok {k : Nat} {s : Bool} {n d : Int} (hn : 0 ≤ n) (hn2 : n ≤ 1152921504606846976) (hd : 1 ≤ d) (hd2 : d ≤ 1152921504606846976) (hk : d.toNat < k) : ratio_lowest k s 0 n d = some (bif s then -rnum n d else rnum n d, rden n d, 0) := by
  unfold ratio_lowest
  have m0 := Int.emod_nonneg n (show d ≠ 0 by omega)
  have m1 := Int.emod_lt_of_pos n (show 0 < d by omega)
  rw [Rem64_ok hn (by omega) hd, Option.bind_some, gcd_ok (by omega) m0 (by omega), Option.bind_some]
  rw [show Int.gcd d (n % d) = Int.gcd n d by rw [Int.gcd_comm, gcd_emod_ hn (by omega)]]
  have hg := gcd_pos (n := n) (d := d) (by omega)
  have hr1 := rnum_le (d := d) hn
  have hr2 := rden_le (n := n) (d := d) (by omega)
  have hr3 := rden_pos (n := n) (d := d) (by omega)
  have e1 : n / (Int.gcd n d : Int) = rnum n d := rfl
  have e2 : d / (Int.gcd n d : Int) = rden n d := rfl
  unfold ratio_wide_over
  rw [gnz_some (by omega), gnz_some (by omega), Int.zero_tmod, Div64_ok hn (by omega) (by omega), Int.zero_tdiv, Int.tdiv_eq_ediv_of_nonneg (by omega), e1, e2]
  simp only [Option.bind_some, uc_mk]
  rw [gnz_some (by omega)]
  simp only [Option.bind_some, uc_mk]
  rw [wu64 (x := 0) (by omega) (by omega), bne_self_eq_false, cond_false, wu64 (x := rden n d) (by omega) (by omega)]
  simp only [Option.bind_some, uc_mk, blet_mk]
  rw [show decide (rnum n d > 1152921504606846976) = false from decide_eq_false (by omega), show decide (rden n d > 1152921504606846976) = false from decide_eq_false (by omega)]
  simp only [Bool.or_false, cond_false]
  rw [w64 (x := rnum n d) (by omega) (by omega), w64 (x := 0 - rnum n d) (by omega) (by omega), w64 (x := rden n d) (by omega) (by omega)]
  cases s
  · simp
  · simp
/-- A fraction in lowest terms of small numbers. -/
def Frac (n d : Int) : Prop := -2147483647 ≤ n ∧ n ≤ 2147483647 ∧ 1 ≤ d ∧ d ≤ 2147483647 ∧ Int.gcd n d = 1
theorem frac_new {n d : Int} (h0 : 0 ≤ n) (h1 : n ≤ 2147483647) (h2 : 1 ≤ d) (h3 : d ≤ 2147483647) : Frac (rnum n d) (rden n d) := by
  have hr1 := rnum_le (d := d) h0
  have hr2 := rden_le (n := n) (d := d) (by omega)
  have hr3 := rden_pos (n := n) (d := d) (by omega)
  exact ⟨by omega, by omega, by omega, by omega, rgcd (by omega)⟩
theorem rValidR_ok {k : Nat} {n d : Int} (h : Frac n d) (hk : d.toNat < k) : ratio_Valid k n d = some true := by
  obtain ⟨h1, h2, h3, h4, h5⟩ := h
  unfold ratio_Valid
  rw [show decide (d ≥ 1) = true from decide_eq_true (by omega), show decide (d ≤ 1152921504606846976) = true from decide_eq_true (by omega), show decide (n ≥ -1152921504606846976) = true from decide_eq_true (by omega), show decide (n ≤ 1152921504606846976) = true from decide_eq_true (by omega)]
  simp only [blet_mk, Bool.and_true, cond_true]
  rw [abs_ok (by omega) (by omega), wu64 (by omega) (by omega), Option.bind_some, gcd_ok (by omega) (by omega) hk, Option.bind_some, Option.bind_some]
  rw [show Int.gcd (n.natAbs : Int) d = Int.gcd n d by simp [Int.gcd], h5]
  rfl
theorem times_ok {k : Nat} {n b : Int} (h1 : -4294967295 ≤ n) (h2 : n ≤ 4294967295) (h3 : 0 ≤ b) (h4 : b ≤ 4294967295) : ratio_times k n b = some (0, (n.natAbs : Int) * b) := by
  unfold ratio_times
  rw [abs_ok (by omega) (by omega), Option.bind_some, Mul64_ok (by omega) (by omega) h3 h4]
  rfl
theorem wcompare_ok {k : Nat} {s t : Bool} {a b : Int} : ratio_wide_compare k s 0 a t 0 b = some (if a < b then -1 else if a = b then 0 else 1) := by
  unfold ratio_wide_compare
  simp only [blet_mk, bne_self_eq_false, Bool.false_and, cond_false, beq_self_eq_true, Bool.true_and, Option.bind_some]
  by_cases h : a < b
  · rw [decide_eq_true h, cond_true, if_pos h]
  · rw [decide_eq_false h, cond_false, if_neg h, beq_int]
    by_cases h' : a = b
    · rw [decide_eq_true h', cond_true, if_pos h']
    · rw [decide_eq_false h', cond_false, if_neg h']
theorem Compare_ok {k : Nat} {a b c d : Int} (h : Frac a b) (h' : Frac c d) (hk : b.toNat < k) (hk' : d.toNat < k) : ratio_Compare k a b c d = some (if a * d < c * b then -1 else if a * d = c * b then 0 else 1) := by
  obtain ⟨h1, h2, h3, h4, h5⟩ := id h
  obtain ⟨g1, g2, g3, g4, g5⟩ := id h'
  unfold ratio_Compare
  rw [rValidR_ok h hk, rValidR_ok h' hk', wu64 (x := b) (by omega) (by omega), wu64 (x := d) (by omega) (by omega), times_ok (by omega) (by omega) (by omega) (by omega), times_ok (by omega) (by omega) (by omega) (by omega)]
  simp only [Option.bind_some, Bool.not_true, cond_false, uc_mk, blet_mk]
  by_cases ha : a < 0
  · have na : ((a.natAbs : Nat) : Int) = -a := by omega
    rw [decide_eq_true ha]
    by_cases hc : c < 0
    · have nc : ((c.natAbs : Nat) : Int) = -c := by omega
      rw [decide_eq_true hc, na, nc, wcompare_ok, Int.neg_mul, Int.neg_mul]
      simp only [Bool.not_true, Bool.and_false, cond_false, cond_true, Option.bind_some]
      congr 1
      split <;> split <;> (first | (split <;> (try split) <;> omega) | omega)
    · have p1 : a * d < 0 := Int.mul_neg_of_neg_of_pos ha (by omega)
      have p2 : 0 ≤ c * b := Int.mul_nonneg (by omega) (by omega)
      rw [decide_eq_false hc, if_pos (by omega)]
      simp
  · have na : ((a.natAbs : Nat) : Int) = a := by omega
    rw [decide_eq_false ha]
    by_cases hc : c < 0
    · have p1 : 0 ≤ a * d := Int.mul_nonneg (by omega) (by omega)
      have p2 : c * b < 0 := Int.mul_neg_of_neg_of_pos hc (by omega)
      rw [decide_eq_true hc, if_neg (by omega), if_neg (by omega)]
      simp
    · have nc : ((c.natAbs : Nat) : Int) = c := by omega
      rw [decide_eq_false hc, na, nc]
      simp [wcompare_ok]
theorem Less_ok {k : Nat} {a b c d : Int} (h : Frac a b) (h' : Frac c d) (hk : b.toNat < k) (hk' : d.toNat < k) : ratio_Less k a b c d = some (decide (a * d < c * b)) := by
  unfold ratio_Less
  rw [Compare_ok h h' hk hk', Option.bind_some]
  by_cases h : a * d < c * b
  · rw [if_pos h, decide_eq_true h]; rfl
  · rw [if_neg h, decide_eq_false h]
    split <;> rfl
/-- A fraction in lowest terms is less than another just as the fractions are. -/
theorem rless {n d m e : Int} (hd : 0 < d) (he : 0 < e) : rnum n d * rden m e < rnum m e * rden n d ↔ n * e < m * d := by
  have c1 := rcross (n := n) (d := d)
  have c2 := rcross (n := m) (d := e)
  have p1 := rden_pos (n := n) hd
  have p2 := rden_pos (n := m) he
  generalize rnum n d = a at *
  generalize rden n d = b at *
  generalize rnum m e = c at *
  generalize rden m e = f at *
  -- a/b = n/d, c/f = m/e
  have hp : 0 < d * e := Int.mul_pos hd he
  have hq : 0 < b * f := Int.mul_pos p1 p2
  have e1 : a * f * (d * e) = n * e * (b * f) := by
    rw [show a * f * (d * e) = (a * d) * (f * e) by ac_rfl, c1]; ac_rfl
  have e2 : c * b * (d * e) = m * d * (b * f) := by
    rw [show c * b * (d * e) = (c * e) * (b * d) by ac_rfl, c2]; ac_rfl
  constructor
  · intro h
    have := Int.mul_lt_mul_of_pos_right h hp
    rw [e1, e2] at this
    exact Int.lt_of_mul_lt_mul_right this (Int.le_of_lt hq)
  · intro h
    have := Int.mul_lt_mul_of_pos_right h hq
    rw [← e1, ← e2] at this
    exact Int.lt_of_mul_lt_mul_right this (Int.le_of_lt hp)
theorem rlessl {n d m e : Int} (hd : 0 < d) : rnum n d * e < m * rden n d ↔ n * e < m * d := by
  have c1 := rcross (n := n) (d := d)
  have p1 := rden_pos (n := n) hd
  generalize rnum n d = a at *
  generalize rden n d = b at *
  have e1 : a * e * d = n * e * b := by rw [show a * e * d = (a * d) * e by ac_rfl, c1]; ac_rfl
  have e2 : m * b * d = m * d * b := by ac_rfl
  constructor
  · intro h
    have := Int.mul_lt_mul_of_pos_right h hd
    rw [e1, e2] at this
    exact Int.lt_of_mul_lt_mul_right this (Int.le_of_lt p1)
  · intro h
    have := Int.mul_lt_mul_of_pos_right h p1
    rw [← e1, ← e2] at this
    exact Int.lt_of_mul_lt_mul_right this (Int.le_of_lt hd)
theorem rlessr {n d m e : Int} (hd : 0 < d) : m * rden n d < rnum n d * e ↔ m * d < n * e := by
  have c1 := rcross (n := n) (d := d)
  have p1 := rden_pos (n := n) hd
  generalize rnum n d = a at *
  generalize rden n d = b at *
  have e1 : a * e * d = n * e * b := by rw [show a * e * d = (a * d) * e by ac_rfl, c1]; ac_rfl
  have e2 : m * b * d = m * d * b := by ac_rfl
  constructor
  · intro h
    have := Int.mul_lt_mul_of_pos_right h hd
    rw [e1, e2] at this
    exact Int.lt_of_mul_lt_mul_right this (Int.le_of_lt p1)
  · intro h
    have := Int.mul_lt_mul_of_pos_right h p1
    rw [← e1, ← e2] at this
    exact Int.lt_of_mul_lt_mul_right this (Int.le_of_lt hd)
theorem rnum_le_rden {n d : Int} (hd : 0 < d) (h : n ≤ d) : rnum n d ≤ rden n d := by
  have := rlessr (n := n) (d := d) (m := 1) (e := 1) hd
  simp only [Int.one_mul, Int.mul_one] at this
  omega
theorem coprime_dvd {a b c : Int} (h : Int.gcd b a = 1) (hd : b ∣ a * c) : b ∣ c := by
  rw [← Int.natAbs_dvd_natAbs] at hd ⊢
  rw [Int.natAbs_mul] at hd
  exact Nat.Coprime.dvd_of_dvd_mul_left (show Nat.Coprime b.natAbs a.natAbs from h) hd
theorem rnum_eq {n d m e : Int} (hd : 0 < d) (he : 0 < e) (h : n * e = m * d) : rnum n d = rnum m e ∧ rden n d = rden m e := by
  -- both are in lowest terms
  have g1 := rgcd (n := n) hd
  have g2 := rgcd (n := m) he
  have p1 := rden_pos (n := n) hd
  have p2 := rden_pos (n := m) he
  have hx : rnum n d * rden m e = rnum m e * rden n d := by
    have a1 := rless (n := n) (m := m) hd he
    have a2 := rless (n := m) (m := n) he hd
    omega
  generalize rnum n d = a at *
  generalize rden n d = b at *
  generalize rnum m e = c at *
  generalize rden m e = f at *
  have hb : b = f := by
    have d1 : b ∣ f := by
      have : b ∣ a * f := ⟨c, by rw [hx, Int.mul_comm]⟩
      exact coprime_dvd (by rw [Int.gcd_comm]; exact g1) this
    have d2 : f ∣ b := by
      have : f ∣ c * b := ⟨a, by rw [← hx, Int.mul_comm]⟩
      exact coprime_dvd (by rw [Int.gcd_comm]; exact g2) this
    exact Int.dvd_antisymm (by omega) (by omega) d1 d2
  subst hb
  exact ⟨Int.eq_of_mul_eq_mul_right (by omega) hx, rfl⟩
end Go.VM
