/- Percentile equating: the points of the curve. Plain mathematics. -/
import Derived.Test.YtdebnihlkdabpaaHPPercD
namespace Go.VM
set_option linter.unusedVariables false
set_option linter.unusedSimpArgs false

theorem sixty {c : Int} (h1 : 1 ≤ c) (h6 : c ≤ 6) : ∃ g : Int, c * g = 60 ∧ 1 ≤ g ∧ g ≤ 60 := by
  have : c = 1 ∨ c = 2 ∨ c = 3 ∨ c = 4 ∨ c = 5 ∨ c = 6 := by omega
  rcases this with rfl | rfl | rfl | rfl | rfl | rfl
  · exact ⟨60, by decide, by decide, by decide⟩
  · exact ⟨30, by decide, by decide, by decide⟩
  · exact ⟨20, by decide, by decide, by decide⟩
  · exact ⟨15, by decide, by decide, by decide⟩
  · exact ⟨12, by decide, by decide, by decide⟩
  · exact ⟨10, by decide, by decide, by decide⟩
theorem natAbs_mul_le {a g b : Int} (hg : 0 ≤ g) (h1 : -b ≤ a) (h2 : a ≤ b) : (a * g).natAbs ≤ (b * g).toNat := by
  have := Int.mul_le_mul_of_nonneg_right h1 hg
  have := Int.mul_le_mul_of_nonneg_right h2 hg
  rw [Int.neg_mul] at *
  omega
theorem At.grid {c m i a z : Int} {X : Rat} (hc : 1 ≤ c) (hc6 : c ≤ 6) (hm : 1 ≤ m) (hi : 1 ≤ i) (hi7 : i ≤ 7) (h1 : a ≤ z) (h2 : z ≤ a + c * m) (h : At c m i a z X) : Grid (120 * m.toNat) (840 * m.toNat) X := by
  obtain ⟨g, hg, hg1, hg60⟩ := sixty hc hc6
  unfold At at h
  obtain ⟨u, hu⟩ : ∃ u, u = c * m := ⟨_, rfl⟩
  have u0 : 0 < u := by rw [hu]; exact Int.mul_pos (by omega) (by omega)
  rw [← hu] at h h2
  have e : ((120 * m.toNat : Nat) : Rat) = ((2 * u : Int) : Rat) * (g : Rat) := by
    rw [← Rat.intCast_mul, ← Rat.intCast_natCast]
    congr 1
    have : 2 * u * g = 2 * (c * g) * m := by rw [hu]; ac_rfl
    rw [this, hg]
    omega
  refine ⟨((2 * i - 3) * u + 2 * (z - a)) * g, ?_, ?_⟩
  · rw [e, ← Rat.mul_assoc, h, Rat.intCast_mul]
  · have b1 : (2 * i - 3) * u ≤ 11 * u := Int.mul_le_mul_of_nonneg_right (by omega) (by omega)
    have b2 : (-1) * u ≤ (2 * i - 3) * u := Int.mul_le_mul_of_nonneg_right (by omega) (by omega)
    have b3 := natAbs_mul_le (a := (2 * i - 3) * u + 2 * (z - a)) (g := g) (b := 13 * u) (by omega) (by omega) (by omega)
    have b4 : 13 * u * g = 780 * m := by
      have : 13 * u * g = 13 * (c * g) * m := by rw [hu]; ac_rfl
      rw [this, hg]; omega
    rw [b4] at b3
    omega
theorem slope_grid {s : Rat} {c m d n : Int} (hc : 1 ≤ c) (hc6 : c ≤ 6) (hd : 1 ≤ d) (hd6 : d ≤ 6) (hm : 1 ≤ m) (hm42 : m ≤ 42) (hn : 1 ≤ n) (h : s * ((d * n : Int) : Rat) = ((c * m : Int) : Rat)) : Grid (60 * n.toNat) 15120 s := by
  obtain ⟨g, hg, hg1, hg60⟩ := sixty hd hd6
  have e : ((60 * n.toNat : Nat) : Rat) = ((d * n : Int) : Rat) * (g : Rat) := by
    rw [← Rat.intCast_mul, ← Rat.intCast_natCast]
    congr 1
    have : d * n * g = d * g * n := by ac_rfl
    rw [this, hg]
    omega
  refine ⟨c * m * g, by rw [e, ← Rat.mul_assoc, h, ← Rat.intCast_mul], ?_⟩
  have b1 := mul_hi (show 0 ≤ c by omega) hc6 (show 0 ≤ m by omega) hm42
  have b2 := mul_hi b1.1 b1.2 (show 0 ≤ g by omega) hg60
  omega
theorem Slopes.snoc {P : Rat → Prop} {e p : Pt} : ∀ {L : List Pt}, Slopes P L → L.getLast? = some p → P (slope p e) → Slopes P (L ++ [e])
  | [], _, h, _ => by simp at h
  | [q], _, h, h1 => by
    simp only [List.getLast?_singleton, Option.some.injEq] at h
    subst h
    exact ⟨h1, trivial⟩
  | q :: r :: L, hS, h, h1 => ⟨hS.1, Slopes.snoc (L := r :: L) hS.2 (by simpa using h) h1⟩

/-- Y is the place of the share z in y, from the left. -/
def Sh (y : List Int) (n : Int) (z : Int) (Y : Rat) : Prop := ∃ k : Nat, 1 ≤ k ∧ k ≤ y.length ∧ Pl y n k z Y ∧ z ≤ cum y k * n ∧ (cum y (k - 1) * n < z ∨ (k = 1 ∧ z = 0))
structure Grown (x y : List Int) (i k : Nat) (C : List Pt) : Prop where
  asc : Asc C
  ss : Slopes (Grid (60 * x.sum.toNat) 15120) C
  xs : ∀ P ∈ C, Grid (120 * y.sum.toNat) (840 * y.sum.toNat) P.X
  ys : ∀ P ∈ C, Grid (120 * x.sum.toNat) (840 * x.sum.toNat) P.Y
  last : ∃ (P : Pt) (z : Int), C.getLast? = some P ∧ (i ≤ x.length → Pl x y.sum i z P.X ∧ cum x (i - 1) * y.sum ≤ z ∧ z < cum x i * y.sum) ∧ (k ≤ y.length → Pl y x.sum k z P.Y ∧ cum y (k - 1) * x.sum ≤ z ∧ z < cum y k * x.sum)
  ends : i = x.length + 1 ↔ k = y.length + 1
  found : ∀ j, j < i → ∃ P ∈ C, P.X * 2 = ((2 * (j : Int) - 1 : Int) : Rat) ∧ Sh y x.sum (cum x j * y.sum) P.Y
  lo : i ≤ C.length
  hi : C.length + 1 ≤ i + k
theorem Full.step {d : List Int} (h : Full d) {i : Nat} (hi : 1 ≤ i) (hl : i ≤ d.length) (m : Int) : Go.VM.cum d i * m = Go.VM.cum d (i - 1) * m + d.getD (i - 1) 0 * m := by
  have := cum_succ (d := d) (i := i - 1) (by omega)
  rw [show i - 1 + 1 = i by omega] at this
  rw [this, Int.add_mul]
theorem Full.plgrid {d : List Int} (h : Full d) {m : Int} (hm : 1 ≤ m) {i : Nat} (hi : 1 ≤ i) (hl : i ≤ d.length) {z : Int} {X : Rat} (hp : Pl d m i z X) (h1 : Go.VM.cum d (i - 1) * m ≤ z) (h2 : z ≤ Go.VM.cum d i * m) : Grid (120 * m.toNat) (840 * m.toNat) X := by
  have ho := h.one (i := i - 1) (by omega)
  have hl7 := h.len
  rw [h.step hi hl] at h2
  exact At.grid ho.1 ho.2 hm (by omega) (by omega) h1 h2 hp
/-- One more point. -/
theorem Grown.more {x y : List Int} (hx : Full x) (hy : Full y) {i k : Nat} {C : List Pt} (h : Grown x y i k C) (hi : 1 ≤ i) (hk : 1 ≤ k) (hil : i ≤ x.length) (hkl : k ≤ y.length) {z' : Int} {e : Pt} (h1 : Pl x y.sum i z' e.X) (h2 : Pl y x.sum k z' e.Y) (hz : cum x i * y.sum = z' ∨ cum y k * x.sum = z') (ha : z' ≤ cum x i * y.sum) (hb : z' ≤ cum y k * x.sum) :
    Asc (C ++ [e]) ∧ Slopes (Grid (60 * x.sum.toNat) 15120) (C ++ [e]) ∧ (∀ P ∈ C ++ [e], Grid (120 * y.sum.toNat) (840 * y.sum.toNat) P.X) ∧ (∀ P ∈ C ++ [e], Grid (120 * x.sum.toNat) (840 * x.sum.toNat) P.Y) ∧ cum x (i - 1) * y.sum < z' ∧ cum y (k - 1) * x.sum < z' := by
  obtain ⟨P, z, l1, l2, l3⟩ := h.last
  obtain ⟨p1, p2, p3⟩ := l2 hil
  obtain ⟨q1, q2, q3⟩ := l3 hkl
  have hzz : z < z' := by omega
  have ox := hx.one (i := i - 1) (by omega)
  have oy := hy.one (i := k - 1) (by omega)
  have sx := hx.sum
  have sy := hy.sum
  have px := hx.pos
  have py := hy.pos
  have c0 : 0 < x.getD (i - 1) 0 * y.sum := Int.mul_pos (by omega) (by omega)
  have d0 : 0 < y.getD (k - 1) 0 * x.sum := Int.mul_pos (by omega) (by omega)
  have g1 := At.lt c0 p1 h1 hzz
  have g2 := At.lt d0 q1 h2 hzz
  refine ⟨Asc.snoc h.asc l1 g1.1 g2.1, Slopes.snoc h.ss l1 ?_, fun Q hQ => ?_, fun Q hQ => ?_, by omega, by omega⟩
  · exact slope_grid (c := x.getD (i - 1) 0) (m := y.sum) (d := y.getD (k - 1) 0) (n := x.sum) (by omega) (by omega) (by omega) (by omega) (by omega) (by omega) (by omega) (At.slope c0 d0 p1 h1 q1 h2 hzz)
  · rw [List.mem_append, List.mem_singleton] at hQ
    rcases hQ with hQ | rfl
    · exact h.xs Q hQ
    · exact hx.plgrid (by omega) hi hil h1 (by omega) ha
  · rw [List.mem_append, List.mem_singleton] at hQ
    rcases hQ with hQ | rfl
    · exact h.ys Q hQ
    · exact hy.plgrid (by omega) hk hkl h2 (by omega) hb
theorem half_two (i : Nat) : half i * 2 = ((2 * (i : Int) - 1 : Int) : Rat) := wR_half i
theorem half_begin (i : Nat) : half i * 2 = ((2 * ((i + 1 : Nat) : Int) - 3 : Int) : Rat) := by
  rw [half_two]; congr 1; omega
theorem Full.cum_mul_lt {d : List Int} (h : Full d) {m : Int} (hm : 1 ≤ m) {i : Nat} (hi : i < d.length) : Go.VM.cum d i * m < Go.VM.cum d (i + 1) * m := by
  have h1 := cum_succ hi
  have h2 := h.one hi
  exact Int.mul_lt_mul_of_pos_right (by omega) (by omega)
theorem Full.tot_lt {d : List Int} (h : Full d) {m : Int} (hm : 1 ≤ m) {i : Nat} (hi : i < d.length) : Go.VM.cum d i * m < d.sum * m := Int.mul_lt_mul_of_pos_right (h.cum_lt hi) (by omega)
theorem Full.tot_le {d : List Int} (h : Full d) {m : Int} (hm : 1 ≤ m) (i : Nat) : Go.VM.cum d i * m ≤ d.sum * m := Int.mul_le_mul_of_nonneg_right (h.cum i).2 (by omega)
theorem last_snoc (C : List Pt) (e : Pt) : (C ++ [e]).getLast? = some e := by simp
theorem grow {x y : List Int} (hx : Full x) (hy : Full y) : ∀ (f i k : Nat) (C : List Pt), Head x y i k → 1 ≤ i → 1 ≤ k → Grown x y i k C → (x.length + 1 - i) + (y.length + 1 - k) < f → Grown x y (x.length + 1) (y.length + 1) (C ++ percGo x y f i k)
  | 0, _, _, _, _, _, _, _, h => by omega
  | f + 1, i, k, C, hH, hi, hk, hG, hf => by
    have i1 := hH.iL
    have k1 := hH.kL
    have px := hx.pos
    have py := hy.pos
    simp only [percGo]
    by_cases hc : i ≤ x.length ∧ k ≤ y.length
    · obtain ⟨hil, hkl⟩ := hc
      rw [if_pos ⟨hil, hkl⟩]
      have ox := hx.dprod hy (i := i - 1) (by omega)
      have oy := hy.dprod hx (i := k - 1) (by omega)
      have htot : x.sum * y.sum = y.sum * x.sum := Int.mul_comm _ _
      by_cases h1 : cum x i * y.sum < cum y k * x.sum
      · rw [if_pos h1]
        have hip : i < x.length := by
          rcases Nat.lt_or_ge i x.length with h | h
          · exact h
          · rw [cum_all h] at h1
            have := hy.tot_le (m := x.sum) px k
            omega
        have e1 : Pl x y.sum i (cum x i * y.sum) (half i) := pl_end hi hil (half_two i)
        have e2 : Pl y x.sum k (cum x i * y.sum) (wR ((k : Int) - 1) (cum x i * y.sum - cum y (k - 1) * x.sum) (y.getD (k - 1) 0 * x.sum)) := pl_within hk oy.1
        obtain ⟨m1, m2, m3, m4, m5, m6⟩ := hG.more hx hy hi hk hil hkl (e := ⟨half i, _⟩) e1 e2 (.inl rfl) (Int.le_refl _) (by omega)
        have := grow hx hy f (i + 1) k (C ++ [⟨half i, wR ((k : Int) - 1) (cum x i * y.sum - cum y (k - 1) * x.sum) (y.getD (k - 1) 0 * x.sum)⟩]) (hH.left hx hy hil hkl h1) (by omega) hk ⟨m1, m2, m3, m4, ⟨_, cum x i * y.sum, last_snoc _ _, fun h => ⟨?_, ?_, ?_⟩, fun h => ⟨e2, by omega, h1⟩⟩, by omega, fun j hj => ?_, by have := hG.lo; simp; omega, by have := hG.hi; simp; omega⟩ (by omega)
        · rw [List.append_assoc] at this; exact this
        · exact pl_begin (i := i + 1) (by omega) (half_begin i)
        · exact Int.le_refl _
        · exact hx.cum_mul_lt py (by omega)
        · rcases Nat.lt_or_ge j i with h | h
          · obtain ⟨P, f1, f2⟩ := hG.found j h
            exact ⟨P, List.mem_append_left _ f1, f2⟩
          · have : j = i := by omega
            subst this
            exact ⟨_, List.mem_append_right _ (List.mem_singleton.2 rfl), half_two _, k, hk, hkl, e2, by omega, .inl m6⟩
      · rw [if_neg h1]
        by_cases h2 : cum y k * x.sum < cum x i * y.sum
        · rw [if_pos h2]
          have hkp : k < y.length := by
            rcases Nat.lt_or_ge k y.length with h | h
            · exact h
            · rw [cum_all h] at h2
              have := hx.tot_le (m := y.sum) py i
              omega
          have e1 : Pl y x.sum k (cum y k * x.sum) (half k) := pl_end hk hkl (half_two k)
          have e2 : Pl x y.sum i (cum y k * x.sum) (wR ((i : Int) - 1) (cum y k * x.sum - cum x (i - 1) * y.sum) (x.getD (i - 1) 0 * y.sum)) := pl_within hi ox.1
          obtain ⟨m1, m2, m3, m4, m5, m6⟩ := hG.more hx hy hi hk hil hkl (e := ⟨_, half k⟩) e2 e1 (.inr rfl) (by omega) (Int.le_refl _)
          have := grow hx hy f i (k + 1) (C ++ [⟨wR ((i : Int) - 1) (cum y k * x.sum - cum x (i - 1) * y.sum) (x.getD (i - 1) 0 * y.sum), half k⟩]) (hH.right hx hy hil hkl h2) hi (by omega) ⟨m1, m2, m3, m4, ⟨_, cum y k * x.sum, last_snoc _ _, fun h => ⟨e2, by omega, h2⟩, fun h => ⟨?_, ?_, ?_⟩⟩, by omega, fun j hj => ?_, by have := hG.lo; simp; omega, by have := hG.hi; simp; omega⟩ (by omega)
          · rw [List.append_assoc] at this; exact this
          · exact pl_begin (i := k + 1) (by omega) (half_begin k)
          · exact Int.le_refl _
          · exact hy.cum_mul_lt px (by omega)
          · obtain ⟨P, f1, f2⟩ := hG.found j hj
            exact ⟨P, List.mem_append_left _ f1, f2⟩
        · rw [if_neg h2]
          have he : cum y k * x.sum = cum x i * y.sum := by omega
          have e1 : Pl x y.sum i (cum x i * y.sum) (half i) := pl_end hi hil (half_two i)
          have e2 : Pl y x.sum k (cum x i * y.sum) (half k) := by rw [← he]; exact pl_end hk hkl (half_two k)
          have hpq : i = x.length ↔ k = y.length := by
            constructor
            · intro h
              rcases Nat.lt_or_ge k y.length with hl | hl
              · have t1 := hy.tot_lt (m := x.sum) px hl
                rw [he, cum_all (d := x) (by omega)] at t1
                omega
              · omega
            · intro h
              rcases Nat.lt_or_ge i x.length with hl | hl
              · have t1 := hx.tot_lt (m := y.sum) py hl
                rw [← he, cum_all (d := y) (by omega)] at t1
                omega
              · omega
          obtain ⟨m1, m2, m3, m4, m5, m6⟩ := hG.more hx hy hi hk hil hkl (e := ⟨half i, half k⟩) e1 e2 (.inl rfl) (Int.le_refl _) (by omega)
          have := grow hx hy f (i + 1) (k + 1) (C ++ [⟨half i, half k⟩]) (hH.both hx hy hil hkl he) (by omega) (by omega) ⟨m1, m2, m3, m4, ⟨_, cum x i * y.sum, last_snoc _ _, fun h => ⟨?_, ?_, ?_⟩, fun h => ⟨?_, ?_, ?_⟩⟩, by omega, fun j hj => ?_, by have := hG.lo; simp; omega, by have := hG.hi; simp; omega⟩ (by omega)
          · rw [List.append_assoc] at this; exact this
          · exact pl_begin (i := i + 1) (by omega) (half_begin i)
          · exact Int.le_refl _
          · exact hx.cum_mul_lt py (by omega)
          · rw [← he]; exact pl_begin (i := k + 1) (by omega) (half_begin k)
          · exact Int.le_of_eq he
          · rw [← he]; exact hy.cum_mul_lt px (by omega)
          · rcases Nat.lt_or_ge j i with h | h
            · obtain ⟨P, f1, f2⟩ := hG.found j h
              exact ⟨P, List.mem_append_left _ f1, f2⟩
            · have : j = i := by omega
              subst this
              exact ⟨_, List.mem_append_right _ (List.mem_singleton.2 rfl), half_two _, k, hk, hkl, e2, by omega, .inl m6⟩
    · rw [if_neg hc, List.append_nil]
      have := hG.ends
      have e1 : i = x.length + 1 := by omega
      have e2 : k = y.length + 1 := by omega
      subst e1 e2
      exact hG
theorem percGo_start (x y : List Int) (f : Nat) : percGo x y (f + 1) 0 0 = [⟨half 0, half 0⟩] ++ percGo x y f 1 1 := by
  simp only [percGo]
  rw [if_pos ⟨Nat.zero_le _, Nat.zero_le _⟩, cum_zero, cum_zero, Int.zero_mul, Int.zero_mul, if_neg (by omega), if_neg (by omega)]
  rfl
theorem perc_grown {x y : List Int} (hx : Full x) (hy : Full y) : Grown x y (x.length + 1) (y.length + 1) (percGo x y 20 0 0) := by
  have px := hx.pos
  have py := hy.pos
  have lx := hx.few.1
  have ly := hy.few.1
  have lx7 := hx.len
  have ly7 := hy.len
  have b1 : Pl x y.sum 1 0 (half 0) := by have := pl_begin (d := x) (m := y.sum) (i := 1) (by omega) (half_begin 0); rw [show cum x (1 - 1) * y.sum = 0 by simp [cum]] at this; exact this
  have b2 : Pl y x.sum 1 0 (half 0) := by have := pl_begin (d := y) (m := x.sum) (i := 1) (by omega) (half_begin 0); rw [show cum y (1 - 1) * x.sum = 0 by simp [cum]] at this; exact this
  have c1 : 0 < cum x 1 * y.sum := Int.mul_pos (hx.cum_pos (by omega)) (by omega)
  have c2 : 0 < cum y 1 * x.sum := Int.mul_pos (hy.cum_pos (by omega)) (by omega)
  have z1 : cum x (1 - 1) * y.sum = 0 := by simp [cum]
  have z2 : cum y (1 - 1) * x.sum = 0 := by simp [cum]
  have := grow hx hy 19 1 1 [⟨half 0, half 0⟩] ⟨by omega, by omega, fun _ => by omega, fun _ => by omega⟩ (by omega) (by omega)
    ⟨by simp [Asc], trivial, fun P hP => by rw [List.mem_singleton] at hP; subst hP; exact hx.plgrid py (by omega) (by omega) b1 (by omega) (by omega), fun P hP => by rw [List.mem_singleton] at hP; subst hP; exact hy.plgrid px (by omega) (by omega) b2 (by omega) (by omega),
      ⟨_, 0, rfl, fun _ => ⟨b1, by omega, c1⟩, fun _ => ⟨b2, by omega, c2⟩⟩, by omega, fun j hj => ?_, by simp, by simp⟩ (by omega)
  · have e : percGo x y 20 0 0 = [⟨half 0, half 0⟩] ++ percGo x y 19 1 1 := by
      exact percGo_start x y 19
    rw [e]
    exact this
  · have : j = 0 := by omega
    subst this
    refine ⟨_, List.mem_singleton.2 rfl, half_two 0, 1, by omega, by omega, ?_, ?_, .inr ⟨rfl, ?_⟩⟩
    · rw [show cum x 0 * y.sum = 0 by simp [cum]]; exact b2
    · rw [show cum x 0 * y.sum = 0 by simp [cum]]; omega
    · simp [cum]
theorem perc_grid {x y : List Int} (hx : Full x) (hy : Full y) : OnGrid (120 * y.sum.toNat) (60 * x.sum.toNat) (840 * y.sum.toNat) (840 * x.sum.toNat * (60 * y.sum.toNat)) 15120 (percGo x y 20 0 0) := by
  have h := perc_grown hx hy
  have lx := hx.few.1
  refine ⟨h.asc, by have := h.lo; omega, h.xs, fun P hP => ?_, h.ss⟩
  have := (h.ys P hP).up (60 * y.sum.toNat)
  have e : 120 * y.sum.toNat * (60 * x.sum.toNat) = 120 * x.sum.toNat * (60 * y.sum.toNat) := by
    rw [Nat.mul_mul_mul_comm, Nat.mul_mul_mul_comm 120 x.sum.toNat, Nat.mul_comm x.sum.toNat]
  rw [e]
  exact this
end Go.VM
