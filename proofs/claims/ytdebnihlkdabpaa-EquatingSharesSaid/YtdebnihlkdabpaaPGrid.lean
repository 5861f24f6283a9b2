/- Rational numbers on a grid: how great numerators and denominators may be. Plain mathematics. -/
import Derived.Test.YtdebnihlkdabpaaPCurveA
namespace Go.VM
set_option linter.unusedVariables false
set_option linter.unusedSimpArgs false

/-- v is n / D for a whole number n of magnitude at most B. -/
def Grid (D B : Nat) (v : Rat) : Prop := ∃ n : Int, v * D = n ∧ n.natAbs ≤ B
theorem natCast_ne {D : Nat} (h : D ≠ 0) : (D : Rat) ≠ 0 := by
  intro h0
  have := congrArg Rat.num h0
  simp at this
  exact h this
theorem Grid.mk {D B : Nat} {v : Rat} (hD : D ≠ 0) (h : Grid D B v) : ∃ n : Int, v = mkRat n D ∧ n.natAbs ≤ B := by
  obtain ⟨n, e, hn⟩ := h
  refine ⟨n, ?_, hn⟩
  rw [Rat.mkRat_eq_div, ← e, Rat.mul_div_cancel (natCast_ne hD)]
theorem Grid.num {D B : Nat} {v : Rat} (hD : D ≠ 0) (h : Grid D B v) : v.num.natAbs ≤ B ∧ v.den ≤ D := by
  obtain ⟨n, rfl, hn⟩ := h.mk hD
  rw [Rat.num_mkRat, Rat.den_mkRat, if_neg hD, if_neg hD]
  constructor
  · have hg : ((D.gcd n.natAbs : Nat) : Int) ∣ n := Int.ofNat_dvd_left.2 (Nat.gcd_dvd_right ..)
    have := Int.natAbs_ediv_of_dvd hg
    rw [this]
    have := Nat.div_le_self n.natAbs (D.gcd n.natAbs)
    simp only [Int.natAbs_natCast]
    omega
  · exact Nat.div_le_self ..
theorem Grid.add {D B C : Nat} {v w : Rat} (h : Grid D B v) (h' : Grid D C w) : Grid D (B + C) (v + w) := by
  obtain ⟨n, e, hn⟩ := h
  obtain ⟨m, e', hm⟩ := h'
  exact ⟨n + m, by rw [Rat.intCast_add]; grind, by omega⟩
theorem Grid.sub {D B C : Nat} {v w : Rat} (h : Grid D B v) (h' : Grid D C w) : Grid D (B + C) (v - w) := by
  obtain ⟨n, e, hn⟩ := h
  obtain ⟨m, e', hm⟩ := h'
  exact ⟨n - m, by rw [Rat.intCast_sub]; grind, by omega⟩
theorem Grid.mul {D B E C : Nat} {v w : Rat} (h : Grid D B v) (h' : Grid E C w) : Grid (D * E) (B * C) (v * w) := by
  obtain ⟨n, e, hn⟩ := h
  obtain ⟨m, e', hm⟩ := h'
  refine ⟨n * m, by rw [Rat.intCast_mul, Rat.natCast_mul]; grind, ?_⟩
  rw [Int.natAbs_mul]
  exact Nat.mul_le_mul hn hm
theorem Grid.up {D B : Nat} {v : Rat} (k : Nat) (h : Grid D B v) : Grid (D * k) (B * k) v := by
  obtain ⟨n, e, hn⟩ := h
  refine ⟨n * (k : Int), by rw [Rat.intCast_mul, Rat.natCast_mul, Rat.intCast_natCast]; grind, ?_⟩
  rw [Int.natAbs_mul]
  exact Nat.mul_le_mul hn (by omega)
theorem Grid.le {D B C : Nat} {v : Rat} (h : Grid D B v) (hBC : B ≤ C) : Grid D C v := by
  obtain ⟨n, e, hn⟩ := h
  exact ⟨n, e, by omega⟩
theorem grid_int (D : Nat) (n : Int) (B : Nat) (h : n.natAbs ≤ B) : Grid D (B * D) (n : Rat) := by
  refine ⟨n * (D : Int), by rw [Rat.intCast_mul, Rat.intCast_natCast], ?_⟩
  rw [Int.natAbs_mul]
  exact Nat.mul_le_mul h (by omega)
theorem Slopes.get {P : Rat → Prop} : ∀ {L : List Pt}, Slopes P L → ∀ (i : Nat) (hi : i + 1 < L.length), P (slope L[i] L[i + 1])
  | [], _, _, hi => by simp at hi
  | [_], _, _, hi => by simp at hi
  | p :: q :: L, h, 0, hi => h.1
  | p :: q :: L, h, i + 1, hi => Slopes.get (L := q :: L) h.2 i (by simpa using hi)
theorem Slopes.of {P : Rat → Prop} : ∀ {L : List Pt}, (∀ (i : Nat) (hi : i + 1 < L.length), P (slope L[i] L[i + 1])) → Slopes P L
  | [], _ => trivial
  | [_], _ => trivial
  | p :: q :: L, h => ⟨h 0 (by simp), Slopes.of (L := q :: L) fun i hi => h (i + 1) (by simpa using hi)⟩
theorem evalL_piece : ∀ (L : List Pt) (x : Rat), 2 ≤ L.length → ∃ (i : Nat) (hi : i + 1 < L.length), evalL L x = line L[i] L[i + 1] x
  | [], _, h => by simp at h
  | [_], _, h => by simp at h
  | [p, q], x, _ => ⟨0, by simp, rfl⟩
  | p :: q :: r :: L, x, _ => by
    simp only [evalL]
    split
    · obtain ⟨i, hi, e⟩ := evalL_piece (q :: r :: L) x (by simp)
      exact ⟨i + 1, by simpa using hi, e⟩
    · exact ⟨0, by simp, rfl⟩
/-- A broken line all of whose numbers lie on grids. -/
structure OnGrid (D E B C F : Nat) (L : List Pt) : Prop where
  asc : Asc L
  two : 2 ≤ L.length
  xs : ∀ p ∈ L, Grid D B p.X
  ys : ∀ p ∈ L, Grid (D * E) C p.Y
  ss : Slopes (Grid E F) L
theorem OnGrid.eval {D E B C F B' : Nat} {L : List Pt} (h : OnGrid D E B C F L) {x : Rat} (hx : Grid D B' x) : Grid (D * E) (C + (B' + B) * F) (evalL L x) := by
  obtain ⟨i, hi, e⟩ := evalL_piece L x h.two
  rw [e]
  unfold line
  exact (h.ys _ (List.getElem_mem _)).add ((hx.sub (h.xs _ (List.getElem_mem _))).mul (h.ss.get i hi))
theorem OnGrid.normal {D E B C F : Nat} {L : List Pt} (hD : D ≠ 0) (h : OnGrid D E B C F L) : OnGrid D E (B + D) (C + (B + D + B) * F) F (normalL L) := by
  obtain ⟨n1, n2, n3, n4, n5⟩ := normalL_spec (P := Grid E F) h.asc h.two
  have hone : Grid D D 1 := ⟨D, by rw [Rat.one_mul, Rat.intCast_natCast], by omega⟩
  have hzero : Grid D 0 0 := ⟨0, by rw [Rat.zero_mul]; rfl, by omega⟩
  have key : ∀ p ∈ normalL L, Grid D (B + D) p.X ∧ (p ∈ L ∨ p.Y = evalL L p.X) := by
    match L, h.two with
    | p :: q :: R, _ =>
      have hsub : (bendsL (slope p q) (q :: R)).Sublist (p :: q :: R) := (bendsL_sub _ _).cons p
      intro z hz
      simp only [normalL] at hz
      generalize bendsL (slope p q) (q :: R) = Bs at *
      rw [List.mem_cons, List.mem_append, List.mem_singleton] at hz
      rcases hz with rfl | hz | rfl
      · refine ⟨?_, .inr rfl⟩
        cases Bs with
        | nil => exact hzero.le (by omega)
        | cons b Bs => exact (h.xs b (hsub.subset (by simp))).sub hone
      · exact ⟨(h.xs z (hsub.subset hz)).le (by omega), .inl (hsub.subset hz)⟩
      · refine ⟨?_, .inr rfl⟩
        dsimp only
        unfold toX
        cases hl : Bs.getLast? with
        | none => exact hone.le (by omega)
        | some b => exact (h.xs b (hsub.subset (List.mem_of_getLast? hl))).add hone
  refine ⟨n1, n2, fun p hp => (key p hp).1, fun p hp => ?_, n5 h.ss⟩
  obtain ⟨k1, k2⟩ := key p hp
  rcases k2 with k2 | k2
  · exact (h.ys p k2).le (by omega)
  · rw [k2]
    exact h.eval k1
end Go.VM
