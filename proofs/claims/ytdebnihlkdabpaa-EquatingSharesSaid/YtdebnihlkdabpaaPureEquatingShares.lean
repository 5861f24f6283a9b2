/- The pure statement of EquatingShares: whatever the numbers, the printed function answers true. -/
import Derived.Test.YtdebnihlkdabpaaHPPercE
namespace Go.VM
set_option linter.unusedVariables false
set_option linter.unusedSimpArgs false
theorem sane34_ok : law34_sane fuel = some true := by decide +kernel
theorem mul_le2 {a b c d : Nat} (h1 : a ≤ c) (h2 : b ≤ d) : a * b ≤ c * d := Nat.mul_le_mul h1 h2
theorem coarse_of {D E B C F B' : Nat} (d : D ≠ 0) (e : E ≠ 0) (hD : D ≤ 6000) (hE : E ≤ 3000) (hB : B ≤ 50000) (hC : C ≤ 10000000000) (hF : F ≤ 15120) (hB' : B' ≤ 60000) : Coarse D E B C F B' := by
  have h1 := mul_le2 hD hE
  have h2 := mul_le2 (show C + C ≤ 20000000000 by omega) hD
  have h3 := mul_le2 (show D * E ≤ 18000000 by omega) (show B + B ≤ 100000 by omega)
  have h4 := mul_le2 (show B' + B ≤ 110000 by omega) hF
  exact ⟨d, e, by omega, by omega, by omega, by omega, by omega, by omega, by omega, by omega⟩
theorem absmul {a b : Int} {A B : Nat} (h1 : a.natAbs ≤ A) (h2 : b.natAbs ≤ B) : (a * b).natAbs ≤ A * B := by
  rw [Int.natAbs_mul]; exact Nat.mul_le_mul h1 h2
theorem At.cross {c m i a z : Int} {X : Rat} (h : At c m i a z X) : X.num * (2 * (c * m)) = ((2 * i - 3) * (c * m) + 2 * (z - a)) * (X.den : Int) := by
  unfold At at h
  have h1 : X * (X.den : Rat) = (X.num : Rat) := by
    have h2 := Rat.mkRat_self X
    rw [Rat.mkRat_eq_div] at h2
    have h3 := Rat.div_mul_cancel (a := (X.num : Rat)) (b := (X.den : Rat)) (natCast_ne (by have := X.den_pos; omega))
    rw [h2] at h3
    exact h3
  rw [← Rat.intCast_inj, Rat.intCast_mul, Rat.intCast_mul _ (X.den : Int), ← h, ← h1, Rat.intCast_natCast]
  grind
theorem half_mk (i : Nat) : mkRat (2 * (i : Int) - 1) 2 = half i := by
  unfold half wR
  rw [show (2 * (i : Int) - 1) * 1 + 2 * 0 = 2 * (i : Int) - 1 by omega]
  rfl
theorem half_of {X : Rat} {i : Nat} (h : X * 2 = ((2 * (i : Int) - 1 : Int) : Rat)) : X = half i := by
  have := half_two i
  grind
/-- The law's own search for the score. -/
theorem search_ok {y : List Int} (hy : Full y) {n z : Int} (hn : 1 ≤ n) {Y : Rat} {k : Nat} (hk : 1 ≤ k) (hl : k ≤ y.length) (hp : Pl y n k z Y) (h1 : z ≤ cum y k * n) (h2 : cum y (k - 1) * n < z ∨ (k = 1 ∧ z = 0)) (hnum : Y.num.natAbs ≤ 40000) (hden : Y.den ≤ 6000) :
    gloop (law34_EquatingShares_b2 fuel y Y.num Y.den) fuel 0 = some (((k - 1 : Nat) : Int)) := by
  have hy7 := hy.len
  have hq : 0 < Y.den := Y.den_pos
  have ho := hy.one (i := k - 1) (by omega)
  have hcr := hp.cross
  obtain ⟨u, hu⟩ : ∃ u, u = y.getD (k - 1) 0 * n := ⟨_, rfl⟩
  have u0 : 0 < u := by rw [hu]; exact Int.mul_pos (by omega) (by omega)
  rw [← hu] at hcr
  have hst := hy.step hk hl n
  rw [← hu] at hst
  obtain ⟨w, hw⟩ : ∃ w, w = z - cum y (k - 1) * n := ⟨_, rfl⟩
  rw [← hw] at hcr
  have wu : w ≤ u := by omega
  obtain ⟨q, hqe⟩ : ∃ q : Int, q = Y.den := ⟨_, rfl⟩
  have q0 : 0 < q := by omega
  rw [← hqe] at hcr ⊢
  obtain ⟨v, hv⟩ : ∃ v, v = Y.num := ⟨_, rfl⟩
  rw [← hv] at hcr ⊢
  have uq : 0 < u * q := Int.mul_pos u0 q0
  have e1 : v * 2 * u = (2 * (k : Int) - 3) * (u * q) + 2 * (w * q) := by
    have : v * (2 * u) = v * 2 * u := by rw [Int.mul_assoc]
    rw [← this, hcr, Int.add_mul, Int.mul_assoc, Int.mul_assoc]
  apply Ok.eq
  refine ok_loop (fun (s : Int) => 0 ≤ s ∧ s ≤ ((k - 1 : Nat) : Int)) (fun s => k - s.toNat) ⟨Int.le_refl _, by omega⟩ (by dsimp only [fuel]; omega) ?_
  intro again s hs hag
  obtain ⟨g1, g2⟩ := hs
  simp only [law34_EquatingShares_b2]
  have a1 := absmul (a := 2 * s + 1) (b := q) (A := 20) (B := 6000) (by omega) (by omega)
  rw [w64 (x := s + 1) (by omega) (by omega), w64 (x := v * 2) (by omega) (by omega), w64 (x := 2 * s) (by omega) (by omega), w64 (x := 2 * s + 1) (by omega) (by omega), w64 (x := (2 * s + 1) * q) (by omega) (by omega)]
  by_cases hc : s < ((k - 1 : Nat) : Int)
  · have wq : 0 < w * q := Int.mul_pos (by omega) q0
    have hlt : v * 2 > (2 * s + 1) * q := by
      rcases Int.lt_or_le ((2 * s + 1) * q) (v * 2) with h | h
      · exact h
      · exfalso
        have h3 := Int.mul_le_mul_of_nonneg_right h (show 0 ≤ u by omega)
        have h4 : (2 * s + 1) * q * u = (2 * s + 1) * (u * q) := by rw [Int.mul_assoc, Int.mul_comm q u]
        have h5 : (2 * s + 1) * (u * q) ≤ (2 * (k : Int) - 3) * (u * q) := Int.mul_le_mul_of_nonneg_right (by omega) (by omega)
        omega
    rw [decide_eq_true (show s + 1 < (y.length : Int) by omega), cond_true, decide_eq_true hlt]
    simp only [Option.bind_some, cond_true]
    exact hag _ ⟨by omega, by omega⟩ (by omega)
  · have hs : s = ((k - 1 : Nat) : Int) := by omega
    refine Ok.bind (Q := fun r => r = false) (ok_bif (fun hc => ?_) fun _ => Ok.ret rfl) fun r hr => by subst hr; exact Ok.ret hs
    refine Ok.ret (decide_eq_false ?_)
    intro h
    have h3 := Int.mul_lt_mul_of_pos_right h u0
    have h4 : (2 * s + 1) * q * u = (2 * s + 1) * (u * q) := by rw [Int.mul_assoc, Int.mul_comm q u]
    have h5 : (2 * s + 1) * (u * q) = (2 * (k : Int) - 3) * (u * q) + 2 * (u * q) := by rw [← Int.add_mul]; congr 1; omega
    have h6 := Int.mul_le_mul_of_nonneg_right wu (show 0 ≤ q by omega)
    omega
theorem check_left {c q d v K n : Int} (hc : c.natAbs ≤ 42) (hq : q.natAbs ≤ 5040) (hd : d.natAbs ≤ 6) (hv : v.natAbs ≤ 35280) (hK : K.natAbs ≤ 8) (hn : n.natAbs ≤ 42) :
    IntKind.wrap .i64 ((IntKind.wrap .i64 ((IntKind.wrap .i64 ((IntKind.wrap .i64 (c * 2)) * q)) + (IntKind.wrap .i64 (d * (IntKind.wrap .i64 ((IntKind.wrap .i64 (2 * v)) - (IntKind.wrap .i64 ((IntKind.wrap .i64 ((IntKind.wrap .i64 (2 * K)) - 1)) * q)))))))) * n) = (c * 2 * q + d * (2 * v - (2 * K - 1) * q)) * n := by
  have b1 := absmul (a := c * 2) (b := q) (A := 84) (by omega) hq
  have b2 := absmul (a := 2 * K - 1) (b := q) (A := 20) (by omega) hq
  have b3 := absmul (a := d) (b := 2 * v - (2 * K - 1) * q) (B := 200000) hd (by omega)
  have b4 := absmul (a := c * 2 * q + d * (2 * v - (2 * K - 1) * q)) (b := n) (A := 2000000) (by omega) hn
  have e1 : IntKind.wrap .i64 (c * 2) = c * 2 := w64 (by omega) (by omega)
  have e2 : IntKind.wrap .i64 (c * 2 * q) = c * 2 * q := w64 (by omega) (by omega)
  have e3 : IntKind.wrap .i64 (2 * v) = 2 * v := w64 (by omega) (by omega)
  have e4 : IntKind.wrap .i64 (2 * K) = 2 * K := w64 (by omega) (by omega)
  have e5 : IntKind.wrap .i64 (2 * K - 1) = 2 * K - 1 := w64 (by omega) (by omega)
  have e6 : IntKind.wrap .i64 ((2 * K - 1) * q) = (2 * K - 1) * q := w64 (by omega) (by omega)
  have e7 : IntKind.wrap .i64 (2 * v - (2 * K - 1) * q) = 2 * v - (2 * K - 1) * q := w64 (by omega) (by omega)
  have e8 : IntKind.wrap .i64 (d * (2 * v - (2 * K - 1) * q)) = d * (2 * v - (2 * K - 1) * q) := w64 (by omega) (by omega)
  have e9 : IntKind.wrap .i64 (c * 2 * q + d * (2 * v - (2 * K - 1) * q)) = c * 2 * q + d * (2 * v - (2 * K - 1) * q) := w64 (by omega) (by omega)
  simp only [e1, e2, e3, e4, e5, e6, e7, e8, e9]
  exact w64 (by omega) (by omega)
theorem check_right {z m q : Int} (hz : z.natAbs ≤ 42) (hm : m.natAbs ≤ 42) (hq : q.natAbs ≤ 5040) : IntKind.wrap .i64 ((IntKind.wrap .i64 ((IntKind.wrap .i64 (z * m)) * 2)) * q) = z * m * 2 * q := by
  have b5 := absmul hz hm
  have b6 := absmul (a := z * m * 2) (b := q) (A := 4000) (by omega) hq
  have e1 : IntKind.wrap .i64 (z * m) = z * m := w64 (by omega) (by omega)
  have e2 : IntKind.wrap .i64 (z * m * 2) = z * m * 2 := w64 (by omega) (by omega)
  simp only [e1, e2]
  exact w64 (by omega) (by omega)
theorem pure_EquatingShares (t : List Int) (ht : ∀ x ∈ t, fitsI .i64 x) (hl : t.length * 8 ≤ 140737488351232) : ∃ k, law34_EquatingShares k t = some true := by
  refine ⟨fuel, Ok.eq ?_⟩
  unfold law34_EquatingShares mark_Light mark_Roll
  simp only [Option.bind_some, u0_mk]
  refine ok_bif (fun hc => by rw [sane34_ok]; exact Ok.ret rfl) fun hc => ?_
  have hx : t.length ≤ 600 := by simp only [Bool.not_eq_false', decide_eq_true_iff] at hc; omega
  refine Dist_then hx (Int.le_refl _) (by unfold fuel; omega) (by omega) (by omega) fun a j hMa hj => ?_
  refine Dist_then hx hj (by unfold fuel; omega) (by omega) (by omega) fun b j hMb hj => ?_
  have sa := full hMa
  have sb := full hMb
  have pa := sa.pos
  have pb := sb.pos
  have sa42 := sa.sum
  have sb42 := sb.sum
  have la := sa.len
  have lb := sb.len
  have hG := perc_grid sa sb
  have hgr := perc_grown sa sb
  obtain ⟨N, hN⟩ : ∃ N, N = a.sum.toNat := ⟨_, rfl⟩
  obtain ⟨M, hM⟩ : ∃ M, M = b.sum.toNat := ⟨_, rfl⟩
  rw [← hN, ← hM] at hG
  have hNM := mul_le2 (show 840 * N ≤ 35280 by omega) (show 60 * M ≤ 2520 by omega)
  have hC : Coarse (120 * M) (60 * N) (840 * M) (840 * N * (60 * M)) 15120 50000 := coarse_of (by omega) (by omega) (by omega) (by omega) (by omega) (by omega) (by omega) (by omega)
  have hll : (percGo a b 20 0 0).length ≤ 40 := by have := hgr.hi; omega
  rw [Percentile_ok sa sb, CNormal_ok hG hC (by omega) (by omega)]
  simp only [Option.bind_some, uc_mk, bne_self_eq_false, cond_false]
  rw [rCount_ok sa.few (by unfold fuel; omega), rCount_ok sb.few (by unfold fuel; omega)]
  simp only [Option.bind_some]
  have hG2 := hG.normal (by omega)
  have hBF := mul_le2 (show 840 * M + 120 * M + 840 * M ≤ 75600 by omega) (show (15120 : Nat) ≤ 15120 by omega)
  have hC2 : Coarse (120 * M) (60 * N) (840 * M + 120 * M) (840 * N * (60 * M) + (840 * M + 120 * M + 840 * M) * 15120) 15120 50000 := coarse_of (by omega) (by omega) (by omega) (by omega) (by omega) (by omega) (by omega) (by omega)
  have hnl := normal_len (percGo a b 20 0 0)
  obtain ⟨n1, n2, n3, n4, n5⟩ := normalL_spec (P := fun _ => True) hG.asc hG.two
  refine ok_sum (Q := fun (_ : Unit) => True) (R := fun (_ : Bool) => False) (ok_range (List.range (a.length + 1)) (fun s => s) (fun _ _ => True) (by simp; omega) rfl trivial (by simp [fuel]; omega) ?_ ?_) (fun _ _ => by rw [u0_mk, sane34_ok]; exact Ok.ret rfl) fun _ h => h.elim
  · intro again i pre e post hl' hi hlt hw _ hag
    have hi0 : 0 ≤ i := by omega
    have hia : i ≤ a.length := by simp at hlt; omega
    obtain ⟨P, f1, f2, k, s1, s2, s3, s4, s5⟩ := hgr.found i.toNat (by omega)
    rw [show ((i.toNat : Nat) : Int) = i by omega] at f2
    have hPX : P.X = half i.toNat := half_of (by rw [show ((i.toNat : Nat) : Int) = i by omega]; exact f2)
    have hev : evalL (normalL (percGo a b 20 0 0)) (half i.toNat) = P.Y := by
      rw [n3, ← hPX]
      exact evalL_at _ hG.asc hG.two P f1
    simp only [law34_EquatingShares_b1]
    rw [decide_eq_true (show i ≤ (a.length : Int) from hia), cond_true, w64 (x := 2 * i) (by omega) (by omega), w64 (x := 2 * i - 1) (by omega) (by omega), rnew_rat (by omega) (by omega) (by omega) (by omega)]
    simp only [Option.bind_some, uc_mk]
    rw [show mkRat (2 * i - 1) (Int.toNat 2) = half i.toNat by rw [← half_mk, show ((i.toNat : Nat) : Int) = i by omega]; rfl]
    rw [CEval_ok hG2 hC2 (by omega) (x := half i.toNat) (by rw [← hPX]; exact (hG.xs P f1).le (by omega)), hev]
    simp only [Option.bind_some, uc_mk, bne_self_eq_false, Bool.or_false, blet_mk, cond_false]
    have hYb := (hgr.ys P f1).num (by omega)
    have hYb1 : P.Y.num.natAbs ≤ 35280 := by omega
    have hYb2 : P.Y.den ≤ 5040 := by omega
    rw [search_ok sb pa s1 s2 s3 s4 s5 (by omega) (by omega)]
    simp only [Option.bind_some]
    refine ok_idx (by omega) (by omega) fun hi2 => ?_
    rw [rBelow_ok sb.few (by unfold fuel; omega), rBelow_ok sa.few (by unfold fuel; omega)]
    simp only [Option.bind_some]
    have e1 : b[((k - 1 : Nat) : Int).toNat] = b.getD (k - 1) 0 := by rw [getD_of (by omega)]; congr 1
    have e2 : (b.take ((k - 1 : Nat) : Int).toNat).sum = cum b (k - 1) := by rw [Int.toNat_natCast]; rfl
    have e3 : (a.take i.toNat).sum = cum a i.toNat := rfl
    rw [e1, e2, e3]
    have hcr := s3.cross
    have c1 := sb.cum (k - 1)
    have c2 := sa.cum i.toNat
    have d1 := sb.one (i := k - 1) (by omega)
    have q0 := P.Y.den_pos
    obtain ⟨q, hq⟩ : ∃ q : Int, q = P.Y.den := ⟨_, rfl⟩
    obtain ⟨v, hv⟩ : ∃ v, v = P.Y.num := ⟨_, rfl⟩
    obtain ⟨d, hd⟩ : ∃ d, d = b.getD (k - 1) 0 := ⟨_, rfl⟩
    obtain ⟨c, hc'⟩ : ∃ c, c = cum b (k - 1) := ⟨_, rfl⟩
    obtain ⟨z, hz⟩ : ∃ z, z = cum a i.toNat := ⟨_, rfl⟩
    obtain ⟨n, hn⟩ : ∃ n, n = a.sum := ⟨_, rfl⟩
    obtain ⟨m, hm⟩ : ∃ m, m = b.sum := ⟨_, rfl⟩
    rw [← hq, ← hv, ← hd, ← hc', ← hz, ← hn, ← hm] at hcr
    rw [← hq, ← hv, ← hd, ← hc', ← hz, ← hn, ← hm]
    rw [← hd] at d1
    rw [← hc', ← hm] at c1
    rw [← hz, ← hn] at c2
    rw [← hn] at sa42 pa
    rw [← hm] at sb42 pb
    rw [check_left (by omega) (by omega) (by omega) (by omega) (by omega) (by omega), check_right (by omega) (by omega) (by omega), w64 (x := i + 1) (by omega) (by omega)]
    have key : (c * 2 * q + d * (2 * v - (2 * ((k - 1 : Nat) : Int) - 1) * q)) * n = z * m * 2 * q := by
      have hk3 : 2 * ((k - 1 : Nat) : Int) - 1 = 2 * (k : Int) - 3 := by omega
      rw [hk3]
      generalize 2 * (k : Int) - 3 = K at *
      grind
    rw [key, bne_self_eq_false, cond_false]
    exact hag _ rfl trivial
  · intro again i hi _
    have : i = a.length + 1 := by simp at hi; omega
    simp only [law34_EquatingShares_b1]
    rw [decide_eq_false (by omega), cond_false]
    exact Ok.ret trivial
end Go.VM
