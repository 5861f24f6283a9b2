/- Percentile equating the other way round. Plain mathematics. -/
import Derived.Test.YtdebnihlkdabpaaKPCurveGM
namespace Go.VM
set_option linter.unusedVariables false
set_option linter.unusedSimpArgs false

theorem percGo_turn (x y : List Int) : ∀ (f i k : Nat), percGo y x f k i = (percGo x y f i k).map turn
  | 0, _, _ => rfl
  | f + 1, i, k => by
    simp only [percGo]
    by_cases hc : i ≤ x.length ∧ k ≤ y.length
    · rw [if_pos hc, if_pos (show k ≤ y.length ∧ i ≤ x.length from ⟨hc.2, hc.1⟩)]
      by_cases h1 : cum x i * y.sum < cum y k * x.sum
      · have h2 : ¬ cum y k * x.sum < cum x i * y.sum := by omega
        simp only [if_pos h1, if_neg h2, List.map_cons]
        rw [percGo_turn x y f (i + 1) k]
        rfl
      · by_cases h2 : cum y k * x.sum < cum x i * y.sum
        · simp only [if_neg h1, if_pos h2, List.map_cons]
          rw [percGo_turn x y f i (k + 1)]
          rfl
        · simp only [if_neg h1, if_neg h2, List.map_cons]
          rw [percGo_turn x y f (i + 1) (k + 1)]
          rfl
    · rw [if_neg hc, if_neg (by omega)]
      rfl
theorem slopes_unturn {P : Rat → Prop} : ∀ {L : List Pt}, Asc L → Slopes P (L.map turn) → Slopes (fun s => P s⁻¹) L
  | [], _, _ => trivial
  | [_], _, _ => trivial
  | p :: q :: L, hA, h => ⟨by have := h.1; rw [slope_turn hA.head.1 hA.head.2] at this; exact this, slopes_unturn (L := q :: L) hA.tail h.2⟩
/-- The values of the normal form lie on the grid of the points' values, if the slopes lie on it. -/
theorem normal_ys {D C F G : Nat} {p q : Pt} {R : List Pt} (hA : Asc (p :: q :: R)) (hy : ∀ z ∈ p :: q :: R, Grid D C z.Y) (hs : Slopes (Grid D F) (p :: q :: R)) (h0 : Grid D G (p.Y + (0 - p.X) * slope p q)) : ∀ z ∈ normalL (p :: q :: R), Grid D (C + F + G) z.Y := by
  obtain ⟨n1, n2, n3, n4, n5⟩ := normalL_spec (P := Grid D F) hA (by simp)
  have hS := n5 hs
  have hsub : (bendsL (slope p q) (q :: R)).Sublist (p :: q :: R) := (bendsL_sub _ _).cons p
  obtain ⟨B, hB⟩ : ∃ B, B = bendsL (slope p q) (q :: R) := ⟨_, rfl⟩
  have hN : normalL (p :: q :: R) = ⟨fromX B, evalL (p :: q :: R) (fromX B)⟩ :: (B ++ [⟨toX B, evalL (p :: q :: R) (toX B)⟩]) := by rw [hB]; rfl
  obtain ⟨y0, hy0⟩ : ∃ y0, y0 = evalL (p :: q :: R) (fromX B) := ⟨_, rfl⟩
  obtain ⟨y1, hy1⟩ : ∃ y1, y1 = evalL (p :: q :: R) (toX B) := ⟨_, rfl⟩
  have hb0 : B = [] → y0 = p.Y + (0 - p.X) * slope p q := fun h => by
    have hf := evalL_before p q R (fromX B) hA fun b h' => by rw [← hB, h] at h'; cases h'
    rw [hy0, hf, h]
    rfl
  rw [← hB] at hsub
  rw [← hy0, ← hy1] at hN
  rw [hN] at hS n1 ⊢
  clear hB hN n2 n3 n4 n5 hy0 hy1
  rcases List.eq_nil_or_concat B with rfl | ⟨Bi, bl, rfl⟩
  · have e0 := hb0 rfl
    have hs1 : Grid D F (slope ⟨fromX [], y0⟩ ⟨toX [], y1⟩) := hS.1
    have hm := slope_mul (p := ⟨fromX [], y0⟩) (q := ⟨toX [], y1⟩) n1.head.1
    have g0 : Grid D G y0 := by rw [e0]; exact h0
    have e1 : y1 = y0 + slope ⟨fromX [], y0⟩ ⟨toX [], y1⟩ := by
      have h2 : slope ⟨fromX [], y0⟩ ⟨toX [], y1⟩ * (1 - 0) = y1 - y0 := hm
      grind
    intro z hz
    simp only [List.nil_append, List.mem_cons, List.not_mem_nil, or_false] at hz
    rcases hz with rfl | rfl
    · exact g0.le (by omega)
    · show Grid D (C + F + G) y1
      rw [e1]
      exact (g0.add hs1).le (by omega)
  · have hl : bl ∈ p :: q :: R := hsub.subset (by simp)
    -- the first point
    have hfirst : Grid D (C + F) y0 := by
      obtain ⟨b, T, hT⟩ : ∃ b T, Bi.concat bl ++ [⟨toX (Bi.concat bl), y1⟩] = b :: T ∧ b ∈ Bi.concat bl ∧ fromX (Bi.concat bl) = b.X - 1 := by
        cases h : Bi.concat bl with
        | nil => simp at h
        | cons b T => exact ⟨b, T ++ [_], rfl, by simp, rfl⟩
      obtain ⟨hT, hbm, hfx⟩ := hT
      rw [hT] at hS n1
      have hm := slope_mul (p := ⟨fromX (Bi.concat bl), y0⟩) (q := b) n1.head.1
      have h2 : slope ⟨fromX (Bi.concat bl), y0⟩ b * (b.X - fromX (Bi.concat bl)) = b.Y - y0 := hm
      have e : y0 = b.Y - slope ⟨fromX (Bi.concat bl), y0⟩ b := by
        rw [hfx] at h2 ⊢
        grind
      have hsl : Grid D F (slope ⟨fromX (Bi.concat bl), y0⟩ b) := hS.1
      generalize slope ⟨fromX (Bi.concat bl), y0⟩ b = s at *
      rw [e]
      exact (hy b (hsub.subset hbm)).sub hsl
    -- the last point
    have hlast : Grid D (C + F) y1 := by
      have hlen : (⟨fromX (Bi.concat bl), y0⟩ :: (Bi.concat bl ++ [⟨toX (Bi.concat bl), y1⟩]) : List Pt).length = Bi.length + 3 := by simp
      have hg := hS.get (Bi.length + 1) (by omega)
      have hlt := List.pairwise_iff_getElem.1 n1 (Bi.length + 1) (Bi.length + 2) (by omega) (by omega) (by omega)
      have ea : (⟨fromX (Bi.concat bl), y0⟩ :: (Bi.concat bl ++ [⟨toX (Bi.concat bl), y1⟩]) : List Pt)[Bi.length + 1]'(by omega) = bl := by simp [List.concat_eq_append]
      have eb : (⟨fromX (Bi.concat bl), y0⟩ :: (Bi.concat bl ++ [⟨toX (Bi.concat bl), y1⟩]) : List Pt)[Bi.length + 1 + 1]'(by omega) = ⟨toX (Bi.concat bl), y1⟩ := by
        simp [List.concat_eq_append]
      have ec : (⟨fromX (Bi.concat bl), y0⟩ :: (Bi.concat bl ++ [⟨toX (Bi.concat bl), y1⟩]) : List Pt)[Bi.length + 2]'(by omega) = ⟨toX (Bi.concat bl), y1⟩ := by
        simp [List.concat_eq_append]
      rw [ea, eb] at hg
      rw [ea, ec] at hlt
      have hm := slope_mul (p := bl) (q := ⟨toX (Bi.concat bl), y1⟩) hlt.1
      have htx : toX (Bi.concat bl) = bl.X + 1 := by unfold toX; simp [List.concat_eq_append]
      have h2 : slope bl ⟨toX (Bi.concat bl), y1⟩ * (toX (Bi.concat bl) - bl.X) = y1 - bl.Y := hm
      have e : y1 = bl.Y + slope bl ⟨toX (Bi.concat bl), y1⟩ := by
        rw [htx] at h2 ⊢
        grind
      generalize slope bl ⟨toX (Bi.concat bl), y1⟩ = s at *
      rw [e]
      exact (hy bl hl).add hg
    intro z hz
    rw [List.mem_cons, List.mem_append, List.mem_singleton] at hz
    rcases hz with rfl | hz | rfl
    · exact hfirst.le (by omega)
    · exact (hy z (hsub.subset hz)).le (by omega)
    · exact hlast.le (by omega)
theorem perc_cons {x y : List Int} (hx : Full x) (hy : Full y) : ∃ q R, percGo x y 20 0 0 = ⟨half 0, half 0⟩ :: q :: R := by
  have h := (perc_grid hx hy).two
  rw [percGo_start x y 19] at h ⊢
  cases hR : percGo x y 19 1 1 with
  | nil => rw [hR] at h; simp at h
  | cons q R => exact ⟨q, R, rfl⟩
theorem half0 : half 0 * 2 = -1 := by
  have := half_two 0
  rw [this]
  rfl
/-- What is computed of the inverse of a percentile curve. -/
theorem perc_back_grid {x y : List Int} (hx : Full x) (hy : Full y) : OnGrid (120 * x.sum.toNat) (60 * y.sum.toNat) (900 * x.sum.toNat + 45360) ((840 * y.sum.toNat + 120 * y.sum.toNat) * (60 * x.sum.toNat)) 15120 ((normalL (percGo x y 20 0 0)).map turn) := by
  have hG := perc_grid hx hy
  have hg := perc_grown hx hy
  have hgb := perc_grown hy hx
  have px := hx.pos
  have py := hy.pos
  have hGn := hG.normal (by omega)
  obtain ⟨n1, n2, n3, n4, n5⟩ := normalL_spec (P := fun s => Grid (60 * y.sum.toNat) 15120 s⁻¹) hG.asc hG.two
  have hsT : Slopes (fun s => Grid (60 * y.sum.toNat) 15120 s⁻¹) (percGo x y 20 0 0) := slopes_unturn hG.asc (by rw [← percGo_turn]; exact hgb.ss)
  have hsN := n5 hsT
  refine ⟨n1.turn, by simpa using n2, fun p hp => ?_, fun p hp => ?_, Slopes.turn n1 hsN⟩
  · rw [List.mem_map] at hp
    obtain ⟨z, hz, rfl⟩ := hp
    obtain ⟨q, R, e⟩ := perc_cons hx hy
    rw [e] at hz hG
    have hss := hg.ss
    have hys := hg.ys
    rw [e] at hss hys
    have hup : Slopes (Grid (120 * x.sum.toNat) 30240) (⟨half 0, half 0⟩ :: q :: R) := Slopes.of fun i hi => by
      have := (hss.get i hi).up 2
      rw [show 60 * x.sum.toNat * 2 = 120 * x.sum.toNat by omega] at this
      exact this
    have h0 : Grid (120 * x.sum.toNat) (60 * x.sum.toNat + 15120) ((half 0) + (0 - half 0) * slope ⟨half 0, half 0⟩ q) := by
      obtain ⟨n, hn, hb⟩ := hss.1
      have hh := half0
      refine ⟨-(60 * (x.sum.toNat : Int)) + n, ?_, by omega⟩
      rw [Rat.intCast_add, ← hn, Rat.intCast_neg, Rat.intCast_mul, Rat.intCast_natCast, Rat.natCast_mul, Rat.natCast_mul]
      generalize slope ⟨half 0, half 0⟩ q = s at *
      generalize half 0 = h at *
      generalize (x.sum.toNat : Rat) = w
      have c60 : ((60 : Nat) : Rat) = 60 := rfl
      have c120 : ((120 : Nat) : Rat) = 120 := rfl
      have c60i : ((60 : Int) : Rat) = 60 := rfl
      rw [c60, c120, c60i]
      grind
    exact (normal_ys hG.asc hys hup h0 z hz).le (by omega)
  · rw [List.mem_map] at hp
    obtain ⟨z, hz, rfl⟩ := hp
    have := (hGn.xs z hz).up (60 * x.sum.toNat)
    have e : 120 * y.sum.toNat * (60 * x.sum.toNat) = 120 * x.sum.toNat * (60 * y.sum.toNat) := by
      rw [Nat.mul_mul_mul_comm, Nat.mul_mul_mul_comm 120 x.sum.toNat, Nat.mul_comm x.sum.toNat]
    rw [e] at this
    exact this
theorem mul_le2 {a b c d : Nat} (h1 : a ≤ c) (h2 : b ≤ d) : a * b ≤ c * d := Nat.mul_le_mul h1 h2
theorem coarse_perc {D E B C F B' : Nat} (d : D ≠ 0) (e : E ≠ 0) (hD : D ≤ 6000) (hE : E ≤ 3000) (hB : B ≤ 100000) (hC : C ≤ 10000000000) (hF : F ≤ 15120) (hB' : B' ≤ 200000) : Coarse D E B C F B' := by
  have h1 := mul_le2 hD hE
  have h2 := mul_le2 (show C + C ≤ 20000000000 by omega) hD
  have h3 := mul_le2 (show D * E ≤ 18000000 by omega) (show B + B ≤ 200000 by omega)
  have h4 := mul_le2 (show B' + B ≤ 300000 by omega) hF
  exact ⟨d, e, by omega, by omega, by omega, by omega, by omega, by omega, by omega, by omega⟩
/-- The percentile curve, and what may be asked of it. -/
theorem perc_all {a b : List Int} (sa : Full a) (sb : Full b) : equating_Percentile fuel a b = some ((normalL (percGo a b 20 0 0)).map enc, 0) ∧ conversion_Inverse fuel ((normalL (percGo a b 20 0 0)).map enc) = some ((normalL (percGo b a 20 0 0)).map enc, 0) ∧
    conversion_Normal fuel ((normalL (percGo a b 20 0 0)).map enc) = some ((normalL (percGo a b 20 0 0)).map enc, 0) ∧ (normalL (percGo a b 20 0 0)).length ≤ 40 := by
  have pa := sa.pos
  have pb := sb.pos
  have sa42 := sa.sum
  have sb42 := sb.sum
  have la := sa.len
  have lb := sb.len
  have hG := perc_grid sa sb
  have hB := perc_back_grid sa sb
  have hgr := perc_grown sa sb
  have hG2 := hG.normal (by omega)
  have hll : (percGo a b 20 0 0).length ≤ 39 := by have := hgr.hi; omega
  have hnl := normal_len (percGo a b 20 0 0)
  obtain ⟨N, hN⟩ : ∃ N, N = a.sum.toNat := ⟨_, rfl⟩
  obtain ⟨M, hM⟩ : ∃ M, M = b.sum.toNat := ⟨_, rfl⟩
  rw [← hN, ← hM] at hG hB hG2
  have hNM := mul_le2 (show 840 * N ≤ 35280 by omega) (show 60 * M ≤ 2520 by omega)
  have hMN := mul_le2 (show 840 * M + 120 * M ≤ 40320 by omega) (show 60 * N ≤ 2520 by omega)
  have hBF := mul_le2 (show 840 * M + 120 * M + 840 * M ≤ 75600 by omega) (show (15120 : Nat) ≤ 15120 by omega)
  have hC : Coarse (120 * M) (60 * N) (840 * M) (840 * N * (60 * M)) 15120 50000 := coarse_perc (by omega) (by omega) (by omega) (by omega) (by omega) (by omega) (by omega) (by omega)
  have hC2 : Coarse (120 * M) (60 * N) (840 * M + 120 * M) (840 * N * (60 * M) + (840 * M + 120 * M + 840 * M) * 15120) 15120 50000 := coarse_perc (by omega) (by omega) (by omega) (by omega) (by omega) (by omega) (by omega) (by omega)
  have hC3 : Coarse (120 * N) (60 * M) (900 * N + 45360) ((840 * M + 120 * M) * (60 * N)) 15120 100000 := coarse_perc (by omega) (by omega) (by omega) (by omega) (by omega) (by omega) (by omega) (by omega)
  obtain ⟨n1, n2, n3, n4, n5⟩ := normalL_spec (P := fun _ => True) hG.asc hG.two
  refine ⟨?_, Inverse_of n1 (hG2.fine hC2).1 n2 (by omega) ?_, ?_, by omega⟩
  · rw [Percentile_ok sa sb, CNormal_ok hG hC (by omega) (by omega)]
    rfl
  · rw [formed_ok hB hC3 (by omega) (by simp; omega), normalL_turn hG.asc hG.two, ← percGo_turn]
  · rw [CNormal_ok hG2 hC2 (by omega) (by omega), n4]
end Go.VM
namespace Go.VM
set_option linter.unusedVariables false
set_option linter.unusedSimpArgs false

theorem Grid.cast {D D' B : Nat} {v : Rat} (h : D = D') (g : Grid D B v) : Grid D' B v := h ▸ g
theorem coarse_of {D E B C F B' : Nat} (d : D ≠ 0) (e : E ≠ 0) (hD : D ≤ 2000) (hE : E ≤ 22000000) (hB : B ≤ 2000) (hC : C ≤ 1000000000000) (hF : F ≤ 22000000) (hB' : B' ≤ 30000) : Coarse D E B C F B' := by
  have h1 := mul_le2 hD hE
  have h2 := mul_le2 (show C + C ≤ 2000000000000 by omega) hD
  have h3 := mul_le2 (show D * E ≤ 44000000000 by omega) (show B + B ≤ 4000 by omega)
  have h4 := mul_le2 (show B' + B ≤ 32000 by omega) hF
  exact ⟨d, e, by omega, by omega, by omega, by omega, by omega, by omega, by omega, by omega⟩
theorem dev_nonneg {d : List Int} (h : Seven d) : 0 ≤ devR d := by
  have h1 := h.few.far
  have h2 := h.pos
  rw [← Rat.num_nonneg]
  unfold devR
  have m2 : 0 < d.sum * d.sum := Int.mul_pos (by omega) (by omega)
  rw [← rnum_rat _ (by omega)]
  exact (rnum_le h1.1).1
theorem inv_one : (1 : Rat)⁻¹ = 1 := by have := Rat.mul_inv_cancel 1 (by decide); rw [Rat.one_mul] at this; exact this
theorem mean_all {a b : List Int} (sa : Seven a) (sb : Seven b) : equating_Mean fuel a b = some ((lineL 1 (meanR b - 1 * meanR a)).map enc, 0) ∧
    conversion_Inverse fuel ((lineL 1 (meanR b - 1 * meanR a)).map enc) = some ((lineL 1 (meanR a - 1 * meanR b)).map enc, 0) ∧
    conversion_Normal fuel ((lineL 1 (meanR b - 1 * meanR a)).map enc) = some ((normalL (lineL 1 (meanR b - 1 * meanR a))).map enc, 0) := by
  have fa := sa.few
  have fb := sb.few
  have a0 : a.sum ≠ 0 := by have := sa.pos; omega
  have b0 : b.sum ≠ 0 := by have := sb.pos; omega
  obtain ⟨N, hN⟩ : ∃ N, N = a.sum.toNat := ⟨_, rfl⟩
  obtain ⟨M, hM⟩ : ∃ M, M = b.sum.toNat := ⟨_, rfl⟩
  have hN1 : 1 ≤ N ∧ N ≤ 42 := by have := sa.pos; have := sa.sum; omega
  have hM1 : 1 ≤ M ∧ M ≤ 42 := by have := sb.pos; have := sb.sum; omega
  have gp := sa.mean
  have gq := sb.mean
  rw [← hN] at gp
  rw [← hM] at gq
  have NM := mul_le2 hN1.2 hM1.2
  have MN := mul_le2 hM1.2 hN1.2
  have NM0 : N * M ≠ 0 := Nat.mul_ne_zero (by omega) (by omega)
  have g1 : Grid (N * M) (252 * M) (meanR a) := gp.up M
  have g2 : Grid (N * M) (252 * N) (meanR b) := (gq.up N).cast (Nat.mul_comm M N)
  have gt : Grid (N * M) (252 * N + 252 * M) (meanR b - 1 * meanR a) := by rw [Rat.one_mul]; exact g2.sub g1
  have eM := EMean_ok fa fb a0 b0 (Mu.of (one_grid 1) gp (by decide) (by omega) (by omega) (by omega) (by omega) (by omega)) (by rw [Rat.one_mul]; exact Ad.of g2 (grid_neg g1) NM0 (by omega) (by omega) (by omega)) (Ad.of (one_grid _) gt NM0 (by omega) (by omega) (by omega))
  have hG := lineL_grid (s := 1) (D := N) (E := M) (F := M) (by decide) (one_grid M) gt
  have hC : Coarse N M N (M * N + (252 * N + 252 * M)) M 300 := coarse_of (by omega) (by omega) (by omega) (by omega) (by omega) (by omega) (by omega) (by omega)
  refine ⟨eM, ?_, CNormal_ok hG hC (by omega) (by simp [lineL])⟩
  refine Inverse_of hG.asc (hG.fine hC).1 hG.two (by simp [lineL]) ?_
  have := lineT_formed (s := 1) (t := meanR b - 1 * meanR a) (by decide) NM0 (by decide : (1 : Nat) ≠ 0) (one_grid _) gt (by rw [inv_one]; exact one_grid 1) (by omega) (by omega) (by omega) (by omega) (by omega)
  rw [inv_one, Rat.mul_one] at this
  rw [this]
  congr 4
  grind
theorem linear_all {a b : List Int} (sa : Seven a) (sb : Seven b) (hda : devR a ≠ 0) (hdb : devR b ≠ 0) : equating_Linear fuel a b = some ((lineL (devR b / devR a) (meanR b - devR b / devR a * meanR a)).map enc, 0) ∧
    conversion_Inverse fuel ((lineL (devR b / devR a) (meanR b - devR b / devR a * meanR a)).map enc) = some ((lineL (devR a / devR b) (meanR a - devR a / devR b * meanR b)).map enc, 0) ∧
    conversion_Normal fuel ((lineL (devR b / devR a) (meanR b - devR b / devR a * meanR a)).map enc) = some ((normalL (lineL (devR b / devR a) (meanR b - devR b / devR a * meanR a))).map enc, 0) := by
  have fa := sa.few
  have fb := sb.few
  have a0 : a.sum ≠ 0 := by have := sa.pos; omega
  have b0 : b.sum ≠ 0 := by have := sb.pos; omega
  obtain ⟨N, hN⟩ : ∃ N, N = a.sum.toNat := ⟨_, rfl⟩
  obtain ⟨M, hM⟩ : ∃ M, M = b.sum.toNat := ⟨_, rfl⟩
  have hN1 : 1 ≤ N ∧ N ≤ 42 := by have := sa.pos; have := sa.sum; omega
  have hM1 : 1 ≤ M ∧ M ≤ 42 := by have := sb.pos; have := sb.sum; omega
  have gp := sa.mean
  have gq := sb.mean
  have gu := sa.dev
  have gv := sb.dev
  have mp := mean_mul sa.pos
  have mq := mean_mul sb.pos
  rw [← hN] at gp gu mp
  rw [← hM] at gq gv mq
  have du := dev_mul sa.pos
  have dv := dev_mul sb.pos
  rw [← hN] at du
  rw [← hM] at dv
  have u0 := dev_nonneg sa
  have v0 := dev_nonneg sb
  have NN := mul_le2 hN1.2 hN1.2
  have MM := mul_le2 hM1.2 hM1.2
  have NN0 : N * N ≠ 0 := Nat.mul_ne_zero (by omega) (by omega)
  have MM0 : M * M ≠ 0 := Nat.mul_ne_zero (by omega) (by omega)
  obtain ⟨FA, hFA⟩ : ∃ FA, FA = (farS a.sum (pts a 0) a 0).toNat := ⟨_, rfl⟩
  obtain ⟨FB, hFB⟩ : ∃ FB, FB = (farS b.sum (pts b 0) b 0).toNat := ⟨_, rfl⟩
  have ffa := fa.far
  have ffb := fb.far
  have cfa : (farS a.sum (pts a 0) a 0 : Rat) = (FA : Rat) := by
    rw [show farS a.sum (pts a 0) a 0 = ((FA : Nat) : Int) by omega, Rat.intCast_natCast]
  have cfb : (farS b.sum (pts b 0) b 0 : Rat) = (FB : Rat) := by
    rw [show farS b.sum (pts b 0) b 0 = ((FB : Nat) : Int) by omega, Rat.intCast_natCast]
  rw [cfa] at du
  rw [cfb] at dv
  have hFA1 : FA ≠ 0 := fun h => by
    rw [h] at du
    have := natCast_ne NN0
    have e : devR a * ((N * N : Nat) : Rat) = 0 := du
    rcases Rat.mul_eq_zero.1 e with h' | h'
    · exact hda h'
    · exact this h'
  have hFB1 : FB ≠ 0 := fun h => by
    rw [h] at dv
    have := natCast_ne MM0
    have e : devR b * ((M * M : Nat) : Rat) = 0 := dv
    rcases Rat.mul_eq_zero.1 e with h' | h'
    · exact hdb h'
    · exact this h'
  have bFA : FA ≤ 12348 := by have := sa.far; omega
  have bFB : FB ≤ 12348 := by have := sb.far; omega
  obtain ⟨s, hs⟩ : ∃ s, s = devR b / devR a := ⟨_, rfl⟩
  have hsm : s * devR a = devR b := by rw [hs]; exact Rat.div_mul_cancel hda
  have upos : 0 < devR a := by grind
  have vpos : 0 < devR b := by grind
  have spos : 0 < s := (Rat.mul_pos_iff_of_pos_right upos).1 (by rw [hsm]; exact vpos)
  have gs : Grid (M * M * FA) (FB * (N * N)) s := by
    refine ⟨((FB * (N * N) : Nat) : Int), ?_, by omega⟩
    rw [Rat.intCast_natCast, Rat.natCast_mul, Rat.natCast_mul FB, ← du, ← dv, ← hsm]
    generalize ((N * N : Nat) : Rat) = z
    generalize ((M * M : Nat) : Rat) = w
    grind
  obtain ⟨s', hs'⟩ : ∃ s', s' = devR a / devR b := ⟨_, rfl⟩
  have hsm' : s' * devR b = devR a := by rw [hs']; exact Rat.div_mul_cancel hdb
  have hinv : s⁻¹ = s' := by
    have h1 := Rat.mul_inv_cancel s (by grind)
    have h2 : s' * s = 1 := by
      have : (s' * s - 1) * devR a = 0 := by grind
      rcases Rat.mul_eq_zero.1 this with h | h
      · grind
      · exact absurd h hda
    generalize s⁻¹ = r at *
    have : s' * (s * r) = s' * 1 := by rw [h1]
    grind
  have gs' : Grid (N * N * FB) (FA * (M * M)) s' := by
    refine ⟨((FA * (M * M) : Nat) : Int), ?_, by omega⟩
    rw [Rat.intCast_natCast, Rat.natCast_mul, Rat.natCast_mul FA, ← du, ← dv, ← hsm']
    generalize ((N * N : Nat) : Rat) = z
    generalize ((M * M : Nat) : Rat) = w
    grind
  have E1 := mul_le2 MM bFA
  have E2 := mul_le2 NN bFB
  have F1 := mul_le2 bFB NN
  have F2 := mul_le2 bFA MM
  have E0 : M * M * FA ≠ 0 := Nat.mul_ne_zero MM0 hFA1
  have G0 : N * N * FB ≠ 0 := Nat.mul_ne_zero NN0 hFB1
  -- the value at 0, on the grid of the slope
  have gt : Grid (M * M * FA) (252 * (M * FA) + 252 * (N * FB)) (meanR b - s * meanR a) := by
    obtain ⟨P, hP⟩ : ∃ P : Int, P = pts a 0 := ⟨_, rfl⟩
    obtain ⟨Q, hQ⟩ : ∃ Q : Int, Q = pts b 0 := ⟨_, rfl⟩
    rw [← hP] at mp
    rw [← hQ] at mq
    have bP := sa.pts
    have bQ := sb.pts
    have bP0 := fa.pts
    have bQ0 := fb.pts
    rw [← hP] at bP bP0
    rw [← hQ] at bQ bQ0
    refine ⟨Q * ((M * FA : Nat) : Int) - P * ((N * FB : Nat) : Int), ?_, ?_⟩
    · have e1 : s * ((M * M * FA : Nat) : Rat) = ((FB * (N * N) : Nat) : Rat) := by
        rw [Rat.natCast_mul, Rat.natCast_mul FB, ← du, ← dv, ← hsm]
        generalize ((N * N : Nat) : Rat) = z
        generalize ((M * M : Nat) : Rat) = w
        grind
      rw [Rat.intCast_sub, Rat.intCast_mul, Rat.intCast_mul, Rat.intCast_natCast, Rat.intCast_natCast, ← mp, ← mq]
      have e2 : (meanR b - s * meanR a) * ((M * M * FA : Nat) : Rat) = meanR b * ((M * M * FA : Nat) : Rat) - meanR a * (s * ((M * M * FA : Nat) : Rat)) := by grind
      rw [e2, e1]
      simp only [Rat.natCast_mul]
      grind
    · have h1 := mul_le2 (show Q.natAbs ≤ 252 by omega) (show M * FA ≤ M * FA by omega)
      have h2 := mul_le2 (show P.natAbs ≤ 252 by omega) (show N * FB ≤ N * FB by omega)
      have h3 : (Q * ((M * FA : Nat) : Int)).natAbs ≤ 252 * (M * FA) := by rw [Int.natAbs_mul, Int.natAbs_natCast]; exact h1
      have h4 : (P * ((N * FB : Nat) : Int)).natAbs ≤ 252 * (N * FB) := by rw [Int.natAbs_mul, Int.natAbs_natCast]; exact h2
      omega
  have T1 := mul_le2 hM1.2 bFA
  have T2 := mul_le2 hN1.2 bFB
  have hform := lineT_formed spos E0 G0 gs gt (by rw [hinv]; exact gs') (by omega) (by omega) (by omega) (by omega) (by omega)
  -- the curve itself
  obtain ⟨E, hE⟩ : ∃ E, E = M * M * FA := ⟨_, rfl⟩
  obtain ⟨F, hF⟩ : ∃ F, F = FB * (N * N) := ⟨_, rfl⟩
  have D0 : N * N * E ≠ 0 := Nat.mul_ne_zero NN0 (by omega)
  have D1 := mul_le2 NN (show E ≤ 21781872 by omega)
  have hK : M * (N * N * M * FA) = N * N * E := by rw [hE]; ac_rfl
  have hK2 : E * N * N = N * N * E := by ac_rfl
  rw [← hE, ← hF] at gs
  have gsp : Grid (N * N * E) (F * 252 * N) (s * meanR a) := ((gs.mul gp).up N).cast hK2
  have gqq : Grid (N * N * E) (252 * (N * N * M * FA)) (meanR b) := (gq.up (N * N * M * FA)).cast hK
  have gss : Grid (N * N * E) (F * (N * N)) s := (gs.up (N * N)).cast (Nat.mul_comm E (N * N))
  have q1 : F * 252 * N ≤ 230539333248 := by
    have := mul_le2 (show F * 252 ≤ 5489031744 by omega) hN1.2
    omega
  have q2 : 252 * (N * N * M * FA) ≤ 230539333248 := by
    have h1 := mul_le2 NN hM1.2
    have h2 := mul_le2 (show N * N * M ≤ 74088 by omega) bFA
    omega
  have q3 : F * (N * N) ≤ 38423222208 := by
    have := mul_le2 (show F ≤ 21781872 by omega) NN
    omega
  have gtt : Grid (N * N * E) (252 * (N * N * M * FA) + F * 252 * N) (meanR b - s * meanR a) := gqq.sub gsp
  have eD := mul_le2 (show E ≤ 21781872 by omega) hN1.2
  have dd := mul_le2 MM (show (12348 : Nat) ≤ 12348 by omega)
  set_option maxRecDepth 20000 in
  have hL := ELinear_ok fa fb a0 b0 hda hdb (by rw [← hs]; exact spos) (Di.of gv gu MM0 NN0 hda (by omega) (by omega) (by omega) (by omega) (by omega) (by omega)) (by rw [← hs]; exact Mu.of gs gp (by omega) (by omega) (by omega) (by omega) (by omega) (by omega)) (by rw [← hs]; exact Ad.of gqq (grid_neg gsp) D0 (by omega) (by omega) (by omega)) (by rw [← hs]; exact Ad.of gss gtt D0 (by omega) (by omega) (by omega))
  have hG2 := lineL_grid (s := s) (D := N * N) (E := E) (F := F) spos gs gtt
  have hC2 : Coarse (N * N) E (N * N) (F * (N * N) + (252 * (N * N * M * FA) + F * 252 * N)) F 30000 := coarse_of NN0 (by omega) (by omega) (by omega) (by omega) (by omega) (by omega) (by omega)
  have hNo := CNormal_ok hG2 hC2 (by omega) (by simp [lineL])
  rw [← hs] at hL ⊢
  rw [← hs']
  refine ⟨hL, Inverse_of hG2.asc (hG2.fine hC2).1 hG2.two (by simp [lineL]) ?_, hNo⟩
  rw [hform, hinv]
  congr 4
  have h2 : s' * s = 1 := by rw [← hinv, Rat.mul_comm]; exact Rat.mul_inv_cancel s (by grind)
  have e1 : (meanR b - s * meanR a) * s' = meanR b * s' - meanR a * (s' * s) := by grind
  rw [e1, h2]
  grind
end Go.VM
namespace Go.VM
set_option linter.unusedVariables false
set_option linter.unusedSimpArgs false
theorem sane34_ok : law34_sane fuel = some true := by decide +kernel
theorem line_len (s t : Rat) : (normalL (lineL s t)).length ≤ 1000 := by
  have := normal_len (lineL s t)
  simp [lineL] at this ⊢
  omega
theorem pure_EquatingBack (t : List Int) (ht : ∀ x ∈ t, fitsI .i64 x) (hl : t.length * 8 ≤ 140737488351232) (kind : Int) (hkind : fitsI .u8 kind) : ∃ k, law34_EquatingBack k t kind = some true := by
  refine ⟨fuel, Ok.eq ?_⟩
  unfold law34_EquatingBack mark_Light mark_Roll
  simp only [Option.bind_some, u0_mk]
  refine ok_bif (fun hc => by rw [sane34_ok]; exact Ok.ret rfl) fun hc => ?_
  have hx : t.length ≤ 600 := by simp only [Bool.not_eq_false', decide_eq_true_iff] at hc; omega
  refine Dist_then hx (Int.le_refl _) (by unfold fuel; omega) (by omega) (by omega) fun a j hMa hj => ?_
  refine Dist_then hx hj (by unfold fuel; omega) (by omega) (by omega) fun b j hMb hj => ?_
  have hk8 := fits8.1 hkind
  obtain ⟨r, hr⟩ : ∃ r, r = IntKind.wrap .i64 (Int.tmod kind 3) := ⟨_, rfl⟩
  have hr3 : r = 0 ∨ r = 1 ∨ r = 2 := by
    rw [Int.tmod_eq_emod_of_nonneg hk8.1, w64 (by omega) (by omega)] at hr
    omega
  rw [← hr]
  have fin : ∀ (C V N : List Pt), equating_Equate fuel r a b = some (C.map enc, 0) → equating_Equate fuel r b a = some (V.map enc, 0) → conversion_Inverse fuel (C.map enc) = some (V.map enc, 0) → conversion_Normal fuel (V.map enc) = some (N.map enc, 0) → N.length ≤ 1000 →
      Ok (Option.bind (equating_Equate fuel r a b) (uc fun r112 => fun r134 => Option.bind (equating_Equate fuel r b a) (uc fun r113 => fun r135 => Option.bind (bif (r134 != 0) then some (r, true) else some (r, (r135 != 0)) : Option (Int × Bool)) (uc fun k13 => fun x12 => bif x12 then blet ((r134 == r135) && (r134 == 10)) fun x16 => blet (x16 && (k13 == 1)) fun x17 => Option.bind (bif x17 then Option.bind (law34_sane fuel) (fun r116 => some r116) else some false : Option (Bool)) (fun x18 => some x18) else Option.bind (conversion_Inverse fuel r112) (uc fun r136 => fun r142 => Option.bind (bif (r142 == 0) then Option.bind (conversion_Same fuel r113 r136) (fun r1110 => some r1110) else some false : Option (Bool)) (fun x19 => Option.bind (bif x19 then Option.bind (law34_sane fuel) (fun r119 => some r119) else some false : Option (Bool)) (fun x20 => some x20))))))) (fun x => x = true) := by
    intro C V N e1 e2 e3 e4 e5
    rw [e1, e2]
    simp only [Option.bind_some, uc_mk, bne_self_eq_false, cond_false]
    rw [e3]
    simp only [Option.bind_some, uc_mk, beq_self_eq_true, cond_true]
    rw [Same_ok e4 e4 e5, sane34_ok]
    exact Ok.ret rfl
  rcases hr3 with rfl | rfl | rfl
  · have sa := seven hMa
    have sb := seven hMb
    obtain ⟨m1, m2, _⟩ := mean_all sa sb
    obtain ⟨m3, _, m4⟩ := mean_all sb sa
    refine fin _ _ _ ?_ ?_ m2 m4 (line_len _ _)
    · unfold equating_Equate
      rw [beq_self_eq_true, cond_true, m1]
      rfl
    · unfold equating_Equate
      rw [beq_self_eq_true, cond_true, m3]
      rfl
  · have sa := seven hMa
    have sb := seven hMb
    have a0 : a.sum ≠ 0 := by have := sa.pos; omega
    have b0 : b.sum ≠ 0 := by have := sb.pos; omega
    by_cases hd : devR a = 0 ∨ devR b = 0
    · have e1 : equating_Equate fuel 1 a b = some ([], 10) := by
        unfold equating_Equate
        rw [show ((1 : Int) == 0) = false from rfl, cond_false, beq_self_eq_true, cond_true, ELinear_no sa.few sb.few a0 b0 hd]
        rfl
      have e2 : equating_Equate fuel 1 b a = some ([], 10) := by
        unfold equating_Equate
        rw [show ((1 : Int) == 0) = false from rfl, cond_false, beq_self_eq_true, cond_true, ELinear_no sb.few sa.few b0 a0 (hd.symm)]
        rfl
      rw [e1, e2]
      simp only [Option.bind_some, uc_mk]
      rw [show ((10 : Int) != 0) = true from rfl]
      simp only [cond_true, Option.bind_some, uc_mk, beq_self_eq_true, Bool.and_true, blet_mk]
      rw [sane34_ok]
      exact Ok.ret rfl
    · obtain ⟨hda, hdb⟩ : devR a ≠ 0 ∧ devR b ≠ 0 := ⟨fun h => hd (.inl h), fun h => hd (.inr h)⟩
      obtain ⟨m1, m2, _⟩ := linear_all sa sb hda hdb
      obtain ⟨m3, _, m4⟩ := linear_all sb sa hdb hda
      refine fin _ _ _ ?_ ?_ m2 m4 (line_len _ _)
      · unfold equating_Equate
        rw [show ((1 : Int) == 0) = false from rfl, cond_false, beq_self_eq_true, cond_true, m1]
        rfl
      · unfold equating_Equate
        rw [show ((1 : Int) == 0) = false from rfl, cond_false, beq_self_eq_true, cond_true, m3]
        rfl
  · have sa := full hMa
    have sb := full hMb
    obtain ⟨m1, m2, _, _⟩ := perc_all sa sb
    obtain ⟨m3, _, m4, m5⟩ := perc_all sb sa
    refine fin _ _ _ ?_ ?_ m2 m4 (by omega)
    · unfold equating_Equate
      rw [show ((2 : Int) == 0) = false from rfl, cond_false, show ((2 : Int) == 1) = false from rfl, cond_false, beq_self_eq_true, cond_true, m1]
      rfl
    · unfold equating_Equate
      rw [show ((2 : Int) == 0) = false from rfl, cond_false, show ((2 : Int) == 1) = false from rfl, cond_false, beq_self_eq_true, cond_true, m3]
      rfl
end Go.VM
