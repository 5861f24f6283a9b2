/- The pure statement of DistributionQuantiles: whatever the numbers, the printed function answers true. -/
import Derived.Test.YtmnpognjbfjhbaaDPDistA
import Derived.Test.YtmnpognjbfjhbaaDPRatioC
namespace Go.VM
set_option linter.unusedVariables false
set_option linter.unusedSimpArgs false
theorem sane32_ok : law32_sane 1000000 = some true := by decide +kernel
theorem check_ok {k : Nat} {d : List Int} (h : Few d) (hk : 50 < k) : distribution_check k d = some (if d.sum = 0 then 10 else 0) := by
  unfold distribution_check
  rw [Valid_ok h hk, Count_ok h hk]
  simp only [Option.bind_some, Bool.not_true, cond_false, beq_int]
  by_cases h0 : d.sum = 0
  · rw [decide_eq_true h0, cond_true, if_pos h0]
  · rw [decide_eq_false h0, cond_false, if_neg h0]
/-- The quantile of a share: the first score up to which there are as many. -/
theorem Quantile_ok {k : Nat} {d : List Int} {p q : Int} (h : Few d) (hf : Frac p q) (h0 : 0 ≤ p) (h1 : p ≤ q) (hk : 100000 < k) (hkq : q.toNat < k) (hs : d.sum ≠ 0) :
    Ok (distribution_Quantile k d p q) (fun r => r.2 = 0 ∧ 0 ≤ r.1 ∧ r.1 < d.length ∧ p * d.sum ≤ (d.take (r.1.toNat + 1)).sum * q ∧ (r.1 ≠ 0 → (d.take r.1.toNat).sum * q < p * d.sum)) := by
  have hl := h.2.1
  have hds := h.sum
  unfold distribution_Quantile
  rw [Valid_ok h (by omega), rValidR_ok hf hkq, check_ok h (by omega), Count_ok h (by omega), if_neg hs]
  simp only [Option.bind_some, Bool.not_true, cond_false, bne_self_eq_false, blet_mk]
  rw [show decide (p < 0) = false from decide_eq_false (by omega), show decide (p > q) = false from decide_eq_false (by omega)]
  simp only [Bool.or_false, cond_false]
  refine ok_sum (Q := fun (_ : Unit) => False) (R := fun (r : Int × Int) => r.2 = 0 ∧ 0 ≤ r.1 ∧ r.1 < d.length ∧ p * d.sum ≤ (d.take (r.1.toNat + 1)).sum * q ∧ (r.1 ≠ 0 → (d.take r.1.toNat).sum * q < p * d.sum)) (ok_range d (fun s => s.2) (fun pre s => s.1 = pre.sum ∧ (s.2 ≠ 0 → pre.sum * q < p * d.sum)) (by omega) rfl ⟨rfl, fun h => absurd rfl h⟩ (by omega) ?_ ?_) (fun _ h => h.elim) fun r hr => Ok.ret hr
  · intro again s pre e post hl' hi hlt hw hinv hag
    obtain ⟨n, i⟩ := s
    obtain ⟨g1, g2⟩ := hinv
    simp only at hi hlt hw g1 g2
    simp only [distribution_Quantile_b1, uc_mk]
    rw [dec_lt hlt, cond_true, gidx_mid hl' hi, hw]
    have he := h.2.2 e (by rw [hl']; simp)
    have hb := h.bound hl'
    have hb2 := h.bound (pre := pre ++ [e]) (post := post) (by simp [hl'])
    rw [List.sum_append] at hb2
    simp only [List.sum_cons, List.sum_nil, Int.add_zero] at hb2
    have hin : i.toNat = pre.length := by omega
    have t0 : d.take i.toNat = pre := by rw [hin, hl']; simp
    have t1 : (d.take (i.toNat + 1)).sum = pre.sum + e := by
      rw [hin, hl', show pre ++ e :: post = (pre ++ [e]) ++ post by simp, List.take_left' (by simp), List.sum_append]
      simp
    rw [w64 (x := n + e) (by omega) (by omega), New_ok (by omega) (by omega) (by omega) (by omega) (by omega)]
    simp only [Option.bind_some, uc_mk]
    have hfr := frac_new (n := n + e) (d := d.sum) (by omega) (by omega) (by omega) (by omega)
    rw [Less_ok hfr hf (by have := rden_le (n := n + e) (d := d.sum) (by omega); omega) hkq, Option.bind_some]
    have hless := rlessl (n := n + e) (d := d.sum) (m := p) (e := q) (by omega)
    refine ok_bif (fun hc => Ok.ret ⟨rfl, by dsimp only; omega, hlt, ?_, fun hne => ?_⟩) fun hc => hag _ rfl ⟨by simp [g1, List.sum_append], fun _ => ?_⟩
    · have hc' : ¬ (rnum (n + e) d.sum * q < p * rden (n + e) d.sum) := by simpa using hc
      dsimp only
      rw [t1, ← g1]
      omega
    · dsimp only
      rw [t0]
      exact g2 hne
    · have hc' : rnum (n + e) d.sum * q < p * rden (n + e) d.sum := by simpa using hc
      rw [List.sum_append]
      simp only [List.sum_cons, List.sum_nil, Int.add_zero]
      rw [← g1]
      exact hless.1 hc'
  · intro again s hi hinv
    obtain ⟨n, i⟩ := s
    obtain ⟨g1, g2⟩ := hinv
    simp only at hi g1 g2
    have := g2 (by have := h.1; omega)
    have h3 : p * d.sum ≤ q * d.sum := Int.mul_le_mul_of_nonneg_right h1 hds.1
    rw [Int.mul_comm q] at h3
    omega
theorem pure_DistributionQuantiles (t : List Int) (ht : ∀ x ∈ t, fitsI .i64 x) (hl : t.length * 8 ≤ 140737488351232) (n : Int) (hn : fitsI .u8 n) : ∃ k, law32_DistributionQuantiles k t n = some true := by
  refine ⟨1000000, Ok.eq ?_⟩
  rw [fits8] at hn
  unfold law32_DistributionQuantiles mark_Light mark_Roll
  simp only [Option.bind_some, u0_mk]
  refine ok_bif (fun hc => by rw [sane32_ok]; exact Ok.ret rfl) fun hc => ?_
  have hx : t.length ≤ 600 := by simp only [Bool.not_eq_false', decide_eq_true_iff] at hc; omega
  refine Dist_then hx (Int.le_refl _) (by omega) (by omega) (by omega) fun d j hM hj => ?_
  have hd := hM.few (by omega)
  have hds := hd.sum
  rw [Int.tmod_eq_emod_of_nonneg hn.1, w64 (x := n % 13) (by omega) (by omega), rNew_ok (by omega) (by omega) (by omega) (by omega) (by omega)]
  simp only [Option.bind_some, uc_mk, blet_mk, bne_self_eq_false, Bool.false_or]
  obtain ⟨m, hm⟩ : ∃ m, m = n % 13 := ⟨_, rfl⟩
  rw [← hm]
  have hm2 : 0 ≤ m ∧ m ≤ 12 := by omega
  have hf := frac_new (n := m) (d := 12) hm2.1 (by omega) (by omega) (by omega)
  have hp0 := rnum_le (n := m) (d := 12) hm2.1
  have hpq := rnum_le_rden (n := m) (d := 12) (by omega) hm2.2
  have hq1 := rden_pos (n := m) (d := 12) (by omega)
  have hq2 := rden_le (n := m) (d := 12) (by omega)
  generalize rnum m 12 = p at *
  generalize rden m 12 = q at *
  rw [show decide (p > q) = false from decide_eq_false (by omega)]
  simp only [Bool.false_or]
  by_cases hs : d.sum = 0
  · have : distribution_Quantile 1000000 d p q = some (0, 10) := by
      unfold distribution_Quantile
      rw [Valid_ok hd (by omega), rValidR_ok hf (by omega), check_ok hd (by omega), if_pos hs]
      rfl
    rw [this, Option.bind_some]
    simp only [uc_mk]
    rw [sane32_ok]
    exact Ok.ret rfl
  · refine Ok.bind (Quantile_ok hd hf hp0.1 hpq (by omega) (by omega) hs) fun r hr => ?_
    obtain ⟨s, e⟩ := r
    obtain ⟨h1, h2, h3, h4, h5⟩ := hr
    simp only at h1 h2 h3 h4 h5
    subst h1
    simp only [uc_mk, bne_self_eq_false, cond_false]
    have hl := hd.2.1
    rw [w64 (x := s + 1) (by omega) (by omega), Count_ok hd (by omega), Below_ok hd (by omega), Below_ok hd (by omega), show (s + 1).toNat = s.toNat + 1 by omega]
    simp only [Option.bind_some]
    have b1 := hd.take s.toNat
    have b2 := hd.take (s.toNat + 1)
    have m1 : 0 ≤ (d.take s.toNat).sum * q ∧ (d.take s.toNat).sum * q ≤ 40000 * 12 := ⟨Int.mul_nonneg b1.1 (by omega), Int.mul_le_mul b1.2 (by omega) (by omega) (by omega)⟩
    have m2 : 0 ≤ (d.take (s.toNat + 1)).sum * q ∧ (d.take (s.toNat + 1)).sum * q ≤ 40000 * 12 := ⟨Int.mul_nonneg b2.1 (by omega), Int.mul_le_mul b2.2 (by omega) (by omega) (by omega)⟩
    have m3 : 0 ≤ p * d.sum ∧ p * d.sum ≤ 12 * 40000 := ⟨Int.mul_nonneg (by omega) (by omega), Int.mul_le_mul (by omega) (by omega) (by omega) (by omega)⟩
    rw [w64 (x := (d.take s.toNat).sum * q) (by omega) (by omega), w64 (x := (d.take (s.toNat + 1)).sum * q) (by omega) (by omega), w64 (x := p * d.sum) (by omega) (by omega)]
    rw [decide_eq_true (show (d.take (s.toNat + 1)).sum * q ≥ p * d.sum from h4), cond_true]
    have : (bif (s == 0) then some true else some (decide ((d.take s.toNat).sum * q < p * d.sum)) : Option Bool) = some true := by
      by_cases h0 : s = 0
      · rw [h0]; rfl
      · rw [beq_int, decide_eq_false h0, cond_false, decide_eq_true (h5 h0)]
    rw [this]
    simp only [Option.bind_some, cond_true, sane32_ok]
    exact Ok.ret rfl
end Go.VM
