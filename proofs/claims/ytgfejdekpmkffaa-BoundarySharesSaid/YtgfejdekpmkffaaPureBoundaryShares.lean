/- The pure statement of BoundaryShares: whatever the numbers, the printed function answers true. -/
import Derived.Test.YtgfejdekpmkffaaBPBoundB
namespace Go.VM
set_option linter.unusedVariables false
set_option linter.unusedSimpArgs false
theorem sane35_ok : law35_sane 1000000 = some true := by decide +kernel
theorem lreach_ok {k : Nat} {d : List Int} {b : Int} (h : Few d) (hk : 50 < k) : law35_BoundaryShares_1 k b d.sum d = some (reach d b) := by
  unfold law35_BoundaryShares_1 reach
  have h1 := h.take b.toNat
  have h2 := h.sum
  rw [rBelow_ok h hk, Option.bind_some, w64 (by omega) (by omega)]
theorem lfar_ok {k : Nat} {d : List Int} {b x : Int} (h : Few d) (hk : 50 < k) (hx : 0 ≤ x) (hx2 : x ≤ 12) (hb : 0 ≤ b) : law35_BoundaryShares_2 k b x d.sum d = some (far d x 12 b.toNat : Int) := by
  unfold law35_BoundaryShares_2
  have hr := reach_bound h b
  have hs := h.sum
  have m1 : 0 ≤ x * d.sum ∧ x * d.sum ≤ 12 * 40000 := ⟨Int.mul_nonneg hx hs.1, Int.mul_le_mul hx2 hs.2 hs.1 (by omega)⟩
  rw [lreach_ok h hk]
  simp only [Option.bind_some, gmax_def]
  unfold far
  rw [show ((b.toNat : Nat) : Int) = b by omega]
  rw [w64 (x := reach d b * 12) (by omega) (by omega), w64 (x := x * d.sum) (by omega) (by omega), w64 (x := reach d b * 12 - x * d.sum) (by omega) (by omega), w64 (x := x * d.sum - reach d b * 12) (by omega) (by omega)]
  congr 1
  omega
theorem pure_BoundaryShares (t : List Int) (ht : ∀ x ∈ t, fitsI .i64 x) (hl : t.length * 8 ≤ 140737488351232) (n : Int) (hn : fitsI .u8 n) : ∃ k, law35_BoundaryShares k t n = some true := by
  refine ⟨1000000, Ok.eq ?_⟩
  rw [fits8] at hn
  unfold law35_BoundaryShares mark_Light mark_Roll
  simp only [Option.bind_some, u0_mk]
  refine ok_bif (fun hc => by rw [sane35_ok]; exact Ok.ret rfl) fun hc => ?_
  have hx : t.length ≤ 600 := by simp only [Bool.not_eq_false', decide_eq_true_iff] at hc; omega
  refine Dist_then hx (Int.le_refl _) (by omega) (by omega) (by omega) fun d j hM hj => ?_
  have hd := hM.few (by omega)
  have hds := hd.sum
  have hdl := hd.2.1
  rw [rCount_ok hd (by omega), Int.tmod_eq_emod_of_nonneg hn.1, w64 (x := n % 13) (by omega) (by omega), rNew_ok (by omega) (by omega) (by omega) (by omega) (by omega)]
  simp only [Option.bind_some, uc_mk]
  have hm2 : 0 ≤ n % 13 ∧ n % 13 ≤ 12 := by omega
  generalize n % 13 = m at *
  by_cases hs : d.sum = 0
  · have e1 : boundary_Share 1000000 d (rnum m 12) (rden m 12) = some (0, 10) := by
      unfold boundary_Share
      rw [bcheck_ok hd hm2.1 hm2.2 (by omega) (by omega) (by omega) (by decide), if_pos hs]
      rfl
    have e2 : boundary_Nearest 1000000 d (rnum m 12) (rden m 12) = some (0, 10) := by
      unfold boundary_Nearest
      rw [bcheck_ok hd hm2.1 hm2.2 (by omega) (by omega) (by omega) (by decide), if_pos hs]
      rfl
    rw [e1, e2]
    simp only [Option.bind_some, uc_mk, hs, bne_self_eq_false, cond_false, beq_self_eq_true, cond_true, blet_mk, Bool.and_true, sane35_ok]
    exact Ok.ret rfl
  · refine Ok.bind (Share_ok hd hm2.1 hm2.2 (by omega) (by omega) (by omega) (by decide) hs) fun r hr => ?_
    obtain ⟨b, e⟩ := r
    obtain ⟨g1, g2, g3, g4, g5⟩ := hr
    simp only at g1 g2 g3 g4 g5
    subst g1
    rw [uc_mk, Nearest_ok hd hm2.1 hm2.2 (by omega) (by omega) (by omega) (by decide) hs]
    simp only [Option.bind_some, uc_mk, bne_self_eq_false, cond_false, blet_mk, Bool.or_false]
    rw [show (d.sum == 0) = false by rw [beq_int]; exact decide_eq_false hs, cond_false, lreach_ok hd (by omega)]
    have hr1 := reach_bound hd b
    have hr2 := reach_bound hd (b + 1)
    have m1 : 0 ≤ m * d.sum ∧ m * d.sum ≤ 12 * 40000 := ⟨Int.mul_nonneg hm2.1 hds.1, Int.mul_le_mul hm2.2 hds.2 hds.1 (by omega)⟩
    simp only [Option.bind_some]
    rw [w64 (x := reach d b * 12) (by omega) (by omega), w64 (x := m * d.sum) (by omega) (by omega), w64 (x := b + 1) (by omega) (by omega), lreach_ok hd (by omega)]
    rw [show decide (reach d b * 12 < m * d.sum) = false from decide_eq_false (by omega), cond_false, Option.bind_some]
    rw [w64 (x := reach d (b + 1) * 12) (by omega) (by omega)]
    have e3 : (bif decide (b < (d.length : Int)) then some (decide (reach d (b + 1) * 12 ≥ m * d.sum)) else some false : Option Bool) = some false := by
      by_cases hb : b < d.length
      · rw [decide_eq_true hb, cond_true]
        have := g5 hb
        rw [show decide (reach d (b + 1) * 12 ≥ m * d.sum) = false from decide_eq_false (by omega)]
      · rw [decide_eq_false hb, cond_false]
    refine Ok.bind (Q := fun r => r = false) (Ok.mk (by rw [e3]; rfl) rfl) fun r hr => ?_
    subst hr
    rw [cond_false]
    refine ok_sum (Q := fun (_ : Unit) => True) (R := fun (_ : Bool) => False) (ok_loop (fun s => 0 ≤ s.1 ∧ s.1 ≤ d.length + 1 ∧ s.2 = m) (fun s => (d.length + 1 - s.1).toNat) ⟨Int.le_refl _, by dsimp only; omega, rfl⟩ (by dsimp only; omega) ?_) (fun _ _ => ?_) fun _ h => h.elim
    · intro again s hs' hag
      obtain ⟨y, z⟩ := s
      obtain ⟨q1, q2, q3⟩ := hs'
      simp only at q1 q2 q3
      subst q3
      simp only [law35_BoundaryShares_b1, uc_mk]
      refine ok_bif (fun hc' => ?_) fun hc' => Ok.ret trivial
      have hy := of_decide_eq_true hc'
      have hle := least_le (far d z 12) d.length
      have hmin := least_min (far d z 12) d.length y.toNat (by omega)
      rw [lfar_ok hd (by omega) hm2.1 hm2.2 q1, lfar_ok hd (by omega) hm2.1 hm2.2 (by omega)]
      simp only [Option.bind_some, Int.toNat_natCast]
      have e5 : nearest d z 12 = least (far d z 12) d.length := rfl
      rw [← e5] at hmin hle
      rw [show decide (((far d z 12 y.toNat : Nat) : Int) < ((far d z 12 (nearest d z 12) : Nat) : Int)) = false from decide_eq_false (by omega), cond_false, blet_mk]
      have e4 : ((((far d z 12 y.toNat : Nat) : Int) == ((far d z 12 (nearest d z 12) : Nat) : Int)) && decide (y < ((nearest d z 12 : Nat) : Int))) = false := by
        rw [beq_int, Bool.and_eq_false_iff, decide_eq_false_iff_not, decide_eq_false_iff_not]
        by_cases hlt : y < ((nearest d z 12 : Nat) : Int)
        · left
          have := hmin.2 (by omega)
          omega
        · right; exact hlt
      rw [e4, Option.bind_some, cond_false, w64 (x := y + 1) (by omega) (by omega)]
      exact hag _ ⟨by dsimp only; omega, by dsimp only; omega, rfl⟩ (by dsimp only; omega)
    · simp only [u0_mk, sane35_ok, Option.bind_some]
      exact Ok.ret rfl
end Go.VM
