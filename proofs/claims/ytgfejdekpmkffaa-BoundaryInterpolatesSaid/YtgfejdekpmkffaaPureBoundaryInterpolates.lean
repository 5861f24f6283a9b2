/- The pure statement of BoundaryInterpolates: whatever the numbers, the printed function answers true. -/
import Derived.Test.YtgfejdekpmkffaaBPBoundA
namespace Go.VM
set_option linter.unusedVariables false
set_option linter.unusedSimpArgs false
theorem sane35_ok : law35_sane 1000 = some true := by decide +kernel
theorem step_diff {n h u : Int} (h1 : 1 ≤ n) (h8 : n ≤ 8) : h / n ≤ (u + h + n - 1) / n - (u + n - 1) / n ∧ (u + h + n - 1) / n - (u + n - 1) / n ≤ h / n + 1 := by
  have : n = 1 ∨ n = 2 ∨ n = 3 ∨ n = 4 ∨ n = 5 ∨ n = 6 ∨ n = 7 ∨ n = 8 := by omega
  rcases this with rfl | rfl | rfl | rfl | rfl | rfl | rfl | rfl <;> omega
theorem step_end {n h : Int} (h1 : 1 ≤ n) (h8 : n ≤ 8) : (n * h + n - 1) / n = h ∧ (n - 1) / n = 0 := by
  have : n = 1 ∨ n = 2 ∨ n = 3 ∨ n = 4 ∨ n = 5 ∨ n = 6 ∨ n = 7 ∨ n = 8 := by omega
  rcases this with rfl | rfl | rfl | rfl | rfl | rfl | rfl | rfl <;> omega
def inter (high low n : Int) (i : Nat) : Int := high - ((i : Int) * (high - low) + n - 1) / n
theorem inter_bound {i h n : Int} (h0 : 0 ≤ i) (hi : i ≤ 8) (g0 : 0 ≤ h) (g1 : h ≤ 200) (h1 : 1 ≤ n) (h8 : n ≤ 8) : 0 ≤ i * h ∧ i * h ≤ 1600 ∧ 0 ≤ (i * h + n - 1) / n ∧ (i * h + n - 1) / n ≤ 1607 := by
  have a1 := Int.mul_nonneg h0 g0
  have a2 : i * h ≤ 8 * 200 := Int.mul_le_mul hi g1 g0 (by omega)
  have a3 : 0 ≤ (i * h + n - 1) / n := Int.ediv_nonneg (by omega) (by omega)
  have a4 : (i * h + n - 1) / n ≤ i * h + n - 1 := Int.ediv_le_self _ (by omega)
  omega
theorem Interpolate_ok {k : Nat} {high low n : Int} (g0 : 0 ≤ low) (g1 : low ≤ high) (g2 : high ≤ 200) (h1 : 1 ≤ n) (h8 : n ≤ 8) (hk : 50 < k) : boundary_Interpolate k high low n = some ((List.range (n + 1).toNat).map (inter high low n), 0) := by
  apply Ok.eq
  unfold boundary_Interpolate
  rw [dec_nlt g0, cond_false, In_ok g1 g2, In_ok h1 h8]
  simp only [Option.bind_some, Bool.not_true, cond_false]
  rw [w64 (x := n + 1) (by omega) (by omega)]
  refine Ok.bind (Q := fun r => r = (List.range (n + 1).toNat).map (inter high low n)) (ok_loop (fun s => s.1 = n + 1 ∧ 0 ≤ s.2.1 ∧ s.2.1 ≤ n + 1 ∧ s.2.2 = (List.range s.2.1.toNat).map (inter high low n)) (fun s => (n + 1 - s.2.1).toNat) ⟨rfl, by dsimp only; omega, by dsimp only; omega, rfl⟩ (by dsimp only; omega) ?_) fun r hr => Ok.ret (by rw [hr])
  intro again s hs hag
  obtain ⟨m, i, xs⟩ := s
  obtain ⟨e1, e2, e3, e4⟩ := hs
  simp only at e1 e2 e3 e4
  simp only [boundary_Interpolate_b1, uc_mk]
  refine ok_bif (fun hc => ?_) fun hc => ?_
  · have hc' := of_decide_eq_true hc
    have hb := inter_bound (i := i) (h := high - low) (n := n) e2 (by omega) (by omega) (by omega) h1 h8
    rw [w64 (x := high - low) (by omega) (by omega), w64 (x := i * (high - low)) (by omega) (by omega), w64 (x := i * (high - low) + n) (by omega) (by omega), w64 (x := i * (high - low) + n - 1) (by omega) (by omega), Int.tdiv_eq_ediv_of_nonneg (by omega)]
    rw [w64 (x := (i * (high - low) + n - 1) / n) (by omega) (by omega), w64 (x := high - (i * (high - low) + n - 1) / n) (by omega) (by omega), w64 (x := i + 1) (by omega) (by omega)]
    have hxl : xs.length ≤ 9 := by rw [e4]; simp; omega
    refine ok_nz (by omega) (ok_cap (by simp; omega) (hag _ ⟨e1, by dsimp only; omega, by dsimp only; omega, ?_⟩ (by dsimp only; omega)))
    dsimp only
    rw [show (i + 1).toNat = i.toNat + 1 by omega, List.range_succ, List.map_append, ← e4]
    simp only [List.map_cons, List.map_nil, inter]
    rw [show ((i.toNat : Nat) : Int) = i by omega]
  · have hc' := of_decide_eq_false hc
    refine Ok.ret ?_
    rw [e4, show i = n + 1 by omega]
theorem pure_BoundaryInterpolates (high : Int) (f0 : fitsI .u8 high) (low : Int) (f1 : fitsI .u8 low) (steps : Int) (f2 : fitsI .u8 steps) : ∃ k, law35_BoundaryInterpolates k high low steps = some true := by
  refine ⟨1000, Ok.eq ?_⟩
  rw [fits8] at f0 f1 f2
  unfold law35_BoundaryInterpolates
  rw [w64 (x := high) (by omega) (by omega), w64 (x := low) (by omega) (by omega), w64 (x := steps) (by omega) (by omega)]
  rw [Int.tmod_eq_emod_of_nonneg f0.1, Int.tmod_eq_emod_of_nonneg f1.1, Int.tmod_eq_emod_of_nonneg f2.1]
  obtain ⟨lo, hlo⟩ : ∃ lo, lo = low % 100 := ⟨_, rfl⟩
  obtain ⟨h, hh⟩ : ∃ h, h = high % 100 := ⟨_, rfl⟩
  obtain ⟨n, hn⟩ : ∃ n, n = 1 + steps % 8 := ⟨_, rfl⟩
  rw [← hlo, ← hh, ← hn]
  have b1 : 0 ≤ lo ∧ lo ≤ 99 := by omega
  have b2 : 0 ≤ h ∧ h ≤ 99 := by omega
  have b3 : 1 ≤ n ∧ n ≤ 8 := by omega
  clear hlo hh hn
  rw [w64 (x := lo + h) (by omega) (by omega), w64 (x := n) (by omega) (by omega), w64 (x := n + 1) (by omega) (by omega)]
  rw [Interpolate_ok b1.1 (by omega) (by omega) b3.1 b3.2 (by omega)]
  obtain ⟨L, hL⟩ : ∃ L, L = (List.range (n + 1).toNat).map (inter (lo + h) lo n) := ⟨_, rfl⟩
  rw [← hL]
  have hlen : (L.length : Int) = n + 1 := by rw [hL]; simp; omega
  have hget : ∀ (i : Nat) (hi : i < L.length), L[i] = inter (lo + h) lo n i := fun i hi => by simp [hL]
  simp only [Option.bind_some, uc_mk, bne_self_eq_false, cond_false, hlen]
  have hse := step_end (h := h) b3.1 b3.2
  refine Ok.bind (Q := fun r => r = false) (ok_idx (Int.le_refl _) (by omega) fun hi => Ok.ret ?_) fun r hr => ?_
  · rw [hget]
    simp only [inter, Int.toNat_zero, Int.natCast_zero, Int.ofNat_zero, Int.zero_mul, Int.zero_add]
    rw [hse.2, bne_int]
    simp
  subst hr
  simp only [cond_false]
  refine Ok.bind (Q := fun r => r = false) (ok_idx (by omega) (by omega) fun hi => Ok.ret ?_) fun r hr => ?_
  · rw [hget]
    simp only [inter]
    rw [show ((n.toNat : Nat) : Int) = n by omega, show lo + h - lo = h by omega, hse.1, bne_int]
    simp
  subst hr
  simp only [cond_false]
  have hq : 0 ≤ h / n ∧ h / n ≤ 99 := ⟨Int.ediv_nonneg (by omega) (by omega), by have := Int.ediv_le_self n b2.1; omega⟩
  refine Ok.bind (Q := fun r => h / n ≤ r.1 ∧ r.1 ≤ 200 ∧ 0 ≤ r.2 ∧ r.2 ≤ h / n + 1) (ok_loop (fun s => (h / n ≤ s.1 ∧ s.1 ≤ 200 ∧ 0 ≤ s.2.1 ∧ s.2.1 ≤ h / n + 1) ∧ 1 ≤ s.2.2 ∧ s.2.2 ≤ n + 1) (fun s => (n + 1 - s.2.2).toNat) ⟨⟨by dsimp only; omega, by dsimp only; omega, by dsimp only; omega, by dsimp only; omega⟩, by dsimp only; omega, by dsimp only; omega⟩ (by dsimp only; omega) ?_) fun r hr => ?_
  · intro again s hs hag
    obtain ⟨least, most, i⟩ := s
    obtain ⟨g1, g2, g3⟩ := hs
    simp only at g1 g2 g3
    simp only [law35_BoundaryInterpolates_b1, uc_mk]
    refine ok_bif (fun hc => ?_) fun hc => Ok.ret g1
    have hc' := of_decide_eq_true hc
    rw [w64 (x := i - 1) (by omega) (by omega)]
    refine ok_idx (by omega) (by omega) fun i1 => ok_idx (by omega) (by omega) fun i2 => ?_
    rw [hget, hget]
    simp only [inter]
    rw [show lo + h - lo = h by omega, show (((i - 1).toNat : Nat) : Int) = i - 1 by omega, show ((i.toNat : Nat) : Int) = i by omega]
    have hb1 := inter_bound (i := i) (h := h) (n := n) (by omega) (by omega) (by omega) (by omega) b3.1 b3.2
    have hb2 := inter_bound (i := i - 1) (h := h) (n := n) (by omega) (by omega) (by omega) (by omega) b3.1 b3.2
    have hd := step_diff (h := h) (u := (i - 1) * h) b3.1 b3.2
    have em : (i - 1) * h + h = i * h := by rw [Int.sub_mul]; omega
    rw [em] at hd
    generalize (i * h + n - 1) / n = p at *
    generalize ((i - 1) * h + n - 1) / n = q at *
    rw [w64 (x := lo + h - q - (lo + h - p)) (by omega) (by omega), w64 (x := i + 1) (by omega) (by omega)]
    rw [gmin_def, gmax_def]
    exact hag _ ⟨⟨by dsimp only; omega, by dsimp only; omega, by dsimp only; omega, by dsimp only; omega⟩, by dsimp only; omega, by dsimp only; omega⟩ (by dsimp only; omega)
  · obtain ⟨least, most⟩ := r
    obtain ⟨g1, g2, g3, g4⟩ := hr
    simp only at g1 g2 g3 g4
    simp only [uc_mk]
    rw [show decide (least ≥ 0) = true from decide_eq_true (by omega), cond_true, w64 (x := most - least) (by omega) (by omega), show decide (most - least ≤ 1) = true from decide_eq_true (by omega)]
    simp only [Option.bind_some, cond_true, sane35_ok]
    exact Ok.ret rfl
end Go.VM
