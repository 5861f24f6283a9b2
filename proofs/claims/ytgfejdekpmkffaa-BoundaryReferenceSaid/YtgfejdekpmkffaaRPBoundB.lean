/- Boundaries by shares: plain reasoning about the printed functions. -/
import Derived.Test.YtgfejdekpmkffaaRPBoundA
import Derived.Test.YtgfejdekpmkffaaRPRatioA
namespace Go.VM
set_option linter.unusedVariables false
set_option linter.unusedSimpArgs false

/-- How many reach a boundary. -/
def reach (d : List Int) (b : Int) : Int := d.sum - (d.take b.toNat).sum
theorem reach_bound {d : List Int} (h : Few d) (b : Int) : 0 ≤ reach d b ∧ reach d b ≤ d.sum := by
  unfold reach
  have h1 := h.take b.toNat
  have h2 := take_le (d := d) (fun x hx => (h.2.2 x hx).1) (m := b.toNat) (n := max b.toNat d.length) (by omega)
  rw [take_all (n := max b.toNat d.length) (by omega)] at h2
  omega
theorem reach_anti {d : List Int} (h : ∀ x ∈ d, 0 ≤ x) {a b : Int} (hab : a ≤ b) : reach d b ≤ reach d a := by
  unfold reach
  have := take_le h (m := a.toNat) (n := b.toNat) (by omega)
  omega
theorem reach_ok {k : Nat} {d : List Int} {b : Int} (h : Few d) (hk : 50 < k) : boundary_reach k d b = some (reach d b) := by
  unfold boundary_reach reach
  have h1 := h.take b.toNat
  have h2 := h.sum
  rw [Count_ok h hk, Below_ok h hk, Option.bind_some, Option.bind_some, w64 (by omega) (by omega)]
theorem bcheck_ok {k : Nat} {d : List Int} {n m : Int} (h : Few d) (hn : 0 ≤ n) (hnm : n ≤ m) (hm : 1 ≤ m) (hm2 : m ≤ 2147483647) (hk : 50 < k) (hkm : m.toNat < k) : boundary_check k d (rnum n m) (rden n m) = some (if d.sum = 0 then 10 else 0) := by
  have hf := frac_new (n := n) (d := m) hn (by omega) hm hm2
  have hp := rnum_le (n := n) (d := m) hn
  have hq := rden_le (n := n) (d := m) (by omega)
  have hpq := rnum_le_rden (n := n) (d := m) (by omega) hnm
  unfold boundary_check
  rw [Valid_ok h hk, rValidR_ok hf (by omega), Count_ok h hk]
  simp only [Option.bind_some, Bool.not_true, cond_false, beq_int]
  by_cases h0 : d.sum = 0
  · rw [decide_eq_true h0, cond_true, if_pos h0]
  · rw [decide_eq_false h0, cond_false, if_neg h0, blet_mk]
    rw [show decide (rnum n m < 0) = false from decide_eq_false (by omega), show decide (rnum n m > rden n m) = false from decide_eq_false (by omega)]
    rfl
theorem Share_ok {k : Nat} {d : List Int} {n m : Int} (h : Few d) (hn : 0 ≤ n) (hnm : n ≤ m) (hm : 1 ≤ m) (hm2 : m ≤ 2147483647) (hk : 100000 < k) (hkm : m.toNat < k) (h0 : d.sum ≠ 0) :
    Ok (boundary_Share k d (rnum n m) (rden n m)) (fun r => r.2 = 0 ∧ 0 ≤ r.1 ∧ r.1 ≤ d.length ∧ n * d.sum ≤ reach d r.1 * m ∧ (r.1 < d.length → reach d (r.1 + 1) * m < n * d.sum)) := by
  have hf := frac_new (n := n) (d := m) hn (by omega) hm hm2
  have hq := rden_le (n := n) (d := m) (by omega)
  have hds := h.sum
  have hl := h.2.1
  unfold boundary_Share
  rw [bcheck_ok h hn hnm hm hm2 (by omega) hkm, if_neg h0]
  simp only [Option.bind_some, bne_self_eq_false, cond_false]
  refine ok_sum (Q := fun (_ : Unit) => n * d.sum ≤ reach d 0 * m ∧ (0 < (d.length : Int) → reach d 1 * m < n * d.sum)) (R := fun (r : Int × Int) => r.2 = 0 ∧ 0 ≤ r.1 ∧ r.1 ≤ d.length ∧ n * d.sum ≤ reach d r.1 * m ∧ (r.1 < d.length → reach d (r.1 + 1) * m < n * d.sum)) (ok_loop (fun (b : Int) => 0 ≤ b ∧ b ≤ d.length ∧ (b < d.length → reach d (b + 1) * m < n * d.sum)) (fun b => b.toNat) ⟨by omega, Int.le_refl _, fun h => by omega⟩ (by omega) ?_) (fun _ hr => ?_) fun r hr => ?_
  · intro again b hb hag
    obtain ⟨g1, g2, g3⟩ := hb
    simp only [boundary_Share_b1]
    have hr := reach_bound h b
    refine ok_bif (fun hc => ?_) fun hc => ?_
    · have hc' := of_decide_eq_true hc
      rw [reach_ok h (by omega), Count_ok h (by omega), Option.bind_some, Option.bind_some, New_ok (by omega) (by omega) (by omega) (by omega) (by omega)]
      simp only [Option.bind_some, uc_mk]
      have hf2 := frac_new (n := reach d b) (d := d.sum) (by omega) (by omega) (by omega) (by omega)
      have hq2 := rden_le (n := reach d b) (d := d.sum) (by omega)
      rw [Less_ok hf2 hf (by omega) (by omega), Option.bind_some]
      have hl := rless (n := reach d b) (d := d.sum) (m := n) (e := m) (by omega) (by omega)
      refine ok_bif (fun hd => Ok.ret ⟨rfl, g1, g2, ?_, g3⟩) fun hd => ?_
      · have hd' : ¬ (rnum (reach d b) d.sum * rden n m < rnum n m * rden (reach d b) d.sum) := by simpa using hd
        rw [hl] at hd'
        dsimp only; omega
      · have hd' : rnum (reach d b) d.sum * rden n m < rnum n m * rden (reach d b) d.sum := by simpa using hd
        rw [hl] at hd'
        rw [w64 (x := b - 1) (by omega) (by omega)]
        exact hag _ ⟨by omega, by omega, fun _ => by rw [show b - 1 + 1 = b by omega]; exact hd'⟩ (by omega)
    · have hc' := of_decide_eq_false hc
      have e0 : b = 0 := by omega
      subst e0
      refine Ok.ret ⟨?_, fun h => g3 h⟩
      have : reach d 0 = d.sum := by simp [reach]
      rw [this, Int.mul_comm d.sum]
      exact Int.mul_le_mul_of_nonneg_right hnm hds.1
  · exact Ok.ret ⟨rfl, Int.le_refl _, by omega, hr.1, hr.2⟩
  · exact Ok.ret hr

/-! ### the nearest -/
/-- The first place, from 0 to n, where f is least. -/
def least (f : Nat → Nat) : Nat → Nat
  | 0 => 0
  | b + 1 => if f (b + 1) < f (least f b) then b + 1 else least f b
theorem least_le (f : Nat → Nat) (n : Nat) : least f n ≤ n := by
  induction n with
  | zero => exact Nat.le_refl _
  | succ n ih => simp only [least]; split <;> omega
theorem least_min (f : Nat → Nat) (n y : Nat) (hy : y ≤ n) : f (least f n) ≤ f y ∧ (y < least f n → f (least f n) < f y) := by
  induction n with
  | zero => obtain rfl : y = 0 := by omega
            simp [least]
  | succ n ih =>
    simp only [least]
    by_cases hyn : y = n + 1
    · subst hyn
      have := least_le f n
      split
      · exact ⟨Nat.le_refl _, fun h => by omega⟩
      · exact ⟨by omega, fun h => by omega⟩
    · have := ih (by omega)
      split
      · exact ⟨by omega, fun _ => by omega⟩
      · exact this
theorem least_scale (f g : Nat → Nat) (c : Nat) (hc : 0 < c) (h : ∀ b, g b = c * f b) (n : Nat) : least g n = least f n := by
  induction n with
  | zero => rfl
  | succ n ih =>
    simp only [least, ih, h]
    have : c * f (n + 1) < c * f (least f n) ↔ f (n + 1) < f (least f n) := Nat.mul_lt_mul_left hc
    by_cases h1 : f (n + 1) < f (least f n)
    · rw [if_pos h1, if_pos (this.2 h1)]
    · rw [if_neg h1, if_neg (fun h => h1 (this.1 h))]
/-- How far the share of a boundary is from n / m. -/
def far (d : List Int) (n m : Int) (b : Nat) : Nat := (reach d b * m - n * d.sum).natAbs
def nearest (d : List Int) (n m : Int) : Nat := least (far d n m) d.length
theorem Nearest_ok {k : Nat} {d : List Int} {n m : Int} (h : Few d) (hn : 0 ≤ n) (hnm : n ≤ m) (hm : 1 ≤ m) (hm2 : m ≤ 2147483647) (hk : 100000 < k) (hkm : m.toNat < k) (h0 : d.sum ≠ 0) :
    boundary_Nearest k d (rnum n m) (rden n m) = some ((nearest d n m : Int), 0) := by
  apply Ok.eq
  have hf := frac_new (n := n) (d := m) hn (by omega) hm hm2
  have hq := rden_le (n := n) (d := m) (by omega)
  have hds := h.sum
  have hl := h.2.1
  unfold boundary_Nearest
  rw [bcheck_ok h hn hnm hm hm2 (by omega) hkm, if_neg h0]
  simp only [Option.bind_some, bne_self_eq_false, cond_false]
  refine Ok.bind (Q := fun r => r = (nearest d n m : Int)) (ok_loop (fun s => 1 ≤ s.2 ∧ s.2 ≤ d.length + 1 ∧ s.1 = (least (far d n m) (s.2 - 1).toNat : Int)) (fun s => (d.length + 1 - s.2).toNat) ⟨Int.le_refl _, by dsimp only; omega, rfl⟩ (by dsimp only; omega) ?_) fun r hr => by subst hr; exact Ok.ret rfl
  intro again s hs hag
  obtain ⟨best, b⟩ := s
  obtain ⟨g1, g2, g3⟩ := hs
  simp only at g1 g2 g3
  simp only [boundary_Nearest_b1, uc_mk]
  refine ok_bif (fun hc => ?_) fun hc => ?_
  · have hc' := of_decide_eq_true hc
    have hr1 := reach_bound h best
    have hr2 := reach_bound h b
    have hbl := least_le (far d n m) (b - 1).toNat
    have hanti := reach_anti (d := d) (fun x hx => (h.2.2 x hx).1) (a := best) (b := b) (by omega)
    rw [reach_ok h (by omega), reach_ok h (by omega), Count_ok h (by omega)]
    simp only [Option.bind_some]
    rw [w64 (x := reach d best + reach d b) (by omega) (by omega), w64 (x := 2 * d.sum) (by omega) (by omega), New_ok (by omega) (by omega) (by omega) (by omega) (by omega)]
    simp only [Option.bind_some, uc_mk]
    have hf2 := frac_new (n := reach d best + reach d b) (d := 2 * d.sum) (by omega) (by omega) (by omega) (by omega)
    have hq2 := rden_le (n := reach d best + reach d b) (d := 2 * d.sum) (by omega)
    rw [Less_ok hf hf2 (by omega) (by omega)]
    have hlt := rless (n := n) (d := m) (m := reach d best + reach d b) (e := 2 * d.sum) (by omega) (by omega)
    have e1 : b.toNat = (b - 1).toNat + 1 := by omega
    have hfar : (reach d b < reach d best ∧ n * (2 * d.sum) < (reach d best + reach d b) * m) ↔ far d n m b.toNat < far d n m (least (far d n m) (b - 1).toNat) := by
      rw [show far d n m b.toNat = (reach d b * m - n * d.sum).natAbs by unfold far; rw [show ((b.toNat : Nat) : Int) = b by omega]]
      rw [show far d n m (least (far d n m) (b - 1).toNat) = (reach d best * m - n * d.sum).natAbs by rw [g3]; rfl]
      have hmul : reach d b * m ≤ reach d best * m := Int.mul_le_mul_of_nonneg_right hanti (by omega)
      have hmul2 : reach d b < reach d best → reach d b * m < reach d best * m := fun hh => Int.mul_lt_mul_of_pos_right hh (by omega)
      have hmul3 : ¬ reach d b < reach d best → reach d b * m = reach d best * m := fun hh => by rw [show reach d b = reach d best by omega]
      rw [Int.add_mul, show n * (2 * d.sum) = 2 * (n * d.sum) by rw [Int.mul_left_comm]]
      generalize reach d b * m = u at *
      generalize reach d best * m = v at *
      generalize n * d.sum = w at *
      by_cases hh : reach d b < reach d best
      · have := hmul2 hh
        omega
      · have := hmul3 hh
        omega
    rw [w64 (x := b + 1) (by omega) (by omega)]
    refine Ok.bind (Q := fun r => r = (least (far d n m) b.toNat : Int)) (Ok.bind (Q := fun r => r = decide (far d n m b.toNat < far d n m (least (far d n m) (b - 1).toNat))) (ok_bif (fun hd => ?_) fun hd => Ok.ret ?_) fun r hr => ?_) fun r hr => ?_
    · have hd' := of_decide_eq_true hd
      rw [Option.bind_some]
      refine Ok.ret ?_
      rw [decide_eq_decide, hlt, ← hfar]
      exact ⟨fun h => ⟨hd', h⟩, fun h => h.2⟩
    · have hd' := of_decide_eq_false hd
      exact (decide_eq_false fun h => hd' (hfar.2 h).1).symm
    · subst hr
      rw [e1]
      simp only [least]
      rw [← e1]
      refine ok_bif (fun hd => Ok.ret ?_) fun hd => Ok.ret ?_
      · rw [if_pos (of_decide_eq_true hd)]; omega
      · rw [if_neg (of_decide_eq_false hd)]; exact g3
    · refine hag _ ⟨by dsimp only; omega, by dsimp only; omega, ?_⟩ (by dsimp only; omega)
      dsimp only
      rw [hr, show b + 1 - 1 = b by omega]
  · have hc' := of_decide_eq_false hc
    refine Ok.ret ?_
    rw [g3, show (b - 1).toNat = d.length by omega]
    rfl
end Go.VM
