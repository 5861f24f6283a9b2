/- What the reference counts in a distribution: plain reasoning about the printed functions. -/
import Derived.Test.YtdebnihlkdabpaaHPDistA
namespace Go.VM
set_option linter.unusedVariables false
set_option linter.unusedSimpArgs false

/-! ### the reference counts -/
theorem rValid_ok {k : Nat} {d : List Int} (h : Few d) (hk : 50 < k) : ref32_Valid k d = some true := by
  apply Ok.eq
  have h1 := h.1
  have h2 := h.2.1
  unfold ref32_Valid
  refine ok_let (ok_bif (fun hb => ?_) fun _ => ?_)
  · simp at hb; omega
  · refine ok_sum (Q := fun _ => True) (R := fun _ => False) (ok_range d (fun s => s.2) (fun pre s => s.1 = pre.sum) (by omega) rfl rfl (by omega) ?_ ?_) (fun _ _ => Ok.ret rfl) fun _ h => h.elim
    · intro again s pre e post hl hi hlt hw hinv hag
      obtain ⟨n, i⟩ := s
      simp only at hi hlt hw hinv
      simp only [ref32_Valid_b1, uc_mk]
      rw [dec_lt hlt, cond_true, gidx_mid hl hi, gidx_mid hl hi, hw]
      have he := h.2.2 e (by rw [hl]; simp)
      have hb := h.bound hl
      have hb2 := h.bound (pre := pre ++ [e]) (post := post) (by simp [hl])
      rw [List.sum_append] at hb2
      simp only [List.sum_cons, List.sum_nil, Int.add_zero] at hb2
      rw [dec_nlt (a := e) (b := 0) (by omega), cond_false, w64 (x := 1048576 - n) (by omega) (by omega), show decide (e > 1048576 - n) = false from decide_eq_false (by omega)]
      simp only [Option.bind_some, cond_false]
      rw [w64 (x := n + e) (by omega) (by omega)]
      exact hag _ rfl (by simp [hinv, List.sum_append])
    · intro again s hi hinv
      obtain ⟨n, i⟩ := s
      simp only at hi hinv
      simp only [ref32_Valid_b1, uc_mk]
      rw [dec_nlt (by omega), cond_false]
      exact Ok.ret trivial
theorem rBelow_ok {k : Nat} {d : List Int} {s : Int} (h : Few d) (hk : 50 < k) : ref32_Below k d s = some (d.take s.toNat).sum := by
  apply Ok.eq
  have h1 := h.1
  have h2 := h.2.1
  unfold ref32_Below
  refine Ok.bind (Q := fun r => r = (d.take s.toNat).sum) (ok_loop (fun z => 0 ≤ z.2 ∧ z.2 ≤ d.length ∧ (z.2 ≤ s ∨ z.2 = 0) ∧ z.1 = (d.take z.2.toNat).sum) (fun z => d.length - z.2.toNat) ⟨by simp, by simp, .inr rfl, by simp⟩ (by simp; omega) ?_) fun r hr => Ok.ret hr
  intro again z hz hag
  obtain ⟨n, i⟩ := z
  obtain ⟨g1, g2, g3, g4⟩ := hz
  simp only at g1 g2 g3 g4
  simp only [ref32_Below_b1, uc_mk, blet_mk]
  by_cases hc : i < d.length ∧ i < s
  · rw [dec_lt hc.1, dec_lt hc.2]
    simp only [Bool.and_true, cond_true, rValid_ok h hk, Option.bind_some]
    have hi : i.toNat < d.length := by omega
    refine ok_idx g1 hc.1 fun _ => ?_
    have hb := h.take (i.toNat + 1)
    have hb0 := h.take i.toNat
    rw [take_succ_sum hi] at hb
    have he := h.2.2 d[i.toNat] (List.getElem_mem hi)
    rw [w64 (x := n + _) (by omega) (by omega), w64 (x := i + 1) (by omega) (by omega)]
    refine hag _ ⟨by simp only; omega, by simp only; omega, .inl (by simp only; omega), ?_⟩ (by simp only; omega)
    simp only
    rw [show (i + 1).toNat = i.toNat + 1 by omega, take_succ_sum hi, g4]
  · have hcf : (decide (i < (d.length : Int)) && decide (i < s)) = false := by
      simp only [Bool.and_eq_false_iff, decide_eq_false_iff_not]
      omega
    rw [hcf]
    simp only [cond_false, Option.bind_some]
    refine Ok.ret ?_
    rw [g4]
    by_cases hs : i < s
    · rw [take_all (n := i.toNat) (by omega), take_all (n := s.toNat) (by omega)]
    · congr 2
      omega
theorem rCount_ok {k : Nat} {d : List Int} (h : Few d) (hk : 50 < k) : ref32_Count k d = some d.sum := by
  unfold ref32_Count
  rw [rBelow_ok h hk, Option.bind_some, Int.toNat_natCast, take_all (Nat.le_refl _)]
end Go.VM
