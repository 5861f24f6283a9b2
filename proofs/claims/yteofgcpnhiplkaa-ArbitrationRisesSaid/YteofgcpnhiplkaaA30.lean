/- What the marks of the dice are, and what few makes: plain reasoning about the printed functions. -/
import Derived.Test.YteofgcpnhiplkaaFuns
import Derived.Test.YteofgcpnhiplkaaEngU
namespace Go.VM
set_option linter.unusedVariables false
set_option linter.unusedSimpArgs false

/-! ### the dice -/
theorem Next_ok {k : Nat} {n : Int} {x : List Int} {i : Int} (hx : x.length ≤ 600) (h0 : 0 ≤ i) (hn0 : 1 ≤ n) (hn : n ≤ 1000000) : Ok (mark_Dice_Next k n x i) (fun r => 0 ≤ r.1 ∧ r.1 < n ∧ 0 ≤ r.2) := by
  unfold mark_Dice_Next
  refine ok_let (ok_bif (fun h => Ok.ret ⟨Int.le_refl _, by omega, h0⟩) fun h => ?_)
  simp only [Bool.or_eq_false_iff, decide_eq_false_iff_not, ge_iff_le, Int.not_le] at h
  refine ok_idx h0 (by omega) fun hi => ok_nz (by omega) ?_
  generalize x[i.toNat] = e
  have h1 := Int.tmod_lt_of_pos e (show 0 < n by omega)
  have h2 := Int.lt_tmod_of_pos e (show 0 < n by omega)
  refine Ok.bind (Q := fun r => 0 ≤ r.1 ∧ r.1 < n ∧ 0 ≤ r.2) (ok_bif (fun h => ?_) fun h => ?_) fun r hr => ?_
  · have h' := of_decide_eq_true h
    refine Ok.ret ⟨?_, ?_, ?_⟩
    · simp only; rw [w64 (by omega) (by omega)]; omega
    · simp only; rw [w64 (by omega) (by omega)]; omega
    · simp only; rw [w64 (by omega) (by omega)]; omega
  · have h' := of_decide_eq_false h
    refine Ok.ret ⟨?_, ?_, ?_⟩
    · simp only; omega
    · simp only; omega
    · simp only; rw [w64 (by omega) (by omega)]; omega
  · obtain ⟨a, b⟩ := r
    exact Ok.ret hr
theorem Rule_ok {k : Nat} {x : List Int} {i : Int} (hx : x.length ≤ 600) (h0 : 0 ≤ i) : Ok (mark_Dice_Rule k x i) (fun r => 0 ≤ r.2.1 ∧ r.2.1 < 3 ∧ 0 ≤ r.2.2) := by
  unfold mark_Dice_Rule mark_Dice_Bool
  refine Ok.bind (Q := fun r => 0 ≤ r.2) (Ok.bind (Next_ok hx h0 (by omega) (by omega)) fun r hr => ?_) fun r hr => ?_
  · obtain ⟨a, b⟩ := r
    exact Ok.ret hr.2.2
  · obtain ⟨a, b⟩ := r
    refine Ok.bind (Next_ok hx hr (by omega) (by omega)) fun r hr => ?_
    obtain ⟨c, d⟩ := r
    exact Ok.ret hr

/-! ### what few makes -/
structure Fine (g : SGiven) : Prop where
  lv : g.Level = 1 ∨ g.Level = 2 ∨ g.Level = 3
  lo : -1 ≤ g.Value
  hi : g.Value ≤ 6
def Few (l : List SGiven) : Prop := l.length ≤ 4 ∧ (∀ g ∈ l, Fine g) ∧ l.Pairwise (fun a b => b.Stamp_Seq < a.Stamp_Seq)
theorem few_ok {k : Nat} {x : List Int} {i : Int} (hx : x.length ≤ 600) (h0 : 0 ≤ i) (hk : 10 < k) : Ok (law30_few k x i) (fun r => Few r.1) := by
  unfold law30_few
  refine Ok.bind (Next_ok hx h0 (by omega) (by omega)) fun r hr => ?_
  obtain ⟨a, b⟩ := r
  obtain ⟨ha, ha', hb⟩ := hr
  simp only at ha ha' hb
  refine Ok.bind (Q := fun r => Few r.2) (ok_loop (fun s => 0 ≤ s.1 ∧ s.1 ≤ 4 ∧ 0 ≤ s.2.1 ∧ s.2.2.length + s.1 ≤ 4 ∧ (∀ g ∈ s.2.2, Fine g ∧ s.1 < g.Stamp_Seq) ∧ s.2.2.Pairwise (fun a b => b.Stamp_Seq < a.Stamp_Seq)) (fun s => s.1.toNat) ?_ ?_ ?_) fun r hr => ?_
  · simp; omega
  · simp; omega
  · intro again s hs hag
    obtain ⟨c, d, xs⟩ := s
    obtain ⟨h1, h2, h3, h4, h5, h6⟩ := hs
    simp only at h1 h2 h3 h4 h5 h6
    simp only [law30_few_b1, uc_mk]
    refine ok_bif (fun hc => ?_) fun hc => Ok.ret ⟨by simp only; omega, fun g hg => (h5 g hg).1, h6⟩
    have hc' := of_decide_eq_true hc
    refine Ok.bind (Q := fun r => (r.1 = 1 ∨ r.1 = 2 ∨ r.1 = 3) ∧ 0 ≤ r.2) ?_ fun r hr => ?_
    · unfold mark_Dice_Pick
      refine Ok.bind (Next_ok hx h3 (by simp) (by simp)) fun r hr => ?_
      obtain ⟨p, q⟩ := r
      obtain ⟨e1, e2, e3⟩ := hr
      simp at e1 e2 e3
      simp only [uc_mk]
      refine ok_idx e1 (by simpa using e2) fun hi => Ok.ret ⟨?_, e3⟩
      have hp : p = 0 ∨ p = 1 ∨ p = 2 ∨ p = 3 ∨ p = 4 := by omega
      rcases hp with rfl | rfl | rfl | rfl | rfl <;> simp
    · obtain ⟨lv, d1⟩ := r
      obtain ⟨hlv, hd1⟩ := hr
      refine Ok.bind (Next_ok hx hd1 (by omega) (by omega)) fun r hr => ?_
      obtain ⟨v, d2⟩ := r
      obtain ⟨hv1, hv2, hd2⟩ := hr
      refine Ok.bind (Next_ok hx hd2 (by omega) (by omega)) fun r hr => ?_
      obtain ⟨tm, d3⟩ := r
      obtain ⟨ht1, ht2, hd3⟩ := hr
      simp only at hlv hd1 hv1 hv2 hd2 ht1 ht2 hd3
      simp only [uc_mk]
      refine ok_cap (by simp; omega) (hag _ ?_ ?_)
      · refine ⟨?_, ?_, hd3, ?_, ?_, ?_⟩
        · simp only; rw [w64 (by omega) (by omega)]; omega
        · simp only; rw [w64 (by omega) (by omega)]; omega
        · simp only [List.length_append, List.length_singleton]; rw [w64 (by omega) (by omega)]; omega
        · intro g hg
          simp only [List.mem_append, List.mem_singleton] at hg
          simp only
          rw [w64 (x := c - 1) (by omega) (by omega)]
          rcases hg with hg | rfl
          · exact ⟨(h5 g hg).1, by have := (h5 g hg).2; omega⟩
          · refine ⟨⟨hlv, ?_, ?_⟩, ?_⟩
            · simp only; rw [w64 (by omega) (by omega)]; omega
            · simp only; rw [w64 (by omega) (by omega)]; omega
            · simp only; omega
        · refine List.pairwise_append.2 ⟨h6, by simp, fun g hg g' hg' => ?_⟩
          simp only [List.mem_singleton] at hg'
          subst hg'
          exact (h5 g hg).2
      · simp only; rw [w64 (by omega) (by omega)]; omega
  · obtain ⟨a, b⟩ := r
    exact Ok.ret hr
end Go.VM
