/- The pure statement of SchemeBounds: whatever the numbers, the printed function answers true. -/
import Derived.Test.YtdpoilkjdfnadaaSPClosed
namespace Go.VM
set_option linter.unusedVariables false
set_option linter.unusedSimpArgs false
theorem pure_SchemeBounds (t : List Int) (ht : ∀ x ∈ t, fitsI .i64 x) (hl : t.length * 8 ≤ 140737488351232) : ∃ k, law23_SchemeBounds k t = some true := by
  refine ⟨1000, Ok.eq ?_⟩
  unfold law23_SchemeBounds
  refine Ok.bind (New_ok t) fun x hx => ?_
  refine TPaper_then hx (by omega) (by omega) fun p j hp hj => ?_
  refine TScheme_then hx hj (by omega) hp fun ks ws j hs hj => ?_
  refine TGiven_then hx hj (by omega) hp fun ans j ha hj => ?_
  rw [scheme_Closed_2_eq]
  have hp1 := hp.1
  have hp2 := hp.2.1
  have hkl := hs.keys.1
  have hal := ha.1
  refine Ok.bind (closed_ok hp hs ha (by omega)) fun r hr => ?_
  obtain ⟨m, er⟩ := r
  obtain ⟨he, hC⟩ := hr
  simp only at he hC
  subst he
  have hml := hC.1
  simp only [uc_mk, blet_mk, hml, bne_self_eq_false, Bool.or_false, cond_false]
  refine ok_sum (Q := fun r => FineMarks p r) (R := fun _ => False) (ok_loop (fun s => 0 ≤ s.1 ∧ s.1 ≤ p.length ∧ 0 ≤ s.2.1 ∧ s.2.2.length = p.length ∧ (∀ (n : Nat) (q : SPart) (v : Int), p[n]? = some q → s.2.2[n]? = some v → (n < s.1.toNat → FineMark q v) ∧ (v ≠ -2 → FineMark q v) ∧ (s.1.toNat ≤ n → v = -2 → q.Kind = 1))) (fun s => p.length - s.1.toNat) ⟨by simp, by simp only; omega, hj, hml, fun n q v hq hv => ⟨fun h => by simp at h, ?_⟩⟩ (by simp only; omega) ?_) (fun r hr => ?_) (fun _ h => h.elim)
  · have hnl : n < p.length := (List.getElem?_eq_some_iff.1 hq).1
    have hqp : q ∈ p := List.mem_of_getElem? hq
    have h1 := hC.2 n q ks[n] ans[n] v hq (List.getElem?_eq_getElem (by omega)) (List.getElem?_eq_getElem (by omega)) hv
    have hpe := hp.2.2 q hqp
    unfold FineP at hpe
    unfold closedAt at h1
    unfold FineMark
    split at h1
    · next hk => exact ⟨fun hne => absurd h1 hne, fun _ _ => hk⟩
    · split at h1
      · exact ⟨fun _ => by omega, fun _ h => by omega⟩
      · split at h1
        · exact ⟨fun _ => by omega, fun _ h => by omega⟩
        · exact ⟨fun _ => by omega, fun _ h => by omega⟩
  · intro again s hs' hag
    obtain ⟨i, j, xs⟩ := s
    obtain ⟨g1, g2, g3, g4, g5⟩ := hs'
    simp only at g1 g2 g3 g4 g5
    simp only [law23_SchemeBounds_b1, uc_mk]
    refine ok_bif (fun hc => ?_) fun hc => ?_
    · have hc' := of_decide_eq_true hc
      have hi : i.toNat < p.length := by omega
      refine ok_idx g1 (by omega) fun hi2 => ?_
      have hpe := hp.2.2 p[i.toNat] (List.getElem_mem hi)
      unfold FineP at hpe
      have h5 := fun v hv => g5 i.toNat p[i.toNat] v (List.getElem?_eq_getElem hi) hv
      refine Ok.bind (Q := fun r => 0 ≤ r.1 ∧ r.2.length = p.length ∧ (∀ (n : Nat) (q : SPart) (v : Int), p[n]? = some q → r.2[n]? = some v → (n < i.toNat + 1 → FineMark q v) ∧ (v ≠ -2 → FineMark q v) ∧ (i.toNat + 1 ≤ n → v = -2 → q.Kind = 1))) (ok_bif (fun h => ?_) fun h => ?_) fun r hr => ?_
      · have hv2 : xs[i.toNat] = -2 := by simpa using h
        rw [gidx_some g1 hi]
        -- it is an open part
        have hk1 : p[i.toNat].Kind = 1 ∨ p[i.toNat].Kind = 2 := by omega
        refine Range_then hx g3 (by omega) (by omega) (by omega) fun a j h1 h2 hj => ok_let (Ok.ret ⟨hj, by simp [g4], fun n q v hq hv => ?_⟩)
        by_cases hn : i.toNat = n
        · subst hn
          rw [List.getElem?_set_self (by omega)] at hv
          cases hv
          rw [List.getElem?_eq_getElem hi] at hq
          cases hq
          have hopen : p[i.toNat].Kind = 2 → False := fun hk2 => by
            have := (h5 _ (List.getElem?_eq_getElem hi2)).2.2 (Nat.le_refl _) hv2
            omega
          have : FineMark p[i.toNat] a := ⟨h1, h2, fun hk2 => (hopen hk2).elim⟩
          exact ⟨fun _ => this, fun _ => this, fun h => by omega⟩
        · rw [List.getElem?_set_ne hn] at hv
          have := g5 n q v hq hv
          exact ⟨fun h => this.1 (by omega), this.2.1, fun h => this.2.2 (by omega)⟩
      · have hv2 : xs[i.toNat] ≠ -2 := by simpa using h
        refine Ok.ret ⟨g3, g4, fun n q v hq hv => ?_⟩
        have := g5 n q v hq hv
        by_cases hn : n = i.toNat
        · subst hn
          simp only at hv
          rw [List.getElem?_eq_getElem hi2] at hv
          cases hv
          exact ⟨fun _ => this.2.1 hv2, this.2.1, fun h => by omega⟩
        · exact ⟨fun h => this.1 (by omega), this.2.1, fun h => this.2.2 (by omega)⟩
      · obtain ⟨j, ys⟩ := r
        obtain ⟨k1, k2, k3⟩ := hr
        simp only at k1 k2 k3
        simp only [uc_mk]
        refine ok_idx g1 (by omega) fun hi3 => ?_
        rw [Permitted_ok hp hs g1 hi ((k3 i.toNat _ _ (List.getElem?_eq_getElem hi) (List.getElem?_eq_getElem hi3)).1 (by omega)) (by omega)]
        simp only [Option.bind_some, Bool.not_true, cond_false]
        rw [w64 (x := i + 1) (by omega) (by omega)]
        refine hag _ ⟨by simp only; omega, by simp only; omega, k1, k2, fun n q v hq hv => ?_⟩ (by simp only; omega)
        have := k3 n q v hq hv
        exact ⟨fun h => this.1 (by simp only at h; omega), this.2.1, fun h => this.2.2 (by simp only at h; omega)⟩
    · have hc' := of_decide_eq_false hc
      exact Ok.ret ⟨g4, fun n q v hq hv => (g5 n q v hq hv).1 (by have := (List.getElem?_eq_some_iff.1 hq).1; omega)⟩
  · rw [total_ok hp hs hr (by omega), max_ok hp hs (by omega), marked_ok hp hs hr (by omega)]
    simp only [Option.bind_some, uc_mk, blet_mk, beq_self_eq_true, Bool.and_true]
    have b1 := sumN_nn (f := adds p ws r) (n := p.length) fun i hi => (adds_le hp hr hi).1
    have b2 := sumN_le (f := adds p ws r) (g := addsMax p ws) (n := p.length) fun i hi => (adds_le hp hr hi).2.1
    have e1 : ((true && decide (sumN (adds p ws r) p.length ≥ 0)) && decide (sumN (adds p ws r) p.length ≤ sumN (addsMax p ws) p.length)) = true := by simp; omega
    rw [e1]
    simp only [cond_true, awake_ok, Option.bind_some]
    exact Ok.ret rfl
end Go.VM
