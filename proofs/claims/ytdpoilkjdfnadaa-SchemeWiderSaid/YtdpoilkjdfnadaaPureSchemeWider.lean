/- The pure statement of SchemeWider: whatever the numbers, the printed function answers true. -/
import Derived.Test.YtdpoilkjdfnadaaSPClosed
namespace Go.VM
set_option linter.unusedVariables false
set_option linter.unusedSimpArgs false

theorem keys_ok {k : Nat} {p : List SPart} {ks : List (List Int)} {ws : List Int} {part op : Int} (hp : FineParts p) (hs : FineScheme p ks ws) (h0 : 0 ≤ part) (h1 : part.toNat < p.length) (h2 : part.toNat < ks.length) (hk2 : p[part.toNat].Kind = 2) (hk : 110 < k) (o0 : 0 ≤ op) (o1 : op < p[part.toNat].Options) :
    Ok (gloop (law23_SchemeWider_b2 k p ks ws part op) k (0, ([] : List Int))) (fun r => r.Pairwise (· < ·) ∧ ∀ a : Int, a ∈ r ↔ (0 ≤ a ∧ a < p[part.toNat].Options) ∧ (a = op ∨ acc p[part.toNat] ks[part.toNat] a = true)) := by
  have hpe := hp.2.2 p[part.toNat] (List.getElem_mem h1)
  unfold FineP at hpe
  refine ok_loop (fun s => 0 ≤ s.1 ∧ s.1 ≤ p[part.toNat].Options ∧ s.2.Pairwise (· < ·) ∧ (∀ a : Int, a ∈ s.2 ↔ (0 ≤ a ∧ a < s.1) ∧ (a = op ∨ acc p[part.toNat] ks[part.toNat] a = true))) (fun s => (p[part.toNat].Options - s.1).toNat) ⟨by simp, by simp only; omega, by simp, fun a => by simp; omega⟩ (by simp only; omega) ?_
  intro again s hs' hag
  obtain ⟨c, xs⟩ := s
  obtain ⟨g1, g2, g3, g4⟩ := hs'
  simp only at g1 g2 g3 g4
  simp only [law23_SchemeWider_b2, uc_mk]
  rw [gidx_some h0 h1]
  have hxl := asc_len (n := p[part.toNat].Options) (by omega) xs g3 (fun a ha => by have := (g4 a).1 ha; omega) 0 (fun a ha => by have := (g4 a).1 ha; omega) (by omega) (by omega)
  refine ok_bif (fun hc => ?_) fun hc => ?_
  · have hc' := of_decide_eq_true hc
    refine Ok.bind (Q := fun r => r.Pairwise (· < ·) ∧ (∀ a : Int, a ∈ r ↔ (0 ≤ a ∧ a < c + 1) ∧ (a = op ∨ acc p[part.toNat] ks[part.toNat] a = true))) ?_ fun r hr => ?_
    · refine Ok.bind (Q := fun b => b = true ↔ (c = op ∨ acc p[part.toNat] ks[part.toNat] c = true)) (ok_bif (fun h => Ok.ret ?_) fun h => ?_) fun b hb => ?_
      · have : c = op := by simpa using h
        simp [this]
      · have hne : ¬ c = op := by simpa using h
        rw [Accepts_eq hp hs h0 h1 h2 hk2 hk]
        exact Ok.ret (by simp [hne])
      · refine ok_bif (fun h => ok_cap (by simp; omega) (Ok.ret ⟨?_, fun a => ?_⟩)) fun h => Ok.ret ⟨g3, fun a => ?_⟩
        · refine List.pairwise_append.2 ⟨g3, by simp, fun a ha b hb => ?_⟩
          simp only [List.mem_singleton] at hb
          subst hb
          have := (g4 a).1 ha; omega
        · have hcc := hb.1 h
          simp only [List.mem_append, List.mem_singleton, g4 a]
          constructor
          · rintro (h | rfl)
            · exact ⟨⟨h.1.1, by omega⟩, h.2⟩
            · exact ⟨⟨g1, by omega⟩, hcc⟩
          · rintro ⟨⟨e1, e2⟩, e3⟩
            by_cases hac : a = c
            · exact .inr hac
            · exact .inl ⟨⟨e1, by omega⟩, e3⟩
        · have hcc : ¬ _ := fun h' => by rw [hb.2 h'] at h; cases h
          rw [g4 a]
          constructor
          · intro h; exact ⟨⟨h.1.1, by omega⟩, h.2⟩
          · rintro ⟨⟨e1, e2⟩, e3⟩
            refine ⟨⟨e1, ?_⟩, e3⟩
            by_cases hac : a = c
            · subst hac; exact absurd e3 hcc
            · omega
    · rw [w64 (x := c + 1) (by omega) (by omega)]
      exact hag _ ⟨by simp only; omega, by simp only; omega, hr.1, hr.2⟩ (by simp only; omega)
  · have hc' := of_decide_eq_false hc
    have : c = p[part.toNat].Options := by omega
    subst this
    exact Ok.ret ⟨g3, g4⟩
theorem pure_SchemeWider (t : List Int) (ht : ∀ x ∈ t, fitsI .i64 x) (hl : t.length * 8 ≤ 140737488351232) (part : Int) (hpart : fitsI .i64 part) (op : Int) (hop : fitsI .i64 op) : ∃ k, law23_SchemeWider k t part op = some true := by
  refine ⟨1000, Ok.eq ?_⟩
  unfold law23_SchemeWider
  refine Ok.bind (New_ok t) fun x hx => ?_
  refine TPaper_then hx (by omega) (by omega) fun p j hp hj => ?_
  refine TScheme_then hx hj (by omega) hp fun ks ws j hs hj => ?_
  refine TGiven_then hx hj (by omega) hp fun ans j ha hj => ?_
  have hp1 := hp.1
  have hp2 := hp.2.1
  have hkl := hs.keys.1
  have hal := ha.1
  rw [Cut_eq part (by omega) (by omega), Option.bind_some]
  have hc0 : 0 ≤ part % p.length := Int.emod_nonneg _ (by omega)
  have hc1 : part % p.length < p.length := Int.emod_lt_of_pos _ (by omega)
  generalize part % (p.length : Int) = c at hc0 hc1
  have hi : c.toNat < p.length := by omega
  have hi2 : c.toNat < ks.length := by omega
  rw [gidx_some hc0 hi]
  refine ok_bif (fun h => by rw [awake_ok]; exact Ok.ret rfl) fun h => ?_
  have hk2 : p[c.toNat].Kind = 2 := by simpa using h
  have hpe := hp.2.2 p[c.toNat] (List.getElem_mem hi)
  unfold FineP at hpe
  rw [Cut_eq op (by omega) (by omega), Option.bind_some]
  have o0 : 0 ≤ op % p[c.toNat].Options := Int.emod_nonneg _ (by omega)
  have o1 : op % p[c.toNat].Options < p[c.toNat].Options := Int.emod_lt_of_pos _ (by omega)
  generalize op % p[c.toNat].Options = o at o0 o1
  refine ok_cap (by omega) ?_
  refine Ok.bind (keys_ok hp hs hc0 hi hi2 hk2 (by omega) o0 o1) fun keys hkeys => ?_
  obtain ⟨q1, q2⟩ := hkeys
  rw [gidx_some hc0 hi2, blet_mk]
  have hklen := asc_len (n := p[c.toNat].Options) (by omega) keys q1 (fun a ha => ((q2 a).1 ha).1) 0 (fun a ha => ((q2 a).1 ha).1.1) (by omega) (by omega)
  have hs' : FineScheme p (ks.set c.toNat keys) ws := ⟨hs.keys.set fun e he => by
    rw [List.getElem?_eq_getElem hi] at he; cases he
    exact ⟨q1, fun a ha => ((q2 a).1 ha).1, by omega⟩, hs.len, hs.known⟩
  refine Ok.bind (closed_ok hp hs ha (by omega)) fun r hr => ?_
  obtain ⟨a, e1⟩ := r
  obtain ⟨he1, hA⟩ := hr
  simp only at he1 hA
  subst he1
  refine Ok.bind (closed_ok hp hs' ha (by omega)) fun r hr => ?_
  obtain ⟨b, e2⟩ := r
  obtain ⟨he2, hB⟩ := hr
  simp only at he2 hB
  subst he2
  have hAl := hA.1
  have hBl := hB.1
  have e0 : ((0 : Int) != 0) = false := rfl
  simp only [uc_mk, blet_mk, e0, hAl, hBl, hal, bne_self_eq_false, Bool.or_false, cond_false]
  refine ok_sum (Q := fun _ => True) (R := fun _ => False) (ok_range ans (fun s => s) (fun _ _ => True) (by omega) rfl trivial (by omega) ?_ ?_) (fun _ _ => by simp only [u0_mk]; rw [awake_ok]; exact Ok.ret rfl) (fun _ h => h.elim)
  · intro again s pre g post hle hsi hlt hw hinv hag
    simp only [law23_SchemeWider_b1]
    rw [dec_lt hlt, cond_true]
    have hn : s.toNat < p.length := by omega
    have hgs : ans[s.toNat]? = some g := by rw [hle, List.getElem?_append_right (by omega)]; simp [hsi]
    rw [gidx_some (by omega) (show s.toNat < a.length by omega)]
    have hav := hA.2 s.toNat p[s.toNat] ks[s.toNat] g a[s.toNat] (List.getElem?_eq_getElem hn) (List.getElem?_eq_getElem (by omega)) hgs (List.getElem?_eq_getElem (by omega))
    have hga := ha.2 s.toNat p[s.toNat] g (List.getElem?_eq_getElem hn) hgs
    refine Ok.bind (Q := fun r => r = (decide (s = c) && decide (g = o))) (ok_bif (fun h => ?_) fun h => Ok.ret ?_) fun r hr => ?_
    · have : s = c := by simpa using h
      rw [gidx_mid hle hsi]
      exact Ok.ret (by simp [this, beq_int])
    · have : ¬ s = c := by simpa using h
      simp [this]
    · subst hr
      refine Ok.bind (Q := fun r => r = if s = c ∧ g = o then p[s.toNat].Max else a[s.toNat]) (ok_bif (fun h => ?_) fun h => Ok.ret ?_) fun r hr => ?_
      · simp only [Bool.and_eq_true, decide_eq_true_eq] at h
        rw [gidx_some (by omega) hn]
        exact Ok.ret (by rw [if_pos h])
      · have : ¬ (s = c ∧ g = o) := by simpa using h
        rw [if_neg this]
      · rw [gidx_some (by omega) (show s.toNat < b.length by omega)]
        have hbv : b[s.toNat] = r := by
          rw [hr]
          by_cases hsc : s = c
          · subst hsc
            have hbv := hB.2 s.toNat p[s.toNat] keys g b[s.toNat] (List.getElem?_eq_getElem hn) (by rw [List.getElem?_set_self hi2]) hgs (List.getElem?_eq_getElem (by omega))
            have hgr := hga hk2
            have hk1 : p[s.toNat].Kind ≠ 1 := by omega
            have hon : o ∈ keys := (q2 o).2 ⟨⟨o0, o1⟩, .inl rfl⟩
            have hnil : keys ≠ [] := fun e => by rw [e] at hon; simp at hon
            by_cases hgo : g = o
            · subst hgo
              rw [if_pos ⟨rfl, rfl⟩, hbv]
              unfold closedAt acc
              rw [if_neg hk1, if_neg (by omega), if_neg hnil]
              simp [hon]
            · rw [if_neg (fun h => hgo h.2), hbv, hav]
              unfold closedAt
              rw [if_neg hk1, if_neg hk1]
              by_cases hg1 : g = -1
              · rw [if_pos hg1, if_pos hg1]
              · rw [if_neg hg1, if_neg hg1]
                have hacc : acc p[s.toNat] keys g = acc p[s.toNat] ks[s.toNat] g := by
                  have e3 : acc p[s.toNat] keys g = decide (g ∈ keys) := by unfold acc; rw [if_neg hnil]
                  rw [e3]
                  by_cases hac : acc p[s.toNat] ks[s.toNat] g = true
                  · rw [hac]
                    have hg0 : 0 ≤ g := by
                      have hfk := hs.keys.get hn hi2
                      unfold acc at hac
                      split at hac
                      · have := of_decide_eq_true hac; omega
                      · have := hfk.2.1 g (of_decide_eq_true hac); omega
                    exact decide_eq_true ((q2 g).2 ⟨⟨hg0, hgr.2⟩, .inr hac⟩)
                  · have : acc p[s.toNat] ks[s.toNat] g = false := by simpa using hac
                    rw [this]
                    exact decide_eq_false fun h => by
                      rcases ((q2 g).1 h).2 with h | h
                      · exact hgo h
                      · exact hac h
                rw [hacc]
          · rw [if_neg (fun h => hsc h.1), hav]
            have hne : c.toNat ≠ s.toNat := by omega
            exact hB.2 s.toNat p[s.toNat] ks[s.toNat] g b[s.toNat] (List.getElem?_eq_getElem hn) (by rw [List.getElem?_set_ne hne]; exact List.getElem?_eq_getElem (by omega)) hgs (List.getElem?_eq_getElem (by omega))
        rw [hbv]
        simp only [bne_self_eq_false, cond_false]
        rw [hw]
        exact hag _ rfl trivial
  · intro again s hsi _
    simp only [law23_SchemeWider_b1]
    rw [dec_nlt (by omega), cond_false]
    exact Ok.ret trivial
end Go.VM
