/- The pure statement of MarkerFair: whatever the numbers, the printed function answers true. -/
import Derived.Test.YteofgcpnhiplkaaMPDiceD
namespace Go.VM
set_option linter.unusedVariables false
set_option linter.unusedSimpArgs false

theorem filt_pos {α : Type} {p : α → Bool} {a : α} (h : p a = true) : [a].filter p = [a] := by simp [h]
theorem filt_neg {α : Type} {p : α → Bool} {a : α} (h : p a = false) : [a].filter p = [] := by simp [h]
theorem sane24 : law24_sane 3000 = some true := by decide +kernel

theorem contains_eq {k : Nat} {l : List Int} {v : Int} (hl : l.length ≤ 1000) (hk : 1010 < k) : slices_Contains_int k l v = some (decide (v ∈ l)) := by
  unfold slices_Contains_int
  have h : Ok (slices_Index_int k l v) (fun r => (0 ≤ r ↔ v ∈ l)) := by
    unfold slices_Index_int
    refine ok_sum (Q := fun _ => v ∉ l) (R := fun r => 0 ≤ r ∧ v ∈ l) (ok_range l (fun s => s) (fun pre s => v ∉ pre) (by omega) rfl (by simp) (by omega) ?_ ?_) ?_ ?_
    · intro again s pre e post hle hi hlt hw hinv hag
      simp only [slices_Index_int_b1]
      rw [dec_lt hlt, cond_true, gidx_mid hle hi]
      refine ok_bif (fun h => Ok.ret ?_) fun h => ?_
      · have : v = e := by simpa using h
        exact ⟨by omega, by rw [hle]; simp [this]⟩
      · have : v ≠ e := by simpa using h
        rw [hw]
        exact hag _ rfl (by simp [hinv, this])
    · intro again s hi hinv
      simp only [slices_Index_int_b1]
      rw [dec_nlt (by omega), cond_false]
      exact Ok.ret hinv
    · intro a ha; exact Ok.ret ⟨fun h => by omega, fun h => absurd h ha⟩
    · intro r hr; exact Ok.ret ⟨fun _ => hr.2, fun _ => hr.1⟩
  obtain ⟨r, e, hr⟩ := h
  rw [e]
  by_cases hv : v ∈ l
  · have := hr.2 hv; simp [hv, this]
  · have : ¬ 0 ≤ r := fun h => hv (hr.1 h)
    simp [hv]; omega

/-- May the marker mark the script? -/
def mayM (m : SMarker) (s : SScript) : Bool := decide (s.Paper ∈ m.Papers) && (m.Centre != s.Centre)
theorem elig_eq {k : Nat} {l : List SMarker} (hl : FineMarkers l) (s : SScript) (id : Int) (hk : 1010 < k) : Ok (marker_Eligible k l id s.Number s.Paper s.Candidate s.Centre s.Variant s.Pages s.Answers) (fun r => (∀ m ∈ l, m.ID = id → r = mayM m s) ∧ ((∀ m ∈ l, m.ID ≠ id) → r = false)) := by
  unfold marker_Eligible marker_Find
  refine Ok.bind (Q := fun r => ((∃ m ∈ l, m.ID = id ∧ r = (m.ID, m.Centre, m.Level, m.Capacity, m.Papers, true)) ∨ ((∀ m ∈ l, m.ID ≠ id) ∧ r.2.2.2.2.2 = false))) ?_ fun r hr => ?_
  · refine ok_sum (Q := fun _ => ∀ m ∈ l, m.ID ≠ id) (R := fun r => ∃ m ∈ l, m.ID = id ∧ r = (m.ID, m.Centre, m.Level, m.Capacity, m.Papers, true)) (ok_range l (fun s => s) (fun pre s => ∀ m ∈ pre, m.ID ≠ id) (by have := hl.2.1; omega) rfl (by simp) (by have := hl.2.1; omega) ?_ ?_) ?_ ?_
    · intro again s pre e post hle hi hlt hw hinv hag
      simp only [marker_Find_b1]
      rw [dec_lt hlt, cond_true, gidx_mid hle hi]
      have hel : e ∈ l := by rw [hle]; simp
      refine ok_bif (fun h => ?_) fun h => ?_
      · have h' : e.ID = id := by simpa using h
        have hpl : e.Papers.length ≤ 2 := by rcases (hl.2.2.1 e hel).pa with h | h | h <;> simp [h]
        unfold slices_Clone_int
        rw [gcap_some (by omega)]
        exact Ok.ret ⟨e, hel, h', rfl⟩
      · have h' : e.ID ≠ id := by simpa using h
        rw [hw]
        refine hag _ rfl fun m hm => ?_
        simp only [List.mem_append, List.mem_singleton] at hm
        rcases hm with hm | rfl
        · exact hinv m hm
        · exact h'
    · intro again s hi hinv
      simp only [marker_Find_b1]
      rw [dec_nlt (by omega), cond_false]
      exact Ok.ret hinv
    · intro a ha; exact Ok.ret (.inr ⟨ha, rfl⟩)
    · intro r hr; exact Ok.ret (.inl hr)
  · obtain ⟨a, b, c, d, e, f⟩ := r
    simp only [uc_mk]
    rcases hr with ⟨m, hm, hid, he⟩ | ⟨hno, he⟩
    · simp only [Prod.mk.injEq] at he
      obtain ⟨rfl, rfl, rfl, rfl, rfl, rfl⟩ := he
      have hpl : m.Papers.length ≤ 2 := by rcases (hl.2.2.1 m hm).pa with h | h | h <;> simp [h]
      unfold marker_may
      simp only [cond_true, contains_eq (show m.Papers.length ≤ 1000 by omega) hk, Option.bind_some, blet_mk]
      refine Ok.ret ⟨fun m' hm' hid' => ?_, fun h => absurd hid (h m hm)⟩
      -- the IDs differ
      have : m' = m := by
        have hp := hl.2.2.2
        obtain ⟨n1, h1, e1⟩ := List.getElem_of_mem hm
        obtain ⟨n2, h2, e2⟩ := List.getElem_of_mem hm'
        rw [List.pairwise_iff_getElem] at hp
        rcases Nat.lt_trichotomy n1 n2 with h | h | h
        · have := hp n1 n2 h1 h2 h; rw [e1, e2] at this; omega
        · subst h; rw [← e1, ← e2]
        · have := hp n2 n1 h2 h1 h; rw [e1, e2] at this; omega
      rw [this]; rfl
    · simp only at he
      subst he
      simp only [cond_false, Option.bind_some]
      exact Ok.ret ⟨fun m hm hid => absurd hid (hno m hm), fun _ => rfl⟩
theorem elig_of {k : Nat} {l : List SMarker} (hl : FineMarkers l) (s : SScript) {m : SMarker} (hm : m ∈ l) (hk : 1010 < k) : marker_Eligible k l m.ID s.Number s.Paper s.Candidate s.Centre s.Variant s.Pages s.Answers = some (mayM m s) := by
  obtain ⟨r, e, h1, _⟩ := elig_eq hl s m.ID hk
  rw [e, h1 m hm rfl]
theorem elig_no {k : Nat} {l : List SMarker} (hl : FineMarkers l) (s : SScript) (hk : 1010 < k) : marker_Eligible k l 100 s.Number s.Paper s.Candidate s.Centre s.Variant s.Pages s.Answers = some false := by
  obtain ⟨r, e, _, h2⟩ := elig_eq hl s 100 hk
  rw [e, h2 fun m hm => by have := (hl.2.2.1 m hm).hi; omega]

def ableL (l : List SMarker) (s : SScript) : List Int := (l.filter (fun m => mayM m s)).map (·.ID)
def seniorL (l : List SMarker) (s : SScript) : List Int := (l.filter (fun m => mayM m s && decide (1 < m.Level))).map (·.ID)
theorem able_eq {k : Nat} {l : List SMarker} (hl : FineMarkers l) (s : SScript) (hk : 1010 < k) : marker_Able k l s.Number s.Paper s.Candidate s.Centre s.Variant s.Pages s.Answers = some (ableL l s) := by
  unfold marker_Able
  have hlen := hl.2.1
  refine eq_of_ok (Ok.bind (ok_range l (fun s => s.1) (fun pre z => z.2 = ableL pre s) (by omega) rfl rfl (by omega) ?_ ?_) fun r hr => Ok.ret hr)
  · intro again z pre e post hle hi hlt hw hinv hag
    obtain ⟨i, xs⟩ := z
    simp only at hi hlt hw hinv
    simp only [marker_Able_b1, uc_mk]
    rw [dec_lt hlt, cond_true, gidx_mid hle hi]
    have hel : e ∈ l := by rw [hle]; simp
    have hx : xs.length ≤ 5 := by
      rw [hinv]; unfold ableL
      have := List.length_filter_le (fun m => mayM m s) pre
      rw [hle] at hlen; simp at hlen; simp; omega
    rw [elig_of hl s hel hk, Option.bind_some]
    refine Ok.bind (Q := fun r => r = ableL (pre ++ [e]) s) ?_ fun r hr => ?_
    · unfold ableL at *
      rw [List.filter_append, List.map_append, ← hinv]
      refine ok_bif (fun h => ok_cap (by simp; omega) (Ok.ret (by simp [h]))) fun h => Ok.ret (by simp [h])
    · rw [hw]; exact hag _ rfl hr
  · intro again z hi hinv
    obtain ⟨i, xs⟩ := z
    simp only at hi hinv
    simp only [marker_Able_b1, uc_mk]
    rw [dec_nlt (by omega), cond_false]
    exact Ok.ret hinv
theorem seniors_eq {k : Nat} {l : List SMarker} (hl : FineMarkers l) (s : SScript) (hk : 1010 < k) : marker_Seniors k l s.Number s.Paper s.Candidate s.Centre s.Variant s.Pages s.Answers = some (seniorL l s) := by
  unfold marker_Seniors
  have hlen := hl.2.1
  refine eq_of_ok (Ok.bind (ok_range l (fun s => s.1) (fun pre z => z.2 = seniorL pre s) (by omega) rfl rfl (by omega) ?_ ?_) fun r hr => Ok.ret hr)
  · intro again z pre e post hle hi hlt hw hinv hag
    obtain ⟨i, xs⟩ := z
    simp only at hi hlt hw hinv
    simp only [marker_Seniors_b1, uc_mk]
    rw [dec_lt hlt, cond_true, gidx_mid hle hi]
    have hel : e ∈ l := by rw [hle]; simp
    have hx : xs.length ≤ 5 := by
      rw [hinv]; unfold seniorL
      have := List.length_filter_le (fun m => mayM m s && decide (1 < m.Level)) pre
      rw [hle] at hlen; simp at hlen; simp; omega
    rw [elig_of hl s hel hk]
    refine Ok.bind (Q := fun r => r = seniorL (pre ++ [e]) s) ?_ fun r hr => ?_
    · unfold seniorL at *
      rw [List.filter_append, List.map_append, ← hinv]
      refine Ok.bind (Q := fun b => b = (mayM e s && decide (1 < e.Level))) (ok_bif (fun h => Ok.ret ?_) fun h => Ok.ret ?_) fun b hb => ?_
      · have := of_decide_eq_true h
        have : 1 < e.Level := by omega
        simp [this]
      · have := of_decide_eq_false h
        have : ¬ 1 < e.Level := by omega
        simp [this]
      · subst hb
        refine ok_bif (fun h => ok_cap (by simp; omega) (Ok.ret (by rw [filt_pos (p := fun m => mayM m s && decide (1 < m.Level)) h]; rfl))) fun h => Ok.ret (by rw [filt_neg (p := fun m => mayM m s && decide (1 < m.Level)) h]; simp)
    · rw [hw]; exact hag _ rfl hr
  · intro again z hi hinv
    obtain ⟨i, xs⟩ := z
    simp only at hi hinv
    simp only [marker_Seniors_b1, uc_mk]
    rw [dec_nlt (by omega), cond_false]
    exact Ok.ret hinv
theorem same_eq {k : Nat} (a : List Int) (hl : a.length ≤ 1000) (hk : 1010 < k) : law24_same k a a = some true := by
  unfold law24_same
  rw [bne_int]
  simp only [ne_eq, not_true_eq_false, decide_false, cond_false]
  refine eq_of_ok (ok_sum (Q := fun _ => True) (R := fun _ => False) (ok_range a (fun s => s) (fun _ _ => True) (by omega) rfl trivial (by omega) ?_ ?_) (fun _ _ => Ok.ret rfl) (fun _ h => h.elim))
  · intro again s pre e post hle hi hlt hw hinv hag
    simp only [law24_same_b1]
    rw [dec_lt hlt, cond_true, gidx_mid hle hi, gidx_mid hle hi, bne_int]
    simp only [ne_eq, not_true_eq_false, decide_false, cond_false]
    rw [hw]; exact hag _ rfl trivial
  · intro again s hi hinv
    simp only [law24_same_b1]
    rw [dec_nlt (by omega), cond_false]
    exact Ok.ret trivial
theorem has_eq {k : Nat} {s : SScript} {m : SMarker} (hl : m.Papers.length ≤ 1000) (hk : 1010 < k) : gloop (law24_MarkerFair_b3 k s m) k (false, 0) = some (decide (s.Paper ∈ m.Papers)) := by
  refine eq_of_ok (ok_range m.Papers (fun z => z.2) (fun pre z => z.1 = decide (s.Paper ∈ pre)) (by omega) rfl (by simp) (by omega) ?_ ?_)
  · intro again z pre e post hle hi hlt hw hinv hag
    obtain ⟨b, i⟩ := z
    simp only at hi hlt hw hinv
    simp only [law24_MarkerFair_b3, uc_mk]
    rw [dec_lt hlt, cond_true, gidx_mid hle hi, blet_mk, hw]
    refine hag _ rfl ?_
    simp only
    rw [hinv, beq_int]
    by_cases h1 : s.Paper ∈ pre <;> by_cases h2 : e = s.Paper
    · simp [h1, h2]
    · simp [h1, h2]
    · simp [h1, h2]
    · have : ¬ s.Paper = e := fun h => h2 h.symm
      simp [h1, h2, this]
  · intro again z hi hinv
    obtain ⟨b, i⟩ := z
    simp only at hi hinv
    simp only [law24_MarkerFair_b3, uc_mk]
    rw [dec_nlt (by omega), cond_false]
    exact Ok.ret hinv
theorem pure_MarkerFair (t : List Int) (ht : ∀ x ∈ t, fitsI .i64 x) (hl : t.length * 8 ≤ 140737488351232) : ∃ k, law24_MarkerFair k t = some true := by
  refine ⟨3000, Ok.eq ?_⟩
  unfold law24_MarkerFair mark_Light mark_Roll
  simp only [Option.bind_some, u0_mk, sane24]
  refine ok_bif (fun h => Ok.ret rfl) fun h => ?_
  have h600 : t.length ≤ 600 := by simp at h; omega
  refine Markers_then h600 (by omega) (by omega) fun l j hL hj => ?_
  refine Papers_then h600 hj (by omega) fun p sch j hP hS hj => ?_
  refine Scripts_then h600 hj (by omega) (by omega) (by omega) hP fun scr j hC hj => ?_
  have hlen := hL.2.1
  have hcl := hC.2.2
  refine ok_sum (Q := fun _ => True) (R := fun _ => False) (ok_range scr (fun s => s) (fun _ _ => True) (by omega) rfl trivial (by omega) ?_ ?_) (fun _ _ => Ok.ret rfl) (fun _ h => h.elim)
  · intro again z pre s post hle hi hlt hw hinv hag
    simp only [law24_MarkerFair_b1]
    rw [dec_lt hlt, cond_true, gidx_mid hle hi]
    refine ok_sum (Q := fun r => r = (ableL l s, seniorL l s)) (R := fun _ => False) (ok_range l (fun z => z.1) (fun pre z => z.2 = (ableL pre s, seniorL pre s)) (by omega) rfl rfl (by omega) ?_ ?_) (fun r hr => ?_) (fun _ h => h.elim)
    · intro again z pre m post hle hi hlt hw hinv hag
      obtain ⟨i, xs, ys⟩ := z
      simp only [Prod.mk.injEq] at hi hlt hw hinv
      obtain ⟨hx, hy⟩ := hinv
      simp only [law24_MarkerFair_b2, uc_mk]
      rw [dec_lt hlt, cond_true, gidx_mid hle hi]
      have hm : m ∈ l := by rw [hle]; simp
      have hpl : m.Papers.length ≤ 2 := by rcases (hL.2.2.1 m hm).pa with h | h | h <;> simp [h]
      have hpre : pre.length ≤ 5 := by rw [hle] at hlen; simp at hlen; omega
      have hxl : xs.length ≤ 5 := by
        rw [hx]; unfold ableL
        have := List.length_filter_le (fun m => mayM m s) pre
        simp; omega
      have hyl : ys.length ≤ 5 := by
        rw [hy]; unfold seniorL
        have := List.length_filter_le (fun m => mayM m s && decide (1 < m.Level)) pre
        simp; omega
      rw [has_eq (by omega) (by omega), Option.bind_some, blet_mk]
      rw [show (decide (s.Paper ∈ m.Papers) && (m.Centre != s.Centre)) = mayM m s from rfl, elig_of hL s hm (by omega), Option.bind_some]
      simp only [beq_self_eq_true, Bool.not_true, cond_false]
      refine ok_sum (Q := fun r => r = (ableL (pre ++ [m]) s, seniorL (pre ++ [m]) s)) (R := fun _ => False) ?_ (fun r hr => ?_) (fun _ h => h.elim)
      · unfold ableL seniorL at *
        simp only [List.filter_append, List.map_append, ← hx, ← hy]
        refine Ok.bind (Q := fun r => r = xs ++ (List.filter (fun m => mayM m s) [m]).map (·.ID)) (ok_bif (fun h => ok_cap (by simp; omega) (Ok.ret (by simp [h]))) fun h => Ok.ret (by simp [h])) fun r hr => ?_
        subst hr
        refine ok_let ?_
        have hgt : decide (m.Level > 1) = decide (1 < m.Level) := rfl
        rw [hgt]
        refine ok_bif (fun h => ok_cap (by simp; omega) (Ok.ret ?_)) fun h => Ok.ret ?_
        · simp only [Prod.mk.injEq, true_and]
          rw [filt_pos (p := fun m => mayM m s && decide (1 < m.Level)) h]; rfl
        · simp only [Prod.mk.injEq, true_and]
          rw [filt_neg (p := fun m => mayM m s && decide (1 < m.Level)) h]; simp
      · subst hr
        simp only [uc_mk]
        rw [hw]
        exact hag _ rfl rfl
    · intro again z hi hinv
      obtain ⟨i, xs, ys⟩ := z
      simp only at hi hinv
      simp only [law24_MarkerFair_b2, uc_mk]
      rw [dec_nlt (by omega), cond_false]
      exact Ok.ret hinv
    · subst hr
      simp only [uc_mk]
      have ha : (ableL l s).length ≤ 5 := by
        unfold ableL
        have := List.length_filter_le (fun m => mayM m s) l
        simp; omega
      have hb : (seniorL l s).length ≤ 5 := by
        unfold seniorL
        have := List.length_filter_le (fun m => mayM m s && decide (1 < m.Level)) l
        simp; omega
      rw [able_eq hL s (by omega), Option.bind_some, same_eq _ (by omega) (by omega), Option.bind_some]
      simp only [Bool.not_true, cond_false]
      rw [seniors_eq hL s (by omega), Option.bind_some, same_eq _ (by omega) (by omega), Option.bind_some]
      simp only [Bool.not_true, cond_false, Option.bind_some]
      rw [elig_no hL s (by omega)]
      simp only [Option.bind_some, cond_false]
      rw [hw]
      exact hag _ rfl trivial
  · intro again z hi hinv
    simp only [law24_MarkerFair_b1]
    rw [dec_nlt (by omega), cond_false]
    exact Ok.ret trivial
end Go.VM
