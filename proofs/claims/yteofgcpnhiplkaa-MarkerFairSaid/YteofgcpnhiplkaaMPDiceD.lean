/- Scripts that the dice make: plain reasoning about the printed functions. -/
import Derived.Test.YteofgcpnhiplkaaMPDiceC
namespace Go.VM
set_option linter.unusedVariables false
set_option linter.unusedSimpArgs false

/-- The answers of a script to the parts of its paper. -/
def FineAnswers (parts : List SPart) (l : List Int) : Prop := l.length = parts.length ∧ ∀ (i : Nat) (p : SPart) (a : Int), parts[i]? = some p → l[i]? = some a → (p.Kind ≠ 2 → a = -1) ∧ (p.Kind = 2 → a = p.Key ∨ a = 0 ∨ a = 1 ∨ a = -1 ∨ a = -2)
structure FineScript (p : List SPaper) (n : Int) (s : SScript) : Prop where
  paper : ∃ q ∈ p, s.Paper = q.Code ∧ s.Variant = q.Variant ∧ FineAnswers q.Parts s.Answers
  c1 : 1 ≤ s.Candidate
  c2 : s.Candidate ≤ n
  num : s.Number = s.Paper * 10000 + s.Candidate
  ce1 : 1 ≤ s.Centre
  ce2 : s.Centre ≤ 3
  pages : s.Pages.length = 2
def FineScripts (p : List SPaper) (n : Int) (l : List SScript) : Prop := (∀ s ∈ l, FineScript p n s) ∧ l.Pairwise (fun a b => a.Number < b.Number) ∧ (l.length : Int) ≤ 2 * n

theorem Script_then {k : Nat} {c v cand : Int} {p : List SPart} {x : List Int} {i : Int} {Y : Type} {f : Int → Int → List Int → List Int → Int → Option Y} {Q : Y → Prop} (hx : x.length ≤ 600) (h0 : 0 ≤ i) (hk : 10 < k) (hc : c = 0 ∨ c = 1) (hcand : 1 ≤ cand) (hcand2 : cand ≤ 100) (hp : p.length ≤ 3)
    (hf : ∀ num ce pg an j, num = c * 10000 + cand → 1 ≤ ce → ce ≤ 3 → pg.length = 2 → FineAnswers p an → 0 ≤ j → Ok (f num ce pg an j) Q) : Ok (Option.bind (mark_Dice_Script k c v p cand x i) (uc fun a => uc fun b => uc fun d => uc (f a b d))) Q := by
  unfold mark_Dice_Script
  refine Ok.bind (Q := fun r => r.1 = c * 10000 + cand ∧ 1 ≤ r.2.1 ∧ r.2.1 ≤ 3 ∧ r.2.2.1.length = 2 ∧ FineAnswers p r.2.2.2.1 ∧ 0 ≤ r.2.2.2.2) ?_ fun r hr => ?_
  · refine Next_then hx h0 (by omega) (by omega) fun a j ha1 ha2 hj => ?_
    refine Next_then hx hj (by omega) (by omega) fun b j hb1 hb2 hj => ?_
    rw [w64 (x := c * 10000) (by omega) (by omega), w64 (x := c * 10000 + cand) (by omega) (by omega), w64 (x := 1 + a) (by omega) (by omega)]
    refine Ok.bind (Q := fun r => r.2.1 = c * 10000 + cand ∧ 1 ≤ r.2.2.1 ∧ r.2.2.1 ≤ 3 ∧ r.2.2.2.1.length = 2 ∧ FineAnswers p r.2.2.2.2 ∧ 0 ≤ r.1) (ok_range p (fun s => s.1) (fun pre s => 0 ≤ s.2.1 ∧ s.2.2.1 = c * 10000 + cand ∧ s.2.2.2.1 = 1 + a ∧ s.2.2.2.2.1.length = 2 ∧ FineAnswers pre s.2.2.2.2.2) (by omega) rfl ⟨hj, rfl, rfl, rfl, rfl, fun i p z h => by simp at h⟩ (by omega) ?_ ?_) fun r hr => ?_
    · intro again s pre e post hl hi hlt hw hinv hag
      obtain ⟨i, j, num, ce, pg, an⟩ := s
      obtain ⟨hj, e1, e2, e3, e4, e5⟩ := hinv
      simp only at hi hlt hw hj e1 e2 e3 e4 e5
      simp only [mark_Dice_Script_b1, uc_mk]
      rw [dec_lt hlt, cond_true, gidx_mid hl hi]
      refine Ok.bind (Q := fun r => ((e.Kind ≠ 2 → r.1 = -1) ∧ (e.Kind = 2 → r.1 = e.Key ∨ r.1 = 0 ∨ r.1 = 1 ∨ r.1 = -1 ∨ r.1 = -2)) ∧ 0 ≤ r.2) ?_ fun r hr => ?_
      · refine ok_bif (fun h => ?_) fun h => ?_
        · have h' : e.Kind = 2 := by simpa using h
          refine Pick_then hx hj (by simp) (by simp) fun y j hy hj => Ok.ret ⟨⟨fun h => absurd h' h, fun _ => ?_⟩, hj⟩
          simpa using hy
        · have h' : e.Kind ≠ 2 := by simpa using h
          exact Ok.ret ⟨⟨fun _ => rfl, fun h => absurd h h'⟩, hj⟩
      · obtain ⟨y, j⟩ := r
        obtain ⟨hy, hj⟩ := hr
        simp only at hy hj
        simp only [uc_mk]
        have hle : pre.length ≤ 3 := by rw [hl] at hp; simp at hp; omega
        refine ok_cap (by simp; omega) ?_
        rw [hw]
        refine hag _ rfl ⟨hj, e1, e2, e3, by simp [e4], fun n q z hq hz => ?_⟩
        rcases Nat.lt_or_ge n pre.length with h | h
        · rw [List.getElem?_append_left h] at hq
          rw [List.getElem?_append_left (by rw [e4]; exact h)] at hz
          exact e5 n q z hq hz
        · rw [List.getElem?_append_right h] at hq
          rw [List.getElem?_append_right (by rw [e4]; exact h), e4] at hz
          have hn : n - pre.length = 0 := by have := (List.getElem?_eq_some_iff.1 hq).1; simp at this; omega
          rw [hn] at hq hz
          simp at hq hz
          subst hq hz
          exact hy
    · intro again s hi hinv
      obtain ⟨i, j, num, ce, pg, an⟩ := s
      obtain ⟨hj, e1, e2, e3, e4⟩ := hinv
      simp only at hi hj e1 e2 e3 e4
      simp only [mark_Dice_Script_b1, uc_mk]
      rw [dec_nlt (by omega), cond_false]
      exact Ok.ret ⟨e1, by simp only; omega, by simp only; omega, e3, e4, hj⟩
    · obtain ⟨j, num, ce, pg, an⟩ := r
      exact Ok.ret ⟨hr.1, hr.2.1, hr.2.2.1, hr.2.2.2.1, hr.2.2.2.2.1, hr.2.2.2.2.2⟩
  · obtain ⟨num, ce, pg, an, j⟩ := r
    exact hf num ce pg an j hr.1 hr.2.1 hr.2.2.1 hr.2.2.2.1 hr.2.2.2.2.1 hr.2.2.2.2.2
theorem code_ok {k : Nat} {p : List SPaper} (hp : p.length ≤ 1000) (c : Int) (hk : 1010 < k) : gloop (mark_Dice_Scripts_b3 k p c) k (0, ([] : List SPaper)) = some (p.filter (fun q => q.Code == c)) := by
  refine eq_of_ok (ok_range p (fun s => s.1) (fun pre s => s.2 = pre.filter (fun q => q.Code == c)) (by omega) rfl rfl (by omega) ?_ ?_)
  · intro again s pre e post hl hi hlt hw hinv hag
    obtain ⟨i, xs⟩ := s
    simp only at hi hlt hw hinv
    simp only [mark_Dice_Scripts_b3, uc_mk]
    rw [dec_lt hlt, cond_true, gidx_mid hl hi]
    have hle : xs.length ≤ 1000 := by
      rw [hinv]
      have := List.length_filter_le (fun q : SPaper => q.Code == c) pre
      rw [hl] at hp; simp at hp; omega
    refine Ok.bind (Q := fun r => r = (pre ++ [e]).filter (fun q => q.Code == c)) ?_ fun r hr => ?_
    · rw [List.filter_append, ← hinv]
      refine ok_bif (fun h => ok_cap (by simp; omega) (Ok.ret (by simp [h]))) fun h => Ok.ret (by simp [h])
    · rw [hw]; exact hag _ rfl hr
  · intro again s hi hinv
    obtain ⟨i, xs⟩ := s
    simp only at hi hinv
    simp only [mark_Dice_Scripts_b3, uc_mk]
    rw [dec_nlt (by omega), cond_false]
    exact Ok.ret hinv
theorem Scripts_then {k : Nat} {p : List SPaper} {n : Int} {x : List Int} {i : Int} {Y : Type} {f : List SScript → Int → Option Y} {Q : Y → Prop} (hx : x.length ≤ 600) (h0 : 0 ≤ i) (hk : 2000 < k) (hn0 : 0 ≤ n) (hn : n ≤ 100) (hp : FinePapers p) (hf : ∀ l j, FineScripts p n l → 0 ≤ j → Ok (f l j) Q) : Ok (Option.bind (mark_Dice_Scripts k p n x i) (uc f)) Q := by
  unfold mark_Dice_Scripts
  refine Ok.bind (Q := fun r => FineScripts p n r.1 ∧ 0 ≤ r.2) ?_ fun r hr => ?_
  · refine Ok.bind (Q := fun r => 0 ≤ r.1 ∧ FineScripts p n r.2) (ok_loop (fun s => 0 ≤ s.1 ∧ s.1 ≤ 2 ∧ 0 ≤ s.2.1 ∧ (∀ z ∈ s.2.2, FineScript p n z ∧ z.Paper < s.1) ∧ s.2.2.Pairwise (fun a b => a.Number < b.Number) ∧ (s.2.2.length : Int) ≤ n * s.1) (fun s => (2 - s.1).toNat) ⟨by simp, by simp, h0, by simp, by simp, by simp⟩ (by simp only; omega) ?_) fun r hr => ?_
    · intro again s hs hag
      obtain ⟨c, j, xs⟩ := s
      obtain ⟨h1, h2, h3, h4, h5, h6⟩ := hs
      simp only at h1 h2 h3 h4 h5 h6
      simp only [mark_Dice_Scripts_b1, uc_mk]
      refine ok_bif (fun hc => ?_) fun hc => ?_
      · have hc' := of_decide_eq_true hc
        have hpl := hp.2.1
        refine ok_then _ (code_ok (by omega) c (by omega)) ?_
        generalize hls : p.filter (fun q => q.Code == c) = ls
        have hls' : ∀ q ∈ ls, q ∈ p ∧ q.Code = c := fun q hq => by rw [← hls] at hq; simpa using hq
        have hlsl : ls.length ≤ 3 := by
          have := List.length_filter_le (fun q : SPaper => q.Code == c) p
          rw [hls] at this; omega
        have hxs : (xs.length : Int) ≤ 200 := by
          have : n * c ≤ n * 2 := Int.mul_le_mul_of_nonneg_left (by omega) hn0
          omega
        refine Ok.bind (Q := fun r => 0 ≤ r.1 ∧ (∀ z ∈ r.2, FineScript p n z ∧ z.Paper < c + 1) ∧ r.2.Pairwise (fun a b => a.Number < b.Number) ∧ (r.2.length : Int) ≤ n * c + n) (ok_loop (fun s => 1 ≤ s.1 ∧ s.1 ≤ n + 1 ∧ 0 ≤ s.2.1 ∧ (∀ z ∈ s.2.2, FineScript p n z ∧ (z.Paper < c ∨ z.Paper = c ∧ z.Candidate < s.1)) ∧ s.2.2.Pairwise (fun a b => a.Number < b.Number) ∧ (s.2.2.length : Int) + 1 ≤ n * c + s.1) (fun s => (n + 1 - s.1).toNat) ⟨by simp, by simp only; omega, h3, fun z hz => ⟨(h4 z hz).1, .inl (h4 z hz).2⟩, h5, by simp only; omega⟩ (by simp only; omega) ?_) fun r hr => ?_
        · intro again s hs hag
          obtain ⟨d, j, ys⟩ := s
          obtain ⟨g1, g2, g3, g4, g5, g6⟩ := hs
          simp only at g1 g2 g3 g4 g5 g6
          simp only [mark_Dice_Scripts_b2, uc_mk]
          refine ok_let (ok_bif (fun hd => ?_) fun hd => ?_)
          · simp only [Bool.and_eq_true, decide_eq_true_eq] at hd
            obtain ⟨hd1, hd2⟩ := hd
            have hys : (ys.length : Int) ≤ 300 := by
              have : n * c ≤ n * 2 := Int.mul_le_mul_of_nonneg_left (by omega) hn0
              omega
            refine Ok.bind (Q := fun r => 0 ≤ r.1 ∧ (∀ z ∈ r.2, FineScript p n z ∧ (z.Paper < c ∨ z.Paper = c ∧ z.Candidate < d + 1)) ∧ r.2.Pairwise (fun a b => a.Number < b.Number) ∧ (r.2.length : Int) ≤ n * c + d) ?_ fun r hr => ?_
            · refine Next_then hx g3 (by omega) (by omega) fun a j ha1 ha2 hj => ?_
              refine ok_bif (fun h => ?_) fun h => Ok.ret ⟨hj, fun z hz => ⟨(g4 z hz).1, by have := (g4 z hz).2; omega⟩, g5, by simp only; omega⟩
              refine Next_then hx hj (by omega) (by omega) fun b j hb1 hb2 hj => ?_
              refine ok_idx hb1 hb2 fun hi => ?_
              generalize hq : ls[b.toNat] = q
              obtain ⟨hq1, hq2⟩ := hls' q (hq ▸ List.getElem_mem hi)
              have hqp := hp.2.2.1 q hq1
              refine Script_then hx hj (by omega) hqp.2.1 (by omega) (by omega) hqp.1.2.1 fun num ce pg an j e1 e2 e3 e4 e5 hj => ?_
              refine ok_cap (by simp; omega) (Ok.ret ⟨hj, fun z hz => ?_, ?_, by simp; omega⟩)
              · simp only [List.mem_append, List.mem_singleton] at hz
                rcases hz with hz | rfl
                · exact ⟨(g4 z hz).1, by have := (g4 z hz).2; omega⟩
                · exact ⟨⟨⟨q, hq1, rfl, rfl, e5⟩, g1, by simp only; omega, e1, e2, e3, e4⟩, by simp only; omega⟩
              · refine List.pairwise_append.2 ⟨g5, by simp, fun z hz z' hz' => ?_⟩
                simp only [List.mem_singleton] at hz'
                subst hz'
                obtain ⟨k1, k2⟩ := g4 z hz
                have := k1.num
                have := k1.c2
                obtain ⟨q', hq', e6, _⟩ := k1.paper
                have := (hp.2.2.1 q' hq').2.1
                simp only
                omega
            · obtain ⟨j, zs⟩ := r
              simp only at hr
              simp only [uc_mk]
              rw [w64 (x := d + 1) (by omega) (by omega)]
              exact hag _ ⟨by simp only; omega, by simp only; omega, hr.1, hr.2.1, hr.2.2.1, by simp only; omega⟩ (by simp only; omega)
          · exact Ok.ret ⟨g3, fun z hz => ⟨(g4 z hz).1, by have := (g4 z hz).2; omega⟩, g5, by simp only; omega⟩
        · obtain ⟨j, zs⟩ := r
          simp only at hr
          simp only [uc_mk]
          rw [w64 (x := c + 1) (by omega) (by omega)]
          refine hag _ ⟨by simp only; omega, by simp only; omega, hr.1, hr.2.1, hr.2.2.1, ?_⟩ (by simp only; omega)
          simp only
          rw [Int.mul_add, Int.mul_one]
          exact hr.2.2.2
      · have hc' := of_decide_eq_false hc
        have : c = 2 := by omega
        subst this
        exact Ok.ret ⟨h3, fun z hz => (h4 z hz).1, h5, by simp only; omega⟩
    · obtain ⟨j, l⟩ := r
      exact Ok.ret ⟨hr.2, hr.1⟩
  · obtain ⟨l, j⟩ := r
    exact hf l j hr.1 hr.2
end Go.VM
