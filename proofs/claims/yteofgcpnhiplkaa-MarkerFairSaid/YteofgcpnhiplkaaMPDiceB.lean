/- Papers, schemes, markers and scripts that the dice make: plain reasoning about the printed functions. -/
import Derived.Test.YteofgcpnhiplkaaMPDiceA
namespace Go.VM
set_option linter.unusedVariables false
set_option linter.unusedSimpArgs false

/-- A part as the dice make it. -/
def FineP (p : SPart) : Prop := (p.Kind = 1 ∧ 2 ≤ p.Max ∧ p.Max ≤ 6 ∧ p.Options = 0 ∧ p.Key = 0 ∧ p.Topic = 0 ∧ p.Objective = 0) ∨ (p.Kind = 2 ∧ 1 ≤ p.Max ∧ p.Max ≤ 2 ∧ p.Options = 4 ∧ 0 ≤ p.Key ∧ p.Key < 4 ∧ p.Topic = 0 ∧ p.Objective = 0)
def FineParts (l : List SPart) : Prop := 1 ≤ l.length ∧ l.length ≤ 3 ∧ ∀ p ∈ l, FineP p
theorem Paper_then {k : Nat} {c v : Int} {x : List Int} {i : Int} {Y : Type} {f : List SPart → Int → Option Y} {Q : Y → Prop} (hx : x.length ≤ 600) (h0 : 0 ≤ i) (hf : ∀ l j, FineParts l → 0 ≤ j → Ok (f l j) Q) : Ok (Option.bind (mark_Dice_Paper k c v x i) (uc f)) Q := by
  unfold mark_Dice_Paper
  refine Ok.bind (Q := fun r => FineParts r.1 ∧ 0 ≤ r.2) ?_ fun r hr => ?_
  · refine Next_then hx h0 (by omega) (by omega) fun a j ha1 ha2 hj => ?_
    refine Next_then hx hj (by omega) (by omega) fun b j hb1 hb2 hj => ?_
    have hA : FineP ⟨1, IntKind.wrap .i64 (3 + a), 0, 0, 0, 0⟩ := by
      left; refine ⟨rfl, ?_, ?_, rfl, rfl, rfl, rfl⟩ <;> (simp only; rw [w64 (by omega) (by omega)]; omega)
    refine Ok.bind (Q := fun r => 0 ≤ r.1 ∧ 1 ≤ r.2.length ∧ r.2.length ≤ 2 ∧ ∀ p ∈ r.2, FineP p) ?_ fun r hr => ?_
    · refine ok_bif (fun h => ?_) fun h => Ok.ret ⟨hj, by simp, by simp, by simpa using hA⟩
      refine Next_then hx hj (by omega) (by omega) fun c j hc1 hc2 hj => ?_
      refine Next_then hx hj (by omega) (by omega) fun d j hd1 hd2 hj => ?_
      refine ok_cap (by simp) (Ok.ret ⟨hj, by simp, by simp, ?_⟩)
      have hB : FineP ⟨2, IntKind.wrap .i64 (1 + c), 0, 0, 4, d⟩ := by
        right; refine ⟨rfl, ?_, ?_, rfl, hd1, hd2, rfl, rfl⟩ <;> (simp only; rw [w64 (by omega) (by omega)]; omega)
      intro p hp
      simp only [List.mem_append, List.mem_singleton] at hp
      rcases hp with rfl | rfl
      · exact hA
      · exact hB
    · obtain ⟨j1, xs⟩ := r
      obtain ⟨hj1, h1, h2, h3⟩ := hr
      simp only at hj1 h1 h2 h3
      simp only [uc_mk]
      refine Next_then hx hj1 (by omega) (by omega) fun e j he1 he2 hj => ?_
      refine Ok.bind (Q := fun r => 0 ≤ r.1 ∧ FineParts r.2) ?_ fun r hr => ?_
      · refine ok_bif (fun h => ?_) fun h => Ok.ret ⟨hj, h1, by simp only; omega, h3⟩
        refine Next_then hx hj (by omega) (by omega) fun g j hg1 hg2 hj => ?_
        refine ok_cap (by simp; omega) (Ok.ret ⟨hj, by simp, by simp; omega, fun p hp => ?_⟩)
        simp only [List.mem_append, List.mem_singleton] at hp
        rcases hp with hp | rfl
        · exact h3 p hp
        · left; refine ⟨rfl, ?_, ?_, rfl, rfl, rfl, rfl⟩ <;> (simp only; rw [w64 (by omega) (by omega)]; omega)
      · obtain ⟨j1, xs⟩ := r
        exact Ok.ret ⟨hr.2, hr.1⟩
  · obtain ⟨l, j⟩ := r
    exact hf l j hr.1 hr.2
/-- A scheme as the dice make it: no keys, at most one part withdrawn. -/
def FineS (n : Nat) (s : SScheme) : Prop := s.Keys = List.replicate n [] ∧ s.Withdrawn.length = n ∧ ∀ w ∈ s.Withdrawn, w = 0 ∨ w = 1 ∨ w = 2
theorem Scheme_then {k : Nat} {c v : Int} {p : List SPart} {x : List Int} {i : Int} {Y : Type} {f : List (List Int) → List Int → Int → Option Y} {Q : Y → Prop} (hx : x.length ≤ 600) (h0 : 0 ≤ i) (hp0 : 1 ≤ p.length) (hp : p.length ≤ 3) (hf : ∀ ks ws j, FineS p.length ⟨ks, ws⟩ → 0 ≤ j → Ok (f ks ws j) Q) : Ok (Option.bind (mark_Dice_Scheme k c v p x i) (uc fun a => uc (f a))) Q := by
  unfold mark_Dice_Scheme
  refine Ok.bind (Q := fun r => FineS p.length ⟨r.1, r.2.1⟩ ∧ 0 ≤ r.2.2) ?_ fun r hr => ?_
  · refine Ok.bind (Q := fun r => r = (List.replicate p.length [], List.replicate p.length 0)) ?_ fun r hr => ?_
    · refine ok_make (by omega) (by omega) (ok_let (ok_make (by omega) (by omega) (ok_let (Ok.ret ?_))))
      simp
    · subst hr
      simp only [uc_mk]
      refine Bool_then hx h0 (by omega) (by omega) fun b j hj => ?_
      refine Ok.bind (Q := fun r => 0 ≤ r.1 ∧ r.2.length = p.length ∧ ∀ w ∈ r.2, w = 0 ∨ w = 1 ∨ w = 2) ?_ fun r hr => ?_
      · refine ok_bif (fun h => ?_) fun h => Ok.ret ⟨hj, by simp, fun w hw => .inl (List.mem_replicate.1 hw).2⟩
        refine Next_then hx hj (by omega) (by omega) fun a j ha1 ha2 hj => ?_
        refine Next_then hx hj (by omega) (by omega) fun d j hd1 hd2 hj => ?_
        refine ok_idx ha1 (by simpa using ha2) fun hi => ok_let (Ok.ret ⟨hj, by simp, fun w hw => ?_⟩)
        rcases List.mem_or_eq_of_mem_set hw with hw | rfl
        · exact .inl (List.mem_replicate.1 hw).2
        · rw [w64 (by omega) (by omega)]; omega
      · obtain ⟨j1, xs⟩ := r
        exact Ok.ret ⟨⟨rfl, hr.2.1, hr.2.2⟩, hr.1⟩
  · obtain ⟨a, b, j⟩ := r
    exact hf a b j hr.1 hr.2
/-- Papers with their schemes, as the dice make them. -/
def FinePapers (l : List SPaper) : Prop := 1 ≤ l.length ∧ l.length ≤ 3 ∧ (∀ p ∈ l, FineParts p.Parts ∧ (p.Code = 0 ∨ p.Code = 1) ∧ (p.Variant = 0 ∨ p.Variant = 1)) ∧ l.Pairwise (fun a b => a.Code < b.Code ∨ a.Code = b.Code ∧ a.Variant < b.Variant)
def FineSchemes (l : List SPaper) (s : List SScheme) : Prop := s.length = l.length ∧ ∀ (i : Nat) (p : SPaper) (z : SScheme), l[i]? = some p → s[i]? = some z → FineS p.Parts.length z
theorem Papers_then {k : Nat} {x : List Int} {i : Int} {Y : Type} {f : List SPaper → List SScheme → Int → Option Y} {Q : Y → Prop} (hx : x.length ≤ 600) (h0 : 0 ≤ i) (hk : 10 < k) (hf : ∀ l s j, FinePapers l → FineSchemes l s → 0 ≤ j → Ok (f l s j) Q) : Ok (Option.bind (mark_Dice_Papers k x i) (uc fun a => uc (f a))) Q := by
  unfold mark_Dice_Papers
  refine Ok.bind (Q := fun r => FinePapers r.1 ∧ FineSchemes r.1 r.2.1 ∧ 0 ≤ r.2.2) ?_ fun r hr => ?_
  · refine Paper_then hx h0 fun l1 j hl1 hj => ?_
    refine Bool_then hx hj (by omega) (by omega) fun b j hj => ?_
    refine Ok.bind (Q := fun r => 0 ≤ r.1 ∧ (r.2 = [⟨0, 0, l1⟩] ∨ ∃ l2, FineParts l2 ∧ r.2 = [⟨0, 0, l1⟩, ⟨0, 1, l2⟩])) ?_ fun r hr => ?_
    · refine ok_bif (fun h => ?_) fun h => Ok.ret ⟨hj, .inl rfl⟩
      refine Paper_then hx hj fun l2 j hl2 hj => ok_cap (by simp) (Ok.ret ⟨hj, .inr ⟨l2, hl2, rfl⟩⟩)
    · obtain ⟨j1, xs⟩ := r
      obtain ⟨hj1, hxs⟩ := hr
      simp only at hj1 hxs
      simp only [uc_mk]
      refine Bool_then hx hj1 (by omega) (by omega) fun b j hj => ?_
      have h1 : FinePapers xs ∧ xs.length ≤ 2 ∧ ∀ p ∈ xs, p.Code = 0 := by
        rcases hxs with rfl | ⟨l2, hl2, rfl⟩
        · exact ⟨⟨by simp, by simp, by simp [hl1], by simp⟩, by simp, by simp⟩
        · exact ⟨⟨by simp, by simp, by simp [hl1, hl2], by simp⟩, by simp, by simp⟩
      refine Ok.bind (Q := fun r => 0 ≤ r.1 ∧ FinePapers r.2) ?_ fun r hr => ?_
      · refine ok_bif (fun h => ?_) fun h => Ok.ret ⟨hj, h1.1⟩
        refine Paper_then hx hj fun l3 j hl3 hj => ok_cap (by simp; omega) (Ok.ret ⟨hj, by simp, by simp; omega, fun p hp => ?_, ?_⟩)
        · simp only [List.mem_append, List.mem_singleton] at hp
          rcases hp with hp | rfl
          · exact h1.1.2.2.1 p hp
          · exact ⟨hl3, .inr rfl, .inl rfl⟩
        · refine List.pairwise_append.2 ⟨h1.1.2.2.2, by simp, fun a ha b hb => ?_⟩
          simp only [List.mem_singleton] at hb
          subst hb
          left
          have := h1.2.2 a ha
          simp only; omega
      · obtain ⟨j1, xs⟩ := r
        obtain ⟨hj1, hxs⟩ := hr
        simp only at hj1 hxs
        simp only [uc_mk]
        refine Ok.bind (Q := fun r => 0 ≤ r.1 ∧ FineSchemes xs r.2) (ok_range xs (fun s => s.1) (fun pre s => 0 ≤ s.2.1 ∧ FineSchemes pre s.2.2) (by have := hxs.2.1; omega) rfl ⟨hj1, by simp, fun i p z h => by simp at h⟩ (by have := hxs.2.1; omega) ?_ ?_) fun r hr => ?_
        · intro again s pre e post hl hi hlt hw hinv hag
          obtain ⟨i, j, zs⟩ := s
          obtain ⟨hj, hz1, hz2⟩ := hinv
          simp only at hi hlt hw hj hz1 hz2
          simp only [mark_Dice_Papers_b1, uc_mk]
          rw [dec_lt hlt, cond_true, gidx_mid hl hi]
          have he := (hxs.2.2.1 e (by rw [hl]; simp)).1
          refine Scheme_then hx hj he.1 he.2.1 fun ks ws j hs hj => ?_
          have hle : pre.length ≤ 3 := by have := hxs.2.1; rw [hl] at this; simp at this; omega
          refine ok_cap (by simp; omega) ?_
          rw [hw]
          refine hag _ rfl ⟨hj, by simp [hz1], fun n p z hp hz => ?_⟩
          rcases Nat.lt_or_ge n pre.length with h | h
          · rw [List.getElem?_append_left h] at hp
            rw [List.getElem?_append_left (by rw [hz1]; exact h)] at hz
            exact hz2 n p z hp hz
          · rw [List.getElem?_append_right h] at hp
            rw [List.getElem?_append_right (by rw [hz1]; exact h), hz1] at hz
            have hn : n - pre.length = 0 := by have := (List.getElem?_eq_some_iff.1 hp).1; simp at this; omega
            rw [hn] at hp hz
            simp at hp hz
            subst hp hz
            exact hs
        · intro again s hi hinv
          obtain ⟨i, j, zs⟩ := s
          simp only at hi
          simp only [mark_Dice_Papers_b1, uc_mk]
          rw [dec_nlt (by omega), cond_false]
          exact Ok.ret hinv
        · obtain ⟨j1, zs⟩ := r
          exact Ok.ret ⟨hxs, hr.2, hr.1⟩
  · obtain ⟨l, s, j⟩ := r
    exact hf l s j hr.1 hr.2.1 hr.2.2
end Go.VM
