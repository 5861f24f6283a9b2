/- Parts, papers, marks and answers that a tape makes: plain reasoning about the printed functions. -/
import Derived.Test.YtdpoilkjdfnadaaSPMakeA
namespace Go.VM
set_option linter.unusedVariables false
set_option linter.unusedSimpArgs false

/-- A valid part. -/
def FineP (p : SPart) : Prop := 1 ≤ p.Max ∧ p.Max ≤ 12 ∧ 0 ≤ p.Topic ∧ p.Topic ≤ 3 ∧ 0 ≤ p.Objective ∧ p.Objective ≤ 2 ∧ (p.Kind = 1 ∧ p.Options = 0 ∧ p.Key = 0 ∨ p.Kind = 2 ∧ 2 ≤ p.Options ∧ p.Options ≤ 5 ∧ 0 ≤ p.Key ∧ p.Key < p.Options)
def FineParts (l : List SPart) : Prop := 1 ≤ l.length ∧ l.length ≤ 6 ∧ ∀ p ∈ l, FineP p
theorem Part_then {k : Nat} {x : List Int} {i : Int} {Y : Type} {f : Int → Int → Int → Int → Int → Int → Int → Option Y} {Q : Y → Prop} (hx : x.length ≤ 600) (h0 : 0 ≤ i) (hf : ∀ a b c d e g j, FineP ⟨a, b, c, d, e, g⟩ → 0 ≤ j → Ok (f a b c d e g j) Q) :
    Ok (Option.bind (make_Tape_Part k x i) (uc fun a => uc fun b => uc fun c => uc fun d => uc fun e => uc (f a b c d e))) Q := by
  unfold make_Tape_Part
  refine Ok.bind (Q := fun r => FineP ⟨r.1, r.2.1, r.2.2.1, r.2.2.2.1, r.2.2.2.2.1, r.2.2.2.2.2.1⟩ ∧ 0 ≤ r.2.2.2.2.2.2) ?_ fun r hr => ?_
  · refine Range_then hx h0 (by omega) (by omega) (by omega) fun mx j h1 h2 hj => ?_
    refine TNext_then hx hj (by omega) (by omega) fun tp j h3 h4 hj => ?_
    refine TNext_then hx hj (by omega) (by omega) fun ob j h5 h6 hj => ?_
    refine TNext_then hx hj (by omega) (by omega) fun z j h7 h8 hj => ?_
    refine Ok.bind (Q := fun r => 0 ≤ r.1 ∧ FineP ⟨r.2.1, r.2.2.1, tp, ob, r.2.2.2.1, r.2.2.2.2⟩) (ok_bif (fun h => ?_) fun h => Ok.ret ⟨hj, ?_⟩) fun r hr => ?_
    · refine Range_then hx hj (by omega) (by omega) (by omega) fun op j g1 g2 hj => ?_
      refine TNext_then hx hj (by omega) (by omega) fun ky j g3 g4 hj => ?_
      refine Range_then hx hj (by omega) (by omega) (by omega) fun m2 j g5 g6 hj => Ok.ret ⟨hj, ?_⟩
      unfold FineP; dsimp only; omega
    · unfold FineP; dsimp only; omega
    · obtain ⟨j, a, b, c, d⟩ := r
      exact Ok.ret ⟨hr.2, hr.1⟩
  · obtain ⟨a, b, c, d, e, g, j⟩ := r
    exact hf a b c d e g j hr.1 hr.2
theorem TPaper_then {k : Nat} {x : List Int} {i : Int} {Y : Type} {f : List SPart → Int → Option Y} {Q : Y → Prop} (hx : x.length ≤ 600) (h0 : 0 ≤ i) (hk : 10 < k) (hf : ∀ l j, FineParts l → 0 ≤ j → Ok (f l j) Q) : Ok (Option.bind (make_Tape_Paper k x i) (uc f)) Q := by
  unfold make_Tape_Paper
  refine Ok.bind (Q := fun r => FineParts r.1 ∧ 0 ≤ r.2) ?_ fun r hr => ?_
  · refine Range_then hx h0 (by omega) (by omega) (by omega) fun n j h1 h2 hj => ?_
    refine Ok.bind (Q := fun r => 0 ≤ r.1 ∧ FineParts r.2) (ok_loop (fun s => 0 ≤ s.1 ∧ s.1 + s.2.2.length = n ∧ 0 ≤ s.2.1 ∧ ∀ p ∈ s.2.2, FineP p) (fun s => s.1.toNat) ⟨by simp only; omega, by simp, hj, by simp⟩ (by simp only; omega) ?_) fun r hr => ?_
    · intro again s hs hag
      obtain ⟨c, j, xs⟩ := s
      obtain ⟨g1, g2, g3, g4⟩ := hs
      simp only at g1 g2 g3 g4
      simp only [make_Tape_Paper_b1, uc_mk]
      refine ok_bif (fun hc => ?_) fun hc => ?_
      · have hc' := of_decide_eq_true hc
        refine Part_then hx g3 fun a b c2 d e g j hP hj => ?_
        refine ok_cap (by simp; omega) ?_
        rw [w64 (x := c - 1) (by omega) (by omega)]
        refine hag _ ⟨by simp only; omega, by simp; omega, hj, fun p hp => ?_⟩ (by simp only; omega)
        simp only [List.mem_append, List.mem_singleton] at hp
        rcases hp with hp | rfl
        · exact g4 p hp
        · exact hP
      · have hc' := of_decide_eq_false hc
        exact Ok.ret ⟨g3, by simp only; omega, by simp only; omega, g4⟩
    · obtain ⟨j, l⟩ := r
      exact Ok.ret ⟨hr.2, hr.1⟩
  · obtain ⟨l, j⟩ := r
    exact hf l j hr.1 hr.2

/-- Each of one list with the one at its place of another. -/
def Each {α β : Type} (R : α → β → Prop) (l : List α) (m : List β) : Prop := m.length = l.length ∧ ∀ (i : Nat) (a : α) (b : β), l[i]? = some a → m[i]? = some b → R a b
theorem Each.nil {α β : Type} {R : α → β → Prop} : Each R [] [] := ⟨rfl, fun i a b h => by simp at h⟩
theorem Each.snoc {α β : Type} {R : α → β → Prop} {l : List α} {m : List β} {a : α} {b : β} (h : Each R l m) (hr : R a b) : Each R (l ++ [a]) (m ++ [b]) := by
  refine ⟨by simp [h.1], fun i x y hx hy => ?_⟩
  rcases Nat.lt_or_ge i l.length with hlt | hge
  · rw [List.getElem?_append_left hlt] at hx
    rw [List.getElem?_append_left (by rw [h.1]; exact hlt)] at hy
    exact h.2 i x y hx hy
  · rw [List.getElem?_append_right hge] at hx
    rw [List.getElem?_append_right (by rw [h.1]; exact hge), h.1] at hy
    have hn : i - l.length = 0 := by have := (List.getElem?_eq_some_iff.1 hx).1; simp at this; omega
    rw [hn] at hx hy
    simp at hx hy
    subst hx hy
    exact hr
theorem Each.get {α β : Type} {R : α → β → Prop} {l : List α} {m : List β} (h : Each R l m) {i : Nat} (hi : i < l.length) (hm : i < m.length) : R l[i] m[i] := h.2 i _ _ (List.getElem?_eq_getElem hi) (List.getElem?_eq_getElem hm)
theorem Each.set {α β : Type} {R : α → β → Prop} {l : List α} {m : List β} (h : Each R l m) {i : Nat} {b : β} (hr : ∀ a, l[i]? = some a → R a b) : Each R l (m.set i b) := by
  refine ⟨by simp [h.1], fun n x y hx hy => ?_⟩
  by_cases hni : i = n
  · subst hni
    have hlt : i < m.length := by have := (List.getElem?_eq_some_iff.1 hy).1; simpa using this
    rw [List.getElem?_set_self hlt] at hy
    cases hy
    exact hr x hx
  · rw [List.getElem?_set_ne hni] at hy
    exact h.2 n x y hx hy
theorem Each.mono {α β : Type} {R R' : α → β → Prop} {l : List α} {m : List β} (h : Each R l m) (hr : ∀ a b, a ∈ l → b ∈ m → R a b → R' a b) : Each R' l m := ⟨h.1, fun i a b ha hb => hr a b (List.mem_of_getElem? ha) (List.mem_of_getElem? hb) (h.2 i a b ha hb)⟩

/-- A mark of a part. -/
def FineMark (p : SPart) (m : Int) : Prop := -1 ≤ m ∧ m ≤ p.Max ∧ (p.Kind = 2 → m = -1 ∨ m = 0 ∨ m = p.Max)
theorem TMarks_then {k : Nat} {p : List SPart} {x : List Int} {i : Int} {Y : Type} {f : List Int → Int → Option Y} {Q : Y → Prop} (hx : x.length ≤ 600) (h0 : 0 ≤ i) (hk : 10 < k) (hp : FineParts p) (hf : ∀ l j, Each FineMark p l → 0 ≤ j → Ok (f l j) Q) : Ok (Option.bind (make_Tape_Marks k p x i) (uc f)) Q := by
  unfold make_Tape_Marks
  have hpl := hp.2.1
  refine Ok.bind (Q := fun r => Each FineMark p r.1 ∧ 0 ≤ r.2) ?_ fun r hr => ?_
  · refine Ok.bind (Q := fun r => 0 ≤ r.1 ∧ Each FineMark p r.2) (ok_range p (fun s => s.1) (fun pre s => 0 ≤ s.2.1 ∧ Each FineMark pre s.2.2) (by omega) rfl ⟨h0, .nil⟩ (by omega) ?_ ?_) fun r hr => ?_
    · intro again s pre e post hl hi hlt hw hinv hag
      obtain ⟨i, j, xs⟩ := s
      obtain ⟨hj, hE⟩ := hinv
      simp only at hi hlt hw hj hE
      simp only [make_Tape_Marks_b1, uc_mk]
      rw [dec_lt hlt, cond_true, gidx_mid hl hi]
      have hel : e ∈ p := by rw [hl]; simp
      have hpe := hp.2.2 e hel
      unfold FineP at hpe
      have hle : pre.length ≤ 6 := by rw [hl] at hpl; simp at hpl; omega
      rw [show gmax e.Max 0 = e.Max by rw [gmax_def]; omega]
      refine Range_then hx hj (by omega) (by omega) (by omega) fun m j h1 h2 hj => ?_
      refine ok_let (Ok.bind (Q := fun r => FineMark e r) (ok_bif (fun h => ?_) fun h => Ok.ret ?_) fun r hr => ?_)
      · rw [gidx_mid hl hi]
        exact Ok.ret ⟨by omega, by omega, fun _ => by omega⟩
      · refine ⟨h1, h2, fun hk2 => ?_⟩
        simp [hk2] at h; omega
      · refine ok_cap (by simp [hE.1]; omega) ?_
        rw [hw]
        exact hag _ rfl ⟨hj, hE.snoc hr⟩
    · intro again s hi hinv
      obtain ⟨i, j, xs⟩ := s
      simp only at hi
      simp only [make_Tape_Marks_b1, uc_mk]
      rw [dec_nlt (by omega), cond_false]
      exact Ok.ret hinv
    · obtain ⟨j, l⟩ := r
      exact Ok.ret ⟨hr.2, hr.1⟩
  · obtain ⟨l, j⟩ := r
    exact hf l j hr.1 hr.2
end Go.VM
