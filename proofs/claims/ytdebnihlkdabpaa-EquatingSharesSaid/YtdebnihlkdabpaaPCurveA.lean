/- Broken lines over the rational numbers: plain mathematics. -/
namespace Go.VM
set_option linter.unusedVariables false
set_option linter.unusedSimpArgs false

structure Pt where
  X : Rat
  Y : Rat
def slope (p q : Pt) : Rat := (q.Y - p.Y) / (q.X - p.X)
def line (p q : Pt) (x : Rat) : Rat := p.Y + (x - p.X) * slope p q
theorem slope_mul {p q : Pt} (h : p.X < q.X) : slope p q * (q.X - p.X) = q.Y - p.Y := by
  unfold slope
  exact Rat.div_mul_cancel (by grind)
theorem slope_pos {p q : Pt} (h : p.X < q.X) (h2 : p.Y < q.Y) : 0 < slope p q := by
  have h3 := slope_mul h
  have h4 : 0 < slope p q * (q.X - p.X) := by rw [h3]; grind
  exact (Rat.mul_pos_iff_of_pos_right (by grind)).1 h4
theorem slope_eq {p q : Pt} {s : Rat} (h : p.X < q.X) (e : q.Y = p.Y + (q.X - p.X) * s) : slope p q = s := by
  unfold slope
  have : q.Y - p.Y = s * (q.X - p.X) := by grind
  rw [this]
  exact Rat.mul_div_cancel (by grind)
theorem line_end {p q : Pt} (h : p.X < q.X) : line p q q.X = q.Y := by
  have := slope_mul h
  unfold line
  grind
theorem line_start (p q : Pt) : line p q p.X = p.Y := by unfold line; grind
theorem line_lt {p q : Pt} (hs : 0 < slope p q) {x y : Rat} (h : x < y) : line p q x < line p q y := by
  unfold line
  have := Rat.mul_lt_mul_of_pos_right (show x - p.X < y - p.X by grind) hs
  grind

/-- Points that ascend. -/
def Asc (L : List Pt) : Prop := L.Pairwise fun p q => p.X < q.X ∧ p.Y < q.Y
theorem Asc.tail {p : Pt} {L : List Pt} (h : Asc (p :: L)) : Asc L := (List.pairwise_cons.1 h).2
theorem Asc.head {p q : Pt} {L : List Pt} (h : Asc (p :: q :: L)) : p.X < q.X ∧ p.Y < q.Y := (List.pairwise_cons.1 h).1 q (by simp)
theorem Asc.mem {p q : Pt} {L : List Pt} (h : Asc (p :: L)) (hq : q ∈ L) : p.X < q.X ∧ p.Y < q.Y := (List.pairwise_cons.1 h).1 q hq

/-- The value of a broken line. -/
def evalL : List Pt → Rat → Rat
  | p :: q :: r :: L, x => if q.X < x then evalL (q :: r :: L) x else line p q x
  | p :: q :: [], x => line p q x
  | _, _ => 0
theorem evalL_at : ∀ (L : List Pt), Asc L → 2 ≤ L.length → ∀ p ∈ L, evalL L p.X = p.Y
  | [], _, h, _, _ => by simp at h
  | [_], _, h, _, _ => by simp at h
  | [a, b], hA, _, p, hp => by
    simp only [List.mem_cons, List.not_mem_nil, or_false] at hp
    rcases hp with rfl | rfl
    · exact line_start _ _
    · exact line_end hA.head.1
  | a :: b :: c :: L, hA, _, p, hp => by
    have ih := evalL_at (b :: c :: L) hA.tail (by simp)
    simp only [evalL]
    rw [List.mem_cons] at hp
    rcases hp with rfl | hp
    · rw [if_neg (by have := hA.head.1; grind)]
      exact line_start _ _
    · rw [List.mem_cons] at hp
      rcases hp with rfl | hp
      · rw [if_neg (by grind)]
        exact line_end hA.head.1
      · rw [if_pos (hA.tail.mem hp).1]
        exact ih p (by simp [hp])
theorem evalL_lt : ∀ (L : List Pt), Asc L → 2 ≤ L.length → ∀ {x y : Rat}, x < y → evalL L x < evalL L y
  | [], _, h, _, _, _ => by simp at h
  | [_], _, h, _, _, _ => by simp at h
  | [a, b], hA, _, x, y, hxy => line_lt (slope_pos hA.head.1 hA.head.2) hxy
  | a :: b :: c :: L, hA, _, x, y, hxy => by
    have ih := fun {x y : Rat} => @evalL_lt (b :: c :: L) hA.tail (by simp) x y
    have h0 := evalL_at (b :: c :: L) hA.tail (by simp) b (by simp)
    have hs := slope_pos hA.head.1 hA.head.2
    simp only [evalL]
    by_cases hx : b.X < x
    · rw [if_pos hx, if_pos (by grind)]
      exact ih hxy
    · rw [if_neg hx]
      by_cases hy : b.X < y
      · rw [if_pos hy]
        have h1 := ih hy
        have h2 : line a b x ≤ line a b b.X := by
          by_cases he : x = b.X
          · rw [he]; exact Rat.le_refl
          · exact Rat.le_of_lt (line_lt hs (by grind))
        rw [line_end hA.head.1] at h2
        grind
      · rw [if_neg hy]
        exact line_lt hs hxy
theorem evalL_first {p q r : Pt} {L : List Pt} {x : Rat} (h : ¬ q.X < x) : evalL (p :: q :: r :: L) x = line p q x := by
  simp only [evalL, if_neg h]
/-- The value by the index of the piece. -/
theorem evalL_index : ∀ (L : List Pt) (i : Nat) (x : Rat) (hi : i + 1 < L.length), (∀ (j : Nat) (hj : j + 1 < L.length), j < i → L[j + 1].X < x) → (i + 2 < L.length → ¬ L[i + 1].X < x) → evalL L x = line L[i] L[i + 1] x
  | [], _, _, h, _, _ => by simp at h
  | [_], _, _, h, _, _ => by simp at h
  | [a, b], i, x, hi, _, _ => by
    have : i = 0 := by simp at hi; omega
    subst this
    rfl
  | a :: b :: c :: L, 0, x, hi, h1, h2 => by
    simp only [evalL]
    have h2' : ¬ b.X < x := h2 (by simp)
    rw [if_neg h2']
    rfl
  | a :: b :: c :: L, i + 1, x, hi, h1, h2 => by
    simp only [evalL]
    have h1' : b.X < x := h1 0 (by simp) (by omega)
    rw [if_pos h1']
    have := evalL_index (b :: c :: L) i x (by simpa using hi) (fun j hj hji => h1 (j + 1) (by simpa using hj) (by omega)) (fun h => h2 (by simpa using h))
    rw [this]
    rfl

/-! ### the normal form -/
/-- The points at which the slope, which is s before, changes. -/
def bendsL : Rat → List Pt → List Pt
  | s, p :: q :: L => if slope p q = s then bendsL s (q :: L) else p :: bendsL (slope p q) (q :: L)
  | _, _ => []
theorem bendsL_sub : ∀ (s : Rat) (L : List Pt), (bendsL s L).Sublist L
  | _, [] => by simp [bendsL]
  | _, [_] => by simp [bendsL]
  | s, p :: q :: L => by
    simp only [bendsL]
    split
    · exact (bendsL_sub s (q :: L)).cons p
    · exact (bendsL_sub _ (q :: L)).cons_cons p
/-- Before the first bend the value is that of the first line. -/
theorem evalL_before : ∀ (p q : Pt) (L : List Pt) (x : Rat), Asc (p :: q :: L) → (∀ b ∈ bendsL (slope p q) (q :: L), x ≤ b.X) → evalL (p :: q :: L) x = line p q x
  | p, q, [], x, _, _ => rfl
  | p, q, r :: L, x, hA, hb => by
    simp only [evalL]
    by_cases hx : q.X < x
    · rw [if_pos hx]
      by_cases hs : slope q r = slope p q
      · have e : bendsL (slope p q) (q :: r :: L) = bendsL (slope q r) (r :: L) := by simp only [bendsL]; rw [if_pos hs, hs]
        rw [e] at hb
        rw [evalL_before q r L x hA.tail hb]
        unfold line
        have := slope_mul hA.head.1
        rw [hs]
        grind
      · exfalso
        have := hb q (by simp only [bendsL]; rw [if_neg hs]; simp)
        grind
    · rw [if_neg hx]
/-- What the slopes of a list are. -/
def Slopes (P : Rat → Prop) : List Pt → Prop
  | p :: q :: L => P (slope p q) ∧ Slopes P (q :: L)
  | _ => True
/-- A list with the same first line, the same bends and an end on the same last line is the same broken line, in its own bends. -/
theorem reform {P : Rat → Prop} : ∀ (p q : Pt) (L : List Pt) (p' e : Pt), Asc (p :: q :: L) → p'.Y = p.Y + (p'.X - p.X) * slope p q → p'.X < e.X → (∀ b ∈ bendsL (slope p q) (q :: L), p'.X < b.X ∧ b.X < e.X) → e.Y = evalL (p :: q :: L) e.X →
    ∃ h t, bendsL (slope p q) (q :: L) ++ [e] = h :: t ∧ slope p' h = slope p q ∧ p'.X < h.X ∧ bendsL (slope p q) (h :: t) = bendsL (slope p q) (q :: L) ∧ (∀ x, evalL (p' :: h :: t) x = evalL (p :: q :: L) x) ∧ (Slopes P (p :: q :: L) → Slopes P (p' :: h :: t))
  | p, q, [], p', e, hA, hp, hpe, hb, he => by
    have hs : slope p' e = slope p q := slope_eq hpe (by simp only [evalL, line] at he; grind)
    refine ⟨e, [], rfl, hs, hpe, rfl, fun x => ?_, fun h => ⟨by rw [hs]; exact h.1, trivial⟩⟩
    simp only [evalL, line, hs]
    grind
  | p, q, r :: L, p', e, hA, hp, hpe, hb, he => by
    by_cases hs : slope q r = slope p q
    · have eb : bendsL (slope p q) (q :: r :: L) = bendsL (slope q r) (r :: L) := by simp only [bendsL]; rw [if_pos hs, hs]
      have hsame : ∀ x, evalL (p :: q :: r :: L) x = evalL (q :: r :: L) x := fun x => by
        have hq := slope_mul hA.head.1
        have hr := hA.tail.head.1
        simp only [evalL]
        by_cases hx : q.X < x
        · rw [if_pos hx]
        · rw [if_neg hx]
          have : evalL (q :: r :: L) x = line q r x := by
            cases L with
            | nil => rfl
            | cons c L => exact evalL_first (by grind)
          rw [this]
          unfold line
          rw [hs]
          grind
      rw [eb] at hb ⊢
      rw [hsame] at he
      have hq := slope_mul hA.head.1
      obtain ⟨h, t, e1, e2, e3, e4, e5, e6⟩ := @reform P q r L p' e hA.tail (by rw [hs]; grind) hpe hb he
      exact ⟨h, t, e1, by rw [e2, hs], e3, by rw [← hs]; exact e4, fun x => by rw [e5, hsame], fun hS => e6 hS.2⟩
    · have eb : bendsL (slope p q) (q :: r :: L) = q :: bendsL (slope q r) (r :: L) := by simp only [bendsL]; rw [if_neg hs]
      rw [eb] at hb ⊢
      have hq := hb q (by simp)
      have hq2 := slope_mul hA.head.1
      have he2 : e.Y = evalL (q :: r :: L) e.X := by rw [he]; simp only [evalL]; rw [if_pos hq.2]
      have hAb : ∀ b ∈ bendsL (slope q r) (r :: L), q.X < b.X := fun b hb' => (hA.tail.mem ((bendsL_sub _ _).subset hb')).1
      obtain ⟨h, t, e1, e2, e3, e4, e5, e6⟩ := @reform P q r L q e hA.tail (by grind) hq.2 (fun b hb' => ⟨hAb b hb', (hb b (by simp [hb'])).2⟩) he2
      have hpq : slope p' q = slope p q := slope_eq hq.1 (by grind)
      refine ⟨q, bendsL (slope q r) (r :: L) ++ [e], rfl, hpq, hq.1, ?_, fun x => ?_, fun hS => ?_⟩
      · rw [e1]
        simp only [bendsL]
        rw [e2, if_neg hs, e4]
      · rw [e1]
        simp only [evalL]
        rw [e5]
        by_cases hx : q.X < x
        · rw [if_pos hx, if_pos hx]
        · rw [if_neg hx, if_neg hx]
          unfold line
          rw [hpq]
          grind
      · rw [e1]
        exact ⟨by rw [hpq]; exact hS.1, e6 hS.2⟩
def fromX (B : List Pt) : Rat := match B with
  | [] => 0
  | b :: _ => b.X - 1
def toX (B : List Pt) : Rat := match B.getLast? with
  | none => 1
  | some b => b.X + 1
/-- The normal form. -/
def normalL : List Pt → List Pt
  | p :: q :: L => ⟨fromX (bendsL (slope p q) (q :: L)), evalL (p :: q :: L) (fromX (bendsL (slope p q) (q :: L)))⟩ :: (bendsL (slope p q) (q :: L) ++ [⟨toX (bendsL (slope p q) (q :: L)), evalL (p :: q :: L) (toX (bendsL (slope p q) (q :: L)))⟩])
  | _ => []
theorem ends {B : List Pt} (hB : Asc B) : fromX B < toX B ∧ ∀ b ∈ B, fromX B < b.X ∧ b.X < toX B := by
  cases B with
  | nil => exact ⟨by simp only [fromX, toX]; decide, by simp⟩
  | cons a B =>
    have hlo : ∀ b ∈ a :: B, a.X ≤ b.X := fun b hb => by
      rw [List.mem_cons] at hb
      rcases hb with rfl | hb
      · exact Rat.le_refl
      · exact Rat.le_of_lt (hB.mem hb).1
    have hhi : ∀ b ∈ a :: B, b.X ≤ ((a :: B).getLast (by simp)).X := fun b hb => by
      rw [← List.dropLast_concat_getLast (l := a :: B) (by simp)] at hb hB
      rw [List.mem_append, List.mem_singleton] at hb
      rcases hb with hb | hb
      · have := (List.pairwise_append.1 hB).2.2 b hb _ (List.mem_singleton.2 rfl)
        exact Rat.le_of_lt this.1
      · rw [hb]; exact Rat.le_refl
    have e1 : fromX (a :: B) = a.X - 1 := rfl
    have e2 : toX (a :: B) = ((a :: B).getLast (by simp)).X + 1 := by
      unfold toX
      rw [List.getLast?_eq_some_getLast (by simp)]
    rw [e1, e2]
    have h1 := hlo ((a :: B).getLast (by simp)) (List.getLast_mem _)
    exact ⟨by grind, fun b hb => by have := hlo b hb; have := hhi b hb; exact ⟨by grind, by grind⟩⟩
theorem normalL_spec {P : Rat → Prop} {L : List Pt} (hA : Asc L) (h2 : 2 ≤ L.length) : Asc (normalL L) ∧ 2 ≤ (normalL L).length ∧ (∀ x, evalL (normalL L) x = evalL L x) ∧ normalL (normalL L) = normalL L ∧ (Slopes P L → Slopes P (normalL L)) := by
  match L, h2 with
  | p :: q :: L, _ =>
    have hsub := bendsL_sub (slope p q) (q :: L)
    have hB : Asc (bendsL (slope p q) (q :: L)) := List.Pairwise.sublist hsub hA.tail
    obtain ⟨hft, hb⟩ := ends hB
    have hf := evalL_before p q L (fromX (bendsL (slope p q) (q :: L))) hA fun b h => Rat.le_of_lt (hb b h).1
    obtain ⟨h, t, e1, e2, e3, e4, e5, e6⟩ := @reform P p q L ⟨fromX (bendsL (slope p q) (q :: L)), evalL (p :: q :: L) (fromX (bendsL (slope p q) (q :: L)))⟩ ⟨toX (bendsL (slope p q) (q :: L)), evalL (p :: q :: L) (toX (bendsL (slope p q) (q :: L)))⟩ hA (by rw [hf]; rfl) hft hb rfl
    have eN : normalL (p :: q :: L) = ⟨fromX (bendsL (slope p q) (q :: L)), evalL (p :: q :: L) (fromX (bendsL (slope p q) (q :: L)))⟩ :: h :: t := by
      simp only [normalL]; rw [e1]
    have hval : ∀ b ∈ bendsL (slope p q) (q :: L), evalL (p :: q :: L) b.X = b.Y := fun b hb' => evalL_at _ hA (by simp) b (List.mem_cons_of_mem _ (hsub.subset hb'))
    refine ⟨?_, by rw [eN]; simp, fun x => by rw [eN]; exact e5 x, ?_, fun hS => by rw [eN]; exact e6 hS⟩
    · simp only [normalL]
      have hlt := fun {x y : Rat} => @evalL_lt (p :: q :: L) hA (by simp) x y
      refine List.pairwise_cons.2 ⟨fun c hc => ?_, List.pairwise_append.2 ⟨hB, by simp, fun b hb' c hc => ?_⟩⟩
      · rw [List.mem_append, List.mem_singleton] at hc
        rcases hc with hc | rfl
        · exact ⟨(hb c hc).1, by rw [← hval c hc]; exact hlt (hb c hc).1⟩
        · exact ⟨hft, hlt hft⟩
      · rw [List.mem_singleton] at hc
        subst hc
        exact ⟨(hb b hb').2, by rw [← hval b hb']; exact hlt (hb b hb').2⟩
    · rw [eN]
      simp only [normalL]
      rw [e2, e4, e5, e5, e1]
end Go.VM
