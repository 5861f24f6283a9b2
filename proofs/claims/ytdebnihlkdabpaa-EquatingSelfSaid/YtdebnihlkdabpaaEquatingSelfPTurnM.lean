/- Broken lines turned: X and Y exchanged. Plain mathematics. -/
import Derived.Test.YtdebnihlkdabpaaEquatingSelfEngTM
import Derived.Test.YtdebnihlkdabpaaEquatingSelfSePCurveGM
set_option linter.unusedVariables false
set_option linter.unusedSimpArgs false
namespace Go.VM

def turn (p : Pt) : Pt := ⟨p.Y, p.X⟩
theorem turn_turn (p : Pt) : turn (turn p) = p := rfl
theorem turns_turns (L : List Pt) : (L.map turn).map turn = L := by
  rw [List.map_map]
  have : turn ∘ turn = id := by funext p; rfl
  rw [this, List.map_id]
theorem Asc.turn {L : List Pt} (h : Asc L) : Asc (L.map turn) := by
  unfold Asc
  rw [List.pairwise_map]
  exact List.Pairwise.imp (fun h => ⟨h.2, h.1⟩) h
theorem slope_turn {p q : Pt} (h1 : p.X < q.X) (h2 : p.Y < q.Y) : slope (turn p) (turn q) = (slope p q)⁻¹ := by
  have hs := slope_mul h1
  have hp := slope_pos h1 h2
  refine slope_eq (show (turn p).X < (turn q).X from h2) ?_
  show q.X = p.X + (q.Y - p.Y) * (slope p q)⁻¹
  rw [← hs]
  have : slope p q * (slope p q)⁻¹ = 1 := Rat.mul_inv_cancel _ (by grind)
  generalize slope p q = s at *
  generalize s⁻¹ = r at *
  grind
theorem inv_inj {a b : Rat} (ha : a ≠ 0) (hb : b ≠ 0) : a⁻¹ = b⁻¹ ↔ a = b := by
  constructor
  · intro h
    have h1 := Rat.mul_inv_cancel a ha
    have h2 := Rat.mul_inv_cancel b hb
    rw [h] at h1
    generalize b⁻¹ = r at *
    have : (a - b) * r = 0 := by grind
    rcases Rat.mul_eq_zero.1 this with h3 | h3
    · grind
    · subst h3; rw [Rat.mul_zero] at h2; exact absurd h2 (by decide)
  · rintro rfl; rfl
theorem bends_turn : ∀ (s : Rat) (L : List Pt), s ≠ 0 → Asc L → bendsL s⁻¹ (L.map turn) = (bendsL s L).map turn
  | _, [], _, _ => rfl
  | _, [_], _, _ => rfl
  | s, p :: q :: L, hs, hA => by
    have h := hA.head
    have hp := slope_pos h.1 h.2
    have ht := slope_turn h.1 h.2
    simp only [List.map_cons, bendsL]
    rw [ht]
    have hn : slope p q ≠ 0 := by grind
    by_cases he : slope p q = s
    · rw [if_pos he, if_pos (by rw [he])]
      exact bends_turn s (q :: L) hs hA.tail
    · rw [if_neg he, if_neg (fun h => he ((inv_inj hn hs).1 h))]
      have := bends_turn (slope p q) (q :: L) hn hA.tail
      simp only [List.map_cons] at this ⊢
      rw [this]
/-- Turned, a broken line is the inverse function. -/
theorem line_turn {p q : Pt} (h1 : p.X < q.X) (h2 : p.Y < q.Y) (x : Rat) : line (turn p) (turn q) (line p q x) = x := by
  have hp := slope_pos h1 h2
  have ht := slope_turn h1 h2
  unfold line
  rw [ht]
  have : slope p q * (slope p q)⁻¹ = 1 := Rat.mul_inv_cancel _ (by grind)
  show p.X + (p.Y + (x - p.X) * slope p q - p.Y) * (slope p q)⁻¹ = x
  generalize slope p q = s at *
  generalize s⁻¹ = r at *
  grind
theorem evalL_turn : ∀ (L : List Pt) (x : Rat), Asc L → 2 ≤ L.length → evalL (L.map turn) (evalL L x) = x
  | [], _, _, h => by simp at h
  | [_], _, _, h => by simp at h
  | [p, q], x, hA, _ => line_turn hA.head.1 hA.head.2 x
  | p :: q :: r :: L, x, hA, _ => by
    have ih := evalL_turn (q :: r :: L) x hA.tail (by simp)
    have hat := evalL_at (q :: r :: L) hA.tail (by simp) q (by simp)
    simp only [List.map_cons, evalL] at ih ⊢
    by_cases hx : q.X < x
    · rw [if_pos hx]
      have h1 := evalL_lt (q :: r :: L) hA.tail (by simp) hx
      rw [hat] at h1
      rw [if_pos (show (turn q).X < evalL (q :: r :: L) x from h1)]
      exact ih
    · rw [if_neg hx]
      have hs := slope_pos hA.head.1 hA.head.2
      have hle : ¬ (turn q).X < line p q x := by
        show ¬ q.Y < line p q x
        have he := line_end hA.head.1
        by_cases hq : x = q.X
        · rw [hq, he]; grind
        · have := line_lt hs (show x < q.X by grind)
          rw [he] at this
          grind
      rw [if_neg hle]
      exact line_turn hA.head.1 hA.head.2 x
theorem evalL_turn' (L : List Pt) (x : Rat) (hA : Asc L) (h2 : 2 ≤ L.length) : evalL L (evalL (L.map turn) x) = x := by
  have := evalL_turn (L.map turn) x hA.turn (by simpa using h2)
  rw [turns_turns] at this
  exact this
theorem evalL_inj {L : List Pt} (hA : Asc L) (h2 : 2 ≤ L.length) {x y : Rat} (h : evalL L x = evalL L y) : x = y := by
  have h1 := evalL_turn L x hA h2
  rw [h, evalL_turn L y hA h2] at h1
  exact h1.symm
/-- Lines with the same bends, the same first slope and the same values have one normal form. -/
def bendsOf : List Pt → List Pt
  | p :: q :: L => bendsL (slope p q) (q :: L)
  | _ => []
theorem normalL_def {L : List Pt} (h : 2 ≤ L.length) : normalL L = ⟨fromX (bendsOf L), evalL L (fromX (bendsOf L))⟩ :: (bendsOf L ++ [⟨toX (bendsOf L), evalL L (toX (bendsOf L))⟩]) := by
  match L, h with
  | p :: q :: L, _ => rfl
theorem normalL_same {L M : List Pt} (h : 2 ≤ L.length) (h' : 2 ≤ M.length) (hb : bendsOf L = bendsOf M) (he : ∀ x, evalL L x = evalL M x) : normalL L = normalL M := by
  rw [normalL_def h, normalL_def h', hb, he, he]
theorem bendsOf_turn {L : List Pt} (hA : Asc L) : bendsOf (L.map turn) = (bendsOf L).map turn := by
  match L, hA with
  | [], _ => rfl
  | [_], _ => rfl
  | p :: q :: L, hA =>
    have h := hA.head
    have hp := slope_pos h.1 h.2
    have := bends_turn (slope p q) (q :: L) (by grind) hA.tail
    simp only [List.map_cons, bendsOf] at this ⊢
    rw [slope_turn h.1 h.2]
    exact this
theorem bendsOf_normal {L : List Pt} (hA : Asc L) (h2 : 2 ≤ L.length) : bendsOf (normalL L) = bendsOf L := by
  match L, h2 with
  | p :: q :: L, _ =>
    have hsub := bendsL_sub (slope p q) (q :: L)
    have hB : Asc (bendsL (slope p q) (q :: L)) := List.Pairwise.sublist hsub hA.tail
    obtain ⟨hft, hb⟩ := ends hB
    have hf := evalL_before p q L (fromX (bendsL (slope p q) (q :: L))) hA fun b h => Rat.le_of_lt (hb b h).1
    obtain ⟨h, t, e1, e2, e3, e4, e5, e6⟩ := @reform (fun _ => True) p q L ⟨fromX (bendsL (slope p q) (q :: L)), evalL (p :: q :: L) (fromX (bendsL (slope p q) (q :: L)))⟩ ⟨toX (bendsL (slope p q) (q :: L)), evalL (p :: q :: L) (toX (bendsL (slope p q) (q :: L)))⟩ hA (by rw [hf]; rfl) hft hb rfl
    have eN : normalL (p :: q :: L) = ⟨fromX (bendsL (slope p q) (q :: L)), evalL (p :: q :: L) (fromX (bendsL (slope p q) (q :: L)))⟩ :: h :: t := by
      simp only [normalL]; rw [e1]
    rw [eN]
    simp only [bendsOf]
    rw [e2]
    exact e4
theorem normalL_turn {L : List Pt} (hA : Asc L) (h2 : 2 ≤ L.length) : normalL ((normalL L).map turn) = normalL (L.map turn) := by
  obtain ⟨n1, n2, n3, n4, n5⟩ := normalL_spec (P := fun _ => True) hA h2
  refine normalL_same (by simpa using n2) (by simpa using h2) ?_ fun y => ?_
  · rw [bendsOf_turn n1, bendsOf_turn hA, bendsOf_normal hA h2]
  · refine evalL_inj n1 n2 ?_
    rw [evalL_turn' _ y n1 n2, n3, evalL_turn' L y hA h2]
theorem Slopes.turn {P : Rat → Prop} : ∀ {L : List Pt}, Asc L → Slopes (fun s => P s⁻¹) L → Slopes P (L.map turn)
  | [], _, _ => trivial
  | [_], _, _ => trivial
  | p :: q :: L, hA, h => ⟨by rw [slope_turn hA.head.1 hA.head.2]; exact h.1, Slopes.turn (L := q :: L) hA.tail h.2⟩
end Go.VM
namespace Go.VM

theorem turned_ok (L : List Pt) (hl : L.length ≤ 1000) : conversion_turned fuel (L.map enc) = some ((L.map turn).map enc) := by
  apply Ok.eq
  unfold conversion_turned
  refine Ok.bind (Q := fun r => r = (L.map turn).map enc) (ok_range L (fun s => s.1) (fun pre s => s.2 = (pre.map turn).map enc) (by omega) rfl rfl (by unfold fuel; omega) ?_ ?_) fun r hr => Ok.ret hr
  · intro again s pre e post hl' hi hlt hw hinv hag
    obtain ⟨i, xs⟩ := s
    simp only at hi hlt hw hinv
    subst hinv
    simp only [conversion_turned_b1, uc_mk, List.length_map]
    rw [dec_lt hlt, cond_true, gidx_mid (l := L.map enc) (pre := pre.map enc) (e := enc e) (post := post.map enc) (by rw [hl']; simp) (by simpa using hi), hw]
    have hpl : pre.length < 1000 := by have := congrArg List.length hl'; simp at this; omega
    refine ok_cap (by simp; omega) (hag _ rfl ?_)
    simp [enc, turn]
  · intro again s hi hinv
    obtain ⟨i, xs⟩ := s
    simp only at hi hinv
    simp only [conversion_turned_b1, uc_mk, List.length_map]
    rw [dec_nlt (by omega), cond_false]
    exact Ok.ret hinv
/-- What composing looks at. -/
def spots (A B : List Pt) : List Rat := A.map (·.X) ++ B.map fun p => evalL (A.map turn) p.X
theorem Compose_ok {A B N : List Pt} (hA : Asc A) (hFA : Fine A) (h2A : 2 ≤ A.length) (hB : Asc B) (hFB : Fine B) (h2B : 2 ≤ B.length) (hl : A.length + B.length ≤ 400) (hFT : Fine (A.map turn)) (hback : ∀ p ∈ B, FineAt (A.map turn) p.X)
    (hS : ∀ u ∈ spots A B, Sm u ∧ FineAt A u ∧ FineAt B (evalL A u))
    (hform : ∀ S : List Rat, S.Pairwise (· < ·) → (∀ x, x ∈ S ↔ x ∈ spots A B) → conversion_formed fuel ((S.map fun u => (⟨u, evalL B (evalL A u)⟩ : Pt)).map enc) = some (N.map enc, 0)) :
    conversion_Compose fuel (A.map enc) (B.map enc) = some (N.map enc, 0) := by
  have e3 : gloop (conversion_Compose_b3 fuel (A.map enc)) fuel (0, ([] : List SRatio)) = some ((A.map (·.X)).map encR) := by
    refine eq_of_ok (ok_range A (fun s => s.1) (fun pre s => s.2 = (pre.map (·.X)).map encR) (by omega) rfl rfl (by unfold fuel; omega) ?_ ?_)
    · intro again s pre e post hl' hi hlt hw hinv hag
      obtain ⟨i, xs⟩ := s
      simp only at hi hlt hw hinv
      have hpl : pre.length ≤ 400 := by have := congrArg List.length hl'; simp at this; omega
      simp only [conversion_Compose_b3, uc_mk, List.length_map]
      rw [dec_lt hlt, cond_true, gidx_mid (l := A.map enc) (pre := pre.map enc) (post := post.map enc) (e := enc e) (by rw [hl']; simp) (by simpa using hi)]
      refine ok_cap (by rw [hinv]; simp; omega) ?_
      rw [hw]
      exact hag _ rfl (by dsimp only; rw [hinv]; simp [enc, encR])
    · intro again s hi hinv
      obtain ⟨i, xs⟩ := s
      simp only at hi hinv
      simp only [conversion_Compose_b3, uc_mk, List.length_map]
      rw [dec_nlt (by omega), cond_false]
      exact Ok.ret hinv
  have e2 : gloop (conversion_Compose_b2 fuel (B.map enc) ((A.map turn).map enc)) fuel (0, 0, (A.map (·.X)).map encR) = some (0, (spots A B).map encR) := by
    refine eq_of_ok (ok_range B (fun s => s.1) (fun pre s => s.2.1 = 0 ∧ s.2.2 = (A.map (·.X) ++ pre.map fun p => evalL (A.map turn) p.X).map encR) (by omega) rfl ⟨rfl, by simp⟩ (by unfold fuel; omega) ?_ ?_)
    · intro again s pre e post hl' hi hlt hw hinv hag
      obtain ⟨i, z, xs⟩ := s
      obtain ⟨h1, h2⟩ := hinv
      simp only at hi hlt hw h1 h2
      subst h1
      have hpl : pre.length ≤ 400 := by have := congrArg List.length hl'; simp at this; omega
      have heB : e ∈ B := by rw [hl']; simp
      simp only [conversion_Compose_b2, uc_mk, List.length_map]
      rw [dec_lt hlt, cond_true, gidx_mid (l := B.map enc) (pre := pre.map enc) (post := post.map enc) (e := enc e) (by rw [hl']; simp) (by simpa using hi)]
      have hev : conversion_calc_eval fuel ((A.map turn).map enc) (enc e).X_Num (enc e).X_Den 0 = some ((evalL (A.map turn) e.X).num, ((evalL (A.map turn) e.X).den : Int), 0) := eval_ok hA.turn hFT (by simpa using h2A) (by simp; omega) (hback e heB)
      rw [hev]
      simp only [Option.bind_some, uc_mk]
      refine ok_cap (by rw [h2]; simp; omega) ?_
      rw [hw]
      exact hag _ rfl ⟨rfl, by dsimp only; rw [h2]; simp [encR]⟩
    · intro again s hi hinv
      obtain ⟨i, z, xs⟩ := s
      obtain ⟨h1, h2⟩ := hinv
      simp only at hi h1 h2
      simp only [conversion_Compose_b2, uc_mk, List.length_map]
      rw [dec_nlt (by omega), cond_false]
      refine Ok.ret ?_
      rw [h1, h2]; rfl
  have hspl : (spots A B).length ≤ 400 := by unfold spots; simp; omega
  obtain ⟨s1, f1, s, rfl, s2, s3⟩ := sort_ok (l := spots A B) (fun x hx => (hS x hx).1) (by omega)
  have hsl := s3.length_eq
  obtain ⟨⟨c1, c2⟩, f2, S, c3, c4, c5⟩ := compact_ok s2 (by omega)
  simp only at c3
  subst c3
  have hSm : ∀ x, x ∈ S ↔ x ∈ spots A B := fun x => (c5 x).trans s3.mem_iff
  have hSl : S.length ≤ 1000 := by
    have : S.Nodup := c4.imp fun h => by intro e; subst e; exact Rat.lt_irrefl h
    have := this.length_le_of_subset (l₂ := spots A B) fun x hx => (hSm x).1 hx
    omega
  have e1 : gloop (conversion_Compose_b1 fuel (A.map enc) (B.map enc) (S.map encR)) fuel (0, 0, ([] : List SPoint)) = some (Sum.inl ((S.map fun u => (⟨u, evalL B (evalL A u)⟩ : Pt)).map enc)) := by
    refine eq_of_ok (ok_range S (fun s => s.1) (fun pre s => s.2.1 = 0 ∧ s.2.2 = (pre.map fun u => (⟨u, evalL B (evalL A u)⟩ : Pt)).map enc) (by omega) rfl ⟨rfl, rfl⟩ (by unfold fuel; omega) ?_ ?_)
    · intro again s pre e post hl' hi hlt hw hinv hag
      obtain ⟨i, z, xs⟩ := s
      obtain ⟨h1, h2⟩ := hinv
      simp only at hi hlt hw h1 h2
      subst h1
      have hpl : pre.length ≤ 1000 := by have := congrArg List.length hl'; simp at this; omega
      obtain ⟨_, q2, q3⟩ := hS e ((hSm e).1 (by rw [hl']; simp))
      simp only [conversion_Compose_b1, uc_mk, List.length_map]
      rw [dec_lt hlt, cond_true, gidx_mid (l := S.map encR) (pre := pre.map encR) (post := post.map encR) (e := encR e) (by rw [hl']; simp) (by simpa using hi)]
      have ev1 : conversion_calc_eval fuel (A.map enc) (encR e).Num (encR e).Den 0 = some ((evalL A e).num, ((evalL A e).den : Int), 0) := eval_ok hA hFA h2A (by omega) q2
      have ev2 : conversion_calc_eval fuel (B.map enc) (evalL A e).num ((evalL A e).den : Int) 0 = some ((evalL B (evalL A e)).num, ((evalL B (evalL A e)).den : Int), 0) := eval_ok hB hFB h2B (by omega) q3
      rw [ev1]
      simp only [Option.bind_some, uc_mk, beq_self_eq_true, cond_true]
      rw [ev2]
      simp only [Option.bind_some, uc_mk, bne_self_eq_false, cond_false]
      refine ok_cap (by rw [h2]; simp; omega) ?_
      rw [hw]
      exact hag _ rfl ⟨rfl, by dsimp only; rw [h2]; simp [enc, encR]⟩
    · intro again s hi hinv
      obtain ⟨i, z, xs⟩ := s
      obtain ⟨h1, h2⟩ := hinv
      simp only at hi h1 h2
      simp only [conversion_Compose_b1, uc_mk, List.length_map]
      rw [dec_nlt (by omega), cond_false]
      refine Ok.ret ?_
      rw [h2]
  unfold conversion_Compose
  rw [CValid_ok hA hFA.1 h2A (by omega), CValid_ok hB hFB.1 h2B (by omega)]
  simp only [Option.bind_some, Bool.not_true, cond_false]
  rw [turned_ok A (by omega), e3]
  simp only [Option.bind_some]
  rw [e2]
  simp only [Option.bind_some, uc_mk, bne_self_eq_false, cond_false]
  rw [f1, Option.bind_some, glen_some (by simp [hsl]), f2]
  simp only [Option.bind_some, uc_mk]
  rw [e1]
  simp only [Option.bind_some, Sum.elim_inl]
  rw [hform S c4 hSm]
  rfl
end Go.VM
namespace Go.VM

theorem OnGrid.up {D E B C F : Nat} {L : List Pt} (h : OnGrid D E B C F L) (k : Nat) : OnGrid (D * k) E (B * k) (C * k) F L :=
  ⟨h.asc, h.two, fun p hp => (h.xs p hp).up k, fun p hp => by have := (h.ys p hp).up k; rwa [Nat.mul_right_comm] at this, h.ss⟩
theorem OnGrid.wide {D E B C F B' C' : Nat} {L : List Pt} (h : OnGrid D E B C F L) (hB : B ≤ B') (hC : C ≤ C') : OnGrid D E B' C' F L :=
  ⟨h.asc, h.two, fun p hp => (h.xs p hp).le hB, fun p hp => (h.ys p hp).le hC, h.ss⟩
def diagL (S : List Rat) : List Pt := S.map fun u => ⟨u, u⟩
theorem diag_slope {a b : Rat} (h : a < b) : slope ⟨a, a⟩ ⟨b, b⟩ = 1 := slope_eq (p := ⟨a, a⟩) (q := ⟨b, b⟩) h (by dsimp only; grind)
theorem diag_asc {S : List Rat} (h : S.Pairwise (· < ·)) : Asc (diagL S) := by
  unfold Asc diagL
  rw [List.pairwise_map]
  exact h.imp fun h => ⟨h, h⟩
theorem diag_bends : ∀ {S : List Rat}, S.Pairwise (· < ·) → bendsL 1 (diagL S) = []
  | [], _ => rfl
  | [_], _ => rfl
  | a :: b :: S, h => by
    have h1 := (List.pairwise_cons.1 h).1 b (by simp)
    have h2 := diag_bends (S := b :: S) (List.pairwise_cons.1 h).2
    simp only [diagL, List.map_cons, bendsL] at h2 ⊢
    rw [diag_slope h1, if_pos rfl]
    exact h2
theorem diag_slopes : ∀ {S : List Rat}, S.Pairwise (· < ·) → Slopes (Grid 1 1) (diagL S)
  | [], _ => trivial
  | [_], _ => trivial
  | a :: b :: S, h => by
    have h1 := (List.pairwise_cons.1 h).1 b (by simp)
    have h2 := diag_slopes (S := b :: S) (List.pairwise_cons.1 h).2
    refine ⟨?_, h2⟩
    rw [diag_slope h1]
    exact ⟨1, by rw [Rat.one_mul]; rfl, by decide⟩
theorem diag_eval {S : List Rat} (h : S.Pairwise (· < ·)) (h2 : 2 ≤ S.length) (x : Rat) : evalL (diagL S) x = x := by
  obtain ⟨i, hi, e⟩ := evalL_piece (diagL S) x (by simpa [diagL] using h2)
  rw [e]
  have hi' : i + 1 < S.length := by simpa [diagL] using hi
  have hlt := List.pairwise_iff_getElem.1 h i (i + 1) (by omega) hi' (by omega)
  simp only [diagL, List.getElem_map]
  unfold line
  rw [diag_slope hlt]
  dsimp only
  grind
def idL : List Pt := [⟨0, 0⟩, ⟨1, 1⟩]
theorem diag_normal {S : List Rat} (h : S.Pairwise (· < ·)) (h2 : 2 ≤ S.length) : normalL (diagL S) = idL := by
  have hb : bendsOf (diagL S) = [] := by
    match S, h, h2 with
    | a :: b :: S, h, _ =>
      have h1 := (List.pairwise_cons.1 h).1 b (by simp)
      have h3 := diag_bends (S := b :: S) (List.pairwise_cons.1 h).2
      simp only [diagL, List.map_cons, bendsOf]
      rw [diag_slope h1]
      exact h3
  rw [normalL_def (by simpa [diagL] using h2), hb, diag_eval h h2, diag_eval h h2]
  rfl
theorem diag_grid {D B : Nat} {S : List Rat} (h : S.Pairwise (· < ·)) (h2 : 2 ≤ S.length) (hB : ∀ u ∈ S, Grid D B u) : OnGrid D 1 B B 1 (diagL S) := by
  refine ⟨diag_asc h, by simpa [diagL] using h2, fun p hp => ?_, fun p hp => ?_, diag_slopes h⟩
  · simp only [diagL, List.mem_map] at hp
    obtain ⟨u, hu, rfl⟩ := hp
    exact hB u hu
  · simp only [diagL, List.mem_map] at hp
    obtain ⟨u, hu, rfl⟩ := hp
    rw [Nat.mul_one]
    exact hB u hu
theorem two_of {S : List Rat} {a b : Rat} (ha : a ∈ S) (hb : b ∈ S) (hab : a < b) : 2 ≤ S.length := by
  match S, ha, hb with
  | [x], ha, hb =>
    rw [List.mem_singleton] at ha hb
    subst ha hb
    exact absurd hab Rat.lt_irrefl
  | x :: y :: S, _, _ => simp
theorem spots_two {A B : List Pt} (hA : Asc A) (h2 : 2 ≤ A.length) {S : List Rat} (hm : ∀ x, x ∈ S ↔ x ∈ spots A B) : 2 ≤ S.length := by
  match A, h2, hA, hm with
  | p :: q :: R, _, hA, hm => exact two_of ((hm p.X).2 (by simp [spots])) ((hm q.X).2 (by simp [spots])) hA.head.1
theorem spots_len {A B : List Pt} {S : List Rat} (hS : S.Pairwise (· < ·)) (hm : ∀ x, x ∈ S ↔ x ∈ spots A B) : (diagL S).length ≤ A.length + B.length := by
  have hn : S.Nodup := hS.imp fun h => by intro e; subst e; exact Rat.lt_irrefl h
  have := hn.length_le_of_subset (l₂ := spots A B) fun x hx => (hm x).1 hx
  simp only [diagL, spots, List.length_map, List.length_append] at this ⊢
  exact this
/-- Composed curves that lead back. -/
theorem back_diag {A B : List Pt} (h : ∀ u, evalL B (evalL A u) = u) (S : List Rat) : (S.map fun u => (⟨u, evalL B (evalL A u)⟩ : Pt)) = diagL S := by
  unfold diagL
  exact List.map_congr_left fun u _ => by rw [h]
theorem Compose_back {A B : List Pt} (hA : Asc A) (hFA : Fine A) (h2A : 2 ≤ A.length) (hB : Asc B) (hFB : Fine B) (h2B : 2 ≤ B.length) (hl : A.length + B.length ≤ 400) (hFT : Fine (A.map turn)) (hback : ∀ p ∈ B, FineAt (A.map turn) p.X)
    (hS : ∀ u ∈ spots A B, Sm u ∧ FineAt A u ∧ FineAt B (evalL A u)) (hu : ∀ u, evalL B (evalL A u) = u) {D C B' : Nat} (hg : ∀ u ∈ spots A B, Grid D C u) (hc : Coarse D 1 C C 1 B') (hB' : C + D ≤ B') :
    conversion_Compose fuel (A.map enc) (B.map enc) = some (idL.map enc, 0) := by
  refine Compose_ok hA hFA h2A hB hFB h2B hl hFT hback hS fun S hS hm => ?_
  have hS2 := spots_two hA h2A hm
  have hSl := spots_len hS hm
  rw [back_diag hu]
  have := formed_ok (diag_grid hS hS2 fun u hu => hg u ((hm u).1 hu)) hc hB' (by omega)
  rwa [diag_normal hS hS2] at this
end Go.VM
namespace Go.VM

/-- A point at which a value is asked: less is needed than for the slopes. -/
theorem OnGrid.near {D E B C F B' : Nat} {L : List Pt} (h : OnGrid D E B C F L) (hd : D ≠ 0) (he : E ≠ 0) (hde : D * E ≤ 1152921504606846976) (hm : (B' + B) * F ≤ 576460752303423488) (hc : C ≤ 576460752303423488) (hb : B' + B ≤ 576460752303423488) (hf : F ≤ 1152921504606846976) {x : Rat} (hx : Grid D B' x) : FineAt L x := by
  have h1 : D * 1 ≤ D * E := Nat.mul_le_mul_left D (by omega)
  refine ⟨grid_sm hx hd (by omega) (by omega), fun i hi => ⟨?_, ?_, ?_⟩⟩
  · exact Ad.of hx (grid_neg (h.xs _ (List.getElem_mem _))) hd (by omega) (by omega) (by omega)
  · exact Mu.of (hx.sub (h.xs _ (List.getElem_mem _))) (h.ss.get i hi) hd he hde (by omega) (by omega) (by omega)
  · exact Ad.of (h.ys _ (List.getElem_mem _)) ((hx.sub (h.xs _ (List.getElem_mem _))).mul (h.ss.get i hi)) (Nat.mul_ne_zero hd he) hde (by omega) hm
theorem Compose_self {A V : List Pt} (hA : Asc A) (h2A : 2 ≤ A.length) (hV : Asc V) (h2V : 2 ≤ V.length) (hl : A.length + V.length ≤ 400) (hVA : ∀ x, evalL V (evalL A x) = x) (hAV : ∀ x, evalL A (evalL V x) = x)
    (hFA : Fine A) (hFV : Fine V) (hFT : Fine (A.map turn)) {K c E F E2 F2 : Nat} (hK : K ≠ 0) (hE : E ≠ 0) (hE2 : E2 ≠ 0) (gA : ∀ p ∈ A, Grid K c p.X ∧ Grid K c p.Y) (gV : ∀ p ∈ V, Grid K c p.X ∧ Grid K c p.Y)
    (sA : Slopes (Grid E F) A) (sV : Slopes (Grid E2 F2) V) (sT : Slopes (Grid E2 F2) (A.map turn)) (h1 : K * E ≤ 1152921504606846976) (h2 : K * E2 ≤ 1152921504606846976) (h3 : (c + c) * F ≤ 576460752303423488) (h4 : (c + c) * F2 ≤ 576460752303423488)
    (h5 : c * E ≤ 576460752303423488) (h6 : c * E2 ≤ 576460752303423488) (h7 : c + c ≤ 576460752303423488) (h8 : F ≤ 1152921504606846976) (h9 : F2 ≤ 1152921504606846976) (hc : Coarse K 1 c c 1 (c + K)) :
    conversion_Compose fuel (A.map enc) (V.map enc) = some (idL.map enc, 0) := by
  have hpre : ∀ p ∈ V, evalL (A.map turn) p.X = p.Y := fun p hp => by
    have e1 : evalL A p.Y = p.X := by
      have := hAV p.X
      rwa [evalL_at V hV h2V p hp] at this
    rw [← e1]
    exact evalL_turn A p.Y hA h2A
  have GA : OnGrid K E c (c * E) F A := ⟨hA, h2A, fun p hp => (gA p hp).1, fun p hp => (gA p hp).2.up E, sA⟩
  have GV : OnGrid K E2 c (c * E2) F2 V := ⟨hV, h2V, fun p hp => (gV p hp).1, fun p hp => (gV p hp).2.up E2, sV⟩
  have GT : OnGrid K E2 c (c * E2) F2 (A.map turn) := by
    refine ⟨hA.turn, by simpa using h2A, fun p hp => ?_, fun p hp => ?_, sT⟩
    · obtain ⟨q, hq, rfl⟩ := List.mem_map.1 hp
      exact (gA q hq).2
    · obtain ⟨q, hq, rfl⟩ := List.mem_map.1 hp
      exact (gA q hq).1.up E2
  have hsp : ∀ u ∈ spots A V, Grid K c u ∧ Grid K c (evalL A u) := fun u hu => by
    unfold spots at hu
    rw [List.mem_append, List.mem_map, List.mem_map] at hu
    rcases hu with ⟨p, hp, rfl⟩ | ⟨p, hp, rfl⟩
    · rw [evalL_at A hA h2A p hp]; exact gA p hp
    · rw [hpre p hp]
      have e1 : evalL A p.Y = p.X := by
        have := hAV p.X
        rwa [evalL_at V hV h2V p hp] at this
      rw [e1]
      exact ⟨(gV p hp).2, (gV p hp).1⟩
  have k1 : K * 1 ≤ K * E := Nat.mul_le_mul_left K (by omega)
  exact Compose_back hA hFA h2A hV hFV h2V hl hFT (fun p hp => GT.near hK hE2 h2 h4 h6 h7 h9 (gV p hp).1) (fun u hu => ⟨grid_sm (hsp u hu).1 hK (by omega) (by omega), GA.near hK hE h1 h3 h5 h7 h8 (hsp u hu).1, GV.near hK hE2 h2 h4 h6 h7 h9 (hsp u hu).2⟩) hVA (fun u hu => (hsp u hu).1) hc (by omega)
end Go.VM
namespace Go.VM

theorem percGo_turn (x y : List Int) : ∀ (f i k : Nat), percGo y x f k i = (percGo x y f i k).map turn
  | 0, _, _ => rfl
  | f + 1, i, k => by
    simp only [percGo]
    by_cases hc : i ≤ x.length ∧ k ≤ y.length
    · rw [if_pos hc, if_pos (show k ≤ y.length ∧ i ≤ x.length from ⟨hc.2, hc.1⟩)]
      by_cases h1 : cum x i * y.sum < cum y k * x.sum
      · have h2 : ¬ cum y k * x.sum < cum x i * y.sum := by omega
        simp only [if_pos h1, if_neg h2, List.map_cons]
        rw [percGo_turn x y f (i + 1) k]
        rfl
      · by_cases h2 : cum y k * x.sum < cum x i * y.sum
        · simp only [if_neg h1, if_pos h2, List.map_cons]
          rw [percGo_turn x y f i (k + 1)]
          rfl
        · simp only [if_neg h1, if_neg h2, List.map_cons]
          rw [percGo_turn x y f (i + 1) (k + 1)]
          rfl
    · rw [if_neg hc, if_neg (by omega)]
      rfl
theorem slopes_unturn {P : Rat → Prop} : ∀ {L : List Pt}, Asc L → Slopes P (L.map turn) → Slopes (fun s => P s⁻¹) L
  | [], _, _ => trivial
  | [_], _, _ => trivial
  | p :: q :: L, hA, h => ⟨by have := h.1; rw [slope_turn hA.head.1 hA.head.2] at this; exact this, slopes_unturn (L := q :: L) hA.tail h.2⟩
/-- The values of the normal form lie on the grid of the points' values, if the slopes lie on it. -/
theorem normal_ys {D C F G : Nat} {p q : Pt} {R : List Pt} (hA : Asc (p :: q :: R)) (hy : ∀ z ∈ p :: q :: R, Grid D C z.Y) (hs : Slopes (Grid D F) (p :: q :: R)) (h0 : Grid D G (p.Y + (0 - p.X) * slope p q)) : ∀ z ∈ normalL (p :: q :: R), Grid D (C + F + G) z.Y := by
  obtain ⟨n1, n2, n3, n4, n5⟩ := normalL_spec (P := Grid D F) hA (by simp)
  have hS := n5 hs
  have hsub : (bendsL (slope p q) (q :: R)).Sublist (p :: q :: R) := (bendsL_sub _ _).cons p
  obtain ⟨B, hB⟩ : ∃ B, B = bendsL (slope p q) (q :: R) := ⟨_, rfl⟩
  have hN : normalL (p :: q :: R) = ⟨fromX B, evalL (p :: q :: R) (fromX B)⟩ :: (B ++ [⟨toX B, evalL (p :: q :: R) (toX B)⟩]) := by rw [hB]; rfl
  obtain ⟨y0, hy0⟩ : ∃ y0, y0 = evalL (p :: q :: R) (fromX B) := ⟨_, rfl⟩
  obtain ⟨y1, hy1⟩ : ∃ y1, y1 = evalL (p :: q :: R) (toX B) := ⟨_, rfl⟩
  have hb0 : B = [] → y0 = p.Y + (0 - p.X) * slope p q := fun h => by
    have hf := evalL_before p q R (fromX B) hA fun b h' => by rw [← hB, h] at h'; cases h'
    rw [hy0, hf, h]
    rfl
  rw [← hB] at hsub
  rw [← hy0, ← hy1] at hN
  rw [hN] at hS n1 ⊢
  clear hB hN n2 n3 n4 n5 hy0 hy1
  rcases List.eq_nil_or_concat B with rfl | ⟨Bi, bl, rfl⟩
  · have e0 := hb0 rfl
    have hs1 : Grid D F (slope ⟨fromX [], y0⟩ ⟨toX [], y1⟩) := hS.1
    have hm := slope_mul (p := ⟨fromX [], y0⟩) (q := ⟨toX [], y1⟩) n1.head.1
    have g0 : Grid D G y0 := by rw [e0]; exact h0
    have e1 : y1 = y0 + slope ⟨fromX [], y0⟩ ⟨toX [], y1⟩ := by
      have h2 : slope ⟨fromX [], y0⟩ ⟨toX [], y1⟩ * (1 - 0) = y1 - y0 := hm
      grind
    intro z hz
    simp only [List.nil_append, List.mem_cons, List.not_mem_nil, or_false] at hz
    rcases hz with rfl | rfl
    · exact g0.le (by omega)
    · show Grid D (C + F + G) y1
      rw [e1]
      exact (g0.add hs1).le (by omega)
  · have hl : bl ∈ p :: q :: R := hsub.subset (by simp)
    -- the first point
    have hfirst : Grid D (C + F) y0 := by
      obtain ⟨b, T, hT⟩ : ∃ b T, Bi.concat bl ++ [⟨toX (Bi.concat bl), y1⟩] = b :: T ∧ b ∈ Bi.concat bl ∧ fromX (Bi.concat bl) = b.X - 1 := by
        cases h : Bi.concat bl with
        | nil => simp at h
        | cons b T => exact ⟨b, T ++ [_], rfl, by simp, rfl⟩
      obtain ⟨hT, hbm, hfx⟩ := hT
      rw [hT] at hS n1
      have hm := slope_mul (p := ⟨fromX (Bi.concat bl), y0⟩) (q := b) n1.head.1
      have h2 : slope ⟨fromX (Bi.concat bl), y0⟩ b * (b.X - fromX (Bi.concat bl)) = b.Y - y0 := hm
      have e : y0 = b.Y - slope ⟨fromX (Bi.concat bl), y0⟩ b := by
        rw [hfx] at h2 ⊢
        grind
      have hsl : Grid D F (slope ⟨fromX (Bi.concat bl), y0⟩ b) := hS.1
      generalize slope ⟨fromX (Bi.concat bl), y0⟩ b = s at *
      rw [e]
      exact (hy b (hsub.subset hbm)).sub hsl
    -- the last point
    have hlast : Grid D (C + F) y1 := by
      have hlen : (⟨fromX (Bi.concat bl), y0⟩ :: (Bi.concat bl ++ [⟨toX (Bi.concat bl), y1⟩]) : List Pt).length = Bi.length + 3 := by simp
      have hg := hS.get (Bi.length + 1) (by omega)
      have hlt := List.pairwise_iff_getElem.1 n1 (Bi.length + 1) (Bi.length + 2) (by omega) (by omega) (by omega)
      have ea : (⟨fromX (Bi.concat bl), y0⟩ :: (Bi.concat bl ++ [⟨toX (Bi.concat bl), y1⟩]) : List Pt)[Bi.length + 1]'(by omega) = bl := by simp [List.concat_eq_append]
      have eb : (⟨fromX (Bi.concat bl), y0⟩ :: (Bi.concat bl ++ [⟨toX (Bi.concat bl), y1⟩]) : List Pt)[Bi.length + 1 + 1]'(by omega) = ⟨toX (Bi.concat bl), y1⟩ := by
        simp [List.concat_eq_append]
      have ec : (⟨fromX (Bi.concat bl), y0⟩ :: (Bi.concat bl ++ [⟨toX (Bi.concat bl), y1⟩]) : List Pt)[Bi.length + 2]'(by omega) = ⟨toX (Bi.concat bl), y1⟩ := by
        simp [List.concat_eq_append]
      rw [ea, eb] at hg
      rw [ea, ec] at hlt
      have hm := slope_mul (p := bl) (q := ⟨toX (Bi.concat bl), y1⟩) hlt.1
      have htx : toX (Bi.concat bl) = bl.X + 1 := by unfold toX; simp [List.concat_eq_append]
      have h2 : slope bl ⟨toX (Bi.concat bl), y1⟩ * (toX (Bi.concat bl) - bl.X) = y1 - bl.Y := hm
      have e : y1 = bl.Y + slope bl ⟨toX (Bi.concat bl), y1⟩ := by
        rw [htx] at h2 ⊢
        grind
      generalize slope bl ⟨toX (Bi.concat bl), y1⟩ = s at *
      rw [e]
      exact (hy bl hl).add hg
    intro z hz
    rw [List.mem_cons, List.mem_append, List.mem_singleton] at hz
    rcases hz with rfl | hz | rfl
    · exact hfirst.le (by omega)
    · exact (hy z (hsub.subset hz)).le (by omega)
    · exact hlast.le (by omega)
theorem perc_cons {x y : List Int} (hx : Full x) (hy : Full y) : ∃ q R, percGo x y 20 0 0 = ⟨half 0, half 0⟩ :: q :: R := by
  have h := (perc_grid hx hy).two
  rw [percGo_start x y 19] at h ⊢
  cases hR : percGo x y 19 1 1 with
  | nil => rw [hR] at h; simp at h
  | cons q R => exact ⟨q, R, rfl⟩
theorem half0 : half 0 * 2 = -1 := by
  have := half_two 0
  rw [this]
  rfl
/-- What is computed of the inverse of a percentile curve. -/
theorem perc_back_grid {x y : List Int} (hx : Full x) (hy : Full y) : OnGrid (120 * x.sum.toNat) (60 * y.sum.toNat) (900 * x.sum.toNat + 45360) ((840 * y.sum.toNat + 120 * y.sum.toNat) * (60 * x.sum.toNat)) 15120 ((normalL (percGo x y 20 0 0)).map turn) := by
  have hG := perc_grid hx hy
  have hg := perc_grown hx hy
  have hgb := perc_grown hy hx
  have px := hx.pos
  have py := hy.pos
  have hGn := hG.normal (by omega)
  obtain ⟨n1, n2, n3, n4, n5⟩ := normalL_spec (P := fun s => Grid (60 * y.sum.toNat) 15120 s⁻¹) hG.asc hG.two
  have hsT : Slopes (fun s => Grid (60 * y.sum.toNat) 15120 s⁻¹) (percGo x y 20 0 0) := slopes_unturn hG.asc (by rw [← percGo_turn]; exact hgb.ss)
  have hsN := n5 hsT
  refine ⟨n1.turn, by simpa using n2, fun p hp => ?_, fun p hp => ?_, Slopes.turn n1 hsN⟩
  · rw [List.mem_map] at hp
    obtain ⟨z, hz, rfl⟩ := hp
    obtain ⟨q, R, e⟩ := perc_cons hx hy
    rw [e] at hz hG
    have hss := hg.ss
    have hys := hg.ys
    rw [e] at hss hys
    have hup : Slopes (Grid (120 * x.sum.toNat) 30240) (⟨half 0, half 0⟩ :: q :: R) := Slopes.of fun i hi => by
      have := (hss.get i hi).up 2
      rw [show 60 * x.sum.toNat * 2 = 120 * x.sum.toNat by omega] at this
      exact this
    have h0 : Grid (120 * x.sum.toNat) (60 * x.sum.toNat + 15120) ((half 0) + (0 - half 0) * slope ⟨half 0, half 0⟩ q) := by
      obtain ⟨n, hn, hb⟩ := hss.1
      have hh := half0
      refine ⟨-(60 * (x.sum.toNat : Int)) + n, ?_, by omega⟩
      rw [Rat.intCast_add, ← hn, Rat.intCast_neg, Rat.intCast_mul, Rat.intCast_natCast, Rat.natCast_mul, Rat.natCast_mul]
      generalize slope ⟨half 0, half 0⟩ q = s at *
      generalize half 0 = h at *
      generalize (x.sum.toNat : Rat) = w
      have c60 : ((60 : Nat) : Rat) = 60 := rfl
      have c120 : ((120 : Nat) : Rat) = 120 := rfl
      have c60i : ((60 : Int) : Rat) = 60 := rfl
      rw [c60, c120, c60i]
      grind
    exact (normal_ys hG.asc hys hup h0 z hz).le (by omega)
  · rw [List.mem_map] at hp
    obtain ⟨z, hz, rfl⟩ := hp
    have := (hGn.xs z hz).up (60 * x.sum.toNat)
    have e : 120 * y.sum.toNat * (60 * x.sum.toNat) = 120 * x.sum.toNat * (60 * y.sum.toNat) := by
      rw [Nat.mul_mul_mul_comm, Nat.mul_mul_mul_comm 120 x.sum.toNat, Nat.mul_comm x.sum.toNat]
    rw [e] at this
    exact this
theorem mul_le2 {a b c d : Nat} (h1 : a ≤ c) (h2 : b ≤ d) : a * b ≤ c * d := Nat.mul_le_mul h1 h2
theorem coarse_perc {D E B C F B' : Nat} (d : D ≠ 0) (e : E ≠ 0) (hD : D ≤ 6000) (hE : E ≤ 3000) (hB : B ≤ 100000) (hC : C ≤ 10000000000) (hF : F ≤ 15120) (hB' : B' ≤ 200000) : Coarse D E B C F B' := by
  have h1 := mul_le2 hD hE
  have h2 := mul_le2 (show C + C ≤ 20000000000 by omega) hD
  have h3 := mul_le2 (show D * E ≤ 18000000 by omega) (show B + B ≤ 200000 by omega)
  have h4 := mul_le2 (show B' + B ≤ 300000 by omega) hF
  exact ⟨d, e, by omega, by omega, by omega, by omega, by omega, by omega, by omega, by omega⟩
end Go.VM
namespace Go.VM

theorem percGo_diag (a : List Int) : ∀ (f i : Nat), ∃ S : List Rat, percGo a a f i i = diagL S
  | 0, _ => ⟨[], rfl⟩
  | f + 1, i => by
    simp only [percGo]
    by_cases hc : i ≤ a.length ∧ i ≤ a.length
    · obtain ⟨S, hS⟩ := percGo_diag a f (i + 1)
      rw [if_pos hc, if_neg (by omega), if_neg (by omega), hS]
      exact ⟨half i :: S, rfl⟩
    · rw [if_neg hc]
      exact ⟨[], rfl⟩
theorem asc_diag {S : List Rat} (h : Asc (diagL S)) : S.Pairwise (· < ·) := by
  unfold Asc diagL at h
  rw [List.pairwise_map] at h
  exact h.imp fun h => h.1
/-- What a percentile curve is. -/
theorem perc_curve {a b : List Int} (sa : Full a) (sb : Full b) : equating_Percentile fuel a b = some ((normalL (percGo a b 20 0 0)).map enc, 0) ∧ (normalL (percGo a b 20 0 0)).length ≤ 40 ∧ Fine (normalL (percGo a b 20 0 0)) ∧ Fine ((normalL (percGo a b 20 0 0)).map turn) := by
  have pa := sa.pos
  have pb := sb.pos
  have sa42 := sa.sum
  have sb42 := sb.sum
  have la := sa.len
  have lb := sb.len
  have hG := perc_grid sa sb
  have hB := perc_back_grid sa sb
  have hgr := perc_grown sa sb
  have hG2 := hG.normal (by omega)
  have hll : (percGo a b 20 0 0).length ≤ 39 := by have := hgr.hi; omega
  have hnl := normal_len (percGo a b 20 0 0)
  obtain ⟨N, hN⟩ : ∃ N, N = a.sum.toNat := ⟨_, rfl⟩
  obtain ⟨M, hM⟩ : ∃ M, M = b.sum.toNat := ⟨_, rfl⟩
  rw [← hN, ← hM] at hG hB hG2
  have hNM := mul_le2 (show 840 * N ≤ 35280 by omega) (show 60 * M ≤ 2520 by omega)
  have hMN := mul_le2 (show 840 * M + 120 * M ≤ 40320 by omega) (show 60 * N ≤ 2520 by omega)
  have hBF := mul_le2 (show 840 * M + 120 * M + 840 * M ≤ 75600 by omega) (show (15120 : Nat) ≤ 15120 by omega)
  have hC : Coarse (120 * M) (60 * N) (840 * M) (840 * N * (60 * M)) 15120 50000 := coarse_perc (by omega) (by omega) (by omega) (by omega) (by omega) (by omega) (by omega) (by omega)
  have hC2 : Coarse (120 * M) (60 * N) (840 * M + 120 * M) (840 * N * (60 * M) + (840 * M + 120 * M + 840 * M) * 15120) 15120 50000 := coarse_perc (by omega) (by omega) (by omega) (by omega) (by omega) (by omega) (by omega) (by omega)
  have hC3 : Coarse (120 * N) (60 * M) (900 * N + 45360) ((840 * M + 120 * M) * (60 * N)) 15120 100000 := coarse_perc (by omega) (by omega) (by omega) (by omega) (by omega) (by omega) (by omega) (by omega)
  refine ⟨?_, by omega, hG2.fine hC2, hB.fine hC3⟩
  rw [Percentile_ok sa sb, CNormal_ok hG hC (by omega) (by omega)]
  rfl
theorem perc_self {a : List Int} (sa : Full a) : equating_Percentile fuel a a = some (idL.map enc, 0) := by
  rw [(perc_curve sa sa).1]
  obtain ⟨S, hS⟩ := percGo_diag a 20 0
  have hG := perc_grid sa sa
  have hA := hG.asc
  have h2 := hG.two
  rw [hS] at hA h2 ⊢
  rw [diag_normal (asc_diag hA) (by simpa [diagL] using h2)]
theorem perc_xs {a b : List Int} (sa : Full a) (sb : Full b) : ∀ p ∈ normalL (percGo a b 20 0 0), Grid (120 * b.sum.toNat * (60 * a.sum.toNat)) 209563200 p.X ∧ Grid (120 * b.sum.toNat * (60 * a.sum.toNat)) 209563200 p.Y := by
  have pa := sa.pos
  have pb := sb.pos
  have sa42 := sa.sum
  have sb42 := sb.sum
  have hG2 := (perc_grid sa sb).normal (by omega)
  have hB := perc_back_grid sa sb
  intro p hp
  have m1 := mul_le2 (show 840 * b.sum.toNat + 120 * b.sum.toNat ≤ 83160 by omega) (show 60 * a.sum.toNat ≤ 2520 by omega)
  have m2 := mul_le2 (show 900 * a.sum.toNat + 45360 ≤ 83160 by omega) (show 60 * b.sum.toNat ≤ 2520 by omega)
  refine ⟨((hG2.xs p hp).up (60 * a.sum.toNat)).le (by omega), ?_⟩
  have h := ((hB.xs (turn p) (List.mem_map_of_mem hp)).up (60 * b.sum.toNat)).le (show _ ≤ 209563200 by omega)
  have e : 120 * b.sum.toNat * (60 * a.sum.toNat) = 120 * a.sum.toNat * (60 * b.sum.toNat) := by
    rw [Nat.mul_mul_mul_comm, Nat.mul_mul_mul_comm 120 a.sum.toNat, Nat.mul_comm a.sum.toNat]
  rw [e]
  exact h
theorem perc_chain {a b : List Int} (sa : Full a) (sb : Full b) : conversion_Compose fuel ((normalL (percGo a b 20 0 0)).map enc) ((normalL (percGo b a 20 0 0)).map enc) = some (idL.map enc, 0) := by
  have pa := sa.pos
  have pb := sb.pos
  have sa42 := sa.sum
  have sb42 := sb.sum
  obtain ⟨_, a2, a3, a4⟩ := perc_curve sa sb
  obtain ⟨_, b2, b3, b4⟩ := perc_curve sb sa
  have hG := perc_grid sa sb
  have hG' := perc_grid sb sa
  obtain ⟨n1, n2, n3, n4, n5⟩ := normalL_spec (P := fun _ => True) hG.asc hG.two
  obtain ⟨k1, k2, k3, k4, k5⟩ := normalL_spec (P := fun _ => True) hG'.asc hG'.two
  have gA := perc_xs sa sb
  have gV := perc_xs sb sa
  have e : 120 * a.sum.toNat * (60 * b.sum.toNat) = 120 * b.sum.toNat * (60 * a.sum.toNat) := by
    rw [Nat.mul_mul_mul_comm, Nat.mul_mul_mul_comm 120 b.sum.toNat, Nat.mul_comm b.sum.toNat]
  rw [e] at gV
  have hVA : ∀ x, evalL (normalL (percGo b a 20 0 0)) (evalL (normalL (percGo a b 20 0 0)) x) = x := fun x => by
    rw [n3, k3, percGo_turn a b]
    exact evalL_turn _ x hG.asc hG.two
  have hAV : ∀ x, evalL (normalL (percGo a b 20 0 0)) (evalL (normalL (percGo b a 20 0 0)) x) = x := fun x => by
    rw [n3, k3, percGo_turn b a]
    exact evalL_turn _ x hG'.asc hG'.two
  have sA := (hG.normal (by omega)).ss
  have sV := (hG'.normal (by omega)).ss
  have sT := (perc_back_grid sa sb).ss
  obtain ⟨K, hK⟩ : ∃ K, K = 120 * b.sum.toNat * (60 * a.sum.toNat) := ⟨_, rfl⟩
  have hK1 : K ≤ 12700800 := by
    have := mul_le2 (show 120 * b.sum.toNat ≤ 5040 by omega) (show 60 * a.sum.toNat ≤ 2520 by omega)
    omega
  have hK0 : K ≠ 0 := by rw [hK]; exact Nat.mul_ne_zero (by omega) (by omega)
  have m1 := mul_le2 hK1 (show 60 * a.sum.toNat ≤ 2520 by omega)
  have m2 := mul_le2 hK1 (show 60 * b.sum.toNat ≤ 2520 by omega)
  have m3 := mul_le2 (show (209563200 + 209563200 : Nat) ≤ 419126400 by omega) hK1
  rw [← hK] at gA gV
  exact Compose_self n1 n2 k1 k2 (by omega) hVA hAV a3 b3 a4 (K := K) (c := 209563200) (E := 60 * a.sum.toNat) (E2 := 60 * b.sum.toNat) (F := 15120) (F2 := 15120) hK0 (by omega) (by omega) gA gV sA sV sT (by omega) (by omega) (by omega) (by omega) (by omega) (by omega) (by omega) (by omega) (by omega)
    ⟨hK0, by omega, by omega, by omega, by omega, by omega, by omega, by omega, by omega, by omega⟩
end Go.VM
namespace Go.VM

theorem one_grid (D : Nat) : Grid D D 1 := ⟨D, by rw [Rat.one_mul, Rat.intCast_natCast], by omega⟩
theorem zero_grid (D : Nat) : Grid D 0 0 := ⟨0, by rw [Rat.zero_mul]; rfl, by omega⟩
theorem lineT_fine {s t : Rat} (hs : 0 < s) {E F C : Nat} (hE : E ≠ 0) (g1 : Grid E F s) (g2 : Grid E C t) (bE : E ≤ 30000000) (bF : F ≤ 30000000) (bC : C ≤ 1000000000) : Fine ((lineL s t).map turn) := by
  have one := one_grid E
  have zero := zero_grid E
  have gst : Grid E (F + C) (s + t) := g1.add g2
  refine ⟨fun p hp => ?_, fun i hi => ?_⟩
  · simp only [lineL, List.map_cons, List.map_nil, List.mem_cons, List.not_mem_nil, or_false] at hp
    rcases hp with rfl | rfl
    · exact ⟨grid_sm g2 hE (by omega) (by omega), grid_sm zero hE (by omega) (by omega)⟩
    · exact ⟨grid_sm gst hE (by omega) (by omega), grid_sm one hE (by omega) (by omega)⟩
  · have : i = 0 := by simp [lineL] at hi; omega
    subst this
    have EE : E * E ≤ 30000000 * 30000000 := Nat.mul_le_mul bE bE
    show Ad 1 (-0) ∧ Ad (s + t) (-t) ∧ Di (1 - 0) (s + t - t)
    have e1 : s + t - t = s := by grind
    have e2 : (1 : Rat) - 0 = 1 := by grind
    rw [e1, e2]
    have EF : E * F ≤ 30000000 * 30000000 := Nat.mul_le_mul bE bF
    refine ⟨Ad.of one (grid_neg zero) hE (by omega) (by omega) (by omega), Ad.of gst (grid_neg g2) hE (by omega) (by omega) (by omega), Di.of one g1 hE hE (by grind) (by omega) (by omega) (by omega) (by omega) (by omega) (by omega)⟩
theorem line_on {s t : Rat} (hs : 0 < s) {E F C D : Nat} (g1 : Grid E F s) (g2 : Grid E C t) : OnGrid D E D ((F + C) * D) F (lineL s t) := by
  refine ⟨lineL_asc hs, by simp [lineL], fun p hp => ?_, fun p hp => ?_, ?_⟩
  · simp only [lineL, List.mem_cons, List.not_mem_nil, or_false] at hp
    rcases hp with rfl | rfl
    · exact (zero_grid D).le (by omega)
    · exact one_grid D
  · simp only [lineL, List.mem_cons, List.not_mem_nil, or_false] at hp
    rw [Nat.mul_comm D E]
    rcases hp with rfl | rfl
    · exact (g2.le (show C ≤ F + C by omega)).up D
    · exact (g1.add g2).up D
  · refine ⟨?_, trivial⟩
    rw [lineL_slope]
    exact g1
theorem Compose_line {s t : Rat} (hs : 0 < s) {E F C G K C' : Nat} (hE : E ≠ 0) (hG : G ≠ 0) (g1 : Grid E F s) (g2 : Grid E C t) (g3 : Grid G K s⁻¹) (g4 : Grid G C' (-(t * s⁻¹))) (bE : E ≤ 30000000) (bF : F ≤ 30000000) (bC : C ≤ 1000000000) (bG : G ≤ 30000000) (bK : K ≤ 30000000) (bC' : C' ≤ 1000000000) :
    conversion_Compose fuel ((lineL s t).map enc) ((lineL s⁻¹ (-(t * s⁻¹))).map enc) = some (idL.map enc, 0) := by
  have hs0 : s ≠ 0 := by grind
  have hss : s * s⁻¹ = 1 := Rat.mul_inv_cancel s hs0
  have hsi : 0 < s⁻¹ := Rat.inv_pos.2 hs
  have hVA : ∀ x, evalL (lineL s⁻¹ (-(t * s⁻¹))) (evalL (lineL s t) x) = x := fun x => by
    rw [lineL_eval, lineL_eval]; grind
  have EG := mul_le2 bE bG
  have GE := mul_le2 bG bE
  have f1 : (F + C) * 1 ≤ 1030000000 := by omega
  have GA1 := line_on (D := 1) hs g1 g2
  have GV1 := line_on (D := 1) hsi g3 g4
  have GA := line_on (D := G) hs g1 g2
  have GV := line_on (D := E) hsi g3 g4
  have cA : Coarse 1 E 1 ((F + C) * 1) F 100 := ⟨by omega, hE, by omega, by omega, by omega, by omega, by omega, by omega, by omega, by omega⟩
  have cV : Coarse 1 G 1 ((K + C') * 1) K 100 := ⟨by omega, hG, by omega, by omega, by omega, by omega, by omega, by omega, by omega, by omega⟩
  have GT : OnGrid E G (F + C) (E * G) K ((lineL s t).map turn) := by
    refine ⟨(lineL_asc hs).turn, by simp [lineL], fun p hp => ?_, fun p hp => ?_, ?_⟩
    · simp only [lineL, List.map_cons, List.map_nil, List.mem_cons, List.not_mem_nil, or_false] at hp
      rcases hp with rfl | rfl
      · exact g2.le (by omega)
      · exact g1.add g2
    · simp only [lineL, List.map_cons, List.map_nil, List.mem_cons, List.not_mem_nil, or_false] at hp
      rcases hp with rfl | rfl
      · exact (zero_grid (E * G)).le (by omega)
      · exact one_grid (E * G)
    · refine ⟨?_, trivial⟩
      rw [slope_turn (show (0 : Rat) < 1 by decide) (show t < s + t by grind), lineL_slope]
      exact g3
  have hpre : ∀ x, evalL ((lineL s t).map turn) x = -(t * s⁻¹) + x * s⁻¹ := fun x => by
    have h1 := evalL_turn (lineL s t) (-(t * s⁻¹) + x * s⁻¹) (lineL_asc hs) (by simp [lineL])
    rw [lineL_eval] at h1
    have : t + (-(t * s⁻¹) + x * s⁻¹) * s = x := by grind
    rwa [this] at h1
  have hsp : ∀ u ∈ spots (lineL s t) (lineL s⁻¹ (-(t * s⁻¹))), Grid G (G + (K + C')) u ∧ Grid E (E + (F + C)) (evalL (lineL s t) u) := fun u hu => by
    simp only [spots, lineL, List.map_cons, List.map_nil, List.mem_append, List.mem_cons, List.not_mem_nil, or_false] at hu
    rcases hu with (rfl | rfl) | (rfl | rfl)
    · refine ⟨(zero_grid G).le (by omega), ?_⟩
      rw [lineL_eval, Rat.zero_mul, Rat.add_zero]
      exact g2.le (by omega)
    · refine ⟨(one_grid G).le (by omega), ?_⟩
      rw [lineL_eval, Rat.one_mul]
      exact (g2.add g1).le (by omega)
    · have e := hpre 0
      simp only [lineL, List.map_cons, List.map_nil] at e
      rw [e, lineL_eval]
      refine ⟨?_, ?_⟩
      · rw [Rat.zero_mul, Rat.add_zero]; exact g4.le (by omega)
      · have : t + (-(t * s⁻¹) + 0 * s⁻¹) * s = 0 := by grind
        rw [this]
        exact (zero_grid E).le (by omega)
    · have e := hpre 1
      simp only [lineL, List.map_cons, List.map_nil] at e
      rw [e, lineL_eval]
      refine ⟨?_, ?_⟩
      · rw [Rat.one_mul]; exact (g4.add g3).le (by omega)
      · have : t + (-(t * s⁻¹) + 1 * s⁻¹) * s = 1 := by grind
        rw [this]
        exact (one_grid E).le (by omega)
  have q1 := mul_le2 (show G + (K + C') + G ≤ 1200000000 by omega) bF
  have q2 := mul_le2 (show E + (F + C) + E ≤ 1200000000 by omega) bK
  have q3 := mul_le2 (show F + C ≤ 1030000000 by omega) bG
  have q4 := mul_le2 (show K + C' ≤ 1030000000 by omega) bE
  have q5 := mul_le2 (show E + (F + C) ≤ 1200000000 by omega) bK
  have q6 := mul_le2 (show G + (K + C') + (G + (K + C')) ≤ 2400000000 by omega) bG
  have q7 : G * 1 * (G + (K + C') + (G + (K + C'))) ≤ 30000000 * 2400000000 := Nat.mul_le_mul (by omega) (by omega)
  refine Compose_back GA1.asc (GA1.fine cA) GA1.two GV1.asc (GV1.fine cV) GV1.two (by simp [lineL]) (lineT_fine hs hE g1 g2 bE bF bC) (fun p hp => ?_) (fun u hu => ⟨grid_sm (hsp u hu).1 hG (by omega) (by omega), GA.near hG hE (Nat.le_trans GE (by decide)) (Nat.le_trans q1 (by decide)) (Nat.le_trans q3 (by decide)) (by omega) (by omega) (hsp u hu).1, GV.near hE hG (Nat.le_trans EG (by decide)) (Nat.le_trans q2 (by decide)) (Nat.le_trans q4 (by decide)) (by omega) (by omega) (hsp u hu).2⟩) hVA (fun u hu => (hsp u hu).1) (B' := 3000000000) ⟨hG, by omega, by omega, Nat.le_trans q6 (by decide), Nat.le_trans q7 (by decide), by omega, by omega, by omega, by omega, by omega⟩ (by omega)
  have hx : Grid E E p.X := by
    simp only [lineL, List.mem_cons, List.not_mem_nil, or_false] at hp
    rcases hp with rfl | rfl
    · exact (zero_grid E).le (by omega)
    · exact one_grid E
  exact GT.near hE hG (by omega) (by omega) (by omega) (by omega) (by omega) hx
end Go.VM
namespace Go.VM

theorem Grid.cast {D D' B : Nat} {v : Rat} (h : D = D') (g : Grid D B v) : Grid D' B v := h ▸ g
theorem coarse_of {D E B C F B' : Nat} (d : D ≠ 0) (e : E ≠ 0) (hD : D ≤ 2000) (hE : E ≤ 22000000) (hB : B ≤ 2000) (hC : C ≤ 1000000000000) (hF : F ≤ 22000000) (hB' : B' ≤ 30000) : Coarse D E B C F B' := by
  have h1 := mul_le2 hD hE
  have h2 := mul_le2 (show C + C ≤ 2000000000000 by omega) hD
  have h3 := mul_le2 (show D * E ≤ 44000000000 by omega) (show B + B ≤ 4000 by omega)
  have h4 := mul_le2 (show B' + B ≤ 32000 by omega) hF
  exact ⟨d, e, by omega, by omega, by omega, by omega, by omega, by omega, by omega, by omega⟩
theorem dev_nonneg {d : List Int} (h : Seven d) : 0 ≤ devR d := by
  have h1 := h.few.far
  have h2 := h.pos
  rw [← Rat.num_nonneg]
  unfold devR
  have m2 : 0 < d.sum * d.sum := Int.mul_pos (by omega) (by omega)
  rw [← rnum_rat _ (by omega)]
  exact (rnum_le h1.1).1
theorem inv_one : (1 : Rat)⁻¹ = 1 := by have := Rat.mul_inv_cancel 1 (by decide); rw [Rat.one_mul] at this; exact this
theorem mean_chain {a b : List Int} (sa : Seven a) (sb : Seven b) : equating_Mean fuel a b = some ((lineL 1 (meanR b - 1 * meanR a)).map enc, 0) ∧ ∃ (E C : Nat), E ≠ 0 ∧ E ≤ 30000000 ∧ C ≤ 1000000000 ∧ Grid E C (meanR b - 1 * meanR a) := by
  have fa := sa.few
  have fb := sb.few
  have a0 : a.sum ≠ 0 := by have := sa.pos; omega
  have b0 : b.sum ≠ 0 := by have := sb.pos; omega
  obtain ⟨N, hN⟩ : ∃ N, N = a.sum.toNat := ⟨_, rfl⟩
  obtain ⟨M, hM⟩ : ∃ M, M = b.sum.toNat := ⟨_, rfl⟩
  have hN1 : 1 ≤ N ∧ N ≤ 42 := by have := sa.pos; have := sa.sum; omega
  have hM1 : 1 ≤ M ∧ M ≤ 42 := by have := sb.pos; have := sb.sum; omega
  have gp := sa.mean
  have gq := sb.mean
  rw [← hN] at gp
  rw [← hM] at gq
  have NM := mul_le2 hN1.2 hM1.2
  have MN := mul_le2 hM1.2 hN1.2
  have NM0 : N * M ≠ 0 := Nat.mul_ne_zero (by omega) (by omega)
  have g1 : Grid (N * M) (252 * M) (meanR a) := gp.up M
  have g2 : Grid (N * M) (252 * N) (meanR b) := (gq.up N).cast (Nat.mul_comm M N)
  have gt : Grid (N * M) (252 * N + 252 * M) (meanR b - 1 * meanR a) := by rw [Rat.one_mul]; exact g2.sub g1
  have eM := EMean_ok fa fb a0 b0 (Mu.of (one_grid 1) gp (by decide) (by omega) (by omega) (by omega) (by omega) (by omega)) (by rw [Rat.one_mul]; exact Ad.of g2 (grid_neg g1) NM0 (by omega) (by omega) (by omega)) (Ad.of (one_grid _) gt NM0 (by omega) (by omega) (by omega))
  exact ⟨eM, N * M, _, NM0, by omega, by omega, gt⟩
theorem linear_chain {a b : List Int} (sa : Seven a) (sb : Seven b) (hda : devR a ≠ 0) (hdb : devR b ≠ 0) : equating_Linear fuel a b = some ((lineL (devR b / devR a) (meanR b - devR b / devR a * meanR a)).map enc, 0) ∧
    ∃ (E F C : Nat), E ≠ 0 ∧ E ≤ 30000000 ∧ F ≤ 30000000 ∧ C ≤ 1000000000 ∧ 0 < devR b / devR a ∧ (devR b / devR a)⁻¹ = devR a / devR b ∧ Grid E F (devR b / devR a) ∧ Grid E C (meanR b - devR b / devR a * meanR a) := by
  have fa := sa.few
  have fb := sb.few
  have a0 : a.sum ≠ 0 := by have := sa.pos; omega
  have b0 : b.sum ≠ 0 := by have := sb.pos; omega
  obtain ⟨N, hN⟩ : ∃ N, N = a.sum.toNat := ⟨_, rfl⟩
  obtain ⟨M, hM⟩ : ∃ M, M = b.sum.toNat := ⟨_, rfl⟩
  have hN1 : 1 ≤ N ∧ N ≤ 42 := by have := sa.pos; have := sa.sum; omega
  have hM1 : 1 ≤ M ∧ M ≤ 42 := by have := sb.pos; have := sb.sum; omega
  have gp := sa.mean
  have gq := sb.mean
  have gu := sa.dev
  have gv := sb.dev
  have mp := mean_mul sa.pos
  have mq := mean_mul sb.pos
  rw [← hN] at gp gu mp
  rw [← hM] at gq gv mq
  have du := dev_mul sa.pos
  have dv := dev_mul sb.pos
  rw [← hN] at du
  rw [← hM] at dv
  have u0 := dev_nonneg sa
  have v0 := dev_nonneg sb
  have NN := mul_le2 hN1.2 hN1.2
  have MM := mul_le2 hM1.2 hM1.2
  have NN0 : N * N ≠ 0 := Nat.mul_ne_zero (by omega) (by omega)
  have MM0 : M * M ≠ 0 := Nat.mul_ne_zero (by omega) (by omega)
  obtain ⟨FA, hFA⟩ : ∃ FA, FA = (farS a.sum (pts a 0) a 0).toNat := ⟨_, rfl⟩
  obtain ⟨FB, hFB⟩ : ∃ FB, FB = (farS b.sum (pts b 0) b 0).toNat := ⟨_, rfl⟩
  have ffa := fa.far
  have ffb := fb.far
  have cfa : (farS a.sum (pts a 0) a 0 : Rat) = (FA : Rat) := by
    rw [show farS a.sum (pts a 0) a 0 = ((FA : Nat) : Int) by omega, Rat.intCast_natCast]
  have cfb : (farS b.sum (pts b 0) b 0 : Rat) = (FB : Rat) := by
    rw [show farS b.sum (pts b 0) b 0 = ((FB : Nat) : Int) by omega, Rat.intCast_natCast]
  rw [cfa] at du
  rw [cfb] at dv
  have hFA1 : FA ≠ 0 := fun h => by
    rw [h] at du
    have := natCast_ne NN0
    have e : devR a * ((N * N : Nat) : Rat) = 0 := du
    rcases Rat.mul_eq_zero.1 e with h' | h'
    · exact hda h'
    · exact this h'
  have hFB1 : FB ≠ 0 := fun h => by
    rw [h] at dv
    have := natCast_ne MM0
    have e : devR b * ((M * M : Nat) : Rat) = 0 := dv
    rcases Rat.mul_eq_zero.1 e with h' | h'
    · exact hdb h'
    · exact this h'
  have bFA : FA ≤ 12348 := by have := sa.far; omega
  have bFB : FB ≤ 12348 := by have := sb.far; omega
  obtain ⟨s, hs⟩ : ∃ s, s = devR b / devR a := ⟨_, rfl⟩
  have hsm : s * devR a = devR b := by rw [hs]; exact Rat.div_mul_cancel hda
  have upos : 0 < devR a := by grind
  have vpos : 0 < devR b := by grind
  have spos : 0 < s := (Rat.mul_pos_iff_of_pos_right upos).1 (by rw [hsm]; exact vpos)
  have gs : Grid (M * M * FA) (FB * (N * N)) s := by
    refine ⟨((FB * (N * N) : Nat) : Int), ?_, by omega⟩
    rw [Rat.intCast_natCast, Rat.natCast_mul, Rat.natCast_mul FB, ← du, ← dv, ← hsm]
    generalize ((N * N : Nat) : Rat) = z
    generalize ((M * M : Nat) : Rat) = w
    grind
  obtain ⟨s', hs'⟩ : ∃ s', s' = devR a / devR b := ⟨_, rfl⟩
  have hsm' : s' * devR b = devR a := by rw [hs']; exact Rat.div_mul_cancel hdb
  have hinv : s⁻¹ = s' := by
    have h1 := Rat.mul_inv_cancel s (by grind)
    have h2 : s' * s = 1 := by
      have : (s' * s - 1) * devR a = 0 := by grind
      rcases Rat.mul_eq_zero.1 this with h | h
      · grind
      · exact absurd h hda
    generalize s⁻¹ = r at *
    have : s' * (s * r) = s' * 1 := by rw [h1]
    grind
  have gs' : Grid (N * N * FB) (FA * (M * M)) s' := by
    refine ⟨((FA * (M * M) : Nat) : Int), ?_, by omega⟩
    rw [Rat.intCast_natCast, Rat.natCast_mul, Rat.natCast_mul FA, ← du, ← dv, ← hsm']
    generalize ((N * N : Nat) : Rat) = z
    generalize ((M * M : Nat) : Rat) = w
    grind
  have E1 := mul_le2 MM bFA
  have E2 := mul_le2 NN bFB
  have F1 := mul_le2 bFB NN
  have F2 := mul_le2 bFA MM
  have E0 : M * M * FA ≠ 0 := Nat.mul_ne_zero MM0 hFA1
  have G0 : N * N * FB ≠ 0 := Nat.mul_ne_zero NN0 hFB1
  -- the value at 0, on the grid of the slope
  have gt : Grid (M * M * FA) (252 * (M * FA) + 252 * (N * FB)) (meanR b - s * meanR a) := by
    obtain ⟨P, hP⟩ : ∃ P : Int, P = pts a 0 := ⟨_, rfl⟩
    obtain ⟨Q, hQ⟩ : ∃ Q : Int, Q = pts b 0 := ⟨_, rfl⟩
    rw [← hP] at mp
    rw [← hQ] at mq
    have bP := sa.pts
    have bQ := sb.pts
    have bP0 := fa.pts
    have bQ0 := fb.pts
    rw [← hP] at bP bP0
    rw [← hQ] at bQ bQ0
    refine ⟨Q * ((M * FA : Nat) : Int) - P * ((N * FB : Nat) : Int), ?_, ?_⟩
    · have e1 : s * ((M * M * FA : Nat) : Rat) = ((FB * (N * N) : Nat) : Rat) := by
        rw [Rat.natCast_mul, Rat.natCast_mul FB, ← du, ← dv, ← hsm]
        generalize ((N * N : Nat) : Rat) = z
        generalize ((M * M : Nat) : Rat) = w
        grind
      rw [Rat.intCast_sub, Rat.intCast_mul, Rat.intCast_mul, Rat.intCast_natCast, Rat.intCast_natCast, ← mp, ← mq]
      have e2 : (meanR b - s * meanR a) * ((M * M * FA : Nat) : Rat) = meanR b * ((M * M * FA : Nat) : Rat) - meanR a * (s * ((M * M * FA : Nat) : Rat)) := by grind
      rw [e2, e1]
      simp only [Rat.natCast_mul]
      grind
    · have h1 := mul_le2 (show Q.natAbs ≤ 252 by omega) (show M * FA ≤ M * FA by omega)
      have h2 := mul_le2 (show P.natAbs ≤ 252 by omega) (show N * FB ≤ N * FB by omega)
      have h3 : (Q * ((M * FA : Nat) : Int)).natAbs ≤ 252 * (M * FA) := by rw [Int.natAbs_mul, Int.natAbs_natCast]; exact h1
      have h4 : (P * ((N * FB : Nat) : Int)).natAbs ≤ 252 * (N * FB) := by rw [Int.natAbs_mul, Int.natAbs_natCast]; exact h2
      omega
  have T1 := mul_le2 hM1.2 bFA
  have T2 := mul_le2 hN1.2 bFB
  have gs0 := gs
  -- the curve itself
  obtain ⟨E, hE⟩ : ∃ E, E = M * M * FA := ⟨_, rfl⟩
  obtain ⟨F, hF⟩ : ∃ F, F = FB * (N * N) := ⟨_, rfl⟩
  have D0 : N * N * E ≠ 0 := Nat.mul_ne_zero NN0 (by omega)
  have D1 := mul_le2 NN (show E ≤ 21781872 by omega)
  have hK : M * (N * N * M * FA) = N * N * E := by rw [hE]; ac_rfl
  have hK2 : E * N * N = N * N * E := by ac_rfl
  rw [← hE, ← hF] at gs
  have gsp : Grid (N * N * E) (F * 252 * N) (s * meanR a) := ((gs.mul gp).up N).cast hK2
  have gqq : Grid (N * N * E) (252 * (N * N * M * FA)) (meanR b) := (gq.up (N * N * M * FA)).cast hK
  have gss : Grid (N * N * E) (F * (N * N)) s := (gs.up (N * N)).cast (Nat.mul_comm E (N * N))
  have q1 : F * 252 * N ≤ 230539333248 := by
    have := mul_le2 (show F * 252 ≤ 5489031744 by omega) hN1.2
    omega
  have q2 : 252 * (N * N * M * FA) ≤ 230539333248 := by
    have h1 := mul_le2 NN hM1.2
    have h2 := mul_le2 (show N * N * M ≤ 74088 by omega) bFA
    omega
  have q3 : F * (N * N) ≤ 38423222208 := by
    have := mul_le2 (show F ≤ 21781872 by omega) NN
    omega
  have gtt : Grid (N * N * E) (252 * (N * N * M * FA) + F * 252 * N) (meanR b - s * meanR a) := gqq.sub gsp
  have eD := mul_le2 (show E ≤ 21781872 by omega) hN1.2
  have dd := mul_le2 MM (show (12348 : Nat) ≤ 12348 by omega)
  set_option maxRecDepth 20000 in
  have hL := ELinear_ok fa fb a0 b0 hda hdb (by rw [← hs]; exact spos) (Di.of gv gu MM0 NN0 hda (by omega) (by omega) (by omega) (by omega) (by omega) (by omega)) (by rw [← hs]; exact Mu.of gs gp (by omega) (by omega) (by omega) (by omega) (by omega) (by omega)) (by rw [← hs]; exact Ad.of gqq (grid_neg gsp) D0 (by omega) (by omega) (by omega)) (by rw [← hs]; exact Ad.of gss gtt D0 (by omega) (by omega) (by omega))
  rw [← hs] at hL ⊢
  rw [← hs']
  exact ⟨hL, E, F, 252 * (M * FA) + 252 * (N * FB), by omega, by omega, by omega, by omega, spos, hinv, gs, by rw [hE]; exact gt⟩
end Go.VM
namespace Go.VM
theorem sane34_ok : law34_sane fuel = some true := by decide +kernel
theorem line_id : conversion_Line fuel 1 1 0 1 = some (idL.map enc, 0) := by decide +kernel
theorem coarseD1 : Coarse 1 1 31 31 1 100 := ⟨by decide, by decide, by decide, by decide, by decide, by decide, by decide, by decide, by decide, by decide⟩
theorem id_normal : conversion_Normal fuel (idL.map enc) = some (idL.map enc, 0) := by
  have hp : ([0, 1] : List Rat).Pairwise (· < ·) := by simp; decide
  have hg : OnGrid 1 1 31 31 1 (diagL [0, 1]) := diag_grid hp (by simp) (fun u hu => by
    simp only [List.mem_cons, List.not_mem_nil, or_false] at hu
    rcases hu with rfl | rfl
    · exact grid_int 1 0 31 (by decide)
    · exact grid_int 1 1 31 (by decide))
  have := CNormal_ok hg coarseD1 (by decide) (by simp [diagL])
  rw [diag_normal hp (by simp)] at this
  exact this
theorem same_id : conversion_Same fuel (idL.map enc) (idL.map enc) = some true := Same_ok id_normal id_normal (by decide)
theorem line_one {s t : Rat} (hs : s = 1) (ht : t = 0) : lineL s t = idL := by
  subst hs ht
  unfold lineL idL
  rw [Rat.add_zero]
/-- What is asked of equating with itself and of the chain. -/
theorem chain_of {r : Int} {a b : List Int} {A V : List SPoint} (h1 : equating_Equate fuel r a b = some (A, 0)) (h2 : equating_Equate fuel r b a = some (V, 0)) (h3 : conversion_Compose fuel A V = some (idL.map enc, 0)) : equating_Chain fuel a b b a r = some (idL.map enc, 0) := by
  unfold equating_Chain
  rw [h1, Option.bind_some, uc_mk, bne_self_eq_false, cond_false, h2, Option.bind_some, uc_mk, bne_self_eq_false, cond_false, h3]
  rfl
theorem equate0 (a b : List Int) {x : List SPoint × Int} (h : equating_Mean fuel a b = some x) : equating_Equate fuel 0 a b = some x := by
  unfold equating_Equate
  rw [beq_self_eq_true, cond_true, h]
  rfl
theorem equate1 (a b : List Int) {x : List SPoint × Int} (h : equating_Linear fuel a b = some x) : equating_Equate fuel 1 a b = some x := by
  unfold equating_Equate
  rw [show ((1 : Int) == 0) = false from rfl, cond_false, beq_self_eq_true, cond_true, h]
  rfl
theorem equate2 (a b : List Int) {x : List SPoint × Int} (h : equating_Percentile fuel a b = some x) : equating_Equate fuel 2 a b = some x := by
  unfold equating_Equate
  rw [show ((2 : Int) == 0) = false from rfl, cond_false, show ((2 : Int) == 1) = false from rfl, cond_false, beq_self_eq_true, cond_true, h]
  rfl
theorem mean_self {a b : List Int} (sa : Seven a) (sb : Seven b) : equating_Equate fuel 0 a a = some (idL.map enc, 0) ∧ equating_Chain fuel a b b a 0 = some (idL.map enc, 0) := by
  obtain ⟨m1, _⟩ := mean_chain sa sa
  obtain ⟨m2, E, C, e1, e2, e3, g1⟩ := mean_chain sa sb
  obtain ⟨m3, G, C', k1, k2, k3, g2⟩ := mean_chain sb sa
  have hl : lineL 1 (meanR a - 1 * meanR a) = idL := line_one rfl (by grind)
  rw [hl] at m1
  refine ⟨equate0 a a m1, chain_of (equate0 a b m2) (equate0 b a m3) ?_⟩
  have h1 : (1 : Rat)⁻¹ = 1 := inv_one
  have ht : meanR a - 1 * meanR b = -((meanR b - 1 * meanR a) * 1⁻¹) := by rw [h1]; grind
  have := Compose_line (s := 1) (t := meanR b - 1 * meanR a) (by decide) e1 k1 (one_grid E) g1 (by rw [h1]; exact one_grid G) (by rw [← ht]; exact g2) e2 e2 e3 k2 k2 k3
  rw [← ht, h1] at this
  exact this
theorem linear_self {a b : List Int} (sa : Seven a) (sb : Seven b) (hda : devR a ≠ 0) : equating_Equate fuel 1 a a = some (idL.map enc, 0) ∧ (equating_Chain fuel a b b a 1 = some ([], 10) ∨ equating_Chain fuel a b b a 1 = some (idL.map enc, 0)) := by
  obtain ⟨m1, _⟩ := linear_chain sa sa hda hda
  have h1 : devR a / devR a = 1 := by rw [Rat.div_def]; exact Rat.mul_inv_cancel _ hda
  have hl : lineL (devR a / devR a) (meanR a - devR a / devR a * meanR a) = idL := line_one h1 (by rw [h1]; grind)
  rw [hl] at m1
  refine ⟨equate1 a a m1, ?_⟩
  by_cases hdb : devR b = 0
  · left
    have a0 : a.sum ≠ 0 := by have := sa.pos; omega
    have b0 : b.sum ≠ 0 := by have := sb.pos; omega
    unfold equating_Chain
    rw [equate1 a b (ELinear_no sa.few sb.few a0 b0 (.inr hdb))]
    rfl
  · right
    obtain ⟨m2, E, F, C, e1, e2, e3, e4, e5, e6, g1, g2⟩ := linear_chain sa sb hda hdb
    obtain ⟨m3, G, K, C', k1, k2, k3, k4, k5, k6, q1, q2⟩ := linear_chain sb sa hdb hda
    refine chain_of (equate1 a b m2) (equate1 b a m3) ?_
    have ht : meanR a - devR a / devR b * meanR b = -((meanR b - devR b / devR a * meanR a) * (devR b / devR a)⁻¹) := by
      have h2 : devR b / devR a * (devR b / devR a)⁻¹ = 1 := Rat.mul_inv_cancel _ (by grind)
      rw [e6] at h2 ⊢
      grind
    have := Compose_line e5 e1 k1 g1 g2 (by rw [e6]; exact q1) (by rw [← ht]; exact q2) e2 e3 e4 k2 k3 k4
    rw [← ht, e6] at this
    exact this
theorem perc_self2 {a b : List Int} (sa : Full a) (sb : Full b) : equating_Equate fuel 2 a a = some (idL.map enc, 0) ∧ equating_Chain fuel a b b a 2 = some (idL.map enc, 0) :=
  ⟨equate2 a a (perc_self sa), chain_of (equate2 a b (perc_curve sa sb).1) (equate2 b a (perc_curve sb sa).1) (perc_chain sa sb)⟩
theorem pure_EquatingSelf (t : List Int) (ht : ∀ x ∈ t, fitsI .i64 x) (hl : t.length * 8 ≤ 140737488351232) (kind : Int) (hkind : fitsI .u8 kind) : ∃ k, law34_EquatingSelf k t kind = some true := by
  refine ⟨fuel, Ok.eq ?_⟩
  unfold law34_EquatingSelf mark_Light mark_Roll
  refine ok_then () rfl ?_
  rw [u0_mk]
  refine ok_bif (fun hc => ok_then true sane34_ok (Ok.ret rfl)) fun hc => ?_
  refine ok_then () rfl ?_
  rw [u0_mk]
  have hx : t.length ≤ 600 := by simp only [Bool.not_eq_false', decide_eq_true_iff] at hc; omega
  refine Dist_then hx (Int.le_refl _) (by unfold fuel; omega) (by omega) (by omega) fun a j hMa hj => ?_
  refine Dist_then hx hj (by unfold fuel; omega) (by omega) (by omega) fun b j hMb hj => ?_
  have hk8 := fits8.1 hkind
  obtain ⟨r, hr⟩ : ∃ r, r = IntKind.wrap .i64 (Int.tmod kind 3) := ⟨_, rfl⟩
  have hr3 : r = 0 ∨ r = 1 ∨ r = 2 := by
    rw [Int.tmod_eq_emod_of_nonneg hk8.1, w64 (by omega) (by omega)] at hr
    omega
  rw [← hr]
  refine ok_then () rfl ?_
  rw [u0_mk]
  refine ok_then () rfl ?_
  rw [u0_mk]
  refine ok_then _ line_id ?_
  rw [uc_mk]
  by_cases hno : r = 1 ∧ devR a = 0
  · obtain ⟨rfl, hd⟩ := hno
    have sa := seven hMa
    have sb := seven hMb
    have a0 : a.sum ≠ 0 := by have := sa.pos; omega
    have b0 : b.sum ≠ 0 := by have := sb.pos; omega
    have e1 := equate1 a a (ELinear_no sa.few sa.few a0 a0 (.inl hd))
    have e2 : equating_Chain fuel a b b a 1 = some ([], 10) := by
      unfold equating_Chain
      rw [equate1 a b (ELinear_no sa.few sb.few a0 b0 (.inl hd))]
      rfl
    refine ok_then _ e1 ?_
    rw [uc_mk]
    refine ok_then _ e2 ?_
    rw [uc_mk]
    refine ok_then ((1 : Int), true) rfl ?_
    rw [uc_mk, cond_true]
    refine ok_let ?_
    exact Ok.bind (Q := fun b => b = true) (ok_then true sane34_ok (Ok.ret rfl)) fun b hb => Ok.ret hb
  · have key : equating_Equate fuel r a a = some (idL.map enc, 0) ∧ (equating_Chain fuel a b b a r = some ([], 10) ∨ equating_Chain fuel a b b a r = some (idL.map enc, 0)) := by
      rcases hr3 with h | h | h
      · rw [h]
        have := mean_self (seven hMa) (seven hMb)
        exact ⟨this.1, .inr this.2⟩
      · rw [h]
        exact linear_self (seven hMa) (seven hMb) fun hd => hno ⟨h, hd⟩
      · rw [h]
        have := perc_self2 (full hMa) (full hMb)
        exact ⟨this.1, .inr this.2⟩
    obtain ⟨e1, e2⟩ := key
    refine ok_then _ e1 ?_
    rw [uc_mk]
    have fin : ∀ (X : List SPoint) (n : Int), (n = 10 ∨ n = 0 ∧ X = idL.map enc) → equating_Chain fuel a b b a r = some (X, n) → Ok (Option.bind (equating_Chain fuel a b b a r) (uc fun r125 => fun r143 => Option.bind (bif ((0 : Int) != 0) then some (r, true) else some (r, ((0 : Int) == 10)) : Option (Int × Bool)) (uc fun k13 => fun x13 => bif x13 then blet ((k13 == 1) && ((0 : Int) == 0)) fun x16 => Option.bind (bif x16 then Option.bind (law34_sane fuel) (fun r117 => some r117) else some false : Option (Bool)) (fun x17 => some x17) else Option.bind (bif ((0 : Int) == 0) then Option.bind (conversion_Same fuel (idL.map enc) (idL.map enc)) (fun r1113 => some r1113) else some false : Option (Bool)) (fun x18 => Option.bind (bif x18 then Option.bind (bif (r143 == 10) then some true else Option.bind (bif (r143 == 0) then Option.bind (conversion_Same fuel r125 (idL.map enc)) (fun r1112 => some r1112) else some false : Option (Bool)) (fun x25 => some x25) : Option (Bool)) (fun x24 => some x24) else some false : Option (Bool)) (fun x21 => Option.bind (bif x21 then Option.bind (law34_sane fuel) (fun r126 => some r126) else some false : Option (Bool)) (fun x22 => some x22)))))) (fun x => x = true) := by
      intro X n hn e
      refine ok_then _ e ?_
      rw [uc_mk]
      refine ok_then (r, false) rfl ?_
      rw [uc_mk, cond_false]
      refine Ok.bind (Q := fun b => b = true) (ok_then true same_id (Ok.ret rfl)) fun b hb => ?_
      subst hb
      rw [cond_true]
      refine Ok.bind (Q := fun b => b = true) (Ok.bind (Q := fun b => b = true) ?_ fun b hb => Ok.ret hb) fun b hb => ?_
      · rcases hn with rfl | ⟨rfl, rfl⟩
        · exact Ok.ret rfl
        · exact Ok.bind (Q := fun b => b = true) (ok_then true same_id (Ok.ret rfl)) fun b hb => Ok.ret hb
      · subst hb
        rw [cond_true]
        exact Ok.bind (Q := fun b => b = true) (ok_then true sane34_ok (Ok.ret rfl)) fun b hb => Ok.ret hb
    rcases e2 with e2 | e2
    · exact fin _ _ (.inl rfl) e2
    · exact fin _ _ (.inr ⟨rfl, rfl⟩) e2
end Go.VM
