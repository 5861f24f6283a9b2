/- Curves: what the printed functions compute, as broken lines over the rational numbers. -/
import Derived.Test.YtdebnihlkdabpaaHPRatG
import Derived.Test.YtdebnihlkdabpaaPCurveA
namespace Go.VM
set_option linter.unusedVariables false
set_option linter.unusedSimpArgs false

def enc (p : Pt) : SPoint := ⟨p.X.num, p.X.den, p.Y.num, p.Y.den⟩
def SmP (L : List Pt) : Prop := ∀ p ∈ L, Sm p.X ∧ Sm p.Y
theorem right_ok {L : List Pt} (hA : Asc L) (hS : SmP L) (h2 : 2 ≤ L.length) (hl : L.length ≤ 400) : conversion_right fuel (L.map enc) = some true := by
  apply Ok.eq
  unfold conversion_right
  refine ok_sum (Q := fun (_ : Unit) => True) (R := fun (_ : Bool) => False) (ok_loop (fun (i : Int) => 0 ≤ i ∧ i ≤ L.length) (fun i => L.length - i.toNat) ⟨Int.le_refl _, by omega⟩ (by unfold fuel; omega) ?_) (fun _ _ => ?_) fun _ h => h.elim
  · intro again i hinv hag
    obtain ⟨g1, g2⟩ := hinv
    simp only [conversion_right_b1, List.length_map]
    refine ok_bif (fun hc => ?_) fun _ => Ok.ret trivial
    have hc' := of_decide_eq_true hc
    refine ok_idx g1 (by simpa using hc') fun hi => ?_
    have hi' : i.toNat < L.length := by omega
    have hs := hS _ (List.getElem_mem hi')
    simp only [List.getElem_map, enc]
    rw [rat_valid hs.1, rat_valid hs.2]
    simp only [Option.bind_some, Bool.not_true, cond_false]
    rw [w64 (x := i + 1) (by omega) (by omega), w64 (x := i - 1) (by omega) (by omega)]
    refine Ok.bind (Q := fun r => r = false) (Ok.bind (Q := fun r => r = false) (ok_bif (fun hp => ?_) fun _ => Ok.ret rfl) fun r hr => Ok.ret hr) fun r hr => ?_
    · have hp' := of_decide_eq_true hp
      refine ok_idx (by omega) (by simp; omega) fun hi2 => ?_
      have hi3 : (i - 1).toNat < L.length := by omega
      have hs3 := hS _ (List.getElem_mem hi3)
      have hlt := List.pairwise_iff_getElem.1 hA (i - 1).toNat i.toNat hi3 hi' (by omega)
      simp only [List.getElem_map, enc]
      rw [rat_less hs3.1 hs.1, rat_less hs3.2 hs.2, decide_eq_true hlt.1, decide_eq_true hlt.2]
      exact Ok.ret rfl
    · subst hr
      rw [cond_false]
      exact hag _ ⟨by omega, by omega⟩ (by omega)
  · rw [u0_mk, List.length_map]
    exact Ok.ret (decide_eq_true (by omega))
theorem CValid_ok {L : List Pt} (hA : Asc L) (hS : SmP L) (h2 : 2 ≤ L.length) (hl : L.length ≤ 400) : conversion_Valid fuel (L.map enc) = some true := by
  unfold conversion_Valid
  rw [List.length_map, decide_eq_true (show (L.length : Int) ≤ 410 by omega), cond_true, right_ok hA hS h2 hl]
  rfl
theorem shift1 : ((2 : Int) ^ (min (Int.toNat 1) (IntKind.bits .u64))) = 2 := by decide
/-- The search finds the piece. -/
theorem Search_ok {L : List Pt} (hA : Asc L) (hS : SmP L) (h2 : 2 ≤ L.length) (hl : L.length ≤ 400) {x : Rat} (hx : Sm x) :
    ∃ (i : Nat) (hi : i + 1 < L.length), sort_Search fuel ((L.length : Int) - 2) (L.map enc) x.num x.den = some (i : Int) ∧ (∀ (j : Nat) (hj : j + 1 < L.length), j < i → L[j + 1].X < x) ∧ (i + 2 < L.length → ¬ L[i + 1].X < x) := by
  have key : Ok (sort_Search fuel ((L.length : Int) - 2) (L.map enc) x.num x.den) (fun r => 0 ≤ r ∧ r ≤ (L.length : Int) - 2 ∧ (∀ (j : Nat) (hj : j + 1 < L.length), (j : Int) < r → L[j + 1].X < x) ∧ (∀ (j : Nat) (hj : j + 1 < L.length), r ≤ (j : Int) → (j : Int) < (L.length : Int) - 2 → ¬ L[j + 1].X < x)) := by
    unfold sort_Search
    refine Ok.bind (Q := fun r => 0 ≤ r ∧ r ≤ (L.length : Int) - 2 ∧ (∀ (j : Nat) (hj : j + 1 < L.length), (j : Int) < r → L[j + 1].X < x) ∧ (∀ (j : Nat) (hj : j + 1 < L.length), r ≤ (j : Int) → (j : Int) < (L.length : Int) - 2 → ¬ L[j + 1].X < x)) (ok_loop (fun s => 0 ≤ s.1 ∧ s.1 ≤ s.2 ∧ s.2 ≤ (L.length : Int) - 2 ∧ (∀ (j : Nat) (hj : j + 1 < L.length), (j : Int) < s.1 → L[j + 1].X < x) ∧ (∀ (j : Nat) (hj : j + 1 < L.length), s.2 ≤ (j : Int) → (j : Int) < (L.length : Int) - 2 → ¬ L[j + 1].X < x)) (fun s => (s.2 - s.1).toNat) ⟨Int.le_refl _, by dsimp only; omega, Int.le_refl _, fun j hj h => by dsimp only at h; omega, fun j hj h h3 => by dsimp only at h; omega⟩ (by dsimp only [fuel]; omega) ?_) fun r hr => Ok.ret hr
    intro again s hs hag
    obtain ⟨i, j⟩ := s
    obtain ⟨g1, g2, g3, g4, g5⟩ := hs
    simp only at g1 g2 g3 g4 g5
    simp only [sort_Search_b1, uc_mk, shift1]
    refine ok_bif (fun hc => ?_) fun hc => ?_
    · have hc' := of_decide_eq_true hc
      rw [w64 (x := i + j) (by omega) (by omega), wu64 (x := i + j) (by omega) (by omega), Int.fdiv_eq_ediv_of_nonneg _ (by omega), w64 (x := (i + j) / 2) (by omega) (by omega), w64 (x := (i + j) / 2 + 1) (by omega) (by omega)]
      obtain ⟨m, hm⟩ : ∃ m, m = (i + j) / 2 := ⟨_, rfl⟩
      rw [← hm]
      have hm2 : i ≤ m ∧ m < j := by omega
      clear hm
      refine Ok.bind (Q := fun r => r = !(decide ((L[m.toNat + 1]'(by omega)).X < x))) ?_ fun r hr => ?_
      · unfold conversion_calc_eval_1
        rw [w64 (x := m + 1) (by omega) (by omega)]
        refine ok_idx (by omega) (by simp; omega) fun hi => ?_
        have e1 : (m + 1).toNat = m.toNat + 1 := by omega
        have hi' : m.toNat + 1 < L.length := by omega
        have hs := hS _ (List.getElem_mem hi')
        simp only [List.getElem_map, enc, e1]
        rw [rat_less hs.1 hx]
        exact Ok.ret rfl
      · subst hr
        have hmono : ∀ (a b : Nat) (ha : a < L.length) (hb : b < L.length), a ≤ b → L[a].X ≤ L[b].X := fun a b ha hb hab => by
          rcases Nat.lt_or_ge a b with h | h
          · exact Rat.le_of_lt (List.pairwise_iff_getElem.1 hA a b ha hb h).1
          · have : a = b := by omega
            subst this
            exact Rat.le_refl
        rw [Bool.not_not]
        refine ok_bif (fun hd => hag _ ⟨by dsimp only; omega, by dsimp only; omega, g3, fun t ht h => ?_, g5⟩ (by dsimp only; omega)) fun hd => hag _ ⟨g1, by dsimp only; omega, by dsimp only; omega, g4, fun t ht h h3 => ?_⟩ (by dsimp only; omega)
        · dsimp only at h
          have hd' := of_decide_eq_true hd
          have := hmono (t + 1) (m.toNat + 1) ht (by omega) (by omega)
          grind
        · dsimp only at h
          have hd' := of_decide_eq_false hd
          have := hmono (m.toNat + 1) (t + 1) (by omega) ht (by omega)
          grind
    · have hc' := of_decide_eq_false hc
      have e : i = j := by omega
      subst e
      exact Ok.ret ⟨g1, g3, g4, g5⟩
  obtain ⟨r, hr, h1, h2', h3, h4⟩ := key
  refine ⟨r.toNat, by omega, by rw [hr]; congr 1; omega, fun j hj h => h3 j hj (by omega), fun h => h4 r.toNat (by omega) (by omega) (by omega)⟩

/-! ### the computations -/
theorem do_ok (a b : Int) : conversion_calc_do fuel a b 0 0 = some 0 := rfl
theorem csub_ok {x y : Rat} (h : Ad x (-y)) : conversion_calc_sub fuel x.num x.den y.num y.den 0 = some ((x - y).num, ((x - y).den : Int), 0) := by
  unfold conversion_calc_sub
  rw [rat_sub h, Option.bind_some]
  rfl
theorem cadd_ok {x y : Rat} (h : Ad x y) : conversion_calc_add fuel x.num x.den y.num y.den 0 = some ((x + y).num, ((x + y).den : Int), 0) := by
  unfold conversion_calc_add
  rw [rat_add h, Option.bind_some]
  rfl
theorem cmul_ok {x y : Rat} (h : Mu x y) : conversion_calc_mul fuel x.num x.den y.num y.den 0 = some ((x * y).num, ((x * y).den : Int), 0) := by
  unfold conversion_calc_mul
  rw [rat_mul h, Option.bind_some]
  rfl
theorem cdiv_ok {x y : Rat} (h : Di x y) : conversion_calc_div fuel x.num x.den y.num y.den 0 = some ((x / y).num, ((x / y).den : Int), 0) := by
  unfold conversion_calc_div
  rw [rat_div h, Option.bind_some]
  rfl
/-- All that is computed of the pieces fits. -/
def Fine (L : List Pt) : Prop := SmP L ∧ ∀ (i : Nat) (hi : i + 1 < L.length), Ad L[i + 1].Y (-L[i].Y) ∧ Ad L[i + 1].X (-L[i].X) ∧ Di (L[i + 1].Y - L[i].Y) (L[i + 1].X - L[i].X)
/-- All that is computed of a value fits. -/
def FineAt (L : List Pt) (x : Rat) : Prop := Sm x ∧ ∀ (i : Nat) (hi : i + 1 < L.length), Ad x (-L[i].X) ∧ Mu (x - L[i].X) (slope L[i] L[i + 1]) ∧ Ad L[i].Y ((x - L[i].X) * slope L[i] L[i + 1])
theorem slope_ok {L : List Pt} (hA : Asc L) (hF : Fine L) (hl : L.length ≤ 400) {i : Nat} (hi : i + 1 < L.length) : conversion_calc_slope fuel (L.map enc) ((i : Int) + 1) 0 = some ((slope L[i] L[i + 1]).num, ((slope L[i] L[i + 1]).den : Int), 0) := by
  apply Ok.eq
  unfold conversion_calc_slope
  rw [w64 (x := (i : Int) + 1 - 1) (by omega) (by omega)]
  refine ok_idx (by omega) (by simp; omega) fun h1 => ok_idx (by omega) (by simp; omega) fun h2 => ?_
  have e1 : ((i : Int) + 1).toNat = i + 1 := by omega
  have e2 : ((i : Int) + 1 - 1).toNat = i := by omega
  have f := hF.2 i hi
  simp only [List.getElem_map, enc, e1, e2]
  rw [csub_ok f.1]
  simp only [Option.bind_some, uc_mk]
  rw [csub_ok f.2.1]
  simp only [Option.bind_some, uc_mk]
  rw [cdiv_ok f.2.2]
  exact Ok.ret rfl
theorem eval_ok {L : List Pt} (hA : Asc L) (hF : Fine L) (h2 : 2 ≤ L.length) (hl : L.length ≤ 400) {x : Rat} (hx : FineAt L x) : conversion_calc_eval fuel (L.map enc) x.num x.den 0 = some ((evalL L x).num, ((evalL L x).den : Int), 0) := by
  obtain ⟨i, hi, e, h3, h4⟩ := Search_ok hA hF.1 h2 hl hx.1
  apply Ok.eq
  unfold conversion_calc_eval
  rw [List.length_map, w64 (x := (L.length : Int) - 2) (by omega) (by omega), e, Option.bind_some, w64 (x := 1 + (i : Int)) (by omega) (by omega), w64 (x := 1 + (i : Int) - 1) (by omega) (by omega), show 1 + (i : Int) = (i : Int) + 1 by omega, show (i : Int) + 1 - 1 = i by omega]
  refine ok_idx (by omega) (by simp; omega) fun hi2 => ?_
  have g := hx.2 i hi
  simp only [List.getElem_map, enc, Int.toNat_natCast]
  rw [csub_ok g.1]
  simp only [Option.bind_some, uc_mk]
  rw [slope_ok hA hF hl hi]
  simp only [Option.bind_some, uc_mk]
  rw [cmul_ok g.2.1]
  simp only [Option.bind_some, uc_mk]
  rw [cadd_ok g.2.2]
  simp only [Option.bind_some, uc_mk]
  rw [evalL_index L i x hi h3 h4]
  exact Ok.ret rfl
theorem normal_ok {L : List Pt} (hA : Asc L) (hF : Fine L) (h2 : 2 ≤ L.length) (hl : L.length ≤ 400) (hone : ∀ p ∈ L, Ad p.X (-1) ∧ Ad p.X 1) (hends : ∀ p q R, L = p :: q :: R → FineAt L (fromX (bendsL (slope p q) (q :: R))) ∧ FineAt L (toX (bendsL (slope p q) (q :: R)))) :
    conversion_calc_normal fuel (L.map enc) 0 = some ((normalL L).map enc, 0) := by
  match L, h2 with
  | p :: q :: R, _ =>
    obtain ⟨hf, ht⟩ := hends p q R rfl
    obtain ⟨L, hL⟩ : ∃ L, L = p :: q :: R := ⟨_, rfl⟩
    have hlen : 2 ≤ L.length := by rw [hL]; simp
    have hL0 : L[0] = p := by simp [hL]
    have hL1 : L[1] = q := by simp [hL]
    have htl : L.drop 1 = q :: R := by simp [hL]
    have hN : normalL (p :: q :: R) = ⟨fromX (bendsL (slope p q) (q :: R)), evalL L (fromX (bendsL (slope p q) (q :: R)))⟩ :: (bendsL (slope p q) (q :: R) ++ [⟨toX (bendsL (slope p q) (q :: R)), evalL L (toX (bendsL (slope p q) (q :: R)))⟩]) := by rw [hL]; rfl
    rw [hN]
    rw [← hL] at hA hF hl hf ht hone ⊢
    obtain ⟨B, hB⟩ : ∃ B, B = bendsL (slope p q) (q :: R) := ⟨_, rfl⟩
    have hsub : B.Sublist L := by rw [hB, hL]; exact (bendsL_sub _ _).cons p
    rw [← hB] at hf ht ⊢
    have hBl : B.length ≤ 400 := by have := hsub.length_le; omega
    apply Ok.eq
    unfold conversion_calc_normal
    have hs1 := slope_ok hA hF hl (i := 0) (by omega)
    simp only [Nat.zero_add, hL0, hL1] at hs1
    rw [show ((0 : Nat) : Int) + 1 = 1 from rfl] at hs1
    rw [hs1]
    simp only [Option.bind_some, uc_mk]
    refine Ok.bind (Q := fun r => r = (0, B.map enc)) (ok_loop (fun s => ∃ (z : Rat) (C : List Pt), s.2.1 = 0 ∧ s.2.2.1 = C.map enc ∧ s.2.2.2.1 = z.num ∧ s.2.2.2.2 = z.den ∧ 2 ≤ s.1 ∧ s.1 ≤ L.length ∧ C ++ bendsL z (L.drop (s.1 - 1).toNat) = B) (fun s => L.length - s.1.toNat) ⟨slope p q, [], rfl, rfl, rfl, rfl, Int.le_refl _, by dsimp only; omega, ?_⟩ (by dsimp only [fuel]; omega) ?_) fun r hr => ?_
    · dsimp only
      rw [show ((2 : Int) - 1).toNat = 1 from rfl, htl, List.nil_append, hB]
    · intro again s hs hag
      obtain ⟨i, x, xs, u, v⟩ := s
      obtain ⟨z, C, g1, g2, g3, g4, g5, g6, g7⟩ := hs
      simp only at g1 g2 g3 g4 g5 g6 g7
      subst g1 g2 g3 g4
      have hCl : C.length ≤ 400 := by have := congrArg List.length g7; simp at this; omega
      simp only [conversion_calc_normal_b1, uc_mk, List.length_map, blet_mk, beq_self_eq_true, Bool.and_true]
      refine ok_bif (fun hc => ?_) fun hc => ?_
      · have hc' := of_decide_eq_true hc
        have hi : (i - 1).toNat + 1 < L.length := by omega
        have hsl := slope_ok hA hF hl hi
        rw [show (((i - 1).toNat : Nat) : Int) + 1 = i by omega] at hsl
        rw [hsl]
        simp only [Option.bind_some, uc_mk, Bool.and_true]
        rw [w64 (x := i - 1) (by omega) (by omega), w64 (x := i + 1) (by omega) (by omega)]
        have hdrop : L.drop (i - 1).toNat = L[(i - 1).toNat] :: L[(i - 1).toNat + 1] :: L.drop ((i - 1).toNat + 1 + 1) := by
          rw [List.drop_eq_getElem_cons (by omega), List.drop_eq_getElem_cons (by omega)]
        have hdrop2 : L.drop (i + 1 - 1).toNat = L[(i - 1).toNat + 1] :: L.drop ((i - 1).toNat + 1 + 1) := by
          rw [show (i + 1 - 1).toNat = (i - 1).toNat + 1 by omega, List.drop_eq_getElem_cons (by omega)]
        have hbeq : ((slope L[(i - 1).toNat] L[(i - 1).toNat + 1]).num == z.num && ((slope L[(i - 1).toNat] L[(i - 1).toNat + 1]).den : Int) == (z.den : Int)) = decide (slope L[(i - 1).toNat] L[(i - 1).toNat + 1] = z) := by
          rw [beq_int, beq_int]
          by_cases he : slope L[(i - 1).toNat] L[(i - 1).toNat + 1] = z
          · rw [he]; simp
          · rw [decide_eq_false he, Bool.and_eq_false_iff, decide_eq_false_iff_not, decide_eq_false_iff_not]
            by_cases hn : (slope L[(i - 1).toNat] L[(i - 1).toNat + 1]).num = z.num
            · right
              intro hd
              exact he (Rat.ext hn (by omega))
            · left; exact hn
        rw [hdrop] at g7
        simp only [bendsL] at g7
        refine Ok.bind (Q := fun r => ∃ (z' : Rat) (C' : List Pt), r = (0, C'.map enc, z'.num, (z'.den : Int)) ∧ C' ++ bendsL z' (L.drop (i + 1 - 1).toNat) = B) (ok_bif (fun hd => ?_) fun hd => Ok.ret ⟨z, C, rfl, ?_⟩) fun r hr => ?_
        · rw [hbeq] at hd
          have hd' : ¬ slope L[(i - 1).toNat] L[(i - 1).toNat + 1] = z := by simpa using hd
          refine ok_idx (by omega) (by simp; omega) fun hi2 => ok_cap (by simp; omega) (Ok.ret ⟨slope L[(i - 1).toNat] L[(i - 1).toNat + 1], C ++ [L[(i - 1).toNat]], ?_, ?_⟩)
          · simp
          · rw [if_neg hd'] at g7
            rw [hdrop2, List.append_assoc]
            exact g7
        · rw [hbeq] at hd
          have hd' : slope L[(i - 1).toNat] L[(i - 1).toNat + 1] = z := by simpa using hd
          rw [if_pos hd'] at g7
          rw [hdrop2]
          exact g7
        · obtain ⟨z', C', rfl, h⟩ := hr
          exact hag _ ⟨z', C', rfl, rfl, rfl, rfl, by dsimp only; omega, by dsimp only; omega, h⟩ (by dsimp only; omega)
      · have hc' := of_decide_eq_false hc
        have hd : L.drop (i - 1).toNat = [L[(i - 1).toNat]'(by omega)] := by
          rw [List.drop_eq_getElem_cons (by omega), List.drop_of_length_le (by omega)]
        rw [hd] at g7
        simp only [bendsL, List.append_nil] at g7
        exact Ok.ret (by rw [g7])
    · subst hr
      simp only [uc_mk, bne_self_eq_false, cond_false, conversion_whole, Option.bind_some, u0_mk, List.length_map]
      refine Ok.bind (Q := fun r => r = (0, (fromX B).num, ((fromX B).den : Int), (toX B).num, ((toX B).den : Int))) (ok_bif (fun hc => ?_) fun hc => Ok.ret ?_) fun r hr => ?_
      · have hc' := of_decide_eq_true hc
        rw [w64 (x := (B.length : Int) - 1) (by omega) (by omega)]
        refine ok_idx (by omega) (by simp; omega) fun h0 => ok_idx (by omega) (by simp; omega) fun h1 => ?_
        have b0 : 0 < B.length := by omega
        have b1 : ((B.length : Int) - 1).toNat < B.length := by omega
        have s0 := hone _ (hsub.subset (List.getElem_mem b0))
        have s1 := hone _ (hsub.subset (List.getElem_mem b1))
        simp only [List.getElem_map, enc, show Int.toNat 0 = 0 from rfl]
        have e1 := csub_ok s0.1
        have e2 := cadd_ok s1.2
        simp only [Rat.one_num, Rat.one_den] at e1 e2
        rw [show ((1 : Nat) : Int) = 1 from rfl] at e1 e2
        rw [e1]
        simp only [Option.bind_some, uc_mk]
        rw [e2]
        simp only [Option.bind_some, uc_mk]
        refine Ok.ret ?_
        have f1 : fromX B = B[0].X - 1 := by
          cases B with
          | nil => simp at b0
          | cons b B => rfl
        have f2 : toX B = (B[((B.length : Int) - 1).toNat]).X + 1 := by
          unfold toX
          rw [List.getLast?_eq_getElem?, List.getElem?_eq_getElem (by omega)]
          simp only
          congr 3
          omega
        rw [f1, f2]
      · have hc' := of_decide_eq_false hc
        have : B = [] := List.eq_nil_of_length_eq_zero (by omega)
        rw [this]
        rfl
      · subst hr
        simp only [uc_mk, bne_self_eq_false, cond_false]
        rw [eval_ok hA hF hlen hl hf]
        simp only [Option.bind_some, uc_mk]
        refine ok_cap (by simp; omega) ?_
        rw [eval_ok hA hF hlen hl ht]
        simp only [Option.bind_some, uc_mk]
        refine ok_cap (by simp; omega) (Ok.ret ?_)
        simp [enc]
end Go.VM
