/- Curves: what the printed functions compute, as broken lines over the rational numbers. -/
import Derived.Test.YtdebnihlkdabpaaEquatingSelfEngTM
import Derived.Test.YtdebnihlkdabpaaEngYM
set_option linter.unusedVariables false
set_option linter.unusedSimpArgs false
namespace Go.VM

def enc (p : Pt) : SPoint := ⟨p.X.num, p.X.den, p.Y.num, p.Y.den⟩
def SmP (L : List Pt) : Prop := ∀ p ∈ L, Sm p.X ∧ Sm p.Y
theorem right_ok {L : List Pt} (hA : Asc L) (hS : SmP L) (h2 : 2 ≤ L.length) (hl : L.length ≤ 400) : conversion_right fuel (L.map enc) = some true := by
  apply Ok.eq
  unfold conversion_right
  refine ok_sum (Q := fun (_ : Unit) => True) (R := fun (_ : Bool) => False) (ok_loop (fun (i : Int) => 0 ≤ i ∧ i ≤ L.length) (fun i => L.length - i.toNat) ⟨Int.le_refl _, by omega⟩ (by unfold fuel; omega) ?_) (fun _ _ => ?_) fun _ h => h.elim
  · intro again i hinv hag
    obtain ⟨g1, g2⟩ := hinv
    simp only [conversion_right_b1, List.length_map]
    refine ok_bif (fun hc => ?_) fun _ => Ok.ret trivial
    have hc' := of_decide_eq_true hc
    refine ok_idx g1 (by simpa using hc') fun hi => ?_
    have hi' : i.toNat < L.length := by omega
    have hs := hS _ (List.getElem_mem hi')
    simp only [List.getElem_map, enc]
    rw [rat_valid hs.1, rat_valid hs.2]
    simp only [Option.bind_some, Bool.not_true, cond_false]
    rw [w64 (x := i + 1) (by omega) (by omega), w64 (x := i - 1) (by omega) (by omega)]
    refine Ok.bind (Q := fun r => r = false) (Ok.bind (Q := fun r => r = false) (ok_bif (fun hp => ?_) fun _ => Ok.ret rfl) fun r hr => Ok.ret hr) fun r hr => ?_
    · have hp' := of_decide_eq_true hp
      refine ok_idx (by omega) (by simp; omega) fun hi2 => ?_
      have hi3 : (i - 1).toNat < L.length := by omega
      have hs3 := hS _ (List.getElem_mem hi3)
      have hlt := List.pairwise_iff_getElem.1 hA (i - 1).toNat i.toNat hi3 hi' (by omega)
      simp only [List.getElem_map, enc]
      rw [rat_less hs3.1 hs.1, rat_less hs3.2 hs.2, decide_eq_true hlt.1, decide_eq_true hlt.2]
      exact Ok.ret rfl
    · subst hr
      rw [cond_false]
      exact hag _ ⟨by omega, by omega⟩ (by omega)
  · rw [u0_mk, List.length_map]
    exact Ok.ret (decide_eq_true (by omega))
theorem CValid_ok {L : List Pt} (hA : Asc L) (hS : SmP L) (h2 : 2 ≤ L.length) (hl : L.length ≤ 400) : conversion_Valid fuel (L.map enc) = some true := by
  unfold conversion_Valid
  rw [List.length_map, decide_eq_true (show (L.length : Int) ≤ 410 by omega), cond_true, right_ok hA hS h2 hl]
  rfl
theorem shift1 : ((2 : Int) ^ (min (Int.toNat 1) (IntKind.bits .u64))) = 2 := by decide
/-- The search finds the piece. -/
theorem Search_ok {L : List Pt} (hA : Asc L) (hS : SmP L) (h2 : 2 ≤ L.length) (hl : L.length ≤ 400) {x : Rat} (hx : Sm x) :
    ∃ (i : Nat) (hi : i + 1 < L.length), sort_Search fuel ((L.length : Int) - 2) (L.map enc) x.num x.den = some (i : Int) ∧ (∀ (j : Nat) (hj : j + 1 < L.length), j < i → L[j + 1].X < x) ∧ (i + 2 < L.length → ¬ L[i + 1].X < x) := by
  have key : Ok (sort_Search fuel ((L.length : Int) - 2) (L.map enc) x.num x.den) (fun r => 0 ≤ r ∧ r ≤ (L.length : Int) - 2 ∧ (∀ (j : Nat) (hj : j + 1 < L.length), (j : Int) < r → L[j + 1].X < x) ∧ (∀ (j : Nat) (hj : j + 1 < L.length), r ≤ (j : Int) → (j : Int) < (L.length : Int) - 2 → ¬ L[j + 1].X < x)) := by
    unfold sort_Search
    refine Ok.bind (Q := fun r => 0 ≤ r ∧ r ≤ (L.length : Int) - 2 ∧ (∀ (j : Nat) (hj : j + 1 < L.length), (j : Int) < r → L[j + 1].X < x) ∧ (∀ (j : Nat) (hj : j + 1 < L.length), r ≤ (j : Int) → (j : Int) < (L.length : Int) - 2 → ¬ L[j + 1].X < x)) (ok_loop (fun s => 0 ≤ s.1 ∧ s.1 ≤ s.2 ∧ s.2 ≤ (L.length : Int) - 2 ∧ (∀ (j : Nat) (hj : j + 1 < L.length), (j : Int) < s.1 → L[j + 1].X < x) ∧ (∀ (j : Nat) (hj : j + 1 < L.length), s.2 ≤ (j : Int) → (j : Int) < (L.length : Int) - 2 → ¬ L[j + 1].X < x)) (fun s => (s.2 - s.1).toNat) ⟨Int.le_refl _, by dsimp only; omega, Int.le_refl _, fun j hj h => by dsimp only at h; omega, fun j hj h h3 => by dsimp only at h; omega⟩ (by dsimp only [fuel]; omega) ?_) fun r hr => Ok.ret hr
    intro again s hs hag
    obtain ⟨i, j⟩ := s
    obtain ⟨g1, g2, g3, g4, g5⟩ := hs
    simp only at g1 g2 g3 g4 g5
    simp only [sort_Search_b1, uc_mk, shift1]
    refine ok_bif (fun hc => ?_) fun hc => ?_
    · have hc' := of_decide_eq_true hc
      rw [w64 (x := i + j) (by omega) (by omega), wu64 (x := i + j) (by omega) (by omega), Int.fdiv_eq_ediv_of_nonneg _ (by omega), w64 (x := (i + j) / 2) (by omega) (by omega), w64 (x := (i + j) / 2 + 1) (by omega) (by omega)]
      obtain ⟨m, hm⟩ : ∃ m, m = (i + j) / 2 := ⟨_, rfl⟩
      rw [← hm]
      have hm2 : i ≤ m ∧ m < j := by omega
      clear hm
      refine Ok.bind (Q := fun r => r = !(decide ((L[m.toNat + 1]'(by omega)).X < x))) ?_ fun r hr => ?_
      · unfold conversion_calc_eval_1
        rw [w64 (x := m + 1) (by omega) (by omega)]
        refine ok_idx (by omega) (by simp; omega) fun hi => ?_
        have e1 : (m + 1).toNat = m.toNat + 1 := by omega
        have hi' : m.toNat + 1 < L.length := by omega
        have hs := hS _ (List.getElem_mem hi')
        simp only [List.getElem_map, enc, e1]
        rw [rat_less hs.1 hx]
        exact Ok.ret rfl
      · subst hr
        have hmono : ∀ (a b : Nat) (ha : a < L.length) (hb : b < L.length), a ≤ b → L[a].X ≤ L[b].X := fun a b ha hb hab => by
          rcases Nat.lt_or_ge a b with h | h
          · exact Rat.le_of_lt (List.pairwise_iff_getElem.1 hA a b ha hb h).1
          · have : a = b := by omega
            subst this
            exact Rat.le_refl
        rw [Bool.not_not]
        refine ok_bif (fun hd => hag _ ⟨by dsimp only; omega, by dsimp only; omega, g3, fun t ht h => ?_, g5⟩ (by dsimp only; omega)) fun hd => hag _ ⟨g1, by dsimp only; omega, by dsimp only; omega, g4, fun t ht h h3 => ?_⟩ (by dsimp only; omega)
        · dsimp only at h
          have hd' := of_decide_eq_true hd
          have := hmono (t + 1) (m.toNat + 1) ht (by omega) (by omega)
          grind
        · dsimp only at h
          have hd' := of_decide_eq_false hd
          have := hmono (m.toNat + 1) (t + 1) (by omega) ht (by omega)
          grind
    · have hc' := of_decide_eq_false hc
      have e : i = j := by omega
      subst e
      exact Ok.ret ⟨g1, g3, g4, g5⟩
  obtain ⟨r, hr, h1, h2', h3, h4⟩ := key
  refine ⟨r.toNat, by omega, by rw [hr]; congr 1; omega, fun j hj h => h3 j hj (by omega), fun h => h4 r.toNat (by omega) (by omega) (by omega)⟩

/-! ### the computations -/
theorem do_ok (a b : Int) : conversion_calc_do fuel a b 0 0 = some 0 := rfl
theorem csub_ok {x y : Rat} (h : Ad x (-y)) : conversion_calc_sub fuel x.num x.den y.num y.den 0 = some ((x - y).num, ((x - y).den : Int), 0) := by
  unfold conversion_calc_sub
  rw [rat_sub h, Option.bind_some]
  rfl
theorem cadd_ok {x y : Rat} (h : Ad x y) : conversion_calc_add fuel x.num x.den y.num y.den 0 = some ((x + y).num, ((x + y).den : Int), 0) := by
  unfold conversion_calc_add
  rw [rat_add h, Option.bind_some]
  rfl
theorem cmul_ok {x y : Rat} (h : Mu x y) : conversion_calc_mul fuel x.num x.den y.num y.den 0 = some ((x * y).num, ((x * y).den : Int), 0) := by
  unfold conversion_calc_mul
  rw [rat_mul h, Option.bind_some]
  rfl
theorem cdiv_ok {x y : Rat} (h : Di x y) : conversion_calc_div fuel x.num x.den y.num y.den 0 = some ((x / y).num, ((x / y).den : Int), 0) := by
  unfold conversion_calc_div
  rw [rat_div h, Option.bind_some]
  rfl
/-- All that is computed of the pieces fits. -/
def Fine (L : List Pt) : Prop := SmP L ∧ ∀ (i : Nat) (hi : i + 1 < L.length), Ad L[i + 1].Y (-L[i].Y) ∧ Ad L[i + 1].X (-L[i].X) ∧ Di (L[i + 1].Y - L[i].Y) (L[i + 1].X - L[i].X)
/-- All that is computed of a value fits. -/
def FineAt (L : List Pt) (x : Rat) : Prop := Sm x ∧ ∀ (i : Nat) (hi : i + 1 < L.length), Ad x (-L[i].X) ∧ Mu (x - L[i].X) (slope L[i] L[i + 1]) ∧ Ad L[i].Y ((x - L[i].X) * slope L[i] L[i + 1])
theorem slope_ok {L : List Pt} (hA : Asc L) (hF : Fine L) (hl : L.length ≤ 400) {i : Nat} (hi : i + 1 < L.length) : conversion_calc_slope fuel (L.map enc) ((i : Int) + 1) 0 = some ((slope L[i] L[i + 1]).num, ((slope L[i] L[i + 1]).den : Int), 0) := by
  apply Ok.eq
  unfold conversion_calc_slope
  rw [w64 (x := (i : Int) + 1 - 1) (by omega) (by omega)]
  refine ok_idx (by omega) (by simp; omega) fun h1 => ok_idx (by omega) (by simp; omega) fun h2 => ?_
  have e1 : ((i : Int) + 1).toNat = i + 1 := by omega
  have e2 : ((i : Int) + 1 - 1).toNat = i := by omega
  have f := hF.2 i hi
  simp only [List.getElem_map, enc, e1, e2]
  rw [csub_ok f.1]
  simp only [Option.bind_some, uc_mk]
  rw [csub_ok f.2.1]
  simp only [Option.bind_some, uc_mk]
  rw [cdiv_ok f.2.2]
  exact Ok.ret rfl
theorem eval_ok {L : List Pt} (hA : Asc L) (hF : Fine L) (h2 : 2 ≤ L.length) (hl : L.length ≤ 400) {x : Rat} (hx : FineAt L x) : conversion_calc_eval fuel (L.map enc) x.num x.den 0 = some ((evalL L x).num, ((evalL L x).den : Int), 0) := by
  obtain ⟨i, hi, e, h3, h4⟩ := Search_ok hA hF.1 h2 hl hx.1
  apply Ok.eq
  unfold conversion_calc_eval
  rw [List.length_map, w64 (x := (L.length : Int) - 2) (by omega) (by omega), e, Option.bind_some, w64 (x := 1 + (i : Int)) (by omega) (by omega), w64 (x := 1 + (i : Int) - 1) (by omega) (by omega), show 1 + (i : Int) = (i : Int) + 1 by omega, show (i : Int) + 1 - 1 = i by omega]
  refine ok_idx (by omega) (by simp; omega) fun hi2 => ?_
  have g := hx.2 i hi
  simp only [List.getElem_map, enc, Int.toNat_natCast]
  rw [csub_ok g.1]
  simp only [Option.bind_some, uc_mk]
  rw [slope_ok hA hF hl hi]
  simp only [Option.bind_some, uc_mk]
  rw [cmul_ok g.2.1]
  simp only [Option.bind_some, uc_mk]
  rw [cadd_ok g.2.2]
  simp only [Option.bind_some, uc_mk]
  rw [evalL_index L i x hi h3 h4]
  exact Ok.ret rfl
theorem normal_ok {L : List Pt} (hA : Asc L) (hF : Fine L) (h2 : 2 ≤ L.length) (hl : L.length ≤ 400) (hone : ∀ p ∈ L, Ad p.X (-1) ∧ Ad p.X 1) (hends : ∀ p q R, L = p :: q :: R → FineAt L (fromX (bendsL (slope p q) (q :: R))) ∧ FineAt L (toX (bendsL (slope p q) (q :: R)))) :
    conversion_calc_normal fuel (L.map enc) 0 = some ((normalL L).map enc, 0) := by
  match L, h2 with
  | p :: q :: R, _ =>
    obtain ⟨hf, ht⟩ := hends p q R rfl
    obtain ⟨L, hL⟩ : ∃ L, L = p :: q :: R := ⟨_, rfl⟩
    have hlen : 2 ≤ L.length := by rw [hL]; simp
    have hL0 : L[0] = p := by simp [hL]
    have hL1 : L[1] = q := by simp [hL]
    have htl : L.drop 1 = q :: R := by simp [hL]
    have hN : normalL (p :: q :: R) = ⟨fromX (bendsL (slope p q) (q :: R)), evalL L (fromX (bendsL (slope p q) (q :: R)))⟩ :: (bendsL (slope p q) (q :: R) ++ [⟨toX (bendsL (slope p q) (q :: R)), evalL L (toX (bendsL (slope p q) (q :: R)))⟩]) := by rw [hL]; rfl
    rw [hN]
    rw [← hL] at hA hF hl hf ht hone ⊢
    obtain ⟨B, hB⟩ : ∃ B, B = bendsL (slope p q) (q :: R) := ⟨_, rfl⟩
    have hsub : B.Sublist L := by rw [hB, hL]; exact (bendsL_sub _ _).cons p
    rw [← hB] at hf ht ⊢
    have hBl : B.length ≤ 400 := by have := hsub.length_le; omega
    apply Ok.eq
    unfold conversion_calc_normal
    have hs1 := slope_ok hA hF hl (i := 0) (by omega)
    simp only [Nat.zero_add, hL0, hL1] at hs1
    rw [show ((0 : Nat) : Int) + 1 = 1 from rfl] at hs1
    rw [hs1]
    simp only [Option.bind_some, uc_mk]
    refine Ok.bind (Q := fun r => r = (0, B.map enc)) (ok_loop (fun s => ∃ (z : Rat) (C : List Pt), s.2.1 = 0 ∧ s.2.2.1 = C.map enc ∧ s.2.2.2.1 = z.num ∧ s.2.2.2.2 = z.den ∧ 2 ≤ s.1 ∧ s.1 ≤ L.length ∧ C ++ bendsL z (L.drop (s.1 - 1).toNat) = B) (fun s => L.length - s.1.toNat) ⟨slope p q, [], rfl, rfl, rfl, rfl, Int.le_refl _, by dsimp only; omega, ?_⟩ (by dsimp only [fuel]; omega) ?_) fun r hr => ?_
    · dsimp only
      rw [show ((2 : Int) - 1).toNat = 1 from rfl, htl, List.nil_append, hB]
    · intro again s hs hag
      obtain ⟨i, x, xs, u, v⟩ := s
      obtain ⟨z, C, g1, g2, g3, g4, g5, g6, g7⟩ := hs
      simp only at g1 g2 g3 g4 g5 g6 g7
      subst g1 g2 g3 g4
      have hCl : C.length ≤ 400 := by have := congrArg List.length g7; simp at this; omega
      simp only [conversion_calc_normal_b1, uc_mk, List.length_map, blet_mk, beq_self_eq_true, Bool.and_true]
      refine ok_bif (fun hc => ?_) fun hc => ?_
      · have hc' := of_decide_eq_true hc
        have hi : (i - 1).toNat + 1 < L.length := by omega
        have hsl := slope_ok hA hF hl hi
        rw [show (((i - 1).toNat : Nat) : Int) + 1 = i by omega] at hsl
        rw [hsl]
        simp only [Option.bind_some, uc_mk, Bool.and_true]
        rw [w64 (x := i - 1) (by omega) (by omega), w64 (x := i + 1) (by omega) (by omega)]
        have hdrop : L.drop (i - 1).toNat = L[(i - 1).toNat] :: L[(i - 1).toNat + 1] :: L.drop ((i - 1).toNat + 1 + 1) := by
          rw [List.drop_eq_getElem_cons (by omega), List.drop_eq_getElem_cons (by omega)]
        have hdrop2 : L.drop (i + 1 - 1).toNat = L[(i - 1).toNat + 1] :: L.drop ((i - 1).toNat + 1 + 1) := by
          rw [show (i + 1 - 1).toNat = (i - 1).toNat + 1 by omega, List.drop_eq_getElem_cons (by omega)]
        have hbeq : ((slope L[(i - 1).toNat] L[(i - 1).toNat + 1]).num == z.num && ((slope L[(i - 1).toNat] L[(i - 1).toNat + 1]).den : Int) == (z.den : Int)) = decide (slope L[(i - 1).toNat] L[(i - 1).toNat + 1] = z) := by
          rw [beq_int, beq_int]
          by_cases he : slope L[(i - 1).toNat] L[(i - 1).toNat + 1] = z
          · rw [he]; simp
          · rw [decide_eq_false he, Bool.and_eq_false_iff, decide_eq_false_iff_not, decide_eq_false_iff_not]
            by_cases hn : (slope L[(i - 1).toNat] L[(i - 1).toNat + 1]).num = z.num
            · right
              intro hd
              exact he (Rat.ext hn (by omega))
            · left; exact hn
        rw [hdrop] at g7
        simp only [bendsL] at g7
        refine Ok.bind (Q := fun r => ∃ (z' : Rat) (C' : List Pt), r = (0, C'.map enc, z'.num, (z'.den : Int)) ∧ C' ++ bendsL z' (L.drop (i + 1 - 1).toNat) = B) (ok_bif (fun hd => ?_) fun hd => Ok.ret ⟨z, C, rfl, ?_⟩) fun r hr => ?_
        · rw [hbeq] at hd
          have hd' : ¬ slope L[(i - 1).toNat] L[(i - 1).toNat + 1] = z := by simpa using hd
          refine ok_idx (by omega) (by simp; omega) fun hi2 => ok_cap (by simp; omega) (Ok.ret ⟨slope L[(i - 1).toNat] L[(i - 1).toNat + 1], C ++ [L[(i - 1).toNat]], ?_, ?_⟩)
          · simp
          · rw [if_neg hd'] at g7
            rw [hdrop2, List.append_assoc]
            exact g7
        · rw [hbeq] at hd
          have hd' : slope L[(i - 1).toNat] L[(i - 1).toNat + 1] = z := by simpa using hd
          rw [if_pos hd'] at g7
          rw [hdrop2]
          exact g7
        · obtain ⟨z', C', rfl, h⟩ := hr
          exact hag _ ⟨z', C', rfl, rfl, rfl, rfl, by dsimp only; omega, by dsimp only; omega, h⟩ (by dsimp only; omega)
      · have hc' := of_decide_eq_false hc
        have hd : L.drop (i - 1).toNat = [L[(i - 1).toNat]'(by omega)] := by
          rw [List.drop_eq_getElem_cons (by omega), List.drop_of_length_le (by omega)]
        rw [hd] at g7
        simp only [bendsL, List.append_nil] at g7
        exact Ok.ret (by rw [g7])
    · subst hr
      simp only [uc_mk, bne_self_eq_false, cond_false, conversion_whole, Option.bind_some, u0_mk, List.length_map]
      refine Ok.bind (Q := fun r => r = (0, (fromX B).num, ((fromX B).den : Int), (toX B).num, ((toX B).den : Int))) (ok_bif (fun hc => ?_) fun hc => Ok.ret ?_) fun r hr => ?_
      · have hc' := of_decide_eq_true hc
        rw [w64 (x := (B.length : Int) - 1) (by omega) (by omega)]
        refine ok_idx (by omega) (by simp; omega) fun h0 => ok_idx (by omega) (by simp; omega) fun h1 => ?_
        have b0 : 0 < B.length := by omega
        have b1 : ((B.length : Int) - 1).toNat < B.length := by omega
        have s0 := hone _ (hsub.subset (List.getElem_mem b0))
        have s1 := hone _ (hsub.subset (List.getElem_mem b1))
        simp only [List.getElem_map, enc, show Int.toNat 0 = 0 from rfl]
        have e1 := csub_ok s0.1
        have e2 := cadd_ok s1.2
        simp only [Rat.one_num, Rat.one_den] at e1 e2
        rw [show ((1 : Nat) : Int) = 1 from rfl] at e1 e2
        rw [e1]
        simp only [Option.bind_some, uc_mk]
        rw [e2]
        simp only [Option.bind_some, uc_mk]
        refine Ok.ret ?_
        have f1 : fromX B = B[0].X - 1 := by
          cases B with
          | nil => simp at b0
          | cons b B => rfl
        have f2 : toX B = (B[((B.length : Int) - 1).toNat]).X + 1 := by
          unfold toX
          rw [List.getLast?_eq_getElem?, List.getElem?_eq_getElem (by omega)]
          simp only
          congr 3
          omega
        rw [f1, f2]
      · have hc' := of_decide_eq_false hc
        have : B = [] := List.eq_nil_of_length_eq_zero (by omega)
        rw [this]
        rfl
      · subst hr
        simp only [uc_mk, bne_self_eq_false, cond_false]
        rw [eval_ok hA hF hlen hl hf]
        simp only [Option.bind_some, uc_mk]
        refine ok_cap (by simp; omega) ?_
        rw [eval_ok hA hF hlen hl ht]
        simp only [Option.bind_some, uc_mk]
        refine ok_cap (by simp; omega) (Ok.ret ?_)
        simp [enc]
end Go.VM
namespace Go.VM

/-- The grids are coarse enough for the computations. -/
structure Coarse (D E B C F B' : Nat) : Prop where
  d : D ≠ 0
  e : E ≠ 0
  de : D * E ≤ 1152921504606846976
  cd : (C + C) * D ≤ 1152921504606846976
  db : D * E * (B + B) ≤ 1152921504606846976
  m : (B' + B) * F ≤ 576460752303423488
  c : C + C ≤ 576460752303423488
  b : B' + B + B ≤ 576460752303423488
  f : F ≤ 576460752303423488
  one : D ≤ 576460752303423488
theorem Coarse.sizes {D E B C F B' : Nat} (h : Coarse D E B C F B') : D ≤ 1152921504606846976 ∧ E ≤ 1152921504606846976 ∧ D * E ≠ 0 := by
  have h1 := h.de
  have hd := h.d
  have he := h.e
  have a1 : D * 1 ≤ D * E := Nat.mul_le_mul_left D (by omega)
  have a2 : 1 * E ≤ D * E := Nat.mul_le_mul_right E (by omega)
  exact ⟨by omega, by omega, Nat.mul_ne_zero hd he⟩
theorem OnGrid.fine {D E B C F B' : Nat} {L : List Pt} (h : OnGrid D E B C F L) (hc : Coarse D E B C F B') : Fine L := by
  have hs := hc.sizes
  have c1 := hc.c
  have b1 := hc.b
  refine ⟨fun p hp => ⟨grid_sm (h.xs p hp) hc.d hs.1 (by omega), grid_sm (h.ys p hp) hs.2.2 hc.de (by omega)⟩, fun i hi => ⟨?_, ?_, ?_⟩⟩
  · exact Ad.of (h.ys _ (List.getElem_mem _)) (grid_neg (h.ys _ (List.getElem_mem _))) hs.2.2 hc.de (by omega) (by omega)
  · exact Ad.of (h.xs _ (List.getElem_mem _)) (grid_neg (h.xs _ (List.getElem_mem _))) hc.d hs.1 (by omega) (by omega)
  · have hlt := List.pairwise_iff_getElem.1 h.asc i (i + 1) (by omega) hi (by omega)
    exact Di.of ((h.ys _ (List.getElem_mem _)).sub (h.ys _ (List.getElem_mem _))) ((h.xs _ (List.getElem_mem _)).sub (h.xs _ (List.getElem_mem _))) hs.2.2 hc.d (by have := hlt.1; grind) hc.cd hc.db (by omega) (by omega) hc.de hs.1
theorem OnGrid.at {D E B C F B' : Nat} {L : List Pt} (h : OnGrid D E B C F L) (hc : Coarse D E B C F B') {x : Rat} (hx : Grid D B' x) : FineAt L x := by
  have hs := hc.sizes
  have b1 := hc.b
  have c1 := hc.c
  have f1 := hc.f
  have m1 := hc.m
  refine ⟨grid_sm hx hc.d hs.1 (by omega), fun i hi => ⟨?_, ?_, ?_⟩⟩
  · exact Ad.of hx (grid_neg (h.xs _ (List.getElem_mem _))) hc.d hs.1 (by omega) (by omega)
  · exact Mu.of (hx.sub (h.xs _ (List.getElem_mem _))) (h.ss.get i hi) hc.d hc.e hc.de (by omega) (by omega) (by omega)
  · exact Ad.of (h.ys _ (List.getElem_mem _)) ((hx.sub (h.xs _ (List.getElem_mem _))).mul (h.ss.get i hi)) hs.2.2 hc.de (by omega) hc.m
theorem CEval_ok {D E B C F B' : Nat} {L : List Pt} (h : OnGrid D E B C F L) (hc : Coarse D E B C F B') (hl : L.length ≤ 400) {x : Rat} (hx : Grid D B' x) : conversion_Eval fuel (L.map enc) x.num x.den = some ((evalL L x).num, ((evalL L x).den : Int), 0) := by
  have hs := hc.sizes
  have b1 := hc.b
  unfold conversion_Eval
  rw [CValid_ok h.asc (h.fine hc).1 h.two hl, rat_valid (grid_sm hx hc.d hs.1 (by omega)), eval_ok h.asc (h.fine hc) h.two hl (h.at hc hx)]
  rfl
theorem normal_len (L : List Pt) : (normalL L).length ≤ L.length + 1 := by
  match L with
  | [] => simp [normalL]
  | [_] => simp [normalL]
  | p :: q :: R =>
    have := (bendsL_sub (slope p q) (q :: R)).length_le
    simp only [normalL, List.length_cons, List.length_append, List.length_nil] at this ⊢
    omega
theorem formed_ok {D E B C F B' : Nat} {L : List Pt} (h : OnGrid D E B C F L) (hc : Coarse D E B C F B') (hB : B + D ≤ B') (hl : L.length ≤ 400) : conversion_formed fuel (L.map enc) = some ((normalL L).map enc, 0) := by
  unfold conversion_formed
  have hone1 : Grid D D 1 := ⟨D, by rw [Rat.one_mul, Rat.intCast_natCast], by omega⟩
  have bb := hc.b
  rw [normal_ok h.asc (h.fine hc) h.two hl (fun p hp => ⟨Ad.of (h.xs p hp) (grid_neg hone1) hc.d hc.sizes.1 (by omega) hc.one, Ad.of (h.xs p hp) hone1 hc.d hc.sizes.1 (by omega) hc.one⟩) ?_]
  · have := normal_len L
    simp only [Option.bind_some, uc_mk, bne_self_eq_false, cond_false, List.length_map]
    rw [show decide (((normalL L).length : Int) > 410) = false from decide_eq_false (by omega), cond_false]
  · intro p q R e
    have hone : Grid D D 1 := ⟨D, by rw [Rat.one_mul, Rat.intCast_natCast], by omega⟩
    have hzero : Grid D 0 0 := ⟨0, by rw [Rat.zero_mul]; rfl, by omega⟩
    have hsub : (bendsL (slope p q) (q :: R)).Sublist L := by rw [e]; exact (bendsL_sub _ _).cons p
    generalize bendsL (slope p q) (q :: R) = Bs at *
    constructor
    · refine h.at hc ?_
      cases Bs with
      | nil => exact hzero.le (by omega)
      | cons b Bs => exact ((h.xs b (hsub.subset (by simp))).sub hone).le hB
    · refine h.at hc ?_
      unfold toX
      cases hl : Bs.getLast? with
      | none => exact hone.le (by omega)
      | some b => exact ((h.xs b (hsub.subset (List.mem_of_getLast? hl))).add hone).le hB
theorem CNormal_ok {D E B C F B' : Nat} {L : List Pt} (h : OnGrid D E B C F L) (hc : Coarse D E B C F B') (hB : B + D ≤ B') (hl : L.length ≤ 400) : conversion_Normal fuel (L.map enc) = some ((normalL L).map enc, 0) := by
  unfold conversion_Normal
  rw [CValid_ok h.asc (h.fine hc).1 h.two hl, formed_ok h hc hB hl]
  rfl
end Go.VM
namespace Go.VM

/-- The number behind the score s - 1/2 at which a part of a count is reached. -/
def wR (s part count : Int) : Rat := mkRat ((2 * s - 1) * count + 2 * part) (2 * count).toNat
theorem wR_mul (s part : Int) {count : Int} (hc : 1 ≤ count) : wR s part count * ((2 * count : Int) : Rat) = (((2 * s - 1) * count + 2 * part : Int) : Rat) := by
  unfold wR
  have e : (((2 * count : Int)) : Rat) = (((2 * count).toNat : Nat) : Rat) := by
    rw [← Rat.intCast_natCast]
    congr 1
    omega
  rw [e, Rat.mkRat_eq_div, Rat.div_mul_cancel (natCast_ne (by omega))]
theorem within_ok {s part count : Int} (h1 : -1 ≤ s) (h2 : s ≤ 100) (h3 : 0 ≤ part) (h4 : part ≤ 100000000) (h5 : 1 ≤ count) (h6 : count ≤ 100000000) : equating_within fuel s part count = some ((wR s part count).num, ((wR s part count).den : Int), 0) := by
  unfold equating_within
  have m0 : (2 * s - 1) * count ≤ 199 * 100000000 := by
    rcases Int.le_total 0 (2 * s - 1) with h | h
    · exact Int.mul_le_mul (by omega) h6 (by omega) (by omega)
    · have := Int.mul_nonpos_of_nonpos_of_nonneg h (show 0 ≤ count by omega); omega
  have m1 : -300000000 ≤ (2 * s - 1) * count := by
    have : (-3) * count ≤ (2 * s - 1) * count := Int.mul_le_mul_of_nonneg_right (by omega) (by omega)
    omega
  rw [w64 (x := 2 * s) (by omega) (by omega), w64 (x := 2 * s - 1) (by omega) (by omega), w64 (x := (2 * s - 1) * count) (by omega) (by omega), w64 (x := 2 * part) (by omega) (by omega), w64 (x := (2 * s - 1) * count + 2 * part) (by omega) (by omega), w64 (x := 2 * count) (by omega) (by omega), new_rat (by omega) (by omega) (by omega) (by omega)]
  rfl
theorem Contains_ok {k : Nat} {d : List Int} (h : ∀ x ∈ d, 1 ≤ x) (hl : d.length ≤ 100) (hk : 200 < k) : slices_Contains_int k d 0 = some false := by
  apply Ok.eq
  unfold slices_Contains_int slices_Index_int
  refine Ok.bind (Q := fun r => r = -1) (ok_sum (Q := fun (_ : Unit) => True) (R := fun (_ : Int) => False) (ok_range d (fun s => s) (fun _ _ => True) (by omega) rfl trivial (by omega) ?_ ?_) (fun _ _ => Ok.ret rfl) fun _ h => h.elim) fun r hr => Ok.ret (by subst hr; rfl)
  · intro again s pre e post hl' hi hlt hw _ hag
    simp only [slices_Index_int_b1]
    rw [dec_lt hlt, cond_true, gidx_mid hl' hi, hw]
    have he := h e (by rw [hl']; simp)
    rw [show ((0 : Int) == e) = false by rw [beq_int]; exact decide_eq_false (by omega), cond_false]
    exact hag _ rfl trivial
  · intro again s hi _
    simp only [slices_Index_int_b1]
    rw [dec_nlt (by omega), cond_false]
    exact Ok.ret trivial
end Go.VM
namespace Go.VM

/-- X is the place in the score i - 1 (from i - 3/2 to i - 1/2), which has c candidates counted m times, at the share z; a is the share below the score. -/
def At (c m : Int) (i : Int) (a z : Int) (X : Rat) : Prop := X * ((2 * (c * m) : Int) : Rat) = (((2 * i - 3) * (c * m) + 2 * (z - a) : Int) : Rat)
theorem intCast_pos' {n : Int} (h : 0 < n) : (0 : Rat) < (n : Rat) := Rat.intCast_pos.2 h
/-- At the end of a score. -/
theorem At.of_end {c m i a : Int} {X : Rat} (h : X * 2 = ((2 * i - 1 : Int) : Rat)) : At c m i a (a + c * m) X := by
  unfold At
  have e : (2 * i - 3) * (c * m) + 2 * (a + c * m - a) = (2 * i - 1) * (c * m) := by
    rw [Int.sub_mul, Int.sub_mul]; omega
  rw [e, Rat.intCast_mul 2, Rat.intCast_mul (2 * i - 1), ← h]
  have : ((2 : Int) : Rat) = 2 := rfl
  grind
/-- At the begin of a score. -/
theorem At.of_begin {c m i a : Int} {X : Rat} (h : X * 2 = ((2 * i - 3 : Int) : Rat)) : At c m i a a X := by
  unfold At
  have e : (2 * i - 3) * (c * m) + 2 * (a - a) = (2 * i - 3) * (c * m) := by omega
  rw [e, Rat.intCast_mul 2, Rat.intCast_mul (2 * i - 3), ← h]
  have : ((2 : Int) : Rat) = 2 := rfl
  grind
theorem At.lt {c m i a z z' : Int} {X X' : Rat} (hc : 0 < c * m) (h : At c m i a z X) (h' : At c m i a z' X') (hz : z < z') : X < X' ∧ (X' - X) * ((c * m : Int) : Rat) = ((z' - z : Int) : Rat) := by
  unfold At at h h'
  have e : (X' - X) * ((c * m : Int) : Rat) = ((z' - z : Int) : Rat) := by
    have h2 : ((2 : Int) : Rat) = 2 := rfl
    rw [Rat.intCast_mul 2 (c * m)] at h h'
    rw [Rat.intCast_add, Rat.intCast_mul 2 (z - a), Rat.intCast_sub z a] at h
    rw [Rat.intCast_add, Rat.intCast_mul 2 (z' - a), Rat.intCast_sub z' a] at h'
    rw [Rat.intCast_sub]
    grind
  refine ⟨?_, e⟩
  have hp := intCast_pos' (show (0 : Int) < z' - z by omega)
  rw [← e] at hp
  have := (Rat.mul_pos_iff_of_pos_right (intCast_pos' hc)).1 hp
  grind
theorem At.slope {c m i a d n k b z z' : Int} {X X' Y Y' : Rat} (hc : 0 < c * m) (hd : 0 < d * n) (h1 : At c m i a z X) (h2 : At c m i a z' X') (h3 : At d n k b z Y) (h4 : At d n k b z' Y') (hz : z < z') : Go.VM.slope ⟨X, Y⟩ ⟨X', Y'⟩ * ((d * n : Int) : Rat) = ((c * m : Int) : Rat) := by
  obtain ⟨l1, e1⟩ := At.lt hc h1 h2 hz
  obtain ⟨l2, e2⟩ := At.lt hd h3 h4 hz
  have hm := slope_mul (p := ⟨X, Y⟩) (q := ⟨X', Y'⟩) l1
  simp only at hm
  generalize Go.VM.slope ⟨X, Y⟩ ⟨X', Y'⟩ = s at *
  have hp := intCast_pos' (show (0 : Int) < z' - z by omega)
  rw [← e1] at hp
  have e3 : (s * ((d * n : Int) : Rat)) * ((X' - X) * ((c * m : Int) : Rat)) = ((c * m : Int) : Rat) * ((X' - X) * ((c * m : Int) : Rat)) := by
    have : (Y' - Y) * ((d * n : Int) : Rat) = (X' - X) * ((c * m : Int) : Rat) := by rw [e1, e2]
    rw [← hm] at this
    grind
  generalize ((c * m : Int) : Rat) = u at *
  generalize ((d * n : Int) : Rat) = w at *
  generalize (X' - X) * u = v at *
  have hv : v ≠ 0 := by grind
  have e4 : (s * w - u) * v = 0 := by grind
  rcases Rat.mul_eq_zero.1 e4 with h | h
  · grind
  · exact absurd h hv
end Go.VM
namespace Go.VM

theorem Asc.snoc {e p : Pt} : ∀ {L : List Pt}, Asc L → L.getLast? = some p → p.X < e.X → p.Y < e.Y → Asc (L ++ [e])
  | [], _, h, _, _ => by simp at h
  | [q], _, h, h1, h2 => by
    simp only [List.getLast?_singleton, Option.some.injEq] at h
    subst h
    exact List.pairwise_cons.2 ⟨fun z hz => by have hz' : z ∈ [e] := hz; rw [List.mem_singleton] at hz'; subst hz'; exact ⟨h1, h2⟩, by simp⟩
  | q :: r :: L, hA, h, h1, h2 => by
    have ih := Asc.snoc (L := r :: L) hA.tail (by simpa using h) h1 h2
    have hp : p ∈ r :: L := List.mem_of_getLast? (by simpa using h)
    refine List.pairwise_cons.2 ⟨fun z hz => ?_, ih⟩
    have hz' : z ∈ (r :: L) ++ [e] := hz
    rw [List.mem_append, List.mem_singleton] at hz'
    rcases hz' with hz | rfl
    · exact hA.mem hz
    · have := hA.mem hp
      exact ⟨by grind, by grind⟩
end Go.VM
namespace Go.VM

/-- A full distribution of the dice. -/
structure Full (d : List Int) : Prop where
  few : Few d
  ones : ∀ e ∈ d, 1 ≤ e ∧ e ≤ 6
  len : d.length ≤ 7
  pos : 1 ≤ d.sum
  sum : d.sum ≤ 42
theorem full {d : List Int} (h : Made 6 true d) : Full d := by
  have hf := h.few (by omega)
  have h1 := h.1
  have h2 := h.2.1
  have h6 : ∀ x ∈ d, 1 ≤ x ∧ x ≤ 6 := fun x hx => by simpa using h.2.2 x hx
  have s1 := sum_hi (c := 6) fun x hx => (h6 x hx).2
  have s0 : 1 ≤ d.sum := by
    match d, h1 with
    | x :: d, _ =>
      have := (h6 x (by simp)).1
      have := sum_nn (d := d) fun y hy => by have := h6 y (by simp [hy]); omega
      simp only [List.sum_cons]; omega
  exact ⟨hf, h6, by omega, s0, by omega⟩
def cum (d : List Int) (i : Nat) : Int := (d.take i).sum
theorem cum_succ {d : List Int} {i : Nat} (h : i < d.length) : cum d (i + 1) = cum d i + d.getD i 0 := by
  unfold cum; rw [take_succ_sum h, getD_of h]
theorem cum_len (d : List Int) : cum d d.length = d.sum := by unfold cum; rw [List.take_length]
theorem Full.cum {d : List Int} (h : Full d) (i : Nat) : 0 ≤ Go.VM.cum d i ∧ Go.VM.cum d i ≤ d.sum := by
  have h1 := h.few.take i
  have h2 := take_le (d := d) (fun x hx => by have := h.ones x hx; omega) (m := i) (n := max i d.length) (by omega)
  rw [take_all (n := max i d.length) (by omega)] at h2
  unfold Go.VM.cum
  omega
theorem Full.one {d : List Int} (h : Full d) {i : Nat} (hi : i < d.length) : 1 ≤ d.getD i 0 ∧ d.getD i 0 ≤ 6 := by
  rw [getD_of hi]; exact h.ones _ (List.getElem_mem hi)
theorem Full.cum_lt {d : List Int} (h : Full d) {i : Nat} (hi : i < d.length) : Go.VM.cum d i < d.sum := by
  have := cum_succ hi
  have := h.one hi
  have := h.cum (i + 1)
  omega
/-- A place in the score i - 1 of a distribution whose candidates count m times. -/
def Pl (d : List Int) (m : Int) (i : Nat) (z : Int) (X : Rat) : Prop := At (d.getD (i - 1) 0) m i (cum d (i - 1) * m) z X
theorem wR_half (i : Int) : wR i 0 1 * 2 = ((2 * i - 1 : Int) : Rat) := by
  have := wR_mul i 0 (count := 1) (by omega)
  rw [show (2 * i - 1) * 1 + 2 * 0 = 2 * i - 1 by omega] at this
  exact this
/-- The end of a score is the begin of the next. -/
theorem pl_end {d : List Int} {m : Int} {i : Nat} (hi : 1 ≤ i) (hl : i ≤ d.length) {X : Rat} (h : X * 2 = ((2 * (i : Int) - 1 : Int) : Rat)) : Pl d m i (cum d i * m) X := by
  unfold Pl
  have e : cum d i * m = cum d (i - 1) * m + d.getD (i - 1) 0 * m := by
    have := cum_succ (d := d) (i := i - 1) (by omega)
    rw [show i - 1 + 1 = i by omega] at this
    rw [this, Int.add_mul]
  rw [e]
  exact At.of_end h
theorem pl_begin {d : List Int} {m : Int} {i : Nat} (hi : 1 ≤ i) {X : Rat} (h : X * 2 = ((2 * (i : Int) - 3 : Int) : Rat)) : Pl d m i (cum d (i - 1) * m) X := At.of_begin h
theorem pl_within {d : List Int} {m : Int} {i : Nat} {z : Int} (hi : 1 ≤ i) (hc : 1 ≤ d.getD (i - 1) 0 * m) : Pl d m i z (wR ((i : Int) - 1) (z - cum d (i - 1) * m) (d.getD (i - 1) 0 * m)) := by
  unfold Pl At
  rw [wR_mul _ _ hc]
  congr 2
  rw [show 2 * ((i : Int) - 1) - 1 = 2 * (i : Int) - 3 by omega]
end Go.VM
namespace Go.VM

def half (i : Nat) : Rat := wR (i : Int) 0 1
def percGo (x y : List Int) : Nat → Nat → Nat → List Pt
  | 0, _, _ => []
  | f + 1, i, k => if i ≤ x.length ∧ k ≤ y.length then
      if cum x i * y.sum < cum y k * x.sum then ⟨half i, wR ((k : Int) - 1) (cum x i * y.sum - cum y (k - 1) * x.sum) (y.getD (k - 1) 0 * x.sum)⟩ :: percGo x y f (i + 1) k
      else if cum y k * x.sum < cum x i * y.sum then ⟨wR ((i : Int) - 1) (cum y k * x.sum - cum x (i - 1) * y.sum) (x.getD (i - 1) 0 * y.sum), half k⟩ :: percGo x y f i (k + 1)
      else ⟨half i, half k⟩ :: percGo x y f (i + 1) (k + 1)
    else []
theorem cum_zero (d : List Int) : cum d 0 = 0 := rfl
theorem cum_all {d : List Int} {i : Nat} (h : d.length ≤ i) : cum d i = d.sum := by unfold cum; exact take_all h
theorem Full.mono {d : List Int} (h : Full d) {i j : Nat} (hij : i ≤ j) : Go.VM.cum d i ≤ Go.VM.cum d j := take_le (fun x hx => by have := h.ones x hx; omega) hij
theorem Full.prod {x y : List Int} (hx : Full x) (hy : Full y) (i : Nat) : 0 ≤ Go.VM.cum x i * y.sum ∧ Go.VM.cum x i * y.sum ≤ 1764 := by
  have h1 := hx.cum i
  have h2 := hx.sum
  have h3 := hy.pos
  have h4 := hy.sum
  have := mul_hi h1.1 (show Go.VM.cum x i ≤ 42 by omega) (show 0 ≤ y.sum by omega) h4
  omega
theorem Full.dprod {x y : List Int} (hx : Full x) (hy : Full y) {i : Nat} (hi : i < x.length) : 1 ≤ x.getD i 0 * y.sum ∧ x.getD i 0 * y.sum ≤ 252 := by
  have h1 := hx.one hi
  have h3 := hy.pos
  have h4 := hy.sum
  have := mul_hi (show 0 ≤ x.getD i 0 by omega) h1.2 (show 0 ≤ y.sum by omega) h4
  have := Int.mul_pos (show 0 < x.getD i 0 by omega) (show 0 < y.sum by omega)
  omega
theorem pBelow_ok {d : List Int} (h : Full d) {i : Nat} : distribution_Below fuel d (i : Int) = some (cum d i) := by
  rw [Below_ok h.few (by unfold fuel; omega), Int.toNat_natCast]
  rfl
theorem Full.cum_pos {d : List Int} (h : Full d) {i : Nat} (hi : 0 < i) : 0 < Go.VM.cum d i := by
  have h1 := h.mono (show 1 ≤ i by omega)
  have h2 : 0 < d.length := by have := h.few.1; omega
  have h3 := cum_succ h2
  have h4 := h.one h2
  rw [cum_zero, Nat.zero_add] at h3
  omega
/-- What holds at the head of the loop. -/
structure Head (x y : List Int) (i k : Nat) : Prop where
  iL : i ≤ x.length + 1
  kL : k ≤ y.length + 1
  ik : 0 < k → cum y (k - 1) * x.sum ≤ cum x i * y.sum
  ki : 0 < i → cum x (i - 1) * y.sum ≤ cum y k * x.sum
theorem Head.left {x y : List Int} {i k : Nat} (hx : Full x) (h : Head x y i k) (hy : Full y) (hi : i ≤ x.length) (hk : k ≤ y.length) (hlt : cum x i * y.sum < cum y k * x.sum) : Head x y (i + 1) k :=
  ⟨by omega, h.kL, fun h0 => Int.le_trans (h.ik h0) (Int.mul_le_mul_of_nonneg_right (hx.mono (by omega)) (by have := hy.pos; omega)), fun _ => Int.le_of_lt hlt⟩
theorem Head.right {x y : List Int} {i k : Nat} (hx : Full x) (h : Head x y i k) (hy : Full y) (hi : i ≤ x.length) (hk : k ≤ y.length) (hlt : cum y k * x.sum < cum x i * y.sum) : Head x y i (k + 1) :=
  ⟨h.iL, by omega, fun _ => Int.le_of_lt hlt, fun h0 => Int.le_trans (h.ki h0) (Int.mul_le_mul_of_nonneg_right (hy.mono (by omega)) (by have := hx.pos; omega))⟩
theorem Head.both {x y : List Int} {i k : Nat} (hx : Full x) (h : Head x y i k) (hy : Full y) (hi : i ≤ x.length) (hk : k ≤ y.length) (he : cum y k * x.sum = cum x i * y.sum) : Head x y (i + 1) (k + 1) :=
  ⟨by omega, by omega, fun _ => by rw [Nat.add_sub_cancel, he]; exact Int.mul_le_mul_of_nonneg_right (hx.mono (by omega)) (by have := hy.pos; omega), fun _ => by rw [Nat.add_sub_cancel, ← he]; exact Int.mul_le_mul_of_nonneg_right (hy.mono (by omega)) (by have := hx.pos; omega)⟩
theorem Percentile_ok {x y : List Int} (hx : Full x) (hy : Full y) : equating_Percentile fuel x y = Option.bind (conversion_Normal fuel ((percGo x y 20 0 0).map enc)) (uc fun r s => some (r, s)) := by
  have lx := hx.len
  have ly := hy.len
  unfold equating_Percentile
  rw [Valid_ok hx.few (by unfold fuel; omega), Valid_ok hy.few (by unfold fuel; omega)]
  simp only [Option.bind_some, Bool.not_true, cond_false]
  rw [Contains_ok (fun e he => (hx.ones e he).1) (by omega) (by unfold fuel; omega), Contains_ok (fun e he => (hy.ones e he).1) (by omega) (by unfold fuel; omega)]
  simp only [Option.bind_some, cond_false]
  rw [Count_ok hx.few (by unfold fuel; omega), Count_ok hy.few (by unfold fuel; omega)]
  simp only [Option.bind_some]
  obtain ⟨L, hL⟩ : ∃ L, L = percGo x y 20 0 0 := ⟨_, rfl⟩
  rw [← hL]
  have key : (gloop (equating_Percentile_b1 fuel x y x.sum y.sum) fuel (0, 0, ([] : List SPoint)) : Option ((List SPoint) ⊕ ((List SPoint) × Int))) = some (Sum.inl (L.map enc)) := by
    apply Ok.eq
    refine ok_loop (fun s => ∃ (i k f : Nat) (C : List Pt), s = ((i : Int), (k : Int), C.map enc) ∧ C ++ percGo x y f i k = L ∧ (x.length + 1 - i) + (y.length + 1 - k) < f ∧ Head x y i k ∧ C.length ≤ i + k) (fun s => (x.length + 1 - s.1.toNat) + (y.length + 1 - s.2.1.toNat)) ⟨0, 0, 20, [], rfl, by rw [hL]; rfl, by omega, ⟨by omega, by omega, fun h => by omega, fun h => by omega⟩, by simp⟩ (by dsimp only [fuel]; omega) ?_
    intro again s hs hag
    obtain ⟨i, k, f, C, rfl, g1, g2, g3, g4⟩ := hs
    obtain ⟨f, rfl⟩ : ∃ f', f = f' + 1 := ⟨f - 1, by omega⟩
    have p1 := g3.iL
    have p2 := g3.kL
    simp only [equating_Percentile_b1, uc_mk, blet_mk]
    by_cases hc : i ≤ x.length ∧ k ≤ y.length
    · obtain ⟨hi, hk⟩ := hc
      rw [decide_eq_true (show (i : Int) ≤ x.length by omega), decide_eq_true (show (k : Int) ≤ y.length by omega)]
      simp only [Bool.and_true, cond_true]
      rw [pBelow_ok hx, pBelow_ok hy]
      simp only [Option.bind_some]
      have a1 := hx.prod hy i
      have b1 := hy.prod hx k
      have a2 := hx.prod hy (i - 1)
      have b2 := hy.prod hx (k - 1)
      rw [within_ok (s := (i : Int)) (by omega) (by omega) (by omega) (by omega) (by omega) (by omega), within_ok (s := (k : Int)) (by omega) (by omega) (by omega) (by omega) (by omega) (by omega)]
      simp only [Option.bind_some, uc_mk]
      rw [w64 (x := cum x i * y.sum) (by omega) (by omega), w64 (x := cum y k * x.sum) (by omega) (by omega)]
      simp only [percGo, if_pos (show i ≤ x.length ∧ k ≤ y.length from ⟨hi, hk⟩)] at g1
      by_cases h1 : cum x i * y.sum < cum y k * x.sum
      · rw [decide_eq_true h1, cond_true]
        rw [if_pos h1] at g1
        have hk0 : 0 < k := by
          rcases Nat.eq_zero_or_pos k with h | h
          · subst h; rw [cum_zero] at h1; omega
          · exact h
        have q1 := g3.ik hk0
        have d1 := hy.dprod hx (i := k - 1) (by omega)
        have e1 : IntKind.wrap .i64 ((k : Int) - 1) = ((k - 1 : Nat) : Int) := by rw [w64 (by omega) (by omega)]; omega
        rw [e1]
        refine Ok.bind (Q := fun r => r = ((i : Int) + 1, (k : Int), 0, 0, (half i).num, ((half i).den : Int), (wR ((k : Int) - 1) (cum x i * y.sum - cum y (k - 1) * x.sum) (y.getD (k - 1) 0 * x.sum)).num, ((wR ((k : Int) - 1) (cum x i * y.sum - cum y (k - 1) * x.sum) (y.getD (k - 1) 0 * x.sum)).den : Int))) (ok_idx (by omega) (by omega) fun hi2 => ?_) fun r hr => ?_
        · have e2 : y[((k - 1 : Nat) : Int).toNat] = y.getD (k - 1) 0 := by rw [getD_of (by omega)]; congr 1
          rw [e2, pBelow_ok hy]
          simp only [Option.bind_some]
          rw [w64 (x := cum y (k - 1) * x.sum) (by omega) (by omega), w64 (x := cum x i * y.sum - cum y (k - 1) * x.sum) (by omega) (by omega), w64 (x := y.getD (k - 1) 0 * x.sum) (by omega) (by omega), within_ok (by omega) (by omega) (by omega) (by omega) (by omega) (by omega)]
          simp only [Option.bind_some, uc_mk]
          rw [w64 (x := (i : Int) + 1) (by omega) (by omega), show (((k - 1 : Nat) : Int)) = (k : Int) - 1 by omega]
          exact Ok.ret rfl
        · subst hr
          simp only [uc_mk, bne_self_eq_false, Bool.or_false, blet_mk, cond_false]
          refine ok_cap (by simp; omega) (hag _ ⟨i + 1, k, f, C ++ [⟨half i, wR ((k : Int) - 1) (cum x i * y.sum - cum y (k - 1) * x.sum) (y.getD (k - 1) 0 * x.sum)⟩], ?_, ?_, by omega, g3.left hx hy hi hk h1, by simp; omega⟩ (by dsimp only; omega))
          · simp [enc]
          · rw [List.append_assoc]; exact g1
      · rw [decide_eq_false h1, cond_false]
        rw [if_neg h1] at g1
        by_cases h2 : cum y k * x.sum < cum x i * y.sum
        · rw [decide_eq_true h2, cond_true]
          rw [if_pos h2] at g1
          have hi0 : 0 < i := by
            rcases Nat.eq_zero_or_pos i with h | h
            · subst h; rw [cum_zero] at h2; omega
            · exact h
          have q1 := g3.ki hi0
          have d1 := hx.dprod hy (i := i - 1) (by omega)
          have e1 : IntKind.wrap .i64 ((i : Int) - 1) = ((i - 1 : Nat) : Int) := by rw [w64 (by omega) (by omega)]; omega
          rw [e1]
          refine Ok.bind (Q := fun r => r = ((i : Int), (k : Int) + 1, 0, 0, (wR ((i : Int) - 1) (cum y k * x.sum - cum x (i - 1) * y.sum) (x.getD (i - 1) 0 * y.sum)).num, ((wR ((i : Int) - 1) (cum y k * x.sum - cum x (i - 1) * y.sum) (x.getD (i - 1) 0 * y.sum)).den : Int), (half k).num, ((half k).den : Int))) (ok_idx (by omega) (by omega) fun hi2 => ?_) fun r hr => ?_
          · have e2 : x[((i - 1 : Nat) : Int).toNat] = x.getD (i - 1) 0 := by rw [getD_of (by omega)]; congr 1
            rw [e2, pBelow_ok hx]
            simp only [Option.bind_some]
            rw [w64 (x := cum x (i - 1) * y.sum) (by omega) (by omega), w64 (x := cum y k * x.sum - cum x (i - 1) * y.sum) (by omega) (by omega), w64 (x := x.getD (i - 1) 0 * y.sum) (by omega) (by omega), within_ok (by omega) (by omega) (by omega) (by omega) (by omega) (by omega)]
            simp only [Option.bind_some, uc_mk]
            rw [w64 (x := (k : Int) + 1) (by omega) (by omega), show (((i - 1 : Nat) : Int)) = (i : Int) - 1 by omega]
            exact Ok.ret rfl
          · subst hr
            simp only [uc_mk, bne_self_eq_false, Bool.or_false, blet_mk, cond_false]
            refine ok_cap (by simp; omega) (hag _ ⟨i, k + 1, f, C ++ [⟨wR ((i : Int) - 1) (cum y k * x.sum - cum x (i - 1) * y.sum) (x.getD (i - 1) 0 * y.sum), half k⟩], ?_, ?_, by omega, g3.right hx hy hi hk h2, by simp; omega⟩ (by dsimp only; omega))
            · simp [enc]
            · rw [List.append_assoc]; exact g1
        · rw [decide_eq_false h2, cond_false]
          rw [if_neg h2] at g1
          simp only [Option.bind_some, uc_mk, bne_self_eq_false, Bool.or_false, blet_mk, cond_false]
          rw [w64 (x := (i : Int) + 1) (by omega) (by omega), w64 (x := (k : Int) + 1) (by omega) (by omega)]
          refine ok_cap (by simp; omega) (hag _ ⟨i + 1, k + 1, f, C ++ [⟨half i, half k⟩], ?_, ?_, by omega, g3.both hx hy hi hk (by omega), by simp; omega⟩ (by dsimp only; omega))
          · simp [enc, half]
          · rw [List.append_assoc]; exact g1
    · have hd : (decide ((i : Int) ≤ x.length) && decide ((k : Int) ≤ y.length)) = false := by
        simp only [Bool.and_eq_false_iff, decide_eq_false_iff_not]; omega
      rw [hd, cond_false]
      simp only [percGo, if_neg hc, List.append_nil] at g1
      exact Ok.ret (by rw [g1])
  rw [key]
  rfl
end Go.VM
namespace Go.VM

theorem sixty {c : Int} (h1 : 1 ≤ c) (h6 : c ≤ 6) : ∃ g : Int, c * g = 60 ∧ 1 ≤ g ∧ g ≤ 60 := by
  have : c = 1 ∨ c = 2 ∨ c = 3 ∨ c = 4 ∨ c = 5 ∨ c = 6 := by omega
  rcases this with rfl | rfl | rfl | rfl | rfl | rfl
  · exact ⟨60, by decide, by decide, by decide⟩
  · exact ⟨30, by decide, by decide, by decide⟩
  · exact ⟨20, by decide, by decide, by decide⟩
  · exact ⟨15, by decide, by decide, by decide⟩
  · exact ⟨12, by decide, by decide, by decide⟩
  · exact ⟨10, by decide, by decide, by decide⟩
theorem natAbs_mul_le {a g b : Int} (hg : 0 ≤ g) (h1 : -b ≤ a) (h2 : a ≤ b) : (a * g).natAbs ≤ (b * g).toNat := by
  have := Int.mul_le_mul_of_nonneg_right h1 hg
  have := Int.mul_le_mul_of_nonneg_right h2 hg
  rw [Int.neg_mul] at *
  omega
theorem At.grid {c m i a z : Int} {X : Rat} (hc : 1 ≤ c) (hc6 : c ≤ 6) (hm : 1 ≤ m) (hi : 1 ≤ i) (hi7 : i ≤ 7) (h1 : a ≤ z) (h2 : z ≤ a + c * m) (h : At c m i a z X) : Grid (120 * m.toNat) (840 * m.toNat) X := by
  obtain ⟨g, hg, hg1, hg60⟩ := sixty hc hc6
  unfold At at h
  obtain ⟨u, hu⟩ : ∃ u, u = c * m := ⟨_, rfl⟩
  have u0 : 0 < u := by rw [hu]; exact Int.mul_pos (by omega) (by omega)
  rw [← hu] at h h2
  have e : ((120 * m.toNat : Nat) : Rat) = ((2 * u : Int) : Rat) * (g : Rat) := by
    rw [← Rat.intCast_mul, ← Rat.intCast_natCast]
    congr 1
    have : 2 * u * g = 2 * (c * g) * m := by rw [hu]; ac_rfl
    rw [this, hg]
    omega
  refine ⟨((2 * i - 3) * u + 2 * (z - a)) * g, ?_, ?_⟩
  · rw [e, ← Rat.mul_assoc, h, Rat.intCast_mul]
  · have b1 : (2 * i - 3) * u ≤ 11 * u := Int.mul_le_mul_of_nonneg_right (by omega) (by omega)
    have b2 : (-1) * u ≤ (2 * i - 3) * u := Int.mul_le_mul_of_nonneg_right (by omega) (by omega)
    have b3 := natAbs_mul_le (a := (2 * i - 3) * u + 2 * (z - a)) (g := g) (b := 13 * u) (by omega) (by omega) (by omega)
    have b4 : 13 * u * g = 780 * m := by
      have : 13 * u * g = 13 * (c * g) * m := by rw [hu]; ac_rfl
      rw [this, hg]; omega
    rw [b4] at b3
    omega
theorem slope_grid {s : Rat} {c m d n : Int} (hc : 1 ≤ c) (hc6 : c ≤ 6) (hd : 1 ≤ d) (hd6 : d ≤ 6) (hm : 1 ≤ m) (hm42 : m ≤ 42) (hn : 1 ≤ n) (h : s * ((d * n : Int) : Rat) = ((c * m : Int) : Rat)) : Grid (60 * n.toNat) 15120 s := by
  obtain ⟨g, hg, hg1, hg60⟩ := sixty hd hd6
  have e : ((60 * n.toNat : Nat) : Rat) = ((d * n : Int) : Rat) * (g : Rat) := by
    rw [← Rat.intCast_mul, ← Rat.intCast_natCast]
    congr 1
    have : d * n * g = d * g * n := by ac_rfl
    rw [this, hg]
    omega
  refine ⟨c * m * g, by rw [e, ← Rat.mul_assoc, h, ← Rat.intCast_mul], ?_⟩
  have b1 := mul_hi (show 0 ≤ c by omega) hc6 (show 0 ≤ m by omega) hm42
  have b2 := mul_hi b1.1 b1.2 (show 0 ≤ g by omega) hg60
  omega
theorem Slopes.snoc {P : Rat → Prop} {e p : Pt} : ∀ {L : List Pt}, Slopes P L → L.getLast? = some p → P (slope p e) → Slopes P (L ++ [e])
  | [], _, h, _ => by simp at h
  | [q], _, h, h1 => by
    simp only [List.getLast?_singleton, Option.some.injEq] at h
    subst h
    exact ⟨h1, trivial⟩
  | q :: r :: L, hS, h, h1 => ⟨hS.1, Slopes.snoc (L := r :: L) hS.2 (by simpa using h) h1⟩

/-- Y is the place of the share z in y, from the left. -/
def Sh (y : List Int) (n : Int) (z : Int) (Y : Rat) : Prop := ∃ k : Nat, 1 ≤ k ∧ k ≤ y.length ∧ Pl y n k z Y ∧ z ≤ cum y k * n ∧ (cum y (k - 1) * n < z ∨ (k = 1 ∧ z = 0))
structure Grown (x y : List Int) (i k : Nat) (C : List Pt) : Prop where
  asc : Asc C
  ss : Slopes (Grid (60 * x.sum.toNat) 15120) C
  xs : ∀ P ∈ C, Grid (120 * y.sum.toNat) (840 * y.sum.toNat) P.X
  ys : ∀ P ∈ C, Grid (120 * x.sum.toNat) (840 * x.sum.toNat) P.Y
  last : ∃ (P : Pt) (z : Int), C.getLast? = some P ∧ (i ≤ x.length → Pl x y.sum i z P.X ∧ cum x (i - 1) * y.sum ≤ z ∧ z < cum x i * y.sum) ∧ (k ≤ y.length → Pl y x.sum k z P.Y ∧ cum y (k - 1) * x.sum ≤ z ∧ z < cum y k * x.sum)
  ends : i = x.length + 1 ↔ k = y.length + 1
  found : ∀ j, j < i → ∃ P ∈ C, P.X * 2 = ((2 * (j : Int) - 1 : Int) : Rat) ∧ Sh y x.sum (cum x j * y.sum) P.Y
  lo : i ≤ C.length
  hi : C.length + 1 ≤ i + k
theorem Full.step {d : List Int} (h : Full d) {i : Nat} (hi : 1 ≤ i) (hl : i ≤ d.length) (m : Int) : Go.VM.cum d i * m = Go.VM.cum d (i - 1) * m + d.getD (i - 1) 0 * m := by
  have := cum_succ (d := d) (i := i - 1) (by omega)
  rw [show i - 1 + 1 = i by omega] at this
  rw [this, Int.add_mul]
theorem Full.plgrid {d : List Int} (h : Full d) {m : Int} (hm : 1 ≤ m) {i : Nat} (hi : 1 ≤ i) (hl : i ≤ d.length) {z : Int} {X : Rat} (hp : Pl d m i z X) (h1 : Go.VM.cum d (i - 1) * m ≤ z) (h2 : z ≤ Go.VM.cum d i * m) : Grid (120 * m.toNat) (840 * m.toNat) X := by
  have ho := h.one (i := i - 1) (by omega)
  have hl7 := h.len
  rw [h.step hi hl] at h2
  exact At.grid ho.1 ho.2 hm (by omega) (by omega) h1 h2 hp
/-- One more point. -/
theorem Grown.more {x y : List Int} (hx : Full x) (hy : Full y) {i k : Nat} {C : List Pt} (h : Grown x y i k C) (hi : 1 ≤ i) (hk : 1 ≤ k) (hil : i ≤ x.length) (hkl : k ≤ y.length) {z' : Int} {e : Pt} (h1 : Pl x y.sum i z' e.X) (h2 : Pl y x.sum k z' e.Y) (hz : cum x i * y.sum = z' ∨ cum y k * x.sum = z') (ha : z' ≤ cum x i * y.sum) (hb : z' ≤ cum y k * x.sum) :
    Asc (C ++ [e]) ∧ Slopes (Grid (60 * x.sum.toNat) 15120) (C ++ [e]) ∧ (∀ P ∈ C ++ [e], Grid (120 * y.sum.toNat) (840 * y.sum.toNat) P.X) ∧ (∀ P ∈ C ++ [e], Grid (120 * x.sum.toNat) (840 * x.sum.toNat) P.Y) ∧ cum x (i - 1) * y.sum < z' ∧ cum y (k - 1) * x.sum < z' := by
  obtain ⟨P, z, l1, l2, l3⟩ := h.last
  obtain ⟨p1, p2, p3⟩ := l2 hil
  obtain ⟨q1, q2, q3⟩ := l3 hkl
  have hzz : z < z' := by omega
  have ox := hx.one (i := i - 1) (by omega)
  have oy := hy.one (i := k - 1) (by omega)
  have sx := hx.sum
  have sy := hy.sum
  have px := hx.pos
  have py := hy.pos
  have c0 : 0 < x.getD (i - 1) 0 * y.sum := Int.mul_pos (by omega) (by omega)
  have d0 : 0 < y.getD (k - 1) 0 * x.sum := Int.mul_pos (by omega) (by omega)
  have g1 := At.lt c0 p1 h1 hzz
  have g2 := At.lt d0 q1 h2 hzz
  refine ⟨Asc.snoc h.asc l1 g1.1 g2.1, Slopes.snoc h.ss l1 ?_, fun Q hQ => ?_, fun Q hQ => ?_, by omega, by omega⟩
  · exact slope_grid (c := x.getD (i - 1) 0) (m := y.sum) (d := y.getD (k - 1) 0) (n := x.sum) (by omega) (by omega) (by omega) (by omega) (by omega) (by omega) (by omega) (At.slope c0 d0 p1 h1 q1 h2 hzz)
  · rw [List.mem_append, List.mem_singleton] at hQ
    rcases hQ with hQ | rfl
    · exact h.xs Q hQ
    · exact hx.plgrid (by omega) hi hil h1 (by omega) ha
  · rw [List.mem_append, List.mem_singleton] at hQ
    rcases hQ with hQ | rfl
    · exact h.ys Q hQ
    · exact hy.plgrid (by omega) hk hkl h2 (by omega) hb
theorem half_two (i : Nat) : half i * 2 = ((2 * (i : Int) - 1 : Int) : Rat) := wR_half i
theorem half_begin (i : Nat) : half i * 2 = ((2 * ((i + 1 : Nat) : Int) - 3 : Int) : Rat) := by
  rw [half_two]; congr 1; omega
theorem Full.cum_mul_lt {d : List Int} (h : Full d) {m : Int} (hm : 1 ≤ m) {i : Nat} (hi : i < d.length) : Go.VM.cum d i * m < Go.VM.cum d (i + 1) * m := by
  have h1 := cum_succ hi
  have h2 := h.one hi
  exact Int.mul_lt_mul_of_pos_right (by omega) (by omega)
theorem Full.tot_lt {d : List Int} (h : Full d) {m : Int} (hm : 1 ≤ m) {i : Nat} (hi : i < d.length) : Go.VM.cum d i * m < d.sum * m := Int.mul_lt_mul_of_pos_right (h.cum_lt hi) (by omega)
theorem Full.tot_le {d : List Int} (h : Full d) {m : Int} (hm : 1 ≤ m) (i : Nat) : Go.VM.cum d i * m ≤ d.sum * m := Int.mul_le_mul_of_nonneg_right (h.cum i).2 (by omega)
theorem last_snoc (C : List Pt) (e : Pt) : (C ++ [e]).getLast? = some e := by simp
theorem grow {x y : List Int} (hx : Full x) (hy : Full y) : ∀ (f i k : Nat) (C : List Pt), Head x y i k → 1 ≤ i → 1 ≤ k → Grown x y i k C → (x.length + 1 - i) + (y.length + 1 - k) < f → Grown x y (x.length + 1) (y.length + 1) (C ++ percGo x y f i k)
  | 0, _, _, _, _, _, _, _, h => by omega
  | f + 1, i, k, C, hH, hi, hk, hG, hf => by
    have i1 := hH.iL
    have k1 := hH.kL
    have px := hx.pos
    have py := hy.pos
    simp only [percGo]
    by_cases hc : i ≤ x.length ∧ k ≤ y.length
    · obtain ⟨hil, hkl⟩ := hc
      rw [if_pos ⟨hil, hkl⟩]
      have ox := hx.dprod hy (i := i - 1) (by omega)
      have oy := hy.dprod hx (i := k - 1) (by omega)
      have htot : x.sum * y.sum = y.sum * x.sum := Int.mul_comm _ _
      by_cases h1 : cum x i * y.sum < cum y k * x.sum
      · rw [if_pos h1]
        have hip : i < x.length := by
          rcases Nat.lt_or_ge i x.length with h | h
          · exact h
          · rw [cum_all h] at h1
            have := hy.tot_le (m := x.sum) px k
            omega
        have e1 : Pl x y.sum i (cum x i * y.sum) (half i) := pl_end hi hil (half_two i)
        have e2 : Pl y x.sum k (cum x i * y.sum) (wR ((k : Int) - 1) (cum x i * y.sum - cum y (k - 1) * x.sum) (y.getD (k - 1) 0 * x.sum)) := pl_within hk oy.1
        obtain ⟨m1, m2, m3, m4, m5, m6⟩ := hG.more hx hy hi hk hil hkl (e := ⟨half i, _⟩) e1 e2 (.inl rfl) (Int.le_refl _) (by omega)
        have := grow hx hy f (i + 1) k (C ++ [⟨half i, wR ((k : Int) - 1) (cum x i * y.sum - cum y (k - 1) * x.sum) (y.getD (k - 1) 0 * x.sum)⟩]) (hH.left hx hy hil hkl h1) (by omega) hk ⟨m1, m2, m3, m4, ⟨_, cum x i * y.sum, last_snoc _ _, fun h => ⟨?_, ?_, ?_⟩, fun h => ⟨e2, by omega, h1⟩⟩, by omega, fun j hj => ?_, by have := hG.lo; simp; omega, by have := hG.hi; simp; omega⟩ (by omega)
        · rw [List.append_assoc] at this; exact this
        · exact pl_begin (i := i + 1) (by omega) (half_begin i)
        · exact Int.le_refl _
        · exact hx.cum_mul_lt py (by omega)
        · rcases Nat.lt_or_ge j i with h | h
          · obtain ⟨P, f1, f2⟩ := hG.found j h
            exact ⟨P, List.mem_append_left _ f1, f2⟩
          · have : j = i := by omega
            subst this
            exact ⟨_, List.mem_append_right _ (List.mem_singleton.2 rfl), half_two _, k, hk, hkl, e2, by omega, .inl m6⟩
      · rw [if_neg h1]
        by_cases h2 : cum y k * x.sum < cum x i * y.sum
        · rw [if_pos h2]
          have hkp : k < y.length := by
            rcases Nat.lt_or_ge k y.length with h | h
            · exact h
            · rw [cum_all h] at h2
              have := hx.tot_le (m := y.sum) py i
              omega
          have e1 : Pl y x.sum k (cum y k * x.sum) (half k) := pl_end hk hkl (half_two k)
          have e2 : Pl x y.sum i (cum y k * x.sum) (wR ((i : Int) - 1) (cum y k * x.sum - cum x (i - 1) * y.sum) (x.getD (i - 1) 0 * y.sum)) := pl_within hi ox.1
          obtain ⟨m1, m2, m3, m4, m5, m6⟩ := hG.more hx hy hi hk hil hkl (e := ⟨_, half k⟩) e2 e1 (.inr rfl) (by omega) (Int.le_refl _)
          have := grow hx hy f i (k + 1) (C ++ [⟨wR ((i : Int) - 1) (cum y k * x.sum - cum x (i - 1) * y.sum) (x.getD (i - 1) 0 * y.sum), half k⟩]) (hH.right hx hy hil hkl h2) hi (by omega) ⟨m1, m2, m3, m4, ⟨_, cum y k * x.sum, last_snoc _ _, fun h => ⟨e2, by omega, h2⟩, fun h => ⟨?_, ?_, ?_⟩⟩, by omega, fun j hj => ?_, by have := hG.lo; simp; omega, by have := hG.hi; simp; omega⟩ (by omega)
          · rw [List.append_assoc] at this; exact this
          · exact pl_begin (i := k + 1) (by omega) (half_begin k)
          · exact Int.le_refl _
          · exact hy.cum_mul_lt px (by omega)
          · obtain ⟨P, f1, f2⟩ := hG.found j hj
            exact ⟨P, List.mem_append_left _ f1, f2⟩
        · rw [if_neg h2]
          have he : cum y k * x.sum = cum x i * y.sum := by omega
          have e1 : Pl x y.sum i (cum x i * y.sum) (half i) := pl_end hi hil (half_two i)
          have e2 : Pl y x.sum k (cum x i * y.sum) (half k) := by rw [← he]; exact pl_end hk hkl (half_two k)
          have hpq : i = x.length ↔ k = y.length := by
            constructor
            · intro h
              rcases Nat.lt_or_ge k y.length with hl | hl
              · have t1 := hy.tot_lt (m := x.sum) px hl
                rw [he, cum_all (d := x) (by omega)] at t1
                omega
              · omega
            · intro h
              rcases Nat.lt_or_ge i x.length with hl | hl
              · have t1 := hx.tot_lt (m := y.sum) py hl
                rw [← he, cum_all (d := y) (by omega)] at t1
                omega
              · omega
          obtain ⟨m1, m2, m3, m4, m5, m6⟩ := hG.more hx hy hi hk hil hkl (e := ⟨half i, half k⟩) e1 e2 (.inl rfl) (Int.le_refl _) (by omega)
          have := grow hx hy f (i + 1) (k + 1) (C ++ [⟨half i, half k⟩]) (hH.both hx hy hil hkl he) (by omega) (by omega) ⟨m1, m2, m3, m4, ⟨_, cum x i * y.sum, last_snoc _ _, fun h => ⟨?_, ?_, ?_⟩, fun h => ⟨?_, ?_, ?_⟩⟩, by omega, fun j hj => ?_, by have := hG.lo; simp; omega, by have := hG.hi; simp; omega⟩ (by omega)
          · rw [List.append_assoc] at this; exact this
          · exact pl_begin (i := i + 1) (by omega) (half_begin i)
          · exact Int.le_refl _
          · exact hx.cum_mul_lt py (by omega)
          · rw [← he]; exact pl_begin (i := k + 1) (by omega) (half_begin k)
          · exact Int.le_of_eq he
          · rw [← he]; exact hy.cum_mul_lt px (by omega)
          · rcases Nat.lt_or_ge j i with h | h
            · obtain ⟨P, f1, f2⟩ := hG.found j h
              exact ⟨P, List.mem_append_left _ f1, f2⟩
            · have : j = i := by omega
              subst this
              exact ⟨_, List.mem_append_right _ (List.mem_singleton.2 rfl), half_two _, k, hk, hkl, e2, by omega, .inl m6⟩
    · rw [if_neg hc, List.append_nil]
      have := hG.ends
      have e1 : i = x.length + 1 := by omega
      have e2 : k = y.length + 1 := by omega
      subst e1 e2
      exact hG
theorem percGo_start (x y : List Int) (f : Nat) : percGo x y (f + 1) 0 0 = [⟨half 0, half 0⟩] ++ percGo x y f 1 1 := by
  simp only [percGo]
  rw [if_pos ⟨Nat.zero_le _, Nat.zero_le _⟩, cum_zero, cum_zero, Int.zero_mul, Int.zero_mul, if_neg (by omega), if_neg (by omega)]
  rfl
theorem perc_grown {x y : List Int} (hx : Full x) (hy : Full y) : Grown x y (x.length + 1) (y.length + 1) (percGo x y 20 0 0) := by
  have px := hx.pos
  have py := hy.pos
  have lx := hx.few.1
  have ly := hy.few.1
  have lx7 := hx.len
  have ly7 := hy.len
  have b1 : Pl x y.sum 1 0 (half 0) := by have := pl_begin (d := x) (m := y.sum) (i := 1) (by omega) (half_begin 0); rw [show cum x (1 - 1) * y.sum = 0 by simp [cum]] at this; exact this
  have b2 : Pl y x.sum 1 0 (half 0) := by have := pl_begin (d := y) (m := x.sum) (i := 1) (by omega) (half_begin 0); rw [show cum y (1 - 1) * x.sum = 0 by simp [cum]] at this; exact this
  have c1 : 0 < cum x 1 * y.sum := Int.mul_pos (hx.cum_pos (by omega)) (by omega)
  have c2 : 0 < cum y 1 * x.sum := Int.mul_pos (hy.cum_pos (by omega)) (by omega)
  have z1 : cum x (1 - 1) * y.sum = 0 := by simp [cum]
  have z2 : cum y (1 - 1) * x.sum = 0 := by simp [cum]
  have := grow hx hy 19 1 1 [⟨half 0, half 0⟩] ⟨by omega, by omega, fun _ => by omega, fun _ => by omega⟩ (by omega) (by omega)
    ⟨by simp [Asc], trivial, fun P hP => by rw [List.mem_singleton] at hP; subst hP; exact hx.plgrid py (by omega) (by omega) b1 (by omega) (by omega), fun P hP => by rw [List.mem_singleton] at hP; subst hP; exact hy.plgrid px (by omega) (by omega) b2 (by omega) (by omega),
      ⟨_, 0, rfl, fun _ => ⟨b1, by omega, c1⟩, fun _ => ⟨b2, by omega, c2⟩⟩, by omega, fun j hj => ?_, by simp, by simp⟩ (by omega)
  · have e : percGo x y 20 0 0 = [⟨half 0, half 0⟩] ++ percGo x y 19 1 1 := by
      exact percGo_start x y 19
    rw [e]
    exact this
  · have : j = 0 := by omega
    subst this
    refine ⟨_, List.mem_singleton.2 rfl, half_two 0, 1, by omega, by omega, ?_, ?_, .inr ⟨rfl, ?_⟩⟩
    · rw [show cum x 0 * y.sum = 0 by simp [cum]]; exact b2
    · rw [show cum x 0 * y.sum = 0 by simp [cum]]; omega
    · simp [cum]
theorem perc_grid {x y : List Int} (hx : Full x) (hy : Full y) : OnGrid (120 * y.sum.toNat) (60 * x.sum.toNat) (840 * y.sum.toNat) (840 * x.sum.toNat * (60 * y.sum.toNat)) 15120 (percGo x y 20 0 0) := by
  have h := perc_grown hx hy
  have lx := hx.few.1
  refine ⟨h.asc, by have := h.lo; omega, h.xs, fun P hP => ?_, h.ss⟩
  have := (h.ys P hP).up (60 * y.sum.toNat)
  have e : 120 * y.sum.toNat * (60 * x.sum.toNat) = 120 * x.sum.toNat * (60 * y.sum.toNat) := by
    rw [Nat.mul_mul_mul_comm, Nat.mul_mul_mul_comm 120 x.sum.toNat, Nat.mul_comm x.sum.toNat]
  rw [e]
  exact this
end Go.VM
namespace Go.VM

theorem check_ok {k : Nat} {d : List Int} (h : Few d) (hk : 50 < k) : distribution_check k d = some (if d.sum = 0 then 10 else 0) := by
  unfold distribution_check
  rw [Valid_ok h hk, Count_ok h hk]
  simp only [Option.bind_some, Bool.not_true, cond_false, beq_int]
  by_cases h0 : d.sum = 0
  · rw [decide_eq_true h0, cond_true, if_pos h0]
  · rw [decide_eq_false h0, cond_false, if_neg h0]

/-! ### points and means -/
/-- The sum of all scores, when the first count is that of the score i. -/
def pts : List Int → Int → Int
  | [], _ => 0
  | x :: d, i => i * x + pts d (i + 1)
theorem pts_append (a b : List Int) (i : Int) : pts (a ++ b) i = pts a i + pts b (i + a.length) := by
  induction a generalizing i with
  | nil => simp [pts]
  | cons x a ih =>
    simp only [List.cons_append, pts, ih, List.length_cons]
    rw [show i + 1 + (a.length : Int) = i + ((a.length + 1 : Nat) : Int) by omega]
    omega
theorem pts_snoc (a : List Int) (x : Int) : pts (a ++ [x]) 0 = pts a 0 + a.length * x := by
  rw [pts_append]; simp [pts]
theorem pts_bound {d : List Int} (h : ∀ x ∈ d, 0 ≤ x ∧ x ≤ 1000) {i : Int} (h0 : 0 ≤ i) {m : Int} (hm : i + d.length ≤ m) : 0 ≤ pts d i ∧ pts d i ≤ m * 1000 * d.length := by
  induction d generalizing i with
  | nil => simp [pts]
  | cons x d ih =>
    have hx := h x (by simp)
    have := ih (fun y hy => h y (by simp [hy])) (i := i + 1) (by omega) (by simp at hm; omega)
    simp only [pts, List.length_cons] at hm ⊢
    have p0 := Int.mul_nonneg h0 hx.1
    have p1 : i * x ≤ m * 1000 := Int.mul_le_mul (by omega) hx.2 hx.1 (by omega)
    rw [show ((d.length + 1 : Nat) : Int) = (d.length : Int) + 1 by omega, Int.mul_add]
    omega
theorem Few.pts {d : List Int} (h : Few d) : 0 ≤ pts d 0 ∧ Go.VM.pts d 0 ≤ 1600000 := by
  have := pts_bound h.2.2 (i := 0) (by omega) (m := 40) (by have := h.2.1; omega)
  have := h.2.1
  omega
theorem points_ok {k : Nat} {d : List Int} (h : Few d) (hk : 50 < k) : distribution_points k d = some (pts d 0) := by
  apply Ok.eq
  have hl := h.2.1
  unfold distribution_points
  refine Ok.bind (Q := fun r => r = pts d 0) (ok_range d (fun s => s.2) (fun pre s => s.1 = pts pre 0) (by omega) rfl rfl (by omega) ?_ ?_) fun r hr => Ok.ret hr
  · intro again s pre e post hl' hi hlt hw hinv hag
    obtain ⟨n, i⟩ := s
    simp only at hi hlt hw hinv
    simp only [distribution_points_b1, uc_mk]
    rw [dec_lt hlt, cond_true, gidx_mid hl' hi, hw]
    have he := h.2.2 e (by rw [hl']; simp)
    have hpl : pre.length ≤ 40 := by rw [hl'] at hl; simp at hl; omega
    have h2 := pts_bound (d := pre) (fun x hx => h.2.2 x (by rw [hl']; simp [hx])) (i := 0) (by omega) (m := 40) (by omega)
    have p0 : 0 ≤ i * e := Int.mul_nonneg (by omega) he.1
    have p1 : i * e ≤ 40 * 1000 := Int.mul_le_mul (by omega) he.2 he.1 (by omega)
    rw [w64 (x := i * e) (by omega) (by omega), w64 (x := n + i * e) (by omega) (by omega)]
    exact hag _ rfl (by dsimp only; rw [pts_snoc, hinv, ← hi])
  · intro again s hi hinv
    obtain ⟨n, i⟩ := s
    simp only at hi hinv
    simp only [distribution_points_b1, uc_mk]
    rw [dec_nlt (by omega), cond_false]
    exact Ok.ret hinv
theorem Mean_no {k : Nat} {d : List Int} (h : Few d) (hk : 50 < k) (h0 : d.sum = 0) : distribution_Mean k d = some (0, 0, 10) := by
  unfold distribution_Mean
  rw [check_ok h hk, if_pos h0]
  rfl
theorem Mean_ok {k : Nat} {d : List Int} (h : Few d) (hk : 100000 < k) (h0 : d.sum ≠ 0) : distribution_Mean k d = some (rnum (pts d 0) d.sum, rden (pts d 0) d.sum, 0) := by
  have h1 := h.pts
  have h2 := h.sum
  unfold distribution_Mean
  rw [check_ok h (by omega), if_neg h0, points_ok h (by omega), Count_ok h (by omega), Option.bind_some, Option.bind_some, Option.bind_some, New_ok (by omega) (by omega) (by omega) (by omega) (by omega)]
  rfl
theorem mean_frac {d : List Int} (h : Few d) (h0 : d.sum ≠ 0) : Frac (rnum (pts d 0) d.sum) (rden (pts d 0) d.sum) := by
  have h1 := h.pts
  have h2 := h.sum
  exact frac_new (by omega) (by omega) (by omega) (by omega)
theorem mean_fuel {d : List Int} (h : Few d) (h0 : d.sum ≠ 0) {k : Nat} (hk : 100000 < k) : (rden (pts d 0) d.sum).toNat < k := by
  have h2 := h.sum
  have := rden_le (n := pts d 0) (d := d.sum) (by omega)
  omega

end Go.VM
namespace Go.VM

def meanR (d : List Int) : Rat := mkRat (pts d 0) d.sum.toNat
/-- The sum of all distances from the mean, when the first count is that of the score i. -/
def farS (n p : Int) : List Int → Int → Int
  | [], _ => 0
  | x :: d, i => x * ((i * n - p).natAbs : Int) + farS n p d (i + 1)
def devR (d : List Int) : Rat := mkRat (farS d.sum (pts d 0) d 0) (d.sum * d.sum).toNat
theorem farS_snoc (n p : Int) (a : List Int) (x : Int) (i : Int) : farS n p (a ++ [x]) i = farS n p a i + x * (((i + a.length) * n - p).natAbs : Int) := by
  induction a generalizing i with
  | nil => simp [farS]
  | cons y a ih =>
    simp only [List.cons_append, farS, ih, List.length_cons]
    rw [show i + 1 + (a.length : Int) = i + ((a.length + 1 : Nat) : Int) by omega]
    omega
theorem farS_bound {n p c : Int} (hc : 0 ≤ c) (hn : 0 ≤ n) (hp : 0 ≤ p) (hp2 : p ≤ c) : ∀ (d : List Int) (i : Int), (∀ x ∈ d, 0 ≤ x) → 0 ≤ i → (i + d.length) * n ≤ c → 0 ≤ farS n p d i ∧ farS n p d i ≤ d.sum * c
  | [], i, _, _, _ => by simp [farS]
  | x :: d, i, h, h0, hm => by
    have hx := h x (by simp)
    simp only [List.length_cons] at hm
    have ih := farS_bound hc hn hp hp2 d (i + 1) (fun y hy => h y (by simp [hy])) (by omega) (by rw [show i + 1 + (d.length : Int) = i + ((d.length + 1 : Nat) : Int) by omega]; exact hm)
    have q0 : 0 ≤ i * n := Int.mul_nonneg h0 hn
    have q1 : i * n ≤ c := Int.le_trans (Int.mul_le_mul_of_nonneg_right (by omega) hn) hm
    have z0 : 0 ≤ x * ((i * n - p).natAbs : Int) := Int.mul_nonneg hx (by omega)
    have z1 : x * ((i * n - p).natAbs : Int) ≤ x * c := Int.mul_le_mul_of_nonneg_left (by omega) hx
    simp only [farS, List.sum_cons, Int.add_mul]
    omega
theorem Few.far {d : List Int} (h : Few d) : 0 ≤ farS d.sum (Go.VM.pts d 0) d 0 ∧ farS d.sum (Go.VM.pts d 0) d 0 ≤ 64000000000 := by
  have h1 := h.sum
  have h2 := h.pts
  have hl := h.2.1
  have m : (0 + (d.length : Int)) * d.sum ≤ 40 * 40000 := Int.mul_le_mul (by omega) h1.2 h1.1 (by omega)
  have := farS_bound (c := 1600000) (by omega) h1.1 h2.1 (by omega) d 0 (fun x hx => (h.2.2 x hx).1) (Int.le_refl _) (by omega)
  have m2 : d.sum * 1600000 ≤ 40000 * 1600000 := Int.mul_le_mul_of_nonneg_right h1.2 (by omega)
  omega
theorem far_pre {d pre post : List Int} {e : Int} (h : Few d) (hl : d = pre ++ e :: post) : 0 ≤ farS d.sum (pts d 0) pre 0 ∧ farS d.sum (pts d 0) pre 0 ≤ 64000000000 := by
  have h1 := h.sum
  have h2 := h.pts
  have hl2 := h.2.1
  have hpl : pre.length ≤ 40 := by rw [hl] at hl2; simp at hl2; omega
  have m : (0 + (pre.length : Int)) * d.sum ≤ 40 * 40000 := Int.mul_le_mul (by omega) h1.2 h1.1 (by omega)
  have := farS_bound (c := 1600000) (by omega) h1.1 h2.1 (by omega) pre 0 (fun x hx => (h.2.2 x (by rw [hl]; simp [hx])).1) (Int.le_refl _) (by omega)
  have hb := h.bound hl
  have m2 : pre.sum * 1600000 ≤ 40000 * 1600000 := Int.mul_le_mul_of_nonneg_right hb.2 (by omega)
  omega
theorem mean_rat {d : List Int} (h : Few d) (h0 : d.sum ≠ 0) : distribution_Mean fuel d = some ((meanR d).num, ((meanR d).den : Int), 0) := by
  have h1 := h.pts
  have h2 := h.sum
  unfold distribution_Mean
  rw [check_ok h (by unfold fuel; omega), if_neg h0, points_ok h (by unfold fuel; omega), Count_ok h (by unfold fuel; omega), Option.bind_some, Option.bind_some, Option.bind_some, new_rat (by omega) (by omega) (by omega) (by omega)]
  rfl
theorem dev_step {d pre post : List Int} {e i : Int} (h : Few d) (hl : d = pre ++ e :: post) (hi : i = pre.length) (hi0 : 0 ≤ i) : 0 ≤ i * d.sum ∧ i * d.sum ≤ 1600000 ∧ 0 ≤ e * ((i * d.sum - pts d 0).natAbs : Int) ∧ e * ((i * d.sum - pts d 0).natAbs : Int) ≤ 1600000000 := by
  have h1 := h.sum
  have h2 := h.pts
  have hl2 := h.2.1
  have hpl : pre.length ≤ 40 := by rw [hl] at hl2; simp at hl2; omega
  have he := h.2.2 e (by rw [hl]; simp)
  have m0 := Int.mul_nonneg hi0 h1.1
  have m : i * d.sum ≤ 40 * 40000 := Int.mul_le_mul (by omega) h1.2 h1.1 (by omega)
  have z0 : 0 ≤ e * ((i * d.sum - pts d 0).natAbs : Int) := Int.mul_nonneg he.1 (by omega)
  have z1 : e * ((i * d.sum - pts d 0).natAbs : Int) ≤ 1000 * 1600000 := Int.mul_le_mul he.2 (by omega) (by omega) (by omega)
  omega
theorem dev_rat {d : List Int} (h : Few d) (h0 : d.sum ≠ 0) : distribution_Deviation fuel d = some ((devR d).num, ((devR d).den : Int), 0) := by
  have h1 := h.pts
  have h2 := h.sum
  have h3 := h.far
  have hl := h.2.1
  have m1 : 0 ≤ d.sum * d.sum ∧ d.sum * d.sum ≤ 40000 * 40000 := ⟨Int.mul_nonneg h2.1 h2.1, Int.mul_le_mul h2.2 h2.2 h2.1 (by omega)⟩
  have m2 : 0 < d.sum * d.sum := Int.mul_pos (by omega) (by omega)
  unfold distribution_Deviation
  rw [check_ok h (by unfold fuel; omega), if_neg h0, points_ok h (by unfold fuel; omega), Count_ok h (by unfold fuel; omega)]
  simp only [Option.bind_some, bne_self_eq_false, cond_false]
  have hloop : gloop (distribution_Deviation_b1 fuel d d.sum (pts d 0)) fuel (0, 0) = some (farS d.sum (pts d 0) d 0) := by
    apply Ok.eq
    refine ok_range d (fun s => s.2) (fun pre s => s.1 = farS d.sum (pts d 0) pre 0) (by omega) rfl rfl (by unfold fuel; omega) ?_ ?_
    · intro again s pre e post hl' hi hlt hw hinv hag
      obtain ⟨n, i⟩ := s
      simp only at hi hlt hw hinv
      simp only [distribution_Deviation_b1, uc_mk]
      rw [dec_lt hlt, cond_true, gidx_mid hl' hi, hw]
      have st := dev_step h hl' hi (by omega)
      have hp := far_pre h hl'
      rw [w64 (x := i * d.sum) (by omega) (by omega), w64 (x := i * d.sum - pts d 0) (by omega) (by omega), w64 (x := 0 - (i * d.sum - pts d 0)) (by omega) (by omega), gmax_def, show max (0 - (i * d.sum - pts d 0)) (i * d.sum - pts d 0) = ((i * d.sum - pts d 0).natAbs : Int) by omega, w64 (x := e * ((i * d.sum - pts d 0).natAbs : Int)) (by omega) (by omega), w64 (by omega) (by omega)]
      exact hag _ rfl (by dsimp only; rw [farS_snoc, hinv, hi, Int.zero_add])
    · intro again s hi hinv
      obtain ⟨n, i⟩ := s
      simp only at hi hinv
      simp only [distribution_Deviation_b1, uc_mk]
      rw [dec_nlt (by omega), cond_false]
      exact Ok.ret hinv
  rw [hloop, w64 (x := d.sum * d.sum) (by omega) (by omega), Option.bind_some, new_rat (by omega) (by omega) (by omega) (by omega)]
  rfl

/-! ### the reference -/
end Go.VM
namespace Go.VM

/-- The line with a slope and a value at 0. -/
def lineL (s t : Rat) : List Pt := [⟨0, t⟩, ⟨1, s + t⟩]
theorem lineL_asc {s t : Rat} (hs : 0 < s) : Asc (lineL s t) := by
  unfold lineL Asc
  refine List.pairwise_cons.2 ⟨fun p hp => ?_, by simp⟩
  rw [List.mem_singleton] at hp
  subst hp
  exact ⟨show (0 : Rat) < 1 by decide, by show t < s + t; grind⟩
theorem lineL_slope (s t : Rat) : slope ⟨0, t⟩ ⟨1, s + t⟩ = s := slope_eq (p := ⟨0, t⟩) (q := ⟨1, s + t⟩) (show (0 : Rat) < 1 by decide) (by show s + t = t + (1 - 0) * s; grind)
theorem lineL_eval (s t x : Rat) : evalL (lineL s t) x = t + x * s := by
  show line ⟨0, t⟩ ⟨1, s + t⟩ x = t + x * s
  unfold line
  rw [lineL_slope]
  show t + (x - 0) * s = t + x * s
  grind
theorem lineL_grid {D E F C : Nat} {s t : Rat} (hs : 0 < s) (h1 : Grid E F s) (h2 : Grid (D * E) C t) : OnGrid D E D (F * D + C) F (lineL s t) := by
  have hone : Grid D D 1 := ⟨D, by rw [Rat.one_mul, Rat.intCast_natCast], by omega⟩
  have hzero : Grid D 0 0 := ⟨0, by rw [Rat.zero_mul]; rfl, by omega⟩
  refine ⟨lineL_asc hs, by simp [lineL], fun p hp => ?_, fun p hp => ?_, ?_⟩
  · unfold lineL at hp
    simp only [List.mem_cons, List.not_mem_nil, or_false] at hp
    rcases hp with rfl | rfl
    · exact hzero.le (by omega)
    · exact hone
  · unfold lineL at hp
    simp only [List.mem_cons, List.not_mem_nil, or_false] at hp
    rcases hp with rfl | rfl
    · exact h2.le (by omega)
    · have := h1.up D
      rw [Nat.mul_comm E D] at this
      exact this.add h2
  · exact ⟨by rw [lineL_slope]; exact h1, trivial⟩
theorem Line_ok {s t : Rat} (hs : 0 < s) (h : Ad s t) : conversion_Line fuel s.num s.den t.num t.den = some ((lineL s t).map enc, 0) := by
  unfold conversion_Line
  rw [rat_valid h.sx, rat_valid h.sy]
  simp only [Option.bind_some, Bool.not_true, cond_false]
  have hn : 0 < s.num := by
    rcases Int.lt_or_le 0 s.num with h' | h'
    · exact h'
    · have := Rat.num_nonneg.2 (Rat.le_of_lt hs)
      have h0 : s.num = 0 := by omega
      have := Rat.num_eq_zero.1 h0
      rw [this] at hs
      exact absurd hs (by decide)
  rw [show decide (s.num ≤ 0) = false from decide_eq_false (by omega), cond_false, cadd_ok h]
  simp only [Option.bind_some, uc_mk, bne_self_eq_false, cond_false, conversion_whole, u0_mk]
  rfl
theorem through_ok {x y : List Int} {s : Rat} (hx : Few x) (hy : Few y) (hx0 : x.sum ≠ 0) (hy0 : y.sum ≠ 0) (hs : 0 < s) (h1 : Mu s (meanR x)) (h2 : Ad (meanR y) (-(s * meanR x))) (h3 : Ad s (meanR y - s * meanR x)) : equating_through fuel x y s.num s.den = some ((lineL s (meanR y - s * meanR x)).map enc, 0) := by
  unfold equating_through
  rw [mean_rat hx hx0, mean_rat hy hy0]
  simp only [Option.bind_some, uc_mk, bne_self_eq_false, cond_false]
  rw [rat_mul h1]
  simp only [Option.bind_some, uc_mk, bne_self_eq_false, cond_false]
  rw [rat_sub h2]
  simp only [Option.bind_some, uc_mk, bne_self_eq_false, cond_false]
  rw [Line_ok hs h3]
  rfl
theorem echeck_ok {x y : List Int} (hx : Few x) (hy : Few y) (hx0 : x.sum ≠ 0) (hy0 : y.sum ≠ 0) : equating_check fuel x y = some 0 := by
  unfold equating_check
  rw [Valid_ok hx (by unfold fuel; omega), Valid_ok hy (by unfold fuel; omega), Count_ok hx (by unfold fuel; omega), Count_ok hy (by unfold fuel; omega)]
  simp only [Option.bind_some, Bool.not_true, cond_false]
  rw [show (x.sum == 0) = false by rw [beq_int]; exact decide_eq_false hx0, show (y.sum == 0) = false by rw [beq_int]; exact decide_eq_false hy0]
  rfl
theorem EMean_ok {x y : List Int} (hx : Few x) (hy : Few y) (hx0 : x.sum ≠ 0) (hy0 : y.sum ≠ 0) (h1 : Mu 1 (meanR x)) (h2 : Ad (meanR y) (-(1 * meanR x))) (h3 : Ad 1 (meanR y - 1 * meanR x)) : equating_Mean fuel x y = some ((lineL 1 (meanR y - 1 * meanR x)).map enc, 0) := by
  unfold equating_Mean
  rw [echeck_ok hx hy hx0 hy0]
  simp only [Option.bind_some, bne_self_eq_false, cond_false]
  have := through_ok hx hy hx0 hy0 (s := 1) (by decide) h1 h2 h3
  simp only [Rat.one_num, Rat.one_den] at this
  rw [show ((1 : Nat) : Int) = 1 from rfl] at this
  rw [this]
  rfl
theorem ELinear_no {x y : List Int} (hx : Few x) (hy : Few y) (hx0 : x.sum ≠ 0) (hy0 : y.sum ≠ 0) (h : devR x = 0 ∨ devR y = 0) : equating_Linear fuel x y = some ([], 10) := by
  unfold equating_Linear
  rw [echeck_ok hx hy hx0 hy0, dev_rat hx hx0, dev_rat hy hy0]
  simp only [Option.bind_some, uc_mk, bne_self_eq_false, cond_false, blet_mk]
  have : ((devR x).num == 0 || (devR y).num == 0) = true := by
    rcases h with h | h <;> rw [h] <;> simp
  rw [this]
  rfl
theorem ELinear_ok {x y : List Int} (hx : Few x) (hy : Few y) (hx0 : x.sum ≠ 0) (hy0 : y.sum ≠ 0) (hdx : devR x ≠ 0) (hdy : devR y ≠ 0) (hs : 0 < devR y / devR x) (h0 : Di (devR y) (devR x)) (h1 : Mu (devR y / devR x) (meanR x)) (h2 : Ad (meanR y) (-(devR y / devR x * meanR x))) (h3 : Ad (devR y / devR x) (meanR y - devR y / devR x * meanR x)) : equating_Linear fuel x y = some ((lineL (devR y / devR x) (meanR y - devR y / devR x * meanR x)).map enc, 0) := by
  unfold equating_Linear
  rw [echeck_ok hx hy hx0 hy0, dev_rat hx hx0, dev_rat hy hy0]
  simp only [Option.bind_some, uc_mk, bne_self_eq_false, cond_false, blet_mk]
  have e : ((devR x).num == 0 || (devR y).num == 0) = false := by
    rw [beq_int, beq_int, Bool.or_eq_false_iff, decide_eq_false_iff_not, decide_eq_false_iff_not]
    exact ⟨fun h => hdx (Rat.num_eq_zero.1 h), fun h => hdy (Rat.num_eq_zero.1 h)⟩
  rw [e, cond_false, rat_div h0]
  simp only [Option.bind_some, uc_mk, bne_self_eq_false, cond_false]
  rw [through_ok hx hy hx0 hy0 hs h1 h2 h3]
  rfl
/-! ### sizes for the distributions of the dice -/
theorem pts_le (d : List Int) (i m : Int) (h : ∀ x ∈ d, 0 ≤ x) (hm : i + d.length ≤ m + 1) : pts d i ≤ m * d.sum := by
  induction d generalizing i with
  | nil => simp [pts]
  | cons x d ih =>
    have hx := h x (by simp)
    simp only [List.length_cons] at hm
    have := ih (i + 1) (fun y hy => h y (by simp [hy])) (by omega)
    have h1 : i * x ≤ m * x := Int.mul_le_mul_of_nonneg_right (by omega) hx
    simp only [pts, List.sum_cons, Int.mul_add]
    omega
/-- What the dice's full distributions of up to seven scores are like. -/
structure Seven (d : List Int) : Prop where
  few : Few d
  pos : 1 ≤ d.sum
  sum : d.sum ≤ 42
  pts : pts d 0 ≤ 252
  far : farS d.sum (Go.VM.pts d 0) d 0 ≤ 12348
theorem seven {d : List Int} (h : Made 6 true d) : Seven d := by
  have hf := h.few (by omega)
  have h1 := h.1
  have h2 := h.2.1
  have h6 : ∀ x ∈ d, 1 ≤ x ∧ x ≤ 6 := fun x hx => by simpa using h.2.2 x hx
  have s1 := sum_hi (c := 6) fun x hx => (h6 x hx).2
  have s0 : 1 ≤ d.sum := by
    match d, h1 with
    | x :: d, _ =>
      have := (h6 x (by simp)).1
      have := sum_nn (d := d) fun y hy => by have := h6 y (by simp [hy]); omega
      simp only [List.sum_cons]; omega
  have p1 := pts_le d 0 6 (fun x hx => by have := h6 x hx; omega) (by omega)
  have p0 := hf.pts
  have m : (0 + (d.length : Int)) * d.sum ≤ 7 * 42 := Int.mul_le_mul (by omega) (by omega) (by omega) (by omega)
  have f1 := farS_bound (n := d.sum) (p := pts d 0) (c := 294) (by omega) (by omega) p0.1 (by omega) d 0 (fun x hx => by have := h6 x hx; omega) (Int.le_refl _) (by omega)
  exact ⟨hf, s0, by omega, by omega, by omega⟩
theorem mean_mul {d : List Int} (h : 1 ≤ d.sum) : meanR d * (d.sum.toNat : Rat) = (pts d 0 : Rat) := by
  unfold meanR
  rw [Rat.mkRat_eq_div, Rat.div_mul_cancel (natCast_ne (by omega))]
theorem dev_mul {d : List Int} (h : 1 ≤ d.sum) : devR d * ((d.sum.toNat * d.sum.toNat : Nat) : Rat) = (farS d.sum (pts d 0) d 0 : Rat) := by
  unfold devR
  have e : (d.sum * d.sum).toNat = d.sum.toNat * d.sum.toNat := by
    have : ((d.sum.toNat * d.sum.toNat : Nat) : Int) = d.sum * d.sum := by rw [Int.natCast_mul, show ((d.sum.toNat : Nat) : Int) = d.sum by omega]
    omega
  rw [e, Rat.mkRat_eq_div, Rat.div_mul_cancel (natCast_ne (Nat.mul_ne_zero (by omega) (by omega)))]
theorem Seven.mean {d : List Int} (h : Seven d) : Grid d.sum.toNat 252 (meanR d) := ⟨Go.VM.pts d 0, mean_mul h.pos, by have := h.few.pts; have := h.pts; omega⟩
theorem Seven.dev {d : List Int} (h : Seven d) : Grid (d.sum.toNat * d.sum.toNat) 12348 (devR d) := ⟨_, dev_mul h.pos, by have := h.few.far; have := h.far; omega⟩
end Go.VM
namespace Go.VM

def encR (x : Rat) : SRatio := ⟨x.num, x.den⟩
theorem encR_inj {x y : Rat} (h : encR x = encR y) : x = y := by
  injection h with h1 h2
  exact Rat.ext h1 (by omega)
theorem cmp_rat {x y : Rat} (hx : Sm x) (hy : Sm y) : ratio_Compare fuel (encR x).Num (encR x).Den (encR y).Num (encR y).Den = some (if x < y then -1 else if x = y then 0 else 1) := rat_compare hx hy
theorem ltC_rat {x y : Rat} (hx : Sm x) (hy : Sm y) : ltC (fun a b : SRatio => ratio_Compare fuel a.Num a.Den b.Num b.Den) (encR x) (encR y) = decide (x < y) := by
  unfold ltC
  show (match ratio_Compare fuel (encR x).Num (encR x).Den (encR y).Num (encR y).Den with | some n => decide (n < 0) | none => false) = _
  rw [cmp_rat hx hy]
  by_cases h : x < y
  · rw [if_pos h, decide_eq_true h]; rfl
  · rw [if_neg h, decide_eq_false h]
    by_cases he : x = y
    · rw [if_pos he]; rfl
    · rw [if_neg he]; rfl
def ltR (x y : Rat) : Bool := decide (x < y)
theorem insL_rat {x : Rat} (hx : Sm x) : ∀ {l : List Rat}, (∀ y ∈ l, Sm y) → insL (ltC (fun a b : SRatio => ratio_Compare fuel a.Num a.Den b.Num b.Den)) (encR x) (l.map encR) = (insL ltR x l).map encR
  | [], _ => rfl
  | y :: l, h => by
    simp only [List.map_cons, insL]
    rw [ltC_rat (h y (by simp)) hx, insL_rat hx fun z hz => h z (by simp [hz])]
    show (bif ltR y x then _ else _) = _
    cases ltR y x <;> rfl
theorem sortL_rat : ∀ {l : List Rat}, (∀ y ∈ l, Sm y) → sortL (ltC (fun a b : SRatio => ratio_Compare fuel a.Num a.Den b.Num b.Den)) (l.map encR) = (sortL ltR l).map encR
  | [], _ => rfl
  | x :: l, h => by
    simp only [List.map_cons, sortL]
    rw [sortL_rat fun z hz => h z (by simp [hz])]
    exact insL_rat (h x (by simp)) fun y hy => h y (by have := (sortL_perm ltR l).mem_iff.1 hy; simp [this])
theorem insR_sorted {x : Rat} : ∀ {l : List Rat}, l.Pairwise (· ≤ ·) → (insL ltR x l).Pairwise (· ≤ ·)
  | [], _ => by simp [insL]
  | y :: l, h => by
    obtain ⟨h1, h2⟩ := List.pairwise_cons.1 h
    simp only [insL]
    unfold ltR
    by_cases hyx : y < x
    · rw [decide_eq_true hyx, cond_true]
      refine List.pairwise_cons.2 ⟨fun z hz => ?_, insR_sorted h2⟩
      rcases List.mem_cons.1 ((insL_perm _ x l).mem_iff.1 hz) with rfl | hz
      · exact Rat.le_of_lt hyx
      · exact h1 z hz
    · rw [decide_eq_false hyx, cond_false]
      have hxy : x ≤ y := Rat.not_lt.1 hyx
      refine List.pairwise_cons.2 ⟨fun z hz => ?_, h⟩
      rcases List.mem_cons.1 hz with rfl | hz
      · exact hxy
      · exact Rat.le_trans hxy (h1 z hz)
theorem sortR_sorted : ∀ (l : List Rat), (sortL ltR l).Pairwise (· ≤ ·)
  | [] => by simp [sortL]
  | x :: l => insR_sorted (sortR_sorted l)
theorem sortOk_rat {l : List Rat} (hS : ∀ x ∈ l, Sm x) : sortOk (fun a b : SRatio => ratio_Compare fuel a.Num a.Den b.Num b.Den) (l.map encR) = true := by
  unfold sortOk
  rw [List.all_map, List.all_eq_true]
  intro x hx
  have sx := hS x hx
  simp only [Function.comp]
  rw [ltC_rat sx sx, decide_eq_false Rat.lt_irrefl, Bool.not_false, Bool.true_and, List.all_map, List.all_eq_true]
  intro y hy
  have sy := hS y hy
  simp only [Function.comp]
  rw [ltC_rat sx sy, ltC_rat sy sx]
  rw [cmp_rat sx sy]
  have h3 : (decide (x < y) || decide (y < x) || decide (encR x = encR y)) = true := by
    by_cases h1 : x < y
    · simp [h1]
    · by_cases h2 : y < x
      · simp [h2]
      · have : x = y := by grind
        simp [this]
  rw [h3, Option.isSome_some, Bool.true_and, Bool.true_and, List.all_map, List.all_eq_true]
  intro z hz
  have sz := hS z hz
  simp only [Function.comp]
  rw [ltC_rat sy sz, ltC_rat sx sz]
  by_cases h1 : x < y <;> by_cases h2 : y < z <;> by_cases h4 : x < z <;> simp [h1, h2, h4] <;> grind
theorem sort_ok {l : List Rat} (hS : ∀ x ∈ l, Sm x) (hl : l.length ≤ 1000) : Ok (slices_SortFunc_api_Ratio_api_Ratio fuel (l.map encR)) (fun r => ∃ s : List Rat, r = s.map encR ∧ s.Pairwise (· ≤ ·) ∧ s.Perm l) := by
  unfold slices_SortFunc_api_Ratio_api_Ratio gsort
  rw [sortOk_rat hS, List.length_map, decide_eq_true (by omega), Bool.and_self, cond_true, sortL_rat hS]
  exact Ok.ret ⟨_, rfl, sortR_sorted l, sortL_perm ltR l⟩
end Go.VM
namespace Go.VM

theorem gidx_of {α X : Type} {l : List α} {i : Int} {B : α → Option X} {e : α} (h0 : 0 ≤ i) (h : l[i.toNat]? = some e) : gidx l i B = B e := by
  have hi := (List.getElem?_eq_some_iff.1 h).1
  rw [gidx_some h0 hi, (List.getElem?_eq_some_iff.1 h).2]
theorem beq_encR (x y : Rat) : (((encR x).Num == (encR y).Num) && (((encR x).Den == (encR y).Den) && true)) = decide (x = y) := by
  show ((x.num == y.num) && (((x.den : Int) == (y.den : Int)) && true)) = decide (x = y)
  rw [Bool.and_true, beq_int, beq_int]
  by_cases he : x = y
  · rw [he]; simp
  · rw [decide_eq_false he, Bool.and_eq_false_iff, decide_eq_false_iff_not, decide_eq_false_iff_not]
    by_cases hn : x.num = y.num
    · right
      intro hd
      exact he (Rat.ext hn (by omega))
    · left; exact hn
theorem rat_lt {a b : Rat} (h : a ≤ b) (hne : ¬b = a) : a < b := by grind
theorem rat_le_lt {a b c : Rat} (h : a ≤ b) (h2 : b < c) : a < c := by grind
theorem take_clear {α : Type} {xs : List α} {z : α} {m : Nat} (h : m ≤ xs.length) : List.take m (List.drop 0 (gclear xs z (0 + m) (xs.length - m))) = List.take m xs := by
  unfold gclear
  rw [List.drop_zero, List.take_take, Nat.min_eq_left h, Nat.zero_add, List.append_assoc, List.take_append_of_le_length (by simp; omega), List.take_take, Nat.min_self]
theorem sorted_le {l : List Rat} (hs : l.Pairwise (· ≤ ·)) {i j : Nat} (hj : j < l.length) (hij : i ≤ j) : l[i]'(by omega) ≤ l[j] := by
  rcases Nat.lt_or_eq_of_le hij with h | rfl
  · exact List.pairwise_iff_getElem.1 hs i j (by omega) hj h
  · exact Rat.le_refl
theorem mem_take_le {l : List Rat} (hs : l.Pairwise (· ≤ ·)) {n : Nat} (hn : n < l.length) {x : Rat} (hx : x ∈ l.take (n + 1)) : x ≤ l[n] := by
  obtain ⟨i, hi, rfl⟩ := List.mem_iff_getElem.1 hx
  simp only [List.length_take] at hi
  rw [List.getElem_take]
  exact sorted_le hs hn (by omega)
theorem mem_take_succ {l : List Rat} {n : Nat} (hn : n < l.length) {x : Rat} : x ∈ l.take (n + 1) ↔ x ∈ l.take n ∨ x = l[n] := by
  rw [List.take_succ_eq_append_getElem hn, List.mem_append, List.mem_singleton]
theorem compact_rest {l : List Rat} (hs : l.Pairwise (· ≤ ·)) (hl : l.length ≤ 1000) {k0 : Nat} (h1 : 1 ≤ k0) (hk : k0 < l.length) (hasc : (l.take k0).Pairwise (· < ·)) (heq : l[k0] = l[k0 - 1]) :
    Ok (gloop (slices_Compact_api_Ratio_api_Ratio_b2 fuel (l.map encR) (k0 : Int)) fuel ((k0 : Int), 1, l.map encR)) (fun r => ∃ (m : Nat) (P : List Rat), r.1 = (m : Int) ∧ m ≤ P.length ∧ r.2 = P.map encR ∧ P.length = l.length ∧ (P.take m).Pairwise (· < ·) ∧ ∀ x, x ∈ P.take m ↔ x ∈ l) := by
  refine ok_loop (fun s => ∃ (m j : Nat) (P : List Rat), s.1 = (m : Int) ∧ s.2.1 = (j : Int) ∧ 1 ≤ j ∧ k0 + j ≤ l.length ∧ k0 ≤ m ∧ m ≤ k0 + j - 1 ∧ P.length = k0 + j - 1 ∧ s.2.2 = (P ++ l.drop (k0 + j - 1)).map encR ∧ (P.take m).Pairwise (· < ·) ∧ ∀ x, x ∈ P.take m ↔ x ∈ l.take (k0 + j)) (fun s => (1001 - s.2.1).toNat)
    ⟨k0, 1, l.take k0, rfl, rfl, by omega, by omega, by omega, by omega, by simp; omega, by simp, ?_, ?_⟩ (by dsimp only; unfold fuel; omega) ?_
  · rw [List.take_take, Nat.min_self]; exact hasc
  · intro x
    rw [List.take_take, Nat.min_self, mem_take_succ hk]
    constructor
    · exact .inl
    · rintro (h | rfl)
      · exact h
      · rw [heq, List.mem_iff_getElem]
        exact ⟨k0 - 1, by simp; omega, by simp⟩
  · intro again s hsI hag
    obtain ⟨m', j', xs⟩ := s
    obtain ⟨m, j, P, g1, g2, g3, g4, g5, g6, g7, g8, g9, g10⟩ := hsI
    simp only at g1 g2 g8
    subst g1 g2
    simp only [slices_Compact_api_Ratio_api_Ratio_b2, uc_mk]
    rw [List.length_map, Int.toNat_natCast, Nat.zero_add]
    refine ok_bif (fun hc => ?_) fun hc => ?_
    · have hc' := of_decide_eq_true hc
      have hj : k0 + j < l.length := by omega
      have hb : k0 + j - 1 < l.length := by omega
      have hdrop : l.drop (k0 + j - 1) = l[k0 + j - 1] :: l.drop (k0 + j) := by
        rw [List.drop_eq_getElem_cons hb, show k0 + j - 1 + 1 = k0 + j by omega]
      have hQ : xs = ((P ++ [l[k0 + j - 1]]) ++ l.drop (k0 + j)).map encR := by rw [g8, hdrop]; simp
      have hQl : (P ++ [l[k0 + j - 1]]).length = k0 + j := by simp; omega
      have e1 : (List.take (l.length - k0) (List.drop k0 xs))[((j : Nat) : Int).toNat]? = some (encR l[k0 + j]) := by
        rw [Int.toNat_natCast, List.getElem?_take_of_lt (by omega), List.getElem?_drop, hQ, List.getElem?_map, List.getElem?_append_right (by omega), List.getElem?_drop, hQl]
        simp [hj]
      have e2 : (List.take (l.length - k0) (List.drop k0 xs))[((j : Int) - 1).toNat]? = some (encR l[k0 + j - 1]) := by
        rw [show ((j : Int) - 1).toNat = j - 1 by omega, List.getElem?_take_of_lt (by omega), List.getElem?_drop, hQ, List.getElem?_map, List.getElem?_append_left (by omega), show k0 + (j - 1) = P.length by omega]
        simp
      rw [w64 (x := (j : Int) - 1) (by omega) (by omega), gidx_of (by omega) e1, gidx_of (by omega) e2, beq_encR]
      rw [w64 (x := (j : Int) + 1) (by omega) (by omega)]
      by_cases hab : l[k0 + j] = l[k0 + j - 1]
      · rw [decide_eq_true hab, Bool.not_true, cond_false, Option.bind_some, uc_mk]
        refine hag _ ⟨m, j + 1, P ++ [l[k0 + j - 1]], rfl, by dsimp only; omega, by omega, by omega, by omega, by omega, by simp; omega, by dsimp only; rw [hQ]; rfl, ?_, fun x => ?_⟩ (by dsimp only; omega)
        · rw [List.take_append_of_le_length (by omega)]; exact g9
        · rw [List.take_append_of_le_length (by omega), g10 x, show k0 + (j + 1) = k0 + j + 1 by omega, mem_take_succ hj]
          constructor
          · exact .inl
          · rintro (h | rfl)
            · exact h
            · rw [hab, List.mem_iff_getElem]
              exact ⟨k0 + j - 1, by simp; omega, by simp⟩
      · rw [decide_eq_false hab, Bool.not_false, cond_true]
        have hxl : xs.length = l.length := by rw [hQ]; simp; omega
        refine Ok.bind (Q := fun r => r.1 = ((m + 1 : Nat) : Int) ∧ r.2 = (((P ++ [l[k0 + j - 1]]).set m l[k0 + j]) ++ l.drop (k0 + j)).map encR) (ok_idx (by omega) (by omega) fun hi => ok_let ?_) fun r hr => ?_
        · rw [w64 (x := (m : Int) + 1) (by omega) (by omega)]
          refine Ok.ret ⟨by dsimp only; omega, ?_⟩
          dsimp only
          rw [Int.toNat_natCast, hQ, ← List.map_set, List.set_append_left _ _ (by omega)]
        · obtain ⟨r1, r2⟩ := r
          obtain ⟨q1, q2⟩ := hr
          simp only at q1 q2
          subst q1 q2
          have hlt : l[k0 + j - 1] < l[k0 + j] := by
            have := sorted_le hs (i := k0 + j - 1) hj (by omega)
            exact rat_lt this hab
          have hset : ((P ++ [l[k0 + j - 1]]).set m l[k0 + j]).take (m + 1) = P.take m ++ [l[k0 + j]] := by
            rw [List.take_succ_eq_append_getElem (by simp; omega), List.take_set_of_le (Nat.le_refl m), List.take_append_of_le_length (by omega)]
            simp
          refine hag _ ⟨m + 1, j + 1, (P ++ [l[k0 + j - 1]]).set m l[k0 + j], rfl, by dsimp only; omega, by omega, by omega, by omega, by omega, by simp; omega, by dsimp only; rfl, ?_, fun x => ?_⟩ (by dsimp only; omega)
          · rw [hset]
            refine List.pairwise_append.2 ⟨g9, by simp, fun x hx y hy => ?_⟩
            rw [List.mem_singleton] at hy
            subst hy
            have hx' := (g10 x).1 hx
            rw [show k0 + j = k0 + j - 1 + 1 by omega] at hx'
            have := mem_take_le hs hb hx'
            exact rat_le_lt this hlt
          · rw [hset, List.mem_append, List.mem_singleton, g10 x, show k0 + (j + 1) = k0 + j + 1 by omega, mem_take_succ hj]
    · have hc' := of_decide_eq_false hc
      have hj : k0 + j = l.length := by omega
      refine Ok.ret ⟨m, P ++ l.drop (k0 + j - 1), rfl, by simp; omega, g8, by simp; omega, ?_, fun x => ?_⟩
      · rw [List.take_append_of_le_length (by omega)]; exact g9
      · rw [List.take_append_of_le_length (by omega), g10 x, hj, List.take_length]
theorem compact_ok {l : List Rat} (hs : l.Pairwise (· ≤ ·)) (hl : l.length ≤ 1000) : Ok (slices_Compact_api_Ratio_api_Ratio fuel (l.map encR)) (fun r => ∃ s : List Rat, r.1 = s.map encR ∧ s.Pairwise (· < ·) ∧ ∀ x, x ∈ s ↔ x ∈ l) := by
  unfold slices_Compact_api_Ratio_api_Ratio
  rw [List.length_map]
  refine ok_bif (fun hc => ?_) fun hc => ?_
  · have hc' := of_decide_eq_true hc
    refine Ok.ret ⟨l, rfl, ?_, fun x => Iff.rfl⟩
    match l, hc' with
    | [], _ => simp
    | [x], _ => simp
    | x :: y :: l, h => simp at h; omega
  · have hc' := of_decide_eq_false hc
    refine ok_sum (Q := fun _ => l.Pairwise (· < ·)) (R := fun r => ∃ s : List Rat, r.1 = s.map encR ∧ s.Pairwise (· < ·) ∧ ∀ x, x ∈ s ↔ x ∈ l) (ok_loop (fun i => ∃ n : Nat, i = (n : Int) ∧ 1 ≤ n ∧ n ≤ l.length ∧ (l.take n).Pairwise (· < ·)) (fun i => (1001 - i).toNat) ⟨1, rfl, by omega, by omega, ?_⟩ (by unfold fuel; omega) ?_) (fun _ h => Ok.ret ⟨l, rfl, h, fun x => Iff.rfl⟩) (fun r h => Ok.ret h)
    · match l with
      | [] => simp
      | x :: l => simp
    · intro again i hi hag
      obtain ⟨n, rfl, n1, n2, n3⟩ := hi
      simp only [slices_Compact_api_Ratio_api_Ratio_b1]
      rw [List.length_map]
      refine ok_bif (fun hc2 => ?_) fun hc2 => ?_
      · have hc2' := of_decide_eq_true hc2
        have hn : n < l.length := by omega
        have e1 : (l.map encR)[((n : Nat) : Int).toNat]? = some (encR l[n]) := by simp [hn]
        have e2 : (l.map encR)[((n : Int) - 1).toNat]? = some (encR l[n - 1]) := by
          rw [show ((n : Int) - 1).toNat = n - 1 by omega]
          simp [show n - 1 < l.length by omega]
        rw [w64 (x := (n : Int) - 1) (by omega) (by omega), gidx_of (by omega) e1, gidx_of (by omega) e2, beq_encR]
        by_cases hab : l[n] = l[n - 1]
        · rw [decide_eq_true hab, cond_true]
          refine ok_cut (by omega) (by omega) (by omega) (Ok.bind (compact_rest hs hl n1 hn n3 hab) fun r hr => ?_)
          obtain ⟨r1, r2⟩ := r
          obtain ⟨m, P, p1, p2, p3, p4, p5, p6⟩ := hr
          simp only at p1 p3
          subst p1 p3
          simp only [uc_mk, List.length_map, Int.toNat_natCast]
          refine ok_cut (by omega) (by omega) (by omega) (ok_let (ok_cut (by omega) (by omega) ?_ (Ok.ret ⟨P.take m, ?_, p5, p6⟩)))
          · rw [gclear_len]; simp; omega
          · dsimp only
            have := take_clear (xs := P.map encR) (z := (⟨0, 0⟩ : SRatio)) (m := m) (by simpa using p2)
            rw [List.length_map] at this
            rw [this, List.map_take]
        · rw [decide_eq_false hab, cond_false, w64 (x := (n : Int) + 1) (by omega) (by omega)]
          refine hag _ ⟨n + 1, by omega, by omega, by omega, ?_⟩ (by omega)
          rw [List.take_succ_eq_append_getElem hn]
          refine List.pairwise_append.2 ⟨n3, by simp, fun x hx y hy => ?_⟩
          rw [List.mem_singleton] at hy
          subst hy
          rw [show n = n - 1 + 1 by omega] at hx
          have h1 := mem_take_le hs (show n - 1 < l.length by omega) hx
          have h2 := sorted_le hs (i := n - 1) hn (by omega)
          exact rat_le_lt h1 (rat_lt h2 hab)
      · have hc2' := of_decide_eq_false hc2
        refine Ok.ret ?_
        have : n = l.length := by omega
        rw [this, List.take_length] at n3
        exact n3
end Go.VM
namespace Go.VM

theorem Equal_ok {k : Nat} {a : List SPoint} (h : a.length < k) (hl : a.length ≤ 1000000) : slices_Equal_api_Point_api_Point k a a = some true := by
  apply Ok.eq
  unfold slices_Equal_api_Point_api_Point
  rw [bne_self_eq_false, cond_false]
  refine ok_sum (Q := fun (_ : Unit) => True) (R := fun (_ : Bool) => False) (ok_range a (fun s => s) (fun _ _ => True) (by omega) rfl trivial h ?_ ?_) (fun _ _ => Ok.ret rfl) fun _ h => h.elim
  · intro again s pre e post hl hi hlt hw _ hag
    simp only [slices_Equal_api_Point_api_Point_b1]
    rw [dec_lt hlt, cond_true, gidx_mid hl hi, gidx_mid hl hi, hw]
    simp only [beq_self_eq_true, Bool.and_true, Bool.not_true, cond_false]
    exact hag _ rfl trivial
  · intro again s hi _
    simp only [slices_Equal_api_Point_api_Point_b1]
    rw [dec_nlt (by omega), cond_false]
    exact Ok.ret trivial
/-- Two curves with the same normal form. -/
theorem Same_ok {a b : List SPoint} {N : List Pt} (ha : conversion_Normal fuel a = some (N.map enc, 0)) (hb : conversion_Normal fuel b = some (N.map enc, 0)) (hl : N.length ≤ 1000) : conversion_Same fuel a b = some true := by
  unfold conversion_Same
  rw [ha, hb]
  simp only [Option.bind_some, uc_mk, beq_self_eq_true, Bool.and_true, blet_mk, cond_true]
  rw [Equal_ok (by simp; unfold fuel; omega) (by simp; omega)]
  rfl
end Go.VM
