/- The pure statement of ConversionRises: whatever the numbers, the printed function answers true. -/
import Derived.Test.YtoffminccignfaaCPCurveD
import Derived.Test.YtoffminccignfaaCPCurveE
import Derived.Test.YtoffminccignfaaCPCurveF
import Derived.Test.YtoffminccignfaaCPRatioC
namespace Go.VM
set_option linter.unusedVariables false
set_option linter.unusedSimpArgs false
theorem sane33_ok : law33_sane fuel = some true := by decide +kernel
theorem rrat_less {x y : Rat} (h : Sm x) (h' : Sm y) : ref01_Less fuel x.num x.den y.num y.den = some (decide (x < y)) := by
  rw [rLess_ok h.frac h'.frac (by have := h.2.2; unfold fuel; omega) (by have := h'.2.2; unfold fuel; omega)]
  congr 1
  rw [decide_eq_decide, Rat.lt_iff]
theorem beq_rat (x y : Rat) : ((x.num == y.num) && (((x.den : Int) == (y.den : Int)) && true)) = decide (x = y) := by
  rw [Bool.and_true, beq_int, beq_int]
  by_cases he : x = y
  · rw [he]; simp
  · rw [decide_eq_false he, Bool.and_eq_false_iff, decide_eq_false_iff_not, decide_eq_false_iff_not]
    by_cases hn : x.num = y.num
    · right
      intro hd
      exact he (Rat.ext hn (by omega))
    · left; exact hn
theorem coarse1 : Coarse 60 6 1200 10800 24 1300 := ⟨by decide, by decide, by decide, by decide, by decide, by decide, by decide, by decide⟩
theorem coarse2 : Coarse 60 6 1260 69840 24 1400 := ⟨by decide, by decide, by decide, by decide, by decide, by decide, by decide, by decide⟩
theorem pure_ConversionRises (t : List Int) (ht : ∀ x ∈ t, fitsI .i64 x) (hl : t.length * 8 ≤ 140737488351232) : ∃ k, law33_ConversionRises k t = some true := by
  refine ⟨fuel, Ok.eq ?_⟩
  unfold law33_ConversionRises mark_Light mark_Roll
  simp only [Option.bind_some, u0_mk]
  refine ok_bif (fun hc => by rw [sane33_ok]; exact Ok.ret rfl) fun hc => ?_
  have hx : t.length ≤ 600 := by simp only [Bool.not_eq_false', decide_eq_true_iff] at hc; omega
  refine Curve_then hx (Int.le_refl _) fun L j hM hj => ?_
  obtain ⟨hG, hL5, hint⟩ := hM
  have hN := hG.normal (by decide)
  obtain ⟨_, _, n3, n4, _⟩ := normalL_spec (P := fun _ => True) hG.asc hG.two
  have hNl := normal_len L
  have e1 := CNormal_ok hG coarse1 (by decide) (by omega)
  have e2 := CNormal_ok hN coarse2 (by decide) (by omega)
  rw [n4] at e2
  rw [e1]
  simp only [Option.bind_some, uc_mk, bne_self_eq_false, cond_false]
  rw [Same_ok e1 e2 (by omega)]
  simp only [Option.bind_some, Bool.not_true, cond_false]
  rw [CValid_ok hN.asc (hN.fine coarse2).1 hN.two (by omega)]
  simp only [Option.bind_some, Bool.not_true, cond_false]
  refine ok_sum (Q := fun (_ : Unit) => True) (R := fun (_ : Bool) => False) (ok_loop (fun (i : Int) => 0 ≤ i ∧ i ≤ L.length) (fun i => L.length - i.toNat) ⟨Int.le_refl _, by omega⟩ (by unfold fuel; omega) ?_) (fun _ _ => ?_) fun _ h => h.elim
  · intro again i hinv hag
    obtain ⟨g1, g2⟩ := hinv
    simp only [law33_ConversionRises_b2, List.length_map]
    refine ok_bif (fun hc => ?_) fun _ => Ok.ret trivial
    have hc' := of_decide_eq_true hc
    refine ok_idx g1 (by simpa using hc') fun hi => ?_
    have hi' : i.toNat < L.length := by omega
    have hm := List.getElem_mem hi'
    simp only [List.getElem_map]
    have hev := CEval_ok hG coarse1 (by omega) ((hG.xs _ hm).le (by decide))
    rw [evalL_at L hG.asc hG.two _ hm] at hev
    simp only [enc]
    rw [hev]
    simp only [Option.bind_some, uc_mk, blet_mk, bne_self_eq_false, beq_self_eq_true, Bool.and_true, Bool.not_true, Bool.or_false, cond_false]
    rw [w64 (x := i + 1) (by omega) (by omega)]
    exact hag _ ⟨by omega, by omega⟩ (by omega)
  · simp only [u0_mk]
    refine ok_sum (Q := fun (_ : Unit) => True) (R := fun (_ : Bool) => False) (ok_loop (fun s => 0 ≤ s.1 ∧ s.1 ≤ 5 ∧ 0 ≤ s.2) (fun s => 5 - s.1.toNat) ⟨Int.le_refl _, by dsimp only; omega, hj⟩ (by dsimp only [fuel]; omega) ?_) (fun _ _ => ?_) fun _ h => h.elim
    · intro again s hs hag
      obtain ⟨i, j⟩ := s
      obtain ⟨g1, g2, g3⟩ := hs
      simp only at g1 g2 g3
      simp only [law33_ConversionRises_b1, uc_mk]
      refine ok_bif (fun hc => ?_) fun _ => Ok.ret trivial
      have hc' := of_decide_eq_true hc
      refine Ratio_then hx g3 fun x j hgx hj => ?_
      refine Ratio_then hx hj fun y j hgy hj => ?_
      rw [CEval_ok hG coarse1 (by omega) (hgx.le (by decide)), CEval_ok hG coarse1 (by omega) (hgy.le (by decide)), CEval_ok hN coarse2 (by omega) (hgx.le (by decide)), n3]
      simp only [Option.bind_some, uc_mk, blet_mk, bne_self_eq_false, Bool.or_false, Bool.false_or]
      rw [beq_rat, beq_rat, beq_rat, decide_eq_true (show evalL L x = evalL L x from rfl), Bool.not_true]
      have sx := grid_sm hgx (by decide) (by decide) (by decide)
      have sy := grid_sm hgy (by decide) (by decide) (by decide)
      have vx := grid_sm (hG.eval hgx) (by decide) (by decide) (by decide)
      have vy := grid_sm (hG.eval hgy) (by decide) (by decide) (by decide)
      rw [rrat_less sx sy, rrat_less vx vy]
      have hlt := fun {x y : Rat} => @evalL_lt L hG.asc hG.two x y
      have d1 : decide (x < y) = decide (evalL L x < evalL L y) := by
        rw [decide_eq_decide]
        constructor
        · exact fun h => hlt h
        · intro h
          by_cases h1 : x < y
          · exact h1
          · by_cases h2 : y < x
            · have := hlt h2; grind
            · have : x = y := by grind
              rw [this] at h
              exact absurd h (Rat.lt_irrefl)
      have d2 : decide (x = y) = decide (evalL L x = evalL L y) := by
        rw [decide_eq_decide]
        constructor
        · intro h; rw [h]
        · intro h
          by_cases h1 : x < y
          · have := hlt h1; grind
          · by_cases h2 : y < x
            · have := hlt h2; grind
            · grind
      rw [d1, d2]
      simp only [Option.bind_some, cond_false, beq_self_eq_true, Bool.not_true, Bool.or_false]
      rw [w64 (x := i + 1) (by omega) (by omega)]
      exact hag _ ⟨by dsimp only; omega, by dsimp only; omega, hj⟩ (by dsimp only; omega)
    · rw [u0_mk, sane33_ok]
      exact Ok.ret rfl
end Go.VM
