/- The pure statement of EquatingMeans: whatever the numbers, the printed function answers true. -/
import Derived.Test.YtdebnihlkdabpaaMPEquB
import Derived.Test.YtdebnihlkdabpaaMPRatR
namespace Go.VM
set_option linter.unusedVariables false
set_option linter.unusedSimpArgs false
theorem sane34_ok : law34_sane fuel = some true := by decide +kernel
theorem beq_rat (x y : Rat) : ((x.num == y.num) && (((x.den : Int) == (y.den : Int)) && true)) = decide (x = y) := by
  rw [Bool.and_true, beq_int, beq_int]
  by_cases he : x = y
  · rw [he]; simp
  · rw [decide_eq_false he, Bool.and_eq_false_iff, decide_eq_false_iff_not, decide_eq_false_iff_not]
    by_cases hn : x.num = y.num
    · right
      intro hd
      exact he (Rat.ext hn (by omega))
    · left; exact hn
theorem Grid.cast {D D' B : Nat} {v : Rat} (h : D = D') (g : Grid D B v) : Grid D' B v := h ▸ g
theorem mul_le2 {a b c d : Nat} (h1 : a ≤ c) (h2 : b ≤ d) : a * b ≤ c * d := Nat.mul_le_mul h1 h2
theorem coarse_of {D E B C F B' : Nat} (d : D ≠ 0) (e : E ≠ 0) (hD : D ≤ 2000) (hE : E ≤ 22000000) (hB : B ≤ 2000) (hC : C ≤ 1000000000000) (hF : F ≤ 22000000) (hB' : B' ≤ 30000) : Coarse D E B C F B' := by
  have h1 := mul_le2 hD hE
  have h2 := mul_le2 (show C + C ≤ 2000000000000 by omega) hD
  have h3 := mul_le2 (show D * E ≤ 44000000000 by omega) (show B + B ≤ 4000 by omega)
  have h4 := mul_le2 (show B' + B ≤ 32000 by omega) hF
  exact ⟨d, e, by omega, by omega, by omega, by omega, by omega, by omega, by omega, by omega⟩
theorem dev_nonneg {d : List Int} (h : Seven d) : 0 ≤ devR d := by
  have h1 := h.few.far
  have h2 := h.pos
  rw [← Rat.num_nonneg]
  unfold devR
  have m2 : 0 < d.sum * d.sum := Int.mul_pos (by omega) (by omega)
  rw [← rnum_rat _ (by omega)]
  exact (rnum_le h1.1).1
theorem add_bound {x y : Rat} {A B : Nat} (hx : x.num.natAbs ≤ A ∧ x.den ≤ B) (hy : y.num.natAbs ≤ A ∧ y.den ≤ B) (h : A * B ≤ 500000000000000000) : (x.num.natAbs : Int) * y.den + (y.num.natAbs : Int) * x.den ≤ 1152921504606846976 := by
  have h1 := mul_le2 hx.1 hy.2
  have h2 := mul_le2 hy.1 hx.2
  rw [← Int.natCast_mul, ← Int.natCast_mul]
  omega
theorem pure_EquatingMeans (t : List Int) (ht : ∀ x ∈ t, fitsI .i64 x) (hl : t.length * 8 ≤ 140737488351232) : ∃ k, law34_EquatingMeans k t = some true := by
  refine ⟨fuel, Ok.eq ?_⟩
  unfold law34_EquatingMeans mark_Light mark_Roll
  simp only [Option.bind_some, u0_mk]
  refine ok_bif (fun hc => by rw [sane34_ok]; exact Ok.ret rfl) fun hc => ?_
  have hx : t.length ≤ 600 := by simp only [Bool.not_eq_false', decide_eq_true_iff] at hc; omega
  refine Dist_then hx (Int.le_refl _) (by unfold fuel; omega) (by omega) (by omega) fun a j hMa hj => ?_
  refine Dist_then hx hj (by unfold fuel; omega) (by omega) (by omega) fun b j hMb hj => ?_
  have sa := seven hMa
  have sb := seven hMb
  have fa := sa.few
  have fb := sb.few
  have a0 : a.sum ≠ 0 := by have := sa.pos; omega
  have b0 : b.sum ≠ 0 := by have := sb.pos; omega
  obtain ⟨N, hN⟩ : ∃ N, N = a.sum.toNat := ⟨_, rfl⟩
  obtain ⟨M, hM⟩ : ∃ M, M = b.sum.toNat := ⟨_, rfl⟩
  have hN1 : 1 ≤ N ∧ N ≤ 42 := by have := sa.pos; have := sa.sum; omega
  have hM1 : 1 ≤ M ∧ M ≤ 42 := by have := sb.pos; have := sb.sum; omega
  have gp := sa.mean
  have gq := sb.mean
  have gu := sa.dev
  have gv := sb.dev
  rw [← hN] at gp gu
  rw [← hM] at gq gv
  have du := dev_mul sa.pos
  have dv := dev_mul sb.pos
  rw [← hN] at du
  rw [← hM] at dv
  have u0 := dev_nonneg sa
  have v0 := dev_nonneg sb
  have NM := mul_le2 hN1.2 hM1.2
  have NN := mul_le2 hN1.2 hN1.2
  have MM := mul_le2 hM1.2 hM1.2
  have NN0 : N * N ≠ 0 := Nat.mul_ne_zero (by omega) (by omega)
  have MM0 : M * M ≠ 0 := Nat.mul_ne_zero (by omega) (by omega)
  have NM0 : N * M ≠ 0 := Nat.mul_ne_zero (by omega) (by omega)
  -- the line of the means
  have g1 : Grid (N * M) (252 * M) (meanR a) := gp.up M
  have g2 : Grid (N * M) (252 * N) (meanR b) := (gq.up N).cast (Nat.mul_comm M N)
  have one1 : ∀ D : Nat, Grid D D 1 := fun D => ⟨D, by rw [Rat.one_mul, Rat.intCast_natCast], by omega⟩
  have zero1 : ∀ D : Nat, Grid D 0 0 := fun D => ⟨0, by rw [Rat.zero_mul]; rfl, by omega⟩
  have gt : Grid (N * M) (252 * N + 252 * M) (meanR b - 1 * meanR a) := by rw [Rat.one_mul]; exact g2.sub g1
  have eM := EMean_ok fa fb a0 b0 (Mu.of (one1 1) gp (by decide) (by omega) (by omega) (by omega) (by omega) (by omega)) (by rw [Rat.one_mul]; exact Ad.of g2 (grid_neg g1) NM0 (by omega) (by omega) (by omega)) (Ad.of (one1 _) gt NM0 (by omega) (by omega) (by omega))
  have hG := lineL_grid (s := 1) (D := N) (E := M) (F := M) (by decide) (one1 M) gt
  have MN := mul_le2 hM1.2 hN1.2
  have hC : Coarse N M N (M * N + (252 * N + 252 * M)) M 300 := coarse_of (by omega) (by omega) (by omega) (by omega) (by omega) (by omega) (by omega) (by omega)
  have e1 := CEval_ok hG hC (by simp [lineL]) (gp.le (by omega))
  have e2 := CEval_ok hG hC (by simp [lineL]) (x := 1) ((one1 N).le (by omega))
  have e3 := CEval_ok hG hC (by simp [lineL]) (x := 0) ((zero1 N).le (by omega))
  rw [lineL_eval] at e1 e2 e3
  have v1 : meanR b - 1 * meanR a + meanR a * 1 = meanR b := by grind
  rw [v1] at e1
  rw [eM]
  simp only [Option.bind_some, uc_mk]
  rw [rmean_rat fa a0, rmean_rat fb b0]
  -- what the linear equating answers is asked later
  have hlin : (devR a = 0 ∨ devR b = 0) ∨ (devR a ≠ 0 ∧ devR b ≠ 0) := by
    by_cases h1 : devR a = 0
    · exact .inl (.inl h1)
    · by_cases h2 : devR b = 0
      · exact .inl (.inr h2)
      · exact .inr ⟨h1, h2⟩
  have hdiff := rrat_sub (x := meanR b - 1 * meanR a + 1 * 1) (y := meanR b - 1 * meanR a + 0 * 1)
    (grid_sn ((gt.add (one1 (N * M)) : Grid _ _ (meanR b - 1 * meanR a + 1))|> fun h => by rw [Rat.one_mul 1]; exact h) NM0 (by omega) (by omega))
    (grid_sn (by rw [Rat.zero_mul, Rat.add_zero]; exact gt) NM0 (by omega) (by omega))
    (add_bound (A := 252 * N + 252 * M + N * M) (B := N * M) ((gt.add (one1 (N * M)) : Grid _ _ (meanR b - 1 * meanR a + 1)).num NM0 |> fun h => by rw [Rat.one_mul 1]; exact h) (by rw [Rat.zero_mul, Rat.add_zero]; have := gt.num NM0; omega) (by have := mul_le2 (show 252 * N + 252 * M + N * M ≤ 30000 by omega) NM; omega))
  have vd : meanR b - 1 * meanR a + 1 * 1 - (meanR b - 1 * meanR a + 0 * 1) = 1 := by grind
  rw [vd] at hdiff
  simp only [Rat.one_num, Rat.one_den, Rat.zero_num, Rat.zero_den] at e2 e3 hdiff
  rw [show ((1 : Nat) : Int) = 1 from rfl] at e2 e3 hdiff
  have tail : ∀ (X : Option Bool), Ok X (fun x => x = true) → Ok X (fun x => x = true) := fun _ h => h
  rcases hlin with hd | ⟨hda, hdb⟩
  · rw [ELinear_no fa fb a0 b0 hd]
    simp only [Option.bind_some, uc_mk]
    rw [e1]
    simp only [Option.bind_some, uc_mk, bne_self_eq_false, blet_mk, Bool.or_false, Bool.false_or]
    rw [beq_rat, decide_eq_true rfl]
    simp only [Bool.not_true, cond_false, law34_whole, Option.bind_some, u0_mk]
    rw [e2]
    simp only [Option.bind_some, uc_mk]
    rw [e3]
    simp only [Option.bind_some, uc_mk]
    rw [hdiff]
    simp only [Option.bind_some, uc_mk, bne_self_eq_false, blet_mk, Bool.or_false, cond_false, beq_self_eq_true, Bool.and_true, Bool.not_true]
    rw [show ((10 : Int) != 0) = true from rfl, cond_true, sane34_ok]
    exact Ok.ret rfl
  · obtain ⟨FA, hFA⟩ : ∃ FA, FA = (farS a.sum (pts a 0) a 0).toNat := ⟨_, rfl⟩
    obtain ⟨FB, hFB⟩ : ∃ FB, FB = (farS b.sum (pts b 0) b 0).toNat := ⟨_, rfl⟩
    have ffa := fa.far
    have ffb := fb.far
    have cfa : (farS a.sum (pts a 0) a 0 : Rat) = (FA : Rat) := by
      rw [show farS a.sum (pts a 0) a 0 = ((FA : Nat) : Int) by omega, Rat.intCast_natCast]
    have cfb : (farS b.sum (pts b 0) b 0 : Rat) = (FB : Rat) := by
      rw [show farS b.sum (pts b 0) b 0 = ((FB : Nat) : Int) by omega, Rat.intCast_natCast]
    rw [cfa] at du
    rw [cfb] at dv
    have hFA1 : FA ≠ 0 := fun h => by
      rw [h] at du
      have := natCast_ne NN0
      have e : devR a * ((N * N : Nat) : Rat) = 0 := du
      rcases Rat.mul_eq_zero.1 e with h' | h'
      · exact hda h'
      · exact this h'
    have bFA : FA ≤ 12348 := by have := sa.far; omega
    have bFB : FB ≤ 12348 := by have := sb.far; omega
    obtain ⟨s, hs⟩ : ∃ s, s = devR b / devR a := ⟨_, rfl⟩
    have hsm : s * devR a = devR b := by rw [hs]; exact Rat.div_mul_cancel hda
    have upos : 0 < devR a := by grind
    have vpos : 0 < devR b := by grind
    have spos : 0 < s := (Rat.mul_pos_iff_of_pos_right upos).1 (by rw [hsm]; exact vpos)
    have gs : Grid (M * M * FA) (FB * (N * N)) s := by
      refine ⟨((FB * (N * N) : Nat) : Int), ?_, by omega⟩
      rw [Rat.intCast_natCast, Rat.natCast_mul, Rat.natCast_mul FB, ← du, ← dv, ← hsm]
      generalize ((N * N : Nat) : Rat) = z
      generalize ((M * M : Nat) : Rat) = w
      grind
    have E1 := mul_le2 MM bFA
    have F1 := mul_le2 bFB NN
    have E0 : M * M * FA ≠ 0 := Nat.mul_ne_zero MM0 hFA1
    obtain ⟨E, hE⟩ : ∃ E, E = M * M * FA := ⟨_, rfl⟩
    obtain ⟨F, hF⟩ : ∃ F, F = FB * (N * N) := ⟨_, rfl⟩
    have D0 : N * N * E ≠ 0 := Nat.mul_ne_zero NN0 (by omega)
    have D1 := mul_le2 NN (show E ≤ 21781872 by omega)
    have hK : M * (N * N * M * FA) = N * N * E := by rw [hE]; ac_rfl
    have hK2 : E * N * N = N * N * E := by ac_rfl
    rw [← hE, ← hF] at gs
    have gsp : Grid (N * N * E) (F * 252 * N) (s * meanR a) := ((gs.mul gp).up N).cast hK2
    have gqq : Grid (N * N * E) (252 * (N * N * M * FA)) (meanR b) := (gq.up (N * N * M * FA)).cast hK
    have gss : Grid (N * N * E) (F * (N * N)) s := (gs.up (N * N)).cast (Nat.mul_comm E (N * N))
    have q1 : F * 252 * N ≤ 230539333248 := by
      have := mul_le2 (show F * 252 ≤ 5489031744 by omega) hN1.2
      omega
    have q2 : 252 * (N * N * M * FA) ≤ 230539333248 := by
      have h1 := mul_le2 NN hM1.2
      have h2 := mul_le2 (show N * N * M ≤ 74088 by omega) bFA
      omega
    have q3 : F * (N * N) ≤ 38423222208 := by
      have := mul_le2 (show F ≤ 21781872 by omega) NN
      omega
    have gtt : Grid (N * N * E) (252 * (N * N * M * FA) + F * 252 * N) (meanR b - s * meanR a) := gqq.sub gsp
    have eD := mul_le2 (show E ≤ 21781872 by omega) hN1.2
    have dd := mul_le2 MM (show (12348 : Nat) ≤ 12348 by omega)
    set_option maxRecDepth 20000 in
    have hL := ELinear_ok fa fb a0 b0 hda hdb (by rw [← hs]; exact spos) (Di.of gv gu MM0 NN0 hda (by omega) (by omega) (by omega) (by omega) (by omega) (by omega)) (by rw [← hs]; exact Mu.of gs gp (by omega) (by omega) (by omega) (by omega) (by omega) (by omega)) (by rw [← hs]; exact Ad.of gqq (grid_neg gsp) D0 (by omega) (by omega) (by omega)) (by rw [← hs]; exact Ad.of gss gtt D0 (by omega) (by omega) (by omega))
    rw [← hs] at hL
    have hG2 := lineL_grid (s := s) (D := N * N) (E := E) (F := F) spos gs gtt
    have hC2 : Coarse (N * N) E (N * N) (F * (N * N) + (252 * (N * N * M * FA) + F * 252 * N)) F 30000 := coarse_of NN0 (by omega) (by omega) (by omega) (by omega) (by omega) (by omega) (by omega)
    have gpn : Grid (N * N) (252 * N) (meanR a) := gp.up N
    have gqm : Grid (M * M) (252 * M) (meanR b) := gq.up M
    have h1 := CEval_ok hG2 hC2 (by simp [lineL]) (gpn.le (by omega))
    have h2 := CEval_ok hG2 hC2 (by simp [lineL]) ((gpn.add gu).le (by omega))
    rw [lineL_eval] at h1 h2
    have w1 : meanR b - s * meanR a + meanR a * s = meanR b := by grind
    have w2 : meanR b - s * meanR a + (meanR a + devR a) * s = meanR b + devR b := by rw [← hsm]; grind
    rw [w1] at h1
    rw [w2] at h2
    have pn := gpn.num NN0
    have un := gu.num NN0
    have qn := gqm.num MM0
    have vn := gv.num MM0
    set_option maxRecDepth 20000 in
    have k1 := rrat_add (grid_sn gpn NN0 (by omega) (by omega)) (grid_sn gu NN0 (by omega) (by omega)) (add_bound (A := 30000) (B := 2000) (by omega) (by omega) (by omega))
    set_option maxRecDepth 20000 in
    have k2 := rrat_add (grid_sn gqm MM0 (by omega) (by omega)) (grid_sn gv MM0 (by omega) (by omega)) (add_bound (A := 30000) (B := 2000) (by omega) (by omega) (by omega))
    rw [hL]
    simp only [Option.bind_some, uc_mk]
    rw [e1]
    simp only [Option.bind_some, uc_mk, bne_self_eq_false, blet_mk, Bool.or_false, Bool.false_or]
    rw [beq_rat, decide_eq_true rfl]
    simp only [Bool.not_true, cond_false, law34_whole, Option.bind_some, u0_mk]
    rw [e2]
    simp only [Option.bind_some, uc_mk]
    rw [e3]
    simp only [Option.bind_some, uc_mk]
    rw [hdiff]
    simp only [Option.bind_some, uc_mk, bne_self_eq_false, blet_mk, Bool.or_false, cond_false, beq_self_eq_true, Bool.and_true, Bool.not_true]
    rw [rdev_rat fa a0, rdev_rat fb b0]
    simp only [Option.bind_some, uc_mk]
    rw [h1]
    simp only [Option.bind_some, uc_mk]
    rw [k1]
    simp only [Option.bind_some, uc_mk]
    rw [h2]
    simp only [Option.bind_some, uc_mk]
    rw [k2]
    simp only [Option.bind_some, uc_mk, beq_self_eq_true, Bool.and_true, cond_true, sane34_ok]
    exact Ok.ret rfl
end Go.VM
