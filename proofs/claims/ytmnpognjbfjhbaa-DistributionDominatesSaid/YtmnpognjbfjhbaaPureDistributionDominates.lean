/- The pure statement of DistributionDominates: whatever the numbers, the printed function answers true. -/
import Derived.Test.YtmnpognjbfjhbaaDPDistC
namespace Go.VM
set_option linter.unusedVariables false
set_option linter.unusedSimpArgs false
theorem sane32_ok : law32_sane 1000000 = some true := by decide +kernel
theorem bool_of {r : Bool} {p : Prop} [Decidable p] (h : r = true ↔ p) : r = decide p := by
  by_cases hp : p
  · rw [decide_eq_true hp]; exact h.2 hp
  · rw [decide_eq_false hp]
    cases r
    · rfl
    · exact absurd (h.1 rfl) hp
/-- A candidate goes from the score i to the next. -/
def gains (d : List Int) (i : Nat) : List Int := (d.set i (d.getD i 0 - 1)).set (i + 1) (d.getD (i + 1) 0 + 1)
theorem take_set_sum {d : List Int} {i n : Nat} (h : i < d.length) (v : Int) : ((d.set i v).take n).sum = (d.take n).sum + if i < n then v - d.getD i 0 else 0 := by
  induction n with
  | zero => simp
  | succ n ih =>
    by_cases hn : n < d.length
    · rw [take_succ_sum hn, take_succ_sum (d := d.set i v) (by simpa using hn), ih]
      by_cases hi : i = n
      · subst hi
        rw [List.getElem_set_self, if_neg (by omega), if_pos (by omega), getD_of h]
        omega
      · rw [List.getElem_set_ne hi]
        by_cases hin : i < n
        · rw [if_pos hin, if_pos (by omega)]; omega
        · rw [if_neg hin, if_neg (by omega)]; omega
    · rw [List.take_of_length_le (l := d.set i v) (by simp; omega), List.take_of_length_le (l := d) (by omega)] at ih ⊢
      rw [ih, if_pos (by omega), if_pos (by omega)]
theorem gains_take {d : List Int} {i n : Nat} (h : i + 1 < d.length) : ((gains d i).take n).sum = (d.take n).sum - if n = i + 1 then 1 else 0 := by
  unfold gains
  rw [take_set_sum (by simpa using h), take_set_sum (by omega)]
  have : (d.set i (d.getD i 0 - 1)).getD (i + 1) 0 = d.getD (i + 1) 0 := by
    simp [List.getD, List.getElem?_set_ne]
  rw [this]
  split <;> split <;> split <;> omega
theorem gains_len {d : List Int} {i : Nat} : (gains d i).length = d.length := by simp [gains]
theorem gains_sum {d : List Int} {i : Nat} (h : i + 1 < d.length) : (gains d i).sum = d.sum := by
  have := gains_take (n := d.length) h
  rw [take_all (d := gains d i) (by rw [gains_len]; exact Nat.le_refl _), take_all (Nat.le_refl _), if_neg (by omega)] at this
  omega
theorem pure_DistributionDominates (t : List Int) (ht : ∀ x ∈ t, fitsI .i64 x) (hl : t.length * 8 ≤ 140737488351232) (n : Int) (hn : fitsI .u8 n) : ∃ k, law32_DistributionDominates k t n = some true := by
  refine ⟨1000000, Ok.eq ?_⟩
  rw [fits8] at hn
  unfold law32_DistributionDominates mark_Light mark_Roll
  simp only [Option.bind_some, u0_mk]
  refine ok_bif (fun hc => by rw [sane32_ok]; exact Ok.ret rfl) fun hc => ?_
  have hx : t.length ≤ 600 := by simp only [Bool.not_eq_false', decide_eq_true_iff] at hc; omega
  refine Dist_then hx (Int.le_refl _) (by omega) (by omega) (by omega) fun a j hMa hj => ?_
  refine Dist_then hx hj (by omega) (by omega) (by omega) fun b j hMb hj => ?_
  refine Dist_then hx hj (by omega) (by omega) (by omega) fun c j hMc hj => ?_
  have ha := hMa.few (by omega)
  have hb := hMb.few (by omega)
  have hc := hMc.few (by omega)
  have has := ha.sum
  have hbs := hb.sum
  have hcs := hc.sum
  obtain ⟨rab, eab, iab⟩ := Dominates_ok (k := 1000000) ha hb (by omega)
  obtain ⟨rbc, ebc, ibc⟩ := Dominates_ok (k := 1000000) hb hc (by omega)
  obtain ⟨rac, eac, iac⟩ := Dominates_ok (k := 1000000) ha hc (by omega)
  obtain ⟨raa, eaa, iaa⟩ := Dominates_ok (k := 1000000) ha ha (by omega)
  rw [eab, ebc, eac, eaa]
  simp only [Option.bind_some]
  have hmeans : ∃ r152 r153 p q u v, distribution_Mean 1000000 a = some (p, q, r152) ∧ distribution_Mean 1000000 b = some (u, v, r153) ∧ (rab = true → r152 = 0 ∧ r153 = 0 ∧ ref01_Less 1000000 p q u v = some false) := by
    by_cases ha0 : a.sum = 0
    · refine ⟨10, _, 0, 0, _, _, Mean_no ha (by omega) ha0, (?_ : distribution_Mean 1000000 b = some ((distribution_Mean 1000000 b).get!.1, (distribution_Mean 1000000 b).get!.2.1, (distribution_Mean 1000000 b).get!.2.2)), fun h => absurd ha0 (iab.1 h).1⟩
      by_cases hb0 : b.sum = 0
      · rw [Mean_no hb (by omega) hb0]; rfl
      · rw [Mean_ok hb (by omega) hb0]; rfl
    · by_cases hb0 : b.sum = 0
      · exact ⟨0, 10, _, _, 0, 0, Mean_ok ha (by omega) ha0, Mean_no hb (by omega) hb0, fun h => absurd hb0 (iab.1 h).2.1⟩
      · refine ⟨0, 0, _, _, _, _, Mean_ok ha (by omega) ha0, Mean_ok hb (by omega) hb0, fun h => ⟨rfl, rfl, ?_⟩⟩
        rw [rLess_ok (mean_frac ha ha0) (mean_frac hb hb0) (mean_fuel ha ha0 (by omega)) (mean_fuel hb hb0 (by omega))]
        congr 1
        refine decide_eq_false fun hlt => ?_
        rw [rless (by omega) (by omega)] at hlt
        have := (iab.1 h).mean
        omega
  obtain ⟨r152, r153, p, q, u, v, em1, em2, hm⟩ := hmeans
  rw [em1, em2]
  simp only [Option.bind_some, uc_mk]
  -- the first guard
  have g1 : (bif rab then some rbc else some false : Option Bool) = some (rab && rbc) := by cases rab <;> rfl
  rw [g1, Option.bind_some]
  have g2 : (bif rab && rbc then some (!rac) else some false : Option Bool) = some false := by
    cases h1 : rab
    · rfl
    · cases h2 : rbc
      · rfl
      · have := iac.2 (Dom.trans hbs.1 has.1 hcs.1 (iab.1 h1) (ibc.1 h2))
        rw [this]; rfl
  rw [g2, Option.bind_some, cond_false, Count_ok ha (by omega), Option.bind_some]
  have g3 : (bif decide (a.sum > 0) then some (!raa) else some false : Option Bool) = some false := by
    by_cases h0 : a.sum > 0
    · rw [decide_eq_true h0, iaa.2 (Dom.refl (by omega))]; rfl
    · rw [decide_eq_false h0]; rfl
  rw [g3]
  simp only [Option.bind_some, cond_false]
  have g4 : (bif rab then blet (r152 != 0 || r153 != 0) fun x21 => Option.bind (bif x21 then some true else Option.bind (ref01_Less 1000000 p q u v) fun r120 => some r120 : Option Bool) (fun x22 => some x22) else some false : Option Bool) = some false := by
    cases h : rab
    · rfl
    · obtain ⟨h1, h2, h3⟩ := hm h
      rw [h1, h2, h3]
      rfl
  refine Ok.bind (Q := fun r => r = false) (Ok.mk g4 rfl) fun r hr => ?_
  subst hr
  rw [cond_false]
  have hal1 := ha.1
  have hal2 := ha.2.1
  refine ok_nz (by omega) ?_
  rw [w64 (x := n) (by omega) (by omega), Int.tmod_eq_emod_of_nonneg hn.1]
  have i0 := Int.emod_nonneg n (show (a.length : Int) ≠ 0 by omega)
  have i1 := Int.emod_lt_of_pos n (show 0 < (a.length : Int) by omega)
  generalize n % (a.length : Int) = i at *
  refine ok_idx i0 i1 fun hi => ?_
  rw [w64 (x := i + 1) (by omega) (by omega)]
  have hai := ha.2.2 a[i.toNat] (List.getElem_mem hi)
  have hgd := getD_of hi
  refine Ok.bind (Q := fun r => r.1 = i ∧ (r.2 = false → a[i.toNat] ≠ 0 ∧ i + 1 < a.length)) (ok_bif (fun h => Ok.ret ⟨rfl, fun h => (by cases h)⟩) fun h => Ok.ret ⟨rfl, fun h2 => ?_⟩) fun r hr => ?_
  · rw [beq_int] at h h2
    have h' := of_decide_eq_false h
    have h2' := of_decide_eq_false h2
    exact ⟨h', by omega⟩
  obtain ⟨r1, x18⟩ := r
  obtain ⟨hr1, hr2⟩ := hr
  simp only at hr1 hr2
  subst hr1
  simp only [uc_mk]
  refine ok_bif (fun _ => by rw [sane32_ok]; exact Ok.ret rfl) fun hx18 => ?_
  obtain ⟨h1, h2⟩ := hr2 hx18
  have hai2 := hai
  rw [w64 (x := r1 + 1) (by omega) (by omega)]
  refine ok_cap (by omega) (ok_idx i0 i1 fun _ => ?_)
  rw [w64 (x := a[r1.toNat] - 1) (by omega) (by omega)]
  refine ok_let (ok_idx (by omega) (by simpa using h2) fun hi2 => ok_let ?_)
  have hi3 : (r1 + 1).toNat < a.length := by omega
  have ei : (r1 + 1).toNat = r1.toNat + 1 := by omega
  rw [List.getElem_set_ne (by omega)]
  have ha3 := ha.2.2 a[(r1 + 1).toNat] (List.getElem_mem hi3)
  rw [w64 (x := a[(r1 + 1).toNat] + 1) (by omega) (by omega)]
  have hup : (a.set r1.toNat (a[r1.toNat] - 1)).set (r1 + 1).toNat (a[(r1 + 1).toNat] + 1) = gains a r1.toNat := by
    unfold gains
    rw [getD_of hi, getD_of (i := r1.toNat + 1) (by omega)]
    simp only [ei]
  rw [hup]
  have hgs := gains_sum (d := a) (i := r1.toNat) (by omega)
  have hgf : Few (gains a r1.toNat) := by
    refine ⟨by rw [gains_len]; omega, by rw [gains_len]; omega, fun x hx => ?_⟩
    have hM : ∀ y ∈ a, 0 ≤ y ∧ y ≤ 6 := fun y hy => by have := hMa.2.2 y hy; simpa using this
    unfold gains at hx
    have m1 := hM _ (List.getElem_mem hi)
    have m2 := hM _ (List.getElem_mem hi3)
    rcases List.mem_or_eq_of_mem_set hx with hx | rfl
    · rcases List.mem_or_eq_of_mem_set hx with hx | rfl
      · have := hM x hx; omega
      · rw [getD_of hi]; omega
    · rw [getD_of (i := r1.toNat + 1) (by omega)]
      simp only [ei] at m2
      omega
  have hpos : 0 < a.sum := by
    have t1 := take_succ_sum hi
    have t2 := ha.take r1.toNat
    have t3 := take_le (d := a) (fun x hx => (ha.2.2 x hx).1) (m := r1.toNat + 1) (n := a.length) (by omega)
    rw [take_all (Nat.le_refl _)] at t3
    omega
  obtain ⟨rua, eua, iua⟩ := Dominates_ok (k := 1000000) hgf ha (by omega)
  obtain ⟨rau, eau, iau⟩ := Dominates_ok (k := 1000000) ha hgf (by omega)
  have h3 : rua = true := iua.2 ⟨by omega, by omega, fun s => by
    rw [gains_take (by omega), hgs]
    refine Int.mul_le_mul_of_nonneg_right ?_ has.1
    split <;> omega⟩
  have h4 : rau = false := by
    cases h : rau
    · rfl
    · have := (iau.1 h).2.2 (r1.toNat + 1)
      rw [gains_take (by omega), hgs, if_pos rfl, Int.sub_mul] at this
      omega
  rw [eua, eau, h3, h4]
  simp only [Option.bind_some, cond_true, Bool.not_false, sane32_ok]
  exact Ok.ret rfl
end Go.VM
