/- Percentile equating: what its loop computes. Plain reasoning about the printed functions. -/
import Derived.Test.YtdebnihlkdabpaaHPPercC
namespace Go.VM
set_option linter.unusedVariables false
set_option linter.unusedSimpArgs false

def half (i : Nat) : Rat := wR (i : Int) 0 1
def percGo (x y : List Int) : Nat → Nat → Nat → List Pt
  | 0, _, _ => []
  | f + 1, i, k => if i ≤ x.length ∧ k ≤ y.length then
      if cum x i * y.sum < cum y k * x.sum then ⟨half i, wR ((k : Int) - 1) (cum x i * y.sum - cum y (k - 1) * x.sum) (y.getD (k - 1) 0 * x.sum)⟩ :: percGo x y f (i + 1) k
      else if cum y k * x.sum < cum x i * y.sum then ⟨wR ((i : Int) - 1) (cum y k * x.sum - cum x (i - 1) * y.sum) (x.getD (i - 1) 0 * y.sum), half k⟩ :: percGo x y f i (k + 1)
      else ⟨half i, half k⟩ :: percGo x y f (i + 1) (k + 1)
    else []
theorem cum_zero (d : List Int) : cum d 0 = 0 := rfl
theorem cum_all {d : List Int} {i : Nat} (h : d.length ≤ i) : cum d i = d.sum := by unfold cum; exact take_all h
theorem Full.mono {d : List Int} (h : Full d) {i j : Nat} (hij : i ≤ j) : Go.VM.cum d i ≤ Go.VM.cum d j := take_le (fun x hx => by have := h.ones x hx; omega) hij
theorem Full.prod {x y : List Int} (hx : Full x) (hy : Full y) (i : Nat) : 0 ≤ Go.VM.cum x i * y.sum ∧ Go.VM.cum x i * y.sum ≤ 1764 := by
  have h1 := hx.cum i
  have h2 := hx.sum
  have h3 := hy.pos
  have h4 := hy.sum
  have := mul_hi h1.1 (show Go.VM.cum x i ≤ 42 by omega) (show 0 ≤ y.sum by omega) h4
  omega
theorem Full.dprod {x y : List Int} (hx : Full x) (hy : Full y) {i : Nat} (hi : i < x.length) : 1 ≤ x.getD i 0 * y.sum ∧ x.getD i 0 * y.sum ≤ 252 := by
  have h1 := hx.one hi
  have h3 := hy.pos
  have h4 := hy.sum
  have := mul_hi (show 0 ≤ x.getD i 0 by omega) h1.2 (show 0 ≤ y.sum by omega) h4
  have := Int.mul_pos (show 0 < x.getD i 0 by omega) (show 0 < y.sum by omega)
  omega
theorem pBelow_ok {d : List Int} (h : Full d) {i : Nat} : distribution_Below fuel d (i : Int) = some (cum d i) := by
  rw [Below_ok h.few (by unfold fuel; omega), Int.toNat_natCast]
  rfl
theorem Full.cum_pos {d : List Int} (h : Full d) {i : Nat} (hi : 0 < i) : 0 < Go.VM.cum d i := by
  have h1 := h.mono (show 1 ≤ i by omega)
  have h2 : 0 < d.length := by have := h.few.1; omega
  have h3 := cum_succ h2
  have h4 := h.one h2
  rw [cum_zero, Nat.zero_add] at h3
  omega
/-- What holds at the head of the loop. -/
structure Head (x y : List Int) (i k : Nat) : Prop where
  iL : i ≤ x.length + 1
  kL : k ≤ y.length + 1
  ik : 0 < k → cum y (k - 1) * x.sum ≤ cum x i * y.sum
  ki : 0 < i → cum x (i - 1) * y.sum ≤ cum y k * x.sum
theorem Head.left {x y : List Int} {i k : Nat} (hx : Full x) (h : Head x y i k) (hy : Full y) (hi : i ≤ x.length) (hk : k ≤ y.length) (hlt : cum x i * y.sum < cum y k * x.sum) : Head x y (i + 1) k :=
  ⟨by omega, h.kL, fun h0 => Int.le_trans (h.ik h0) (Int.mul_le_mul_of_nonneg_right (hx.mono (by omega)) (by have := hy.pos; omega)), fun _ => Int.le_of_lt hlt⟩
theorem Head.right {x y : List Int} {i k : Nat} (hx : Full x) (h : Head x y i k) (hy : Full y) (hi : i ≤ x.length) (hk : k ≤ y.length) (hlt : cum y k * x.sum < cum x i * y.sum) : Head x y i (k + 1) :=
  ⟨h.iL, by omega, fun _ => Int.le_of_lt hlt, fun h0 => Int.le_trans (h.ki h0) (Int.mul_le_mul_of_nonneg_right (hy.mono (by omega)) (by have := hx.pos; omega))⟩
theorem Head.both {x y : List Int} {i k : Nat} (hx : Full x) (h : Head x y i k) (hy : Full y) (hi : i ≤ x.length) (hk : k ≤ y.length) (he : cum y k * x.sum = cum x i * y.sum) : Head x y (i + 1) (k + 1) :=
  ⟨by omega, by omega, fun _ => by rw [Nat.add_sub_cancel, he]; exact Int.mul_le_mul_of_nonneg_right (hx.mono (by omega)) (by have := hy.pos; omega), fun _ => by rw [Nat.add_sub_cancel, ← he]; exact Int.mul_le_mul_of_nonneg_right (hy.mono (by omega)) (by have := hx.pos; omega)⟩
theorem Percentile_ok {x y : List Int} (hx : Full x) (hy : Full y) : equating_Percentile fuel x y = Option.bind (conversion_Normal fuel ((percGo x y 20 0 0).map enc)) (uc fun r s => some (r, s)) := by
  have lx := hx.len
  have ly := hy.len
  unfold equating_Percentile
  rw [Valid_ok hx.few (by unfold fuel; omega), Valid_ok hy.few (by unfold fuel; omega)]
  simp only [Option.bind_some, Bool.not_true, cond_false]
  rw [Contains_ok (fun e he => (hx.ones e he).1) (by omega) (by unfold fuel; omega), Contains_ok (fun e he => (hy.ones e he).1) (by omega) (by unfold fuel; omega)]
  simp only [Option.bind_some, cond_false]
  rw [Count_ok hx.few (by unfold fuel; omega), Count_ok hy.few (by unfold fuel; omega)]
  simp only [Option.bind_some]
  obtain ⟨L, hL⟩ : ∃ L, L = percGo x y 20 0 0 := ⟨_, rfl⟩
  rw [← hL]
  have key : (gloop (equating_Percentile_b1 fuel x y x.sum y.sum) fuel (0, 0, ([] : List SPoint)) : Option ((List SPoint) ⊕ ((List SPoint) × Int))) = some (Sum.inl (L.map enc)) := by
    apply Ok.eq
    refine ok_loop (fun s => ∃ (i k f : Nat) (C : List Pt), s = ((i : Int), (k : Int), C.map enc) ∧ C ++ percGo x y f i k = L ∧ (x.length + 1 - i) + (y.length + 1 - k) < f ∧ Head x y i k ∧ C.length ≤ i + k) (fun s => (x.length + 1 - s.1.toNat) + (y.length + 1 - s.2.1.toNat)) ⟨0, 0, 20, [], rfl, by rw [hL]; rfl, by omega, ⟨by omega, by omega, fun h => by omega, fun h => by omega⟩, by simp⟩ (by dsimp only [fuel]; omega) ?_
    intro again s hs hag
    obtain ⟨i, k, f, C, rfl, g1, g2, g3, g4⟩ := hs
    obtain ⟨f, rfl⟩ : ∃ f', f = f' + 1 := ⟨f - 1, by omega⟩
    have p1 := g3.iL
    have p2 := g3.kL
    simp only [equating_Percentile_b1, uc_mk, blet_mk]
    by_cases hc : i ≤ x.length ∧ k ≤ y.length
    · obtain ⟨hi, hk⟩ := hc
      rw [decide_eq_true (show (i : Int) ≤ x.length by omega), decide_eq_true (show (k : Int) ≤ y.length by omega)]
      simp only [Bool.and_true, cond_true]
      rw [pBelow_ok hx, pBelow_ok hy]
      simp only [Option.bind_some]
      have a1 := hx.prod hy i
      have b1 := hy.prod hx k
      have a2 := hx.prod hy (i - 1)
      have b2 := hy.prod hx (k - 1)
      rw [within_ok (s := (i : Int)) (by omega) (by omega) (by omega) (by omega) (by omega) (by omega), within_ok (s := (k : Int)) (by omega) (by omega) (by omega) (by omega) (by omega) (by omega)]
      simp only [Option.bind_some, uc_mk]
      rw [w64 (x := cum x i * y.sum) (by omega) (by omega), w64 (x := cum y k * x.sum) (by omega) (by omega)]
      simp only [percGo, if_pos (show i ≤ x.length ∧ k ≤ y.length from ⟨hi, hk⟩)] at g1
      by_cases h1 : cum x i * y.sum < cum y k * x.sum
      · rw [decide_eq_true h1, cond_true]
        rw [if_pos h1] at g1
        have hk0 : 0 < k := by
          rcases Nat.eq_zero_or_pos k with h | h
          · subst h; rw [cum_zero] at h1; omega
          · exact h
        have q1 := g3.ik hk0
        have d1 := hy.dprod hx (i := k - 1) (by omega)
        have e1 : IntKind.wrap .i64 ((k : Int) - 1) = ((k - 1 : Nat) : Int) := by rw [w64 (by omega) (by omega)]; omega
        rw [e1]
        refine Ok.bind (Q := fun r => r = ((i : Int) + 1, (k : Int), 0, 0, (half i).num, ((half i).den : Int), (wR ((k : Int) - 1) (cum x i * y.sum - cum y (k - 1) * x.sum) (y.getD (k - 1) 0 * x.sum)).num, ((wR ((k : Int) - 1) (cum x i * y.sum - cum y (k - 1) * x.sum) (y.getD (k - 1) 0 * x.sum)).den : Int))) (ok_idx (by omega) (by omega) fun hi2 => ?_) fun r hr => ?_
        · have e2 : y[((k - 1 : Nat) : Int).toNat] = y.getD (k - 1) 0 := by rw [getD_of (by omega)]; congr 1
          rw [e2, pBelow_ok hy]
          simp only [Option.bind_some]
          rw [w64 (x := cum y (k - 1) * x.sum) (by omega) (by omega), w64 (x := cum x i * y.sum - cum y (k - 1) * x.sum) (by omega) (by omega), w64 (x := y.getD (k - 1) 0 * x.sum) (by omega) (by omega), within_ok (by omega) (by omega) (by omega) (by omega) (by omega) (by omega)]
          simp only [Option.bind_some, uc_mk]
          rw [w64 (x := (i : Int) + 1) (by omega) (by omega), show (((k - 1 : Nat) : Int)) = (k : Int) - 1 by omega]
          exact Ok.ret rfl
        · subst hr
          simp only [uc_mk, bne_self_eq_false, Bool.or_false, blet_mk, cond_false]
          refine ok_cap (by simp; omega) (hag _ ⟨i + 1, k, f, C ++ [⟨half i, wR ((k : Int) - 1) (cum x i * y.sum - cum y (k - 1) * x.sum) (y.getD (k - 1) 0 * x.sum)⟩], ?_, ?_, by omega, g3.left hx hy hi hk h1, by simp; omega⟩ (by dsimp only; omega))
          · simp [enc]
          · rw [List.append_assoc]; exact g1
      · rw [decide_eq_false h1, cond_false]
        rw [if_neg h1] at g1
        by_cases h2 : cum y k * x.sum < cum x i * y.sum
        · rw [decide_eq_true h2, cond_true]
          rw [if_pos h2] at g1
          have hi0 : 0 < i := by
            rcases Nat.eq_zero_or_pos i with h | h
            · subst h; rw [cum_zero] at h2; omega
            · exact h
          have q1 := g3.ki hi0
          have d1 := hx.dprod hy (i := i - 1) (by omega)
          have e1 : IntKind.wrap .i64 ((i : Int) - 1) = ((i - 1 : Nat) : Int) := by rw [w64 (by omega) (by omega)]; omega
          rw [e1]
          refine Ok.bind (Q := fun r => r = ((i : Int), (k : Int) + 1, 0, 0, (wR ((i : Int) - 1) (cum y k * x.sum - cum x (i - 1) * y.sum) (x.getD (i - 1) 0 * y.sum)).num, ((wR ((i : Int) - 1) (cum y k * x.sum - cum x (i - 1) * y.sum) (x.getD (i - 1) 0 * y.sum)).den : Int), (half k).num, ((half k).den : Int))) (ok_idx (by omega) (by omega) fun hi2 => ?_) fun r hr => ?_
          · have e2 : x[((i - 1 : Nat) : Int).toNat] = x.getD (i - 1) 0 := by rw [getD_of (by omega)]; congr 1
            rw [e2, pBelow_ok hx]
            simp only [Option.bind_some]
            rw [w64 (x := cum x (i - 1) * y.sum) (by omega) (by omega), w64 (x := cum y k * x.sum - cum x (i - 1) * y.sum) (by omega) (by omega), w64 (x := x.getD (i - 1) 0 * y.sum) (by omega) (by omega), within_ok (by omega) (by omega) (by omega) (by omega) (by omega) (by omega)]
            simp only [Option.bind_some, uc_mk]
            rw [w64 (x := (k : Int) + 1) (by omega) (by omega), show (((i - 1 : Nat) : Int)) = (i : Int) - 1 by omega]
            exact Ok.ret rfl
          · subst hr
            simp only [uc_mk, bne_self_eq_false, Bool.or_false, blet_mk, cond_false]
            refine ok_cap (by simp; omega) (hag _ ⟨i, k + 1, f, C ++ [⟨wR ((i : Int) - 1) (cum y k * x.sum - cum x (i - 1) * y.sum) (x.getD (i - 1) 0 * y.sum), half k⟩], ?_, ?_, by omega, g3.right hx hy hi hk h2, by simp; omega⟩ (by dsimp only; omega))
            · simp [enc]
            · rw [List.append_assoc]; exact g1
        · rw [decide_eq_false h2, cond_false]
          rw [if_neg h2] at g1
          simp only [Option.bind_some, uc_mk, bne_self_eq_false, Bool.or_false, blet_mk, cond_false]
          rw [w64 (x := (i : Int) + 1) (by omega) (by omega), w64 (x := (k : Int) + 1) (by omega) (by omega)]
          refine ok_cap (by simp; omega) (hag _ ⟨i + 1, k + 1, f, C ++ [⟨half i, half k⟩], ?_, ?_, by omega, g3.both hx hy hi hk (by omega), by simp; omega⟩ (by dsimp only; omega))
          · simp [enc, half]
          · rw [List.append_assoc]; exact g1
    · have hd : (decide ((i : Int) ≤ x.length) && decide ((k : Int) ≤ y.length)) = false := by
        simp only [Bool.and_eq_false_iff, decide_eq_false_iff_not]; omega
      rw [hd, cond_false]
      simp only [percGo, if_neg hc, List.append_nil] at g1
      exact Ok.ret (by rw [g1])
  rw [key]
  rfl
end Go.VM
