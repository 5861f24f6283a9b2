/- Means, quantiles and dominance: plain reasoning about the printed functions. -/
import Derived.Test.YtmnpognjbfjhbaaDPDistA
import Derived.Test.YtmnpognjbfjhbaaDPRatioC
namespace Go.VM
set_option linter.unusedVariables false
set_option linter.unusedSimpArgs false

theorem check_ok {k : Nat} {d : List Int} (h : Few d) (hk : 50 < k) : distribution_check k d = some (if d.sum = 0 then 10 else 0) := by
  unfold distribution_check
  rw [Valid_ok h hk, Count_ok h hk]
  simp only [Option.bind_some, Bool.not_true, cond_false, beq_int]
  by_cases h0 : d.sum = 0
  · rw [decide_eq_true h0, cond_true, if_pos h0]
  · rw [decide_eq_false h0, cond_false, if_neg h0]

/-! ### points and means -/
/-- The sum of all scores, when the first count is that of the score i. -/
def pts : List Int → Int → Int
  | [], _ => 0
  | x :: d, i => i * x + pts d (i + 1)
theorem pts_append (a b : List Int) (i : Int) : pts (a ++ b) i = pts a i + pts b (i + a.length) := by
  induction a generalizing i with
  | nil => simp [pts]
  | cons x a ih =>
    simp only [List.cons_append, pts, ih, List.length_cons]
    rw [show i + 1 + (a.length : Int) = i + ((a.length + 1 : Nat) : Int) by omega]
    omega
theorem pts_snoc (a : List Int) (x : Int) : pts (a ++ [x]) 0 = pts a 0 + a.length * x := by
  rw [pts_append]; simp [pts]
theorem pts_bound {d : List Int} (h : ∀ x ∈ d, 0 ≤ x ∧ x ≤ 1000) {i : Int} (h0 : 0 ≤ i) {m : Int} (hm : i + d.length ≤ m) : 0 ≤ pts d i ∧ pts d i ≤ m * 1000 * d.length := by
  induction d generalizing i with
  | nil => simp [pts]
  | cons x d ih =>
    have hx := h x (by simp)
    have := ih (fun y hy => h y (by simp [hy])) (i := i + 1) (by omega) (by simp at hm; omega)
    simp only [pts, List.length_cons] at hm ⊢
    have p0 := Int.mul_nonneg h0 hx.1
    have p1 : i * x ≤ m * 1000 := Int.mul_le_mul (by omega) hx.2 hx.1 (by omega)
    rw [show ((d.length + 1 : Nat) : Int) = (d.length : Int) + 1 by omega, Int.mul_add]
    omega
theorem Few.pts {d : List Int} (h : Few d) : 0 ≤ pts d 0 ∧ Go.VM.pts d 0 ≤ 1600000 := by
  have := pts_bound h.2.2 (i := 0) (by omega) (m := 40) (by have := h.2.1; omega)
  have := h.2.1
  omega
theorem points_ok {k : Nat} {d : List Int} (h : Few d) (hk : 50 < k) : distribution_points k d = some (pts d 0) := by
  apply Ok.eq
  have hl := h.2.1
  unfold distribution_points
  refine Ok.bind (Q := fun r => r = pts d 0) (ok_range d (fun s => s.2) (fun pre s => s.1 = pts pre 0) (by omega) rfl rfl (by omega) ?_ ?_) fun r hr => Ok.ret hr
  · intro again s pre e post hl' hi hlt hw hinv hag
    obtain ⟨n, i⟩ := s
    simp only at hi hlt hw hinv
    simp only [distribution_points_b1, uc_mk]
    rw [dec_lt hlt, cond_true, gidx_mid hl' hi, hw]
    have he := h.2.2 e (by rw [hl']; simp)
    have hpl : pre.length ≤ 40 := by rw [hl'] at hl; simp at hl; omega
    have h2 := pts_bound (d := pre) (fun x hx => h.2.2 x (by rw [hl']; simp [hx])) (i := 0) (by omega) (m := 40) (by omega)
    have p0 : 0 ≤ i * e := Int.mul_nonneg (by omega) he.1
    have p1 : i * e ≤ 40 * 1000 := Int.mul_le_mul (by omega) he.2 he.1 (by omega)
    rw [w64 (x := i * e) (by omega) (by omega), w64 (x := n + i * e) (by omega) (by omega)]
    exact hag _ rfl (by dsimp only; rw [pts_snoc, hinv, ← hi])
  · intro again s hi hinv
    obtain ⟨n, i⟩ := s
    simp only at hi hinv
    simp only [distribution_points_b1, uc_mk]
    rw [dec_nlt (by omega), cond_false]
    exact Ok.ret hinv
theorem Mean_no {k : Nat} {d : List Int} (h : Few d) (hk : 50 < k) (h0 : d.sum = 0) : distribution_Mean k d = some (0, 0, 10) := by
  unfold distribution_Mean
  rw [check_ok h hk, if_pos h0]
  rfl
theorem Mean_ok {k : Nat} {d : List Int} (h : Few d) (hk : 100000 < k) (h0 : d.sum ≠ 0) : distribution_Mean k d = some (rnum (pts d 0) d.sum, rden (pts d 0) d.sum, 0) := by
  have h1 := h.pts
  have h2 := h.sum
  unfold distribution_Mean
  rw [check_ok h (by omega), if_neg h0, points_ok h (by omega), Count_ok h (by omega), Option.bind_some, Option.bind_some, Option.bind_some, New_ok (by omega) (by omega) (by omega) (by omega) (by omega)]
  rfl
theorem mean_frac {d : List Int} (h : Few d) (h0 : d.sum ≠ 0) : Frac (rnum (pts d 0) d.sum) (rden (pts d 0) d.sum) := by
  have h1 := h.pts
  have h2 := h.sum
  exact frac_new (by omega) (by omega) (by omega) (by omega)
theorem mean_fuel {d : List Int} (h : Few d) (h0 : d.sum ≠ 0) {k : Nat} (hk : 100000 < k) : (rden (pts d 0) d.sum).toNat < k := by
  have h2 := h.sum
  have := rden_le (n := pts d 0) (d := d.sum) (by omega)
  omega

/-! ### dominance -/
/-- How many are below each of the scores under n, in all. -/
def sumB (d : List Int) : Nat → Int
  | 0 => 0
  | n + 1 => sumB d n + (d.take n).sum
theorem pts_take (d : List Int) (n : Nat) : pts (d.take n) 0 = (n - 1) * (d.take n).sum - sumB d n := by
  induction n with
  | zero => simp [pts, sumB]
  | succ n ih =>
    by_cases h : n < d.length
    · rw [take_succ_sum h, List.take_add_one, List.getElem?_eq_getElem h, Option.toList_some, pts_snoc, ih]
      simp only [sumB, List.length_take]
      rw [show ((min n d.length : Nat) : Int) = n by omega, show ((n + 1 : Nat) : Int) - 1 = n by omega, Int.mul_add, Int.sub_mul]
      omega
    · rw [List.take_of_length_le (by omega)] at ih
      rw [List.take_of_length_le (by omega)]
      simp only [sumB]
      rw [List.take_of_length_le (by omega), show ((n + 1 : Nat) : Int) - 1 = (n : Int) - 1 + 1 by omega, Int.add_mul, ih]
      omega
theorem pts_below {d : List Int} {n : Nat} (h : d.length ≤ n) : pts d 0 = (n - 1) * d.sum - sumB d n := by
  have := pts_take d n
  rwa [List.take_of_length_le h] at this
def Dom (a b : List Int) : Prop := a.sum ≠ 0 ∧ b.sum ≠ 0 ∧ ∀ s : Nat, (a.take s).sum * b.sum ≤ (b.take s).sum * a.sum
theorem Dominates_ok {k : Nat} {a b : List Int} (ha : Few a) (hb : Few b) (hk : 100000 < k) : Ok (distribution_Dominates k a b) (fun r => r = true ↔ Dom a b) := by
  have a1 := ha.2.1
  have b1 := hb.2.1
  have a2 := ha.sum
  have b2 := hb.sum
  unfold distribution_Dominates
  rw [check_ok ha (by omega), check_ok hb (by omega), Option.bind_some]
  by_cases h0 : a.sum = 0
  · rw [if_pos h0]
    exact Ok.mk (r := false) rfl ⟨fun h => (by cases h), fun h => absurd h0 h.1⟩
  · rw [if_neg h0]
    by_cases h1 : b.sum = 0
    · rw [if_pos h1]
      exact Ok.mk (r := false) rfl ⟨fun h => (by cases h), fun h => absurd h1 h.2.1⟩
    · rw [if_neg h1]
      simp only [bne_self_eq_false, cond_false, Option.bind_some]
      refine ok_sum (Q := fun (_ : Unit) => Dom a b) (R := fun (r : Bool) => r = false ∧ ¬Dom a b) (ok_loop (fun (i : Int) => 0 ≤ i ∧ ∀ s : Nat, (s : Int) < i → (a.take s).sum * b.sum ≤ (b.take s).sum * a.sum) (fun i => 100 - i.toNat) ⟨Int.le_refl _, fun s hs => by omega⟩ (by omega) ?_) (fun _ h => ?_) fun r h => ?_
      · intro again i hinv hag
        obtain ⟨g1, g2⟩ := hinv
        simp only [distribution_Dominates_b1, gmax_def]
        refine ok_bif (fun hc => ?_) fun hc => ?_
        · have hc' := of_decide_eq_true hc
          rw [Below_ok ha (by omega), Below_ok hb (by omega), Count_ok ha (by omega), Count_ok hb (by omega)]
          simp only [Option.bind_some]
          have t1 := ha.take i.toNat
          have t2 := hb.take i.toNat
          have m1 : 0 ≤ (a.take i.toNat).sum * b.sum ∧ (a.take i.toNat).sum * b.sum ≤ 40000 * 40000 := ⟨Int.mul_nonneg t1.1 b2.1, Int.mul_le_mul t1.2 b2.2 b2.1 (by omega)⟩
          have m2 : 0 ≤ (b.take i.toNat).sum * a.sum ∧ (b.take i.toNat).sum * a.sum ≤ 40000 * 40000 := ⟨Int.mul_nonneg t2.1 a2.1, Int.mul_le_mul t2.2 a2.2 a2.1 (by omega)⟩
          rw [w64 (x := (a.take i.toNat).sum * b.sum) (by omega) (by omega), w64 (x := (b.take i.toNat).sum * a.sum) (by omega) (by omega), w64 (x := i + 1) (by omega) (by omega)]
          refine ok_bif (fun hd => Ok.ret ⟨rfl, fun h => ?_⟩) fun hd => hag _ ⟨by omega, fun s hs => ?_⟩ (by omega)
          · have := of_decide_eq_true hd
            have := h.2.2 i.toNat
            omega
          · by_cases hsi : (s : Int) < i
            · exact g2 s hsi
            · have hsi' : s = i.toNat := by omega
              subst hsi'
              have := of_decide_eq_false hd
              omega
        · have hc' := of_decide_eq_false hc
          refine Ok.ret ⟨h0, h1, fun s => ?_⟩
          by_cases hsi : (s : Int) < i
          · exact g2 s hsi
          · rw [take_all (d := a) (n := s) (by omega), take_all (d := b) (n := s) (by omega), Int.mul_comm]
            exact Int.le_refl _
      · exact Ok.ret ⟨fun _ => h, fun _ => rfl⟩
      · refine Ok.ret ⟨fun hr => ?_, fun hd => absurd hd h.2⟩
        rw [h.1] at hr
        cases hr
theorem Dom.refl {a : List Int} (h : a.sum ≠ 0) : Dom a a := ⟨h, h, fun s => Int.le_refl _⟩
theorem Dom.trans {a b c : List Int} (hb0 : 0 ≤ b.sum) (ha0 : 0 ≤ a.sum) (hc0 : 0 ≤ c.sum) (h1 : Dom a b) (h2 : Dom b c) : Dom a c := by
  refine ⟨h1.1, h2.2.1, fun s => ?_⟩
  have e1 := Int.mul_le_mul_of_nonneg_right (h1.2.2 s) hc0
  have e2 := Int.mul_le_mul_of_nonneg_right (h2.2.2 s) ha0
  have hp : 0 < b.sum := by have := h1.2.1; omega
  refine Int.le_of_mul_le_mul_right (a := b.sum) ?_ hp
  rw [show (a.take s).sum * c.sum * b.sum = (a.take s).sum * b.sum * c.sum by ac_rfl, show (c.take s).sum * a.sum * b.sum = (c.take s).sum * b.sum * a.sum by ac_rfl]
  refine Int.le_trans e1 ?_
  rw [show (b.take s).sum * a.sum * c.sum = (b.take s).sum * c.sum * a.sum by ac_rfl]
  exact e2
theorem sumB_le {a b : List Int} (h : ∀ s : Nat, (a.take s).sum * b.sum ≤ (b.take s).sum * a.sum) (n : Nat) : sumB a n * b.sum ≤ sumB b n * a.sum := by
  induction n with
  | zero => simp [sumB]
  | succ n ih => simp only [sumB, Int.add_mul]; have := h n; omega
theorem Dom.mean {a b : List Int} (h : Dom a b) : pts b 0 * a.sum ≤ pts a 0 * b.sum := by
  rw [pts_below (d := a) (n := max a.length b.length) (by omega), pts_below (d := b) (n := max a.length b.length) (by omega)]
  have := sumB_le h.2.2 (max a.length b.length)
  generalize ((max a.length b.length : Nat) : Int) - 1 = m
  rw [Int.sub_mul, Int.sub_mul]
  rw [show m * b.sum * a.sum = m * a.sum * b.sum by ac_rfl]
  omega
end Go.VM
