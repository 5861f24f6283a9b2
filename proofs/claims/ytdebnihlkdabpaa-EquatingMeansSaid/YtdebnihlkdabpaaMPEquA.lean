/- Means and mean deviations as rational numbers: plain reasoning about the printed functions. -/
import Derived.Test.YtdebnihlkdabpaaMPDistM
import Derived.Test.YtdebnihlkdabpaaMPDistB
import Derived.Test.YtdebnihlkdabpaaMPRatioBN
import Derived.Test.YtdebnihlkdabpaaMPCurveH
namespace Go.VM
set_option linter.unusedVariables false
set_option linter.unusedSimpArgs false

theorem new_rat {n d : Int} (hn : -1152921504606846976 ≤ n) (hn2 : n ≤ 1152921504606846976) (hd : 1 ≤ d) (hd2 : d ≤ 1152921504606846976) : ratio_New fuel n d = some ((mkRat n d.toNat).num, ((mkRat n d.toNat).den : Int), 0) := by
  rw [New_ok hn hn2 hd hd2 (by unfold fuel; omega)]
  have h1 := rnum_rat n (d := d.toNat) (by omega)
  have h2 := rden_rat n (d := d.toNat) (by omega)
  rw [show ((d.toNat : Nat) : Int) = d by omega] at h1 h2
  rw [h1, h2]
theorem rnew_rat {n d : Int} (hn : -1152921504606846976 ≤ n) (hn2 : n ≤ 1152921504606846976) (hd : 1 ≤ d) (hd2 : d ≤ 1152921504606846976) : ref01_New fuel n d = some ((mkRat n d.toNat).num, ((mkRat n d.toNat).den : Int), 0) := by
  rw [rNew_ok hn hn2 hd hd2 (by unfold fuel; omega)]
  have h1 := rnum_rat n (d := d.toNat) (by omega)
  have h2 := rden_rat n (d := d.toNat) (by omega)
  rw [show ((d.toNat : Nat) : Int) = d by omega] at h1 h2
  rw [h1, h2]
def meanR (d : List Int) : Rat := mkRat (pts d 0) d.sum.toNat
/-- The sum of all distances from the mean, when the first count is that of the score i. -/
def farS (n p : Int) : List Int → Int → Int
  | [], _ => 0
  | x :: d, i => x * ((i * n - p).natAbs : Int) + farS n p d (i + 1)
def devR (d : List Int) : Rat := mkRat (farS d.sum (pts d 0) d 0) (d.sum * d.sum).toNat
theorem farS_snoc (n p : Int) (a : List Int) (x : Int) (i : Int) : farS n p (a ++ [x]) i = farS n p a i + x * (((i + a.length) * n - p).natAbs : Int) := by
  induction a generalizing i with
  | nil => simp [farS]
  | cons y a ih =>
    simp only [List.cons_append, farS, ih, List.length_cons]
    rw [show i + 1 + (a.length : Int) = i + ((a.length + 1 : Nat) : Int) by omega]
    omega
theorem farS_bound {n p c : Int} (hc : 0 ≤ c) (hn : 0 ≤ n) (hp : 0 ≤ p) (hp2 : p ≤ c) : ∀ (d : List Int) (i : Int), (∀ x ∈ d, 0 ≤ x) → 0 ≤ i → (i + d.length) * n ≤ c → 0 ≤ farS n p d i ∧ farS n p d i ≤ d.sum * c
  | [], i, _, _, _ => by simp [farS]
  | x :: d, i, h, h0, hm => by
    have hx := h x (by simp)
    simp only [List.length_cons] at hm
    have ih := farS_bound hc hn hp hp2 d (i + 1) (fun y hy => h y (by simp [hy])) (by omega) (by rw [show i + 1 + (d.length : Int) = i + ((d.length + 1 : Nat) : Int) by omega]; exact hm)
    have q0 : 0 ≤ i * n := Int.mul_nonneg h0 hn
    have q1 : i * n ≤ c := Int.le_trans (Int.mul_le_mul_of_nonneg_right (by omega) hn) hm
    have z0 : 0 ≤ x * ((i * n - p).natAbs : Int) := Int.mul_nonneg hx (by omega)
    have z1 : x * ((i * n - p).natAbs : Int) ≤ x * c := Int.mul_le_mul_of_nonneg_left (by omega) hx
    simp only [farS, List.sum_cons, Int.add_mul]
    omega
theorem Few.far {d : List Int} (h : Few d) : 0 ≤ farS d.sum (Go.VM.pts d 0) d 0 ∧ farS d.sum (Go.VM.pts d 0) d 0 ≤ 64000000000 := by
  have h1 := h.sum
  have h2 := h.pts
  have hl := h.2.1
  have m : (0 + (d.length : Int)) * d.sum ≤ 40 * 40000 := Int.mul_le_mul (by omega) h1.2 h1.1 (by omega)
  have := farS_bound (c := 1600000) (by omega) h1.1 h2.1 (by omega) d 0 (fun x hx => (h.2.2 x hx).1) (Int.le_refl _) (by omega)
  have m2 : d.sum * 1600000 ≤ 40000 * 1600000 := Int.mul_le_mul_of_nonneg_right h1.2 (by omega)
  omega
theorem far_pre {d pre post : List Int} {e : Int} (h : Few d) (hl : d = pre ++ e :: post) : 0 ≤ farS d.sum (pts d 0) pre 0 ∧ farS d.sum (pts d 0) pre 0 ≤ 64000000000 := by
  have h1 := h.sum
  have h2 := h.pts
  have hl2 := h.2.1
  have hpl : pre.length ≤ 40 := by rw [hl] at hl2; simp at hl2; omega
  have m : (0 + (pre.length : Int)) * d.sum ≤ 40 * 40000 := Int.mul_le_mul (by omega) h1.2 h1.1 (by omega)
  have := farS_bound (c := 1600000) (by omega) h1.1 h2.1 (by omega) pre 0 (fun x hx => (h.2.2 x (by rw [hl]; simp [hx])).1) (Int.le_refl _) (by omega)
  have hb := h.bound hl
  have m2 : pre.sum * 1600000 ≤ 40000 * 1600000 := Int.mul_le_mul_of_nonneg_right hb.2 (by omega)
  omega
theorem mean_rat {d : List Int} (h : Few d) (h0 : d.sum ≠ 0) : distribution_Mean fuel d = some ((meanR d).num, ((meanR d).den : Int), 0) := by
  have h1 := h.pts
  have h2 := h.sum
  unfold distribution_Mean
  rw [check_ok h (by unfold fuel; omega), if_neg h0, points_ok h (by unfold fuel; omega), Count_ok h (by unfold fuel; omega), Option.bind_some, Option.bind_some, Option.bind_some, new_rat (by omega) (by omega) (by omega) (by omega)]
  rfl
theorem dev_step {d pre post : List Int} {e i : Int} (h : Few d) (hl : d = pre ++ e :: post) (hi : i = pre.length) (hi0 : 0 ≤ i) : 0 ≤ i * d.sum ∧ i * d.sum ≤ 1600000 ∧ 0 ≤ e * ((i * d.sum - pts d 0).natAbs : Int) ∧ e * ((i * d.sum - pts d 0).natAbs : Int) ≤ 1600000000 := by
  have h1 := h.sum
  have h2 := h.pts
  have hl2 := h.2.1
  have hpl : pre.length ≤ 40 := by rw [hl] at hl2; simp at hl2; omega
  have he := h.2.2 e (by rw [hl]; simp)
  have m0 := Int.mul_nonneg hi0 h1.1
  have m : i * d.sum ≤ 40 * 40000 := Int.mul_le_mul (by omega) h1.2 h1.1 (by omega)
  have z0 : 0 ≤ e * ((i * d.sum - pts d 0).natAbs : Int) := Int.mul_nonneg he.1 (by omega)
  have z1 : e * ((i * d.sum - pts d 0).natAbs : Int) ≤ 1000 * 1600000 := Int.mul_le_mul he.2 (by omega) (by omega) (by omega)
  omega
theorem dev_rat {d : List Int} (h : Few d) (h0 : d.sum ≠ 0) : distribution_Deviation fuel d = some ((devR d).num, ((devR d).den : Int), 0) := by
  have h1 := h.pts
  have h2 := h.sum
  have h3 := h.far
  have hl := h.2.1
  have m1 : 0 ≤ d.sum * d.sum ∧ d.sum * d.sum ≤ 40000 * 40000 := ⟨Int.mul_nonneg h2.1 h2.1, Int.mul_le_mul h2.2 h2.2 h2.1 (by omega)⟩
  have m2 : 0 < d.sum * d.sum := Int.mul_pos (by omega) (by omega)
  unfold distribution_Deviation
  rw [check_ok h (by unfold fuel; omega), if_neg h0, points_ok h (by unfold fuel; omega), Count_ok h (by unfold fuel; omega)]
  simp only [Option.bind_some, bne_self_eq_false, cond_false]
  have hloop : gloop (distribution_Deviation_b1 fuel d d.sum (pts d 0)) fuel (0, 0) = some (farS d.sum (pts d 0) d 0) := by
    apply Ok.eq
    refine ok_range d (fun s => s.2) (fun pre s => s.1 = farS d.sum (pts d 0) pre 0) (by omega) rfl rfl (by unfold fuel; omega) ?_ ?_
    · intro again s pre e post hl' hi hlt hw hinv hag
      obtain ⟨n, i⟩ := s
      simp only at hi hlt hw hinv
      simp only [distribution_Deviation_b1, uc_mk]
      rw [dec_lt hlt, cond_true, gidx_mid hl' hi, hw]
      have st := dev_step h hl' hi (by omega)
      have hp := far_pre h hl'
      rw [w64 (x := i * d.sum) (by omega) (by omega), w64 (x := i * d.sum - pts d 0) (by omega) (by omega), w64 (x := 0 - (i * d.sum - pts d 0)) (by omega) (by omega), gmax_def, show max (0 - (i * d.sum - pts d 0)) (i * d.sum - pts d 0) = ((i * d.sum - pts d 0).natAbs : Int) by omega, w64 (x := e * ((i * d.sum - pts d 0).natAbs : Int)) (by omega) (by omega), w64 (by omega) (by omega)]
      exact hag _ rfl (by dsimp only; rw [farS_snoc, hinv, hi, Int.zero_add])
    · intro again s hi hinv
      obtain ⟨n, i⟩ := s
      simp only at hi hinv
      simp only [distribution_Deviation_b1, uc_mk]
      rw [dec_nlt (by omega), cond_false]
      exact Ok.ret hinv
  rw [hloop, w64 (x := d.sum * d.sum) (by omega) (by omega), Option.bind_some, new_rat (by omega) (by omega) (by omega) (by omega)]
  rfl

/-! ### the reference -/
theorem rwrong_ok {d : List Int} (h : Few d) : ref32_wrong fuel d = some (if d.sum = 0 then 10 else 0) := by
  unfold ref32_wrong
  rw [rValid_ok h (by unfold fuel; omega), rCount_ok h (by unfold fuel; omega)]
  simp only [Option.bind_some, Bool.not_true, cond_false, beq_int]
  by_cases h0 : d.sum = 0
  · rw [decide_eq_true h0, cond_true, if_pos h0]
  · rw [decide_eq_false h0, cond_false, if_neg h0]
theorem rsum_ok {d : List Int} (h : Few d) : ref32_sum fuel d = some (pts d 0) := by
  apply Ok.eq
  have hl := h.2.1
  unfold ref32_sum
  refine Ok.bind (Q := fun r => r = pts d 0) (ok_range d (fun s => s.2) (fun pre s => s.1 = pts pre 0) (by omega) rfl rfl (by unfold fuel; omega) ?_ ?_) fun r hr => Ok.ret hr
  · intro again s pre e post hl' hi hlt hw hinv hag
    obtain ⟨n, i⟩ := s
    simp only at hi hlt hw hinv
    simp only [ref32_sum_b1, uc_mk]
    rw [dec_lt hlt, cond_true, gidx_mid hl' hi, hw]
    have he := h.2.2 e (by rw [hl']; simp)
    have hpl : pre.length ≤ 40 := by rw [hl'] at hl; simp at hl; omega
    have h2 := pts_bound (d := pre) (fun x hx => h.2.2 x (by rw [hl']; simp [hx])) (i := 0) (by omega) (m := 40) (by omega)
    have p0 : 0 ≤ i * e := Int.mul_nonneg (by omega) he.1
    have p1 : i * e ≤ 40 * 1000 := Int.mul_le_mul (by omega) he.2 he.1 (by omega)
    rw [w64 (x := i * e) (by omega) (by omega), w64 (x := n + i * e) (by omega) (by omega)]
    exact hag _ rfl (by dsimp only; rw [pts_snoc, hinv, ← hi])
  · intro again s hi hinv
    obtain ⟨n, i⟩ := s
    simp only at hi hinv
    simp only [ref32_sum_b1, uc_mk]
    rw [dec_nlt (by omega), cond_false]
    exact Ok.ret hinv
theorem rmean_rat {d : List Int} (h : Few d) (h0 : d.sum ≠ 0) : ref32_Mean fuel d = some ((meanR d).num, ((meanR d).den : Int), 0) := by
  have h1 := h.pts
  have h2 := h.sum
  unfold ref32_Mean
  rw [rwrong_ok h, if_neg h0, rsum_ok h, rCount_ok h (by unfold fuel; omega)]
  simp only [Option.bind_some, bne_self_eq_false, cond_false]
  rw [rnew_rat (by omega) (by omega) (by omega) (by omega)]
  rfl
theorem rdev_rat {d : List Int} (h : Few d) (h0 : d.sum ≠ 0) : ref32_Deviation fuel d = some ((devR d).num, ((devR d).den : Int), 0) := by
  have h1 := h.pts
  have h2 := h.sum
  have h3 := h.far
  have hl := h.2.1
  have m1 : 0 ≤ d.sum * d.sum ∧ d.sum * d.sum ≤ 40000 * 40000 := ⟨Int.mul_nonneg h2.1 h2.1, Int.mul_le_mul h2.2 h2.2 h2.1 (by omega)⟩
  have m2 : 0 < d.sum * d.sum := Int.mul_pos (by omega) (by omega)
  unfold ref32_Deviation
  rw [rwrong_ok h, if_neg h0, rsum_ok h, rCount_ok h (by unfold fuel; omega)]
  simp only [Option.bind_some, bne_self_eq_false, cond_false]
  have hloop : gloop (ref32_Deviation_b1 fuel d d.sum (pts d 0)) fuel (0, 0) = some (farS d.sum (pts d 0) d 0) := by
    apply Ok.eq
    refine ok_range d (fun s => s.2) (fun pre s => s.1 = farS d.sum (pts d 0) pre 0) (by omega) rfl rfl (by unfold fuel; omega) ?_ ?_
    · intro again s pre e post hl' hi hlt hw hinv hag
      obtain ⟨n, i⟩ := s
      simp only at hi hlt hw hinv
      simp only [ref32_Deviation_b1, uc_mk]
      rw [dec_lt hlt, cond_true, gidx_mid hl' hi, hw]
      have st := dev_step h hl' hi (by omega)
      have hp := far_pre h hl'
      rw [w64 (x := i * d.sum) (by omega) (by omega), w64 (x := i * d.sum - pts d 0) (by omega) (by omega), w64 (x := 0 - (i * d.sum - pts d 0)) (by omega) (by omega), gmax_def, show max (0 - (i * d.sum - pts d 0)) (i * d.sum - pts d 0) = ((i * d.sum - pts d 0).natAbs : Int) by omega, w64 (x := e * ((i * d.sum - pts d 0).natAbs : Int)) (by omega) (by omega), w64 (by omega) (by omega)]
      exact hag _ rfl (by dsimp only; rw [farS_snoc, hinv, hi, Int.zero_add])
    · intro again s hi hinv
      obtain ⟨n, i⟩ := s
      simp only at hi hinv
      simp only [ref32_Deviation_b1, uc_mk]
      rw [dec_nlt (by omega), cond_false]
      exact Ok.ret hinv
  rw [hloop, w64 (x := d.sum * d.sum) (by omega) (by omega), Option.bind_some, rnew_rat (by omega) (by omega) (by omega) (by omega)]
  rfl
end Go.VM
