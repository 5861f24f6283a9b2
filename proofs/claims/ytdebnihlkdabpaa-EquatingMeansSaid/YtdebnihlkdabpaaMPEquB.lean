/- Lines between distributions: plain reasoning about the printed functions. -/
import Derived.Test.YtdebnihlkdabpaaMPEquA
namespace Go.VM
set_option linter.unusedVariables false
set_option linter.unusedSimpArgs false

/-- The line with a slope and a value at 0. -/
def lineL (s t : Rat) : List Pt := [⟨0, t⟩, ⟨1, s + t⟩]
theorem lineL_asc {s t : Rat} (hs : 0 < s) : Asc (lineL s t) := by
  unfold lineL Asc
  refine List.pairwise_cons.2 ⟨fun p hp => ?_, by simp⟩
  rw [List.mem_singleton] at hp
  subst hp
  exact ⟨show (0 : Rat) < 1 by decide, by show t < s + t; grind⟩
theorem lineL_slope (s t : Rat) : slope ⟨0, t⟩ ⟨1, s + t⟩ = s := slope_eq (p := ⟨0, t⟩) (q := ⟨1, s + t⟩) (show (0 : Rat) < 1 by decide) (by show s + t = t + (1 - 0) * s; grind)
theorem lineL_eval (s t x : Rat) : evalL (lineL s t) x = t + x * s := by
  show line ⟨0, t⟩ ⟨1, s + t⟩ x = t + x * s
  unfold line
  rw [lineL_slope]
  show t + (x - 0) * s = t + x * s
  grind
theorem lineL_grid {D E F C : Nat} {s t : Rat} (hs : 0 < s) (h1 : Grid E F s) (h2 : Grid (D * E) C t) : OnGrid D E D (F * D + C) F (lineL s t) := by
  have hone : Grid D D 1 := ⟨D, by rw [Rat.one_mul, Rat.intCast_natCast], by omega⟩
  have hzero : Grid D 0 0 := ⟨0, by rw [Rat.zero_mul]; rfl, by omega⟩
  refine ⟨lineL_asc hs, by simp [lineL], fun p hp => ?_, fun p hp => ?_, ?_⟩
  · unfold lineL at hp
    simp only [List.mem_cons, List.not_mem_nil, or_false] at hp
    rcases hp with rfl | rfl
    · exact hzero.le (by omega)
    · exact hone
  · unfold lineL at hp
    simp only [List.mem_cons, List.not_mem_nil, or_false] at hp
    rcases hp with rfl | rfl
    · exact h2.le (by omega)
    · have := h1.up D
      rw [Nat.mul_comm E D] at this
      exact this.add h2
  · exact ⟨by rw [lineL_slope]; exact h1, trivial⟩
theorem Line_ok {s t : Rat} (hs : 0 < s) (h : Ad s t) : conversion_Line fuel s.num s.den t.num t.den = some ((lineL s t).map enc, 0) := by
  unfold conversion_Line
  rw [rat_valid h.sx, rat_valid h.sy]
  simp only [Option.bind_some, Bool.not_true, cond_false]
  have hn : 0 < s.num := by
    rcases Int.lt_or_le 0 s.num with h' | h'
    · exact h'
    · have := Rat.num_nonneg.2 (Rat.le_of_lt hs)
      have h0 : s.num = 0 := by omega
      have := Rat.num_eq_zero.1 h0
      rw [this] at hs
      exact absurd hs (by decide)
  rw [show decide (s.num ≤ 0) = false from decide_eq_false (by omega), cond_false, cadd_ok h]
  simp only [Option.bind_some, uc_mk, bne_self_eq_false, cond_false, conversion_whole, u0_mk]
  rfl
theorem through_ok {x y : List Int} {s : Rat} (hx : Few x) (hy : Few y) (hx0 : x.sum ≠ 0) (hy0 : y.sum ≠ 0) (hs : 0 < s) (h1 : Mu s (meanR x)) (h2 : Ad (meanR y) (-(s * meanR x))) (h3 : Ad s (meanR y - s * meanR x)) : equating_through fuel x y s.num s.den = some ((lineL s (meanR y - s * meanR x)).map enc, 0) := by
  unfold equating_through
  rw [mean_rat hx hx0, mean_rat hy hy0]
  simp only [Option.bind_some, uc_mk, bne_self_eq_false, cond_false]
  rw [rat_mul h1]
  simp only [Option.bind_some, uc_mk, bne_self_eq_false, cond_false]
  rw [rat_sub h2]
  simp only [Option.bind_some, uc_mk, bne_self_eq_false, cond_false]
  rw [Line_ok hs h3]
  rfl
theorem echeck_ok {x y : List Int} (hx : Few x) (hy : Few y) (hx0 : x.sum ≠ 0) (hy0 : y.sum ≠ 0) : equating_check fuel x y = some 0 := by
  unfold equating_check
  rw [Valid_ok hx (by unfold fuel; omega), Valid_ok hy (by unfold fuel; omega), Count_ok hx (by unfold fuel; omega), Count_ok hy (by unfold fuel; omega)]
  simp only [Option.bind_some, Bool.not_true, cond_false]
  rw [show (x.sum == 0) = false by rw [beq_int]; exact decide_eq_false hx0, show (y.sum == 0) = false by rw [beq_int]; exact decide_eq_false hy0]
  rfl
theorem EMean_ok {x y : List Int} (hx : Few x) (hy : Few y) (hx0 : x.sum ≠ 0) (hy0 : y.sum ≠ 0) (h1 : Mu 1 (meanR x)) (h2 : Ad (meanR y) (-(1 * meanR x))) (h3 : Ad 1 (meanR y - 1 * meanR x)) : equating_Mean fuel x y = some ((lineL 1 (meanR y - 1 * meanR x)).map enc, 0) := by
  unfold equating_Mean
  rw [echeck_ok hx hy hx0 hy0]
  simp only [Option.bind_some, bne_self_eq_false, cond_false]
  have := through_ok hx hy hx0 hy0 (s := 1) (by decide) h1 h2 h3
  simp only [Rat.one_num, Rat.one_den] at this
  rw [show ((1 : Nat) : Int) = 1 from rfl] at this
  rw [this]
  rfl
theorem ELinear_no {x y : List Int} (hx : Few x) (hy : Few y) (hx0 : x.sum ≠ 0) (hy0 : y.sum ≠ 0) (h : devR x = 0 ∨ devR y = 0) : equating_Linear fuel x y = some ([], 10) := by
  unfold equating_Linear
  rw [echeck_ok hx hy hx0 hy0, dev_rat hx hx0, dev_rat hy hy0]
  simp only [Option.bind_some, uc_mk, bne_self_eq_false, cond_false, blet_mk]
  have : ((devR x).num == 0 || (devR y).num == 0) = true := by
    rcases h with h | h <;> rw [h] <;> simp
  rw [this]
  rfl
theorem ELinear_ok {x y : List Int} (hx : Few x) (hy : Few y) (hx0 : x.sum ≠ 0) (hy0 : y.sum ≠ 0) (hdx : devR x ≠ 0) (hdy : devR y ≠ 0) (hs : 0 < devR y / devR x) (h0 : Di (devR y) (devR x)) (h1 : Mu (devR y / devR x) (meanR x)) (h2 : Ad (meanR y) (-(devR y / devR x * meanR x))) (h3 : Ad (devR y / devR x) (meanR y - devR y / devR x * meanR x)) : equating_Linear fuel x y = some ((lineL (devR y / devR x) (meanR y - devR y / devR x * meanR x)).map enc, 0) := by
  unfold equating_Linear
  rw [echeck_ok hx hy hx0 hy0, dev_rat hx hx0, dev_rat hy hy0]
  simp only [Option.bind_some, uc_mk, bne_self_eq_false, cond_false, blet_mk]
  have e : ((devR x).num == 0 || (devR y).num == 0) = false := by
    rw [beq_int, beq_int, Bool.or_eq_false_iff, decide_eq_false_iff_not, decide_eq_false_iff_not]
    exact ⟨fun h => hdx (Rat.num_eq_zero.1 h), fun h => hdy (Rat.num_eq_zero.1 h)⟩
  rw [e, cond_false, rat_div h0]
  simp only [Option.bind_some, uc_mk, bne_self_eq_false, cond_false]
  rw [through_ok hx hy hx0 hy0 hs h1 h2 h3]
  rfl
/-! ### sizes for the distributions of the dice -/
theorem pts_le (d : List Int) (i m : Int) (h : ∀ x ∈ d, 0 ≤ x) (hm : i + d.length ≤ m + 1) : pts d i ≤ m * d.sum := by
  induction d generalizing i with
  | nil => simp [pts]
  | cons x d ih =>
    have hx := h x (by simp)
    simp only [List.length_cons] at hm
    have := ih (i + 1) (fun y hy => h y (by simp [hy])) (by omega)
    have h1 : i * x ≤ m * x := Int.mul_le_mul_of_nonneg_right (by omega) hx
    simp only [pts, List.sum_cons, Int.mul_add]
    omega
/-- What the dice's full distributions of up to seven scores are like. -/
structure Seven (d : List Int) : Prop where
  few : Few d
  pos : 1 ≤ d.sum
  sum : d.sum ≤ 42
  pts : pts d 0 ≤ 252
  far : farS d.sum (Go.VM.pts d 0) d 0 ≤ 12348
theorem seven {d : List Int} (h : Made 6 true d) : Seven d := by
  have hf := h.few (by omega)
  have h1 := h.1
  have h2 := h.2.1
  have h6 : ∀ x ∈ d, 1 ≤ x ∧ x ≤ 6 := fun x hx => by simpa using h.2.2 x hx
  have s1 := sum_hi (c := 6) fun x hx => (h6 x hx).2
  have s0 : 1 ≤ d.sum := by
    match d, h1 with
    | x :: d, _ =>
      have := (h6 x (by simp)).1
      have := sum_nn (d := d) fun y hy => by have := h6 y (by simp [hy]); omega
      simp only [List.sum_cons]; omega
  have p1 := pts_le d 0 6 (fun x hx => by have := h6 x hx; omega) (by omega)
  have p0 := hf.pts
  have m : (0 + (d.length : Int)) * d.sum ≤ 7 * 42 := Int.mul_le_mul (by omega) (by omega) (by omega) (by omega)
  have f1 := farS_bound (n := d.sum) (p := pts d 0) (c := 294) (by omega) (by omega) p0.1 (by omega) d 0 (fun x hx => by have := h6 x hx; omega) (Int.le_refl _) (by omega)
  exact ⟨hf, s0, by omega, by omega, by omega⟩
theorem mean_mul {d : List Int} (h : 1 ≤ d.sum) : meanR d * (d.sum.toNat : Rat) = (pts d 0 : Rat) := by
  unfold meanR
  rw [Rat.mkRat_eq_div, Rat.div_mul_cancel (natCast_ne (by omega))]
theorem dev_mul {d : List Int} (h : 1 ≤ d.sum) : devR d * ((d.sum.toNat * d.sum.toNat : Nat) : Rat) = (farS d.sum (pts d 0) d 0 : Rat) := by
  unfold devR
  have e : (d.sum * d.sum).toNat = d.sum.toNat * d.sum.toNat := by
    have : ((d.sum.toNat * d.sum.toNat : Nat) : Int) = d.sum * d.sum := by rw [Int.natCast_mul, show ((d.sum.toNat : Nat) : Int) = d.sum by omega]
    omega
  rw [e, Rat.mkRat_eq_div, Rat.div_mul_cancel (natCast_ne (Nat.mul_ne_zero (by omega) (by omega)))]
theorem Seven.mean {d : List Int} (h : Seven d) : Grid d.sum.toNat 252 (meanR d) := ⟨Go.VM.pts d 0, mean_mul h.pos, by have := h.few.pts; have := h.pts; omega⟩
theorem Seven.dev {d : List Int} (h : Seven d) : Grid (d.sum.toNat * d.sum.toNat) 12348 (devR d) := ⟨_, dev_mul h.pos, by have := h.few.far; have := h.far; omega⟩
end Go.VM
