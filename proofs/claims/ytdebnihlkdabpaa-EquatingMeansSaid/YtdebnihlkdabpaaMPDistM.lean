/- Points and means: plain reasoning about the printed functions. -/
import Derived.Test.YtdebnihlkdabpaaMPDistA
import Derived.Test.YtdebnihlkdabpaaMPRatioN
namespace Go.VM
set_option linter.unusedVariables false
set_option linter.unusedSimpArgs false

theorem check_ok {k : Nat} {d : List Int} (h : Few d) (hk : 50 < k) : distribution_check k d = some (if d.sum = 0 then 10 else 0) := by
  unfold distribution_check
  rw [Valid_ok h hk, Count_ok h hk]
  simp only [Option.bind_some, Bool.not_true, cond_false, beq_int]
  by_cases h0 : d.sum = 0
  · rw [decide_eq_true h0, cond_true, if_pos h0]
  · rw [decide_eq_false h0, cond_false, if_neg h0]

/-! ### points and means -/
/-- The sum of all scores, when the first count is that of the score i. -/
def pts : List Int → Int → Int
  | [], _ => 0
  | x :: d, i => i * x + pts d (i + 1)
theorem pts_append (a b : List Int) (i : Int) : pts (a ++ b) i = pts a i + pts b (i + a.length) := by
  induction a generalizing i with
  | nil => simp [pts]
  | cons x a ih =>
    simp only [List.cons_append, pts, ih, List.length_cons]
    rw [show i + 1 + (a.length : Int) = i + ((a.length + 1 : Nat) : Int) by omega]
    omega
theorem pts_snoc (a : List Int) (x : Int) : pts (a ++ [x]) 0 = pts a 0 + a.length * x := by
  rw [pts_append]; simp [pts]
theorem pts_bound {d : List Int} (h : ∀ x ∈ d, 0 ≤ x ∧ x ≤ 1000) {i : Int} (h0 : 0 ≤ i) {m : Int} (hm : i + d.length ≤ m) : 0 ≤ pts d i ∧ pts d i ≤ m * 1000 * d.length := by
  induction d generalizing i with
  | nil => simp [pts]
  | cons x d ih =>
    have hx := h x (by simp)
    have := ih (fun y hy => h y (by simp [hy])) (i := i + 1) (by omega) (by simp at hm; omega)
    simp only [pts, List.length_cons] at hm ⊢
    have p0 := Int.mul_nonneg h0 hx.1
    have p1 : i * x ≤ m * 1000 := Int.mul_le_mul (by omega) hx.2 hx.1 (by omega)
    rw [show ((d.length + 1 : Nat) : Int) = (d.length : Int) + 1 by omega, Int.mul_add]
    omega
theorem Few.pts {d : List Int} (h : Few d) : 0 ≤ pts d 0 ∧ Go.VM.pts d 0 ≤ 1600000 := by
  have := pts_bound h.2.2 (i := 0) (by omega) (m := 40) (by have := h.2.1; omega)
  have := h.2.1
  omega
theorem points_ok {k : Nat} {d : List Int} (h : Few d) (hk : 50 < k) : distribution_points k d = some (pts d 0) := by
  apply Ok.eq
  have hl := h.2.1
  unfold distribution_points
  refine Ok.bind (Q := fun r => r = pts d 0) (ok_range d (fun s => s.2) (fun pre s => s.1 = pts pre 0) (by omega) rfl rfl (by omega) ?_ ?_) fun r hr => Ok.ret hr
  · intro again s pre e post hl' hi hlt hw hinv hag
    obtain ⟨n, i⟩ := s
    simp only at hi hlt hw hinv
    simp only [distribution_points_b1, uc_mk]
    rw [dec_lt hlt, cond_true, gidx_mid hl' hi, hw]
    have he := h.2.2 e (by rw [hl']; simp)
    have hpl : pre.length ≤ 40 := by rw [hl'] at hl; simp at hl; omega
    have h2 := pts_bound (d := pre) (fun x hx => h.2.2 x (by rw [hl']; simp [hx])) (i := 0) (by omega) (m := 40) (by omega)
    have p0 : 0 ≤ i * e := Int.mul_nonneg (by omega) he.1
    have p1 : i * e ≤ 40 * 1000 := Int.mul_le_mul (by omega) he.2 he.1 (by omega)
    rw [w64 (x := i * e) (by omega) (by omega), w64 (x := n + i * e) (by omega) (by omega)]
    exact hag _ rfl (by dsimp only; rw [pts_snoc, hinv, ← hi])
  · intro again s hi hinv
    obtain ⟨n, i⟩ := s
    simp only at hi hinv
    simp only [distribution_points_b1, uc_mk]
    rw [dec_nlt (by omega), cond_false]
    exact Ok.ret hinv
theorem Mean_no {k : Nat} {d : List Int} (h : Few d) (hk : 50 < k) (h0 : d.sum = 0) : distribution_Mean k d = some (0, 0, 10) := by
  unfold distribution_Mean
  rw [check_ok h hk, if_pos h0]
  rfl
theorem Mean_ok {k : Nat} {d : List Int} (h : Few d) (hk : 100000 < k) (h0 : d.sum ≠ 0) : distribution_Mean k d = some (rnum (pts d 0) d.sum, rden (pts d 0) d.sum, 0) := by
  have h1 := h.pts
  have h2 := h.sum
  unfold distribution_Mean
  rw [check_ok h (by omega), if_neg h0, points_ok h (by omega), Count_ok h (by omega), Option.bind_some, Option.bind_some, Option.bind_some, New_ok (by omega) (by omega) (by omega) (by omega) (by omega)]
  rfl
theorem mean_frac {d : List Int} (h : Few d) (h0 : d.sum ≠ 0) : Frac (rnum (pts d 0) d.sum) (rden (pts d 0) d.sum) := by
  have h1 := h.pts
  have h2 := h.sum
  exact frac_new (by omega) (by omega) (by omega) (by omega)
theorem mean_fuel {d : List Int} (h : Few d) (h0 : d.sum ≠ 0) {k : Nat} (hk : 100000 < k) : (rden (pts d 0) d.sum).toNat < k := by
  have h2 := h.sum
  have := rden_le (n := pts d 0) (d := d.sum) (by omega)
  omega

end Go.VM
