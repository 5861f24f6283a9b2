/- Percentile equating: the points of its curve. Plain reasoning about the printed functions. -/
import Derived.Test.YtdebnihlkdabpaaHPDistB
import Derived.Test.YtdebnihlkdabpaaHPRatNew
import Derived.Test.YtdebnihlkdabpaaHPCurveH
namespace Go.VM
set_option linter.unusedVariables false
set_option linter.unusedSimpArgs false

/-- The number behind the score s - 1/2 at which a part of a count is reached. -/
def wR (s part count : Int) : Rat := mkRat ((2 * s - 1) * count + 2 * part) (2 * count).toNat
theorem wR_mul (s part : Int) {count : Int} (hc : 1 ≤ count) : wR s part count * ((2 * count : Int) : Rat) = (((2 * s - 1) * count + 2 * part : Int) : Rat) := by
  unfold wR
  have e : (((2 * count : Int)) : Rat) = (((2 * count).toNat : Nat) : Rat) := by
    rw [← Rat.intCast_natCast]
    congr 1
    omega
  rw [e, Rat.mkRat_eq_div, Rat.div_mul_cancel (natCast_ne (by omega))]
theorem within_ok {s part count : Int} (h1 : -1 ≤ s) (h2 : s ≤ 100) (h3 : 0 ≤ part) (h4 : part ≤ 100000000) (h5 : 1 ≤ count) (h6 : count ≤ 100000000) : equating_within fuel s part count = some ((wR s part count).num, ((wR s part count).den : Int), 0) := by
  unfold equating_within
  have m0 : (2 * s - 1) * count ≤ 199 * 100000000 := by
    rcases Int.le_total 0 (2 * s - 1) with h | h
    · exact Int.mul_le_mul (by omega) h6 (by omega) (by omega)
    · have := Int.mul_nonpos_of_nonpos_of_nonneg h (show 0 ≤ count by omega); omega
  have m1 : -300000000 ≤ (2 * s - 1) * count := by
    have : (-3) * count ≤ (2 * s - 1) * count := Int.mul_le_mul_of_nonneg_right (by omega) (by omega)
    omega
  rw [w64 (x := 2 * s) (by omega) (by omega), w64 (x := 2 * s - 1) (by omega) (by omega), w64 (x := (2 * s - 1) * count) (by omega) (by omega), w64 (x := 2 * part) (by omega) (by omega), w64 (x := (2 * s - 1) * count + 2 * part) (by omega) (by omega), w64 (x := 2 * count) (by omega) (by omega), new_rat (by omega) (by omega) (by omega) (by omega)]
  rfl
theorem Contains_ok {k : Nat} {d : List Int} (h : ∀ x ∈ d, 1 ≤ x) (hl : d.length ≤ 100) (hk : 200 < k) : slices_Contains_int k d 0 = some false := by
  apply Ok.eq
  unfold slices_Contains_int slices_Index_int
  refine Ok.bind (Q := fun r => r = -1) (ok_sum (Q := fun (_ : Unit) => True) (R := fun (_ : Int) => False) (ok_range d (fun s => s) (fun _ _ => True) (by omega) rfl trivial (by omega) ?_ ?_) (fun _ _ => Ok.ret rfl) fun _ h => h.elim) fun r hr => Ok.ret (by subst hr; rfl)
  · intro again s pre e post hl' hi hlt hw _ hag
    simp only [slices_Index_int_b1]
    rw [dec_lt hlt, cond_true, gidx_mid hl' hi, hw]
    have he := h e (by rw [hl']; simp)
    rw [show ((0 : Int) == e) = false by rw [beq_int]; exact decide_eq_false (by omega), cond_false]
    exact hag _ rfl trivial
  · intro again s hi _
    simp only [slices_Index_int_b1]
    rw [dec_nlt (by omega), cond_false]
    exact Ok.ret trivial
end Go.VM
