/- Places at shares: plain mathematics. -/
import Derived.Test.YtdebnihlkdabpaaPGrid
namespace Go.VM
set_option linter.unusedVariables false
set_option linter.unusedSimpArgs false

/-- X is the place in the score i - 1 (from i - 3/2 to i - 1/2), which has c candidates counted m times, at the share z; a is the share below the score. -/
def At (c m : Int) (i : Int) (a z : Int) (X : Rat) : Prop := X * ((2 * (c * m) : Int) : Rat) = (((2 * i - 3) * (c * m) + 2 * (z - a) : Int) : Rat)
theorem intCast_pos' {n : Int} (h : 0 < n) : (0 : Rat) < (n : Rat) := Rat.intCast_pos.2 h
/-- At the end of a score. -/
theorem At.of_end {c m i a : Int} {X : Rat} (h : X * 2 = ((2 * i - 1 : Int) : Rat)) : At c m i a (a + c * m) X := by
  unfold At
  have e : (2 * i - 3) * (c * m) + 2 * (a + c * m - a) = (2 * i - 1) * (c * m) := by
    rw [Int.sub_mul, Int.sub_mul]; omega
  rw [e, Rat.intCast_mul 2, Rat.intCast_mul (2 * i - 1), ← h]
  have : ((2 : Int) : Rat) = 2 := rfl
  grind
/-- At the begin of a score. -/
theorem At.of_begin {c m i a : Int} {X : Rat} (h : X * 2 = ((2 * i - 3 : Int) : Rat)) : At c m i a a X := by
  unfold At
  have e : (2 * i - 3) * (c * m) + 2 * (a - a) = (2 * i - 3) * (c * m) := by omega
  rw [e, Rat.intCast_mul 2, Rat.intCast_mul (2 * i - 3), ← h]
  have : ((2 : Int) : Rat) = 2 := rfl
  grind
theorem At.lt {c m i a z z' : Int} {X X' : Rat} (hc : 0 < c * m) (h : At c m i a z X) (h' : At c m i a z' X') (hz : z < z') : X < X' ∧ (X' - X) * ((c * m : Int) : Rat) = ((z' - z : Int) : Rat) := by
  unfold At at h h'
  have e : (X' - X) * ((c * m : Int) : Rat) = ((z' - z : Int) : Rat) := by
    have h2 : ((2 : Int) : Rat) = 2 := rfl
    rw [Rat.intCast_mul 2 (c * m)] at h h'
    rw [Rat.intCast_add, Rat.intCast_mul 2 (z - a), Rat.intCast_sub z a] at h
    rw [Rat.intCast_add, Rat.intCast_mul 2 (z' - a), Rat.intCast_sub z' a] at h'
    rw [Rat.intCast_sub]
    grind
  refine ⟨?_, e⟩
  have hp := intCast_pos' (show (0 : Int) < z' - z by omega)
  rw [← e] at hp
  have := (Rat.mul_pos_iff_of_pos_right (intCast_pos' hc)).1 hp
  grind
theorem At.slope {c m i a d n k b z z' : Int} {X X' Y Y' : Rat} (hc : 0 < c * m) (hd : 0 < d * n) (h1 : At c m i a z X) (h2 : At c m i a z' X') (h3 : At d n k b z Y) (h4 : At d n k b z' Y') (hz : z < z') : Go.VM.slope ⟨X, Y⟩ ⟨X', Y'⟩ * ((d * n : Int) : Rat) = ((c * m : Int) : Rat) := by
  obtain ⟨l1, e1⟩ := At.lt hc h1 h2 hz
  obtain ⟨l2, e2⟩ := At.lt hd h3 h4 hz
  have hm := slope_mul (p := ⟨X, Y⟩) (q := ⟨X', Y'⟩) l1
  simp only at hm
  generalize Go.VM.slope ⟨X, Y⟩ ⟨X', Y'⟩ = s at *
  have hp := intCast_pos' (show (0 : Int) < z' - z by omega)
  rw [← e1] at hp
  have e3 : (s * ((d * n : Int) : Rat)) * ((X' - X) * ((c * m : Int) : Rat)) = ((c * m : Int) : Rat) * ((X' - X) * ((c * m : Int) : Rat)) := by
    have : (Y' - Y) * ((d * n : Int) : Rat) = (X' - X) * ((c * m : Int) : Rat) := by rw [e1, e2]
    rw [← hm] at this
    grind
  generalize ((c * m : Int) : Rat) = u at *
  generalize ((d * n : Int) : Rat) = w at *
  generalize (X' - X) * u = v at *
  have hv : v ≠ 0 := by grind
  have e4 : (s * w - u) * v = 0 := by grind
  rcases Rat.mul_eq_zero.1 e4 with h | h
  · grind
  · exact absurd h hv
end Go.VM
