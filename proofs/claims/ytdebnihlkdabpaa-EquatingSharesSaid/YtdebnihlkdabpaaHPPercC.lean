/- Percentile equating: one step of the loop. Plain reasoning about the printed functions. -/
import Derived.Test.YtdebnihlkdabpaaHPPercA
import Derived.Test.YtdebnihlkdabpaaPPercB
namespace Go.VM
set_option linter.unusedVariables false
set_option linter.unusedSimpArgs false

/-- A full distribution of the dice. -/
structure Full (d : List Int) : Prop where
  few : Few d
  ones : ∀ e ∈ d, 1 ≤ e ∧ e ≤ 6
  len : d.length ≤ 7
  pos : 1 ≤ d.sum
  sum : d.sum ≤ 42
theorem full {d : List Int} (h : Made 6 true d) : Full d := by
  have hf := h.few (by omega)
  have h1 := h.1
  have h2 := h.2.1
  have h6 : ∀ x ∈ d, 1 ≤ x ∧ x ≤ 6 := fun x hx => by simpa using h.2.2 x hx
  have s1 := sum_hi (c := 6) fun x hx => (h6 x hx).2
  have s0 : 1 ≤ d.sum := by
    match d, h1 with
    | x :: d, _ =>
      have := (h6 x (by simp)).1
      have := sum_nn (d := d) fun y hy => by have := h6 y (by simp [hy]); omega
      simp only [List.sum_cons]; omega
  exact ⟨hf, h6, by omega, s0, by omega⟩
def cum (d : List Int) (i : Nat) : Int := (d.take i).sum
theorem cum_succ {d : List Int} {i : Nat} (h : i < d.length) : cum d (i + 1) = cum d i + d.getD i 0 := by
  unfold cum; rw [take_succ_sum h, getD_of h]
theorem cum_len (d : List Int) : cum d d.length = d.sum := by unfold cum; rw [List.take_length]
theorem Full.cum {d : List Int} (h : Full d) (i : Nat) : 0 ≤ Go.VM.cum d i ∧ Go.VM.cum d i ≤ d.sum := by
  have h1 := h.few.take i
  have h2 := take_le (d := d) (fun x hx => by have := h.ones x hx; omega) (m := i) (n := max i d.length) (by omega)
  rw [take_all (n := max i d.length) (by omega)] at h2
  unfold Go.VM.cum
  omega
theorem Full.one {d : List Int} (h : Full d) {i : Nat} (hi : i < d.length) : 1 ≤ d.getD i 0 ∧ d.getD i 0 ≤ 6 := by
  rw [getD_of hi]; exact h.ones _ (List.getElem_mem hi)
theorem Full.cum_lt {d : List Int} (h : Full d) {i : Nat} (hi : i < d.length) : Go.VM.cum d i < d.sum := by
  have := cum_succ hi
  have := h.one hi
  have := h.cum (i + 1)
  omega
/-- A place in the score i - 1 of a distribution whose candidates count m times. -/
def Pl (d : List Int) (m : Int) (i : Nat) (z : Int) (X : Rat) : Prop := At (d.getD (i - 1) 0) m i (cum d (i - 1) * m) z X
theorem wR_half (i : Int) : wR i 0 1 * 2 = ((2 * i - 1 : Int) : Rat) := by
  have := wR_mul i 0 (count := 1) (by omega)
  rw [show (2 * i - 1) * 1 + 2 * 0 = 2 * i - 1 by omega] at this
  exact this
/-- The end of a score is the begin of the next. -/
theorem pl_end {d : List Int} {m : Int} {i : Nat} (hi : 1 ≤ i) (hl : i ≤ d.length) {X : Rat} (h : X * 2 = ((2 * (i : Int) - 1 : Int) : Rat)) : Pl d m i (cum d i * m) X := by
  unfold Pl
  have e : cum d i * m = cum d (i - 1) * m + d.getD (i - 1) 0 * m := by
    have := cum_succ (d := d) (i := i - 1) (by omega)
    rw [show i - 1 + 1 = i by omega] at this
    rw [this, Int.add_mul]
  rw [e]
  exact At.of_end h
theorem pl_begin {d : List Int} {m : Int} {i : Nat} (hi : 1 ≤ i) {X : Rat} (h : X * 2 = ((2 * (i : Int) - 3 : Int) : Rat)) : Pl d m i (cum d (i - 1) * m) X := At.of_begin h
theorem pl_within {d : List Int} {m : Int} {i : Nat} {z : Int} (hi : 1 ≤ i) (hc : 1 ≤ d.getD (i - 1) 0 * m) : Pl d m i z (wR ((i : Int) - 1) (z - cum d (i - 1) * m) (d.getD (i - 1) 0 * m)) := by
  unfold Pl At
  rw [wR_mul _ _ hc]
  congr 2
  rw [show 2 * ((i : Int) - 1) - 1 = 2 * (i : Int) - 3 by omega]
end Go.VM
