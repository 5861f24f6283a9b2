/- Least, greatest and mean marks: plain reasoning. -/
import Derived.Test.YteofgcpnhiplkaaB30
namespace Go.VM
set_option linter.unusedVariables false
set_option linter.unusedSimpArgs false

theorem sane_ok : law30_sane 1000 = some true := by decide +kernel

theorem least_cons (g : SGiven) (l : List SGiven) (a : Int) : least (g :: l) a = least l (min a (val g)) := rfl
theorem most_cons (g : SGiven) (l : List SGiven) (a : Int) : most (g :: l) a = most l (max a (val g)) := rfl
theorem total_cons (g : SGiven) (l : List SGiven) (a : Int) : total (g :: l) a = total l (a + val g) := rfl
theorem least_le (l : List SGiven) : ∀ a : Int, least l a ≤ a ∧ (∀ g ∈ l, least l a ≤ val g) := by
  induction l with
  | nil => intro a; simp [least]
  | cons x l ih =>
    intro a
    obtain ⟨h1, h2⟩ := ih (min a (val x))
    rw [least_cons]
    refine ⟨by omega, fun g hg => ?_⟩
    rcases List.mem_cons.1 hg with rfl | hg
    · omega
    · exact h2 g hg
theorem le_most (l : List SGiven) : ∀ a : Int, a ≤ most l a ∧ (∀ g ∈ l, val g ≤ most l a) := by
  induction l with
  | nil => intro a; simp [most]
  | cons x l ih =>
    intro a
    obtain ⟨h1, h2⟩ := ih (max a (val x))
    rw [most_cons]
    refine ⟨by omega, fun g hg => ?_⟩
    rcases List.mem_cons.1 hg with rfl | hg
    · omega
    · exact h2 g hg
theorem least_any (l : List SGiven) : ∀ (a b : Int), l ≠ [] → (∀ g ∈ l, val g ≤ a) → (∀ g ∈ l, val g ≤ b) → least l a = least l b := by
  intro a b hne ha hb
  cases l with
  | nil => exact absurd rfl hne
  | cons x l =>
    rw [least_cons, least_cons]
    have h1 := ha x (by simp)
    have h2 := hb x (by simp)
    congr 1
    omega
theorem most_any (l : List SGiven) : ∀ (a b : Int), l ≠ [] → (∀ g ∈ l, a ≤ val g) → (∀ g ∈ l, b ≤ val g) → most l a = most l b := by
  intro a b hne ha hb
  cases l with
  | nil => exact absurd rfl hne
  | cons x l =>
    rw [most_cons, most_cons]
    have h1 := ha x (by simp)
    have h2 := hb x (by simp)
    congr 1
    omega
theorem total_lo (l : List SGiven) (c : Int) (h : ∀ g ∈ l, c ≤ val g) : ∀ a : Int, a + c * l.length ≤ total l a := by
  induction l with
  | nil => intro a; simp [total]
  | cons x l ih =>
    intro a
    have h1 := ih (fun g hg => h g (by simp [hg])) (a + val x)
    have h2 := h x (by simp)
    rw [total_cons]
    simp only [List.length_cons]
    have : c * ((l.length + 1 : Nat) : Int) = c * l.length + c := by rw [Int.natCast_add, Int.mul_add]; simp
    omega
theorem total_hi (l : List SGiven) (c : Int) (h : ∀ g ∈ l, val g ≤ c) : ∀ a : Int, total l a ≤ a + c * l.length := by
  induction l with
  | nil => intro a; simp [total]
  | cons x l ih =>
    intro a
    have h1 := ih (fun g hg => h g (by simp [hg])) (a + val x)
    have h2 := h x (by simp)
    rw [total_cons]
    simp only [List.length_cons]
    have : c * ((l.length + 1 : Nat) : Int) = c * l.length + c := by rw [Int.natCast_add, Int.mul_add]; simp
    omega
theorem val_nn (g : SGiven) : 0 ≤ val g := by unfold val; omega
/-- A rounded mean lies between. -/
theorem mean_lo {n lo t : Int} (hn : 0 < n) (h : lo * n ≤ t) : lo ≤ (2 * t + n) / (2 * n) := by
  refine Int.le_ediv_of_mul_le (by omega) ?_
  have : lo * (2 * n) = 2 * (lo * n) := by rw [Int.mul_left_comm]
  omega
theorem mean_hi {n hi t : Int} (hn : 0 < n) (h : t ≤ hi * n) : (2 * t + n) / (2 * n) ≤ hi := by
  refine Int.le_of_lt_add_one (Int.ediv_lt_of_lt_mul (by omega) ?_)
  have : (hi + 1) * (2 * n) = 2 * (hi * n) + 2 * n := by rw [Int.add_mul, Int.mul_left_comm]; omega
  omega
def maxLv (l : List SGiven) (a : Int) : Int := l.foldl (fun m g => max m g.Level) a
theorem maxLv_cons (g : SGiven) (l : List SGiven) (a : Int) : maxLv (g :: l) a = maxLv l (max a g.Level) := rfl
theorem le_maxLv (l : List SGiven) : ∀ a : Int, a ≤ maxLv l a ∧ (∀ g ∈ l, g.Level ≤ maxLv l a) := by
  induction l with
  | nil => intro a; simp [maxLv]
  | cons x l ih =>
    intro a
    obtain ⟨h1, h2⟩ := ih (max a x.Level)
    rw [maxLv_cons]
    refine ⟨by omega, fun g hg => ?_⟩
    rcases List.mem_cons.1 hg with rfl | hg
    · omega
    · exact h2 g hg
theorem maxLv_le (l : List SGiven) : ∀ (a c : Int), a ≤ c → (∀ g ∈ l, g.Level ≤ c) → maxLv l a ≤ c := by
  induction l with
  | nil => intro a c h _; simpa [maxLv] using h
  | cons x l ih =>
    intro a c h h'
    rw [maxLv_cons]
    have := h' x (by simp)
    exact ih _ _ (by omega) fun g hg => h' g (by simp [hg])
/-- The one that decides has the greatest level. -/
theorem Top_lv {l : List SGiven} {m : SGiven} (h : Top l m) : maxLv l 0 = m.Level := by
  have h1 := (le_maxLv l 0).2 m h.1
  have h2 := maxLv_le l 0 m.Level (by have := h.2.1; omega) fun g hg => by
    by_cases h2 : 2 ≤ g.Level
    · have := h.2.2 g hg h2
      unfold beats at this
      omega
    · have := h.2.1; omega
  omega
/-- What is decided lies between, and how far. -/
theorem plain_final {d : Bool} {tol : Int} {l : List SGiven} (h : (plainV d tol l).1 = 3) : l ≠ [] ∧ ¬ (l.length = 1 ∧ d = true) ∧ ¬ (1 < l.length ∧ tol < most l 0 - least l 1000000000) ∧ (plainV d tol l).2 = (2 * total l 0 + l.length) / (2 * l.length) := by
  unfold plainV at *
  split at h
  · simp at h
  · split at h
    · simp at h
    · split at h
      · simp at h
      · next h1 h2 h3 => 
        rw [if_neg h1, if_neg h2, if_neg h3]
        exact ⟨h1, h2, h3, rfl⟩
theorem plain_open {d : Bool} {tol : Int} {l : List SGiven} (h : (plainV d tol l).1 ≠ 3) : (plainV d tol l).2 = 0 := by
  unfold plainV at *
  split
  · rfl
  · split
    · rfl
    · split
      · rfl
      · next h1 h2 h3 => rw [if_neg h1, if_neg h2, if_neg h3] at h; exact absurd rfl h
theorem plain_lo {d : Bool} {tol : Int} {l : List SGiven} (h : (plainV d tol l).1 = 3) {c : Int} (hc : ∀ g ∈ l, c ≤ val g) : c ≤ (plainV d tol l).2 := by
  obtain ⟨h1, _, _, h4⟩ := plain_final h
  have hp : 0 < l.length := List.length_pos_iff.2 h1
  rw [h4]
  have := total_lo l c hc 0
  exact mean_lo (by omega) (by omega)
theorem plain_hi {d : Bool} {tol : Int} {l : List SGiven} (h : (plainV d tol l).1 = 3) {c : Int} (hc : ∀ g ∈ l, val g ≤ c) : (plainV d tol l).2 ≤ c := by
  obtain ⟨h1, _, _, h4⟩ := plain_final h
  have hp : 0 < l.length := List.length_pos_iff.2 h1
  rw [h4]
  have := total_hi l c hc 0
  exact mean_hi (by omega) (by omega)
theorem seq_inj {l : List SGiven} (h : l.Pairwise (fun a b => b.Stamp_Seq < a.Stamp_Seq)) {a b : SGiven} (ha : a ∈ l) (hb : b ∈ l) (e : a.Stamp_Seq = b.Stamp_Seq) : a = b := by
  induction l with
  | nil => cases ha
  | cons x l ih =>
    obtain ⟨h1, h2⟩ := List.pairwise_cons.1 h
    rcases List.mem_cons.1 ha with ha | ha <;> rcases List.mem_cons.1 hb with hb | hb
    · rw [ha, hb]
    · have := h1 b hb; rw [ha] at e; omega
    · have := h1 a ha; rw [hb] at e; omega
    · exact ih h2 ha hb
theorem Top_one {l : List SGiven} (h : l.Pairwise (fun a b => b.Stamp_Seq < a.Stamp_Seq)) {a b : SGiven} (ha : Top l a) (hb : Top l b) : a = b := by
  have h1 := ha.2.2 b hb.1 hb.2.1
  have h2 := hb.2.2 a ha.1 ha.2.1
  refine seq_inj h ha.1 hb.1 ?_
  unfold beats stampLt at *
  omega
theorem Top_no {l : List SGiven} {m : SGiven} (h : Top l m) (h' : NoTop l) : False := by have := h' m h.1; have := h.2.1; omega
theorem small_few {l : List SGiven} (h : Few l) : Small l := ⟨by have := h.1; omega, fun g hg => by have := (h.2.1 g hg).hi; omega⟩
end Go.VM
