/- Fractions of small numbers in the reference: plain reasoning about the printed functions. -/
import Derived.Test.YtdebnihlkdabpaaHPRatioA
namespace Go.VM
set_option linter.unusedVariables false
set_option linter.unusedSimpArgs false

theorem Size_ok {k : Nat} {n : Int} (h : -9223372036854775807 ≤ n) (h2 : n ≤ 9223372036854775807) : ref01_Size k n = some (n.natAbs : Int) := by
  unfold ref01_Size
  by_cases hn : n < 0
  · rw [decide_eq_true hn, cond_true, w64 (x := n + 1) (by omega) (by omega), w64 (x := 0 - (n + 1)) (by omega) (by omega), wu64 (x := 0 - (n + 1)) (by omega) (by omega), wu64 (by omega) (by omega)]
    congr 1; omega
  · rw [decide_eq_false hn, cond_false, wu64 (by omega) (by omega)]
    congr 1; omega
theorem Divide_ok {k : Nat} {a b : Int} (h0 : 0 ≤ a) (h1 : a ≤ 18446744073709551615) (hb : 1 ≤ b) : ref01_Divide k 0 a 0 b = some (0, a / b, 0, a % b) := by
  unfold ref01_Divide
  simp only [blet_mk, beq_self_eq_true, Bool.and_true, cond_true]
  rw [gnz_some (by omega), gnz_some (by omega), Int.tdiv_eq_ediv_of_nonneg h0, Int.tmod_eq_emod_of_nonneg h0, wu64 (Int.ediv_nonneg h0 (by omega)) (Int.le_trans (Int.ediv_le_self b h0) h1)]
theorem Divisor_ok {k : Nat} {a b : Int} (ha : 0 ≤ a) (ha2 : a ≤ 18446744073709551615) (hb : 0 ≤ b) (hb2 : b ≤ 18446744073709551615) (hk : b.toNat < k) : ref01_Divisor k 0 a 0 b = some (0, (Int.gcd a b : Int)) := by
  apply Ok.eq
  unfold ref01_Divisor
  refine Ok.bind (Q := fun r => r = (0, (Int.gcd a b : Int))) (ok_loop (fun s => s.1 = 0 ∧ 0 ≤ s.2.1 ∧ s.2.1 ≤ 18446744073709551615 ∧ s.2.2.1 = 0 ∧ 0 ≤ s.2.2.2 ∧ s.2.2.2 ≤ 18446744073709551615 ∧ Int.gcd s.2.1 s.2.2.2 = Int.gcd a b) (fun s => s.2.2.2.toNat) ⟨rfl, ha, ha2, rfl, hb, hb2, rfl⟩ hk ?_) fun r hr => by subst hr; exact Ok.ret rfl
  intro again s hs hag
  obtain ⟨u, x, v, y⟩ := s
  obtain ⟨e1, g1, g2, e2, g3, g4, g5⟩ := hs
  simp only at e1 g1 g2 e2 g3 g4 g5
  subst e1 e2
  simp only [ref01_Divisor_b1, uc_mk, beq_self_eq_true, Bool.true_and, Bool.and_true]
  refine ok_bif (fun hc => ?_) fun hc => ?_
  · have hy : y ≠ 0 := by simpa using hc
    rw [Divide_ok g1 g2 (by omega), Option.bind_some]
    have h1 := Int.emod_nonneg x hy
    have h2 := Int.emod_lt_of_pos x (show 0 < y by omega)
    simp only [uc_mk]
    refine hag _ ⟨rfl, g3, g4, rfl, h1, by dsimp only; omega, ?_⟩ (by dsimp only; omega)
    dsimp only
    rw [← g5, Int.gcd_comm y, gcd_emod_ g1 g3]
  · have hy : y = 0 := by simpa using hc
    subst hy
    refine Ok.ret ?_
    rw [← g5]
    congr 1
    simp
    omega
end Go.VM
