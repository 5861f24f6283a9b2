/- Fractions of small numbers in the reference: plain reasoning about the printed functions. -/
import Derived.Test.YtgfejdekpmkffaaBPRatioA
namespace Go.VM
set_option linter.unusedVariables false
set_option linter.unusedSimpArgs false

theorem Size_ok {k : Nat} {n : Int} (h : -9223372036854775807 ≤ n) (h2 : n ≤ 9223372036854775807) : ref01_Size k n = some (n.natAbs : Int) := by
  unfold ref01_Size
  by_cases hn : n < 0
  · rw [decide_eq_true hn, cond_true, w64 (x := n + 1) (by omega) (by omega), w64 (x := 0 - (n + 1)) (by omega) (by omega), wu64 (x := 0 - (n + 1)) (by omega) (by omega), wu64 (by omega) (by omega)]
    congr 1; omega
  · rw [decide_eq_false hn, cond_false, wu64 (by omega) (by omega)]
    congr 1; omega
theorem Divide_ok {k : Nat} {a b : Int} (h0 : 0 ≤ a) (h1 : a ≤ 18446744073709551615) (hb : 1 ≤ b) : ref01_Divide k 0 a 0 b = some (0, a / b, 0, a % b) := by
  unfold ref01_Divide
  simp only [blet_mk, beq_self_eq_true, Bool.and_true, cond_true]
  rw [gnz_some (by omega), gnz_some (by omega), Int.tdiv_eq_ediv_of_nonneg h0, Int.tmod_eq_emod_of_nonneg h0, wu64 (Int.ediv_nonneg h0 (by omega)) (Int.le_trans (Int.ediv_le_self b h0) h1)]
theorem Divisor_ok {k : Nat} {a b : Int} (ha : 0 ≤ a) (ha2 : a ≤ 18446744073709551615) (hb : 0 ≤ b) (hb2 : b ≤ 18446744073709551615) (hk : b.toNat < k) : ref01_Divisor k 0 a 0 b = some (0, (Int.gcd a b : Int)) := by
  apply Ok.eq
  unfold ref01_Divisor
  refine Ok.bind (Q := fun r => r = (0, (Int.gcd a b : Int))) (ok_loop (fun s => s.1 = 0 ∧ 0 ≤ s.2.1 ∧ s.2.1 ≤ 18446744073709551615 ∧ s.2.2.1 = 0 ∧ 0 ≤ s.2.2.2 ∧ s.2.2.2 ≤ 18446744073709551615 ∧ Int.gcd s.2.1 s.2.2.2 = Int.gcd a b) (fun s => s.2.2.2.toNat) ⟨rfl, ha, ha2, rfl, hb, hb2, rfl⟩ hk ?_) fun r hr => by subst hr; exact Ok.ret rfl
  intro again s hs hag
  obtain ⟨u, x, v, y⟩ := s
  obtain ⟨e1, g1, g2, e2, g3, g4, g5⟩ := hs
  simp only at e1 g1 g2 e2 g3 g4 g5
  subst e1 e2
  simp only [ref01_Divisor_b1, uc_mk, beq_self_eq_true, Bool.true_and, Bool.and_true]
  refine ok_bif (fun hc => ?_) fun hc => ?_
  · have hy : y ≠ 0 := by simpa using hc
    rw [Divide_ok g1 g2 (by omega), Option.bind_some]
    have h1 := Int.emod_nonneg x hy
    have h2 := Int.emod_lt_of_pos x (show 0 < y by omega)
    simp only [uc_mk]
    refine hag _ ⟨rfl, g3, g4, rfl, h1, by dsimp only; omega, ?_⟩ (by dsimp only; omega)
    dsimp only
    rw [← g5, Int.gcd_comm y, gcd_emod_ g1 g3]
  · have hy : y = 0 := by simpa using hc
    subst hy
    refine Ok.ret ?_
    rw [← g5]
    congr 1
    simp
    omega
theorem rReduce_ok {k : Nat} {s : Bool} {n d : Int} (hn : 0 ≤ n) (hn2 : n ≤ 1152921504606846976) (hd : 1 ≤ d) (hd2 : d ≤ 1152921504606846976) (hk : d.toNat < k) : ref01_Reduce k s 0 n 0 d = some (bif s then -rnum n d else rnum n d, rden n d, 0) := by
  unfold ref01_Reduce
  have hg := gcd_pos (n := n) (d := d) (by omega)
  have hr1 := rnum_le (d := d) hn
  have hr2 := rden_le (n := n) (d := d) (by omega)
  have hr3 := rden_pos (n := n) (d := d) (by omega)
  have e1 : n / (Int.gcd n d : Int) = rnum n d := rfl
  have e2 : d / (Int.gcd n d : Int) = rden n d := rfl
  rw [Divisor_ok hn (by omega) (by omega) (by omega) hk]
  simp only [Option.bind_some, uc_mk]
  rw [Divide_ok hn (by omega) (by omega), Divide_ok (by omega) (by omega) (by omega), e1, e2]
  simp only [Option.bind_some, uc_mk, blet_mk]
  rw [show decide (rnum n d > 1152921504606846976) = false from decide_eq_false (by omega), show decide (rden n d > 1152921504606846976) = false from decide_eq_false (by omega)]
  rw [show decide ((0 : Int) > 0) = false from rfl]
  simp only [Bool.or_false, cond_false]
  rw [w64 (x := rnum n d) (by omega) (by omega), w64 (x := 0 - rnum n d) (by omega) (by omega), w64 (x := rden n d) (by omega) (by omega)]
  cases s
  · simp [uc]
  · simp [uc]
theorem rNew_ok {k : Nat} {n d : Int} (hn : -1152921504606846976 ≤ n) (hn2 : n ≤ 1152921504606846976) (hd : 1 ≤ d) (hd2 : d ≤ 1152921504606846976) (hk : d.toNat < k) : ref01_New k n d = some (rnum n d, rden n d, 0) := by
  unfold ref01_New
  rw [show (d == 0) = false by rw [beq_int]; simp; omega, cond_false, Size_ok (by omega) (by omega), Size_ok (by omega) (by omega), Option.bind_some, Option.bind_some]
  rw [show ((d.natAbs : Nat) : Int) = d by omega, rReduce_ok (by omega) (by omega) hd hd2 hk]
  rw [show decide (d < 0) = false from decide_eq_false (by omega)]
  simp only [Option.bind_some, uc_mk]
  by_cases h : n < 0
  · rw [decide_eq_true h, show ((n.natAbs : Nat) : Int) = -n by omega, rnum_neg]
    simp [rden, Int.neg_gcd]
  · rw [decide_eq_false h, show ((n.natAbs : Nat) : Int) = n by omega]
    simp
end Go.VM
