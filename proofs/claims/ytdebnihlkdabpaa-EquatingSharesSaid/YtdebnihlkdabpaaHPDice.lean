/- What the dice give: plain reasoning about the printed functions. -/
import Derived.Test.YtdebnihlkdabpaaHFuns
import Derived.Test.YtdebnihlkdabpaaEngV
namespace Go.VM
set_option linter.unusedVariables false
set_option linter.unusedSimpArgs false

theorem Next_ok {k : Nat} {n : Int} {x : List Int} {i : Int} (hx : x.length ≤ 600) (h0 : 0 ≤ i) (hn0 : 1 ≤ n) (hn : n ≤ 1000000) : Ok (mark_Dice_Next k n x i) (fun r => 0 ≤ r.1 ∧ r.1 < n ∧ 0 ≤ r.2) := by
  unfold mark_Dice_Next
  refine ok_let (ok_bif (fun h => Ok.ret ⟨Int.le_refl _, by omega, h0⟩) fun h => ?_)
  simp only [Bool.or_eq_false_iff, decide_eq_false_iff_not, ge_iff_le, Int.not_le] at h
  refine ok_idx h0 (by omega) fun hi => ok_nz (by omega) ?_
  generalize x[i.toNat] = e
  have h1 := Int.tmod_lt_of_pos e (show 0 < n by omega)
  have h2 := Int.lt_tmod_of_pos e (show 0 < n by omega)
  refine Ok.bind (Q := fun r => 0 ≤ r.1 ∧ r.1 < n ∧ 0 ≤ r.2) (ok_bif (fun h => ?_) fun h => ?_) fun r hr => ?_
  · have h' := of_decide_eq_true h
    refine Ok.ret ⟨?_, ?_, ?_⟩
    · simp only; rw [w64 (by omega) (by omega)]; omega
    · simp only; rw [w64 (by omega) (by omega)]; omega
    · simp only; rw [w64 (by omega) (by omega)]; omega
  · have h' := of_decide_eq_false h
    refine Ok.ret ⟨?_, ?_, ?_⟩
    · simp only; omega
    · simp only; omega
    · simp only; rw [w64 (by omega) (by omega)]; omega
  · obtain ⟨a, b⟩ := r
    exact Ok.ret hr
theorem Next_then {k : Nat} {n : Int} {x : List Int} {i : Int} {Y : Type} {f : Int → Int → Option Y} {Q : Y → Prop} (hx : x.length ≤ 600) (h0 : 0 ≤ i) (hn0 : 1 ≤ n) (hn : n ≤ 1000000) (hf : ∀ a j, 0 ≤ a → a < n → 0 ≤ j → Ok (f a j) Q) : Ok (Option.bind (mark_Dice_Next k n x i) (uc f)) Q := by
  refine Ok.bind (Next_ok hx h0 hn0 hn) fun r hr => ?_
  obtain ⟨a, j⟩ := r
  exact hf a j hr.1 hr.2.1 hr.2.2
end Go.VM
