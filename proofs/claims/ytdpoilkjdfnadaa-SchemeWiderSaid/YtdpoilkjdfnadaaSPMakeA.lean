/- What a tape gives: plain reasoning about the printed functions. -/
import Derived.Test.YtdpoilkjdfnadaaSFuns
import Derived.Test.YtdpoilkjdfnadaaEngV
namespace Go.VM
set_option linter.unusedVariables false
set_option linter.unusedSimpArgs false

theorem New_ok {k : Nat} (t : List Int) : Ok (make_New k t) (fun x => x.length ≤ 600) := by
  unfold make_New
  refine Ok.bind (Q := fun x => x.length ≤ 600) (ok_bif (fun h => ?_) fun h => ?_) fun r hr => Ok.ret hr
  · have h' := of_decide_eq_true h
    refine ok_cut (by omega) (by omega) (by omega) (Ok.ret ?_)
    simp; omega
  · have h' := of_decide_eq_false h
    exact Ok.ret (by omega)
theorem Cut_eq {k : Nat} (x : Int) {n : Int} (h1 : 1 ≤ n) (hn : n ≤ 1000000000) : make_Cut k x n = some (x % n) := by
  unfold make_Cut
  rw [dec_nlt h1, cond_false, gnz_some (by omega)]
  have a1 := Int.tmod_lt_of_pos x (show 0 < n by omega)
  have a2 := Int.lt_tmod_of_pos x (show 0 < n by omega)
  have e1 : x % n = if Int.tmod x n < 0 then Int.tmod x n + n else Int.tmod x n := by
    have e2 : x % n = (Int.tmod x n) % n := by
      have := Int.tmod_add_mul_tdiv x n
      conv => lhs; rw [← this]
      rw [Int.add_mul_emod_self_left]
    rw [e2]
    split
    · rw [← Int.add_emod_right, Int.emod_eq_of_lt (by omega) (by omega)]
    · rw [Int.emod_eq_of_lt (by omega) (by omega)]
  by_cases h : Int.tmod x n < 0
  · rw [dec_lt h, cond_true, w64 (by omega) (by omega)]
    simp [e1, h]
  · rw [dec_nlt (by omega), cond_false]
    simp [e1, h]
theorem Raw_then {k : Nat} {x : List Int} {i : Int} {Y : Type} {f : Int → Int → Option Y} {Q : Y → Prop} (hx : x.length ≤ 600) (h0 : 0 ≤ i) (hf : ∀ a j, 0 ≤ j → Ok (f a j) Q) : Ok (Option.bind (make_Tape_Raw k x i) (uc f)) Q := by
  unfold make_Tape_Raw
  refine Ok.bind (Q := fun r => 0 ≤ r.2) (ok_bif (fun h => Ok.ret h0) fun h => ?_) fun r hr => ?_
  · have h' := of_decide_eq_false h
    rw [w64 (x := i + 1) (by omega) (by omega), w64 (x := i + 1 - 1) (by omega) (by omega)]
    exact ok_idx (by omega) (by omega) fun hi => Ok.ret (by simp only; omega)
  · obtain ⟨a, j⟩ := r; exact hf a j hr
theorem TNext_then {k : Nat} {n : Int} {x : List Int} {i : Int} {Y : Type} {f : Int → Int → Option Y} {Q : Y → Prop} (hx : x.length ≤ 600) (h0 : 0 ≤ i) (hn0 : 1 ≤ n) (hn : n ≤ 1000000) (hf : ∀ a j, 0 ≤ a → a < n → 0 ≤ j → Ok (f a j) Q) : Ok (Option.bind (make_Tape_Next k n x i) (uc f)) Q := by
  unfold make_Tape_Next
  refine Ok.bind (Q := fun r => 0 ≤ r.1 ∧ r.1 < n ∧ 0 ≤ r.2) (Raw_then hx h0 fun a j hj => ?_) fun r hr => ?_
  · rw [Cut_eq a hn0 (by omega), Option.bind_some]
    exact Ok.ret ⟨Int.emod_nonneg _ (by omega), Int.emod_lt_of_pos _ (by omega), hj⟩
  · obtain ⟨a, j⟩ := r; exact hf a j hr.1 hr.2.1 hr.2.2
theorem Range_then {k : Nat} {lo hi : Int} {x : List Int} {i : Int} {Y : Type} {f : Int → Int → Option Y} {Q : Y → Prop} (hx : x.length ≤ 600) (h0 : 0 ≤ i) (h1 : -100000 ≤ lo) (h2 : lo ≤ hi) (h3 : hi ≤ 100000) (hf : ∀ a j, lo ≤ a → a ≤ hi → 0 ≤ j → Ok (f a j) Q) : Ok (Option.bind (make_Tape_Range k lo hi x i) (uc f)) Q := by
  unfold make_Tape_Range
  rw [w64 (x := hi - lo) (by omega) (by omega), w64 (x := hi - lo + 1) (by omega) (by omega)]
  refine Ok.bind (Q := fun r => lo ≤ r.1 ∧ r.1 ≤ hi ∧ 0 ≤ r.2) (TNext_then hx h0 (by omega) (by omega) fun a j ha1 ha2 hj => ?_) fun r hr => ?_
  · rw [w64 (by omega) (by omega)]
    exact Ok.ret ⟨by simp only; omega, by simp only; omega, hj⟩
  · obtain ⟨a, j⟩ := r; exact hf a j hr.1 hr.2.1 hr.2.2
end Go.VM
