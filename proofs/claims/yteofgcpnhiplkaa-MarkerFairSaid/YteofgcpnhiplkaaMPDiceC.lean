/- Markers that the dice make: plain reasoning about the printed functions. -/
import Derived.Test.YteofgcpnhiplkaaMPDiceB
namespace Go.VM
set_option linter.unusedVariables false
set_option linter.unusedSimpArgs false

structure FineM (m : SMarker) : Prop where
  lo : 1 ≤ m.ID
  hi : m.ID ≤ 15
  lv : m.Level = 1 ∨ m.Level = 2 ∨ m.Level = 3
  ce : m.Centre = -1 ∨ m.Centre = 1 ∨ m.Centre = 2 ∨ m.Centre = 3
  ca : 0 ≤ m.Capacity ∧ m.Capacity ≤ 6
  pa : m.Papers = [0, 1] ∨ m.Papers = [0] ∨ m.Papers = [1]
def FineMarkers (l : List SMarker) : Prop := 2 ≤ l.length ∧ l.length ≤ 5 ∧ (∀ m ∈ l, FineM m) ∧ l.Pairwise (fun a b => a.ID < b.ID)
theorem Markers_then {k : Nat} {x : List Int} {i : Int} {Y : Type} {f : List SMarker → Int → Option Y} {Q : Y → Prop} (hx : x.length ≤ 600) (h0 : 0 ≤ i) (hk : 10 < k) (hf : ∀ l j, FineMarkers l → 0 ≤ j → Ok (f l j) Q) : Ok (Option.bind (mark_Dice_Markers k x i) (uc f)) Q := by
  unfold mark_Dice_Markers
  refine Ok.bind (Q := fun r => FineMarkers r.1 ∧ 0 ≤ r.2) ?_ fun r hr => ?_
  · refine Next_then hx h0 (by omega) (by omega) fun n j hn1 hn2 hj => ?_
    rw [w64 (by omega) (by omega)]
    refine Ok.bind (Q := fun r => 0 ≤ r.1 ∧ FineMarkers r.2) (ok_loop (fun s => 0 ≤ s.2.1 ∧ s.2.1 + s.2.2.2.length = 2 + n ∧ 0 ≤ s.2.2.1 ∧ 0 ≤ s.1 ∧ s.1 ≤ 3 * s.2.2.2.length ∧ (∀ m ∈ s.2.2.2, FineM m ∧ m.ID ≤ s.1) ∧ s.2.2.2.Pairwise (fun a b => a.ID < b.ID)) (fun s => s.2.1.toNat) ⟨by simp only; omega, by simp, hj, by simp, by simp, by simp, by simp⟩ (by simp only; omega) ?_) fun r hr => ?_
    · intro again s hs hag
      obtain ⟨id, c, j, xs⟩ := s
      obtain ⟨h1, h2, h3, h4, h5, h6, h7⟩ := hs
      simp only at h1 h2 h3 h4 h5 h6 h7
      simp only [mark_Dice_Markers_b1, uc_mk]
      refine ok_bif (fun hc => ?_) fun hc => ?_
      · have hc' := of_decide_eq_true hc
        have hlen : xs.length ≤ 4 := by omega
        refine Next_then hx h3 (by omega) (by omega) fun a j ha1 ha2 hj => ?_
        refine Pick_then hx hj (by simp) (by simp) fun ce j hce hj => ?_
        refine Pick_then hx hj (by simp) (by simp) fun lv j hlv hj => ?_
        refine Pick_then hx hj (by simp) (by simp) fun ca j hca hj => ?_
        refine Next_then hx hj (by omega) (by omega) fun b j hb1 hb2 hj => ?_
        refine ok_idx hb1 (by simpa using hb2) fun hi => ok_cap (by simp; omega) ?_
        generalize hpp : ([([0, 1] : List Int), ([0] : List Int), ([1] : List Int), ([0, 1] : List Int)] : List (List Int))[b.toNat] = pp
        have hpa : pp = [0, 1] ∨ pp = [0] ∨ pp = [1] := by
          have : b = 0 ∨ b = 1 ∨ b = 2 ∨ b = 3 := by omega
          rcases this with rfl | rfl | rfl | rfl <;> simp at hpp <;> simp [← hpp]
        rw [w64 (x := 1 + a) (by omega) (by omega), w64 (x := id + (1 + a)) (by omega) (by omega), w64 (x := c - 1) (by omega) (by omega)]
        have hM : FineM ⟨id + (1 + a), ce, lv, ca, pp⟩ := by
          refine ⟨by simp only; omega, by simp only; omega, ?_, ?_, ?_, hpa⟩
          · simp at hlv; simp only; omega
          · simp at hce; simp only; omega
          · simp at hca; simp only; omega
        refine hag _ ⟨by simp only; omega, by simp; omega, hj, by simp only; omega, by simp; omega, fun m hm => ?_, ?_⟩ (by simp only; omega)
        · simp only [List.mem_append, List.mem_singleton] at hm
          rcases hm with hm | rfl
          · exact ⟨(h6 m hm).1, by have := (h6 m hm).2; simp only; omega⟩
          · exact ⟨hM, by simp⟩
        · refine List.pairwise_append.2 ⟨h7, by simp, fun m hm m' hm' => ?_⟩
          simp only [List.mem_singleton] at hm'
          subst hm'
          have := (h6 m hm).2
          simp only; omega
      · have hc' := of_decide_eq_false hc
        exact Ok.ret ⟨h3, by simp only; omega, by simp only; omega, fun m hm => (h6 m hm).1, h7⟩
    · obtain ⟨j, l⟩ := r
      exact Ok.ret ⟨hr.2, hr.1⟩
  · obtain ⟨l, j⟩ := r
    exact hf l j hr.1 hr.2
end Go.VM
