/- Distributions that the dice make, and what is counted in them: plain reasoning about the printed functions. -/
import Derived.Test.YtdebnihlkdabpaaHPDice
namespace Go.VM
set_option linter.unusedVariables false
set_option linter.unusedSimpArgs false

theorem Pick_then {k : Nat} {l x : List Int} {i : Int} {Y : Type} {f : Int → Int → Option Y} {Q : Y → Prop} (hx : x.length ≤ 600) (h0 : 0 ≤ i) (hn0 : 0 < l.length) (hn : l.length ≤ 1000000) (hf : ∀ a j, a ∈ l → 0 ≤ j → Ok (f a j) Q) : Ok (Option.bind (mark_Dice_Pick k x i l) (uc f)) Q := by
  unfold mark_Dice_Pick
  refine Ok.bind (Q := fun r => r.1 ∈ l ∧ 0 ≤ r.2) (Next_then hx h0 (by omega) (by omega) fun a j h1 h2 hj => ok_idx h1 h2 fun hi => Ok.ret ⟨List.getElem_mem hi, hj⟩) fun r hr => ?_
  obtain ⟨a, j⟩ := r
  exact hf a j hr.1 hr.2

/-- A distribution of few candidates. -/
def Few (d : List Int) : Prop := 1 ≤ d.length ∧ d.length ≤ 40 ∧ ∀ x ∈ d, 0 ≤ x ∧ x ≤ 1000
/-- A distribution as the dice make it. -/
def Made (n : Int) (full : Bool) (d : List Int) : Prop := 1 ≤ d.length ∧ (d.length : Int) ≤ n + 1 ∧ ∀ x ∈ d, (bif full then 1 else 0) ≤ x ∧ x ≤ 6
theorem Made.few {n : Int} {full : Bool} {d : List Int} (h : Made n full d) (hn : n ≤ 39) : Few d := ⟨h.1, by have := h.2.1; omega, fun x hx => by
  have := h.2.2 x hx
  cases full <;> simp only [cond_true, cond_false] at this <;> omega⟩
theorem Dist_then {k : Nat} {n : Int} {full : Bool} {x : List Int} {i : Int} {Y : Type} {f : List Int → Int → Option Y} {Q : Y → Prop} (hx : x.length ≤ 600) (h0 : 0 ≤ i) (hk : 50 < k) (hn0 : 0 ≤ n) (hn : n ≤ 39) (hf : ∀ d j, Made n full d → 0 ≤ j → Ok (f d j) Q) : Ok (Option.bind (mark_Dice_Distribution k n full x i) (uc f)) Q := by
  unfold mark_Dice_Distribution
  refine Ok.bind (Q := fun r => Made n full r.1 ∧ 0 ≤ r.2) ?_ fun r hr => ?_
  · refine Ok.bind (Q := fun r => r = bif full then (1 : Int) else 0) (by cases full <;> exact Ok.ret rfl) fun least hl => ?_
    rw [w64 (x := n + 1) (by omega) (by omega)]
    refine Next_then hx h0 (by omega) (by omega) fun a j h1 h2 hj => ?_
    rw [w64 (x := 1 + a) (by omega) (by omega)]
    refine Ok.bind (Q := fun r => Made n full r.2 ∧ 0 ≤ r.1) (ok_loop (fun s => 0 ≤ s.1 ∧ 0 ≤ s.2.1 ∧ s.1 + s.2.2.length = 1 + a ∧ ∀ x ∈ s.2.2, (bif full then 1 else 0) ≤ x ∧ x ≤ 6) (fun s => s.1.toNat) ⟨by simp only; omega, hj, by simp, by simp⟩ (by simp only; omega) ?_) fun r hr => ?_
    · intro again s hs hag
      obtain ⟨c, j, xs⟩ := s
      obtain ⟨g1, g2, g3, g4⟩ := hs
      simp only at g1 g2 g3 g4
      simp only [mark_Dice_Distribution_b1, uc_mk]
      refine ok_bif (fun hc => ?_) fun hc => ?_
      · have hc' := of_decide_eq_true hc
        refine Pick_then hx g2 (by simp) (by simp) fun e j he hj => ?_
        have he2 : 0 ≤ e ∧ e ≤ 5 := by
          simp only [List.mem_cons, List.not_mem_nil, or_false] at he
          omega
        have hl2 : 0 ≤ least ∧ least ≤ 1 := by subst hl; cases full <;> simp
        rw [w64 (x := least + e) (by omega) (by omega), w64 (x := c - 1) (by omega) (by omega)]
        refine ok_cap (by simp; omega) (hag _ ⟨by simp only; omega, hj, by simp only [List.length_append, List.length_singleton]; omega, fun y hy => ?_⟩ (by simp only; omega))
        simp only [List.mem_append, List.mem_singleton] at hy
        rcases hy with hy | rfl
        · exact g4 y hy
        · rw [← hl]; omega
      · have hc' := of_decide_eq_false hc
        exact Ok.ret ⟨⟨by simp only; omega, by simp only; omega, g4⟩, g2⟩
    · obtain ⟨j, xs⟩ := r
      exact Ok.ret hr
  · obtain ⟨d, j⟩ := r
    exact hf d j hr.1 hr.2

/-! ### what is counted -/
theorem sum_nn {d : List Int} (h : ∀ x ∈ d, 0 ≤ x) : 0 ≤ d.sum := by
  induction d with
  | nil => simp
  | cons x d ih =>
    have h1 := h x (by simp)
    have h2 := ih fun y hy => h y (by simp [hy])
    simp only [List.sum_cons]; omega
theorem sum_hi {d : List Int} {c : Int} (h : ∀ x ∈ d, x ≤ c) : d.sum ≤ c * d.length := by
  induction d with
  | nil => simp
  | cons x d ih =>
    have h1 := h x (by simp)
    have h2 := ih fun y hy => h y (by simp [hy])
    simp only [List.sum_cons, List.length_cons, Int.natCast_add, Int.natCast_one, Int.mul_add, Int.mul_one]; omega
theorem Few.bound {d pre post : List Int} (h : Few d) (hl : d = pre ++ post) : 0 ≤ pre.sum ∧ pre.sum ≤ 40000 := by
  have h1 : ∀ x ∈ pre, 0 ≤ x ∧ x ≤ 1000 := fun x hx => h.2.2 x (by rw [hl]; simp [hx])
  have h2 := sum_nn fun x hx => (h1 x hx).1
  have h3 := sum_hi (c := 1000) fun x hx => (h1 x hx).2
  have h4 : pre.length ≤ 40 := by have := h.2.1; rw [hl] at this; simp at this; omega
  omega
theorem Few.sum {d : List Int} (h : Few d) : 0 ≤ d.sum ∧ d.sum ≤ 40000 := h.bound (post := []) (by simp)
theorem Few.take {d : List Int} (h : Few d) (n : Nat) : 0 ≤ (d.take n).sum ∧ (d.take n).sum ≤ 40000 := h.bound (post := d.drop n) (by simp)
theorem take_le {d : List Int} (h : ∀ x ∈ d, 0 ≤ x) {m n : Nat} (hm : m ≤ n) : (d.take m).sum ≤ (d.take n).sum := by
  have e : d.take n = d.take m ++ (d.drop m).take (n - m) := by
    rw [← List.take_add]
    congr 1
    omega
  rw [e, List.sum_append]
  have := sum_nn (d := (d.drop m).take (n - m)) fun x hx => h x (List.mem_of_mem_drop (List.mem_of_mem_take hx))
  omega
theorem getD_of {l : List Int} {i : Nat} (h : i < l.length) : l.getD i 0 = l[i] := by simp [List.getD, h]
theorem take_all {d : List Int} {n : Nat} (h : d.length ≤ n) : (d.take n).sum = d.sum := by rw [List.take_of_length_le h]
theorem take_succ_sum {d : List Int} {n : Nat} (h : n < d.length) : (d.take (n + 1)).sum = (d.take n).sum + d[n] := by
  rw [List.take_add_one, List.getElem?_eq_getElem h, Option.toList_some, List.sum_append, List.sum_cons, List.sum_nil, Int.add_zero]
theorem sum_ok {k : Nat} {d : List Int} (h : ∀ x ∈ d, 0 ≤ x ∧ x ≤ 1000) (hl : d.length ≤ 40) (hk : 50 < k) : distribution_sum k d = some d.sum := by
  apply Ok.eq
  unfold distribution_sum
  refine Ok.bind (Q := fun r => r = d.sum) (ok_range d (fun s => s.2) (fun pre s => s.1 = pre.sum) (by omega) rfl rfl (by omega) ?_ ?_) fun r hr => Ok.ret hr
  · intro again s pre e post hl' hi hlt hw hinv hag
    obtain ⟨n, i⟩ := s
    simp only at hi hlt hw hinv
    simp only [distribution_sum_b1, uc_mk]
    rw [dec_lt hlt, cond_true, gidx_mid hl' hi, hw]
    have he := h e (by rw [hl']; simp)
    have h1 : ∀ x ∈ pre, 0 ≤ x ∧ x ≤ 1000 := fun x hx => h x (by rw [hl']; simp [hx])
    have h2 := sum_nn fun x hx => (h1 x hx).1
    have h3 := sum_hi (c := 1000) fun x hx => (h1 x hx).2
    have h4 : pre.length ≤ 40 := by rw [hl'] at hl; simp at hl; omega
    rw [w64 (x := n + e) (by omega) (by omega)]
    exact hag _ rfl (by simp [hinv, List.sum_append])
  · intro again s hi hinv
    obtain ⟨n, i⟩ := s
    simp only at hi hinv
    simp only [distribution_sum_b1, uc_mk]
    rw [dec_nlt (by omega), cond_false]
    exact Ok.ret hinv
theorem Valid_ok {k : Nat} {d : List Int} (h : Few d) (hk : 50 < k) : distribution_Valid k d = some true := by
  apply Ok.eq
  have h1 := h.1
  have h2 := h.2.1
  have h3 := h.sum
  unfold distribution_Valid
  refine ok_let (ok_bif (fun hb => ?_) fun _ => ?_)
  · rw [Bool.or_eq_true, decide_eq_true_iff, beq_iff_eq] at hb; omega
  · unfold slices_ContainsFunc_int slices_IndexFunc_int
    refine Ok.bind (Q := fun r => r = false) (Ok.bind (Q := fun r => r = -1) (ok_sum (Q := fun _ => True) (R := fun _ => False) (ok_range d (fun s => s) (fun _ _ => True) (by omega) rfl trivial (by omega) ?_ ?_) (fun _ _ => Ok.ret rfl) fun _ h => h.elim) fun r hr => Ok.ret (by subst hr; rfl)) fun r hr => ?_
    · intro again s pre e post hl hi hlt hw _ hag
      simp only [slices_IndexFunc_int_b1, distribution_Valid_1]
      rw [dec_lt hlt, cond_true, gidx_mid hl hi, hw]
      have he := h.2.2 e (by rw [hl]; simp)
      simp only [blet_mk, Option.bind_some]
      rw [dec_nlt (by omega), show decide (e > 1048576) = false from decide_eq_false (by omega)]
      simp only [Bool.or_false, cond_false]
      exact hag _ rfl trivial
    · intro again s hi _
      simp only [slices_IndexFunc_int_b1]
      rw [dec_nlt (by omega), cond_false]
      exact Ok.ret trivial
    · subst hr
      rw [cond_false, sum_ok h.2.2 h2 hk, Option.bind_some]
      exact Ok.ret (decide_eq_true (by omega))
theorem Count_ok {k : Nat} {d : List Int} (h : Few d) (hk : 50 < k) : distribution_Count k d = some d.sum := by
  unfold distribution_Count
  rw [Valid_ok h hk, sum_ok h.2.2 h.2.1 hk]
  rfl
theorem Below_ok {k : Nat} {d : List Int} {s : Int} (h : Few d) (hk : 50 < k) : distribution_Below k d s = some (d.take s.toNat).sum := by
  apply Ok.eq
  unfold distribution_Below
  rw [Valid_ok h hk]
  have h1 := h.1
  have h2 := h.2.1
  simp only [Option.bind_some, Bool.not_true, cond_false, gmin_def, gmax_def]
  refine ok_cut (Int.le_refl _) (by omega) (by omega) ?_
  rw [sum_ok (fun x hx => h.2.2 x (List.mem_of_mem_take hx)) (by simp; omega) hk]
  refine Ok.ret ?_
  by_cases hc : s.toNat ≤ d.length
  · rw [show (min (↑d.length) (max 0 s)).toNat = s.toNat by omega]
  · rw [show (min (↑d.length) (max 0 s)).toNat = d.length by omega, take_all (Nat.le_refl _), take_all (by omega)]

end Go.VM
