/- Boundaries: plain reasoning about the printed functions. -/
import Derived.Test.YtgfejdekpmkffaaRPDistB
namespace Go.VM
set_option linter.unusedVariables false
set_option linter.unusedSimpArgs false

/-- Boundaries as the dice make them. -/
def Falls (most : Int) (b : List Int) : Prop := 1 ≤ b.length ∧ b.length ≤ 4 ∧ (∀ x ∈ b, 0 ≤ x ∧ x ≤ most + 1) ∧ b.Pairwise (fun x y => y ≤ x)
theorem Bounds_then {k : Nat} {most : Int} {x : List Int} {i : Int} {Y : Type} {f : List Int → Int → Option Y} {Q : Y → Prop} (hx : x.length ≤ 600) (h0 : 0 ≤ i) (hk : 50 < k) (hn0 : 0 ≤ most) (hn : most ≤ 200) (hf : ∀ d j, Falls most d → 0 ≤ j → Ok (f d j) Q) : Ok (Option.bind (mark_Dice_Bounds k most x i) (uc f)) Q := by
  unfold mark_Dice_Bounds
  refine Ok.bind (Q := fun r => Falls most r.1 ∧ 0 ≤ r.2) ?_ fun r hr => ?_
  · refine Next_then hx h0 (by omega) (by omega) fun a j h1 h2 hj => ?_
    rw [w64 (x := most + 1) (by omega) (by omega), w64 (x := 1 + a) (by omega) (by omega)]
    refine Ok.bind (Q := fun r => Falls most r.2 ∧ 0 ≤ r.1) (ok_loop (fun s => (0 ≤ s.1 ∧ s.1 ≤ most + 1) ∧ 0 ≤ s.2.1 ∧ 0 ≤ s.2.2.1 ∧ s.2.1 + s.2.2.2.length = 1 + a ∧ (∀ x ∈ s.2.2.2, s.1 ≤ x ∧ x ≤ most + 1) ∧ s.2.2.2.Pairwise (fun x y => y ≤ x)) (fun s => s.2.1.toNat) ⟨by dsimp only; omega, by dsimp only; omega, hj, by simp, by simp, by simp⟩ (by dsimp only; omega) ?_) fun r hr => ?_
    · intro again s hs hag
      obtain ⟨b, c, j, xs⟩ := s
      obtain ⟨g0, g1, g2, g3, g4, g5⟩ := hs
      simp only at g0 g1 g2 g3 g4 g5
      simp only [mark_Dice_Bounds_b1, uc_mk]
      refine ok_bif (fun hc => ?_) fun hc => ?_
      · have hc' := of_decide_eq_true hc
        rw [Int.tdiv_eq_ediv_of_nonneg g0.1, w64 (x := b / 2) (by omega) (by omega), w64 (x := b / 2 + 1) (by omega) (by omega)]
        refine Next_then hx g2 (by omega) (by omega) fun e j he1 he2 hj => ?_
        rw [w64 (x := b - e) (by omega) (by omega), w64 (x := c - 1) (by omega) (by omega)]
        refine ok_cap (by simp; omega) (hag _ ⟨by dsimp only; omega, by dsimp only; omega, hj, by simp only [List.length_append, List.length_singleton]; omega, fun y hy => ?_, ?_⟩ (by dsimp only; omega))
        · simp only [List.mem_append, List.mem_singleton] at hy
          rcases hy with hy | rfl
          · have := g4 y hy; dsimp only; omega
          · dsimp only; omega
        · refine List.pairwise_append.2 ⟨g5, by simp, fun y hy z hz => ?_⟩
          simp only [List.mem_singleton] at hz
          have := g4 y hy
          omega
      · have hc' := of_decide_eq_false hc
        exact Ok.ret ⟨⟨by dsimp only; omega, by dsimp only; omega, fun y hy => by have := g4 y hy; omega, g5⟩, g2⟩
    · obtain ⟨j, xs⟩ := r
      exact Ok.ret hr
  · obtain ⟨d, j⟩ := r
    exact hf d j hr.1 hr.2
theorem In_ok {k : Nat} {n lo hi : Int} (h1 : lo ≤ n) (h2 : n ≤ hi) : boundary_in k n lo hi = some true := by
  unfold boundary_in
  simp [h1, h2, blet]
/-- Boundaries that do not rise. -/
def Order (most : Int) (b : List Int) : Prop := 1 ≤ b.length ∧ b.length ≤ 9 ∧ (∀ x ∈ b, 0 ≤ x ∧ x ≤ most + 1) ∧ b.Pairwise (fun x y => y ≤ x)
theorem Falls.order {most : Int} {b : List Int} (h : Falls most b) : Order most b := ⟨h.1, by have := h.2.1; omega, h.2.2⟩
theorem Check_ok {k : Nat} {b : List Int} {most : Int} (h : Order most b) (h0 : 0 ≤ most) (h1 : most ≤ 200) (hk : 50 < k) : boundary_Check k b most = some 0 := by
  apply Ok.eq
  obtain ⟨g1, g2, g3, g4⟩ := h
  unfold boundary_Check
  rw [In_ok h0 h1]
  simp only [Option.bind_some, Bool.not_true, cond_false]
  refine ok_let (ok_bif (fun hb => ?_) fun _ => ?_)
  · rw [Bool.or_eq_true, decide_eq_true_iff, beq_iff_eq] at hb; omega
  · unfold slices_ContainsFunc_int_2 slices_IndexFunc_int_2
    refine Ok.bind (Q := fun r => r = false) (Ok.bind (Q := fun r => r = -1) (ok_sum (Q := fun _ => True) (R := fun _ => False) (ok_range b (fun s => s) (fun _ _ => True) (by omega) rfl trivial (by omega) ?_ ?_) (fun _ _ => Ok.ret rfl) fun _ h => h.elim) fun r hr => Ok.ret (by subst hr; rfl)) fun r hr => ?_
    · intro again s pre e post hl hi hlt hw _ hag
      simp only [slices_IndexFunc_int_2_b1, boundary_Check_1]
      rw [dec_lt hlt, cond_true, gidx_mid hl hi, hw]
      have he := g3 e (by rw [hl]; simp)
      rw [w64 (x := most + 1) (by omega) (by omega), In_ok he.1 he.2]
      simp only [Option.bind_some, Bool.not_true, cond_false]
      exact hag _ rfl trivial
    · intro again s hi _
      simp only [slices_IndexFunc_int_2_b1]
      rw [dec_nlt (by omega), cond_false]
      exact Ok.ret trivial
    · subst hr
      rw [cond_false]
      refine ok_sum (Q := fun _ => True) (R := fun _ => False) (ok_loop (fun i => 1 ≤ i) (fun i => b.length + 1 - i.toNat) (Int.le_refl _) (by omega) ?_) (fun _ _ => Ok.ret rfl) fun _ h => h.elim
      intro again i hi hag
      simp only [boundary_Check_b1]
      refine ok_bif (fun hc => ?_) fun hc => Ok.ret trivial
      have hc' := of_decide_eq_true hc
      rw [w64 (x := i - 1) (by omega) (by omega), w64 (x := i + 1) (by omega) (by omega)]
      refine ok_idx (by omega) hc' fun h1 => ok_idx (by omega) (by omega) fun h2 => ?_
      have := List.pairwise_iff_getElem.1 g4 (i - 1).toNat i.toNat h2 h1 (by omega)
      rw [show decide (b[i.toNat] > b[(i - 1).toNat]) = false from decide_eq_false (by omega), cond_false]
      exact hag _ (by omega) (by omega)

/-- The grade of a mark. -/
def gradeN : List Int → Int → Nat
  | [], _ => 0
  | x :: b, m => if x ≤ m then 0 else gradeN b m + 1
theorem gradeN_le (b : List Int) (m : Int) : gradeN b m ≤ b.length := by
  induction b with
  | nil => simp [gradeN]
  | cons x b ih => simp only [gradeN, List.length_cons]; split <;> omega
theorem gradeN_pre {pre : List Int} {m : Int} (h : ∀ x ∈ pre, m < x) (l : List Int) : gradeN (pre ++ l) m = pre.length + gradeN l m := by
  induction pre with
  | nil => simp
  | cons x pre ih =>
    have := h x (by simp)
    simp only [List.cons_append, gradeN, List.length_cons]
    rw [if_neg (by omega), ih fun y hy => h y (by simp [hy])]
    omega
theorem Grade_ok {k : Nat} {b : List Int} {m : Int} (hl : b.length ≤ 9) (hk : 50 < k) : boundary_Grade k b m = some (gradeN b m : Int) := by
  apply Ok.eq
  unfold boundary_Grade
  refine ok_sum (Q := fun (_ : Unit) => gradeN b m = b.length) (R := fun (r : Int) => r = gradeN b m) (ok_range b (fun s => s) (fun pre _ => ∀ x ∈ pre, m < x) (by omega) rfl (by simp) (show b.length < k by omega) ?_ ?_) (fun _ h => ?_) fun r h => ?_
  · intro again s pre e post hl hi hlt hw hinv hag
    simp only [boundary_Grade_b1]
    rw [dec_lt hlt, cond_true, gidx_mid hl hi, hw]
    refine ok_bif (fun hc => ?_) fun hc => ?_
    · have hc' := of_decide_eq_true hc
      refine Ok.ret ?_
      rw [hl, gradeN_pre hinv]
      simp only [gradeN, if_pos hc']
      exact hi
    · have hc' := of_decide_eq_false hc
      refine hag _ rfl fun x hx => ?_
      simp only [List.mem_append, List.mem_singleton] at hx
      rcases hx with hx | rfl
      · exact hinv x hx
      · omega
  · intro again s hi hinv
    simp only [boundary_Grade_b1]
    rw [dec_nlt (by omega), cond_false]
    refine Ok.ret ?_
    have := gradeN_pre hinv []
    simpa [gradeN] using this
  · exact Ok.ret (by rw [h])
  · exact Ok.ret h
theorem gradeN_iff {b : List Int} (hb : b.Pairwise (fun x y => y ≤ x)) {m : Int} {i : Nat} (h : i < b.length) : b[i] ≤ m ↔ gradeN b m ≤ i := by
  induction b generalizing i with
  | nil => simp at h
  | cons x b ih =>
    obtain ⟨h1, h2⟩ := List.pairwise_cons.1 hb
    simp only [gradeN]
    cases i with
    | zero => simp only [List.getElem_cons_zero]; split <;> omega
    | succ i =>
      simp only [List.getElem_cons_succ]
      have h' : i < b.length := by simpa using h
      have := ih h2 h'
      have h3 := h1 b[i] (List.getElem_mem h')
      split <;> omega
theorem gradeN_mono (b : List Int) {m n : Int} (h : m ≤ n) : gradeN b n ≤ gradeN b m := by
  induction b with
  | nil => simp [gradeN]
  | cons x b ih => simp only [gradeN]; split <;> split <;> omega

/-! ### the tally -/
theorem sum_set {l : List Int} {i : Nat} (h : i < l.length) (v : Int) : (l.set i v).sum = l.sum - l[i] + v := by
  induction l generalizing i with
  | nil => simp at h
  | cons x l ih =>
    cases i with
    | zero => simp only [List.set_cons_zero, List.sum_cons, List.getElem_cons_zero]; omega
    | succ i =>
      have h' : i < l.length := by simpa using h
      simp only [List.set_cons_succ, List.sum_cons, List.getElem_cons_succ, ih h']; omega
/-- How many candidates of the scores below n have the grade g. -/
def cnt (d b : List Int) (g : Nat) : Nat → Int
  | 0 => 0
  | n + 1 => cnt d b g n + if gradeN b n = g then d.getD n 0 else 0
theorem cnt_bound {d b : List Int} (h : ∀ x ∈ d, 0 ≤ x ∧ x ≤ 1000) (g n : Nat) : 0 ≤ cnt d b g n ∧ cnt d b g n ≤ 1000 * n := by
  induction n with
  | zero => simp [cnt]
  | succ n ih =>
    have : 0 ≤ d.getD n 0 ∧ d.getD n 0 ≤ 1000 := by
      by_cases hn : n < d.length
      · have := h d[n] (List.getElem_mem hn)
        simpa [List.getD, hn] using this
      · simp [List.getD, hn]
    simp only [cnt]
    split <;> omega
theorem cnt_mono {d b : List Int} (h : ∀ x ∈ d, 0 ≤ x ∧ x ≤ 1000) (g : Nat) {n m : Nat} (hm : n ≤ m) : cnt d b g n ≤ cnt d b g m := by
  induction m with
  | zero => simp [show n = 0 by omega]
  | succ m ih =>
    by_cases hn : n = m + 1
    · subst hn; exact Int.le_refl _
    · have := ih (by omega)
      have : 0 ≤ d.getD m 0 := by
        by_cases hn : m < d.length
        · have := h d[m] (List.getElem_mem hn)
          simpa [List.getD, hn] using this.1
        · simp [List.getD, hn]
      simp only [cnt]
      split <;> omega
theorem list_ext {l m : List Int} (h : l.length = m.length) (h2 : ∀ (i : Nat) (x y : Int), l[i]? = some x → m[i]? = some y → x = y) : l = m := by
  apply List.ext_getElem h
  intro i h3 h4
  exact h2 i _ _ (List.getElem?_eq_getElem h3) (List.getElem?_eq_getElem h4)
def tally (d b : List Int) : List Int := (List.range (b.length + 1)).map fun g => cnt d b g d.length
theorem Tally_ok {k : Nat} {d b : List Int} (hd : Few d) (hb : Order (d.length - 1) b) (hk : 50 < k) : Ok (boundary_Tally k d b) (fun r => r = (tally d b, 0) ∧ r.1.sum = d.sum) := by
  unfold boundary_Tally
  have h1 := hd.1
  have h2 := hd.2.1
  have hbl := hb.2.1
  rw [Valid_ok hd hk, w64 (x := (d.length : Int) - 1) (by omega) (by omega), Check_ok hb (by omega) (by omega) hk, w64 (x := (b.length : Int) + 1) (by omega) (by omega)]
  simp only [Option.bind_some, Bool.not_true, cond_false, bne_self_eq_false]
  refine ok_make (by omega) (by omega) (ok_let ?_)
  rw [show (((b.length : Int) + 1).toNat) = b.length + 1 by omega]
  refine Ok.bind (Q := fun r => r = tally d b ∧ r.sum = d.sum) (ok_loop (fun s => -1 ≤ s.1 ∧ s.1 < d.length ∧ s.2.length = b.length + 1 ∧ s.2.sum = d.sum - (d.take (s.1 + 1).toNat).sum ∧ ∀ (g : Nat) (v : Int), s.2[g]? = some v → v = cnt d b g d.length - cnt d b g (s.1 + 1).toNat) (fun s => (s.1 + 1).toNat) ⟨by dsimp only; omega, by dsimp only; omega, by simp, ?_, fun g v hv => ?_⟩ (by dsimp only; omega) ?_) fun r hr => Ok.ret ⟨by rw [hr.1], hr.2⟩
  · dsimp only
    rw [take_all (by omega)]
    simp
  · dsimp only at hv ⊢
    rw [show ((d.length : Int) - 1 + 1).toNat = d.length by omega]
    have := (List.mem_replicate.1 (List.mem_of_getElem? hv)).2
    omega
  · intro again s hs hag
    obtain ⟨i, xs⟩ := s
    obtain ⟨g1, g2, g3, g4, g5⟩ := hs
    simp only at g1 g2 g3 g4 g5
    simp only [boundary_Tally_b1, uc_mk]
    refine ok_bif (fun hc => ?_) fun hc => ?_
    · have hc' := of_decide_eq_true hc
      have hin : i.toNat < d.length := by omega
      refine ok_idx hc' g2 fun _ => ?_
      rw [Grade_ok (by omega) hk, Option.bind_some]
      have hgl := gradeN_le b i
      refine ok_idx (by omega) (by omega) fun hgi => ok_let ?_
      simp only [Int.toNat_natCast] at hgi ⊢
      have hv := g5 (gradeN b i) _ (List.getElem?_eq_getElem hgi)
      have e1 : (i + 1).toNat = i.toNat + 1 := by omega
      have hb1 := cnt_bound (b := b) hd.2.2 (gradeN b i) d.length
      have hb2 := cnt_bound (b := b) hd.2.2 (gradeN b i) (i + 1).toNat
      have hb3 := cnt_mono (b := b) hd.2.2 (gradeN b i) (n := (i + 1).toNat) (m := d.length) (by omega)
      have he := hd.2.2 d[i.toNat] (List.getElem_mem hin)
      rw [w64 (x := i - 1) (by omega) (by omega), w64 (x := xs[gradeN b i] + d[i.toNat]) (by omega) (by omega)]
      have ei : ((i.toNat : Nat) : Int) = i := by omega
      refine hag _ ⟨by dsimp only; omega, by dsimp only; omega, by simpa using g3, ?_, fun g v hv' => ?_⟩ (by dsimp only; omega)
      · dsimp only
        rw [sum_set hgi, g4, e1, take_succ_sum hin, show (i - 1 + 1).toNat = i.toNat by omega]
        omega
      · dsimp only at hv' ⊢
        rw [show (i - 1 + 1).toNat = i.toNat by omega]
        by_cases hg : gradeN b i = g
        · subst hg
          rw [List.getElem?_set_self hgi] at hv'
          cases hv'
          rw [hv, e1]
          simp only [cnt, ei, if_true, getD_of hin]
          omega
        · rw [List.getElem?_set_ne hg] at hv'
          have := g5 g v hv'
          rw [e1] at this
          simp only [cnt, ei, if_neg hg] at this
          omega
    · have hc' := of_decide_eq_false hc
      have ei : i = -1 := by omega
      subst ei
      refine Ok.ret ⟨list_ext (by simp [g3, tally]) fun j x y hx hy => ?_, ?_⟩
      · have := g5 j x hx
        simp only [tally, List.getElem?_map, Option.map_eq_some_iff, List.getElem?_range] at hy
        obtain ⟨a, ha, hy⟩ := hy
        have : a = j := by
          have := List.getElem?_eq_some_iff.1 ha
          obtain ⟨h, e⟩ := this
          simp at e
          omega
        subst this
        simp [cnt] at this
        omega
      · simpa using g4
end Go.VM
