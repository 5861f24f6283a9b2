/- The pure statement of DistributionOrder: whatever the numbers, the printed function answers true. -/
import Derived.Test.YtmnpognjbfjhbaaDPDistC
namespace Go.VM
set_option linter.unusedVariables false
set_option linter.unusedSimpArgs false
theorem sane32_ok : law32_sane 1000000 = some true := by decide +kernel
theorem sum_set {l : List Int} {i : Nat} (h : i < l.length) (v : Int) : (l.set i v).sum = l.sum - l[i] + v := by
  induction l generalizing i with
  | nil => simp at h
  | cons x l ih =>
    cases i with
    | zero => simp only [List.set_cons_zero, List.sum_cons, List.getElem_cons_zero]; omega
    | succ i =>
      have h' : i < l.length := by simpa using h
      simp only [List.set_cons_succ, List.sum_cons, List.getElem_cons_succ, ih h']; omega
theorem pts_set {l : List Int} {i : Nat} (h : i < l.length) (j : Int) : pts (l.set i (l[i] + 1)) j = pts l j + (j + i) := by
  induction l generalizing i j with
  | nil => simp at h
  | cons x l ih =>
    cases i with
    | zero => simp only [List.set_cons_zero, pts, List.getElem_cons_zero, Int.mul_add]; simp; omega
    | succ i =>
      have h' : i < l.length := by simpa using h
      simp only [List.set_cons_succ, pts, List.getElem_cons_succ, ih h' (j + 1)]
      omega
theorem pts_zeros (n : Nat) (j : Int) : pts (List.replicate n 0) j = 0 := by
  induction n generalizing j with
  | zero => rfl
  | succ n ih => simp [List.replicate_succ, pts, ih]
def counts (xs : List Int) : List Int := (List.range 40).map fun (v : Nat) => (xs.count (v : Int) : Int)
theorem Make_ok {k : Nat} {xs : List Int} (h : ∀ x ∈ xs, 0 ≤ x ∧ x ≤ 39) (hl : xs.length ≤ 60) (hk : 100 < k) : Ok (distribution_Make k xs 39) (fun r => r = (counts xs, 0) ∧ Few r.1 ∧ r.1.sum = xs.length ∧ pts r.1 0 = xs.sum) := by
  unfold distribution_Make
  have hcont : slices_ContainsFunc_int_2 k xs 39 = some false := by
    apply Ok.eq
    unfold slices_ContainsFunc_int_2 slices_IndexFunc_int_2
    refine Ok.bind (Q := fun r => r = -1) (ok_sum (Q := fun (_ : Unit) => True) (R := fun (_ : Int) => False) (ok_range xs (fun s => s) (fun _ _ => True) (by omega) rfl trivial (by omega) ?_ ?_) (fun _ _ => Ok.ret rfl) fun _ h => h.elim) fun r hr => Ok.ret (by subst hr; rfl)
    · intro again s pre e post hl' hi hlt hw _ hag
      simp only [slices_IndexFunc_int_2_b1, distribution_Make_1]
      rw [dec_lt hlt, cond_true, gidx_mid hl' hi, hw]
      have he := h e (by rw [hl']; simp)
      simp only [blet_mk, Option.bind_some]
      rw [dec_nlt (by omega), show decide (e > 39) = false from decide_eq_false (by omega)]
      simp only [Bool.or_false, cond_false]
      exact hag _ rfl trivial
    · intro again s hi _
      simp only [slices_IndexFunc_int_2_b1]
      rw [dec_nlt (by omega), cond_false]
      exact Ok.ret trivial
  rw [hcont]
  rw [show (decide ((39 : Int) < 0) || decide ((39 : Int) > 200)) = false from rfl]
  simp only [blet_mk, cond_false, Option.bind_some]
  rw [show decide ((xs.length : Int) > 1048576) = false from decide_eq_false (by omega), cond_false]
  rw [show IntKind.wrap .i64 (39 + 1) = 40 from rfl]
  refine ok_make (by omega) (by decide) ?_
  rw [show Int.toNat 40 = 40 from rfl]
  refine Ok.bind (Q := fun r => r = counts xs ∧ Few r ∧ r.sum = xs.length ∧ pts r 0 = xs.sum) (ok_range xs (fun s => s.1) (fun pre s => s.2.length = 40 ∧ (∀ (v : Nat) (c : Int), s.2[v]? = some c → c = (pre.count (v : Int) : Int)) ∧ s.2.sum = pre.length ∧ pts s.2 0 = pre.sum) (by omega) rfl ⟨by simp, fun v c hv => ?_, by simp, pts_zeros _ _⟩ (by omega) ?_ ?_) fun r hr => Ok.ret ⟨by rw [hr.1], hr.2⟩
  · have := (List.mem_replicate.1 (List.mem_of_getElem? hv)).2
    simp [this]
  · intro again s pre e post hl' hi hlt hw hinv hag
    obtain ⟨i, ys⟩ := s
    obtain ⟨g1, g2, g3, g4⟩ := hinv
    simp only at hi hlt hw g1 g2 g3 g4
    simp only [distribution_Make_b1, uc_mk]
    rw [dec_lt hlt, cond_true, gidx_mid hl' hi, hw]
    have he := h e (by rw [hl']; simp)
    refine ok_idx he.1 (by omega) fun hei => ok_let ?_
    have hv := g2 e.toNat _ (List.getElem?_eq_getElem hei)
    have hpl : pre.length ≤ 60 := by rw [hl'] at hl; simp at hl; omega
    have hcl := List.count_le_length (l := pre) (a := ((e.toNat : Nat) : Int))
    rw [w64 (x := ys[e.toNat] + 1) (by omega) (by omega)]
    have ee : ((e.toNat : Nat) : Int) = e := by omega
    refine hag _ rfl ⟨by simpa using g1, fun v c hc => ?_, ?_, ?_⟩
    · dsimp only at hc
      rw [List.count_append, List.count_singleton]
      by_cases hve : e.toNat = v
      · subst hve
        rw [List.getElem?_set_self hei] at hc
        cases hc
        rw [hv, ee]
        simp
      · rw [List.getElem?_set_ne hve] at hc
        rw [g2 v c hc]
        have : (e == (v : Int)) = false := by rw [beq_int]; exact decide_eq_false (by omega)
        simp [this]
    · dsimp only
      rw [sum_set hei, g3]
      simp
      omega
    · dsimp only
      rw [pts_set hei, g4, List.sum_append]
      simp
      omega
  · intro again s hi hinv
    obtain ⟨i, ys⟩ := s
    obtain ⟨g1, g2, g3, g4⟩ := hinv
    simp only at hi g1 g2 g3 g4
    simp only [distribution_Make_b1, uc_mk]
    rw [dec_nlt (by omega), cond_false]
    refine Ok.ret ⟨List.ext_getElem (by simp [g1, counts]) fun v h1 h2 => ?_, ⟨by omega, by omega, fun x hx => ?_⟩, g3, g4⟩
    · rw [g2 v _ (List.getElem?_eq_getElem h1)]
      simp [counts]
    · obtain ⟨v, hv⟩ := List.getElem?_of_mem hx
      have := List.count_le_length (l := xs) (a := (v : Int))
      rw [g2 v x hv]
      omega
theorem Same_ok {k : Nat} {a : List Int} (h : a.length < k) (hl : a.length ≤ 1000000) : ref32_Same k a a = some true := by
  apply Ok.eq
  unfold ref32_Same
  rw [bne_self_eq_false, cond_false]
  refine ok_sum (Q := fun (_ : Unit) => True) (R := fun (_ : Bool) => False) (ok_range a (fun s => s) (fun _ _ => True) (by omega) rfl trivial h ?_ ?_) (fun _ _ => Ok.ret rfl) fun _ h => h.elim
  · intro again s pre e post hl hi hlt hw _ hag
    simp only [ref32_Same_b1]
    rw [dec_lt hlt, cond_true, gidx_mid hl hi, gidx_mid hl hi, bne_self_eq_false, cond_false, hw]
    exact hag _ rfl trivial
  · intro again s hi _
    simp only [ref32_Same_b1]
    rw [dec_nlt (by omega), cond_false]
    exact Ok.ret trivial
theorem counts_reverse (xs : List Int) : counts xs.reverse = counts xs := by
  unfold counts
  simp [List.count_reverse]
def m40 (x : Int) : Int := x % 40
theorem m40_ok (x : Int) : 0 ≤ m40 x ∧ m40 x ≤ 39 := by unfold m40; omega
theorem pure_DistributionOrder (t : List Int) (ht : ∀ x ∈ t, fitsI .u8 x) (hl : t.length * 1 ≤ 140737488351232) : ∃ k, law32_DistributionOrder k t = some true := by
  refine ⟨1000000, Ok.eq ?_⟩
  unfold law32_DistributionOrder
  refine ok_bif (fun hc => by rw [sane32_ok]; exact Ok.ret rfl) fun hc => ?_
  have hx : t.length ≤ 60 := by have := of_decide_eq_false hc; omega
  have h8 : ∀ x ∈ t, 0 ≤ x ∧ x ≤ 255 := fun x hx => fits8.1 (ht x hx)
  refine Ok.bind (Q := fun r => r = ((t.map m40).sum, t.map m40, (t.map m40).reverse)) (ok_loop (fun s => 0 ≤ s.2.1 ∧ s.2.1 ≤ t.length ∧ s.1 = ((t.take s.2.1.toNat).map m40).sum ∧ s.2.2.1 = (t.take s.2.1.toNat).map m40 ∧ s.2.2.2 = (t.reverse.take s.2.1.toNat).map m40) (fun s => t.length - s.2.1.toNat) ⟨by simp, by simp, by simp, by simp, by simp⟩ (by dsimp only; omega) ?_) fun r hr => ?_
  · intro again s hs hag
    obtain ⟨n, i, xs, ys⟩ := s
    obtain ⟨g1, g2, g3, g4, g5⟩ := hs
    simp only at g1 g2 g3 g4 g5
    simp only [law32_DistributionOrder_b1, uc_mk]
    refine ok_bif (fun hc => ?_) fun hc => ?_
    · have hc' := of_decide_eq_true hc
      have hi : i.toNat < t.length := by omega
      rw [w64 (x := (t.length : Int) - 1) (by omega) (by omega), w64 (x := (t.length : Int) - 1 - i) (by omega) (by omega)]
      have hxl : xs.length ≤ 60 := by rw [g4]; simp; omega
      have hyl : ys.length ≤ 60 := by rw [g5]; simp; omega
      have e1 := h8 t[i.toNat] (List.getElem_mem hi)
      have hsum : ∀ (l : List Int), 0 ≤ (l.map m40).sum ∧ (l.map m40).sum ≤ 39 * l.length := fun l => by
        have a1 := sum_nn (d := l.map m40) fun x hx => by simp only [List.mem_map] at hx; obtain ⟨a, _, rfl⟩ := hx; exact (m40_ok a).1
        have a2 := sum_hi (d := l.map m40) (c := 39) fun x hx => by simp only [List.mem_map] at hx; obtain ⟨a, _, rfl⟩ := hx; exact (m40_ok a).2
        rw [List.length_map] at a2
        exact ⟨a1, a2⟩
      have hn := hsum (t.take i.toNat)
      rw [← g3] at hn
      have htl : (t.take i.toNat).length ≤ 60 := by simp; omega
      refine Ok.bind (Q := fun r => r = (xs ++ [m40 t[i.toNat]], ys ++ [m40 (t[((t.length : Int) - 1 - i).toNat]'(by omega))])) (ok_idx g1 hc' fun _ => ok_idx (by omega) (by omega) fun hj => ok_cap (by simp; omega) (ok_cap (by simp; omega) (Ok.ret ?_))) fun r hr => ?_
      · rw [Int.tmod_eq_emod_of_nonneg e1.1, Int.tmod_eq_emod_of_nonneg (h8 _ (List.getElem_mem hj)).1, w64 (by omega) (by omega), w64 (by omega) (by omega)]
        rfl
      · rw [hr]
        simp only [uc_mk]
        refine ok_idx g1 hc' fun _ => ?_
        rw [Int.tmod_eq_emod_of_nonneg e1.1, w64 (x := t[i.toNat] % 40) (by omega) (by omega), show t[i.toNat] % 40 = m40 t[i.toNat] from rfl]
        have hm4 := m40_ok t[i.toNat]
        rw [w64 (x := n + m40 t[i.toNat]) (by omega) (by omega), w64 (x := i + 1) (by omega) (by omega)]
        have ht1 : t.take (i.toNat + 1) = t.take i.toNat ++ [t[i.toNat]] := by rw [List.take_add_one, List.getElem?_eq_getElem hi, Option.toList_some]
        have hri : i.toNat < t.reverse.length := by simpa using hi
        have ht2 : t.reverse.take (i.toNat + 1) = t.reverse.take i.toNat ++ [t.reverse[i.toNat]] := by rw [List.take_add_one, List.getElem?_eq_getElem hri, Option.toList_some]
        have hrev : t.reverse[i.toNat] = t[((t.length : Int) - 1 - i).toNat]'(by omega) := by
          rw [List.getElem_reverse]
          congr 1
          omega
        refine hag _ ⟨by dsimp only; omega, by dsimp only; omega, ?_, ?_, ?_⟩ (by dsimp only; omega)
        · dsimp only
          rw [show (i + 1).toNat = i.toNat + 1 by omega, ht1, List.map_append, List.sum_append, ← g3]
          simp
        · dsimp only
          rw [show (i + 1).toNat = i.toNat + 1 by omega, ht1, List.map_append, ← g4]
          rfl
        · dsimp only
          rw [show (i + 1).toNat = i.toNat + 1 by omega, ht2, List.map_append, ← g5, hrev]
          rfl
    · have hc' := of_decide_eq_false hc
      refine Ok.ret ?_
      rw [g3, g4, g5, List.take_of_length_le (by omega), List.take_of_length_le (by simp; omega), List.map_reverse]
  · subst hr
    simp only [uc_mk]
    have hm : ∀ x ∈ t.map m40, 0 ≤ x ∧ x ≤ 39 := fun x hx => by
      simp only [List.mem_map] at hx
      obtain ⟨a, ha, rfl⟩ := hx
      exact m40_ok a
    have hml : (t.map m40).length = t.length := by simp
    generalize t.map m40 = xs at *
    obtain ⟨r1, e1, q1, f1, s1, p1⟩ := Make_ok (k := 1000000) hm (by omega) (by omega)
    obtain ⟨r2, e2, q2, f2, s2, p2⟩ := Make_ok (k := 1000000) (xs := xs.reverse) (fun x hx => hm x (by simpa using hx)) (by simp; omega) (by omega)
    rw [e1, e2]
    subst q1 q2
    simp only at f1 s1 p1
    rw [counts_reverse]
    have hcl : (counts xs).length = 40 := by simp [counts]
    simp only [Option.bind_some, uc_mk, bne_self_eq_false, Bool.or_false, blet_mk, cond_false]
    rw [Same_ok (by omega) (by omega), Count_ok f1 (by omega), s1, hml]
    simp only [Option.bind_some, Bool.not_true, cond_false, bne_self_eq_false]
    by_cases h0 : t.length = 0
    · rw [Mean_no f1 (by omega) (by omega)]
      simp only [Option.bind_some, uc_mk, h0]
      rw [sane32_ok]
      exact Ok.ret rfl
    · have hs := f1.pts
      rw [p1] at hs
      rw [Mean_ok f1 (by omega) (by omega), p1, s1, hml, rNew_ok (by omega) (by omega) (by omega) (by omega) (by omega)]
      simp only [Option.bind_some, uc_mk]
      rw [show ((t.length : Int) == 0) = false by rw [beq_int]; exact decide_eq_false (by omega)]
      simp only [cond_false, blet_mk, beq_self_eq_true, Bool.true_and, Bool.and_true, cond_true, sane32_ok, Option.bind_some]
      exact Ok.ret rfl
end Go.VM
