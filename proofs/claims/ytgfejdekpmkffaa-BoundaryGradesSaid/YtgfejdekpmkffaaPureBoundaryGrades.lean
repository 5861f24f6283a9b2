/- The pure statement of BoundaryGrades: whatever the numbers, the printed function answers true. -/
import Derived.Test.YtgfejdekpmkffaaBPBoundA
namespace Go.VM
set_option linter.unusedVariables false
set_option linter.unusedSimpArgs false
theorem sane35_ok : law35_sane 1000 = some true := by decide +kernel
theorem same_ok {k : Nat} {a : List Int} (h : a.length < k) (hl : a.length ≤ 1000000) : law35_same k a a = some true := by
  apply Ok.eq
  unfold law35_same
  rw [bne_self_eq_false, cond_false]
  refine ok_sum (Q := fun (_ : Unit) => True) (R := fun (_ : Bool) => False) (ok_range a (fun s => s) (fun _ _ => True) (by omega) rfl trivial h ?_ ?_) (fun _ _ => Ok.ret rfl) fun _ h => h.elim
  · intro again s pre e post hl hi hlt hw _ hag
    simp only [law35_same_b1]
    rw [dec_lt hlt, cond_true, gidx_mid hl hi, gidx_mid hl hi, bne_self_eq_false, cond_false, hw]
    exact hag _ rfl trivial
  · intro again s hi _
    simp only [law35_same_b1]
    rw [dec_nlt (by omega), cond_false]
    exact Ok.ret trivial
theorem pure_BoundaryGrades (t : List Int) (ht : ∀ x ∈ t, fitsI .i64 x) (hl : t.length * 8 ≤ 140737488351232) : ∃ k, law35_BoundaryGrades k t = some true := by
  refine ⟨1000, Ok.eq ?_⟩
  unfold law35_BoundaryGrades mark_Light mark_Roll
  simp only [Option.bind_some, u0_mk]
  refine ok_bif (fun hc => by rw [sane35_ok]; exact Ok.ret rfl) fun hc => ?_
  have hx : t.length ≤ 600 := by simp only [Bool.not_eq_false', decide_eq_true_iff] at hc; omega
  refine Dist_then hx (Int.le_refl _) (by omega) (by omega) (by omega) fun d j hM hj => ?_
  have hd := hM.few (by omega)
  have hd1 := hd.1
  have hd2 := hd.2.1
  have hds := hd.sum
  rw [w64 (x := (d.length : Int) - 1) (by omega) (by omega)]
  refine Bounds_then hx hj (by omega) (by omega) (by omega) fun b j hb hj => ?_
  have ho := hb.order
  have hbl := hb.2.1
  obtain ⟨r, hr, hr1, hr2⟩ := Tally_ok (k := 1000) hd ho (by omega)
  rw [hr]
  subst hr1
  simp only at hr2
  have htl : (tally d b).length = b.length + 1 := by simp [tally]
  simp only [Option.bind_some, uc_mk, bne_self_eq_false, cond_false, htl]
  rw [w64 (x := (b.length : Int) + 1) (by omega) (by omega)]
  rw [show (((b.length + 1 : Nat) : Int) != (b.length : Int) + 1) = false by rw [bne_int]; simp]
  simp only [cond_false]
  refine ok_make (by omega) (by omega) (ok_let ?_)
  refine ok_sum (Q := fun (r : List Int) => r = tally d b) (R := fun (_ : Bool) => False) (ok_loop (fun s => 0 ≤ s.2.1 ∧ s.2.1 ≤ d.length ∧ (gradeN b s.2.1 : Int) ≤ s.1 ∧ s.2.2.length = b.length + 1 ∧ ∀ (g : Nat) (v : Int), s.2.2[g]? = some v → v = cnt d b g s.2.1.toNat) (fun s => d.length - s.2.1.toNat) ⟨by simp, by simp, ?_, by simp, fun g v hv => ?_⟩ (by dsimp only; omega) ?_) (fun r hr => ?_) fun _ h => h.elim
  · have := gradeN_le b 0
    dsimp only; omega
  · exact (List.mem_replicate.1 (List.mem_of_getElem? hv)).2
  · intro again s hs hag
    obtain ⟨last, m, xs⟩ := s
    obtain ⟨g1, g2, g3, g4, g5⟩ := hs
    simp only at g1 g2 g3 g4 g5
    simp only [law35_BoundaryGrades_b2, uc_mk]
    refine ok_bif (fun hc => ?_) fun hc => ?_
    · have hc' := of_decide_eq_true hc
      rw [Grade_ok (by omega) (by omega), Option.bind_some, blet_mk]
      rw [show decide (((gradeN b m : Nat) : Int) > last) = false from decide_eq_false (by omega), show decide (((gradeN b m : Nat) : Int) < 0) = false from decide_eq_false (by omega)]
      simp only [Bool.or_false, cond_false]
      refine ok_sum (Q := fun (_ : Unit) => True) (R := fun (_ : Bool) => False) (ok_range b (fun s => s) (fun _ _ => True) (by omega) rfl trivial (by omega) ?_ ?_) (fun _ _ => ?_) fun _ h => h.elim
      · intro again s pre e post hl hi hlt hw _ hag
        simp only [law35_BoundaryGrades_b3]
        rw [dec_lt hlt, cond_true, gidx_mid hl hi, hw]
        have hpl : pre.length < b.length := by rw [hl]; simp
        have hiff := gradeN_iff hb.2.2.2 (m := m) hpl
        have hbe : b[pre.length] = e := by simp [hl]
        rw [hbe] at hiff
        have hdd : decide (m ≥ e) = decide (((gradeN b m : Nat) : Int) ≤ s) := by
          rw [decide_eq_decide]
          have : s = pre.length := hi
          omega
        rw [hdd, beq_self_eq_true, Bool.not_true, cond_false]
        exact hag _ rfl trivial
      · intro again s hi _
        simp only [law35_BoundaryGrades_b3]
        rw [dec_nlt (by omega), cond_false]
        exact Ok.ret trivial
      · simp only [u0_mk]
        have hgl := gradeN_le b m
        refine ok_idx (by omega) (by omega) fun hgi => ok_idx g1 (by omega) fun hmi => ok_let ?_
        simp only [Int.toNat_natCast] at hgi ⊢
        have hv := g5 (gradeN b m) _ (List.getElem?_eq_getElem hgi)
        have hb1 := cnt_bound (b := b) hd.2.2 (gradeN b m) m.toNat
        have he := hd.2.2 d[m.toNat] (List.getElem_mem hmi)
        have em : ((m.toNat : Nat) : Int) = m := by omega
        rw [w64 (x := m + 1) (by omega) (by omega), w64 (x := xs[gradeN b m] + d[m.toNat]) (by omega) (by omega)]
        refine hag _ ⟨by dsimp only; omega, by dsimp only; omega, ?_, by simpa using g4, fun g v hv' => ?_⟩ (by dsimp only; omega)
        · have := gradeN_mono b (m := m) (n := m + 1) (by omega)
          dsimp only; omega
        · dsimp only at hv' ⊢
          rw [show (m + 1).toNat = m.toNat + 1 by omega]
          simp only [cnt, em]
          by_cases hg : gradeN b m = g
          · subst hg
            rw [List.getElem?_set_self hgi] at hv'
            cases hv'
            rw [hv, if_pos rfl, getD_of hmi]
          · rw [List.getElem?_set_ne hg] at hv'
            rw [if_neg hg, g5 g v hv']
            omega
    · have hc' := of_decide_eq_false hc
      refine Ok.ret (list_ext (by rw [g4, htl]) fun i x y hx hy => ?_)
      rw [g5 i x hx, show m.toNat = d.length by omega]
      simp only [tally, List.getElem?_map, Option.map_eq_some_iff] at hy
      obtain ⟨a, ha, hy⟩ := hy
      obtain ⟨h, e⟩ := List.getElem?_eq_some_iff.1 ha
      simp at e
      rw [← hy, ← e]
  · subst hr
    have htn : ∀ x ∈ tally d b, 0 ≤ x ∧ x ≤ 40000 := fun x hx => by
      simp only [tally, List.mem_map] at hx
      obtain ⟨g, _, rfl⟩ := hx
      have := cnt_bound (b := b) hd.2.2 g d.length
      omega
    refine Ok.bind (Q := fun r => r = (tally d b).sum) (ok_range (tally d b) (fun s => s.2) (fun pre s => s.1 = pre.sum) (by omega) rfl rfl (by omega) ?_ ?_) fun r hr => ?_
    · intro again s pre e post hl hi hlt hw hinv hag
      obtain ⟨n, i⟩ := s
      simp only at hi hlt hw hinv
      simp only [law35_BoundaryGrades_b1, uc_mk]
      rw [dec_lt hlt, cond_true, gidx_mid hl hi, hw]
      have he := htn e (by rw [hl]; simp)
      have h1 : ∀ x ∈ pre, 0 ≤ x ∧ x ≤ 40000 := fun x hx => htn x (by rw [hl]; simp [hx])
      have h2 := sum_nn fun x hx => (h1 x hx).1
      have h3 := sum_hi (c := 40000) fun x hx => (h1 x hx).2
      have h4 : pre.length ≤ 5 := by have := congrArg List.length hl; rw [htl] at this; simp at this; omega
      rw [w64 (x := n + e) (by omega) (by omega)]
      exact hag _ rfl (by simp [hinv, List.sum_append])
    · intro again s hi hinv
      obtain ⟨n, i⟩ := s
      simp only at hi hinv
      simp only [law35_BoundaryGrades_b1, uc_mk]
      rw [dec_nlt (by omega), cond_false]
      exact Ok.ret hinv
    · rw [same_ok (by omega) (by omega), rCount_ok hd (by omega), hr, hr2]
      simp only [Option.bind_some, cond_true, beq_self_eq_true, sane35_ok]
      exact Ok.ret rfl
end Go.VM
