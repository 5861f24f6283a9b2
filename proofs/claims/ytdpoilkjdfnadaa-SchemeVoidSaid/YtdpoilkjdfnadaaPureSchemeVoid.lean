/- The pure statement of SchemeVoid: whatever the numbers, the printed function answers true. -/
import Derived.Test.YtdpoilkjdfnadaaSPTotal
namespace Go.VM
set_option linter.unusedVariables false
set_option linter.unusedSimpArgs false
theorem pure_SchemeVoid (t : List Int) (ht : ∀ x ∈ t, fitsI .i64 x) (hl : t.length * 8 ≤ 140737488351232) (part : Int) (hpart : fitsI .i64 part) : ∃ k, law23_SchemeVoid k t part = some true := by
  refine ⟨1000, Ok.eq ?_⟩
  unfold law23_SchemeVoid
  refine Ok.bind (New_ok t) fun x hx => ?_
  refine TPaper_then hx (by omega) (by omega) fun p j hp hj => ?_
  rw [make_Tape_Scheme_2_eq]
  refine TScheme_then hx hj (by omega) hp fun ks ws j hs hj => ?_
  refine TMarks_then hx hj (by omega) hp fun ms j hm hj => ?_
  have hp1 := hp.1
  have hp2 := hp.2.1
  rw [Cut_eq part (by omega) (by omega), Option.bind_some]
  have hc0 : 0 ≤ part % p.length := Int.emod_nonneg _ (by omega)
  have hc1 : part % p.length < p.length := Int.emod_lt_of_pos _ (by omega)
  generalize part % (p.length : Int) = c at hc0 hc1
  have hwl := hs.len
  refine ok_idx hc0 (by omega) fun hi => ok_let ?_
  have hi' : c.toNat < p.length := by omega
  have hs0 := hs.set c.toNat (v := 0) (.inl rfl)
  have hs1 := hs0.set c.toNat (v := 2) (.inr (.inr rfl))
  have hml := hm.1
  rw [withdraw_ok hp hs0 hc0 hc1 (.inr (.inr rfl)) (by omega)]
  simp only [Option.bind_some, uc_mk]
  rw [total_ok hp hs0 hm (by omega), total_ok hp hs1 hm (by omega), max_ok hp hs0 (by omega), max_ok hp hs1 (by omega)]
  simp only [Option.bind_some, uc_mk, blet_mk, beq_self_eq_true, Bool.and_true, cond_true]
  -- what differs
  have hd := sumN_one (f := adds p (ws.set c.toNat 0) ms) (g := adds p ((ws.set c.toNat 0).set c.toNat 2) ms) (n := p.length) hi' fun i _ hne => by
    unfold adds
    rw [getD_set_other (ws := ws.set c.toNat 0) hne]
  have hmx := sumN_one (f := addsMax p (ws.set c.toNat 0)) (g := addsMax p ((ws.set c.toNat 0).set c.toNat 2)) (n := p.length) hi' fun i _ hne => by
    unfold addsMax
    rw [getD_set_other (ws := ws.set c.toNat 0) hne]
  have e0 : (ws.set c.toNat 0).getD c.toNat 0 = 0 := getD_set_self (by omega)
  have e1 : ((ws.set c.toNat 0).set c.toNat 2).getD c.toNat 0 = 2 := getD_set_self (by simp; omega)
  have h1 : adds p ((ws.set c.toNat 0).set c.toNat 2) ms c.toNat = 0 := by
    unfold adds; rw [e1]; rfl
  have h2 : adds p (ws.set c.toNat 0) ms c.toNat = max ms[c.toNat] 0 := by
    unfold adds; rw [e0, getD_lt (by omega)]; rfl
  have h3 : addsMax p ((ws.set c.toNat 0).set c.toNat 2) c.toNat = 0 := by
    unfold addsMax; rw [e1]; rfl
  have h4 : addsMax p (ws.set c.toNat 0) c.toNat = p[c.toNat].Max := by
    unfold addsMax; rw [e0, getD_lt hi']; rfl
  rw [h1, h2] at hd
  rw [h3, h4] at hmx
  have b3 := hp.2.2 p[c.toNat] (List.getElem_mem hi')
  unfold FineP at b3
  have b4 := hm.get hi' (by omega)
  unfold FineMark at b4
  rw [gidx_some hc0 (show c.toNat < ms.length by omega), gidx_some hc0 hi', gmax_def, Int.max_comm, w64 (by omega) (by omega), w64 (by omega) (by omega), hd, hmx]
  simp only [Int.sub_zero, beq_self_eq_true, Option.bind_some, cond_true, awake_ok]
  exact Ok.ret rfl
end Go.VM
