/- Equality of curves. -/
import Derived.Test.YtoffminccignfaaCPCurveC
namespace Go.VM
set_option linter.unusedVariables false
set_option linter.unusedSimpArgs false

theorem Equal_ok {k : Nat} {a : List SPoint} (h : a.length < k) (hl : a.length ≤ 1000000) : slices_Equal_api_Point_api_Point k a a = some true := by
  apply Ok.eq
  unfold slices_Equal_api_Point_api_Point
  rw [bne_self_eq_false, cond_false]
  refine ok_sum (Q := fun (_ : Unit) => True) (R := fun (_ : Bool) => False) (ok_range a (fun s => s) (fun _ _ => True) (by omega) rfl trivial h ?_ ?_) (fun _ _ => Ok.ret rfl) fun _ h => h.elim
  · intro again s pre e post hl hi hlt hw _ hag
    simp only [slices_Equal_api_Point_api_Point_b1]
    rw [dec_lt hlt, cond_true, gidx_mid hl hi, gidx_mid hl hi, hw]
    simp only [beq_self_eq_true, Bool.and_true, Bool.not_true, cond_false]
    exact hag _ rfl trivial
  · intro again s hi _
    simp only [slices_Equal_api_Point_api_Point_b1]
    rw [dec_nlt (by omega), cond_false]
    exact Ok.ret trivial
/-- Two curves with the same normal form. -/
theorem Same_ok {a b : List SPoint} {N : List Pt} (ha : conversion_Normal fuel a = some (N.map enc, 0)) (hb : conversion_Normal fuel b = some (N.map enc, 0)) (hl : N.length ≤ 1000) : conversion_Same fuel a b = some true := by
  unfold conversion_Same
  rw [ha, hb]
  simp only [Option.bind_some, uc_mk, beq_self_eq_true, Bool.and_true, blet_mk, cond_true]
  rw [Equal_ok (by simp; unfold fuel; omega) (by simp; omega)]
  rfl
end Go.VM
