/- Plain reasoning about the printed functions: loops, wrapping, indexes. -/
import Derived.Test.YtdebnihlkdabpaaEngN
import Derived.IntWalk
namespace Go.VM
set_option linter.unusedVariables false
set_option linter.unusedSimpArgs false

/-- A loop that comes to an end. -/
theorem gloop_ends {S X : Type} {body : (S → Option X) → S → Option X} (μ : S → Nat) (Inv : S → Prop) (Q : S → X → Prop)
    (step : ∀ (again : S → Option X) (s : S), Inv s → (∀ s', Inv s' → μ s' < μ s → ∃ x, again s' = some x ∧ Q s' x) → ∃ x, body again s = some x ∧ Q s x) :
    ∀ (k : Nat) (s : S), Inv s → μ s < k → ∃ x, gloop body k s = some x ∧ Q s x := by
  intro k
  induction k with
  | zero => intro s _ h; omega
  | succ k ih => exact fun s hs hk => step (gloop body k) s hs fun s' hs' hlt => ih s' hs' (by omega)

theorem wrap64 {x : Int} (h1 : -9223372036854775808 ≤ x) (h2 : x < 9223372036854775808) : IntKind.wrap .i64 x = x := by rw [IntKind.wrap_i64]; omega
theorem gidx_some {α X : Type} {xs : List α} {i : Int} {B : α → Option X} (h0 : 0 ≤ i) (h : i.toNat < xs.length) : gidx xs i B = B xs[i.toNat] := by
  unfold gidx
  simp [h0, h]
theorem gcap_some {X : Type} {n b : Nat} {o : Option X} (h : n * b ≤ 140737488355328) : gcap n b o = o := by unfold gcap; simp [h]
theorem gnz_some {X : Type} {y : Int} {o : Option X} (h : y ≠ 0) : gnz y o = o := by
  unfold gnz
  have : (y == 0) = false := by simpa using h
  rw [this]; rfl
end Go.VM
