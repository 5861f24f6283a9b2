/- Plain reasoning about the printed functions: an answer that there is, and what is known of it. -/
import Derived.Test.YtdebnihlkdabpaaEngT
namespace Go.VM
set_option linter.unusedVariables false

/-- There is an answer, and Q holds of it. -/
def Ok {X : Type} (o : Option X) (Q : X → Prop) : Prop := ∃ r, o = some r ∧ Q r
theorem Ok.mono {X : Type} {o : Option X} {Q Q' : X → Prop} (h : Ok o Q) (hq : ∀ r, Q r → Q' r) : Ok o Q' := let ⟨r, e, h⟩ := h; ⟨r, e, hq r h⟩
theorem Ok.bind {X Y : Type} {o : Option X} {f : X → Option Y} {Q : X → Prop} {Q' : Y → Prop} (h : Ok o Q) (hf : ∀ r, Q r → Ok (f r) Q') : Ok (Option.bind o f) Q' := by
  obtain ⟨r, rfl, hr⟩ := h
  exact hf r hr
theorem Ok.mk {X : Type} {o : Option X} {r : X} {Q : X → Prop} (e : o = some r) (h : Q r) : Ok o Q := ⟨r, e, h⟩
theorem Ok.ret {X : Type} {r : X} {Q : X → Prop} (h : Q r) : Ok (some r) Q := ⟨r, rfl, h⟩
theorem Ok.some_iff {X : Type} {r : X} {Q : X → Prop} : Ok (some r) Q ↔ Q r := ⟨fun ⟨_, e, h⟩ => by cases e; exact h, fun h => ⟨r, rfl, h⟩⟩
theorem Ok.eq {X : Type} {o : Option X} {r : X} (h : Ok o (fun x => x = r)) : o = some r := by obtain ⟨_, e, rfl⟩ := h; exact e
theorem Ok.of_eq {X : Type} {o : Option X} {r : X} (h : o = some r) : Ok o (fun x => x = r) := ⟨r, h, rfl⟩
theorem Ok.iff_true {o : Option Bool} : Ok o (fun b => b = true) ↔ o = some true := ⟨Ok.eq, Ok.of_eq⟩

theorem uc_mk {α β γ : Type} (f : α → β → γ) (a : α) (b : β) : uc f (a, b) = f a b := rfl
theorem uc_eq {α β γ : Type} (f : α → β → γ) (p : α × β) : uc f p = f p.1 p.2 := rfl
theorem u0_mk {γ : Type} (c : γ) (u : Unit) : u0 c u = c := rfl
theorem blet_mk {α X : Type} (a : α) (B : α → Option X) : blet a B = B a := rfl

theorem ok_idx {α X : Type} {xs : List α} {i : Int} {B : α → Option X} {Q : X → Prop} (h0 : 0 ≤ i) (h : i < xs.length) (hb : ∀ hi : i.toNat < xs.length, Ok (B xs[i.toNat]) Q) : Ok (gidx xs i B) Q := by
  have hi : i.toNat < xs.length := by omega
  rw [gidx_some h0 hi]; exact hb hi
theorem ok_cap {X : Type} {n b : Nat} {o : Option X} {Q : X → Prop} (h : n * b ≤ 140737488355328) (ho : Ok o Q) : Ok (gcap n b o) Q := by rw [gcap_some h]; exact ho
theorem ok_nz {X : Type} {y : Int} {o : Option X} {Q : X → Prop} (h : y ≠ 0) (ho : Ok o Q) : Ok (gnz y o) Q := by rw [gnz_some h]; exact ho
theorem ok_nn {X : Type} {y : Int} {o : Option X} {Q : X → Prop} (h : 0 ≤ y) (ho : Ok o Q) : Ok (gnn y o) Q := by unfold gnn; simp [h]; exact ho
theorem ok_make {X : Type} {n : Int} {b : Nat} {o : Option X} {Q : X → Prop} (h0 : 0 ≤ n) (h : n.toNat * b ≤ 140737488355328) (ho : Ok o Q) : Ok (gmake n b o) Q := by unfold gmake; simp [h0, h]; exact ho
theorem ok_cut {X : Type} {lo hi len : Int} {o : Option X} {Q : X → Prop} (h0 : 0 ≤ lo) (h1 : lo ≤ hi) (h2 : hi ≤ len) (ho : Ok o Q) : Ok (gcut lo hi len o) Q := by unfold gcut; simp [h0, h1, h2]; exact ho
theorem ok_bif {X : Type} {b : Bool} {x y : Option X} {Q : X → Prop} (h1 : b = true → Ok x Q) (h2 : b = false → Ok y Q) : Ok (bif b then x else y) Q := by
  cases b
  · exact h2 rfl
  · exact h1 rfl
theorem ok_let {α X : Type} {a : α} {B : α → Option X} {Q : X → Prop} (h : Ok (B a) Q) : Ok (blet a B) Q := h

/-- A loop: what holds at its head, and a measure that falls. -/
theorem ok_loop {S X : Type} {body : (S → Option X) → S → Option X} {k : Nat} {s : S} {Q : X → Prop} (Inv : S → Prop) (μ : S → Nat) (h0 : Inv s) (hk : μ s < k)
    (step : ∀ (again : S → Option X) (s : S), Inv s → (∀ s', Inv s' → μ s' < μ s → Ok (again s') Q) → Ok (body again s) Q) : Ok (gloop body k s) Q := by
  induction k generalizing s with
  | zero => omega
  | succ k ih => exact step (gloop body k) s h0 fun s' hs hlt => ih hs (by omega)
/-- A loop, told by a relation between where it begins and what it answers. -/
theorem ok_loopR {S X : Type} {body : (S → Option X) → S → Option X} {k : Nat} {s : S} (Inv : S → Prop) (μ : S → Nat) (Q : S → X → Prop) (h0 : Inv s) (hk : μ s < k)
    (step : ∀ (again : S → Option X) (s : S), Inv s → (∀ s', Inv s' → μ s' < μ s → Ok (again s') (Q s')) → Ok (body again s) (Q s)) : Ok (gloop body k s) (Q s) := by
  obtain ⟨x, h1, h2⟩ := gloop_ends (body := body) μ Inv Q (fun again s hs h => step again s hs h) k s h0 hk
  exact ⟨x, h1, h2⟩

/-! ### whole numbers that do not wrap -/
theorem fits64 {n : Int} : fitsI .i64 n ↔ -9223372036854775808 ≤ n ∧ n ≤ 9223372036854775807 := by
  unfold fitsI Lit.wf
  simp [IntKind.min, IntKind.max, IntKind.signed, IntKind.bits]
theorem fits8 {n : Int} : fitsI .u8 n ↔ 0 ≤ n ∧ n ≤ 255 := by
  unfold fitsI Lit.wf
  simp [IntKind.min, IntKind.max, IntKind.signed, IntKind.bits]
theorem w64 {x : Int} (h1 : -9223372036854775808 ≤ x) (h2 : x ≤ 9223372036854775807) : IntKind.wrap .i64 x = x := wrap64 h1 (by omega)
theorem w8 {x : Int} (h1 : 0 ≤ x) (h2 : x ≤ 255) : IntKind.wrap .u8 x = x := by
  simp [IntKind.wrap, IntKind.signed, IntKind.bits]; omega
theorem gmax_def (p q : Int) : gmax p q = max q p := by unfold gmax; split <;> omega
theorem gmin_def (p q : Int) : gmin p q = min q p := by unfold gmin; split <;> omega
end Go.VM
