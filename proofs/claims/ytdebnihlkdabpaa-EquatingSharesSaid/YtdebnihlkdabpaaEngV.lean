/- Plain reasoning about loops over lists. -/
import Derived.Test.YtdebnihlkdabpaaEngU
namespace Go.VM
set_option linter.unusedVariables false
set_option linter.unusedSimpArgs false

theorem gidx_mid {α X : Type} {l pre post : List α} {e : α} {i : Int} {B : α → Option X} (hl : l = pre ++ e :: post) (hi : i = pre.length) : gidx l i B = B e := by
  subst hl hi
  have h : pre.length < (pre ++ e :: post).length := by simp
  rw [gidx_some (by omega) (by simp)]
  simp

/-- A loop over a list by its indexes, from the first to the last: 'Inv pre s' holds at the head when 'pre' has been seen. -/
theorem ok_range {S X α : Type} {body : (S → Option X) → S → Option X} {k : Nat} {s0 : S} {Q : X → Prop} (l : List α) (ix : S → Int) (Inv : List α → S → Prop) (hlen : l.length ≤ 4611686018427387904) (h0 : ix s0 = 0) (hI : Inv [] s0) (hk : l.length < k)
    (step : ∀ (again : S → Option X) (s : S) (pre : List α) (e : α) (post : List α), l = pre ++ e :: post → ix s = pre.length → ix s < l.length → IntKind.wrap .i64 (ix s + 1) = ix s + 1 → Inv pre s → (∀ s', ix s' = ix s + 1 → Inv (pre ++ [e]) s' → Ok (again s') Q) → Ok (body again s) Q)
    (last : ∀ (again : S → Option X) (s : S), ix s = l.length → Inv l s → Ok (body again s) Q) : Ok (gloop body k s0) Q := by
  refine ok_loop (fun s => ∃ pre post, l = pre ++ post ∧ ix s = pre.length ∧ Inv pre s) (fun s => l.length - (ix s).toNat) ⟨[], l, rfl, by simp [h0], hI⟩ (by rw [h0]; simpa using hk) fun again s hs hag => ?_
  obtain ⟨pre, post, hl, hi, hinv⟩ := hs
  cases post with
  | nil =>
    rw [List.append_nil] at hl
    subst hl
    exact last again s hi hinv
  | cons e post =>
    have hlt : pre.length < l.length := by rw [hl]; simp
    refine step again s pre e post hl hi (by omega) (w64 (by omega) (by omega)) hinv fun s' hs' hinv' => hag s' ⟨pre ++ [e], post, by rw [hl]; simp, by rw [hs', hi]; simp, hinv'⟩ ?_
    omega
theorem ok_then {X Y : Type} {o : Option X} {f : X → Option Y} {Q' : Y → Prop} (x : X) (h : o = some x) (hf : Ok (f x) Q') : Ok (Option.bind o f) Q' := by subst h; exact hf
theorem eq_of_ok {X : Type} {o : Option X} {r : X} (h : Ok o (fun x => x = r)) : o = some r := h.eq
theorem ok_eq {X : Type} {o : Option X} {r : X} {Q : X → Prop} (h : o = some r) (hq : Q r) : Ok o Q := ⟨r, h, hq⟩
theorem dec_lt {a b : Int} (h : a < b) : decide (a < b) = true := decide_eq_true h
theorem dec_nlt {a b : Int} (h : b ≤ a) : decide (a < b) = false := decide_eq_false (by omega)
theorem beq_int (a b : Int) : (a == b) = decide (a = b) := by by_cases h : a = b <;> simp [h]
theorem bne_int (a b : Int) : (a != b) = decide (a ≠ b) := by by_cases h : a = b <;> simp [h]
theorem ok_sum {A B Y : Type} {o : Option (A ⊕ B)} {f : A → Option Y} {g : B → Option Y} {Q : A → Prop} {R : B → Prop} {Q' : Y → Prop} (h : Ok o (fun x => match x with | .inl a => Q a | .inr b => R b)) (hf : ∀ a, Q a → Ok (f a) Q') (hg : ∀ b, R b → Ok (g b) Q') : Ok (Option.bind o (Sum.elim f g)) Q' := by
  obtain ⟨r, rfl, hr⟩ := h
  cases r with
  | inl a => exact hf a hr
  | inr b => exact hg b hr
end Go.VM
