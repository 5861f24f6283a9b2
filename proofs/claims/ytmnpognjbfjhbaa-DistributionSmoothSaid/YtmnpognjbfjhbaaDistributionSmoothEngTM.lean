/- What a row hands over, and what is known of it. -/
import Derived.Test.YtmnpognjbfjhbaaEngOM
import Derived.SizedLaws
import Derived.ChangeSlices
import Derived.OpenShut
import Derived.Test.YtmnpognjbfjhbaaSmFuns
namespace Go.VM
set_option linter.unusedVariables false
set_option linter.unusedSimpArgs false
open Go.RowKit Go.ChangeShapes Go.WideShapes
set_option linter.unusedVariables false

/-- The numbers of a kind. -/
abbrev fitsI (k : IntKind) (n : Int) : Prop := (Lit.int k n).wf = true
def IsRow (k : IntKind) (w : World) (a : Option Addr) (len cap : Nat) (zs : List Int) : Prop :=
  (a = none ∧ len = 0 ∧ cap = 0 ∧ zs = []) ∨ ∃ x, a = some x ∧ len ≤ cap ∧ cap ≤ maxLen ∧ zs.length = cap ∧ (∀ i, i < zs.length → w.cell? (x.add i) = some (.int k (zs.getD i 0))) ∧ ∀ n ∈ zs, fitsI k n
theorem IsRow.look {k : IntKind} {w : World} {a : Option Addr} {len cap : Nat} {zs : List Int} (h : IsRow k w a len cap zs) :
    (a = none ∧ len = 0 ∧ cap = 0 ∧ zs = []) ∨ ∃ x : Addr, a = some x ∧ len ≤ cap ∧ zs.length = cap ∧ (∀ i, i < zs.length → w.cell? (x.add i) = some (.int k (zs.getD i 0))) := by
  rcases h with h | ⟨x, h1, h2, h3, h4, h5, h6⟩
  · exact .inl h
  · exact .inr ⟨x, h1, h2, h4, h5⟩
theorem IsRow.fits {k : IntKind} {w : World} {a : Option Addr} {len cap : Nat} {zs : List Int} (h : IsRow k w a len cap zs) (n : Nat) : ∀ x ∈ zs.take n, fitsI k x := fun x hx => by
  rcases h with ⟨_, _, _, rfl⟩ | ⟨_, _, _, _, _, _, h6⟩
  · simp at hx
  · exact h6 x (List.mem_of_mem_take hx)
theorem IsRow.short {k : IntKind} {w : World} {a : Option Addr} {len cap : Nat} {zs : List Int} (h : IsRow k w a len cap zs) {b : Nat} (y : len * b ≤ 140737488351232) : (zs.take len).length * b ≤ 140737488351232 := by
  have : (zs.take len).length ≤ len := by simp; omega
  exact Nat.le_trans (Nat.mul_le_mul_right _ this) y
theorem IsRow.open {H : Type} {enc : TypeId × Value → H} {P : Program} {W : World} {base : Nat} {held : Bool} {t e : TypeId} {k : IntKind} {a : Option Addr} {len cap : Nat} {d : DataW H} {ps : List MemPlace} (hu : P.underlying t = some (.slice e)) (he : P.underlying e = some (.int k)) (hc : P.cellsOf e = 1)
    (h : DataW.Trod enc P W base (fun _ => true) held t (.slice a len cap) d ps) : ∃ zs, IsRow k W a len cap zs := by
  obtain ⟨fuel, hf⟩ := h
  rcases open_ints hu he hc hf with ⟨hcs, _⟩ | ⟨x, l, c, zs, hcs, _, hl, hm, hz, _, hcell, hwz⟩
  · simp [Value.cells] at hcs
    obtain ⟨rfl, rfl, rfl⟩ := hcs
    exact ⟨[], .inl ⟨rfl, rfl, rfl, rfl⟩⟩
  · simp [Value.cells] at hcs
    obtain ⟨rfl, rfl, rfl⟩ := hcs
    exact ⟨zs, .inr ⟨_, rfl, hl, hm, by simpa using hz, hcell, hwz⟩⟩
theorem row_sized {H : Type} {enc : TypeId × Value → H} {P : Program} {W : World} {base : Nat} {spare : Nat → Bool} {held : Bool} {t e : TypeId} {k : IntKind} {a : Option Addr} {len cap : Nat} {d : DataW H} {ps : List MemPlace} {ts : List TypeId} {ds : List (DataW H)} {j : Nat}
    (hsz : (DataW.weightsEach P ts ds).all (· ≤ reachBytes) = true) (ht : ts[j]? = some t) (hd : ds[j]? = some d) (hu : P.underlying t = some (.slice e)) (he : P.underlying e = some (.int k)) (hc : P.cellsOf e = 1) {B : Nat} (hB : P.bytesOf e = B)
    (h : DataW.Trod enc P W base spare held t (.slice a len cap) d ps) : len * B ≤ 140737488351232 := by
  obtain ⟨fuel, hf⟩ := h
  rcases open_ints hu he hc hf with ⟨hcs, _⟩ | ⟨x, l, c, zs, hcs, _, hl, _, hz, hdx, _, _⟩
  · simp [Value.cells] at hcs
    rw [hcs.2.1]; omega
  · simp [Value.cells] at hcs
    obtain ⟨rfl, rfl, rfl⟩ := hcs
    obtain ⟨e1, _⟩ := Prod.mk.inj hdx
    rw [e1] at hd
    have z := sized_slice hsz ht hd hu
    rw [hB] at z
    refine Nat.le_trans (Nat.mul_le_mul_right _ ?_) z
    simp only [lits, List.length_map, List.length_take, List.length_drop]
    have : len ≤ zs.length := by
      rw [hz]
      split
      · exact hl
      · exact Nat.le_refl _
    omega
end Go.VM
namespace Go.VM
set_option linter.unusedVariables false

/-- There is an answer, and Q holds of it. -/
def Ok {X : Type} (o : Option X) (Q : X → Prop) : Prop := ∃ r, o = some r ∧ Q r
theorem Ok.mono {X : Type} {o : Option X} {Q Q' : X → Prop} (h : Ok o Q) (hq : ∀ r, Q r → Q' r) : Ok o Q' := let ⟨r, e, h⟩ := h; ⟨r, e, hq r h⟩
theorem Ok.bind {X Y : Type} {o : Option X} {f : X → Option Y} {Q : X → Prop} {Q' : Y → Prop} (h : Ok o Q) (hf : ∀ r, Q r → Ok (f r) Q') : Ok (Option.bind o f) Q' := by
  obtain ⟨r, rfl, hr⟩ := h
  exact hf r hr
theorem Ok.mk {X : Type} {o : Option X} {r : X} {Q : X → Prop} (e : o = some r) (h : Q r) : Ok o Q := ⟨r, e, h⟩
theorem Ok.ret {X : Type} {r : X} {Q : X → Prop} (h : Q r) : Ok (some r) Q := ⟨r, rfl, h⟩
theorem Ok.some_iff {X : Type} {r : X} {Q : X → Prop} : Ok (some r) Q ↔ Q r := ⟨fun ⟨_, e, h⟩ => by cases e; exact h, fun h => ⟨r, rfl, h⟩⟩
theorem Ok.eq {X : Type} {o : Option X} {r : X} (h : Ok o (fun x => x = r)) : o = some r := by obtain ⟨_, e, rfl⟩ := h; exact e
theorem Ok.of_eq {X : Type} {o : Option X} {r : X} (h : o = some r) : Ok o (fun x => x = r) := ⟨r, h, rfl⟩
theorem Ok.iff_true {o : Option Bool} : Ok o (fun b => b = true) ↔ o = some true := ⟨Ok.eq, Ok.of_eq⟩

theorem uc_mk {α β γ : Type} (f : α → β → γ) (a : α) (b : β) : uc f (a, b) = f a b := rfl
theorem uc_eq {α β γ : Type} (f : α → β → γ) (p : α × β) : uc f p = f p.1 p.2 := rfl
theorem u0_mk {γ : Type} (c : γ) (u : Unit) : u0 c u = c := rfl
theorem blet_mk {α X : Type} (a : α) (B : α → Option X) : blet a B = B a := rfl

theorem ok_idx {α X : Type} {xs : List α} {i : Int} {B : α → Option X} {Q : X → Prop} (h0 : 0 ≤ i) (h : i < xs.length) (hb : ∀ hi : i.toNat < xs.length, Ok (B xs[i.toNat]) Q) : Ok (gidx xs i B) Q := by
  have hi : i.toNat < xs.length := by omega
  rw [gidx_some h0 hi]; exact hb hi
theorem ok_cap {X : Type} {n b : Nat} {o : Option X} {Q : X → Prop} (h : n * b ≤ 140737488355328) (ho : Ok o Q) : Ok (gcap n b o) Q := by rw [gcap_some h]; exact ho
theorem ok_nz {X : Type} {y : Int} {o : Option X} {Q : X → Prop} (h : y ≠ 0) (ho : Ok o Q) : Ok (gnz y o) Q := by rw [gnz_some h]; exact ho
theorem ok_nn {X : Type} {y : Int} {o : Option X} {Q : X → Prop} (h : 0 ≤ y) (ho : Ok o Q) : Ok (gnn y o) Q := by unfold gnn; simp [h]; exact ho
theorem ok_make {X : Type} {n : Int} {b : Nat} {o : Option X} {Q : X → Prop} (h0 : 0 ≤ n) (h : n.toNat * b ≤ 140737488355328) (ho : Ok o Q) : Ok (gmake n b o) Q := by unfold gmake; simp [h0, h]; exact ho
theorem ok_cut {X : Type} {lo hi len : Int} {o : Option X} {Q : X → Prop} (h0 : 0 ≤ lo) (h1 : lo ≤ hi) (h2 : hi ≤ len) (ho : Ok o Q) : Ok (gcut lo hi len o) Q := by unfold gcut; simp [h0, h1, h2]; exact ho
theorem ok_bif {X : Type} {b : Bool} {x y : Option X} {Q : X → Prop} (h1 : b = true → Ok x Q) (h2 : b = false → Ok y Q) : Ok (bif b then x else y) Q := by
  cases b
  · exact h2 rfl
  · exact h1 rfl
theorem ok_let {α X : Type} {a : α} {B : α → Option X} {Q : X → Prop} (h : Ok (B a) Q) : Ok (blet a B) Q := h

/-- A loop: what holds at its head, and a measure that falls. -/
theorem ok_loop {S X : Type} {body : (S → Option X) → S → Option X} {k : Nat} {s : S} {Q : X → Prop} (Inv : S → Prop) (μ : S → Nat) (h0 : Inv s) (hk : μ s < k)
    (step : ∀ (again : S → Option X) (s : S), Inv s → (∀ s', Inv s' → μ s' < μ s → Ok (again s') Q) → Ok (body again s) Q) : Ok (gloop body k s) Q := by
  induction k generalizing s with
  | zero => omega
  | succ k ih => exact step (gloop body k) s h0 fun s' hs hlt => ih hs (by omega)
/-- A loop, told by a relation between where it begins and what it answers. -/
theorem ok_loopR {S X : Type} {body : (S → Option X) → S → Option X} {k : Nat} {s : S} (Inv : S → Prop) (μ : S → Nat) (Q : S → X → Prop) (h0 : Inv s) (hk : μ s < k)
    (step : ∀ (again : S → Option X) (s : S), Inv s → (∀ s', Inv s' → μ s' < μ s → Ok (again s') (Q s')) → Ok (body again s) (Q s)) : Ok (gloop body k s) (Q s) := by
  obtain ⟨x, h1, h2⟩ := gloop_ends (body := body) μ Inv Q (fun again s hs h => step again s hs h) k s h0 hk
  exact ⟨x, h1, h2⟩

/-! ### whole numbers that do not wrap -/
theorem fits64 {n : Int} : fitsI .i64 n ↔ -9223372036854775808 ≤ n ∧ n ≤ 9223372036854775807 := by
  unfold fitsI Lit.wf
  simp [IntKind.min, IntKind.max, IntKind.signed, IntKind.bits]
theorem fits8 {n : Int} : fitsI .u8 n ↔ 0 ≤ n ∧ n ≤ 255 := by
  unfold fitsI Lit.wf
  simp [IntKind.min, IntKind.max, IntKind.signed, IntKind.bits]
theorem w64 {x : Int} (h1 : -9223372036854775808 ≤ x) (h2 : x ≤ 9223372036854775807) : IntKind.wrap .i64 x = x := wrap64 h1 (by omega)
theorem w8 {x : Int} (h1 : 0 ≤ x) (h2 : x ≤ 255) : IntKind.wrap .u8 x = x := by
  simp [IntKind.wrap, IntKind.signed, IntKind.bits]; omega
theorem gmax_def (p q : Int) : gmax p q = max q p := by unfold gmax; split <;> omega
theorem gmin_def (p q : Int) : gmin p q = min q p := by unfold gmin; split <;> omega
end Go.VM
namespace Go.VM
set_option linter.unusedVariables false
set_option linter.unusedSimpArgs false

theorem gidx_mid {α X : Type} {l pre post : List α} {e : α} {i : Int} {B : α → Option X} (hl : l = pre ++ e :: post) (hi : i = pre.length) : gidx l i B = B e := by
  subst hl hi
  have h : pre.length < (pre ++ e :: post).length := by simp
  rw [gidx_some (by omega) (by simp)]
  simp

/-- A loop over a list by its indexes, from the first to the last: 'Inv pre s' holds at the head when 'pre' has been seen. -/
theorem ok_range {S X α : Type} {body : (S → Option X) → S → Option X} {k : Nat} {s0 : S} {Q : X → Prop} (l : List α) (ix : S → Int) (Inv : List α → S → Prop) (hlen : l.length ≤ 4611686018427387904) (h0 : ix s0 = 0) (hI : Inv [] s0) (hk : l.length < k)
    (step : ∀ (again : S → Option X) (s : S) (pre : List α) (e : α) (post : List α), l = pre ++ e :: post → ix s = pre.length → ix s < l.length → IntKind.wrap .i64 (ix s + 1) = ix s + 1 → Inv pre s → (∀ s', ix s' = ix s + 1 → Inv (pre ++ [e]) s' → Ok (again s') Q) → Ok (body again s) Q)
    (last : ∀ (again : S → Option X) (s : S), ix s = l.length → Inv l s → Ok (body again s) Q) : Ok (gloop body k s0) Q := by
  refine ok_loop (fun s => ∃ pre post, l = pre ++ post ∧ ix s = pre.length ∧ Inv pre s) (fun s => l.length - (ix s).toNat) ⟨[], l, rfl, by simp [h0], hI⟩ (by rw [h0]; simpa using hk) fun again s hs hag => ?_
  obtain ⟨pre, post, hl, hi, hinv⟩ := hs
  cases post with
  | nil =>
    rw [List.append_nil] at hl
    subst hl
    exact last again s hi hinv
  | cons e post =>
    have hlt : pre.length < l.length := by rw [hl]; simp
    refine step again s pre e post hl hi (by omega) (w64 (by omega) (by omega)) hinv fun s' hs' hinv' => hag s' ⟨pre ++ [e], post, by rw [hl]; simp, by rw [hs', hi]; simp, hinv'⟩ ?_
    omega
theorem ok_then {X Y : Type} {o : Option X} {f : X → Option Y} {Q' : Y → Prop} (x : X) (h : o = some x) (hf : Ok (f x) Q') : Ok (Option.bind o f) Q' := by subst h; exact hf
theorem eq_of_ok {X : Type} {o : Option X} {r : X} (h : Ok o (fun x => x = r)) : o = some r := h.eq
theorem ok_eq {X : Type} {o : Option X} {r : X} {Q : X → Prop} (h : o = some r) (hq : Q r) : Ok o Q := ⟨r, h, hq⟩
theorem dec_lt {a b : Int} (h : a < b) : decide (a < b) = true := decide_eq_true h
theorem dec_nlt {a b : Int} (h : b ≤ a) : decide (a < b) = false := decide_eq_false (by omega)
theorem beq_int (a b : Int) : (a == b) = decide (a = b) := by by_cases h : a = b <;> simp [h]
theorem bne_int (a b : Int) : (a != b) = decide (a ≠ b) := by by_cases h : a = b <;> simp [h]
theorem ok_sum {A B Y : Type} {o : Option (A ⊕ B)} {f : A → Option Y} {g : B → Option Y} {Q : A → Prop} {R : B → Prop} {Q' : Y → Prop} (h : Ok o (fun x => match x with | .inl a => Q a | .inr b => R b)) (hf : ∀ a, Q a → Ok (f a) Q') (hg : ∀ b, R b → Ok (g b) Q') : Ok (Option.bind o (Sum.elim f g)) Q' := by
  obtain ⟨r, rfl, hr⟩ := h
  cases r with
  | inl a => exact hf a hr
  | inr b => exact hg b hr
end Go.VM
namespace Go.VM
set_option linter.unusedVariables false
set_option linter.unusedSimpArgs false

theorem Next_ok {k : Nat} {n : Int} {x : List Int} {i : Int} (hx : x.length ≤ 600) (h0 : 0 ≤ i) (hn0 : 1 ≤ n) (hn : n ≤ 1000000) : Ok (mark_Dice_Next k n x i) (fun r => 0 ≤ r.1 ∧ r.1 < n ∧ 0 ≤ r.2) := by
  unfold mark_Dice_Next
  refine ok_let (ok_bif (fun h => Ok.ret ⟨Int.le_refl _, by omega, h0⟩) fun h => ?_)
  simp only [Bool.or_eq_false_iff, decide_eq_false_iff_not, ge_iff_le, Int.not_le] at h
  refine ok_idx h0 (by omega) fun hi => ok_nz (by omega) ?_
  generalize x[i.toNat] = e
  have h1 := Int.tmod_lt_of_pos e (show 0 < n by omega)
  have h2 := Int.lt_tmod_of_pos e (show 0 < n by omega)
  refine Ok.bind (Q := fun r => 0 ≤ r.1 ∧ r.1 < n ∧ 0 ≤ r.2) (ok_bif (fun h => ?_) fun h => ?_) fun r hr => ?_
  · have h' := of_decide_eq_true h
    refine Ok.ret ⟨?_, ?_, ?_⟩
    · simp only; rw [w64 (by omega) (by omega)]; omega
    · simp only; rw [w64 (by omega) (by omega)]; omega
    · simp only; rw [w64 (by omega) (by omega)]; omega
  · have h' := of_decide_eq_false h
    refine Ok.ret ⟨?_, ?_, ?_⟩
    · simp only; omega
    · simp only; omega
    · simp only; rw [w64 (by omega) (by omega)]; omega
  · obtain ⟨a, b⟩ := r
    exact Ok.ret hr
theorem Next_then {k : Nat} {n : Int} {x : List Int} {i : Int} {Y : Type} {f : Int → Int → Option Y} {Q : Y → Prop} (hx : x.length ≤ 600) (h0 : 0 ≤ i) (hn0 : 1 ≤ n) (hn : n ≤ 1000000) (hf : ∀ a j, 0 ≤ a → a < n → 0 ≤ j → Ok (f a j) Q) : Ok (Option.bind (mark_Dice_Next k n x i) (uc f)) Q := by
  refine Ok.bind (Next_ok hx h0 hn0 hn) fun r hr => ?_
  obtain ⟨a, j⟩ := r
  exact hf a j hr.1 hr.2.1 hr.2.2
end Go.VM
namespace Go.VM
set_option linter.unusedVariables false
set_option linter.unusedSimpArgs false

theorem Pick_then {k : Nat} {l x : List Int} {i : Int} {Y : Type} {f : Int → Int → Option Y} {Q : Y → Prop} (hx : x.length ≤ 600) (h0 : 0 ≤ i) (hn0 : 0 < l.length) (hn : l.length ≤ 1000000) (hf : ∀ a j, a ∈ l → 0 ≤ j → Ok (f a j) Q) : Ok (Option.bind (mark_Dice_Pick k x i l) (uc f)) Q := by
  unfold mark_Dice_Pick
  refine Ok.bind (Q := fun r => r.1 ∈ l ∧ 0 ≤ r.2) (Next_then hx h0 (by omega) (by omega) fun a j h1 h2 hj => ok_idx h1 h2 fun hi => Ok.ret ⟨List.getElem_mem hi, hj⟩) fun r hr => ?_
  obtain ⟨a, j⟩ := r
  exact hf a j hr.1 hr.2

/-- A distribution of few candidates. -/
def Few (d : List Int) : Prop := 1 ≤ d.length ∧ d.length ≤ 40 ∧ ∀ x ∈ d, 0 ≤ x ∧ x ≤ 1000
/-- A distribution as the dice make it. -/
def Made (n : Int) (full : Bool) (d : List Int) : Prop := 1 ≤ d.length ∧ (d.length : Int) ≤ n + 1 ∧ ∀ x ∈ d, (bif full then 1 else 0) ≤ x ∧ x ≤ 6
theorem Made.few {n : Int} {full : Bool} {d : List Int} (h : Made n full d) (hn : n ≤ 39) : Few d := ⟨h.1, by have := h.2.1; omega, fun x hx => by
  have := h.2.2 x hx
  cases full <;> simp only [cond_true, cond_false] at this <;> omega⟩
theorem Dist_then {k : Nat} {n : Int} {full : Bool} {x : List Int} {i : Int} {Y : Type} {f : List Int → Int → Option Y} {Q : Y → Prop} (hx : x.length ≤ 600) (h0 : 0 ≤ i) (hk : 50 < k) (hn0 : 0 ≤ n) (hn : n ≤ 39) (hf : ∀ d j, Made n full d → 0 ≤ j → Ok (f d j) Q) : Ok (Option.bind (mark_Dice_Distribution k n full x i) (uc f)) Q := by
  unfold mark_Dice_Distribution
  refine Ok.bind (Q := fun r => Made n full r.1 ∧ 0 ≤ r.2) ?_ fun r hr => ?_
  · refine Ok.bind (Q := fun r => r = bif full then (1 : Int) else 0) (by cases full <;> exact Ok.ret rfl) fun least hl => ?_
    rw [w64 (x := n + 1) (by omega) (by omega)]
    refine Next_then hx h0 (by omega) (by omega) fun a j h1 h2 hj => ?_
    rw [w64 (x := 1 + a) (by omega) (by omega)]
    refine Ok.bind (Q := fun r => Made n full r.2 ∧ 0 ≤ r.1) (ok_loop (fun s => 0 ≤ s.1 ∧ 0 ≤ s.2.1 ∧ s.1 + s.2.2.length = 1 + a ∧ ∀ x ∈ s.2.2, (bif full then 1 else 0) ≤ x ∧ x ≤ 6) (fun s => s.1.toNat) ⟨by simp only; omega, hj, by simp, by simp⟩ (by simp only; omega) ?_) fun r hr => ?_
    · intro again s hs hag
      obtain ⟨c, j, xs⟩ := s
      obtain ⟨g1, g2, g3, g4⟩ := hs
      simp only at g1 g2 g3 g4
      simp only [mark_Dice_Distribution_b1, uc_mk]
      refine ok_bif (fun hc => ?_) fun hc => ?_
      · have hc' := of_decide_eq_true hc
        refine Pick_then hx g2 (by simp) (by simp) fun e j he hj => ?_
        have he2 : 0 ≤ e ∧ e ≤ 5 := by
          simp only [List.mem_cons, List.not_mem_nil, or_false] at he
          omega
        have hl2 : 0 ≤ least ∧ least ≤ 1 := by subst hl; cases full <;> simp
        rw [w64 (x := least + e) (by omega) (by omega), w64 (x := c - 1) (by omega) (by omega)]
        refine ok_cap (by simp; omega) (hag _ ⟨by simp only; omega, hj, by simp only [List.length_append, List.length_singleton]; omega, fun y hy => ?_⟩ (by simp only; omega))
        simp only [List.mem_append, List.mem_singleton] at hy
        rcases hy with hy | rfl
        · exact g4 y hy
        · rw [← hl]; omega
      · have hc' := of_decide_eq_false hc
        exact Ok.ret ⟨⟨by simp only; omega, by simp only; omega, g4⟩, g2⟩
    · obtain ⟨j, xs⟩ := r
      exact Ok.ret hr
  · obtain ⟨d, j⟩ := r
    exact hf d j hr.1 hr.2

/-! ### what is counted -/
theorem sum_nn {d : List Int} (h : ∀ x ∈ d, 0 ≤ x) : 0 ≤ d.sum := by
  induction d with
  | nil => simp
  | cons x d ih =>
    have h1 := h x (by simp)
    have h2 := ih fun y hy => h y (by simp [hy])
    simp only [List.sum_cons]; omega
theorem sum_hi {d : List Int} {c : Int} (h : ∀ x ∈ d, x ≤ c) : d.sum ≤ c * d.length := by
  induction d with
  | nil => simp
  | cons x d ih =>
    have h1 := h x (by simp)
    have h2 := ih fun y hy => h y (by simp [hy])
    simp only [List.sum_cons, List.length_cons, Int.natCast_add, Int.natCast_one, Int.mul_add, Int.mul_one]; omega
theorem Few.bound {d pre post : List Int} (h : Few d) (hl : d = pre ++ post) : 0 ≤ pre.sum ∧ pre.sum ≤ 40000 := by
  have h1 : ∀ x ∈ pre, 0 ≤ x ∧ x ≤ 1000 := fun x hx => h.2.2 x (by rw [hl]; simp [hx])
  have h2 := sum_nn fun x hx => (h1 x hx).1
  have h3 := sum_hi (c := 1000) fun x hx => (h1 x hx).2
  have h4 : pre.length ≤ 40 := by have := h.2.1; rw [hl] at this; simp at this; omega
  omega
theorem Few.sum {d : List Int} (h : Few d) : 0 ≤ d.sum ∧ d.sum ≤ 40000 := h.bound (post := []) (by simp)
theorem Few.take {d : List Int} (h : Few d) (n : Nat) : 0 ≤ (d.take n).sum ∧ (d.take n).sum ≤ 40000 := h.bound (post := d.drop n) (by simp)
theorem take_le {d : List Int} (h : ∀ x ∈ d, 0 ≤ x) {m n : Nat} (hm : m ≤ n) : (d.take m).sum ≤ (d.take n).sum := by
  have e : d.take n = d.take m ++ (d.drop m).take (n - m) := by
    rw [← List.take_add]
    congr 1
    omega
  rw [e, List.sum_append]
  have := sum_nn (d := (d.drop m).take (n - m)) fun x hx => h x (List.mem_of_mem_drop (List.mem_of_mem_take hx))
  omega
theorem getD_of {l : List Int} {i : Nat} (h : i < l.length) : l.getD i 0 = l[i] := by simp [List.getD, h]
theorem take_all {d : List Int} {n : Nat} (h : d.length ≤ n) : (d.take n).sum = d.sum := by rw [List.take_of_length_le h]
theorem take_succ_sum {d : List Int} {n : Nat} (h : n < d.length) : (d.take (n + 1)).sum = (d.take n).sum + d[n] := by
  rw [List.take_add_one, List.getElem?_eq_getElem h, Option.toList_some, List.sum_append, List.sum_cons, List.sum_nil, Int.add_zero]
theorem sum_ok {k : Nat} {d : List Int} (h : ∀ x ∈ d, 0 ≤ x ∧ x ≤ 1000) (hl : d.length ≤ 40) (hk : 50 < k) : distribution_sum k d = some d.sum := by
  apply Ok.eq
  unfold distribution_sum
  refine Ok.bind (Q := fun r => r = d.sum) (ok_range d (fun s => s.2) (fun pre s => s.1 = pre.sum) (by omega) rfl rfl (by omega) ?_ ?_) fun r hr => Ok.ret hr
  · intro again s pre e post hl' hi hlt hw hinv hag
    obtain ⟨n, i⟩ := s
    simp only at hi hlt hw hinv
    simp only [distribution_sum_b1, uc_mk]
    rw [dec_lt hlt, cond_true, gidx_mid hl' hi, hw]
    have he := h e (by rw [hl']; simp)
    have h1 : ∀ x ∈ pre, 0 ≤ x ∧ x ≤ 1000 := fun x hx => h x (by rw [hl']; simp [hx])
    have h2 := sum_nn fun x hx => (h1 x hx).1
    have h3 := sum_hi (c := 1000) fun x hx => (h1 x hx).2
    have h4 : pre.length ≤ 40 := by rw [hl'] at hl; simp at hl; omega
    rw [w64 (x := n + e) (by omega) (by omega)]
    exact hag _ rfl (by simp [hinv, List.sum_append])
  · intro again s hi hinv
    obtain ⟨n, i⟩ := s
    simp only at hi hinv
    simp only [distribution_sum_b1, uc_mk]
    rw [dec_nlt (by omega), cond_false]
    exact Ok.ret hinv
theorem Valid_ok {k : Nat} {d : List Int} (h : Few d) (hk : 50 < k) : distribution_Valid k d = some true := by
  apply Ok.eq
  have h1 := h.1
  have h2 := h.2.1
  have h3 := h.sum
  unfold distribution_Valid
  refine ok_let (ok_bif (fun hb => ?_) fun _ => ?_)
  · rw [Bool.or_eq_true, decide_eq_true_iff, beq_iff_eq] at hb; omega
  · unfold slices_ContainsFunc_int slices_IndexFunc_int
    refine Ok.bind (Q := fun r => r = false) (Ok.bind (Q := fun r => r = -1) (ok_sum (Q := fun _ => True) (R := fun _ => False) (ok_range d (fun s => s) (fun _ _ => True) (by omega) rfl trivial (by omega) ?_ ?_) (fun _ _ => Ok.ret rfl) fun _ h => h.elim) fun r hr => Ok.ret (by subst hr; rfl)) fun r hr => ?_
    · intro again s pre e post hl hi hlt hw _ hag
      simp only [slices_IndexFunc_int_b1, distribution_Valid_1]
      rw [dec_lt hlt, cond_true, gidx_mid hl hi, hw]
      have he := h.2.2 e (by rw [hl]; simp)
      simp only [blet_mk, Option.bind_some]
      rw [dec_nlt (by omega), show decide (e > 1048576) = false from decide_eq_false (by omega)]
      simp only [Bool.or_false, cond_false]
      exact hag _ rfl trivial
    · intro again s hi _
      simp only [slices_IndexFunc_int_b1]
      rw [dec_nlt (by omega), cond_false]
      exact Ok.ret trivial
    · subst hr
      rw [cond_false, sum_ok h.2.2 h2 hk, Option.bind_some]
      exact Ok.ret (decide_eq_true (by omega))
theorem Count_ok {k : Nat} {d : List Int} (h : Few d) (hk : 50 < k) : distribution_Count k d = some d.sum := by
  unfold distribution_Count
  rw [Valid_ok h hk, sum_ok h.2.2 h.2.1 hk]
  rfl
theorem Below_ok {k : Nat} {d : List Int} {s : Int} (h : Few d) (hk : 50 < k) : distribution_Below k d s = some (d.take s.toNat).sum := by
  apply Ok.eq
  unfold distribution_Below
  rw [Valid_ok h hk]
  have h1 := h.1
  have h2 := h.2.1
  simp only [Option.bind_some, Bool.not_true, cond_false, gmin_def, gmax_def]
  refine ok_cut (Int.le_refl _) (by omega) (by omega) ?_
  rw [sum_ok (fun x hx => h.2.2 x (List.mem_of_mem_take hx)) (by simp; omega) hk]
  refine Ok.ret ?_
  by_cases hc : s.toNat ≤ d.length
  · rw [show (min (↑d.length) (max 0 s)).toNat = s.toNat by omega]
  · rw [show (min (↑d.length) (max 0 s)).toNat = d.length by omega, take_all (Nat.le_refl _), take_all (by omega)]

end Go.VM
namespace Go.VM
set_option linter.unusedVariables false
set_option linter.unusedSimpArgs false

theorem gcarry_some {R : Type} {x y c : Int} {o : Option R} (hx : 0 ≤ x) (hy : 0 ≤ y) (hc : 0 ≤ c) (hc1 : c ≤ 1) : gcarry x y c o = o := by
  unfold gcarry; simp [hx, hy, hc, hc1]
theorem gle_some {R : Type} {x y : Int} {o : Option R} (h : x ≤ y) : gle x y o = o := by
  unfold gle; simp [h]
theorem wu64 {x : Int} (h1 : 0 ≤ x) (h2 : x ≤ 18446744073709551615) : IntKind.wrap .u64 x = x := by
  simp [IntKind.wrap, IntKind.signed, IntKind.bits]; omega
theorem iand_mask {x : Int} (h1 : 0 ≤ x) (h2 : x ≤ 4294967295) : iand .u64 x 4294967295 = x := by
  unfold iand
  obtain ⟨n, rfl⟩ : ∃ n : Nat, x = n := ⟨x.toNat, by omega⟩
  have e : (BitVec.ofInt IntKind.u64.bits ((n : Nat) : Int) &&& BitVec.ofInt IntKind.u64.bits 4294967295).toNat = n := by
    rw [BitVec.toNat_and]
    have e1 : (BitVec.ofInt IntKind.u64.bits ((n : Nat) : Int)).toNat = n := by
      rw [BitVec.toNat_ofInt]
      simp [IntKind.bits]
      omega
    have e2 : (BitVec.ofInt IntKind.u64.bits 4294967295).toNat = 2 ^ 32 - 1 := by decide
    rw [e1, e2, Nat.and_two_pow_sub_one_eq_mod]
    exact Nat.mod_eq_of_lt (by omega)
  rw [e]
  exact wu64 (by omega) (by omega)
theorem shift32 : ((2 : Int) ^ (min (Int.toNat 32) (IntKind.bits .u64))) = 4294967296 := by decide
theorem fdiv32 (x : Int) : Int.fdiv x 4294967296 = x / 4294967296 := Int.fdiv_eq_ediv_of_nonneg x (by omega)
theorem Mul64_ok {k : Nat} {x y : Int} (hx0 : 0 ≤ x) (hx : x ≤ 4294967295) (hy0 : 0 ≤ y) (hy : y ≤ 4294967295) : math_bits_Mul64 k x y = some (0, x * y) := by
  have p0 := Int.mul_nonneg hx0 hy0
  have p1 : x * y ≤ 4294967295 * 4294967295 := Int.mul_le_mul hx hy hy0 (by omega)
  unfold math_bits_Mul64
  simp only [shift32, fdiv32]
  rw [show x / 4294967296 = 0 by omega, show y / 4294967296 = 0 by omega, iand_mask hx0 hx, iand_mask hy0 hy]
  rw [wu64 (x := x * y) p0 (by omega)]
  simp only [Int.zero_mul, Int.mul_zero, Int.zero_add]
  rw [wu64 (x := 0) (by omega) (by omega)]
  simp only [Int.zero_add]
  have q0 : 0 ≤ x * y / 4294967296 ∧ x * y / 4294967296 ≤ 4294967295 := by omega
  rw [wu64 (x := x * y / 4294967296) q0.1 (by omega), iand_mask q0.1 q0.2]
  simp only [Int.add_zero, Int.zero_add]
  rw [show x * y / 4294967296 / 4294967296 = 0 by omega, wu64 (x := x * y / 4294967296) q0.1 (by omega), show x * y / 4294967296 / 4294967296 = 0 by omega]
  rfl
theorem Div64_ok {k : Nat} {lo y : Int} (h0 : 0 ≤ lo) (h1 : lo ≤ 18446744073709551615) (hy : 1 ≤ y) : math_bits_Div64 k 0 lo y = some (lo / y, lo % y) := by
  unfold math_bits_Div64
  rw [show (y == 0) = false by rw [beq_int]; simp; omega, cond_false, dec_le_f (by omega), cond_false]
  simp only [beq_self_eq_true, cond_true]
  rw [gnz_some (by omega), gnz_some (by omega), Int.tdiv_eq_ediv_of_nonneg h0, Int.tmod_eq_emod_of_nonneg h0, wu64 (Int.ediv_nonneg h0 (by omega)) (Int.le_trans (Int.ediv_le_self y h0) h1)]
where
  dec_le_f {a b : Int} (h : b < a) : decide (a ≤ b) = false := decide_eq_false (by omega)
theorem Rem64_ok {k : Nat} {lo y : Int} (h0 : 0 ≤ lo) (h1 : lo ≤ 18446744073709551615) (hy : 1 ≤ y) : math_bits_Rem64 k 0 lo y = some (lo % y) := by
  unfold math_bits_Rem64
  rw [gnz_some (by omega), Int.zero_tmod, Div64_ok h0 h1 hy]
  rfl
theorem abs_ok {k : Nat} {n : Int} (h : -9223372036854775807 ≤ n) (h2 : n ≤ 9223372036854775807) : ratio_abs k n = some (n.natAbs : Int) := by
  unfold ratio_abs
  by_cases hn : n < 0
  · rw [decide_eq_true hn, cond_true, w64 (by omega) (by omega), wu64 (by omega) (by omega)]
    congr 1; omega
  · rw [decide_eq_false hn, cond_false, wu64 (by omega) (by omega)]
    congr 1; omega
theorem gcd_emod_ {a b : Int} (ha : 0 ≤ a) (hb : 0 ≤ b) : Int.gcd (a % b) b = Int.gcd a b := by
  obtain ⟨m, rfl⟩ : ∃ n : Nat, a = n := ⟨a.toNat, by omega⟩
  obtain ⟨n, rfl⟩ : ∃ n : Nat, b = n := ⟨b.toNat, by omega⟩
  rw [← Int.natCast_emod]
  show Nat.gcd (m % n) n = Nat.gcd m n
  rw [← Nat.gcd_rec, Nat.gcd_comm]
theorem gcd_ok {k : Nat} {a b : Int} (ha : 0 ≤ a) (hb : 0 ≤ b) (hk : b.toNat < k) : ratio_gcd k a b = some (Int.gcd a b : Int) := by
  apply Ok.eq
  unfold ratio_gcd
  refine Ok.bind (Q := fun r => r = (Int.gcd a b : Int)) (ok_loop (fun s => 0 ≤ s.1 ∧ 0 ≤ s.2 ∧ Int.gcd s.1 s.2 = Int.gcd a b) (fun s => s.2.toNat) ⟨ha, hb, rfl⟩ hk ?_) fun r hr => Ok.ret hr
  intro again s hs hag
  obtain ⟨x, y⟩ := s
  obtain ⟨g1, g2, g3⟩ := hs
  simp only at g1 g2 g3
  simp only [ratio_gcd_b1, uc_mk]
  refine ok_bif (fun hc => ?_) fun hc => ?_
  · have hy : y ≠ 0 := by simpa using hc
    refine ok_nz hy ?_
    rw [Int.tmod_eq_emod_of_nonneg g1]
    have h1 := Int.emod_nonneg x hy
    have h2 := Int.emod_lt_of_pos x (show 0 < y by omega)
    refine hag _ ⟨g2, h1, ?_⟩ (by dsimp only; omega)
    dsimp only
    rw [← g3, Int.gcd_comm y, gcd_emod_ g1 g2]
  · have hy : y = 0 := by simpa using hc
    subst hy
    refine Ok.ret ?_
    rw [← g3]
    simp
    omega
/-- The parts of a fraction in lowest terms. -/
def rnum (n d : Int) : Int := n / (Int.gcd n d : Int)
def rden (n d : Int) : Int := d / (Int.gcd n d : Int)
theorem gcd_pos {n d : Int} (hd : 0 < d) : 0 < (Int.gcd n d : Int) := by
  have := Int.gcd_pos_of_ne_zero_right n (b := d) (by omega)
  omega
theorem rnum_mul {n d : Int} : rnum n d * (Int.gcd n d : Int) = n := Int.ediv_mul_cancel (Int.gcd_dvd_left ..)
theorem rden_mul {n d : Int} : rden n d * (Int.gcd n d : Int) = d := Int.ediv_mul_cancel (Int.gcd_dvd_right ..)
theorem rden_pos {n d : Int} (hd : 0 < d) : 0 < rden n d := by
  have h1 := gcd_pos (n := n) hd
  have h2 := rden_mul (n := n) (d := d)
  refine Int.pos_of_mul_pos_left ?_ h1
  omega
where
  Int.pos_of_mul_pos_left {a b : Int} (h : 0 < a * b) (hb : 0 < b) : 0 < a := by
    rcases Int.lt_or_le 0 a with h' | h'
    · exact h'
    · have := Int.mul_le_mul_of_nonneg_right h' (Int.le_of_lt hb)
      omega
theorem rden_le {n d : Int} (hd : 0 < d) : rden n d ≤ d := Int.ediv_le_self _ (by omega)
theorem rnum_le {n d : Int} (hn : 0 ≤ n) : 0 ≤ rnum n d ∧ rnum n d ≤ n := ⟨Int.ediv_nonneg hn (by omega), Int.ediv_le_self _ hn⟩
theorem rgcd {n d : Int} (hd : 0 < d) : Int.gcd (rnum n d) (rden n d) = 1 := by
  unfold rnum rden
  exact Int.gcd_ediv_gcd_ediv_gcd (by have := gcd_pos (n := n) hd; omega)
theorem rnum_neg {n d : Int} : rnum (-n) d = -rnum n d := by
  unfold rnum
  rw [Int.neg_gcd, Int.neg_ediv_of_dvd (Int.gcd_dvd_left ..)]
/-- The value of a fraction in lowest terms is that of the fraction. -/
theorem rcross {n d : Int} : rnum n d * d = n * rden n d := by
  have h1 := rnum_mul (n := n) (d := d)
  have h2 := rden_mul (n := n) (d := d)
  generalize rnum n d = p at *
  generalize rden n d = q at *
  generalize (Int.gcd n d : Int) = g at *
  rw [← h2, ← h1, Int.mul_assoc, Int.mul_comm g q]
theorem lowest_ok {k : Nat} {s : Bool} {n d : Int} (hn : 0 ≤ n) (hn2 : n ≤ 1152921504606846976) (hd : 1 ≤ d) (hd2 : d ≤ 1152921504606846976) (hk : d.toNat < k) : ratio_lowest k s 0 n d = some (bif s then -rnum n d else rnum n d, rden n d, 0) := by
  unfold ratio_lowest
  have m0 := Int.emod_nonneg n (show d ≠ 0 by omega)
  have m1 := Int.emod_lt_of_pos n (show 0 < d by omega)
  rw [Rem64_ok hn (by omega) hd, Option.bind_some, gcd_ok (by omega) m0 (by omega), Option.bind_some]
  rw [show Int.gcd d (n % d) = Int.gcd n d by rw [Int.gcd_comm, gcd_emod_ hn (by omega)]]
  have hg := gcd_pos (n := n) (d := d) (by omega)
  have hr1 := rnum_le (d := d) hn
  have hr2 := rden_le (n := n) (d := d) (by omega)
  have hr3 := rden_pos (n := n) (d := d) (by omega)
  have e1 : n / (Int.gcd n d : Int) = rnum n d := rfl
  have e2 : d / (Int.gcd n d : Int) = rden n d := rfl
  unfold ratio_wide_over
  rw [gnz_some (by omega), gnz_some (by omega), Int.zero_tmod, Div64_ok hn (by omega) (by omega), Int.zero_tdiv, Int.tdiv_eq_ediv_of_nonneg (by omega), e1, e2]
  simp only [Option.bind_some, uc_mk]
  rw [gnz_some (by omega)]
  simp only [Option.bind_some, uc_mk]
  rw [wu64 (x := 0) (by omega) (by omega), bne_self_eq_false, cond_false, wu64 (x := rden n d) (by omega) (by omega)]
  simp only [Option.bind_some, uc_mk, blet_mk]
  rw [show decide (rnum n d > 1152921504606846976) = false from decide_eq_false (by omega), show decide (rden n d > 1152921504606846976) = false from decide_eq_false (by omega)]
  simp only [Bool.or_false, cond_false]
  rw [w64 (x := rnum n d) (by omega) (by omega), w64 (x := 0 - rnum n d) (by omega) (by omega), w64 (x := rden n d) (by omega) (by omega)]
  cases s
  · simp
  · simp
/-- A fraction in lowest terms of small numbers. -/
def Frac (n d : Int) : Prop := -2147483647 ≤ n ∧ n ≤ 2147483647 ∧ 1 ≤ d ∧ d ≤ 2147483647 ∧ Int.gcd n d = 1
theorem frac_new {n d : Int} (h0 : 0 ≤ n) (h1 : n ≤ 2147483647) (h2 : 1 ≤ d) (h3 : d ≤ 2147483647) : Frac (rnum n d) (rden n d) := by
  have hr1 := rnum_le (d := d) h0
  have hr2 := rden_le (n := n) (d := d) (by omega)
  have hr3 := rden_pos (n := n) (d := d) (by omega)
  exact ⟨by omega, by omega, by omega, by omega, rgcd (by omega)⟩
theorem rValidR_ok {k : Nat} {n d : Int} (h : Frac n d) (hk : d.toNat < k) : ratio_Valid k n d = some true := by
  obtain ⟨h1, h2, h3, h4, h5⟩ := h
  unfold ratio_Valid
  rw [show decide (d ≥ 1) = true from decide_eq_true (by omega), show decide (d ≤ 1152921504606846976) = true from decide_eq_true (by omega), show decide (n ≥ -1152921504606846976) = true from decide_eq_true (by omega), show decide (n ≤ 1152921504606846976) = true from decide_eq_true (by omega)]
  simp only [blet_mk, Bool.and_true, cond_true]
  rw [abs_ok (by omega) (by omega), wu64 (by omega) (by omega), Option.bind_some, gcd_ok (by omega) (by omega) hk, Option.bind_some, Option.bind_some]
  rw [show Int.gcd (n.natAbs : Int) d = Int.gcd n d by simp [Int.gcd], h5]
  rfl
theorem times_ok {k : Nat} {n b : Int} (h1 : -4294967295 ≤ n) (h2 : n ≤ 4294967295) (h3 : 0 ≤ b) (h4 : b ≤ 4294967295) : ratio_times k n b = some (0, (n.natAbs : Int) * b) := by
  unfold ratio_times
  rw [abs_ok (by omega) (by omega), Option.bind_some, Mul64_ok (by omega) (by omega) h3 h4]
  rfl
theorem wcompare_ok {k : Nat} {s t : Bool} {a b : Int} : ratio_wide_compare k s 0 a t 0 b = some (if a < b then -1 else if a = b then 0 else 1) := by
  unfold ratio_wide_compare
  simp only [blet_mk, bne_self_eq_false, Bool.false_and, cond_false, beq_self_eq_true, Bool.true_and, Option.bind_some]
  by_cases h : a < b
  · rw [decide_eq_true h, cond_true, if_pos h]
  · rw [decide_eq_false h, cond_false, if_neg h, beq_int]
    by_cases h' : a = b
    · rw [decide_eq_true h', cond_true, if_pos h']
    · rw [decide_eq_false h', cond_false, if_neg h']
theorem Compare_ok {k : Nat} {a b c d : Int} (h : Frac a b) (h' : Frac c d) (hk : b.toNat < k) (hk' : d.toNat < k) : ratio_Compare k a b c d = some (if a * d < c * b then -1 else if a * d = c * b then 0 else 1) := by
  obtain ⟨h1, h2, h3, h4, h5⟩ := id h
  obtain ⟨g1, g2, g3, g4, g5⟩ := id h'
  unfold ratio_Compare
  rw [rValidR_ok h hk, rValidR_ok h' hk', wu64 (x := b) (by omega) (by omega), wu64 (x := d) (by omega) (by omega), times_ok (by omega) (by omega) (by omega) (by omega), times_ok (by omega) (by omega) (by omega) (by omega)]
  simp only [Option.bind_some, Bool.not_true, cond_false, uc_mk, blet_mk]
  by_cases ha : a < 0
  · have na : ((a.natAbs : Nat) : Int) = -a := by omega
    rw [decide_eq_true ha]
    by_cases hc : c < 0
    · have nc : ((c.natAbs : Nat) : Int) = -c := by omega
      rw [decide_eq_true hc, na, nc, wcompare_ok, Int.neg_mul, Int.neg_mul]
      simp only [Bool.not_true, Bool.and_false, cond_false, cond_true, Option.bind_some]
      congr 1
      split <;> split <;> (first | (split <;> (try split) <;> omega) | omega)
    · have p1 : a * d < 0 := Int.mul_neg_of_neg_of_pos ha (by omega)
      have p2 : 0 ≤ c * b := Int.mul_nonneg (by omega) (by omega)
      rw [decide_eq_false hc, if_pos (by omega)]
      simp
  · have na : ((a.natAbs : Nat) : Int) = a := by omega
    rw [decide_eq_false ha]
    by_cases hc : c < 0
    · have p1 : 0 ≤ a * d := Int.mul_nonneg (by omega) (by omega)
      have p2 : c * b < 0 := Int.mul_neg_of_neg_of_pos hc (by omega)
      rw [decide_eq_true hc, if_neg (by omega), if_neg (by omega)]
      simp
    · have nc : ((c.natAbs : Nat) : Int) = c := by omega
      rw [decide_eq_false hc, na, nc]
      simp [wcompare_ok]
theorem Less_ok {k : Nat} {a b c d : Int} (h : Frac a b) (h' : Frac c d) (hk : b.toNat < k) (hk' : d.toNat < k) : ratio_Less k a b c d = some (decide (a * d < c * b)) := by
  unfold ratio_Less
  rw [Compare_ok h h' hk hk', Option.bind_some]
  by_cases h : a * d < c * b
  · rw [if_pos h, decide_eq_true h]; rfl
  · rw [if_neg h, decide_eq_false h]
    split <;> rfl
/-- A fraction in lowest terms is less than another just as the fractions are. -/
theorem rless {n d m e : Int} (hd : 0 < d) (he : 0 < e) : rnum n d * rden m e < rnum m e * rden n d ↔ n * e < m * d := by
  have c1 := rcross (n := n) (d := d)
  have c2 := rcross (n := m) (d := e)
  have p1 := rden_pos (n := n) hd
  have p2 := rden_pos (n := m) he
  generalize rnum n d = a at *
  generalize rden n d = b at *
  generalize rnum m e = c at *
  generalize rden m e = f at *
  -- a/b = n/d, c/f = m/e
  have hp : 0 < d * e := Int.mul_pos hd he
  have hq : 0 < b * f := Int.mul_pos p1 p2
  have e1 : a * f * (d * e) = n * e * (b * f) := by
    rw [show a * f * (d * e) = (a * d) * (f * e) by ac_rfl, c1]; ac_rfl
  have e2 : c * b * (d * e) = m * d * (b * f) := by
    rw [show c * b * (d * e) = (c * e) * (b * d) by ac_rfl, c2]; ac_rfl
  constructor
  · intro h
    have := Int.mul_lt_mul_of_pos_right h hp
    rw [e1, e2] at this
    exact Int.lt_of_mul_lt_mul_right this (Int.le_of_lt hq)
  · intro h
    have := Int.mul_lt_mul_of_pos_right h hq
    rw [← e1, ← e2] at this
    exact Int.lt_of_mul_lt_mul_right this (Int.le_of_lt hp)
theorem rlessl {n d m e : Int} (hd : 0 < d) : rnum n d * e < m * rden n d ↔ n * e < m * d := by
  have c1 := rcross (n := n) (d := d)
  have p1 := rden_pos (n := n) hd
  generalize rnum n d = a at *
  generalize rden n d = b at *
  have e1 : a * e * d = n * e * b := by rw [show a * e * d = (a * d) * e by ac_rfl, c1]; ac_rfl
  have e2 : m * b * d = m * d * b := by ac_rfl
  constructor
  · intro h
    have := Int.mul_lt_mul_of_pos_right h hd
    rw [e1, e2] at this
    exact Int.lt_of_mul_lt_mul_right this (Int.le_of_lt p1)
  · intro h
    have := Int.mul_lt_mul_of_pos_right h p1
    rw [← e1, ← e2] at this
    exact Int.lt_of_mul_lt_mul_right this (Int.le_of_lt hd)
theorem rlessr {n d m e : Int} (hd : 0 < d) : m * rden n d < rnum n d * e ↔ m * d < n * e := by
  have c1 := rcross (n := n) (d := d)
  have p1 := rden_pos (n := n) hd
  generalize rnum n d = a at *
  generalize rden n d = b at *
  have e1 : a * e * d = n * e * b := by rw [show a * e * d = (a * d) * e by ac_rfl, c1]; ac_rfl
  have e2 : m * b * d = m * d * b := by ac_rfl
  constructor
  · intro h
    have := Int.mul_lt_mul_of_pos_right h hd
    rw [e1, e2] at this
    exact Int.lt_of_mul_lt_mul_right this (Int.le_of_lt p1)
  · intro h
    have := Int.mul_lt_mul_of_pos_right h p1
    rw [← e1, ← e2] at this
    exact Int.lt_of_mul_lt_mul_right this (Int.le_of_lt hd)
theorem rnum_le_rden {n d : Int} (hd : 0 < d) (h : n ≤ d) : rnum n d ≤ rden n d := by
  have := rlessr (n := n) (d := d) (m := 1) (e := 1) hd
  simp only [Int.one_mul, Int.mul_one] at this
  omega
theorem coprime_dvd {a b c : Int} (h : Int.gcd b a = 1) (hd : b ∣ a * c) : b ∣ c := by
  rw [← Int.natAbs_dvd_natAbs] at hd ⊢
  rw [Int.natAbs_mul] at hd
  exact Nat.Coprime.dvd_of_dvd_mul_left (show Nat.Coprime b.natAbs a.natAbs from h) hd
theorem rnum_eq {n d m e : Int} (hd : 0 < d) (he : 0 < e) (h : n * e = m * d) : rnum n d = rnum m e ∧ rden n d = rden m e := by
  -- both are in lowest terms
  have g1 := rgcd (n := n) hd
  have g2 := rgcd (n := m) he
  have p1 := rden_pos (n := n) hd
  have p2 := rden_pos (n := m) he
  have hx : rnum n d * rden m e = rnum m e * rden n d := by
    have a1 := rless (n := n) (m := m) hd he
    have a2 := rless (n := m) (m := n) he hd
    omega
  generalize rnum n d = a at *
  generalize rden n d = b at *
  generalize rnum m e = c at *
  generalize rden m e = f at *
  have hb : b = f := by
    have d1 : b ∣ f := by
      have : b ∣ a * f := ⟨c, by rw [hx, Int.mul_comm]⟩
      exact coprime_dvd (by rw [Int.gcd_comm]; exact g1) this
    have d2 : f ∣ b := by
      have : f ∣ c * b := ⟨a, by rw [← hx, Int.mul_comm]⟩
      exact coprime_dvd (by rw [Int.gcd_comm]; exact g2) this
    exact Int.dvd_antisymm (by omega) (by omega) d1 d2
  subst hb
  exact ⟨Int.eq_of_mul_eq_mul_right (by omega) hx, rfl⟩
end Go.VM
namespace Go.VM
set_option linter.unusedVariables false
set_option linter.unusedSimpArgs false

theorem New_ok {k : Nat} {n d : Int} (hn : -1152921504606846976 ≤ n) (hn2 : n ≤ 1152921504606846976) (hd : 1 ≤ d) (hd2 : d ≤ 1152921504606846976) (hk : d.toNat < k) : ratio_New k n d = some (rnum n d, rden n d, 0) := by
  unfold ratio_New
  rw [show (d == 0) = false by rw [beq_int]; simp; omega, cond_false, abs_ok (by omega) (by omega), abs_ok (by omega) (by omega), Option.bind_some, Option.bind_some]
  rw [show ((d.natAbs : Nat) : Int) = d by omega, lowest_ok (by omega) (by omega) hd hd2 hk]
  rw [show decide (d < 0) = false from decide_eq_false (by omega)]
  simp only [Option.bind_some, uc_mk]
  by_cases h : n < 0
  · rw [decide_eq_true h, show ((n.natAbs : Nat) : Int) = -n by omega, rnum_neg]
    simp [rden, Int.neg_gcd]
  · rw [decide_eq_false h, show ((n.natAbs : Nat) : Int) = n by omega]
    simp
end Go.VM
namespace Go.VM
set_option linter.unusedVariables false
set_option linter.unusedSimpArgs false

theorem check_ok {k : Nat} {d : List Int} (h : Few d) (hk : 50 < k) : distribution_check k d = some (if d.sum = 0 then 10 else 0) := by
  unfold distribution_check
  rw [Valid_ok h hk, Count_ok h hk]
  simp only [Option.bind_some, Bool.not_true, cond_false, beq_int]
  by_cases h0 : d.sum = 0
  · rw [decide_eq_true h0, cond_true, if_pos h0]
  · rw [decide_eq_false h0, cond_false, if_neg h0]

/-! ### points and means -/
/-- The sum of all scores, when the first count is that of the score i. -/
def pts : List Int → Int → Int
  | [], _ => 0
  | x :: d, i => i * x + pts d (i + 1)
theorem pts_append (a b : List Int) (i : Int) : pts (a ++ b) i = pts a i + pts b (i + a.length) := by
  induction a generalizing i with
  | nil => simp [pts]
  | cons x a ih =>
    simp only [List.cons_append, pts, ih, List.length_cons]
    rw [show i + 1 + (a.length : Int) = i + ((a.length + 1 : Nat) : Int) by omega]
    omega
theorem pts_snoc (a : List Int) (x : Int) : pts (a ++ [x]) 0 = pts a 0 + a.length * x := by
  rw [pts_append]; simp [pts]
theorem pts_bound {d : List Int} (h : ∀ x ∈ d, 0 ≤ x ∧ x ≤ 1000) {i : Int} (h0 : 0 ≤ i) {m : Int} (hm : i + d.length ≤ m) : 0 ≤ pts d i ∧ pts d i ≤ m * 1000 * d.length := by
  induction d generalizing i with
  | nil => simp [pts]
  | cons x d ih =>
    have hx := h x (by simp)
    have := ih (fun y hy => h y (by simp [hy])) (i := i + 1) (by omega) (by simp at hm; omega)
    simp only [pts, List.length_cons] at hm ⊢
    have p0 := Int.mul_nonneg h0 hx.1
    have p1 : i * x ≤ m * 1000 := Int.mul_le_mul (by omega) hx.2 hx.1 (by omega)
    rw [show ((d.length + 1 : Nat) : Int) = (d.length : Int) + 1 by omega, Int.mul_add]
    omega
theorem Few.pts {d : List Int} (h : Few d) : 0 ≤ pts d 0 ∧ Go.VM.pts d 0 ≤ 1600000 := by
  have := pts_bound h.2.2 (i := 0) (by omega) (m := 40) (by have := h.2.1; omega)
  have := h.2.1
  omega
theorem points_ok {k : Nat} {d : List Int} (h : Few d) (hk : 50 < k) : distribution_points k d = some (pts d 0) := by
  apply Ok.eq
  have hl := h.2.1
  unfold distribution_points
  refine Ok.bind (Q := fun r => r = pts d 0) (ok_range d (fun s => s.2) (fun pre s => s.1 = pts pre 0) (by omega) rfl rfl (by omega) ?_ ?_) fun r hr => Ok.ret hr
  · intro again s pre e post hl' hi hlt hw hinv hag
    obtain ⟨n, i⟩ := s
    simp only at hi hlt hw hinv
    simp only [distribution_points_b1, uc_mk]
    rw [dec_lt hlt, cond_true, gidx_mid hl' hi, hw]
    have he := h.2.2 e (by rw [hl']; simp)
    have hpl : pre.length ≤ 40 := by rw [hl'] at hl; simp at hl; omega
    have h2 := pts_bound (d := pre) (fun x hx => h.2.2 x (by rw [hl']; simp [hx])) (i := 0) (by omega) (m := 40) (by omega)
    have p0 : 0 ≤ i * e := Int.mul_nonneg (by omega) he.1
    have p1 : i * e ≤ 40 * 1000 := Int.mul_le_mul (by omega) he.2 he.1 (by omega)
    rw [w64 (x := i * e) (by omega) (by omega), w64 (x := n + i * e) (by omega) (by omega)]
    exact hag _ rfl (by dsimp only; rw [pts_snoc, hinv, ← hi])
  · intro again s hi hinv
    obtain ⟨n, i⟩ := s
    simp only at hi hinv
    simp only [distribution_points_b1, uc_mk]
    rw [dec_nlt (by omega), cond_false]
    exact Ok.ret hinv
theorem Mean_no {k : Nat} {d : List Int} (h : Few d) (hk : 50 < k) (h0 : d.sum = 0) : distribution_Mean k d = some (0, 0, 10) := by
  unfold distribution_Mean
  rw [check_ok h hk, if_pos h0]
  rfl
theorem Mean_ok {k : Nat} {d : List Int} (h : Few d) (hk : 100000 < k) (h0 : d.sum ≠ 0) : distribution_Mean k d = some (rnum (pts d 0) d.sum, rden (pts d 0) d.sum, 0) := by
  have h1 := h.pts
  have h2 := h.sum
  unfold distribution_Mean
  rw [check_ok h (by omega), if_neg h0, points_ok h (by omega), Count_ok h (by omega), Option.bind_some, Option.bind_some, Option.bind_some, New_ok (by omega) (by omega) (by omega) (by omega) (by omega)]
  rfl
theorem mean_frac {d : List Int} (h : Few d) (h0 : d.sum ≠ 0) : Frac (rnum (pts d 0) d.sum) (rden (pts d 0) d.sum) := by
  have h1 := h.pts
  have h2 := h.sum
  exact frac_new (by omega) (by omega) (by omega) (by omega)
theorem mean_fuel {d : List Int} (h : Few d) (h0 : d.sum ≠ 0) {k : Nat} (hk : 100000 < k) : (rden (pts d 0) d.sum).toNat < k := by
  have h2 := h.sum
  have := rden_le (n := pts d 0) (d := d.sum) (by omega)
  omega

end Go.VM
namespace Go.VM
set_option linter.unusedVariables false
set_option linter.unusedSimpArgs false

theorem Size_ok {k : Nat} {n : Int} (h : -9223372036854775807 ≤ n) (h2 : n ≤ 9223372036854775807) : ref01_Size k n = some (n.natAbs : Int) := by
  unfold ref01_Size
  by_cases hn : n < 0
  · rw [decide_eq_true hn, cond_true, w64 (x := n + 1) (by omega) (by omega), w64 (x := 0 - (n + 1)) (by omega) (by omega), wu64 (x := 0 - (n + 1)) (by omega) (by omega), wu64 (by omega) (by omega)]
    congr 1; omega
  · rw [decide_eq_false hn, cond_false, wu64 (by omega) (by omega)]
    congr 1; omega
theorem Divide_ok {k : Nat} {a b : Int} (h0 : 0 ≤ a) (h1 : a ≤ 18446744073709551615) (hb : 1 ≤ b) : ref01_Divide k 0 a 0 b = some (0, a / b, 0, a % b) := by
  unfold ref01_Divide
  simp only [blet_mk, beq_self_eq_true, Bool.and_true, cond_true]
  rw [gnz_some (by omega), gnz_some (by omega), Int.tdiv_eq_ediv_of_nonneg h0, Int.tmod_eq_emod_of_nonneg h0, wu64 (Int.ediv_nonneg h0 (by omega)) (Int.le_trans (Int.ediv_le_self b h0) h1)]
theorem Divisor_ok {k : Nat} {a b : Int} (ha : 0 ≤ a) (ha2 : a ≤ 18446744073709551615) (hb : 0 ≤ b) (hb2 : b ≤ 18446744073709551615) (hk : b.toNat < k) : ref01_Divisor k 0 a 0 b = some (0, (Int.gcd a b : Int)) := by
  apply Ok.eq
  unfold ref01_Divisor
  refine Ok.bind (Q := fun r => r = (0, (Int.gcd a b : Int))) (ok_loop (fun s => s.1 = 0 ∧ 0 ≤ s.2.1 ∧ s.2.1 ≤ 18446744073709551615 ∧ s.2.2.1 = 0 ∧ 0 ≤ s.2.2.2 ∧ s.2.2.2 ≤ 18446744073709551615 ∧ Int.gcd s.2.1 s.2.2.2 = Int.gcd a b) (fun s => s.2.2.2.toNat) ⟨rfl, ha, ha2, rfl, hb, hb2, rfl⟩ hk ?_) fun r hr => by subst hr; exact Ok.ret rfl
  intro again s hs hag
  obtain ⟨u, x, v, y⟩ := s
  obtain ⟨e1, g1, g2, e2, g3, g4, g5⟩ := hs
  simp only at e1 g1 g2 e2 g3 g4 g5
  subst e1 e2
  simp only [ref01_Divisor_b1, uc_mk, beq_self_eq_true, Bool.true_and, Bool.and_true]
  refine ok_bif (fun hc => ?_) fun hc => ?_
  · have hy : y ≠ 0 := by simpa using hc
    rw [Divide_ok g1 g2 (by omega), Option.bind_some]
    have h1 := Int.emod_nonneg x hy
    have h2 := Int.emod_lt_of_pos x (show 0 < y by omega)
    simp only [uc_mk]
    refine hag _ ⟨rfl, g3, g4, rfl, h1, by dsimp only; omega, ?_⟩ (by dsimp only; omega)
    dsimp only
    rw [← g5, Int.gcd_comm y, gcd_emod_ g1 g3]
  · have hy : y = 0 := by simpa using hc
    subst hy
    refine Ok.ret ?_
    rw [← g5]
    congr 1
    simp
    omega
end Go.VM
namespace Go.VM
set_option linter.unusedVariables false
set_option linter.unusedSimpArgs false

theorem rValid01_ok {k : Nat} {n d : Int} (h : Frac n d) (hk : d.toNat < k) : ref01_Valid k n d = some true := by
  obtain ⟨h1, h2, h3, h4, h5⟩ := h
  unfold ref01_Valid
  rw [show decide (d < 1) = false from decide_eq_false (by omega), show decide (d > 1152921504606846976) = false from decide_eq_false (by omega), show decide (n < -1152921504606846976) = false from decide_eq_false (by omega), show decide (n > 1152921504606846976) = false from decide_eq_false (by omega)]
  simp only [blet_mk, Bool.or_false, cond_false]
  rw [Size_ok (by omega) (by omega), Size_ok (by omega) (by omega), Option.bind_some, Option.bind_some, Divisor_ok (by omega) (by omega) (by omega) (by omega) (by omega), Option.bind_some, uc_mk]
  rw [show Int.gcd (n.natAbs : Int) (d.natAbs : Int) = Int.gcd n d by simp [Int.gcd], h5]
  rfl
theorem Product_ok {k : Nat} {x y : Int} (hx0 : 0 ≤ x) (hx : x ≤ 4294967295) (hy0 : 0 ≤ y) (hy : y ≤ 4294967295) : ref01_Product k x y = some (0, x * y) := by
  unfold ref01_Product
  rw [Mul64_ok hx0 hx hy0 hy]
  rfl
theorem Order_ok {k : Nat} {a b : Int} : ref01_Order k 0 a 0 b = some (if a < b then -1 else if a = b then 0 else 1) := by
  unfold ref01_Order
  simp only [blet_mk, beq_self_eq_true, Bool.true_and, Bool.and_true]
  rw [show decide ((0 : Int) < 0) = false from rfl, cond_false, Option.bind_some]
  by_cases h : a < b
  · rw [decide_eq_true h, cond_true, if_pos h]
  · rw [decide_eq_false h, cond_false, if_neg h, beq_int]
    by_cases h' : a = b
    · rw [decide_eq_true h', cond_true, if_pos h']
    · rw [decide_eq_false h', cond_false, if_neg h']
/-- The difference of two signed magnitudes. -/
theorem total_ok {k : Nat} {x y : Bool} {a b : Int} (ha : 0 ≤ a) (ha2 : a ≤ 9223372036854775807) (hb : 0 ≤ b) (hb2 : b ≤ 9223372036854775807) :
    ref01_total k x 0 a y 0 b = some (if x = y then (x, 0, a + b) else if b ≤ a then (x, 0, a - b) else (y, 0, b - a)) := by
  unfold ref01_total
  by_cases hxy : x = y
  · subst hxy
    rw [if_pos rfl]
    unfold ref01_Plus
    rw [gcarry_some ha hb (by omega) (by omega), gcarry_some (by omega) (by omega) (by omega) (by omega)]
    simp only [beq_self_eq_true, cond_true, Option.bind_some, u0_mk]
    congr 2
    congr 1 <;> omega
  · rw [if_neg hxy, show (x == y) = false by simpa using hxy, cond_false, Order_ok, Option.bind_some]
    unfold ref01_Minus
    by_cases h : b ≤ a
    · rw [if_neg (show ¬a < b by omega), if_pos h]
      have : decide ((if a = b then (0 : Int) else 1) ≥ 0) = true := by split <;> rfl
      rw [this, cond_true, if_neg (show ¬a < b + 0 by omega), gcarry_some ha hb (by omega) (by omega), gle_some (by omega), gcarry_some (by omega) (by omega) (by omega) (by omega), gle_some (by omega)]
      simp only [Option.bind_some, u0_mk]
      congr 2
      congr 1; omega
    · rw [if_pos (show a < b by omega), if_neg h]
      rw [show decide ((-1 : Int) ≥ 0) = false from rfl, cond_false, if_neg (show ¬b < a + 0 by omega), gcarry_some hb ha (by omega) (by omega), gle_some (by omega), gcarry_some (by omega) (by omega) (by omega) (by omega), gle_some (by omega)]
      simp only [Option.bind_some, u0_mk]
      congr 2
      congr 1; omega
end Go.VM
namespace Go.VM
set_option linter.unusedVariables false
set_option linter.unusedSimpArgs false

theorem rCompare_ok {k : Nat} {a b c d : Int} (h : Frac a b) (h' : Frac c d) (hk : b.toNat < k) (hk' : d.toNat < k) : ref01_Compare k a b c d = some (if a * d < c * b then -1 else if a * d = c * b then 0 else 1) := by
  obtain ⟨h1, h2, h3, h4, h5⟩ := id h
  obtain ⟨g1, g2, g3, g4, g5⟩ := id h'
  unfold ref01_Compare
  rw [rValid01_ok h hk, rValid01_ok h' hk', Size_ok (n := a) (by omega) (by omega), Size_ok (n := b) (by omega) (by omega), Size_ok (n := c) (by omega) (by omega), Size_ok (n := d) (by omega) (by omega)]
  simp only [Option.bind_some, Bool.not_true, cond_false]
  rw [Product_ok (by omega) (by omega) (by omega) (by omega), Product_ok (by omega) (by omega) (by omega) (by omega)]
  simp only [Option.bind_some, uc_mk]
  have hd : ((d.natAbs : Nat) : Int) = d := by omega
  have hb : ((b.natAbs : Nat) : Int) = b := by omega
  rw [hd, hb]
  have p0 := Int.mul_nonneg (show (0 : Int) ≤ a.natAbs by omega) (show 0 ≤ d by omega)
  have p1 : (a.natAbs : Int) * d ≤ 2147483647 * 2147483647 := Int.mul_le_mul (by omega) g4 (by omega) (by omega)
  have q0 := Int.mul_nonneg (show (0 : Int) ≤ c.natAbs by omega) (show 0 ≤ b by omega)
  have q1 : (c.natAbs : Int) * b ≤ 2147483647 * 2147483647 := Int.mul_le_mul (by omega) h4 (by omega) (by omega)
  rw [total_ok p0 (by omega) q0 (by omega), Option.bind_some]
  have ea : a < 0 ∧ a * d = -((a.natAbs : Int) * d) ∨ 0 ≤ a ∧ a * d = (a.natAbs : Int) * d := by
    by_cases ha : a < 0
    · left; exact ⟨ha, by rw [show ((a.natAbs : Nat) : Int) = -a by omega, Int.neg_mul]; omega⟩
    · right; exact ⟨by omega, by rw [show ((a.natAbs : Nat) : Int) = a by omega]⟩
  have ec : c ≤ 0 ∧ c * b = -((c.natAbs : Int) * b) ∨ 0 < c ∧ c * b = (c.natAbs : Int) * b := by
    by_cases hc : c ≤ 0
    · left; exact ⟨hc, by rw [show ((c.natAbs : Nat) : Int) = -c by omega, Int.neg_mul]; omega⟩
    · right; exact ⟨by omega, by rw [show ((c.natAbs : Nat) : Int) = c by omega]⟩
  have ep : a < 0 → 0 < (a.natAbs : Int) * d := fun h => Int.mul_pos (by omega) (by omega)
  have eq : 0 < c → 0 < (c.natAbs : Int) * b := fun h => Int.mul_pos (by omega) (by omega)
  have finT : ∀ (n r : Int), (n = 0 ∧ r = 0 ∨ n ≠ 0 ∧ r = -1) → (uc (fun r111 => uc fun r122 r134 => bif r122 == 0 && (r134 == 0 && true) then some (0 : Int) else bif r111 then some (-1) else some 1) (true, (0 : Int), n)) = some r := fun n r hr => by
    simp only [uc_mk, beq_self_eq_true, Bool.true_and, Bool.and_true, beq_int]
    rcases hr with ⟨h, rfl⟩ | ⟨h, rfl⟩ <;> simp [h]
  have finF : ∀ (n r : Int), (n = 0 ∧ r = 0 ∨ n ≠ 0 ∧ r = 1) → (uc (fun r111 => uc fun r122 r134 => bif r122 == 0 && (r134 == 0 && true) then some (0 : Int) else bif r111 then some (-1) else some 1) (false, (0 : Int), n)) = some r := fun n r hr => by
    simp only [uc_mk, beq_self_eq_true, Bool.true_and, Bool.and_true, beq_int]
    rcases hr with ⟨h, rfl⟩ | ⟨h, rfl⟩ <;> simp [h]
  rcases ea with ⟨a1, a2⟩ | ⟨a1, a2⟩ <;> rcases ec with ⟨c1, c2⟩ | ⟨c1, c2⟩
  · rw [decide_eq_true a1, show decide (c > 0) = false from decide_eq_false (by omega), if_neg (by simp)]
    split
    · refine finT _ _ ?_
      split <;> (try split) <;> omega
    · refine finF _ _ ?_
      split <;> (try split) <;> omega
  · rw [decide_eq_true a1, show decide (c > 0) = true from decide_eq_true (by omega), if_pos rfl]
    refine finT _ _ ?_
    have := ep a1
    split <;> (try split) <;> omega
  · rw [decide_eq_false (show ¬a < 0 by omega), show decide (c > 0) = false from decide_eq_false (by omega), if_pos rfl]
    refine finF _ _ ?_
    split <;> (try split) <;> omega
  · rw [decide_eq_false (show ¬a < 0 by omega), show decide (c > 0) = true from decide_eq_true (by omega), if_neg (by simp)]
    split
    · refine finF _ _ ?_
      split <;> (try split) <;> omega
    · refine finT _ _ ?_
      split <;> (try split) <;> omega
theorem rLess_ok {k : Nat} {a b c d : Int} (h : Frac a b) (h' : Frac c d) (hk : b.toNat < k) (hk' : d.toNat < k) : ref01_Less k a b c d = some (decide (a * d < c * b)) := by
  unfold ref01_Less
  rw [rCompare_ok h h' hk hk', Option.bind_some]
  by_cases h : a * d < c * b
  · rw [if_pos h, decide_eq_true h]; rfl
  · rw [if_neg h, decide_eq_false h]
    split <;> rfl
end Go.VM
namespace Go.VM
set_option linter.unusedVariables false
set_option linter.unusedSimpArgs false
/-- One distribution is the sum of two. -/
structure Adds (c a b : List Int) : Prop where
  len : c.length = max a.length b.length
  get : ∀ i : Nat, c.getD i 0 = a.getD i 0 + b.getD i 0
theorem getD_set (l : List Int) (i j : Nat) (v : Int) (h : i < l.length) : (l.set i v).getD j 0 = if i = j then v else l.getD j 0 := by
  by_cases hij : i = j
  · subst hij; simp [List.getD, h]
  · simp [List.getD, hij]
theorem getD_snoc (l : List Int) (e : Int) (j : Nat) : (l ++ [e]).getD j 0 = l.getD j 0 + if l.length = j then e else 0 := by
  rcases Nat.lt_trichotomy j l.length with h | h | h
  · rw [if_neg (by omega)]; simp [List.getD, List.getElem?_append_left h]
  · subst h; simp [List.getD]
  · rw [if_neg (by omega)]
    simp [List.getD, List.getElem?_eq_none (show l.length ≤ j by omega), List.getElem?_eq_none (show (l ++ [e]).length ≤ j by simp; omega)]
theorem addIn_ok {k : Nat} {z xs : List Int} (hz : Few z) (hx : z.length ≤ xs.length) (hb : ∀ i : Nat, 0 ≤ xs.getD i 0 ∧ xs.getD i 0 ≤ 1000) (hk : 50 < k) : Ok (gloop (distribution_Add_b2 k ⟨z⟩) k (0, xs)) (fun r => r.length = xs.length ∧ ∀ i : Nat, r.getD i 0 = xs.getD i 0 + z.getD i 0) := by
  have hl := hz.2.1
  refine ok_range z (fun s => s.1) (fun pre s => s.2.length = xs.length ∧ ∀ i : Nat, s.2.getD i 0 = xs.getD i 0 + pre.getD i 0) (by omega) rfl ⟨rfl, fun i => by simp⟩ (by omega) ?_ ?_
  · intro again s pre e post hl' hi hlt hw hinv hag
    obtain ⟨i, ys⟩ := s
    obtain ⟨g1, g2⟩ := hinv
    simp only at hi hlt hw g1 g2
    simp only [distribution_Add_b2, uc_mk]
    rw [dec_lt hlt, cond_true, gidx_mid hl' hi, hw]
    have he := hz.2.2 e (by rw [hl']; simp)
    refine ok_idx (by omega) (by omega) fun hii => ok_let ?_
    have hyi := g2 i.toNat
    rw [getD_of hii] at hyi
    have hpe : pre.getD i.toNat 0 = 0 := by simp [List.getD, List.getElem?_eq_none (show pre.length ≤ i.toNat by omega)]
    have hxb := hb i.toNat
    rw [w64 (x := ys[i.toNat] + e) (by omega) (by omega)]
    refine hag _ rfl ⟨by simpa using g1, fun j => ?_⟩
    dsimp only
    rw [getD_set _ _ _ _ hii, getD_snoc, g2 j]
    by_cases hij : i.toNat = j
    · rw [if_pos hij, if_pos (by omega), ← hij]; omega
    · rw [if_neg hij, if_neg (by omega)]; omega
  · intro again s hi hinv
    obtain ⟨i, ys⟩ := s
    obtain ⟨g1, g2⟩ := hinv
    simp only at hi g1 g2
    simp only [distribution_Add_b2, uc_mk]
    rw [dec_nlt (by omega), cond_false]
    exact Ok.ret ⟨g1, g2⟩
theorem few_getD {d : List Int} {c : Int} (h : ∀ x ∈ d, 0 ≤ x ∧ x ≤ c) (hc : 0 ≤ c) (i : Nat) : 0 ≤ d.getD i 0 ∧ d.getD i 0 ≤ c := by
  by_cases hi : i < d.length
  · rw [getD_of hi]; exact h _ (List.getElem_mem hi)
  · simp [List.getD, hi]; exact hc
theorem Add_ok {k : Nat} {a b : List Int} (ha : Few a) (hb : Few b) (ha5 : ∀ x ∈ a, 0 ≤ x ∧ x ≤ 500) (hb5 : ∀ x ∈ b, 0 ≤ x ∧ x ≤ 500) (hk : 50 < k) : Ok (distribution_Add k a b) (fun r => r.2 = 0 ∧ Adds r.1 a b ∧ Few r.1) := by
  have a1 := ha.2.1
  have b1 := hb.2.1
  have a0 := ha.1
  have b0 := hb.1
  have a2 := ha.sum
  have b2 := hb.sum
  unfold distribution_Add
  rw [Valid_ok ha hk, Valid_ok hb hk, Count_ok ha hk, Count_ok hb hk]
  simp only [Option.bind_some, Bool.not_true, cond_false, gmax_def]
  rw [w64 (x := a.sum + b.sum) (by omega) (by omega), show decide (a.sum + b.sum > 1048576) = false from decide_eq_false (by omega), cond_false]
  refine ok_make (by omega) (by omega) (ok_let ?_)
  rw [show (max (b.length : Int) a.length).toNat = max a.length b.length by omega]
  refine Ok.bind (Q := fun r => Adds r a b ∧ Few r) (ok_range ([⟨a⟩, ⟨b⟩] : List SDistribution) (fun s => s.1) (fun pre s => s.2.length = max a.length b.length ∧ (pre = [] → ∀ i : Nat, s.2.getD i 0 = 0) ∧ (pre = [⟨a⟩] → ∀ i : Nat, s.2.getD i 0 = a.getD i 0) ∧ (pre = [⟨a⟩, ⟨b⟩] → ∀ i : Nat, s.2.getD i 0 = a.getD i 0 + b.getD i 0)) (by simp) rfl ⟨by simp, fun _ i => ?_, fun h => by simp at h, fun h => by simp at h⟩ (by simp; omega) ?_ ?_) fun r hr => Ok.ret ⟨rfl, hr⟩
  · simp only [List.getD, List.getElem?_replicate]
    split <;> rfl
  · intro again s pre e post hl' hi hlt hw hinv hag
    obtain ⟨i, ys⟩ := s
    obtain ⟨g1, g2, g3, g4⟩ := hinv
    simp only at hi hlt hw g1 g2 g3 g4
    simp only [distribution_Add_b1, uc_mk]
    rw [dec_lt hlt, cond_true, gidx_mid hl' hi, hw]
    rcases pre with _ | ⟨p, _ | ⟨q, pre⟩⟩
    · simp only [List.nil_append, List.cons.injEq] at hl'
      obtain ⟨rfl, hl'⟩ := hl'
      have z0 := g2 rfl
      refine Ok.bind (addIn_ok ha (by omega) (fun i => by rw [z0 i]; omega) hk) fun r hr => hag _ rfl ⟨by dsimp only; omega, fun h => by simp at h, fun _ i => ?_, fun h => by simp at h⟩
      dsimp only
      rw [hr.2, z0]; omega
    · simp only [List.cons_append, List.nil_append, List.cons.injEq] at hl'
      obtain ⟨rfl, rfl, hl'⟩ := hl'
      have z0 := g3 rfl
      refine Ok.bind (addIn_ok hb (by omega) (fun i => by rw [z0 i]; exact few_getD ha.2.2 (by omega) i) hk) fun r hr => hag _ rfl ⟨by dsimp only; omega, fun h => by simp at h, fun h => by simp at h, fun _ i => ?_⟩
      dsimp only
      rw [hr.2, z0]
    · have := congrArg List.length hl'
      simp at this
  · intro again s hi hinv
    obtain ⟨i, ys⟩ := s
    obtain ⟨g1, g2, g3, g4⟩ := hinv
    simp only at hi g1 g2 g3 g4
    simp only [distribution_Add_b1, uc_mk]
    rw [dec_nlt (by omega), cond_false]
    refine Ok.ret ⟨⟨g1, g4 trivial⟩, by omega, by omega, fun x hx => ?_⟩
    obtain ⟨i, hi⟩ := List.getElem?_of_mem hx
    have e1 := g4 trivial i
    have e2 : ys.getD i 0 = x := by simp [List.getD, hi]
    have e3 := few_getD ha5 (by omega) i
    have e4 := few_getD hb5 (by omega) i
    omega

theorem repeat_step {n m : Nat} {rest : List Int} (h1 : 1 ≤ m) (hm : m < n) (hl : m + rest.length = n) :
    ∃ rest', gcopy (List.replicate m (1 : Int) ++ rest) (List.take m (List.drop 0 (List.replicate m 1 ++ rest))) (0 + m) (n - m) = List.replicate (m + min m (n - m)) 1 ++ rest' ∧ m + min m (n - m) + rest'.length = n := by
  have e0 : List.take m (List.drop 0 (List.replicate m (1 : Int) ++ rest)) = List.replicate m 1 := by
    rw [List.drop_zero, List.take_append_of_le_length (by simp), List.take_of_length_le (by simp)]
  have e1 : Nat.min (List.replicate m (1 : Int)).length (n - m) = min m (n - m) := by rw [List.length_replicate]
  rw [e0, gcopy_eq (by simp; omega), e1]
  refine ⟨List.drop (min m (n - m)) rest, ?_, by simp; omega⟩
  rw [Nat.zero_add, List.take_append_of_le_length (by simp), List.take_of_length_le (by simp), List.take_replicate, Nat.min_eq_left (Nat.min_le_left _ _), List.replicate_append_replicate]
  congr 1
  rw [List.drop_append, List.drop_of_length_le (by simp), List.length_replicate, List.nil_append]
  congr 1
  omega
theorem Repeat_ok {k : Nat} {n : Nat} (h1 : 1 ≤ n) (h2 : n ≤ 40) (hk : 50 < k) : slices_Repeat_int k (n : Int) ([1] : List Int) = some (List.replicate n 1) := by
  unfold slices_Repeat_int math_bits_Mul
  rw [dec_nlt (by omega), cond_false, wu64 (x := (([1] : List Int).length : Int)) (by simp) (by simp), wu64 (x := (n : Int)) (by omega) (by omega), Mul64_ok (by simp) (by simp) (by omega) (by omega)]
  simp only [Option.bind_some, uc_mk, blet_mk]
  rw [show ((([1] : List Int).length : Int) * (n : Int)) = (n : Int) by simp]
  have e : ((decide ((0 : Int) > 0)) || (decide ((n : Int) > 9223372036854775807))) = false := by
    rw [Bool.or_eq_false_iff]; exact ⟨rfl, decide_eq_false (by omega)⟩
  rw [e, cond_false, w64 (x := (n : Int)) (by omega) (by omega)]
  refine eq_of_ok (ok_make (by omega) (by simp; omega) ?_)
  rw [Int.toNat_natCast]
  have hc : gcopy (List.replicate n (0 : Int)) [1] 0 (List.replicate n (0 : Int)).length = List.replicate 1 1 ++ List.replicate (n - 1) 0 := by
    rw [gcopy_eq (by simp)]
    have : Nat.min ([1] : List Int).length (List.replicate n (0 : Int)).length = 1 := by
      rw [List.length_replicate]; show min 1 n = 1; omega
    rw [this]
    simp
  have hm : ((Nat.min ([1] : List Int).length (List.replicate n (0 : Int)).length : Nat) : Int) = 1 := by
    rw [List.length_replicate]; show ((min 1 n : Nat) : Int) = 1; omega
  rw [hc, hm]
  refine Ok.bind (Q := fun r => r = List.replicate n 1) (ok_loop (fun s => ∃ (m : Nat) (rest : List Int), s.1 = m ∧ 1 ≤ m ∧ s.2 = List.replicate m 1 ++ rest ∧ m + rest.length = n) (fun s => n - s.1.toNat) ⟨1, List.replicate (n - 1) 0, rfl, by omega, rfl, by simp; omega⟩ (by dsimp only; omega) ?_) fun r hr => Ok.ret hr
  intro again s hs hag
  obtain ⟨i, xs⟩ := s
  obtain ⟨m, rest, g1, g2, g3, g4⟩ := hs
  simp only at g1 g2 g3 g4
  subst g1
  have hxl : xs.length = n := by rw [g3]; simp; omega
  simp only [slices_Repeat_int_b1, uc_mk]
  rw [hxl]
  refine ok_bif (fun hc => ?_) fun hc => ?_
  · have hc' := of_decide_eq_true hc
    have hmn : m < n := by omega
    refine ok_cut (by omega) (by omega) (by omega) (ok_cut (by omega) (by omega) (by omega) (ok_let ?_))
    rw [Int.toNat_natCast]
    obtain ⟨rest', h1, h2⟩ := repeat_step g2 hmn g4
    have hl : ((Nat.min (List.take m (List.drop 0 xs)).length (n - m) : Nat) : Int) = ((min m (n - m) : Nat) : Int) := by
      rw [List.drop_zero, List.length_take, hxl, Nat.min_eq_left (by omega)]
    rw [hl, w64 (x := (m : Int) + ((min m (n - m) : Nat) : Int)) (by omega) (by omega)]
    refine hag _ ⟨m + min m (n - m), rest', by dsimp only; omega, by omega, by dsimp only; rw [g3]; exact h1, h2⟩ (by dsimp only; omega)
  · have hc' := of_decide_eq_false hc
    obtain rfl : rest = [] := List.eq_nil_of_length_eq_zero (by omega)
    refine Ok.ret ?_
    simp only [List.length_nil, Nat.add_zero] at g4
    rw [g3, List.append_nil, g4]
theorem few_ones {n : Nat} (h1 : 1 ≤ n) (h2 : n ≤ 40) : Few (List.replicate n (1 : Int)) := ⟨by simpa using h1, by simpa using h2, fun x hx => by
  rw [List.mem_replicate] at hx; omega⟩
theorem Smooth_ok {k : Nat} {d : List Int} (hd : Few d) (hd5 : ∀ x ∈ d, 0 ≤ x ∧ x ≤ 500) (hk : 50 < k) : distribution_Smooth k d = some (d.map (· + 1), 0) ∧ Few (d.map (· + 1)) := by
  have h1 := hd.1
  have h2 := hd.2.1
  obtain ⟨⟨c, e⟩, e1, e2, hA, hF⟩ := Add_ok hd (few_ones h1 h2) hd5 (fun x hx => by rw [List.mem_replicate] at hx; omega) hk
  simp only at e2 hA hF
  subst e2
  have hc : c = d.map (· + 1) := by
    have hl : c.length = d.length := by rw [hA.len]; simp
    apply List.ext_getElem?
    intro i
    by_cases hi : i < d.length
    · have := hA.get i
      simp only [List.getD, List.getElem?_eq_getElem hi, List.getElem?_eq_getElem (show i < c.length by omega), Option.getD_some, List.getElem?_replicate, if_pos hi] at this
      simp [hi, show i < c.length by omega, this]
    · rw [List.getElem?_eq_none (by omega), List.getElem?_eq_none (by simp; omega)]
  refine ⟨?_, hc ▸ hF⟩
  unfold distribution_Smooth
  rw [Valid_ok hd hk]
  simp only [Option.bind_some, Bool.not_true, cond_false]
  rw [Repeat_ok h1 h2 hk, Option.bind_some, e1, hc]
  rfl
theorem sum_up (d : List Int) : (d.map (· + 1)).sum = d.sum + d.length := by
  induction d with
  | nil => rfl
  | cons x d ih => simp only [List.map_cons, List.sum_cons, ih, List.length_cons]; omega
theorem pts_up (d : List Int) : ∀ i : Int, 2 * pts (d.map (· + 1)) i = 2 * pts d i + d.length * (2 * i + d.length - 1) := by
  induction d with
  | nil => intro i; simp [pts]
  | cons x d ih =>
    intro i
    have := ih (i + 1)
    simp only [List.map_cons, pts, List.length_cons]
    grind
theorem pts_zero {d : List Int} (h : ∀ x ∈ d, x = 0) : ∀ i : Int, pts d i = 0 := by
  induction d with
  | nil => intro i; rfl
  | cons x d ih =>
    intro i
    simp only [pts]
    rw [h x (by simp), ih (fun y hy => h y (by simp [hy]))]
    simp
theorem sum_zero {d : List Int} (h : ∀ x ∈ d, 0 ≤ x) (h0 : d.sum = 0) : ∀ x ∈ d, x = 0 := by
  induction d with
  | nil => intro x hx; simp at hx
  | cons y d ih =>
    have hn : 0 ≤ d.sum := by
      clear ih h0
      induction d with
      | nil => simp
      | cons z d ih => simp only [List.sum_cons]; have := h z (by simp); have := ih fun x hx => h x (by rcases List.mem_cons.1 hx with h | h <;> simp [h]); omega
    have hy := h y (by simp)
    simp only [List.sum_cons] at h0
    intro x hx
    rcases List.mem_cons.1 hx with rfl | hx
    · omega
    · exact ih (fun x hx => h x (by simp [hx])) (by omega) x hx
end Go.VM
namespace Go.VM
set_option linter.unusedVariables false
set_option linter.unusedSimpArgs false

theorem rReduce_ok {k : Nat} {s : Bool} {n d : Int} (hn : 0 ≤ n) (hn2 : n ≤ 1152921504606846976) (hd : 1 ≤ d) (hd2 : d ≤ 1152921504606846976) (hk : d.toNat < k) : ref01_Reduce k s 0 n 0 d = some (bif s then -rnum n d else rnum n d, rden n d, 0) := by
  unfold ref01_Reduce
  have hg := gcd_pos (n := n) (d := d) (by omega)
  have hr1 := rnum_le (d := d) hn
  have hr2 := rden_le (n := n) (d := d) (by omega)
  have hr3 := rden_pos (n := n) (d := d) (by omega)
  have e1 : n / (Int.gcd n d : Int) = rnum n d := rfl
  have e2 : d / (Int.gcd n d : Int) = rden n d := rfl
  rw [Divisor_ok hn (by omega) (by omega) (by omega) hk]
  simp only [Option.bind_some, uc_mk]
  rw [Divide_ok hn (by omega) (by omega), Divide_ok (by omega) (by omega) (by omega), e1, e2]
  simp only [Option.bind_some, uc_mk, blet_mk]
  rw [show decide (rnum n d > 1152921504606846976) = false from decide_eq_false (by omega), show decide (rden n d > 1152921504606846976) = false from decide_eq_false (by omega)]
  rw [show decide ((0 : Int) > 0) = false from rfl]
  simp only [Bool.or_false, cond_false]
  rw [w64 (x := rnum n d) (by omega) (by omega), w64 (x := 0 - rnum n d) (by omega) (by omega), w64 (x := rden n d) (by omega) (by omega)]
  cases s
  · simp [uc]
  · simp [uc]
theorem rNew_ok {k : Nat} {n d : Int} (hn : -1152921504606846976 ≤ n) (hn2 : n ≤ 1152921504606846976) (hd : 1 ≤ d) (hd2 : d ≤ 1152921504606846976) (hk : d.toNat < k) : ref01_New k n d = some (rnum n d, rden n d, 0) := by
  unfold ref01_New
  rw [show (d == 0) = false by rw [beq_int]; simp; omega, cond_false, Size_ok (by omega) (by omega), Size_ok (by omega) (by omega), Option.bind_some, Option.bind_some]
  rw [show ((d.natAbs : Nat) : Int) = d by omega, rReduce_ok (by omega) (by omega) hd hd2 hk]
  rw [show decide (d < 0) = false from decide_eq_false (by omega)]
  simp only [Option.bind_some, uc_mk]
  by_cases h : n < 0
  · rw [decide_eq_true h, show ((n.natAbs : Nat) : Int) = -n by omega, rnum_neg]
    simp [rden, Int.neg_gcd]
  · rw [decide_eq_false h, show ((n.natAbs : Nat) : Int) = n by omega]
    simp
end Go.VM
namespace Go.VM
set_option linter.unusedVariables false
set_option linter.unusedSimpArgs false
theorem sane32_ok : law32_sane 1000000 = some true := by decide +kernel
/-- A mean that lies between two others is not less, and not greater, than both. -/
theorem between_lo {p s n : Int} (hn : 0 < n) (hs : 0 < s) {q : Int} (hq : 2 * q = 2 * p + n * (n - 1)) (h1 : q * s < p * (s + n)) (h2 : q * 2 < (n - 1) * (s + n)) : False := by
  have e1 : 2 * (q * s) = 2 * (p * s) + n * (n - 1) * s := by grind
  have e2 : 2 * (p * (s + n)) = 2 * (p * s) + 2 * (p * n) := by grind
  have h3 : n * (n - 1) * s < 2 * (p * n) := by omega
  have e3 : q * 2 = 2 * p + n * (n - 1) := by omega
  have e4 : (n - 1) * (s + n) = (n - 1) * s + n * (n - 1) := by grind
  have h4 : 2 * p < (n - 1) * s := by omega
  have h5 := Int.mul_lt_mul_of_pos_right h4 hn
  have e5 : 2 * p * n = 2 * (p * n) := by grind
  have e6 : (n - 1) * s * n = n * (n - 1) * s := by grind
  omega
theorem between_hi {p s n : Int} (hn : 0 < n) (hs : 0 < s) {q : Int} (hq : 2 * q = 2 * p + n * (n - 1)) (h1 : p * (s + n) < q * s) (h2 : (n - 1) * (s + n) < q * 2) : False := by
  have e1 : 2 * (q * s) = 2 * (p * s) + n * (n - 1) * s := by grind
  have e2 : 2 * (p * (s + n)) = 2 * (p * s) + 2 * (p * n) := by grind
  have h3 : 2 * (p * n) < n * (n - 1) * s := by omega
  have e3 : q * 2 = 2 * p + n * (n - 1) := by omega
  have e4 : (n - 1) * (s + n) = (n - 1) * s + n * (n - 1) := by grind
  have h4 : (n - 1) * s < 2 * p := by omega
  have h5 := Int.mul_lt_mul_of_pos_right h4 hn
  have e5 : 2 * p * n = 2 * (p * n) := by grind
  have e6 : (n - 1) * s * n = n * (n - 1) * s := by grind
  omega
theorem pure_DistributionSmooth (t : List Int) (ht : ∀ x ∈ t, fitsI .i64 x) (hl : t.length * 8 ≤ 140737488351232) : ∃ k, law32_DistributionSmooth k t = some true := by
  refine ⟨1000000, Ok.eq ?_⟩
  unfold law32_DistributionSmooth mark_Light mark_Roll
  simp only [Option.bind_some, u0_mk]
  refine ok_bif (fun hc => by rw [sane32_ok]; exact Ok.ret rfl) fun hc => ?_
  have hx : t.length ≤ 600 := by simp only [Bool.not_eq_false', decide_eq_true_iff] at hc; omega
  refine Dist_then hx (Int.le_refl _) (by omega) (by omega) (by omega) fun a j hMa hj => ?_
  have ha := hMa.few (by omega)
  have has := ha.sum
  have hal := ha.1
  have hal2 := ha.2.1
  have hnn : ∀ x ∈ a, 0 ≤ x := fun x hx => (ha.2.2 x hx).1
  obtain ⟨hS, hF⟩ := Smooth_ok (k := 1000000) ha (fun x hx => by have := hMa.2.2 x hx; simp only [cond_false] at this; omega) (by omega)
  rw [hS]
  have hcs := hF.sum
  have hsum := sum_up a
  have hpts := pts_up a 0
  have hlen : (a.map (· + 1)).length = a.length := by simp
  have hget : ∀ (i : Nat), i < a.length → (a.map (· + 1)).getD i 0 = a.getD i 0 + 1 := fun i h => by simp [List.getD, h]
  generalize a.map (· + 1) = c at *
  simp only [Option.bind_some, uc_mk, blet_mk, hlen, bne_self_eq_false, Bool.or_self, cond_false]
  refine ok_sum (Q := fun (_ : Unit) => True) (R := fun (_ : Bool) => False) (ok_range c (fun s => s) (fun _ _ => True) (by omega) rfl trivial (by omega) ?_ ?_) (fun _ _ => ?_) fun _ h => h.elim
  · intro again s pre e post hl' hi hlt hw _ hag
    simp only [law32_DistributionSmooth_b1]
    rw [dec_lt hlt, cond_true, gidx_mid hl' hi, hw]
    refine ok_idx (by omega) (by omega) fun hii => ?_
    have h1 := hget s.toNat hii
    have h2 : c.getD s.toNat 0 = e := by
      have : s.toNat = pre.length := by omega
      simp [List.getD, hl', this]
    rw [getD_of hii] at h1
    have h3 := ha.2.2 a[s.toNat] (List.getElem_mem hii)
    rw [w64 (x := a[s.toNat] + 1) (by omega) (by omega), ← h1, h2, bne_self_eq_false, cond_false]
    exact hag _ rfl trivial
  · intro again s hi _
    simp only [law32_DistributionSmooth_b1]
    rw [dec_nlt (by omega), cond_false]
    exact Ok.ret trivial
  · have hc0 : c.sum ≠ 0 := by omega
    simp only [u0_mk]
    rw [w64 (x := (a.length : Int) - 1) (by omega) (by omega), rNew_ok (by omega) (by omega) (by omega) (by omega) (by omega), Mean_ok hF (by omega) hc0]
    simp only [Option.bind_some, uc_mk, bne_self_eq_false, Bool.or_self]
    have hq : 2 * pts c 0 = 2 * pts a 0 + (a.length : Int) * ((a.length : Int) - 1) := by rw [hpts]; simp
    by_cases ha0 : a.sum = 0
    · rw [Mean_no ha (by omega) ha0]
      simp only [Option.bind_some, uc_mk, blet_mk]
      have hz := pts_zero (sum_zero hnn ha0) 0
      have hr := rnum_eq (n := pts c 0) (d := c.sum) (m := (a.length : Int) - 1) (e := 2) (by omega) (by omega) (by rw [hsum, ha0, Int.zero_add, Int.mul_comm ((a.length : Int) - 1)]; omega)
      rw [hr.1, hr.2]
      rw [show ((10 : Int) != 0) = true from rfl]
      simp only [cond_false, cond_true, beq_self_eq_true, Bool.and_self, sane32_ok, Option.bind_some]
      exact Ok.ret rfl
    · rw [Mean_ok ha (by omega) ha0]
      simp only [Option.bind_some, uc_mk, blet_mk, bne_self_eq_false, cond_false]
      have ka := mean_fuel ha ha0 (k := 1000000) (by omega)
      have kc := mean_fuel hF hc0 (k := 1000000) (by omega)
      have fa := mean_frac ha ha0
      have fc := mean_frac hF hc0
      have fm := frac_new (n := (a.length : Int) - 1) (d := 2) (by omega) (by omega) (by omega) (by omega)
      have km : (rden ((a.length : Int) - 1) 2).toNat < 1000000 := by
        have := rden_le (n := (a.length : Int) - 1) (d := 2) (by omega)
        omega
      rw [rLess_ok fc fa kc ka, rLess_ok fc fm kc km, rLess_ok fa fc ka kc, rLess_ok fm fc km kc]
      simp only [Option.bind_some]
      have lca := rless (n := pts c 0) (d := c.sum) (m := pts a 0) (e := a.sum) (by omega) (by omega)
      have lcm := rless (n := pts c 0) (d := c.sum) (m := (a.length : Int) - 1) (e := 2) (by omega) (by omega)
      have lac := rless (n := pts a 0) (d := a.sum) (m := pts c 0) (e := c.sum) (by omega) (by omega)
      have lmc := rless (n := (a.length : Int) - 1) (d := 2) (m := pts c 0) (e := c.sum) (by omega) (by omega)
      have o1 : (bif decide (rnum (pts c 0) c.sum * rden (pts a 0) a.sum < rnum (pts a 0) a.sum * rden (pts c 0) c.sum) then some (decide (rnum (pts c 0) c.sum * rden ((a.length : Int) - 1) 2 < rnum ((a.length : Int) - 1) 2 * rden (pts c 0) c.sum)) else some false : Option Bool) = some false := by
        by_cases h1 : rnum (pts c 0) c.sum * rden (pts a 0) a.sum < rnum (pts a 0) a.sum * rden (pts c 0) c.sum
        · rw [decide_eq_true h1, cond_true]
          congr 1
          refine decide_eq_false fun h2 => ?_
          have g1 := lca.1 h1
          have g2 := lcm.1 h2
          rw [hsum] at g1 g2
          exact between_lo (n := a.length) (s := a.sum) (by omega) (by omega) hq g1 g2
        · rw [decide_eq_false h1, cond_false]
      have o2 : (bif decide (rnum (pts a 0) a.sum * rden (pts c 0) c.sum < rnum (pts c 0) c.sum * rden (pts a 0) a.sum) then some (decide (rnum ((a.length : Int) - 1) 2 * rden (pts c 0) c.sum < rnum (pts c 0) c.sum * rden ((a.length : Int) - 1) 2)) else some false : Option Bool) = some false := by
        by_cases h1 : rnum (pts a 0) a.sum * rden (pts c 0) c.sum < rnum (pts c 0) c.sum * rden (pts a 0) a.sum
        · rw [decide_eq_true h1, cond_true]
          congr 1
          refine decide_eq_false fun h2 => ?_
          have g1 := lac.1 h1
          have g2 := lmc.1 h2
          rw [hsum] at g1 g2
          exact between_hi (n := a.length) (s := a.sum) (by omega) (by omega) hq g1 g2
        · rw [decide_eq_false h1, cond_false]
      rw [o1, Option.bind_some, Bool.not_false, cond_true, o2]
      simp only [Option.bind_some, Bool.not_false, cond_true, sane32_ok]
      exact Ok.ret rfl
end Go.VM
