/- What a row hands over, and what is known of it. -/
import Derived.Test.YtdebnihlkdabpaaEngOM
import Derived.SizedLaws
import Derived.ChangeSlices
import Derived.OpenShut
import Derived.Test.YtdebnihlkdabpaaSeFuns
set_option linter.unusedVariables false
set_option linter.unusedSimpArgs false
namespace Go.VM
open Go.RowKit Go.ChangeShapes Go.WideShapes

/-- The numbers of a kind. -/
abbrev fitsI (k : IntKind) (n : Int) : Prop := (Lit.int k n).wf = true
def IsRow (k : IntKind) (w : World) (a : Option Addr) (len cap : Nat) (zs : List Int) : Prop :=
  (a = none ∧ len = 0 ∧ cap = 0 ∧ zs = []) ∨ ∃ x, a = some x ∧ len ≤ cap ∧ cap ≤ maxLen ∧ zs.length = cap ∧ (∀ i, i < zs.length → w.cell? (x.add i) = some (.int k (zs.getD i 0))) ∧ ∀ n ∈ zs, fitsI k n
theorem IsRow.look {k : IntKind} {w : World} {a : Option Addr} {len cap : Nat} {zs : List Int} (h : IsRow k w a len cap zs) :
    (a = none ∧ len = 0 ∧ cap = 0 ∧ zs = []) ∨ ∃ x : Addr, a = some x ∧ len ≤ cap ∧ zs.length = cap ∧ (∀ i, i < zs.length → w.cell? (x.add i) = some (.int k (zs.getD i 0))) := by
  rcases h with h | ⟨x, h1, h2, h3, h4, h5, h6⟩
  · exact .inl h
  · exact .inr ⟨x, h1, h2, h4, h5⟩
theorem IsRow.fits {k : IntKind} {w : World} {a : Option Addr} {len cap : Nat} {zs : List Int} (h : IsRow k w a len cap zs) (n : Nat) : ∀ x ∈ zs.take n, fitsI k x := fun x hx => by
  rcases h with ⟨_, _, _, rfl⟩ | ⟨_, _, _, _, _, _, h6⟩
  · simp at hx
  · exact h6 x (List.mem_of_mem_take hx)
theorem IsRow.short {k : IntKind} {w : World} {a : Option Addr} {len cap : Nat} {zs : List Int} (h : IsRow k w a len cap zs) {b : Nat} (y : len * b ≤ 140737488351232) : (zs.take len).length * b ≤ 140737488351232 := by
  have : (zs.take len).length ≤ len := by simp; omega
  exact Nat.le_trans (Nat.mul_le_mul_right _ this) y
theorem IsRow.open {H : Type} {enc : TypeId × Value → H} {P : Program} {W : World} {base : Nat} {held : Bool} {t e : TypeId} {k : IntKind} {a : Option Addr} {len cap : Nat} {d : DataW H} {ps : List MemPlace} (hu : P.underlying t = some (.slice e)) (he : P.underlying e = some (.int k)) (hc : P.cellsOf e = 1)
    (h : DataW.Trod enc P W base (fun _ => true) held t (.slice a len cap) d ps) : ∃ zs, IsRow k W a len cap zs := by
  obtain ⟨fuel, hf⟩ := h
  rcases open_ints hu he hc hf with ⟨hcs, _⟩ | ⟨x, l, c, zs, hcs, _, hl, hm, hz, _, hcell, hwz⟩
  · simp [Value.cells] at hcs
    obtain ⟨rfl, rfl, rfl⟩ := hcs
    exact ⟨[], .inl ⟨rfl, rfl, rfl, rfl⟩⟩
  · simp [Value.cells] at hcs
    obtain ⟨rfl, rfl, rfl⟩ := hcs
    exact ⟨zs, .inr ⟨_, rfl, hl, hm, by simpa using hz, hcell, hwz⟩⟩
theorem row_sized {H : Type} {enc : TypeId × Value → H} {P : Program} {W : World} {base : Nat} {spare : Nat → Bool} {held : Bool} {t e : TypeId} {k : IntKind} {a : Option Addr} {len cap : Nat} {d : DataW H} {ps : List MemPlace} {ts : List TypeId} {ds : List (DataW H)} {j : Nat}
    (hsz : (DataW.weightsEach P ts ds).all (· ≤ reachBytes) = true) (ht : ts[j]? = some t) (hd : ds[j]? = some d) (hu : P.underlying t = some (.slice e)) (he : P.underlying e = some (.int k)) (hc : P.cellsOf e = 1) {B : Nat} (hB : P.bytesOf e = B)
    (h : DataW.Trod enc P W base spare held t (.slice a len cap) d ps) : len * B ≤ 140737488351232 := by
  obtain ⟨fuel, hf⟩ := h
  rcases open_ints hu he hc hf with ⟨hcs, _⟩ | ⟨x, l, c, zs, hcs, _, hl, _, hz, hdx, _, _⟩
  · simp [Value.cells] at hcs
    rw [hcs.2.1]; omega
  · simp [Value.cells] at hcs
    obtain ⟨rfl, rfl, rfl⟩ := hcs
    obtain ⟨e1, _⟩ := Prod.mk.inj hdx
    rw [e1] at hd
    have z := sized_slice hsz ht hd hu
    rw [hB] at z
    refine Nat.le_trans (Nat.mul_le_mul_right _ ?_) z
    simp only [lits, List.length_map, List.length_take, List.length_drop]
    have : len ≤ zs.length := by
      rw [hz]
      split
      · exact hl
      · exact Nat.le_refl _
    omega
end Go.VM
namespace Go.VM

/-- There is an answer, and Q holds of it. -/
def Ok {X : Type} (o : Option X) (Q : X → Prop) : Prop := ∃ r, o = some r ∧ Q r
theorem Ok.mono {X : Type} {o : Option X} {Q Q' : X → Prop} (h : Ok o Q) (hq : ∀ r, Q r → Q' r) : Ok o Q' := let ⟨r, e, h⟩ := h; ⟨r, e, hq r h⟩
theorem Ok.bind {X Y : Type} {o : Option X} {f : X → Option Y} {Q : X → Prop} {Q' : Y → Prop} (h : Ok o Q) (hf : ∀ r, Q r → Ok (f r) Q') : Ok (Option.bind o f) Q' := by
  obtain ⟨r, rfl, hr⟩ := h
  exact hf r hr
theorem Ok.mk {X : Type} {o : Option X} {r : X} {Q : X → Prop} (e : o = some r) (h : Q r) : Ok o Q := ⟨r, e, h⟩
theorem Ok.ret {X : Type} {r : X} {Q : X → Prop} (h : Q r) : Ok (some r) Q := ⟨r, rfl, h⟩
theorem Ok.some_iff {X : Type} {r : X} {Q : X → Prop} : Ok (some r) Q ↔ Q r := ⟨fun ⟨_, e, h⟩ => by cases e; exact h, fun h => ⟨r, rfl, h⟩⟩
theorem Ok.eq {X : Type} {o : Option X} {r : X} (h : Ok o (fun x => x = r)) : o = some r := by obtain ⟨_, e, rfl⟩ := h; exact e
theorem Ok.of_eq {X : Type} {o : Option X} {r : X} (h : o = some r) : Ok o (fun x => x = r) := ⟨r, h, rfl⟩
theorem Ok.iff_true {o : Option Bool} : Ok o (fun b => b = true) ↔ o = some true := ⟨Ok.eq, Ok.of_eq⟩

theorem uc_mk {α β γ : Type} (f : α → β → γ) (a : α) (b : β) : uc f (a, b) = f a b := rfl
theorem uc_eq {α β γ : Type} (f : α → β → γ) (p : α × β) : uc f p = f p.1 p.2 := rfl
theorem u0_mk {γ : Type} (c : γ) (u : Unit) : u0 c u = c := rfl
theorem blet_mk {α X : Type} (a : α) (B : α → Option X) : blet a B = B a := rfl

theorem ok_idx {α X : Type} {xs : List α} {i : Int} {B : α → Option X} {Q : X → Prop} (h0 : 0 ≤ i) (h : i < xs.length) (hb : ∀ hi : i.toNat < xs.length, Ok (B xs[i.toNat]) Q) : Ok (gidx xs i B) Q := by
  have hi : i.toNat < xs.length := by omega
  rw [gidx_some h0 hi]; exact hb hi
theorem ok_cap {X : Type} {n b : Nat} {o : Option X} {Q : X → Prop} (h : n * b ≤ 140737488355328) (ho : Ok o Q) : Ok (gcap n b o) Q := by rw [gcap_some h]; exact ho
theorem ok_nz {X : Type} {y : Int} {o : Option X} {Q : X → Prop} (h : y ≠ 0) (ho : Ok o Q) : Ok (gnz y o) Q := by rw [gnz_some h]; exact ho
theorem ok_nn {X : Type} {y : Int} {o : Option X} {Q : X → Prop} (h : 0 ≤ y) (ho : Ok o Q) : Ok (gnn y o) Q := by unfold gnn; simp [h]; exact ho
theorem ok_make {X : Type} {n : Int} {b : Nat} {o : Option X} {Q : X → Prop} (h0 : 0 ≤ n) (h : n.toNat * b ≤ 140737488355328) (ho : Ok o Q) : Ok (gmake n b o) Q := by unfold gmake; simp [h0, h]; exact ho
theorem ok_cut {X : Type} {lo hi len : Int} {o : Option X} {Q : X → Prop} (h0 : 0 ≤ lo) (h1 : lo ≤ hi) (h2 : hi ≤ len) (ho : Ok o Q) : Ok (gcut lo hi len o) Q := by unfold gcut; simp [h0, h1, h2]; exact ho
theorem ok_bif {X : Type} {b : Bool} {x y : Option X} {Q : X → Prop} (h1 : b = true → Ok x Q) (h2 : b = false → Ok y Q) : Ok (bif b then x else y) Q := by
  cases b
  · exact h2 rfl
  · exact h1 rfl
theorem ok_let {α X : Type} {a : α} {B : α → Option X} {Q : X → Prop} (h : Ok (B a) Q) : Ok (blet a B) Q := h

/-- A loop: what holds at its head, and a measure that falls. -/
theorem ok_loop {S X : Type} {body : (S → Option X) → S → Option X} {k : Nat} {s : S} {Q : X → Prop} (Inv : S → Prop) (μ : S → Nat) (h0 : Inv s) (hk : μ s < k)
    (step : ∀ (again : S → Option X) (s : S), Inv s → (∀ s', Inv s' → μ s' < μ s → Ok (again s') Q) → Ok (body again s) Q) : Ok (gloop body k s) Q := by
  induction k generalizing s with
  | zero => omega
  | succ k ih => exact step (gloop body k) s h0 fun s' hs hlt => ih hs (by omega)
/-- A loop, told by a relation between where it begins and what it answers. -/
theorem ok_loopR {S X : Type} {body : (S → Option X) → S → Option X} {k : Nat} {s : S} (Inv : S → Prop) (μ : S → Nat) (Q : S → X → Prop) (h0 : Inv s) (hk : μ s < k)
    (step : ∀ (again : S → Option X) (s : S), Inv s → (∀ s', Inv s' → μ s' < μ s → Ok (again s') (Q s')) → Ok (body again s) (Q s)) : Ok (gloop body k s) (Q s) := by
  obtain ⟨x, h1, h2⟩ := gloop_ends (body := body) μ Inv Q (fun again s hs h => step again s hs h) k s h0 hk
  exact ⟨x, h1, h2⟩

/-! ### whole numbers that do not wrap -/
theorem fits64 {n : Int} : fitsI .i64 n ↔ -9223372036854775808 ≤ n ∧ n ≤ 9223372036854775807 := by
  unfold fitsI Lit.wf
  simp [IntKind.min, IntKind.max, IntKind.signed, IntKind.bits]
theorem fits8 {n : Int} : fitsI .u8 n ↔ 0 ≤ n ∧ n ≤ 255 := by
  unfold fitsI Lit.wf
  simp [IntKind.min, IntKind.max, IntKind.signed, IntKind.bits]
theorem w64 {x : Int} (h1 : -9223372036854775808 ≤ x) (h2 : x ≤ 9223372036854775807) : IntKind.wrap .i64 x = x := wrap64 h1 (by omega)
theorem w8 {x : Int} (h1 : 0 ≤ x) (h2 : x ≤ 255) : IntKind.wrap .u8 x = x := by
  simp [IntKind.wrap, IntKind.signed, IntKind.bits]; omega
theorem gmax_def (p q : Int) : gmax p q = max q p := by unfold gmax; split <;> omega
theorem gmin_def (p q : Int) : gmin p q = min q p := by unfold gmin; split <;> omega
end Go.VM
namespace Go.VM

theorem gidx_mid {α X : Type} {l pre post : List α} {e : α} {i : Int} {B : α → Option X} (hl : l = pre ++ e :: post) (hi : i = pre.length) : gidx l i B = B e := by
  subst hl hi
  have h : pre.length < (pre ++ e :: post).length := by simp
  rw [gidx_some (by omega) (by simp)]
  simp

/-- A loop over a list by its indexes, from the first to the last: 'Inv pre s' holds at the head when 'pre' has been seen. -/
theorem ok_range {S X α : Type} {body : (S → Option X) → S → Option X} {k : Nat} {s0 : S} {Q : X → Prop} (l : List α) (ix : S → Int) (Inv : List α → S → Prop) (hlen : l.length ≤ 4611686018427387904) (h0 : ix s0 = 0) (hI : Inv [] s0) (hk : l.length < k)
    (step : ∀ (again : S → Option X) (s : S) (pre : List α) (e : α) (post : List α), l = pre ++ e :: post → ix s = pre.length → ix s < l.length → IntKind.wrap .i64 (ix s + 1) = ix s + 1 → Inv pre s → (∀ s', ix s' = ix s + 1 → Inv (pre ++ [e]) s' → Ok (again s') Q) → Ok (body again s) Q)
    (last : ∀ (again : S → Option X) (s : S), ix s = l.length → Inv l s → Ok (body again s) Q) : Ok (gloop body k s0) Q := by
  refine ok_loop (fun s => ∃ pre post, l = pre ++ post ∧ ix s = pre.length ∧ Inv pre s) (fun s => l.length - (ix s).toNat) ⟨[], l, rfl, by simp [h0], hI⟩ (by rw [h0]; simpa using hk) fun again s hs hag => ?_
  obtain ⟨pre, post, hl, hi, hinv⟩ := hs
  cases post with
  | nil =>
    rw [List.append_nil] at hl
    subst hl
    exact last again s hi hinv
  | cons e post =>
    have hlt : pre.length < l.length := by rw [hl]; simp
    refine step again s pre e post hl hi (by omega) (w64 (by omega) (by omega)) hinv fun s' hs' hinv' => hag s' ⟨pre ++ [e], post, by rw [hl]; simp, by rw [hs', hi]; simp, hinv'⟩ ?_
    omega
theorem ok_then {X Y : Type} {o : Option X} {f : X → Option Y} {Q' : Y → Prop} (x : X) (h : o = some x) (hf : Ok (f x) Q') : Ok (Option.bind o f) Q' := by subst h; exact hf
theorem eq_of_ok {X : Type} {o : Option X} {r : X} (h : Ok o (fun x => x = r)) : o = some r := h.eq
theorem ok_eq {X : Type} {o : Option X} {r : X} {Q : X → Prop} (h : o = some r) (hq : Q r) : Ok o Q := ⟨r, h, hq⟩
theorem dec_lt {a b : Int} (h : a < b) : decide (a < b) = true := decide_eq_true h
theorem dec_nlt {a b : Int} (h : b ≤ a) : decide (a < b) = false := decide_eq_false (by omega)
theorem beq_int (a b : Int) : (a == b) = decide (a = b) := by by_cases h : a = b <;> simp [h]
theorem bne_int (a b : Int) : (a != b) = decide (a ≠ b) := by by_cases h : a = b <;> simp [h]
theorem ok_sum {A B Y : Type} {o : Option (A ⊕ B)} {f : A → Option Y} {g : B → Option Y} {Q : A → Prop} {R : B → Prop} {Q' : Y → Prop} (h : Ok o (fun x => match x with | .inl a => Q a | .inr b => R b)) (hf : ∀ a, Q a → Ok (f a) Q') (hg : ∀ b, R b → Ok (g b) Q') : Ok (Option.bind o (Sum.elim f g)) Q' := by
  obtain ⟨r, rfl, hr⟩ := h
  cases r with
  | inl a => exact hf a hr
  | inr b => exact hg b hr
end Go.VM
namespace Go.VM

theorem Next_ok {k : Nat} {n : Int} {x : List Int} {i : Int} (hx : x.length ≤ 600) (h0 : 0 ≤ i) (hn0 : 1 ≤ n) (hn : n ≤ 1000000) : Ok (mark_Dice_Next k n x i) (fun r => 0 ≤ r.1 ∧ r.1 < n ∧ 0 ≤ r.2) := by
  unfold mark_Dice_Next
  refine ok_let (ok_bif (fun h => Ok.ret ⟨Int.le_refl _, by omega, h0⟩) fun h => ?_)
  simp only [Bool.or_eq_false_iff, decide_eq_false_iff_not, ge_iff_le, Int.not_le] at h
  refine ok_idx h0 (by omega) fun hi => ok_nz (by omega) ?_
  generalize x[i.toNat] = e
  have h1 := Int.tmod_lt_of_pos e (show 0 < n by omega)
  have h2 := Int.lt_tmod_of_pos e (show 0 < n by omega)
  refine Ok.bind (Q := fun r => 0 ≤ r.1 ∧ r.1 < n ∧ 0 ≤ r.2) (ok_bif (fun h => ?_) fun h => ?_) fun r hr => ?_
  · have h' := of_decide_eq_true h
    refine Ok.ret ⟨?_, ?_, ?_⟩
    · simp only; rw [w64 (by omega) (by omega)]; omega
    · simp only; rw [w64 (by omega) (by omega)]; omega
    · simp only; rw [w64 (by omega) (by omega)]; omega
  · have h' := of_decide_eq_false h
    refine Ok.ret ⟨?_, ?_, ?_⟩
    · simp only; omega
    · simp only; omega
    · simp only; rw [w64 (by omega) (by omega)]; omega
  · obtain ⟨a, b⟩ := r
    exact Ok.ret hr
theorem Next_then {k : Nat} {n : Int} {x : List Int} {i : Int} {Y : Type} {f : Int → Int → Option Y} {Q : Y → Prop} (hx : x.length ≤ 600) (h0 : 0 ≤ i) (hn0 : 1 ≤ n) (hn : n ≤ 1000000) (hf : ∀ a j, 0 ≤ a → a < n → 0 ≤ j → Ok (f a j) Q) : Ok (Option.bind (mark_Dice_Next k n x i) (uc f)) Q := by
  refine Ok.bind (Next_ok hx h0 hn0 hn) fun r hr => ?_
  obtain ⟨a, j⟩ := r
  exact hf a j hr.1 hr.2.1 hr.2.2
end Go.VM
namespace Go.VM

theorem Pick_then {k : Nat} {l x : List Int} {i : Int} {Y : Type} {f : Int → Int → Option Y} {Q : Y → Prop} (hx : x.length ≤ 600) (h0 : 0 ≤ i) (hn0 : 0 < l.length) (hn : l.length ≤ 1000000) (hf : ∀ a j, a ∈ l → 0 ≤ j → Ok (f a j) Q) : Ok (Option.bind (mark_Dice_Pick k x i l) (uc f)) Q := by
  unfold mark_Dice_Pick
  refine Ok.bind (Q := fun r => r.1 ∈ l ∧ 0 ≤ r.2) (Next_then hx h0 (by omega) (by omega) fun a j h1 h2 hj => ok_idx h1 h2 fun hi => Ok.ret ⟨List.getElem_mem hi, hj⟩) fun r hr => ?_
  obtain ⟨a, j⟩ := r
  exact hf a j hr.1 hr.2

/-- A distribution of few candidates. -/
def Few (d : List Int) : Prop := 1 ≤ d.length ∧ d.length ≤ 40 ∧ ∀ x ∈ d, 0 ≤ x ∧ x ≤ 1000
/-- A distribution as the dice make it. -/
def Made (n : Int) (full : Bool) (d : List Int) : Prop := 1 ≤ d.length ∧ (d.length : Int) ≤ n + 1 ∧ ∀ x ∈ d, (bif full then 1 else 0) ≤ x ∧ x ≤ 6
theorem Made.few {n : Int} {full : Bool} {d : List Int} (h : Made n full d) (hn : n ≤ 39) : Few d := ⟨h.1, by have := h.2.1; omega, fun x hx => by
  have := h.2.2 x hx
  cases full <;> simp only [cond_true, cond_false] at this <;> omega⟩
theorem Dist_then {k : Nat} {n : Int} {full : Bool} {x : List Int} {i : Int} {Y : Type} {f : List Int → Int → Option Y} {Q : Y → Prop} (hx : x.length ≤ 600) (h0 : 0 ≤ i) (hk : 50 < k) (hn0 : 0 ≤ n) (hn : n ≤ 39) (hf : ∀ d j, Made n full d → 0 ≤ j → Ok (f d j) Q) : Ok (Option.bind (mark_Dice_Distribution k n full x i) (uc f)) Q := by
  unfold mark_Dice_Distribution
  refine Ok.bind (Q := fun r => Made n full r.1 ∧ 0 ≤ r.2) ?_ fun r hr => ?_
  · refine Ok.bind (Q := fun r => r = bif full then (1 : Int) else 0) (by cases full <;> exact Ok.ret rfl) fun least hl => ?_
    rw [w64 (x := n + 1) (by omega) (by omega)]
    refine Next_then hx h0 (by omega) (by omega) fun a j h1 h2 hj => ?_
    rw [w64 (x := 1 + a) (by omega) (by omega)]
    refine Ok.bind (Q := fun r => Made n full r.2 ∧ 0 ≤ r.1) (ok_loop (fun s => 0 ≤ s.1 ∧ 0 ≤ s.2.1 ∧ s.1 + s.2.2.length = 1 + a ∧ ∀ x ∈ s.2.2, (bif full then 1 else 0) ≤ x ∧ x ≤ 6) (fun s => s.1.toNat) ⟨by simp only; omega, hj, by simp, by simp⟩ (by simp only; omega) ?_) fun r hr => ?_
    · intro again s hs hag
      obtain ⟨c, j, xs⟩ := s
      obtain ⟨g1, g2, g3, g4⟩ := hs
      simp only at g1 g2 g3 g4
      simp only [mark_Dice_Distribution_b1, uc_mk]
      refine ok_bif (fun hc => ?_) fun hc => ?_
      · have hc' := of_decide_eq_true hc
        refine Pick_then hx g2 (by simp) (by simp) fun e j he hj => ?_
        have he2 : 0 ≤ e ∧ e ≤ 5 := by
          simp only [List.mem_cons, List.not_mem_nil, or_false] at he
          omega
        have hl2 : 0 ≤ least ∧ least ≤ 1 := by subst hl; cases full <;> simp
        rw [w64 (x := least + e) (by omega) (by omega), w64 (x := c - 1) (by omega) (by omega)]
        refine ok_cap (by simp; omega) (hag _ ⟨by simp only; omega, hj, by simp only [List.length_append, List.length_singleton]; omega, fun y hy => ?_⟩ (by simp only; omega))
        simp only [List.mem_append, List.mem_singleton] at hy
        rcases hy with hy | rfl
        · exact g4 y hy
        · rw [← hl]; omega
      · have hc' := of_decide_eq_false hc
        exact Ok.ret ⟨⟨by simp only; omega, by simp only; omega, g4⟩, g2⟩
    · obtain ⟨j, xs⟩ := r
      exact Ok.ret hr
  · obtain ⟨d, j⟩ := r
    exact hf d j hr.1 hr.2

/-! ### what is counted -/
theorem sum_nn {d : List Int} (h : ∀ x ∈ d, 0 ≤ x) : 0 ≤ d.sum := by
  induction d with
  | nil => simp
  | cons x d ih =>
    have h1 := h x (by simp)
    have h2 := ih fun y hy => h y (by simp [hy])
    simp only [List.sum_cons]; omega
theorem sum_hi {d : List Int} {c : Int} (h : ∀ x ∈ d, x ≤ c) : d.sum ≤ c * d.length := by
  induction d with
  | nil => simp
  | cons x d ih =>
    have h1 := h x (by simp)
    have h2 := ih fun y hy => h y (by simp [hy])
    simp only [List.sum_cons, List.length_cons, Int.natCast_add, Int.natCast_one, Int.mul_add, Int.mul_one]; omega
theorem Few.bound {d pre post : List Int} (h : Few d) (hl : d = pre ++ post) : 0 ≤ pre.sum ∧ pre.sum ≤ 40000 := by
  have h1 : ∀ x ∈ pre, 0 ≤ x ∧ x ≤ 1000 := fun x hx => h.2.2 x (by rw [hl]; simp [hx])
  have h2 := sum_nn fun x hx => (h1 x hx).1
  have h3 := sum_hi (c := 1000) fun x hx => (h1 x hx).2
  have h4 : pre.length ≤ 40 := by have := h.2.1; rw [hl] at this; simp at this; omega
  omega
theorem Few.sum {d : List Int} (h : Few d) : 0 ≤ d.sum ∧ d.sum ≤ 40000 := h.bound (post := []) (by simp)
theorem Few.take {d : List Int} (h : Few d) (n : Nat) : 0 ≤ (d.take n).sum ∧ (d.take n).sum ≤ 40000 := h.bound (post := d.drop n) (by simp)
theorem take_le {d : List Int} (h : ∀ x ∈ d, 0 ≤ x) {m n : Nat} (hm : m ≤ n) : (d.take m).sum ≤ (d.take n).sum := by
  have e : d.take n = d.take m ++ (d.drop m).take (n - m) := by
    rw [← List.take_add]
    congr 1
    omega
  rw [e, List.sum_append]
  have := sum_nn (d := (d.drop m).take (n - m)) fun x hx => h x (List.mem_of_mem_drop (List.mem_of_mem_take hx))
  omega
theorem getD_of {l : List Int} {i : Nat} (h : i < l.length) : l.getD i 0 = l[i] := by simp [List.getD, h]
theorem take_all {d : List Int} {n : Nat} (h : d.length ≤ n) : (d.take n).sum = d.sum := by rw [List.take_of_length_le h]
theorem take_succ_sum {d : List Int} {n : Nat} (h : n < d.length) : (d.take (n + 1)).sum = (d.take n).sum + d[n] := by
  rw [List.take_add_one, List.getElem?_eq_getElem h, Option.toList_some, List.sum_append, List.sum_cons, List.sum_nil, Int.add_zero]
theorem sum_ok {k : Nat} {d : List Int} (h : ∀ x ∈ d, 0 ≤ x ∧ x ≤ 1000) (hl : d.length ≤ 40) (hk : 50 < k) : distribution_sum k d = some d.sum := by
  apply Ok.eq
  unfold distribution_sum
  refine Ok.bind (Q := fun r => r = d.sum) (ok_range d (fun s => s.2) (fun pre s => s.1 = pre.sum) (by omega) rfl rfl (by omega) ?_ ?_) fun r hr => Ok.ret hr
  · intro again s pre e post hl' hi hlt hw hinv hag
    obtain ⟨n, i⟩ := s
    simp only at hi hlt hw hinv
    simp only [distribution_sum_b1, uc_mk]
    rw [dec_lt hlt, cond_true, gidx_mid hl' hi, hw]
    have he := h e (by rw [hl']; simp)
    have h1 : ∀ x ∈ pre, 0 ≤ x ∧ x ≤ 1000 := fun x hx => h x (by rw [hl']; simp [hx])
    have h2 := sum_nn fun x hx => (h1 x hx).1
    have h3 := sum_hi (c := 1000) fun x hx => (h1 x hx).2
    have h4 : pre.length ≤ 40 := by rw [hl'] at hl; simp at hl; omega
    rw [w64 (x := n + e) (by omega) (by omega)]
    exact hag _ rfl (by simp [hinv, List.sum_append])
  · intro again s hi hinv
    obtain ⟨n, i⟩ := s
    simp only at hi hinv
    simp only [distribution_sum_b1, uc_mk]
    rw [dec_nlt (by omega), cond_false]
    exact Ok.ret hinv
theorem Valid_ok {k : Nat} {d : List Int} (h : Few d) (hk : 50 < k) : distribution_Valid k d = some true := by
  apply Ok.eq
  have h1 := h.1
  have h2 := h.2.1
  have h3 := h.sum
  unfold distribution_Valid
  refine ok_let (ok_bif (fun hb => ?_) fun _ => ?_)
  · rw [Bool.or_eq_true, decide_eq_true_iff, beq_iff_eq] at hb; omega
  · unfold slices_ContainsFunc_int slices_IndexFunc_int
    refine Ok.bind (Q := fun r => r = false) (Ok.bind (Q := fun r => r = -1) (ok_sum (Q := fun _ => True) (R := fun _ => False) (ok_range d (fun s => s) (fun _ _ => True) (by omega) rfl trivial (by omega) ?_ ?_) (fun _ _ => Ok.ret rfl) fun _ h => h.elim) fun r hr => Ok.ret (by subst hr; rfl)) fun r hr => ?_
    · intro again s pre e post hl hi hlt hw _ hag
      simp only [slices_IndexFunc_int_b1, distribution_Valid_1]
      rw [dec_lt hlt, cond_true, gidx_mid hl hi, hw]
      have he := h.2.2 e (by rw [hl]; simp)
      simp only [blet_mk, Option.bind_some]
      rw [dec_nlt (by omega), show decide (e > 1048576) = false from decide_eq_false (by omega)]
      simp only [Bool.or_false, cond_false]
      exact hag _ rfl trivial
    · intro again s hi _
      simp only [slices_IndexFunc_int_b1]
      rw [dec_nlt (by omega), cond_false]
      exact Ok.ret trivial
    · subst hr
      rw [cond_false, sum_ok h.2.2 h2 hk, Option.bind_some]
      exact Ok.ret (decide_eq_true (by omega))
theorem Count_ok {k : Nat} {d : List Int} (h : Few d) (hk : 50 < k) : distribution_Count k d = some d.sum := by
  unfold distribution_Count
  rw [Valid_ok h hk, sum_ok h.2.2 h.2.1 hk]
  rfl
theorem Below_ok {k : Nat} {d : List Int} {s : Int} (h : Few d) (hk : 50 < k) : distribution_Below k d s = some (d.take s.toNat).sum := by
  apply Ok.eq
  unfold distribution_Below
  rw [Valid_ok h hk]
  have h1 := h.1
  have h2 := h.2.1
  simp only [Option.bind_some, Bool.not_true, cond_false, gmin_def, gmax_def]
  refine ok_cut (Int.le_refl _) (by omega) (by omega) ?_
  rw [sum_ok (fun x hx => h.2.2 x (List.mem_of_mem_take hx)) (by simp; omega) hk]
  refine Ok.ret ?_
  by_cases hc : s.toNat ≤ d.length
  · rw [show (min (↑d.length) (max 0 s)).toNat = s.toNat by omega]
  · rw [show (min (↑d.length) (max 0 s)).toNat = d.length by omega, take_all (Nat.le_refl _), take_all (by omega)]

end Go.VM
namespace Go.VM

theorem gcarry_some {R : Type} {x y c : Int} {o : Option R} (hx : 0 ≤ x) (hy : 0 ≤ y) (hc : 0 ≤ c) (hc1 : c ≤ 1) : gcarry x y c o = o := by
  unfold gcarry; simp [hx, hy, hc, hc1]
theorem gle_some {R : Type} {x y : Int} {o : Option R} (h : x ≤ y) : gle x y o = o := by
  unfold gle; simp [h]
theorem wu64 {x : Int} (h1 : 0 ≤ x) (h2 : x ≤ 18446744073709551615) : IntKind.wrap .u64 x = x := by
  simp [IntKind.wrap, IntKind.signed, IntKind.bits]; omega
theorem iand_mask {x : Int} (h1 : 0 ≤ x) (h2 : x ≤ 4294967295) : iand .u64 x 4294967295 = x := by
  unfold iand
  obtain ⟨n, rfl⟩ : ∃ n : Nat, x = n := ⟨x.toNat, by omega⟩
  have e : (BitVec.ofInt IntKind.u64.bits ((n : Nat) : Int) &&& BitVec.ofInt IntKind.u64.bits 4294967295).toNat = n := by
    rw [BitVec.toNat_and]
    have e1 : (BitVec.ofInt IntKind.u64.bits ((n : Nat) : Int)).toNat = n := by
      rw [BitVec.toNat_ofInt]
      simp [IntKind.bits]
      omega
    have e2 : (BitVec.ofInt IntKind.u64.bits 4294967295).toNat = 2 ^ 32 - 1 := by decide
    rw [e1, e2, Nat.and_two_pow_sub_one_eq_mod]
    exact Nat.mod_eq_of_lt (by omega)
  rw [e]
  exact wu64 (by omega) (by omega)
theorem shift32 : ((2 : Int) ^ (min (Int.toNat 32) (IntKind.bits .u64))) = 4294967296 := by decide
theorem fdiv32 (x : Int) : Int.fdiv x 4294967296 = x / 4294967296 := Int.fdiv_eq_ediv_of_nonneg x (by omega)
theorem Mul64_ok {k : Nat} {x y : Int} (hx0 : 0 ≤ x) (hx : x ≤ 4294967295) (hy0 : 0 ≤ y) (hy : y ≤ 4294967295) : math_bits_Mul64 k x y = some (0, x * y) := by
  have p0 := Int.mul_nonneg hx0 hy0
  have p1 : x * y ≤ 4294967295 * 4294967295 := Int.mul_le_mul hx hy hy0 (by omega)
  unfold math_bits_Mul64
  simp only [shift32, fdiv32]
  rw [show x / 4294967296 = 0 by omega, show y / 4294967296 = 0 by omega, iand_mask hx0 hx, iand_mask hy0 hy]
  rw [wu64 (x := x * y) p0 (by omega)]
  simp only [Int.zero_mul, Int.mul_zero, Int.zero_add]
  rw [wu64 (x := 0) (by omega) (by omega)]
  simp only [Int.zero_add]
  have q0 : 0 ≤ x * y / 4294967296 ∧ x * y / 4294967296 ≤ 4294967295 := by omega
  rw [wu64 (x := x * y / 4294967296) q0.1 (by omega), iand_mask q0.1 q0.2]
  simp only [Int.add_zero, Int.zero_add]
  rw [show x * y / 4294967296 / 4294967296 = 0 by omega, wu64 (x := x * y / 4294967296) q0.1 (by omega), show x * y / 4294967296 / 4294967296 = 0 by omega]
  rfl
theorem Div64_ok {k : Nat} {lo y : Int} (h0 : 0 ≤ lo) (h1 : lo ≤ 18446744073709551615) (hy : 1 ≤ y) : math_bits_Div64 k 0 lo y = some (lo / y, lo % y) := by
  unfold math_bits_Div64
  rw [show (y == 0) = false by rw [beq_int]; simp; omega, cond_false, dec_le_f (by omega), cond_false]
  simp only [beq_self_eq_true, cond_true]
  rw [gnz_some (by omega), gnz_some (by omega), Int.tdiv_eq_ediv_of_nonneg h0, Int.tmod_eq_emod_of_nonneg h0, wu64 (Int.ediv_nonneg h0 (by omega)) (Int.le_trans (Int.ediv_le_self y h0) h1)]
where
  dec_le_f {a b : Int} (h : b < a) : decide (a ≤ b) = false := decide_eq_false (by omega)
theorem Rem64_ok {k : Nat} {lo y : Int} (h0 : 0 ≤ lo) (h1 : lo ≤ 18446744073709551615) (hy : 1 ≤ y) : math_bits_Rem64 k 0 lo y = some (lo % y) := by
  unfold math_bits_Rem64
  rw [gnz_some (by omega), Int.zero_tmod, Div64_ok h0 h1 hy]
  rfl
theorem abs_ok {k : Nat} {n : Int} (h : -9223372036854775807 ≤ n) (h2 : n ≤ 9223372036854775807) : ratio_abs k n = some (n.natAbs : Int) := by
  unfold ratio_abs
  by_cases hn : n < 0
  · rw [decide_eq_true hn, cond_true, w64 (by omega) (by omega), wu64 (by omega) (by omega)]
    congr 1; omega
  · rw [decide_eq_false hn, cond_false, wu64 (by omega) (by omega)]
    congr 1; omega
theorem gcd_emod_ {a b : Int} (ha : 0 ≤ a) (hb : 0 ≤ b) : Int.gcd (a % b) b = Int.gcd a b := by
  obtain ⟨m, rfl⟩ : ∃ n : Nat, a = n := ⟨a.toNat, by omega⟩
  obtain ⟨n, rfl⟩ : ∃ n : Nat, b = n := ⟨b.toNat, by omega⟩
  rw [← Int.natCast_emod]
  show Nat.gcd (m % n) n = Nat.gcd m n
  rw [← Nat.gcd_rec, Nat.gcd_comm]
theorem gcd_ok {k : Nat} {a b : Int} (ha : 0 ≤ a) (hb : 0 ≤ b) (hk : b.toNat < k) : ratio_gcd k a b = some (Int.gcd a b : Int) := by
  apply Ok.eq
  unfold ratio_gcd
  refine Ok.bind (Q := fun r => r = (Int.gcd a b : Int)) (ok_loop (fun s => 0 ≤ s.1 ∧ 0 ≤ s.2 ∧ Int.gcd s.1 s.2 = Int.gcd a b) (fun s => s.2.toNat) ⟨ha, hb, rfl⟩ hk ?_) fun r hr => Ok.ret hr
  intro again s hs hag
  obtain ⟨x, y⟩ := s
  obtain ⟨g1, g2, g3⟩ := hs
  simp only at g1 g2 g3
  simp only [ratio_gcd_b1, uc_mk]
  refine ok_bif (fun hc => ?_) fun hc => ?_
  · have hy : y ≠ 0 := by simpa using hc
    refine ok_nz hy ?_
    rw [Int.tmod_eq_emod_of_nonneg g1]
    have h1 := Int.emod_nonneg x hy
    have h2 := Int.emod_lt_of_pos x (show 0 < y by omega)
    refine hag _ ⟨g2, h1, ?_⟩ (by dsimp only; omega)
    dsimp only
    rw [← g3, Int.gcd_comm y, gcd_emod_ g1 g2]
  · have hy : y = 0 := by simpa using hc
    subst hy
    refine Ok.ret ?_
    rw [← g3]
    simp
    omega
/-- The parts of a fraction in lowest terms. -/
def rnum (n d : Int) : Int := n / (Int.gcd n d : Int)
def rden (n d : Int) : Int := d / (Int.gcd n d : Int)
theorem gcd_pos {n d : Int} (hd : 0 < d) : 0 < (Int.gcd n d : Int) := by
  have := Int.gcd_pos_of_ne_zero_right n (b := d) (by omega)
  omega
theorem rnum_mul {n d : Int} : rnum n d * (Int.gcd n d : Int) = n := Int.ediv_mul_cancel (Int.gcd_dvd_left ..)
theorem rden_mul {n d : Int} : rden n d * (Int.gcd n d : Int) = d := Int.ediv_mul_cancel (Int.gcd_dvd_right ..)
theorem rden_pos {n d : Int} (hd : 0 < d) : 0 < rden n d := by
  have h1 := gcd_pos (n := n) hd
  have h2 := rden_mul (n := n) (d := d)
  refine Int.pos_of_mul_pos_left ?_ h1
  omega
where
  Int.pos_of_mul_pos_left {a b : Int} (h : 0 < a * b) (hb : 0 < b) : 0 < a := by
    rcases Int.lt_or_le 0 a with h' | h'
    · exact h'
    · have := Int.mul_le_mul_of_nonneg_right h' (Int.le_of_lt hb)
      omega
theorem rden_le {n d : Int} (hd : 0 < d) : rden n d ≤ d := Int.ediv_le_self _ (by omega)
theorem rnum_le {n d : Int} (hn : 0 ≤ n) : 0 ≤ rnum n d ∧ rnum n d ≤ n := ⟨Int.ediv_nonneg hn (by omega), Int.ediv_le_self _ hn⟩
theorem rgcd {n d : Int} (hd : 0 < d) : Int.gcd (rnum n d) (rden n d) = 1 := by
  unfold rnum rden
  exact Int.gcd_ediv_gcd_ediv_gcd (by have := gcd_pos (n := n) hd; omega)
theorem rnum_neg {n d : Int} : rnum (-n) d = -rnum n d := by
  unfold rnum
  rw [Int.neg_gcd, Int.neg_ediv_of_dvd (Int.gcd_dvd_left ..)]
/-- The value of a fraction in lowest terms is that of the fraction. -/
theorem rcross {n d : Int} : rnum n d * d = n * rden n d := by
  have h1 := rnum_mul (n := n) (d := d)
  have h2 := rden_mul (n := n) (d := d)
  generalize rnum n d = p at *
  generalize rden n d = q at *
  generalize (Int.gcd n d : Int) = g at *
  rw [← h2, ← h1, Int.mul_assoc, Int.mul_comm g q]
theorem lowest_ok {k : Nat} {s : Bool} {n d : Int} (hn : 0 ≤ n) (hn2 : n ≤ 1152921504606846976) (hd : 1 ≤ d) (hd2 : d ≤ 1152921504606846976) (hk : d.toNat < k) : ratio_lowest k s 0 n d = some (bif s then -rnum n d else rnum n d, rden n d, 0) := by
  unfold ratio_lowest
  have m0 := Int.emod_nonneg n (show d ≠ 0 by omega)
  have m1 := Int.emod_lt_of_pos n (show 0 < d by omega)
  rw [Rem64_ok hn (by omega) hd, Option.bind_some, gcd_ok (by omega) m0 (by omega), Option.bind_some]
  rw [show Int.gcd d (n % d) = Int.gcd n d by rw [Int.gcd_comm, gcd_emod_ hn (by omega)]]
  have hg := gcd_pos (n := n) (d := d) (by omega)
  have hr1 := rnum_le (d := d) hn
  have hr2 := rden_le (n := n) (d := d) (by omega)
  have hr3 := rden_pos (n := n) (d := d) (by omega)
  have e1 : n / (Int.gcd n d : Int) = rnum n d := rfl
  have e2 : d / (Int.gcd n d : Int) = rden n d := rfl
  unfold ratio_wide_over
  rw [gnz_some (by omega), gnz_some (by omega), Int.zero_tmod, Div64_ok hn (by omega) (by omega), Int.zero_tdiv, Int.tdiv_eq_ediv_of_nonneg (by omega), e1, e2]
  simp only [Option.bind_some, uc_mk]
  rw [gnz_some (by omega)]
  simp only [Option.bind_some, uc_mk]
  rw [wu64 (x := 0) (by omega) (by omega), bne_self_eq_false, cond_false, wu64 (x := rden n d) (by omega) (by omega)]
  simp only [Option.bind_some, uc_mk, blet_mk]
  rw [show decide (rnum n d > 1152921504606846976) = false from decide_eq_false (by omega), show decide (rden n d > 1152921504606846976) = false from decide_eq_false (by omega)]
  simp only [Bool.or_false, cond_false]
  rw [w64 (x := rnum n d) (by omega) (by omega), w64 (x := 0 - rnum n d) (by omega) (by omega), w64 (x := rden n d) (by omega) (by omega)]
  cases s
  · simp
  · simp
/-- A fraction in lowest terms of small numbers. -/
def Frac (n d : Int) : Prop := -2147483647 ≤ n ∧ n ≤ 2147483647 ∧ 1 ≤ d ∧ d ≤ 2147483647 ∧ Int.gcd n d = 1
theorem frac_new {n d : Int} (h0 : 0 ≤ n) (h1 : n ≤ 2147483647) (h2 : 1 ≤ d) (h3 : d ≤ 2147483647) : Frac (rnum n d) (rden n d) := by
  have hr1 := rnum_le (d := d) h0
  have hr2 := rden_le (n := n) (d := d) (by omega)
  have hr3 := rden_pos (n := n) (d := d) (by omega)
  exact ⟨by omega, by omega, by omega, by omega, rgcd (by omega)⟩
theorem rValidR_ok {k : Nat} {n d : Int} (h : Frac n d) (hk : d.toNat < k) : ratio_Valid k n d = some true := by
  obtain ⟨h1, h2, h3, h4, h5⟩ := h
  unfold ratio_Valid
  rw [show decide (d ≥ 1) = true from decide_eq_true (by omega), show decide (d ≤ 1152921504606846976) = true from decide_eq_true (by omega), show decide (n ≥ -1152921504606846976) = true from decide_eq_true (by omega), show decide (n ≤ 1152921504606846976) = true from decide_eq_true (by omega)]
  simp only [blet_mk, Bool.and_true, cond_true]
  rw [abs_ok (by omega) (by omega), wu64 (by omega) (by omega), Option.bind_some, gcd_ok (by omega) (by omega) hk, Option.bind_some, Option.bind_some]
  rw [show Int.gcd (n.natAbs : Int) d = Int.gcd n d by simp [Int.gcd], h5]
  rfl
theorem times_ok {k : Nat} {n b : Int} (h1 : -4294967295 ≤ n) (h2 : n ≤ 4294967295) (h3 : 0 ≤ b) (h4 : b ≤ 4294967295) : ratio_times k n b = some (0, (n.natAbs : Int) * b) := by
  unfold ratio_times
  rw [abs_ok (by omega) (by omega), Option.bind_some, Mul64_ok (by omega) (by omega) h3 h4]
  rfl
theorem wcompare_ok {k : Nat} {s t : Bool} {a b : Int} : ratio_wide_compare k s 0 a t 0 b = some (if a < b then -1 else if a = b then 0 else 1) := by
  unfold ratio_wide_compare
  simp only [blet_mk, bne_self_eq_false, Bool.false_and, cond_false, beq_self_eq_true, Bool.true_and, Option.bind_some]
  by_cases h : a < b
  · rw [decide_eq_true h, cond_true, if_pos h]
  · rw [decide_eq_false h, cond_false, if_neg h, beq_int]
    by_cases h' : a = b
    · rw [decide_eq_true h', cond_true, if_pos h']
    · rw [decide_eq_false h', cond_false, if_neg h']
theorem Compare_ok {k : Nat} {a b c d : Int} (h : Frac a b) (h' : Frac c d) (hk : b.toNat < k) (hk' : d.toNat < k) : ratio_Compare k a b c d = some (if a * d < c * b then -1 else if a * d = c * b then 0 else 1) := by
  obtain ⟨h1, h2, h3, h4, h5⟩ := id h
  obtain ⟨g1, g2, g3, g4, g5⟩ := id h'
  unfold ratio_Compare
  rw [rValidR_ok h hk, rValidR_ok h' hk', wu64 (x := b) (by omega) (by omega), wu64 (x := d) (by omega) (by omega), times_ok (by omega) (by omega) (by omega) (by omega), times_ok (by omega) (by omega) (by omega) (by omega)]
  simp only [Option.bind_some, Bool.not_true, cond_false, uc_mk, blet_mk]
  by_cases ha : a < 0
  · have na : ((a.natAbs : Nat) : Int) = -a := by omega
    rw [decide_eq_true ha]
    by_cases hc : c < 0
    · have nc : ((c.natAbs : Nat) : Int) = -c := by omega
      rw [decide_eq_true hc, na, nc, wcompare_ok, Int.neg_mul, Int.neg_mul]
      simp only [Bool.not_true, Bool.and_false, cond_false, cond_true, Option.bind_some]
      congr 1
      split <;> split <;> (first | (split <;> (try split) <;> omega) | omega)
    · have p1 : a * d < 0 := Int.mul_neg_of_neg_of_pos ha (by omega)
      have p2 : 0 ≤ c * b := Int.mul_nonneg (by omega) (by omega)
      rw [decide_eq_false hc, if_pos (by omega)]
      simp
  · have na : ((a.natAbs : Nat) : Int) = a := by omega
    rw [decide_eq_false ha]
    by_cases hc : c < 0
    · have p1 : 0 ≤ a * d := Int.mul_nonneg (by omega) (by omega)
      have p2 : c * b < 0 := Int.mul_neg_of_neg_of_pos hc (by omega)
      rw [decide_eq_true hc, if_neg (by omega), if_neg (by omega)]
      simp
    · have nc : ((c.natAbs : Nat) : Int) = c := by omega
      rw [decide_eq_false hc, na, nc]
      simp [wcompare_ok]
theorem Less_ok {k : Nat} {a b c d : Int} (h : Frac a b) (h' : Frac c d) (hk : b.toNat < k) (hk' : d.toNat < k) : ratio_Less k a b c d = some (decide (a * d < c * b)) := by
  unfold ratio_Less
  rw [Compare_ok h h' hk hk', Option.bind_some]
  by_cases h : a * d < c * b
  · rw [if_pos h, decide_eq_true h]; rfl
  · rw [if_neg h, decide_eq_false h]
    split <;> rfl
/-- A fraction in lowest terms is less than another just as the fractions are. -/
theorem rless {n d m e : Int} (hd : 0 < d) (he : 0 < e) : rnum n d * rden m e < rnum m e * rden n d ↔ n * e < m * d := by
  have c1 := rcross (n := n) (d := d)
  have c2 := rcross (n := m) (d := e)
  have p1 := rden_pos (n := n) hd
  have p2 := rden_pos (n := m) he
  generalize rnum n d = a at *
  generalize rden n d = b at *
  generalize rnum m e = c at *
  generalize rden m e = f at *
  -- a/b = n/d, c/f = m/e
  have hp : 0 < d * e := Int.mul_pos hd he
  have hq : 0 < b * f := Int.mul_pos p1 p2
  have e1 : a * f * (d * e) = n * e * (b * f) := by
    rw [show a * f * (d * e) = (a * d) * (f * e) by ac_rfl, c1]; ac_rfl
  have e2 : c * b * (d * e) = m * d * (b * f) := by
    rw [show c * b * (d * e) = (c * e) * (b * d) by ac_rfl, c2]; ac_rfl
  constructor
  · intro h
    have := Int.mul_lt_mul_of_pos_right h hp
    rw [e1, e2] at this
    exact Int.lt_of_mul_lt_mul_right this (Int.le_of_lt hq)
  · intro h
    have := Int.mul_lt_mul_of_pos_right h hq
    rw [← e1, ← e2] at this
    exact Int.lt_of_mul_lt_mul_right this (Int.le_of_lt hp)
theorem rlessl {n d m e : Int} (hd : 0 < d) : rnum n d * e < m * rden n d ↔ n * e < m * d := by
  have c1 := rcross (n := n) (d := d)
  have p1 := rden_pos (n := n) hd
  generalize rnum n d = a at *
  generalize rden n d = b at *
  have e1 : a * e * d = n * e * b := by rw [show a * e * d = (a * d) * e by ac_rfl, c1]; ac_rfl
  have e2 : m * b * d = m * d * b := by ac_rfl
  constructor
  · intro h
    have := Int.mul_lt_mul_of_pos_right h hd
    rw [e1, e2] at this
    exact Int.lt_of_mul_lt_mul_right this (Int.le_of_lt p1)
  · intro h
    have := Int.mul_lt_mul_of_pos_right h p1
    rw [← e1, ← e2] at this
    exact Int.lt_of_mul_lt_mul_right this (Int.le_of_lt hd)
theorem rlessr {n d m e : Int} (hd : 0 < d) : m * rden n d < rnum n d * e ↔ m * d < n * e := by
  have c1 := rcross (n := n) (d := d)
  have p1 := rden_pos (n := n) hd
  generalize rnum n d = a at *
  generalize rden n d = b at *
  have e1 : a * e * d = n * e * b := by rw [show a * e * d = (a * d) * e by ac_rfl, c1]; ac_rfl
  have e2 : m * b * d = m * d * b := by ac_rfl
  constructor
  · intro h
    have := Int.mul_lt_mul_of_pos_right h hd
    rw [e1, e2] at this
    exact Int.lt_of_mul_lt_mul_right this (Int.le_of_lt p1)
  · intro h
    have := Int.mul_lt_mul_of_pos_right h p1
    rw [← e1, ← e2] at this
    exact Int.lt_of_mul_lt_mul_right this (Int.le_of_lt hd)
theorem rnum_le_rden {n d : Int} (hd : 0 < d) (h : n ≤ d) : rnum n d ≤ rden n d := by
  have := rlessr (n := n) (d := d) (m := 1) (e := 1) hd
  simp only [Int.one_mul, Int.mul_one] at this
  omega
theorem coprime_dvd {a b c : Int} (h : Int.gcd b a = 1) (hd : b ∣ a * c) : b ∣ c := by
  rw [← Int.natAbs_dvd_natAbs] at hd ⊢
  rw [Int.natAbs_mul] at hd
  exact Nat.Coprime.dvd_of_dvd_mul_left (show Nat.Coprime b.natAbs a.natAbs from h) hd
theorem rnum_eq {n d m e : Int} (hd : 0 < d) (he : 0 < e) (h : n * e = m * d) : rnum n d = rnum m e ∧ rden n d = rden m e := by
  -- both are in lowest terms
  have g1 := rgcd (n := n) hd
  have g2 := rgcd (n := m) he
  have p1 := rden_pos (n := n) hd
  have p2 := rden_pos (n := m) he
  have hx : rnum n d * rden m e = rnum m e * rden n d := by
    have a1 := rless (n := n) (m := m) hd he
    have a2 := rless (n := m) (m := n) he hd
    omega
  generalize rnum n d = a at *
  generalize rden n d = b at *
  generalize rnum m e = c at *
  generalize rden m e = f at *
  have hb : b = f := by
    have d1 : b ∣ f := by
      have : b ∣ a * f := ⟨c, by rw [hx, Int.mul_comm]⟩
      exact coprime_dvd (by rw [Int.gcd_comm]; exact g1) this
    have d2 : f ∣ b := by
      have : f ∣ c * b := ⟨a, by rw [← hx, Int.mul_comm]⟩
      exact coprime_dvd (by rw [Int.gcd_comm]; exact g2) this
    exact Int.dvd_antisymm (by omega) (by omega) d1 d2
  subst hb
  exact ⟨Int.eq_of_mul_eq_mul_right (by omega) hx, rfl⟩
end Go.VM
namespace Go.VM

theorem New_ok {k : Nat} {n d : Int} (hn : -1152921504606846976 ≤ n) (hn2 : n ≤ 1152921504606846976) (hd : 1 ≤ d) (hd2 : d ≤ 1152921504606846976) (hk : d.toNat < k) : ratio_New k n d = some (rnum n d, rden n d, 0) := by
  unfold ratio_New
  rw [show (d == 0) = false by rw [beq_int]; simp; omega, cond_false, abs_ok (by omega) (by omega), abs_ok (by omega) (by omega), Option.bind_some, Option.bind_some]
  rw [show ((d.natAbs : Nat) : Int) = d by omega, lowest_ok (by omega) (by omega) hd hd2 hk]
  rw [show decide (d < 0) = false from decide_eq_false (by omega)]
  simp only [Option.bind_some, uc_mk]
  by_cases h : n < 0
  · rw [decide_eq_true h, show ((n.natAbs : Nat) : Int) = -n by omega, rnum_neg]
    simp [rden, Int.neg_gcd]
  · rw [decide_eq_false h, show ((n.natAbs : Nat) : Int) = n by omega]
    simp
end Go.VM
namespace Go.VM

structure Pt where
  X : Rat
  Y : Rat
def slope (p q : Pt) : Rat := (q.Y - p.Y) / (q.X - p.X)
def line (p q : Pt) (x : Rat) : Rat := p.Y + (x - p.X) * slope p q
theorem slope_mul {p q : Pt} (h : p.X < q.X) : slope p q * (q.X - p.X) = q.Y - p.Y := by
  unfold slope
  exact Rat.div_mul_cancel (by grind)
theorem slope_pos {p q : Pt} (h : p.X < q.X) (h2 : p.Y < q.Y) : 0 < slope p q := by
  have h3 := slope_mul h
  have h4 : 0 < slope p q * (q.X - p.X) := by rw [h3]; grind
  exact (Rat.mul_pos_iff_of_pos_right (by grind)).1 h4
theorem slope_eq {p q : Pt} {s : Rat} (h : p.X < q.X) (e : q.Y = p.Y + (q.X - p.X) * s) : slope p q = s := by
  unfold slope
  have : q.Y - p.Y = s * (q.X - p.X) := by grind
  rw [this]
  exact Rat.mul_div_cancel (by grind)
theorem line_end {p q : Pt} (h : p.X < q.X) : line p q q.X = q.Y := by
  have := slope_mul h
  unfold line
  grind
theorem line_start (p q : Pt) : line p q p.X = p.Y := by unfold line; grind
theorem line_lt {p q : Pt} (hs : 0 < slope p q) {x y : Rat} (h : x < y) : line p q x < line p q y := by
  unfold line
  have := Rat.mul_lt_mul_of_pos_right (show x - p.X < y - p.X by grind) hs
  grind

/-- Points that ascend. -/
def Asc (L : List Pt) : Prop := L.Pairwise fun p q => p.X < q.X ∧ p.Y < q.Y
theorem Asc.tail {p : Pt} {L : List Pt} (h : Asc (p :: L)) : Asc L := (List.pairwise_cons.1 h).2
theorem Asc.head {p q : Pt} {L : List Pt} (h : Asc (p :: q :: L)) : p.X < q.X ∧ p.Y < q.Y := (List.pairwise_cons.1 h).1 q (by simp)
theorem Asc.mem {p q : Pt} {L : List Pt} (h : Asc (p :: L)) (hq : q ∈ L) : p.X < q.X ∧ p.Y < q.Y := (List.pairwise_cons.1 h).1 q hq

/-- The value of a broken line. -/
def evalL : List Pt → Rat → Rat
  | p :: q :: r :: L, x => if q.X < x then evalL (q :: r :: L) x else line p q x
  | p :: q :: [], x => line p q x
  | _, _ => 0
theorem evalL_at : ∀ (L : List Pt), Asc L → 2 ≤ L.length → ∀ p ∈ L, evalL L p.X = p.Y
  | [], _, h, _, _ => by simp at h
  | [_], _, h, _, _ => by simp at h
  | [a, b], hA, _, p, hp => by
    simp only [List.mem_cons, List.not_mem_nil, or_false] at hp
    rcases hp with rfl | rfl
    · exact line_start _ _
    · exact line_end hA.head.1
  | a :: b :: c :: L, hA, _, p, hp => by
    have ih := evalL_at (b :: c :: L) hA.tail (by simp)
    simp only [evalL]
    rw [List.mem_cons] at hp
    rcases hp with rfl | hp
    · rw [if_neg (by have := hA.head.1; grind)]
      exact line_start _ _
    · rw [List.mem_cons] at hp
      rcases hp with rfl | hp
      · rw [if_neg (by grind)]
        exact line_end hA.head.1
      · rw [if_pos (hA.tail.mem hp).1]
        exact ih p (by simp [hp])
theorem evalL_lt : ∀ (L : List Pt), Asc L → 2 ≤ L.length → ∀ {x y : Rat}, x < y → evalL L x < evalL L y
  | [], _, h, _, _, _ => by simp at h
  | [_], _, h, _, _, _ => by simp at h
  | [a, b], hA, _, x, y, hxy => line_lt (slope_pos hA.head.1 hA.head.2) hxy
  | a :: b :: c :: L, hA, _, x, y, hxy => by
    have ih := fun {x y : Rat} => @evalL_lt (b :: c :: L) hA.tail (by simp) x y
    have h0 := evalL_at (b :: c :: L) hA.tail (by simp) b (by simp)
    have hs := slope_pos hA.head.1 hA.head.2
    simp only [evalL]
    by_cases hx : b.X < x
    · rw [if_pos hx, if_pos (by grind)]
      exact ih hxy
    · rw [if_neg hx]
      by_cases hy : b.X < y
      · rw [if_pos hy]
        have h1 := ih hy
        have h2 : line a b x ≤ line a b b.X := by
          by_cases he : x = b.X
          · rw [he]; exact Rat.le_refl
          · exact Rat.le_of_lt (line_lt hs (by grind))
        rw [line_end hA.head.1] at h2
        grind
      · rw [if_neg hy]
        exact line_lt hs hxy
theorem evalL_first {p q r : Pt} {L : List Pt} {x : Rat} (h : ¬ q.X < x) : evalL (p :: q :: r :: L) x = line p q x := by
  simp only [evalL, if_neg h]
/-- The value by the index of the piece. -/
theorem evalL_index : ∀ (L : List Pt) (i : Nat) (x : Rat) (hi : i + 1 < L.length), (∀ (j : Nat) (hj : j + 1 < L.length), j < i → L[j + 1].X < x) → (i + 2 < L.length → ¬ L[i + 1].X < x) → evalL L x = line L[i] L[i + 1] x
  | [], _, _, h, _, _ => by simp at h
  | [_], _, _, h, _, _ => by simp at h
  | [a, b], i, x, hi, _, _ => by
    have : i = 0 := by simp at hi; omega
    subst this
    rfl
  | a :: b :: c :: L, 0, x, hi, h1, h2 => by
    simp only [evalL]
    have h2' : ¬ b.X < x := h2 (by simp)
    rw [if_neg h2']
    rfl
  | a :: b :: c :: L, i + 1, x, hi, h1, h2 => by
    simp only [evalL]
    have h1' : b.X < x := h1 0 (by simp) (by omega)
    rw [if_pos h1']
    have := evalL_index (b :: c :: L) i x (by simpa using hi) (fun j hj hji => h1 (j + 1) (by simpa using hj) (by omega)) (fun h => h2 (by simpa using h))
    rw [this]
    rfl

/-! ### the normal form -/
/-- The points at which the slope, which is s before, changes. -/
def bendsL : Rat → List Pt → List Pt
  | s, p :: q :: L => if slope p q = s then bendsL s (q :: L) else p :: bendsL (slope p q) (q :: L)
  | _, _ => []
theorem bendsL_sub : ∀ (s : Rat) (L : List Pt), (bendsL s L).Sublist L
  | _, [] => by simp [bendsL]
  | _, [_] => by simp [bendsL]
  | s, p :: q :: L => by
    simp only [bendsL]
    split
    · exact (bendsL_sub s (q :: L)).cons p
    · exact (bendsL_sub _ (q :: L)).cons_cons p
/-- Before the first bend the value is that of the first line. -/
theorem evalL_before : ∀ (p q : Pt) (L : List Pt) (x : Rat), Asc (p :: q :: L) → (∀ b ∈ bendsL (slope p q) (q :: L), x ≤ b.X) → evalL (p :: q :: L) x = line p q x
  | p, q, [], x, _, _ => rfl
  | p, q, r :: L, x, hA, hb => by
    simp only [evalL]
    by_cases hx : q.X < x
    · rw [if_pos hx]
      by_cases hs : slope q r = slope p q
      · have e : bendsL (slope p q) (q :: r :: L) = bendsL (slope q r) (r :: L) := by simp only [bendsL]; rw [if_pos hs, hs]
        rw [e] at hb
        rw [evalL_before q r L x hA.tail hb]
        unfold line
        have := slope_mul hA.head.1
        rw [hs]
        grind
      · exfalso
        have := hb q (by simp only [bendsL]; rw [if_neg hs]; simp)
        grind
    · rw [if_neg hx]
/-- What the slopes of a list are. -/
def Slopes (P : Rat → Prop) : List Pt → Prop
  | p :: q :: L => P (slope p q) ∧ Slopes P (q :: L)
  | _ => True
/-- A list with the same first line, the same bends and an end on the same last line is the same broken line, in its own bends. -/
theorem reform {P : Rat → Prop} : ∀ (p q : Pt) (L : List Pt) (p' e : Pt), Asc (p :: q :: L) → p'.Y = p.Y + (p'.X - p.X) * slope p q → p'.X < e.X → (∀ b ∈ bendsL (slope p q) (q :: L), p'.X < b.X ∧ b.X < e.X) → e.Y = evalL (p :: q :: L) e.X →
    ∃ h t, bendsL (slope p q) (q :: L) ++ [e] = h :: t ∧ slope p' h = slope p q ∧ p'.X < h.X ∧ bendsL (slope p q) (h :: t) = bendsL (slope p q) (q :: L) ∧ (∀ x, evalL (p' :: h :: t) x = evalL (p :: q :: L) x) ∧ (Slopes P (p :: q :: L) → Slopes P (p' :: h :: t))
  | p, q, [], p', e, hA, hp, hpe, hb, he => by
    have hs : slope p' e = slope p q := slope_eq hpe (by simp only [evalL, line] at he; grind)
    refine ⟨e, [], rfl, hs, hpe, rfl, fun x => ?_, fun h => ⟨by rw [hs]; exact h.1, trivial⟩⟩
    simp only [evalL, line, hs]
    grind
  | p, q, r :: L, p', e, hA, hp, hpe, hb, he => by
    by_cases hs : slope q r = slope p q
    · have eb : bendsL (slope p q) (q :: r :: L) = bendsL (slope q r) (r :: L) := by simp only [bendsL]; rw [if_pos hs, hs]
      have hsame : ∀ x, evalL (p :: q :: r :: L) x = evalL (q :: r :: L) x := fun x => by
        have hq := slope_mul hA.head.1
        have hr := hA.tail.head.1
        simp only [evalL]
        by_cases hx : q.X < x
        · rw [if_pos hx]
        · rw [if_neg hx]
          have : evalL (q :: r :: L) x = line q r x := by
            cases L with
            | nil => rfl
            | cons c L => exact evalL_first (by grind)
          rw [this]
          unfold line
          rw [hs]
          grind
      rw [eb] at hb ⊢
      rw [hsame] at he
      have hq := slope_mul hA.head.1
      obtain ⟨h, t, e1, e2, e3, e4, e5, e6⟩ := @reform P q r L p' e hA.tail (by rw [hs]; grind) hpe hb he
      exact ⟨h, t, e1, by rw [e2, hs], e3, by rw [← hs]; exact e4, fun x => by rw [e5, hsame], fun hS => e6 hS.2⟩
    · have eb : bendsL (slope p q) (q :: r :: L) = q :: bendsL (slope q r) (r :: L) := by simp only [bendsL]; rw [if_neg hs]
      rw [eb] at hb ⊢
      have hq := hb q (by simp)
      have hq2 := slope_mul hA.head.1
      have he2 : e.Y = evalL (q :: r :: L) e.X := by rw [he]; simp only [evalL]; rw [if_pos hq.2]
      have hAb : ∀ b ∈ bendsL (slope q r) (r :: L), q.X < b.X := fun b hb' => (hA.tail.mem ((bendsL_sub _ _).subset hb')).1
      obtain ⟨h, t, e1, e2, e3, e4, e5, e6⟩ := @reform P q r L q e hA.tail (by grind) hq.2 (fun b hb' => ⟨hAb b hb', (hb b (by simp [hb'])).2⟩) he2
      have hpq : slope p' q = slope p q := slope_eq hq.1 (by grind)
      refine ⟨q, bendsL (slope q r) (r :: L) ++ [e], rfl, hpq, hq.1, ?_, fun x => ?_, fun hS => ?_⟩
      · rw [e1]
        simp only [bendsL]
        rw [e2, if_neg hs, e4]
      · rw [e1]
        simp only [evalL]
        rw [e5]
        by_cases hx : q.X < x
        · rw [if_pos hx, if_pos hx]
        · rw [if_neg hx, if_neg hx]
          unfold line
          rw [hpq]
          grind
      · rw [e1]
        exact ⟨by rw [hpq]; exact hS.1, e6 hS.2⟩
def fromX (B : List Pt) : Rat := match B with
  | [] => 0
  | b :: _ => b.X - 1
def toX (B : List Pt) : Rat := match B.getLast? with
  | none => 1
  | some b => b.X + 1
/-- The normal form. -/
def normalL : List Pt → List Pt
  | p :: q :: L => ⟨fromX (bendsL (slope p q) (q :: L)), evalL (p :: q :: L) (fromX (bendsL (slope p q) (q :: L)))⟩ :: (bendsL (slope p q) (q :: L) ++ [⟨toX (bendsL (slope p q) (q :: L)), evalL (p :: q :: L) (toX (bendsL (slope p q) (q :: L)))⟩])
  | _ => []
theorem ends {B : List Pt} (hB : Asc B) : fromX B < toX B ∧ ∀ b ∈ B, fromX B < b.X ∧ b.X < toX B := by
  cases B with
  | nil => exact ⟨by simp only [fromX, toX]; decide, by simp⟩
  | cons a B =>
    have hlo : ∀ b ∈ a :: B, a.X ≤ b.X := fun b hb => by
      rw [List.mem_cons] at hb
      rcases hb with rfl | hb
      · exact Rat.le_refl
      · exact Rat.le_of_lt (hB.mem hb).1
    have hhi : ∀ b ∈ a :: B, b.X ≤ ((a :: B).getLast (by simp)).X := fun b hb => by
      rw [← List.dropLast_concat_getLast (l := a :: B) (by simp)] at hb hB
      rw [List.mem_append, List.mem_singleton] at hb
      rcases hb with hb | hb
      · have := (List.pairwise_append.1 hB).2.2 b hb _ (List.mem_singleton.2 rfl)
        exact Rat.le_of_lt this.1
      · rw [hb]; exact Rat.le_refl
    have e1 : fromX (a :: B) = a.X - 1 := rfl
    have e2 : toX (a :: B) = ((a :: B).getLast (by simp)).X + 1 := by
      unfold toX
      rw [List.getLast?_eq_some_getLast (by simp)]
    rw [e1, e2]
    have h1 := hlo ((a :: B).getLast (by simp)) (List.getLast_mem _)
    exact ⟨by grind, fun b hb => by have := hlo b hb; have := hhi b hb; exact ⟨by grind, by grind⟩⟩
theorem normalL_spec {P : Rat → Prop} {L : List Pt} (hA : Asc L) (h2 : 2 ≤ L.length) : Asc (normalL L) ∧ 2 ≤ (normalL L).length ∧ (∀ x, evalL (normalL L) x = evalL L x) ∧ normalL (normalL L) = normalL L ∧ (Slopes P L → Slopes P (normalL L)) := by
  match L, h2 with
  | p :: q :: L, _ =>
    have hsub := bendsL_sub (slope p q) (q :: L)
    have hB : Asc (bendsL (slope p q) (q :: L)) := List.Pairwise.sublist hsub hA.tail
    obtain ⟨hft, hb⟩ := ends hB
    have hf := evalL_before p q L (fromX (bendsL (slope p q) (q :: L))) hA fun b h => Rat.le_of_lt (hb b h).1
    obtain ⟨h, t, e1, e2, e3, e4, e5, e6⟩ := @reform P p q L ⟨fromX (bendsL (slope p q) (q :: L)), evalL (p :: q :: L) (fromX (bendsL (slope p q) (q :: L)))⟩ ⟨toX (bendsL (slope p q) (q :: L)), evalL (p :: q :: L) (toX (bendsL (slope p q) (q :: L)))⟩ hA (by rw [hf]; rfl) hft hb rfl
    have eN : normalL (p :: q :: L) = ⟨fromX (bendsL (slope p q) (q :: L)), evalL (p :: q :: L) (fromX (bendsL (slope p q) (q :: L)))⟩ :: h :: t := by
      simp only [normalL]; rw [e1]
    have hval : ∀ b ∈ bendsL (slope p q) (q :: L), evalL (p :: q :: L) b.X = b.Y := fun b hb' => evalL_at _ hA (by simp) b (List.mem_cons_of_mem _ (hsub.subset hb'))
    refine ⟨?_, by rw [eN]; simp, fun x => by rw [eN]; exact e5 x, ?_, fun hS => by rw [eN]; exact e6 hS⟩
    · simp only [normalL]
      have hlt := fun {x y : Rat} => @evalL_lt (p :: q :: L) hA (by simp) x y
      refine List.pairwise_cons.2 ⟨fun c hc => ?_, List.pairwise_append.2 ⟨hB, by simp, fun b hb' c hc => ?_⟩⟩
      · rw [List.mem_append, List.mem_singleton] at hc
        rcases hc with hc | rfl
        · exact ⟨(hb c hc).1, by rw [← hval c hc]; exact hlt (hb c hc).1⟩
        · exact ⟨hft, hlt hft⟩
      · rw [List.mem_singleton] at hc
        subst hc
        exact ⟨(hb b hb').2, by rw [← hval b hb']; exact hlt (hb b hb').2⟩
    · rw [eN]
      simp only [normalL]
      rw [e2, e4, e5, e5, e1]
end Go.VM
namespace Go.VM

/-- v is n / D for a whole number n of magnitude at most B. -/
def Grid (D B : Nat) (v : Rat) : Prop := ∃ n : Int, v * D = n ∧ n.natAbs ≤ B
theorem natCast_ne {D : Nat} (h : D ≠ 0) : (D : Rat) ≠ 0 := by
  intro h0
  have := congrArg Rat.num h0
  simp at this
  exact h this
theorem Grid.mk {D B : Nat} {v : Rat} (hD : D ≠ 0) (h : Grid D B v) : ∃ n : Int, v = mkRat n D ∧ n.natAbs ≤ B := by
  obtain ⟨n, e, hn⟩ := h
  refine ⟨n, ?_, hn⟩
  rw [Rat.mkRat_eq_div, ← e, Rat.mul_div_cancel (natCast_ne hD)]
theorem Grid.num {D B : Nat} {v : Rat} (hD : D ≠ 0) (h : Grid D B v) : v.num.natAbs ≤ B ∧ v.den ≤ D := by
  obtain ⟨n, rfl, hn⟩ := h.mk hD
  rw [Rat.num_mkRat, Rat.den_mkRat, if_neg hD, if_neg hD]
  constructor
  · have hg : ((D.gcd n.natAbs : Nat) : Int) ∣ n := Int.ofNat_dvd_left.2 (Nat.gcd_dvd_right ..)
    have := Int.natAbs_ediv_of_dvd hg
    rw [this]
    have := Nat.div_le_self n.natAbs (D.gcd n.natAbs)
    simp only [Int.natAbs_natCast]
    omega
  · exact Nat.div_le_self ..
theorem Grid.add {D B C : Nat} {v w : Rat} (h : Grid D B v) (h' : Grid D C w) : Grid D (B + C) (v + w) := by
  obtain ⟨n, e, hn⟩ := h
  obtain ⟨m, e', hm⟩ := h'
  exact ⟨n + m, by rw [Rat.intCast_add]; grind, by omega⟩
theorem Grid.sub {D B C : Nat} {v w : Rat} (h : Grid D B v) (h' : Grid D C w) : Grid D (B + C) (v - w) := by
  obtain ⟨n, e, hn⟩ := h
  obtain ⟨m, e', hm⟩ := h'
  exact ⟨n - m, by rw [Rat.intCast_sub]; grind, by omega⟩
theorem Grid.mul {D B E C : Nat} {v w : Rat} (h : Grid D B v) (h' : Grid E C w) : Grid (D * E) (B * C) (v * w) := by
  obtain ⟨n, e, hn⟩ := h
  obtain ⟨m, e', hm⟩ := h'
  refine ⟨n * m, by rw [Rat.intCast_mul, Rat.natCast_mul]; grind, ?_⟩
  rw [Int.natAbs_mul]
  exact Nat.mul_le_mul hn hm
theorem Grid.up {D B : Nat} {v : Rat} (k : Nat) (h : Grid D B v) : Grid (D * k) (B * k) v := by
  obtain ⟨n, e, hn⟩ := h
  refine ⟨n * (k : Int), by rw [Rat.intCast_mul, Rat.natCast_mul, Rat.intCast_natCast]; grind, ?_⟩
  rw [Int.natAbs_mul]
  exact Nat.mul_le_mul hn (by omega)
theorem Grid.le {D B C : Nat} {v : Rat} (h : Grid D B v) (hBC : B ≤ C) : Grid D C v := by
  obtain ⟨n, e, hn⟩ := h
  exact ⟨n, e, by omega⟩
theorem grid_int (D : Nat) (n : Int) (B : Nat) (h : n.natAbs ≤ B) : Grid D (B * D) (n : Rat) := by
  refine ⟨n * (D : Int), by rw [Rat.intCast_mul, Rat.intCast_natCast], ?_⟩
  rw [Int.natAbs_mul]
  exact Nat.mul_le_mul h (by omega)
theorem Slopes.get {P : Rat → Prop} : ∀ {L : List Pt}, Slopes P L → ∀ (i : Nat) (hi : i + 1 < L.length), P (slope L[i] L[i + 1])
  | [], _, _, hi => by simp at hi
  | [_], _, _, hi => by simp at hi
  | p :: q :: L, h, 0, hi => h.1
  | p :: q :: L, h, i + 1, hi => Slopes.get (L := q :: L) h.2 i (by simpa using hi)
theorem Slopes.of {P : Rat → Prop} : ∀ {L : List Pt}, (∀ (i : Nat) (hi : i + 1 < L.length), P (slope L[i] L[i + 1])) → Slopes P L
  | [], _ => trivial
  | [_], _ => trivial
  | p :: q :: L, h => ⟨h 0 (by simp), Slopes.of (L := q :: L) fun i hi => h (i + 1) (by simpa using hi)⟩
theorem evalL_piece : ∀ (L : List Pt) (x : Rat), 2 ≤ L.length → ∃ (i : Nat) (hi : i + 1 < L.length), evalL L x = line L[i] L[i + 1] x
  | [], _, h => by simp at h
  | [_], _, h => by simp at h
  | [p, q], x, _ => ⟨0, by simp, rfl⟩
  | p :: q :: r :: L, x, _ => by
    simp only [evalL]
    split
    · obtain ⟨i, hi, e⟩ := evalL_piece (q :: r :: L) x (by simp)
      exact ⟨i + 1, by simpa using hi, e⟩
    · exact ⟨0, by simp, rfl⟩
/-- A broken line all of whose numbers lie on grids. -/
structure OnGrid (D E B C F : Nat) (L : List Pt) : Prop where
  asc : Asc L
  two : 2 ≤ L.length
  xs : ∀ p ∈ L, Grid D B p.X
  ys : ∀ p ∈ L, Grid (D * E) C p.Y
  ss : Slopes (Grid E F) L
theorem OnGrid.eval {D E B C F B' : Nat} {L : List Pt} (h : OnGrid D E B C F L) {x : Rat} (hx : Grid D B' x) : Grid (D * E) (C + (B' + B) * F) (evalL L x) := by
  obtain ⟨i, hi, e⟩ := evalL_piece L x h.two
  rw [e]
  unfold line
  exact (h.ys _ (List.getElem_mem _)).add ((hx.sub (h.xs _ (List.getElem_mem _))).mul (h.ss.get i hi))
theorem OnGrid.normal {D E B C F : Nat} {L : List Pt} (hD : D ≠ 0) (h : OnGrid D E B C F L) : OnGrid D E (B + D) (C + (B + D + B) * F) F (normalL L) := by
  obtain ⟨n1, n2, n3, n4, n5⟩ := normalL_spec (P := Grid E F) h.asc h.two
  have hone : Grid D D 1 := ⟨D, by rw [Rat.one_mul, Rat.intCast_natCast], by omega⟩
  have hzero : Grid D 0 0 := ⟨0, by rw [Rat.zero_mul]; rfl, by omega⟩
  have key : ∀ p ∈ normalL L, Grid D (B + D) p.X ∧ (p ∈ L ∨ p.Y = evalL L p.X) := by
    match L, h.two with
    | p :: q :: R, _ =>
      have hsub : (bendsL (slope p q) (q :: R)).Sublist (p :: q :: R) := (bendsL_sub _ _).cons p
      intro z hz
      simp only [normalL] at hz
      generalize bendsL (slope p q) (q :: R) = Bs at *
      rw [List.mem_cons, List.mem_append, List.mem_singleton] at hz
      rcases hz with rfl | hz | rfl
      · refine ⟨?_, .inr rfl⟩
        cases Bs with
        | nil => exact hzero.le (by omega)
        | cons b Bs => exact (h.xs b (hsub.subset (by simp))).sub hone
      · exact ⟨(h.xs z (hsub.subset hz)).le (by omega), .inl (hsub.subset hz)⟩
      · refine ⟨?_, .inr rfl⟩
        dsimp only
        unfold toX
        cases hl : Bs.getLast? with
        | none => exact hone.le (by omega)
        | some b => exact (h.xs b (hsub.subset (List.mem_of_getLast? hl))).add hone
  refine ⟨n1, n2, fun p hp => (key p hp).1, fun p hp => ?_, n5 h.ss⟩
  obtain ⟨k1, k2⟩ := key p hp
  rcases k2 with k2 | k2
  · exact (h.ys p k2).le (by omega)
  · rw [k2]
    exact h.eval k1
end Go.VM
namespace Go.VM

theorem fdiv_mask {x : Int} (h1 : 0 ≤ x) (h2 : x ≤ 18446744073709551615) : iand .u64 x 4294967295 = x % 4294967296 := by
  unfold iand
  obtain ⟨n, rfl⟩ : ∃ n : Nat, x = n := ⟨x.toNat, by omega⟩
  have e : (BitVec.ofInt IntKind.u64.bits ((n : Nat) : Int) &&& BitVec.ofInt IntKind.u64.bits 4294967295).toNat = n % 4294967296 := by
    rw [BitVec.toNat_and]
    have e1 : (BitVec.ofInt IntKind.u64.bits ((n : Nat) : Int)).toNat = n := by
      rw [BitVec.toNat_ofInt]
      simp [IntKind.bits]
      omega
    have e2 : (BitVec.ofInt IntKind.u64.bits 4294967295).toNat = 2 ^ 32 - 1 := by decide
    rw [e1, e2, Nat.and_two_pow_sub_one_eq_mod]
  rw [e]
  have : ((n % 4294967296 : Nat) : Int) = (n : Int) % 4294967296 := Int.natCast_emod ..
  rw [this]
  exact wu64 (by omega) (by omega)
theorem wu64_mod (x : Int) (h : 0 ≤ x) : IntKind.wrap .u64 x = x % 18446744073709551616 := by
  simp [IntKind.wrap, IntKind.signed, IntKind.bits]
/-- The product of two words, in two words. -/
theorem Mul64_full {k : Nat} {x y : Int} (hx0 : 0 ≤ x) (hx : x ≤ 18446744073709551615) (hy0 : 0 ≤ y) (hy : y ≤ 18446744073709551615) : math_bits_Mul64 k x y = some (x * y / 18446744073709551616, x * y % 18446744073709551616) := by
  unfold math_bits_Mul64
  simp only [shift32, fdiv32]
  rw [fdiv_mask hx0 hx, fdiv_mask hy0 hy, wu64_mod (x * y) (Int.mul_nonneg hx0 hy0)]
  obtain ⟨a, ha⟩ : ∃ a, a = x / 4294967296 := ⟨_, rfl⟩
  obtain ⟨b, hb⟩ : ∃ b, b = x % 4294967296 := ⟨_, rfl⟩
  obtain ⟨c, hc⟩ : ∃ c, c = y / 4294967296 := ⟨_, rfl⟩
  obtain ⟨d, hd⟩ : ∃ d, d = y % 4294967296 := ⟨_, rfl⟩
  have ex : x = 4294967296 * a + b := by omega
  have ey : y = 4294967296 * c + d := by omega
  rw [← ha, ← hb, ← hc, ← hd]
  have a1 : 0 ≤ a ∧ a ≤ 4294967295 := by omega
  have b1 : 0 ≤ b ∧ b ≤ 4294967295 := by omega
  have c1 : 0 ≤ c ∧ c ≤ 4294967295 := by omega
  have d1 : 0 ≤ d ∧ d ≤ 4294967295 := by omega
  have hxy : x * y = 18446744073709551616 * (a * c) + 4294967296 * (a * d + b * c) + b * d := by
    rw [ex, ey]
    simp only [Int.add_mul, Int.mul_add]
    have e1 : 4294967296 * a * (4294967296 * c) = 18446744073709551616 * (a * c) := by
      rw [show (18446744073709551616 : Int) = 4294967296 * 4294967296 by decide]; ac_rfl
    have e2 : 4294967296 * a * d = 4294967296 * (a * d) := by ac_rfl
    have e3 : b * (4294967296 * c) = 4294967296 * (b * c) := by ac_rfl
    omega
  rw [hxy]
  have m1 : 0 ≤ a * c ∧ a * c ≤ 4294967295 * 4294967295 := ⟨Int.mul_nonneg a1.1 c1.1, Int.mul_le_mul a1.2 c1.2 c1.1 (by omega)⟩
  have m2 : 0 ≤ a * d ∧ a * d ≤ 4294967295 * 4294967295 := ⟨Int.mul_nonneg a1.1 d1.1, Int.mul_le_mul a1.2 d1.2 d1.1 (by omega)⟩
  have m3 : 0 ≤ b * c ∧ b * c ≤ 4294967295 * 4294967295 := ⟨Int.mul_nonneg b1.1 c1.1, Int.mul_le_mul b1.2 c1.2 c1.1 (by omega)⟩
  have m4 : 0 ≤ b * d ∧ b * d ≤ 4294967295 * 4294967295 := ⟨Int.mul_nonneg b1.1 d1.1, Int.mul_le_mul b1.2 d1.2 d1.1 (by omega)⟩
  clear hxy ex ey ha hb hc hd
  generalize a * c = A at *
  generalize a * d = B at *
  generalize b * c = C at *
  generalize b * d = D at *
  rw [wu64 (x := D) (by omega) (by omega), wu64 (x := B) (by omega) (by omega), wu64 (x := A) (by omega) (by omega), wu64 (x := C) (by omega) (by omega), wu64 (x := B + D / 4294967296) (by omega) (by omega), fdiv_mask (x := B + D / 4294967296) (by omega) (by omega)]
  rw [wu64 (x := (B + D / 4294967296) % 4294967296 + C) (by omega) (by omega), wu64 (x := A + (B + D / 4294967296) / 4294967296) (by omega) (by omega), wu64 (by omega) (by omega)]
  congr 2
  omega
theorem Mul64_small {k : Nat} {x y : Int} (hx0 : 0 ≤ x) (hx : x ≤ 18446744073709551615) (hy0 : 0 ≤ y) (hy : y ≤ 18446744073709551615) (h : x * y ≤ 18446744073709551615) : math_bits_Mul64 k x y = some (0, x * y) := by
  rw [Mul64_full hx0 hx hy0 hy]
  have := Int.mul_nonneg hx0 hy0
  generalize x * y = p at *
  rw [show p / 18446744073709551616 = 0 by omega, show p % 18446744073709551616 = p by omega]
theorem times_full {k : Nat} {n b : Int} (h1 : -1152921504606846976 ≤ n) (h2 : n ≤ 1152921504606846976) (h3 : 0 ≤ b) (h4 : b ≤ 1152921504606846976) : ratio_times k n b = some ((n.natAbs : Int) * b / 18446744073709551616, (n.natAbs : Int) * b % 18446744073709551616) := by
  unfold ratio_times
  rw [abs_ok (by omega) (by omega), Option.bind_some, Mul64_full (by omega) (by omega) h3 (by omega)]
  rfl
theorem times_small {k : Nat} {n b : Int} (h1 : -1152921504606846976 ≤ n) (h2 : n ≤ 1152921504606846976) (h3 : 0 ≤ b) (h4 : b ≤ 1152921504606846976) (h : (n.natAbs : Int) * b ≤ 18446744073709551615) : ratio_times k n b = some (0, (n.natAbs : Int) * b) := by
  unfold ratio_times
  rw [abs_ok (by omega) (by omega), Option.bind_some, Mul64_small (by omega) (by omega) h3 (by omega) h]
  rfl
/-- A number that is valid as a fraction. -/
def Sm (x : Rat) : Prop := -1152921504606846976 ≤ x.num ∧ x.num ≤ 1152921504606846976 ∧ (x.den : Int) ≤ 1152921504606846976
theorem den_pos (x : Rat) : (1 : Int) ≤ x.den := by have := x.den_pos; omega
theorem rat_gcd (x : Rat) : Int.gcd x.num (x.den : Int) = 1 := x.reduced
theorem rnum_rat (n : Int) {d : Nat} (hd : d ≠ 0) : rnum n d = (mkRat n d).num := by
  rw [Rat.num_mkRat, if_neg hd, Nat.gcd_comm]
  rfl
theorem rden_rat (n : Int) {d : Nat} (hd : d ≠ 0) : rden n d = ((mkRat n d).den : Int) := by
  rw [Rat.den_mkRat, if_neg hd, Nat.gcd_comm]
  rfl
/-- What the lowest terms of n / d are. -/
theorem lowest_rat {n d : Int} (hd : 1 ≤ d) (x : Rat) (h : n * x.den = x.num * d) : rnum n d = x.num ∧ rden n d = x.den := by
  have h1 := rnum_eq (n := n) (d := d) (m := x.num) (e := x.den) (by omega) (by have := den_pos x; omega) h
  have h2 : rnum x.num x.den = x.num := by unfold rnum; rw [rat_gcd]; simp
  have h3 : rden x.num x.den = x.den := by unfold rden; rw [rat_gcd]; simp
  rw [h2, h3] at h1
  exact h1
abbrev fuel : Nat := 2305843009213693952
theorem rat_valid {x : Rat} (h : Sm x) : ratio_Valid fuel x.num x.den = some true := by
  obtain ⟨h1, h2, h3⟩ := h
  have p := den_pos x
  unfold ratio_Valid
  rw [show decide ((x.den : Int) ≥ 1) = true from decide_eq_true (by omega), show decide ((x.den : Int) ≤ 1152921504606846976) = true from decide_eq_true (by omega), show decide (x.num ≥ -1152921504606846976) = true from decide_eq_true (by omega), show decide (x.num ≤ 1152921504606846976) = true from decide_eq_true (by omega)]
  simp only [blet_mk, Bool.and_true, cond_true]
  rw [abs_ok (by omega) (by omega), wu64 (by omega) (by omega), Option.bind_some, gcd_ok (by omega) (by omega) (by unfold fuel; omega), Option.bind_some, Option.bind_some]
  rw [show Int.gcd (x.num.natAbs : Int) (x.den : Int) = Int.gcd x.num x.den by simp [Int.gcd], rat_gcd]
  rfl
theorem wcompare_full {k : Nat} {s t : Bool} {a b : Int} (ha : 0 ≤ a) (hb : 0 ≤ b) : ratio_wide_compare k s (a / 18446744073709551616) (a % 18446744073709551616) t (b / 18446744073709551616) (b % 18446744073709551616) = some (if a < b then -1 else if a = b then 0 else 1) := by
  unfold ratio_wide_compare
  simp only [blet_mk, bne_int, beq_int]
  by_cases h1 : a / 18446744073709551616 < b / 18446744073709551616
  · rw [if_pos (by omega), decide_eq_true (show a / 18446744073709551616 ≠ b / 18446744073709551616 by omega), decide_eq_true h1]
    rfl
  · rw [decide_eq_false h1, Bool.and_false, cond_false]
    by_cases h2 : a / 18446744073709551616 = b / 18446744073709551616
    · rw [decide_eq_true h2, Bool.true_and, Bool.true_and, Option.bind_some]
      by_cases h3 : a % 18446744073709551616 < b % 18446744073709551616
      · rw [decide_eq_true h3, cond_true, if_pos (by omega)]
      · rw [decide_eq_false h3, cond_false, if_neg (by omega)]
        by_cases h4 : a % 18446744073709551616 = b % 18446744073709551616
        · rw [decide_eq_true h4, cond_true, if_pos (by omega)]
        · rw [decide_eq_false h4, cond_false, if_neg (by omega)]
    · rw [decide_eq_false h2, Bool.false_and, Bool.false_and, Option.bind_some, cond_false, cond_false, if_neg (by omega), if_neg (by omega)]
theorem rat_compare {x y : Rat} (h : Sm x) (h' : Sm y) : ratio_Compare fuel x.num x.den y.num y.den = some (if x < y then -1 else if x = y then 0 else 1) := by
  obtain ⟨h1, h2, h3⟩ := id h
  obtain ⟨g1, g2, g3⟩ := id h'
  have px := den_pos x
  have py := den_pos y
  have el : x < y ↔ x.num * y.den < y.num * x.den := Rat.lt_iff x y
  have ee : x = y ↔ x.num * y.den = y.num * x.den := Rat.eq_iff_mul_eq_mul
  unfold ratio_Compare
  rw [rat_valid h, rat_valid h', wu64 (x := (x.den : Int)) (by omega) (by omega), wu64 (x := (y.den : Int)) (by omega) (by omega), times_full h1 h2 (by omega) (by omega), times_full g1 g2 (by omega) (by omega)]
  simp only [Option.bind_some, Bool.not_true, cond_false, uc_mk, blet_mk]
  rw [show (if x < y then (-1 : Int) else if x = y then 0 else 1) = (if x.num * y.den < y.num * x.den then -1 else if x.num * y.den = y.num * x.den then 0 else 1) by simp only [el, ee]]
  clear el ee
  generalize x.num = a at *
  generalize y.num = c at *
  generalize (x.den : Int) = b at *
  generalize (y.den : Int) = d at *
  by_cases ha : a < 0
  · have na : ((a.natAbs : Nat) : Int) = -a := by omega
    rw [decide_eq_true ha]
    by_cases hc : c < 0
    · have nc : ((c.natAbs : Nat) : Int) = -c := by omega
      have p1 : 0 ≤ -a * d := Int.mul_nonneg (by omega) (by omega)
      have p2 : 0 ≤ -c * b := Int.mul_nonneg (by omega) (by omega)
      rw [decide_eq_true hc, na, nc, wcompare_full p2 p1, Int.neg_mul, Int.neg_mul]
      simp only [Bool.not_true, Bool.and_false, cond_false, cond_true, Option.bind_some]
      congr 1
      split <;> split <;> (first | (split <;> (try split) <;> omega) | omega)
    · have p1 : a * d < 0 := Int.mul_neg_of_neg_of_pos ha (by omega)
      have p2 : 0 ≤ c * b := Int.mul_nonneg (by omega) (by omega)
      rw [decide_eq_false hc, if_pos (by omega)]
      simp
  · have na : ((a.natAbs : Nat) : Int) = a := by omega
    rw [decide_eq_false ha]
    by_cases hc : c < 0
    · have p1 : 0 ≤ a * d := Int.mul_nonneg (by omega) (by omega)
      have p2 : c * b < 0 := Int.mul_neg_of_neg_of_pos hc (by omega)
      rw [decide_eq_true hc, if_neg (by omega), if_neg (by omega)]
      simp
    · have nc : ((c.natAbs : Nat) : Int) = c := by omega
      have p1 : 0 ≤ a * d := Int.mul_nonneg (by omega) (by omega)
      have p2 : 0 ≤ c * b := Int.mul_nonneg (by omega) (by omega)
      rw [decide_eq_false hc, na, nc]
      simp only [Bool.not_false, Bool.and_true, Bool.false_and, cond_false]
      rw [wcompare_full p1 p2]
      rfl
theorem rat_less {x y : Rat} (h : Sm x) (h' : Sm y) : ratio_Less fuel x.num x.den y.num y.den = some (decide (x < y)) := by
  unfold ratio_Less
  rw [rat_compare h h', Option.bind_some]
  by_cases h : x < y
  · rw [if_pos h, decide_eq_true h]; rfl
  · rw [if_neg h, decide_eq_false h]
    split <;> rfl
/-- lowest on a signed numerator. -/
theorem lowest_signed {s : Bool} {N d t : Int} (x : Rat) (hN : 0 ≤ N) (hN2 : N ≤ 1152921504606846976) (hd : 1 ≤ d) (hd2 : d ≤ 1152921504606846976) (ht : t = bif s then -N else N) (hx : t * x.den = x.num * d) : ratio_lowest fuel s 0 N d = some (x.num, (x.den : Int), 0) := by
  rw [lowest_ok hN hN2 hd hd2 (by unfold fuel; omega)]
  have h := lowest_rat hd x hx
  have e1 : (bif s then -rnum N d else rnum N d) = rnum t d := by
    cases s
    · rw [ht]; rfl
    · rw [ht, cond_true, cond_true, rnum_neg]
  have e2 : rden N d = rden t d := by
    cases s
    · rw [ht]; rfl
    · rw [ht, cond_true]; unfold rden; rw [Int.neg_gcd]
  rw [e1, e2, h.1, h.2]
theorem wplus_ok {k : Nat} {u v : Int} (hu : (u.natAbs : Int) ≤ 2305843009213693952) (hv : (v.natAbs : Int) ≤ 2305843009213693952) :
    ∃ s N, ratio_wide_plus k (decide (u < 0)) 0 u.natAbs (decide (v < 0)) 0 v.natAbs = some (s, 0, N) ∧ u + v = (bif s then -N else N) ∧ 0 ≤ N ∧ N ≤ (u.natAbs : Int) + v.natAbs := by
  unfold ratio_wide_plus
  by_cases hs : decide (u < 0) = decide (v < 0)
  · rw [show (decide (u < 0) == decide (v < 0)) = true by rw [hs]; simp, cond_true, gcarry_some (by omega) (by omega) (by omega) (by omega), gcarry_some (by omega) (by omega) (by omega) (by omega)]
    refine ⟨decide (u < 0), (u.natAbs : Int) + v.natAbs, ?_, ?_, by omega, by omega⟩
    · congr 2
      congr 1 <;> omega
    · by_cases h : u < 0
      · have h2 : v < 0 := by rw [decide_eq_true h] at hs; exact of_decide_eq_true hs.symm
        rw [decide_eq_true h, cond_true]; omega
      · have h2 : ¬ v < 0 := by rw [decide_eq_false h] at hs; exact of_decide_eq_false hs.symm
        rw [decide_eq_false h, cond_false]; omega
  · rw [show (decide (u < 0) == decide (v < 0)) = false by simpa using hs, cond_false, wcompare_ok, Option.bind_some]
    have hsgn : u < 0 ∧ ¬ v < 0 ∨ ¬ u < 0 ∧ v < 0 := by
      by_cases h : u < 0 <;> by_cases h2 : v < 0 <;> simp [h, h2] at hs ⊢
    by_cases hlt : (u.natAbs : Int) < v.natAbs
    · rw [if_pos hlt]
      rw [show decide ((-1 : Int) < 0) = true from rfl, cond_true, Option.bind_some]
      simp only [uc_mk]
      rw [if_neg (show ¬ (v.natAbs : Int) < u.natAbs + 0 by omega), gcarry_some (by omega) (by omega) (by omega) (by omega), gle_some (by omega), gcarry_some (by omega) (by omega) (by omega) (by omega), gle_some (by omega)]
      refine ⟨decide (v < 0), (v.natAbs : Int) - u.natAbs, ?_, ?_, by omega, by omega⟩
      · congr 2
        congr 1; omega
      · rcases hsgn with ⟨h1, h2⟩ | ⟨h1, h2⟩
        · rw [decide_eq_false h2, cond_false]; omega
        · rw [decide_eq_true h2, cond_true]; omega
    · rw [if_neg hlt]
      rw [show decide ((if (u.natAbs : Int) = v.natAbs then (0 : Int) else 1) < 0) = false by split <;> rfl, cond_false, Option.bind_some]
      simp only [uc_mk]
      rw [if_neg (show ¬ (u.natAbs : Int) < v.natAbs + 0 by omega), gcarry_some (by omega) (by omega) (by omega) (by omega), gle_some (by omega), gcarry_some (by omega) (by omega) (by omega) (by omega), gle_some (by omega)]
      refine ⟨decide (u < 0), (u.natAbs : Int) - v.natAbs, ?_, ?_, by omega, by omega⟩
      · congr 2
        congr 1; omega
      · rcases hsgn with ⟨h1, h2⟩ | ⟨h1, h2⟩
        · rw [decide_eq_true h1, cond_true]; omega
        · rw [decide_eq_false h1, cond_false]; omega
theorem natAbs_mul_pos (a : Int) {q : Int} (hq : 0 < q) : ((a * q).natAbs : Int) = a.natAbs * q ∧ (a < 0 ↔ a * q < 0) := by
  constructor
  · rw [Int.natAbs_mul]
    rw [Int.natCast_mul]
    congr 1
    omega
  · constructor
    · intro h; exact Int.mul_neg_of_neg_of_pos h hq
    · intro h
      rcases Int.lt_or_le a 0 with h' | h'
      · exact h'
      · have := Int.mul_nonneg h' (Int.le_of_lt hq); omega
/-- The parts of a number by a common divisor. -/
theorem parts {a g : Int} (h : g ∣ a) : a = g * (a / g) := by rw [Int.mul_comm]; exact (Int.ediv_mul_cancel h).symm
theorem div_le {a g : Int} (ha : 0 ≤ a) : 0 ≤ g → 0 ≤ a / g ∧ a / g ≤ a := fun hg => ⟨Int.ediv_nonneg ha hg, Int.ediv_le_self g ha⟩
theorem div_pos_ {a g : Int} (ha : 0 < a) (hg : 0 < g) (h : g ∣ a) : 0 < a / g := by
  have := parts h
  have h1 : 0 ≤ a / g := Int.ediv_nonneg (by omega) (by omega)
  rcases Int.lt_or_le 0 (a / g) with h2 | h2
  · exact h2
  · have h3 : a / g = 0 := by omega
    rw [h3, Int.mul_zero] at this
    omega
theorem mul_hi {a b m n : Int} (h0 : 0 ≤ a) (h1 : a ≤ m) (h2 : 0 ≤ b) (h3 : b ≤ n) : 0 ≤ a * b ∧ a * b ≤ m * n := ⟨Int.mul_nonneg h0 h2, Int.mul_le_mul h1 h3 h2 (by omega)⟩
/-- The numbers that are met where two numbers are added. -/
structure Ad (x y : Rat) : Prop where
  sx : Sm x
  sy : Sm y
  u : (x.num.natAbs : Int) * ((y.den : Int) / (Int.gcd x.den y.den : Int)) ≤ 576460752303423488
  v : (y.num.natAbs : Int) * ((x.den : Int) / (Int.gcd x.den y.den : Int)) ≤ 576460752303423488
  d : (x.den : Int) * ((y.den : Int) / (Int.gcd x.den y.den : Int)) ≤ 1152921504606846976
theorem rat_add {x y : Rat} (h : Ad x y) : ratio_Add fuel x.num x.den y.num y.den = some ((x + y).num, ((x + y).den : Int), 0) := by
  obtain ⟨hx, hy, hu, hv, hdd⟩ := h
  obtain ⟨a1, a2, a3⟩ := id hx
  obtain ⟨b1, b2, b3⟩ := id hy
  have px := den_pos x
  have py := den_pos y
  -- the value of the sum
  have hsum : (x + y).num * (x.den * y.den) = (x.num * y.den + y.num * x.den) * (x + y).den := by
    have h := Rat.add_def' x y
    have h2 : mkRat (x + y).num (x + y).den = mkRat (x.num * y.den + y.num * x.den) (x.den * y.den) := by rw [Rat.mkRat_self, ← h]
    have h3 := (Rat.mkRat_eq_iff (x + y).den_nz (Nat.mul_ne_zero x.den_nz y.den_nz)).1 h2
    rw [Int.natCast_mul] at h3
    exact h3
  unfold ratio_Add
  rw [rat_valid hx, rat_valid hy]
  simp only [Option.bind_some, Bool.not_true, cond_false]
  generalize x.num = a at *
  generalize y.num = c at *
  generalize (x.den : Int) = b at *
  generalize (y.den : Int) = d at *
  rw [wu64 (x := b) (by omega) (by omega), wu64 (x := d) (by omega) (by omega), gcd_ok (by omega) (by omega) (by unfold fuel; omega)]
  have hg := gcd_pos (n := b) (d := d) (by omega)
  have gb : (Int.gcd b d : Int) ∣ b := Int.gcd_dvd_left ..
  have gd : (Int.gcd b d : Int) ∣ d := Int.gcd_dvd_right ..
  have gle : (Int.gcd b d : Int) ≤ b := Int.le_of_dvd (by omega) gb
  generalize (Int.gcd b d : Int) = g at *
  simp only [Option.bind_some]
  rw [gnz_some (by omega), gnz_some (by omega), Int.tdiv_eq_ediv_of_nonneg (by omega), Int.tdiv_eq_ediv_of_nonneg (by omega)]
  have eb := parts gb
  have ed := parts gd
  have hp := div_le (a := b) (g := g) (by omega) (by omega)
  have hq := div_le (a := d) (g := g) (by omega) (by omega)
  have hp0 := div_pos_ (a := b) (by omega) hg gb
  have hq0 := div_pos_ (a := d) (by omega) hg gd
  generalize b / g = p at *
  generalize d / g = q at *
  rw [wu64 (x := p) (by omega) (by omega), wu64 (x := q) (by omega) (by omega), times_small (by omega) (by omega) (by omega) (by omega) (by omega), times_small (by omega) (by omega) (by omega) (by omega) (by omega)]
  simp only [Option.bind_some, uc_mk]
  have n1 := natAbs_mul_pos a hq0
  have n2 := natAbs_mul_pos c hp0
  have d1 : decide (a < 0) = decide (a * q < 0) := decide_eq_decide.2 n1.2
  have d2 : decide (c < 0) = decide (c * p < 0) := decide_eq_decide.2 n2.2
  rw [← n1.1] at hu
  rw [← n2.1] at hv
  rw [d1, d2, ← n1.1, ← n2.1]
  obtain ⟨s, N, e1, e2, e3, e4⟩ := wplus_ok (k := fuel) (u := a * q) (v := c * p) (by omega) (by omega)
  rw [e1]
  simp only [Option.bind_some, uc_mk, beq_self_eq_true, cond_true]
  have hN : N ≤ 1152921504606846976 := by omega
  -- t is the numerator over g * p * q
  obtain ⟨t, ht⟩ : ∃ t, t = a * q + c * p := ⟨_, rfl⟩
  rw [← ht] at e2
  have hnum : a * d + c * b = g * t := by rw [ht, eb, ed, Int.mul_add]; congr 1 <;> ac_rfl
  rw [hnum] at hsum
  clear e1 n1 n2 d1 d2
  by_cases hN0 : N = 0
  · rw [hN0]
    have ht0 : t = 0 := by rw [e2, hN0]; cases s <;> rfl
    rw [ht0, Int.mul_zero, Int.zero_mul] at hsum
    have hxy : (x + y).num = 0 := by
      rcases Int.mul_eq_zero.1 hsum with h | h
      · exact h
      · rcases Int.mul_eq_zero.1 h with h | h <;> omega
    have hz : x + y = 0 := Rat.num_eq_zero.1 hxy
    rw [hz]
    rfl
  · rw [show (N == 0) = false by rw [beq_int]; exact decide_eq_false hN0, cond_false, Rem64_ok e3 (by omega) (by omega)]
    have r0 := Int.emod_nonneg N (show g ≠ 0 by omega)
    have r1 := Int.emod_lt_of_pos N (show 0 < g by omega)
    rw [Option.bind_some, gcd_ok (by omega) r0 (by unfold fuel; omega), show Int.gcd g (N % g) = Int.gcd N g by rw [Int.gcd_comm, gcd_emod_ e3 (by omega)]]
    have hc := gcd_pos (n := N) (d := g) hg
    have cN : (Int.gcd N g : Int) ∣ N := Int.gcd_dvd_left ..
    have cg : (Int.gcd N g : Int) ∣ g := Int.gcd_dvd_right ..
    generalize (Int.gcd N g : Int) = f at *
    rw [Option.bind_some, gnz_some (by omega), Int.tdiv_eq_ediv_of_nonneg (by omega)]
    have eN := parts cN
    have eg := parts cg
    have hN' := div_le (a := N) (g := f) e3 (by omega)
    have hg' := div_le (a := g) (g := f) (by omega) (by omega)
    have hg0' := div_pos_ (a := g) hg hc cg
    unfold ratio_wide_over
    rw [Int.zero_tmod, Div64_ok e3 (by omega) (by omega), Int.zero_tdiv]
    generalize N / f = N' at *
    generalize g / f = g' at *
    have m3 := mul_hi (a := g') (m := g) (b := p) (n := p) (by omega) (by omega) (by omega) (by omega)
    rw [← eb] at m3
    have m4 := mul_hi (a := g' * p) (m := b) (b := q) (n := q) (by omega) (by omega) (by omega) (by omega)
    have m6 : 0 < g' * p * q := Int.mul_pos (Int.mul_pos hg0' hp0) hq0
    rw [wu64 (x := g') (by omega) (by omega), Mul64_small (by omega) (by omega) (by omega) (by omega) (by omega)]
    simp only [Option.bind_some, uc_mk, bne_self_eq_false, cond_false]
    rw [Mul64_small (by omega) (by omega) (by omega) (by omega) (by omega)]
    simp only [Option.bind_some, uc_mk, bne_self_eq_false, cond_false]
    rw [gnz_some (by omega), gnz_some (by omega)]
    simp only [Option.bind_some, uc_mk]
    rw [wu64 (x := 0) (by omega) (by omega)]
    rw [lowest_signed (x + y) (s := s) (N := N') (d := g' * p * q) (t := bif s then -N' else N') (by omega) (by omega) (by omega) (by omega) rfl ?_]
    · rfl
    · have et : t = f * (bif s then -N' else N') := by rw [e2]; cases s <;> simp only [cond_true, cond_false] <;> rw [eN] <;> (try rw [Int.mul_neg])
      generalize (bif s then -N' else N') = t' at *
      have hfg : 0 < f * g := Int.mul_pos hc hg
      have : t' * ((x + y).den : Int) * (f * g) = (x + y).num * (g' * p * q) * (f * g) := by
        have l1 : t' * ((x + y).den : Int) * (f * g) = g * (f * t') * (x + y).den := by ac_rfl
        have l2 : (x + y).num * (g' * p * q) * (f * g) = (x + y).num * ((g * p) * ((f * g') * q)) := by ac_rfl
        rw [l1, l2, ← et, ← eg, ← eb, ← ed, hsum]
      exact Int.eq_of_mul_eq_mul_right (by omega) this
theorem rat_sub {x y : Rat} (h : Ad x (-y)) : ratio_Sub fuel x.num x.den y.num y.den = some ((x - y).num, ((x - y).den : Int), 0) := by
  have hx := h.sx
  have hn := h.sy
  have hy : Sm y := ⟨by have := hn.2.1; simp only [Rat.neg_num] at this; omega, by have := hn.1; simp only [Rat.neg_num] at this; omega, by simpa using hn.2.2⟩
  obtain ⟨b1, b2, b3⟩ := id hy
  unfold ratio_Sub
  rw [rat_valid hx, rat_valid hy]
  simp only [Option.bind_some, Bool.not_true, cond_false]
  rw [w64 (x := 0 - y.num) (by omega) (by omega), show 0 - y.num = (-y).num by simp, show (y.den : Int) = ((-y).den : Int) by simp, rat_add h, ← Rat.sub_eq_add_neg]
  rfl
theorem natAbs_div {a g : Int} (h : g ∣ a) (hg : 0 < g) : ((a.natAbs : Int) / g) = ((a / g).natAbs : Int) := by
  have e := parts h
  generalize a / g = q at *
  rw [e, Int.natAbs_mul, Int.natCast_mul, show ((g.natAbs : Nat) : Int) = g by omega, Int.mul_ediv_cancel_left _ (by omega)]
/-- The numbers that are met where two numbers are multiplied. -/
structure Mu (x y : Rat) : Prop where
  sx : Sm x
  sy : Sm y
  n : (x.num.natAbs : Int) * y.num.natAbs ≤ 1152921504606846976
  d : (x.den : Int) * y.den ≤ 1152921504606846976
theorem rat_mul {x y : Rat} (hm : Mu x y) : ratio_Mul fuel x.num x.den y.num y.den = some ((x * y).num, ((x * y).den : Int), 0) := by
  obtain ⟨hx, hy, hnn, hdd⟩ := hm
  obtain ⟨a1, a2, a3⟩ := id hx
  obtain ⟨b1, b2, b3⟩ := id hy
  have px := den_pos x
  have py := den_pos y
  have hprod : (x * y).num * (x.den * y.den) = (x.num * y.num) * (x * y).den := by
    have h := Rat.mul_def' x y
    have h2 : mkRat (x * y).num (x * y).den = mkRat (x.num * y.num) (x.den * y.den) := by rw [Rat.mkRat_self, ← h]
    have h3 := (Rat.mkRat_eq_iff (x * y).den_nz (Nat.mul_ne_zero x.den_nz y.den_nz)).1 h2
    rw [Int.natCast_mul] at h3
    exact h3
  unfold ratio_Mul
  rw [rat_valid hx, rat_valid hy]
  simp only [Option.bind_some, Bool.not_true, cond_false]
  generalize x.num = a at *
  generalize y.num = c at *
  generalize (x.den : Int) = b at *
  generalize (y.den : Int) = d at *
  rw [abs_ok (by omega) (by omega), abs_ok (by omega) (by omega), wu64 (x := b) (by omega) (by omega), wu64 (x := d) (by omega) (by omega)]
  simp only [Option.bind_some]
  rw [gcd_ok (by omega) (by omega) (by unfold fuel; omega)]
  simp only [Option.bind_some]
  rw [gcd_ok (by omega) (by omega) (by unfold fuel; omega)]
  simp only [Option.bind_some]
  rw [show Int.gcd (a.natAbs : Int) d = Int.gcd a d by simp [Int.gcd], show Int.gcd (c.natAbs : Int) b = Int.gcd c b by simp [Int.gcd]]
  have hg := gcd_pos (n := a) (d := d) (by omega)
  have hh := gcd_pos (n := c) (d := b) (by omega)
  have ga : (Int.gcd a d : Int) ∣ a := Int.gcd_dvd_left ..
  have gd : (Int.gcd a d : Int) ∣ d := Int.gcd_dvd_right ..
  have hc : (Int.gcd c b : Int) ∣ c := Int.gcd_dvd_left ..
  have hb : (Int.gcd c b : Int) ∣ b := Int.gcd_dvd_right ..
  have gle : (Int.gcd a d : Int) ≤ d := Int.le_of_dvd (by omega) gd
  have hle : (Int.gcd c b : Int) ≤ b := Int.le_of_dvd (by omega) hb
  generalize (Int.gcd a d : Int) = g at *
  generalize (Int.gcd c b : Int) = h at *
  rw [w64 (x := g) (by omega) (by omega), gnz_some (by omega), gnz_some (by omega), Int.tdiv_eq_ediv_of_dvd ga, Int.tdiv_eq_ediv_of_nonneg (a := (c.natAbs : Int)) (by omega), Int.tdiv_eq_ediv_of_nonneg (a := b) (by omega), Int.tdiv_eq_ediv_of_nonneg (a := d) (by omega), natAbs_div hc hh]
  have ea := parts ga
  have ed := parts gd
  have ec := parts hc
  have eb := parts hb
  have hd' := div_le (a := d) (g := g) (by omega) (by omega)
  have hb' := div_le (a := b) (g := h) (by omega) (by omega)
  have hd0 := div_pos_ (a := d) (by omega) hg gd
  have hb0 := div_pos_ (a := b) (by omega) hh hb
  have za : ((a / g).natAbs : Int) ≤ a.natAbs := by
    rw [← natAbs_div ga hg]; exact Int.ediv_le_self _ (by omega)
  have zc : ((c / h).natAbs : Int) ≤ c.natAbs := by
    rw [← natAbs_div hc hh]; exact Int.ediv_le_self _ (by omega)
  have sc : c < 0 ↔ c / h < 0 := by
    have := (natAbs_mul_pos (c / h) hh).2
    rw [Int.mul_comm, ← ec] at this
    exact this.symm
  generalize a / g = a' at *
  generalize c / h = c' at *
  generalize b / h = b' at *
  generalize d / g = d' at *
  have m1 := mul_hi (a := (a'.natAbs : Int)) (m := (a.natAbs : Int)) (b := (c'.natAbs : Int)) (n := (c.natAbs : Int)) (by omega) (by omega) (by omega) (by omega)
  have m2 := mul_hi (a := b') (m := b) (b := d') (n := d) (by omega) (by omega) (by omega) (by omega)
  have m3 : 0 < b' * d' := Int.mul_pos hb0 hd0
  rw [w64 (x := a') (by omega) (by omega), wu64 (x := (c'.natAbs : Int)) (by omega) (by omega), times_small (by omega) (by omega) (by omega) (by omega) (by omega), wu64 (x := b') (by omega) (by omega), wu64 (x := d') (by omega) (by omega), Mul64_small (by omega) (by omega) (by omega) (by omega) (by omega)]
  simp only [Option.bind_some, uc_mk]
  rw [gnz_some (by omega), gnz_some (by omega)]
  simp only [Option.bind_some, uc_mk, bne_self_eq_false, cond_false]
  have hd : decide (c < 0) = decide (c' < 0) := decide_eq_decide.2 sc
  rw [hd, lowest_signed (x * y) (t := a' * c') m1.1 (by omega) (by omega) (by omega) ?_ ?_]
  · rfl
  · by_cases h1 : a' < 0 <;> by_cases h2 : c' < 0
    · rw [decide_eq_true h1, decide_eq_true h2, show ((a'.natAbs : Nat) : Int) = -a' by omega, show ((c'.natAbs : Nat) : Int) = -c' by omega, Int.neg_mul_neg]; rfl
    · rw [decide_eq_true h1, decide_eq_false h2, show ((a'.natAbs : Nat) : Int) = -a' by omega, show ((c'.natAbs : Nat) : Int) = c' by omega, Int.neg_mul]; simp
    · rw [decide_eq_false h1, decide_eq_true h2, show ((a'.natAbs : Nat) : Int) = a' by omega, show ((c'.natAbs : Nat) : Int) = -c' by omega, Int.mul_neg]; simp
    · rw [decide_eq_false h1, decide_eq_false h2, show ((a'.natAbs : Nat) : Int) = a' by omega, show ((c'.natAbs : Nat) : Int) = c' by omega]; rfl
  · have hfg : 0 < g * h := Int.mul_pos hg hh
    have : a' * c' * ((x * y).den : Int) * (g * h) = (x * y).num * (b' * d') * (g * h) := by
      have l1 : a' * c' * ((x * y).den : Int) * (g * h) = (g * a') * (h * c') * (x * y).den := by ac_rfl
      have l2 : (x * y).num * (b' * d') * (g * h) = (x * y).num * ((h * b') * (g * d')) := by ac_rfl
      rw [l1, l2, ← ea, ← ec, ← eb, ← ed, hprod]
    exact Int.eq_of_mul_eq_mul_right (by omega) this
/-- The numbers that are met where one number is divided by another. -/
structure Di (x y : Rat) : Prop where
  sx : Sm x
  sy : Sm y
  z : y ≠ 0
  n : (x.num.natAbs : Int) * y.den ≤ 1152921504606846976
  d : (x.den : Int) * y.num.natAbs ≤ 1152921504606846976
theorem inv_num {y : Rat} (h0 : y ≠ 0) : ((y⁻¹).num.natAbs : Int) = y.den ∧ ((y⁻¹).den : Int) = y.num.natAbs := by
  have hn0 : y.num ≠ 0 := fun h => h0 (Rat.num_eq_zero.1 h)
  constructor
  · rw [Rat.num_inv, Int.natAbs_mul, Int.natAbs_sign_of_ne_zero hn0]
    simp
  · rw [Rat.den_inv, if_neg hn0]
theorem rat_div {x y : Rat} (h : Di x y) : ratio_Div fuel x.num x.den y.num y.den = some ((x / y).num, ((x / y).den : Int), 0) := by
  obtain ⟨hx, hy, h0, hnn, hdd⟩ := h
  obtain ⟨b1, b2, b3⟩ := id hy
  have py := den_pos y
  have hn0 : y.num ≠ 0 := fun h => h0 (Rat.num_eq_zero.1 h)
  have hi := inv_num h0
  have hd : ((y⁻¹).den : Int) = y.num.natAbs := hi.2
  have hn : (y⁻¹).num = y.num.sign * y.den := Rat.num_inv y
  have hinv : Sm y⁻¹ := by
    unfold Sm
    rw [hn, hd]
    rcases Int.lt_trichotomy y.num 0 with h | h | h
    · rw [Int.sign_eq_neg_one_of_neg h]; omega
    · exact absurd h hn0
    · rw [Int.sign_eq_one_of_pos h]; omega
  unfold ratio_Div
  rw [rat_valid hx, rat_valid hy]
  simp only [Option.bind_some, Bool.not_true, cond_false]
  rw [show (y.num == 0) = false by rw [beq_int]; exact decide_eq_false hn0, cond_false]
  have key : (bif decide (y.num < 0) then some (IntKind.wrap .i64 (0 - (y.den : Int)), IntKind.wrap .i64 (0 - y.num)) else some ((y.den : Int), y.num) : Option (Int × Int)) = some ((y⁻¹).num, ((y⁻¹).den : Int)) := by
    rw [hn, hd]
    by_cases h : y.num < 0
    · rw [decide_eq_true h, cond_true, w64 (by omega) (by omega), w64 (by omega) (by omega), Int.sign_eq_neg_one_of_neg h]
      congr 2 <;> omega
    · rw [decide_eq_false h, cond_false, Int.sign_eq_one_of_pos (by omega)]
      congr 2 <;> omega
  rw [key]
  simp only [Option.bind_some, uc_mk]
  rw [rat_mul ⟨hx, hinv, by rw [hi.1]; exact hnn, by rw [hd]; exact hdd⟩, ← Rat.div_def]
  rfl

/-! ### numbers on grids -/
theorem grid_sm {D B : Nat} {v : Rat} (h : Grid D B v) (hD : D ≠ 0) (h1 : D ≤ 1152921504606846976) (h2 : B ≤ 1152921504606846976) : Sm v := by
  have := h.num hD
  exact ⟨by omega, by omega, by omega⟩
theorem grid_den {D B : Nat} {v : Rat} (hD : D ≠ 0) (h : Grid D B v) : ∃ t : Nat, D = v.den * t ∧ v.num.natAbs * t ≤ B := by
  obtain ⟨n, rfl, hn⟩ := h.mk hD
  rw [Rat.num_mkRat, Rat.den_mkRat, if_neg hD, if_neg hD]
  have g1 : D.gcd n.natAbs ∣ D := Nat.gcd_dvd_left ..
  have hg : ((D.gcd n.natAbs : Nat) : Int) ∣ n := Int.ofNat_dvd_left.2 (Nat.gcd_dvd_right ..)
  refine ⟨D.gcd n.natAbs, (Nat.div_mul_cancel g1).symm, ?_⟩
  rw [Int.natAbs_ediv_of_dvd hg, Int.natAbs_natCast, Nat.div_mul_cancel (Nat.gcd_dvd_right ..)]
  exact hn
theorem grid_neg {D B : Nat} {v : Rat} (h : Grid D B v) : Grid D B (-v) := by
  obtain ⟨n, e, hn⟩ := h
  exact ⟨-n, by rw [Rat.intCast_neg, ← e]; grind, by omega⟩
theorem Ad.of {D B C : Nat} {x y : Rat} (hx : Grid D B x) (hy : Grid D C y) (hD : D ≠ 0) (h1 : D ≤ 1152921504606846976) (h2 : B ≤ 576460752303423488) (h3 : C ≤ 576460752303423488) : Ad x y := by
  obtain ⟨s, es, hs⟩ := grid_den hD hx
  obtain ⟨t, et, ht⟩ := grid_den hD hy
  have gpos : 0 < x.den.gcd y.den := Nat.gcd_pos_of_pos_left _ x.den_pos
  have gx : x.den.gcd y.den ∣ x.den := Nat.gcd_dvd_left ..
  have gy : x.den.gcd y.den ∣ y.den := Nat.gcd_dvd_right ..
  have hg : (Int.gcd (x.den : Int) (y.den : Int) : Int) = ((x.den.gcd y.den : Nat) : Int) := rfl
  have hcop := Nat.coprime_div_gcd_div_gcd gpos
  have e1 : x.den = x.den.gcd y.den * (x.den / x.den.gcd y.den) := (Nat.mul_div_cancel' gx).symm
  have e2 : y.den = x.den.gcd y.den * (y.den / x.den.gcd y.den) := (Nat.mul_div_cancel' gy).symm
  have c1 : (y.den : Int) / (x.den.gcd y.den : Nat) = ((y.den / x.den.gcd y.den : Nat) : Int) := (Int.natCast_ediv ..).symm
  have c2 : (x.den : Int) / (x.den.gcd y.den : Nat) = ((x.den / x.den.gcd y.den : Nat) : Int) := (Int.natCast_ediv ..).symm
  -- the other's part divides what is left
  have hq : y.den / x.den.gcd y.den ∣ s := by
    have h : x.den * s = y.den * t := by rw [← es, ← et]
    have h2 : x.den / x.den.gcd y.den * s = y.den / x.den.gcd y.den * t := by
      apply Nat.eq_of_mul_eq_mul_left gpos
      rw [← Nat.mul_assoc, ← Nat.mul_assoc, ← e1, ← e2, h]
    exact hcop.symm.dvd_of_dvd_mul_left ⟨t, h2⟩
  have hp : x.den / x.den.gcd y.den ∣ t := by
    have h : x.den * s = y.den * t := by rw [← es, ← et]
    have h2 : x.den / x.den.gcd y.den * s = y.den / x.den.gcd y.den * t := by
      apply Nat.eq_of_mul_eq_mul_left gpos
      rw [← Nat.mul_assoc, ← Nat.mul_assoc, ← e1, ← e2, h]
    exact hcop.dvd_of_dvd_mul_left ⟨s, h2.symm⟩
  have s0 : 0 < s := by rcases Nat.eq_zero_or_pos s with h | h; · rw [h] at es; omega
                        · exact h
  have t0 : 0 < t := by rcases Nat.eq_zero_or_pos t with h | h; · rw [h] at et; omega
                        · exact h
  have qs := Nat.le_of_dvd s0 hq
  have pt := Nat.le_of_dvd t0 hp
  refine ⟨grid_sm hx hD h1 (by omega), grid_sm hy hD h1 (by omega), ?_, ?_, ?_⟩
  · rw [hg, c1, ← Int.natCast_mul]
    have := Nat.mul_le_mul_left x.num.natAbs qs
    omega
  · rw [hg, c2, ← Int.natCast_mul]
    have := Nat.mul_le_mul_left y.num.natAbs pt
    omega
  · rw [hg, c1, ← Int.natCast_mul]
    have := Nat.mul_le_mul_left x.den qs
    omega
theorem Mu.of {D B E C : Nat} {x y : Rat} (hx : Grid D B x) (hy : Grid E C y) (hD : D ≠ 0) (hE : E ≠ 0) (h1 : D * E ≤ 1152921504606846976) (h2 : B * C ≤ 1152921504606846976) (h3 : B ≤ 1152921504606846976) (h4 : C ≤ 1152921504606846976) : Mu x y := by
  have nx := hx.num hD
  have ny := hy.num hE
  have a1 : D * 1 ≤ D * E := Nat.mul_le_mul_left D (by omega)
  have a2 : 1 * E ≤ D * E := Nat.mul_le_mul_right E (by omega)
  refine ⟨grid_sm hx hD (by omega) h3, grid_sm hy hE (by omega) h4, ?_, ?_⟩
  · rw [← Int.natCast_mul]
    have := Nat.mul_le_mul nx.1 ny.1
    omega
  · rw [← Int.natCast_mul]
    have := Nat.mul_le_mul nx.2 ny.2
    omega
theorem Di.of {D B E C : Nat} {x y : Rat} (hx : Grid D B x) (hy : Grid E C y) (hD : D ≠ 0) (hE : E ≠ 0) (h0 : y ≠ 0) (h1 : B * E ≤ 1152921504606846976) (h2 : D * C ≤ 1152921504606846976) (h3 : B ≤ 1152921504606846976) (h4 : C ≤ 1152921504606846976) (h5 : D ≤ 1152921504606846976) (h6 : E ≤ 1152921504606846976) : Di x y := by
  have nx := hx.num hD
  have ny := hy.num hE
  refine ⟨grid_sm hx hD h5 h3, grid_sm hy hE h6 h4, h0, ?_, ?_⟩
  · rw [← Int.natCast_mul]
    have := Nat.mul_le_mul nx.1 ny.2
    omega
  · rw [← Int.natCast_mul]
    have := Nat.mul_le_mul nx.2 ny.1
    omega
end Go.VM
namespace Go.VM

theorem new_rat {n d : Int} (hn : -1152921504606846976 ≤ n) (hn2 : n ≤ 1152921504606846976) (hd : 1 ≤ d) (hd2 : d ≤ 1152921504606846976) : ratio_New fuel n d = some ((mkRat n d.toNat).num, ((mkRat n d.toNat).den : Int), 0) := by
  rw [New_ok hn hn2 hd hd2 (by unfold fuel; omega)]
  have h1 := rnum_rat n (d := d.toNat) (by omega)
  have h2 := rden_rat n (d := d.toNat) (by omega)
  rw [show ((d.toNat : Nat) : Int) = d by omega] at h1 h2
  rw [h1, h2]
end Go.VM
