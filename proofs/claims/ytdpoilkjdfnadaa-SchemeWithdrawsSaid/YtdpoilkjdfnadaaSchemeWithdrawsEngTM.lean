/- What a row hands over, and what is known of it. -/
import Derived.Test.YtdpoilkjdfnadaaEngOM
import Derived.SizedLaws
import Derived.ChangeSlices
import Derived.OpenShut
import Derived.Test.YtdpoilkjdfnadaaWiFuns
namespace Go.VM
set_option linter.unusedVariables false
set_option linter.unusedSimpArgs false
open Go.RowKit Go.ChangeShapes Go.WideShapes
set_option linter.unusedVariables false

/-- The numbers of a kind. -/
abbrev fitsI (k : IntKind) (n : Int) : Prop := (Lit.int k n).wf = true
def IsRow (k : IntKind) (w : World) (a : Option Addr) (len cap : Nat) (zs : List Int) : Prop :=
  (a = none ∧ len = 0 ∧ cap = 0 ∧ zs = []) ∨ ∃ x, a = some x ∧ len ≤ cap ∧ cap ≤ maxLen ∧ zs.length = cap ∧ (∀ i, i < zs.length → w.cell? (x.add i) = some (.int k (zs.getD i 0))) ∧ ∀ n ∈ zs, fitsI k n
theorem IsRow.look {k : IntKind} {w : World} {a : Option Addr} {len cap : Nat} {zs : List Int} (h : IsRow k w a len cap zs) :
    (a = none ∧ len = 0 ∧ cap = 0 ∧ zs = []) ∨ ∃ x : Addr, a = some x ∧ len ≤ cap ∧ zs.length = cap ∧ (∀ i, i < zs.length → w.cell? (x.add i) = some (.int k (zs.getD i 0))) := by
  rcases h with h | ⟨x, h1, h2, h3, h4, h5, h6⟩
  · exact .inl h
  · exact .inr ⟨x, h1, h2, h4, h5⟩
theorem IsRow.fits {k : IntKind} {w : World} {a : Option Addr} {len cap : Nat} {zs : List Int} (h : IsRow k w a len cap zs) (n : Nat) : ∀ x ∈ zs.take n, fitsI k x := fun x hx => by
  rcases h with ⟨_, _, _, rfl⟩ | ⟨_, _, _, _, _, _, h6⟩
  · simp at hx
  · exact h6 x (List.mem_of_mem_take hx)
theorem IsRow.short {k : IntKind} {w : World} {a : Option Addr} {len cap : Nat} {zs : List Int} (h : IsRow k w a len cap zs) {b : Nat} (y : len * b ≤ 140737488351232) : (zs.take len).length * b ≤ 140737488351232 := by
  have : (zs.take len).length ≤ len := by simp; omega
  exact Nat.le_trans (Nat.mul_le_mul_right _ this) y
theorem IsRow.open {H : Type} {enc : TypeId × Value → H} {P : Program} {W : World} {base : Nat} {held : Bool} {t e : TypeId} {k : IntKind} {a : Option Addr} {len cap : Nat} {d : DataW H} {ps : List MemPlace} (hu : P.underlying t = some (.slice e)) (he : P.underlying e = some (.int k)) (hc : P.cellsOf e = 1)
    (h : DataW.Trod enc P W base (fun _ => true) held t (.slice a len cap) d ps) : ∃ zs, IsRow k W a len cap zs := by
  obtain ⟨fuel, hf⟩ := h
  rcases open_ints hu he hc hf with ⟨hcs, _⟩ | ⟨x, l, c, zs, hcs, _, hl, hm, hz, _, hcell, hwz⟩
  · simp [Value.cells] at hcs
    obtain ⟨rfl, rfl, rfl⟩ := hcs
    exact ⟨[], .inl ⟨rfl, rfl, rfl, rfl⟩⟩
  · simp [Value.cells] at hcs
    obtain ⟨rfl, rfl, rfl⟩ := hcs
    exact ⟨zs, .inr ⟨_, rfl, hl, hm, by simpa using hz, hcell, hwz⟩⟩
theorem row_sized {H : Type} {enc : TypeId × Value → H} {P : Program} {W : World} {base : Nat} {spare : Nat → Bool} {held : Bool} {t e : TypeId} {k : IntKind} {a : Option Addr} {len cap : Nat} {d : DataW H} {ps : List MemPlace} {ts : List TypeId} {ds : List (DataW H)} {j : Nat}
    (hsz : (DataW.weightsEach P ts ds).all (· ≤ reachBytes) = true) (ht : ts[j]? = some t) (hd : ds[j]? = some d) (hu : P.underlying t = some (.slice e)) (he : P.underlying e = some (.int k)) (hc : P.cellsOf e = 1) {B : Nat} (hB : P.bytesOf e = B)
    (h : DataW.Trod enc P W base spare held t (.slice a len cap) d ps) : len * B ≤ 140737488351232 := by
  obtain ⟨fuel, hf⟩ := h
  rcases open_ints hu he hc hf with ⟨hcs, _⟩ | ⟨x, l, c, zs, hcs, _, hl, _, hz, hdx, _, _⟩
  · simp [Value.cells] at hcs
    rw [hcs.2.1]; omega
  · simp [Value.cells] at hcs
    obtain ⟨rfl, rfl, rfl⟩ := hcs
    obtain ⟨e1, _⟩ := Prod.mk.inj hdx
    rw [e1] at hd
    have z := sized_slice hsz ht hd hu
    rw [hB] at z
    refine Nat.le_trans (Nat.mul_le_mul_right _ ?_) z
    simp only [lits, List.length_map, List.length_take, List.length_drop]
    have : len ≤ zs.length := by
      rw [hz]
      split
      · exact hl
      · exact Nat.le_refl _
    omega
end Go.VM
namespace Go.VM
set_option linter.unusedVariables false

/-- There is an answer, and Q holds of it. -/
def Ok {X : Type} (o : Option X) (Q : X → Prop) : Prop := ∃ r, o = some r ∧ Q r
theorem Ok.mono {X : Type} {o : Option X} {Q Q' : X → Prop} (h : Ok o Q) (hq : ∀ r, Q r → Q' r) : Ok o Q' := let ⟨r, e, h⟩ := h; ⟨r, e, hq r h⟩
theorem Ok.bind {X Y : Type} {o : Option X} {f : X → Option Y} {Q : X → Prop} {Q' : Y → Prop} (h : Ok o Q) (hf : ∀ r, Q r → Ok (f r) Q') : Ok (Option.bind o f) Q' := by
  obtain ⟨r, rfl, hr⟩ := h
  exact hf r hr
theorem Ok.mk {X : Type} {o : Option X} {r : X} {Q : X → Prop} (e : o = some r) (h : Q r) : Ok o Q := ⟨r, e, h⟩
theorem Ok.ret {X : Type} {r : X} {Q : X → Prop} (h : Q r) : Ok (some r) Q := ⟨r, rfl, h⟩
theorem Ok.some_iff {X : Type} {r : X} {Q : X → Prop} : Ok (some r) Q ↔ Q r := ⟨fun ⟨_, e, h⟩ => by cases e; exact h, fun h => ⟨r, rfl, h⟩⟩
theorem Ok.eq {X : Type} {o : Option X} {r : X} (h : Ok o (fun x => x = r)) : o = some r := by obtain ⟨_, e, rfl⟩ := h; exact e
theorem Ok.of_eq {X : Type} {o : Option X} {r : X} (h : o = some r) : Ok o (fun x => x = r) := ⟨r, h, rfl⟩
theorem Ok.iff_true {o : Option Bool} : Ok o (fun b => b = true) ↔ o = some true := ⟨Ok.eq, Ok.of_eq⟩

theorem uc_mk {α β γ : Type} (f : α → β → γ) (a : α) (b : β) : uc f (a, b) = f a b := rfl
theorem uc_eq {α β γ : Type} (f : α → β → γ) (p : α × β) : uc f p = f p.1 p.2 := rfl
theorem u0_mk {γ : Type} (c : γ) (u : Unit) : u0 c u = c := rfl
theorem blet_mk {α X : Type} (a : α) (B : α → Option X) : blet a B = B a := rfl

theorem ok_idx {α X : Type} {xs : List α} {i : Int} {B : α → Option X} {Q : X → Prop} (h0 : 0 ≤ i) (h : i < xs.length) (hb : ∀ hi : i.toNat < xs.length, Ok (B xs[i.toNat]) Q) : Ok (gidx xs i B) Q := by
  have hi : i.toNat < xs.length := by omega
  rw [gidx_some h0 hi]; exact hb hi
theorem ok_cap {X : Type} {n b : Nat} {o : Option X} {Q : X → Prop} (h : n * b ≤ 140737488355328) (ho : Ok o Q) : Ok (gcap n b o) Q := by rw [gcap_some h]; exact ho
theorem ok_nz {X : Type} {y : Int} {o : Option X} {Q : X → Prop} (h : y ≠ 0) (ho : Ok o Q) : Ok (gnz y o) Q := by rw [gnz_some h]; exact ho
theorem ok_nn {X : Type} {y : Int} {o : Option X} {Q : X → Prop} (h : 0 ≤ y) (ho : Ok o Q) : Ok (gnn y o) Q := by unfold gnn; simp [h]; exact ho
theorem ok_make {X : Type} {n : Int} {b : Nat} {o : Option X} {Q : X → Prop} (h0 : 0 ≤ n) (h : n.toNat * b ≤ 140737488355328) (ho : Ok o Q) : Ok (gmake n b o) Q := by unfold gmake; simp [h0, h]; exact ho
theorem ok_cut {X : Type} {lo hi len : Int} {o : Option X} {Q : X → Prop} (h0 : 0 ≤ lo) (h1 : lo ≤ hi) (h2 : hi ≤ len) (ho : Ok o Q) : Ok (gcut lo hi len o) Q := by unfold gcut; simp [h0, h1, h2]; exact ho
theorem ok_bif {X : Type} {b : Bool} {x y : Option X} {Q : X → Prop} (h1 : b = true → Ok x Q) (h2 : b = false → Ok y Q) : Ok (bif b then x else y) Q := by
  cases b
  · exact h2 rfl
  · exact h1 rfl
theorem ok_let {α X : Type} {a : α} {B : α → Option X} {Q : X → Prop} (h : Ok (B a) Q) : Ok (blet a B) Q := h

/-- A loop: what holds at its head, and a measure that falls. -/
theorem ok_loop {S X : Type} {body : (S → Option X) → S → Option X} {k : Nat} {s : S} {Q : X → Prop} (Inv : S → Prop) (μ : S → Nat) (h0 : Inv s) (hk : μ s < k)
    (step : ∀ (again : S → Option X) (s : S), Inv s → (∀ s', Inv s' → μ s' < μ s → Ok (again s') Q) → Ok (body again s) Q) : Ok (gloop body k s) Q := by
  induction k generalizing s with
  | zero => omega
  | succ k ih => exact step (gloop body k) s h0 fun s' hs hlt => ih hs (by omega)
/-- A loop, told by a relation between where it begins and what it answers. -/
theorem ok_loopR {S X : Type} {body : (S → Option X) → S → Option X} {k : Nat} {s : S} (Inv : S → Prop) (μ : S → Nat) (Q : S → X → Prop) (h0 : Inv s) (hk : μ s < k)
    (step : ∀ (again : S → Option X) (s : S), Inv s → (∀ s', Inv s' → μ s' < μ s → Ok (again s') (Q s')) → Ok (body again s) (Q s)) : Ok (gloop body k s) (Q s) := by
  obtain ⟨x, h1, h2⟩ := gloop_ends (body := body) μ Inv Q (fun again s hs h => step again s hs h) k s h0 hk
  exact ⟨x, h1, h2⟩

/-! ### whole numbers that do not wrap -/
theorem fits64 {n : Int} : fitsI .i64 n ↔ -9223372036854775808 ≤ n ∧ n ≤ 9223372036854775807 := by
  unfold fitsI Lit.wf
  simp [IntKind.min, IntKind.max, IntKind.signed, IntKind.bits]
theorem fits8 {n : Int} : fitsI .u8 n ↔ 0 ≤ n ∧ n ≤ 255 := by
  unfold fitsI Lit.wf
  simp [IntKind.min, IntKind.max, IntKind.signed, IntKind.bits]
theorem w64 {x : Int} (h1 : -9223372036854775808 ≤ x) (h2 : x ≤ 9223372036854775807) : IntKind.wrap .i64 x = x := wrap64 h1 (by omega)
theorem w8 {x : Int} (h1 : 0 ≤ x) (h2 : x ≤ 255) : IntKind.wrap .u8 x = x := by
  simp [IntKind.wrap, IntKind.signed, IntKind.bits]; omega
theorem gmax_def (p q : Int) : gmax p q = max q p := by unfold gmax; split <;> omega
theorem gmin_def (p q : Int) : gmin p q = min q p := by unfold gmin; split <;> omega
end Go.VM
namespace Go.VM
set_option linter.unusedVariables false
set_option linter.unusedSimpArgs false

theorem gidx_mid {α X : Type} {l pre post : List α} {e : α} {i : Int} {B : α → Option X} (hl : l = pre ++ e :: post) (hi : i = pre.length) : gidx l i B = B e := by
  subst hl hi
  have h : pre.length < (pre ++ e :: post).length := by simp
  rw [gidx_some (by omega) (by simp)]
  simp

/-- A loop over a list by its indexes, from the first to the last: 'Inv pre s' holds at the head when 'pre' has been seen. -/
theorem ok_range {S X α : Type} {body : (S → Option X) → S → Option X} {k : Nat} {s0 : S} {Q : X → Prop} (l : List α) (ix : S → Int) (Inv : List α → S → Prop) (hlen : l.length ≤ 4611686018427387904) (h0 : ix s0 = 0) (hI : Inv [] s0) (hk : l.length < k)
    (step : ∀ (again : S → Option X) (s : S) (pre : List α) (e : α) (post : List α), l = pre ++ e :: post → ix s = pre.length → ix s < l.length → IntKind.wrap .i64 (ix s + 1) = ix s + 1 → Inv pre s → (∀ s', ix s' = ix s + 1 → Inv (pre ++ [e]) s' → Ok (again s') Q) → Ok (body again s) Q)
    (last : ∀ (again : S → Option X) (s : S), ix s = l.length → Inv l s → Ok (body again s) Q) : Ok (gloop body k s0) Q := by
  refine ok_loop (fun s => ∃ pre post, l = pre ++ post ∧ ix s = pre.length ∧ Inv pre s) (fun s => l.length - (ix s).toNat) ⟨[], l, rfl, by simp [h0], hI⟩ (by rw [h0]; simpa using hk) fun again s hs hag => ?_
  obtain ⟨pre, post, hl, hi, hinv⟩ := hs
  cases post with
  | nil =>
    rw [List.append_nil] at hl
    subst hl
    exact last again s hi hinv
  | cons e post =>
    have hlt : pre.length < l.length := by rw [hl]; simp
    refine step again s pre e post hl hi (by omega) (w64 (by omega) (by omega)) hinv fun s' hs' hinv' => hag s' ⟨pre ++ [e], post, by rw [hl]; simp, by rw [hs', hi]; simp, hinv'⟩ ?_
    omega
theorem ok_then {X Y : Type} {o : Option X} {f : X → Option Y} {Q' : Y → Prop} (x : X) (h : o = some x) (hf : Ok (f x) Q') : Ok (Option.bind o f) Q' := by subst h; exact hf
theorem eq_of_ok {X : Type} {o : Option X} {r : X} (h : Ok o (fun x => x = r)) : o = some r := h.eq
theorem ok_eq {X : Type} {o : Option X} {r : X} {Q : X → Prop} (h : o = some r) (hq : Q r) : Ok o Q := ⟨r, h, hq⟩
theorem dec_lt {a b : Int} (h : a < b) : decide (a < b) = true := decide_eq_true h
theorem dec_nlt {a b : Int} (h : b ≤ a) : decide (a < b) = false := decide_eq_false (by omega)
theorem beq_int (a b : Int) : (a == b) = decide (a = b) := by by_cases h : a = b <;> simp [h]
theorem bne_int (a b : Int) : (a != b) = decide (a ≠ b) := by by_cases h : a = b <;> simp [h]
theorem ok_sum {A B Y : Type} {o : Option (A ⊕ B)} {f : A → Option Y} {g : B → Option Y} {Q : A → Prop} {R : B → Prop} {Q' : Y → Prop} (h : Ok o (fun x => match x with | .inl a => Q a | .inr b => R b)) (hf : ∀ a, Q a → Ok (f a) Q') (hg : ∀ b, R b → Ok (g b) Q') : Ok (Option.bind o (Sum.elim f g)) Q' := by
  obtain ⟨r, rfl, hr⟩ := h
  cases r with
  | inl a => exact hf a hr
  | inr b => exact hg b hr
end Go.VM
namespace Go.VM
set_option linter.unusedVariables false
set_option linter.unusedSimpArgs false

theorem New_ok {k : Nat} (t : List Int) : Ok (make_New k t) (fun x => x.length ≤ 600) := by
  unfold make_New
  refine Ok.bind (Q := fun x => x.length ≤ 600) (ok_bif (fun h => ?_) fun h => ?_) fun r hr => Ok.ret hr
  · have h' := of_decide_eq_true h
    refine ok_cut (by omega) (by omega) (by omega) (Ok.ret ?_)
    simp; omega
  · have h' := of_decide_eq_false h
    exact Ok.ret (by omega)
theorem Cut_eq {k : Nat} (x : Int) {n : Int} (h1 : 1 ≤ n) (hn : n ≤ 1000000000) : make_Cut k x n = some (x % n) := by
  unfold make_Cut
  rw [dec_nlt h1, cond_false, gnz_some (by omega)]
  have a1 := Int.tmod_lt_of_pos x (show 0 < n by omega)
  have a2 := Int.lt_tmod_of_pos x (show 0 < n by omega)
  have e1 : x % n = if Int.tmod x n < 0 then Int.tmod x n + n else Int.tmod x n := by
    have e2 : x % n = (Int.tmod x n) % n := by
      have := Int.tmod_add_mul_tdiv x n
      conv => lhs; rw [← this]
      rw [Int.add_mul_emod_self_left]
    rw [e2]
    split
    · rw [← Int.add_emod_right, Int.emod_eq_of_lt (by omega) (by omega)]
    · rw [Int.emod_eq_of_lt (by omega) (by omega)]
  by_cases h : Int.tmod x n < 0
  · rw [dec_lt h, cond_true, w64 (by omega) (by omega)]
    simp [e1, h]
  · rw [dec_nlt (by omega), cond_false]
    simp [e1, h]
theorem Raw_then {k : Nat} {x : List Int} {i : Int} {Y : Type} {f : Int → Int → Option Y} {Q : Y → Prop} (hx : x.length ≤ 600) (h0 : 0 ≤ i) (hf : ∀ a j, 0 ≤ j → Ok (f a j) Q) : Ok (Option.bind (make_Tape_Raw k x i) (uc f)) Q := by
  unfold make_Tape_Raw
  refine Ok.bind (Q := fun r => 0 ≤ r.2) (ok_bif (fun h => Ok.ret h0) fun h => ?_) fun r hr => ?_
  · have h' := of_decide_eq_false h
    rw [w64 (x := i + 1) (by omega) (by omega), w64 (x := i + 1 - 1) (by omega) (by omega)]
    exact ok_idx (by omega) (by omega) fun hi => Ok.ret (by simp only; omega)
  · obtain ⟨a, j⟩ := r; exact hf a j hr
theorem TNext_then {k : Nat} {n : Int} {x : List Int} {i : Int} {Y : Type} {f : Int → Int → Option Y} {Q : Y → Prop} (hx : x.length ≤ 600) (h0 : 0 ≤ i) (hn0 : 1 ≤ n) (hn : n ≤ 1000000) (hf : ∀ a j, 0 ≤ a → a < n → 0 ≤ j → Ok (f a j) Q) : Ok (Option.bind (make_Tape_Next k n x i) (uc f)) Q := by
  unfold make_Tape_Next
  refine Ok.bind (Q := fun r => 0 ≤ r.1 ∧ r.1 < n ∧ 0 ≤ r.2) (Raw_then hx h0 fun a j hj => ?_) fun r hr => ?_
  · rw [Cut_eq a hn0 (by omega), Option.bind_some]
    exact Ok.ret ⟨Int.emod_nonneg _ (by omega), Int.emod_lt_of_pos _ (by omega), hj⟩
  · obtain ⟨a, j⟩ := r; exact hf a j hr.1 hr.2.1 hr.2.2
theorem Range_then {k : Nat} {lo hi : Int} {x : List Int} {i : Int} {Y : Type} {f : Int → Int → Option Y} {Q : Y → Prop} (hx : x.length ≤ 600) (h0 : 0 ≤ i) (h1 : -100000 ≤ lo) (h2 : lo ≤ hi) (h3 : hi ≤ 100000) (hf : ∀ a j, lo ≤ a → a ≤ hi → 0 ≤ j → Ok (f a j) Q) : Ok (Option.bind (make_Tape_Range k lo hi x i) (uc f)) Q := by
  unfold make_Tape_Range
  rw [w64 (x := hi - lo) (by omega) (by omega), w64 (x := hi - lo + 1) (by omega) (by omega)]
  refine Ok.bind (Q := fun r => lo ≤ r.1 ∧ r.1 ≤ hi ∧ 0 ≤ r.2) (TNext_then hx h0 (by omega) (by omega) fun a j ha1 ha2 hj => ?_) fun r hr => ?_
  · rw [w64 (by omega) (by omega)]
    exact Ok.ret ⟨by simp only; omega, by simp only; omega, hj⟩
  · obtain ⟨a, j⟩ := r; exact hf a j hr.1 hr.2.1 hr.2.2
end Go.VM
namespace Go.VM
set_option linter.unusedVariables false
set_option linter.unusedSimpArgs false

theorem One_then {k : Nat} {n : Int} {x : List Int} {i : Int} {Y : Type} {f : Bool → Int → Option Y} {Q : Y → Prop} (hx : x.length ≤ 600) (h0 : 0 ≤ i) (hn0 : 1 ≤ n) (hn : n ≤ 1000000) (hf : ∀ b j, 0 ≤ j → Ok (f b j) Q) : Ok (Option.bind (make_Tape_One k n x i) (uc f)) Q := by
  unfold make_Tape_One
  refine Ok.bind (Q := fun r => 0 ≤ r.2) (TNext_then hx h0 hn0 hn fun a j _ _ hj => Ok.ret hj) fun r hr => ?_
  obtain ⟨b, j⟩ := r
  exact hf b j hr
theorem TPick_then {k : Nat} {l : List Int} {x : List Int} {i : Int} {Y : Type} {f : Int → Int → Option Y} {Q : Y → Prop} (hx : x.length ≤ 600) (h0 : 0 ≤ i) (hl0 : 1 ≤ l.length) (hl : l.length ≤ 1000) (hf : ∀ a j, a ∈ l → 0 ≤ j → Ok (f a j) Q) : Ok (Option.bind (make_Tape_Pick k l x i) (uc f)) Q := by
  unfold make_Tape_Pick
  refine Ok.bind (Q := fun r => r.1 ∈ l ∧ 0 ≤ r.2) (TNext_then hx h0 (by omega) (by omega) fun a j h1 h2 hj => ok_idx h1 h2 fun hi => Ok.ret ⟨List.getElem_mem hi, hj⟩) fun r hr => ?_
  obtain ⟨a, j⟩ := r
  exact hf a j hr.1 hr.2
theorem TPick2_then {k : Nat} {l : List Int} {x : List Int} {i : Int} {Y : Type} {f : Int → Int → Option Y} {Q : Y → Prop} (hx : x.length ≤ 600) (h0 : 0 ≤ i) (hl0 : 1 ≤ l.length) (hl : l.length ≤ 1000) (hf : ∀ a j, a ∈ l → 0 ≤ j → Ok (f a j) Q) : Ok (Option.bind (make_Tape_Pick_2 k x i l) (uc f)) Q := by
  unfold make_Tape_Pick_2
  refine Ok.bind (Q := fun r => r.1 ∈ l ∧ 0 ≤ r.2) (TNext_then hx h0 (by omega) (by omega) fun a j h1 h2 hj => ok_idx h1 h2 fun hi => Ok.ret ⟨List.getElem_mem hi, hj⟩) fun r hr => ?_
  obtain ⟨a, j⟩ := r
  exact hf a j hr.1 hr.2
theorem Wild_then {k : Nat} {x : List Int} {i : Int} {Y : Type} {f : Int → Int → Option Y} {Q : Y → Prop} (hx : x.length ≤ 600) (h0 : 0 ≤ i) (hf : ∀ a j, 0 ≤ j → Ok (f a j) Q) : Ok (Option.bind (make_Tape_Wild k x i) (uc f)) Q := by
  unfold make_Tape_Wild
  refine Ok.bind (Q := fun r => 0 ≤ r.2) (TPick_then hx h0 (by simp) (by simp) fun a j _ hj => Ok.ret hj) fun r hr => ?_
  obtain ⟨a, j⟩ := r
  exact hf a j hr
/-- What is bounded of a part. -/
def BP (p : SPart) : Prop := -1 ≤ p.Max ∧ p.Max ≤ 41 ∧ -1 ≤ p.Options ∧ p.Options ≤ 6
def Loose (l : List SPart) : Prop := l.length ≤ 12 ∧ ∀ p ∈ l, BP p
theorem TPart_then {k : Nat} {x : List Int} {i : Int} {Y : Type} {f : Int → Int → Int → Int → Int → Int → Int → Option Y} {Q : Y → Prop} (hx : x.length ≤ 600) (h0 : 0 ≤ i) (hf : ∀ a b c d e g j, BP ⟨a, b, c, d, e, g⟩ → 0 ≤ j → Ok (f a b c d e g j) Q) :
    Ok (Option.bind (make_Tape_Part k x i) (uc fun a => uc fun b => uc fun c => uc fun d => uc fun e => uc (f a b c d e))) Q := by
  unfold make_Tape_Part
  refine Ok.bind (Q := fun r => BP ⟨r.1, r.2.1, r.2.2.1, r.2.2.2.1, r.2.2.2.2.1, r.2.2.2.2.2.1⟩ ∧ 0 ≤ r.2.2.2.2.2.2) ?_ fun r hr => ?_
  · refine Range_then hx h0 (by omega) (by omega) (by omega) fun mx j h1 h2 hj => ?_
    refine TNext_then hx hj (by omega) (by omega) fun tp j h3 h4 hj => ?_
    refine TNext_then hx hj (by omega) (by omega) fun ob j h5 h6 hj => ?_
    refine TNext_then hx hj (by omega) (by omega) fun z j h7 h8 hj => ?_
    refine Ok.bind (Q := fun r => 0 ≤ r.1 ∧ BP ⟨r.2.1, r.2.2.1, tp, ob, r.2.2.2.1, r.2.2.2.2⟩) (ok_bif (fun h => ?_) fun h => Ok.ret ⟨hj, ?_⟩) fun r hr => ?_
    · refine Range_then hx hj (by omega) (by omega) (by omega) fun op j g1 g2 hj => ?_
      refine TNext_then hx hj (by omega) (by omega) fun ky j g3 g4 hj => ?_
      refine Range_then hx hj (by omega) (by omega) (by omega) fun m2 j g5 g6 hj => Ok.ret ⟨hj, ?_⟩
      unfold BP; dsimp only; omega
    · unfold BP; dsimp only; omega
    · obtain ⟨j, a, b, c, d⟩ := r
      exact Ok.ret ⟨hr.2, hr.1⟩
  · obtain ⟨a, b, c, d, e, g, j⟩ := r
    exact hf a b c d e g j hr.1 hr.2
theorem TPart2_then {k : Nat} {x : List Int} {i : Int} {Y : Type} {f : Int → Int → Int → Int → Int → Int → Int → Option Y} {Q : Y → Prop} (hx : x.length ≤ 600) (h0 : 0 ≤ i) (hf : ∀ a b c d e g j, BP ⟨a, b, c, d, e, g⟩ → 0 ≤ j → Ok (f a b c d e g j) Q) :
    Ok (Option.bind (make_Tape_Part_2 k x i) (uc fun a => uc fun b => uc fun c => uc fun d => uc fun e => uc (f a b c d e))) Q := by
  unfold make_Tape_Part_2
  refine Ok.bind (Q := fun r => BP ⟨r.1, r.2.1, r.2.2.1, r.2.2.2.1, r.2.2.2.2.1, r.2.2.2.2.2.1⟩ ∧ 0 ≤ r.2.2.2.2.2.2) ?_ fun r hr => ?_
  · refine Range_then hx h0 (by omega) (by omega) (by omega) fun mx j h1 h2 hj => ?_
    refine TNext_then hx hj (by omega) (by omega) fun tp j h3 h4 hj => ?_
    refine TNext_then hx hj (by omega) (by omega) fun ob j h5 h6 hj => ?_
    refine TNext_then hx hj (by omega) (by omega) fun z j h7 h8 hj => ?_
    refine Ok.bind (Q := fun r => 0 ≤ r.1 ∧ BP ⟨r.2.1, r.2.2.1, tp, ob, r.2.2.2.1, r.2.2.2.2⟩) (ok_bif (fun h => ?_) fun h => Ok.ret ⟨hj, ?_⟩) fun r hr => ?_
    · refine Range_then hx hj (by omega) (by omega) (by omega) fun op j g1 g2 hj => ?_
      refine TNext_then hx hj (by omega) (by omega) fun ky j g3 g4 hj => ?_
      refine Range_then hx hj (by omega) (by omega) (by omega) fun m2 j g5 g6 hj => Ok.ret ⟨hj, ?_⟩
      unfold BP; dsimp only; omega
    · unfold BP; dsimp only; omega
    · obtain ⟨j, a, b, c, d⟩ := r
      obtain ⟨hj, hb⟩ := hr
      simp only at hj hb
      simp only [uc_mk]
      refine One_then hx hj (by omega) (by omega) fun o j hj => ?_
      refine Ok.bind (Q := fun r => 0 ≤ r.1 ∧ BP ⟨r.2.1, r.2.2.1, r.2.2.2.1, r.2.2.2.2.1, r.2.2.2.2.2.1, r.2.2.2.2.2.2⟩) (ok_bif (fun h => ?_) fun h => Ok.ret ⟨hj, hb⟩) fun r hr => ?_
      · unfold BP at hb
        dsimp only at hb
        refine TNext_then hx hj (by omega) (by omega) fun z j h7 h8 hj => ?_
        refine ok_bif (fun h => ?_) fun h => ok_bif (fun h => ?_) fun h => ok_bif (fun h => ?_) fun h => ok_bif (fun h => ?_) fun h => ok_bif (fun h => ?_) fun h => ?_
        · exact Range_then hx hj (by omega) (by omega) (by omega) fun a j g1 g2 hj => Ok.ret ⟨hj, hb⟩
        · refine TPick_then hx hj (by simp) (by simp) fun a j ha hj => Ok.ret ⟨hj, ?_⟩
          unfold BP; dsimp only
          simp only [List.mem_cons, List.not_mem_nil, or_false] at ha
          omega
        · exact Wild_then hx hj fun a j hj => Ok.ret ⟨hj, hb⟩
        · exact Wild_then hx hj fun a j hj => Ok.ret ⟨hj, hb⟩
        · refine Range_then hx hj (by omega) (by omega) (by omega) fun a j g1 g2 hj => Ok.ret ⟨hj, ?_⟩
          unfold BP; dsimp only; omega
        · exact Range_then hx hj (by omega) (by omega) (by omega) fun a j g1 g2 hj => Ok.ret ⟨hj, hb⟩
      · obtain ⟨j, a, b, c, d, e, g⟩ := r
        exact Ok.ret ⟨hr.2, hr.1⟩
  · obtain ⟨a, b, c, d, e, g, j⟩ := r
    exact hf a b c d e g j hr.1 hr.2
theorem LPaper_then {k : Nat} {c v : Int} {x : List Int} {i : Int} {Y : Type} {f : List SPart → Int → Option Y} {Q : Y → Prop} (hx : x.length ≤ 600) (h0 : 0 ≤ i) (hk : 10 < k) (hf : ∀ l j, l.length ≤ 6 → (∀ p ∈ l, BP p) → 0 ≤ j → Ok (f l j) Q) : Ok (Option.bind (make_Tape_Paper k c v x i) (uc f)) Q := by
  unfold make_Tape_Paper
  refine Ok.bind (Q := fun r => (r.1.length ≤ 6 ∧ ∀ p ∈ r.1, BP p) ∧ 0 ≤ r.2) ?_ fun r hr => ?_
  · refine Range_then hx h0 (by omega) (by omega) (by omega) fun n j h1 h2 hj => ?_
    refine Ok.bind (Q := fun r => 0 ≤ r.1 ∧ (r.2.length ≤ 6 ∧ ∀ p ∈ r.2, BP p)) (ok_loop (fun s => 0 ≤ s.1 ∧ s.1 + s.2.2.length = n ∧ 0 ≤ s.2.1 ∧ ∀ p ∈ s.2.2, BP p) (fun s => s.1.toNat) ⟨by simp only; omega, by simp, hj, by simp⟩ (by simp only; omega) ?_) fun r hr => ?_
    · intro again s hs hag
      obtain ⟨c, j, xs⟩ := s
      obtain ⟨g1, g2, g3, g4⟩ := hs
      simp only at g1 g2 g3 g4
      simp only [make_Tape_Paper_b1, uc_mk]
      refine ok_bif (fun hc => ?_) fun hc => ?_
      · have hc' := of_decide_eq_true hc
        refine TPart_then hx g3 fun a b c2 d e g j hP hj => ?_
        refine ok_cap (by simp; omega) ?_
        rw [w64 (x := c - 1) (by omega) (by omega)]
        refine hag _ ⟨by simp only; omega, by simp; omega, hj, fun p hp => ?_⟩ (by simp only; omega)
        simp only [List.mem_append, List.mem_singleton] at hp
        rcases hp with hp | rfl
        · exact g4 p hp
        · exact hP
      · have hc' := of_decide_eq_false hc
        exact Ok.ret ⟨g3, by simp only; omega, g4⟩
    · obtain ⟨j, l⟩ := r
      exact Ok.ret ⟨hr.2, hr.1⟩
  · obtain ⟨l, j⟩ := r
    exact hf l j hr.1.1 hr.1.2 hr.2
theorem Loose_then {k : Nat} {x : List Int} {i : Int} {Y : Type} {f : Int → Int → List SPart → Int → Option Y} {Q : Y → Prop} (hx : x.length ≤ 600) (h0 : 0 ≤ i) (hk : 20 < k) (hf : ∀ a b l j, Loose l → 0 ≤ j → Ok (f a b l j) Q) : Ok (Option.bind (make_Tape_LoosePaper k x i) (uc fun a => uc fun b => uc (f a b))) Q := by
  unfold make_Tape_LoosePaper
  refine Ok.bind (Q := fun r => Loose r.2.2.1 ∧ 0 ≤ r.2.2.2) ?_ fun r hr => ?_
  · refine Range_then hx h0 (by omega) (by omega) (by omega) fun c j h1 h2 hj => ?_
    refine TNext_then hx hj (by omega) (by omega) fun v j h3 h4 hj => ?_
    refine LPaper_then (c := c) (v := v) hx hj (by omega) fun l j hl hb hj => ?_
    refine One_then hx hj (by omega) (by omega) fun o j hj => ?_
    refine Ok.bind (Q := fun r => 0 ≤ r.1 ∧ Loose r.2.2.2) (ok_bif (fun h => ?_) fun h => Ok.ret ⟨hj, by dsimp only; omega, hb⟩) fun r hr => ?_
    · refine TNext_then hx hj (by omega) (by omega) fun z j h7 h8 hj => ?_
      refine Ok.bind (Q := fun r => 0 ≤ r.1 ∧ Loose r.2.2.2) (ok_bif (fun h => ?_) fun h => ok_bif (fun h => ?_) fun h => ok_bif (fun h => ?_) fun h => ok_bif (fun h => ?_) fun h => ?_) fun r hr => ?_
      · exact Wild_then hx hj fun a j hj => Ok.ret ⟨hj, by dsimp only; omega, hb⟩
      · exact Range_then hx hj (by omega) (by omega) (by omega) fun a j g1 g2 hj => Ok.ret ⟨hj, by dsimp only; omega, hb⟩
      · exact Ok.ret ⟨hj, by simp, by simp⟩
      · refine TPart2_then hx hj fun a b c d e g j hP hj => ok_cap (by simp; omega) (Ok.ret ⟨hj, by simp; omega, fun p hp => ?_⟩)
        simp only [List.mem_append, List.mem_singleton] at hp
        rcases hp with hp | rfl
        · exact hb p hp
        · exact hP
      · refine Ok.bind (Q := fun r => Loose r) (ok_loop (fun s => 0 ≤ s.1 ∧ s.1 ≤ 6 ∧ (s.2.length : Int) = l.length + s.1 ∧ ∀ p ∈ s.2, BP p) (fun s => (6 - s.1).toNat) ⟨by simp, by simp, by simp, hb⟩ (by dsimp only; omega) ?_) fun r hr => Ok.ret ⟨hj, hr⟩
        intro again s hs hag
        obtain ⟨c, xs⟩ := s
        obtain ⟨g1, g2, g3, g4⟩ := hs
        simp only at g1 g2 g3 g4
        simp only [make_Tape_LoosePaper_b1, uc_mk]
        refine ok_bif (fun hc => ?_) fun hc => Ok.ret ⟨by omega, g4⟩
        have hc' := of_decide_eq_true hc
        refine ok_cap (by simp; omega) ?_
        rw [w64 (x := c + 1) (by omega) (by omega)]
        refine hag _ ⟨by simp only; omega, by simp only; omega, by simp; omega, fun p hp => ?_⟩ (by simp only; omega)
        simp only [List.mem_append, List.mem_singleton] at hp
        rcases hp with hp | rfl
        · exact g4 p hp
        · unfold BP; dsimp only; omega
      · obtain ⟨j, a, b, l⟩ := r
        exact Ok.ret hr
    · obtain ⟨j, a, b, l⟩ := r
      exact Ok.ret ⟨hr.2, hr.1⟩
  · obtain ⟨a, b, l, j⟩ := r
    exact hf a b l j hr.1 hr.2
structure LooseS (ks : List (List Int)) (ws : List Int) : Prop where
  n : ks.length ≤ 12
  each : ∀ key ∈ ks, key.length ≤ 8
  m : ws.length ≤ 12
theorem LScheme_then {k : Nat} {c v : Int} {p : List SPart} {x : List Int} {i : Int} {Y : Type} {f : List (List Int) → List Int → Int → Option Y} {Q : Y → Prop} (hx : x.length ≤ 600) (h0 : 0 ≤ i) (hk : 20 < k) (hp : Loose p) (hf : ∀ ks ws j, LooseS ks ws → 0 ≤ j → Ok (f ks ws j) Q) : Ok (Option.bind (make_Tape_Scheme k c v p x i) (uc fun a => uc (f a))) Q := by
  unfold make_Tape_Scheme
  have hpl := hp.1
  refine Ok.bind (Q := fun r => LooseS r.1 r.2.1 ∧ 0 ≤ r.2.2) ?_ fun r hr => ?_
  · refine Ok.bind (Q := fun r => (r.2.1.length = p.length ∧ (∀ key ∈ r.2.1, key.length ≤ 6) ∧ r.2.2.length = p.length) ∧ 0 ≤ r.1) (ok_range p (fun s => s.1) (fun pre s => 0 ≤ s.2.1 ∧ s.2.2.1.length = pre.length ∧ (∀ key ∈ s.2.2.1, key.length ≤ 6) ∧ s.2.2.2.length = pre.length) (by omega) rfl ⟨h0, rfl, by simp, rfl⟩ (by omega) ?_ ?_) fun r hr => ?_
    · intro again s pre e post hl hi hlt hw hinv hag
      obtain ⟨i, j, ks, ws⟩ := s
      obtain ⟨hj, i1, i2, i3⟩ := hinv
      simp only at hi hlt hw hj i1 i2 i3
      simp only [make_Tape_Scheme_b1, uc_mk]
      rw [dec_lt hlt, cond_true, gidx_mid hl hi]
      have hpe := hp.2 e (by rw [hl]; simp)
      unfold BP at hpe
      have hle : pre.length ≤ 11 := by rw [hl] at hpl; simp at hpl; omega
      refine Ok.bind (Q := fun r => 0 ≤ r.2) (ok_bif (fun h => TNext_then hx hj (by omega) (by omega) fun z j h1 h2 hj => Ok.ret hj) fun h => Ok.ret hj) fun r hr => ?_
      obtain ⟨b, j⟩ := r
      simp only [uc_mk]
      refine Ok.bind (Q := fun r => 0 ≤ r.1 ∧ r.2.length ≤ 6) (ok_bif (fun h => ?_) fun h => Ok.ret ⟨hr, by simp⟩) fun r hr => ?_
      · refine Ok.bind (Q := fun r => 0 ≤ r.1 ∧ r.2.length ≤ 6) (ok_loop (fun s => 0 ≤ s.1 ∧ (s.1 = 0 ∨ s.1 ≤ e.Options) ∧ 0 ≤ s.2.1 ∧ (s.2.2.length : Int) ≤ s.1) (fun s => (e.Options - s.1).toNat) ⟨by simp, .inl rfl, hr, by simp⟩ (by simp only; omega) ?_) fun r hr => ?_
        · intro again s hs hag
          obtain ⟨c, j, xs⟩ := s
          obtain ⟨g1, g2, g3, g4⟩ := hs
          simp only at g1 g2 g3 g4
          simp only [make_Tape_Scheme_b2, uc_mk]
          rw [gidx_mid hl hi]
          refine ok_bif (fun hc => ?_) fun hc => Ok.ret ⟨g3, by simp only; omega⟩
          have hc' := of_decide_eq_true hc
          refine Ok.bind (Q := fun r => 0 ≤ r.1 ∧ (r.2.length : Int) ≤ c + 1) (TNext_then hx g3 (by omega) (by omega) fun z j h1 h2 hj => ok_bif (fun h => ok_cap (by simp; omega) (Ok.ret ⟨hj, by simp; omega⟩)) fun h => Ok.ret ⟨hj, by simp only; omega⟩) fun r hr => ?_
          obtain ⟨j, ys⟩ := r
          simp only [uc_mk]
          rw [w64 (x := c + 1) (by omega) (by omega)]
          exact hag _ ⟨by simp only; omega, .inr (by simp only; omega), hr.1, hr.2⟩ (by simp only; omega)
        · obtain ⟨j, ys⟩ := r
          exact Ok.ret hr
      · obtain ⟨j, ys⟩ := r
        obtain ⟨hj, hy⟩ := hr
        simp only at hj hy
        simp only [uc_mk]
        refine Ok.bind (Q := fun r => r.2.length = pre.length + 1 ∧ 0 ≤ r.1) (ok_cap (by simp; omega) (TPick2_then hx hj (by simp) (by simp) fun w j _ hj => ok_cap (by simp; omega) (Ok.ret ⟨by simp [i3], hj⟩))) fun r hr => ?_
        obtain ⟨j, vs⟩ := r
        simp only [uc_mk]
        rw [hw]
        refine hag _ rfl ⟨hr.2, by simp [i1], fun key hkey => ?_, by simp [hr.1]⟩
        simp only [List.mem_append, List.mem_singleton] at hkey
        rcases hkey with hkey | rfl
        · exact i2 key hkey
        · exact hy
    · intro again s hi hinv
      obtain ⟨i, j, ks, ws⟩ := s
      simp only at hi
      simp only [make_Tape_Scheme_b1, uc_mk]
      rw [dec_nlt (by omega), cond_false]
      exact Ok.ret ⟨hinv.2, hinv.1⟩
    · obtain ⟨j, ks, ws⟩ := r
      obtain ⟨⟨i1, i2, i3⟩, hj⟩ := hr
      simp only at i1 i2 i3 hj
      simp only [uc_mk]
      have base : LooseS ks ws := ⟨by omega, fun key h => by have := i2 key h; omega, by omega⟩
      refine One_then hx hj (by omega) (by omega) fun o j hj => ok_let ?_
      refine Ok.bind (Q := fun r => 0 ≤ r.1 ∧ LooseS r.2.1 r.2.2) (ok_bif (fun h => ?_) fun h => Ok.ret ⟨hj, base⟩) fun r hr => ?_
      · have hpos : 1 ≤ ks.length := by
          rw [Bool.and_eq_true_iff] at h
          have := of_decide_eq_true h.2
          omega
        refine TNext_then hx hj (by omega) (by omega) fun z j h7 h8 hj => ?_
        refine ok_bif (fun h => ?_) fun h => ok_bif (fun h => ?_) fun h => ?_
        · refine Ok.bind (Q := fun r => 0 ≤ r.1 ∧ r.2.length ≤ 12) (TNext_then hx hj (by omega) (by omega) fun q j h1 h2 hj => TPick2_then hx hj (by simp) (by simp) fun w j _ hj => ok_idx h1 h2 fun hi => ok_let (Ok.ret ⟨hj, by simp; omega⟩)) fun r hr => ?_
          obtain ⟨j, vs⟩ := r
          exact Ok.ret ⟨hr.1, base.n, base.each, hr.2⟩
        · refine TNext_then hx hj (by omega) (by omega) fun q j h1 h2 hj => ?_
          refine Ok.bind (Q := fun r => 0 ≤ r.1 ∧ r.2.length ≤ 12 ∧ ∀ key ∈ r.2, key.length ≤ 8) (ok_idx h1 h2 fun hi => Range_then hx hj (by omega) (by omega) (by omega) fun w j _ _ hj => ok_cap ?_ (ok_let (Ok.ret ⟨hj, by simp; omega, fun key hkey => ?_⟩))) fun r hr => ?_
          · have := i2 _ (List.getElem_mem hi)
            simp; omega
          · have := i2 _ (List.getElem_mem hi)
            rcases List.mem_or_eq_of_mem_set hkey with h | h
            · have := i2 key h; omega
            · rw [h]; simp; omega
          · obtain ⟨j, vs⟩ := r
            exact Ok.ret ⟨hr.1, hr.2.1, hr.2.2, base.m⟩
        · refine ok_cut (by omega) (by omega) (by omega) (Ok.ret ⟨hj, ?_, fun key hkey => base.each key (List.mem_of_mem_drop hkey), base.m⟩)
          simp; omega
      · obtain ⟨j, a, b⟩ := r
        exact Ok.ret ⟨hr.2, hr.1⟩
  · obtain ⟨ks, ws, j⟩ := r
    exact hf ks ws j hr.1 hr.2
end Go.VM
namespace Go.VM
set_option linter.unusedVariables false
set_option linter.unusedSimpArgs false

def allN (g : Nat → Bool) : Nat → Bool
  | 0 => true
  | n + 1 => allN g n && g n
theorem allN_true {g : Nat → Bool} {n : Nat} : allN g n = true ↔ ∀ i, i < n → g i = true := by
  induction n with
  | zero => simp [allN]
  | succ n ih =>
    simp only [allN, Bool.and_eq_true, ih]
    constructor
    · intro h i hi
      by_cases e : i = n
      · subst e; exact h.2
      · exact h.1 i (by omega)
    · exact fun h => ⟨fun i hi => h i (by omega), h n (by omega)⟩
theorem allN_false {g : Nat → Bool} {n i : Nat} (hi : i < n) (hg : g i = false) : allN g n = false := by
  cases h : allN g n
  · rfl
  · rw [allN_true.1 h i hi] at hg; cases hg
theorem allN_congr {f g : Nat → Bool} {n : Nat} (h : ∀ i, i < n → f i = g i) : allN f n = allN g n := by
  induction n with
  | zero => rfl
  | succ n ih => simp only [allN]; rw [ih fun i hi => h i (by omega), h n (by omega)]
theorem allN_and {f g : Nat → Bool} {n : Nat} : allN (fun i => f i && g i) n = (allN f n && allN g n) := by
  induction n with
  | zero => rfl
  | succ n ih =>
    simp only [allN, ih]
    cases allN f n <;> cases allN g n <;> cases f n <;> cases g n <;> rfl
theorem allN_const {n : Nat} : allN (fun _ => true) n = true := allN_true.2 fun _ _ => rfl
def sumN (f : Nat → Int) : Nat → Int
  | 0 => 0
  | n + 1 => sumN f n + f n
/-- What a loop over places answers. -/
def runF {S X : Type} (st : Nat → S → S ⊕ X) (fin : S → X) : Nat → Nat → S → X
  | 0, _, s => fin s
  | m + 1, i, s => match st i s with
    | .inl s' => runF st fin m (i + 1) s'
    | .inr r => r
theorem idx_loop {S X : Type} {body : (S → Option X) → S → Option X} {n : Nat} (st : Nat → S → S ⊕ X) (fin : S → X) (Inv : Nat → S → Prop)
    (step : ∀ again i s, i < n → Inv i s → body again s = Sum.elim again some (st i s) ∧ ∀ s', st i s = .inl s' → Inv (i + 1) s')
    (last : ∀ again s, Inv n s → body again s = some (fin s)) : ∀ (m k i : Nat) (s : S), i + m = n → m < k → Inv i s → gloop body k s = some (runF st fin m i s) := by
  intro m
  induction m with
  | zero =>
    intro k i s hi hk hI
    obtain ⟨k, rfl⟩ : ∃ k', k = k' + 1 := ⟨k - 1, by omega⟩
    obtain rfl : i = n := by omega
    exact last _ s hI
  | succ m ih =>
    intro k i s hi hk hI
    obtain ⟨k, rfl⟩ : ∃ k', k = k' + 1 := ⟨k - 1, by omega⟩
    obtain ⟨h1, h2⟩ := step (gloop body k) i s (by omega) hI
    show body (gloop body k) s = _
    rw [h1]
    simp only [runF]
    cases hs : st i s with
    | inl s' => exact ih k (i + 1) s' (by omega) (by omega) (h2 s' hs)
    | inr r => rfl
theorem idx_get {α X : Type} {l : List α} {i : Nat} {B : α → Option X} (d : α) (h : i < l.length) : gidx l (i : Int) B = B (l.getD i d) := by
  rw [gidx_some (by omega) (by simpa using h)]
  simp [List.getD, h]
theorem wsucc {i : Nat} (h : i < 1000000) : IntKind.wrap .i64 ((i : Int) + 1) = ((i + 1 : Nat) : Int) := by rw [w64 (by omega) (by omega)]; omega
theorem dec_in {i n : Nat} (h : i < n) : decide ((i : Int) < (n : Int)) = true := decide_eq_true (by omega)
theorem dec_end {n : Nat} : decide ((n : Int) < (n : Int)) = false := decide_eq_false (by omega)
/-- A loop that looks at each place. -/
theorem all_loop {k n : Nat} {R : Type} (g : Nat → Bool) (r : Nat → R) {body : (Int → Option (Unit ⊕ R)) → Int → Option (Unit ⊕ R)} (hk : n < k)
    (step : ∀ again (i : Nat), i < n → body again i = bif g i then again ((i + 1 : Nat) : Int) else some (.inr (r i)))
    (last : ∀ again, body again (n : Int) = some (.inl ())) : Ok (gloop body k 0) (fun x => match x with | .inl _ => allN g n = true | .inr b => allN g n = false ∧ ∃ i, i < n ∧ b = r i) := by
  refine ok_loop (fun s => 0 ≤ s ∧ s ≤ n ∧ allN g s.toNat = true) (fun s => ((n : Int) - s).toNat) ⟨by omega, by omega, rfl⟩ (by omega) ?_
  intro again s hs hag
  obtain ⟨h0, h1, h2⟩ := hs
  obtain ⟨i, rfl⟩ : ∃ i : Nat, s = i := ⟨s.toNat, by omega⟩
  simp only [Int.toNat_natCast] at h2
  by_cases hi : i < n
  · rw [step again i hi]
    cases hg : g i
    · exact Ok.ret ⟨allN_false hi hg, i, hi, rfl⟩
    · refine hag _ ⟨by omega, by omega, ?_⟩ (by omega)
      simp only [Int.toNat_natCast, allN, h2, hg, Bool.and_self]
  · obtain rfl : i = n := by omega
    rw [last]
    exact Ok.ret h2
theorem all_loop_eq {k n : Nat} (g : Nat → Bool) {body : (Int → Option (Unit ⊕ Bool)) → Int → Option (Unit ⊕ Bool)} (b : Bool) (hk : n < k)
    (step : ∀ again (i : Nat), i < n → body again i = bif g i then again ((i + 1 : Nat) : Int) else some (.inr b))
    (last : ∀ again, body again (n : Int) = some (.inl ())) : gloop body k 0 = some (bif allN g n then .inl () else .inr b) := by
  obtain ⟨x, e, hx⟩ := all_loop g (fun _ => b) hk step last
  rw [e]
  cases x with
  | inl u => simp only at hx; rw [hx]; rfl
  | inr c => obtain ⟨h1, i, _, rfl⟩ := hx; rw [h1]; rfl
/-- A loop that looks at each place and adds. -/
theorem sum_loop {k n : Nat} {X : Type} (g : Nat → Bool) (f : Nat → Int) (fin : Int → X) (bad : X) {body : (Int × Int → Option X) → Int × Int → Option X} (hk : n < k) (hn : n ≤ 1000) (hf : ∀ i, i < n → -1000 ≤ f i ∧ f i ≤ 1000)
    (step : ∀ again (a : Int) (i : Nat), i < n → -1000000 ≤ a → a ≤ 1000000 → body again (a, i) = bif g i then again (a + f i, ((i + 1 : Nat) : Int)) else some bad)
    (last : ∀ again a, body again (a, (n : Int)) = some (fin a)) : gloop body k (0, 0) = some (bif allN g n then fin (sumN f n) else bad) := by
  refine eq_of_ok (ok_loop (fun s => 0 ≤ s.2 ∧ s.2 ≤ n ∧ allN g s.2.toNat = true ∧ s.1 = sumN f s.2.toNat ∧ -1000 * s.2 ≤ s.1 ∧ s.1 ≤ 1000 * s.2) (fun s => ((n : Int) - s.2).toNat) ⟨by simp, by simp, rfl, rfl, by simp, by simp⟩ (by simp only; omega) ?_)
  intro again s hs hag
  obtain ⟨a, j⟩ := s
  obtain ⟨h0, h1, h2, h3, h4, h5⟩ := hs
  simp only at h0 h1 h2 h3 h4 h5
  obtain ⟨i, rfl⟩ : ∃ i : Nat, j = i := ⟨j.toNat, by omega⟩
  simp only [Int.toNat_natCast] at h2 h3
  by_cases hi : i < n
  · rw [step again a i hi (by omega) (by omega)]
    have hfi := hf i hi
    cases hg : g i
    · rw [allN_false hi hg]; exact Ok.ret rfl
    · refine hag _ ⟨by simp only; omega, by simp only; omega, ?_, ?_, by simp only; omega, by simp only; omega⟩ (by simp only; omega)
      · simp only [Int.toNat_natCast, allN, h2, hg, Bool.and_self]
      · simp only [Int.toNat_natCast, sumN, h3]
  · obtain rfl : i = n := by omega
    rw [last, h2, h3]
    exact Ok.ret rfl
def noPart : SPart := ⟨0, 0, 0, 0, 0, 0⟩
def partB (p : SPart) : Bool := decide (1 ≤ p.Max ∧ p.Max ≤ 40 ∧ 0 ≤ p.Topic ∧ p.Topic ≤ 15 ∧ 0 ≤ p.Objective ∧ p.Objective ≤ 5 ∧ (p.Kind = 1 ∧ p.Options = 0 ∧ p.Key = 0 ∨ p.Kind = 2 ∧ 2 ≤ p.Options ∧ p.Options ≤ 5 ∧ 0 ≤ p.Key ∧ p.Key < p.Options))
theorem in_eq (k : Nat) (n lo hi : Int) : item_in k n lo hi = some (decide (lo ≤ n) && decide (n ≤ hi)) := rfl
theorem some_bif {X : Type} {b : Bool} {x y : X} : (bif b then some x else some y) = some (bif b then x else y) := by cases b <;> rfl
theorem part_dec {k : Nat} {a b c d e g : Int} : item_ValidPart k a b c d e g = some (partB ⟨a, b, c, d, e, g⟩) := by
  unfold item_ValidPart partB
  have hw : 2 ≤ e → e ≤ 5 → IntKind.wrap .i64 (e - 1) = e - 1 := fun h1 h2 => w64 (by omega) (by omega)
  simp only [in_eq, Option.bind_some, some_bif, blet_mk]
  congr 1
  generalize IntKind.wrap .i64 (e - 1) = w at hw
  rw [Bool.eq_iff_iff]
  simp only [decide_eq_true_eq, Bool.cond_eq_ite, beq_int, Bool.not_eq_true', Bool.and_eq_true, Bool.and_eq_false_iff, decide_eq_false_iff_not]
  by_cases h1 : 1 ≤ b ∧ b ≤ 40 <;> by_cases h2 : 0 ≤ c ∧ c ≤ 15 <;> by_cases h3 : 0 ≤ d ∧ d ≤ 5 <;> by_cases h4 : a = 1 <;> by_cases h5 : a = 2 <;> by_cases h6 : 2 ≤ e ∧ e ≤ 5 <;> simp [h1, h2, h3, h4, h5, h6] <;> omega
theorem rpart_dec {k : Nat} {a b c d e g : Int} : ref06_ValidPart k a b c d e g = some (partB ⟨a, b, c, d, e, g⟩) := by
  unfold ref06_ValidPart partB
  simp only [some_bif, blet_mk]
  congr 1
  rw [Bool.eq_iff_iff]
  simp only [decide_eq_true_eq, Bool.cond_eq_ite, beq_int]
  by_cases h1 : 1 ≤ b ∧ b ≤ 40 <;> by_cases h2 : 0 ≤ c ∧ c ≤ 15 <;> by_cases h3 : 0 ≤ d ∧ d ≤ 5 <;> by_cases h4 : a = 1 <;> by_cases h5 : a = 2 <;> simp [h1, h2, h3, h4, h5] <;> omega
theorem getD_in {α : Type} {l : List α} {i : Nat} (d : α) (h : i < l.length) : l.getD i d ∈ l := by
  simp only [List.getD, List.getElem?_eq_getElem h, Option.getD_some]
  exact List.getElem_mem h
def partsB (p : List SPart) : Bool := allN (fun i => partB (p.getD i noPart)) p.length
def maxes (p : List SPart) : Int := sumN (fun i => (p.getD i noPart).Max) p.length
def paperB (c v : Int) (p : List SPart) : Bool := decide (0 ≤ c ∧ c ≤ 31 ∧ 0 ≤ v ∧ v ≤ 3 ∧ 1 ≤ p.length ∧ p.length ≤ 24) && partsB p && decide (maxes p ≤ 200)
theorem maxes_near {p : List SPart} (hp : Loose p) : ∀ i, i < p.length → -1000 ≤ (p.getD i noPart).Max ∧ (p.getD i noPart).Max ≤ 1000 := by
  intro i hi
  have := hp.2 _ (getD_in noPart hi)
  unfold BP at this
  omega
theorem paper_dec {k : Nat} {c v : Int} {p : List SPart} (hp : Loose p) (hk : 20 < k) : item_ValidPaper k c v p = some (paperB c v p) := by
  have hpl := hp.1
  have h1 : slices_ContainsFunc_api_Part_api_Part k p = some (!partsB p) := by
    unfold slices_ContainsFunc_api_Part_api_Part slices_IndexFunc_api_Part_api_Part
    refine eq_of_ok (Ok.bind (Q := fun r => decide (r ≥ 0) = !partsB p) (ok_sum (Q := fun _ => partsB p = true) (R := fun r => partsB p = false ∧ 0 ≤ r) ?_ (fun _ h => Ok.ret (by rw [h]; rfl)) (fun r h => Ok.ret (by rw [h.1]; exact decide_eq_true h.2))) fun r hr => Ok.ret hr)
    obtain ⟨x, e, hx⟩ := all_loop (body := slices_IndexFunc_api_Part_api_Part_b1 k p) (k := k) (n := p.length) (fun i => partB (p.getD i noPart)) (fun i => (i : Int)) (by omega) (fun again i hi => by
      simp only [slices_IndexFunc_api_Part_api_Part_b1]
      rw [dec_in hi, cond_true, idx_get noPart hi, wsucc (by omega)]
      unfold item_bad
      rw [part_dec]
      simp only [Option.bind_some]
      cases partB (p.getD i noPart) <;> rfl) (fun again => by
      simp only [slices_IndexFunc_api_Part_api_Part_b1]
      rw [dec_end, cond_false])
    refine ⟨x, e, ?_⟩
    cases x with
    | inl u => exact hx
    | inr b => obtain ⟨h1, i, _, rfl⟩ := hx; exact ⟨h1, by omega⟩
  have h2 : item_sum k p = some (maxes p) := by
    unfold item_sum
    rw [sum_loop (body := item_sum_b1 k p) (k := k) (n := p.length) (fun _ => true) (fun i => (p.getD i noPart).Max) (fun x => x) 0 (by omega) (by omega) (maxes_near hp) (fun again a i hi ha hb => by
      have := maxes_near hp i hi
      simp only [item_sum_b1, uc_mk]
      rw [dec_in hi, cond_true, idx_get noPart hi, wsucc (by omega), w64 (by omega) (by omega), cond_true]) (fun again a => by
      simp only [item_sum_b1, uc_mk]
      rw [dec_end, cond_false]), allN_const]
    rfl
  unfold item_ValidPaper paperB
  rw [h1, h2]
  simp only [in_eq, Option.bind_some, some_bif]
  congr 1
  rw [Bool.eq_iff_iff]
  cases partsB p
  · simp
  · simp only [Bool.cond_eq_ite, Bool.not_true, Bool.not_false, Bool.and_true]
    by_cases h1 : 0 ≤ c ∧ c ≤ 31 <;> by_cases h2 : 0 ≤ v ∧ v ≤ 3 <;> by_cases h3 : 1 ≤ p.length ∧ p.length ≤ 24 <;> simp [h1, h2, h3] <;> omega
theorem rpaper_dec {k : Nat} {c v : Int} {p : List SPart} (hp : Loose p) (hk : 20 < k) : ref06_ValidPaper k c v p = some (paperB c v p) := by
  have hpl := hp.1
  unfold ref06_ValidPaper
  rw [sum_loop (body := ref06_ValidPaper_b1 k p) (k := k) (n := p.length) (fun i => partB (p.getD i noPart)) (fun i => (p.getD i noPart).Max) Sum.inl (Sum.inr false) (by omega) (by omega) (maxes_near hp) (fun again a i hi ha hb => by
      have := maxes_near hp i hi
      simp only [ref06_ValidPaper_b1, uc_mk]
      rw [dec_in hi, cond_true, idx_get noPart hi, rpart_dec, wsucc (by omega), w64 (by omega) (by omega)]
      simp only [Option.bind_some]
      cases partB (p.getD i noPart) <;> rfl) (fun again a => by
      simp only [ref06_ValidPaper_b1, uc_mk]
      rw [dec_end, cond_false])]
  unfold paperB
  change _ = some (decide (0 ≤ c ∧ c ≤ 31 ∧ 0 ≤ v ∧ v ≤ 3 ∧ 1 ≤ p.length ∧ p.length ≤ 24) && partsB p && decide (maxes p ≤ 200))
  change (blet _ fun x5 => blet _ fun x6 => blet _ fun x7 => blet _ fun x8 => blet _ fun x9 => bif x9 then some false else Option.bind (some (bif partsB p then Sum.inl (maxes p) else Sum.inr false)) _) = _
  simp only [blet_mk, Option.bind_some]
  cases partsB p
  · simp only [cond_false, Sum.elim_inr, Bool.and_false, Bool.false_and, some_bif]
    congr 1
    cases (decide (c < 0) || decide (c > 31) || decide (v < 0) || decide (v ≥ 4) || decide ((p.length : Int) < 1) || decide ((p.length : Int) > 24)) <;> rfl
  · simp only [cond_true, Sum.elim_inl, some_bif, Bool.and_true]
    congr 1
    rw [Bool.eq_iff_iff]
    simp only [Bool.cond_eq_ite]
    by_cases h1 : 0 ≤ c ∧ c ≤ 31 <;> by_cases h2 : 0 ≤ v ∧ v ≤ 3 <;> by_cases h3 : 1 ≤ p.length ∧ p.length ≤ 24 <;> simp [h1, h2, h3] <;> omega
/-- Keys of a part. -/
def keysB (p : SPart) (l : List Int) : Bool := allN (fun j => !((decide (l.getD j 0 < 0) || decide (l.getD j 0 ≥ p.Options)) || (decide ((j : Int) > 0) && decide (l.getD (j - 1) 0 ≥ l.getD j 0)))) l.length
def knownB (w : Int) : Bool := decide (0 ≤ w ∧ w ≤ 2)
def schemeB (c v : Int) (p : List SPart) (ks : List (List Int)) (ws : List Int) : Bool :=
  (paperB c v p && decide (ks.length = p.length) && decide (ws.length = p.length)) && allN (fun i => keysB (p.getD i noPart) (ks.getD i [])) p.length && allN (fun i => knownB (ws.getD i 0)) p.length
theorem bne_nat {a b : Nat} : ((a : Int) != (b : Int)) = !decide (a = b) := by
  by_cases h : a = b
  · subst h; simp
  · have : ¬ (a : Int) = b := by omega
    simp [h, this]
theorem valid_dec {k : Nat} {c v : Int} {p : List SPart} {ks : List (List Int)} {ws : List Int} (hp : Loose p) (hs : LooseS ks ws) (hk : 20 < k) : scheme_Valid k c v p ks ws = some (schemeB c v p ks ws) := by
  have hpl := hp.1
  have hwl := hs.m
  unfold scheme_Valid schemeB
  rw [paper_dec hp hk]
  simp only [Option.bind_some, blet_mk, bne_nat]
  by_cases h0 : (paperB c v p && decide (ks.length = p.length) && decide (ws.length = p.length)) = true
  · rw [h0]
    simp only [Bool.and_eq_true, decide_eq_true_eq] at h0
    obtain ⟨⟨h1, h2⟩, h3⟩ := h0
    rw [h1, decide_eq_true h2, decide_eq_true h3]
    simp only [Bool.not_true, Bool.or_self, cond_false]
    have ew : slices_ContainsFunc_int k ws = some (!allN (fun i => knownB (ws.getD i 0)) p.length) := by
      unfold slices_ContainsFunc_int slices_IndexFunc_int
      refine eq_of_ok (Ok.bind (Q := fun r => decide (r ≥ 0) = !allN (fun i => knownB (ws.getD i 0)) p.length) (ok_sum (Q := fun _ => allN (fun i => knownB (ws.getD i 0)) p.length = true) (R := fun r => allN (fun i => knownB (ws.getD i 0)) p.length = false ∧ 0 ≤ r) ?_ (fun _ h => Ok.ret (by rw [h]; rfl)) (fun r h => Ok.ret (by rw [h.1]; exact decide_eq_true h.2))) fun r hr => Ok.ret hr)
      rw [← h3]
      obtain ⟨x, e, hx⟩ := all_loop (body := slices_IndexFunc_int_b1 k ws) (k := k) (n := ws.length) (fun i => knownB (ws.getD i 0)) (fun i => (i : Int)) (by omega) (fun again i hi => by
        simp only [slices_IndexFunc_int_b1]
        rw [dec_in hi, cond_true, idx_get 0 hi, wsucc (by omega)]
        have e1 : scheme_Valid_1 k (ws.getD i 0) = some (!knownB (ws.getD i 0)) := by
          generalize ws.getD i 0 = w
          unfold scheme_Valid_1 scheme_known knownB
          simp only [beq_int, some_bif, Option.bind_some]
          congr 2
          by_cases a0 : w = 0 <;> by_cases a1 : w = 1 <;> by_cases a2 : w = 2 <;> simp [a0, a1, a2] <;> omega
        rw [e1]
        simp only [Option.bind_some]
        cases knownB (ws.getD i 0) <;> rfl) (fun again => by
        simp only [slices_IndexFunc_int_b1]
        rw [dec_end, cond_false])
      refine ⟨x, e, ?_⟩
      cases x with
      | inl u => exact hx
      | inr b => obtain ⟨h1, i, _, rfl⟩ := hx; exact ⟨h1, by omega⟩
    rw [ew, all_loop_eq (body := scheme_Valid_b1 k p ks) (k := k) (n := p.length) (fun i => keysB (p.getD i noPart) (ks.getD i [])) false (by omega) (fun again i hi => by
      simp only [scheme_Valid_b1]
      rw [dec_in hi, cond_true, idx_get noPart hi, idx_get [] (by omega), wsucc (by omega)]
      have hkl := hs.each _ (getD_in [] (show i < ks.length by omega))
      rw [all_loop_eq (body := scheme_Valid_b2 k ks i (p.getD i noPart) (ks.getD i [])) (k := k) (n := (ks.getD i []).length) (fun j => !((decide ((ks.getD i []).getD j 0 < 0) || decide ((ks.getD i []).getD j 0 ≥ (p.getD i noPart).Options)) || (decide ((j : Int) > 0) && decide ((ks.getD i []).getD (j - 1) 0 ≥ (ks.getD i []).getD j 0)))) false (by omega) (fun again' j hj => by
        simp only [scheme_Valid_b2]
        rw [dec_in hj, cond_true, idx_get 0 hj, blet_mk, wsucc (by omega)]
        rcases Nat.eq_zero_or_pos j with rfl | hj0
        · have e0 : decide (((0 : Nat) : Int) > 0) = false := rfl
          rw [e0]
          simp only [cond_false, Option.bind_some, Bool.false_and, Bool.or_false, some_bif]
          cases (decide ((ks.getD i []).getD 0 0 < 0) || decide ((ks.getD i []).getD 0 0 ≥ (p.getD i noPart).Options)) <;> rfl
        · have e0 : decide ((j : Int) > 0) = true := decide_eq_true (by omega)
          rw [e0, idx_get [] (by omega), w64 (x := (j : Int) - 1) (by omega) (by omega), show (j : Int) - 1 = ((j - 1 : Nat) : Int) by omega, idx_get 0 (by omega)]
          simp only [cond_true, Option.bind_some, Bool.true_and, some_bif]
          cases (decide ((ks.getD i []).getD j 0 < 0) || decide ((ks.getD i []).getD j 0 ≥ (p.getD i noPart).Options)) <;> cases decide ((ks.getD i []).getD (j - 1) 0 ≥ (ks.getD i []).getD j 0) <;> rfl) (fun again' => by
        simp only [scheme_Valid_b2]
        rw [dec_end, cond_false])]
      change Option.bind (some (bif keysB (p.getD i noPart) (ks.getD i []) then Sum.inl () else Sum.inr false)) _ = _
      cases keysB (p.getD i noPart) (ks.getD i []) <;> rfl) (fun again => by
      simp only [scheme_Valid_b1]
      rw [dec_end, cond_false])]
    simp only [Option.bind_some]
    cases allN (fun i => keysB (p.getD i noPart) (ks.getD i [])) p.length <;> cases allN (fun i => knownB (ws.getD i 0)) p.length <;> rfl
  · have h0' : (paperB c v p && decide (ks.length = p.length) && decide (ws.length = p.length)) = false := by simpa using h0
    rw [h0']
    have : ((!paperB c v p || !decide (ks.length = p.length)) || !decide (ws.length = p.length)) = true := by
      revert h0'
      cases paperB c v p <;> cases decide (ks.length = p.length) <;> cases decide (ws.length = p.length) <;> simp
    rw [this]; rfl
theorem rvalid_dec {k : Nat} {c v : Int} {p : List SPart} {ks : List (List Int)} {ws : List Int} (hp : Loose p) (hs : LooseS ks ws) (hk : 20 < k) : ref23_Valid k c v p ks ws = some (schemeB c v p ks ws) := by
  have hpl := hp.1
  have hwl := hs.m
  unfold ref23_Valid schemeB
  rw [rpaper_dec hp hk]
  simp only [Option.bind_some, blet_mk, bne_nat]
  by_cases h0 : (paperB c v p && decide (ks.length = p.length) && decide (ws.length = p.length)) = true
  · rw [h0]
    simp only [Bool.and_eq_true, decide_eq_true_eq] at h0
    obtain ⟨⟨h1, h2⟩, h3⟩ := h0
    rw [h1, decide_eq_true h2, decide_eq_true h3]
    simp only [Bool.not_true, Bool.or_self, cond_false]
    rw [Bool.true_and, ← allN_and, all_loop_eq (body := ref23_Valid_b1 k p ks ws) (k := k) (n := p.length) (fun i => keysB (p.getD i noPart) (ks.getD i []) && knownB (ws.getD i 0)) false (by omega) (fun again i hi => by
      simp only [ref23_Valid_b1]
      rw [dec_in hi, cond_true, idx_get 0 (by omega), blet_mk, wsucc (by omega)]
      have ek : (decide (ws.getD i 0 < 0) || decide (ws.getD i 0 > 2)) = !knownB (ws.getD i 0) := by
        generalize ws.getD i 0 = w
        unfold knownB
        rw [Bool.eq_iff_iff]
        simp
      rw [ek]
      have hkl := hs.each _ (getD_in [] (show i < ks.length by omega))
      rw [all_loop_eq (body := ref23_Valid_b2 k p ks i) (k := k) (n := (ks.getD i []).length) (fun j => !((decide ((ks.getD i []).getD j 0 < 0) || decide ((ks.getD i []).getD j 0 ≥ (p.getD i noPart).Options)) || (decide ((j : Int) > 0) && decide ((ks.getD i []).getD (j - 1) 0 ≥ (ks.getD i []).getD j 0)))) false (by omega) (fun again' j hj => by
        simp only [ref23_Valid_b2]
        rw [idx_get [] (by omega), dec_in hj, cond_true, idx_get 0 hj, wsucc (by omega), idx_get noPart hi]
        rcases Nat.eq_zero_or_pos j with rfl | hj0
        · have e0 : decide (((0 : Nat) : Int) > 0) = false := rfl
          rw [e0]
          simp only [cond_false, Option.bind_some, Bool.false_and, Bool.or_false, some_bif]
          cases decide ((ks.getD i []).getD 0 0 < 0) <;> cases decide ((ks.getD i []).getD 0 0 ≥ (p.getD i noPart).Options) <;> rfl
        · have e0 : decide ((j : Int) > 0) = true := decide_eq_true (by omega)
          rw [e0, w64 (x := (j : Int) - 1) (by omega) (by omega), show (j : Int) - 1 = ((j - 1 : Nat) : Int) by omega, idx_get 0 (by omega)]
          simp only [cond_true, Option.bind_some, Bool.true_and, some_bif]
          cases decide ((ks.getD i []).getD j 0 < 0) <;> cases decide ((ks.getD i []).getD j 0 ≥ (p.getD i noPart).Options) <;> cases decide ((ks.getD i []).getD (j - 1) 0 ≥ (ks.getD i []).getD j 0) <;> rfl) (fun again' => by
        simp only [ref23_Valid_b2]
        rw [idx_get [] (by omega), dec_end, cond_false])]
      change (bif !knownB (ws.getD i 0) then _ else Option.bind (some (bif keysB (p.getD i noPart) (ks.getD i []) then Sum.inl () else Sum.inr false)) _) = _
      cases keysB (p.getD i noPart) (ks.getD i []) <;> cases knownB (ws.getD i 0) <;> rfl) (fun again => by
      simp only [ref23_Valid_b1]
      rw [dec_end, cond_false])]
    simp only [Option.bind_some]
    cases allN (fun i => keysB (p.getD i noPart) (ks.getD i []) && knownB (ws.getD i 0)) p.length <;> rfl
  · have h0' : (paperB c v p && decide (ks.length = p.length) && decide (ws.length = p.length)) = false := by simpa using h0
    rw [h0']
    have : ((!paperB c v p || !decide (ks.length = p.length)) || !decide (ws.length = p.length)) = true := by
      revert h0'
      cases paperB c v p <;> cases decide (ks.length = p.length) <;> cases decide (ws.length = p.length) <;> simp
    rw [this]; rfl
/-- What a valid scheme is known to be. -/
theorem schemeB_true {c v : Int} {p : List SPart} {ks : List (List Int)} {ws : List Int} (h : schemeB c v p ks ws = true) : p.length = p.length ∧ ks.length = p.length ∧ ws.length = p.length ∧ (∀ i, i < p.length → partB (p.getD i noPart) = true) ∧ ∀ i, i < p.length → knownB (ws.getD i 0) = true := by
  unfold schemeB paperB partsB at h
  simp only [Bool.and_eq_true, decide_eq_true_eq] at h
  obtain ⟨⟨⟨⟨⟨⟨h1, h2⟩, h3⟩, h4⟩, h5⟩, h6⟩, h7⟩ := h
  exact ⟨rfl, h4, h5, allN_true.1 h2, allN_true.1 h7⟩
end Go.VM
namespace Go.VM
set_option linter.unusedVariables false
set_option linter.unusedSimpArgs false

theorem awake_ok : law23_awake 1000 = some true := by decide +kernel
theorem there_eq {k : Nat} {c v : Int} {p : List SPart} {i : Int} : scheme_there k c v p i = some (decide (0 ≤ i ∧ i < p.length)) := by
  unfold scheme_there
  rw [blet_mk]
  congr 1
  rw [Bool.eq_iff_iff]
  simp
theorem known_eq {k : Nat} {w : Int} : scheme_known k w = some (knownB w) := by
  unfold scheme_known knownB
  simp only [beq_int, some_bif, Option.bind_some]
  congr 1
  by_cases a0 : w = 0 <;> by_cases a1 : w = 1 <;> by_cases a2 : w = 2 <;> simp [a0, a1, a2] <;> omega
theorem clone_eq {k : Nat} {l : List Int} (h : l.length ≤ 1000) : slices_Clone_int k l = some l := by
  unfold slices_Clone_int
  rw [gcap_some (by omega)]
theorem ints_same {k : Nat} {l : List Int} (hl : l.length ≤ 1000) (hk : l.length < k) : ref06_Ints k l l = some true := by
  unfold ref06_Ints
  rw [all_loop_eq (body := ref06_Ints_b1 k l l) (k := k) (n := l.length) (fun _ => true) false hk (fun again i hi => by
    simp only [ref06_Ints_b1]
    rw [dec_in hi, cond_true, idx_get 0 hi, idx_get 0 hi, wsucc (by omega), bne_self_eq_false]
    rfl) (fun again => by
    simp only [ref06_Ints_b1]
    rw [dec_end, cond_false]), allN_const, bne_self_eq_false]
  rfl
theorem withdraw_dec {k : Nat} {c v : Int} {p : List SPart} {ks : List (List Int)} {ws : List Int} {i w : Int} (hp : Loose p) (hs : LooseS ks ws) (hk : 20 < k) : ∃ r, scheme_Withdraw k c v p ks ws i w = some r ∧ ref23_Withdraw k c v p ks ws i w = some r ∧ LooseS r.1 r.2.1 := by
  unfold scheme_Withdraw ref23_Withdraw
  have hpl := hp.1
  have no : LooseS [] [] := ⟨by simp, by simp, by simp⟩
  rw [valid_dec hp hs hk, rvalid_dec hp hs hk, there_eq, known_eq]
  simp only [Option.bind_some, blet_mk]
  cases hS : schemeB c v p ks ws
  · exact ⟨_, rfl, rfl, no⟩
  · have e : ((decide (i < 0)) || (decide (i ≥ (p.length : Int)))) = !decide (0 ≤ i ∧ i < p.length) := by
      rw [Bool.eq_iff_iff]; simp
    have e2 : ((decide (w < 0)) || (decide (w > 2))) = !knownB w := by
      unfold knownB
      rw [Bool.eq_iff_iff]; simp
    rw [e, e2]
    simp only [Bool.not_true, cond_false]
    by_cases hi : 0 ≤ i ∧ i < p.length
    · rw [decide_eq_true hi]
      simp only [Bool.not_true, cond_false]
      cases hw : knownB w
      · exact ⟨_, rfl, rfl, no⟩
      · obtain ⟨n, rfl⟩ : ∃ n : Nat, i = n := ⟨i.toNat, by omega⟩
        have hn : n < p.length := by omega
        obtain ⟨_, h2, h3, h4, h5⟩ := schemeB_true hS
        have e3 : gloop (scheme_Withdraw_b1 k ks) k (0, ([] : List (List Int))) = some ks := by
          refine eq_of_ok (ok_range ks (fun s => s.1) (fun pre s => s.2 = pre) (by omega) rfl rfl (by omega) ?_ ?_)
          · intro again s pre e post hl hi hlt hw hinv hag
            obtain ⟨i, xs⟩ := s
            simp only at hi hlt hw hinv
            subst hinv
            simp only [scheme_Withdraw_b1, uc_mk]
            have hel := hs.each e (by rw [hl]; simp)
            have hxl : xs.length < ks.length := by omega
            rw [dec_lt hlt, cond_true, gidx_mid hl hi, clone_eq (by omega), Option.bind_some]
            refine ok_cap (by simp; omega) ?_
            rw [hw]; exact hag _ rfl rfl
          · intro again s hi hinv
            obtain ⟨i, xs⟩ := s
            simp only at hi hinv
            simp only [scheme_Withdraw_b1, uc_mk]
            rw [dec_nlt (by omega), cond_false]
            exact Ok.ret hinv
        rw [slices_Clone_int_2_eq, clone_eq (by omega), e3]
        simp only [Option.bind_some, Bool.not_true, cond_false]
        rw [idx_get 0 (by omega), gcap_some (by omega)]
        exact ⟨_, rfl, rfl, hs.n, hs.each, by rw [List.length_set]; exact hs.m⟩
    · rw [decide_eq_false hi]
      exact ⟨_, rfl, rfl, no⟩
theorem same_self {k : Nat} {ks : List (List Int)} {ws : List Int} (hs : LooseS ks ws) (hk : 20 < k) : law23_same k ks ws ks ws = some true := by
  unfold law23_same
  have h1 := hs.n
  have h2 := hs.m
  rw [all_loop_eq (body := law23_same_b1 k ks ks) (k := k) (n := ks.length) (fun _ => true) false (by omega) (fun again i hi => by
    have hkl := hs.each _ (getD_in [] hi)
    simp only [law23_same_b1]
    rw [dec_in hi, cond_true, idx_get [] hi, idx_get [] hi, wsucc (by omega), ints_same (by omega) (by omega)]
    rfl) (fun again => by
    simp only [law23_same_b1]
    rw [dec_end, cond_false]), allN_const, bne_self_eq_false, ints_same (by omega) (by omega)]
  rfl
end Go.VM
namespace Go.VM
set_option linter.unusedVariables false
set_option linter.unusedSimpArgs false
theorem pure_SchemeWithdraws (t : List Int) (ht : ∀ x ∈ t, fitsI .i64 x) (hl : t.length * 8 ≤ 140737488351232) (part : Int) (hpart : fitsI .i64 part) (kind : Int) (hkind : fitsI .i64 kind) : ∃ k, law23_SchemeWithdraws k t part kind = some true := by
  refine ⟨1000, Ok.eq ?_⟩
  unfold law23_SchemeWithdraws
  refine Ok.bind (New_ok t) fun x hx => ?_
  refine Loose_then hx (by omega) (by omega) fun c v p j hp hj => ?_
  refine LScheme_then hx hj (by omega) hp fun ks ws j hs hj => ?_
  rw [Cut_eq part (by omega) (by omega), Cut_eq kind (by omega) (by omega)]
  simp only [Option.bind_some]
  obtain ⟨⟨r1, r2, r3⟩, e1, e2, e3⟩ := withdraw_dec (c := c) (v := v) (i := part) (w := kind) hp hs (show 20 < 1000 by omega)
  obtain ⟨⟨q1, q2, q3⟩, d1, d2, d3⟩ := withdraw_dec (c := c) (v := v) (i := part % 7) (w := IntKind.wrap .i64 (kind % 5 - 1)) hp hs (show 20 < 1000 by omega)
  simp only at e3 d3
  rw [e1, e2, d1, d2]
  simp only [Option.bind_some, uc_mk]
  rw [same_self e3 (by omega), same_self d3 (by omega), awake_ok]
  simp only [Option.bind_some, blet_mk, beq_self_eq_true, Bool.and_self, cond_true]
  exact Ok.ret rfl
end Go.VM
