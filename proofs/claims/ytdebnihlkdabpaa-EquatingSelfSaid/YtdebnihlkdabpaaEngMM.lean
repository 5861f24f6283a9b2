/- Regions in which the machine may choose the order. -/
import Derived.Test.YtdebnihlkdabpaaEngIM
import Derived.OrdersHeld
import Derived.IntWalk
set_option linter.unusedVariables false
set_option linter.unusedSimpArgs false
namespace Go.VM

/-- What doesn't lean on memory. -/
def scal : V → V
  | .d (.int k n) => .d (.int k n)
  | .d (.bool b) => .d (.bool b)
  | .d (.str s) => .d (.str s)
  | _ => .undef
theorem scal_VR {φ φ' : List Plc} {I I' : Nat → Prop} {w w' : World} {v : V} {c : Value} (h : VR φ I w v c) : VR φ' I' w' (scal v) c := by
  unfold scal
  split
  · rw [h.int_inv]; exact .d _ _ (.int _ _)
  · rw [h.bool_inv]; exact .d _ _ (.bool _)
  · rw [h.str_inv]; exact .d _ _ (.str _)
  · exact .undef _

def isAlloc (q : Oper) : Bool :=
  match q.op, q.guard, q.dst with
  | .alloc _, none, some _ => q.after.isEmpty
  | _, _, _ => false
theorem isAlloc_spec {q : Oper} (h : isAlloc q = true) : ∃ e d, q.op = .alloc e ∧ q.guard = none ∧ q.dst = some d ∧ q.after = #[] := by
  unfold isAlloc at h
  split at h
  · rename_i e d h1 h2 h3
    exact ⟨e, d, h1, h2, h3, by simpa using h⟩
  · cases h

/-- An alloc that the machine has carried out, and this view has not. -/
def Early (P : Program) (all : Array Oper) (w0 : World) (φ : List Plc) (I : Nat → Prop) (w : World) (a : Act) (j g : Nat) : Prop :=
  ∃ q e z sz bytes d, all[j]? = some q ∧ isAlloc q = true ∧ q.op = .alloc e ∧ q.dst = some d ∧ TyI P e z sz bytes ∧ a.tmps.getD d undef = .pointer (some ⟨g, 0, none⟩) ∧ w.heap[g]? = some (.cells z.cells e (0, 0)) ∧ ¬ I g ∧
    (∀ (b : Nat) (l : Plc), φ[b]? = some l → ¬ l.owns g) ∧ w0.heap.size ≤ g

structure Mid (P : Program) (all : Array Oper) (st : List (Nat × Nat)) (H0 : List Blk) (φ0 : List Plc) (I0 : Nat → Prop) (w0 : World) (lv : List Nat) (T U : Tm) (H : List Blk) (φ : List Plc) (I : Nat → Prop) (w : World) (a : Act) (A : List (Nat × Nat)) (listed : Array Bool) : Prop where
  rel0 : Rel H0 φ0 I0 w0
  rel : Rel H φ I w
  tr : TR φ I w T a
  tu : TR φ0 I0 w0 U a
  le : LE φ0 φ
  tm : ∀ m, TurnM m φ0 I0 w0 φ I w
  stk : ∀ p ∈ st, listed.getD p.2 false = false → ∀ (l : Plc), φ0[p.1]? = some l → φ[p.1]? = some l ∧ ∀ g, l.owns g → w.heap[g]? = w0.heap[g]?
  size : listed.size = all.size
  lst : ∀ j, j < all.size → (listed.getD j true = true ↔ (j ∈ lv ∨ j ∈ A.map (·.1)))
  early : ∀ p ∈ A, Early P all w0 φ I w a p.1 p.2
  out : ∀ p ∈ A, p.1 ∉ lv
  one : (A.map (·.1)).Nodup
  dist : (A.map (·.2)).Nodup

/-- What stays as it was, while nobody has written: a block, and the first operation that may write it. -/
def SL (st : List (Nat × Nat)) (φ0 : List Plc) (I0 : Nat → Prop) (w0 : World) (listed : Array Bool) (w' : World) : Prop := (∀ g, I0 g → w'.heap[g]? = w0.heap[g]?) ∧ ∀ p ∈ st, listed.getD p.2 false = false → ∀ (l : Plc) (g : Nat), φ0[p.1]? = some l → l.owns g → w'.heap[g]? = w0.heap[g]?
def SB (bs : List Nat) (φ0 : List Plc) (I0 : Nat → Prop) (w0 w' : World) : Prop := (∀ g, I0 g → w'.heap[g]? = w0.heap[g]?) ∧ ∀ b ∈ bs, ∀ (l : Plc) (g : Nat), φ0[b]? = some l → l.owns g → w'.heap[g]? = w0.heap[g]?

/-- Whatever order is picked, and behind each operation S holds of what has come up and of the world. -/
def wpL (P : Program) (ops : Array Oper) (Q : Exit → Act → World → Prop) (S : Array Bool → World → Prop) : Nat → Array Bool → Act → World → Prop
  | 0, listed, a, w => Region.ready .any ops listed = [] ∧ Q .normal a w
  | n + 1, listed, a, w => (Region.ready .any ops listed = [] → Q .normal a w) ∧ ∀ i ∈ Region.ready .any ops listed, wpOp P ops Q i (fun a' w' => S (listed.setIfInBounds i true) w' ∧ wpL P ops Q S n (listed.setIfInBounds i true) a' w') a w
theorem wpL_any {P : Program} {ops : Array Oper} {Q : Exit → Act → World → Prop} {S : Array Bool → World → Prop} : ∀ (n : Nat) (listed : Array Bool) (a : Act) (w : World), wpL P ops Q S n listed a w → wpAny P .any ops Q n listed a w
  | 0, _, _, _, h => h
  | n + 1, _, _, _, h => ⟨h.1, fun i hi => wpOp_mono (fun a' w' h' => wpL_any n _ a' w' h'.2) (h.2 i hi)⟩
theorem wpL_done {P : Program} {ops : Array Oper} {Q : Exit → Act → World → Prop} {S : Array Bool → World → Prop} {listed : Array Bool} {a : Act} {w : World} (hr : Region.ready .any ops listed = []) (h : Q .normal a w) : ∀ n, wpL P ops Q S n listed a w
  | 0 => ⟨hr, h⟩
  | _ + 1 => ⟨fun _ => h, by rw [hr]; simp⟩
theorem wpL_first {P : Program} {ops : Array Oper} {Q : Exit → Act → World → Prop} {S : Array Bool → World → Prop} {T : World → Prop} {G : Array Bool → Prop} {i : Nat} {oi : Oper} {v : Value} (hi : ops[i]? = some oi) (hsel : ∀ (j : Nat) (o : Oper) cs b, ops[j]? = some o → o.op ≠ .select cs b)
    (hQ : ∀ c a w, Q (.panic c) (a.put oi.dst v) w → Q (.panic c) a w) (hS : ∀ listed w, S (listed.setIfInBounds i true) w ↔ S listed w) (hT : ∀ listed w, G listed → S listed w → T w)
    (hG : ∀ (listed : Array Bool) (j : Nat), G listed → i ∈ Region.ready .any ops listed → j ∈ Region.ready .any ops listed → j ≠ i → G (listed.setIfInBounds j true)) :
    ∀ (n : Nat) (listed : Array Bool) (a : Act) (w : World), (∀ j oj, ops[j]? = some oj → j ≠ i → listed.getD j true = false → (∀ e ∈ oj.after, Region.binds .any e = true → e.on ≠ i) → oi.apart ops oj = true) →
      i ∈ Region.ready .any ops listed → G listed → YieldsIf P ops T oi v a → S listed w → wpL P ops Q S n (listed.setIfInBounds i true) (a.put oi.dst v) w → wpL P ops Q S (n + 1) listed a w := by
  intro n
  induction n with
  | zero =>
    intro listed a w _ hr hg hy hs H
    refine ⟨fun h => (by rw [h] at hr; cases hr), fun j hj => ?_⟩
    by_cases hji : j = i
    · subst hji; exact hy.wpOp hi (hT _ _ hg hs) ⟨(hS _ _).2 hs, H⟩
    · have := ready_mono hj hji
      rw [H.1] at this
      cases this
  | succ n ih =>
    intro listed a w hfree hr hg hy hs H
    refine ⟨fun h => (by rw [h] at hr; cases hr), fun j hj => ?_⟩
    by_cases hji : j = i
    · subst hji; exact hy.wpOp hi (hT _ _ hg hs) ⟨(hS _ _).2 hs, H⟩
    · have h1 := H.2 j (ready_mono hj hji)
      obtain ⟨hjun, oj, hoj, hall⟩ := mem_ready.1 hj
      have hnot : ∀ e ∈ oj.after, Region.binds .any e = true → e.on ≠ i := fun e he hb heq => by
        have h1 := hall e he hb
        have h0 := (mem_ready.1 hr).1
        rw [heq] at h1
        rw [Array.getD_eq_getD_getElem?] at h0 h1
        cases hx : listed[i]? with
        | none => rw [hx] at h1; cases h1
        | some b => rw [hx] at h0 h1; simp at h0 h1; rw [h0] at h1; cases h1
      have h2 := wpOp_putIf hoj (hfree j oj hoj hji hjun hnot) (fun cs b => hsel i oi cs b hi) (fun cs b => hsel j oj cs b hoj) hQ hy h1
      refine wpOp_mono (fun a' w' h3 => ?_) h2
      have h4 : S (listed.setIfInBounds j true) w' := by
        have := h3.2.1
        rw [← Array.setIfInBounds_comm _ _ hji] at this
        exact (hS _ _).1 this
      refine ⟨h4, ih (listed.setIfInBounds j true) a' w' (fun k ok hk hki hun hno => hfree k ok hk hki (by
        by_cases hjk : j = k
        · subst hjk; exact hjun
        · rw [getD_set_ne true hjk] at hun; exact hun) hno) (ready_mono hr (Ne.symm hji)) (hG listed j hg hr hj hji) h3.1 h4 ?_⟩
      rw [Array.setIfInBounds_comm _ _ hji]
      exact h3.2.2

theorem Mid.ss {P : Program} {all : Array Oper} {st : List (Nat × Nat)} {H0 : List Blk} {φ0 : List Plc} {I0 : Nat → Prop} {w0 : World} {lv : List Nat} {T U : Tm} {H : List Blk} {φ : List Plc} {I : Nat → Prop} {w : World} {a : Act} {A : List (Nat × Nat)} {listed : Array Bool}
    (h : Mid P all st H0 φ0 I0 w0 lv T U H φ I w a A listed) : SL st φ0 I0 w0 listed w := ⟨(h.tm 0).same, fun p hp hr l g hl hg => (h.stk p hp hr l hl).2 g hg⟩

def unl (listed : Array Bool) : Nat := listed.toList.countP fun b => !b
theorem unl_set {listed : Array Bool} {i : Nat} (h : listed.getD i true = false) : unl (listed.setIfInBounds i true) + 1 = unl listed := by
  have hlt : i < listed.size := by
    rcases Nat.lt_or_ge i listed.size with h' | h'
    · exact h'
    · rw [Array.getD_eq_getD_getElem?, Array.getElem?_eq_none h'] at h; cases h
  rw [Array.getD_eq_getD_getElem?, Array.getElem?_eq_getElem hlt] at h
  simp only [Option.getD_some] at h
  unfold unl
  have hset := List.countP_set (p := fun b => !b) (l := listed.toList) (i := i) (a := true) (by simpa using hlt)
  have hpos : 0 < listed.toList.countP fun b => !b := List.countP_pos_iff.2 ⟨false, by rw [← h]; exact Array.mem_toList_iff.2 (Array.getElem_mem hlt), rfl⟩
  have : listed.toList[i]'(by simpa using hlt) = false := by simpa using h
  rw [this] at hset
  rw [Array.toList_setIfInBounds, hset]
  simp only [Bool.not_false, Bool.not_true, if_true, Bool.false_eq_true, if_false]
  omega
theorem unl_pos {listed : Array Bool} {i : Nat} (h : listed.getD i true = false) : 0 < unl listed := by have := unl_set h; omega

section
variable {R : Type} {E : R → V × List Blk} {o : Option R} {P : Program} {f : FuncId} {N m : Nat} {T U : Tm} {H H0 : List Blk} {k : List VI} {all : Array Oper} {st : List (Nat × Nat)} {lv : List Nat}

def Fin_ (P : Program) (f : FuncId) (m : Nat) (k : List VI) (r : V) (B : List Blk) (b : Frame) (cs : List Frame) (φ : List Plc) (I : Nat → Prop) (w : World) (a' : Act) (w' : World) : Prop :=
  ∃ φf If wf c fr, Steps P (lone (b.at a' (k.map VI.item)) cs w') (lone fr cs wf) ∧ fr.fn = f ∧ fr.leaving P wf (.returned c) ∧ TurnM m φ I w φf If wf ∧ Rel B φf If wf ∧ VR φf If wf r c

def AnyO (P : Program) (f : FuncId) (N m : Nat) (all : Array Oper) (st : List (Nat × Nat)) (H0 : List Blk) (lv : List Nat) (k : List VI) (T U : Tm) (H : List Blk) (E : R → V × List Blk) (o : Option R) : Prop :=
  ∀ r, o = some r → ∀ (φ0 : List Plc) (I0 : Nat → Prop) (w0 : World) (φ : List Plc) (I : Nat → Prop) (w : World) (a : Act) (b : Frame) (cs : List Frame) (A : List (Nat × Nat)) (listed : Array Bool) (fuel : Nat) (Q : Exit → Act → World → Prop),
    Mid P all st H0 φ0 I0 w0 lv T U H φ I w a A listed → a.defers = [] → a.tmps.size = N → (∀ x ∈ k, x.ok) → b.fn = f → b.kind = .normal → unl listed ≤ fuel → (∀ c a w, ¬ Q (.panic c) a w) →
    (∀ a' w', Fin_ P f m k (E r).1 (E r).2 b cs φ0 I0 w0 a' w' → Q .normal a' w') → wpL P all Q (SL st φ0 I0 w0) fuel listed a w

/-- The begin of such a region. -/
theorem oDraw {id : Nat} {all : Array Oper} (st : List (Nat × Nat)) (hm : P.follows .mixedOrders = true) (h : AnyO P f N m all st H [] k T T H E o) : GoesO P f N m (.code (.region id all true) :: k) T H E o := fun r hr φ I w a b cs hR hT hd hsz hk hf hkd => by
  obtain ⟨hR1, ht1⟩ := hR.drew
  let Q : Exit → Act → World → Prop := fun e a' w' => e = .normal ∧ Fin_ P f m k (E r).1 (E r).2 b cs φ I w.drew a' w'
  have hmid : Mid P all st H φ I w.drew [] T T H φ I w.drew a [] (Array.replicate all.size false) :=
    ⟨hR1, hR1, hT.turn ht1, hT.turn ht1, LE.refl φ, fun m => (Turn.refl φ I w.drew).toM m, fun _ _ _ l hl => ⟨hl, fun _ _ => rfl⟩, by simp, fun j hj => by simp [hj], by simp, by simp, by simp, by simp⟩
  have hwp : (Code.region id all true).wp P Q a w := wp_region_any hm (wpL_any _ _ _ _ (h r hr φ I w.drew φ I w.drew a b cs [] _ _ Q hmid hd hsz (fun x hx => hk x (by simp [hx])) hf hkd (by
    unfold unl
    have := List.countP_le_length (p := fun b => !b) (l := (Array.replicate all.size false).toList)
    simpa using this) (fun c a w h => by cases h.1) (fun a' w' hfin => ⟨rfl, hfin⟩)))
  obtain ⟨e, a', w', ⟨rfl, φf, If, wf, c, fr, hs, h1, h2, h3, h4⟩, harr⟩ := hwp b (k.map VI.item) cs
  exact ⟨φf, If, wf, c, fr, Steps.trans harr hs, h1, h2, (ht1.toM m).trans h3, h4⟩

/-- All has been carried out. -/
theorem aDone (hall : (List.range all.size).all (fun j => lv.contains j) = true := by kernel_rfl) (h : GoesO P f N m k T H E o) : AnyO P f N m all st H0 lv k T U H E o := fun r hr φ0 I0 w0 φ I w a b cs A listed fuel Q hM hd hsz hk hf hkd _ _ hQ => by
  have hin : ∀ j, j < all.size → j ∈ lv := fun j hj => by have := List.all_eq_true.1 hall j (List.mem_range.2 hj); simpa using this
  have hr0 : Region.ready .any all listed = [] := by
    rw [List.eq_nil_iff_forall_not_mem]
    intro j hj
    obtain ⟨h1, q, hq, _⟩ := mem_ready.1 hj
    have hlt : j < all.size := (Array.getElem?_eq_some_iff.1 hq).1
    have := (hM.lst j hlt).2 (.inl (hin j hlt))
    rw [this] at h1
    cases h1
  refine wpL_done hr0 (hQ a w ?_) fuel
  obtain ⟨φf, If, wf, c, fr, hs, h1, h2, h3, h4⟩ := h r hr φ I w a b cs hM.rel hM.tr hd hsz hk hf hkd
  exact ⟨φf, If, wf, c, fr, hs, h1, h2, (hM.tm m).trans h3, h4⟩

/-- Nobody who has not come up, and doesn't wait for i, has to do with its temporaries. -/
def freeV (all : Array Oper) (lv : List Nat) (i : Nat) (q : Oper) : Bool :=
  (List.range all.size).all fun j => Nat.beq j i || lv.contains j || match all[j]? with
    | some p => p.after.any (fun e => Region.binds .any e && Nat.beq e.on i) || q.apart all p
    | none => true
def predsV (all : Array Oper) (lv : List Nat) (q : Oper) : Bool := q.after.all fun e => !Region.binds .any e || (lv.contains e.on && Nat.blt e.on all.size)

theorem Early.keep {w0 : World} {φ φ' : List Plc} {I I' : Nat → Prop} {w w' : World} {a a' : Act} {j g : Nat} (hR : ∀ g, I g → g < w.heap.size) (h : Early P all w0 φ I w a j g) (ht : ∀ m, TurnM m φ I w φ' I' w')
    (ha : ∀ q d, all[j]? = some q → q.dst = some d → a'.tmps.getD d undef = a.tmps.getD d undef) : Early P all w0 φ' I' w' a' j g := by
  obtain ⟨q, e, z, sz, bytes, d, h1, h2, h3, h4, h5, h6, h7, h8, h9, h10⟩ := h
  have hlt : g < w.heap.size := (Array.getElem?_eq_some_iff.1 h7).1
  refine ⟨q, e, z, sz, bytes, d, h1, h2, h3, h4, h5, by rw [ha q d h1 h4]; exact h6, by rw [(ht 0).frame g hlt h9]; exact h7, fun hi => ?_, fun b l hl hg => ?_, h10⟩
  · rcases (ht 0).immNew g hi with h | h | ⟨b, l, hl, hg⟩
    · exact h8 h
    · omega
    · exact h9 b l hl hg
  · rcases (ht 0).fresh b l g hl hg with h | ⟨b0, l0, hl0, hg0⟩
    · omega
    · exact h9 b0 l0 hl0 hg0

theorem put_get_ne {a : Act} {dst : Option Tmp} {c : Value} {d : Nat} (h : dst ≠ some d) : (a.put dst c).tmps.getD d undef = a.tmps.getD d undef := by
  cases dst with
  | none => rfl
  | some e =>
    have hne : e ≠ d := fun he => h (by rw [he])
    simp [Act.put, Array.getD_eq_getD_getElem?, Array.getElem?_setIfInBounds_ne hne]

theorem lst_set {A : List (Nat × Nat)} {listed : Array Bool} (hs : listed.size = all.size) (h : ∀ j, j < all.size → (listed.getD j true = true ↔ (j ∈ lv ∨ j ∈ A.map (·.1)))) (i : Nat) :
    ∀ j, j < all.size → ((listed.setIfInBounds i true).getD j true = true ↔ (j ∈ i :: lv ∨ j ∈ A.map (·.1))) := fun j hj => by
  by_cases he : i = j
  · subst he
    simp [Array.getD_eq_getD_getElem?, hs, hj]
  · rw [getD_set_ne true he, h j hj]
    simp only [List.mem_cons]
    have : ¬ j = i := fun e => he e.symm
    simp [this]

/-- The operation i writes none of the blocks that are kept; those that it reads are kept until behind it. -/
def takesV (all : Array Oper) (st : List (Nat × Nat)) (lv : List Nat) (i : Nat) (bs : List Nat) : Bool := st.all (fun p => !Nat.beq p.2 i) && bs.all fun b => st.any fun p => Nat.beq p.1 b && (Nat.ble all.size p.2 || (!lv.contains p.2 && match all[p.2]? with
  | some o => !isAlloc o && o.after.any fun e => Region.binds .any e && Nat.beq e.on i
  | none => false))
def Waits (all : Array Oper) (st : List (Nat × Nat)) (i : Nat) (bs : List Nat) (listed : Array Bool) : Prop := ∀ b ∈ bs, ∃ p ∈ st, p.1 = b ∧ listed.getD p.2 false = false ∧ (all.size ≤ p.2 ∨ ∃ o, all[p.2]? = some o ∧ ∃ e ∈ o.after, Region.binds .any e = true ∧ e.on = i)
theorem getD_other {listed : Array Bool} {i j : Nat} {d : Bool} (h : i ≠ j) : (listed.setIfInBounds i true).getD j d = listed.getD j d := getD_set_ne d h
theorem takes_iff {i : Nat} {bs : List Nat} (h : takesV all st lv i bs = true) (φ0 : List Plc) (I0 : Nat → Prop) (w0 : World) (listed : Array Bool) (w : World) : SL st φ0 I0 w0 (listed.setIfInBounds i true) w ↔ SL st φ0 I0 w0 listed w := by
  have hne : ∀ p ∈ st, i ≠ p.2 := fun p hp e => by
    have := List.all_eq_true.1 (Bool.and_eq_true_iff.1 h).1 p hp
    subst e
    simp at this
  unfold SL
  constructor <;> intro ⟨h1, h2⟩ <;> refine ⟨h1, fun p hp hr => h2 p hp ?_⟩
  · rw [getD_other (hne p hp)]; exact hr
  · rw [getD_other (hne p hp)] at hr; exact hr
theorem takes_waits {i : Nat} {bs : List Nat} {φ0 : List Plc} {I0 : Nat → Prop} {w0 : World} {φ : List Plc} {I : Nat → Prop} {w : World} {a : Act} {A : List (Nat × Nat)} {listed : Array Bool} (h : takesV all st lv i bs = true) (hM : Mid P all st H0 φ0 I0 w0 lv T U H φ I w a A listed) : Waits all st i bs listed := fun b hb => by
  obtain ⟨p, hp, hq⟩ := List.any_eq_true.1 (List.all_eq_true.1 (Bool.and_eq_true_iff.1 h).2 b hb)
  obtain ⟨h1, h2⟩ := Bool.and_eq_true_iff.1 hq
  refine ⟨p, hp, Nat.eq_of_beq_eq_true h1, ?_⟩
  rcases Bool.or_eq_true_iff.1 h2 with h3 | h3
  · have h4 := Nat.le_of_ble_eq_true h3
    exact ⟨by rw [Array.getD_eq_getD_getElem?, Array.getElem?_eq_none (by rw [hM.size]; exact h4)]; rfl, .inl h4⟩
  · obtain ⟨h4, h5⟩ := Bool.and_eq_true_iff.1 h3
    cases ho : all[p.2]? with
    | none => rw [ho] at h5; cases h5
    | some o =>
      rw [ho] at h5
      obtain ⟨h6, h7⟩ := Bool.and_eq_true_iff.1 h5
      obtain ⟨n, hn, h8⟩ := Array.any_eq_true.1 h7
      obtain ⟨h9, h10⟩ := Bool.and_eq_true_iff.1 h8
      have hlt : p.2 < all.size := (Array.getElem?_eq_some_iff.1 ho).1
      refine ⟨?_, .inr ⟨o, rfl, _, Array.getElem_mem hn, h9, Nat.eq_of_beq_eq_true h10⟩⟩
      have hnl : ¬ (listed.getD p.2 true = true) := fun hc => by
        rcases (hM.lst p.2 hlt).1 hc with h | h
        · have : lv.contains p.2 = true := by simpa using h
          rw [this] at h4; cases h4
        · obtain ⟨x, hx, hx2⟩ := List.mem_map.1 h
          obtain ⟨q', _, _, _, _, _, g1, g2, _⟩ := hM.early x hx
          rw [hx2, ho] at g1
          cases g1
          rw [g2] at h6; cases h6
      have hls : p.2 < listed.size := by rw [hM.size]; exact hlt
      rw [Array.getD_eq_getD_getElem?, Array.getElem?_eq_getElem hls] at hnl ⊢
      simpa using hnl
theorem Waits.step {i : Nat} {bs : List Nat} {listed : Array Bool} {j : Nat} (h : Waits all st i bs listed) (hi : i ∈ Region.ready .any all listed) (hj : j ∈ Region.ready .any all listed) (hji : j ≠ i) : Waits all st i bs (listed.setIfInBounds j true) := fun b hb => by
  obtain ⟨p, hp, h1, h2, h3⟩ := h b hb
  refine ⟨p, hp, h1, ?_, h3⟩
  by_cases he : j = p.2
  · exfalso
    obtain ⟨_, oj, hoj, hall⟩ := mem_ready.1 hj
    rcases h3 with h3 | ⟨o, ho, e, hem, hb1, hon⟩
    · have := (Array.getElem?_eq_some_iff.1 hoj).1; omega
    · rw [he, ho] at hoj
      cases hoj
      have h4 := hall e hem hb1
      rw [hon] at h4
      have h5 := (mem_ready.1 hi).1
      rw [Array.getD_eq_getD_getElem?] at h4 h5
      cases hx : listed[i]? with
      | none => rw [hx] at h4; cases h4
      | some b => rw [hx] at h4 h5; simp at h4 h5; rw [h4] at h5; cases h5
  · rw [getD_other he]; exact h2
theorem Waits.sb {i : Nat} {bs : List Nat} {listed : Array Bool} {φ0 : List Plc} {I0 : Nat → Prop} {w0 w : World} (h : Waits all st i bs listed) (hs : SL st φ0 I0 w0 listed w) : SB bs φ0 I0 w0 w := ⟨hs.1, fun b hb l g hl hg => by
  obtain ⟨p, hp, rfl, h2, _⟩ := h b hb
  exact hs.2 p hp h2 l g hl hg⟩

/-- An operation that only looks comes first. -/
theorem aTake_core {i : Nat} {q : Oper} {v u : V} {bs : List Nat} (hi : all[i]? = some q) (hun : lv.contains i = false) (hpre : predsV all lv q = true) (hfree : freeV all lv i q = true) (hsel : Region.noSelect all = true) (hN : inN N q.dst = true) (hst : takesV all st lv i bs = true)
    (hy : ∀ (φ0 : List Plc) (I0 : Nat → Prop) (w0 : World) (φ : List Plc) (I : Nat → Prop) (w : World) (a : Act), Rel H0 φ0 I0 w0 → TR φ0 I0 w0 U a → Rel H φ I w → TR φ I w T a → LE φ0 φ → (∀ g, I0 g → I g) → (∀ g, I0 g → w.heap[g]? = w0.heap[g]?) →
      ∃ c, YieldsIf P all (SB bs φ0 I0 w0) q c a ∧ VR φ I w v c ∧ VR φ0 I0 w0 u c)
    (h : AnyO P f N m all st H0 (i :: lv) k (tput T q.dst v) (tput U q.dst u) H E o) : AnyO P f N m all st H0 lv k T U H E o := fun r hr φ0 I0 w0 φ I w a b cs A listed fuel Q hM hd hsz hk hf hkd hfu hQp hQ => by
  have hilt : i < all.size := (Array.getElem?_eq_some_iff.1 hi).1
  have hilv : i ∉ lv := fun hm => by have : lv.contains i = true := by simpa using hm
                                     rw [this] at hun; cases hun
  -- an early alloc's temporary is another one
  have hap : ∀ p ∈ A, ∀ (q' : Oper), all[p.1]? = some q' → isAlloc q' = true → p.1 ≠ i → q.apart all q' = true := fun p hp q' hq' ha hne => by
    have hlt : p.1 < all.size := (Array.getElem?_eq_some_iff.1 hq').1
    have h1 := List.all_eq_true.1 hfree p.1 (List.mem_range.2 hlt)
    have h2 : Nat.beq p.1 i = false := by
      cases hb : Nat.beq p.1 i with
      | true => exact absurd (Nat.eq_of_beq_eq_true hb) hne
      | false => rfl
    have h3 : lv.contains p.1 = false := by
      cases hc : lv.contains p.1 with
      | true => exact absurd (by simpa using hc) (hM.out p hp)
      | false => rfl
    obtain ⟨e, d, _, _, _, haf⟩ := isAlloc_spec ha
    simp only [h2, h3, hq', haf, Bool.false_or] at h1
    simpa using h1
  by_cases hiA : i ∈ A.map (·.1)
  · -- it is itself an early alloc: it writes its own temporary, so it isn't apart of itself; ruled out
    obtain ⟨p, hp, hpi⟩ := List.mem_map.1 hiA
    obtain ⟨q', e, z, sz, bytes, d, h1, h2, h3, h4, hty, _⟩ := hM.early p hp
    rw [hpi, hi] at h1
    cases h1
    obtain ⟨c, hyc, _, _⟩ := hy φ0 I0 w0 φ I w a hM.rel0 hM.tu hM.rel hM.tr hM.le (hM.tm 0).sub (hM.tm 0).same
    rcases hyc with ⟨hw, hrun⟩ | ⟨hw, _⟩
    · have h5 := hrun w ((takes_waits hst hM).sb hM.ss)
      obtain ⟨z', hz'⟩ : ∃ z' : Value, (zeroValue e).run P w = .ok z' w := ⟨_, run_zeroValue hty w⟩
      simp only [execOp, h3, Instr.alloc, Sem.run_bind, hz', Result.andThen_ok, newVar, newRow, run_newObj, Sem.run_pure] at h5
      have h6 := congrArg (fun r : Result Next => match r with | .ok _ w => w.heap.size | .halt _ w => w.heap.size) h5
      simp at h6
    · obtain ⟨_, _, _, hg, _⟩ := isAlloc_spec h2
      simp [Region.wanted, hg] at hw
  · have hunl : listed.getD i true = false := by
      cases hb : listed.getD i true with
      | true => rcases (hM.lst i hilt).1 hb with h | h
                · exact absurd h hilv
                · exact absurd h hiA
      | false => rfl
    obtain ⟨c, hyc, hvc, huc⟩ := hy φ0 I0 w0 φ I w a hM.rel0 hM.tu hM.rel hM.tr hM.le (hM.tm 0).sub (hM.tm 0).same
    obtain ⟨fuel, rfl⟩ : ∃ n, fuel = n + 1 := ⟨fuel - 1, by have := unl_pos hunl; omega⟩
    have hready : i ∈ Region.ready .any all listed := mem_ready.2 ⟨hunl, q, hi, fun e he hb => by
      have h1 := Array.all_eq_true_iff_forall_mem.1 hpre e he
      rw [hb] at h1
      have h1' := Bool.and_eq_true_iff.1 (by simpa only [Bool.not_true, Bool.false_or] using h1)
      have h2 : e.on ∈ lv := by simpa using h1'.1
      have hlt : e.on < all.size := Nat.le_of_ble_eq_true h1'.2
      have h3 := (hM.lst e.on hlt).2 (.inl h2)
      rw [Array.getD_eq_getD_getElem?, Array.getElem?_eq_getElem (by rw [hM.size]; exact hlt)] at h3 ⊢
      simpa using h3⟩
    refine wpL_first (T := SB bs φ0 I0 w0) (G := Waits all st i bs) hi (Region.noSelect_spec hsel) (fun c a w h => absurd h (hQp c _ w)) (takes_iff hst φ0 I0 w0) (fun _ _ h1 h2 => h1.sb h2) (fun _ _ h1 h2 h3 h4 => h1.step h2 h3 h4) fuel listed a w (fun j p hj hne hunj hno => ?_) hready (takes_waits hst hM) hyc hM.ss ?_
    · have hjlt : j < all.size := (Array.getElem?_eq_some_iff.1 hj).1
      have h1 := List.all_eq_true.1 hfree j (List.mem_range.2 hjlt)
      have h2 : Nat.beq j i = false := by
        cases hb : Nat.beq j i with
        | true => exact absurd (Nat.eq_of_beq_eq_true hb) hne
        | false => rfl
      have h3 : lv.contains j = false := by
        cases hc : lv.contains j with
        | true =>
          have := (hM.lst j hjlt).2 (.inl (by simpa using hc))
          rw [this] at hunj; cases hunj
        | false => rfl
      simp only [h2, h3, hj, Bool.false_or, Bool.or_eq_true] at h1
      rcases h1 with h1 | h1
      · obtain ⟨n, hn, hb1, hb2⟩ : ∃ (n : Nat), ∃ h : n < p.after.size, Region.binds .any p.after[n] = true ∧ p.after[n].on = i := by simpa using h1
        exact absurd hb2 (hno _ (Array.getElem_mem hn) hb1)
      · exact h1
    · refine h r hr φ0 I0 w0 φ I w (a.put q.dst c) b cs A _ fuel Q ?_ (by rw [put_defers]; exact hd) (by rw [put_size]; exact hsz) hk hf hkd (by have := unl_set hunl; omega) hQp hQ
      refine ⟨hM.rel0, hM.rel, hM.tr.tput hsz hN hvc, hM.tu.tput hsz hN huc, hM.le, hM.tm, fun p hp hr => hM.stk p hp (by
        have hne : i ≠ p.2 := fun e => by
          have := List.all_eq_true.1 (Bool.and_eq_true_iff.1 hst).1 p hp
          subst e
          simp at this
        rw [getD_other hne] at hr; exact hr), by simp [hM.size], lst_set hM.size hM.lst i, fun p hp => ?_, fun p hp => ?_, hM.one, hM.dist⟩
      · have he := hM.early p hp
        have hne : p.1 ≠ i := fun e => hiA (List.mem_map.2 ⟨p, hp, e⟩)
        refine Early.keep hM.rel.imm he (fun m => (Turn.refl φ I w).toM m) fun q' d hq' hd' => put_get_ne fun e => ?_
        obtain ⟨q2, _, _, _, _, _, hq2, ha2, _⟩ := he
        rw [hq'] at hq2
        cases hq2
        exact (Oper.apart_spec (hap p hp q' hq' ha2 hne)).2.1 d e hd'
      · simp only [List.mem_cons, not_or]
        exact ⟨fun e => hiA (List.mem_map.2 ⟨p, hp, e⟩), hM.out p hp⟩

theorem aTakeP {i : Nat} {q : Oper} (v : V) (hi : all[i]? = some q) (hun : lv.contains i = false := by kernel_rfl) (hpre : predsV all lv q = true := by kernel_rfl) (hfree : freeV all lv i q = true := by kernel_rfl) (hsel : Region.noSelect all = true := by kernel_rfl) (hN : inN N q.dst = true := by kernel_rfl) (hst : takesV all st lv i [] = true := by kernel_rfl) (hw : vwanted T all q = some true := by kernel_rfl)
    (hp : PureV P q T H v) (h : AnyO P f N m all st H0 (i :: lv) k (tput T q.dst v) (tput U q.dst (scal v)) H E o) : AnyO P f N m all st H0 lv k T U H E o :=
  aTake_core hi hun hpre hfree hsel hN hst (fun φ0 I0 w0 φ I w a _ _ hR hT _ _ _ => by
    obtain ⟨c, h1, h2⟩ := hp φ I w a hR hT
    exact ⟨c, .inl ⟨vwanted_wanted hT hw, fun w' _ => h1 w'⟩, h2, scal_VR h2⟩) h

theorem aTakeL {i : Nat} {q : Oper} (v : V) (hi : all[i]? = some q) (hun : lv.contains i = false := by kernel_rfl) (hpre : predsV all lv q = true := by kernel_rfl) (hfree : freeV all lv i q = true := by kernel_rfl) (hsel : Region.noSelect all = true := by kernel_rfl) (hN : inN N q.dst = true := by kernel_rfl) (hw : vwanted T all q = some true := by kernel_rfl)
    {st' : List Nat} (hst : takesV all st lv i st' = true := by kernel_rfl) (hp : Quiet P q U H0 st' v) (h : AnyO P f N m all st H0 (i :: lv) k (tput T q.dst v) (tput U q.dst v) H E o) : AnyO P f N m all st H0 lv k T U H E o :=
  aTake_core hi hun hpre hfree hsel hN hst (fun φ0 I0 w0 φ I w a hR0 hT0 hR hT hle hsub hsame => by
    obtain ⟨c, h1, h2⟩ := hp φ0 I0 w0 a hR0 hT0
    exact ⟨c, .inl ⟨vwanted_wanted hT hw, fun w' hs => h1 w' hs.1 fun b hb l g hl hg => hs.2 b hb l g hl hg⟩, h2.mono hle hsub hsame, h2⟩) h

theorem aTakeNot {i : Nat} {q : Oper} (hi : all[i]? = some q) (hun : lv.contains i = false := by kernel_rfl) (hpre : predsV all lv q = true := by kernel_rfl) (hfree : freeV all lv i q = true := by kernel_rfl) (hsel : Region.noSelect all = true := by kernel_rfl) (hN : inN N q.dst = true := by kernel_rfl) (hst : takesV all st lv i [] = true := by kernel_rfl) (hw : vwanted T all q = some false := by kernel_rfl)
    (h : AnyO P f N m all st H0 (i :: lv) k (tput T q.dst (.tuple [])) (tput U q.dst (.tuple [])) H E o) : AnyO P f N m all st H0 lv k T U H E o :=
  aTake_core hi hun hpre hfree hsel hN hst (fun φ0 I0 w0 φ I w a hR0 hT0 hR hT hle hsub hsame => ⟨undef, .inr ⟨vwanted_wanted hT hw, rfl⟩, undef_VR _ _ _, undef_VR _ _ _⟩) h

/-- A Bool that is held is looked at. -/
theorem aSplit {o1 o2 : Option R} (t : Nat) {b : Bool} (ht : get T t = .d (.bool b)) (hu : get U t = .d (.bool b)) (h1 : b = true → AnyO P f N m all st H0 lv k ((t, .d (.bool true)) :: T) ((t, .d (.bool true)) :: U) H E o1)
    (h2 : b = false → AnyO P f N m all st H0 lv k ((t, .d (.bool false)) :: T) ((t, .d (.bool false)) :: U) H E o2) : AnyO P f N m all st H0 lv k T U H E (bif b then o1 else o2) := by
  have hput : ∀ {T : Tm} {b : Bool} {φ : List Plc} {I : Nat → Prop} {w : World} {a : Act}, get T t = .d (.bool b) → TR φ I w T a → TR φ I w ((t, .d (.bool b)) :: T) a := fun {T b φ I w a} ht hT t' => by
    simp only [get]
    cases hb : Nat.beq t' t with
    | true =>
      have := Nat.eq_of_beq_eq_true hb
      subst this
      simp only [cond_true]
      rw [← ht]; exact hT t'
    | false => exact hT t'
  intro r hr φ0 I0 w0 φ I w a b' cs A listed fuel Q hM hd hsz hk hf hkd hfu hQp hQ
  cases b with
  | true => exact h1 rfl r hr φ0 I0 w0 φ I w a b' cs A listed fuel Q { hM with tr := hput ht hM.tr, tu := hput hu hM.tu } hd hsz hk hf hkd hfu hQp hQ
  | false => exact h2 rfl r hr φ0 I0 w0 φ I w a b' cs A listed fuel Q { hM with tr := hput ht hM.tr, tu := hput hu hM.tu } hd hsz hk hf hkd hfu hQp hQ

theorem aGuard {o : Option R} {b : Bool} (h : b = true → AnyO P f N m all st H0 lv k T U H E o) : AnyO P f N m all st H0 lv k T U H E (bif b then o else none) := fun r hr => by
  cases b with
  | true => exact h rfl r hr
  | false => cases hr
theorem aNone : AnyO P f N m all st H0 lv k T U H E (none : Option R) := fun r hr => by cases hr
theorem aIdx {α : Type} {xs : List α} {i : Int} {B : α → Option R} (h : ∀ e, 0 ≤ i → xs[i.toNat]? = some e → AnyO P f N m all st H0 lv k T U H E (B e)) : AnyO P f N m all st H0 lv k T U H E (gidx xs i B) := fun r hr => by
  unfold gidx at hr
  cases hd : decide (0 ≤ i) with
  | false => rw [hd] at hr; cases hr
  | true =>
    rw [hd] at hr
    cases he : xs[i.toNat]? with
    | none => rw [he] at hr; cases hr
    | some e => rw [he] at hr; exact h e (of_decide_eq_true hd) he r hr
theorem aNz {y : Int} {o : Option R} (h : y ≠ 0 → AnyO P f N m all st H0 lv k T U H E o) : AnyO P f N m all st H0 lv k T U H E (gnz y o) := fun r hr => by
  unfold gnz at hr
  by_cases hy : y = 0
  · subst hy; cases hr
  · have : (y == 0) = false := by simpa using hy
    rw [this] at hr
    exact h hy r hr
theorem aNn {y : Int} {o : Option R} (h : 0 ≤ y → AnyO P f N m all st H0 lv k T U H E o) : AnyO P f N m all st H0 lv k T U H E (gnn y o) := aGuard fun hb => h (of_decide_eq_true hb)
theorem aCap {n bytes : Nat} {o : Option R} (h : n * bytes ≤ 140737488355328 → AnyO P f N m all st H0 lv k T U H E o) : AnyO P f N m all st H0 lv k T U H E (gcap n bytes o) := aGuard fun hb => h (of_decide_eq_true hb)
theorem aMake {n : Int} {bytes : Nat} {o : Option R} (h : 0 ≤ n → n.toNat * bytes ≤ 140737488355328 → AnyO P f N m all st H0 lv k T U H E o) : AnyO P f N m all st H0 lv k T U H E (gmake n bytes o) := aGuard fun hb => by
  have := Bool.and_eq_true_iff.1 hb
  exact h (of_decide_eq_true this.1) (of_decide_eq_true this.2)
theorem aCut {lo hi len : Int} {o : Option R} (h : 0 ≤ lo → lo ≤ hi → hi ≤ len → AnyO P f N m all st H0 lv k T U H E o) : AnyO P f N m all st H0 lv k T U H E (gcut lo hi len o) := aGuard fun hb => by
  have h1 := Bool.and_eq_true_iff.1 hb
  have h2 := Bool.and_eq_true_iff.1 h1.2
  exact h (of_decide_eq_true h1.1) (of_decide_eq_true h2.1) (of_decide_eq_true h2.2)

/-! ### operations that change memory: one after the other; allocs may come up in between -/
/-- What one operation does, a call or not. -/
def Acts (P : Program) (q : Oper) (T : Tm) (H : List Blk) (v : V) (H' : List Blk) (tc : List Nat) : Prop :=
  ∀ (φ : List Plc) (I : Nat → Prop) (w : World) (a : Act) (Q : Exit → Act → World → Prop) (K : Act → World → Prop), Rel H φ I w → TR φ I w T a →
    (∀ φ' I' w' c, LE φ φ' → (∀ m, TurnM m φ I w φ' I' w') → Rel H' φ' I' w' → VR φ' I' w' v c → Keeps φ φ' tc w w' → K (a.put q.dst c) w') → q.wp P a w K Q

theorem Does.acts {q : Oper} {v : V} {H' : List Blk} {tc : List Nat} (h : Does P q T H v H' tc) : Acts P q T H v H' tc := fun φ I w a Q K hR hT hK => by
  obtain ⟨φ', I', w', c, hrun, ht, hR', hv, hkp⟩ := h φ I w a hR hT
  have := hK φ' I' w' c ht.le (fun m => ht.toM m) hR' hv hkp
  unfold Oper.wp
  rcases hrun with hrun | ⟨hrun, rfl⟩
  · rw [hrun]; exact this
  · rw [hrun]; exact this

theorem acts_call {q : Oper} {fop : Operand} {args : Array Operand} {tys : Array TypeId} {g : FuncId} {caps : List V} {fn : Func} {c : Code} {σ : List Nat} {vs args' : List V} {Bc Bc' : List Blk} {rc v : V} {H' : List Blk}
    (ho : q.op = .call ⟨.value fop, args, tys⟩) (hf : ev T fop = .fn g caps) (hfn : P.funcs[g]? = some fn) (hb : fn.body = some c) (hname : (fn.name == "runtime.NumGoroutine") = false)
    (hconv : ConvRs H (args.toList.map (ev T) ++ caps) vs) (hargs : mapVs (nth σ) args' = vs) (hac : closedVs σ.length args' = true) (hσ : σ.all (fun b => Nat.blt b H.length) = true) (hnd : σ.Nodup)
    (hBc : σ.map (fun b => H[b]?) = Bc.map (fun k => some (mapB (nth σ) k))) (hcl : Bc.all (closedB σ.length) = true) (hruns : Runs P g args' Bc rc Bc') (hBl : Nat.ble σ.length Bc'.length = true)
    (hv : mapV (backN σ H.length) rc = v) (hH' : putL σ (Bc'.map (mapB (backN σ H.length))) H ++ (Bc'.drop σ.length).map (mapB (backN σ H.length)) = H') : Acts P q T H v H' σ := fun φ I w a Q K hR hT hK => by
  have hσ' : ∀ b ∈ σ, b < H.length := fun b hb => Nat.le_of_ble_eq_true (List.all_eq_true.1 hσ b hb)
  have hσφ : ∀ b ∈ σ, b < φ.length := by rw [hR.len]; exact hσ'
  have hBlen : Bc.length = σ.length := by have := congrArg List.length hBc; simp at this; omega
  have hRB := hR.pick hσ' hnd hBc (List.all_eq_true.1 hcl)
  obtain ⟨ccaps, hfc, hcaps⟩ := VR.fn_inv (hf ▸ ev_VR hT fop)
  have hrun := run_call (P := P) (w := w) ho hfc hfn hb hname
  have hall0 : AllR φ I w (args.toList.map (ev T) ++ caps) (args.map a.eval ++ ccaps) := AllR.append ⟨by simp, fun i v c h1 h2 => by
    simp only [List.getElem?_map, Array.getElem?_toList] at h1
    simp only [Array.getElem?_map] at h2
    obtain ⟨x, hx, rfl⟩ := Option.map_eq_some_iff.1 h1
    rw [hx] at h2
    simp at h2
    subst h2
    exact ev_VR hT x⟩ hcaps
  obtain ⟨hcl1, hcl2⟩ := hconv.VRs hR
  have hargs' : args'.map (mapV (nth σ)) = vs := by rw [← mapVs_map]; exact hargs
  have hal : args'.length = vs.length := by rw [← hargs']; simp
  have hcalls := hruns (pick σ φ) I w (args.map a.eval ++ ccaps) hRB (by rw [hal, hcl1]; exact hall0.1) (fun j u cc hu hc => by
    refine mapV_back (n := σ.length) (fun b hb => (pick_get hb hσφ).symm) u cc ?_ ?_
    · rw [closedVs_all] at hac
      exact List.all_eq_true.1 hac u (List.mem_of_getElem? hu)
    · have : vs[j]? = some (mapV (nth σ) u) := by rw [← hargs']; simp [hu]
      exact hcl2 j _ this fun v0 h0 => hall0.2 j v0 cc h0 hc)
  unfold Oper.wp
  rw [hrun]
  refine hcalls.mono fun e w' he => ?_
  obtain ⟨φc', I', cv, rfl, ht, hR', hvr⟩ := he
  obtain ⟨φ', hle, hTm, hRel, hVR, hkp⟩ := call_core hR hσ' hnd hBlen (Nat.le_of_ble_eq_true hBl) ht hR'
  rw [hH'] at hRel
  have hvr' := hVR rc cv hvr
  rw [hv] at hvr'
  exact hK φ' I' w' cv hle hTm hRel hvr' hkp

/-- The allocs that have not come up. -/
def lateA (all : Array Oper) (lv : List Nat) : List Nat := (List.range all.size).filter fun j => !lv.contains j && match all[j]? with | some q => isAlloc q | none => false
/-- All that may come up, when the allocs 'la' have, has been listed, or is i. -/
def onlyV (all : Array Oper) (la : List Nat) (i : Nat) : Bool := (List.range all.size).all fun j => Nat.beq j i || la.contains j || match all[j]? with
  | some q => q.after.any fun e => Region.binds .any e && !la.contains e.on
  | none => true
/-- The late allocs have their own temporaries, of which nothing is told; and they can be carried out. -/
def lateOk (P : Program) (N : Nat) (all : Array Oper) (la : List Nat) (T U : Tm) (dst : Option Tmp) : Bool := la.all fun j => match all[j]? with
  | some q => match q.op, q.dst with
    | .alloc e, some d => (Nat.blt d N && la.all fun i => Nat.beq i j || match all[i]? with | some p => (match p.dst with | some d' => !Nat.beq d' d | none => true) | none => true) && (match get T d, get U d with | .undef, .undef => true | _, _ => false) && (match dst with | some d' => !Nat.beq d' d | none => true) && (match P.info? e with | some i => i.zero.isSome | none => false)
    | _, _ => false
  | none => false

theorem late_spec {j : Nat} (h : j ∈ lateA all lv) : j ∉ lv ∧ ∃ q, all[j]? = some q ∧ isAlloc q = true := by
  unfold lateA at h
  rw [List.mem_filter] at h
  obtain ⟨h1, h2⟩ := h
  have h3 := Bool.and_eq_true_iff.1 h2
  refine ⟨fun hm => ?_, ?_⟩
  · have : lv.contains j = true := by simpa using hm
    rw [this] at h3
    cases h3.1
  · cases hq : all[j]? with
    | none => rw [hq] at h3; cases h3.2
    | some q => rw [hq] at h3; exact ⟨q, rfl, h3.2⟩
theorem late_mk {j : Nat} {q : Oper} (h : j ∉ lv) (hq : all[j]? = some q) (ha : isAlloc q = true) : j ∈ lateA all lv := by
  unfold lateA
  rw [List.mem_filter]
  refine ⟨List.mem_range.2 (Array.getElem?_eq_some_iff.1 hq).1, ?_⟩
  have : lv.contains j = false := by
    cases hc : lv.contains j with
    | true => exact absurd (by simpa using hc) h
    | false => rfl
  rw [this, hq]
  simpa using ha

theorem lateOk_spec {la : List Nat} {dst : Option Tmp} (h : lateOk P N all la T U dst = true) {j : Nat} (hj : j ∈ la) : ∃ q e d z sz bytes, all[j]? = some q ∧ q.op = .alloc e ∧ q.dst = some d ∧ get T d = .undef ∧ get U d = .undef ∧ dst ≠ some d ∧ TyI P e z sz bytes ∧ d < N ∧
    ∀ i ∈ la, i ≠ j → ∀ p : Oper, all[i]? = some p → p.dst ≠ some d := by
  have h1 := List.all_eq_true.1 h j hj
  cases hq : all[j]? with
  | none => simp [hq] at h1
  | some q =>
    simp only [hq] at h1
    split at h1
    case h_2 => cases h1
    case h_1 e d he hd =>
      have h2 := Bool.and_eq_true_iff.1 h1
      have h3' := Bool.and_eq_true_iff.1 h2.1
      have h4 := Bool.and_eq_true_iff.1 h3'.1
      have h5 := Bool.and_eq_true_iff.1 h4.1
      have h3 : _ ∧ _ := ⟨h4.2, h3'.2⟩
      cases hi : P.info? e with
      | none => rw [hi] at h2; cases h2.2
      | some i =>
        rw [hi] at h2
        obtain ⟨z, hz⟩ := Option.isSome_iff_exists.1 h2.2
        refine ⟨q, e, d, z, i.size, i.bytes, rfl, he, hd, ?_, ?_, ?_, by simp [TyI, hi, hz], Nat.le_of_ble_eq_true h5.1, fun i hi hne p hp hpd => ?_⟩
        · have := h3.1; split at this; assumption; cases this
        · have := h3.1; split at this; assumption; cases this
        · intro hdd
          subst hdd
          have := h3.2
          simp at this
        · have h6 := List.all_eq_true.1 h5.2 i hi
          have h7 : Nat.beq i j = false := by
            cases hb : Nat.beq i j with
            | true => exact absurd (Nat.eq_of_beq_eq_true hb) hne
            | false => rfl
          simp [h7, hp, hpd] at h6

/-- The machine carries out an alloc that this view has not come to. -/
theorem late_step {φ0 : List Plc} {I0 : Nat → Prop} {w0 : World} {φ : List Plc} {I : Nat → Prop} {w : World} {a : Act} {A : List (Nat × Nat)} {listed : Array Bool} {Q : Exit → Act → World → Prop} {K : Act → World → Prop} {dst : Option Tmp} {j : Nat}
    (hM : Mid P all st H0 φ0 I0 w0 lv T U H φ I w a A listed) (hN : a.tmps.size = N) (hok : lateOk P N all (lateA all lv) T U dst = true) (hj : j ∈ lateA all lv) (hunl : listed.getD j true = false)
    (hK : ∀ a' w' A', Mid P all st H0 φ0 I0 w0 lv T U H φ I w' a' A' (listed.setIfInBounds j true) → a'.defers = a.defers → a'.tmps.size = a.tmps.size → K a' w') : wpOp P all Q j K a w := by
  obtain ⟨hjlv, q, hq, hqa⟩ := late_spec hj
  obtain ⟨q', e, d, z, sz, bytes, hq', hop, hd, hTd, hUd, _, hty, hdN, hdd⟩ := lateOk_spec hok hj
  rw [hq] at hq'
  cases hq'
  obtain ⟨_, _, _, hg, _, haf⟩ := isAlloc_spec hqa
  have hjlt : j < all.size := (Array.getElem?_eq_some_iff.1 hq).1
  have hjA : j ∉ A.map (·.1) := fun hm => by
    have := (hM.lst j hjlt).2 (.inr hm)
    rw [this] at hunl; cases hunl
  unfold wpOp
  simp only [hq]
  have hwant : Region.wanted q (yielded all a.tmps) = true := by simp [Region.wanted, hg]
  rw [if_pos hwant]
  left
  have hrun : (execOp a.eval q).run P w = .ok (.value (.pointer (some ⟨w.heap.size, 0, none⟩))) (w.alloc (.cells z.cells e)) := by
    simp [execOp, hop, Instr.alloc, run_zeroValue hty, newVar, newRow]
  unfold Oper.wp
  rw [hrun]
  obtain ⟨hg1, hg2⟩ := hM.rel.garbage (.cells z.cells e)
  refine hK _ _ ((j, w.heap.size) :: A) ?_ put_defers put_size
  have htr : ∀ {X : Tm} {ψ : List Plc} {J : Nat → Prop} {u : World}, get X d = .undef → TR ψ J u X a → TR ψ J u X (a.put q.dst (.pointer (some ⟨w.heap.size, 0, none⟩))) := fun {X ψ J u} hX hT t => by
    by_cases he : t = d
    · subst he; rw [hX]; exact .undef _
    · rw [put_get_ne (by rw [hd]; intro e'; cases e'; exact he rfl)]; exact hT t
  refine ⟨hM.rel0, hg1, htr hTd (hM.tr.turn hg2), htr hUd hM.tu, hM.le, fun m => (hM.tm m).trans (hg2.toM m), fun p hp hr l hl => ?_, by simp [hM.size], fun i hi => ?_, fun p hp => ?_, fun p hp => ?_, ?_, ?_⟩
  · obtain ⟨h1, h2⟩ := hM.stk p hp (by
      by_cases he : j = p.2
      · rw [← he]
        have hls : j < listed.size := by rw [hM.size]; exact hjlt
        rw [Array.getD_eq_getD_getElem?, Array.getElem?_eq_getElem hls] at hunl ⊢
        simpa using hunl
      · rw [getD_other he] at hr; exact hr) l hl
    exact ⟨h1, fun g hgl => by rw [← h2 g hgl]; exact heap_alloc w _ g (hM.rel.lt h1 hgl)⟩
  · by_cases he : j = i
    · subst he; simp [Array.getD_eq_getD_getElem?, hM.size, hi]
    · rw [getD_set_ne true he, hM.lst i hi]
      have : ¬ i = j := fun e => he e.symm
      simp [this]
  · simp only [List.mem_cons] at hp
    rcases hp with rfl | hp
    · refine ⟨q, e, z, sz, bytes, d, hq, hqa, hop, hd, hty, ?_, heap_alloc_at w _, fun h => Nat.lt_irrefl _ (hM.rel.imm _ h), fun b l hl hgl => ?_, (hM.tm 0).size⟩
      · have hdlt : d < a.tmps.size := by rw [hN]; exact hdN
        simp [Act.put, hd, Array.getD_eq_getD_getElem?, hdlt]
      · have := hM.rel.lt hl hgl; simp at this
    · have he := hM.early p hp
      refine Early.keep hM.rel.imm he (fun m => hg2.toM m) fun q' d' hq' hd' => put_get_ne fun e' => ?_
      have hp1 : p.1 ∈ lateA all lv := by
        obtain ⟨q2, _, _, _, _, _, h1, h2, _⟩ := he
        exact late_mk (hM.out p hp) h1 h2
      have hne : p.1 ≠ j := fun e => hjA (List.mem_map.2 ⟨p, hp, e⟩)
      rw [hd] at e'
      cases e'
      exact hdd p.1 hp1 hne q' hq' hd'
  · simp only [List.mem_cons] at hp
    rcases hp with rfl | hp
    · exact hjlv
    · exact hM.out p hp
  · simp only [List.map_cons, List.nodup_cons]
    exact ⟨hjA, hM.one⟩
  · simp only [List.map_cons, List.nodup_cons]
    refine ⟨fun hm => ?_, hM.dist⟩
    obtain ⟨p, hp, hpg⟩ := List.mem_map.1 hm
    obtain ⟨_, _, _, _, _, _, _, _, _, _, _, _, h7, _⟩ := hM.early p hp
    have := (Array.getElem?_eq_some_iff.1 h7).1
    omega

theorem onlyV_spec {la : List Nat} {i : Nat} {listed : Array Bool} (h : onlyV all la i = true) (hsub : ∀ j, j < all.size → listed.getD j true = true → j ∈ la) (hs : listed.size = all.size) {j : Nat} (hj : j ∈ Region.ready .any all listed) : j = i ∨ j ∈ la := by
  obtain ⟨h1, q, hq, h2⟩ := mem_ready.1 hj
  have hlt : j < all.size := (Array.getElem?_eq_some_iff.1 hq).1
  have h3 := List.all_eq_true.1 h j (List.mem_range.2 hlt)
  simp only [hq, Bool.or_eq_true] at h3
  rcases h3 with (h3 | h3) | h3
  · exact .inl (Nat.eq_of_beq_eq_true h3)
  · exact .inr (by simpa using h3)
  · obtain ⟨n, hn, hb1, hb2⟩ : ∃ (n : Nat), ∃ h : n < q.after.size, Region.binds .any q.after[n] = true ∧ ¬ q.after[n].on ∈ la := by simpa using h3
    have h4 := h2 _ (Array.getElem_mem hn) hb1
    have hlt2 : q.after[n].on < all.size := by
      rcases Nat.lt_or_ge q.after[n].on all.size with h | h
      · exact h
      · rw [Array.getD_eq_getD_getElem?, Array.getElem?_eq_none (by rw [hs]; exact h)] at h4; cases h4
    exact absurd (hsub _ hlt2 (by
      rw [Array.getD_eq_getD_getElem?, Array.getElem?_eq_getElem (by rw [hs]; exact hlt2)] at h4 ⊢
      simpa using h4)) hb2

theorem listed_sub {φ0 : List Plc} {I0 : Nat → Prop} {w0 : World} {φ : List Plc} {I : Nat → Prop} {w : World} {a : Act} {A : List (Nat × Nat)} {listed : Array Bool} (hM : Mid P all st H0 φ0 I0 w0 lv T U H φ I w a A listed) :
    ∀ j, j < all.size → listed.getD j true = true → j ∈ lv ++ lateA all lv := fun j hj h => by
  rw [List.mem_append]
  rcases (hM.lst j hj).1 h with h | h
  · exact .inl h
  · obtain ⟨p, hp, rfl⟩ := List.mem_map.1 h
    obtain ⟨q, _, _, _, _, _, h1, h2, _⟩ := hM.early p hp
    exact .inr (late_mk (hM.out p hp) h1 h2)

/-- What the operation i writes is not kept any more. -/
def writesV (all : Array Oper) (st : List (Nat × Nat)) (lv : List Nat) (i : Nat) (tc : List Nat) : Bool := tc.all fun b => st.all fun p => !Nat.beq p.1 b || Nat.beq p.2 i || (lv.contains p.2 && Nat.blt p.2 all.size)
/-- The one operation that may come up, allocs aside. -/
theorem aOne {i : Nat} {q : Oper} {v : V} {H' : List Blk} {tc : List Nat} (hi : all[i]? = some q) (hun : lv.contains i = false := by kernel_rfl) (hna : isAlloc q = false := by kernel_rfl) (hpre : predsV all lv q = true := by kernel_rfl) (honly : onlyV all (lv ++ lateA all lv) i = true := by kernel_rfl) (hok : lateOk P N all (lateA all lv) T U q.dst = true := by kernel_rfl)
    (hw : vwanted T all q = some true := by kernel_rfl) (hN : inN N q.dst = true := by kernel_rfl) (hac : Acts P q T H v H' tc) (hst : writesV all st lv i tc = true := by kernel_rfl) (h : AnyO P f N m all st H0 (i :: lv) k (tput T q.dst v) (tput U q.dst (scal v)) H' E o) : AnyO P f N m all st H0 lv k T U H E o := by
  intro r hr φ0 I0 w0 φ I w a b cs A listed fuel
  have hilt : i < all.size := (Array.getElem?_eq_some_iff.1 hi).1
  have hilv : i ∉ lv := fun hm => by have : lv.contains i = true := by simpa using hm
                                     rw [this] at hun; cases hun
  induction fuel generalizing w a A listed with
  | zero =>
    intro Q hM hd hsz hk hf hkd hfu hQp hQ
    have hiA : i ∉ A.map (·.1) := fun hm => by
      obtain ⟨p, hp, rfl⟩ := List.mem_map.1 hm
      obtain ⟨q2, _, _, _, _, _, h1, h2, _⟩ := hM.early p hp
      rw [hi] at h1; cases h1
      rw [hna] at h2; cases h2
    have hunl : listed.getD i true = false := by
      cases hb : listed.getD i true with
      | true => rcases (hM.lst i hilt).1 hb with h | h
                · exact absurd h hilv
                · exact absurd h hiA
      | false => rfl
    have := unl_pos hunl
    omega
  | succ fuel ih =>
    intro Q hM hd hsz hk hf hkd hfu hQp hQ
    have hiA : i ∉ A.map (·.1) := fun hm => by
      obtain ⟨p, hp, rfl⟩ := List.mem_map.1 hm
      obtain ⟨q2, _, _, _, _, _, h1, h2, _⟩ := hM.early p hp
      rw [hi] at h1; cases h1
      rw [hna] at h2; cases h2
    have hunl : listed.getD i true = false := by
      cases hb : listed.getD i true with
      | true => rcases (hM.lst i hilt).1 hb with h | h
                · exact absurd h hilv
                · exact absurd h hiA
      | false => rfl
    have hready : i ∈ Region.ready .any all listed := mem_ready.2 ⟨hunl, q, hi, fun e he hb => by
      have h1 := Array.all_eq_true_iff_forall_mem.1 hpre e he
      rw [hb] at h1
      have h1' := Bool.and_eq_true_iff.1 (by simpa only [Bool.not_true, Bool.false_or] using h1)
      have h2 : e.on ∈ lv := by simpa using h1'.1
      have hlt : e.on < all.size := Nat.le_of_ble_eq_true h1'.2
      have h3 := (hM.lst e.on hlt).2 (.inl h2)
      rw [Array.getD_eq_getD_getElem?, Array.getElem?_eq_getElem (by rw [hM.size]; exact hlt)] at h3 ⊢
      simpa using h3⟩
    refine ⟨fun h0 => (by rw [h0] at hready; cases hready), fun j hj => ?_⟩
    have hjun := (mem_ready.1 hj).1
    rcases onlyV_spec honly (listed_sub hM) hM.size hj with rfl | hjl
    · unfold wpOp
      simp only [hi]
      rw [if_pos (vwanted_wanted hM.tr hw)]
      left
      refine hac φ I w a Q _ hM.rel hM.tr fun φ' I' w' c hle htm hR' hv hkp => ?_
      have hmid : Mid P all st H0 φ0 I0 w0 (j :: lv) (tput T q.dst v) (tput U q.dst (scal v)) H' φ' I' w' (a.put q.dst c) A (listed.setIfInBounds j true) := by
        refine ⟨hM.rel0, hR', ?_, hM.tu.tput hsz hN (scal_VR hv), hM.le.trans hle, fun m => (hM.tm m).trans (htm m), fun p hp hr l hl => ?_, by simp [hM.size], lst_set hM.size hM.lst j, fun p hp => ?_, fun p hp => ?_, hM.one, hM.dist⟩
        · exact TR.tput (fun t => (hM.tr t).mono hle (htm 0).sub (htm 0).same) hsz hN hv
        · have hnj : ¬ j = p.2 := fun e => by
            subst e
            have hls : p.2 < listed.size := by rw [hM.size]; exact hilt
            simp [Array.getD_eq_getD_getElem?, hls] at hr
          rw [getD_other hnj] at hr
          obtain ⟨h1, h2⟩ := hM.stk p hp hr l hl
          have hbt : p.1 ∉ tc := fun hm => by
            have h5 := List.all_eq_true.1 (List.all_eq_true.1 hst p.1 hm) p hp
            have h6 : Nat.beq p.2 j = false := by
              cases hb : Nat.beq p.2 j with
              | true => exact absurd (Nat.eq_of_beq_eq_true hb).symm hnj
              | false => rfl
            simp only [Nat.beq_refl, h6, Bool.not_true, Bool.false_or] at h5
            obtain ⟨h7, h8⟩ := Bool.and_eq_true_iff.1 h5
            have hlt := Nat.le_of_ble_eq_true h8
            have h9 := (hM.lst p.2 hlt).2 (.inl (by simpa using h7))
            have hls : p.2 < listed.size := by rw [hM.size]; exact hlt
            rw [Array.getD_eq_getD_getElem?, Array.getElem?_eq_getElem hls] at h9 hr
            simp at h9 hr
            rw [h9] at hr; cases hr
          obtain ⟨h3, h4⟩ := hkp p.1 l hbt h1
          exact ⟨h3, fun g hg => by rw [h4 g hg, h2 g hg]⟩
        · have he := hM.early p hp
          refine Early.keep hM.rel.imm he htm fun q' d hq' hd' => put_get_ne fun e => ?_
          obtain ⟨q2, _, _, _, _, _, h1, h2, _⟩ := he
          have hp1 : p.1 ∈ lateA all lv := late_mk (hM.out p hp) h1 h2
          obtain ⟨q3, _, d3, _, _, _, h3, _, h4, _, _, h5, _⟩ := lateOk_spec hok hp1
          rw [hq'] at h3
          cases h3
          rw [hd'] at h4
          cases h4
          exact h5 e
        · simp only [List.mem_cons, not_or]
          exact ⟨fun e => hiA (List.mem_map.2 ⟨p, hp, e⟩), hM.out p hp⟩
      exact ⟨hmid.ss, h r hr φ0 I0 w0 φ' I' w' _ b cs A _ fuel Q hmid (by rw [put_defers]; exact hd) (by rw [put_size]; exact hsz) hk hf hkd (by have := unl_set hunl; omega) hQp hQ⟩
    · rw [List.mem_append] at hjl
      rcases hjl with hjl | hjl
      · have hjlt : j < all.size := by obtain ⟨_, q', hq', _⟩ := mem_ready.1 hj; exact (Array.getElem?_eq_some_iff.1 hq').1
        have := (hM.lst j hjlt).2 (.inl hjl)
        rw [this] at hjun; cases hjun
      · refine late_step hM hsz hok hjl hjun fun a' w' A' hM' hd' hsz' => ⟨hM'.ss, ih w' a' A' _ Q hM' (by rw [hd']; exact hd) (by rw [hsz']; exact hsz) hk hf hkd (by have := unl_set hjun; omega) hQp hQ⟩

/-- One of several operations comes up. -/
def StepO (P : Program) (f : FuncId) (N m : Nat) (all : Array Oper) (st : List (Nat × Nat)) (H0 : List Blk) (lv : List Nat) (k : List VI) (T U : Tm) (H : List Blk) (E : R → V × List Blk) (o : Option R) (i : Nat) : Prop :=
  ∀ r, o = some r → ∀ (φ0 : List Plc) (I0 : Nat → Prop) (w0 : World) (φ : List Plc) (I : Nat → Prop) (w : World) (a : Act) (b : Frame) (cs : List Frame) (A : List (Nat × Nat)) (listed : Array Bool) (fuel : Nat) (Q : Exit → Act → World → Prop),
    Mid P all st H0 φ0 I0 w0 lv T U H φ I w a A listed → a.defers = [] → a.tmps.size = N → (∀ x ∈ k, x.ok) → b.fn = f → b.kind = .normal → unl listed ≤ fuel + 1 → listed.getD i true = false → (∀ c a w, ¬ Q (.panic c) a w) →
    (∀ a' w', Fin_ P f m k (E r).1 (E r).2 b cs φ0 I0 w0 a' w' → Q .normal a' w') → wpOp P all Q i (fun a' w' => SL st φ0 I0 w0 (listed.setIfInBounds i true) w' ∧ wpL P all Q (SL st φ0 I0 w0) fuel (listed.setIfInBounds i true) a' w') a w
inductive StepsO (P : Program) (f : FuncId) (N m : Nat) (all : Array Oper) (st : List (Nat × Nat)) (H0 : List Blk) (lv : List Nat) (k : List VI) (T U : Tm) (H : List Blk) (E : R → V × List Blk) (o : Option R) : List Nat → Prop
  | nil : StepsO P f N m all st H0 lv k T U H E o []
  | cons (i : Nat) (is : List Nat) (h : StepO P f N m all st H0 lv k T U H E o i) (hs : StepsO P f N m all st H0 lv k T U H E o is) : StepsO P f N m all st H0 lv k T U H E o (i :: is)
theorem StepsO.mem {is : List Nat} (h : StepsO P f N m all st H0 lv k T U H E o is) : ∀ i ∈ is, StepO P f N m all st H0 lv k T U H E o i := by
  induction h with
  | nil => intro i hi; cases hi
  | cons i is h _ ih =>
    intro j hj
    rcases List.mem_cons.1 hj with rfl | hj
    · exact h
    · exact ih j hj
theorem sOne {i : Nat} {q : Oper} {v : V} {H' : List Blk} {tc : List Nat} (hi : all[i]? = some q) (hun : lv.contains i = false := by kernel_rfl) (hna : isAlloc q = false := by kernel_rfl) (hok : lateOk P N all (lateA all lv) T U q.dst = true := by kernel_rfl)
    (hw : vwanted T all q = some true := by kernel_rfl) (hN : inN N q.dst = true := by kernel_rfl) (hac : Acts P q T H v H' tc) (hst : writesV all st lv i tc = true := by kernel_rfl) (h : AnyO P f N m all st H0 (i :: lv) k (tput T q.dst v) (tput U q.dst (scal v)) H' E o) : StepO P f N m all st H0 lv k T U H E o i := by
  intro r hr φ0 I0 w0 φ I w a b cs A listed fuel Q hM hd hsz hk hf hkd hfu hunl hQp hQ
  have hilt : i < all.size := (Array.getElem?_eq_some_iff.1 hi).1
  have hiA : i ∉ A.map (·.1) := fun hm => by
    obtain ⟨p, hp, rfl⟩ := List.mem_map.1 hm
    obtain ⟨q2, _, _, _, _, _, h1, h2, _⟩ := hM.early p hp
    rw [hi] at h1; cases h1
    rw [hna] at h2; cases h2
  unfold wpOp
  simp only [hi]
  rw [if_pos (vwanted_wanted hM.tr hw)]
  left
  refine hac φ I w a Q _ hM.rel hM.tr fun φ' I' w' c hle htm hR' hv hkp => ?_
  have hmid : Mid P all st H0 φ0 I0 w0 (i :: lv) (tput T q.dst v) (tput U q.dst (scal v)) H' φ' I' w' (a.put q.dst c) A (listed.setIfInBounds i true) := by
    refine ⟨hM.rel0, hR', ?_, hM.tu.tput hsz hN (scal_VR hv), hM.le.trans hle, fun m => (hM.tm m).trans (htm m), fun p hp hr l hl => ?_, by simp [hM.size], lst_set hM.size hM.lst i, fun p hp => ?_, fun p hp => ?_, hM.one, hM.dist⟩
    · exact TR.tput (fun t => (hM.tr t).mono hle (htm 0).sub (htm 0).same) hsz hN hv
    · have hnj : ¬ i = p.2 := fun e => by
        subst e
        have hls : p.2 < listed.size := by rw [hM.size]; exact hilt
        simp [Array.getD_eq_getD_getElem?, hls] at hr
      rw [getD_other hnj] at hr
      obtain ⟨h1, h2⟩ := hM.stk p hp hr l hl
      have hbt : p.1 ∉ tc := fun hm => by
        have h5 := List.all_eq_true.1 (List.all_eq_true.1 hst p.1 hm) p hp
        have h6 : Nat.beq p.2 i = false := by
          cases hb : Nat.beq p.2 i with
          | true => exact absurd (Nat.eq_of_beq_eq_true hb).symm hnj
          | false => rfl
        simp only [Nat.beq_refl, h6, Bool.not_true, Bool.false_or] at h5
        obtain ⟨h7, h8⟩ := Bool.and_eq_true_iff.1 h5
        have hlt := Nat.le_of_ble_eq_true h8
        have h9 := (hM.lst p.2 hlt).2 (.inl (by simpa using h7))
        have hls : p.2 < listed.size := by rw [hM.size]; exact hlt
        rw [Array.getD_eq_getD_getElem?, Array.getElem?_eq_getElem hls] at h9 hr
        simp at h9 hr
        rw [h9] at hr; cases hr
      obtain ⟨h3, h4⟩ := hkp p.1 l hbt h1
      exact ⟨h3, fun g hg => by rw [h4 g hg, h2 g hg]⟩
    · have he := hM.early p hp
      refine Early.keep hM.rel.imm he htm fun q' d hq' hd' => put_get_ne fun e => ?_
      obtain ⟨q2, _, _, _, _, _, h1, h2, _⟩ := he
      have hp1 : p.1 ∈ lateA all lv := late_mk (hM.out p hp) h1 h2
      obtain ⟨q3, _, d3, _, _, _, h3, _, h4, _, _, h5, _⟩ := lateOk_spec hok hp1
      rw [hq'] at h3
      cases h3
      rw [hd'] at h4
      cases h4
      exact h5 e
    · simp only [List.mem_cons, not_or]
      exact ⟨fun e => hiA (List.mem_map.2 ⟨p, hp, e⟩), hM.out p hp⟩
  exact ⟨hmid.ss, h r hr φ0 I0 w0 φ' I' w' _ b cs A _ fuel Q hmid (by rw [put_defers]; exact hd) (by rw [put_size]; exact hsz) hk hf hkd (by have := unl_set hunl; omega) hQp hQ⟩

/-- What may come up, when the allocs 'la' have, is among these. -/
def onlyL (all : Array Oper) (la is : List Nat) : Bool := (List.range all.size).all fun j => is.contains j || la.contains j || match all[j]? with
  | some q => q.after.any fun e => Region.binds .any e && !la.contains e.on
  | none => true
theorem onlyL_spec {la is : List Nat} {listed : Array Bool} (h : onlyL all la is = true) (hsub : ∀ j, j < all.size → listed.getD j true = true → j ∈ la) (hs : listed.size = all.size) {j : Nat} (hj : j ∈ Region.ready .any all listed) : j ∈ is ∨ j ∈ la := by
  obtain ⟨h1, q, hq, h2⟩ := mem_ready.1 hj
  have hlt : j < all.size := (Array.getElem?_eq_some_iff.1 hq).1
  have h3 := List.all_eq_true.1 h j (List.mem_range.2 hlt)
  simp only [hq, Bool.or_eq_true] at h3
  rcases h3 with (h3 | h3) | h3
  · exact .inl (by simpa using h3)
  · exact .inr (by simpa using h3)
  · obtain ⟨n, hn, hb1, hb2⟩ : ∃ (n : Nat), ∃ h : n < q.after.size, Region.binds .any q.after[n] = true ∧ ¬ q.after[n].on ∈ la := by simpa using h3
    have h4 := h2 _ (Array.getElem_mem hn) hb1
    have hlt2 : q.after[n].on < all.size := by
      rcases Nat.lt_or_ge q.after[n].on all.size with h | h
      · exact h
      · rw [Array.getD_eq_getD_getElem?, Array.getElem?_eq_none (by rw [hs]; exact h)] at h4; cases h4
    exact absurd (hsub _ hlt2 (by
      rw [Array.getD_eq_getD_getElem?, Array.getElem?_eq_getElem (by rw [hs]; exact hlt2)] at h4 ⊢
      simpa using h4)) hb2
/-- Several operations may come up, allocs aside: each of them is followed. -/
theorem aMany (is : List Nat) (hre : is.all (fun i => !lv.contains i && match all[i]? with | some q => !isAlloc q && predsV all lv q | none => false) = true := by kernel_rfl) (hne : is.isEmpty = false := by kernel_rfl) (honly : onlyL all (lv ++ lateA all lv) is = true := by kernel_rfl) (hok : lateOk P N all (lateA all lv) T U none = true := by kernel_rfl)
    (h : StepsO P f N m all st H0 lv k T U H E o is) : AnyO P f N m all st H0 lv k T U H E o := by
  intro r hr φ0 I0 w0 φ I w a b cs A listed fuel
  have hspec : ∀ i ∈ is, i ∉ lv ∧ ∃ q, all[i]? = some q ∧ isAlloc q = false ∧ predsV all lv q = true := fun i hi => by
    have h1 := Bool.and_eq_true_iff.1 (List.all_eq_true.1 hre i hi)
    have hnl : i ∉ lv := fun hm => by
      have : lv.contains i = true := by simpa using hm
      rw [this] at h1
      cases h1.1
    refine ⟨hnl, ?_⟩
    cases hq : all[i]? with
    | none => rw [hq] at h1; cases h1.2
    | some q =>
      rw [hq] at h1
      obtain ⟨h2, h3⟩ := Bool.and_eq_true_iff.1 h1.2
      exact ⟨q, rfl, by simpa using h2, h3⟩
  have hunl : ∀ i ∈ is, ∀ {φ : List Plc} {I : Nat → Prop} {w : World} {a : Act} {A : List (Nat × Nat)} {listed : Array Bool}, Mid P all st H0 φ0 I0 w0 lv T U H φ I w a A listed → listed.getD i true = false := fun i hi φ I w a A listed hM => by
    obtain ⟨hilv, q, hq, hna, _⟩ := hspec i hi
    cases hb : listed.getD i true with
    | false => rfl
    | true =>
      rcases (hM.lst i (Array.getElem?_eq_some_iff.1 hq).1).1 hb with h | h
      · exact absurd h hilv
      · obtain ⟨p, hp, hpi⟩ := List.mem_map.1 h
        obtain ⟨q2, _, _, _, _, _, h1, h2, _⟩ := hM.early p hp
        rw [hpi, hq] at h1; cases h1
        rw [hna] at h2; cases h2
  obtain ⟨i0, hi0⟩ : ∃ i, i ∈ is := by cases is with | nil => cases hne | cons i is => exact ⟨i, by simp⟩
  induction fuel generalizing w a A listed with
  | zero =>
    intro Q hM hd hsz hk hf hkd hfu hQp hQ
    have := unl_pos (hunl i0 hi0 hM)
    omega
  | succ fuel ih =>
    intro Q hM hd hsz hk hf hkd hfu hQp hQ
    obtain ⟨hilv, q, hq, hna, hpre⟩ := hspec i0 hi0
    have hready : i0 ∈ Region.ready .any all listed := mem_ready.2 ⟨hunl i0 hi0 hM, q, hq, fun e he hb => by
      have h1 := Array.all_eq_true_iff_forall_mem.1 hpre e he
      rw [hb] at h1
      have h1' := Bool.and_eq_true_iff.1 (by simpa only [Bool.not_true, Bool.false_or] using h1)
      have h2 : e.on ∈ lv := by simpa using h1'.1
      have hlt : e.on < all.size := Nat.le_of_ble_eq_true h1'.2
      have h3 := (hM.lst e.on hlt).2 (.inl h2)
      rw [Array.getD_eq_getD_getElem?, Array.getElem?_eq_getElem (by rw [hM.size]; exact hlt)] at h3 ⊢
      simpa using h3⟩
    refine ⟨fun h0 => (by rw [h0] at hready; cases hready), fun j hj => ?_⟩
    have hjun := (mem_ready.1 hj).1
    rcases onlyL_spec honly (listed_sub hM) hM.size hj with hjis | hjl
    · exact h.mem j hjis r hr φ0 I0 w0 φ I w a b cs A listed fuel Q hM hd hsz hk hf hkd hfu hjun hQp hQ
    · rw [List.mem_append] at hjl
      rcases hjl with hjl | hjl
      · have hjlt : j < all.size := by obtain ⟨_, q', hq', _⟩ := mem_ready.1 hj; exact (Array.getElem?_eq_some_iff.1 hq').1
        have := (hM.lst j hjlt).2 (.inl hjl)
        rw [this] at hjun; cases hjun
      · refine late_step hM hsz hok hjl hjun fun a' w' A' hM' hd' hsz' => ⟨hM'.ss, ih w' a' A' _ Q hM' (by rw [hd']; exact hd) (by rw [hsz']; exact hsz) hk hf hkd (by have := unl_set hjun; omega) hQp hQ⟩

/-- An alloc is told of. -/
theorem aAlloc {i : Nat} {q : Oper} {e : TypeId} {d : Tmp} {z : Value} {sz bytes : Nat} {cells : List V} (hi : all[i]? = some q) (hun : lv.contains i = false := by kernel_rfl) (hia : isAlloc q = true := by kernel_rfl) (hop : q.op = .alloc e) (hd : q.dst = some d) (honly : onlyV all (lv ++ (lateA all lv).filter (fun j => !Nat.beq j i)) i = true := by kernel_rfl)
    (hok : lateOk P N all (lateA all lv) T U none = true := by kernel_rfl) (hty : TyI P e z sz bytes) (hc : z.cells.toList.map cv1 = cells := by kernel_rfl) (hone : cells.all V.one = true := by kernel_rfl) (h : AnyO P f N m all st H0 (i :: lv) k ((d, .ptr H.length 0) :: T) ((d, .undef) :: U) (H ++ [.box cells]) E o) : AnyO P f N m all st H0 lv k T U H E o := by
  intro r hr φ0 I0 w0 φ I w a b cs A listed fuel
  have hilt : i < all.size := (Array.getElem?_eq_some_iff.1 hi).1
  have hilv : i ∉ lv := fun hm => by have : lv.contains i = true := by simpa using hm
                                     rw [this] at hun; cases hun
  have hila : i ∈ lateA all lv := late_mk hilv hi hia
  -- it has been carried out already
  have adopt : ∀ (w : World) (a : Act) (A : List (Nat × Nat)) (listed : Array Bool) (fuel : Nat) (Q : Exit → Act → World → Prop), Mid P all st H0 φ0 I0 w0 lv T U H φ I w a A listed → i ∈ A.map (·.1) → a.defers = [] → a.tmps.size = N → (∀ x ∈ k, x.ok) → b.fn = f → b.kind = .normal → unl listed ≤ fuel →
      (∀ c a w, ¬ Q (.panic c) a w) → (∀ a' w', Fin_ P f m k (E r).1 (E r).2 b cs φ0 I0 w0 a' w' → Q .normal a' w') → wpL P all Q (SL st φ0 I0 w0) fuel listed a w := by
    intro w a A listed fuel Q hM hiA hdf hsz hk hf hkd hfu hQp hQ
    obtain ⟨p, hp, hpi⟩ := List.mem_map.1 hiA
    obtain ⟨q', e', z', sz', bytes', d', h1, h2, h3, h4, h5, h6, h7, h8, h9, h10⟩ := hM.early p hp
    rw [hpi, hi] at h1
    cases h1
    rw [hop] at h3
    cases h3
    rw [hd] at h4
    cases h4
    have hz : z' = z := by
      obtain ⟨i1, j1, j2, _⟩ := h5.get
      obtain ⟨i2, j3, j4, _⟩ := hty.get
      rw [j1] at j3; cases j3
      rw [j2] at j4; exact Option.some.inj j4
    subst hz
    subst hc
    have hlt : p.2 < w.heap.size := (Array.getElem?_eq_some_iff.1 h7).1
    let φ' := φ ++ [Plc.box p.2 (z'.cells.toList.map cv1).length]
    have hle : LE φ φ' := LE.append φ _
    have hbr : BR φ' I w (.box (z'.cells.toList.map cv1)) (.box p.2 (z'.cells.toList.map cv1).length) :=
      .box _ p.2 z'.cells e h7 (by simp) (fun j v hv => List.all_eq_true.1 hone v (List.mem_of_getElem? hv)) (fun j v c hv hcj => (AllR.zero φ' I w z').2 j v c hv hcj) h8
    have hcase : ∀ (b' : Nat) (l : Plc), φ'[b']? = some l → φ[b']? = some l ∨ (b' = φ.length ∧ l = .box p.2 (z'.cells.toList.map cv1).length) := fun b' l hl => by
      rcases Nat.lt_or_ge b' φ.length with hlt | hge
      · simp only [φ'] at hl; rw [List.getElem?_append_left hlt] at hl; exact .inl hl
      · have : b' = φ.length := by have := (List.getElem?_eq_some_iff.1 hl).1; simp [φ'] at this; omega
        subst this
        simp [φ'] at hl
        exact .inr ⟨rfl, by rw [← hl]; simp⟩
    have hRel : Rel (H ++ [.box (z'.cells.toList.map cv1)]) φ' I w := by
      refine ⟨by simp [φ', hM.rel.len], fun b' k' l hk' hl => ?_, fun b1 b2 l1 l2 g hl1 hl2 hg1 hg2 => ?_, hM.rel.imm⟩
      · rcases hcase b' l hl with hl0 | ⟨rfl, rfl⟩
        · rw [List.getElem?_append_left (by rw [← hM.rel.len]; exact (List.getElem?_eq_some_iff.1 hl0).1)] at hk'
          exact (hM.rel.blk b' k' l hk' hl0).mono hle (fun _ h => h) (fun _ _ => rfl) (fun _ _ => ⟨rfl, fun h => h⟩)
        · rw [List.getElem?_append_right (by rw [hM.rel.len]; exact Nat.le_refl _)] at hk'
          simp [hM.rel.len] at hk'
          subst hk'
          simpa using hbr
      · rcases hcase b1 l1 hl1 with h1' | ⟨rfl, rfl⟩
        · rcases hcase b2 l2 hl2 with h2' | ⟨rfl, rfl⟩
          · exact hM.rel.inj b1 b2 l1 l2 g h1' h2' hg1 hg2
          · cases hg2; exact absurd hg1 (h9 b1 l1 h1')
        · rcases hcase b2 l2 hl2 with h2' | ⟨rfl, rfl⟩
          · cases hg1; exact absurd hg2 (h9 b2 l2 h2')
          · rfl
    have htm : ∀ m, TurnM m φ0 I0 w0 φ' I w := fun m => by
      have t := hM.tm m
      refine ⟨t.os, t.tape, t.output, t.drawn, t.size, t.frame, t.same, t.sub, fun b' hb' l hl => ?_, fun b' l g hl hg => ?_, t.immNew⟩
      · obtain ⟨l1, h1', h2'⟩ := t.le b' hb' l hl
        obtain ⟨l2, h3', h4'⟩ := hle b' l1 h1'
        exact ⟨l2, h3', h2'.trans h4'⟩
      · rcases hcase b' l hl with h1' | ⟨_, rfl⟩
        · exact t.fresh b' l g h1' hg
        · cases hg; exact .inl h10
    have hmid : Mid P all st H0 φ0 I0 w0 (i :: lv) ((d, .ptr H.length 0) :: T) ((d, .undef) :: U) (H ++ [.box (z'.cells.toList.map cv1)]) φ' I w a (A.filter fun x => !Nat.beq x.1 i) listed := by
      refine ⟨hM.rel0, hRel, fun t => ?_, fun t => ?_, hM.le.trans hle, htm, fun p' hp' hr' l hl => ?_, hM.size, fun j hj => ?_, fun x hx => ?_, fun x hx => ?_, ?_, ?_⟩
      · simp only [get]
        cases hb : Nat.beq t d with
        | true =>
          have := Nat.eq_of_beq_eq_true hb
          subst this
          simp only [cond_true]
          rw [h6]
          refine .ptr _ _ _ (z'.cells.toList.map cv1).length ?_
          simp only [φ']
          rw [← hM.rel.len, List.getElem?_append_right (Nat.le_refl _)]
          simp
        | false => exact (hM.tr t).mono hle (fun _ h => h) (fun _ _ => rfl)
      · simp only [get]
        cases hb : Nat.beq t d with
        | true => exact .undef _
        | false => exact hM.tu t
      · obtain ⟨h1', h2'⟩ := hM.stk p' hp' hr' l hl
        refine ⟨?_, h2'⟩
        simp only [φ']
        rw [List.getElem?_append_left (List.getElem?_eq_some_iff.1 h1').1]
        exact h1'
      · rw [hM.lst j hj]
        simp only [List.mem_cons, List.mem_map, List.mem_filter]
        constructor
        · rintro (h | ⟨x, hx, rfl⟩)
          · exact .inl (.inr h)
          · by_cases he : x.1 = i
            · exact .inl (.inl he)
            · refine .inr ⟨x, ⟨hx, ?_⟩, rfl⟩
              cases hb : Nat.beq x.1 i with
              | true => exact absurd (Nat.eq_of_beq_eq_true hb) he
              | false => rfl
        · rintro ((rfl | h) | ⟨x, ⟨hx, _⟩, rfl⟩)
          · exact .inr ⟨p, hp, hpi⟩
          · exact .inl h
          · exact .inr ⟨x, hx, rfl⟩
      · obtain ⟨hx1, hx2⟩ := List.mem_filter.1 hx
        obtain ⟨q2, e2, z2, s2, b2, d2, g1, g2, g3, g4, g5, g6, g7, g8, g9, g10⟩ := hM.early x hx1
        refine ⟨q2, e2, z2, s2, b2, d2, g1, g2, g3, g4, g5, g6, g7, g8, fun b' l hl hg => ?_, g10⟩
        rcases hcase b' l hl with h1' | ⟨_, rfl⟩
        · exact g9 b' l h1' hg
        · have hpx : p.2 = x.2 := (id hg : p.snd = x.snd)
          have : x = p := by
            obtain ⟨n1, hn1, e1⟩ := List.getElem_of_mem hx1
            obtain ⟨n2, hn2, e2'⟩ := List.getElem_of_mem hp
            have hnd := hM.dist
            have hne : n1 = n2 := by
              rcases Nat.lt_trichotomy n1 n2 with h | h | h
              · exact absurd (by rw [List.getElem_map, List.getElem_map, e1, e2', hpx]) (List.pairwise_iff_getElem.1 hnd n1 n2 (by simpa using hn1) (by simpa using hn2) h)
              · exact h
              · exact absurd (by rw [List.getElem_map, List.getElem_map, e1, e2', hpx]) (List.pairwise_iff_getElem.1 hnd n2 n1 (by simpa using hn2) (by simpa using hn1) h)
            subst hne
            rw [← e1, ← e2']
          subst this
          rw [hpi] at hx2
          simp at hx2
      · obtain ⟨hx1, hx2⟩ := List.mem_filter.1 hx
        simp only [List.mem_cons, not_or]
        refine ⟨fun e => ?_, hM.out x hx1⟩
        rw [e] at hx2
        simp at hx2
      · exact hM.one.sublist (List.Sublist.map _ List.filter_sublist)
      · exact hM.dist.sublist (List.Sublist.map _ List.filter_sublist)
    exact h r hr φ0 I0 w0 φ' I w a b cs _ listed fuel Q hmid hdf hsz hk hf hkd hfu hQp hQ
  induction fuel generalizing w a A listed with
  | zero =>
    intro Q hM hdf hsz hk hf hkd hfu hQp hQ
    refine adopt w a A listed 0 Q hM ?_ hdf hsz hk hf hkd hfu hQp hQ
    have : listed.getD i true = true := by
      cases hb : listed.getD i true with
      | true => rfl
      | false => have := unl_pos hb; omega
    exact ((hM.lst i hilt).1 this).resolve_left hilv
  | succ fuel ih =>
    intro Q hM hdf hsz hk hf hkd hfu hQp hQ
    by_cases hiA : i ∈ A.map (·.1)
    · exact adopt w a A listed (fuel + 1) Q hM hiA hdf hsz hk hf hkd hfu hQp hQ
    · have hunl : listed.getD i true = false := by
        cases hb : listed.getD i true with
        | true => exact absurd (((hM.lst i hilt).1 hb).resolve_left hilv) hiA
        | false => rfl
      obtain ⟨_, _, _, _, _, haf⟩ := isAlloc_spec hia
      have hready : i ∈ Region.ready .any all listed := mem_ready.2 ⟨hunl, q, hi, fun e he => by rw [haf] at he; simp at he⟩
      refine ⟨fun h0 => (by rw [h0] at hready; cases hready), fun j hj => ?_⟩
      have hjun := (mem_ready.1 hj).1
      have hjl : j ∈ lateA all lv := by
        have hsub2 : ∀ j, j < all.size → listed.getD j true = true → j ∈ lv ++ (lateA all lv).filter (fun j => !Nat.beq j i) := fun j hj hlj => by
          have h1 := listed_sub hM j hj hlj
          rw [List.mem_append] at h1 ⊢
          rcases h1 with h1 | h1
          · exact .inl h1
          · refine .inr (List.mem_filter.2 ⟨h1, ?_⟩)
            cases hb : Nat.beq j i with
            | true =>
              have := Nat.eq_of_beq_eq_true hb
              subst this
              rw [hunl] at hlj; cases hlj
            | false => rfl
        rcases onlyV_spec honly hsub2 hM.size hj with rfl | hjl
        · exact hila
        · rw [List.mem_append] at hjl
          rcases hjl with hjl | hjl
          · have hjlt : j < all.size := by obtain ⟨_, q', hq', _⟩ := mem_ready.1 hj; exact (Array.getElem?_eq_some_iff.1 hq').1
            have := (hM.lst j hjlt).2 (.inl hjl)
            rw [this] at hjun; cases hjun
          · exact (List.mem_filter.1 hjl).1
      exact late_step hM hsz hok hjl hjun fun a' w' A' hM' hd' hsz' => ⟨hM'.ss, ih w' a' A' _ Q hM' (by rw [hd']; exact hdf) (by rw [hsz']; exact hsz) hk hf hkd (by have := unl_set hjun; omega) hQp hQ⟩
end
end Go.VM
namespace Go.VM

def uc {α β γ : Type} (f : α → β → γ) : α × β → γ
  | (a, b) => f a b
def u0 {γ : Type} (c : γ) (_ : Unit) : γ := c
def blet {α X : Type} (a : α) (B : α → Option X) : Option X := B a
def gloop {S X : Type} (body : (S → Option X) → S → Option X) : Nat → S → Option X
  | 0, _ => none
  | n + 1, s => body (gloop body n) s

theorem bind_split {X R : Type} {b : Bool} {o1 o2 : Option X} {A : X → Option R} : (bif b then o1 else o2).bind A = bif b then o1.bind A else o2.bind A := by cases b <;> rfl
theorem bind_idx {α X R : Type} {xs : List α} {i : Int} {B : α → Option X} {A : X → Option R} : (gidx xs i B).bind A = gidx xs i fun e => (B e).bind A := by
  unfold gidx
  cases decide (0 ≤ i) with
  | false => rfl
  | true => cases xs[i.toNat]? <;> rfl
theorem bind_nz {X R : Type} {y : Int} {o : Option X} {A : X → Option R} : (gnz y o).bind A = gnz y (o.bind A) := by unfold gnz; cases y == 0 <;> rfl
theorem bind_nn {X R : Type} {y : Int} {o : Option X} {A : X → Option R} : (gnn y o).bind A = gnn y (o.bind A) := by unfold gnn; cases decide (0 ≤ y) <;> rfl
theorem bind_cap {X R : Type} {n b : Nat} {o : Option X} {A : X → Option R} : (gcap n b o).bind A = gcap n b (o.bind A) := by unfold gcap; cases decide (n * b ≤ 140737488355328) <;> rfl
theorem bind_make {X R : Type} {n : Int} {b : Nat} {o : Option X} {A : X → Option R} : (gmake n b o).bind A = gmake n b (o.bind A) := by unfold gmake; cases (decide (0 ≤ n) && decide (n.toNat * b ≤ 140737488355328)) <;> rfl
theorem bind_cut {X R : Type} {lo hi len : Int} {o : Option X} {A : X → Option R} : (gcut lo hi len o).bind A = gcut lo hi len (o.bind A) := by unfold gcut; cases (decide (0 ≤ lo) && (decide (lo ≤ hi) && decide (hi ≤ len))) <;> rfl
theorem bind_bind {X Y R : Type} {o : Option X} {B : X → Option Y} {A : Y → Option R} : (o.bind B).bind A = o.bind fun x => (B x).bind A := by cases o <;> rfl

section
variable {R X Y : Type} {E : R → V × List Blk} {A : X → Option R} {P : Program} {f : FuncId} {N m : Nat} {T : Tm} {H : List Blk} {k todo : List VI}

theorem bStart {o : Option R} (h : GoesO P f N m todo T H E (o.bind some)) : GoesO P f N m todo T H E o := by
  have : o.bind some = o := by cases o <;> rfl
  rw [this] at h; exact h
theorem GoesO.eq {o o' : Option R} (e : o = o') (h : GoesO P f N m todo T H E o') : GoesO P f N m todo T H E o := by subst e; exact h
theorem bSplit {o1 o2 : Option X} (t : Nat) {b : Bool} (ht : get T t = .d (.bool b) := by kernel_rfl) (h1 : b = true → GoesO P f N m todo ((t, .d (.bool true)) :: T) H E (o1.bind A)) (h2 : b = false → GoesO P f N m todo ((t, .d (.bool false)) :: T) H E (o2.bind A)) :
    GoesO P f N m todo T H E ((bif b then o1 else o2).bind A) := (oSplit t ht h1 h2).eq bind_split
/-- Both ways go on as one. -/
theorem bPick {B : Bool → Option X} (t : Nat) {b : Bool} (v : Bool → Bool) (ht : get T t = .d (.bool b)) (h1 : b = true → GoesO P f N m todo ((t, .d (.bool true)) :: T) H E ((B (v true)).bind A)) (h2 : b = false → GoesO P f N m todo ((t, .d (.bool false)) :: T) H E ((B (v false)).bind A)) :
    GoesO P f N m todo T H E ((blet (v b) B).bind A) := fun r hr => gSplit t ht (fun hb => by subst hb; exact h1 rfl r hr) (fun hb => by subst hb; exact h2 rfl r hr)
theorem bNone : GoesO P f N m todo T H E ((none : Option X).bind A) := fun r hr => by cases hr
theorem bIdx {α : Type} {xs : List α} {i : Int} {B : α → Option X} (h : ∀ e, 0 ≤ i → xs[i.toNat]? = some e → GoesO P f N m todo T H E ((B e).bind A)) : GoesO P f N m todo T H E ((gidx xs i B).bind A) := (oIdx h).eq bind_idx
theorem bNz {y : Int} {o : Option X} (h : y ≠ 0 → GoesO P f N m todo T H E (o.bind A)) : GoesO P f N m todo T H E ((gnz y o).bind A) := (oNz h).eq bind_nz
theorem bNn {y : Int} {o : Option X} (h : 0 ≤ y → GoesO P f N m todo T H E (o.bind A)) : GoesO P f N m todo T H E ((gnn y o).bind A) := (oNn h).eq bind_nn
theorem bCap {n b : Nat} {o : Option X} (h : n * b ≤ 140737488355328 → GoesO P f N m todo T H E (o.bind A)) : GoesO P f N m todo T H E ((gcap n b o).bind A) := (oCap h).eq bind_cap
theorem bMake {n : Int} {b : Nat} {o : Option X} (h : 0 ≤ n → n.toNat * b ≤ 140737488355328 → GoesO P f N m todo T H E (o.bind A)) : GoesO P f N m todo T H E ((gmake n b o).bind A) := (oMake h).eq bind_make
theorem bCut {lo hi len : Int} {o : Option X} (h : 0 ≤ lo → lo ≤ hi → hi ≤ len → GoesO P f N m todo T H E (o.bind A)) : GoesO P f N m todo T H E ((gcut lo hi len o).bind A) := (oCut h).eq bind_cut
theorem bLet {α : Type} {B : α → Option X} (a : α) (t : Nat) (u : α → V) {T0 : Tm} (hT : T = (t, u a) :: T0) (h : ∀ x, GoesO P f N m todo ((t, u x) :: T0) H E ((B x).bind A)) : GoesO P f N m todo T H E ((blet a B).bind A) := by subst hT; exact h a

/-- The same, for a way that leaves further. -/
theorem bJoinE {S : Type} {k2 : List VI} {x : VI} {o : Option X} (id : Nat) (he : vexit id k = some k2) (st : S → Tm) (hp : S → List Blk) (inj : S → X) (hj : ∀ s, GoesO P f N m k2 (st s) (hp s) E (A (inj s)))
    (h : (∀ s, GoesO P f N m k2 (st s) (hp s) E (A (inj s))) → GoesO P f N m (x :: k) T H E (o.bind A)) : GoesO P f N m (x :: k) T H E (o.bind A) := h hj
theorem bJoin {S : Type} {x : VI} {o : Option Y} {B : Y → Option X} (st : S → Tm) (hp : S → List Blk) (inj : S → Y) (hj : ∀ s, GoesO P f N m k (st s) (hp s) E ((B (inj s)).bind A))
    (h : (∀ s, GoesO P f N m k (st s) (hp s) E ((B (inj s)).bind A)) → GoesO P f N m (x :: k) T H E (o.bind fun y => (B y).bind A)) : GoesO P f N m (x :: k) T H E ((o.bind B).bind A) := (h hj).eq bind_bind
/-- The same, at an operation of the same region. -/
theorem bMeet {S : Type} {all : Array Oper} {i : Nat} {l l' : List Oper} {o : Option Y} {B : Y → Option X} (n : Nat) (hl : l.drop n = l') (st : S → Tm) (hp : S → List Blk) (inj : S → Y) (hj : ∀ s, GoesO P f N m (.ops all (i + n) l' :: k) (st s) (hp s) E ((B (inj s)).bind A))
    (h : (∀ s, GoesO P f N m (.ops all (i + n) l' :: k) (st s) (hp s) E ((B (inj s)).bind A)) → GoesO P f N m (.ops all i l :: k) T H E (o.bind fun y => (B y).bind A)) : GoesO P f N m (.ops all i l :: k) T H E ((o.bind B).bind A) := (h hj).eq bind_bind
/-- The same, for a truth value alone. -/
theorem bMeetB {all : Array Oper} {i : Nat} {l l' : List Oper} {b : Bool} {B : Bool → Option X} (n : Nat) (hl : l.drop n = l') (st : Bool → Tm) {H' : List Blk} (hj : ∀ s, GoesO P f N m (.ops all (i + n) l' :: k) (st s) H' E ((B s).bind A))
    (h : (∀ s, GoesO P f N m (.ops all (i + n) l' :: k) (st s) H' E ((B s).bind A)) → GoesO P f N m (.ops all i l :: k) T H E ((blet b B).bind A)) : GoesO P f N m (.ops all i l :: k) T H E ((blet b B).bind A) := h hj

theorem bLoop {S : Type} {c : Code} {body : (S → Option X) → S → Option X} (st : S → Tm) (hp : S → List Blk) (step : ∀ again : S → Option X, (∀ s, GoesO P f N m (.code c :: .loop c :: k) (st s) (hp s) E ((again s).bind A)) → ∀ s, GoesO P f N m (.code c :: .loop c :: k) (st s) (hp s) E ((body again s).bind A))
    (n : Nat) : ∀ s, GoesO P f N m (.code c :: .loop c :: k) (st s) (hp s) E ((gloop body n s).bind A) := by
  induction n with
  | zero => exact fun s => bNone
  | succ n ih => exact fun s => step (gloop body n) ih s

theorem bCall {Q : Type} {Ec : Q → V × List Blk} {oc : Option Q} {B : Q → Option X} {all : Array Oper} {i : Nat} {q : Oper} {l : List Oper} {fop : Operand} {args : Array Operand} {tys : Array TypeId} {g : FuncId} {caps : List V} {fn : Func} {c : Code} {vs : List V} {Bc : List Blk}
    (σ : List Nat) (args' : List V) {v : Q → V} {H' : Q → List Blk} (hruns : RunsO P g args' Bc Ec oc)
    (hw : vwanted T all q = some true := by kernel_rfl) (hN : inN N q.dst = true := by kernel_rfl) (ho : q.op = .call ⟨.value fop, args, tys⟩) (hf : ev T fop = .fn g caps := by kernel_rfl) (hfn : P.funcs[g]? = some fn) (hb : fn.body = some c) (hname : (fn.name == "runtime.NumGoroutine") = false := by kernel_rfl)
    (hconv : ConvRs H (args.toList.map (ev T) ++ caps) vs) (hargs : mapVs (nth σ) args' = vs := by kernel_rfl) (hac : closedVs σ.length args' = true := by kernel_rfl) (hσ : σ.all (fun b => Nat.blt b H.length) = true := by kernel_rfl) (hnd : σ.Nodup)
    (hBc : σ.map (fun b => H[b]?) = Bc.map (fun k => some (mapB (nth σ) k)) := by kernel_rfl) (hcl : Bc.all (closedB σ.length) = true := by kernel_rfl) (hBl : ∀ r, Nat.ble σ.length (Ec r).2.length = true)
    (hv : ∀ r, mapV (backN σ H.length) (Ec r).1 = v r) (hH' : ∀ r, putL σ ((Ec r).2.map (mapB (backN σ H.length))) H ++ ((Ec r).2.drop σ.length).map (mapB (backN σ H.length)) = H' r)
    (h : ∀ r, GoesO P f N m (.ops all (i + 1) l :: k) (tput T q.dst (v r)) (H' r) E ((B r).bind A)) : GoesO P f N m (.ops all i (q :: l) :: k) T H E ((oc.bind B).bind A) :=
  (oCall σ args' hruns hw hN ho hf hfn hb hname hconv hargs hac hσ hnd hBc hcl hBl hv hH' h).eq bind_bind
end

section
variable {R X Y : Type} {E : R → V × List Blk} {A : X → Option R} {P : Program} {f : FuncId} {N m : Nat} {T U : Tm} {H H0 : List Blk} {k : List VI} {all : Array Oper} {st : List (Nat × Nat)} {lv : List Nat}
theorem AnyO.eq {o o' : Option R} (e : o = o') (h : AnyO P f N m all st H0 lv k T U H E o') : AnyO P f N m all st H0 lv k T U H E o := by subst e; exact h
theorem dSplit {o1 o2 : Option X} (t : Nat) {b : Bool} (ht : get T t = .d (.bool b) := by kernel_rfl) (hu : get U t = .d (.bool b) := by kernel_rfl) (h1 : b = true → AnyO P f N m all st H0 lv k ((t, .d (.bool true)) :: T) ((t, .d (.bool true)) :: U) H E (o1.bind A))
    (h2 : b = false → AnyO P f N m all st H0 lv k ((t, .d (.bool false)) :: T) ((t, .d (.bool false)) :: U) H E (o2.bind A)) : AnyO P f N m all st H0 lv k T U H E ((bif b then o1 else o2).bind A) := (aSplit t ht hu h1 h2).eq bind_split
theorem dPick {B : Bool → Option X} (t : Nat) {b : Bool} (v : Bool → Bool) (ht : get T t = .d (.bool b)) (hu : get U t = .d (.bool b)) (h1 : b = true → AnyO P f N m all st H0 lv k ((t, .d (.bool true)) :: T) ((t, .d (.bool true)) :: U) H E ((B (v true)).bind A))
    (h2 : b = false → AnyO P f N m all st H0 lv k ((t, .d (.bool false)) :: T) ((t, .d (.bool false)) :: U) H E ((B (v false)).bind A)) : AnyO P f N m all st H0 lv k T U H E ((blet (v b) B).bind A) := by
  have : (blet (v b) B).bind A = bif b then (B (v true)).bind A else (B (v false)).bind A := by cases b <;> rfl
  rw [this]
  exact aSplit t ht hu h1 h2
theorem dIdx {α : Type} {xs : List α} {i : Int} {B : α → Option X} (h : ∀ e, 0 ≤ i → xs[i.toNat]? = some e → AnyO P f N m all st H0 lv k T U H E ((B e).bind A)) : AnyO P f N m all st H0 lv k T U H E ((gidx xs i B).bind A) := (aIdx h).eq bind_idx
theorem dNz {y : Int} {o : Option X} (h : y ≠ 0 → AnyO P f N m all st H0 lv k T U H E (o.bind A)) : AnyO P f N m all st H0 lv k T U H E ((gnz y o).bind A) := (aNz h).eq bind_nz
theorem dNn {y : Int} {o : Option X} (h : 0 ≤ y → AnyO P f N m all st H0 lv k T U H E (o.bind A)) : AnyO P f N m all st H0 lv k T U H E ((gnn y o).bind A) := (aNn h).eq bind_nn
theorem dCap {n b : Nat} {o : Option X} (h : n * b ≤ 140737488355328 → AnyO P f N m all st H0 lv k T U H E (o.bind A)) : AnyO P f N m all st H0 lv k T U H E ((gcap n b o).bind A) := (aCap h).eq bind_cap
theorem dMake {n : Int} {b : Nat} {o : Option X} (h : 0 ≤ n → n.toNat * b ≤ 140737488355328 → AnyO P f N m all st H0 lv k T U H E (o.bind A)) : AnyO P f N m all st H0 lv k T U H E ((gmake n b o).bind A) := (aMake h).eq bind_make
theorem dCut {lo hi len : Int} {o : Option X} (h : 0 ≤ lo → lo ≤ hi → hi ≤ len → AnyO P f N m all st H0 lv k T U H E (o.bind A)) : AnyO P f N m all st H0 lv k T U H E ((gcut lo hi len o).bind A) := (aCut h).eq bind_cut
theorem dMeet {S : Type} {o : Option Y} {B : Y → Option X} (lv' : List Nat) (sT sU : S → Tm) (hp : S → List Blk) (inj : S → Y) (hj : ∀ s, AnyO P f N m all st H0 lv' k (sT s) (sU s) (hp s) E ((B (inj s)).bind A))
    (h : (∀ s, AnyO P f N m all st H0 lv' k (sT s) (sU s) (hp s) E ((B (inj s)).bind A)) → AnyO P f N m all st H0 lv k T U H E (o.bind fun y => (B y).bind A)) : AnyO P f N m all st H0 lv k T U H E ((o.bind B).bind A) := (h hj).eq bind_bind
theorem dMeetB {b : Bool} {B : Bool → Option X} (lv' : List Nat) (sT sU : Bool → Tm) {H' : List Blk} (hj : ∀ s, AnyO P f N m all st H0 lv' k (sT s) (sU s) H' E ((B s).bind A))
    (h : (∀ s, AnyO P f N m all st H0 lv' k (sT s) (sU s) H' E ((B s).bind A)) → AnyO P f N m all st H0 lv k T U H E ((blet b B).bind A)) : AnyO P f N m all st H0 lv k T U H E ((blet b B).bind A) := h hj

theorem TR.keep {φ : List Plc} {I : Nat → Prop} {w : World} {a : Act} (h : TR φ I w T a) (ks : List Nat) : TR φ I w (keepT ks T) a := fun t => by
  rcases get_keep ks T t with e | e
  · rw [e]; exact h t
  · rw [e]; exact .undef _
theorem dView {o : Option R} {T' U' : Tm} {H' : List Blk} (hT : T = T') (hU : U = U') (hH : H = H' := by kernel_rfl) (h : AnyO P f N m all st H0 lv k T' U' H' E o) : AnyO P f N m all st H0 lv k T U H E o := by subst hT; subst hU; subst hH; exact h
theorem dDrop {o : Option R} (kt ku : List Nat) {T' U' : Tm} (hT : keepT kt T = T' := by kernel_rfl) (hU : keepT ku U = U' := by kernel_rfl) (h : AnyO P f N m all st H0 lv k T' U' H E o) : AnyO P f N m all st H0 lv k T U H E o := by
  subst hT; subst hU
  intro r hr φ0 I0 w0 φ I w a b cs A listed fuel Q hM
  exact h r hr φ0 I0 w0 φ I w a b cs A listed fuel Q ⟨hM.rel0, hM.rel, hM.tr.keep kt, hM.tu.keep ku, hM.le, hM.tm, hM.stk, hM.size, hM.lst, hM.early, hM.out, hM.one, hM.dist⟩
theorem dCall {Q : Type} {Ec : Q → V × List Blk} {oc : Option Q} {B : Q → Option X} {i : Nat} {q : Oper} {fop : Operand} {args : Array Operand} {tys : Array TypeId} {g : FuncId} {caps : List V} {fn : Func} {c : Code} {vs : List V} {Bc : List Blk}
    (σ : List Nat) (args' : List V) {v : Q → V} {H' : Q → List Blk} (hruns : RunsO P g args' Bc Ec oc)
    (hi : all[i]? = some q) (hun : lv.contains i = false := by kernel_rfl) (hna : isAlloc q = false := by kernel_rfl) (hpre : predsV all lv q = true := by kernel_rfl) (honly : onlyV all (lv ++ lateA all lv) i = true := by kernel_rfl) (hok : lateOk P N all (lateA all lv) T U q.dst = true := by kernel_rfl) (hst : writesV all st lv i σ = true := by kernel_rfl)
    (hw : vwanted T all q = some true := by kernel_rfl) (hN : inN N q.dst = true := by kernel_rfl) (ho : q.op = .call ⟨.value fop, args, tys⟩) (hf : ev T fop = .fn g caps := by kernel_rfl) (hfn : P.funcs[g]? = some fn) (hb : fn.body = some c) (hname : (fn.name == "runtime.NumGoroutine") = false := by kernel_rfl)
    (hconv : ConvRs H (args.toList.map (ev T) ++ caps) vs) (hargs : mapVs (nth σ) args' = vs := by kernel_rfl) (hac : closedVs σ.length args' = true := by kernel_rfl) (hσ : σ.all (fun b => Nat.blt b H.length) = true := by kernel_rfl) (hnd : σ.Nodup)
    (hBc : σ.map (fun b => H[b]?) = Bc.map (fun k => some (mapB (nth σ) k)) := by kernel_rfl) (hcl : Bc.all (closedB σ.length) = true := by kernel_rfl) (hBl : ∀ r, Nat.ble σ.length (Ec r).2.length = true)
    (hv : ∀ r, mapV (backN σ H.length) (Ec r).1 = v r) (hH' : ∀ r, putL σ ((Ec r).2.map (mapB (backN σ H.length))) H ++ ((Ec r).2.drop σ.length).map (mapB (backN σ H.length)) = H' r)
    (h : ∀ r, AnyO P f N m all st H0 (i :: lv) k (tput T q.dst (v r)) (tput U q.dst (scal (v r))) (H' r) E ((B r).bind A)) : AnyO P f N m all st H0 lv k T U H E ((oc.bind B).bind A) := by
  refine AnyO.eq bind_bind ?_
  intro r hr
  cases hoc : oc with
  | none => rw [hoc] at hr; cases hr
  | some rc =>
    rw [hoc] at hr
    exact aOne hi hun hna hpre honly hok hw hN (acts_call ho hf hfn hb hname hconv hargs hac hσ hnd hBc hcl (hruns rc hoc) (hBl rc) (hv rc) (hH' rc)) hst (h rc) r hr
theorem sCall {Q : Type} {Ec : Q → V × List Blk} {oc : Option Q} {B : Q → Option X} {i : Nat} {q : Oper} {fop : Operand} {args : Array Operand} {tys : Array TypeId} {g : FuncId} {caps : List V} {fn : Func} {c : Code} {vs : List V} {Bc : List Blk}
    (σ : List Nat) (args' : List V) {v : Q → V} {H' : Q → List Blk} (hruns : RunsO P g args' Bc Ec oc)
    (hi : all[i]? = some q) (hun : lv.contains i = false := by kernel_rfl) (hna : isAlloc q = false := by kernel_rfl) (hok : lateOk P N all (lateA all lv) T U q.dst = true := by kernel_rfl) (hst : writesV all st lv i σ = true := by kernel_rfl)
    (hw : vwanted T all q = some true := by kernel_rfl) (hN : inN N q.dst = true := by kernel_rfl) (ho : q.op = .call ⟨.value fop, args, tys⟩) (hf : ev T fop = .fn g caps := by kernel_rfl) (hfn : P.funcs[g]? = some fn) (hb : fn.body = some c) (hname : (fn.name == "runtime.NumGoroutine") = false := by kernel_rfl)
    (hconv : ConvRs H (args.toList.map (ev T) ++ caps) vs) (hargs : mapVs (nth σ) args' = vs := by kernel_rfl) (hac : closedVs σ.length args' = true := by kernel_rfl) (hσ : σ.all (fun b => Nat.blt b H.length) = true := by kernel_rfl) (hnd : σ.Nodup)
    (hBc : σ.map (fun b => H[b]?) = Bc.map (fun k => some (mapB (nth σ) k)) := by kernel_rfl) (hcl : Bc.all (closedB σ.length) = true := by kernel_rfl) (hBl : ∀ r, Nat.ble σ.length (Ec r).2.length = true)
    (hv : ∀ r, mapV (backN σ H.length) (Ec r).1 = v r) (hH' : ∀ r, putL σ ((Ec r).2.map (mapB (backN σ H.length))) H ++ ((Ec r).2.drop σ.length).map (mapB (backN σ H.length)) = H' r)
    (h : ∀ r, AnyO P f N m all st H0 (i :: lv) k (tput T q.dst (v r)) (tput U q.dst (scal (v r))) (H' r) E ((B r).bind A)) : StepO P f N m all st H0 lv k T U H E ((oc.bind B).bind A) i := by
  intro r hr
  rw [bind_bind] at hr
  cases hoc : oc with
  | none => rw [hoc] at hr; cases hr
  | some rc =>
    rw [hoc] at hr
    exact sOne hi hun hna hok hw hN (acts_call ho hf hfn hb hname hconv hargs hac hσ hnd hBc hcl (hruns rc hoc) (hBl rc) (hv rc) (hH' rc)) hst (h rc) r hr
end
end Go.VM
namespace Go.VM

/-- A loop that comes to an end. -/
theorem gloop_ends {S X : Type} {body : (S → Option X) → S → Option X} (μ : S → Nat) (Inv : S → Prop) (Q : S → X → Prop)
    (step : ∀ (again : S → Option X) (s : S), Inv s → (∀ s', Inv s' → μ s' < μ s → ∃ x, again s' = some x ∧ Q s' x) → ∃ x, body again s = some x ∧ Q s x) :
    ∀ (k : Nat) (s : S), Inv s → μ s < k → ∃ x, gloop body k s = some x ∧ Q s x := by
  intro k
  induction k with
  | zero => intro s _ h; omega
  | succ k ih => exact fun s hs hk => step (gloop body k) s hs fun s' hs' hlt => ih s' hs' (by omega)

theorem wrap64 {x : Int} (h1 : -9223372036854775808 ≤ x) (h2 : x < 9223372036854775808) : IntKind.wrap .i64 x = x := by rw [IntKind.wrap_i64]; omega
theorem gidx_some {α X : Type} {xs : List α} {i : Int} {B : α → Option X} (h0 : 0 ≤ i) (h : i.toNat < xs.length) : gidx xs i B = B xs[i.toNat] := by
  unfold gidx
  simp [h0, h]
theorem gcap_some {X : Type} {n b : Nat} {o : Option X} (h : n * b ≤ 140737488355328) : gcap n b o = o := by unfold gcap; simp [h]
theorem gnz_some {X : Type} {y : Int} {o : Option X} (h : y ≠ 0) : gnz y o = o := by
  unfold gnz
  have : (y == 0) = false := by simpa using h
  rw [this]; rfl
end Go.VM
