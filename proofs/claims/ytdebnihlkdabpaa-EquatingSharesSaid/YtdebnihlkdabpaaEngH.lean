/- Control: from here the function returns this. -/
import Derived.Test.YtdebnihlkdabpaaEngG
namespace Go.VM
set_option linter.unusedVariables false
set_option linter.unusedSimpArgs false

structure TurnM (m : Nat) (φ : List Plc) (I : Nat → Prop) (w : World) (φ' : List Plc) (I' : Nat → Prop) (w' : World) : Prop where
  os : w'.os = w.os
  tape : w'.tape = w.tape
  output : w'.output = w.output
  size : w.heap.size ≤ w'.heap.size
  frame : ∀ g, g < w.heap.size → (∀ (b : Nat) (l : Plc), φ[b]? = some l → l.g? ≠ some g) → w'.heap[g]? = w.heap[g]?
  same : ∀ g, I g → w'.heap[g]? = w.heap[g]?
  sub : ∀ g, I g → I' g
  le : ∀ (b : Nat), b < m → ∀ (l : Plc), φ[b]? = some l → ∃ l' : Plc, φ'[b]? = some l' ∧ PlcLE l l'
  fresh : ∀ (b : Nat) (l : Plc) (g : Nat), φ'[b]? = some l → l.g? = some g → w.heap.size ≤ g ∨ ∃ (b0 : Nat) (l0 : Plc), φ[b0]? = some l0 ∧ l0.g? = some g
  immNew : ∀ g, I' g → I g ∨ w.heap.size ≤ g ∨ ∃ (b : Nat) (l : Plc), φ[b]? = some l ∧ l.g? = some g

theorem Turn.toM {φ φ' : List Plc} {I I' : Nat → Prop} {w w' : World} (h : Turn φ I w φ' I' w') (m : Nat) : TurnM m φ I w φ' I' w' :=
  ⟨h.os, h.tape, h.output, h.size, h.frame, h.same, h.sub, fun b _ l hl => h.le b l hl, fun b l g hb hg => (h.fresh b l g hb hg).imp id fun ⟨l0, h0⟩ => ⟨b, l0, h0⟩, h.immNew⟩

theorem TurnM.trans {m : Nat} {φ φ1 φ2 : List Plc} {I I1 I2 : Nat → Prop} {w w1 w2 : World} (h : TurnM m φ I w φ1 I1 w1) (h' : TurnM m φ1 I1 w1 φ2 I2 w2) : TurnM m φ I w φ2 I2 w2 where
  os := h'.os.trans h.os
  tape := h'.tape.trans h.tape
  output := h'.output.trans h.output
  size := Nat.le_trans h.size h'.size
  frame g hg hno := by
    rw [h'.frame g (Nat.lt_of_lt_of_le hg h.size) fun b l hb hlg => ?_, h.frame g hg hno]
    rcases h.fresh b l g hb hlg with hge | ⟨b0, l0, hl0, hl0g⟩
    · omega
    · exact hno b0 l0 hl0 hl0g
  same g hg := by rw [h'.same g (h.sub g hg), h.same g hg]
  sub g hg := h'.sub g (h.sub g hg)
  le b hb l hl := by
    obtain ⟨l1, h1, hl1⟩ := h.le b hb l hl
    obtain ⟨l2, h2, hl2⟩ := h'.le b hb l1 h1
    exact ⟨l2, h2, hl1.trans hl2⟩
  fresh b l g hb hg := by
    rcases h'.fresh b l g hb hg with hge | ⟨b0, l0, hl0, hl0g⟩
    · exact .inl (Nat.le_trans h.size hge)
    · exact h.fresh b0 l0 g hl0 hl0g
  immNew g hg := by
    rcases h'.immNew g hg with h1 | h1 | ⟨b, l, hb, hl⟩
    · exact h.immNew g h1
    · exact .inr (.inl (Nat.le_trans h.size h1))
    · rcases h.fresh b l g hb hl with hge | ⟨b0, l0, hl0, hl0g⟩
      · exact .inr (.inl hge)
      · exact .inr (.inr ⟨b0, l0, hl0, hl0g⟩)

/-- What is still to be done. -/
inductive VI where
  | code (c : Code)
  | blk (id : Nat)
  | loop (body : Code)
  | ops (all : Array Oper) (i : Nat) (l : List Oper)

def VI.item : VI → Item
  | .code c => .code c
  | .blk id => .inBlock id
  | .loop body => .inLoop body
  | .ops all i l => .inRegion all (List.range' i l.length)
def VI.ok : VI → Prop
  | .ops all i l => all.toList.drop i = l
  | _ => True

def Goes (P : Program) (f : FuncId) (N m : Nat) (todo : List VI) (T : Tm) (H : List Blk) (r : V) (B : List Blk) : Prop :=
  ∀ (φ : List Plc) (I : Nat → Prop) (w : World) (a : Act) (b : Frame) (cs : List Frame), Rel H φ I w → TR φ I w T a → a.defers = [] → a.tmps.size = N → (∀ x ∈ todo, x.ok) → b.fn = f → b.kind = .normal →
    ∃ φ' I' w' c fr, Steps P (lone (b.at a (todo.map VI.item)) cs w) (lone fr cs w') ∧ fr.fn = f ∧ fr.leaving P w' (.returned c) ∧ TurnM m φ I w φ' I' w' ∧ Rel B φ' I' w' ∧ VR φ' I' w' r c

section
variable {P : Program} {f : FuncId} {N m : Nat} {T : Tm} {H : List Blk} {r : V} {B : List Blk} {k : List VI}

theorem Goes.of_step {todo todo2 : List VI} (hok : (∀ x ∈ todo, x.ok) → ∀ x ∈ todo2, x.ok)
    (h : ∀ (φ : List Plc) (I : Nat → Prop) (w : World) (a : Act) (b : Frame) (cs : List Frame), TR φ I w T a → step P (lone (b.at a (todo.map VI.item)) cs w) = .next (lone (b.at a (todo2.map VI.item)) cs w))
    (hg : Goes P f N m todo2 T H r B) : Goes P f N m todo T H r B := fun φ I w a b cs hR hT hd hN hk hf hkd => by
  obtain ⟨φ', I', w', c, fr, hs, h1⟩ := hg φ I w a b cs hR hT hd hN (hok hk) hf hkd
  exact ⟨φ', I', w', c, fr, .head (h φ I w a b cs hT) hs, h1⟩

theorem gSeq {x y : Code} (h : Goes P f N m (.code x :: .code y :: k) T H r B) : Goes P f N m (.code (.seq x y) :: k) T H r B :=
  h.of_step (fun hk z hz => by
    simp only [List.mem_cons] at hz
    rcases hz with rfl | rfl | hz
    · trivial
    · trivial
    · exact hk z (by simp [hz])) (fun _ _ _ _ _ _ _ => step_seq)
theorem gSkip (h : Goes P f N m k T H r B) : Goes P f N m (.code .skip :: k) T H r B :=
  h.of_step (fun hk z hz => hk z (by simp [hz])) (fun _ _ _ _ _ _ _ => step_skip)
theorem gBlock {id : Nat} {c : Code} (h : Goes P f N m (.code c :: .blk id :: k) T H r B) : Goes P f N m (.code (.block id c) :: k) T H r B :=
  h.of_step (fun hk z hz => by
    simp only [List.mem_cons] at hz
    rcases hz with rfl | rfl | hz
    · trivial
    · trivial
    · exact hk z (by simp [hz])) (fun _ _ _ _ _ _ _ => step_block)
theorem gBlk {id : Nat} (h : Goes P f N m k T H r B) : Goes P f N m (.blk id :: k) T H r B :=
  h.of_step (fun hk z hz => hk z (by simp [hz])) (fun _ _ _ _ _ _ _ => step_inBlock)
theorem gLoop {c : Code} (h : Goes P f N m (.code c :: .loop c :: k) T H r B) : Goes P f N m (.code (.loop c) :: k) T H r B :=
  h.of_step (fun hk z hz => by
    simp only [List.mem_cons] at hz
    rcases hz with rfl | rfl | hz
    · trivial
    · trivial
    · exact hk z (by simp [hz])) (fun _ _ _ _ _ _ _ => step_loop)
theorem gAgain {c : Code} (h : Goes P f N m (.code c :: .loop c :: k) T H r B) : Goes P f N m (.loop c :: k) T H r B :=
  h.of_step (fun hk z hz => by
    simp only [List.mem_cons] at hz
    rcases hz with rfl | rfl | hz
    · trivial
    · trivial
    · exact hk z (by simp [hz])) (fun _ _ _ _ _ _ _ => step_inLoop)

def vexit (id : Nat) : List VI → Option (List VI)
  | [] => none
  | .blk id' :: k => bif Nat.beq id' id then some k else vexit id k
  | _ :: k => vexit id k
theorem vexit_exit {id : Nat} : ∀ {k k' : List VI}, vexit id k = some k' → exitTo id (k.map VI.item) = some (k'.map VI.item) ∧ ∀ x ∈ k', x ∈ k
  | [], k', h => by cases h
  | x :: k, k', h => by
    have hrec : vexit id k = some k' → exitTo id (k.map VI.item) = some (k'.map VI.item) ∧ ∀ y ∈ k', y ∈ x :: k := fun h => ⟨(vexit_exit h).1, fun y hy => List.mem_cons_of_mem _ ((vexit_exit h).2 y hy)⟩
    cases x with
    | blk id' =>
      simp only [vexit] at h
      by_cases he : id' = id
      · subst he
        simp at h
        subst h
        simp only [List.map_cons, VI.item, exitTo, beq_self_eq_true, if_true]
        exact ⟨trivial, fun y hy => List.mem_cons_of_mem _ hy⟩
      · have hb : Nat.beq id' id = false := by
          cases hb : Nat.beq id' id with
          | true => exact absurd (Nat.eq_of_beq_eq_true hb) he
          | false => rfl
        rw [hb] at h
        have := hrec h
        simp only [List.map_cons, VI.item, exitTo]
        have he' : (id' == id) = false := by simpa using he
        rw [he']
        simpa using this
    | code c => exact ⟨by simpa [VI.item, exitTo] using (hrec h).1, (hrec h).2⟩
    | loop c => exact ⟨by simpa [VI.item, exitTo] using (hrec h).1, (hrec h).2⟩
    | ops a i l => exact ⟨by simpa [VI.item, exitTo] using (hrec h).1, (hrec h).2⟩

theorem gExit {id : Nat} {k' : List VI} (he : vexit id k = some k') (h : Goes P f N m k' T H r B) : Goes P f N m (.code (.exit id) :: k) T H r B :=
  h.of_step (fun hk z hz => hk z (by simp [(vexit_exit he).2 z hz])) (fun _ _ _ _ _ _ _ => step_exit (vexit_exit he).1)

theorem gCondT {c : Operand} {x y : Code} (hc : ev T c = .d (.bool true)) (h : Goes P f N m (.code x :: k) T H r B) : Goes P f N m (.code (.cond c x y) :: k) T H r B :=
  h.of_step (fun hk z hz => by
    simp only [List.mem_cons] at hz
    rcases hz with rfl | hz
    · trivial
    · exact hk z (by simp [hz])) (fun φ I w a b cs hT => step_cond (t := true) (hc ▸ ev_VR hT c).bool_inv)
theorem gCondF {c : Operand} {x y : Code} (hc : ev T c = .d (.bool false)) (h : Goes P f N m (.code y :: k) T H r B) : Goes P f N m (.code (.cond c x y) :: k) T H r B :=
  h.of_step (fun hk z hz => by
    simp only [List.mem_cons] at hz
    rcases hz with rfl | hz
    · trivial
    · exact hk z (by simp [hz])) (fun φ I w a b cs hT => step_cond (t := false) (hc ▸ ev_VR hT c).bool_inv)

/-- A region that keeps the text's order. -/
theorem gRegion {id : Nat} {all : Array Oper} {l : List Oper} (hl : all.toList = l) (h : Goes P f N m (.ops all 0 l :: k) T H r B) : Goes P f N m (.code (.region id all false) :: k) T H r B :=
  h.of_step (fun hk z hz => by
    simp only [List.mem_cons] at hz
    rcases hz with rfl | hz
    · simpa [VI.ok] using hl
    · exact hk z (by simp [hz])) (fun φ I w a b cs hT => by
      have := step_region (P := P) (b := b) (a := a) (k := k.map VI.item) (cs := cs) (w := w) (id := id) (ops := all)
      rw [List.map_cons, List.map_cons]
      simp only [VI.item]
      rw [this, ← hl, Array.length_toList, List.range_eq_range'])
theorem gEnd {all : Array Oper} {i : Nat} (h : Goes P f N m k T H r B) : Goes P f N m (.ops all i [] :: k) T H r B :=
  h.of_step (fun hk z hz => hk z (by simp [hz])) (fun φ I w a b cs hT => step_region_end)

/-! ### one operation -/
theorem drop_get {α : Type} {l t : List α} {i : Nat} {x : α} (h : l.drop i = x :: t) : l[i]? = some x ∧ l.drop (i + 1) = t := by
  have h1 : (l.drop i)[0]? = some x := by rw [h]; rfl
  rw [List.getElem?_drop] at h1
  refine ⟨by simpa using h1, ?_⟩
  rw [← List.drop_drop, h]
  rfl

theorem step_value {ops : Array Oper} {i : Nat} {rest : List Nat} {o : Oper} {b : Frame} {a : Act} {K : List Item} {cs : List Frame} {w w' : World} {v : Value} (ho : ops[i]? = some o) (hw : Region.wanted o (yielded ops a.tmps) = true)
    (hr : (execOp a.eval o).run P w = .ok (.value v) w' ∨ ((execOp a.eval o).run P w = .ok .skip w' ∧ v = undef)) :
    step P (lone (b.at a (.inRegion ops (i :: rest) :: K)) cs w) = .next (lone (b.at (a.put o.dst v) (.inRegion ops rest :: K)) cs w') := by
  have hg := stepG_op (P := P) (b := b) (k := K) (cs := cs) (w := w) (rest := rest) ho hw
  have hfin : ∀ v, (b.at a (.inRegion ops (i :: rest) :: K)).finish v = b.at (a.put o.dst v) (.inRegion ops rest :: K) := by
    intro v; rw [Frame.finish_at, ho]; rfl
  refine step_lone_go ?_
  rcases hr with hr | ⟨hr, rfl⟩
  · rw [hg, ← hfin]; simp [stepG.apply, hr]
  · rw [hg, ← hfin]; simp [stepG.apply, hr]

/-- Is the operation wanted, as the machine's frame tells? -/
def vyield (T : Tm) (ops : Array Oper) (j : Nat) : Option (Option Bool) :=
  match (ops[j]?).bind (·.dst) with
  | some d => match get T d with
    | .d (.bool b) => some (some b)
    | .tuple _ => some none
    | _ => none
  | none => none
def vwanted (T : Tm) (ops : Array Oper) (o : Oper) : Option Bool :=
  match o.guard with
  | none => some true
  | some (j, want) => (vyield T ops j).map fun y => match y with
    | some b => bif want then b else !b
    | none => false

theorem VR.tuple_val {φ : List Plc} {I : Nat → Prop} {w : World} {vs : List V} {c : Value} (h : VR φ I w (.tuple vs) c) : ∃ cs, c = .tuple cs := by
  cases h
  exact ⟨_, rfl⟩
theorem undef_VR (φ : List Plc) (I : Nat → Prop) (w : World) : VR φ I w (.tuple []) undef := .tuple [] #[] rfl (fun i v c h => by simp at h)

theorem vwanted_wanted {φ : List Plc} {I : Nat → Prop} {w : World} {a : Act} {ops : Array Oper} {o : Oper} {t : Bool} (hT : TR φ I w T a) (h : vwanted T ops o = some t) : Region.wanted o (yielded ops a.tmps) = t := by
  unfold vwanted at h
  unfold Region.wanted
  cases hg : o.guard with
  | none => simp [hg] at h; simpa using h
  | some q =>
    obtain ⟨j, want⟩ := q
    simp only [hg] at h ⊢
    obtain ⟨b, hb, hbt⟩ := Option.map_eq_some_iff.1 h
    have hy : yielded ops a.tmps j = b := by
      unfold vyield at hb
      unfold yielded
      cases hd : (ops[j]?).bind (·.dst) with
      | none => simp [hd] at hb
      | some d =>
        simp only [hd] at hb
        have hv := hT d
        simp only [Option.bind_some]
        split at hb
        case h_3 => cases hb
        case h_1 b' hgt =>
          cases hb
          rw [hgt] at hv
          have := hv.bool_inv
          have hlt : d < a.tmps.size := by
            rcases Nat.lt_or_ge d a.tmps.size with h | h
            · exact h
            · rw [Array.getD_eq_getD_getElem?, Array.getElem?_eq_none h] at this
              cases this
          rw [Array.getD_eq_getD_getElem?, Array.getElem?_eq_getElem hlt] at this
          simp only [Option.getD_some] at this
          rw [Array.getElem?_eq_getElem hlt, this]
        case h_2 vs hgt =>
          cases hb
          rw [hgt] at hv
          obtain ⟨cs, this⟩ := hv.tuple_val
          rcases Nat.lt_or_ge d a.tmps.size with hlt | hge
          · rw [Array.getD_eq_getD_getElem?, Array.getElem?_eq_getElem hlt] at this
            simp only [Option.getD_some] at this
            rw [Array.getElem?_eq_getElem hlt, this]
          · rw [Array.getElem?_eq_none hge]
    rw [hy]
    subst hbt
    cases b with
    | none => rfl
    | some b => cases want <;> cases b <;> rfl

theorem TR.put {φ : List Plc} {I : Nat → Prop} {w : World} {a : Act} {v : V} {c : Value} {d : Nat} (h : TR φ I w T a) (hd : d < a.tmps.size) (hv : VR φ I w v c) : TR φ I w ((d, v) :: T) (a.put (some d) c) := fun t => by
  simp only [get, Act.put]
  by_cases he : t = d
  · subst he
    have hb : Nat.beq t t = true := by simp
    rw [hb, Array.getD_eq_getD_getElem?, Array.getElem?_setIfInBounds, if_pos rfl, if_pos hd]
    exact hv
  · have hb : Nat.beq t d = false := by
      cases hb : Nat.beq t d with
      | true => exact absurd (Nat.eq_of_beq_eq_true hb) he
      | false => rfl
    rw [hb, Array.getD_eq_getD_getElem?, Array.getElem?_setIfInBounds, if_neg (fun e => he e.symm), ← Array.getD_eq_getD_getElem?]
    exact h t

def tput (T : Tm) (dst : Option Tmp) (v : V) : Tm :=
  match dst with
  | some d => (d, v) :: T
  | none => T
def inN (N : Nat) (dst : Option Tmp) : Bool :=
  match dst with
  | some d => Nat.blt d N
  | none => true
theorem TR.tput {φ : List Plc} {I : Nat → Prop} {w : World} {a : Act} {v : V} {c : Value} {dst : Option Tmp} (h : TR φ I w T a) (hN : a.tmps.size = N) (hd : inN N dst = true) (hv : VR φ I w v c) : TR φ I w (tput T dst v) (a.put dst c) := by
  cases dst with
  | none => exact h
  | some d => exact h.put (by rw [hN]; exact Nat.le_of_ble_eq_true hd) hv
theorem put_size {a : Act} {dst : Option Tmp} {c : Value} : (a.put dst c).tmps.size = a.tmps.size := by cases dst <;> simp [Act.put]
theorem put_defers {a : Act} {dst : Option Tmp} {c : Value} : (a.put dst c).defers = a.defers := by cases dst <;> simp [Act.put]

theorem ops_cons {all : Array Oper} {i : Nat} {o : Oper} {l : List Oper} : VI.item (.ops all i (o :: l)) = .inRegion all (i :: List.range' (i + 1) l.length) := by simp [VI.item, List.range'_succ]

theorem gOp {all : Array Oper} {i : Nat} {o : Oper} {l : List Oper} {v : V} {H' : List Blk} {tc : List Nat} (hw : vwanted T all o = some true) (hN : inN N o.dst = true) (hdo : Does P o T H v H' tc) (h : Goes P f N m (.ops all (i + 1) l :: k) (tput T o.dst v) H' r B) :
    Goes P f N m (.ops all i (o :: l) :: k) T H r B := fun φ I w a b cs hR hT hd hsz hk hf hkd => by
  obtain ⟨ho, hl⟩ := drop_get (show all.toList.drop i = o :: l from hk (.ops all i (o :: l)) (by simp))
  have ho' : all[i]? = some o := by simpa using ho
  obtain ⟨φ1, I1, w1, c, hrun, ht, hR1, hv, _⟩ := hdo φ I w a hR hT
  have hstep := step_value (P := P) (b := b) (K := k.map VI.item) (cs := cs) (rest := List.range' (i + 1) l.length) ho' (vwanted_wanted hT hw) hrun
  obtain ⟨φ', I', w', c', fr, hs, h1, h2, h3, h4⟩ := h φ1 I1 w1 (a.put o.dst c) b cs hR1 ((hT.turn ht).tput hsz hN hv) (by rw [put_defers]; exact hd) (by rw [put_size]; exact hsz) (fun x hx => by
    simp only [List.mem_cons] at hx
    rcases hx with rfl | hx
    · exact hl
    · exact hk x (by simp [hx])) hf hkd
  refine ⟨φ', I', w', c', fr, .head ?_ hs, h1, h2, (ht.toM m).trans h3, h4⟩
  rw [List.map_cons, ops_cons]
  exact hstep

/-- An operation that isn't wanted. -/
theorem gNot {all : Array Oper} {i : Nat} {o : Oper} {l : List Oper} (hw : vwanted T all o = some false) (hN : inN N o.dst = true) (h : Goes P f N m (.ops all (i + 1) l :: k) (tput T o.dst (.tuple [])) H r B) :
    Goes P f N m (.ops all i (o :: l) :: k) T H r B := fun φ I w a b cs hR hT hd hsz hk hf hkd => by
  obtain ⟨ho, hl⟩ := drop_get (show all.toList.drop i = o :: l from hk (.ops all i (o :: l)) (by simp))
  have ho' : all[i]? = some o := by simpa using ho
  have hstep := step_op_skip (P := P) (b := b) (a := a) (k := k.map VI.item) (cs := cs) (w := w) (ops := all) (i := i) (rest := List.range' (i + 1) l.length) (by simp [ho', vwanted_wanted hT hw])
  rw [ho'] at hstep
  obtain ⟨φ', I', w', c', fr, hs, h1, h2, h3, h4⟩ := h φ I w (a.put o.dst undef) b cs hR (hT.tput hsz hN (undef_VR _ _ _)) (by rw [put_defers]; exact hd) (by rw [put_size]; exact hsz) (fun x hx => by
    simp only [List.mem_cons] at hx
    rcases hx with rfl | hx
    · exact hl
    · exact hk x (by simp [hx])) hf hkd
  refine ⟨φ', I', w', c', fr, .head ?_ hs, h1, h2, h3, h4⟩
  rw [List.map_cons, ops_cons]
  exact hstep

/-! ### what changes nothing in the program -/
/-- The machine's own view turns; nothing happens. -/
def Ghost (T : Tm) (H : List Blk) (T' : Tm) (H' : List Blk) : Prop :=
  ∀ (φ : List Plc) (I : Nat → Prop) (w : World) (a : Act), Rel H φ I w → TR φ I w T a → ∃ φ' I', Turn φ I w φ' I' w ∧ Rel H' φ' I' w ∧ TR φ' I' w T' a
theorem gGhost {todo : List VI} {T' : Tm} {H' : List Blk} (hg : Ghost T H T' H') (h : Goes P f N m todo T' H' r B) : Goes P f N m todo T H r B := fun φ I w a b cs hR hT hd hsz hk hf hkd => by
  obtain ⟨φ1, I1, ht, hR1, hT1⟩ := hg φ I w a hR hT
  obtain ⟨φ', I', w', c', fr, hs, h1, h2, h3, h4⟩ := h φ1 I1 w a b cs hR1 hT1 hd hsz hk hf hkd
  exact ⟨φ', I', w', c', fr, hs, h1, h2, (ht.toM m).trans h3, h4⟩

/-- Only these temporaries are needed any more. -/
def keepT (ks : List Nat) (T : Tm) : Tm := ks.map fun t => (t, get T t)
theorem get_keep : ∀ (ks : List Nat) (T : Tm) (t : Nat), get (keepT ks T) t = get T t ∨ get (keepT ks T) t = .undef
  | [], T, t => .inr rfl
  | k :: ks, T, t => by
    simp only [keepT, List.map_cons, get]
    cases hb : Nat.beq t k with
    | true =>
      have := Nat.eq_of_beq_eq_true hb
      subst this
      exact .inl rfl
    | false => exact get_keep ks T t
theorem gKeep {todo : List VI} (ks : List Nat) {T' : Tm} (hT' : keepT ks T = T') (h : Goes P f N m todo T' H r B) : Goes P f N m todo T H r B := by
  subst hT'
  refine gGhost (fun φ I w a hR hT => ⟨φ, I, Turn.refl φ I w, hR, fun t => ?_⟩) h
  rcases get_keep ks T t with h | h
  · rw [h]; exact hT t
  · rw [h]; exact .undef _

/-- A Bool that is held is looked at. -/
theorem gSplit {todo : List VI} (t : Nat) {b : Bool} (ht : get T t = .d (.bool b)) (h1 : b = true → Goes P f N m todo ((t, .d (.bool true)) :: T) H r B) (h2 : b = false → Goes P f N m todo ((t, .d (.bool false)) :: T) H r B) :
    Goes P f N m todo T H r B := by
  have key : ∀ b', get T t = .d (.bool b') → Goes P f N m todo ((t, .d (.bool b')) :: T) H r B → Goes P f N m todo T H r B := fun b' hb' h => by
    refine gGhost (fun φ I w a hR hT => ⟨φ, I, Turn.refl φ I w, hR, fun t' => ?_⟩) h
    simp only [get]
    cases hb : Nat.beq t' t with
    | true =>
      have := Nat.eq_of_beq_eq_true hb
      subst this
      simp only [cond_true]
      rw [← hb']
      exact hT t'
    | false => exact hT t'
  cases b with
  | true => exact key true ht (h1 rfl)
  | false => exact key false ht (h2 rfl)

/-- A nil slice that is held becomes a slice over an empty block of its own. -/
theorem gVirt {esz : Nat} {todo : List VI} (t : Nat) (ht : get T t = .nilc) (h : Goes P f N m todo ((t, .ref H.length 0 0 0) :: T) (H ++ [.sl esz [] false]) r B) : Goes P f N m todo T H r B := by
  refine gGhost (fun φ I w a hR hT => ?_) h
  obtain ⟨h1, h2⟩ := hR.virt (esz := esz)
  refine ⟨_, I, h2, h1, fun t' => ?_⟩
  simp only [get]
  cases hb : Nat.beq t' t with
  | true =>
    have := Nat.eq_of_beq_eq_true hb
    subst this
    have hv := hT t'
    rw [ht] at hv
    rw [hv.nilc_inv]
    exact virt_VR φ I w hR.len
  | false => exact (hT t').turn h2
end
end Go.VM
