/- How the relation between the machine's blocks and the model's memory is kept; what an operation does, and its first laws. -/
import Derived.Test.YtdebnihlkdabpaaEngA
import Derived.WalkKit
namespace Go.VM
set_option linter.unusedVariables false
set_option linter.unusedSimpArgs false

theorem BR.mono {φ φ' : List Plc} {I I' : Nat → Prop} {w w' : World} {k : Blk} {l : Plc} (h : BR φ I w k l) (hle : LE φ φ') (hsub : ∀ g, I g → I' g) (hsame : ∀ g, I g → w'.heap[g]? = w.heap[g]?)
    (hg : ∀ g, l.g? = some g → w'.heap[g]? = w.heap[g]? ∧ (I' g → I g)) : BR φ' I' w' k l := by
  cases h with
  | dead l h => exact .dead l h
  | virt esz fro => exact .virt esz fro
  | box cells g arr e hh hn ho hc hI =>
    obtain ⟨h1, h2⟩ := hg g rfl
    exact .box cells g arr e (by rw [h1]; exact hh) hn ho (fun j v c hv hcj => (hc j v c hv hcj).mono hle hsub hsame) (fun hi => hI (h2 hi))
  | sl esz xs fro g δ arr e hh hn hlen hc hz hI =>
    obtain ⟨h1, h2⟩ := hg g rfl
    exact .sl esz xs fro g δ arr e (by rw [h1]; exact hh) hn hlen (fun i j d c hd hcj => (hc i j d c hd hcj).mono hsub hsame) hz ⟨fun hf => hsub g (hI.1 hf), fun hi => hI.2 (h2 hi)⟩

/-- The relation behind a step that changes, or makes, at most the block b0. -/
theorem Rel.step {H H' : List Blk} {φ φ' : List Plc} {I I' : Nat → Prop} {w w' : World} (b0 : Nat) (h : Rel H φ I w) (hlen : φ'.length = H'.length) (hle : LE φ φ') (hsub : ∀ g, I g → I' g)
    (hsame : ∀ g, I g → w'.heap[g]? = w.heap[g]?)
    (hblk : ∀ (b : Nat) (k : Blk) (l : Plc), H'[b]? = some k → φ'[b]? = some l → (H[b]? = some k ∧ φ[b]? = some l ∧ ∀ g, l.g? = some g → w'.heap[g]? = w.heap[g]? ∧ (I' g → I g)) ∨ BR φ' I' w' k l)
    (hg : ∀ (b : Nat) (l : Plc) (g : Nat), φ'[b]? = some l → l.g? = some g → (∃ l0 : Plc, φ[b]? = some l0 ∧ l0.g? = some g) ∨ (b = b0 ∧ w.heap.size ≤ g))
    (himm : ∀ g, I' g → g < w'.heap.size) : Rel H' φ' I' w' where
  len := hlen
  blk b k l hk hl := by
    rcases hblk b k l hk hl with ⟨h1, h2, h3⟩ | hb
    · exact (h.blk b k l h1 h2).mono hle hsub hsame h3
    · exact hb
  inj b b' l l' g hb hb' hlg hlg' := by
    rcases hg b l g hb hlg with ⟨l0, h0, h0g⟩ | ⟨rfl, hs⟩
    · rcases hg b' l' g hb' hlg' with ⟨l1, h1, h1g⟩ | ⟨rfl, hs⟩
      · exact h.inj b b' l0 l1 g h0 h1 h0g h1g
      · have := h.lt h0 h0g; omega
    · rcases hg b' l' g hb' hlg' with ⟨l1, h1, h1g⟩ | ⟨rfl, hs'⟩
      · have := h.lt h1 h1g; omega
      · rfl
  imm := himm

theorem heap_alloc (w : World) (o : Obj) (g : Nat) (h : g < w.heap.size) : (w.alloc o).heap[g]? = w.heap[g]? := by
  show (w.heap.push o)[g]? = w.heap[g]?
  simp only [Array.getElem?_push]
  rw [if_neg (by omega)]

theorem heap_alloc_at (w : World) (o : Obj) : (w.alloc o).heap[w.heap.size]? = some o := by
  show (w.heap.push o)[w.heap.size]? = some o
  simp

theorem Rel.immLt {H : List Blk} {φ : List Plc} {I : Nat → Prop} {w : World} (h : Rel H φ I w) (o : Obj) : ∀ g, I g → (w.alloc o).heap[g]? = w.heap[g]? := fun g hg => heap_alloc w o g (h.imm g hg)

/-- A new object that nobody tells of. -/
theorem Rel.garbage {H : List Blk} {φ : List Plc} {I : Nat → Prop} {w : World} (h : Rel H φ I w) (o : Obj) : Rel H φ I (w.alloc o) ∧ Turn φ I w φ I (w.alloc o) := by
  refine ⟨h.step 0 h.len (LE.refl φ) (fun _ hg => hg) (h.immLt o) (fun b k l hk hl => .inl ⟨hk, hl, fun g hg => ⟨heap_alloc w o g (h.lt hl hg), fun hi => hi⟩⟩) (fun b l g hb hg => .inl ⟨l, hb, hg⟩) (fun g hg => ?_), ?_⟩
  · have := h.imm g hg; simp only [World.size_alloc]; omega
  · exact ⟨rfl, rfl, rfl, by simp, fun g hg _ => heap_alloc w o g hg, h.immLt o, fun _ hg => hg, LE.refl φ, fun b l g hb hg => .inr ⟨l, hb, hg⟩, fun _ hg => .inl hg⟩

/-- A new object that is a block of the machine from now on. -/
theorem Rel.push {H : List Blk} {φ : List Plc} {I : Nat → Prop} {w : World} (h : Rel H φ I w) (o : Obj) (k : Blk) (l : Plc) (hl : l.g? = some w.heap.size)
    (hb : BR (φ ++ [l]) I (w.alloc o) k l) : Rel (H ++ [k]) (φ ++ [l]) I (w.alloc o) ∧ Turn φ I w (φ ++ [l]) I (w.alloc o) := by
  refine ⟨h.step H.length (by simp [h.len]) (LE.append φ [l]) (fun _ hg => hg) (h.immLt o) (fun b k' l' hk hl' => ?_) (fun b l' g hb' hg => ?_) (fun g hg => ?_), ?_⟩
  · rcases Nat.lt_or_ge b H.length with hlt | hge
    · rw [List.getElem?_append_left hlt] at hk
      rw [List.getElem?_append_left (by rw [h.len]; exact hlt)] at hl'
      exact .inl ⟨hk, hl', fun g hg => ⟨heap_alloc w o g (h.lt hl' hg), fun hi => hi⟩⟩
    · have : b = H.length := by
        have := (List.getElem?_eq_some_iff.1 hk).1
        simp at this; omega
      subst this
      rw [List.getElem?_append_right (Nat.le_refl _)] at hk
      rw [List.getElem?_append_right (by rw [h.len]; exact Nat.le_refl _)] at hl'
      simp at hk
      simp [h.len] at hl'
      subst hk hl'
      exact .inr hb
  · rcases Nat.lt_or_ge b φ.length with hlt | hge
    · rw [List.getElem?_append_left hlt] at hb'
      exact .inl ⟨l', hb', hg⟩
    · have : b = φ.length := by
        have := (List.getElem?_eq_some_iff.1 hb').1
        simp at this; omega
      subst this
      rw [List.getElem?_append_right (Nat.le_refl _)] at hb'
      simp at hb'
      subst hb'
      rw [hl] at hg
      cases hg
      exact .inr ⟨h.len, Nat.le_refl _⟩
  · have := h.imm g hg; simp only [World.size_alloc]; omega
  · refine ⟨rfl, rfl, rfl, by simp, fun g hg _ => heap_alloc w o g hg, h.immLt o, fun _ hg => hg, LE.append φ [l], fun b l' g hb' hg => ?_, fun _ hg => .inl hg⟩
    rcases Nat.lt_or_ge b φ.length with hlt | hge
    · rw [List.getElem?_append_left hlt] at hb'
      exact .inr ⟨l', hb', hg⟩
    · have : b = φ.length := by
        have := (List.getElem?_eq_some_iff.1 hb').1
        simp at this; omega
      subst this
      rw [List.getElem?_append_right (Nat.le_refl _)] at hb'
      simp at hb'
      subst hb'
      rw [hl] at hg
      cases hg
      exact .inl (Nat.le_refl _)

/-- A block without memory: a nil slice to which something may be appended. -/
theorem Rel.virt {esz : Nat} {H : List Blk} {φ : List Plc} {I : Nat → Prop} {w : World} (h : Rel H φ I w) : Rel (H ++ [.sl esz [] false]) (φ ++ [.virt]) I w ∧ Turn φ I w (φ ++ [.virt]) I w := by
  refine ⟨h.step H.length (by simp [h.len]) (LE.append φ [.virt]) (fun _ hg => hg) (fun _ _ => rfl) (fun b k' l' hk hl' => ?_) (fun b l' g hb' hg => ?_) h.imm, ?_⟩
  · rcases Nat.lt_or_ge b H.length with hlt | hge
    · rw [List.getElem?_append_left hlt] at hk
      rw [List.getElem?_append_left (by rw [h.len]; exact hlt)] at hl'
      exact .inl ⟨hk, hl', fun g hg => ⟨rfl, fun hi => hi⟩⟩
    · have : b = H.length := by
        have := (List.getElem?_eq_some_iff.1 hk).1
        simp at this; omega
      subst this
      rw [List.getElem?_append_right (Nat.le_refl _)] at hk
      rw [List.getElem?_append_right (by rw [h.len]; exact Nat.le_refl _)] at hl'
      simp at hk
      simp [h.len] at hl'
      subst hk hl'
      exact .inr (.virt esz false)
  · rcases Nat.lt_or_ge b φ.length with hlt | hge
    · rw [List.getElem?_append_left hlt] at hb'
      exact .inl ⟨l', hb', hg⟩
    · have : b = φ.length := by
        have := (List.getElem?_eq_some_iff.1 hb').1
        simp at this; omega
      subst this
      rw [List.getElem?_append_right (Nat.le_refl _)] at hb'
      simp at hb'
      subst hb'
      cases hg
  · refine ⟨rfl, rfl, rfl, Nat.le_refl _, fun g hg _ => rfl, fun _ _ => rfl, fun _ hg => hg, LE.append φ [.virt], fun b l' g hb' hg => ?_, fun _ hg => .inl hg⟩
    rcases Nat.lt_or_ge b φ.length with hlt | hge
    · rw [List.getElem?_append_left hlt] at hb'
      exact .inr ⟨l', hb', hg⟩
    · have : b = φ.length := by
        have := (List.getElem?_eq_some_iff.1 hb').1
        simp at this; omega
      subst this
      rw [List.getElem?_append_right (Nat.le_refl _)] at hb'
      simp at hb'
      subst hb'
      cases hg

/-- The draw of an answer from the tape changes nothing. -/
theorem Rel.drew {H : List Blk} {φ : List Plc} {I : Nat → Prop} {w : World} (h : Rel H φ I w) : Rel H φ I w.drew ∧ Turn φ I w φ I w.drew := by
  refine ⟨h.step 0 h.len (LE.refl φ) (fun _ hg => hg) (fun _ _ => rfl) (fun b k l hk hl => .inl ⟨hk, hl, fun g hg => ⟨rfl, fun hi => hi⟩⟩) (fun b l g hb hg => .inl ⟨l, hb, hg⟩) h.imm, ?_⟩
  exact ⟨rfl, rfl, rfl, Nat.le_refl _, fun g hg _ => rfl, fun _ _ => rfl, fun _ hg => hg, LE.refl φ, fun b l g hb hg => .inr ⟨l, hb, hg⟩, fun _ hg => .inl hg⟩

/-! ### The frame -/
abbrev Tm := List (Nat × V)
def get : Tm → Nat → V
  | [], _ => .undef
  | (k, v) :: r, t => bif Nat.beq t k then v else get r t
def TR (φ : List Plc) (I : Nat → Prop) (w : World) (T : Tm) (a : Act) : Prop := ∀ t, VR φ I w (get T t) (a.tmps.getD t undef)

theorem TR.turn {φ φ' : List Plc} {I I' : Nat → Prop} {w w' : World} {T : Tm} {a : Act} (t : Turn φ I w φ' I' w') (h : TR φ I w T a) : TR φ' I' w' T a := fun x => (h x).turn t

def cv1 : Value → V
  | .int k n => .d (.int k n)
  | .bool b => .d (.bool b)
  | .string s => .d (.str s)
  | .slice none 0 0 => .nilc
  | .pointer none => .nilptr
  | .nilFunc => .nilfn
  | _ => .undef
def cv : Value → V
  | .agg cs => .agg (cs.toList.map cv1)
  | v => cv1 v

theorem cv1_VR (φ : List Plc) (I : Nat → Prop) (w : World) (c : Value) : VR φ I w (cv1 c) c := by
  unfold cv1
  split
  · exact .d _ _ (.int _ _)
  · exact .d _ _ (.bool _)
  · exact .d _ _ (.str _)
  · exact .nilc
  · exact .nilptr
  · exact .nilfn
  · exact .undef _
theorem cv_VR (φ : List Plc) (I : Nat → Prop) (w : World) (c : Value) : VR φ I w (cv c) c := by
  unfold cv
  split
  · rename_i cs
    refine .agg _ _ (by simp) fun i v c hv hc => ?_
    simp only [List.getElem?_map, Array.getElem?_toList, hc, Option.map_some, Option.some.injEq] at hv
    subst hv
    exact cv1_VR ..
  · exact cv1_VR ..

def ev (T : Tm) : Operand → V
  | .tmp t => get T t
  | .const c => cv c
  | .func f => .fn f []
  | .global _ => .undef

theorem ev_VR {φ : List Plc} {I : Nat → Prop} {w : World} {T : Tm} {a : Act} (h : TR φ I w T a) (x : Operand) : VR φ I w (ev T x) (a.eval x) := by
  cases x with
  | tmp t => exact h t
  | const c => exact cv_VR ..
  | func f => exact .fn f [] #[] rfl (by intro i v c hv; simp at hv)
  | global g => exact .undef _

/-- Only these blocks are written, or moved. -/
def Keeps (φ φ' : List Plc) (tc : List Nat) (w w' : World) : Prop := ∀ (b : Nat) (l : Plc), b ∉ tc → φ[b]? = some l → φ'[b]? = some l ∧ ∀ g, l.g? = some g → w'.heap[g]? = w.heap[g]?
theorem Keeps.refl (φ : List Plc) (tc : List Nat) (w : World) : Keeps φ φ tc w w := fun _ _ _ h => ⟨h, fun _ _ => rfl⟩
theorem Keeps.push (φ ψ : List Plc) (tc : List Nat) {w w' : World} (h : ∀ (b : Nat) (l : Plc) (g : Nat), φ[b]? = some l → l.g? = some g → w'.heap[g]? = w.heap[g]?) : Keeps φ (φ ++ ψ) tc w w' := fun b l _ hl =>
  ⟨by rw [List.getElem?_append_left (List.getElem?_eq_some_iff.1 hl).1]; exact hl, fun g hg => h b l g hl hg⟩

/-- What an operation does: a value, and the blocks behind it; 'tc': the blocks that it writes. -/
def Does (P : Program) (o : Oper) (T : Tm) (H : List Blk) (v : V) (H' : List Blk) (tc : List Nat) : Prop :=
  ∀ (φ : List Plc) (I : Nat → Prop) (w : World) (a : Act), Rel H φ I w → TR φ I w T a →
    ∃ φ' I' w' c, ((execOp a.eval o).run P w = .ok (.value c) w' ∨ ((execOp a.eval o).run P w = .ok .skip w' ∧ c = undef)) ∧ Turn φ I w φ' I' w' ∧ Rel H' φ' I' w' ∧ VR φ' I' w' v c ∧ Keeps φ φ' tc w w'

/-- A pure one: it doesn't look at memory. -/
def PureV (P : Program) (o : Oper) (T : Tm) (H : List Blk) (v : V) : Prop :=
  ∀ (φ : List Plc) (I : Nat → Prop) (w : World) (a : Act), Rel H φ I w → TR φ I w T a → ∃ c, (∀ w' : World, (execOp a.eval o).run P w' = .ok (.value c) w') ∧ VR φ I w v c
/-- One that only looks: in every world in which the blocks 'st', and what nobody writes, are as they were, it yields this. -/
def Quiet (P : Program) (o : Oper) (T : Tm) (H : List Blk) (st : List Nat) (v : V) : Prop :=
  ∀ (φ : List Plc) (I : Nat → Prop) (w : World) (a : Act), Rel H φ I w → TR φ I w T a →
    ∃ c, (∀ w' : World, (∀ g, I g → w'.heap[g]? = w.heap[g]?) → (∀ b ∈ st, ∀ (l : Plc) (g : Nat), φ[b]? = some l → l.g? = some g → w'.heap[g]? = w.heap[g]?) → (execOp a.eval o).run P w' = .ok (.value c) w') ∧ VR φ I w v c
theorem PureV.quiet {P : Program} {o : Oper} {T : Tm} {H : List Blk} {v : V} (h : PureV P o T H v) (st : List Nat) : Quiet P o T H st v := fun φ I w a hR hT => let ⟨c, h1, h2⟩ := h φ I w a hR hT; ⟨c, fun w' _ _ => h1 w', h2⟩
theorem Quiet.does {P : Program} {o : Oper} {T : Tm} {H : List Blk} {st : List Nat} {v : V} (h : Quiet P o T H st v) : Does P o T H v H [] :=
  fun φ I w a hR hT => let ⟨c, h1, h2⟩ := h φ I w a hR hT; ⟨φ, I, w, c, .inl (h1 w (fun _ _ => rfl) (fun _ _ _ _ _ _ => rfl)), Turn.refl φ I w, hR, h2, Keeps.refl φ [] w⟩
theorem PureV.does {P : Program} {o : Oper} {T : Tm} {H : List Blk} {v : V} (h : PureV P o T H v) : Does P o T H v H [] := (h.quiet []).does

section
variable {P : Program} {T : Tm} {H : List Blk} {dst : Option Tmp} {type : TypeId} {pos : String} {after : Array Edge} {guard : Option (Nat × Bool)}

theorem p_move {x : Operand} {v : V} (h : ev T x = v := by kernel_rfl) : PureV P ⟨dst, .move x, type, pos, after, guard⟩ T H v :=
  fun φ I w a hR hT => ⟨a.eval x, fun _ => rfl, h ▸ ev_VR hT x⟩
theorem p_assign {x : Operand} {v : V} (h : ev T x = v := by kernel_rfl) : PureV P ⟨dst, .assign x, type, pos, after, guard⟩ T H v :=
  fun φ I w a hR hT => ⟨a.eval x, fun _ => rfl, h ▸ ev_VR hT x⟩

theorem VR.nilc_inv {φ : List Plc} {I : Nat → Prop} {w : World} {c : Value} (h : VR φ I w .nilc c) : c = .slice none 0 0 := by cases h; rfl
theorem VR.bool_inv {φ : List Plc} {I : Nat → Prop} {w : World} {c : Value} {b : Bool} (h : VR φ I w (.d (.bool b)) c) : c = .bool b := by cases h with | d _ _ h => cases h; rfl
theorem VR.int_inv {φ : List Plc} {I : Nat → Prop} {w : World} {c : Value} {k : IntKind} {n : Int} (h : VR φ I w (.d (.int k n)) c) : c = .int k n := by cases h with | d _ _ h => cases h; rfl
theorem VR.str_inv {φ : List Plc} {I : Nat → Prop} {w : World} {c : Value} {s : ByteArray} (h : VR φ I w (.d (.str s)) c) : c = .string s := by cases h with | d _ _ h => cases h; rfl

theorem virt_VR (φ : List Plc) (I : Nat → Prop) (w : World) {n : Nat} (h : φ.length = n) : VR (φ ++ [.virt]) I w (.ref n 0 0 0) (.slice none 0 0) := by
  refine .virt n ?_
  rw [List.getElem?_append_right (by omega)]
  simp [h]

theorem d_moveNil {x : Operand} (h : ev T x = .nilc) : Does P ⟨dst, .move x, type, pos, after, guard⟩ T H (.ref H.length 0 0 0) (H ++ [.sl 0 [] false]) [] := fun φ I w a hR hT => by
  obtain ⟨h1, h2⟩ := hR.virt
  have hx := h ▸ ev_VR hT x
  refine ⟨_, I, w, a.eval x, .inl rfl, h2, h1, ?_⟩
  exact ⟨by rw [hx.nilc_inv]; exact virt_VR φ I w hR.len, Keeps.push φ _ [] fun _ _ _ _ _ => rfl⟩
theorem d_assignNil {x : Operand} (h : ev T x = .nilc) : Does P ⟨dst, .assign x, type, pos, after, guard⟩ T H (.ref H.length 0 0 0) (H ++ [.sl 0 [] false]) [] := fun φ I w a hR hT => by
  obtain ⟨h1, h2⟩ := hR.virt
  have hx := h ▸ ev_VR hT x
  refine ⟨_, I, w, a.eval x, .inl rfl, h2, h1, ?_⟩
  exact ⟨by rw [hx.nilc_inv]; exact virt_VR φ I w hR.len, Keeps.push φ _ [] fun _ _ _ _ _ => rfl⟩

theorem p_pick {c x y : Operand} {b : Bool} {v : V} (hc : ev T c = .d (.bool b) := by kernel_rfl) (h : (bif b then ev T x else ev T y) = v := by kernel_rfl) : PureV P ⟨dst, .pick c x y, type, pos, after, guard⟩ T H v :=
  fun φ I w a hR hT => by
    have h1 := (hc ▸ ev_VR hT c).bool_inv
    refine ⟨if b then a.eval x else a.eval y, fun w' => by simp [execOp, h1, asBool], ?_⟩
    subst h
    cases b
    · exact ev_VR hT y
    · exact ev_VR hT x
end
end Go.VM
