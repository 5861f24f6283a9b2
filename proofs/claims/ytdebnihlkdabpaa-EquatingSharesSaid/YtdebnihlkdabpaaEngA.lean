/- The values of the V machine, and what it means that the model's memory holds them. -/
import Derived.Calls
import Derived.KernelRfl
import Derived.Laws.World
namespace Go.VM

/-- Data: what a slice that is only read holds. -/
inductive D where
  | int (k : IntKind) (n : Int)
  | bool (b : Bool)
  | str (s : ByteArray)
  | lit (xs : List (List D))

/-- Values of the machine. -/
inductive V where
  | d (x : D)
  | nilc
  | ref (b L off len : Nat)
  | ptr (b off : Nat)
  | eptr (b L i off : Nat)
  | lptr (cells : List D) (off : Nat)
  | nilptr
  | fn (f : FuncId) (caps : List V)
  | nilfn
  | agg (cells : List V)
  | tuple (vs : List V)
  | undef

inductive Blk where
  | box (cells : List V)
  | sl (esz : Nat) (xs : List (List D)) (fro : Bool)
  | dead

inductive Plc where
  | dead
  | virt
  | box (g n : Nat)
  | at (g δ esz L n : Nat)

def Plc.g? : Plc → Option Nat
  | .box g _ => some g
  | .at g _ _ _ _ => some g
  | _ => none

def Plc.stale : Plc → Nat → Prop
  | .dead, _ => True
  | .at _ _ _ L _, L0 => L0 < L
  | _, _ => False

def get2 {α : Type} (xs : List (List α)) (i j : Nat) : Option α := (xs[i]?).bind (·[j]?)

/-- Data as the memory holds it: all its blocks are in I. -/
inductive DR (I : Nat → Prop) (w : World) : D → Value → Prop
  | int (k : IntKind) (n : Int) : DR I w (.int k n) (.int k n)
  | bool (b : Bool) : DR I w (.bool b) (.bool b)
  | str (s : ByteArray) : DR I w (.str s) (.string s)
  | nil (a : Option Addr) (cap : Nat) : DR I w (.lit []) (.slice a 0 cap)
  | lit (xs : List (List D)) (g o esz cap : Nat) (cv : Nat → Nat → Value) (hI : I g) (hlen : ∀ (i : Nat) (e : List D), xs[i]? = some e → e.length = esz)
      (hcell : ∀ (i j : Nat) (d : D), get2 xs i j = some d → w.cell? ⟨g, o + i * esz + j, none⟩ = some (cv i j))
      (hd : ∀ (i j : Nat) (d : D), get2 xs i j = some d → DR I w d (cv i j)) (hcap : xs.length ≤ cap) : DR I w (.lit xs) (.slice (some ⟨g, o, none⟩) xs.length cap)

theorem cell_same {w w' : World} {g o : Nat} (h : w'.heap[g]? = w.heap[g]?) : w'.cell? ⟨g, o, none⟩ = w.cell? ⟨g, o, none⟩ := by
  unfold World.cell?
  rw [h]

theorem DR.mono {I I' : Nat → Prop} {w w' : World} (hI : ∀ g, I g → I' g) (hw : ∀ g, I g → w'.heap[g]? = w.heap[g]?) {d : D} {v : Value} (h : DR I w d v) : DR I' w' d v := by
  induction h with
  | int k n => exact .int k n
  | bool b => exact .bool b
  | str s => exact .str s
  | nil a cap => exact .nil a cap
  | lit xs g o esz cap cv hIg hlen hcell _ hcap ih => exact .lit xs g o esz cap cv (hI g hIg) hlen (fun i j d hd => by rw [cell_same (hw g hIg)]; exact hcell i j d hd) ih hcap

inductive VR (φ : List Plc) (I : Nat → Prop) (w : World) : V → Value → Prop
  | d (x : D) (v : Value) (h : DR I w x v) : VR φ I w (.d x) v
  | nilc : VR φ I w .nilc (.slice none 0 0)
  | ref (b L off len g δ esz n cap : Nat) (hb : φ[b]? = some (.at g δ esz L n)) (h1 : off + len ≤ L) (h2 : len ≤ cap) (h3 : L ≤ off + cap) (h4 : δ + (off + cap) * esz ≤ n) :
      VR φ I w (.ref b L off len) (.slice (some ⟨g, δ + off * esz, none⟩) len cap)
  | refZ (b L off g δ esz n : Nat) (a : Option Addr) (hb : φ[b]? = some (.at g δ esz L n)) (h : off ≤ L) : VR φ I w (.ref b L off 0) (.slice a 0 0)
  | virt (b : Nat) (hb : φ[b]? = some .virt) : VR φ I w (.ref b 0 0 0) (.slice none 0 0)
  | refStale (b L off len : Nat) (loc : Plc) (a : Option Addr) (n c : Nat) (hb : φ[b]? = some loc) (hs : loc.stale L) : VR φ I w (.ref b L off len) (.slice a n c)
  | ptr (b off g n : Nat) (hb : φ[b]? = some (.box g n)) : VR φ I w (.ptr b off) (.pointer (some ⟨g, off, none⟩))
  | ptrDead (b off : Nat) (a : Option Addr) (hb : φ[b]? = some .dead) : VR φ I w (.ptr b off) (.pointer a)
  | eptr (b L i off g δ esz n : Nat) (hb : φ[b]? = some (.at g δ esz L n)) : VR φ I w (.eptr b L i off) (.pointer (some ⟨g, δ + i * esz + off, none⟩))
  | eptrStale (b L i off : Nat) (loc : Plc) (a : Option Addr) (hb : φ[b]? = some loc) (hs : loc.stale L) : VR φ I w (.eptr b L i off) (.pointer a)
  | lptr (cells : List D) (off g o : Nat) (cv : Nat → Value) (hI : I g) (hcell : ∀ (j : Nat) (d : D), cells[j]? = some d → w.cell? ⟨g, o + j, none⟩ = some (cv j))
      (hd : ∀ (j : Nat) (d : D), cells[j]? = some d → DR I w d (cv j)) : VR φ I w (.lptr cells off) (.pointer (some ⟨g, o + off, none⟩))
  | nilptr : VR φ I w .nilptr (.pointer none)
  | fn (f : FuncId) (caps : List V) (cs : Array Value) (hl : caps.length = cs.size) (hc : ∀ (i : Nat) (v : V) (c : Value), caps[i]? = some v → cs[i]? = some c → VR φ I w v c) : VR φ I w (.fn f caps) (.func (.func f) #[] cs)
  | nilfn : VR φ I w .nilfn .nilFunc
  | agg (cells : List V) (cs : Array Value) (hl : cells.length = cs.size) (hc : ∀ (i : Nat) (v : V) (c : Value), cells[i]? = some v → cs[i]? = some c → VR φ I w v c) : VR φ I w (.agg cells) (.agg cs)
  | tuple (vs : List V) (cs : Array Value) (hl : vs.length = cs.size) (hc : ∀ (i : Nat) (v : V) (c : Value), vs[i]? = some v → cs[i]? = some c → VR φ I w v c) : VR φ I w (.tuple vs) (.tuple cs)
  | undef (v : Value) : VR φ I w .undef v

/-- What a place may become. -/
inductive PlcLE : Plc → Plc → Prop
  | refl (l : Plc) : PlcLE l l
  | dead (l : Plc) : PlcLE l .dead
  | first (g δ esz L n : Nat) (h : 0 < L) : PlcLE .virt (.at g δ esz L n)
  | more (g δ esz L n g' δ' esz' L' n' : Nat) (h : L < L') : PlcLE (.at g δ esz L n) (.at g' δ' esz' L' n')

def LE (φ φ' : List Plc) : Prop := ∀ (b : Nat) (l : Plc), φ[b]? = some l → ∃ l' : Plc, φ'[b]? = some l' ∧ PlcLE l l'

theorem PlcLE.trans {a b c : Plc} (h : PlcLE a b) (h' : PlcLE b c) : PlcLE a c := by
  cases h with
  | refl => exact h'
  | dead => cases h' <;> exact .dead _
  | first g δ esz L n hL =>
    cases h' with
    | refl => exact .first _ _ _ _ _ hL
    | dead => exact .dead _
    | more g' δ' esz' L' n' _ _ _ _ _ hL' => exact .first _ _ _ _ _ (by omega)
  | more g δ esz L n g' δ' esz' L' n' hL =>
    cases h' with
    | refl => exact .more _ _ _ _ _ _ _ _ _ _ hL
    | dead => exact .dead _
    | more _ _ _ _ _ g2 δ2 esz2 L2 n2 hL' => exact .more _ _ _ _ _ _ _ _ _ _ (by omega)

theorem LE.refl (φ : List Plc) : LE φ φ := fun _ l h => ⟨l, h, .refl l⟩
theorem LE.trans {φ φ1 φ2 : List Plc} (h : LE φ φ1) (h' : LE φ1 φ2) : LE φ φ2 := fun b l hb => by
  obtain ⟨l1, h1, hl1⟩ := h b l hb
  obtain ⟨l2, h2, hl2⟩ := h' b l1 h1
  exact ⟨l2, h2, hl1.trans hl2⟩
theorem LE.append (φ ψ : List Plc) : LE φ (φ ++ ψ) := fun b l hb => by
  refine ⟨l, ?_, .refl l⟩
  rw [List.getElem?_append_left]
  · exact hb
  · exact (List.getElem?_eq_some_iff.1 hb).1

theorem stale_mono {l l' : Plc} (h : PlcLE l l') {L : Nat} (hs : l.stale L) : l'.stale L := by
  cases h with
  | refl => exact hs
  | dead => trivial
  | first => exact hs.elim
  | more _ _ _ _ _ _ _ _ _ _ h => exact Nat.lt_trans hs h

theorem VR.mono {φ φ' : List Plc} {I I' : Nat → Prop} {w w' : World} (hφ : LE φ φ') (hI : ∀ g, I g → I' g) (hw : ∀ g, I g → w'.heap[g]? = w.heap[g]?) {v : V} {c : Value} (h : VR φ I w v c) : VR φ' I' w' v c := by
  induction h with
  | d x v h => exact .d x v (h.mono hI hw)
  | nilc => exact .nilc
  | ref b L off len g δ esz n cap hb h1 h2 h3 h4 =>
    obtain ⟨l', hb', hl⟩ := hφ b _ hb
    cases hl with
    | refl => exact .ref b L off len g δ esz n cap hb' h1 h2 h3 h4
    | dead => exact .refStale _ _ _ _ _ _ _ _ hb' trivial
    | more _ _ _ _ _ _ _ _ _ _ h => exact .refStale _ _ _ _ _ _ _ _ hb' h
  | refZ b L off g δ esz n a hb h =>
    obtain ⟨l', hb', hl⟩ := hφ b _ hb
    cases hl with
    | refl => exact .refZ b L off g δ esz n a hb' h
    | dead => exact .refStale _ _ _ _ _ _ _ _ hb' trivial
    | more _ _ _ _ _ _ _ _ _ _ h => exact .refStale _ _ _ _ _ _ _ _ hb' h
  | virt b hb =>
    obtain ⟨l', hb', hl⟩ := hφ b _ hb
    cases hl with
    | refl => exact .virt b hb'
    | dead => exact .refStale _ _ _ _ _ _ _ _ hb' trivial
    | first _ _ _ _ _ h => exact .refStale _ _ _ _ _ _ _ _ hb' h
  | refStale b L off len loc a n c hb hs =>
    obtain ⟨l', hb', hl⟩ := hφ b _ hb
    exact .refStale _ _ _ _ _ _ _ _ hb' (stale_mono hl hs)
  | ptr b off g n hb =>
    obtain ⟨l', hb', hl⟩ := hφ b _ hb
    cases hl with
    | refl => exact .ptr b off g n hb'
    | dead => exact .ptrDead _ _ _ hb'
  | ptrDead b off a hb =>
    obtain ⟨l', hb', hl⟩ := hφ b _ hb
    cases hl <;> exact .ptrDead _ _ _ hb'
  | eptr b L i off g δ esz n hb =>
    obtain ⟨l', hb', hl⟩ := hφ b _ hb
    cases hl with
    | refl => exact .eptr b L i off g δ esz n hb'
    | dead => exact .eptrStale _ _ _ _ _ _ hb' trivial
    | more _ _ _ _ _ _ _ _ _ _ h => exact .eptrStale _ _ _ _ _ _ hb' h
  | eptrStale b L i off loc a hb hs =>
    obtain ⟨l', hb', hl⟩ := hφ b _ hb
    exact .eptrStale _ _ _ _ _ _ hb' (stale_mono hl hs)
  | lptr cells off g o cv hIg hcell hd => exact .lptr cells off g o cv (hI g hIg) (fun j d h => by rw [cell_same (hw g hIg)]; exact hcell j d h) (fun j d h => (hd j d h).mono hI hw)
  | nilptr => exact .nilptr
  | fn f caps cs hl hc ih => exact .fn f caps cs hl ih
  | nilfn => exact .nilfn
  | agg cells cs hl hc ih => exact .agg cells cs hl ih
  | tuple vs cs hl hc ih => exact .tuple vs cs hl ih
  | undef v => exact .undef v

/-- A value that fits one cell. -/
def V.one : V → Bool
  | .agg _ | .tuple _ | .undef => false
  | _ => true

def vone : Value → Bool
  | .agg _ | .tuple _ => false
  | _ => true

theorem DR.one {I : Nat → Prop} {w : World} {d : D} {c : Value} (h : DR I w d c) : vone c = true := by cases h <;> rfl
theorem VR.one {φ : List Plc} {I : Nat → Prop} {w : World} {v : V} {c : Value} (h : VR φ I w v c) (hv : v.one = true) : vone c = true := by
  cases h with
  | d x v h => exact h.one
  | agg => cases hv
  | tuple => cases hv
  | undef => cases hv
  | _ => rfl

/-- What the memory holds of a block. -/
inductive BR (φ : List Plc) (I : Nat → Prop) (w : World) : Blk → Plc → Prop
  | dead (l : Plc) (h : l = .dead) : BR φ I w .dead l
  | virt (esz : Nat) (fro : Bool) : BR φ I w (.sl esz [] fro) .virt
  | box (cells : List V) (g : Nat) (arr : Array Value) (e : TypeId) (hg : w.heap[g]? = some (.cells arr e (0, 0))) (hn : arr.size = cells.length)
      (ho : ∀ (j : Nat) (v : V), cells[j]? = some v → v.one = true) (hc : ∀ (j : Nat) (v : V) (c : Value), cells[j]? = some v → arr[j]? = some c → VR φ I w v c) (hI : ¬ I g) : BR φ I w (.box cells) (.box g cells.length)
  | sl (esz : Nat) (xs : List (List D)) (fro : Bool) (g δ : Nat) (arr : Array Value) (e : TypeId) (hg : w.heap[g]? = some (.cells arr e (0, 0))) (hn : δ + xs.length * esz ≤ arr.size)
      (hlen : ∀ (i : Nat) (x : List D), xs[i]? = some x → x.length = esz) (hc : ∀ (i j : Nat) (d : D) (c : Value), get2 xs i j = some d → arr[δ + i * esz + j]? = some c → DR I w d c)
      (hz : 0 < esz) (hI : fro = true ↔ I g) : BR φ I w (.sl esz xs fro) (.at g δ esz xs.length arr.size)

structure Rel (H : List Blk) (φ : List Plc) (I : Nat → Prop) (w : World) : Prop where
  len : φ.length = H.length
  blk : ∀ (b : Nat) (k : Blk) (l : Plc), H[b]? = some k → φ[b]? = some l → BR φ I w k l
  inj : ∀ (b b' : Nat) (l l' : Plc) (g : Nat), φ[b]? = some l → φ[b']? = some l' → l.g? = some g → l'.g? = some g → b = b'
  imm : ∀ g, I g → g < w.heap.size

theorem Rel.lt {H : List Blk} {φ : List Plc} {I : Nat → Prop} {w : World} (h : Rel H φ I w) {b : Nat} {l : Plc} {g : Nat} (hb : φ[b]? = some l) (hg : l.g? = some g) : g < w.heap.size := by
  have hlt : b < H.length := by rw [← h.len]; exact (List.getElem?_eq_some_iff.1 hb).1
  have hk := h.blk b H[b] l (List.getElem?_eq_getElem hlt) hb
  generalize H[b] = k at hk
  cases hk with
  | dead l h => subst h; cases hg
  | virt => cases hg
  | box cells g' arr e hg' => cases hg; exact (Array.getElem?_eq_some_iff.1 hg').1
  | sl esz xs fro g' δ arr e hg' => cases hg; exact (Array.getElem?_eq_some_iff.1 hg').1

/-- One step, or several: what has become of the memory. 'own' blocks are those of φ. -/
structure Turn (φ : List Plc) (I : Nat → Prop) (w : World) (φ' : List Plc) (I' : Nat → Prop) (w' : World) : Prop where
  os : w'.os = w.os
  tape : w'.tape = w.tape
  output : w'.output = w.output
  size : w.heap.size ≤ w'.heap.size
  frame : ∀ g, g < w.heap.size → (∀ (b : Nat) (l : Plc), φ[b]? = some l → l.g? ≠ some g) → w'.heap[g]? = w.heap[g]?
  same : ∀ g, I g → w'.heap[g]? = w.heap[g]?
  sub : ∀ g, I g → I' g
  le : LE φ φ'
  fresh : ∀ (b : Nat) (l : Plc) (g : Nat), φ'[b]? = some l → l.g? = some g → w.heap.size ≤ g ∨ ∃ l0 : Plc, φ[b]? = some l0 ∧ l0.g? = some g
  immNew : ∀ g, I' g → I g ∨ w.heap.size ≤ g ∨ ∃ (b : Nat) (l : Plc), φ[b]? = some l ∧ l.g? = some g

theorem Turn.refl (φ : List Plc) (I : Nat → Prop) (w : World) : Turn φ I w φ I w :=
  ⟨rfl, rfl, rfl, Nat.le_refl _, fun _ _ _ => rfl, fun _ _ => rfl, fun _ h => h, LE.refl φ, fun _ l _ hb hg => .inr ⟨l, hb, hg⟩, fun _ h => .inl h⟩

theorem Turn.trans {φ φ1 φ2 : List Plc} {I I1 I2 : Nat → Prop} {w w1 w2 : World} (h : Turn φ I w φ1 I1 w1) (h' : Turn φ1 I1 w1 φ2 I2 w2) : Turn φ I w φ2 I2 w2 where
  os := h'.os.trans h.os
  tape := h'.tape.trans h.tape
  output := h'.output.trans h.output
  size := Nat.le_trans h.size h'.size
  frame g hg hno := by
    rw [h'.frame g (Nat.lt_of_lt_of_le hg h.size) fun b l hb hlg => ?_, h.frame g hg hno]
    rcases h.fresh b l g hb hlg with hge | ⟨l0, hl0, hl0g⟩
    · omega
    · exact hno b l0 hl0 hl0g
  same g hg := by rw [h'.same g (h.sub g hg), h.same g hg]
  sub g hg := h'.sub g (h.sub g hg)
  le := h.le.trans h'.le
  fresh b l g hb hg := by
    rcases h'.fresh b l g hb hg with hge | ⟨l0, hl0, hl0g⟩
    · exact .inl (Nat.le_trans h.size hge)
    · exact h.fresh b l0 g hl0 hl0g
  immNew g hg := by
    rcases h'.immNew g hg with h1 | h1 | ⟨b, l, hb, hl⟩
    · exact h.immNew g h1
    · exact .inr (.inl (Nat.le_trans h.size h1))
    · rcases h.fresh b l g hb hl with hge | ⟨l0, hl0, hl0g⟩
      · exact .inr (.inl hge)
      · exact .inr (.inr ⟨b, l0, hl0, hl0g⟩)

theorem VR.turn {φ φ' : List Plc} {I I' : Nat → Prop} {w w' : World} (t : Turn φ I w φ' I' w') {v : V} {c : Value} (h : VR φ I w v c) : VR φ' I' w' v c := h.mono t.le t.sub t.same

end Go.VM
