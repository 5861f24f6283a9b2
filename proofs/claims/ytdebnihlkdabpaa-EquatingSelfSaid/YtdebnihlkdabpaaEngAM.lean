/- The values of the V machine, and what it means that the model's memory holds them. -/
import Derived.Calls
import Derived.KernelRfl
import Derived.Laws.World
import Derived.WalkKit
set_option linter.unusedVariables false
set_option linter.unusedSimpArgs false
namespace Go.VM

/-- Data: what a slice that is only read holds. -/
inductive D where
  | int (k : IntKind) (n : Int)
  | bool (b : Bool)
  | str (s : ByteArray)
  | lit (xs : List (List D))
  | val (v : Value)

/-- Values of the machine. -/
inductive V where
  | d (x : D)
  | nilc
  | ref (b L off len : Nat)
  | ptr (b off : Nat)
  | eptr (b L i off : Nat)
  | lptr (cells : List D) (off : Nat)
  | nilptr
  | fn (f : FuncId) (caps : List V)
  | nilfn
  | agg (cells : List V)
  | tuple (vs : List V)
  | undef

inductive Blk where
  | box (cells : List V)
  | sl (esz : Nat) (xs : List (List D)) (fro : Bool)
  | deep (isz : Nat) (xss : List (Option (List (List D))))
  | dead

inductive Plc where
  | dead
  | virt
  | box (g n : Nat)
  | at (g δ esz L n : Nat) (gs : List (Option Nat))

def Plc.owns : Plc → Nat → Prop
  | .box g _, x => g = x
  | .at g _ _ _ _ [], x => g = x
  | .at g _ _ _ _ (a :: as), x => g = x ∨ some x ∈ a :: as
  | _, _ => False
theorem owns_at {g δ esz L n x : Nat} {gs : List (Option Nat)} : (Plc.at g δ esz L n gs).owns x ↔ g = x ∨ some x ∈ gs := by
  cases gs with
  | nil => exact ⟨fun h => .inl h, fun h => h.resolve_right (by simp)⟩
  | cons a as => exact Iff.rfl

def Plc.stale : Plc → Nat → Prop
  | .dead, _ => True
  | .at _ _ _ L _ _, L0 => L0 < L
  | _, _ => False

def get2 {α : Type} (xs : List (List α)) (i j : Nat) : Option α := (xs[i]?).bind (·[j]?)

def vone : Value → Bool
  | .agg _ | .tuple _ => false
  | _ => true

/-- Data as the memory holds it: all its blocks are in I. -/
inductive DR (I : Nat → Prop) (w : World) : D → Value → Prop
  | int (k : IntKind) (n : Int) : DR I w (.int k n) (.int k n)
  | bool (b : Bool) : DR I w (.bool b) (.bool b)
  | str (s : ByteArray) : DR I w (.str s) (.string s)
  | nil (a : Option Addr) (cap : Nat) : DR I w (.lit []) (.slice a 0 cap)
  | lit (xs : List (List D)) (g o esz cap : Nat) (cv : Nat → Nat → Value) (hI : I g) (hlen : ∀ (i : Nat) (e : List D), xs[i]? = some e → e.length = esz)
      (hcell : ∀ (i j : Nat) (d : D), get2 xs i j = some d → w.cell? ⟨g, o + i * esz + j, none⟩ = some (cv i j))
      (hd : ∀ (i j : Nat) (d : D), get2 xs i j = some d → DR I w d (cv i j)) (hcap : xs.length ≤ cap) : DR I w (.lit xs) (.slice (some ⟨g, o, none⟩) xs.length cap)
  | val (v : Value) (h : vone v = true) : DR I w (.val v) v

theorem cell_same {w w' : World} {g o : Nat} (h : w'.heap[g]? = w.heap[g]?) : w'.cell? ⟨g, o, none⟩ = w.cell? ⟨g, o, none⟩ := by
  unfold World.cell?
  rw [h]

theorem DR.mono {I I' : Nat → Prop} {w w' : World} (hI : ∀ g, I g → I' g) (hw : ∀ g, I g → w'.heap[g]? = w.heap[g]?) {d : D} {v : Value} (h : DR I w d v) : DR I' w' d v := by
  induction h with
  | int k n => exact .int k n
  | bool b => exact .bool b
  | str s => exact .str s
  | nil a cap => exact .nil a cap
  | lit xs g o esz cap cv hIg hlen hcell _ hcap ih => exact .lit xs g o esz cap cv (hI g hIg) hlen (fun i j d hd => by rw [cell_same (hw g hIg)]; exact hcell i j d hd) ih hcap
  | val v h => exact .val v h

inductive VR (φ : List Plc) (I : Nat → Prop) (w : World) : V → Value → Prop
  | d (x : D) (v : Value) (h : DR I w x v) : VR φ I w (.d x) v
  | nilc : VR φ I w .nilc (.slice none 0 0)
  | ref (b L off len g δ esz n cap : Nat) {gs : List (Option Nat)} (hb : φ[b]? = some (.at g δ esz L n gs)) (h1 : off + len ≤ L) (h2 : len ≤ cap) (h3 : L ≤ off + cap) (h4 : δ + (off + cap) * esz ≤ n) :
      VR φ I w (.ref b L off len) (.slice (some ⟨g, δ + off * esz, none⟩) len cap)
  | refZ (b L off g δ esz n : Nat) (a : Option Addr) {gs : List (Option Nat)} (hb : φ[b]? = some (.at g δ esz L n gs)) (h : off ≤ L) : VR φ I w (.ref b L off 0) (.slice a 0 0)
  | virt (b : Nat) (hb : φ[b]? = some .virt) : VR φ I w (.ref b 0 0 0) (.slice none 0 0)
  | refStale (b L off len : Nat) (loc : Plc) (a : Option Addr) (n c : Nat) (hb : φ[b]? = some loc) (hs : loc.stale L) : VR φ I w (.ref b L off len) (.slice a n c)
  | ptr (b off g n : Nat) (hb : φ[b]? = some (.box g n)) : VR φ I w (.ptr b off) (.pointer (some ⟨g, off, none⟩))
  | ptrDead (b off : Nat) (a : Option Addr) (hb : φ[b]? = some .dead) : VR φ I w (.ptr b off) (.pointer a)
  | eptr (b L i off g δ esz n : Nat) {gs : List (Option Nat)} (hb : φ[b]? = some (.at g δ esz L n gs)) : VR φ I w (.eptr b L i off) (.pointer (some ⟨g, δ + i * esz + off, none⟩))
  | eptrStale (b L i off : Nat) (loc : Plc) (a : Option Addr) (hb : φ[b]? = some loc) (hs : loc.stale L) : VR φ I w (.eptr b L i off) (.pointer a)
  | lptr (cells : List D) (off g o : Nat) (cv : Nat → Value) (hI : I g) (hcell : ∀ (j : Nat) (d : D), cells[j]? = some d → w.cell? ⟨g, o + j, none⟩ = some (cv j))
      (hd : ∀ (j : Nat) (d : D), cells[j]? = some d → DR I w d (cv j)) : VR φ I w (.lptr cells off) (.pointer (some ⟨g, o + off, none⟩))
  | nilptr : VR φ I w .nilptr (.pointer none)
  | fn (f : FuncId) (caps : List V) (cs : Array Value) (hl : caps.length = cs.size) (hc : ∀ (i : Nat) (v : V) (c : Value), caps[i]? = some v → cs[i]? = some c → VR φ I w v c) : VR φ I w (.fn f caps) (.func (.func f) #[] cs)
  | nilfn : VR φ I w .nilfn .nilFunc
  | agg (cells : List V) (cs : Array Value) (hl : cells.length = cs.size) (hc : ∀ (i : Nat) (v : V) (c : Value), cells[i]? = some v → cs[i]? = some c → VR φ I w v c) : VR φ I w (.agg cells) (.agg cs)
  | tuple (vs : List V) (cs : Array Value) (hl : vs.length = cs.size) (hc : ∀ (i : Nat) (v : V) (c : Value), vs[i]? = some v → cs[i]? = some c → VR φ I w v c) : VR φ I w (.tuple vs) (.tuple cs)
  | undef (v : Value) : VR φ I w .undef v

/-- What a place may become. -/
inductive PlcLE : Plc → Plc → Prop
  | refl (l : Plc) : PlcLE l l
  | dead (l : Plc) : PlcLE l .dead
  | first (g δ esz L n : Nat) {gs : List (Option Nat)} (h : 0 < L) : PlcLE .virt (.at g δ esz L n gs)
  | more (g δ esz L n g' δ' esz' L' n' : Nat) {gs gs' : List (Option Nat)} (h : L < L') : PlcLE (.at g δ esz L n gs) (.at g' δ' esz' L' n' gs')
  | same (g δ esz L n : Nat) (gs gs' : List (Option Nat)) : PlcLE (.at g δ esz L n gs) (.at g δ esz L n gs')

def LE (φ φ' : List Plc) : Prop := ∀ (b : Nat) (l : Plc), φ[b]? = some l → ∃ l' : Plc, φ'[b]? = some l' ∧ PlcLE l l'

theorem PlcLE.trans {a b c : Plc} (h : PlcLE a b) (h' : PlcLE b c) : PlcLE a c := by
  cases h with
  | refl => exact h'
  | dead => cases h' <;> exact .dead _
  | first g δ esz L n hL =>
    cases h' with
    | refl => exact .first _ _ _ _ _ hL
    | dead => exact .dead _
    | more g' δ' esz' L' n' _ _ _ _ _ hL' => exact .first _ _ _ _ _ (by omega)
    | same => exact .first _ _ _ _ _ hL
  | more g δ esz L n g' δ' esz' L' n' hL =>
    cases h' with
    | refl => exact .more _ _ _ _ _ _ _ _ _ _ hL
    | dead => exact .dead _
    | more _ _ _ _ _ g2 δ2 esz2 L2 n2 hL' => exact .more _ _ _ _ _ _ _ _ _ _ (by omega)
    | same => exact .more _ _ _ _ _ _ _ _ _ _ hL
  | same g δ esz L n gs gs' =>
    cases h' with
    | refl => exact .same _ _ _ _ _ _ _
    | dead => exact .dead _
    | more _ _ _ _ _ g2 δ2 esz2 L2 n2 hL' => exact .more _ _ _ _ _ _ _ _ _ _ hL'
    | same => exact .same _ _ _ _ _ _ _

theorem LE.refl (φ : List Plc) : LE φ φ := fun _ l h => ⟨l, h, .refl l⟩
theorem LE.trans {φ φ1 φ2 : List Plc} (h : LE φ φ1) (h' : LE φ1 φ2) : LE φ φ2 := fun b l hb => by
  obtain ⟨l1, h1, hl1⟩ := h b l hb
  obtain ⟨l2, h2, hl2⟩ := h' b l1 h1
  exact ⟨l2, h2, hl1.trans hl2⟩
theorem LE.append (φ ψ : List Plc) : LE φ (φ ++ ψ) := fun b l hb => by
  refine ⟨l, ?_, .refl l⟩
  rw [List.getElem?_append_left]
  · exact hb
  · exact (List.getElem?_eq_some_iff.1 hb).1

theorem stale_mono {l l' : Plc} (h : PlcLE l l') {L : Nat} (hs : l.stale L) : l'.stale L := by
  cases h with
  | refl => exact hs
  | dead => trivial
  | first => exact hs.elim
  | more _ _ _ _ _ _ _ _ _ _ h => exact Nat.lt_trans hs h
  | same => exact hs

theorem VR.mono {φ φ' : List Plc} {I I' : Nat → Prop} {w w' : World} (hφ : LE φ φ') (hI : ∀ g, I g → I' g) (hw : ∀ g, I g → w'.heap[g]? = w.heap[g]?) {v : V} {c : Value} (h : VR φ I w v c) : VR φ' I' w' v c := by
  induction h with
  | d x v h => exact .d x v (h.mono hI hw)
  | nilc => exact .nilc
  | ref b L off len g δ esz n cap hb h1 h2 h3 h4 =>
    obtain ⟨l', hb', hl⟩ := hφ b _ hb
    cases hl with
    | refl => exact .ref b L off len g δ esz n cap hb' h1 h2 h3 h4
    | same => exact .ref b L off len g δ esz n cap hb' h1 h2 h3 h4
    | dead => exact .refStale _ _ _ _ _ _ _ _ hb' trivial
    | more _ _ _ _ _ _ _ _ _ _ h => exact .refStale _ _ _ _ _ _ _ _ hb' h
  | refZ b L off g δ esz n a hb h =>
    obtain ⟨l', hb', hl⟩ := hφ b _ hb
    cases hl with
    | refl => exact .refZ b L off g δ esz n a hb' h
    | same => exact .refZ b L off g δ esz n a hb' h
    | dead => exact .refStale _ _ _ _ _ _ _ _ hb' trivial
    | more _ _ _ _ _ _ _ _ _ _ h => exact .refStale _ _ _ _ _ _ _ _ hb' h
  | virt b hb =>
    obtain ⟨l', hb', hl⟩ := hφ b _ hb
    cases hl with
    | refl => exact .virt b hb'
    | dead => exact .refStale _ _ _ _ _ _ _ _ hb' trivial
    | first _ _ _ _ _ h => exact .refStale _ _ _ _ _ _ _ _ hb' h
  | refStale b L off len loc a n c hb hs =>
    obtain ⟨l', hb', hl⟩ := hφ b _ hb
    exact .refStale _ _ _ _ _ _ _ _ hb' (stale_mono hl hs)
  | ptr b off g n hb =>
    obtain ⟨l', hb', hl⟩ := hφ b _ hb
    cases hl with
    | refl => exact .ptr b off g n hb'
    | dead => exact .ptrDead _ _ _ hb'
  | ptrDead b off a hb =>
    obtain ⟨l', hb', hl⟩ := hφ b _ hb
    cases hl <;> exact .ptrDead _ _ _ hb'
  | eptr b L i off g δ esz n hb =>
    obtain ⟨l', hb', hl⟩ := hφ b _ hb
    cases hl with
    | refl => exact .eptr b L i off g δ esz n hb'
    | same => exact .eptr b L i off g δ esz n hb'
    | dead => exact .eptrStale _ _ _ _ _ _ hb' trivial
    | more _ _ _ _ _ _ _ _ _ _ h => exact .eptrStale _ _ _ _ _ _ hb' h
  | eptrStale b L i off loc a hb hs =>
    obtain ⟨l', hb', hl⟩ := hφ b _ hb
    exact .eptrStale _ _ _ _ _ _ hb' (stale_mono hl hs)
  | lptr cells off g o cv hIg hcell hd => exact .lptr cells off g o cv (hI g hIg) (fun j d h => by rw [cell_same (hw g hIg)]; exact hcell j d h) (fun j d h => (hd j d h).mono hI hw)
  | nilptr => exact .nilptr
  | fn f caps cs hl hc ih => exact .fn f caps cs hl ih
  | nilfn => exact .nilfn
  | agg cells cs hl hc ih => exact .agg cells cs hl ih
  | tuple vs cs hl hc ih => exact .tuple vs cs hl ih
  | undef v => exact .undef v

/-- A value that fits one cell. -/
def V.one : V → Bool
  | .agg _ | .tuple _ | .undef => false
  | _ => true

theorem DR.one {I : Nat → Prop} {w : World} {d : D} {c : Value} (h : DR I w d c) : vone c = true := by cases h <;> first | rfl | assumption
theorem VR.one {φ : List Plc} {I : Nat → Prop} {w : World} {v : V} {c : Value} (h : VR φ I w v c) (hv : v.one = true) : vone c = true := by
  cases h with
  | d x v h => exact h.one
  | agg => cases hv
  | tuple => cases hv
  | undef => cases hv
  | _ => rfl

/-- A row of data in the memory. -/
def SlAt (I : Nat → Prop) (w : World) (esz : Nat) (xs : List (List D)) (fro : Bool) (g δ n : Nat) : Prop :=
  ∃ (arr : Array Value) (e : TypeId), w.heap[g]? = some (.cells arr e (0, 0)) ∧ arr.size = n ∧ δ + xs.length * esz ≤ arr.size ∧ (∀ (i : Nat) (x : List D), xs[i]? = some x → x.length = esz) ∧
    (∀ (i j : Nat) (d : D) (c : Value), get2 xs i j = some d → arr[δ + i * esz + j]? = some c → DR I w d c) ∧ 0 < esz ∧ (fro = true ↔ I g)
/-- A slice of an inner row that is owned. -/
inductive Inner (I : Nat → Prop) (w : World) (isz : Nat) : List (List D) → Option Nat → Value → Prop
  | nil : Inner I w isz [] none (.slice none 0 0)
  | zero (a : Option Addr) (g δ n : Nat) (h : SlAt I w isz [] false g δ n) : Inner I w isz [] (some g) (.slice a 0 0)
  | row (xs : List (List D)) (g δ cap n : Nat) (h : SlAt I w isz xs false g δ n) (h1 : xs.length ≤ cap) (h2 : δ + cap * isz ≤ n) : Inner I w isz xs (some g) (.slice (some ⟨g, δ, none⟩) xs.length cap)
/-- The inner rows of a row of slices. -/
structure Pool (I : Nat → Prop) (w : World) (isz : Nat) (xss : List (Option (List (List D)))) (vs : List Value) (gs : List (Option Nat)) : Prop where
  len1 : vs.length = xss.length
  len2 : gs.length = xss.length
  one : ∀ v ∈ vs, vone v = true
  dist : ∀ (i j x : Nat), gs[i]? = some (some x) → gs[j]? = some (some x) → i = j
  nI : ∀ x : Nat, some x ∈ gs → ¬ I x
  lt : ∀ x : Nat, some x ∈ gs → x < w.heap.size
  inn : ∀ (i : Nat) (xs : List (List D)) (v : Value) (go : Option Nat), xss[i]? = some (some xs) → vs[i]? = some v → gs[i]? = some go → Inner I w isz xs go v

/-- What the memory holds of a block. -/
inductive BR (φ : List Plc) (I : Nat → Prop) (w : World) : Blk → Plc → Prop
  | dead (l : Plc) (h : l = .dead) : BR φ I w .dead l
  | virt (esz : Nat) (fro : Bool) : BR φ I w (.sl esz [] fro) .virt
  | box (cells : List V) (g : Nat) (arr : Array Value) (e : TypeId) (hg : w.heap[g]? = some (.cells arr e (0, 0))) (hn : arr.size = cells.length)
      (ho : ∀ (j : Nat) (v : V), cells[j]? = some v → v.one = true) (hc : ∀ (j : Nat) (v : V) (c : Value), cells[j]? = some v → arr[j]? = some c → VR φ I w v c) (hI : ¬ I g) : BR φ I w (.box cells) (.box g cells.length)
  | sl (esz : Nat) (xs : List (List D)) (fro : Bool) (g δ : Nat) (arr : Array Value) (e : TypeId) (hg : w.heap[g]? = some (.cells arr e (0, 0))) (hn : δ + xs.length * esz ≤ arr.size)
      (hlen : ∀ (i : Nat) (x : List D), xs[i]? = some x → x.length = esz) (hc : ∀ (i j : Nat) (d : D) (c : Value), get2 xs i j = some d → arr[δ + i * esz + j]? = some c → DR I w d c)
      (hz : 0 < esz) (hI : fro = true ↔ I g) : BR φ I w (.sl esz xs fro) (.at g δ esz xs.length arr.size [])
  | deepVirt (isz : Nat) : BR φ I w (.deep isz []) .virt
  | deep (isz : Nat) (xss : List (Option (List (List D)))) (vs : List Value) (g δ n : Nat) (gs : List (Option Nat)) (hb : SlAt I w 1 (vs.map fun v => [D.val v]) false g δ n) (hp : Pool I w isz xss vs gs) (hng : some g ∉ gs) : BR φ I w (.deep isz xss) (.at g δ 1 xss.length n gs)

theorem BR.slAt {φ : List Plc} {I : Nat → Prop} {w : World} {esz g δ n L : Nat} {gs : List (Option Nat)} {xs : List (List D)} {fro : Bool} (h : BR φ I w (.sl esz xs fro) (.at g δ esz L n gs)) : L = xs.length ∧ gs = [] ∧ SlAt I w esz xs fro g δ n := by
  cases h with
  | sl _ _ _ _ _ arr e hg hn hlen hc hz hI => exact ⟨rfl, rfl, arr, e, hg, rfl, hn, hlen, hc, hz, hI⟩
theorem SlAt.br {φ : List Plc} {I : Nat → Prop} {w : World} {esz g δ n : Nat} {xs : List (List D)} {fro : Bool} (h : SlAt I w esz xs fro g δ n) : BR φ I w (.sl esz xs fro) (.at g δ esz xs.length n []) := by
  obtain ⟨arr, e, hg, rfl, hn, hlen, hc, hz, hI⟩ := h
  exact .sl esz xs fro g δ arr e hg hn hlen hc hz hI
theorem SlAt.lt {I : Nat → Prop} {w : World} {esz g δ n : Nat} {xs : List (List D)} {fro : Bool} (h : SlAt I w esz xs fro g δ n) : g < w.heap.size := by
  obtain ⟨arr, e, hg, _⟩ := h
  exact (Array.getElem?_eq_some_iff.1 hg).1

structure Rel (H : List Blk) (φ : List Plc) (I : Nat → Prop) (w : World) : Prop where
  len : φ.length = H.length
  blk : ∀ (b : Nat) (k : Blk) (l : Plc), H[b]? = some k → φ[b]? = some l → BR φ I w k l
  inj : ∀ (b b' : Nat) (l l' : Plc) (g : Nat), φ[b]? = some l → φ[b']? = some l' → l.owns g → l'.owns g → b = b'
  imm : ∀ g, I g → g < w.heap.size

theorem Rel.lt {H : List Blk} {φ : List Plc} {I : Nat → Prop} {w : World} (h : Rel H φ I w) {b : Nat} {l : Plc} {g : Nat} (hb : φ[b]? = some l) (hg : l.owns g) : g < w.heap.size := by
  have hlt : b < H.length := by rw [← h.len]; exact (List.getElem?_eq_some_iff.1 hb).1
  have hk := h.blk b H[b] l (List.getElem?_eq_getElem hlt) hb
  generalize H[b] = k at hk
  cases hk with
  | dead l h => subst h; cases hg
  | virt => cases hg
  | box cells g' arr e hg' => cases hg; exact (Array.getElem?_eq_some_iff.1 hg').1
  | sl esz xs fro g' δ arr e hg' => cases hg; exact (Array.getElem?_eq_some_iff.1 hg').1
  | deepVirt => cases hg
  | deep isz xss vs g' δ n gs hb' hp hng =>
    rcases owns_at.1 hg with rfl | hx
    · exact hb'.lt
    · exact hp.lt g hx

/-- One step, or several: what has become of the memory. 'own' blocks are those of φ. -/
structure Turn (φ : List Plc) (I : Nat → Prop) (w : World) (φ' : List Plc) (I' : Nat → Prop) (w' : World) : Prop where
  os : w'.os = w.os
  tape : w'.tape = w.tape
  output : w'.output = w.output
  drawn : w.drawn ≤ w'.drawn
  size : w.heap.size ≤ w'.heap.size
  frame : ∀ g, g < w.heap.size → (∀ (b : Nat) (l : Plc), φ[b]? = some l → ¬ l.owns g) → w'.heap[g]? = w.heap[g]?
  same : ∀ g, I g → w'.heap[g]? = w.heap[g]?
  sub : ∀ g, I g → I' g
  le : LE φ φ'
  fresh : ∀ (b : Nat) (l : Plc) (g : Nat), φ'[b]? = some l → l.owns g → w.heap.size ≤ g ∨ ∃ (b0 : Nat) (l0 : Plc), φ[b0]? = some l0 ∧ l0.owns g
  immNew : ∀ g, I' g → I g ∨ w.heap.size ≤ g ∨ ∃ (b : Nat) (l : Plc), φ[b]? = some l ∧ l.owns g

theorem Turn.refl (φ : List Plc) (I : Nat → Prop) (w : World) : Turn φ I w φ I w :=
  ⟨rfl, rfl, rfl, Nat.le_refl _, Nat.le_refl _, fun _ _ _ => rfl, fun _ _ => rfl, fun _ h => h, LE.refl φ, fun b l _ hb hg => .inr ⟨b, l, hb, hg⟩, fun _ h => .inl h⟩

theorem Turn.trans {φ φ1 φ2 : List Plc} {I I1 I2 : Nat → Prop} {w w1 w2 : World} (h : Turn φ I w φ1 I1 w1) (h' : Turn φ1 I1 w1 φ2 I2 w2) : Turn φ I w φ2 I2 w2 where
  os := h'.os.trans h.os
  tape := h'.tape.trans h.tape
  output := h'.output.trans h.output
  drawn := Nat.le_trans h.drawn h'.drawn
  size := Nat.le_trans h.size h'.size
  frame g hg hno := by
    rw [h'.frame g (Nat.lt_of_lt_of_le hg h.size) fun b l hb hlg => ?_, h.frame g hg hno]
    rcases h.fresh b l g hb hlg with hge | ⟨b0, l0, hl0, hl0g⟩
    · omega
    · exact hno b0 l0 hl0 hl0g
  same g hg := by rw [h'.same g (h.sub g hg), h.same g hg]
  sub g hg := h'.sub g (h.sub g hg)
  le := h.le.trans h'.le
  fresh b l g hb hg := by
    rcases h'.fresh b l g hb hg with hge | ⟨b0, l0, hl0, hl0g⟩
    · exact .inl (Nat.le_trans h.size hge)
    · exact h.fresh b0 l0 g hl0 hl0g
  immNew g hg := by
    rcases h'.immNew g hg with h1 | h1 | ⟨b, l, hb, hl⟩
    · exact h.immNew g h1
    · exact .inr (.inl (Nat.le_trans h.size h1))
    · rcases h.fresh b l g hb hl with hge | ⟨b0, l0, hl0, hl0g⟩
      · exact .inr (.inl hge)
      · exact .inr (.inr ⟨b0, l0, hl0, hl0g⟩)

theorem VR.turn {φ φ' : List Plc} {I I' : Nat → Prop} {w w' : World} (t : Turn φ I w φ' I' w') {v : V} {c : Value} (h : VR φ I w v c) : VR φ' I' w' v c := h.mono t.le t.sub t.same

end Go.VM
namespace Go.VM

theorem SlAt.mono {I I' : Nat → Prop} {w w' : World} {esz g δ n : Nat} {xs : List (List D)} {fro : Bool} (h : SlAt I w esz xs fro g δ n) (hsub : ∀ g, I g → I' g) (hsame : ∀ g, I g → w'.heap[g]? = w.heap[g]?) (h1 : w'.heap[g]? = w.heap[g]?) (h2 : I' g → I g) : SlAt I' w' esz xs fro g δ n := by
  obtain ⟨arr, e, hg, rfl, hn, hlen, hc, hz, hI⟩ := h
  exact ⟨arr, e, by rw [h1]; exact hg, rfl, hn, hlen, fun i j d c hd hcj => (hc i j d c hd hcj).mono hsub hsame, hz, fun hf => hsub g (hI.1 hf), fun hi => hI.2 (h2 hi)⟩
theorem Inner.mono {I I' : Nat → Prop} {w w' : World} {isz : Nat} {xs : List (List D)} {go : Option Nat} {v : Value} (h : Inner I w isz xs go v) (hsub : ∀ g, I g → I' g) (hsame : ∀ g, I g → w'.heap[g]? = w.heap[g]?) (hg : ∀ x, go = some x → w'.heap[x]? = w.heap[x]? ∧ (I' x → I x)) : Inner I' w' isz xs go v := by
  cases h with
  | nil => exact .nil
  | zero a g δ n h => exact .zero a g δ n (h.mono hsub hsame (hg g rfl).1 (hg g rfl).2)
  | row xs g δ cap n h h1 h2 => exact .row xs g δ cap n (h.mono hsub hsame (hg g rfl).1 (hg g rfl).2) h1 h2
theorem Pool.mono {I I' : Nat → Prop} {w w' : World} {isz : Nat} {xss : List (Option (List (List D)))} {vs : List Value} {gs : List (Option Nat)} (h : Pool I w isz xss vs gs) (hsub : ∀ g, I g → I' g) (hsame : ∀ g, I g → w'.heap[g]? = w.heap[g]?) (hg : ∀ x, some x ∈ gs → w'.heap[x]? = w.heap[x]? ∧ (I' x → I x)) : Pool I' w' isz xss vs gs where
  len1 := h.len1
  len2 := h.len2
  one := h.one
  dist := h.dist
  nI x hx hI := h.nI x hx ((hg x hx).2 hI)
  lt x hx := by
    have h1 := h.lt x hx
    have h2 := (hg x hx).1
    rcases Nat.lt_or_ge x w'.heap.size with h3 | h3
    · exact h3
    · rw [Array.getElem?_eq_none h3, Array.getElem?_eq_getElem h1] at h2
      cases h2
  inn i xs v go h1 h2 h3 := (h.inn i xs v go h1 h2 h3).mono hsub hsame fun x hx => hg x (by rw [← hx]; exact List.mem_of_getElem? h3)
theorem BR.mono {φ φ' : List Plc} {I I' : Nat → Prop} {w w' : World} {k : Blk} {l : Plc} (h : BR φ I w k l) (hle : LE φ φ') (hsub : ∀ g, I g → I' g) (hsame : ∀ g, I g → w'.heap[g]? = w.heap[g]?)
    (hg : ∀ g, l.owns g → w'.heap[g]? = w.heap[g]? ∧ (I' g → I g)) : BR φ' I' w' k l := by
  cases h with
  | dead l h => exact .dead l h
  | virt esz fro => exact .virt esz fro
  | box cells g arr e hh hn ho hc hI =>
    obtain ⟨h1, h2⟩ := hg g rfl
    exact .box cells g arr e (by rw [h1]; exact hh) hn ho (fun j v c hv hcj => (hc j v c hv hcj).mono hle hsub hsame) (fun hi => hI (h2 hi))
  | sl esz xs fro g δ arr e hh hn hlen hc hz hI =>
    obtain ⟨h1, h2⟩ := hg g rfl
    exact .sl esz xs fro g δ arr e (by rw [h1]; exact hh) hn hlen (fun i j d c hd hcj => (hc i j d c hd hcj).mono hsub hsame) hz ⟨fun hf => hsub g (hI.1 hf), fun hi => hI.2 (h2 hi)⟩
  | deepVirt isz => exact .deepVirt isz
  | deep isz xss vs g δ n gs hb hp hng =>
    have hown : ∀ x, some x ∈ gs → (Plc.at g δ 1 xss.length n gs).owns x := fun x hx => owns_at.2 (.inr hx)
    obtain ⟨h1, h2⟩ := hg g (owns_at.2 (.inl rfl))
    exact .deep isz xss vs g δ n gs (hb.mono hsub hsame h1 h2) (hp.mono hsub hsame fun x hx => hg x (hown x hx)) hng

/-- The relation behind a step that changes, or makes, at most the block b0. -/
theorem Rel.step {H H' : List Blk} {φ φ' : List Plc} {I I' : Nat → Prop} {w w' : World} (b0 : Nat) (h : Rel H φ I w) (hlen : φ'.length = H'.length) (hle : LE φ φ') (hsub : ∀ g, I g → I' g)
    (hsame : ∀ g, I g → w'.heap[g]? = w.heap[g]?)
    (hblk : ∀ (b : Nat) (k : Blk) (l : Plc), H'[b]? = some k → φ'[b]? = some l → (H[b]? = some k ∧ φ[b]? = some l ∧ ∀ g, l.owns g → w'.heap[g]? = w.heap[g]? ∧ (I' g → I g)) ∨ BR φ' I' w' k l)
    (hg : ∀ (b : Nat) (l : Plc) (g : Nat), φ'[b]? = some l → l.owns g → (∃ l0 : Plc, φ[b]? = some l0 ∧ l0.owns g) ∨ (b = b0 ∧ w.heap.size ≤ g))
    (himm : ∀ g, I' g → g < w'.heap.size) : Rel H' φ' I' w' where
  len := hlen
  blk b k l hk hl := by
    rcases hblk b k l hk hl with ⟨h1, h2, h3⟩ | hb
    · exact (h.blk b k l h1 h2).mono hle hsub hsame h3
    · exact hb
  inj b b' l l' g hb hb' hlg hlg' := by
    rcases hg b l g hb hlg with ⟨l0, h0, h0g⟩ | ⟨rfl, hs⟩
    · rcases hg b' l' g hb' hlg' with ⟨l1, h1, h1g⟩ | ⟨rfl, hs⟩
      · exact h.inj b b' l0 l1 g h0 h1 h0g h1g
      · have := h.lt h0 h0g; omega
    · rcases hg b' l' g hb' hlg' with ⟨l1, h1, h1g⟩ | ⟨rfl, hs'⟩
      · have := h.lt h1 h1g; omega
      · rfl
  imm := himm

theorem heap_alloc (w : World) (o : Obj) (g : Nat) (h : g < w.heap.size) : (w.alloc o).heap[g]? = w.heap[g]? := by
  show (w.heap.push o)[g]? = w.heap[g]?
  simp only [Array.getElem?_push]
  rw [if_neg (by omega)]

theorem heap_alloc_at (w : World) (o : Obj) : (w.alloc o).heap[w.heap.size]? = some o := by
  show (w.heap.push o)[w.heap.size]? = some o
  simp

theorem Rel.immLt {H : List Blk} {φ : List Plc} {I : Nat → Prop} {w : World} (h : Rel H φ I w) (o : Obj) : ∀ g, I g → (w.alloc o).heap[g]? = w.heap[g]? := fun g hg => heap_alloc w o g (h.imm g hg)

/-- A new object that nobody tells of. -/
theorem Rel.garbage {H : List Blk} {φ : List Plc} {I : Nat → Prop} {w : World} (h : Rel H φ I w) (o : Obj) : Rel H φ I (w.alloc o) ∧ Turn φ I w φ I (w.alloc o) := by
  refine ⟨h.step 0 h.len (LE.refl φ) (fun _ hg => hg) (h.immLt o) (fun b k l hk hl => .inl ⟨hk, hl, fun g hg => ⟨heap_alloc w o g (h.lt hl hg), fun hi => hi⟩⟩) (fun b l g hb hg => .inl ⟨l, hb, hg⟩) (fun g hg => ?_), ?_⟩
  · have := h.imm g hg; simp only [World.size_alloc]; omega
  · exact ⟨rfl, rfl, rfl, Nat.le_refl _, by simp, fun g hg _ => heap_alloc w o g hg, h.immLt o, fun _ hg => hg, LE.refl φ, fun b l g hb hg => .inr ⟨b, l, hb, hg⟩, fun _ hg => .inl hg⟩

/-- A new object that is a block of the machine from now on. -/
theorem Rel.push {H : List Blk} {φ : List Plc} {I : Nat → Prop} {w : World} (h : Rel H φ I w) (o : Obj) (k : Blk) (l : Plc) (hl : ∀ x, l.owns x → x = w.heap.size)
    (hb : BR (φ ++ [l]) I (w.alloc o) k l) : Rel (H ++ [k]) (φ ++ [l]) I (w.alloc o) ∧ Turn φ I w (φ ++ [l]) I (w.alloc o) := by
  refine ⟨h.step H.length (by simp [h.len]) (LE.append φ [l]) (fun _ hg => hg) (h.immLt o) (fun b k' l' hk hl' => ?_) (fun b l' g hb' hg => ?_) (fun g hg => ?_), ?_⟩
  · rcases Nat.lt_or_ge b H.length with hlt | hge
    · rw [List.getElem?_append_left hlt] at hk
      rw [List.getElem?_append_left (by rw [h.len]; exact hlt)] at hl'
      exact .inl ⟨hk, hl', fun g hg => ⟨heap_alloc w o g (h.lt hl' hg), fun hi => hi⟩⟩
    · have : b = H.length := by
        have := (List.getElem?_eq_some_iff.1 hk).1
        simp at this; omega
      subst this
      rw [List.getElem?_append_right (Nat.le_refl _)] at hk
      rw [List.getElem?_append_right (by rw [h.len]; exact Nat.le_refl _)] at hl'
      simp at hk
      simp [h.len] at hl'
      subst hk hl'
      exact .inr hb
  · rcases Nat.lt_or_ge b φ.length with hlt | hge
    · rw [List.getElem?_append_left hlt] at hb'
      exact .inl ⟨l', hb', hg⟩
    · have : b = φ.length := by
        have := (List.getElem?_eq_some_iff.1 hb').1
        simp at this; omega
      subst this
      rw [List.getElem?_append_right (Nat.le_refl _)] at hb'
      simp at hb'
      subst hb'
      exact .inr ⟨h.len, Nat.le_of_eq (hl _ hg).symm⟩
  · have := h.imm g hg; simp only [World.size_alloc]; omega
  · refine ⟨rfl, rfl, rfl, Nat.le_refl _, by simp, fun g hg _ => heap_alloc w o g hg, h.immLt o, fun _ hg => hg, LE.append φ [l], fun b l' g hb' hg => ?_, fun _ hg => .inl hg⟩
    rcases Nat.lt_or_ge b φ.length with hlt | hge
    · rw [List.getElem?_append_left hlt] at hb'
      exact .inr ⟨b, l', hb', hg⟩
    · have : b = φ.length := by
        have := (List.getElem?_eq_some_iff.1 hb').1
        simp at this; omega
      subst this
      rw [List.getElem?_append_right (Nat.le_refl _)] at hb'
      simp at hb'
      subst hb'
      exact .inl (Nat.le_of_eq (hl _ hg).symm)

/-- A block without memory: a nil slice to which something may be appended. -/
theorem Rel.virt {esz : Nat} {H : List Blk} {φ : List Plc} {I : Nat → Prop} {w : World} (h : Rel H φ I w) : Rel (H ++ [.sl esz [] false]) (φ ++ [.virt]) I w ∧ Turn φ I w (φ ++ [.virt]) I w := by
  refine ⟨h.step H.length (by simp [h.len]) (LE.append φ [.virt]) (fun _ hg => hg) (fun _ _ => rfl) (fun b k' l' hk hl' => ?_) (fun b l' g hb' hg => ?_) h.imm, ?_⟩
  · rcases Nat.lt_or_ge b H.length with hlt | hge
    · rw [List.getElem?_append_left hlt] at hk
      rw [List.getElem?_append_left (by rw [h.len]; exact hlt)] at hl'
      exact .inl ⟨hk, hl', fun g hg => ⟨rfl, fun hi => hi⟩⟩
    · have : b = H.length := by
        have := (List.getElem?_eq_some_iff.1 hk).1
        simp at this; omega
      subst this
      rw [List.getElem?_append_right (Nat.le_refl _)] at hk
      rw [List.getElem?_append_right (by rw [h.len]; exact Nat.le_refl _)] at hl'
      simp at hk
      simp [h.len] at hl'
      subst hk hl'
      exact .inr (.virt esz false)
  · rcases Nat.lt_or_ge b φ.length with hlt | hge
    · rw [List.getElem?_append_left hlt] at hb'
      exact .inl ⟨l', hb', hg⟩
    · have : b = φ.length := by
        have := (List.getElem?_eq_some_iff.1 hb').1
        simp at this; omega
      subst this
      rw [List.getElem?_append_right (Nat.le_refl _)] at hb'
      simp at hb'
      subst hb'
      cases hg
  · refine ⟨rfl, rfl, rfl, Nat.le_refl _, Nat.le_refl _, fun g hg _ => rfl, fun _ _ => rfl, fun _ hg => hg, LE.append φ [.virt], fun b l' g hb' hg => ?_, fun _ hg => .inl hg⟩
    rcases Nat.lt_or_ge b φ.length with hlt | hge
    · rw [List.getElem?_append_left hlt] at hb'
      exact .inr ⟨b, l', hb', hg⟩
    · have : b = φ.length := by
        have := (List.getElem?_eq_some_iff.1 hb').1
        simp at this; omega
      subst this
      rw [List.getElem?_append_right (Nat.le_refl _)] at hb'
      simp at hb'
      subst hb'
      cases hg

/-- The draw of an answer from the tape changes nothing. -/
theorem Rel.drew {H : List Blk} {φ : List Plc} {I : Nat → Prop} {w : World} (h : Rel H φ I w) : Rel H φ I w.drew ∧ Turn φ I w φ I w.drew := by
  refine ⟨h.step 0 h.len (LE.refl φ) (fun _ hg => hg) (fun _ _ => rfl) (fun b k l hk hl => .inl ⟨hk, hl, fun g hg => ⟨rfl, fun hi => hi⟩⟩) (fun b l g hb hg => .inl ⟨l, hb, hg⟩) h.imm, ?_⟩
  exact ⟨rfl, rfl, rfl, Nat.le_succ _, Nat.le_refl _, fun g hg _ => rfl, fun _ _ => rfl, fun _ hg => hg, LE.refl φ, fun b l g hb hg => .inr ⟨b, l, hb, hg⟩, fun _ hg => .inl hg⟩

/-! ### The frame -/
abbrev Tm := List (Nat × V)
def get : Tm → Nat → V
  | [], _ => .undef
  | (k, v) :: r, t => bif Nat.beq t k then v else get r t
def TR (φ : List Plc) (I : Nat → Prop) (w : World) (T : Tm) (a : Act) : Prop := ∀ t, VR φ I w (get T t) (a.tmps.getD t undef)

theorem TR.turn {φ φ' : List Plc} {I I' : Nat → Prop} {w w' : World} {T : Tm} {a : Act} (t : Turn φ I w φ' I' w') (h : TR φ I w T a) : TR φ' I' w' T a := fun x => (h x).turn t

def cv1 : Value → V
  | .int k n => .d (.int k n)
  | .bool b => .d (.bool b)
  | .string s => .d (.str s)
  | .slice none 0 0 => .nilc
  | .pointer none => .nilptr
  | .nilFunc => .nilfn
  | _ => .undef
def cv : Value → V
  | .agg cs => .agg (cs.toList.map cv1)
  | v => cv1 v

theorem cv1_VR (φ : List Plc) (I : Nat → Prop) (w : World) (c : Value) : VR φ I w (cv1 c) c := by
  unfold cv1
  split
  · exact .d _ _ (.int _ _)
  · exact .d _ _ (.bool _)
  · exact .d _ _ (.str _)
  · exact .nilc
  · exact .nilptr
  · exact .nilfn
  · exact .undef _
theorem cv_VR (φ : List Plc) (I : Nat → Prop) (w : World) (c : Value) : VR φ I w (cv c) c := by
  unfold cv
  split
  · rename_i cs
    refine .agg _ _ (by simp) fun i v c hv hc => ?_
    simp only [List.getElem?_map, Array.getElem?_toList, hc, Option.map_some, Option.some.injEq] at hv
    subst hv
    exact cv1_VR ..
  · exact cv1_VR ..

def ev (T : Tm) : Operand → V
  | .tmp t => get T t
  | .const c => cv c
  | .func f => .fn f []
  | .global _ => .undef

theorem ev_VR {φ : List Plc} {I : Nat → Prop} {w : World} {T : Tm} {a : Act} (h : TR φ I w T a) (x : Operand) : VR φ I w (ev T x) (a.eval x) := by
  cases x with
  | tmp t => exact h t
  | const c => exact cv_VR ..
  | func f => exact .fn f [] #[] rfl (by intro i v c hv; simp at hv)
  | global g => exact .undef _

/-- Only these blocks are written, or moved. -/
def Keeps (φ φ' : List Plc) (tc : List Nat) (w w' : World) : Prop := ∀ (b : Nat) (l : Plc), b ∉ tc → φ[b]? = some l → φ'[b]? = some l ∧ ∀ g, l.owns g → w'.heap[g]? = w.heap[g]?
theorem Keeps.refl (φ : List Plc) (tc : List Nat) (w : World) : Keeps φ φ tc w w := fun _ _ _ h => ⟨h, fun _ _ => rfl⟩
theorem Keeps.push (φ ψ : List Plc) (tc : List Nat) {w w' : World} (h : ∀ (b : Nat) (l : Plc) (g : Nat), φ[b]? = some l → l.owns g → w'.heap[g]? = w.heap[g]?) : Keeps φ (φ ++ ψ) tc w w' := fun b l _ hl =>
  ⟨by rw [List.getElem?_append_left (List.getElem?_eq_some_iff.1 hl).1]; exact hl, fun g hg => h b l g hl hg⟩

/-- What an operation does: a value, and the blocks behind it; 'tc': the blocks that it writes. -/
def Does (P : Program) (o : Oper) (T : Tm) (H : List Blk) (v : V) (H' : List Blk) (tc : List Nat) : Prop :=
  ∀ (φ : List Plc) (I : Nat → Prop) (w : World) (a : Act), Rel H φ I w → TR φ I w T a →
    ∃ φ' I' w' c, ((execOp a.eval o).run P w = .ok (.value c) w' ∨ ((execOp a.eval o).run P w = .ok .skip w' ∧ c = undef)) ∧ Turn φ I w φ' I' w' ∧ Rel H' φ' I' w' ∧ VR φ' I' w' v c ∧ Keeps φ φ' tc w w'

/-- A pure one: it doesn't look at memory. -/
def PureV (P : Program) (o : Oper) (T : Tm) (H : List Blk) (v : V) : Prop :=
  ∀ (φ : List Plc) (I : Nat → Prop) (w : World) (a : Act), Rel H φ I w → TR φ I w T a → ∃ c, (∀ w' : World, (execOp a.eval o).run P w' = .ok (.value c) w') ∧ VR φ I w v c
/-- One that only looks: in every world in which the blocks 'st', and what nobody writes, are as they were, it yields this. -/
def Quiet (P : Program) (o : Oper) (T : Tm) (H : List Blk) (st : List Nat) (v : V) : Prop :=
  ∀ (φ : List Plc) (I : Nat → Prop) (w : World) (a : Act), Rel H φ I w → TR φ I w T a →
    ∃ c, (∀ w' : World, (∀ g, I g → w'.heap[g]? = w.heap[g]?) → (∀ b ∈ st, ∀ (l : Plc) (g : Nat), φ[b]? = some l → l.owns g → w'.heap[g]? = w.heap[g]?) → (execOp a.eval o).run P w' = .ok (.value c) w') ∧ VR φ I w v c
theorem PureV.quiet {P : Program} {o : Oper} {T : Tm} {H : List Blk} {v : V} (h : PureV P o T H v) (st : List Nat) : Quiet P o T H st v := fun φ I w a hR hT => let ⟨c, h1, h2⟩ := h φ I w a hR hT; ⟨c, fun w' _ _ => h1 w', h2⟩
theorem Quiet.does {P : Program} {o : Oper} {T : Tm} {H : List Blk} {st : List Nat} {v : V} (h : Quiet P o T H st v) : Does P o T H v H [] :=
  fun φ I w a hR hT => let ⟨c, h1, h2⟩ := h φ I w a hR hT; ⟨φ, I, w, c, .inl (h1 w (fun _ _ => rfl) (fun _ _ _ _ _ _ => rfl)), Turn.refl φ I w, hR, h2, Keeps.refl φ [] w⟩
theorem PureV.does {P : Program} {o : Oper} {T : Tm} {H : List Blk} {v : V} (h : PureV P o T H v) : Does P o T H v H [] := (h.quiet []).does

section
variable {P : Program} {T : Tm} {H : List Blk} {dst : Option Tmp} {type : TypeId} {pos : String} {after : Array Edge} {guard : Option (Nat × Bool)}

theorem p_move {x : Operand} {v : V} (h : ev T x = v := by kernel_rfl) : PureV P ⟨dst, .move x, type, pos, after, guard⟩ T H v :=
  fun φ I w a hR hT => ⟨a.eval x, fun _ => rfl, h ▸ ev_VR hT x⟩
theorem p_assign {x : Operand} {v : V} (h : ev T x = v := by kernel_rfl) : PureV P ⟨dst, .assign x, type, pos, after, guard⟩ T H v :=
  fun φ I w a hR hT => ⟨a.eval x, fun _ => rfl, h ▸ ev_VR hT x⟩

theorem VR.nilc_inv {φ : List Plc} {I : Nat → Prop} {w : World} {c : Value} (h : VR φ I w .nilc c) : c = .slice none 0 0 := by cases h; rfl
theorem VR.bool_inv {φ : List Plc} {I : Nat → Prop} {w : World} {c : Value} {b : Bool} (h : VR φ I w (.d (.bool b)) c) : c = .bool b := by cases h with | d _ _ h => cases h; rfl
theorem VR.int_inv {φ : List Plc} {I : Nat → Prop} {w : World} {c : Value} {k : IntKind} {n : Int} (h : VR φ I w (.d (.int k n)) c) : c = .int k n := by cases h with | d _ _ h => cases h; rfl
theorem VR.str_inv {φ : List Plc} {I : Nat → Prop} {w : World} {c : Value} {s : ByteArray} (h : VR φ I w (.d (.str s)) c) : c = .string s := by cases h with | d _ _ h => cases h; rfl

theorem virt_VR (φ : List Plc) (I : Nat → Prop) (w : World) {n : Nat} (h : φ.length = n) : VR (φ ++ [.virt]) I w (.ref n 0 0 0) (.slice none 0 0) := by
  refine .virt n ?_
  rw [List.getElem?_append_right (by omega)]
  simp [h]

theorem d_moveNil {x : Operand} (h : ev T x = .nilc) : Does P ⟨dst, .move x, type, pos, after, guard⟩ T H (.ref H.length 0 0 0) (H ++ [.sl 0 [] false]) [] := fun φ I w a hR hT => by
  obtain ⟨h1, h2⟩ := hR.virt
  have hx := h ▸ ev_VR hT x
  refine ⟨_, I, w, a.eval x, .inl rfl, h2, h1, ?_⟩
  exact ⟨by rw [hx.nilc_inv]; exact virt_VR φ I w hR.len, Keeps.push φ _ [] fun _ _ _ _ _ => rfl⟩
theorem d_assignNil {x : Operand} (h : ev T x = .nilc) : Does P ⟨dst, .assign x, type, pos, after, guard⟩ T H (.ref H.length 0 0 0) (H ++ [.sl 0 [] false]) [] := fun φ I w a hR hT => by
  obtain ⟨h1, h2⟩ := hR.virt
  have hx := h ▸ ev_VR hT x
  refine ⟨_, I, w, a.eval x, .inl rfl, h2, h1, ?_⟩
  exact ⟨by rw [hx.nilc_inv]; exact virt_VR φ I w hR.len, Keeps.push φ _ [] fun _ _ _ _ _ => rfl⟩

theorem p_pick {c x y : Operand} {b : Bool} {v : V} (hc : ev T c = .d (.bool b) := by kernel_rfl) (h : (bif b then ev T x else ev T y) = v := by kernel_rfl) : PureV P ⟨dst, .pick c x y, type, pos, after, guard⟩ T H v :=
  fun φ I w a hR hT => by
    have h1 := (hc ▸ ev_VR hT c).bool_inv
    refine ⟨if b then a.eval x else a.eval y, fun w' => by simp [execOp, h1, asBool], ?_⟩
    subst h
    cases b
    · exact ev_VR hT y
    · exact ev_VR hT x
end
end Go.VM
namespace Go.VM

theorem get_set_ne {α : Type} (l : List α) (b b' : Nat) (x : α) (h : b ≠ b') : (l.set b x)[b']? = l[b']? := by
  rw [List.getElem?_set_ne h]

/-- A block of the machine's own is written. -/
theorem Rel.write {H : List Blk} {φ : List Plc} {I : Nat → Prop} {w : World} (h : Rel H φ I w) {b : Nat} {l l' : Plc} {g : Nat} (hb : φ[b]? = some l) (hlg : l.owns g) (hI : ¬ I g)
    (hle : PlcLE l l') (hlg' : ∀ x, l'.owns x → l.owns x) (arr : Array Value) (k' : Blk) (hbr : BR (φ.set b l') I (w.setRow g arr) k' l') :
    Rel (H.set b k') (φ.set b l') I (w.setRow g arr) ∧ Turn φ I w (φ.set b l') I (w.setRow g arr) ∧ Keeps φ (φ.set b l') [b] w (w.setRow g arr) := by
  have hblt : b < φ.length := (List.getElem?_eq_some_iff.1 hb).1
  have hheap : ∀ g', g' ≠ g → (w.setRow g arr).heap[g']? = w.heap[g']? := fun g' hne => by
    simp only [World.setRow, Array.getElem?_modify]
    rw [if_neg (Ne.symm hne)]
  have hLE : LE φ (φ.set b l') := fun b' l0 h0 => by
    by_cases he : b = b'
    · subst he
      rw [hb] at h0
      cases h0
      exact ⟨l', by simp [hblt], hle⟩
    · exact ⟨l0, by rw [get_set_ne _ _ _ _ he]; exact h0, .refl _⟩
  have hsame : ∀ g', I g' → (w.setRow g arr).heap[g']? = w.heap[g']? := fun g' hg' => hheap g' fun e => hI (e ▸ hg')
  have hsize : (w.setRow g arr).heap.size = w.heap.size := by simp [World.setRow]
  have hgs : ∀ (b' : Nat) (l0 : Plc) (g' : Nat), (φ.set b l')[b']? = some l0 → l0.owns g' → ∃ l1 : Plc, φ[b']? = some l1 ∧ l1.owns g' := fun b' l0 g' h0 hg0 => by
    by_cases he : b = b'
    · subst he
      simp [hblt] at h0
      subst h0
      exact ⟨l, hb, hlg' _ hg0⟩
    · rw [get_set_ne _ _ _ _ he] at h0
      exact ⟨l0, h0, hg0⟩
  refine ⟨h.step b (by simp [h.len]) hLE (fun _ hg => hg) hsame (fun b' k0 l0 hk hl => ?_) (fun b' l0 g' h0 hg0 => .inl (hgs b' l0 g' h0 hg0)) (fun g' hg' => by rw [hsize]; exact h.imm g' hg'), ?_, fun b' l0 hb' h0 => ⟨by rw [get_set_ne _ _ _ _ (fun e => hb' (by simp [e]))]; exact h0, fun g' hg0 => hheap g' fun e => ?_⟩⟩
  · by_cases he : b = b'
    · subst he
      have hbH : b < H.length := by rw [← h.len]; exact hblt
      simp [hblt] at hl
      simp [hbH] at hk
      subst hk hl
      exact .inr hbr
    · rw [get_set_ne _ _ _ _ he] at hl hk
      refine .inl ⟨hk, hl, fun g' hg' => ⟨hheap g' fun e => ?_, fun hi => hi⟩⟩
      subst e
      exact he (h.inj b b' l l0 g' hb hl hlg hg')
  · exact ⟨rfl, rfl, rfl, Nat.le_refl _, by rw [hsize]; exact Nat.le_refl _, fun g' hg' hno => hheap g' fun e => hno b l hb (e ▸ hlg), hsame, fun _ hg => hg, hLE,
      fun b' l0 g' h0 hg0 => .inr ⟨b', hgs b' l0 g' h0 hg0⟩, fun _ hg => .inl hg⟩
  · subst e
    exact hb' (by rw [h.inj b' b l0 l g' h0 hb hg0 hlg]; simp)

theorem set_same {α : Type} {l : List α} {b : Nat} {x : α} (h : l[b]? = some x) : l.set b x = l := by
  apply List.ext_getElem?
  intro i
  by_cases he : b = i
  · subst he
    have := (List.getElem?_eq_some_iff.1 h).1
    simp [this, h]
    have h2 := h
    rw [List.getElem?_eq_getElem this] at h2
    exact (Option.some.inj h2).symm
  · rw [get_set_ne _ _ _ _ he]

def aggD : TypeDesc → Bool
  | .struct _ | .array _ _ => true
  | _ => false

/-- What the program's text tells of a type: its zero value, its cells, its bytes. -/
def TyI (P : Program) (t : TypeId) (z : Value) (sz bytes : Nat) : Prop := (P.info? t).map (fun i => (i.zero, i.size, i.bytes)) = some (some z, sz, bytes)
theorem TyI.get {P : Program} {t : TypeId} {z : Value} {sz bytes : Nat} (h : TyI P t z sz bytes) : ∃ i, P.info? t = some i ∧ i.zero = some z ∧ i.size = sz ∧ i.bytes = bytes := by
  obtain ⟨i, hi, hzz⟩ := Option.map_eq_some_iff.1 h
  simp only [Prod.mk.injEq] at hzz
  exact ⟨i, hi, hzz.1, hzz.2.1, hzz.2.2⟩

theorem run_isAgg {P : Program} {t : TypeId} {d : TypeDesc} {b : Bool} (hu : P.underlying t = some d) (hd : aggD d = b) (w : World) : (isAgg t).run P w = .ok b w := by
  subst hd
  cases d <;> simp [isAgg, run_underlying hu, aggD]

theorem run_sizeOf {P : Program} {t : TypeId} {z : Value} {sz bytes : Nat} (h : TyI P t z sz bytes) (w : World) : (sizeOf t).run P w = .ok sz w := by
  obtain ⟨i, hi, _, hs, _⟩ := h.get
  simp [sizeOf, typeInfo, hi, hs]
theorem run_zeroValue {P : Program} {t : TypeId} {z : Value} {sz bytes : Nat} (h : TyI P t z sz bytes) (w : World) : (zeroValue t).run P w = .ok z w := by
  obtain ⟨i, hi, hz, _⟩ := h.get
  simp [zeroValue, typeInfo, hi, hz]

theorem add_none (g o n : Nat) : (⟨g, o, none⟩ : Addr).add n = ⟨g, o + n, none⟩ := by unfold Addr.add; split <;> simp_all

section
variable {P : Program} {T : Tm} {H : List Blk} {dst : Option Tmp} {type : TypeId} {pos : String} {after : Array Edge} {guard : Option (Nat × Bool)}

theorem VR.ptr_box {φ : List Plc} {I : Nat → Prop} {w : World} {b off : Nat} {cells : List V} {c : Value} (hR : Rel H φ I w) (hk : H[b]? = some (.box cells)) (h : VR φ I w (.ptr b off) c) :
    ∃ g arr e, c = .pointer (some ⟨g, off, none⟩) ∧ φ[b]? = some (.box g cells.length) ∧ w.heap[g]? = some (.cells arr e (0, 0)) ∧ arr.size = cells.length ∧ (∀ (j : Nat) (v : V), cells[j]? = some v → v.one = true) ∧
      (∀ (j : Nat) (v : V) (c : Value), cells[j]? = some v → arr[j]? = some c → VR φ I w v c) ∧ ¬ I g := by
  have hblt : b < φ.length := by rw [hR.len]; exact (List.getElem?_eq_some_iff.1 hk).1
  have hbr := hR.blk b _ _ hk (List.getElem?_eq_getElem hblt)
  have hφ := List.getElem?_eq_getElem hblt
  generalize φ[b] = l at hbr hφ
  cases hbr with
  | box cells g arr e hg hn ho hc hI =>
    cases h with
    | ptr _ _ g' n hb =>
      rw [hφ] at hb
      cases hb
      exact ⟨g, arr, e, rfl, hφ, hg, hn, ho, hc, hI⟩
    | ptrDead _ _ a hb =>
      rw [hφ] at hb
      cases hb

theorem VR.eptr_sl {φ : List Plc} {I : Nat → Prop} {w : World} {b i off esz : Nat} {xs : List (List D)} {fro : Bool} {c : Value} (hR : Rel H φ I w) (hk : H[b]? = some (.sl esz xs fro)) {L : Nat} (hL : xs.length = L) (hpos : 0 < L)
    (h : VR φ I w (.eptr b L i off) c) :
    ∃ g δ arr e, c = .pointer (some ⟨g, δ + i * esz + off, none⟩) ∧ φ[b]? = some (.at g δ esz L arr.size []) ∧ w.heap[g]? = some (.cells arr e (0, 0)) ∧ δ + L * esz ≤ arr.size ∧ (∀ (i : Nat) (x : List D), xs[i]? = some x → x.length = esz) ∧
      (∀ (i j : Nat) (d : D) (c : Value), get2 xs i j = some d → arr[δ + i * esz + j]? = some c → DR I w d c) ∧ 0 < esz ∧ (fro = true ↔ I g) := by
  subst hL
  have hblt : b < φ.length := by rw [hR.len]; exact (List.getElem?_eq_some_iff.1 hk).1
  have hbr := hR.blk b _ _ hk (List.getElem?_eq_getElem hblt)
  have hφ := List.getElem?_eq_getElem hblt
  generalize φ[b] = l at hbr hφ
  cases hbr with
  | virt => simp at hpos
  | sl esz xs fro g δ arr e hg hn hlen hc hz hI =>
    cases h with
    | eptr _ _ _ _ g' δ' esz' n hb =>
      rw [hφ] at hb
      cases hb
      exact ⟨g, δ, arr, e, rfl, hφ, hg, hn, hlen, hc, hz, hI⟩
    | eptrStale _ _ _ _ loc a hb hs =>
      rw [hφ] at hb
      cases hb
      exact absurd hs (Nat.lt_irrefl _)

theorem run_loadAt_one {t : TypeId} {d : TypeDesc} {w : World} {a : Addr} {c : Value} (hu : P.underlying t = some d) (hd : aggD d = false) (hc : w.cell? a = some c) : (Instr.loadAt t (.pointer (some a))).run P w = .ok c w := by
  simp [Instr.loadAt, Instr.sureAddr, loadVar, run_isAgg hu hd, hc]
theorem run_loadAt_agg {t : TypeId} {d : TypeDesc} {w : World} {a : Addr} {cs : List Value} {z : Value} {sz bytes : Nat} (hu : P.underlying t = some d) (hd : aggD d = true) (hi : TyI P t z sz bytes) (hl : cs.length = sz)
    (hc : ∀ (j : Nat) (v : Value), cs[j]? = some v → w.cell? (a.add j) = some v) : (Instr.loadAt t (.pointer (some a))).run P w = .ok (.agg cs.toArray) w := by
  have := run_loadCells_list (P := P) w a cs hc
  rw [hl] at this
  simp [Instr.loadAt, Instr.sureAddr, loadVar, run_isAgg hu hd, run_sizeOf hi, this]

theorem cell_of {w : World} {g : Nat} {arr : Array Value} {e : TypeId} {f : Nat × Nat} (hg : w.heap[g]? = some (.cells arr e f)) (o : Nat) : w.cell? ⟨g, o, none⟩ = arr[o]? := by
  simp [World.cell?, hg]

theorem q_load {t : TypeId} {x : Operand} {b off : Nat} {cells : List V} {d : TypeDesc} {v : V} (hx : ev T x = .ptr b off) (hk : H[b]? = some (.box cells)) (hu : P.underlying t = some d) (hd : aggD d = false) (hv : cells[off]? = some v) :
    Quiet P ⟨dst, .load t x, type, pos, after, guard⟩ T H [b] v := fun φ I w a hR hT => by
  obtain ⟨g, arr, e, hc, hb, hg, hn, ho, hcs, hI⟩ := VR.ptr_box hR hk (hx ▸ ev_VR hT x)
  have hlt : off < arr.size := by rw [hn]; exact (List.getElem?_eq_some_iff.1 hv).1
  refine ⟨arr[off], ?_, hcs off v _ hv (Array.getElem?_eq_getElem hlt)⟩
  intro w' _ hw'
  have hg' : w'.heap[g]? = some (.cells arr e (0, 0)) := by rw [hw' b (by simp) _ g hb rfl]; exact hg
  have := run_loadAt_one (P := P) (w := w') (a := ⟨g, off, none⟩) (c := arr[off]) hu hd (by rw [cell_of hg']; exact Array.getElem?_eq_getElem hlt)
  simp [execOp, hc, this]

theorem q_loadAgg {t : TypeId} {x : Operand} {b off : Nat} {cells : List V} {d : TypeDesc} {z : Value} {sz bytes : Nat} {vs : List V} (hx : ev T x = .ptr b off) (hk : H[b]? = some (.box cells)) (hu : P.underlying t = some d) (hd : aggD d = true)
    (hi : TyI P t z sz bytes) (hv : (cells.drop off).take sz = vs) (hl : vs.length = sz) : Quiet P ⟨dst, .load t x, type, pos, after, guard⟩ T H [b] (.agg vs) := fun φ I w a hR hT => by
  obtain ⟨g, arr, e, hc, hb, hg, hn, ho, hcs, hI⟩ := VR.ptr_box hR hk (hx ▸ ev_VR hT x)
  have hfit : off + sz ≤ arr.size ∨ sz = 0 := by subst hv; simp at hl; omega
  have hl2 : ((arr.toList.drop off).take sz).length = sz := by simp; omega
  have hrun := fun (w' : World) (hg' : w'.heap[g]? = some (.cells arr e (0, 0))) => run_loadAt_agg (P := P) (w := w') (a := ⟨g, off, none⟩) (cs := (arr.toList.drop off).take sz) hu hd hi hl2 fun j v hj => by
    rw [add_none, cell_of hg']
    have hjs : j < sz := by have := (List.getElem?_eq_some_iff.1 hj).1; omega
    rw [List.getElem?_take_of_lt hjs] at hj
    simpa using hj
  refine ⟨.agg ((arr.toList.drop off).take sz).toArray, fun w' _ hw' => by simp [execOp, hc, hrun w' (by rw [hw' b (by simp) _ g hb rfl]; exact hg)], .agg _ _ (by simp; omega) fun i v c h1 h2 => ?_⟩
  subst hv
  have his : i < sz := by have := (List.getElem?_eq_some_iff.1 h1).1; omega
  simp only [List.getElem?_toArray] at h2
  rw [List.getElem?_take_of_lt his] at h1 h2
  simp only [List.getElem?_drop, Array.getElem?_toList] at h1 h2
  exact hcs _ _ _ h1 h2

theorem VR.lptr_inv {φ : List Plc} {I : Nat → Prop} {w : World} {cells : List D} {off : Nat} {c : Value} (h : VR φ I w (.lptr cells off) c) :
    ∃ (g o : Nat) (cv : Nat → Value), c = .pointer (some ⟨g, o + off, none⟩) ∧ I g ∧ (∀ (j : Nat) (d : D), cells[j]? = some d → w.cell? ⟨g, o + j, none⟩ = some (cv j)) ∧ (∀ (j : Nat) (d : D), cells[j]? = some d → DR I w d (cv j)) := by
  cases h with
  | lptr _ _ g o cv hI h1 h2 => exact ⟨g, o, cv, rfl, hI, h1, h2⟩

theorem q_loadL {t : TypeId} {x : Operand} {cells : List D} {off : Nat} {d : TypeDesc} {v : D} (hx : ev T x = .lptr cells off) (hu : P.underlying t = some d) (hd : aggD d = false) (hv : cells[off]? = some v) :
    Quiet P ⟨dst, .load t x, type, pos, after, guard⟩ T H [] (.d v) := fun φ I w a hR hT => by
  obtain ⟨g, o, cv, hc, hI, h1, h2⟩ := VR.lptr_inv (hx ▸ ev_VR hT x)
  refine ⟨cv off, ?_, .d _ _ (h2 off v hv)⟩
  intro w' hw' _
  have := run_loadAt_one (P := P) (w := w') (a := ⟨g, o + off, none⟩) (c := cv off) hu hd (by rw [cell_same (hw' g hI)]; exact h1 off v hv)
  simp [execOp, hc, this]

theorem q_loadLAgg {t : TypeId} {x : Operand} {cells : List D} {off : Nat} {d : TypeDesc} {z : Value} {sz bytes : Nat} {vs : List D} (hx : ev T x = .lptr cells off) (hu : P.underlying t = some d) (hd : aggD d = true)
    (hi : TyI P t z sz bytes) (hv : (cells.drop off).take sz = vs) (hl : vs.length = sz) : Quiet P ⟨dst, .load t x, type, pos, after, guard⟩ T H [] (.agg (vs.map .d)) := fun φ I w a hR hT => by
  obtain ⟨g, o, cv, hc, hI, h1, h2⟩ := VR.lptr_inv (hx ▸ ev_VR hT x)
  have hcell : ∀ j, j < sz → ∃ dd, cells[off + j]? = some dd ∧ vs[j]? = some dd := fun j hj => by
    subst hv
    have hj' : off + j < cells.length := by simp at hl; omega
    refine ⟨cells[off + j], List.getElem?_eq_getElem hj', ?_⟩
    rw [List.getElem?_take_of_lt hj, List.getElem?_drop, List.getElem?_eq_getElem hj']
  have hrun := fun (w' : World) (hw' : w'.heap[g]? = w.heap[g]?) => run_loadAt_agg (P := P) (w := w') (a := ⟨g, o + off, none⟩) (cs := (List.range sz).map fun j => cv (off + j)) hu hd hi (by simp) fun j v hj => by
    rw [add_none]
    have hjs : j < sz := by have := (List.getElem?_eq_some_iff.1 hj).1; simpa using this
    obtain ⟨dd, hdd, _⟩ := hcell j hjs
    rw [show o + off + j = o + (off + j) by omega, cell_same hw', h1 _ dd hdd]
    simp [hjs] at hj
    rw [hj]
  refine ⟨.agg ((List.range sz).map fun j => cv (off + j)).toArray, fun w' hw' _ => by simp [execOp, hc, hrun w' (hw' g hI)], .agg _ _ (by simp [hl]) fun i v c h3 h4 => ?_⟩
  have his : i < sz := by have := (List.getElem?_eq_some_iff.1 h3).1; simp at this; omega
  obtain ⟨dd, hdd, hvs⟩ := hcell i his
  simp [hvs] at h3
  simp [his] at h4
  subst h3 h4
  exact .d _ _ (h2 _ dd hdd)

theorem q_loadE {t : TypeId} {x : Operand} {b i off esz L : Nat} {xs : List (List D)} {fro : Bool} {d : TypeDesc} {e : List D} {v : D} (hx : ev T x = .eptr b L i off) (hk : H[b]? = some (.sl esz xs fro)) (hL : xs.length = L) (hu : P.underlying t = some d) (hd : aggD d = false)
    (he : xs[i]? = some e) (hv : e[off]? = some v) : Quiet P ⟨dst, .load t x, type, pos, after, guard⟩ T H [b] (.d v) := fun φ I w a hR hT => by
  have hiL : i < L := hL ▸ (List.getElem?_eq_some_iff.1 he).1
  obtain ⟨g, δ, arr, ty, hc, hb, hg, hn, hlen, hcs, hz, hI⟩ := VR.eptr_sl hR hk hL (by omega) (hx ▸ ev_VR hT x)
  have hoff : off < esz := by rw [← hlen i e he]; exact (List.getElem?_eq_some_iff.1 hv).1
  have hmul : i * esz + esz ≤ L * esz := by rw [← Nat.succ_mul]; exact Nat.mul_le_mul_right _ hiL
  have hlt : δ + i * esz + off < arr.size := by omega
  refine ⟨arr[δ + i * esz + off], ?_, .d _ _ (hcs i off v _ (by simp [get2, he, hv]) (Array.getElem?_eq_getElem hlt))⟩
  intro w' _ hw'
  have hg' : w'.heap[g]? = some (.cells arr ty (0, 0)) := by rw [hw' b (by simp) _ g hb rfl]; exact hg
  have := run_loadAt_one (P := P) (w := w') (a := ⟨g, δ + i * esz + off, none⟩) (c := arr[δ + i * esz + off]) hu hd (by rw [cell_of hg']; exact Array.getElem?_eq_getElem hlt)
  simp [execOp, hc, this]

theorem q_loadEAgg {t : TypeId} {x : Operand} {b i off esz L : Nat} {xs : List (List D)} {fro : Bool} {d : TypeDesc} {e : List D} {z : Value} {sz bytes : Nat} {vs : List D} (hx : ev T x = .eptr b L i off) (hk : H[b]? = some (.sl esz xs fro)) (hL : xs.length = L)
    (hu : P.underlying t = some d) (hd : aggD d = true) (hi : TyI P t z sz bytes) (he : xs[i]? = some e) (hv : (e.drop off).take sz = vs) (hl : vs.length = sz) : Quiet P ⟨dst, .load t x, type, pos, after, guard⟩ T H [b] (.agg (vs.map .d)) := fun φ I w a hR hT => by
  have hiL : i < L := hL ▸ (List.getElem?_eq_some_iff.1 he).1
  obtain ⟨g, δ, arr, ty, hc, hb, hg, hn, hlen, hcs, hz, hI⟩ := VR.eptr_sl hR hk hL (by omega) (hx ▸ ev_VR hT x)
  have hel := hlen i e he
  have hmul : i * esz + esz ≤ L * esz := by rw [← Nat.succ_mul]; exact Nat.mul_le_mul_right _ hiL
  have hoff : sz = 0 ∨ off + sz ≤ esz := by subst hv; simp at hl; omega
  have hl2 : ((arr.toList.drop (δ + i * esz + off)).take sz).length = sz := by simp; omega
  have hrun := fun (w' : World) (hg' : w'.heap[g]? = some (.cells arr ty (0, 0))) => run_loadAt_agg (P := P) (w := w') (a := ⟨g, δ + i * esz + off, none⟩) (cs := (arr.toList.drop (δ + i * esz + off)).take sz) hu hd hi hl2 fun j v hj => by
    rw [add_none, cell_of hg']
    have hjs : j < sz := by have := (List.getElem?_eq_some_iff.1 hj).1; omega
    rw [List.getElem?_take_of_lt hjs] at hj
    simpa using hj
  refine ⟨.agg ((arr.toList.drop (δ + i * esz + off)).take sz).toArray, fun w' _ hw' => by simp [execOp, hc, hrun w' (by rw [hw' b (by simp) _ g hb rfl]; exact hg)], .agg _ _ (by simp; omega) fun j v c h1 h2 => ?_⟩
  subst hv
  have his : j < sz := by have := (List.getElem?_eq_some_iff.1 h1).1; simp at this; omega
  simp only [List.getElem?_toArray] at h2
  rw [List.getElem?_take_of_lt his] at h2
  simp only [List.getElem?_drop, Array.getElem?_toList] at h2
  simp only [List.getElem?_map, List.getElem?_take_of_lt his, List.getElem?_drop] at h1
  obtain ⟨dd, hdd, rfl⟩ := Option.map_eq_some_iff.1 h1
  exact .d _ _ (hcs i (off + j) dd c (by simp [get2, he, hdd]) (by rw [show δ + i * esz + (off + j) = δ + i * esz + off + j by omega]; exact h2))
end
end Go.VM
namespace Go.VM

/-! ### cells of a value -/
def V.cells? : V → Option (List V)
  | .agg cs => some cs
  | .tuple _ => none
  | .undef => none
  | v => some [v]

theorem VR.cells {φ : List Plc} {I : Nat → Prop} {w : World} {v : V} {c : Value} {vs : List V} (h : VR φ I w v c) (hv : v.cells? = some vs) :
    c.cells.size = vs.length ∧ ∀ (i : Nat) (v : V) (c' : Value), vs[i]? = some v → c.cells[i]? = some c' → VR φ I w v c' := by
  have hone : ∀ (v : V) (c : Value), VR φ I w v c → vone c = true → v.cells? = some [v] → vs = [v] → c.cells.size = vs.length ∧ ∀ (i : Nat) (v : V) (c' : Value), vs[i]? = some v → c.cells[i]? = some c' → VR φ I w v c' := by
    intro v c h hc _ hvs
    subst hvs
    have : c.cells = #[c] := by cases c <;> first | rfl | cases hc
    rw [this]
    refine ⟨rfl, fun i v' c' h1 h2 => ?_⟩
    cases i with
    | zero => simp at h1 h2; subst h1 h2; exact h
    | succ i => simp at h1
  cases h with
  | agg cells cs hl hc =>
    simp only [V.cells?, Option.some.injEq] at hv
    subst hv
    exact ⟨hl.symm, fun i v c' h1 h2 => hc i v c' h1 h2⟩
  | tuple vs cs hl hc => cases hv
  | undef v => cases hv
  | d x _ h => exact hone _ _ (.d x _ h) h.one rfl (Option.some.inj hv).symm
  | nilc => exact hone _ _ .nilc rfl rfl (Option.some.inj hv).symm
  | ref b L off len g δ esz n cap hb h1 h2 h3 h4 => exact hone _ _ (.ref b L off len g δ esz n cap hb h1 h2 h3 h4) rfl rfl (Option.some.inj hv).symm
  | refZ b L off g δ esz n a hb h => exact hone _ _ (.refZ b L off g δ esz n a hb h) rfl rfl (Option.some.inj hv).symm
  | virt b hb => exact hone _ _ (.virt b hb) rfl rfl (Option.some.inj hv).symm
  | refStale b L off len loc a n c hb hs => exact hone _ _ (.refStale b L off len loc a n c hb hs) rfl rfl (Option.some.inj hv).symm
  | ptr b off g n hb => exact hone _ _ (.ptr b off g n hb) rfl rfl (Option.some.inj hv).symm
  | ptrDead b off a hb => exact hone _ _ (.ptrDead b off a hb) rfl rfl (Option.some.inj hv).symm
  | eptr b L i off g δ esz n hb => exact hone _ _ (.eptr b L i off g δ esz n hb) rfl rfl (Option.some.inj hv).symm
  | eptrStale b L i off loc a hb hs => exact hone _ _ (.eptrStale b L i off loc a hb hs) rfl rfl (Option.some.inj hv).symm
  | lptr cells off g o cv hI h1 h2 => exact hone _ _ (.lptr cells off g o cv hI h1 h2) rfl rfl (Option.some.inj hv).symm
  | nilptr => exact hone _ _ .nilptr rfl rfl (Option.some.inj hv).symm
  | fn f caps cs hl hc => exact hone _ _ (.fn f caps cs hl hc) rfl rfl (Option.some.inj hv).symm
  | nilfn => exact hone _ _ .nilfn rfl rfl (Option.some.inj hv).symm

/-! ### fill -/
def vput (cells : List V) (off : Nat) (vs : List V) : List V := cells.take off ++ vs ++ cells.drop (off + vs.length)
def vfill (pl : Nat → Option (Nat × Nat)) (cells : List V) : List (Nat × V) → Option (List V)
  | [] => some cells
  | (i, v) :: rest =>
    match pl i, v.cells? with
    | some (off, size), some vs => if vs.length = size ∧ off + vs.length ≤ cells.length then vfill pl (vput cells off vs) rest else none
    | _, _ => none

theorem fold_set (off : Nat) : ∀ (l : List Value) (k : Nat) (arr : Array Value), off + k + l.length ≤ arr.size →
    ((l.zipIdx k).foldl (fun (cs : Array Value) (c, j) => cs.setIfInBounds (off + j) c) arr).size = arr.size ∧
    ∀ i, ((l.zipIdx k).foldl (fun (cs : Array Value) (c, j) => cs.setIfInBounds (off + j) c) arr)[i]? = if off + k ≤ i ∧ i < off + k + l.length then l[i - (off + k)]? else arr[i]?
  | [], k, arr, h => by
    refine ⟨rfl, fun i => ?_⟩
    rw [if_neg (by simp)]
    rfl
  | c :: l, k, arr, h => by
    simp only [List.length_cons] at h
    have ih := fold_set off l (k + 1) (arr.setIfInBounds (off + k) c) (by simp; omega)
    simp only [List.zipIdx_cons, List.foldl_cons]
    refine ⟨by rw [ih.1]; simp, fun i => ?_⟩
    rw [ih.2 i]
    simp only [List.length_cons]
    by_cases h1 : off + (k + 1) ≤ i ∧ i < off + (k + 1) + l.length
    · rw [if_pos h1, if_pos (by omega)]
      rw [show i - (off + k) = (i - (off + (k + 1))) + 1 by omega]
      rfl
    · rw [if_neg h1]
      by_cases h2 : i = off + k
      · subst h2
        rw [if_pos (by omega)]
        simp only [Nat.sub_self]
        rw [Array.getElem?_setIfInBounds]
        rw [if_pos rfl, if_pos (by omega)]
        rfl
      · rw [if_neg (by omega)]
        rw [Array.getElem?_setIfInBounds, if_neg (fun e => h2 e.symm)]

def AllR (φ : List Plc) (I : Nat → Prop) (w : World) (cells : List V) (arr : Array Value) : Prop :=
  arr.size = cells.length ∧ ∀ (i : Nat) (v : V) (c : Value), cells[i]? = some v → arr[i]? = some c → VR φ I w v c

theorem AllR.put {φ : List Plc} {I : Nat → Prop} {w : World} {cells vs : List V} {arr cs : Array Value} {off : Nat} (h : AllR φ I w cells arr) (hv : AllR φ I w vs cs) (hfit : off + vs.length ≤ cells.length) :
    AllR φ I w (vput cells off vs) (cs.zipIdx.foldl (fun (a : Array Value) (c, j) => a.setIfInBounds (off + j) c) arr) := by
  have hz : cs.zipIdx.foldl (fun (a : Array Value) (c, j) => a.setIfInBounds (off + j) c) arr = ((cs.toList.zipIdx 0).foldl (fun (a : Array Value) (c, j) => a.setIfInBounds (off + j) c) arr) := by
    rw [← Array.foldl_toList, Array.toList_zipIdx]
  have hl : cs.toList.length = vs.length := by rw [Array.length_toList]; exact hv.1
  obtain ⟨h1, h2⟩ := fold_set off cs.toList 0 arr (by rw [hl, h.1]; omega)
  rw [hz]
  refine ⟨by rw [h1, h.1]; simp [vput]; omega, fun i v c hi hc => ?_⟩
  rw [h2 i, hl] at hc
  unfold vput at hi
  rw [List.append_assoc] at hi
  by_cases hin : off + 0 ≤ i ∧ i < off + 0 + vs.length
  · rw [if_pos hin] at hc
    rw [List.getElem?_append_right (by simp; omega), List.getElem?_append_left (by simp; omega)] at hi
    simp only [List.length_take, Array.getElem?_toList] at hi hc
    rw [show min off cells.length = off by omega] at hi
    exact hv.2 _ _ _ hi (by simpa using hc)
  · rw [if_neg hin] at hc
    by_cases hlo : i < off
    · rw [List.getElem?_append_left (by simp; omega), List.getElem?_take_of_lt hlo] at hi
      exact h.2 _ _ _ hi hc
    · rw [List.getElem?_append_right (by simp; omega), List.getElem?_append_right (by simp; omega)] at hi
      simp only [List.length_take, List.getElem?_drop] at hi
      rw [show off + vs.length + (i - min off cells.length - vs.length) = i by omega] at hi
      exact h.2 _ _ _ hi hc

theorem fill_rel {φ : List Plc} {I : Nat → Prop} {w : World} {a : Act} {T : Tm} (hT : TR φ I w T a) (pl : Nat → Option (Nat × Nat)) : ∀ (parts : List (Nat × Operand)) (cells cells' : List V) (arr : Array Value), AllR φ I w cells arr →
    vfill pl cells (parts.map fun p => (p.1, ev T p.2)) = some cells' → ∃ arr', Instr.fill pl arr (parts.map fun p => (p.1, a.eval p.2)) = some arr' ∧ AllR φ I w cells' arr'
  | [], cells, cells', arr, hA, h => by
    simp only [List.map_nil, vfill, Option.some.injEq] at h
    subst h
    exact ⟨arr, rfl, hA⟩
  | (i, x) :: rest, cells, cells', arr, hA, h => by
    simp only [List.map_cons, vfill] at h
    cases hp : pl i with
    | none => simp [hp] at h
    | some q =>
      obtain ⟨off, size⟩ := q
      cases hc : (ev T x).cells? with
      | none => simp [hp, hc] at h
      | some vs =>
        simp only [hp, hc] at h
        split at h
        case isFalse => cases h
        case isTrue hcond =>
          obtain ⟨hs, hall⟩ := (ev_VR hT x).cells hc
          have ih := fill_rel hT pl rest _ cells' _ (hA.put ⟨hs, hall⟩ hcond.2) h
          obtain ⟨arr', h1, h2⟩ := ih
          refine ⟨arr', ?_, h2⟩
          simp only [List.map_cons, Instr.fill, hp]
          rw [if_neg (by simp only [hs, hA.1, bne_iff_ne, ne_eq, Bool.or_eq_true, decide_eq_true_eq, not_or]; omega)]
          exact h1

/-- What building a struct or an array does. -/
def Bld (P : Program) (t : TypeId) (pl : Nat → Option (Nat × Nat)) (z : Value) : Prop :=
  ∀ (w : World) (parts : Array (Nat × Value)) (cells : Array Value), Instr.fill pl z.cells parts.toList = some cells → (Instr.build t parts).run P w = .ok (.agg cells) w

theorem bld_struct {P : Program} {t : TypeId} {fields : Array Field} {z : Value} {sz bytes : Nat} {places : List (Nat × Nat)} (hu : P.underlying t = some (.struct fields)) (hi : TyI P t z sz bytes)
    (hp : fields.toList.mapM (fun f => (P.info? f.type).map fun i => (f.offset, i.size)) = some places) : Bld P t (fun i => places[i]?) z := fun w parts cells h => by
  refine run_build w t parts cells ?_
  obtain ⟨i, h1, h2, _⟩ := hi.get
  simp only [Program.built, h1, hu, h2, hp]
  simpa using h
theorem bld_array {P : Program} {t e : TypeId} {n : Nat} {z ze : Value} {sz bytes se be : Nat} (hu : P.underlying t = some (.array n e)) (hi : TyI P t z sz bytes) (hie : TyI P e ze se be) : Bld P t (fun i => some (i * se, se)) z := fun w parts cells h => by
  refine run_build w t parts cells ?_
  obtain ⟨i, h1, h2, _⟩ := hi.get
  obtain ⟨ie, h3, _, h4, _⟩ := hie.get
  simp only [Program.built, h1, hu, h2, h3, h4]
  exact h

theorem AllR.zero (φ : List Plc) (I : Nat → Prop) (w : World) (z : Value) : AllR φ I w (z.cells.toList.map cv1) z.cells := by
  refine ⟨by simp, fun i v c h1 h2 => ?_⟩
  simp only [List.getElem?_map, Array.getElem?_toList, h2, Option.map_some, Option.some.injEq] at h1
  subst h1
  exact cv1_VR ..

section
variable {P : Program} {T : Tm} {H : List Blk} {dst : Option Tmp} {type : TypeId} {pos : String} {after : Array Edge} {guard : Option (Nat × Bool)}

theorem p_build {t : TypeId} {parts : Array (Nat × Operand)} {pl : Nat → Option (Nat × Nat)} {z : Value} {cells : List V} (hb : Bld P t pl z)
    (hv : vfill pl (z.cells.toList.map cv1) (parts.toList.map fun p => (p.1, ev T p.2)) = some cells := by kernel_rfl) : PureV P ⟨dst, .build t parts, type, pos, after, guard⟩ T H (.agg cells) := fun φ I w a hR hT => by
  obtain ⟨arr, h1, h2⟩ := fill_rel hT pl parts.toList _ cells _ (AllR.zero φ I w z) hv
  have := fun w' => hb w' (parts.map fun p => (p.1, a.eval p.2)) arr (by simpa using h1)
  exact ⟨.agg arr, fun w' => by simp only [execOp, Sem.run_bind, this, Result.andThen_ok, Sem.run_pure], .agg _ _ h2.1.symm h2.2⟩

/-! ### memory made -/
theorem vone_oneCell {c : Value} (h : vone c = true) : c.oneCell' = true := by cases c <;> first | rfl | cases h

/-- A new box. -/
theorem Rel.newBox {φ : List Plc} {I : Nat → Prop} {w : World} (hR : Rel H φ I w) {cells : List V} {arr : Array Value} (e : TypeId) (hA : AllR φ I w cells arr) (ho : ∀ (j : Nat) (v : V), cells[j]? = some v → v.one = true) :
    Rel (H ++ [.box cells]) (φ ++ [.box w.heap.size cells.length]) I (w.alloc (.cells arr e)) ∧ Turn φ I w (φ ++ [.box w.heap.size cells.length]) I (w.alloc (.cells arr e)) ∧
      VR (φ ++ [.box w.heap.size cells.length]) I (w.alloc (.cells arr e)) (.ptr H.length 0) (.pointer (some ⟨w.heap.size, 0, none⟩)) := by
  have hnI : ¬ I w.heap.size := fun h => Nat.lt_irrefl _ (hR.imm _ h)
  have hp := hR.push (.cells arr e) (.box cells) (.box w.heap.size cells.length) (fun x h => h.symm)
    (.box cells w.heap.size arr e (heap_alloc_at w _) hA.1 ho (fun j v c hv hc => (hA.2 j v c hv hc).mono (LE.append _ _) (fun _ h => h) (hR.immLt _)) hnI)
  refine ⟨hp.1, hp.2, .ptr _ _ _ cells.length ?_⟩
  rw [← hR.len, List.getElem?_append_right (Nat.le_refl _)]
  simp

theorem Rel.keepsAlloc {φ : List Plc} {I : Nat → Prop} {w : World} (hR : Rel H φ I w) (o : Obj) (ψ : List Plc) : Keeps φ (φ ++ ψ) [] w (w.alloc o) := Keeps.push φ ψ [] fun b l g hl hg => heap_alloc w o g (hR.lt hl hg)

theorem d_alloc {e : TypeId} {z : Value} {sz bytes : Nat} {cells : List V} (hi : TyI P e z sz bytes) (hc : z.cells.toList.map cv1 = cells) (ho : cells.all V.one = true) :
    Does P ⟨dst, .alloc e, type, pos, after, guard⟩ T H (.ptr H.length 0) (H ++ [.box cells]) [] := fun φ I w a hR hT => by
  subst hc
  obtain ⟨h1, h2, h3⟩ := hR.newBox e (AllR.zero φ I w z) (fun j v hv => List.all_eq_true.1 ho v (List.mem_of_getElem? hv))
  exact ⟨_, I, _, _, .inl (by simp [execOp, Instr.alloc, run_zeroValue hi, newVar, newRow]), h2, h1, h3, hR.keepsAlloc _ _⟩

theorem d_box {e : TypeId} {x : Operand} {cells : List V} (hc : (ev T x).cells? = some cells) (ho : cells.all V.one = true) :
    Does P ⟨dst, .box e x, type, pos, after, guard⟩ T H (.ptr H.length 0) (H ++ [.box cells]) [] := fun φ I w a hR hT => by
  obtain ⟨h1, h2, h3⟩ := hR.newBox e ((ev_VR hT x).cells hc) (fun j v hv => List.all_eq_true.1 ho v (List.mem_of_getElem? hv))
  exact ⟨_, I, _, _, .inl (by simp [execOp, Instr.box, newVar, newRow]), h2, h1, h3, hR.keepsAlloc _ _⟩

/-! ### stores -/
theorem run_storeAt {t : TypeId} {w : World} {g off : Nat} {v : Value} {arr : Array Value} {e : TypeId} {z : Value} {sz bytes : Nat} (hi : TyI P t z sz bytes) (hs : v.cells.size = sz) (hg : w.heap[g]? = some (.cells arr e (0, 0)))
    (hfit : off + sz ≤ arr.size) (h1 : ∀ c ∈ v.cells.toList, c.oneCell' = true) :
    (Instr.storeAt t (.pointer (some ⟨g, off, none⟩)) v).run P w = .ok () (w.setRow g (arr.toList.take off ++ v.cells.toList ++ arr.toList.drop (off + v.cells.toList.length)).toArray) := by
  have := run_storeCells_at P g off e v.cells.toList 0 arr w hg (by simp; omega) h1
  simp only [Nat.add_zero] at this
  simp [Instr.storeAt, Instr.sureAddr, storeVar, run_sizeOf hi, hs, this]

theorem splice_get {α : Type} (l vs : List α) (off : Nat) (hfit : off + vs.length ≤ l.length) (i : Nat) :
    (l.take off ++ vs ++ l.drop (off + vs.length))[i]? = if off ≤ i ∧ i < off + vs.length then vs[i - off]? else l[i]? := by
  rw [List.append_assoc]
  by_cases h1 : i < off
  · rw [if_neg (by omega), List.getElem?_append_left (by simp; omega), List.getElem?_take_of_lt h1]
  · rw [List.getElem?_append_right (by simp; omega)]
    simp only [List.length_take]
    rw [show min off l.length = off by omega]
    by_cases h2 : i < off + vs.length
    · rw [if_pos (by omega), List.getElem?_append_left (by omega)]
    · rw [if_neg (by omega), List.getElem?_append_right (by omega), List.getElem?_drop]
      congr 1
      omega

theorem d_store {t : TypeId} {x y : Operand} {b off : Nat} {cells vs cells' : List V} {z : Value} {sz bytes : Nat} (hx : ev T x = .ptr b off) (hk : H[b]? = some (.box cells)) (hi : TyI P t z sz bytes) (hv : (ev T y).cells? = some vs) (hs : vs.length = sz)
    (ho : vs.all V.one = true) (hfit : off + sz ≤ cells.length) (hc : vput cells off vs = cells') : Does P ⟨dst, .store t x y, type, pos, after, guard⟩ T H .undef (H.set b (.box cells')) [b] := fun φ I w a hR hT => by
  obtain ⟨g, arr, e, hcx, hb, hg, hn, hone, hcs, hI⟩ := VR.ptr_box hR hk (hx ▸ ev_VR hT x)
  obtain ⟨hsz, hall⟩ := (ev_VR hT y).cells hv
  have hlen : (a.eval y).cells.toList.length = vs.length := by rw [Array.length_toList]; exact hsz
  have hrun := run_storeAt (P := P) (w := w) (off := off) (v := a.eval y) hi (by rw [hsz, hs]) hg (by omega) (fun c hc => by
    obtain ⟨i, hi⟩ := List.getElem?_of_mem hc
    have hlt := (List.getElem?_eq_some_iff.1 hi).1
    rw [hlen] at hlt
    have hvi := List.getElem?_eq_getElem hlt
    exact vone_oneCell ((hall i _ c hvi (by simpa using hi)).one (List.all_eq_true.1 ho _ (List.getElem_mem hlt))))
  have hfitA : off + (a.eval y).cells.toList.length ≤ arr.toList.length := by have h0 := Array.length_toList (xs := arr); rw [hlen]; omega
  have hcl : cells'.length = cells.length := by subst hc; simp [vput]; omega
  have hw := hR.write (b := b) (l := .box g cells.length) (l' := .box g cells'.length) (g := g) hb rfl hI (by rw [hcl]; exact .refl _) (fun _ h => h)
    (arr.toList.take off ++ (a.eval y).cells.toList ++ arr.toList.drop (off + (a.eval y).cells.toList.length)).toArray (.box cells')
  have hle : LE φ (φ.set b (.box g cells'.length)) := by rw [hcl, set_same hb]; exact LE.refl φ
  have hsame : ∀ g', I g' → (w.setRow g (arr.toList.take off ++ (a.eval y).cells.toList ++ arr.toList.drop (off + (a.eval y).cells.toList.length)).toArray).heap[g']? = w.heap[g']? := fun g' hg' => setRow_other w g g' _ fun e => hI (e ▸ hg')
  have hget : ∀ (j : Nat) (v : V), cells'[j]? = some v → (off ≤ j ∧ j < off + vs.length ∧ vs[j - off]? = some v) ∨ (¬ (off ≤ j ∧ j < off + vs.length) ∧ cells[j]? = some v) := fun j v hj => by
    subst hc
    unfold vput at hj
    rw [splice_get _ _ _ (by omega)] at hj
    split at hj
    · rename_i h; exact .inl ⟨h.1, h.2, hj⟩
    · rename_i h; exact .inr ⟨h, hj⟩
  obtain ⟨h1, h2, h3⟩ := hw (.box cells' g _ e (setRow_heap w g arr _ e (0, 0) hg) (by simp only [List.size_toArray, List.length_append, List.length_take, List.length_drop, Array.length_toList, hcl]; rw [hsz]; omega) (fun j v hj => by
      rcases hget j v hj with ⟨_, _, h⟩ | ⟨_, h⟩
      · exact List.all_eq_true.1 ho v (List.mem_of_getElem? h)
      · exact hone j v h)
    (fun j v c hj hcj => by
      simp only [List.getElem?_toArray] at hcj
      rw [splice_get _ _ _ hfitA, hlen] at hcj
      rcases hget j v hj with ⟨h3, h4, h⟩ | ⟨h3, h⟩
      · rw [if_pos ⟨h3, h4⟩] at hcj
        exact (hall _ v c h (by simpa using hcj)).mono hle (fun _ h => h) hsame
      · rw [if_neg h3] at hcj
        exact (hcs j v c h (by simpa using hcj)).mono hle (fun _ h => h) hsame) hI)
  exact ⟨_, I, _, undef, .inr ⟨by simp only [execOp, hcx, Sem.run_bind, hrun, Result.andThen_ok, Sem.run_pure], rfl⟩, h2, h1, .undef _, h3⟩
end
end Go.VM
