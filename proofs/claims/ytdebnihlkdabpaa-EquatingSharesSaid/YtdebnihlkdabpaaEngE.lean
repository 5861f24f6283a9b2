/- Addresses, indexes, arithmetic. -/
import Derived.Test.YtdebnihlkdabpaaEngD
namespace Go.VM
set_option linter.unusedVariables false
set_option linter.unusedSimpArgs false

section
variable {P : Program} {T : Tm} {H : List Blk} {dst : Option Tmp} {type : TypeId} {pos : String} {after : Array Edge} {guard : Option (Nat × Bool)}

theorem run_fieldAt {s : TypeId} {f : Nat} {fields : Array Field} {fd : Field} {z : Value} {sz bytes : Nat} {w : World} (hu : P.underlying s = some (.struct fields)) (hf : fields[f]? = some fd) (hi : TyI P fd.type z sz bytes) (h0 : sz ≠ 0) (a : Addr) :
    (Instr.fieldAt s (.pointer (some a)) f).run P w = .ok (.pointer (some (a.add fd.offset))) w := by
  simp [Instr.fieldAt, run_underlying hu, hf, Instr.sureAddr, fieldPlace, run_sizeOf hi, h0]

theorem p_fieldAddr {s : TypeId} {x : Operand} {f b off o2 : Nat} {fields : Array Field} {fd : Field} {z : Value} {sz bytes : Nat} (hx : ev T x = .ptr b off) (hu : P.underlying s = some (.struct fields)) (hf : fields[f]? = some fd) (hi : TyI P fd.type z sz bytes) (h0 : sz ≠ 0)
    {cells : List V} (hk : H[b]? = some (.box cells)) (ho : off + fd.offset = o2) : PureV P ⟨dst, .fieldAddr s x f, type, pos, after, guard⟩ T H (.ptr b o2) := fun φ I w a hR hT => by
  obtain ⟨g, arr, e, hc, hb, hg, hn, hone, hcs, hI⟩ := VR.ptr_box hR hk (hx ▸ ev_VR hT x)
  subst ho
  have := fun w' : World => run_fieldAt (P := P) (w := w') hu hf hi h0 ⟨g, off, none⟩
  simp only [add_none] at this
  exact ⟨_, fun w' => by simp only [execOp, hc, Sem.run_bind, this, Result.andThen_ok, Sem.run_pure], .ptr _ _ _ _ hb⟩

theorem p_fieldAddrE {s : TypeId} {x : Operand} {f b L i off o2 : Nat} {fields : Array Field} {fd : Field} {z : Value} {sz bytes : Nat} (hx : ev T x = .eptr b L i off) (hu : P.underlying s = some (.struct fields)) (hf : fields[f]? = some fd) (hi : TyI P fd.type z sz bytes) (h0 : sz ≠ 0)
    {esz : Nat} {xs : List (List D)} {fro : Bool} (hk : H[b]? = some (.sl esz xs fro)) (hL : xs.length = L) (hiL : i < L) (ho : off + fd.offset = o2) : PureV P ⟨dst, .fieldAddr s x f, type, pos, after, guard⟩ T H (.eptr b L i o2) := fun φ I w a hR hT => by
  obtain ⟨g, δ, arr, ty, hc, hb, hg, hn, hlen, hcs, hz, hI⟩ := VR.eptr_sl hR hk hL (by omega) (hx ▸ ev_VR hT x)
  subst ho
  have := fun w' : World => run_fieldAt (P := P) (w := w') hu hf hi h0 ⟨g, δ + i * esz + off, none⟩
  simp only [add_none] at this
  refine ⟨.pointer (some ⟨g, δ + i * esz + off + fd.offset, none⟩), fun w' => by simp only [execOp, hc, Sem.run_bind, this, Result.andThen_ok, Sem.run_pure], ?_⟩
  rw [Nat.add_assoc]
  exact .eptr _ _ _ _ _ _ _ _ hb

theorem p_fieldAddrL {s : TypeId} {x : Operand} {f off o2 : Nat} {cells : List D} {fields : Array Field} {fd : Field} {z : Value} {sz bytes : Nat} (hx : ev T x = .lptr cells off) (hu : P.underlying s = some (.struct fields)) (hf : fields[f]? = some fd) (hi : TyI P fd.type z sz bytes) (h0 : sz ≠ 0)
    (ho : off + fd.offset = o2) : PureV P ⟨dst, .fieldAddr s x f, type, pos, after, guard⟩ T H (.lptr cells o2) := fun φ I w a hR hT => by
  obtain ⟨g, o, cv, hc, hI, h1, h2⟩ := VR.lptr_inv (hx ▸ ev_VR hT x)
  subst ho
  have := fun w' : World => run_fieldAt (P := P) (w := w') hu hf hi h0 ⟨g, o + off, none⟩
  simp only [add_none] at this
  refine ⟨.pointer (some ⟨g, o + off + fd.offset, none⟩), fun w' => by simp only [execOp, hc, Sem.run_bind, this, Result.andThen_ok, Sem.run_pure], ?_⟩
  rw [Nat.add_assoc]
  exact .lptr cells _ g o cv hI h1 h2

theorem VR.agg_inv {φ : List Plc} {I : Nat → Prop} {w : World} {cells : List V} {c : Value} (h : VR φ I w (.agg cells) c) : ∃ cs, c = .agg cs ∧ AllR φ I w cells cs := by
  cases h with
  | agg _ cs hl hc => exact ⟨cs, rfl, hl.symm, hc⟩
theorem VR.tuple_inv {φ : List Plc} {I : Nat → Prop} {w : World} {cells : List V} {c : Value} (h : VR φ I w (.tuple cells) c) : ∃ cs, c = .tuple cs ∧ AllR φ I w cells cs := by
  cases h with
  | tuple _ cs hl hc => exact ⟨cs, rfl, hl.symm, hc⟩

theorem run_part_one {t : TypeId} {d : TypeDesc} {w : World} {cs : Array Value} {off : Nat} {c : Value} (hu : P.underlying t = some d) (hd : aggD d = false) (hc : cs[off]? = some c) : (part t cs off).run P w = .ok c w := by
  simp [part, run_isAgg hu hd, hc]
theorem run_part_agg {t : TypeId} {d : TypeDesc} {w : World} {cs : Array Value} {off : Nat} {z : Value} {sz bytes : Nat} (hu : P.underlying t = some d) (hd : aggD d = true) (hi : TyI P t z sz bytes) :
    (part t cs off).run P w = .ok (.agg (cs.extract off (off + sz))) w := by
  simp [part, run_isAgg hu hd, run_sizeOf hi]

theorem AllR.extract {φ : List Plc} {I : Nat → Prop} {w : World} {cells : List V} {cs : Array Value} (h : AllR φ I w cells cs) {off sz : Nat} (hfit : off + sz ≤ cells.length) : VR φ I w (.agg ((cells.drop off).take sz)) (.agg (cs.extract off (off + sz))) := by
  have := h.1
  refine .agg _ _ (by simp; omega) fun i v c h1 h2 => ?_
  have his : i < sz := by have := (List.getElem?_eq_some_iff.1 h1).1; simp at this; omega
  rw [List.getElem?_take_of_lt his, List.getElem?_drop] at h1
  rw [Array.getElem?_extract, if_pos (by omega)] at h2
  exact h.2 _ _ _ h1 h2

theorem p_field {t : TypeId} {x : Operand} {f : Nat} {cells : List V} {fields : Array Field} {fd : Field} {d : TypeDesc} {v : V} (hx : ev T x = .agg cells) (hu : P.underlying t = some (.struct fields)) (hf : fields[f]? = some fd) (hu2 : P.underlying fd.type = some d) (hd : aggD d = false)
    (hv : cells[fd.offset]? = some v) : PureV P ⟨dst, .field t x f, type, pos, after, guard⟩ T H v := fun φ I w a hR hT => by
  obtain ⟨cs, hc, hA⟩ := VR.agg_inv (hx ▸ ev_VR hT x)
  have hlt : fd.offset < cs.size := by rw [hA.1]; exact (List.getElem?_eq_some_iff.1 hv).1
  exact ⟨cs[fd.offset], fun w' => by simp [execOp, hc, Instr.field, run_underlying hu, hf, asAgg, run_part_one hu2 hd (Array.getElem?_eq_getElem hlt)], hA.2 _ _ _ hv (Array.getElem?_eq_getElem hlt)⟩

theorem p_fieldAgg {t : TypeId} {x : Operand} {f : Nat} {cells vs : List V} {fields : Array Field} {fd : Field} {d : TypeDesc} {z : Value} {sz bytes : Nat} (hx : ev T x = .agg cells) (hu : P.underlying t = some (.struct fields)) (hf : fields[f]? = some fd) (hu2 : P.underlying fd.type = some d) (hd : aggD d = true)
    (hi : TyI P fd.type z sz bytes) (hv : (cells.drop fd.offset).take sz = vs) (hfit : fd.offset + sz ≤ cells.length) : PureV P ⟨dst, .field t x f, type, pos, after, guard⟩ T H (.agg vs) := fun φ I w a hR hT => by
  obtain ⟨cs, hc, hA⟩ := VR.agg_inv (hx ▸ ev_VR hT x)
  subst hv
  exact ⟨_, fun w' => by simp [execOp, hc, Instr.field, run_underlying hu, hf, asAgg, run_part_agg hu2 hd hi], hA.extract hfit⟩

theorem p_index {t e : TypeId} {n : Nat} {x y : Operand} {k : IntKind} {i : Int} {cells : List V} {d : TypeDesc} {z : Value} {bytes : Nat} {v : V} (hx : ev T x = .agg cells) (hy : ev T y = .d (.int k i)) (hu : P.underlying t = some (.array n e)) (hu2 : P.underlying e = some d) (hd : aggD d = false)
    (hi : TyI P e z 1 bytes) (h0 : 0 ≤ i) (h1 : i < n) (hv : cells[i.toNat]? = some v) : PureV P ⟨dst, .index t x y, type, pos, after, guard⟩ T H v := fun φ I w a hR hT => by
  obtain ⟨cs, hc, hA⟩ := VR.agg_inv (hx ▸ ev_VR hT x)
  have hc2 := (hy ▸ ev_VR hT y).int_inv
  have hlt : i.toNat < cs.size := by rw [hA.1]; exact (List.getElem?_eq_some_iff.1 hv).1
  exact ⟨cs[i.toNat], fun w' => by simp [execOp, hc, hc2, Instr.index, asIntOf, run_underlying hu, h0, h1, run_sizeOf hi, run_part_one hu2 hd (Array.getElem?_eq_getElem hlt)], hA.2 _ _ _ hv (Array.getElem?_eq_getElem hlt)⟩

theorem p_indexAgg {t e : TypeId} {n : Nat} {x y : Operand} {k : IntKind} {i : Int} {cells vs : List V} {d : TypeDesc} {z : Value} {sz bytes : Nat} (hx : ev T x = .agg cells) (hy : ev T y = .d (.int k i)) (hu : P.underlying t = some (.array n e)) (hu2 : P.underlying e = some d) (hd : aggD d = true)
    (hi : TyI P e z sz bytes) (h0 : 0 ≤ i) (h1 : i < n) (hv : (cells.drop (i.toNat * sz)).take sz = vs) (hfit : i.toNat * sz + sz ≤ cells.length) : PureV P ⟨dst, .index t x y, type, pos, after, guard⟩ T H (.agg vs) := fun φ I w a hR hT => by
  obtain ⟨cs, hc, hA⟩ := VR.agg_inv (hx ▸ ev_VR hT x)
  have hc2 := (hy ▸ ev_VR hT y).int_inv
  subst hv
  exact ⟨_, fun w' => by simp [execOp, hc, hc2, Instr.index, asIntOf, run_underlying hu, h0, h1, run_sizeOf hi, run_part_agg hu2 hd hi], hA.extract hfit⟩

theorem p_extract {x : Operand} {i : Nat} {vs : List V} {v : V} (hx : ev T x = .tuple vs) (hv : vs[i]? = some v) : PureV P ⟨dst, .extract x i, type, pos, after, guard⟩ T H v := fun φ I w a hR hT => by
  obtain ⟨cs, hc, hA⟩ := VR.tuple_inv (hx ▸ ev_VR hT x)
  have hlt : i < cs.size := by rw [hA.1]; exact (List.getElem?_eq_some_iff.1 hv).1
  exact ⟨cs[i], fun w' => by simp [execOp, hc, Instr.extract, Array.getElem?_eq_getElem hlt], hA.2 _ _ _ hv (Array.getElem?_eq_getElem hlt)⟩

/-! ### index by address -/
theorem run_indexAt_sl {t e : TypeId} {w : World} {g o len cap : Nat} {k : IntKind} {i : Int} {z : Value} {sz bytes : Nat} (hu : P.underlying t = some (.slice e)) (hi : TyI P e z sz bytes) (h0 : 0 ≤ i) (h1 : i < len) :
    (Instr.indexAt t (.slice (some ⟨g, o, none⟩) len cap) (.int k i)).run P w = .ok (.pointer (some ⟨g, o + i.toNat * sz, none⟩)) w := by
  simp [Instr.indexAt, run_underlying hu, asIntOf, h0, h1, run_sizeOf hi, add_none]

theorem VR.lit_inv {φ : List Plc} {I : Nat → Prop} {w : World} {xs : List (List D)} {c : Value} (h : VR φ I w (.d (.lit xs)) c) : (xs = [] ∧ ∃ a cap, c = .slice a 0 cap) ∨
    ∃ (g o esz cap : Nat) (cv : Nat → Nat → Value), c = .slice (some ⟨g, o, none⟩) xs.length cap ∧ I g ∧ (∀ (i : Nat) (e : List D), xs[i]? = some e → e.length = esz) ∧
      (∀ (i j : Nat) (d : D), get2 xs i j = some d → w.cell? ⟨g, o + i * esz + j, none⟩ = some (cv i j)) ∧ (∀ (i j : Nat) (d : D), get2 xs i j = some d → DR I w d (cv i j)) := by
  cases h with
  | d _ _ h =>
    cases h with
    | nil a cap => exact .inl ⟨rfl, a, cap, rfl⟩
    | lit _ g o esz cap cv hI hlen hcell hd => exact .inr ⟨g, o, esz, cap, cv, rfl, hI, hlen, hcell, hd⟩
theorem VR.lit_cap {φ : List Plc} {I : Nat → Prop} {w : World} {xs : List (List D)} {a : Option Addr} {len cap : Nat} (h : VR φ I w (.d (.lit xs)) (.slice a len cap)) : len ≤ cap := by
  cases h with
  | d _ _ h =>
    cases h with
    | nil a cap => exact Nat.zero_le _
    | lit _ g o esz cap cv hI hlen hcell hd hcap => exact hcap

theorem p_idxLit {t e : TypeId} {x y : Operand} {k : IntKind} {i : Int} {xs : List (List D)} {z : Value} {sz bytes : Nat} {c : List D} (hx : ev T x = .d (.lit xs)) (hy : ev T y = .d (.int k i)) (hu : P.underlying t = some (.slice e)) (hi : TyI P e z sz bytes) (h0 : 0 ≤ i)
    (he : xs[i.toNat]? = some c) (hs : c.length = sz) : PureV P ⟨dst, .indexAddr t x y, type, pos, after, guard⟩ T H (.lptr c 0) := fun φ I w a hR hT => by
  have hc2 := (hy ▸ ev_VR hT y).int_inv
  have hlt := (List.getElem?_eq_some_iff.1 he).1
  rcases VR.lit_inv (hx ▸ ev_VR hT x) with ⟨rfl, _⟩ | ⟨g, o, esz, cap, cv, hc, hI, hlen, hcell, hd⟩
  · simp at he
  · have hes : esz = sz := by rw [← hlen _ _ he, hs]
    subst hes
    have hrun := fun w' : World => run_indexAt_sl (P := P) (w := w') (g := g) (o := o) (len := xs.length) (cap := cap) (k := k) (i := i) hu hi h0 (by omega)
    refine ⟨.pointer (some ⟨g, o + i.toNat * esz, none⟩), fun w' => by simp only [execOp, hc, hc2, Sem.run_bind, hrun, Result.andThen_ok, Sem.run_pure], ?_⟩
    have := VR.lptr (φ := φ) (I := I) (w := w) c 0 g (o + i.toNat * esz) (fun j => cv i.toNat j) hI (fun j d hj => hcell i.toNat j d (by simp [get2, he, hj])) (fun j d hj => hd i.toNat j d (by simp [get2, he, hj]))
    simpa using this

/-- A slice over a block of the machine. -/
theorem VR.ref_inv {φ : List Plc} {I : Nat → Prop} {w : World} {b L off len esz : Nat} {xs : List (List D)} {fro : Bool} {c : Value} (hR : Rel H φ I w) (hk : H[b]? = some (.sl esz xs fro)) (hL : xs.length = L) (h : VR φ I w (.ref b L off len) c) :
    (φ[b]? = some .virt ∧ xs = [] ∧ L = 0 ∧ off = 0 ∧ len = 0 ∧ c = .slice none 0 0) ∨
    (len = 0 ∧ off ≤ L ∧ ∃ a g δ n, c = .slice a 0 0 ∧ φ[b]? = some (.at g δ esz L n)) ∨
    ∃ g δ arr e cap, c = .slice (some ⟨g, δ + off * esz, none⟩) len cap ∧ φ[b]? = some (.at g δ esz L arr.size) ∧ w.heap[g]? = some (.cells arr e (0, 0)) ∧ δ + L * esz ≤ arr.size ∧ (∀ (i : Nat) (x : List D), xs[i]? = some x → x.length = esz) ∧
      (∀ (i j : Nat) (d : D) (c : Value), get2 xs i j = some d → arr[δ + i * esz + j]? = some c → DR I w d c) ∧ 0 < esz ∧ (fro = true ↔ I g) ∧ off + len ≤ L ∧ len ≤ cap ∧ L ≤ off + cap ∧ δ + (off + cap) * esz ≤ arr.size := by
  have hblt : b < φ.length := by rw [hR.len]; exact (List.getElem?_eq_some_iff.1 hk).1
  have hbr := hR.blk b _ _ hk (List.getElem?_eq_getElem hblt)
  have hφ := List.getElem?_eq_getElem hblt
  generalize φ[b] = l at hbr hφ
  cases hbr with
  | virt =>
    cases h with
    | ref _ _ _ _ g δ esz' n cap hb => rw [hφ] at hb; cases hb
    | refZ _ _ _ g δ esz' n a hb => rw [hφ] at hb; cases hb
    | virt _ hb => exact .inl ⟨hφ, rfl, rfl, rfl, rfl, rfl⟩
    | refStale _ _ _ _ loc a n c hb hs => rw [hφ] at hb; cases hb; exact hs.elim
  | sl esz xs fro g δ arr e hg hn hlen hc hz hI =>
    subst hL
    generalize hLn : xs.length = L at *
    cases h with
    | ref _ _ _ _ g' δ' esz' n cap hb h1 h2 h3 h4 =>
      rw [hφ] at hb
      cases hb
      exact .inr (.inr ⟨g, δ, arr, e, cap, rfl, hφ, hg, hn, hlen, hc, hz, hI, h1, h2, h3, h4⟩)
    | refZ _ _ _ g' δ' esz' n a hb h =>
      rw [hφ] at hb
      cases hb
      exact .inr (.inl ⟨rfl, h, a, g, δ, _, rfl, hφ⟩)
    | virt _ hb => rw [hφ] at hb; cases hb
    | refStale _ _ _ _ loc a n c hb hs => rw [hφ] at hb; cases hb; exact absurd hs (Nat.lt_irrefl _)

theorem p_idxRef {t e : TypeId} {x y : Operand} {k : IntKind} {i : Int} {b L off len j sz : Nat} {xs : List (List D)} {fro : Bool} {z : Value} {bytes : Nat} (hx : ev T x = .ref b L off len) (hy : ev T y = .d (.int k i)) (hk : H[b]? = some (.sl sz xs fro)) (hL : xs.length = L)
    (hu : P.underlying t = some (.slice e)) (hi : TyI P e z sz bytes) (h0 : 0 ≤ i) (h1 : i < len) (hj : off + i.toNat = j) : PureV P ⟨dst, .indexAddr t x y, type, pos, after, guard⟩ T H (.eptr b L j 0) := fun φ I w a hR hT => by
  have hc2 := (hy ▸ ev_VR hT y).int_inv
  subst hj
  rcases VR.ref_inv hR hk hL (hx ▸ ev_VR hT x) with ⟨_, _, _, _, rfl, _⟩ | ⟨rfl, _⟩ | ⟨g, δ, arr, ty, cap, hc, hb, hg, hn, hlen, hcs, hz, hI, g1, g2, g3, g4⟩
  · omega
  · omega
  · have hrun := fun w' : World => run_indexAt_sl (P := P) (w := w') (g := g) (o := δ + off * sz) (len := len) (cap := cap) (k := k) (i := i) hu hi h0 h1
    refine ⟨.pointer (some ⟨g, δ + off * sz + i.toNat * sz, none⟩), fun w' => by simp only [execOp, hc, hc2, Sem.run_bind, hrun, Result.andThen_ok, Sem.run_pure], ?_⟩
    have := VR.eptr (φ := φ) (I := I) (w := w) b L (off + i.toNat) 0 g δ sz arr.size hb
    rw [show δ + off * sz + i.toNat * sz = δ + (off + i.toNat) * sz + 0 by rw [Nat.add_mul]; omega]
    exact this

/-- An array that lies in a box. -/
theorem run_indexAt_arr {t e : TypeId} {w : World} {a : Addr} {n : Nat} {k : IntKind} {i : Int} {z : Value} {sz bytes : Nat} (hu : P.underlying t = some (.array n e)) (hi : TyI P e z sz bytes) (h0 : 0 ≤ i) (h1 : i < n) :
    (Instr.indexAt t (.pointer (some a)) (.int k i)).run P w = .ok (.pointer (some (a.add (i.toNat * sz)))) w := by
  simp [Instr.indexAt, run_underlying hu, asIntOf, Instr.sureAddr, h0, h1, run_sizeOf hi]

theorem p_idxArr {t e : TypeId} {n : Nat} {x y : Operand} {k : IntKind} {i : Int} {b off o2 : Nat} {cells : List V} {z : Value} {sz bytes : Nat} (hx : ev T x = .ptr b off) (hy : ev T y = .d (.int k i)) (hk : H[b]? = some (.box cells)) (hu : P.underlying t = some (.array n e)) (hi : TyI P e z sz bytes)
    (h0 : 0 ≤ i) (h1 : i < n) (ho : off + i.toNat * sz = o2) : PureV P ⟨dst, .indexAddr t x y, type, pos, after, guard⟩ T H (.ptr b o2) := fun φ I w a hR hT => by
  have hc2 := (hy ▸ ev_VR hT y).int_inv
  obtain ⟨g, arr, ty, hc, hb, hg, hn, hone, hcs, hI⟩ := VR.ptr_box hR hk (hx ▸ ev_VR hT x)
  subst ho
  have hrun := fun w' : World => run_indexAt_arr (P := P) (w := w') (a := ⟨g, off, none⟩) (k := k) hu hi h0 h1
  simp only [add_none] at hrun
  exact ⟨.pointer (some ⟨g, off + i.toNat * sz, none⟩), fun w' => by simp only [execOp, hc, hc2, Sem.run_bind, hrun, Result.andThen_ok, Sem.run_pure], .ptr _ _ _ _ hb⟩

/-! ### arithmetic -/
def ivop (op : BinOp) (k : IntKind) (a b : Int) : Option D :=
  match op with
  | .add => some (.int k (k.wrap (a + b)))
  | .sub => some (.int k (k.wrap (a - b)))
  | .mul => some (.int k (k.wrap (a * b)))
  | .and => some (.int k (k.wrap (BitVec.ofInt k.bits a &&& BitVec.ofInt k.bits b).toNat))
  | .or => some (.int k (k.wrap (BitVec.ofInt k.bits a ||| BitVec.ofInt k.bits b).toNat))
  | .xor => some (.int k (k.wrap (BitVec.ofInt k.bits a ^^^ BitVec.ofInt k.bits b).toNat))
  | .eql => some (.bool (a == b))
  | .neq => some (.bool (a != b))
  | .lss => some (.bool (decide (a < b)))
  | .leq => some (.bool (decide (a ≤ b)))
  | .gtr => some (.bool (decide (a > b)))
  | .geq => some (.bool (decide (a ≥ b)))
  | _ => none

theorem p_int {op : BinOp} {t t2 : TypeId} {x y : Operand} {k : IntKind} {p q : Int} {v : D} (hx : ev T x = .d (.int k p) := by kernel_rfl) (hy : ev T y = .d (.int k q) := by kernel_rfl) (h : ivop op k p q = some v := by kernel_rfl) : PureV P ⟨dst, .binOp op t x y t2, type, pos, after, guard⟩ T H (.d v) := fun φ I w a hR hT => by
  have hc1 := (hx ▸ ev_VR hT x).int_inv
  have hc2 := (hy ▸ ev_VR hT y).int_inv
  cases op <;> simp only [ivop, Option.some.injEq, reduceCtorEq] at h <;> subst h <;>
    exact ⟨_, fun w' => by simp [execOp, hc1, hc2, eqGuard, binOp, Op.intArith, Op.intBits, Op.intCmp]; rfl, .d _ _ (by constructor)⟩

theorem p_quo {t t2 : TypeId} {x y : Operand} {k : IntKind} {p q : Int} {v : D} (hx : ev T x = .d (.int k p) := by kernel_rfl) (hy : ev T y = .d (.int k q) := by kernel_rfl) (hq : q ≠ 0) (h : D.int k (k.wrap (p.tdiv q)) = v := by kernel_rfl) : PureV P ⟨dst, .binOp .quo t x y t2, type, pos, after, guard⟩ T H (.d v) := fun φ I w a hR hT => by
  have hc1 := (hx ▸ ev_VR hT x).int_inv
  have hc2 := (hy ▸ ev_VR hT y).int_inv
  subst h
  exact ⟨_, fun w' => by simp [execOp, hc1, hc2, eqGuard, binOp, Op.intDiv, hq], .d _ _ (.int _ _)⟩
theorem p_rem {t t2 : TypeId} {x y : Operand} {k : IntKind} {p q : Int} {v : D} (hx : ev T x = .d (.int k p) := by kernel_rfl) (hy : ev T y = .d (.int k q) := by kernel_rfl) (hq : q ≠ 0) (h : D.int k (p.tmod q) = v := by kernel_rfl) : PureV P ⟨dst, .binOp .rem t x y t2, type, pos, after, guard⟩ T H (.d v) := fun φ I w a hR hT => by
  have hc1 := (hx ▸ ev_VR hT x).int_inv
  have hc2 := (hy ▸ ev_VR hT y).int_inv
  subst h
  exact ⟨_, fun w' => by simp [execOp, hc1, hc2, eqGuard, binOp, Op.intDiv, hq], .d _ _ (.int _ _)⟩

theorem p_shl {t t2 : TypeId} {x y : Operand} {k k2 : IntKind} {p q : Int} {v : D} (hx : ev T x = .d (.int k p) := by kernel_rfl) (hy : ev T y = .d (.int k2 q) := by kernel_rfl) (hq : 0 ≤ q) (h : D.int k (k.wrap (p * 2 ^ (min q.toNat k.bits))) = v := by kernel_rfl) : PureV P ⟨dst, .binOp .shl t x y t2, type, pos, after, guard⟩ T H (.d v) := fun φ I w a hR hT => by
  have hc1 := (hx ▸ ev_VR hT x).int_inv
  have hc2 := (hy ▸ ev_VR hT y).int_inv
  subst h
  exact ⟨_, fun w' => by simp [execOp, hc1, hc2, eqGuard, binOp, Op.shift, Int.not_lt.2 hq], .d _ _ (.int _ _)⟩
theorem p_shr {t t2 : TypeId} {x y : Operand} {k k2 : IntKind} {p q : Int} {v : D} (hx : ev T x = .d (.int k p) := by kernel_rfl) (hy : ev T y = .d (.int k2 q) := by kernel_rfl) (hq : 0 ≤ q) (h : D.int k (p.fdiv (2 ^ (min q.toNat k.bits))) = v := by kernel_rfl) : PureV P ⟨dst, .binOp .shr t x y t2, type, pos, after, guard⟩ T H (.d v) := fun φ I w a hR hT => by
  have hc1 := (hx ▸ ev_VR hT x).int_inv
  have hc2 := (hy ▸ ev_VR hT y).int_inv
  subst h
  exact ⟨_, fun w' => by simp [execOp, hc1, hc2, eqGuard, binOp, Op.shift, Int.not_lt.2 hq], .d _ _ (.int _ _)⟩

theorem p_boolEq {t t2 : TypeId} {x y : Operand} {p q : Bool} {v : Bool} (hx : ev T x = .d (.bool p) := by kernel_rfl) (hy : ev T y = .d (.bool q) := by kernel_rfl) (hu : P.underlying t = some .bool) (h : (p == q) = v := by kernel_rfl) : PureV P ⟨dst, .binOp .eql t x y t2, type, pos, after, guard⟩ T H (.d (.bool v)) := fun φ I w a hR hT => by
  have hc1 := (hx ▸ ev_VR hT x).bool_inv
  have hc2 := (hy ▸ ev_VR hT y).bool_inv
  subst h
  exact ⟨_, fun w' => by simp [execOp, hc1, hc2, eqGuard, run_eql_bool w' t p q hu], .d _ _ (.bool _)⟩
theorem p_boolNe {t t2 : TypeId} {x y : Operand} {p q : Bool} {v : Bool} (hx : ev T x = .d (.bool p) := by kernel_rfl) (hy : ev T y = .d (.bool q) := by kernel_rfl) (hu : P.underlying t = some .bool) (h : (!(p == q)) = v := by kernel_rfl) : PureV P ⟨dst, .binOp .neq t x y t2, type, pos, after, guard⟩ T H (.d (.bool v)) := fun φ I w a hR hT => by
  have hc1 := (hx ▸ ev_VR hT x).bool_inv
  have hc2 := (hy ▸ ev_VR hT y).bool_inv
  subst h
  exact ⟨_, fun w' => by simp [execOp, hc1, hc2, eqGuard, run_neq_bool w' t p q hu], .d _ _ (.bool _)⟩

theorem p_not {t : TypeId} {x : Operand} {p v : Bool} (hx : ev T x = .d (.bool p) := by kernel_rfl) (h : (!p) = v := by kernel_rfl) : PureV P ⟨dst, .unOp .not t x, type, pos, after, guard⟩ T H (.d (.bool v)) := fun φ I w a hR hT => by
  have hc1 := (hx ▸ ev_VR hT x).bool_inv
  subst h
  exact ⟨_, fun w' => by simp [execOp, hc1, Op.unary], .d _ _ (.bool _)⟩
theorem p_neg {t : TypeId} {x : Operand} {k : IntKind} {p : Int} {v : D} (hx : ev T x = .d (.int k p) := by kernel_rfl) (h : D.int k (k.wrap (0 - p)) = v := by kernel_rfl) : PureV P ⟨dst, .unOp .neg t x, type, pos, after, guard⟩ T H (.d v) := fun φ I w a hR hT => by
  have hc1 := (hx ▸ ev_VR hT x).int_inv
  subst h
  exact ⟨.int k (k.wrap (0 - p)), fun w' => by simp [execOp, hc1, Op.unary, Op.intArith], .d _ _ (.int _ _)⟩

theorem p_conv {s t : TypeId} {x : Operand} {k k2 : IntKind} {p : Int} {d : TypeDesc} {v : D} (hx : ev T x = .d (.int k p) := by kernel_rfl) (hu1 : P.underlying s = some d) (hu2 : P.underlying t = some (.int k2)) (h : D.int k2 (k2.wrap p) = v := by kernel_rfl) : PureV P ⟨dst, .convert s t x, type, pos, after, guard⟩ T H (.d v) := fun φ I w a hR hT => by
  have hc1 := (hx ▸ ev_VR hT x).int_inv
  subst h
  exact ⟨.int k2 (k2.wrap p), fun w' => by simp [execOp, hc1, convert, run_underlying hu1, run_underlying hu2, Conv.intToInt], .d _ _ (.int _ _)⟩

/-! ### len, max, min -/
theorem p_lenLit {t : TypeId} {x : Operand} {e : TypeId} {xs : List (List D)} {n : Nat} (hx : ev T x = .d (.lit xs)) (hu : P.underlying t = some (.slice e)) (hn : xs.length = n) : PureV P ⟨dst, .call ⟨.builtin .len, #[x], #[t]⟩, type, pos, after, guard⟩ T H (.d (.int .i64 n)) := fun φ I w a hR hT => by
  subst hn
  rcases VR.lit_inv (hx ▸ ev_VR hT x) with ⟨rfl, a0, cap, hc⟩ | ⟨g, o, esz, cap, cv, hc, _⟩
  · exact ⟨.int .i64 0, fun w' => by simp [execOp, resolve, invoke, builtin, hc, Builtin.len_, run_underlying hu, goInt], .d _ _ (.int _ _)⟩
  · exact ⟨.int .i64 xs.length, fun w' => by simp [execOp, resolve, invoke, builtin, hc, Builtin.len_, run_underlying hu, goInt], .d _ _ (.int _ _)⟩
theorem p_lenRef {t : TypeId} {x : Operand} {e : TypeId} {b L off len esz : Nat} {xs : List (List D)} {fro : Bool} (hx : ev T x = .ref b L off len) (hk : H[b]? = some (.sl esz xs fro)) (hL : xs.length = L) (hu : P.underlying t = some (.slice e)) :
    PureV P ⟨dst, .call ⟨.builtin .len, #[x], #[t]⟩, type, pos, after, guard⟩ T H (.d (.int .i64 len)) := fun φ I w a hR hT => by
  rcases VR.ref_inv hR hk hL (hx ▸ ev_VR hT x) with ⟨_, _, _, _, rfl, hc⟩ | ⟨rfl, _, a0, _, _, _, hc, _⟩ | ⟨g, δ, arr, ty, cap, hc, _⟩
  · exact ⟨.int .i64 0, fun w' => by simp [execOp, resolve, invoke, builtin, hc, Builtin.len_, run_underlying hu, goInt], .d _ _ (.int _ _)⟩
  · exact ⟨.int .i64 0, fun w' => by simp [execOp, resolve, invoke, builtin, hc, Builtin.len_, run_underlying hu, goInt], .d _ _ (.int _ _)⟩
  · exact ⟨.int .i64 len, fun w' => by simp [execOp, resolve, invoke, builtin, hc, Builtin.len_, run_underlying hu, goInt], .d _ _ (.int _ _)⟩
theorem p_lenNil {t : TypeId} {x : Operand} {e : TypeId} (hx : ev T x = .nilc) (hu : P.underlying t = some (.slice e)) : PureV P ⟨dst, .call ⟨.builtin .len, #[x], #[t]⟩, type, pos, after, guard⟩ T H (.d (.int .i64 0)) := fun φ I w a hR hT => by
  have hc := (hx ▸ ev_VR hT x).nilc_inv
  exact ⟨.int .i64 0, fun w' => by simp [execOp, resolve, invoke, builtin, hc, Builtin.len_, run_underlying hu, goInt], .d _ _ (.int _ _)⟩
theorem p_lenArr {t : TypeId} {x : Operand} {e : TypeId} {n : Nat} (hu : P.underlying t = some (.array n e)) : PureV P ⟨dst, .call ⟨.builtin .len, #[x], #[t]⟩, type, pos, after, guard⟩ T H (.d (.int .i64 n)) := fun φ I w a hR hT =>
  ⟨.int .i64 n, fun w' => by simp [execOp, resolve, invoke, builtin, Builtin.len_, run_underlying hu, goInt], .d _ _ (.int _ _)⟩

theorem p_max2 {t1 t2 : TypeId} {x y : Operand} {k : IntKind} {p q : Int} {v : D} (hx : ev T x = .d (.int k p) := by kernel_rfl) (hy : ev T y = .d (.int k q) := by kernel_rfl) (h : D.int k (if q > p then q else p) = v := by kernel_rfl) : PureV P ⟨dst, .call ⟨.builtin .max, #[x, y], #[t1, t2]⟩, type, pos, after, guard⟩ T H (.d v) := fun φ I w a hR hT => by
  have hc1 := (hx ▸ ev_VR hT x).int_inv
  have hc2 := (hy ▸ ev_VR hT y).int_inv
  subst h
  exact ⟨_, fun w' => by simp [execOp, resolve, invoke, builtin, hc1, hc2, run_max_int2], .d _ _ (.int _ _)⟩
theorem p_min2 {t1 t2 : TypeId} {x y : Operand} {k : IntKind} {p q : Int} {v : D} (hx : ev T x = .d (.int k p) := by kernel_rfl) (hy : ev T y = .d (.int k q) := by kernel_rfl) (h : D.int k (if q < p then q else p) = v := by kernel_rfl) : PureV P ⟨dst, .call ⟨.builtin .min, #[x, y], #[t1, t2]⟩, type, pos, after, guard⟩ T H (.d v) := fun φ I w a hR hT => by
  have hc1 := (hx ▸ ev_VR hT x).int_inv
  have hc2 := (hy ▸ ev_VR hT y).int_inv
  subst h
  exact ⟨_, fun w' => by simp [execOp, resolve, invoke, builtin, hc1, hc2, run_min_int2], .d _ _ (.int _ _)⟩

theorem p_nilCheck {x : Operand} {b off : Nat} {cells : List V} (hx : ev T x = .ptr b off) (hk : H[b]? = some (.box cells)) : PureV P ⟨dst, .nilCheck x, type, pos, after, guard⟩ T H (.ptr b off) := fun φ I w a hR hT => by
  obtain ⟨g, arr, ty, hc, hb, _⟩ := VR.ptr_box hR hk (hx ▸ ev_VR hT x)
  exact ⟨.pointer (some ⟨g, off, none⟩), fun w' => by simp [execOp, hc], .ptr _ _ _ _ hb⟩
theorem p_nilCheckE {x : Operand} {b L i off esz : Nat} {xs : List (List D)} {fro : Bool} (hx : ev T x = .eptr b L i off) (hk : H[b]? = some (.sl esz xs fro)) (hL : xs.length = L) (hiL : i < L) : PureV P ⟨dst, .nilCheck x, type, pos, after, guard⟩ T H (.eptr b L i off) := fun φ I w a hR hT => by
  obtain ⟨g, δ, arr, ty, hc, hb, _⟩ := VR.eptr_sl hR hk hL (by omega) (hx ▸ ev_VR hT x)
  exact ⟨.pointer (some ⟨g, δ + i * esz + off, none⟩), fun w' => by simp [execOp, hc], .eptr _ _ _ _ _ _ _ _ hb⟩

theorem p_makeFunc {f : FuncId} {caps : Array Operand} {vs : List V} (h : caps.toList.map (ev T) = vs := by kernel_rfl) : PureV P ⟨dst, .makeFunc (.func f) #[] caps, type, pos, after, guard⟩ T H (.fn f vs) := fun φ I w a hR hT => by
  subst h
  refine ⟨.func (.func f) #[] (caps.map a.eval), fun w' => by simp [execOp, Instr.makeFunc], .fn f _ _ (by simp) fun i v c h1 h2 => ?_⟩
  simp only [List.getElem?_map, Array.getElem?_toList] at h1
  simp only [Array.getElem?_map] at h2
  obtain ⟨x, hx, rfl⟩ := Option.map_eq_some_iff.1 h1
  rw [hx] at h2
  simp at h2
  subst h2
  exact ev_VR hT x
end
end Go.VM
