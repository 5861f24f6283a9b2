/- Addresses, indexes, arithmetic. -/
import Derived.Test.YtdebnihlkdabpaaEngAM
set_option linter.unusedVariables false
set_option linter.unusedSimpArgs false
namespace Go.VM

section
variable {P : Program} {T : Tm} {H : List Blk} {dst : Option Tmp} {type : TypeId} {pos : String} {after : Array Edge} {guard : Option (Nat × Bool)}

theorem run_fieldAt {s : TypeId} {f : Nat} {fields : Array Field} {fd : Field} {z : Value} {sz bytes : Nat} {w : World} (hu : P.underlying s = some (.struct fields)) (hf : fields[f]? = some fd) (hi : TyI P fd.type z sz bytes) (h0 : sz ≠ 0) (a : Addr) :
    (Instr.fieldAt s (.pointer (some a)) f).run P w = .ok (.pointer (some (a.add fd.offset))) w := by
  simp [Instr.fieldAt, run_underlying hu, hf, Instr.sureAddr, fieldPlace, run_sizeOf hi, h0]

theorem p_fieldAddr {s : TypeId} {x : Operand} {f b off o2 : Nat} {fields : Array Field} {fd : Field} {z : Value} {sz bytes : Nat} (hx : ev T x = .ptr b off) (hu : P.underlying s = some (.struct fields)) (hf : fields[f]? = some fd) (hi : TyI P fd.type z sz bytes) (h0 : sz ≠ 0)
    {cells : List V} (hk : H[b]? = some (.box cells)) (ho : off + fd.offset = o2) : PureV P ⟨dst, .fieldAddr s x f, type, pos, after, guard⟩ T H (.ptr b o2) := fun φ I w a hR hT => by
  obtain ⟨g, arr, e, hc, hb, hg, hn, hone, hcs, hI⟩ := VR.ptr_box hR hk (hx ▸ ev_VR hT x)
  subst ho
  have := fun w' : World => run_fieldAt (P := P) (w := w') hu hf hi h0 ⟨g, off, none⟩
  simp only [add_none] at this
  exact ⟨_, fun w' => by simp only [execOp, hc, Sem.run_bind, this, Result.andThen_ok, Sem.run_pure], .ptr _ _ _ _ hb⟩

theorem p_fieldAddrE {s : TypeId} {x : Operand} {f b L i off o2 : Nat} {fields : Array Field} {fd : Field} {z : Value} {sz bytes : Nat} (hx : ev T x = .eptr b L i off) (hu : P.underlying s = some (.struct fields)) (hf : fields[f]? = some fd) (hi : TyI P fd.type z sz bytes) (h0 : sz ≠ 0)
    {esz : Nat} {xs : List (List D)} {fro : Bool} (hk : H[b]? = some (.sl esz xs fro)) (hL : xs.length = L) (hiL : i < L) (ho : off + fd.offset = o2) : PureV P ⟨dst, .fieldAddr s x f, type, pos, after, guard⟩ T H (.eptr b L i o2) := fun φ I w a hR hT => by
  obtain ⟨g, δ, arr, ty, hc, hb, hg, hn, hlen, hcs, hz, hI⟩ := VR.eptr_sl hR hk hL (by omega) (hx ▸ ev_VR hT x)
  subst ho
  have := fun w' : World => run_fieldAt (P := P) (w := w') hu hf hi h0 ⟨g, δ + i * esz + off, none⟩
  simp only [add_none] at this
  refine ⟨.pointer (some ⟨g, δ + i * esz + off + fd.offset, none⟩), fun w' => by simp only [execOp, hc, Sem.run_bind, this, Result.andThen_ok, Sem.run_pure], ?_⟩
  rw [Nat.add_assoc]
  exact .eptr _ _ _ _ _ _ _ _ hb

theorem p_fieldAddrL {s : TypeId} {x : Operand} {f off o2 : Nat} {cells : List D} {fields : Array Field} {fd : Field} {z : Value} {sz bytes : Nat} (hx : ev T x = .lptr cells off) (hu : P.underlying s = some (.struct fields)) (hf : fields[f]? = some fd) (hi : TyI P fd.type z sz bytes) (h0 : sz ≠ 0)
    (ho : off + fd.offset = o2) : PureV P ⟨dst, .fieldAddr s x f, type, pos, after, guard⟩ T H (.lptr cells o2) := fun φ I w a hR hT => by
  obtain ⟨g, o, cv, hc, hI, h1, h2⟩ := VR.lptr_inv (hx ▸ ev_VR hT x)
  subst ho
  have := fun w' : World => run_fieldAt (P := P) (w := w') hu hf hi h0 ⟨g, o + off, none⟩
  simp only [add_none] at this
  refine ⟨.pointer (some ⟨g, o + off + fd.offset, none⟩), fun w' => by simp only [execOp, hc, Sem.run_bind, this, Result.andThen_ok, Sem.run_pure], ?_⟩
  rw [Nat.add_assoc]
  exact .lptr cells _ g o cv hI h1 h2

theorem VR.agg_inv {φ : List Plc} {I : Nat → Prop} {w : World} {cells : List V} {c : Value} (h : VR φ I w (.agg cells) c) : ∃ cs, c = .agg cs ∧ AllR φ I w cells cs := by
  cases h with
  | agg _ cs hl hc => exact ⟨cs, rfl, hl.symm, hc⟩
theorem VR.tuple_inv {φ : List Plc} {I : Nat → Prop} {w : World} {cells : List V} {c : Value} (h : VR φ I w (.tuple cells) c) : ∃ cs, c = .tuple cs ∧ AllR φ I w cells cs := by
  cases h with
  | tuple _ cs hl hc => exact ⟨cs, rfl, hl.symm, hc⟩

theorem run_part_one {t : TypeId} {d : TypeDesc} {w : World} {cs : Array Value} {off : Nat} {c : Value} (hu : P.underlying t = some d) (hd : aggD d = false) (hc : cs[off]? = some c) : (part t cs off).run P w = .ok c w := by
  simp [part, run_isAgg hu hd, hc]
theorem run_part_agg {t : TypeId} {d : TypeDesc} {w : World} {cs : Array Value} {off : Nat} {z : Value} {sz bytes : Nat} (hu : P.underlying t = some d) (hd : aggD d = true) (hi : TyI P t z sz bytes) :
    (part t cs off).run P w = .ok (.agg (cs.extract off (off + sz))) w := by
  simp [part, run_isAgg hu hd, run_sizeOf hi]

theorem AllR.extract {φ : List Plc} {I : Nat → Prop} {w : World} {cells : List V} {cs : Array Value} (h : AllR φ I w cells cs) {off sz : Nat} (hfit : off + sz ≤ cells.length) : VR φ I w (.agg ((cells.drop off).take sz)) (.agg (cs.extract off (off + sz))) := by
  have := h.1
  refine .agg _ _ (by simp; omega) fun i v c h1 h2 => ?_
  have his : i < sz := by have := (List.getElem?_eq_some_iff.1 h1).1; simp at this; omega
  rw [List.getElem?_take_of_lt his, List.getElem?_drop] at h1
  rw [Array.getElem?_extract, if_pos (by omega)] at h2
  exact h.2 _ _ _ h1 h2

theorem p_field {t : TypeId} {x : Operand} {f : Nat} {cells : List V} {fields : Array Field} {fd : Field} {d : TypeDesc} {v : V} (hx : ev T x = .agg cells) (hu : P.underlying t = some (.struct fields)) (hf : fields[f]? = some fd) (hu2 : P.underlying fd.type = some d) (hd : aggD d = false)
    (hv : cells[fd.offset]? = some v) : PureV P ⟨dst, .field t x f, type, pos, after, guard⟩ T H v := fun φ I w a hR hT => by
  obtain ⟨cs, hc, hA⟩ := VR.agg_inv (hx ▸ ev_VR hT x)
  have hlt : fd.offset < cs.size := by rw [hA.1]; exact (List.getElem?_eq_some_iff.1 hv).1
  exact ⟨cs[fd.offset], fun w' => by simp [execOp, hc, Instr.field, run_underlying hu, hf, asAgg, run_part_one hu2 hd (Array.getElem?_eq_getElem hlt)], hA.2 _ _ _ hv (Array.getElem?_eq_getElem hlt)⟩

theorem p_fieldAgg {t : TypeId} {x : Operand} {f : Nat} {cells vs : List V} {fields : Array Field} {fd : Field} {d : TypeDesc} {z : Value} {sz bytes : Nat} (hx : ev T x = .agg cells) (hu : P.underlying t = some (.struct fields)) (hf : fields[f]? = some fd) (hu2 : P.underlying fd.type = some d) (hd : aggD d = true)
    (hi : TyI P fd.type z sz bytes) (hv : (cells.drop fd.offset).take sz = vs) (hfit : fd.offset + sz ≤ cells.length) : PureV P ⟨dst, .field t x f, type, pos, after, guard⟩ T H (.agg vs) := fun φ I w a hR hT => by
  obtain ⟨cs, hc, hA⟩ := VR.agg_inv (hx ▸ ev_VR hT x)
  subst hv
  exact ⟨_, fun w' => by simp [execOp, hc, Instr.field, run_underlying hu, hf, asAgg, run_part_agg hu2 hd hi], hA.extract hfit⟩

theorem p_index {t e : TypeId} {n : Nat} {x y : Operand} {k : IntKind} {i : Int} {cells : List V} {d : TypeDesc} {z : Value} {bytes : Nat} {v : V} (hx : ev T x = .agg cells) (hy : ev T y = .d (.int k i)) (hu : P.underlying t = some (.array n e)) (hu2 : P.underlying e = some d) (hd : aggD d = false)
    (hi : TyI P e z 1 bytes) (h0 : 0 ≤ i) (h1 : i < n) (hv : cells[i.toNat]? = some v) : PureV P ⟨dst, .index t x y, type, pos, after, guard⟩ T H v := fun φ I w a hR hT => by
  obtain ⟨cs, hc, hA⟩ := VR.agg_inv (hx ▸ ev_VR hT x)
  have hc2 := (hy ▸ ev_VR hT y).int_inv
  have hlt : i.toNat < cs.size := by rw [hA.1]; exact (List.getElem?_eq_some_iff.1 hv).1
  exact ⟨cs[i.toNat], fun w' => by simp [execOp, hc, hc2, Instr.index, asIntOf, run_underlying hu, h0, h1, run_sizeOf hi, run_part_one hu2 hd (Array.getElem?_eq_getElem hlt)], hA.2 _ _ _ hv (Array.getElem?_eq_getElem hlt)⟩

theorem p_indexAgg {t e : TypeId} {n : Nat} {x y : Operand} {k : IntKind} {i : Int} {cells vs : List V} {d : TypeDesc} {z : Value} {sz bytes : Nat} (hx : ev T x = .agg cells) (hy : ev T y = .d (.int k i)) (hu : P.underlying t = some (.array n e)) (hu2 : P.underlying e = some d) (hd : aggD d = true)
    (hi : TyI P e z sz bytes) (h0 : 0 ≤ i) (h1 : i < n) (hv : (cells.drop (i.toNat * sz)).take sz = vs) (hfit : i.toNat * sz + sz ≤ cells.length) : PureV P ⟨dst, .index t x y, type, pos, after, guard⟩ T H (.agg vs) := fun φ I w a hR hT => by
  obtain ⟨cs, hc, hA⟩ := VR.agg_inv (hx ▸ ev_VR hT x)
  have hc2 := (hy ▸ ev_VR hT y).int_inv
  subst hv
  exact ⟨_, fun w' => by simp [execOp, hc, hc2, Instr.index, asIntOf, run_underlying hu, h0, h1, run_sizeOf hi, run_part_agg hu2 hd hi], hA.extract hfit⟩

theorem p_extract {x : Operand} {i : Nat} {vs : List V} {v : V} (hx : ev T x = .tuple vs) (hv : vs[i]? = some v) : PureV P ⟨dst, .extract x i, type, pos, after, guard⟩ T H v := fun φ I w a hR hT => by
  obtain ⟨cs, hc, hA⟩ := VR.tuple_inv (hx ▸ ev_VR hT x)
  have hlt : i < cs.size := by rw [hA.1]; exact (List.getElem?_eq_some_iff.1 hv).1
  exact ⟨cs[i], fun w' => by simp [execOp, hc, Instr.extract, Array.getElem?_eq_getElem hlt], hA.2 _ _ _ hv (Array.getElem?_eq_getElem hlt)⟩

/-! ### index by address -/
theorem run_indexAt_sl {t e : TypeId} {w : World} {g o len cap : Nat} {k : IntKind} {i : Int} {z : Value} {sz bytes : Nat} (hu : P.underlying t = some (.slice e)) (hi : TyI P e z sz bytes) (h0 : 0 ≤ i) (h1 : i < len) :
    (Instr.indexAt t (.slice (some ⟨g, o, none⟩) len cap) (.int k i)).run P w = .ok (.pointer (some ⟨g, o + i.toNat * sz, none⟩)) w := by
  simp [Instr.indexAt, run_underlying hu, asIntOf, h0, h1, run_sizeOf hi, add_none]

theorem VR.lit_inv {φ : List Plc} {I : Nat → Prop} {w : World} {xs : List (List D)} {c : Value} (h : VR φ I w (.d (.lit xs)) c) : (xs = [] ∧ ∃ a cap, c = .slice a 0 cap) ∨
    ∃ (g o esz cap : Nat) (cv : Nat → Nat → Value), c = .slice (some ⟨g, o, none⟩) xs.length cap ∧ I g ∧ (∀ (i : Nat) (e : List D), xs[i]? = some e → e.length = esz) ∧
      (∀ (i j : Nat) (d : D), get2 xs i j = some d → w.cell? ⟨g, o + i * esz + j, none⟩ = some (cv i j)) ∧ (∀ (i j : Nat) (d : D), get2 xs i j = some d → DR I w d (cv i j)) := by
  cases h with
  | d _ _ h =>
    cases h with
    | nil a cap => exact .inl ⟨rfl, a, cap, rfl⟩
    | lit _ g o esz cap cv hI hlen hcell hd => exact .inr ⟨g, o, esz, cap, cv, rfl, hI, hlen, hcell, hd⟩
theorem VR.lit_cap {φ : List Plc} {I : Nat → Prop} {w : World} {xs : List (List D)} {a : Option Addr} {len cap : Nat} (h : VR φ I w (.d (.lit xs)) (.slice a len cap)) : len ≤ cap := by
  cases h with
  | d _ _ h =>
    cases h with
    | nil a cap => exact Nat.zero_le _
    | lit _ g o esz cap cv hI hlen hcell hd hcap => exact hcap

theorem p_idxLit {t e : TypeId} {x y : Operand} {k : IntKind} {i : Int} {xs : List (List D)} {z : Value} {sz bytes : Nat} {c : List D} (hx : ev T x = .d (.lit xs)) (hy : ev T y = .d (.int k i)) (hu : P.underlying t = some (.slice e)) (hi : TyI P e z sz bytes) (h0 : 0 ≤ i)
    (he : xs[i.toNat]? = some c) (hs : c.length = sz) : PureV P ⟨dst, .indexAddr t x y, type, pos, after, guard⟩ T H (.lptr c 0) := fun φ I w a hR hT => by
  have hc2 := (hy ▸ ev_VR hT y).int_inv
  have hlt := (List.getElem?_eq_some_iff.1 he).1
  rcases VR.lit_inv (hx ▸ ev_VR hT x) with ⟨rfl, _⟩ | ⟨g, o, esz, cap, cv, hc, hI, hlen, hcell, hd⟩
  · simp at he
  · have hes : esz = sz := by rw [← hlen _ _ he, hs]
    subst hes
    have hrun := fun w' : World => run_indexAt_sl (P := P) (w := w') (g := g) (o := o) (len := xs.length) (cap := cap) (k := k) (i := i) hu hi h0 (by omega)
    refine ⟨.pointer (some ⟨g, o + i.toNat * esz, none⟩), fun w' => by simp only [execOp, hc, hc2, Sem.run_bind, hrun, Result.andThen_ok, Sem.run_pure], ?_⟩
    have := VR.lptr (φ := φ) (I := I) (w := w) c 0 g (o + i.toNat * esz) (fun j => cv i.toNat j) hI (fun j d hj => hcell i.toNat j d (by simp [get2, he, hj])) (fun j d hj => hd i.toNat j d (by simp [get2, he, hj]))
    simpa using this

/-- A slice over a block of the machine. -/
theorem VR.ref_inv {φ : List Plc} {I : Nat → Prop} {w : World} {b L off len esz : Nat} {xs : List (List D)} {fro : Bool} {c : Value} (hR : Rel H φ I w) (hk : H[b]? = some (.sl esz xs fro)) (hL : xs.length = L) (h : VR φ I w (.ref b L off len) c) :
    (φ[b]? = some .virt ∧ xs = [] ∧ L = 0 ∧ off = 0 ∧ len = 0 ∧ c = .slice none 0 0) ∨
    (len = 0 ∧ off ≤ L ∧ ∃ a g δ n, c = .slice a 0 0 ∧ φ[b]? = some (.at g δ esz L n [])) ∨
    ∃ g δ arr e cap, c = .slice (some ⟨g, δ + off * esz, none⟩) len cap ∧ φ[b]? = some (.at g δ esz L arr.size []) ∧ w.heap[g]? = some (.cells arr e (0, 0)) ∧ δ + L * esz ≤ arr.size ∧ (∀ (i : Nat) (x : List D), xs[i]? = some x → x.length = esz) ∧
      (∀ (i j : Nat) (d : D) (c : Value), get2 xs i j = some d → arr[δ + i * esz + j]? = some c → DR I w d c) ∧ 0 < esz ∧ (fro = true ↔ I g) ∧ off + len ≤ L ∧ len ≤ cap ∧ L ≤ off + cap ∧ δ + (off + cap) * esz ≤ arr.size := by
  have hblt : b < φ.length := by rw [hR.len]; exact (List.getElem?_eq_some_iff.1 hk).1
  have hbr := hR.blk b _ _ hk (List.getElem?_eq_getElem hblt)
  have hφ := List.getElem?_eq_getElem hblt
  generalize φ[b] = l at hbr hφ
  cases hbr with
  | virt =>
    cases h with
    | ref _ _ _ _ g δ esz' n cap hb => rw [hφ] at hb; cases hb
    | refZ _ _ _ g δ esz' n a hb => rw [hφ] at hb; cases hb
    | virt _ hb => exact .inl ⟨hφ, rfl, rfl, rfl, rfl, rfl⟩
    | refStale _ _ _ _ loc a n c hb hs => rw [hφ] at hb; cases hb; exact hs.elim
  | sl esz xs fro g δ arr e hg hn hlen hc hz hI =>
    subst hL
    generalize hLn : xs.length = L at *
    cases h with
    | ref _ _ _ _ g' δ' esz' n cap hb h1 h2 h3 h4 =>
      rw [hφ] at hb
      cases hb
      exact .inr (.inr ⟨g, δ, arr, e, cap, rfl, hφ, hg, hn, hlen, hc, hz, hI, h1, h2, h3, h4⟩)
    | refZ _ _ _ g' δ' esz' n a hb h =>
      rw [hφ] at hb
      cases hb
      exact .inr (.inl ⟨rfl, h, a, g, δ, _, rfl, hφ⟩)
    | virt _ hb => rw [hφ] at hb; cases hb
    | refStale _ _ _ _ loc a n c hb hs => rw [hφ] at hb; cases hb; exact absurd hs (Nat.lt_irrefl _)

theorem p_idxRef {t e : TypeId} {x y : Operand} {k : IntKind} {i : Int} {b L off len j sz : Nat} {xs : List (List D)} {fro : Bool} {z : Value} {bytes : Nat} (hx : ev T x = .ref b L off len) (hy : ev T y = .d (.int k i)) (hk : H[b]? = some (.sl sz xs fro)) (hL : xs.length = L)
    (hu : P.underlying t = some (.slice e)) (hi : TyI P e z sz bytes) (h0 : 0 ≤ i) (h1 : i < len) (hj : off + i.toNat = j) : PureV P ⟨dst, .indexAddr t x y, type, pos, after, guard⟩ T H (.eptr b L j 0) := fun φ I w a hR hT => by
  have hc2 := (hy ▸ ev_VR hT y).int_inv
  subst hj
  rcases VR.ref_inv hR hk hL (hx ▸ ev_VR hT x) with ⟨_, _, _, _, rfl, _⟩ | ⟨rfl, _⟩ | ⟨g, δ, arr, ty, cap, hc, hb, hg, hn, hlen, hcs, hz, hI, g1, g2, g3, g4⟩
  · omega
  · omega
  · have hrun := fun w' : World => run_indexAt_sl (P := P) (w := w') (g := g) (o := δ + off * sz) (len := len) (cap := cap) (k := k) (i := i) hu hi h0 h1
    refine ⟨.pointer (some ⟨g, δ + off * sz + i.toNat * sz, none⟩), fun w' => by simp only [execOp, hc, hc2, Sem.run_bind, hrun, Result.andThen_ok, Sem.run_pure], ?_⟩
    have := VR.eptr (φ := φ) (I := I) (w := w) b L (off + i.toNat) 0 g δ sz arr.size hb
    rw [show δ + off * sz + i.toNat * sz = δ + (off + i.toNat) * sz + 0 by rw [Nat.add_mul]; omega]
    exact this

/-- An array that lies in a box. -/
theorem run_indexAt_arr {t e : TypeId} {w : World} {a : Addr} {n : Nat} {k : IntKind} {i : Int} {z : Value} {sz bytes : Nat} (hu : P.underlying t = some (.array n e)) (hi : TyI P e z sz bytes) (h0 : 0 ≤ i) (h1 : i < n) :
    (Instr.indexAt t (.pointer (some a)) (.int k i)).run P w = .ok (.pointer (some (a.add (i.toNat * sz)))) w := by
  simp [Instr.indexAt, run_underlying hu, asIntOf, Instr.sureAddr, h0, h1, run_sizeOf hi]

theorem p_idxArr {t e : TypeId} {n : Nat} {x y : Operand} {k : IntKind} {i : Int} {b off o2 : Nat} {cells : List V} {z : Value} {sz bytes : Nat} (hx : ev T x = .ptr b off) (hy : ev T y = .d (.int k i)) (hk : H[b]? = some (.box cells)) (hu : P.underlying t = some (.array n e)) (hi : TyI P e z sz bytes)
    (h0 : 0 ≤ i) (h1 : i < n) (ho : off + i.toNat * sz = o2) : PureV P ⟨dst, .indexAddr t x y, type, pos, after, guard⟩ T H (.ptr b o2) := fun φ I w a hR hT => by
  have hc2 := (hy ▸ ev_VR hT y).int_inv
  obtain ⟨g, arr, ty, hc, hb, hg, hn, hone, hcs, hI⟩ := VR.ptr_box hR hk (hx ▸ ev_VR hT x)
  subst ho
  have hrun := fun w' : World => run_indexAt_arr (P := P) (w := w') (a := ⟨g, off, none⟩) (k := k) hu hi h0 h1
  simp only [add_none] at hrun
  exact ⟨.pointer (some ⟨g, off + i.toNat * sz, none⟩), fun w' => by simp only [execOp, hc, hc2, Sem.run_bind, hrun, Result.andThen_ok, Sem.run_pure], .ptr _ _ _ _ hb⟩

/-! ### arithmetic -/
def ivop (op : BinOp) (k : IntKind) (a b : Int) : Option D :=
  match op with
  | .add => some (.int k (k.wrap (a + b)))
  | .sub => some (.int k (k.wrap (a - b)))
  | .mul => some (.int k (k.wrap (a * b)))
  | .and => some (.int k (k.wrap (BitVec.ofInt k.bits a &&& BitVec.ofInt k.bits b).toNat))
  | .or => some (.int k (k.wrap (BitVec.ofInt k.bits a ||| BitVec.ofInt k.bits b).toNat))
  | .xor => some (.int k (k.wrap (BitVec.ofInt k.bits a ^^^ BitVec.ofInt k.bits b).toNat))
  | .eql => some (.bool (a == b))
  | .neq => some (.bool (a != b))
  | .lss => some (.bool (decide (a < b)))
  | .leq => some (.bool (decide (a ≤ b)))
  | .gtr => some (.bool (decide (a > b)))
  | .geq => some (.bool (decide (a ≥ b)))
  | _ => none

theorem p_int {op : BinOp} {t t2 : TypeId} {x y : Operand} {k : IntKind} {p q : Int} {v : D} (hx : ev T x = .d (.int k p) := by kernel_rfl) (hy : ev T y = .d (.int k q) := by kernel_rfl) (h : ivop op k p q = some v := by kernel_rfl) : PureV P ⟨dst, .binOp op t x y t2, type, pos, after, guard⟩ T H (.d v) := fun φ I w a hR hT => by
  have hc1 := (hx ▸ ev_VR hT x).int_inv
  have hc2 := (hy ▸ ev_VR hT y).int_inv
  cases op <;> simp only [ivop, Option.some.injEq, reduceCtorEq] at h <;> subst h <;>
    exact ⟨_, fun w' => by simp [execOp, hc1, hc2, eqGuard, binOp, Op.intArith, Op.intBits, Op.intCmp]; rfl, .d _ _ (by constructor)⟩

theorem p_quo {t t2 : TypeId} {x y : Operand} {k : IntKind} {p q : Int} {v : D} (hx : ev T x = .d (.int k p) := by kernel_rfl) (hy : ev T y = .d (.int k q) := by kernel_rfl) (hq : q ≠ 0) (h : D.int k (k.wrap (p.tdiv q)) = v := by kernel_rfl) : PureV P ⟨dst, .binOp .quo t x y t2, type, pos, after, guard⟩ T H (.d v) := fun φ I w a hR hT => by
  have hc1 := (hx ▸ ev_VR hT x).int_inv
  have hc2 := (hy ▸ ev_VR hT y).int_inv
  subst h
  exact ⟨_, fun w' => by simp [execOp, hc1, hc2, eqGuard, binOp, Op.intDiv, hq], .d _ _ (.int _ _)⟩
theorem p_rem {t t2 : TypeId} {x y : Operand} {k : IntKind} {p q : Int} {v : D} (hx : ev T x = .d (.int k p) := by kernel_rfl) (hy : ev T y = .d (.int k q) := by kernel_rfl) (hq : q ≠ 0) (h : D.int k (p.tmod q) = v := by kernel_rfl) : PureV P ⟨dst, .binOp .rem t x y t2, type, pos, after, guard⟩ T H (.d v) := fun φ I w a hR hT => by
  have hc1 := (hx ▸ ev_VR hT x).int_inv
  have hc2 := (hy ▸ ev_VR hT y).int_inv
  subst h
  exact ⟨_, fun w' => by simp [execOp, hc1, hc2, eqGuard, binOp, Op.intDiv, hq], .d _ _ (.int _ _)⟩

theorem p_shl {t t2 : TypeId} {x y : Operand} {k k2 : IntKind} {p q : Int} {v : D} (hx : ev T x = .d (.int k p) := by kernel_rfl) (hy : ev T y = .d (.int k2 q) := by kernel_rfl) (hq : 0 ≤ q) (h : D.int k (k.wrap (p * 2 ^ (min q.toNat k.bits))) = v := by kernel_rfl) : PureV P ⟨dst, .binOp .shl t x y t2, type, pos, after, guard⟩ T H (.d v) := fun φ I w a hR hT => by
  have hc1 := (hx ▸ ev_VR hT x).int_inv
  have hc2 := (hy ▸ ev_VR hT y).int_inv
  subst h
  exact ⟨_, fun w' => by simp [execOp, hc1, hc2, eqGuard, binOp, Op.shift, Int.not_lt.2 hq], .d _ _ (.int _ _)⟩
theorem p_shr {t t2 : TypeId} {x y : Operand} {k k2 : IntKind} {p q : Int} {v : D} (hx : ev T x = .d (.int k p) := by kernel_rfl) (hy : ev T y = .d (.int k2 q) := by kernel_rfl) (hq : 0 ≤ q) (h : D.int k (p.fdiv (2 ^ (min q.toNat k.bits))) = v := by kernel_rfl) : PureV P ⟨dst, .binOp .shr t x y t2, type, pos, after, guard⟩ T H (.d v) := fun φ I w a hR hT => by
  have hc1 := (hx ▸ ev_VR hT x).int_inv
  have hc2 := (hy ▸ ev_VR hT y).int_inv
  subst h
  exact ⟨_, fun w' => by simp [execOp, hc1, hc2, eqGuard, binOp, Op.shift, Int.not_lt.2 hq], .d _ _ (.int _ _)⟩

theorem p_boolEq {t t2 : TypeId} {x y : Operand} {p q : Bool} {v : Bool} (hx : ev T x = .d (.bool p) := by kernel_rfl) (hy : ev T y = .d (.bool q) := by kernel_rfl) (hu : P.underlying t = some .bool) (h : (p == q) = v := by kernel_rfl) : PureV P ⟨dst, .binOp .eql t x y t2, type, pos, after, guard⟩ T H (.d (.bool v)) := fun φ I w a hR hT => by
  have hc1 := (hx ▸ ev_VR hT x).bool_inv
  have hc2 := (hy ▸ ev_VR hT y).bool_inv
  subst h
  exact ⟨_, fun w' => by simp [execOp, hc1, hc2, eqGuard, run_eql_bool w' t p q hu], .d _ _ (.bool _)⟩
theorem p_boolNe {t t2 : TypeId} {x y : Operand} {p q : Bool} {v : Bool} (hx : ev T x = .d (.bool p) := by kernel_rfl) (hy : ev T y = .d (.bool q) := by kernel_rfl) (hu : P.underlying t = some .bool) (h : (!(p == q)) = v := by kernel_rfl) : PureV P ⟨dst, .binOp .neq t x y t2, type, pos, after, guard⟩ T H (.d (.bool v)) := fun φ I w a hR hT => by
  have hc1 := (hx ▸ ev_VR hT x).bool_inv
  have hc2 := (hy ▸ ev_VR hT y).bool_inv
  subst h
  exact ⟨_, fun w' => by simp [execOp, hc1, hc2, eqGuard, run_neq_bool w' t p q hu], .d _ _ (.bool _)⟩

theorem p_not {t : TypeId} {x : Operand} {p v : Bool} (hx : ev T x = .d (.bool p) := by kernel_rfl) (h : (!p) = v := by kernel_rfl) : PureV P ⟨dst, .unOp .not t x, type, pos, after, guard⟩ T H (.d (.bool v)) := fun φ I w a hR hT => by
  have hc1 := (hx ▸ ev_VR hT x).bool_inv
  subst h
  exact ⟨_, fun w' => by simp [execOp, hc1, Op.unary], .d _ _ (.bool _)⟩
theorem p_neg {t : TypeId} {x : Operand} {k : IntKind} {p : Int} {v : D} (hx : ev T x = .d (.int k p) := by kernel_rfl) (h : D.int k (k.wrap (0 - p)) = v := by kernel_rfl) : PureV P ⟨dst, .unOp .neg t x, type, pos, after, guard⟩ T H (.d v) := fun φ I w a hR hT => by
  have hc1 := (hx ▸ ev_VR hT x).int_inv
  subst h
  exact ⟨.int k (k.wrap (0 - p)), fun w' => by simp [execOp, hc1, Op.unary, Op.intArith], .d _ _ (.int _ _)⟩

theorem p_conv {s t : TypeId} {x : Operand} {k k2 : IntKind} {p : Int} {d : TypeDesc} {v : D} (hx : ev T x = .d (.int k p) := by kernel_rfl) (hu1 : P.underlying s = some d) (hu2 : P.underlying t = some (.int k2)) (h : D.int k2 (k2.wrap p) = v := by kernel_rfl) : PureV P ⟨dst, .convert s t x, type, pos, after, guard⟩ T H (.d v) := fun φ I w a hR hT => by
  have hc1 := (hx ▸ ev_VR hT x).int_inv
  subst h
  exact ⟨.int k2 (k2.wrap p), fun w' => by simp [execOp, hc1, convert, run_underlying hu1, run_underlying hu2, Conv.intToInt], .d _ _ (.int _ _)⟩

/-! ### len, max, min -/
theorem p_lenLit {t : TypeId} {x : Operand} {e : TypeId} {xs : List (List D)} {n : Nat} (hx : ev T x = .d (.lit xs)) (hu : P.underlying t = some (.slice e)) (hn : xs.length = n) : PureV P ⟨dst, .call ⟨.builtin .len, #[x], #[t]⟩, type, pos, after, guard⟩ T H (.d (.int .i64 n)) := fun φ I w a hR hT => by
  subst hn
  rcases VR.lit_inv (hx ▸ ev_VR hT x) with ⟨rfl, a0, cap, hc⟩ | ⟨g, o, esz, cap, cv, hc, _⟩
  · exact ⟨.int .i64 0, fun w' => by simp [execOp, resolve, invoke, builtin, hc, Builtin.len_, run_underlying hu, goInt], .d _ _ (.int _ _)⟩
  · exact ⟨.int .i64 xs.length, fun w' => by simp [execOp, resolve, invoke, builtin, hc, Builtin.len_, run_underlying hu, goInt], .d _ _ (.int _ _)⟩
theorem p_lenRef {t : TypeId} {x : Operand} {e : TypeId} {b L off len esz : Nat} {xs : List (List D)} {fro : Bool} (hx : ev T x = .ref b L off len) (hk : H[b]? = some (.sl esz xs fro)) (hL : xs.length = L) (hu : P.underlying t = some (.slice e)) :
    PureV P ⟨dst, .call ⟨.builtin .len, #[x], #[t]⟩, type, pos, after, guard⟩ T H (.d (.int .i64 len)) := fun φ I w a hR hT => by
  rcases VR.ref_inv hR hk hL (hx ▸ ev_VR hT x) with ⟨_, _, _, _, rfl, hc⟩ | ⟨rfl, _, a0, _, _, _, hc, _⟩ | ⟨g, δ, arr, ty, cap, hc, _⟩
  · exact ⟨.int .i64 0, fun w' => by simp [execOp, resolve, invoke, builtin, hc, Builtin.len_, run_underlying hu, goInt], .d _ _ (.int _ _)⟩
  · exact ⟨.int .i64 0, fun w' => by simp [execOp, resolve, invoke, builtin, hc, Builtin.len_, run_underlying hu, goInt], .d _ _ (.int _ _)⟩
  · exact ⟨.int .i64 len, fun w' => by simp [execOp, resolve, invoke, builtin, hc, Builtin.len_, run_underlying hu, goInt], .d _ _ (.int _ _)⟩
theorem p_lenNil {t : TypeId} {x : Operand} {e : TypeId} (hx : ev T x = .nilc) (hu : P.underlying t = some (.slice e)) : PureV P ⟨dst, .call ⟨.builtin .len, #[x], #[t]⟩, type, pos, after, guard⟩ T H (.d (.int .i64 0)) := fun φ I w a hR hT => by
  have hc := (hx ▸ ev_VR hT x).nilc_inv
  exact ⟨.int .i64 0, fun w' => by simp [execOp, resolve, invoke, builtin, hc, Builtin.len_, run_underlying hu, goInt], .d _ _ (.int _ _)⟩
theorem p_lenArr {t : TypeId} {x : Operand} {e : TypeId} {n : Nat} (hu : P.underlying t = some (.array n e)) : PureV P ⟨dst, .call ⟨.builtin .len, #[x], #[t]⟩, type, pos, after, guard⟩ T H (.d (.int .i64 n)) := fun φ I w a hR hT =>
  ⟨.int .i64 n, fun w' => by simp [execOp, resolve, invoke, builtin, Builtin.len_, run_underlying hu, goInt], .d _ _ (.int _ _)⟩

theorem p_max2 {t1 t2 : TypeId} {x y : Operand} {k : IntKind} {p q : Int} {v : D} (hx : ev T x = .d (.int k p) := by kernel_rfl) (hy : ev T y = .d (.int k q) := by kernel_rfl) (h : D.int k (if q > p then q else p) = v := by kernel_rfl) : PureV P ⟨dst, .call ⟨.builtin .max, #[x, y], #[t1, t2]⟩, type, pos, after, guard⟩ T H (.d v) := fun φ I w a hR hT => by
  have hc1 := (hx ▸ ev_VR hT x).int_inv
  have hc2 := (hy ▸ ev_VR hT y).int_inv
  subst h
  exact ⟨_, fun w' => by simp [execOp, resolve, invoke, builtin, hc1, hc2, run_max_int2], .d _ _ (.int _ _)⟩
theorem p_min2 {t1 t2 : TypeId} {x y : Operand} {k : IntKind} {p q : Int} {v : D} (hx : ev T x = .d (.int k p) := by kernel_rfl) (hy : ev T y = .d (.int k q) := by kernel_rfl) (h : D.int k (if q < p then q else p) = v := by kernel_rfl) : PureV P ⟨dst, .call ⟨.builtin .min, #[x, y], #[t1, t2]⟩, type, pos, after, guard⟩ T H (.d v) := fun φ I w a hR hT => by
  have hc1 := (hx ▸ ev_VR hT x).int_inv
  have hc2 := (hy ▸ ev_VR hT y).int_inv
  subst h
  exact ⟨_, fun w' => by simp [execOp, resolve, invoke, builtin, hc1, hc2, run_min_int2], .d _ _ (.int _ _)⟩

theorem p_nilCheck {x : Operand} {b off : Nat} {cells : List V} (hx : ev T x = .ptr b off) (hk : H[b]? = some (.box cells)) : PureV P ⟨dst, .nilCheck x, type, pos, after, guard⟩ T H (.ptr b off) := fun φ I w a hR hT => by
  obtain ⟨g, arr, ty, hc, hb, _⟩ := VR.ptr_box hR hk (hx ▸ ev_VR hT x)
  exact ⟨.pointer (some ⟨g, off, none⟩), fun w' => by simp [execOp, hc], .ptr _ _ _ _ hb⟩
theorem p_nilCheckE {x : Operand} {b L i off esz : Nat} {xs : List (List D)} {fro : Bool} (hx : ev T x = .eptr b L i off) (hk : H[b]? = some (.sl esz xs fro)) (hL : xs.length = L) (hiL : i < L) : PureV P ⟨dst, .nilCheck x, type, pos, after, guard⟩ T H (.eptr b L i off) := fun φ I w a hR hT => by
  obtain ⟨g, δ, arr, ty, hc, hb, _⟩ := VR.eptr_sl hR hk hL (by omega) (hx ▸ ev_VR hT x)
  exact ⟨.pointer (some ⟨g, δ + i * esz + off, none⟩), fun w' => by simp [execOp, hc], .eptr _ _ _ _ _ _ _ _ hb⟩

theorem p_makeFunc {f : FuncId} {caps : Array Operand} {vs : List V} (h : caps.toList.map (ev T) = vs := by kernel_rfl) : PureV P ⟨dst, .makeFunc (.func f) #[] caps, type, pos, after, guard⟩ T H (.fn f vs) := fun φ I w a hR hT => by
  subst h
  refine ⟨.func (.func f) #[] (caps.map a.eval), fun w' => by simp [execOp, Instr.makeFunc], .fn f _ _ (by simp) fun i v c h1 h2 => ?_⟩
  simp only [List.getElem?_map, Array.getElem?_toList] at h1
  simp only [Array.getElem?_map] at h2
  obtain ⟨x, hx, rfl⟩ := Option.map_eq_some_iff.1 h1
  rw [hx] at h2
  simp at h2
  subst h2
  exact ev_VR hT x
end
end Go.VM
namespace Go.VM

theorem get2_some {xs : List (List D)} {i j : Nat} {d : D} (h : get2 xs i j = some d) : ∃ e, xs[i]? = some e ∧ e[j]? = some d := by
  unfold get2 at h
  cases hx : xs[i]? with
  | none => simp [hx] at h
  | some e => exact ⟨e, rfl, by simpa [hx] using h⟩
theorem get2_mk {xs : List (List D)} {i j : Nat} {d : D} {e : List D} (h1 : xs[i]? = some e) (h2 : e[j]? = some d) : get2 xs i j = some d := by simp [get2, h1, h2]
theorem get2_lt {xs : List (List D)} {esz : Nat} (hlen : ∀ (i : Nat) (x : List D), xs[i]? = some x → x.length = esz) {i j : Nat} {d : D} (h : get2 xs i j = some d) : i < xs.length ∧ j < esz := by
  obtain ⟨e, h1, h2⟩ := get2_some h
  exact ⟨(List.getElem?_eq_some_iff.1 h1).1, by rw [← hlen i e h1]; exact (List.getElem?_eq_some_iff.1 h2).1⟩

/-- The cells of rows, one behind the other. -/
def flatD (xs : List (List D)) : List D := xs.flatten
theorem flat_length {α : Type} (esz : Nat) : ∀ (xs : List (List α)), (∀ x ∈ xs, x.length = esz) → xs.flatten.length = xs.length * esz
  | [], _ => by simp
  | x :: xs, h => by
    simp only [List.flatten_cons, List.length_append, List.length_cons]
    rw [flat_length esz xs (fun y hy => h y (by simp [hy])), h x (by simp), Nat.succ_mul, Nat.add_comm]
theorem flat_get {α : Type} (esz : Nat) : ∀ (xs : List (List α)), (∀ x ∈ xs, x.length = esz) → ∀ (i j : Nat) (e : List α), xs[i]? = some e → j < esz → xs.flatten[i * esz + j]? = e[j]?
  | [], _, i, j, e, he, _ => by simp at he
  | x :: xs, h, i, j, e, he, hj => by
    have hx := h x (by simp)
    cases i with
    | zero =>
      simp at he
      subst he
      simp only [List.flatten_cons, Nat.zero_mul, Nat.zero_add]
      rw [List.getElem?_append_left (by omega)]
    | succ i =>
      simp only [List.getElem?_cons_succ] at he
      simp only [List.flatten_cons]
      rw [List.getElem?_append_right (by rw [Nat.succ_mul]; omega), hx, show (i + 1) * esz + j - esz = i * esz + j by rw [Nat.succ_mul]; omega]
      exact flat_get esz xs (fun y hy => h y (by simp [hy])) i j e he hj
theorem row_of {esz : Nat} (n p : Nat) (h : p < n * esz) (hz : 0 < esz) : p / esz < n ∧ p % esz < esz ∧ p = p / esz * esz + p % esz :=
  ⟨(Nat.div_lt_iff_lt_mul hz).2 h, Nat.mod_lt _ hz, by have := Nat.div_add_mod p esz; rw [Nat.mul_comm] at this; omega⟩

section
variable {P : Program} {T : Tm} {H : List Blk} {dst : Option Tmp} {type : TypeId} {pos : String} {after : Array Edge} {guard : Option (Nat × Bool)}

/-- A new block of rows. -/
theorem Rel.newSl {φ : List Plc} {I : Nat → Prop} {w : World} (hR : Rel H φ I w) {xs : List (List D)} {esz : Nat} {arr : Array Value} (e : TypeId) (hz : 0 < esz) (hfit : xs.length * esz ≤ arr.size)
    (hlen : ∀ (i : Nat) (x : List D), xs[i]? = some x → x.length = esz) (hc : ∀ (i j : Nat) (d : D) (c : Value), get2 xs i j = some d → arr[i * esz + j]? = some c → DR I w d c) :
    Rel (H ++ [.sl esz xs false]) (φ ++ [.at w.heap.size 0 esz xs.length arr.size []]) I (w.alloc (.cells arr e)) ∧ Turn φ I w (φ ++ [.at w.heap.size 0 esz xs.length arr.size []]) I (w.alloc (.cells arr e)) ∧
      ∀ cap, xs.length ≤ cap → cap * esz ≤ arr.size → VR (φ ++ [.at w.heap.size 0 esz xs.length arr.size []]) I (w.alloc (.cells arr e)) (.ref H.length xs.length 0 xs.length) (.slice (some ⟨w.heap.size, 0, none⟩) xs.length cap) := by
  have hnI : ¬ I w.heap.size := fun h => Nat.lt_irrefl _ (hR.imm _ h)
  have hp := hR.push (.cells arr e) (.sl esz xs false) (.at w.heap.size 0 esz xs.length arr.size []) (fun x h => h.symm)
    (.sl esz xs false w.heap.size 0 arr e (heap_alloc_at w _) (by omega) hlen (fun i j d c hd hcj => by
      rw [Nat.zero_add] at hcj
      exact (hc i j d c hd hcj).mono (fun _ h => h) (hR.immLt _)) hz ⟨fun h => (by cases h), fun h => (hnI h).elim⟩)
  refine ⟨hp.1, hp.2, fun cap h1 h2 => ?_⟩
  have := VR.ref (gs := []) (φ := φ ++ [.at w.heap.size 0 esz xs.length arr.size []]) (I := I) (w := w.alloc (.cells arr e)) H.length xs.length 0 xs.length w.heap.size 0 esz arr.size cap
    (by rw [← hR.len, List.getElem?_append_right (Nat.le_refl _)]; simp) (by omega) h1 (by omega) (by simpa using h2)
  simpa using this

theorem VR.d_inv {φ : List Plc} {I : Nat → Prop} {w : World} {x : D} {c : Value} (h : VR φ I w (.d x) c) : DR I w x c := by cases h with | d _ _ h => exact h

/-- A nil slice is data, too: the empty list. -/
def nl : V → V
  | .nilc => .d (.lit [])
  | v => v
theorem VR.nl {φ : List Plc} {I : Nat → Prop} {w : World} {v : V} {c : Value} (h : VR φ I w v c) : VR φ I w (VM.nl v) c := by
  unfold VM.nl
  split
  · rw [h.nilc_inv]; exact .d _ _ (.nil _ _)
  · exact h

theorem d_buildSlice {t e : TypeId} {len sz bytes : Nat} {parts : Array (Nat × Operand)} {z : Value} {flat : List V} {xs : List (List D)} (hu : P.underlying t = some (.slice e)) (hi : TyI P e z sz bytes) (hz : 0 < sz)
    (hbig : len * sz ≤ 16777216) (hv : vfill (fun i => some (i * sz, sz)) (List.replicate (len * sz) .undef) (parts.toList.map fun p => (p.1, ev T p.2)) = some flat) (hx : xs.flatten.map V.d = flat.map nl) (hl : xs.length = len)
    (hr : xs.all (fun r => r.length == sz) = true) : Does P ⟨dst, .buildSlice t len parts, type, pos, after, guard⟩ T H (.ref H.length len 0 len) (H ++ [.sl sz xs false]) [] := fun φ I w a hR hT => by
  subst hl
  have hrow : ∀ x ∈ xs, x.length = sz := fun x hx => by have := List.all_eq_true.1 hr x hx; simpa using this
  let arr0 : Array Value := (Array.range (xs.length * sz)).map ((if xs.length * sz = 0 then #[] else z.cells)[· % (if xs.length * sz = 0 then #[] else z.cells).size]!)
  have hA0 : AllR φ I w (List.replicate (xs.length * sz) .undef) arr0 := by
    refine ⟨by simp [arr0], fun i v c h1 h2 => ?_⟩
    rw [List.getElem?_replicate] at h1
    split at h1
    · cases h1; exact .undef _
    · cases h1
  obtain ⟨arr, h1, h2⟩ := fill_rel hT _ parts.toList _ flat arr0 hA0 hv
  have hfl : flat.length = xs.length * sz := by
    have := congrArg List.length hx
    rw [List.length_map, List.length_map, flat_length sz xs hrow] at this
    exact this.symm
  have hrun : (Instr.buildSlice t xs.length (parts.map fun p => (p.1, a.eval p.2))).run P w = .ok (.slice (some ⟨w.heap.size, 0, none⟩) xs.length xs.length) (w.alloc (.cells arr e)) := by
    have hn : ¬ (16777216 < xs.length * sz) := by omega
    have h1' : Instr.fill (fun i => some (i * sz, sz)) arr0 (parts.toList.map fun p => (p.1, a.eval p.2)) = some arr := h1
    by_cases h0 : xs.length * sz = 0
    · simp only [arr0, h0, if_true, Array.range_zero', Array.map_empty] at h1'
      simp [Instr.buildSlice, run_underlying hu, run_sizeOf hi, hn, h0, newRow, Array.range_zero', h1']
    · simp only [arr0, h0, if_false] at h1'
      simp [Instr.buildSlice, run_underlying hu, run_sizeOf hi, hn, h0, run_zeroValue hi, newRow, h1']
  obtain ⟨g1, g2, g3⟩ := hR.newSl (xs := xs) (esz := sz) (arr := arr) e hz (by rw [h2.1, hfl]; exact Nat.le_refl _) (fun i x hx => hrow x (List.mem_of_getElem? hx)) (fun i j d c hd hcj => by
    obtain ⟨er, he, hj⟩ := get2_some hd
    have hjs : j < sz := by rw [← hrow er (List.mem_of_getElem? he)]; exact (List.getElem?_eq_some_iff.1 hj).1
    have hf : (flat.map nl)[i * sz + j]? = some (.d d) := by rw [← hx, List.getElem?_map, flat_get sz xs hrow i j er he hjs, hj]; rfl
    rw [List.getElem?_map, Option.map_eq_some_iff] at hf
    obtain ⟨v, hv1, hv2⟩ := hf
    have := (h2.2 _ _ _ hv1 hcj).nl
    rw [hv2] at this
    exact this.d_inv)
  exact ⟨_, I, _, _, .inl (by simp only [execOp, Sem.run_bind, hrun, Result.andThen_ok, Sem.run_pure]), g2, g1, g3 xs.length (Nat.le_refl _) (by rw [h2.1, hfl]; exact Nat.le_refl _), hR.keepsAlloc _ _⟩

/-! ### make -/
def cvD : Value → Option D
  | .int k n => some (.int k n)
  | .bool b => some (.bool b)
  | .string s => some (.str s)
  | .slice none 0 0 => some (.lit [])
  | _ => none
theorem cvD_DR (I : Nat → Prop) (w : World) {c : Value} {d : D} (h : cvD c = some d) : DR I w d c := by
  unfold cvD at h
  split at h <;> simp at h <;> subst h
  · exact .int _ _
  · exact .bool _
  · exact .str _
  · exact .nil _ _

theorem made_get (zero : Array Value) (n i : Nat) (h : i < n) (hz : 0 < zero.size) : (madeCells zero n)[i]? = zero[i % zero.size]? := by
  have hlt : i % zero.size < zero.size := Nat.mod_lt _ hz
  simp [madeCells, h, hlt]

theorem d_make {t e : TypeId} {x y : Operand} {k1 k2 : IntKind} {n : Int} {m : Nat} {z : Value} {sz bytes : Nat} {zd : List D} (hx : ev T x = .d (.int k1 n)) (hy : ev T y = .d (.int k2 n)) (hu : P.underlying t = some (.slice e)) (hi : TyI P e z sz bytes) (hz : 0 < sz)
    (hzd : z.cells.toList.map cvD = zd.map some) (hl : zd.length = sz) (h0 : 0 ≤ n) (hm : n.toNat = m) (hb : m * bytes ≤ 281474976710656) (h63 : m ≤ 9223372036854775807) :
    Does P ⟨dst, .makeSlice t x y, type, pos, after, guard⟩ T H (.ref H.length m 0 m) (H ++ [.sl sz (List.replicate m zd) false]) [] := fun φ I w a hR hT => by
  subst hm
  have hc1 := (hx ▸ ev_VR hT x).int_inv
  have hc2 := (hy ▸ ev_VR hT y).int_inv
  obtain ⟨ti, t1, t2, t3, t4⟩ := hi.get
  have hzs : z.cells.size = sz := by have := congrArg List.length hzd; simp at this; omega
  have hrun := run_make (P := P) w t e ti z hu t1 t2 k1 k2 n n h0 (Int.le_refl _) (by rw [t4]; have h := Int.ofNat_le.2 hb; rw [Int.natCast_mul, Int.toNat_of_nonneg h0] at h; rw [Int.mul_comm]; exact h) (by omega)
  rw [t3] at hrun
  obtain ⟨g1, g2, g3⟩ := hR.newSl (xs := List.replicate n.toNat zd) (esz := sz) (arr := madeCells z.cells (n.toNat * sz)) e hz (by simp [size_madeCells]) (fun i x hx => by
      rw [List.getElem?_replicate] at hx
      split at hx
      · cases hx; exact hl
      · cases hx) (fun i j d c hd hcj => by
    obtain ⟨er, he, hj⟩ := get2_some hd
    rw [List.getElem?_replicate] at he
    split at he
    case isFalse => cases he
    case isTrue hin =>
      cases he
      have hjs : j < sz := by rw [← hl]; exact (List.getElem?_eq_some_iff.1 hj).1
      have hp : i * sz + j < n.toNat * sz := by
        have : i * sz + sz ≤ n.toNat * sz := by rw [← Nat.succ_mul]; exact Nat.mul_le_mul_right _ hin
        omega
      rw [made_get _ _ _ hp (by omega), hzs, show (i * sz + j) % sz = j by rw [Nat.mul_comm, Nat.mul_add_mod]; exact Nat.mod_eq_of_lt hjs] at hcj
      have hq : (z.cells.toList.map cvD)[j]? = some (some d) := by rw [hzd]; simp [hj]
      simp [hcj] at hq
      exact cvD_DR I w hq)
  refine ⟨_, I, _, _, .inl (by simp only [execOp, hc1, hc2, Sem.run_bind, hrun, Result.andThen_ok, Sem.run_pure]; rfl), g2, g1, ?_, hR.keepsAlloc _ _⟩
  have := g3 n.toNat (by simp) (by simp [size_madeCells])
  simpa using this

/-! ### what is appended, or copied: rows that are read -/
def Rows_ (I : Nat → Prop) (w : World) (sz : Nat) (ys : List (List D)) (c : Value) : Prop :=
  ∃ (a : Option Addr) (cap : Nat), c = .slice a ys.length cap ∧ (∀ (i : Nat) (e : List D), ys[i]? = some e → e.length = sz) ∧
    (ys ≠ [] → ∃ (g o : Nat) (cv : Nat → Nat → Value), a = some ⟨g, o, none⟩ ∧ (∀ (i j : Nat) (d : D), get2 ys i j = some d → w.cell? ⟨g, o + i * sz + j, none⟩ = some (cv i j)) ∧ (∀ (i j : Nat) (d : D), get2 ys i j = some d → DR I w d (cv i j)))

/-- The machine's value holds these rows. -/
inductive Holds (H : List Blk) (sz : Nat) : V → List (List D) → Prop
  | lit (ys : List (List D)) (h : ∀ (i : Nat) (e : List D), ys[i]? = some e → e.length = sz) : Holds H sz (.d (.lit ys)) ys
  | nil : Holds H sz .nilc []
  | ref (b L off len : Nat) (xs ys : List (List D)) (fro : Bool) (hk : H[b]? = some (.sl sz xs fro)) (hL : xs.length = L) (hle : off + len ≤ L) (hy : (xs.drop off).take len = ys) : Holds H sz (.ref b L off len) ys
  | virt (b esz : Nat) (fro : Bool) (hk : H[b]? = some (.sl esz [] fro)) : Holds H sz (.ref b 0 0 0) []

theorem get2_cut {xs : List (List D)} {off len i j : Nat} {d : D} (h : get2 ((xs.drop off).take len) i j = some d) : get2 xs (off + i) j = some d := by
  obtain ⟨e, h1, h2⟩ := get2_some h
  have hil : i < len := by have := (List.getElem?_eq_some_iff.1 h1).1; simp at this; omega
  rw [List.getElem?_take_of_lt hil, List.getElem?_drop] at h1
  exact get2_mk h1 h2

theorem Holds.rows {φ : List Plc} {I : Nat → Prop} {w : World} (hR : Rel H φ I w) {sz : Nat} {v : V} {ys : List (List D)} {c : Value} (h : Holds H sz v ys) (hv : VR φ I w v c) : Rows_ I w sz ys c := by
  cases h with
  | lit ys hlen =>
    rcases VR.lit_inv hv with ⟨rfl, a, cap, rfl⟩ | ⟨g, o, esz, cap, cv, rfl, hI, hl, hcell, hd⟩
    · exact ⟨a, cap, rfl, hlen, fun h => absurd rfl h⟩
    · refine ⟨_, cap, rfl, hlen, fun hne => ⟨g, o, cv, rfl, ?_, hd⟩⟩
      have hes : esz = sz := by
        cases ys with
        | nil => exact absurd rfl hne
        | cons y ys => rw [← hl 0 y rfl, hlen 0 y rfl]
      subst hes
      exact hcell
  | nil => rw [hv.nilc_inv]; exact ⟨none, 0, rfl, by simp, fun h => absurd rfl h⟩
  | virt b esz fro hk =>
    rcases VR.ref_inv hR hk rfl hv with ⟨_, _, _, _, _, rfl⟩ | ⟨_, _, a, _, _, _, rfl, _⟩ | ⟨g, δ, arr, ty, cap, rfl, _⟩
    · exact ⟨_, _, rfl, by simp, fun h => absurd rfl h⟩
    · exact ⟨_, _, rfl, by simp, fun h => absurd rfl h⟩
    · exact ⟨_, _, rfl, by simp, fun h => absurd rfl h⟩
  | ref b L off len xs ys fro hk hL hle hy =>
    have hyl : ys.length = len := by subst hy; simp; omega
    rcases VR.ref_inv hR hk hL hv with ⟨_, rfl, _, _, rfl, rfl⟩ | ⟨rfl, _, a, _, _, _, rfl, _⟩ | ⟨g, δ, arr, ty, cap, rfl, hb, hg, hn, hlen, hcs, hz, hI, g1, g2, g3, g4⟩
    · obtain rfl : ys = [] := List.eq_nil_of_length_eq_zero hyl
      exact ⟨_, _, rfl, by simp, fun h => absurd rfl h⟩
    · obtain rfl : ys = [] := List.eq_nil_of_length_eq_zero hyl
      exact ⟨_, _, rfl, by simp, fun h => absurd rfl h⟩
    · have hrow : ∀ (i : Nat) (e : List D), ys[i]? = some e → e.length = sz := fun i e he => by
        subst hy
        have hil : i < len := by have := (List.getElem?_eq_some_iff.1 he).1; omega
        rw [List.getElem?_take_of_lt hil, List.getElem?_drop] at he
        exact hlen _ _ he
      have hin : ∀ (i j : Nat) (d : D), get2 ys i j = some d → δ + (off + i) * sz + j < arr.size := fun i j d hd => by
        obtain ⟨h1, h2⟩ := get2_lt hrow hd
        have : (off + i) * sz + sz ≤ L * sz := by rw [← Nat.succ_mul]; exact Nat.mul_le_mul_right _ (by omega)
        omega
      refine ⟨_, cap, by rw [hyl], hrow, fun hne => ⟨g, δ + off * sz, fun i j => arr.getD (δ + (off + i) * sz + j) undef, rfl, fun i j d hd => ?_, fun i j d hd => ?_⟩⟩
      · have hlt := hin i j d hd
        rw [show δ + off * sz + i * sz + j = δ + (off + i) * sz + j by rw [Nat.add_mul]; omega, cell_of hg]
        simp [Array.getD, hlt]
      · have hlt := hin i j d hd
        refine hcs (off + i) j d _ (by subst hy; exact get2_cut hd) ?_
        simp [Array.getD, hlt]

theorem Rows_.flat {I : Nat → Prop} {w : World} {sz : Nat} {ys : List (List D)} {g o : Nat} {cv : Nat → Nat → Value} (hlen : ∀ (i : Nat) (e : List D), ys[i]? = some e → e.length = sz)
    (hcell : ∀ (i j : Nat) (d : D), get2 ys i j = some d → w.cell? ⟨g, o + i * sz + j, none⟩ = some (cv i j)) (hd : ∀ (i j : Nat) (d : D), get2 ys i j = some d → DR I w d (cv i j)) (hz : 0 < sz) :
    ∃ news : List Value, news.length = ys.length * sz ∧ (∀ (j : Nat) (v : Value), news[j]? = some v → w.cell? ((⟨g, o, none⟩ : Addr).add j) = some v) ∧ (∀ (i j : Nat) (d : D) (c : Value), get2 ys i j = some d → news[i * sz + j]? = some c → DR I w d c) ∧ ∀ v ∈ news, v.oneCell' = true := by
  have key : ∀ p, p < ys.length * sz → ∃ d, get2 ys (p / sz) (p % sz) = some d := fun p hp => by
    obtain ⟨h1, h2, _⟩ := row_of ys.length p hp hz
    have he := List.getElem?_eq_getElem h1
    have hl := hlen _ _ he
    exact ⟨_, get2_mk he (List.getElem?_eq_getElem (by omega))⟩
  refine ⟨(List.range (ys.length * sz)).map fun p => cv (p / sz) (p % sz), by simp, fun p v hv => ?_, fun i j d c hd' hc => ?_, fun v hv => ?_⟩
  · have hp : p < ys.length * sz := by have := (List.getElem?_eq_some_iff.1 hv).1; simpa using this
    simp [hp] at hv
    subst hv
    obtain ⟨d, hdd⟩ := key p hp
    rw [add_none]
    have := hcell _ _ d hdd
    rwa [show o + p / sz * sz + p % sz = o + p by have := (row_of ys.length p hp hz).2.2; omega] at this
  · obtain ⟨h1, h2⟩ := get2_lt hlen hd'
    have hp : i * sz + j < ys.length * sz := by
      have : i * sz + sz ≤ ys.length * sz := by rw [← Nat.succ_mul]; exact Nat.mul_le_mul_right _ h1
      omega
    simp [hp] at hc
    rw [show (i * sz + j) / sz = i by rw [Nat.mul_comm, Nat.mul_add_div hz, Nat.div_eq_of_lt h2]; omega] at hc
    have hm : j % sz = j := Nat.mod_eq_of_lt h2
    rw [hm] at hc
    subst hc
    exact hd i j d hd'
  · simp only [List.mem_map, List.mem_range] at hv
    obtain ⟨p, hp, rfl⟩ := hv
    obtain ⟨d, hdd⟩ := key p hp
    exact vone_oneCell (hd _ _ d hdd).one
end
end Go.VM
namespace Go.VM

theorem run_append_none {P : Program} {t t2 e e2 ty : TypeId} {w : World} {z : Value} {sz bytes : Nat} (hu : P.underlying t = some (.slice e)) (hu2 : P.underlying t2 = some (.slice e2)) (hi : TyI P e z sz bytes) (base : Option Addr) (len cap : Nat) (a : Option Addr) (c : Nat) (hle : len ≤ cap) :
    (Builtin.append_ #[t, t2] ty #[.slice base len cap, .slice a 0 c]).run P w = .ok (.slice base len cap) w := by
  cases base <;> cases a <;> simp [Builtin.append_, run_underlying hu, run_underlying hu2, run_sizeOf hi, Builtin.lenOf, hle, Builtin.firstCells, loadCells, loadCellsFrom, storeCells]

theorem run_append_in {P : Program} {t t2 e e2 ty : TypeId} {w : World} {z : Value} {sz bytes : Nat} (hu : P.underlying t = some (.slice e)) (hu2 : P.underlying t2 = some (.slice e2)) (hi : TyI P e z sz bytes) (g o len cap : Nat) (a : Addr) (n c : Nat) (news : List Value)
    {cur : Array Value} {ct : TypeId} (hg : w.heap[g]? = some (.cells cur ct (0, 0))) (hl : news.length = n * sz) (hnews : ∀ (j : Nat) (v : Value), news[j]? = some v → w.cell? (a.add j) = some v) (h1 : ∀ v ∈ news, v.oneCell' = true) (hle : len + n ≤ cap) (hfit : o + len * sz + n * sz ≤ cur.size) :
    (Builtin.append_ #[t, t2] ty #[.slice (some ⟨g, o, none⟩) len cap, .slice (some a) n c]).run P w =
      .ok (.slice (some ⟨g, o, none⟩) (len + n) cap) (w.setRow g (cur.toList.take (o + len * sz) ++ news ++ cur.toList.drop (o + len * sz + news.length)).toArray) := by
  have hf := run_firstCells_some (P := P) w sz n a n c news hl hnews
  have hst := run_storeCells_at P g (o + len * sz) ct news 0 cur w hg (by omega) h1
  simp only [Nat.add_zero] at hst
  simp [Builtin.append_, run_underlying hu, run_underlying hu2, run_sizeOf hi, Builtin.lenOf, hle, hf, add_none, hst]

theorem run_append_new {P : Program} {t t2 e e2 ty : TypeId} {w : World} {z : Value} {sz bytes : Nat} (hu : P.underlying t = some (.slice e)) (hu2 : P.underlying t2 = some (.slice e2)) (hi : TyI P e z sz bytes) (base : Option Addr) (len cap : Nat) (olds : List Value)
    (holds : (Builtin.firstCells sz len (.slice base len cap)).run P w.drew = .ok olds.toArray w.drew) (a : Addr) (n c : Nat) (news : List Value) (hl : news.length = n * sz) (hnews : ∀ (j : Nat) (v : Value), news[j]? = some v → w.cell? (a.add j) = some v)
    (hgt : cap < len + n) (hfit : (len + n) * bytes ≤ 140737488355328) (h63 : len + n ≤ 9223372036854775807) :
    ∃ newCap, len + n ≤ newCap ∧ (Builtin.append_ #[t, t2] ty #[.slice base len cap, .slice (some a) n c]).run P w =
      .ok (.slice (some ⟨w.heap.size, 0, none⟩) (len + n) newCap) (w.drew.alloc (.cells (olds.toArray ++ news.toArray ++ Builtin.zeroCells z.cells (newCap - (len + n))) e)) := by
  obtain ⟨i, t1, t2', t3, t4⟩ := hi.get
  subst t3
  subst t4
  have hn : ¬ (len + n ≤ cap) := by omega
  have h63' : ¬ (9223372036854775807 < ((len : Int) + (n : Int))) := by omega
  have h48 := growslice_fits hgt hfit
  have h48' : ¬ (281474976710656 < Builtin.nextslicecap (len + n) cap * i.bytes) := by omega
  have hf := run_firstCells_some (P := P) w.drew i.size n a n c news hl (by simpa using hnews)
  refine ⟨grownCap w (len + n) cap e, ?_, ?_⟩
  · simp [grownCap, Question.cut]
  · simp [Builtin.append_, run_underlying hu, run_underlying hu2, sizeOf, typeInfo, zeroValue, t1, t2', Builtin.lenOf, hn, h63', h48', Question.forced, hf, holds, newRow, grownCap]
    congr 2
    apply Array.ext'
    simp [List.append_assoc]

section
variable {P : Program} {T : Tm} {H : List Blk} {dst : Option Tmp} {type : TypeId} {pos : String} {after : Array Edge} {guard : Option (Nat × Bool)}

theorem get2_append {xs ys : List (List D)} {i j : Nat} {d : D} (h : get2 (xs ++ ys) i j = some d) : (i < xs.length ∧ get2 xs i j = some d) ∨ (xs.length ≤ i ∧ get2 ys (i - xs.length) j = some d) := by
  obtain ⟨e, h1, h2⟩ := get2_some h
  by_cases hi : i < xs.length
  · rw [List.getElem?_append_left hi] at h1
    exact .inl ⟨hi, get2_mk h1 h2⟩
  · rw [List.getElem?_append_right (by omega)] at h1
    exact .inr ⟨by omega, get2_mk h1 h2⟩

theorem rows_append {xs ys : List (List D)} {sz : Nat} (h1 : ∀ (i : Nat) (x : List D), xs[i]? = some x → x.length = sz) (h2 : ∀ (i : Nat) (x : List D), ys[i]? = some x → x.length = sz) : ∀ (i : Nat) (x : List D), (xs ++ ys)[i]? = some x → x.length = sz := fun i x h => by
  by_cases hi : i < xs.length
  · rw [List.getElem?_append_left hi] at h; exact h1 _ _ h
  · rw [List.getElem?_append_right (by omega)] at h; exact h2 _ _ h

/-- Behind the last element of a block. -/
theorem d_append_at {t t2 e e2 : TypeId} {x y : Operand} {b L esz0 sz bytes L' : Nat} {xs ys zs : List (List D)} {z : Value} {vy : V} (hu : P.underlying t = some (.slice e)) (hu2 : P.underlying t2 = some (.slice e2)) (hi : TyI P e z sz bytes) (hz : 0 < sz) (hzs : z.cells.size = sz)
    (hk : H[b]? = some (.sl esz0 xs false)) (hL : xs.length = L) (hesz : esz0 = sz ∨ esz0 = 0) (hy : Holds H sz vy ys) (hzz : xs ++ ys = zs) (hL' : zs.length = L') (hfit : L' * bytes ≤ 140737488355328) (h63 : L' ≤ 9223372036854775807)
    (φ : List Plc) (I : Nat → Prop) (w : World) (a : Act) (hR : Rel H φ I w) (hX : VR φ I w (.ref b L 0 L) (a.eval x)) (hY : VR φ I w vy (a.eval y)) :
    ∃ φ' I' w' c, ((execOp a.eval ⟨dst, .call ⟨.builtin .append, #[x, y], #[t, t2]⟩, type, pos, after, guard⟩).run P w = .ok (.value c) w' ∨ ((execOp a.eval ⟨dst, .call ⟨.builtin .append, #[x, y], #[t, t2]⟩, type, pos, after, guard⟩).run P w = .ok .skip w' ∧ c = undef)) ∧
      Turn φ I w φ' I' w' ∧ Rel (H.set b (.sl sz zs false)) φ' I' w' ∧ VR φ' I' w' (.ref b L' 0 L') c ∧ Keeps φ φ' [b] w w' := by
  subst hzz
  subst hL'
  have hbφ : b < φ.length := by rw [hR.len]; exact (List.getElem?_eq_some_iff.1 hk).1
  have hbH : b < H.length := (List.getElem?_eq_some_iff.1 hk).1
  obtain ⟨ay, cy, hcy, hylen, hyne⟩ := hy.rows hR hY
  have hinv := VR.ref_inv hR hk hL hX
  have hexec : ∀ (c : Value) (w' : World), (Builtin.append_ #[t, t2] type #[a.eval x, a.eval y]).run P w = .ok c w' → (execOp a.eval ⟨dst, .call ⟨.builtin .append, #[x, y], #[t, t2]⟩, type, pos, after, guard⟩).run P w = .ok (.value c) w' := fun c w' h => by
    simp [execOp, resolve, invoke, builtin, h]
  have hrefl : ∀ {l : Plc}, φ[b]? = some l → φ.set b l = φ := fun h => set_same h
  by_cases hys : ys = []
  · -- nothing is appended
    subst hys
    simp only [List.append_nil] at *
    have hlen0 : ∃ base cap, a.eval x = .slice base L cap ∧ L ≤ cap := by
      rcases hinv with ⟨_, _, h1, _, h2, hc⟩ | ⟨h1, h2, a0, _, _, _, hc, _⟩ | ⟨g, δ, arr, ty, cap, hc, _, _, _, _, _, _, _, _, h2, _⟩
      · exact ⟨none, 0, by rw [hc, h1], by omega⟩
      · exact ⟨a0, 0, by rw [hc, h1], by omega⟩
      · exact ⟨_, cap, hc, h2⟩
    obtain ⟨base, cap, hc, hle⟩ := hlen0
    have hrun := run_append_none (P := P) (ty := type) (w := w) hu hu2 hi base L cap ay cy hle
    have hvx : VR φ I w (.ref b L 0 L) (.slice base L cap) := by rw [← hc]; exact hX
    have hbl := hR.blk b _ _ hk (List.getElem?_eq_getElem hbφ)
    have hφb := List.getElem?_eq_getElem hbφ
    refine ⟨φ, I, w, _, .inl (hexec _ _ (by rw [hc, hcy]; exact hrun)), Turn.refl φ I w, ?_, by rw [hL]; exact hvx, Keeps.refl φ [b] w⟩
    have hnb : BR φ I w (.sl sz xs false) φ[b] := by
      generalize φ[b] = l at hbl
      cases hbl with
      | virt => exact .virt sz false
      | sl _ _ _ g δ arr ty hg hn hlen hcs hz0 hI =>
        have : esz0 = sz := hesz.resolve_right (Nat.pos_iff_ne_zero.1 hz0)
        subst this
        exact .sl esz0 xs false g δ arr ty hg hn hlen hcs hz0 hI
    refine hR.step b (by simp [hR.len]) (LE.refl φ) (fun _ h => h) (fun _ _ => rfl) (fun b' k0 l0 hk0 hl0 => ?_) (fun b' l0 g h0 hg0 => .inl ⟨l0, h0, hg0⟩) hR.imm
    by_cases he : b = b'
    · subst he
      simp [hbH] at hk0
      subst hk0
      rw [hφb] at hl0
      cases hl0
      exact .inr hnb
    · rw [get_set_ne _ _ _ _ he] at hk0
      exact .inl ⟨hk0, hl0, fun g _ => ⟨rfl, fun h => h⟩⟩
  · obtain ⟨gy, oy, cvy, hay, hcelly, hdy⟩ := hyne hys
    subst hay
    have hm : 0 < ys.length := List.length_pos_iff.2 hys
    obtain ⟨news, hnl, hnews, hnd, hn1⟩ := Rows_.flat hylen hcelly hdy hz
    have hLen : (xs ++ ys).length = L + ys.length := by simp [hL]
    -- the block moves: what it holds is laid anew
    have moved : ∀ (olds : List Value) (cap : Nat) (base : Option Addr) (l0 : Plc), φ[b]? = some l0 → (∀ newg newn, PlcLE l0 (.at newg 0 sz (L + ys.length) newn [])) → a.eval x = .slice base L cap → cap < L + ys.length → olds.length = L * sz →
        (Builtin.firstCells sz L (.slice base L cap)).run P w.drew = .ok olds.toArray w.drew → (∀ (i : Nat) (x : List D), xs[i]? = some x → x.length = sz) → (∀ (i j : Nat) (d : D) (c : Value), get2 xs i j = some d → olds[i * sz + j]? = some c → DR I w d c) →
        ∃ φ' I' w' c, ((execOp a.eval ⟨dst, .call ⟨.builtin .append, #[x, y], #[t, t2]⟩, type, pos, after, guard⟩).run P w = .ok (.value c) w' ∨ (execOp a.eval ⟨dst, .call ⟨.builtin .append, #[x, y], #[t, t2]⟩, type, pos, after, guard⟩).run P w = .ok .skip w' ∧ c = undef) ∧ Turn φ I w φ' I' w' ∧ Rel (H.set b (.sl sz (xs ++ ys) false)) φ' I' w' ∧ VR φ' I' w' (.ref b (xs ++ ys).length 0 (xs ++ ys).length) c ∧ Keeps φ φ' [b] w w' := by
      intro olds cap base l0 hl0 hple hc hgt hol hold hxlen hxd
      obtain ⟨newCap, hcap, hrun⟩ := run_append_new (P := P) (ty := type) (w := w) hu hu2 hi base L cap olds hold ⟨gy, oy, none⟩ ys.length cy news hnl hnews hgt (by rw [← hLen]; exact hfit) (by rw [← hLen]; exact h63)
      let arr := olds.toArray ++ news.toArray ++ Builtin.zeroCells z.cells (newCap - (L + ys.length))
      have hzc : (Builtin.zeroCells z.cells (newCap - (L + ys.length))).size = (newCap - (L + ys.length)) * sz := by simp [Builtin.zeroCells, hzs]
      have harr : arr.size = newCap * sz := by
        simp only [arr, Array.size_append, List.size_toArray, hol, hnl, hzc]
        rw [← Nat.add_mul, ← Nat.add_mul]
        congr 1
        omega
      have hsize : w.drew.heap.size = w.heap.size := rfl
      let w' := w.drew.alloc (.cells arr e)
      let l' : Plc := .at w.heap.size 0 sz (xs ++ ys).length arr.size []
      have hheap : ∀ g, g < w.heap.size → w'.heap[g]? = w.heap[g]? := fun g hg => heap_alloc w.drew _ g hg
      have hsame : ∀ g, I g → w'.heap[g]? = w.heap[g]? := fun g hg => hheap g (hR.imm g hg)
      have hnI : ¬ I w.heap.size := fun h => Nat.lt_irrefl _ (hR.imm _ h)
      have hLE : LE φ (φ.set b l') := fun b' l1 h1 => by
        by_cases he : b = b'
        · subst he
          rw [hl0] at h1
          cases h1
          exact ⟨l', by simp [hbφ], by simp only [l', hLen]; exact hple _ _⟩
        · exact ⟨l1, by rw [get_set_ne _ _ _ _ he]; exact h1, .refl _⟩
      have hφb : (φ.set b l')[b]? = some l' := by simp [hbφ]
      have hbr : BR (φ.set b l') I w' (.sl sz (xs ++ ys) false) l' := by
        refine .sl sz (xs ++ ys) false w.heap.size 0 arr e (heap_alloc_at w.drew _) ?_ (rows_append hxlen hylen) (fun i j d c hd hcj => ?_) hz ⟨fun h => (by cases h), fun h => (hnI h).elim⟩
        · rw [hLen, harr, Nat.zero_add]
          exact Nat.mul_le_mul_right _ hcap
        · rw [Nat.zero_add] at hcj
          have hlow : ∀ (i j : Nat), i < L → j < sz → i * sz + j < L * sz := fun i j h1 h2 => by
            have : i * sz + sz ≤ L * sz := by rw [← Nat.succ_mul]; exact Nat.mul_le_mul_right _ h1
            omega
          refine DR.mono (fun _ h => h) hsame (I := I) (w := w) ?_
          rcases get2_append hd with ⟨h1, h2⟩ | ⟨h1, h2⟩
          · obtain ⟨_, hj⟩ := get2_lt hxlen h2
            refine hxd i j d c h2 ?_
            have := hlow i j (by omega) hj
            simp only [arr] at hcj
            rw [Array.getElem?_append_left (by simp; omega), Array.getElem?_append_left (by simp; omega)] at hcj
            simpa using hcj
          · obtain ⟨h3, hj⟩ := get2_lt hylen h2
            refine hnd _ j d c h2 ?_
            have h4 : i * sz + j = L * sz + ((i - xs.length) * sz + j) := by
              have : i = L + (i - xs.length) := by omega
              rw [show i * sz = (L + (i - xs.length)) * sz by rw [← this], Nat.add_mul]
              omega
            have h5 : (i - xs.length) * sz + j < ys.length * sz := by
              have : (i - xs.length) * sz + sz ≤ ys.length * sz := by rw [← Nat.succ_mul]; exact Nat.mul_le_mul_right _ h3
              omega
            simp only [arr] at hcj
            rw [Array.getElem?_append_left (by simp; omega), Array.getElem?_append_right (by simp; omega)] at hcj
            simp only [List.size_toArray, hol, List.getElem?_toArray] at hcj
            rwa [h4, show L * sz + ((i - xs.length) * sz + j) - L * sz = (i - xs.length) * sz + j by omega] at hcj
      refine ⟨φ.set b l', I, w', .slice (some ⟨w.heap.size, 0, none⟩) (L + ys.length) newCap, .inl (hexec _ _ (by rw [hc, hcy]; exact hrun)), ?_, ?_, ?_, fun b' l1 hb' h1 => ⟨by rw [get_set_ne _ _ _ _ (fun e => hb' (by simp [e]))]; exact h1, fun g' hg1 => hheap g' (hR.lt h1 hg1)⟩⟩
      · refine ⟨rfl, rfl, rfl, by simp [w', World.alloc], by simp [w'], fun g hg _ => hheap g hg, hsame, fun _ h => h, hLE, fun b' l1 g h1 hg1 => ?_, fun _ h => .inl h⟩
        by_cases he : b = b'
        · subst he
          rw [hφb] at h1
          cases h1
          cases hg1
          exact .inl (Nat.le_refl _)
        · rw [get_set_ne _ _ _ _ he] at h1
          exact .inr ⟨b', l1, h1, hg1⟩
      · refine hR.step b (by simp [hR.len]) hLE (fun _ h => h) hsame (fun b' k0 l1 hk0 hl1 => ?_) (fun b' l1 g h1 hg1 => ?_) (fun g hg => ?_)
        · by_cases he : b = b'
          · subst he
            simp [hbH] at hk0
            rw [hφb] at hl1
            cases hl1
            subst hk0
            exact .inr hbr
          · rw [get_set_ne _ _ _ _ he] at hk0 hl1
            exact .inl ⟨hk0, hl1, fun g hg => ⟨hheap g (hR.lt hl1 hg), fun h => h⟩⟩
        · by_cases he : b = b'
          · subst he
            rw [hφb] at h1
            cases h1
            cases hg1
            exact .inr ⟨rfl, Nat.le_refl _⟩
          · rw [get_set_ne _ _ _ _ he] at h1
            exact .inl ⟨l1, h1, hg1⟩
        · have := hR.imm g hg
          simp only [w', World.size_alloc, World.size_drew]
          omega
      · rw [hLen]
        have := VR.ref (gs := []) (φ := φ.set b l') (I := I) (w := w') b (L + ys.length) 0 (L + ys.length) w.heap.size 0 sz arr.size newCap (by rw [hφb]; simp only [l', hLen]) (by omega) hcap (by omega) (by rw [harr]; simp)
        simpa using this
    rcases hinv with ⟨hb, hxs, hL0, _, _, hc⟩ | ⟨hl0, _, a0, g, δ, n, hc, hb⟩ | ⟨g, δ, arr, ty, cap, hc, hb, hg, hn, hxlen, hxd, hz0, hI, g1, g2, g3, g4⟩
    · subst hxs
      subst hL0
      exact moved [] 0 none .virt hb (fun newg newn => .first _ _ _ _ _ (by omega)) hc (by omega) (by simp) (by simp [Builtin.firstCells]) (by simp) (by simp [get2])
    · subst hl0
      obtain rfl : xs = [] := List.eq_nil_of_length_eq_zero hL
      exact moved [] 0 a0 _ hb (fun newg newn => .more _ _ _ _ _ _ _ _ _ _ (by omega)) hc (by omega) (by simp) (by cases a0 <;> simp [Builtin.firstCells, loadCells, loadCellsFrom]) (by simp) (by simp [get2])
    · have hes : esz0 = sz := hesz.resolve_right (Nat.pos_iff_ne_zero.1 hz0)
      subst hes
      simp only [Nat.zero_mul, Nat.add_zero, Nat.zero_add] at hc g4 g3
      by_cases hroom : L + ys.length ≤ cap
      · -- in place
        have hfit2 : δ + L * esz0 + ys.length * esz0 ≤ arr.size := by
          have : (L + ys.length) * esz0 ≤ cap * esz0 := Nat.mul_le_mul_right _ hroom
          rw [Nat.add_mul] at this
          omega
        have hrun := run_append_in (P := P) (ty := type) (w := w) hu hu2 hi g δ L cap ⟨gy, oy, none⟩ ys.length cy news hg hnl hnews hn1 hroom hfit2
        have hnI : ¬ I g := fun h => by have := hI.2 h; cases this
        have hlt : L < L + ys.length := by omega
        have hfitA : δ + L * esz0 + news.length ≤ arr.toList.length := by rw [hnl, Array.length_toList]; exact hfit2
        obtain ⟨arr', harr'⟩ : ∃ arr', arr' = (arr.toList.take (δ + L * esz0) ++ news ++ arr.toList.drop (δ + L * esz0 + news.length)).toArray := ⟨_, rfl⟩
        rw [← harr'] at hrun
        have hsz : arr'.size = arr.size := by
          have h0 := Array.length_toList (xs := arr)
          subst harr'
          simp only [List.size_toArray, List.length_append, List.length_take, List.length_drop]
          omega
        have hw := hR.write (b := b) (l := .at g δ esz0 L arr.size []) (l' := .at g δ esz0 (xs ++ ys).length arr'.size []) (g := g) hb rfl hnI
          (by rw [hLen]; exact .more _ _ _ _ _ _ _ _ _ _ hlt) (fun _ h => h) arr' (.sl esz0 (xs ++ ys) false)
        have hsame : ∀ g', I g' → (w.setRow g arr').heap[g']? = w.heap[g']? := fun g' hg' => setRow_other w g g' _ fun e => hnI (e ▸ hg')
        obtain ⟨h1, h2, hkp⟩ := hw (.sl esz0 (xs ++ ys) false g δ _ ty (setRow_heap w g arr _ ty (0, 0) hg) (by rw [hsz, hLen, Nat.add_mul]; omega) (rows_append hxlen hylen) (fun i j d c hd hcj => by
          refine DR.mono (fun _ h => h) hsame (I := I) (w := w) ?_
          subst harr'
          simp only [List.getElem?_toArray] at hcj
          rw [splice_get _ _ _ hfitA, hnl] at hcj
          rcases get2_append hd with ⟨h1, h2⟩ | ⟨h1, h2⟩
          · obtain ⟨_, hj⟩ := get2_lt hxlen h2
            have : i * esz0 + esz0 ≤ L * esz0 := by rw [← Nat.succ_mul]; exact Nat.mul_le_mul_right _ (by omega)
            rw [if_neg (by omega)] at hcj
            exact hxd i j d c h2 (by simpa using hcj)
          · obtain ⟨h3, hj⟩ := get2_lt hylen h2
            have h4 : i * esz0 = L * esz0 + (i - xs.length) * esz0 := by
              have : i = L + (i - xs.length) := by omega
              rw [show i * esz0 = (L + (i - xs.length)) * esz0 by rw [← this], Nat.add_mul]
            have h5 : (i - xs.length) * esz0 + esz0 ≤ ys.length * esz0 := by rw [← Nat.succ_mul]; exact Nat.mul_le_mul_right _ h3
            rw [if_pos (by omega)] at hcj
            refine hnd _ j d c h2 ?_
            rwa [show δ + i * esz0 + j - (δ + L * esz0) = (i - xs.length) * esz0 + j by omega] at hcj) hz0 ⟨fun h => (by cases h), fun h => (hnI h).elim⟩)
        refine ⟨_, I, _, .slice (some ⟨g, δ, none⟩) (L + ys.length) cap, .inl (hexec _ _ (by rw [hc, hcy]; exact hrun)), h2, h1, ?_, hkp⟩
        have hv := VR.ref (gs := []) (φ := φ.set b (.at g δ esz0 (xs ++ ys).length arr'.size [])) (I := I) (w := w.setRow g arr') b (xs ++ ys).length 0 (xs ++ ys).length g δ esz0 _ cap (by simp [hbφ]; rfl) (by omega) (by rw [hLen]; exact hroom) (by rw [hLen]; omega) (by rw [hsz]; simpa using g4)
        rw [hLen] at hv ⊢
        simpa using hv
      · -- it grows
        have hLe : L * esz0 ≤ arr.size - δ := by omega
        refine moved ((arr.toList.drop δ).take (L * esz0)) cap _ _ hb (fun newg newn => .more _ _ _ _ _ _ _ _ _ _ (by omega)) hc (by omega) (by simp; omega) ?_ hxlen (fun i j d c hd hcj => ?_)
        · refine run_firstCells_some (P := P) w.drew esz0 L ⟨g, δ, none⟩ L cap _ (by simp; omega) fun j v hj => ?_
          have hjs : j < L * esz0 := by have := (List.getElem?_eq_some_iff.1 hj).1; simp at this; omega
          rw [List.getElem?_take_of_lt hjs] at hj
          rw [add_none, World.cell?_drew, cell_of hg]
          simpa using hj
        · obtain ⟨h1, hj⟩ := get2_lt hxlen hd
          have : i * esz0 + esz0 ≤ L * esz0 := by rw [← Nat.succ_mul]; exact Nat.mul_le_mul_right _ (by omega)
          rw [List.getElem?_take_of_lt (by omega)] at hcj
          refine hxd i j d c hd ?_
          rw [Nat.add_assoc]
          simpa using hcj

theorem d_append {t t2 e e2 : TypeId} {x y : Operand} {b L len esz0 sz bytes L' : Nat} {xs ys zs : List (List D)} {z : Value} (hu : P.underlying t = some (.slice e)) (hu2 : P.underlying t2 = some (.slice e2)) (hi : TyI P e z sz bytes) (hz : 0 < sz) (hzs : z.cells.size = sz)
    (hx : ev T x = .ref b L 0 L) (hk : H[b]? = some (.sl esz0 xs false)) (hL : xs.length = L) (hesz : esz0 = sz ∨ esz0 = 0) (hy : Holds H sz (ev T y) ys) (hzz : xs ++ ys = zs) (hL' : zs.length = L') (hfit : L' * bytes ≤ 140737488355328) (h63 : L' ≤ 9223372036854775807) :
    Does P ⟨dst, .call ⟨.builtin .append, #[x, y], #[t, t2]⟩, type, pos, after, guard⟩ T H (.ref b L' 0 L') (H.set b (.sl sz zs false)) [b] := fun φ I w a hR hT =>
  d_append_at hu hu2 hi hz hzs hk hL hesz hy hzz hL' hfit h63 φ I w a hR (hx ▸ ev_VR hT x) (ev_VR hT y)
end
end Go.VM
namespace Go.VM

structure TurnM (m : Nat) (φ : List Plc) (I : Nat → Prop) (w : World) (φ' : List Plc) (I' : Nat → Prop) (w' : World) : Prop where
  os : w'.os = w.os
  tape : w'.tape = w.tape
  output : w'.output = w.output
  drawn : w.drawn ≤ w'.drawn
  size : w.heap.size ≤ w'.heap.size
  frame : ∀ g, g < w.heap.size → (∀ (b : Nat) (l : Plc), φ[b]? = some l → ¬ l.owns g) → w'.heap[g]? = w.heap[g]?
  same : ∀ g, I g → w'.heap[g]? = w.heap[g]?
  sub : ∀ g, I g → I' g
  le : ∀ (b : Nat), b < m → ∀ (l : Plc), φ[b]? = some l → ∃ l' : Plc, φ'[b]? = some l' ∧ PlcLE l l'
  fresh : ∀ (b : Nat) (l : Plc) (g : Nat), φ'[b]? = some l → l.owns g → w.heap.size ≤ g ∨ ∃ (b0 : Nat) (l0 : Plc), φ[b0]? = some l0 ∧ l0.owns g
  immNew : ∀ g, I' g → I g ∨ w.heap.size ≤ g ∨ ∃ (b : Nat) (l : Plc), φ[b]? = some l ∧ l.owns g

theorem Turn.toM {φ φ' : List Plc} {I I' : Nat → Prop} {w w' : World} (h : Turn φ I w φ' I' w') (m : Nat) : TurnM m φ I w φ' I' w' :=
  ⟨h.os, h.tape, h.output, h.drawn, h.size, h.frame, h.same, h.sub, fun b _ l hl => h.le b l hl, h.fresh, h.immNew⟩

theorem TurnM.trans {m : Nat} {φ φ1 φ2 : List Plc} {I I1 I2 : Nat → Prop} {w w1 w2 : World} (h : TurnM m φ I w φ1 I1 w1) (h' : TurnM m φ1 I1 w1 φ2 I2 w2) : TurnM m φ I w φ2 I2 w2 where
  os := h'.os.trans h.os
  tape := h'.tape.trans h.tape
  output := h'.output.trans h.output
  drawn := Nat.le_trans h.drawn h'.drawn
  size := Nat.le_trans h.size h'.size
  frame g hg hno := by
    rw [h'.frame g (Nat.lt_of_lt_of_le hg h.size) fun b l hb hlg => ?_, h.frame g hg hno]
    rcases h.fresh b l g hb hlg with hge | ⟨b0, l0, hl0, hl0g⟩
    · omega
    · exact hno b0 l0 hl0 hl0g
  same g hg := by rw [h'.same g (h.sub g hg), h.same g hg]
  sub g hg := h'.sub g (h.sub g hg)
  le b hb l hl := by
    obtain ⟨l1, h1, hl1⟩ := h.le b hb l hl
    obtain ⟨l2, h2, hl2⟩ := h'.le b hb l1 h1
    exact ⟨l2, h2, hl1.trans hl2⟩
  fresh b l g hb hg := by
    rcases h'.fresh b l g hb hg with hge | ⟨b0, l0, hl0, hl0g⟩
    · exact .inl (Nat.le_trans h.size hge)
    · exact h.fresh b0 l0 g hl0 hl0g
  immNew g hg := by
    rcases h'.immNew g hg with h1 | h1 | ⟨b, l, hb, hl⟩
    · exact h.immNew g h1
    · exact .inr (.inl (Nat.le_trans h.size h1))
    · rcases h.fresh b l g hb hl with hge | ⟨b0, l0, hl0, hl0g⟩
      · exact .inr (.inl hge)
      · exact .inr (.inr ⟨b0, l0, hl0, hl0g⟩)

/-- What is still to be done. -/
inductive VI where
  | code (c : Code)
  | blk (id : Nat)
  | loop (body : Code)
  | ops (all : Array Oper) (i : Nat) (l : List Oper)

def VI.item : VI → Item
  | .code c => .code c
  | .blk id => .inBlock id
  | .loop body => .inLoop body
  | .ops all i l => .inRegion all (List.range' i l.length)
def VI.ok : VI → Prop
  | .ops all i l => all.toList.drop i = l
  | _ => True

def Goes (P : Program) (f : FuncId) (N m : Nat) (todo : List VI) (T : Tm) (H : List Blk) (r : V) (B : List Blk) : Prop :=
  ∀ (φ : List Plc) (I : Nat → Prop) (w : World) (a : Act) (b : Frame) (cs : List Frame), Rel H φ I w → TR φ I w T a → a.defers = [] → a.tmps.size = N → (∀ x ∈ todo, x.ok) → b.fn = f → b.kind = .normal →
    ∃ φ' I' w' c fr, Steps P (lone (b.at a (todo.map VI.item)) cs w) (lone fr cs w') ∧ fr.fn = f ∧ fr.leaving P w' (.returned c) ∧ TurnM m φ I w φ' I' w' ∧ Rel B φ' I' w' ∧ VR φ' I' w' r c

section
variable {P : Program} {f : FuncId} {N m : Nat} {T : Tm} {H : List Blk} {r : V} {B : List Blk} {k : List VI}

theorem Goes.of_step {todo todo2 : List VI} (hok : (∀ x ∈ todo, x.ok) → ∀ x ∈ todo2, x.ok)
    (h : ∀ (φ : List Plc) (I : Nat → Prop) (w : World) (a : Act) (b : Frame) (cs : List Frame), TR φ I w T a → step P (lone (b.at a (todo.map VI.item)) cs w) = .next (lone (b.at a (todo2.map VI.item)) cs w))
    (hg : Goes P f N m todo2 T H r B) : Goes P f N m todo T H r B := fun φ I w a b cs hR hT hd hN hk hf hkd => by
  obtain ⟨φ', I', w', c, fr, hs, h1⟩ := hg φ I w a b cs hR hT hd hN (hok hk) hf hkd
  exact ⟨φ', I', w', c, fr, .head (h φ I w a b cs hT) hs, h1⟩

theorem gSeq {x y : Code} (h : Goes P f N m (.code x :: .code y :: k) T H r B) : Goes P f N m (.code (.seq x y) :: k) T H r B :=
  h.of_step (fun hk z hz => by
    simp only [List.mem_cons] at hz
    rcases hz with rfl | rfl | hz
    · trivial
    · trivial
    · exact hk z (by simp [hz])) (fun _ _ _ _ _ _ _ => step_seq)
theorem gSkip (h : Goes P f N m k T H r B) : Goes P f N m (.code .skip :: k) T H r B :=
  h.of_step (fun hk z hz => hk z (by simp [hz])) (fun _ _ _ _ _ _ _ => step_skip)
theorem gBlock {id : Nat} {c : Code} (h : Goes P f N m (.code c :: .blk id :: k) T H r B) : Goes P f N m (.code (.block id c) :: k) T H r B :=
  h.of_step (fun hk z hz => by
    simp only [List.mem_cons] at hz
    rcases hz with rfl | rfl | hz
    · trivial
    · trivial
    · exact hk z (by simp [hz])) (fun _ _ _ _ _ _ _ => step_block)
theorem gBlk {id : Nat} (h : Goes P f N m k T H r B) : Goes P f N m (.blk id :: k) T H r B :=
  h.of_step (fun hk z hz => hk z (by simp [hz])) (fun _ _ _ _ _ _ _ => step_inBlock)
theorem gLoop {c : Code} (h : Goes P f N m (.code c :: .loop c :: k) T H r B) : Goes P f N m (.code (.loop c) :: k) T H r B :=
  h.of_step (fun hk z hz => by
    simp only [List.mem_cons] at hz
    rcases hz with rfl | rfl | hz
    · trivial
    · trivial
    · exact hk z (by simp [hz])) (fun _ _ _ _ _ _ _ => step_loop)
theorem gAgain {c : Code} (h : Goes P f N m (.code c :: .loop c :: k) T H r B) : Goes P f N m (.loop c :: k) T H r B :=
  h.of_step (fun hk z hz => by
    simp only [List.mem_cons] at hz
    rcases hz with rfl | rfl | hz
    · trivial
    · trivial
    · exact hk z (by simp [hz])) (fun _ _ _ _ _ _ _ => step_inLoop)

def vexit (id : Nat) : List VI → Option (List VI)
  | [] => none
  | .blk id' :: k => bif Nat.beq id' id then some k else vexit id k
  | _ :: k => vexit id k
theorem vexit_exit {id : Nat} : ∀ {k k' : List VI}, vexit id k = some k' → exitTo id (k.map VI.item) = some (k'.map VI.item) ∧ ∀ x ∈ k', x ∈ k
  | [], k', h => by cases h
  | x :: k, k', h => by
    have hrec : vexit id k = some k' → exitTo id (k.map VI.item) = some (k'.map VI.item) ∧ ∀ y ∈ k', y ∈ x :: k := fun h => ⟨(vexit_exit h).1, fun y hy => List.mem_cons_of_mem _ ((vexit_exit h).2 y hy)⟩
    cases x with
    | blk id' =>
      simp only [vexit] at h
      by_cases he : id' = id
      · subst he
        simp at h
        subst h
        simp only [List.map_cons, VI.item, exitTo, beq_self_eq_true, if_true]
        exact ⟨trivial, fun y hy => List.mem_cons_of_mem _ hy⟩
      · have hb : Nat.beq id' id = false := by
          cases hb : Nat.beq id' id with
          | true => exact absurd (Nat.eq_of_beq_eq_true hb) he
          | false => rfl
        rw [hb] at h
        have := hrec h
        simp only [List.map_cons, VI.item, exitTo]
        have he' : (id' == id) = false := by simpa using he
        rw [he']
        simpa using this
    | code c => exact ⟨by simpa [VI.item, exitTo] using (hrec h).1, (hrec h).2⟩
    | loop c => exact ⟨by simpa [VI.item, exitTo] using (hrec h).1, (hrec h).2⟩
    | ops a i l => exact ⟨by simpa [VI.item, exitTo] using (hrec h).1, (hrec h).2⟩

theorem gExit {id : Nat} {k' : List VI} (he : vexit id k = some k') (h : Goes P f N m k' T H r B) : Goes P f N m (.code (.exit id) :: k) T H r B :=
  h.of_step (fun hk z hz => hk z (by simp [(vexit_exit he).2 z hz])) (fun _ _ _ _ _ _ _ => step_exit (vexit_exit he).1)

theorem gCondT {c : Operand} {x y : Code} (hc : ev T c = .d (.bool true)) (h : Goes P f N m (.code x :: k) T H r B) : Goes P f N m (.code (.cond c x y) :: k) T H r B :=
  h.of_step (fun hk z hz => by
    simp only [List.mem_cons] at hz
    rcases hz with rfl | hz
    · trivial
    · exact hk z (by simp [hz])) (fun φ I w a b cs hT => step_cond (t := true) (hc ▸ ev_VR hT c).bool_inv)
theorem gCondF {c : Operand} {x y : Code} (hc : ev T c = .d (.bool false)) (h : Goes P f N m (.code y :: k) T H r B) : Goes P f N m (.code (.cond c x y) :: k) T H r B :=
  h.of_step (fun hk z hz => by
    simp only [List.mem_cons] at hz
    rcases hz with rfl | hz
    · trivial
    · exact hk z (by simp [hz])) (fun φ I w a b cs hT => step_cond (t := false) (hc ▸ ev_VR hT c).bool_inv)

/-- A region that keeps the text's order. -/
theorem gRegion {id : Nat} {all : Array Oper} {l : List Oper} (hl : all.toList = l) (h : Goes P f N m (.ops all 0 l :: k) T H r B) : Goes P f N m (.code (.region id all false) :: k) T H r B :=
  h.of_step (fun hk z hz => by
    simp only [List.mem_cons] at hz
    rcases hz with rfl | hz
    · simpa [VI.ok] using hl
    · exact hk z (by simp [hz])) (fun φ I w a b cs hT => by
      have := step_region (P := P) (b := b) (a := a) (k := k.map VI.item) (cs := cs) (w := w) (id := id) (ops := all)
      rw [List.map_cons, List.map_cons]
      simp only [VI.item]
      rw [this, ← hl, Array.length_toList, List.range_eq_range'])
theorem gEnd {all : Array Oper} {i : Nat} (h : Goes P f N m k T H r B) : Goes P f N m (.ops all i [] :: k) T H r B :=
  h.of_step (fun hk z hz => hk z (by simp [hz])) (fun φ I w a b cs hT => step_region_end)

/-! ### one operation -/
theorem drop_get {α : Type} {l t : List α} {i : Nat} {x : α} (h : l.drop i = x :: t) : l[i]? = some x ∧ l.drop (i + 1) = t := by
  have h1 : (l.drop i)[0]? = some x := by rw [h]; rfl
  rw [List.getElem?_drop] at h1
  refine ⟨by simpa using h1, ?_⟩
  rw [← List.drop_drop, h]
  rfl

theorem step_value {ops : Array Oper} {i : Nat} {rest : List Nat} {o : Oper} {b : Frame} {a : Act} {K : List Item} {cs : List Frame} {w w' : World} {v : Value} (ho : ops[i]? = some o) (hw : Region.wanted o (yielded ops a.tmps) = true)
    (hr : (execOp a.eval o).run P w = .ok (.value v) w' ∨ ((execOp a.eval o).run P w = .ok .skip w' ∧ v = undef)) :
    step P (lone (b.at a (.inRegion ops (i :: rest) :: K)) cs w) = .next (lone (b.at (a.put o.dst v) (.inRegion ops rest :: K)) cs w') := by
  have hg := stepG_op (P := P) (b := b) (k := K) (cs := cs) (w := w) (rest := rest) ho hw
  have hfin : ∀ v, (b.at a (.inRegion ops (i :: rest) :: K)).finish v = b.at (a.put o.dst v) (.inRegion ops rest :: K) := by
    intro v; rw [Frame.finish_at, ho]; rfl
  refine step_lone_go ?_
  rcases hr with hr | ⟨hr, rfl⟩
  · rw [hg, ← hfin]; simp [stepG.apply, hr]
  · rw [hg, ← hfin]; simp [stepG.apply, hr]

/-- Is the operation wanted, as the machine's frame tells? -/
def vyield (T : Tm) (ops : Array Oper) (j : Nat) : Option (Option Bool) :=
  match (ops[j]?).bind (·.dst) with
  | some d => match get T d with
    | .d (.bool b) => some (some b)
    | .tuple _ => some none
    | _ => none
  | none => none
def vwanted (T : Tm) (ops : Array Oper) (o : Oper) : Option Bool :=
  match o.guard with
  | none => some true
  | some (j, want) => (vyield T ops j).map fun y => match y with
    | some b => bif want then b else !b
    | none => false

theorem VR.tuple_val {φ : List Plc} {I : Nat → Prop} {w : World} {vs : List V} {c : Value} (h : VR φ I w (.tuple vs) c) : ∃ cs, c = .tuple cs := by
  cases h
  exact ⟨_, rfl⟩
theorem undef_VR (φ : List Plc) (I : Nat → Prop) (w : World) : VR φ I w (.tuple []) undef := .tuple [] #[] rfl (fun i v c h => by simp at h)

theorem vwanted_wanted {φ : List Plc} {I : Nat → Prop} {w : World} {a : Act} {ops : Array Oper} {o : Oper} {t : Bool} (hT : TR φ I w T a) (h : vwanted T ops o = some t) : Region.wanted o (yielded ops a.tmps) = t := by
  unfold vwanted at h
  unfold Region.wanted
  cases hg : o.guard with
  | none => simp [hg] at h; simpa using h
  | some q =>
    obtain ⟨j, want⟩ := q
    simp only [hg] at h ⊢
    obtain ⟨b, hb, hbt⟩ := Option.map_eq_some_iff.1 h
    have hy : yielded ops a.tmps j = b := by
      unfold vyield at hb
      unfold yielded
      cases hd : (ops[j]?).bind (·.dst) with
      | none => simp [hd] at hb
      | some d =>
        simp only [hd] at hb
        have hv := hT d
        simp only [Option.bind_some]
        split at hb
        case h_3 => cases hb
        case h_1 b' hgt =>
          cases hb
          rw [hgt] at hv
          have := hv.bool_inv
          have hlt : d < a.tmps.size := by
            rcases Nat.lt_or_ge d a.tmps.size with h | h
            · exact h
            · rw [Array.getD_eq_getD_getElem?, Array.getElem?_eq_none h] at this
              cases this
          rw [Array.getD_eq_getD_getElem?, Array.getElem?_eq_getElem hlt] at this
          simp only [Option.getD_some] at this
          rw [Array.getElem?_eq_getElem hlt, this]
        case h_2 vs hgt =>
          cases hb
          rw [hgt] at hv
          obtain ⟨cs, this⟩ := hv.tuple_val
          rcases Nat.lt_or_ge d a.tmps.size with hlt | hge
          · rw [Array.getD_eq_getD_getElem?, Array.getElem?_eq_getElem hlt] at this
            simp only [Option.getD_some] at this
            rw [Array.getElem?_eq_getElem hlt, this]
          · rw [Array.getElem?_eq_none hge]
    rw [hy]
    subst hbt
    cases b with
    | none => rfl
    | some b => cases want <;> cases b <;> rfl

theorem TR.put {φ : List Plc} {I : Nat → Prop} {w : World} {a : Act} {v : V} {c : Value} {d : Nat} (h : TR φ I w T a) (hd : d < a.tmps.size) (hv : VR φ I w v c) : TR φ I w ((d, v) :: T) (a.put (some d) c) := fun t => by
  simp only [get, Act.put]
  by_cases he : t = d
  · subst he
    have hb : Nat.beq t t = true := by simp
    rw [hb, Array.getD_eq_getD_getElem?, Array.getElem?_setIfInBounds, if_pos rfl, if_pos hd]
    exact hv
  · have hb : Nat.beq t d = false := by
      cases hb : Nat.beq t d with
      | true => exact absurd (Nat.eq_of_beq_eq_true hb) he
      | false => rfl
    rw [hb, Array.getD_eq_getD_getElem?, Array.getElem?_setIfInBounds, if_neg (fun e => he e.symm), ← Array.getD_eq_getD_getElem?]
    exact h t

def tput (T : Tm) (dst : Option Tmp) (v : V) : Tm :=
  match dst with
  | some d => (d, v) :: T
  | none => T
def inN (N : Nat) (dst : Option Tmp) : Bool :=
  match dst with
  | some d => Nat.blt d N
  | none => true
theorem TR.tput {φ : List Plc} {I : Nat → Prop} {w : World} {a : Act} {v : V} {c : Value} {dst : Option Tmp} (h : TR φ I w T a) (hN : a.tmps.size = N) (hd : inN N dst = true) (hv : VR φ I w v c) : TR φ I w (tput T dst v) (a.put dst c) := by
  cases dst with
  | none => exact h
  | some d => exact h.put (by rw [hN]; exact Nat.le_of_ble_eq_true hd) hv
theorem put_size {a : Act} {dst : Option Tmp} {c : Value} : (a.put dst c).tmps.size = a.tmps.size := by cases dst <;> simp [Act.put]
theorem put_defers {a : Act} {dst : Option Tmp} {c : Value} : (a.put dst c).defers = a.defers := by cases dst <;> simp [Act.put]

theorem ops_cons {all : Array Oper} {i : Nat} {o : Oper} {l : List Oper} : VI.item (.ops all i (o :: l)) = .inRegion all (i :: List.range' (i + 1) l.length) := by simp [VI.item, List.range'_succ]

theorem gOp {all : Array Oper} {i : Nat} {o : Oper} {l : List Oper} {v : V} {H' : List Blk} {tc : List Nat} (hw : vwanted T all o = some true) (hN : inN N o.dst = true) (hdo : Does P o T H v H' tc) (h : Goes P f N m (.ops all (i + 1) l :: k) (tput T o.dst v) H' r B) :
    Goes P f N m (.ops all i (o :: l) :: k) T H r B := fun φ I w a b cs hR hT hd hsz hk hf hkd => by
  obtain ⟨ho, hl⟩ := drop_get (show all.toList.drop i = o :: l from hk (.ops all i (o :: l)) (by simp))
  have ho' : all[i]? = some o := by simpa using ho
  obtain ⟨φ1, I1, w1, c, hrun, ht, hR1, hv, _⟩ := hdo φ I w a hR hT
  have hstep := step_value (P := P) (b := b) (K := k.map VI.item) (cs := cs) (rest := List.range' (i + 1) l.length) ho' (vwanted_wanted hT hw) hrun
  obtain ⟨φ', I', w', c', fr, hs, h1, h2, h3, h4⟩ := h φ1 I1 w1 (a.put o.dst c) b cs hR1 ((hT.turn ht).tput hsz hN hv) (by rw [put_defers]; exact hd) (by rw [put_size]; exact hsz) (fun x hx => by
    simp only [List.mem_cons] at hx
    rcases hx with rfl | hx
    · exact hl
    · exact hk x (by simp [hx])) hf hkd
  refine ⟨φ', I', w', c', fr, .head ?_ hs, h1, h2, (ht.toM m).trans h3, h4⟩
  rw [List.map_cons, ops_cons]
  exact hstep

/-- An operation that isn't wanted. -/
theorem gNot {all : Array Oper} {i : Nat} {o : Oper} {l : List Oper} (hw : vwanted T all o = some false) (hN : inN N o.dst = true) (h : Goes P f N m (.ops all (i + 1) l :: k) (tput T o.dst (.tuple [])) H r B) :
    Goes P f N m (.ops all i (o :: l) :: k) T H r B := fun φ I w a b cs hR hT hd hsz hk hf hkd => by
  obtain ⟨ho, hl⟩ := drop_get (show all.toList.drop i = o :: l from hk (.ops all i (o :: l)) (by simp))
  have ho' : all[i]? = some o := by simpa using ho
  have hstep := step_op_skip (P := P) (b := b) (a := a) (k := k.map VI.item) (cs := cs) (w := w) (ops := all) (i := i) (rest := List.range' (i + 1) l.length) (by simp [ho', vwanted_wanted hT hw])
  rw [ho'] at hstep
  obtain ⟨φ', I', w', c', fr, hs, h1, h2, h3, h4⟩ := h φ I w (a.put o.dst undef) b cs hR (hT.tput hsz hN (undef_VR _ _ _)) (by rw [put_defers]; exact hd) (by rw [put_size]; exact hsz) (fun x hx => by
    simp only [List.mem_cons] at hx
    rcases hx with rfl | hx
    · exact hl
    · exact hk x (by simp [hx])) hf hkd
  refine ⟨φ', I', w', c', fr, .head ?_ hs, h1, h2, h3, h4⟩
  rw [List.map_cons, ops_cons]
  exact hstep

/-! ### what changes nothing in the program -/
/-- The machine's own view turns; nothing happens. -/
def Ghost (T : Tm) (H : List Blk) (T' : Tm) (H' : List Blk) : Prop :=
  ∀ (φ : List Plc) (I : Nat → Prop) (w : World) (a : Act), Rel H φ I w → TR φ I w T a → ∃ φ' I', Turn φ I w φ' I' w ∧ Rel H' φ' I' w ∧ TR φ' I' w T' a
theorem gGhost {todo : List VI} {T' : Tm} {H' : List Blk} (hg : Ghost T H T' H') (h : Goes P f N m todo T' H' r B) : Goes P f N m todo T H r B := fun φ I w a b cs hR hT hd hsz hk hf hkd => by
  obtain ⟨φ1, I1, ht, hR1, hT1⟩ := hg φ I w a hR hT
  obtain ⟨φ', I', w', c', fr, hs, h1, h2, h3, h4⟩ := h φ1 I1 w a b cs hR1 hT1 hd hsz hk hf hkd
  exact ⟨φ', I', w', c', fr, hs, h1, h2, (ht.toM m).trans h3, h4⟩

/-- Only these temporaries are needed any more. -/
def keepT (ks : List Nat) (T : Tm) : Tm := ks.map fun t => (t, get T t)
theorem get_keep : ∀ (ks : List Nat) (T : Tm) (t : Nat), get (keepT ks T) t = get T t ∨ get (keepT ks T) t = .undef
  | [], T, t => .inr rfl
  | k :: ks, T, t => by
    simp only [keepT, List.map_cons, get]
    cases hb : Nat.beq t k with
    | true =>
      have := Nat.eq_of_beq_eq_true hb
      subst this
      exact .inl rfl
    | false => exact get_keep ks T t
theorem gKeep {todo : List VI} (ks : List Nat) {T' : Tm} (hT' : keepT ks T = T') (h : Goes P f N m todo T' H r B) : Goes P f N m todo T H r B := by
  subst hT'
  refine gGhost (fun φ I w a hR hT => ⟨φ, I, Turn.refl φ I w, hR, fun t => ?_⟩) h
  rcases get_keep ks T t with h | h
  · rw [h]; exact hT t
  · rw [h]; exact .undef _

/-- A Bool that is held is looked at. -/
theorem gSplit {todo : List VI} (t : Nat) {b : Bool} (ht : get T t = .d (.bool b)) (h1 : b = true → Goes P f N m todo ((t, .d (.bool true)) :: T) H r B) (h2 : b = false → Goes P f N m todo ((t, .d (.bool false)) :: T) H r B) :
    Goes P f N m todo T H r B := by
  have key : ∀ b', get T t = .d (.bool b') → Goes P f N m todo ((t, .d (.bool b')) :: T) H r B → Goes P f N m todo T H r B := fun b' hb' h => by
    refine gGhost (fun φ I w a hR hT => ⟨φ, I, Turn.refl φ I w, hR, fun t' => ?_⟩) h
    simp only [get]
    cases hb : Nat.beq t' t with
    | true =>
      have := Nat.eq_of_beq_eq_true hb
      subst this
      simp only [cond_true]
      rw [← hb']
      exact hT t'
    | false => exact hT t'
  cases b with
  | true => exact key true ht (h1 rfl)
  | false => exact key false ht (h2 rfl)

/-- A nil slice that is held becomes a slice over an empty block of its own. -/
theorem gVirt {esz : Nat} {todo : List VI} (t : Nat) (ht : get T t = .nilc) (h : Goes P f N m todo ((t, .ref H.length 0 0 0) :: T) (H ++ [.sl esz [] false]) r B) : Goes P f N m todo T H r B := by
  refine gGhost (fun φ I w a hR hT => ?_) h
  obtain ⟨h1, h2⟩ := hR.virt (esz := esz)
  refine ⟨_, I, h2, h1, fun t' => ?_⟩
  simp only [get]
  cases hb : Nat.beq t' t with
  | true =>
    have := Nat.eq_of_beq_eq_true hb
    subst this
    have hv := hT t'
    rw [ht] at hv
    rw [hv.nilc_inv]
    exact virt_VR φ I w hR.len
  | false => exact (hT t').turn h2
end
end Go.VM
