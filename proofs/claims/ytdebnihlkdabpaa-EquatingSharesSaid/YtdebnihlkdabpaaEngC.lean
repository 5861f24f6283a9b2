/- Loads and stores, arithmetic, and the other operations that need no list. -/
import Derived.Test.YtdebnihlkdabpaaEngB
namespace Go.VM
set_option linter.unusedVariables false
set_option linter.unusedSimpArgs false

theorem get_set_ne {α : Type} (l : List α) (b b' : Nat) (x : α) (h : b ≠ b') : (l.set b x)[b']? = l[b']? := by
  rw [List.getElem?_set_ne h]

/-- A block of the machine's own is written. -/
theorem Rel.write {H : List Blk} {φ : List Plc} {I : Nat → Prop} {w : World} (h : Rel H φ I w) {b : Nat} {l l' : Plc} {g : Nat} (hb : φ[b]? = some l) (hlg : l.g? = some g) (hI : ¬ I g)
    (hle : PlcLE l l') (hlg' : l'.g? = some g) (arr : Array Value) (k' : Blk) (hbr : BR (φ.set b l') I (w.setRow g arr) k' l') :
    Rel (H.set b k') (φ.set b l') I (w.setRow g arr) ∧ Turn φ I w (φ.set b l') I (w.setRow g arr) ∧ Keeps φ (φ.set b l') [b] w (w.setRow g arr) := by
  have hblt : b < φ.length := (List.getElem?_eq_some_iff.1 hb).1
  have hheap : ∀ g', g' ≠ g → (w.setRow g arr).heap[g']? = w.heap[g']? := fun g' hne => by
    simp only [World.setRow, Array.getElem?_modify]
    rw [if_neg (Ne.symm hne)]
  have hLE : LE φ (φ.set b l') := fun b' l0 h0 => by
    by_cases he : b = b'
    · subst he
      rw [hb] at h0
      cases h0
      exact ⟨l', by simp [hblt], hle⟩
    · exact ⟨l0, by rw [get_set_ne _ _ _ _ he]; exact h0, .refl _⟩
  have hsame : ∀ g', I g' → (w.setRow g arr).heap[g']? = w.heap[g']? := fun g' hg' => hheap g' fun e => hI (e ▸ hg')
  have hsize : (w.setRow g arr).heap.size = w.heap.size := by simp [World.setRow]
  have hgs : ∀ (b' : Nat) (l0 : Plc) (g' : Nat), (φ.set b l')[b']? = some l0 → l0.g? = some g' → ∃ l1 : Plc, φ[b']? = some l1 ∧ l1.g? = some g' := fun b' l0 g' h0 hg0 => by
    by_cases he : b = b'
    · subst he
      simp [hblt] at h0
      subst h0
      rw [hlg'] at hg0
      cases hg0
      exact ⟨l, hb, hlg⟩
    · rw [get_set_ne _ _ _ _ he] at h0
      exact ⟨l0, h0, hg0⟩
  refine ⟨h.step b (by simp [h.len]) hLE (fun _ hg => hg) hsame (fun b' k0 l0 hk hl => ?_) (fun b' l0 g' h0 hg0 => .inl (hgs b' l0 g' h0 hg0)) (fun g' hg' => by rw [hsize]; exact h.imm g' hg'), ?_, fun b' l0 hb' h0 => ⟨by rw [get_set_ne _ _ _ _ (fun e => hb' (by simp [e]))]; exact h0, fun g' hg0 => hheap g' fun e => ?_⟩⟩
  · by_cases he : b = b'
    · subst he
      have hbH : b < H.length := by rw [← h.len]; exact hblt
      simp [hblt] at hl
      simp [hbH] at hk
      subst hk hl
      exact .inr hbr
    · rw [get_set_ne _ _ _ _ he] at hl hk
      refine .inl ⟨hk, hl, fun g' hg' => ⟨hheap g' fun e => ?_, fun hi => hi⟩⟩
      subst e
      exact he (h.inj b b' l l0 g' hb hl hlg hg')
  · exact ⟨rfl, rfl, rfl, by rw [hsize]; exact Nat.le_refl _, fun g' hg' hno => hheap g' fun e => hno b l hb (e ▸ hlg), hsame, fun _ hg => hg, hLE,
      fun b' l0 g' h0 hg0 => .inr (hgs b' l0 g' h0 hg0), fun _ hg => .inl hg⟩
  · subst e
    exact hb' (by rw [h.inj b' b l0 l g' h0 hb hg0 hlg]; simp)

theorem set_same {α : Type} {l : List α} {b : Nat} {x : α} (h : l[b]? = some x) : l.set b x = l := by
  apply List.ext_getElem?
  intro i
  by_cases he : b = i
  · subst he
    have := (List.getElem?_eq_some_iff.1 h).1
    simp [this, h]
    have h2 := h
    rw [List.getElem?_eq_getElem this] at h2
    exact (Option.some.inj h2).symm
  · rw [get_set_ne _ _ _ _ he]

def aggD : TypeDesc → Bool
  | .struct _ | .array _ _ => true
  | _ => false

/-- What the program's text tells of a type: its zero value, its cells, its bytes. -/
def TyI (P : Program) (t : TypeId) (z : Value) (sz bytes : Nat) : Prop := (P.info? t).map (fun i => (i.zero, i.size, i.bytes)) = some (some z, sz, bytes)
theorem TyI.get {P : Program} {t : TypeId} {z : Value} {sz bytes : Nat} (h : TyI P t z sz bytes) : ∃ i, P.info? t = some i ∧ i.zero = some z ∧ i.size = sz ∧ i.bytes = bytes := by
  obtain ⟨i, hi, hzz⟩ := Option.map_eq_some_iff.1 h
  simp only [Prod.mk.injEq] at hzz
  exact ⟨i, hi, hzz.1, hzz.2.1, hzz.2.2⟩

theorem run_isAgg {P : Program} {t : TypeId} {d : TypeDesc} {b : Bool} (hu : P.underlying t = some d) (hd : aggD d = b) (w : World) : (isAgg t).run P w = .ok b w := by
  subst hd
  cases d <;> simp [isAgg, run_underlying hu, aggD]

theorem run_sizeOf {P : Program} {t : TypeId} {z : Value} {sz bytes : Nat} (h : TyI P t z sz bytes) (w : World) : (sizeOf t).run P w = .ok sz w := by
  obtain ⟨i, hi, _, hs, _⟩ := h.get
  simp [sizeOf, typeInfo, hi, hs]
theorem run_zeroValue {P : Program} {t : TypeId} {z : Value} {sz bytes : Nat} (h : TyI P t z sz bytes) (w : World) : (zeroValue t).run P w = .ok z w := by
  obtain ⟨i, hi, hz, _⟩ := h.get
  simp [zeroValue, typeInfo, hi, hz]

theorem add_none (g o n : Nat) : (⟨g, o, none⟩ : Addr).add n = ⟨g, o + n, none⟩ := by unfold Addr.add; split <;> simp_all

section
variable {P : Program} {T : Tm} {H : List Blk} {dst : Option Tmp} {type : TypeId} {pos : String} {after : Array Edge} {guard : Option (Nat × Bool)}

theorem VR.ptr_box {φ : List Plc} {I : Nat → Prop} {w : World} {b off : Nat} {cells : List V} {c : Value} (hR : Rel H φ I w) (hk : H[b]? = some (.box cells)) (h : VR φ I w (.ptr b off) c) :
    ∃ g arr e, c = .pointer (some ⟨g, off, none⟩) ∧ φ[b]? = some (.box g cells.length) ∧ w.heap[g]? = some (.cells arr e (0, 0)) ∧ arr.size = cells.length ∧ (∀ (j : Nat) (v : V), cells[j]? = some v → v.one = true) ∧
      (∀ (j : Nat) (v : V) (c : Value), cells[j]? = some v → arr[j]? = some c → VR φ I w v c) ∧ ¬ I g := by
  have hblt : b < φ.length := by rw [hR.len]; exact (List.getElem?_eq_some_iff.1 hk).1
  have hbr := hR.blk b _ _ hk (List.getElem?_eq_getElem hblt)
  have hφ := List.getElem?_eq_getElem hblt
  generalize φ[b] = l at hbr hφ
  cases hbr with
  | box cells g arr e hg hn ho hc hI =>
    cases h with
    | ptr _ _ g' n hb =>
      rw [hφ] at hb
      cases hb
      exact ⟨g, arr, e, rfl, hφ, hg, hn, ho, hc, hI⟩
    | ptrDead _ _ a hb =>
      rw [hφ] at hb
      cases hb

theorem VR.eptr_sl {φ : List Plc} {I : Nat → Prop} {w : World} {b i off esz : Nat} {xs : List (List D)} {fro : Bool} {c : Value} (hR : Rel H φ I w) (hk : H[b]? = some (.sl esz xs fro)) {L : Nat} (hL : xs.length = L) (hpos : 0 < L)
    (h : VR φ I w (.eptr b L i off) c) :
    ∃ g δ arr e, c = .pointer (some ⟨g, δ + i * esz + off, none⟩) ∧ φ[b]? = some (.at g δ esz L arr.size) ∧ w.heap[g]? = some (.cells arr e (0, 0)) ∧ δ + L * esz ≤ arr.size ∧ (∀ (i : Nat) (x : List D), xs[i]? = some x → x.length = esz) ∧
      (∀ (i j : Nat) (d : D) (c : Value), get2 xs i j = some d → arr[δ + i * esz + j]? = some c → DR I w d c) ∧ 0 < esz ∧ (fro = true ↔ I g) := by
  subst hL
  have hblt : b < φ.length := by rw [hR.len]; exact (List.getElem?_eq_some_iff.1 hk).1
  have hbr := hR.blk b _ _ hk (List.getElem?_eq_getElem hblt)
  have hφ := List.getElem?_eq_getElem hblt
  generalize φ[b] = l at hbr hφ
  cases hbr with
  | virt => simp at hpos
  | sl esz xs fro g δ arr e hg hn hlen hc hz hI =>
    cases h with
    | eptr _ _ _ _ g' δ' esz' n hb =>
      rw [hφ] at hb
      cases hb
      exact ⟨g, δ, arr, e, rfl, hφ, hg, hn, hlen, hc, hz, hI⟩
    | eptrStale _ _ _ _ loc a hb hs =>
      rw [hφ] at hb
      cases hb
      exact absurd hs (Nat.lt_irrefl _)

theorem run_loadAt_one {t : TypeId} {d : TypeDesc} {w : World} {a : Addr} {c : Value} (hu : P.underlying t = some d) (hd : aggD d = false) (hc : w.cell? a = some c) : (Instr.loadAt t (.pointer (some a))).run P w = .ok c w := by
  simp [Instr.loadAt, Instr.sureAddr, loadVar, run_isAgg hu hd, hc]
theorem run_loadAt_agg {t : TypeId} {d : TypeDesc} {w : World} {a : Addr} {cs : List Value} {z : Value} {sz bytes : Nat} (hu : P.underlying t = some d) (hd : aggD d = true) (hi : TyI P t z sz bytes) (hl : cs.length = sz)
    (hc : ∀ (j : Nat) (v : Value), cs[j]? = some v → w.cell? (a.add j) = some v) : (Instr.loadAt t (.pointer (some a))).run P w = .ok (.agg cs.toArray) w := by
  have := run_loadCells_list (P := P) w a cs hc
  rw [hl] at this
  simp [Instr.loadAt, Instr.sureAddr, loadVar, run_isAgg hu hd, run_sizeOf hi, this]

theorem cell_of {w : World} {g : Nat} {arr : Array Value} {e : TypeId} {f : Nat × Nat} (hg : w.heap[g]? = some (.cells arr e f)) (o : Nat) : w.cell? ⟨g, o, none⟩ = arr[o]? := by
  simp [World.cell?, hg]

theorem q_load {t : TypeId} {x : Operand} {b off : Nat} {cells : List V} {d : TypeDesc} {v : V} (hx : ev T x = .ptr b off) (hk : H[b]? = some (.box cells)) (hu : P.underlying t = some d) (hd : aggD d = false) (hv : cells[off]? = some v) :
    Quiet P ⟨dst, .load t x, type, pos, after, guard⟩ T H [b] v := fun φ I w a hR hT => by
  obtain ⟨g, arr, e, hc, hb, hg, hn, ho, hcs, hI⟩ := VR.ptr_box hR hk (hx ▸ ev_VR hT x)
  have hlt : off < arr.size := by rw [hn]; exact (List.getElem?_eq_some_iff.1 hv).1
  refine ⟨arr[off], ?_, hcs off v _ hv (Array.getElem?_eq_getElem hlt)⟩
  intro w' _ hw'
  have hg' : w'.heap[g]? = some (.cells arr e (0, 0)) := by rw [hw' b (by simp) _ g hb rfl]; exact hg
  have := run_loadAt_one (P := P) (w := w') (a := ⟨g, off, none⟩) (c := arr[off]) hu hd (by rw [cell_of hg']; exact Array.getElem?_eq_getElem hlt)
  simp [execOp, hc, this]

theorem q_loadAgg {t : TypeId} {x : Operand} {b off : Nat} {cells : List V} {d : TypeDesc} {z : Value} {sz bytes : Nat} {vs : List V} (hx : ev T x = .ptr b off) (hk : H[b]? = some (.box cells)) (hu : P.underlying t = some d) (hd : aggD d = true)
    (hi : TyI P t z sz bytes) (hv : (cells.drop off).take sz = vs) (hl : vs.length = sz) : Quiet P ⟨dst, .load t x, type, pos, after, guard⟩ T H [b] (.agg vs) := fun φ I w a hR hT => by
  obtain ⟨g, arr, e, hc, hb, hg, hn, ho, hcs, hI⟩ := VR.ptr_box hR hk (hx ▸ ev_VR hT x)
  have hfit : off + sz ≤ arr.size ∨ sz = 0 := by subst hv; simp at hl; omega
  have hl2 : ((arr.toList.drop off).take sz).length = sz := by simp; omega
  have hrun := fun (w' : World) (hg' : w'.heap[g]? = some (.cells arr e (0, 0))) => run_loadAt_agg (P := P) (w := w') (a := ⟨g, off, none⟩) (cs := (arr.toList.drop off).take sz) hu hd hi hl2 fun j v hj => by
    rw [add_none, cell_of hg']
    have hjs : j < sz := by have := (List.getElem?_eq_some_iff.1 hj).1; omega
    rw [List.getElem?_take_of_lt hjs] at hj
    simpa using hj
  refine ⟨.agg ((arr.toList.drop off).take sz).toArray, fun w' _ hw' => by simp [execOp, hc, hrun w' (by rw [hw' b (by simp) _ g hb rfl]; exact hg)], .agg _ _ (by simp; omega) fun i v c h1 h2 => ?_⟩
  subst hv
  have his : i < sz := by have := (List.getElem?_eq_some_iff.1 h1).1; omega
  simp only [List.getElem?_toArray] at h2
  rw [List.getElem?_take_of_lt his] at h1 h2
  simp only [List.getElem?_drop, Array.getElem?_toList] at h1 h2
  exact hcs _ _ _ h1 h2

theorem VR.lptr_inv {φ : List Plc} {I : Nat → Prop} {w : World} {cells : List D} {off : Nat} {c : Value} (h : VR φ I w (.lptr cells off) c) :
    ∃ (g o : Nat) (cv : Nat → Value), c = .pointer (some ⟨g, o + off, none⟩) ∧ I g ∧ (∀ (j : Nat) (d : D), cells[j]? = some d → w.cell? ⟨g, o + j, none⟩ = some (cv j)) ∧ (∀ (j : Nat) (d : D), cells[j]? = some d → DR I w d (cv j)) := by
  cases h with
  | lptr _ _ g o cv hI h1 h2 => exact ⟨g, o, cv, rfl, hI, h1, h2⟩

theorem q_loadL {t : TypeId} {x : Operand} {cells : List D} {off : Nat} {d : TypeDesc} {v : D} (hx : ev T x = .lptr cells off) (hu : P.underlying t = some d) (hd : aggD d = false) (hv : cells[off]? = some v) :
    Quiet P ⟨dst, .load t x, type, pos, after, guard⟩ T H [] (.d v) := fun φ I w a hR hT => by
  obtain ⟨g, o, cv, hc, hI, h1, h2⟩ := VR.lptr_inv (hx ▸ ev_VR hT x)
  refine ⟨cv off, ?_, .d _ _ (h2 off v hv)⟩
  intro w' hw' _
  have := run_loadAt_one (P := P) (w := w') (a := ⟨g, o + off, none⟩) (c := cv off) hu hd (by rw [cell_same (hw' g hI)]; exact h1 off v hv)
  simp [execOp, hc, this]

theorem q_loadLAgg {t : TypeId} {x : Operand} {cells : List D} {off : Nat} {d : TypeDesc} {z : Value} {sz bytes : Nat} {vs : List D} (hx : ev T x = .lptr cells off) (hu : P.underlying t = some d) (hd : aggD d = true)
    (hi : TyI P t z sz bytes) (hv : (cells.drop off).take sz = vs) (hl : vs.length = sz) : Quiet P ⟨dst, .load t x, type, pos, after, guard⟩ T H [] (.agg (vs.map .d)) := fun φ I w a hR hT => by
  obtain ⟨g, o, cv, hc, hI, h1, h2⟩ := VR.lptr_inv (hx ▸ ev_VR hT x)
  have hcell : ∀ j, j < sz → ∃ dd, cells[off + j]? = some dd ∧ vs[j]? = some dd := fun j hj => by
    subst hv
    have hj' : off + j < cells.length := by simp at hl; omega
    refine ⟨cells[off + j], List.getElem?_eq_getElem hj', ?_⟩
    rw [List.getElem?_take_of_lt hj, List.getElem?_drop, List.getElem?_eq_getElem hj']
  have hrun := fun (w' : World) (hw' : w'.heap[g]? = w.heap[g]?) => run_loadAt_agg (P := P) (w := w') (a := ⟨g, o + off, none⟩) (cs := (List.range sz).map fun j => cv (off + j)) hu hd hi (by simp) fun j v hj => by
    rw [add_none]
    have hjs : j < sz := by have := (List.getElem?_eq_some_iff.1 hj).1; simpa using this
    obtain ⟨dd, hdd, _⟩ := hcell j hjs
    rw [show o + off + j = o + (off + j) by omega, cell_same hw', h1 _ dd hdd]
    simp [hjs] at hj
    rw [hj]
  refine ⟨.agg ((List.range sz).map fun j => cv (off + j)).toArray, fun w' hw' _ => by simp [execOp, hc, hrun w' (hw' g hI)], .agg _ _ (by simp [hl]) fun i v c h3 h4 => ?_⟩
  have his : i < sz := by have := (List.getElem?_eq_some_iff.1 h3).1; simp at this; omega
  obtain ⟨dd, hdd, hvs⟩ := hcell i his
  simp [hvs] at h3
  simp [his] at h4
  subst h3 h4
  exact .d _ _ (h2 _ dd hdd)

theorem q_loadE {t : TypeId} {x : Operand} {b i off esz L : Nat} {xs : List (List D)} {fro : Bool} {d : TypeDesc} {e : List D} {v : D} (hx : ev T x = .eptr b L i off) (hk : H[b]? = some (.sl esz xs fro)) (hL : xs.length = L) (hu : P.underlying t = some d) (hd : aggD d = false)
    (he : xs[i]? = some e) (hv : e[off]? = some v) : Quiet P ⟨dst, .load t x, type, pos, after, guard⟩ T H [b] (.d v) := fun φ I w a hR hT => by
  have hiL : i < L := hL ▸ (List.getElem?_eq_some_iff.1 he).1
  obtain ⟨g, δ, arr, ty, hc, hb, hg, hn, hlen, hcs, hz, hI⟩ := VR.eptr_sl hR hk hL (by omega) (hx ▸ ev_VR hT x)
  have hoff : off < esz := by rw [← hlen i e he]; exact (List.getElem?_eq_some_iff.1 hv).1
  have hmul : i * esz + esz ≤ L * esz := by rw [← Nat.succ_mul]; exact Nat.mul_le_mul_right _ hiL
  have hlt : δ + i * esz + off < arr.size := by omega
  refine ⟨arr[δ + i * esz + off], ?_, .d _ _ (hcs i off v _ (by simp [get2, he, hv]) (Array.getElem?_eq_getElem hlt))⟩
  intro w' _ hw'
  have hg' : w'.heap[g]? = some (.cells arr ty (0, 0)) := by rw [hw' b (by simp) _ g hb rfl]; exact hg
  have := run_loadAt_one (P := P) (w := w') (a := ⟨g, δ + i * esz + off, none⟩) (c := arr[δ + i * esz + off]) hu hd (by rw [cell_of hg']; exact Array.getElem?_eq_getElem hlt)
  simp [execOp, hc, this]

theorem q_loadEAgg {t : TypeId} {x : Operand} {b i off esz L : Nat} {xs : List (List D)} {fro : Bool} {d : TypeDesc} {e : List D} {z : Value} {sz bytes : Nat} {vs : List D} (hx : ev T x = .eptr b L i off) (hk : H[b]? = some (.sl esz xs fro)) (hL : xs.length = L)
    (hu : P.underlying t = some d) (hd : aggD d = true) (hi : TyI P t z sz bytes) (he : xs[i]? = some e) (hv : (e.drop off).take sz = vs) (hl : vs.length = sz) : Quiet P ⟨dst, .load t x, type, pos, after, guard⟩ T H [b] (.agg (vs.map .d)) := fun φ I w a hR hT => by
  have hiL : i < L := hL ▸ (List.getElem?_eq_some_iff.1 he).1
  obtain ⟨g, δ, arr, ty, hc, hb, hg, hn, hlen, hcs, hz, hI⟩ := VR.eptr_sl hR hk hL (by omega) (hx ▸ ev_VR hT x)
  have hel := hlen i e he
  have hmul : i * esz + esz ≤ L * esz := by rw [← Nat.succ_mul]; exact Nat.mul_le_mul_right _ hiL
  have hoff : sz = 0 ∨ off + sz ≤ esz := by subst hv; simp at hl; omega
  have hl2 : ((arr.toList.drop (δ + i * esz + off)).take sz).length = sz := by simp; omega
  have hrun := fun (w' : World) (hg' : w'.heap[g]? = some (.cells arr ty (0, 0))) => run_loadAt_agg (P := P) (w := w') (a := ⟨g, δ + i * esz + off, none⟩) (cs := (arr.toList.drop (δ + i * esz + off)).take sz) hu hd hi hl2 fun j v hj => by
    rw [add_none, cell_of hg']
    have hjs : j < sz := by have := (List.getElem?_eq_some_iff.1 hj).1; omega
    rw [List.getElem?_take_of_lt hjs] at hj
    simpa using hj
  refine ⟨.agg ((arr.toList.drop (δ + i * esz + off)).take sz).toArray, fun w' _ hw' => by simp [execOp, hc, hrun w' (by rw [hw' b (by simp) _ g hb rfl]; exact hg)], .agg _ _ (by simp; omega) fun j v c h1 h2 => ?_⟩
  subst hv
  have his : j < sz := by have := (List.getElem?_eq_some_iff.1 h1).1; simp at this; omega
  simp only [List.getElem?_toArray] at h2
  rw [List.getElem?_take_of_lt his] at h2
  simp only [List.getElem?_drop, Array.getElem?_toList] at h2
  simp only [List.getElem?_map, List.getElem?_take_of_lt his, List.getElem?_drop] at h1
  obtain ⟨dd, hdd, rfl⟩ := Option.map_eq_some_iff.1 h1
  exact .d _ _ (hcs i (off + j) dd c (by simp [get2, he, hdd]) (by rw [show δ + i * esz + (off + j) = δ + i * esz + off + j by omega]; exact h2))
end
end Go.VM
