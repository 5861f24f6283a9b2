/- Addresses, arithmetic, structs built, memory made, stores. -/
import Derived.Test.YtdebnihlkdabpaaEngC
namespace Go.VM
set_option linter.unusedVariables false
set_option linter.unusedSimpArgs false

/-! ### cells of a value -/
def V.cells? : V → Option (List V)
  | .agg cs => some cs
  | .tuple _ => none
  | .undef => none
  | v => some [v]

theorem VR.cells {φ : List Plc} {I : Nat → Prop} {w : World} {v : V} {c : Value} {vs : List V} (h : VR φ I w v c) (hv : v.cells? = some vs) :
    c.cells.size = vs.length ∧ ∀ (i : Nat) (v : V) (c' : Value), vs[i]? = some v → c.cells[i]? = some c' → VR φ I w v c' := by
  have hone : ∀ (v : V) (c : Value), VR φ I w v c → vone c = true → v.cells? = some [v] → vs = [v] → c.cells.size = vs.length ∧ ∀ (i : Nat) (v : V) (c' : Value), vs[i]? = some v → c.cells[i]? = some c' → VR φ I w v c' := by
    intro v c h hc _ hvs
    subst hvs
    have : c.cells = #[c] := by cases c <;> first | rfl | cases hc
    rw [this]
    refine ⟨rfl, fun i v' c' h1 h2 => ?_⟩
    cases i with
    | zero => simp at h1 h2; subst h1 h2; exact h
    | succ i => simp at h1
  cases h with
  | agg cells cs hl hc =>
    simp only [V.cells?, Option.some.injEq] at hv
    subst hv
    exact ⟨hl.symm, fun i v c' h1 h2 => hc i v c' h1 h2⟩
  | tuple vs cs hl hc => cases hv
  | undef v => cases hv
  | d x _ h => exact hone _ _ (.d x _ h) h.one rfl (Option.some.inj hv).symm
  | nilc => exact hone _ _ .nilc rfl rfl (Option.some.inj hv).symm
  | ref b L off len g δ esz n cap hb h1 h2 h3 h4 => exact hone _ _ (.ref b L off len g δ esz n cap hb h1 h2 h3 h4) rfl rfl (Option.some.inj hv).symm
  | refZ b L off g δ esz n a hb h => exact hone _ _ (.refZ b L off g δ esz n a hb h) rfl rfl (Option.some.inj hv).symm
  | virt b hb => exact hone _ _ (.virt b hb) rfl rfl (Option.some.inj hv).symm
  | refStale b L off len loc a n c hb hs => exact hone _ _ (.refStale b L off len loc a n c hb hs) rfl rfl (Option.some.inj hv).symm
  | ptr b off g n hb => exact hone _ _ (.ptr b off g n hb) rfl rfl (Option.some.inj hv).symm
  | ptrDead b off a hb => exact hone _ _ (.ptrDead b off a hb) rfl rfl (Option.some.inj hv).symm
  | eptr b L i off g δ esz n hb => exact hone _ _ (.eptr b L i off g δ esz n hb) rfl rfl (Option.some.inj hv).symm
  | eptrStale b L i off loc a hb hs => exact hone _ _ (.eptrStale b L i off loc a hb hs) rfl rfl (Option.some.inj hv).symm
  | lptr cells off g o cv hI h1 h2 => exact hone _ _ (.lptr cells off g o cv hI h1 h2) rfl rfl (Option.some.inj hv).symm
  | nilptr => exact hone _ _ .nilptr rfl rfl (Option.some.inj hv).symm
  | fn f caps cs hl hc => exact hone _ _ (.fn f caps cs hl hc) rfl rfl (Option.some.inj hv).symm
  | nilfn => exact hone _ _ .nilfn rfl rfl (Option.some.inj hv).symm

/-! ### fill -/
def vput (cells : List V) (off : Nat) (vs : List V) : List V := cells.take off ++ vs ++ cells.drop (off + vs.length)
def vfill (pl : Nat → Option (Nat × Nat)) (cells : List V) : List (Nat × V) → Option (List V)
  | [] => some cells
  | (i, v) :: rest =>
    match pl i, v.cells? with
    | some (off, size), some vs => if vs.length = size ∧ off + vs.length ≤ cells.length then vfill pl (vput cells off vs) rest else none
    | _, _ => none

theorem fold_set (off : Nat) : ∀ (l : List Value) (k : Nat) (arr : Array Value), off + k + l.length ≤ arr.size →
    ((l.zipIdx k).foldl (fun (cs : Array Value) (c, j) => cs.setIfInBounds (off + j) c) arr).size = arr.size ∧
    ∀ i, ((l.zipIdx k).foldl (fun (cs : Array Value) (c, j) => cs.setIfInBounds (off + j) c) arr)[i]? = if off + k ≤ i ∧ i < off + k + l.length then l[i - (off + k)]? else arr[i]?
  | [], k, arr, h => by
    refine ⟨rfl, fun i => ?_⟩
    rw [if_neg (by simp)]
    rfl
  | c :: l, k, arr, h => by
    simp only [List.length_cons] at h
    have ih := fold_set off l (k + 1) (arr.setIfInBounds (off + k) c) (by simp; omega)
    simp only [List.zipIdx_cons, List.foldl_cons]
    refine ⟨by rw [ih.1]; simp, fun i => ?_⟩
    rw [ih.2 i]
    simp only [List.length_cons]
    by_cases h1 : off + (k + 1) ≤ i ∧ i < off + (k + 1) + l.length
    · rw [if_pos h1, if_pos (by omega)]
      rw [show i - (off + k) = (i - (off + (k + 1))) + 1 by omega]
      rfl
    · rw [if_neg h1]
      by_cases h2 : i = off + k
      · subst h2
        rw [if_pos (by omega)]
        simp only [Nat.sub_self]
        rw [Array.getElem?_setIfInBounds]
        rw [if_pos rfl, if_pos (by omega)]
        rfl
      · rw [if_neg (by omega)]
        rw [Array.getElem?_setIfInBounds, if_neg (fun e => h2 e.symm)]

def AllR (φ : List Plc) (I : Nat → Prop) (w : World) (cells : List V) (arr : Array Value) : Prop :=
  arr.size = cells.length ∧ ∀ (i : Nat) (v : V) (c : Value), cells[i]? = some v → arr[i]? = some c → VR φ I w v c

theorem AllR.put {φ : List Plc} {I : Nat → Prop} {w : World} {cells vs : List V} {arr cs : Array Value} {off : Nat} (h : AllR φ I w cells arr) (hv : AllR φ I w vs cs) (hfit : off + vs.length ≤ cells.length) :
    AllR φ I w (vput cells off vs) (cs.zipIdx.foldl (fun (a : Array Value) (c, j) => a.setIfInBounds (off + j) c) arr) := by
  have hz : cs.zipIdx.foldl (fun (a : Array Value) (c, j) => a.setIfInBounds (off + j) c) arr = ((cs.toList.zipIdx 0).foldl (fun (a : Array Value) (c, j) => a.setIfInBounds (off + j) c) arr) := by
    rw [← Array.foldl_toList, Array.toList_zipIdx]
  have hl : cs.toList.length = vs.length := by rw [Array.length_toList]; exact hv.1
  obtain ⟨h1, h2⟩ := fold_set off cs.toList 0 arr (by rw [hl, h.1]; omega)
  rw [hz]
  refine ⟨by rw [h1, h.1]; simp [vput]; omega, fun i v c hi hc => ?_⟩
  rw [h2 i, hl] at hc
  unfold vput at hi
  rw [List.append_assoc] at hi
  by_cases hin : off + 0 ≤ i ∧ i < off + 0 + vs.length
  · rw [if_pos hin] at hc
    rw [List.getElem?_append_right (by simp; omega), List.getElem?_append_left (by simp; omega)] at hi
    simp only [List.length_take, Array.getElem?_toList] at hi hc
    rw [show min off cells.length = off by omega] at hi
    exact hv.2 _ _ _ hi (by simpa using hc)
  · rw [if_neg hin] at hc
    by_cases hlo : i < off
    · rw [List.getElem?_append_left (by simp; omega), List.getElem?_take_of_lt hlo] at hi
      exact h.2 _ _ _ hi hc
    · rw [List.getElem?_append_right (by simp; omega), List.getElem?_append_right (by simp; omega)] at hi
      simp only [List.length_take, List.getElem?_drop] at hi
      rw [show off + vs.length + (i - min off cells.length - vs.length) = i by omega] at hi
      exact h.2 _ _ _ hi hc

theorem fill_rel {φ : List Plc} {I : Nat → Prop} {w : World} {a : Act} {T : Tm} (hT : TR φ I w T a) (pl : Nat → Option (Nat × Nat)) : ∀ (parts : List (Nat × Operand)) (cells cells' : List V) (arr : Array Value), AllR φ I w cells arr →
    vfill pl cells (parts.map fun p => (p.1, ev T p.2)) = some cells' → ∃ arr', Instr.fill pl arr (parts.map fun p => (p.1, a.eval p.2)) = some arr' ∧ AllR φ I w cells' arr'
  | [], cells, cells', arr, hA, h => by
    simp only [List.map_nil, vfill, Option.some.injEq] at h
    subst h
    exact ⟨arr, rfl, hA⟩
  | (i, x) :: rest, cells, cells', arr, hA, h => by
    simp only [List.map_cons, vfill] at h
    cases hp : pl i with
    | none => simp [hp] at h
    | some q =>
      obtain ⟨off, size⟩ := q
      cases hc : (ev T x).cells? with
      | none => simp [hp, hc] at h
      | some vs =>
        simp only [hp, hc] at h
        split at h
        case isFalse => cases h
        case isTrue hcond =>
          obtain ⟨hs, hall⟩ := (ev_VR hT x).cells hc
          have ih := fill_rel hT pl rest _ cells' _ (hA.put ⟨hs, hall⟩ hcond.2) h
          obtain ⟨arr', h1, h2⟩ := ih
          refine ⟨arr', ?_, h2⟩
          simp only [List.map_cons, Instr.fill, hp]
          rw [if_neg (by simp only [hs, hA.1, bne_iff_ne, ne_eq, Bool.or_eq_true, decide_eq_true_eq, not_or]; omega)]
          exact h1

/-- What building a struct or an array does. -/
def Bld (P : Program) (t : TypeId) (pl : Nat → Option (Nat × Nat)) (z : Value) : Prop :=
  ∀ (w : World) (parts : Array (Nat × Value)) (cells : Array Value), Instr.fill pl z.cells parts.toList = some cells → (Instr.build t parts).run P w = .ok (.agg cells) w

theorem bld_struct {P : Program} {t : TypeId} {fields : Array Field} {z : Value} {sz bytes : Nat} {places : List (Nat × Nat)} (hu : P.underlying t = some (.struct fields)) (hi : TyI P t z sz bytes)
    (hp : fields.toList.mapM (fun f => (P.info? f.type).map fun i => (f.offset, i.size)) = some places) : Bld P t (fun i => places[i]?) z := fun w parts cells h => by
  refine run_build w t parts cells ?_
  obtain ⟨i, h1, h2, _⟩ := hi.get
  simp only [Program.built, h1, hu, h2, hp]
  simpa using h
theorem bld_array {P : Program} {t e : TypeId} {n : Nat} {z ze : Value} {sz bytes se be : Nat} (hu : P.underlying t = some (.array n e)) (hi : TyI P t z sz bytes) (hie : TyI P e ze se be) : Bld P t (fun i => some (i * se, se)) z := fun w parts cells h => by
  refine run_build w t parts cells ?_
  obtain ⟨i, h1, h2, _⟩ := hi.get
  obtain ⟨ie, h3, _, h4, _⟩ := hie.get
  simp only [Program.built, h1, hu, h2, h3, h4]
  exact h

theorem AllR.zero (φ : List Plc) (I : Nat → Prop) (w : World) (z : Value) : AllR φ I w (z.cells.toList.map cv1) z.cells := by
  refine ⟨by simp, fun i v c h1 h2 => ?_⟩
  simp only [List.getElem?_map, Array.getElem?_toList, h2, Option.map_some, Option.some.injEq] at h1
  subst h1
  exact cv1_VR ..

section
variable {P : Program} {T : Tm} {H : List Blk} {dst : Option Tmp} {type : TypeId} {pos : String} {after : Array Edge} {guard : Option (Nat × Bool)}

theorem p_build {t : TypeId} {parts : Array (Nat × Operand)} {pl : Nat → Option (Nat × Nat)} {z : Value} {cells : List V} (hb : Bld P t pl z)
    (hv : vfill pl (z.cells.toList.map cv1) (parts.toList.map fun p => (p.1, ev T p.2)) = some cells := by kernel_rfl) : PureV P ⟨dst, .build t parts, type, pos, after, guard⟩ T H (.agg cells) := fun φ I w a hR hT => by
  obtain ⟨arr, h1, h2⟩ := fill_rel hT pl parts.toList _ cells _ (AllR.zero φ I w z) hv
  have := fun w' => hb w' (parts.map fun p => (p.1, a.eval p.2)) arr (by simpa using h1)
  exact ⟨.agg arr, fun w' => by simp only [execOp, Sem.run_bind, this, Result.andThen_ok, Sem.run_pure], .agg _ _ h2.1.symm h2.2⟩

/-! ### memory made -/
theorem vone_oneCell {c : Value} (h : vone c = true) : c.oneCell' = true := by cases c <;> first | rfl | cases h

/-- A new box. -/
theorem Rel.newBox {φ : List Plc} {I : Nat → Prop} {w : World} (hR : Rel H φ I w) {cells : List V} {arr : Array Value} (e : TypeId) (hA : AllR φ I w cells arr) (ho : ∀ (j : Nat) (v : V), cells[j]? = some v → v.one = true) :
    Rel (H ++ [.box cells]) (φ ++ [.box w.heap.size cells.length]) I (w.alloc (.cells arr e)) ∧ Turn φ I w (φ ++ [.box w.heap.size cells.length]) I (w.alloc (.cells arr e)) ∧
      VR (φ ++ [.box w.heap.size cells.length]) I (w.alloc (.cells arr e)) (.ptr H.length 0) (.pointer (some ⟨w.heap.size, 0, none⟩)) := by
  have hnI : ¬ I w.heap.size := fun h => Nat.lt_irrefl _ (hR.imm _ h)
  have hp := hR.push (.cells arr e) (.box cells) (.box w.heap.size cells.length) rfl
    (.box cells w.heap.size arr e (heap_alloc_at w _) hA.1 ho (fun j v c hv hc => (hA.2 j v c hv hc).mono (LE.append _ _) (fun _ h => h) (hR.immLt _)) hnI)
  refine ⟨hp.1, hp.2, .ptr _ _ _ cells.length ?_⟩
  rw [← hR.len, List.getElem?_append_right (Nat.le_refl _)]
  simp

theorem Rel.keepsAlloc {φ : List Plc} {I : Nat → Prop} {w : World} (hR : Rel H φ I w) (o : Obj) (ψ : List Plc) : Keeps φ (φ ++ ψ) [] w (w.alloc o) := Keeps.push φ ψ [] fun b l g hl hg => heap_alloc w o g (hR.lt hl hg)

theorem d_alloc {e : TypeId} {z : Value} {sz bytes : Nat} {cells : List V} (hi : TyI P e z sz bytes) (hc : z.cells.toList.map cv1 = cells) (ho : cells.all V.one = true) :
    Does P ⟨dst, .alloc e, type, pos, after, guard⟩ T H (.ptr H.length 0) (H ++ [.box cells]) [] := fun φ I w a hR hT => by
  subst hc
  obtain ⟨h1, h2, h3⟩ := hR.newBox e (AllR.zero φ I w z) (fun j v hv => List.all_eq_true.1 ho v (List.mem_of_getElem? hv))
  exact ⟨_, I, _, _, .inl (by simp [execOp, Instr.alloc, run_zeroValue hi, newVar, newRow]), h2, h1, h3, hR.keepsAlloc _ _⟩

theorem d_box {e : TypeId} {x : Operand} {cells : List V} (hc : (ev T x).cells? = some cells) (ho : cells.all V.one = true) :
    Does P ⟨dst, .box e x, type, pos, after, guard⟩ T H (.ptr H.length 0) (H ++ [.box cells]) [] := fun φ I w a hR hT => by
  obtain ⟨h1, h2, h3⟩ := hR.newBox e ((ev_VR hT x).cells hc) (fun j v hv => List.all_eq_true.1 ho v (List.mem_of_getElem? hv))
  exact ⟨_, I, _, _, .inl (by simp [execOp, Instr.box, newVar, newRow]), h2, h1, h3, hR.keepsAlloc _ _⟩

/-! ### stores -/
theorem run_storeAt {t : TypeId} {w : World} {g off : Nat} {v : Value} {arr : Array Value} {e : TypeId} {z : Value} {sz bytes : Nat} (hi : TyI P t z sz bytes) (hs : v.cells.size = sz) (hg : w.heap[g]? = some (.cells arr e (0, 0)))
    (hfit : off + sz ≤ arr.size) (h1 : ∀ c ∈ v.cells.toList, c.oneCell' = true) :
    (Instr.storeAt t (.pointer (some ⟨g, off, none⟩)) v).run P w = .ok () (w.setRow g (arr.toList.take off ++ v.cells.toList ++ arr.toList.drop (off + v.cells.toList.length)).toArray) := by
  have := run_storeCells_at P g off e v.cells.toList 0 arr w hg (by simp; omega) h1
  simp only [Nat.add_zero] at this
  simp [Instr.storeAt, Instr.sureAddr, storeVar, run_sizeOf hi, hs, this]

theorem splice_get {α : Type} (l vs : List α) (off : Nat) (hfit : off + vs.length ≤ l.length) (i : Nat) :
    (l.take off ++ vs ++ l.drop (off + vs.length))[i]? = if off ≤ i ∧ i < off + vs.length then vs[i - off]? else l[i]? := by
  rw [List.append_assoc]
  by_cases h1 : i < off
  · rw [if_neg (by omega), List.getElem?_append_left (by simp; omega), List.getElem?_take_of_lt h1]
  · rw [List.getElem?_append_right (by simp; omega)]
    simp only [List.length_take]
    rw [show min off l.length = off by omega]
    by_cases h2 : i < off + vs.length
    · rw [if_pos (by omega), List.getElem?_append_left (by omega)]
    · rw [if_neg (by omega), List.getElem?_append_right (by omega), List.getElem?_drop]
      congr 1
      omega

theorem d_store {t : TypeId} {x y : Operand} {b off : Nat} {cells vs cells' : List V} {z : Value} {sz bytes : Nat} (hx : ev T x = .ptr b off) (hk : H[b]? = some (.box cells)) (hi : TyI P t z sz bytes) (hv : (ev T y).cells? = some vs) (hs : vs.length = sz)
    (ho : vs.all V.one = true) (hfit : off + sz ≤ cells.length) (hc : vput cells off vs = cells') : Does P ⟨dst, .store t x y, type, pos, after, guard⟩ T H .undef (H.set b (.box cells')) [b] := fun φ I w a hR hT => by
  obtain ⟨g, arr, e, hcx, hb, hg, hn, hone, hcs, hI⟩ := VR.ptr_box hR hk (hx ▸ ev_VR hT x)
  obtain ⟨hsz, hall⟩ := (ev_VR hT y).cells hv
  have hlen : (a.eval y).cells.toList.length = vs.length := by rw [Array.length_toList]; exact hsz
  have hrun := run_storeAt (P := P) (w := w) (off := off) (v := a.eval y) hi (by rw [hsz, hs]) hg (by omega) (fun c hc => by
    obtain ⟨i, hi⟩ := List.getElem?_of_mem hc
    have hlt := (List.getElem?_eq_some_iff.1 hi).1
    rw [hlen] at hlt
    have hvi := List.getElem?_eq_getElem hlt
    exact vone_oneCell ((hall i _ c hvi (by simpa using hi)).one (List.all_eq_true.1 ho _ (List.getElem_mem hlt))))
  have hfitA : off + (a.eval y).cells.toList.length ≤ arr.toList.length := by have h0 := Array.length_toList (xs := arr); rw [hlen]; omega
  have hcl : cells'.length = cells.length := by subst hc; simp [vput]; omega
  have hw := hR.write (b := b) (l := .box g cells.length) (l' := .box g cells'.length) (g := g) hb rfl hI (by rw [hcl]; exact .refl _) rfl
    (arr.toList.take off ++ (a.eval y).cells.toList ++ arr.toList.drop (off + (a.eval y).cells.toList.length)).toArray (.box cells')
  have hle : LE φ (φ.set b (.box g cells'.length)) := by rw [hcl, set_same hb]; exact LE.refl φ
  have hsame : ∀ g', I g' → (w.setRow g (arr.toList.take off ++ (a.eval y).cells.toList ++ arr.toList.drop (off + (a.eval y).cells.toList.length)).toArray).heap[g']? = w.heap[g']? := fun g' hg' => setRow_other w g g' _ fun e => hI (e ▸ hg')
  have hget : ∀ (j : Nat) (v : V), cells'[j]? = some v → (off ≤ j ∧ j < off + vs.length ∧ vs[j - off]? = some v) ∨ (¬ (off ≤ j ∧ j < off + vs.length) ∧ cells[j]? = some v) := fun j v hj => by
    subst hc
    unfold vput at hj
    rw [splice_get _ _ _ (by omega)] at hj
    split at hj
    · rename_i h; exact .inl ⟨h.1, h.2, hj⟩
    · rename_i h; exact .inr ⟨h, hj⟩
  obtain ⟨h1, h2, h3⟩ := hw (.box cells' g _ e (setRow_heap w g arr _ e (0, 0) hg) (by simp only [List.size_toArray, List.length_append, List.length_take, List.length_drop, Array.length_toList, hcl]; rw [hsz]; omega) (fun j v hj => by
      rcases hget j v hj with ⟨_, _, h⟩ | ⟨_, h⟩
      · exact List.all_eq_true.1 ho v (List.mem_of_getElem? h)
      · exact hone j v h)
    (fun j v c hj hcj => by
      simp only [List.getElem?_toArray] at hcj
      rw [splice_get _ _ _ hfitA, hlen] at hcj
      rcases hget j v hj with ⟨h3, h4, h⟩ | ⟨h3, h⟩
      · rw [if_pos ⟨h3, h4⟩] at hcj
        exact (hall _ v c h (by simpa using hcj)).mono hle (fun _ h => h) hsame
      · rw [if_neg h3] at hcj
        exact (hcs j v c h (by simpa using hcj)).mono hle (fun _ h => h) hsame) hI)
  exact ⟨_, I, _, undef, .inr ⟨by simp only [execOp, hcx, Sem.run_bind, hrun, Result.andThen_ok, Sem.run_pure], rfl⟩, h2, h1, .undef _, h3⟩
end
end Go.VM
