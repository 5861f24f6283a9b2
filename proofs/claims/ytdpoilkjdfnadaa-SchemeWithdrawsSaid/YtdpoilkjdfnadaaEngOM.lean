/- The single steps, in the form in which the printed proofs use them: all that can be computed is left to the kernel. -/
import Derived.Test.YtdpoilkjdfnadaaEngMM
import Derived.Laws.StructEq
import Derived.Laws.Cover3
import Derived.Below
import Derived.DataReads
import Derived.Laws.Strings
import Derived.Laws.Externs
namespace Go.VM
set_option linter.unusedVariables false
set_option linter.unusedSimpArgs false

def isBox (H : List Blk) (b : Nat) : Bool := match H[b]? with | some (.box _) => true | _ => false
def boxCells (H : List Blk) (b : Nat) : List V := match H[b]? with | some (.box cells) => cells | _ => []
theorem isBox_spec {H : List Blk} {b : Nat} (h : isBox H b = true) : H[b]? = some (.box (boxCells H b)) := by
  unfold isBox at h
  unfold boxCells
  split at h
  · next c hc => rw [hc]
  · cases h
def cellAt (H : List Blk) (b off : Nat) : Option V := bif isBox H b then (boxCells H b)[off]? else none
def cellsAt (H : List Blk) (b off sz : Nat) : Option (List V) := bif isBox H b && Nat.ble (off + sz) (boxCells H b).length then some (((boxCells H b).drop off).take sz) else none
def aggOf : V → Option (List V)
  | .agg cs => some cs
  | _ => none
theorem aggOf_spec {v : V} {cs : List V} (h : aggOf v = some cs) : v = .agg cs := by
  cases v <;> cases h; rfl
def tupOf : V → Option (List V)
  | .tuple cs => some cs
  | _ => none
theorem tupOf_spec {v : V} {cs : List V} (h : tupOf v = some cs) : v = .tuple cs := by
  cases v <;> cases h; rfl
def gmax (p q : Int) : Int := if q > p then q else p
def gmin (p q : Int) : Int := if q < p then q else p

variable {P : Program} {T : Tm} {H : List Blk} {dst : Option Tmp} {type : TypeId} {pos : String} {after : Array Edge} {guard : Option (Nat × Bool)}

theorem k_load {t : TypeId} {x : Operand} (b off : Nat) {d : TypeDesc} {v : V} (hx : ev T x = .ptr b off := by kernel_rfl) (hu : P.underlying t = some d) (hd : aggD d = false := by kernel_rfl) (hv : cellAt H b off = some v := by kernel_rfl) : Quiet P ⟨dst, .load t x, type, pos, after, guard⟩ T H [b] v := by
  unfold cellAt at hv
  cases hb : isBox H b with
  | false => rw [hb] at hv; cases hv
  | true => rw [hb] at hv; exact q_load hx (isBox_spec hb) hu hd hv
theorem k_loadAgg {t : TypeId} {x : Operand} (b off : Nat) {d : TypeDesc} {z : Value} {sz bytes : Nat} {vs : List V} (hx : ev T x = .ptr b off := by kernel_rfl) (hu : P.underlying t = some d) (hd : aggD d = true := by kernel_rfl) (hi : TyI P t z sz bytes) (hv : cellsAt H b off sz = some vs := by kernel_rfl) :
    Quiet P ⟨dst, .load t x, type, pos, after, guard⟩ T H [b] (.agg vs) := by
  unfold cellsAt at hv
  cases hb : isBox H b && Nat.ble (off + sz) (boxCells H b).length with
  | false => rw [hb] at hv; cases hv
  | true =>
    rw [hb] at hv
    obtain ⟨hb1, hb2⟩ := Bool.and_eq_true_iff.1 hb
    have := Nat.le_of_ble_eq_true hb2
    have e := Option.some.inj hv
    refine q_loadAgg hx (isBox_spec hb1) hu hd hi e ?_
    rw [← e]; simp; omega
theorem k_store {t : TypeId} {x y : Operand} (b off : Nat) {vs : List V} {z : Value} {sz bytes : Nat} {H' : List Blk} (hx : ev T x = .ptr b off := by kernel_rfl) (hi : TyI P t z sz bytes) (hv : (ev T y).cells? = some vs := by kernel_rfl) (hok : (isBox H b && (Nat.beq vs.length sz && (vs.all V.one && Nat.ble (off + sz) (boxCells H b).length))) = true := by kernel_rfl)
    (hH : H.set b (.box (vput (boxCells H b) off vs)) = H' := by kernel_rfl) : Does P ⟨dst, .store t x y, type, pos, after, guard⟩ T H .undef H' [b] := by
  obtain ⟨h1, h2⟩ := Bool.and_eq_true_iff.1 hok
  obtain ⟨h3, h4⟩ := Bool.and_eq_true_iff.1 h2
  obtain ⟨h5, h6⟩ := Bool.and_eq_true_iff.1 h4
  subst hH
  exact d_store hx (isBox_spec h1) hi hv (Nat.eq_of_beq_eq_true h3) h5 (Nat.le_of_ble_eq_true h6) rfl
theorem k_fieldAddr {s : TypeId} {x : Operand} {f o2 : Nat} (b off : Nat) {fields : Array Field} {fd : Field} {z : Value} {sz bytes : Nat} (hx : ev T x = .ptr b off := by kernel_rfl) (hu : P.underlying s = some (.struct fields)) (hf : fields[f]? = some fd) (hi : TyI P fd.type z sz bytes)
    (hok : (isBox H b && (!Nat.beq sz 0 && Nat.beq (off + fd.offset) o2)) = true := by kernel_rfl) : PureV P ⟨dst, .fieldAddr s x f, type, pos, after, guard⟩ T H (.ptr b o2) := by
  obtain ⟨h1, h2⟩ := Bool.and_eq_true_iff.1 hok
  obtain ⟨h3, h4⟩ := Bool.and_eq_true_iff.1 h2
  exact p_fieldAddr hx hu hf hi (fun h => by subst h; cases h3) (isBox_spec h1) (Nat.eq_of_beq_eq_true h4)
theorem k_fieldAddrL {s : TypeId} {x : Operand} {f o2 : Nat} (off : Nat) {cells : List D} {fields : Array Field} {fd : Field} {z : Value} {sz bytes : Nat} (hx : ev T x = .lptr cells off := by kernel_rfl) (hu : P.underlying s = some (.struct fields)) (hf : fields[f]? = some fd) (hi : TyI P fd.type z sz bytes)
    (hok : (!Nat.beq sz 0 && Nat.beq (off + fd.offset) o2) = true := by kernel_rfl) : PureV P ⟨dst, .fieldAddr s x f, type, pos, after, guard⟩ T H (.lptr cells o2) := by
  obtain ⟨h3, h4⟩ := Bool.and_eq_true_iff.1 hok
  exact p_fieldAddrL hx hu hf hi (fun h => by subst h; cases h3) (Nat.eq_of_beq_eq_true h4)
theorem k_field {t : TypeId} {x : Operand} {f : Nat} {fields : Array Field} {fd : Field} {d : TypeDesc} {v : V} (hu : P.underlying t = some (.struct fields)) (hf : fields[f]? = some fd) (hu2 : P.underlying fd.type = some d) (hd : aggD d = false)
    (hv : ((aggOf (ev T x)).bind fun cs => cs[fd.offset]?) = some v) : PureV P ⟨dst, .field t x f, type, pos, after, guard⟩ T H v := by
  cases ha : aggOf (ev T x) with
  | none => rw [ha] at hv; cases hv
  | some cs => rw [ha] at hv; exact p_field (aggOf_spec ha) hu hf hu2 hd hv
theorem k_fieldAgg {t : TypeId} {x : Operand} {f : Nat} {vs : List V} {fields : Array Field} {fd : Field} {d : TypeDesc} {z : Value} {sz bytes : Nat} (hu : P.underlying t = some (.struct fields)) (hf : fields[f]? = some fd) (hu2 : P.underlying fd.type = some d) (hd : aggD d = true)
    (hi : TyI P fd.type z sz bytes) (hv : ((aggOf (ev T x)).bind fun cs => bif Nat.ble (fd.offset + sz) cs.length then some ((cs.drop fd.offset).take sz) else none) = some vs) : PureV P ⟨dst, .field t x f, type, pos, after, guard⟩ T H (.agg vs) := by
  cases ha : aggOf (ev T x) with
  | none => rw [ha] at hv; cases hv
  | some cs =>
    rw [ha] at hv
    simp only [Option.bind_some] at hv
    cases hb : Nat.ble (fd.offset + sz) cs.length with
    | false => rw [hb] at hv; cases hv
    | true => rw [hb] at hv; exact p_fieldAgg (aggOf_spec ha) hu hf hu2 hd hi (Option.some.inj hv) (Nat.le_of_ble_eq_true hb)
theorem k_extract {x : Operand} {i : Nat} {v : V} (hv : ((tupOf (ev T x)).bind fun vs => vs[i]?) = some v := by kernel_rfl) : PureV P ⟨dst, .extract x i, type, pos, after, guard⟩ T H v := by
  cases ha : tupOf (ev T x) with
  | none => rw [ha] at hv; cases hv
  | some cs => rw [ha] at hv; exact p_extract (tupOf_spec ha) hv
theorem k_alloc {e : TypeId} {z : Value} {sz bytes : Nat} {H' : List Blk} (hi : TyI P e z sz bytes) (ho : (z.cells.toList.map cv1).all V.one = true := by kernel_rfl) (hH : H ++ [.box (z.cells.toList.map cv1)] = H' := by kernel_rfl) : Does P ⟨dst, .alloc e, type, pos, after, guard⟩ T H (.ptr H.length 0) H' [] := by
  subst hH
  exact d_alloc hi rfl ho
theorem k_box {e : TypeId} {x : Operand} {cells : List V} {H' : List Blk} (hc : (ev T x).cells? = some cells := by kernel_rfl) (ho : cells.all V.one = true := by kernel_rfl) (hH : H ++ [.box cells] = H' := by kernel_rfl) : Does P ⟨dst, .box e x, type, pos, after, guard⟩ T H (.ptr H.length 0) H' [] := by
  subst hH
  exact d_box hc ho
theorem k_buildSlice {t e : TypeId} {len sz bytes : Nat} {parts : Array (Nat × Operand)} {z : Value} (xs : List (List D)) {H' : List Blk} (hu : P.underlying t = some (.slice e)) (hi : TyI P e z sz bytes)
    (hok : (Nat.blt 0 sz && (Nat.ble (len * sz) 16777216 && (Nat.beq xs.length len && xs.all (fun r => r.length == sz)))) = true := by kernel_rfl) (hv : (vfill (fun i => some (i * sz, sz)) (List.replicate (len * sz) .undef) (parts.toList.map fun p => (p.1, ev T p.2))).map (List.map nl) = some (xs.flatten.map V.d) := by kernel_rfl)
    (hH : H ++ [.sl sz xs false] = H' := by kernel_rfl) : Does P ⟨dst, .buildSlice t len parts, type, pos, after, guard⟩ T H (.ref H.length len 0 len) H' [] := by
  obtain ⟨h1, h2⟩ := Bool.and_eq_true_iff.1 hok
  obtain ⟨h3, h4⟩ := Bool.and_eq_true_iff.1 h2
  obtain ⟨h5, h6⟩ := Bool.and_eq_true_iff.1 h4
  subst hH
  obtain ⟨flat, e1, e2⟩ := Option.map_eq_some_iff.1 hv
  exact d_buildSlice hu hi (Nat.le_of_ble_eq_true h1) (Nat.le_of_ble_eq_true h3) e1 e2.symm (Nat.eq_of_beq_eq_true h5) h6
theorem k_make {α : Type} {enc : α → List D} {t e : TypeId} {x y : Operand} {k1 k2 : IntKind} {n : Int} {z : Value} {sz bytes : Nat} (e0 : α) (zd : List D) {H' : List Blk} (hx : ev T x = .d (.int k1 n) := by kernel_rfl) (hy : ev T y = .d (.int k2 n) := by kernel_rfl) (hu : P.underlying t = some (.slice e)) (hi : TyI P e z sz bytes)
    (hok : (Nat.blt 0 sz && (Nat.blt 0 bytes && Nat.beq zd.length sz)) = true := by kernel_rfl) (hzd : z.cells.toList.map cvD = zd.map some := by kernel_rfl) (he : enc e0 = zd := by kernel_rfl) (h0 : 0 ≤ n) (hb : n.toNat * bytes ≤ 140737488355328) (hH : H ++ [.sl sz ((List.replicate n.toNat e0).map enc) false] = H') :
    Does P ⟨dst, .makeSlice t x y, type, pos, after, guard⟩ T H (.ref H.length n.toNat 0 n.toNat) H' [] := by
  obtain ⟨h1, h2⟩ := Bool.and_eq_true_iff.1 hok
  obtain ⟨h3, h4⟩ := Bool.and_eq_true_iff.1 h2
  subst hH
  rw [← map_rep, he]
  have h5 : 1 ≤ bytes := Nat.le_of_ble_eq_true h3
  have h6 : n.toNat * 1 ≤ n.toNat * bytes := Nat.mul_le_mul_left _ h5
  exact d_make hx hy hu hi (Nat.le_of_ble_eq_true h1) hzd (Nat.eq_of_beq_eq_true h4) h0 rfl (by omega) (by omega)
theorem k_append {α : Type} {enc : α → List D} {t t2 e e2 : TypeId} {x y : Operand} {sz bytes : Nat} {z : Value} (b : Nat) (xs ys : List α) {H' : List Blk} (hu : P.underlying t = some (.slice e)) (hu2 : P.underlying t2 = some (.slice e2)) (hi : TyI P e z sz bytes) (hok : (Nat.blt 0 sz && (Nat.blt 0 bytes && Nat.beq z.cells.size sz)) = true := by kernel_rfl)
    (hx : ev T x = .ref b xs.length 0 xs.length := by kernel_rfl) (hk : H[b]? = some (.sl sz (xs.map enc) false) := by kernel_rfl) (hy : Holds H sz (ev T y) (ys.map enc)) (hfit : (xs ++ ys).length * bytes ≤ 140737488355328) (hH : H.set b (.sl sz ((xs ++ ys).map enc) false) = H' := by kernel_rfl) :
    Does P ⟨dst, .call ⟨.builtin .append, #[x, y], #[t, t2]⟩, type, pos, after, guard⟩ T H (.ref b (xs ++ ys).length 0 (xs ++ ys).length) H' [b] := by
  obtain ⟨h1, h2⟩ := Bool.and_eq_true_iff.1 hok
  obtain ⟨h3, h4⟩ := Bool.and_eq_true_iff.1 h2
  subst hH
  have h5 : 1 ≤ bytes := Nat.le_of_ble_eq_true h3
  have h6 : (xs ++ ys).length * 1 ≤ (xs ++ ys).length * bytes := Nat.mul_le_mul_left _ h5
  exact d_append (len := 0) hu hu2 hi (Nat.le_of_ble_eq_true h1) (Nat.eq_of_beq_eq_true h4) hx hk (map_len enc xs) (.inl rfl) hy (map_app enc xs ys) (map_len enc (xs ++ ys)) hfit (by omega)
theorem holdsLit {α : Type} {enc : α → List D} {sz : Nat} (hr : ∀ a, (enc a).length = sz) {v : V} (ys : List α) (h : v = .d (.lit (ys.map enc)) := by kernel_rfl) : Holds H sz v (ys.map enc) := by
  subst h
  exact .lit _ (map_row hr ys)
theorem holdsRef {α : Type} {enc : α → List D} {sz : Nat} {v : V} (b : Nat) (ys : List α) (fro : Bool) (h : v = .ref b ys.length 0 ys.length := by kernel_rfl) (hk : H[b]? = some (.sl sz (ys.map enc) fro) := by kernel_rfl) : Holds H sz v (ys.map enc) := by
  subst h
  exact .ref b _ _ _ _ _ fro hk (map_len enc ys) (by omega) (cut_all _ _ (map_len enc ys))
theorem holdsNil {α : Type} {enc : α → List D} {sz : Nat} {v : V} (h : v = .nilc) : Holds H sz v (([] : List α).map enc) := by
  subst h
  exact .nil
theorem k_idxLit {α : Type} {enc : α → List D} {t e : TypeId} {x y : Operand} {k : IntKind} {i : Int} {z : Value} {sz bytes : Nat} (hr : ∀ a, (enc a).length = sz) (xs : List α) {a : α} (hx : ev T x = .d (.lit (xs.map enc)) := by kernel_rfl) (hy : ev T y = .d (.int k i) := by kernel_rfl) (hu : P.underlying t = some (.slice e)) (hi : TyI P e z sz bytes)
    (h0 : 0 ≤ i) (he : xs[i.toNat]? = some a) : PureV P ⟨dst, .indexAddr t x y, type, pos, after, guard⟩ T H (.lptr (enc a) 0) := p_idxLit hx hy hu hi h0 (map_idx enc he) (hr a)
theorem k_idxRef {α : Type} {enc : α → List D} {t e : TypeId} {x y : Operand} {k : IntKind} {i : Int} {b : Nat} {fro : Bool} {z : Value} {sz bytes : Nat} (xs : List α) {a : α} (hx : ev T x = .ref b xs.length 0 xs.length := by kernel_rfl) (hy : ev T y = .d (.int k i) := by kernel_rfl) (hk : H[b]? = some (.sl sz (xs.map enc) fro) := by kernel_rfl) (hu : P.underlying t = some (.slice e)) (hi : TyI P e z sz bytes)
    (h0 : 0 ≤ i) (he : xs[i.toNat]? = some a) : PureV P ⟨dst, .indexAddr t x y, type, pos, after, guard⟩ T H (.eptr b xs.length i.toNat 0) :=
  p_idxRef hx hy hk (map_len enc xs) hu hi h0 (by have := (List.getElem?_eq_some_iff.1 he).1; omega) (Nat.zero_add _)
theorem k_loadL {t : TypeId} {x : Operand} {cells : List D} (off : Nat) {d : TypeDesc} {v : D} (hx : ev T x = .lptr cells off := by kernel_rfl) (hu : P.underlying t = some d) (hd : aggD d = false := by kernel_rfl) (hv : cells[off]? = some v := by kernel_rfl) : Quiet P ⟨dst, .load t x, type, pos, after, guard⟩ T H [] (.d v) := q_loadL hx hu hd hv
theorem k_loadLAgg {t : TypeId} {x : Operand} {cells : List D} (off : Nat) {d : TypeDesc} {z : Value} {sz bytes : Nat} (vs : List D) {ws : List V} (hx : ev T x = .lptr cells off := by kernel_rfl) (hu : P.underlying t = some d) (hd : aggD d = true := by kernel_rfl) (hi : TyI P t z sz bytes) (hv : (cells.drop off).take sz = vs := by kernel_rfl) (hl : Nat.beq vs.length sz = true := by kernel_rfl) (hw : vs.map .d = ws := by kernel_rfl) :
    Quiet P ⟨dst, .load t x, type, pos, after, guard⟩ T H [] (.agg ws) := by
  subst hw
  exact q_loadLAgg hx hu hd hi hv (Nat.eq_of_beq_eq_true hl)
theorem k_loadE {α : Type} {enc : α → List D} {t : TypeId} {x : Operand} (b off : Nat) {i sz : Nat} (xs : List α) {fro : Bool} {d : TypeDesc} {a : α} {v : D} (hx : ev T x = .eptr b xs.length i off := by kernel_rfl) (hk : H[b]? = some (.sl sz (xs.map enc) fro) := by kernel_rfl) (hu : P.underlying t = some d) (hd : aggD d = false := by kernel_rfl) (he : xs[i]? = some a) (hv : (enc a)[off]? = some v := by kernel_rfl) :
    Quiet P ⟨dst, .load t x, type, pos, after, guard⟩ T H [b] (.d v) := q_loadE hx hk (map_len enc xs) hu hd (map_idx enc he) hv
theorem k_loadEAgg {α : Type} {enc : α → List D} {t : TypeId} {x : Operand} (b off : Nat) {i sz0 : Nat} (xs : List α) {fro : Bool} {d : TypeDesc} {a : α} {z : Value} {sz bytes : Nat} (vs : List D) {ws : List V} (hx : ev T x = .eptr b xs.length i off := by kernel_rfl) (hk : H[b]? = some (.sl sz0 (xs.map enc) fro) := by kernel_rfl) (hu : P.underlying t = some d) (hd : aggD d = true := by kernel_rfl) (hi : TyI P t z sz bytes)
    (he : xs[i]? = some a) (hv : ((enc a).drop off).take sz = vs := by kernel_rfl) (hl : Nat.beq vs.length sz = true := by kernel_rfl) (hw : vs.map .d = ws := by kernel_rfl) : Quiet P ⟨dst, .load t x, type, pos, after, guard⟩ T H [b] (.agg ws) := by
  subst hw
  exact q_loadEAgg hx hk (map_len enc xs) hu hd hi (map_idx enc he) hv (Nat.eq_of_beq_eq_true hl)
theorem k_fieldAddrE {α : Type} {enc : α → List D} {s : TypeId} {x : Operand} {f o2 : Nat} (b off : Nat) {i sz0 : Nat} (xs : List α) {fro : Bool} {a : α} {fields : Array Field} {fd : Field} {z : Value} {sz bytes : Nat} (hx : ev T x = .eptr b xs.length i off := by kernel_rfl) (hk : H[b]? = some (.sl sz0 (xs.map enc) fro) := by kernel_rfl) (he : xs[i]? = some a)
    (hu : P.underlying s = some (.struct fields)) (hf : fields[f]? = some fd) (hi : TyI P fd.type z sz bytes) (hok : (!Nat.beq sz 0 && Nat.beq (off + fd.offset) o2) = true := by kernel_rfl) : PureV P ⟨dst, .fieldAddr s x f, type, pos, after, guard⟩ T H (.eptr b xs.length i o2) := by
  obtain ⟨h3, h4⟩ := Bool.and_eq_true_iff.1 hok
  exact p_fieldAddrE hx hu hf hi (fun h => by subst h; cases h3) hk (map_len enc xs) (List.getElem?_eq_some_iff.1 he).1 (Nat.eq_of_beq_eq_true h4)
theorem k_lenLit {α : Type} {enc : α → List D} {t : TypeId} {x : Operand} {e : TypeId} (xs : List α) (hx : ev T x = .d (.lit (xs.map enc)) := by kernel_rfl) (hu : P.underlying t = some (.slice e)) : PureV P ⟨dst, .call ⟨.builtin .len, #[x], #[t]⟩, type, pos, after, guard⟩ T H (.d (.int .i64 xs.length)) := p_lenLit hx hu (map_len enc xs)
theorem k_lenRef {α : Type} {enc : α → List D} {t : TypeId} {x : Operand} {e : TypeId} (b : Nat) {sz : Nat} (xs : List α) {fro : Bool} (hx : ev T x = .ref b xs.length 0 xs.length := by kernel_rfl) (hk : H[b]? = some (.sl sz (xs.map enc) fro) := by kernel_rfl) (hu : P.underlying t = some (.slice e)) : PureV P ⟨dst, .call ⟨.builtin .len, #[x], #[t]⟩, type, pos, after, guard⟩ T H (.d (.int .i64 xs.length)) :=
  p_lenRef hx hk (map_len enc xs) hu
theorem k_nilCheck {x : Operand} (b off : Nat) (hx : ev T x = .ptr b off := by kernel_rfl) (hb : isBox H b = true := by kernel_rfl) : PureV P ⟨dst, .nilCheck x, type, pos, after, guard⟩ T H (.ptr b off) := p_nilCheck hx (isBox_spec hb)
theorem k_lit {α : Type} {enc : α → List D} {sz : Nat} (b : Nat) (xs : List α) (hk : H[b]? = some (.sl sz (xs.map enc) true) := by kernel_rfl) : ConvR H (.ref b xs.length 0 xs.length) (.d (.lit (xs.map enc))) := .lit b _ 0 _ sz _ _ hk (map_len enc xs) (by omega) (cut_all _ _ (map_len enc xs))
end Go.VM
namespace Go.VM
set_option linter.unusedVariables false
set_option linter.unusedSimpArgs false

mutual
inductive EqV (P : Program) : Nat → TypeId → V → V → Bool → Prop
  | int (t : TypeId) (k k' : IntKind) (a b : Int) (hu : P.underlying t = some (.int k')) : EqV P 1 t (.d (.int k a)) (.d (.int k b)) (a == b)
  | bool (t : TypeId) (a b : Bool) (hu : P.underlying t = some .bool) : EqV P 1 t (.d (.bool a)) (.d (.bool b)) (a == b)
  | struct (n : Nat) (t : TypeId) (xs ys : List V) (fs : Array Field) (r : Bool) (hu : P.underlying t = some (.struct fs)) (hp : P.stoodInHeld t = false) (h : EqF P n xs ys fs.toList r) : EqV P (n + 1) t (.agg xs) (.agg ys) r
inductive EqF (P : Program) : Nat → List V → List V → List Field → Bool → Prop
  | nil (n : Nat) (xs ys : List V) : EqF P n xs ys [] true
  | one (n m : Nat) (xs ys : List V) (f : Field) (fs : List Field) (d : TypeDesc) (a b : V) (r1 r2 : Bool) (hn : (f.name == "_") = false) (hu : P.underlying f.type = some d) (hd : aggD d = false) (ha : xs[f.offset]? = some a) (hb : ys[f.offset]? = some b) (hm : Nat.ble m n = true)
      (h1 : EqV P m f.type a b r1) (h2 : EqF P n xs ys fs r2) : EqF P n xs ys (f :: fs) (r1 && r2)
  | agg (n m : Nat) (xs ys : List V) (f : Field) (fs : List Field) (d : TypeDesc) (as bs : List V) (r1 r2 : Bool) (z : Value) (sz bytes : Nat) (hn : (f.name == "_") = false) (hu : P.underlying f.type = some d) (hd : aggD d = true) (hi : TyI P f.type z sz bytes)
      (hl : (Nat.ble (f.offset + sz) xs.length && Nat.ble (f.offset + sz) ys.length) = true) (ha : (xs.drop f.offset).take sz = as) (hb : (ys.drop f.offset).take sz = bs) (hm : Nat.ble m n = true)
      (h1 : EqV P m f.type (.agg as) (.agg bs) r1) (h2 : EqF P n xs ys fs r2) : EqF P n xs ys (f :: fs) (r1 && r2)
end

theorem fieldsOf_eq {P : Program} {t : TypeId} {fs : Array Field} (hu : P.underlying t = some (.struct fs)) : P.fieldsOf t = fs := by simp [Program.fieldsOf, hu]

mutual
theorem EqV.run {P : Program} {n : Nat} {t : TypeId} {x y : V} {r : Bool} : ∀ (h : EqV P n t x y r) {φ : List Plc} {I : Nat → Prop} {w : World} {c c' : Value}, VR φ I w x c → VR φ I w y c' → ∀ (d : Nat), n ≤ d → ∀ w' : World, (Op.equalIn d t c c').run P w' = .ok r w'
  | .int t k k' a b hu, φ, I, w, c, c', hx, hy, d, hd, w' => by
    rw [hx.int_inv, hy.int_inv]
    obtain ⟨d, rfl⟩ : ∃ d', d = d' + 1 := ⟨d - 1, by omega⟩
    exact run_equalIn_int w' d t k k' a b hu
  | .bool t a b hu, φ, I, w, c, c', hx, hy, d, hd, w' => by
    rw [hx.bool_inv, hy.bool_inv]
    obtain ⟨d, rfl⟩ : ∃ d', d = d' + 1 := ⟨d - 1, by omega⟩
    exact run_equalIn_bool w' d t a b hu
  | .struct n t xs ys fs r hu hp h, φ, I, w, c, c', hx, hy, d, hd, w' => by
    obtain ⟨cx, rfl, hA⟩ := VR.agg_inv hx
    obtain ⟨cy, rfl, hB⟩ := VR.agg_inv hy
    obtain ⟨d, rfl⟩ : ∃ d', d = d' + 1 := ⟨d - 1, by omega⟩
    rw [run_equalIn_struct w' d t cx cy (by rw [fieldsOf_eq hu]; exact hu) hp, fieldsOf_eq hu]
    exact EqF.run h hA hB d (by omega) w'
theorem EqF.run {P : Program} {n : Nat} {xs ys : List V} {fs : List Field} {r : Bool} : ∀ (h : EqF P n xs ys fs r) {φ : List Plc} {I : Nat → Prop} {w : World} {cx cy : Array Value}, AllR φ I w xs cx → AllR φ I w ys cy → ∀ (d : Nat), n ≤ d → ∀ w' : World, (Op.eqFields d cx cy fs).run P w' = .ok r w'
  | .nil _ _ _, φ, I, w, cx, cy, hA, hB, d, hd, w' => by simp [Op.eqFields]
  | .one n m xs ys f fs de a b r1 r2 hn hu hde ha hb hm h1 h2, φ, I, w, cx, cy, hA, hB, d, hd, w' => by
    have hlt1 : f.offset < cx.size := by rw [hA.1]; exact (List.getElem?_eq_some_iff.1 ha).1
    have hlt2 : f.offset < cy.size := by rw [hB.1]; exact (List.getElem?_eq_some_iff.1 hb).1
    have e1 := Array.getElem?_eq_getElem hlt1
    have e2 := Array.getElem?_eq_getElem hlt2
    have hr := EqV.run h1 (hA.2 _ _ _ ha e1) (hB.2 _ _ _ hb e2) d (Nat.le_trans (Nat.le_of_ble_eq_true hm) hd) w'
    have hr2 := EqF.run h2 hA hB d hd w'
    have hn' : f.name ≠ "_" := by simpa using hn
    simp only [Op.eqFields, hn', ne_eq, not_false_eq_true, if_true, Sem.run_bind, run_part_one hu hde e1, run_part_one hu hde e2, Result.andThen_ok, hr]
    cases r1
    · simp
    · simpa using hr2
  | .agg n m xs ys f fs de as bs r1 r2 z sz bytes hn hu hde hi hl ha hb hm h1 h2, φ, I, w, cx, cy, hA, hB, d, hd, w' => by
    obtain ⟨hl1, hl2⟩ := Bool.and_eq_true_iff.1 hl
    have e1 := hA.extract (Nat.le_of_ble_eq_true hl1)
    have e2 := hB.extract (Nat.le_of_ble_eq_true hl2)
    rw [ha] at e1
    rw [hb] at e2
    have hr := EqV.run h1 e1 e2 d (Nat.le_trans (Nat.le_of_ble_eq_true hm) hd) w'
    have hr2 := EqF.run h2 hA hB d hd w'
    have hn' : f.name ≠ "_" := by simpa using hn
    simp only [Op.eqFields, hn', ne_eq, not_false_eq_true, if_true, Sem.run_bind, run_part_agg hu hde hi, Result.andThen_ok, hr]
    cases r1
    · simp
    · simpa using hr2
end

variable {P : Program} {T : Tm} {H : List Blk} {dst : Option Tmp} {type : TypeId} {pos : String} {after : Array Edge} {guard : Option (Nat × Bool)}

theorem k_eqAgg {t t2 : TypeId} {x y : Operand} {xs ys : List V} {n : Nat} {r : Bool} (hx : ev T x = .agg xs := by kernel_rfl) (hy : ev T y = .agg ys := by kernel_rfl) (hg : P.eqGuardType P.depth t = false) (h : EqV P n t (.agg xs) (.agg ys) r) (hn : Nat.ble n 10000 = true := by kernel_rfl) : PureV P ⟨dst, .binOp .eql t x y t2, type, pos, after, guard⟩ T H (.d (.bool r)) := fun φ I w a hR hT => by
  have h1 := hx ▸ ev_VR hT x
  have h2 := hy ▸ ev_VR hT y
  obtain ⟨cx, e1, hA⟩ := VR.agg_inv h1
  obtain ⟨cy, e2, hB⟩ := VR.agg_inv h2
  have hr := fun w' => EqV.run h h1 h2 10000 (Nat.le_of_ble_eq_true hn) w'
  rw [e1, e2] at hr
  exact ⟨_, fun w' => by simp only [execOp, e1, e2, Sem.run_bind, run_eqGuard_agg w' .eql t x y cx cy hg, Result.andThen_ok, run_eql_struct w' t cx cy, hr w', Sem.run_pure], .d _ _ (.bool _)⟩
theorem k_neAgg {t t2 : TypeId} {x y : Operand} {xs ys : List V} {n : Nat} {r : Bool} (hx : ev T x = .agg xs := by kernel_rfl) (hy : ev T y = .agg ys := by kernel_rfl) (hg : P.eqGuardType P.depth t = false) (h : EqV P n t (.agg xs) (.agg ys) r) (hn : Nat.ble n 10000 = true := by kernel_rfl) : PureV P ⟨dst, .binOp .neq t x y t2, type, pos, after, guard⟩ T H (.d (.bool (!r))) := fun φ I w a hR hT => by
  have h1 := hx ▸ ev_VR hT x
  have h2 := hy ▸ ev_VR hT y
  obtain ⟨cx, e1, hA⟩ := VR.agg_inv h1
  obtain ⟨cy, e2, hB⟩ := VR.agg_inv h2
  have hr := fun w' => EqV.run h h1 h2 10000 (Nat.le_of_ble_eq_true hn) w'
  rw [e1, e2] at hr
  exact ⟨_, fun w' => by simp only [execOp, e1, e2, Sem.run_bind, run_eqGuard_agg w' .neq t x y cx cy hg, Result.andThen_ok, run_neq_struct w' t cx cy, hr w', Sem.run_pure], .d _ _ (.bool _)⟩

/-- A write into an element of a slice of one's own. -/
theorem d_storeE {t : TypeId} {x y : Operand} {b L i off esz sz bytes : Nat} {xs xs' : List (List D)} {e e' ds : List D} {z : Value} (hx : ev T x = .eptr b L i off) (hk : H[b]? = some (.sl esz xs false)) (hL : xs.length = L) (he : xs[i]? = some e) (hi : TyI P t z sz bytes)
    (hv : (ev T y).cells?.map (List.map nl) = some (ds.map V.d)) (hs : ds.length = sz) (hel : e.length = esz) (hfit : off + sz ≤ esz) (hn : e.take off ++ ds ++ e.drop (off + ds.length) = e') (hxs : xs.set i e' = xs') : Does P ⟨dst, .store t x y, type, pos, after, guard⟩ T H .undef (H.set b (.sl esz xs' false)) [b] := fun φ I w a hR hT => by
  have hiL : i < L := by rw [← hL]; exact (List.getElem?_eq_some_iff.1 he).1
  obtain ⟨g, δ, arr, et, hcx, hb, hg, hfitA, hrow, hcs, hz, hI⟩ := VR.eptr_sl hR hk hL (by omega) (hx ▸ ev_VR hT x)
  have hI' : ¬ I g := fun h => by have := hI.2 h; cases this
  obtain ⟨vs0, hvs0, hds0⟩ := Option.map_eq_some_iff.1 hv
  obtain ⟨hsz, hall0⟩ := (ev_VR hT y).cells hvs0
  have hall : ∀ (i : Nat) (v : V) (c' : Value), (ds.map V.d)[i]? = some v → (a.eval y).cells[i]? = some c' → VR φ I w v c' := fun i v c' h1 h2 => by
    rw [← hds0, List.getElem?_map, Option.map_eq_some_iff] at h1
    obtain ⟨v0, h3, rfl⟩ := h1
    exact (hall0 i v0 c' h3 h2).nl
  have hsz' := congrArg List.length hds0
  rw [List.length_map, List.length_map] at hsz'
  rw [hsz'] at hsz
  have hlen : (a.eval y).cells.toList.length = ds.length := by rw [Array.length_toList]; exact hsz
  have hmul : (i + 1) * esz ≤ L * esz := Nat.mul_le_mul_right _ hiL
  have hmul' : (i + 1) * esz = i * esz + esz := Nat.succ_mul i esz
  have hrun := run_storeAt (P := P) (w := w) (off := δ + i * esz + off) (v := a.eval y) hi (by rw [hsz, hs]) hg (by omega) (fun c hc => by
    obtain ⟨j, hj⟩ := List.getElem?_of_mem hc
    have hlt := (List.getElem?_eq_some_iff.1 hj).1
    rw [hlen] at hlt
    have hvj : (ds.map V.d)[j]? = some (V.d ds[j]) := by simp [hlt]
    exact vone_oneCell ((hall j _ c hvj (by simpa using hj)).one rfl))
  have hal := Array.length_toList (xs := arr)
  have hfit2 : δ + i * esz + off + (a.eval y).cells.toList.length ≤ arr.toList.length := by rw [hlen]; omega
  have hlx : xs'.length = L := by rw [← hxs]; simpa using hL
  have hel' : e'.length = esz := by rw [← hn]; simp; omega
  have hsame : ∀ g', I g' → (w.setRow g (arr.toList.take (δ + i * esz + off) ++ (a.eval y).cells.toList ++ arr.toList.drop (δ + i * esz + off + (a.eval y).cells.toList.length)).toArray).heap[g']? = w.heap[g']? := fun g' hg' => setRow_other w g g' _ fun e => hI' (e ▸ hg')
  have hle : LE φ (φ.set b (.at g δ esz L arr.size [])) := by rw [set_same hb]; exact LE.refl φ
  have hsize : (arr.toList.take (δ + i * esz + off) ++ (a.eval y).cells.toList ++ arr.toList.drop (δ + i * esz + off + (a.eval y).cells.toList.length)).toArray.size = arr.size := by
    simp only [List.size_toArray, List.length_append, List.length_take, List.length_drop]; omega
  have hw := hR.write (b := b) (l := .at g δ esz L arr.size []) (l' := .at g δ esz L arr.size []) (g := g) hb rfl hI' (.refl _) (fun _ h => h)
    (arr.toList.take (δ + i * esz + off) ++ (a.eval y).cells.toList ++ arr.toList.drop (δ + i * esz + off + (a.eval y).cells.toList.length)).toArray (.sl esz xs' false)
  have hrow' : ∀ (j : Nat) (x : List D), xs'[j]? = some x → x.length = esz := fun j x hj => by
    rw [← hxs] at hj
    by_cases hij : i = j
    · subst hij
      rw [List.getElem?_set_self (by rw [hL]; exact hiL)] at hj
      cases hj; exact hel'
    · rw [List.getElem?_set_ne hij] at hj
      exact hrow j x hj
  have hbr := BR.sl (φ := φ.set b (.at g δ esz L arr.size [])) (I := I) esz xs' false g δ _ et (setRow_heap w g arr _ et (0, 0) hg) (by rw [hsize, hlx]; exact hfitA) hrow' (fun i' j' d c hd hc => by
    simp only [List.getElem?_toArray] at hc
    rw [splice_get _ _ _ hfit2, hlen] at hc
    obtain ⟨x', hx', hj'⟩ := get2_some hd
    have hjlt : j' < esz := by rw [← hrow' i' x' hx']; exact (List.getElem?_eq_some_iff.1 hj').1
    rw [← hxs] at hx'
    by_cases hii : i = i'
    · subst hii
      rw [List.getElem?_set_self (by rw [hL]; exact hiL)] at hx'
      cases hx'
      rw [← hn] at hj'
      rw [splice_get _ _ _ (by omega)] at hj'
      by_cases hin : off ≤ j' ∧ j' < off + ds.length
      · rw [if_pos hin] at hj'
        rw [if_pos (by omega)] at hc
        have e1 : δ + i * esz + j' - (δ + i * esz + off) = j' - off := by omega
        rw [e1] at hc
        have hvj : (ds.map V.d)[j' - off]? = some (V.d d) := by simp [hj']
        exact ((hall _ _ c hvj (by simpa using hc)).d_inv).mono (fun _ h => h) hsame
      · rw [if_neg hin] at hj'
        rw [if_neg (by omega)] at hc
        exact (hcs i j' d c (get2_mk he hj') (by simpa using hc)).mono (fun _ h => h) hsame
    · rw [List.getElem?_set_ne hii] at hx'
      have hnot : ¬ (δ + i * esz + off ≤ δ + i' * esz + j' ∧ δ + i' * esz + j' < δ + i * esz + off + ds.length) := by
        rcases Nat.lt_or_gt_of_ne hii with h | h
        · have h1 : (i + 1) * esz ≤ i' * esz := Nat.mul_le_mul_right _ h
          omega
        · have h1 : (i' + 1) * esz ≤ i * esz := Nat.mul_le_mul_right _ h
          have h2 : (i' + 1) * esz = i' * esz + esz := Nat.succ_mul i' esz
          omega
      rw [if_neg hnot] at hc
      exact (hcs i' j' d c (get2_mk hx' hj') (by simpa using hc)).mono (fun _ h => h) hsame) hz (by constructor <;> intro h; cases h; exact absurd h hI')
  rw [hlx, hsize] at hbr
  obtain ⟨h1, h2, h3⟩ := hw hbr
  exact ⟨_, I, _, undef, .inr ⟨by simp only [execOp, hcx, Sem.run_bind, hrun, Result.andThen_ok, Sem.run_pure], rfl⟩, h2, h1, .undef _, h3⟩

theorem k_storeE {α : Type} {enc : α → List D} {t : TypeId} {x y : Operand} (b off : Nat) {i sz0 sz bytes : Nat} (xs : List α) {xs' : List α} {a : α} (a' : α) (ds : List D) {z : Value} {H' : List Blk} (hr : ∀ a, (enc a).length = sz0) (hx : ev T x = .eptr b xs.length i off := by kernel_rfl) (hk : H[b]? = some (.sl sz0 (xs.map enc) false) := by kernel_rfl) (he : xs[i]? = some a) (hi : TyI P t z sz bytes)
    (hv : (ev T y).cells?.map (List.map nl) = some (ds.map V.d) := by kernel_rfl) (hok : (Nat.beq ds.length sz && Nat.ble (off + sz) sz0) = true := by kernel_rfl) (hn : (enc a).take off ++ ds ++ (enc a).drop (off + ds.length) = enc a' := by kernel_rfl) (hxs : xs.set i a' = xs') (hH : H.set b (.sl sz0 (xs'.map enc) false) = H' := by kernel_rfl) : Does P ⟨dst, .store t x y, type, pos, after, guard⟩ T H .undef H' [b] := by
  obtain ⟨h1, h2⟩ := Bool.and_eq_true_iff.1 hok
  subst hH
  exact d_storeE hx hk (map_len enc xs) (map_idx enc he) hi hv (Nat.eq_of_beq_eq_true h1) (hr a) (Nat.le_of_ble_eq_true h2) hn (by rw [map_set, hxs])

section
variable {R X : Type} {E : R → V × List Blk} {A : X → Option R} {f : FuncId} {N m : Nat} {k todo : List VI}
theorem bSet {α : Type} {B : α → Option X} (a : α) (h : ∀ x, a = x → GoesO P f N m todo T H E ((B x).bind A)) : GoesO P f N m todo T H E ((blet a B).bind A) := h a rfl
end
theorem set_len {α : Type} {xs xs' : List α} {i : Nat} {a : α} (h : xs.set i a = xs') : xs.length = xs'.length := by rw [← h]; simp

theorem gOpX {ι : Type} {r : V} {B : List Blk} {f : FuncId} {N m : Nat} {k : List VI} {all : Array Oper} {i : Nat} {o : Oper} {l : List Oper} {v : ι → V} {ok : ι → Prop} (hw : vwanted T all o = some true) (hN : inN N o.dst = true)
    (hdo : ∀ (φ : List Plc) (I : Nat → Prop) (w : World) (a : Act), Rel H φ I w → TR φ I w T a → ∃ β c, ok β ∧ (execOp a.eval o).run P w = .ok (.value c) w ∧ VR φ I w (v β) c) (h : ∀ β, ok β → Goes P f N m (.ops all (i + 1) l :: k) (tput T o.dst (v β)) H r B) :
    Goes P f N m (.ops all i (o :: l) :: k) T H r B := fun φ I w a b cs hR hT hd hsz hk hf hkd => by
  obtain ⟨ho, hl⟩ := drop_get (show all.toList.drop i = o :: l from hk (.ops all i (o :: l)) (by simp))
  have ho' : all[i]? = some o := by simpa using ho
  obtain ⟨β, c, hok, hrun, hv⟩ := hdo φ I w a hR hT
  have hstep := step_value (P := P) (b := b) (K := k.map VI.item) (cs := cs) (rest := List.range' (i + 1) l.length) ho' (vwanted_wanted hT hw) (.inl hrun)
  obtain ⟨φ', I', w', c', fr, hs, h1, h2, h3, h4⟩ := h β hok φ I w (a.put o.dst c) b cs hR (hT.tput hsz hN hv) (by rw [put_defers]; exact hd) (by rw [put_size]; exact hsz) (fun x hx => by
    simp only [List.mem_cons] at hx
    rcases hx with rfl | hx
    · exact hl
    · exact hk x (by simp [hx])) hf hkd
  refine ⟨φ', I', w', c', fr, .head ?_ hs, h1, h2, h3, h4⟩
  rw [List.map_cons, ops_cons]
  exact hstep

/-- Is the slice nil? For what reads empty either answer may come. -/
theorem oNil {R : Type} {E : R → V × List Blk} {o : Option R} {f : FuncId} {N m : Nat} {k : List VI} {all : Array Oper} {i : Nat} {l : List Oper} {t t2 e : TypeId} {x : Operand} {xs : List (List D)} (hu : P.underlying t = some (.slice e)) (hx : ev T x = .d (.lit xs) := by kernel_rfl)
    (hw : vwanted T all ⟨dst, .binOp .eql t x (.const (.slice none 0 0)) t2, type, pos, after, guard⟩ = some true := by kernel_rfl) (hN : inN N dst = true := by kernel_rfl)
    (h : ∀ β : Bool, (xs ≠ [] → β = false) → GoesO P f N m (.ops all (i + 1) l :: k) (tput T dst (.d (.bool β))) H E o) : GoesO P f N m (.ops all i (⟨dst, .binOp .eql t x (.const (.slice none 0 0)) t2, type, pos, after, guard⟩ :: l) :: k) T H E o := fun r hr => by
  refine gOpX (v := fun β => .d (.bool β)) (ok := fun β => xs ≠ [] → β = false) hw hN (fun φ I w a hR hT => ?_) fun β hβ => h β hβ r hr
  rcases VR.lit_inv (hx ▸ ev_VR hT x) with ⟨rfl, ad, cap, e1⟩ | ⟨g, o, esz, cap, cv, e1, _⟩
  · refine ⟨ad.isNone, .bool ad.isNone, fun h => absurd rfl h, ?_, .d _ _ (.bool _)⟩
    have e2 : a.eval (.const (.slice none 0 0)) = .slice none 0 0 := rfl
    simp [execOp, e1, e2, eqGuard, binOp, run_equal_slice_nil w t e ad 0 cap hu]
  · refine ⟨false, .bool false, fun _ => rfl, ?_, .d _ _ (.bool _)⟩
    have e2 : a.eval (.const (.slice none 0 0)) = .slice none 0 0 := rfl
    simp [execOp, e1, e2, eqGuard, binOp, run_equal_slice_nil w t e (some ⟨g, o, none⟩) xs.length cap hu]
end Go.VM
namespace Go.VM
set_option linter.unusedVariables false
set_option linter.unusedSimpArgs false
theorem rep_len {α : Type} {n : Nat} {e0 : α} {xs : List α} (h : List.replicate n e0 = xs) : n = xs.length := by rw [← h]; simp
theorem convList {H : List Blk} {l vs0 vs : List V} (h : l = vs0 := by kernel_rfl) (p : ConvRs H vs0 vs) : ConvRs H l vs := by subst h; exact p
def iand (k : IntKind) (a b : Int) : Int := k.wrap (BitVec.ofInt k.bits a &&& BitVec.ofInt k.bits b).toNat
def ior (k : IntKind) (a b : Int) : Int := k.wrap (BitVec.ofInt k.bits a ||| BitVec.ofInt k.bits b).toNat
def ixor (k : IntKind) (a b : Int) : Int := k.wrap (BitVec.ofInt k.bits a ^^^ BitVec.ofInt k.bits b).toNat
section
variable {R X : Type} {E : R → V × List Blk} {A : X → Option R} {P : Program} {f : FuncId} {N m : Nat} {T U : Tm} {H H0 : List Blk} {k : List VI} {all : Array Oper} {st : List (Nat × Nat)} {lv : List Nat}
/-- Both ways go on as one, for a truth value alone. -/
theorem bMeetF {i : Nat} {l l' : List Oper} {b : Bool} {B : Bool → Option X} (n : Nat) (hl : l.drop n = l') (sT : Bool → Tm) {H' : List Blk} (hj : ∀ s, GoesO P f N m (.ops all (i + n) l' :: k) (sT s) H' E ((B s).bind A))
    (h : ∀ F : Bool → Option R, (∀ s, GoesO P f N m (.ops all (i + n) l' :: k) (sT s) H' E (F s)) → GoesO P f N m (.ops all i l :: k) T H E (F b)) : GoesO P f N m (.ops all i l :: k) T H E ((blet b B).bind A) := h (fun s => (B s).bind A) hj
theorem bPickF {todo : List VI} (t : Nat) {b : Bool} (F : Bool → Option R) (ht : get T t = .d (.bool b) := by kernel_rfl) (h1 : b = true → GoesO P f N m todo ((t, .d (.bool true)) :: T) H E (F true)) (h2 : b = false → GoesO P f N m todo ((t, .d (.bool false)) :: T) H E (F false)) :
    GoesO P f N m todo T H E (F b) := fun r hr => gSplit t ht (fun hb => by subst hb; exact h1 rfl r hr) (fun hb => by subst hb; exact h2 rfl r hr)
theorem dMeetF {b : Bool} {B : Bool → Option X} (lv' : List Nat) (sT sU : Bool → Tm) {H' : List Blk} (hj : ∀ s, AnyO P f N m all st H0 lv' k (sT s) (sU s) H' E ((B s).bind A))
    (h : ∀ F : Bool → Option R, (∀ s, AnyO P f N m all st H0 lv' k (sT s) (sU s) H' E (F s)) → AnyO P f N m all st H0 lv k T U H E (F b)) : AnyO P f N m all st H0 lv k T U H E ((blet b B).bind A) := h (fun s => (B s).bind A) hj
theorem dPickF (t : Nat) {b : Bool} (F : Bool → Option R) (ht : get T t = .d (.bool b) := by kernel_rfl) (hu : get U t = .d (.bool b) := by kernel_rfl) (h1 : b = true → AnyO P f N m all st H0 lv k ((t, .d (.bool true)) :: T) ((t, .d (.bool true)) :: U) H E (F true))
    (h2 : b = false → AnyO P f N m all st H0 lv k ((t, .d (.bool false)) :: T) ((t, .d (.bool false)) :: U) H E (F false)) : AnyO P f N m all st H0 lv k T U H E (F b) := by
  have : F b = bif b then F true else F false := by cases b <;> rfl
  rw [this]
  exact aSplit t ht hu h1 h2
theorem dSet {α : Type} {B : α → Option X} (a : α) (h : ∀ x, a = x → AnyO P f N m all st H0 lv k T U H E ((B x).bind A)) : AnyO P f N m all st H0 lv k T U H E ((blet a B).bind A) := h a rfl
end
end Go.VM
namespace Go.VM
set_option linter.unusedVariables false
set_option linter.unusedSimpArgs false
section
variable {R X : Type} {E : R → V × List Blk} {A : X → Option R} {P : Program} {f : FuncId} {N m : Nat} {T U : Tm} {H H0 : List Blk} {k : List VI} {all : Array Oper} {st : List (Nat × Nat)} {lv : List Nat}
theorem bUc {α β : Type} {F : α → β → Option X} {a : α} {b : β} (h : GoesO P f N m k T H E ((F a b).bind A)) : GoesO P f N m k T H E ((uc F (a, b)).bind A) := h
theorem bU0 {o : Option X} (h : GoesO P f N m k T H E (o.bind A)) : GoesO P f N m k T H E ((u0 o ()).bind A) := h
theorem bInl {α β : Type} {F : α → Option X} {G : β → Option X} {a : α} (h : GoesO P f N m k T H E ((F a).bind A)) : GoesO P f N m k T H E ((Sum.elim F G (Sum.inl a)).bind A) := h
theorem dUc {α β : Type} {F : α → β → Option X} {a : α} {b : β} (h : AnyO P f N m all st H0 lv k T U H E ((F a b).bind A)) : AnyO P f N m all st H0 lv k T U H E ((uc F (a, b)).bind A) := h
theorem dU0 {o : Option X} (h : AnyO P f N m all st H0 lv k T U H E (o.bind A)) : AnyO P f N m all st H0 lv k T U H E ((u0 o ()).bind A) := h
end
end Go.VM
namespace Go.VM
open Go.RowKit
set_option linter.unusedVariables false

theorem Runs.below {P : Program} {f : FuncId} {args : List V} {r : V} {B' : List Blk} {cargs : Array Value} {w : World} (h : Runs P f args [] r B') (hsz : cargs.size = args.length)
    (hv : ∀ (i : Nat) (v : V) (c : Value), args[i]? = some v → cargs[i]? = some c → VR [] (fun g => g < w.heap.size) w v c) :
    Calls P f cargs w fun e w' => (∃ (φ' : List Plc) (I' : Nat → Prop) (c : Value), e = .returned c ∧ VR φ' I' w' r c) ∧ Below w.heap.size w w' := by
  have hR : Rel ([] : List Blk) [] (fun g => g < w.heap.size) w := ⟨rfl, fun b k l h => by simp at h, fun b b' l l' g h => by simp at h, fun g h => h⟩
  refine (h [] _ w cargs hR hsz hv).mono fun e w' ⟨φ', I', c, he, ht, hR', hvr⟩ => ⟨⟨φ', I', c, he, hvr⟩, ht.os, ht.tape, ht.output, ht.size, fun k hk => ht.same k hk⟩

/-- A slice of numbers, as a row hands it over. -/
theorem VR.row {w : World} {a : Option Addr} {len cap : Nat} {k : IntKind} {zs : List Int} (enc : Int → List D) (he : ∀ x, enc x = [.int k x])
    (h : (a = none ∧ len = 0 ∧ cap = 0 ∧ zs = []) ∨ ∃ x : Addr, a = some x ∧ len ≤ cap ∧ zs.length = cap ∧ (∀ i, i < zs.length → w.cell? (x.add i) = some (.int k (zs.getD i 0)))) :
    VR [] (fun g => g < w.heap.size) w (.d (.lit ((zs.take len).map enc))) (.slice a len cap) := by
  cases len with
  | zero => exact .d _ _ (by simpa using DR.nil a cap)
  | succ n =>
    rcases h with ⟨_, h, _⟩ | ⟨x, rfl, hle, hl, hc⟩
    · cases h
    · have h0 := hc 0 (by omega)
      have hsp : x.spot = none := by
        have := World.cell?_spot h0
        simpa [Addr.add] using this
      obtain ⟨g, o, sp⟩ := x
      simp only at hsp
      subst hsp
      have hadd : ∀ i, (⟨g, o, none⟩ : Addr).add i = ⟨g, o + i, none⟩ := fun i => by
        unfold Addr.add
        split
        · next h => subst h; rfl
        · rfl
      have hlen : ((zs.take (n + 1)).map enc).length = n + 1 := by simp; omega
      have hget : ∀ (i : Nat) (e : List D), ((zs.take (n + 1)).map enc)[i]? = some e → i < zs.length ∧ e = [.int k (zs.getD i 0)] := fun i e hi => by
        have hlt := (List.getElem?_eq_some_iff.1 hi).1
        rw [hlen] at hlt
        have hlz : i < zs.length := by omega
        refine ⟨hlz, ?_⟩
        simp only [List.getElem?_map, List.getElem?_take, hlt, if_true, List.getElem?_eq_getElem hlz, Option.map_some, Option.some.injEq] at hi
        rw [← hi, he]
        simp [List.getD, hlz]
      have hd := DR.lit (I := fun g => g < w.heap.size) (w := w) ((zs.take (n + 1)).map enc) g o 1 cap (fun i _ => .int k (zs.getD i 0)) (by
          have := hc 0 (by omega)
          unfold World.cell? at this
          split at this
          · next hh => exact (Array.getElem?_eq_some_iff.1 hh).1
          · cases this) (fun i e hi => by rw [(hget i e hi).2]; rfl) (fun i j d hd => by
          obtain ⟨e, h1, h2⟩ := get2_some hd
          obtain ⟨h3, rfl⟩ := hget i e h1
          cases j with
          | zero =>
            have := hc i h3
            rw [hadd] at this
            simpa using this
          | succ j => simp at h2) (fun i j d hd => by
          obtain ⟨e, h1, h2⟩ := get2_some hd
          obtain ⟨h3, rfl⟩ := hget i e h1
          cases j with
          | zero => simp at h2; subst h2; exact .int _ _
          | succ j => simp at h2) (by rw [hlen]; exact hle)
      rw [hlen] at hd
      exact .d _ _ hd
end Go.VM
namespace Go.VM
set_option linter.unusedVariables false
set_option linter.unusedSimpArgs false
section
variable {P : Program} {T : Tm} {H : List Blk} {dst : Option Tmp} {type : TypeId} {pos : String} {after : Array Edge} {guard : Option (Nat × Bool)}

theorem Holds.more {sz : Nat} {v : V} {ys : List (List D)} (h : Holds H sz v ys) (k : Blk) : Holds (H ++ [k]) sz v ys := by
  have up : ∀ {b : Nat} {x : Blk}, H[b]? = some x → (H ++ [k])[b]? = some x := fun {b x} hb => by
    rw [List.getElem?_append_left (List.getElem?_eq_some_iff.1 hb).1]; exact hb
  cases h with
  | lit ys h => exact .lit ys h
  | nil => exact .nil
  | ref b L off len xs ys fro hk hL hle hy => exact .ref b L off len xs ys fro (up hk) hL hle hy
  | virt b esz fro hk => exact .virt b esz fro (up hk)

theorem d_appendNil {t t2 e e2 : TypeId} {x y : Operand} {sz bytes L' : Nat} {ys : List (List D)} {z : Value} (hu : P.underlying t = some (.slice e)) (hu2 : P.underlying t2 = some (.slice e2)) (hi : TyI P e z sz bytes) (hz : 0 < sz) (hzs : z.cells.size = sz)
    (hx : ev T x = .nilc) (hy : Holds H sz (ev T y) ys) (hL' : ys.length = L') (hfit : L' * bytes ≤ 140737488355328) (h63 : L' ≤ 9223372036854775807) :
    Does P ⟨dst, .call ⟨.builtin .append, #[x, y], #[t, t2]⟩, type, pos, after, guard⟩ T H (.ref H.length L' 0 L') (H ++ [.sl sz ys false]) [] := fun φ I w a hR hT => by
  obtain ⟨h1, h2⟩ := hR.virt (esz := sz)
  have hx0 := (hx ▸ ev_VR hT x).nilc_inv
  have hX : VR (φ ++ [.virt]) I w (.ref H.length 0 0 0) (a.eval x) := by rw [hx0]; exact virt_VR φ I w hR.len
  have hY : VR (φ ++ [.virt]) I w (ev T y) (a.eval y) := (ev_VR hT y).turn h2
  have hk : (H ++ [Blk.sl sz [] false])[H.length]? = some (.sl sz [] false) := by simp
  obtain ⟨φ', I', w', c, hrun, ht, hR', hv, hkp⟩ := d_append_at (dst := dst) (type := type) (pos := pos) (after := after) (guard := guard) (L := 0) (xs := []) (zs := ys) hu hu2 hi hz hzs hk rfl (.inl rfl) (hy.more _) rfl hL' hfit h63 _ I w a h1 hX hY
  refine ⟨φ', I', w', c, hrun, h2.trans ht, by simpa using hR', hv, fun b l _ hl => ?_⟩
  have hlt := (List.getElem?_eq_some_iff.1 hl).1
  have hne : b ∉ [H.length] := by simp only [List.mem_singleton]; rw [← hR.len]; omega
  exact hkp b l hne (by rw [List.getElem?_append_left hlt]; exact hl)

theorem k_appendNil {α : Type} {enc : α → List D} {t t2 e e2 : TypeId} {x y : Operand} {sz bytes : Nat} {z : Value} (ys : List α) {H' : List Blk} (hu : P.underlying t = some (.slice e)) (hu2 : P.underlying t2 = some (.slice e2)) (hi : TyI P e z sz bytes) (hok : (Nat.blt 0 sz && (Nat.blt 0 bytes && Nat.beq z.cells.size sz)) = true := by kernel_rfl)
    (hx : ev T x = .nilc := by kernel_rfl) (hy : Holds H sz (ev T y) (ys.map enc)) (hfit : ys.length * bytes ≤ 140737488355328) (hH : H ++ [.sl sz (ys.map enc) false] = H' := by kernel_rfl) :
    Does P ⟨dst, .call ⟨.builtin .append, #[x, y], #[t, t2]⟩, type, pos, after, guard⟩ T H (.ref H.length ys.length 0 ys.length) H' [] := by
  obtain ⟨h1, h2⟩ := Bool.and_eq_true_iff.1 hok
  obtain ⟨h3, h4⟩ := Bool.and_eq_true_iff.1 h2
  subst hH
  have h5 : 1 ≤ bytes := Nat.le_of_ble_eq_true h3
  have h6 : ys.length * 1 ≤ ys.length * bytes := Nat.mul_le_mul_left _ h5
  exact d_appendNil hu hu2 hi (Nat.le_of_ble_eq_true h1) (Nat.eq_of_beq_eq_true h4) hx hy (map_len enc ys) hfit (by omega)
end
/-! ### parts of a slice that nobody writes -/
theorem cut_lit {φ : List Plc} {I : Nat → Prop} {w : World} {xs : List (List D)} {a : Option Addr} {len cap l h sz : Nat} (hv : VR φ I w (.d (.lit xs)) (.slice a len cap)) (hr : ∀ (i : Nat) (e : List D), xs[i]? = some e → e.length = sz) (h1 : l ≤ h) (h2 : h ≤ len) :
    VR φ I w (.d (.lit ((xs.drop l).take (h - l)))) (sliced a l h cap sz) := by
  have hle := VR.lit_cap hv
  rcases VR.lit_inv hv with ⟨rfl, a0, c0, e⟩ | ⟨g, o, esz, cap', cv, e, hI, hlen, hcell, hd⟩
  · cases e
    have : h - l = 0 := by omega
    simp only [List.drop_nil, List.take_nil, sliced, this]
    exact .d _ _ (.nil _ _)
  · cases e
    by_cases hlt : l = h
    · subst hlt
      simp only [sliced, Nat.sub_self, List.take_zero]
      exact .d _ _ (.nil _ _)
    · have hll : l < xs.length := by omega
      have hes : esz = sz := by rw [← hlen l _ (List.getElem?_eq_getElem hll), hr l _ (List.getElem?_eq_getElem hll)]
      subst hes
      have hne : ¬ cap = l := by omega
      simp only [sliced, if_neg hne, Option.map_some]
      rw [add_none]
      have := DR.lit (I := I) (w := w) ((xs.drop l).take (h - l)) g (o + l * esz) esz (cap - l) (fun i j => cv (l + i) j) hI (fun i e he => by
          have hil : i < h - l := by have := (List.getElem?_eq_some_iff.1 he).1; simp at this; omega
          rw [List.getElem?_take_of_lt hil, List.getElem?_drop] at he
          exact hlen _ _ he) (fun i j d hd => by
          have := hcell (l + i) j d (get2_cut hd)
          rw [← this, Nat.add_mul, Nat.add_assoc o]) (fun i j d hdd => hd (l + i) j d (get2_cut hdd)) (by simp; omega)
      have hl' : ((xs.drop l).take (h - l)).length = h - l := by simp; omega
      rw [hl'] at this
      exact .d _ _ this
section
variable {P : Program} {T : Tm} {H : List Blk} {dst : Option Tmp} {type : TypeId} {pos : String} {after : Array Edge} {guard : Option (Nat × Bool)}
theorem elem_of {t e : TypeId} (hu : P.underlying t = some (.slice e)) : P.underlying t = some (.slice (P.elem t)) := by simp [Program.elem, hu]
theorem elem_eq {t e : TypeId} (hu : P.underlying t = some (.slice e)) : P.elem t = e := by simp [Program.elem, hu]
theorem k_cutLH {α : Type} {enc : α → List D} {t e : TypeId} {x y y2 : Operand} {k1 k2 : IntKind} {l h : Int} {z : Value} {sz bytes : Nat} (hr : ∀ a, (enc a).length = sz) (xs : List α) (hx : ev T x = .d (.lit (xs.map enc))) (hy : ev T y = .d (.int k1 l)) (hy2 : ev T y2 = .d (.int k2 h)) (hu : P.underlying t = some (.slice e)) (hi : TyI P e z sz bytes)
    (h0 : 0 ≤ l) (h1 : l ≤ h) (h2 : h ≤ xs.length) : PureV P ⟨dst, .slice t x (some y) (some y2) none, type, pos, after, guard⟩ T H (.d (.lit ((List.take (h.toNat - l.toNat) (List.drop l.toNat xs)).map enc))) := fun φ I w a hR hT => by
  have hv := hx ▸ ev_VR hT x
  have e1 := (hy ▸ ev_VR hT y).int_inv
  have e2 := (hy2 ▸ ev_VR hT y2).int_inv
  obtain ⟨ad, cap, e⟩ : ∃ ad cap, a.eval x = .slice ad xs.length cap := by
    rcases VR.lit_inv hv with ⟨e0, a0, c0, e⟩ | ⟨g, o, esz, cap', cv, e, _⟩
    · have : xs.length = 0 := by have := congrArg List.length e0; simpa using this
      exact ⟨a0, c0, by rw [e, this]⟩
    · exact ⟨some ⟨g, o, none⟩, cap', by rw [e]; simp⟩
  rw [e] at hv
  have hle := VR.lit_cap hv
  refine ⟨sliced ad l.toNat h.toNat cap sz, fun w' => ?_, ?_⟩
  · simp [execOp, e, e1, e2, run_sliceAt_slice w' t _ _ _ _ (elem_of hu), run_slice_lh w' t ad xs.length cap (elem_of hu) k1 k2 l h h0 h1 (by omega), elem_eq hu, run_sizeOf hi]
  · rw [List.map_take, List.map_drop]
    exact cut_lit hv (map_row hr xs) (by omega) (by omega)
theorem k_cutH {α : Type} {enc : α → List D} {t e : TypeId} {x y2 : Operand} {k2 : IntKind} {h : Int} {z : Value} {sz bytes : Nat} (hr : ∀ a, (enc a).length = sz) (xs : List α) (hx : ev T x = .d (.lit (xs.map enc)) := by kernel_rfl) (hy2 : ev T y2 = .d (.int k2 h) := by kernel_rfl) (hu : P.underlying t = some (.slice e)) (hi : TyI P e z sz bytes)
    (h1 : 0 ≤ h) (h2 : h ≤ xs.length) : PureV P ⟨dst, .slice t x none (some y2) none, type, pos, after, guard⟩ T H (.d (.lit ((List.take h.toNat xs).map enc))) := fun φ I w a hR hT => by
  have hv := hx ▸ ev_VR hT x
  have e2 := (hy2 ▸ ev_VR hT y2).int_inv
  obtain ⟨ad, cap, e⟩ : ∃ ad cap, a.eval x = .slice ad xs.length cap := by
    rcases VR.lit_inv hv with ⟨e0, a0, c0, e⟩ | ⟨g, o, esz, cap', cv, e, _⟩
    · have : xs.length = 0 := by have := congrArg List.length e0; simpa using this
      exact ⟨a0, c0, by rw [e, this]⟩
    · exact ⟨some ⟨g, o, none⟩, cap', by rw [e]; simp⟩
  rw [e] at hv
  have hle := VR.lit_cap hv
  refine ⟨sliced ad 0 h.toNat cap sz, fun w' => ?_, ?_⟩
  · simp [execOp, e, e2, run_sliceAt_slice w' t _ _ _ _ (elem_of hu), run_slice_h w' t ad xs.length cap (elem_of hu) k2 h h1 (by omega), elem_eq hu, run_sizeOf hi]
  · have := cut_lit hv (map_row hr xs) (Nat.zero_le h.toNat) (by omega)
    rw [List.map_take]
    simpa using this
theorem k_cutL {α : Type} {enc : α → List D} {t e : TypeId} {x y : Operand} {k1 : IntKind} {l : Int} {z : Value} {sz bytes : Nat} (hr : ∀ a, (enc a).length = sz) (xs : List α) (hx : ev T x = .d (.lit (xs.map enc))) (hy : ev T y = .d (.int k1 l)) (hu : P.underlying t = some (.slice e)) (hi : TyI P e z sz bytes)
    (h1 : 0 ≤ l) (h2 : l ≤ xs.length) : PureV P ⟨dst, .slice t x (some y) none none, type, pos, after, guard⟩ T H (.d (.lit ((List.drop l.toNat xs).map enc))) := fun φ I w a hR hT => by
  have hv := hx ▸ ev_VR hT x
  have e2 := (hy ▸ ev_VR hT y).int_inv
  obtain ⟨ad, cap, e⟩ : ∃ ad cap, a.eval x = .slice ad xs.length cap := by
    rcases VR.lit_inv hv with ⟨e0, a0, c0, e⟩ | ⟨g, o, esz, cap', cv, e, _⟩
    · have : xs.length = 0 := by have := congrArg List.length e0; simpa using this
      exact ⟨a0, c0, by rw [e, this]⟩
    · exact ⟨some ⟨g, o, none⟩, cap', by rw [e]; simp⟩
  rw [e] at hv
  have hle := VR.lit_cap hv
  refine ⟨sliced ad l.toNat xs.length cap sz, fun w' => ?_, ?_⟩
  · simp [execOp, e, e2, run_sliceAt_slice w' t _ _ _ _ (elem_of hu), run_slice_l w' t ad xs.length cap (elem_of hu) k1 l h1 (by omega), elem_eq hu, run_sizeOf hi]
  · have := cut_lit (h := xs.length) hv (map_row hr xs) (l := l.toNat) (by omega) (by omega)
    have e3 : List.take (xs.length - l.toNat) (List.drop l.toNat (xs.map enc)) = List.drop l.toNat (xs.map enc) := by
      apply List.take_of_length_le; simp
    rw [e3] at this
    rw [List.map_drop]
    exact this
end
end Go.VM
namespace Go.VM
set_option linter.unusedVariables false
set_option linter.unusedSimpArgs false
section
variable {P : Program} {T : Tm} {H : List Blk} {dst : Option Tmp} {type : TypeId} {pos : String} {after : Array Edge} {guard : Option (Nat × Bool)}

/-- The bytes of a string, as numbers. -/
def strBytes (s : ByteArray) : List Int := s.data.toList.map fun b => (b.toNat : Int)
/-- The bytes of a string. -/
def strI : V → Option (List Int)
  | .d (.str s) => some (strBytes s)
  | _ => none
theorem strI_some {v : V} {xs : List Int} (h : strI v = some xs) : ∃ s, v = .d (.str s) ∧ strBytes s = xs := by
  unfold strI at h
  split at h
  · next s => exact ⟨s, rfl, Option.some.inj h⟩
  · cases h
theorem k_idxStr {t : TypeId} {x y : Operand} {k : IntKind} {i e : Int} {xs : List Int} (hx : strI (ev T x) = some xs := by kernel_rfl) (hy : ev T y = .d (.int k i) := by kernel_rfl) (hu : P.underlying t = some .string) (h0 : 0 ≤ i) (he : xs[i.toNat]? = some e) :
    PureV P ⟨dst, .index t x y, type, pos, after, guard⟩ T H (.d (.int .u8 e)) := fun φ I w a hR hT => by
  obtain ⟨s, hx, hs⟩ := strI_some hx
  have e1 := (hx ▸ ev_VR hT x).str_inv
  have e2 := (hy ▸ ev_VR hT y).int_inv
  have hlt : i.toNat < s.size := by
    have := (List.getElem?_eq_some_iff.1 he).1
    rw [← hs] at this
    simpa [strBytes] using this
  have hv : e = ((s[i.toNat]'hlt).toNat : Int) := by
    rw [← hs] at he
    have h1 : (strBytes s)[i.toNat]? = some ((s[i.toNat]'hlt).toNat : Int) := by
      unfold strBytes
      rw [List.getElem?_map, Array.getElem?_toList]
      have : s.data[i.toNat]? = some (s[i.toNat]'hlt) := by
        rw [Array.getElem?_eq_getElem hlt]; rfl
      rw [this]; rfl
    rw [h1] at he
    exact (Option.some.inj he).symm
  refine ⟨.int .u8 e, fun w' => ?_, .d _ _ (.int _ _)⟩
  have hb : 0 ≤ i ∧ i < s.size := by omega
  simp [execOp, e1, e2, run_index_string w' t s k i hu, hb, hv]

/-! ### sums and differences of 64 bits with a carry -/
def gcarry {R : Type} (x y c : Int) (k : Option R) : Option R := bif (decide (0 ≤ x) && decide (0 ≤ y)) && (decide (0 ≤ c) && decide (c ≤ 1)) then k else none
def sub64Entry : Array Value → Sem Value := fun args => do
  let (x, y, b) ← Extern.MathBitsCarry.three "Sub64" args
  pure (Extern.MathBitsCarry.pair ((x + Extern.MathBitsCarry.m64 - y - b) % Extern.MathBitsCarry.m64) (if x < y + b then 1 else 0))
theorem run_sub64 {P : Program} (x y c : Int) (hx : 0 ≤ x) (hy : 0 ≤ y) (hy2 : y ≤ 18446744073709551615) (hc0 : 0 ≤ c) (hc : c ≤ 1) (w : World) :
    (sub64Entry #[.int .u64 x, .int .u64 y, .int .u64 c]).run P w = .ok (.tuple #[.int .u64 ((x - y - c) % 18446744073709551616), .int .u64 (if x < y + c then 1 else 0)]) w := by
  have key : ∀ k : Nat, k ≤ 1 → (sub64Entry #[.int .u64 x, .int .u64 y, .int .u64 (k : Int)]).run P w =
      .ok (Extern.MathBitsCarry.pair ((x.toNat + Extern.MathBitsCarry.m64 - y.toNat - k) % Extern.MathBitsCarry.m64) (if x.toNat < y.toNat + k then 1 else 0)) w := by
    intro k hk
    have : k = 0 ∨ k = 1 := by omega
    rcases this with rfl | rfl <;> rfl
  obtain ⟨k, rfl⟩ := Int.eq_ofNat_of_zero_le hc0
  rw [key k (by omega)]
  obtain ⟨X, rfl⟩ := Int.eq_ofNat_of_zero_le hx
  obtain ⟨Y, rfl⟩ := Int.eq_ofNat_of_zero_le hy
  simp only [Extern.MathBitsCarry.pair, Extern.MathBitsCarry.m64, Int.toNat_natCast]
  have e1 : (Int.ofNat ((X + 2 ^ 64 - Y - k) % 2 ^ 64)) = ((X : Int) - Y - k) % 18446744073709551616 := by
    simp only [Int.ofNat_eq_natCast]
    omega
  have e2 : (Int.ofNat (if X < Y + k then 1 else 0)) = if (X : Int) < Y + k then 1 else 0 := by
    by_cases h : X < Y + k
    · have h' : (X : Int) < Y + k := by omega
      rw [if_pos h, if_pos h']; rfl
    · have h' : ¬ (X : Int) < Y + k := by omega
      rw [if_neg h, if_neg h']; rfl
  rw [e1, e2]
theorem p_extern {fop : Operand} {args : Array Operand} {tys : Array TypeId} {g : FuncId} {fn : Func} {e : Array Value → Sem Value} {v : V} (hf : ev T fop = .fn g []) (hfn : P.funcs[g]? = some fn) (hname : (fn.name == "runtime.NumGoroutine") = false) (hb : fn.body.isNone = true) (hn : Extern.findNext fn = none) (he : Extern.find fn = some e)
    (h : ∀ (φ : List Plc) (I : Nat → Prop) (w : World) (a : Act), Rel H φ I w → TR φ I w T a → ∃ c, (∀ w' : World, (e (args.map a.eval)).run P w' = .ok c w') ∧ VR φ I w v c) : PureV P ⟨dst, .call ⟨.value fop, args, tys⟩, type, pos, after, guard⟩ T H v := fun φ I w a hR hT => by
  obtain ⟨cs, e1, hcs⟩ := VR.fn_inv (hf ▸ ev_VR hT fop)
  have hcs0 : cs = #[] := by
    have := hcs.1
    simpa using this
  subst hcs0
  obtain ⟨c, h1, h2⟩ := h φ I w a hR hT
  refine ⟨c, fun w' => ?_, h2⟩
  have h3 := run_callFunc_extern (P := P) hfn hname hb hn he (args.map a.eval) w'
  simp [execOp, resolve, e1, Deferred.ofValue, invoke, h3, h1 w']
theorem p_add64 {fop x y z : Operand} {tys : Array TypeId} {g : FuncId} {fn : Func} {p q c : Int} (hf : ev T fop = .fn g [] := by kernel_rfl) (hfn : P.funcs[g]? = some fn) (hname : (fn.name == "runtime.NumGoroutine") = false := by kernel_rfl) (hb : fn.body.isNone = true := by kernel_rfl) (hn : Extern.findNext fn = none := by kernel_rfl) (he : Extern.find fn = some add64Entry := by kernel_rfl)
    (hx : ev T x = .d (.int .u64 p) := by kernel_rfl) (hy : ev T y = .d (.int .u64 q) := by kernel_rfl) (hz : ev T z = .d (.int .u64 c) := by kernel_rfl) (hc : ((decide (0 ≤ p) && decide (0 ≤ q)) && (decide (0 ≤ c) && decide (c ≤ 1))) = true) :
    PureV P ⟨dst, .call ⟨.value fop, #[x, y, z], tys⟩, type, pos, after, guard⟩ T H (.tuple [.d (.int .u64 ((p + q + c) % 18446744073709551616)), .d (.int .u64 ((p + q + c) / 18446744073709551616))]) := by
  simp only [Bool.and_eq_true, decide_eq_true_eq] at hc
  refine p_extern hf hfn hname hb hn he fun φ I w a hR hT => ?_
  have e1 := (hx ▸ ev_VR hT x).int_inv
  have e2 := (hy ▸ ev_VR hT y).int_inv
  have e3 := (hz ▸ ev_VR hT z).int_inv
  refine ⟨_, fun w' => by simpa [e1, e2, e3] using run_add64 (P := P) p q c hc.1.1 hc.1.2 hc.2.1 hc.2.2 w', .tuple _ _ rfl fun i v c' h1 h2 => ?_⟩
  match i, h1, h2 with
  | 0, h1, h2 => cases h1; cases h2; exact .d _ _ (.int _ _)
  | 1, h1, h2 => cases h1; cases h2; exact .d _ _ (.int _ _)
  | i + 2, h1, h2 => simp at h1
theorem p_sub64 {fop x y z : Operand} {tys : Array TypeId} {g : FuncId} {fn : Func} {p q c : Int} (hf : ev T fop = .fn g [] := by kernel_rfl) (hfn : P.funcs[g]? = some fn) (hname : (fn.name == "runtime.NumGoroutine") = false := by kernel_rfl) (hb : fn.body.isNone = true := by kernel_rfl) (hn : Extern.findNext fn = none := by kernel_rfl) (he : Extern.find fn = some sub64Entry := by kernel_rfl)
    (hx : ev T x = .d (.int .u64 p) := by kernel_rfl) (hy : ev T y = .d (.int .u64 q) := by kernel_rfl) (hz : ev T z = .d (.int .u64 c) := by kernel_rfl) (hc : ((decide (0 ≤ p) && decide (0 ≤ q)) && (decide (0 ≤ c) && decide (c ≤ 1))) = true) (hq : q ≤ 18446744073709551615) :
    PureV P ⟨dst, .call ⟨.value fop, #[x, y, z], tys⟩, type, pos, after, guard⟩ T H (.tuple [.d (.int .u64 ((p - q - c) % 18446744073709551616)), .d (.int .u64 (if p < q + c then 1 else 0))]) := by
  simp only [Bool.and_eq_true, decide_eq_true_eq] at hc
  refine p_extern hf hfn hname hb hn he fun φ I w a hR hT => ?_
  have e1 := (hx ▸ ev_VR hT x).int_inv
  have e2 := (hy ▸ ev_VR hT y).int_inv
  have e3 := (hz ▸ ev_VR hT z).int_inv
  refine ⟨_, fun w' => by simpa [e1, e2, e3] using run_sub64 (P := P) p q c hc.1.1 hc.1.2 hq hc.2.1 hc.2.2 w', .tuple _ _ rfl fun i v c' h1 h2 => ?_⟩
  match i, h1, h2 with
  | 0, h1, h2 => cases h1; cases h2; exact .d _ _ (.int _ _)
  | 1, h1, h2 => cases h1; cases h2; exact .d _ _ (.int _ _)
  | i + 2, h1, h2 => simp at h1
end
/-! ### the same operations in another order -/

def sameL (a b : List Nat) : Bool := (a.all fun i => b.contains i) && b.all fun i => a.contains i
theorem sameL_iff {a b : List Nat} (h : sameL a b = true) (i : Nat) : i ∈ a ↔ i ∈ b := by
  unfold sameL at h
  rw [Bool.and_eq_true, List.all_eq_true, List.all_eq_true] at h
  exact ⟨fun hi => by simpa using h.1 i hi, fun hi => by simpa using h.2 i hi⟩
theorem dLv {P : Program} {R : Type} {E : R → V × List Blk} {f : FuncId} {N m : Nat} {T U : Tm} {H H0 : List Blk} {k : List VI} {all : Array Oper} {st : List (Nat × Nat)} {lv : List Nat} {o : Option R} (lv' : List Nat) (h : sameL lv lv' = true := by kernel_rfl)
    (h1 : AnyO P f N m all st H0 lv' k T U H E o) : AnyO P f N m all st H0 lv k T U H E o := fun r hr φ0 I0 w0 φ I w a b cs A listed fuel Q hM =>
  h1 r hr φ0 I0 w0 φ I w a b cs A listed fuel Q
    ⟨hM.rel0, hM.rel, hM.tr, hM.tu, hM.le, hM.tm, hM.stk, hM.size, fun j hj => by rw [← sameL_iff h]; exact hM.lst j hj, hM.early, fun p hp hc => hM.out p hp ((sameL_iff h _).2 hc), hM.one, hM.dist⟩

section
variable {R X : Type} {E : R → V × List Blk} {A : X → Option R} {P : Program} {f : FuncId} {N m : Nat} {T U : Tm} {H H0 : List Blk} {k : List VI} {all : Array Oper} {st : List (Nat × Nat)} {lv : List Nat}
theorem bind_carry {x y c : Int} {o : Option X} : (gcarry x y c o).bind A = gcarry x y c (o.bind A) := by unfold gcarry; cases ((decide (0 ≤ x) && decide (0 ≤ y)) && (decide (0 ≤ c) && decide (c ≤ 1))) <;> rfl
theorem bCarry {x y c : Int} {o : Option X} (h : ((decide (0 ≤ x) && decide (0 ≤ y)) && (decide (0 ≤ c) && decide (c ≤ 1))) = true → GoesO P f N m k T H E (o.bind A)) : GoesO P f N m k T H E ((gcarry x y c o).bind A) := by
  rw [bind_carry]
  exact oGuard h
theorem dCarry {x y c : Int} {o : Option X} (h : ((decide (0 ≤ x) && decide (0 ≤ y)) && (decide (0 ≤ c) && decide (c ≤ 1))) = true → AnyO P f N m all st H0 lv k T U H E (o.bind A)) : AnyO P f N m all st H0 lv k T U H E ((gcarry x y c o).bind A) := by
  rw [bind_carry]
  exact aGuard h
theorem bind_le {x y : Int} {o : Option X} : (bif decide (x ≤ y) then o else none : Option X).bind A = bif decide (x ≤ y) then o.bind A else none := by cases decide (x ≤ y) <;> rfl
def gle {R : Type} (x y : Int) (k : Option R) : Option R := bif decide (x ≤ y) then k else none
theorem bLe {x y : Int} {o : Option X} (h : x ≤ y → GoesO P f N m k T H E (o.bind A)) : GoesO P f N m k T H E ((gle x y o).bind A) := by
  unfold gle
  rw [bind_le]
  exact oGuard fun hb => h (of_decide_eq_true hb)
theorem dLe {x y : Int} {o : Option X} (h : x ≤ y → AnyO P f N m all st H0 lv k T U H E (o.bind A)) : AnyO P f N m all st H0 lv k T U H E ((gle x y o).bind A) := by
  unfold gle
  rw [bind_le]
  exact aGuard fun hb => h (of_decide_eq_true hb)
end
end Go.VM
namespace Go.VM
section
variable {R : Type} {E : R → V × List Blk} {o : Option R} {P : Program} {f : FuncId} {N m : Nat} {T U : Tm} {H H0 : List Blk} {k : List VI} {all : Array Oper} {st : List (Nat × Nat)} {lv : List Nat}
theorem oP {i : Nat} {q : Oper} {l : List Oper} (v : V) (hp : PureV P q T H v) (h : GoesO P f N m (.ops all (i + 1) l :: k) (tput T q.dst v) H E o) (hw : vwanted T all q = some true := by kernel_rfl) (hN : inN N q.dst = true := by kernel_rfl) : GoesO P f N m (.ops all i (q :: l) :: k) T H E o := oOp v hw hN hp.does h
theorem oQ {i : Nat} {q : Oper} {l : List Oper} {bs : List Nat} (v : V) (hp : Quiet P q T H bs v) (h : GoesO P f N m (.ops all (i + 1) l :: k) (tput T q.dst v) H E o) (hw : vwanted T all q = some true := by kernel_rfl) (hN : inN N q.dst = true := by kernel_rfl) : GoesO P f N m (.ops all i (q :: l) :: k) T H E o := oOp v hw hN hp.does h
theorem oD {i : Nat} {q : Oper} {l : List Oper} {H' : List Blk} {tc : List Nat} (v : V) (hp : Does P q T H v H' tc) (h : GoesO P f N m (.ops all (i + 1) l :: k) (tput T q.dst v) H' E o) (hw : vwanted T all q = some true := by kernel_rfl) (hN : inN N q.dst = true := by kernel_rfl) : GoesO P f N m (.ops all i (q :: l) :: k) T H E o := oOp v hw hN hp h
theorem oSR {id : Nat} {c2 : Code} {all : Array Oper} {l : List Oper} (hl : all.toList = l) (h : GoesO P f N m (.ops all 0 l :: .code c2 :: k) T H E o) : GoesO P f N m (.code (.seq (.region id all false) c2) :: k) T H E o := oSeq (oRegion hl h)
theorem aQ (i : Nat) (bs : List Nat) {q : Oper} (v : V) (hi : all[i]? = some q) (hp : Quiet P q U H0 bs v) (h : AnyO P f N m all st H0 (i :: lv) k (tput T q.dst v) (tput U q.dst v) H E o) (hun : lv.contains i = false := by kernel_rfl) (hpre : predsV all lv q = true := by kernel_rfl) (hfree : freeV all lv i q = true := by kernel_rfl) (hsel : Region.noSelect all = true := by kernel_rfl) (hN : inN N q.dst = true := by kernel_rfl) (hw : vwanted T all q = some true := by kernel_rfl)
    (hst : takesV all st lv i bs = true := by kernel_rfl) : AnyO P f N m all st H0 lv k T U H E o := aTakeL v hi hun hpre hfree hsel hN hw hst hp h
theorem aP (i : Nat) {q : Oper} (v : V) (hi : all[i]? = some q) (hp : PureV P q U H0 v) (h : AnyO P f N m all st H0 (i :: lv) k (tput T q.dst v) (tput U q.dst v) H E o) (hun : lv.contains i = false := by kernel_rfl) (hpre : predsV all lv q = true := by kernel_rfl) (hfree : freeV all lv i q = true := by kernel_rfl) (hsel : Region.noSelect all = true := by kernel_rfl) (hN : inN N q.dst = true := by kernel_rfl) (hw : vwanted T all q = some true := by kernel_rfl)
    (hst : takesV all st lv i [] = true := by kernel_rfl) : AnyO P f N m all st H0 lv k T U H E o := aTakeL v hi hun hpre hfree hsel hN hw hst (hp.quiet []) h
end
end Go.VM
namespace Go.VM
set_option linter.unusedVariables false
set_option linter.unusedSimpArgs false

def valR (vs : List Value) : List (List D) := vs.map fun v => [D.val v]
theorem valR_len (vs : List Value) : (valR vs).length = vs.length := by simp [valR]

/-- A step on a view, told of what is viewed. -/
theorem Turn.around {φ φv φ1 φ2 : List Plc} {I I1 : Nat → Prop} {w w1 : World} (l1 : LE φ φv) (o1 : ∀ (b : Nat) (l : Plc) (x : Nat), φv[b]? = some l → l.owns x → ∃ (b0 : Nat) (l0 : Plc), φ[b0]? = some l0 ∧ l0.owns x) (t : Turn φv I w φ1 I1 w1) (l2 : LE φ1 φ2)
    (o2 : ∀ (b : Nat) (l : Plc) (x : Nat), φ2[b]? = some l → l.owns x → (∃ (b0 : Nat) (l0 : Plc), φ1[b0]? = some l0 ∧ l0.owns x) ∨ ∃ (b0 : Nat) (l0 : Plc), φ[b0]? = some l0 ∧ l0.owns x) : Turn φ I w φ2 I1 w1 where
  os := t.os
  tape := t.tape
  output := t.output
  drawn := t.drawn
  size := t.size
  frame g hg hno := t.frame g hg fun b l hb ho => by
    obtain ⟨b0, l0, h1, h2⟩ := o1 b l g hb ho
    exact hno b0 l0 h1 h2
  same := t.same
  sub := t.sub
  le := (l1.trans t.le).trans l2
  fresh b l x hb ho := by
    rcases o2 b l x hb ho with ⟨b0, l0, h1, h2⟩ | h
    · rcases t.fresh b0 l0 x h1 h2 with h | ⟨b1, l1', h3, h4⟩
      · exact .inl h
      · exact .inr (o1 b1 l1' x h3 h4)
    · exact .inr h
  immNew x hx := by
    rcases t.immNew x hx with h | h | ⟨b, l, h1, h2⟩
    · exact .inl h
    · exact .inr (.inl h)
    · exact .inr (.inr (o1 b l x h1 h2))

section
variable {H : List Blk} {φ : List Plc} {I : Nat → Prop} {w : World}

theorem LE.set {b : Nat} {l l' : Plc} (hb : φ[b]? = some l) (h : PlcLE l l') : LE φ (φ.set b l') := fun b' l0 h0 => by
  by_cases he : b = b'
  · subst he
    rw [hb] at h0
    cases h0
    exact ⟨l', by simp [(List.getElem?_eq_some_iff.1 hb).1], h⟩
  · exact ⟨l0, by rw [get_set_ne _ _ _ _ he]; exact h0, .refl _⟩

/-- A block is told anew, over no more than it has. -/
theorem Rel.less (hR : Rel H φ I w) {b : Nat} {k' : Blk} {l l' : Plc} (hb : φ[b]? = some l) (hle : PlcLE l l') (ho : ∀ x, l'.owns x → l.owns x) (hbr : BR (φ.set b l') I w k' l') : Rel (H.set b k') (φ.set b l') I w := by
  have hblt : b < φ.length := (List.getElem?_eq_some_iff.1 hb).1
  have hbH : b < H.length := by rw [← hR.len]; exact hblt
  refine hR.step b (by simp [hR.len]) (LE.set hb hle) (fun _ h => h) (fun _ _ => rfl) (fun b' k0 l0 hk hl => ?_) (fun b' l0 x h0 hx => ?_) hR.imm
  · by_cases he : b = b'
    · subst he
      simp [hbH] at hk
      simp [hblt] at hl
      subst hk hl
      exact .inr hbr
    · rw [get_set_ne _ _ _ _ he] at hk hl
      exact .inl ⟨hk, hl, fun _ _ => ⟨rfl, fun h => h⟩⟩
  · by_cases he : b = b'
    · subst he
      simp [hblt] at h0
      subst h0
      exact .inl ⟨l, hb, ho x hx⟩
    · rw [get_set_ne _ _ _ _ he] at h0
      exact .inl ⟨l0, h0, hx⟩
/-- A block is let go. -/
theorem Rel.kill (hR : Rel H φ I w) {b : Nat} {l : Plc} (hb : φ[b]? = some l) : Rel (H.set b .dead) (φ.set b .dead) I w := hR.less hb (.dead _) (fun _ h => h.elim) (.dead _ rfl)

theorem deep_open (hR : Rel H φ I w) {b isz : Nat} {xss : List (Option (List (List D)))} (hk : H[b]? = some (.deep isz xss)) :
    ∃ (vs : List Value) (gs : List (Option Nat)) (φv : List Plc), Rel (H.set b (.sl 1 (valR vs) false)) φv I w ∧ Pool I w isz xss vs gs ∧ LE φ φv ∧ LE φv φ ∧ φv.length = φ.length ∧ (∀ b', b' ≠ b → φv[b']? = φ[b']?) ∧
      (∀ x, some x ∈ gs → ∃ l, φ[b]? = some l ∧ l.owns x) ∧ (∀ x, some x ∈ gs → ∀ (b' : Nat) (l : Plc), φv[b']? = some l → ¬ l.owns x) ∧ (∀ (l : Plc) (x : Nat), φv[b]? = some l → l.owns x → ∃ l0, φ[b]? = some l0 ∧ l0.owns x) := by
  have hbH := (List.getElem?_eq_some_iff.1 hk).1
  have hblt : b < φ.length := by rw [hR.len]; exact hbH
  have hφ := List.getElem?_eq_getElem hblt
  have hbl := hR.blk b _ _ hk hφ
  generalize φ[b] = l at hbl hφ
  cases hbl with
  | deepVirt =>
    refine ⟨[], [], φ, ?_, ⟨rfl, rfl, by simp, by simp, by simp, by simp, by simp⟩, LE.refl φ, LE.refl φ, rfl, fun _ _ => rfl, by simp, by simp, fun l x hl ho => ⟨l, hl, ho⟩⟩
    have := hR.less (k' := .sl 1 (valR []) false) hφ (.refl _) (fun _ h => h) (.virt 1 false)
    rw [set_same hφ] at this
    exact this
  | deep _ _ vs g δ n gs hb hp hng =>
    have hlen : (valR vs).length = xss.length := by rw [valR_len, hp.len1]
    refine ⟨vs, gs, φ.set b (.at g δ 1 xss.length n []), ?_, hp, LE.set hφ (.same _ _ _ _ _ _ _), ?_, by simp, fun b' hb' => get_set_ne _ _ _ _ (Ne.symm hb'), fun x hx => ⟨_, hφ, owns_at.2 (.inr hx)⟩, fun x hx b' l hl ho => ?_, fun l x hl ho => ?_⟩
    · refine hR.less hφ (.same _ _ _ _ _ _ _) (fun x h => owns_at.2 (.inl h)) ?_
      rw [← hlen]
      exact SlAt.br hb
    · have := LE.set (φ := φ.set b (.at g δ 1 xss.length n [])) (b := b) (l := .at g δ 1 xss.length n []) (l' := .at g δ 1 xss.length n gs) (by simp [hblt]) (.same _ _ _ _ _ _ _)
      rw [List.set_set, set_same hφ] at this
      exact this
    · by_cases he : b = b'
      · subst he
        simp [hblt] at hl
        subst hl
        have : g = x := ho
        exact hng (this ▸ hx)
      · rw [get_set_ne _ _ _ _ he] at hl
        exact he (hR.inj b b' _ l x hφ hl (owns_at.2 (.inr hx)) ho)
    · simp [hblt] at hl
      subst hl
      exact ⟨_, hφ, owns_at.2 (.inl ho)⟩

theorem deep_close (hR : Rel H φ I w) {b isz : Nat} {xss : List (Option (List (List D)))} {vs : List Value} {gs : List (Option Nat)} (hk : H[b]? = some (.sl 1 (valR vs) false)) (hp : Pool I w isz xss vs gs) (hno : ∀ x, some x ∈ gs → ∀ (b' : Nat) (l : Plc), φ[b']? = some l → ¬ l.owns x) :
    ∃ φ', Rel (H.set b (.deep isz xss)) φ' I w ∧ LE φ φ' ∧ φ'.length = φ.length ∧ (∀ b', b' ≠ b → φ'[b']? = φ[b']?) ∧ (∀ (l : Plc) (x : Nat), φ'[b]? = some l → l.owns x → (∃ l0, φ[b]? = some l0 ∧ l0.owns x) ∨ some x ∈ gs) := by
  have hbH := (List.getElem?_eq_some_iff.1 hk).1
  have hblt : b < φ.length := by rw [hR.len]; exact hbH
  have hφ := List.getElem?_eq_getElem hblt
  have hbl := hR.blk b _ _ hk hφ
  generalize φ[b] = l at hbl hφ
  generalize hV : valR vs = V at hbl
  have hVl : V.length = xss.length := by rw [← hV, valR_len, hp.len1]
  cases hbl with
  | virt =>
    have hx0 : xss = [] := List.eq_nil_of_length_eq_zero (by simpa using hVl.symm)
    subst hx0
    refine ⟨φ, ?_, LE.refl φ, rfl, fun _ _ => rfl, fun l x h1 h2 => .inl ⟨l, h1, h2⟩⟩
    have := hR.less (k' := .deep isz []) hφ (.refl _) (fun _ h => h) (.deepVirt isz)
    rw [set_same hφ] at this
    exact this
  | sl _ _ _ g δ arr e hg hn hlen hc hz hI =>
    have hat : SlAt I w 1 (valR vs) false g δ arr.size := by rw [hV]; exact ⟨arr, e, hg, rfl, hn, hlen, hc, hz, hI⟩
    have hng : some g ∉ gs := fun h => hno g h b _ hφ rfl
    refine ⟨φ.set b (.at g δ 1 xss.length arr.size gs), ?_, LE.set hφ (by rw [hVl]; exact .same _ _ _ _ _ _ _), by simp, fun b' hb' => get_set_ne _ _ _ _ (Ne.symm hb'), fun l x h1 h2 => ?_⟩
    · refine ⟨by simp [hR.len], fun b' k0 l0 hk0 hl0 => ?_, fun b1 b2 l1 l2 x h1 h2 o1 o2 => ?_, hR.imm⟩
      · by_cases he : b = b'
        · subst he
          simp [hbH] at hk0
          simp [hblt] at hl0
          subst hk0 hl0
          exact .deep isz xss vs g δ arr.size gs hat hp hng
        · rw [get_set_ne _ _ _ _ he] at hk0 hl0
          exact (hR.blk b' k0 l0 hk0 hl0).mono (LE.set hφ (by rw [hVl]; exact .same _ _ _ _ _ _ _)) (fun _ h => h) (fun _ _ => rfl) fun _ _ => ⟨rfl, fun h => h⟩
      · by_cases e1 : b = b1
        · by_cases e2 : b = b2
          · omega
          · subst e1
            simp [hblt] at h1
            subst h1
            rw [get_set_ne _ _ _ _ e2] at h2
            rcases owns_at.1 o1 with rfl | hx
            · exact hR.inj b b2 _ l2 g hφ h2 rfl o2
            · exact (hno x hx b2 l2 h2 o2).elim
        · rw [get_set_ne _ _ _ _ e1] at h1
          by_cases e2 : b = b2
          · subst e2
            simp [hblt] at h2
            subst h2
            rcases owns_at.1 o2 with rfl | hx
            · exact hR.inj b1 b l1 _ g h1 hφ o1 rfl
            · exact (hno x hx b1 l1 h1 o1).elim
          · rw [get_set_ne _ _ _ _ e2] at h2
            exact hR.inj b1 b2 l1 l2 x h1 h2 o1 o2
    · simp [hblt] at h1
      subst h1
      rcases owns_at.1 h2 with rfl | hx
      · exact .inl ⟨_, hφ, rfl⟩
      · exact .inr hx

/-- A block's slice, as an inner row. -/
theorem ref_inner (hR : Rel H φ I w) {b isz : Nat} {xs : List (List D)} {v : Value} (hk : H[b]? = some (.sl isz xs false)) (hx : VR φ I w (.ref b xs.length 0 xs.length) v) :
    ∃ go, Inner I w isz xs go v ∧ ∀ x, go = some x → ¬ I x ∧ x < w.heap.size ∧ ∃ l, φ[b]? = some l ∧ l.owns x := by
  have hbH := (List.getElem?_eq_some_iff.1 hk).1
  have hblt : b < φ.length := by rw [hR.len]; exact hbH
  have hφ := List.getElem?_eq_getElem hblt
  have hbl := hR.blk b _ _ hk hφ
  generalize φ[b] = l at hbl hφ
  obtain ⟨m, hm⟩ : ∃ m, m = xs.length := ⟨_, rfl⟩
  rw [← hm] at hx
  cases hx with
  | ref b L off len g δ esz n cap hb' h1 h2 h3 h4 =>
    rw [hφ] at hb'
    cases hb'
    have esame : esz = isz := by cases hbl; rfl
    subst esame
    obtain ⟨e1, e2, hat⟩ := hbl.slAt
    have hnI : ¬ I g := by
      obtain ⟨_, _, _, _, _, _, _, _, hI⟩ := hat
      exact fun h => by have := hI.2 h; cases this
    subst hm
    refine ⟨some g, ?_, fun x hx => ?_⟩
    · have := Inner.row xs g δ cap n hat h2 (by simpa using h4)
      simpa using this
    · cases hx
      exact ⟨hnI, hat.lt, _, hφ, owns_at.2 (.inl rfl)⟩
  | refZ b L off g δ esz n a hb' h =>
    rw [hφ] at hb'
    cases hb'
    have hx0 : xs = [] := List.eq_nil_of_length_eq_zero hm.symm
    subst hx0
    have esame : esz = isz := by cases hbl; rfl
    subst esame
    obtain ⟨e1, e2, hat⟩ := hbl.slAt
    have hnI : ¬ I g := by
      obtain ⟨_, _, _, _, _, _, _, _, hI⟩ := hat
      exact fun h => by have := hI.2 h; cases this
    refine ⟨some g, .zero a g δ n hat, fun x hx => ?_⟩
    cases hx
    exact ⟨hnI, hat.lt, _, hφ, owns_at.2 (.inl rfl)⟩
  | virt =>
    have hx0 : xs = [] := List.eq_nil_of_length_eq_zero hm.symm
    subst hx0
    exact ⟨none, .nil, fun x hx => by cases hx⟩
  | refStale b L off len loc a n c hb' hs =>
    rw [hφ] at hb'
    cases hb'
    cases hbl with
    | virt => exact hs.elim
    | sl => simp only [Plc.stale] at hs; omega
end
end Go.VM
namespace Go.VM
set_option linter.unusedVariables false
set_option linter.unusedSimpArgs false

def dp {α : Type} (enc : α → List D) (x : List α) : Option (List (List D)) := some (x.map enc)

section
variable {H : List Blk} {φ : List Plc} {I : Nat → Prop} {w : World}
/-- A block more, without a step. -/
theorem Rel.add (hR : Rel H φ I w) {k : Blk} {l : Plc} (hbr : BR (φ ++ [l]) I w k l) (hno : ∀ x, l.owns x → ∀ (b' : Nat) (l' : Plc), φ[b']? = some l' → ¬ l'.owns x) : Rel (H ++ [k]) (φ ++ [l]) I w := by
  have hlen : φ.length = H.length := hR.len
  refine ⟨by simp [hlen], fun b k' l' hk hl => ?_, fun b1 b2 l1 l2 x h1 h2 o1 o2 => ?_, hR.imm⟩
  · rcases Nat.lt_or_ge b H.length with hlt | hge
    · rw [List.getElem?_append_left hlt] at hk
      rw [List.getElem?_append_left (by omega)] at hl
      exact (hR.blk b k' l' hk hl).mono (LE.append φ [l]) (fun _ h => h) (fun _ _ => rfl) fun _ _ => ⟨rfl, fun h => h⟩
    · have : b = H.length := by have := (List.getElem?_eq_some_iff.1 hk).1; simp at this; omega
      subst this
      rw [List.getElem?_append_right (Nat.le_refl _)] at hk
      rw [List.getElem?_append_right (by omega)] at hl
      simp at hk
      simp [hlen] at hl
      subst hk hl
      exact hbr
  · have split : ∀ (b : Nat) (l0 : Plc), (φ ++ [l])[b]? = some l0 → (b < φ.length ∧ φ[b]? = some l0) ∨ (b = φ.length ∧ l0 = l) := fun b l0 h => by
      rcases Nat.lt_or_ge b φ.length with hlt | hge
      · rw [List.getElem?_append_left hlt] at h; exact .inl ⟨hlt, h⟩
      · rw [List.getElem?_append_right hge] at h
        have hb : b - φ.length = 0 := by have := (List.getElem?_eq_some_iff.1 h).1; simp at this; omega
        rw [hb] at h
        simp at h
        exact .inr ⟨by omega, h.symm⟩
    rcases split b1 l1 h1 with ⟨e1, g1⟩ | ⟨e1, rfl⟩
    · rcases split b2 l2 h2 with ⟨e2, g2⟩ | ⟨e2, rfl⟩
      · exact hR.inj b1 b2 l1 l2 x g1 g2 o1 o2
      · exact (hno x o2 b1 l1 g1 o1).elim
    · rcases split b2 l2 h2 with ⟨e2, g2⟩ | ⟨e2, rfl⟩
      · exact (hno x o1 b2 l2 g2 o2).elim
      · omega
theorem TR.view {T : Tm} {a : Act} {φ' : List Plc} (hT : TR φ I w T a) (h : LE φ φ') : TR φ' I w T a := fun t => (hT t).mono h (fun _ h => h) (fun _ _ => rfl)
theorem TR.val {T : Tm} {a : Act} {k : Nat} {v : V} (hT : TR φ I w T a) (h : VR φ I w v (a.tmps.getD k undef)) (hv : v.one = true) : TR φ I w ((k, .d (.val (a.tmps.getD k undef))) :: T) a := fun t => by
  simp only [get]
  cases hb : Nat.beq t k with
  | true =>
    have := Nat.eq_of_beq_eq_true hb
    subst this
    exact .d _ _ (.val _ (h.one hv))
  | false => exact hT t
theorem VR.val_inv {v : Value} {c : Value} (h : VR φ I w (.d (.val v)) c) : c = v := by
  cases h with
  | d _ _ h => cases h; rfl
theorem valR_get {vs : List Value} {i : Nat} {v : Value} (h : vs[i]? = some v) : (valR vs)[i]? = some [D.val v] := by simp [valR, h]
theorem get_dp {α : Type} {enc : α → List D} {xs : List (List α)} {i : Nat} {a : List α} (h : xs[i]? = some a) : (xs.map (dp enc))[i]? = some (some (a.map enc)) := by simp [dp, h]
end

section
variable {P : Program} {T : Tm} {H : List Blk} {dst : Option Tmp} {type : TypeId} {pos : String} {after : Array Edge} {guard : Option (Nat × Bool)}

theorem p_view {op : Oper} {v : V} {b isz : Nat} {xss : List (Option (List (List D)))} (hk : H[b]? = some (.deep isz xss)) (hp : ∀ vs : List Value, vs.length = xss.length → PureV P op T (H.set b (.sl 1 (valR vs) false)) v) : PureV P op T H v := fun φ I w a hR hT => by
  obtain ⟨vs, gs, φv, hRv, hpool, l1, l2, _⟩ := deep_open hR hk
  obtain ⟨c, h1, h2⟩ := hp vs hpool.len1 φv I w a hRv (hT.view l1)
  exact ⟨c, h1, h2.mono l2 (fun _ h => h) (fun _ _ => rfl)⟩
theorem k_lenDeep {α : Type} {enc : α → List D} {t : TypeId} {x : Operand} {e : TypeId} {isz : Nat} (b : Nat) (xs : List (List α)) (hx : ev T x = .ref b xs.length 0 xs.length := by kernel_rfl) (hk : H[b]? = some (.deep isz (xs.map (dp enc))) := by kernel_rfl) (hu : P.underlying t = some (.slice e)) :
    PureV P ⟨dst, .call ⟨.builtin .len, #[x], #[t]⟩, type, pos, after, guard⟩ T H (.d (.int .i64 xs.length)) := by
  have hb := (List.getElem?_eq_some_iff.1 hk).1
  exact p_view hk fun vs hl => p_lenRef hx (xs := valR vs) (esz := 1) (fro := false) (by simp [hb]) (by rw [valR_len, hl]; simp) hu
theorem k_idxDeep {α : Type} {t e : TypeId} {x y : Operand} {k : IntKind} {i : Int} {isz : Nat} {z : Value} {bytes : Nat} (b : Nat) (xs : List (List α)) {yss : List (Option (List (List D)))} {a : List α} (hx : ev T x = .ref b xs.length 0 xs.length := by kernel_rfl) (hy : ev T y = .d (.int k i) := by kernel_rfl) (hk : H[b]? = some (.deep isz yss) := by kernel_rfl) (hl : yss.length = xs.length)
    (hu : P.underlying t = some (.slice e)) (hi : TyI P e z 1 bytes) (h0 : 0 ≤ i) (he : xs[i.toNat]? = some a) : PureV P ⟨dst, .indexAddr t x y, type, pos, after, guard⟩ T H (.eptr b xs.length i.toNat 0) := by
  have hb := (List.getElem?_eq_some_iff.1 hk).1
  have hlt := (List.getElem?_eq_some_iff.1 he).1
  exact p_view hk fun vs hv => p_idxRef hx hy (xs := valR vs) (fro := false) (by simp [hb]) (by rw [valR_len, hv, hl]) hu hi h0 (by omega) (Nat.zero_add _)

theorem list_push_set {α : Type} (l : List α) (x y : α) : (l ++ [x]).set l.length y = l ++ [y] := by
  apply List.ext_getElem?
  intro i
  by_cases h : i < l.length
  · rw [List.getElem?_set_ne (by omega), List.getElem?_append_left h, List.getElem?_append_left h]
  · by_cases h2 : i = l.length
    · subst h2; simp
    · rw [List.getElem?_eq_none (by simp; omega), List.getElem?_eq_none (by simp; omega)]

/-- A row of one slice, which takes its row with it. -/
theorem k_buildDeep {α : Type} {enc : α → List D} {t e : TypeId} {isz bytes : Nat} {z : Value} {y : Nat} {H' : List Blk} (bk : Nat) (xs : List α) (hu : P.underlying t = some (.slice e)) (hi : TyI P e z 1 bytes) (hy : get T y = .ref bk xs.length 0 xs.length := by kernel_rfl)
    (hk : H[bk]? = some (.sl isz (xs.map enc) false) := by kernel_rfl) (hH : H.set bk .dead ++ [.deep isz (([xs] : List (List α)).map (dp enc))] = H' := by kernel_rfl) : Does P ⟨dst, .buildSlice t 1 #[(0, .tmp y)], type, pos, after, guard⟩ T H (.ref H.length 1 0 1) H' [bk] := fun φ I w a hR hT => by
  subst hH
  have hbk := (List.getElem?_eq_some_iff.1 hk).1
  have hx : VR φ I w (.ref bk (xs.map enc).length 0 (xs.map enc).length) (a.tmps.getD y undef) := by
    have := hT y
    rw [hy] at this
    rw [map_len enc xs]
    exact this
  obtain ⟨v, hv⟩ : ∃ v, v = a.tmps.getD y undef := ⟨_, rfl⟩
  have hT2 := hT.val hx rfl
  rw [← hv] at hT2 hx
  have hev : ev ((y, V.d (.val v)) :: T) (.tmp y) = .d (.val v) := by simp [ev, get]
  have hb := k_buildSlice (P := P) (T := (y, V.d (.val v)) :: T) (H := H) (dst := dst) (type := type) (pos := pos) (after := after) (guard := guard) (len := 1) (parts := #[(0, .tmp y)]) [[D.val v]] hu hi rfl (by
    show (vfill _ _ [(0, ev ((y, V.d (.val v)) :: T) (.tmp y))]).map (List.map nl) = _
    rw [hev]
    rfl) rfl
  obtain ⟨φ1, I1, w1, c, hrun, ht, hR1, hvc, hkp⟩ := hb φ I w a hR hT2
  have hl1 : H.length = φ.length := hR.len.symm
  obtain ⟨l, hl⟩ : ∃ l, φ[bk]? = some l := ⟨_, List.getElem?_eq_getElem (by omega)⟩
  have hl1' := (hkp bk l (by simp) hl).1
  obtain ⟨go, hin, hgo⟩ := ref_inner hR1 (b := bk) (by rw [List.getElem?_append_left hbk]; exact hk) (hx.turn ht)
  have hR2 := hR1.kill hl1'
  have hne : bk ≠ H.length := by omega
  have hno : ∀ x, some x ∈ [go] → ∀ (b' : Nat) (l' : Plc), (φ1.set bk .dead)[b']? = some l' → ¬ l'.owns x := fun x hx' b' l' h1 h2 => by
    rw [List.mem_singleton] at hx'
    obtain ⟨_, _, l0, h3, h4⟩ := hgo x hx'.symm
    by_cases he : bk = b'
    · subst he
      simp [(List.getElem?_eq_some_iff.1 hl1').1] at h1
      subst h1
      exact h2
    · rw [get_set_ne _ _ _ _ he] at h1
      exact he (hR1.inj bk b' l0 l' x h3 h1 h4 h2)
  obtain ⟨φ3, hR3, l3, len3, k3, o3⟩ := deep_close hR2 (b := H.length) (isz := isz) (xss := [some (xs.map enc)]) (vs := [v]) (gs := [go]) (by rw [get_set_ne _ _ _ _ hne]; simp [valR])
    ⟨rfl, rfl, fun v' h => by rw [List.mem_singleton] at h; subst h; exact hx.one rfl, fun i j x h1 h2 => by
      have h3 := (List.getElem?_eq_some_iff.1 h1).1
      have h4 := (List.getElem?_eq_some_iff.1 h2).1
      simp at h3 h4; omega, fun x h => (hgo x (by rw [List.mem_singleton] at h; exact h.symm)).1, fun x h => (hgo x (by rw [List.mem_singleton] at h; exact h.symm)).2.1, fun i xs' v' go' h1 h2 h3 => by
      have h4 := (List.getElem?_eq_some_iff.1 h1).1
      have : i = 0 := by simp at h4; omega
      subst this
      simp at h1 h2 h3
      subst h1 h2 h3
      exact hin⟩ hno
  have hLE : LE φ1 φ3 := (LE.set hl1' (.dead _)).trans l3
  refine ⟨φ3, I1, w1, c, hrun, Turn.around (LE.refl φ) (fun b l x h1 h2 => ⟨b, l, h1, h2⟩) ht hLE (fun b l x h1 h2 => ?_), ?_, hvc.mono hLE (fun _ h => h) (fun _ _ => rfl), fun b' l' hb' h1 => ?_⟩
  · by_cases he : b = H.length
    · subst he
      rcases o3 l x h1 h2 with ⟨l0, h3, h4⟩ | hx'
      · rw [get_set_ne _ _ _ _ hne] at h3
        exact .inl ⟨_, l0, h3, h4⟩
      · rw [List.mem_singleton] at hx'
        obtain ⟨_, _, l0, h3, h4⟩ := hgo x hx'.symm
        exact .inl ⟨bk, l0, h3, h4⟩
    · rw [k3 b he] at h1
      by_cases he2 : bk = b
      · subst he2
        simp [(List.getElem?_eq_some_iff.1 hl1').1] at h1
        subst h1
        exact h2.elim
      · rw [get_set_ne _ _ _ _ he2] at h1
        exact .inl ⟨b, l, h1, h2⟩
  · have e : ((H ++ [Blk.sl 1 [[D.val v]] false]).set bk .dead).set H.length (.deep isz [some (xs.map enc)]) = H.set bk .dead ++ [.deep isz (([xs] : List (List α)).map (dp enc))] := by
      rw [List.set_append_left _ _ hbk]
      have := list_push_set (H.set bk .dead) (Blk.sl 1 [[D.val v]] false) (.deep isz [some (xs.map enc)])
      rw [List.length_set] at this
      rw [this]
      rfl
    rw [← e]
    exact hR3
  · have hb'' : b' ≠ bk := fun e => hb' (by simp [e])
    have hlt : b' < H.length := by rw [hl1]; exact (List.getElem?_eq_some_iff.1 h1).1
    obtain ⟨h2, h3⟩ := hkp b' l' (by simp) h1
    exact ⟨by rw [k3 b' (by omega), get_set_ne _ _ _ _ (Ne.symm hb'')]; exact h2, h3⟩
end
end Go.VM
