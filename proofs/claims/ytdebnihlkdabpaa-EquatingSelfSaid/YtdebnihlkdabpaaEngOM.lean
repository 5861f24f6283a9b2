/- The single steps, in the form in which the printed proofs use them: all that can be computed is left to the kernel. -/
import Derived.Test.YtdebnihlkdabpaaEngMM
import Derived.Laws.StructEq
import Derived.Laws.Cover3
import Derived.Below
import Derived.DataReads
import Derived.Laws.Strings
import Derived.Laws.Externs
set_option linter.unusedVariables false
set_option linter.unusedSimpArgs false
namespace Go.VM

def isBox (H : List Blk) (b : Nat) : Bool := match H[b]? with | some (.box _) => true | _ => false
def boxCells (H : List Blk) (b : Nat) : List V := match H[b]? with | some (.box cells) => cells | _ => []
theorem isBox_spec {H : List Blk} {b : Nat} (h : isBox H b = true) : H[b]? = some (.box (boxCells H b)) := by
  unfold isBox at h
  unfold boxCells
  split at h
  · next c hc => rw [hc]
  · cases h
def cellAt (H : List Blk) (b off : Nat) : Option V := bif isBox H b then (boxCells H b)[off]? else none
def cellsAt (H : List Blk) (b off sz : Nat) : Option (List V) := bif isBox H b && Nat.ble (off + sz) (boxCells H b).length then some (((boxCells H b).drop off).take sz) else none
def aggOf : V → Option (List V)
  | .agg cs => some cs
  | _ => none
theorem aggOf_spec {v : V} {cs : List V} (h : aggOf v = some cs) : v = .agg cs := by
  cases v <;> cases h; rfl
def tupOf : V → Option (List V)
  | .tuple cs => some cs
  | _ => none
theorem tupOf_spec {v : V} {cs : List V} (h : tupOf v = some cs) : v = .tuple cs := by
  cases v <;> cases h; rfl
def gmax (p q : Int) : Int := if q > p then q else p
def gmin (p q : Int) : Int := if q < p then q else p

variable {P : Program} {T : Tm} {H : List Blk} {dst : Option Tmp} {type : TypeId} {pos : String} {after : Array Edge} {guard : Option (Nat × Bool)}

theorem k_load {t : TypeId} {x : Operand} (b off : Nat) {d : TypeDesc} {v : V} (hx : ev T x = .ptr b off := by kernel_rfl) (hu : P.underlying t = some d) (hd : aggD d = false := by kernel_rfl) (hv : cellAt H b off = some v := by kernel_rfl) : Quiet P ⟨dst, .load t x, type, pos, after, guard⟩ T H [b] v := by
  unfold cellAt at hv
  cases hb : isBox H b with
  | false => rw [hb] at hv; cases hv
  | true => rw [hb] at hv; exact q_load hx (isBox_spec hb) hu hd hv
theorem k_loadAgg {t : TypeId} {x : Operand} (b off : Nat) {d : TypeDesc} {z : Value} {sz bytes : Nat} {vs : List V} (hx : ev T x = .ptr b off := by kernel_rfl) (hu : P.underlying t = some d) (hd : aggD d = true := by kernel_rfl) (hi : TyI P t z sz bytes) (hv : cellsAt H b off sz = some vs := by kernel_rfl) :
    Quiet P ⟨dst, .load t x, type, pos, after, guard⟩ T H [b] (.agg vs) := by
  unfold cellsAt at hv
  cases hb : isBox H b && Nat.ble (off + sz) (boxCells H b).length with
  | false => rw [hb] at hv; cases hv
  | true =>
    rw [hb] at hv
    obtain ⟨hb1, hb2⟩ := Bool.and_eq_true_iff.1 hb
    have := Nat.le_of_ble_eq_true hb2
    have e := Option.some.inj hv
    refine q_loadAgg hx (isBox_spec hb1) hu hd hi e ?_
    rw [← e]; simp; omega
theorem k_store {t : TypeId} {x y : Operand} (b off : Nat) {vs : List V} {z : Value} {sz bytes : Nat} {H' : List Blk} (hx : ev T x = .ptr b off := by kernel_rfl) (hi : TyI P t z sz bytes) (hv : (ev T y).cells? = some vs := by kernel_rfl) (hok : (isBox H b && (Nat.beq vs.length sz && (vs.all V.one && Nat.ble (off + sz) (boxCells H b).length))) = true := by kernel_rfl)
    (hH : H.set b (.box (vput (boxCells H b) off vs)) = H' := by kernel_rfl) : Does P ⟨dst, .store t x y, type, pos, after, guard⟩ T H .undef H' [b] := by
  obtain ⟨h1, h2⟩ := Bool.and_eq_true_iff.1 hok
  obtain ⟨h3, h4⟩ := Bool.and_eq_true_iff.1 h2
  obtain ⟨h5, h6⟩ := Bool.and_eq_true_iff.1 h4
  subst hH
  exact d_store hx (isBox_spec h1) hi hv (Nat.eq_of_beq_eq_true h3) h5 (Nat.le_of_ble_eq_true h6) rfl
theorem k_fieldAddr {s : TypeId} {x : Operand} {f o2 : Nat} (b off : Nat) {fields : Array Field} {fd : Field} {z : Value} {sz bytes : Nat} (hx : ev T x = .ptr b off := by kernel_rfl) (hu : P.underlying s = some (.struct fields)) (hf : fields[f]? = some fd) (hi : TyI P fd.type z sz bytes)
    (hok : (isBox H b && (!Nat.beq sz 0 && Nat.beq (off + fd.offset) o2)) = true := by kernel_rfl) : PureV P ⟨dst, .fieldAddr s x f, type, pos, after, guard⟩ T H (.ptr b o2) := by
  obtain ⟨h1, h2⟩ := Bool.and_eq_true_iff.1 hok
  obtain ⟨h3, h4⟩ := Bool.and_eq_true_iff.1 h2
  exact p_fieldAddr hx hu hf hi (fun h => by subst h; cases h3) (isBox_spec h1) (Nat.eq_of_beq_eq_true h4)
theorem k_fieldAddrL {s : TypeId} {x : Operand} {f o2 : Nat} (off : Nat) {cells : List D} {fields : Array Field} {fd : Field} {z : Value} {sz bytes : Nat} (hx : ev T x = .lptr cells off := by kernel_rfl) (hu : P.underlying s = some (.struct fields)) (hf : fields[f]? = some fd) (hi : TyI P fd.type z sz bytes)
    (hok : (!Nat.beq sz 0 && Nat.beq (off + fd.offset) o2) = true := by kernel_rfl) : PureV P ⟨dst, .fieldAddr s x f, type, pos, after, guard⟩ T H (.lptr cells o2) := by
  obtain ⟨h3, h4⟩ := Bool.and_eq_true_iff.1 hok
  exact p_fieldAddrL hx hu hf hi (fun h => by subst h; cases h3) (Nat.eq_of_beq_eq_true h4)
theorem k_field {t : TypeId} {x : Operand} {f : Nat} {fields : Array Field} {fd : Field} {d : TypeDesc} {v : V} (hu : P.underlying t = some (.struct fields)) (hf : fields[f]? = some fd) (hu2 : P.underlying fd.type = some d) (hd : aggD d = false)
    (hv : ((aggOf (ev T x)).bind fun cs => cs[fd.offset]?) = some v) : PureV P ⟨dst, .field t x f, type, pos, after, guard⟩ T H v := by
  cases ha : aggOf (ev T x) with
  | none => rw [ha] at hv; cases hv
  | some cs => rw [ha] at hv; exact p_field (aggOf_spec ha) hu hf hu2 hd hv
theorem k_fieldAgg {t : TypeId} {x : Operand} {f : Nat} {vs : List V} {fields : Array Field} {fd : Field} {d : TypeDesc} {z : Value} {sz bytes : Nat} (hu : P.underlying t = some (.struct fields)) (hf : fields[f]? = some fd) (hu2 : P.underlying fd.type = some d) (hd : aggD d = true)
    (hi : TyI P fd.type z sz bytes) (hv : ((aggOf (ev T x)).bind fun cs => bif Nat.ble (fd.offset + sz) cs.length then some ((cs.drop fd.offset).take sz) else none) = some vs) : PureV P ⟨dst, .field t x f, type, pos, after, guard⟩ T H (.agg vs) := by
  cases ha : aggOf (ev T x) with
  | none => rw [ha] at hv; cases hv
  | some cs =>
    rw [ha] at hv
    simp only [Option.bind_some] at hv
    cases hb : Nat.ble (fd.offset + sz) cs.length with
    | false => rw [hb] at hv; cases hv
    | true => rw [hb] at hv; exact p_fieldAgg (aggOf_spec ha) hu hf hu2 hd hi (Option.some.inj hv) (Nat.le_of_ble_eq_true hb)
theorem k_extract {x : Operand} {i : Nat} {v : V} (hv : ((tupOf (ev T x)).bind fun vs => vs[i]?) = some v := by kernel_rfl) : PureV P ⟨dst, .extract x i, type, pos, after, guard⟩ T H v := by
  cases ha : tupOf (ev T x) with
  | none => rw [ha] at hv; cases hv
  | some cs => rw [ha] at hv; exact p_extract (tupOf_spec ha) hv
theorem k_alloc {e : TypeId} {z : Value} {sz bytes : Nat} {H' : List Blk} (hi : TyI P e z sz bytes) (ho : (z.cells.toList.map cv1).all V.one = true := by kernel_rfl) (hH : H ++ [.box (z.cells.toList.map cv1)] = H' := by kernel_rfl) : Does P ⟨dst, .alloc e, type, pos, after, guard⟩ T H (.ptr H.length 0) H' [] := by
  subst hH
  exact d_alloc hi rfl ho
theorem k_box {e : TypeId} {x : Operand} {cells : List V} {H' : List Blk} (hc : (ev T x).cells? = some cells := by kernel_rfl) (ho : cells.all V.one = true := by kernel_rfl) (hH : H ++ [.box cells] = H' := by kernel_rfl) : Does P ⟨dst, .box e x, type, pos, after, guard⟩ T H (.ptr H.length 0) H' [] := by
  subst hH
  exact d_box hc ho
theorem k_buildSlice {t e : TypeId} {len sz bytes : Nat} {parts : Array (Nat × Operand)} {z : Value} (xs : List (List D)) {H' : List Blk} (hu : P.underlying t = some (.slice e)) (hi : TyI P e z sz bytes)
    (hok : (Nat.blt 0 sz && (Nat.ble (len * sz) 16777216 && (Nat.beq xs.length len && xs.all (fun r => r.length == sz)))) = true := by kernel_rfl) (hv : (vfill (fun i => some (i * sz, sz)) (List.replicate (len * sz) .undef) (parts.toList.map fun p => (p.1, ev T p.2))).map (List.map nl) = some (xs.flatten.map V.d) := by kernel_rfl)
    (hH : H ++ [.sl sz xs false] = H' := by kernel_rfl) : Does P ⟨dst, .buildSlice t len parts, type, pos, after, guard⟩ T H (.ref H.length len 0 len) H' [] := by
  obtain ⟨h1, h2⟩ := Bool.and_eq_true_iff.1 hok
  obtain ⟨h3, h4⟩ := Bool.and_eq_true_iff.1 h2
  obtain ⟨h5, h6⟩ := Bool.and_eq_true_iff.1 h4
  subst hH
  obtain ⟨flat, e1, e2⟩ := Option.map_eq_some_iff.1 hv
  exact d_buildSlice hu hi (Nat.le_of_ble_eq_true h1) (Nat.le_of_ble_eq_true h3) e1 e2.symm (Nat.eq_of_beq_eq_true h5) h6
theorem k_make {α : Type} {enc : α → List D} {t e : TypeId} {x y : Operand} {k1 k2 : IntKind} {n : Int} {z : Value} {sz bytes : Nat} (e0 : α) (zd : List D) {H' : List Blk} (hx : ev T x = .d (.int k1 n) := by kernel_rfl) (hy : ev T y = .d (.int k2 n) := by kernel_rfl) (hu : P.underlying t = some (.slice e)) (hi : TyI P e z sz bytes)
    (hok : (Nat.blt 0 sz && (Nat.blt 0 bytes && Nat.beq zd.length sz)) = true := by kernel_rfl) (hzd : z.cells.toList.map cvD = zd.map some := by kernel_rfl) (he : enc e0 = zd := by kernel_rfl) (h0 : 0 ≤ n) (hb : n.toNat * bytes ≤ 140737488355328) (hH : H ++ [.sl sz ((List.replicate n.toNat e0).map enc) false] = H') :
    Does P ⟨dst, .makeSlice t x y, type, pos, after, guard⟩ T H (.ref H.length n.toNat 0 n.toNat) H' [] := by
  obtain ⟨h1, h2⟩ := Bool.and_eq_true_iff.1 hok
  obtain ⟨h3, h4⟩ := Bool.and_eq_true_iff.1 h2
  subst hH
  rw [← map_rep, he]
  have h5 : 1 ≤ bytes := Nat.le_of_ble_eq_true h3
  have h6 : n.toNat * 1 ≤ n.toNat * bytes := Nat.mul_le_mul_left _ h5
  exact d_make hx hy hu hi (Nat.le_of_ble_eq_true h1) hzd (Nat.eq_of_beq_eq_true h4) h0 rfl (by omega) (by omega)
theorem k_append {α : Type} {enc : α → List D} {t t2 e e2 : TypeId} {x y : Operand} {sz bytes : Nat} {z : Value} (b : Nat) (xs ys : List α) {H' : List Blk} (hu : P.underlying t = some (.slice e)) (hu2 : P.underlying t2 = some (.slice e2)) (hi : TyI P e z sz bytes) (hok : (Nat.blt 0 sz && (Nat.blt 0 bytes && Nat.beq z.cells.size sz)) = true := by kernel_rfl)
    (hx : ev T x = .ref b xs.length 0 xs.length := by kernel_rfl) (hk : H[b]? = some (.sl sz (xs.map enc) false) := by kernel_rfl) (hy : Holds H sz (ev T y) (ys.map enc)) (hfit : (xs ++ ys).length * bytes ≤ 140737488355328) (hH : H.set b (.sl sz ((xs ++ ys).map enc) false) = H' := by kernel_rfl) :
    Does P ⟨dst, .call ⟨.builtin .append, #[x, y], #[t, t2]⟩, type, pos, after, guard⟩ T H (.ref b (xs ++ ys).length 0 (xs ++ ys).length) H' [b] := by
  obtain ⟨h1, h2⟩ := Bool.and_eq_true_iff.1 hok
  obtain ⟨h3, h4⟩ := Bool.and_eq_true_iff.1 h2
  subst hH
  have h5 : 1 ≤ bytes := Nat.le_of_ble_eq_true h3
  have h6 : (xs ++ ys).length * 1 ≤ (xs ++ ys).length * bytes := Nat.mul_le_mul_left _ h5
  exact d_append (len := 0) hu hu2 hi (Nat.le_of_ble_eq_true h1) (Nat.eq_of_beq_eq_true h4) hx hk (map_len enc xs) (.inl rfl) hy (map_app enc xs ys) (map_len enc (xs ++ ys)) hfit (by omega)
theorem holdsLit {α : Type} {enc : α → List D} {sz : Nat} (hr : ∀ a, (enc a).length = sz) {v : V} (ys : List α) (h : v = .d (.lit (ys.map enc)) := by kernel_rfl) : Holds H sz v (ys.map enc) := by
  subst h
  exact .lit _ (map_row hr ys)
theorem holdsRef {α : Type} {enc : α → List D} {sz : Nat} {v : V} (b : Nat) (ys : List α) (fro : Bool) (h : v = .ref b ys.length 0 ys.length := by kernel_rfl) (hk : H[b]? = some (.sl sz (ys.map enc) fro) := by kernel_rfl) : Holds H sz v (ys.map enc) := by
  subst h
  exact .ref b _ _ _ _ _ fro hk (map_len enc ys) (by omega) (cut_all _ _ (map_len enc ys))
theorem holdsNil {α : Type} {enc : α → List D} {sz : Nat} {v : V} (h : v = .nilc) : Holds H sz v (([] : List α).map enc) := by
  subst h
  exact .nil
theorem k_idxLit {α : Type} {enc : α → List D} {t e : TypeId} {x y : Operand} {k : IntKind} {i : Int} {z : Value} {sz bytes : Nat} (hr : ∀ a, (enc a).length = sz) (xs : List α) {a : α} (hx : ev T x = .d (.lit (xs.map enc)) := by kernel_rfl) (hy : ev T y = .d (.int k i) := by kernel_rfl) (hu : P.underlying t = some (.slice e)) (hi : TyI P e z sz bytes)
    (h0 : 0 ≤ i) (he : xs[i.toNat]? = some a) : PureV P ⟨dst, .indexAddr t x y, type, pos, after, guard⟩ T H (.lptr (enc a) 0) := p_idxLit hx hy hu hi h0 (map_idx enc he) (hr a)
theorem k_idxRef {α : Type} {enc : α → List D} {t e : TypeId} {x y : Operand} {k : IntKind} {i : Int} {b : Nat} {fro : Bool} {z : Value} {sz bytes : Nat} (xs : List α) {a : α} (hx : ev T x = .ref b xs.length 0 xs.length := by kernel_rfl) (hy : ev T y = .d (.int k i) := by kernel_rfl) (hk : H[b]? = some (.sl sz (xs.map enc) fro) := by kernel_rfl) (hu : P.underlying t = some (.slice e)) (hi : TyI P e z sz bytes)
    (h0 : 0 ≤ i) (he : xs[i.toNat]? = some a) : PureV P ⟨dst, .indexAddr t x y, type, pos, after, guard⟩ T H (.eptr b xs.length i.toNat 0) :=
  p_idxRef hx hy hk (map_len enc xs) hu hi h0 (by have := (List.getElem?_eq_some_iff.1 he).1; omega) (Nat.zero_add _)
theorem k_loadL {t : TypeId} {x : Operand} {cells : List D} (off : Nat) {d : TypeDesc} {v : D} (hx : ev T x = .lptr cells off := by kernel_rfl) (hu : P.underlying t = some d) (hd : aggD d = false := by kernel_rfl) (hv : cells[off]? = some v := by kernel_rfl) : Quiet P ⟨dst, .load t x, type, pos, after, guard⟩ T H [] (.d v) := q_loadL hx hu hd hv
theorem k_loadLAgg {t : TypeId} {x : Operand} {cells : List D} (off : Nat) {d : TypeDesc} {z : Value} {sz bytes : Nat} (vs : List D) {ws : List V} (hx : ev T x = .lptr cells off := by kernel_rfl) (hu : P.underlying t = some d) (hd : aggD d = true := by kernel_rfl) (hi : TyI P t z sz bytes) (hv : (cells.drop off).take sz = vs := by kernel_rfl) (hl : Nat.beq vs.length sz = true := by kernel_rfl) (hw : vs.map .d = ws := by kernel_rfl) :
    Quiet P ⟨dst, .load t x, type, pos, after, guard⟩ T H [] (.agg ws) := by
  subst hw
  exact q_loadLAgg hx hu hd hi hv (Nat.eq_of_beq_eq_true hl)
theorem k_loadE {α : Type} {enc : α → List D} {t : TypeId} {x : Operand} (b off : Nat) {i sz : Nat} (xs : List α) {fro : Bool} {d : TypeDesc} {a : α} {v : D} (hx : ev T x = .eptr b xs.length i off := by kernel_rfl) (hk : H[b]? = some (.sl sz (xs.map enc) fro) := by kernel_rfl) (hu : P.underlying t = some d) (hd : aggD d = false := by kernel_rfl) (he : xs[i]? = some a) (hv : (enc a)[off]? = some v := by kernel_rfl) :
    Quiet P ⟨dst, .load t x, type, pos, after, guard⟩ T H [b] (.d v) := q_loadE hx hk (map_len enc xs) hu hd (map_idx enc he) hv
theorem k_loadEAgg {α : Type} {enc : α → List D} {t : TypeId} {x : Operand} (b off : Nat) {i sz0 : Nat} (xs : List α) {fro : Bool} {d : TypeDesc} {a : α} {z : Value} {sz bytes : Nat} (vs : List D) {ws : List V} (hx : ev T x = .eptr b xs.length i off := by kernel_rfl) (hk : H[b]? = some (.sl sz0 (xs.map enc) fro) := by kernel_rfl) (hu : P.underlying t = some d) (hd : aggD d = true := by kernel_rfl) (hi : TyI P t z sz bytes)
    (he : xs[i]? = some a) (hv : ((enc a).drop off).take sz = vs := by kernel_rfl) (hl : Nat.beq vs.length sz = true := by kernel_rfl) (hw : vs.map .d = ws := by kernel_rfl) : Quiet P ⟨dst, .load t x, type, pos, after, guard⟩ T H [b] (.agg ws) := by
  subst hw
  exact q_loadEAgg hx hk (map_len enc xs) hu hd hi (map_idx enc he) hv (Nat.eq_of_beq_eq_true hl)
theorem k_fieldAddrE {α : Type} {enc : α → List D} {s : TypeId} {x : Operand} {f o2 : Nat} (b off : Nat) {i sz0 : Nat} (xs : List α) {fro : Bool} {a : α} {fields : Array Field} {fd : Field} {z : Value} {sz bytes : Nat} (hx : ev T x = .eptr b xs.length i off := by kernel_rfl) (hk : H[b]? = some (.sl sz0 (xs.map enc) fro) := by kernel_rfl) (he : xs[i]? = some a)
    (hu : P.underlying s = some (.struct fields)) (hf : fields[f]? = some fd) (hi : TyI P fd.type z sz bytes) (hok : (!Nat.beq sz 0 && Nat.beq (off + fd.offset) o2) = true := by kernel_rfl) : PureV P ⟨dst, .fieldAddr s x f, type, pos, after, guard⟩ T H (.eptr b xs.length i o2) := by
  obtain ⟨h3, h4⟩ := Bool.and_eq_true_iff.1 hok
  exact p_fieldAddrE hx hu hf hi (fun h => by subst h; cases h3) hk (map_len enc xs) (List.getElem?_eq_some_iff.1 he).1 (Nat.eq_of_beq_eq_true h4)
theorem k_lenLit {α : Type} {enc : α → List D} {t : TypeId} {x : Operand} {e : TypeId} (xs : List α) (hx : ev T x = .d (.lit (xs.map enc)) := by kernel_rfl) (hu : P.underlying t = some (.slice e)) : PureV P ⟨dst, .call ⟨.builtin .len, #[x], #[t]⟩, type, pos, after, guard⟩ T H (.d (.int .i64 xs.length)) := p_lenLit hx hu (map_len enc xs)
theorem k_lenRef {α : Type} {enc : α → List D} {t : TypeId} {x : Operand} {e : TypeId} (b : Nat) {sz : Nat} (xs : List α) {fro : Bool} (hx : ev T x = .ref b xs.length 0 xs.length := by kernel_rfl) (hk : H[b]? = some (.sl sz (xs.map enc) fro) := by kernel_rfl) (hu : P.underlying t = some (.slice e)) : PureV P ⟨dst, .call ⟨.builtin .len, #[x], #[t]⟩, type, pos, after, guard⟩ T H (.d (.int .i64 xs.length)) :=
  p_lenRef hx hk (map_len enc xs) hu
theorem k_nilCheck {x : Operand} (b off : Nat) (hx : ev T x = .ptr b off := by kernel_rfl) (hb : isBox H b = true := by kernel_rfl) : PureV P ⟨dst, .nilCheck x, type, pos, after, guard⟩ T H (.ptr b off) := p_nilCheck hx (isBox_spec hb)
theorem k_lit {α : Type} {enc : α → List D} {sz : Nat} (b : Nat) (xs : List α) (hk : H[b]? = some (.sl sz (xs.map enc) true) := by kernel_rfl) : ConvR H (.ref b xs.length 0 xs.length) (.d (.lit (xs.map enc))) := .lit b _ 0 _ sz _ _ hk (map_len enc xs) (by omega) (cut_all _ _ (map_len enc xs))
end Go.VM
namespace Go.VM

mutual
inductive EqV (P : Program) : Nat → TypeId → V → V → Bool → Prop
  | int (t : TypeId) (k k' : IntKind) (a b : Int) (hu : P.underlying t = some (.int k')) : EqV P 1 t (.d (.int k a)) (.d (.int k b)) (a == b)
  | bool (t : TypeId) (a b : Bool) (hu : P.underlying t = some .bool) : EqV P 1 t (.d (.bool a)) (.d (.bool b)) (a == b)
  | struct (n : Nat) (t : TypeId) (xs ys : List V) (fs : Array Field) (r : Bool) (hu : P.underlying t = some (.struct fs)) (hp : P.stoodInHeld t = false) (h : EqF P n xs ys fs.toList r) : EqV P (n + 1) t (.agg xs) (.agg ys) r
inductive EqF (P : Program) : Nat → List V → List V → List Field → Bool → Prop
  | nil (n : Nat) (xs ys : List V) : EqF P n xs ys [] true
  | one (n m : Nat) (xs ys : List V) (f : Field) (fs : List Field) (d : TypeDesc) (a b : V) (r1 r2 : Bool) (hn : (f.name == "_") = false) (hu : P.underlying f.type = some d) (hd : aggD d = false) (ha : xs[f.offset]? = some a) (hb : ys[f.offset]? = some b) (hm : Nat.ble m n = true)
      (h1 : EqV P m f.type a b r1) (h2 : EqF P n xs ys fs r2) : EqF P n xs ys (f :: fs) (r1 && r2)
  | agg (n m : Nat) (xs ys : List V) (f : Field) (fs : List Field) (d : TypeDesc) (as bs : List V) (r1 r2 : Bool) (z : Value) (sz bytes : Nat) (hn : (f.name == "_") = false) (hu : P.underlying f.type = some d) (hd : aggD d = true) (hi : TyI P f.type z sz bytes)
      (hl : (Nat.ble (f.offset + sz) xs.length && Nat.ble (f.offset + sz) ys.length) = true) (ha : (xs.drop f.offset).take sz = as) (hb : (ys.drop f.offset).take sz = bs) (hm : Nat.ble m n = true)
      (h1 : EqV P m f.type (.agg as) (.agg bs) r1) (h2 : EqF P n xs ys fs r2) : EqF P n xs ys (f :: fs) (r1 && r2)
end

theorem fieldsOf_eq {P : Program} {t : TypeId} {fs : Array Field} (hu : P.underlying t = some (.struct fs)) : P.fieldsOf t = fs := by simp [Program.fieldsOf, hu]

mutual
theorem EqV.run {P : Program} {n : Nat} {t : TypeId} {x y : V} {r : Bool} : ∀ (h : EqV P n t x y r) {φ : List Plc} {I : Nat → Prop} {w : World} {c c' : Value}, VR φ I w x c → VR φ I w y c' → ∀ (d : Nat), n ≤ d → ∀ w' : World, (Op.equalIn d t c c').run P w' = .ok r w'
  | .int t k k' a b hu, φ, I, w, c, c', hx, hy, d, hd, w' => by
    rw [hx.int_inv, hy.int_inv]
    obtain ⟨d, rfl⟩ : ∃ d', d = d' + 1 := ⟨d - 1, by omega⟩
    exact run_equalIn_int w' d t k k' a b hu
  | .bool t a b hu, φ, I, w, c, c', hx, hy, d, hd, w' => by
    rw [hx.bool_inv, hy.bool_inv]
    obtain ⟨d, rfl⟩ : ∃ d', d = d' + 1 := ⟨d - 1, by omega⟩
    exact run_equalIn_bool w' d t a b hu
  | .struct n t xs ys fs r hu hp h, φ, I, w, c, c', hx, hy, d, hd, w' => by
    obtain ⟨cx, rfl, hA⟩ := VR.agg_inv hx
    obtain ⟨cy, rfl, hB⟩ := VR.agg_inv hy
    obtain ⟨d, rfl⟩ : ∃ d', d = d' + 1 := ⟨d - 1, by omega⟩
    rw [run_equalIn_struct w' d t cx cy (by rw [fieldsOf_eq hu]; exact hu) hp, fieldsOf_eq hu]
    exact EqF.run h hA hB d (by omega) w'
theorem EqF.run {P : Program} {n : Nat} {xs ys : List V} {fs : List Field} {r : Bool} : ∀ (h : EqF P n xs ys fs r) {φ : List Plc} {I : Nat → Prop} {w : World} {cx cy : Array Value}, AllR φ I w xs cx → AllR φ I w ys cy → ∀ (d : Nat), n ≤ d → ∀ w' : World, (Op.eqFields d cx cy fs).run P w' = .ok r w'
  | .nil _ _ _, φ, I, w, cx, cy, hA, hB, d, hd, w' => by simp [Op.eqFields]
  | .one n m xs ys f fs de a b r1 r2 hn hu hde ha hb hm h1 h2, φ, I, w, cx, cy, hA, hB, d, hd, w' => by
    have hlt1 : f.offset < cx.size := by rw [hA.1]; exact (List.getElem?_eq_some_iff.1 ha).1
    have hlt2 : f.offset < cy.size := by rw [hB.1]; exact (List.getElem?_eq_some_iff.1 hb).1
    have e1 := Array.getElem?_eq_getElem hlt1
    have e2 := Array.getElem?_eq_getElem hlt2
    have hr := EqV.run h1 (hA.2 _ _ _ ha e1) (hB.2 _ _ _ hb e2) d (Nat.le_trans (Nat.le_of_ble_eq_true hm) hd) w'
    have hr2 := EqF.run h2 hA hB d hd w'
    have hn' : f.name ≠ "_" := by simpa using hn
    simp only [Op.eqFields, hn', ne_eq, not_false_eq_true, if_true, Sem.run_bind, run_part_one hu hde e1, run_part_one hu hde e2, Result.andThen_ok, hr]
    cases r1
    · simp
    · simpa using hr2
  | .agg n m xs ys f fs de as bs r1 r2 z sz bytes hn hu hde hi hl ha hb hm h1 h2, φ, I, w, cx, cy, hA, hB, d, hd, w' => by
    obtain ⟨hl1, hl2⟩ := Bool.and_eq_true_iff.1 hl
    have e1 := hA.extract (Nat.le_of_ble_eq_true hl1)
    have e2 := hB.extract (Nat.le_of_ble_eq_true hl2)
    rw [ha] at e1
    rw [hb] at e2
    have hr := EqV.run h1 e1 e2 d (Nat.le_trans (Nat.le_of_ble_eq_true hm) hd) w'
    have hr2 := EqF.run h2 hA hB d hd w'
    have hn' : f.name ≠ "_" := by simpa using hn
    simp only [Op.eqFields, hn', ne_eq, not_false_eq_true, if_true, Sem.run_bind, run_part_agg hu hde hi, Result.andThen_ok, hr]
    cases r1
    · simp
    · simpa using hr2
end

variable {P : Program} {T : Tm} {H : List Blk} {dst : Option Tmp} {type : TypeId} {pos : String} {after : Array Edge} {guard : Option (Nat × Bool)}

theorem k_eqAgg {t t2 : TypeId} {x y : Operand} {xs ys : List V} {n : Nat} {r : Bool} (hx : ev T x = .agg xs := by kernel_rfl) (hy : ev T y = .agg ys := by kernel_rfl) (hg : P.eqGuardType P.depth t = false) (h : EqV P n t (.agg xs) (.agg ys) r) (hn : Nat.ble n 10000 = true := by kernel_rfl) : PureV P ⟨dst, .binOp .eql t x y t2, type, pos, after, guard⟩ T H (.d (.bool r)) := fun φ I w a hR hT => by
  have h1 := hx ▸ ev_VR hT x
  have h2 := hy ▸ ev_VR hT y
  obtain ⟨cx, e1, hA⟩ := VR.agg_inv h1
  obtain ⟨cy, e2, hB⟩ := VR.agg_inv h2
  have hr := fun w' => EqV.run h h1 h2 10000 (Nat.le_of_ble_eq_true hn) w'
  rw [e1, e2] at hr
  exact ⟨_, fun w' => by simp only [execOp, e1, e2, Sem.run_bind, run_eqGuard_agg w' .eql t x y cx cy hg, Result.andThen_ok, run_eql_struct w' t cx cy, hr w', Sem.run_pure], .d _ _ (.bool _)⟩
theorem k_neAgg {t t2 : TypeId} {x y : Operand} {xs ys : List V} {n : Nat} {r : Bool} (hx : ev T x = .agg xs := by kernel_rfl) (hy : ev T y = .agg ys := by kernel_rfl) (hg : P.eqGuardType P.depth t = false) (h : EqV P n t (.agg xs) (.agg ys) r) (hn : Nat.ble n 10000 = true := by kernel_rfl) : PureV P ⟨dst, .binOp .neq t x y t2, type, pos, after, guard⟩ T H (.d (.bool (!r))) := fun φ I w a hR hT => by
  have h1 := hx ▸ ev_VR hT x
  have h2 := hy ▸ ev_VR hT y
  obtain ⟨cx, e1, hA⟩ := VR.agg_inv h1
  obtain ⟨cy, e2, hB⟩ := VR.agg_inv h2
  have hr := fun w' => EqV.run h h1 h2 10000 (Nat.le_of_ble_eq_true hn) w'
  rw [e1, e2] at hr
  exact ⟨_, fun w' => by simp only [execOp, e1, e2, Sem.run_bind, run_eqGuard_agg w' .neq t x y cx cy hg, Result.andThen_ok, run_neq_struct w' t cx cy, hr w', Sem.run_pure], .d _ _ (.bool _)⟩

/-- A write into an element of a slice of one's own. -/
theorem d_storeE {t : TypeId} {x y : Operand} {b L i off esz sz bytes : Nat} {xs xs' : List (List D)} {e e' ds : List D} {z : Value} (hx : ev T x = .eptr b L i off) (hk : H[b]? = some (.sl esz xs false)) (hL : xs.length = L) (he : xs[i]? = some e) (hi : TyI P t z sz bytes)
    (hv : (ev T y).cells?.map (List.map nl) = some (ds.map V.d)) (hs : ds.length = sz) (hel : e.length = esz) (hfit : off + sz ≤ esz) (hn : e.take off ++ ds ++ e.drop (off + ds.length) = e') (hxs : xs.set i e' = xs') : Does P ⟨dst, .store t x y, type, pos, after, guard⟩ T H .undef (H.set b (.sl esz xs' false)) [b] := fun φ I w a hR hT => by
  have hiL : i < L := by rw [← hL]; exact (List.getElem?_eq_some_iff.1 he).1
  obtain ⟨g, δ, arr, et, hcx, hb, hg, hfitA, hrow, hcs, hz, hI⟩ := VR.eptr_sl hR hk hL (by omega) (hx ▸ ev_VR hT x)
  have hI' : ¬ I g := fun h => by have := hI.2 h; cases this
  obtain ⟨vs0, hvs0, hds0⟩ := Option.map_eq_some_iff.1 hv
  obtain ⟨hsz, hall0⟩ := (ev_VR hT y).cells hvs0
  have hall : ∀ (i : Nat) (v : V) (c' : Value), (ds.map V.d)[i]? = some v → (a.eval y).cells[i]? = some c' → VR φ I w v c' := fun i v c' h1 h2 => by
    rw [← hds0, List.getElem?_map, Option.map_eq_some_iff] at h1
    obtain ⟨v0, h3, rfl⟩ := h1
    exact (hall0 i v0 c' h3 h2).nl
  have hsz' := congrArg List.length hds0
  rw [List.length_map, List.length_map] at hsz'
  rw [hsz'] at hsz
  have hlen : (a.eval y).cells.toList.length = ds.length := by rw [Array.length_toList]; exact hsz
  have hmul : (i + 1) * esz ≤ L * esz := Nat.mul_le_mul_right _ hiL
  have hmul' : (i + 1) * esz = i * esz + esz := Nat.succ_mul i esz
  have hrun := run_storeAt (P := P) (w := w) (off := δ + i * esz + off) (v := a.eval y) hi (by rw [hsz, hs]) hg (by omega) (fun c hc => by
    obtain ⟨j, hj⟩ := List.getElem?_of_mem hc
    have hlt := (List.getElem?_eq_some_iff.1 hj).1
    rw [hlen] at hlt
    have hvj : (ds.map V.d)[j]? = some (V.d ds[j]) := by simp [hlt]
    exact vone_oneCell ((hall j _ c hvj (by simpa using hj)).one rfl))
  have hal := Array.length_toList (xs := arr)
  have hfit2 : δ + i * esz + off + (a.eval y).cells.toList.length ≤ arr.toList.length := by rw [hlen]; omega
  have hlx : xs'.length = L := by rw [← hxs]; simpa using hL
  have hel' : e'.length = esz := by rw [← hn]; simp; omega
  have hsame : ∀ g', I g' → (w.setRow g (arr.toList.take (δ + i * esz + off) ++ (a.eval y).cells.toList ++ arr.toList.drop (δ + i * esz + off + (a.eval y).cells.toList.length)).toArray).heap[g']? = w.heap[g']? := fun g' hg' => setRow_other w g g' _ fun e => hI' (e ▸ hg')
  have hle : LE φ (φ.set b (.at g δ esz L arr.size [])) := by rw [set_same hb]; exact LE.refl φ
  have hsize : (arr.toList.take (δ + i * esz + off) ++ (a.eval y).cells.toList ++ arr.toList.drop (δ + i * esz + off + (a.eval y).cells.toList.length)).toArray.size = arr.size := by
    simp only [List.size_toArray, List.length_append, List.length_take, List.length_drop]; omega
  have hw := hR.write (b := b) (l := .at g δ esz L arr.size []) (l' := .at g δ esz L arr.size []) (g := g) hb rfl hI' (.refl _) (fun _ h => h)
    (arr.toList.take (δ + i * esz + off) ++ (a.eval y).cells.toList ++ arr.toList.drop (δ + i * esz + off + (a.eval y).cells.toList.length)).toArray (.sl esz xs' false)
  have hrow' : ∀ (j : Nat) (x : List D), xs'[j]? = some x → x.length = esz := fun j x hj => by
    rw [← hxs] at hj
    by_cases hij : i = j
    · subst hij
      rw [List.getElem?_set_self (by rw [hL]; exact hiL)] at hj
      cases hj; exact hel'
    · rw [List.getElem?_set_ne hij] at hj
      exact hrow j x hj
  have hbr := BR.sl (φ := φ.set b (.at g δ esz L arr.size [])) (I := I) esz xs' false g δ _ et (setRow_heap w g arr _ et (0, 0) hg) (by rw [hsize, hlx]; exact hfitA) hrow' (fun i' j' d c hd hc => by
    simp only [List.getElem?_toArray] at hc
    rw [splice_get _ _ _ hfit2, hlen] at hc
    obtain ⟨x', hx', hj'⟩ := get2_some hd
    have hjlt : j' < esz := by rw [← hrow' i' x' hx']; exact (List.getElem?_eq_some_iff.1 hj').1
    rw [← hxs] at hx'
    by_cases hii : i = i'
    · subst hii
      rw [List.getElem?_set_self (by rw [hL]; exact hiL)] at hx'
      cases hx'
      rw [← hn] at hj'
      rw [splice_get _ _ _ (by omega)] at hj'
      by_cases hin : off ≤ j' ∧ j' < off + ds.length
      · rw [if_pos hin] at hj'
        rw [if_pos (by omega)] at hc
        have e1 : δ + i * esz + j' - (δ + i * esz + off) = j' - off := by omega
        rw [e1] at hc
        have hvj : (ds.map V.d)[j' - off]? = some (V.d d) := by simp [hj']
        exact ((hall _ _ c hvj (by simpa using hc)).d_inv).mono (fun _ h => h) hsame
      · rw [if_neg hin] at hj'
        rw [if_neg (by omega)] at hc
        exact (hcs i j' d c (get2_mk he hj') (by simpa using hc)).mono (fun _ h => h) hsame
    · rw [List.getElem?_set_ne hii] at hx'
      have hnot : ¬ (δ + i * esz + off ≤ δ + i' * esz + j' ∧ δ + i' * esz + j' < δ + i * esz + off + ds.length) := by
        rcases Nat.lt_or_gt_of_ne hii with h | h
        · have h1 : (i + 1) * esz ≤ i' * esz := Nat.mul_le_mul_right _ h
          omega
        · have h1 : (i' + 1) * esz ≤ i * esz := Nat.mul_le_mul_right _ h
          have h2 : (i' + 1) * esz = i' * esz + esz := Nat.succ_mul i' esz
          omega
      rw [if_neg hnot] at hc
      exact (hcs i' j' d c (get2_mk hx' hj') (by simpa using hc)).mono (fun _ h => h) hsame) hz (by constructor <;> intro h; cases h; exact absurd h hI')
  rw [hlx, hsize] at hbr
  obtain ⟨h1, h2, h3⟩ := hw hbr
  exact ⟨_, I, _, undef, .inr ⟨by simp only [execOp, hcx, Sem.run_bind, hrun, Result.andThen_ok, Sem.run_pure], rfl⟩, h2, h1, .undef _, h3⟩

theorem k_storeE {α : Type} {enc : α → List D} {t : TypeId} {x y : Operand} (b off : Nat) {i sz0 sz bytes : Nat} (xs : List α) {xs' : List α} {a : α} (a' : α) (ds : List D) {z : Value} {H' : List Blk} (hr : ∀ a, (enc a).length = sz0) (hx : ev T x = .eptr b xs.length i off := by kernel_rfl) (hk : H[b]? = some (.sl sz0 (xs.map enc) false) := by kernel_rfl) (he : xs[i]? = some a) (hi : TyI P t z sz bytes)
    (hv : (ev T y).cells?.map (List.map nl) = some (ds.map V.d) := by kernel_rfl) (hok : (Nat.beq ds.length sz && Nat.ble (off + sz) sz0) = true := by kernel_rfl) (hn : (enc a).take off ++ ds ++ (enc a).drop (off + ds.length) = enc a' := by kernel_rfl) (hxs : xs.set i a' = xs') (hH : H.set b (.sl sz0 (xs'.map enc) false) = H' := by kernel_rfl) : Does P ⟨dst, .store t x y, type, pos, after, guard⟩ T H .undef H' [b] := by
  obtain ⟨h1, h2⟩ := Bool.and_eq_true_iff.1 hok
  subst hH
  exact d_storeE hx hk (map_len enc xs) (map_idx enc he) hi hv (Nat.eq_of_beq_eq_true h1) (hr a) (Nat.le_of_ble_eq_true h2) hn (by rw [map_set, hxs])

section
variable {R X : Type} {E : R → V × List Blk} {A : X → Option R} {f : FuncId} {N m : Nat} {k todo : List VI}
theorem bSet {α : Type} {B : α → Option X} (a : α) (h : ∀ x, a = x → GoesO P f N m todo T H E ((B x).bind A)) : GoesO P f N m todo T H E ((blet a B).bind A) := h a rfl
end
theorem set_len {α : Type} {xs xs' : List α} {i : Nat} {a : α} (h : xs.set i a = xs') : xs.length = xs'.length := by rw [← h]; simp

theorem gOpX {ι : Type} {r : V} {B : List Blk} {f : FuncId} {N m : Nat} {k : List VI} {all : Array Oper} {i : Nat} {o : Oper} {l : List Oper} {v : ι → V} {ok : ι → Prop} (hw : vwanted T all o = some true) (hN : inN N o.dst = true)
    (hdo : ∀ (φ : List Plc) (I : Nat → Prop) (w : World) (a : Act), Rel H φ I w → TR φ I w T a → ∃ β c, ok β ∧ (execOp a.eval o).run P w = .ok (.value c) w ∧ VR φ I w (v β) c) (h : ∀ β, ok β → Goes P f N m (.ops all (i + 1) l :: k) (tput T o.dst (v β)) H r B) :
    Goes P f N m (.ops all i (o :: l) :: k) T H r B := fun φ I w a b cs hR hT hd hsz hk hf hkd => by
  obtain ⟨ho, hl⟩ := drop_get (show all.toList.drop i = o :: l from hk (.ops all i (o :: l)) (by simp))
  have ho' : all[i]? = some o := by simpa using ho
  obtain ⟨β, c, hok, hrun, hv⟩ := hdo φ I w a hR hT
  have hstep := step_value (P := P) (b := b) (K := k.map VI.item) (cs := cs) (rest := List.range' (i + 1) l.length) ho' (vwanted_wanted hT hw) (.inl hrun)
  obtain ⟨φ', I', w', c', fr, hs, h1, h2, h3, h4⟩ := h β hok φ I w (a.put o.dst c) b cs hR (hT.tput hsz hN hv) (by rw [put_defers]; exact hd) (by rw [put_size]; exact hsz) (fun x hx => by
    simp only [List.mem_cons] at hx
    rcases hx with rfl | hx
    · exact hl
    · exact hk x (by simp [hx])) hf hkd
  refine ⟨φ', I', w', c', fr, .head ?_ hs, h1, h2, h3, h4⟩
  rw [List.map_cons, ops_cons]
  exact hstep

/-- Is the slice nil? For what reads empty either answer may come. -/
theorem oNil {R : Type} {E : R → V × List Blk} {o : Option R} {f : FuncId} {N m : Nat} {k : List VI} {all : Array Oper} {i : Nat} {l : List Oper} {t t2 e : TypeId} {x : Operand} {xs : List (List D)} (hu : P.underlying t = some (.slice e)) (hx : ev T x = .d (.lit xs) := by kernel_rfl)
    (hw : vwanted T all ⟨dst, .binOp .eql t x (.const (.slice none 0 0)) t2, type, pos, after, guard⟩ = some true := by kernel_rfl) (hN : inN N dst = true := by kernel_rfl)
    (h : ∀ β : Bool, (xs ≠ [] → β = false) → GoesO P f N m (.ops all (i + 1) l :: k) (tput T dst (.d (.bool β))) H E o) : GoesO P f N m (.ops all i (⟨dst, .binOp .eql t x (.const (.slice none 0 0)) t2, type, pos, after, guard⟩ :: l) :: k) T H E o := fun r hr => by
  refine gOpX (v := fun β => .d (.bool β)) (ok := fun β => xs ≠ [] → β = false) hw hN (fun φ I w a hR hT => ?_) fun β hβ => h β hβ r hr
  rcases VR.lit_inv (hx ▸ ev_VR hT x) with ⟨rfl, ad, cap, e1⟩ | ⟨g, o, esz, cap, cv, e1, _⟩
  · refine ⟨ad.isNone, .bool ad.isNone, fun h => absurd rfl h, ?_, .d _ _ (.bool _)⟩
    have e2 : a.eval (.const (.slice none 0 0)) = .slice none 0 0 := rfl
    simp [execOp, e1, e2, eqGuard, binOp, run_equal_slice_nil w t e ad 0 cap hu]
  · refine ⟨false, .bool false, fun _ => rfl, ?_, .d _ _ (.bool _)⟩
    have e2 : a.eval (.const (.slice none 0 0)) = .slice none 0 0 := rfl
    simp [execOp, e1, e2, eqGuard, binOp, run_equal_slice_nil w t e (some ⟨g, o, none⟩) xs.length cap hu]
end Go.VM
namespace Go.VM
theorem rep_len {α : Type} {n : Nat} {e0 : α} {xs : List α} (h : List.replicate n e0 = xs) : n = xs.length := by rw [← h]; simp
theorem convList {H : List Blk} {l vs0 vs : List V} (h : l = vs0 := by kernel_rfl) (p : ConvRs H vs0 vs) : ConvRs H l vs := by subst h; exact p
def iand (k : IntKind) (a b : Int) : Int := k.wrap (BitVec.ofInt k.bits a &&& BitVec.ofInt k.bits b).toNat
def ior (k : IntKind) (a b : Int) : Int := k.wrap (BitVec.ofInt k.bits a ||| BitVec.ofInt k.bits b).toNat
def ixor (k : IntKind) (a b : Int) : Int := k.wrap (BitVec.ofInt k.bits a ^^^ BitVec.ofInt k.bits b).toNat
section
variable {R X : Type} {E : R → V × List Blk} {A : X → Option R} {P : Program} {f : FuncId} {N m : Nat} {T U : Tm} {H H0 : List Blk} {k : List VI} {all : Array Oper} {st : List (Nat × Nat)} {lv : List Nat}
/-- Both ways go on as one, for a truth value alone. -/
theorem bMeetF {i : Nat} {l l' : List Oper} {b : Bool} {B : Bool → Option X} (n : Nat) (hl : l.drop n = l') (sT : Bool → Tm) {H' : List Blk} (hj : ∀ s, GoesO P f N m (.ops all (i + n) l' :: k) (sT s) H' E ((B s).bind A))
    (h : ∀ F : Bool → Option R, (∀ s, GoesO P f N m (.ops all (i + n) l' :: k) (sT s) H' E (F s)) → GoesO P f N m (.ops all i l :: k) T H E (F b)) : GoesO P f N m (.ops all i l :: k) T H E ((blet b B).bind A) := h (fun s => (B s).bind A) hj
theorem bPickF {todo : List VI} (t : Nat) {b : Bool} (F : Bool → Option R) (ht : get T t = .d (.bool b) := by kernel_rfl) (h1 : b = true → GoesO P f N m todo ((t, .d (.bool true)) :: T) H E (F true)) (h2 : b = false → GoesO P f N m todo ((t, .d (.bool false)) :: T) H E (F false)) :
    GoesO P f N m todo T H E (F b) := fun r hr => gSplit t ht (fun hb => by subst hb; exact h1 rfl r hr) (fun hb => by subst hb; exact h2 rfl r hr)
theorem dMeetF {b : Bool} {B : Bool → Option X} (lv' : List Nat) (sT sU : Bool → Tm) {H' : List Blk} (hj : ∀ s, AnyO P f N m all st H0 lv' k (sT s) (sU s) H' E ((B s).bind A))
    (h : ∀ F : Bool → Option R, (∀ s, AnyO P f N m all st H0 lv' k (sT s) (sU s) H' E (F s)) → AnyO P f N m all st H0 lv k T U H E (F b)) : AnyO P f N m all st H0 lv k T U H E ((blet b B).bind A) := h (fun s => (B s).bind A) hj
theorem dPickF (t : Nat) {b : Bool} (F : Bool → Option R) (ht : get T t = .d (.bool b) := by kernel_rfl) (hu : get U t = .d (.bool b) := by kernel_rfl) (h1 : b = true → AnyO P f N m all st H0 lv k ((t, .d (.bool true)) :: T) ((t, .d (.bool true)) :: U) H E (F true))
    (h2 : b = false → AnyO P f N m all st H0 lv k ((t, .d (.bool false)) :: T) ((t, .d (.bool false)) :: U) H E (F false)) : AnyO P f N m all st H0 lv k T U H E (F b) := by
  have : F b = bif b then F true else F false := by cases b <;> rfl
  rw [this]
  exact aSplit t ht hu h1 h2
theorem dSet {α : Type} {B : α → Option X} (a : α) (h : ∀ x, a = x → AnyO P f N m all st H0 lv k T U H E ((B x).bind A)) : AnyO P f N m all st H0 lv k T U H E ((blet a B).bind A) := h a rfl
end
end Go.VM
namespace Go.VM
section
variable {R X : Type} {E : R → V × List Blk} {A : X → Option R} {P : Program} {f : FuncId} {N m : Nat} {T U : Tm} {H H0 : List Blk} {k : List VI} {all : Array Oper} {st : List (Nat × Nat)} {lv : List Nat}
theorem bUc {α β : Type} {F : α → β → Option X} {a : α} {b : β} (h : GoesO P f N m k T H E ((F a b).bind A)) : GoesO P f N m k T H E ((uc F (a, b)).bind A) := h
theorem bU0 {o : Option X} (h : GoesO P f N m k T H E (o.bind A)) : GoesO P f N m k T H E ((u0 o ()).bind A) := h
theorem bInl {α β : Type} {F : α → Option X} {G : β → Option X} {a : α} (h : GoesO P f N m k T H E ((F a).bind A)) : GoesO P f N m k T H E ((Sum.elim F G (Sum.inl a)).bind A) := h
theorem dUc {α β : Type} {F : α → β → Option X} {a : α} {b : β} (h : AnyO P f N m all st H0 lv k T U H E ((F a b).bind A)) : AnyO P f N m all st H0 lv k T U H E ((uc F (a, b)).bind A) := h
theorem dU0 {o : Option X} (h : AnyO P f N m all st H0 lv k T U H E (o.bind A)) : AnyO P f N m all st H0 lv k T U H E ((u0 o ()).bind A) := h
end
end Go.VM
namespace Go.VM
open Go.RowKit

theorem Runs.below {P : Program} {f : FuncId} {args : List V} {r : V} {B' : List Blk} {cargs : Array Value} {w : World} (h : Runs P f args [] r B') (hsz : cargs.size = args.length)
    (hv : ∀ (i : Nat) (v : V) (c : Value), args[i]? = some v → cargs[i]? = some c → VR [] (fun g => g < w.heap.size) w v c) :
    Calls P f cargs w fun e w' => (∃ (φ' : List Plc) (I' : Nat → Prop) (c : Value), e = .returned c ∧ VR φ' I' w' r c) ∧ Below w.heap.size w w' := by
  have hR : Rel ([] : List Blk) [] (fun g => g < w.heap.size) w := ⟨rfl, fun b k l h => by simp at h, fun b b' l l' g h => by simp at h, fun g h => h⟩
  refine (h [] _ w cargs hR hsz hv).mono fun e w' ⟨φ', I', c, he, ht, hR', hvr⟩ => ⟨⟨φ', I', c, he, hvr⟩, ht.os, ht.tape, ht.output, ht.size, fun k hk => ht.same k hk⟩

/-- A slice of numbers, as a row hands it over. -/
theorem VR.row {w : World} {a : Option Addr} {len cap : Nat} {k : IntKind} {zs : List Int} (enc : Int → List D) (he : ∀ x, enc x = [.int k x])
    (h : (a = none ∧ len = 0 ∧ cap = 0 ∧ zs = []) ∨ ∃ x : Addr, a = some x ∧ len ≤ cap ∧ zs.length = cap ∧ (∀ i, i < zs.length → w.cell? (x.add i) = some (.int k (zs.getD i 0)))) :
    VR [] (fun g => g < w.heap.size) w (.d (.lit ((zs.take len).map enc))) (.slice a len cap) := by
  cases len with
  | zero => exact .d _ _ (by simpa using DR.nil a cap)
  | succ n =>
    rcases h with ⟨_, h, _⟩ | ⟨x, rfl, hle, hl, hc⟩
    · cases h
    · have h0 := hc 0 (by omega)
      have hsp : x.spot = none := by
        have := World.cell?_spot h0
        simpa [Addr.add] using this
      obtain ⟨g, o, sp⟩ := x
      simp only at hsp
      subst hsp
      have hadd : ∀ i, (⟨g, o, none⟩ : Addr).add i = ⟨g, o + i, none⟩ := fun i => by
        unfold Addr.add
        split
        · next h => subst h; rfl
        · rfl
      have hlen : ((zs.take (n + 1)).map enc).length = n + 1 := by simp; omega
      have hget : ∀ (i : Nat) (e : List D), ((zs.take (n + 1)).map enc)[i]? = some e → i < zs.length ∧ e = [.int k (zs.getD i 0)] := fun i e hi => by
        have hlt := (List.getElem?_eq_some_iff.1 hi).1
        rw [hlen] at hlt
        have hlz : i < zs.length := by omega
        refine ⟨hlz, ?_⟩
        simp only [List.getElem?_map, List.getElem?_take, hlt, if_true, List.getElem?_eq_getElem hlz, Option.map_some, Option.some.injEq] at hi
        rw [← hi, he]
        simp [List.getD, hlz]
      have hd := DR.lit (I := fun g => g < w.heap.size) (w := w) ((zs.take (n + 1)).map enc) g o 1 cap (fun i _ => .int k (zs.getD i 0)) (by
          have := hc 0 (by omega)
          unfold World.cell? at this
          split at this
          · next hh => exact (Array.getElem?_eq_some_iff.1 hh).1
          · cases this) (fun i e hi => by rw [(hget i e hi).2]; rfl) (fun i j d hd => by
          obtain ⟨e, h1, h2⟩ := get2_some hd
          obtain ⟨h3, rfl⟩ := hget i e h1
          cases j with
          | zero =>
            have := hc i h3
            rw [hadd] at this
            simpa using this
          | succ j => simp at h2) (fun i j d hd => by
          obtain ⟨e, h1, h2⟩ := get2_some hd
          obtain ⟨h3, rfl⟩ := hget i e h1
          cases j with
          | zero => simp at h2; subst h2; exact .int _ _
          | succ j => simp at h2) (by rw [hlen]; exact hle)
      rw [hlen] at hd
      exact .d _ _ hd
end Go.VM
namespace Go.VM
section
variable {P : Program} {T : Tm} {H : List Blk} {dst : Option Tmp} {type : TypeId} {pos : String} {after : Array Edge} {guard : Option (Nat × Bool)}

theorem Holds.more {sz : Nat} {v : V} {ys : List (List D)} (h : Holds H sz v ys) (k : Blk) : Holds (H ++ [k]) sz v ys := by
  have up : ∀ {b : Nat} {x : Blk}, H[b]? = some x → (H ++ [k])[b]? = some x := fun {b x} hb => by
    rw [List.getElem?_append_left (List.getElem?_eq_some_iff.1 hb).1]; exact hb
  cases h with
  | lit ys h => exact .lit ys h
  | nil => exact .nil
  | ref b L off len xs ys fro hk hL hle hy => exact .ref b L off len xs ys fro (up hk) hL hle hy
  | virt b esz fro hk => exact .virt b esz fro (up hk)

theorem d_appendNil {t t2 e e2 : TypeId} {x y : Operand} {sz bytes L' : Nat} {ys : List (List D)} {z : Value} (hu : P.underlying t = some (.slice e)) (hu2 : P.underlying t2 = some (.slice e2)) (hi : TyI P e z sz bytes) (hz : 0 < sz) (hzs : z.cells.size = sz)
    (hx : ev T x = .nilc) (hy : Holds H sz (ev T y) ys) (hL' : ys.length = L') (hfit : L' * bytes ≤ 140737488355328) (h63 : L' ≤ 9223372036854775807) :
    Does P ⟨dst, .call ⟨.builtin .append, #[x, y], #[t, t2]⟩, type, pos, after, guard⟩ T H (.ref H.length L' 0 L') (H ++ [.sl sz ys false]) [] := fun φ I w a hR hT => by
  obtain ⟨h1, h2⟩ := hR.virt (esz := sz)
  have hx0 := (hx ▸ ev_VR hT x).nilc_inv
  have hX : VR (φ ++ [.virt]) I w (.ref H.length 0 0 0) (a.eval x) := by rw [hx0]; exact virt_VR φ I w hR.len
  have hY : VR (φ ++ [.virt]) I w (ev T y) (a.eval y) := (ev_VR hT y).turn h2
  have hk : (H ++ [Blk.sl sz [] false])[H.length]? = some (.sl sz [] false) := by simp
  obtain ⟨φ', I', w', c, hrun, ht, hR', hv, hkp⟩ := d_append_at (dst := dst) (type := type) (pos := pos) (after := after) (guard := guard) (L := 0) (xs := []) (zs := ys) hu hu2 hi hz hzs hk rfl (.inl rfl) (hy.more _) rfl hL' hfit h63 _ I w a h1 hX hY
  refine ⟨φ', I', w', c, hrun, h2.trans ht, by simpa using hR', hv, fun b l _ hl => ?_⟩
  have hlt := (List.getElem?_eq_some_iff.1 hl).1
  have hne : b ∉ [H.length] := by simp only [List.mem_singleton]; rw [← hR.len]; omega
  exact hkp b l hne (by rw [List.getElem?_append_left hlt]; exact hl)

theorem k_appendNil {α : Type} {enc : α → List D} {t t2 e e2 : TypeId} {x y : Operand} {sz bytes : Nat} {z : Value} (ys : List α) {H' : List Blk} (hu : P.underlying t = some (.slice e)) (hu2 : P.underlying t2 = some (.slice e2)) (hi : TyI P e z sz bytes) (hok : (Nat.blt 0 sz && (Nat.blt 0 bytes && Nat.beq z.cells.size sz)) = true := by kernel_rfl)
    (hx : ev T x = .nilc := by kernel_rfl) (hy : Holds H sz (ev T y) (ys.map enc)) (hfit : ys.length * bytes ≤ 140737488355328) (hH : H ++ [.sl sz (ys.map enc) false] = H' := by kernel_rfl) :
    Does P ⟨dst, .call ⟨.builtin .append, #[x, y], #[t, t2]⟩, type, pos, after, guard⟩ T H (.ref H.length ys.length 0 ys.length) H' [] := by
  obtain ⟨h1, h2⟩ := Bool.and_eq_true_iff.1 hok
  obtain ⟨h3, h4⟩ := Bool.and_eq_true_iff.1 h2
  subst hH
  have h5 : 1 ≤ bytes := Nat.le_of_ble_eq_true h3
  have h6 : ys.length * 1 ≤ ys.length * bytes := Nat.mul_le_mul_left _ h5
  exact d_appendNil hu hu2 hi (Nat.le_of_ble_eq_true h1) (Nat.eq_of_beq_eq_true h4) hx hy (map_len enc ys) hfit (by omega)
end
/-! ### parts of a slice that nobody writes -/
theorem cut_lit {φ : List Plc} {I : Nat → Prop} {w : World} {xs : List (List D)} {a : Option Addr} {len cap l h sz : Nat} (hv : VR φ I w (.d (.lit xs)) (.slice a len cap)) (hr : ∀ (i : Nat) (e : List D), xs[i]? = some e → e.length = sz) (h1 : l ≤ h) (h2 : h ≤ len) :
    VR φ I w (.d (.lit ((xs.drop l).take (h - l)))) (sliced a l h cap sz) := by
  have hle := VR.lit_cap hv
  rcases VR.lit_inv hv with ⟨rfl, a0, c0, e⟩ | ⟨g, o, esz, cap', cv, e, hI, hlen, hcell, hd⟩
  · cases e
    have : h - l = 0 := by omega
    simp only [List.drop_nil, List.take_nil, sliced, this]
    exact .d _ _ (.nil _ _)
  · cases e
    by_cases hlt : l = h
    · subst hlt
      simp only [sliced, Nat.sub_self, List.take_zero]
      exact .d _ _ (.nil _ _)
    · have hll : l < xs.length := by omega
      have hes : esz = sz := by rw [← hlen l _ (List.getElem?_eq_getElem hll), hr l _ (List.getElem?_eq_getElem hll)]
      subst hes
      have hne : ¬ cap = l := by omega
      simp only [sliced, if_neg hne, Option.map_some]
      rw [add_none]
      have := DR.lit (I := I) (w := w) ((xs.drop l).take (h - l)) g (o + l * esz) esz (cap - l) (fun i j => cv (l + i) j) hI (fun i e he => by
          have hil : i < h - l := by have := (List.getElem?_eq_some_iff.1 he).1; simp at this; omega
          rw [List.getElem?_take_of_lt hil, List.getElem?_drop] at he
          exact hlen _ _ he) (fun i j d hd => by
          have := hcell (l + i) j d (get2_cut hd)
          rw [← this, Nat.add_mul, Nat.add_assoc o]) (fun i j d hdd => hd (l + i) j d (get2_cut hdd)) (by simp; omega)
      have hl' : ((xs.drop l).take (h - l)).length = h - l := by simp; omega
      rw [hl'] at this
      exact .d _ _ this
section
variable {P : Program} {T : Tm} {H : List Blk} {dst : Option Tmp} {type : TypeId} {pos : String} {after : Array Edge} {guard : Option (Nat × Bool)}
theorem elem_of {t e : TypeId} (hu : P.underlying t = some (.slice e)) : P.underlying t = some (.slice (P.elem t)) := by simp [Program.elem, hu]
theorem elem_eq {t e : TypeId} (hu : P.underlying t = some (.slice e)) : P.elem t = e := by simp [Program.elem, hu]
theorem k_cutLH {α : Type} {enc : α → List D} {t e : TypeId} {x y y2 : Operand} {k1 k2 : IntKind} {l h : Int} {z : Value} {sz bytes : Nat} (hr : ∀ a, (enc a).length = sz) (xs : List α) (hx : ev T x = .d (.lit (xs.map enc))) (hy : ev T y = .d (.int k1 l)) (hy2 : ev T y2 = .d (.int k2 h)) (hu : P.underlying t = some (.slice e)) (hi : TyI P e z sz bytes)
    (h0 : 0 ≤ l) (h1 : l ≤ h) (h2 : h ≤ xs.length) : PureV P ⟨dst, .slice t x (some y) (some y2) none, type, pos, after, guard⟩ T H (.d (.lit ((List.take (h.toNat - l.toNat) (List.drop l.toNat xs)).map enc))) := fun φ I w a hR hT => by
  have hv := hx ▸ ev_VR hT x
  have e1 := (hy ▸ ev_VR hT y).int_inv
  have e2 := (hy2 ▸ ev_VR hT y2).int_inv
  obtain ⟨ad, cap, e⟩ : ∃ ad cap, a.eval x = .slice ad xs.length cap := by
    rcases VR.lit_inv hv with ⟨e0, a0, c0, e⟩ | ⟨g, o, esz, cap', cv, e, _⟩
    · have : xs.length = 0 := by have := congrArg List.length e0; simpa using this
      exact ⟨a0, c0, by rw [e, this]⟩
    · exact ⟨some ⟨g, o, none⟩, cap', by rw [e]; simp⟩
  rw [e] at hv
  have hle := VR.lit_cap hv
  refine ⟨sliced ad l.toNat h.toNat cap sz, fun w' => ?_, ?_⟩
  · simp [execOp, e, e1, e2, run_sliceAt_slice w' t _ _ _ _ (elem_of hu), run_slice_lh w' t ad xs.length cap (elem_of hu) k1 k2 l h h0 h1 (by omega), elem_eq hu, run_sizeOf hi]
  · rw [List.map_take, List.map_drop]
    exact cut_lit hv (map_row hr xs) (by omega) (by omega)
theorem k_cutH {α : Type} {enc : α → List D} {t e : TypeId} {x y2 : Operand} {k2 : IntKind} {h : Int} {z : Value} {sz bytes : Nat} (hr : ∀ a, (enc a).length = sz) (xs : List α) (hx : ev T x = .d (.lit (xs.map enc)) := by kernel_rfl) (hy2 : ev T y2 = .d (.int k2 h) := by kernel_rfl) (hu : P.underlying t = some (.slice e)) (hi : TyI P e z sz bytes)
    (h1 : 0 ≤ h) (h2 : h ≤ xs.length) : PureV P ⟨dst, .slice t x none (some y2) none, type, pos, after, guard⟩ T H (.d (.lit ((List.take h.toNat xs).map enc))) := fun φ I w a hR hT => by
  have hv := hx ▸ ev_VR hT x
  have e2 := (hy2 ▸ ev_VR hT y2).int_inv
  obtain ⟨ad, cap, e⟩ : ∃ ad cap, a.eval x = .slice ad xs.length cap := by
    rcases VR.lit_inv hv with ⟨e0, a0, c0, e⟩ | ⟨g, o, esz, cap', cv, e, _⟩
    · have : xs.length = 0 := by have := congrArg List.length e0; simpa using this
      exact ⟨a0, c0, by rw [e, this]⟩
    · exact ⟨some ⟨g, o, none⟩, cap', by rw [e]; simp⟩
  rw [e] at hv
  have hle := VR.lit_cap hv
  refine ⟨sliced ad 0 h.toNat cap sz, fun w' => ?_, ?_⟩
  · simp [execOp, e, e2, run_sliceAt_slice w' t _ _ _ _ (elem_of hu), run_slice_h w' t ad xs.length cap (elem_of hu) k2 h h1 (by omega), elem_eq hu, run_sizeOf hi]
  · have := cut_lit hv (map_row hr xs) (Nat.zero_le h.toNat) (by omega)
    rw [List.map_take]
    simpa using this
theorem k_cutL {α : Type} {enc : α → List D} {t e : TypeId} {x y : Operand} {k1 : IntKind} {l : Int} {z : Value} {sz bytes : Nat} (hr : ∀ a, (enc a).length = sz) (xs : List α) (hx : ev T x = .d (.lit (xs.map enc))) (hy : ev T y = .d (.int k1 l)) (hu : P.underlying t = some (.slice e)) (hi : TyI P e z sz bytes)
    (h1 : 0 ≤ l) (h2 : l ≤ xs.length) : PureV P ⟨dst, .slice t x (some y) none none, type, pos, after, guard⟩ T H (.d (.lit ((List.drop l.toNat xs).map enc))) := fun φ I w a hR hT => by
  have hv := hx ▸ ev_VR hT x
  have e2 := (hy ▸ ev_VR hT y).int_inv
  obtain ⟨ad, cap, e⟩ : ∃ ad cap, a.eval x = .slice ad xs.length cap := by
    rcases VR.lit_inv hv with ⟨e0, a0, c0, e⟩ | ⟨g, o, esz, cap', cv, e, _⟩
    · have : xs.length = 0 := by have := congrArg List.length e0; simpa using this
      exact ⟨a0, c0, by rw [e, this]⟩
    · exact ⟨some ⟨g, o, none⟩, cap', by rw [e]; simp⟩
  rw [e] at hv
  have hle := VR.lit_cap hv
  refine ⟨sliced ad l.toNat xs.length cap sz, fun w' => ?_, ?_⟩
  · simp [execOp, e, e2, run_sliceAt_slice w' t _ _ _ _ (elem_of hu), run_slice_l w' t ad xs.length cap (elem_of hu) k1 l h1 (by omega), elem_eq hu, run_sizeOf hi]
  · have := cut_lit (h := xs.length) hv (map_row hr xs) (l := l.toNat) (by omega) (by omega)
    have e3 : List.take (xs.length - l.toNat) (List.drop l.toNat (xs.map enc)) = List.drop l.toNat (xs.map enc) := by
      apply List.take_of_length_le; simp
    rw [e3] at this
    rw [List.map_drop]
    exact this
end
end Go.VM
namespace Go.VM
section
variable {P : Program} {T : Tm} {H : List Blk} {dst : Option Tmp} {type : TypeId} {pos : String} {after : Array Edge} {guard : Option (Nat × Bool)}

/-- The bytes of a string, as numbers. -/
def strBytes (s : ByteArray) : List Int := s.data.toList.map fun b => (b.toNat : Int)
/-- The bytes of a string. -/
def strI : V → Option (List Int)
  | .d (.str s) => some (strBytes s)
  | _ => none
theorem strI_some {v : V} {xs : List Int} (h : strI v = some xs) : ∃ s, v = .d (.str s) ∧ strBytes s = xs := by
  unfold strI at h
  split at h
  · next s => exact ⟨s, rfl, Option.some.inj h⟩
  · cases h
theorem k_idxStr {t : TypeId} {x y : Operand} {k : IntKind} {i e : Int} {xs : List Int} (hx : strI (ev T x) = some xs := by kernel_rfl) (hy : ev T y = .d (.int k i) := by kernel_rfl) (hu : P.underlying t = some .string) (h0 : 0 ≤ i) (he : xs[i.toNat]? = some e) :
    PureV P ⟨dst, .index t x y, type, pos, after, guard⟩ T H (.d (.int .u8 e)) := fun φ I w a hR hT => by
  obtain ⟨s, hx, hs⟩ := strI_some hx
  have e1 := (hx ▸ ev_VR hT x).str_inv
  have e2 := (hy ▸ ev_VR hT y).int_inv
  have hlt : i.toNat < s.size := by
    have := (List.getElem?_eq_some_iff.1 he).1
    rw [← hs] at this
    simpa [strBytes] using this
  have hv : e = ((s[i.toNat]'hlt).toNat : Int) := by
    rw [← hs] at he
    have h1 : (strBytes s)[i.toNat]? = some ((s[i.toNat]'hlt).toNat : Int) := by
      unfold strBytes
      rw [List.getElem?_map, Array.getElem?_toList]
      have : s.data[i.toNat]? = some (s[i.toNat]'hlt) := by
        rw [Array.getElem?_eq_getElem hlt]; rfl
      rw [this]; rfl
    rw [h1] at he
    exact (Option.some.inj he).symm
  refine ⟨.int .u8 e, fun w' => ?_, .d _ _ (.int _ _)⟩
  have hb : 0 ≤ i ∧ i < s.size := by omega
  simp [execOp, e1, e2, run_index_string w' t s k i hu, hb, hv]

/-! ### sums and differences of 64 bits with a carry -/
def gcarry {R : Type} (x y c : Int) (k : Option R) : Option R := bif (decide (0 ≤ x) && decide (0 ≤ y)) && (decide (0 ≤ c) && decide (c ≤ 1)) then k else none
def sub64Entry : Array Value → Sem Value := fun args => do
  let (x, y, b) ← Extern.MathBitsCarry.three "Sub64" args
  pure (Extern.MathBitsCarry.pair ((x + Extern.MathBitsCarry.m64 - y - b) % Extern.MathBitsCarry.m64) (if x < y + b then 1 else 0))
theorem run_sub64 {P : Program} (x y c : Int) (hx : 0 ≤ x) (hy : 0 ≤ y) (hy2 : y ≤ 18446744073709551615) (hc0 : 0 ≤ c) (hc : c ≤ 1) (w : World) :
    (sub64Entry #[.int .u64 x, .int .u64 y, .int .u64 c]).run P w = .ok (.tuple #[.int .u64 ((x - y - c) % 18446744073709551616), .int .u64 (if x < y + c then 1 else 0)]) w := by
  have key : ∀ k : Nat, k ≤ 1 → (sub64Entry #[.int .u64 x, .int .u64 y, .int .u64 (k : Int)]).run P w =
      .ok (Extern.MathBitsCarry.pair ((x.toNat + Extern.MathBitsCarry.m64 - y.toNat - k) % Extern.MathBitsCarry.m64) (if x.toNat < y.toNat + k then 1 else 0)) w := by
    intro k hk
    have : k = 0 ∨ k = 1 := by omega
    rcases this with rfl | rfl <;> rfl
  obtain ⟨k, rfl⟩ := Int.eq_ofNat_of_zero_le hc0
  rw [key k (by omega)]
  obtain ⟨X, rfl⟩ := Int.eq_ofNat_of_zero_le hx
  obtain ⟨Y, rfl⟩ := Int.eq_ofNat_of_zero_le hy
  simp only [Extern.MathBitsCarry.pair, Extern.MathBitsCarry.m64, Int.toNat_natCast]
  have e1 : (Int.ofNat ((X + 2 ^ 64 - Y - k) % 2 ^ 64)) = ((X : Int) - Y - k) % 18446744073709551616 := by
    simp only [Int.ofNat_eq_natCast]
    omega
  have e2 : (Int.ofNat (if X < Y + k then 1 else 0)) = if (X : Int) < Y + k then 1 else 0 := by
    by_cases h : X < Y + k
    · have h' : (X : Int) < Y + k := by omega
      rw [if_pos h, if_pos h']; rfl
    · have h' : ¬ (X : Int) < Y + k := by omega
      rw [if_neg h, if_neg h']; rfl
  rw [e1, e2]
theorem p_extern {fop : Operand} {args : Array Operand} {tys : Array TypeId} {g : FuncId} {fn : Func} {e : Array Value → Sem Value} {v : V} (hf : ev T fop = .fn g []) (hfn : P.funcs[g]? = some fn) (hname : (fn.name == "runtime.NumGoroutine") = false) (hb : fn.body.isNone = true) (hn : Extern.findNext fn = none) (he : Extern.find fn = some e)
    (h : ∀ (φ : List Plc) (I : Nat → Prop) (w : World) (a : Act), Rel H φ I w → TR φ I w T a → ∃ c, (∀ w' : World, (e (args.map a.eval)).run P w' = .ok c w') ∧ VR φ I w v c) : PureV P ⟨dst, .call ⟨.value fop, args, tys⟩, type, pos, after, guard⟩ T H v := fun φ I w a hR hT => by
  obtain ⟨cs, e1, hcs⟩ := VR.fn_inv (hf ▸ ev_VR hT fop)
  have hcs0 : cs = #[] := by
    have := hcs.1
    simpa using this
  subst hcs0
  obtain ⟨c, h1, h2⟩ := h φ I w a hR hT
  refine ⟨c, fun w' => ?_, h2⟩
  have h3 := run_callFunc_extern (P := P) hfn hname hb hn he (args.map a.eval) w'
  simp [execOp, resolve, e1, Deferred.ofValue, invoke, h3, h1 w']
theorem p_add64 {fop x y z : Operand} {tys : Array TypeId} {g : FuncId} {fn : Func} {p q c : Int} (hf : ev T fop = .fn g [] := by kernel_rfl) (hfn : P.funcs[g]? = some fn) (hname : (fn.name == "runtime.NumGoroutine") = false := by kernel_rfl) (hb : fn.body.isNone = true := by kernel_rfl) (hn : Extern.findNext fn = none := by kernel_rfl) (he : Extern.find fn = some add64Entry := by kernel_rfl)
    (hx : ev T x = .d (.int .u64 p) := by kernel_rfl) (hy : ev T y = .d (.int .u64 q) := by kernel_rfl) (hz : ev T z = .d (.int .u64 c) := by kernel_rfl) (hc : ((decide (0 ≤ p) && decide (0 ≤ q)) && (decide (0 ≤ c) && decide (c ≤ 1))) = true) :
    PureV P ⟨dst, .call ⟨.value fop, #[x, y, z], tys⟩, type, pos, after, guard⟩ T H (.tuple [.d (.int .u64 ((p + q + c) % 18446744073709551616)), .d (.int .u64 ((p + q + c) / 18446744073709551616))]) := by
  simp only [Bool.and_eq_true, decide_eq_true_eq] at hc
  refine p_extern hf hfn hname hb hn he fun φ I w a hR hT => ?_
  have e1 := (hx ▸ ev_VR hT x).int_inv
  have e2 := (hy ▸ ev_VR hT y).int_inv
  have e3 := (hz ▸ ev_VR hT z).int_inv
  refine ⟨_, fun w' => by simpa [e1, e2, e3] using run_add64 (P := P) p q c hc.1.1 hc.1.2 hc.2.1 hc.2.2 w', .tuple _ _ rfl fun i v c' h1 h2 => ?_⟩
  match i, h1, h2 with
  | 0, h1, h2 => cases h1; cases h2; exact .d _ _ (.int _ _)
  | 1, h1, h2 => cases h1; cases h2; exact .d _ _ (.int _ _)
  | i + 2, h1, h2 => simp at h1
theorem p_sub64 {fop x y z : Operand} {tys : Array TypeId} {g : FuncId} {fn : Func} {p q c : Int} (hf : ev T fop = .fn g [] := by kernel_rfl) (hfn : P.funcs[g]? = some fn) (hname : (fn.name == "runtime.NumGoroutine") = false := by kernel_rfl) (hb : fn.body.isNone = true := by kernel_rfl) (hn : Extern.findNext fn = none := by kernel_rfl) (he : Extern.find fn = some sub64Entry := by kernel_rfl)
    (hx : ev T x = .d (.int .u64 p) := by kernel_rfl) (hy : ev T y = .d (.int .u64 q) := by kernel_rfl) (hz : ev T z = .d (.int .u64 c) := by kernel_rfl) (hc : ((decide (0 ≤ p) && decide (0 ≤ q)) && (decide (0 ≤ c) && decide (c ≤ 1))) = true) (hq : q ≤ 18446744073709551615) :
    PureV P ⟨dst, .call ⟨.value fop, #[x, y, z], tys⟩, type, pos, after, guard⟩ T H (.tuple [.d (.int .u64 ((p - q - c) % 18446744073709551616)), .d (.int .u64 (if p < q + c then 1 else 0))]) := by
  simp only [Bool.and_eq_true, decide_eq_true_eq] at hc
  refine p_extern hf hfn hname hb hn he fun φ I w a hR hT => ?_
  have e1 := (hx ▸ ev_VR hT x).int_inv
  have e2 := (hy ▸ ev_VR hT y).int_inv
  have e3 := (hz ▸ ev_VR hT z).int_inv
  refine ⟨_, fun w' => by simpa [e1, e2, e3] using run_sub64 (P := P) p q c hc.1.1 hc.1.2 hq hc.2.1 hc.2.2 w', .tuple _ _ rfl fun i v c' h1 h2 => ?_⟩
  match i, h1, h2 with
  | 0, h1, h2 => cases h1; cases h2; exact .d _ _ (.int _ _)
  | 1, h1, h2 => cases h1; cases h2; exact .d _ _ (.int _ _)
  | i + 2, h1, h2 => simp at h1
end
/-! ### the same operations in another order -/

def sameL (a b : List Nat) : Bool := (a.all fun i => b.contains i) && b.all fun i => a.contains i
theorem sameL_iff {a b : List Nat} (h : sameL a b = true) (i : Nat) : i ∈ a ↔ i ∈ b := by
  unfold sameL at h
  rw [Bool.and_eq_true, List.all_eq_true, List.all_eq_true] at h
  exact ⟨fun hi => by simpa using h.1 i hi, fun hi => by simpa using h.2 i hi⟩
theorem dLv {P : Program} {R : Type} {E : R → V × List Blk} {f : FuncId} {N m : Nat} {T U : Tm} {H H0 : List Blk} {k : List VI} {all : Array Oper} {st : List (Nat × Nat)} {lv : List Nat} {o : Option R} (lv' : List Nat) (h : sameL lv lv' = true := by kernel_rfl)
    (h1 : AnyO P f N m all st H0 lv' k T U H E o) : AnyO P f N m all st H0 lv k T U H E o := fun r hr φ0 I0 w0 φ I w a b cs A listed fuel Q hM =>
  h1 r hr φ0 I0 w0 φ I w a b cs A listed fuel Q
    ⟨hM.rel0, hM.rel, hM.tr, hM.tu, hM.le, hM.tm, hM.stk, hM.size, fun j hj => by rw [← sameL_iff h]; exact hM.lst j hj, hM.early, fun p hp hc => hM.out p hp ((sameL_iff h _).2 hc), hM.one, hM.dist⟩

section
variable {R X : Type} {E : R → V × List Blk} {A : X → Option R} {P : Program} {f : FuncId} {N m : Nat} {T U : Tm} {H H0 : List Blk} {k : List VI} {all : Array Oper} {st : List (Nat × Nat)} {lv : List Nat}
theorem bind_carry {x y c : Int} {o : Option X} : (gcarry x y c o).bind A = gcarry x y c (o.bind A) := by unfold gcarry; cases ((decide (0 ≤ x) && decide (0 ≤ y)) && (decide (0 ≤ c) && decide (c ≤ 1))) <;> rfl
theorem bCarry {x y c : Int} {o : Option X} (h : ((decide (0 ≤ x) && decide (0 ≤ y)) && (decide (0 ≤ c) && decide (c ≤ 1))) = true → GoesO P f N m k T H E (o.bind A)) : GoesO P f N m k T H E ((gcarry x y c o).bind A) := by
  rw [bind_carry]
  exact oGuard h
theorem dCarry {x y c : Int} {o : Option X} (h : ((decide (0 ≤ x) && decide (0 ≤ y)) && (decide (0 ≤ c) && decide (c ≤ 1))) = true → AnyO P f N m all st H0 lv k T U H E (o.bind A)) : AnyO P f N m all st H0 lv k T U H E ((gcarry x y c o).bind A) := by
  rw [bind_carry]
  exact aGuard h
theorem bind_le {x y : Int} {o : Option X} : (bif decide (x ≤ y) then o else none : Option X).bind A = bif decide (x ≤ y) then o.bind A else none := by cases decide (x ≤ y) <;> rfl
def gle {R : Type} (x y : Int) (k : Option R) : Option R := bif decide (x ≤ y) then k else none
theorem bLe {x y : Int} {o : Option X} (h : x ≤ y → GoesO P f N m k T H E (o.bind A)) : GoesO P f N m k T H E ((gle x y o).bind A) := by
  unfold gle
  rw [bind_le]
  exact oGuard fun hb => h (of_decide_eq_true hb)
theorem dLe {x y : Int} {o : Option X} (h : x ≤ y → AnyO P f N m all st H0 lv k T U H E (o.bind A)) : AnyO P f N m all st H0 lv k T U H E ((gle x y o).bind A) := by
  unfold gle
  rw [bind_le]
  exact aGuard fun hb => h (of_decide_eq_true hb)
end
end Go.VM
namespace Go.VM
section
variable {R : Type} {E : R → V × List Blk} {o : Option R} {P : Program} {f : FuncId} {N m : Nat} {T U : Tm} {H H0 : List Blk} {k : List VI} {all : Array Oper} {st : List (Nat × Nat)} {lv : List Nat}
theorem oP {i : Nat} {q : Oper} {l : List Oper} (v : V) (hp : PureV P q T H v) (h : GoesO P f N m (.ops all (i + 1) l :: k) (tput T q.dst v) H E o) (hw : vwanted T all q = some true := by kernel_rfl) (hN : inN N q.dst = true := by kernel_rfl) : GoesO P f N m (.ops all i (q :: l) :: k) T H E o := oOp v hw hN hp.does h
theorem oQ {i : Nat} {q : Oper} {l : List Oper} {bs : List Nat} (v : V) (hp : Quiet P q T H bs v) (h : GoesO P f N m (.ops all (i + 1) l :: k) (tput T q.dst v) H E o) (hw : vwanted T all q = some true := by kernel_rfl) (hN : inN N q.dst = true := by kernel_rfl) : GoesO P f N m (.ops all i (q :: l) :: k) T H E o := oOp v hw hN hp.does h
theorem oD {i : Nat} {q : Oper} {l : List Oper} {H' : List Blk} {tc : List Nat} (v : V) (hp : Does P q T H v H' tc) (h : GoesO P f N m (.ops all (i + 1) l :: k) (tput T q.dst v) H' E o) (hw : vwanted T all q = some true := by kernel_rfl) (hN : inN N q.dst = true := by kernel_rfl) : GoesO P f N m (.ops all i (q :: l) :: k) T H E o := oOp v hw hN hp h
theorem oSR {id : Nat} {c2 : Code} {all : Array Oper} {l : List Oper} (hl : all.toList = l) (h : GoesO P f N m (.ops all 0 l :: .code c2 :: k) T H E o) : GoesO P f N m (.code (.seq (.region id all false) c2) :: k) T H E o := oSeq (oRegion hl h)
theorem aQ (i : Nat) (bs : List Nat) {q : Oper} (v : V) (hi : all[i]? = some q) (hp : Quiet P q U H0 bs v) (h : AnyO P f N m all st H0 (i :: lv) k (tput T q.dst v) (tput U q.dst v) H E o) (hun : lv.contains i = false := by kernel_rfl) (hpre : predsV all lv q = true := by kernel_rfl) (hfree : freeV all lv i q = true := by kernel_rfl) (hsel : Region.noSelect all = true := by kernel_rfl) (hN : inN N q.dst = true := by kernel_rfl) (hw : vwanted T all q = some true := by kernel_rfl)
    (hst : takesV all st lv i bs = true := by kernel_rfl) : AnyO P f N m all st H0 lv k T U H E o := aTakeL v hi hun hpre hfree hsel hN hw hst hp h
theorem aP (i : Nat) {q : Oper} (v : V) (hi : all[i]? = some q) (hp : PureV P q U H0 v) (h : AnyO P f N m all st H0 (i :: lv) k (tput T q.dst v) (tput U q.dst v) H E o) (hun : lv.contains i = false := by kernel_rfl) (hpre : predsV all lv q = true := by kernel_rfl) (hfree : freeV all lv i q = true := by kernel_rfl) (hsel : Region.noSelect all = true := by kernel_rfl) (hN : inN N q.dst = true := by kernel_rfl) (hw : vwanted T all q = some true := by kernel_rfl)
    (hst : takesV all st lv i [] = true := by kernel_rfl) : AnyO P f N m all st H0 lv k T U H E o := aTakeL v hi hun hpre hfree hsel hN hw hst (hp.quiet []) h
end
end Go.VM
namespace Go.VM
section
variable {P : Program} {T : Tm} {H : List Blk} {dst : Option Tmp} {type : TypeId} {pos : String} {after : Array Edge} {guard : Option (Nat × Bool)}
/-! ### parts of a block that is written -/
theorem cut_ref {φ : List Plc} {I : Nat → Prop} {w : World} {b L off len sz l h : Nat} {xs : List (List D)} {fro : Bool} {c : Value} (hR : Rel H φ I w) (hk : H[b]? = some (.sl sz xs fro)) (hL : xs.length = L) (hv : VR φ I w (.ref b L off len) c) (h1 : l ≤ h) (h2 : h ≤ len) :
    ∃ a cap, c = .slice a len cap ∧ len ≤ cap ∧ VR φ I w (.ref b L (off + l) (h - l)) (sliced a l h cap sz) := by
  rcases VR.ref_inv hR hk hL hv with ⟨hb, _, rfl, rfl, rfl, rfl⟩ | ⟨rfl, ho, a, g, δ, n, rfl, hb⟩ | ⟨g, δ, arr, ty, cap, rfl, hb, hg, hfA, hxlen, hxd, hz0, hI, g1, g2, g3, g4⟩
  · obtain rfl : h = 0 := by omega
    obtain rfl : l = 0 := by omega
    exact ⟨none, 0, rfl, Nat.le_refl _, by simp only [sliced, if_true, Nat.sub_self, Nat.add_zero]; exact .virt b hb⟩
  · obtain rfl : h = 0 := by omega
    obtain rfl : l = 0 := by omega
    exact ⟨a, 0, rfl, Nat.le_refl _, by simp only [sliced, if_true, Nat.sub_self, Nat.add_zero]; exact .refZ b L off g δ sz n a hb ho⟩
  · refine ⟨_, cap, rfl, g2, ?_⟩
    by_cases hcl : cap = l
    · obtain rfl : l = h := by omega
      simp only [sliced, if_pos hcl, Nat.sub_self, hcl]
      exact .refZ b L (off + l) g δ sz _ _ hb (by omega)
    · simp only [sliced, if_neg hcl, Option.map_some, add_none]
      have := VR.ref (gs := []) (φ := φ) (I := I) (w := w) b L (off + l) (h - l) g δ sz arr.size (cap - l) hb (by omega) (by omega) (by omega) (by rw [show off + l + (cap - l) = off + cap by omega]; exact g4)
      rw [show δ + (off + l) * sz = δ + off * sz + l * sz by rw [Nat.add_mul]; omega] at this
      exact this
theorem k_partL {α : Type} {enc : α → List D} {t e : TypeId} {x y : Operand} {k1 : IntKind} {l : Int} {z : Value} {sz bytes : Nat} (b off len : Nat) (xs : List α) {fro : Bool} (hx : ev T x = .ref b xs.length off len := by kernel_rfl) (hk : H[b]? = some (.sl sz (xs.map enc) fro) := by kernel_rfl) (hy : ev T y = .d (.int k1 l) := by kernel_rfl) (hu : P.underlying t = some (.slice e)) (hi : TyI P e z sz bytes)
    (h1 : 0 ≤ l) (h2 : l ≤ len) : PureV P ⟨dst, .slice t x (some y) none none, type, pos, after, guard⟩ T H (.ref b xs.length (off + l.toNat) (len - l.toNat)) := fun φ I w a hR hT => by
  have e2 := (hy ▸ ev_VR hT y).int_inv
  obtain ⟨ad, cap, hc, hle, hv⟩ := cut_ref (l := l.toNat) (h := len) hR hk (map_len enc xs) (hx ▸ ev_VR hT x) (by omega) (by omega)
  exact ⟨_, fun w' => by simp [execOp, hc, e2, run_sliceAt_slice w' t _ _ _ _ (elem_of hu), run_slice_l w' t ad len cap (elem_of hu) k1 l h1 (by omega), elem_eq hu, run_sizeOf hi], hv⟩
theorem k_partH {α : Type} {enc : α → List D} {t e : TypeId} {x y2 : Operand} {k2 : IntKind} {h : Int} {z : Value} {sz bytes : Nat} (b off len : Nat) (xs : List α) {fro : Bool} (hx : ev T x = .ref b xs.length off len := by kernel_rfl) (hk : H[b]? = some (.sl sz (xs.map enc) fro) := by kernel_rfl) (hy2 : ev T y2 = .d (.int k2 h) := by kernel_rfl) (hu : P.underlying t = some (.slice e)) (hi : TyI P e z sz bytes)
    (h1 : 0 ≤ h) (h2 : h ≤ len) : PureV P ⟨dst, .slice t x none (some y2) none, type, pos, after, guard⟩ T H (.ref b xs.length off h.toNat) := fun φ I w a hR hT => by
  have e2 := (hy2 ▸ ev_VR hT y2).int_inv
  obtain ⟨ad, cap, hc, hle, hv⟩ := cut_ref (l := 0) (h := h.toNat) hR hk (map_len enc xs) (hx ▸ ev_VR hT x) (by omega) (by omega)
  exact ⟨sliced ad 0 h.toNat cap sz, fun w' => by simp [execOp, hc, e2, run_sliceAt_slice w' t _ _ _ _ (elem_of hu), run_slice_h w' t ad len cap (elem_of hu) k2 h h1 (by omega), elem_eq hu, run_sizeOf hi], by simpa using hv⟩
end
end Go.VM
namespace Go.VM
section
variable {P : Program} {f : FuncId} {N m : Nat} {T : Tm} {H : List Blk} {r : V} {B : List Blk} {k : List VI}
theorem gFall {fn : Func} {rs : List ResultVar} {vs : List V} {σ : List Nat} (hf : P.funcs[f]? = some fn) (hrs : fn.results.toList = rs) (hres : ResRs P T H rs vs) (hr : mapV (nth σ) r = resV vs) (hrc : closedV σ.length r = true)
    (hσm : σ.take m = List.range m) (hσ : σ.all (fun b => Nat.blt b H.length) = true) (hnd : σ.Nodup) (hB : σ.map (fun b => H[b]?) = B.map (fun k => some (mapB (nth σ) k))) (hcl : B.all (closedB σ.length) = true) :
    Goes P f N m [] T H r B := fun φ I w a b cs hR hT hd hsz hk hff hkd => by
  have hσ' : ∀ b ∈ σ, b < H.length := fun b hb => Nat.le_of_ble_eq_true (List.all_eq_true.1 hσ b hb)
  have hσφ : ∀ b ∈ σ, b < φ.length := by rw [hR.len]; exact hσ'
  have hRB := hR.pick hσ' hnd hB (List.all_eq_true.1 hcl)
  obtain ⟨cl, h1, h2, h3⟩ := hres.run hR hT
  have hrun : (results fn a.tmps).run P w = .ok (if h : cl.toArray.size = 1 then cl.toArray[0] else .tuple cl.toArray) w := by
    rw [results_eq, Array.mapM_eq_mapM_toList, hrs]
    simp only [Sem.run_bind, Sem.run_map, h1, Result.andThen_ok, Sem.run_pure]
  have hvr : VR φ I w (resV vs) (if h : cl.toArray.size = 1 then cl.toArray[0] else .tuple cl.toArray) := by
    by_cases h1' : vs.length = 1
    · obtain ⟨v, rfl⟩ : ∃ v, vs = [v] := by cases vs with | nil => cases h1' | cons v vs => cases vs with | nil => exact ⟨v, rfl⟩ | cons => simp at h1'
      obtain ⟨c, rfl⟩ : ∃ c, cl = [c] := by cases cl with | nil => cases h2 | cons c cl => cases cl with | nil => exact ⟨c, rfl⟩ | cons => simp at h2
      simp only [resV, List.size_toArray, List.length_cons, List.length_nil, Nat.zero_add, dite_true]
      exact h3 0 v c rfl rfl
    · have hne : ¬ cl.toArray.size = 1 := by simp; omega
      rw [dif_neg hne]
      have : resV vs = .tuple vs := by
        match vs, h1' with
        | [], _ => rfl
        | [v], h => exact absurd rfl h
        | v :: u :: vs, _ => rfl
      rw [this]
      exact .tuple _ _ (by simp [h2]) fun i v c hv hc => h3 i v c hv (by simpa using hc)
  refine ⟨pick σ φ, I, w, _, { b.at a [] with mode := .returning }, .one step_end, hff, ⟨rfl, hd, hkd, fn, by rw [← hf, ← hff]; rfl, hrun⟩, ?_, hRB, ?_⟩
  · refine ⟨rfl, rfl, rfl, Nat.le_refl _, Nat.le_refl _, fun _ _ _ => rfl, fun _ _ => rfl, fun _ h => h, fun b hb l hl => ?_, fun b l g hb hg => ?_, fun _ h => .inl h⟩
    · have hbt : σ[b]? = some b := by
        have : (σ.take m)[b]? = some b := by rw [hσm]; simp [hb]
        rw [List.getElem?_take_of_lt hb] at this
        exact this
      have hbl := (List.getElem?_eq_some_iff.1 hbt).1
      refine ⟨l, ?_, .refl l⟩
      rw [pick_get hbl hσφ]
      simp only [nth, List.getD_eq_getElem?_getD, hbt, Option.getD_some]
      exact hl
    · have hbl : b < σ.length := by have := (List.getElem?_eq_some_iff.1 hb).1; simpa [VM.pick] using this
      rw [pick_get hbl hσφ] at hb
      exact .inr ⟨_, l, hb, hg⟩
  · exact mapV_back (n := σ.length) (fun b hb => (pick_get hb hσφ).symm) r _ hrc (by rw [hr]; exact hvr)


end
section
variable {R : Type} {E : R → V × List Blk} {o : Option R} {P : Program} {f : FuncId} {N m : Nat} {T : Tm} {H : List Blk} {k : List VI}
theorem oFall {r0 : R} {fn : Func} {rs : List ResultVar} {vs : List V} {rv : V} {B : List Blk} {σ : List Nat} (hE : E r0 = (rv, B) := by kernel_rfl) (hf : P.funcs[f]? = some fn) (hrs : fn.results.toList = rs) (hres : ResRs P T H rs vs) (hr : mapV (nth σ) rv = resV vs := by kernel_rfl) (hrc : closedV σ.length rv = true := by kernel_rfl)
    (hσm : σ.take m = List.range m := by kernel_rfl) (hσ : σ.all (fun b => Nat.blt b H.length) = true := by kernel_rfl) (hnd : σ.Nodup) (hB : σ.map (fun b => H[b]?) = B.map (fun k => some (mapB (nth σ) k)) := by kernel_rfl) (hcl : B.all (closedB σ.length) = true := by kernel_rfl) :
    GoesO P f N m [] T H E (some r0) := fun r hr' => by
  cases hr'
  rw [hE]
  exact gFall hf hrs hres hr hrc hσm hσ hnd hB hcl

end
section
variable {R X : Type} {E : R → V × List Blk} {A : X → Option R} {P : Program} {f : FuncId} {N m : Nat} {T : Tm} {H : List Blk} {todo : List VI}
/-- What is said holds where the lengths are equal. -/
def glen {X : Type} (p q : Nat) (o : Option X) : Option X := bif Nat.beq p q then o else none
theorem glen_some {X : Type} {p q : Nat} {o : Option X} (h : p = q) : glen p q o = o := by subst h; unfold glen; rw [Nat.beq_refl]; rfl
theorem bLen {p q : Nat} {o : Option X} (h : p = q → GoesO P f N m todo T H E (o.bind A)) : GoesO P f N m todo T H E ((glen p q o).bind A) := by
  unfold glen
  cases hb : Nat.beq p q with
  | true => exact h (Nat.eq_of_beq_eq_true hb)
  | false => exact bNone
end
end Go.VM
namespace Go.VM
section
variable {P : Program} {T : Tm} {H : List Blk} {dst : Option Tmp} {type : TypeId} {pos : String} {after : Array Edge} {guard : Option (Nat × Bool)}

theorem k_lenPart {α : Type} {enc : α → List D} {t : TypeId} {x : Operand} {e : TypeId} (b off len : Nat) {sz : Nat} (xs : List α) {fro : Bool} (hx : ev T x = .ref b xs.length off len := by kernel_rfl) (hk : H[b]? = some (.sl sz (xs.map enc) fro) := by kernel_rfl) (hu : P.underlying t = some (.slice e)) :
    PureV P ⟨dst, .call ⟨.builtin .len, #[x], #[t]⟩, type, pos, after, guard⟩ T H (.d (.int .i64 len)) := p_lenRef hx hk (map_len enc xs) hu
theorem part_get {α : Type} {xs : List α} {off len i : Nat} {a : α} (h : (List.take len (List.drop off xs))[i]? = some a) : xs[off + i]? = some a := by
  have hil : i < len := by have := (List.getElem?_eq_some_iff.1 h).1; simp at this; omega
  rwa [List.getElem?_take_of_lt hil, List.getElem?_drop] at h
theorem k_idxPart {α : Type} {enc : α → List D} {t e : TypeId} {x y : Operand} {k : IntKind} {i : Int} {fro : Bool} {z : Value} {sz bytes : Nat} (b off len : Nat) (xs : List α) {a : α} (hx : ev T x = .ref b xs.length off len := by kernel_rfl) (hy : ev T y = .d (.int k i) := by kernel_rfl) (hk : H[b]? = some (.sl sz (xs.map enc) fro) := by kernel_rfl) (hu : P.underlying t = some (.slice e)) (hi : TyI P e z sz bytes)
    (h0 : 0 ≤ i) (he : (List.take len (List.drop off xs))[i.toNat]? = some a) : PureV P ⟨dst, .indexAddr t x y, type, pos, after, guard⟩ T H (.eptr b xs.length (off + i.toNat) 0) :=
  p_idxRef hx hy hk (map_len enc xs) hu hi h0 (by have := (List.getElem?_eq_some_iff.1 he).1; simp at this; omega) rfl
theorem k_litPart {α : Type} {enc : α → List D} {sz : Nat} (b off len : Nat) (xs : List α) (hk : H[b]? = some (.sl sz (xs.map enc) true) := by kernel_rfl) (hle : off + len ≤ xs.length) : ConvR H (.ref b xs.length off len) (.d (.lit ((List.take len (List.drop off xs)).map enc))) :=
  .lit b _ off len sz _ _ hk (map_len enc xs) hle (by rw [List.map_take, List.map_drop])

theorem run_clear_none {t e ty : TypeId} {w : World} (hu : P.underlying t = some (.slice e)) (base : Option Addr) (cap : Nat) : (Builtin.clear_ #[t] ty #[.slice base 0 cap]).run P w = .ok (.tuple #[]) w := by
  cases base <;> simp [Builtin.clear_, run_underlying hu]
theorem run_clear_in {t e ty : TypeId} {w : World} {z : Value} {sz bytes : Nat} (hu : P.underlying t = some (.slice e)) (hi : TyI P e z sz bytes) (hzs : z.cells.size = sz) (g o len cap : Nat) (hlen : 0 < len)
    {cur : Array Value} {ct : TypeId} (hg : w.heap[g]? = some (.cells cur ct (0, 0))) (h1 : ∀ v ∈ (Builtin.zeroCells z.cells len).toList, v.oneCell' = true) (hfit : o + len * sz ≤ cur.size) :
    (Builtin.clear_ #[t] ty #[.slice (some ⟨g, o, none⟩) len cap]).run P w =
      .ok (.tuple #[]) (w.setRow g (cur.toList.take o ++ (Builtin.zeroCells z.cells len).toList ++ cur.toList.drop (o + (Builtin.zeroCells z.cells len).toList.length)).toArray) := by
  obtain ⟨i, t1, t2, t3, t4⟩ := hi.get
  subst t3
  have hst := run_storeCells_at P g o ct (Builtin.zeroCells z.cells len).toList 0 cur w hg (by simp [Builtin.zeroCells, hzs]; omega) h1
  simp only [Nat.add_zero] at hst
  obtain ⟨len, rfl⟩ : ∃ l, len = l + 1 := ⟨len - 1, by omega⟩
  simp only [List.append_assoc, Array.length_toList] at hst
  simp [Builtin.clear_, run_underlying hu, zeroValue, typeInfo, t1, t2, hst]
theorem zero_get (zero : Array Value) (n i : Nat) (h : i < n * zero.size) (hz : 0 < zero.size) : (Builtin.zeroCells zero n)[i]? = zero[i % zero.size]? := by
  have hlt : i % zero.size < zero.size := Nat.mod_lt _ hz
  simp [Builtin.zeroCells, h, hlt]

theorem d_clear {t e : TypeId} {x : Operand} {b L off len sz bytes : Nat} {xs xs' : List (List D)} {z : Value} {zd : List D} (hu : P.underlying t = some (.slice e)) (hi : TyI P e z sz bytes) (hz : 0 < sz) (hzd : z.cells.toList.map cvD = zd.map some) (hzl : zd.length = sz)
    (hx : ev T x = .ref b L off len) (hk : H[b]? = some (.sl sz xs false)) (hL : xs.length = L) (hxs : xs.take off ++ List.replicate len zd ++ xs.drop (off + len) = xs') :
    Does P ⟨dst, .call ⟨.builtin .clear, #[x], #[t]⟩, type, pos, after, guard⟩ T H (.tuple []) (H.set b (.sl sz xs' false)) [b] := fun φ I w a hR hT => by
  have hX : VR φ I w (.ref b L off len) (a.eval x) := hx ▸ ev_VR hT x
  have hinv := VR.ref_inv hR hk hL hX
  have hexec : ∀ (c : Value) (w' : World), (Builtin.clear_ #[t] type #[a.eval x]).run P w = .ok c w' → (execOp a.eval ⟨dst, .call ⟨.builtin .clear, #[x], #[t]⟩, type, pos, after, guard⟩).run P w = .ok (.value c) w' := fun c w' h => by
    simp [execOp, resolve, invoke, builtin, h]
  rcases Nat.eq_zero_or_pos len with h0 | h0
  · subst h0
    have e1 : xs' = xs := by rw [← hxs]; simp
    have e2 : H.set b (.sl sz xs' false) = H := by rw [e1]; exact set_same hk
    obtain ⟨base, cap, hc⟩ : ∃ base cap, a.eval x = .slice base 0 cap := by
      rcases hinv with ⟨_, _, _, _, h2, hc⟩ | ⟨h1, _, a0, _, _, _, hc, _⟩ | ⟨g, δ, arr, ty, cap, hc, _⟩
      · exact ⟨none, 0, hc⟩
      · exact ⟨a0, 0, hc⟩
      · exact ⟨_, cap, hc⟩
    have hrun := run_clear_none (P := P) (ty := type) (w := w) hu base cap
    refine ⟨φ, I, w, _, .inl (hexec _ _ (by rw [hc]; exact hrun)), Turn.refl φ I w, by rw [e2]; exact hR, ?_, Keeps.refl φ [b] w⟩
    exact .tuple [] #[] rfl fun i v c h => by simp at h
  · rcases hinv with ⟨_, _, _, _, h2, _⟩ | ⟨h2, _⟩ | ⟨g, δ, arr, ty, cap, hc, hb, hg, hfA, hxlen, hxd, hz0, hI, g1, g2, g3, g4⟩
    · omega
    · omega
    · have hnI : ¬ I g := fun h => by have := hI.2 h; cases this
      have hzs : z.cells.size = sz := by have := congrArg List.length hzd; simp at this; omega
      have hmul : (off + len) * sz ≤ L * sz := Nat.mul_le_mul_right _ (by omega)
      have hmul' : (off + len) * sz = off * sz + len * sz := Nat.add_mul _ _ _
      have hnl : (Builtin.zeroCells z.cells len).toList.length = len * sz := by simp [Builtin.zeroCells, hzs]
      have hgetz : ∀ p, p < len * sz → ∃ (d : D) (c : Value), zd[p % sz]? = some d ∧ (Builtin.zeroCells z.cells len).toList[p]? = some c ∧ cvD c = some d := fun p hp => by
        have hlt : p % sz < sz := Nat.mod_lt _ hz
        have h1 : (Builtin.zeroCells z.cells len)[p]? = z.cells[p % sz]? := by rw [zero_get _ _ _ (by rw [hzs]; exact hp) (by omega), hzs]
        have h2 : z.cells[p % sz]? = some (z.cells[p % sz]'(by omega)) := Array.getElem?_eq_getElem (by omega)
        refine ⟨zd[p % sz]'(by omega), z.cells[p % sz]'(by omega), List.getElem?_eq_getElem (by omega), by rw [Array.getElem?_toList, h1, h2], ?_⟩
        have hq : (z.cells.toList.map cvD)[p % sz]? = (zd.map some)[p % sz]? := by rw [hzd]
        rw [List.getElem?_map, List.getElem?_map, Array.getElem?_toList, h2, List.getElem?_eq_getElem (by omega)] at hq
        simpa using hq
      have hn1 : ∀ v ∈ (Builtin.zeroCells z.cells len).toList, v.oneCell' = true := fun v hv => by
        obtain ⟨p, hp⟩ := List.getElem?_of_mem hv
        have hlt := (List.getElem?_eq_some_iff.1 hp).1
        obtain ⟨d, c, _, h2, h3⟩ := hgetz p (by omega)
        rw [hp] at h2
        cases h2
        exact vone_oneCell (cvD_DR I w h3).one
      have hrun := run_clear_in (P := P) (ty := type) (w := w) hu hi hzs g (δ + off * sz) len cap h0 hg hn1 (by omega)
      have hfitA : δ + off * sz + (Builtin.zeroCells z.cells len).toList.length ≤ arr.toList.length := by rw [hnl, Array.length_toList]; omega
      obtain ⟨news, hnews⟩ : ∃ news, news = (Builtin.zeroCells z.cells len).toList := ⟨_, rfl⟩
      rw [← hnews] at hrun hfitA hnl
      obtain ⟨arr', harr'⟩ : ∃ arr', arr' = (arr.toList.take (δ + off * sz) ++ news ++ arr.toList.drop (δ + off * sz + news.length)).toArray := ⟨_, rfl⟩
      rw [← harr'] at hrun
      have hsz : arr'.size = arr.size := by
        have h0 := Array.length_toList (xs := arr)
        subst harr'
        simp only [List.size_toArray, List.length_append, List.length_take, List.length_drop]
        omega
      have hlx : xs'.length = L := by
        rw [← hxs]; simp; omega
      have hxs2 : xs.take off ++ List.replicate len zd ++ xs.drop (off + (List.replicate len zd).length) = xs' := by rw [List.length_replicate]; exact hxs
      have hget : ∀ i, xs'[i]? = if off ≤ i ∧ i < off + len then some zd else xs[i]? := fun i => by
        rw [← hxs2, splice_get _ _ _ (by simp; omega), List.length_replicate]
        by_cases h : off ≤ i ∧ i < off + len
        · rw [if_pos h, if_pos h, List.getElem?_replicate, if_pos (by omega)]
        · rw [if_neg h, if_neg h]
      have hw := hR.write (b := b) (l := .at g δ sz L arr.size []) (l' := .at g δ sz L arr.size []) (g := g) hb rfl hnI (.refl _) (fun _ h => h) arr' (.sl sz xs' false)
      have hsame : ∀ g', I g' → (w.setRow g arr').heap[g']? = w.heap[g']? := fun g' hg' => setRow_other w g g' _ fun e => hnI (e ▸ hg')
      have hrow' : ∀ (j : Nat) (x : List D), xs'[j]? = some x → x.length = sz := fun j x hj => by
        rw [hget] at hj
        split at hj
        · cases hj; exact hzl
        · exact hxlen _ _ hj
      have hbr := BR.sl (φ := φ.set b (.at g δ sz L arr.size [])) (I := I) sz xs' false g δ _ ty (setRow_heap w g arr arr' ty (0, 0) hg) (by rw [hsz, hlx]; exact hfA) hrow' (fun i j d c hd hcj => by
        refine DR.mono (fun _ h => h) hsame (I := I) (w := w) ?_
        subst harr'
        simp only [List.getElem?_toArray] at hcj
        rw [splice_get _ _ _ hfitA, hnl] at hcj
        obtain ⟨x', hx', hj'⟩ := get2_some hd
        have hjlt : j < sz := by rw [← hrow' i x' hx']; exact (List.getElem?_eq_some_iff.1 hj').1
        rw [hget] at hx'
        by_cases hin : off ≤ i ∧ i < off + len
        · rw [if_pos hin] at hx'
          cases hx'
          have h4 : i * sz = off * sz + (i - off) * sz := by
            have : i = off + (i - off) := by omega
            rw [show i * sz = (off + (i - off)) * sz by rw [← this], Nat.add_mul]
          have h5 : (i - off) * sz + sz ≤ len * sz := by rw [← Nat.succ_mul]; exact Nat.mul_le_mul_right _ (by omega)
          rw [if_pos (by omega)] at hcj
          rw [show δ + i * sz + j - (δ + off * sz) = (i - off) * sz + j by omega] at hcj
          obtain ⟨d2, c2, k1, k2, k3⟩ := hgetz ((i - off) * sz + j) (by omega)
          rw [hnews, k2] at hcj
          cases hcj
          rw [show ((i - off) * sz + j) % sz = j by rw [Nat.mul_comm, Nat.mul_add_mod]; exact Nat.mod_eq_of_lt hjlt, hj'] at k1
          cases k1
          exact cvD_DR I w k3
        · rw [if_neg hin] at hx'
          have hnot : ¬ (δ + off * sz ≤ δ + i * sz + j ∧ δ + i * sz + j < δ + off * sz + len * sz) := by
            rcases Nat.lt_or_ge i off with h | h
            · have h1 : i * sz + sz ≤ off * sz := by rw [← Nat.succ_mul]; exact Nat.mul_le_mul_right _ h
              omega
            · have h1 : (off + len) * sz ≤ i * sz := Nat.mul_le_mul_right _ (by omega)
              omega
          rw [if_neg hnot] at hcj
          exact hxd i j d c (get2_mk hx' hj') (by simpa using hcj)) hz0 ⟨fun h => (by cases h), fun h => (hnI h).elim⟩
      rw [hlx, hsz] at hbr
      obtain ⟨h1, h2, hkp⟩ := hw hbr
      exact ⟨_, I, _, _, .inl (hexec _ _ (by rw [hc]; exact hrun)), h2, h1, .tuple [] #[] rfl fun i v c h => by simp at h, hkp⟩
end
def gclear {α : Type} (xs : List α) (z : α) (off len : Nat) : List α := List.take xs.length (List.take off xs ++ List.replicate len z ++ List.drop (off + len) xs)
theorem gclear_len {α : Type} {xs : List α} {z : α} {off len : Nat} : (gclear xs z off len).length = xs.length := by
  unfold gclear
  simp only [List.length_take, List.length_append, List.length_drop, List.length_replicate]
  omega
theorem clear_len {α : Type} {xs xs' : List α} {z : α} {off len : Nat} (h : gclear xs z off len = xs') : xs.length = xs'.length := by rw [← h, gclear_len]
section
variable {P : Program} {T : Tm} {H : List Blk} {dst : Option Tmp} {type : TypeId} {pos : String} {after : Array Edge} {guard : Option (Nat × Bool)}
theorem k_clear {α : Type} {enc : α → List D} {t e : TypeId} {x : Operand} {sz bytes : Nat} {z : Value} (b off len : Nat) (xs : List α) (e0 : α) (zd : List D) {xs' : List α} {H' : List Blk} (hu : P.underlying t = some (.slice e)) (hi : TyI P e z sz bytes) (hok : (Nat.blt 0 sz && Nat.beq zd.length sz) = true := by kernel_rfl) (hzd : z.cells.toList.map cvD = zd.map some := by kernel_rfl) (he : enc e0 = zd := by kernel_rfl)
    (hx : ev T x = .ref b xs.length off len := by kernel_rfl) (hk : H[b]? = some (.sl sz (xs.map enc) false) := by kernel_rfl) (hxs : gclear xs e0 off len = xs') (hH : H.set b (.sl sz (xs'.map enc) false) = H' := by kernel_rfl) :
    Does P ⟨dst, .call ⟨.builtin .clear, #[x], #[t]⟩, type, pos, after, guard⟩ T H (.tuple []) H' [b] := fun φ I w a hR hT => by
  subst hH
  obtain ⟨h1, h2⟩ := Bool.and_eq_true_iff.1 hok
  have hX : VR φ I w (.ref b xs.length off len) (a.eval x) := hx ▸ ev_VR hT x
  have hle : off + len ≤ xs.length := by
    rcases VR.ref_inv hR hk (map_len enc xs) hX with ⟨_, _, h1, h2, h3, _⟩ | ⟨h1, h2, _⟩ | ⟨g, δ, arr, ty, cap, hc, hb, hg, hfA, hxlen, hxd, hz0, hI, g1, g2, g3, g4⟩ <;> omega
  refine d_clear hu hi (Nat.le_of_ble_eq_true h1) hzd (Nat.eq_of_beq_eq_true h2) hx hk (map_len enc xs) ?_ φ I w a hR hT
  have hg : gclear xs e0 off len = List.take off xs ++ List.replicate len e0 ++ List.drop (off + len) xs := by
    unfold gclear
    apply List.take_of_length_le
    simp only [List.length_take, List.length_append, List.length_drop, List.length_replicate]
    omega
  rw [← hxs, hg, ← he]
  simp only [List.map_append, List.map_take, List.map_drop, List.map_replicate]
end
end Go.VM
