/- The single steps, in the form in which the printed proofs use them: all that can be computed is left to the kernel. -/
import Derived.Test.YtdebnihlkdabpaaEngN
namespace Go.VM
set_option linter.unusedVariables false
set_option linter.unusedSimpArgs false

def isBox (H : List Blk) (b : Nat) : Bool := match H[b]? with | some (.box _) => true | _ => false
def boxCells (H : List Blk) (b : Nat) : List V := match H[b]? with | some (.box cells) => cells | _ => []
theorem isBox_spec {H : List Blk} {b : Nat} (h : isBox H b = true) : H[b]? = some (.box (boxCells H b)) := by
  unfold isBox at h
  unfold boxCells
  split at h
  · next c hc => rw [hc]
  · cases h
def cellAt (H : List Blk) (b off : Nat) : Option V := bif isBox H b then (boxCells H b)[off]? else none
def cellsAt (H : List Blk) (b off sz : Nat) : Option (List V) := bif isBox H b && Nat.ble (off + sz) (boxCells H b).length then some (((boxCells H b).drop off).take sz) else none
def aggOf : V → Option (List V)
  | .agg cs => some cs
  | _ => none
theorem aggOf_spec {v : V} {cs : List V} (h : aggOf v = some cs) : v = .agg cs := by
  cases v <;> cases h; rfl
def tupOf : V → Option (List V)
  | .tuple cs => some cs
  | _ => none
theorem tupOf_spec {v : V} {cs : List V} (h : tupOf v = some cs) : v = .tuple cs := by
  cases v <;> cases h; rfl
def gmax (p q : Int) : Int := if q > p then q else p
def gmin (p q : Int) : Int := if q < p then q else p

variable {P : Program} {T : Tm} {H : List Blk} {dst : Option Tmp} {type : TypeId} {pos : String} {after : Array Edge} {guard : Option (Nat × Bool)}

theorem k_load {t : TypeId} {x : Operand} (b off : Nat) {d : TypeDesc} {v : V} (hx : ev T x = .ptr b off := by kernel_rfl) (hu : P.underlying t = some d) (hd : aggD d = false := by kernel_rfl) (hv : cellAt H b off = some v := by kernel_rfl) : Quiet P ⟨dst, .load t x, type, pos, after, guard⟩ T H [b] v := by
  unfold cellAt at hv
  cases hb : isBox H b with
  | false => rw [hb] at hv; cases hv
  | true => rw [hb] at hv; exact q_load hx (isBox_spec hb) hu hd hv
theorem k_loadAgg {t : TypeId} {x : Operand} (b off : Nat) {d : TypeDesc} {z : Value} {sz bytes : Nat} {vs : List V} (hx : ev T x = .ptr b off := by kernel_rfl) (hu : P.underlying t = some d) (hd : aggD d = true := by kernel_rfl) (hi : TyI P t z sz bytes) (hv : cellsAt H b off sz = some vs := by kernel_rfl) :
    Quiet P ⟨dst, .load t x, type, pos, after, guard⟩ T H [b] (.agg vs) := by
  unfold cellsAt at hv
  cases hb : isBox H b && Nat.ble (off + sz) (boxCells H b).length with
  | false => rw [hb] at hv; cases hv
  | true =>
    rw [hb] at hv
    obtain ⟨hb1, hb2⟩ := Bool.and_eq_true_iff.1 hb
    have := Nat.le_of_ble_eq_true hb2
    have e := Option.some.inj hv
    refine q_loadAgg hx (isBox_spec hb1) hu hd hi e ?_
    rw [← e]; simp; omega
theorem k_store {t : TypeId} {x y : Operand} (b off : Nat) {vs : List V} {z : Value} {sz bytes : Nat} {H' : List Blk} (hx : ev T x = .ptr b off := by kernel_rfl) (hi : TyI P t z sz bytes) (hv : (ev T y).cells? = some vs := by kernel_rfl) (hok : (isBox H b && (Nat.beq vs.length sz && (vs.all V.one && Nat.ble (off + sz) (boxCells H b).length))) = true := by kernel_rfl)
    (hH : H.set b (.box (vput (boxCells H b) off vs)) = H' := by kernel_rfl) : Does P ⟨dst, .store t x y, type, pos, after, guard⟩ T H .undef H' [b] := by
  obtain ⟨h1, h2⟩ := Bool.and_eq_true_iff.1 hok
  obtain ⟨h3, h4⟩ := Bool.and_eq_true_iff.1 h2
  obtain ⟨h5, h6⟩ := Bool.and_eq_true_iff.1 h4
  subst hH
  exact d_store hx (isBox_spec h1) hi hv (Nat.eq_of_beq_eq_true h3) h5 (Nat.le_of_ble_eq_true h6) rfl
theorem k_fieldAddr {s : TypeId} {x : Operand} {f o2 : Nat} (b off : Nat) {fields : Array Field} {fd : Field} {z : Value} {sz bytes : Nat} (hx : ev T x = .ptr b off := by kernel_rfl) (hu : P.underlying s = some (.struct fields)) (hf : fields[f]? = some fd) (hi : TyI P fd.type z sz bytes)
    (hok : (isBox H b && (!Nat.beq sz 0 && Nat.beq (off + fd.offset) o2)) = true := by kernel_rfl) : PureV P ⟨dst, .fieldAddr s x f, type, pos, after, guard⟩ T H (.ptr b o2) := by
  obtain ⟨h1, h2⟩ := Bool.and_eq_true_iff.1 hok
  obtain ⟨h3, h4⟩ := Bool.and_eq_true_iff.1 h2
  exact p_fieldAddr hx hu hf hi (fun h => by subst h; cases h3) (isBox_spec h1) (Nat.eq_of_beq_eq_true h4)
theorem k_fieldAddrL {s : TypeId} {x : Operand} {f o2 : Nat} (off : Nat) {cells : List D} {fields : Array Field} {fd : Field} {z : Value} {sz bytes : Nat} (hx : ev T x = .lptr cells off := by kernel_rfl) (hu : P.underlying s = some (.struct fields)) (hf : fields[f]? = some fd) (hi : TyI P fd.type z sz bytes)
    (hok : (!Nat.beq sz 0 && Nat.beq (off + fd.offset) o2) = true := by kernel_rfl) : PureV P ⟨dst, .fieldAddr s x f, type, pos, after, guard⟩ T H (.lptr cells o2) := by
  obtain ⟨h3, h4⟩ := Bool.and_eq_true_iff.1 hok
  exact p_fieldAddrL hx hu hf hi (fun h => by subst h; cases h3) (Nat.eq_of_beq_eq_true h4)
theorem k_field {t : TypeId} {x : Operand} {f : Nat} {fields : Array Field} {fd : Field} {d : TypeDesc} {v : V} (hu : P.underlying t = some (.struct fields)) (hf : fields[f]? = some fd) (hu2 : P.underlying fd.type = some d) (hd : aggD d = false)
    (hv : ((aggOf (ev T x)).bind fun cs => cs[fd.offset]?) = some v) : PureV P ⟨dst, .field t x f, type, pos, after, guard⟩ T H v := by
  cases ha : aggOf (ev T x) with
  | none => rw [ha] at hv; cases hv
  | some cs => rw [ha] at hv; exact p_field (aggOf_spec ha) hu hf hu2 hd hv
theorem k_fieldAgg {t : TypeId} {x : Operand} {f : Nat} {vs : List V} {fields : Array Field} {fd : Field} {d : TypeDesc} {z : Value} {sz bytes : Nat} (hu : P.underlying t = some (.struct fields)) (hf : fields[f]? = some fd) (hu2 : P.underlying fd.type = some d) (hd : aggD d = true)
    (hi : TyI P fd.type z sz bytes) (hv : ((aggOf (ev T x)).bind fun cs => bif Nat.ble (fd.offset + sz) cs.length then some ((cs.drop fd.offset).take sz) else none) = some vs) : PureV P ⟨dst, .field t x f, type, pos, after, guard⟩ T H (.agg vs) := by
  cases ha : aggOf (ev T x) with
  | none => rw [ha] at hv; cases hv
  | some cs =>
    rw [ha] at hv
    simp only [Option.bind_some] at hv
    cases hb : Nat.ble (fd.offset + sz) cs.length with
    | false => rw [hb] at hv; cases hv
    | true => rw [hb] at hv; exact p_fieldAgg (aggOf_spec ha) hu hf hu2 hd hi (Option.some.inj hv) (Nat.le_of_ble_eq_true hb)
theorem k_extract {x : Operand} {i : Nat} {v : V} (hv : ((tupOf (ev T x)).bind fun vs => vs[i]?) = some v := by kernel_rfl) : PureV P ⟨dst, .extract x i, type, pos, after, guard⟩ T H v := by
  cases ha : tupOf (ev T x) with
  | none => rw [ha] at hv; cases hv
  | some cs => rw [ha] at hv; exact p_extract (tupOf_spec ha) hv
theorem k_alloc {e : TypeId} {z : Value} {sz bytes : Nat} {H' : List Blk} (hi : TyI P e z sz bytes) (ho : (z.cells.toList.map cv1).all V.one = true := by kernel_rfl) (hH : H ++ [.box (z.cells.toList.map cv1)] = H' := by kernel_rfl) : Does P ⟨dst, .alloc e, type, pos, after, guard⟩ T H (.ptr H.length 0) H' [] := by
  subst hH
  exact d_alloc hi rfl ho
theorem k_box {e : TypeId} {x : Operand} {cells : List V} {H' : List Blk} (hc : (ev T x).cells? = some cells := by kernel_rfl) (ho : cells.all V.one = true := by kernel_rfl) (hH : H ++ [.box cells] = H' := by kernel_rfl) : Does P ⟨dst, .box e x, type, pos, after, guard⟩ T H (.ptr H.length 0) H' [] := by
  subst hH
  exact d_box hc ho
theorem k_buildSlice {t e : TypeId} {len sz bytes : Nat} {parts : Array (Nat × Operand)} {z : Value} (xs : List (List D)) {H' : List Blk} (hu : P.underlying t = some (.slice e)) (hi : TyI P e z sz bytes)
    (hok : (Nat.blt 0 sz && (Nat.ble (len * sz) 16777216 && (Nat.beq xs.length len && xs.all (fun r => r.length == sz)))) = true := by kernel_rfl) (hv : (vfill (fun i => some (i * sz, sz)) (List.replicate (len * sz) .undef) (parts.toList.map fun p => (p.1, ev T p.2))).map (List.map nl) = some (xs.flatten.map V.d) := by kernel_rfl)
    (hH : H ++ [.sl sz xs false] = H' := by kernel_rfl) : Does P ⟨dst, .buildSlice t len parts, type, pos, after, guard⟩ T H (.ref H.length len 0 len) H' [] := by
  obtain ⟨h1, h2⟩ := Bool.and_eq_true_iff.1 hok
  obtain ⟨h3, h4⟩ := Bool.and_eq_true_iff.1 h2
  obtain ⟨h5, h6⟩ := Bool.and_eq_true_iff.1 h4
  subst hH
  obtain ⟨flat, e1, e2⟩ := Option.map_eq_some_iff.1 hv
  exact d_buildSlice hu hi (Nat.le_of_ble_eq_true h1) (Nat.le_of_ble_eq_true h3) e1 e2.symm (Nat.eq_of_beq_eq_true h5) h6
theorem k_make {α : Type} {enc : α → List D} {t e : TypeId} {x y : Operand} {k1 k2 : IntKind} {n : Int} {z : Value} {sz bytes : Nat} (e0 : α) (zd : List D) {H' : List Blk} (hx : ev T x = .d (.int k1 n) := by kernel_rfl) (hy : ev T y = .d (.int k2 n) := by kernel_rfl) (hu : P.underlying t = some (.slice e)) (hi : TyI P e z sz bytes)
    (hok : (Nat.blt 0 sz && (Nat.blt 0 bytes && Nat.beq zd.length sz)) = true := by kernel_rfl) (hzd : z.cells.toList.map cvD = zd.map some := by kernel_rfl) (he : enc e0 = zd := by kernel_rfl) (h0 : 0 ≤ n) (hb : n.toNat * bytes ≤ 140737488355328) (hH : H ++ [.sl sz ((List.replicate n.toNat e0).map enc) false] = H') :
    Does P ⟨dst, .makeSlice t x y, type, pos, after, guard⟩ T H (.ref H.length n.toNat 0 n.toNat) H' [] := by
  obtain ⟨h1, h2⟩ := Bool.and_eq_true_iff.1 hok
  obtain ⟨h3, h4⟩ := Bool.and_eq_true_iff.1 h2
  subst hH
  rw [← map_rep, he]
  have h5 : 1 ≤ bytes := Nat.le_of_ble_eq_true h3
  have h6 : n.toNat * 1 ≤ n.toNat * bytes := Nat.mul_le_mul_left _ h5
  exact d_make hx hy hu hi (Nat.le_of_ble_eq_true h1) hzd (Nat.eq_of_beq_eq_true h4) h0 rfl (by omega) (by omega)
theorem k_append {α : Type} {enc : α → List D} {t t2 e e2 : TypeId} {x y : Operand} {sz bytes : Nat} {z : Value} (b : Nat) (xs ys : List α) {H' : List Blk} (hu : P.underlying t = some (.slice e)) (hu2 : P.underlying t2 = some (.slice e2)) (hi : TyI P e z sz bytes) (hok : (Nat.blt 0 sz && (Nat.blt 0 bytes && Nat.beq z.cells.size sz)) = true := by kernel_rfl)
    (hx : ev T x = .ref b xs.length 0 xs.length := by kernel_rfl) (hk : H[b]? = some (.sl sz (xs.map enc) false) := by kernel_rfl) (hy : Holds H sz (ev T y) (ys.map enc)) (hfit : (xs ++ ys).length * bytes ≤ 140737488355328) (hH : H.set b (.sl sz ((xs ++ ys).map enc) false) = H' := by kernel_rfl) :
    Does P ⟨dst, .call ⟨.builtin .append, #[x, y], #[t, t2]⟩, type, pos, after, guard⟩ T H (.ref b (xs ++ ys).length 0 (xs ++ ys).length) H' [b] := by
  obtain ⟨h1, h2⟩ := Bool.and_eq_true_iff.1 hok
  obtain ⟨h3, h4⟩ := Bool.and_eq_true_iff.1 h2
  subst hH
  have h5 : 1 ≤ bytes := Nat.le_of_ble_eq_true h3
  have h6 : (xs ++ ys).length * 1 ≤ (xs ++ ys).length * bytes := Nat.mul_le_mul_left _ h5
  exact d_append (len := 0) hu hu2 hi (Nat.le_of_ble_eq_true h1) (Nat.eq_of_beq_eq_true h4) hx hk (map_len enc xs) (.inl rfl) hy (map_app enc xs ys) (map_len enc (xs ++ ys)) hfit (by omega)
theorem holdsLit {α : Type} {enc : α → List D} {sz : Nat} (hr : ∀ a, (enc a).length = sz) {v : V} (ys : List α) (h : v = .d (.lit (ys.map enc)) := by kernel_rfl) : Holds H sz v (ys.map enc) := by
  subst h
  exact .lit _ (map_row hr ys)
theorem holdsRef {α : Type} {enc : α → List D} {sz : Nat} {v : V} (b : Nat) (ys : List α) (fro : Bool) (h : v = .ref b ys.length 0 ys.length := by kernel_rfl) (hk : H[b]? = some (.sl sz (ys.map enc) fro) := by kernel_rfl) : Holds H sz v (ys.map enc) := by
  subst h
  exact .ref b _ _ _ _ _ fro hk (map_len enc ys) (by omega) (cut_all _ _ (map_len enc ys))
theorem holdsNil {α : Type} {enc : α → List D} {sz : Nat} {v : V} (h : v = .nilc) : Holds H sz v (([] : List α).map enc) := by
  subst h
  exact .nil
theorem k_idxLit {α : Type} {enc : α → List D} {t e : TypeId} {x y : Operand} {k : IntKind} {i : Int} {z : Value} {sz bytes : Nat} (hr : ∀ a, (enc a).length = sz) (xs : List α) {a : α} (hx : ev T x = .d (.lit (xs.map enc)) := by kernel_rfl) (hy : ev T y = .d (.int k i) := by kernel_rfl) (hu : P.underlying t = some (.slice e)) (hi : TyI P e z sz bytes)
    (h0 : 0 ≤ i) (he : xs[i.toNat]? = some a) : PureV P ⟨dst, .indexAddr t x y, type, pos, after, guard⟩ T H (.lptr (enc a) 0) := p_idxLit hx hy hu hi h0 (map_idx enc he) (hr a)
theorem k_idxRef {α : Type} {enc : α → List D} {t e : TypeId} {x y : Operand} {k : IntKind} {i : Int} {b : Nat} {fro : Bool} {z : Value} {sz bytes : Nat} (xs : List α) {a : α} (hx : ev T x = .ref b xs.length 0 xs.length := by kernel_rfl) (hy : ev T y = .d (.int k i) := by kernel_rfl) (hk : H[b]? = some (.sl sz (xs.map enc) fro) := by kernel_rfl) (hu : P.underlying t = some (.slice e)) (hi : TyI P e z sz bytes)
    (h0 : 0 ≤ i) (he : xs[i.toNat]? = some a) : PureV P ⟨dst, .indexAddr t x y, type, pos, after, guard⟩ T H (.eptr b xs.length i.toNat 0) :=
  p_idxRef hx hy hk (map_len enc xs) hu hi h0 (by have := (List.getElem?_eq_some_iff.1 he).1; omega) (Nat.zero_add _)
theorem k_loadL {t : TypeId} {x : Operand} {cells : List D} (off : Nat) {d : TypeDesc} {v : D} (hx : ev T x = .lptr cells off := by kernel_rfl) (hu : P.underlying t = some d) (hd : aggD d = false := by kernel_rfl) (hv : cells[off]? = some v := by kernel_rfl) : Quiet P ⟨dst, .load t x, type, pos, after, guard⟩ T H [] (.d v) := q_loadL hx hu hd hv
theorem k_loadLAgg {t : TypeId} {x : Operand} {cells : List D} (off : Nat) {d : TypeDesc} {z : Value} {sz bytes : Nat} (vs : List D) {ws : List V} (hx : ev T x = .lptr cells off := by kernel_rfl) (hu : P.underlying t = some d) (hd : aggD d = true := by kernel_rfl) (hi : TyI P t z sz bytes) (hv : (cells.drop off).take sz = vs := by kernel_rfl) (hl : Nat.beq vs.length sz = true := by kernel_rfl) (hw : vs.map .d = ws := by kernel_rfl) :
    Quiet P ⟨dst, .load t x, type, pos, after, guard⟩ T H [] (.agg ws) := by
  subst hw
  exact q_loadLAgg hx hu hd hi hv (Nat.eq_of_beq_eq_true hl)
theorem k_loadE {α : Type} {enc : α → List D} {t : TypeId} {x : Operand} (b off : Nat) {i sz : Nat} (xs : List α) {fro : Bool} {d : TypeDesc} {a : α} {v : D} (hx : ev T x = .eptr b xs.length i off := by kernel_rfl) (hk : H[b]? = some (.sl sz (xs.map enc) fro) := by kernel_rfl) (hu : P.underlying t = some d) (hd : aggD d = false := by kernel_rfl) (he : xs[i]? = some a) (hv : (enc a)[off]? = some v := by kernel_rfl) :
    Quiet P ⟨dst, .load t x, type, pos, after, guard⟩ T H [b] (.d v) := q_loadE hx hk (map_len enc xs) hu hd (map_idx enc he) hv
theorem k_loadEAgg {α : Type} {enc : α → List D} {t : TypeId} {x : Operand} (b off : Nat) {i sz0 : Nat} (xs : List α) {fro : Bool} {d : TypeDesc} {a : α} {z : Value} {sz bytes : Nat} (vs : List D) {ws : List V} (hx : ev T x = .eptr b xs.length i off := by kernel_rfl) (hk : H[b]? = some (.sl sz0 (xs.map enc) fro) := by kernel_rfl) (hu : P.underlying t = some d) (hd : aggD d = true := by kernel_rfl) (hi : TyI P t z sz bytes)
    (he : xs[i]? = some a) (hv : ((enc a).drop off).take sz = vs := by kernel_rfl) (hl : Nat.beq vs.length sz = true := by kernel_rfl) (hw : vs.map .d = ws := by kernel_rfl) : Quiet P ⟨dst, .load t x, type, pos, after, guard⟩ T H [b] (.agg ws) := by
  subst hw
  exact q_loadEAgg hx hk (map_len enc xs) hu hd hi (map_idx enc he) hv (Nat.eq_of_beq_eq_true hl)
theorem k_fieldAddrE {α : Type} {enc : α → List D} {s : TypeId} {x : Operand} {f o2 : Nat} (b off : Nat) {i sz0 : Nat} (xs : List α) {fro : Bool} {a : α} {fields : Array Field} {fd : Field} {z : Value} {sz bytes : Nat} (hx : ev T x = .eptr b xs.length i off := by kernel_rfl) (hk : H[b]? = some (.sl sz0 (xs.map enc) fro) := by kernel_rfl) (he : xs[i]? = some a)
    (hu : P.underlying s = some (.struct fields)) (hf : fields[f]? = some fd) (hi : TyI P fd.type z sz bytes) (hok : (!Nat.beq sz 0 && Nat.beq (off + fd.offset) o2) = true := by kernel_rfl) : PureV P ⟨dst, .fieldAddr s x f, type, pos, after, guard⟩ T H (.eptr b xs.length i o2) := by
  obtain ⟨h3, h4⟩ := Bool.and_eq_true_iff.1 hok
  exact p_fieldAddrE hx hu hf hi (fun h => by subst h; cases h3) hk (map_len enc xs) (List.getElem?_eq_some_iff.1 he).1 (Nat.eq_of_beq_eq_true h4)
theorem k_lenLit {α : Type} {enc : α → List D} {t : TypeId} {x : Operand} {e : TypeId} (xs : List α) (hx : ev T x = .d (.lit (xs.map enc)) := by kernel_rfl) (hu : P.underlying t = some (.slice e)) : PureV P ⟨dst, .call ⟨.builtin .len, #[x], #[t]⟩, type, pos, after, guard⟩ T H (.d (.int .i64 xs.length)) := p_lenLit hx hu (map_len enc xs)
theorem k_lenRef {α : Type} {enc : α → List D} {t : TypeId} {x : Operand} {e : TypeId} (b : Nat) {sz : Nat} (xs : List α) {fro : Bool} (hx : ev T x = .ref b xs.length 0 xs.length := by kernel_rfl) (hk : H[b]? = some (.sl sz (xs.map enc) fro) := by kernel_rfl) (hu : P.underlying t = some (.slice e)) : PureV P ⟨dst, .call ⟨.builtin .len, #[x], #[t]⟩, type, pos, after, guard⟩ T H (.d (.int .i64 xs.length)) :=
  p_lenRef hx hk (map_len enc xs) hu
theorem k_nilCheck {x : Operand} (b off : Nat) (hx : ev T x = .ptr b off := by kernel_rfl) (hb : isBox H b = true := by kernel_rfl) : PureV P ⟨dst, .nilCheck x, type, pos, after, guard⟩ T H (.ptr b off) := p_nilCheck hx (isBox_spec hb)
theorem k_lit {α : Type} {enc : α → List D} {sz : Nat} (b : Nat) (xs : List α) (hk : H[b]? = some (.sl sz (xs.map enc) true) := by kernel_rfl) : ConvR H (.ref b xs.length 0 xs.length) (.d (.lit (xs.map enc))) := .lit b _ 0 _ sz _ _ hk (map_len enc xs) (by omega) (cut_all _ _ (map_len enc xs))
end Go.VM
