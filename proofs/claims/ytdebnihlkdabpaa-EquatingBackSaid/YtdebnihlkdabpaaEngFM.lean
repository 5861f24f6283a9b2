/- Slices: literals, make, append, elements stored, cuts, copy. -/
import Derived.Test.YtdebnihlkdabpaaEngAM
namespace Go.VM
set_option linter.unusedVariables false
set_option linter.unusedSimpArgs false

theorem get2_some {xs : List (List D)} {i j : Nat} {d : D} (h : get2 xs i j = some d) : ∃ e, xs[i]? = some e ∧ e[j]? = some d := by
  unfold get2 at h
  cases hx : xs[i]? with
  | none => simp [hx] at h
  | some e => exact ⟨e, rfl, by simpa [hx] using h⟩
theorem get2_mk {xs : List (List D)} {i j : Nat} {d : D} {e : List D} (h1 : xs[i]? = some e) (h2 : e[j]? = some d) : get2 xs i j = some d := by simp [get2, h1, h2]
theorem get2_lt {xs : List (List D)} {esz : Nat} (hlen : ∀ (i : Nat) (x : List D), xs[i]? = some x → x.length = esz) {i j : Nat} {d : D} (h : get2 xs i j = some d) : i < xs.length ∧ j < esz := by
  obtain ⟨e, h1, h2⟩ := get2_some h
  exact ⟨(List.getElem?_eq_some_iff.1 h1).1, by rw [← hlen i e h1]; exact (List.getElem?_eq_some_iff.1 h2).1⟩

/-- The cells of rows, one behind the other. -/
def flatD (xs : List (List D)) : List D := xs.flatten
theorem flat_length {α : Type} (esz : Nat) : ∀ (xs : List (List α)), (∀ x ∈ xs, x.length = esz) → xs.flatten.length = xs.length * esz
  | [], _ => by simp
  | x :: xs, h => by
    simp only [List.flatten_cons, List.length_append, List.length_cons]
    rw [flat_length esz xs (fun y hy => h y (by simp [hy])), h x (by simp), Nat.succ_mul, Nat.add_comm]
theorem flat_get {α : Type} (esz : Nat) : ∀ (xs : List (List α)), (∀ x ∈ xs, x.length = esz) → ∀ (i j : Nat) (e : List α), xs[i]? = some e → j < esz → xs.flatten[i * esz + j]? = e[j]?
  | [], _, i, j, e, he, _ => by simp at he
  | x :: xs, h, i, j, e, he, hj => by
    have hx := h x (by simp)
    cases i with
    | zero =>
      simp at he
      subst he
      simp only [List.flatten_cons, Nat.zero_mul, Nat.zero_add]
      rw [List.getElem?_append_left (by omega)]
    | succ i =>
      simp only [List.getElem?_cons_succ] at he
      simp only [List.flatten_cons]
      rw [List.getElem?_append_right (by rw [Nat.succ_mul]; omega), hx, show (i + 1) * esz + j - esz = i * esz + j by rw [Nat.succ_mul]; omega]
      exact flat_get esz xs (fun y hy => h y (by simp [hy])) i j e he hj
theorem row_of {esz : Nat} (n p : Nat) (h : p < n * esz) (hz : 0 < esz) : p / esz < n ∧ p % esz < esz ∧ p = p / esz * esz + p % esz :=
  ⟨(Nat.div_lt_iff_lt_mul hz).2 h, Nat.mod_lt _ hz, by have := Nat.div_add_mod p esz; rw [Nat.mul_comm] at this; omega⟩

section
variable {P : Program} {T : Tm} {H : List Blk} {dst : Option Tmp} {type : TypeId} {pos : String} {after : Array Edge} {guard : Option (Nat × Bool)}

/-- A new block of rows. -/
theorem Rel.newSl {φ : List Plc} {I : Nat → Prop} {w : World} (hR : Rel H φ I w) {xs : List (List D)} {esz : Nat} {arr : Array Value} (e : TypeId) (hz : 0 < esz) (hfit : xs.length * esz ≤ arr.size)
    (hlen : ∀ (i : Nat) (x : List D), xs[i]? = some x → x.length = esz) (hc : ∀ (i j : Nat) (d : D) (c : Value), get2 xs i j = some d → arr[i * esz + j]? = some c → DR I w d c) :
    Rel (H ++ [.sl esz xs false]) (φ ++ [.at w.heap.size 0 esz xs.length arr.size]) I (w.alloc (.cells arr e)) ∧ Turn φ I w (φ ++ [.at w.heap.size 0 esz xs.length arr.size]) I (w.alloc (.cells arr e)) ∧
      ∀ cap, xs.length ≤ cap → cap * esz ≤ arr.size → VR (φ ++ [.at w.heap.size 0 esz xs.length arr.size]) I (w.alloc (.cells arr e)) (.ref H.length xs.length 0 xs.length) (.slice (some ⟨w.heap.size, 0, none⟩) xs.length cap) := by
  have hnI : ¬ I w.heap.size := fun h => Nat.lt_irrefl _ (hR.imm _ h)
  have hp := hR.push (.cells arr e) (.sl esz xs false) (.at w.heap.size 0 esz xs.length arr.size) rfl
    (.sl esz xs false w.heap.size 0 arr e (heap_alloc_at w _) (by omega) hlen (fun i j d c hd hcj => by
      rw [Nat.zero_add] at hcj
      exact (hc i j d c hd hcj).mono (fun _ h => h) (hR.immLt _)) hz ⟨fun h => (by cases h), fun h => (hnI h).elim⟩)
  refine ⟨hp.1, hp.2, fun cap h1 h2 => ?_⟩
  have := VR.ref (φ := φ ++ [.at w.heap.size 0 esz xs.length arr.size]) (I := I) (w := w.alloc (.cells arr e)) H.length xs.length 0 xs.length w.heap.size 0 esz arr.size cap
    (by rw [← hR.len, List.getElem?_append_right (Nat.le_refl _)]; simp) (by omega) h1 (by omega) (by simpa using h2)
  simpa using this

theorem VR.d_inv {φ : List Plc} {I : Nat → Prop} {w : World} {x : D} {c : Value} (h : VR φ I w (.d x) c) : DR I w x c := by cases h with | d _ _ h => exact h

/-- A nil slice is data, too: the empty list. -/
def nl : V → V
  | .nilc => .d (.lit [])
  | v => v
theorem VR.nl {φ : List Plc} {I : Nat → Prop} {w : World} {v : V} {c : Value} (h : VR φ I w v c) : VR φ I w (VM.nl v) c := by
  unfold VM.nl
  split
  · rw [h.nilc_inv]; exact .d _ _ (.nil _ _)
  · exact h

theorem d_buildSlice {t e : TypeId} {len sz bytes : Nat} {parts : Array (Nat × Operand)} {z : Value} {flat : List V} {xs : List (List D)} (hu : P.underlying t = some (.slice e)) (hi : TyI P e z sz bytes) (hz : 0 < sz)
    (hbig : len * sz ≤ 16777216) (hv : vfill (fun i => some (i * sz, sz)) (List.replicate (len * sz) .undef) (parts.toList.map fun p => (p.1, ev T p.2)) = some flat) (hx : xs.flatten.map V.d = flat.map nl) (hl : xs.length = len)
    (hr : xs.all (fun r => r.length == sz) = true) : Does P ⟨dst, .buildSlice t len parts, type, pos, after, guard⟩ T H (.ref H.length len 0 len) (H ++ [.sl sz xs false]) [] := fun φ I w a hR hT => by
  subst hl
  have hrow : ∀ x ∈ xs, x.length = sz := fun x hx => by have := List.all_eq_true.1 hr x hx; simpa using this
  let arr0 : Array Value := (Array.range (xs.length * sz)).map ((if xs.length * sz = 0 then #[] else z.cells)[· % (if xs.length * sz = 0 then #[] else z.cells).size]!)
  have hA0 : AllR φ I w (List.replicate (xs.length * sz) .undef) arr0 := by
    refine ⟨by simp [arr0], fun i v c h1 h2 => ?_⟩
    rw [List.getElem?_replicate] at h1
    split at h1
    · cases h1; exact .undef _
    · cases h1
  obtain ⟨arr, h1, h2⟩ := fill_rel hT _ parts.toList _ flat arr0 hA0 hv
  have hfl : flat.length = xs.length * sz := by
    have := congrArg List.length hx
    rw [List.length_map, List.length_map, flat_length sz xs hrow] at this
    exact this.symm
  have hrun : (Instr.buildSlice t xs.length (parts.map fun p => (p.1, a.eval p.2))).run P w = .ok (.slice (some ⟨w.heap.size, 0, none⟩) xs.length xs.length) (w.alloc (.cells arr e)) := by
    have hn : ¬ (16777216 < xs.length * sz) := by omega
    have h1' : Instr.fill (fun i => some (i * sz, sz)) arr0 (parts.toList.map fun p => (p.1, a.eval p.2)) = some arr := h1
    by_cases h0 : xs.length * sz = 0
    · simp only [arr0, h0, if_true, Array.range_zero', Array.map_empty] at h1'
      simp [Instr.buildSlice, run_underlying hu, run_sizeOf hi, hn, h0, newRow, Array.range_zero', h1']
    · simp only [arr0, h0, if_false] at h1'
      simp [Instr.buildSlice, run_underlying hu, run_sizeOf hi, hn, h0, run_zeroValue hi, newRow, h1']
  obtain ⟨g1, g2, g3⟩ := hR.newSl (xs := xs) (esz := sz) (arr := arr) e hz (by rw [h2.1, hfl]; exact Nat.le_refl _) (fun i x hx => hrow x (List.mem_of_getElem? hx)) (fun i j d c hd hcj => by
    obtain ⟨er, he, hj⟩ := get2_some hd
    have hjs : j < sz := by rw [← hrow er (List.mem_of_getElem? he)]; exact (List.getElem?_eq_some_iff.1 hj).1
    have hf : (flat.map nl)[i * sz + j]? = some (.d d) := by rw [← hx, List.getElem?_map, flat_get sz xs hrow i j er he hjs, hj]; rfl
    rw [List.getElem?_map, Option.map_eq_some_iff] at hf
    obtain ⟨v, hv1, hv2⟩ := hf
    have := (h2.2 _ _ _ hv1 hcj).nl
    rw [hv2] at this
    exact this.d_inv)
  exact ⟨_, I, _, _, .inl (by simp only [execOp, Sem.run_bind, hrun, Result.andThen_ok, Sem.run_pure]), g2, g1, g3 xs.length (Nat.le_refl _) (by rw [h2.1, hfl]; exact Nat.le_refl _), hR.keepsAlloc _ _⟩

/-! ### make -/
def cvD : Value → Option D
  | .int k n => some (.int k n)
  | .bool b => some (.bool b)
  | .string s => some (.str s)
  | .slice none 0 0 => some (.lit [])
  | _ => none
theorem cvD_DR (I : Nat → Prop) (w : World) {c : Value} {d : D} (h : cvD c = some d) : DR I w d c := by
  unfold cvD at h
  split at h <;> simp at h <;> subst h
  · exact .int _ _
  · exact .bool _
  · exact .str _
  · exact .nil _ _

theorem made_get (zero : Array Value) (n i : Nat) (h : i < n) (hz : 0 < zero.size) : (madeCells zero n)[i]? = zero[i % zero.size]? := by
  have hlt : i % zero.size < zero.size := Nat.mod_lt _ hz
  simp [madeCells, h, hlt]

theorem d_make {t e : TypeId} {x y : Operand} {k1 k2 : IntKind} {n : Int} {m : Nat} {z : Value} {sz bytes : Nat} {zd : List D} (hx : ev T x = .d (.int k1 n)) (hy : ev T y = .d (.int k2 n)) (hu : P.underlying t = some (.slice e)) (hi : TyI P e z sz bytes) (hz : 0 < sz)
    (hzd : z.cells.toList.map cvD = zd.map some) (hl : zd.length = sz) (h0 : 0 ≤ n) (hm : n.toNat = m) (hb : m * bytes ≤ 281474976710656) (h63 : m ≤ 9223372036854775807) :
    Does P ⟨dst, .makeSlice t x y, type, pos, after, guard⟩ T H (.ref H.length m 0 m) (H ++ [.sl sz (List.replicate m zd) false]) [] := fun φ I w a hR hT => by
  subst hm
  have hc1 := (hx ▸ ev_VR hT x).int_inv
  have hc2 := (hy ▸ ev_VR hT y).int_inv
  obtain ⟨ti, t1, t2, t3, t4⟩ := hi.get
  have hzs : z.cells.size = sz := by have := congrArg List.length hzd; simp at this; omega
  have hrun := run_make (P := P) w t e ti z hu t1 t2 k1 k2 n n h0 (Int.le_refl _) (by rw [t4]; have h := Int.ofNat_le.2 hb; rw [Int.natCast_mul, Int.toNat_of_nonneg h0] at h; rw [Int.mul_comm]; exact h) (by omega)
  rw [t3] at hrun
  obtain ⟨g1, g2, g3⟩ := hR.newSl (xs := List.replicate n.toNat zd) (esz := sz) (arr := madeCells z.cells (n.toNat * sz)) e hz (by simp [size_madeCells]) (fun i x hx => by
      rw [List.getElem?_replicate] at hx
      split at hx
      · cases hx; exact hl
      · cases hx) (fun i j d c hd hcj => by
    obtain ⟨er, he, hj⟩ := get2_some hd
    rw [List.getElem?_replicate] at he
    split at he
    case isFalse => cases he
    case isTrue hin =>
      cases he
      have hjs : j < sz := by rw [← hl]; exact (List.getElem?_eq_some_iff.1 hj).1
      have hp : i * sz + j < n.toNat * sz := by
        have : i * sz + sz ≤ n.toNat * sz := by rw [← Nat.succ_mul]; exact Nat.mul_le_mul_right _ hin
        omega
      rw [made_get _ _ _ hp (by omega), hzs, show (i * sz + j) % sz = j by rw [Nat.mul_comm, Nat.mul_add_mod]; exact Nat.mod_eq_of_lt hjs] at hcj
      have hq : (z.cells.toList.map cvD)[j]? = some (some d) := by rw [hzd]; simp [hj]
      simp [hcj] at hq
      exact cvD_DR I w hq)
  refine ⟨_, I, _, _, .inl (by simp only [execOp, hc1, hc2, Sem.run_bind, hrun, Result.andThen_ok, Sem.run_pure]; rfl), g2, g1, ?_, hR.keepsAlloc _ _⟩
  have := g3 n.toNat (by simp) (by simp [size_madeCells])
  simpa using this

/-! ### what is appended, or copied: rows that are read -/
def Rows_ (I : Nat → Prop) (w : World) (sz : Nat) (ys : List (List D)) (c : Value) : Prop :=
  ∃ (a : Option Addr) (cap : Nat), c = .slice a ys.length cap ∧ (∀ (i : Nat) (e : List D), ys[i]? = some e → e.length = sz) ∧
    (ys ≠ [] → ∃ (g o : Nat) (cv : Nat → Nat → Value), a = some ⟨g, o, none⟩ ∧ (∀ (i j : Nat) (d : D), get2 ys i j = some d → w.cell? ⟨g, o + i * sz + j, none⟩ = some (cv i j)) ∧ (∀ (i j : Nat) (d : D), get2 ys i j = some d → DR I w d (cv i j)))

/-- The machine's value holds these rows. -/
inductive Holds (H : List Blk) (sz : Nat) : V → List (List D) → Prop
  | lit (ys : List (List D)) (h : ∀ (i : Nat) (e : List D), ys[i]? = some e → e.length = sz) : Holds H sz (.d (.lit ys)) ys
  | nil : Holds H sz .nilc []
  | ref (b L off len : Nat) (xs ys : List (List D)) (fro : Bool) (hk : H[b]? = some (.sl sz xs fro)) (hL : xs.length = L) (hle : off + len ≤ L) (hy : (xs.drop off).take len = ys) : Holds H sz (.ref b L off len) ys
  | virt (b esz : Nat) (fro : Bool) (hk : H[b]? = some (.sl esz [] fro)) : Holds H sz (.ref b 0 0 0) []

theorem get2_cut {xs : List (List D)} {off len i j : Nat} {d : D} (h : get2 ((xs.drop off).take len) i j = some d) : get2 xs (off + i) j = some d := by
  obtain ⟨e, h1, h2⟩ := get2_some h
  have hil : i < len := by have := (List.getElem?_eq_some_iff.1 h1).1; simp at this; omega
  rw [List.getElem?_take_of_lt hil, List.getElem?_drop] at h1
  exact get2_mk h1 h2

theorem Holds.rows {φ : List Plc} {I : Nat → Prop} {w : World} (hR : Rel H φ I w) {sz : Nat} {v : V} {ys : List (List D)} {c : Value} (h : Holds H sz v ys) (hv : VR φ I w v c) : Rows_ I w sz ys c := by
  cases h with
  | lit ys hlen =>
    rcases VR.lit_inv hv with ⟨rfl, a, cap, rfl⟩ | ⟨g, o, esz, cap, cv, rfl, hI, hl, hcell, hd⟩
    · exact ⟨a, cap, rfl, hlen, fun h => absurd rfl h⟩
    · refine ⟨_, cap, rfl, hlen, fun hne => ⟨g, o, cv, rfl, ?_, hd⟩⟩
      have hes : esz = sz := by
        cases ys with
        | nil => exact absurd rfl hne
        | cons y ys => rw [← hl 0 y rfl, hlen 0 y rfl]
      subst hes
      exact hcell
  | nil => rw [hv.nilc_inv]; exact ⟨none, 0, rfl, by simp, fun h => absurd rfl h⟩
  | virt b esz fro hk =>
    rcases VR.ref_inv hR hk rfl hv with ⟨_, _, _, _, _, rfl⟩ | ⟨_, _, a, _, _, _, rfl, _⟩ | ⟨g, δ, arr, ty, cap, rfl, _⟩
    · exact ⟨_, _, rfl, by simp, fun h => absurd rfl h⟩
    · exact ⟨_, _, rfl, by simp, fun h => absurd rfl h⟩
    · exact ⟨_, _, rfl, by simp, fun h => absurd rfl h⟩
  | ref b L off len xs ys fro hk hL hle hy =>
    have hyl : ys.length = len := by subst hy; simp; omega
    rcases VR.ref_inv hR hk hL hv with ⟨_, rfl, _, _, rfl, rfl⟩ | ⟨rfl, _, a, _, _, _, rfl, _⟩ | ⟨g, δ, arr, ty, cap, rfl, hb, hg, hn, hlen, hcs, hz, hI, g1, g2, g3, g4⟩
    · obtain rfl : ys = [] := List.eq_nil_of_length_eq_zero hyl
      exact ⟨_, _, rfl, by simp, fun h => absurd rfl h⟩
    · obtain rfl : ys = [] := List.eq_nil_of_length_eq_zero hyl
      exact ⟨_, _, rfl, by simp, fun h => absurd rfl h⟩
    · have hrow : ∀ (i : Nat) (e : List D), ys[i]? = some e → e.length = sz := fun i e he => by
        subst hy
        have hil : i < len := by have := (List.getElem?_eq_some_iff.1 he).1; omega
        rw [List.getElem?_take_of_lt hil, List.getElem?_drop] at he
        exact hlen _ _ he
      have hin : ∀ (i j : Nat) (d : D), get2 ys i j = some d → δ + (off + i) * sz + j < arr.size := fun i j d hd => by
        obtain ⟨h1, h2⟩ := get2_lt hrow hd
        have : (off + i) * sz + sz ≤ L * sz := by rw [← Nat.succ_mul]; exact Nat.mul_le_mul_right _ (by omega)
        omega
      refine ⟨_, cap, by rw [hyl], hrow, fun hne => ⟨g, δ + off * sz, fun i j => arr.getD (δ + (off + i) * sz + j) undef, rfl, fun i j d hd => ?_, fun i j d hd => ?_⟩⟩
      · have hlt := hin i j d hd
        rw [show δ + off * sz + i * sz + j = δ + (off + i) * sz + j by rw [Nat.add_mul]; omega, cell_of hg]
        simp [Array.getD, hlt]
      · have hlt := hin i j d hd
        refine hcs (off + i) j d _ (by subst hy; exact get2_cut hd) ?_
        simp [Array.getD, hlt]

theorem Rows_.flat {I : Nat → Prop} {w : World} {sz : Nat} {ys : List (List D)} {g o : Nat} {cv : Nat → Nat → Value} (hlen : ∀ (i : Nat) (e : List D), ys[i]? = some e → e.length = sz)
    (hcell : ∀ (i j : Nat) (d : D), get2 ys i j = some d → w.cell? ⟨g, o + i * sz + j, none⟩ = some (cv i j)) (hd : ∀ (i j : Nat) (d : D), get2 ys i j = some d → DR I w d (cv i j)) (hz : 0 < sz) :
    ∃ news : List Value, news.length = ys.length * sz ∧ (∀ (j : Nat) (v : Value), news[j]? = some v → w.cell? ((⟨g, o, none⟩ : Addr).add j) = some v) ∧ (∀ (i j : Nat) (d : D) (c : Value), get2 ys i j = some d → news[i * sz + j]? = some c → DR I w d c) ∧ ∀ v ∈ news, v.oneCell' = true := by
  have key : ∀ p, p < ys.length * sz → ∃ d, get2 ys (p / sz) (p % sz) = some d := fun p hp => by
    obtain ⟨h1, h2, _⟩ := row_of ys.length p hp hz
    have he := List.getElem?_eq_getElem h1
    have hl := hlen _ _ he
    exact ⟨_, get2_mk he (List.getElem?_eq_getElem (by omega))⟩
  refine ⟨(List.range (ys.length * sz)).map fun p => cv (p / sz) (p % sz), by simp, fun p v hv => ?_, fun i j d c hd' hc => ?_, fun v hv => ?_⟩
  · have hp : p < ys.length * sz := by have := (List.getElem?_eq_some_iff.1 hv).1; simpa using this
    simp [hp] at hv
    subst hv
    obtain ⟨d, hdd⟩ := key p hp
    rw [add_none]
    have := hcell _ _ d hdd
    rwa [show o + p / sz * sz + p % sz = o + p by have := (row_of ys.length p hp hz).2.2; omega] at this
  · obtain ⟨h1, h2⟩ := get2_lt hlen hd'
    have hp : i * sz + j < ys.length * sz := by
      have : i * sz + sz ≤ ys.length * sz := by rw [← Nat.succ_mul]; exact Nat.mul_le_mul_right _ h1
      omega
    simp [hp] at hc
    rw [show (i * sz + j) / sz = i by rw [Nat.mul_comm, Nat.mul_add_div hz, Nat.div_eq_of_lt h2]; omega] at hc
    have hm : j % sz = j := Nat.mod_eq_of_lt h2
    rw [hm] at hc
    subst hc
    exact hd i j d hd'
  · simp only [List.mem_map, List.mem_range] at hv
    obtain ⟨p, hp, rfl⟩ := hv
    obtain ⟨d, hdd⟩ := key p hp
    exact vone_oneCell (hd _ _ d hdd).one
end
end Go.VM
namespace Go.VM
set_option linter.unusedVariables false
set_option linter.unusedSimpArgs false

theorem run_append_none {P : Program} {t t2 e e2 ty : TypeId} {w : World} {z : Value} {sz bytes : Nat} (hu : P.underlying t = some (.slice e)) (hu2 : P.underlying t2 = some (.slice e2)) (hi : TyI P e z sz bytes) (base : Option Addr) (len cap : Nat) (a : Option Addr) (c : Nat) (hle : len ≤ cap) :
    (Builtin.append_ #[t, t2] ty #[.slice base len cap, .slice a 0 c]).run P w = .ok (.slice base len cap) w := by
  cases base <;> cases a <;> simp [Builtin.append_, run_underlying hu, run_underlying hu2, run_sizeOf hi, Builtin.lenOf, hle, Builtin.firstCells, loadCells, loadCellsFrom, storeCells]

theorem run_append_in {P : Program} {t t2 e e2 ty : TypeId} {w : World} {z : Value} {sz bytes : Nat} (hu : P.underlying t = some (.slice e)) (hu2 : P.underlying t2 = some (.slice e2)) (hi : TyI P e z sz bytes) (g o len cap : Nat) (a : Addr) (n c : Nat) (news : List Value)
    {cur : Array Value} {ct : TypeId} (hg : w.heap[g]? = some (.cells cur ct (0, 0))) (hl : news.length = n * sz) (hnews : ∀ (j : Nat) (v : Value), news[j]? = some v → w.cell? (a.add j) = some v) (h1 : ∀ v ∈ news, v.oneCell' = true) (hle : len + n ≤ cap) (hfit : o + len * sz + n * sz ≤ cur.size) :
    (Builtin.append_ #[t, t2] ty #[.slice (some ⟨g, o, none⟩) len cap, .slice (some a) n c]).run P w =
      .ok (.slice (some ⟨g, o, none⟩) (len + n) cap) (w.setRow g (cur.toList.take (o + len * sz) ++ news ++ cur.toList.drop (o + len * sz + news.length)).toArray) := by
  have hf := run_firstCells_some (P := P) w sz n a n c news hl hnews
  have hst := run_storeCells_at P g (o + len * sz) ct news 0 cur w hg (by omega) h1
  simp only [Nat.add_zero] at hst
  simp [Builtin.append_, run_underlying hu, run_underlying hu2, run_sizeOf hi, Builtin.lenOf, hle, hf, add_none, hst]

theorem run_append_new {P : Program} {t t2 e e2 ty : TypeId} {w : World} {z : Value} {sz bytes : Nat} (hu : P.underlying t = some (.slice e)) (hu2 : P.underlying t2 = some (.slice e2)) (hi : TyI P e z sz bytes) (base : Option Addr) (len cap : Nat) (olds : List Value)
    (holds : (Builtin.firstCells sz len (.slice base len cap)).run P w.drew = .ok olds.toArray w.drew) (a : Addr) (n c : Nat) (news : List Value) (hl : news.length = n * sz) (hnews : ∀ (j : Nat) (v : Value), news[j]? = some v → w.cell? (a.add j) = some v)
    (hgt : cap < len + n) (hfit : (len + n) * bytes ≤ 140737488355328) (h63 : len + n ≤ 9223372036854775807) :
    ∃ newCap, len + n ≤ newCap ∧ (Builtin.append_ #[t, t2] ty #[.slice base len cap, .slice (some a) n c]).run P w =
      .ok (.slice (some ⟨w.heap.size, 0, none⟩) (len + n) newCap) (w.drew.alloc (.cells (olds.toArray ++ news.toArray ++ Builtin.zeroCells z.cells (newCap - (len + n))) e)) := by
  obtain ⟨i, t1, t2', t3, t4⟩ := hi.get
  subst t3
  subst t4
  have hn : ¬ (len + n ≤ cap) := by omega
  have h63' : ¬ (9223372036854775807 < ((len : Int) + (n : Int))) := by omega
  have h48 := growslice_fits hgt hfit
  have h48' : ¬ (281474976710656 < Builtin.nextslicecap (len + n) cap * i.bytes) := by omega
  have hf := run_firstCells_some (P := P) w.drew i.size n a n c news hl (by simpa using hnews)
  refine ⟨grownCap w (len + n) cap e, ?_, ?_⟩
  · simp [grownCap, Question.cut]
  · simp [Builtin.append_, run_underlying hu, run_underlying hu2, sizeOf, typeInfo, zeroValue, t1, t2', Builtin.lenOf, hn, h63', h48', Question.forced, hf, holds, newRow, grownCap]
    congr 2
    apply Array.ext'
    simp [List.append_assoc]

section
variable {P : Program} {T : Tm} {H : List Blk} {dst : Option Tmp} {type : TypeId} {pos : String} {after : Array Edge} {guard : Option (Nat × Bool)}

theorem get2_append {xs ys : List (List D)} {i j : Nat} {d : D} (h : get2 (xs ++ ys) i j = some d) : (i < xs.length ∧ get2 xs i j = some d) ∨ (xs.length ≤ i ∧ get2 ys (i - xs.length) j = some d) := by
  obtain ⟨e, h1, h2⟩ := get2_some h
  by_cases hi : i < xs.length
  · rw [List.getElem?_append_left hi] at h1
    exact .inl ⟨hi, get2_mk h1 h2⟩
  · rw [List.getElem?_append_right (by omega)] at h1
    exact .inr ⟨by omega, get2_mk h1 h2⟩

theorem rows_append {xs ys : List (List D)} {sz : Nat} (h1 : ∀ (i : Nat) (x : List D), xs[i]? = some x → x.length = sz) (h2 : ∀ (i : Nat) (x : List D), ys[i]? = some x → x.length = sz) : ∀ (i : Nat) (x : List D), (xs ++ ys)[i]? = some x → x.length = sz := fun i x h => by
  by_cases hi : i < xs.length
  · rw [List.getElem?_append_left hi] at h; exact h1 _ _ h
  · rw [List.getElem?_append_right (by omega)] at h; exact h2 _ _ h

/-- Behind the last element of a block. -/
theorem d_append_at {t t2 e e2 : TypeId} {x y : Operand} {b L esz0 sz bytes L' : Nat} {xs ys zs : List (List D)} {z : Value} {vy : V} (hu : P.underlying t = some (.slice e)) (hu2 : P.underlying t2 = some (.slice e2)) (hi : TyI P e z sz bytes) (hz : 0 < sz) (hzs : z.cells.size = sz)
    (hk : H[b]? = some (.sl esz0 xs false)) (hL : xs.length = L) (hesz : esz0 = sz ∨ esz0 = 0) (hy : Holds H sz vy ys) (hzz : xs ++ ys = zs) (hL' : zs.length = L') (hfit : L' * bytes ≤ 140737488355328) (h63 : L' ≤ 9223372036854775807)
    (φ : List Plc) (I : Nat → Prop) (w : World) (a : Act) (hR : Rel H φ I w) (hX : VR φ I w (.ref b L 0 L) (a.eval x)) (hY : VR φ I w vy (a.eval y)) :
    ∃ φ' I' w' c, ((execOp a.eval ⟨dst, .call ⟨.builtin .append, #[x, y], #[t, t2]⟩, type, pos, after, guard⟩).run P w = .ok (.value c) w' ∨ ((execOp a.eval ⟨dst, .call ⟨.builtin .append, #[x, y], #[t, t2]⟩, type, pos, after, guard⟩).run P w = .ok .skip w' ∧ c = undef)) ∧
      Turn φ I w φ' I' w' ∧ Rel (H.set b (.sl sz zs false)) φ' I' w' ∧ VR φ' I' w' (.ref b L' 0 L') c ∧ Keeps φ φ' [b] w w' := by
  subst hzz
  subst hL'
  have hbφ : b < φ.length := by rw [hR.len]; exact (List.getElem?_eq_some_iff.1 hk).1
  have hbH : b < H.length := (List.getElem?_eq_some_iff.1 hk).1
  obtain ⟨ay, cy, hcy, hylen, hyne⟩ := hy.rows hR hY
  have hinv := VR.ref_inv hR hk hL hX
  have hexec : ∀ (c : Value) (w' : World), (Builtin.append_ #[t, t2] type #[a.eval x, a.eval y]).run P w = .ok c w' → (execOp a.eval ⟨dst, .call ⟨.builtin .append, #[x, y], #[t, t2]⟩, type, pos, after, guard⟩).run P w = .ok (.value c) w' := fun c w' h => by
    simp [execOp, resolve, invoke, builtin, h]
  have hrefl : ∀ {l : Plc}, φ[b]? = some l → φ.set b l = φ := fun h => set_same h
  by_cases hys : ys = []
  · -- nothing is appended
    subst hys
    simp only [List.append_nil] at *
    have hlen0 : ∃ base cap, a.eval x = .slice base L cap ∧ L ≤ cap := by
      rcases hinv with ⟨_, _, h1, _, h2, hc⟩ | ⟨h1, h2, a0, _, _, _, hc, _⟩ | ⟨g, δ, arr, ty, cap, hc, _, _, _, _, _, _, _, _, h2, _⟩
      · exact ⟨none, 0, by rw [hc, h1], by omega⟩
      · exact ⟨a0, 0, by rw [hc, h1], by omega⟩
      · exact ⟨_, cap, hc, h2⟩
    obtain ⟨base, cap, hc, hle⟩ := hlen0
    have hrun := run_append_none (P := P) (ty := type) (w := w) hu hu2 hi base L cap ay cy hle
    have hvx : VR φ I w (.ref b L 0 L) (.slice base L cap) := by rw [← hc]; exact hX
    have hbl := hR.blk b _ _ hk (List.getElem?_eq_getElem hbφ)
    have hφb := List.getElem?_eq_getElem hbφ
    refine ⟨φ, I, w, _, .inl (hexec _ _ (by rw [hc, hcy]; exact hrun)), Turn.refl φ I w, ?_, by rw [hL]; exact hvx, Keeps.refl φ [b] w⟩
    have hnb : BR φ I w (.sl sz xs false) φ[b] := by
      generalize φ[b] = l at hbl
      cases hbl with
      | virt => exact .virt sz false
      | sl _ _ _ g δ arr ty hg hn hlen hcs hz0 hI =>
        have : esz0 = sz := hesz.resolve_right (Nat.pos_iff_ne_zero.1 hz0)
        subst this
        exact .sl esz0 xs false g δ arr ty hg hn hlen hcs hz0 hI
    refine hR.step b (by simp [hR.len]) (LE.refl φ) (fun _ h => h) (fun _ _ => rfl) (fun b' k0 l0 hk0 hl0 => ?_) (fun b' l0 g h0 hg0 => .inl ⟨l0, h0, hg0⟩) hR.imm
    by_cases he : b = b'
    · subst he
      simp [hbH] at hk0
      subst hk0
      rw [hφb] at hl0
      cases hl0
      exact .inr hnb
    · rw [get_set_ne _ _ _ _ he] at hk0
      exact .inl ⟨hk0, hl0, fun g _ => ⟨rfl, fun h => h⟩⟩
  · obtain ⟨gy, oy, cvy, hay, hcelly, hdy⟩ := hyne hys
    subst hay
    have hm : 0 < ys.length := List.length_pos_iff.2 hys
    obtain ⟨news, hnl, hnews, hnd, hn1⟩ := Rows_.flat hylen hcelly hdy hz
    have hLen : (xs ++ ys).length = L + ys.length := by simp [hL]
    -- the block moves: what it holds is laid anew
    have moved : ∀ (olds : List Value) (cap : Nat) (base : Option Addr) (l0 : Plc), φ[b]? = some l0 → (∀ newg newn, PlcLE l0 (.at newg 0 sz (L + ys.length) newn)) → a.eval x = .slice base L cap → cap < L + ys.length → olds.length = L * sz →
        (Builtin.firstCells sz L (.slice base L cap)).run P w.drew = .ok olds.toArray w.drew → (∀ (i : Nat) (x : List D), xs[i]? = some x → x.length = sz) → (∀ (i j : Nat) (d : D) (c : Value), get2 xs i j = some d → olds[i * sz + j]? = some c → DR I w d c) →
        ∃ φ' I' w' c, ((execOp a.eval ⟨dst, .call ⟨.builtin .append, #[x, y], #[t, t2]⟩, type, pos, after, guard⟩).run P w = .ok (.value c) w' ∨ (execOp a.eval ⟨dst, .call ⟨.builtin .append, #[x, y], #[t, t2]⟩, type, pos, after, guard⟩).run P w = .ok .skip w' ∧ c = undef) ∧ Turn φ I w φ' I' w' ∧ Rel (H.set b (.sl sz (xs ++ ys) false)) φ' I' w' ∧ VR φ' I' w' (.ref b (xs ++ ys).length 0 (xs ++ ys).length) c ∧ Keeps φ φ' [b] w w' := by
      intro olds cap base l0 hl0 hple hc hgt hol hold hxlen hxd
      obtain ⟨newCap, hcap, hrun⟩ := run_append_new (P := P) (ty := type) (w := w) hu hu2 hi base L cap olds hold ⟨gy, oy, none⟩ ys.length cy news hnl hnews hgt (by rw [← hLen]; exact hfit) (by rw [← hLen]; exact h63)
      let arr := olds.toArray ++ news.toArray ++ Builtin.zeroCells z.cells (newCap - (L + ys.length))
      have hzc : (Builtin.zeroCells z.cells (newCap - (L + ys.length))).size = (newCap - (L + ys.length)) * sz := by simp [Builtin.zeroCells, hzs]
      have harr : arr.size = newCap * sz := by
        simp only [arr, Array.size_append, List.size_toArray, hol, hnl, hzc]
        rw [← Nat.add_mul, ← Nat.add_mul]
        congr 1
        omega
      have hsize : w.drew.heap.size = w.heap.size := rfl
      let w' := w.drew.alloc (.cells arr e)
      let l' : Plc := .at w.heap.size 0 sz (xs ++ ys).length arr.size
      have hheap : ∀ g, g < w.heap.size → w'.heap[g]? = w.heap[g]? := fun g hg => heap_alloc w.drew _ g hg
      have hsame : ∀ g, I g → w'.heap[g]? = w.heap[g]? := fun g hg => hheap g (hR.imm g hg)
      have hnI : ¬ I w.heap.size := fun h => Nat.lt_irrefl _ (hR.imm _ h)
      have hLE : LE φ (φ.set b l') := fun b' l1 h1 => by
        by_cases he : b = b'
        · subst he
          rw [hl0] at h1
          cases h1
          exact ⟨l', by simp [hbφ], by simp only [l', hLen]; exact hple _ _⟩
        · exact ⟨l1, by rw [get_set_ne _ _ _ _ he]; exact h1, .refl _⟩
      have hφb : (φ.set b l')[b]? = some l' := by simp [hbφ]
      have hbr : BR (φ.set b l') I w' (.sl sz (xs ++ ys) false) l' := by
        refine .sl sz (xs ++ ys) false w.heap.size 0 arr e (heap_alloc_at w.drew _) ?_ (rows_append hxlen hylen) (fun i j d c hd hcj => ?_) hz ⟨fun h => (by cases h), fun h => (hnI h).elim⟩
        · rw [hLen, harr, Nat.zero_add]
          exact Nat.mul_le_mul_right _ hcap
        · rw [Nat.zero_add] at hcj
          have hlow : ∀ (i j : Nat), i < L → j < sz → i * sz + j < L * sz := fun i j h1 h2 => by
            have : i * sz + sz ≤ L * sz := by rw [← Nat.succ_mul]; exact Nat.mul_le_mul_right _ h1
            omega
          refine DR.mono (fun _ h => h) hsame (I := I) (w := w) ?_
          rcases get2_append hd with ⟨h1, h2⟩ | ⟨h1, h2⟩
          · obtain ⟨_, hj⟩ := get2_lt hxlen h2
            refine hxd i j d c h2 ?_
            have := hlow i j (by omega) hj
            simp only [arr] at hcj
            rw [Array.getElem?_append_left (by simp; omega), Array.getElem?_append_left (by simp; omega)] at hcj
            simpa using hcj
          · obtain ⟨h3, hj⟩ := get2_lt hylen h2
            refine hnd _ j d c h2 ?_
            have h4 : i * sz + j = L * sz + ((i - xs.length) * sz + j) := by
              have : i = L + (i - xs.length) := by omega
              rw [show i * sz = (L + (i - xs.length)) * sz by rw [← this], Nat.add_mul]
              omega
            have h5 : (i - xs.length) * sz + j < ys.length * sz := by
              have : (i - xs.length) * sz + sz ≤ ys.length * sz := by rw [← Nat.succ_mul]; exact Nat.mul_le_mul_right _ h3
              omega
            simp only [arr] at hcj
            rw [Array.getElem?_append_left (by simp; omega), Array.getElem?_append_right (by simp; omega)] at hcj
            simp only [List.size_toArray, hol, List.getElem?_toArray] at hcj
            rwa [h4, show L * sz + ((i - xs.length) * sz + j) - L * sz = (i - xs.length) * sz + j by omega] at hcj
      refine ⟨φ.set b l', I, w', .slice (some ⟨w.heap.size, 0, none⟩) (L + ys.length) newCap, .inl (hexec _ _ (by rw [hc, hcy]; exact hrun)), ?_, ?_, ?_, fun b' l1 hb' h1 => ⟨by rw [get_set_ne _ _ _ _ (fun e => hb' (by simp [e]))]; exact h1, fun g' hg1 => hheap g' (hR.lt h1 hg1)⟩⟩
      · refine ⟨rfl, rfl, rfl, by simp [w', World.alloc], by simp [w'], fun g hg _ => hheap g hg, hsame, fun _ h => h, hLE, fun b' l1 g h1 hg1 => ?_, fun _ h => .inl h⟩
        by_cases he : b = b'
        · subst he
          rw [hφb] at h1
          cases h1
          cases hg1
          exact .inl (Nat.le_refl _)
        · rw [get_set_ne _ _ _ _ he] at h1
          exact .inr ⟨l1, h1, hg1⟩
      · refine hR.step b (by simp [hR.len]) hLE (fun _ h => h) hsame (fun b' k0 l1 hk0 hl1 => ?_) (fun b' l1 g h1 hg1 => ?_) (fun g hg => ?_)
        · by_cases he : b = b'
          · subst he
            simp [hbH] at hk0
            rw [hφb] at hl1
            cases hl1
            subst hk0
            exact .inr hbr
          · rw [get_set_ne _ _ _ _ he] at hk0 hl1
            exact .inl ⟨hk0, hl1, fun g hg => ⟨hheap g (hR.lt hl1 hg), fun h => h⟩⟩
        · by_cases he : b = b'
          · subst he
            rw [hφb] at h1
            cases h1
            cases hg1
            exact .inr ⟨rfl, Nat.le_refl _⟩
          · rw [get_set_ne _ _ _ _ he] at h1
            exact .inl ⟨l1, h1, hg1⟩
        · have := hR.imm g hg
          simp only [w', World.size_alloc, World.size_drew]
          omega
      · rw [hLen]
        have := VR.ref (φ := φ.set b l') (I := I) (w := w') b (L + ys.length) 0 (L + ys.length) w.heap.size 0 sz arr.size newCap (by rw [hφb]; simp only [l', hLen]) (by omega) hcap (by omega) (by rw [harr]; simp)
        simpa using this
    rcases hinv with ⟨hb, hxs, hL0, _, _, hc⟩ | ⟨hl0, _, a0, g, δ, n, hc, hb⟩ | ⟨g, δ, arr, ty, cap, hc, hb, hg, hn, hxlen, hxd, hz0, hI, g1, g2, g3, g4⟩
    · subst hxs
      subst hL0
      exact moved [] 0 none .virt hb (fun newg newn => .first _ _ _ _ _ (by omega)) hc (by omega) (by simp) (by simp [Builtin.firstCells]) (by simp) (by simp [get2])
    · subst hl0
      obtain rfl : xs = [] := List.eq_nil_of_length_eq_zero hL
      exact moved [] 0 a0 _ hb (fun newg newn => .more _ _ _ _ _ _ _ _ _ _ (by omega)) hc (by omega) (by simp) (by cases a0 <;> simp [Builtin.firstCells, loadCells, loadCellsFrom]) (by simp) (by simp [get2])
    · have hes : esz0 = sz := hesz.resolve_right (Nat.pos_iff_ne_zero.1 hz0)
      subst hes
      simp only [Nat.zero_mul, Nat.add_zero, Nat.zero_add] at hc g4 g3
      by_cases hroom : L + ys.length ≤ cap
      · -- in place
        have hfit2 : δ + L * esz0 + ys.length * esz0 ≤ arr.size := by
          have : (L + ys.length) * esz0 ≤ cap * esz0 := Nat.mul_le_mul_right _ hroom
          rw [Nat.add_mul] at this
          omega
        have hrun := run_append_in (P := P) (ty := type) (w := w) hu hu2 hi g δ L cap ⟨gy, oy, none⟩ ys.length cy news hg hnl hnews hn1 hroom hfit2
        have hnI : ¬ I g := fun h => by have := hI.2 h; cases this
        have hlt : L < L + ys.length := by omega
        have hfitA : δ + L * esz0 + news.length ≤ arr.toList.length := by rw [hnl, Array.length_toList]; exact hfit2
        obtain ⟨arr', harr'⟩ : ∃ arr', arr' = (arr.toList.take (δ + L * esz0) ++ news ++ arr.toList.drop (δ + L * esz0 + news.length)).toArray := ⟨_, rfl⟩
        rw [← harr'] at hrun
        have hsz : arr'.size = arr.size := by
          have h0 := Array.length_toList (xs := arr)
          subst harr'
          simp only [List.size_toArray, List.length_append, List.length_take, List.length_drop]
          omega
        have hw := hR.write (b := b) (l := .at g δ esz0 L arr.size) (l' := .at g δ esz0 (xs ++ ys).length arr'.size) (g := g) hb rfl hnI
          (by rw [hLen]; exact .more _ _ _ _ _ _ _ _ _ _ hlt) rfl arr' (.sl esz0 (xs ++ ys) false)
        have hsame : ∀ g', I g' → (w.setRow g arr').heap[g']? = w.heap[g']? := fun g' hg' => setRow_other w g g' _ fun e => hnI (e ▸ hg')
        obtain ⟨h1, h2, hkp⟩ := hw (.sl esz0 (xs ++ ys) false g δ _ ty (setRow_heap w g arr _ ty (0, 0) hg) (by rw [hsz, hLen, Nat.add_mul]; omega) (rows_append hxlen hylen) (fun i j d c hd hcj => by
          refine DR.mono (fun _ h => h) hsame (I := I) (w := w) ?_
          subst harr'
          simp only [List.getElem?_toArray] at hcj
          rw [splice_get _ _ _ hfitA, hnl] at hcj
          rcases get2_append hd with ⟨h1, h2⟩ | ⟨h1, h2⟩
          · obtain ⟨_, hj⟩ := get2_lt hxlen h2
            have : i * esz0 + esz0 ≤ L * esz0 := by rw [← Nat.succ_mul]; exact Nat.mul_le_mul_right _ (by omega)
            rw [if_neg (by omega)] at hcj
            exact hxd i j d c h2 (by simpa using hcj)
          · obtain ⟨h3, hj⟩ := get2_lt hylen h2
            have h4 : i * esz0 = L * esz0 + (i - xs.length) * esz0 := by
              have : i = L + (i - xs.length) := by omega
              rw [show i * esz0 = (L + (i - xs.length)) * esz0 by rw [← this], Nat.add_mul]
            have h5 : (i - xs.length) * esz0 + esz0 ≤ ys.length * esz0 := by rw [← Nat.succ_mul]; exact Nat.mul_le_mul_right _ h3
            rw [if_pos (by omega)] at hcj
            refine hnd _ j d c h2 ?_
            rwa [show δ + i * esz0 + j - (δ + L * esz0) = (i - xs.length) * esz0 + j by omega] at hcj) hz0 ⟨fun h => (by cases h), fun h => (hnI h).elim⟩)
        refine ⟨_, I, _, .slice (some ⟨g, δ, none⟩) (L + ys.length) cap, .inl (hexec _ _ (by rw [hc, hcy]; exact hrun)), h2, h1, ?_, hkp⟩
        have hv := VR.ref (φ := φ.set b (.at g δ esz0 (xs ++ ys).length arr'.size)) (I := I) (w := w.setRow g arr') b (xs ++ ys).length 0 (xs ++ ys).length g δ esz0 _ cap (by simp [hbφ]; rfl) (by omega) (by rw [hLen]; exact hroom) (by rw [hLen]; omega) (by rw [hsz]; simpa using g4)
        rw [hLen] at hv ⊢
        simpa using hv
      · -- it grows
        have hLe : L * esz0 ≤ arr.size - δ := by omega
        refine moved ((arr.toList.drop δ).take (L * esz0)) cap _ _ hb (fun newg newn => .more _ _ _ _ _ _ _ _ _ _ (by omega)) hc (by omega) (by simp; omega) ?_ hxlen (fun i j d c hd hcj => ?_)
        · refine run_firstCells_some (P := P) w.drew esz0 L ⟨g, δ, none⟩ L cap _ (by simp; omega) fun j v hj => ?_
          have hjs : j < L * esz0 := by have := (List.getElem?_eq_some_iff.1 hj).1; simp at this; omega
          rw [List.getElem?_take_of_lt hjs] at hj
          rw [add_none, World.cell?_drew, cell_of hg]
          simpa using hj
        · obtain ⟨h1, hj⟩ := get2_lt hxlen hd
          have : i * esz0 + esz0 ≤ L * esz0 := by rw [← Nat.succ_mul]; exact Nat.mul_le_mul_right _ (by omega)
          rw [List.getElem?_take_of_lt (by omega)] at hcj
          refine hxd i j d c hd ?_
          rw [Nat.add_assoc]
          simpa using hcj

theorem d_append {t t2 e e2 : TypeId} {x y : Operand} {b L len esz0 sz bytes L' : Nat} {xs ys zs : List (List D)} {z : Value} (hu : P.underlying t = some (.slice e)) (hu2 : P.underlying t2 = some (.slice e2)) (hi : TyI P e z sz bytes) (hz : 0 < sz) (hzs : z.cells.size = sz)
    (hx : ev T x = .ref b L 0 L) (hk : H[b]? = some (.sl esz0 xs false)) (hL : xs.length = L) (hesz : esz0 = sz ∨ esz0 = 0) (hy : Holds H sz (ev T y) ys) (hzz : xs ++ ys = zs) (hL' : zs.length = L') (hfit : L' * bytes ≤ 140737488355328) (h63 : L' ≤ 9223372036854775807) :
    Does P ⟨dst, .call ⟨.builtin .append, #[x, y], #[t, t2]⟩, type, pos, after, guard⟩ T H (.ref b L' 0 L') (H.set b (.sl sz zs false)) [b] := fun φ I w a hR hT =>
  d_append_at hu hu2 hi hz hzs hk hL hesz hy hzz hL' hfit h63 φ I w a hR (hx ▸ ev_VR hT x) (ev_VR hT y)
end
end Go.VM
namespace Go.VM
set_option linter.unusedVariables false
set_option linter.unusedSimpArgs false

structure TurnM (m : Nat) (φ : List Plc) (I : Nat → Prop) (w : World) (φ' : List Plc) (I' : Nat → Prop) (w' : World) : Prop where
  os : w'.os = w.os
  tape : w'.tape = w.tape
  output : w'.output = w.output
  drawn : w.drawn ≤ w'.drawn
  size : w.heap.size ≤ w'.heap.size
  frame : ∀ g, g < w.heap.size → (∀ (b : Nat) (l : Plc), φ[b]? = some l → l.g? ≠ some g) → w'.heap[g]? = w.heap[g]?
  same : ∀ g, I g → w'.heap[g]? = w.heap[g]?
  sub : ∀ g, I g → I' g
  le : ∀ (b : Nat), b < m → ∀ (l : Plc), φ[b]? = some l → ∃ l' : Plc, φ'[b]? = some l' ∧ PlcLE l l'
  fresh : ∀ (b : Nat) (l : Plc) (g : Nat), φ'[b]? = some l → l.g? = some g → w.heap.size ≤ g ∨ ∃ (b0 : Nat) (l0 : Plc), φ[b0]? = some l0 ∧ l0.g? = some g
  immNew : ∀ g, I' g → I g ∨ w.heap.size ≤ g ∨ ∃ (b : Nat) (l : Plc), φ[b]? = some l ∧ l.g? = some g

theorem Turn.toM {φ φ' : List Plc} {I I' : Nat → Prop} {w w' : World} (h : Turn φ I w φ' I' w') (m : Nat) : TurnM m φ I w φ' I' w' :=
  ⟨h.os, h.tape, h.output, h.drawn, h.size, h.frame, h.same, h.sub, fun b _ l hl => h.le b l hl, fun b l g hb hg => (h.fresh b l g hb hg).imp id fun ⟨l0, h0⟩ => ⟨b, l0, h0⟩, h.immNew⟩

theorem TurnM.trans {m : Nat} {φ φ1 φ2 : List Plc} {I I1 I2 : Nat → Prop} {w w1 w2 : World} (h : TurnM m φ I w φ1 I1 w1) (h' : TurnM m φ1 I1 w1 φ2 I2 w2) : TurnM m φ I w φ2 I2 w2 where
  os := h'.os.trans h.os
  tape := h'.tape.trans h.tape
  output := h'.output.trans h.output
  drawn := Nat.le_trans h.drawn h'.drawn
  size := Nat.le_trans h.size h'.size
  frame g hg hno := by
    rw [h'.frame g (Nat.lt_of_lt_of_le hg h.size) fun b l hb hlg => ?_, h.frame g hg hno]
    rcases h.fresh b l g hb hlg with hge | ⟨b0, l0, hl0, hl0g⟩
    · omega
    · exact hno b0 l0 hl0 hl0g
  same g hg := by rw [h'.same g (h.sub g hg), h.same g hg]
  sub g hg := h'.sub g (h.sub g hg)
  le b hb l hl := by
    obtain ⟨l1, h1, hl1⟩ := h.le b hb l hl
    obtain ⟨l2, h2, hl2⟩ := h'.le b hb l1 h1
    exact ⟨l2, h2, hl1.trans hl2⟩
  fresh b l g hb hg := by
    rcases h'.fresh b l g hb hg with hge | ⟨b0, l0, hl0, hl0g⟩
    · exact .inl (Nat.le_trans h.size hge)
    · exact h.fresh b0 l0 g hl0 hl0g
  immNew g hg := by
    rcases h'.immNew g hg with h1 | h1 | ⟨b, l, hb, hl⟩
    · exact h.immNew g h1
    · exact .inr (.inl (Nat.le_trans h.size h1))
    · rcases h.fresh b l g hb hl with hge | ⟨b0, l0, hl0, hl0g⟩
      · exact .inr (.inl hge)
      · exact .inr (.inr ⟨b0, l0, hl0, hl0g⟩)

/-- What is still to be done. -/
inductive VI where
  | code (c : Code)
  | blk (id : Nat)
  | loop (body : Code)
  | ops (all : Array Oper) (i : Nat) (l : List Oper)

def VI.item : VI → Item
  | .code c => .code c
  | .blk id => .inBlock id
  | .loop body => .inLoop body
  | .ops all i l => .inRegion all (List.range' i l.length)
def VI.ok : VI → Prop
  | .ops all i l => all.toList.drop i = l
  | _ => True

def Goes (P : Program) (f : FuncId) (N m : Nat) (todo : List VI) (T : Tm) (H : List Blk) (r : V) (B : List Blk) : Prop :=
  ∀ (φ : List Plc) (I : Nat → Prop) (w : World) (a : Act) (b : Frame) (cs : List Frame), Rel H φ I w → TR φ I w T a → a.defers = [] → a.tmps.size = N → (∀ x ∈ todo, x.ok) → b.fn = f → b.kind = .normal →
    ∃ φ' I' w' c fr, Steps P (lone (b.at a (todo.map VI.item)) cs w) (lone fr cs w') ∧ fr.fn = f ∧ fr.leaving P w' (.returned c) ∧ TurnM m φ I w φ' I' w' ∧ Rel B φ' I' w' ∧ VR φ' I' w' r c

section
variable {P : Program} {f : FuncId} {N m : Nat} {T : Tm} {H : List Blk} {r : V} {B : List Blk} {k : List VI}

theorem Goes.of_step {todo todo2 : List VI} (hok : (∀ x ∈ todo, x.ok) → ∀ x ∈ todo2, x.ok)
    (h : ∀ (φ : List Plc) (I : Nat → Prop) (w : World) (a : Act) (b : Frame) (cs : List Frame), TR φ I w T a → step P (lone (b.at a (todo.map VI.item)) cs w) = .next (lone (b.at a (todo2.map VI.item)) cs w))
    (hg : Goes P f N m todo2 T H r B) : Goes P f N m todo T H r B := fun φ I w a b cs hR hT hd hN hk hf hkd => by
  obtain ⟨φ', I', w', c, fr, hs, h1⟩ := hg φ I w a b cs hR hT hd hN (hok hk) hf hkd
  exact ⟨φ', I', w', c, fr, .head (h φ I w a b cs hT) hs, h1⟩

theorem gSeq {x y : Code} (h : Goes P f N m (.code x :: .code y :: k) T H r B) : Goes P f N m (.code (.seq x y) :: k) T H r B :=
  h.of_step (fun hk z hz => by
    simp only [List.mem_cons] at hz
    rcases hz with rfl | rfl | hz
    · trivial
    · trivial
    · exact hk z (by simp [hz])) (fun _ _ _ _ _ _ _ => step_seq)
theorem gSkip (h : Goes P f N m k T H r B) : Goes P f N m (.code .skip :: k) T H r B :=
  h.of_step (fun hk z hz => hk z (by simp [hz])) (fun _ _ _ _ _ _ _ => step_skip)
theorem gBlock {id : Nat} {c : Code} (h : Goes P f N m (.code c :: .blk id :: k) T H r B) : Goes P f N m (.code (.block id c) :: k) T H r B :=
  h.of_step (fun hk z hz => by
    simp only [List.mem_cons] at hz
    rcases hz with rfl | rfl | hz
    · trivial
    · trivial
    · exact hk z (by simp [hz])) (fun _ _ _ _ _ _ _ => step_block)
theorem gBlk {id : Nat} (h : Goes P f N m k T H r B) : Goes P f N m (.blk id :: k) T H r B :=
  h.of_step (fun hk z hz => hk z (by simp [hz])) (fun _ _ _ _ _ _ _ => step_inBlock)
theorem gLoop {c : Code} (h : Goes P f N m (.code c :: .loop c :: k) T H r B) : Goes P f N m (.code (.loop c) :: k) T H r B :=
  h.of_step (fun hk z hz => by
    simp only [List.mem_cons] at hz
    rcases hz with rfl | rfl | hz
    · trivial
    · trivial
    · exact hk z (by simp [hz])) (fun _ _ _ _ _ _ _ => step_loop)
theorem gAgain {c : Code} (h : Goes P f N m (.code c :: .loop c :: k) T H r B) : Goes P f N m (.loop c :: k) T H r B :=
  h.of_step (fun hk z hz => by
    simp only [List.mem_cons] at hz
    rcases hz with rfl | rfl | hz
    · trivial
    · trivial
    · exact hk z (by simp [hz])) (fun _ _ _ _ _ _ _ => step_inLoop)

def vexit (id : Nat) : List VI → Option (List VI)
  | [] => none
  | .blk id' :: k => bif Nat.beq id' id then some k else vexit id k
  | _ :: k => vexit id k
theorem vexit_exit {id : Nat} : ∀ {k k' : List VI}, vexit id k = some k' → exitTo id (k.map VI.item) = some (k'.map VI.item) ∧ ∀ x ∈ k', x ∈ k
  | [], k', h => by cases h
  | x :: k, k', h => by
    have hrec : vexit id k = some k' → exitTo id (k.map VI.item) = some (k'.map VI.item) ∧ ∀ y ∈ k', y ∈ x :: k := fun h => ⟨(vexit_exit h).1, fun y hy => List.mem_cons_of_mem _ ((vexit_exit h).2 y hy)⟩
    cases x with
    | blk id' =>
      simp only [vexit] at h
      by_cases he : id' = id
      · subst he
        simp at h
        subst h
        simp only [List.map_cons, VI.item, exitTo, beq_self_eq_true, if_true]
        exact ⟨trivial, fun y hy => List.mem_cons_of_mem _ hy⟩
      · have hb : Nat.beq id' id = false := by
          cases hb : Nat.beq id' id with
          | true => exact absurd (Nat.eq_of_beq_eq_true hb) he
          | false => rfl
        rw [hb] at h
        have := hrec h
        simp only [List.map_cons, VI.item, exitTo]
        have he' : (id' == id) = false := by simpa using he
        rw [he']
        simpa using this
    | code c => exact ⟨by simpa [VI.item, exitTo] using (hrec h).1, (hrec h).2⟩
    | loop c => exact ⟨by simpa [VI.item, exitTo] using (hrec h).1, (hrec h).2⟩
    | ops a i l => exact ⟨by simpa [VI.item, exitTo] using (hrec h).1, (hrec h).2⟩

theorem gExit {id : Nat} {k' : List VI} (he : vexit id k = some k') (h : Goes P f N m k' T H r B) : Goes P f N m (.code (.exit id) :: k) T H r B :=
  h.of_step (fun hk z hz => hk z (by simp [(vexit_exit he).2 z hz])) (fun _ _ _ _ _ _ _ => step_exit (vexit_exit he).1)

theorem gCondT {c : Operand} {x y : Code} (hc : ev T c = .d (.bool true)) (h : Goes P f N m (.code x :: k) T H r B) : Goes P f N m (.code (.cond c x y) :: k) T H r B :=
  h.of_step (fun hk z hz => by
    simp only [List.mem_cons] at hz
    rcases hz with rfl | hz
    · trivial
    · exact hk z (by simp [hz])) (fun φ I w a b cs hT => step_cond (t := true) (hc ▸ ev_VR hT c).bool_inv)
theorem gCondF {c : Operand} {x y : Code} (hc : ev T c = .d (.bool false)) (h : Goes P f N m (.code y :: k) T H r B) : Goes P f N m (.code (.cond c x y) :: k) T H r B :=
  h.of_step (fun hk z hz => by
    simp only [List.mem_cons] at hz
    rcases hz with rfl | hz
    · trivial
    · exact hk z (by simp [hz])) (fun φ I w a b cs hT => step_cond (t := false) (hc ▸ ev_VR hT c).bool_inv)

/-- A region that keeps the text's order. -/
theorem gRegion {id : Nat} {all : Array Oper} {l : List Oper} (hl : all.toList = l) (h : Goes P f N m (.ops all 0 l :: k) T H r B) : Goes P f N m (.code (.region id all false) :: k) T H r B :=
  h.of_step (fun hk z hz => by
    simp only [List.mem_cons] at hz
    rcases hz with rfl | hz
    · simpa [VI.ok] using hl
    · exact hk z (by simp [hz])) (fun φ I w a b cs hT => by
      have := step_region (P := P) (b := b) (a := a) (k := k.map VI.item) (cs := cs) (w := w) (id := id) (ops := all)
      rw [List.map_cons, List.map_cons]
      simp only [VI.item]
      rw [this, ← hl, Array.length_toList, List.range_eq_range'])
theorem gEnd {all : Array Oper} {i : Nat} (h : Goes P f N m k T H r B) : Goes P f N m (.ops all i [] :: k) T H r B :=
  h.of_step (fun hk z hz => hk z (by simp [hz])) (fun φ I w a b cs hT => step_region_end)

/-! ### one operation -/
theorem drop_get {α : Type} {l t : List α} {i : Nat} {x : α} (h : l.drop i = x :: t) : l[i]? = some x ∧ l.drop (i + 1) = t := by
  have h1 : (l.drop i)[0]? = some x := by rw [h]; rfl
  rw [List.getElem?_drop] at h1
  refine ⟨by simpa using h1, ?_⟩
  rw [← List.drop_drop, h]
  rfl

theorem step_value {ops : Array Oper} {i : Nat} {rest : List Nat} {o : Oper} {b : Frame} {a : Act} {K : List Item} {cs : List Frame} {w w' : World} {v : Value} (ho : ops[i]? = some o) (hw : Region.wanted o (yielded ops a.tmps) = true)
    (hr : (execOp a.eval o).run P w = .ok (.value v) w' ∨ ((execOp a.eval o).run P w = .ok .skip w' ∧ v = undef)) :
    step P (lone (b.at a (.inRegion ops (i :: rest) :: K)) cs w) = .next (lone (b.at (a.put o.dst v) (.inRegion ops rest :: K)) cs w') := by
  have hg := stepG_op (P := P) (b := b) (k := K) (cs := cs) (w := w) (rest := rest) ho hw
  have hfin : ∀ v, (b.at a (.inRegion ops (i :: rest) :: K)).finish v = b.at (a.put o.dst v) (.inRegion ops rest :: K) := by
    intro v; rw [Frame.finish_at, ho]; rfl
  refine step_lone_go ?_
  rcases hr with hr | ⟨hr, rfl⟩
  · rw [hg, ← hfin]; simp [stepG.apply, hr]
  · rw [hg, ← hfin]; simp [stepG.apply, hr]

/-- Is the operation wanted, as the machine's frame tells? -/
def vyield (T : Tm) (ops : Array Oper) (j : Nat) : Option (Option Bool) :=
  match (ops[j]?).bind (·.dst) with
  | some d => match get T d with
    | .d (.bool b) => some (some b)
    | .tuple _ => some none
    | _ => none
  | none => none
def vwanted (T : Tm) (ops : Array Oper) (o : Oper) : Option Bool :=
  match o.guard with
  | none => some true
  | some (j, want) => (vyield T ops j).map fun y => match y with
    | some b => bif want then b else !b
    | none => false

theorem VR.tuple_val {φ : List Plc} {I : Nat → Prop} {w : World} {vs : List V} {c : Value} (h : VR φ I w (.tuple vs) c) : ∃ cs, c = .tuple cs := by
  cases h
  exact ⟨_, rfl⟩
theorem undef_VR (φ : List Plc) (I : Nat → Prop) (w : World) : VR φ I w (.tuple []) undef := .tuple [] #[] rfl (fun i v c h => by simp at h)

theorem vwanted_wanted {φ : List Plc} {I : Nat → Prop} {w : World} {a : Act} {ops : Array Oper} {o : Oper} {t : Bool} (hT : TR φ I w T a) (h : vwanted T ops o = some t) : Region.wanted o (yielded ops a.tmps) = t := by
  unfold vwanted at h
  unfold Region.wanted
  cases hg : o.guard with
  | none => simp [hg] at h; simpa using h
  | some q =>
    obtain ⟨j, want⟩ := q
    simp only [hg] at h ⊢
    obtain ⟨b, hb, hbt⟩ := Option.map_eq_some_iff.1 h
    have hy : yielded ops a.tmps j = b := by
      unfold vyield at hb
      unfold yielded
      cases hd : (ops[j]?).bind (·.dst) with
      | none => simp [hd] at hb
      | some d =>
        simp only [hd] at hb
        have hv := hT d
        simp only [Option.bind_some]
        split at hb
        case h_3 => cases hb
        case h_1 b' hgt =>
          cases hb
          rw [hgt] at hv
          have := hv.bool_inv
          have hlt : d < a.tmps.size := by
            rcases Nat.lt_or_ge d a.tmps.size with h | h
            · exact h
            · rw [Array.getD_eq_getD_getElem?, Array.getElem?_eq_none h] at this
              cases this
          rw [Array.getD_eq_getD_getElem?, Array.getElem?_eq_getElem hlt] at this
          simp only [Option.getD_some] at this
          rw [Array.getElem?_eq_getElem hlt, this]
        case h_2 vs hgt =>
          cases hb
          rw [hgt] at hv
          obtain ⟨cs, this⟩ := hv.tuple_val
          rcases Nat.lt_or_ge d a.tmps.size with hlt | hge
          · rw [Array.getD_eq_getD_getElem?, Array.getElem?_eq_getElem hlt] at this
            simp only [Option.getD_some] at this
            rw [Array.getElem?_eq_getElem hlt, this]
          · rw [Array.getElem?_eq_none hge]
    rw [hy]
    subst hbt
    cases b with
    | none => rfl
    | some b => cases want <;> cases b <;> rfl

theorem TR.put {φ : List Plc} {I : Nat → Prop} {w : World} {a : Act} {v : V} {c : Value} {d : Nat} (h : TR φ I w T a) (hd : d < a.tmps.size) (hv : VR φ I w v c) : TR φ I w ((d, v) :: T) (a.put (some d) c) := fun t => by
  simp only [get, Act.put]
  by_cases he : t = d
  · subst he
    have hb : Nat.beq t t = true := by simp
    rw [hb, Array.getD_eq_getD_getElem?, Array.getElem?_setIfInBounds, if_pos rfl, if_pos hd]
    exact hv
  · have hb : Nat.beq t d = false := by
      cases hb : Nat.beq t d with
      | true => exact absurd (Nat.eq_of_beq_eq_true hb) he
      | false => rfl
    rw [hb, Array.getD_eq_getD_getElem?, Array.getElem?_setIfInBounds, if_neg (fun e => he e.symm), ← Array.getD_eq_getD_getElem?]
    exact h t

def tput (T : Tm) (dst : Option Tmp) (v : V) : Tm :=
  match dst with
  | some d => (d, v) :: T
  | none => T
def inN (N : Nat) (dst : Option Tmp) : Bool :=
  match dst with
  | some d => Nat.blt d N
  | none => true
theorem TR.tput {φ : List Plc} {I : Nat → Prop} {w : World} {a : Act} {v : V} {c : Value} {dst : Option Tmp} (h : TR φ I w T a) (hN : a.tmps.size = N) (hd : inN N dst = true) (hv : VR φ I w v c) : TR φ I w (tput T dst v) (a.put dst c) := by
  cases dst with
  | none => exact h
  | some d => exact h.put (by rw [hN]; exact Nat.le_of_ble_eq_true hd) hv
theorem put_size {a : Act} {dst : Option Tmp} {c : Value} : (a.put dst c).tmps.size = a.tmps.size := by cases dst <;> simp [Act.put]
theorem put_defers {a : Act} {dst : Option Tmp} {c : Value} : (a.put dst c).defers = a.defers := by cases dst <;> simp [Act.put]

theorem ops_cons {all : Array Oper} {i : Nat} {o : Oper} {l : List Oper} : VI.item (.ops all i (o :: l)) = .inRegion all (i :: List.range' (i + 1) l.length) := by simp [VI.item, List.range'_succ]

theorem gOp {all : Array Oper} {i : Nat} {o : Oper} {l : List Oper} {v : V} {H' : List Blk} {tc : List Nat} (hw : vwanted T all o = some true) (hN : inN N o.dst = true) (hdo : Does P o T H v H' tc) (h : Goes P f N m (.ops all (i + 1) l :: k) (tput T o.dst v) H' r B) :
    Goes P f N m (.ops all i (o :: l) :: k) T H r B := fun φ I w a b cs hR hT hd hsz hk hf hkd => by
  obtain ⟨ho, hl⟩ := drop_get (show all.toList.drop i = o :: l from hk (.ops all i (o :: l)) (by simp))
  have ho' : all[i]? = some o := by simpa using ho
  obtain ⟨φ1, I1, w1, c, hrun, ht, hR1, hv, _⟩ := hdo φ I w a hR hT
  have hstep := step_value (P := P) (b := b) (K := k.map VI.item) (cs := cs) (rest := List.range' (i + 1) l.length) ho' (vwanted_wanted hT hw) hrun
  obtain ⟨φ', I', w', c', fr, hs, h1, h2, h3, h4⟩ := h φ1 I1 w1 (a.put o.dst c) b cs hR1 ((hT.turn ht).tput hsz hN hv) (by rw [put_defers]; exact hd) (by rw [put_size]; exact hsz) (fun x hx => by
    simp only [List.mem_cons] at hx
    rcases hx with rfl | hx
    · exact hl
    · exact hk x (by simp [hx])) hf hkd
  refine ⟨φ', I', w', c', fr, .head ?_ hs, h1, h2, (ht.toM m).trans h3, h4⟩
  rw [List.map_cons, ops_cons]
  exact hstep

/-- An operation that isn't wanted. -/
theorem gNot {all : Array Oper} {i : Nat} {o : Oper} {l : List Oper} (hw : vwanted T all o = some false) (hN : inN N o.dst = true) (h : Goes P f N m (.ops all (i + 1) l :: k) (tput T o.dst (.tuple [])) H r B) :
    Goes P f N m (.ops all i (o :: l) :: k) T H r B := fun φ I w a b cs hR hT hd hsz hk hf hkd => by
  obtain ⟨ho, hl⟩ := drop_get (show all.toList.drop i = o :: l from hk (.ops all i (o :: l)) (by simp))
  have ho' : all[i]? = some o := by simpa using ho
  have hstep := step_op_skip (P := P) (b := b) (a := a) (k := k.map VI.item) (cs := cs) (w := w) (ops := all) (i := i) (rest := List.range' (i + 1) l.length) (by simp [ho', vwanted_wanted hT hw])
  rw [ho'] at hstep
  obtain ⟨φ', I', w', c', fr, hs, h1, h2, h3, h4⟩ := h φ I w (a.put o.dst undef) b cs hR (hT.tput hsz hN (undef_VR _ _ _)) (by rw [put_defers]; exact hd) (by rw [put_size]; exact hsz) (fun x hx => by
    simp only [List.mem_cons] at hx
    rcases hx with rfl | hx
    · exact hl
    · exact hk x (by simp [hx])) hf hkd
  refine ⟨φ', I', w', c', fr, .head ?_ hs, h1, h2, h3, h4⟩
  rw [List.map_cons, ops_cons]
  exact hstep

/-! ### what changes nothing in the program -/
/-- The machine's own view turns; nothing happens. -/
def Ghost (T : Tm) (H : List Blk) (T' : Tm) (H' : List Blk) : Prop :=
  ∀ (φ : List Plc) (I : Nat → Prop) (w : World) (a : Act), Rel H φ I w → TR φ I w T a → ∃ φ' I', Turn φ I w φ' I' w ∧ Rel H' φ' I' w ∧ TR φ' I' w T' a
theorem gGhost {todo : List VI} {T' : Tm} {H' : List Blk} (hg : Ghost T H T' H') (h : Goes P f N m todo T' H' r B) : Goes P f N m todo T H r B := fun φ I w a b cs hR hT hd hsz hk hf hkd => by
  obtain ⟨φ1, I1, ht, hR1, hT1⟩ := hg φ I w a hR hT
  obtain ⟨φ', I', w', c', fr, hs, h1, h2, h3, h4⟩ := h φ1 I1 w a b cs hR1 hT1 hd hsz hk hf hkd
  exact ⟨φ', I', w', c', fr, hs, h1, h2, (ht.toM m).trans h3, h4⟩

/-- Only these temporaries are needed any more. -/
def keepT (ks : List Nat) (T : Tm) : Tm := ks.map fun t => (t, get T t)
theorem get_keep : ∀ (ks : List Nat) (T : Tm) (t : Nat), get (keepT ks T) t = get T t ∨ get (keepT ks T) t = .undef
  | [], T, t => .inr rfl
  | k :: ks, T, t => by
    simp only [keepT, List.map_cons, get]
    cases hb : Nat.beq t k with
    | true =>
      have := Nat.eq_of_beq_eq_true hb
      subst this
      exact .inl rfl
    | false => exact get_keep ks T t
theorem gKeep {todo : List VI} (ks : List Nat) {T' : Tm} (hT' : keepT ks T = T') (h : Goes P f N m todo T' H r B) : Goes P f N m todo T H r B := by
  subst hT'
  refine gGhost (fun φ I w a hR hT => ⟨φ, I, Turn.refl φ I w, hR, fun t => ?_⟩) h
  rcases get_keep ks T t with h | h
  · rw [h]; exact hT t
  · rw [h]; exact .undef _

/-- A Bool that is held is looked at. -/
theorem gSplit {todo : List VI} (t : Nat) {b : Bool} (ht : get T t = .d (.bool b)) (h1 : b = true → Goes P f N m todo ((t, .d (.bool true)) :: T) H r B) (h2 : b = false → Goes P f N m todo ((t, .d (.bool false)) :: T) H r B) :
    Goes P f N m todo T H r B := by
  have key : ∀ b', get T t = .d (.bool b') → Goes P f N m todo ((t, .d (.bool b')) :: T) H r B → Goes P f N m todo T H r B := fun b' hb' h => by
    refine gGhost (fun φ I w a hR hT => ⟨φ, I, Turn.refl φ I w, hR, fun t' => ?_⟩) h
    simp only [get]
    cases hb : Nat.beq t' t with
    | true =>
      have := Nat.eq_of_beq_eq_true hb
      subst this
      simp only [cond_true]
      rw [← hb']
      exact hT t'
    | false => exact hT t'
  cases b with
  | true => exact key true ht (h1 rfl)
  | false => exact key false ht (h2 rfl)

/-- A nil slice that is held becomes a slice over an empty block of its own. -/
theorem gVirt {esz : Nat} {todo : List VI} (t : Nat) (ht : get T t = .nilc) (h : Goes P f N m todo ((t, .ref H.length 0 0 0) :: T) (H ++ [.sl esz [] false]) r B) : Goes P f N m todo T H r B := by
  refine gGhost (fun φ I w a hR hT => ?_) h
  obtain ⟨h1, h2⟩ := hR.virt (esz := esz)
  refine ⟨_, I, h2, h1, fun t' => ?_⟩
  simp only [get]
  cases hb : Nat.beq t' t with
  | true =>
    have := Nat.eq_of_beq_eq_true hb
    subst this
    have hv := hT t'
    rw [ht] at hv
    rw [hv.nilc_inv]
    exact virt_VR φ I w hR.len
  | false => exact (hT t').turn h2
end
end Go.VM
namespace Go.VM
set_option linter.unusedVariables false
set_option linter.unusedSimpArgs false

/-! ### another name for each block -/
mutual
def mapV (ρ : Nat → Nat) : V → V
  | .ref b L o l => .ref (ρ b) L o l
  | .ptr b o => .ptr (ρ b) o
  | .eptr b L i o => .eptr (ρ b) L i o
  | .fn f caps => .fn f (mapVs ρ caps)
  | .agg cs => .agg (mapVs ρ cs)
  | .tuple vs => .tuple (mapVs ρ vs)
  | v => v
def mapVs (ρ : Nat → Nat) : List V → List V
  | [] => []
  | v :: vs => mapV ρ v :: mapVs ρ vs
end
mutual
def closedV (n : Nat) : V → Bool
  | .ref b _ _ _ => Nat.blt b n
  | .ptr b _ => Nat.blt b n
  | .eptr b _ _ _ => Nat.blt b n
  | .fn _ caps => closedVs n caps
  | .agg cs => closedVs n cs
  | .tuple vs => closedVs n vs
  | _ => true
def closedVs (n : Nat) : List V → Bool
  | [] => true
  | v :: vs => closedV n v && closedVs n vs
end
def mapB (ρ : Nat → Nat) : Blk → Blk
  | .box cells => .box (mapVs ρ cells)
  | b => b
def closedB (n : Nat) : Blk → Bool
  | .box cells => closedVs n cells
  | _ => true

theorem mapVs_map (ρ : Nat → Nat) : ∀ vs : List V, mapVs ρ vs = vs.map (mapV ρ)
  | [] => rfl
  | v :: vs => by simp only [mapVs, List.map_cons, mapVs_map ρ vs]
theorem closedVs_all (n : Nat) : ∀ vs : List V, closedVs n vs = vs.all (closedV n)
  | [] => rfl
  | v :: vs => by simp only [closedVs, List.all_cons, closedVs_all n vs]

theorem mapV_VR {φ φ' : List Plc} {I : Nat → Prop} {w : World} {ρ : Nat → Nat} (hρ : ∀ (b : Nat) (l : Plc), φ[b]? = some l → φ'[ρ b]? = some l) {v : V} {c : Value} (h : VR φ I w v c) : VR φ' I w (mapV ρ v) c := by
  induction h with
  | d x v h => exact .d x v h
  | nilc => exact .nilc
  | ref b L off len g δ esz n cap hb h1 h2 h3 h4 => exact .ref _ L off len g δ esz n cap (hρ _ _ hb) h1 h2 h3 h4
  | refZ b L off g δ esz n a hb h => exact .refZ _ L off g δ esz n a (hρ _ _ hb) h
  | virt b hb => exact .virt _ (hρ _ _ hb)
  | refStale b L off len loc a n c hb hs => exact .refStale _ _ _ _ _ _ _ _ (hρ _ _ hb) hs
  | ptr b off g n hb => exact .ptr _ off g n (hρ _ _ hb)
  | ptrDead b off a hb => exact .ptrDead _ _ _ (hρ _ _ hb)
  | eptr b L i off g δ esz n hb => exact .eptr _ L i off g δ esz n (hρ _ _ hb)
  | eptrStale b L i off loc a hb hs => exact .eptrStale _ _ _ _ _ _ (hρ _ _ hb) hs
  | lptr cells off g o cv hI h1 h2 => exact .lptr cells off g o cv hI h1 h2
  | nilptr => exact .nilptr
  | fn f caps cs hl hc ih =>
    rw [mapV, mapVs_map]
    refine .fn f _ cs (by simpa using hl) fun i v c h1 h2 => ?_
    simp only [List.getElem?_map] at h1
    obtain ⟨v0, h0, rfl⟩ := Option.map_eq_some_iff.1 h1
    exact ih i v0 c h0 h2
  | nilfn => exact .nilfn
  | agg cells cs hl hc ih =>
    rw [mapV, mapVs_map]
    refine .agg _ cs (by simpa using hl) fun i v c h1 h2 => ?_
    simp only [List.getElem?_map] at h1
    obtain ⟨v0, h0, rfl⟩ := Option.map_eq_some_iff.1 h1
    exact ih i v0 c h0 h2
  | tuple vs cs hl hc ih =>
    rw [mapV, mapVs_map]
    refine .tuple _ cs (by simpa using hl) fun i v c h1 h2 => ?_
    simp only [List.getElem?_map] at h1
    obtain ⟨v0, h0, rfl⟩ := Option.map_eq_some_iff.1 h1
    exact ih i v0 c h0 h2
  | undef v => exact .undef v

/-- The way back: a value all of whose blocks have a name here. -/
theorem mapV_back {φ φ' : List Plc} {I : Nat → Prop} {w : World} {ρ : Nat → Nat} {n : Nat} (hρ : ∀ (b : Nat), b < n → φ'[ρ b]? = φ[b]?) : ∀ (v : V) (c : Value), closedV n v = true → VR φ' I w (mapV ρ v) c → VR φ I w v c := by
  have key : ∀ (u : V) (c : Value), VR φ' I w u c → ∀ v : V, mapV ρ v = u → closedV n v = true → VR φ I w v c := by
    intro u c h
    induction h with
    | d x v h =>
      intro v hv hc
      cases v <;> simp [mapV] at hv
      subst hv; exact .d _ _ h
    | nilc => intro v hv hc; cases v <;> simp [mapV] at hv; exact .nilc
    | ref b L off len g δ esz nn cap hb h1 h2 h3 h4 =>
      intro v hv hc
      cases v <;> simp [mapV] at hv
      obtain ⟨rfl, rfl, rfl, rfl⟩ := hv
      exact .ref _ _ _ _ g δ esz nn cap (by rw [← hρ _ (Nat.le_of_ble_eq_true hc)]; exact hb) h1 h2 h3 h4
    | refZ b L off g δ esz nn a hb h =>
      intro v hv hc
      cases v <;> simp [mapV] at hv
      obtain ⟨rfl, rfl, rfl, rfl⟩ := hv
      exact .refZ _ _ _ g δ esz nn a (by rw [← hρ _ (Nat.le_of_ble_eq_true hc)]; exact hb) h
    | virt b hb =>
      intro v hv hc
      cases v <;> simp [mapV] at hv
      obtain ⟨rfl, rfl, rfl, rfl⟩ := hv
      exact .virt _ (by rw [← hρ _ (Nat.le_of_ble_eq_true hc)]; exact hb)
    | refStale b L off len loc a nn cc hb hs =>
      intro v hv hc
      cases v <;> simp [mapV] at hv
      obtain ⟨rfl, rfl, rfl, rfl⟩ := hv
      exact .refStale _ _ _ _ _ _ _ _ (by rw [← hρ _ (Nat.le_of_ble_eq_true hc)]; exact hb) hs
    | ptr b off g nn hb =>
      intro v hv hc
      cases v <;> simp [mapV] at hv
      obtain ⟨rfl, rfl⟩ := hv
      exact .ptr _ _ g nn (by rw [← hρ _ (Nat.le_of_ble_eq_true hc)]; exact hb)
    | ptrDead b off a hb =>
      intro v hv hc
      cases v <;> simp [mapV] at hv
      obtain ⟨rfl, rfl⟩ := hv
      exact .ptrDead _ _ _ (by rw [← hρ _ (Nat.le_of_ble_eq_true hc)]; exact hb)
    | eptr b L i off g δ esz nn hb =>
      intro v hv hc
      cases v <;> simp [mapV] at hv
      obtain ⟨rfl, rfl, rfl, rfl⟩ := hv
      exact .eptr _ _ _ _ g δ esz nn (by rw [← hρ _ (Nat.le_of_ble_eq_true hc)]; exact hb)
    | eptrStale b L i off loc a hb hs =>
      intro v hv hc
      cases v <;> simp [mapV] at hv
      obtain ⟨rfl, rfl, rfl, rfl⟩ := hv
      exact .eptrStale _ _ _ _ _ _ (by rw [← hρ _ (Nat.le_of_ble_eq_true hc)]; exact hb) hs
    | lptr cells off g o cv hI h1 h2 =>
      intro v hv hc
      cases v <;> simp [mapV] at hv
      obtain ⟨rfl, rfl⟩ := hv
      exact .lptr _ _ g o cv hI h1 h2
    | nilptr => intro v hv hc; cases v <;> simp [mapV] at hv; exact .nilptr
    | fn f caps cs hl hcc ih =>
      intro v hv hc
      cases v <;> simp [mapV] at hv
      rename_i f' caps'
      obtain ⟨rfl, hv⟩ := hv
      rw [mapVs_map] at hv
      rw [closedV, closedVs_all] at hc
      subst hv
      refine .fn _ _ cs (by simpa using hl) fun i v c h1 h2 => ih i (mapV ρ v) c (by simp [h1]) h2 v rfl (List.all_eq_true.1 hc v (List.mem_of_getElem? h1))
    | nilfn => intro v hv hc; cases v <;> simp [mapV] at hv; exact .nilfn
    | agg cells cs hl hcc ih =>
      intro v hv hc
      cases v <;> simp [mapV] at hv
      rename_i caps'
      rw [mapVs_map] at hv
      rw [closedV, closedVs_all] at hc
      subst hv
      refine .agg _ cs (by simpa using hl) fun i v c h1 h2 => ih i (mapV ρ v) c (by simp [h1]) h2 v rfl (List.all_eq_true.1 hc v (List.mem_of_getElem? h1))
    | tuple vs cs hl hcc ih =>
      intro v hv hc
      cases v <;> simp [mapV] at hv
      rename_i caps'
      rw [mapVs_map] at hv
      rw [closedV, closedVs_all] at hc
      subst hv
      refine .tuple _ cs (by simpa using hl) fun i v c h1 h2 => ih i (mapV ρ v) c (by simp [h1]) h2 v rfl (List.all_eq_true.1 hc v (List.mem_of_getElem? h1))
    | undef vv =>
      intro v hv hc
      cases v <;> simp [mapV] at hv
      exact .undef _
  exact fun v c hc h => key _ c h v rfl hc

/-- The places of some blocks. -/
def pick (σ : List Nat) (φ : List Plc) : List Plc := σ.map fun b => φ.getD b .dead
def nth (σ : List Nat) (i : Nat) : Nat := σ.getD i 0

theorem pick_get {σ : List Nat} {φ : List Plc} {i : Nat} (hi : i < σ.length) (hσ : ∀ b ∈ σ, b < φ.length) : (pick σ φ)[i]? = φ[nth σ i]? := by
  have hb := hσ σ[i] (List.getElem_mem hi)
  simp [pick, nth, hi, hb]

theorem mapV_one (ρ : Nat → Nat) (v : V) : (mapV ρ v).one = v.one := by cases v <;> rfl

/-- A part of the blocks, each under another name. -/
theorem Rel.pick {H : List Blk} {φ : List Plc} {I : Nat → Prop} {w : World} (h : Rel H φ I w) {σ : List Nat} {B : List Blk} (hσ : ∀ b ∈ σ, b < H.length) (hnd : σ.Nodup) (hB : σ.map (fun b => H[b]?) = B.map (fun k => some (mapB (nth σ) k)))
    (hcl : ∀ k ∈ B, closedB σ.length k = true) : Rel B (pick σ φ) I w := by
  have hlen : B.length = σ.length := by have := congrArg List.length hB; simp at this; omega
  have hσφ : ∀ b ∈ σ, b < φ.length := by rw [h.len]; exact hσ
  have hget : ∀ (i : Nat) (k : Blk), B[i]? = some k → H[nth σ i]? = some (mapB (nth σ) k) := fun i k hk => by
    have hi : i < σ.length := by rw [← hlen]; exact (List.getElem?_eq_some_iff.1 hk).1
    have h1 : (σ.map (fun b => H[b]?))[i]? = some (some (mapB (nth σ) k)) := by rw [hB]; simp [hk]
    simp only [List.getElem?_map, List.getElem?_eq_getElem hi, Option.map_some, Option.some.injEq] at h1
    simpa [nth, hi] using h1
  refine ⟨by simp [VM.pick, hlen], fun i k l hk hl => ?_, fun i j l l' g hl hl' hg hg' => ?_, h.imm⟩
  · have hi : i < σ.length := by rw [← hlen]; exact (List.getElem?_eq_some_iff.1 hk).1
    rw [pick_get hi hσφ] at hl
    have hbr := h.blk _ _ _ (hget i k hk) hl
    have hclk := hcl k (List.mem_of_getElem? hk)
    have hback : ∀ (v : V) (c : Value), closedV σ.length v = true → VR φ I w (mapV (nth σ) v) c → VR (VM.pick σ φ) I w v c := mapV_back fun b hb => (pick_get hb hσφ).symm
    cases k with
    | dead => simp only [mapB] at hbr; cases hbr; exact .dead _ (by assumption)
    | sl esz xs fro =>
      simp only [mapB] at hbr
      cases hbr with
      | virt => exact .virt _ _
      | sl _ _ _ g δ arr e hg hn hlen hc hz hI => exact .sl esz xs fro g δ arr e hg hn hlen hc hz hI
    | box cells =>
      simp only [mapB, mapVs_map] at hbr
      simp only [closedB, closedVs_all] at hclk
      generalize hcm : cells.map (mapV (nth σ)) = cells' at hbr
      cases hbr with
      | box _ g arr e hg hn ho hc hI =>
        subst hcm
        have := BR.box (φ := VM.pick σ φ) (I := I) (w := w) cells g arr e hg (by simpa using hn) (fun j v hv => by
          have := ho j (mapV (nth σ) v) (by simp [hv])
          rwa [mapV_one] at this) (fun j v c hv hcj => hback v c (List.all_eq_true.1 hclk v (List.mem_of_getElem? hv)) (hc j _ c (by simp [hv]) hcj)) hI
        simpa using this
  · have hi : i < σ.length := by have := (List.getElem?_eq_some_iff.1 hl).1; simpa [VM.pick] using this
    have hj : j < σ.length := by have := (List.getElem?_eq_some_iff.1 hl').1; simpa [VM.pick] using this
    rw [pick_get hi hσφ] at hl
    rw [pick_get hj hσφ] at hl'
    have := h.inj _ _ l l' g hl hl' hg hg'
    simp only [nth, List.getD_eq_getElem?_getD, List.getElem?_eq_getElem hi, List.getElem?_eq_getElem hj, Option.getD_some] at this
    rcases Nat.lt_trichotomy i j with hlt | heq | hlt
    · exact absurd this (List.pairwise_iff_getElem.1 hnd i j hi hj hlt)
    · exact heq
    · exact absurd this.symm (List.pairwise_iff_getElem.1 hnd j i hj hi hlt)

section
variable {P : Program} {f : FuncId} {N m : Nat} {T : Tm} {H : List Blk} {r : V} {B : List Blk} {k : List VI}

/-! ### return -/
inductive ResR (P : Program) (T : Tm) (H : List Blk) : ResultVar → V → Prop
  | tmp (t : Tmp) (v : V) (h : get T t = v) : ResR P T H (.tmp t) v
  | one (x : Tmp) (t : TypeId) (b off : Nat) (cells : List V) (d : TypeDesc) (v : V) (hx : get T x = .ptr b off) (hk : H[b]? = some (.box cells)) (hu : P.underlying t = some d) (hd : aggD d = false) (hv : cells[off]? = some v) : ResR P T H (.cell x t) v
  | agg (x : Tmp) (t : TypeId) (b off : Nat) (cells vs : List V) (d : TypeDesc) (z : Value) (sz bytes : Nat) (hx : get T x = .ptr b off) (hk : H[b]? = some (.box cells)) (hu : P.underlying t = some d) (hd : aggD d = true) (hi : TyI P t z sz bytes)
      (hv : (cells.drop off).take sz = vs) (hl : vs.length = sz) : ResR P T H (.cell x t) (.agg vs)
inductive ResRs (P : Program) (T : Tm) (H : List Blk) : List ResultVar → List V → Prop
  | nil : ResRs P T H [] []
  | cons (x : ResultVar) (v : V) (xs : List ResultVar) (vs : List V) (h : ResR P T H x v) (h' : ResRs P T H xs vs) : ResRs P T H (x :: xs) (v :: vs)

def resF (tmps : Array Value) : ResultVar → Sem Value
  | .tmp t => pure (tmps.getD t undef)
  | .cell x t => do loadVar t (← asAddr (tmps.getD x undef))
theorem results_eq (fn : Func) (tmps : Array Value) : results fn tmps = (do let vs ← fn.results.mapM (resF tmps); pure (if h : vs.size = 1 then vs[0] else .tuple vs)) := rfl

theorem ResR.run {φ : List Plc} {I : Nat → Prop} {w : World} {a : Act} (hR : Rel H φ I w) (hT : TR φ I w T a) {x : ResultVar} {v : V} (h : ResR P T H x v) :
    ∃ c, (resF a.tmps x).run P w = .ok c w ∧ VR φ I w v c := by
  cases h with
  | tmp t v h => exact ⟨_, rfl, h ▸ hT t⟩
  | one x t b off cells d v hx hk hu hd hv =>
    obtain ⟨g, arr, e, hc, hb, hg, hn, ho, hcs, hI⟩ := VR.ptr_box hR hk (hx ▸ hT x)
    have hlt : off < arr.size := by rw [hn]; exact (List.getElem?_eq_some_iff.1 hv).1
    refine ⟨arr[off], ?_, hcs off v _ hv (Array.getElem?_eq_getElem hlt)⟩
    have := run_loadAt_one (P := P) (w := w) (a := ⟨g, off, none⟩) (c := arr[off]) hu hd (by rw [cell_of hg]; exact Array.getElem?_eq_getElem hlt)
    simp only [Instr.loadAt, Instr.sureAddr, Sem.run_bind, Sem.run_pure, Result.andThen_ok] at this
    simp only [resF, hc, asAddr, Sem.run_bind, Sem.run_pure, Result.andThen_ok, this]
  | agg x t b off cells vs d z sz bytes hx hk hu hd hi hv hl =>
    obtain ⟨g, arr, e, hc, hb, hg, hn, ho, hcs, hI⟩ := VR.ptr_box hR hk (hx ▸ hT x)
    have hfit : off + sz ≤ cells.length ∨ sz = 0 := by subst hv; simp at hl; omega
    have hl2 : ((arr.toList.drop off).take sz).length = sz := by simp; omega
    have := run_loadAt_agg (P := P) (w := w) (a := ⟨g, off, none⟩) (cs := (arr.toList.drop off).take sz) hu hd hi hl2 fun j v hj => by
      rw [add_none, cell_of hg]
      have hjs : j < sz := by have := (List.getElem?_eq_some_iff.1 hj).1; omega
      rw [List.getElem?_take_of_lt hjs] at hj
      simpa using hj
    simp only [Instr.loadAt, Instr.sureAddr, Sem.run_bind, Sem.run_pure, Result.andThen_ok] at this
    refine ⟨.agg ((arr.toList.drop off).take sz).toArray, by simp only [resF, hc, asAddr, Sem.run_bind, Sem.run_pure, Result.andThen_ok, this], .agg _ _ (by simp; omega) fun i v c h1 h2 => ?_⟩
    subst hv
    have his : i < sz := by have := (List.getElem?_eq_some_iff.1 h1).1; omega
    simp only [List.getElem?_toArray] at h2
    rw [List.getElem?_take_of_lt his] at h1 h2
    simp only [List.getElem?_drop, Array.getElem?_toList] at h1 h2
    exact hcs _ _ _ h1 h2

theorem ResRs.run {φ : List Plc} {I : Nat → Prop} {w : World} {a : Act} (hR : Rel H φ I w) (hT : TR φ I w T a) {xs : List ResultVar} {vs : List V} (h : ResRs P T H xs vs) :
    ∃ cs : List Value, (xs.mapM (resF a.tmps)).run P w = .ok cs w ∧ cs.length = vs.length ∧
      ∀ (i : Nat) (v : V) (c : Value), vs[i]? = some v → cs[i]? = some c → VR φ I w v c := by
  induction h with
  | nil => exact ⟨[], rfl, rfl, by simp⟩
  | cons x v xs vs h h' ih =>
    obtain ⟨c, h1, h2⟩ := h.run hR hT
    obtain ⟨cs, h3, h4, h5⟩ := ih
    refine ⟨c :: cs, ?_, by simp [h4], fun i v' c' hv hc => ?_⟩
    · simp only [List.mapM_cons, Sem.run_bind, h1, Result.andThen_ok, h3, Sem.run_pure]
    · cases i with
      | zero => simp at hv hc; subst hv hc; exact h2
      | succ i => simp at hv hc; exact h5 i v' c' hv hc

def resV : List V → V
  | [v] => v
  | vs => .tuple vs

theorem gRet {fn : Func} {rs : List ResultVar} {vs : List V} {σ : List Nat} (hf : P.funcs[f]? = some fn) (hrs : fn.results.toList = rs) (hres : ResRs P T H rs vs) (hr : mapV (nth σ) r = resV vs) (hrc : closedV σ.length r = true)
    (hσm : σ.take m = List.range m) (hσ : σ.all (fun b => Nat.blt b H.length) = true) (hnd : σ.Nodup) (hB : σ.map (fun b => H[b]?) = B.map (fun k => some (mapB (nth σ) k))) (hcl : B.all (closedB σ.length) = true) :
    Goes P f N m (.code .ret :: k) T H r B := fun φ I w a b cs hR hT hd hsz hk hff hkd => by
  have hσ' : ∀ b ∈ σ, b < H.length := fun b hb => Nat.le_of_ble_eq_true (List.all_eq_true.1 hσ b hb)
  have hσφ : ∀ b ∈ σ, b < φ.length := by rw [hR.len]; exact hσ'
  have hRB := hR.pick hσ' hnd hB (List.all_eq_true.1 hcl)
  obtain ⟨cl, h1, h2, h3⟩ := hres.run hR hT
  have hrun : (results fn a.tmps).run P w = .ok (if h : cl.toArray.size = 1 then cl.toArray[0] else .tuple cl.toArray) w := by
    rw [results_eq, Array.mapM_eq_mapM_toList, hrs]
    simp only [Sem.run_bind, Sem.run_map, h1, Result.andThen_ok, Sem.run_pure]
  have hvr : VR φ I w (resV vs) (if h : cl.toArray.size = 1 then cl.toArray[0] else .tuple cl.toArray) := by
    by_cases h1' : vs.length = 1
    · obtain ⟨v, rfl⟩ : ∃ v, vs = [v] := by cases vs with | nil => cases h1' | cons v vs => cases vs with | nil => exact ⟨v, rfl⟩ | cons => simp at h1'
      obtain ⟨c, rfl⟩ : ∃ c, cl = [c] := by cases cl with | nil => cases h2 | cons c cl => cases cl with | nil => exact ⟨c, rfl⟩ | cons => simp at h2
      simp only [resV, List.size_toArray, List.length_cons, List.length_nil, Nat.zero_add, dite_true]
      exact h3 0 v c rfl rfl
    · have hne : ¬ cl.toArray.size = 1 := by simp; omega
      rw [dif_neg hne]
      have : resV vs = .tuple vs := by
        match vs, h1' with
        | [], _ => rfl
        | [v], h => exact absurd rfl h
        | v :: u :: vs, _ => rfl
      rw [this]
      exact .tuple _ _ (by simp [h2]) fun i v c hv hc => h3 i v c hv (by simpa using hc)
  refine ⟨pick σ φ, I, w, _, { b.at a (.code .ret :: k.map VI.item) with mode := .returning }, .one step_ret, hff, ⟨rfl, hd, hkd, fn, by rw [← hf, ← hff]; rfl, hrun⟩, ?_, hRB, ?_⟩
  · refine ⟨rfl, rfl, rfl, Nat.le_refl _, Nat.le_refl _, fun _ _ _ => rfl, fun _ _ => rfl, fun _ h => h, fun b hb l hl => ?_, fun b l g hb hg => ?_, fun _ h => .inl h⟩
    · have hbt : σ[b]? = some b := by
        have : (σ.take m)[b]? = some b := by rw [hσm]; simp [hb]
        rw [List.getElem?_take_of_lt hb] at this
        exact this
      have hbl := (List.getElem?_eq_some_iff.1 hbt).1
      refine ⟨l, ?_, .refl l⟩
      rw [pick_get hbl hσφ]
      simp only [nth, List.getD_eq_getElem?_getD, hbt, Option.getD_some]
      exact hl
    · have hbl : b < σ.length := by have := (List.getElem?_eq_some_iff.1 hb).1; simpa [VM.pick] using this
      rw [pick_get hbl hσφ] at hb
      exact .inr ⟨_, l, hb, hg⟩
  · exact mapV_back (n := σ.length) (fun b hb => (pick_get hb hσφ).symm) r _ hrc (by rw [hr]; exact hvr)

/-! ### what a call does -/
def Runs (P : Program) (f : FuncId) (args : List V) (B : List Blk) (r : V) (B' : List Blk) : Prop :=
  ∀ (φ : List Plc) (I : Nat → Prop) (w : World) (cargs : Array Value), Rel B φ I w → cargs.size = args.length → (∀ (i : Nat) (v : V) (c : Value), args[i]? = some v → cargs[i]? = some c → VR φ I w v c) →
    Calls P f cargs w fun e w' => ∃ φ' I' c, e = .returned c ∧ TurnM B.length φ I w φ' I' w' ∧ Rel B' φ' I' w' ∧ VR φ' I' w' r c

def argsT (args : List V) : Tm := args.zipIdx.map fun p => (p.2, p.1)
theorem argsT_get : ∀ (args : List V) (k t : Nat), get ((args.zipIdx k).map fun p => (p.2, p.1)) t = if k ≤ t ∧ t < k + args.length then args.getD (t - k) .undef else .undef
  | [], k, t => by simp [get]
  | v :: args, k, t => by
    simp only [List.zipIdx_cons, List.map_cons, get]
    rw [argsT_get args (k + 1) t]
    cases hb : Nat.beq t k with
    | true =>
      have := Nat.eq_of_beq_eq_true hb
      subst this
      simp
    | false =>
      have hne : t ≠ k := fun e => by subst e; simp at hb
      simp only [cond_false, List.length_cons]
      by_cases h : k + 1 ≤ t ∧ t < k + 1 + args.length
      · rw [if_pos h, if_pos (by omega), show t - k = (t - (k + 1)) + 1 by omega]
        simp
      · rw [if_neg h, if_neg (by omega)]

theorem Runs.of_goes {fn : Func} {c : Code} {args : List V} (hf : P.funcs[f]? = some fn) (hc : fn.body = some c) (hN : fn.ntmps = N) (hl : args.length ≤ N) {T : Tm} (hT : argsT args = T) (hm : B.length = m) {B' : List Blk}
    (h : Goes P f N m [.code c] T B r B') : Runs P f args B r B' := fun φ I w cargs hR hsz hall cs => by
  subst hT
  let b : Frame := { (default : Frame) with fn := f, kind := .normal }
  have henter : Frame.enter P f cargs .normal = b.at { tmps := cargs ++ Array.replicate (fn.ntmps - cargs.size) undef, defers := [] } [.code c] := by
    simp [Frame.enter, Frame.at, hf, hc, b]
  have hTR : TR φ I w (argsT args) { tmps := cargs ++ Array.replicate (fn.ntmps - cargs.size) undef, defers := [] } := fun t => by
    unfold argsT
    rw [argsT_get args 0 t]
    by_cases ht : 0 ≤ t ∧ t < 0 + args.length
    · rw [if_pos ht]
      have ht' : t < args.length := by omega
      have htc : t < cargs.size := by omega
      rw [Array.getD_eq_getD_getElem?, Array.getElem?_append_left htc, Array.getElem?_eq_getElem htc]
      simp only [Nat.sub_zero, List.getD_eq_getElem?_getD, List.getElem?_eq_getElem ht', Option.getD_some]
      exact hall t _ _ (List.getElem?_eq_getElem ht') (Array.getElem?_eq_getElem htc)
    · rw [if_neg ht]
      exact .undef _
  obtain ⟨φ', I', w', c', fr, hs, h1, h2, h3, h4, h5⟩ := h φ I w { tmps := cargs ++ Array.replicate (fn.ntmps - cargs.size) undef, defers := [] } b cs hR hTR rfl (by simp; omega) (by simp [VI.ok]) rfl rfl
  refine ⟨.returned c', w', fr, ⟨φ', I', c', rfl, by rw [hm]; exact h3, h4, h5⟩, ?_, h1, h2⟩
  rw [henter]
  exact hs
end
end Go.VM
namespace Go.VM
set_option linter.unusedVariables false
set_option linter.unusedSimpArgs false

/-! ### a value told in another way -/
mutual
inductive ConvR (H : List Blk) : V → V → Prop
  | same (v : V) : ConvR H v v
  | lit (b L o l esz : Nat) (xs ys : List (List D)) (hk : H[b]? = some (.sl esz xs true)) (hL : xs.length = L) (hle : o + l ≤ L) (hy : (xs.drop o).take l = ys) : ConvR H (.ref b L o l) (.d (.lit ys))
  | nil : ConvR H .nilc (.d (.lit []))
  | agg (cs cs' : List V) (h : ConvRs H cs cs') : ConvR H (.agg cs) (.agg cs')
inductive ConvRs (H : List Blk) : List V → List V → Prop
  | nil : ConvRs H [] []
  | cons (v v' : V) (vs vs' : List V) (h : ConvR H v v') (h' : ConvRs H vs vs') : ConvRs H (v :: vs) (v' :: vs')
end

theorem ConvRs.refl (H : List Blk) : ∀ vs : List V, ConvRs H vs vs
  | [] => .nil
  | v :: vs => .cons v v vs vs (.same v) (ConvRs.refl H vs)

theorem lit_of_ref {H : List Blk} {φ : List Plc} {I : Nat → Prop} {w : World} {b L o l esz : Nat} {xs ys : List (List D)} {c : Value} (hR : Rel H φ I w) (hk : H[b]? = some (.sl esz xs true)) (hL : xs.length = L) (hle : o + l ≤ L) (hy : (xs.drop o).take l = ys)
    (h : VR φ I w (.ref b L o l) c) : VR φ I w (.d (.lit ys)) c := by
  have hyl : ys.length = l := by subst hy; simp; omega
  rcases VR.ref_inv hR hk hL h with ⟨_, rfl, _, _, rfl, rfl⟩ | ⟨rfl, _, a, _, _, _, rfl, _⟩ | ⟨g, δ, arr, ty, cap, rfl, hb, hg, hn, hlen, hcs, hz, hI, g1, g2, g3, g4⟩
  · obtain rfl : ys = [] := List.eq_nil_of_length_eq_zero hyl
    exact .d _ _ (.nil _ _)
  · obtain rfl : ys = [] := List.eq_nil_of_length_eq_zero hyl
    exact .d _ _ (.nil _ _)
  · have hrow : ∀ (i : Nat) (e : List D), ys[i]? = some e → e.length = esz := fun i e he => by
      subst hy
      have hil : i < l := by have := (List.getElem?_eq_some_iff.1 he).1; omega
      rw [List.getElem?_take_of_lt hil, List.getElem?_drop] at he
      exact hlen _ _ he
    have hin : ∀ (i j : Nat) (d : D), get2 ys i j = some d → δ + (o + i) * esz + j < arr.size := fun i j d hd => by
      obtain ⟨h1, h2⟩ := get2_lt hrow hd
      have : (o + i) * esz + esz ≤ L * esz := by rw [← Nat.succ_mul]; exact Nat.mul_le_mul_right _ (by omega)
      omega
    have := DR.lit (I := I) (w := w) ys g (δ + o * esz) esz cap (fun i j => arr.getD (δ + (o + i) * esz + j) undef) (hI.1 rfl) hrow (fun i j d hd => by
      have hlt := hin i j d hd
      rw [show δ + o * esz + i * esz + j = δ + (o + i) * esz + j by rw [Nat.add_mul]; omega, cell_of hg]
      simp [Array.getD, hlt]) (fun i j d hd => by
      have hlt := hin i j d hd
      refine hcs (o + i) j d _ (by subst hy; exact get2_cut hd) ?_
      simp [Array.getD, hlt]) (by omega)
    rw [hyl] at this
    exact .d _ _ this

mutual
theorem ConvR.VR {H : List Blk} {φ : List Plc} {I : Nat → Prop} {w : World} (hR : Rel H φ I w) {v v' : V} (h : ConvR H v v') : ∀ {c : Value}, VR φ I w v c → VR φ I w v' c := by
  cases h with
  | same => exact fun hv => hv
  | lit b L o l esz xs ys hk hL hle hy => exact fun hv => lit_of_ref hR hk hL hle hy hv
  | nil => exact fun hv => by rw [hv.nilc_inv]; exact .d _ _ (.nil _ _)
  | agg cs cs' h =>
    intro c hv
    obtain ⟨arr, rfl, hA⟩ := VR.agg_inv hv
    have hs := ConvRs.VRs hR h
    exact .agg _ _ (by rw [hA.1]; exact hs.1) fun i v c h1 h2 => hs.2 i v h1 fun v0 h0 => hA.2 i v0 c h0 h2
theorem ConvRs.VRs {H : List Blk} {φ : List Plc} {I : Nat → Prop} {w : World} (hR : Rel H φ I w) {vs vs' : List V} (h : ConvRs H vs vs') :
    vs'.length = vs.length ∧ ∀ (i : Nat) (v : V), vs'[i]? = some v → ∀ {c : Value}, (∀ v0 : V, vs[i]? = some v0 → VR φ I w v0 c) → VR φ I w v c := by
  cases h with
  | nil => exact ⟨rfl, by simp⟩
  | cons v v' vs vs' h h' =>
    obtain ⟨h1, h2⟩ := ConvRs.VRs hR h'
    refine ⟨by simp [h1], fun i u hu c hc => ?_⟩
    cases i with
    | zero => simp at hu; subst hu; exact ConvR.VR hR h (hc v rfl)
    | succ i => simp at hu; exact h2 i u hu fun v0 hv0 => hc v0 (by simpa using hv0)
end

section
variable {P : Program} {f : FuncId} {N m : Nat} {T : Tm} {H : List Blk} {r : V} {B : List Blk} {k : List VI}

theorem gConv {todo : List VI} (t : Nat) {v v' : V} (ht : get T t = v) (hc : ConvR H v v') (h : Goes P f N m todo ((t, v') :: T) H r B) : Goes P f N m todo T H r B := by
  refine gGhost (fun φ I w a hR hT => ⟨φ, I, Turn.refl φ I w, hR, fun t' => ?_⟩) h
  simp only [get]
  cases hb : Nat.beq t' t with
  | true =>
    have := Nat.eq_of_beq_eq_true hb
    subst this
    have hv := hT t'
    rw [ht] at hv
    exact hc.VR hR hv
  | false => exact hT t'

theorem ConvR.one {H : List Blk} {v v' : V} (h : ConvR H v v') (hv : v.one = true) : v'.one = true := by
  cases h with
  | agg => cases hv
  | same => exact hv
  | _ => rfl

/-- A block is told anew; the memory stays. -/
theorem Rel.retell {φ : List Plc} {I : Nat → Prop} {w : World} (hR : Rel H φ I w) {b : Nat} {k0 : Blk} {l : Plc} (hb : φ[b]? = some l) (hbr : BR φ I w k0 l) : Rel (H.set b k0) φ I w := by
  have hbH : b < H.length := by rw [← hR.len]; exact (List.getElem?_eq_some_iff.1 hb).1
  refine hR.step b (by simp [hR.len]) (LE.refl φ) (fun _ h => h) (fun _ _ => rfl) (fun b' k' l' hk hl => ?_) (fun b' l' g h1 h2 => .inl ⟨l', h1, h2⟩) hR.imm
  by_cases he : b = b'
  · subst he
    simp [hbH] at hk
    rw [hb] at hl
    cases hl
    subst hk
    exact .inr hbr
  · rw [get_set_ne _ _ _ _ he] at hk
    exact .inl ⟨hk, hl, fun g _ => ⟨rfl, fun h => h⟩⟩

theorem gConvB {todo : List VI} (b : Nat) {cells cells' : List V} (hk : H[b]? = some (.box cells)) (hc : ConvRs H cells cells') (h : Goes P f N m todo T (H.set b (.box cells')) r B) : Goes P f N m todo T H r B := by
  refine gGhost (fun φ I w a hR hT => ?_) h
  have hblt : b < φ.length := by rw [hR.len]; exact (List.getElem?_eq_some_iff.1 hk).1
  have hbl := hR.blk b _ _ hk (List.getElem?_eq_getElem hblt)
  have hφ := List.getElem?_eq_getElem hblt
  generalize φ[b] = l at hbl hφ
  cases hbl with
  | box _ g arr e hg hn ho hcs hI =>
    have hs := hc.VRs hR
    refine ⟨φ, I, Turn.refl φ I w, hR.retell hφ ?_, hT⟩
    have hone : ∀ {cs cs' : List V}, ConvRs H cs cs' → (∀ (j : Nat) (v : V), cs[j]? = some v → v.one = true) → ∀ (j : Nat) (v : V), cs'[j]? = some v → v.one = true := by
      intro cs
      induction cs with
      | nil => intro cs' h _ j v hv; cases h; simp at hv
      | cons c cs ih =>
        intro cs' h ho j v hv
        cases h with
        | cons _ v' _ vs' h h' =>
          cases j with
          | zero => simp at hv; subst hv; exact h.one (ho 0 c rfl)
          | succ j => simp at hv; exact ih h' (fun j v hv => ho (j + 1) v (by simpa using hv)) j v hv
    have hA : ∀ (j : Nat) (v : V) (c : Value), cells'[j]? = some v → arr[j]? = some c → VR φ I w v c := fun j v c hv hcj => hs.2 j v hv fun v0 h0 => hcs j v0 c h0 hcj
    have := BR.box (φ := φ) (I := I) (w := w) cells' g arr e hg (by rw [hn, hs.1]) (hone hc ho) hA hI
    rw [hs.1] at this
    exact this

/-- A nil slice in a box becomes a slice over an empty block. -/
theorem gVirtB {esz : Nat} {todo : List VI} (b off : Nat) {cells : List V} (hk : H[b]? = some (.box cells)) (ho : cells[off]? = some .nilc) (h : Goes P f N m todo T (H.set b (.box (cells.set off (.ref H.length 0 0 0))) ++ [.sl esz [] false]) r B) : Goes P f N m todo T H r B := by
  refine gGhost (fun φ I w a hR hT => ?_) h
  obtain ⟨h1, h2⟩ := hR.virt (esz := esz)
  have hbH : b < H.length := (List.getElem?_eq_some_iff.1 hk).1
  have hblt : b < φ.length := by rw [hR.len]; exact hbH
  have hbl := hR.blk b _ _ hk (List.getElem?_eq_getElem hblt)
  have hφ := List.getElem?_eq_getElem hblt
  generalize φ[b] = l at hbl hφ
  cases hbl with
  | box _ g arr e hg hn hone hcs hI =>
    have hφ' : (φ ++ [Plc.virt])[b]? = some (.box g cells.length) := by rw [List.getElem?_append_left hblt]; exact hφ
    have hoff := (List.getElem?_eq_some_iff.1 ho).1
    refine ⟨φ ++ [.virt], I, h2, ?_, fun t => (hT t).turn h2⟩
    have hset : H.set b (.box (cells.set off (.ref H.length 0 0 0))) ++ [Blk.sl esz [] false] = (H ++ [Blk.sl esz [] false]).set b (.box (cells.set off (.ref H.length 0 0 0))) := by rw [List.set_append_left _ _ hbH]
    rw [hset]
    refine h1.retell hφ' ?_
    have := BR.box (φ := φ ++ [.virt]) (I := I) (w := w) (cells.set off (.ref H.length 0 0 0)) g arr e hg (by simpa using hn) (fun j v hv => by
      by_cases he : off = j
      · subst he; simp [hoff] at hv; subst hv; rfl
      · rw [get_set_ne _ _ _ _ he] at hv; exact hone j v hv) (fun j v c hv hc => by
      by_cases he : off = j
      · subst he
        simp [hoff] at hv
        subst hv
        have := hcs off .nilc c ho hc
        rw [this.nilc_inv]
        exact virt_VR φ I w hR.len
      · rw [get_set_ne _ _ _ _ he] at hv
        exact (hcs j v c hv hc).turn h2) hI
    simpa using this

/-- From now on nobody writes this block. -/
theorem gFreeze {todo : List VI} (b : Nat) {esz : Nat} {xs : List (List D)} (hk : H[b]? = some (.sl esz xs false)) (h : Goes P f N m todo T (H.set b (.sl esz xs true)) r B) : Goes P f N m todo T H r B := by
  refine gGhost (fun φ I w a hR hT => ?_) h
  have hbH : b < H.length := (List.getElem?_eq_some_iff.1 hk).1
  have hblt : b < φ.length := by rw [hR.len]; exact hbH
  have hbl := hR.blk b _ _ hk (List.getElem?_eq_getElem hblt)
  have hφ := List.getElem?_eq_getElem hblt
  generalize φ[b] = l at hbl hφ
  cases hbl with
  | virt => exact ⟨φ, I, Turn.refl φ I w, hR.retell hφ (.virt _ _), hT⟩
  | sl _ _ _ g δ arr e hg hn hlen hc hz hI =>
    have hgs : g < w.heap.size := (Array.getElem?_eq_some_iff.1 hg).1
    have ht : Turn φ I w φ (fun x => I x ∨ x = g) w := ⟨rfl, rfl, rfl, Nat.le_refl _, Nat.le_refl _, fun _ _ _ => rfl, fun _ _ => rfl, fun _ h => .inl h, LE.refl φ, fun b l g hb hg => .inr ⟨l, hb, hg⟩, fun x hx => by
      rcases hx with hx | rfl
      · exact .inl hx
      · exact .inr (.inr ⟨b, _, hφ, rfl⟩)⟩
    refine ⟨φ, fun x => I x ∨ x = g, ht, ?_, fun t => (hT t).turn ht⟩
    refine hR.step b (by simp [hR.len]) (LE.refl φ) (fun _ h => .inl h) (fun _ _ => rfl) (fun b' k' l' hk' hl' => ?_) (fun b' l' g h1 h2 => .inl ⟨l', h1, h2⟩) (fun x hx => ?_)
    · by_cases he : b = b'
      · subst he
        simp [hbH] at hk'
        rw [hφ] at hl'
        cases hl'
        subst hk'
        exact .inr (.sl esz xs true g δ arr e hg hn hlen (fun i j d c hd hcj => (hc i j d c hd hcj).mono (fun _ h => .inl h) (fun _ _ => rfl)) hz ⟨fun _ => .inr rfl, fun _ => rfl⟩)
      · rw [get_set_ne _ _ _ _ he] at hk'
        refine .inl ⟨hk', hl', fun g' hg' => ⟨rfl, fun hx => ?_⟩⟩
        rcases hx with hx | rfl
        · exact hx
        · exact absurd (hR.inj b b' _ l' g' hφ hl' rfl hg') he
    · rcases hx with hx | rfl
      · exact hR.imm x hx
      · exact hgs

/-- The view at the head of a loop, or where ways meet: the temporaries that are needed, the blocks that are needed. -/
theorem gHead {todo : List VI} (ks σ : List Nat) {T' : Tm} {H' : List Blk} (hT' : keepT ks T = T'.map fun p => (p.1, mapV (nth σ) p.2)) (hTc : T'.all (fun p => closedV σ.length p.2) = true)
    (hσm : σ.take m = List.range m) (hσ : σ.all (fun b => Nat.blt b H.length) = true) (hnd : σ.Nodup) (hB : σ.map (fun b => H[b]?) = H'.map (fun k => some (mapB (nth σ) k))) (hcl : H'.all (closedB σ.length) = true)
    (h : Goes P f N m todo T' H' r B) : Goes P f N m todo T H r B := fun φ I w a b cs hR hT hd hsz hk hf hkd => by
  have hσ' : ∀ b ∈ σ, b < H.length := fun b hb => Nat.le_of_ble_eq_true (List.all_eq_true.1 hσ b hb)
  have hσφ : ∀ b ∈ σ, b < φ.length := by rw [hR.len]; exact hσ'
  have hRB := hR.pick hσ' hnd hB (List.all_eq_true.1 hcl)
  have hTB : TR (pick σ φ) I w T' a := fun t => by
    have hget : ∀ (U : Tm), (∀ p ∈ U, closedV σ.length p.2 = true) → get (U.map fun p => (p.1, mapV (nth σ) p.2)) t = mapV (nth σ) (get U t) ∧ closedV σ.length (get U t) = true := by
      intro U
      induction U with
      | nil => intro _; exact ⟨rfl, rfl⟩
      | cons p U ih =>
        intro hU
        obtain ⟨h1, h2⟩ := ih fun q hq => hU q (by simp [hq])
        simp only [List.map_cons, get]
        cases Nat.beq t p.1 with
        | true => exact ⟨rfl, hU p (by simp)⟩
        | false => exact ⟨h1, h2⟩
    obtain ⟨h1, h2⟩ := hget T' (List.all_eq_true.1 hTc)
    refine mapV_back (n := σ.length) (fun b hb => (pick_get hb hσφ).symm) _ _ h2 ?_
    rw [← h1, ← hT']
    rcases get_keep ks T t with h | h
    · rw [h]; exact hT t
    · rw [h]; exact .undef _
  obtain ⟨φ', I', w', c', fr, hs, h1, h2, h3, h4⟩ := h (pick σ φ) I w a b cs hRB hTB hd hsz hk hf hkd
  refine ⟨φ', I', w', c', fr, hs, h1, h2, TurnM.trans ?_ h3, h4⟩
  refine ⟨rfl, rfl, rfl, Nat.le_refl _, Nat.le_refl _, fun _ _ _ => rfl, fun _ _ => rfl, fun _ h => h, fun b hb l hl => ?_, fun b l g hb hg => ?_, fun _ h => .inl h⟩
  · have hbt : σ[b]? = some b := by
      have : (σ.take m)[b]? = some b := by rw [hσm]; simp [hb]
      rw [List.getElem?_take_of_lt hb] at this
      exact this
    have hbl := (List.getElem?_eq_some_iff.1 hbt).1
    refine ⟨l, ?_, .refl l⟩
    rw [pick_get hbl hσφ]
    simp only [nth, List.getD_eq_getElem?_getD, hbt, Option.getD_some]
    exact hl
  · have hbl : b < σ.length := by have := (List.getElem?_eq_some_iff.1 hb).1; simpa [VM.pick] using this
    rw [pick_get hbl hσφ] at hb
    exact .inr ⟨_, l, hb, hg⟩

/-! ### a call -/
def putL {α : Type} (σ : List Nat) (xs base : List α) : List α := (σ.zip xs).foldl (fun l p => l.set p.1 p.2) base
def backN (σ : List Nat) (n i : Nat) : Nat := bif Nat.blt i σ.length then nth σ i else n + (i - σ.length)

theorem putL_length {α : Type} : ∀ (σ : List Nat) (xs base : List α), (putL σ xs base).length = base.length
  | [], xs, base => rfl
  | b :: σ, [], base => rfl
  | b :: σ, x :: xs, base => by
    show (putL σ xs (base.set b x)).length = base.length
    rw [putL_length σ xs]
    simp
theorem putL_out {α : Type} : ∀ (σ : List Nat) (xs base : List α) (b : Nat), b ∉ σ → (putL σ xs base)[b]? = base[b]?
  | [], xs, base, b, _ => rfl
  | c :: σ, [], base, b, _ => rfl
  | c :: σ, x :: xs, base, b, h => by
    show (putL σ xs (base.set c x))[b]? = base[b]?
    rw [putL_out σ xs _ b (fun hb => h (List.mem_cons_of_mem _ hb)), get_set_ne _ _ _ _ (fun e => h (by simp [e]))]
theorem putL_in {α : Type} : ∀ (σ : List Nat) (xs base : List α) (i : Nat), σ.Nodup → (∀ b ∈ σ, b < base.length) → i < σ.length → i < xs.length → (putL σ xs base)[nth σ i]? = xs[i]?
  | [], xs, base, i, _, _, hi, _ => by simp at hi
  | c :: σ, [], base, i, _, _, _, hx => by simp at hx
  | c :: σ, x :: xs, base, i, hnd, hlt, hi, hx => by
    show (putL σ xs (base.set c x))[nth (c :: σ) i]? = (x :: xs)[i]?
    have hnd' := List.nodup_cons.1 hnd
    cases i with
    | zero =>
      simp only [nth, List.getD_cons_zero]
      rw [putL_out σ xs _ c hnd'.1]
      have := hlt c (by simp)
      simp [this]
    | succ i =>
      simp only [nth, List.getD_cons_succ]
      exact putL_in σ xs _ i hnd'.2 (fun b hb => by rw [List.length_set]; exact hlt b (by simp [hb])) (by simpa using hi) (by simpa using hx)
end
end Go.VM
