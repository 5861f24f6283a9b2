/- Slices: literals, make, append, elements stored, cuts, copy. -/
import Derived.Test.YtdebnihlkdabpaaEngE
namespace Go.VM
set_option linter.unusedVariables false
set_option linter.unusedSimpArgs false

theorem get2_some {xs : List (List D)} {i j : Nat} {d : D} (h : get2 xs i j = some d) : ∃ e, xs[i]? = some e ∧ e[j]? = some d := by
  unfold get2 at h
  cases hx : xs[i]? with
  | none => simp [hx] at h
  | some e => exact ⟨e, rfl, by simpa [hx] using h⟩
theorem get2_mk {xs : List (List D)} {i j : Nat} {d : D} {e : List D} (h1 : xs[i]? = some e) (h2 : e[j]? = some d) : get2 xs i j = some d := by simp [get2, h1, h2]
theorem get2_lt {xs : List (List D)} {esz : Nat} (hlen : ∀ (i : Nat) (x : List D), xs[i]? = some x → x.length = esz) {i j : Nat} {d : D} (h : get2 xs i j = some d) : i < xs.length ∧ j < esz := by
  obtain ⟨e, h1, h2⟩ := get2_some h
  exact ⟨(List.getElem?_eq_some_iff.1 h1).1, by rw [← hlen i e h1]; exact (List.getElem?_eq_some_iff.1 h2).1⟩

/-- The cells of rows, one behind the other. -/
def flatD (xs : List (List D)) : List D := xs.flatten
theorem flat_length {α : Type} (esz : Nat) : ∀ (xs : List (List α)), (∀ x ∈ xs, x.length = esz) → xs.flatten.length = xs.length * esz
  | [], _ => by simp
  | x :: xs, h => by
    simp only [List.flatten_cons, List.length_append, List.length_cons]
    rw [flat_length esz xs (fun y hy => h y (by simp [hy])), h x (by simp), Nat.succ_mul, Nat.add_comm]
theorem flat_get {α : Type} (esz : Nat) : ∀ (xs : List (List α)), (∀ x ∈ xs, x.length = esz) → ∀ (i j : Nat) (e : List α), xs[i]? = some e → j < esz → xs.flatten[i * esz + j]? = e[j]?
  | [], _, i, j, e, he, _ => by simp at he
  | x :: xs, h, i, j, e, he, hj => by
    have hx := h x (by simp)
    cases i with
    | zero =>
      simp at he
      subst he
      simp only [List.flatten_cons, Nat.zero_mul, Nat.zero_add]
      rw [List.getElem?_append_left (by omega)]
    | succ i =>
      simp only [List.getElem?_cons_succ] at he
      simp only [List.flatten_cons]
      rw [List.getElem?_append_right (by rw [Nat.succ_mul]; omega), hx, show (i + 1) * esz + j - esz = i * esz + j by rw [Nat.succ_mul]; omega]
      exact flat_get esz xs (fun y hy => h y (by simp [hy])) i j e he hj
theorem row_of {esz : Nat} (n p : Nat) (h : p < n * esz) (hz : 0 < esz) : p / esz < n ∧ p % esz < esz ∧ p = p / esz * esz + p % esz :=
  ⟨(Nat.div_lt_iff_lt_mul hz).2 h, Nat.mod_lt _ hz, by have := Nat.div_add_mod p esz; rw [Nat.mul_comm] at this; omega⟩

section
variable {P : Program} {T : Tm} {H : List Blk} {dst : Option Tmp} {type : TypeId} {pos : String} {after : Array Edge} {guard : Option (Nat × Bool)}

/-- A new block of rows. -/
theorem Rel.newSl {φ : List Plc} {I : Nat → Prop} {w : World} (hR : Rel H φ I w) {xs : List (List D)} {esz : Nat} {arr : Array Value} (e : TypeId) (hz : 0 < esz) (hfit : xs.length * esz ≤ arr.size)
    (hlen : ∀ (i : Nat) (x : List D), xs[i]? = some x → x.length = esz) (hc : ∀ (i j : Nat) (d : D) (c : Value), get2 xs i j = some d → arr[i * esz + j]? = some c → DR I w d c) :
    Rel (H ++ [.sl esz xs false]) (φ ++ [.at w.heap.size 0 esz xs.length arr.size]) I (w.alloc (.cells arr e)) ∧ Turn φ I w (φ ++ [.at w.heap.size 0 esz xs.length arr.size]) I (w.alloc (.cells arr e)) ∧
      ∀ cap, xs.length ≤ cap → cap * esz ≤ arr.size → VR (φ ++ [.at w.heap.size 0 esz xs.length arr.size]) I (w.alloc (.cells arr e)) (.ref H.length xs.length 0 xs.length) (.slice (some ⟨w.heap.size, 0, none⟩) xs.length cap) := by
  have hnI : ¬ I w.heap.size := fun h => Nat.lt_irrefl _ (hR.imm _ h)
  have hp := hR.push (.cells arr e) (.sl esz xs false) (.at w.heap.size 0 esz xs.length arr.size) rfl
    (.sl esz xs false w.heap.size 0 arr e (heap_alloc_at w _) (by omega) hlen (fun i j d c hd hcj => by
      rw [Nat.zero_add] at hcj
      exact (hc i j d c hd hcj).mono (fun _ h => h) (hR.immLt _)) hz ⟨fun h => (by cases h), fun h => (hnI h).elim⟩)
  refine ⟨hp.1, hp.2, fun cap h1 h2 => ?_⟩
  have := VR.ref (φ := φ ++ [.at w.heap.size 0 esz xs.length arr.size]) (I := I) (w := w.alloc (.cells arr e)) H.length xs.length 0 xs.length w.heap.size 0 esz arr.size cap
    (by rw [← hR.len, List.getElem?_append_right (Nat.le_refl _)]; simp) (by omega) h1 (by omega) (by simpa using h2)
  simpa using this

theorem VR.d_inv {φ : List Plc} {I : Nat → Prop} {w : World} {x : D} {c : Value} (h : VR φ I w (.d x) c) : DR I w x c := by cases h with | d _ _ h => exact h

/-- A nil slice is data, too: the empty list. -/
def nl : V → V
  | .nilc => .d (.lit [])
  | v => v
theorem VR.nl {φ : List Plc} {I : Nat → Prop} {w : World} {v : V} {c : Value} (h : VR φ I w v c) : VR φ I w (VM.nl v) c := by
  unfold VM.nl
  split
  · rw [h.nilc_inv]; exact .d _ _ (.nil _ _)
  · exact h

theorem d_buildSlice {t e : TypeId} {len sz bytes : Nat} {parts : Array (Nat × Operand)} {z : Value} {flat : List V} {xs : List (List D)} (hu : P.underlying t = some (.slice e)) (hi : TyI P e z sz bytes) (hz : 0 < sz)
    (hbig : len * sz ≤ 16777216) (hv : vfill (fun i => some (i * sz, sz)) (List.replicate (len * sz) .undef) (parts.toList.map fun p => (p.1, ev T p.2)) = some flat) (hx : xs.flatten.map V.d = flat.map nl) (hl : xs.length = len)
    (hr : xs.all (fun r => r.length == sz) = true) : Does P ⟨dst, .buildSlice t len parts, type, pos, after, guard⟩ T H (.ref H.length len 0 len) (H ++ [.sl sz xs false]) [] := fun φ I w a hR hT => by
  subst hl
  have hrow : ∀ x ∈ xs, x.length = sz := fun x hx => by have := List.all_eq_true.1 hr x hx; simpa using this
  let arr0 : Array Value := (Array.range (xs.length * sz)).map ((if xs.length * sz = 0 then #[] else z.cells)[· % (if xs.length * sz = 0 then #[] else z.cells).size]!)
  have hA0 : AllR φ I w (List.replicate (xs.length * sz) .undef) arr0 := by
    refine ⟨by simp [arr0], fun i v c h1 h2 => ?_⟩
    rw [List.getElem?_replicate] at h1
    split at h1
    · cases h1; exact .undef _
    · cases h1
  obtain ⟨arr, h1, h2⟩ := fill_rel hT _ parts.toList _ flat arr0 hA0 hv
  have hfl : flat.length = xs.length * sz := by
    have := congrArg List.length hx
    rw [List.length_map, List.length_map, flat_length sz xs hrow] at this
    exact this.symm
  have hrun : (Instr.buildSlice t xs.length (parts.map fun p => (p.1, a.eval p.2))).run P w = .ok (.slice (some ⟨w.heap.size, 0, none⟩) xs.length xs.length) (w.alloc (.cells arr e)) := by
    have hn : ¬ (16777216 < xs.length * sz) := by omega
    have h1' : Instr.fill (fun i => some (i * sz, sz)) arr0 (parts.toList.map fun p => (p.1, a.eval p.2)) = some arr := h1
    by_cases h0 : xs.length * sz = 0
    · simp only [arr0, h0, if_true, Array.range_zero', Array.map_empty] at h1'
      simp [Instr.buildSlice, run_underlying hu, run_sizeOf hi, hn, h0, newRow, Array.range_zero', h1']
    · simp only [arr0, h0, if_false] at h1'
      simp [Instr.buildSlice, run_underlying hu, run_sizeOf hi, hn, h0, run_zeroValue hi, newRow, h1']
  obtain ⟨g1, g2, g3⟩ := hR.newSl (xs := xs) (esz := sz) (arr := arr) e hz (by rw [h2.1, hfl]; exact Nat.le_refl _) (fun i x hx => hrow x (List.mem_of_getElem? hx)) (fun i j d c hd hcj => by
    obtain ⟨er, he, hj⟩ := get2_some hd
    have hjs : j < sz := by rw [← hrow er (List.mem_of_getElem? he)]; exact (List.getElem?_eq_some_iff.1 hj).1
    have hf : (flat.map nl)[i * sz + j]? = some (.d d) := by rw [← hx, List.getElem?_map, flat_get sz xs hrow i j er he hjs, hj]; rfl
    rw [List.getElem?_map, Option.map_eq_some_iff] at hf
    obtain ⟨v, hv1, hv2⟩ := hf
    have := (h2.2 _ _ _ hv1 hcj).nl
    rw [hv2] at this
    exact this.d_inv)
  exact ⟨_, I, _, _, .inl (by simp only [execOp, Sem.run_bind, hrun, Result.andThen_ok, Sem.run_pure]), g2, g1, g3 xs.length (Nat.le_refl _) (by rw [h2.1, hfl]; exact Nat.le_refl _), hR.keepsAlloc _ _⟩

/-! ### make -/
def cvD : Value → Option D
  | .int k n => some (.int k n)
  | .bool b => some (.bool b)
  | .string s => some (.str s)
  | .slice none 0 0 => some (.lit [])
  | _ => none
theorem cvD_DR (I : Nat → Prop) (w : World) {c : Value} {d : D} (h : cvD c = some d) : DR I w d c := by
  unfold cvD at h
  split at h <;> simp at h <;> subst h
  · exact .int _ _
  · exact .bool _
  · exact .str _
  · exact .nil _ _

theorem made_get (zero : Array Value) (n i : Nat) (h : i < n) (hz : 0 < zero.size) : (madeCells zero n)[i]? = zero[i % zero.size]? := by
  have hlt : i % zero.size < zero.size := Nat.mod_lt _ hz
  simp [madeCells, h, hlt]

theorem d_make {t e : TypeId} {x y : Operand} {k1 k2 : IntKind} {n : Int} {m : Nat} {z : Value} {sz bytes : Nat} {zd : List D} (hx : ev T x = .d (.int k1 n)) (hy : ev T y = .d (.int k2 n)) (hu : P.underlying t = some (.slice e)) (hi : TyI P e z sz bytes) (hz : 0 < sz)
    (hzd : z.cells.toList.map cvD = zd.map some) (hl : zd.length = sz) (h0 : 0 ≤ n) (hm : n.toNat = m) (hb : m * bytes ≤ 281474976710656) (h63 : m ≤ 9223372036854775807) :
    Does P ⟨dst, .makeSlice t x y, type, pos, after, guard⟩ T H (.ref H.length m 0 m) (H ++ [.sl sz (List.replicate m zd) false]) [] := fun φ I w a hR hT => by
  subst hm
  have hc1 := (hx ▸ ev_VR hT x).int_inv
  have hc2 := (hy ▸ ev_VR hT y).int_inv
  obtain ⟨ti, t1, t2, t3, t4⟩ := hi.get
  have hzs : z.cells.size = sz := by have := congrArg List.length hzd; simp at this; omega
  have hrun := run_make (P := P) w t e ti z hu t1 t2 k1 k2 n n h0 (Int.le_refl _) (by rw [t4]; have h := Int.ofNat_le.2 hb; rw [Int.natCast_mul, Int.toNat_of_nonneg h0] at h; rw [Int.mul_comm]; exact h) (by omega)
  rw [t3] at hrun
  obtain ⟨g1, g2, g3⟩ := hR.newSl (xs := List.replicate n.toNat zd) (esz := sz) (arr := madeCells z.cells (n.toNat * sz)) e hz (by simp [size_madeCells]) (fun i x hx => by
      rw [List.getElem?_replicate] at hx
      split at hx
      · cases hx; exact hl
      · cases hx) (fun i j d c hd hcj => by
    obtain ⟨er, he, hj⟩ := get2_some hd
    rw [List.getElem?_replicate] at he
    split at he
    case isFalse => cases he
    case isTrue hin =>
      cases he
      have hjs : j < sz := by rw [← hl]; exact (List.getElem?_eq_some_iff.1 hj).1
      have hp : i * sz + j < n.toNat * sz := by
        have : i * sz + sz ≤ n.toNat * sz := by rw [← Nat.succ_mul]; exact Nat.mul_le_mul_right _ hin
        omega
      rw [made_get _ _ _ hp (by omega), hzs, show (i * sz + j) % sz = j by rw [Nat.mul_comm, Nat.mul_add_mod]; exact Nat.mod_eq_of_lt hjs] at hcj
      have hq : (z.cells.toList.map cvD)[j]? = some (some d) := by rw [hzd]; simp [hj]
      simp [hcj] at hq
      exact cvD_DR I w hq)
  refine ⟨_, I, _, _, .inl (by simp only [execOp, hc1, hc2, Sem.run_bind, hrun, Result.andThen_ok, Sem.run_pure]; rfl), g2, g1, ?_, hR.keepsAlloc _ _⟩
  have := g3 n.toNat (by simp) (by simp [size_madeCells])
  simpa using this

/-! ### what is appended, or copied: rows that are read -/
def Rows_ (I : Nat → Prop) (w : World) (sz : Nat) (ys : List (List D)) (c : Value) : Prop :=
  ∃ (a : Option Addr) (cap : Nat), c = .slice a ys.length cap ∧ (∀ (i : Nat) (e : List D), ys[i]? = some e → e.length = sz) ∧
    (ys ≠ [] → ∃ (g o : Nat) (cv : Nat → Nat → Value), a = some ⟨g, o, none⟩ ∧ (∀ (i j : Nat) (d : D), get2 ys i j = some d → w.cell? ⟨g, o + i * sz + j, none⟩ = some (cv i j)) ∧ (∀ (i j : Nat) (d : D), get2 ys i j = some d → DR I w d (cv i j)))

/-- The machine's value holds these rows. -/
inductive Holds (H : List Blk) (sz : Nat) : V → List (List D) → Prop
  | lit (ys : List (List D)) (h : ∀ (i : Nat) (e : List D), ys[i]? = some e → e.length = sz) : Holds H sz (.d (.lit ys)) ys
  | nil : Holds H sz .nilc []
  | ref (b L off len : Nat) (xs ys : List (List D)) (fro : Bool) (hk : H[b]? = some (.sl sz xs fro)) (hL : xs.length = L) (hle : off + len ≤ L) (hy : (xs.drop off).take len = ys) : Holds H sz (.ref b L off len) ys
  | virt (b esz : Nat) (fro : Bool) (hk : H[b]? = some (.sl esz [] fro)) : Holds H sz (.ref b 0 0 0) []

theorem get2_cut {xs : List (List D)} {off len i j : Nat} {d : D} (h : get2 ((xs.drop off).take len) i j = some d) : get2 xs (off + i) j = some d := by
  obtain ⟨e, h1, h2⟩ := get2_some h
  have hil : i < len := by have := (List.getElem?_eq_some_iff.1 h1).1; simp at this; omega
  rw [List.getElem?_take_of_lt hil, List.getElem?_drop] at h1
  exact get2_mk h1 h2

theorem Holds.rows {φ : List Plc} {I : Nat → Prop} {w : World} (hR : Rel H φ I w) {sz : Nat} {v : V} {ys : List (List D)} {c : Value} (h : Holds H sz v ys) (hv : VR φ I w v c) : Rows_ I w sz ys c := by
  cases h with
  | lit ys hlen =>
    rcases VR.lit_inv hv with ⟨rfl, a, cap, rfl⟩ | ⟨g, o, esz, cap, cv, rfl, hI, hl, hcell, hd⟩
    · exact ⟨a, cap, rfl, hlen, fun h => absurd rfl h⟩
    · refine ⟨_, cap, rfl, hlen, fun hne => ⟨g, o, cv, rfl, ?_, hd⟩⟩
      have hes : esz = sz := by
        cases ys with
        | nil => exact absurd rfl hne
        | cons y ys => rw [← hl 0 y rfl, hlen 0 y rfl]
      subst hes
      exact hcell
  | nil => rw [hv.nilc_inv]; exact ⟨none, 0, rfl, by simp, fun h => absurd rfl h⟩
  | virt b esz fro hk =>
    rcases VR.ref_inv hR hk rfl hv with ⟨_, _, _, _, _, rfl⟩ | ⟨_, _, a, _, _, _, rfl, _⟩ | ⟨g, δ, arr, ty, cap, rfl, _⟩
    · exact ⟨_, _, rfl, by simp, fun h => absurd rfl h⟩
    · exact ⟨_, _, rfl, by simp, fun h => absurd rfl h⟩
    · exact ⟨_, _, rfl, by simp, fun h => absurd rfl h⟩
  | ref b L off len xs ys fro hk hL hle hy =>
    have hyl : ys.length = len := by subst hy; simp; omega
    rcases VR.ref_inv hR hk hL hv with ⟨_, rfl, _, _, rfl, rfl⟩ | ⟨rfl, _, a, _, _, _, rfl, _⟩ | ⟨g, δ, arr, ty, cap, rfl, hb, hg, hn, hlen, hcs, hz, hI, g1, g2, g3, g4⟩
    · obtain rfl : ys = [] := List.eq_nil_of_length_eq_zero hyl
      exact ⟨_, _, rfl, by simp, fun h => absurd rfl h⟩
    · obtain rfl : ys = [] := List.eq_nil_of_length_eq_zero hyl
      exact ⟨_, _, rfl, by simp, fun h => absurd rfl h⟩
    · have hrow : ∀ (i : Nat) (e : List D), ys[i]? = some e → e.length = sz := fun i e he => by
        subst hy
        have hil : i < len := by have := (List.getElem?_eq_some_iff.1 he).1; omega
        rw [List.getElem?_take_of_lt hil, List.getElem?_drop] at he
        exact hlen _ _ he
      have hin : ∀ (i j : Nat) (d : D), get2 ys i j = some d → δ + (off + i) * sz + j < arr.size := fun i j d hd => by
        obtain ⟨h1, h2⟩ := get2_lt hrow hd
        have : (off + i) * sz + sz ≤ L * sz := by rw [← Nat.succ_mul]; exact Nat.mul_le_mul_right _ (by omega)
        omega
      refine ⟨_, cap, by rw [hyl], hrow, fun hne => ⟨g, δ + off * sz, fun i j => arr.getD (δ + (off + i) * sz + j) undef, rfl, fun i j d hd => ?_, fun i j d hd => ?_⟩⟩
      · have hlt := hin i j d hd
        rw [show δ + off * sz + i * sz + j = δ + (off + i) * sz + j by rw [Nat.add_mul]; omega, cell_of hg]
        simp [Array.getD, hlt]
      · have hlt := hin i j d hd
        refine hcs (off + i) j d _ (by subst hy; exact get2_cut hd) ?_
        simp [Array.getD, hlt]

theorem Rows_.flat {I : Nat → Prop} {w : World} {sz : Nat} {ys : List (List D)} {g o : Nat} {cv : Nat → Nat → Value} (hlen : ∀ (i : Nat) (e : List D), ys[i]? = some e → e.length = sz)
    (hcell : ∀ (i j : Nat) (d : D), get2 ys i j = some d → w.cell? ⟨g, o + i * sz + j, none⟩ = some (cv i j)) (hd : ∀ (i j : Nat) (d : D), get2 ys i j = some d → DR I w d (cv i j)) (hz : 0 < sz) :
    ∃ news : List Value, news.length = ys.length * sz ∧ (∀ (j : Nat) (v : Value), news[j]? = some v → w.cell? ((⟨g, o, none⟩ : Addr).add j) = some v) ∧ (∀ (i j : Nat) (d : D) (c : Value), get2 ys i j = some d → news[i * sz + j]? = some c → DR I w d c) ∧ ∀ v ∈ news, v.oneCell' = true := by
  have key : ∀ p, p < ys.length * sz → ∃ d, get2 ys (p / sz) (p % sz) = some d := fun p hp => by
    obtain ⟨h1, h2, _⟩ := row_of ys.length p hp hz
    have he := List.getElem?_eq_getElem h1
    have hl := hlen _ _ he
    exact ⟨_, get2_mk he (List.getElem?_eq_getElem (by omega))⟩
  refine ⟨(List.range (ys.length * sz)).map fun p => cv (p / sz) (p % sz), by simp, fun p v hv => ?_, fun i j d c hd' hc => ?_, fun v hv => ?_⟩
  · have hp : p < ys.length * sz := by have := (List.getElem?_eq_some_iff.1 hv).1; simpa using this
    simp [hp] at hv
    subst hv
    obtain ⟨d, hdd⟩ := key p hp
    rw [add_none]
    have := hcell _ _ d hdd
    rwa [show o + p / sz * sz + p % sz = o + p by have := (row_of ys.length p hp hz).2.2; omega] at this
  · obtain ⟨h1, h2⟩ := get2_lt hlen hd'
    have hp : i * sz + j < ys.length * sz := by
      have : i * sz + sz ≤ ys.length * sz := by rw [← Nat.succ_mul]; exact Nat.mul_le_mul_right _ h1
      omega
    simp [hp] at hc
    rw [show (i * sz + j) / sz = i by rw [Nat.mul_comm, Nat.mul_add_div hz, Nat.div_eq_of_lt h2]; omega] at hc
    have hm : j % sz = j := Nat.mod_eq_of_lt h2
    rw [hm] at hc
    subst hc
    exact hd i j d hd'
  · simp only [List.mem_map, List.mem_range] at hv
    obtain ⟨p, hp, rfl⟩ := hv
    obtain ⟨d, hdd⟩ := key p hp
    exact vone_oneCell (hd _ _ d hdd).one
end
end Go.VM
