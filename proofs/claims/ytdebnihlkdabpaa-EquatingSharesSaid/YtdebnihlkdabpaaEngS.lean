/- More single steps: append to a constant nil, slices.Clone, cuts. -/
import Derived.Test.YtdebnihlkdabpaaEngR
import Derived.Test.YtdebnihlkdabpaaEngQ
namespace Go.VM
set_option linter.unusedVariables false
set_option linter.unusedSimpArgs false
section
variable {P : Program} {T : Tm} {H : List Blk} {dst : Option Tmp} {type : TypeId} {pos : String} {after : Array Edge} {guard : Option (Nat × Bool)}

theorem Holds.more {sz : Nat} {v : V} {ys : List (List D)} (h : Holds H sz v ys) (k : Blk) : Holds (H ++ [k]) sz v ys := by
  have up : ∀ {b : Nat} {x : Blk}, H[b]? = some x → (H ++ [k])[b]? = some x := fun {b x} hb => by
    rw [List.getElem?_append_left (List.getElem?_eq_some_iff.1 hb).1]; exact hb
  cases h with
  | lit ys h => exact .lit ys h
  | nil => exact .nil
  | ref b L off len xs ys fro hk hL hle hy => exact .ref b L off len xs ys fro (up hk) hL hle hy
  | virt b esz fro hk => exact .virt b esz fro (up hk)

theorem d_appendNil {t t2 e e2 : TypeId} {x y : Operand} {sz bytes L' : Nat} {ys : List (List D)} {z : Value} (hu : P.underlying t = some (.slice e)) (hu2 : P.underlying t2 = some (.slice e2)) (hi : TyI P e z sz bytes) (hz : 0 < sz) (hzs : z.cells.size = sz)
    (hx : ev T x = .nilc) (hy : Holds H sz (ev T y) ys) (hL' : ys.length = L') (hfit : L' * bytes ≤ 140737488355328) (h63 : L' ≤ 9223372036854775807) :
    Does P ⟨dst, .call ⟨.builtin .append, #[x, y], #[t, t2]⟩, type, pos, after, guard⟩ T H (.ref H.length L' 0 L') (H ++ [.sl sz ys false]) [] := fun φ I w a hR hT => by
  obtain ⟨h1, h2⟩ := hR.virt (esz := sz)
  have hx0 := (hx ▸ ev_VR hT x).nilc_inv
  have hX : VR (φ ++ [.virt]) I w (.ref H.length 0 0 0) (a.eval x) := by rw [hx0]; exact virt_VR φ I w hR.len
  have hY : VR (φ ++ [.virt]) I w (ev T y) (a.eval y) := (ev_VR hT y).turn h2
  have hk : (H ++ [Blk.sl sz [] false])[H.length]? = some (.sl sz [] false) := by simp
  obtain ⟨φ', I', w', c, hrun, ht, hR', hv, hkp⟩ := d_append_at (dst := dst) (type := type) (pos := pos) (after := after) (guard := guard) (L := 0) (xs := []) (zs := ys) hu hu2 hi hz hzs hk rfl (.inl rfl) (hy.more _) rfl hL' hfit h63 _ I w a h1 hX hY
  refine ⟨φ', I', w', c, hrun, h2.trans ht, by simpa using hR', hv, fun b l _ hl => ?_⟩
  have hlt := (List.getElem?_eq_some_iff.1 hl).1
  have hne : b ∉ [H.length] := by simp only [List.mem_singleton]; rw [← hR.len]; omega
  exact hkp b l hne (by rw [List.getElem?_append_left hlt]; exact hl)

theorem k_appendNil {α : Type} {enc : α → List D} {t t2 e e2 : TypeId} {x y : Operand} {sz bytes : Nat} {z : Value} (ys : List α) {H' : List Blk} (hu : P.underlying t = some (.slice e)) (hu2 : P.underlying t2 = some (.slice e2)) (hi : TyI P e z sz bytes) (hok : (Nat.blt 0 sz && (Nat.blt 0 bytes && Nat.beq z.cells.size sz)) = true := by kernel_rfl)
    (hx : ev T x = .nilc := by kernel_rfl) (hy : Holds H sz (ev T y) (ys.map enc)) (hfit : ys.length * bytes ≤ 140737488355328) (hH : H ++ [.sl sz (ys.map enc) false] = H' := by kernel_rfl) :
    Does P ⟨dst, .call ⟨.builtin .append, #[x, y], #[t, t2]⟩, type, pos, after, guard⟩ T H (.ref H.length ys.length 0 ys.length) H' [] := by
  obtain ⟨h1, h2⟩ := Bool.and_eq_true_iff.1 hok
  obtain ⟨h3, h4⟩ := Bool.and_eq_true_iff.1 h2
  subst hH
  have h5 : 1 ≤ bytes := Nat.le_of_ble_eq_true h3
  have h6 : ys.length * 1 ≤ ys.length * bytes := Nat.mul_le_mul_left _ h5
  exact d_appendNil hu hu2 hi (Nat.le_of_ble_eq_true h1) (Nat.eq_of_beq_eq_true h4) hx hy (map_len enc ys) hfit (by omega)
end
/-! ### parts of a slice that nobody writes -/
theorem cut_lit {φ : List Plc} {I : Nat → Prop} {w : World} {xs : List (List D)} {a : Option Addr} {len cap l h sz : Nat} (hv : VR φ I w (.d (.lit xs)) (.slice a len cap)) (hr : ∀ (i : Nat) (e : List D), xs[i]? = some e → e.length = sz) (h1 : l ≤ h) (h2 : h ≤ len) :
    VR φ I w (.d (.lit ((xs.drop l).take (h - l)))) (sliced a l h cap sz) := by
  have hle := VR.lit_cap hv
  rcases VR.lit_inv hv with ⟨rfl, a0, c0, e⟩ | ⟨g, o, esz, cap', cv, e, hI, hlen, hcell, hd⟩
  · cases e
    have : h - l = 0 := by omega
    simp only [List.drop_nil, List.take_nil, sliced, this]
    exact .d _ _ (.nil _ _)
  · cases e
    by_cases hlt : l = h
    · subst hlt
      simp only [sliced, Nat.sub_self, List.take_zero]
      exact .d _ _ (.nil _ _)
    · have hll : l < xs.length := by omega
      have hes : esz = sz := by rw [← hlen l _ (List.getElem?_eq_getElem hll), hr l _ (List.getElem?_eq_getElem hll)]
      subst hes
      have hne : ¬ cap = l := by omega
      simp only [sliced, if_neg hne, Option.map_some]
      rw [add_none]
      have := DR.lit (I := I) (w := w) ((xs.drop l).take (h - l)) g (o + l * esz) esz (cap - l) (fun i j => cv (l + i) j) hI (fun i e he => by
          have hil : i < h - l := by have := (List.getElem?_eq_some_iff.1 he).1; simp at this; omega
          rw [List.getElem?_take_of_lt hil, List.getElem?_drop] at he
          exact hlen _ _ he) (fun i j d hd => by
          have := hcell (l + i) j d (get2_cut hd)
          rw [← this, Nat.add_mul, Nat.add_assoc o]) (fun i j d hdd => hd (l + i) j d (get2_cut hdd)) (by simp; omega)
      have hl' : ((xs.drop l).take (h - l)).length = h - l := by simp; omega
      rw [hl'] at this
      exact .d _ _ this
section
variable {P : Program} {T : Tm} {H : List Blk} {dst : Option Tmp} {type : TypeId} {pos : String} {after : Array Edge} {guard : Option (Nat × Bool)}
theorem elem_of {t e : TypeId} (hu : P.underlying t = some (.slice e)) : P.underlying t = some (.slice (P.elem t)) := by simp [Program.elem, hu]
theorem elem_eq {t e : TypeId} (hu : P.underlying t = some (.slice e)) : P.elem t = e := by simp [Program.elem, hu]
theorem k_cutLH {α : Type} {enc : α → List D} {t e : TypeId} {x y y2 : Operand} {k1 k2 : IntKind} {l h : Int} {z : Value} {sz bytes : Nat} (hr : ∀ a, (enc a).length = sz) (xs : List α) (hx : ev T x = .d (.lit (xs.map enc))) (hy : ev T y = .d (.int k1 l)) (hy2 : ev T y2 = .d (.int k2 h)) (hu : P.underlying t = some (.slice e)) (hi : TyI P e z sz bytes)
    (h0 : 0 ≤ l) (h1 : l ≤ h) (h2 : h ≤ xs.length) : PureV P ⟨dst, .slice t x (some y) (some y2) none, type, pos, after, guard⟩ T H (.d (.lit ((List.take (h.toNat - l.toNat) (List.drop l.toNat xs)).map enc))) := fun φ I w a hR hT => by
  have hv := hx ▸ ev_VR hT x
  have e1 := (hy ▸ ev_VR hT y).int_inv
  have e2 := (hy2 ▸ ev_VR hT y2).int_inv
  obtain ⟨ad, cap, e⟩ : ∃ ad cap, a.eval x = .slice ad xs.length cap := by
    rcases VR.lit_inv hv with ⟨e0, a0, c0, e⟩ | ⟨g, o, esz, cap', cv, e, _⟩
    · have : xs.length = 0 := by have := congrArg List.length e0; simpa using this
      exact ⟨a0, c0, by rw [e, this]⟩
    · exact ⟨some ⟨g, o, none⟩, cap', by rw [e]; simp⟩
  rw [e] at hv
  have hle := VR.lit_cap hv
  refine ⟨sliced ad l.toNat h.toNat cap sz, fun w' => ?_, ?_⟩
  · simp [execOp, e, e1, e2, run_sliceAt_slice w' t _ _ _ _ (elem_of hu), run_slice_lh w' t ad xs.length cap (elem_of hu) k1 k2 l h h0 h1 (by omega), elem_eq hu, run_sizeOf hi]
  · rw [List.map_take, List.map_drop]
    exact cut_lit hv (map_row hr xs) (by omega) (by omega)
theorem k_cutH {α : Type} {enc : α → List D} {t e : TypeId} {x y2 : Operand} {k2 : IntKind} {h : Int} {z : Value} {sz bytes : Nat} (hr : ∀ a, (enc a).length = sz) (xs : List α) (hx : ev T x = .d (.lit (xs.map enc)) := by kernel_rfl) (hy2 : ev T y2 = .d (.int k2 h) := by kernel_rfl) (hu : P.underlying t = some (.slice e)) (hi : TyI P e z sz bytes)
    (h1 : 0 ≤ h) (h2 : h ≤ xs.length) : PureV P ⟨dst, .slice t x none (some y2) none, type, pos, after, guard⟩ T H (.d (.lit ((List.take h.toNat xs).map enc))) := fun φ I w a hR hT => by
  have hv := hx ▸ ev_VR hT x
  have e2 := (hy2 ▸ ev_VR hT y2).int_inv
  obtain ⟨ad, cap, e⟩ : ∃ ad cap, a.eval x = .slice ad xs.length cap := by
    rcases VR.lit_inv hv with ⟨e0, a0, c0, e⟩ | ⟨g, o, esz, cap', cv, e, _⟩
    · have : xs.length = 0 := by have := congrArg List.length e0; simpa using this
      exact ⟨a0, c0, by rw [e, this]⟩
    · exact ⟨some ⟨g, o, none⟩, cap', by rw [e]; simp⟩
  rw [e] at hv
  have hle := VR.lit_cap hv
  refine ⟨sliced ad 0 h.toNat cap sz, fun w' => ?_, ?_⟩
  · simp [execOp, e, e2, run_sliceAt_slice w' t _ _ _ _ (elem_of hu), run_slice_h w' t ad xs.length cap (elem_of hu) k2 h h1 (by omega), elem_eq hu, run_sizeOf hi]
  · have := cut_lit hv (map_row hr xs) (Nat.zero_le h.toNat) (by omega)
    rw [List.map_take]
    simpa using this
theorem k_cutL {α : Type} {enc : α → List D} {t e : TypeId} {x y : Operand} {k1 : IntKind} {l : Int} {z : Value} {sz bytes : Nat} (hr : ∀ a, (enc a).length = sz) (xs : List α) (hx : ev T x = .d (.lit (xs.map enc))) (hy : ev T y = .d (.int k1 l)) (hu : P.underlying t = some (.slice e)) (hi : TyI P e z sz bytes)
    (h1 : 0 ≤ l) (h2 : l ≤ xs.length) : PureV P ⟨dst, .slice t x (some y) none none, type, pos, after, guard⟩ T H (.d (.lit ((List.drop l.toNat xs).map enc))) := fun φ I w a hR hT => by
  have hv := hx ▸ ev_VR hT x
  have e2 := (hy ▸ ev_VR hT y).int_inv
  obtain ⟨ad, cap, e⟩ : ∃ ad cap, a.eval x = .slice ad xs.length cap := by
    rcases VR.lit_inv hv with ⟨e0, a0, c0, e⟩ | ⟨g, o, esz, cap', cv, e, _⟩
    · have : xs.length = 0 := by have := congrArg List.length e0; simpa using this
      exact ⟨a0, c0, by rw [e, this]⟩
    · exact ⟨some ⟨g, o, none⟩, cap', by rw [e]; simp⟩
  rw [e] at hv
  have hle := VR.lit_cap hv
  refine ⟨sliced ad l.toNat xs.length cap sz, fun w' => ?_, ?_⟩
  · simp [execOp, e, e2, run_sliceAt_slice w' t _ _ _ _ (elem_of hu), run_slice_l w' t ad xs.length cap (elem_of hu) k1 l h1 (by omega), elem_eq hu, run_sizeOf hi]
  · have := cut_lit (h := xs.length) hv (map_row hr xs) (l := l.toNat) (by omega) (by omega)
    have e3 : List.take (xs.length - l.toNat) (List.drop l.toNat (xs.map enc)) = List.drop l.toNat (xs.map enc) := by
      apply List.take_of_length_le; simp
    rw [e3] at this
    rw [List.map_drop]
    exact this
end
end Go.VM
