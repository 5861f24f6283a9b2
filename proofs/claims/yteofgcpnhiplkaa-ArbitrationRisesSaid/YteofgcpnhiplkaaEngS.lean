/- More single steps: append to a constant nil, slices.Clone, cuts. -/
import Derived.Test.YteofgcpnhiplkaaEngR
import Derived.Test.YteofgcpnhiplkaaEngQ
namespace Go.VM
set_option linter.unusedVariables false
set_option linter.unusedSimpArgs false
section
variable {P : Program} {T : Tm} {H : List Blk} {dst : Option Tmp} {type : TypeId} {pos : String} {after : Array Edge} {guard : Option (Nat × Bool)}

theorem Holds.more {sz : Nat} {v : V} {ys : List (List D)} (h : Holds H sz v ys) (k : Blk) : Holds (H ++ [k]) sz v ys := by
  have up : ∀ {b : Nat} {x : Blk}, H[b]? = some x → (H ++ [k])[b]? = some x := fun {b x} hb => by
    rw [List.getElem?_append_left (List.getElem?_eq_some_iff.1 hb).1]; exact hb
  cases h with
  | lit ys h => exact .lit ys h
  | nil => exact .nil
  | ref b L off len xs ys fro hk hL hle hy => exact .ref b L off len xs ys fro (up hk) hL hle hy
  | virt b esz fro hk => exact .virt b esz fro (up hk)

theorem d_appendNil {t t2 e e2 : TypeId} {x y : Operand} {sz bytes L' : Nat} {ys : List (List D)} {z : Value} (hu : P.underlying t = some (.slice e)) (hu2 : P.underlying t2 = some (.slice e2)) (hi : TyI P e z sz bytes) (hz : 0 < sz) (hzs : z.cells.size = sz)
    (hx : ev T x = .nilc) (hy : Holds H sz (ev T y) ys) (hL' : ys.length = L') (hfit : L' * bytes ≤ 140737488355328) (h63 : L' ≤ 9223372036854775807) :
    Does P ⟨dst, .call ⟨.builtin .append, #[x, y], #[t, t2]⟩, type, pos, after, guard⟩ T H (.ref H.length L' 0 L') (H ++ [.sl sz ys false]) [] := fun φ I w a hR hT => by
  obtain ⟨h1, h2⟩ := hR.virt (esz := sz)
  have hx0 := (hx ▸ ev_VR hT x).nilc_inv
  have hX : VR (φ ++ [.virt]) I w (.ref H.length 0 0 0) (a.eval x) := by rw [hx0]; exact virt_VR φ I w hR.len
  have hY : VR (φ ++ [.virt]) I w (ev T y) (a.eval y) := (ev_VR hT y).turn h2
  have hk : (H ++ [Blk.sl sz [] false])[H.length]? = some (.sl sz [] false) := by simp
  obtain ⟨φ', I', w', c, hrun, ht, hR', hv, hkp⟩ := d_append_at (dst := dst) (type := type) (pos := pos) (after := after) (guard := guard) (L := 0) (xs := []) (zs := ys) hu hu2 hi hz hzs hk rfl (.inl rfl) (hy.more _) rfl hL' hfit h63 _ I w a h1 hX hY
  refine ⟨φ', I', w', c, hrun, h2.trans ht, by simpa using hR', hv, fun b l _ hl => ?_⟩
  have hlt := (List.getElem?_eq_some_iff.1 hl).1
  have hne : b ∉ [H.length] := by simp only [List.mem_singleton]; rw [← hR.len]; omega
  exact hkp b l hne (by rw [List.getElem?_append_left hlt]; exact hl)

theorem k_appendNil {α : Type} {enc : α → List D} {t t2 e e2 : TypeId} {x y : Operand} {sz bytes : Nat} {z : Value} (ys : List α) {H' : List Blk} (hu : P.underlying t = some (.slice e)) (hu2 : P.underlying t2 = some (.slice e2)) (hi : TyI P e z sz bytes) (hok : (Nat.blt 0 sz && (Nat.blt 0 bytes && Nat.beq z.cells.size sz)) = true)
    (hx : ev T x = .nilc) (hy : Holds H sz (ev T y) (ys.map enc)) (hfit : ys.length * bytes ≤ 140737488355328) (hH : H ++ [.sl sz (ys.map enc) false] = H') :
    Does P ⟨dst, .call ⟨.builtin .append, #[x, y], #[t, t2]⟩, type, pos, after, guard⟩ T H (.ref H.length ys.length 0 ys.length) H' [] := by
  obtain ⟨h1, h2⟩ := Bool.and_eq_true_iff.1 hok
  obtain ⟨h3, h4⟩ := Bool.and_eq_true_iff.1 h2
  subst hH
  have h5 : 1 ≤ bytes := Nat.le_of_ble_eq_true h3
  have h6 : ys.length * 1 ≤ ys.length * bytes := Nat.mul_le_mul_left _ h5
  exact d_appendNil hu hu2 hi (Nat.le_of_ble_eq_true h1) (Nat.eq_of_beq_eq_true h4) hx hy (map_len enc ys) hfit (by omega)
end
end Go.VM
