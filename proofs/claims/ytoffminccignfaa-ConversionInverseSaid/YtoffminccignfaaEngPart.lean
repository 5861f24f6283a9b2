/- Parts of a block that is written: their length, their elements, what clears them, and what they are when nobody writes any more. -/
import Derived.Test.YtoffminccignfaaEngOM
namespace Go.VM
set_option linter.unusedVariables false
set_option linter.unusedSimpArgs false
section
variable {P : Program} {T : Tm} {H : List Blk} {dst : Option Tmp} {type : TypeId} {pos : String} {after : Array Edge} {guard : Option (Nat × Bool)}

theorem k_lenPart {α : Type} {enc : α → List D} {t : TypeId} {x : Operand} {e : TypeId} (b off len : Nat) {sz : Nat} (xs : List α) {fro : Bool} (hx : ev T x = .ref b xs.length off len := by kernel_rfl) (hk : H[b]? = some (.sl sz (xs.map enc) fro) := by kernel_rfl) (hu : P.underlying t = some (.slice e)) :
    PureV P ⟨dst, .call ⟨.builtin .len, #[x], #[t]⟩, type, pos, after, guard⟩ T H (.d (.int .i64 len)) := p_lenRef hx hk (map_len enc xs) hu
theorem part_get {α : Type} {xs : List α} {off len i : Nat} {a : α} (h : (List.take len (List.drop off xs))[i]? = some a) : xs[off + i]? = some a := by
  have hil : i < len := by have := (List.getElem?_eq_some_iff.1 h).1; simp at this; omega
  rwa [List.getElem?_take_of_lt hil, List.getElem?_drop] at h
theorem k_idxPart {α : Type} {enc : α → List D} {t e : TypeId} {x y : Operand} {k : IntKind} {i : Int} {fro : Bool} {z : Value} {sz bytes : Nat} (b off len : Nat) (xs : List α) {a : α} (hx : ev T x = .ref b xs.length off len := by kernel_rfl) (hy : ev T y = .d (.int k i) := by kernel_rfl) (hk : H[b]? = some (.sl sz (xs.map enc) fro) := by kernel_rfl) (hu : P.underlying t = some (.slice e)) (hi : TyI P e z sz bytes)
    (h0 : 0 ≤ i) (he : (List.take len (List.drop off xs))[i.toNat]? = some a) : PureV P ⟨dst, .indexAddr t x y, type, pos, after, guard⟩ T H (.eptr b xs.length (off + i.toNat) 0) :=
  p_idxRef hx hy hk (map_len enc xs) hu hi h0 (by have := (List.getElem?_eq_some_iff.1 he).1; simp at this; omega) rfl
theorem k_litPart {α : Type} {enc : α → List D} {sz : Nat} (b off len : Nat) (xs : List α) (hk : H[b]? = some (.sl sz (xs.map enc) true) := by kernel_rfl) (hle : off + len ≤ xs.length) : ConvR H (.ref b xs.length off len) (.d (.lit ((List.take len (List.drop off xs)).map enc))) :=
  .lit b _ off len sz _ _ hk (map_len enc xs) hle (by rw [List.map_take, List.map_drop])

theorem run_clear_none {t e ty : TypeId} {w : World} (hu : P.underlying t = some (.slice e)) (base : Option Addr) (cap : Nat) : (Builtin.clear_ #[t] ty #[.slice base 0 cap]).run P w = .ok (.tuple #[]) w := by
  cases base <;> simp [Builtin.clear_, run_underlying hu]
theorem run_clear_in {t e ty : TypeId} {w : World} {z : Value} {sz bytes : Nat} (hu : P.underlying t = some (.slice e)) (hi : TyI P e z sz bytes) (hzs : z.cells.size = sz) (g o len cap : Nat) (hlen : 0 < len)
    {cur : Array Value} {ct : TypeId} (hg : w.heap[g]? = some (.cells cur ct (0, 0))) (h1 : ∀ v ∈ (Builtin.zeroCells z.cells len).toList, v.oneCell' = true) (hfit : o + len * sz ≤ cur.size) :
    (Builtin.clear_ #[t] ty #[.slice (some ⟨g, o, none⟩) len cap]).run P w =
      .ok (.tuple #[]) (w.setRow g (cur.toList.take o ++ (Builtin.zeroCells z.cells len).toList ++ cur.toList.drop (o + (Builtin.zeroCells z.cells len).toList.length)).toArray) := by
  obtain ⟨i, t1, t2, t3, t4⟩ := hi.get
  subst t3
  have hst := run_storeCells_at P g o ct (Builtin.zeroCells z.cells len).toList 0 cur w hg (by simp [Builtin.zeroCells, hzs]; omega) h1
  simp only [Nat.add_zero] at hst
  obtain ⟨len, rfl⟩ : ∃ l, len = l + 1 := ⟨len - 1, by omega⟩
  simp only [List.append_assoc, Array.length_toList] at hst
  simp [Builtin.clear_, run_underlying hu, zeroValue, typeInfo, t1, t2, hst]
theorem zero_get (zero : Array Value) (n i : Nat) (h : i < n * zero.size) (hz : 0 < zero.size) : (Builtin.zeroCells zero n)[i]? = zero[i % zero.size]? := by
  have hlt : i % zero.size < zero.size := Nat.mod_lt _ hz
  simp [Builtin.zeroCells, h, hlt]

theorem d_clear {t e : TypeId} {x : Operand} {b L off len sz bytes : Nat} {xs xs' : List (List D)} {z : Value} {zd : List D} (hu : P.underlying t = some (.slice e)) (hi : TyI P e z sz bytes) (hz : 0 < sz) (hzd : z.cells.toList.map cvD = zd.map some) (hzl : zd.length = sz)
    (hx : ev T x = .ref b L off len) (hk : H[b]? = some (.sl sz xs false)) (hL : xs.length = L) (hxs : xs.take off ++ List.replicate len zd ++ xs.drop (off + len) = xs') :
    Does P ⟨dst, .call ⟨.builtin .clear, #[x], #[t]⟩, type, pos, after, guard⟩ T H (.tuple []) (H.set b (.sl sz xs' false)) [b] := fun φ I w a hR hT => by
  have hX : VR φ I w (.ref b L off len) (a.eval x) := hx ▸ ev_VR hT x
  have hinv := VR.ref_inv hR hk hL hX
  have hexec : ∀ (c : Value) (w' : World), (Builtin.clear_ #[t] type #[a.eval x]).run P w = .ok c w' → (execOp a.eval ⟨dst, .call ⟨.builtin .clear, #[x], #[t]⟩, type, pos, after, guard⟩).run P w = .ok (.value c) w' := fun c w' h => by
    simp [execOp, resolve, invoke, builtin, h]
  rcases Nat.eq_zero_or_pos len with h0 | h0
  · subst h0
    have e1 : xs' = xs := by rw [← hxs]; simp
    have e2 : H.set b (.sl sz xs' false) = H := by rw [e1]; exact set_same hk
    obtain ⟨base, cap, hc⟩ : ∃ base cap, a.eval x = .slice base 0 cap := by
      rcases hinv with ⟨_, _, _, _, h2, hc⟩ | ⟨h1, _, a0, _, _, _, hc, _⟩ | ⟨g, δ, arr, ty, cap, hc, _⟩
      · exact ⟨none, 0, hc⟩
      · exact ⟨a0, 0, hc⟩
      · exact ⟨_, cap, hc⟩
    have hrun := run_clear_none (P := P) (ty := type) (w := w) hu base cap
    refine ⟨φ, I, w, _, .inl (hexec _ _ (by rw [hc]; exact hrun)), Turn.refl φ I w, by rw [e2]; exact hR, ?_, Keeps.refl φ [b] w⟩
    exact .tuple [] #[] rfl fun i v c h => by simp at h
  · rcases hinv with ⟨_, _, _, _, h2, _⟩ | ⟨h2, _⟩ | ⟨g, δ, arr, ty, cap, hc, hb, hg, hfA, hxlen, hxd, hz0, hI, g1, g2, g3, g4⟩
    · omega
    · omega
    · have hnI : ¬ I g := fun h => by have := hI.2 h; cases this
      have hzs : z.cells.size = sz := by have := congrArg List.length hzd; simp at this; omega
      have hmul : (off + len) * sz ≤ L * sz := Nat.mul_le_mul_right _ (by omega)
      have hmul' : (off + len) * sz = off * sz + len * sz := Nat.add_mul _ _ _
      have hnl : (Builtin.zeroCells z.cells len).toList.length = len * sz := by simp [Builtin.zeroCells, hzs]
      have hgetz : ∀ p, p < len * sz → ∃ (d : D) (c : Value), zd[p % sz]? = some d ∧ (Builtin.zeroCells z.cells len).toList[p]? = some c ∧ cvD c = some d := fun p hp => by
        have hlt : p % sz < sz := Nat.mod_lt _ hz
        have h1 : (Builtin.zeroCells z.cells len)[p]? = z.cells[p % sz]? := by rw [zero_get _ _ _ (by rw [hzs]; exact hp) (by omega), hzs]
        have h2 : z.cells[p % sz]? = some (z.cells[p % sz]'(by omega)) := Array.getElem?_eq_getElem (by omega)
        refine ⟨zd[p % sz]'(by omega), z.cells[p % sz]'(by omega), List.getElem?_eq_getElem (by omega), by rw [Array.getElem?_toList, h1, h2], ?_⟩
        have hq : (z.cells.toList.map cvD)[p % sz]? = (zd.map some)[p % sz]? := by rw [hzd]
        rw [List.getElem?_map, List.getElem?_map, Array.getElem?_toList, h2, List.getElem?_eq_getElem (by omega)] at hq
        simpa using hq
      have hn1 : ∀ v ∈ (Builtin.zeroCells z.cells len).toList, v.oneCell' = true := fun v hv => by
        obtain ⟨p, hp⟩ := List.getElem?_of_mem hv
        have hlt := (List.getElem?_eq_some_iff.1 hp).1
        obtain ⟨d, c, _, h2, h3⟩ := hgetz p (by omega)
        rw [hp] at h2
        cases h2
        exact vone_oneCell (cvD_DR I w h3).one
      have hrun := run_clear_in (P := P) (ty := type) (w := w) hu hi hzs g (δ + off * sz) len cap h0 hg hn1 (by omega)
      have hfitA : δ + off * sz + (Builtin.zeroCells z.cells len).toList.length ≤ arr.toList.length := by rw [hnl, Array.length_toList]; omega
      obtain ⟨news, hnews⟩ : ∃ news, news = (Builtin.zeroCells z.cells len).toList := ⟨_, rfl⟩
      rw [← hnews] at hrun hfitA hnl
      obtain ⟨arr', harr'⟩ : ∃ arr', arr' = (arr.toList.take (δ + off * sz) ++ news ++ arr.toList.drop (δ + off * sz + news.length)).toArray := ⟨_, rfl⟩
      rw [← harr'] at hrun
      have hsz : arr'.size = arr.size := by
        have h0 := Array.length_toList (xs := arr)
        subst harr'
        simp only [List.size_toArray, List.length_append, List.length_take, List.length_drop]
        omega
      have hlx : xs'.length = L := by
        rw [← hxs]; simp; omega
      have hxs2 : xs.take off ++ List.replicate len zd ++ xs.drop (off + (List.replicate len zd).length) = xs' := by rw [List.length_replicate]; exact hxs
      have hget : ∀ i, xs'[i]? = if off ≤ i ∧ i < off + len then some zd else xs[i]? := fun i => by
        rw [← hxs2, splice_get _ _ _ (by simp; omega), List.length_replicate]
        by_cases h : off ≤ i ∧ i < off + len
        · rw [if_pos h, if_pos h, List.getElem?_replicate, if_pos (by omega)]
        · rw [if_neg h, if_neg h]
      have hw := hR.write (b := b) (l := .at g δ sz L arr.size []) (l' := .at g δ sz L arr.size []) (g := g) hb rfl hnI (.refl _) (fun _ h => h) arr' (.sl sz xs' false)
      have hsame : ∀ g', I g' → (w.setRow g arr').heap[g']? = w.heap[g']? := fun g' hg' => setRow_other w g g' _ fun e => hnI (e ▸ hg')
      have hrow' : ∀ (j : Nat) (x : List D), xs'[j]? = some x → x.length = sz := fun j x hj => by
        rw [hget] at hj
        split at hj
        · cases hj; exact hzl
        · exact hxlen _ _ hj
      have hbr := BR.sl (φ := φ.set b (.at g δ sz L arr.size [])) (I := I) sz xs' false g δ _ ty (setRow_heap w g arr arr' ty (0, 0) hg) (by rw [hsz, hlx]; exact hfA) hrow' (fun i j d c hd hcj => by
        refine DR.mono (fun _ h => h) hsame (I := I) (w := w) ?_
        subst harr'
        simp only [List.getElem?_toArray] at hcj
        rw [splice_get _ _ _ hfitA, hnl] at hcj
        obtain ⟨x', hx', hj'⟩ := get2_some hd
        have hjlt : j < sz := by rw [← hrow' i x' hx']; exact (List.getElem?_eq_some_iff.1 hj').1
        rw [hget] at hx'
        by_cases hin : off ≤ i ∧ i < off + len
        · rw [if_pos hin] at hx'
          cases hx'
          have h4 : i * sz = off * sz + (i - off) * sz := by
            have : i = off + (i - off) := by omega
            rw [show i * sz = (off + (i - off)) * sz by rw [← this], Nat.add_mul]
          have h5 : (i - off) * sz + sz ≤ len * sz := by rw [← Nat.succ_mul]; exact Nat.mul_le_mul_right _ (by omega)
          rw [if_pos (by omega)] at hcj
          rw [show δ + i * sz + j - (δ + off * sz) = (i - off) * sz + j by omega] at hcj
          obtain ⟨d2, c2, k1, k2, k3⟩ := hgetz ((i - off) * sz + j) (by omega)
          rw [hnews, k2] at hcj
          cases hcj
          rw [show ((i - off) * sz + j) % sz = j by rw [Nat.mul_comm, Nat.mul_add_mod]; exact Nat.mod_eq_of_lt hjlt, hj'] at k1
          cases k1
          exact cvD_DR I w k3
        · rw [if_neg hin] at hx'
          have hnot : ¬ (δ + off * sz ≤ δ + i * sz + j ∧ δ + i * sz + j < δ + off * sz + len * sz) := by
            rcases Nat.lt_or_ge i off with h | h
            · have h1 : i * sz + sz ≤ off * sz := by rw [← Nat.succ_mul]; exact Nat.mul_le_mul_right _ h
              omega
            · have h1 : (off + len) * sz ≤ i * sz := Nat.mul_le_mul_right _ (by omega)
              omega
          rw [if_neg hnot] at hcj
          exact hxd i j d c (get2_mk hx' hj') (by simpa using hcj)) hz0 ⟨fun h => (by cases h), fun h => (hnI h).elim⟩
      rw [hlx, hsz] at hbr
      obtain ⟨h1, h2, hkp⟩ := hw hbr
      exact ⟨_, I, _, _, .inl (hexec _ _ (by rw [hc]; exact hrun)), h2, h1, .tuple [] #[] rfl fun i v c h => by simp at h, hkp⟩
end
def gclear {α : Type} (xs : List α) (z : α) (off len : Nat) : List α := List.take xs.length (List.take off xs ++ List.replicate len z ++ List.drop (off + len) xs)
theorem gclear_len {α : Type} {xs : List α} {z : α} {off len : Nat} : (gclear xs z off len).length = xs.length := by
  unfold gclear
  simp only [List.length_take, List.length_append, List.length_drop, List.length_replicate]
  omega
theorem clear_len {α : Type} {xs xs' : List α} {z : α} {off len : Nat} (h : gclear xs z off len = xs') : xs.length = xs'.length := by rw [← h, gclear_len]
section
variable {P : Program} {T : Tm} {H : List Blk} {dst : Option Tmp} {type : TypeId} {pos : String} {after : Array Edge} {guard : Option (Nat × Bool)}
theorem k_clear {α : Type} {enc : α → List D} {t e : TypeId} {x : Operand} {sz bytes : Nat} {z : Value} (b off len : Nat) (xs : List α) (e0 : α) (zd : List D) {xs' : List α} {H' : List Blk} (hu : P.underlying t = some (.slice e)) (hi : TyI P e z sz bytes) (hok : (Nat.blt 0 sz && Nat.beq zd.length sz) = true := by kernel_rfl) (hzd : z.cells.toList.map cvD = zd.map some := by kernel_rfl) (he : enc e0 = zd := by kernel_rfl)
    (hx : ev T x = .ref b xs.length off len := by kernel_rfl) (hk : H[b]? = some (.sl sz (xs.map enc) false) := by kernel_rfl) (hxs : gclear xs e0 off len = xs') (hH : H.set b (.sl sz (xs'.map enc) false) = H' := by kernel_rfl) :
    Does P ⟨dst, .call ⟨.builtin .clear, #[x], #[t]⟩, type, pos, after, guard⟩ T H (.tuple []) H' [b] := fun φ I w a hR hT => by
  subst hH
  obtain ⟨h1, h2⟩ := Bool.and_eq_true_iff.1 hok
  have hX : VR φ I w (.ref b xs.length off len) (a.eval x) := hx ▸ ev_VR hT x
  have hle : off + len ≤ xs.length := by
    rcases VR.ref_inv hR hk (map_len enc xs) hX with ⟨_, _, h1, h2, h3, _⟩ | ⟨h1, h2, _⟩ | ⟨g, δ, arr, ty, cap, hc, hb, hg, hfA, hxlen, hxd, hz0, hI, g1, g2, g3, g4⟩ <;> omega
  refine d_clear hu hi (Nat.le_of_ble_eq_true h1) hzd (Nat.eq_of_beq_eq_true h2) hx hk (map_len enc xs) ?_ φ I w a hR hT
  have hg : gclear xs e0 off len = List.take off xs ++ List.replicate len e0 ++ List.drop (off + len) xs := by
    unfold gclear
    apply List.take_of_length_le
    simp only [List.length_take, List.length_append, List.length_drop, List.length_replicate]
    omega
  rw [← hxs, hg, ← he]
  simp only [List.map_append, List.map_take, List.map_drop, List.map_replicate]
end
end Go.VM
