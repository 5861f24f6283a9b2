/- Equality of structs; a write into a slice of one's own. -/
import Derived.Test.YtdebnihlkdabpaaEngO
import Derived.Laws.StructEq
import Derived.Laws.Cover3
namespace Go.VM
set_option linter.unusedVariables false
set_option linter.unusedSimpArgs false

mutual
inductive EqV (P : Program) : Nat → TypeId → V → V → Bool → Prop
  | int (t : TypeId) (k k' : IntKind) (a b : Int) (hu : P.underlying t = some (.int k')) : EqV P 1 t (.d (.int k a)) (.d (.int k b)) (a == b)
  | bool (t : TypeId) (a b : Bool) (hu : P.underlying t = some .bool) : EqV P 1 t (.d (.bool a)) (.d (.bool b)) (a == b)
  | struct (n : Nat) (t : TypeId) (xs ys : List V) (fs : Array Field) (r : Bool) (hu : P.underlying t = some (.struct fs)) (hp : P.stoodInHeld t = false) (h : EqF P n xs ys fs.toList r) : EqV P (n + 1) t (.agg xs) (.agg ys) r
inductive EqF (P : Program) : Nat → List V → List V → List Field → Bool → Prop
  | nil (n : Nat) (xs ys : List V) : EqF P n xs ys [] true
  | one (n m : Nat) (xs ys : List V) (f : Field) (fs : List Field) (d : TypeDesc) (a b : V) (r1 r2 : Bool) (hn : (f.name == "_") = false) (hu : P.underlying f.type = some d) (hd : aggD d = false) (ha : xs[f.offset]? = some a) (hb : ys[f.offset]? = some b) (hm : Nat.ble m n = true)
      (h1 : EqV P m f.type a b r1) (h2 : EqF P n xs ys fs r2) : EqF P n xs ys (f :: fs) (r1 && r2)
  | agg (n m : Nat) (xs ys : List V) (f : Field) (fs : List Field) (d : TypeDesc) (as bs : List V) (r1 r2 : Bool) (z : Value) (sz bytes : Nat) (hn : (f.name == "_") = false) (hu : P.underlying f.type = some d) (hd : aggD d = true) (hi : TyI P f.type z sz bytes)
      (hl : (Nat.ble (f.offset + sz) xs.length && Nat.ble (f.offset + sz) ys.length) = true) (ha : (xs.drop f.offset).take sz = as) (hb : (ys.drop f.offset).take sz = bs) (hm : Nat.ble m n = true)
      (h1 : EqV P m f.type (.agg as) (.agg bs) r1) (h2 : EqF P n xs ys fs r2) : EqF P n xs ys (f :: fs) (r1 && r2)
end

theorem fieldsOf_eq {P : Program} {t : TypeId} {fs : Array Field} (hu : P.underlying t = some (.struct fs)) : P.fieldsOf t = fs := by simp [Program.fieldsOf, hu]

mutual
theorem EqV.run {P : Program} {n : Nat} {t : TypeId} {x y : V} {r : Bool} : ∀ (h : EqV P n t x y r) {φ : List Plc} {I : Nat → Prop} {w : World} {c c' : Value}, VR φ I w x c → VR φ I w y c' → ∀ (d : Nat), n ≤ d → ∀ w' : World, (Op.equalIn d t c c').run P w' = .ok r w'
  | .int t k k' a b hu, φ, I, w, c, c', hx, hy, d, hd, w' => by
    rw [hx.int_inv, hy.int_inv]
    obtain ⟨d, rfl⟩ : ∃ d', d = d' + 1 := ⟨d - 1, by omega⟩
    exact run_equalIn_int w' d t k k' a b hu
  | .bool t a b hu, φ, I, w, c, c', hx, hy, d, hd, w' => by
    rw [hx.bool_inv, hy.bool_inv]
    obtain ⟨d, rfl⟩ : ∃ d', d = d' + 1 := ⟨d - 1, by omega⟩
    exact run_equalIn_bool w' d t a b hu
  | .struct n t xs ys fs r hu hp h, φ, I, w, c, c', hx, hy, d, hd, w' => by
    obtain ⟨cx, rfl, hA⟩ := VR.agg_inv hx
    obtain ⟨cy, rfl, hB⟩ := VR.agg_inv hy
    obtain ⟨d, rfl⟩ : ∃ d', d = d' + 1 := ⟨d - 1, by omega⟩
    rw [run_equalIn_struct w' d t cx cy (by rw [fieldsOf_eq hu]; exact hu) hp, fieldsOf_eq hu]
    exact EqF.run h hA hB d (by omega) w'
theorem EqF.run {P : Program} {n : Nat} {xs ys : List V} {fs : List Field} {r : Bool} : ∀ (h : EqF P n xs ys fs r) {φ : List Plc} {I : Nat → Prop} {w : World} {cx cy : Array Value}, AllR φ I w xs cx → AllR φ I w ys cy → ∀ (d : Nat), n ≤ d → ∀ w' : World, (Op.eqFields d cx cy fs).run P w' = .ok r w'
  | .nil _ _ _, φ, I, w, cx, cy, hA, hB, d, hd, w' => by simp [Op.eqFields]
  | .one n m xs ys f fs de a b r1 r2 hn hu hde ha hb hm h1 h2, φ, I, w, cx, cy, hA, hB, d, hd, w' => by
    have hlt1 : f.offset < cx.size := by rw [hA.1]; exact (List.getElem?_eq_some_iff.1 ha).1
    have hlt2 : f.offset < cy.size := by rw [hB.1]; exact (List.getElem?_eq_some_iff.1 hb).1
    have e1 := Array.getElem?_eq_getElem hlt1
    have e2 := Array.getElem?_eq_getElem hlt2
    have hr := EqV.run h1 (hA.2 _ _ _ ha e1) (hB.2 _ _ _ hb e2) d (Nat.le_trans (Nat.le_of_ble_eq_true hm) hd) w'
    have hr2 := EqF.run h2 hA hB d hd w'
    have hn' : f.name ≠ "_" := by simpa using hn
    simp only [Op.eqFields, hn', ne_eq, not_false_eq_true, if_true, Sem.run_bind, run_part_one hu hde e1, run_part_one hu hde e2, Result.andThen_ok, hr]
    cases r1
    · simp
    · simpa using hr2
  | .agg n m xs ys f fs de as bs r1 r2 z sz bytes hn hu hde hi hl ha hb hm h1 h2, φ, I, w, cx, cy, hA, hB, d, hd, w' => by
    obtain ⟨hl1, hl2⟩ := Bool.and_eq_true_iff.1 hl
    have e1 := hA.extract (Nat.le_of_ble_eq_true hl1)
    have e2 := hB.extract (Nat.le_of_ble_eq_true hl2)
    rw [ha] at e1
    rw [hb] at e2
    have hr := EqV.run h1 e1 e2 d (Nat.le_trans (Nat.le_of_ble_eq_true hm) hd) w'
    have hr2 := EqF.run h2 hA hB d hd w'
    have hn' : f.name ≠ "_" := by simpa using hn
    simp only [Op.eqFields, hn', ne_eq, not_false_eq_true, if_true, Sem.run_bind, run_part_agg hu hde hi, Result.andThen_ok, hr]
    cases r1
    · simp
    · simpa using hr2
end

variable {P : Program} {T : Tm} {H : List Blk} {dst : Option Tmp} {type : TypeId} {pos : String} {after : Array Edge} {guard : Option (Nat × Bool)}

theorem k_eqAgg {t t2 : TypeId} {x y : Operand} {xs ys : List V} {n : Nat} {r : Bool} (hx : ev T x = .agg xs := by kernel_rfl) (hy : ev T y = .agg ys := by kernel_rfl) (hg : P.eqGuardType P.depth t = false) (h : EqV P n t (.agg xs) (.agg ys) r) (hn : Nat.ble n 10000 = true := by kernel_rfl) : PureV P ⟨dst, .binOp .eql t x y t2, type, pos, after, guard⟩ T H (.d (.bool r)) := fun φ I w a hR hT => by
  have h1 := hx ▸ ev_VR hT x
  have h2 := hy ▸ ev_VR hT y
  obtain ⟨cx, e1, hA⟩ := VR.agg_inv h1
  obtain ⟨cy, e2, hB⟩ := VR.agg_inv h2
  have hr := fun w' => EqV.run h h1 h2 10000 (Nat.le_of_ble_eq_true hn) w'
  rw [e1, e2] at hr
  exact ⟨_, fun w' => by simp only [execOp, e1, e2, Sem.run_bind, run_eqGuard_agg w' .eql t x y cx cy hg, Result.andThen_ok, run_eql_struct w' t cx cy, hr w', Sem.run_pure], .d _ _ (.bool _)⟩
theorem k_neAgg {t t2 : TypeId} {x y : Operand} {xs ys : List V} {n : Nat} {r : Bool} (hx : ev T x = .agg xs := by kernel_rfl) (hy : ev T y = .agg ys := by kernel_rfl) (hg : P.eqGuardType P.depth t = false) (h : EqV P n t (.agg xs) (.agg ys) r) (hn : Nat.ble n 10000 = true := by kernel_rfl) : PureV P ⟨dst, .binOp .neq t x y t2, type, pos, after, guard⟩ T H (.d (.bool (!r))) := fun φ I w a hR hT => by
  have h1 := hx ▸ ev_VR hT x
  have h2 := hy ▸ ev_VR hT y
  obtain ⟨cx, e1, hA⟩ := VR.agg_inv h1
  obtain ⟨cy, e2, hB⟩ := VR.agg_inv h2
  have hr := fun w' => EqV.run h h1 h2 10000 (Nat.le_of_ble_eq_true hn) w'
  rw [e1, e2] at hr
  exact ⟨_, fun w' => by simp only [execOp, e1, e2, Sem.run_bind, run_eqGuard_agg w' .neq t x y cx cy hg, Result.andThen_ok, run_neq_struct w' t cx cy, hr w', Sem.run_pure], .d _ _ (.bool _)⟩

/-- A write into an element of a slice of one's own. -/
theorem d_storeE {t : TypeId} {x y : Operand} {b L i off esz sz bytes : Nat} {xs xs' : List (List D)} {e e' ds : List D} {z : Value} (hx : ev T x = .eptr b L i off) (hk : H[b]? = some (.sl esz xs false)) (hL : xs.length = L) (he : xs[i]? = some e) (hi : TyI P t z sz bytes)
    (hv : (ev T y).cells?.map (List.map nl) = some (ds.map V.d)) (hs : ds.length = sz) (hel : e.length = esz) (hfit : off + sz ≤ esz) (hn : e.take off ++ ds ++ e.drop (off + ds.length) = e') (hxs : xs.set i e' = xs') : Does P ⟨dst, .store t x y, type, pos, after, guard⟩ T H .undef (H.set b (.sl esz xs' false)) [b] := fun φ I w a hR hT => by
  have hiL : i < L := by rw [← hL]; exact (List.getElem?_eq_some_iff.1 he).1
  obtain ⟨g, δ, arr, et, hcx, hb, hg, hfitA, hrow, hcs, hz, hI⟩ := VR.eptr_sl hR hk hL (by omega) (hx ▸ ev_VR hT x)
  have hI' : ¬ I g := fun h => by have := hI.2 h; cases this
  obtain ⟨vs0, hvs0, hds0⟩ := Option.map_eq_some_iff.1 hv
  obtain ⟨hsz, hall0⟩ := (ev_VR hT y).cells hvs0
  have hall : ∀ (i : Nat) (v : V) (c' : Value), (ds.map V.d)[i]? = some v → (a.eval y).cells[i]? = some c' → VR φ I w v c' := fun i v c' h1 h2 => by
    rw [← hds0, List.getElem?_map, Option.map_eq_some_iff] at h1
    obtain ⟨v0, h3, rfl⟩ := h1
    exact (hall0 i v0 c' h3 h2).nl
  have hsz' := congrArg List.length hds0
  rw [List.length_map, List.length_map] at hsz'
  rw [hsz'] at hsz
  have hlen : (a.eval y).cells.toList.length = ds.length := by rw [Array.length_toList]; exact hsz
  have hmul : (i + 1) * esz ≤ L * esz := Nat.mul_le_mul_right _ hiL
  have hmul' : (i + 1) * esz = i * esz + esz := Nat.succ_mul i esz
  have hrun := run_storeAt (P := P) (w := w) (off := δ + i * esz + off) (v := a.eval y) hi (by rw [hsz, hs]) hg (by omega) (fun c hc => by
    obtain ⟨j, hj⟩ := List.getElem?_of_mem hc
    have hlt := (List.getElem?_eq_some_iff.1 hj).1
    rw [hlen] at hlt
    have hvj : (ds.map V.d)[j]? = some (V.d ds[j]) := by simp [hlt]
    exact vone_oneCell ((hall j _ c hvj (by simpa using hj)).one rfl))
  have hal := Array.length_toList (xs := arr)
  have hfit2 : δ + i * esz + off + (a.eval y).cells.toList.length ≤ arr.toList.length := by rw [hlen]; omega
  have hlx : xs'.length = L := by rw [← hxs]; simpa using hL
  have hel' : e'.length = esz := by rw [← hn]; simp; omega
  have hsame : ∀ g', I g' → (w.setRow g (arr.toList.take (δ + i * esz + off) ++ (a.eval y).cells.toList ++ arr.toList.drop (δ + i * esz + off + (a.eval y).cells.toList.length)).toArray).heap[g']? = w.heap[g']? := fun g' hg' => setRow_other w g g' _ fun e => hI' (e ▸ hg')
  have hle : LE φ (φ.set b (.at g δ esz L arr.size)) := by rw [set_same hb]; exact LE.refl φ
  have hsize : (arr.toList.take (δ + i * esz + off) ++ (a.eval y).cells.toList ++ arr.toList.drop (δ + i * esz + off + (a.eval y).cells.toList.length)).toArray.size = arr.size := by
    simp only [List.size_toArray, List.length_append, List.length_take, List.length_drop]; omega
  have hw := hR.write (b := b) (l := .at g δ esz L arr.size) (l' := .at g δ esz L arr.size) (g := g) hb rfl hI' (.refl _) rfl
    (arr.toList.take (δ + i * esz + off) ++ (a.eval y).cells.toList ++ arr.toList.drop (δ + i * esz + off + (a.eval y).cells.toList.length)).toArray (.sl esz xs' false)
  have hrow' : ∀ (j : Nat) (x : List D), xs'[j]? = some x → x.length = esz := fun j x hj => by
    rw [← hxs] at hj
    by_cases hij : i = j
    · subst hij
      rw [List.getElem?_set_self (by rw [hL]; exact hiL)] at hj
      cases hj; exact hel'
    · rw [List.getElem?_set_ne hij] at hj
      exact hrow j x hj
  have hbr := BR.sl (φ := φ.set b (.at g δ esz L arr.size)) (I := I) esz xs' false g δ _ et (setRow_heap w g arr _ et (0, 0) hg) (by rw [hsize, hlx]; exact hfitA) hrow' (fun i' j' d c hd hc => by
    simp only [List.getElem?_toArray] at hc
    rw [splice_get _ _ _ hfit2, hlen] at hc
    obtain ⟨x', hx', hj'⟩ := get2_some hd
    have hjlt : j' < esz := by rw [← hrow' i' x' hx']; exact (List.getElem?_eq_some_iff.1 hj').1
    rw [← hxs] at hx'
    by_cases hii : i = i'
    · subst hii
      rw [List.getElem?_set_self (by rw [hL]; exact hiL)] at hx'
      cases hx'
      rw [← hn] at hj'
      rw [splice_get _ _ _ (by omega)] at hj'
      by_cases hin : off ≤ j' ∧ j' < off + ds.length
      · rw [if_pos hin] at hj'
        rw [if_pos (by omega)] at hc
        have e1 : δ + i * esz + j' - (δ + i * esz + off) = j' - off := by omega
        rw [e1] at hc
        have hvj : (ds.map V.d)[j' - off]? = some (V.d d) := by simp [hj']
        exact ((hall _ _ c hvj (by simpa using hc)).d_inv).mono (fun _ h => h) hsame
      · rw [if_neg hin] at hj'
        rw [if_neg (by omega)] at hc
        exact (hcs i j' d c (get2_mk he hj') (by simpa using hc)).mono (fun _ h => h) hsame
    · rw [List.getElem?_set_ne hii] at hx'
      have hnot : ¬ (δ + i * esz + off ≤ δ + i' * esz + j' ∧ δ + i' * esz + j' < δ + i * esz + off + ds.length) := by
        rcases Nat.lt_or_gt_of_ne hii with h | h
        · have h1 : (i + 1) * esz ≤ i' * esz := Nat.mul_le_mul_right _ h
          omega
        · have h1 : (i' + 1) * esz ≤ i * esz := Nat.mul_le_mul_right _ h
          have h2 : (i' + 1) * esz = i' * esz + esz := Nat.succ_mul i' esz
          omega
      rw [if_neg hnot] at hc
      exact (hcs i' j' d c (get2_mk hx' hj') (by simpa using hc)).mono (fun _ h => h) hsame) hz (by constructor <;> intro h; cases h; exact absurd h hI')
  rw [hlx, hsize] at hbr
  obtain ⟨h1, h2, h3⟩ := hw hbr
  exact ⟨_, I, _, undef, .inr ⟨by simp only [execOp, hcx, Sem.run_bind, hrun, Result.andThen_ok, Sem.run_pure], rfl⟩, h2, h1, .undef _, h3⟩

theorem k_storeE {α : Type} {enc : α → List D} {t : TypeId} {x y : Operand} (b off : Nat) {i sz0 sz bytes : Nat} (xs : List α) {xs' : List α} {a : α} (a' : α) (ds : List D) {z : Value} {H' : List Blk} (hr : ∀ a, (enc a).length = sz0) (hx : ev T x = .eptr b xs.length i off := by kernel_rfl) (hk : H[b]? = some (.sl sz0 (xs.map enc) false) := by kernel_rfl) (he : xs[i]? = some a) (hi : TyI P t z sz bytes)
    (hv : (ev T y).cells?.map (List.map nl) = some (ds.map V.d) := by kernel_rfl) (hok : (Nat.beq ds.length sz && Nat.ble (off + sz) sz0) = true := by kernel_rfl) (hn : (enc a).take off ++ ds ++ (enc a).drop (off + ds.length) = enc a' := by kernel_rfl) (hxs : xs.set i a' = xs') (hH : H.set b (.sl sz0 (xs'.map enc) false) = H' := by kernel_rfl) : Does P ⟨dst, .store t x y, type, pos, after, guard⟩ T H .undef H' [b] := by
  obtain ⟨h1, h2⟩ := Bool.and_eq_true_iff.1 hok
  subst hH
  exact d_storeE hx hk (map_len enc xs) (map_idx enc he) hi hv (Nat.eq_of_beq_eq_true h1) (hr a) (Nat.le_of_ble_eq_true h2) hn (by rw [map_set, hxs])

section
variable {R X : Type} {E : R → V × List Blk} {A : X → Option R} {f : FuncId} {N m : Nat} {k todo : List VI}
theorem bSet {α : Type} {B : α → Option X} (a : α) (h : ∀ x, a = x → GoesO P f N m todo T H E ((B x).bind A)) : GoesO P f N m todo T H E ((blet a B).bind A) := h a rfl
end
theorem set_len {α : Type} {xs xs' : List α} {i : Nat} {a : α} (h : xs.set i a = xs') : xs.length = xs'.length := by rw [← h]; simp

theorem gOpX {ι : Type} {r : V} {B : List Blk} {f : FuncId} {N m : Nat} {k : List VI} {all : Array Oper} {i : Nat} {o : Oper} {l : List Oper} {v : ι → V} {ok : ι → Prop} (hw : vwanted T all o = some true) (hN : inN N o.dst = true)
    (hdo : ∀ (φ : List Plc) (I : Nat → Prop) (w : World) (a : Act), Rel H φ I w → TR φ I w T a → ∃ β c, ok β ∧ (execOp a.eval o).run P w = .ok (.value c) w ∧ VR φ I w (v β) c) (h : ∀ β, ok β → Goes P f N m (.ops all (i + 1) l :: k) (tput T o.dst (v β)) H r B) :
    Goes P f N m (.ops all i (o :: l) :: k) T H r B := fun φ I w a b cs hR hT hd hsz hk hf hkd => by
  obtain ⟨ho, hl⟩ := drop_get (show all.toList.drop i = o :: l from hk (.ops all i (o :: l)) (by simp))
  have ho' : all[i]? = some o := by simpa using ho
  obtain ⟨β, c, hok, hrun, hv⟩ := hdo φ I w a hR hT
  have hstep := step_value (P := P) (b := b) (K := k.map VI.item) (cs := cs) (rest := List.range' (i + 1) l.length) ho' (vwanted_wanted hT hw) (.inl hrun)
  obtain ⟨φ', I', w', c', fr, hs, h1, h2, h3, h4⟩ := h β hok φ I w (a.put o.dst c) b cs hR (hT.tput hsz hN hv) (by rw [put_defers]; exact hd) (by rw [put_size]; exact hsz) (fun x hx => by
    simp only [List.mem_cons] at hx
    rcases hx with rfl | hx
    · exact hl
    · exact hk x (by simp [hx])) hf hkd
  refine ⟨φ', I', w', c', fr, .head ?_ hs, h1, h2, h3, h4⟩
  rw [List.map_cons, ops_cons]
  exact hstep

/-- Is the slice nil? For what reads empty either answer may come. -/
theorem oNil {R : Type} {E : R → V × List Blk} {o : Option R} {f : FuncId} {N m : Nat} {k : List VI} {all : Array Oper} {i : Nat} {l : List Oper} {t t2 e : TypeId} {x : Operand} {xs : List (List D)} (hu : P.underlying t = some (.slice e)) (hx : ev T x = .d (.lit xs) := by kernel_rfl)
    (hw : vwanted T all ⟨dst, .binOp .eql t x (.const (.slice none 0 0)) t2, type, pos, after, guard⟩ = some true := by kernel_rfl) (hN : inN N dst = true := by kernel_rfl)
    (h : ∀ β : Bool, (xs ≠ [] → β = false) → GoesO P f N m (.ops all (i + 1) l :: k) (tput T dst (.d (.bool β))) H E o) : GoesO P f N m (.ops all i (⟨dst, .binOp .eql t x (.const (.slice none 0 0)) t2, type, pos, after, guard⟩ :: l) :: k) T H E o := fun r hr => by
  refine gOpX (v := fun β => .d (.bool β)) (ok := fun β => xs ≠ [] → β = false) hw hN (fun φ I w a hR hT => ?_) fun β hβ => h β hβ r hr
  rcases VR.lit_inv (hx ▸ ev_VR hT x) with ⟨rfl, ad, cap, e1⟩ | ⟨g, o, esz, cap, cv, e1, _⟩
  · refine ⟨ad.isNone, .bool ad.isNone, fun h => absurd rfl h, ?_, .d _ _ (.bool _)⟩
    have e2 : a.eval (.const (.slice none 0 0)) = .slice none 0 0 := rfl
    simp [execOp, e1, e2, eqGuard, binOp, run_equal_slice_nil w t e ad 0 cap hu]
  · refine ⟨false, .bool false, fun _ => rfl, ?_, .d _ _ (.bool _)⟩
    have e2 : a.eval (.const (.slice none 0 0)) = .slice none 0 0 := rfl
    simp [execOp, e1, e2, eqGuard, binOp, run_equal_slice_nil w t e (some ⟨g, o, none⟩) xs.length cap hu]
end Go.VM
namespace Go.VM
set_option linter.unusedVariables false
set_option linter.unusedSimpArgs false
theorem rep_len {α : Type} {n : Nat} {e0 : α} {xs : List α} (h : List.replicate n e0 = xs) : n = xs.length := by rw [← h]; simp
theorem convList {H : List Blk} {l vs0 vs : List V} (h : l = vs0 := by kernel_rfl) (p : ConvRs H vs0 vs) : ConvRs H l vs := by subst h; exact p
def iand (k : IntKind) (a b : Int) : Int := k.wrap (BitVec.ofInt k.bits a &&& BitVec.ofInt k.bits b).toNat
def ior (k : IntKind) (a b : Int) : Int := k.wrap (BitVec.ofInt k.bits a ||| BitVec.ofInt k.bits b).toNat
def ixor (k : IntKind) (a b : Int) : Int := k.wrap (BitVec.ofInt k.bits a ^^^ BitVec.ofInt k.bits b).toNat
section
variable {R X : Type} {E : R → V × List Blk} {A : X → Option R} {P : Program} {f : FuncId} {N m : Nat} {T U : Tm} {H H0 : List Blk} {k : List VI} {all : Array Oper} {st : List (Nat × Nat)} {lv : List Nat}
/-- Both ways go on as one, for a truth value alone. -/
theorem bMeetF {i : Nat} {l l' : List Oper} {b : Bool} {B : Bool → Option X} (n : Nat) (hl : l.drop n = l') (sT : Bool → Tm) {H' : List Blk} (hj : ∀ s, GoesO P f N m (.ops all (i + n) l' :: k) (sT s) H' E ((B s).bind A))
    (h : ∀ F : Bool → Option R, (∀ s, GoesO P f N m (.ops all (i + n) l' :: k) (sT s) H' E (F s)) → GoesO P f N m (.ops all i l :: k) T H E (F b)) : GoesO P f N m (.ops all i l :: k) T H E ((blet b B).bind A) := h (fun s => (B s).bind A) hj
theorem bPickF {todo : List VI} (t : Nat) {b : Bool} (F : Bool → Option R) (ht : get T t = .d (.bool b) := by kernel_rfl) (h1 : b = true → GoesO P f N m todo ((t, .d (.bool true)) :: T) H E (F true)) (h2 : b = false → GoesO P f N m todo ((t, .d (.bool false)) :: T) H E (F false)) :
    GoesO P f N m todo T H E (F b) := fun r hr => gSplit t ht (fun hb => by subst hb; exact h1 rfl r hr) (fun hb => by subst hb; exact h2 rfl r hr)
theorem dMeetF {b : Bool} {B : Bool → Option X} (lv' : List Nat) (sT sU : Bool → Tm) {H' : List Blk} (hj : ∀ s, AnyO P f N m all st H0 lv' k (sT s) (sU s) H' E ((B s).bind A))
    (h : ∀ F : Bool → Option R, (∀ s, AnyO P f N m all st H0 lv' k (sT s) (sU s) H' E (F s)) → AnyO P f N m all st H0 lv k T U H E (F b)) : AnyO P f N m all st H0 lv k T U H E ((blet b B).bind A) := h (fun s => (B s).bind A) hj
theorem dPickF (t : Nat) {b : Bool} (F : Bool → Option R) (ht : get T t = .d (.bool b) := by kernel_rfl) (hu : get U t = .d (.bool b) := by kernel_rfl) (h1 : b = true → AnyO P f N m all st H0 lv k ((t, .d (.bool true)) :: T) ((t, .d (.bool true)) :: U) H E (F true))
    (h2 : b = false → AnyO P f N m all st H0 lv k ((t, .d (.bool false)) :: T) ((t, .d (.bool false)) :: U) H E (F false)) : AnyO P f N m all st H0 lv k T U H E (F b) := by
  have : F b = bif b then F true else F false := by cases b <;> rfl
  rw [this]
  exact aSplit t ht hu h1 h2
theorem dSet {α : Type} {B : α → Option X} (a : α) (h : ∀ x, a = x → AnyO P f N m all st H0 lv k T U H E ((B x).bind A)) : AnyO P f N m all st H0 lv k T U H E ((blet a B).bind A) := h a rfl
end
end Go.VM
namespace Go.VM
set_option linter.unusedVariables false
set_option linter.unusedSimpArgs false
section
variable {R X : Type} {E : R → V × List Blk} {A : X → Option R} {P : Program} {f : FuncId} {N m : Nat} {T U : Tm} {H H0 : List Blk} {k : List VI} {all : Array Oper} {st : List (Nat × Nat)} {lv : List Nat}
theorem bUc {α β : Type} {F : α → β → Option X} {a : α} {b : β} (h : GoesO P f N m k T H E ((F a b).bind A)) : GoesO P f N m k T H E ((uc F (a, b)).bind A) := h
theorem bU0 {o : Option X} (h : GoesO P f N m k T H E (o.bind A)) : GoesO P f N m k T H E ((u0 o ()).bind A) := h
theorem bInl {α β : Type} {F : α → Option X} {G : β → Option X} {a : α} (h : GoesO P f N m k T H E ((F a).bind A)) : GoesO P f N m k T H E ((Sum.elim F G (Sum.inl a)).bind A) := h
theorem dUc {α β : Type} {F : α → β → Option X} {a : α} {b : β} (h : AnyO P f N m all st H0 lv k T U H E ((F a b).bind A)) : AnyO P f N m all st H0 lv k T U H E ((uc F (a, b)).bind A) := h
theorem dU0 {o : Option X} (h : AnyO P f N m all st H0 lv k T U H E (o.bind A)) : AnyO P f N m all st H0 lv k T U H E ((u0 o ()).bind A) := h
end
end Go.VM
