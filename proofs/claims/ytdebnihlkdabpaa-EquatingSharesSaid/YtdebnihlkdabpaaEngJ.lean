/- Calls, and the turns of the machine's own view. -/
import Derived.Test.YtdebnihlkdabpaaEngI
namespace Go.VM
set_option linter.unusedVariables false
set_option linter.unusedSimpArgs false

/-! ### a value told in another way -/
mutual
inductive ConvR (H : List Blk) : V → V → Prop
  | same (v : V) : ConvR H v v
  | lit (b L o l esz : Nat) (xs ys : List (List D)) (hk : H[b]? = some (.sl esz xs true)) (hL : xs.length = L) (hle : o + l ≤ L) (hy : (xs.drop o).take l = ys) : ConvR H (.ref b L o l) (.d (.lit ys))
  | nil : ConvR H .nilc (.d (.lit []))
  | agg (cs cs' : List V) (h : ConvRs H cs cs') : ConvR H (.agg cs) (.agg cs')
inductive ConvRs (H : List Blk) : List V → List V → Prop
  | nil : ConvRs H [] []
  | cons (v v' : V) (vs vs' : List V) (h : ConvR H v v') (h' : ConvRs H vs vs') : ConvRs H (v :: vs) (v' :: vs')
end

theorem ConvRs.refl (H : List Blk) : ∀ vs : List V, ConvRs H vs vs
  | [] => .nil
  | v :: vs => .cons v v vs vs (.same v) (ConvRs.refl H vs)

theorem lit_of_ref {H : List Blk} {φ : List Plc} {I : Nat → Prop} {w : World} {b L o l esz : Nat} {xs ys : List (List D)} {c : Value} (hR : Rel H φ I w) (hk : H[b]? = some (.sl esz xs true)) (hL : xs.length = L) (hle : o + l ≤ L) (hy : (xs.drop o).take l = ys)
    (h : VR φ I w (.ref b L o l) c) : VR φ I w (.d (.lit ys)) c := by
  have hyl : ys.length = l := by subst hy; simp; omega
  rcases VR.ref_inv hR hk hL h with ⟨_, rfl, _, _, rfl, rfl⟩ | ⟨rfl, _, a, _, _, _, rfl, _⟩ | ⟨g, δ, arr, ty, cap, rfl, hb, hg, hn, hlen, hcs, hz, hI, g1, g2, g3, g4⟩
  · obtain rfl : ys = [] := List.eq_nil_of_length_eq_zero hyl
    exact .d _ _ (.nil _ _)
  · obtain rfl : ys = [] := List.eq_nil_of_length_eq_zero hyl
    exact .d _ _ (.nil _ _)
  · have hrow : ∀ (i : Nat) (e : List D), ys[i]? = some e → e.length = esz := fun i e he => by
      subst hy
      have hil : i < l := by have := (List.getElem?_eq_some_iff.1 he).1; omega
      rw [List.getElem?_take_of_lt hil, List.getElem?_drop] at he
      exact hlen _ _ he
    have hin : ∀ (i j : Nat) (d : D), get2 ys i j = some d → δ + (o + i) * esz + j < arr.size := fun i j d hd => by
      obtain ⟨h1, h2⟩ := get2_lt hrow hd
      have : (o + i) * esz + esz ≤ L * esz := by rw [← Nat.succ_mul]; exact Nat.mul_le_mul_right _ (by omega)
      omega
    have := DR.lit (I := I) (w := w) ys g (δ + o * esz) esz cap (fun i j => arr.getD (δ + (o + i) * esz + j) undef) (hI.1 rfl) hrow (fun i j d hd => by
      have hlt := hin i j d hd
      rw [show δ + o * esz + i * esz + j = δ + (o + i) * esz + j by rw [Nat.add_mul]; omega, cell_of hg]
      simp [Array.getD, hlt]) (fun i j d hd => by
      have hlt := hin i j d hd
      refine hcs (o + i) j d _ (by subst hy; exact get2_cut hd) ?_
      simp [Array.getD, hlt]) (by omega)
    rw [hyl] at this
    exact .d _ _ this

mutual
theorem ConvR.VR {H : List Blk} {φ : List Plc} {I : Nat → Prop} {w : World} (hR : Rel H φ I w) {v v' : V} (h : ConvR H v v') : ∀ {c : Value}, VR φ I w v c → VR φ I w v' c := by
  cases h with
  | same => exact fun hv => hv
  | lit b L o l esz xs ys hk hL hle hy => exact fun hv => lit_of_ref hR hk hL hle hy hv
  | nil => exact fun hv => by rw [hv.nilc_inv]; exact .d _ _ (.nil _ _)
  | agg cs cs' h =>
    intro c hv
    obtain ⟨arr, rfl, hA⟩ := VR.agg_inv hv
    have hs := ConvRs.VRs hR h
    exact .agg _ _ (by rw [hA.1]; exact hs.1) fun i v c h1 h2 => hs.2 i v h1 fun v0 h0 => hA.2 i v0 c h0 h2
theorem ConvRs.VRs {H : List Blk} {φ : List Plc} {I : Nat → Prop} {w : World} (hR : Rel H φ I w) {vs vs' : List V} (h : ConvRs H vs vs') :
    vs'.length = vs.length ∧ ∀ (i : Nat) (v : V), vs'[i]? = some v → ∀ {c : Value}, (∀ v0 : V, vs[i]? = some v0 → VR φ I w v0 c) → VR φ I w v c := by
  cases h with
  | nil => exact ⟨rfl, by simp⟩
  | cons v v' vs vs' h h' =>
    obtain ⟨h1, h2⟩ := ConvRs.VRs hR h'
    refine ⟨by simp [h1], fun i u hu c hc => ?_⟩
    cases i with
    | zero => simp at hu; subst hu; exact ConvR.VR hR h (hc v rfl)
    | succ i => simp at hu; exact h2 i u hu fun v0 hv0 => hc v0 (by simpa using hv0)
end

section
variable {P : Program} {f : FuncId} {N m : Nat} {T : Tm} {H : List Blk} {r : V} {B : List Blk} {k : List VI}

theorem gConv {todo : List VI} (t : Nat) {v v' : V} (ht : get T t = v) (hc : ConvR H v v') (h : Goes P f N m todo ((t, v') :: T) H r B) : Goes P f N m todo T H r B := by
  refine gGhost (fun φ I w a hR hT => ⟨φ, I, Turn.refl φ I w, hR, fun t' => ?_⟩) h
  simp only [get]
  cases hb : Nat.beq t' t with
  | true =>
    have := Nat.eq_of_beq_eq_true hb
    subst this
    have hv := hT t'
    rw [ht] at hv
    exact hc.VR hR hv
  | false => exact hT t'

theorem ConvR.one {H : List Blk} {v v' : V} (h : ConvR H v v') (hv : v.one = true) : v'.one = true := by
  cases h with
  | agg => cases hv
  | same => exact hv
  | _ => rfl

/-- A block is told anew; the memory stays. -/
theorem Rel.retell {φ : List Plc} {I : Nat → Prop} {w : World} (hR : Rel H φ I w) {b : Nat} {k0 : Blk} {l : Plc} (hb : φ[b]? = some l) (hbr : BR φ I w k0 l) : Rel (H.set b k0) φ I w := by
  have hbH : b < H.length := by rw [← hR.len]; exact (List.getElem?_eq_some_iff.1 hb).1
  refine hR.step b (by simp [hR.len]) (LE.refl φ) (fun _ h => h) (fun _ _ => rfl) (fun b' k' l' hk hl => ?_) (fun b' l' g h1 h2 => .inl ⟨l', h1, h2⟩) hR.imm
  by_cases he : b = b'
  · subst he
    simp [hbH] at hk
    rw [hb] at hl
    cases hl
    subst hk
    exact .inr hbr
  · rw [get_set_ne _ _ _ _ he] at hk
    exact .inl ⟨hk, hl, fun g _ => ⟨rfl, fun h => h⟩⟩

theorem gConvB {todo : List VI} (b : Nat) {cells cells' : List V} (hk : H[b]? = some (.box cells)) (hc : ConvRs H cells cells') (h : Goes P f N m todo T (H.set b (.box cells')) r B) : Goes P f N m todo T H r B := by
  refine gGhost (fun φ I w a hR hT => ?_) h
  have hblt : b < φ.length := by rw [hR.len]; exact (List.getElem?_eq_some_iff.1 hk).1
  have hbl := hR.blk b _ _ hk (List.getElem?_eq_getElem hblt)
  have hφ := List.getElem?_eq_getElem hblt
  generalize φ[b] = l at hbl hφ
  cases hbl with
  | box _ g arr e hg hn ho hcs hI =>
    have hs := hc.VRs hR
    refine ⟨φ, I, Turn.refl φ I w, hR.retell hφ ?_, hT⟩
    have hone : ∀ {cs cs' : List V}, ConvRs H cs cs' → (∀ (j : Nat) (v : V), cs[j]? = some v → v.one = true) → ∀ (j : Nat) (v : V), cs'[j]? = some v → v.one = true := by
      intro cs
      induction cs with
      | nil => intro cs' h _ j v hv; cases h; simp at hv
      | cons c cs ih =>
        intro cs' h ho j v hv
        cases h with
        | cons _ v' _ vs' h h' =>
          cases j with
          | zero => simp at hv; subst hv; exact h.one (ho 0 c rfl)
          | succ j => simp at hv; exact ih h' (fun j v hv => ho (j + 1) v (by simpa using hv)) j v hv
    have hA : ∀ (j : Nat) (v : V) (c : Value), cells'[j]? = some v → arr[j]? = some c → VR φ I w v c := fun j v c hv hcj => hs.2 j v hv fun v0 h0 => hcs j v0 c h0 hcj
    have := BR.box (φ := φ) (I := I) (w := w) cells' g arr e hg (by rw [hn, hs.1]) (hone hc ho) hA hI
    rw [hs.1] at this
    exact this

/-- A nil slice in a box becomes a slice over an empty block. -/
theorem gVirtB {esz : Nat} {todo : List VI} (b off : Nat) {cells : List V} (hk : H[b]? = some (.box cells)) (ho : cells[off]? = some .nilc) (h : Goes P f N m todo T (H.set b (.box (cells.set off (.ref H.length 0 0 0))) ++ [.sl esz [] false]) r B) : Goes P f N m todo T H r B := by
  refine gGhost (fun φ I w a hR hT => ?_) h
  obtain ⟨h1, h2⟩ := hR.virt (esz := esz)
  have hbH : b < H.length := (List.getElem?_eq_some_iff.1 hk).1
  have hblt : b < φ.length := by rw [hR.len]; exact hbH
  have hbl := hR.blk b _ _ hk (List.getElem?_eq_getElem hblt)
  have hφ := List.getElem?_eq_getElem hblt
  generalize φ[b] = l at hbl hφ
  cases hbl with
  | box _ g arr e hg hn hone hcs hI =>
    have hφ' : (φ ++ [Plc.virt])[b]? = some (.box g cells.length) := by rw [List.getElem?_append_left hblt]; exact hφ
    have hoff := (List.getElem?_eq_some_iff.1 ho).1
    refine ⟨φ ++ [.virt], I, h2, ?_, fun t => (hT t).turn h2⟩
    have hset : H.set b (.box (cells.set off (.ref H.length 0 0 0))) ++ [Blk.sl esz [] false] = (H ++ [Blk.sl esz [] false]).set b (.box (cells.set off (.ref H.length 0 0 0))) := by rw [List.set_append_left _ _ hbH]
    rw [hset]
    refine h1.retell hφ' ?_
    have := BR.box (φ := φ ++ [.virt]) (I := I) (w := w) (cells.set off (.ref H.length 0 0 0)) g arr e hg (by simpa using hn) (fun j v hv => by
      by_cases he : off = j
      · subst he; simp [hoff] at hv; subst hv; rfl
      · rw [get_set_ne _ _ _ _ he] at hv; exact hone j v hv) (fun j v c hv hc => by
      by_cases he : off = j
      · subst he
        simp [hoff] at hv
        subst hv
        have := hcs off .nilc c ho hc
        rw [this.nilc_inv]
        exact virt_VR φ I w hR.len
      · rw [get_set_ne _ _ _ _ he] at hv
        exact (hcs j v c hv hc).turn h2) hI
    simpa using this

/-- From now on nobody writes this block. -/
theorem gFreeze {todo : List VI} (b : Nat) {esz : Nat} {xs : List (List D)} (hk : H[b]? = some (.sl esz xs false)) (h : Goes P f N m todo T (H.set b (.sl esz xs true)) r B) : Goes P f N m todo T H r B := by
  refine gGhost (fun φ I w a hR hT => ?_) h
  have hbH : b < H.length := (List.getElem?_eq_some_iff.1 hk).1
  have hblt : b < φ.length := by rw [hR.len]; exact hbH
  have hbl := hR.blk b _ _ hk (List.getElem?_eq_getElem hblt)
  have hφ := List.getElem?_eq_getElem hblt
  generalize φ[b] = l at hbl hφ
  cases hbl with
  | virt => exact ⟨φ, I, Turn.refl φ I w, hR.retell hφ (.virt _ _), hT⟩
  | sl _ _ _ g δ arr e hg hn hlen hc hz hI =>
    have hgs : g < w.heap.size := (Array.getElem?_eq_some_iff.1 hg).1
    have ht : Turn φ I w φ (fun x => I x ∨ x = g) w := ⟨rfl, rfl, rfl, Nat.le_refl _, fun _ _ _ => rfl, fun _ _ => rfl, fun _ h => .inl h, LE.refl φ, fun b l g hb hg => .inr ⟨l, hb, hg⟩, fun x hx => by
      rcases hx with hx | rfl
      · exact .inl hx
      · exact .inr (.inr ⟨b, _, hφ, rfl⟩)⟩
    refine ⟨φ, fun x => I x ∨ x = g, ht, ?_, fun t => (hT t).turn ht⟩
    refine hR.step b (by simp [hR.len]) (LE.refl φ) (fun _ h => .inl h) (fun _ _ => rfl) (fun b' k' l' hk' hl' => ?_) (fun b' l' g h1 h2 => .inl ⟨l', h1, h2⟩) (fun x hx => ?_)
    · by_cases he : b = b'
      · subst he
        simp [hbH] at hk'
        rw [hφ] at hl'
        cases hl'
        subst hk'
        exact .inr (.sl esz xs true g δ arr e hg hn hlen (fun i j d c hd hcj => (hc i j d c hd hcj).mono (fun _ h => .inl h) (fun _ _ => rfl)) hz ⟨fun _ => .inr rfl, fun _ => rfl⟩)
      · rw [get_set_ne _ _ _ _ he] at hk'
        refine .inl ⟨hk', hl', fun g' hg' => ⟨rfl, fun hx => ?_⟩⟩
        rcases hx with hx | rfl
        · exact hx
        · exact absurd (hR.inj b b' _ l' g' hφ hl' rfl hg') he
    · rcases hx with hx | rfl
      · exact hR.imm x hx
      · exact hgs

/-- The view at the head of a loop, or where ways meet: the temporaries that are needed, the blocks that are needed. -/
theorem gHead {todo : List VI} (ks σ : List Nat) {T' : Tm} {H' : List Blk} (hT' : keepT ks T = T'.map fun p => (p.1, mapV (nth σ) p.2)) (hTc : T'.all (fun p => closedV σ.length p.2) = true)
    (hσm : σ.take m = List.range m) (hσ : σ.all (fun b => Nat.blt b H.length) = true) (hnd : σ.Nodup) (hB : σ.map (fun b => H[b]?) = H'.map (fun k => some (mapB (nth σ) k))) (hcl : H'.all (closedB σ.length) = true)
    (h : Goes P f N m todo T' H' r B) : Goes P f N m todo T H r B := fun φ I w a b cs hR hT hd hsz hk hf hkd => by
  have hσ' : ∀ b ∈ σ, b < H.length := fun b hb => Nat.le_of_ble_eq_true (List.all_eq_true.1 hσ b hb)
  have hσφ : ∀ b ∈ σ, b < φ.length := by rw [hR.len]; exact hσ'
  have hRB := hR.pick hσ' hnd hB (List.all_eq_true.1 hcl)
  have hTB : TR (pick σ φ) I w T' a := fun t => by
    have hget : ∀ (U : Tm), (∀ p ∈ U, closedV σ.length p.2 = true) → get (U.map fun p => (p.1, mapV (nth σ) p.2)) t = mapV (nth σ) (get U t) ∧ closedV σ.length (get U t) = true := by
      intro U
      induction U with
      | nil => intro _; exact ⟨rfl, rfl⟩
      | cons p U ih =>
        intro hU
        obtain ⟨h1, h2⟩ := ih fun q hq => hU q (by simp [hq])
        simp only [List.map_cons, get]
        cases Nat.beq t p.1 with
        | true => exact ⟨rfl, hU p (by simp)⟩
        | false => exact ⟨h1, h2⟩
    obtain ⟨h1, h2⟩ := hget T' (List.all_eq_true.1 hTc)
    refine mapV_back (n := σ.length) (fun b hb => (pick_get hb hσφ).symm) _ _ h2 ?_
    rw [← h1, ← hT']
    rcases get_keep ks T t with h | h
    · rw [h]; exact hT t
    · rw [h]; exact .undef _
  obtain ⟨φ', I', w', c', fr, hs, h1, h2, h3, h4⟩ := h (pick σ φ) I w a b cs hRB hTB hd hsz hk hf hkd
  refine ⟨φ', I', w', c', fr, hs, h1, h2, TurnM.trans ?_ h3, h4⟩
  refine ⟨rfl, rfl, rfl, Nat.le_refl _, fun _ _ _ => rfl, fun _ _ => rfl, fun _ h => h, fun b hb l hl => ?_, fun b l g hb hg => ?_, fun _ h => .inl h⟩
  · have hbt : σ[b]? = some b := by
      have : (σ.take m)[b]? = some b := by rw [hσm]; simp [hb]
      rw [List.getElem?_take_of_lt hb] at this
      exact this
    have hbl := (List.getElem?_eq_some_iff.1 hbt).1
    refine ⟨l, ?_, .refl l⟩
    rw [pick_get hbl hσφ]
    simp only [nth, List.getD_eq_getElem?_getD, hbt, Option.getD_some]
    exact hl
  · have hbl : b < σ.length := by have := (List.getElem?_eq_some_iff.1 hb).1; simpa [VM.pick] using this
    rw [pick_get hbl hσφ] at hb
    exact .inr ⟨_, l, hb, hg⟩

/-! ### a call -/
def putL {α : Type} (σ : List Nat) (xs base : List α) : List α := (σ.zip xs).foldl (fun l p => l.set p.1 p.2) base
def backN (σ : List Nat) (n i : Nat) : Nat := bif Nat.blt i σ.length then nth σ i else n + (i - σ.length)

theorem putL_length {α : Type} : ∀ (σ : List Nat) (xs base : List α), (putL σ xs base).length = base.length
  | [], xs, base => rfl
  | b :: σ, [], base => rfl
  | b :: σ, x :: xs, base => by
    show (putL σ xs (base.set b x)).length = base.length
    rw [putL_length σ xs]
    simp
theorem putL_out {α : Type} : ∀ (σ : List Nat) (xs base : List α) (b : Nat), b ∉ σ → (putL σ xs base)[b]? = base[b]?
  | [], xs, base, b, _ => rfl
  | c :: σ, [], base, b, _ => rfl
  | c :: σ, x :: xs, base, b, h => by
    show (putL σ xs (base.set c x))[b]? = base[b]?
    rw [putL_out σ xs _ b (fun hb => h (List.mem_cons_of_mem _ hb)), get_set_ne _ _ _ _ (fun e => h (by simp [e]))]
theorem putL_in {α : Type} : ∀ (σ : List Nat) (xs base : List α) (i : Nat), σ.Nodup → (∀ b ∈ σ, b < base.length) → i < σ.length → i < xs.length → (putL σ xs base)[nth σ i]? = xs[i]?
  | [], xs, base, i, _, _, hi, _ => by simp at hi
  | c :: σ, [], base, i, _, _, _, hx => by simp at hx
  | c :: σ, x :: xs, base, i, hnd, hlt, hi, hx => by
    show (putL σ xs (base.set c x))[nth (c :: σ) i]? = (x :: xs)[i]?
    have hnd' := List.nodup_cons.1 hnd
    cases i with
    | zero =>
      simp only [nth, List.getD_cons_zero]
      rw [putL_out σ xs _ c hnd'.1]
      have := hlt c (by simp)
      simp [this]
    | succ i =>
      simp only [nth, List.getD_cons_succ]
      exact putL_in σ xs _ i hnd'.2 (fun b hb => by rw [List.length_set]; exact hlt b (by simp [hb])) (by simpa using hi) (by simpa using hx)
end
end Go.VM
