/- Names of blocks changed; return; calls. -/
import Derived.Test.YtdebnihlkdabpaaEngH
namespace Go.VM
set_option linter.unusedVariables false
set_option linter.unusedSimpArgs false

/-! ### another name for each block -/
mutual
def mapV (ρ : Nat → Nat) : V → V
  | .ref b L o l => .ref (ρ b) L o l
  | .ptr b o => .ptr (ρ b) o
  | .eptr b L i o => .eptr (ρ b) L i o
  | .fn f caps => .fn f (mapVs ρ caps)
  | .agg cs => .agg (mapVs ρ cs)
  | .tuple vs => .tuple (mapVs ρ vs)
  | v => v
def mapVs (ρ : Nat → Nat) : List V → List V
  | [] => []
  | v :: vs => mapV ρ v :: mapVs ρ vs
end
mutual
def closedV (n : Nat) : V → Bool
  | .ref b _ _ _ => Nat.blt b n
  | .ptr b _ => Nat.blt b n
  | .eptr b _ _ _ => Nat.blt b n
  | .fn _ caps => closedVs n caps
  | .agg cs => closedVs n cs
  | .tuple vs => closedVs n vs
  | _ => true
def closedVs (n : Nat) : List V → Bool
  | [] => true
  | v :: vs => closedV n v && closedVs n vs
end
def mapB (ρ : Nat → Nat) : Blk → Blk
  | .box cells => .box (mapVs ρ cells)
  | b => b
def closedB (n : Nat) : Blk → Bool
  | .box cells => closedVs n cells
  | _ => true

theorem mapVs_map (ρ : Nat → Nat) : ∀ vs : List V, mapVs ρ vs = vs.map (mapV ρ)
  | [] => rfl
  | v :: vs => by simp only [mapVs, List.map_cons, mapVs_map ρ vs]
theorem closedVs_all (n : Nat) : ∀ vs : List V, closedVs n vs = vs.all (closedV n)
  | [] => rfl
  | v :: vs => by simp only [closedVs, List.all_cons, closedVs_all n vs]

theorem mapV_VR {φ φ' : List Plc} {I : Nat → Prop} {w : World} {ρ : Nat → Nat} (hρ : ∀ (b : Nat) (l : Plc), φ[b]? = some l → φ'[ρ b]? = some l) {v : V} {c : Value} (h : VR φ I w v c) : VR φ' I w (mapV ρ v) c := by
  induction h with
  | d x v h => exact .d x v h
  | nilc => exact .nilc
  | ref b L off len g δ esz n cap hb h1 h2 h3 h4 => exact .ref _ L off len g δ esz n cap (hρ _ _ hb) h1 h2 h3 h4
  | refZ b L off g δ esz n a hb h => exact .refZ _ L off g δ esz n a (hρ _ _ hb) h
  | virt b hb => exact .virt _ (hρ _ _ hb)
  | refStale b L off len loc a n c hb hs => exact .refStale _ _ _ _ _ _ _ _ (hρ _ _ hb) hs
  | ptr b off g n hb => exact .ptr _ off g n (hρ _ _ hb)
  | ptrDead b off a hb => exact .ptrDead _ _ _ (hρ _ _ hb)
  | eptr b L i off g δ esz n hb => exact .eptr _ L i off g δ esz n (hρ _ _ hb)
  | eptrStale b L i off loc a hb hs => exact .eptrStale _ _ _ _ _ _ (hρ _ _ hb) hs
  | lptr cells off g o cv hI h1 h2 => exact .lptr cells off g o cv hI h1 h2
  | nilptr => exact .nilptr
  | fn f caps cs hl hc ih =>
    rw [mapV, mapVs_map]
    refine .fn f _ cs (by simpa using hl) fun i v c h1 h2 => ?_
    simp only [List.getElem?_map] at h1
    obtain ⟨v0, h0, rfl⟩ := Option.map_eq_some_iff.1 h1
    exact ih i v0 c h0 h2
  | nilfn => exact .nilfn
  | agg cells cs hl hc ih =>
    rw [mapV, mapVs_map]
    refine .agg _ cs (by simpa using hl) fun i v c h1 h2 => ?_
    simp only [List.getElem?_map] at h1
    obtain ⟨v0, h0, rfl⟩ := Option.map_eq_some_iff.1 h1
    exact ih i v0 c h0 h2
  | tuple vs cs hl hc ih =>
    rw [mapV, mapVs_map]
    refine .tuple _ cs (by simpa using hl) fun i v c h1 h2 => ?_
    simp only [List.getElem?_map] at h1
    obtain ⟨v0, h0, rfl⟩ := Option.map_eq_some_iff.1 h1
    exact ih i v0 c h0 h2
  | undef v => exact .undef v

/-- The way back: a value all of whose blocks have a name here. -/
theorem mapV_back {φ φ' : List Plc} {I : Nat → Prop} {w : World} {ρ : Nat → Nat} {n : Nat} (hρ : ∀ (b : Nat), b < n → φ'[ρ b]? = φ[b]?) : ∀ (v : V) (c : Value), closedV n v = true → VR φ' I w (mapV ρ v) c → VR φ I w v c := by
  have key : ∀ (u : V) (c : Value), VR φ' I w u c → ∀ v : V, mapV ρ v = u → closedV n v = true → VR φ I w v c := by
    intro u c h
    induction h with
    | d x v h =>
      intro v hv hc
      cases v <;> simp [mapV] at hv
      subst hv; exact .d _ _ h
    | nilc => intro v hv hc; cases v <;> simp [mapV] at hv; exact .nilc
    | ref b L off len g δ esz nn cap hb h1 h2 h3 h4 =>
      intro v hv hc
      cases v <;> simp [mapV] at hv
      obtain ⟨rfl, rfl, rfl, rfl⟩ := hv
      exact .ref _ _ _ _ g δ esz nn cap (by rw [← hρ _ (Nat.le_of_ble_eq_true hc)]; exact hb) h1 h2 h3 h4
    | refZ b L off g δ esz nn a hb h =>
      intro v hv hc
      cases v <;> simp [mapV] at hv
      obtain ⟨rfl, rfl, rfl, rfl⟩ := hv
      exact .refZ _ _ _ g δ esz nn a (by rw [← hρ _ (Nat.le_of_ble_eq_true hc)]; exact hb) h
    | virt b hb =>
      intro v hv hc
      cases v <;> simp [mapV] at hv
      obtain ⟨rfl, rfl, rfl, rfl⟩ := hv
      exact .virt _ (by rw [← hρ _ (Nat.le_of_ble_eq_true hc)]; exact hb)
    | refStale b L off len loc a nn cc hb hs =>
      intro v hv hc
      cases v <;> simp [mapV] at hv
      obtain ⟨rfl, rfl, rfl, rfl⟩ := hv
      exact .refStale _ _ _ _ _ _ _ _ (by rw [← hρ _ (Nat.le_of_ble_eq_true hc)]; exact hb) hs
    | ptr b off g nn hb =>
      intro v hv hc
      cases v <;> simp [mapV] at hv
      obtain ⟨rfl, rfl⟩ := hv
      exact .ptr _ _ g nn (by rw [← hρ _ (Nat.le_of_ble_eq_true hc)]; exact hb)
    | ptrDead b off a hb =>
      intro v hv hc
      cases v <;> simp [mapV] at hv
      obtain ⟨rfl, rfl⟩ := hv
      exact .ptrDead _ _ _ (by rw [← hρ _ (Nat.le_of_ble_eq_true hc)]; exact hb)
    | eptr b L i off g δ esz nn hb =>
      intro v hv hc
      cases v <;> simp [mapV] at hv
      obtain ⟨rfl, rfl, rfl, rfl⟩ := hv
      exact .eptr _ _ _ _ g δ esz nn (by rw [← hρ _ (Nat.le_of_ble_eq_true hc)]; exact hb)
    | eptrStale b L i off loc a hb hs =>
      intro v hv hc
      cases v <;> simp [mapV] at hv
      obtain ⟨rfl, rfl, rfl, rfl⟩ := hv
      exact .eptrStale _ _ _ _ _ _ (by rw [← hρ _ (Nat.le_of_ble_eq_true hc)]; exact hb) hs
    | lptr cells off g o cv hI h1 h2 =>
      intro v hv hc
      cases v <;> simp [mapV] at hv
      obtain ⟨rfl, rfl⟩ := hv
      exact .lptr _ _ g o cv hI h1 h2
    | nilptr => intro v hv hc; cases v <;> simp [mapV] at hv; exact .nilptr
    | fn f caps cs hl hcc ih =>
      intro v hv hc
      cases v <;> simp [mapV] at hv
      rename_i f' caps'
      obtain ⟨rfl, hv⟩ := hv
      rw [mapVs_map] at hv
      rw [closedV, closedVs_all] at hc
      subst hv
      refine .fn _ _ cs (by simpa using hl) fun i v c h1 h2 => ih i (mapV ρ v) c (by simp [h1]) h2 v rfl (List.all_eq_true.1 hc v (List.mem_of_getElem? h1))
    | nilfn => intro v hv hc; cases v <;> simp [mapV] at hv; exact .nilfn
    | agg cells cs hl hcc ih =>
      intro v hv hc
      cases v <;> simp [mapV] at hv
      rename_i caps'
      rw [mapVs_map] at hv
      rw [closedV, closedVs_all] at hc
      subst hv
      refine .agg _ cs (by simpa using hl) fun i v c h1 h2 => ih i (mapV ρ v) c (by simp [h1]) h2 v rfl (List.all_eq_true.1 hc v (List.mem_of_getElem? h1))
    | tuple vs cs hl hcc ih =>
      intro v hv hc
      cases v <;> simp [mapV] at hv
      rename_i caps'
      rw [mapVs_map] at hv
      rw [closedV, closedVs_all] at hc
      subst hv
      refine .tuple _ cs (by simpa using hl) fun i v c h1 h2 => ih i (mapV ρ v) c (by simp [h1]) h2 v rfl (List.all_eq_true.1 hc v (List.mem_of_getElem? h1))
    | undef vv =>
      intro v hv hc
      cases v <;> simp [mapV] at hv
      exact .undef _
  exact fun v c hc h => key _ c h v rfl hc

/-- The places of some blocks. -/
def pick (σ : List Nat) (φ : List Plc) : List Plc := σ.map fun b => φ.getD b .dead
def nth (σ : List Nat) (i : Nat) : Nat := σ.getD i 0

theorem pick_get {σ : List Nat} {φ : List Plc} {i : Nat} (hi : i < σ.length) (hσ : ∀ b ∈ σ, b < φ.length) : (pick σ φ)[i]? = φ[nth σ i]? := by
  have hb := hσ σ[i] (List.getElem_mem hi)
  simp [pick, nth, hi, hb]

theorem mapV_one (ρ : Nat → Nat) (v : V) : (mapV ρ v).one = v.one := by cases v <;> rfl

/-- A part of the blocks, each under another name. -/
theorem Rel.pick {H : List Blk} {φ : List Plc} {I : Nat → Prop} {w : World} (h : Rel H φ I w) {σ : List Nat} {B : List Blk} (hσ : ∀ b ∈ σ, b < H.length) (hnd : σ.Nodup) (hB : σ.map (fun b => H[b]?) = B.map (fun k => some (mapB (nth σ) k)))
    (hcl : ∀ k ∈ B, closedB σ.length k = true) : Rel B (pick σ φ) I w := by
  have hlen : B.length = σ.length := by have := congrArg List.length hB; simp at this; omega
  have hσφ : ∀ b ∈ σ, b < φ.length := by rw [h.len]; exact hσ
  have hget : ∀ (i : Nat) (k : Blk), B[i]? = some k → H[nth σ i]? = some (mapB (nth σ) k) := fun i k hk => by
    have hi : i < σ.length := by rw [← hlen]; exact (List.getElem?_eq_some_iff.1 hk).1
    have h1 : (σ.map (fun b => H[b]?))[i]? = some (some (mapB (nth σ) k)) := by rw [hB]; simp [hk]
    simp only [List.getElem?_map, List.getElem?_eq_getElem hi, Option.map_some, Option.some.injEq] at h1
    simpa [nth, hi] using h1
  refine ⟨by simp [VM.pick, hlen], fun i k l hk hl => ?_, fun i j l l' g hl hl' hg hg' => ?_, h.imm⟩
  · have hi : i < σ.length := by rw [← hlen]; exact (List.getElem?_eq_some_iff.1 hk).1
    rw [pick_get hi hσφ] at hl
    have hbr := h.blk _ _ _ (hget i k hk) hl
    have hclk := hcl k (List.mem_of_getElem? hk)
    have hback : ∀ (v : V) (c : Value), closedV σ.length v = true → VR φ I w (mapV (nth σ) v) c → VR (VM.pick σ φ) I w v c := mapV_back fun b hb => (pick_get hb hσφ).symm
    cases k with
    | dead => simp only [mapB] at hbr; cases hbr; exact .dead _ (by assumption)
    | sl esz xs fro =>
      simp only [mapB] at hbr
      cases hbr with
      | virt => exact .virt _ _
      | sl _ _ _ g δ arr e hg hn hlen hc hz hI => exact .sl esz xs fro g δ arr e hg hn hlen hc hz hI
    | box cells =>
      simp only [mapB, mapVs_map] at hbr
      simp only [closedB, closedVs_all] at hclk
      generalize hcm : cells.map (mapV (nth σ)) = cells' at hbr
      cases hbr with
      | box _ g arr e hg hn ho hc hI =>
        subst hcm
        have := BR.box (φ := VM.pick σ φ) (I := I) (w := w) cells g arr e hg (by simpa using hn) (fun j v hv => by
          have := ho j (mapV (nth σ) v) (by simp [hv])
          rwa [mapV_one] at this) (fun j v c hv hcj => hback v c (List.all_eq_true.1 hclk v (List.mem_of_getElem? hv)) (hc j _ c (by simp [hv]) hcj)) hI
        simpa using this
  · have hi : i < σ.length := by have := (List.getElem?_eq_some_iff.1 hl).1; simpa [VM.pick] using this
    have hj : j < σ.length := by have := (List.getElem?_eq_some_iff.1 hl').1; simpa [VM.pick] using this
    rw [pick_get hi hσφ] at hl
    rw [pick_get hj hσφ] at hl'
    have := h.inj _ _ l l' g hl hl' hg hg'
    simp only [nth, List.getD_eq_getElem?_getD, List.getElem?_eq_getElem hi, List.getElem?_eq_getElem hj, Option.getD_some] at this
    rcases Nat.lt_trichotomy i j with hlt | heq | hlt
    · exact absurd this (List.pairwise_iff_getElem.1 hnd i j hi hj hlt)
    · exact heq
    · exact absurd this.symm (List.pairwise_iff_getElem.1 hnd j i hj hi hlt)

section
variable {P : Program} {f : FuncId} {N m : Nat} {T : Tm} {H : List Blk} {r : V} {B : List Blk} {k : List VI}

/-! ### return -/
inductive ResR (P : Program) (T : Tm) (H : List Blk) : ResultVar → V → Prop
  | tmp (t : Tmp) (v : V) (h : get T t = v) : ResR P T H (.tmp t) v
  | one (x : Tmp) (t : TypeId) (b off : Nat) (cells : List V) (d : TypeDesc) (v : V) (hx : get T x = .ptr b off) (hk : H[b]? = some (.box cells)) (hu : P.underlying t = some d) (hd : aggD d = false) (hv : cells[off]? = some v) : ResR P T H (.cell x t) v
  | agg (x : Tmp) (t : TypeId) (b off : Nat) (cells vs : List V) (d : TypeDesc) (z : Value) (sz bytes : Nat) (hx : get T x = .ptr b off) (hk : H[b]? = some (.box cells)) (hu : P.underlying t = some d) (hd : aggD d = true) (hi : TyI P t z sz bytes)
      (hv : (cells.drop off).take sz = vs) (hl : vs.length = sz) : ResR P T H (.cell x t) (.agg vs)
inductive ResRs (P : Program) (T : Tm) (H : List Blk) : List ResultVar → List V → Prop
  | nil : ResRs P T H [] []
  | cons (x : ResultVar) (v : V) (xs : List ResultVar) (vs : List V) (h : ResR P T H x v) (h' : ResRs P T H xs vs) : ResRs P T H (x :: xs) (v :: vs)

def resF (tmps : Array Value) : ResultVar → Sem Value
  | .tmp t => pure (tmps.getD t undef)
  | .cell x t => do loadVar t (← asAddr (tmps.getD x undef))
theorem results_eq (fn : Func) (tmps : Array Value) : results fn tmps = (do let vs ← fn.results.mapM (resF tmps); pure (if h : vs.size = 1 then vs[0] else .tuple vs)) := rfl

theorem ResR.run {φ : List Plc} {I : Nat → Prop} {w : World} {a : Act} (hR : Rel H φ I w) (hT : TR φ I w T a) {x : ResultVar} {v : V} (h : ResR P T H x v) :
    ∃ c, (resF a.tmps x).run P w = .ok c w ∧ VR φ I w v c := by
  cases h with
  | tmp t v h => exact ⟨_, rfl, h ▸ hT t⟩
  | one x t b off cells d v hx hk hu hd hv =>
    obtain ⟨g, arr, e, hc, hb, hg, hn, ho, hcs, hI⟩ := VR.ptr_box hR hk (hx ▸ hT x)
    have hlt : off < arr.size := by rw [hn]; exact (List.getElem?_eq_some_iff.1 hv).1
    refine ⟨arr[off], ?_, hcs off v _ hv (Array.getElem?_eq_getElem hlt)⟩
    have := run_loadAt_one (P := P) (w := w) (a := ⟨g, off, none⟩) (c := arr[off]) hu hd (by rw [cell_of hg]; exact Array.getElem?_eq_getElem hlt)
    simp only [Instr.loadAt, Instr.sureAddr, Sem.run_bind, Sem.run_pure, Result.andThen_ok] at this
    simp only [resF, hc, asAddr, Sem.run_bind, Sem.run_pure, Result.andThen_ok, this]
  | agg x t b off cells vs d z sz bytes hx hk hu hd hi hv hl =>
    obtain ⟨g, arr, e, hc, hb, hg, hn, ho, hcs, hI⟩ := VR.ptr_box hR hk (hx ▸ hT x)
    have hfit : off + sz ≤ cells.length ∨ sz = 0 := by subst hv; simp at hl; omega
    have hl2 : ((arr.toList.drop off).take sz).length = sz := by simp; omega
    have := run_loadAt_agg (P := P) (w := w) (a := ⟨g, off, none⟩) (cs := (arr.toList.drop off).take sz) hu hd hi hl2 fun j v hj => by
      rw [add_none, cell_of hg]
      have hjs : j < sz := by have := (List.getElem?_eq_some_iff.1 hj).1; omega
      rw [List.getElem?_take_of_lt hjs] at hj
      simpa using hj
    simp only [Instr.loadAt, Instr.sureAddr, Sem.run_bind, Sem.run_pure, Result.andThen_ok] at this
    refine ⟨.agg ((arr.toList.drop off).take sz).toArray, by simp only [resF, hc, asAddr, Sem.run_bind, Sem.run_pure, Result.andThen_ok, this], .agg _ _ (by simp; omega) fun i v c h1 h2 => ?_⟩
    subst hv
    have his : i < sz := by have := (List.getElem?_eq_some_iff.1 h1).1; omega
    simp only [List.getElem?_toArray] at h2
    rw [List.getElem?_take_of_lt his] at h1 h2
    simp only [List.getElem?_drop, Array.getElem?_toList] at h1 h2
    exact hcs _ _ _ h1 h2

theorem ResRs.run {φ : List Plc} {I : Nat → Prop} {w : World} {a : Act} (hR : Rel H φ I w) (hT : TR φ I w T a) {xs : List ResultVar} {vs : List V} (h : ResRs P T H xs vs) :
    ∃ cs : List Value, (xs.mapM (resF a.tmps)).run P w = .ok cs w ∧ cs.length = vs.length ∧
      ∀ (i : Nat) (v : V) (c : Value), vs[i]? = some v → cs[i]? = some c → VR φ I w v c := by
  induction h with
  | nil => exact ⟨[], rfl, rfl, by simp⟩
  | cons x v xs vs h h' ih =>
    obtain ⟨c, h1, h2⟩ := h.run hR hT
    obtain ⟨cs, h3, h4, h5⟩ := ih
    refine ⟨c :: cs, ?_, by simp [h4], fun i v' c' hv hc => ?_⟩
    · simp only [List.mapM_cons, Sem.run_bind, h1, Result.andThen_ok, h3, Sem.run_pure]
    · cases i with
      | zero => simp at hv hc; subst hv hc; exact h2
      | succ i => simp at hv hc; exact h5 i v' c' hv hc

def resV : List V → V
  | [v] => v
  | vs => .tuple vs

theorem gRet {fn : Func} {rs : List ResultVar} {vs : List V} {σ : List Nat} (hf : P.funcs[f]? = some fn) (hrs : fn.results.toList = rs) (hres : ResRs P T H rs vs) (hr : mapV (nth σ) r = resV vs) (hrc : closedV σ.length r = true)
    (hσm : σ.take m = List.range m) (hσ : σ.all (fun b => Nat.blt b H.length) = true) (hnd : σ.Nodup) (hB : σ.map (fun b => H[b]?) = B.map (fun k => some (mapB (nth σ) k))) (hcl : B.all (closedB σ.length) = true) :
    Goes P f N m (.code .ret :: k) T H r B := fun φ I w a b cs hR hT hd hsz hk hff hkd => by
  have hσ' : ∀ b ∈ σ, b < H.length := fun b hb => Nat.le_of_ble_eq_true (List.all_eq_true.1 hσ b hb)
  have hσφ : ∀ b ∈ σ, b < φ.length := by rw [hR.len]; exact hσ'
  have hRB := hR.pick hσ' hnd hB (List.all_eq_true.1 hcl)
  obtain ⟨cl, h1, h2, h3⟩ := hres.run hR hT
  have hrun : (results fn a.tmps).run P w = .ok (if h : cl.toArray.size = 1 then cl.toArray[0] else .tuple cl.toArray) w := by
    rw [results_eq, Array.mapM_eq_mapM_toList, hrs]
    simp only [Sem.run_bind, Sem.run_map, h1, Result.andThen_ok, Sem.run_pure]
  have hvr : VR φ I w (resV vs) (if h : cl.toArray.size = 1 then cl.toArray[0] else .tuple cl.toArray) := by
    by_cases h1' : vs.length = 1
    · obtain ⟨v, rfl⟩ : ∃ v, vs = [v] := by cases vs with | nil => cases h1' | cons v vs => cases vs with | nil => exact ⟨v, rfl⟩ | cons => simp at h1'
      obtain ⟨c, rfl⟩ : ∃ c, cl = [c] := by cases cl with | nil => cases h2 | cons c cl => cases cl with | nil => exact ⟨c, rfl⟩ | cons => simp at h2
      simp only [resV, List.size_toArray, List.length_cons, List.length_nil, Nat.zero_add, dite_true]
      exact h3 0 v c rfl rfl
    · have hne : ¬ cl.toArray.size = 1 := by simp; omega
      rw [dif_neg hne]
      have : resV vs = .tuple vs := by
        match vs, h1' with
        | [], _ => rfl
        | [v], h => exact absurd rfl h
        | v :: u :: vs, _ => rfl
      rw [this]
      exact .tuple _ _ (by simp [h2]) fun i v c hv hc => h3 i v c hv (by simpa using hc)
  refine ⟨pick σ φ, I, w, _, { b.at a (.code .ret :: k.map VI.item) with mode := .returning }, .one step_ret, hff, ⟨rfl, hd, hkd, fn, by rw [← hf, ← hff]; rfl, hrun⟩, ?_, hRB, ?_⟩
  · refine ⟨rfl, rfl, rfl, Nat.le_refl _, fun _ _ _ => rfl, fun _ _ => rfl, fun _ h => h, fun b hb l hl => ?_, fun b l g hb hg => ?_, fun _ h => .inl h⟩
    · have hbt : σ[b]? = some b := by
        have : (σ.take m)[b]? = some b := by rw [hσm]; simp [hb]
        rw [List.getElem?_take_of_lt hb] at this
        exact this
      have hbl := (List.getElem?_eq_some_iff.1 hbt).1
      refine ⟨l, ?_, .refl l⟩
      rw [pick_get hbl hσφ]
      simp only [nth, List.getD_eq_getElem?_getD, hbt, Option.getD_some]
      exact hl
    · have hbl : b < σ.length := by have := (List.getElem?_eq_some_iff.1 hb).1; simpa [VM.pick] using this
      rw [pick_get hbl hσφ] at hb
      exact .inr ⟨_, l, hb, hg⟩
  · exact mapV_back (n := σ.length) (fun b hb => (pick_get hb hσφ).symm) r _ hrc (by rw [hr]; exact hvr)

/-! ### what a call does -/
def Runs (P : Program) (f : FuncId) (args : List V) (B : List Blk) (r : V) (B' : List Blk) : Prop :=
  ∀ (φ : List Plc) (I : Nat → Prop) (w : World) (cargs : Array Value), Rel B φ I w → cargs.size = args.length → (∀ (i : Nat) (v : V) (c : Value), args[i]? = some v → cargs[i]? = some c → VR φ I w v c) →
    Calls P f cargs w fun e w' => ∃ φ' I' c, e = .returned c ∧ TurnM B.length φ I w φ' I' w' ∧ Rel B' φ' I' w' ∧ VR φ' I' w' r c

def argsT (args : List V) : Tm := args.zipIdx.map fun p => (p.2, p.1)
theorem argsT_get : ∀ (args : List V) (k t : Nat), get ((args.zipIdx k).map fun p => (p.2, p.1)) t = if k ≤ t ∧ t < k + args.length then args.getD (t - k) .undef else .undef
  | [], k, t => by simp [get]
  | v :: args, k, t => by
    simp only [List.zipIdx_cons, List.map_cons, get]
    rw [argsT_get args (k + 1) t]
    cases hb : Nat.beq t k with
    | true =>
      have := Nat.eq_of_beq_eq_true hb
      subst this
      simp
    | false =>
      have hne : t ≠ k := fun e => by subst e; simp at hb
      simp only [cond_false, List.length_cons]
      by_cases h : k + 1 ≤ t ∧ t < k + 1 + args.length
      · rw [if_pos h, if_pos (by omega), show t - k = (t - (k + 1)) + 1 by omega]
        simp
      · rw [if_neg h, if_neg (by omega)]

theorem Runs.of_goes {fn : Func} {c : Code} {args : List V} (hf : P.funcs[f]? = some fn) (hc : fn.body = some c) (hN : fn.ntmps = N) (hl : args.length ≤ N) {T : Tm} (hT : argsT args = T) (hm : B.length = m) {B' : List Blk}
    (h : Goes P f N m [.code c] T B r B') : Runs P f args B r B' := fun φ I w cargs hR hsz hall cs => by
  subst hT
  let b : Frame := { (default : Frame) with fn := f, kind := .normal }
  have henter : Frame.enter P f cargs .normal = b.at { tmps := cargs ++ Array.replicate (fn.ntmps - cargs.size) undef, defers := [] } [.code c] := by
    simp [Frame.enter, Frame.at, hf, hc, b]
  have hTR : TR φ I w (argsT args) { tmps := cargs ++ Array.replicate (fn.ntmps - cargs.size) undef, defers := [] } := fun t => by
    unfold argsT
    rw [argsT_get args 0 t]
    by_cases ht : 0 ≤ t ∧ t < 0 + args.length
    · rw [if_pos ht]
      have ht' : t < args.length := by omega
      have htc : t < cargs.size := by omega
      rw [Array.getD_eq_getD_getElem?, Array.getElem?_append_left htc, Array.getElem?_eq_getElem htc]
      simp only [Nat.sub_zero, List.getD_eq_getElem?_getD, List.getElem?_eq_getElem ht', Option.getD_some]
      exact hall t _ _ (List.getElem?_eq_getElem ht') (Array.getElem?_eq_getElem htc)
    · rw [if_neg ht]
      exact .undef _
  obtain ⟨φ', I', w', c', fr, hs, h1, h2, h3, h4, h5⟩ := h φ I w { tmps := cargs ++ Array.replicate (fn.ntmps - cargs.size) undef, defers := [] } b cs hR hTR rfl (by simp; omega) (by simp [VI.ok]) rfl rfl
  refine ⟨.returned c', w', fr, ⟨φ', I', c', rfl, by rw [hm]; exact h3, h4, h5⟩, ?_, h1, h2⟩
  rw [henter]
  exact hs
end
end Go.VM
