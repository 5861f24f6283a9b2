/- Names of blocks changed; return; calls. -/
import Derived.Test.YtdebnihlkdabpaaEngEM
set_option linter.unusedVariables false
set_option linter.unusedSimpArgs false
namespace Go.VM

/-! ### another name for each block -/
mutual
def mapV (ρ : Nat → Nat) : V → V
  | .ref b L o l => .ref (ρ b) L o l
  | .ptr b o => .ptr (ρ b) o
  | .eptr b L i o => .eptr (ρ b) L i o
  | .fn f caps => .fn f (mapVs ρ caps)
  | .agg cs => .agg (mapVs ρ cs)
  | .tuple vs => .tuple (mapVs ρ vs)
  | v => v
def mapVs (ρ : Nat → Nat) : List V → List V
  | [] => []
  | v :: vs => mapV ρ v :: mapVs ρ vs
end
mutual
def closedV (n : Nat) : V → Bool
  | .ref b _ _ _ => Nat.blt b n
  | .ptr b _ => Nat.blt b n
  | .eptr b _ _ _ => Nat.blt b n
  | .fn _ caps => closedVs n caps
  | .agg cs => closedVs n cs
  | .tuple vs => closedVs n vs
  | _ => true
def closedVs (n : Nat) : List V → Bool
  | [] => true
  | v :: vs => closedV n v && closedVs n vs
end
def mapB (ρ : Nat → Nat) : Blk → Blk
  | .box cells => .box (mapVs ρ cells)
  | b => b
def closedB (n : Nat) : Blk → Bool
  | .box cells => closedVs n cells
  | _ => true

theorem mapVs_map (ρ : Nat → Nat) : ∀ vs : List V, mapVs ρ vs = vs.map (mapV ρ)
  | [] => rfl
  | v :: vs => by simp only [mapVs, List.map_cons, mapVs_map ρ vs]
theorem closedVs_all (n : Nat) : ∀ vs : List V, closedVs n vs = vs.all (closedV n)
  | [] => rfl
  | v :: vs => by simp only [closedVs, List.all_cons, closedVs_all n vs]

theorem mapV_VR {φ φ' : List Plc} {I : Nat → Prop} {w : World} {ρ : Nat → Nat} (hρ : ∀ (b : Nat) (l : Plc), φ[b]? = some l → φ'[ρ b]? = some l) {v : V} {c : Value} (h : VR φ I w v c) : VR φ' I w (mapV ρ v) c := by
  induction h with
  | d x v h => exact .d x v h
  | nilc => exact .nilc
  | ref b L off len g δ esz n cap hb h1 h2 h3 h4 => exact .ref _ L off len g δ esz n cap (hρ _ _ hb) h1 h2 h3 h4
  | refZ b L off g δ esz n a hb h => exact .refZ _ L off g δ esz n a (hρ _ _ hb) h
  | virt b hb => exact .virt _ (hρ _ _ hb)
  | refStale b L off len loc a n c hb hs => exact .refStale _ _ _ _ _ _ _ _ (hρ _ _ hb) hs
  | ptr b off g n hb => exact .ptr _ off g n (hρ _ _ hb)
  | ptrDead b off a hb => exact .ptrDead _ _ _ (hρ _ _ hb)
  | eptr b L i off g δ esz n hb => exact .eptr _ L i off g δ esz n (hρ _ _ hb)
  | eptrStale b L i off loc a hb hs => exact .eptrStale _ _ _ _ _ _ (hρ _ _ hb) hs
  | lptr cells off g o cv hI h1 h2 => exact .lptr cells off g o cv hI h1 h2
  | nilptr => exact .nilptr
  | fn f caps cs hl hc ih =>
    rw [mapV, mapVs_map]
    refine .fn f _ cs (by simpa using hl) fun i v c h1 h2 => ?_
    simp only [List.getElem?_map] at h1
    obtain ⟨v0, h0, rfl⟩ := Option.map_eq_some_iff.1 h1
    exact ih i v0 c h0 h2
  | nilfn => exact .nilfn
  | agg cells cs hl hc ih =>
    rw [mapV, mapVs_map]
    refine .agg _ cs (by simpa using hl) fun i v c h1 h2 => ?_
    simp only [List.getElem?_map] at h1
    obtain ⟨v0, h0, rfl⟩ := Option.map_eq_some_iff.1 h1
    exact ih i v0 c h0 h2
  | tuple vs cs hl hc ih =>
    rw [mapV, mapVs_map]
    refine .tuple _ cs (by simpa using hl) fun i v c h1 h2 => ?_
    simp only [List.getElem?_map] at h1
    obtain ⟨v0, h0, rfl⟩ := Option.map_eq_some_iff.1 h1
    exact ih i v0 c h0 h2
  | undef v => exact .undef v

/-- The way back: a value all of whose blocks have a name here. -/
theorem mapV_back {φ φ' : List Plc} {I : Nat → Prop} {w : World} {ρ : Nat → Nat} {n : Nat} (hρ : ∀ (b : Nat), b < n → φ'[ρ b]? = φ[b]?) : ∀ (v : V) (c : Value), closedV n v = true → VR φ' I w (mapV ρ v) c → VR φ I w v c := by
  have key : ∀ (u : V) (c : Value), VR φ' I w u c → ∀ v : V, mapV ρ v = u → closedV n v = true → VR φ I w v c := by
    intro u c h
    induction h with
    | d x v h =>
      intro v hv hc
      cases v <;> simp [mapV] at hv
      subst hv; exact .d _ _ h
    | nilc => intro v hv hc; cases v <;> simp [mapV] at hv; exact .nilc
    | ref b L off len g δ esz nn cap hb h1 h2 h3 h4 =>
      intro v hv hc
      cases v <;> simp [mapV] at hv
      obtain ⟨rfl, rfl, rfl, rfl⟩ := hv
      exact .ref _ _ _ _ g δ esz nn cap (by rw [← hρ _ (Nat.le_of_ble_eq_true hc)]; exact hb) h1 h2 h3 h4
    | refZ b L off g δ esz nn a hb h =>
      intro v hv hc
      cases v <;> simp [mapV] at hv
      obtain ⟨rfl, rfl, rfl, rfl⟩ := hv
      exact .refZ _ _ _ g δ esz nn a (by rw [← hρ _ (Nat.le_of_ble_eq_true hc)]; exact hb) h
    | virt b hb =>
      intro v hv hc
      cases v <;> simp [mapV] at hv
      obtain ⟨rfl, rfl, rfl, rfl⟩ := hv
      exact .virt _ (by rw [← hρ _ (Nat.le_of_ble_eq_true hc)]; exact hb)
    | refStale b L off len loc a nn cc hb hs =>
      intro v hv hc
      cases v <;> simp [mapV] at hv
      obtain ⟨rfl, rfl, rfl, rfl⟩ := hv
      exact .refStale _ _ _ _ _ _ _ _ (by rw [← hρ _ (Nat.le_of_ble_eq_true hc)]; exact hb) hs
    | ptr b off g nn hb =>
      intro v hv hc
      cases v <;> simp [mapV] at hv
      obtain ⟨rfl, rfl⟩ := hv
      exact .ptr _ _ g nn (by rw [← hρ _ (Nat.le_of_ble_eq_true hc)]; exact hb)
    | ptrDead b off a hb =>
      intro v hv hc
      cases v <;> simp [mapV] at hv
      obtain ⟨rfl, rfl⟩ := hv
      exact .ptrDead _ _ _ (by rw [← hρ _ (Nat.le_of_ble_eq_true hc)]; exact hb)
    | eptr b L i off g δ esz nn hb =>
      intro v hv hc
      cases v <;> simp [mapV] at hv
      obtain ⟨rfl, rfl, rfl, rfl⟩ := hv
      exact .eptr _ _ _ _ g δ esz nn (by rw [← hρ _ (Nat.le_of_ble_eq_true hc)]; exact hb)
    | eptrStale b L i off loc a hb hs =>
      intro v hv hc
      cases v <;> simp [mapV] at hv
      obtain ⟨rfl, rfl, rfl, rfl⟩ := hv
      exact .eptrStale _ _ _ _ _ _ (by rw [← hρ _ (Nat.le_of_ble_eq_true hc)]; exact hb) hs
    | lptr cells off g o cv hI h1 h2 =>
      intro v hv hc
      cases v <;> simp [mapV] at hv
      obtain ⟨rfl, rfl⟩ := hv
      exact .lptr _ _ g o cv hI h1 h2
    | nilptr => intro v hv hc; cases v <;> simp [mapV] at hv; exact .nilptr
    | fn f caps cs hl hcc ih =>
      intro v hv hc
      cases v <;> simp [mapV] at hv
      rename_i f' caps'
      obtain ⟨rfl, hv⟩ := hv
      rw [mapVs_map] at hv
      rw [closedV, closedVs_all] at hc
      subst hv
      refine .fn _ _ cs (by simpa using hl) fun i v c h1 h2 => ih i (mapV ρ v) c (by simp [h1]) h2 v rfl (List.all_eq_true.1 hc v (List.mem_of_getElem? h1))
    | nilfn => intro v hv hc; cases v <;> simp [mapV] at hv; exact .nilfn
    | agg cells cs hl hcc ih =>
      intro v hv hc
      cases v <;> simp [mapV] at hv
      rename_i caps'
      rw [mapVs_map] at hv
      rw [closedV, closedVs_all] at hc
      subst hv
      refine .agg _ cs (by simpa using hl) fun i v c h1 h2 => ih i (mapV ρ v) c (by simp [h1]) h2 v rfl (List.all_eq_true.1 hc v (List.mem_of_getElem? h1))
    | tuple vs cs hl hcc ih =>
      intro v hv hc
      cases v <;> simp [mapV] at hv
      rename_i caps'
      rw [mapVs_map] at hv
      rw [closedV, closedVs_all] at hc
      subst hv
      refine .tuple _ cs (by simpa using hl) fun i v c h1 h2 => ih i (mapV ρ v) c (by simp [h1]) h2 v rfl (List.all_eq_true.1 hc v (List.mem_of_getElem? h1))
    | undef vv =>
      intro v hv hc
      cases v <;> simp [mapV] at hv
      exact .undef _
  exact fun v c hc h => key _ c h v rfl hc

/-- The places of some blocks. -/
def pick (σ : List Nat) (φ : List Plc) : List Plc := σ.map fun b => φ.getD b .dead
def nth (σ : List Nat) (i : Nat) : Nat := σ.getD i 0

theorem pick_get {σ : List Nat} {φ : List Plc} {i : Nat} (hi : i < σ.length) (hσ : ∀ b ∈ σ, b < φ.length) : (pick σ φ)[i]? = φ[nth σ i]? := by
  have hb := hσ σ[i] (List.getElem_mem hi)
  simp [pick, nth, hi, hb]

theorem mapV_one (ρ : Nat → Nat) (v : V) : (mapV ρ v).one = v.one := by cases v <;> rfl

/-- A part of the blocks, each under another name. -/
theorem Rel.pick {H : List Blk} {φ : List Plc} {I : Nat → Prop} {w : World} (h : Rel H φ I w) {σ : List Nat} {B : List Blk} (hσ : ∀ b ∈ σ, b < H.length) (hnd : σ.Nodup) (hB : σ.map (fun b => H[b]?) = B.map (fun k => some (mapB (nth σ) k)))
    (hcl : ∀ k ∈ B, closedB σ.length k = true) : Rel B (pick σ φ) I w := by
  have hlen : B.length = σ.length := by have := congrArg List.length hB; simp at this; omega
  have hσφ : ∀ b ∈ σ, b < φ.length := by rw [h.len]; exact hσ
  have hget : ∀ (i : Nat) (k : Blk), B[i]? = some k → H[nth σ i]? = some (mapB (nth σ) k) := fun i k hk => by
    have hi : i < σ.length := by rw [← hlen]; exact (List.getElem?_eq_some_iff.1 hk).1
    have h1 : (σ.map (fun b => H[b]?))[i]? = some (some (mapB (nth σ) k)) := by rw [hB]; simp [hk]
    simp only [List.getElem?_map, List.getElem?_eq_getElem hi, Option.map_some, Option.some.injEq] at h1
    simpa [nth, hi] using h1
  refine ⟨by simp [VM.pick, hlen], fun i k l hk hl => ?_, fun i j l l' g hl hl' hg hg' => ?_, h.imm⟩
  · have hi : i < σ.length := by rw [← hlen]; exact (List.getElem?_eq_some_iff.1 hk).1
    rw [pick_get hi hσφ] at hl
    have hbr := h.blk _ _ _ (hget i k hk) hl
    have hclk := hcl k (List.mem_of_getElem? hk)
    have hback : ∀ (v : V) (c : Value), closedV σ.length v = true → VR φ I w (mapV (nth σ) v) c → VR (VM.pick σ φ) I w v c := mapV_back fun b hb => (pick_get hb hσφ).symm
    cases k with
    | dead => simp only [mapB] at hbr; cases hbr; exact .dead _ (by assumption)
    | sl esz xs fro =>
      simp only [mapB] at hbr
      cases hbr with
      | virt => exact .virt _ _
      | sl _ _ _ g δ arr e hg hn hlen hc hz hI => exact .sl esz xs fro g δ arr e hg hn hlen hc hz hI
    | deep isz xss =>
      simp only [mapB] at hbr
      cases hbr with
      | deepVirt => exact .deepVirt _
      | deep _ _ vs g δ n gs hb hp hng => exact .deep isz xss vs g δ n gs hb hp hng
    | box cells =>
      simp only [mapB, mapVs_map] at hbr
      simp only [closedB, closedVs_all] at hclk
      generalize hcm : cells.map (mapV (nth σ)) = cells' at hbr
      cases hbr with
      | box _ g arr e hg hn ho hc hI =>
        subst hcm
        have := BR.box (φ := VM.pick σ φ) (I := I) (w := w) cells g arr e hg (by simpa using hn) (fun j v hv => by
          have := ho j (mapV (nth σ) v) (by simp [hv])
          rwa [mapV_one] at this) (fun j v c hv hcj => hback v c (List.all_eq_true.1 hclk v (List.mem_of_getElem? hv)) (hc j _ c (by simp [hv]) hcj)) hI
        simpa using this
  · have hi : i < σ.length := by have := (List.getElem?_eq_some_iff.1 hl).1; simpa [VM.pick] using this
    have hj : j < σ.length := by have := (List.getElem?_eq_some_iff.1 hl').1; simpa [VM.pick] using this
    rw [pick_get hi hσφ] at hl
    rw [pick_get hj hσφ] at hl'
    have := h.inj _ _ l l' g hl hl' hg hg'
    simp only [nth, List.getD_eq_getElem?_getD, List.getElem?_eq_getElem hi, List.getElem?_eq_getElem hj, Option.getD_some] at this
    rcases Nat.lt_trichotomy i j with hlt | heq | hlt
    · exact absurd this (List.pairwise_iff_getElem.1 hnd i j hi hj hlt)
    · exact heq
    · exact absurd this.symm (List.pairwise_iff_getElem.1 hnd j i hj hi hlt)

section
variable {P : Program} {f : FuncId} {N m : Nat} {T : Tm} {H : List Blk} {r : V} {B : List Blk} {k : List VI}

/-! ### return -/
inductive ResR (P : Program) (T : Tm) (H : List Blk) : ResultVar → V → Prop
  | tmp (t : Tmp) (v : V) (h : get T t = v) : ResR P T H (.tmp t) v
  | one (x : Tmp) (t : TypeId) (b off : Nat) (cells : List V) (d : TypeDesc) (v : V) (hx : get T x = .ptr b off) (hk : H[b]? = some (.box cells)) (hu : P.underlying t = some d) (hd : aggD d = false) (hv : cells[off]? = some v) : ResR P T H (.cell x t) v
  | agg (x : Tmp) (t : TypeId) (b off : Nat) (cells vs : List V) (d : TypeDesc) (z : Value) (sz bytes : Nat) (hx : get T x = .ptr b off) (hk : H[b]? = some (.box cells)) (hu : P.underlying t = some d) (hd : aggD d = true) (hi : TyI P t z sz bytes)
      (hv : (cells.drop off).take sz = vs) (hl : vs.length = sz) : ResR P T H (.cell x t) (.agg vs)
inductive ResRs (P : Program) (T : Tm) (H : List Blk) : List ResultVar → List V → Prop
  | nil : ResRs P T H [] []
  | cons (x : ResultVar) (v : V) (xs : List ResultVar) (vs : List V) (h : ResR P T H x v) (h' : ResRs P T H xs vs) : ResRs P T H (x :: xs) (v :: vs)

def resF (tmps : Array Value) : ResultVar → Sem Value
  | .tmp t => pure (tmps.getD t undef)
  | .cell x t => do loadVar t (← asAddr (tmps.getD x undef))
theorem results_eq (fn : Func) (tmps : Array Value) : results fn tmps = (do let vs ← fn.results.mapM (resF tmps); pure (if h : vs.size = 1 then vs[0] else .tuple vs)) := rfl

theorem ResR.run {φ : List Plc} {I : Nat → Prop} {w : World} {a : Act} (hR : Rel H φ I w) (hT : TR φ I w T a) {x : ResultVar} {v : V} (h : ResR P T H x v) :
    ∃ c, (resF a.tmps x).run P w = .ok c w ∧ VR φ I w v c := by
  cases h with
  | tmp t v h => exact ⟨_, rfl, h ▸ hT t⟩
  | one x t b off cells d v hx hk hu hd hv =>
    obtain ⟨g, arr, e, hc, hb, hg, hn, ho, hcs, hI⟩ := VR.ptr_box hR hk (hx ▸ hT x)
    have hlt : off < arr.size := by rw [hn]; exact (List.getElem?_eq_some_iff.1 hv).1
    refine ⟨arr[off], ?_, hcs off v _ hv (Array.getElem?_eq_getElem hlt)⟩
    have := run_loadAt_one (P := P) (w := w) (a := ⟨g, off, none⟩) (c := arr[off]) hu hd (by rw [cell_of hg]; exact Array.getElem?_eq_getElem hlt)
    simp only [Instr.loadAt, Instr.sureAddr, Sem.run_bind, Sem.run_pure, Result.andThen_ok] at this
    simp only [resF, hc, asAddr, Sem.run_bind, Sem.run_pure, Result.andThen_ok, this]
  | agg x t b off cells vs d z sz bytes hx hk hu hd hi hv hl =>
    obtain ⟨g, arr, e, hc, hb, hg, hn, ho, hcs, hI⟩ := VR.ptr_box hR hk (hx ▸ hT x)
    have hfit : off + sz ≤ cells.length ∨ sz = 0 := by subst hv; simp at hl; omega
    have hl2 : ((arr.toList.drop off).take sz).length = sz := by simp; omega
    have := run_loadAt_agg (P := P) (w := w) (a := ⟨g, off, none⟩) (cs := (arr.toList.drop off).take sz) hu hd hi hl2 fun j v hj => by
      rw [add_none, cell_of hg]
      have hjs : j < sz := by have := (List.getElem?_eq_some_iff.1 hj).1; omega
      rw [List.getElem?_take_of_lt hjs] at hj
      simpa using hj
    simp only [Instr.loadAt, Instr.sureAddr, Sem.run_bind, Sem.run_pure, Result.andThen_ok] at this
    refine ⟨.agg ((arr.toList.drop off).take sz).toArray, by simp only [resF, hc, asAddr, Sem.run_bind, Sem.run_pure, Result.andThen_ok, this], .agg _ _ (by simp; omega) fun i v c h1 h2 => ?_⟩
    subst hv
    have his : i < sz := by have := (List.getElem?_eq_some_iff.1 h1).1; omega
    simp only [List.getElem?_toArray] at h2
    rw [List.getElem?_take_of_lt his] at h1 h2
    simp only [List.getElem?_drop, Array.getElem?_toList] at h1 h2
    exact hcs _ _ _ h1 h2

theorem ResRs.run {φ : List Plc} {I : Nat → Prop} {w : World} {a : Act} (hR : Rel H φ I w) (hT : TR φ I w T a) {xs : List ResultVar} {vs : List V} (h : ResRs P T H xs vs) :
    ∃ cs : List Value, (xs.mapM (resF a.tmps)).run P w = .ok cs w ∧ cs.length = vs.length ∧
      ∀ (i : Nat) (v : V) (c : Value), vs[i]? = some v → cs[i]? = some c → VR φ I w v c := by
  induction h with
  | nil => exact ⟨[], rfl, rfl, by simp⟩
  | cons x v xs vs h h' ih =>
    obtain ⟨c, h1, h2⟩ := h.run hR hT
    obtain ⟨cs, h3, h4, h5⟩ := ih
    refine ⟨c :: cs, ?_, by simp [h4], fun i v' c' hv hc => ?_⟩
    · simp only [List.mapM_cons, Sem.run_bind, h1, Result.andThen_ok, h3, Sem.run_pure]
    · cases i with
      | zero => simp at hv hc; subst hv hc; exact h2
      | succ i => simp at hv hc; exact h5 i v' c' hv hc

def resV : List V → V
  | [v] => v
  | vs => .tuple vs

theorem gRet {fn : Func} {rs : List ResultVar} {vs : List V} {σ : List Nat} (hf : P.funcs[f]? = some fn) (hrs : fn.results.toList = rs) (hres : ResRs P T H rs vs) (hr : mapV (nth σ) r = resV vs) (hrc : closedV σ.length r = true)
    (hσm : σ.take m = List.range m) (hσ : σ.all (fun b => Nat.blt b H.length) = true) (hnd : σ.Nodup) (hB : σ.map (fun b => H[b]?) = B.map (fun k => some (mapB (nth σ) k))) (hcl : B.all (closedB σ.length) = true) :
    Goes P f N m (.code .ret :: k) T H r B := fun φ I w a b cs hR hT hd hsz hk hff hkd => by
  have hσ' : ∀ b ∈ σ, b < H.length := fun b hb => Nat.le_of_ble_eq_true (List.all_eq_true.1 hσ b hb)
  have hσφ : ∀ b ∈ σ, b < φ.length := by rw [hR.len]; exact hσ'
  have hRB := hR.pick hσ' hnd hB (List.all_eq_true.1 hcl)
  obtain ⟨cl, h1, h2, h3⟩ := hres.run hR hT
  have hrun : (results fn a.tmps).run P w = .ok (if h : cl.toArray.size = 1 then cl.toArray[0] else .tuple cl.toArray) w := by
    rw [results_eq, Array.mapM_eq_mapM_toList, hrs]
    simp only [Sem.run_bind, Sem.run_map, h1, Result.andThen_ok, Sem.run_pure]
  have hvr : VR φ I w (resV vs) (if h : cl.toArray.size = 1 then cl.toArray[0] else .tuple cl.toArray) := by
    by_cases h1' : vs.length = 1
    · obtain ⟨v, rfl⟩ : ∃ v, vs = [v] := by cases vs with | nil => cases h1' | cons v vs => cases vs with | nil => exact ⟨v, rfl⟩ | cons => simp at h1'
      obtain ⟨c, rfl⟩ : ∃ c, cl = [c] := by cases cl with | nil => cases h2 | cons c cl => cases cl with | nil => exact ⟨c, rfl⟩ | cons => simp at h2
      simp only [resV, List.size_toArray, List.length_cons, List.length_nil, Nat.zero_add, dite_true]
      exact h3 0 v c rfl rfl
    · have hne : ¬ cl.toArray.size = 1 := by simp; omega
      rw [dif_neg hne]
      have : resV vs = .tuple vs := by
        match vs, h1' with
        | [], _ => rfl
        | [v], h => exact absurd rfl h
        | v :: u :: vs, _ => rfl
      rw [this]
      exact .tuple _ _ (by simp [h2]) fun i v c hv hc => h3 i v c hv (by simpa using hc)
  refine ⟨pick σ φ, I, w, _, { b.at a (.code .ret :: k.map VI.item) with mode := .returning }, .one step_ret, hff, ⟨rfl, hd, hkd, fn, by rw [← hf, ← hff]; rfl, hrun⟩, ?_, hRB, ?_⟩
  · refine ⟨rfl, rfl, rfl, Nat.le_refl _, Nat.le_refl _, fun _ _ _ => rfl, fun _ _ => rfl, fun _ h => h, fun b hb l hl => ?_, fun b l g hb hg => ?_, fun _ h => .inl h⟩
    · have hbt : σ[b]? = some b := by
        have : (σ.take m)[b]? = some b := by rw [hσm]; simp [hb]
        rw [List.getElem?_take_of_lt hb] at this
        exact this
      have hbl := (List.getElem?_eq_some_iff.1 hbt).1
      refine ⟨l, ?_, .refl l⟩
      rw [pick_get hbl hσφ]
      simp only [nth, List.getD_eq_getElem?_getD, hbt, Option.getD_some]
      exact hl
    · have hbl : b < σ.length := by have := (List.getElem?_eq_some_iff.1 hb).1; simpa [VM.pick] using this
      rw [pick_get hbl hσφ] at hb
      exact .inr ⟨_, l, hb, hg⟩
  · exact mapV_back (n := σ.length) (fun b hb => (pick_get hb hσφ).symm) r _ hrc (by rw [hr]; exact hvr)

/-! ### what a call does -/
def Runs (P : Program) (f : FuncId) (args : List V) (B : List Blk) (r : V) (B' : List Blk) : Prop :=
  ∀ (φ : List Plc) (I : Nat → Prop) (w : World) (cargs : Array Value), Rel B φ I w → cargs.size = args.length → (∀ (i : Nat) (v : V) (c : Value), args[i]? = some v → cargs[i]? = some c → VR φ I w v c) →
    Calls P f cargs w fun e w' => ∃ φ' I' c, e = .returned c ∧ TurnM B.length φ I w φ' I' w' ∧ Rel B' φ' I' w' ∧ VR φ' I' w' r c

def argsT (args : List V) : Tm := args.zipIdx.map fun p => (p.2, p.1)
theorem argsT_get : ∀ (args : List V) (k t : Nat), get ((args.zipIdx k).map fun p => (p.2, p.1)) t = if k ≤ t ∧ t < k + args.length then args.getD (t - k) .undef else .undef
  | [], k, t => by simp [get]
  | v :: args, k, t => by
    simp only [List.zipIdx_cons, List.map_cons, get]
    rw [argsT_get args (k + 1) t]
    cases hb : Nat.beq t k with
    | true =>
      have := Nat.eq_of_beq_eq_true hb
      subst this
      simp
    | false =>
      have hne : t ≠ k := fun e => by subst e; simp at hb
      simp only [cond_false, List.length_cons]
      by_cases h : k + 1 ≤ t ∧ t < k + 1 + args.length
      · rw [if_pos h, if_pos (by omega), show t - k = (t - (k + 1)) + 1 by omega]
        simp
      · rw [if_neg h, if_neg (by omega)]

theorem Runs.of_goes {fn : Func} {c : Code} {args : List V} (hf : P.funcs[f]? = some fn) (hc : fn.body = some c) (hN : fn.ntmps = N) (hl : args.length ≤ N) {T : Tm} (hT : argsT args = T) (hm : B.length = m) {B' : List Blk}
    (h : Goes P f N m [.code c] T B r B') : Runs P f args B r B' := fun φ I w cargs hR hsz hall cs => by
  subst hT
  let b : Frame := { (default : Frame) with fn := f, kind := .normal }
  have henter : Frame.enter P f cargs .normal = b.at { tmps := cargs ++ Array.replicate (fn.ntmps - cargs.size) undef, defers := [] } [.code c] := by
    simp [Frame.enter, Frame.at, hf, hc, b]
  have hTR : TR φ I w (argsT args) { tmps := cargs ++ Array.replicate (fn.ntmps - cargs.size) undef, defers := [] } := fun t => by
    unfold argsT
    rw [argsT_get args 0 t]
    by_cases ht : 0 ≤ t ∧ t < 0 + args.length
    · rw [if_pos ht]
      have ht' : t < args.length := by omega
      have htc : t < cargs.size := by omega
      rw [Array.getD_eq_getD_getElem?, Array.getElem?_append_left htc, Array.getElem?_eq_getElem htc]
      simp only [Nat.sub_zero, List.getD_eq_getElem?_getD, List.getElem?_eq_getElem ht', Option.getD_some]
      exact hall t _ _ (List.getElem?_eq_getElem ht') (Array.getElem?_eq_getElem htc)
    · rw [if_neg ht]
      exact .undef _
  obtain ⟨φ', I', w', c', fr, hs, h1, h2, h3, h4, h5⟩ := h φ I w { tmps := cargs ++ Array.replicate (fn.ntmps - cargs.size) undef, defers := [] } b cs hR hTR rfl (by simp; omega) (by simp [VI.ok]) rfl rfl
  refine ⟨.returned c', w', fr, ⟨φ', I', c', rfl, by rw [hm]; exact h3, h4, h5⟩, ?_, h1, h2⟩
  rw [henter]
  exact hs
end
end Go.VM
namespace Go.VM

/-! ### a value told in another way -/
mutual
inductive ConvR (H : List Blk) : V → V → Prop
  | same (v : V) : ConvR H v v
  | lit (b L o l esz : Nat) (xs ys : List (List D)) (hk : H[b]? = some (.sl esz xs true)) (hL : xs.length = L) (hle : o + l ≤ L) (hy : (xs.drop o).take l = ys) : ConvR H (.ref b L o l) (.d (.lit ys))
  | nil : ConvR H .nilc (.d (.lit []))
  | agg (cs cs' : List V) (h : ConvRs H cs cs') : ConvR H (.agg cs) (.agg cs')
inductive ConvRs (H : List Blk) : List V → List V → Prop
  | nil : ConvRs H [] []
  | cons (v v' : V) (vs vs' : List V) (h : ConvR H v v') (h' : ConvRs H vs vs') : ConvRs H (v :: vs) (v' :: vs')
end

theorem ConvRs.refl (H : List Blk) : ∀ vs : List V, ConvRs H vs vs
  | [] => .nil
  | v :: vs => .cons v v vs vs (.same v) (ConvRs.refl H vs)

theorem lit_of_ref {H : List Blk} {φ : List Plc} {I : Nat → Prop} {w : World} {b L o l esz : Nat} {xs ys : List (List D)} {c : Value} (hR : Rel H φ I w) (hk : H[b]? = some (.sl esz xs true)) (hL : xs.length = L) (hle : o + l ≤ L) (hy : (xs.drop o).take l = ys)
    (h : VR φ I w (.ref b L o l) c) : VR φ I w (.d (.lit ys)) c := by
  have hyl : ys.length = l := by subst hy; simp; omega
  rcases VR.ref_inv hR hk hL h with ⟨_, rfl, _, _, rfl, rfl⟩ | ⟨rfl, _, a, _, _, _, rfl, _⟩ | ⟨g, δ, arr, ty, cap, rfl, hb, hg, hn, hlen, hcs, hz, hI, g1, g2, g3, g4⟩
  · obtain rfl : ys = [] := List.eq_nil_of_length_eq_zero hyl
    exact .d _ _ (.nil _ _)
  · obtain rfl : ys = [] := List.eq_nil_of_length_eq_zero hyl
    exact .d _ _ (.nil _ _)
  · have hrow : ∀ (i : Nat) (e : List D), ys[i]? = some e → e.length = esz := fun i e he => by
      subst hy
      have hil : i < l := by have := (List.getElem?_eq_some_iff.1 he).1; omega
      rw [List.getElem?_take_of_lt hil, List.getElem?_drop] at he
      exact hlen _ _ he
    have hin : ∀ (i j : Nat) (d : D), get2 ys i j = some d → δ + (o + i) * esz + j < arr.size := fun i j d hd => by
      obtain ⟨h1, h2⟩ := get2_lt hrow hd
      have : (o + i) * esz + esz ≤ L * esz := by rw [← Nat.succ_mul]; exact Nat.mul_le_mul_right _ (by omega)
      omega
    have := DR.lit (I := I) (w := w) ys g (δ + o * esz) esz cap (fun i j => arr.getD (δ + (o + i) * esz + j) undef) (hI.1 rfl) hrow (fun i j d hd => by
      have hlt := hin i j d hd
      rw [show δ + o * esz + i * esz + j = δ + (o + i) * esz + j by rw [Nat.add_mul]; omega, cell_of hg]
      simp [Array.getD, hlt]) (fun i j d hd => by
      have hlt := hin i j d hd
      refine hcs (o + i) j d _ (by subst hy; exact get2_cut hd) ?_
      simp [Array.getD, hlt]) (by omega)
    rw [hyl] at this
    exact .d _ _ this

mutual
theorem ConvR.VR {H : List Blk} {φ : List Plc} {I : Nat → Prop} {w : World} (hR : Rel H φ I w) {v v' : V} (h : ConvR H v v') : ∀ {c : Value}, VR φ I w v c → VR φ I w v' c := by
  cases h with
  | same => exact fun hv => hv
  | lit b L o l esz xs ys hk hL hle hy => exact fun hv => lit_of_ref hR hk hL hle hy hv
  | nil => exact fun hv => by rw [hv.nilc_inv]; exact .d _ _ (.nil _ _)
  | agg cs cs' h =>
    intro c hv
    obtain ⟨arr, rfl, hA⟩ := VR.agg_inv hv
    have hs := ConvRs.VRs hR h
    exact .agg _ _ (by rw [hA.1]; exact hs.1) fun i v c h1 h2 => hs.2 i v h1 fun v0 h0 => hA.2 i v0 c h0 h2
theorem ConvRs.VRs {H : List Blk} {φ : List Plc} {I : Nat → Prop} {w : World} (hR : Rel H φ I w) {vs vs' : List V} (h : ConvRs H vs vs') :
    vs'.length = vs.length ∧ ∀ (i : Nat) (v : V), vs'[i]? = some v → ∀ {c : Value}, (∀ v0 : V, vs[i]? = some v0 → VR φ I w v0 c) → VR φ I w v c := by
  cases h with
  | nil => exact ⟨rfl, by simp⟩
  | cons v v' vs vs' h h' =>
    obtain ⟨h1, h2⟩ := ConvRs.VRs hR h'
    refine ⟨by simp [h1], fun i u hu c hc => ?_⟩
    cases i with
    | zero => simp at hu; subst hu; exact ConvR.VR hR h (hc v rfl)
    | succ i => simp at hu; exact h2 i u hu fun v0 hv0 => hc v0 (by simpa using hv0)
end

section
variable {P : Program} {f : FuncId} {N m : Nat} {T : Tm} {H : List Blk} {r : V} {B : List Blk} {k : List VI}

theorem gConv {todo : List VI} (t : Nat) {v v' : V} (ht : get T t = v) (hc : ConvR H v v') (h : Goes P f N m todo ((t, v') :: T) H r B) : Goes P f N m todo T H r B := by
  refine gGhost (fun φ I w a hR hT => ⟨φ, I, Turn.refl φ I w, hR, fun t' => ?_⟩) h
  simp only [get]
  cases hb : Nat.beq t' t with
  | true =>
    have := Nat.eq_of_beq_eq_true hb
    subst this
    have hv := hT t'
    rw [ht] at hv
    exact hc.VR hR hv
  | false => exact hT t'

theorem ConvR.one {H : List Blk} {v v' : V} (h : ConvR H v v') (hv : v.one = true) : v'.one = true := by
  cases h with
  | agg => cases hv
  | same => exact hv
  | _ => rfl

/-- A block is told anew; the memory stays. -/
theorem Rel.retell {φ : List Plc} {I : Nat → Prop} {w : World} (hR : Rel H φ I w) {b : Nat} {k0 : Blk} {l : Plc} (hb : φ[b]? = some l) (hbr : BR φ I w k0 l) : Rel (H.set b k0) φ I w := by
  have hbH : b < H.length := by rw [← hR.len]; exact (List.getElem?_eq_some_iff.1 hb).1
  refine hR.step b (by simp [hR.len]) (LE.refl φ) (fun _ h => h) (fun _ _ => rfl) (fun b' k' l' hk hl => ?_) (fun b' l' g h1 h2 => .inl ⟨l', h1, h2⟩) hR.imm
  by_cases he : b = b'
  · subst he
    simp [hbH] at hk
    rw [hb] at hl
    cases hl
    subst hk
    exact .inr hbr
  · rw [get_set_ne _ _ _ _ he] at hk
    exact .inl ⟨hk, hl, fun g _ => ⟨rfl, fun h => h⟩⟩

theorem gConvB {todo : List VI} (b : Nat) {cells cells' : List V} (hk : H[b]? = some (.box cells)) (hc : ConvRs H cells cells') (h : Goes P f N m todo T (H.set b (.box cells')) r B) : Goes P f N m todo T H r B := by
  refine gGhost (fun φ I w a hR hT => ?_) h
  have hblt : b < φ.length := by rw [hR.len]; exact (List.getElem?_eq_some_iff.1 hk).1
  have hbl := hR.blk b _ _ hk (List.getElem?_eq_getElem hblt)
  have hφ := List.getElem?_eq_getElem hblt
  generalize φ[b] = l at hbl hφ
  cases hbl with
  | box _ g arr e hg hn ho hcs hI =>
    have hs := hc.VRs hR
    refine ⟨φ, I, Turn.refl φ I w, hR.retell hφ ?_, hT⟩
    have hone : ∀ {cs cs' : List V}, ConvRs H cs cs' → (∀ (j : Nat) (v : V), cs[j]? = some v → v.one = true) → ∀ (j : Nat) (v : V), cs'[j]? = some v → v.one = true := by
      intro cs
      induction cs with
      | nil => intro cs' h _ j v hv; cases h; simp at hv
      | cons c cs ih =>
        intro cs' h ho j v hv
        cases h with
        | cons _ v' _ vs' h h' =>
          cases j with
          | zero => simp at hv; subst hv; exact h.one (ho 0 c rfl)
          | succ j => simp at hv; exact ih h' (fun j v hv => ho (j + 1) v (by simpa using hv)) j v hv
    have hA : ∀ (j : Nat) (v : V) (c : Value), cells'[j]? = some v → arr[j]? = some c → VR φ I w v c := fun j v c hv hcj => hs.2 j v hv fun v0 h0 => hcs j v0 c h0 hcj
    have := BR.box (φ := φ) (I := I) (w := w) cells' g arr e hg (by rw [hn, hs.1]) (hone hc ho) hA hI
    rw [hs.1] at this
    exact this

/-- A nil slice in a box becomes a slice over an empty block. -/
theorem gVirtB {esz : Nat} {todo : List VI} (b off : Nat) {cells : List V} (hk : H[b]? = some (.box cells)) (ho : cells[off]? = some .nilc) (h : Goes P f N m todo T (H.set b (.box (cells.set off (.ref H.length 0 0 0))) ++ [.sl esz [] false]) r B) : Goes P f N m todo T H r B := by
  refine gGhost (fun φ I w a hR hT => ?_) h
  obtain ⟨h1, h2⟩ := hR.virt (esz := esz)
  have hbH : b < H.length := (List.getElem?_eq_some_iff.1 hk).1
  have hblt : b < φ.length := by rw [hR.len]; exact hbH
  have hbl := hR.blk b _ _ hk (List.getElem?_eq_getElem hblt)
  have hφ := List.getElem?_eq_getElem hblt
  generalize φ[b] = l at hbl hφ
  cases hbl with
  | box _ g arr e hg hn hone hcs hI =>
    have hφ' : (φ ++ [Plc.virt])[b]? = some (.box g cells.length) := by rw [List.getElem?_append_left hblt]; exact hφ
    have hoff := (List.getElem?_eq_some_iff.1 ho).1
    refine ⟨φ ++ [.virt], I, h2, ?_, fun t => (hT t).turn h2⟩
    have hset : H.set b (.box (cells.set off (.ref H.length 0 0 0))) ++ [Blk.sl esz [] false] = (H ++ [Blk.sl esz [] false]).set b (.box (cells.set off (.ref H.length 0 0 0))) := by rw [List.set_append_left _ _ hbH]
    rw [hset]
    refine h1.retell hφ' ?_
    have := BR.box (φ := φ ++ [.virt]) (I := I) (w := w) (cells.set off (.ref H.length 0 0 0)) g arr e hg (by simpa using hn) (fun j v hv => by
      by_cases he : off = j
      · subst he; simp [hoff] at hv; subst hv; rfl
      · rw [get_set_ne _ _ _ _ he] at hv; exact hone j v hv) (fun j v c hv hc => by
      by_cases he : off = j
      · subst he
        simp [hoff] at hv
        subst hv
        have := hcs off .nilc c ho hc
        rw [this.nilc_inv]
        exact virt_VR φ I w hR.len
      · rw [get_set_ne _ _ _ _ he] at hv
        exact (hcs j v c hv hc).turn h2) hI
    simpa using this

/-- From now on nobody writes this block. -/
theorem gFreeze {todo : List VI} (b : Nat) {esz : Nat} {xs : List (List D)} (hk : H[b]? = some (.sl esz xs false)) (h : Goes P f N m todo T (H.set b (.sl esz xs true)) r B) : Goes P f N m todo T H r B := by
  refine gGhost (fun φ I w a hR hT => ?_) h
  have hbH : b < H.length := (List.getElem?_eq_some_iff.1 hk).1
  have hblt : b < φ.length := by rw [hR.len]; exact hbH
  have hbl := hR.blk b _ _ hk (List.getElem?_eq_getElem hblt)
  have hφ := List.getElem?_eq_getElem hblt
  generalize φ[b] = l at hbl hφ
  cases hbl with
  | virt => exact ⟨φ, I, Turn.refl φ I w, hR.retell hφ (.virt _ _), hT⟩
  | sl _ _ _ g δ arr e hg hn hlen hc hz hI =>
    have hgs : g < w.heap.size := (Array.getElem?_eq_some_iff.1 hg).1
    have ht : Turn φ I w φ (fun x => I x ∨ x = g) w := ⟨rfl, rfl, rfl, Nat.le_refl _, Nat.le_refl _, fun _ _ _ => rfl, fun _ _ => rfl, fun _ h => .inl h, LE.refl φ, fun b l g hb hg => .inr ⟨b, l, hb, hg⟩, fun x hx => by
      rcases hx with hx | rfl
      · exact .inl hx
      · exact .inr (.inr ⟨b, _, hφ, rfl⟩)⟩
    refine ⟨φ, fun x => I x ∨ x = g, ht, ?_, fun t => (hT t).turn ht⟩
    refine hR.step b (by simp [hR.len]) (LE.refl φ) (fun _ h => .inl h) (fun _ _ => rfl) (fun b' k' l' hk' hl' => ?_) (fun b' l' g h1 h2 => .inl ⟨l', h1, h2⟩) (fun x hx => ?_)
    · by_cases he : b = b'
      · subst he
        simp [hbH] at hk'
        rw [hφ] at hl'
        cases hl'
        subst hk'
        exact .inr (.sl esz xs true g δ arr e hg hn hlen (fun i j d c hd hcj => (hc i j d c hd hcj).mono (fun _ h => .inl h) (fun _ _ => rfl)) hz ⟨fun _ => .inr rfl, fun _ => rfl⟩)
      · rw [get_set_ne _ _ _ _ he] at hk'
        refine .inl ⟨hk', hl', fun g' hg' => ⟨rfl, fun hx => ?_⟩⟩
        rcases hx with hx | rfl
        · exact hx
        · exact absurd (hR.inj b b' _ l' g' hφ hl' rfl hg') he
    · rcases hx with hx | rfl
      · exact hR.imm x hx
      · exact hgs

/-- The view at the head of a loop, or where ways meet: the temporaries that are needed, the blocks that are needed. -/
theorem gHead {todo : List VI} (ks σ : List Nat) {T' : Tm} {H' : List Blk} (hT' : keepT ks T = T'.map fun p => (p.1, mapV (nth σ) p.2)) (hTc : T'.all (fun p => closedV σ.length p.2) = true)
    (hσm : σ.take m = List.range m) (hσ : σ.all (fun b => Nat.blt b H.length) = true) (hnd : σ.Nodup) (hB : σ.map (fun b => H[b]?) = H'.map (fun k => some (mapB (nth σ) k))) (hcl : H'.all (closedB σ.length) = true)
    (h : Goes P f N m todo T' H' r B) : Goes P f N m todo T H r B := fun φ I w a b cs hR hT hd hsz hk hf hkd => by
  have hσ' : ∀ b ∈ σ, b < H.length := fun b hb => Nat.le_of_ble_eq_true (List.all_eq_true.1 hσ b hb)
  have hσφ : ∀ b ∈ σ, b < φ.length := by rw [hR.len]; exact hσ'
  have hRB := hR.pick hσ' hnd hB (List.all_eq_true.1 hcl)
  have hTB : TR (pick σ φ) I w T' a := fun t => by
    have hget : ∀ (U : Tm), (∀ p ∈ U, closedV σ.length p.2 = true) → get (U.map fun p => (p.1, mapV (nth σ) p.2)) t = mapV (nth σ) (get U t) ∧ closedV σ.length (get U t) = true := by
      intro U
      induction U with
      | nil => intro _; exact ⟨rfl, rfl⟩
      | cons p U ih =>
        intro hU
        obtain ⟨h1, h2⟩ := ih fun q hq => hU q (by simp [hq])
        simp only [List.map_cons, get]
        cases Nat.beq t p.1 with
        | true => exact ⟨rfl, hU p (by simp)⟩
        | false => exact ⟨h1, h2⟩
    obtain ⟨h1, h2⟩ := hget T' (List.all_eq_true.1 hTc)
    refine mapV_back (n := σ.length) (fun b hb => (pick_get hb hσφ).symm) _ _ h2 ?_
    rw [← h1, ← hT']
    rcases get_keep ks T t with h | h
    · rw [h]; exact hT t
    · rw [h]; exact .undef _
  obtain ⟨φ', I', w', c', fr, hs, h1, h2, h3, h4⟩ := h (pick σ φ) I w a b cs hRB hTB hd hsz hk hf hkd
  refine ⟨φ', I', w', c', fr, hs, h1, h2, TurnM.trans ?_ h3, h4⟩
  refine ⟨rfl, rfl, rfl, Nat.le_refl _, Nat.le_refl _, fun _ _ _ => rfl, fun _ _ => rfl, fun _ h => h, fun b hb l hl => ?_, fun b l g hb hg => ?_, fun _ h => .inl h⟩
  · have hbt : σ[b]? = some b := by
      have : (σ.take m)[b]? = some b := by rw [hσm]; simp [hb]
      rw [List.getElem?_take_of_lt hb] at this
      exact this
    have hbl := (List.getElem?_eq_some_iff.1 hbt).1
    refine ⟨l, ?_, .refl l⟩
    rw [pick_get hbl hσφ]
    simp only [nth, List.getD_eq_getElem?_getD, hbt, Option.getD_some]
    exact hl
  · have hbl : b < σ.length := by have := (List.getElem?_eq_some_iff.1 hb).1; simpa [VM.pick] using this
    rw [pick_get hbl hσφ] at hb
    exact .inr ⟨_, l, hb, hg⟩

/-! ### a call -/
def putL {α : Type} (σ : List Nat) (xs base : List α) : List α := (σ.zip xs).foldl (fun l p => l.set p.1 p.2) base
def backN (σ : List Nat) (n i : Nat) : Nat := bif Nat.blt i σ.length then nth σ i else n + (i - σ.length)

theorem putL_length {α : Type} : ∀ (σ : List Nat) (xs base : List α), (putL σ xs base).length = base.length
  | [], xs, base => rfl
  | b :: σ, [], base => rfl
  | b :: σ, x :: xs, base => by
    show (putL σ xs (base.set b x)).length = base.length
    rw [putL_length σ xs]
    simp
theorem putL_out {α : Type} : ∀ (σ : List Nat) (xs base : List α) (b : Nat), b ∉ σ → (putL σ xs base)[b]? = base[b]?
  | [], xs, base, b, _ => rfl
  | c :: σ, [], base, b, _ => rfl
  | c :: σ, x :: xs, base, b, h => by
    show (putL σ xs (base.set c x))[b]? = base[b]?
    rw [putL_out σ xs _ b (fun hb => h (List.mem_cons_of_mem _ hb)), get_set_ne _ _ _ _ (fun e => h (by simp [e]))]
theorem putL_in {α : Type} : ∀ (σ : List Nat) (xs base : List α) (i : Nat), σ.Nodup → (∀ b ∈ σ, b < base.length) → i < σ.length → i < xs.length → (putL σ xs base)[nth σ i]? = xs[i]?
  | [], xs, base, i, _, _, hi, _ => by simp at hi
  | c :: σ, [], base, i, _, _, _, hx => by simp at hx
  | c :: σ, x :: xs, base, i, hnd, hlt, hi, hx => by
    show (putL σ xs (base.set c x))[nth (c :: σ) i]? = (x :: xs)[i]?
    have hnd' := List.nodup_cons.1 hnd
    cases i with
    | zero =>
      simp only [nth, List.getD_cons_zero]
      rw [putL_out σ xs _ c hnd'.1]
      have := hlt c (by simp)
      simp [this]
    | succ i =>
      simp only [nth, List.getD_cons_succ]
      exact putL_in σ xs _ i hnd'.2 (fun b hb => by rw [List.length_set]; exact hlt b (by simp [hb])) (by simpa using hi) (by simpa using hx)
end
end Go.VM
namespace Go.VM

theorem step_call {P : Program} {ops : Array Oper} {i : Nat} {rest : List Nat} {o : Oper} {b : Frame} {a : Act} {K : List Item} {cs : List Frame} {w w1 w2 : World} {g : FuncId} {args : Array Value} {v : Value} {fr : Frame} (ho : ops[i]? = some o) (hw : Region.wanted o (yielded ops a.tmps) = true)
    (hr : (execOp a.eval o).run P w = .ok (.enter g args) w1) (hs : Steps P (lone (Frame.enter P g args .normal) (b.at a (.inRegion ops (i :: rest) :: K) :: cs) w1) (lone fr (b.at a (.inRegion ops (i :: rest) :: K) :: cs) w2)) (hl : fr.leaving P w2 (.returned v)) :
    Steps P (lone (b.at a (.inRegion ops (i :: rest) :: K)) cs w) (lone (b.at (a.put o.dst v) (.inRegion ops rest :: K)) cs w2) := by
  have hg := stepG_op (P := P) (b := b) (k := K) (cs := cs) (w := w) (rest := rest) ho hw
  have hfin : (b.at a (.inRegion ops (i :: rest) :: K)).finish v = b.at (a.put o.dst v) (.inRegion ops rest :: K) := by rw [Frame.finish_at, ho]; rfl
  have henter : step P (lone (b.at a (.inRegion ops (i :: rest) :: K)) cs w) = .next (lone (Frame.enter P g args .normal) (b.at a (.inRegion ops (i :: rest) :: K) :: cs) w1) :=
    step_lone_go (by rw [hg]; simp [stepG.apply, hr, Frame.at])
  refine .head henter (hs.trans (.one ?_))
  rw [← hfin]
  exact step_leave_returned hl

section
variable {P : Program} {f : FuncId} {N m : Nat} {T : Tm} {H : List Blk} {r : V} {B : List Blk} {k : List VI}

/-- What a call by value, its blocks handed over by name, does to the caller's view. -/
theorem call_core {φ : List Plc} {I : Nat → Prop} {w : World} {σ : List Nat} {Bc Bc' : List Blk} {φc' : List Plc} {I' : Nat → Prop} {w' : World} (hR : Rel H φ I w) (hσ : ∀ b ∈ σ, b < H.length) (hnd : σ.Nodup) (hBl : Bc.length = σ.length) (hBl' : σ.length ≤ Bc'.length)
    (ht : TurnM Bc.length (pick σ φ) I w φc' I' w') (hR' : Rel Bc' φc' I' w') :
    ∃ φ', LE φ φ' ∧ (∀ m, TurnM m φ I w φ' I' w') ∧ Rel (putL σ (Bc'.map (mapB (backN σ H.length))) H ++ (Bc'.drop σ.length).map (mapB (backN σ H.length))) φ' I' w' ∧
      (∀ (v : V) (c : Value), VR φc' I' w' v c → VR φ' I' w' (mapV (backN σ H.length) v) c) ∧ Keeps φ φ' σ w w' := by
  have hlc : φc'.length = Bc'.length := hR'.len
  have hσφ : ∀ b ∈ σ, b < φ.length := by rw [hR.len]; exact hσ
  let φ' := putL σ φc' φ ++ φc'.drop σ.length
  have hφl : (putL σ φc' φ).length = H.length := by rw [putL_length, hR.len]
  -- where each index of the callee's lies
  have hρ : ∀ (j : Nat) (l : Plc), φc'[j]? = some l → φ'[backN σ H.length j]? = some l := fun j l hl => by
    have hj : j < φc'.length := (List.getElem?_eq_some_iff.1 hl).1
    simp only [φ', backN]
    cases hb : Nat.blt j σ.length with
    | true =>
      have hjs : j < σ.length := Nat.le_of_ble_eq_true hb
      simp only [cond_true]
      have hin := hσφ _ (by simp only [nth, List.getD_eq_getElem?_getD, List.getElem?_eq_getElem hjs, Option.getD_some]; exact List.getElem_mem hjs : nth σ j ∈ σ)
      rw [List.getElem?_append_left (by rw [putL_length]; exact hin), putL_in σ φc' φ j hnd hσφ hjs hj]
      exact hl
    | false =>
      have hjs : σ.length ≤ j := by
        rcases Nat.lt_or_ge j σ.length with h | h
        · have : Nat.blt j σ.length = true := Nat.ble_eq_true_of_le h
          rw [this] at hb; cases hb
        · exact h
      simp only [cond_false]
      rw [List.getElem?_append_right (by rw [hφl]; omega), hφl, List.getElem?_drop, show σ.length + (H.length + (j - σ.length) - H.length) = j by omega]
      exact hl
  -- each index of the caller's is an old one that wasn't handed over, or one of the callee's
  have hcase : ∀ (b : Nat) (l : Plc), φ'[b]? = some l → (b ∉ σ ∧ b < H.length ∧ φ[b]? = some l) ∨ ∃ j, b = backN σ H.length j ∧ φc'[j]? = some l := fun b l hl => by
    rcases Nat.lt_or_ge b H.length with hlt | hge
    · simp only [φ'] at hl
      rw [List.getElem?_append_left (by rw [hφl]; exact hlt)] at hl
      by_cases hb : b ∈ σ
      · obtain ⟨j, hj, hjb⟩ := List.getElem_of_mem hb
        have hn : nth σ j = b := by simp [nth, hj, hjb]
        rw [← hn, putL_in σ φc' φ j hnd hσφ hj (by omega)] at hl
        refine .inr ⟨j, ?_, hl⟩
        have hbl : Nat.blt j σ.length = true := Nat.ble_eq_true_of_le hj
        simp only [backN, hbl, cond_true, hn]
      · rw [putL_out σ φc' φ b hb] at hl
        exact .inl ⟨hb, hlt, hl⟩
    · simp only [φ'] at hl
      rw [List.getElem?_append_right (by rw [hφl]; exact hge), hφl, List.getElem?_drop] at hl
      refine .inr ⟨σ.length + (b - H.length), ?_, hl⟩
      have hbl : Nat.blt (σ.length + (b - H.length)) σ.length = false := by
        cases hb : Nat.blt (σ.length + (b - H.length)) σ.length with
        | true => have := Nat.le_of_ble_eq_true hb; omega
        | false => rfl
      simp only [backN, hbl, cond_false]
      omega
  have hran : ∀ (i : Nat) (l : Plc) (g : Nat), (pick σ φ)[i]? = some l → l.owns g → ∃ b ∈ σ, φ[b]? = some l := fun i l g hl hg => by
    have hi : i < σ.length := by have := (List.getElem?_eq_some_iff.1 hl).1; simpa [VM.pick] using this
    rw [pick_get hi hσφ] at hl
    exact ⟨_, by simp only [nth, List.getD_eq_getElem?_getD, List.getElem?_eq_getElem hi, Option.getD_some]; exact List.getElem_mem hi, hl⟩
  -- an old block that wasn't handed over stays
  have hkeep : ∀ (b : Nat) (l : Plc) (g : Nat), b ∉ σ → φ[b]? = some l → l.owns g → w'.heap[g]? = w.heap[g]? ∧ (I' g → I g) := fun b l g hb hl hg => by
    have hlt := hR.lt hl hg
    have hno : ∀ (i : Nat) (l0 : Plc), (pick σ φ)[i]? = some l0 → ¬ l0.owns g := fun i l0 h0 hg0 => by
      obtain ⟨b', hb', hl'⟩ := hran i l0 g h0 hg0
      have := hR.inj b b' l l0 g hl hl' hg hg0
      subst this
      exact hb hb'
    refine ⟨ht.frame g hlt hno, fun hi => ?_⟩
    rcases ht.immNew g hi with h | h | ⟨i, l0, h0, hg0⟩
    · exact h
    · omega
    · exact absurd hg0 (hno i l0 h0)
  have hle : LE φ φ' := fun b l hl => by
    by_cases hb : b ∈ σ
    · obtain ⟨j, hj, hjb⟩ := List.getElem_of_mem hb
      have hn : nth σ j = b := by simp [nth, hj, hjb]
      have hp : (pick σ φ)[j]? = some l := by rw [pick_get hj hσφ, hn]; exact hl
      obtain ⟨l', h1, h2⟩ := ht.le j (by rw [hBl]; exact hj) l hp
      refine ⟨l', ?_, h2⟩
      have := hρ j l' h1
      have hbl : Nat.blt j σ.length = true := Nat.ble_eq_true_of_le hj
      simpa only [backN, hbl, cond_true, hn] using this
    · refine ⟨l, ?_, .refl l⟩
      have hlt : b < H.length := by rw [← hR.len]; exact (List.getElem?_eq_some_iff.1 hl).1
      simp only [φ']
      rw [List.getElem?_append_left (by rw [hφl]; exact hlt), putL_out σ φc' φ b hb]
      exact hl
  have hVR : ∀ (v : V) (c : Value), VR φc' I' w' v c → VR φ' I' w' (mapV (backN σ H.length) v) c := fun v c h => mapV_VR hρ h
  have hT : ∀ m, TurnM m φ I w φ' I' w' := fun m => by
    refine ⟨ht.os, ht.tape, ht.output, ht.drawn, ht.size, fun g hg hno => ht.frame g hg fun i l0 h0 hg0 => ?_, ht.same, ht.sub, fun b _ l hl => hle b l hl, fun b l g hb hg => ?_, fun g hg => ?_⟩
    · obtain ⟨b', _, hl'⟩ := hran i l0 g h0 hg0
      exact hno b' l0 hl' hg0
    · rcases hcase b l hb with ⟨_, _, hl⟩ | ⟨j, rfl, hl⟩
      · exact .inr ⟨b, l, hl, hg⟩
      · rcases ht.fresh j l g hl hg with h | ⟨i, l0, h0, hg0⟩
        · exact .inl h
        · obtain ⟨b', _, hl'⟩ := hran i l0 g h0 hg0
          exact .inr ⟨b', l0, hl', hg0⟩
    · rcases ht.immNew g hg with h | h | ⟨i, l0, h0, hg0⟩
      · exact .inl h
      · exact .inr (.inl h)
      · obtain ⟨b', _, hl'⟩ := hran i l0 g h0 hg0
        exact .inr (.inr ⟨b', l0, hl', hg0⟩)
  have hkp : Keeps φ φ' σ w w' := fun b l hb hl => ⟨by
      have hlt : b < H.length := by rw [← hR.len]; exact (List.getElem?_eq_some_iff.1 hl).1
      simp only [φ']
      rw [List.getElem?_append_left (by rw [hφl]; exact hlt), putL_out σ φc' φ b hb]
      exact hl, fun g hg => (hkeep b l g hb hl hg).1⟩
  refine ⟨φ', hle, hT, ?_, hVR, hkp⟩
  have hHl : (putL σ (Bc'.map (mapB (backN σ H.length))) H).length = H.length := putL_length ..
  refine ⟨by simp [φ', putL_length, hR.len, hlc], fun b k l hk hl => ?_, fun b b' l l' g hb hb' hg hg' => ?_, hR'.imm⟩
  · rcases hcase b l hl with ⟨hb, hlt, hl0⟩ | ⟨j, rfl, hlj⟩
    · rw [List.getElem?_append_left (by rw [hHl]; exact hlt), putL_out _ _ _ _ hb] at hk
      exact (hR.blk b k l hk hl0).mono hle ht.sub ht.same fun g hg => hkeep b l g hb hl0 hg
    · have hj : j < Bc'.length := by rw [← hlc]; exact (List.getElem?_eq_some_iff.1 hlj).1
      have hkj : k = mapB (backN σ H.length) Bc'[j] := by
        cases hb : Nat.blt j σ.length with
        | true =>
          have hjs : j < σ.length := Nat.le_of_ble_eq_true hb
          simp only [backN, hb, cond_true] at hk
          have hin := hσ _ (by simp only [nth, List.getD_eq_getElem?_getD, List.getElem?_eq_getElem hjs, Option.getD_some]; exact List.getElem_mem hjs : nth σ j ∈ σ)
          rw [List.getElem?_append_left (by rw [hHl]; exact hin), putL_in σ _ H j hnd hσ hjs (by simpa using hj)] at hk
          simp [hj] at hk
          exact hk.symm
        | false =>
          have hjs : σ.length ≤ j := by
            rcases Nat.lt_or_ge j σ.length with h | h
            · have : Nat.blt j σ.length = true := Nat.ble_eq_true_of_le h
              rw [this] at hb; cases hb
            · exact h
          simp only [backN, hb, cond_false] at hk
          rw [List.getElem?_append_right (by rw [hHl]; omega), hHl, List.getElem?_map, List.getElem?_drop, show σ.length + (H.length + (j - σ.length) - H.length) = j by omega] at hk
          simp [hj] at hk
          exact hk.symm
      subst hkj
      have hbr := hR'.blk j _ l (List.getElem?_eq_getElem hj) hlj
      generalize Bc'[j] = k0 at hbr
      cases hbr with
      | dead l h => exact .dead l h
      | virt => exact .virt _ _
      | sl esz xs fro g δ arr e hg hn hlen hc hz hI => exact .sl esz xs fro g δ arr e hg hn hlen hc hz hI
      | deepVirt isz => exact .deepVirt isz
      | deep isz xss vs g δ n gs hb hp hng => exact .deep isz xss vs g δ n gs hb hp hng
      | box cells g arr e hg hn ho hc hI =>
        simp only [mapB, mapVs_map]
        have := BR.box (φ := φ') (I := I') (w := w') (cells.map (mapV (backN σ H.length))) g arr e hg (by simpa using hn) (fun j v hv => by
          simp only [List.getElem?_map] at hv
          obtain ⟨v0, h0, rfl⟩ := Option.map_eq_some_iff.1 hv
          rw [mapV_one]; exact ho j v0 h0) (fun j v c hv hcj => by
          simp only [List.getElem?_map] at hv
          obtain ⟨v0, h0, rfl⟩ := Option.map_eq_some_iff.1 hv
          exact hVR v0 c (hc j v0 c h0 hcj)) hI
        simpa using this
  · have hold : ∀ (b : Nat) (l : Plc) (j : Nat) (l' : Plc) (g : Nat), b ∉ σ → φ[b]? = some l → φc'[j]? = some l' → l.owns g → l'.owns g → False := fun b l j l' g hb hl hj hg hg' => by
      have hlt := hR.lt hl hg
      rcases ht.fresh j l' g hj hg' with h | ⟨i, l0, h0, hg0⟩
      · omega
      · obtain ⟨b', hb', hl'⟩ := hran i l0 g h0 hg0
        have := hR.inj b b' l l0 g hl hl' hg hg0
        subst this
        exact hb hb'
    rcases hcase b l hb with ⟨h1, _, h2⟩ | ⟨j, rfl, h2⟩
    · rcases hcase b' l' hb' with ⟨h3, _, h4⟩ | ⟨j', rfl, h4⟩
      · exact hR.inj b b' l l' g h2 h4 hg hg'
      · exact (hold b l j' l' g h1 h2 h4 hg hg').elim
    · rcases hcase b' l' hb' with ⟨h3, _, h4⟩ | ⟨j', rfl, h4⟩
      · exact (hold b' l' j l g h3 h4 h2 hg' hg).elim
      · rw [hR'.inj j j' l l' g h2 h4 hg hg']

/-- The callee, out of what the operation names. -/
theorem run_call {a : Act} {o : Oper} {fop : Operand} {args : Array Operand} {tys : Array TypeId} {g : FuncId} {fn : Func} {c : Code} {ccaps : Array Value} {w : World} (ho : o.op = .call ⟨.value fop, args, tys⟩) (hf : a.eval fop = .func (.func g) #[] ccaps) (hfn : P.funcs[g]? = some fn) (hb : fn.body = some c)
    (hname : (fn.name == "runtime.NumGoroutine") = false) : (execOp a.eval o).run P w = .ok (.enter g (args.map a.eval ++ ccaps)) w := by
  have hn : ¬ fn.name = "runtime.NumGoroutine" := by simpa using hname
  simp [execOp, ho, resolve, hf, Deferred.ofValue, invoke, callFunc, hfn, hb, hn]

theorem VR.fn_inv {φ : List Plc} {I : Nat → Prop} {w : World} {g : FuncId} {caps : List V} {c : Value} (h : VR φ I w (.fn g caps) c) : ∃ cs, c = .func (.func g) #[] cs ∧ AllR φ I w caps cs := by
  cases h with
  | fn _ _ cs hl hc => exact ⟨cs, rfl, hl.symm, hc⟩

theorem AllR.append {φ : List Plc} {I : Nat → Prop} {w : World} {xs ys : List V} {as bs : Array Value} (h1 : AllR φ I w xs as) (h2 : AllR φ I w ys bs) : AllR φ I w (xs ++ ys) (as ++ bs) := by
  refine ⟨by simp [h1.1, h2.1], fun i v c hv hc => ?_⟩
  by_cases hi : i < xs.length
  · rw [List.getElem?_append_left hi] at hv
    rw [Array.getElem?_append_left (by rw [h1.1]; exact hi)] at hc
    exact h1.2 i v c hv hc
  · rw [List.getElem?_append_right (by omega)] at hv
    rw [Array.getElem?_append_right (by rw [h1.1]; omega), h1.1] at hc
    exact h2.2 _ v c hv hc

theorem gCall {all : Array Oper} {i : Nat} {o : Oper} {l : List Oper} {fop : Operand} {args : Array Operand} {tys : Array TypeId} {g : FuncId} {caps : List V} {fn : Func} {c : Code} {σ : List Nat} {vs args' : List V} {Bc Bc' : List Blk} {rc v : V} {H' : List Blk}
    (hw : vwanted T all o = some true) (hN : inN N o.dst = true) (ho : o.op = .call ⟨.value fop, args, tys⟩) (hf : ev T fop = .fn g caps) (hfn : P.funcs[g]? = some fn) (hb : fn.body = some c) (hname : (fn.name == "runtime.NumGoroutine") = false)
    (hconv : ConvRs H (args.toList.map (ev T) ++ caps) vs) (hargs : mapVs (nth σ) args' = vs) (hac : closedVs σ.length args' = true) (hσ : σ.all (fun b => Nat.blt b H.length) = true) (hnd : σ.Nodup)
    (hBc : σ.map (fun b => H[b]?) = Bc.map (fun k => some (mapB (nth σ) k))) (hcl : Bc.all (closedB σ.length) = true) (hruns : Runs P g args' Bc rc Bc') (hBl : Nat.ble σ.length Bc'.length = true)
    (hv : mapV (backN σ H.length) rc = v) (hH' : putL σ (Bc'.map (mapB (backN σ H.length))) H ++ (Bc'.drop σ.length).map (mapB (backN σ H.length)) = H')
    (h : Goes P f N m (.ops all (i + 1) l :: k) (tput T o.dst v) H' r B) : Goes P f N m (.ops all i (o :: l) :: k) T H r B := fun φ I w a b cs hR hT hd hsz hk hff hkd => by
  obtain ⟨ho', hl⟩ := drop_get (show all.toList.drop i = o :: l from hk (.ops all i (o :: l)) (by simp))
  have ho'' : all[i]? = some o := by simpa using ho'
  have hσ' : ∀ b ∈ σ, b < H.length := fun b hb => Nat.le_of_ble_eq_true (List.all_eq_true.1 hσ b hb)
  have hσφ : ∀ b ∈ σ, b < φ.length := by rw [hR.len]; exact hσ'
  have hBlen : Bc.length = σ.length := by have := congrArg List.length hBc; simp at this; omega
  have hRB := hR.pick hσ' hnd hBc (List.all_eq_true.1 hcl)
  obtain ⟨ccaps, hfc, hcaps⟩ := VR.fn_inv (hf ▸ ev_VR hT fop)
  have hrun := run_call (P := P) (w := w) ho hfc hfn hb hname
  have hall0 : AllR φ I w (args.toList.map (ev T) ++ caps) (args.map a.eval ++ ccaps) := AllR.append ⟨by simp, fun i v c h1 h2 => by
    simp only [List.getElem?_map, Array.getElem?_toList] at h1
    simp only [Array.getElem?_map] at h2
    obtain ⟨x, hx, rfl⟩ := Option.map_eq_some_iff.1 h1
    rw [hx] at h2
    simp at h2
    subst h2
    exact ev_VR hT x⟩ hcaps
  obtain ⟨hcl1, hcl2⟩ := hconv.VRs hR
  have hargs' : args'.map (mapV (nth σ)) = vs := by rw [← mapVs_map]; exact hargs
  have hal : args'.length = vs.length := by rw [← hargs']; simp
  obtain ⟨e, w1, fr, ⟨φc', I', cv, rfl, ht, hR', hvr⟩, hsteps, _, hleave⟩ := hruns (pick σ φ) I w (args.map a.eval ++ ccaps) hRB (by rw [hal, hcl1]; exact hall0.1) (fun j u cc hu hc => by
    refine mapV_back (n := σ.length) (fun b hb => (pick_get hb hσφ).symm) u cc ?_ ?_
    · rw [closedVs_all] at hac
      exact List.all_eq_true.1 hac u (List.mem_of_getElem? hu)
    · have : vs[j]? = some (mapV (nth σ) u) := by rw [← hargs']; simp [hu]
      exact hcl2 j _ this fun v0 h0 => hall0.2 j v0 cc h0 hc) (b.at a (.inRegion all (i :: List.range' (i + 1) l.length) :: k.map VI.item) :: cs)
  obtain ⟨φ', hle, hTm, hRel, hVR, _⟩ := call_core hR hσ' hnd hBlen (Nat.le_of_ble_eq_true hBl) ht hR'
  rw [hH'] at hRel
  have hvr' := hVR rc cv hvr
  rw [hv] at hvr'
  have hstep := step_call (P := P) (b := b) (K := k.map VI.item) (cs := cs) (rest := List.range' (i + 1) l.length) ho'' (vwanted_wanted hT hw) hrun hsteps hleave
  have hT1 : TR φ' I' w1 T a := fun t => (hT t).mono hle ht.sub ht.same
  obtain ⟨φ2, I2, w2, c', fr', hs, h1, h2, h3, h4⟩ := h φ' I' w1 (a.put o.dst cv) b cs hRel (hT1.tput hsz hN hvr') (by rw [put_defers]; exact hd) (by rw [put_size]; exact hsz) (fun x hx => by
    simp only [List.mem_cons] at hx
    rcases hx with rfl | hx
    · exact hl
    · exact hk x (by simp [hx])) hff hkd
  refine ⟨φ2, I2, w2, c', fr', Steps.trans ?_ hs, h1, h2, (hTm m).trans h3, h4⟩
  rw [List.map_cons, ops_cons]
  exact hstep
end
end Go.VM
namespace Go.VM

def GoesO {R : Type} (P : Program) (f : FuncId) (N m : Nat) (todo : List VI) (T : Tm) (H : List Blk) (E : R → V × List Blk) (o : Option R) : Prop := ∀ r, o = some r → Goes P f N m todo T H (E r).1 (E r).2
def RunsO {R : Type} (P : Program) (f : FuncId) (args : List V) (B : List Blk) (E : R → V × List Blk) (o : Option R) : Prop := ∀ r, o = some r → Runs P f args B (E r).1 (E r).2

/-! ### the words of the plain functions -/
def gidx {α R : Type} (xs : List α) (i : Int) (k : α → Option R) : Option R := bif decide (0 ≤ i) then (xs[i.toNat]?).bind k else none
def gcap {R : Type} (n bytes : Nat) (k : Option R) : Option R := bif decide (n * bytes ≤ 140737488355328) then k else none
def gnz {R : Type} (y : Int) (k : Option R) : Option R := bif y == 0 then none else k
def gnn {R : Type} (y : Int) (k : Option R) : Option R := bif decide (0 ≤ y) then k else none
def gmake {R : Type} (n : Int) (bytes : Nat) (k : Option R) : Option R := bif decide (0 ≤ n) && decide (n.toNat * bytes ≤ 140737488355328) then k else none
def gcut {R : Type} (lo hi len : Int) (k : Option R) : Option R := bif decide (0 ≤ lo) && (decide (lo ≤ hi) && decide (hi ≤ len)) then k else none

section
variable {R : Type} {E : R → V × List Blk} {o : Option R} {P : Program} {f : FuncId} {N m : Nat} {T : Tm} {H : List Blk} {k : List VI}

theorem oSeq {x y : Code} (h : GoesO P f N m (.code x :: .code y :: k) T H E o) : GoesO P f N m (.code (.seq x y) :: k) T H E o := fun r hr => gSeq (h r hr)
theorem oSkip (h : GoesO P f N m k T H E o) : GoesO P f N m (.code .skip :: k) T H E o := fun r hr => gSkip (h r hr)
theorem oBlock {id : Nat} {c : Code} (h : GoesO P f N m (.code c :: .blk id :: k) T H E o) : GoesO P f N m (.code (.block id c) :: k) T H E o := fun r hr => gBlock (h r hr)
theorem oBlk {id : Nat} (h : GoesO P f N m k T H E o) : GoesO P f N m (.blk id :: k) T H E o := fun r hr => gBlk (h r hr)
theorem oLoop {c : Code} (h : GoesO P f N m (.code c :: .loop c :: k) T H E o) : GoesO P f N m (.code (.loop c) :: k) T H E o := fun r hr => gLoop (h r hr)
theorem oAgain {c : Code} (h : GoesO P f N m (.code c :: .loop c :: k) T H E o) : GoesO P f N m (.loop c :: k) T H E o := fun r hr => gAgain (h r hr)
theorem oExit {id : Nat} {k' : List VI} (he : vexit id k = some k') (h : GoesO P f N m k' T H E o) : GoesO P f N m (.code (.exit id) :: k) T H E o := fun r hr => gExit he (h r hr)
theorem oCondT {c : Operand} {x y : Code} (hc : ev T c = .d (.bool true) := by kernel_rfl) (h : GoesO P f N m (.code x :: k) T H E o) : GoesO P f N m (.code (.cond c x y) :: k) T H E o := fun r hr => gCondT hc (h r hr)
theorem oCondF {c : Operand} {x y : Code} (hc : ev T c = .d (.bool false) := by kernel_rfl) (h : GoesO P f N m (.code y :: k) T H E o) : GoesO P f N m (.code (.cond c x y) :: k) T H E o := fun r hr => gCondF hc (h r hr)
theorem oRegion {id : Nat} {all : Array Oper} {l : List Oper} (hl : all.toList = l) (h : GoesO P f N m (.ops all 0 l :: k) T H E o) : GoesO P f N m (.code (.region id all false) :: k) T H E o := fun r hr => gRegion hl (h r hr)
theorem oEnd {all : Array Oper} {i : Nat} (h : GoesO P f N m k T H E o) : GoesO P f N m (.ops all i [] :: k) T H E o := fun r hr => gEnd (h r hr)
theorem oOp {all : Array Oper} {i : Nat} {q : Oper} {l : List Oper} {H' : List Blk} {tc : List Nat} (v : V) (hw : vwanted T all q = some true := by kernel_rfl) (hN : inN N q.dst = true := by kernel_rfl) (hdo : Does P q T H v H' tc) (h : GoesO P f N m (.ops all (i + 1) l :: k) (tput T q.dst v) H' E o) :
    GoesO P f N m (.ops all i (q :: l) :: k) T H E o := fun r hr => gOp hw hN hdo (h r hr)
theorem oNot {all : Array Oper} {i : Nat} {q : Oper} {l : List Oper} (hw : vwanted T all q = some false := by kernel_rfl) (hN : inN N q.dst = true := by kernel_rfl) (h : GoesO P f N m (.ops all (i + 1) l :: k) (tput T q.dst (.tuple [])) H E o) :
    GoesO P f N m (.ops all i (q :: l) :: k) T H E o := fun r hr => gNot hw hN (h r hr)
theorem oHead {todo : List VI} (ks σ : List Nat) {T' : Tm} {H' : List Blk} (hT' : keepT ks T = T'.map fun p => (p.1, mapV (nth σ) p.2) := by kernel_rfl) (hTc : T'.all (fun p => closedV σ.length p.2) = true := by kernel_rfl)
    (hσm : σ.take m = List.range m := by kernel_rfl) (hσ : σ.all (fun b => Nat.blt b H.length) = true := by kernel_rfl) (hnd : σ.Nodup) (hB : σ.map (fun b => H[b]?) = H'.map (fun k => some (mapB (nth σ) k)) := by kernel_rfl) (hcl : H'.all (closedB σ.length) = true := by kernel_rfl)
    (h : GoesO P f N m todo T' H' E o) : GoesO P f N m todo T H E o := fun r hr => gHead ks σ hT' hTc hσm hσ hnd hB hcl (h r hr)
theorem oVirt {esz : Nat} {todo : List VI} (t : Nat) (ht : get T t = .nilc := by kernel_rfl) (h : GoesO P f N m todo ((t, .ref H.length 0 0 0) :: T) (H ++ [.sl esz [] false]) E o) : GoesO P f N m todo T H E o := fun r hr => gVirt t ht (h r hr)
theorem oVirtB {esz : Nat} {todo : List VI} (b off : Nat) {cells : List V} (hk : H[b]? = some (.box cells) := by kernel_rfl) (ho : cells[off]? = some .nilc := by kernel_rfl) (h : GoesO P f N m todo T (H.set b (.box (cells.set off (.ref H.length 0 0 0))) ++ [.sl esz [] false]) E o) : GoesO P f N m todo T H E o := fun r hr => gVirtB b off hk ho (h r hr)
theorem oFreeze {todo : List VI} (b : Nat) {esz : Nat} {xs : List (List D)} (hk : H[b]? = some (.sl esz xs false) := by kernel_rfl) (h : GoesO P f N m todo T (H.set b (.sl esz xs true)) E o) : GoesO P f N m todo T H E o := fun r hr => gFreeze b hk (h r hr)
theorem oConv {todo : List VI} (t : Nat) {v v' : V} (ht : get T t = v := by kernel_rfl) (hc : ConvR H v v') (h : GoesO P f N m todo ((t, v') :: T) H E o) : GoesO P f N m todo T H E o := fun r hr => gConv t ht hc (h r hr)
theorem oConvB {todo : List VI} (b : Nat) {cells cells' : List V} (hk : H[b]? = some (.box cells) := by kernel_rfl) (hc : ConvRs H cells cells') (h : GoesO P f N m todo T (H.set b (.box cells')) E o) : GoesO P f N m todo T H E o := fun r hr => gConvB b hk hc (h r hr)

/-- The same view in other words. -/
theorem oView {todo : List VI} {T' : Tm} {H' : List Blk} (hT : T = T' := by kernel_rfl) (hH : H = H' := by kernel_rfl) (h : GoesO P f N m todo T' H' E o) : GoesO P f N m todo T H E o := by subst hT; subst hH; exact h

theorem oNone {todo : List VI} : GoesO P f N m todo T H E (none : Option R) := fun r hr => by cases hr
theorem oSplit {todo : List VI} {o1 o2 : Option R} (t : Nat) {b : Bool} (ht : get T t = .d (.bool b)) (h1 : b = true → GoesO P f N m todo ((t, .d (.bool true)) :: T) H E o1) (h2 : b = false → GoesO P f N m todo ((t, .d (.bool false)) :: T) H E o2) :
    GoesO P f N m todo T H E (bif b then o1 else o2) := fun r hr => gSplit t ht (fun hb => by subst hb; exact h1 rfl r hr) (fun hb => by subst hb; exact h2 rfl r hr)
/-- A guard of the plain function's own. -/
theorem oGuard {todo : List VI} {b : Bool} (h : b = true → GoesO P f N m todo T H E o) : GoesO P f N m todo T H E (bif b then o else none) := fun r hr => by
  cases b with
  | true => exact h rfl r hr
  | false => cases hr
theorem oNz {todo : List VI} {y : Int} (h : y ≠ 0 → GoesO P f N m todo T H E o) : GoesO P f N m todo T H E (gnz y o) := fun r hr => by
  unfold gnz at hr
  by_cases hy : y = 0
  · subst hy; cases hr
  · have : (y == 0) = false := by simpa using hy
    rw [this] at hr
    exact h hy r hr
theorem oNn {todo : List VI} {y : Int} (h : 0 ≤ y → GoesO P f N m todo T H E o) : GoesO P f N m todo T H E (gnn y o) := oGuard fun hb => h (of_decide_eq_true hb)
theorem oCap {todo : List VI} {n bytes : Nat} (h : n * bytes ≤ 140737488355328 → GoesO P f N m todo T H E o) : GoesO P f N m todo T H E (gcap n bytes o) := oGuard fun hb => h (of_decide_eq_true hb)
theorem oMake {todo : List VI} {n : Int} {bytes : Nat} (h : 0 ≤ n → n.toNat * bytes ≤ 140737488355328 → GoesO P f N m todo T H E o) : GoesO P f N m todo T H E (gmake n bytes o) := oGuard fun hb => by
  have := Bool.and_eq_true_iff.1 hb
  exact h (of_decide_eq_true this.1) (of_decide_eq_true this.2)
theorem oCut {todo : List VI} {lo hi len : Int} (h : 0 ≤ lo → lo ≤ hi → hi ≤ len → GoesO P f N m todo T H E o) : GoesO P f N m todo T H E (gcut lo hi len o) := oGuard fun hb => by
  have h1 := Bool.and_eq_true_iff.1 hb
  have h2 := Bool.and_eq_true_iff.1 h1.2
  exact h (of_decide_eq_true h1.1) (of_decide_eq_true h2.1) (of_decide_eq_true h2.2)
theorem oIdx {α : Type} {todo : List VI} {xs : List α} {i : Int} {A : α → Option R} (h : ∀ e, 0 ≤ i → xs[i.toNat]? = some e → GoesO P f N m todo T H E (A e)) : GoesO P f N m todo T H E (gidx xs i A) := fun r hr => by
  unfold gidx at hr
  cases hd : decide (0 ≤ i) with
  | false => rw [hd] at hr; cases hr
  | true =>
    rw [hd] at hr
    cases he : xs[i.toNat]? with
    | none => rw [he] at hr; cases hr
    | some e => rw [he] at hr; exact h e (of_decide_eq_true hd) he r hr

theorem oRet {r0 : R} {fn : Func} {rs : List ResultVar} {vs : List V} {rv : V} {B : List Blk} {σ : List Nat} (hE : E r0 = (rv, B) := by kernel_rfl) (hf : P.funcs[f]? = some fn) (hrs : fn.results.toList = rs) (hres : ResRs P T H rs vs) (hr : mapV (nth σ) rv = resV vs := by kernel_rfl) (hrc : closedV σ.length rv = true := by kernel_rfl)
    (hσm : σ.take m = List.range m := by kernel_rfl) (hσ : σ.all (fun b => Nat.blt b H.length) = true := by kernel_rfl) (hnd : σ.Nodup) (hB : σ.map (fun b => H[b]?) = B.map (fun k => some (mapB (nth σ) k)) := by kernel_rfl) (hcl : B.all (closedB σ.length) = true := by kernel_rfl) :
    GoesO P f N m (.code .ret :: k) T H E (some r0) := fun r hr' => by
  cases hr'
  rw [hE]
  exact gRet hf hrs hres hr hrc hσm hσ hnd hB hcl

theorem oCall {Q : Type} {Ec : Q → V × List Blk} {oc : Option Q} {A : Q → Option R} {all : Array Oper} {i : Nat} {q : Oper} {l : List Oper} {fop : Operand} {args : Array Operand} {tys : Array TypeId} {g : FuncId} {caps : List V} {fn : Func} {c : Code} {vs : List V} {Bc : List Blk}
    (σ : List Nat) (args' : List V) {v : Q → V} {H' : Q → List Blk} (hruns : RunsO P g args' Bc Ec oc)
    (hw : vwanted T all q = some true) (hN : inN N q.dst = true) (ho : q.op = .call ⟨.value fop, args, tys⟩) (hf : ev T fop = .fn g caps) (hfn : P.funcs[g]? = some fn) (hb : fn.body = some c) (hname : (fn.name == "runtime.NumGoroutine") = false)
    (hconv : ConvRs H (args.toList.map (ev T) ++ caps) vs) (hargs : mapVs (nth σ) args' = vs) (hac : closedVs σ.length args' = true) (hσ : σ.all (fun b => Nat.blt b H.length) = true) (hnd : σ.Nodup)
    (hBc : σ.map (fun b => H[b]?) = Bc.map (fun k => some (mapB (nth σ) k))) (hcl : Bc.all (closedB σ.length) = true) (hBl : ∀ r, Nat.ble σ.length (Ec r).2.length = true)
    (hv : ∀ r, mapV (backN σ H.length) (Ec r).1 = v r) (hH' : ∀ r, putL σ ((Ec r).2.map (mapB (backN σ H.length))) H ++ ((Ec r).2.drop σ.length).map (mapB (backN σ H.length)) = H' r)
    (h : ∀ r, GoesO P f N m (.ops all (i + 1) l :: k) (tput T q.dst (v r)) (H' r) E (A r)) : GoesO P f N m (.ops all i (q :: l) :: k) T H E (oc.bind A) := fun r hr => by
  cases hoc : oc with
  | none => rw [hoc] at hr; cases hr
  | some rc =>
    rw [hoc] at hr
    exact gCall hw hN ho hf hfn hb hname hconv hargs hac hσ hnd hBc hcl (hruns rc hoc) (hBl rc) (hv rc) (hH' rc) (h rc r hr)

/-- A place where ways meet. -/
theorem oJoin {S : Type} {X : VI} (st : S → Tm) (hp : S → List Blk) (j : S → Option R) (hj : ∀ s, GoesO P f N m k (st s) (hp s) E (j s)) (h : (∀ s, GoesO P f N m k (st s) (hp s) E (j s)) → GoesO P f N m (X :: k) T H E o) : GoesO P f N m (X :: k) T H E o := h hj
/-- A loop: its own plain function, from its head to the function's end. -/
theorem oRounds {S : Type} {c : Code} (st : S → Tm) (hp : S → List Blk) (l : Nat → S → Option R) (h0 : ∀ s, l 0 s = none)
    (step : ∀ n, (∀ s, GoesO P f N m (.code c :: .loop c :: k) (st s) (hp s) E (l n s)) → ∀ s, GoesO P f N m (.code c :: .loop c :: k) (st s) (hp s) E (l (n + 1) s)) (n : Nat) (s : S) : GoesO P f N m (.code c :: .loop c :: k) (st s) (hp s) E (l n s) := by
  induction n generalizing s with
  | zero => rw [h0]; exact oNone
  | succ n ih => exact step n ih s

theorem RunsO.of_goes {fn : Func} {c : Code} {args : List V} {B : List Blk} (hf : P.funcs[f]? = some fn) (hc : fn.body = some c) (hN : fn.ntmps = N) (hl : Nat.ble args.length N = true := by kernel_rfl) (hT : argsT args = T := by kernel_rfl) (hm : B.length = m := by kernel_rfl) 
    (h : GoesO P f N m [.code c] T B E o) : RunsO P f args B E o := fun r hr => Runs.of_goes hf hc hN (Nat.le_of_ble_eq_true hl) hT hm (h r hr)

/-! ### lists under an encoding -/
theorem map_idx {α β : Type} {xs : List α} {i : Nat} {e : α} (enc : α → β) (h : xs[i]? = some e) : (xs.map enc)[i]? = some (enc e) := by simp [h]
theorem map_app1 {α β : Type} (enc : α → β) (xs : List α) (e : α) : xs.map enc ++ [enc e] = (xs ++ [e]).map enc := by simp
theorem map_app {α β : Type} (enc : α → β) (xs ys : List α) : xs.map enc ++ ys.map enc = (xs ++ ys).map enc := by simp
theorem map_len {α β : Type} (enc : α → β) (xs : List α) : (xs.map enc).length = xs.length := by simp
theorem map_set {α β : Type} (enc : α → β) (xs : List α) (i : Nat) (e : α) : (xs.map enc).set i (enc e) = (xs.set i e).map enc := by simp [List.map_set]
theorem map_rep {α β : Type} (enc : α → β) (n : Nat) (e : α) : List.replicate n (enc e) = (List.replicate n e).map enc := by simp
theorem map_cut {α β : Type} (enc : α → β) (xs : List α) (i n : Nat) : ((xs.map enc).drop i).take n = ((xs.drop i).take n).map enc := by simp [List.map_drop, List.map_take]
theorem cut_all {α : Type} (xs : List α) (n : Nat) (h : xs.length = n) : (xs.drop 0).take n = xs := by subst h; simp
theorem map_row {α : Type} {enc : α → List D} {sz : Nat} (h : ∀ a, (enc a).length = sz) (xs : List α) : ∀ (i : Nat) (e : List D), (xs.map enc)[i]? = some e → e.length = sz := fun i e he => by
  simp only [List.getElem?_map] at he
  obtain ⟨a, _, rfl⟩ := Option.map_eq_some_iff.1 he
  exact h a
theorem app_len {α : Type} (xs ys : List α) : (xs ++ ys).length = xs.length + ys.length := by simp
end
end Go.VM
