/- Rows of slices whose inner rows are owned: append, take, put back, freeze. -/
import Derived.Test.YtdpoilkjdfnadaaEngOM
namespace Go.VM
set_option linter.unusedVariables false
set_option linter.unusedSimpArgs false

section
variable {H : List Blk} {φ : List Plc} {I : Nat → Prop} {w : World}
theorem kill_owns {b b' : Nat} {l l' : Plc} {x : Nat} (hb : φ[b]? = some l) (h : (φ.set b .dead)[b']? = some l') (ho : l'.owns x) : b' ≠ b ∧ φ[b']? = some l' := by
  by_cases he : b = b'
  · subst he
    simp [(List.getElem?_eq_some_iff.1 hb).1] at h
    subst h
    exact ho.elim
  · rw [get_set_ne _ _ _ _ he] at h
    exact ⟨Ne.symm he, h⟩
theorem mem_app {α : Type} {x : α} {a b : List α} : x ∈ a ++ b ↔ x ∈ a ∨ x ∈ b := List.mem_append
/-- Two pools of one and another row. -/
theorem Pool.app {isz : Nat} {xss yss : List (Option (List (List D)))} {vs us : List Value} {gs hs : List (Option Nat)} (h1 : Pool I w isz xss vs gs) (h2 : Pool I w isz yss us hs) (hd : ∀ x, some x ∈ gs → some x ∈ hs → False) : Pool I w isz (xss ++ yss) (vs ++ us) (gs ++ hs) where
  len1 := by simp [h1.len1, h2.len1]
  len2 := by simp [h1.len2, h2.len2]
  one v hv := by
    rcases mem_app.1 hv with h | h
    · exact h1.one v h
    · exact h2.one v h
  dist i j x hi hj := by
    have e := h1.len2
    by_cases a : i < gs.length
    · rw [List.getElem?_append_left a] at hi
      by_cases b : j < gs.length
      · rw [List.getElem?_append_left b] at hj
        exact h1.dist i j x hi hj
      · rw [List.getElem?_append_right (by omega)] at hj
        exact (hd x (List.mem_of_getElem? hi) (List.mem_of_getElem? hj)).elim
    · rw [List.getElem?_append_right (by omega)] at hi
      by_cases b : j < gs.length
      · rw [List.getElem?_append_left b] at hj
        exact (hd x (List.mem_of_getElem? hj) (List.mem_of_getElem? hi)).elim
      · rw [List.getElem?_append_right (by omega)] at hj
        have := h2.dist _ _ x hi hj
        omega
  nI x hx := by
    rcases mem_app.1 hx with h | h
    · exact h1.nI x h
    · exact h2.nI x h
  lt x hx := by
    rcases mem_app.1 hx with h | h
    · exact h1.lt x h
    · exact h2.lt x h
  inn i xs v go a b c := by
    have e1 := h1.len1
    have e2 := h1.len2
    by_cases hi : i < xss.length
    · rw [List.getElem?_append_left hi] at a
      rw [List.getElem?_append_left (by omega)] at b c
      exact h1.inn i xs v go a b c
    · rw [List.getElem?_append_right (by omega)] at a b c
      rw [e1] at b
      rw [e2] at c
      exact h2.inn _ xs v go a b c
/-- What nobody owns stays in a step. -/
theorem Pool.step {isz : Nat} {xss : List (Option (List (List D)))} {vs : List Value} {gs : List (Option Nat)} {φ1 : List Plc} {I1 : Nat → Prop} {w1 : World} (h : Pool I w isz xss vs gs) (t : Turn φ I w φ1 I1 w1) (hno : ∀ x, some x ∈ gs → ∀ (b : Nat) (l : Plc), φ[b]? = some l → ¬ l.owns x) :
    Pool I1 w1 isz xss vs gs ∧ ∀ x, some x ∈ gs → ∀ (b : Nat) (l : Plc), φ1[b]? = some l → ¬ l.owns x := by
  refine ⟨h.mono t.sub t.same fun x hx => ⟨t.frame x (h.lt x hx) (hno x hx), fun hi => ?_⟩, fun x hx b l hb ho => ?_⟩
  · rcases t.immNew x hi with h' | h' | ⟨b, l, hb, ho⟩
    · exact h'
    · have := h.lt x hx; omega
    · exact (hno x hx b l hb ho).elim
  · rcases t.fresh b l x hb ho with h' | ⟨b0, l0, hb0, ho0⟩
    · have := h.lt x hx; omega
    · exact hno x hx b0 l0 hb0 ho0
end

section
variable {P : Program} {T : Tm} {H : List Blk} {dst : Option Tmp} {type : TypeId} {pos : String} {after : Array Edge} {guard : Option (Nat × Bool)}

theorem k_appendDeep {α : Type} {enc : α → List D} {t t2 e e2 : TypeId} {x y : Operand} {isz bytes : Nat} {z : Value} {H' : List Blk} (b b2 : Nat) (xs ys : List (List α)) (hu : P.underlying t = some (.slice e)) (hu2 : P.underlying t2 = some (.slice e2)) (hi : TyI P e z 1 bytes) (hok : (Nat.blt 0 bytes && Nat.beq z.cells.size 1) = true := by kernel_rfl)
    (hx : ev T x = .ref b xs.length 0 xs.length := by kernel_rfl) (hk : H[b]? = some (.deep isz (xs.map (dp enc))) := by kernel_rfl) (hy : ev T y = .ref b2 ys.length 0 ys.length := by kernel_rfl) (hk2 : H[b2]? = some (.deep isz (ys.map (dp enc))) := by kernel_rfl) (hne : Nat.beq b b2 = false := by kernel_rfl)
    (hfit : (xs ++ ys).length * bytes ≤ 140737488355328) (hH : (H.set b (.deep isz ((xs ++ ys).map (dp enc)))).set b2 .dead = H' := by kernel_rfl) :
    Does P ⟨dst, .call ⟨.builtin .append, #[x, y], #[t, t2]⟩, type, pos, after, guard⟩ T H (.ref b (xs ++ ys).length 0 (xs ++ ys).length) H' [b, b2] := fun φ I w a hR hT => by
  subst hH
  obtain ⟨hb1, hb2⟩ := Bool.and_eq_true_iff.1 hok
  have hby : 1 ≤ bytes := Nat.le_of_ble_eq_true hb1
  have hneq : b ≠ b2 := fun h => by subst h; simp at hne
  have hbH := (List.getElem?_eq_some_iff.1 hk).1
  have hb2H := (List.getElem?_eq_some_iff.1 hk2).1
  obtain ⟨vs, gs, φ1, hR1, hp1, l1, l1', len1, k1, o1, n1, q1⟩ := deep_open hR hk
  obtain ⟨us, hs, φ2, hR2, hp2, l2, l2', len2, k2, o2, n2, q2⟩ := deep_open hR1 (b := b2) (isz := isz) (by rw [get_set_ne _ _ _ _ hneq]; exact hk2)
  have hvl : (valR vs).length = xs.length := by rw [valR_len, hp1.len1]; simp
  have hul : (valR us).length = ys.length := by rw [valR_len, hp2.len1]; simp
  -- who owns what in the view was owned before
  have own21 : ∀ (b' : Nat) (l : Plc) (x : Nat), φ2[b']? = some l → l.owns x → ∃ l0, φ1[b']? = some l0 ∧ l0.owns x := fun b' l x h1 h2 => by
    by_cases he : b' = b2
    · subst he; exact q2 l x h1 h2
    · exact ⟨l, by rw [← k2 b' he]; exact h1, h2⟩
  have own10 : ∀ (b' : Nat) (l : Plc) (x : Nat), φ1[b']? = some l → l.owns x → ∃ l0, φ[b']? = some l0 ∧ l0.owns x := fun b' l x h1 h2 => by
    by_cases he : b' = b
    · subst he; exact q1 l x h1 h2
    · exact ⟨l, by rw [← k1 b' he]; exact h1, h2⟩
  have hno1 : ∀ x, some x ∈ gs → ∀ (b' : Nat) (l : Plc), φ2[b']? = some l → ¬ l.owns x := fun x hx b' l h1 h2 => by
    obtain ⟨l0, h3, h4⟩ := own21 b' l x h1 h2
    exact n1 x hx b' l0 h3 h4
  have hXev : VR φ2 I w (.ref b xs.length 0 xs.length) (a.eval x) := ((hx ▸ ev_VR hT x : VR φ I w _ _).mono l1 (fun _ h => h) (fun _ _ => rfl)).mono l2 (fun _ h => h) (fun _ _ => rfl)
  have hYev : VR φ2 I w (.ref b2 ys.length 0 ys.length) (a.eval y) := ((hy ▸ ev_VR hT y : VR φ I w _ _).mono l1 (fun _ h => h) (fun _ _ => rfl)).mono l2 (fun _ h => h) (fun _ _ => rfl)
  have hzl : (valR vs ++ valR us).length = (xs ++ ys).length := by rw [List.length_append, List.length_append, hvl, hul]
  obtain ⟨φ3, I3, w3, c, hrun, ht, hR3, hvc, hkp⟩ := d_append_at (P := P) (H := (H.set b (.sl 1 (valR vs) false)).set b2 (.sl 1 (valR us) false)) (dst := dst) (type := type) (pos := pos) (after := after) (guard := guard) (x := x) (y := y) (b := b) (L := xs.length) (esz0 := 1) (L' := (xs ++ ys).length) (vy := .ref b2 ys.length 0 ys.length) hu hu2 hi (by decide) (Nat.eq_of_beq_eq_true hb2)
    (by rw [get_set_ne _ _ _ _ (Ne.symm hneq)]; simp [hbH]) hvl (.inl rfl) (.ref b2 ys.length 0 ys.length (valR us) (valR us) false (by simp [hb2H]) hul (by omega) (cut_all _ _ hul)) rfl hzl hfit (by have : (xs ++ ys).length * 1 ≤ (xs ++ ys).length * bytes := Nat.mul_le_mul_left _ hby; omega) φ2 I w a hR2 hXev hYev
  obtain ⟨l, hl⟩ : ∃ l, φ2[b2]? = some l := ⟨_, List.getElem?_eq_getElem (by rw [len2, len1, hR.len]; exact hb2H)⟩
  have hl3 := (hkp b2 l (by simp [Ne.symm hneq]) hl).1
  obtain ⟨P1, m1⟩ := hp1.step ht hno1
  obtain ⟨P2, m2⟩ := hp2.step ht n2
  have hR4 := hR3.kill hl3
  have hdis : ∀ x, some x ∈ gs → some x ∈ hs → False := fun x hx hy' => by
    obtain ⟨l0, h1, h2⟩ := o1 x hx
    obtain ⟨l0', h3, h4⟩ := o2 x hy'
    exact n1 x hx b2 l0' h3 h4
  obtain ⟨φ5, hR5, l5, len5, k5, q5⟩ := deep_close hR4 (b := b) (isz := isz) (xss := (xs ++ ys).map (dp enc)) (vs := vs ++ us) (gs := gs ++ hs) (by
      rw [get_set_ne _ _ _ _ (Ne.symm hneq)]
      simp [hbH, valR]) (by have := P1.app P2 hdis; rw [← List.map_append] at this; exact this) (fun x hx b' l' h1 h2 => by
      obtain ⟨h3, h4⟩ := kill_owns hl3 h1 h2
      rcases mem_app.1 hx with h | h
      · exact m1 x h b' l' h4 h2
      · exact m2 x h b' l' h4 h2)
  have hLE : LE φ3 φ5 := (LE.set hl3 (.dead _)).trans l5
  refine ⟨φ5, I3, w3, c, hrun, Turn.around (l1.trans l2) (fun b' l x h1 h2 => ?_) ht hLE (fun b' l' x h1 h2 => ?_), ?_, hvc.mono hLE (fun _ h => h) (fun _ _ => rfl), fun b' l' hb' h1 => ?_⟩
  · obtain ⟨l0, h3, h4⟩ := own21 b' l x h1 h2
    obtain ⟨l0', h5, h6⟩ := own10 b' l0 x h3 h4
    exact ⟨b', l0', h5, h6⟩
  · by_cases he : b' = b
    · subst he
      rcases q5 l' x h1 h2 with ⟨l0, h3, h4⟩ | hx'
      · exact .inl ⟨b', l0, (kill_owns hl3 h3 h4).2, h4⟩
      · rcases mem_app.1 hx' with h | h
        · obtain ⟨l0, h3, h4⟩ := o1 x h
          exact .inr ⟨b', l0, h3, h4⟩
        · obtain ⟨l0, h3, h4⟩ := o2 x h
          obtain ⟨l0', h5, h6⟩ := own10 b2 l0 x h3 h4
          exact .inr ⟨b2, l0', h5, h6⟩
    · rw [k5 b' he] at h1
      exact .inl ⟨b', l', (kill_owns hl3 h1 h2).2, h2⟩
  · have e : ((((H.set b (.sl 1 (valR vs) false)).set b2 (.sl 1 (valR us) false)).set b (.sl 1 (valR vs ++ valR us) false)).set b2 .dead).set b (.deep isz ((xs ++ ys).map (dp enc))) = (H.set b (.deep isz ((xs ++ ys).map (dp enc)))).set b2 .dead := by
      apply List.ext_getElem?
      intro i
      by_cases h1 : i = b
      · subst h1
        rw [get_set_ne (H.set i _) b2 i _ (Ne.symm hneq)]
        simp [hbH]
      · by_cases h2 : i = b2
        · subst h2
          rw [get_set_ne _ b i _ (Ne.symm h1)]
          simp [hb2H]
        · simp only [get_set_ne _ _ _ _ (Ne.symm h1), get_set_ne _ _ _ _ (Ne.symm h2)]
    rw [← e]
    exact hR5
  · have e1 : b' ≠ b := fun e => hb' (by simp [e])
    have e2 : b' ≠ b2 := fun e => hb' (by simp [e])
    obtain ⟨h2, h3⟩ := hkp b' l' (by simp [e1]) (by rw [k2 b' e2, k1 b' e1]; exact h1)
    exact ⟨by rw [k5 b' e1, get_set_ne _ _ _ _ (Ne.symm e2)]; exact h2, h3⟩

/-- An inner row is taken out. -/
theorem k_take {α : Type} {enc : α → List D} {t : TypeId} {x : Operand} {isz i : Nat} {d : TypeDesc} {H' : List Blk} (b : Nat) (xs : List (List α)) {r : List α} (hx : ev T x = .eptr b xs.length i 0 := by kernel_rfl) (hk : H[b]? = some (.deep isz (xs.map (dp enc))) := by kernel_rfl) (hu : P.underlying t = some d) (hd : aggD d = false := by kernel_rfl)
    (he : xs[i]? = some r) (hH : H.set b (.deep isz ((xs.map (dp enc)).set i none)) ++ [.sl isz (r.map enc) false] = H' := by kernel_rfl) : Does P ⟨dst, .load t x, type, pos, after, guard⟩ T H (.ref H.length r.length 0 r.length) H' [b] := fun φ I w a hR hT => by
  subst hH
  have hbH := (List.getElem?_eq_some_iff.1 hk).1
  have hix := (List.getElem?_eq_some_iff.1 he).1
  obtain ⟨vs, gs, φ1, hR1, hp1, l1, l1', len1, k1, o1, n1, q1⟩ := deep_open hR hk
  have hvl : (valR vs).length = xs.length := by rw [valR_len, hp1.len1]; simp
  have hvn : i < vs.length := by rw [hp1.len1]; simpa using hix
  have hgn : i < gs.length := by rw [hp1.len2]; simpa using hix
  obtain ⟨v, hv⟩ : ∃ v, vs[i]? = some v := ⟨_, List.getElem?_eq_getElem hvn⟩
  obtain ⟨go, hgo⟩ : ∃ go, gs[i]? = some go := ⟨_, List.getElem?_eq_getElem hgn⟩
  have hld := q_loadE (P := P) (T := T) (H := H.set b (.sl 1 (valR vs) false)) (dst := dst) (type := type) (pos := pos) (after := after) (guard := guard) (b := b) (esz := 1) (fro := false) hx (by simp [hbH]) hvl hu hd (valR_get hv) (v := D.val v) rfl
  obtain ⟨c, hc1, hc2⟩ := hld φ1 I w a hR1 (hT.view l1)
  have hcv := hc2.val_inv
  subst hcv
  have hin := hp1.inn i (r.map enc) c go (get_dp he) hv hgo
  have hset : ∀ x, some x ∈ gs.set i none → some x ∈ gs := fun x hx' => by
    rcases List.mem_or_eq_of_mem_set hx' with h | h
    · exact h
    · cases h
  have hP : Pool I w isz ((xs.map (dp enc)).set i none) vs (gs.set i none) := by
    refine ⟨by rw [List.length_set]; exact hp1.len1, by simp [hp1.len2], hp1.one, fun i' j' x h1 h2 => ?_, fun x h => hp1.nI x (hset x h), fun x h => hp1.lt x (hset x h), fun i' xs' v' go' h1 h2 h3 => ?_⟩
    · by_cases e1 : i = i'
      · subst e1; simp [hgn] at h1
      · by_cases e2 : i = j'
        · subst e2; simp [hgn] at h2
        · rw [get_set_ne _ _ _ _ e1] at h1
          rw [get_set_ne _ _ _ _ e2] at h2
          exact hp1.dist i' j' x h1 h2
    · by_cases e1 : i = i'
      · subst e1; simp [hix] at h1
      · rw [get_set_ne _ _ _ _ e1] at h1 h3
        exact hp1.inn i' xs' v' go' h1 h2 h3
  obtain ⟨φ2, hR2, l2, len2, k2, q2⟩ := deep_close hR1 (b := b) (isz := isz) (xss := (xs.map (dp enc)).set i none) (vs := vs) (gs := gs.set i none) (by simp [hbH]) hP (fun x hx' => n1 x (hset x hx'))
  rw [List.set_set] at hR2
  -- the row, as a block
  have hfree : ∀ x, go = some x → ∀ (b' : Nat) (l' : Plc), φ2[b']? = some l' → ¬ l'.owns x := fun x hx' b' l' h1 h2 => by
    subst hx'
    have hmem : some x ∈ gs := List.mem_of_getElem? hgo
    by_cases e1 : b' = b
    · subst e1
      rcases q2 l' x h1 h2 with ⟨l0, h3, h4⟩ | h3
      · exact n1 x hmem b' l0 h3 h4
      · obtain ⟨j, hj, hjx⟩ := List.getElem_of_mem h3
        have hjx' : (gs.set i none)[j]? = some (some x) := by rw [List.getElem?_eq_getElem hj, hjx]
        by_cases e2 : i = j
        · subst e2; simp [hgn] at hjx'
        · rw [get_set_ne _ _ _ _ e2] at hjx'
          exact e2 (hp1.dist i j x hgo hjx')
    · rw [k2 b' e1] at h1
      exact n1 x hmem b' l' h1 h2
  have hfin : ∃ l', Rel (H.set b (.deep isz ((xs.map (dp enc)).set i none)) ++ [.sl isz (r.map enc) false]) (φ2 ++ [l']) I w ∧ VR (φ2 ++ [l']) I w (.ref H.length r.length 0 r.length) c ∧ ∀ x, l'.owns x → go = some x := by
    have hφl : φ2.length = H.length := by rw [len2, len1, hR.len]
    generalize hrr : r.map enc = R at hin
    have hRl : R.length = r.length := by rw [← hrr]; simp
    cases hin with
    | nil =>
      have hr0 : r.length = 0 := hRl.symm
      refine ⟨.virt, hR2.add (.virt isz false) (fun x h => h.elim), ?_, fun x h => h.elim⟩
      rw [hr0]
      exact virt_VR φ2 I w hφl
    | zero a0 g δ n hat =>
      have hr0 : r.length = 0 := hRl.symm
      refine ⟨.at g δ isz 0 n [], hR2.add hat.br fun x h => hfree x (by have : g = x := h; rw [this]), ?_, fun x h => by have : g = x := h; rw [this]⟩
      rw [hr0]
      exact .refZ H.length 0 0 g δ isz n a0 (gs := []) (by rw [← hφl]; simp) (Nat.le_refl _)
    | row _ g δ cap n hat h1 h2 =>
      refine ⟨.at g δ isz R.length n [], hR2.add hat.br fun x h => hfree x (by have : g = x := h; rw [this]), ?_, fun x h => by have : g = x := h; rw [this]⟩
      have := VR.ref (φ := φ2 ++ [.at g δ isz R.length n []]) (I := I) (w := w) (gs := []) H.length R.length 0 R.length g δ isz n cap (by rw [← hφl]; simp) (by omega) h1 (by omega) (by simpa using h2)
      rw [hRl] at this ⊢
      simpa using this
  obtain ⟨l', hR3, hvr, ho3⟩ := hfin
  have hLE : LE φ1 (φ2 ++ [l']) := l2.trans (LE.append φ2 [l'])
  refine ⟨φ2 ++ [l'], I, w, c, .inl (hc1 w (fun _ _ => rfl) (fun _ _ _ _ _ _ => rfl)), Turn.around l1 (fun b' l x h1 h2 => ?_) (Turn.refl φ1 I w) hLE (fun b' l x h1 h2 => ?_), hR3, hvr, fun b' l hb' h1 => ?_⟩
  · by_cases e1 : b' = b
    · subst e1
      obtain ⟨l0, h3, h4⟩ := q1 l x h1 h2
      exact ⟨b', l0, h3, h4⟩
    · exact ⟨b', l, by rw [← k1 b' e1]; exact h1, h2⟩
  · rcases Nat.lt_or_ge b' φ2.length with hlt | hge
    · rw [List.getElem?_append_left hlt] at h1
      by_cases e1 : b' = b
      · subst e1
        rcases q2 l x h1 h2 with ⟨l0, h3, h4⟩ | h3
        · exact .inl ⟨b', l0, h3, h4⟩
        · obtain ⟨l0, h4, h5⟩ := o1 x (hset x h3)
          exact .inr ⟨b', l0, h4, h5⟩
      · rw [k2 b' e1] at h1
        exact .inl ⟨b', l, h1, h2⟩
    · rw [List.getElem?_append_right hge] at h1
      have hb0 : b' - φ2.length = 0 := by have := (List.getElem?_eq_some_iff.1 h1).1; simp at this; omega
      rw [hb0] at h1
      simp at h1
      subst h1
      have := ho3 x h2
      subst this
      obtain ⟨l0, h4, h5⟩ := o1 x (List.mem_of_getElem? hgo)
      exact .inr ⟨b, l0, h4, h5⟩
  · have e1 : b' ≠ b := fun e => hb' (by simp [e])
    have hlt : b' < φ2.length := by rw [len2, len1]; exact (List.getElem?_eq_some_iff.1 h1).1
    exact ⟨by rw [List.getElem?_append_left hlt, k2 b' e1, k1 b' e1]; exact h1, fun _ _ => rfl⟩
end
end Go.VM
namespace Go.VM
set_option linter.unusedVariables false
set_option linter.unusedSimpArgs false

section
variable {P : Program} {T : Tm} {H : List Blk} {dst : Option Tmp} {type : TypeId} {pos : String} {after : Array Edge} {guard : Option (Nat × Bool)}

/-- A block's row is put into a place of a row of slices. -/
theorem k_put {α : Type} {enc : α → List D} {t : TypeId} {j k isz i bytes : Nat} {z : Value} {H' : List Blk} (b b2 : Nat) (xs : List (List α)) {yss : List (Option (List (List D)))} (r : List α) {xs' : List (List α)} (hx : get T j = .eptr b xs.length i 0 := by kernel_rfl) (hjk : Nat.beq j k = false := by kernel_rfl) (hk : H[b]? = some (.deep isz yss) := by kernel_rfl) (hl : yss.length = xs.length) (hil : i < xs.length)
    (hi : TyI P t z 1 bytes) (hy : get T k = .ref b2 r.length 0 r.length := by kernel_rfl) (hk2 : H[b2]? = some (.sl isz (r.map enc) false) := by kernel_rfl) (hne : Nat.beq b b2 = false := by kernel_rfl) (hset : yss.set i (some (r.map enc)) = xs'.map (dp enc)) (hH : (H.set b (.deep isz (xs'.map (dp enc)))).set b2 .dead = H' := by kernel_rfl) :
    Does P ⟨dst, .store t (.tmp j) (.tmp k), type, pos, after, guard⟩ T H .undef H' [b, b2] := fun φ I w a hR hT => by
  subst hH
  have hneq : b ≠ b2 := fun h => by subst h; simp at hne
  have hbH := (List.getElem?_eq_some_iff.1 hk).1
  have hb2H := (List.getElem?_eq_some_iff.1 hk2).1
  obtain ⟨vs, gs, φ1, hR1, hp1, l1, l1', len1, k1, o1, n1, q1⟩ := deep_open hR hk
  have hvl : (valR vs).length = xs.length := by rw [valR_len, hp1.len1, hl]
  have hvn : i < vs.length := by rw [hp1.len1, hl]; exact hil
  have hgn : i < gs.length := by rw [hp1.len2, hl]; exact hil
  have hxv : VR φ I w (.ref b2 (r.map enc).length 0 (r.map enc).length) (a.tmps.getD k undef) := by
    have := hT k
    rw [hy] at this
    rw [map_len enc r]
    exact this
  obtain ⟨v, hv⟩ : ∃ v, v = a.tmps.getD k undef := ⟨_, rfl⟩
  have hT2 := (hT.view l1).val (hxv.mono l1 (fun _ h => h) (fun _ _ => rfl)) rfl
  rw [← hv] at hT2 hxv
  have hone := hxv.one rfl
  have e1 : ev ((k, V.d (.val v)) :: T) (.tmp j) = .eptr b xs.length i 0 := by
    show get ((k, V.d (.val v)) :: T) j = _
    simp only [get, hjk, cond_false]
    exact hx
  have e2 : ev ((k, V.d (.val v)) :: T) (.tmp k) = .d (.val v) := by simp [ev, get]
  obtain ⟨v0, hv0⟩ : ∃ v0, vs[i]? = some v0 := ⟨_, List.getElem?_eq_getElem hvn⟩
  have hst := d_storeE (P := P) (T := (k, V.d (.val v)) :: T) (H := H.set b (.sl 1 (valR vs) false)) (dst := dst) (type := type) (pos := pos) (after := after) (guard := guard) (b := b) (esz := 1) (xs := valR vs) (xs' := valR (vs.set i v)) (e' := [D.val v]) (ds := [D.val v]) e1 (by simp [hbH]) hvl (valR_get hv0) hi
    (by rw [e2]; rfl) rfl rfl (by omega) rfl (by simp [valR, List.map_set])
  obtain ⟨φ2, I2, w2, c, hrun, ht, hR2, hvc, hkp⟩ := hst φ1 I w a hR1 hT2
  rw [List.set_set] at hR2
  obtain ⟨l, hl0⟩ : ∃ l, φ1[b2]? = some l := ⟨_, List.getElem?_eq_getElem (by rw [len1, hR.len]; exact hb2H)⟩
  have hl2 := (hkp b2 l (by simp [Ne.symm hneq]) hl0).1
  obtain ⟨go, hin, hgo⟩ := ref_inner hR2 (b := b2) (isz := isz) (xs := r.map enc) (v := v) (by rw [get_set_ne _ _ _ _ hneq]; exact hk2) ((hxv.mono l1 (fun _ h => h) (fun _ _ => rfl)).turn ht)
  obtain ⟨P1, m1⟩ := hp1.step ht n1
  have hR3 := hR2.kill hl2
  have hmem : ∀ x, some x ∈ gs.set i go → some x ∈ gs ∨ go = some x := fun x h => by
    rcases List.mem_or_eq_of_mem_set h with h | h
    · exact .inl h
    · exact .inr h.symm
  have hnotin : ∀ x, go = some x → some x ∉ gs := fun x hx' hm => by
    obtain ⟨_, _, l0, h1, h2⟩ := hgo x hx'
    exact m1 x hm b2 l0 h1 h2
  have hP : Pool I2 w2 isz (xs'.map (dp enc)) (vs.set i v) (gs.set i go) := by
    rw [← hset]
    refine ⟨by simp [P1.len1], by simp [P1.len2], fun v' h => ?_, fun i' j' x h1 h2 => ?_, fun x h => ?_, fun x h => ?_, fun i' xs0 v' go' h1 h2 h3 => ?_⟩
    · rcases List.mem_or_eq_of_mem_set h with h | h
      · exact P1.one v' h
      · rw [h]; exact hone
    · by_cases a1 : i = i'
      · subst a1
        by_cases a2 : i = j'
        · exact a2
        · simp [hgn] at h1
          rw [get_set_ne _ _ _ _ a2] at h2
          exact (hnotin x h1 (List.mem_of_getElem? h2)).elim
      · rw [get_set_ne _ _ _ _ a1] at h1
        by_cases a2 : i = j'
        · subst a2
          simp [hgn] at h2
          exact (hnotin x h2 (List.mem_of_getElem? h1)).elim
        · rw [get_set_ne _ _ _ _ a2] at h2
          exact P1.dist i' j' x h1 h2
    · rcases hmem x h with h | h
      · exact P1.nI x h
      · exact (hgo x h).1
    · rcases hmem x h with h | h
      · exact P1.lt x h
      · exact (hgo x h).2.1
    · by_cases a1 : i = i'
      · subst a1
        have hy2 : i < yss.length := by omega
        simp [hy2] at h1
        simp [hvn] at h2
        simp [hgn] at h3
        subst h1 h2 h3
        exact hin
      · rw [get_set_ne _ _ _ _ a1] at h1 h2 h3
        exact P1.inn i' xs0 v' go' h1 h2 h3
  obtain ⟨φ4, hR4, l4, len4, k4, q4⟩ := deep_close hR3 (b := b) (isz := isz) (xss := xs'.map (dp enc)) (vs := vs.set i v) (gs := gs.set i go) (by rw [get_set_ne _ _ _ _ (Ne.symm hneq)]; simp [hbH]) hP (fun x hx' b' l' h1 h2 => by
    obtain ⟨h3, h4⟩ := kill_owns hl2 h1 h2
    rcases hmem x hx' with h | h
    · exact m1 x h b' l' h4 h2
    · obtain ⟨_, _, l0, h5, h6⟩ := hgo x h
      exact h3 (hR2.inj b' b2 l' l0 x h4 h5 h2 h6))
  have hLE : LE φ2 φ4 := (LE.set hl2 (.dead _)).trans l4
  refine ⟨φ4, I2, w2, c, hrun, Turn.around l1 (fun b' l x h1 h2 => ?_) ht hLE (fun b' l' x h1 h2 => ?_), ?_, hvc.mono hLE (fun _ h => h) (fun _ _ => rfl), fun b' l' hb' h1 => ?_⟩
  · by_cases a1 : b' = b
    · subst a1
      obtain ⟨l0, h3, h4⟩ := q1 l x h1 h2
      exact ⟨b', l0, h3, h4⟩
    · exact ⟨b', l, by rw [← k1 b' a1]; exact h1, h2⟩
  · by_cases a1 : b' = b
    · subst a1
      rcases q4 l' x h1 h2 with ⟨l0, h3, h4⟩ | h3
      · exact .inl ⟨b', l0, (kill_owns hl2 h3 h4).2, h4⟩
      · rcases hmem x h3 with h | h
        · obtain ⟨l0, h4, h5⟩ := o1 x h
          exact .inr ⟨b', l0, h4, h5⟩
        · obtain ⟨_, _, l0, h4, h5⟩ := hgo x h
          exact .inl ⟨b2, l0, h4, h5⟩
    · rw [k4 b' a1] at h1
      exact .inl ⟨b', l', (kill_owns hl2 h1 h2).2, h2⟩
  · have e : (((H.set b (.sl 1 (valR (vs.set i v)) false)).set b2 .dead).set b (.deep isz (xs'.map (dp enc)))) = (H.set b (.deep isz (xs'.map (dp enc)))).set b2 .dead := by
      apply List.ext_getElem?
      intro i'
      by_cases h1 : i' = b
      · subst h1
        rw [get_set_ne _ b2 i' _ (Ne.symm hneq)]
        simp [hbH]
      · by_cases h2 : i' = b2
        · subst h2
          rw [get_set_ne _ b i' _ (Ne.symm h1)]
          simp [hb2H]
        · simp only [get_set_ne _ _ _ _ (Ne.symm h1), get_set_ne _ _ _ _ (Ne.symm h2)]
    rw [← e]
    exact hR4
  · have a1 : b' ≠ b := fun e => hb' (by simp [e])
    have a2 : b' ≠ b2 := fun e => hb' (by simp [e])
    obtain ⟨h2, h3⟩ := hkp b' l' (by simp [a1]) (by rw [k1 b' a1]; exact h1)
    exact ⟨by rw [k4 b' a1, get_set_ne _ _ _ _ (Ne.symm a2)]; exact h2, h3⟩
end

section
variable {R : Type} {E : R → V × List Blk} {o : Option R} {P : Program} {f : FuncId} {N m : Nat} {T : Tm} {H : List Blk} {k : List VI}
theorem put_full {α : Type} {enc : α → List D} {xs xs' : List (List α)} {r : List α} {i : Nat} (h : xs.set i r = xs') : (xs.map (dp enc)).set i (some (r.map enc)) = xs'.map (dp enc) := by rw [← h, List.map_set]; rfl
theorem put_hole {α : Type} {enc : α → List D} {xs xs' : List (List α)} {r : List α} {i : Nat} (h : xs.set i r = xs') : ((xs.map (dp enc)).set i none).set i (some (r.map enc)) = xs'.map (dp enc) := by rw [List.set_set]; exact put_full h
/-- An inner row, as data. -/
theorem Inner.data {I : Nat → Prop} {w : World} {isz : Nat} {xs : List (List D)} {go : Option Nat} {v : Value} (h : Inner I w isz xs go v) : DR (fun x => I x ∨ go = some x) w (.lit xs) v := by
  have hrow : ∀ (g δ n cap : Nat), go = some g → SlAt I w isz xs false g δ n → xs.length ≤ cap → DR (fun x => I x ∨ go = some x) w (.lit xs) (.slice (some ⟨g, δ, none⟩) xs.length cap) := fun g δ n cap hgo hat hcap => by
    obtain ⟨arr, e, hg, rfl, hn, hlen, hc, hz, hI⟩ := hat
    refine .lit xs g δ isz cap (fun i j => (arr[δ + i * isz + j]?).getD undef) (.inr hgo) hlen (fun i j d hd => ?_) (fun i j d hd => ?_) hcap
    · obtain ⟨hi, hj⟩ := get2_lt hlen hd
      have hm : i * isz + isz ≤ xs.length * isz := by rw [← Nat.succ_mul]; exact Nat.mul_le_mul_right _ hi
      have hlt : δ + i * isz + j < arr.size := by omega
      unfold World.cell?
      simp only [hg]
      simp [Array.getElem?_eq_getElem hlt]
    · obtain ⟨hi, hj⟩ := get2_lt hlen hd
      have hm : i * isz + isz ≤ xs.length * isz := by rw [← Nat.succ_mul]; exact Nat.mul_le_mul_right _ hi
      have hlt : δ + i * isz + j < arr.size := by omega
      refine DR.mono (fun _ h => .inl h) (fun _ _ => rfl) (hc i j d _ hd ?_)
      simp [Array.getElem?_eq_getElem hlt]
  cases h with
  | nil => exact .nil none 0
  | zero a g δ n hat => exact .nil a 0
  | row _ g δ cap n hat h1 h2 => exact hrow g δ n cap rfl hat h1

/-- From now on nobody writes the row, nor its inner rows. -/
theorem gFreezeDeep {α : Type} {enc : α → List D} {todo : List VI} {r : V} {B : List Blk} (b : Nat) {isz : Nat} {xs : List (List α)} (hk : H[b]? = some (.deep isz (xs.map (dp enc)))) (h : Goes P f N m todo T (H.set b (.sl 1 (xs.map fun x => [D.lit (x.map enc)]) true)) r B) : Goes P f N m todo T H r B := by
  refine gGhost (fun φ I w a hR hT => ?_) h
  have hbH : b < H.length := (List.getElem?_eq_some_iff.1 hk).1
  have hblt : b < φ.length := by rw [hR.len]; exact hbH
  have hbl := hR.blk b _ _ hk (List.getElem?_eq_getElem hblt)
  have hφ := List.getElem?_eq_getElem hblt
  generalize φ[b] = l at hbl hφ
  generalize hX : xs.map (dp enc) = X at hbl
  cases hbl with
  | deepVirt =>
    have : xs = [] := by simpa using hX
    subst this
    exact ⟨φ, I, Turn.refl φ I w, hR.retell hφ (.virt _ _), hT⟩
  | deep _ _ vs g δ n gs hb hp hng =>
    have hXl : X.length = xs.length := by rw [← hX]; simp
    have ht : Turn φ I w (φ.set b (.at g δ 1 X.length n [])) (fun x => I x ∨ (g = x ∨ some x ∈ gs)) w := by
      refine ⟨rfl, rfl, rfl, Nat.le_refl _, Nat.le_refl _, fun _ _ _ => rfl, fun _ _ => rfl, fun _ h => .inl h, LE.set hφ (.same _ _ _ _ _ _ _), fun b' l' x h1 h2 => ?_, fun x hx => ?_⟩
      · by_cases he : b = b'
        · subst he
          simp [hblt] at h1
          subst h1
          exact .inr ⟨b, _, hφ, owns_at.2 (.inl h2)⟩
        · rw [get_set_ne _ _ _ _ he] at h1
          exact .inr ⟨b', l', h1, h2⟩
      · rcases hx with hx | hx
        · exact .inl hx
        · exact .inr (.inr ⟨b, _, hφ, owns_at.2 hx⟩)
    refine ⟨_, _, ht, ?_, fun t => (hT t).turn ht⟩
    refine hR.step b (by simp [hR.len]) ht.le (fun _ h => .inl h) (fun _ _ => rfl) (fun b' k' l' hk' hl' => ?_) (fun b' l' x h1 h2 => ?_) (fun x hx => ?_)
    · by_cases he : b = b'
      · subst he
        simp [hbH] at hk'
        simp [hblt] at hl'
        subst hk' hl'
        refine .inr ?_
        have hlen : (xs.map fun x => [D.lit (x.map enc)]).length = X.length := by simp [hXl]
        rw [← hlen]
        obtain ⟨arr, e, hg, rfl, hn, hrow, hc, hz, hI⟩ := hb
        refine .sl 1 _ true g δ arr e hg (by rw [hlen, ← hp.len1]; simpa using hn) (fun i x hx => ?_) (fun i j d c hd hcj => ?_) (by omega) ⟨fun _ => .inr (.inl rfl), fun _ => rfl⟩
        · simp only [List.getElem?_map] at hx
          obtain ⟨x0, _, rfl⟩ := Option.map_eq_some_iff.1 hx
          rfl
        · unfold get2 at hd
          simp only [List.getElem?_map] at hd
          cases hxi : xs[i]? with
          | none => rw [hxi] at hd; cases hd
          | some x =>
            rw [hxi] at hd
            have hj : j = 0 := by
              have := (List.getElem?_eq_some_iff.1 (show [D.lit (x.map enc)][j]? = some d from hd)).1
              simp at this; omega
            subst hj
            have hd' : D.lit (x.map enc) = d := by simpa using hd
            subst hd'
            have hi : i < xs.length := (List.getElem?_eq_some_iff.1 hxi).1
            obtain ⟨v, hv⟩ : ∃ v, vs[i]? = some v := ⟨_, List.getElem?_eq_getElem (by rw [hp.len1, hXl]; exact hi)⟩
            obtain ⟨go, hgo⟩ : ∃ go, gs[i]? = some go := ⟨_, List.getElem?_eq_getElem (by rw [hp.len2, hXl]; exact hi)⟩
            have hval := hc i 0 (.val v) c (by unfold get2; simp [hv]) hcj
            have hcv : c = v := by cases hval; rfl
            subst hcv
            have hin := hp.inn i (x.map enc) c go (by rw [← hX]; exact get_dp hxi) hv hgo
            exact hin.data.mono (fun y hy => by
              rcases hy with hy | hy
              · exact .inl hy
              · exact .inr (.inr (by rw [← hy]; exact List.mem_of_getElem? hgo))) (fun _ _ => rfl)
      · rw [get_set_ne _ _ _ _ he] at hk' hl'
        refine .inl ⟨hk', hl', fun g' hg' => ⟨rfl, fun hx => ?_⟩⟩
        rcases hx with hx | hx
        · exact hx
        · exact absurd (hR.inj b b' _ l' g' hφ hl' (owns_at.2 hx) hg') he
    · by_cases he : b = b'
      · subst he
        simp [hblt] at h1
        subst h1
        exact .inl ⟨_, hφ, owns_at.2 (.inl h2)⟩
      · rw [get_set_ne _ _ _ _ he] at h1
        exact .inl ⟨l', h1, h2⟩
    · rcases hx with hx | hx | hx
      · exact hR.imm x hx
      · subst hx; exact hb.lt
      · exact hp.lt x hx
theorem oFreezeDeep {α : Type} {enc : α → List D} {todo : List VI} (b : Nat) {isz : Nat} {xs : List (List α)} (hk : H[b]? = some (.deep isz (xs.map (dp enc))) := by kernel_rfl) (h : GoesO P f N m todo T (H.set b (.sl 1 (xs.map fun x => [D.lit (x.map enc)]) true)) E o) : GoesO P f N m todo T H E o := fun r hr => gFreezeDeep b hk (h r hr)
/-- A block without memory, of slices. -/
theorem oVirtDeep {isz : Nat} {todo : List VI} (t : Nat) (ht : get T t = .nilc := by kernel_rfl) (h : GoesO P f N m todo ((t, .ref H.length 0 0 0) :: T) (H ++ [.deep isz []]) E o) : GoesO P f N m todo T H E o := fun r hr => by
  refine gVirt (esz := 1) t ht (gGhost (fun φ I w a hR hT => ?_) (h r hr))
  obtain ⟨l, hl⟩ : ∃ l, φ[H.length]? = some l := ⟨φ[H.length]'(by rw [hR.len]; simp), List.getElem?_eq_getElem _⟩
  have hb := hR.blk H.length (.sl 1 [] false) l (by simp) hl
  have hv : BR φ I w (.deep isz []) l ∨ ∃ g δ n, l = .at g δ 1 0 n [] := by
    cases hb with
    | virt => exact .inl (.deepVirt isz)
    | sl _ _ _ g δ arr e => exact .inr ⟨g, δ, arr.size, rfl⟩
  rcases hv with hv | ⟨g, δ, n, rfl⟩
  · have := hR.retell hl hv
    rw [list_push_set] at this
    exact ⟨φ, I, Turn.refl φ I w, this, hT⟩
  · have hat := hb.slAt.2.2
    have := hR.retell (k0 := .deep isz []) hl (.deep isz [] [] g δ n [] hat ⟨rfl, rfl, by simp, by simp, by simp, by simp, by simp⟩ (by simp))
    rw [list_push_set] at this
    exact ⟨φ, I, Turn.refl φ I w, this, hT⟩
theorem oVirtBDeep {isz : Nat} {todo : List VI} (b off : Nat) {cells : List V} (hk : H[b]? = some (.box cells) := by kernel_rfl) (ho : cells[off]? = some .nilc := by kernel_rfl) (h : GoesO P f N m todo T (H.set b (.box (cells.set off (.ref H.length 0 0 0))) ++ [.deep isz []]) E o) : GoesO P f N m todo T H E o := fun r hr => by
  refine gVirtB (esz := 1) b off hk ho (gGhost (fun φ I w a hR hT => ?_) (h r hr))
  have e : (H.set b (.box (cells.set off (.ref H.length 0 0 0)))).length = H.length := by simp
  obtain ⟨l, hl⟩ : ∃ l, φ[H.length]? = some l := ⟨φ[H.length]'(by rw [hR.len]; simp), List.getElem?_eq_getElem _⟩
  have hb := hR.blk H.length (.sl 1 [] false) l (by rw [List.getElem?_append_right (by omega)]; simp) hl
  have hv : BR φ I w (.deep isz []) l ∨ ∃ g δ n, l = .at g δ 1 0 n [] := by
    cases hb with
    | virt => exact .inl (.deepVirt isz)
    | sl _ _ _ g δ arr e => exact .inr ⟨g, δ, arr.size, rfl⟩
  have hp : ((H.set b (.box (cells.set off (.ref H.length 0 0 0)))) ++ [Blk.sl 1 [] false]).set H.length (.deep isz []) = H.set b (.box (cells.set off (.ref H.length 0 0 0))) ++ [.deep isz []] := by
    have := list_push_set (H.set b (.box (cells.set off (.ref H.length 0 0 0)))) (Blk.sl 1 [] false) (.deep isz [])
    rw [e] at this
    exact this
  rcases hv with hv | ⟨g, δ, n, rfl⟩
  · have := hR.retell hl hv
    rw [hp] at this
    exact ⟨φ, I, Turn.refl φ I w, this, hT⟩
  · have hat := hb.slAt.2.2
    have := hR.retell (k0 := .deep isz []) hl (.deep isz [] [] g δ n [] hat ⟨rfl, rfl, by simp, by simp, by simp, by simp, by simp⟩ (by simp))
    rw [hp] at this
    exact ⟨φ, I, Turn.refl φ I w, this, hT⟩
end
end Go.VM
