/- What is closed: plain reasoning about the printed functions. -/
import Derived.Test.YtdpoilkjdfnadaaSPTotal
namespace Go.VM
set_option linter.unusedVariables false
set_option linter.unusedSimpArgs false

/-- An answer to a part. -/
def FineAnswer (p : SPart) (a : Int) : Prop := p.Kind = 2 → -2 ≤ a ∧ a < p.Options
theorem TGiven_then {k : Nat} {p : List SPart} {x : List Int} {i : Int} {Y : Type} {f : List Int → Int → Option Y} {Q : Y → Prop} (hx : x.length ≤ 600) (h0 : 0 ≤ i) (hk : 10 < k) (hp : FineParts p) (hf : ∀ l j, Each FineAnswer p l → 0 ≤ j → Ok (f l j) Q) : Ok (Option.bind (make_Tape_Given k p x i) (uc f)) Q := by
  unfold make_Tape_Given
  have hpl := hp.2.1
  refine Ok.bind (Q := fun r => Each FineAnswer p r.1 ∧ 0 ≤ r.2) ?_ fun r hr => ?_
  · refine Ok.bind (Q := fun r => 0 ≤ r.1 ∧ Each FineAnswer p r.2) (ok_range p (fun s => s.1) (fun pre s => 0 ≤ s.2.1 ∧ Each FineAnswer pre s.2.2) (by omega) rfl ⟨h0, .nil⟩ (by omega) ?_ ?_) fun r hr => ?_
    · intro again s pre e post hl hi hlt hw hinv hag
      obtain ⟨i, j, xs⟩ := s
      obtain ⟨hj, hE⟩ := hinv
      simp only at hi hlt hw hj hE
      simp only [make_Tape_Given_b1, uc_mk]
      rw [dec_lt hlt, cond_true, gidx_mid hl hi]
      have hel : e ∈ p := by rw [hl]; simp
      have hpe := hp.2.2 e hel
      unfold FineP at hpe
      have hle : pre.length ≤ 6 := by rw [hl] at hpl; simp at hpl; omega
      rw [w64 (x := e.Options - 1) (by omega) (by omega), show gmax (e.Options - 1) (-1) = max (e.Options - 1) (-1) by rw [gmax_def]; omega]
      refine Range_then hx hj (by omega) (by omega) (by omega) fun m j h1 h2 hj => ?_
      refine Ok.bind (Q := fun r => FineAnswer e r.1 ∧ 0 ≤ r.2) (ok_bif (fun h => ?_) fun h => Ok.ret ⟨?_, hj⟩) fun r hr => ?_
      · have hk2 : e.Kind ≠ 2 := by simpa using h
        unfold make_Tape_Pick_2
        refine Ok.bind (Q := fun r => 0 ≤ r.2) (TNext_then hx hj (by simp) (by simp) fun z j h1 h2 hj => ok_idx h1 h2 fun hi => Ok.ret hj) fun r hr => ?_
        obtain ⟨a, j⟩ := r
        exact Ok.ret ⟨fun h => absurd h hk2, hr⟩
      · intro hk2; simp only; omega
      · obtain ⟨a, j⟩ := r
        simp only [uc_mk]
        refine ok_cap (by simp [hE.1]; omega) ?_
        rw [hw]
        exact hag _ rfl ⟨hr.2, hE.snoc hr.1⟩
    · intro again s hi hinv
      obtain ⟨i, j, xs⟩ := s
      simp only at hi
      simp only [make_Tape_Given_b1, uc_mk]
      rw [dec_nlt (by omega), cond_false]
      exact Ok.ret hinv
    · obtain ⟨j, l⟩ := r
      exact Ok.ret ⟨hr.2, hr.1⟩
  · obtain ⟨l, j⟩ := r
    exact hf l j hr.1 hr.2
def acc (p : SPart) (ks : List Int) (a : Int) : Bool := if ks = [] then decide (a = p.Key) else decide (a ∈ ks)
theorem contains_eq {k : Nat} {l : List Int} {v : Int} (hl : l.length ≤ 100) (hk : 110 < k) : slices_Contains_int k l v = some (decide (v ∈ l)) := by
  unfold slices_Contains_int
  have h : Ok (slices_Index_int k l v) (fun r => (0 ≤ r ↔ v ∈ l)) := by
    unfold slices_Index_int
    refine ok_sum (Q := fun _ => v ∉ l) (R := fun r => 0 ≤ r ∧ v ∈ l) (ok_range l (fun s => s) (fun pre s => v ∉ pre) (by omega) rfl (by simp) (by omega) ?_ ?_) ?_ ?_
    · intro again s pre e post hle hi hlt hw hinv hag
      simp only [slices_Index_int_b1]
      rw [dec_lt hlt, cond_true, gidx_mid hle hi]
      refine ok_bif (fun h => Ok.ret ?_) fun h => ?_
      · have : v = e := by simpa using h
        exact ⟨by omega, by rw [hle]; simp [this]⟩
      · have : v ≠ e := by simpa using h
        rw [hw]
        exact hag _ rfl (by simp [hinv, this])
    · intro again s hi hinv
      simp only [slices_Index_int_b1]
      rw [dec_nlt (by omega), cond_false]
      exact Ok.ret hinv
    · intro a ha; exact Ok.ret ⟨fun h => by omega, fun h => absurd h ha⟩
    · intro r hr; exact Ok.ret ⟨fun _ => hr.2, fun _ => hr.1⟩
  obtain ⟨r, e, hr⟩ := h
  rw [e]
  by_cases hv : v ∈ l
  · have := hr.2 hv; simp [hv, this]
  · have : ¬ 0 ≤ r := fun h => hv (hr.1 h)
    simp [hv]; omega
theorem accepts_eq {k : Nat} {p : SPart} {ks : List Int} {a : Int} (hl : ks.length ≤ 100) (hk : 110 < k) : scheme_accepts k p.Kind p.Max p.Topic p.Objective p.Options p.Key ks a = some (acc p ks a) := by
  unfold scheme_accepts acc
  cases ks with
  | nil => simp [beq_int]
  | cons x ks =>
    have e : (((x :: ks).length : Int) == 0) = false := by rw [beq_int]; simp; omega
    rw [e, cond_false, contains_eq hl hk]
    simp
def closedAt (p : SPart) (ks : List Int) (a : Int) : Int := if p.Kind = 1 then -2 else if a = -1 then -1 else if acc p ks a = true then p.Max else 0
/-- The i-th of the marks that are closed. -/
def ClosedL (p : List SPart) (ks : List (List Int)) (ans m : List Int) : Prop := m.length = p.length ∧ ∀ (i : Nat) (q : SPart) (key : List Int) (a v : Int), p[i]? = some q → ks[i]? = some key → ans[i]? = some a → m[i]? = some v → v = closedAt q key a
theorem closed_ok {k : Nat} {p : List SPart} {ks : List (List Int)} {ws ans : List Int} (hp : FineParts p) (hs : FineScheme p ks ws) (ha : Each FineAnswer p ans) (hk : 110 < k) : Ok (scheme_Closed k 0 0 p ks ws ans) (fun r => r.2 = 0 ∧ ClosedL p ks ans r.1) := by
  unfold scheme_Closed
  have h2 := hp.2.1
  have hkl := hs.keys.1
  have hal := ha.1
  rw [valid_ok hp hs (by omega)]
  simp only [Option.bind_some, Bool.not_true, cond_false, hal, bne_self_eq_false]
  refine ok_sum (Q := fun r => ClosedL p ks ans r) (R := fun _ => False) (ok_range p (fun s => s.1) (fun pre s => ClosedL pre ks ans s.2) (by omega) rfl ⟨rfl, fun i q key a v h => by simp at h⟩ (by omega) ?_ ?_) (fun r hr => Ok.ret ⟨rfl, hr⟩) (fun _ h => h.elim)
  · intro again s pre e post hl hi hlt hw hinv hag
    obtain ⟨i, xs⟩ := s
    simp only at hi hlt hw hinv
    simp only [scheme_Closed_b1, uc_mk]
    rw [dec_lt hlt, cond_true, gidx_mid hl hi]
    have hpi : p[i.toNat]? = some e := by rw [hl, List.getElem?_append_right (by omega)]; simp [hi]
    have hxl := hinv.1
    have hle : pre.length ≤ 5 := by rw [hl] at h2; simp at h2; omega
    have hpe := hp.2.2 e (by rw [hl]; simp)
    unfold FineP at hpe
    have step : ∀ v : Int, (∀ (a : Int) (key : List Int), ans[i.toNat]? = some a → ks[i.toNat]? = some key → v = closedAt e key a) → ClosedL (pre ++ [e]) ks ans (xs ++ [v]) := fun v hv => by
      refine ⟨by simp [hxl], fun n q key a w hq hkey ha' hw' => ?_⟩
      rcases Nat.lt_or_ge n pre.length with h | h
      · rw [List.getElem?_append_left h] at hq
        rw [List.getElem?_append_left (by rw [hxl]; exact h)] at hw'
        exact hinv.2 n q key a w hq hkey ha' hw'
      · rw [List.getElem?_append_right h] at hq
        rw [List.getElem?_append_right (by rw [hxl]; exact h), hxl] at hw'
        have hn : n - pre.length = 0 := by have := (List.getElem?_eq_some_iff.1 hq).1; simp at this; omega
        rw [hn] at hq hw'
        simp at hq hw'
        subst hq hw'
        have hni : n = i.toNat := by omega
        subst hni
        exact hv a key ha' hkey
    refine ok_sum (Q := fun r => ClosedL (pre ++ [e]) ks ans r) (R := fun _ => False) (ok_idx (by omega) (by omega) fun hi2 => ?_) (fun r hr => by rw [hw]; exact hag _ rfl hr) (fun _ h => h.elim)
    have hai := ha.2 i.toNat e _ hpi (List.getElem?_eq_getElem hi2)
    generalize hav : ans[i.toNat] = a at hai
    have hag2 : ans[i.toNat]? = some a := by rw [List.getElem?_eq_getElem hi2, hav]
    have hks : i.toNat < ks.length := by omega
    generalize hkv : ks[i.toNat] = key
    have hkey : ks[i.toNat]? = some key := by rw [List.getElem?_eq_getElem hks, hkv]
    have hfk := hs.keys.2 i.toNat e key hpi hkey
    refine ok_bif (fun h => ok_cap (by simp; omega) (Ok.ret (step _ fun a' key' e1 e2 => ?_))) fun h => ?_
    · have : e.Kind = 1 := by simpa using h
      simp [closedAt, this]
    · have hk1 : e.Kind ≠ 1 := by simpa using h
      have hk2 : e.Kind = 2 := by omega
      have har := hai hk2
      refine ok_let (Ok.bind (Q := fun r => r = false) (ok_bif (fun h => ok_let (Ok.ret ?_)) fun h => Ok.ret rfl) fun r hr => ?_)
      · simp [bne_int] at h
        have e1 : decide (a < 0) = false := decide_eq_false (by omega)
        have e2 : decide (a ≥ e.Options) = false := decide_eq_false (by omega)
        rw [e1, e2]; rfl
      · subst hr
        simp only [cond_false]
        refine ok_bif (fun h => ok_cap (by simp; omega) (Ok.ret (step _ fun a' key' e1 e2 => ?_))) fun h => ?_
        · rw [hag2] at e1; cases e1
          have : a = -1 := by simpa using h
          simp [closedAt, hk1, this]
        · have hne : a ≠ -1 := by simpa using h
          rw [gidx_some (by omega) hks, hkv, accepts_eq (by have := hfk.2.2; omega) hk, Option.bind_some]
          refine ok_bif (fun h => ok_cap (by simp; omega) (Ok.ret (step _ fun a' key' e1 e2 => ?_))) fun h => ok_cap (by simp; omega) (Ok.ret (step _ fun a' key' e1 e2 => ?_))
          · rw [hag2] at e1; cases e1
            rw [hkey] at e2; cases e2
            simp [closedAt, hk1, hne, h]
          · rw [hag2] at e1; cases e1
            rw [hkey] at e2; cases e2
            simp [closedAt, hk1, hne, h]
  · intro again s hi hinv
    obtain ⟨i, xs⟩ := s
    simp only at hi hinv
    simp only [scheme_Closed_b1, uc_mk]
    rw [dec_nlt (by omega), cond_false]
    exact Ok.ret hinv
theorem there_eq {k : Nat} {p : List SPart} {part : Int} (h0 : 0 ≤ part) (h1 : part < p.length) : scheme_there k 0 0 p part = some true := by
  unfold scheme_there
  rw [blet_mk]
  simp [h0, h1]
theorem Permitted_ok {k : Nat} {p : List SPart} {ks : List (List Int)} {ws : List Int} {part m : Int} (hp : FineParts p) (hs : FineScheme p ks ws) (h0 : 0 ≤ part) (h1 : part.toNat < p.length) (hm : FineMark p[part.toNat] m) (hk : 10 < k) : scheme_Permitted k 0 0 p ks ws part m = some true := by
  unfold scheme_Permitted
  rw [valid_ok hp hs hk, there_eq h0 (by omega)]
  simp only [Option.bind_some, cond_true]
  rw [gidx_some h0 h1, permitted_ok hm (hp.2.2 _ (List.getElem_mem h1))]
  rfl
theorem Accepts_eq {k : Nat} {p : List SPart} {ks : List (List Int)} {ws : List Int} {part a : Int} (hp : FineParts p) (hs : FineScheme p ks ws) (h0 : 0 ≤ part) (h1 : part.toNat < p.length) (h2 : part.toNat < ks.length) (hk2 : p[part.toNat].Kind = 2) (hk : 110 < k) : scheme_Accepts k 0 0 p ks ws part a = some (acc p[part.toNat] ks[part.toNat] a) := by
  unfold scheme_Accepts
  rw [valid_ok hp hs (by omega), there_eq h0 (by omega)]
  simp only [Option.bind_some, cond_true]
  have hfk := hs.keys.get h1 h2
  have e1 : (p[part.toNat].Kind == 2) = true := by rw [hk2]; rfl
  rw [gidx_some h0 h1, gidx_some h0 h1, gidx_some h0 h2, e1, accepts_eq (by have := hfk.2.2; omega) hk]
  rfl
end Go.VM
