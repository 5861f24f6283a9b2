/- What a scheme answers: plain reasoning about the printed functions. -/
import Derived.Test.YtdpoilkjdfnadaaSPMakeB
namespace Go.VM
set_option linter.unusedVariables false
set_option linter.unusedSimpArgs false

/-- Keys of a part: ascending options. -/
def FineKeys (p : SPart) (l : List Int) : Prop := l.Pairwise (· < ·) ∧ (∀ a ∈ l, 0 ≤ a ∧ a < p.Options) ∧ l.length ≤ 5
theorem asc_len {n : Int} (hn : 0 ≤ n) : ∀ (l : List Int), l.Pairwise (· < ·) → (∀ a ∈ l, 0 ≤ a ∧ a < n) → ∀ b : Int, (∀ a ∈ l, b ≤ a) → 0 ≤ b → b ≤ n → (l.length : Int) ≤ n - b := by
  intro l
  induction l with
  | nil => intro _ _ b _ _ h; simp; omega
  | cons x l ih =>
    intro hp hb b hba h0 hbn
    obtain ⟨h1, h2⟩ := List.pairwise_cons.1 hp
    have hx := hb x (by simp)
    have := ih h2 (fun a ha => hb a (by simp [ha])) (x + 1) (fun a ha => by have := h1 a ha; omega) (by omega) (by omega)
    have := hba x (by simp)
    simp only [List.length_cons]
    omega
def Known (w : Int) : Prop := w = 0 ∨ w = 1 ∨ w = 2
structure FineScheme (p : List SPart) (ks : List (List Int)) (ws : List Int) : Prop where
  keys : Each FineKeys p ks
  len : ws.length = p.length
  known : ∀ w ∈ ws, Known w

theorem TScheme_then {k : Nat} {p : List SPart} {x : List Int} {i : Int} {Y : Type} {f : List (List Int) → List Int → Int → Option Y} {Q : Y → Prop} (hx : x.length ≤ 600) (h0 : 0 ≤ i) (hk : 10 < k) (hp : FineParts p) (hf : ∀ ks ws j, FineScheme p ks ws → 0 ≤ j → Ok (f ks ws j) Q) : Ok (Option.bind (make_Tape_Scheme k p x i) (uc fun a => uc (f a))) Q := by
  unfold make_Tape_Scheme
  have hpl := hp.2.1
  refine Ok.bind (Q := fun r => FineScheme p r.1 r.2.1 ∧ 0 ≤ r.2.2) ?_ fun r hr => ?_
  · refine Ok.bind (Q := fun r => FineScheme p r.2.1 r.2.2 ∧ 0 ≤ r.1) (ok_range p (fun s => s.1) (fun pre s => 0 ≤ s.2.1 ∧ FineScheme pre s.2.2.1 s.2.2.2) (by omega) rfl ⟨h0, .nil, rfl, by simp⟩ (by omega) ?_ ?_) fun r hr => ?_
    · intro again s pre e post hl hi hlt hw hinv hag
      obtain ⟨i, j, ks, ws⟩ := s
      obtain ⟨hj, hS⟩ := hinv
      simp only at hi hlt hw hj hS
      simp only [make_Tape_Scheme_b1, uc_mk]
      rw [dec_lt hlt, cond_true, gidx_mid hl hi]
      have hel : e ∈ p := by rw [hl]; simp
      have hpe := hp.2.2 e hel
      unfold FineP at hpe
      have hle : pre.length ≤ 5 := by rw [hl] at hpl; simp at hpl; omega
      refine Ok.bind (Q := fun r => 0 ≤ r.2 ∧ (r.1 = true → e.Kind = 2)) (ok_bif (fun h => ?_) fun h => Ok.ret ⟨hj, by simp⟩) fun r hr => ?_
      · refine TNext_then hx hj (by omega) (by omega) fun z j h1 h2 hj => Ok.ret ⟨hj, fun _ => ?_⟩
        simpa using h
      · obtain ⟨b, j⟩ := r
        obtain ⟨hj, hb⟩ := hr
        simp only at hj hb
        simp only [uc_mk]
        refine Ok.bind (Q := fun r => 0 ≤ r.1 ∧ FineKeys e r.2) (ok_bif (fun h => ?_) fun h => Ok.ret ⟨hj, by simp, by simp, by simp⟩) fun r hr => ?_
        · have hk2 := hb h
          refine Ok.bind (Q := fun r => 0 ≤ r.1 ∧ FineKeys e r.2) (ok_loop (fun s => 0 ≤ s.1 ∧ s.1 ≤ e.Options ∧ 0 ≤ s.2.1 ∧ s.2.2.Pairwise (· < ·) ∧ (∀ a ∈ s.2.2, 0 ≤ a ∧ a < s.1)) (fun s => (e.Options - s.1).toNat) ⟨by simp, by simp only; omega, hj, by simp, by simp⟩ (by simp only; omega) ?_) fun r hr => ?_
          · intro again s hs hag
            obtain ⟨c, j, xs⟩ := s
            obtain ⟨g1, g2, g3, g4, g5⟩ := hs
            simp only at g1 g2 g3 g4 g5
            have hxl := asc_len (n := e.Options) (by omega) xs g4 (fun a ha => by have := g5 a ha; omega) 0 (fun a ha => (g5 a ha).1) (by omega) (by omega)
            simp only [make_Tape_Scheme_b2, uc_mk]
            rw [gidx_mid hl hi]
            refine ok_bif (fun hc => ?_) fun hc => ?_
            · have hc' := of_decide_eq_true hc
              refine Ok.bind (Q := fun r => 0 ≤ r.1 ∧ r.2.Pairwise (· < ·) ∧ (∀ a ∈ r.2, 0 ≤ a ∧ a < c + 1)) ?_ fun r hr => ?_
              · refine TNext_then hx g3 (by omega) (by omega) fun z j h1 h2 hj => ?_
                refine ok_bif (fun h => ok_cap (by simp; omega) (Ok.ret ⟨hj, ?_, fun a ha => ?_⟩)) fun h => Ok.ret ⟨hj, g4, fun a ha => by have := g5 a ha; omega⟩
                · refine List.pairwise_append.2 ⟨g4, by simp, fun a ha b hb => ?_⟩
                  simp only [List.mem_singleton] at hb
                  subst hb
                  exact (g5 a ha).2
                · simp only [List.mem_append, List.mem_singleton] at ha
                  rcases ha with ha | rfl
                  · have := g5 a ha; omega
                  · omega
              · obtain ⟨j, ys⟩ := r
                simp only [uc_mk]
                rw [w64 (x := c + 1) (by omega) (by omega)]
                exact hag _ ⟨by simp only; omega, by simp only; omega, hr.1, hr.2.1, hr.2.2⟩ (by simp only; omega)
            · have hc' := of_decide_eq_false hc
              exact Ok.ret ⟨g3, g4, fun a ha => by have := g5 a ha; omega, by simp only; omega⟩
          · obtain ⟨j, ys⟩ := r
            exact Ok.ret hr
        · obtain ⟨j, ys⟩ := r
          obtain ⟨hj, hy⟩ := hr
          simp only at hj hy
          simp only [uc_mk]
          have hkl := hS.keys.1
          have hwl := hS.len
          refine Ok.bind (Q := fun r => FineScheme (pre ++ [e]) (ks ++ [ys]) r.2 ∧ 0 ≤ r.1) (ok_cap (by simp; omega) ?_) fun r hr => ?_
          · unfold make_Tape_Pick
            refine Ok.bind (Q := fun r => Known r.1 ∧ 0 ≤ r.2) (TNext_then hx hj (by simp) (by simp) fun z j h1 h2 hj => ok_idx h1 h2 fun hi => Ok.ret ⟨?_, hj⟩) fun r hr => ?_
            · have : ∀ w ∈ ([0, 0, 0, 0, 1, 2] : List Int), Known w := by unfold Known; simp
              exact this _ (List.getElem_mem hi)
            · obtain ⟨w, j⟩ := r
              refine ok_cap (by simp; omega) (Ok.ret ⟨⟨hS.keys.snoc hy, by simp [hwl], fun v hv => ?_⟩, hr.2⟩)
              simp only [List.mem_append, List.mem_singleton] at hv
              rcases hv with hv | rfl
              · exact hS.known v hv
              · exact hr.1
          · obtain ⟨j, vs⟩ := r
            simp only [uc_mk]
            rw [hw]
            exact hag _ rfl ⟨hr.2, hr.1⟩
    · intro again s hi hinv
      obtain ⟨i, j, ks, ws⟩ := s
      simp only at hi
      simp only [make_Tape_Scheme_b1, uc_mk]
      rw [dec_nlt (by omega), cond_false]
      exact Ok.ret ⟨hinv.2, hinv.1⟩
    · obtain ⟨j, ks, ws⟩ := r
      exact Ok.ret hr
  · obtain ⟨ks, ws, j⟩ := r
    exact hf ks ws j hr.1 hr.2
theorem in_eq (k : Nat) (n lo hi : Int) : item_in k n lo hi = some (decide (lo ≤ n) && decide (n ≤ hi)) := rfl
theorem part_ok {k : Nat} {p : SPart} (h : FineP p) : item_ValidPart k p.Kind p.Max p.Topic p.Objective p.Options p.Key = some true := by
  unfold FineP at h
  unfold item_ValidPart
  simp only [in_eq, Option.bind_some]
  have e1 : (decide (1 ≤ p.Max) && decide (p.Max ≤ 40)) = true := by simp; omega
  have e2 : (decide (0 ≤ p.Topic) && decide (p.Topic ≤ 15)) = true := by simp; omega
  have e3 : (decide (0 ≤ p.Objective) && decide (p.Objective ≤ 5)) = true := by simp; omega
  rw [e1, e2, e3]
  simp only [Bool.not_true, cond_false, Option.bind_some]
  rcases h.2.2.2.2.2.2 with ⟨h1, h2, h3⟩ | ⟨h1, h2, h3, h4, h5⟩
  · rw [h1, h2, h3]; rfl
  · have e4 : (p.Kind == 1) = false := by rw [h1]; rfl
    have e5 : (p.Kind == 2) = true := by rw [h1]; rfl
    have e6 : (decide (2 ≤ p.Options) && decide (p.Options ≤ 5)) = true := by simp; omega
    have e7 : (decide (0 ≤ p.Key) && decide (p.Key ≤ IntKind.wrap .i64 (p.Options - 1))) = true := by rw [w64 (by omega) (by omega)]; simp; omega
    rw [e4, e5, e6]
    simp only [cond_false, cond_true, Option.bind_some, e7]
theorem paper_ok {k : Nat} {p : List SPart} (hp : FineParts p) (hk : 10 < k) : item_ValidPaper k 0 0 p = some true := by
  unfold item_ValidPaper
  have h1 := hp.1
  have h2 := hp.2.1
  have e1 : (decide (0 ≤ (0 : Int)) && decide ((0 : Int) ≤ 31)) = true := rfl
  have e2 : (decide (0 ≤ (0 : Int)) && decide ((0 : Int) ≤ 3)) = true := rfl
  have e3 : (decide (1 ≤ (p.length : Int)) && decide ((p.length : Int) ≤ 24)) = true := by simp; omega
  have hc : slices_ContainsFunc_api_Part_api_Part k p = some false := by
    unfold slices_ContainsFunc_api_Part_api_Part slices_IndexFunc_api_Part_api_Part
    have : Ok (gloop (slices_IndexFunc_api_Part_api_Part_b1 k p) k 0 : Option ((Unit) ⊕ (Int))) (fun r => r = .inl ()) := by
      refine ok_range p (fun s => s) (fun _ _ => True) (by omega) rfl trivial (by omega) ?_ ?_
      · intro again s pre e post hl hi hlt hw hinv hag
        simp only [slices_IndexFunc_api_Part_api_Part_b1]
        rw [dec_lt hlt, cond_true, gidx_mid hl hi]
        unfold item_bad
        rw [part_ok (hp.2.2 e (by rw [hl]; simp))]
        simp only [Option.bind_some, Bool.not_true, cond_false]
        rw [hw]; exact hag _ rfl trivial
      · intro again s hi hinv
        simp only [slices_IndexFunc_api_Part_api_Part_b1]
        rw [dec_nlt (by omega), cond_false]
        exact Ok.ret rfl
    rw [this.eq]; rfl
  have hs : Ok (item_sum k p) (fun r => r ≤ 200) := by
    unfold item_sum
    refine Ok.bind (Q := fun r => r ≤ 200) (ok_range p (fun s => s.2) (fun pre s => 0 ≤ s.1 ∧ s.1 ≤ 12 * pre.length) (by omega) rfl (by simp) (by omega) ?_ ?_) fun r hr => Ok.ret hr
    · intro again s pre e post hl hi hlt hw hinv hag
      obtain ⟨n, i⟩ := s
      simp only at hi hlt hw hinv
      simp only [item_sum_b1, uc_mk]
      rw [dec_lt hlt, cond_true, gidx_mid hl hi, hw]
      have hpe := hp.2.2 e (by rw [hl]; simp)
      unfold FineP at hpe
      have hle : pre.length ≤ 6 := by rw [hl] at h2; simp at h2; omega
      rw [w64 (by omega) (by omega)]
      exact hag _ rfl (by simp; omega)
    · intro again s hi hinv
      obtain ⟨n, i⟩ := s
      simp only at hi hinv
      simp only [item_sum_b1, uc_mk]
      rw [dec_nlt (by omega), cond_false]
      exact Ok.ret (by omega)
  obtain ⟨n, e4, hn⟩ := hs
  simp only [in_eq, Option.bind_some, e1, e2, e3, cond_true, hc, Bool.not_false, e4]
  simp [hn]
theorem valid_ok {k : Nat} {p : List SPart} {ks : List (List Int)} {ws : List Int} (hp : FineParts p) (hs : FineScheme p ks ws) (hk : 10 < k) : scheme_Valid k 0 0 p ks ws = some true := by
  unfold scheme_Valid
  have h2 := hp.2.1
  rw [paper_ok hp hk]
  have hkl := hs.keys.1
  have hwl := hs.len
  simp only [Option.bind_some, blet_mk, hkl, hwl, Bool.not_true, bne_self_eq_false, Bool.or_false, cond_false]
  refine eq_of_ok (ok_sum (Q := fun _ => True) (R := fun _ => False) (ok_range p (fun s => s) (fun _ _ => True) (by omega) rfl trivial (by omega) ?_ ?_) (fun _ _ => ?_) (fun _ h => h.elim))
  · intro again s pre e post hl hi hlt hw hinv hag
    simp only [scheme_Valid_b1]
    rw [dec_lt hlt, cond_true, gidx_mid hl hi]
    have hks : s.toNat < ks.length := by rw [hkl]; omega
    refine ok_idx (by omega) (by omega) fun hi' => ?_
    have hfk : FineKeys e ks[s.toNat] := hs.keys.2 s.toNat e _ (by rw [hl, List.getElem?_append_right (by omega)]; simp [hi]) (List.getElem?_eq_getElem hi')
    generalize hkey : ks[s.toNat] = key at hfk
    refine ok_sum (Q := fun _ => True) (R := fun _ => False) (ok_range key (fun s => s) (fun _ _ => True) (by have := hfk.2.2; omega) rfl trivial (by have := hfk.2.2; omega) ?_ ?_) (fun _ _ => ?_) (fun _ h => h.elim)
    · intro again z pre' a post' hl' hiz hltz hwz _ hag'
      simp only [scheme_Valid_b2]
      rw [dec_lt hltz, cond_true, gidx_mid hl' hiz, blet_mk]
      have ha := hfk.2.1 a (by rw [hl']; simp)
      have hk5 := hfk.2.2
      have e1 : (decide (a < 0) || decide (a ≥ e.Options)) = false := by simp; omega
      rw [e1, cond_false]
      refine Ok.bind (Q := fun b => b = false) (Ok.bind (Q := fun b => b = false) (ok_bif (fun h => ?_) fun h => Ok.ret rfl) fun r hr => Ok.ret hr) fun r hr => ?_
      · have h' := of_decide_eq_true h
        refine ok_idx (by omega) (by omega) fun hi2 => ?_
        rw [hkey, w64 (x := z - 1) (by omega) (by omega)]
        refine ok_idx (by omega) (by omega) fun hi3 => Ok.ret ?_
        have hp3 := List.pairwise_iff_getElem.1 hfk.1 (z - 1).toNat pre'.length hi3 (by rw [hl']; simp) (by omega)
        have : key[pre'.length]'(by rw [hl']; simp) = a := by simp [hl']
        rw [this] at hp3
        exact decide_eq_false (by omega)
      · subst hr
        simp only [cond_false]
        rw [hwz]; exact hag' _ rfl trivial
    · intro again z hiz _
      simp only [scheme_Valid_b2]
      rw [dec_nlt (by omega), cond_false]
      exact Ok.ret trivial
    · simp only [u0_mk]
      rw [hw]; exact hag _ rfl trivial
  · intro again s hi hinv
    simp only [scheme_Valid_b1]
    rw [dec_nlt (by omega), cond_false]
    exact Ok.ret trivial
  · simp only [u0_mk]
    have : Ok (slices_ContainsFunc_int k ws) (fun r => r = false) := by
      unfold slices_ContainsFunc_int slices_IndexFunc_int
      refine Ok.bind (Q := fun r => r = -1) (ok_sum (Q := fun _ => True) (R := fun _ => False) (ok_range ws (fun s => s) (fun _ _ => True) (by omega) rfl trivial (by omega) ?_ ?_) (fun _ _ => Ok.ret rfl) (fun _ h => h.elim)) fun r hr => ?_
      · intro again s pre e post hl hi hlt hw hinv hag
        simp only [slices_IndexFunc_int_b1]
        rw [dec_lt hlt, cond_true, gidx_mid hl hi]
        have hk3 := hs.known e (by rw [hl]; simp)
        have e1 : scheme_Valid_1 k e = some false := by
          unfold scheme_Valid_1 scheme_known
          rcases hk3 with rfl | rfl | rfl <;> rfl
        rw [e1]
        simp only [Option.bind_some, cond_false]
        rw [hw]; exact hag _ rfl trivial
      · intro again s hi hinv
        simp only [slices_IndexFunc_int_b1]
        rw [dec_nlt (by omega), cond_false]
        exact Ok.ret trivial
      · subst hr; exact Ok.ret rfl
    rw [this.eq]
    exact Ok.ret rfl
end Go.VM
