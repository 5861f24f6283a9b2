/- What Decide answers: plain reasoning about the printed functions. -/
import Derived.Test.YteofgcpnhiplkaaA30
namespace Go.VM
set_option linter.unusedVariables false
set_option linter.unusedSimpArgs false

/-! ### stamps -/
def stampLt (a b : SGiven) : Prop := a.Stamp_Time < b.Stamp_Time ∨ a.Stamp_Time = b.Stamp_Time ∧ (a.Stamp_Source < b.Stamp_Source ∨ a.Stamp_Source = b.Stamp_Source ∧ a.Stamp_Seq < b.Stamp_Seq)
theorem cmp_eq (k : Nat) (x y : Int) : cmp_Compare_int k x y = some (if x < y then -1 else if y < x then 1 else 0) := by
  unfold cmp_Compare_int cmp_isNaN_int
  simp only [Option.bind_some, u0_mk]
  have e : ∀ z : Int, (z != z) = false := by simp
  rw [e, e]
  simp only [cond_false]
  by_cases h : x < y
  · simp [h]
  · by_cases h' : y < x
    · simp [h, h']
    · simp [h, h']
theorem or_eq {k : Nat} (hk : 10 < k) (a b c : Int) : cmp_Or_int k [a, b, c] = some (if a ≠ 0 then a else if b ≠ 0 then b else c) := by
  obtain ⟨k, rfl⟩ : ∃ m, k = m + 4 := ⟨k - 4, by omega⟩
  unfold cmp_Or_int
  have e1 : IntKind.wrap .i64 1 = 1 := by decide
  have e2 : IntKind.wrap .i64 2 = 2 := by decide
  have e3 : IntKind.wrap .i64 3 = 3 := by decide
  have e4 : ∀ z : Int, (z == 0) = decide (z = 0) := fun z => by by_cases h : z = 0 <;> simp [h]
  by_cases ha : a = 0 <;> by_cases hb : b = 0 <;> by_cases hc : c = 0 <;> simp [gloop, cmp_Or_int_b1, gidx, bne, e4, ha, hb, hc, e1, e2, e3, u0]
theorem stamp_eq {k : Nat} (hk : 10 < k) (a b : SGiven) : ∃ r, stamp_Compare k a.Stamp_Time a.Stamp_Source a.Stamp_Seq b.Stamp_Time b.Stamp_Source b.Stamp_Seq = some r ∧ (0 ≤ r ↔ ¬ stampLt a b) := by
  unfold stamp_Compare
  simp only [cmp_eq, Option.bind_some, or_eq hk]
  refine ⟨_, rfl, ?_⟩
  unfold stampLt
  split <;> split <;> (try split) <;> (try split) <;> omega

/-! ### the mark that decides by its level -/
def beats (m y : SGiven) : Prop := y.Level < m.Level ∨ y.Level = m.Level ∧ ¬ stampLt m y
theorem stampLt_trans {a b c : SGiven} (h : ¬ stampLt a b) (h' : ¬ stampLt b c) : ¬ stampLt a c := by unfold stampLt at *; omega
theorem beats_trans {a b c : SGiven} (h : beats a b) (h' : beats b c) : beats a c := by
  unfold beats at *
  rcases h with h | ⟨h1, h2⟩ <;> rcases h' with h' | ⟨h3, h4⟩
  · left; omega
  · left; omega
  · left; omega
  · right; exact ⟨by omega, stampLt_trans h2 h4⟩
def Top (l : List SGiven) (m : SGiven) : Prop := m ∈ l ∧ 2 ≤ m.Level ∧ ∀ y ∈ l, 2 ≤ y.Level → beats m y
def NoTop (l : List SGiven) : Prop := ∀ y ∈ l, y.Level < 2
theorem senior_ok {k : Nat} {l : List SGiven} (hk : 10 < k) (hl : l.length + 10 < k) (hb : l.length ≤ 1000000) : Ok (arbitration_senior k l) (fun r => (r.2.2.2.2.2.2.2.2 = false ∧ NoTop l) ∨ (r.2.2.2.2.2.2.2.2 = true ∧ ∃ m, Top l m ∧ r.2.2.2.2.1 = m.Value)) := by
  unfold arbitration_senior
  refine Ok.bind (Q := fun r => (r.1 = false ∧ NoTop l) ∨ (r.1 = true ∧ ∃ m, Top l m ∧ r.2.2.2.2.2.1 = m.Value)) (ok_loop
    (fun s => 0 ≤ s.2.1 ∧ s.2.1 ≤ l.length ∧ ((s.1 = false ∧ NoTop (l.take s.2.1.toNat)) ∨ (s.1 = true ∧ ∃ m, Top (l.take s.2.1.toNat) m ∧ s.2.2 = (m.Script, m.Part, m.Marker, m.Level, m.Value, m.Stamp_Time, m.Stamp_Source, m.Stamp_Seq)))) (fun s => l.length - s.2.1.toNat) ?_ ?_ ?_) fun r hr => ?_
  · simp [NoTop]
  · simp; omega
  · intro again s hs hag
    obtain ⟨fd, i, b1, b2, b3, b4, b5, b6, b7, b8⟩ := s
    obtain ⟨h0, h1, h2⟩ := hs
    simp only at h0 h1 h2
    simp only [arbitration_senior_b1, uc_mk]
    refine ok_bif (fun hc => ?_) fun hc => ?_
    · have hc' := of_decide_eq_true hc
      have hi : i.toNat < l.length := by omega
      have htk : l.take (i.toNat + 1) = l.take i.toNat ++ [l[i.toNat]] := by simp [List.take_append_getElem]
      have hw : IntKind.wrap .i64 (i + 1) = i + 1 := w64 (by omega) (by omega)
      have hn : (i + 1).toNat = i.toNat + 1 := by omega
      refine Ok.bind (Q := fun r => (r.1 = false ∧ NoTop (l.take (i.toNat + 1))) ∨ (r.1 = true ∧ ∃ m, Top (l.take (i.toNat + 1)) m ∧ r.2 = (m.Script, m.Part, m.Marker, m.Level, m.Value, m.Stamp_Time, m.Stamp_Source, m.Stamp_Seq))) ?_ fun r hr => ?_
      · refine ok_idx h0 (by omega) fun hi => ?_
        rw [htk]
        generalize l[i.toNat] = e
        generalize l.take i.toNat = L at h2
        refine ok_bif (fun hlv => ?_) fun hlv => ?_
        · have hlv' := of_decide_eq_true hlv
          refine Ok.ret ?_
          rcases h2 with ⟨rfl, hno⟩ | ⟨rfl, m, ⟨hm1, hm2, hm3⟩, he⟩
          · refine .inl ⟨rfl, fun y hy => ?_⟩
            simp only [List.mem_append, List.mem_singleton] at hy
            rcases hy with hy | rfl
            · exact hno y hy
            · exact hlv'
          · refine .inr ⟨rfl, m, ⟨by simp [hm1], hm2, fun y hy hy2 => ?_⟩, he⟩
            simp only [List.mem_append, List.mem_singleton] at hy
            rcases hy with hy | rfl
            · exact hm3 y hy hy2
            · omega
        · have hlv' := of_decide_eq_false hlv
          refine ok_let ?_
          refine Ok.bind (Q := fun b => b = true ↔ (fd = false ∨ (b4 < e.Level ∨ e.Level = b4 ∧ ¬ stampLt e ⟨0, 0, 0, 0, 0, b6, b7, b8⟩))) ?_ fun b hb => ?_
          · refine ok_bif (fun hg => Ok.ret ⟨fun _ => ?_, fun _ => rfl⟩) fun hg => ?_
            · simp only [Bool.or_eq_true, Bool.not_eq_true', decide_eq_true_eq, gt_iff_lt] at hg
              rcases hg with h | h
              · exact .inl h
              · exact .inr (.inl h)
            · simp only [Bool.or_eq_false_iff, Bool.not_eq_false', decide_eq_false_iff_not, gt_iff_lt] at hg
              refine Ok.bind (Q := fun r => r.2 = true ↔ (e.Level = b4 ∧ ¬ stampLt e ⟨0, 0, 0, 0, 0, b6, b7, b8⟩)) (ok_bif (fun hq => ?_) fun hq => Ok.ret ?_) fun r hr => ?_
              · obtain ⟨r, e1, e2⟩ := stamp_eq hk e ⟨0, 0, 0, 0, 0, b6, b7, b8⟩
                rw [e1]
                refine Ok.ret ?_
                have hq' : e.Level = b4 := by simpa using hq
                simp only [decide_eq_true_eq, ge_iff_le]
                rw [e2]
                simp [hq']
              · have hq' : ¬ e.Level = b4 := by simpa using hq
                simp [hq']
              · obtain ⟨r1, r2⟩ := r
                refine Ok.ret ?_
                simp only at hr
                rw [hr]
                simp [hg]
          · refine ok_bif (fun hbt => ?_) fun hbt => ?_
            · have hc := hb.1 hbt
              refine Ok.ret (.inr ⟨rfl, e, ⟨by simp, by omega, fun y hy hy2 => ?_⟩, rfl⟩)
              simp only [List.mem_append, List.mem_singleton] at hy
              rcases hy with hy | rfl
              · rcases h2 with ⟨rfl, hno⟩ | ⟨rfl, m, ⟨hm1, hm2, hm3⟩, he⟩
                · have := hno y hy; omega
                · simp only [Prod.mk.injEq] at he
                  obtain ⟨_, _, _, rfl, _, rfl, rfl, rfl⟩ := he
                  refine beats_trans (b := m) ?_ (hm3 y hy hy2)
                  rcases hc with hc | hc | hc
                  · cases hc
                  · exact .inl hc
                  · exact .inr ⟨by omega, hc.2⟩
              · right; exact ⟨rfl, by unfold stampLt; omega⟩
            · have hc : ¬ _ := fun h => by rw [hb.2 h] at hbt; cases hbt
              simp only [not_or] at hc
              obtain ⟨hc1, hc2, hc3⟩ := hc
              refine Ok.ret ?_
              rcases h2 with ⟨rfl, hno⟩ | ⟨rfl, m, ⟨hm1, hm2, hm3⟩, he⟩
              · exact absurd rfl hc1
              · refine .inr ⟨rfl, m, ⟨by simp [hm1], hm2, fun y hy hy2 => ?_⟩, he⟩
                simp only [List.mem_append, List.mem_singleton] at hy
                rcases hy with hy | rfl
                · exact hm3 y hy hy2
                · simp only [Prod.mk.injEq] at he
                  obtain ⟨_, _, _, rfl, _, rfl, rfl, rfl⟩ := he
                  simp only [stampLt] at hc3
                  unfold beats stampLt
                  omega
      · obtain ⟨f2, c1, c2, c3, c4, c5, c6, c7, c8⟩ := r
        simp only [uc_mk]
        rw [hw]
        refine hag _ ⟨by simp only; omega, by simp only; omega, ?_⟩ (by simp only; omega)
        simp only
        rw [hn]
        exact hr
    · have hc' := of_decide_eq_false hc
      have : i.toNat = l.length := by omega
      rw [this, List.take_length] at h2
      refine Ok.ret ?_
      rcases h2 with h2 | ⟨h2, m, hm, he⟩
      · exact .inl h2
      · refine .inr ⟨h2, m, hm, ?_⟩
        simp only [Prod.mk.injEq] at he
        exact he.2.2.2.2.1
  · obtain ⟨f2, c1, c2, c3, c4, c5, c6, c7, c8⟩ := r
    exact Ok.ret hr

/-! ### what is decided -/
def val (g : SGiven) : Int := max g.Value 0
def least (l : List SGiven) (a : Int) : Int := l.foldl (fun m g => min m (val g)) a
def most (l : List SGiven) (a : Int) : Int := l.foldl (fun m g => max m (val g)) a
def total (l : List SGiven) (a : Int) : Int := l.foldl (fun m g => m + val g) a
def plainV (d : Bool) (tol : Int) (l : List SGiven) : Int × Int :=
  if l = [] then (0, 0) else
  if l.length = 1 ∧ d = true then (1, 0) else
  if 1 < l.length ∧ tol < most l 0 - least l 1000000000 then (2, 0) else (3, (2 * total l 0 + l.length) / (2 * l.length))
def Small (l : List SGiven) : Prop := l.length ≤ 1000 ∧ ∀ g ∈ l, g.Value ≤ 1000000
theorem Decide_ok {k : Nat} {d : Bool} {tol : Int} {l : List SGiven} (hs : Small l) (hl : l.length + 10 < k) : Ok (arbitration_Decide k d tol l) (fun r => (NoTop l ∧ r = plainV d tol l) ∨ ∃ m, Top l m ∧ r = (3, val m)) := by
  obtain ⟨hs1, hs2⟩ := hs
  unfold arbitration_Decide
  refine Ok.bind (senior_ok (by omega) hl (by omega)) fun r hr => ?_
  obtain ⟨c1, c2, c3, c4, c5, c6, c7, c8, f⟩ := r
  simp only [uc_mk]
  simp only at hr
  rcases hr with ⟨rfl, hno⟩ | ⟨rfl, m, hm, rfl⟩
  · simp only [cond_false]
    refine Ok.mono (Q := fun r => r = plainV d tol l) ?_ fun r hr => .inl ⟨hno, hr⟩
    refine ok_bif (fun h => ?_) fun h => ?_
    · have hnil : l = [] := by
        cases l with
        | nil => rfl
        | cons a l => exfalso; simp at h; omega
      subst hnil
      exact Ok.ret rfl
    · have hne : l ≠ [] := fun e => by subst e; simp at h
      have hpos : 0 < l.length := List.length_pos_iff.2 hne
      refine ok_idx (by omega) (by omega) fun hi => ?_
      -- the loop
      refine Ok.bind (Q := fun r => r = (least l (val l[0]), most l 0, total l 0) ∧ 0 ≤ total l 0 ∧ total l 0 ≤ 1000000 * l.length ∧ 0 ≤ least l (val l[0]) ∧ 0 ≤ most l 0 ∧ most l 0 ≤ 1000000 ∧ least l (val l[0]) ≤ 1000000) (ok_loop
        (fun s => 0 ≤ s.2.2.2 ∧ s.2.2.2 ≤ l.length ∧ s.1 = least (l.take s.2.2.2.toNat) (val l[0]) ∧ s.2.1 = most (l.take s.2.2.2.toNat) 0 ∧ s.2.2.1 = total (l.take s.2.2.2.toNat) 0 ∧ 0 ≤ s.2.2.1 ∧ s.2.2.1 ≤ 1000000 * s.2.2.2 ∧ 0 ≤ s.1 ∧ 0 ≤ s.2.1 ∧ s.2.1 ≤ 1000000 ∧ s.1 ≤ 1000000) (fun s => l.length - s.2.2.2.toNat) ?_ ?_ ?_) fun r hr => ?_
      · have := hs2 _ (List.getElem_mem hpos)
        simp [least, most, total, gmax_def, val]; omega
      · simp; omega
      · intro again s hs hag
        obtain ⟨x1, x2, x3, i⟩ := s
        obtain ⟨h0, h1, e1, e2, e3, t1, t2, t3, t4, t5, t6⟩ := hs
        simp only at h0 h1 e1 e2 e3 t1 t2 t3 t4 t5 t6
        simp only [arbitration_Decide_b1, uc_mk]
        refine ok_bif (fun hc => ?_) fun hc => ?_
        · have hc' := of_decide_eq_true hc
          refine ok_idx h0 (by omega) fun hi' => ?_
          have htk : l.take (i.toNat + 1) = l.take i.toNat ++ [l[i.toNat]] := by simp [List.take_append_getElem]
          have hw : IntKind.wrap .i64 (i + 1) = i + 1 := w64 (by omega) (by omega)
          have hn : (i + 1).toNat = i.toNat + 1 := by omega
          have hv := hs2 _ (List.getElem_mem hi')
          generalize hg : l[i.toNat] = g at *
          have hvg : 0 ≤ val g ∧ val g ≤ 1000000 := by unfold val; omega
          have hgm : gmax g.Value 0 = val g := by rw [gmax_def]; unfold val; omega
          rw [hw, hgm, w64 (by omega) (by omega), gmin_def, gmax_def]
          refine hag _ ⟨by simp only; omega, by simp only; omega, ?_, ?_, ?_, by simp only; omega, by simp only; omega, by simp only; omega, by simp only; omega, by simp only; omega, by simp only; omega⟩ (by simp only; omega)
          · simp only; rw [hn, htk, e1]; simp [least, List.foldl_append]; omega
          · simp only; rw [hn, htk, e2]; simp [most, List.foldl_append]; omega
          · simp only; rw [hn, htk, e3]; simp [total, List.foldl_append]
        · have hc' := of_decide_eq_false hc
          have he : i.toNat = l.length := by omega
          rw [he, List.take_length] at e1 e2 e3
          subst e1 e2 e3
          exact Ok.ret ⟨rfl, t1, by omega, t3, t4, t5, t6⟩
      · obtain ⟨rfl, t1, t2, t3, t4, t5, t6⟩ := hr
        simp only [uc_mk]
        have hleast : least l (val l[0]) = least l 1000000000 := by
          obtain ⟨a, l', rfl⟩ : ∃ a l', l = a :: l' := by cases l with | nil => exact absurd rfl hne | cons a l' => exact ⟨a, l', rfl⟩
          have := hs2 a (by simp)
          simp only [least, List.foldl_cons, List.getElem_cons_zero]
          congr 1
          unfold val; omega
        rw [hleast] at t3 t6
        have hlen : ((l.length : Int) == 1) = decide (l.length = 1) := by
          by_cases h : l.length = 1
          · simp [h]
          · simp [h]; omega
        unfold plainV
        rw [if_neg hne]
        refine ok_let (ok_bif (fun h1 => ?_) fun h1 => ?_)
        · rw [hlen] at h1
          rw [if_pos (by simpa using h1)]
          exact Ok.ret rfl
        · rw [hlen] at h1
          rw [if_neg (by simpa using h1)]
          refine Ok.bind (Q := fun b => b = decide (1 < l.length ∧ tol < most l 0 - least l 1000000000)) (ok_bif (fun h2 => Ok.ret ?_) fun h2 => Ok.ret ?_) fun b hb => ?_
          · have h2' := of_decide_eq_true h2
            rw [hleast, w64 (by omega) (by omega)]
            have : 1 < l.length := by omega
            simp [this]
          · have h2' := of_decide_eq_false h2
            have : ¬ 1 < l.length := by omega
            simp [this]
          · subst hb
            refine ok_bif (fun h3 => ?_) fun h3 => ?_
            · rw [if_pos (of_decide_eq_true h3)]; exact Ok.ret rfl
            · rw [if_neg (of_decide_eq_false h3)]
              have e1 : IntKind.wrap .i64 (2 * (l.length : Int)) = 2 * l.length := w64 (by omega) (by omega)
              have e2 : IntKind.wrap .i64 (2 * total l 0) = 2 * total l 0 := w64 (by omega) (by omega)
              rw [e1, e2, w64 (x := 2 * total l 0 + l.length) (by omega) (by omega)]
              refine ok_nz (by omega) (Ok.ret ?_)
              have e3 : Int.tdiv (2 * total l 0 + l.length) (2 * l.length) = (2 * total l 0 + l.length) / (2 * l.length) := Int.tdiv_eq_ediv_of_nonneg (by omega)
              rw [e3]
              have e4 : 0 ≤ (2 * total l 0 + (l.length : Int)) / (2 * l.length) := Int.ediv_nonneg (by omega) (by omega)
              have e5 : (2 * total l 0 + (l.length : Int)) / (2 * l.length) ≤ 2 * total l 0 + l.length := Int.ediv_le_self _ (by omega)
              rw [w64 (by omega) (by omega)]
  · simp only [cond_true]
    exact Ok.ret (.inr ⟨m, hm, by rw [gmax_def]; unfold val; rw [Int.max_comm]⟩)
end Go.VM
