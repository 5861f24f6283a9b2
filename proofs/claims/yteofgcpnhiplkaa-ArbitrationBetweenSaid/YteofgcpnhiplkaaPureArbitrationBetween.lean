/- The pure statement of ArbitrationBetween: whatever the numbers, the printed function answers true. -/
import Derived.Test.YteofgcpnhiplkaaC30
namespace Go.VM
set_option linter.unusedVariables false
set_option linter.unusedSimpArgs false

theorem range_ok {k : Nat} {l : List SGiven} (hf : Few l) (hk : 200 < k) : Ok (gloop (law30_ArbitrationBetween_b2 k l) k (99, (-1), 0, 0)) (fun r => r = (least l 99, most l (-1), maxLv l 0)) := by
  have hlen := hf.1
  refine ok_loop (fun s => 0 ≤ s.2.2.2 ∧ s.2.2.2 ≤ l.length ∧ s.1 = least (l.take s.2.2.2.toNat) 99 ∧ s.2.1 = most (l.take s.2.2.2.toNat) (-1) ∧ s.2.2.1 = maxLv (l.take s.2.2.2.toNat) 0) (fun s => l.length - s.2.2.2.toNat) ?_ ?_ ?_
  · simp [least, most, maxLv]
  · simp; omega
  · intro again s hs hag
    obtain ⟨x1, x2, x3, i⟩ := s
    obtain ⟨h0, h1, e1, e2, e3⟩ := hs
    simp only at h0 h1 e1 e2 e3
    simp only [law30_ArbitrationBetween_b2, uc_mk]
    refine ok_bif (fun hc => ?_) fun hc => ?_
    · have hc' := of_decide_eq_true hc
      refine ok_idx h0 (by omega) fun hi => ?_
      have htk : l.take (i.toNat + 1) = l.take i.toNat ++ [l[i.toNat]] := by simp [List.take_append_getElem]
      have hn : (i + 1).toNat = i.toNat + 1 := by omega
      rw [w64 (x := i + 1) (by omega) (by omega)]
      refine hag _ ⟨by simp only; omega, by simp only; omega, ?_, ?_, ?_⟩ (by simp only; omega)
      · simp only; rw [hn, htk, e1]; unfold least; rw [List.foldl_append]; simp only [List.foldl_cons, List.foldl_nil, gmin_def, gmax_def, val]; omega
      · simp only; rw [hn, htk, e2]; unfold most; rw [List.foldl_append]; simp only [List.foldl_cons, List.foldl_nil, gmin_def, gmax_def, val]; omega
      · simp only; rw [hn, htk, e3]; unfold maxLv; rw [List.foldl_append]; simp only [List.foldl_cons, List.foldl_nil, gmin_def, gmax_def, val]; omega
    · have hc' := of_decide_eq_false hc
      have : i.toNat = l.length := by omega
      rw [this, List.take_length] at e1 e2 e3
      subst e1 e2 e3
      exact Ok.ret rfl
theorem top_ok {k : Nat} {l : List SGiven} (v : Int) (hf : Few l) (hk : 200 < k) : Ok (gloop (law30_ArbitrationBetween_b1 k l v) k (0, ([] : List SGiven))) (fun r => r = l.filter (fun g => g.Level == v)) := by
  have hlen := hf.1
  refine ok_loop (fun s => 0 ≤ s.1 ∧ s.1 ≤ l.length ∧ s.2 = (l.take s.1.toNat).filter (fun g => g.Level == v)) (fun s => l.length - s.1.toNat) ?_ ?_ ?_
  · simp
  · simp; omega
  · intro again s hs hag
    obtain ⟨i, xs⟩ := s
    obtain ⟨h0, h1, e1⟩ := hs
    simp only at h0 h1 e1
    simp only [law30_ArbitrationBetween_b1, uc_mk]
    refine ok_bif (fun hc => ?_) fun hc => ?_
    · have hc' := of_decide_eq_true hc
      have hi : i.toNat < l.length := by omega
      have htk : l.take (i.toNat + 1) = l.take i.toNat ++ [l[i.toNat]] := by simp [List.take_append_getElem]
      have hn : (i + 1).toNat = i.toNat + 1 := by omega
      have hxl : xs.length ≤ 4 := by
        rw [e1]
        have := List.length_filter_le (fun g : SGiven => g.Level == v) (l.take i.toNat)
        simp at this; omega
      refine Ok.bind (Q := fun r => r = (l.take (i.toNat + 1)).filter (fun g => g.Level == v)) (ok_idx h0 (by omega) fun hi => ?_) fun r hr => ?_
      · refine ok_bif (fun h => ok_cap (by simp; omega) (Ok.ret ?_)) fun h => Ok.ret ?_
        · rw [htk, List.filter_append, e1]; simp [h]
        · rw [htk, List.filter_append, e1]; simp [h]
      · rw [w64 (x := i + 1) (by omega) (by omega)]
        refine hag _ ⟨by simp only; omega, by simp only; omega, ?_⟩ (by simp only; omega)
        simp only; rw [hn]; exact hr
    · have hc' := of_decide_eq_false hc
      have : i.toNat = l.length := by omega
      rw [this, List.take_length] at e1
      exact Ok.ret e1
theorem pure_ArbitrationBetween (t : List Int) (ht : ∀ x ∈ t, fitsI .i64 x) (hl : t.length * 8 ≤ 140737488351232) : ∃ k, law30_ArbitrationBetween k t = some true := by
  refine ⟨1000, Ok.eq ?_⟩
  unfold law30_ArbitrationBetween mark_Light mark_Roll
  simp only [Option.bind_some, u0_mk, sane_ok]
  refine ok_bif (fun h => Ok.ret rfl) fun h => ?_
  have h600 : t.length ≤ 600 := by simp at h; omega
  refine Ok.bind (Rule_ok h600 (by omega)) fun r hr => ?_
  obtain ⟨d, tol, i⟩ := r
  obtain ⟨htol1, htol2, h3⟩ := hr
  simp only at htol1 htol2 h3
  refine Ok.bind (few_ok h600 h3 (by omega)) fun r hf => ?_
  obtain ⟨l, j⟩ := r
  simp only at hf
  simp only [uc_mk]
  have hlen := hf.1
  have hv6 : ∀ g ∈ l, val g ≤ 6 := fun g hg => by have := (hf.2.1 g hg).hi; unfold val; omega
  refine Ok.bind (Decide_ok (small_few hf) (by omega)) fun r hD => ?_
  obtain ⟨a, b⟩ := r
  simp only [uc_mk]
  refine Ok.bind (range_ok hf (by omega)) fun r hR => ?_
  obtain ⟨lo, hi, level⟩ := r
  simp only [Prod.mk.injEq] at hR
  obtain ⟨rfl, rfl, rfl⟩ := hR
  simp only [uc_mk]
  have hlo := least_le l 99
  have hhi := le_most l (-1)
  have hlv := le_maxLv l 0
  refine ok_bif (fun hna => ?_) fun hfin => ?_
  · -- it is not final
    have ha : a ≠ 3 := by simpa using hna
    rcases hD with ⟨hno, he⟩ | ⟨m, hm, he⟩
    · have hb : b = 0 := by
        have := plain_open (d := d) (tol := tol) (l := l) (by rw [← he]; exact ha)
        rw [← he] at this; exact this
      have hl2 : maxLv l 0 ≤ 1 := maxLv_le l 0 1 (by omega) fun g hg => by have := hno g hg; omega
      have e1 : (b == 0 && decide (maxLv l 0 < 2)) = true := by simp [hb]; omega
      rw [blet_mk, e1]
      exact Ok.ret rfl
    · simp only [Prod.mk.injEq] at he
      exact absurd he.1 ha
  · have ha : a = 3 := by simpa using hfin
    subst ha
    -- it lies between
    have hne : l ≠ [] := by
      rintro rfl
      rcases hD with ⟨_, he⟩ | ⟨m, hm, _⟩
      · simp [plainV] at he
      · have := hm.1; simp at this
    have hbet : least l 99 ≤ b ∧ b ≤ most l (-1) ∧ (maxLv l 0 < 2 → 1 < l.length → most l (-1) - least l 99 ≤ tol) ∧ (maxLv l 0 < 2 → 1 < l.length ∨ d = false) := by
      rcases hD with ⟨hno, he⟩ | ⟨m, hm, he⟩
      · have h3 : (plainV d tol l).1 = 3 := by rw [← he]
        have h2 : b = (plainV d tol l).2 := by rw [← he]
        obtain ⟨p1, p2, p3, p4⟩ := plain_final h3
        rw [h2]
        refine ⟨plain_lo h3 hlo.2, plain_hi h3 hhi.2, fun _ hn => ?_, fun _ => ?_⟩
        · rw [least_any l 99 1000000000 hne (fun g hg => by have := hv6 g hg; omega) (fun g hg => by have := hv6 g hg; omega), most_any l (-1) 0 hne (fun g hg => by have := val_nn g; omega) (fun g hg => val_nn g)]
          omega
        · have : 0 < l.length := List.length_pos_iff.2 hne
          cases d
          · simp
          · simp only [and_true] at p2; left; omega
      · simp only [Prod.mk.injEq, true_and] at he
        subst he
        have hmv := Top_lv hm
        have := hm.2.1
        exact ⟨hlo.2 m hm.1, hhi.2 m hm.1, fun h => by omega, fun h => by omega⟩
    obtain ⟨b1, b2, b3, b4⟩ := hbet
    have hlo0 : 0 ≤ least l 99 := by
      have : ∀ (l : List SGiven) (a : Int), 0 ≤ a → 0 ≤ least l a := fun l => by
        induction l with
        | nil => intro a h; exact h
        | cons x l ih => intro a h; rw [least_cons]; exact ih _ (by have := val_nn x; omega)
      exact this l 99 (by omega)
    have hhi6 : most l (-1) ≤ 6 := by
      have : ∀ (l : List SGiven) (a : Int), a ≤ 6 → (∀ g ∈ l, val g ≤ 6) → most l a ≤ 6 := fun l => by
        induction l with
        | nil => intro a h _; exact h
        | cons x l ih => intro a h h'; rw [most_cons]; exact ih _ (by have := h' x (by simp); omega) fun g hg => h' g (by simp [hg])
      exact this l (-1) (by omega) hv6
    have e1 : (decide (b < least l 99) || decide (b > most l (-1))) = false := by simp; omega
    rw [blet_mk, e1]
    simp only [cond_false]
    refine Ok.bind (Q := fun r => r = false) ?_ fun r hr => ?_
    · refine ok_let (Ok.bind (Q := fun r => r = false) (ok_bif (fun h => Ok.ret ?_) fun _ => Ok.ret rfl) fun r hr => Ok.ret hr)
      simp only [Bool.and_eq_true, decide_eq_true_eq] at h
      have := b3 h.1 (by omega)
      rw [w64 (by omega) (by omega)]
      simp; omega
    · subst hr
      simp only [cond_false]
      refine ok_bif (fun h2 => ?_) fun h2 => ?_
      · have h2' := of_decide_eq_true h2
        refine Ok.bind (top_ok _ hf (by omega)) fun xs hx => ?_
        have hxs : Small xs := by
          rw [hx]
          have := List.length_filter_le (fun g : SGiven => g.Level == maxLv l 0) l
          exact ⟨by omega, fun g hg => by have := (hf.2.1 g (List.mem_filter.1 hg).1).hi; omega⟩
        have hxl : xs.length ≤ 1000 := hxs.1
        have hxl : xs.length ≤ 4 := by
          rw [hx]
          have := List.length_filter_le (fun g : SGiven => g.Level == maxLv l 0) l
          omega
        refine Ok.bind (Decide_ok hxs (by omega)) fun r hE => ?_
        obtain ⟨a', b'⟩ := r
        simp only [uc_mk]
        have heq : (a', b') = ((3 : Int), b) := by
          rcases hD with ⟨hno, he⟩ | ⟨m, hm, he⟩
          · have : maxLv l 0 ≤ 1 := maxLv_le l 0 1 (by omega) fun g hg => by have := hno g hg; omega
            omega
          · have hmx : m ∈ xs := by rw [hx]; exact List.mem_filter.2 ⟨hm.1, by simp [Top_lv hm]⟩
            rcases hE with ⟨hno', _⟩ | ⟨m', hm', he'⟩
            · have := hno' m hmx
              have := hm.2.1
              omega
            · have hm'l : m' ∈ l := by have := hm'.1; rw [hx] at this; exact (List.mem_filter.1 this).1
              have hm'v : m'.Level = maxLv l 0 := by have := hm'.1; rw [hx] at this; simpa using (List.mem_filter.1 this).2
              have hT : Top l m' := ⟨hm'l, hm'.2.1, fun y hy hy2 => by
                by_cases hyl : y.Level = maxLv l 0
                · exact hm'.2.2 y (by rw [hx]; exact List.mem_filter.2 ⟨hy, by simp [hyl]⟩) hy2
                · left; have := hlv.2 y hy; omega⟩
              rw [he', he, Top_one hf.2.2 hT hm]
        cases heq
        simp only [beq_self_eq_true, Bool.and_true, cond_true, Option.bind_some]
        exact Ok.ret rfl
      · have h2' := of_decide_eq_false h2
        have hb4 := b4 (by omega)
        have e2 : (decide ((l.length : Int) > 1) || !d) = true := by
          rcases hb4 with h | h
          · have : (l.length : Int) > 1 := by omega
            simp [this]
          · simp [h]
        rw [blet_mk, e2]
        simp only [cond_true]
        have h6 : (decide (IntKind.wrap .i64 (IntKind.wrap .i64 (IntKind.wrap .i64 (2 * b) - least l 99) - most l (-1)) ≤ IntKind.wrap .i64 (tol + 1))) = true := by
          rw [w64 (x := 2 * b) (by omega) (by omega), w64 (x := 2 * b - least l 99) (by omega) (by omega), w64 (x := 2 * b - least l 99 - most l (-1)) (by omega) (by omega), w64 (x := tol + 1) (by omega) (by omega)]
          simp only [decide_eq_true_eq]
          by_cases hn : 1 < l.length
          · have := b3 (by omega) hn; omega
          · -- one mark alone
            obtain ⟨g, rfl⟩ : ∃ g, l = [g] := by
              have : 0 < l.length := List.length_pos_iff.2 hne
              exact List.length_eq_one_iff.1 (by omega)
            have h1 := hlo.2 g (by simp)
            have h2 : most [g] (-1) = val g := by simp [most]; have := val_nn g; omega
            have h3 : least [g] 99 = val g := by simp [least]; have := hv6 g (by simp); omega
            omega
        rw [h6]
        simp only [Option.bind_some, cond_true]
        exact Ok.ret rfl
end Go.VM
