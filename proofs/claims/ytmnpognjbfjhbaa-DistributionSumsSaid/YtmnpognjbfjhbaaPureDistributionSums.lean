/- The pure statement of DistributionSums: whatever the numbers, the printed function answers true. -/
import Derived.Test.YtmnpognjbfjhbaaDPDistC
namespace Go.VM
set_option linter.unusedVariables false
set_option linter.unusedSimpArgs false
theorem sane32_ok : law32_sane 1000000 = some true := by decide +kernel
theorem take_getD (d : List Int) (n : Nat) : (d.take (n + 1)).sum = (d.take n).sum + d.getD n 0 := by
  by_cases h : n < d.length
  · rw [take_succ_sum h, getD_of h]
  · rw [List.take_of_length_le (by omega), List.take_of_length_le (by omega)]
    simp [List.getD, h]
/-- One distribution is the sum of two. -/
structure Adds (c a b : List Int) : Prop where
  len : c.length = max a.length b.length
  get : ∀ i : Nat, c.getD i 0 = a.getD i 0 + b.getD i 0
theorem Adds.take {c a b : List Int} (h : Adds c a b) (n : Nat) : (c.take n).sum = (a.take n).sum + (b.take n).sum := by
  induction n with
  | zero => simp
  | succ n ih => rw [take_getD, take_getD, take_getD, ih, h.get]; omega
theorem Adds.sum {c a b : List Int} (h : Adds c a b) : c.sum = a.sum + b.sum := by
  have := h.take (max a.length b.length)
  rwa [take_all (d := c) (by rw [h.len]; exact Nat.le_refl _), take_all (d := a) (by omega), take_all (d := b) (by omega)] at this
theorem Adds.pts {c a b : List Int} (h : Adds c a b) : Go.VM.pts c 0 = Go.VM.pts a 0 + Go.VM.pts b 0 := by
  rw [pts_below (d := c) (n := max a.length b.length) (by rw [h.len]; exact Nat.le_refl _), pts_below (d := a) (n := max a.length b.length) (by omega), pts_below (d := b) (n := max a.length b.length) (by omega), h.sum, Int.mul_add]
  have : ∀ n, sumB c n = sumB a n + sumB b n := fun n => by
    induction n with
    | zero => rfl
    | succ n ih => simp only [sumB, ih, h.take]; omega
  rw [this]
  omega
theorem getD_set (l : List Int) (i j : Nat) (v : Int) (h : i < l.length) : (l.set i v).getD j 0 = if i = j then v else l.getD j 0 := by
  by_cases hij : i = j
  · subst hij; simp [List.getD, h]
  · simp [List.getD, hij]
theorem getD_snoc (l : List Int) (e : Int) (j : Nat) : (l ++ [e]).getD j 0 = l.getD j 0 + if l.length = j then e else 0 := by
  rcases Nat.lt_trichotomy j l.length with h | h | h
  · rw [if_neg (by omega)]; simp [List.getD, List.getElem?_append_left h]
  · subst h; simp [List.getD]
  · rw [if_neg (by omega)]
    simp [List.getD, List.getElem?_eq_none (show l.length ≤ j by omega), List.getElem?_eq_none (show (l ++ [e]).length ≤ j by simp; omega)]
theorem addIn_ok {k : Nat} {z xs : List Int} (hz : Few z) (hx : z.length ≤ xs.length) (hb : ∀ i : Nat, 0 ≤ xs.getD i 0 ∧ xs.getD i 0 ≤ 1000) (hk : 50 < k) : Ok (gloop (distribution_Add_b2 k ⟨z⟩) k (0, xs)) (fun r => r.length = xs.length ∧ ∀ i : Nat, r.getD i 0 = xs.getD i 0 + z.getD i 0) := by
  have hl := hz.2.1
  refine ok_range z (fun s => s.1) (fun pre s => s.2.length = xs.length ∧ ∀ i : Nat, s.2.getD i 0 = xs.getD i 0 + pre.getD i 0) (by omega) rfl ⟨rfl, fun i => by simp⟩ (by omega) ?_ ?_
  · intro again s pre e post hl' hi hlt hw hinv hag
    obtain ⟨i, ys⟩ := s
    obtain ⟨g1, g2⟩ := hinv
    simp only at hi hlt hw g1 g2
    simp only [distribution_Add_b2, uc_mk]
    rw [dec_lt hlt, cond_true, gidx_mid hl' hi, hw]
    have he := hz.2.2 e (by rw [hl']; simp)
    refine ok_idx (by omega) (by omega) fun hii => ok_let ?_
    have hyi := g2 i.toNat
    rw [getD_of hii] at hyi
    have hpe : pre.getD i.toNat 0 = 0 := by simp [List.getD, List.getElem?_eq_none (show pre.length ≤ i.toNat by omega)]
    have hxb := hb i.toNat
    rw [w64 (x := ys[i.toNat] + e) (by omega) (by omega)]
    refine hag _ rfl ⟨by simpa using g1, fun j => ?_⟩
    dsimp only
    rw [getD_set _ _ _ _ hii, getD_snoc, g2 j]
    by_cases hij : i.toNat = j
    · rw [if_pos hij, if_pos (by omega), ← hij]; omega
    · rw [if_neg hij, if_neg (by omega)]; omega
  · intro again s hi hinv
    obtain ⟨i, ys⟩ := s
    obtain ⟨g1, g2⟩ := hinv
    simp only at hi g1 g2
    simp only [distribution_Add_b2, uc_mk]
    rw [dec_nlt (by omega), cond_false]
    exact Ok.ret ⟨g1, g2⟩
theorem few_getD {d : List Int} {c : Int} (h : ∀ x ∈ d, 0 ≤ x ∧ x ≤ c) (hc : 0 ≤ c) (i : Nat) : 0 ≤ d.getD i 0 ∧ d.getD i 0 ≤ c := by
  by_cases hi : i < d.length
  · rw [getD_of hi]; exact h _ (List.getElem_mem hi)
  · simp [List.getD, hi]; exact hc
theorem Add_ok {k : Nat} {a b : List Int} (ha : Few a) (hb : Few b) (ha5 : ∀ x ∈ a, 0 ≤ x ∧ x ≤ 500) (hb5 : ∀ x ∈ b, 0 ≤ x ∧ x ≤ 500) (hk : 50 < k) : Ok (distribution_Add k a b) (fun r => r.2 = 0 ∧ Adds r.1 a b ∧ Few r.1) := by
  have a1 := ha.2.1
  have b1 := hb.2.1
  have a0 := ha.1
  have b0 := hb.1
  have a2 := ha.sum
  have b2 := hb.sum
  unfold distribution_Add
  rw [Valid_ok ha hk, Valid_ok hb hk, Count_ok ha hk, Count_ok hb hk]
  simp only [Option.bind_some, Bool.not_true, cond_false, gmax_def]
  rw [w64 (x := a.sum + b.sum) (by omega) (by omega), show decide (a.sum + b.sum > 1048576) = false from decide_eq_false (by omega), cond_false]
  refine ok_make (by omega) (by omega) (ok_let ?_)
  rw [show (max (b.length : Int) a.length).toNat = max a.length b.length by omega]
  refine Ok.bind (Q := fun r => Adds r a b ∧ Few r) (ok_range ([⟨a⟩, ⟨b⟩] : List SDistribution) (fun s => s.1) (fun pre s => s.2.length = max a.length b.length ∧ (pre = [] → ∀ i : Nat, s.2.getD i 0 = 0) ∧ (pre = [⟨a⟩] → ∀ i : Nat, s.2.getD i 0 = a.getD i 0) ∧ (pre = [⟨a⟩, ⟨b⟩] → ∀ i : Nat, s.2.getD i 0 = a.getD i 0 + b.getD i 0)) (by simp) rfl ⟨by simp, fun _ i => ?_, fun h => by simp at h, fun h => by simp at h⟩ (by simp; omega) ?_ ?_) fun r hr => Ok.ret ⟨rfl, hr⟩
  · simp only [List.getD, List.getElem?_replicate]
    split <;> rfl
  · intro again s pre e post hl' hi hlt hw hinv hag
    obtain ⟨i, ys⟩ := s
    obtain ⟨g1, g2, g3, g4⟩ := hinv
    simp only at hi hlt hw g1 g2 g3 g4
    simp only [distribution_Add_b1, uc_mk]
    rw [dec_lt hlt, cond_true, gidx_mid hl' hi, hw]
    rcases pre with _ | ⟨p, _ | ⟨q, pre⟩⟩
    · simp only [List.nil_append, List.cons.injEq] at hl'
      obtain ⟨rfl, hl'⟩ := hl'
      have z0 := g2 rfl
      refine Ok.bind (addIn_ok ha (by omega) (fun i => by rw [z0 i]; omega) hk) fun r hr => hag _ rfl ⟨by dsimp only; omega, fun h => by simp at h, fun _ i => ?_, fun h => by simp at h⟩
      dsimp only
      rw [hr.2, z0]; omega
    · simp only [List.cons_append, List.nil_append, List.cons.injEq] at hl'
      obtain ⟨rfl, rfl, hl'⟩ := hl'
      have z0 := g3 rfl
      refine Ok.bind (addIn_ok hb (by omega) (fun i => by rw [z0 i]; exact few_getD ha.2.2 (by omega) i) hk) fun r hr => hag _ rfl ⟨by dsimp only; omega, fun h => by simp at h, fun h => by simp at h, fun _ i => ?_⟩
      dsimp only
      rw [hr.2, z0]
    · have := congrArg List.length hl'
      simp at this
  · intro again s hi hinv
    obtain ⟨i, ys⟩ := s
    obtain ⟨g1, g2, g3, g4⟩ := hinv
    simp only at hi g1 g2 g3 g4
    simp only [distribution_Add_b1, uc_mk]
    rw [dec_nlt (by omega), cond_false]
    refine Ok.ret ⟨⟨g1, g4 trivial⟩, by omega, by omega, fun x hx => ?_⟩
    obtain ⟨i, hi⟩ := List.getElem?_of_mem hx
    have e1 := g4 trivial i
    have e2 : ys.getD i 0 = x := by simp [List.getD, hi]
    have e3 := few_getD ha5 (by omega) i
    have e4 := few_getD hb5 (by omega) i
    omega
theorem Rank_no {k : Nat} {d : List Int} {s : Int} (h : Few d) (hk : 50 < k) (h0 : d.sum = 0) : distribution_Rank k d s = some (0, 0, 10) := by
  unfold distribution_Rank
  rw [check_ok h hk, if_pos h0]
  rfl
theorem Rank_ok {k : Nat} {d : List Int} {s : Int} (h : Few d) (hk : 100000 < k) (h0 : d.sum ≠ 0) (hs : 0 ≤ s) : distribution_Rank k d s = some (rnum ((d.take s.toNat).sum + (d.take (s.toNat + 1)).sum) (2 * d.sum), rden ((d.take s.toNat).sum + (d.take (s.toNat + 1)).sum) (2 * d.sum), 0) := by
  have h2 := h.sum
  have t1 := h.take s.toNat
  have t2 := h.take (s.toNat + 1)
  apply Ok.eq
  unfold distribution_Rank
  rw [check_ok h (by omega), if_neg h0, Option.bind_some, bne_self_eq_false, cond_false, Below_ok h (by omega), Count_ok h (by omega), Option.bind_some, blet_mk]
  rw [show decide (s ≥ 0) = true from decide_eq_true hs, Bool.true_and]
  refine Ok.bind (Q := fun r => r = (d.take (s.toNat + 1)).sum) (ok_bif (fun hc => ?_) fun hc => Ok.ret ?_) fun r hr => ?_
  · have hc' := of_decide_eq_true hc
    refine ok_idx hs hc' fun hi => Ok.ret ?_
    rw [take_succ_sum hi] at t2 ⊢
    rw [w64 (by omega) (by omega)]
  · have hc' := of_decide_eq_false hc
    rw [take_all (by omega), take_all (by omega)]
  · subst hr
    rw [w64 (x := (d.take s.toNat).sum + (d.take (s.toNat + 1)).sum) (by omega) (by omega)]
    simp only [Option.bind_some]
    rw [w64 (x := 2 * d.sum) (by omega) (by omega), New_ok (by omega) (by omega) (by omega) (by omega) (by omega)]
    exact Ok.ret rfl
theorem pure_DistributionSums (t : List Int) (ht : ∀ x ∈ t, fitsI .i64 x) (hl : t.length * 8 ≤ 140737488351232) : ∃ k, law32_DistributionSums k t = some true := by
  refine ⟨1000000, Ok.eq ?_⟩
  unfold law32_DistributionSums mark_Light mark_Roll
  simp only [Option.bind_some, u0_mk]
  refine ok_bif (fun hc => by rw [sane32_ok]; exact Ok.ret rfl) fun hc => ?_
  have hx : t.length ≤ 600 := by simp only [Bool.not_eq_false', decide_eq_true_iff] at hc; omega
  refine Dist_then hx (Int.le_refl _) (by omega) (by omega) (by omega) fun a j hMa hj => ?_
  refine Dist_then hx hj (by omega) (by omega) (by omega) fun b j hMb hj => ?_
  have ha := hMa.few (by omega)
  have hb := hMb.few (by omega)
  have has := ha.sum
  have hbs := hb.sum
  refine Ok.bind (Add_ok ha hb (fun x hx => by have := hMa.2.2 x hx; simp only [cond_false] at this; omega) (fun x hx => by have := hMb.2.2 x hx; simp only [cond_false] at this; omega) (by omega)) fun r hr => ?_
  obtain ⟨c, e⟩ := r
  obtain ⟨he, hA, hc⟩ := hr
  simp only at he hA hc
  subst he
  have hcs := hc.sum
  have hsum := hA.sum
  simp only [uc_mk, bne_self_eq_false, cond_false]
  rw [Count_ok ha (by omega), Count_ok hb (by omega), Count_ok hc (by omega)]
  simp only [Option.bind_some]
  rw [w64 (x := a.sum + b.sum) (by omega) (by omega), hsum, bne_self_eq_false, cond_false]
  refine ok_sum (Q := fun (_ : Unit) => True) (R := fun (_ : Bool) => False) (ok_loop (fun s => 0 ≤ s.1 ∧ s.1 ≤ 11 ∧ (c.sum ≠ 0 → ∃ n, 0 ≤ n ∧ n ≤ (c.take s.1.toNat).sum + (c.take (s.1.toNat + 1)).sum ∧ s.2.1 = rnum n (2 * c.sum) ∧ s.2.2 = rden n (2 * c.sum))) (fun s => 11 - s.1.toNat) ⟨by simp, by simp, fun h0 => ⟨0, by omega, ?_, ?_, ?_⟩⟩ (by dsimp only; omega) ?_) (fun _ _ => ?_) fun _ h => h.elim
  · have t1 := hc.take 0
    have t2 := hc.take 1
    show 0 ≤ (c.take 0).sum + (c.take 1).sum
    omega
  · unfold rnum; simp
  · unfold rden
    dsimp only
    rw [Int.zero_gcd, Int.natAbs_of_nonneg (by omega), Int.ediv_self (by omega)]
  · intro again s hs hag
    obtain ⟨i, p, q⟩ := s
    obtain ⟨g1, g2, g3⟩ := hs
    simp only at g1 g2 g3
    simp only [law32_DistributionSums_b1, uc_mk]
    refine ok_bif (fun hc' => ?_) fun hc' => Ok.ret trivial
    have hi10 := of_decide_eq_true hc'
    rw [Below_ok ha (by omega), Below_ok hb (by omega), Below_ok hc (by omega)]
    simp only [Option.bind_some]
    have t1 := ha.take i.toNat
    have t2 := hb.take i.toNat
    rw [w64 (x := (a.take i.toNat).sum + (b.take i.toNat).sum) (by omega) (by omega), hA.take, bne_self_eq_false, cond_false]
    rw [w64 (x := i + 1) (by omega) (by omega)]
    have e1 : (i + 1).toNat = i.toNat + 1 := by omega
    have q1 : 0 ≤ i + 1 := by omega
    have q2 : i + 1 ≤ 11 := by omega
    have q3 : 11 - (i + 1).toNat < 11 - i.toNat := by omega
    have m1 := take_le (d := c) (fun x hx => (hc.2.2 x hx).1) (m := i.toNat) (n := i.toNat + 1) (by omega)
    have m2 := take_le (d := c) (fun x hx => (hc.2.2 x hx).1) (m := i.toNat + 1) (n := i.toNat + 1 + 1) (by omega)
    have t3 := hc.take i.toNat
    have t4 := hc.take (i.toNat + 1)
    refine ok_sum (Q := fun (s : Int × Int) => c.sum ≠ 0 → ∃ n, 0 ≤ n ∧ n ≤ (c.take (i.toNat + 1)).sum + (c.take (i.toNat + 1 + 1)).sum ∧ s.1 = rnum n (2 * c.sum) ∧ s.2 = rden n (2 * c.sum)) (R := fun (_ : Bool) => False) ?_ (fun r hr => ?_) fun _ h => h.elim
    · by_cases h0 : c.sum = 0
      · rw [Rank_no hc (by omega) h0]
        exact Ok.ret fun h => absurd h0 h
      · rw [Rank_ok hc (by omega) h0 g1]
        obtain ⟨n, n0, n1, n2, n3⟩ := g3 h0
        simp only [Option.bind_some, uc_mk, beq_self_eq_true, cond_true]
        subst n2 n3
        have f1 := frac_new (n := (c.take i.toNat).sum + (c.take (i.toNat + 1)).sum) (d := 2 * c.sum) (by omega) (by omega) (by omega) (by omega)
        have f2 := frac_new (n := n) (d := 2 * c.sum) (by omega) (by omega) (by omega) (by omega)
        have k1 := rden_le (n := (c.take i.toNat).sum + (c.take (i.toNat + 1)).sum) (d := 2 * c.sum) (by omega)
        have k2 := rden_le (n := n) (d := 2 * c.sum) (by omega)
        rw [rLess_ok f1 f2 (by omega) (by omega), Option.bind_some]
        have : decide (rnum ((c.take i.toNat).sum + (c.take (i.toNat + 1)).sum) (2 * c.sum) * rden n (2 * c.sum) < rnum n (2 * c.sum) * rden ((c.take i.toNat).sum + (c.take (i.toNat + 1)).sum) (2 * c.sum)) = false := by
          refine decide_eq_false fun hlt => ?_
          rw [rless (by omega) (by omega)] at hlt
          have := Int.lt_of_mul_lt_mul_right hlt (by omega)
          omega
        rw [this, cond_false]
        exact Ok.ret fun _ => ⟨_, by omega, by omega, rfl, rfl⟩
    · obtain ⟨u, v⟩ := r
      exact hag _ ⟨q1, q2, fun h0 => by dsimp only; rw [e1]; exact hr h0⟩ q3
  · simp only [u0_mk]
    by_cases ha0 : a.sum = 0
    · rw [Mean_no ha (by omega) ha0]
      have hz : ∀ d, Few d → ∃ x y z, distribution_Mean 1000000 d = some (x, y, z) := fun d hd => by
        by_cases hd0 : d.sum = 0
        · exact ⟨_, _, _, Mean_no hd (by omega) hd0⟩
        · exact ⟨_, _, _, Mean_ok hd (by omega) hd0⟩
      obtain ⟨x1, y1, z1, h1⟩ := hz b hb
      obtain ⟨x2, y2, z2, h2⟩ := hz c hc
      rw [h1, h2]
      simp only [Option.bind_some, uc_mk, blet_mk]
      rw [show ((10 : Int) != 0) = true from rfl, Bool.true_or, cond_true, sane32_ok]
      exact Ok.ret rfl
    · by_cases hb0 : b.sum = 0
      · rw [Mean_ok ha (by omega) ha0, Mean_no hb (by omega) hb0, Mean_ok hc (by omega) (by omega)]
        simp only [Option.bind_some, uc_mk, blet_mk]
        rw [show ((10 : Int) != 0) = true from rfl, Bool.or_true, cond_true, sane32_ok]
        exact Ok.ret rfl
      · have hc0 : c.sum ≠ 0 := by omega
        rw [Mean_ok ha (by omega) ha0, Mean_ok hb (by omega) hb0, Mean_ok hc (by omega) hc0]
        simp only [Option.bind_some, uc_mk, blet_mk, bne_self_eq_false, Bool.or_false, cond_false, beq_self_eq_true, cond_true]
        have ka := mean_fuel ha ha0 (k := 1000000) (by omega)
        have kb := mean_fuel hb hb0 (k := 1000000) (by omega)
        have kc := mean_fuel hc hc0 (k := 1000000) (by omega)
        have fa := mean_frac ha ha0
        have fb := mean_frac hb hb0
        have fc := mean_frac hc hc0
        rw [rLess_ok fc fa kc ka, rLess_ok fc fb kc kb, rLess_ok fa fc ka kc, rLess_ok fb fc kb kc]
        simp only [Option.bind_some]
        have lca := rless (n := pts c 0) (d := c.sum) (m := pts a 0) (e := a.sum) (by omega) (by omega)
        have lcb := rless (n := pts c 0) (d := c.sum) (m := pts b 0) (e := b.sum) (by omega) (by omega)
        have lac := rless (n := pts a 0) (d := a.sum) (m := pts c 0) (e := c.sum) (by omega) (by omega)
        have lbc := rless (n := pts b 0) (d := b.sum) (m := pts c 0) (e := c.sum) (by omega) (by omega)
        have hp := hA.pts
        rw [hp, hsum] at lca lcb lac lbc
        simp only [Int.add_mul, Int.mul_add] at lca lcb lac lbc
        have o1 : (bif decide (rnum (pts c 0) c.sum * rden (pts a 0) a.sum < rnum (pts a 0) a.sum * rden (pts c 0) c.sum) then some (decide (rnum (pts c 0) c.sum * rden (pts b 0) b.sum < rnum (pts b 0) b.sum * rden (pts c 0) c.sum)) else some false : Option Bool) = some false := by
          rw [← hsum, ← hp] at lca lcb
          by_cases h1 : rnum (pts c 0) c.sum * rden (pts a 0) a.sum < rnum (pts a 0) a.sum * rden (pts c 0) c.sum
          · rw [decide_eq_true h1, cond_true]
            congr 1
            refine decide_eq_false fun h2 => ?_
            have := lca.1 h1
            have := lcb.1 h2
            omega
          · rw [decide_eq_false h1, cond_false]
        have o2 : (bif decide (rnum (pts a 0) a.sum * rden (pts c 0) c.sum < rnum (pts c 0) c.sum * rden (pts a 0) a.sum) then some (decide (rnum (pts b 0) b.sum * rden (pts c 0) c.sum < rnum (pts c 0) c.sum * rden (pts b 0) b.sum)) else some false : Option Bool) = some false := by
          rw [← hsum, ← hp] at lac lbc
          by_cases h1 : rnum (pts a 0) a.sum * rden (pts c 0) c.sum < rnum (pts c 0) c.sum * rden (pts a 0) a.sum
          · rw [decide_eq_true h1, cond_true]
            congr 1
            refine decide_eq_false fun h2 => ?_
            have := lac.1 h1
            have := lbc.1 h2
            omega
          · rw [decide_eq_false h1, cond_false]
        rw [o1, Option.bind_some, Option.bind_some, Bool.not_false, cond_true, o2]
        simp only [Option.bind_some, Bool.not_false, cond_true, sane32_ok]
        exact Ok.ret rfl
end Go.VM
