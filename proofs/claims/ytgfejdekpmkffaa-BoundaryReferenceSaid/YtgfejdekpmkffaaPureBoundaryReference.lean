/- The pure statement of BoundaryReference: whatever the numbers, the printed function answers true. -/
import Derived.Test.YtgfejdekpmkffaaRPBoundB
namespace Go.VM
set_option linter.unusedVariables false
set_option linter.unusedSimpArgs false
theorem sane35_ok : law35_sane 1000000 = some true := by decide +kernel
theorem same_ok {k : Nat} {a : List Int} (h : a.length < k) (hl : a.length ≤ 1000000) : law35_same k a a = some true := by
  apply Ok.eq
  unfold law35_same
  rw [bne_self_eq_false, cond_false]
  refine ok_sum (Q := fun (_ : Unit) => True) (R := fun (_ : Bool) => False) (ok_range a (fun s => s) (fun _ _ => True) (by omega) rfl trivial h ?_ ?_) (fun _ _ => Ok.ret rfl) fun _ h => h.elim
  · intro again s pre e post hl hi hlt hw _ hag
    simp only [law35_same_b1]
    rw [dec_lt hlt, cond_true, gidx_mid hl hi, gidx_mid hl hi, bne_self_eq_false, cond_false, hw]
    exact hag _ rfl trivial
  · intro again s hi _
    simp only [law35_same_b1]
    rw [dec_nlt (by omega), cond_false]
    exact Ok.ret trivial
/-- What Reference gives: the nearest of each boundary, but never more than the one before. -/
def refsL (N : Int → Int) : Option Int → List Int → List Int
  | _, [] => []
  | none, x :: b => N x :: refsL N (some (N x)) b
  | some p, x :: b => min (N x) p :: refsL N (some (min (N x) p)) b
theorem refsL_len (N : Int → Int) (b : List Int) (p : Option Int) : (refsL N p b).length = b.length := by
  induction b generalizing p with
  | nil => cases p <;> rfl
  | cons x b ih => cases p <;> simp [refsL, ih]
theorem refsL_le (N : Int → Int) (b : List Int) (p : Int) : ∀ x ∈ refsL N (some p) b, x ≤ p := by
  induction b generalizing p with
  | nil => simp [refsL]
  | cons x b ih =>
    simp only [refsL, List.mem_cons]
    rintro y (rfl | hy)
    · omega
    · have := ih _ y hy; omega
theorem refsL_falls (N : Int → Int) (b : List Int) (p : Option Int) : (refsL N p b).Pairwise (fun x y => y ≤ x) := by
  induction b generalizing p with
  | nil => cases p <;> simp [refsL]
  | cons x b ih =>
    cases p with
    | none => exact List.pairwise_cons.2 ⟨fun y hy => refsL_le N b _ y hy, ih _⟩
    | some p => exact List.pairwise_cons.2 ⟨fun y hy => refsL_le N b _ y hy, ih _⟩
theorem refsL_mem (N : Int → Int) (b : List Int) {c : Int} (h : ∀ x, 0 ≤ N x ∧ N x ≤ c) (p : Option Int) (hp : ∀ q, p = some q → 0 ≤ q) : ∀ x ∈ refsL N p b, 0 ≤ x ∧ x ≤ c := by
  induction b generalizing p with
  | nil => cases p <;> simp [refsL]
  | cons x b ih =>
    have hx := h x
    cases p with
    | none =>
      simp only [refsL, List.mem_cons]
      rintro y (rfl | hy)
      · exact hx
      · exact ih _ (fun q hq => by cases hq; exact hx.1) y hy
    | some p =>
      have := hp p rfl
      simp only [refsL, List.mem_cons]
      rintro y (rfl | hy)
      · omega
      · exact ih _ (fun q hq => by cases hq; omega) y hy
theorem refsL_congr {N M : Int → Int} (b : List Int) (h : ∀ x ∈ b, N x = M x) (p : Option Int) : refsL N p b = refsL M p b := by
  induction b generalizing p with
  | nil => cases p <;> rfl
  | cons x b ih =>
    have hx := h x (by simp)
    cases p with
    | none => simp only [refsL, hx]; rw [ih fun y hy => h y (by simp [hy])]
    | some p => simp only [refsL, hx]; rw [ih fun y hy => h y (by simp [hy])]
theorem refsL_grade {N : Int → Int} {s : Int} (b : List Int) (hb : b.Pairwise (fun x y => y ≤ x)) (h : ∀ x ∈ b, N x ≤ s ↔ x ≤ s) (p : Option Int) (hp : ∀ q, p = some q → q ≤ s → ∀ x ∈ b, x ≤ s) : gradeN (refsL N p b) s = gradeN b s := by
  induction b generalizing p with
  | nil => cases p <;> rfl
  | cons x b ih =>
    obtain ⟨h1, h2⟩ := List.pairwise_cons.1 hb
    have hx := h x (by simp)
    have go : ∀ q : Int, (q ≤ s ↔ x ≤ s) → gradeN (q :: refsL N (some q) b) s = gradeN (x :: b) s := fun q hq => by
      simp only [gradeN]
      by_cases hxs : x ≤ s
      · rw [if_pos hxs, if_pos (hq.2 hxs)]
      · rw [if_neg hxs, if_neg fun h => hxs (hq.1 h), ih h2 (fun y hy => h y (by simp [hy])) _ fun q' e hqs => by cases e; exact absurd (hq.1 hqs) hxs]
    cases p with
    | none => exact go _ hx
    | some p =>
      refine go _ ⟨fun hm => ?_, fun hxs => ?_⟩
      · by_cases hps : p ≤ s
        · exact hp p rfl hps x (by simp)
        · exact hx.1 (by omega)
      · have := hx.2 hxs; omega
/-- The nearest boundary of d to what reaches the boundary x of the reference. -/
def near (d r : List Int) (x : Int) : Int := (nearest d (reach r x) r.sum : Int)
theorem near_bound (d r : List Int) (x : Int) : 0 ≤ near d r x ∧ near d r x ≤ d.length := by
  unfold near nearest
  have := least_le (far d (reach r x) r.sum) d.length
  omega
theorem Reference_ok {k : Nat} {d r b : List Int} (hd : Few d) (hr : Few r) (hb : Order (r.length - 1) b) (hd0 : d.sum ≠ 0) (hr0 : r.sum ≠ 0) (hk : 100000 < k) : boundary_Reference k d r b = some (refsL (near d r) none b, 0) := by
  apply Ok.eq
  have hds := hd.sum
  have hrs := hr.sum
  have hr1 := hr.1
  have hr2 := hr.2.1
  have hb2 := hb.2.1
  unfold boundary_Reference
  rw [Valid_ok hd (by omega), Valid_ok hr (by omega), Count_ok hd (by omega), Count_ok hr (by omega), w64 (x := (r.length : Int) - 1) (by omega) (by omega), Check_ok hb (by omega) (by omega) (by omega)]
  simp only [Option.bind_some, Bool.not_true, cond_false, bne_self_eq_false]
  rw [show (d.sum == 0) = false by rw [beq_int]; exact decide_eq_false hd0, show (r.sum == 0) = false by rw [beq_int]; exact decide_eq_false hr0]
  simp only [Option.bind_some, cond_false]
  refine Ok.bind (Q := fun x => x = refsL (near d r) none b) (ok_range b (fun s => s.1) (fun pre s => s.2.length = pre.length ∧ ∀ post, s.2 ++ refsL (near d r) s.2.getLast? post = refsL (near d r) none (pre ++ post)) (by omega) rfl ⟨rfl, fun post => rfl⟩ (by omega) ?_ ?_) fun x hx => by subst hx; exact Ok.ret rfl
  · intro again s pre e post hl hi hlt hw hinv hag
    obtain ⟨i, xs⟩ := s
    obtain ⟨g1, g2⟩ := hinv
    simp only at hi hlt hw g1 g2
    simp only [boundary_Reference_b1, uc_mk]
    rw [dec_lt hlt, cond_true, gidx_mid hl hi, hw]
    have hre := reach_bound hr e
    have hpl : pre.length ≤ 9 := by rw [hl] at hb2; simp at hb2; omega
    rw [reach_ok hr (by omega), Count_ok hr (by omega), Option.bind_some, Option.bind_some, New_ok (by omega) (by omega) (by omega) (by omega) (by omega)]
    simp only [Option.bind_some, uc_mk]
    rw [Nearest_ok hd hre.1 hre.2 (by omega) (by omega) (by omega) (by omega) hd0]
    simp only [Option.bind_some, uc_mk]
    have hN : ((nearest d (reach r e) r.sum : Nat) : Int) = near d r e := rfl
    rw [hN]
    refine Ok.bind (Q := fun z => ∀ post, xs ++ refsL (near d r) xs.getLast? (e :: post) = (xs ++ [z]) ++ refsL (near d r) (some z) post) (ok_bif (fun hc => ?_) fun hc => Ok.ret fun post => ?_) fun z hz => ?_
    · have hc' := of_decide_eq_true hc
      rw [w64 (x := i - 1) (by omega) (by omega)]
      refine ok_idx (by omega) (by omega) fun hi2 => Ok.ret fun post => ?_
      have hlast : xs.getLast? = some xs[(i - 1).toNat] := by
        rw [List.getLast?_eq_getElem?, List.getElem?_eq_getElem (by omega)]
        congr 2
        omega
      rw [hlast, gmin_def]
      simp [refsL, Int.min_comm]
    · have hc' := of_decide_eq_false hc
      have : xs = [] := List.eq_nil_of_length_eq_zero (by omega)
      subst this
      simp [refsL]
    · refine ok_cap (by simp; omega) (hag _ rfl ⟨by simp [g1], fun post => ?_⟩)
      have h1 := g2 (e :: post)
      rw [hz post] at h1
      simpa using h1
  · intro again s hi hinv
    obtain ⟨i, xs⟩ := s
    obtain ⟨g1, g2⟩ := hinv
    simp only at hi g1 g2
    simp only [boundary_Reference_b1, uc_mk]
    rw [dec_nlt (by omega), cond_false]
    have := g2 []
    have e : refsL (near d r) xs.getLast? [] = [] := by cases xs.getLast? <;> rfl
    rw [e] at this
    exact Ok.ret (by simpa using this)
/-! ### the distribution itself -/
theorem reach_lt {d : List Int} (h : Few d) {a b : Int} {s : Nat} (ha : a ≤ s) (hb : (s : Int) < b) (h0 : 0 ≤ a) (hs : d.getD s 0 ≠ 0) : reach d b < reach d a := by
  have hsl : s < d.length := by
    rcases Nat.lt_or_ge s d.length with h | h
    · exact h
    · exact absurd (by simp [List.getD, List.getElem?_eq_none h]) hs
  have hnn : ∀ x ∈ d, 0 ≤ x := fun x hx => (h.2.2 x hx).1
  have h1 := reach_anti hnn ha
  have h2 := reach_anti hnn (a := (s : Int) + 1) (b := b) (by omega)
  have h3 : reach d ((s : Int) + 1) = reach d s - d[s] := by
    unfold reach
    rw [show ((s : Int) + 1).toNat = s + 1 by omega, show ((s : Int)).toNat = s by omega, take_succ_sum hsl]
    omega
  have h4 := hnn _ (List.getElem_mem hsl)
  rw [getD_of hsl] at hs
  omega
theorem near_own {d : List Int} (h : Few d) (h0 : d.sum ≠ 0) {x : Int} (hx : 0 ≤ x) (hxl : x ≤ d.length) {s : Nat} (hs : d.getD s 0 ≠ 0) : near d d x ≤ s ↔ x ≤ s := by
  have hds := h.sum
  have hm := least_min (far d (reach d x) d.sum) d.length x.toNat (by omega)
  have hz : far d (reach d x) d.sum x.toNat = 0 := by
    unfold far
    rw [show ((x.toNat : Nat) : Int) = x by omega]
    omega
  rw [hz] at hm
  have e : least (far d (reach d x) d.sum) d.length = nearest d (reach d x) d.sum := rfl
  rw [e] at hm
  have hle : nearest d (reach d x) d.sum ≤ x.toNat := by
    rcases Nat.lt_or_ge x.toNat (nearest d (reach d x) d.sum) with h | h
    · have := hm.2 h; omega
    · exact h
  have hf : far d (reach d x) d.sum (nearest d (reach d x) d.sum) = 0 := by omega
  unfold far at hf
  have hmul : reach d ((nearest d (reach d x) d.sum : Nat) : Int) * d.sum = reach d x * d.sum := by omega
  have heq := Int.eq_of_mul_eq_mul_right (by omega) hmul
  unfold near
  constructor
  · intro hn
    rcases Int.lt_or_le (s : Int) x with hlt | hge
    · have := reach_lt h hn hlt (by omega) hs
      omega
    · exact hge
  · intro hxs; omega
theorem tally_own {d b : List Int} (h : Few d) (h0 : d.sum ≠ 0) (hb : Order (d.length - 1) b) : tally d (refsL (near d d) none b) = tally d b := by
  unfold tally
  rw [refsL_len]
  congr 1
  funext g
  have : ∀ n, n ≤ d.length → cnt d (refsL (near d d) none b) g n = cnt d b g n := fun n hn => by
    induction n with
    | zero => rfl
    | succ n ih =>
      simp only [cnt]
      rw [ih (by omega)]
      by_cases hz : d.getD n 0 = 0
      · rw [hz]; simp
      · rw [refsL_grade b hb.2.2.2 (fun x hx => by
          have := hb.2.2.1 x hx
          exact near_own h h0 this.1 (by omega) hz) none (by simp)]
  exact this _ (Nat.le_refl _)
/-! ### many times -/
theorem sum_scale (d : List Int) (k : Int) : (d.map (· * k)).sum = d.sum * k := by
  induction d with
  | nil => simp
  | cons x d ih => simp only [List.map_cons, List.sum_cons, ih, Int.add_mul]
theorem reach_scale (d : List Int) (k b : Int) : reach (d.map (· * k)) b = reach d b * k := by
  unfold reach
  rw [sum_scale, ← List.map_take, sum_scale, Int.sub_mul]
theorem far_times {d : List Int} {k : Int} (hk : 1 ≤ k) (n m : Int) (b : Nat) : far (d.map (· * k)) n m b = k.toNat * far d n m b := by
  unfold far
  rw [reach_scale, sum_scale]
  rw [show reach d b * k * m - n * (d.sum * k) = k * (reach d b * m - n * d.sum) by rw [Int.mul_sub]; congr 1 <;> ac_rfl, Int.natAbs_mul]
  congr 1
  omega
theorem far_share {d : List Int} {k : Int} (hk : 1 ≤ k) (n m : Int) (b : Nat) : far d (n * k) (m * k) b = k.toNat * far d n m b := by
  unfold far
  rw [show reach d b * (m * k) - n * k * d.sum = k * (reach d b * m - n * d.sum) by rw [Int.mul_sub]; congr 1 <;> ac_rfl, Int.natAbs_mul]
  congr 1
  omega
theorem near_times {d r : List Int} {k : Int} (hk : 1 ≤ k) (x : Int) : near (d.map (· * k)) r x = near d r x := by
  unfold near nearest
  rw [List.length_map, least_scale _ _ k.toNat (by omega) (far_times hk (reach r x) r.sum)]
theorem near_share {d r : List Int} {k : Int} (hk : 1 ≤ k) (x : Int) : near d (r.map (· * k)) x = near d r x := by
  unfold near nearest
  rw [reach_scale, sum_scale, least_scale _ _ k.toNat (by omega) (far_share hk (reach r x) r.sum)]
theorem few_scale {d : List Int} (hd : Few d) (h5 : ∀ x ∈ d, 0 ≤ x ∧ x ≤ 6) {k : Int} (hk : 1 ≤ k) (hk5 : k ≤ 5) : Few (d.map (· * k)) := by
  refine ⟨by rw [List.length_map]; exact hd.1, by rw [List.length_map]; exact hd.2.1, fun x hx => ?_⟩
  simp only [List.mem_map] at hx
  obtain ⟨y, hy, rfl⟩ := hx
  have := h5 y hy
  have p0 : 0 ≤ y * k := Int.mul_nonneg this.1 (by omega)
  have p1 : y * k ≤ 6 * 5 := Int.mul_le_mul this.2 hk5 (by omega) (by omega)
  omega
theorem scale1_ok {d : List Int} (hd : Few d) (h5 : ∀ x ∈ d, 0 ≤ x ∧ x ≤ 6) {k : Int} (hk : 1 ≤ k) (hk5 : k ≤ 5) : gloop (law35_BoundaryReference_b1 1000000 d k) 1000000 (0, ([] : List Int)) = some (d.map (· * k)) := by
  apply Ok.eq
  have hl := hd.2.1
  refine ok_range d (fun s => s.1) (fun pre s => s.2 = pre.map (· * k)) (by omega) rfl rfl (by omega) ?_ ?_
  · intro again s pre e post hl' hi hlt hw hinv hag
    obtain ⟨i, xs⟩ := s
    simp only at hi hlt hw hinv
    simp only [law35_BoundaryReference_b1, uc_mk]
    rw [dec_lt hlt, cond_true, gidx_mid hl' hi, hw]
    have := h5 e (by rw [hl']; simp)
    have p0 : 0 ≤ e * k := Int.mul_nonneg this.1 (by omega)
    have p1 : e * k ≤ 6 * 5 := Int.mul_le_mul this.2 hk5 (by omega) (by omega)
    have hpl : pre.length ≤ 40 := by rw [hl'] at hl; simp at hl; omega
    rw [w64 (x := e * k) (by omega) (by omega), hinv]
    exact ok_cap (by simp; omega) (hag _ rfl (by simp))
  · intro again s hi hinv
    obtain ⟨i, xs⟩ := s
    simp only at hi hinv
    simp only [law35_BoundaryReference_b1, uc_mk]
    rw [dec_nlt (by omega), cond_false]
    exact Ok.ret hinv
theorem scale2_ok {d : List Int} (hd : Few d) (h5 : ∀ x ∈ d, 0 ≤ x ∧ x ≤ 6) {k : Int} (hk : 1 ≤ k) (hk5 : k ≤ 5) : gloop (law35_BoundaryReference_b2 1000000 d) 1000000 (k, 0, ([] : List Int)) = some (k, d.map (· * k)) := by
  apply Ok.eq
  have hl := hd.2.1
  refine ok_range d (fun s => s.2.1) (fun pre s => s.1 = k ∧ s.2.2 = pre.map (· * k)) (by omega) rfl ⟨rfl, rfl⟩ (by omega) ?_ ?_
  · intro again s pre e post hl' hi hlt hw hinv hag
    obtain ⟨k', i, xs⟩ := s
    simp only at hi hlt hw hinv
    obtain ⟨hk', hinv⟩ := hinv
    subst hk'
    simp only [law35_BoundaryReference_b2, uc_mk]
    rw [dec_lt hlt, cond_true, gidx_mid hl' hi, hw]
    have := h5 e (by rw [hl']; simp)
    have p0 : 0 ≤ e * k' := Int.mul_nonneg this.1 (by omega)
    have p1 : e * k' ≤ 6 * 5 := Int.mul_le_mul this.2 hk5 (by omega) (by omega)
    have hpl : pre.length ≤ 40 := by rw [hl'] at hl; simp at hl; omega
    rw [w64 (x := e * k') (by omega) (by omega), hinv]
    exact ok_cap (by simp; omega) (hag _ rfl ⟨rfl, by simp⟩)
  · intro again s hi hinv
    obtain ⟨k', i, xs⟩ := s
    simp only at hi hinv
    obtain ⟨hk', hinv⟩ := hinv
    subst hk'
    simp only [law35_BoundaryReference_b2, uc_mk]
    rw [dec_nlt (by omega), cond_false]
    exact Ok.ret (by rw [hinv])
theorem pure_BoundaryReference (t : List Int) (ht : ∀ x ∈ t, fitsI .i64 x) (hl : t.length * 8 ≤ 140737488351232) (n : Int) (hn : fitsI .u8 n) : ∃ k, law35_BoundaryReference k t n = some true := by
  refine ⟨1000000, Ok.eq ?_⟩
  rw [fits8] at hn
  unfold law35_BoundaryReference mark_Light mark_Roll
  simp only [Option.bind_some, u0_mk]
  refine ok_bif (fun hc => by rw [sane35_ok]; exact Ok.ret rfl) fun hc => ?_
  have hx : t.length ≤ 600 := by simp only [Bool.not_eq_false', decide_eq_true_iff] at hc; omega
  refine Dist_then hx (Int.le_refl _) (by omega) (by omega) (by omega) fun a j hMa hj => ?_
  refine Dist_then hx hj (by omega) (by omega) (by omega) fun r j hMr hj => ?_
  have ha := hMa.few (by omega)
  have hr := hMr.few (by omega)
  have ha6 : ∀ x ∈ a, 0 ≤ x ∧ x ≤ 6 := fun x hx => by have := hMa.2.2 x hx; simpa using this
  have hr6 : ∀ x ∈ r, 0 ≤ x ∧ x ≤ 6 := fun x hx => by have := hMr.2.2 x hx; simpa using this
  have has := ha.sum
  have hrs := hr.sum
  have hr1 := hr.1
  have hr2 := hr.2.1
  rw [rCount_ok ha (by omega), rCount_ok hr (by omega)]
  simp only [Option.bind_some]
  by_cases ha0 : a.sum = 0
  · rw [ha0]
    simp only [beq_self_eq_true, cond_true, Option.bind_some, sane35_ok]
    exact Ok.ret rfl
  rw [show (a.sum == 0) = false by rw [beq_int]; exact decide_eq_false ha0, cond_false, Option.bind_some]
  by_cases hr0 : r.sum = 0
  · rw [hr0]
    simp only [beq_self_eq_true, cond_true, Option.bind_some, sane35_ok]
    exact Ok.ret rfl
  rw [show (r.sum == 0) = false by rw [beq_int]; exact decide_eq_false hr0, cond_false, w64 (x := (r.length : Int) - 1) (by omega) (by omega)]
  refine Bounds_then hx hj (by omega) (by omega) (by omega) fun b j hb hj => ?_
  have ho := hb.order
  have hbl := hb.2.1
  have hb1 := hb.1
  rw [Reference_ok hr hr ho hr0 hr0 (by omega)]
  simp only [Option.bind_some, uc_mk]
  have howo : Order ((r.length : Int) - 1) (refsL (near r r) none b) := by
    refine ⟨by rw [refsL_len]; exact hb1, by rw [refsL_len]; omega, fun x hx => ?_, refsL_falls _ _ _⟩
    have := refsL_mem (near r r) b (c := r.length) (near_bound r r) none (by simp) x hx
    omega
  obtain ⟨z1, e1, q1, _⟩ := Tally_ok (k := 1000000) hr howo (by omega)
  obtain ⟨z2, e2, q2, _⟩ := Tally_ok (k := 1000000) hr ho (by omega)
  rw [e1, e2, q1, q2, tally_own hr hr0 ho, Reference_ok ha hr ho ha0 hr0 (by omega)]
  simp only [Option.bind_some, uc_mk, bne_self_eq_false, Bool.or_false, blet_mk, cond_false]
  have htl : (tally r b).length = b.length + 1 := by simp [tally]
  rw [same_ok (by omega) (by omega)]
  simp only [Option.bind_some, Bool.not_true, cond_false]
  obtain ⟨l, hll⟩ : ∃ l, l = refsL (near a r) none b := ⟨_, rfl⟩
  rw [← hll]
  have hlen : l.length = b.length := by rw [hll, refsL_len]
  have hfall : l.Pairwise (fun x y => y ≤ x) := by rw [hll]; exact refsL_falls _ _ _
  refine ok_sum (Q := fun (_ : Unit) => True) (R := fun (_ : Bool) => False) (ok_loop (fun (i : Int) => 1 ≤ i) (fun i => l.length + 1 - i.toNat) (Int.le_refl _) (by omega) ?_) (fun _ _ => ?_) fun _ h => h.elim
  · intro again i hi hag
    simp only [law35_BoundaryReference_b3]
    refine ok_bif (fun hc => ?_) fun hc => Ok.ret trivial
    have hc' := of_decide_eq_true hc
    rw [w64 (x := i - 1) (by omega) (by omega), w64 (x := i + 1) (by omega) (by omega)]
    refine ok_idx (by omega) hc' fun h1 => ok_idx (by omega) (by omega) fun h2 => ?_
    have := List.pairwise_iff_getElem.1 hfall (i - 1).toNat i.toNat h2 h1 (by omega)
    rw [show decide (l[i.toNat] > l[(i - 1).toNat]) = false from decide_eq_false (by omega), cond_false]
    exact hag _ (by omega) (by omega)
  · simp only [u0_mk]
    rw [Int.tmod_eq_emod_of_nonneg hn.1]
    have hk5 : 0 ≤ n % 5 ∧ n % 5 ≤ 4 := by omega
    rw [w64 (x := n % 5) (by omega) (by omega), w64 (x := 1 + n % 5) (by omega) (by omega)]
    obtain ⟨k, hk⟩ : ∃ k, k = 1 + n % 5 := ⟨_, rfl⟩
    rw [← hk]
    have hk1 : 1 ≤ k ∧ k ≤ 5 := by omega
    rw [scale2_ok ha ha6 hk1.1 hk1.2]
    simp only [Option.bind_some, uc_mk]
    rw [scale1_ok hr hr6 hk1.1 hk1.2]
    simp only [Option.bind_some]
    have fa := few_scale ha ha6 hk1.1 hk1.2
    have fr := few_scale hr hr6 hk1.1 hk1.2
    have sa : (a.map (· * k)).sum ≠ 0 := by
      rw [sum_scale]
      have := Int.mul_pos (show 0 < a.sum by omega) (show 0 < k by omega)
      omega
    have sr : (r.map (· * k)).sum ≠ 0 := by
      rw [sum_scale]
      have := Int.mul_pos (show 0 < r.sum by omega) (show 0 < k by omega)
      omega
    rw [Reference_ok fa hr ho sa hr0 (by omega), Reference_ok ha fr (by rw [List.length_map]; exact ho) ha0 sr (by omega)]
    rw [refsL_congr b (fun x _ => near_times (d := a) (r := r) hk1.1 x) none, refsL_congr b (fun x _ => near_share (d := a) (r := r) hk1.1 x) none, ← hll]
    simp only [Option.bind_some, uc_mk, beq_self_eq_true, Bool.and_true, blet_mk, cond_true]
    rw [same_ok (by omega) (by omega), sane35_ok]
    exact Ok.ret rfl
end Go.VM
