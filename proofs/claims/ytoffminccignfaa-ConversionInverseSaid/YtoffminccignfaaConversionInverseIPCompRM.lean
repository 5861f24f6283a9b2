/- slices.Compact at fractions: plain reasoning about the printed functions. -/
import Derived.Test.YtoffminccignfaaConversionInverseEngTM
import Derived.Test.YtoffminccignfaaIFuns
namespace Go.VM
set_option linter.unusedVariables false
set_option linter.unusedSimpArgs false

theorem gidx_of {α X : Type} {l : List α} {i : Int} {B : α → Option X} {e : α} (h0 : 0 ≤ i) (h : l[i.toNat]? = some e) : gidx l i B = B e := by
  have hi := (List.getElem?_eq_some_iff.1 h).1
  rw [gidx_some h0 hi, (List.getElem?_eq_some_iff.1 h).2]
theorem beq_encR (x y : Rat) : (((encR x).Num == (encR y).Num) && (((encR x).Den == (encR y).Den) && true)) = decide (x = y) := by
  show ((x.num == y.num) && (((x.den : Int) == (y.den : Int)) && true)) = decide (x = y)
  rw [Bool.and_true, beq_int, beq_int]
  by_cases he : x = y
  · rw [he]; simp
  · rw [decide_eq_false he, Bool.and_eq_false_iff, decide_eq_false_iff_not, decide_eq_false_iff_not]
    by_cases hn : x.num = y.num
    · right
      intro hd
      exact he (Rat.ext hn (by omega))
    · left; exact hn
theorem rat_lt {a b : Rat} (h : a ≤ b) (hne : ¬b = a) : a < b := by grind
theorem rat_le_lt {a b c : Rat} (h : a ≤ b) (h2 : b < c) : a < c := by grind
theorem take_clear {α : Type} {xs : List α} {z : α} {m : Nat} (h : m ≤ xs.length) : List.take m (List.drop 0 (gclear xs z (0 + m) (xs.length - m))) = List.take m xs := by
  unfold gclear
  rw [List.drop_zero, List.take_take, Nat.min_eq_left h, Nat.zero_add, List.append_assoc, List.take_append_of_le_length (by simp; omega), List.take_take, Nat.min_self]
theorem sorted_le {l : List Rat} (hs : l.Pairwise (· ≤ ·)) {i j : Nat} (hj : j < l.length) (hij : i ≤ j) : l[i]'(by omega) ≤ l[j] := by
  rcases Nat.lt_or_eq_of_le hij with h | rfl
  · exact List.pairwise_iff_getElem.1 hs i j (by omega) hj h
  · exact Rat.le_refl
theorem mem_take_le {l : List Rat} (hs : l.Pairwise (· ≤ ·)) {n : Nat} (hn : n < l.length) {x : Rat} (hx : x ∈ l.take (n + 1)) : x ≤ l[n] := by
  obtain ⟨i, hi, rfl⟩ := List.mem_iff_getElem.1 hx
  simp only [List.length_take] at hi
  rw [List.getElem_take]
  exact sorted_le hs hn (by omega)
theorem mem_take_succ {l : List Rat} {n : Nat} (hn : n < l.length) {x : Rat} : x ∈ l.take (n + 1) ↔ x ∈ l.take n ∨ x = l[n] := by
  rw [List.take_succ_eq_append_getElem hn, List.mem_append, List.mem_singleton]
theorem compact_rest {l : List Rat} (hs : l.Pairwise (· ≤ ·)) (hl : l.length ≤ 1000) {k0 : Nat} (h1 : 1 ≤ k0) (hk : k0 < l.length) (hasc : (l.take k0).Pairwise (· < ·)) (heq : l[k0] = l[k0 - 1]) :
    Ok (gloop (slices_Compact_api_Ratio_api_Ratio_b2 fuel (l.map encR) (k0 : Int)) fuel ((k0 : Int), 1, l.map encR)) (fun r => ∃ (m : Nat) (P : List Rat), r.1 = (m : Int) ∧ m ≤ P.length ∧ r.2 = P.map encR ∧ P.length = l.length ∧ (P.take m).Pairwise (· < ·) ∧ ∀ x, x ∈ P.take m ↔ x ∈ l) := by
  refine ok_loop (fun s => ∃ (m j : Nat) (P : List Rat), s.1 = (m : Int) ∧ s.2.1 = (j : Int) ∧ 1 ≤ j ∧ k0 + j ≤ l.length ∧ k0 ≤ m ∧ m ≤ k0 + j - 1 ∧ P.length = k0 + j - 1 ∧ s.2.2 = (P ++ l.drop (k0 + j - 1)).map encR ∧ (P.take m).Pairwise (· < ·) ∧ ∀ x, x ∈ P.take m ↔ x ∈ l.take (k0 + j)) (fun s => (1001 - s.2.1).toNat)
    ⟨k0, 1, l.take k0, rfl, rfl, by omega, by omega, by omega, by omega, by simp; omega, by simp, ?_, ?_⟩ (by dsimp only; unfold fuel; omega) ?_
  · rw [List.take_take, Nat.min_self]; exact hasc
  · intro x
    rw [List.take_take, Nat.min_self, mem_take_succ hk]
    constructor
    · exact .inl
    · rintro (h | rfl)
      · exact h
      · rw [heq, List.mem_iff_getElem]
        exact ⟨k0 - 1, by simp; omega, by simp⟩
  · intro again s hsI hag
    obtain ⟨m', j', xs⟩ := s
    obtain ⟨m, j, P, g1, g2, g3, g4, g5, g6, g7, g8, g9, g10⟩ := hsI
    simp only at g1 g2 g8
    subst g1 g2
    simp only [slices_Compact_api_Ratio_api_Ratio_b2, uc_mk]
    rw [List.length_map, Int.toNat_natCast, Nat.zero_add]
    refine ok_bif (fun hc => ?_) fun hc => ?_
    · have hc' := of_decide_eq_true hc
      have hj : k0 + j < l.length := by omega
      have hb : k0 + j - 1 < l.length := by omega
      have hdrop : l.drop (k0 + j - 1) = l[k0 + j - 1] :: l.drop (k0 + j) := by
        rw [List.drop_eq_getElem_cons hb, show k0 + j - 1 + 1 = k0 + j by omega]
      have hQ : xs = ((P ++ [l[k0 + j - 1]]) ++ l.drop (k0 + j)).map encR := by rw [g8, hdrop]; simp
      have hQl : (P ++ [l[k0 + j - 1]]).length = k0 + j := by simp; omega
      have e1 : (List.take (l.length - k0) (List.drop k0 xs))[((j : Nat) : Int).toNat]? = some (encR l[k0 + j]) := by
        rw [Int.toNat_natCast, List.getElem?_take_of_lt (by omega), List.getElem?_drop, hQ, List.getElem?_map, List.getElem?_append_right (by omega), List.getElem?_drop, hQl]
        simp [hj]
      have e2 : (List.take (l.length - k0) (List.drop k0 xs))[((j : Int) - 1).toNat]? = some (encR l[k0 + j - 1]) := by
        rw [show ((j : Int) - 1).toNat = j - 1 by omega, List.getElem?_take_of_lt (by omega), List.getElem?_drop, hQ, List.getElem?_map, List.getElem?_append_left (by omega), show k0 + (j - 1) = P.length by omega]
        simp
      rw [w64 (x := (j : Int) - 1) (by omega) (by omega), gidx_of (by omega) e1, gidx_of (by omega) e2, beq_encR]
      rw [w64 (x := (j : Int) + 1) (by omega) (by omega)]
      by_cases hab : l[k0 + j] = l[k0 + j - 1]
      · rw [decide_eq_true hab, Bool.not_true, cond_false, Option.bind_some, uc_mk]
        refine hag _ ⟨m, j + 1, P ++ [l[k0 + j - 1]], rfl, by dsimp only; omega, by omega, by omega, by omega, by omega, by simp; omega, by dsimp only; rw [hQ]; rfl, ?_, fun x => ?_⟩ (by dsimp only; omega)
        · rw [List.take_append_of_le_length (by omega)]; exact g9
        · rw [List.take_append_of_le_length (by omega), g10 x, show k0 + (j + 1) = k0 + j + 1 by omega, mem_take_succ hj]
          constructor
          · exact .inl
          · rintro (h | rfl)
            · exact h
            · rw [hab, List.mem_iff_getElem]
              exact ⟨k0 + j - 1, by simp; omega, by simp⟩
      · rw [decide_eq_false hab, Bool.not_false, cond_true]
        have hxl : xs.length = l.length := by rw [hQ]; simp; omega
        refine Ok.bind (Q := fun r => r.1 = ((m + 1 : Nat) : Int) ∧ r.2 = (((P ++ [l[k0 + j - 1]]).set m l[k0 + j]) ++ l.drop (k0 + j)).map encR) (ok_idx (by omega) (by omega) fun hi => ok_let ?_) fun r hr => ?_
        · rw [w64 (x := (m : Int) + 1) (by omega) (by omega)]
          refine Ok.ret ⟨by dsimp only; omega, ?_⟩
          dsimp only
          rw [Int.toNat_natCast, hQ, ← List.map_set, List.set_append_left _ _ (by omega)]
        · obtain ⟨r1, r2⟩ := r
          obtain ⟨q1, q2⟩ := hr
          simp only at q1 q2
          subst q1 q2
          have hlt : l[k0 + j - 1] < l[k0 + j] := by
            have := sorted_le hs (i := k0 + j - 1) hj (by omega)
            exact rat_lt this hab
          have hset : ((P ++ [l[k0 + j - 1]]).set m l[k0 + j]).take (m + 1) = P.take m ++ [l[k0 + j]] := by
            rw [List.take_succ_eq_append_getElem (by simp; omega), List.take_set_of_le (Nat.le_refl m), List.take_append_of_le_length (by omega)]
            simp
          refine hag _ ⟨m + 1, j + 1, (P ++ [l[k0 + j - 1]]).set m l[k0 + j], rfl, by dsimp only; omega, by omega, by omega, by omega, by omega, by simp; omega, by dsimp only; rfl, ?_, fun x => ?_⟩ (by dsimp only; omega)
          · rw [hset]
            refine List.pairwise_append.2 ⟨g9, by simp, fun x hx y hy => ?_⟩
            rw [List.mem_singleton] at hy
            subst hy
            have hx' := (g10 x).1 hx
            rw [show k0 + j = k0 + j - 1 + 1 by omega] at hx'
            have := mem_take_le hs hb hx'
            exact rat_le_lt this hlt
          · rw [hset, List.mem_append, List.mem_singleton, g10 x, show k0 + (j + 1) = k0 + j + 1 by omega, mem_take_succ hj]
    · have hc' := of_decide_eq_false hc
      have hj : k0 + j = l.length := by omega
      refine Ok.ret ⟨m, P ++ l.drop (k0 + j - 1), rfl, by simp; omega, g8, by simp; omega, ?_, fun x => ?_⟩
      · rw [List.take_append_of_le_length (by omega)]; exact g9
      · rw [List.take_append_of_le_length (by omega), g10 x, hj, List.take_length]
theorem compact_ok {l : List Rat} (hs : l.Pairwise (· ≤ ·)) (hl : l.length ≤ 1000) : Ok (slices_Compact_api_Ratio_api_Ratio fuel (l.map encR)) (fun r => ∃ s : List Rat, r.1 = s.map encR ∧ s.Pairwise (· < ·) ∧ ∀ x, x ∈ s ↔ x ∈ l) := by
  unfold slices_Compact_api_Ratio_api_Ratio
  rw [List.length_map]
  refine ok_bif (fun hc => ?_) fun hc => ?_
  · have hc' := of_decide_eq_true hc
    refine Ok.ret ⟨l, rfl, ?_, fun x => Iff.rfl⟩
    match l, hc' with
    | [], _ => simp
    | [x], _ => simp
    | x :: y :: l, h => simp at h; omega
  · have hc' := of_decide_eq_false hc
    refine ok_sum (Q := fun _ => l.Pairwise (· < ·)) (R := fun r => ∃ s : List Rat, r.1 = s.map encR ∧ s.Pairwise (· < ·) ∧ ∀ x, x ∈ s ↔ x ∈ l) (ok_loop (fun i => ∃ n : Nat, i = (n : Int) ∧ 1 ≤ n ∧ n ≤ l.length ∧ (l.take n).Pairwise (· < ·)) (fun i => (1001 - i).toNat) ⟨1, rfl, by omega, by omega, ?_⟩ (by unfold fuel; omega) ?_) (fun _ h => Ok.ret ⟨l, rfl, h, fun x => Iff.rfl⟩) (fun r h => Ok.ret h)
    · match l with
      | [] => simp
      | x :: l => simp
    · intro again i hi hag
      obtain ⟨n, rfl, n1, n2, n3⟩ := hi
      simp only [slices_Compact_api_Ratio_api_Ratio_b1]
      rw [List.length_map]
      refine ok_bif (fun hc2 => ?_) fun hc2 => ?_
      · have hc2' := of_decide_eq_true hc2
        have hn : n < l.length := by omega
        have e1 : (l.map encR)[((n : Nat) : Int).toNat]? = some (encR l[n]) := by simp [hn]
        have e2 : (l.map encR)[((n : Int) - 1).toNat]? = some (encR l[n - 1]) := by
          rw [show ((n : Int) - 1).toNat = n - 1 by omega]
          simp [show n - 1 < l.length by omega]
        rw [w64 (x := (n : Int) - 1) (by omega) (by omega), gidx_of (by omega) e1, gidx_of (by omega) e2, beq_encR]
        by_cases hab : l[n] = l[n - 1]
        · rw [decide_eq_true hab, cond_true]
          refine ok_cut (by omega) (by omega) (by omega) (Ok.bind (compact_rest hs hl n1 hn n3 hab) fun r hr => ?_)
          obtain ⟨r1, r2⟩ := r
          obtain ⟨m, P, p1, p2, p3, p4, p5, p6⟩ := hr
          simp only at p1 p3
          subst p1 p3
          simp only [uc_mk, List.length_map, Int.toNat_natCast]
          refine ok_cut (by omega) (by omega) (by omega) (ok_let (ok_cut (by omega) (by omega) ?_ (Ok.ret ⟨P.take m, ?_, p5, p6⟩)))
          · rw [gclear_len]; simp; omega
          · dsimp only
            have := take_clear (xs := P.map encR) (z := (⟨0, 0⟩ : SRatio)) (m := m) (by simpa using p2)
            rw [List.length_map] at this
            rw [this, List.map_take]
        · rw [decide_eq_false hab, cond_false, w64 (x := (n : Int) + 1) (by omega) (by omega)]
          refine hag _ ⟨n + 1, by omega, by omega, by omega, ?_⟩ (by omega)
          rw [List.take_succ_eq_append_getElem hn]
          refine List.pairwise_append.2 ⟨n3, by simp, fun x hx y hy => ?_⟩
          rw [List.mem_singleton] at hy
          subst hy
          rw [show n = n - 1 + 1 by omega] at hx
          have h1 := mem_take_le hs (show n - 1 < l.length by omega) hx
          have h2 := sorted_le hs (i := n - 1) hn (by omega)
          exact rat_le_lt h1 (rat_lt h2 hab)
      · have hc2' := of_decide_eq_false hc2
        refine Ok.ret ?_
        have : n = l.length := by omega
        rw [this, List.take_length] at n3
        exact n3
end Go.VM
namespace Go.VM
set_option linter.unusedVariables false
set_option linter.unusedSimpArgs false

def enc (p : Pt) : SPoint := ⟨p.X.num, p.X.den, p.Y.num, p.Y.den⟩
def SmP (L : List Pt) : Prop := ∀ p ∈ L, Sm p.X ∧ Sm p.Y
theorem right_ok {L : List Pt} (hA : Asc L) (hS : SmP L) (h2 : 2 ≤ L.length) (hl : L.length ≤ 400) : conversion_right fuel (L.map enc) = some true := by
  apply Ok.eq
  unfold conversion_right
  refine ok_sum (Q := fun (_ : Unit) => True) (R := fun (_ : Bool) => False) (ok_loop (fun (i : Int) => 0 ≤ i ∧ i ≤ L.length) (fun i => L.length - i.toNat) ⟨Int.le_refl _, by omega⟩ (by unfold fuel; omega) ?_) (fun _ _ => ?_) fun _ h => h.elim
  · intro again i hinv hag
    obtain ⟨g1, g2⟩ := hinv
    simp only [conversion_right_b1, List.length_map]
    refine ok_bif (fun hc => ?_) fun _ => Ok.ret trivial
    have hc' := of_decide_eq_true hc
    refine ok_idx g1 (by simpa using hc') fun hi => ?_
    have hi' : i.toNat < L.length := by omega
    have hs := hS _ (List.getElem_mem hi')
    simp only [List.getElem_map, enc]
    rw [rat_valid hs.1, rat_valid hs.2]
    simp only [Option.bind_some, Bool.not_true, cond_false]
    rw [w64 (x := i + 1) (by omega) (by omega), w64 (x := i - 1) (by omega) (by omega)]
    refine Ok.bind (Q := fun r => r = false) (Ok.bind (Q := fun r => r = false) (ok_bif (fun hp => ?_) fun _ => Ok.ret rfl) fun r hr => Ok.ret hr) fun r hr => ?_
    · have hp' := of_decide_eq_true hp
      refine ok_idx (by omega) (by simp; omega) fun hi2 => ?_
      have hi3 : (i - 1).toNat < L.length := by omega
      have hs3 := hS _ (List.getElem_mem hi3)
      have hlt := List.pairwise_iff_getElem.1 hA (i - 1).toNat i.toNat hi3 hi' (by omega)
      simp only [List.getElem_map, enc]
      rw [rat_less hs3.1 hs.1, rat_less hs3.2 hs.2, decide_eq_true hlt.1, decide_eq_true hlt.2]
      exact Ok.ret rfl
    · subst hr
      rw [cond_false]
      exact hag _ ⟨by omega, by omega⟩ (by omega)
  · rw [u0_mk, List.length_map]
    exact Ok.ret (decide_eq_true (by omega))
theorem CValid_ok {L : List Pt} (hA : Asc L) (hS : SmP L) (h2 : 2 ≤ L.length) (hl : L.length ≤ 400) : conversion_Valid fuel (L.map enc) = some true := by
  unfold conversion_Valid
  rw [List.length_map, decide_eq_true (show (L.length : Int) ≤ 410 by omega), cond_true, right_ok hA hS h2 hl]
  rfl
theorem shift1 : ((2 : Int) ^ (min (Int.toNat 1) (IntKind.bits .u64))) = 2 := by decide
/-- The search finds the piece. -/
theorem Search_ok {L : List Pt} (hA : Asc L) (hS : SmP L) (h2 : 2 ≤ L.length) (hl : L.length ≤ 400) {x : Rat} (hx : Sm x) :
    ∃ (i : Nat) (hi : i + 1 < L.length), sort_Search fuel ((L.length : Int) - 2) (L.map enc) x.num x.den = some (i : Int) ∧ (∀ (j : Nat) (hj : j + 1 < L.length), j < i → L[j + 1].X < x) ∧ (i + 2 < L.length → ¬ L[i + 1].X < x) := by
  have key : Ok (sort_Search fuel ((L.length : Int) - 2) (L.map enc) x.num x.den) (fun r => 0 ≤ r ∧ r ≤ (L.length : Int) - 2 ∧ (∀ (j : Nat) (hj : j + 1 < L.length), (j : Int) < r → L[j + 1].X < x) ∧ (∀ (j : Nat) (hj : j + 1 < L.length), r ≤ (j : Int) → (j : Int) < (L.length : Int) - 2 → ¬ L[j + 1].X < x)) := by
    unfold sort_Search
    refine Ok.bind (Q := fun r => 0 ≤ r ∧ r ≤ (L.length : Int) - 2 ∧ (∀ (j : Nat) (hj : j + 1 < L.length), (j : Int) < r → L[j + 1].X < x) ∧ (∀ (j : Nat) (hj : j + 1 < L.length), r ≤ (j : Int) → (j : Int) < (L.length : Int) - 2 → ¬ L[j + 1].X < x)) (ok_loop (fun s => 0 ≤ s.1 ∧ s.1 ≤ s.2 ∧ s.2 ≤ (L.length : Int) - 2 ∧ (∀ (j : Nat) (hj : j + 1 < L.length), (j : Int) < s.1 → L[j + 1].X < x) ∧ (∀ (j : Nat) (hj : j + 1 < L.length), s.2 ≤ (j : Int) → (j : Int) < (L.length : Int) - 2 → ¬ L[j + 1].X < x)) (fun s => (s.2 - s.1).toNat) ⟨Int.le_refl _, by dsimp only; omega, Int.le_refl _, fun j hj h => by dsimp only at h; omega, fun j hj h h3 => by dsimp only at h; omega⟩ (by dsimp only [fuel]; omega) ?_) fun r hr => Ok.ret hr
    intro again s hs hag
    obtain ⟨i, j⟩ := s
    obtain ⟨g1, g2, g3, g4, g5⟩ := hs
    simp only at g1 g2 g3 g4 g5
    simp only [sort_Search_b1, uc_mk, shift1]
    refine ok_bif (fun hc => ?_) fun hc => ?_
    · have hc' := of_decide_eq_true hc
      rw [w64 (x := i + j) (by omega) (by omega), wu64 (x := i + j) (by omega) (by omega), Int.fdiv_eq_ediv_of_nonneg _ (by omega), w64 (x := (i + j) / 2) (by omega) (by omega), w64 (x := (i + j) / 2 + 1) (by omega) (by omega)]
      obtain ⟨m, hm⟩ : ∃ m, m = (i + j) / 2 := ⟨_, rfl⟩
      rw [← hm]
      have hm2 : i ≤ m ∧ m < j := by omega
      clear hm
      refine Ok.bind (Q := fun r => r = !(decide ((L[m.toNat + 1]'(by omega)).X < x))) ?_ fun r hr => ?_
      · unfold conversion_calc_eval_1
        rw [w64 (x := m + 1) (by omega) (by omega)]
        refine ok_idx (by omega) (by simp; omega) fun hi => ?_
        have e1 : (m + 1).toNat = m.toNat + 1 := by omega
        have hi' : m.toNat + 1 < L.length := by omega
        have hs := hS _ (List.getElem_mem hi')
        simp only [List.getElem_map, enc, e1]
        rw [rat_less hs.1 hx]
        exact Ok.ret rfl
      · subst hr
        have hmono : ∀ (a b : Nat) (ha : a < L.length) (hb : b < L.length), a ≤ b → L[a].X ≤ L[b].X := fun a b ha hb hab => by
          rcases Nat.lt_or_ge a b with h | h
          · exact Rat.le_of_lt (List.pairwise_iff_getElem.1 hA a b ha hb h).1
          · have : a = b := by omega
            subst this
            exact Rat.le_refl
        rw [Bool.not_not]
        refine ok_bif (fun hd => hag _ ⟨by dsimp only; omega, by dsimp only; omega, g3, fun t ht h => ?_, g5⟩ (by dsimp only; omega)) fun hd => hag _ ⟨g1, by dsimp only; omega, by dsimp only; omega, g4, fun t ht h h3 => ?_⟩ (by dsimp only; omega)
        · dsimp only at h
          have hd' := of_decide_eq_true hd
          have := hmono (t + 1) (m.toNat + 1) ht (by omega) (by omega)
          grind
        · dsimp only at h
          have hd' := of_decide_eq_false hd
          have := hmono (m.toNat + 1) (t + 1) (by omega) ht (by omega)
          grind
    · have hc' := of_decide_eq_false hc
      have e : i = j := by omega
      subst e
      exact Ok.ret ⟨g1, g3, g4, g5⟩
  obtain ⟨r, hr, h1, h2', h3, h4⟩ := key
  refine ⟨r.toNat, by omega, by rw [hr]; congr 1; omega, fun j hj h => h3 j hj (by omega), fun h => h4 r.toNat (by omega) (by omega) (by omega)⟩

/-! ### the computations -/
theorem do_ok (a b : Int) : conversion_calc_do fuel a b 0 0 = some 0 := rfl
theorem csub_ok {x y : Rat} (h : Ad x (-y)) : conversion_calc_sub fuel x.num x.den y.num y.den 0 = some ((x - y).num, ((x - y).den : Int), 0) := by
  unfold conversion_calc_sub
  rw [rat_sub h, Option.bind_some]
  rfl
theorem cadd_ok {x y : Rat} (h : Ad x y) : conversion_calc_add fuel x.num x.den y.num y.den 0 = some ((x + y).num, ((x + y).den : Int), 0) := by
  unfold conversion_calc_add
  rw [rat_add h, Option.bind_some]
  rfl
theorem cmul_ok {x y : Rat} (h : Mu x y) : conversion_calc_mul fuel x.num x.den y.num y.den 0 = some ((x * y).num, ((x * y).den : Int), 0) := by
  unfold conversion_calc_mul
  rw [rat_mul h, Option.bind_some]
  rfl
theorem cdiv_ok {x y : Rat} (h : Di x y) : conversion_calc_div fuel x.num x.den y.num y.den 0 = some ((x / y).num, ((x / y).den : Int), 0) := by
  unfold conversion_calc_div
  rw [rat_div h, Option.bind_some]
  rfl
/-- All that is computed of the pieces fits. -/
def Fine (L : List Pt) : Prop := SmP L ∧ ∀ (i : Nat) (hi : i + 1 < L.length), Ad L[i + 1].Y (-L[i].Y) ∧ Ad L[i + 1].X (-L[i].X) ∧ Di (L[i + 1].Y - L[i].Y) (L[i + 1].X - L[i].X)
/-- All that is computed of a value fits. -/
def FineAt (L : List Pt) (x : Rat) : Prop := Sm x ∧ ∀ (i : Nat) (hi : i + 1 < L.length), Ad x (-L[i].X) ∧ Mu (x - L[i].X) (slope L[i] L[i + 1]) ∧ Ad L[i].Y ((x - L[i].X) * slope L[i] L[i + 1])
theorem slope_ok {L : List Pt} (hA : Asc L) (hF : Fine L) (hl : L.length ≤ 400) {i : Nat} (hi : i + 1 < L.length) : conversion_calc_slope fuel (L.map enc) ((i : Int) + 1) 0 = some ((slope L[i] L[i + 1]).num, ((slope L[i] L[i + 1]).den : Int), 0) := by
  apply Ok.eq
  unfold conversion_calc_slope
  rw [w64 (x := (i : Int) + 1 - 1) (by omega) (by omega)]
  refine ok_idx (by omega) (by simp; omega) fun h1 => ok_idx (by omega) (by simp; omega) fun h2 => ?_
  have e1 : ((i : Int) + 1).toNat = i + 1 := by omega
  have e2 : ((i : Int) + 1 - 1).toNat = i := by omega
  have f := hF.2 i hi
  simp only [List.getElem_map, enc, e1, e2]
  rw [csub_ok f.1]
  simp only [Option.bind_some, uc_mk]
  rw [csub_ok f.2.1]
  simp only [Option.bind_some, uc_mk]
  rw [cdiv_ok f.2.2]
  exact Ok.ret rfl
theorem eval_ok {L : List Pt} (hA : Asc L) (hF : Fine L) (h2 : 2 ≤ L.length) (hl : L.length ≤ 400) {x : Rat} (hx : FineAt L x) : conversion_calc_eval fuel (L.map enc) x.num x.den 0 = some ((evalL L x).num, ((evalL L x).den : Int), 0) := by
  obtain ⟨i, hi, e, h3, h4⟩ := Search_ok hA hF.1 h2 hl hx.1
  apply Ok.eq
  unfold conversion_calc_eval
  rw [List.length_map, w64 (x := (L.length : Int) - 2) (by omega) (by omega), e, Option.bind_some, w64 (x := 1 + (i : Int)) (by omega) (by omega), w64 (x := 1 + (i : Int) - 1) (by omega) (by omega), show 1 + (i : Int) = (i : Int) + 1 by omega, show (i : Int) + 1 - 1 = i by omega]
  refine ok_idx (by omega) (by simp; omega) fun hi2 => ?_
  have g := hx.2 i hi
  simp only [List.getElem_map, enc, Int.toNat_natCast]
  rw [csub_ok g.1]
  simp only [Option.bind_some, uc_mk]
  rw [slope_ok hA hF hl hi]
  simp only [Option.bind_some, uc_mk]
  rw [cmul_ok g.2.1]
  simp only [Option.bind_some, uc_mk]
  rw [cadd_ok g.2.2]
  simp only [Option.bind_some, uc_mk]
  rw [evalL_index L i x hi h3 h4]
  exact Ok.ret rfl
theorem normal_ok {L : List Pt} (hA : Asc L) (hF : Fine L) (h2 : 2 ≤ L.length) (hl : L.length ≤ 400) (hone : ∀ p ∈ L, Ad p.X (-1) ∧ Ad p.X 1) (hends : ∀ p q R, L = p :: q :: R → FineAt L (fromX (bendsL (slope p q) (q :: R))) ∧ FineAt L (toX (bendsL (slope p q) (q :: R)))) :
    conversion_calc_normal fuel (L.map enc) 0 = some ((normalL L).map enc, 0) := by
  match L, h2 with
  | p :: q :: R, _ =>
    obtain ⟨hf, ht⟩ := hends p q R rfl
    obtain ⟨L, hL⟩ : ∃ L, L = p :: q :: R := ⟨_, rfl⟩
    have hlen : 2 ≤ L.length := by rw [hL]; simp
    have hL0 : L[0] = p := by simp [hL]
    have hL1 : L[1] = q := by simp [hL]
    have htl : L.drop 1 = q :: R := by simp [hL]
    have hN : normalL (p :: q :: R) = ⟨fromX (bendsL (slope p q) (q :: R)), evalL L (fromX (bendsL (slope p q) (q :: R)))⟩ :: (bendsL (slope p q) (q :: R) ++ [⟨toX (bendsL (slope p q) (q :: R)), evalL L (toX (bendsL (slope p q) (q :: R)))⟩]) := by rw [hL]; rfl
    rw [hN]
    rw [← hL] at hA hF hl hf ht hone ⊢
    obtain ⟨B, hB⟩ : ∃ B, B = bendsL (slope p q) (q :: R) := ⟨_, rfl⟩
    have hsub : B.Sublist L := by rw [hB, hL]; exact (bendsL_sub _ _).cons p
    rw [← hB] at hf ht ⊢
    have hBl : B.length ≤ 400 := by have := hsub.length_le; omega
    apply Ok.eq
    unfold conversion_calc_normal
    have hs1 := slope_ok hA hF hl (i := 0) (by omega)
    simp only [Nat.zero_add, hL0, hL1] at hs1
    rw [show ((0 : Nat) : Int) + 1 = 1 from rfl] at hs1
    rw [hs1]
    simp only [Option.bind_some, uc_mk]
    refine Ok.bind (Q := fun r => r = (0, B.map enc)) (ok_loop (fun s => ∃ (z : Rat) (C : List Pt), s.2.1 = 0 ∧ s.2.2.1 = C.map enc ∧ s.2.2.2.1 = z.num ∧ s.2.2.2.2 = z.den ∧ 2 ≤ s.1 ∧ s.1 ≤ L.length ∧ C ++ bendsL z (L.drop (s.1 - 1).toNat) = B) (fun s => L.length - s.1.toNat) ⟨slope p q, [], rfl, rfl, rfl, rfl, Int.le_refl _, by dsimp only; omega, ?_⟩ (by dsimp only [fuel]; omega) ?_) fun r hr => ?_
    · dsimp only
      rw [show ((2 : Int) - 1).toNat = 1 from rfl, htl, List.nil_append, hB]
    · intro again s hs hag
      obtain ⟨i, x, xs, u, v⟩ := s
      obtain ⟨z, C, g1, g2, g3, g4, g5, g6, g7⟩ := hs
      simp only at g1 g2 g3 g4 g5 g6 g7
      subst g1 g2 g3 g4
      have hCl : C.length ≤ 400 := by have := congrArg List.length g7; simp at this; omega
      simp only [conversion_calc_normal_b1, uc_mk, List.length_map, blet_mk, beq_self_eq_true, Bool.and_true]
      refine ok_bif (fun hc => ?_) fun hc => ?_
      · have hc' := of_decide_eq_true hc
        have hi : (i - 1).toNat + 1 < L.length := by omega
        have hsl := slope_ok hA hF hl hi
        rw [show (((i - 1).toNat : Nat) : Int) + 1 = i by omega] at hsl
        rw [hsl]
        simp only [Option.bind_some, uc_mk, Bool.and_true]
        rw [w64 (x := i - 1) (by omega) (by omega), w64 (x := i + 1) (by omega) (by omega)]
        have hdrop : L.drop (i - 1).toNat = L[(i - 1).toNat] :: L[(i - 1).toNat + 1] :: L.drop ((i - 1).toNat + 1 + 1) := by
          rw [List.drop_eq_getElem_cons (by omega), List.drop_eq_getElem_cons (by omega)]
        have hdrop2 : L.drop (i + 1 - 1).toNat = L[(i - 1).toNat + 1] :: L.drop ((i - 1).toNat + 1 + 1) := by
          rw [show (i + 1 - 1).toNat = (i - 1).toNat + 1 by omega, List.drop_eq_getElem_cons (by omega)]
        have hbeq : ((slope L[(i - 1).toNat] L[(i - 1).toNat + 1]).num == z.num && ((slope L[(i - 1).toNat] L[(i - 1).toNat + 1]).den : Int) == (z.den : Int)) = decide (slope L[(i - 1).toNat] L[(i - 1).toNat + 1] = z) := by
          rw [beq_int, beq_int]
          by_cases he : slope L[(i - 1).toNat] L[(i - 1).toNat + 1] = z
          · rw [he]; simp
          · rw [decide_eq_false he, Bool.and_eq_false_iff, decide_eq_false_iff_not, decide_eq_false_iff_not]
            by_cases hn : (slope L[(i - 1).toNat] L[(i - 1).toNat + 1]).num = z.num
            · right
              intro hd
              exact he (Rat.ext hn (by omega))
            · left; exact hn
        rw [hdrop] at g7
        simp only [bendsL] at g7
        refine Ok.bind (Q := fun r => ∃ (z' : Rat) (C' : List Pt), r = (0, C'.map enc, z'.num, (z'.den : Int)) ∧ C' ++ bendsL z' (L.drop (i + 1 - 1).toNat) = B) (ok_bif (fun hd => ?_) fun hd => Ok.ret ⟨z, C, rfl, ?_⟩) fun r hr => ?_
        · rw [hbeq] at hd
          have hd' : ¬ slope L[(i - 1).toNat] L[(i - 1).toNat + 1] = z := by simpa using hd
          refine ok_idx (by omega) (by simp; omega) fun hi2 => ok_cap (by simp; omega) (Ok.ret ⟨slope L[(i - 1).toNat] L[(i - 1).toNat + 1], C ++ [L[(i - 1).toNat]], ?_, ?_⟩)
          · simp
          · rw [if_neg hd'] at g7
            rw [hdrop2, List.append_assoc]
            exact g7
        · rw [hbeq] at hd
          have hd' : slope L[(i - 1).toNat] L[(i - 1).toNat + 1] = z := by simpa using hd
          rw [if_pos hd'] at g7
          rw [hdrop2]
          exact g7
        · obtain ⟨z', C', rfl, h⟩ := hr
          exact hag _ ⟨z', C', rfl, rfl, rfl, rfl, by dsimp only; omega, by dsimp only; omega, h⟩ (by dsimp only; omega)
      · have hc' := of_decide_eq_false hc
        have hd : L.drop (i - 1).toNat = [L[(i - 1).toNat]'(by omega)] := by
          rw [List.drop_eq_getElem_cons (by omega), List.drop_of_length_le (by omega)]
        rw [hd] at g7
        simp only [bendsL, List.append_nil] at g7
        exact Ok.ret (by rw [g7])
    · subst hr
      simp only [uc_mk, bne_self_eq_false, cond_false, conversion_whole, Option.bind_some, u0_mk, List.length_map]
      refine Ok.bind (Q := fun r => r = (0, (fromX B).num, ((fromX B).den : Int), (toX B).num, ((toX B).den : Int))) (ok_bif (fun hc => ?_) fun hc => Ok.ret ?_) fun r hr => ?_
      · have hc' := of_decide_eq_true hc
        rw [w64 (x := (B.length : Int) - 1) (by omega) (by omega)]
        refine ok_idx (by omega) (by simp; omega) fun h0 => ok_idx (by omega) (by simp; omega) fun h1 => ?_
        have b0 : 0 < B.length := by omega
        have b1 : ((B.length : Int) - 1).toNat < B.length := by omega
        have s0 := hone _ (hsub.subset (List.getElem_mem b0))
        have s1 := hone _ (hsub.subset (List.getElem_mem b1))
        simp only [List.getElem_map, enc, show Int.toNat 0 = 0 from rfl]
        have e1 := csub_ok s0.1
        have e2 := cadd_ok s1.2
        simp only [Rat.one_num, Rat.one_den] at e1 e2
        rw [show ((1 : Nat) : Int) = 1 from rfl] at e1 e2
        rw [e1]
        simp only [Option.bind_some, uc_mk]
        rw [e2]
        simp only [Option.bind_some, uc_mk]
        refine Ok.ret ?_
        have f1 : fromX B = B[0].X - 1 := by
          cases B with
          | nil => simp at b0
          | cons b B => rfl
        have f2 : toX B = (B[((B.length : Int) - 1).toNat]).X + 1 := by
          unfold toX
          rw [List.getLast?_eq_getElem?, List.getElem?_eq_getElem (by omega)]
          simp only
          congr 3
          omega
        rw [f1, f2]
      · have hc' := of_decide_eq_false hc
        have : B = [] := List.eq_nil_of_length_eq_zero (by omega)
        rw [this]
        rfl
      · subst hr
        simp only [uc_mk, bne_self_eq_false, cond_false]
        rw [eval_ok hA hF hlen hl hf]
        simp only [Option.bind_some, uc_mk]
        refine ok_cap (by simp; omega) ?_
        rw [eval_ok hA hF hlen hl ht]
        simp only [Option.bind_some, uc_mk]
        refine ok_cap (by simp; omega) (Ok.ret ?_)
        simp [enc]
end Go.VM
namespace Go.VM
set_option linter.unusedVariables false
set_option linter.unusedSimpArgs false

/-- The grids are coarse enough for the computations. -/
structure Coarse (D E B C F B' : Nat) : Prop where
  d : D ≠ 0
  e : E ≠ 0
  de : D * E ≤ 1152921504606846976
  cd : (C + C) * D ≤ 1152921504606846976
  db : D * E * (B + B) ≤ 1152921504606846976
  m : (B' + B) * F ≤ 576460752303423488
  c : C + C ≤ 576460752303423488
  b : B' + B + B ≤ 576460752303423488
  f : F ≤ 576460752303423488
  one : D ≤ 576460752303423488
theorem Coarse.sizes {D E B C F B' : Nat} (h : Coarse D E B C F B') : D ≤ 1152921504606846976 ∧ E ≤ 1152921504606846976 ∧ D * E ≠ 0 := by
  have h1 := h.de
  have hd := h.d
  have he := h.e
  have a1 : D * 1 ≤ D * E := Nat.mul_le_mul_left D (by omega)
  have a2 : 1 * E ≤ D * E := Nat.mul_le_mul_right E (by omega)
  exact ⟨by omega, by omega, Nat.mul_ne_zero hd he⟩
theorem OnGrid.fine {D E B C F B' : Nat} {L : List Pt} (h : OnGrid D E B C F L) (hc : Coarse D E B C F B') : Fine L := by
  have hs := hc.sizes
  have c1 := hc.c
  have b1 := hc.b
  refine ⟨fun p hp => ⟨grid_sm (h.xs p hp) hc.d hs.1 (by omega), grid_sm (h.ys p hp) hs.2.2 hc.de (by omega)⟩, fun i hi => ⟨?_, ?_, ?_⟩⟩
  · exact Ad.of (h.ys _ (List.getElem_mem _)) (grid_neg (h.ys _ (List.getElem_mem _))) hs.2.2 hc.de (by omega) (by omega)
  · exact Ad.of (h.xs _ (List.getElem_mem _)) (grid_neg (h.xs _ (List.getElem_mem _))) hc.d hs.1 (by omega) (by omega)
  · have hlt := List.pairwise_iff_getElem.1 h.asc i (i + 1) (by omega) hi (by omega)
    exact Di.of ((h.ys _ (List.getElem_mem _)).sub (h.ys _ (List.getElem_mem _))) ((h.xs _ (List.getElem_mem _)).sub (h.xs _ (List.getElem_mem _))) hs.2.2 hc.d (by have := hlt.1; grind) hc.cd hc.db (by omega) (by omega) hc.de hs.1
theorem OnGrid.at {D E B C F B' : Nat} {L : List Pt} (h : OnGrid D E B C F L) (hc : Coarse D E B C F B') {x : Rat} (hx : Grid D B' x) : FineAt L x := by
  have hs := hc.sizes
  have b1 := hc.b
  have c1 := hc.c
  have f1 := hc.f
  have m1 := hc.m
  refine ⟨grid_sm hx hc.d hs.1 (by omega), fun i hi => ⟨?_, ?_, ?_⟩⟩
  · exact Ad.of hx (grid_neg (h.xs _ (List.getElem_mem _))) hc.d hs.1 (by omega) (by omega)
  · exact Mu.of (hx.sub (h.xs _ (List.getElem_mem _))) (h.ss.get i hi) hc.d hc.e hc.de (by omega) (by omega) (by omega)
  · exact Ad.of (h.ys _ (List.getElem_mem _)) ((hx.sub (h.xs _ (List.getElem_mem _))).mul (h.ss.get i hi)) hs.2.2 hc.de (by omega) hc.m
theorem CEval_ok {D E B C F B' : Nat} {L : List Pt} (h : OnGrid D E B C F L) (hc : Coarse D E B C F B') (hl : L.length ≤ 400) {x : Rat} (hx : Grid D B' x) : conversion_Eval_2 fuel (L.map enc) x.num x.den = some ((evalL L x).num, ((evalL L x).den : Int), 0) := by
  have hs := hc.sizes
  have b1 := hc.b
  unfold conversion_Eval_2
  rw [CValid_ok h.asc (h.fine hc).1 h.two hl, rat_valid (grid_sm hx hc.d hs.1 (by omega)), eval_ok h.asc (h.fine hc) h.two hl (h.at hc hx)]
  rfl
theorem normal_len (L : List Pt) : (normalL L).length ≤ L.length + 1 := by
  match L with
  | [] => simp [normalL]
  | [_] => simp [normalL]
  | p :: q :: R =>
    have := (bendsL_sub (slope p q) (q :: R)).length_le
    simp only [normalL, List.length_cons, List.length_append, List.length_nil] at this ⊢
    omega
theorem formed_ok {D E B C F B' : Nat} {L : List Pt} (h : OnGrid D E B C F L) (hc : Coarse D E B C F B') (hB : B + D ≤ B') (hl : L.length ≤ 400) : conversion_formed fuel (L.map enc) = some ((normalL L).map enc, 0) := by
  unfold conversion_formed
  have hone1 : Grid D D 1 := ⟨D, by rw [Rat.one_mul, Rat.intCast_natCast], by omega⟩
  have bb := hc.b
  rw [normal_ok h.asc (h.fine hc) h.two hl (fun p hp => ⟨Ad.of (h.xs p hp) (grid_neg hone1) hc.d hc.sizes.1 (by omega) hc.one, Ad.of (h.xs p hp) hone1 hc.d hc.sizes.1 (by omega) hc.one⟩) ?_]
  · have := normal_len L
    simp only [Option.bind_some, uc_mk, bne_self_eq_false, cond_false, List.length_map]
    rw [show decide (((normalL L).length : Int) > 410) = false from decide_eq_false (by omega), cond_false]
  · intro p q R e
    have hone : Grid D D 1 := ⟨D, by rw [Rat.one_mul, Rat.intCast_natCast], by omega⟩
    have hzero : Grid D 0 0 := ⟨0, by rw [Rat.zero_mul]; rfl, by omega⟩
    have hsub : (bendsL (slope p q) (q :: R)).Sublist L := by rw [e]; exact (bendsL_sub _ _).cons p
    generalize bendsL (slope p q) (q :: R) = Bs at *
    constructor
    · refine h.at hc ?_
      cases Bs with
      | nil => exact hzero.le (by omega)
      | cons b Bs => exact ((h.xs b (hsub.subset (by simp))).sub hone).le hB
    · refine h.at hc ?_
      unfold toX
      cases hl : Bs.getLast? with
      | none => exact hone.le (by omega)
      | some b => exact ((h.xs b (hsub.subset (List.mem_of_getLast? hl))).add hone).le hB
theorem CNormal_ok {D E B C F B' : Nat} {L : List Pt} (h : OnGrid D E B C F L) (hc : Coarse D E B C F B') (hB : B + D ≤ B') (hl : L.length ≤ 400) : conversion_Normal fuel (L.map enc) = some ((normalL L).map enc, 0) := by
  unfold conversion_Normal
  rw [CValid_ok h.asc (h.fine hc).1 h.two hl, formed_ok h hc hB hl]
  rfl
end Go.VM
namespace Go.VM
set_option linter.unusedVariables false
set_option linter.unusedSimpArgs false

theorem Equal_ok {k : Nat} {a : List SPoint} (h : a.length < k) (hl : a.length ≤ 1000000) : slices_Equal_api_Point_api_Point k a a = some true := by
  apply Ok.eq
  unfold slices_Equal_api_Point_api_Point
  rw [bne_self_eq_false, cond_false]
  refine ok_sum (Q := fun (_ : Unit) => True) (R := fun (_ : Bool) => False) (ok_range a (fun s => s) (fun _ _ => True) (by omega) rfl trivial h ?_ ?_) (fun _ _ => Ok.ret rfl) fun _ h => h.elim
  · intro again s pre e post hl hi hlt hw _ hag
    simp only [slices_Equal_api_Point_api_Point_b1]
    rw [dec_lt hlt, cond_true, gidx_mid hl hi, gidx_mid hl hi, hw]
    simp only [beq_self_eq_true, Bool.and_true, Bool.not_true, cond_false]
    exact hag _ rfl trivial
  · intro again s hi _
    simp only [slices_Equal_api_Point_api_Point_b1]
    rw [dec_nlt (by omega), cond_false]
    exact Ok.ret trivial
/-- Two curves with the same normal form. -/
theorem Same_ok {a b : List SPoint} {N : List Pt} (ha : conversion_Normal fuel a = some (N.map enc, 0)) (hb : conversion_Normal fuel b = some (N.map enc, 0)) (hl : N.length ≤ 1000) : conversion_Same fuel a b = some true := by
  unfold conversion_Same
  rw [ha, hb]
  simp only [Option.bind_some, uc_mk, beq_self_eq_true, Bool.and_true, blet_mk, cond_true]
  rw [Equal_ok (by simp; unfold fuel; omega) (by simp; omega)]
  rfl
end Go.VM
namespace Go.VM
set_option linter.unusedVariables false
set_option linter.unusedSimpArgs false

def turn (p : Pt) : Pt := ⟨p.Y, p.X⟩
theorem turn_turn (p : Pt) : turn (turn p) = p := rfl
theorem turns_turns (L : List Pt) : (L.map turn).map turn = L := by
  rw [List.map_map]
  have : turn ∘ turn = id := by funext p; rfl
  rw [this, List.map_id]
theorem Asc.turn {L : List Pt} (h : Asc L) : Asc (L.map turn) := by
  unfold Asc
  rw [List.pairwise_map]
  exact List.Pairwise.imp (fun h => ⟨h.2, h.1⟩) h
theorem slope_turn {p q : Pt} (h1 : p.X < q.X) (h2 : p.Y < q.Y) : slope (turn p) (turn q) = (slope p q)⁻¹ := by
  have hs := slope_mul h1
  have hp := slope_pos h1 h2
  refine slope_eq (show (turn p).X < (turn q).X from h2) ?_
  show q.X = p.X + (q.Y - p.Y) * (slope p q)⁻¹
  rw [← hs]
  have : slope p q * (slope p q)⁻¹ = 1 := Rat.mul_inv_cancel _ (by grind)
  generalize slope p q = s at *
  generalize s⁻¹ = r at *
  grind
theorem inv_inj {a b : Rat} (ha : a ≠ 0) (hb : b ≠ 0) : a⁻¹ = b⁻¹ ↔ a = b := by
  constructor
  · intro h
    have h1 := Rat.mul_inv_cancel a ha
    have h2 := Rat.mul_inv_cancel b hb
    rw [h] at h1
    generalize b⁻¹ = r at *
    have : (a - b) * r = 0 := by grind
    rcases Rat.mul_eq_zero.1 this with h3 | h3
    · grind
    · subst h3; rw [Rat.mul_zero] at h2; exact absurd h2 (by decide)
  · rintro rfl; rfl
theorem bends_turn : ∀ (s : Rat) (L : List Pt), s ≠ 0 → Asc L → bendsL s⁻¹ (L.map turn) = (bendsL s L).map turn
  | _, [], _, _ => rfl
  | _, [_], _, _ => rfl
  | s, p :: q :: L, hs, hA => by
    have h := hA.head
    have hp := slope_pos h.1 h.2
    have ht := slope_turn h.1 h.2
    simp only [List.map_cons, bendsL]
    rw [ht]
    have hn : slope p q ≠ 0 := by grind
    by_cases he : slope p q = s
    · rw [if_pos he, if_pos (by rw [he])]
      exact bends_turn s (q :: L) hs hA.tail
    · rw [if_neg he, if_neg (fun h => he ((inv_inj hn hs).1 h))]
      have := bends_turn (slope p q) (q :: L) hn hA.tail
      simp only [List.map_cons] at this ⊢
      rw [this]
/-- Turned, a broken line is the inverse function. -/
theorem line_turn {p q : Pt} (h1 : p.X < q.X) (h2 : p.Y < q.Y) (x : Rat) : line (turn p) (turn q) (line p q x) = x := by
  have hp := slope_pos h1 h2
  have ht := slope_turn h1 h2
  unfold line
  rw [ht]
  have : slope p q * (slope p q)⁻¹ = 1 := Rat.mul_inv_cancel _ (by grind)
  show p.X + (p.Y + (x - p.X) * slope p q - p.Y) * (slope p q)⁻¹ = x
  generalize slope p q = s at *
  generalize s⁻¹ = r at *
  grind
theorem evalL_turn : ∀ (L : List Pt) (x : Rat), Asc L → 2 ≤ L.length → evalL (L.map turn) (evalL L x) = x
  | [], _, _, h => by simp at h
  | [_], _, _, h => by simp at h
  | [p, q], x, hA, _ => line_turn hA.head.1 hA.head.2 x
  | p :: q :: r :: L, x, hA, _ => by
    have ih := evalL_turn (q :: r :: L) x hA.tail (by simp)
    have hat := evalL_at (q :: r :: L) hA.tail (by simp) q (by simp)
    simp only [List.map_cons, evalL] at ih ⊢
    by_cases hx : q.X < x
    · rw [if_pos hx]
      have h1 := evalL_lt (q :: r :: L) hA.tail (by simp) hx
      rw [hat] at h1
      rw [if_pos (show (turn q).X < evalL (q :: r :: L) x from h1)]
      exact ih
    · rw [if_neg hx]
      have hs := slope_pos hA.head.1 hA.head.2
      have hle : ¬ (turn q).X < line p q x := by
        show ¬ q.Y < line p q x
        have he := line_end hA.head.1
        by_cases hq : x = q.X
        · rw [hq, he]; grind
        · have := line_lt hs (show x < q.X by grind)
          rw [he] at this
          grind
      rw [if_neg hle]
      exact line_turn hA.head.1 hA.head.2 x
theorem evalL_turn' (L : List Pt) (x : Rat) (hA : Asc L) (h2 : 2 ≤ L.length) : evalL L (evalL (L.map turn) x) = x := by
  have := evalL_turn (L.map turn) x hA.turn (by simpa using h2)
  rw [turns_turns] at this
  exact this
theorem evalL_inj {L : List Pt} (hA : Asc L) (h2 : 2 ≤ L.length) {x y : Rat} (h : evalL L x = evalL L y) : x = y := by
  have h1 := evalL_turn L x hA h2
  rw [h, evalL_turn L y hA h2] at h1
  exact h1.symm
/-- Lines with the same bends, the same first slope and the same values have one normal form. -/
def bendsOf : List Pt → List Pt
  | p :: q :: L => bendsL (slope p q) (q :: L)
  | _ => []
theorem normalL_def {L : List Pt} (h : 2 ≤ L.length) : normalL L = ⟨fromX (bendsOf L), evalL L (fromX (bendsOf L))⟩ :: (bendsOf L ++ [⟨toX (bendsOf L), evalL L (toX (bendsOf L))⟩]) := by
  match L, h with
  | p :: q :: L, _ => rfl
theorem normalL_same {L M : List Pt} (h : 2 ≤ L.length) (h' : 2 ≤ M.length) (hb : bendsOf L = bendsOf M) (he : ∀ x, evalL L x = evalL M x) : normalL L = normalL M := by
  rw [normalL_def h, normalL_def h', hb, he, he]
theorem bendsOf_turn {L : List Pt} (hA : Asc L) : bendsOf (L.map turn) = (bendsOf L).map turn := by
  match L, hA with
  | [], _ => rfl
  | [_], _ => rfl
  | p :: q :: L, hA =>
    have h := hA.head
    have hp := slope_pos h.1 h.2
    have := bends_turn (slope p q) (q :: L) (by grind) hA.tail
    simp only [List.map_cons, bendsOf] at this ⊢
    rw [slope_turn h.1 h.2]
    exact this
theorem bendsOf_normal {L : List Pt} (hA : Asc L) (h2 : 2 ≤ L.length) : bendsOf (normalL L) = bendsOf L := by
  match L, h2 with
  | p :: q :: L, _ =>
    have hsub := bendsL_sub (slope p q) (q :: L)
    have hB : Asc (bendsL (slope p q) (q :: L)) := List.Pairwise.sublist hsub hA.tail
    obtain ⟨hft, hb⟩ := ends hB
    have hf := evalL_before p q L (fromX (bendsL (slope p q) (q :: L))) hA fun b h => Rat.le_of_lt (hb b h).1
    obtain ⟨h, t, e1, e2, e3, e4, e5, e6⟩ := @reform (fun _ => True) p q L ⟨fromX (bendsL (slope p q) (q :: L)), evalL (p :: q :: L) (fromX (bendsL (slope p q) (q :: L)))⟩ ⟨toX (bendsL (slope p q) (q :: L)), evalL (p :: q :: L) (toX (bendsL (slope p q) (q :: L)))⟩ hA (by rw [hf]; rfl) hft hb rfl
    have eN : normalL (p :: q :: L) = ⟨fromX (bendsL (slope p q) (q :: L)), evalL (p :: q :: L) (fromX (bendsL (slope p q) (q :: L)))⟩ :: h :: t := by
      simp only [normalL]; rw [e1]
    rw [eN]
    simp only [bendsOf]
    rw [e2]
    exact e4
theorem normalL_turn {L : List Pt} (hA : Asc L) (h2 : 2 ≤ L.length) : normalL ((normalL L).map turn) = normalL (L.map turn) := by
  obtain ⟨n1, n2, n3, n4, n5⟩ := normalL_spec (P := fun _ => True) hA h2
  refine normalL_same (by simpa using n2) (by simpa using h2) ?_ fun y => ?_
  · rw [bendsOf_turn n1, bendsOf_turn hA, bendsOf_normal hA h2]
  · refine evalL_inj n1 n2 ?_
    rw [evalL_turn' _ y n1 n2, n3, evalL_turn' L y hA h2]
theorem Slopes.turn {P : Rat → Prop} : ∀ {L : List Pt}, Asc L → Slopes (fun s => P s⁻¹) L → Slopes P (L.map turn)
  | [], _, _ => trivial
  | [_], _, _ => trivial
  | p :: q :: L, hA, h => ⟨by rw [slope_turn hA.head.1 hA.head.2]; exact h.1, Slopes.turn (L := q :: L) hA.tail h.2⟩
end Go.VM
namespace Go.VM
set_option linter.unusedVariables false
set_option linter.unusedSimpArgs false

theorem turned_ok (L : List Pt) (hl : L.length ≤ 1000) : conversion_turned fuel (L.map enc) = some ((L.map turn).map enc) := by
  apply Ok.eq
  unfold conversion_turned
  refine Ok.bind (Q := fun r => r = (L.map turn).map enc) (ok_range L (fun s => s.1) (fun pre s => s.2 = (pre.map turn).map enc) (by omega) rfl rfl (by unfold fuel; omega) ?_ ?_) fun r hr => Ok.ret hr
  · intro again s pre e post hl' hi hlt hw hinv hag
    obtain ⟨i, xs⟩ := s
    simp only at hi hlt hw hinv
    subst hinv
    simp only [conversion_turned_b1, uc_mk, List.length_map]
    rw [dec_lt hlt, cond_true, gidx_mid (l := L.map enc) (pre := pre.map enc) (e := enc e) (post := post.map enc) (by rw [hl']; simp) (by simpa using hi), hw]
    have hpl : pre.length < 1000 := by have := congrArg List.length hl'; simp at this; omega
    refine ok_cap (by simp; omega) (hag _ rfl ?_)
    simp [enc, turn]
  · intro again s hi hinv
    obtain ⟨i, xs⟩ := s
    simp only at hi hinv
    simp only [conversion_turned_b1, uc_mk, List.length_map]
    rw [dec_nlt (by omega), cond_false]
    exact Ok.ret hinv
theorem Inverse_of {L N : List Pt} (hA : Asc L) (hS : SmP L) (h2 : 2 ≤ L.length) (hl : L.length ≤ 400) (h : conversion_formed fuel ((L.map turn).map enc) = some (N.map enc, 0)) : conversion_Inverse fuel (L.map enc) = some (N.map enc, 0) := by
  unfold conversion_Inverse
  rw [CValid_ok hA hS h2 hl, Option.bind_some, Bool.not_true, cond_false, turned_ok L (by omega), Option.bind_some, h]
  rfl
/-! ### lines -/

/-- What composing looks at. -/
def spots (A B : List Pt) : List Rat := A.map (·.X) ++ B.map fun p => evalL (A.map turn) p.X
theorem Compose_ok {A B N : List Pt} (hA : Asc A) (hFA : Fine A) (h2A : 2 ≤ A.length) (hB : Asc B) (hFB : Fine B) (h2B : 2 ≤ B.length) (hl : A.length + B.length ≤ 12) (hFT : Fine (A.map turn)) (hback : ∀ p ∈ B, FineAt (A.map turn) p.X)
    (hS : ∀ u ∈ spots A B, Sm u ∧ FineAt A u ∧ FineAt B (evalL A u))
    (hform : ∀ S : List Rat, S.Pairwise (· < ·) → (∀ x, x ∈ S ↔ x ∈ spots A B) → conversion_formed fuel ((S.map fun u => (⟨u, evalL B (evalL A u)⟩ : Pt)).map enc) = some (N.map enc, 0)) :
    conversion_Compose fuel (A.map enc) (B.map enc) = some (N.map enc, 0) := by
  have e3 : gloop (conversion_Compose_b3 fuel (A.map enc)) fuel (0, ([] : List SRatio)) = some ((A.map (·.X)).map encR) := by
    refine eq_of_ok (ok_range A (fun s => s.1) (fun pre s => s.2 = (pre.map (·.X)).map encR) (by omega) rfl rfl (by unfold fuel; omega) ?_ ?_)
    · intro again s pre e post hl' hi hlt hw hinv hag
      obtain ⟨i, xs⟩ := s
      simp only at hi hlt hw hinv
      have hpl : pre.length ≤ 12 := by have := congrArg List.length hl'; simp at this; omega
      simp only [conversion_Compose_b3, uc_mk, List.length_map]
      rw [dec_lt hlt, cond_true, gidx_mid (l := A.map enc) (pre := pre.map enc) (post := post.map enc) (e := enc e) (by rw [hl']; simp) (by simpa using hi)]
      refine ok_cap (by rw [hinv]; simp; omega) ?_
      rw [hw]
      exact hag _ rfl (by dsimp only; rw [hinv]; simp [enc, encR])
    · intro again s hi hinv
      obtain ⟨i, xs⟩ := s
      simp only at hi hinv
      simp only [conversion_Compose_b3, uc_mk, List.length_map]
      rw [dec_nlt (by omega), cond_false]
      exact Ok.ret hinv
  have e2 : gloop (conversion_Compose_b2 fuel (B.map enc) ((A.map turn).map enc)) fuel (0, 0, (A.map (·.X)).map encR) = some (0, (spots A B).map encR) := by
    refine eq_of_ok (ok_range B (fun s => s.1) (fun pre s => s.2.1 = 0 ∧ s.2.2 = (A.map (·.X) ++ pre.map fun p => evalL (A.map turn) p.X).map encR) (by omega) rfl ⟨rfl, by simp⟩ (by unfold fuel; omega) ?_ ?_)
    · intro again s pre e post hl' hi hlt hw hinv hag
      obtain ⟨i, z, xs⟩ := s
      obtain ⟨h1, h2⟩ := hinv
      simp only at hi hlt hw h1 h2
      subst h1
      have hpl : pre.length ≤ 12 := by have := congrArg List.length hl'; simp at this; omega
      have heB : e ∈ B := by rw [hl']; simp
      simp only [conversion_Compose_b2, uc_mk, List.length_map]
      rw [dec_lt hlt, cond_true, gidx_mid (l := B.map enc) (pre := pre.map enc) (post := post.map enc) (e := enc e) (by rw [hl']; simp) (by simpa using hi)]
      have hev : conversion_calc_eval fuel ((A.map turn).map enc) (enc e).X_Num (enc e).X_Den 0 = some ((evalL (A.map turn) e.X).num, ((evalL (A.map turn) e.X).den : Int), 0) := eval_ok hA.turn hFT (by simpa using h2A) (by simp; omega) (hback e heB)
      rw [hev]
      simp only [Option.bind_some, uc_mk]
      refine ok_cap (by rw [h2]; simp; omega) ?_
      rw [hw]
      exact hag _ rfl ⟨rfl, by dsimp only; rw [h2]; simp [encR]⟩
    · intro again s hi hinv
      obtain ⟨i, z, xs⟩ := s
      obtain ⟨h1, h2⟩ := hinv
      simp only at hi h1 h2
      simp only [conversion_Compose_b2, uc_mk, List.length_map]
      rw [dec_nlt (by omega), cond_false]
      refine Ok.ret ?_
      rw [h1, h2]; rfl
  have hspl : (spots A B).length ≤ 12 := by unfold spots; simp; omega
  obtain ⟨s1, f1, s, rfl, s2, s3⟩ := sort_ok (l := spots A B) (fun x hx => (hS x hx).1) hspl
  have hsl := s3.length_eq
  obtain ⟨⟨c1, c2⟩, f2, S, c3, c4, c5⟩ := compact_ok s2 (by omega)
  simp only at c3
  subst c3
  have hSm : ∀ x, x ∈ S ↔ x ∈ spots A B := fun x => (c5 x).trans s3.mem_iff
  have hSl : S.length ≤ 1000 := by
    have : S.Nodup := c4.imp fun h => by intro e; subst e; exact Rat.lt_irrefl h
    have := this.length_le_of_subset (l₂ := spots A B) fun x hx => (hSm x).1 hx
    omega
  have e1 : gloop (conversion_Compose_b1 fuel (A.map enc) (B.map enc) (S.map encR)) fuel (0, 0, ([] : List SPoint)) = some (Sum.inl ((S.map fun u => (⟨u, evalL B (evalL A u)⟩ : Pt)).map enc)) := by
    refine eq_of_ok (ok_range S (fun s => s.1) (fun pre s => s.2.1 = 0 ∧ s.2.2 = (pre.map fun u => (⟨u, evalL B (evalL A u)⟩ : Pt)).map enc) (by omega) rfl ⟨rfl, rfl⟩ (by unfold fuel; omega) ?_ ?_)
    · intro again s pre e post hl' hi hlt hw hinv hag
      obtain ⟨i, z, xs⟩ := s
      obtain ⟨h1, h2⟩ := hinv
      simp only at hi hlt hw h1 h2
      subst h1
      have hpl : pre.length ≤ 1000 := by have := congrArg List.length hl'; simp at this; omega
      obtain ⟨_, q2, q3⟩ := hS e ((hSm e).1 (by rw [hl']; simp))
      simp only [conversion_Compose_b1, uc_mk, List.length_map]
      rw [dec_lt hlt, cond_true, gidx_mid (l := S.map encR) (pre := pre.map encR) (post := post.map encR) (e := encR e) (by rw [hl']; simp) (by simpa using hi)]
      have ev1 : conversion_calc_eval fuel (A.map enc) (encR e).Num (encR e).Den 0 = some ((evalL A e).num, ((evalL A e).den : Int), 0) := eval_ok hA hFA h2A (by omega) q2
      have ev2 : conversion_calc_eval fuel (B.map enc) (evalL A e).num ((evalL A e).den : Int) 0 = some ((evalL B (evalL A e)).num, ((evalL B (evalL A e)).den : Int), 0) := eval_ok hB hFB h2B (by omega) q3
      rw [ev1]
      simp only [Option.bind_some, uc_mk, beq_self_eq_true, cond_true]
      rw [ev2]
      simp only [Option.bind_some, uc_mk, bne_self_eq_false, cond_false]
      refine ok_cap (by rw [h2]; simp; omega) ?_
      rw [hw]
      exact hag _ rfl ⟨rfl, by dsimp only; rw [h2]; simp [enc, encR]⟩
    · intro again s hi hinv
      obtain ⟨i, z, xs⟩ := s
      obtain ⟨h1, h2⟩ := hinv
      simp only at hi h1 h2
      simp only [conversion_Compose_b1, uc_mk, List.length_map]
      rw [dec_nlt (by omega), cond_false]
      refine Ok.ret ?_
      rw [h2]
  unfold conversion_Compose
  rw [CValid_ok hA hFA.1 h2A (by omega), CValid_ok hB hFB.1 h2B (by omega)]
  simp only [Option.bind_some, Bool.not_true, cond_false]
  rw [turned_ok A (by omega), e3]
  simp only [Option.bind_some]
  rw [e2]
  simp only [Option.bind_some, uc_mk, bne_self_eq_false, cond_false]
  rw [f1, Option.bind_some, glen_some (by simp [hsl]), f2]
  simp only [Option.bind_some, uc_mk]
  rw [e1]
  simp only [Option.bind_some, Sum.elim_inl]
  rw [hform S c4 hSm]
  rfl
end Go.VM
namespace Go.VM
set_option linter.unusedVariables false
set_option linter.unusedSimpArgs false

theorem OnGrid.up {D E B C F : Nat} {L : List Pt} (h : OnGrid D E B C F L) (k : Nat) : OnGrid (D * k) E (B * k) (C * k) F L :=
  ⟨h.asc, h.two, fun p hp => (h.xs p hp).up k, fun p hp => by have := (h.ys p hp).up k; rwa [Nat.mul_right_comm] at this, h.ss⟩
theorem OnGrid.wide {D E B C F B' C' : Nat} {L : List Pt} (h : OnGrid D E B C F L) (hB : B ≤ B') (hC : C ≤ C') : OnGrid D E B' C' F L :=
  ⟨h.asc, h.two, fun p hp => (h.xs p hp).le hB, fun p hp => (h.ys p hp).le hC, h.ss⟩
def diagL (S : List Rat) : List Pt := S.map fun u => ⟨u, u⟩
theorem diag_slope {a b : Rat} (h : a < b) : slope ⟨a, a⟩ ⟨b, b⟩ = 1 := slope_eq (p := ⟨a, a⟩) (q := ⟨b, b⟩) h (by dsimp only; grind)
theorem diag_asc {S : List Rat} (h : S.Pairwise (· < ·)) : Asc (diagL S) := by
  unfold Asc diagL
  rw [List.pairwise_map]
  exact h.imp fun h => ⟨h, h⟩
theorem diag_bends : ∀ {S : List Rat}, S.Pairwise (· < ·) → bendsL 1 (diagL S) = []
  | [], _ => rfl
  | [_], _ => rfl
  | a :: b :: S, h => by
    have h1 := (List.pairwise_cons.1 h).1 b (by simp)
    have h2 := diag_bends (S := b :: S) (List.pairwise_cons.1 h).2
    simp only [diagL, List.map_cons, bendsL] at h2 ⊢
    rw [diag_slope h1, if_pos rfl]
    exact h2
theorem diag_slopes : ∀ {S : List Rat}, S.Pairwise (· < ·) → Slopes (Grid 1 1) (diagL S)
  | [], _ => trivial
  | [_], _ => trivial
  | a :: b :: S, h => by
    have h1 := (List.pairwise_cons.1 h).1 b (by simp)
    have h2 := diag_slopes (S := b :: S) (List.pairwise_cons.1 h).2
    refine ⟨?_, h2⟩
    rw [diag_slope h1]
    exact ⟨1, by rw [Rat.one_mul]; rfl, by decide⟩
theorem diag_eval {S : List Rat} (h : S.Pairwise (· < ·)) (h2 : 2 ≤ S.length) (x : Rat) : evalL (diagL S) x = x := by
  obtain ⟨i, hi, e⟩ := evalL_piece (diagL S) x (by simpa [diagL] using h2)
  rw [e]
  have hi' : i + 1 < S.length := by simpa [diagL] using hi
  have hlt := List.pairwise_iff_getElem.1 h i (i + 1) (by omega) hi' (by omega)
  simp only [diagL, List.getElem_map]
  unfold line
  rw [diag_slope hlt]
  dsimp only
  grind
def idL : List Pt := [⟨0, 0⟩, ⟨1, 1⟩]
theorem diag_normal {S : List Rat} (h : S.Pairwise (· < ·)) (h2 : 2 ≤ S.length) : normalL (diagL S) = idL := by
  have hb : bendsOf (diagL S) = [] := by
    match S, h, h2 with
    | a :: b :: S, h, _ =>
      have h1 := (List.pairwise_cons.1 h).1 b (by simp)
      have h3 := diag_bends (S := b :: S) (List.pairwise_cons.1 h).2
      simp only [diagL, List.map_cons, bendsOf]
      rw [diag_slope h1]
      exact h3
  rw [normalL_def (by simpa [diagL] using h2), hb, diag_eval h h2, diag_eval h h2]
  rfl
theorem diag_grid {D B : Nat} {S : List Rat} (h : S.Pairwise (· < ·)) (h2 : 2 ≤ S.length) (hB : ∀ u ∈ S, Grid D B u) : OnGrid D 1 B B 1 (diagL S) := by
  refine ⟨diag_asc h, by simpa [diagL] using h2, fun p hp => ?_, fun p hp => ?_, diag_slopes h⟩
  · simp only [diagL, List.mem_map] at hp
    obtain ⟨u, hu, rfl⟩ := hp
    exact hB u hu
  · simp only [diagL, List.mem_map] at hp
    obtain ⟨u, hu, rfl⟩ := hp
    rw [Nat.mul_one]
    exact hB u hu
theorem two_of {S : List Rat} {a b : Rat} (ha : a ∈ S) (hb : b ∈ S) (hab : a < b) : 2 ≤ S.length := by
  match S, ha, hb with
  | [x], ha, hb =>
    rw [List.mem_singleton] at ha hb
    subst ha hb
    exact absurd hab Rat.lt_irrefl
  | x :: y :: S, _, _ => simp
theorem spots_two {A B : List Pt} (hA : Asc A) (h2 : 2 ≤ A.length) {S : List Rat} (hm : ∀ x, x ∈ S ↔ x ∈ spots A B) : 2 ≤ S.length := by
  match A, h2, hA, hm with
  | p :: q :: R, _, hA, hm => exact two_of ((hm p.X).2 (by simp [spots])) ((hm q.X).2 (by simp [spots])) hA.head.1
theorem spots_len {A B : List Pt} {S : List Rat} (hS : S.Pairwise (· < ·)) (hm : ∀ x, x ∈ S ↔ x ∈ spots A B) : (diagL S).length ≤ A.length + B.length := by
  have hn : S.Nodup := hS.imp fun h => by intro e; subst e; exact Rat.lt_irrefl h
  have := hn.length_le_of_subset (l₂ := spots A B) fun x hx => (hm x).1 hx
  simp only [diagL, spots, List.length_map, List.length_append] at this ⊢
  exact this
/-- Composed curves that lead back. -/
theorem back_diag {A B : List Pt} (h : ∀ u, evalL B (evalL A u) = u) (S : List Rat) : (S.map fun u => (⟨u, evalL B (evalL A u)⟩ : Pt)) = diagL S := by
  unfold diagL
  exact List.map_congr_left fun u _ => by rw [h]
theorem Compose_back {A B : List Pt} (hA : Asc A) (hFA : Fine A) (h2A : 2 ≤ A.length) (hB : Asc B) (hFB : Fine B) (h2B : 2 ≤ B.length) (hl : A.length + B.length ≤ 12) (hFT : Fine (A.map turn)) (hback : ∀ p ∈ B, FineAt (A.map turn) p.X)
    (hS : ∀ u ∈ spots A B, Sm u ∧ FineAt A u ∧ FineAt B (evalL A u)) (hu : ∀ u, evalL B (evalL A u) = u) {D C B' : Nat} (hg : ∀ u ∈ spots A B, Grid D C u) (hc : Coarse D 1 C C 1 B') (hB' : C + D ≤ B') :
    conversion_Compose fuel (A.map enc) (B.map enc) = some (idL.map enc, 0) := by
  refine Compose_ok hA hFA h2A hB hFB h2B hl hFT hback hS fun S hS hm => ?_
  have hS2 := spots_two hA h2A hm
  have hSl := spots_len hS hm
  rw [back_diag hu]
  have := formed_ok (diag_grid hS hS2 fun u hu => hg u ((hm u).1 hu)) hc hB' (by omega)
  rwa [diag_normal hS hS2] at this
end Go.VM
namespace Go.VM
set_option linter.unusedVariables false
set_option linter.unusedSimpArgs false

theorem Next_ok {k : Nat} {n : Int} {x : List Int} {i : Int} (hx : x.length ≤ 600) (h0 : 0 ≤ i) (hn0 : 1 ≤ n) (hn : n ≤ 1000000) : Ok (mark_Dice_Next k n x i) (fun r => 0 ≤ r.1 ∧ r.1 < n ∧ 0 ≤ r.2) := by
  unfold mark_Dice_Next
  refine ok_let (ok_bif (fun h => Ok.ret ⟨Int.le_refl _, by omega, h0⟩) fun h => ?_)
  simp only [Bool.or_eq_false_iff, decide_eq_false_iff_not, ge_iff_le, Int.not_le] at h
  refine ok_idx h0 (by omega) fun hi => ok_nz (by omega) ?_
  generalize x[i.toNat] = e
  have h1 := Int.tmod_lt_of_pos e (show 0 < n by omega)
  have h2 := Int.lt_tmod_of_pos e (show 0 < n by omega)
  refine Ok.bind (Q := fun r => 0 ≤ r.1 ∧ r.1 < n ∧ 0 ≤ r.2) (ok_bif (fun h => ?_) fun h => ?_) fun r hr => ?_
  · have h' := of_decide_eq_true h
    refine Ok.ret ⟨?_, ?_, ?_⟩
    · simp only; rw [w64 (by omega) (by omega)]; omega
    · simp only; rw [w64 (by omega) (by omega)]; omega
    · simp only; rw [w64 (by omega) (by omega)]; omega
  · have h' := of_decide_eq_false h
    refine Ok.ret ⟨?_, ?_, ?_⟩
    · simp only; omega
    · simp only; omega
    · simp only; rw [w64 (by omega) (by omega)]; omega
  · obtain ⟨a, b⟩ := r
    exact Ok.ret hr
theorem Next_then {k : Nat} {n : Int} {x : List Int} {i : Int} {Y : Type} {f : Int → Int → Option Y} {Q : Y → Prop} (hx : x.length ≤ 600) (h0 : 0 ≤ i) (hn0 : 1 ≤ n) (hn : n ≤ 1000000) (hf : ∀ a j, 0 ≤ a → a < n → 0 ≤ j → Ok (f a j) Q) : Ok (Option.bind (mark_Dice_Next k n x i) (uc f)) Q := by
  refine Ok.bind (Next_ok hx h0 hn0 hn) fun r hr => ?_
  obtain ⟨a, j⟩ := r
  exact hf a j hr.1 hr.2.1 hr.2.2
end Go.VM
namespace Go.VM
set_option linter.unusedVariables false
set_option linter.unusedSimpArgs false

theorem Slopes.snoc {P : Rat → Prop} {e l : Pt} : ∀ {L : List Pt}, L.getLast? = some l → Slopes P L → P (slope l e) → Slopes P (L ++ [e])
  | [], h, _, _ => by simp at h
  | [p], h, _, hp => by
    simp only [List.getLast?_singleton, Option.some.injEq] at h
    subst h
    exact ⟨hp, trivial⟩
  | p :: q :: L, h, hS, hp => ⟨hS.1, Slopes.snoc (L := q :: L) (by simpa using h) hS.2 hp⟩
theorem grid_slope {a b c d : Int} (h1 : 1 ≤ c - a) (h2 : c - a ≤ 3) (h3 : 0 ≤ d - b) (h4 : d - b ≤ 4) : Grid 6 24 (slope ⟨a, b⟩ ⟨c, d⟩) := by
  have hlt : (a : Rat) < (c : Rat) := Rat.intCast_lt_intCast.2 (by omega)
  have hm := slope_mul (p := ⟨a, b⟩) (q := ⟨c, d⟩) hlt
  have ex : ((c : Rat) - (a : Rat)) = ((c - a : Int) : Rat) := (Rat.intCast_sub ..).symm
  have ey : ((d : Rat) - (b : Rat)) = ((d - b : Int) : Rat) := (Rat.intCast_sub ..).symm
  simp only at hm
  rw [ex, ey] at hm
  generalize slope ⟨(a : Rat), (b : Rat)⟩ ⟨(c : Rat), (d : Rat)⟩ = s at *
  generalize d - b = y at *
  have : c - a = 1 ∨ c - a = 2 ∨ c - a = 3 := by omega
  rcases this with h | h | h
  · rw [h] at hm
    refine ⟨6 * y, ?_, by omega⟩
    rw [Rat.intCast_mul, ← hm]
    have : ((1 : Int) : Rat) = 1 := rfl
    have : ((6 : Int) : Rat) = 6 := rfl
    have : ((6 : Nat) : Rat) = 6 := rfl
    grind
  · rw [h] at hm
    refine ⟨3 * y, ?_, by omega⟩
    rw [Rat.intCast_mul, ← hm]
    have : ((2 : Int) : Rat) = 2 := rfl
    have : ((3 : Int) : Rat) = 3 := rfl
    have : ((6 : Nat) : Rat) = 6 := rfl
    grind
  · rw [h] at hm
    refine ⟨2 * y, ?_, by omega⟩
    rw [Rat.intCast_mul, ← hm]
    have : ((3 : Int) : Rat) = 3 := rfl
    have : ((2 : Int) : Rat) = 2 := rfl
    have : ((6 : Nat) : Rat) = 6 := rfl
    grind
theorem grid_slope12 {a b c d : Int} (h1 : 1 ≤ c - a) (h2 : c - a ≤ 4) (h3 : 0 ≤ d - b) (h4 : d - b ≤ 3) : Grid 12 36 (slope ⟨a, b⟩ ⟨c, d⟩) := by
  have hlt : (a : Rat) < (c : Rat) := Rat.intCast_lt_intCast.2 (by omega)
  have hm := slope_mul (p := ⟨a, b⟩) (q := ⟨c, d⟩) hlt
  have ex : ((c : Rat) - (a : Rat)) = ((c - a : Int) : Rat) := (Rat.intCast_sub ..).symm
  have ey : ((d : Rat) - (b : Rat)) = ((d - b : Int) : Rat) := (Rat.intCast_sub ..).symm
  simp only at hm
  rw [ex, ey] at hm
  generalize slope ⟨(a : Rat), (b : Rat)⟩ ⟨(c : Rat), (d : Rat)⟩ = s at *
  generalize d - b = y at *
  have : c - a = 1 ∨ c - a = 2 ∨ c - a = 3 ∨ c - a = 4 := by omega
  have k12 : ((12 : Nat) : Rat) = 12 := rfl
  have i12 : ((12 : Int) : Rat) = 12 := rfl
  have i6 : ((6 : Int) : Rat) = 6 := rfl
  have i4 : ((4 : Int) : Rat) = 4 := rfl
  have i3 : ((3 : Int) : Rat) = 3 := rfl
  have i2 : ((2 : Int) : Rat) = 2 := rfl
  have i1 : ((1 : Int) : Rat) = 1 := rfl
  rcases this with h | h | h | h
  · rw [h] at hm
    refine ⟨12 * y, ?_, by omega⟩
    rw [Rat.intCast_mul, ← hm]
    grind
  · rw [h] at hm
    refine ⟨6 * y, ?_, by omega⟩
    rw [Rat.intCast_mul, ← hm]
    grind
  · rw [h] at hm
    refine ⟨4 * y, ?_, by omega⟩
    rw [Rat.intCast_mul, ← hm]
    grind
  · rw [h] at hm
    refine ⟨3 * y, ?_, by omega⟩
    rw [Rat.intCast_mul, ← hm]
    grind
theorem enc_int (a b : Int) : enc ⟨(a : Rat), (b : Rat)⟩ = ⟨a, 1, b, 1⟩ := rfl
/-- What is known of the slopes. -/
def SlopeI (s : Rat) : Prop := Grid 6 24 s ∧ Grid 12 36 s⁻¹
theorem slopeI {a b c d : Int} (h1 : 1 ≤ c - a) (h2 : c - a ≤ 3) (h3 : 1 ≤ d - b) (h4 : d - b ≤ 4) : SlopeI (slope ⟨a, b⟩ ⟨c, d⟩) := by
  refine ⟨grid_slope h1 h2 (by omega) h4, ?_⟩
  rw [← slope_turn (p := ⟨a, b⟩) (q := ⟨c, d⟩) (Rat.intCast_lt_intCast.2 (by omega)) (Rat.intCast_lt_intCast.2 (by omega))]
  exact grid_slope12 (by omega) (by omega) (by omega) (by omega)
/-- A curve as the dice make it. -/
structure MadeI (L : List Pt) : Prop where
  asc : Asc L
  two : 2 ≤ L.length
  len : L.length ≤ 5
  xs : ∀ p ∈ L, Grid 1 20 p.X
  ys : ∀ p ∈ L, Grid 1 30 p.Y
  ss : Slopes SlopeI L
theorem Curve_then {x : List Int} {i : Int} {Y : Type} {f : List SPoint → Int → Option Y} {Q : Y → Prop} (hx : x.length ≤ 600) (h0 : 0 ≤ i) (hf : ∀ L j, MadeI L → 0 ≤ j → Ok (f (L.map enc) j) Q) : Ok (Option.bind (mark_Dice_Curve fuel x i) (uc f)) Q := by
  unfold mark_Dice_Curve
  refine Ok.bind (Q := fun r => ∃ L, r.1 = L.map enc ∧ MadeI L ∧ 0 ≤ r.2) ?_ fun r hr => ?_
  · refine Next_then hx h0 (by omega) (by omega) fun a j a1 a2 hj => ?_
    refine Next_then hx hj (by omega) (by omega) fun b j b1 b2 hj => ?_
    refine Next_then hx hj (by omega) (by omega) fun c j c1 c2 hj => ?_
    rw [w64 (x := a - 4) (by omega) (by omega), w64 (x := b - 4) (by omega) (by omega), w64 (x := 1 + c) (by omega) (by omega)]
    refine Ok.bind (Q := fun r => 0 ≤ r.1 ∧ ∃ L, r.2 = L.map enc ∧ MadeI L) (ok_loop (fun s => 0 ≤ s.2.2.1 ∧ s.2.2.1 ≤ 4 ∧ 0 ≤ s.2.2.2.1 ∧ -4 ≤ s.1 ∧ s.1 + 3 * s.2.2.1 ≤ 16 ∧ -4 ≤ s.2.1 ∧ s.2.1 + 4 * s.2.2.1 ≤ 20 ∧ ∃ L : List Pt, s.2.2.2.2 = L.map enc ∧ L.getLast? = some ⟨s.1, s.2.1⟩ ∧ Asc L ∧ Slopes SlopeI L ∧ (L.length : Int) + s.2.2.1 = 2 + c ∧ ∀ p ∈ L, ∃ a b : Int, p = ⟨a, b⟩ ∧ -4 ≤ a ∧ a ≤ s.1 ∧ -4 ≤ b ∧ b ≤ s.2.1) (fun s => s.2.2.1.toNat) ⟨by dsimp only; omega, by dsimp only; omega, hj, by dsimp only; omega, by dsimp only; omega, by dsimp only; omega, by dsimp only; omega, [⟨((a - 4 : Int) : Rat), ((b - 4 : Int) : Rat)⟩], ?_, rfl, by simp [Asc], trivial, by simp; omega, fun p hp => ?_⟩ (by dsimp only [fuel]; omega) ?_) fun r hr => ?_
    · rfl
    · rw [List.mem_singleton] at hp
      subst hp
      exact ⟨a - 4, b - 4, rfl, by omega, by dsimp only; omega, by omega, by dsimp only; omega⟩
    · intro again s hs hag
      obtain ⟨u, v, n, j, xs⟩ := s
      obtain ⟨g1, g2, g3, g4, g5, g6, g7, L, e1, e2, e3, e4, e5, e6⟩ := hs
      simp only at g1 g2 g3 g4 g5 g6 g7 e1 e2 e5 e6
      simp only [mark_Dice_Curve_b1, uc_mk]
      refine ok_bif (fun hc => ?_) fun hc => ?_
      · have hc' := of_decide_eq_true hc
        refine Next_then hx g3 (by omega) (by omega) fun p j p1 p2 hj => ?_
        refine Next_then hx hj (by omega) (by omega) fun q j q1 q2 hj => ?_
        rw [w64 (x := u + 1) (by omega) (by omega), w64 (x := v + 1) (by omega) (by omega), w64 (x := u + 1 + p) (by omega) (by omega), w64 (x := v + 1 + q) (by omega) (by omega), w64 (x := n - 1) (by omega) (by omega)]
        have hxl : xs.length ≤ 10 := by rw [e1]; simp; omega
        refine ok_cap (by simp; omega) (hag _ ⟨by dsimp only; omega, by dsimp only; omega, hj, by dsimp only; omega, by dsimp only; omega, by dsimp only; omega, by dsimp only; omega, L ++ [⟨((u + 1 + p : Int) : Rat), ((v + 1 + q : Int) : Rat)⟩], ?_, by simp, ?_, ?_, by simp only [List.length_append, List.length_singleton]; omega, fun z hz => ?_⟩ (by dsimp only; omega))
        · dsimp only
          rw [e1, List.map_append]
          rfl
        · refine List.pairwise_append.2 ⟨e3, by simp, fun z hz w hw => ?_⟩
          rw [List.mem_singleton] at hw
          subst hw
          obtain ⟨a', b', rfl, k1, k2, k3, k4⟩ := e6 z hz
          exact ⟨Rat.intCast_lt_intCast.2 (by omega), Rat.intCast_lt_intCast.2 (by omega)⟩
        · exact e4.snoc e2 (slopeI (by omega) (by omega) (by omega) (by omega))
        · rw [List.mem_append, List.mem_singleton] at hz
          rcases hz with hz | rfl
          · obtain ⟨a', b', rfl, k1, k2, k3, k4⟩ := e6 z hz
            exact ⟨a', b', rfl, k1, by dsimp only; omega, k3, by dsimp only; omega⟩
          · exact ⟨u + 1 + p, v + 1 + q, rfl, by omega, by dsimp only; omega, by omega, by dsimp only; omega⟩
      · have hc' := of_decide_eq_false hc
        refine Ok.ret ⟨g3, L, e1, ⟨e3, by omega, by omega, fun p hp => ?_, fun p hp => ?_, e4⟩⟩
        · obtain ⟨a', b', rfl, k1, k2, k3, k4⟩ := e6 p hp
          exact grid_int 1 a' 20 (by omega)
        · obtain ⟨a', b', rfl, k1, k2, k3, k4⟩ := e6 p hp
          exact grid_int 1 b' 30 (by omega)
    · obtain ⟨j, xs⟩ := r
      obtain ⟨hj, L, e1, e2⟩ := hr
      exact Ok.ret ⟨L, e1, e2, hj⟩
  · obtain ⟨d, j⟩ := r
    obtain ⟨L, e1, e2, e3⟩ := hr
    simp only at e1 e3
    subst e1
    exact hf L j e2 e3
end Go.VM
namespace Go.VM
set_option linter.unusedVariables false
set_option linter.unusedSimpArgs false

theorem ratio_dice : ∀ (i : Fin 21) (j : Fin 5), (Option.bind (gloop (mark_Dice_Ratio_b1 fuel) fuel (((i.val : Int) - 10), (1 + (j.val : Int)), 5) : Option (Int × Int)) (uc fun n11 => fun m12 => Option.bind (bif (n11 == 0) then some 1 else some m12 : Option Int) (fun m13 => some (n11, m13)))) = some ((mkRat ((i.val : Int) - 10) (j.val + 1)).num, ((mkRat ((i.val : Int) - 10) (j.val + 1)).den : Int)) := by decide +kernel
theorem grid_small : ∀ (j : Fin 5), ∃ k : Nat, k ≤ 60 ∧ (j.val + 1) * k = 60 := by decide
theorem Ratio_then {x : List Int} {i : Int} {Y : Type} {f : Int → Int → Int → Option Y} {Q : Y → Prop} (hx : x.length ≤ 600) (h0 : 0 ≤ i) (hf : ∀ (z : Rat) j, Grid 60 600 z → 0 ≤ j → Ok (f z.num z.den j) Q) : Ok (Option.bind (mark_Dice_Ratio fuel x i) (uc fun a => uc (f a))) Q := by
  unfold mark_Dice_Ratio
  refine Ok.bind (Q := fun (r : Int × Int × Int) => ∃ z : Rat, r.1 = z.num ∧ r.2.1 = z.den ∧ Grid 60 600 z ∧ 0 ≤ r.2.2) ?_ fun r hr => ?_
  · refine Next_then hx h0 (by omega) (by omega) fun a j a1 a2 hj => ?_
    refine Next_then hx hj (by omega) (by omega) fun b j b1 b2 hj => ?_
    rw [w64 (x := a - 10) (by omega) (by omega), w64 (x := 1 + b) (by omega) (by omega)]
    have h := ratio_dice ⟨a.toNat, by omega⟩ ⟨b.toNat, by omega⟩
    simp only at h
    rw [show ((a.toNat : Nat) : Int) = a by omega, show ((b.toNat : Nat) : Int) = b by omega] at h
    have hg : Grid 60 600 (mkRat (a - 10) (b.toNat + 1)) := by
      obtain ⟨k, hk, hk2⟩ := grid_small ⟨b.toNat, by omega⟩
      simp only at hk2
      have g : Grid (b.toNat + 1) 10 (mkRat (a - 10) (b.toNat + 1)) := ⟨a - 10, by rw [Rat.mkRat_eq_div, Rat.div_mul_cancel (natCast_ne (by omega))], by omega⟩
      have := g.up k
      rw [hk2] at this
      exact this.le (by omega)
    generalize gloop (mark_Dice_Ratio_b1 fuel) fuel (a - 10, 1 + b, 5) = o at h ⊢
    cases o with
    | none => simp at h
    | some o =>
      obtain ⟨n, m⟩ := o
      simp only [Option.bind_some, uc_mk] at h ⊢
      cases hb : (n == 0)
      · rw [hb] at h
        simp only [cond_false, Option.bind_some, Option.some.injEq, Prod.mk.injEq] at h ⊢
        exact Ok.ret ⟨_, h.1, h.2, hg, hj⟩
      · rw [hb] at h
        simp only [cond_true, Option.bind_some, Option.some.injEq, Prod.mk.injEq] at h ⊢
        exact Ok.ret ⟨_, h.1, h.2, hg, hj⟩
  · obtain ⟨a, b, j⟩ := r
    obtain ⟨z, e1, e2, e3, e4⟩ := hr
    simp only at e1 e2 e4
    subst e1 e2
    exact hf z j e3 e4
end Go.VM
namespace Go.VM
set_option linter.unusedVariables false
set_option linter.unusedSimpArgs false
theorem sane33_ok : law33_sane fuel = some true := by decide +kernel
theorem line_id : conversion_Line fuel 1 1 0 1 = some (idL.map enc, 0) := by decide +kernel
theorem coarseA : Coarse 1 6 20 180 24 100 := ⟨by decide, by decide, by decide, by decide, by decide, by decide, by decide, by decide, by decide, by decide⟩
theorem coarseA2 : Coarse 1 6 21 1164 24 100 := ⟨by decide, by decide, by decide, by decide, by decide, by decide, by decide, by decide, by decide, by decide⟩
theorem coarseA60 : Coarse 60 6 1200 10800 24 1300 := ⟨by decide, by decide, by decide, by decide, by decide, by decide, by decide, by decide, by decide, by decide⟩
theorem coarseA12 : Coarse 12 6 240 2160 24 10000 := ⟨by decide, by decide, by decide, by decide, by decide, by decide, by decide, by decide, by decide, by decide⟩
theorem coarseM : Coarse 1 12 30 240 36 100 := ⟨by decide, by decide, by decide, by decide, by decide, by decide, by decide, by decide, by decide, by decide⟩
theorem coarseV : Coarse 1 12 31 2436 36 100 := ⟨by decide, by decide, by decide, by decide, by decide, by decide, by decide, by decide, by decide, by decide⟩
theorem coarseV360 : Coarse 360 12 11160 876960 36 60000 := ⟨by decide, by decide, by decide, by decide, by decide, by decide, by decide, by decide, by decide, by decide⟩
theorem coarseV72 : Coarse 72 12 2232 175392 36 100000 := ⟨by decide, by decide, by decide, by decide, by decide, by decide, by decide, by decide, by decide, by decide⟩
theorem coarseT : Coarse 12 6 2436 2232 24 10000 := ⟨by decide, by decide, by decide, by decide, by decide, by decide, by decide, by decide, by decide, by decide⟩
theorem coarseD : Coarse 12 1 2436 2436 1 10000 := ⟨by decide, by decide, by decide, by decide, by decide, by decide, by decide, by decide, by decide, by decide⟩
theorem coarseD1 : Coarse 1 1 31 31 1 100 := ⟨by decide, by decide, by decide, by decide, by decide, by decide, by decide, by decide, by decide, by decide⟩
theorem id_normal : conversion_Normal fuel (idL.map enc) = some (idL.map enc, 0) := by
  have hp : ([0, 1] : List Rat).Pairwise (· < ·) := by simp; decide
  have hg : OnGrid 1 1 31 31 1 (diagL [0, 1]) := diag_grid hp (by simp) (fun u hu => by
    simp only [List.mem_cons, List.not_mem_nil, or_false] at hu
    rcases hu with rfl | rfl
    · exact grid_int 1 0 31 (by decide)
    · exact grid_int 1 1 31 (by decide))
  have := CNormal_ok hg coarseD1 (by decide) (by simp [diagL])
  rw [diag_normal hp (by simp)] at this
  exact this
theorem rat_inv_inv (a : Rat) : a⁻¹⁻¹ = a := by
  by_cases h : a = 0
  · subst h; simp
  · grind
theorem inv_facts {L : List Pt} (hM : MadeI L) : ∃ V : List Pt, conversion_Inverse fuel (L.map enc) = some (V.map enc, 0) ∧ conversion_Inverse fuel (V.map enc) = some ((normalL L).map enc, 0) ∧
    (∀ z : Rat, Grid 60 600 z → conversion_Eval_2 fuel (L.map enc) z.num z.den = some ((evalL L z).num, ((evalL L z).den : Int), 0) ∧ conversion_Eval_2 fuel (V.map enc) (evalL L z).num ((evalL L z).den : Int) = some (z.num, (z.den : Int), 0)) ∧
    conversion_Compose fuel (L.map enc) (V.map enc) = some (idL.map enc, 0) ∧ conversion_Compose fuel (V.map enc) (L.map enc) = some (idL.map enc, 0) := by
  have hA := hM.asc
  have h2 := hM.two
  have h5 := hM.len
  -- the curve, the turned one, the inverse one, and the turned inverse one
  have G1 : OnGrid 1 6 20 180 24 L := ⟨hA, h2, hM.xs, fun p hp => (hM.ys p hp).up 6, Slopes.of fun i hi => (hM.ss.get i hi).1⟩
  have sM : Slopes (fun s => Grid 12 36 s ∧ Grid 6 24 s⁻¹) (L.map turn) := Slopes.turn hA (Slopes.of fun i hi => ⟨(hM.ss.get i hi).2, by rw [rat_inv_inv]; exact (hM.ss.get i hi).1⟩)
  have hAM := hA.turn
  have h2M : 2 ≤ (L.map turn).length := by simpa using h2
  have G2 : OnGrid 1 12 30 240 36 (L.map turn) := by
    refine ⟨hAM, h2M, fun p hp => ?_, fun p hp => ?_, Slopes.of fun i hi => (sM.get i hi).1⟩
    · obtain ⟨q, hq, rfl⟩ := List.mem_map.1 hp
      exact hM.ys q hq
    · obtain ⟨q, hq, rfl⟩ := List.mem_map.1 hp
      exact (hM.xs q hq).up 12
  obtain ⟨v1, v2, v3, v4, v5⟩ := normalL_spec (P := fun s => Grid 12 36 s ∧ Grid 6 24 s⁻¹) hAM h2M
  have sV := v5 sM
  have G3 : OnGrid 1 12 31 2436 36 (normalL (L.map turn)) := G2.normal (by decide)
  have hVl := normal_len (L.map turn)
  rw [List.length_map] at hVl
  have hVT : normalL ((normalL (L.map turn)).map turn) = normalL L := by rw [normalL_turn hAM h2M, turns_turns]
  have hbackV : ∀ x, evalL ((normalL (L.map turn)).map turn) (evalL (normalL (L.map turn)) x) = x := fun x => evalL_turn _ x v1 v2
  have hVat : ∀ p ∈ normalL (L.map turn), evalL (L.map turn) p.X = p.Y := fun p hp => by rw [← v3]; exact evalL_at _ v1 v2 p hp
  have hMat : ∀ p ∈ L, evalL (normalL (L.map turn)) p.Y = p.X := fun p hp => by rw [v3]; exact evalL_at _ hAM h2M (turn p) (List.mem_map_of_mem hp)
  have hLV : ∀ x, evalL (normalL (L.map turn)) (evalL L x) = x := fun x => by rw [v3]; exact evalL_turn L x hA h2
  have hVL : ∀ x, evalL L (evalL (normalL (L.map turn)) x) = x := fun x => by rw [v3]; exact evalL_turn' L x hA h2
  generalize hV : normalL (L.map turn) = V at *
  have G4 : OnGrid 12 6 2436 2232 24 (V.map turn) := by
    refine ⟨v1.turn, by simpa using v2, fun p hp => ?_, fun p hp => ?_, Slopes.turn v1 (Slopes.of fun i hi => (sV.get i hi).2)⟩
    · obtain ⟨q, hq, rfl⟩ := List.mem_map.1 hp
      exact G3.ys q hq
    · obtain ⟨q, hq, rfl⟩ := List.mem_map.1 hp
      exact (G3.xs q hq).up 72
  have FL := G1.fine coarseA
  have FV := G3.fine coarseV
  have i1 : conversion_Inverse fuel (L.map enc) = some (V.map enc, 0) := by
    refine Inverse_of hA FL.1 h2 (by omega) ?_
    have := formed_ok G2 coarseM (by decide) (by simp; omega)
    rwa [hV] at this
  have i2 : conversion_Inverse fuel (V.map enc) = some ((normalL L).map enc, 0) := by
    refine Inverse_of v1 FV.1 v2 (by omega) ?_
    have := formed_ok G4 coarseT (by decide) (by simp; omega)
    rwa [hVT] at this
  -- composed
  have g12 : ∀ {B : Nat} {u : Rat}, Grid 1 B u → Grid 12 (B * 12) u := fun h => h.up 12
  have c1 : conversion_Compose fuel (L.map enc) (V.map enc) = some (idL.map enc, 0) := by
    have hsp : ∀ u ∈ spots L V, Grid 12 2436 u := fun u hu => by
      unfold spots at hu
      rw [List.mem_append, List.mem_map, List.mem_map] at hu
      rcases hu with ⟨p, hp, rfl⟩ | ⟨p, hp, rfl⟩
      · exact (g12 (hM.xs p hp)).le (by decide)
      · rw [hVat p hp]; exact G3.ys p hp
    exact Compose_back hA FL h2 v1 FV v2 (by omega) (G2.fine coarseM) (fun p hp => G2.at coarseM ((G3.xs p hp).le (by decide))) (fun u hu => ⟨grid_sm (hsp u hu) (by decide) (by decide) (by decide), (G1.up 12).at coarseA12 ((hsp u hu).le (by decide)), (G3.up 72).at coarseV72 (((G1.up 12).eval (hsp u hu)).le (by decide))⟩) hLV hsp coarseD (by decide)
  have c2 : conversion_Compose fuel (V.map enc) (L.map enc) = some (idL.map enc, 0) := by
    have hpre : ∀ p ∈ L, evalL (V.map turn) p.X = p.Y := fun p hp => by rw [← hMat p hp, hbackV]
    have hsp : ∀ u ∈ spots V L, Grid 1 31 u := fun u hu => by
      unfold spots at hu
      rw [List.mem_append, List.mem_map, List.mem_map] at hu
      rcases hu with ⟨p, hp, rfl⟩ | ⟨p, hp, rfl⟩
      · exact G3.xs p hp
      · rw [hpre p hp]; exact (hM.ys p hp).le (by decide)
    exact Compose_back v1 FV v2 hA FL h2 (by omega) (G4.fine coarseT) (fun p hp => G4.at coarseT ((g12 (hM.xs p hp)).le (by decide))) (fun u hu => ⟨grid_sm (hsp u hu) (by decide) (by decide) (by decide), G3.at coarseV ((hsp u hu).le (by decide)), (G1.up 12).at coarseA12 ((G3.eval (hsp u hu)).le (by decide))⟩) hVL hsp coarseD1 (by decide)
  refine ⟨V, i1, i2, fun z hz => ⟨CEval_ok (G1.up 60) coarseA60 (by omega) (hz.le (by decide)), ?_⟩, c1, c2⟩
  have y2 := CEval_ok (G3.up 360) coarseV360 (by omega) (((G1.up 60).eval hz).le (by decide))
  rwa [hLV] at y2
theorem same_facts {L : List Pt} (hM : MadeI L) : conversion_Same fuel ((normalL L).map enc) (L.map enc) = some true := by
  have hA := hM.asc
  have h2 := hM.two
  have h5 := hM.len
  have G1 : OnGrid 1 6 20 180 24 L := ⟨hA, h2, hM.xs, fun p hp => (hM.ys p hp).up 6, Slopes.of fun i hi => (hM.ss.get i hi).1⟩
  have e1 := CNormal_ok G1 coarseA (by decide) (by omega)
  obtain ⟨_, _, n3, n4, _⟩ := normalL_spec (P := fun _ => True) hA h2
  have hNl := normal_len L
  have e2 := CNormal_ok (G1.normal (by decide)) coarseA2 (by decide) (by omega)
  rw [n4] at e2
  exact Same_ok e2 e1 (by omega)
theorem same_id : conversion_Same fuel (idL.map enc) (idL.map enc) = some true := Same_ok id_normal id_normal (by decide)
theorem pure_ConversionInverse (t : List Int) (ht : ∀ x ∈ t, fitsI .i64 x) (hl : t.length * 8 ≤ 140737488351232) : ∃ k, law33_ConversionInverse k t = some true := by
  refine ⟨fuel, Ok.eq ?_⟩
  unfold law33_ConversionInverse mark_Light mark_Roll
  simp only [Option.bind_some, u0_mk]
  refine ok_bif (fun hc => by rw [sane33_ok]; exact Ok.ret rfl) fun hc => ?_
  have hx : t.length ≤ 600 := by simp only [Bool.not_eq_false', decide_eq_true_iff] at hc; omega
  refine Curve_then hx (Int.le_refl _) fun L j hM hj => ?_
  obtain ⟨V, i1, i2, i3, c1, c2⟩ := inv_facts hM
  have i4 := same_facts hM
  rw [i1]
  simp only [Option.bind_some, uc_mk]
  rw [i2]
  simp only [Option.bind_some, uc_mk]
  refine Ratio_then hx hj fun z j hz hj => ?_
  obtain ⟨y1, y2⟩ := i3 z hz
  rw [y1]
  simp only [Option.bind_some, uc_mk]
  rw [y2]
  simp only [Option.bind_some, uc_mk]
  rw [c1]
  simp only [Option.bind_some, uc_mk]
  refine ok_then _ c2 ?_
  rw [uc_mk]
  refine ok_then () rfl ?_
  rw [u0_mk]
  refine ok_then () rfl ?_
  rw [u0_mk]
  refine ok_then _ line_id ?_
  rw [uc_mk]
  refine ok_let (ok_let (ok_let (ok_let (ok_let (ok_let (ok_let ?_))))))
  refine Ok.bind (Q := fun b => b = true) (ok_bif (fun _ => ok_then true i4 (Ok.ret rfl)) fun h => ?_) fun b hb => ?_
  · simp at h
  subst hb
  rw [cond_true]
  refine Ok.bind (Q := fun b => b = true) (ok_then true same_id (Ok.ret rfl)) fun b hb => ?_
  subst hb
  rw [cond_true]
  refine Ok.bind (Q := fun b => b = true) (ok_then true same_id (Ok.ret rfl)) fun b hb => ?_
  subst hb
  rw [cond_true]
  exact Ok.bind (Q := fun b => b = true) (ok_then true sane33_ok (Ok.ret rfl)) fun b hb => Ok.ret hb
end Go.VM
