/- Totals, maxima and withdrawals: plain reasoning about the printed functions. -/
import Derived.Test.YtdpoilkjdfnadaaSPScheme
namespace Go.VM
set_option linter.unusedVariables false
set_option linter.unusedSimpArgs false

def sumN (f : Nat → Int) : Nat → Int
  | 0 => 0
  | n + 1 => sumN f n + f n
theorem sumN_eq {f g : Nat → Int} {n : Nat} (h : ∀ i, i < n → f i = g i) : sumN f n = sumN g n := by
  induction n with
  | zero => rfl
  | succ n ih => simp only [sumN]; rw [ih fun i hi => h i (by omega), h n (by omega)]
theorem sumN_le {f g : Nat → Int} {n : Nat} (h : ∀ i, i < n → f i ≤ g i) : sumN f n ≤ sumN g n := by
  induction n with
  | zero => exact Int.le_refl _
  | succ n ih => simp only [sumN]; have := ih fun i hi => h i (by omega); have := h n (by omega); omega
theorem sumN_nn {f : Nat → Int} {n : Nat} (h : ∀ i, i < n → 0 ≤ f i) : 0 ≤ sumN f n := by
  induction n with
  | zero => exact Int.le_refl _
  | succ n ih => simp only [sumN]; have := ih fun i hi => h i (by omega); have := h n (by omega); omega
theorem sumN_one {f g : Nat → Int} {n p : Nat} (hp : p < n) (h : ∀ i, i < n → i ≠ p → f i = g i) : sumN f n - sumN g n = f p - g p := by
  induction n with
  | zero => omega
  | succ n ih =>
    simp only [sumN]
    by_cases hn : p = n
    · subst hn
      rw [sumN_eq (f := f) (g := g) fun i hi => h i (by omega) (by omega)]
      omega
    · have := ih (by omega) fun i hi hne => h i (by omega) hne
      have := h n (by omega) (fun e => hn e.symm)
      omega
def noPart : SPart := ⟨0, 0, 0, 0, 0, 0⟩
/-- What a part adds to a total; and to a maximum. -/
def adds (p : List SPart) (ws ms : List Int) (i : Nat) : Int := if ws.getD i 0 = 0 then max (ms.getD i 0) 0 else if ws.getD i 0 = 1 then (p.getD i noPart).Max else 0
def addsMax (p : List SPart) (ws : List Int) (i : Nat) : Int := if ws.getD i 0 = 0 ∨ ws.getD i 0 = 1 then (p.getD i noPart).Max else 0

def FineMarks (p : List SPart) (ms : List Int) : Prop := Each FineMark p ms
theorem getD_lt {α : Type} {l : List α} {i : Nat} (h : i < l.length) (d : α) : l.getD i d = l[i] := by simp [List.getD, h]
theorem adds_le {p : List SPart} {ws ms : List Int} (hp : FineParts p) (hm : FineMarks p ms) {i : Nat} (hi : i < p.length) : 0 ≤ adds p ws ms i ∧ adds p ws ms i ≤ addsMax p ws i ∧ addsMax p ws i ≤ 12 := by
  have hml : i < ms.length := by rw [hm.1]; exact hi
  have h1 := hm.get hi hml
  have h2 := hp.2.2 p[i] (List.getElem_mem hi)
  unfold FineP at h2
  unfold FineMark at h1
  unfold adds addsMax
  rw [getD_lt hml, getD_lt hi]
  split
  · next h => rw [if_pos (.inl h)]; omega
  · split
    · next h => rw [if_pos (.inr h)]; omega
    · next h h' => rw [if_neg (by omega)]; omega
theorem maxes_le {p : List SPart} {ws : List Int} (hp : FineParts p) {i : Nat} (hi : i < p.length) : 0 ≤ addsMax p ws i ∧ addsMax p ws i ≤ 12 := by
  have h2 := hp.2.2 p[i] (List.getElem_mem hi)
  unfold FineP at h2
  unfold addsMax
  rw [getD_lt hi]
  split <;> omega
theorem sumN_hi {f : Nat → Int} {c : Int} {n : Nat} (h : ∀ i, i < n → f i ≤ c) : sumN f n ≤ c * n := by
  induction n with
  | zero => simp [sumN]
  | succ n ih =>
    simp only [sumN]
    have := ih fun i hi => h i (by omega)
    have := h n (by omega)
    have e : c * ((n + 1 : Nat) : Int) = c * n + c := by rw [Int.natCast_add, Int.mul_add]; simp
    omega
theorem permitted_ok {k : Nat} {p : SPart} {m : Int} (h : FineMark p m) (hp : FineP p) : scheme_permitted k p.Kind p.Max p.Topic p.Objective p.Options p.Key m = some true := by
  unfold FineP at hp
  unfold FineMark at h
  unfold scheme_permitted
  simp only [blet_mk]
  by_cases h1 : m = -1 ∨ m = 0 ∨ m = p.Max
  · have e : ((m == -1 || m == 0) || (m == p.Max)) = true := by simp only [beq_int, Bool.or_eq_true, decide_eq_true_eq]; omega
    rw [e]; rfl
  · have e : ((m == -1 || m == 0) || (m == p.Max)) = false := by simp only [beq_int, Bool.or_eq_false_iff, decide_eq_false_iff_not]; omega
    rw [e]
    have e2 : (((p.Kind == 1) && decide (m > 0)) && decide (m < p.Max)) = true := by simp only [beq_int, Bool.and_eq_true, decide_eq_true_eq]; omega
    rw [e2]; rfl
theorem marked_ok {k : Nat} {p : List SPart} {ks : List (List Int)} {ws ms : List Int} (hp : FineParts p) (hs : FineScheme p ks ws) (hm : FineMarks p ms) (hk : 10 < k) : scheme_Marked k 0 0 p ks ws ms = some true := by
  unfold scheme_Marked
  have h2 := hp.2.1
  have hml := hm.1
  have hwl := hs.len
  rw [valid_ok hp hs hk]
  simp only [Option.bind_some, blet_mk, hml, Bool.not_true, bne_self_eq_false, Bool.or_false, cond_false]
  refine eq_of_ok (ok_sum (Q := fun _ => True) (R := fun _ => False) (ok_range p (fun s => s) (fun _ _ => True) (by omega) rfl trivial (by omega) ?_ ?_) (fun _ _ => Ok.ret rfl) (fun _ h => h.elim))
  · intro again s pre e post hl hi hlt hw hinv hag
    simp only [scheme_Marked_b1]
    rw [dec_lt hlt, cond_true, gidx_mid hl hi]
    refine ok_idx (by omega) (by omega) fun hi2 => ?_
    refine Ok.bind (Q := fun r => r = false) (ok_bif (fun h => ?_) fun h => Ok.ret rfl) fun r hr => ?_
    · refine ok_idx (by omega) (by omega) fun hi3 => ?_
      rw [permitted_ok (hm.2 s.toNat e _ (by rw [hl, List.getElem?_append_right (by omega)]; simp [hi]) (List.getElem?_eq_getElem hi3)) (hp.2.2 e (by rw [hl]; simp))]
      exact Ok.ret rfl
    · subst hr
      simp only [cond_false]
      rw [hw]; exact hag _ rfl trivial
  · intro again s hi hinv
    simp only [scheme_Marked_b1]
    rw [dec_nlt (by omega), cond_false]
    exact Ok.ret trivial
theorem sum_ok {k : Nat} {p : List SPart} {ks : List (List Int)} {ws ms : List Int} (hp : FineParts p) (hs : FineScheme p ks ws) (hm : FineMarks p ms) (hk : 10 < k) : scheme_sum k 0 0 p ks ws ms = some (sumN (adds p ws ms) p.length) := by
  unfold scheme_sum
  have h2 := hp.2.1
  have hml := hm.1
  have hwl := hs.len
  refine eq_of_ok (Ok.bind (ok_range p (fun s => s.2) (fun pre s => s.1 = sumN (adds p ws ms) pre.length) (by omega) rfl rfl (by omega) ?_ ?_) fun r hr => Ok.ret hr)
  · intro again s pre e post hl hi hlt hw hinv hag
    obtain ⟨n, i⟩ := s
    simp only at hi hlt hw hinv
    have hplt : pre.length < p.length := by omega
    have hn0 := sumN_nn (f := adds p ws ms) (n := pre.length) fun i hi => (adds_le hp hm (by omega)).1
    have hn1 := sumN_hi (f := adds p ws ms) (c := 12) (n := pre.length) fun i hi => by have := adds_le (ws := ws) hp hm (i := i) (by omega); omega
    have ha := adds_le (ws := ws) hp hm hplt
    have hpe : p[pre.length] = e := by simp [hl]
    have hiN : i.toNat = pre.length := by omega
    simp only [scheme_sum_b1, uc_mk]
    rw [dec_lt hlt, cond_true, gidx_mid hl hi]
    refine Ok.bind (Q := fun r => r = sumN (adds p ws ms) (pre.length + 1)) (ok_idx (by omega) (by omega) fun hi2 => ?_) fun r hr => ?_
    · simp only [sumN]
      have hwk := hs.known _ (List.getElem_mem hi2)
      simp only [hiN] at hwk ⊢
      have hw1 : pre.length < ws.length := by omega
      unfold Known at hwk
      have hadd : adds p ws ms pre.length = (if ws[pre.length] = 0 then max (ms.getD pre.length 0) 0 else if ws[pre.length] = 1 then e.Max else 0) := by
        unfold adds; rw [getD_lt hw1, getD_lt hplt, hpe]
      rw [hadd] at ha ⊢
      clear hadd
      generalize ws[pre.length] = wd at *
      have hpe2 := hp.2.2 e (by rw [hl]; simp)
      unfold FineP at hpe2
      rcases hwk with rfl | rfl | rfl
      · have e1 : ((0 : Int) == 0) = true := rfl
        rw [e1, cond_true]
        unfold scheme_Total_1
        rw [gidx_some (by omega) (by omega), Option.bind_some]
        have hm1 : pre.length < ms.length := by omega
        simp only [if_true, hiN, getD_lt hm1] at ha ⊢
        rw [gmax_def, Int.max_comm, hinv, w64 (by omega) (by omega)]
        exact Ok.ret rfl
      · have e1 : ((1 : Int) == 0) = false := rfl
        have e2 : ((1 : Int) == 1) = true := rfl
        rw [e1, e2, cond_false, cond_true, hinv, w64 (by omega) (by omega)]
        exact Ok.ret rfl
      · have e1 : ((2 : Int) == 0) = false := rfl
        have e2 : ((2 : Int) == 1) = false := rfl
        have e3 : ((2 : Int) == 2) = true := rfl
        rw [e1, e2, e3, cond_false, cond_false, cond_true, hinv]
        exact Ok.ret (by simp)
    · rw [hw]
      exact hag _ rfl (by simpa using hr)
  · intro again s hi hinv
    obtain ⟨n, i⟩ := s
    simp only at hi hinv
    simp only [scheme_sum_b1, uc_mk]
    rw [dec_nlt (by omega), cond_false]
    exact Ok.ret hinv
theorem max_ok {k : Nat} {p : List SPart} {ks : List (List Int)} {ws : List Int} (hp : FineParts p) (hs : FineScheme p ks ws) (hk : 10 < k) : scheme_Maximum k 0 0 p ks ws = some (sumN (addsMax p ws) p.length, 0) := by
  unfold scheme_Maximum
  have h2 := hp.2.1
  have hwl := hs.len
  rw [valid_ok hp hs hk]
  simp only [Option.bind_some, Bool.not_true, cond_false]
  unfold scheme_sum_2
  refine eq_of_ok (Ok.bind (Q := fun r => r = sumN (addsMax p ws) p.length) (Ok.bind (ok_range p (fun s => s.2) (fun pre s => s.1 = sumN (addsMax p ws) pre.length) (by omega) rfl rfl (by omega) ?_ ?_) fun r hr => Ok.ret hr) fun r hr => Ok.ret (by rw [hr]))
  · intro again s pre e post hl hi hlt hw hinv hag
    obtain ⟨n, i⟩ := s
    simp only at hi hlt hw hinv
    have hplt : pre.length < p.length := by omega
    have hn0 := sumN_nn (f := addsMax p ws) (n := pre.length) fun i hi => (maxes_le hp (by omega)).1
    have hn1 := sumN_hi (f := addsMax p ws) (c := 12) (n := pre.length) fun i hi => by have := maxes_le (ws := ws) hp (i := i) (by omega); omega
    have ha := maxes_le (ws := ws) hp hplt
    have hpe : p[pre.length] = e := by simp [hl]
    have hiN : i.toNat = pre.length := by omega
    simp only [scheme_sum_2_b1, uc_mk]
    rw [dec_lt hlt, cond_true, gidx_mid hl hi]
    refine Ok.bind (Q := fun r => r = sumN (addsMax p ws) (pre.length + 1)) (ok_idx (by omega) (by omega) fun hi2 => ?_) fun r hr => ?_
    · simp only [sumN]
      have hwk := hs.known _ (List.getElem_mem hi2)
      simp only [hiN] at hwk ⊢
      have hw1 : pre.length < ws.length := by omega
      unfold Known at hwk
      have hadd : addsMax p ws pre.length = (if ws[pre.length] = 0 ∨ ws[pre.length] = 1 then e.Max else 0) := by
        unfold addsMax; rw [getD_lt hw1, getD_lt hplt, hpe]
      rw [hadd] at ha ⊢
      clear hadd
      generalize ws[pre.length] = wd at *
      have hpe2 := hp.2.2 e (by rw [hl]; simp)
      unfold FineP at hpe2
      rcases hwk with rfl | rfl | rfl
      · have e1 : ((0 : Int) == 0) = true := rfl
        rw [e1, cond_true]
        unfold scheme_Maximum_1
        rw [gidx_mid hl hi, Option.bind_some, hinv, w64 (by omega) (by omega)]
        exact Ok.ret (by simp)
      · have e1 : ((1 : Int) == 0) = false := rfl
        have e2 : ((1 : Int) == 1) = true := rfl
        rw [e1, e2, cond_false, cond_true, hinv, w64 (by omega) (by omega)]
        exact Ok.ret (by simp)
      · have e1 : ((2 : Int) == 0) = false := rfl
        have e2 : ((2 : Int) == 1) = false := rfl
        have e3 : ((2 : Int) == 2) = true := rfl
        rw [e1, e2, e3, cond_false, cond_false, cond_true, hinv]
        exact Ok.ret (by simp)
    · rw [hw]
      exact hag _ rfl (by simpa using hr)
  · intro again s hi hinv
    obtain ⟨n, i⟩ := s
    simp only at hi hinv
    simp only [scheme_sum_2_b1, uc_mk]
    rw [dec_nlt (by omega), cond_false]
    exact Ok.ret hinv
theorem total_ok {k : Nat} {p : List SPart} {ks : List (List Int)} {ws ms : List Int} (hp : FineParts p) (hs : FineScheme p ks ws) (hm : FineMarks p ms) (hk : 10 < k) : scheme_Total k 0 0 p ks ws ms = some (sumN (adds p ws ms) p.length, 0) := by
  unfold scheme_Total
  rw [valid_ok hp hs hk, marked_ok hp hs hm hk, sum_ok hp hs hm hk]
  simp only [Option.bind_some, hm.1, Bool.not_true, bne_self_eq_false, cond_false]
theorem clone_eq {k : Nat} {l : List Int} (h : l.length ≤ 1000) : slices_Clone_int k l = some l := by
  unfold slices_Clone_int
  rw [gcap_some (by omega)]
theorem withdraw_ok {k : Nat} {p : List SPart} {ks : List (List Int)} {ws : List Int} {part kind : Int} (hp : FineParts p) (hs : FineScheme p ks ws) (h0 : 0 ≤ part) (h1 : part < p.length) (hkind : Known kind) (hk : 10 < k) : scheme_Withdraw k 0 0 p ks ws part kind = some (ks, ws.set part.toNat kind, 0) := by
  unfold scheme_Withdraw
  have h2 := hp.2.1
  have hkl := hs.keys.1
  have hwl := hs.len
  have e1 : scheme_there k 0 0 p part = some true := by
    unfold scheme_there
    rw [blet_mk]
    simp [h0, h1]
  have e2 : scheme_known k kind = some true := by
    unfold scheme_known
    rcases hkind with rfl | rfl | rfl <;> rfl
  have e3 : gloop (scheme_Withdraw_b1 k ks) k (0, ([] : List (List Int))) = some ks := by
    refine eq_of_ok (ok_range ks (fun s => s.1) (fun pre s => s.2 = pre) (by omega) rfl rfl (by omega) ?_ ?_)
    · intro again s pre e post hl hi hlt hw hinv hag
      obtain ⟨i, xs⟩ := s
      simp only at hi hlt hw hinv
      subst hinv
      simp only [scheme_Withdraw_b1, uc_mk]
      rw [dec_lt hlt, cond_true, gidx_mid hl hi]
      have hxl : xs.length < ks.length := by omega
      have hfe := hs.keys.2 xs.length p[xs.length] e (List.getElem?_eq_getElem (by omega)) (by rw [hl]; simp)
      rw [clone_eq (by have := hfe.2.2; omega), Option.bind_some]
      refine ok_cap (by simp; omega) ?_
      rw [hw]; exact hag _ rfl rfl
    · intro again s hi hinv
      obtain ⟨i, xs⟩ := s
      simp only at hi hinv
      simp only [scheme_Withdraw_b1, uc_mk]
      rw [dec_nlt (by omega), cond_false]
      exact Ok.ret hinv
  rw [valid_ok hp hs hk, e1, e2, slices_Clone_int_2_eq, clone_eq (by omega), e3]
  simp only [Option.bind_some, Bool.not_true, cond_false]
  rw [gidx_some h0 (by omega)]
  rfl
theorem awake_ok : law23_awake 1000 = some true := by decide +kernel
theorem FineScheme.set {p : List SPart} {ks : List (List Int)} {ws : List Int} (h : FineScheme p ks ws) (i : Nat) {v : Int} (hv : Known v) : FineScheme p ks (ws.set i v) := ⟨h.keys, by simp [h.len], fun w hw => by
  rcases List.mem_or_eq_of_mem_set hw with hw | rfl
  · exact h.known w hw
  · exact hv⟩
theorem getD_set_self {ws : List Int} {i : Nat} {v : Int} (h : i < ws.length) : (ws.set i v).getD i 0 = v := by simp [List.getD, h]
theorem getD_set_other {ws : List Int} {i j : Nat} {v : Int} (h : j ≠ i) : (ws.set i v).getD j 0 = ws.getD j 0 := by
  simp only [List.getD]
  rw [List.getElem?_set_ne (fun e => h e.symm)]
end Go.VM
