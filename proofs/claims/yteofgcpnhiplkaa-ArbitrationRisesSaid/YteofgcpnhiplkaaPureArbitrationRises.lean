/- The pure statement of ArbitrationRises: whatever the numbers, the printed function answers true. -/
import Derived.Test.YteofgcpnhiplkaaC30
namespace Go.VM
set_option linter.unusedVariables false
set_option linter.unusedSimpArgs false

def raise (g : SGiven) (c : Int) : SGiven := ⟨g.Script, g.Part, g.Marker, g.Level, g.Value + c, g.Stamp_Time, g.Stamp_Source, g.Stamp_Seq⟩
theorem raise_val {g : SGiven} {c : Int} (h : 0 ≤ c) : val g ≤ val (raise g c) := by unfold val raise; simp only; omega
/-- The two lists agree but for marks that have risen. -/
inductive Up : List SGiven → List SGiven → Prop
  | nil : Up [] []
  | cons (g g' : SGiven) (l l' : List SGiven) (h : Up l l') (hv : val g ≤ val g') (h1 : g'.Level = g.Level) (h2 : g'.Stamp_Time = g.Stamp_Time) (h3 : g'.Stamp_Source = g.Stamp_Source) (h4 : g'.Stamp_Seq = g.Stamp_Seq) : Up (g :: l) (g' :: l')
theorem Up.refl (l : List SGiven) : Up l l := by
  induction l with
  | nil => exact .nil
  | cons g l ih => exact .cons g g l l ih (Int.le_refl _) rfl rfl rfl rfl
theorem Up.set (l : List SGiven) {c : Int} (hc : 0 ≤ c) : ∀ (i : Nat) (g : SGiven), l[i]? = some g → Up l (l.set i (raise g c)) := by
  induction l with
  | nil => intro i g h; simp at h
  | cons x l ih =>
    intro i g h
    cases i with
    | zero => simp at h; subst h; exact .cons _ _ _ _ (Up.refl l) (raise_val hc) rfl rfl rfl rfl
    | succ i => exact .cons _ _ _ _ (ih i g (by simpa using h)) (Int.le_refl _) rfl rfl rfl rfl
theorem Up.length {l l' : List SGiven} (h : Up l l') : l'.length = l.length := by
  induction h with
  | nil => rfl
  | cons _ _ _ _ _ _ _ _ _ _ ih => simp [ih]
theorem Up.total {l l' : List SGiven} (h : Up l l') : ∀ a b : Int, a ≤ b → total l a ≤ total l' b := by
  induction h with
  | nil => intro a b h; exact h
  | cons g g' l l' _ hv _ _ _ _ ih => intro a b h; rw [total_cons, total_cons]; exact ih _ _ (by omega)
theorem Up.to {l l' : List SGiven} (h : Up l l') : ∀ g ∈ l, ∃ g' ∈ l', val g ≤ val g' ∧ g'.Level = g.Level ∧ g'.Stamp_Time = g.Stamp_Time ∧ g'.Stamp_Source = g.Stamp_Source ∧ g'.Stamp_Seq = g.Stamp_Seq := by
  induction h with
  | nil => intro g h; simp at h
  | cons g g' l l' _ hv h1 h2 h3 h4 ih =>
    intro x hx
    rcases List.mem_cons.1 hx with hx | hx
    · subst hx; exact ⟨g', by simp, hv, h1, h2, h3, h4⟩
    · obtain ⟨x', hx', r⟩ := ih x hx; exact ⟨x', by simp [hx'], r⟩
theorem Up.of {l l' : List SGiven} (h : Up l l') : ∀ g' ∈ l', ∃ g ∈ l, val g ≤ val g' ∧ g'.Level = g.Level ∧ g'.Stamp_Time = g.Stamp_Time ∧ g'.Stamp_Source = g.Stamp_Source ∧ g'.Stamp_Seq = g.Stamp_Seq := by
  induction h with
  | nil => intro g h; simp at h
  | cons g g' l l' _ hv h1 h2 h3 h4 ih =>
    intro x hx
    rcases List.mem_cons.1 hx with hx | hx
    · subst hx; exact ⟨g, by simp, hv, h1, h2, h3, h4⟩
    · obtain ⟨x', hx', r⟩ := ih x hx; exact ⟨x', by simp [hx'], r⟩
theorem Up.seqs {l l' : List SGiven} (h : Up l l') : l'.map (·.Stamp_Seq) = l.map (·.Stamp_Seq) := by
  induction h with
  | nil => rfl
  | cons g g' l l' _ hv h1 h2 h3 h4 ih => simp [ih, h4]
theorem pure_ArbitrationRises (t : List Int) (ht : ∀ x ∈ t, fitsI .i64 x) (hl : t.length * 8 ≤ 140737488351232) (m : Int) (hm : fitsI .u8 m) (n : Int) (hn : fitsI .u8 n) : ∃ k, law30_ArbitrationRises k t m n = some true := by
  refine ⟨1000, Ok.eq ?_⟩
  unfold law30_ArbitrationRises mark_Light mark_Roll
  simp only [Option.bind_some, u0_mk, sane_ok]
  refine ok_bif (fun h => Ok.ret rfl) fun h => ?_
  have h600 : t.length ≤ 600 := by simp at h; omega
  refine Ok.bind (Rule_ok h600 (by omega)) fun r hr => ?_
  obtain ⟨d, tol, i⟩ := r
  obtain ⟨htol1, htol2, h3⟩ := hr
  simp only at htol1 htol2 h3
  refine Ok.bind (few_ok h600 h3 (by omega)) fun r hf => ?_
  obtain ⟨l, j⟩ := r
  simp only at hf
  simp only [uc_mk]
  have hlen := hf.1
  obtain ⟨m1, m2⟩ := fits8.1 hm
  obtain ⟨n1, n2⟩ := fits8.1 hn
  refine ok_bif (fun h => Ok.ret rfl) fun hne => ?_
  have hpos : 0 < l.length := by
    rcases Nat.eq_zero_or_pos l.length with h | h
    · rw [h] at hne; cases hne
    · exact h
  refine ok_cap (by omega) (ok_nz (by omega) ?_)
  rw [w64 (x := m) (by omega) (by omega)]
  have hm0 : 0 ≤ Int.tmod m l.length := Int.tmod_nonneg _ (by omega)
  have hm1 : Int.tmod m l.length < l.length := Int.tmod_lt_of_pos _ (by omega)
  refine ok_idx hm0 hm1 fun hi => ok_let ?_
  generalize hg : l[(Int.tmod m l.length).toNat] = g
  have hgl : g ∈ l := hg ▸ List.getElem_mem hi
  have hg6 := (hf.2.1 g hgl).hi
  have hg1 := (hf.2.1 g hgl).lo
  have c0 : 0 ≤ Int.tmod n 5 := Int.tmod_nonneg _ (by omega)
  have c1 : Int.tmod n 5 < 5 := Int.tmod_lt_of_pos _ (by omega)
  rw [w64 (x := Int.tmod n 5) (by omega) (by omega), w64 (x := g.Value + Int.tmod n 5) (by omega) (by omega)]
  have hup : Up l (l.set (Int.tmod m l.length).toNat (raise g (Int.tmod n 5))) := Up.set l c0 _ _ (by rw [List.getElem?_eq_getElem hi, hg])
  have hxs : Small (l.set (Int.tmod m l.length).toNat (raise g (Int.tmod n 5))) := ⟨by rw [hup.length]; omega, fun y hy => by
    rcases List.mem_or_eq_of_mem_set hy with hy | rfl
    · have := (hf.2.1 y hy).hi; omega
    · simp only [raise]; omega⟩
  have hl' := hup.length
  refine Ok.bind (Decide_ok (small_few hf) (by omega)) fun r hD => ?_
  obtain ⟨a, b⟩ := r
  simp only [uc_mk]
  change Ok (Option.bind (arbitration_Decide 1000 d tol (l.set (Int.tmod m l.length).toNat (raise g (Int.tmod n 5)))) _) _
  generalize l.set (Int.tmod m l.length).toNat (raise g (Int.tmod n 5)) = xs at hup hxs hl'
  refine Ok.bind (Decide_ok hxs (by omega)) fun r hE => ?_
  obtain ⟨a', b'⟩ := r
  simp only [uc_mk]
  have key : ((a != 3 || a' != 3) || decide (b' ≥ b)) = true := by
    by_cases h1 : a = 3
    · by_cases h2 : a' = 3
      · subst h1 h2
        have : b ≤ b' := by
          rcases hD with ⟨hno, he⟩ | ⟨x, hx, he⟩ <;> rcases hE with ⟨hno', he'⟩ | ⟨y, hy, he'⟩
          · have p1 := plain_final (d := d) (tol := tol) (l := l) (by rw [← he])
            have p2 := plain_final (d := d) (tol := tol) (l := xs) (by rw [← he'])
            rw [← he] at p1
            rw [← he'] at p2
            rw [show b = _ from p1.2.2.2, show b' = _ from p2.2.2.2, hl']
            exact Int.ediv_le_ediv (by omega) (by have := hup.total 0 0 (by omega); omega)
          · obtain ⟨z, hz, _, h5, _⟩ := hup.of y hy.1
            have := hno z hz
            have := hy.2.1
            omega
          · obtain ⟨z, hz, _, h5, _⟩ := hup.to x hx.1
            have := hno' z hz
            have := hx.2.1
            omega
          · simp only [Prod.mk.injEq, true_and] at he he'
            subst he he'
            obtain ⟨z, hz, h4, h5, h6, h7, h8⟩ := hup.to x hx.1
            have hzT : Top xs z := ⟨hz, by have := hx.2.1; omega, fun w hw hw2 => by
              obtain ⟨w0, hw0, _, g5, g6, g7, g8⟩ := hup.of w hw
              have := hx.2.2 w0 hw0 (by omega)
              unfold beats stampLt at *
              omega⟩
            have hseq : xs.Pairwise (fun a b => b.Stamp_Seq < a.Stamp_Seq) := by
              have h9 : (xs.map (·.Stamp_Seq)).Pairwise (fun a b => b < a) := by rw [hup.seqs, List.pairwise_map]; exact hf.2.2
              rwa [List.pairwise_map] at h9
            rw [Top_one hseq hy hzT]
            exact h4
        simp [this]
      · have : (a' != 3) = true := by simpa using h2
        simp [this]
    · have : (a != 3) = true := by simpa using h1
      simp [this]
  simp only [blet_mk]
  rw [key]
  exact Ok.ret rfl
end Go.VM
