/- The pure statement of ArbitrationOrder: whatever the numbers, the printed function answers true. -/
import Derived.Test.YteofgcpnhiplkaaB30
namespace Go.VM
set_option linter.unusedVariables false
set_option linter.unusedSimpArgs false

theorem sane_ok : law30_sane 1000 = some true := by decide +kernel

def strip (g : SGiven) : SGiven := ⟨g.Script, g.Part, 0, g.Level, g.Value, g.Stamp_Time, g.Stamp_Source, g.Stamp_Seq⟩
theorem fold_rev {β : Type} (f : β → SGiven → β) (hf : ∀ b x y, f (f b x) y = f (f b y) x) (a : β) (l : List SGiven) : l.reverse.foldl f a = l.foldl f a :=
  (List.reverse_perm l).foldl_eq' (fun x _ y _ z => hf z x y) a
theorem fold_strip {β : Type} (f : β → Int → β) (a : β) (l : List SGiven) : (l.map strip).foldl (fun b g => f b (val g)) a = l.foldl (fun b g => f b (val g)) a := by
  rw [List.foldl_map]; rfl
theorem plain_strip (d : Bool) (tol : Int) (l : List SGiven) : plainV d tol (l.map strip) = plainV d tol l := by
  unfold plainV least most total
  rw [fold_strip (fun b x => min b x), fold_strip (fun b x => max b x), fold_strip (fun b x => b + x)]
  simp
theorem plain_rev (d : Bool) (tol : Int) (l : List SGiven) : plainV d tol l.reverse = plainV d tol l := by
  unfold plainV least most total
  rw [fold_rev _ (fun b x y => by omega), fold_rev _ (fun b x y => by omega), fold_rev _ (fun b x y => by omega)]
  simp
theorem NoTop_strip (l : List SGiven) : NoTop (l.map strip) ↔ NoTop l := by unfold NoTop; simp [strip]
theorem NoTop_rev (l : List SGiven) : NoTop l.reverse ↔ NoTop l := by unfold NoTop; simp
theorem Top_strip {l : List SGiven} {m : SGiven} (h : Top l m) : Top (l.map strip) (strip m) := by
  refine ⟨List.mem_map.2 ⟨m, h.1, rfl⟩, h.2.1, fun y hy hy2 => ?_⟩
  obtain ⟨g, hg, rfl⟩ := List.mem_map.1 hy
  exact h.2.2 g hg hy2
theorem Top_rev {l : List SGiven} {m : SGiven} (h : Top l.reverse m) : Top l m := ⟨List.mem_reverse.1 h.1, h.2.1, fun y hy => h.2.2 y (List.mem_reverse.2 hy)⟩
theorem Top_no {l : List SGiven} {m : SGiven} (h : Top l m) (h' : NoTop l) : False := by have := h' m h.1; have := h.2.1; omega
theorem seq_inj {l : List SGiven} (h : l.Pairwise (fun a b => b.Stamp_Seq < a.Stamp_Seq)) {a b : SGiven} (ha : a ∈ l) (hb : b ∈ l) (e : a.Stamp_Seq = b.Stamp_Seq) : a = b := by
  induction l with
  | nil => cases ha
  | cons x l ih =>
    obtain ⟨h1, h2⟩ := List.pairwise_cons.1 h
    rcases List.mem_cons.1 ha with ha | ha <;> rcases List.mem_cons.1 hb with hb | hb
    · rw [ha, hb]
    · have := h1 b hb; rw [ha] at e; omega
    · have := h1 a ha; rw [hb] at e; omega
    · exact ih h2 ha hb
theorem Top_one {l : List SGiven} (h : l.Pairwise (fun a b => b.Stamp_Seq < a.Stamp_Seq)) {a b : SGiven} (ha : Top l a) (hb : Top l b) : a = b := by
  have h1 := ha.2.2 b hb.1 hb.2.1
  have h2 := hb.2.2 a ha.1 ha.2.1
  refine seq_inj h ha.1 hb.1 ?_
  unfold beats stampLt at *
  omega
theorem back_ok {k : Nat} {n : Int} {l : List SGiven} (hl : l.length ≤ 100) (hk : 200 < k) (hn : fitsI .u8 n) : Ok (gloop (law30_ArbitrationOrder_b1 k n l) k ((IntKind.wrap .i64 (((List.length l) : Int) - 1)), ([] : List SGiven))) (fun r => r.map strip = (l.map strip).reverse) := by
  rw [w64 (by omega) (by omega)]
  refine ok_loop (fun s => -1 ≤ s.1 ∧ s.1 < l.length ∧ s.2.length + s.1 + 1 = l.length ∧ s.2.map strip = ((l.drop (s.1 + 1).toNat).map strip).reverse) (fun s => (s.1 + 1).toNat) ?_ ?_ ?_
  · refine ⟨by simp only; omega, by simp only; omega, by simp, ?_⟩
    have : ((l.length : Int) - 1 + 1).toNat = l.length := by omega
    simp [this]
  · simp only; omega
  · intro again s hs hag
    obtain ⟨i, xs⟩ := s
    obtain ⟨h1, h2, h3, h4⟩ := hs
    simp only at h1 h2 h3 h4
    simp only [law30_ArbitrationOrder_b1, uc_mk]
    refine ok_bif (fun hc => ?_) fun hc => ?_
    · have hc' := of_decide_eq_true hc
      refine ok_idx (by omega) (by omega) fun hi => ?_
      refine ok_cap (by simp; omega) ?_
      rw [w64 (x := i - 1) (by omega) (by omega)]
      refine hag _ ⟨by simp only; omega, by simp only; omega, by simp; omega, ?_⟩ (by simp only; omega)
      have e1 : (i - 1 + 1).toNat = i.toNat := by omega
      have e2 : (i + 1).toNat = i.toNat + 1 := by omega
      simp only [List.map_append, List.map_cons, List.map_nil]
      rw [h4, e1, e2]
      conv => rhs; rw [List.drop_eq_getElem_cons hi, List.map_cons, List.reverse_cons]
      rfl
    · have hc' := of_decide_eq_false hc
      have : (i + 1).toNat = 0 := by omega
      rw [this] at h4
      exact Ok.ret (by simpa using h4)

theorem small_few {l : List SGiven} (h : Few l) : Small l := ⟨by have := h.1; omega, fun g hg => by have := (h.2.1 g hg).hi; omega⟩
theorem pure_ArbitrationOrder (t : List Int) (ht : ∀ x ∈ t, fitsI .i64 x) (hl : t.length * 8 ≤ 140737488351232) (n : Int) (hn : fitsI .u8 n) : ∃ k, law30_ArbitrationOrder k t n = some true := by
  refine ⟨1000, Ok.eq ?_⟩
  unfold law30_ArbitrationOrder mark_Light mark_Roll
  simp only [Option.bind_some, u0_mk, sane_ok]
  refine ok_bif (fun h => Ok.ret rfl) fun h => ?_
  have h600 : t.length ≤ 600 := by simp at h; omega
  refine Ok.bind (Rule_ok h600 (by omega)) fun r hr => ?_
  obtain ⟨d, tol, i⟩ := r
  obtain ⟨h1, h2, h3⟩ := hr
  refine Ok.bind (few_ok h600 h3 (by omega)) fun r hr => ?_
  obtain ⟨l, j⟩ := r
  simp only at hr
  simp only [uc_mk]
  have hlen := hr.1
  refine Ok.bind (Decide_ok (small_few hr) (by omega)) fun r hD => ?_
  obtain ⟨a, b⟩ := r
  simp only [uc_mk]
  refine Ok.bind (back_ok (by omega) (by omega) hn) fun xs hx => ?_
  have hxl : xs.length = l.length := by have := congrArg List.length hx; simpa using this
  have hsm : Small xs := by
    refine ⟨by omega, fun g hg => ?_⟩
    have : strip g ∈ (l.map strip).reverse := hx ▸ List.mem_map.2 ⟨g, hg, rfl⟩
    simp only [List.mem_reverse, List.mem_map] at this
    obtain ⟨g', hg', e⟩ := this
    have h1 := (hr.2.1 g' hg').hi
    have h2 : (strip g').Value = (strip g).Value := by rw [e]
    simp only [strip] at h2
    omega
  refine Ok.bind (Decide_ok hsm (by omega)) fun r hD' => ?_
  obtain ⟨a', b'⟩ := r
  simp only [uc_mk]
  have hno : NoTop xs ↔ NoTop l := by rw [← NoTop_strip xs, hx, NoTop_rev, NoTop_strip]
  have htop : ∀ m m', Top l m → Top xs m' → val m' = val m := fun m m' h h' => by
    have h1 := Top_strip h
    have h2 := Top_strip h'
    rw [hx] at h2
    have h3 := Top_one (l := l.map strip) (by rw [List.pairwise_map]; exact hr.2.2) h1 (Top_rev h2)
    show val (strip m') = val (strip m)
    rw [h3]
  have heq : (a', b') = (a, b) := by
    rcases hD with ⟨h1, h2⟩ | ⟨m, h1, h2⟩ <;> rcases hD' with ⟨h3, h4⟩ | ⟨m', h3, h4⟩
    · rw [h2, h4, ← plain_strip d tol xs, hx, plain_rev, plain_strip]
    · exact (Top_no h3 (hno.2 h1)).elim
    · exact (Top_no h1 (hno.1 h3)).elim
    · rw [h2, h4, htop m m' h1 h3]
  cases heq
  simp only [beq_self_eq_true, Bool.and_true, cond_true, Option.bind_some]
  exact Ok.ret rfl
end Go.VM
