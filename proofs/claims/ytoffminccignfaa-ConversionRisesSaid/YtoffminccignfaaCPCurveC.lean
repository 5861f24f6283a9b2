/- Curves on a grid: what the printed functions answer. -/
import Derived.Test.YtoffminccignfaaCPCurveB
import Derived.Test.YtoffminccignfaaPGrid
namespace Go.VM
set_option linter.unusedVariables false
set_option linter.unusedSimpArgs false

theorem grid_sm {D B : Nat} {v : Rat} (h : Grid D B v) (hD : D ≠ 0) (h1 : D ≤ 536870912) (h2 : B ≤ 536870912) : Sm v := by
  have := h.num hD
  exact ⟨by omega, by omega, by omega⟩
/-- The grids are coarse enough for the computations. -/
structure Coarse (D E B C F B' : Nat) : Prop where
  d : D ≠ 0
  e : E ≠ 0
  de : D * E ≤ 536870912
  c : C + C ≤ 536870912
  b : B + B ≤ 536870912
  f : F ≤ 536870912
  m : (B' + B) * F ≤ 536870912
  p : B' + B ≤ 536870912
theorem Coarse.sizes {D E B C F B' : Nat} (h : Coarse D E B C F B') : D ≤ 536870912 ∧ E ≤ 536870912 ∧ D * E ≠ 0 := by
  have h1 := h.de
  have hd := h.d
  have he := h.e
  have a1 : D * 1 ≤ D * E := Nat.mul_le_mul_left D (by omega)
  have a2 : 1 * E ≤ D * E := Nat.mul_le_mul_right E (by omega)
  exact ⟨by omega, by omega, Nat.mul_ne_zero hd he⟩
theorem OnGrid.fine {D E B C F B' : Nat} {L : List Pt} (h : OnGrid D E B C F L) (hc : Coarse D E B C F B') : Fine L := by
  have hs := hc.sizes
  have c1 := hc.c
  have b1 := hc.b
  refine ⟨fun p hp => ⟨grid_sm (h.xs p hp) hc.d hs.1 (by omega), grid_sm (h.ys p hp) hs.2.2 hc.de (by omega)⟩, fun i hi => ⟨?_, ?_, grid_sm (h.ss.get i hi) hc.e hs.2.1 hc.f⟩⟩
  · exact grid_sm ((h.ys _ (List.getElem_mem _)).sub (h.ys _ (List.getElem_mem _))) hs.2.2 hc.de hc.c
  · exact grid_sm ((h.xs _ (List.getElem_mem _)).sub (h.xs _ (List.getElem_mem _))) hc.d hs.1 hc.b
theorem OnGrid.at {D E B C F B' : Nat} {L : List Pt} (h : OnGrid D E B C F L) (hc : Coarse D E B C F B') {x : Rat} (hx : Grid D B' x) : FineAt L x := by
  have hs := hc.sizes
  have p1 := hc.p
  refine ⟨grid_sm hx hc.d hs.1 (by omega), fun i hi => ⟨?_, ?_⟩⟩
  · exact grid_sm (hx.sub (h.xs _ (List.getElem_mem _))) hc.d hs.1 hc.p
  · exact grid_sm ((hx.sub (h.xs _ (List.getElem_mem _))).mul (h.ss.get i hi)) hs.2.2 hc.de hc.m
theorem CEval_ok {D E B C F B' : Nat} {L : List Pt} (h : OnGrid D E B C F L) (hc : Coarse D E B C F B') (hl : L.length ≤ 400) {x : Rat} (hx : Grid D B' x) : conversion_Eval_2 fuel (L.map enc) x.num x.den = some ((evalL L x).num, ((evalL L x).den : Int), 0) := by
  have hs := hc.sizes
  have p1 := hc.p
  unfold conversion_Eval_2
  rw [CValid_ok h.asc (h.fine hc).1 h.two hl, rat_valid (grid_sm hx hc.d hs.1 (by omega)), eval_ok h.asc (h.fine hc) h.two hl (h.at hc hx)]
  rfl
theorem normal_len (L : List Pt) : (normalL L).length ≤ L.length + 1 := by
  match L with
  | [] => simp [normalL]
  | [_] => simp [normalL]
  | p :: q :: R =>
    have := (bendsL_sub (slope p q) (q :: R)).length_le
    simp only [normalL, List.length_cons, List.length_append, List.length_nil] at this ⊢
    omega
theorem formed_ok {D E B C F B' : Nat} {L : List Pt} (h : OnGrid D E B C F L) (hc : Coarse D E B C F B') (hB : B + D ≤ B') (hl : L.length ≤ 400) : conversion_formed fuel (L.map enc) = some ((normalL L).map enc, 0) := by
  unfold conversion_formed
  rw [normal_ok h.asc (h.fine hc) h.two hl ?_]
  · have := normal_len L
    simp only [Option.bind_some, uc_mk, bne_self_eq_false, cond_false, List.length_map]
    rw [show decide (((normalL L).length : Int) > 410) = false from decide_eq_false (by omega), cond_false]
  · intro p q R e
    have hone : Grid D D 1 := ⟨D, by rw [Rat.one_mul, Rat.intCast_natCast], by omega⟩
    have hzero : Grid D 0 0 := ⟨0, by rw [Rat.zero_mul]; rfl, by omega⟩
    have hsub : (bendsL (slope p q) (q :: R)).Sublist L := by rw [e]; exact (bendsL_sub _ _).cons p
    generalize bendsL (slope p q) (q :: R) = Bs at *
    constructor
    · refine h.at hc ?_
      cases Bs with
      | nil => exact hzero.le (by omega)
      | cons b Bs => exact ((h.xs b (hsub.subset (by simp))).sub hone).le hB
    · refine h.at hc ?_
      unfold toX
      cases hl : Bs.getLast? with
      | none => exact hone.le (by omega)
      | some b => exact ((h.xs b (hsub.subset (List.mem_of_getLast? hl))).add hone).le hB
theorem CNormal_ok {D E B C F B' : Nat} {L : List Pt} (h : OnGrid D E B C F L) (hc : Coarse D E B C F B') (hB : B + D ≤ B') (hl : L.length ≤ 400) : conversion_Normal fuel (L.map enc) = some ((normalL L).map enc, 0) := by
  unfold conversion_Normal
  rw [CValid_ok h.asc (h.fine hc).1 h.two hl, formed_ok h hc hB hl]
  rfl
end Go.VM
