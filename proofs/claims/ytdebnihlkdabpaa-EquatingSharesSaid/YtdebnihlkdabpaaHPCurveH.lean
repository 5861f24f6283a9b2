/- Curves on a fine grid: what the printed functions answer. -/
import Derived.Test.YtdebnihlkdabpaaHPCurveG
import Derived.Test.YtdebnihlkdabpaaPGrid
namespace Go.VM
set_option linter.unusedVariables false
set_option linter.unusedSimpArgs false

/-- The grids are coarse enough for the computations. -/
structure Coarse (D E B C F B' : Nat) : Prop where
  d : D ≠ 0
  e : E ≠ 0
  de : D * E ≤ 1152921504606846976
  cd : (C + C) * D ≤ 1152921504606846976
  db : D * E * (B + B) ≤ 1152921504606846976
  m : (B' + B) * F ≤ 576460752303423488
  c : C + C ≤ 576460752303423488
  b : B' + B + B ≤ 576460752303423488
  f : F ≤ 576460752303423488
  one : D ≤ 576460752303423488
theorem Coarse.sizes {D E B C F B' : Nat} (h : Coarse D E B C F B') : D ≤ 1152921504606846976 ∧ E ≤ 1152921504606846976 ∧ D * E ≠ 0 := by
  have h1 := h.de
  have hd := h.d
  have he := h.e
  have a1 : D * 1 ≤ D * E := Nat.mul_le_mul_left D (by omega)
  have a2 : 1 * E ≤ D * E := Nat.mul_le_mul_right E (by omega)
  exact ⟨by omega, by omega, Nat.mul_ne_zero hd he⟩
theorem OnGrid.fine {D E B C F B' : Nat} {L : List Pt} (h : OnGrid D E B C F L) (hc : Coarse D E B C F B') : Fine L := by
  have hs := hc.sizes
  have c1 := hc.c
  have b1 := hc.b
  refine ⟨fun p hp => ⟨grid_sm (h.xs p hp) hc.d hs.1 (by omega), grid_sm (h.ys p hp) hs.2.2 hc.de (by omega)⟩, fun i hi => ⟨?_, ?_, ?_⟩⟩
  · exact Ad.of (h.ys _ (List.getElem_mem _)) (grid_neg (h.ys _ (List.getElem_mem _))) hs.2.2 hc.de (by omega) (by omega)
  · exact Ad.of (h.xs _ (List.getElem_mem _)) (grid_neg (h.xs _ (List.getElem_mem _))) hc.d hs.1 (by omega) (by omega)
  · have hlt := List.pairwise_iff_getElem.1 h.asc i (i + 1) (by omega) hi (by omega)
    exact Di.of ((h.ys _ (List.getElem_mem _)).sub (h.ys _ (List.getElem_mem _))) ((h.xs _ (List.getElem_mem _)).sub (h.xs _ (List.getElem_mem _))) hs.2.2 hc.d (by have := hlt.1; grind) hc.cd hc.db (by omega) (by omega) hc.de hs.1
theorem OnGrid.at {D E B C F B' : Nat} {L : List Pt} (h : OnGrid D E B C F L) (hc : Coarse D E B C F B') {x : Rat} (hx : Grid D B' x) : FineAt L x := by
  have hs := hc.sizes
  have b1 := hc.b
  have c1 := hc.c
  have f1 := hc.f
  have m1 := hc.m
  refine ⟨grid_sm hx hc.d hs.1 (by omega), fun i hi => ⟨?_, ?_, ?_⟩⟩
  · exact Ad.of hx (grid_neg (h.xs _ (List.getElem_mem _))) hc.d hs.1 (by omega) (by omega)
  · exact Mu.of (hx.sub (h.xs _ (List.getElem_mem _))) (h.ss.get i hi) hc.d hc.e hc.de (by omega) (by omega) (by omega)
  · exact Ad.of (h.ys _ (List.getElem_mem _)) ((hx.sub (h.xs _ (List.getElem_mem _))).mul (h.ss.get i hi)) hs.2.2 hc.de (by omega) hc.m
theorem CEval_ok {D E B C F B' : Nat} {L : List Pt} (h : OnGrid D E B C F L) (hc : Coarse D E B C F B') (hl : L.length ≤ 400) {x : Rat} (hx : Grid D B' x) : conversion_Eval fuel (L.map enc) x.num x.den = some ((evalL L x).num, ((evalL L x).den : Int), 0) := by
  have hs := hc.sizes
  have b1 := hc.b
  unfold conversion_Eval
  rw [CValid_ok h.asc (h.fine hc).1 h.two hl, rat_valid (grid_sm hx hc.d hs.1 (by omega)), eval_ok h.asc (h.fine hc) h.two hl (h.at hc hx)]
  rfl
theorem normal_len (L : List Pt) : (normalL L).length ≤ L.length + 1 := by
  match L with
  | [] => simp [normalL]
  | [_] => simp [normalL]
  | p :: q :: R =>
    have := (bendsL_sub (slope p q) (q :: R)).length_le
    simp only [normalL, List.length_cons, List.length_append, List.length_nil] at this ⊢
    omega
theorem formed_ok {D E B C F B' : Nat} {L : List Pt} (h : OnGrid D E B C F L) (hc : Coarse D E B C F B') (hB : B + D ≤ B') (hl : L.length ≤ 400) : conversion_formed fuel (L.map enc) = some ((normalL L).map enc, 0) := by
  unfold conversion_formed
  have hone1 : Grid D D 1 := ⟨D, by rw [Rat.one_mul, Rat.intCast_natCast], by omega⟩
  have bb := hc.b
  rw [normal_ok h.asc (h.fine hc) h.two hl (fun p hp => ⟨Ad.of (h.xs p hp) (grid_neg hone1) hc.d hc.sizes.1 (by omega) hc.one, Ad.of (h.xs p hp) hone1 hc.d hc.sizes.1 (by omega) hc.one⟩) ?_]
  · have := normal_len L
    simp only [Option.bind_some, uc_mk, bne_self_eq_false, cond_false, List.length_map]
    rw [show decide (((normalL L).length : Int) > 410) = false from decide_eq_false (by omega), cond_false]
  · intro p q R e
    have hone : Grid D D 1 := ⟨D, by rw [Rat.one_mul, Rat.intCast_natCast], by omega⟩
    have hzero : Grid D 0 0 := ⟨0, by rw [Rat.zero_mul]; rfl, by omega⟩
    have hsub : (bendsL (slope p q) (q :: R)).Sublist L := by rw [e]; exact (bendsL_sub _ _).cons p
    generalize bendsL (slope p q) (q :: R) = Bs at *
    constructor
    · refine h.at hc ?_
      cases Bs with
      | nil => exact hzero.le (by omega)
      | cons b Bs => exact ((h.xs b (hsub.subset (by simp))).sub hone).le hB
    · refine h.at hc ?_
      unfold toX
      cases hl : Bs.getLast? with
      | none => exact hone.le (by omega)
      | some b => exact ((h.xs b (hsub.subset (List.mem_of_getLast? hl))).add hone).le hB
theorem CNormal_ok {D E B C F B' : Nat} {L : List Pt} (h : OnGrid D E B C F L) (hc : Coarse D E B C F B') (hB : B + D ≤ B') (hl : L.length ≤ 400) : conversion_Normal fuel (L.map enc) = some ((normalL L).map enc, 0) := by
  unfold conversion_Normal
  rw [CValid_ok h.asc (h.fine hc).1 h.two hl, formed_ok h hc hB hl]
  rfl
end Go.VM
