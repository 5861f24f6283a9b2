/- Curves and fractions that the dice make. -/
import Derived.Test.YtoffminccignfaaCPCurveC
import Derived.Test.YtoffminccignfaaCPDice
namespace Go.VM
set_option linter.unusedVariables false
set_option linter.unusedSimpArgs false

theorem Slopes.snoc {P : Rat → Prop} {e l : Pt} : ∀ {L : List Pt}, L.getLast? = some l → Slopes P L → P (slope l e) → Slopes P (L ++ [e])
  | [], h, _, _ => by simp at h
  | [p], h, _, hp => by
    simp only [List.getLast?_singleton, Option.some.injEq] at h
    subst h
    exact ⟨hp, trivial⟩
  | p :: q :: L, h, hS, hp => ⟨hS.1, Slopes.snoc (L := q :: L) (by simpa using h) hS.2 hp⟩
theorem grid_slope {a b c d : Int} (h1 : 1 ≤ c - a) (h2 : c - a ≤ 3) (h3 : 0 ≤ d - b) (h4 : d - b ≤ 4) : Grid 6 24 (slope ⟨a, b⟩ ⟨c, d⟩) := by
  have hlt : (a : Rat) < (c : Rat) := Rat.intCast_lt_intCast.2 (by omega)
  have hm := slope_mul (p := ⟨a, b⟩) (q := ⟨c, d⟩) hlt
  have ex : ((c : Rat) - (a : Rat)) = ((c - a : Int) : Rat) := (Rat.intCast_sub ..).symm
  have ey : ((d : Rat) - (b : Rat)) = ((d - b : Int) : Rat) := (Rat.intCast_sub ..).symm
  simp only at hm
  rw [ex, ey] at hm
  generalize slope ⟨(a : Rat), (b : Rat)⟩ ⟨(c : Rat), (d : Rat)⟩ = s at *
  generalize d - b = y at *
  have : c - a = 1 ∨ c - a = 2 ∨ c - a = 3 := by omega
  rcases this with h | h | h
  · rw [h] at hm
    refine ⟨6 * y, ?_, by omega⟩
    rw [Rat.intCast_mul, ← hm]
    have : ((1 : Int) : Rat) = 1 := rfl
    have : ((6 : Int) : Rat) = 6 := rfl
    have : ((6 : Nat) : Rat) = 6 := rfl
    grind
  · rw [h] at hm
    refine ⟨3 * y, ?_, by omega⟩
    rw [Rat.intCast_mul, ← hm]
    have : ((2 : Int) : Rat) = 2 := rfl
    have : ((3 : Int) : Rat) = 3 := rfl
    have : ((6 : Nat) : Rat) = 6 := rfl
    grind
  · rw [h] at hm
    refine ⟨2 * y, ?_, by omega⟩
    rw [Rat.intCast_mul, ← hm]
    have : ((3 : Int) : Rat) = 3 := rfl
    have : ((2 : Int) : Rat) = 2 := rfl
    have : ((6 : Nat) : Rat) = 6 := rfl
    grind
theorem enc_int (a b : Int) : enc ⟨(a : Rat), (b : Rat)⟩ = ⟨a, 1, b, 1⟩ := rfl
/-- A curve as the dice make it. -/
def MadeC (L : List Pt) : Prop := OnGrid 60 6 1200 10800 24 L ∧ L.length ≤ 5 ∧ ∀ p ∈ L, ∃ a b : Int, p = ⟨a, b⟩
theorem Curve_then {x : List Int} {i : Int} {Y : Type} {f : List SPoint → Int → Option Y} {Q : Y → Prop} (hx : x.length ≤ 600) (h0 : 0 ≤ i) (hf : ∀ L j, MadeC L → 0 ≤ j → Ok (f (L.map enc) j) Q) : Ok (Option.bind (mark_Dice_Curve fuel x i) (uc f)) Q := by
  unfold mark_Dice_Curve
  refine Ok.bind (Q := fun r => ∃ L, r.1 = L.map enc ∧ MadeC L ∧ 0 ≤ r.2) ?_ fun r hr => ?_
  · refine Next_then hx h0 (by omega) (by omega) fun a j a1 a2 hj => ?_
    refine Next_then hx hj (by omega) (by omega) fun b j b1 b2 hj => ?_
    refine Next_then hx hj (by omega) (by omega) fun c j c1 c2 hj => ?_
    rw [w64 (x := a - 4) (by omega) (by omega), w64 (x := b - 4) (by omega) (by omega), w64 (x := 1 + c) (by omega) (by omega)]
    refine Ok.bind (Q := fun r => 0 ≤ r.1 ∧ ∃ L, r.2 = L.map enc ∧ MadeC L) (ok_loop (fun s => 0 ≤ s.2.2.1 ∧ s.2.2.1 ≤ 4 ∧ 0 ≤ s.2.2.2.1 ∧ -4 ≤ s.1 ∧ s.1 + 3 * s.2.2.1 ≤ 16 ∧ -4 ≤ s.2.1 ∧ s.2.1 + 4 * s.2.2.1 ≤ 20 ∧ ∃ L : List Pt, s.2.2.2.2 = L.map enc ∧ L.getLast? = some ⟨s.1, s.2.1⟩ ∧ Asc L ∧ Slopes (Grid 6 24) L ∧ (L.length : Int) + s.2.2.1 = 2 + c ∧ ∀ p ∈ L, ∃ a b : Int, p = ⟨a, b⟩ ∧ -4 ≤ a ∧ a ≤ s.1 ∧ -4 ≤ b ∧ b ≤ s.2.1) (fun s => s.2.2.1.toNat) ⟨by dsimp only; omega, by dsimp only; omega, hj, by dsimp only; omega, by dsimp only; omega, by dsimp only; omega, by dsimp only; omega, [⟨((a - 4 : Int) : Rat), ((b - 4 : Int) : Rat)⟩], ?_, rfl, by simp [Asc], trivial, by simp; omega, fun p hp => ?_⟩ (by dsimp only [fuel]; omega) ?_) fun r hr => ?_
    · rfl
    · rw [List.mem_singleton] at hp
      subst hp
      exact ⟨a - 4, b - 4, rfl, by omega, by dsimp only; omega, by omega, by dsimp only; omega⟩
    · intro again s hs hag
      obtain ⟨u, v, n, j, xs⟩ := s
      obtain ⟨g1, g2, g3, g4, g5, g6, g7, L, e1, e2, e3, e4, e5, e6⟩ := hs
      simp only at g1 g2 g3 g4 g5 g6 g7 e1 e2 e5 e6
      simp only [mark_Dice_Curve_b1, uc_mk]
      refine ok_bif (fun hc => ?_) fun hc => ?_
      · have hc' := of_decide_eq_true hc
        refine Next_then hx g3 (by omega) (by omega) fun p j p1 p2 hj => ?_
        refine Next_then hx hj (by omega) (by omega) fun q j q1 q2 hj => ?_
        rw [w64 (x := u + 1) (by omega) (by omega), w64 (x := v + 1) (by omega) (by omega), w64 (x := u + 1 + p) (by omega) (by omega), w64 (x := v + 1 + q) (by omega) (by omega), w64 (x := n - 1) (by omega) (by omega)]
        have hxl : xs.length ≤ 10 := by rw [e1]; simp; omega
        refine ok_cap (by simp; omega) (hag _ ⟨by dsimp only; omega, by dsimp only; omega, hj, by dsimp only; omega, by dsimp only; omega, by dsimp only; omega, by dsimp only; omega, L ++ [⟨((u + 1 + p : Int) : Rat), ((v + 1 + q : Int) : Rat)⟩], ?_, by simp, ?_, ?_, by simp only [List.length_append, List.length_singleton]; omega, fun z hz => ?_⟩ (by dsimp only; omega))
        · dsimp only
          rw [e1, List.map_append]
          rfl
        · refine List.pairwise_append.2 ⟨e3, by simp, fun z hz w hw => ?_⟩
          rw [List.mem_singleton] at hw
          subst hw
          obtain ⟨a', b', rfl, k1, k2, k3, k4⟩ := e6 z hz
          exact ⟨Rat.intCast_lt_intCast.2 (by omega), Rat.intCast_lt_intCast.2 (by omega)⟩
        · exact e4.snoc e2 (grid_slope (by omega) (by omega) (by omega) (by omega))
        · rw [List.mem_append, List.mem_singleton] at hz
          rcases hz with hz | rfl
          · obtain ⟨a', b', rfl, k1, k2, k3, k4⟩ := e6 z hz
            exact ⟨a', b', rfl, k1, by dsimp only; omega, k3, by dsimp only; omega⟩
          · exact ⟨u + 1 + p, v + 1 + q, rfl, by omega, by dsimp only; omega, by omega, by dsimp only; omega⟩
      · have hc' := of_decide_eq_false hc
        refine Ok.ret ⟨g3, L, e1, ⟨e3, by omega, fun p hp => ?_, fun p hp => ?_, e4⟩, by omega, fun p hp => ?_⟩
        · obtain ⟨a', b', rfl, k1, k2, k3, k4⟩ := e6 p hp
          exact grid_int 60 a' 20 (by omega)
        · obtain ⟨a', b', rfl, k1, k2, k3, k4⟩ := e6 p hp
          exact grid_int 360 b' 30 (by omega)
        · obtain ⟨a', b', rfl, _⟩ := e6 p hp
          exact ⟨a', b', rfl⟩
    · obtain ⟨j, xs⟩ := r
      obtain ⟨hj, L, e1, e2⟩ := hr
      exact Ok.ret ⟨L, e1, e2, hj⟩
  · obtain ⟨d, j⟩ := r
    obtain ⟨L, e1, e2, e3⟩ := hr
    simp only at e1 e3
    subst e1
    exact hf L j e2 e3
end Go.VM
