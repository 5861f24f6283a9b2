/- Fractions that the dice make. -/
import Derived.Test.YtoffminccignfaaCPCurveC
import Derived.Test.YtoffminccignfaaCPDice
namespace Go.VM
set_option linter.unusedVariables false
set_option linter.unusedSimpArgs false

theorem ratio_dice : ∀ (i : Fin 21) (j : Fin 5), (Option.bind (gloop (mark_Dice_Ratio_b1 fuel) fuel (((i.val : Int) - 10), (1 + (j.val : Int)), 5) : Option (Int × Int)) (uc fun n11 => fun m12 => Option.bind (bif (n11 == 0) then some 1 else some m12 : Option Int) (fun m13 => some (n11, m13)))) = some ((mkRat ((i.val : Int) - 10) (j.val + 1)).num, ((mkRat ((i.val : Int) - 10) (j.val + 1)).den : Int)) := by decide +kernel
theorem grid_small : ∀ (j : Fin 5), ∃ k : Nat, k ≤ 60 ∧ (j.val + 1) * k = 60 := by decide
theorem Ratio_then {x : List Int} {i : Int} {Y : Type} {f : Int → Int → Int → Option Y} {Q : Y → Prop} (hx : x.length ≤ 600) (h0 : 0 ≤ i) (hf : ∀ (z : Rat) j, Grid 60 600 z → 0 ≤ j → Ok (f z.num z.den j) Q) : Ok (Option.bind (mark_Dice_Ratio fuel x i) (uc fun a => uc (f a))) Q := by
  unfold mark_Dice_Ratio
  refine Ok.bind (Q := fun (r : Int × Int × Int) => ∃ z : Rat, r.1 = z.num ∧ r.2.1 = z.den ∧ Grid 60 600 z ∧ 0 ≤ r.2.2) ?_ fun r hr => ?_
  · refine Next_then hx h0 (by omega) (by omega) fun a j a1 a2 hj => ?_
    refine Next_then hx hj (by omega) (by omega) fun b j b1 b2 hj => ?_
    rw [w64 (x := a - 10) (by omega) (by omega), w64 (x := 1 + b) (by omega) (by omega)]
    have h := ratio_dice ⟨a.toNat, by omega⟩ ⟨b.toNat, by omega⟩
    simp only at h
    rw [show ((a.toNat : Nat) : Int) = a by omega, show ((b.toNat : Nat) : Int) = b by omega] at h
    have hg : Grid 60 600 (mkRat (a - 10) (b.toNat + 1)) := by
      obtain ⟨k, hk, hk2⟩ := grid_small ⟨b.toNat, by omega⟩
      simp only at hk2
      have g : Grid (b.toNat + 1) 10 (mkRat (a - 10) (b.toNat + 1)) := ⟨a - 10, by rw [Rat.mkRat_eq_div, Rat.div_mul_cancel (natCast_ne (by omega))], by omega⟩
      have := g.up k
      rw [hk2] at this
      exact this.le (by omega)
    generalize gloop (mark_Dice_Ratio_b1 fuel) fuel (a - 10, 1 + b, 5) = o at h ⊢
    cases o with
    | none => simp at h
    | some o =>
      obtain ⟨n, m⟩ := o
      simp only [Option.bind_some, uc_mk] at h ⊢
      cases hb : (n == 0)
      · rw [hb] at h
        simp only [cond_false, Option.bind_some, Option.some.injEq, Prod.mk.injEq] at h ⊢
        exact Ok.ret ⟨_, h.1, h.2, hg, hj⟩
      · rw [hb] at h
        simp only [cond_true, Option.bind_some, Option.some.injEq, Prod.mk.injEq] at h ⊢
        exact Ok.ret ⟨_, h.1, h.2, hg, hj⟩
  · obtain ⟨a, b, j⟩ := r
    obtain ⟨z, e1, e2, e3, e4⟩ := hr
    simp only at e1 e2 e4
    subst e1 e2
    exact hf z j e3 e4
end Go.VM
