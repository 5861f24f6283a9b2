/- The statement SchemeTotalsSaid: the Go function awardingbody/awardingbodylaw23.SchemeTotals answers true at every input, and its arguments read afterwards as before. Conditions: none beyond the given statement. -/
import Derived.Test.YtdpoilkjdfnadaaRows
import Derived.Test.YtdpoilkjdfnadaaSchemeTotalsEngTM
import Derived.WalkKit
import Derived.ProofKit
import Derived.OpenShut
import Derived.ShutString
import Derived.ChangeOld
import Derived.Below
import Derived.SizedLaws
namespace Go.Proofs.Ytdpoilkjdfnadaa.schemeTotals
open Go.ChangeShapes Go.WideShapes Go.ChangeAt Go.RowKit Go.VM
set_option linter.unusedVariables false
set_option linter.unusedSimpArgs false
theorem walk (a0 : Option Addr) (len0 cap0 : Nat) (z0 : List Int) (a1 : Option Addr) (len1 cap1 : Nat) (z1 : List Int) (W : World) (w0 : IsRow .i64 W a0 len0 cap0 z0) (y0 : len0 * 8 ≤ 140737488351232) (w1 : IsRow .i64 W a1 len1 cap1 z1) (y1 : len1 * 8 ≤ 140737488351232) : Calls Try.prog 4 #[.slice a0 len0 cap0, .slice a1 len1 cap1] W fun e w' => e = .returned (.bool true) ∧ Below W.heap.size W w' := by
  obtain ⟨n, hn⟩ := pure_SchemeTotals (z0.take len0) (w0.fits len0) (w0.short y0) (z1.take len1) (w1.fits len1) (w1.short y1)
  have hr := law23_SchemeTotals_goes n (z0.take len0) (z1.take len1) true hn
  refine (Runs.below hr rfl ?_).mono fun e w' ⟨⟨φ', I', c, he, hv⟩, hb⟩ => ⟨by subst he; rw [hv.bool_inv], hb⟩
  intro i v c hv hc
  match i, hv, hc with
  | 0, hv, hc => cases hv; cases hc; exact VR.row e_i64 (fun _ => rfl) w0.look
  | 1, hv, hc => cases hv; cases hc; exact VR.row e_i64 (fun _ => rfl) w1.look
  | i + 2, hv, hc => simp at hv
theorem own : ownKnob Try.prog.godebug = none := by kernel_rfl
theorem laidOut : laidOutB Try.prog = true := by kernel_rfl
set_option maxRecDepth 100000 in
theorem lifted (os : Os) (started : os.Started) (H : Type) (enc : TypeId × Value → H) :
    ReturnsInHanded {} Try.checked os 4 .any (Rows.schemeTotalsSpec.pre6 enc Try.prog Try.f4 Rows.schemeTotalsRow.domain false) (Rows.schemeTotalsSpec.post enc Try.prog Try.f4 false true false false) := by
  refine returnsInHanded_of_change_sized (C := Try.checked) own started (by kernel_rfl) Try.func4
    (ChangeSpec.witness6 (enc := enc) (C := Try.checked) false ⟨#[], #[.slice none 0 0, .slice none 0 0], []⟩ 8 (by kernel_rfl) (by kernel_rfl) (by kernel_rfl) (by kernel_rfl)) ?_
  intro W base args ds gs before hval0 hW hcnd hsz0 _
  have hsz : (DataW.weightsEach Try.prog (Try.f4.params.toList ++ Rows.schemeTotalsSpec.plain.varTypes Try.prog) (ds ++ gs)).all (· ≤ reachBytes) = true := hsz0
  have hval : ∀ (j : Nat) t v, Try.f4.params[j]? = some t → args[j]? = some v → Value.okWide Try.prog W .any base t v := hval0
  have hW' := hW
  obtain ⟨p, q, hA0, hV, rfl, hfz, hnd⟩ := hW
  have hA : DataW.TrodAll enc Try.prog W 0 (fun _ => true) true Try.f4.params.toList args.toList ds p := hA0
  rw [Try.params4] at hA hval hsz
  obtain ⟨v0, vs0, d0, ds0, p0, q0, hargs, rfl, rfl, h0, r0⟩ := trodAll_cons hA
  obtain ⟨v1, vs1, d1, ds1, p1, q1, rfl, rfl, rfl, h1, r1⟩ := trodAll_cons r0
  obtain ⟨rfl, rfl, rfl⟩ := trodAll_nil r1
  obtain rfl : args = #[v0, v1] := by cases args; simp_all
  obtain ⟨rfl, rfl⟩ := trodVars_none hV
  obtain ⟨a0, len0, cap0, rfl⟩ := okWide_slice Try.underlying22 (hval 0 22 v0 rfl rfl)
  have k0 := h0
  have lt0 : ∀ x ∈ p0, x.block < W.heap.size := by obtain ⟨m, hm⟩ := k0; exact DataW.trod_lt m _ _ _ hm
  obtain ⟨z0, w0⟩ : ∃ zs, IsRow .i64 W a0 len0 cap0 zs := IsRow.open Try.underlying22 Try.underlying3 (by kernel_rfl) h0
  have y0 : len0 * 8 ≤ 140737488351232 := row_sized hsz (j := 0) (t := 22) rfl rfl Try.underlying22 Try.underlying3 (by kernel_rfl) (by kernel_rfl) h0
  obtain ⟨a1, len1, cap1, rfl⟩ := okWide_slice Try.underlying22 (hval 1 22 v1 rfl rfl)
  have k1 := h1
  have lt1 : ∀ x ∈ p1, x.block < W.heap.size := by obtain ⟨m, hm⟩ := k1; exact DataW.trod_lt m _ _ _ hm
  obtain ⟨z1, w1⟩ : ∃ zs, IsRow .i64 W a1 len1 cap1 zs := IsRow.open Try.underlying22 Try.underlying3 (by kernel_rfl) h1
  have y1 : len1 * 8 ≤ 140737488351232 := row_sized hsz (j := 1) (t := 22) rfl rfl Try.underlying22 Try.underlying3 (by kernel_rfl) (by kernel_rfl) h1
  clear hA0 hval0 hsz0 hsz
  refine (walk a0 len0 cap0 z0 a1 len1 cap1 z1 W w0 y0 w1 y1).mono fun e W' ⟨he, bel⟩ => ?_
  subst he
  exact ⟨_, rfl, _, _, _, [], _, [], hW', trodAll_mk1 (shut_bool Try.underlying4 _), (trodAll_cons_mk (Below.trod laidOut (by kernel_rfl) (of_decide_eq_true (by kernel_rfl)) k0 bel lt0) (trodAll_cons_mk (Below.trod laidOut (by kernel_rfl) (of_decide_eq_true (by kernel_rfl)) k1 bel lt1) trodAll_mk0)), rfl, bel.frame _, fun h => by cases h⟩
theorem over : Rows.schemeTotalsRow.holds Try.pinned (OpenSpec.ofChange Rows.schemeTotalsSpec) :=
  OpenClaim.holds_of_wide 4 Try.f4 rfl rfl rfl rfl rfl rfl rfl ⟨rfl, rfl, rfl, rfl, rfl⟩ rfl rfl rfl rfl rfl (by kernel_rfl) Try.func4 (by kernel_rfl)
    (of_decide_eq_true (by kernel_rfl)) (by unfold Func.isWrapper; first | (rw [if_pos (by decide +kernel)]; kernel_rfl) | (rw [if_neg (by decide +kernel)]; exact ⟨rfl, rfl⟩))
    (fun os started H enc _ => lifted os started H enc)
theorem proved : Rows.SchemeTotalsSaid := over
#print axioms proved
end Go.Proofs.Ytdpoilkjdfnadaa.schemeTotals
namespace Go.Proofs.Ytdpoilkjdfnadaa
theorem schemeTotals_holds : Rows.SchemeTotalsSaid := schemeTotals.proved
end Go.Proofs.Ytdpoilkjdfnadaa
