/- Plain functions that answer as the program's functions do, and the proof that they do. -/
import Derived.Test.YtdebnihlkdabpaaProg
import Derived.KernelRfl
import Derived.Test.YtdebnihlkdabpaaEngYM
import Derived.Test.YtdebnihlkdabpaaSeFacts
import Derived.Test.YtdebnihlkdabpaaSeFuns0
import Derived.Test.YtdebnihlkdabpaaSeFuns1
import Derived.Test.YtdebnihlkdabpaaSeFuns2
import Derived.Test.YtdebnihlkdabpaaSeFuns3
import Derived.Test.YtdebnihlkdabpaaSeFuns4
namespace Go.VM
open Go.Proofs
set_option linter.unusedVariables false
set_option linter.unusedSimpArgs false
set_option maxRecDepth 100000
/-- awardingbody/conversion.Compose -/
def conversion_Compose_b1 (k : Nat) (f0 : (List SPoint)) (g0 : (List SPoint)) (r113 : (List SRatio)) (again : Int × Int × (List SPoint) → Option (((List SPoint)) ⊕ ((List SPoint) × Int))) : Int × Int × (List SPoint) → Option (((List SPoint)) ⊕ ((List SPoint) × Int)) := uc fun x64 => uc fun x65 => fun xs18 => bif (decide (x64 < ((List.length r113) : Int))) then gidx r113 x64 fun e129 => Option.bind (conversion_calc_eval k f0 e129.Num e129.Den x65) (uc fun r1634 => uc fun r1734 => fun x334 => Option.bind (bif (x334 == 0) then Option.bind (conversion_calc_eval k g0 r1634 r1734 x334) (uc fun r1636 => uc fun r1736 => fun x336 => some (x336, r1636, r1736)) else some (x334, r1634, r1734) : Option (Int × Int × Int)) (uc fun x77 => uc fun x78 => fun x79 => bif (x77 != 0) then some (Sum.inr ([], x77)) else gcap (List.length (xs18 ++ ([(⟨e129.Num, e129.Den, x78, x79⟩ : SPoint)] : List SPoint))) 32 (again ((IntKind.wrap .i64 (x64 + 1)), x77, (xs18 ++ ([(⟨e129.Num, e129.Den, x78, x79⟩ : SPoint)] : List SPoint)))))) else some (Sum.inl xs18)
def conversion_Compose_b2 (k : Nat) (g0 : (List SPoint)) (r112 : (List SPoint)) (again : Int × Int × (List SRatio) → Option (Int × (List SRatio))) : Int × Int × (List SRatio) → Option (Int × (List SRatio)) := uc fun x80 => uc fun x81 => fun xs20 => bif (decide (x80 < ((List.length g0) : Int))) then gidx g0 x80 fun e135 => Option.bind (conversion_calc_eval k r112 e135.X_Num e135.X_Den x81) (uc fun r1642 => uc fun r1742 => fun x342 => gcap (List.length (xs20 ++ ([(⟨r1642, r1742⟩ : SRatio)] : List SRatio))) 16 (again ((IntKind.wrap .i64 (x80 + 1)), x342, (xs20 ++ ([(⟨r1642, r1742⟩ : SRatio)] : List SRatio))))) else some (x81, xs20)
def conversion_Compose_b3 (k : Nat) (f0 : (List SPoint)) (again : Int × (List SRatio) → Option ((List SRatio))) : Int × (List SRatio) → Option ((List SRatio)) := uc fun x84 => fun xs24 => bif (decide (x84 < ((List.length f0) : Int))) then gidx f0 x84 fun e141 => gcap (List.length (xs24 ++ ([(⟨e141.X_Num, e141.X_Den⟩ : SRatio)] : List SRatio))) 16 (again ((IntKind.wrap .i64 (x84 + 1)), (xs24 ++ ([(⟨e141.X_Num, e141.X_Den⟩ : SRatio)] : List SRatio)))) else some xs24
def conversion_Compose (k : Nat) (f0 : (List SPoint)) (g0 : (List SPoint)) : Option ((List SPoint) × Int) := Option.bind (conversion_Valid k f0) (fun r19 => Option.bind (bif (!r19) then some true else Option.bind (conversion_Valid k g0) (fun r116 => some (!r116)) : Option (Bool)) (fun x25 => bif x25 then some ([], 1) else Option.bind (conversion_turned k f0) (fun r112 => Option.bind (gloop (conversion_Compose_b3 k f0) k (0, ([] : List SRatio)) : Option ((List SRatio))) (fun xs11 => Option.bind (gloop (conversion_Compose_b2 k g0 r112) k (0, 0, xs11) : Option (Int × (List SRatio))) (uc fun x41 => fun xs14 => bif (x41 != 0) then some ([], x41) else Option.bind (slices_SortFunc_api_Ratio_api_Ratio k xs14) (fun xs22 => glen (List.length xs14) (List.length xs22) (Option.bind (slices_Compact_api_Ratio_api_Ratio k xs22) (uc fun r113 => fun xs491 => Option.bind (gloop (conversion_Compose_b1 k f0 g0 r113) k (0, x41, ([] : List SPoint)) : Option (((List SPoint)) ⊕ ((List SPoint) × Int))) (Sum.elim (fun xs17 => Option.bind (conversion_formed k xs17) (uc fun r114 => fun r115 => some (r114, r115))) (fun r => some r))))))))))
def conversion_Compose_E (f0 : (List SPoint)) (g0 : (List SPoint)) : (List SPoint) × Int → V × List Blk := uc fun r15 => fun r18 => (.tuple [.agg [.d (.lit (List.map e_SPoint r15))], .d (.int .i64 r18)], [])
theorem conversion_Compose_goes (k : Nat) (f0 : (List SPoint)) (g0 : (List SPoint)) : RunsO Try.prog 56 [.agg [.d (.lit (List.map e_SPoint f0))], .agg [.d (.lit (List.map e_SPoint g0))]] [] (conversion_Compose_E f0 g0) (conversion_Compose k f0 g0) := by
  refine RunsO.of_goes (N := 100) (m := 0) (T := [(0, .agg [.d (.lit (List.map e_SPoint f0))]), (1, .agg [.d (.lit (List.map e_SPoint g0))])]) Try.func56 rfl rfl (h := ?_)
  unfold conversion_Compose
  refine bStart ?_
  refine oSR rfl ?_
  refine oD (.ptr 0 0) (k_box (H' := [.box [.d (.lit (List.map e_SPoint f0))]]) (cells := [.d (.lit (List.map e_SPoint f0))])) ?_
  refine oD (.ptr 1 0) (k_box (H' := [.box [.d (.lit (List.map e_SPoint f0))], .box [.d (.lit (List.map e_SPoint g0))]]) (cells := [.d (.lit (List.map e_SPoint g0))])) ?_
  refine oD (.ptr 2 0) (k_alloc (H' := [.box [.d (.lit (List.map e_SPoint f0))], .box [.d (.lit (List.map e_SPoint g0))], .box [.nilc]]) ty32) ?_
  refine oP (.d (.int .i64 0)) p_assign ?_
  refine oEnd ?_
  refine oSeq ?_
  refine oSR rfl ?_
  refine oQ (.agg [.d (.lit (List.map e_SPoint f0))]) (k_loadAgg 0 0 (hu := Try.underlying32) (hi := ty32)) ?_
  refine bCall (caps := []) (v := (fun (r19 : Bool) => (.d (.bool r19) : V))) (H' := (fun (r19 : Bool) => ([.box [.d (.lit (List.map e_SPoint f0))], .box [.d (.lit (List.map e_SPoint g0))], .box [.nilc]] : List Blk))) [] _ (conversion_Valid_goes k f0) (ho := rfl) (hfn := Try.func38) (hb := rfl) (hconv := ConvRs.refl _ _) (hnd := by decide) (hBl := fun _ => (by kernel_rfl)) (hv := fun _ => (by kernel_rfl)) (hH' := fun _ => (by kernel_rfl)) (h := fun r19 => ?_)
  refine oP (.d (.bool (!r19))) (p_not (p := r19)) ?_
  refine oP (.d (.bool (!r19))) p_move ?_
  refine bMeet 4 rfl ((fun (x25 : Bool) => [(2, .ptr 0 0), (3, .ptr 1 0), (4, .ptr 2 0), (24, .d (.bool x25))])) ((fun (x25 : Bool) => [.box [.d (.lit (List.map e_SPoint f0))], .box [.d (.lit (List.map e_SPoint g0))], .box [.nilc]])) (fun s => s) (fun x25 => ?_) (fun hj21 => ?_)
  ·refine oView (T' := [(2, .ptr 0 0), (3, .ptr 1 0), (4, .ptr 2 0), (24, .d (.bool x25))]) (H' := [.box [.d (.lit (List.map e_SPoint f0))], .box [.d (.lit (List.map e_SPoint g0))], .box [.nilc]]) (h := ?_)
   refine oEnd ?_
   refine bSplit 24 (h1 := fun hc => ?_) (h2 := fun hc => ?_)
   ·refine oCondT (h := ?_)
    refine oSR rfl ?_
    refine oP (.agg [.nilc]) (p_build bld32) ?_
    refine oD (.undef) (k_store (vs := [.nilc]) (H' := [.box [.d (.lit (List.map e_SPoint f0))], .box [.d (.lit (List.map e_SPoint g0))], .box [.nilc]]) 2 0 (hi := ty32)) ?_
    refine oP (.d (.int .i64 1)) p_assign ?_
    refine oEnd ?_
    refine oConvB 2 (cells := [.nilc]) (cells' := [.d (.lit (List.map e_SPoint []))]) (hc := .cons _ _ _ _ .nil .nil) (h := ?_)
    refine oView (H' := [.box [.d (.lit (List.map e_SPoint f0))], .box [.d (.lit (List.map e_SPoint g0))], .box [.d (.lit (List.map e_SPoint []))]]) rfl (h := ?_)
    exact oRet (r0 := ([], 1)) (rv := .tuple [.agg [.d (.lit (List.map e_SPoint []))], .d (.int .i64 1)]) (B := []) (vs := [.agg [.d (.lit (List.map e_SPoint []))], .d (.int .i64 1)]) (σ := []) (hf := Try.func56) (hrs := rfl) (hres := .cons _ _ _ _ (.agg 4 32 2 0 [.d (.lit (List.map e_SPoint []))] [.d (.lit (List.map e_SPoint []))] _ _ _ _ (by kernel_rfl) (by kernel_rfl) Try.underlying32 (by kernel_rfl) ty32 (by kernel_rfl) (by kernel_rfl)) (.cons _ _ _ _ (.tmp 5 _ (by kernel_rfl)) .nil)) (hnd := by decide)
   ·refine oCondF (h := ?_)
    refine oSkip ?_
    refine oSR rfl ?_
    refine oD (.ptr 3 0) (k_alloc (H' := [.box [.d (.lit (List.map e_SPoint f0))], .box [.d (.lit (List.map e_SPoint g0))], .box [.nilc], .box [.d (.int .i64 0)]]) ty69) ?_
    refine oEnd ?_
    refine oSR rfl ?_
    refine oP (.nilc) p_assign ?_
    refine oEnd ?_
    refine oSR rfl ?_
    refine oP (.ptr 0 0) (k_fieldAddr 0 0 (hu := Try.underlying32) (hf := rfl) (hi := ty30)) ?_
    refine oQ (.d (.lit (List.map e_SPoint f0))) (k_load 0 0 (hu := Try.underlying30)) ?_
    refine bCall (caps := []) (v := (fun (r112 : (List SPoint)) => (.d (.lit (List.map e_SPoint r112)) : V))) (H' := (fun (r112 : (List SPoint)) => ([.box [.d (.lit (List.map e_SPoint f0))], .box [.d (.lit (List.map e_SPoint g0))], .box [.nilc], .box [.d (.int .i64 0)]] : List Blk))) [] _ (conversion_turned_goes k f0) (ho := rfl) (hfn := Try.func52) (hb := rfl) (hconv := ConvRs.refl _ _) (hnd := by decide) (hBl := fun _ => (by kernel_rfl)) (hv := fun _ => (by kernel_rfl)) (hH' := fun _ => (by kernel_rfl)) (h := fun r112 => ?_)
    refine oP (.d (.lit (List.map e_SPoint r112))) p_assign ?_
    refine oEnd ?_
    refine oSeq ?_
    refine oSR rfl ?_
    refine oP (.ptr 0 0) (k_fieldAddr 0 0 (hu := Try.underlying32) (hf := rfl) (hi := ty30)) ?_
    refine oQ (.d (.lit (List.map e_SPoint f0))) (k_load 0 0 (hu := Try.underlying30)) ?_
    refine oP (.d (.int .i64 ((List.length f0) : Int))) (k_lenLit (enc := e_SPoint) f0 (hu := Try.underlying30)) ?_
    refine oP (.d (.int .i64 0)) p_move ?_
    refine oEnd ?_
    refine bJoin ((fun (xs11 : (List SRatio)) => [(2, .ptr 0 0), (3, .ptr 1 0), (4, .ptr 2 0), (6, .ptr 3 0), (7, .ref 4 (List.length xs11) 0 (List.length xs11)), (8, .d (.lit (List.map e_SPoint r112)))])) ((fun (xs11 : (List SRatio)) => [.box [.d (.lit (List.map e_SPoint f0))], .box [.d (.lit (List.map e_SPoint g0))], .box [.nilc], .box [.d (.int .i64 0)], .sl 2 (List.map e_SRatio xs11) false])) (fun s => s) (fun xs11 => ?_) (fun hj8 => ?_)
    ·refine oView (T' := [(2, .ptr 0 0), (3, .ptr 1 0), (4, .ptr 2 0), (6, .ptr 3 0), (7, .ref 4 (List.length xs11) 0 (List.length xs11)), (8, .d (.lit (List.map e_SPoint r112)))]) (H' := [.box [.d (.lit (List.map e_SPoint f0))], .box [.d (.lit (List.map e_SPoint g0))], .box [.nilc], .box [.d (.int .i64 0)], .sl 2 (List.map e_SRatio xs11) false]) (h := ?_)
     refine oSeq ?_
     refine oSR rfl ?_
     refine oP (.ptr 1 0) (k_fieldAddr 1 0 (hu := Try.underlying32) (hf := rfl) (hi := ty30)) ?_
     refine oQ (.d (.lit (List.map e_SPoint g0))) (k_load 1 0 (hu := Try.underlying30)) ?_
     refine oP (.d (.int .i64 ((List.length g0) : Int))) (k_lenLit (enc := e_SPoint) g0 (hu := Try.underlying30)) ?_
     refine oP (.d (.int .i64 0)) p_move ?_
     refine oEnd ?_
     refine bJoin ((uc fun (x41 : Int) => (fun (xs14 : (List SRatio)) => [(2, .ptr 0 0), (3, .ptr 1 0), (4, .ptr 2 0), (6, .ptr 3 0), (7, .ref 4 (List.length xs14) 0 (List.length xs14))]))) ((uc fun (x41 : Int) => (fun (xs14 : (List SRatio)) => [.box [.d (.lit (List.map e_SPoint f0))], .box [.d (.lit (List.map e_SPoint g0))], .box [.nilc], .box [.d (.int .i64 x41)], .sl 2 (List.map e_SRatio xs14) false]))) (fun s => s) (fun s => ?_) (fun hj9 => ?_)
     ·obtain ⟨x41, xs14⟩ := s
      refine bUc ?_
      refine oView (T' := [(2, .ptr 0 0), (3, .ptr 1 0), (4, .ptr 2 0), (6, .ptr 3 0), (7, .ref 4 (List.length xs14) 0 (List.length xs14))]) (H' := [.box [.d (.lit (List.map e_SPoint f0))], .box [.d (.lit (List.map e_SPoint g0))], .box [.nilc], .box [.d (.int .i64 x41)], .sl 2 (List.map e_SRatio xs14) false]) (h := ?_)
      refine oSeq ?_
      refine oSR rfl ?_
      refine oP (.ptr 3 0) (k_fieldAddr 3 0 (hu := Try.underlying69) (hf := rfl) (hi := ty33)) ?_
      refine oQ (.d (.int .i64 x41)) (k_load 3 0 (hu := Try.underlying33)) ?_
      refine oP (.d (.bool (x41 != 0))) (p_int (k := .i64) (p := x41) (q := 0)) ?_
      refine oEnd ?_
      refine bSplit 59 (h1 := fun hc => ?_) (h2 := fun hc => ?_)
      ·refine oCondT (h := ?_)
       refine oSeq ?_
       refine oDraw [(0, 5), (1, 5), (2, 3), (3, 5), (4, 5)] rfl ?_
       refine aP 0 (.agg [.nilc]) rfl (p_build bld32) ?_
       refine aP 1 (.ptr 3 0) rfl (k_fieldAddr 3 0 (hu := Try.underlying69) (hf := rfl) (hi := ty33)) ?_
       refine aQ 2 [3] (.d (.int .i64 x41)) rfl (k_load 3 0 (hu := Try.underlying33)) ?_
       refine aOne (i := 3) (v := .undef) rfl (hac := Does.acts (k_store (vs := [.nilc]) (H' := [.box [.d (.lit (List.map e_SPoint f0))], .box [.d (.lit (List.map e_SPoint g0))], .box [.nilc], .box [.d (.int .i64 x41)], .sl 2 (List.map e_SRatio xs14) false]) 2 0 (hi := ty32))) (h := ?_)
       refine aP 4 (.d (.int .i64 x41)) rfl p_assign ?_
       refine aDone (h := ?_)
       refine oConvB 2 (cells := [.nilc]) (cells' := [.d (.lit (List.map e_SPoint []))]) (hc := .cons _ _ _ _ .nil .nil) (h := ?_)
       refine oView (H' := [.box [.d (.lit (List.map e_SPoint f0))], .box [.d (.lit (List.map e_SPoint g0))], .box [.d (.lit (List.map e_SPoint []))], .box [.d (.int .i64 x41)], .sl 2 (List.map e_SRatio xs14) false]) rfl (h := ?_)
       exact oRet (r0 := ([], x41)) (rv := .tuple [.agg [.d (.lit (List.map e_SPoint []))], .d (.int .i64 x41)]) (B := []) (vs := [.agg [.d (.lit (List.map e_SPoint []))], .d (.int .i64 x41)]) (σ := []) (hf := Try.func56) (hrs := rfl) (hres := .cons _ _ _ _ (.agg 4 32 2 0 [.d (.lit (List.map e_SPoint []))] [.d (.lit (List.map e_SPoint []))] _ _ _ _ (by kernel_rfl) (by kernel_rfl) Try.underlying32 (by kernel_rfl) ty32 (by kernel_rfl) (by kernel_rfl)) (.cons _ _ _ _ (.tmp 5 _ (by kernel_rfl)) .nil)) (hnd := by decide)
      ·refine oCondF (h := ?_)
       refine oSkip ?_
       refine oSR rfl ?_
       refine oP (.ref 4 (List.length xs14) 0 (List.length xs14)) p_move ?_
       refine bCall (caps := []) (v := (fun (xs22 : (List SRatio)) => (.tuple [] : V))) (H' := (fun (xs22 : (List SRatio)) => ([.box [.d (.lit (List.map e_SPoint f0))], .box [.d (.lit (List.map e_SPoint g0))], .box [.nilc], .box [.d (.int .i64 x41)], .sl 2 (List.map e_SRatio xs22) false] : List Blk))) [4] _ (slices_SortFunc_api_Ratio_api_Ratio_goes k xs14) (ho := rfl) (hfn := Try.func85) (hb := rfl) (hconv := ConvRs.refl _ _) (hnd := by decide) (hBl := fun _ => (by kernel_rfl)) (hv := fun _ => (by kernel_rfl)) (hH' := fun _ => (by kernel_rfl)) (h := fun xs22 => ?_)
       refine bLen (fun hl1 => ?_)
       refine oHead [2, 3, 4, 6, 7] [0, 1, 2, 3, 4] (T' := [(2, .ptr 0 0), (3, .ptr 1 0), (4, .ptr 2 0), (6, .ptr 3 0), (7, .ref 4 (List.length xs14) 0 (List.length xs14))]) (H' := [.box [.d (.lit (List.map e_SPoint f0))], .box [.d (.lit (List.map e_SPoint g0))], .box [.nilc], .box [.d (.int .i64 x41)], .sl 2 (List.map e_SRatio xs22) false]) (hnd := by decide) (h := ?_)
       refine oView (T' := [(2, .ptr 0 0), (3, .ptr 1 0), (4, .ptr 2 0), (6, .ptr 3 0), (7, .ref 4 (List.length xs22) 0 (List.length xs22))]) (H' := [.box [.d (.lit (List.map e_SPoint f0))], .box [.d (.lit (List.map e_SPoint g0))], .box [.nilc], .box [.d (.int .i64 x41)], .sl 2 (List.map e_SRatio xs22) false]) (by first | rw [hl1] | rfl) (by first | rw [hl1] | rfl) ?_
       refine oEnd ?_
       refine oSR rfl ?_
       refine oP (.nilc) p_assign ?_
       refine oEnd ?_
       refine oSeq ?_
       refine oSR rfl ?_
       refine oP (.ref 4 (List.length xs22) 0 (List.length xs22)) p_move ?_
       refine bCall (caps := []) (v := (uc fun (r113 : (List SRatio)) => (fun (xs491 : (List SRatio)) => (.d (.lit (List.map e_SRatio r113)) : V)))) (H' := (uc fun (r113 : (List SRatio)) => (fun (xs491 : (List SRatio)) => ([.box [.d (.lit (List.map e_SPoint f0))], .box [.d (.lit (List.map e_SPoint g0))], .box [.nilc], .box [.d (.int .i64 x41)], .sl 2 (List.map e_SRatio xs491) true] : List Blk)))) [4] _ (slices_Compact_api_Ratio_api_Ratio_goes k xs22) (ho := rfl) (hfn := Try.func87) (hb := rfl) (hconv := ConvRs.refl _ _) (hnd := by decide) (hBl := fun _ => (by kernel_rfl)) (hv := fun _ => (by kernel_rfl)) (hH' := fun _ => (by kernel_rfl)) (h := fun r => ?_)
       obtain ⟨r113, xs491⟩ := r
       refine bUc ?_
       refine oP (.d (.int .i64 ((List.length r113) : Int))) (k_lenLit (enc := e_SRatio) r113 (hu := Try.underlying99)) ?_
       refine oP (.d (.int .i64 0)) p_move ?_
       refine oEnd ?_
       refine bJoin ((fun (xs17 : (List SPoint)) => [(4, .ptr 0 0), (13, .ref 1 (List.length xs17) 0 (List.length xs17))])) ((fun (xs17 : (List SPoint)) => [.box [.nilc], .sl 4 (List.map e_SPoint xs17) false])) Sum.inl (fun xs17 => ?_) (fun hj14 => ?_)
       ·refine bInl ?_
        refine oView (T' := [(4, .ptr 0 0), (13, .ref 1 (List.length xs17) 0 (List.length xs17))]) (H' := [.box [.nilc], .sl 4 (List.map e_SPoint xs17) false]) (h := ?_)
        refine oSR rfl ?_
        refine oP (.ref 1 (List.length xs17) 0 (List.length xs17)) p_move ?_
        refine oFreeze 1 (esz := 4) (xs := List.map e_SPoint xs17) (h := ?_)
        refine oView (H' := [.box [.nilc], .sl 4 (List.map e_SPoint xs17) true]) rfl (h := ?_)
        refine bCall (caps := []) (v := (uc fun (r114 : (List SPoint)) => (fun (r115 : Int) => (.tuple [.agg [.d (.lit (List.map e_SPoint r114))], .d (.int .i64 r115)] : V)))) (H' := (uc fun (r114 : (List SPoint)) => (fun (r115 : Int) => ([.box [.nilc], .sl 4 (List.map e_SPoint xs17) true] : List Blk)))) [] _ (conversion_formed_goes k xs17) (ho := rfl) (hfn := Try.func51) (hb := rfl) (hconv := convList (vs0 := [.ref 1 (List.length xs17) 0 (List.length xs17)]) (vs := [.d (.lit (List.map e_SPoint xs17))]) (p := .cons _ _ _ _ (k_lit (enc := e_SPoint) (sz := 4) 1 xs17) .nil)) (hnd := by decide) (hBl := fun _ => (by kernel_rfl)) (hv := fun _ => (by kernel_rfl)) (hH' := fun _ => (by kernel_rfl)) (h := fun r => ?_)
        obtain ⟨r114, r115⟩ := r
        refine bUc ?_
        refine oP (.agg [.d (.lit (List.map e_SPoint r114))]) k_extract ?_
        refine oP (.d (.int .i64 r115)) k_extract ?_
        refine oD (.undef) (k_store (vs := [.d (.lit (List.map e_SPoint r114))]) (H' := [.box [.d (.lit (List.map e_SPoint r114))], .sl 4 (List.map e_SPoint xs17) true]) 0 0 (hi := ty32)) ?_
        refine oP (.d (.int .i64 r115)) p_assign ?_
        refine oEnd ?_
        exact oRet (r0 := (r114, r115)) (rv := .tuple [.agg [.d (.lit (List.map e_SPoint r114))], .d (.int .i64 r115)]) (B := []) (vs := [.agg [.d (.lit (List.map e_SPoint r114))], .d (.int .i64 r115)]) (σ := []) (hf := Try.func56) (hrs := rfl) (hres := .cons _ _ _ _ (.agg 4 32 0 0 [.d (.lit (List.map e_SPoint r114))] [.d (.lit (List.map e_SPoint r114))] _ _ _ _ (by kernel_rfl) (by kernel_rfl) Try.underlying32 (by kernel_rfl) ty32 (by kernel_rfl) (by kernel_rfl)) (.cons _ _ _ _ (.tmp 5 _ (by kernel_rfl)) .nil)) (hnd := by decide)
       ·refine oBlock ?_
        refine oLoop ?_
        refine oVirt (esz := 4) 13 (h := ?_)
        refine oView (H' := [.box [.d (.lit (List.map e_SPoint f0))], .box [.d (.lit (List.map e_SPoint g0))], .box [.nilc], .box [.d (.int .i64 x41)], .sl 2 (List.map e_SRatio xs491) true, .sl 4 (List.map e_SPoint ([] : List SPoint)) false]) rfl (h := ?_)
        refine oHead [2, 3, 4, 6, 13, 66, 67, 68] [0, 1, 2, 3, 5] (T' := [(2, .ptr 0 0), (3, .ptr 1 0), (4, .ptr 2 0), (6, .ptr 3 0), (13, .ref 4 (List.length ([] : List SPoint)) 0 (List.length ([] : List SPoint))), (66, .d (.lit (List.map e_SRatio r113))), (67, .d (.int .i64 ((List.length r113) : Int))), (68, .d (.int .i64 0))]) (H' := [.box [.d (.lit (List.map e_SPoint f0))], .box [.d (.lit (List.map e_SPoint g0))], .box [.nilc], .box [.d (.int .i64 x41)], .sl 4 (List.map e_SPoint ([] : List SPoint)) false]) (hnd := by decide) (h := ?_)
        refine bLoop (body := conversion_Compose_b1 k f0 g0 r113) ((uc fun (x64 : Int) => (uc fun (x65 : Int) => (fun (xs18 : (List SPoint)) => [(2, .ptr 0 0), (3, .ptr 1 0), (4, .ptr 2 0), (6, .ptr 3 0), (13, .ref 4 (List.length xs18) 0 (List.length xs18)), (66, .d (.lit (List.map e_SRatio r113))), (67, .d (.int .i64 ((List.length r113) : Int))), (68, .d (.int .i64 x64))])))) ((uc fun (x64 : Int) => (uc fun (x65 : Int) => (fun (xs18 : (List SPoint)) => [.box [.d (.lit (List.map e_SPoint f0))], .box [.d (.lit (List.map e_SPoint g0))], .box [.nilc], .box [.d (.int .i64 x65)], .sl 4 (List.map e_SPoint xs18) false])))) (fun again hag1 s => ?_) k (0, x41, ([] : List SPoint))
        ·unfold conversion_Compose_b1
         obtain ⟨x64, x65, xs18⟩ := s
         refine bUc ?_
         refine bUc ?_
         refine oView (T' := [(2, .ptr 0 0), (3, .ptr 1 0), (4, .ptr 2 0), (6, .ptr 3 0), (13, .ref 4 (List.length xs18) 0 (List.length xs18)), (66, .d (.lit (List.map e_SRatio r113))), (67, .d (.int .i64 ((List.length r113) : Int))), (68, .d (.int .i64 x64))]) (H' := [.box [.d (.lit (List.map e_SPoint f0))], .box [.d (.lit (List.map e_SPoint g0))], .box [.nilc], .box [.d (.int .i64 x65)], .sl 4 (List.map e_SPoint xs18) false]) (h := ?_)
         refine oSR rfl ?_
         refine oP (.d (.bool (decide (x64 < ((List.length r113) : Int))))) (p_int (k := .i64) (p := x64) (q := ((List.length r113) : Int))) ?_
         refine oEnd ?_
         refine oSeq ?_
         refine bSplit 69 (h1 := fun hc => ?_) (h2 := fun hc => ?_)
         ·refine oCondT (h := ?_)
          refine oSkip ?_
          refine oSeq ?_
          refine oBlock ?_
          refine oSR rfl ?_
          refine bIdx (fun e129 h187 h188 => ?_)
          refine oP (.lptr (e_SRatio e129) 0) (k_idxLit e_SRatio_len r113 (a := e129) (k := .i64) (i := x64) (hu := Try.underlying99) (hi := ty38) (h0 := h187) (he := h188)) ?_
          refine oQ (.agg [.d (.int .i64 e129.Num), .d (.int .i64 e129.Den)]) (k_loadLAgg (cells := e_SRatio e129) 0 [(.int .i64 e129.Num), (.int .i64 e129.Den)] (hu := Try.underlying38) (hi := ty38)) ?_
          refine oD (.ptr 5 0) (k_alloc (H' := [.box [.d (.lit (List.map e_SPoint f0))], .box [.d (.lit (List.map e_SPoint g0))], .box [.nilc], .box [.d (.int .i64 x65)], .sl 4 (List.map e_SPoint xs18) false, .box [.d (.int .i64 0), .d (.int .i64 0)]]) ty38) ?_
          refine oD (.undef) (k_store (vs := [.d (.int .i64 e129.Num), .d (.int .i64 e129.Den)]) (H' := [.box [.d (.lit (List.map e_SPoint f0))], .box [.d (.lit (List.map e_SPoint g0))], .box [.nilc], .box [.d (.int .i64 x65)], .sl 4 (List.map e_SPoint xs18) false, .box [.d (.int .i64 e129.Num), .d (.int .i64 e129.Den)]]) 5 0 (hi := ty38)) ?_
          refine oEnd ?_
          refine oSR rfl ?_
          refine oP (.ptr 0 0) (k_fieldAddr 0 0 (hu := Try.underlying32) (hf := rfl) (hi := ty30)) ?_
          refine oQ (.d (.lit (List.map e_SPoint f0))) (k_load 0 0 (hu := Try.underlying30)) ?_
          refine oQ (.agg [.d (.int .i64 e129.Num), .d (.int .i64 e129.Den)]) (k_loadAgg 5 0 (hu := Try.underlying38) (hi := ty38)) ?_
          refine bCall (caps := []) (v := (uc fun (r1634 : Int) => (uc fun (r1734 : Int) => (fun (x334 : Int) => (.agg [.d (.int .i64 r1634), .d (.int .i64 r1734)] : V))))) (H' := (uc fun (r1634 : Int) => (uc fun (r1734 : Int) => (fun (x334 : Int) => ([.box [.d (.lit (List.map e_SPoint f0))], .box [.d (.lit (List.map e_SPoint g0))], .box [.nilc], .box [.d (.int .i64 x334)], .sl 4 (List.map e_SPoint xs18) false, .box [.d (.int .i64 e129.Num), .d (.int .i64 e129.Den)]] : List Blk))))) [3] _ (conversion_calc_eval_goes k f0 e129.Num e129.Den x65) (ho := rfl) (hfn := Try.func40) (hb := rfl) (hconv := ConvRs.refl _ _) (hnd := by decide) (hBl := fun _ => (by kernel_rfl)) (hv := fun _ => (by kernel_rfl)) (hH' := fun _ => (by kernel_rfl)) (h := fun r => ?_)
          obtain ⟨r1634, r1734, x334⟩ := r
          refine bUc ?_
          refine bUc ?_
          refine oD (.ptr 6 0) (k_alloc (H' := [.box [.d (.lit (List.map e_SPoint f0))], .box [.d (.lit (List.map e_SPoint g0))], .box [.nilc], .box [.d (.int .i64 x334)], .sl 4 (List.map e_SPoint xs18) false, .box [.d (.int .i64 e129.Num), .d (.int .i64 e129.Den)], .box [.d (.int .i64 0), .d (.int .i64 0)]]) ty38) ?_
          refine oD (.undef) (k_store (vs := [.d (.int .i64 r1634), .d (.int .i64 r1734)]) (H' := [.box [.d (.lit (List.map e_SPoint f0))], .box [.d (.lit (List.map e_SPoint g0))], .box [.nilc], .box [.d (.int .i64 x334)], .sl 4 (List.map e_SPoint xs18) false, .box [.d (.int .i64 e129.Num), .d (.int .i64 e129.Den)], .box [.d (.int .i64 r1634), .d (.int .i64 r1734)]]) 6 0 (hi := ty38)) ?_
          refine oEnd ?_
          refine oSeq ?_
          refine oSR rfl ?_
          refine oP (.ptr 3 0) (k_fieldAddr 3 0 (hu := Try.underlying69) (hf := rfl) (hi := ty33)) ?_
          refine oQ (.d (.int .i64 x334)) (k_load 3 0 (hu := Try.underlying33)) ?_
          refine oP (.d (.bool (x334 == 0))) (p_int (k := .i64) (p := x334) (q := 0)) ?_
          refine oEnd ?_
          refine bJoin ((uc fun (x77 : Int) => (uc fun (x78 : Int) => (fun (x79 : Int) => [(2, .ptr 0 0), (3, .ptr 1 0), (4, .ptr 2 0), (6, .ptr 3 0), (13, .ref 4 (List.length xs18) 0 (List.length xs18)), (15, .ptr 5 0), (16, .ptr 6 0), (66, .d (.lit (List.map e_SRatio r113))), (67, .d (.int .i64 ((List.length r113) : Int))), (68, .d (.int .i64 x64))])))) ((uc fun (x77 : Int) => (uc fun (x78 : Int) => (fun (x79 : Int) => [.box [.d (.lit (List.map e_SPoint f0))], .box [.d (.lit (List.map e_SPoint g0))], .box [.nilc], .box [.d (.int .i64 x77)], .sl 4 (List.map e_SPoint xs18) false, .box [.d (.int .i64 e129.Num), .d (.int .i64 e129.Den)], .box [.d (.int .i64 x78), .d (.int .i64 x79)]])))) (fun s => s) (fun s => ?_) (fun hj20 => ?_)
          ·obtain ⟨x77, x78, x79⟩ := s
           refine bUc ?_
           refine bUc ?_
           refine oView (T' := [(2, .ptr 0 0), (3, .ptr 1 0), (4, .ptr 2 0), (6, .ptr 3 0), (13, .ref 4 (List.length xs18) 0 (List.length xs18)), (15, .ptr 5 0), (16, .ptr 6 0), (66, .d (.lit (List.map e_SRatio r113))), (67, .d (.int .i64 ((List.length r113) : Int))), (68, .d (.int .i64 x64))]) (H' := [.box [.d (.lit (List.map e_SPoint f0))], .box [.d (.lit (List.map e_SPoint g0))], .box [.nilc], .box [.d (.int .i64 x77)], .sl 4 (List.map e_SPoint xs18) false, .box [.d (.int .i64 e129.Num), .d (.int .i64 e129.Den)], .box [.d (.int .i64 x78), .d (.int .i64 x79)]]) (h := ?_)
           refine oSeq ?_
           refine oSR rfl ?_
           refine oP (.ptr 3 0) (k_fieldAddr 3 0 (hu := Try.underlying69) (hf := rfl) (hi := ty33)) ?_
           refine oQ (.d (.int .i64 x77)) (k_load 3 0 (hu := Try.underlying33)) ?_
           refine oP (.d (.bool (x77 != 0))) (p_int (k := .i64) (p := x77) (q := 0)) ?_
           refine oEnd ?_
           refine bSplit 85 (h1 := fun hc => ?_) (h2 := fun hc => ?_)
           ·refine oCondT (h := ?_)
            refine oSeq ?_
            refine oDraw [(0, 5), (1, 5), (2, 3), (3, 5), (4, 5), (5, 5), (6, 5)] rfl ?_
            refine aP 0 (.agg [.nilc]) rfl (p_build bld32) ?_
            refine aP 1 (.ptr 3 0) rfl (k_fieldAddr 3 0 (hu := Try.underlying69) (hf := rfl) (hi := ty33)) ?_
            refine aQ 2 [3] (.d (.int .i64 x77)) rfl (k_load 3 0 (hu := Try.underlying33)) ?_
            refine aOne (i := 3) (v := .undef) rfl (hac := Does.acts (k_store (vs := [.nilc]) (H' := [.box [.d (.lit (List.map e_SPoint f0))], .box [.d (.lit (List.map e_SPoint g0))], .box [.nilc], .box [.d (.int .i64 x77)], .sl 4 (List.map e_SPoint xs18) false, .box [.d (.int .i64 e129.Num), .d (.int .i64 e129.Den)], .box [.d (.int .i64 x78), .d (.int .i64 x79)]]) 2 0 (hi := ty32))) (h := ?_)
            refine aP 4 (.d (.int .i64 x77)) rfl p_assign ?_
            refine aDone (h := ?_)
            refine oConvB 2 (cells := [.nilc]) (cells' := [.d (.lit (List.map e_SPoint []))]) (hc := .cons _ _ _ _ .nil .nil) (h := ?_)
            refine oView (H' := [.box [.d (.lit (List.map e_SPoint f0))], .box [.d (.lit (List.map e_SPoint g0))], .box [.d (.lit (List.map e_SPoint []))], .box [.d (.int .i64 x77)], .sl 4 (List.map e_SPoint xs18) false, .box [.d (.int .i64 e129.Num), .d (.int .i64 e129.Den)], .box [.d (.int .i64 x78), .d (.int .i64 x79)]]) rfl (h := ?_)
            exact oRet (r0 := ([], x77)) (rv := .tuple [.agg [.d (.lit (List.map e_SPoint []))], .d (.int .i64 x77)]) (B := []) (vs := [.agg [.d (.lit (List.map e_SPoint []))], .d (.int .i64 x77)]) (σ := []) (hf := Try.func56) (hrs := rfl) (hres := .cons _ _ _ _ (.agg 4 32 2 0 [.d (.lit (List.map e_SPoint []))] [.d (.lit (List.map e_SPoint []))] _ _ _ _ (by kernel_rfl) (by kernel_rfl) Try.underlying32 (by kernel_rfl) ty32 (by kernel_rfl) (by kernel_rfl)) (.cons _ _ _ _ (.tmp 5 _ (by kernel_rfl)) .nil)) (hnd := by decide)
           ·refine oCondF (h := ?_)
            refine oSkip ?_
            refine oRegion rfl ?_
            refine oP (.ref 4 (List.length xs18) 0 (List.length xs18)) p_move ?_
            refine oQ (.agg [.d (.int .i64 e129.Num), .d (.int .i64 e129.Den)]) (k_loadAgg 5 0 (hu := Try.underlying38) (hi := ty38)) ?_
            refine oQ (.agg [.d (.int .i64 x78), .d (.int .i64 x79)]) (k_loadAgg 6 0 (hu := Try.underlying38) (hi := ty38)) ?_
            refine oP (.agg [.d (.int .i64 e129.Num), .d (.int .i64 e129.Den), .d (.int .i64 x78), .d (.int .i64 x79)]) (p_build bld60) ?_
            refine oD (.ref 7 (List.length ([(⟨e129.Num, e129.Den, x78, x79⟩ : SPoint)] : List SPoint)) 0 (List.length ([(⟨e129.Num, e129.Den, x78, x79⟩ : SPoint)] : List SPoint))) (k_buildSlice (H' := [.box [.d (.lit (List.map e_SPoint f0))], .box [.d (.lit (List.map e_SPoint g0))], .box [.nilc], .box [.d (.int .i64 x77)], .sl 4 (List.map e_SPoint xs18) false, .box [.d (.int .i64 e129.Num), .d (.int .i64 e129.Den)], .box [.d (.int .i64 x78), .d (.int .i64 x79)], .sl 4 (List.map e_SPoint ([(⟨e129.Num, e129.Den, x78, x79⟩ : SPoint)] : List SPoint)) false]) (List.map e_SPoint ([(⟨e129.Num, e129.Den, x78, x79⟩ : SPoint)] : List SPoint)) Try.underlying30 ty60) ?_
            refine bCap (fun h189 => ?_)
            refine oD (.ref 4 (List.length (xs18 ++ ([(⟨e129.Num, e129.Den, x78, x79⟩ : SPoint)] : List SPoint))) 0 (List.length (xs18 ++ ([(⟨e129.Num, e129.Den, x78, x79⟩ : SPoint)] : List SPoint)))) (k_append (H' := [.box [.d (.lit (List.map e_SPoint f0))], .box [.d (.lit (List.map e_SPoint g0))], .box [.nilc], .box [.d (.int .i64 x77)], .sl 4 (List.map e_SPoint (xs18 ++ ([(⟨e129.Num, e129.Den, x78, x79⟩ : SPoint)] : List SPoint))) false, .box [.d (.int .i64 e129.Num), .d (.int .i64 e129.Den)], .box [.d (.int .i64 x78), .d (.int .i64 x79)], .sl 4 (List.map e_SPoint ([(⟨e129.Num, e129.Den, x78, x79⟩ : SPoint)] : List SPoint)) false]) (enc := e_SPoint) 4 xs18 ([(⟨e129.Num, e129.Den, x78, x79⟩ : SPoint)] : List SPoint) Try.underlying30 Try.underlying30 ty60 (hy := (holdsRef (enc := e_SPoint) 7 ([(⟨e129.Num, e129.Den, x78, x79⟩ : SPoint)] : List SPoint) false)) (hfit := h189)) ?_
            refine oP (.ref 4 (List.length (xs18 ++ ([(⟨e129.Num, e129.Den, x78, x79⟩ : SPoint)] : List SPoint))) 0 (List.length (xs18 ++ ([(⟨e129.Num, e129.Den, x78, x79⟩ : SPoint)] : List SPoint)))) p_assign ?_
            refine oEnd ?_
            refine oBlk ?_
            refine oRegion rfl ?_
            refine oP (.d (.int .i64 (IntKind.wrap .i64 (x64 + 1)))) (p_int (k := .i64) (p := x64) (q := 1)) ?_
            refine oP (.d (.int .i64 (IntKind.wrap .i64 (x64 + 1)))) p_move ?_
            refine oEnd ?_
            refine oAgain ?_
            refine oHead [2, 3, 4, 6, 13, 66, 67, 68] [0, 1, 2, 3, 4] (T' := [(2, .ptr 0 0), (3, .ptr 1 0), (4, .ptr 2 0), (6, .ptr 3 0), (13, .ref 4 (List.length (xs18 ++ ([(⟨e129.Num, e129.Den, x78, x79⟩ : SPoint)] : List SPoint))) 0 (List.length (xs18 ++ ([(⟨e129.Num, e129.Den, x78, x79⟩ : SPoint)] : List SPoint)))), (66, .d (.lit (List.map e_SRatio r113))), (67, .d (.int .i64 ((List.length r113) : Int))), (68, .d (.int .i64 (IntKind.wrap .i64 (x64 + 1))))]) (H' := [.box [.d (.lit (List.map e_SPoint f0))], .box [.d (.lit (List.map e_SPoint g0))], .box [.nilc], .box [.d (.int .i64 x77)], .sl 4 (List.map e_SPoint (xs18 ++ ([(⟨e129.Num, e129.Den, x78, x79⟩ : SPoint)] : List SPoint))) false]) (hnd := by decide) (h := ?_)
            exact hag1 ((IntKind.wrap .i64 (x64 + 1)), x77, (xs18 ++ ([(⟨e129.Num, e129.Den, x78, x79⟩ : SPoint)] : List SPoint)))
          ·refine bSplit 78 (h1 := fun hc => ?_) (h2 := fun hc => ?_)
           ·refine oCondT (h := ?_)
            refine oRegion rfl ?_
            refine oP (.ptr 1 0) (k_fieldAddr 1 0 (hu := Try.underlying32) (hf := rfl) (hi := ty30)) ?_
            refine oQ (.d (.lit (List.map e_SPoint g0))) (k_load 1 0 (hu := Try.underlying30)) ?_
            refine oQ (.agg [.d (.int .i64 r1634), .d (.int .i64 r1734)]) (k_loadAgg 6 0 (hu := Try.underlying38) (hi := ty38)) ?_
            refine bCall (caps := []) (v := (uc fun (r1636 : Int) => (uc fun (r1736 : Int) => (fun (x336 : Int) => (.agg [.d (.int .i64 r1636), .d (.int .i64 r1736)] : V))))) (H' := (uc fun (r1636 : Int) => (uc fun (r1736 : Int) => (fun (x336 : Int) => ([.box [.d (.lit (List.map e_SPoint f0))], .box [.d (.lit (List.map e_SPoint g0))], .box [.nilc], .box [.d (.int .i64 x336)], .sl 4 (List.map e_SPoint xs18) false, .box [.d (.int .i64 e129.Num), .d (.int .i64 e129.Den)], .box [.d (.int .i64 r1634), .d (.int .i64 r1734)]] : List Blk))))) [3] _ (conversion_calc_eval_goes k g0 r1634 r1734 x334) (ho := rfl) (hfn := Try.func40) (hb := rfl) (hconv := ConvRs.refl _ _) (hnd := by decide) (hBl := fun _ => (by kernel_rfl)) (hv := fun _ => (by kernel_rfl)) (hH' := fun _ => (by kernel_rfl)) (h := fun r => ?_)
            obtain ⟨r1636, r1736, x336⟩ := r
            refine bUc ?_
            refine bUc ?_
            refine oD (.undef) (k_store (vs := [.d (.int .i64 r1636), .d (.int .i64 r1736)]) (H' := [.box [.d (.lit (List.map e_SPoint f0))], .box [.d (.lit (List.map e_SPoint g0))], .box [.nilc], .box [.d (.int .i64 x336)], .sl 4 (List.map e_SPoint xs18) false, .box [.d (.int .i64 e129.Num), .d (.int .i64 e129.Den)], .box [.d (.int .i64 r1636), .d (.int .i64 r1736)]]) 6 0 (hi := ty38)) ?_
            refine oEnd ?_
            refine oHead [2, 3, 4, 6, 13, 15, 16, 66, 67, 68] [0, 1, 2, 3, 4, 5, 6] (T' := [(2, .ptr 0 0), (3, .ptr 1 0), (4, .ptr 2 0), (6, .ptr 3 0), (13, .ref 4 (List.length xs18) 0 (List.length xs18)), (15, .ptr 5 0), (16, .ptr 6 0), (66, .d (.lit (List.map e_SRatio r113))), (67, .d (.int .i64 ((List.length r113) : Int))), (68, .d (.int .i64 x64))]) (H' := [.box [.d (.lit (List.map e_SPoint f0))], .box [.d (.lit (List.map e_SPoint g0))], .box [.nilc], .box [.d (.int .i64 x336)], .sl 4 (List.map e_SPoint xs18) false, .box [.d (.int .i64 e129.Num), .d (.int .i64 e129.Den)], .box [.d (.int .i64 r1636), .d (.int .i64 r1736)]]) (hnd := by decide) (h := ?_)
            exact hj20 (x336, r1636, r1736)
           ·refine oCondF (h := ?_)
            refine oSkip ?_
            refine oHead [2, 3, 4, 6, 13, 15, 16, 66, 67, 68] [0, 1, 2, 3, 4, 5, 6] (T' := [(2, .ptr 0 0), (3, .ptr 1 0), (4, .ptr 2 0), (6, .ptr 3 0), (13, .ref 4 (List.length xs18) 0 (List.length xs18)), (15, .ptr 5 0), (16, .ptr 6 0), (66, .d (.lit (List.map e_SRatio r113))), (67, .d (.int .i64 ((List.length r113) : Int))), (68, .d (.int .i64 x64))]) (H' := [.box [.d (.lit (List.map e_SPoint f0))], .box [.d (.lit (List.map e_SPoint g0))], .box [.nilc], .box [.d (.int .i64 x334)], .sl 4 (List.map e_SPoint xs18) false, .box [.d (.int .i64 e129.Num), .d (.int .i64 e129.Den)], .box [.d (.int .i64 r1634), .d (.int .i64 r1734)]]) (hnd := by decide) (h := ?_)
            exact hj20 (x334, r1634, r1734)
         ·refine oCondF (h := ?_)
          refine oExit rfl ?_
          refine oHead [4, 13] [2, 4] (T' := [(4, .ptr 0 0), (13, .ref 1 (List.length xs18) 0 (List.length xs18))]) (H' := [.box [.nilc], .sl 4 (List.map e_SPoint xs18) false]) (hnd := by decide) (h := ?_)
          exact hj14 xs18
     ·refine oBlock ?_
      refine oLoop ?_
      refine oHead [2, 3, 4, 6, 7, 8, 43, 44, 45] [0, 1, 2, 3, 4] (T' := [(2, .ptr 0 0), (3, .ptr 1 0), (4, .ptr 2 0), (6, .ptr 3 0), (7, .ref 4 (List.length xs11) 0 (List.length xs11)), (8, .d (.lit (List.map e_SPoint r112))), (43, .d (.lit (List.map e_SPoint g0))), (44, .d (.int .i64 ((List.length g0) : Int))), (45, .d (.int .i64 0))]) (H' := [.box [.d (.lit (List.map e_SPoint f0))], .box [.d (.lit (List.map e_SPoint g0))], .box [.nilc], .box [.d (.int .i64 0)], .sl 2 (List.map e_SRatio xs11) false]) (hnd := by decide) (h := ?_)
      refine bLoop (body := conversion_Compose_b2 k g0 r112) ((uc fun (x80 : Int) => (uc fun (x81 : Int) => (fun (xs20 : (List SRatio)) => [(2, .ptr 0 0), (3, .ptr 1 0), (4, .ptr 2 0), (6, .ptr 3 0), (7, .ref 4 (List.length xs20) 0 (List.length xs20)), (8, .d (.lit (List.map e_SPoint r112))), (43, .d (.lit (List.map e_SPoint g0))), (44, .d (.int .i64 ((List.length g0) : Int))), (45, .d (.int .i64 x80))])))) ((uc fun (x80 : Int) => (uc fun (x81 : Int) => (fun (xs20 : (List SRatio)) => [.box [.d (.lit (List.map e_SPoint f0))], .box [.d (.lit (List.map e_SPoint g0))], .box [.nilc], .box [.d (.int .i64 x81)], .sl 2 (List.map e_SRatio xs20) false])))) (fun again hag2 s => ?_) k (0, 0, xs11)
      ·unfold conversion_Compose_b2
       obtain ⟨x80, x81, xs20⟩ := s
       refine bUc ?_
       refine bUc ?_
       refine oView (T' := [(2, .ptr 0 0), (3, .ptr 1 0), (4, .ptr 2 0), (6, .ptr 3 0), (7, .ref 4 (List.length xs20) 0 (List.length xs20)), (8, .d (.lit (List.map e_SPoint r112))), (43, .d (.lit (List.map e_SPoint g0))), (44, .d (.int .i64 ((List.length g0) : Int))), (45, .d (.int .i64 x80))]) (H' := [.box [.d (.lit (List.map e_SPoint f0))], .box [.d (.lit (List.map e_SPoint g0))], .box [.nilc], .box [.d (.int .i64 x81)], .sl 2 (List.map e_SRatio xs20) false]) (h := ?_)
       refine oSR rfl ?_
       refine oP (.d (.bool (decide (x80 < ((List.length g0) : Int))))) (p_int (k := .i64) (p := x80) (q := ((List.length g0) : Int))) ?_
       refine oEnd ?_
       refine oSeq ?_
       refine bSplit 46 (h1 := fun hc => ?_) (h2 := fun hc => ?_)
       ·refine oCondT (h := ?_)
        refine oSkip ?_
        refine oSeq ?_
        refine oBlock ?_
        refine oSR rfl ?_
        refine bIdx (fun e135 h1105 h1106 => ?_)
        refine oP (.lptr (e_SPoint e135) 0) (k_idxLit e_SPoint_len g0 (a := e135) (k := .i64) (i := x80) (hu := Try.underlying30) (hi := ty60) (h0 := h1105) (he := h1106)) ?_
        refine oQ (.agg [.d (.int .i64 e135.X_Num), .d (.int .i64 e135.X_Den), .d (.int .i64 e135.Y_Num), .d (.int .i64 e135.Y_Den)]) (k_loadLAgg (cells := e_SPoint e135) 0 [(.int .i64 e135.X_Num), (.int .i64 e135.X_Den), (.int .i64 e135.Y_Num), (.int .i64 e135.Y_Den)] (hu := Try.underlying60) (hi := ty60)) ?_
        refine oD (.ptr 5 0) (k_alloc (H' := [.box [.d (.lit (List.map e_SPoint f0))], .box [.d (.lit (List.map e_SPoint g0))], .box [.nilc], .box [.d (.int .i64 x81)], .sl 2 (List.map e_SRatio xs20) false, .box [.d (.int .i64 0), .d (.int .i64 0), .d (.int .i64 0), .d (.int .i64 0)]]) ty60) ?_
        refine oD (.undef) (k_store (vs := [.d (.int .i64 e135.X_Num), .d (.int .i64 e135.X_Den), .d (.int .i64 e135.Y_Num), .d (.int .i64 e135.Y_Den)]) (H' := [.box [.d (.lit (List.map e_SPoint f0))], .box [.d (.lit (List.map e_SPoint g0))], .box [.nilc], .box [.d (.int .i64 x81)], .sl 2 (List.map e_SRatio xs20) false, .box [.d (.int .i64 e135.X_Num), .d (.int .i64 e135.X_Den), .d (.int .i64 e135.Y_Num), .d (.int .i64 e135.Y_Den)]]) 5 0 (hi := ty60)) ?_
        refine oEnd ?_
        refine oRegion rfl ?_
        refine oP (.ref 4 (List.length xs20) 0 (List.length xs20)) p_move ?_
        refine oP (.d (.lit (List.map e_SPoint r112))) p_move ?_
        refine oP (.ptr 5 0) (k_fieldAddr 5 0 (hu := Try.underlying60) (hf := rfl) (hi := ty38)) ?_
        refine oQ (.agg [.d (.int .i64 e135.X_Num), .d (.int .i64 e135.X_Den)]) (k_loadAgg 5 0 (hu := Try.underlying38) (hi := ty38)) ?_
        refine bCall (caps := []) (v := (uc fun (r1642 : Int) => (uc fun (r1742 : Int) => (fun (x342 : Int) => (.agg [.d (.int .i64 r1642), .d (.int .i64 r1742)] : V))))) (H' := (uc fun (r1642 : Int) => (uc fun (r1742 : Int) => (fun (x342 : Int) => ([.box [.d (.lit (List.map e_SPoint f0))], .box [.d (.lit (List.map e_SPoint g0))], .box [.nilc], .box [.d (.int .i64 x342)], .sl 2 (List.map e_SRatio xs20) false, .box [.d (.int .i64 e135.X_Num), .d (.int .i64 e135.X_Den), .d (.int .i64 e135.Y_Num), .d (.int .i64 e135.Y_Den)]] : List Blk))))) [3] _ (conversion_calc_eval_goes k r112 e135.X_Num e135.X_Den x81) (ho := rfl) (hfn := Try.func40) (hb := rfl) (hconv := ConvRs.refl _ _) (hnd := by decide) (hBl := fun _ => (by kernel_rfl)) (hv := fun _ => (by kernel_rfl)) (hH' := fun _ => (by kernel_rfl)) (h := fun r => ?_)
        obtain ⟨r1642, r1742, x342⟩ := r
        refine bUc ?_
        refine bUc ?_
        refine oD (.ref 6 (List.length ([(⟨r1642, r1742⟩ : SRatio)] : List SRatio)) 0 (List.length ([(⟨r1642, r1742⟩ : SRatio)] : List SRatio))) (k_buildSlice (H' := [.box [.d (.lit (List.map e_SPoint f0))], .box [.d (.lit (List.map e_SPoint g0))], .box [.nilc], .box [.d (.int .i64 x342)], .sl 2 (List.map e_SRatio xs20) false, .box [.d (.int .i64 e135.X_Num), .d (.int .i64 e135.X_Den), .d (.int .i64 e135.Y_Num), .d (.int .i64 e135.Y_Den)], .sl 2 (List.map e_SRatio ([(⟨r1642, r1742⟩ : SRatio)] : List SRatio)) false]) (List.map e_SRatio ([(⟨r1642, r1742⟩ : SRatio)] : List SRatio)) Try.underlying99 ty38) ?_
        refine bCap (fun h1107 => ?_)
        refine oD (.ref 4 (List.length (xs20 ++ ([(⟨r1642, r1742⟩ : SRatio)] : List SRatio))) 0 (List.length (xs20 ++ ([(⟨r1642, r1742⟩ : SRatio)] : List SRatio)))) (k_append (H' := [.box [.d (.lit (List.map e_SPoint f0))], .box [.d (.lit (List.map e_SPoint g0))], .box [.nilc], .box [.d (.int .i64 x342)], .sl 2 (List.map e_SRatio (xs20 ++ ([(⟨r1642, r1742⟩ : SRatio)] : List SRatio))) false, .box [.d (.int .i64 e135.X_Num), .d (.int .i64 e135.X_Den), .d (.int .i64 e135.Y_Num), .d (.int .i64 e135.Y_Den)], .sl 2 (List.map e_SRatio ([(⟨r1642, r1742⟩ : SRatio)] : List SRatio)) false]) (enc := e_SRatio) 4 xs20 ([(⟨r1642, r1742⟩ : SRatio)] : List SRatio) Try.underlying99 Try.underlying99 ty38 (hy := (holdsRef (enc := e_SRatio) 6 ([(⟨r1642, r1742⟩ : SRatio)] : List SRatio) false)) (hfit := h1107)) ?_
        refine oP (.ref 4 (List.length (xs20 ++ ([(⟨r1642, r1742⟩ : SRatio)] : List SRatio))) 0 (List.length (xs20 ++ ([(⟨r1642, r1742⟩ : SRatio)] : List SRatio)))) p_assign ?_
        refine oEnd ?_
        refine oBlk ?_
        refine oRegion rfl ?_
        refine oP (.d (.int .i64 (IntKind.wrap .i64 (x80 + 1)))) (p_int (k := .i64) (p := x80) (q := 1)) ?_
        refine oP (.d (.int .i64 (IntKind.wrap .i64 (x80 + 1)))) p_move ?_
        refine oEnd ?_
        refine oAgain ?_
        refine oHead [2, 3, 4, 6, 7, 8, 43, 44, 45] [0, 1, 2, 3, 4] (T' := [(2, .ptr 0 0), (3, .ptr 1 0), (4, .ptr 2 0), (6, .ptr 3 0), (7, .ref 4 (List.length (xs20 ++ ([(⟨r1642, r1742⟩ : SRatio)] : List SRatio))) 0 (List.length (xs20 ++ ([(⟨r1642, r1742⟩ : SRatio)] : List SRatio)))), (8, .d (.lit (List.map e_SPoint r112))), (43, .d (.lit (List.map e_SPoint g0))), (44, .d (.int .i64 ((List.length g0) : Int))), (45, .d (.int .i64 (IntKind.wrap .i64 (x80 + 1))))]) (H' := [.box [.d (.lit (List.map e_SPoint f0))], .box [.d (.lit (List.map e_SPoint g0))], .box [.nilc], .box [.d (.int .i64 x342)], .sl 2 (List.map e_SRatio (xs20 ++ ([(⟨r1642, r1742⟩ : SRatio)] : List SRatio))) false]) (hnd := by decide) (h := ?_)
        exact hag2 ((IntKind.wrap .i64 (x80 + 1)), x342, (xs20 ++ ([(⟨r1642, r1742⟩ : SRatio)] : List SRatio)))
       ·refine oCondF (h := ?_)
        refine oExit rfl ?_
        refine oHead [2, 3, 4, 6, 7] [0, 1, 2, 3, 4] (T' := [(2, .ptr 0 0), (3, .ptr 1 0), (4, .ptr 2 0), (6, .ptr 3 0), (7, .ref 4 (List.length xs20) 0 (List.length xs20))]) (H' := [.box [.d (.lit (List.map e_SPoint f0))], .box [.d (.lit (List.map e_SPoint g0))], .box [.nilc], .box [.d (.int .i64 x81)], .sl 2 (List.map e_SRatio xs20) false]) (hnd := by decide) (h := ?_)
        exact hj9 (x81, xs20)
    ·refine oBlock ?_
     refine oLoop ?_
     refine oVirt (esz := 2) 7 (h := ?_)
     refine oView (H' := [.box [.d (.lit (List.map e_SPoint f0))], .box [.d (.lit (List.map e_SPoint g0))], .box [.nilc], .box [.d (.int .i64 0)], .sl 2 (List.map e_SRatio ([] : List SRatio)) false]) rfl (h := ?_)
     refine oHead [2, 3, 4, 6, 7, 8, 30, 31, 32] [0, 1, 2, 3, 4] (T' := [(2, .ptr 0 0), (3, .ptr 1 0), (4, .ptr 2 0), (6, .ptr 3 0), (7, .ref 4 (List.length ([] : List SRatio)) 0 (List.length ([] : List SRatio))), (8, .d (.lit (List.map e_SPoint r112))), (30, .d (.lit (List.map e_SPoint f0))), (31, .d (.int .i64 ((List.length f0) : Int))), (32, .d (.int .i64 0))]) (H' := [.box [.d (.lit (List.map e_SPoint f0))], .box [.d (.lit (List.map e_SPoint g0))], .box [.nilc], .box [.d (.int .i64 0)], .sl 2 (List.map e_SRatio ([] : List SRatio)) false]) (hnd := by decide) (h := ?_)
     refine bLoop (body := conversion_Compose_b3 k f0) ((uc fun (x84 : Int) => (fun (xs24 : (List SRatio)) => [(2, .ptr 0 0), (3, .ptr 1 0), (4, .ptr 2 0), (6, .ptr 3 0), (7, .ref 4 (List.length xs24) 0 (List.length xs24)), (8, .d (.lit (List.map e_SPoint r112))), (30, .d (.lit (List.map e_SPoint f0))), (31, .d (.int .i64 ((List.length f0) : Int))), (32, .d (.int .i64 x84))]))) ((uc fun (x84 : Int) => (fun (xs24 : (List SRatio)) => [.box [.d (.lit (List.map e_SPoint f0))], .box [.d (.lit (List.map e_SPoint g0))], .box [.nilc], .box [.d (.int .i64 0)], .sl 2 (List.map e_SRatio xs24) false]))) (fun again hag3 s => ?_) k (0, ([] : List SRatio))
     ·unfold conversion_Compose_b3
      obtain ⟨x84, xs24⟩ := s
      refine bUc ?_
      refine oView (T' := [(2, .ptr 0 0), (3, .ptr 1 0), (4, .ptr 2 0), (6, .ptr 3 0), (7, .ref 4 (List.length xs24) 0 (List.length xs24)), (8, .d (.lit (List.map e_SPoint r112))), (30, .d (.lit (List.map e_SPoint f0))), (31, .d (.int .i64 ((List.length f0) : Int))), (32, .d (.int .i64 x84))]) (H' := [.box [.d (.lit (List.map e_SPoint f0))], .box [.d (.lit (List.map e_SPoint g0))], .box [.nilc], .box [.d (.int .i64 0)], .sl 2 (List.map e_SRatio xs24) false]) (h := ?_)
      refine oSR rfl ?_
      refine oP (.d (.bool (decide (x84 < ((List.length f0) : Int))))) (p_int (k := .i64) (p := x84) (q := ((List.length f0) : Int))) ?_
      refine oEnd ?_
      refine oSeq ?_
      refine bSplit 33 (h1 := fun hc => ?_) (h2 := fun hc => ?_)
      ·refine oCondT (h := ?_)
       refine oSkip ?_
       refine oSeq ?_
       refine oBlock ?_
       refine oSR rfl ?_
       refine bIdx (fun e141 h1123 h1124 => ?_)
       refine oP (.lptr (e_SPoint e141) 0) (k_idxLit e_SPoint_len f0 (a := e141) (k := .i64) (i := x84) (hu := Try.underlying30) (hi := ty60) (h0 := h1123) (he := h1124)) ?_
       refine oQ (.agg [.d (.int .i64 e141.X_Num), .d (.int .i64 e141.X_Den), .d (.int .i64 e141.Y_Num), .d (.int .i64 e141.Y_Den)]) (k_loadLAgg (cells := e_SPoint e141) 0 [(.int .i64 e141.X_Num), (.int .i64 e141.X_Den), (.int .i64 e141.Y_Num), (.int .i64 e141.Y_Den)] (hu := Try.underlying60) (hi := ty60)) ?_
       refine oD (.ptr 5 0) (k_alloc (H' := [.box [.d (.lit (List.map e_SPoint f0))], .box [.d (.lit (List.map e_SPoint g0))], .box [.nilc], .box [.d (.int .i64 0)], .sl 2 (List.map e_SRatio xs24) false, .box [.d (.int .i64 0), .d (.int .i64 0), .d (.int .i64 0), .d (.int .i64 0)]]) ty60) ?_
       refine oD (.undef) (k_store (vs := [.d (.int .i64 e141.X_Num), .d (.int .i64 e141.X_Den), .d (.int .i64 e141.Y_Num), .d (.int .i64 e141.Y_Den)]) (H' := [.box [.d (.lit (List.map e_SPoint f0))], .box [.d (.lit (List.map e_SPoint g0))], .box [.nilc], .box [.d (.int .i64 0)], .sl 2 (List.map e_SRatio xs24) false, .box [.d (.int .i64 e141.X_Num), .d (.int .i64 e141.X_Den), .d (.int .i64 e141.Y_Num), .d (.int .i64 e141.Y_Den)]]) 5 0 (hi := ty60)) ?_
       refine oEnd ?_
       refine oRegion rfl ?_
       refine oP (.ref 4 (List.length xs24) 0 (List.length xs24)) p_move ?_
       refine oP (.ptr 5 0) (k_fieldAddr 5 0 (hu := Try.underlying60) (hf := rfl) (hi := ty38)) ?_
       refine oQ (.agg [.d (.int .i64 e141.X_Num), .d (.int .i64 e141.X_Den)]) (k_loadAgg 5 0 (hu := Try.underlying38) (hi := ty38)) ?_
       refine oD (.ref 6 (List.length ([(⟨e141.X_Num, e141.X_Den⟩ : SRatio)] : List SRatio)) 0 (List.length ([(⟨e141.X_Num, e141.X_Den⟩ : SRatio)] : List SRatio))) (k_buildSlice (H' := [.box [.d (.lit (List.map e_SPoint f0))], .box [.d (.lit (List.map e_SPoint g0))], .box [.nilc], .box [.d (.int .i64 0)], .sl 2 (List.map e_SRatio xs24) false, .box [.d (.int .i64 e141.X_Num), .d (.int .i64 e141.X_Den), .d (.int .i64 e141.Y_Num), .d (.int .i64 e141.Y_Den)], .sl 2 (List.map e_SRatio ([(⟨e141.X_Num, e141.X_Den⟩ : SRatio)] : List SRatio)) false]) (List.map e_SRatio ([(⟨e141.X_Num, e141.X_Den⟩ : SRatio)] : List SRatio)) Try.underlying99 ty38) ?_
       refine bCap (fun h1125 => ?_)
       refine oD (.ref 4 (List.length (xs24 ++ ([(⟨e141.X_Num, e141.X_Den⟩ : SRatio)] : List SRatio))) 0 (List.length (xs24 ++ ([(⟨e141.X_Num, e141.X_Den⟩ : SRatio)] : List SRatio)))) (k_append (H' := [.box [.d (.lit (List.map e_SPoint f0))], .box [.d (.lit (List.map e_SPoint g0))], .box [.nilc], .box [.d (.int .i64 0)], .sl 2 (List.map e_SRatio (xs24 ++ ([(⟨e141.X_Num, e141.X_Den⟩ : SRatio)] : List SRatio))) false, .box [.d (.int .i64 e141.X_Num), .d (.int .i64 e141.X_Den), .d (.int .i64 e141.Y_Num), .d (.int .i64 e141.Y_Den)], .sl 2 (List.map e_SRatio ([(⟨e141.X_Num, e141.X_Den⟩ : SRatio)] : List SRatio)) false]) (enc := e_SRatio) 4 xs24 ([(⟨e141.X_Num, e141.X_Den⟩ : SRatio)] : List SRatio) Try.underlying99 Try.underlying99 ty38 (hy := (holdsRef (enc := e_SRatio) 6 ([(⟨e141.X_Num, e141.X_Den⟩ : SRatio)] : List SRatio) false)) (hfit := h1125)) ?_
       refine oP (.ref 4 (List.length (xs24 ++ ([(⟨e141.X_Num, e141.X_Den⟩ : SRatio)] : List SRatio))) 0 (List.length (xs24 ++ ([(⟨e141.X_Num, e141.X_Den⟩ : SRatio)] : List SRatio)))) p_assign ?_
       refine oEnd ?_
       refine oBlk ?_
       refine oRegion rfl ?_
       refine oP (.d (.int .i64 (IntKind.wrap .i64 (x84 + 1)))) (p_int (k := .i64) (p := x84) (q := 1)) ?_
       refine oP (.d (.int .i64 (IntKind.wrap .i64 (x84 + 1)))) p_move ?_
       refine oEnd ?_
       refine oAgain ?_
       refine oHead [2, 3, 4, 6, 7, 8, 30, 31, 32] [0, 1, 2, 3, 4] (T' := [(2, .ptr 0 0), (3, .ptr 1 0), (4, .ptr 2 0), (6, .ptr 3 0), (7, .ref 4 (List.length (xs24 ++ ([(⟨e141.X_Num, e141.X_Den⟩ : SRatio)] : List SRatio))) 0 (List.length (xs24 ++ ([(⟨e141.X_Num, e141.X_Den⟩ : SRatio)] : List SRatio)))), (8, .d (.lit (List.map e_SPoint r112))), (30, .d (.lit (List.map e_SPoint f0))), (31, .d (.int .i64 ((List.length f0) : Int))), (32, .d (.int .i64 (IntKind.wrap .i64 (x84 + 1))))]) (H' := [.box [.d (.lit (List.map e_SPoint f0))], .box [.d (.lit (List.map e_SPoint g0))], .box [.nilc], .box [.d (.int .i64 0)], .sl 2 (List.map e_SRatio (xs24 ++ ([(⟨e141.X_Num, e141.X_Den⟩ : SRatio)] : List SRatio))) false]) (hnd := by decide) (h := ?_)
       exact hag3 ((IntKind.wrap .i64 (x84 + 1)), (xs24 ++ ([(⟨e141.X_Num, e141.X_Den⟩ : SRatio)] : List SRatio)))
      ·refine oCondF (h := ?_)
       refine oExit rfl ?_
       refine oHead [2, 3, 4, 6, 7, 8] [0, 1, 2, 3, 4] (T' := [(2, .ptr 0 0), (3, .ptr 1 0), (4, .ptr 2 0), (6, .ptr 3 0), (7, .ref 4 (List.length xs24) 0 (List.length xs24)), (8, .d (.lit (List.map e_SPoint r112)))]) (H' := [.box [.d (.lit (List.map e_SPoint f0))], .box [.d (.lit (List.map e_SPoint g0))], .box [.nilc], .box [.d (.int .i64 0)], .sl 2 (List.map e_SRatio xs24) false]) (hnd := by decide) (h := ?_)
       exact hj8 xs24
  ·refine bSplit 20 (h1 := fun hc => ?_) (h2 := fun hc => ?_)
   ·refine oNot (h := ?_)
    refine oNot (h := ?_)
    refine oNot (h := ?_)
    refine oP (.d (.bool true)) (p_pick (b := true)) ?_
    refine oHead [2, 3, 4, 24] [0, 1, 2] (T' := [(2, .ptr 0 0), (3, .ptr 1 0), (4, .ptr 2 0), (24, .d (.bool true))]) (H' := [.box [.d (.lit (List.map e_SPoint f0))], .box [.d (.lit (List.map e_SPoint g0))], .box [.nilc]]) (hnd := by decide) (h := ?_)
    exact hj21 true
   ·refine oQ (.agg [.d (.lit (List.map e_SPoint g0))]) (k_loadAgg 1 0 (hu := Try.underlying32) (hi := ty32)) ?_
    refine bCall (caps := []) (v := (fun (r116 : Bool) => (.d (.bool r116) : V))) (H' := (fun (r116 : Bool) => ([.box [.d (.lit (List.map e_SPoint f0))], .box [.d (.lit (List.map e_SPoint g0))], .box [.nilc]] : List Blk))) [] _ (conversion_Valid_goes k g0) (ho := rfl) (hfn := Try.func38) (hb := rfl) (hconv := ConvRs.refl _ _) (hnd := by decide) (hBl := fun _ => (by kernel_rfl)) (hv := fun _ => (by kernel_rfl)) (hH' := fun _ => (by kernel_rfl)) (h := fun r116 => ?_)
    refine oP (.d (.bool (!r116))) (p_not (p := r116)) ?_
    refine oP (.d (.bool (!r116))) (p_pick (b := false)) ?_
    refine oHead [2, 3, 4, 24] [0, 1, 2] (T' := [(2, .ptr 0 0), (3, .ptr 1 0), (4, .ptr 2 0), (24, .d (.bool (!r116)))]) (H' := [.box [.d (.lit (List.map e_SPoint f0))], .box [.d (.lit (List.map e_SPoint g0))], .box [.nilc]]) (hnd := by decide) (h := ?_)
    exact hj21 (!r116)

/-- awardingbody/equating.Chain -/
def equating_Chain (k : Nat) (x0 : (List Int)) (a0 : (List Int)) (b0 : (List Int)) (y0 : (List Int)) (kind : Int) : Option ((List SPoint) × Int) := Option.bind (equating_Equate k kind x0 a0) (uc fun r16 => fun r132 => bif (r132 != 0) then some ([], r132) else Option.bind (equating_Equate k kind b0 y0) (uc fun r17 => fun r133 => bif (r133 != 0) then some ([], r133) else Option.bind (conversion_Compose k r16 r17) (uc fun r151 => fun r181 => some (r151, r181))))
def equating_Chain_E (x0 : (List Int)) (a0 : (List Int)) (b0 : (List Int)) (y0 : (List Int)) (kind : Int) : (List SPoint) × Int → V × List Blk := uc fun r12 => fun r14 => (.tuple [.agg [.d (.lit (List.map e_SPoint r12))], .d (.int .i64 r14)], [])
theorem equating_Chain_goes (k : Nat) (x0 : (List Int)) (a0 : (List Int)) (b0 : (List Int)) (y0 : (List Int)) (kind : Int) : RunsO Try.prog 27 [.agg [.d (.lit (List.map e_i64 x0))], .agg [.d (.lit (List.map e_i64 a0))], .agg [.d (.lit (List.map e_i64 b0))], .agg [.d (.lit (List.map e_i64 y0))], .d (.int .i64 kind)] [] (equating_Chain_E x0 a0 b0 y0 kind) (equating_Chain k x0 a0 b0 y0 kind) := by
  refine RunsO.of_goes (N := 42) (m := 0) (T := [(0, .agg [.d (.lit (List.map e_i64 x0))]), (1, .agg [.d (.lit (List.map e_i64 a0))]), (2, .agg [.d (.lit (List.map e_i64 b0))]), (3, .agg [.d (.lit (List.map e_i64 y0))]), (4, .d (.int .i64 kind))]) Try.func27 rfl rfl (h := ?_)
  unfold equating_Chain
  refine bStart ?_
  refine oSR rfl ?_
  refine oD (.ptr 0 0) (k_box (H' := [.box [.d (.lit (List.map e_i64 x0))]]) (cells := [.d (.lit (List.map e_i64 x0))])) ?_
  refine oD (.ptr 1 0) (k_box (H' := [.box [.d (.lit (List.map e_i64 x0))], .box [.d (.lit (List.map e_i64 a0))]]) (cells := [.d (.lit (List.map e_i64 a0))])) ?_
  refine oD (.ptr 2 0) (k_box (H' := [.box [.d (.lit (List.map e_i64 x0))], .box [.d (.lit (List.map e_i64 a0))], .box [.d (.lit (List.map e_i64 b0))]]) (cells := [.d (.lit (List.map e_i64 b0))])) ?_
  refine oD (.ptr 3 0) (k_box (H' := [.box [.d (.lit (List.map e_i64 x0))], .box [.d (.lit (List.map e_i64 a0))], .box [.d (.lit (List.map e_i64 b0))], .box [.d (.lit (List.map e_i64 y0))]]) (cells := [.d (.lit (List.map e_i64 y0))])) ?_
  refine oD (.ptr 4 0) (k_alloc (H' := [.box [.d (.lit (List.map e_i64 x0))], .box [.d (.lit (List.map e_i64 a0))], .box [.d (.lit (List.map e_i64 b0))], .box [.d (.lit (List.map e_i64 y0))], .box [.nilc]]) ty32) ?_
  refine oP (.d (.int .i64 0)) p_assign ?_
  refine oEnd ?_
  refine oSR rfl ?_
  refine oP (.d (.int .i64 kind)) p_move ?_
  refine oQ (.agg [.d (.lit (List.map e_i64 x0))]) (k_loadAgg 0 0 (hu := Try.underlying28) (hi := ty28)) ?_
  refine oQ (.agg [.d (.lit (List.map e_i64 a0))]) (k_loadAgg 1 0 (hu := Try.underlying28) (hi := ty28)) ?_
  refine bCall (caps := []) (v := (uc fun (r16 : (List SPoint)) => (fun (r132 : Int) => (.tuple [.agg [.d (.lit (List.map e_SPoint r16))], .d (.int .i64 r132)] : V)))) (H' := (uc fun (r16 : (List SPoint)) => (fun (r132 : Int) => ([.box [.d (.lit (List.map e_i64 x0))], .box [.d (.lit (List.map e_i64 a0))], .box [.d (.lit (List.map e_i64 b0))], .box [.d (.lit (List.map e_i64 y0))], .box [.nilc]] : List Blk)))) [] _ (equating_Equate_goes k kind x0 a0) (ho := rfl) (hfn := Try.func23) (hb := rfl) (hconv := ConvRs.refl _ _) (hnd := by decide) (hBl := fun _ => (by kernel_rfl)) (hv := fun _ => (by kernel_rfl)) (hH' := fun _ => (by kernel_rfl)) (h := fun r => ?_)
  obtain ⟨r16, r132⟩ := r
  refine bUc ?_
  refine oP (.tuple [.agg [.d (.lit (List.map e_SPoint r16))], .d (.int .i64 r132)]) p_move ?_
  refine oP (.agg [.d (.lit (List.map e_SPoint r16))]) k_extract ?_
  refine oP (.d (.int .i64 r132)) k_extract ?_
  refine oD (.ptr 5 0) (k_alloc (H' := [.box [.d (.lit (List.map e_i64 x0))], .box [.d (.lit (List.map e_i64 a0))], .box [.d (.lit (List.map e_i64 b0))], .box [.d (.lit (List.map e_i64 y0))], .box [.nilc], .box [.nilc]]) ty32) ?_
  refine oD (.undef) (k_store (vs := [.d (.lit (List.map e_SPoint r16))]) (H' := [.box [.d (.lit (List.map e_i64 x0))], .box [.d (.lit (List.map e_i64 a0))], .box [.d (.lit (List.map e_i64 b0))], .box [.d (.lit (List.map e_i64 y0))], .box [.nilc], .box [.d (.lit (List.map e_SPoint r16))]]) 5 0 (hi := ty32)) ?_
  refine oP (.d (.int .i64 r132)) p_assign ?_
  refine oEnd ?_
  refine oSeq ?_
  refine oSR rfl ?_
  refine oP (.d (.int .i64 r132)) p_move ?_
  refine oP (.d (.bool (r132 != 0))) (p_int (k := .i64) (p := r132) (q := 0)) ?_
  refine oEnd ?_
  refine bSplit 23 (h1 := fun hc => ?_) (h2 := fun hc => ?_)
  ·refine oCondT (h := ?_)
   refine oSR rfl ?_
   refine oP (.agg [.nilc]) (p_build bld32) ?_
   refine oP (.d (.int .i64 r132)) p_move ?_
   refine oD (.undef) (k_store (vs := [.nilc]) (H' := [.box [.d (.lit (List.map e_i64 x0))], .box [.d (.lit (List.map e_i64 a0))], .box [.d (.lit (List.map e_i64 b0))], .box [.d (.lit (List.map e_i64 y0))], .box [.nilc], .box [.d (.lit (List.map e_SPoint r16))]]) 4 0 (hi := ty32)) ?_
   refine oP (.d (.int .i64 r132)) p_assign ?_
   refine oEnd ?_
   refine oConvB 4 (cells := [.nilc]) (cells' := [.d (.lit (List.map e_SPoint []))]) (hc := .cons _ _ _ _ .nil .nil) (h := ?_)
   refine oView (H' := [.box [.d (.lit (List.map e_i64 x0))], .box [.d (.lit (List.map e_i64 a0))], .box [.d (.lit (List.map e_i64 b0))], .box [.d (.lit (List.map e_i64 y0))], .box [.d (.lit (List.map e_SPoint []))], .box [.d (.lit (List.map e_SPoint r16))]]) rfl (h := ?_)
   exact oRet (r0 := ([], r132)) (rv := .tuple [.agg [.d (.lit (List.map e_SPoint []))], .d (.int .i64 r132)]) (B := []) (vs := [.agg [.d (.lit (List.map e_SPoint []))], .d (.int .i64 r132)]) (σ := []) (hf := Try.func27) (hrs := rfl) (hres := .cons _ _ _ _ (.agg 10 32 4 0 [.d (.lit (List.map e_SPoint []))] [.d (.lit (List.map e_SPoint []))] _ _ _ _ (by kernel_rfl) (by kernel_rfl) Try.underlying32 (by kernel_rfl) ty32 (by kernel_rfl) (by kernel_rfl)) (.cons _ _ _ _ (.tmp 11 _ (by kernel_rfl)) .nil)) (hnd := by decide)
  ·refine oCondF (h := ?_)
   refine oSkip ?_
   refine oSR rfl ?_
   refine oP (.d (.int .i64 kind)) p_move ?_
   refine oQ (.agg [.d (.lit (List.map e_i64 b0))]) (k_loadAgg 2 0 (hu := Try.underlying28) (hi := ty28)) ?_
   refine oQ (.agg [.d (.lit (List.map e_i64 y0))]) (k_loadAgg 3 0 (hu := Try.underlying28) (hi := ty28)) ?_
   refine bCall (caps := []) (v := (uc fun (r17 : (List SPoint)) => (fun (r133 : Int) => (.tuple [.agg [.d (.lit (List.map e_SPoint r17))], .d (.int .i64 r133)] : V)))) (H' := (uc fun (r17 : (List SPoint)) => (fun (r133 : Int) => ([.box [.d (.lit (List.map e_i64 x0))], .box [.d (.lit (List.map e_i64 a0))], .box [.d (.lit (List.map e_i64 b0))], .box [.d (.lit (List.map e_i64 y0))], .box [.nilc], .box [.d (.lit (List.map e_SPoint r16))]] : List Blk)))) [] _ (equating_Equate_goes k kind b0 y0) (ho := rfl) (hfn := Try.func23) (hb := rfl) (hconv := ConvRs.refl _ _) (hnd := by decide) (hBl := fun _ => (by kernel_rfl)) (hv := fun _ => (by kernel_rfl)) (hH' := fun _ => (by kernel_rfl)) (h := fun r => ?_)
   obtain ⟨r17, r133⟩ := r
   refine bUc ?_
   refine oP (.tuple [.agg [.d (.lit (List.map e_SPoint r17))], .d (.int .i64 r133)]) p_move ?_
   refine oP (.agg [.d (.lit (List.map e_SPoint r17))]) k_extract ?_
   refine oP (.d (.int .i64 r133)) k_extract ?_
   refine oD (.ptr 6 0) (k_alloc (H' := [.box [.d (.lit (List.map e_i64 x0))], .box [.d (.lit (List.map e_i64 a0))], .box [.d (.lit (List.map e_i64 b0))], .box [.d (.lit (List.map e_i64 y0))], .box [.nilc], .box [.d (.lit (List.map e_SPoint r16))], .box [.nilc]]) ty32) ?_
   refine oD (.undef) (k_store (vs := [.d (.lit (List.map e_SPoint r17))]) (H' := [.box [.d (.lit (List.map e_i64 x0))], .box [.d (.lit (List.map e_i64 a0))], .box [.d (.lit (List.map e_i64 b0))], .box [.d (.lit (List.map e_i64 y0))], .box [.nilc], .box [.d (.lit (List.map e_SPoint r16))], .box [.d (.lit (List.map e_SPoint r17))]]) 6 0 (hi := ty32)) ?_
   refine oP (.d (.int .i64 r133)) p_assign ?_
   refine oEnd ?_
   refine oSeq ?_
   refine oSR rfl ?_
   refine oP (.d (.int .i64 r133)) p_move ?_
   refine oP (.d (.bool (r133 != 0))) (p_int (k := .i64) (p := r133) (q := 0)) ?_
   refine oEnd ?_
   refine bSplit 34 (h1 := fun hc => ?_) (h2 := fun hc => ?_)
   ·refine oCondT (h := ?_)
    refine oSR rfl ?_
    refine oP (.agg [.nilc]) (p_build bld32) ?_
    refine oP (.d (.int .i64 r133)) p_move ?_
    refine oD (.undef) (k_store (vs := [.nilc]) (H' := [.box [.d (.lit (List.map e_i64 x0))], .box [.d (.lit (List.map e_i64 a0))], .box [.d (.lit (List.map e_i64 b0))], .box [.d (.lit (List.map e_i64 y0))], .box [.nilc], .box [.d (.lit (List.map e_SPoint r16))], .box [.d (.lit (List.map e_SPoint r17))]]) 4 0 (hi := ty32)) ?_
    refine oP (.d (.int .i64 r133)) p_assign ?_
    refine oEnd ?_
    refine oConvB 4 (cells := [.nilc]) (cells' := [.d (.lit (List.map e_SPoint []))]) (hc := .cons _ _ _ _ .nil .nil) (h := ?_)
    refine oView (H' := [.box [.d (.lit (List.map e_i64 x0))], .box [.d (.lit (List.map e_i64 a0))], .box [.d (.lit (List.map e_i64 b0))], .box [.d (.lit (List.map e_i64 y0))], .box [.d (.lit (List.map e_SPoint []))], .box [.d (.lit (List.map e_SPoint r16))], .box [.d (.lit (List.map e_SPoint r17))]]) rfl (h := ?_)
    exact oRet (r0 := ([], r133)) (rv := .tuple [.agg [.d (.lit (List.map e_SPoint []))], .d (.int .i64 r133)]) (B := []) (vs := [.agg [.d (.lit (List.map e_SPoint []))], .d (.int .i64 r133)]) (σ := []) (hf := Try.func27) (hrs := rfl) (hres := .cons _ _ _ _ (.agg 10 32 4 0 [.d (.lit (List.map e_SPoint []))] [.d (.lit (List.map e_SPoint []))] _ _ _ _ (by kernel_rfl) (by kernel_rfl) Try.underlying32 (by kernel_rfl) ty32 (by kernel_rfl) (by kernel_rfl)) (.cons _ _ _ _ (.tmp 11 _ (by kernel_rfl)) .nil)) (hnd := by decide)
   ·refine oCondF (h := ?_)
    refine oSkip ?_
    refine oSR rfl ?_
    refine oQ (.agg [.d (.lit (List.map e_SPoint r16))]) (k_loadAgg 5 0 (hu := Try.underlying32) (hi := ty32)) ?_
    refine oQ (.agg [.d (.lit (List.map e_SPoint r17))]) (k_loadAgg 6 0 (hu := Try.underlying32) (hi := ty32)) ?_
    refine bCall (caps := []) (v := (uc fun (r151 : (List SPoint)) => (fun (r181 : Int) => (.tuple [.agg [.d (.lit (List.map e_SPoint r151))], .d (.int .i64 r181)] : V)))) (H' := (uc fun (r151 : (List SPoint)) => (fun (r181 : Int) => ([.box [.d (.lit (List.map e_i64 x0))], .box [.d (.lit (List.map e_i64 a0))], .box [.d (.lit (List.map e_i64 b0))], .box [.d (.lit (List.map e_i64 y0))], .box [.nilc], .box [.d (.lit (List.map e_SPoint r16))], .box [.d (.lit (List.map e_SPoint r17))]] : List Blk)))) [] _ (conversion_Compose_goes k r16 r17) (ho := rfl) (hfn := Try.func56) (hb := rfl) (hconv := ConvRs.refl _ _) (hnd := by decide) (hBl := fun _ => (by kernel_rfl)) (hv := fun _ => (by kernel_rfl)) (hH' := fun _ => (by kernel_rfl)) (h := fun r => ?_)
    obtain ⟨r151, r181⟩ := r
    refine bUc ?_
    refine oP (.agg [.d (.lit (List.map e_SPoint r151))]) k_extract ?_
    refine oP (.d (.int .i64 r181)) k_extract ?_
    refine oD (.undef) (k_store (vs := [.d (.lit (List.map e_SPoint r151))]) (H' := [.box [.d (.lit (List.map e_i64 x0))], .box [.d (.lit (List.map e_i64 a0))], .box [.d (.lit (List.map e_i64 b0))], .box [.d (.lit (List.map e_i64 y0))], .box [.d (.lit (List.map e_SPoint r151))], .box [.d (.lit (List.map e_SPoint r16))], .box [.d (.lit (List.map e_SPoint r17))]]) 4 0 (hi := ty32)) ?_
    refine oP (.d (.int .i64 r181)) p_assign ?_
    refine oEnd ?_
    exact oRet (r0 := (r151, r181)) (rv := .tuple [.agg [.d (.lit (List.map e_SPoint r151))], .d (.int .i64 r181)]) (B := []) (vs := [.agg [.d (.lit (List.map e_SPoint r151))], .d (.int .i64 r181)]) (σ := []) (hf := Try.func27) (hrs := rfl) (hres := .cons _ _ _ _ (.agg 10 32 4 0 [.d (.lit (List.map e_SPoint r151))] [.d (.lit (List.map e_SPoint r151))] _ _ _ _ (by kernel_rfl) (by kernel_rfl) Try.underlying32 (by kernel_rfl) ty32 (by kernel_rfl) (by kernel_rfl)) (.cons _ _ _ _ (.tmp 11 _ (by kernel_rfl)) .nil)) (hnd := by decide)

/-- slices.Equal[[]awardingbody/api.Point,awardingbody/api.Point] -/
def slices_Equal_api_Point_api_Point_b1 (k : Nat) (s1 : (List SPoint)) (s2 : (List SPoint)) (again : Int → Option ((Unit) ⊕ (Bool))) : Int → Option ((Unit) ⊕ (Bool)) := fun x4 => bif (decide (x4 < ((List.length s1) : Int))) then gidx s1 x4 fun e1 => gidx s2 x4 fun e11 => bif (!(((e1.X_Num == e11.X_Num) && ((e1.X_Den == e11.X_Den) && true)) && (((e1.Y_Num == e11.Y_Num) && ((e1.Y_Den == e11.Y_Den) && true)) && true))) then some (Sum.inr false) else again (IntKind.wrap .i64 (x4 + 1)) else some (Sum.inl ())
def slices_Equal_api_Point_api_Point (k : Nat) (s1 : (List SPoint)) (s2 : (List SPoint)) : Option (Bool) := bif (((List.length s1) : Int) != ((List.length s2) : Int)) then some false else Option.bind (gloop (slices_Equal_api_Point_api_Point_b1 k s1 s2) k 0 : Option ((Unit) ⊕ (Bool))) (Sum.elim (u0 (some true)) (fun r => some r))
def slices_Equal_api_Point_api_Point_E (s1 : (List SPoint)) (s2 : (List SPoint)) : Bool → V × List Blk := fun r1 => (.d (.bool r1), [])
theorem slices_Equal_api_Point_api_Point_goes (k : Nat) (s1 : (List SPoint)) (s2 : (List SPoint)) : RunsO Try.prog 53 [.d (.lit (List.map e_SPoint s1)), .d (.lit (List.map e_SPoint s2))] [] (slices_Equal_api_Point_api_Point_E s1 s2) (slices_Equal_api_Point_api_Point k s1 s2) := by
  refine RunsO.of_goes (N := 26) (m := 0) (T := [(0, .d (.lit (List.map e_SPoint s1))), (1, .d (.lit (List.map e_SPoint s2)))]) Try.func53 rfl rfl (h := ?_)
  unfold slices_Equal_api_Point_api_Point
  refine bStart ?_
  refine oSR rfl ?_
  refine oP (.d (.bool false)) p_assign ?_
  refine oEnd ?_
  refine oSeq ?_
  refine oSR rfl ?_
  refine oP (.d (.lit (List.map e_SPoint s1))) p_move ?_
  refine oP (.d (.int .i64 ((List.length s1) : Int))) (k_lenLit (enc := e_SPoint) s1 (hu := Try.underlying30)) ?_
  refine oP (.d (.lit (List.map e_SPoint s2))) p_move ?_
  refine oP (.d (.int .i64 ((List.length s2) : Int))) (k_lenLit (enc := e_SPoint) s2 (hu := Try.underlying30)) ?_
  refine oP (.d (.bool (((List.length s1) : Int) != ((List.length s2) : Int)))) (p_int (k := .i64) (p := ((List.length s1) : Int)) (q := ((List.length s2) : Int))) ?_
  refine oEnd ?_
  refine bSplit 10 (h1 := fun hc => ?_) (h2 := fun hc => ?_)
  ·refine oCondT (h := ?_)
   refine oSR rfl ?_
   refine oP (.d (.bool false)) p_assign ?_
   refine oEnd ?_
   exact oRet (r0 := false) (rv := .d (.bool false)) (B := []) (vs := [.d (.bool false)]) (σ := []) (hf := Try.func53) (hrs := rfl) (hres := .cons _ _ _ _ (.tmp 4 _ (by kernel_rfl)) .nil) (hnd := by decide)
  ·refine oCondF (h := ?_)
   refine oSkip ?_
   refine oSeq ?_
   refine oSR rfl ?_
   refine oP (.d (.lit (List.map e_SPoint s1))) p_move ?_
   refine oP (.d (.int .i64 ((List.length s1) : Int))) (k_lenLit (enc := e_SPoint) s1 (hu := Try.underlying30)) ?_
   refine oP (.d (.int .i64 0)) p_move ?_
   refine oEnd ?_
   refine bJoin ((u0 ([]))) ((u0 ([]))) Sum.inl (fun s => ?_) (fun hj2 => ?_)
   ·cases s
    refine bInl ?_
    refine bU0 ?_
    refine oView (T' := []) (H' := []) (h := ?_)
    refine oSR rfl ?_
    refine oP (.d (.bool true)) p_assign ?_
    refine oEnd ?_
    exact oRet (r0 := true) (rv := .d (.bool true)) (B := []) (vs := [.d (.bool true)]) (σ := []) (hf := Try.func53) (hrs := rfl) (hres := .cons _ _ _ _ (.tmp 4 _ (by kernel_rfl)) .nil) (hnd := by decide)
   ·refine oBlock ?_
    refine oLoop ?_
    refine oHead [0, 1, 12, 13] [] (T' := [(0, .d (.lit (List.map e_SPoint s1))), (1, .d (.lit (List.map e_SPoint s2))), (12, .d (.int .i64 ((List.length s1) : Int))), (13, .d (.int .i64 0))]) (H' := []) (hnd := by decide) (h := ?_)
    refine bLoop (body := slices_Equal_api_Point_api_Point_b1 k s1 s2) ((fun (x4 : Int) => [(0, .d (.lit (List.map e_SPoint s1))), (1, .d (.lit (List.map e_SPoint s2))), (12, .d (.int .i64 ((List.length s1) : Int))), (13, .d (.int .i64 x4))])) ((fun (x4 : Int) => [])) (fun again hag1 x4 => ?_) k 0
    ·unfold slices_Equal_api_Point_api_Point_b1
     refine oView (T' := [(0, .d (.lit (List.map e_SPoint s1))), (1, .d (.lit (List.map e_SPoint s2))), (12, .d (.int .i64 ((List.length s1) : Int))), (13, .d (.int .i64 x4))]) (H' := []) (h := ?_)
     refine oSR rfl ?_
     refine oP (.d (.bool (decide (x4 < ((List.length s1) : Int))))) (p_int (k := .i64) (p := x4) (q := ((List.length s1) : Int))) ?_
     refine oEnd ?_
     refine oSeq ?_
     refine bSplit 14 (h1 := fun hc => ?_) (h2 := fun hc => ?_)
     ·refine oCondT (h := ?_)
      refine oSkip ?_
      refine oSeq ?_
      refine oBlock ?_
      refine oSR rfl ?_
      refine oP (.d (.int .i64 x4)) p_move ?_
      refine oP (.d (.int .i64 x4)) p_assign ?_
      refine oEnd ?_
      refine oSeq ?_
      refine oDraw [] rfl ?_
      refine aP 0 (.d (.lit (List.map e_SPoint s1))) rfl p_move ?_
      refine aP 1 (.d (.int .i64 x4)) rfl p_move ?_
      refine dIdx (fun e1 h1 h11 => ?_)
      refine aP 2 (.lptr (e_SPoint e1) 0) rfl (k_idxLit e_SPoint_len s1 (a := e1) (k := .i64) (i := x4) (hu := Try.underlying30) (hi := ty60) (h0 := h1) (he := h11)) ?_
      refine aQ 3 [] (.agg [.d (.int .i64 e1.X_Num), .d (.int .i64 e1.X_Den), .d (.int .i64 e1.Y_Num), .d (.int .i64 e1.Y_Den)]) rfl (k_loadLAgg (cells := e_SPoint e1) 0 [(.int .i64 e1.X_Num), (.int .i64 e1.X_Den), (.int .i64 e1.Y_Num), (.int .i64 e1.Y_Den)] (hu := Try.underlying60) (hi := ty60)) ?_
      refine aP 4 (.d (.lit (List.map e_SPoint s2))) rfl p_move ?_
      refine aP 5 (.d (.int .i64 x4)) rfl p_move ?_
      refine dIdx (fun e11 h12 h13 => ?_)
      refine aP 6 (.lptr (e_SPoint e11) 0) rfl (k_idxLit e_SPoint_len s2 (a := e11) (k := .i64) (i := x4) (hu := Try.underlying30) (hi := ty60) (h0 := h12) (he := h13)) ?_
      refine aQ 7 [] (.agg [.d (.int .i64 e11.X_Num), .d (.int .i64 e11.X_Den), .d (.int .i64 e11.Y_Num), .d (.int .i64 e11.Y_Den)]) rfl (k_loadLAgg (cells := e_SPoint e11) 0 [(.int .i64 e11.X_Num), (.int .i64 e11.X_Den), (.int .i64 e11.Y_Num), (.int .i64 e11.Y_Den)] (hu := Try.underlying60) (hi := ty60)) ?_
      refine aP 8 (.d (.bool (!(((e1.X_Num == e11.X_Num) && ((e1.X_Den == e11.X_Den) && true)) && (((e1.Y_Num == e11.Y_Num) && ((e1.Y_Den == e11.Y_Den) && true)) && true))))) rfl (k_neAgg (hg := Try.eqGuardType60) (h := EqV.struct 2 60 [.d (.int .i64 e1.X_Num), .d (.int .i64 e1.X_Den), .d (.int .i64 e1.Y_Num), .d (.int .i64 e1.Y_Den)] [.d (.int .i64 e11.X_Num), .d (.int .i64 e11.X_Den), .d (.int .i64 e11.Y_Num), .d (.int .i64 e11.Y_Den)] _ (((e1.X_Num == e11.X_Num) && ((e1.X_Den == e11.X_Den) && true)) && (((e1.Y_Num == e11.Y_Num) && ((e1.Y_Den == e11.Y_Den) && true)) && true)) Try.underlying60 Try.stoodInHeld60 (EqF.agg 2 2 _ _ _ _ _ _ _ ((e1.X_Num == e11.X_Num) && ((e1.X_Den == e11.X_Den) && true)) (((e1.Y_Num == e11.Y_Num) && ((e1.Y_Den == e11.Y_Den) && true)) && true) _ _ _ (by kernel_rfl) Try.underlying38 (by kernel_rfl) ty38 (by kernel_rfl) (by kernel_rfl) (by kernel_rfl) (by kernel_rfl) (EqV.struct 1 38 [.d (.int .i64 e1.X_Num), .d (.int .i64 e1.X_Den)] [.d (.int .i64 e11.X_Num), .d (.int .i64 e11.X_Den)] _ ((e1.X_Num == e11.X_Num) && ((e1.X_Den == e11.X_Den) && true)) Try.underlying38 Try.stoodInHeld38 (EqF.one 1 1 _ _ _ _ _ _ _ (e1.X_Num == e11.X_Num) ((e1.X_Den == e11.X_Den) && true) (by kernel_rfl) Try.underlying3 (by kernel_rfl) (by kernel_rfl) (by kernel_rfl) (by kernel_rfl) (EqV.int 3 .i64 .i64 e1.X_Num e11.X_Num Try.underlying3) (EqF.one 1 1 _ _ _ _ _ _ _ (e1.X_Den == e11.X_Den) true (by kernel_rfl) Try.underlying3 (by kernel_rfl) (by kernel_rfl) (by kernel_rfl) (by kernel_rfl) (EqV.int 3 .i64 .i64 e1.X_Den e11.X_Den Try.underlying3) (EqF.nil 1 _ _)))) (EqF.agg 2 2 _ _ _ _ _ _ _ ((e1.Y_Num == e11.Y_Num) && ((e1.Y_Den == e11.Y_Den) && true)) true _ _ _ (by kernel_rfl) Try.underlying38 (by kernel_rfl) ty38 (by kernel_rfl) (by kernel_rfl) (by kernel_rfl) (by kernel_rfl) (EqV.struct 1 38 [.d (.int .i64 e1.Y_Num), .d (.int .i64 e1.Y_Den)] [.d (.int .i64 e11.Y_Num), .d (.int .i64 e11.Y_Den)] _ ((e1.Y_Num == e11.Y_Num) && ((e1.Y_Den == e11.Y_Den) && true)) Try.underlying38 Try.stoodInHeld38 (EqF.one 1 1 _ _ _ _ _ _ _ (e1.Y_Num == e11.Y_Num) ((e1.Y_Den == e11.Y_Den) && true) (by kernel_rfl) Try.underlying3 (by kernel_rfl) (by kernel_rfl) (by kernel_rfl) (by kernel_rfl) (EqV.int 3 .i64 .i64 e1.Y_Num e11.Y_Num Try.underlying3) (EqF.one 1 1 _ _ _ _ _ _ _ (e1.Y_Den == e11.Y_Den) true (by kernel_rfl) Try.underlying3 (by kernel_rfl) (by kernel_rfl) (by kernel_rfl) (by kernel_rfl) (EqV.int 3 .i64 .i64 e1.Y_Den e11.Y_Den Try.underlying3) (EqF.nil 1 _ _)))) (EqF.nil 2 _ _))))) ?_
      refine aDone (h := ?_)
      refine bSplit 24 (h1 := fun hc => ?_) (h2 := fun hc => ?_)
      ·refine oCondT (h := ?_)
       refine oSR rfl ?_
       refine oP (.d (.bool false)) p_assign ?_
       refine oEnd ?_
       exact oRet (r0 := false) (rv := .d (.bool false)) (B := []) (vs := [.d (.bool false)]) (σ := []) (hf := Try.func53) (hrs := rfl) (hres := .cons _ _ _ _ (.tmp 4 _ (by kernel_rfl)) .nil) (hnd := by decide)
      ·refine oCondF (h := ?_)
       refine oSkip ?_
       refine oBlk ?_
       refine oRegion rfl ?_
       refine oP (.d (.int .i64 (IntKind.wrap .i64 (x4 + 1)))) (p_int (k := .i64) (p := x4) (q := 1)) ?_
       refine oP (.d (.int .i64 (IntKind.wrap .i64 (x4 + 1)))) p_move ?_
       refine oEnd ?_
       refine oAgain ?_
       refine oHead [0, 1, 12, 13] [] (T' := [(0, .d (.lit (List.map e_SPoint s1))), (1, .d (.lit (List.map e_SPoint s2))), (12, .d (.int .i64 ((List.length s1) : Int))), (13, .d (.int .i64 (IntKind.wrap .i64 (x4 + 1))))]) (H' := []) (hnd := by decide) (h := ?_)
       exact hag1 (IntKind.wrap .i64 (x4 + 1))
     ·refine oCondF (h := ?_)
      refine oExit rfl ?_
      refine oHead [] [] (T' := []) (H' := []) (hnd := by decide) (h := ?_)
      exact hj2 ()

/-- awardingbody/conversion.Same -/
def conversion_Same (k : Nat) (a0 : (List SPoint)) (b0 : (List SPoint)) : Option (Bool) := Option.bind (conversion_Normal k a0) (uc fun r122 => fun r132 => Option.bind (conversion_Normal k b0) (uc fun r123 => fun r133 => blet ((r132 == 0) && (r133 == 0)) fun x2 => Option.bind (bif x2 then Option.bind (slices_Equal_api_Point_api_Point k r122 r123) (fun r15 => some r15) else some false : Option (Bool)) (fun x3 => some x3)))
def conversion_Same_E (a0 : (List SPoint)) (b0 : (List SPoint)) : Bool → V × List Blk := fun r11 => (.d (.bool r11), [])
theorem conversion_Same_goes (k : Nat) (a0 : (List SPoint)) (b0 : (List SPoint)) : RunsO Try.prog 25 [.agg [.d (.lit (List.map e_SPoint a0))], .agg [.d (.lit (List.map e_SPoint b0))]] [] (conversion_Same_E a0 b0) (conversion_Same k a0 b0) := by
  refine RunsO.of_goes (N := 32) (m := 0) (T := [(0, .agg [.d (.lit (List.map e_SPoint a0))]), (1, .agg [.d (.lit (List.map e_SPoint b0))])]) Try.func25 rfl rfl (h := ?_)
  unfold conversion_Same
  refine bStart ?_
  refine oSR rfl ?_
  refine oD (.ptr 0 0) (k_box (H' := [.box [.d (.lit (List.map e_SPoint a0))]]) (cells := [.d (.lit (List.map e_SPoint a0))])) ?_
  refine oD (.ptr 1 0) (k_box (H' := [.box [.d (.lit (List.map e_SPoint a0))], .box [.d (.lit (List.map e_SPoint b0))]]) (cells := [.d (.lit (List.map e_SPoint b0))])) ?_
  refine oP (.d (.bool false)) p_assign ?_
  refine oEnd ?_
  refine oSR rfl ?_
  refine oQ (.agg [.d (.lit (List.map e_SPoint a0))]) (k_loadAgg 0 0 (hu := Try.underlying32) (hi := ty32)) ?_
  refine bCall (caps := []) (v := (uc fun (r122 : (List SPoint)) => (fun (r132 : Int) => (.tuple [.agg [.d (.lit (List.map e_SPoint r122))], .d (.int .i64 r132)] : V)))) (H' := (uc fun (r122 : (List SPoint)) => (fun (r132 : Int) => ([.box [.d (.lit (List.map e_SPoint a0))], .box [.d (.lit (List.map e_SPoint b0))]] : List Blk)))) [] _ (conversion_Normal_goes k a0) (ho := rfl) (hfn := Try.func35) (hb := rfl) (hconv := ConvRs.refl _ _) (hnd := by decide) (hBl := fun _ => (by kernel_rfl)) (hv := fun _ => (by kernel_rfl)) (hH' := fun _ => (by kernel_rfl)) (h := fun r => ?_)
  obtain ⟨r122, r132⟩ := r
  refine bUc ?_
  refine oP (.tuple [.agg [.d (.lit (List.map e_SPoint r122))], .d (.int .i64 r132)]) p_move ?_
  refine oP (.agg [.d (.lit (List.map e_SPoint r122))]) k_extract ?_
  refine oP (.d (.int .i64 r132)) k_extract ?_
  refine oD (.ptr 2 0) (k_alloc (H' := [.box [.d (.lit (List.map e_SPoint a0))], .box [.d (.lit (List.map e_SPoint b0))], .box [.nilc]]) ty32) ?_
  refine oD (.undef) (k_store (vs := [.d (.lit (List.map e_SPoint r122))]) (H' := [.box [.d (.lit (List.map e_SPoint a0))], .box [.d (.lit (List.map e_SPoint b0))], .box [.d (.lit (List.map e_SPoint r122))]]) 2 0 (hi := ty32)) ?_
  refine oP (.d (.int .i64 r132)) p_assign ?_
  refine oEnd ?_
  refine oSR rfl ?_
  refine oQ (.agg [.d (.lit (List.map e_SPoint b0))]) (k_loadAgg 1 0 (hu := Try.underlying32) (hi := ty32)) ?_
  refine bCall (caps := []) (v := (uc fun (r123 : (List SPoint)) => (fun (r133 : Int) => (.tuple [.agg [.d (.lit (List.map e_SPoint r123))], .d (.int .i64 r133)] : V)))) (H' := (uc fun (r123 : (List SPoint)) => (fun (r133 : Int) => ([.box [.d (.lit (List.map e_SPoint a0))], .box [.d (.lit (List.map e_SPoint b0))], .box [.d (.lit (List.map e_SPoint r122))]] : List Blk)))) [] _ (conversion_Normal_goes k b0) (ho := rfl) (hfn := Try.func35) (hb := rfl) (hconv := ConvRs.refl _ _) (hnd := by decide) (hBl := fun _ => (by kernel_rfl)) (hv := fun _ => (by kernel_rfl)) (hH' := fun _ => (by kernel_rfl)) (h := fun r => ?_)
  obtain ⟨r123, r133⟩ := r
  refine bUc ?_
  refine oP (.tuple [.agg [.d (.lit (List.map e_SPoint r123))], .d (.int .i64 r133)]) p_move ?_
  refine oP (.agg [.d (.lit (List.map e_SPoint r123))]) k_extract ?_
  refine oP (.d (.int .i64 r133)) k_extract ?_
  refine oD (.ptr 3 0) (k_alloc (H' := [.box [.d (.lit (List.map e_SPoint a0))], .box [.d (.lit (List.map e_SPoint b0))], .box [.d (.lit (List.map e_SPoint r122))], .box [.nilc]]) ty32) ?_
  refine oD (.undef) (k_store (vs := [.d (.lit (List.map e_SPoint r123))]) (H' := [.box [.d (.lit (List.map e_SPoint a0))], .box [.d (.lit (List.map e_SPoint b0))], .box [.d (.lit (List.map e_SPoint r122))], .box [.d (.lit (List.map e_SPoint r123))]]) 3 0 (hi := ty32)) ?_
  refine oP (.d (.int .i64 r133)) p_assign ?_
  refine oEnd ?_
  refine oSR rfl ?_
  refine oP (.d (.int .i64 r132)) p_move ?_
  refine oP (.d (.bool (r132 == 0))) (p_int (k := .i64) (p := r132) (q := 0)) ?_
  refine oP (.d (.bool (r132 == 0))) p_move ?_
  refine bMeetF (H' := [.box [.d (.lit (List.map e_SPoint r122))], .box [.d (.lit (List.map e_SPoint r123))]]) 3 rfl ((fun (x2 : Bool) => [(5, .ptr 0 0), (7, .ptr 1 0), (24, .d (.bool x2))])) (fun x2 => ?_) (fun F hj1 => ?_)
  ·refine oView (T' := [(5, .ptr 0 0), (7, .ptr 1 0), (24, .d (.bool x2))]) (H' := [.box [.d (.lit (List.map e_SPoint r122))], .box [.d (.lit (List.map e_SPoint r123))]]) (h := ?_)
   refine oP (.d (.bool x2)) p_move ?_
   refine bMeet 6 rfl ((fun (x3 : Bool) => [(31, .d (.bool x3))])) ((fun (x3 : Bool) => [])) (fun s => s) (fun x3 => ?_) (fun hj2 => ?_)
   ·refine oView (T' := [(31, .d (.bool x3))]) (H' := []) (h := ?_)
    refine oP (.d (.bool x3)) p_assign ?_
    refine oEnd ?_
    exact oRet (r0 := x3) (rv := .d (.bool x3)) (B := []) (vs := [.d (.bool x3)]) (σ := []) (hf := Try.func25) (hrs := rfl) (hres := .cons _ _ _ _ (.tmp 4 _ (by kernel_rfl)) .nil) (hnd := by decide)
   ·refine bSplit 25 (h1 := fun hc => ?_) (h2 := fun hc => ?_)
    ·refine oP (.ptr 0 0) (k_fieldAddr 0 0 (hu := Try.underlying32) (hf := rfl) (hi := ty30)) ?_
     refine oQ (.d (.lit (List.map e_SPoint r122))) (k_load 0 0 (hu := Try.underlying30)) ?_
     refine oP (.ptr 1 0) (k_fieldAddr 1 0 (hu := Try.underlying32) (hf := rfl) (hi := ty30)) ?_
     refine oQ (.d (.lit (List.map e_SPoint r123))) (k_load 1 0 (hu := Try.underlying30)) ?_
     refine bCall (caps := []) (v := (fun (r15 : Bool) => (.d (.bool r15) : V))) (H' := (fun (r15 : Bool) => ([.box [.d (.lit (List.map e_SPoint r122))], .box [.d (.lit (List.map e_SPoint r123))]] : List Blk))) [] _ (slices_Equal_api_Point_api_Point_goes k r122 r123) (ho := rfl) (hfn := Try.func53) (hb := rfl) (hconv := ConvRs.refl _ _) (hnd := by decide) (hBl := fun _ => (by kernel_rfl)) (hv := fun _ => (by kernel_rfl)) (hH' := fun _ => (by kernel_rfl)) (h := fun r15 => ?_)
     refine oP (.d (.bool r15)) (p_pick (b := true)) ?_
     refine oHead [31] [] (T' := [(31, .d (.bool r15))]) (H' := []) (hnd := by decide) (h := ?_)
     exact hj2 r15
    ·refine oNot (h := ?_)
     refine oNot (h := ?_)
     refine oNot (h := ?_)
     refine oNot (h := ?_)
     refine oNot (h := ?_)
     refine oP (.d (.bool false)) (p_pick (b := false)) ?_
     refine oHead [31] [] (T' := [(31, .d (.bool false))]) (H' := []) (hnd := by decide) (h := ?_)
     exact hj2 false
  ·refine bPickF 21 (fun c => F (c && (r133 == 0))) (h1 := fun hc => ?_) (h2 := fun hc => ?_)
   ·refine oP (.d (.int .i64 r133)) p_move ?_
    refine oP (.d (.bool (r133 == 0))) (p_int (k := .i64) (p := r133) (q := 0)) ?_
    refine oP (.d (.bool (r133 == 0))) (p_pick (b := true)) ?_
    refine oHead [5, 7, 24] [2, 3] (T' := [(5, .ptr 0 0), (7, .ptr 1 0), (24, .d (.bool (r133 == 0)))]) (H' := [.box [.d (.lit (List.map e_SPoint r122))], .box [.d (.lit (List.map e_SPoint r123))]]) (hnd := by decide) (h := ?_)
    exact hj1 (r133 == 0)
   ·refine oNot (h := ?_)
    refine oNot (h := ?_)
    refine oP (.d (.bool false)) (p_pick (b := false)) ?_
    refine oHead [5, 7, 24] [2, 3] (T' := [(5, .ptr 0 0), (7, .ptr 1 0), (24, .d (.bool false))]) (H' := [.box [.d (.lit (List.map e_SPoint r122))], .box [.d (.lit (List.map e_SPoint r123))]]) (hnd := by decide) (h := ?_)
    exact hj1 false

/-- awardingbody/awardingbodylaw34.EquatingSelf -/
def law34_EquatingSelf (k : Nat) (t : (List Int)) (kind : Int) : Option (Bool) := Option.bind (mark_Light k t) (u0 (bif (!(decide (((List.length t) : Int) ≤ 600))) then Option.bind (law34_sane k) (fun r113 => some r113) else Option.bind (mark_Roll k t) (u0 (Option.bind (mark_Dice_Distribution k 6 true t 0) (uc fun r123 => fun x72 => Option.bind (mark_Dice_Distribution k 6 true t x72) (uc fun r124 => fun x73 => Option.bind (law34_whole k 1) (u0 (Option.bind (law34_whole k 0) (u0 (Option.bind (conversion_Line k 1 1 0 1) (uc fun r132 => fun r142 => Option.bind (equating_Equate k (IntKind.wrap .i64 (Int.tmod kind 3)) r123 r123) (uc fun r114 => fun r133 => Option.bind (equating_Chain k r123 r124 r124 r123 (IntKind.wrap .i64 (Int.tmod kind 3))) (uc fun r125 => fun r143 => Option.bind (bif (r142 != 0) then some ((IntKind.wrap .i64 (Int.tmod kind 3)), true) else some ((IntKind.wrap .i64 (Int.tmod kind 3)), (r133 == 10)) : Option (Int × Bool)) (uc fun k13 => fun x13 => bif x13 then blet ((k13 == 1) && (r142 == 0)) fun x16 => Option.bind (bif x16 then Option.bind (law34_sane k) (fun r117 => some r117) else some false : Option (Bool)) (fun x17 => some x17) else Option.bind (bif (r133 == 0) then Option.bind (conversion_Same k r114 r132) (fun r1113 => some r1113) else some false : Option (Bool)) (fun x18 => Option.bind (bif x18 then Option.bind (bif (r143 == 10) then some true else Option.bind (bif (r143 == 0) then Option.bind (conversion_Same k r125 r132) (fun r1112 => some r1112) else some false : Option (Bool)) (fun x25 => some x25) : Option (Bool)) (fun x24 => some x24) else some false : Option (Bool)) (fun x21 => Option.bind (bif x21 then Option.bind (law34_sane k) (fun r126 => some r126) else some false : Option (Bool)) (fun x22 => some x22)))))))))))))))))
def law34_EquatingSelf_E (t : (List Int)) (kind : Int) : Bool → V × List Blk := fun r19 => (.d (.bool r19), [])
theorem law34_EquatingSelf_goes (k : Nat) (t : (List Int)) (kind : Int) : RunsO Try.prog 6 [.d (.lit (List.map e_i64 t)), .d (.int .u8 kind)] [] (law34_EquatingSelf_E t kind) (law34_EquatingSelf k t kind) := by
  refine RunsO.of_goes (N := 88) (m := 0) (T := [(0, .d (.lit (List.map e_i64 t))), (1, .d (.int .u8 kind))]) Try.func6 rfl rfl (h := ?_)
  unfold law34_EquatingSelf
  refine bStart ?_
  refine oSR rfl ?_
  refine oP (.d (.bool false)) p_assign ?_
  refine oEnd ?_
  refine oSeq ?_
  refine oSR rfl ?_
  refine oP (.d (.lit (List.map e_i64 t))) p_move ?_
  refine bCall (caps := []) (v := (u0 ((.d (.bool (decide (((List.length t) : Int) ≤ 600))) : V)))) (H' := (u0 (([] : List Blk)))) [] _ (mark_Light_goes k t) (ho := rfl) (hfn := Try.func7) (hb := rfl) (hconv := ConvRs.refl _ _) (hnd := by decide) (hBl := fun _ => (by kernel_rfl)) (hv := fun _ => (by kernel_rfl)) (hH' := fun _ => (by kernel_rfl)) (h := fun r => ?_)
  cases r
  refine bU0 ?_
  refine oP (.d (.bool (!(decide (((List.length t) : Int) ≤ 600))))) (p_not (p := (decide (((List.length t) : Int) ≤ 600)))) ?_
  refine oEnd ?_
  refine bSplit 17 (h1 := fun hc => ?_) (h2 := fun hc => ?_)
  ·refine oCondT (h := ?_)
   refine oSR rfl ?_
   refine bCall (caps := []) (v := (fun (r113 : Bool) => (.d (.bool r113) : V))) (H' := (fun (r113 : Bool) => ([] : List Blk))) [] _ (law34_sane_goes k) (ho := rfl) (hfn := Try.func8) (hb := rfl) (hconv := ConvRs.refl _ _) (hnd := by decide) (hBl := fun _ => (by kernel_rfl)) (hv := fun _ => (by kernel_rfl)) (hH' := fun _ => (by kernel_rfl)) (h := fun r113 => ?_)
   refine oP (.d (.bool r113)) p_assign ?_
   refine oEnd ?_
   exact oRet (r0 := r113) (rv := .d (.bool r113)) (B := []) (vs := [.d (.bool r113)]) (σ := []) (hf := Try.func6) (hrs := rfl) (hres := .cons _ _ _ _ (.tmp 4 _ (by kernel_rfl)) .nil) (hnd := by decide)
  ·refine oCondF (h := ?_)
   refine oSkip ?_
   refine oSR rfl ?_
   refine oP (.d (.lit (List.map e_i64 t))) p_move ?_
   refine bCall (caps := []) (v := (u0 ((.ptr 0 0 : V)))) (H' := (u0 (([.box [.d (.lit (List.map e_i64 t)), .d (.int .i64 0)]] : List Blk)))) [] _ (mark_Roll_goes k t) (ho := rfl) (hfn := Try.func9) (hb := rfl) (hconv := ConvRs.refl _ _) (hnd := by decide) (hBl := fun _ => (by kernel_rfl)) (hv := fun _ => (by kernel_rfl)) (hH' := fun _ => (by kernel_rfl)) (h := fun r => ?_)
   cases r
   refine bU0 ?_
   refine oP (.ptr 0 0) p_assign ?_
   refine oEnd ?_
   refine oSR rfl ?_
   refine oP (.ptr 0 0) p_move ?_
   refine bCall (caps := []) (v := (uc fun (r123 : (List Int)) => (fun (x72 : Int) => (.agg [.d (.lit (List.map e_i64 r123))] : V)))) (H' := (uc fun (r123 : (List Int)) => (fun (x72 : Int) => ([.box [.d (.lit (List.map e_i64 t)), .d (.int .i64 x72)]] : List Blk)))) [0] _ (mark_Dice_Distribution_goes k 6 true t 0) (ho := rfl) (hfn := Try.func10) (hb := rfl) (hconv := ConvRs.refl _ _) (hnd := by decide) (hBl := fun _ => (by kernel_rfl)) (hv := fun _ => (by kernel_rfl)) (hH' := fun _ => (by kernel_rfl)) (h := fun r => ?_)
   obtain ⟨r123, x72⟩ := r
   refine bUc ?_
   refine oP (.ptr 0 0) p_move ?_
   refine bCall (caps := []) (v := (uc fun (r124 : (List Int)) => (fun (x73 : Int) => (.agg [.d (.lit (List.map e_i64 r124))] : V)))) (H' := (uc fun (r124 : (List Int)) => (fun (x73 : Int) => ([.box [.d (.lit (List.map e_i64 t)), .d (.int .i64 x73)]] : List Blk)))) [0] _ (mark_Dice_Distribution_goes k 6 true t x72) (ho := rfl) (hfn := Try.func10) (hb := rfl) (hconv := ConvRs.refl _ _) (hnd := by decide) (hBl := fun _ => (by kernel_rfl)) (hv := fun _ => (by kernel_rfl)) (hH' := fun _ => (by kernel_rfl)) (h := fun r => ?_)
   obtain ⟨r124, x73⟩ := r
   refine bUc ?_
   refine oD (.ptr 1 0) (k_alloc (H' := [.box [.d (.lit (List.map e_i64 t)), .d (.int .i64 x73)], .box [.nilc]]) ty28) ?_
   refine oD (.ptr 2 0) (k_alloc (H' := [.box [.d (.lit (List.map e_i64 t)), .d (.int .i64 x73)], .box [.nilc], .box [.nilc]]) ty28) ?_
   refine oD (.undef) (k_store (vs := [.d (.lit (List.map e_i64 r123))]) (H' := [.box [.d (.lit (List.map e_i64 t)), .d (.int .i64 x73)], .box [.d (.lit (List.map e_i64 r123))], .box [.nilc]]) 1 0 (hi := ty28)) ?_
   refine oD (.undef) (k_store (vs := [.d (.lit (List.map e_i64 r124))]) (H' := [.box [.d (.lit (List.map e_i64 t)), .d (.int .i64 x73)], .box [.d (.lit (List.map e_i64 r123))], .box [.d (.lit (List.map e_i64 r124))]]) 2 0 (hi := ty28)) ?_
   refine oEnd ?_
   refine oSR rfl ?_
   refine oP (.d (.int .u8 kind)) p_move ?_
   refine oP (.d (.int .u8 (Int.tmod kind 3))) (p_rem (k := .u8) (p := kind) (q := 3) (hq := by decide)) ?_
   refine oP (.d (.int .i64 (IntKind.wrap .i64 (Int.tmod kind 3)))) (p_conv (k := .u8) (p := (Int.tmod kind 3)) (hu1 := Try.underlying5) (hu2 := Try.underlying3)) ?_
   refine oP (.d (.int .i64 (IntKind.wrap .i64 (Int.tmod kind 3)))) p_assign ?_
   refine oEnd ?_
   refine oSR rfl ?_
   refine bCall (caps := []) (v := (u0 ((.agg [.d (.int .i64 1), .d (.int .i64 1)] : V)))) (H' := (u0 (([.box [.d (.lit (List.map e_i64 t)), .d (.int .i64 x73)], .box [.d (.lit (List.map e_i64 r123))], .box [.d (.lit (List.map e_i64 r124))]] : List Blk)))) [] _ (law34_whole_goes k 1) (ho := rfl) (hfn := Try.func19) (hb := rfl) (hconv := ConvRs.refl _ _) (hnd := by decide) (hBl := fun _ => (by kernel_rfl)) (hv := fun _ => (by kernel_rfl)) (hH' := fun _ => (by kernel_rfl)) (h := fun r => ?_)
   cases r
   refine bU0 ?_
   refine bCall (caps := []) (v := (u0 ((.agg [.d (.int .i64 0), .d (.int .i64 1)] : V)))) (H' := (u0 (([.box [.d (.lit (List.map e_i64 t)), .d (.int .i64 x73)], .box [.d (.lit (List.map e_i64 r123))], .box [.d (.lit (List.map e_i64 r124))]] : List Blk)))) [] _ (law34_whole_goes k 0) (ho := rfl) (hfn := Try.func19) (hb := rfl) (hconv := ConvRs.refl _ _) (hnd := by decide) (hBl := fun _ => (by kernel_rfl)) (hv := fun _ => (by kernel_rfl)) (hH' := fun _ => (by kernel_rfl)) (h := fun r => ?_)
   cases r
   refine bU0 ?_
   refine bCall (caps := []) (v := (uc fun (r132 : (List SPoint)) => (fun (r142 : Int) => (.tuple [.agg [.d (.lit (List.map e_SPoint r132))], .d (.int .i64 r142)] : V)))) (H' := (uc fun (r132 : (List SPoint)) => (fun (r142 : Int) => ([.box [.d (.lit (List.map e_i64 t)), .d (.int .i64 x73)], .box [.d (.lit (List.map e_i64 r123))], .box [.d (.lit (List.map e_i64 r124))]] : List Blk)))) [] _ (conversion_Line_goes k 1 1 0 1) (ho := rfl) (hfn := Try.func26) (hb := rfl) (hconv := ConvRs.refl _ _) (hnd := by decide) (hBl := fun _ => (by kernel_rfl)) (hv := fun _ => (by kernel_rfl)) (hH' := fun _ => (by kernel_rfl)) (h := fun r => ?_)
   obtain ⟨r132, r142⟩ := r
   refine bUc ?_
   refine oP (.tuple [.agg [.d (.lit (List.map e_SPoint r132))], .d (.int .i64 r142)]) p_move ?_
   refine oP (.agg [.d (.lit (List.map e_SPoint r132))]) k_extract ?_
   refine oP (.d (.int .i64 r142)) k_extract ?_
   refine oD (.ptr 3 0) (k_alloc (H' := [.box [.d (.lit (List.map e_i64 t)), .d (.int .i64 x73)], .box [.d (.lit (List.map e_i64 r123))], .box [.d (.lit (List.map e_i64 r124))], .box [.nilc]]) ty32) ?_
   refine oD (.undef) (k_store (vs := [.d (.lit (List.map e_SPoint r132))]) (H' := [.box [.d (.lit (List.map e_i64 t)), .d (.int .i64 x73)], .box [.d (.lit (List.map e_i64 r123))], .box [.d (.lit (List.map e_i64 r124))], .box [.d (.lit (List.map e_SPoint r132))]]) 3 0 (hi := ty32)) ?_
   refine oP (.d (.int .i64 r142)) p_assign ?_
   refine oEnd ?_
   refine oSR rfl ?_
   refine oP (.d (.int .i64 (IntKind.wrap .i64 (Int.tmod kind 3)))) p_move ?_
   refine oQ (.agg [.d (.lit (List.map e_i64 r123))]) (k_loadAgg 1 0 (hu := Try.underlying28) (hi := ty28)) ?_
   refine oQ (.agg [.d (.lit (List.map e_i64 r123))]) (k_loadAgg 1 0 (hu := Try.underlying28) (hi := ty28)) ?_
   refine bCall (caps := []) (v := (uc fun (r114 : (List SPoint)) => (fun (r133 : Int) => (.tuple [.agg [.d (.lit (List.map e_SPoint r114))], .d (.int .i64 r133)] : V)))) (H' := (uc fun (r114 : (List SPoint)) => (fun (r133 : Int) => ([.box [.d (.lit (List.map e_i64 t)), .d (.int .i64 x73)], .box [.d (.lit (List.map e_i64 r123))], .box [.d (.lit (List.map e_i64 r124))], .box [.d (.lit (List.map e_SPoint r132))]] : List Blk)))) [] _ (equating_Equate_goes k (IntKind.wrap .i64 (Int.tmod kind 3)) r123 r123) (ho := rfl) (hfn := Try.func23) (hb := rfl) (hconv := ConvRs.refl _ _) (hnd := by decide) (hBl := fun _ => (by kernel_rfl)) (hv := fun _ => (by kernel_rfl)) (hH' := fun _ => (by kernel_rfl)) (h := fun r => ?_)
   obtain ⟨r114, r133⟩ := r
   refine bUc ?_
   refine oP (.tuple [.agg [.d (.lit (List.map e_SPoint r114))], .d (.int .i64 r133)]) p_move ?_
   refine oP (.agg [.d (.lit (List.map e_SPoint r114))]) k_extract ?_
   refine oP (.d (.int .i64 r133)) k_extract ?_
   refine oD (.ptr 4 0) (k_alloc (H' := [.box [.d (.lit (List.map e_i64 t)), .d (.int .i64 x73)], .box [.d (.lit (List.map e_i64 r123))], .box [.d (.lit (List.map e_i64 r124))], .box [.d (.lit (List.map e_SPoint r132))], .box [.nilc]]) ty32) ?_
   refine oD (.undef) (k_store (vs := [.d (.lit (List.map e_SPoint r114))]) (H' := [.box [.d (.lit (List.map e_i64 t)), .d (.int .i64 x73)], .box [.d (.lit (List.map e_i64 r123))], .box [.d (.lit (List.map e_i64 r124))], .box [.d (.lit (List.map e_SPoint r132))], .box [.d (.lit (List.map e_SPoint r114))]]) 4 0 (hi := ty32)) ?_
   refine oP (.d (.int .i64 r133)) p_assign ?_
   refine oEnd ?_
   refine oSR rfl ?_
   refine oQ (.agg [.d (.lit (List.map e_i64 r123))]) (k_loadAgg 1 0 (hu := Try.underlying28) (hi := ty28)) ?_
   refine oQ (.agg [.d (.lit (List.map e_i64 r124))]) (k_loadAgg 2 0 (hu := Try.underlying28) (hi := ty28)) ?_
   refine oQ (.agg [.d (.lit (List.map e_i64 r124))]) (k_loadAgg 2 0 (hu := Try.underlying28) (hi := ty28)) ?_
   refine oQ (.agg [.d (.lit (List.map e_i64 r123))]) (k_loadAgg 1 0 (hu := Try.underlying28) (hi := ty28)) ?_
   refine oP (.d (.int .i64 (IntKind.wrap .i64 (Int.tmod kind 3)))) p_move ?_
   refine bCall (caps := []) (v := (uc fun (r125 : (List SPoint)) => (fun (r143 : Int) => (.tuple [.agg [.d (.lit (List.map e_SPoint r125))], .d (.int .i64 r143)] : V)))) (H' := (uc fun (r125 : (List SPoint)) => (fun (r143 : Int) => ([.box [.d (.lit (List.map e_i64 t)), .d (.int .i64 x73)], .box [.d (.lit (List.map e_i64 r123))], .box [.d (.lit (List.map e_i64 r124))], .box [.d (.lit (List.map e_SPoint r132))], .box [.d (.lit (List.map e_SPoint r114))]] : List Blk)))) [] _ (equating_Chain_goes k r123 r124 r124 r123 (IntKind.wrap .i64 (Int.tmod kind 3))) (ho := rfl) (hfn := Try.func27) (hb := rfl) (hconv := ConvRs.refl _ _) (hnd := by decide) (hBl := fun _ => (by kernel_rfl)) (hv := fun _ => (by kernel_rfl)) (hH' := fun _ => (by kernel_rfl)) (h := fun r => ?_)
   obtain ⟨r125, r143⟩ := r
   refine bUc ?_
   refine oP (.tuple [.agg [.d (.lit (List.map e_SPoint r125))], .d (.int .i64 r143)]) p_move ?_
   refine oP (.agg [.d (.lit (List.map e_SPoint r125))]) k_extract ?_
   refine oP (.d (.int .i64 r143)) k_extract ?_
   refine oD (.ptr 5 0) (k_alloc (H' := [.box [.d (.lit (List.map e_i64 t)), .d (.int .i64 x73)], .box [.d (.lit (List.map e_i64 r123))], .box [.d (.lit (List.map e_i64 r124))], .box [.d (.lit (List.map e_SPoint r132))], .box [.d (.lit (List.map e_SPoint r114))], .box [.nilc]]) ty32) ?_
   refine oD (.undef) (k_store (vs := [.d (.lit (List.map e_SPoint r125))]) (H' := [.box [.d (.lit (List.map e_i64 t)), .d (.int .i64 x73)], .box [.d (.lit (List.map e_i64 r123))], .box [.d (.lit (List.map e_i64 r124))], .box [.d (.lit (List.map e_SPoint r132))], .box [.d (.lit (List.map e_SPoint r114))], .box [.d (.lit (List.map e_SPoint r125))]]) 5 0 (hi := ty32)) ?_
   refine oP (.d (.int .i64 r143)) p_assign ?_
   refine oEnd ?_
   refine oSeq ?_
   refine oSR rfl ?_
   refine oP (.d (.int .i64 r142)) p_move ?_
   refine oP (.d (.bool (r142 != 0))) (p_int (k := .i64) (p := r142) (q := 0)) ?_
   refine oP (.d (.bool (r142 != 0))) p_move ?_
   refine bMeet 3 rfl ((uc fun (k13 : Int) => (fun (x13 : Bool) => [(8, .d (.int .i64 k13)), (9, .ptr 0 0), (10, .d (.int .i64 r142)), (11, .ptr 1 0), (12, .d (.int .i64 r133)), (13, .ptr 2 0), (14, .d (.int .i64 r143)), (55, .d (.bool x13))]))) ((uc fun (k13 : Int) => (fun (x13 : Bool) => [.box [.d (.lit (List.map e_SPoint r132))], .box [.d (.lit (List.map e_SPoint r114))], .box [.d (.lit (List.map e_SPoint r125))]]))) (fun s => s) (fun s => ?_) (fun hj8 => ?_)
   ·obtain ⟨k13, x13⟩ := s
    refine bUc ?_
    refine oView (T' := [(8, .d (.int .i64 k13)), (9, .ptr 0 0), (10, .d (.int .i64 r142)), (11, .ptr 1 0), (12, .d (.int .i64 r133)), (13, .ptr 2 0), (14, .d (.int .i64 r143)), (55, .d (.bool x13))]) (H' := [.box [.d (.lit (List.map e_SPoint r132))], .box [.d (.lit (List.map e_SPoint r114))], .box [.d (.lit (List.map e_SPoint r125))]]) (h := ?_)
    refine oEnd ?_
    refine bSplit 55 (h1 := fun hc => ?_) (h2 := fun hc => ?_)
    ·refine oCondT (h := ?_)
     refine oSR rfl ?_
     refine oP (.d (.int .i64 k13)) p_move ?_
     refine oP (.d (.bool (k13 == 1))) (p_int (k := .i64) (p := k13) (q := 1)) ?_
     refine oP (.d (.bool (k13 == 1))) p_move ?_
     refine bMeetF (H' := []) 3 rfl ((fun (x16 : Bool) => [(61, .d (.bool x16))])) (fun x16 => ?_) (fun F hj1 => ?_)
     ·refine oView (T' := [(61, .d (.bool x16))]) (H' := []) (h := ?_)
      refine oP (.d (.bool x16)) p_move ?_
      refine bMeet 2 rfl ((fun (x17 : Bool) => [(64, .d (.bool x17))])) ((fun (x17 : Bool) => [])) (fun s => s) (fun x17 => ?_) (fun hj2 => ?_)
      ·refine oView (T' := [(64, .d (.bool x17))]) (H' := []) (h := ?_)
       refine oP (.d (.bool x17)) p_assign ?_
       refine oEnd ?_
       exact oRet (r0 := x17) (rv := .d (.bool x17)) (B := []) (vs := [.d (.bool x17)]) (σ := []) (hf := Try.func6) (hrs := rfl) (hres := .cons _ _ _ _ (.tmp 4 _ (by kernel_rfl)) .nil) (hnd := by decide)
      ·refine bSplit 62 (h1 := fun hc => ?_) (h2 := fun hc => ?_)
       ·refine bCall (caps := []) (v := (fun (r117 : Bool) => (.d (.bool r117) : V))) (H' := (fun (r117 : Bool) => ([] : List Blk))) [] _ (law34_sane_goes k) (ho := rfl) (hfn := Try.func8) (hb := rfl) (hconv := ConvRs.refl _ _) (hnd := by decide) (hBl := fun _ => (by kernel_rfl)) (hv := fun _ => (by kernel_rfl)) (hH' := fun _ => (by kernel_rfl)) (h := fun r117 => ?_)
        refine oP (.d (.bool r117)) (p_pick (b := true)) ?_
        refine oHead [64] [] (T' := [(64, .d (.bool r117))]) (H' := []) (hnd := by decide) (h := ?_)
        exact hj2 r117
       ·refine oNot (h := ?_)
        refine oP (.d (.bool false)) (p_pick (b := false)) ?_
        refine oHead [64] [] (T' := [(64, .d (.bool false))]) (H' := []) (hnd := by decide) (h := ?_)
        exact hj2 false
     ·refine bPickF 58 (fun c => F (c && (r142 == 0))) (h1 := fun hc => ?_) (h2 := fun hc => ?_)
      ·refine oP (.d (.int .i64 r142)) p_move ?_
       refine oP (.d (.bool (r142 == 0))) (p_int (k := .i64) (p := r142) (q := 0)) ?_
       refine oP (.d (.bool (r142 == 0))) (p_pick (b := true)) ?_
       refine oHead [61] [] (T' := [(61, .d (.bool (r142 == 0)))]) (H' := []) (hnd := by decide) (h := ?_)
       exact hj1 (r142 == 0)
      ·refine oNot (h := ?_)
       refine oNot (h := ?_)
       refine oP (.d (.bool false)) (p_pick (b := false)) ?_
       refine oHead [61] [] (T' := [(61, .d (.bool false))]) (H' := []) (hnd := by decide) (h := ?_)
       exact hj1 false
    ·refine oCondF (h := ?_)
     refine oSkip ?_
     refine oSR rfl ?_
     refine oP (.d (.int .i64 r133)) p_move ?_
     refine oP (.d (.bool (r133 == 0))) (p_int (k := .i64) (p := r133) (q := 0)) ?_
     refine oP (.d (.bool (r133 == 0))) p_move ?_
     refine bMeet 4 rfl ((fun (x18 : Bool) => [(9, .ptr 0 0), (13, .ptr 1 0), (14, .d (.int .i64 r143)), (71, .d (.bool x18))])) ((fun (x18 : Bool) => [.box [.d (.lit (List.map e_SPoint r132))], .box [.d (.lit (List.map e_SPoint r125))]])) (fun s => s) (fun x18 => ?_) (fun hj7 => ?_)
     ·refine oView (T' := [(9, .ptr 0 0), (13, .ptr 1 0), (14, .d (.int .i64 r143)), (71, .d (.bool x18))]) (H' := [.box [.d (.lit (List.map e_SPoint r132))], .box [.d (.lit (List.map e_SPoint r125))]]) (h := ?_)
      refine oP (.d (.bool x18)) p_move ?_
      refine bMeet 12 rfl ((fun (x21 : Bool) => [(84, .d (.bool x21))])) ((fun (x21 : Bool) => [])) (fun s => s) (fun x21 => ?_) (fun hj4 => ?_)
      ·refine oView (T' := [(84, .d (.bool x21))]) (H' := []) (h := ?_)
       refine oP (.d (.bool x21)) p_move ?_
       refine bMeet 2 rfl ((fun (x22 : Bool) => [(87, .d (.bool x22))])) ((fun (x22 : Bool) => [])) (fun s => s) (fun x22 => ?_) (fun hj3 => ?_)
       ·refine oView (T' := [(87, .d (.bool x22))]) (H' := []) (h := ?_)
        refine oP (.d (.bool x22)) p_assign ?_
        refine oEnd ?_
        exact oRet (r0 := x22) (rv := .d (.bool x22)) (B := []) (vs := [.d (.bool x22)]) (σ := []) (hf := Try.func6) (hrs := rfl) (hres := .cons _ _ _ _ (.tmp 4 _ (by kernel_rfl)) .nil) (hnd := by decide)
       ·refine bSplit 85 (h1 := fun hc => ?_) (h2 := fun hc => ?_)
        ·refine bCall (caps := []) (v := (fun (r126 : Bool) => (.d (.bool r126) : V))) (H' := (fun (r126 : Bool) => ([] : List Blk))) [] _ (law34_sane_goes k) (ho := rfl) (hfn := Try.func8) (hb := rfl) (hconv := ConvRs.refl _ _) (hnd := by decide) (hBl := fun _ => (by kernel_rfl)) (hv := fun _ => (by kernel_rfl)) (hH' := fun _ => (by kernel_rfl)) (h := fun r126 => ?_)
         refine oP (.d (.bool r126)) (p_pick (b := true)) ?_
         refine oHead [87] [] (T' := [(87, .d (.bool r126))]) (H' := []) (hnd := by decide) (h := ?_)
         exact hj3 r126
        ·refine oNot (h := ?_)
         refine oP (.d (.bool false)) (p_pick (b := false)) ?_
         refine oHead [87] [] (T' := [(87, .d (.bool false))]) (H' := []) (hnd := by decide) (h := ?_)
         exact hj3 false
      ·refine bSplit 72 (h1 := fun hc => ?_) (h2 := fun hc => ?_)
       ·refine oP (.d (.int .i64 r143)) p_move ?_
        refine oP (.d (.bool (r143 == 10))) (p_int (k := .i64) (p := r143) (q := 10)) ?_
        refine oP (.d (.bool (r143 == 10))) p_move ?_
        refine bMeet 8 rfl ((fun (x24 : Bool) => [(72, .d (.bool true)), (83, .d (.bool x24))])) ((fun (x24 : Bool) => [])) (fun s => s) (fun x24 => ?_) (fun hj5 => ?_)
        ·refine oView (T' := [(72, .d (.bool true)), (83, .d (.bool x24))]) (H' := []) (h := ?_)
         refine oP (.d (.bool x24)) (p_pick (b := true)) ?_
         refine oHead [84] [] (T' := [(84, .d (.bool x24))]) (H' := []) (hnd := by decide) (h := ?_)
         exact hj4 x24
        ·refine bSplit 75 (h1 := fun hc => ?_) (h2 := fun hc => ?_)
         ·refine oNot (h := ?_)
          refine oNot (h := ?_)
          refine oNot (h := ?_)
          refine oNot (h := ?_)
          refine oNot (h := ?_)
          refine oNot (h := ?_)
          refine oNot (h := ?_)
          refine oP (.d (.bool true)) (p_pick (b := true)) ?_
          refine oHead [72, 83] [] (T' := [(72, .d (.bool true)), (83, .d (.bool true))]) (H' := []) (hnd := by decide) (h := ?_)
          exact hj5 true
         ·refine oP (.d (.int .i64 r143)) p_move ?_
          refine oP (.d (.bool (r143 == 0))) (p_int (k := .i64) (p := r143) (q := 0)) ?_
          refine oP (.d (.bool (r143 == 0))) p_move ?_
          refine bMeet 4 rfl ((fun (x25 : Bool) => [(72, .d (.bool true)), (75, .d (.bool false)), (82, .d (.bool x25))])) ((fun (x25 : Bool) => [])) (fun s => s) (fun x25 => ?_) (fun hj6 => ?_)
          ·refine oView (T' := [(72, .d (.bool true)), (75, .d (.bool false)), (82, .d (.bool x25))]) (H' := []) (h := ?_)
           refine oP (.d (.bool x25)) (p_pick (b := false)) ?_
           refine oHead [72, 83] [] (T' := [(72, .d (.bool true)), (83, .d (.bool x25))]) (H' := []) (hnd := by decide) (h := ?_)
           exact hj5 x25
          ·refine bSplit 78 (h1 := fun hc => ?_) (h2 := fun hc => ?_)
           ·refine oQ (.agg [.d (.lit (List.map e_SPoint r125))]) (k_loadAgg 1 0 (hu := Try.underlying32) (hi := ty32)) ?_
            refine oQ (.agg [.d (.lit (List.map e_SPoint r132))]) (k_loadAgg 0 0 (hu := Try.underlying32) (hi := ty32)) ?_
            refine bCall (caps := []) (v := (fun (r1112 : Bool) => (.d (.bool r1112) : V))) (H' := (fun (r1112 : Bool) => ([.box [.d (.lit (List.map e_SPoint r132))], .box [.d (.lit (List.map e_SPoint r125))]] : List Blk))) [] _ (conversion_Same_goes k r125 r132) (ho := rfl) (hfn := Try.func25) (hb := rfl) (hconv := ConvRs.refl _ _) (hnd := by decide) (hBl := fun _ => (by kernel_rfl)) (hv := fun _ => (by kernel_rfl)) (hH' := fun _ => (by kernel_rfl)) (h := fun r1112 => ?_)
            refine oP (.d (.bool r1112)) (p_pick (b := true)) ?_
            refine oHead [72, 75, 82] [] (T' := [(72, .d (.bool true)), (75, .d (.bool false)), (82, .d (.bool r1112))]) (H' := []) (hnd := by decide) (h := ?_)
            exact hj6 r1112
           ·refine oNot (h := ?_)
            refine oNot (h := ?_)
            refine oNot (h := ?_)
            refine oP (.d (.bool false)) (p_pick (b := false)) ?_
            refine oHead [72, 75, 82] [] (T' := [(72, .d (.bool true)), (75, .d (.bool false)), (82, .d (.bool false))]) (H' := []) (hnd := by decide) (h := ?_)
            exact hj6 false
       ·refine oNot (h := ?_)
        refine oNot (h := ?_)
        refine oNot (h := ?_)
        refine oNot (h := ?_)
        refine oNot (h := ?_)
        refine oNot (h := ?_)
        refine oNot (h := ?_)
        refine oNot (h := ?_)
        refine oNot (h := ?_)
        refine oNot (h := ?_)
        refine oNot (h := ?_)
        refine oP (.d (.bool false)) (p_pick (b := false)) ?_
        refine oHead [84] [] (T' := [(84, .d (.bool false))]) (H' := []) (hnd := by decide) (h := ?_)
        exact hj4 false
     ·refine bSplit 67 (h1 := fun hc => ?_) (h2 := fun hc => ?_)
      ·refine oQ (.agg [.d (.lit (List.map e_SPoint r114))]) (k_loadAgg 1 0 (hu := Try.underlying32) (hi := ty32)) ?_
       refine oQ (.agg [.d (.lit (List.map e_SPoint r132))]) (k_loadAgg 0 0 (hu := Try.underlying32) (hi := ty32)) ?_
       refine bCall (caps := []) (v := (fun (r1113 : Bool) => (.d (.bool r1113) : V))) (H' := (fun (r1113 : Bool) => ([.box [.d (.lit (List.map e_SPoint r132))], .box [.d (.lit (List.map e_SPoint r114))], .box [.d (.lit (List.map e_SPoint r125))]] : List Blk))) [] _ (conversion_Same_goes k r114 r132) (ho := rfl) (hfn := Try.func25) (hb := rfl) (hconv := ConvRs.refl _ _) (hnd := by decide) (hBl := fun _ => (by kernel_rfl)) (hv := fun _ => (by kernel_rfl)) (hH' := fun _ => (by kernel_rfl)) (h := fun r1113 => ?_)
       refine oP (.d (.bool r1113)) (p_pick (b := true)) ?_
       refine oHead [9, 13, 14, 71] [0, 2] (T' := [(9, .ptr 0 0), (13, .ptr 1 0), (14, .d (.int .i64 r143)), (71, .d (.bool r1113))]) (H' := [.box [.d (.lit (List.map e_SPoint r132))], .box [.d (.lit (List.map e_SPoint r125))]]) (hnd := by decide) (h := ?_)
       exact hj7 r1113
      ·refine oNot (h := ?_)
       refine oNot (h := ?_)
       refine oNot (h := ?_)
       refine oP (.d (.bool false)) (p_pick (b := false)) ?_
       refine oHead [9, 13, 14, 71] [0, 2] (T' := [(9, .ptr 0 0), (13, .ptr 1 0), (14, .d (.int .i64 r143)), (71, .d (.bool false))]) (H' := [.box [.d (.lit (List.map e_SPoint r132))], .box [.d (.lit (List.map e_SPoint r125))]]) (hnd := by decide) (h := ?_)
       exact hj7 false
   ·refine bSplit 52 (h1 := fun hc => ?_) (h2 := fun hc => ?_)
    ·refine oNot (h := ?_)
     refine oNot (h := ?_)
     refine oP (.d (.bool true)) (p_pick (b := true)) ?_
     refine oHead [8, 9, 10, 11, 12, 13, 14, 55] [3, 4, 5] (T' := [(8, .d (.int .i64 (IntKind.wrap .i64 (Int.tmod kind 3)))), (9, .ptr 0 0), (10, .d (.int .i64 r142)), (11, .ptr 1 0), (12, .d (.int .i64 r133)), (13, .ptr 2 0), (14, .d (.int .i64 r143)), (55, .d (.bool true))]) (H' := [.box [.d (.lit (List.map e_SPoint r132))], .box [.d (.lit (List.map e_SPoint r114))], .box [.d (.lit (List.map e_SPoint r125))]]) (hnd := by decide) (h := ?_)
     exact hj8 ((IntKind.wrap .i64 (Int.tmod kind 3)), true)
    ·refine oP (.d (.int .i64 r133)) p_move ?_
     refine oP (.d (.bool (r133 == 10))) (p_int (k := .i64) (p := r133) (q := 10)) ?_
     refine oP (.d (.bool (r133 == 10))) (p_pick (b := false)) ?_
     refine oHead [8, 9, 10, 11, 12, 13, 14, 55] [3, 4, 5] (T' := [(8, .d (.int .i64 (IntKind.wrap .i64 (Int.tmod kind 3)))), (9, .ptr 0 0), (10, .d (.int .i64 r142)), (11, .ptr 1 0), (12, .d (.int .i64 r133)), (13, .ptr 2 0), (14, .d (.int .i64 r143)), (55, .d (.bool (r133 == 10)))]) (H' := [.box [.d (.lit (List.map e_SPoint r132))], .box [.d (.lit (List.map e_SPoint r114))], .box [.d (.lit (List.map e_SPoint r125))]]) (hnd := by decide) (h := ?_)
     exact hj8 ((IntKind.wrap .i64 (Int.tmod kind 3)), (r133 == 10))

end Go.VM
