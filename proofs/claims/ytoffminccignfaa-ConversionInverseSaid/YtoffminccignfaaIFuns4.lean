/- Plain functions that answer as the program's functions do, and the proof that they do. -/
import Derived.Test.YtoffminccignfaaProg
import Derived.KernelRfl
import Derived.Test.YtoffminccignfaaEngPart
import Derived.Test.YtoffminccignfaaIFacts
import Derived.Test.YtoffminccignfaaIFuns0
import Derived.Test.YtoffminccignfaaIFuns2
import Derived.Test.YtoffminccignfaaIFuns3
namespace Go.VM
open Go.Proofs
set_option linter.unusedVariables false
set_option linter.unusedSimpArgs false
set_option maxRecDepth 100000
/-- slices.Compact[[]awardingbody/api.Ratio,awardingbody/api.Ratio] -/
def slices_Compact_api_Ratio_api_Ratio_b2 (k : Nat) (xs : (List SRatio)) (k179 : Int) (again : Int × Int × (List SRatio) → Option (Int × (List SRatio))) : Int × Int × (List SRatio) → Option (Int × (List SRatio)) := uc fun k1112 => uc fun k242 => fun xs172 => bif (decide (k242 < ((((List.length xs) - Int.toNat k179) : Nat) : Int))) then Option.bind (gidx (List.take ((List.length xs) - Int.toNat k179) (List.drop (0 + Int.toNat k179) xs172)) k242 fun e12 => gidx (List.take ((List.length xs) - Int.toNat k179) (List.drop (0 + Int.toNat k179) xs172)) (IntKind.wrap .i64 (k242 - 1)) fun e13 => bif (!((e12.Num == e13.Num) && ((e12.Den == e13.Den) && true))) then gidx xs172 k1112 fun e149 => blet (List.set xs172 (Int.toNat k1112) e12) fun xs178 => some ((IntKind.wrap .i64 (k1112 + 1)), xs178) else some (k1112, xs172) : Option (Int × (List SRatio))) (uc fun k1115 => fun xs177 => again (k1115, (IntKind.wrap .i64 (k242 + 1)), xs177)) else some (k1112, xs172)
def slices_Compact_api_Ratio_api_Ratio_b1 (k : Nat) (xs : (List SRatio)) (again : Int → Option ((Unit) ⊕ ((List SRatio) × (List SRatio)))) : Int → Option ((Unit) ⊕ ((List SRatio) × (List SRatio))) := fun k179 => bif (decide (k179 < ((List.length xs) : Int))) then gidx xs k179 fun e1 => gidx xs (IntKind.wrap .i64 (k179 - 1)) fun e11 => bif ((e1.Num == e11.Num) && ((e1.Den == e11.Den) && true)) then gcut 0 k179 ((List.length xs) : Int) (Option.bind (gloop (slices_Compact_api_Ratio_api_Ratio_b2 k xs k179) k (k179, 1, xs) : Option (Int × (List SRatio))) (uc fun k1110 => fun xs168 => gcut 0 k1110 ((List.length xs168) : Int) (blet (gclear xs168 (⟨0, 0⟩ : SRatio) (0 + Int.toNat k1110) ((List.length xs168) - Int.toNat k1110)) fun xs169 => gcut 0 k1110 ((List.length xs169) : Int) (some (Sum.inr ((List.take (Int.toNat k1110) (List.drop 0 xs169)), xs169)))))) else again (IntKind.wrap .i64 (k179 + 1)) else some (Sum.inl ())
def slices_Compact_api_Ratio_api_Ratio (k : Nat) (xs : (List SRatio)) : Option ((List SRatio) × (List SRatio)) := bif (decide (((List.length xs) : Int) < 2)) then some (xs, xs) else Option.bind (gloop (slices_Compact_api_Ratio_api_Ratio_b1 k xs) k 1 : Option ((Unit) ⊕ ((List SRatio) × (List SRatio)))) (Sum.elim (u0 (some (xs, xs))) (fun r => some r))
def slices_Compact_api_Ratio_api_Ratio_E (xs : (List SRatio)) : (List SRatio) × (List SRatio) → V × List Blk := uc fun r1 => fun xs49 => (.d (.lit (List.map e_SRatio r1)), [.sl 2 (List.map e_SRatio xs49) true])
theorem slices_Compact_api_Ratio_api_Ratio_goes (k : Nat) (xs : (List SRatio)) : RunsO Try.prog 30 [.ref 0 (List.length xs) 0 (List.length xs)] [.sl 2 (List.map e_SRatio xs) false] (slices_Compact_api_Ratio_api_Ratio_E xs) (slices_Compact_api_Ratio_api_Ratio k xs) := by
  refine RunsO.of_goes (N := 61) (m := 1) (T := [(0, .ref 0 (List.length xs) 0 (List.length xs))]) Try.func30 rfl rfl (h := ?_)
  unfold slices_Compact_api_Ratio_api_Ratio
  refine bStart ?_
  refine oSR rfl ?_
  refine oP (.nilc) p_assign ?_
  refine oEnd ?_
  refine oSeq ?_
  refine oSR rfl ?_
  refine oP (.ref 0 (List.length xs) 0 (List.length xs)) p_move ?_
  refine oP (.d (.int .i64 ((List.length xs) : Int))) (k_lenRef (enc := e_SRatio) (sz := 2) (fro := false) 0 xs (hu := Try.underlying59)) ?_
  refine oP (.d (.bool (decide (((List.length xs) : Int) < 2)))) (p_int (k := .i64) (p := ((List.length xs) : Int)) (q := 2)) ?_
  refine oEnd ?_
  refine bSplit 8 (h1 := fun hc => ?_) (h2 := fun hc => ?_)
  ·refine oCondT (h := ?_)
   refine oSR rfl ?_
   refine oP (.ref 0 (List.length xs) 0 (List.length xs)) p_move ?_
   refine oP (.ref 0 (List.length xs) 0 (List.length xs)) p_assign ?_
   refine oEnd ?_
   refine oFreeze 0 (esz := 2) (xs := List.map e_SRatio xs) (h := ?_)
   refine oView (H' := [.sl 2 (List.map e_SRatio xs) true]) rfl (h := ?_)
   refine oConv 2 (v := .ref 0 (List.length xs) 0 (List.length xs)) (v' := .d (.lit (List.map e_SRatio xs))) (hc := k_lit (enc := e_SRatio) (sz := 2) 0 xs) (h := ?_)
   exact oRet (r0 := (xs, xs)) (rv := .d (.lit (List.map e_SRatio xs))) (B := [.sl 2 (List.map e_SRatio xs) true]) (vs := [.d (.lit (List.map e_SRatio xs))]) (σ := [0]) (hf := Try.func30) (hrs := rfl) (hres := .cons _ _ _ _ (.tmp 2 _ (by kernel_rfl)) .nil) (hnd := by decide)
  ·refine oCondF (h := ?_)
   refine oSkip ?_
   refine oSeq ?_
   refine oSR rfl ?_
   refine oP (.d (.int .i64 1)) p_assign ?_
   refine oEnd ?_
   refine bJoin ((u0 ([(0, .ref 0 (List.length xs) 0 (List.length xs))]))) ((u0 ([.sl 2 (List.map e_SRatio xs) false]))) Sum.inl (fun s => ?_) (fun hj38 => ?_)
   ·cases s
    refine bInl ?_
    refine bU0 ?_
    refine oView (T' := [(0, .ref 0 (List.length xs) 0 (List.length xs))]) (H' := [.sl 2 (List.map e_SRatio xs) false]) (h := ?_)
    refine oSR rfl ?_
    refine oP (.ref 0 (List.length xs) 0 (List.length xs)) p_move ?_
    refine oP (.ref 0 (List.length xs) 0 (List.length xs)) p_assign ?_
    refine oEnd ?_
    refine oFreeze 0 (esz := 2) (xs := List.map e_SRatio xs) (h := ?_)
    refine oView (H' := [.sl 2 (List.map e_SRatio xs) true]) rfl (h := ?_)
    refine oConv 2 (v := .ref 0 (List.length xs) 0 (List.length xs)) (v' := .d (.lit (List.map e_SRatio xs))) (hc := k_lit (enc := e_SRatio) (sz := 2) 0 xs) (h := ?_)
    exact oRet (r0 := (xs, xs)) (rv := .d (.lit (List.map e_SRatio xs))) (B := [.sl 2 (List.map e_SRatio xs) true]) (vs := [.d (.lit (List.map e_SRatio xs))]) (σ := [0]) (hf := Try.func30) (hrs := rfl) (hres := .cons _ _ _ _ (.tmp 2 _ (by kernel_rfl)) .nil) (hnd := by decide)
   ·refine oBlock ?_
    refine oLoop ?_
    refine oHead [0, 3] [0] (T' := [(0, .ref 0 (List.length xs) 0 (List.length xs)), (3, .d (.int .i64 1))]) (H' := [.sl 2 (List.map e_SRatio xs) false]) (hnd := by decide) (h := ?_)
    refine bLoop (body := slices_Compact_api_Ratio_api_Ratio_b1 k xs) ((fun (k179 : Int) => [(0, .ref 0 (List.length xs) 0 (List.length xs)), (3, .d (.int .i64 k179))])) ((fun (k179 : Int) => [.sl 2 (List.map e_SRatio xs) false])) (fun again hag1 k179 => ?_) k 1
    ·unfold slices_Compact_api_Ratio_api_Ratio_b1
     refine oView (T' := [(0, .ref 0 (List.length xs) 0 (List.length xs)), (3, .d (.int .i64 k179))]) (H' := [.sl 2 (List.map e_SRatio xs) false]) (h := ?_)
     refine oSeq ?_
     refine oSR rfl ?_
     refine oP (.d (.int .i64 k179)) p_move ?_
     refine oP (.ref 0 (List.length xs) 0 (List.length xs)) p_move ?_
     refine oP (.d (.int .i64 ((List.length xs) : Int))) (k_lenRef (enc := e_SRatio) (sz := 2) (fro := false) 0 xs (hu := Try.underlying59)) ?_
     refine oP (.d (.bool (decide (k179 < ((List.length xs) : Int))))) (p_int (k := .i64) (p := k179) (q := ((List.length xs) : Int))) ?_
     refine oEnd ?_
     refine bSplit 13 (h1 := fun hc => ?_) (h2 := fun hc => ?_)
     ·refine oCondT (h := ?_)
      refine oSkip ?_
      refine oSeq ?_
      refine oBlock ?_
      refine oSeq ?_
      refine oDraw [(0, 10)] rfl ?_
      refine aP 0 (.ref 0 (List.length xs) 0 (List.length xs)) rfl p_move ?_
      refine aP 1 (.d (.int .i64 k179)) rfl p_move ?_
      refine dIdx (fun e1 h1 h11 => ?_)
      refine aP 2 (.eptr 0 (List.length xs) (Int.toNat k179) 0) rfl (k_idxRef (enc := e_SRatio) (fro := false) xs (a := e1) (k := .i64) (i := k179) (hu := Try.underlying59) (hi := ty37) (h0 := h1) (he := h11)) ?_
      refine aQ 3 [0] (.agg [.d (.int .i64 e1.Num), .d (.int .i64 e1.Den)]) rfl (k_loadEAgg (enc := e_SRatio) (sz0 := 2) (fro := false) 0 0 xs [(.int .i64 e1.Num), (.int .i64 e1.Den)] (hu := Try.underlying37) (hi := ty37) (he := h11)) ?_
      refine aP 4 (.ref 0 (List.length xs) 0 (List.length xs)) rfl p_move ?_
      refine aP 5 (.d (.int .i64 k179)) rfl p_move ?_
      refine aP 6 (.d (.int .i64 (IntKind.wrap .i64 (k179 - 1)))) rfl (p_int (k := .i64) (p := k179) (q := 1)) ?_
      refine dIdx (fun e11 h12 h13 => ?_)
      refine aP 7 (.eptr 0 (List.length xs) (Int.toNat (IntKind.wrap .i64 (k179 - 1))) 0) rfl (k_idxRef (enc := e_SRatio) (fro := false) xs (a := e11) (k := .i64) (i := (IntKind.wrap .i64 (k179 - 1))) (hu := Try.underlying59) (hi := ty37) (h0 := h12) (he := h13)) ?_
      refine aQ 8 [0] (.agg [.d (.int .i64 e11.Num), .d (.int .i64 e11.Den)]) rfl (k_loadEAgg (enc := e_SRatio) (sz0 := 2) (fro := false) 0 0 xs [(.int .i64 e11.Num), (.int .i64 e11.Den)] (hu := Try.underlying37) (hi := ty37) (he := h13)) ?_
      refine aP 9 (.d (.bool ((e1.Num == e11.Num) && ((e1.Den == e11.Den) && true)))) rfl (k_eqAgg (hg := Try.eqGuardType37) (h := EqV.struct 1 37 [.d (.int .i64 e1.Num), .d (.int .i64 e1.Den)] [.d (.int .i64 e11.Num), .d (.int .i64 e11.Den)] _ ((e1.Num == e11.Num) && ((e1.Den == e11.Den) && true)) Try.underlying37 Try.stoodInHeld37 (EqF.one 1 1 _ _ _ _ _ _ _ (e1.Num == e11.Num) ((e1.Den == e11.Den) && true) (by kernel_rfl) Try.underlying3 (by kernel_rfl) (by kernel_rfl) (by kernel_rfl) (by kernel_rfl) (EqV.int 3 .i64 .i64 e1.Num e11.Num Try.underlying3) (EqF.one 1 1 _ _ _ _ _ _ _ (e1.Den == e11.Den) true (by kernel_rfl) Try.underlying3 (by kernel_rfl) (by kernel_rfl) (by kernel_rfl) (by kernel_rfl) (EqV.int 3 .i64 .i64 e1.Den e11.Den Try.underlying3) (EqF.nil 1 _ _))))) ?_
      refine aDone (h := ?_)
      refine bSplit 25 (h1 := fun hc => ?_) (h2 := fun hc => ?_)
      ·refine oCondT (h := ?_)
       refine oSR rfl ?_
       refine oP (.ref 0 (List.length xs) 0 (List.length xs)) p_move ?_
       refine oP (.d (.int .i64 k179)) p_move ?_
       refine bCut (fun h1268 h1269 h1270 => ?_)
       refine oP (.ref 0 (List.length xs) (0 + Int.toNat k179) ((List.length xs) - Int.toNat k179)) (k_partL (enc := e_SRatio) (fro := false) (k1 := .i64) (l := k179) 0 0 (List.length xs) xs (by kernel_rfl) (by kernel_rfl) (by kernel_rfl) Try.underlying59 ty37 h1269 h1270) ?_
       refine oP (.ref 0 (List.length xs) (0 + Int.toNat k179) ((List.length xs) - Int.toNat k179)) p_assign ?_
       refine oEnd ?_
       refine oSeq ?_
       refine oSR rfl ?_
       refine oP (.d (.int .i64 1)) p_assign ?_
       refine oEnd ?_
       refine bJoin ((uc fun (k1110 : Int) => (fun (xs168 : (List SRatio)) => [(0, .ref 0 (List.length xs168) 0 (List.length xs168)), (3, .d (.int .i64 k1110))]))) ((uc fun (k1110 : Int) => (fun (xs168 : (List SRatio)) => [.sl 2 (List.map e_SRatio xs168) false]))) (fun s => s) (fun s => ?_) (fun hj65 => ?_)
       ·obtain ⟨k1110, xs168⟩ := s
        refine bUc ?_
        refine oView (T' := [(0, .ref 0 (List.length xs168) 0 (List.length xs168)), (3, .d (.int .i64 k1110))]) (H' := [.sl 2 (List.map e_SRatio xs168) false]) (h := ?_)
        refine oSR rfl ?_
        refine oP (.ref 0 (List.length xs168) 0 (List.length xs168)) p_move ?_
        refine oP (.d (.int .i64 k1110)) p_move ?_
        refine bCut (fun h1275 h1276 h1277 => ?_)
        refine oP (.ref 0 (List.length xs168) (0 + Int.toNat k1110) ((List.length xs168) - Int.toNat k1110)) (k_partL (enc := e_SRatio) (fro := false) (k1 := .i64) (l := k1110) 0 0 (List.length xs168) xs168 (by kernel_rfl) (by kernel_rfl) (by kernel_rfl) Try.underlying59 ty37 h1276 h1277) ?_
        refine bSet _ (fun xs169 hs62 => ?_)
        refine oD (.tuple []) (k_clear (enc := e_SRatio) (H' := [.sl 2 (List.map e_SRatio xs169) false]) 0 (0 + Int.toNat k1110) ((List.length xs168) - Int.toNat k1110) xs168 (⟨0, 0⟩ : SRatio) [(.int .i64 0), (.int .i64 0)] Try.underlying59 ty37 (by kernel_rfl) (by kernel_rfl) (by kernel_rfl) (by kernel_rfl) (by kernel_rfl) hs62 (by kernel_rfl)) ?_
        refine oHead [0, 3] [0] (T' := [(0, .ref 0 (List.length xs168) 0 (List.length xs168)), (3, .d (.int .i64 k1110))]) (H' := [.sl 2 (List.map e_SRatio xs169) false]) (hnd := by decide) (h := ?_)
        refine oView (T' := [(0, .ref 0 (List.length xs169) 0 (List.length xs169)), (3, .d (.int .i64 k1110))]) (H' := [.sl 2 (List.map e_SRatio xs169) false]) (by first | rw [(clear_len hs62)] | rfl) (by first | rw [(clear_len hs62)] | rfl) ?_
        refine oEnd ?_
        refine oSR rfl ?_
        refine oP (.ref 0 (List.length xs169) 0 (List.length xs169)) p_move ?_
        refine oP (.d (.int .i64 k1110)) p_move ?_
        refine bCut (fun h1278 h1279 h1280 => ?_)
        refine oP (.ref 0 (List.length xs169) 0 (Int.toNat k1110)) (k_partH (enc := e_SRatio) (fro := false) (k2 := .i64) (h := k1110) 0 0 (List.length xs169) xs169 (by kernel_rfl) (by kernel_rfl) (by kernel_rfl) Try.underlying59 ty37 h1279 h1280) ?_
        refine oP (.ref 0 (List.length xs169) 0 (Int.toNat k1110)) p_assign ?_
        refine oEnd ?_
        refine oFreeze 0 (esz := 2) (xs := List.map e_SRatio xs169) (h := ?_)
        refine oView (H' := [.sl 2 (List.map e_SRatio xs169) true]) rfl (h := ?_)
        refine oConv 2 (v := .ref 0 (List.length xs169) 0 (Int.toNat k1110)) (v' := .d (.lit (List.map e_SRatio (List.take (Int.toNat k1110) (List.drop 0 xs169))))) (hc := k_litPart (enc := e_SRatio) (sz := 2) 0 0 (Int.toNat k1110) xs169 (by kernel_rfl) (by omega)) (h := ?_)
        exact oRet (r0 := ((List.take (Int.toNat k1110) (List.drop 0 xs169)), xs169)) (rv := .d (.lit (List.map e_SRatio (List.take (Int.toNat k1110) (List.drop 0 xs169))))) (B := [.sl 2 (List.map e_SRatio xs169) true]) (vs := [.d (.lit (List.map e_SRatio (List.take (Int.toNat k1110) (List.drop 0 xs169))))]) (σ := [0]) (hf := Try.func30) (hrs := rfl) (hres := .cons _ _ _ _ (.tmp 2 _ (by kernel_rfl)) .nil) (hnd := by decide)
       ·refine oBlock ?_
        refine oLoop ?_
        refine oHead [0, 3, 4, 5] [0] (T' := [(0, .ref 0 (List.length xs) 0 (List.length xs)), (3, .d (.int .i64 k179)), (4, .ref 0 (List.length xs) (0 + Int.toNat k179) ((List.length xs) - Int.toNat k179)), (5, .d (.int .i64 1))]) (H' := [.sl 2 (List.map e_SRatio xs) false]) (hnd := by decide) (h := ?_)
        refine bLoop (body := slices_Compact_api_Ratio_api_Ratio_b2 k xs k179) ((uc fun (k1112 : Int) => (uc fun (k242 : Int) => (fun (xs172 : (List SRatio)) => [(0, .ref 0 (List.length xs172) 0 (List.length xs172)), (3, .d (.int .i64 k1112)), (4, .ref 0 (List.length xs172) (0 + Int.toNat k179) ((List.length xs) - Int.toNat k179)), (5, .d (.int .i64 k242))])))) ((uc fun (k1112 : Int) => (uc fun (k242 : Int) => (fun (xs172 : (List SRatio)) => [.sl 2 (List.map e_SRatio xs172) false])))) (fun again hag2 s => ?_) k (k179, 1, xs)
        ·unfold slices_Compact_api_Ratio_api_Ratio_b2
         obtain ⟨k1112, k242, xs172⟩ := s
         refine bUc ?_
         refine bUc ?_
         refine oView (T' := [(0, .ref 0 (List.length xs172) 0 (List.length xs172)), (3, .d (.int .i64 k1112)), (4, .ref 0 (List.length xs172) (0 + Int.toNat k179) ((List.length xs) - Int.toNat k179)), (5, .d (.int .i64 k242))]) (H' := [.sl 2 (List.map e_SRatio xs172) false]) (h := ?_)
         refine oSeq ?_
         refine oSR rfl ?_
         refine oP (.d (.int .i64 k242)) p_move ?_
         refine oP (.ref 0 (List.length xs172) (0 + Int.toNat k179) ((List.length xs) - Int.toNat k179)) p_move ?_
         refine oP (.d (.int .i64 ((((List.length xs) - Int.toNat k179) : Nat) : Int))) (k_lenPart (enc := e_SRatio) (sz := 2) (fro := false) 0 (0 + Int.toNat k179) ((List.length xs) - Int.toNat k179) xs172 (by kernel_rfl) (by kernel_rfl) Try.underlying59) ?_
         refine oP (.d (.bool (decide (k242 < ((((List.length xs) - Int.toNat k179) : Nat) : Int))))) (p_int (k := .i64) (p := k242) (q := ((((List.length xs) - Int.toNat k179) : Nat) : Int))) ?_
         refine oEnd ?_
         refine bSplit 32 (h1 := fun hc => ?_) (h2 := fun hc => ?_)
         ·refine oCondT (h := ?_)
          refine oSkip ?_
          refine oSeq ?_
          refine bJoin ((uc fun (k1115 : Int) => (fun (xs177 : (List SRatio)) => [(0, .ref 0 (List.length xs177) 0 (List.length xs177)), (3, .d (.int .i64 k1115)), (4, .ref 0 (List.length xs177) (0 + Int.toNat k179) ((List.length xs) - Int.toNat k179)), (5, .d (.int .i64 k242))]))) ((uc fun (k1115 : Int) => (fun (xs177 : (List SRatio)) => [.sl 2 (List.map e_SRatio xs177) false]))) (fun s => s) (fun s => ?_) (fun hj68 => ?_)
          ·obtain ⟨k1115, xs177⟩ := s
           refine bUc ?_
           refine oView (T' := [(0, .ref 0 (List.length xs177) 0 (List.length xs177)), (3, .d (.int .i64 k1115)), (4, .ref 0 (List.length xs177) (0 + Int.toNat k179) ((List.length xs) - Int.toNat k179)), (5, .d (.int .i64 k242))]) (H' := [.sl 2 (List.map e_SRatio xs177) false]) (h := ?_)
           refine oRegion rfl ?_
           refine oP (.d (.int .i64 k242)) p_move ?_
           refine oP (.d (.int .i64 (IntKind.wrap .i64 (k242 + 1)))) (p_int (k := .i64) (p := k242) (q := 1)) ?_
           refine oP (.d (.int .i64 (IntKind.wrap .i64 (k242 + 1)))) p_assign ?_
           refine oEnd ?_
           refine oAgain ?_
           refine oHead [0, 3, 4, 5] [0] (T' := [(0, .ref 0 (List.length xs177) 0 (List.length xs177)), (3, .d (.int .i64 k1115)), (4, .ref 0 (List.length xs177) (0 + Int.toNat k179) ((List.length xs) - Int.toNat k179)), (5, .d (.int .i64 (IntKind.wrap .i64 (k242 + 1))))]) (H' := [.sl 2 (List.map e_SRatio xs177) false]) (hnd := by decide) (h := ?_)
           exact hag2 (k1115, (IntKind.wrap .i64 (k242 + 1)), xs177)
          ·refine oBlock ?_
           refine oSeq ?_
           refine oDraw [(0, 10)] rfl ?_
           refine aP 0 (.ref 0 (List.length xs172) (0 + Int.toNat k179) ((List.length xs) - Int.toNat k179)) rfl p_move ?_
           refine aP 1 (.d (.int .i64 k242)) rfl p_move ?_
           refine dIdx (fun e12 h17 h18 => ?_)
           refine aP 2 (.eptr 0 (List.length xs172) ((0 + Int.toNat k179) + Int.toNat k242) 0) rfl (k_idxPart (enc := e_SRatio) (fro := false) 0 (0 + Int.toNat k179) ((List.length xs) - Int.toNat k179) xs172 (a := e12) (by kernel_rfl) (k := .i64) (i := k242) (by kernel_rfl) (by kernel_rfl) Try.underlying59 ty37 h17 h18) ?_
           refine aQ 3 [0] (.agg [.d (.int .i64 e12.Num), .d (.int .i64 e12.Den)]) rfl (k_loadEAgg (enc := e_SRatio) (sz0 := 2) (fro := false) 0 0 xs172 [(.int .i64 e12.Num), (.int .i64 e12.Den)] (hu := Try.underlying37) (hi := ty37) (he := part_get h18)) ?_
           refine aP 4 (.ref 0 (List.length xs172) (0 + Int.toNat k179) ((List.length xs) - Int.toNat k179)) rfl p_move ?_
           refine aP 5 (.d (.int .i64 k242)) rfl p_move ?_
           refine aP 6 (.d (.int .i64 (IntKind.wrap .i64 (k242 - 1)))) rfl (p_int (k := .i64) (p := k242) (q := 1)) ?_
           refine dIdx (fun e13 h19 h110 => ?_)
           refine aP 7 (.eptr 0 (List.length xs172) ((0 + Int.toNat k179) + Int.toNat (IntKind.wrap .i64 (k242 - 1))) 0) rfl (k_idxPart (enc := e_SRatio) (fro := false) 0 (0 + Int.toNat k179) ((List.length xs) - Int.toNat k179) xs172 (a := e13) (by kernel_rfl) (k := .i64) (i := (IntKind.wrap .i64 (k242 - 1))) (by kernel_rfl) (by kernel_rfl) Try.underlying59 ty37 h19 h110) ?_
           refine aQ 8 [0] (.agg [.d (.int .i64 e13.Num), .d (.int .i64 e13.Den)]) rfl (k_loadEAgg (enc := e_SRatio) (sz0 := 2) (fro := false) 0 0 xs172 [(.int .i64 e13.Num), (.int .i64 e13.Den)] (hu := Try.underlying37) (hi := ty37) (he := part_get h110)) ?_
           refine aP 9 (.d (.bool (!((e12.Num == e13.Num) && ((e12.Den == e13.Den) && true))))) rfl (k_neAgg (hg := Try.eqGuardType37) (h := EqV.struct 1 37 [.d (.int .i64 e12.Num), .d (.int .i64 e12.Den)] [.d (.int .i64 e13.Num), .d (.int .i64 e13.Den)] _ ((e12.Num == e13.Num) && ((e12.Den == e13.Den) && true)) Try.underlying37 Try.stoodInHeld37 (EqF.one 1 1 _ _ _ _ _ _ _ (e12.Num == e13.Num) ((e12.Den == e13.Den) && true) (by kernel_rfl) Try.underlying3 (by kernel_rfl) (by kernel_rfl) (by kernel_rfl) (by kernel_rfl) (EqV.int 3 .i64 .i64 e12.Num e13.Num Try.underlying3) (EqF.one 1 1 _ _ _ _ _ _ _ (e12.Den == e13.Den) true (by kernel_rfl) Try.underlying3 (by kernel_rfl) (by kernel_rfl) (by kernel_rfl) (by kernel_rfl) (EqV.int 3 .i64 .i64 e12.Den e13.Den Try.underlying3) (EqF.nil 1 _ _))))) ?_
           refine aDone (h := ?_)
           refine bSplit 44 (h1 := fun hc => ?_) (h2 := fun hc => ?_)
           ·refine oCondT (h := ?_)
            refine oSR rfl ?_
            refine oP (.ref 0 (List.length xs172) 0 (List.length xs172)) p_move ?_
            refine oP (.d (.int .i64 k1112)) p_move ?_
            refine oP (.ref 0 (List.length xs172) (0 + Int.toNat k179) ((List.length xs) - Int.toNat k179)) p_move ?_
            refine oP (.d (.int .i64 k242)) p_move ?_
            refine oP (.eptr 0 (List.length xs172) ((0 + Int.toNat k179) + Int.toNat k242) 0) (k_idxPart (enc := e_SRatio) (fro := false) 0 (0 + Int.toNat k179) ((List.length xs) - Int.toNat k179) xs172 (a := e12) (by kernel_rfl) (k := .i64) (i := k242) (by kernel_rfl) (by kernel_rfl) Try.underlying59 ty37 h17 h18) ?_
            refine oQ (.agg [.d (.int .i64 e12.Num), .d (.int .i64 e12.Den)]) (k_loadEAgg (enc := e_SRatio) (sz0 := 2) (fro := false) 0 0 xs172 [(.int .i64 e12.Num), (.int .i64 e12.Den)] (hu := Try.underlying37) (hi := ty37) (he := part_get h18)) ?_
            refine bIdx (fun e149 h1287 h1288 => ?_)
            refine oP (.eptr 0 (List.length xs172) (Int.toNat k1112) 0) (k_idxRef (enc := e_SRatio) (fro := false) xs172 (a := e149) (k := .i64) (i := k1112) (hu := Try.underlying59) (hi := ty37) (h0 := h1287) (he := h1288)) ?_
            refine bSet _ (fun xs178 hs66 => ?_)
            refine oD (.undef) (k_storeE (H' := [.sl 2 (List.map e_SRatio xs178) false]) 0 0 xs172 e12 [(.int .i64 e12.Num), (.int .i64 e12.Den)] e_SRatio_len (he := h1288) (hi := ty37) (hxs := hs66)) ?_
            refine oHead [0, 3, 4, 5] [0] (T' := [(0, .ref 0 (List.length xs172) 0 (List.length xs172)), (3, .d (.int .i64 k1112)), (4, .ref 0 (List.length xs172) (0 + Int.toNat k179) ((List.length xs) - Int.toNat k179)), (5, .d (.int .i64 k242))]) (H' := [.sl 2 (List.map e_SRatio xs178) false]) (hnd := by decide) (h := ?_)
            refine oView (T' := [(0, .ref 0 (List.length xs178) 0 (List.length xs178)), (3, .d (.int .i64 k1112)), (4, .ref 0 (List.length xs178) (0 + Int.toNat k179) ((List.length xs) - Int.toNat k179)), (5, .d (.int .i64 k242))]) (H' := [.sl 2 (List.map e_SRatio xs178) false]) (by first | rw [(set_len hs66)] | rfl) (by first | rw [(set_len hs66)] | rfl) ?_
            refine oEnd ?_
            refine oRegion rfl ?_
            refine oP (.d (.int .i64 k1112)) p_move ?_
            refine oP (.d (.int .i64 (IntKind.wrap .i64 (k1112 + 1)))) (p_int (k := .i64) (p := k1112) (q := 1)) ?_
            refine oP (.d (.int .i64 (IntKind.wrap .i64 (k1112 + 1)))) p_assign ?_
            refine oEnd ?_
            refine oBlk ?_
            refine oHead [0, 3, 4, 5] [0] (T' := [(0, .ref 0 (List.length xs178) 0 (List.length xs178)), (3, .d (.int .i64 (IntKind.wrap .i64 (k1112 + 1)))), (4, .ref 0 (List.length xs178) (0 + Int.toNat k179) ((List.length xs) - Int.toNat k179)), (5, .d (.int .i64 k242))]) (H' := [.sl 2 (List.map e_SRatio xs178) false]) (hnd := by decide) (h := ?_)
            exact hj68 ((IntKind.wrap .i64 (k1112 + 1)), xs178)
           ·refine oCondF (h := ?_)
            refine oSkip ?_
            refine oBlk ?_
            refine oHead [0, 3, 4, 5] [0] (T' := [(0, .ref 0 (List.length xs172) 0 (List.length xs172)), (3, .d (.int .i64 k1112)), (4, .ref 0 (List.length xs172) (0 + Int.toNat k179) ((List.length xs) - Int.toNat k179)), (5, .d (.int .i64 k242))]) (H' := [.sl 2 (List.map e_SRatio xs172) false]) (hnd := by decide) (h := ?_)
            exact hj68 (k1112, xs172)
         ·refine oCondF (h := ?_)
          refine oExit rfl ?_
          refine oHead [0, 3] [0] (T' := [(0, .ref 0 (List.length xs172) 0 (List.length xs172)), (3, .d (.int .i64 k1112))]) (H' := [.sl 2 (List.map e_SRatio xs172) false]) (hnd := by decide) (h := ?_)
          exact hj65 (k1112, xs172)
      ·refine oCondF (h := ?_)
       refine oSkip ?_
       refine oBlk ?_
       refine oRegion rfl ?_
       refine oP (.d (.int .i64 k179)) p_move ?_
       refine oP (.d (.int .i64 (IntKind.wrap .i64 (k179 + 1)))) (p_int (k := .i64) (p := k179) (q := 1)) ?_
       refine oP (.d (.int .i64 (IntKind.wrap .i64 (k179 + 1)))) p_assign ?_
       refine oEnd ?_
       refine oAgain ?_
       refine oHead [0, 3] [0] (T' := [(0, .ref 0 (List.length xs) 0 (List.length xs)), (3, .d (.int .i64 (IntKind.wrap .i64 (k179 + 1))))]) (H' := [.sl 2 (List.map e_SRatio xs) false]) (hnd := by decide) (h := ?_)
       exact hag1 (IntKind.wrap .i64 (k179 + 1))
     ·refine oCondF (h := ?_)
      refine oExit rfl ?_
      refine oHead [0] [0] (T' := [(0, .ref 0 (List.length xs) 0 (List.length xs))]) (H' := [.sl 2 (List.map e_SRatio xs) false]) (hnd := by decide) (h := ?_)
      exact hj38 ()

/-- awardingbody/conversion.Compose -/
def conversion_Compose_b1 (k : Nat) (f0 : (List SPoint)) (g0 : (List SPoint)) (r113 : (List SRatio)) (again : Int × Int × (List SPoint) → Option (((List SPoint)) ⊕ ((List SPoint) × Int))) : Int × Int × (List SPoint) → Option (((List SPoint)) ⊕ ((List SPoint) × Int)) := uc fun x64 => uc fun x65 => fun xs18 => bif (decide (x64 < ((List.length r113) : Int))) then gidx r113 x64 fun e129 => Option.bind (conversion_calc_eval k f0 e129.Num e129.Den x65) (uc fun r1634 => uc fun r1734 => fun x334 => Option.bind (bif (x334 == 0) then Option.bind (conversion_calc_eval k g0 r1634 r1734 x334) (uc fun r1636 => uc fun r1736 => fun x336 => some (x336, r1636, r1736)) else some (x334, r1634, r1734) : Option (Int × Int × Int)) (uc fun x77 => uc fun x78 => fun x79 => bif (x77 != 0) then some (Sum.inr ([], x77)) else gcap (List.length (xs18 ++ ([(⟨e129.Num, e129.Den, x78, x79⟩ : SPoint)] : List SPoint))) 32 (again ((IntKind.wrap .i64 (x64 + 1)), x77, (xs18 ++ ([(⟨e129.Num, e129.Den, x78, x79⟩ : SPoint)] : List SPoint)))))) else some (Sum.inl xs18)
def conversion_Compose_b2 (k : Nat) (g0 : (List SPoint)) (r112 : (List SPoint)) (again : Int × Int × (List SRatio) → Option (Int × (List SRatio))) : Int × Int × (List SRatio) → Option (Int × (List SRatio)) := uc fun x80 => uc fun x81 => fun xs20 => bif (decide (x80 < ((List.length g0) : Int))) then gidx g0 x80 fun e135 => Option.bind (conversion_calc_eval k r112 e135.X_Num e135.X_Den x81) (uc fun r1642 => uc fun r1742 => fun x342 => gcap (List.length (xs20 ++ ([(⟨r1642, r1742⟩ : SRatio)] : List SRatio))) 16 (again ((IntKind.wrap .i64 (x80 + 1)), x342, (xs20 ++ ([(⟨r1642, r1742⟩ : SRatio)] : List SRatio))))) else some (x81, xs20)
def conversion_Compose_b3 (k : Nat) (f0 : (List SPoint)) (again : Int × (List SRatio) → Option ((List SRatio))) : Int × (List SRatio) → Option ((List SRatio)) := uc fun x84 => fun xs24 => bif (decide (x84 < ((List.length f0) : Int))) then gidx f0 x84 fun e141 => gcap (List.length (xs24 ++ ([(⟨e141.X_Num, e141.X_Den⟩ : SRatio)] : List SRatio))) 16 (again ((IntKind.wrap .i64 (x84 + 1)), (xs24 ++ ([(⟨e141.X_Num, e141.X_Den⟩ : SRatio)] : List SRatio)))) else some xs24
def conversion_Compose (k : Nat) (f0 : (List SPoint)) (g0 : (List SPoint)) : Option ((List SPoint) × Int) := Option.bind (conversion_Valid k f0) (fun r19 => Option.bind (bif (!r19) then some true else Option.bind (conversion_Valid k g0) (fun r116 => some (!r116)) : Option (Bool)) (fun x25 => bif x25 then some ([], 1) else Option.bind (conversion_turned k f0) (fun r112 => Option.bind (gloop (conversion_Compose_b3 k f0) k (0, ([] : List SRatio)) : Option ((List SRatio))) (fun xs11 => Option.bind (gloop (conversion_Compose_b2 k g0 r112) k (0, 0, xs11) : Option (Int × (List SRatio))) (uc fun x41 => fun xs14 => bif (x41 != 0) then some ([], x41) else Option.bind (slices_SortFunc_api_Ratio_api_Ratio k xs14) (fun xs22 => glen (List.length xs14) (List.length xs22) (Option.bind (slices_Compact_api_Ratio_api_Ratio k xs22) (uc fun r113 => fun xs491 => Option.bind (gloop (conversion_Compose_b1 k f0 g0 r113) k (0, x41, ([] : List SPoint)) : Option (((List SPoint)) ⊕ ((List SPoint) × Int))) (Sum.elim (fun xs17 => Option.bind (conversion_formed k xs17) (uc fun r114 => fun r115 => some (r114, r115))) (fun r => some r))))))))))
def conversion_Compose_E (f0 : (List SPoint)) (g0 : (List SPoint)) : (List SPoint) × Int → V × List Blk := uc fun r15 => fun r18 => (.tuple [.agg [.d (.lit (List.map e_SPoint r15))], .d (.int .i64 r18)], [])
theorem conversion_Compose_goes (k : Nat) (f0 : (List SPoint)) (g0 : (List SPoint)) : RunsO Try.prog 16 [.agg [.d (.lit (List.map e_SPoint f0))], .agg [.d (.lit (List.map e_SPoint g0))]] [] (conversion_Compose_E f0 g0) (conversion_Compose k f0 g0) := by
  refine RunsO.of_goes (N := 100) (m := 0) (T := [(0, .agg [.d (.lit (List.map e_SPoint f0))]), (1, .agg [.d (.lit (List.map e_SPoint g0))])]) Try.func16 rfl rfl (h := ?_)
  unfold conversion_Compose
  refine bStart ?_
  refine oSR rfl ?_
  refine oD (.ptr 0 0) (k_box (H' := [.box [.d (.lit (List.map e_SPoint f0))]]) (cells := [.d (.lit (List.map e_SPoint f0))])) ?_
  refine oD (.ptr 1 0) (k_box (H' := [.box [.d (.lit (List.map e_SPoint f0))], .box [.d (.lit (List.map e_SPoint g0))]]) (cells := [.d (.lit (List.map e_SPoint g0))])) ?_
  refine oD (.ptr 2 0) (k_alloc (H' := [.box [.d (.lit (List.map e_SPoint f0))], .box [.d (.lit (List.map e_SPoint g0))], .box [.nilc]]) ty29) ?_
  refine oP (.d (.int .i64 0)) p_assign ?_
  refine oEnd ?_
  refine oSeq ?_
  refine oSR rfl ?_
  refine oQ (.agg [.d (.lit (List.map e_SPoint f0))]) (k_loadAgg 0 0 (hu := Try.underlying29) (hi := ty29)) ?_
  refine bCall (caps := []) (v := (fun (r19 : Bool) => (.d (.bool r19) : V))) (H' := (fun (r19 : Bool) => ([.box [.d (.lit (List.map e_SPoint f0))], .box [.d (.lit (List.map e_SPoint g0))], .box [.nilc]] : List Blk))) [] _ (conversion_Valid_goes k f0) (ho := rfl) (hfn := Try.func12) (hb := rfl) (hconv := ConvRs.refl _ _) (hnd := by decide) (hBl := fun _ => (by kernel_rfl)) (hv := fun _ => (by kernel_rfl)) (hH' := fun _ => (by kernel_rfl)) (h := fun r19 => ?_)
  refine oP (.d (.bool (!r19))) (p_not (p := r19)) ?_
  refine oP (.d (.bool (!r19))) p_move ?_
  refine bMeet 4 rfl ((fun (x25 : Bool) => [(2, .ptr 0 0), (3, .ptr 1 0), (4, .ptr 2 0), (24, .d (.bool x25))])) ((fun (x25 : Bool) => [.box [.d (.lit (List.map e_SPoint f0))], .box [.d (.lit (List.map e_SPoint g0))], .box [.nilc]])) (fun s => s) (fun x25 => ?_) (fun hj21 => ?_)
  ·refine oView (T' := [(2, .ptr 0 0), (3, .ptr 1 0), (4, .ptr 2 0), (24, .d (.bool x25))]) (H' := [.box [.d (.lit (List.map e_SPoint f0))], .box [.d (.lit (List.map e_SPoint g0))], .box [.nilc]]) (h := ?_)
   refine oEnd ?_
   refine bSplit 24 (h1 := fun hc => ?_) (h2 := fun hc => ?_)
   ·refine oCondT (h := ?_)
    refine oSR rfl ?_
    refine oP (.agg [.nilc]) (p_build bld29) ?_
    refine oD (.undef) (k_store (vs := [.nilc]) (H' := [.box [.d (.lit (List.map e_SPoint f0))], .box [.d (.lit (List.map e_SPoint g0))], .box [.nilc]]) 2 0 (hi := ty29)) ?_
    refine oP (.d (.int .i64 1)) p_assign ?_
    refine oEnd ?_
    refine oConvB 2 (cells := [.nilc]) (cells' := [.d (.lit (List.map e_SPoint []))]) (hc := .cons _ _ _ _ .nil .nil) (h := ?_)
    refine oView (H' := [.box [.d (.lit (List.map e_SPoint f0))], .box [.d (.lit (List.map e_SPoint g0))], .box [.d (.lit (List.map e_SPoint []))]]) rfl (h := ?_)
    exact oRet (r0 := ([], 1)) (rv := .tuple [.agg [.d (.lit (List.map e_SPoint []))], .d (.int .i64 1)]) (B := []) (vs := [.agg [.d (.lit (List.map e_SPoint []))], .d (.int .i64 1)]) (σ := []) (hf := Try.func16) (hrs := rfl) (hres := .cons _ _ _ _ (.agg 4 29 2 0 [.d (.lit (List.map e_SPoint []))] [.d (.lit (List.map e_SPoint []))] _ _ _ _ (by kernel_rfl) (by kernel_rfl) Try.underlying29 (by kernel_rfl) ty29 (by kernel_rfl) (by kernel_rfl)) (.cons _ _ _ _ (.tmp 5 _ (by kernel_rfl)) .nil)) (hnd := by decide)
   ·refine oCondF (h := ?_)
    refine oSkip ?_
    refine oSR rfl ?_
    refine oD (.ptr 3 0) (k_alloc (H' := [.box [.d (.lit (List.map e_SPoint f0))], .box [.d (.lit (List.map e_SPoint g0))], .box [.nilc], .box [.d (.int .i64 0)]]) ty56) ?_
    refine oEnd ?_
    refine oSR rfl ?_
    refine oP (.nilc) p_assign ?_
    refine oEnd ?_
    refine oSR rfl ?_
    refine oP (.ptr 0 0) (k_fieldAddr 0 0 (hu := Try.underlying29) (hf := rfl) (hi := ty27)) ?_
    refine oQ (.d (.lit (List.map e_SPoint f0))) (k_load 0 0 (hu := Try.underlying27)) ?_
    refine bCall (caps := []) (v := (fun (r112 : (List SPoint)) => (.d (.lit (List.map e_SPoint r112)) : V))) (H' := (fun (r112 : (List SPoint)) => ([.box [.d (.lit (List.map e_SPoint f0))], .box [.d (.lit (List.map e_SPoint g0))], .box [.nilc], .box [.d (.int .i64 0)]] : List Blk))) [] _ (conversion_turned_goes k f0) (ho := rfl) (hfn := Try.func27) (hb := rfl) (hconv := ConvRs.refl _ _) (hnd := by decide) (hBl := fun _ => (by kernel_rfl)) (hv := fun _ => (by kernel_rfl)) (hH' := fun _ => (by kernel_rfl)) (h := fun r112 => ?_)
    refine oP (.d (.lit (List.map e_SPoint r112))) p_assign ?_
    refine oEnd ?_
    refine oSeq ?_
    refine oSR rfl ?_
    refine oP (.ptr 0 0) (k_fieldAddr 0 0 (hu := Try.underlying29) (hf := rfl) (hi := ty27)) ?_
    refine oQ (.d (.lit (List.map e_SPoint f0))) (k_load 0 0 (hu := Try.underlying27)) ?_
    refine oP (.d (.int .i64 ((List.length f0) : Int))) (k_lenLit (enc := e_SPoint) f0 (hu := Try.underlying27)) ?_
    refine oP (.d (.int .i64 0)) p_move ?_
    refine oEnd ?_
    refine bJoin ((fun (xs11 : (List SRatio)) => [(2, .ptr 0 0), (3, .ptr 1 0), (4, .ptr 2 0), (6, .ptr 3 0), (7, .ref 4 (List.length xs11) 0 (List.length xs11)), (8, .d (.lit (List.map e_SPoint r112)))])) ((fun (xs11 : (List SRatio)) => [.box [.d (.lit (List.map e_SPoint f0))], .box [.d (.lit (List.map e_SPoint g0))], .box [.nilc], .box [.d (.int .i64 0)], .sl 2 (List.map e_SRatio xs11) false])) (fun s => s) (fun xs11 => ?_) (fun hj8 => ?_)
    ·refine oView (T' := [(2, .ptr 0 0), (3, .ptr 1 0), (4, .ptr 2 0), (6, .ptr 3 0), (7, .ref 4 (List.length xs11) 0 (List.length xs11)), (8, .d (.lit (List.map e_SPoint r112)))]) (H' := [.box [.d (.lit (List.map e_SPoint f0))], .box [.d (.lit (List.map e_SPoint g0))], .box [.nilc], .box [.d (.int .i64 0)], .sl 2 (List.map e_SRatio xs11) false]) (h := ?_)
     refine oSeq ?_
     refine oSR rfl ?_
     refine oP (.ptr 1 0) (k_fieldAddr 1 0 (hu := Try.underlying29) (hf := rfl) (hi := ty27)) ?_
     refine oQ (.d (.lit (List.map e_SPoint g0))) (k_load 1 0 (hu := Try.underlying27)) ?_
     refine oP (.d (.int .i64 ((List.length g0) : Int))) (k_lenLit (enc := e_SPoint) g0 (hu := Try.underlying27)) ?_
     refine oP (.d (.int .i64 0)) p_move ?_
     refine oEnd ?_
     refine bJoin ((uc fun (x41 : Int) => (fun (xs14 : (List SRatio)) => [(2, .ptr 0 0), (3, .ptr 1 0), (4, .ptr 2 0), (6, .ptr 3 0), (7, .ref 4 (List.length xs14) 0 (List.length xs14))]))) ((uc fun (x41 : Int) => (fun (xs14 : (List SRatio)) => [.box [.d (.lit (List.map e_SPoint f0))], .box [.d (.lit (List.map e_SPoint g0))], .box [.nilc], .box [.d (.int .i64 x41)], .sl 2 (List.map e_SRatio xs14) false]))) (fun s => s) (fun s => ?_) (fun hj9 => ?_)
     ·obtain ⟨x41, xs14⟩ := s
      refine bUc ?_
      refine oView (T' := [(2, .ptr 0 0), (3, .ptr 1 0), (4, .ptr 2 0), (6, .ptr 3 0), (7, .ref 4 (List.length xs14) 0 (List.length xs14))]) (H' := [.box [.d (.lit (List.map e_SPoint f0))], .box [.d (.lit (List.map e_SPoint g0))], .box [.nilc], .box [.d (.int .i64 x41)], .sl 2 (List.map e_SRatio xs14) false]) (h := ?_)
      refine oSeq ?_
      refine oSR rfl ?_
      refine oP (.ptr 3 0) (k_fieldAddr 3 0 (hu := Try.underlying56) (hf := rfl) (hi := ty31)) ?_
      refine oQ (.d (.int .i64 x41)) (k_load 3 0 (hu := Try.underlying31)) ?_
      refine oP (.d (.bool (x41 != 0))) (p_int (k := .i64) (p := x41) (q := 0)) ?_
      refine oEnd ?_
      refine bSplit 59 (h1 := fun hc => ?_) (h2 := fun hc => ?_)
      ·refine oCondT (h := ?_)
       refine oSeq ?_
       refine oDraw [(0, 5), (1, 5), (2, 3), (3, 5), (4, 5)] rfl ?_
       refine aP 0 (.agg [.nilc]) rfl (p_build bld29) ?_
       refine aP 1 (.ptr 3 0) rfl (k_fieldAddr 3 0 (hu := Try.underlying56) (hf := rfl) (hi := ty31)) ?_
       refine aQ 2 [3] (.d (.int .i64 x41)) rfl (k_load 3 0 (hu := Try.underlying31)) ?_
       refine aOne (i := 3) (v := .undef) rfl (hac := Does.acts (k_store (vs := [.nilc]) (H' := [.box [.d (.lit (List.map e_SPoint f0))], .box [.d (.lit (List.map e_SPoint g0))], .box [.nilc], .box [.d (.int .i64 x41)], .sl 2 (List.map e_SRatio xs14) false]) 2 0 (hi := ty29))) (h := ?_)
       refine aP 4 (.d (.int .i64 x41)) rfl p_assign ?_
       refine aDone (h := ?_)
       refine oConvB 2 (cells := [.nilc]) (cells' := [.d (.lit (List.map e_SPoint []))]) (hc := .cons _ _ _ _ .nil .nil) (h := ?_)
       refine oView (H' := [.box [.d (.lit (List.map e_SPoint f0))], .box [.d (.lit (List.map e_SPoint g0))], .box [.d (.lit (List.map e_SPoint []))], .box [.d (.int .i64 x41)], .sl 2 (List.map e_SRatio xs14) false]) rfl (h := ?_)
       exact oRet (r0 := ([], x41)) (rv := .tuple [.agg [.d (.lit (List.map e_SPoint []))], .d (.int .i64 x41)]) (B := []) (vs := [.agg [.d (.lit (List.map e_SPoint []))], .d (.int .i64 x41)]) (σ := []) (hf := Try.func16) (hrs := rfl) (hres := .cons _ _ _ _ (.agg 4 29 2 0 [.d (.lit (List.map e_SPoint []))] [.d (.lit (List.map e_SPoint []))] _ _ _ _ (by kernel_rfl) (by kernel_rfl) Try.underlying29 (by kernel_rfl) ty29 (by kernel_rfl) (by kernel_rfl)) (.cons _ _ _ _ (.tmp 5 _ (by kernel_rfl)) .nil)) (hnd := by decide)
      ·refine oCondF (h := ?_)
       refine oSkip ?_
       refine oSR rfl ?_
       refine oP (.ref 4 (List.length xs14) 0 (List.length xs14)) p_move ?_
       refine bCall (caps := []) (v := (fun (xs22 : (List SRatio)) => (.tuple [] : V))) (H' := (fun (xs22 : (List SRatio)) => ([.box [.d (.lit (List.map e_SPoint f0))], .box [.d (.lit (List.map e_SPoint g0))], .box [.nilc], .box [.d (.int .i64 x41)], .sl 2 (List.map e_SRatio xs22) false] : List Blk))) [4] _ (slices_SortFunc_api_Ratio_api_Ratio_goes k xs14) (ho := rfl) (hfn := Try.func28) (hb := rfl) (hconv := ConvRs.refl _ _) (hnd := by decide) (hBl := fun _ => (by kernel_rfl)) (hv := fun _ => (by kernel_rfl)) (hH' := fun _ => (by kernel_rfl)) (h := fun xs22 => ?_)
       refine bLen (fun hl1 => ?_)
       refine oHead [2, 3, 4, 6, 7] [0, 1, 2, 3, 4] (T' := [(2, .ptr 0 0), (3, .ptr 1 0), (4, .ptr 2 0), (6, .ptr 3 0), (7, .ref 4 (List.length xs14) 0 (List.length xs14))]) (H' := [.box [.d (.lit (List.map e_SPoint f0))], .box [.d (.lit (List.map e_SPoint g0))], .box [.nilc], .box [.d (.int .i64 x41)], .sl 2 (List.map e_SRatio xs22) false]) (hnd := by decide) (h := ?_)
       refine oView (T' := [(2, .ptr 0 0), (3, .ptr 1 0), (4, .ptr 2 0), (6, .ptr 3 0), (7, .ref 4 (List.length xs22) 0 (List.length xs22))]) (H' := [.box [.d (.lit (List.map e_SPoint f0))], .box [.d (.lit (List.map e_SPoint g0))], .box [.nilc], .box [.d (.int .i64 x41)], .sl 2 (List.map e_SRatio xs22) false]) (by first | rw [hl1] | rfl) (by first | rw [hl1] | rfl) ?_
       refine oEnd ?_
       refine oSR rfl ?_
       refine oP (.nilc) p_assign ?_
       refine oEnd ?_
       refine oSeq ?_
       refine oSR rfl ?_
       refine oP (.ref 4 (List.length xs22) 0 (List.length xs22)) p_move ?_
       refine bCall (caps := []) (v := (uc fun (r113 : (List SRatio)) => (fun (xs491 : (List SRatio)) => (.d (.lit (List.map e_SRatio r113)) : V)))) (H' := (uc fun (r113 : (List SRatio)) => (fun (xs491 : (List SRatio)) => ([.box [.d (.lit (List.map e_SPoint f0))], .box [.d (.lit (List.map e_SPoint g0))], .box [.nilc], .box [.d (.int .i64 x41)], .sl 2 (List.map e_SRatio xs491) true] : List Blk)))) [4] _ (slices_Compact_api_Ratio_api_Ratio_goes k xs22) (ho := rfl) (hfn := Try.func30) (hb := rfl) (hconv := ConvRs.refl _ _) (hnd := by decide) (hBl := fun _ => (by kernel_rfl)) (hv := fun _ => (by kernel_rfl)) (hH' := fun _ => (by kernel_rfl)) (h := fun r => ?_)
       obtain ⟨r113, xs491⟩ := r
       refine bUc ?_
       refine oP (.d (.int .i64 ((List.length r113) : Int))) (k_lenLit (enc := e_SRatio) r113 (hu := Try.underlying59)) ?_
       refine oP (.d (.int .i64 0)) p_move ?_
       refine oEnd ?_
       refine bJoin ((fun (xs17 : (List SPoint)) => [(4, .ptr 0 0), (13, .ref 1 (List.length xs17) 0 (List.length xs17))])) ((fun (xs17 : (List SPoint)) => [.box [.nilc], .sl 4 (List.map e_SPoint xs17) false])) Sum.inl (fun xs17 => ?_) (fun hj14 => ?_)
       ·refine bInl ?_
        refine oView (T' := [(4, .ptr 0 0), (13, .ref 1 (List.length xs17) 0 (List.length xs17))]) (H' := [.box [.nilc], .sl 4 (List.map e_SPoint xs17) false]) (h := ?_)
        refine oSR rfl ?_
        refine oP (.ref 1 (List.length xs17) 0 (List.length xs17)) p_move ?_
        refine oFreeze 1 (esz := 4) (xs := List.map e_SPoint xs17) (h := ?_)
        refine oView (H' := [.box [.nilc], .sl 4 (List.map e_SPoint xs17) true]) rfl (h := ?_)
        refine bCall (caps := []) (v := (uc fun (r114 : (List SPoint)) => (fun (r115 : Int) => (.tuple [.agg [.d (.lit (List.map e_SPoint r114))], .d (.int .i64 r115)] : V)))) (H' := (uc fun (r114 : (List SPoint)) => (fun (r115 : Int) => ([.box [.nilc], .sl 4 (List.map e_SPoint xs17) true] : List Blk)))) [] _ (conversion_formed_goes k xs17) (ho := rfl) (hfn := Try.func21) (hb := rfl) (hconv := convList (vs0 := [.ref 1 (List.length xs17) 0 (List.length xs17)]) (vs := [.d (.lit (List.map e_SPoint xs17))]) (p := .cons _ _ _ _ (k_lit (enc := e_SPoint) (sz := 4) 1 xs17) .nil)) (hnd := by decide) (hBl := fun _ => (by kernel_rfl)) (hv := fun _ => (by kernel_rfl)) (hH' := fun _ => (by kernel_rfl)) (h := fun r => ?_)
        obtain ⟨r114, r115⟩ := r
        refine bUc ?_
        refine oP (.agg [.d (.lit (List.map e_SPoint r114))]) k_extract ?_
        refine oP (.d (.int .i64 r115)) k_extract ?_
        refine oD (.undef) (k_store (vs := [.d (.lit (List.map e_SPoint r114))]) (H' := [.box [.d (.lit (List.map e_SPoint r114))], .sl 4 (List.map e_SPoint xs17) true]) 0 0 (hi := ty29)) ?_
        refine oP (.d (.int .i64 r115)) p_assign ?_
        refine oEnd ?_
        exact oRet (r0 := (r114, r115)) (rv := .tuple [.agg [.d (.lit (List.map e_SPoint r114))], .d (.int .i64 r115)]) (B := []) (vs := [.agg [.d (.lit (List.map e_SPoint r114))], .d (.int .i64 r115)]) (σ := []) (hf := Try.func16) (hrs := rfl) (hres := .cons _ _ _ _ (.agg 4 29 0 0 [.d (.lit (List.map e_SPoint r114))] [.d (.lit (List.map e_SPoint r114))] _ _ _ _ (by kernel_rfl) (by kernel_rfl) Try.underlying29 (by kernel_rfl) ty29 (by kernel_rfl) (by kernel_rfl)) (.cons _ _ _ _ (.tmp 5 _ (by kernel_rfl)) .nil)) (hnd := by decide)
       ·refine oBlock ?_
        refine oLoop ?_
        refine oVirt (esz := 4) 13 (h := ?_)
        refine oView (H' := [.box [.d (.lit (List.map e_SPoint f0))], .box [.d (.lit (List.map e_SPoint g0))], .box [.nilc], .box [.d (.int .i64 x41)], .sl 2 (List.map e_SRatio xs491) true, .sl 4 (List.map e_SPoint ([] : List SPoint)) false]) rfl (h := ?_)
        refine oHead [2, 3, 4, 6, 13, 66, 67, 68] [0, 1, 2, 3, 5] (T' := [(2, .ptr 0 0), (3, .ptr 1 0), (4, .ptr 2 0), (6, .ptr 3 0), (13, .ref 4 (List.length ([] : List SPoint)) 0 (List.length ([] : List SPoint))), (66, .d (.lit (List.map e_SRatio r113))), (67, .d (.int .i64 ((List.length r113) : Int))), (68, .d (.int .i64 0))]) (H' := [.box [.d (.lit (List.map e_SPoint f0))], .box [.d (.lit (List.map e_SPoint g0))], .box [.nilc], .box [.d (.int .i64 x41)], .sl 4 (List.map e_SPoint ([] : List SPoint)) false]) (hnd := by decide) (h := ?_)
        refine bLoop (body := conversion_Compose_b1 k f0 g0 r113) ((uc fun (x64 : Int) => (uc fun (x65 : Int) => (fun (xs18 : (List SPoint)) => [(2, .ptr 0 0), (3, .ptr 1 0), (4, .ptr 2 0), (6, .ptr 3 0), (13, .ref 4 (List.length xs18) 0 (List.length xs18)), (66, .d (.lit (List.map e_SRatio r113))), (67, .d (.int .i64 ((List.length r113) : Int))), (68, .d (.int .i64 x64))])))) ((uc fun (x64 : Int) => (uc fun (x65 : Int) => (fun (xs18 : (List SPoint)) => [.box [.d (.lit (List.map e_SPoint f0))], .box [.d (.lit (List.map e_SPoint g0))], .box [.nilc], .box [.d (.int .i64 x65)], .sl 4 (List.map e_SPoint xs18) false])))) (fun again hag1 s => ?_) k (0, x41, ([] : List SPoint))
        ·unfold conversion_Compose_b1
         obtain ⟨x64, x65, xs18⟩ := s
         refine bUc ?_
         refine bUc ?_
         refine oView (T' := [(2, .ptr 0 0), (3, .ptr 1 0), (4, .ptr 2 0), (6, .ptr 3 0), (13, .ref 4 (List.length xs18) 0 (List.length xs18)), (66, .d (.lit (List.map e_SRatio r113))), (67, .d (.int .i64 ((List.length r113) : Int))), (68, .d (.int .i64 x64))]) (H' := [.box [.d (.lit (List.map e_SPoint f0))], .box [.d (.lit (List.map e_SPoint g0))], .box [.nilc], .box [.d (.int .i64 x65)], .sl 4 (List.map e_SPoint xs18) false]) (h := ?_)
         refine oSR rfl ?_
         refine oP (.d (.bool (decide (x64 < ((List.length r113) : Int))))) (p_int (k := .i64) (p := x64) (q := ((List.length r113) : Int))) ?_
         refine oEnd ?_
         refine oSeq ?_
         refine bSplit 69 (h1 := fun hc => ?_) (h2 := fun hc => ?_)
         ·refine oCondT (h := ?_)
          refine oSkip ?_
          refine oSeq ?_
          refine oBlock ?_
          refine oSR rfl ?_
          refine bIdx (fun e129 h187 h188 => ?_)
          refine oP (.lptr (e_SRatio e129) 0) (k_idxLit e_SRatio_len r113 (a := e129) (k := .i64) (i := x64) (hu := Try.underlying59) (hi := ty37) (h0 := h187) (he := h188)) ?_
          refine oQ (.agg [.d (.int .i64 e129.Num), .d (.int .i64 e129.Den)]) (k_loadLAgg (cells := e_SRatio e129) 0 [(.int .i64 e129.Num), (.int .i64 e129.Den)] (hu := Try.underlying37) (hi := ty37)) ?_
          refine oD (.ptr 5 0) (k_alloc (H' := [.box [.d (.lit (List.map e_SPoint f0))], .box [.d (.lit (List.map e_SPoint g0))], .box [.nilc], .box [.d (.int .i64 x65)], .sl 4 (List.map e_SPoint xs18) false, .box [.d (.int .i64 0), .d (.int .i64 0)]]) ty37) ?_
          refine oD (.undef) (k_store (vs := [.d (.int .i64 e129.Num), .d (.int .i64 e129.Den)]) (H' := [.box [.d (.lit (List.map e_SPoint f0))], .box [.d (.lit (List.map e_SPoint g0))], .box [.nilc], .box [.d (.int .i64 x65)], .sl 4 (List.map e_SPoint xs18) false, .box [.d (.int .i64 e129.Num), .d (.int .i64 e129.Den)]]) 5 0 (hi := ty37)) ?_
          refine oEnd ?_
          refine oSR rfl ?_
          refine oP (.ptr 0 0) (k_fieldAddr 0 0 (hu := Try.underlying29) (hf := rfl) (hi := ty27)) ?_
          refine oQ (.d (.lit (List.map e_SPoint f0))) (k_load 0 0 (hu := Try.underlying27)) ?_
          refine oQ (.agg [.d (.int .i64 e129.Num), .d (.int .i64 e129.Den)]) (k_loadAgg 5 0 (hu := Try.underlying37) (hi := ty37)) ?_
          refine bCall (caps := []) (v := (uc fun (r1634 : Int) => (uc fun (r1734 : Int) => (fun (x334 : Int) => (.agg [.d (.int .i64 r1634), .d (.int .i64 r1734)] : V))))) (H' := (uc fun (r1634 : Int) => (uc fun (r1734 : Int) => (fun (x334 : Int) => ([.box [.d (.lit (List.map e_SPoint f0))], .box [.d (.lit (List.map e_SPoint g0))], .box [.nilc], .box [.d (.int .i64 x334)], .sl 4 (List.map e_SPoint xs18) false, .box [.d (.int .i64 e129.Num), .d (.int .i64 e129.Den)]] : List Blk))))) [3] _ (conversion_calc_eval_goes k f0 e129.Num e129.Den x65) (ho := rfl) (hfn := Try.func25) (hb := rfl) (hconv := ConvRs.refl _ _) (hnd := by decide) (hBl := fun _ => (by kernel_rfl)) (hv := fun _ => (by kernel_rfl)) (hH' := fun _ => (by kernel_rfl)) (h := fun r => ?_)
          obtain ⟨r1634, r1734, x334⟩ := r
          refine bUc ?_
          refine bUc ?_
          refine oD (.ptr 6 0) (k_alloc (H' := [.box [.d (.lit (List.map e_SPoint f0))], .box [.d (.lit (List.map e_SPoint g0))], .box [.nilc], .box [.d (.int .i64 x334)], .sl 4 (List.map e_SPoint xs18) false, .box [.d (.int .i64 e129.Num), .d (.int .i64 e129.Den)], .box [.d (.int .i64 0), .d (.int .i64 0)]]) ty37) ?_
          refine oD (.undef) (k_store (vs := [.d (.int .i64 r1634), .d (.int .i64 r1734)]) (H' := [.box [.d (.lit (List.map e_SPoint f0))], .box [.d (.lit (List.map e_SPoint g0))], .box [.nilc], .box [.d (.int .i64 x334)], .sl 4 (List.map e_SPoint xs18) false, .box [.d (.int .i64 e129.Num), .d (.int .i64 e129.Den)], .box [.d (.int .i64 r1634), .d (.int .i64 r1734)]]) 6 0 (hi := ty37)) ?_
          refine oEnd ?_
          refine oSeq ?_
          refine oSR rfl ?_
          refine oP (.ptr 3 0) (k_fieldAddr 3 0 (hu := Try.underlying56) (hf := rfl) (hi := ty31)) ?_
          refine oQ (.d (.int .i64 x334)) (k_load 3 0 (hu := Try.underlying31)) ?_
          refine oP (.d (.bool (x334 == 0))) (p_int (k := .i64) (p := x334) (q := 0)) ?_
          refine oEnd ?_
          refine bJoin ((uc fun (x77 : Int) => (uc fun (x78 : Int) => (fun (x79 : Int) => [(2, .ptr 0 0), (3, .ptr 1 0), (4, .ptr 2 0), (6, .ptr 3 0), (13, .ref 4 (List.length xs18) 0 (List.length xs18)), (15, .ptr 5 0), (16, .ptr 6 0), (66, .d (.lit (List.map e_SRatio r113))), (67, .d (.int .i64 ((List.length r113) : Int))), (68, .d (.int .i64 x64))])))) ((uc fun (x77 : Int) => (uc fun (x78 : Int) => (fun (x79 : Int) => [.box [.d (.lit (List.map e_SPoint f0))], .box [.d (.lit (List.map e_SPoint g0))], .box [.nilc], .box [.d (.int .i64 x77)], .sl 4 (List.map e_SPoint xs18) false, .box [.d (.int .i64 e129.Num), .d (.int .i64 e129.Den)], .box [.d (.int .i64 x78), .d (.int .i64 x79)]])))) (fun s => s) (fun s => ?_) (fun hj20 => ?_)
          ·obtain ⟨x77, x78, x79⟩ := s
           refine bUc ?_
           refine bUc ?_
           refine oView (T' := [(2, .ptr 0 0), (3, .ptr 1 0), (4, .ptr 2 0), (6, .ptr 3 0), (13, .ref 4 (List.length xs18) 0 (List.length xs18)), (15, .ptr 5 0), (16, .ptr 6 0), (66, .d (.lit (List.map e_SRatio r113))), (67, .d (.int .i64 ((List.length r113) : Int))), (68, .d (.int .i64 x64))]) (H' := [.box [.d (.lit (List.map e_SPoint f0))], .box [.d (.lit (List.map e_SPoint g0))], .box [.nilc], .box [.d (.int .i64 x77)], .sl 4 (List.map e_SPoint xs18) false, .box [.d (.int .i64 e129.Num), .d (.int .i64 e129.Den)], .box [.d (.int .i64 x78), .d (.int .i64 x79)]]) (h := ?_)
           refine oSeq ?_
           refine oSR rfl ?_
           refine oP (.ptr 3 0) (k_fieldAddr 3 0 (hu := Try.underlying56) (hf := rfl) (hi := ty31)) ?_
           refine oQ (.d (.int .i64 x77)) (k_load 3 0 (hu := Try.underlying31)) ?_
           refine oP (.d (.bool (x77 != 0))) (p_int (k := .i64) (p := x77) (q := 0)) ?_
           refine oEnd ?_
           refine bSplit 85 (h1 := fun hc => ?_) (h2 := fun hc => ?_)
           ·refine oCondT (h := ?_)
            refine oSeq ?_
            refine oDraw [(0, 5), (1, 5), (2, 3), (3, 5), (4, 5), (5, 5), (6, 5)] rfl ?_
            refine aP 0 (.agg [.nilc]) rfl (p_build bld29) ?_
            refine aP 1 (.ptr 3 0) rfl (k_fieldAddr 3 0 (hu := Try.underlying56) (hf := rfl) (hi := ty31)) ?_
            refine aQ 2 [3] (.d (.int .i64 x77)) rfl (k_load 3 0 (hu := Try.underlying31)) ?_
            refine aOne (i := 3) (v := .undef) rfl (hac := Does.acts (k_store (vs := [.nilc]) (H' := [.box [.d (.lit (List.map e_SPoint f0))], .box [.d (.lit (List.map e_SPoint g0))], .box [.nilc], .box [.d (.int .i64 x77)], .sl 4 (List.map e_SPoint xs18) false, .box [.d (.int .i64 e129.Num), .d (.int .i64 e129.Den)], .box [.d (.int .i64 x78), .d (.int .i64 x79)]]) 2 0 (hi := ty29))) (h := ?_)
            refine aP 4 (.d (.int .i64 x77)) rfl p_assign ?_
            refine aDone (h := ?_)
            refine oConvB 2 (cells := [.nilc]) (cells' := [.d (.lit (List.map e_SPoint []))]) (hc := .cons _ _ _ _ .nil .nil) (h := ?_)
            refine oView (H' := [.box [.d (.lit (List.map e_SPoint f0))], .box [.d (.lit (List.map e_SPoint g0))], .box [.d (.lit (List.map e_SPoint []))], .box [.d (.int .i64 x77)], .sl 4 (List.map e_SPoint xs18) false, .box [.d (.int .i64 e129.Num), .d (.int .i64 e129.Den)], .box [.d (.int .i64 x78), .d (.int .i64 x79)]]) rfl (h := ?_)
            exact oRet (r0 := ([], x77)) (rv := .tuple [.agg [.d (.lit (List.map e_SPoint []))], .d (.int .i64 x77)]) (B := []) (vs := [.agg [.d (.lit (List.map e_SPoint []))], .d (.int .i64 x77)]) (σ := []) (hf := Try.func16) (hrs := rfl) (hres := .cons _ _ _ _ (.agg 4 29 2 0 [.d (.lit (List.map e_SPoint []))] [.d (.lit (List.map e_SPoint []))] _ _ _ _ (by kernel_rfl) (by kernel_rfl) Try.underlying29 (by kernel_rfl) ty29 (by kernel_rfl) (by kernel_rfl)) (.cons _ _ _ _ (.tmp 5 _ (by kernel_rfl)) .nil)) (hnd := by decide)
           ·refine oCondF (h := ?_)
            refine oSkip ?_
            refine oRegion rfl ?_
            refine oP (.ref 4 (List.length xs18) 0 (List.length xs18)) p_move ?_
            refine oQ (.agg [.d (.int .i64 e129.Num), .d (.int .i64 e129.Den)]) (k_loadAgg 5 0 (hu := Try.underlying37) (hi := ty37)) ?_
            refine oQ (.agg [.d (.int .i64 x78), .d (.int .i64 x79)]) (k_loadAgg 6 0 (hu := Try.underlying37) (hi := ty37)) ?_
            refine oP (.agg [.d (.int .i64 e129.Num), .d (.int .i64 e129.Den), .d (.int .i64 x78), .d (.int .i64 x79)]) (p_build bld39) ?_
            refine oD (.ref 7 (List.length ([(⟨e129.Num, e129.Den, x78, x79⟩ : SPoint)] : List SPoint)) 0 (List.length ([(⟨e129.Num, e129.Den, x78, x79⟩ : SPoint)] : List SPoint))) (k_buildSlice (H' := [.box [.d (.lit (List.map e_SPoint f0))], .box [.d (.lit (List.map e_SPoint g0))], .box [.nilc], .box [.d (.int .i64 x77)], .sl 4 (List.map e_SPoint xs18) false, .box [.d (.int .i64 e129.Num), .d (.int .i64 e129.Den)], .box [.d (.int .i64 x78), .d (.int .i64 x79)], .sl 4 (List.map e_SPoint ([(⟨e129.Num, e129.Den, x78, x79⟩ : SPoint)] : List SPoint)) false]) (List.map e_SPoint ([(⟨e129.Num, e129.Den, x78, x79⟩ : SPoint)] : List SPoint)) Try.underlying27 ty39) ?_
            refine bCap (fun h189 => ?_)
            refine oD (.ref 4 (List.length (xs18 ++ ([(⟨e129.Num, e129.Den, x78, x79⟩ : SPoint)] : List SPoint))) 0 (List.length (xs18 ++ ([(⟨e129.Num, e129.Den, x78, x79⟩ : SPoint)] : List SPoint)))) (k_append (H' := [.box [.d (.lit (List.map e_SPoint f0))], .box [.d (.lit (List.map e_SPoint g0))], .box [.nilc], .box [.d (.int .i64 x77)], .sl 4 (List.map e_SPoint (xs18 ++ ([(⟨e129.Num, e129.Den, x78, x79⟩ : SPoint)] : List SPoint))) false, .box [.d (.int .i64 e129.Num), .d (.int .i64 e129.Den)], .box [.d (.int .i64 x78), .d (.int .i64 x79)], .sl 4 (List.map e_SPoint ([(⟨e129.Num, e129.Den, x78, x79⟩ : SPoint)] : List SPoint)) false]) (enc := e_SPoint) 4 xs18 ([(⟨e129.Num, e129.Den, x78, x79⟩ : SPoint)] : List SPoint) Try.underlying27 Try.underlying27 ty39 (hy := (holdsRef (enc := e_SPoint) 7 ([(⟨e129.Num, e129.Den, x78, x79⟩ : SPoint)] : List SPoint) false)) (hfit := h189)) ?_
            refine oP (.ref 4 (List.length (xs18 ++ ([(⟨e129.Num, e129.Den, x78, x79⟩ : SPoint)] : List SPoint))) 0 (List.length (xs18 ++ ([(⟨e129.Num, e129.Den, x78, x79⟩ : SPoint)] : List SPoint)))) p_assign ?_
            refine oEnd ?_
            refine oBlk ?_
            refine oRegion rfl ?_
            refine oP (.d (.int .i64 (IntKind.wrap .i64 (x64 + 1)))) (p_int (k := .i64) (p := x64) (q := 1)) ?_
            refine oP (.d (.int .i64 (IntKind.wrap .i64 (x64 + 1)))) p_move ?_
            refine oEnd ?_
            refine oAgain ?_
            refine oHead [2, 3, 4, 6, 13, 66, 67, 68] [0, 1, 2, 3, 4] (T' := [(2, .ptr 0 0), (3, .ptr 1 0), (4, .ptr 2 0), (6, .ptr 3 0), (13, .ref 4 (List.length (xs18 ++ ([(⟨e129.Num, e129.Den, x78, x79⟩ : SPoint)] : List SPoint))) 0 (List.length (xs18 ++ ([(⟨e129.Num, e129.Den, x78, x79⟩ : SPoint)] : List SPoint)))), (66, .d (.lit (List.map e_SRatio r113))), (67, .d (.int .i64 ((List.length r113) : Int))), (68, .d (.int .i64 (IntKind.wrap .i64 (x64 + 1))))]) (H' := [.box [.d (.lit (List.map e_SPoint f0))], .box [.d (.lit (List.map e_SPoint g0))], .box [.nilc], .box [.d (.int .i64 x77)], .sl 4 (List.map e_SPoint (xs18 ++ ([(⟨e129.Num, e129.Den, x78, x79⟩ : SPoint)] : List SPoint))) false]) (hnd := by decide) (h := ?_)
            exact hag1 ((IntKind.wrap .i64 (x64 + 1)), x77, (xs18 ++ ([(⟨e129.Num, e129.Den, x78, x79⟩ : SPoint)] : List SPoint)))
          ·refine bSplit 78 (h1 := fun hc => ?_) (h2 := fun hc => ?_)
           ·refine oCondT (h := ?_)
            refine oRegion rfl ?_
            refine oP (.ptr 1 0) (k_fieldAddr 1 0 (hu := Try.underlying29) (hf := rfl) (hi := ty27)) ?_
            refine oQ (.d (.lit (List.map e_SPoint g0))) (k_load 1 0 (hu := Try.underlying27)) ?_
            refine oQ (.agg [.d (.int .i64 r1634), .d (.int .i64 r1734)]) (k_loadAgg 6 0 (hu := Try.underlying37) (hi := ty37)) ?_
            refine bCall (caps := []) (v := (uc fun (r1636 : Int) => (uc fun (r1736 : Int) => (fun (x336 : Int) => (.agg [.d (.int .i64 r1636), .d (.int .i64 r1736)] : V))))) (H' := (uc fun (r1636 : Int) => (uc fun (r1736 : Int) => (fun (x336 : Int) => ([.box [.d (.lit (List.map e_SPoint f0))], .box [.d (.lit (List.map e_SPoint g0))], .box [.nilc], .box [.d (.int .i64 x336)], .sl 4 (List.map e_SPoint xs18) false, .box [.d (.int .i64 e129.Num), .d (.int .i64 e129.Den)], .box [.d (.int .i64 r1634), .d (.int .i64 r1734)]] : List Blk))))) [3] _ (conversion_calc_eval_goes k g0 r1634 r1734 x334) (ho := rfl) (hfn := Try.func25) (hb := rfl) (hconv := ConvRs.refl _ _) (hnd := by decide) (hBl := fun _ => (by kernel_rfl)) (hv := fun _ => (by kernel_rfl)) (hH' := fun _ => (by kernel_rfl)) (h := fun r => ?_)
            obtain ⟨r1636, r1736, x336⟩ := r
            refine bUc ?_
            refine bUc ?_
            refine oD (.undef) (k_store (vs := [.d (.int .i64 r1636), .d (.int .i64 r1736)]) (H' := [.box [.d (.lit (List.map e_SPoint f0))], .box [.d (.lit (List.map e_SPoint g0))], .box [.nilc], .box [.d (.int .i64 x336)], .sl 4 (List.map e_SPoint xs18) false, .box [.d (.int .i64 e129.Num), .d (.int .i64 e129.Den)], .box [.d (.int .i64 r1636), .d (.int .i64 r1736)]]) 6 0 (hi := ty37)) ?_
            refine oEnd ?_
            refine oHead [2, 3, 4, 6, 13, 15, 16, 66, 67, 68] [0, 1, 2, 3, 4, 5, 6] (T' := [(2, .ptr 0 0), (3, .ptr 1 0), (4, .ptr 2 0), (6, .ptr 3 0), (13, .ref 4 (List.length xs18) 0 (List.length xs18)), (15, .ptr 5 0), (16, .ptr 6 0), (66, .d (.lit (List.map e_SRatio r113))), (67, .d (.int .i64 ((List.length r113) : Int))), (68, .d (.int .i64 x64))]) (H' := [.box [.d (.lit (List.map e_SPoint f0))], .box [.d (.lit (List.map e_SPoint g0))], .box [.nilc], .box [.d (.int .i64 x336)], .sl 4 (List.map e_SPoint xs18) false, .box [.d (.int .i64 e129.Num), .d (.int .i64 e129.Den)], .box [.d (.int .i64 r1636), .d (.int .i64 r1736)]]) (hnd := by decide) (h := ?_)
            exact hj20 (x336, r1636, r1736)
           ·refine oCondF (h := ?_)
            refine oSkip ?_
            refine oHead [2, 3, 4, 6, 13, 15, 16, 66, 67, 68] [0, 1, 2, 3, 4, 5, 6] (T' := [(2, .ptr 0 0), (3, .ptr 1 0), (4, .ptr 2 0), (6, .ptr 3 0), (13, .ref 4 (List.length xs18) 0 (List.length xs18)), (15, .ptr 5 0), (16, .ptr 6 0), (66, .d (.lit (List.map e_SRatio r113))), (67, .d (.int .i64 ((List.length r113) : Int))), (68, .d (.int .i64 x64))]) (H' := [.box [.d (.lit (List.map e_SPoint f0))], .box [.d (.lit (List.map e_SPoint g0))], .box [.nilc], .box [.d (.int .i64 x334)], .sl 4 (List.map e_SPoint xs18) false, .box [.d (.int .i64 e129.Num), .d (.int .i64 e129.Den)], .box [.d (.int .i64 r1634), .d (.int .i64 r1734)]]) (hnd := by decide) (h := ?_)
            exact hj20 (x334, r1634, r1734)
         ·refine oCondF (h := ?_)
          refine oExit rfl ?_
          refine oHead [4, 13] [2, 4] (T' := [(4, .ptr 0 0), (13, .ref 1 (List.length xs18) 0 (List.length xs18))]) (H' := [.box [.nilc], .sl 4 (List.map e_SPoint xs18) false]) (hnd := by decide) (h := ?_)
          exact hj14 xs18
     ·refine oBlock ?_
      refine oLoop ?_
      refine oHead [2, 3, 4, 6, 7, 8, 43, 44, 45] [0, 1, 2, 3, 4] (T' := [(2, .ptr 0 0), (3, .ptr 1 0), (4, .ptr 2 0), (6, .ptr 3 0), (7, .ref 4 (List.length xs11) 0 (List.length xs11)), (8, .d (.lit (List.map e_SPoint r112))), (43, .d (.lit (List.map e_SPoint g0))), (44, .d (.int .i64 ((List.length g0) : Int))), (45, .d (.int .i64 0))]) (H' := [.box [.d (.lit (List.map e_SPoint f0))], .box [.d (.lit (List.map e_SPoint g0))], .box [.nilc], .box [.d (.int .i64 0)], .sl 2 (List.map e_SRatio xs11) false]) (hnd := by decide) (h := ?_)
      refine bLoop (body := conversion_Compose_b2 k g0 r112) ((uc fun (x80 : Int) => (uc fun (x81 : Int) => (fun (xs20 : (List SRatio)) => [(2, .ptr 0 0), (3, .ptr 1 0), (4, .ptr 2 0), (6, .ptr 3 0), (7, .ref 4 (List.length xs20) 0 (List.length xs20)), (8, .d (.lit (List.map e_SPoint r112))), (43, .d (.lit (List.map e_SPoint g0))), (44, .d (.int .i64 ((List.length g0) : Int))), (45, .d (.int .i64 x80))])))) ((uc fun (x80 : Int) => (uc fun (x81 : Int) => (fun (xs20 : (List SRatio)) => [.box [.d (.lit (List.map e_SPoint f0))], .box [.d (.lit (List.map e_SPoint g0))], .box [.nilc], .box [.d (.int .i64 x81)], .sl 2 (List.map e_SRatio xs20) false])))) (fun again hag2 s => ?_) k (0, 0, xs11)
      ·unfold conversion_Compose_b2
       obtain ⟨x80, x81, xs20⟩ := s
       refine bUc ?_
       refine bUc ?_
       refine oView (T' := [(2, .ptr 0 0), (3, .ptr 1 0), (4, .ptr 2 0), (6, .ptr 3 0), (7, .ref 4 (List.length xs20) 0 (List.length xs20)), (8, .d (.lit (List.map e_SPoint r112))), (43, .d (.lit (List.map e_SPoint g0))), (44, .d (.int .i64 ((List.length g0) : Int))), (45, .d (.int .i64 x80))]) (H' := [.box [.d (.lit (List.map e_SPoint f0))], .box [.d (.lit (List.map e_SPoint g0))], .box [.nilc], .box [.d (.int .i64 x81)], .sl 2 (List.map e_SRatio xs20) false]) (h := ?_)
       refine oSR rfl ?_
       refine oP (.d (.bool (decide (x80 < ((List.length g0) : Int))))) (p_int (k := .i64) (p := x80) (q := ((List.length g0) : Int))) ?_
       refine oEnd ?_
       refine oSeq ?_
       refine bSplit 46 (h1 := fun hc => ?_) (h2 := fun hc => ?_)
       ·refine oCondT (h := ?_)
        refine oSkip ?_
        refine oSeq ?_
        refine oBlock ?_
        refine oSR rfl ?_
        refine bIdx (fun e135 h1105 h1106 => ?_)
        refine oP (.lptr (e_SPoint e135) 0) (k_idxLit e_SPoint_len g0 (a := e135) (k := .i64) (i := x80) (hu := Try.underlying27) (hi := ty39) (h0 := h1105) (he := h1106)) ?_
        refine oQ (.agg [.d (.int .i64 e135.X_Num), .d (.int .i64 e135.X_Den), .d (.int .i64 e135.Y_Num), .d (.int .i64 e135.Y_Den)]) (k_loadLAgg (cells := e_SPoint e135) 0 [(.int .i64 e135.X_Num), (.int .i64 e135.X_Den), (.int .i64 e135.Y_Num), (.int .i64 e135.Y_Den)] (hu := Try.underlying39) (hi := ty39)) ?_
        refine oD (.ptr 5 0) (k_alloc (H' := [.box [.d (.lit (List.map e_SPoint f0))], .box [.d (.lit (List.map e_SPoint g0))], .box [.nilc], .box [.d (.int .i64 x81)], .sl 2 (List.map e_SRatio xs20) false, .box [.d (.int .i64 0), .d (.int .i64 0), .d (.int .i64 0), .d (.int .i64 0)]]) ty39) ?_
        refine oD (.undef) (k_store (vs := [.d (.int .i64 e135.X_Num), .d (.int .i64 e135.X_Den), .d (.int .i64 e135.Y_Num), .d (.int .i64 e135.Y_Den)]) (H' := [.box [.d (.lit (List.map e_SPoint f0))], .box [.d (.lit (List.map e_SPoint g0))], .box [.nilc], .box [.d (.int .i64 x81)], .sl 2 (List.map e_SRatio xs20) false, .box [.d (.int .i64 e135.X_Num), .d (.int .i64 e135.X_Den), .d (.int .i64 e135.Y_Num), .d (.int .i64 e135.Y_Den)]]) 5 0 (hi := ty39)) ?_
        refine oEnd ?_
        refine oRegion rfl ?_
        refine oP (.ref 4 (List.length xs20) 0 (List.length xs20)) p_move ?_
        refine oP (.d (.lit (List.map e_SPoint r112))) p_move ?_
        refine oP (.ptr 5 0) (k_fieldAddr 5 0 (hu := Try.underlying39) (hf := rfl) (hi := ty37)) ?_
        refine oQ (.agg [.d (.int .i64 e135.X_Num), .d (.int .i64 e135.X_Den)]) (k_loadAgg 5 0 (hu := Try.underlying37) (hi := ty37)) ?_
        refine bCall (caps := []) (v := (uc fun (r1642 : Int) => (uc fun (r1742 : Int) => (fun (x342 : Int) => (.agg [.d (.int .i64 r1642), .d (.int .i64 r1742)] : V))))) (H' := (uc fun (r1642 : Int) => (uc fun (r1742 : Int) => (fun (x342 : Int) => ([.box [.d (.lit (List.map e_SPoint f0))], .box [.d (.lit (List.map e_SPoint g0))], .box [.nilc], .box [.d (.int .i64 x342)], .sl 2 (List.map e_SRatio xs20) false, .box [.d (.int .i64 e135.X_Num), .d (.int .i64 e135.X_Den), .d (.int .i64 e135.Y_Num), .d (.int .i64 e135.Y_Den)]] : List Blk))))) [3] _ (conversion_calc_eval_goes k r112 e135.X_Num e135.X_Den x81) (ho := rfl) (hfn := Try.func25) (hb := rfl) (hconv := ConvRs.refl _ _) (hnd := by decide) (hBl := fun _ => (by kernel_rfl)) (hv := fun _ => (by kernel_rfl)) (hH' := fun _ => (by kernel_rfl)) (h := fun r => ?_)
        obtain ⟨r1642, r1742, x342⟩ := r
        refine bUc ?_
        refine bUc ?_
        refine oD (.ref 6 (List.length ([(⟨r1642, r1742⟩ : SRatio)] : List SRatio)) 0 (List.length ([(⟨r1642, r1742⟩ : SRatio)] : List SRatio))) (k_buildSlice (H' := [.box [.d (.lit (List.map e_SPoint f0))], .box [.d (.lit (List.map e_SPoint g0))], .box [.nilc], .box [.d (.int .i64 x342)], .sl 2 (List.map e_SRatio xs20) false, .box [.d (.int .i64 e135.X_Num), .d (.int .i64 e135.X_Den), .d (.int .i64 e135.Y_Num), .d (.int .i64 e135.Y_Den)], .sl 2 (List.map e_SRatio ([(⟨r1642, r1742⟩ : SRatio)] : List SRatio)) false]) (List.map e_SRatio ([(⟨r1642, r1742⟩ : SRatio)] : List SRatio)) Try.underlying59 ty37) ?_
        refine bCap (fun h1107 => ?_)
        refine oD (.ref 4 (List.length (xs20 ++ ([(⟨r1642, r1742⟩ : SRatio)] : List SRatio))) 0 (List.length (xs20 ++ ([(⟨r1642, r1742⟩ : SRatio)] : List SRatio)))) (k_append (H' := [.box [.d (.lit (List.map e_SPoint f0))], .box [.d (.lit (List.map e_SPoint g0))], .box [.nilc], .box [.d (.int .i64 x342)], .sl 2 (List.map e_SRatio (xs20 ++ ([(⟨r1642, r1742⟩ : SRatio)] : List SRatio))) false, .box [.d (.int .i64 e135.X_Num), .d (.int .i64 e135.X_Den), .d (.int .i64 e135.Y_Num), .d (.int .i64 e135.Y_Den)], .sl 2 (List.map e_SRatio ([(⟨r1642, r1742⟩ : SRatio)] : List SRatio)) false]) (enc := e_SRatio) 4 xs20 ([(⟨r1642, r1742⟩ : SRatio)] : List SRatio) Try.underlying59 Try.underlying59 ty37 (hy := (holdsRef (enc := e_SRatio) 6 ([(⟨r1642, r1742⟩ : SRatio)] : List SRatio) false)) (hfit := h1107)) ?_
        refine oP (.ref 4 (List.length (xs20 ++ ([(⟨r1642, r1742⟩ : SRatio)] : List SRatio))) 0 (List.length (xs20 ++ ([(⟨r1642, r1742⟩ : SRatio)] : List SRatio)))) p_assign ?_
        refine oEnd ?_
        refine oBlk ?_
        refine oRegion rfl ?_
        refine oP (.d (.int .i64 (IntKind.wrap .i64 (x80 + 1)))) (p_int (k := .i64) (p := x80) (q := 1)) ?_
        refine oP (.d (.int .i64 (IntKind.wrap .i64 (x80 + 1)))) p_move ?_
        refine oEnd ?_
        refine oAgain ?_
        refine oHead [2, 3, 4, 6, 7, 8, 43, 44, 45] [0, 1, 2, 3, 4] (T' := [(2, .ptr 0 0), (3, .ptr 1 0), (4, .ptr 2 0), (6, .ptr 3 0), (7, .ref 4 (List.length (xs20 ++ ([(⟨r1642, r1742⟩ : SRatio)] : List SRatio))) 0 (List.length (xs20 ++ ([(⟨r1642, r1742⟩ : SRatio)] : List SRatio)))), (8, .d (.lit (List.map e_SPoint r112))), (43, .d (.lit (List.map e_SPoint g0))), (44, .d (.int .i64 ((List.length g0) : Int))), (45, .d (.int .i64 (IntKind.wrap .i64 (x80 + 1))))]) (H' := [.box [.d (.lit (List.map e_SPoint f0))], .box [.d (.lit (List.map e_SPoint g0))], .box [.nilc], .box [.d (.int .i64 x342)], .sl 2 (List.map e_SRatio (xs20 ++ ([(⟨r1642, r1742⟩ : SRatio)] : List SRatio))) false]) (hnd := by decide) (h := ?_)
        exact hag2 ((IntKind.wrap .i64 (x80 + 1)), x342, (xs20 ++ ([(⟨r1642, r1742⟩ : SRatio)] : List SRatio)))
       ·refine oCondF (h := ?_)
        refine oExit rfl ?_
        refine oHead [2, 3, 4, 6, 7] [0, 1, 2, 3, 4] (T' := [(2, .ptr 0 0), (3, .ptr 1 0), (4, .ptr 2 0), (6, .ptr 3 0), (7, .ref 4 (List.length xs20) 0 (List.length xs20))]) (H' := [.box [.d (.lit (List.map e_SPoint f0))], .box [.d (.lit (List.map e_SPoint g0))], .box [.nilc], .box [.d (.int .i64 x81)], .sl 2 (List.map e_SRatio xs20) false]) (hnd := by decide) (h := ?_)
        exact hj9 (x81, xs20)
    ·refine oBlock ?_
     refine oLoop ?_
     refine oVirt (esz := 2) 7 (h := ?_)
     refine oView (H' := [.box [.d (.lit (List.map e_SPoint f0))], .box [.d (.lit (List.map e_SPoint g0))], .box [.nilc], .box [.d (.int .i64 0)], .sl 2 (List.map e_SRatio ([] : List SRatio)) false]) rfl (h := ?_)
     refine oHead [2, 3, 4, 6, 7, 8, 30, 31, 32] [0, 1, 2, 3, 4] (T' := [(2, .ptr 0 0), (3, .ptr 1 0), (4, .ptr 2 0), (6, .ptr 3 0), (7, .ref 4 (List.length ([] : List SRatio)) 0 (List.length ([] : List SRatio))), (8, .d (.lit (List.map e_SPoint r112))), (30, .d (.lit (List.map e_SPoint f0))), (31, .d (.int .i64 ((List.length f0) : Int))), (32, .d (.int .i64 0))]) (H' := [.box [.d (.lit (List.map e_SPoint f0))], .box [.d (.lit (List.map e_SPoint g0))], .box [.nilc], .box [.d (.int .i64 0)], .sl 2 (List.map e_SRatio ([] : List SRatio)) false]) (hnd := by decide) (h := ?_)
     refine bLoop (body := conversion_Compose_b3 k f0) ((uc fun (x84 : Int) => (fun (xs24 : (List SRatio)) => [(2, .ptr 0 0), (3, .ptr 1 0), (4, .ptr 2 0), (6, .ptr 3 0), (7, .ref 4 (List.length xs24) 0 (List.length xs24)), (8, .d (.lit (List.map e_SPoint r112))), (30, .d (.lit (List.map e_SPoint f0))), (31, .d (.int .i64 ((List.length f0) : Int))), (32, .d (.int .i64 x84))]))) ((uc fun (x84 : Int) => (fun (xs24 : (List SRatio)) => [.box [.d (.lit (List.map e_SPoint f0))], .box [.d (.lit (List.map e_SPoint g0))], .box [.nilc], .box [.d (.int .i64 0)], .sl 2 (List.map e_SRatio xs24) false]))) (fun again hag3 s => ?_) k (0, ([] : List SRatio))
     ·unfold conversion_Compose_b3
      obtain ⟨x84, xs24⟩ := s
      refine bUc ?_
      refine oView (T' := [(2, .ptr 0 0), (3, .ptr 1 0), (4, .ptr 2 0), (6, .ptr 3 0), (7, .ref 4 (List.length xs24) 0 (List.length xs24)), (8, .d (.lit (List.map e_SPoint r112))), (30, .d (.lit (List.map e_SPoint f0))), (31, .d (.int .i64 ((List.length f0) : Int))), (32, .d (.int .i64 x84))]) (H' := [.box [.d (.lit (List.map e_SPoint f0))], .box [.d (.lit (List.map e_SPoint g0))], .box [.nilc], .box [.d (.int .i64 0)], .sl 2 (List.map e_SRatio xs24) false]) (h := ?_)
      refine oSR rfl ?_
      refine oP (.d (.bool (decide (x84 < ((List.length f0) : Int))))) (p_int (k := .i64) (p := x84) (q := ((List.length f0) : Int))) ?_
      refine oEnd ?_
      refine oSeq ?_
      refine bSplit 33 (h1 := fun hc => ?_) (h2 := fun hc => ?_)
      ·refine oCondT (h := ?_)
       refine oSkip ?_
       refine oSeq ?_
       refine oBlock ?_
       refine oSR rfl ?_
       refine bIdx (fun e141 h1123 h1124 => ?_)
       refine oP (.lptr (e_SPoint e141) 0) (k_idxLit e_SPoint_len f0 (a := e141) (k := .i64) (i := x84) (hu := Try.underlying27) (hi := ty39) (h0 := h1123) (he := h1124)) ?_
       refine oQ (.agg [.d (.int .i64 e141.X_Num), .d (.int .i64 e141.X_Den), .d (.int .i64 e141.Y_Num), .d (.int .i64 e141.Y_Den)]) (k_loadLAgg (cells := e_SPoint e141) 0 [(.int .i64 e141.X_Num), (.int .i64 e141.X_Den), (.int .i64 e141.Y_Num), (.int .i64 e141.Y_Den)] (hu := Try.underlying39) (hi := ty39)) ?_
       refine oD (.ptr 5 0) (k_alloc (H' := [.box [.d (.lit (List.map e_SPoint f0))], .box [.d (.lit (List.map e_SPoint g0))], .box [.nilc], .box [.d (.int .i64 0)], .sl 2 (List.map e_SRatio xs24) false, .box [.d (.int .i64 0), .d (.int .i64 0), .d (.int .i64 0), .d (.int .i64 0)]]) ty39) ?_
       refine oD (.undef) (k_store (vs := [.d (.int .i64 e141.X_Num), .d (.int .i64 e141.X_Den), .d (.int .i64 e141.Y_Num), .d (.int .i64 e141.Y_Den)]) (H' := [.box [.d (.lit (List.map e_SPoint f0))], .box [.d (.lit (List.map e_SPoint g0))], .box [.nilc], .box [.d (.int .i64 0)], .sl 2 (List.map e_SRatio xs24) false, .box [.d (.int .i64 e141.X_Num), .d (.int .i64 e141.X_Den), .d (.int .i64 e141.Y_Num), .d (.int .i64 e141.Y_Den)]]) 5 0 (hi := ty39)) ?_
       refine oEnd ?_
       refine oRegion rfl ?_
       refine oP (.ref 4 (List.length xs24) 0 (List.length xs24)) p_move ?_
       refine oP (.ptr 5 0) (k_fieldAddr 5 0 (hu := Try.underlying39) (hf := rfl) (hi := ty37)) ?_
       refine oQ (.agg [.d (.int .i64 e141.X_Num), .d (.int .i64 e141.X_Den)]) (k_loadAgg 5 0 (hu := Try.underlying37) (hi := ty37)) ?_
       refine oD (.ref 6 (List.length ([(⟨e141.X_Num, e141.X_Den⟩ : SRatio)] : List SRatio)) 0 (List.length ([(⟨e141.X_Num, e141.X_Den⟩ : SRatio)] : List SRatio))) (k_buildSlice (H' := [.box [.d (.lit (List.map e_SPoint f0))], .box [.d (.lit (List.map e_SPoint g0))], .box [.nilc], .box [.d (.int .i64 0)], .sl 2 (List.map e_SRatio xs24) false, .box [.d (.int .i64 e141.X_Num), .d (.int .i64 e141.X_Den), .d (.int .i64 e141.Y_Num), .d (.int .i64 e141.Y_Den)], .sl 2 (List.map e_SRatio ([(⟨e141.X_Num, e141.X_Den⟩ : SRatio)] : List SRatio)) false]) (List.map e_SRatio ([(⟨e141.X_Num, e141.X_Den⟩ : SRatio)] : List SRatio)) Try.underlying59 ty37) ?_
       refine bCap (fun h1125 => ?_)
       refine oD (.ref 4 (List.length (xs24 ++ ([(⟨e141.X_Num, e141.X_Den⟩ : SRatio)] : List SRatio))) 0 (List.length (xs24 ++ ([(⟨e141.X_Num, e141.X_Den⟩ : SRatio)] : List SRatio)))) (k_append (H' := [.box [.d (.lit (List.map e_SPoint f0))], .box [.d (.lit (List.map e_SPoint g0))], .box [.nilc], .box [.d (.int .i64 0)], .sl 2 (List.map e_SRatio (xs24 ++ ([(⟨e141.X_Num, e141.X_Den⟩ : SRatio)] : List SRatio))) false, .box [.d (.int .i64 e141.X_Num), .d (.int .i64 e141.X_Den), .d (.int .i64 e141.Y_Num), .d (.int .i64 e141.Y_Den)], .sl 2 (List.map e_SRatio ([(⟨e141.X_Num, e141.X_Den⟩ : SRatio)] : List SRatio)) false]) (enc := e_SRatio) 4 xs24 ([(⟨e141.X_Num, e141.X_Den⟩ : SRatio)] : List SRatio) Try.underlying59 Try.underlying59 ty37 (hy := (holdsRef (enc := e_SRatio) 6 ([(⟨e141.X_Num, e141.X_Den⟩ : SRatio)] : List SRatio) false)) (hfit := h1125)) ?_
       refine oP (.ref 4 (List.length (xs24 ++ ([(⟨e141.X_Num, e141.X_Den⟩ : SRatio)] : List SRatio))) 0 (List.length (xs24 ++ ([(⟨e141.X_Num, e141.X_Den⟩ : SRatio)] : List SRatio)))) p_assign ?_
       refine oEnd ?_
       refine oBlk ?_
       refine oRegion rfl ?_
       refine oP (.d (.int .i64 (IntKind.wrap .i64 (x84 + 1)))) (p_int (k := .i64) (p := x84) (q := 1)) ?_
       refine oP (.d (.int .i64 (IntKind.wrap .i64 (x84 + 1)))) p_move ?_
       refine oEnd ?_
       refine oAgain ?_
       refine oHead [2, 3, 4, 6, 7, 8, 30, 31, 32] [0, 1, 2, 3, 4] (T' := [(2, .ptr 0 0), (3, .ptr 1 0), (4, .ptr 2 0), (6, .ptr 3 0), (7, .ref 4 (List.length (xs24 ++ ([(⟨e141.X_Num, e141.X_Den⟩ : SRatio)] : List SRatio))) 0 (List.length (xs24 ++ ([(⟨e141.X_Num, e141.X_Den⟩ : SRatio)] : List SRatio)))), (8, .d (.lit (List.map e_SPoint r112))), (30, .d (.lit (List.map e_SPoint f0))), (31, .d (.int .i64 ((List.length f0) : Int))), (32, .d (.int .i64 (IntKind.wrap .i64 (x84 + 1))))]) (H' := [.box [.d (.lit (List.map e_SPoint f0))], .box [.d (.lit (List.map e_SPoint g0))], .box [.nilc], .box [.d (.int .i64 0)], .sl 2 (List.map e_SRatio (xs24 ++ ([(⟨e141.X_Num, e141.X_Den⟩ : SRatio)] : List SRatio))) false]) (hnd := by decide) (h := ?_)
       exact hag3 ((IntKind.wrap .i64 (x84 + 1)), (xs24 ++ ([(⟨e141.X_Num, e141.X_Den⟩ : SRatio)] : List SRatio)))
      ·refine oCondF (h := ?_)
       refine oExit rfl ?_
       refine oHead [2, 3, 4, 6, 7, 8] [0, 1, 2, 3, 4] (T' := [(2, .ptr 0 0), (3, .ptr 1 0), (4, .ptr 2 0), (6, .ptr 3 0), (7, .ref 4 (List.length xs24) 0 (List.length xs24)), (8, .d (.lit (List.map e_SPoint r112)))]) (H' := [.box [.d (.lit (List.map e_SPoint f0))], .box [.d (.lit (List.map e_SPoint g0))], .box [.nilc], .box [.d (.int .i64 0)], .sl 2 (List.map e_SRatio xs24) false]) (hnd := by decide) (h := ?_)
       exact hj8 xs24
  ·refine bSplit 20 (h1 := fun hc => ?_) (h2 := fun hc => ?_)
   ·refine oNot (h := ?_)
    refine oNot (h := ?_)
    refine oNot (h := ?_)
    refine oP (.d (.bool true)) (p_pick (b := true)) ?_
    refine oHead [2, 3, 4, 24] [0, 1, 2] (T' := [(2, .ptr 0 0), (3, .ptr 1 0), (4, .ptr 2 0), (24, .d (.bool true))]) (H' := [.box [.d (.lit (List.map e_SPoint f0))], .box [.d (.lit (List.map e_SPoint g0))], .box [.nilc]]) (hnd := by decide) (h := ?_)
    exact hj21 true
   ·refine oQ (.agg [.d (.lit (List.map e_SPoint g0))]) (k_loadAgg 1 0 (hu := Try.underlying29) (hi := ty29)) ?_
    refine bCall (caps := []) (v := (fun (r116 : Bool) => (.d (.bool r116) : V))) (H' := (fun (r116 : Bool) => ([.box [.d (.lit (List.map e_SPoint f0))], .box [.d (.lit (List.map e_SPoint g0))], .box [.nilc]] : List Blk))) [] _ (conversion_Valid_goes k g0) (ho := rfl) (hfn := Try.func12) (hb := rfl) (hconv := ConvRs.refl _ _) (hnd := by decide) (hBl := fun _ => (by kernel_rfl)) (hv := fun _ => (by kernel_rfl)) (hH' := fun _ => (by kernel_rfl)) (h := fun r116 => ?_)
    refine oP (.d (.bool (!r116))) (p_not (p := r116)) ?_
    refine oP (.d (.bool (!r116))) (p_pick (b := false)) ?_
    refine oHead [2, 3, 4, 24] [0, 1, 2] (T' := [(2, .ptr 0 0), (3, .ptr 1 0), (4, .ptr 2 0), (24, .d (.bool (!r116)))]) (H' := [.box [.d (.lit (List.map e_SPoint f0))], .box [.d (.lit (List.map e_SPoint g0))], .box [.nilc]]) (hnd := by decide) (h := ?_)
    exact hj21 (!r116)

/-- slices.Equal[[]awardingbody/api.Point,awardingbody/api.Point] -/
def slices_Equal_api_Point_api_Point_b1 (k : Nat) (s1 : (List SPoint)) (s2 : (List SPoint)) (again : Int → Option ((Unit) ⊕ (Bool))) : Int → Option ((Unit) ⊕ (Bool)) := fun x4 => bif (decide (x4 < ((List.length s1) : Int))) then gidx s1 x4 fun e1 => gidx s2 x4 fun e11 => bif (!(((e1.X_Num == e11.X_Num) && ((e1.X_Den == e11.X_Den) && true)) && (((e1.Y_Num == e11.Y_Num) && ((e1.Y_Den == e11.Y_Den) && true)) && true))) then some (Sum.inr false) else again (IntKind.wrap .i64 (x4 + 1)) else some (Sum.inl ())
def slices_Equal_api_Point_api_Point (k : Nat) (s1 : (List SPoint)) (s2 : (List SPoint)) : Option (Bool) := bif (((List.length s1) : Int) != ((List.length s2) : Int)) then some false else Option.bind (gloop (slices_Equal_api_Point_api_Point_b1 k s1 s2) k 0 : Option ((Unit) ⊕ (Bool))) (Sum.elim (u0 (some true)) (fun r => some r))
def slices_Equal_api_Point_api_Point_E (s1 : (List SPoint)) (s2 : (List SPoint)) : Bool → V × List Blk := fun r1 => (.d (.bool r1), [])
theorem slices_Equal_api_Point_api_Point_goes (k : Nat) (s1 : (List SPoint)) (s2 : (List SPoint)) : RunsO Try.prog 22 [.d (.lit (List.map e_SPoint s1)), .d (.lit (List.map e_SPoint s2))] [] (slices_Equal_api_Point_api_Point_E s1 s2) (slices_Equal_api_Point_api_Point k s1 s2) := by
  refine RunsO.of_goes (N := 26) (m := 0) (T := [(0, .d (.lit (List.map e_SPoint s1))), (1, .d (.lit (List.map e_SPoint s2)))]) Try.func22 rfl rfl (h := ?_)
  unfold slices_Equal_api_Point_api_Point
  refine bStart ?_
  refine oSR rfl ?_
  refine oP (.d (.bool false)) p_assign ?_
  refine oEnd ?_
  refine oSeq ?_
  refine oSR rfl ?_
  refine oP (.d (.lit (List.map e_SPoint s1))) p_move ?_
  refine oP (.d (.int .i64 ((List.length s1) : Int))) (k_lenLit (enc := e_SPoint) s1 (hu := Try.underlying27)) ?_
  refine oP (.d (.lit (List.map e_SPoint s2))) p_move ?_
  refine oP (.d (.int .i64 ((List.length s2) : Int))) (k_lenLit (enc := e_SPoint) s2 (hu := Try.underlying27)) ?_
  refine oP (.d (.bool (((List.length s1) : Int) != ((List.length s2) : Int)))) (p_int (k := .i64) (p := ((List.length s1) : Int)) (q := ((List.length s2) : Int))) ?_
  refine oEnd ?_
  refine bSplit 10 (h1 := fun hc => ?_) (h2 := fun hc => ?_)
  ·refine oCondT (h := ?_)
   refine oSR rfl ?_
   refine oP (.d (.bool false)) p_assign ?_
   refine oEnd ?_
   exact oRet (r0 := false) (rv := .d (.bool false)) (B := []) (vs := [.d (.bool false)]) (σ := []) (hf := Try.func22) (hrs := rfl) (hres := .cons _ _ _ _ (.tmp 4 _ (by kernel_rfl)) .nil) (hnd := by decide)
  ·refine oCondF (h := ?_)
   refine oSkip ?_
   refine oSeq ?_
   refine oSR rfl ?_
   refine oP (.d (.lit (List.map e_SPoint s1))) p_move ?_
   refine oP (.d (.int .i64 ((List.length s1) : Int))) (k_lenLit (enc := e_SPoint) s1 (hu := Try.underlying27)) ?_
   refine oP (.d (.int .i64 0)) p_move ?_
   refine oEnd ?_
   refine bJoin ((u0 ([]))) ((u0 ([]))) Sum.inl (fun s => ?_) (fun hj2 => ?_)
   ·cases s
    refine bInl ?_
    refine bU0 ?_
    refine oView (T' := []) (H' := []) (h := ?_)
    refine oSR rfl ?_
    refine oP (.d (.bool true)) p_assign ?_
    refine oEnd ?_
    exact oRet (r0 := true) (rv := .d (.bool true)) (B := []) (vs := [.d (.bool true)]) (σ := []) (hf := Try.func22) (hrs := rfl) (hres := .cons _ _ _ _ (.tmp 4 _ (by kernel_rfl)) .nil) (hnd := by decide)
   ·refine oBlock ?_
    refine oLoop ?_
    refine oHead [0, 1, 12, 13] [] (T' := [(0, .d (.lit (List.map e_SPoint s1))), (1, .d (.lit (List.map e_SPoint s2))), (12, .d (.int .i64 ((List.length s1) : Int))), (13, .d (.int .i64 0))]) (H' := []) (hnd := by decide) (h := ?_)
    refine bLoop (body := slices_Equal_api_Point_api_Point_b1 k s1 s2) ((fun (x4 : Int) => [(0, .d (.lit (List.map e_SPoint s1))), (1, .d (.lit (List.map e_SPoint s2))), (12, .d (.int .i64 ((List.length s1) : Int))), (13, .d (.int .i64 x4))])) ((fun (x4 : Int) => [])) (fun again hag1 x4 => ?_) k 0
    ·unfold slices_Equal_api_Point_api_Point_b1
     refine oView (T' := [(0, .d (.lit (List.map e_SPoint s1))), (1, .d (.lit (List.map e_SPoint s2))), (12, .d (.int .i64 ((List.length s1) : Int))), (13, .d (.int .i64 x4))]) (H' := []) (h := ?_)
     refine oSR rfl ?_
     refine oP (.d (.bool (decide (x4 < ((List.length s1) : Int))))) (p_int (k := .i64) (p := x4) (q := ((List.length s1) : Int))) ?_
     refine oEnd ?_
     refine oSeq ?_
     refine bSplit 14 (h1 := fun hc => ?_) (h2 := fun hc => ?_)
     ·refine oCondT (h := ?_)
      refine oSkip ?_
      refine oSeq ?_
      refine oBlock ?_
      refine oSR rfl ?_
      refine oP (.d (.int .i64 x4)) p_move ?_
      refine oP (.d (.int .i64 x4)) p_assign ?_
      refine oEnd ?_
      refine oSeq ?_
      refine oDraw [] rfl ?_
      refine aP 0 (.d (.lit (List.map e_SPoint s1))) rfl p_move ?_
      refine aP 1 (.d (.int .i64 x4)) rfl p_move ?_
      refine dIdx (fun e1 h1 h11 => ?_)
      refine aP 2 (.lptr (e_SPoint e1) 0) rfl (k_idxLit e_SPoint_len s1 (a := e1) (k := .i64) (i := x4) (hu := Try.underlying27) (hi := ty39) (h0 := h1) (he := h11)) ?_
      refine aQ 3 [] (.agg [.d (.int .i64 e1.X_Num), .d (.int .i64 e1.X_Den), .d (.int .i64 e1.Y_Num), .d (.int .i64 e1.Y_Den)]) rfl (k_loadLAgg (cells := e_SPoint e1) 0 [(.int .i64 e1.X_Num), (.int .i64 e1.X_Den), (.int .i64 e1.Y_Num), (.int .i64 e1.Y_Den)] (hu := Try.underlying39) (hi := ty39)) ?_
      refine aP 4 (.d (.lit (List.map e_SPoint s2))) rfl p_move ?_
      refine aP 5 (.d (.int .i64 x4)) rfl p_move ?_
      refine dIdx (fun e11 h12 h13 => ?_)
      refine aP 6 (.lptr (e_SPoint e11) 0) rfl (k_idxLit e_SPoint_len s2 (a := e11) (k := .i64) (i := x4) (hu := Try.underlying27) (hi := ty39) (h0 := h12) (he := h13)) ?_
      refine aQ 7 [] (.agg [.d (.int .i64 e11.X_Num), .d (.int .i64 e11.X_Den), .d (.int .i64 e11.Y_Num), .d (.int .i64 e11.Y_Den)]) rfl (k_loadLAgg (cells := e_SPoint e11) 0 [(.int .i64 e11.X_Num), (.int .i64 e11.X_Den), (.int .i64 e11.Y_Num), (.int .i64 e11.Y_Den)] (hu := Try.underlying39) (hi := ty39)) ?_
      refine aP 8 (.d (.bool (!(((e1.X_Num == e11.X_Num) && ((e1.X_Den == e11.X_Den) && true)) && (((e1.Y_Num == e11.Y_Num) && ((e1.Y_Den == e11.Y_Den) && true)) && true))))) rfl (k_neAgg (hg := Try.eqGuardType39) (h := EqV.struct 2 39 [.d (.int .i64 e1.X_Num), .d (.int .i64 e1.X_Den), .d (.int .i64 e1.Y_Num), .d (.int .i64 e1.Y_Den)] [.d (.int .i64 e11.X_Num), .d (.int .i64 e11.X_Den), .d (.int .i64 e11.Y_Num), .d (.int .i64 e11.Y_Den)] _ (((e1.X_Num == e11.X_Num) && ((e1.X_Den == e11.X_Den) && true)) && (((e1.Y_Num == e11.Y_Num) && ((e1.Y_Den == e11.Y_Den) && true)) && true)) Try.underlying39 Try.stoodInHeld39 (EqF.agg 2 2 _ _ _ _ _ _ _ ((e1.X_Num == e11.X_Num) && ((e1.X_Den == e11.X_Den) && true)) (((e1.Y_Num == e11.Y_Num) && ((e1.Y_Den == e11.Y_Den) && true)) && true) _ _ _ (by kernel_rfl) Try.underlying37 (by kernel_rfl) ty37 (by kernel_rfl) (by kernel_rfl) (by kernel_rfl) (by kernel_rfl) (EqV.struct 1 37 [.d (.int .i64 e1.X_Num), .d (.int .i64 e1.X_Den)] [.d (.int .i64 e11.X_Num), .d (.int .i64 e11.X_Den)] _ ((e1.X_Num == e11.X_Num) && ((e1.X_Den == e11.X_Den) && true)) Try.underlying37 Try.stoodInHeld37 (EqF.one 1 1 _ _ _ _ _ _ _ (e1.X_Num == e11.X_Num) ((e1.X_Den == e11.X_Den) && true) (by kernel_rfl) Try.underlying3 (by kernel_rfl) (by kernel_rfl) (by kernel_rfl) (by kernel_rfl) (EqV.int 3 .i64 .i64 e1.X_Num e11.X_Num Try.underlying3) (EqF.one 1 1 _ _ _ _ _ _ _ (e1.X_Den == e11.X_Den) true (by kernel_rfl) Try.underlying3 (by kernel_rfl) (by kernel_rfl) (by kernel_rfl) (by kernel_rfl) (EqV.int 3 .i64 .i64 e1.X_Den e11.X_Den Try.underlying3) (EqF.nil 1 _ _)))) (EqF.agg 2 2 _ _ _ _ _ _ _ ((e1.Y_Num == e11.Y_Num) && ((e1.Y_Den == e11.Y_Den) && true)) true _ _ _ (by kernel_rfl) Try.underlying37 (by kernel_rfl) ty37 (by kernel_rfl) (by kernel_rfl) (by kernel_rfl) (by kernel_rfl) (EqV.struct 1 37 [.d (.int .i64 e1.Y_Num), .d (.int .i64 e1.Y_Den)] [.d (.int .i64 e11.Y_Num), .d (.int .i64 e11.Y_Den)] _ ((e1.Y_Num == e11.Y_Num) && ((e1.Y_Den == e11.Y_Den) && true)) Try.underlying37 Try.stoodInHeld37 (EqF.one 1 1 _ _ _ _ _ _ _ (e1.Y_Num == e11.Y_Num) ((e1.Y_Den == e11.Y_Den) && true) (by kernel_rfl) Try.underlying3 (by kernel_rfl) (by kernel_rfl) (by kernel_rfl) (by kernel_rfl) (EqV.int 3 .i64 .i64 e1.Y_Num e11.Y_Num Try.underlying3) (EqF.one 1 1 _ _ _ _ _ _ _ (e1.Y_Den == e11.Y_Den) true (by kernel_rfl) Try.underlying3 (by kernel_rfl) (by kernel_rfl) (by kernel_rfl) (by kernel_rfl) (EqV.int 3 .i64 .i64 e1.Y_Den e11.Y_Den Try.underlying3) (EqF.nil 1 _ _)))) (EqF.nil 2 _ _))))) ?_
      refine aDone (h := ?_)
      refine bSplit 24 (h1 := fun hc => ?_) (h2 := fun hc => ?_)
      ·refine oCondT (h := ?_)
       refine oSR rfl ?_
       refine oP (.d (.bool false)) p_assign ?_
       refine oEnd ?_
       exact oRet (r0 := false) (rv := .d (.bool false)) (B := []) (vs := [.d (.bool false)]) (σ := []) (hf := Try.func22) (hrs := rfl) (hres := .cons _ _ _ _ (.tmp 4 _ (by kernel_rfl)) .nil) (hnd := by decide)
      ·refine oCondF (h := ?_)
       refine oSkip ?_
       refine oBlk ?_
       refine oRegion rfl ?_
       refine oP (.d (.int .i64 (IntKind.wrap .i64 (x4 + 1)))) (p_int (k := .i64) (p := x4) (q := 1)) ?_
       refine oP (.d (.int .i64 (IntKind.wrap .i64 (x4 + 1)))) p_move ?_
       refine oEnd ?_
       refine oAgain ?_
       refine oHead [0, 1, 12, 13] [] (T' := [(0, .d (.lit (List.map e_SPoint s1))), (1, .d (.lit (List.map e_SPoint s2))), (12, .d (.int .i64 ((List.length s1) : Int))), (13, .d (.int .i64 (IntKind.wrap .i64 (x4 + 1))))]) (H' := []) (hnd := by decide) (h := ?_)
       exact hag1 (IntKind.wrap .i64 (x4 + 1))
     ·refine oCondF (h := ?_)
      refine oExit rfl ?_
      refine oHead [] [] (T' := []) (H' := []) (hnd := by decide) (h := ?_)
      exact hj2 ()

/-- awardingbody/conversion.Same -/
def conversion_Same (k : Nat) (a0 : (List SPoint)) (b0 : (List SPoint)) : Option (Bool) := Option.bind (conversion_Normal k a0) (uc fun r122 => fun r132 => Option.bind (conversion_Normal k b0) (uc fun r123 => fun r133 => blet ((r132 == 0) && (r133 == 0)) fun x2 => Option.bind (bif x2 then Option.bind (slices_Equal_api_Point_api_Point k r122 r123) (fun r15 => some r15) else some false : Option (Bool)) (fun x3 => some x3)))
def conversion_Same_E (a0 : (List SPoint)) (b0 : (List SPoint)) : Bool → V × List Blk := fun r11 => (.d (.bool r11), [])
theorem conversion_Same_goes (k : Nat) (a0 : (List SPoint)) (b0 : (List SPoint)) : RunsO Try.prog 11 [.agg [.d (.lit (List.map e_SPoint a0))], .agg [.d (.lit (List.map e_SPoint b0))]] [] (conversion_Same_E a0 b0) (conversion_Same k a0 b0) := by
  refine RunsO.of_goes (N := 32) (m := 0) (T := [(0, .agg [.d (.lit (List.map e_SPoint a0))]), (1, .agg [.d (.lit (List.map e_SPoint b0))])]) Try.func11 rfl rfl (h := ?_)
  unfold conversion_Same
  refine bStart ?_
  refine oSR rfl ?_
  refine oD (.ptr 0 0) (k_box (H' := [.box [.d (.lit (List.map e_SPoint a0))]]) (cells := [.d (.lit (List.map e_SPoint a0))])) ?_
  refine oD (.ptr 1 0) (k_box (H' := [.box [.d (.lit (List.map e_SPoint a0))], .box [.d (.lit (List.map e_SPoint b0))]]) (cells := [.d (.lit (List.map e_SPoint b0))])) ?_
  refine oP (.d (.bool false)) p_assign ?_
  refine oEnd ?_
  refine oSR rfl ?_
  refine oQ (.agg [.d (.lit (List.map e_SPoint a0))]) (k_loadAgg 0 0 (hu := Try.underlying29) (hi := ty29)) ?_
  refine bCall (caps := []) (v := (uc fun (r122 : (List SPoint)) => (fun (r132 : Int) => (.tuple [.agg [.d (.lit (List.map e_SPoint r122))], .d (.int .i64 r132)] : V)))) (H' := (uc fun (r122 : (List SPoint)) => (fun (r132 : Int) => ([.box [.d (.lit (List.map e_SPoint a0))], .box [.d (.lit (List.map e_SPoint b0))]] : List Blk)))) [] _ (conversion_Normal_goes k a0) (ho := rfl) (hfn := Try.func10) (hb := rfl) (hconv := ConvRs.refl _ _) (hnd := by decide) (hBl := fun _ => (by kernel_rfl)) (hv := fun _ => (by kernel_rfl)) (hH' := fun _ => (by kernel_rfl)) (h := fun r => ?_)
  obtain ⟨r122, r132⟩ := r
  refine bUc ?_
  refine oP (.tuple [.agg [.d (.lit (List.map e_SPoint r122))], .d (.int .i64 r132)]) p_move ?_
  refine oP (.agg [.d (.lit (List.map e_SPoint r122))]) k_extract ?_
  refine oP (.d (.int .i64 r132)) k_extract ?_
  refine oD (.ptr 2 0) (k_alloc (H' := [.box [.d (.lit (List.map e_SPoint a0))], .box [.d (.lit (List.map e_SPoint b0))], .box [.nilc]]) ty29) ?_
  refine oD (.undef) (k_store (vs := [.d (.lit (List.map e_SPoint r122))]) (H' := [.box [.d (.lit (List.map e_SPoint a0))], .box [.d (.lit (List.map e_SPoint b0))], .box [.d (.lit (List.map e_SPoint r122))]]) 2 0 (hi := ty29)) ?_
  refine oP (.d (.int .i64 r132)) p_assign ?_
  refine oEnd ?_
  refine oSR rfl ?_
  refine oQ (.agg [.d (.lit (List.map e_SPoint b0))]) (k_loadAgg 1 0 (hu := Try.underlying29) (hi := ty29)) ?_
  refine bCall (caps := []) (v := (uc fun (r123 : (List SPoint)) => (fun (r133 : Int) => (.tuple [.agg [.d (.lit (List.map e_SPoint r123))], .d (.int .i64 r133)] : V)))) (H' := (uc fun (r123 : (List SPoint)) => (fun (r133 : Int) => ([.box [.d (.lit (List.map e_SPoint a0))], .box [.d (.lit (List.map e_SPoint b0))], .box [.d (.lit (List.map e_SPoint r122))]] : List Blk)))) [] _ (conversion_Normal_goes k b0) (ho := rfl) (hfn := Try.func10) (hb := rfl) (hconv := ConvRs.refl _ _) (hnd := by decide) (hBl := fun _ => (by kernel_rfl)) (hv := fun _ => (by kernel_rfl)) (hH' := fun _ => (by kernel_rfl)) (h := fun r => ?_)
  obtain ⟨r123, r133⟩ := r
  refine bUc ?_
  refine oP (.tuple [.agg [.d (.lit (List.map e_SPoint r123))], .d (.int .i64 r133)]) p_move ?_
  refine oP (.agg [.d (.lit (List.map e_SPoint r123))]) k_extract ?_
  refine oP (.d (.int .i64 r133)) k_extract ?_
  refine oD (.ptr 3 0) (k_alloc (H' := [.box [.d (.lit (List.map e_SPoint a0))], .box [.d (.lit (List.map e_SPoint b0))], .box [.d (.lit (List.map e_SPoint r122))], .box [.nilc]]) ty29) ?_
  refine oD (.undef) (k_store (vs := [.d (.lit (List.map e_SPoint r123))]) (H' := [.box [.d (.lit (List.map e_SPoint a0))], .box [.d (.lit (List.map e_SPoint b0))], .box [.d (.lit (List.map e_SPoint r122))], .box [.d (.lit (List.map e_SPoint r123))]]) 3 0 (hi := ty29)) ?_
  refine oP (.d (.int .i64 r133)) p_assign ?_
  refine oEnd ?_
  refine oSR rfl ?_
  refine oP (.d (.int .i64 r132)) p_move ?_
  refine oP (.d (.bool (r132 == 0))) (p_int (k := .i64) (p := r132) (q := 0)) ?_
  refine oP (.d (.bool (r132 == 0))) p_move ?_
  refine bMeetF (H' := [.box [.d (.lit (List.map e_SPoint r122))], .box [.d (.lit (List.map e_SPoint r123))]]) 3 rfl ((fun (x2 : Bool) => [(5, .ptr 0 0), (7, .ptr 1 0), (24, .d (.bool x2))])) (fun x2 => ?_) (fun F hj1 => ?_)
  ·refine oView (T' := [(5, .ptr 0 0), (7, .ptr 1 0), (24, .d (.bool x2))]) (H' := [.box [.d (.lit (List.map e_SPoint r122))], .box [.d (.lit (List.map e_SPoint r123))]]) (h := ?_)
   refine oP (.d (.bool x2)) p_move ?_
   refine bMeet 6 rfl ((fun (x3 : Bool) => [(31, .d (.bool x3))])) ((fun (x3 : Bool) => [])) (fun s => s) (fun x3 => ?_) (fun hj2 => ?_)
   ·refine oView (T' := [(31, .d (.bool x3))]) (H' := []) (h := ?_)
    refine oP (.d (.bool x3)) p_assign ?_
    refine oEnd ?_
    exact oRet (r0 := x3) (rv := .d (.bool x3)) (B := []) (vs := [.d (.bool x3)]) (σ := []) (hf := Try.func11) (hrs := rfl) (hres := .cons _ _ _ _ (.tmp 4 _ (by kernel_rfl)) .nil) (hnd := by decide)
   ·refine bSplit 25 (h1 := fun hc => ?_) (h2 := fun hc => ?_)
    ·refine oP (.ptr 0 0) (k_fieldAddr 0 0 (hu := Try.underlying29) (hf := rfl) (hi := ty27)) ?_
     refine oQ (.d (.lit (List.map e_SPoint r122))) (k_load 0 0 (hu := Try.underlying27)) ?_
     refine oP (.ptr 1 0) (k_fieldAddr 1 0 (hu := Try.underlying29) (hf := rfl) (hi := ty27)) ?_
     refine oQ (.d (.lit (List.map e_SPoint r123))) (k_load 1 0 (hu := Try.underlying27)) ?_
     refine bCall (caps := []) (v := (fun (r15 : Bool) => (.d (.bool r15) : V))) (H' := (fun (r15 : Bool) => ([.box [.d (.lit (List.map e_SPoint r122))], .box [.d (.lit (List.map e_SPoint r123))]] : List Blk))) [] _ (slices_Equal_api_Point_api_Point_goes k r122 r123) (ho := rfl) (hfn := Try.func22) (hb := rfl) (hconv := ConvRs.refl _ _) (hnd := by decide) (hBl := fun _ => (by kernel_rfl)) (hv := fun _ => (by kernel_rfl)) (hH' := fun _ => (by kernel_rfl)) (h := fun r15 => ?_)
     refine oP (.d (.bool r15)) (p_pick (b := true)) ?_
     refine oHead [31] [] (T' := [(31, .d (.bool r15))]) (H' := []) (hnd := by decide) (h := ?_)
     exact hj2 r15
    ·refine oNot (h := ?_)
     refine oNot (h := ?_)
     refine oNot (h := ?_)
     refine oNot (h := ?_)
     refine oNot (h := ?_)
     refine oP (.d (.bool false)) (p_pick (b := false)) ?_
     refine oHead [31] [] (T' := [(31, .d (.bool false))]) (H' := []) (hnd := by decide) (h := ?_)
     exact hj2 false
  ·refine bPickF 21 (fun c => F (c && (r133 == 0))) (h1 := fun hc => ?_) (h2 := fun hc => ?_)
   ·refine oP (.d (.int .i64 r133)) p_move ?_
    refine oP (.d (.bool (r133 == 0))) (p_int (k := .i64) (p := r133) (q := 0)) ?_
    refine oP (.d (.bool (r133 == 0))) (p_pick (b := true)) ?_
    refine oHead [5, 7, 24] [2, 3] (T' := [(5, .ptr 0 0), (7, .ptr 1 0), (24, .d (.bool (r133 == 0)))]) (H' := [.box [.d (.lit (List.map e_SPoint r122))], .box [.d (.lit (List.map e_SPoint r123))]]) (hnd := by decide) (h := ?_)
    exact hj1 (r133 == 0)
   ·refine oNot (h := ?_)
    refine oNot (h := ?_)
    refine oP (.d (.bool false)) (p_pick (b := false)) ?_
    refine oHead [5, 7, 24] [2, 3] (T' := [(5, .ptr 0 0), (7, .ptr 1 0), (24, .d (.bool false))]) (H' := [.box [.d (.lit (List.map e_SPoint r122))], .box [.d (.lit (List.map e_SPoint r123))]]) (hnd := by decide) (h := ?_)
    exact hj1 false

/-- awardingbody/awardingbodylaw33.ConversionInverse -/
def law33_ConversionInverse (k : Nat) (t : (List Int)) : Option (Bool) := Option.bind (mark_Light k t) (u0 (bif (!(decide (((List.length t) : Int) ≤ 600))) then Option.bind (law33_sane k) (fun r110 => some r110) else Option.bind (mark_Roll k t) (u0 (Option.bind (mark_Dice_Curve k t 0) (uc fun r1111 => fun x91 => Option.bind (conversion_Inverse k r1111) (uc fun r136 => fun r145 => Option.bind (conversion_Inverse k r136) (uc fun r137 => fun r146 => Option.bind (mark_Dice_Ratio k t x91) (uc fun r121 => uc fun r138 => fun x41 => Option.bind (conversion_Eval_2 k r1111 r121 r138) (uc fun r117 => uc fun r139 => fun r147 => Option.bind (conversion_Eval_2 k r136 r117 r139) (uc fun r118 => uc fun r1310 => fun r148 => Option.bind (conversion_Compose k r1111 r136) (uc fun r152 => fun r182 => Option.bind (conversion_Compose k r136 r1111) (uc fun r153 => fun r183 => Option.bind (law33_whole k 1) (u0 (Option.bind (law33_whole k 0) (u0 (Option.bind (conversion_Line k 1 1 0 1) (uc fun r1311 => fun r149 => blet ((r145 == 0) && (r146 == 0)) fun x13 => blet (x13 && (r147 == 0)) fun x14 => blet (x14 && (r148 == 0)) fun x15 => blet (x15 && (r182 == 0)) fun x16 => blet (x16 && (r183 == 0)) fun x17 => blet (x17 && (r149 == 0)) fun x18 => blet (x18 && ((r118 == r121) && ((r1310 == r138) && true))) fun x19 => Option.bind (bif x19 then Option.bind (conversion_Same k r137 r1111) (fun r1115 => some r1115) else some false : Option (Bool)) (fun x20 => Option.bind (bif x20 then Option.bind (conversion_Same k r152 r1311) (fun r1114 => some r1114) else some false : Option (Bool)) (fun x21 => Option.bind (bif x21 then Option.bind (conversion_Same k r153 r1311) (fun r1113 => some r1113) else some false : Option (Bool)) (fun x22 => Option.bind (bif x22 then Option.bind (law33_sane k) (fun r122 => some r122) else some false : Option (Bool)) (fun x23 => some x23)))))))))))))))))))))
def law33_ConversionInverse_E (t : (List Int)) : Bool → V × List Blk := fun r17 => (.d (.bool r17), [])
theorem law33_ConversionInverse_goes (k : Nat) (t : (List Int)) : RunsO Try.prog 5 [.d (.lit (List.map e_i64 t))] [] (law33_ConversionInverse_E t) (law33_ConversionInverse k t) := by
  refine RunsO.of_goes (N := 119) (m := 0) (T := [(0, .d (.lit (List.map e_i64 t)))]) Try.func5 rfl rfl (h := ?_)
  unfold law33_ConversionInverse
  refine bStart ?_
  refine oSR rfl ?_
  refine oP (.d (.bool false)) p_assign ?_
  refine oEnd ?_
  refine oSeq ?_
  refine oSR rfl ?_
  refine oP (.d (.lit (List.map e_i64 t))) p_move ?_
  refine bCall (caps := []) (v := (u0 ((.d (.bool (decide (((List.length t) : Int) ≤ 600))) : V)))) (H' := (u0 (([] : List Blk)))) [] _ (mark_Light_goes k t) (ho := rfl) (hfn := Try.func6) (hb := rfl) (hconv := ConvRs.refl _ _) (hnd := by decide) (hBl := fun _ => (by kernel_rfl)) (hv := fun _ => (by kernel_rfl)) (hH' := fun _ => (by kernel_rfl)) (h := fun r => ?_)
  cases r
  refine bU0 ?_
  refine oP (.d (.bool (!(decide (((List.length t) : Int) ≤ 600))))) (p_not (p := (decide (((List.length t) : Int) ≤ 600)))) ?_
  refine oEnd ?_
  refine bSplit 22 (h1 := fun hc => ?_) (h2 := fun hc => ?_)
  ·refine oCondT (h := ?_)
   refine oSR rfl ?_
   refine bCall (caps := []) (v := (fun (r110 : Bool) => (.d (.bool r110) : V))) (H' := (fun (r110 : Bool) => ([] : List Blk))) [] _ (law33_sane_goes k) (ho := rfl) (hfn := Try.func7) (hb := rfl) (hconv := ConvRs.refl _ _) (hnd := by decide) (hBl := fun _ => (by kernel_rfl)) (hv := fun _ => (by kernel_rfl)) (hH' := fun _ => (by kernel_rfl)) (h := fun r110 => ?_)
   refine oP (.d (.bool r110)) p_assign ?_
   refine oEnd ?_
   exact oRet (r0 := r110) (rv := .d (.bool r110)) (B := []) (vs := [.d (.bool r110)]) (σ := []) (hf := Try.func5) (hrs := rfl) (hres := .cons _ _ _ _ (.tmp 2 _ (by kernel_rfl)) .nil) (hnd := by decide)
  ·refine oCondF (h := ?_)
   refine oSkip ?_
   refine oSR rfl ?_
   refine oP (.d (.lit (List.map e_i64 t))) p_move ?_
   refine bCall (caps := []) (v := (u0 ((.ptr 0 0 : V)))) (H' := (u0 (([.box [.d (.lit (List.map e_i64 t)), .d (.int .i64 0)]] : List Blk)))) [] _ (mark_Roll_goes k t) (ho := rfl) (hfn := Try.func8) (hb := rfl) (hconv := ConvRs.refl _ _) (hnd := by decide) (hBl := fun _ => (by kernel_rfl)) (hv := fun _ => (by kernel_rfl)) (hH' := fun _ => (by kernel_rfl)) (h := fun r => ?_)
   cases r
   refine bU0 ?_
   refine oP (.ptr 0 0) p_assign ?_
   refine oEnd ?_
   refine oSR rfl ?_
   refine oP (.ptr 0 0) p_move ?_
   refine bCall (caps := []) (v := (uc fun (r1111 : (List SPoint)) => (fun (x91 : Int) => (.agg [.d (.lit (List.map e_SPoint r1111))] : V)))) (H' := (uc fun (r1111 : (List SPoint)) => (fun (x91 : Int) => ([.box [.d (.lit (List.map e_i64 t)), .d (.int .i64 x91)]] : List Blk)))) [0] _ (mark_Dice_Curve_goes k t 0) (ho := rfl) (hfn := Try.func9) (hb := rfl) (hconv := ConvRs.refl _ _) (hnd := by decide) (hBl := fun _ => (by kernel_rfl)) (hv := fun _ => (by kernel_rfl)) (hH' := fun _ => (by kernel_rfl)) (h := fun r => ?_)
   obtain ⟨r1111, x91⟩ := r
   refine bUc ?_
   refine oD (.ptr 1 0) (k_alloc (H' := [.box [.d (.lit (List.map e_i64 t)), .d (.int .i64 x91)], .box [.nilc]]) ty29) ?_
   refine oD (.undef) (k_store (vs := [.d (.lit (List.map e_SPoint r1111))]) (H' := [.box [.d (.lit (List.map e_i64 t)), .d (.int .i64 x91)], .box [.d (.lit (List.map e_SPoint r1111))]]) 1 0 (hi := ty29)) ?_
   refine oEnd ?_
   refine oSR rfl ?_
   refine oQ (.agg [.d (.lit (List.map e_SPoint r1111))]) (k_loadAgg 1 0 (hu := Try.underlying29) (hi := ty29)) ?_
   refine bCall (caps := []) (v := (uc fun (r136 : (List SPoint)) => (fun (r145 : Int) => (.tuple [.agg [.d (.lit (List.map e_SPoint r136))], .d (.int .i64 r145)] : V)))) (H' := (uc fun (r136 : (List SPoint)) => (fun (r145 : Int) => ([.box [.d (.lit (List.map e_i64 t)), .d (.int .i64 x91)], .box [.d (.lit (List.map e_SPoint r1111))]] : List Blk)))) [] _ (conversion_Inverse_goes k r1111) (ho := rfl) (hfn := Try.func19) (hb := rfl) (hconv := ConvRs.refl _ _) (hnd := by decide) (hBl := fun _ => (by kernel_rfl)) (hv := fun _ => (by kernel_rfl)) (hH' := fun _ => (by kernel_rfl)) (h := fun r => ?_)
   obtain ⟨r136, r145⟩ := r
   refine bUc ?_
   refine oP (.tuple [.agg [.d (.lit (List.map e_SPoint r136))], .d (.int .i64 r145)]) p_move ?_
   refine oP (.agg [.d (.lit (List.map e_SPoint r136))]) k_extract ?_
   refine oP (.d (.int .i64 r145)) k_extract ?_
   refine oD (.ptr 2 0) (k_alloc (H' := [.box [.d (.lit (List.map e_i64 t)), .d (.int .i64 x91)], .box [.d (.lit (List.map e_SPoint r1111))], .box [.nilc]]) ty29) ?_
   refine oD (.undef) (k_store (vs := [.d (.lit (List.map e_SPoint r136))]) (H' := [.box [.d (.lit (List.map e_i64 t)), .d (.int .i64 x91)], .box [.d (.lit (List.map e_SPoint r1111))], .box [.d (.lit (List.map e_SPoint r136))]]) 2 0 (hi := ty29)) ?_
   refine oP (.d (.int .i64 r145)) p_assign ?_
   refine oEnd ?_
   refine oSR rfl ?_
   refine oQ (.agg [.d (.lit (List.map e_SPoint r136))]) (k_loadAgg 2 0 (hu := Try.underlying29) (hi := ty29)) ?_
   refine bCall (caps := []) (v := (uc fun (r137 : (List SPoint)) => (fun (r146 : Int) => (.tuple [.agg [.d (.lit (List.map e_SPoint r137))], .d (.int .i64 r146)] : V)))) (H' := (uc fun (r137 : (List SPoint)) => (fun (r146 : Int) => ([.box [.d (.lit (List.map e_i64 t)), .d (.int .i64 x91)], .box [.d (.lit (List.map e_SPoint r1111))], .box [.d (.lit (List.map e_SPoint r136))]] : List Blk)))) [] _ (conversion_Inverse_goes k r136) (ho := rfl) (hfn := Try.func19) (hb := rfl) (hconv := ConvRs.refl _ _) (hnd := by decide) (hBl := fun _ => (by kernel_rfl)) (hv := fun _ => (by kernel_rfl)) (hH' := fun _ => (by kernel_rfl)) (h := fun r => ?_)
   obtain ⟨r137, r146⟩ := r
   refine bUc ?_
   refine oP (.tuple [.agg [.d (.lit (List.map e_SPoint r137))], .d (.int .i64 r146)]) p_move ?_
   refine oP (.agg [.d (.lit (List.map e_SPoint r137))]) k_extract ?_
   refine oP (.d (.int .i64 r146)) k_extract ?_
   refine oD (.ptr 3 0) (k_alloc (H' := [.box [.d (.lit (List.map e_i64 t)), .d (.int .i64 x91)], .box [.d (.lit (List.map e_SPoint r1111))], .box [.d (.lit (List.map e_SPoint r136))], .box [.nilc]]) ty29) ?_
   refine oD (.undef) (k_store (vs := [.d (.lit (List.map e_SPoint r137))]) (H' := [.box [.d (.lit (List.map e_i64 t)), .d (.int .i64 x91)], .box [.d (.lit (List.map e_SPoint r1111))], .box [.d (.lit (List.map e_SPoint r136))], .box [.d (.lit (List.map e_SPoint r137))]]) 3 0 (hi := ty29)) ?_
   refine oP (.d (.int .i64 r146)) p_assign ?_
   refine oEnd ?_
   refine oSR rfl ?_
   refine oP (.ptr 0 0) p_move ?_
   refine bCall (caps := []) (v := (uc fun (r121 : Int) => (uc fun (r138 : Int) => (fun (x41 : Int) => (.agg [.d (.int .i64 r121), .d (.int .i64 r138)] : V))))) (H' := (uc fun (r121 : Int) => (uc fun (r138 : Int) => (fun (x41 : Int) => ([.box [.d (.lit (List.map e_i64 t)), .d (.int .i64 x41)], .box [.d (.lit (List.map e_SPoint r1111))], .box [.d (.lit (List.map e_SPoint r136))], .box [.d (.lit (List.map e_SPoint r137))]] : List Blk))))) [0] _ (mark_Dice_Ratio_goes k t x91) (ho := rfl) (hfn := Try.func14) (hb := rfl) (hconv := ConvRs.refl _ _) (hnd := by decide) (hBl := fun _ => (by kernel_rfl)) (hv := fun _ => (by kernel_rfl)) (hH' := fun _ => (by kernel_rfl)) (h := fun r => ?_)
   obtain ⟨r121, r138, x41⟩ := r
   refine bUc ?_
   refine bUc ?_
   refine oD (.ptr 4 0) (k_alloc (H' := [.box [.d (.lit (List.map e_i64 t)), .d (.int .i64 x41)], .box [.d (.lit (List.map e_SPoint r1111))], .box [.d (.lit (List.map e_SPoint r136))], .box [.d (.lit (List.map e_SPoint r137))], .box [.d (.int .i64 0), .d (.int .i64 0)]]) ty37) ?_
   refine oD (.undef) (k_store (vs := [.d (.int .i64 r121), .d (.int .i64 r138)]) (H' := [.box [.d (.lit (List.map e_i64 t)), .d (.int .i64 x41)], .box [.d (.lit (List.map e_SPoint r1111))], .box [.d (.lit (List.map e_SPoint r136))], .box [.d (.lit (List.map e_SPoint r137))], .box [.d (.int .i64 r121), .d (.int .i64 r138)]]) 4 0 (hi := ty37)) ?_
   refine oEnd ?_
   refine oSR rfl ?_
   refine oQ (.agg [.d (.lit (List.map e_SPoint r1111))]) (k_loadAgg 1 0 (hu := Try.underlying29) (hi := ty29)) ?_
   refine oQ (.agg [.d (.int .i64 r121), .d (.int .i64 r138)]) (k_loadAgg 4 0 (hu := Try.underlying37) (hi := ty37)) ?_
   refine bCall (caps := []) (v := (uc fun (r117 : Int) => (uc fun (r139 : Int) => (fun (r147 : Int) => (.tuple [.agg [.d (.int .i64 r117), .d (.int .i64 r139)], .d (.int .i64 r147)] : V))))) (H' := (uc fun (r117 : Int) => (uc fun (r139 : Int) => (fun (r147 : Int) => ([.box [.d (.lit (List.map e_i64 t)), .d (.int .i64 x41)], .box [.d (.lit (List.map e_SPoint r1111))], .box [.d (.lit (List.map e_SPoint r136))], .box [.d (.lit (List.map e_SPoint r137))], .box [.d (.int .i64 r121), .d (.int .i64 r138)]] : List Blk))))) [] _ (conversion_Eval_2_goes k r1111 r121 r138) (ho := rfl) (hfn := Try.func13) (hb := rfl) (hconv := ConvRs.refl _ _) (hnd := by decide) (hBl := fun _ => (by kernel_rfl)) (hv := fun _ => (by kernel_rfl)) (hH' := fun _ => (by kernel_rfl)) (h := fun r => ?_)
   obtain ⟨r117, r139, r147⟩ := r
   refine bUc ?_
   refine bUc ?_
   refine oP (.tuple [.agg [.d (.int .i64 r117), .d (.int .i64 r139)], .d (.int .i64 r147)]) p_move ?_
   refine oP (.agg [.d (.int .i64 r117), .d (.int .i64 r139)]) k_extract ?_
   refine oP (.d (.int .i64 r147)) k_extract ?_
   refine oD (.ptr 5 0) (k_alloc (H' := [.box [.d (.lit (List.map e_i64 t)), .d (.int .i64 x41)], .box [.d (.lit (List.map e_SPoint r1111))], .box [.d (.lit (List.map e_SPoint r136))], .box [.d (.lit (List.map e_SPoint r137))], .box [.d (.int .i64 r121), .d (.int .i64 r138)], .box [.d (.int .i64 0), .d (.int .i64 0)]]) ty37) ?_
   refine oD (.undef) (k_store (vs := [.d (.int .i64 r117), .d (.int .i64 r139)]) (H' := [.box [.d (.lit (List.map e_i64 t)), .d (.int .i64 x41)], .box [.d (.lit (List.map e_SPoint r1111))], .box [.d (.lit (List.map e_SPoint r136))], .box [.d (.lit (List.map e_SPoint r137))], .box [.d (.int .i64 r121), .d (.int .i64 r138)], .box [.d (.int .i64 r117), .d (.int .i64 r139)]]) 5 0 (hi := ty37)) ?_
   refine oP (.d (.int .i64 r147)) p_assign ?_
   refine oEnd ?_
   refine oSR rfl ?_
   refine oQ (.agg [.d (.lit (List.map e_SPoint r136))]) (k_loadAgg 2 0 (hu := Try.underlying29) (hi := ty29)) ?_
   refine oQ (.agg [.d (.int .i64 r117), .d (.int .i64 r139)]) (k_loadAgg 5 0 (hu := Try.underlying37) (hi := ty37)) ?_
   refine bCall (caps := []) (v := (uc fun (r118 : Int) => (uc fun (r1310 : Int) => (fun (r148 : Int) => (.tuple [.agg [.d (.int .i64 r118), .d (.int .i64 r1310)], .d (.int .i64 r148)] : V))))) (H' := (uc fun (r118 : Int) => (uc fun (r1310 : Int) => (fun (r148 : Int) => ([.box [.d (.lit (List.map e_i64 t)), .d (.int .i64 x41)], .box [.d (.lit (List.map e_SPoint r1111))], .box [.d (.lit (List.map e_SPoint r136))], .box [.d (.lit (List.map e_SPoint r137))], .box [.d (.int .i64 r121), .d (.int .i64 r138)], .box [.d (.int .i64 r117), .d (.int .i64 r139)]] : List Blk))))) [] _ (conversion_Eval_2_goes k r136 r117 r139) (ho := rfl) (hfn := Try.func13) (hb := rfl) (hconv := ConvRs.refl _ _) (hnd := by decide) (hBl := fun _ => (by kernel_rfl)) (hv := fun _ => (by kernel_rfl)) (hH' := fun _ => (by kernel_rfl)) (h := fun r => ?_)
   obtain ⟨r118, r1310, r148⟩ := r
   refine bUc ?_
   refine bUc ?_
   refine oP (.tuple [.agg [.d (.int .i64 r118), .d (.int .i64 r1310)], .d (.int .i64 r148)]) p_move ?_
   refine oP (.agg [.d (.int .i64 r118), .d (.int .i64 r1310)]) k_extract ?_
   refine oP (.d (.int .i64 r148)) k_extract ?_
   refine oD (.ptr 6 0) (k_alloc (H' := [.box [.d (.lit (List.map e_i64 t)), .d (.int .i64 x41)], .box [.d (.lit (List.map e_SPoint r1111))], .box [.d (.lit (List.map e_SPoint r136))], .box [.d (.lit (List.map e_SPoint r137))], .box [.d (.int .i64 r121), .d (.int .i64 r138)], .box [.d (.int .i64 r117), .d (.int .i64 r139)], .box [.d (.int .i64 0), .d (.int .i64 0)]]) ty37) ?_
   refine oD (.undef) (k_store (vs := [.d (.int .i64 r118), .d (.int .i64 r1310)]) (H' := [.box [.d (.lit (List.map e_i64 t)), .d (.int .i64 x41)], .box [.d (.lit (List.map e_SPoint r1111))], .box [.d (.lit (List.map e_SPoint r136))], .box [.d (.lit (List.map e_SPoint r137))], .box [.d (.int .i64 r121), .d (.int .i64 r138)], .box [.d (.int .i64 r117), .d (.int .i64 r139)], .box [.d (.int .i64 r118), .d (.int .i64 r1310)]]) 6 0 (hi := ty37)) ?_
   refine oP (.d (.int .i64 r148)) p_assign ?_
   refine oEnd ?_
   refine oSR rfl ?_
   refine oQ (.agg [.d (.lit (List.map e_SPoint r1111))]) (k_loadAgg 1 0 (hu := Try.underlying29) (hi := ty29)) ?_
   refine oQ (.agg [.d (.lit (List.map e_SPoint r136))]) (k_loadAgg 2 0 (hu := Try.underlying29) (hi := ty29)) ?_
   refine bCall (caps := []) (v := (uc fun (r152 : (List SPoint)) => (fun (r182 : Int) => (.tuple [.agg [.d (.lit (List.map e_SPoint r152))], .d (.int .i64 r182)] : V)))) (H' := (uc fun (r152 : (List SPoint)) => (fun (r182 : Int) => ([.box [.d (.lit (List.map e_i64 t)), .d (.int .i64 x41)], .box [.d (.lit (List.map e_SPoint r1111))], .box [.d (.lit (List.map e_SPoint r136))], .box [.d (.lit (List.map e_SPoint r137))], .box [.d (.int .i64 r121), .d (.int .i64 r138)], .box [.d (.int .i64 r117), .d (.int .i64 r139)], .box [.d (.int .i64 r118), .d (.int .i64 r1310)]] : List Blk)))) [] _ (conversion_Compose_goes k r1111 r136) (ho := rfl) (hfn := Try.func16) (hb := rfl) (hconv := ConvRs.refl _ _) (hnd := by decide) (hBl := fun _ => (by kernel_rfl)) (hv := fun _ => (by kernel_rfl)) (hH' := fun _ => (by kernel_rfl)) (h := fun r => ?_)
   obtain ⟨r152, r182⟩ := r
   refine bUc ?_
   refine oP (.tuple [.agg [.d (.lit (List.map e_SPoint r152))], .d (.int .i64 r182)]) p_move ?_
   refine oP (.agg [.d (.lit (List.map e_SPoint r152))]) k_extract ?_
   refine oP (.d (.int .i64 r182)) k_extract ?_
   refine oD (.ptr 7 0) (k_alloc (H' := [.box [.d (.lit (List.map e_i64 t)), .d (.int .i64 x41)], .box [.d (.lit (List.map e_SPoint r1111))], .box [.d (.lit (List.map e_SPoint r136))], .box [.d (.lit (List.map e_SPoint r137))], .box [.d (.int .i64 r121), .d (.int .i64 r138)], .box [.d (.int .i64 r117), .d (.int .i64 r139)], .box [.d (.int .i64 r118), .d (.int .i64 r1310)], .box [.nilc]]) ty29) ?_
   refine oD (.undef) (k_store (vs := [.d (.lit (List.map e_SPoint r152))]) (H' := [.box [.d (.lit (List.map e_i64 t)), .d (.int .i64 x41)], .box [.d (.lit (List.map e_SPoint r1111))], .box [.d (.lit (List.map e_SPoint r136))], .box [.d (.lit (List.map e_SPoint r137))], .box [.d (.int .i64 r121), .d (.int .i64 r138)], .box [.d (.int .i64 r117), .d (.int .i64 r139)], .box [.d (.int .i64 r118), .d (.int .i64 r1310)], .box [.d (.lit (List.map e_SPoint r152))]]) 7 0 (hi := ty29)) ?_
   refine oP (.d (.int .i64 r182)) p_assign ?_
   refine oEnd ?_
   refine oSR rfl ?_
   refine oQ (.agg [.d (.lit (List.map e_SPoint r136))]) (k_loadAgg 2 0 (hu := Try.underlying29) (hi := ty29)) ?_
   refine oQ (.agg [.d (.lit (List.map e_SPoint r1111))]) (k_loadAgg 1 0 (hu := Try.underlying29) (hi := ty29)) ?_
   refine bCall (caps := []) (v := (uc fun (r153 : (List SPoint)) => (fun (r183 : Int) => (.tuple [.agg [.d (.lit (List.map e_SPoint r153))], .d (.int .i64 r183)] : V)))) (H' := (uc fun (r153 : (List SPoint)) => (fun (r183 : Int) => ([.box [.d (.lit (List.map e_i64 t)), .d (.int .i64 x41)], .box [.d (.lit (List.map e_SPoint r1111))], .box [.d (.lit (List.map e_SPoint r136))], .box [.d (.lit (List.map e_SPoint r137))], .box [.d (.int .i64 r121), .d (.int .i64 r138)], .box [.d (.int .i64 r117), .d (.int .i64 r139)], .box [.d (.int .i64 r118), .d (.int .i64 r1310)], .box [.d (.lit (List.map e_SPoint r152))]] : List Blk)))) [] _ (conversion_Compose_goes k r136 r1111) (ho := rfl) (hfn := Try.func16) (hb := rfl) (hconv := ConvRs.refl _ _) (hnd := by decide) (hBl := fun _ => (by kernel_rfl)) (hv := fun _ => (by kernel_rfl)) (hH' := fun _ => (by kernel_rfl)) (h := fun r => ?_)
   obtain ⟨r153, r183⟩ := r
   refine bUc ?_
   refine oP (.tuple [.agg [.d (.lit (List.map e_SPoint r153))], .d (.int .i64 r183)]) p_move ?_
   refine oP (.agg [.d (.lit (List.map e_SPoint r153))]) k_extract ?_
   refine oP (.d (.int .i64 r183)) k_extract ?_
   refine oD (.ptr 8 0) (k_alloc (H' := [.box [.d (.lit (List.map e_i64 t)), .d (.int .i64 x41)], .box [.d (.lit (List.map e_SPoint r1111))], .box [.d (.lit (List.map e_SPoint r136))], .box [.d (.lit (List.map e_SPoint r137))], .box [.d (.int .i64 r121), .d (.int .i64 r138)], .box [.d (.int .i64 r117), .d (.int .i64 r139)], .box [.d (.int .i64 r118), .d (.int .i64 r1310)], .box [.d (.lit (List.map e_SPoint r152))], .box [.nilc]]) ty29) ?_
   refine oD (.undef) (k_store (vs := [.d (.lit (List.map e_SPoint r153))]) (H' := [.box [.d (.lit (List.map e_i64 t)), .d (.int .i64 x41)], .box [.d (.lit (List.map e_SPoint r1111))], .box [.d (.lit (List.map e_SPoint r136))], .box [.d (.lit (List.map e_SPoint r137))], .box [.d (.int .i64 r121), .d (.int .i64 r138)], .box [.d (.int .i64 r117), .d (.int .i64 r139)], .box [.d (.int .i64 r118), .d (.int .i64 r1310)], .box [.d (.lit (List.map e_SPoint r152))], .box [.d (.lit (List.map e_SPoint r153))]]) 8 0 (hi := ty29)) ?_
   refine oP (.d (.int .i64 r183)) p_assign ?_
   refine oEnd ?_
   refine oSR rfl ?_
   refine bCall (caps := []) (v := (u0 ((.agg [.d (.int .i64 1), .d (.int .i64 1)] : V)))) (H' := (u0 (([.box [.d (.lit (List.map e_i64 t)), .d (.int .i64 x41)], .box [.d (.lit (List.map e_SPoint r1111))], .box [.d (.lit (List.map e_SPoint r136))], .box [.d (.lit (List.map e_SPoint r137))], .box [.d (.int .i64 r121), .d (.int .i64 r138)], .box [.d (.int .i64 r117), .d (.int .i64 r139)], .box [.d (.int .i64 r118), .d (.int .i64 r1310)], .box [.d (.lit (List.map e_SPoint r152))], .box [.d (.lit (List.map e_SPoint r153))]] : List Blk)))) [] _ (law33_whole_goes k 1) (ho := rfl) (hfn := Try.func18) (hb := rfl) (hconv := ConvRs.refl _ _) (hnd := by decide) (hBl := fun _ => (by kernel_rfl)) (hv := fun _ => (by kernel_rfl)) (hH' := fun _ => (by kernel_rfl)) (h := fun r => ?_)
   cases r
   refine bU0 ?_
   refine bCall (caps := []) (v := (u0 ((.agg [.d (.int .i64 0), .d (.int .i64 1)] : V)))) (H' := (u0 (([.box [.d (.lit (List.map e_i64 t)), .d (.int .i64 x41)], .box [.d (.lit (List.map e_SPoint r1111))], .box [.d (.lit (List.map e_SPoint r136))], .box [.d (.lit (List.map e_SPoint r137))], .box [.d (.int .i64 r121), .d (.int .i64 r138)], .box [.d (.int .i64 r117), .d (.int .i64 r139)], .box [.d (.int .i64 r118), .d (.int .i64 r1310)], .box [.d (.lit (List.map e_SPoint r152))], .box [.d (.lit (List.map e_SPoint r153))]] : List Blk)))) [] _ (law33_whole_goes k 0) (ho := rfl) (hfn := Try.func18) (hb := rfl) (hconv := ConvRs.refl _ _) (hnd := by decide) (hBl := fun _ => (by kernel_rfl)) (hv := fun _ => (by kernel_rfl)) (hH' := fun _ => (by kernel_rfl)) (h := fun r => ?_)
   cases r
   refine bU0 ?_
   refine bCall (caps := []) (v := (uc fun (r1311 : (List SPoint)) => (fun (r149 : Int) => (.tuple [.agg [.d (.lit (List.map e_SPoint r1311))], .d (.int .i64 r149)] : V)))) (H' := (uc fun (r1311 : (List SPoint)) => (fun (r149 : Int) => ([.box [.d (.lit (List.map e_i64 t)), .d (.int .i64 x41)], .box [.d (.lit (List.map e_SPoint r1111))], .box [.d (.lit (List.map e_SPoint r136))], .box [.d (.lit (List.map e_SPoint r137))], .box [.d (.int .i64 r121), .d (.int .i64 r138)], .box [.d (.int .i64 r117), .d (.int .i64 r139)], .box [.d (.int .i64 r118), .d (.int .i64 r1310)], .box [.d (.lit (List.map e_SPoint r152))], .box [.d (.lit (List.map e_SPoint r153))]] : List Blk)))) [] _ (conversion_Line_goes k 1 1 0 1) (ho := rfl) (hfn := Try.func17) (hb := rfl) (hconv := ConvRs.refl _ _) (hnd := by decide) (hBl := fun _ => (by kernel_rfl)) (hv := fun _ => (by kernel_rfl)) (hH' := fun _ => (by kernel_rfl)) (h := fun r => ?_)
   obtain ⟨r1311, r149⟩ := r
   refine bUc ?_
   refine oP (.tuple [.agg [.d (.lit (List.map e_SPoint r1311))], .d (.int .i64 r149)]) p_move ?_
   refine oP (.agg [.d (.lit (List.map e_SPoint r1311))]) k_extract ?_
   refine oP (.d (.int .i64 r149)) k_extract ?_
   refine oD (.ptr 9 0) (k_alloc (H' := [.box [.d (.lit (List.map e_i64 t)), .d (.int .i64 x41)], .box [.d (.lit (List.map e_SPoint r1111))], .box [.d (.lit (List.map e_SPoint r136))], .box [.d (.lit (List.map e_SPoint r137))], .box [.d (.int .i64 r121), .d (.int .i64 r138)], .box [.d (.int .i64 r117), .d (.int .i64 r139)], .box [.d (.int .i64 r118), .d (.int .i64 r1310)], .box [.d (.lit (List.map e_SPoint r152))], .box [.d (.lit (List.map e_SPoint r153))], .box [.nilc]]) ty29) ?_
   refine oD (.undef) (k_store (vs := [.d (.lit (List.map e_SPoint r1311))]) (H' := [.box [.d (.lit (List.map e_i64 t)), .d (.int .i64 x41)], .box [.d (.lit (List.map e_SPoint r1111))], .box [.d (.lit (List.map e_SPoint r136))], .box [.d (.lit (List.map e_SPoint r137))], .box [.d (.int .i64 r121), .d (.int .i64 r138)], .box [.d (.int .i64 r117), .d (.int .i64 r139)], .box [.d (.int .i64 r118), .d (.int .i64 r1310)], .box [.d (.lit (List.map e_SPoint r152))], .box [.d (.lit (List.map e_SPoint r153))], .box [.d (.lit (List.map e_SPoint r1311))]]) 9 0 (hi := ty29)) ?_
   refine oP (.d (.int .i64 r149)) p_assign ?_
   refine oEnd ?_
   refine oSR rfl ?_
   refine oP (.d (.int .i64 r145)) p_move ?_
   refine oP (.d (.bool (r145 == 0))) (p_int (k := .i64) (p := r145) (q := 0)) ?_
   refine oP (.d (.bool (r145 == 0))) p_move ?_
   refine bMeetF (H' := [.box [.d (.lit (List.map e_SPoint r1111))], .box [.d (.lit (List.map e_SPoint r137))], .box [.d (.int .i64 r121), .d (.int .i64 r138)], .box [.d (.int .i64 r118), .d (.int .i64 r1310)], .box [.d (.lit (List.map e_SPoint r152))], .box [.d (.lit (List.map e_SPoint r153))], .box [.d (.lit (List.map e_SPoint r1311))]]) 3 rfl ((fun (x13 : Bool) => [(4, .ptr 0 0), (7, .ptr 1 0), (9, .ptr 2 0), (11, .d (.int .i64 r147)), (12, .ptr 3 0), (13, .d (.int .i64 r148)), (14, .ptr 4 0), (15, .d (.int .i64 r182)), (16, .ptr 5 0), (17, .d (.int .i64 r183)), (18, .ptr 6 0), (19, .d (.int .i64 r149)), (75, .d (.bool x13))])) (fun x13 => ?_) (fun F hj1 => ?_)
   ·refine oView (T' := [(4, .ptr 0 0), (7, .ptr 1 0), (9, .ptr 2 0), (11, .d (.int .i64 r147)), (12, .ptr 3 0), (13, .d (.int .i64 r148)), (14, .ptr 4 0), (15, .d (.int .i64 r182)), (16, .ptr 5 0), (17, .d (.int .i64 r183)), (18, .ptr 6 0), (19, .d (.int .i64 r149)), (75, .d (.bool x13))]) (H' := [.box [.d (.lit (List.map e_SPoint r1111))], .box [.d (.lit (List.map e_SPoint r137))], .box [.d (.int .i64 r121), .d (.int .i64 r138)], .box [.d (.int .i64 r118), .d (.int .i64 r1310)], .box [.d (.lit (List.map e_SPoint r152))], .box [.d (.lit (List.map e_SPoint r153))], .box [.d (.lit (List.map e_SPoint r1311))]]) (h := ?_)
    refine oP (.d (.bool x13)) p_move ?_
    refine bMeetF (H' := [.box [.d (.lit (List.map e_SPoint r1111))], .box [.d (.lit (List.map e_SPoint r137))], .box [.d (.int .i64 r121), .d (.int .i64 r138)], .box [.d (.int .i64 r118), .d (.int .i64 r1310)], .box [.d (.lit (List.map e_SPoint r152))], .box [.d (.lit (List.map e_SPoint r153))], .box [.d (.lit (List.map e_SPoint r1311))]]) 3 rfl ((fun (x14 : Bool) => [(4, .ptr 0 0), (7, .ptr 1 0), (9, .ptr 2 0), (12, .ptr 3 0), (13, .d (.int .i64 r148)), (14, .ptr 4 0), (15, .d (.int .i64 r182)), (16, .ptr 5 0), (17, .d (.int .i64 r183)), (18, .ptr 6 0), (19, .d (.int .i64 r149)), (79, .d (.bool x14))])) (fun x14 => ?_) (fun F hj2 => ?_)
    ·refine oView (T' := [(4, .ptr 0 0), (7, .ptr 1 0), (9, .ptr 2 0), (12, .ptr 3 0), (13, .d (.int .i64 r148)), (14, .ptr 4 0), (15, .d (.int .i64 r182)), (16, .ptr 5 0), (17, .d (.int .i64 r183)), (18, .ptr 6 0), (19, .d (.int .i64 r149)), (79, .d (.bool x14))]) (H' := [.box [.d (.lit (List.map e_SPoint r1111))], .box [.d (.lit (List.map e_SPoint r137))], .box [.d (.int .i64 r121), .d (.int .i64 r138)], .box [.d (.int .i64 r118), .d (.int .i64 r1310)], .box [.d (.lit (List.map e_SPoint r152))], .box [.d (.lit (List.map e_SPoint r153))], .box [.d (.lit (List.map e_SPoint r1311))]]) (h := ?_)
     refine oP (.d (.bool x14)) p_move ?_
     refine bMeetF (H' := [.box [.d (.lit (List.map e_SPoint r1111))], .box [.d (.lit (List.map e_SPoint r137))], .box [.d (.int .i64 r121), .d (.int .i64 r138)], .box [.d (.int .i64 r118), .d (.int .i64 r1310)], .box [.d (.lit (List.map e_SPoint r152))], .box [.d (.lit (List.map e_SPoint r153))], .box [.d (.lit (List.map e_SPoint r1311))]]) 3 rfl ((fun (x15 : Bool) => [(4, .ptr 0 0), (7, .ptr 1 0), (9, .ptr 2 0), (12, .ptr 3 0), (14, .ptr 4 0), (15, .d (.int .i64 r182)), (16, .ptr 5 0), (17, .d (.int .i64 r183)), (18, .ptr 6 0), (19, .d (.int .i64 r149)), (83, .d (.bool x15))])) (fun x15 => ?_) (fun F hj3 => ?_)
     ·refine oView (T' := [(4, .ptr 0 0), (7, .ptr 1 0), (9, .ptr 2 0), (12, .ptr 3 0), (14, .ptr 4 0), (15, .d (.int .i64 r182)), (16, .ptr 5 0), (17, .d (.int .i64 r183)), (18, .ptr 6 0), (19, .d (.int .i64 r149)), (83, .d (.bool x15))]) (H' := [.box [.d (.lit (List.map e_SPoint r1111))], .box [.d (.lit (List.map e_SPoint r137))], .box [.d (.int .i64 r121), .d (.int .i64 r138)], .box [.d (.int .i64 r118), .d (.int .i64 r1310)], .box [.d (.lit (List.map e_SPoint r152))], .box [.d (.lit (List.map e_SPoint r153))], .box [.d (.lit (List.map e_SPoint r1311))]]) (h := ?_)
      refine oP (.d (.bool x15)) p_move ?_
      refine bMeetF (H' := [.box [.d (.lit (List.map e_SPoint r1111))], .box [.d (.lit (List.map e_SPoint r137))], .box [.d (.int .i64 r121), .d (.int .i64 r138)], .box [.d (.int .i64 r118), .d (.int .i64 r1310)], .box [.d (.lit (List.map e_SPoint r152))], .box [.d (.lit (List.map e_SPoint r153))], .box [.d (.lit (List.map e_SPoint r1311))]]) 3 rfl ((fun (x16 : Bool) => [(4, .ptr 0 0), (7, .ptr 1 0), (9, .ptr 2 0), (12, .ptr 3 0), (14, .ptr 4 0), (16, .ptr 5 0), (17, .d (.int .i64 r183)), (18, .ptr 6 0), (19, .d (.int .i64 r149)), (87, .d (.bool x16))])) (fun x16 => ?_) (fun F hj4 => ?_)
      ·refine oView (T' := [(4, .ptr 0 0), (7, .ptr 1 0), (9, .ptr 2 0), (12, .ptr 3 0), (14, .ptr 4 0), (16, .ptr 5 0), (17, .d (.int .i64 r183)), (18, .ptr 6 0), (19, .d (.int .i64 r149)), (87, .d (.bool x16))]) (H' := [.box [.d (.lit (List.map e_SPoint r1111))], .box [.d (.lit (List.map e_SPoint r137))], .box [.d (.int .i64 r121), .d (.int .i64 r138)], .box [.d (.int .i64 r118), .d (.int .i64 r1310)], .box [.d (.lit (List.map e_SPoint r152))], .box [.d (.lit (List.map e_SPoint r153))], .box [.d (.lit (List.map e_SPoint r1311))]]) (h := ?_)
       refine oP (.d (.bool x16)) p_move ?_
       refine bMeetF (H' := [.box [.d (.lit (List.map e_SPoint r1111))], .box [.d (.lit (List.map e_SPoint r137))], .box [.d (.int .i64 r121), .d (.int .i64 r138)], .box [.d (.int .i64 r118), .d (.int .i64 r1310)], .box [.d (.lit (List.map e_SPoint r152))], .box [.d (.lit (List.map e_SPoint r153))], .box [.d (.lit (List.map e_SPoint r1311))]]) 3 rfl ((fun (x17 : Bool) => [(4, .ptr 0 0), (7, .ptr 1 0), (9, .ptr 2 0), (12, .ptr 3 0), (14, .ptr 4 0), (16, .ptr 5 0), (18, .ptr 6 0), (19, .d (.int .i64 r149)), (91, .d (.bool x17))])) (fun x17 => ?_) (fun F hj5 => ?_)
       ·refine oView (T' := [(4, .ptr 0 0), (7, .ptr 1 0), (9, .ptr 2 0), (12, .ptr 3 0), (14, .ptr 4 0), (16, .ptr 5 0), (18, .ptr 6 0), (19, .d (.int .i64 r149)), (91, .d (.bool x17))]) (H' := [.box [.d (.lit (List.map e_SPoint r1111))], .box [.d (.lit (List.map e_SPoint r137))], .box [.d (.int .i64 r121), .d (.int .i64 r138)], .box [.d (.int .i64 r118), .d (.int .i64 r1310)], .box [.d (.lit (List.map e_SPoint r152))], .box [.d (.lit (List.map e_SPoint r153))], .box [.d (.lit (List.map e_SPoint r1311))]]) (h := ?_)
        refine oP (.d (.bool x17)) p_move ?_
        refine bMeetF (H' := [.box [.d (.lit (List.map e_SPoint r1111))], .box [.d (.lit (List.map e_SPoint r137))], .box [.d (.int .i64 r121), .d (.int .i64 r138)], .box [.d (.int .i64 r118), .d (.int .i64 r1310)], .box [.d (.lit (List.map e_SPoint r152))], .box [.d (.lit (List.map e_SPoint r153))], .box [.d (.lit (List.map e_SPoint r1311))]]) 3 rfl ((fun (x18 : Bool) => [(4, .ptr 0 0), (7, .ptr 1 0), (9, .ptr 2 0), (12, .ptr 3 0), (14, .ptr 4 0), (16, .ptr 5 0), (18, .ptr 6 0), (95, .d (.bool x18))])) (fun x18 => ?_) (fun F hj6 => ?_)
        ·refine oView (T' := [(4, .ptr 0 0), (7, .ptr 1 0), (9, .ptr 2 0), (12, .ptr 3 0), (14, .ptr 4 0), (16, .ptr 5 0), (18, .ptr 6 0), (95, .d (.bool x18))]) (H' := [.box [.d (.lit (List.map e_SPoint r1111))], .box [.d (.lit (List.map e_SPoint r137))], .box [.d (.int .i64 r121), .d (.int .i64 r138)], .box [.d (.int .i64 r118), .d (.int .i64 r1310)], .box [.d (.lit (List.map e_SPoint r152))], .box [.d (.lit (List.map e_SPoint r153))], .box [.d (.lit (List.map e_SPoint r1311))]]) (h := ?_)
         refine oP (.d (.bool x18)) p_move ?_
         refine bMeetF (H' := [.box [.d (.lit (List.map e_SPoint r1111))], .box [.d (.lit (List.map e_SPoint r137))], .box [.d (.lit (List.map e_SPoint r152))], .box [.d (.lit (List.map e_SPoint r153))], .box [.d (.lit (List.map e_SPoint r1311))]]) 4 rfl ((fun (x19 : Bool) => [(4, .ptr 0 0), (7, .ptr 1 0), (14, .ptr 2 0), (16, .ptr 3 0), (18, .ptr 4 0), (100, .d (.bool x19))])) (fun x19 => ?_) (fun F hj7 => ?_)
         ·refine oView (T' := [(4, .ptr 0 0), (7, .ptr 1 0), (14, .ptr 2 0), (16, .ptr 3 0), (18, .ptr 4 0), (100, .d (.bool x19))]) (H' := [.box [.d (.lit (List.map e_SPoint r1111))], .box [.d (.lit (List.map e_SPoint r137))], .box [.d (.lit (List.map e_SPoint r152))], .box [.d (.lit (List.map e_SPoint r153))], .box [.d (.lit (List.map e_SPoint r1311))]]) (h := ?_)
          refine oP (.d (.bool x19)) p_move ?_
          refine bMeet 4 rfl ((fun (x20 : Bool) => [(14, .ptr 0 0), (16, .ptr 1 0), (18, .ptr 2 0), (105, .d (.bool x20))])) ((fun (x20 : Bool) => [.box [.d (.lit (List.map e_SPoint r152))], .box [.d (.lit (List.map e_SPoint r153))], .box [.d (.lit (List.map e_SPoint r1311))]])) (fun s => s) (fun x20 => ?_) (fun hj11 => ?_)
          ·refine oView (T' := [(14, .ptr 0 0), (16, .ptr 1 0), (18, .ptr 2 0), (105, .d (.bool x20))]) (H' := [.box [.d (.lit (List.map e_SPoint r152))], .box [.d (.lit (List.map e_SPoint r153))], .box [.d (.lit (List.map e_SPoint r1311))]]) (h := ?_)
           refine oP (.d (.bool x20)) p_move ?_
           refine bMeet 4 rfl ((fun (x21 : Bool) => [(16, .ptr 0 0), (18, .ptr 1 0), (110, .d (.bool x21))])) ((fun (x21 : Bool) => [.box [.d (.lit (List.map e_SPoint r153))], .box [.d (.lit (List.map e_SPoint r1311))]])) (fun s => s) (fun x21 => ?_) (fun hj10 => ?_)
           ·refine oView (T' := [(16, .ptr 0 0), (18, .ptr 1 0), (110, .d (.bool x21))]) (H' := [.box [.d (.lit (List.map e_SPoint r153))], .box [.d (.lit (List.map e_SPoint r1311))]]) (h := ?_)
            refine oP (.d (.bool x21)) p_move ?_
            refine bMeet 4 rfl ((fun (x22 : Bool) => [(115, .d (.bool x22))])) ((fun (x22 : Bool) => [])) (fun s => s) (fun x22 => ?_) (fun hj9 => ?_)
            ·refine oView (T' := [(115, .d (.bool x22))]) (H' := []) (h := ?_)
             refine oP (.d (.bool x22)) p_move ?_
             refine bMeet 2 rfl ((fun (x23 : Bool) => [(118, .d (.bool x23))])) ((fun (x23 : Bool) => [])) (fun s => s) (fun x23 => ?_) (fun hj8 => ?_)
             ·refine oView (T' := [(118, .d (.bool x23))]) (H' := []) (h := ?_)
              refine oP (.d (.bool x23)) p_assign ?_
              refine oEnd ?_
              exact oRet (r0 := x23) (rv := .d (.bool x23)) (B := []) (vs := [.d (.bool x23)]) (σ := []) (hf := Try.func5) (hrs := rfl) (hres := .cons _ _ _ _ (.tmp 2 _ (by kernel_rfl)) .nil) (hnd := by decide)
             ·refine bSplit 116 (h1 := fun hc => ?_) (h2 := fun hc => ?_)
              ·refine bCall (caps := []) (v := (fun (r122 : Bool) => (.d (.bool r122) : V))) (H' := (fun (r122 : Bool) => ([] : List Blk))) [] _ (law33_sane_goes k) (ho := rfl) (hfn := Try.func7) (hb := rfl) (hconv := ConvRs.refl _ _) (hnd := by decide) (hBl := fun _ => (by kernel_rfl)) (hv := fun _ => (by kernel_rfl)) (hH' := fun _ => (by kernel_rfl)) (h := fun r122 => ?_)
               refine oP (.d (.bool r122)) (p_pick (b := true)) ?_
               refine oHead [118] [] (T' := [(118, .d (.bool r122))]) (H' := []) (hnd := by decide) (h := ?_)
               exact hj8 r122
              ·refine oNot (h := ?_)
               refine oP (.d (.bool false)) (p_pick (b := false)) ?_
               refine oHead [118] [] (T' := [(118, .d (.bool false))]) (H' := []) (hnd := by decide) (h := ?_)
               exact hj8 false
            ·refine bSplit 111 (h1 := fun hc => ?_) (h2 := fun hc => ?_)
             ·refine oQ (.agg [.d (.lit (List.map e_SPoint r153))]) (k_loadAgg 0 0 (hu := Try.underlying29) (hi := ty29)) ?_
              refine oQ (.agg [.d (.lit (List.map e_SPoint r1311))]) (k_loadAgg 1 0 (hu := Try.underlying29) (hi := ty29)) ?_
              refine bCall (caps := []) (v := (fun (r1113 : Bool) => (.d (.bool r1113) : V))) (H' := (fun (r1113 : Bool) => ([.box [.d (.lit (List.map e_SPoint r153))], .box [.d (.lit (List.map e_SPoint r1311))]] : List Blk))) [] _ (conversion_Same_goes k r153 r1311) (ho := rfl) (hfn := Try.func11) (hb := rfl) (hconv := ConvRs.refl _ _) (hnd := by decide) (hBl := fun _ => (by kernel_rfl)) (hv := fun _ => (by kernel_rfl)) (hH' := fun _ => (by kernel_rfl)) (h := fun r1113 => ?_)
              refine oP (.d (.bool r1113)) (p_pick (b := true)) ?_
              refine oHead [115] [] (T' := [(115, .d (.bool r1113))]) (H' := []) (hnd := by decide) (h := ?_)
              exact hj9 r1113
             ·refine oNot (h := ?_)
              refine oNot (h := ?_)
              refine oNot (h := ?_)
              refine oP (.d (.bool false)) (p_pick (b := false)) ?_
              refine oHead [115] [] (T' := [(115, .d (.bool false))]) (H' := []) (hnd := by decide) (h := ?_)
              exact hj9 false
           ·refine bSplit 106 (h1 := fun hc => ?_) (h2 := fun hc => ?_)
            ·refine oQ (.agg [.d (.lit (List.map e_SPoint r152))]) (k_loadAgg 0 0 (hu := Try.underlying29) (hi := ty29)) ?_
             refine oQ (.agg [.d (.lit (List.map e_SPoint r1311))]) (k_loadAgg 2 0 (hu := Try.underlying29) (hi := ty29)) ?_
             refine bCall (caps := []) (v := (fun (r1114 : Bool) => (.d (.bool r1114) : V))) (H' := (fun (r1114 : Bool) => ([.box [.d (.lit (List.map e_SPoint r152))], .box [.d (.lit (List.map e_SPoint r153))], .box [.d (.lit (List.map e_SPoint r1311))]] : List Blk))) [] _ (conversion_Same_goes k r152 r1311) (ho := rfl) (hfn := Try.func11) (hb := rfl) (hconv := ConvRs.refl _ _) (hnd := by decide) (hBl := fun _ => (by kernel_rfl)) (hv := fun _ => (by kernel_rfl)) (hH' := fun _ => (by kernel_rfl)) (h := fun r1114 => ?_)
             refine oP (.d (.bool r1114)) (p_pick (b := true)) ?_
             refine oHead [16, 18, 110] [1, 2] (T' := [(16, .ptr 0 0), (18, .ptr 1 0), (110, .d (.bool r1114))]) (H' := [.box [.d (.lit (List.map e_SPoint r153))], .box [.d (.lit (List.map e_SPoint r1311))]]) (hnd := by decide) (h := ?_)
             exact hj10 r1114
            ·refine oNot (h := ?_)
             refine oNot (h := ?_)
             refine oNot (h := ?_)
             refine oP (.d (.bool false)) (p_pick (b := false)) ?_
             refine oHead [16, 18, 110] [1, 2] (T' := [(16, .ptr 0 0), (18, .ptr 1 0), (110, .d (.bool false))]) (H' := [.box [.d (.lit (List.map e_SPoint r153))], .box [.d (.lit (List.map e_SPoint r1311))]]) (hnd := by decide) (h := ?_)
             exact hj10 false
          ·refine bSplit 101 (h1 := fun hc => ?_) (h2 := fun hc => ?_)
           ·refine oQ (.agg [.d (.lit (List.map e_SPoint r137))]) (k_loadAgg 1 0 (hu := Try.underlying29) (hi := ty29)) ?_
            refine oQ (.agg [.d (.lit (List.map e_SPoint r1111))]) (k_loadAgg 0 0 (hu := Try.underlying29) (hi := ty29)) ?_
            refine bCall (caps := []) (v := (fun (r1115 : Bool) => (.d (.bool r1115) : V))) (H' := (fun (r1115 : Bool) => ([.box [.d (.lit (List.map e_SPoint r1111))], .box [.d (.lit (List.map e_SPoint r137))], .box [.d (.lit (List.map e_SPoint r152))], .box [.d (.lit (List.map e_SPoint r153))], .box [.d (.lit (List.map e_SPoint r1311))]] : List Blk))) [] _ (conversion_Same_goes k r137 r1111) (ho := rfl) (hfn := Try.func11) (hb := rfl) (hconv := ConvRs.refl _ _) (hnd := by decide) (hBl := fun _ => (by kernel_rfl)) (hv := fun _ => (by kernel_rfl)) (hH' := fun _ => (by kernel_rfl)) (h := fun r1115 => ?_)
            refine oP (.d (.bool r1115)) (p_pick (b := true)) ?_
            refine oHead [14, 16, 18, 105] [2, 3, 4] (T' := [(14, .ptr 0 0), (16, .ptr 1 0), (18, .ptr 2 0), (105, .d (.bool r1115))]) (H' := [.box [.d (.lit (List.map e_SPoint r152))], .box [.d (.lit (List.map e_SPoint r153))], .box [.d (.lit (List.map e_SPoint r1311))]]) (hnd := by decide) (h := ?_)
            exact hj11 r1115
           ·refine oNot (h := ?_)
            refine oNot (h := ?_)
            refine oNot (h := ?_)
            refine oP (.d (.bool false)) (p_pick (b := false)) ?_
            refine oHead [14, 16, 18, 105] [2, 3, 4] (T' := [(14, .ptr 0 0), (16, .ptr 1 0), (18, .ptr 2 0), (105, .d (.bool false))]) (H' := [.box [.d (.lit (List.map e_SPoint r152))], .box [.d (.lit (List.map e_SPoint r153))], .box [.d (.lit (List.map e_SPoint r1311))]]) (hnd := by decide) (h := ?_)
            exact hj11 false
         ·refine bPickF 96 (fun c => F (c && ((r118 == r121) && ((r1310 == r138) && true)))) (h1 := fun hc => ?_) (h2 := fun hc => ?_)
          ·refine oQ (.agg [.d (.int .i64 r118), .d (.int .i64 r1310)]) (k_loadAgg 3 0 (hu := Try.underlying37) (hi := ty37)) ?_
           refine oQ (.agg [.d (.int .i64 r121), .d (.int .i64 r138)]) (k_loadAgg 2 0 (hu := Try.underlying37) (hi := ty37)) ?_
           refine oP (.d (.bool ((r118 == r121) && ((r1310 == r138) && true)))) (k_eqAgg (hg := Try.eqGuardType37) (h := EqV.struct 1 37 [.d (.int .i64 r118), .d (.int .i64 r1310)] [.d (.int .i64 r121), .d (.int .i64 r138)] _ ((r118 == r121) && ((r1310 == r138) && true)) Try.underlying37 Try.stoodInHeld37 (EqF.one 1 1 _ _ _ _ _ _ _ (r118 == r121) ((r1310 == r138) && true) (by kernel_rfl) Try.underlying3 (by kernel_rfl) (by kernel_rfl) (by kernel_rfl) (by kernel_rfl) (EqV.int 3 .i64 .i64 r118 r121 Try.underlying3) (EqF.one 1 1 _ _ _ _ _ _ _ (r1310 == r138) true (by kernel_rfl) Try.underlying3 (by kernel_rfl) (by kernel_rfl) (by kernel_rfl) (by kernel_rfl) (EqV.int 3 .i64 .i64 r1310 r138 Try.underlying3) (EqF.nil 1 _ _))))) ?_
           refine oP (.d (.bool ((r118 == r121) && ((r1310 == r138) && true)))) (p_pick (b := true)) ?_
           refine oHead [4, 7, 14, 16, 18, 100] [0, 1, 4, 5, 6] (T' := [(4, .ptr 0 0), (7, .ptr 1 0), (14, .ptr 2 0), (16, .ptr 3 0), (18, .ptr 4 0), (100, .d (.bool ((r118 == r121) && ((r1310 == r138) && true))))]) (H' := [.box [.d (.lit (List.map e_SPoint r1111))], .box [.d (.lit (List.map e_SPoint r137))], .box [.d (.lit (List.map e_SPoint r152))], .box [.d (.lit (List.map e_SPoint r153))], .box [.d (.lit (List.map e_SPoint r1311))]]) (hnd := by decide) (h := ?_)
           exact hj7 ((r118 == r121) && ((r1310 == r138) && true))
          ·refine oNot (h := ?_)
           refine oNot (h := ?_)
           refine oNot (h := ?_)
           refine oP (.d (.bool false)) (p_pick (b := false)) ?_
           refine oHead [4, 7, 14, 16, 18, 100] [0, 1, 4, 5, 6] (T' := [(4, .ptr 0 0), (7, .ptr 1 0), (14, .ptr 2 0), (16, .ptr 3 0), (18, .ptr 4 0), (100, .d (.bool false))]) (H' := [.box [.d (.lit (List.map e_SPoint r1111))], .box [.d (.lit (List.map e_SPoint r137))], .box [.d (.lit (List.map e_SPoint r152))], .box [.d (.lit (List.map e_SPoint r153))], .box [.d (.lit (List.map e_SPoint r1311))]]) (hnd := by decide) (h := ?_)
           exact hj7 false
        ·refine bPickF 92 (fun c => F (c && (r149 == 0))) (h1 := fun hc => ?_) (h2 := fun hc => ?_)
         ·refine oP (.d (.int .i64 r149)) p_move ?_
          refine oP (.d (.bool (r149 == 0))) (p_int (k := .i64) (p := r149) (q := 0)) ?_
          refine oP (.d (.bool (r149 == 0))) (p_pick (b := true)) ?_
          refine oHead [4, 7, 9, 12, 14, 16, 18, 95] [0, 1, 2, 3, 4, 5, 6] (T' := [(4, .ptr 0 0), (7, .ptr 1 0), (9, .ptr 2 0), (12, .ptr 3 0), (14, .ptr 4 0), (16, .ptr 5 0), (18, .ptr 6 0), (95, .d (.bool (r149 == 0)))]) (H' := [.box [.d (.lit (List.map e_SPoint r1111))], .box [.d (.lit (List.map e_SPoint r137))], .box [.d (.int .i64 r121), .d (.int .i64 r138)], .box [.d (.int .i64 r118), .d (.int .i64 r1310)], .box [.d (.lit (List.map e_SPoint r152))], .box [.d (.lit (List.map e_SPoint r153))], .box [.d (.lit (List.map e_SPoint r1311))]]) (hnd := by decide) (h := ?_)
          exact hj6 (r149 == 0)
         ·refine oNot (h := ?_)
          refine oNot (h := ?_)
          refine oP (.d (.bool false)) (p_pick (b := false)) ?_
          refine oHead [4, 7, 9, 12, 14, 16, 18, 95] [0, 1, 2, 3, 4, 5, 6] (T' := [(4, .ptr 0 0), (7, .ptr 1 0), (9, .ptr 2 0), (12, .ptr 3 0), (14, .ptr 4 0), (16, .ptr 5 0), (18, .ptr 6 0), (95, .d (.bool false))]) (H' := [.box [.d (.lit (List.map e_SPoint r1111))], .box [.d (.lit (List.map e_SPoint r137))], .box [.d (.int .i64 r121), .d (.int .i64 r138)], .box [.d (.int .i64 r118), .d (.int .i64 r1310)], .box [.d (.lit (List.map e_SPoint r152))], .box [.d (.lit (List.map e_SPoint r153))], .box [.d (.lit (List.map e_SPoint r1311))]]) (hnd := by decide) (h := ?_)
          exact hj6 false
       ·refine bPickF 88 (fun c => F (c && (r183 == 0))) (h1 := fun hc => ?_) (h2 := fun hc => ?_)
        ·refine oP (.d (.int .i64 r183)) p_move ?_
         refine oP (.d (.bool (r183 == 0))) (p_int (k := .i64) (p := r183) (q := 0)) ?_
         refine oP (.d (.bool (r183 == 0))) (p_pick (b := true)) ?_
         refine oHead [4, 7, 9, 12, 14, 16, 18, 19, 91] [0, 1, 2, 3, 4, 5, 6] (T' := [(4, .ptr 0 0), (7, .ptr 1 0), (9, .ptr 2 0), (12, .ptr 3 0), (14, .ptr 4 0), (16, .ptr 5 0), (18, .ptr 6 0), (19, .d (.int .i64 r149)), (91, .d (.bool (r183 == 0)))]) (H' := [.box [.d (.lit (List.map e_SPoint r1111))], .box [.d (.lit (List.map e_SPoint r137))], .box [.d (.int .i64 r121), .d (.int .i64 r138)], .box [.d (.int .i64 r118), .d (.int .i64 r1310)], .box [.d (.lit (List.map e_SPoint r152))], .box [.d (.lit (List.map e_SPoint r153))], .box [.d (.lit (List.map e_SPoint r1311))]]) (hnd := by decide) (h := ?_)
         exact hj5 (r183 == 0)
        ·refine oNot (h := ?_)
         refine oNot (h := ?_)
         refine oP (.d (.bool false)) (p_pick (b := false)) ?_
         refine oHead [4, 7, 9, 12, 14, 16, 18, 19, 91] [0, 1, 2, 3, 4, 5, 6] (T' := [(4, .ptr 0 0), (7, .ptr 1 0), (9, .ptr 2 0), (12, .ptr 3 0), (14, .ptr 4 0), (16, .ptr 5 0), (18, .ptr 6 0), (19, .d (.int .i64 r149)), (91, .d (.bool false))]) (H' := [.box [.d (.lit (List.map e_SPoint r1111))], .box [.d (.lit (List.map e_SPoint r137))], .box [.d (.int .i64 r121), .d (.int .i64 r138)], .box [.d (.int .i64 r118), .d (.int .i64 r1310)], .box [.d (.lit (List.map e_SPoint r152))], .box [.d (.lit (List.map e_SPoint r153))], .box [.d (.lit (List.map e_SPoint r1311))]]) (hnd := by decide) (h := ?_)
         exact hj5 false
      ·refine bPickF 84 (fun c => F (c && (r182 == 0))) (h1 := fun hc => ?_) (h2 := fun hc => ?_)
       ·refine oP (.d (.int .i64 r182)) p_move ?_
        refine oP (.d (.bool (r182 == 0))) (p_int (k := .i64) (p := r182) (q := 0)) ?_
        refine oP (.d (.bool (r182 == 0))) (p_pick (b := true)) ?_
        refine oHead [4, 7, 9, 12, 14, 16, 17, 18, 19, 87] [0, 1, 2, 3, 4, 5, 6] (T' := [(4, .ptr 0 0), (7, .ptr 1 0), (9, .ptr 2 0), (12, .ptr 3 0), (14, .ptr 4 0), (16, .ptr 5 0), (17, .d (.int .i64 r183)), (18, .ptr 6 0), (19, .d (.int .i64 r149)), (87, .d (.bool (r182 == 0)))]) (H' := [.box [.d (.lit (List.map e_SPoint r1111))], .box [.d (.lit (List.map e_SPoint r137))], .box [.d (.int .i64 r121), .d (.int .i64 r138)], .box [.d (.int .i64 r118), .d (.int .i64 r1310)], .box [.d (.lit (List.map e_SPoint r152))], .box [.d (.lit (List.map e_SPoint r153))], .box [.d (.lit (List.map e_SPoint r1311))]]) (hnd := by decide) (h := ?_)
        exact hj4 (r182 == 0)
       ·refine oNot (h := ?_)
        refine oNot (h := ?_)
        refine oP (.d (.bool false)) (p_pick (b := false)) ?_
        refine oHead [4, 7, 9, 12, 14, 16, 17, 18, 19, 87] [0, 1, 2, 3, 4, 5, 6] (T' := [(4, .ptr 0 0), (7, .ptr 1 0), (9, .ptr 2 0), (12, .ptr 3 0), (14, .ptr 4 0), (16, .ptr 5 0), (17, .d (.int .i64 r183)), (18, .ptr 6 0), (19, .d (.int .i64 r149)), (87, .d (.bool false))]) (H' := [.box [.d (.lit (List.map e_SPoint r1111))], .box [.d (.lit (List.map e_SPoint r137))], .box [.d (.int .i64 r121), .d (.int .i64 r138)], .box [.d (.int .i64 r118), .d (.int .i64 r1310)], .box [.d (.lit (List.map e_SPoint r152))], .box [.d (.lit (List.map e_SPoint r153))], .box [.d (.lit (List.map e_SPoint r1311))]]) (hnd := by decide) (h := ?_)
        exact hj4 false
     ·refine bPickF 80 (fun c => F (c && (r148 == 0))) (h1 := fun hc => ?_) (h2 := fun hc => ?_)
      ·refine oP (.d (.int .i64 r148)) p_move ?_
       refine oP (.d (.bool (r148 == 0))) (p_int (k := .i64) (p := r148) (q := 0)) ?_
       refine oP (.d (.bool (r148 == 0))) (p_pick (b := true)) ?_
       refine oHead [4, 7, 9, 12, 14, 15, 16, 17, 18, 19, 83] [0, 1, 2, 3, 4, 5, 6] (T' := [(4, .ptr 0 0), (7, .ptr 1 0), (9, .ptr 2 0), (12, .ptr 3 0), (14, .ptr 4 0), (15, .d (.int .i64 r182)), (16, .ptr 5 0), (17, .d (.int .i64 r183)), (18, .ptr 6 0), (19, .d (.int .i64 r149)), (83, .d (.bool (r148 == 0)))]) (H' := [.box [.d (.lit (List.map e_SPoint r1111))], .box [.d (.lit (List.map e_SPoint r137))], .box [.d (.int .i64 r121), .d (.int .i64 r138)], .box [.d (.int .i64 r118), .d (.int .i64 r1310)], .box [.d (.lit (List.map e_SPoint r152))], .box [.d (.lit (List.map e_SPoint r153))], .box [.d (.lit (List.map e_SPoint r1311))]]) (hnd := by decide) (h := ?_)
       exact hj3 (r148 == 0)
      ·refine oNot (h := ?_)
       refine oNot (h := ?_)
       refine oP (.d (.bool false)) (p_pick (b := false)) ?_
       refine oHead [4, 7, 9, 12, 14, 15, 16, 17, 18, 19, 83] [0, 1, 2, 3, 4, 5, 6] (T' := [(4, .ptr 0 0), (7, .ptr 1 0), (9, .ptr 2 0), (12, .ptr 3 0), (14, .ptr 4 0), (15, .d (.int .i64 r182)), (16, .ptr 5 0), (17, .d (.int .i64 r183)), (18, .ptr 6 0), (19, .d (.int .i64 r149)), (83, .d (.bool false))]) (H' := [.box [.d (.lit (List.map e_SPoint r1111))], .box [.d (.lit (List.map e_SPoint r137))], .box [.d (.int .i64 r121), .d (.int .i64 r138)], .box [.d (.int .i64 r118), .d (.int .i64 r1310)], .box [.d (.lit (List.map e_SPoint r152))], .box [.d (.lit (List.map e_SPoint r153))], .box [.d (.lit (List.map e_SPoint r1311))]]) (hnd := by decide) (h := ?_)
       exact hj3 false
    ·refine bPickF 76 (fun c => F (c && (r147 == 0))) (h1 := fun hc => ?_) (h2 := fun hc => ?_)
     ·refine oP (.d (.int .i64 r147)) p_move ?_
      refine oP (.d (.bool (r147 == 0))) (p_int (k := .i64) (p := r147) (q := 0)) ?_
      refine oP (.d (.bool (r147 == 0))) (p_pick (b := true)) ?_
      refine oHead [4, 7, 9, 12, 13, 14, 15, 16, 17, 18, 19, 79] [0, 1, 2, 3, 4, 5, 6] (T' := [(4, .ptr 0 0), (7, .ptr 1 0), (9, .ptr 2 0), (12, .ptr 3 0), (13, .d (.int .i64 r148)), (14, .ptr 4 0), (15, .d (.int .i64 r182)), (16, .ptr 5 0), (17, .d (.int .i64 r183)), (18, .ptr 6 0), (19, .d (.int .i64 r149)), (79, .d (.bool (r147 == 0)))]) (H' := [.box [.d (.lit (List.map e_SPoint r1111))], .box [.d (.lit (List.map e_SPoint r137))], .box [.d (.int .i64 r121), .d (.int .i64 r138)], .box [.d (.int .i64 r118), .d (.int .i64 r1310)], .box [.d (.lit (List.map e_SPoint r152))], .box [.d (.lit (List.map e_SPoint r153))], .box [.d (.lit (List.map e_SPoint r1311))]]) (hnd := by decide) (h := ?_)
      exact hj2 (r147 == 0)
     ·refine oNot (h := ?_)
      refine oNot (h := ?_)
      refine oP (.d (.bool false)) (p_pick (b := false)) ?_
      refine oHead [4, 7, 9, 12, 13, 14, 15, 16, 17, 18, 19, 79] [0, 1, 2, 3, 4, 5, 6] (T' := [(4, .ptr 0 0), (7, .ptr 1 0), (9, .ptr 2 0), (12, .ptr 3 0), (13, .d (.int .i64 r148)), (14, .ptr 4 0), (15, .d (.int .i64 r182)), (16, .ptr 5 0), (17, .d (.int .i64 r183)), (18, .ptr 6 0), (19, .d (.int .i64 r149)), (79, .d (.bool false))]) (H' := [.box [.d (.lit (List.map e_SPoint r1111))], .box [.d (.lit (List.map e_SPoint r137))], .box [.d (.int .i64 r121), .d (.int .i64 r138)], .box [.d (.int .i64 r118), .d (.int .i64 r1310)], .box [.d (.lit (List.map e_SPoint r152))], .box [.d (.lit (List.map e_SPoint r153))], .box [.d (.lit (List.map e_SPoint r1311))]]) (hnd := by decide) (h := ?_)
      exact hj2 false
   ·refine bPickF 72 (fun c => F (c && (r146 == 0))) (h1 := fun hc => ?_) (h2 := fun hc => ?_)
    ·refine oP (.d (.int .i64 r146)) p_move ?_
     refine oP (.d (.bool (r146 == 0))) (p_int (k := .i64) (p := r146) (q := 0)) ?_
     refine oP (.d (.bool (r146 == 0))) (p_pick (b := true)) ?_
     refine oHead [4, 7, 9, 11, 12, 13, 14, 15, 16, 17, 18, 19, 75] [1, 3, 4, 6, 7, 8, 9] (T' := [(4, .ptr 0 0), (7, .ptr 1 0), (9, .ptr 2 0), (11, .d (.int .i64 r147)), (12, .ptr 3 0), (13, .d (.int .i64 r148)), (14, .ptr 4 0), (15, .d (.int .i64 r182)), (16, .ptr 5 0), (17, .d (.int .i64 r183)), (18, .ptr 6 0), (19, .d (.int .i64 r149)), (75, .d (.bool (r146 == 0)))]) (H' := [.box [.d (.lit (List.map e_SPoint r1111))], .box [.d (.lit (List.map e_SPoint r137))], .box [.d (.int .i64 r121), .d (.int .i64 r138)], .box [.d (.int .i64 r118), .d (.int .i64 r1310)], .box [.d (.lit (List.map e_SPoint r152))], .box [.d (.lit (List.map e_SPoint r153))], .box [.d (.lit (List.map e_SPoint r1311))]]) (hnd := by decide) (h := ?_)
     exact hj1 (r146 == 0)
    ·refine oNot (h := ?_)
     refine oNot (h := ?_)
     refine oP (.d (.bool false)) (p_pick (b := false)) ?_
     refine oHead [4, 7, 9, 11, 12, 13, 14, 15, 16, 17, 18, 19, 75] [1, 3, 4, 6, 7, 8, 9] (T' := [(4, .ptr 0 0), (7, .ptr 1 0), (9, .ptr 2 0), (11, .d (.int .i64 r147)), (12, .ptr 3 0), (13, .d (.int .i64 r148)), (14, .ptr 4 0), (15, .d (.int .i64 r182)), (16, .ptr 5 0), (17, .d (.int .i64 r183)), (18, .ptr 6 0), (19, .d (.int .i64 r149)), (75, .d (.bool false))]) (H' := [.box [.d (.lit (List.map e_SPoint r1111))], .box [.d (.lit (List.map e_SPoint r137))], .box [.d (.int .i64 r121), .d (.int .i64 r138)], .box [.d (.int .i64 r118), .d (.int .i64 r1310)], .box [.d (.lit (List.map e_SPoint r152))], .box [.d (.lit (List.map e_SPoint r153))], .box [.d (.lit (List.map e_SPoint r1311))]]) (hnd := by decide) (h := ?_)
     exact hj1 false

end Go.VM
