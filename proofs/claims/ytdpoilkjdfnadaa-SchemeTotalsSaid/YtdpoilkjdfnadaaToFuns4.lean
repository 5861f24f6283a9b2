/- Plain functions that answer as the program's functions do, and the proof that they do. -/
import Derived.Test.YtdpoilkjdfnadaaProg
import Derived.KernelRfl
import Derived.Test.YtdpoilkjdfnadaaEngDeepCM
import Derived.Test.YtdpoilkjdfnadaaToFacts
import Derived.Test.YtdpoilkjdfnadaaToFuns0
import Derived.Test.YtdpoilkjdfnadaaToFuns1
import Derived.Test.YtdpoilkjdfnadaaToFuns2
import Derived.Test.YtdpoilkjdfnadaaToFuns3
namespace Go.VM
open Go.Proofs
set_option linter.unusedVariables false
set_option linter.unusedSimpArgs false
set_option maxRecDepth 100000
/-- awardingbody/scheme.Closed -/
def scheme_Closed_b1 (k : Nat) (p2 : (List SPart)) (s0 : (List (List Int))) (answers : (List Int)) (again : Int × (List Int) → Option (((List Int)) ⊕ ((List Int) × Int))) : Int × (List Int) → Option (((List Int)) ⊕ ((List Int) × Int)) := uc fun x19 => fun xs11 => bif (decide (x19 < ((List.length p2) : Int))) then Option.bind (gidx p2 x19 fun e115 => gidx answers x19 fun e116 => bif (e115.Kind == 1) then gcap (List.length (xs11 ++ ([(-2)] : List Int))) 8 (some (Sum.inl (xs11 ++ ([(-2)] : List Int)))) else blet ((e116 != (-2)) && (e116 != (-1))) fun x27 => Option.bind (bif x27 then blet ((decide (e116 < 0)) || (decide (e116 ≥ e115.Options))) fun x30 => some x30 else some false : Option (Bool)) (fun x29 => bif x29 then some (Sum.inr ([], 2)) else bif (e116 == (-1)) then gcap (List.length (xs11 ++ ([(-1)] : List Int))) 8 (some (Sum.inl (xs11 ++ ([(-1)] : List Int)))) else gidx s0 x19 fun e12 => Option.bind (scheme_accepts k e115.Kind e115.Max e115.Topic e115.Objective e115.Options e115.Key e12 e116) (fun r12 => bif r12 then gcap (List.length (xs11 ++ ([e115.Max] : List Int))) 8 (some (Sum.inl (xs11 ++ ([e115.Max] : List Int)))) else gcap (List.length (xs11 ++ ([0] : List Int))) 8 (some (Sum.inl (xs11 ++ ([0] : List Int)))))) : Option (((List Int)) ⊕ ((List Int) × Int))) (Sum.elim (fun xs14 => again ((IntKind.wrap .i64 (x19 + 1)), xs14)) (fun r => some (Sum.inr r))) else some (Sum.inl xs11)
def scheme_Closed (k : Nat) (p0 : Int) (p1 : Int) (p2 : (List SPart)) (s0 : (List (List Int))) (s1 : (List Int)) (answers : (List Int)) : Option ((List Int) × Int) := Option.bind (scheme_Valid k p0 p1 p2 s0 s1) (fun r16 => bif (!r16) then some ([], 1) else bif (((List.length answers) : Int) != ((List.length p2) : Int)) then some ([], 22) else Option.bind (gloop (scheme_Closed_b1 k p2 s0 answers) k (0, ([] : List Int)) : Option (((List Int)) ⊕ ((List Int) × Int))) (Sum.elim (fun xs9 => some (xs9, 0)) (fun r => some r)))
def scheme_Closed_E (p0 : Int) (p1 : Int) (p2 : (List SPart)) (s0 : (List (List Int))) (s1 : (List Int)) (answers : (List Int)) : (List Int) × Int → V × List Blk := uc fun r13 => fun r14 => (.tuple [.d (.lit (List.map e_i64 r13)), .d (.int .i64 r14)], [])
theorem scheme_Closed_goes (k : Nat) (p0 : Int) (p1 : Int) (p2 : (List SPart)) (s0 : (List (List Int))) (s1 : (List Int)) (answers : (List Int)) : RunsO Try.prog 16 [.agg [.d (.int .i64 p0), .d (.int .i64 p1), .d (.lit (List.map e_SPart p2))], .agg [.d (.lit (List.map e_Li64 s0)), .d (.lit (List.map e_i64 s1))], .d (.lit (List.map e_i64 answers))] [] (scheme_Closed_E p0 p1 p2 s0 s1 answers) (scheme_Closed k p0 p1 p2 s0 s1 answers) := by
  refine RunsO.of_goes (N := 85) (m := 0) (T := [(0, .agg [.d (.int .i64 p0), .d (.int .i64 p1), .d (.lit (List.map e_SPart p2))]), (1, .agg [.d (.lit (List.map e_Li64 s0)), .d (.lit (List.map e_i64 s1))]), (2, .d (.lit (List.map e_i64 answers)))]) Try.func16 rfl rfl (h := ?_)
  unfold scheme_Closed
  refine bStart ?_
  refine oSR rfl ?_
  refine oD (.ptr 0 0) (k_box (H' := [.box [.d (.int .i64 p0), .d (.int .i64 p1), .d (.lit (List.map e_SPart p2))]]) (cells := [.d (.int .i64 p0), .d (.int .i64 p1), .d (.lit (List.map e_SPart p2))])) ?_
  refine oD (.ptr 1 0) (k_box (H' := [.box [.d (.int .i64 p0), .d (.int .i64 p1), .d (.lit (List.map e_SPart p2))], .box [.d (.lit (List.map e_Li64 s0)), .d (.lit (List.map e_i64 s1))]]) (cells := [.d (.lit (List.map e_Li64 s0)), .d (.lit (List.map e_i64 s1))])) ?_
  refine oP (.nilc) p_assign ?_
  refine oP (.d (.int .i64 0)) p_assign ?_
  refine oEnd ?_
  refine oSeq ?_
  refine oBlock ?_
  refine oSR rfl ?_
  refine oQ (.agg [.d (.int .i64 p0), .d (.int .i64 p1), .d (.lit (List.map e_SPart p2))]) (k_loadAgg 0 0 (hu := Try.underlying27) (hi := ty27)) ?_
  refine oQ (.agg [.d (.lit (List.map e_Li64 s0)), .d (.lit (List.map e_i64 s1))]) (k_loadAgg 1 0 (hu := Try.underlying31) (hi := ty31)) ?_
  refine bCall (caps := []) (v := (fun (r16 : Bool) => (.d (.bool r16) : V))) (H' := (fun (r16 : Bool) => ([.box [.d (.int .i64 p0), .d (.int .i64 p1), .d (.lit (List.map e_SPart p2))], .box [.d (.lit (List.map e_Li64 s0)), .d (.lit (List.map e_i64 s1))]] : List Blk))) [] _ (scheme_Valid_goes k p0 p1 p2 s0 s1) (ho := rfl) (hfn := Try.func30) (hb := rfl) (hconv := ConvRs.refl _ _) (hnd := by decide) (hBl := fun _ => (by kernel_rfl)) (hv := fun _ => (by kernel_rfl)) (hH' := fun _ => (by kernel_rfl)) (h := fun r16 => ?_)
  refine oP (.d (.bool (!r16))) (p_not (p := r16)) ?_
  refine oP (.d (.bool (!r16))) p_assign ?_
  refine oEnd ?_
  refine bSplit 12 (h1 := fun hc => ?_) (h2 := fun hc => ?_)
  ·refine oCondT (h := ?_)
   refine oSR rfl ?_
   refine oP (.nilc) p_assign ?_
   refine oP (.d (.int .i64 1)) p_assign ?_
   refine oEnd ?_
   refine oConv 6 (v := .nilc) (v' := .d (.lit (List.map e_i64 []))) (hc := .nil) (h := ?_)
   exact oRet (r0 := ([], 1)) (rv := .tuple [.d (.lit (List.map e_i64 [])), .d (.int .i64 1)]) (B := []) (vs := [.d (.lit (List.map e_i64 [])), .d (.int .i64 1)]) (σ := []) (hf := Try.func16) (hrs := rfl) (hres := .cons _ _ _ _ (.tmp 6 _ (by kernel_rfl)) (.cons _ _ _ _ (.tmp 7 _ (by kernel_rfl)) .nil)) (hnd := by decide)
  ·refine oCondF (h := ?_)
   refine oSR rfl ?_
   refine oP (.d (.lit (List.map e_i64 answers))) p_move ?_
   refine oP (.d (.int .i64 ((List.length answers) : Int))) (k_lenLit (enc := e_i64) answers (hu := Try.underlying22)) ?_
   refine oP (.ptr 0 2) (k_fieldAddr 0 0 (hu := Try.underlying27) (hf := rfl) (hi := ty25)) ?_
   refine oQ (.d (.lit (List.map e_SPart p2))) (k_load 0 2 (hu := Try.underlying25)) ?_
   refine oP (.d (.int .i64 ((List.length p2) : Int))) (k_lenLit (enc := e_SPart) p2 (hu := Try.underlying25)) ?_
   refine oP (.d (.bool (((List.length answers) : Int) != ((List.length p2) : Int)))) (p_int (k := .i64) (p := ((List.length answers) : Int)) (q := ((List.length p2) : Int))) ?_
   refine oP (.d (.bool (((List.length answers) : Int) != ((List.length p2) : Int)))) p_assign ?_
   refine oEnd ?_
   refine bSplit 17 (h1 := fun hc => ?_) (h2 := fun hc => ?_)
   ·refine oCondT (h := ?_)
    refine oSR rfl ?_
    refine oP (.nilc) p_assign ?_
    refine oP (.d (.int .i64 22)) p_assign ?_
    refine oEnd ?_
    refine oConv 6 (v := .nilc) (v' := .d (.lit (List.map e_i64 []))) (hc := .nil) (h := ?_)
    exact oRet (r0 := ([], 22)) (rv := .tuple [.d (.lit (List.map e_i64 [])), .d (.int .i64 22)]) (B := []) (vs := [.d (.lit (List.map e_i64 [])), .d (.int .i64 22)]) (σ := []) (hf := Try.func16) (hrs := rfl) (hres := .cons _ _ _ _ (.tmp 6 _ (by kernel_rfl)) (.cons _ _ _ _ (.tmp 7 _ (by kernel_rfl)) .nil)) (hnd := by decide)
   ·refine oCondF (h := ?_)
    refine oSkip ?_
    refine oBlk ?_
    refine oSR rfl ?_
    refine oP (.nilc) p_assign ?_
    refine oEnd ?_
    refine oSeq ?_
    refine oSR rfl ?_
    refine oP (.ptr 0 2) (k_fieldAddr 0 0 (hu := Try.underlying27) (hf := rfl) (hi := ty25)) ?_
    refine oQ (.d (.lit (List.map e_SPart p2))) (k_load 0 2 (hu := Try.underlying25)) ?_
    refine oP (.d (.int .i64 ((List.length p2) : Int))) (k_lenLit (enc := e_SPart) p2 (hu := Try.underlying25)) ?_
    refine oP (.d (.int .i64 0)) p_move ?_
    refine oEnd ?_
    refine bJoin ((fun (xs9 : (List Int)) => [(8, .ref 0 (List.length xs9) 0 (List.length xs9))])) ((fun (xs9 : (List Int)) => [.sl 1 (List.map e_i64 xs9) false])) Sum.inl (fun xs9 => ?_) (fun hj6 => ?_)
    ·refine bInl ?_
     refine oView (T' := [(8, .ref 0 (List.length xs9) 0 (List.length xs9))]) (H' := [.sl 1 (List.map e_i64 xs9) false]) (h := ?_)
     refine oSR rfl ?_
     refine oP (.ref 0 (List.length xs9) 0 (List.length xs9)) p_move ?_
     refine oP (.ref 0 (List.length xs9) 0 (List.length xs9)) p_assign ?_
     refine oP (.d (.int .i64 0)) p_assign ?_
     refine oEnd ?_
     refine oFreeze 0 (esz := 1) (xs := List.map e_i64 xs9) (h := ?_)
     refine oView (H' := [.sl 1 (List.map e_i64 xs9) true]) rfl (h := ?_)
     refine oConv 6 (v := .ref 0 (List.length xs9) 0 (List.length xs9)) (v' := .d (.lit (List.map e_i64 xs9))) (hc := k_lit (enc := e_i64) (sz := 1) 0 xs9) (h := ?_)
     exact oRet (r0 := (xs9, 0)) (rv := .tuple [.d (.lit (List.map e_i64 xs9)), .d (.int .i64 0)]) (B := []) (vs := [.d (.lit (List.map e_i64 xs9)), .d (.int .i64 0)]) (σ := []) (hf := Try.func16) (hrs := rfl) (hres := .cons _ _ _ _ (.tmp 6 _ (by kernel_rfl)) (.cons _ _ _ _ (.tmp 7 _ (by kernel_rfl)) .nil)) (hnd := by decide)
    ·refine oBlock ?_
     refine oLoop ?_
     refine oVirt (esz := 1) 8 (h := ?_)
     refine oView (H' := [.box [.d (.int .i64 p0), .d (.int .i64 p1), .d (.lit (List.map e_SPart p2))], .box [.d (.lit (List.map e_Li64 s0)), .d (.lit (List.map e_i64 s1))], .sl 1 (List.map e_i64 ([] : List Int)) false]) rfl (h := ?_)
     refine oHead [2, 4, 8, 25, 26, 27] [1, 2] (T' := [(2, .d (.lit (List.map e_i64 answers))), (4, .ptr 0 0), (8, .ref 1 (List.length ([] : List Int)) 0 (List.length ([] : List Int))), (25, .d (.lit (List.map e_SPart p2))), (26, .d (.int .i64 ((List.length p2) : Int))), (27, .d (.int .i64 0))]) (H' := [.box [.d (.lit (List.map e_Li64 s0)), .d (.lit (List.map e_i64 s1))], .sl 1 (List.map e_i64 ([] : List Int)) false]) (hnd := by decide) (h := ?_)
     refine bLoop (body := scheme_Closed_b1 k p2 s0 answers) ((uc fun (x19 : Int) => (fun (xs11 : (List Int)) => [(2, .d (.lit (List.map e_i64 answers))), (4, .ptr 0 0), (8, .ref 1 (List.length xs11) 0 (List.length xs11)), (25, .d (.lit (List.map e_SPart p2))), (26, .d (.int .i64 ((List.length p2) : Int))), (27, .d (.int .i64 x19))]))) ((uc fun (x19 : Int) => (fun (xs11 : (List Int)) => [.box [.d (.lit (List.map e_Li64 s0)), .d (.lit (List.map e_i64 s1))], .sl 1 (List.map e_i64 xs11) false]))) (fun again hag1 s => ?_) k (0, ([] : List Int))
     ·unfold scheme_Closed_b1
      obtain ⟨x19, xs11⟩ := s
      refine bUc ?_
      refine oView (T' := [(2, .d (.lit (List.map e_i64 answers))), (4, .ptr 0 0), (8, .ref 1 (List.length xs11) 0 (List.length xs11)), (25, .d (.lit (List.map e_SPart p2))), (26, .d (.int .i64 ((List.length p2) : Int))), (27, .d (.int .i64 x19))]) (H' := [.box [.d (.lit (List.map e_Li64 s0)), .d (.lit (List.map e_i64 s1))], .sl 1 (List.map e_i64 xs11) false]) (h := ?_)
      refine oSR rfl ?_
      refine oP (.d (.bool (decide (x19 < ((List.length p2) : Int))))) (p_int (k := .i64) (p := x19) (q := ((List.length p2) : Int))) ?_
      refine oEnd ?_
      refine oSeq ?_
      refine bSplit 28 (h1 := fun hc => ?_) (h2 := fun hc => ?_)
      ·refine oCondT (h := ?_)
       refine oSkip ?_
       refine oSeq ?_
       refine bJoin ((fun (xs14 : (List Int)) => [(2, .d (.lit (List.map e_i64 answers))), (4, .ptr 0 0), (8, .ref 1 (List.length xs14) 0 (List.length xs14)), (25, .d (.lit (List.map e_SPart p2))), (26, .d (.int .i64 ((List.length p2) : Int))), (27, .d (.int .i64 x19))])) ((fun (xs14 : (List Int)) => [.box [.d (.lit (List.map e_Li64 s0)), .d (.lit (List.map e_i64 s1))], .sl 1 (List.map e_i64 xs14) false])) Sum.inl (fun xs14 => ?_) (fun hj9 => ?_)
       ·refine bInl ?_
        refine oView (T' := [(2, .d (.lit (List.map e_i64 answers))), (4, .ptr 0 0), (8, .ref 1 (List.length xs14) 0 (List.length xs14)), (25, .d (.lit (List.map e_SPart p2))), (26, .d (.int .i64 ((List.length p2) : Int))), (27, .d (.int .i64 x19))]) (H' := [.box [.d (.lit (List.map e_Li64 s0)), .d (.lit (List.map e_i64 s1))], .sl 1 (List.map e_i64 xs14) false]) (h := ?_)
        refine oRegion rfl ?_
        refine oP (.d (.int .i64 (IntKind.wrap .i64 (x19 + 1)))) (p_int (k := .i64) (p := x19) (q := 1)) ?_
        refine oP (.d (.int .i64 (IntKind.wrap .i64 (x19 + 1)))) p_move ?_
        refine oEnd ?_
        refine oAgain ?_
        refine oHead [2, 4, 8, 25, 26, 27] [0, 1] (T' := [(2, .d (.lit (List.map e_i64 answers))), (4, .ptr 0 0), (8, .ref 1 (List.length xs14) 0 (List.length xs14)), (25, .d (.lit (List.map e_SPart p2))), (26, .d (.int .i64 ((List.length p2) : Int))), (27, .d (.int .i64 (IntKind.wrap .i64 (x19 + 1))))]) (H' := [.box [.d (.lit (List.map e_Li64 s0)), .d (.lit (List.map e_i64 s1))], .sl 1 (List.map e_i64 xs14) false]) (hnd := by decide) (h := ?_)
        exact hag1 ((IntKind.wrap .i64 (x19 + 1)), xs14)
       ·refine oBlock ?_
        refine oSR rfl ?_
        refine oP (.d (.int .i64 x19)) p_move ?_
        refine bIdx (fun e115 h158 h159 => ?_)
        refine oP (.lptr (e_SPart e115) 0) (k_idxLit e_SPart_len p2 (a := e115) (k := .i64) (i := x19) (hu := Try.underlying25) (hi := ty49) (h0 := h158) (he := h159)) ?_
        refine oQ (.agg [.d (.int .i64 e115.Kind), .d (.int .i64 e115.Max), .d (.int .i64 e115.Topic), .d (.int .i64 e115.Objective), .d (.int .i64 e115.Options), .d (.int .i64 e115.Key)]) (k_loadLAgg (cells := e_SPart e115) 0 [(.int .i64 e115.Kind), (.int .i64 e115.Max), (.int .i64 e115.Topic), (.int .i64 e115.Objective), (.int .i64 e115.Options), (.int .i64 e115.Key)] (hu := Try.underlying49) (hi := ty49)) ?_
        refine oD (.ptr 2 0) (k_alloc (H' := [.box [.d (.lit (List.map e_Li64 s0)), .d (.lit (List.map e_i64 s1))], .sl 1 (List.map e_i64 xs11) false, .box [.d (.int .i64 0), .d (.int .i64 0), .d (.int .i64 0), .d (.int .i64 0), .d (.int .i64 0), .d (.int .i64 0)]]) ty49) ?_
        refine oP (.d (.int .i64 x19)) p_assign ?_
        refine oD (.undef) (k_store (vs := [.d (.int .i64 e115.Kind), .d (.int .i64 e115.Max), .d (.int .i64 e115.Topic), .d (.int .i64 e115.Objective), .d (.int .i64 e115.Options), .d (.int .i64 e115.Key)]) (H' := [.box [.d (.lit (List.map e_Li64 s0)), .d (.lit (List.map e_i64 s1))], .sl 1 (List.map e_i64 xs11) false, .box [.d (.int .i64 e115.Kind), .d (.int .i64 e115.Max), .d (.int .i64 e115.Topic), .d (.int .i64 e115.Objective), .d (.int .i64 e115.Options), .d (.int .i64 e115.Key)]]) 2 0 (hi := ty49)) ?_
        refine oEnd ?_
        refine oSR rfl ?_
        refine oP (.d (.lit (List.map e_i64 answers))) p_move ?_
        refine oP (.d (.int .i64 x19)) p_move ?_
        refine bIdx (fun e116 h160 h161 => ?_)
        refine oP (.lptr (e_i64 e116) 0) (k_idxLit e_i64_len answers (a := e116) (k := .i64) (i := x19) (hu := Try.underlying22) (hi := ty3) (h0 := h160) (he := h161)) ?_
        refine oQ (.d (.int .i64 e116)) (k_loadL (cells := e_i64 e116) 0 (hu := Try.underlying3)) ?_
        refine oP (.d (.int .i64 e116)) p_assign ?_
        refine oEnd ?_
        refine oBlock ?_
        refine oSR rfl ?_
        refine oP (.ptr 2 0) (k_fieldAddr 2 0 (hu := Try.underlying49) (hf := rfl) (hi := ty3)) ?_
        refine oQ (.d (.int .i64 e115.Kind)) (k_load 2 0 (hu := Try.underlying3)) ?_
        refine oP (.d (.bool (e115.Kind == 1))) (p_int (k := .i64) (p := e115.Kind) (q := 1)) ?_
        refine oP (.d (.bool (e115.Kind == 1))) p_assign ?_
        refine oEnd ?_
        refine bSplit 39 (h1 := fun hc => ?_) (h2 := fun hc => ?_)
        ·refine oCondT (h := ?_)
         refine oRegion rfl ?_
         refine oP (.ref 1 (List.length xs11) 0 (List.length xs11)) p_move ?_
         refine oD (.ref 3 (List.length ([(-2)] : List Int)) 0 (List.length ([(-2)] : List Int))) (k_buildSlice (H' := [.box [.d (.lit (List.map e_Li64 s0)), .d (.lit (List.map e_i64 s1))], .sl 1 (List.map e_i64 xs11) false, .box [.d (.int .i64 e115.Kind), .d (.int .i64 e115.Max), .d (.int .i64 e115.Topic), .d (.int .i64 e115.Objective), .d (.int .i64 e115.Options), .d (.int .i64 e115.Key)], .sl 1 (List.map e_i64 ([(-2)] : List Int)) false]) (List.map e_i64 ([(-2)] : List Int)) Try.underlying22 ty3) ?_
         refine bCap (fun h162 => ?_)
         refine oD (.ref 1 (List.length (xs11 ++ ([(-2)] : List Int))) 0 (List.length (xs11 ++ ([(-2)] : List Int)))) (k_append (H' := [.box [.d (.lit (List.map e_Li64 s0)), .d (.lit (List.map e_i64 s1))], .sl 1 (List.map e_i64 (xs11 ++ ([(-2)] : List Int))) false, .box [.d (.int .i64 e115.Kind), .d (.int .i64 e115.Max), .d (.int .i64 e115.Topic), .d (.int .i64 e115.Objective), .d (.int .i64 e115.Options), .d (.int .i64 e115.Key)], .sl 1 (List.map e_i64 ([(-2)] : List Int)) false]) (enc := e_i64) 1 xs11 ([(-2)] : List Int) Try.underlying22 Try.underlying22 ty3 (hy := (holdsRef (enc := e_i64) 3 ([(-2)] : List Int) false)) (hfit := h162)) ?_
         refine oP (.ref 1 (List.length (xs11 ++ ([(-2)] : List Int))) 0 (List.length (xs11 ++ ([(-2)] : List Int)))) p_assign ?_
         refine oEnd ?_
         refine oBlk ?_
         refine oBlk ?_
         refine oHead [2, 4, 8, 25, 26, 27] [0, 1] (T' := [(2, .d (.lit (List.map e_i64 answers))), (4, .ptr 0 0), (8, .ref 1 (List.length (xs11 ++ ([(-2)] : List Int))) 0 (List.length (xs11 ++ ([(-2)] : List Int)))), (25, .d (.lit (List.map e_SPart p2))), (26, .d (.int .i64 ((List.length p2) : Int))), (27, .d (.int .i64 x19))]) (H' := [.box [.d (.lit (List.map e_Li64 s0)), .d (.lit (List.map e_i64 s1))], .sl 1 (List.map e_i64 (xs11 ++ ([(-2)] : List Int))) false]) (hnd := by decide) (h := ?_)
         exact hj9 (xs11 ++ ([(-2)] : List Int))
        ·refine oCondF (h := ?_)
         refine oSR rfl ?_
         refine oP (.d (.int .i64 e116)) p_move ?_
         refine oP (.d (.bool (e116 != (-2)))) (p_int (k := .i64) (p := e116) (q := (-2))) ?_
         refine oP (.d (.bool (e116 != (-2)))) p_move ?_
         refine bMeetF (H' := [.box [.d (.lit (List.map e_Li64 s0)), .d (.lit (List.map e_i64 s1))], .sl 1 (List.map e_i64 xs11) false, .box [.d (.int .i64 e115.Kind), .d (.int .i64 e115.Max), .d (.int .i64 e115.Topic), .d (.int .i64 e115.Objective), .d (.int .i64 e115.Options), .d (.int .i64 e115.Key)]]) 3 rfl ((fun (x27 : Bool) => [(2, .d (.lit (List.map e_i64 answers))), (4, .ptr 0 0), (8, .ref 1 (List.length xs11) 0 (List.length xs11)), (9, .d (.int .i64 x19)), (10, .ptr 2 0), (11, .d (.int .i64 e116)), (25, .d (.lit (List.map e_SPart p2))), (26, .d (.int .i64 ((List.length p2) : Int))), (27, .d (.int .i64 x19)), (52, .d (.bool x27))])) (fun x27 => ?_) (fun F hj10 => ?_)
         ·refine oView (T' := [(2, .d (.lit (List.map e_i64 answers))), (4, .ptr 0 0), (8, .ref 1 (List.length xs11) 0 (List.length xs11)), (9, .d (.int .i64 x19)), (10, .ptr 2 0), (11, .d (.int .i64 e116)), (25, .d (.lit (List.map e_SPart p2))), (26, .d (.int .i64 ((List.length p2) : Int))), (27, .d (.int .i64 x19)), (52, .d (.bool x27))]) (H' := [.box [.d (.lit (List.map e_Li64 s0)), .d (.lit (List.map e_i64 s1))], .sl 1 (List.map e_i64 xs11) false, .box [.d (.int .i64 e115.Kind), .d (.int .i64 e115.Max), .d (.int .i64 e115.Topic), .d (.int .i64 e115.Objective), .d (.int .i64 e115.Options), .d (.int .i64 e115.Key)]]) (h := ?_)
          refine oP (.d (.bool x27)) p_move ?_
          refine bMeet 9 rfl ((fun (x29 : Bool) => [(2, .d (.lit (List.map e_i64 answers))), (4, .ptr 0 0), (8, .ref 1 (List.length xs11) 0 (List.length xs11)), (9, .d (.int .i64 x19)), (10, .ptr 2 0), (11, .d (.int .i64 e116)), (25, .d (.lit (List.map e_SPart p2))), (26, .d (.int .i64 ((List.length p2) : Int))), (27, .d (.int .i64 x19)), (62, .d (.bool x29))])) ((fun (x29 : Bool) => [.box [.d (.lit (List.map e_Li64 s0)), .d (.lit (List.map e_i64 s1))], .sl 1 (List.map e_i64 xs11) false, .box [.d (.int .i64 e115.Kind), .d (.int .i64 e115.Max), .d (.int .i64 e115.Topic), .d (.int .i64 e115.Objective), .d (.int .i64 e115.Options), .d (.int .i64 e115.Key)]])) (fun s => s) (fun x29 => ?_) (fun hj11 => ?_)
          ·refine oView (T' := [(2, .d (.lit (List.map e_i64 answers))), (4, .ptr 0 0), (8, .ref 1 (List.length xs11) 0 (List.length xs11)), (9, .d (.int .i64 x19)), (10, .ptr 2 0), (11, .d (.int .i64 e116)), (25, .d (.lit (List.map e_SPart p2))), (26, .d (.int .i64 ((List.length p2) : Int))), (27, .d (.int .i64 x19)), (62, .d (.bool x29))]) (H' := [.box [.d (.lit (List.map e_Li64 s0)), .d (.lit (List.map e_i64 s1))], .sl 1 (List.map e_i64 xs11) false, .box [.d (.int .i64 e115.Kind), .d (.int .i64 e115.Max), .d (.int .i64 e115.Topic), .d (.int .i64 e115.Objective), .d (.int .i64 e115.Options), .d (.int .i64 e115.Key)]]) (h := ?_)
           refine oP (.d (.bool x29)) p_assign ?_
           refine oEnd ?_
           refine bSplit 46 (h1 := fun hc => ?_) (h2 := fun hc => ?_)
           ·refine oCondT (h := ?_)
            refine oSR rfl ?_
            refine oP (.nilc) p_assign ?_
            refine oP (.d (.int .i64 2)) p_assign ?_
            refine oEnd ?_
            refine oConv 6 (v := .nilc) (v' := .d (.lit (List.map e_i64 []))) (hc := .nil) (h := ?_)
            exact oRet (r0 := ([], 2)) (rv := .tuple [.d (.lit (List.map e_i64 [])), .d (.int .i64 2)]) (B := []) (vs := [.d (.lit (List.map e_i64 [])), .d (.int .i64 2)]) (σ := []) (hf := Try.func16) (hrs := rfl) (hres := .cons _ _ _ _ (.tmp 6 _ (by kernel_rfl)) (.cons _ _ _ _ (.tmp 7 _ (by kernel_rfl)) .nil)) (hnd := by decide)
           ·refine oCondF (h := ?_)
            refine oSR rfl ?_
            refine oP (.d (.int .i64 e116)) p_move ?_
            refine oP (.d (.bool (e116 == (-1)))) (p_int (k := .i64) (p := e116) (q := (-1))) ?_
            refine oP (.d (.bool (e116 == (-1)))) p_assign ?_
            refine oEnd ?_
            refine bSplit 63 (h1 := fun hc => ?_) (h2 := fun hc => ?_)
            ·refine oCondT (h := ?_)
             refine oRegion rfl ?_
             refine oP (.ref 1 (List.length xs11) 0 (List.length xs11)) p_move ?_
             refine oD (.ref 3 (List.length ([(-1)] : List Int)) 0 (List.length ([(-1)] : List Int))) (k_buildSlice (H' := [.box [.d (.lit (List.map e_Li64 s0)), .d (.lit (List.map e_i64 s1))], .sl 1 (List.map e_i64 xs11) false, .box [.d (.int .i64 e115.Kind), .d (.int .i64 e115.Max), .d (.int .i64 e115.Topic), .d (.int .i64 e115.Objective), .d (.int .i64 e115.Options), .d (.int .i64 e115.Key)], .sl 1 (List.map e_i64 ([(-1)] : List Int)) false]) (List.map e_i64 ([(-1)] : List Int)) Try.underlying22 ty3) ?_
             refine bCap (fun h163 => ?_)
             refine oD (.ref 1 (List.length (xs11 ++ ([(-1)] : List Int))) 0 (List.length (xs11 ++ ([(-1)] : List Int)))) (k_append (H' := [.box [.d (.lit (List.map e_Li64 s0)), .d (.lit (List.map e_i64 s1))], .sl 1 (List.map e_i64 (xs11 ++ ([(-1)] : List Int))) false, .box [.d (.int .i64 e115.Kind), .d (.int .i64 e115.Max), .d (.int .i64 e115.Topic), .d (.int .i64 e115.Objective), .d (.int .i64 e115.Options), .d (.int .i64 e115.Key)], .sl 1 (List.map e_i64 ([(-1)] : List Int)) false]) (enc := e_i64) 1 xs11 ([(-1)] : List Int) Try.underlying22 Try.underlying22 ty3 (hy := (holdsRef (enc := e_i64) 3 ([(-1)] : List Int) false)) (hfit := h163)) ?_
             refine oP (.ref 1 (List.length (xs11 ++ ([(-1)] : List Int))) 0 (List.length (xs11 ++ ([(-1)] : List Int)))) p_assign ?_
             refine oEnd ?_
             refine oBlk ?_
             refine oBlk ?_
             refine oHead [2, 4, 8, 25, 26, 27] [0, 1] (T' := [(2, .d (.lit (List.map e_i64 answers))), (4, .ptr 0 0), (8, .ref 1 (List.length (xs11 ++ ([(-1)] : List Int))) 0 (List.length (xs11 ++ ([(-1)] : List Int)))), (25, .d (.lit (List.map e_SPart p2))), (26, .d (.int .i64 ((List.length p2) : Int))), (27, .d (.int .i64 x19))]) (H' := [.box [.d (.lit (List.map e_Li64 s0)), .d (.lit (List.map e_i64 s1))], .sl 1 (List.map e_i64 (xs11 ++ ([(-1)] : List Int))) false]) (hnd := by decide) (h := ?_)
             exact hj9 (xs11 ++ ([(-1)] : List Int))
            ·refine oCondF (h := ?_)
             refine oSeq ?_
             refine oDraw [(0, 9), (1, 9), (2, 9)] rfl ?_
             refine aQ 0 [2] (.agg [.d (.int .i64 e115.Kind), .d (.int .i64 e115.Max), .d (.int .i64 e115.Topic), .d (.int .i64 e115.Objective), .d (.int .i64 e115.Options), .d (.int .i64 e115.Key)]) rfl (k_loadAgg 2 0 (hu := Try.underlying49) (hi := ty49)) ?_
             refine aP 1 (.ptr 0 0) rfl (k_fieldAddr 0 0 (hu := Try.underlying31) (hf := rfl) (hi := ty29)) ?_
             refine aQ 2 [0] (.d (.lit (List.map e_Li64 s0))) rfl (k_load 0 0 (hu := Try.underlying29)) ?_
             refine aP 3 (.d (.int .i64 x19)) rfl p_move ?_
             refine dIdx (fun e12 h16 h17 => ?_)
             refine aP 4 (.lptr (e_Li64 e12) 0) rfl (k_idxLit e_Li64_len s0 (a := e12) (k := .i64) (i := x19) (hu := Try.underlying29) (hi := ty22) (h0 := h16) (he := h17)) ?_
             refine aQ 5 [] (.d (.lit (List.map e_i64 e12))) rfl (k_loadL (cells := e_Li64 e12) 0 (hu := Try.underlying22)) ?_
             refine aP 6 (.d (.int .i64 e116)) rfl p_move ?_
             refine dCall (i := 7) (caps := []) (v := (fun (r12 : Bool) => (.d (.bool r12) : V))) (H' := (fun (r12 : Bool) => ([.box [.d (.lit (List.map e_Li64 s0)), .d (.lit (List.map e_i64 s1))], .sl 1 (List.map e_i64 xs11) false, .box [.d (.int .i64 e115.Kind), .d (.int .i64 e115.Max), .d (.int .i64 e115.Topic), .d (.int .i64 e115.Objective), .d (.int .i64 e115.Options), .d (.int .i64 e115.Key)]] : List Blk))) [] _ (scheme_accepts_goes k e115.Kind e115.Max e115.Topic e115.Objective e115.Options e115.Key e12 e116) rfl (ho := rfl) (hfn := Try.func44) (hb := rfl) (hconv := ConvRs.refl _ _) (hnd := by decide) (hBl := fun _ => (by kernel_rfl)) (hv := fun _ => (by kernel_rfl)) (hH' := fun _ => (by kernel_rfl)) (h := fun r12 => ?_)
             refine aP 8 (.d (.bool r12)) rfl p_assign ?_
             refine aDone (h := ?_)
             refine bSplit 69 (h1 := fun hc => ?_) (h2 := fun hc => ?_)
             ·refine oCondT (h := ?_)
              refine oRegion rfl ?_
              refine oP (.ref 1 (List.length xs11) 0 (List.length xs11)) p_move ?_
              refine oP (.ptr 2 1) (k_fieldAddr 2 0 (hu := Try.underlying49) (hf := rfl) (hi := ty3)) ?_
              refine oQ (.d (.int .i64 e115.Max)) (k_load 2 1 (hu := Try.underlying3)) ?_
              refine oD (.ref 3 (List.length ([e115.Max] : List Int)) 0 (List.length ([e115.Max] : List Int))) (k_buildSlice (H' := [.box [.d (.lit (List.map e_Li64 s0)), .d (.lit (List.map e_i64 s1))], .sl 1 (List.map e_i64 xs11) false, .box [.d (.int .i64 e115.Kind), .d (.int .i64 e115.Max), .d (.int .i64 e115.Topic), .d (.int .i64 e115.Objective), .d (.int .i64 e115.Options), .d (.int .i64 e115.Key)], .sl 1 (List.map e_i64 ([e115.Max] : List Int)) false]) (List.map e_i64 ([e115.Max] : List Int)) Try.underlying22 ty3) ?_
              refine bCap (fun h164 => ?_)
              refine oD (.ref 1 (List.length (xs11 ++ ([e115.Max] : List Int))) 0 (List.length (xs11 ++ ([e115.Max] : List Int)))) (k_append (H' := [.box [.d (.lit (List.map e_Li64 s0)), .d (.lit (List.map e_i64 s1))], .sl 1 (List.map e_i64 (xs11 ++ ([e115.Max] : List Int))) false, .box [.d (.int .i64 e115.Kind), .d (.int .i64 e115.Max), .d (.int .i64 e115.Topic), .d (.int .i64 e115.Objective), .d (.int .i64 e115.Options), .d (.int .i64 e115.Key)], .sl 1 (List.map e_i64 ([e115.Max] : List Int)) false]) (enc := e_i64) 1 xs11 ([e115.Max] : List Int) Try.underlying22 Try.underlying22 ty3 (hy := (holdsRef (enc := e_i64) 3 ([e115.Max] : List Int) false)) (hfit := h164)) ?_
              refine oP (.ref 1 (List.length (xs11 ++ ([e115.Max] : List Int))) 0 (List.length (xs11 ++ ([e115.Max] : List Int)))) p_assign ?_
              refine oEnd ?_
              refine oBlk ?_
              refine oBlk ?_
              refine oHead [2, 4, 8, 25, 26, 27] [0, 1] (T' := [(2, .d (.lit (List.map e_i64 answers))), (4, .ptr 0 0), (8, .ref 1 (List.length (xs11 ++ ([e115.Max] : List Int))) 0 (List.length (xs11 ++ ([e115.Max] : List Int)))), (25, .d (.lit (List.map e_SPart p2))), (26, .d (.int .i64 ((List.length p2) : Int))), (27, .d (.int .i64 x19))]) (H' := [.box [.d (.lit (List.map e_Li64 s0)), .d (.lit (List.map e_i64 s1))], .sl 1 (List.map e_i64 (xs11 ++ ([e115.Max] : List Int))) false]) (hnd := by decide) (h := ?_)
              exact hj9 (xs11 ++ ([e115.Max] : List Int))
             ·refine oCondF (h := ?_)
              refine oRegion rfl ?_
              refine oP (.ref 1 (List.length xs11) 0 (List.length xs11)) p_move ?_
              refine oD (.ref 3 (List.length ([0] : List Int)) 0 (List.length ([0] : List Int))) (k_buildSlice (H' := [.box [.d (.lit (List.map e_Li64 s0)), .d (.lit (List.map e_i64 s1))], .sl 1 (List.map e_i64 xs11) false, .box [.d (.int .i64 e115.Kind), .d (.int .i64 e115.Max), .d (.int .i64 e115.Topic), .d (.int .i64 e115.Objective), .d (.int .i64 e115.Options), .d (.int .i64 e115.Key)], .sl 1 (List.map e_i64 ([0] : List Int)) false]) (List.map e_i64 ([0] : List Int)) Try.underlying22 ty3) ?_
              refine bCap (fun h165 => ?_)
              refine oD (.ref 1 (List.length (xs11 ++ ([0] : List Int))) 0 (List.length (xs11 ++ ([0] : List Int)))) (k_append (H' := [.box [.d (.lit (List.map e_Li64 s0)), .d (.lit (List.map e_i64 s1))], .sl 1 (List.map e_i64 (xs11 ++ ([0] : List Int))) false, .box [.d (.int .i64 e115.Kind), .d (.int .i64 e115.Max), .d (.int .i64 e115.Topic), .d (.int .i64 e115.Objective), .d (.int .i64 e115.Options), .d (.int .i64 e115.Key)], .sl 1 (List.map e_i64 ([0] : List Int)) false]) (enc := e_i64) 1 xs11 ([0] : List Int) Try.underlying22 Try.underlying22 ty3 (hy := (holdsRef (enc := e_i64) 3 ([0] : List Int) false)) (hfit := h165)) ?_
              refine oP (.ref 1 (List.length (xs11 ++ ([0] : List Int))) 0 (List.length (xs11 ++ ([0] : List Int)))) p_assign ?_
              refine oEnd ?_
              refine oBlk ?_
              refine oBlk ?_
              refine oHead [2, 4, 8, 25, 26, 27] [0, 1] (T' := [(2, .d (.lit (List.map e_i64 answers))), (4, .ptr 0 0), (8, .ref 1 (List.length (xs11 ++ ([0] : List Int))) 0 (List.length (xs11 ++ ([0] : List Int)))), (25, .d (.lit (List.map e_SPart p2))), (26, .d (.int .i64 ((List.length p2) : Int))), (27, .d (.int .i64 x19))]) (H' := [.box [.d (.lit (List.map e_Li64 s0)), .d (.lit (List.map e_i64 s1))], .sl 1 (List.map e_i64 (xs11 ++ ([0] : List Int))) false]) (hnd := by decide) (h := ?_)
              exact hj9 (xs11 ++ ([0] : List Int))
          ·refine bSplit 53 (h1 := fun hc => ?_) (h2 := fun hc => ?_)
           ·refine oP (.d (.int .i64 e116)) p_move ?_
            refine oP (.d (.bool (decide (e116 < 0)))) (p_int (k := .i64) (p := e116) (q := 0)) ?_
            refine oP (.d (.bool (decide (e116 < 0)))) p_move ?_
            refine bMeetF (H' := [.box [.d (.lit (List.map e_Li64 s0)), .d (.lit (List.map e_i64 s1))], .sl 1 (List.map e_i64 xs11) false, .box [.d (.int .i64 e115.Kind), .d (.int .i64 e115.Max), .d (.int .i64 e115.Topic), .d (.int .i64 e115.Objective), .d (.int .i64 e115.Options), .d (.int .i64 e115.Key)]]) 5 rfl ((fun (x30 : Bool) => [(2, .d (.lit (List.map e_i64 answers))), (4, .ptr 0 0), (8, .ref 1 (List.length xs11) 0 (List.length xs11)), (9, .d (.int .i64 x19)), (10, .ptr 2 0), (11, .d (.int .i64 e116)), (25, .d (.lit (List.map e_SPart p2))), (26, .d (.int .i64 ((List.length p2) : Int))), (27, .d (.int .i64 x19)), (53, .d (.bool true)), (61, .d (.bool x30))])) (fun x30 => ?_) (fun F hj12 => ?_)
            ·refine oView (T' := [(2, .d (.lit (List.map e_i64 answers))), (4, .ptr 0 0), (8, .ref 1 (List.length xs11) 0 (List.length xs11)), (9, .d (.int .i64 x19)), (10, .ptr 2 0), (11, .d (.int .i64 e116)), (25, .d (.lit (List.map e_SPart p2))), (26, .d (.int .i64 ((List.length p2) : Int))), (27, .d (.int .i64 x19)), (53, .d (.bool true)), (61, .d (.bool x30))]) (H' := [.box [.d (.lit (List.map e_Li64 s0)), .d (.lit (List.map e_i64 s1))], .sl 1 (List.map e_i64 xs11) false, .box [.d (.int .i64 e115.Kind), .d (.int .i64 e115.Max), .d (.int .i64 e115.Topic), .d (.int .i64 e115.Objective), .d (.int .i64 e115.Options), .d (.int .i64 e115.Key)]]) (h := ?_)
             refine oP (.d (.bool x30)) (p_pick (b := true)) ?_
             refine oHead [2, 4, 8, 9, 10, 11, 25, 26, 27, 62] [0, 1, 2] (T' := [(2, .d (.lit (List.map e_i64 answers))), (4, .ptr 0 0), (8, .ref 1 (List.length xs11) 0 (List.length xs11)), (9, .d (.int .i64 x19)), (10, .ptr 2 0), (11, .d (.int .i64 e116)), (25, .d (.lit (List.map e_SPart p2))), (26, .d (.int .i64 ((List.length p2) : Int))), (27, .d (.int .i64 x19)), (62, .d (.bool x30))]) (H' := [.box [.d (.lit (List.map e_Li64 s0)), .d (.lit (List.map e_i64 s1))], .sl 1 (List.map e_i64 xs11) false, .box [.d (.int .i64 e115.Kind), .d (.int .i64 e115.Max), .d (.int .i64 e115.Topic), .d (.int .i64 e115.Objective), .d (.int .i64 e115.Options), .d (.int .i64 e115.Key)]]) (hnd := by decide) (h := ?_)
             exact hj11 x30
            ·refine bPickF 56 (fun c => F (c || (decide (e116 ≥ e115.Options)))) (h1 := fun hc => ?_) (h2 := fun hc => ?_)
             ·refine oNot (h := ?_)
              refine oNot (h := ?_)
              refine oNot (h := ?_)
              refine oNot (h := ?_)
              refine oP (.d (.bool true)) (p_pick (b := true)) ?_
              refine oHead [2, 4, 8, 9, 10, 11, 25, 26, 27, 53, 61] [0, 1, 2] (T' := [(2, .d (.lit (List.map e_i64 answers))), (4, .ptr 0 0), (8, .ref 1 (List.length xs11) 0 (List.length xs11)), (9, .d (.int .i64 x19)), (10, .ptr 2 0), (11, .d (.int .i64 e116)), (25, .d (.lit (List.map e_SPart p2))), (26, .d (.int .i64 ((List.length p2) : Int))), (27, .d (.int .i64 x19)), (53, .d (.bool true)), (61, .d (.bool true))]) (H' := [.box [.d (.lit (List.map e_Li64 s0)), .d (.lit (List.map e_i64 s1))], .sl 1 (List.map e_i64 xs11) false, .box [.d (.int .i64 e115.Kind), .d (.int .i64 e115.Max), .d (.int .i64 e115.Topic), .d (.int .i64 e115.Objective), .d (.int .i64 e115.Options), .d (.int .i64 e115.Key)]]) (hnd := by decide) (h := ?_)
              exact hj12 true
             ·refine oP (.d (.int .i64 e116)) p_move ?_
              refine oP (.ptr 2 4) (k_fieldAddr 2 0 (hu := Try.underlying49) (hf := rfl) (hi := ty3)) ?_
              refine oQ (.d (.int .i64 e115.Options)) (k_load 2 4 (hu := Try.underlying3)) ?_
              refine oP (.d (.bool (decide (e116 ≥ e115.Options)))) (p_int (k := .i64) (p := e116) (q := e115.Options)) ?_
              refine oP (.d (.bool (decide (e116 ≥ e115.Options)))) (p_pick (b := false)) ?_
              refine oHead [2, 4, 8, 9, 10, 11, 25, 26, 27, 53, 61] [0, 1, 2] (T' := [(2, .d (.lit (List.map e_i64 answers))), (4, .ptr 0 0), (8, .ref 1 (List.length xs11) 0 (List.length xs11)), (9, .d (.int .i64 x19)), (10, .ptr 2 0), (11, .d (.int .i64 e116)), (25, .d (.lit (List.map e_SPart p2))), (26, .d (.int .i64 ((List.length p2) : Int))), (27, .d (.int .i64 x19)), (53, .d (.bool true)), (61, .d (.bool (decide (e116 ≥ e115.Options))))]) (H' := [.box [.d (.lit (List.map e_Li64 s0)), .d (.lit (List.map e_i64 s1))], .sl 1 (List.map e_i64 xs11) false, .box [.d (.int .i64 e115.Kind), .d (.int .i64 e115.Max), .d (.int .i64 e115.Topic), .d (.int .i64 e115.Objective), .d (.int .i64 e115.Options), .d (.int .i64 e115.Key)]]) (hnd := by decide) (h := ?_)
              exact hj12 (decide (e116 ≥ e115.Options))
           ·refine oNot (h := ?_)
            refine oNot (h := ?_)
            refine oNot (h := ?_)
            refine oNot (h := ?_)
            refine oNot (h := ?_)
            refine oNot (h := ?_)
            refine oNot (h := ?_)
            refine oNot (h := ?_)
            refine oP (.d (.bool false)) (p_pick (b := false)) ?_
            refine oHead [2, 4, 8, 9, 10, 11, 25, 26, 27, 62] [0, 1, 2] (T' := [(2, .d (.lit (List.map e_i64 answers))), (4, .ptr 0 0), (8, .ref 1 (List.length xs11) 0 (List.length xs11)), (9, .d (.int .i64 x19)), (10, .ptr 2 0), (11, .d (.int .i64 e116)), (25, .d (.lit (List.map e_SPart p2))), (26, .d (.int .i64 ((List.length p2) : Int))), (27, .d (.int .i64 x19)), (62, .d (.bool false))]) (H' := [.box [.d (.lit (List.map e_Li64 s0)), .d (.lit (List.map e_i64 s1))], .sl 1 (List.map e_i64 xs11) false, .box [.d (.int .i64 e115.Kind), .d (.int .i64 e115.Max), .d (.int .i64 e115.Topic), .d (.int .i64 e115.Objective), .d (.int .i64 e115.Options), .d (.int .i64 e115.Key)]]) (hnd := by decide) (h := ?_)
            exact hj11 false
         ·refine bPickF 49 (fun c => F (c && (e116 != (-1)))) (h1 := fun hc => ?_) (h2 := fun hc => ?_)
          ·refine oP (.d (.int .i64 e116)) p_move ?_
           refine oP (.d (.bool (e116 != (-1)))) (p_int (k := .i64) (p := e116) (q := (-1))) ?_
           refine oP (.d (.bool (e116 != (-1)))) (p_pick (b := true)) ?_
           refine oHead [2, 4, 8, 9, 10, 11, 25, 26, 27, 52] [0, 1, 2] (T' := [(2, .d (.lit (List.map e_i64 answers))), (4, .ptr 0 0), (8, .ref 1 (List.length xs11) 0 (List.length xs11)), (9, .d (.int .i64 x19)), (10, .ptr 2 0), (11, .d (.int .i64 e116)), (25, .d (.lit (List.map e_SPart p2))), (26, .d (.int .i64 ((List.length p2) : Int))), (27, .d (.int .i64 x19)), (52, .d (.bool (e116 != (-1))))]) (H' := [.box [.d (.lit (List.map e_Li64 s0)), .d (.lit (List.map e_i64 s1))], .sl 1 (List.map e_i64 xs11) false, .box [.d (.int .i64 e115.Kind), .d (.int .i64 e115.Max), .d (.int .i64 e115.Topic), .d (.int .i64 e115.Objective), .d (.int .i64 e115.Options), .d (.int .i64 e115.Key)]]) (hnd := by decide) (h := ?_)
           exact hj10 (e116 != (-1))
          ·refine oNot (h := ?_)
           refine oNot (h := ?_)
           refine oP (.d (.bool false)) (p_pick (b := false)) ?_
           refine oHead [2, 4, 8, 9, 10, 11, 25, 26, 27, 52] [0, 1, 2] (T' := [(2, .d (.lit (List.map e_i64 answers))), (4, .ptr 0 0), (8, .ref 1 (List.length xs11) 0 (List.length xs11)), (9, .d (.int .i64 x19)), (10, .ptr 2 0), (11, .d (.int .i64 e116)), (25, .d (.lit (List.map e_SPart p2))), (26, .d (.int .i64 ((List.length p2) : Int))), (27, .d (.int .i64 x19)), (52, .d (.bool false))]) (H' := [.box [.d (.lit (List.map e_Li64 s0)), .d (.lit (List.map e_i64 s1))], .sl 1 (List.map e_i64 xs11) false, .box [.d (.int .i64 e115.Kind), .d (.int .i64 e115.Max), .d (.int .i64 e115.Topic), .d (.int .i64 e115.Objective), .d (.int .i64 e115.Options), .d (.int .i64 e115.Key)]]) (hnd := by decide) (h := ?_)
           exact hj10 false
      ·refine oCondF (h := ?_)
       refine oExit rfl ?_
       refine oHead [8] [1] (T' := [(8, .ref 0 (List.length xs11) 0 (List.length xs11))]) (H' := [.sl 1 (List.map e_i64 xs11) false]) (hnd := by decide) (h := ?_)
       exact hj6 xs11

/-- awardingbody/scheme.there -/
def scheme_there (k : Nat) (p0 : Int) (p1 : Int) (p2 : (List SPart)) (part : Int) : Option (Bool) := blet ((decide (part ≥ 0)) && (decide (part < ((List.length p2) : Int)))) fun x1 => some x1
def scheme_there_E (p0 : Int) (p1 : Int) (p2 : (List SPart)) (part : Int) : Bool → V × List Blk := fun r1 => (.d (.bool r1), [])
theorem scheme_there_goes (k : Nat) (p0 : Int) (p1 : Int) (p2 : (List SPart)) (part : Int) : RunsO Try.prog 48 [.agg [.d (.int .i64 p0), .d (.int .i64 p1), .d (.lit (List.map e_SPart p2))], .d (.int .i64 part)] [] (scheme_there_E p0 p1 p2 part) (scheme_there k p0 p1 p2 part) := by
  refine RunsO.of_goes (N := 14) (m := 0) (T := [(0, .agg [.d (.int .i64 p0), .d (.int .i64 p1), .d (.lit (List.map e_SPart p2))]), (1, .d (.int .i64 part))]) Try.func48 rfl rfl (h := ?_)
  unfold scheme_there
  refine bStart ?_
  refine oSR rfl ?_
  refine oD (.ptr 0 0) (k_box (H' := [.box [.d (.int .i64 p0), .d (.int .i64 p1), .d (.lit (List.map e_SPart p2))]]) (cells := [.d (.int .i64 p0), .d (.int .i64 p1), .d (.lit (List.map e_SPart p2))])) ?_
  refine oP (.d (.bool false)) p_assign ?_
  refine oEnd ?_
  refine oSR rfl ?_
  refine oP (.d (.int .i64 part)) p_move ?_
  refine oP (.d (.bool (decide (part ≥ 0)))) (p_int (k := .i64) (p := part) (q := 0)) ?_
  refine oP (.d (.bool (decide (part ≥ 0)))) p_move ?_
  refine bMeetF (H' := []) 6 rfl ((fun (x1 : Bool) => [(13, .d (.bool x1))])) (fun x1 => ?_) (fun F hj1 => ?_)
  ·refine oView (T' := [(13, .d (.bool x1))]) (H' := []) (h := ?_)
   refine oP (.d (.bool x1)) p_assign ?_
   refine oEnd ?_
   exact oRet (r0 := x1) (rv := .d (.bool x1)) (B := []) (vs := [.d (.bool x1)]) (σ := []) (hf := Try.func48) (hrs := rfl) (hres := .cons _ _ _ _ (.tmp 4 _ (by kernel_rfl)) .nil) (hnd := by decide)
  ·refine bPickF 7 (fun c => F (c && (decide (part < ((List.length p2) : Int))))) (h1 := fun hc => ?_) (h2 := fun hc => ?_)
   ·refine oP (.d (.int .i64 part)) p_move ?_
    refine oP (.ptr 0 2) (k_fieldAddr 0 0 (hu := Try.underlying27) (hf := rfl) (hi := ty25)) ?_
    refine oQ (.d (.lit (List.map e_SPart p2))) (k_load 0 2 (hu := Try.underlying25)) ?_
    refine oP (.d (.int .i64 ((List.length p2) : Int))) (k_lenLit (enc := e_SPart) p2 (hu := Try.underlying25)) ?_
    refine oP (.d (.bool (decide (part < ((List.length p2) : Int))))) (p_int (k := .i64) (p := part) (q := ((List.length p2) : Int))) ?_
    refine oP (.d (.bool (decide (part < ((List.length p2) : Int))))) (p_pick (b := true)) ?_
    refine oHead [13] [] (T' := [(13, .d (.bool (decide (part < ((List.length p2) : Int)))))]) (H' := []) (hnd := by decide) (h := ?_)
    exact hj1 (decide (part < ((List.length p2) : Int)))
   ·refine oNot (h := ?_)
    refine oNot (h := ?_)
    refine oNot (h := ?_)
    refine oNot (h := ?_)
    refine oNot (h := ?_)
    refine oP (.d (.bool false)) (p_pick (b := false)) ?_
    refine oHead [13] [] (T' := [(13, .d (.bool false))]) (H' := []) (hnd := by decide) (h := ?_)
    exact hj1 false

/-- slices.Clone[[]int,int] -/
def slices_Clone_int (k : Nat) (s1 : (List Int)) : Option ((List Int)) := gcap (List.length s1) 8 (some s1)
def slices_Clone_int_E (s1 : (List Int)) : (List Int) → V × List Blk := fun r1 => (.d (.lit (List.map e_i64 r1)), [])
theorem slices_Clone_int_goes (k : Nat) (s1 : (List Int)) : RunsO Try.prog 50 [.d (.lit (List.map e_i64 s1))] [] (slices_Clone_int_E s1) (slices_Clone_int k s1) := by
  refine RunsO.of_goes (N := 8) (m := 0) (T := [(0, .d (.lit (List.map e_i64 s1)))]) Try.func50 rfl rfl (h := ?_)
  unfold slices_Clone_int
  refine bStart ?_
  refine oSR rfl ?_
  refine oP (.nilc) p_assign ?_
  refine oEnd ?_
  refine oSeq ?_
  refine oSR rfl ?_
  refine oP (.d (.lit (List.map e_i64 s1))) p_move ?_
  refine oNil (xs := List.map e_i64 s1) Try.underlying22 (h := fun β hβ => ?_)
  cases β
  ·refine oEnd ?_
   refine oCondF (h := ?_)
   refine oSkip ?_
   refine oSR rfl ?_
   refine oD (.ref 0 (List.length ([] : List Int)) 0 (List.length ([] : List Int))) (k_buildSlice (H' := [.sl 1 (List.map e_i64 ([] : List Int)) false]) (List.map e_i64 ([] : List Int)) Try.underlying22 ty3) ?_
   refine oP (.d (.lit (List.map e_i64 s1))) p_move ?_
   refine bCap (fun h11 => ?_)
   refine oD (.ref 0 (List.length s1) 0 (List.length s1)) (k_append (H' := [.sl 1 (List.map e_i64 s1) false]) (enc := e_i64) 0 ([] : List Int) s1 Try.underlying22 Try.underlying22 ty3 (hy := holdsLit e_i64_len s1) (hfit := h11)) ?_
   refine oP (.ref 0 (List.length s1) 0 (List.length s1)) p_assign ?_
   refine oEnd ?_
   refine oFreeze 0 (esz := 1) (xs := List.map e_i64 s1) (h := ?_)
   refine oView (H' := [.sl 1 (List.map e_i64 s1) true]) rfl (h := ?_)
   refine oConv 2 (v := .ref 0 (List.length s1) 0 (List.length s1)) (v' := .d (.lit (List.map e_i64 s1))) (hc := k_lit (enc := e_i64) (sz := 1) 0 s1) (h := ?_)
   exact oRet (r0 := s1) (rv := .d (.lit (List.map e_i64 s1))) (B := []) (vs := [.d (.lit (List.map e_i64 s1))]) (σ := []) (hf := Try.func50) (hrs := rfl) (hres := .cons _ _ _ _ (.tmp 2 _ (by kernel_rfl)) .nil) (hnd := by decide)
  ·have hs0 : s1 = [] := by cases s1 with | nil => rfl | cons a0 l0 => exact absurd (hβ (by simp)) (by simp)
   subst hs0
   refine bCap (fun _ => ?_)
   refine oEnd ?_
   refine oCondT (h := ?_)
   refine oSR rfl ?_
   refine oP (.nilc) p_assign ?_
   refine oEnd ?_
   refine oConv 2 (v := .nilc) (v' := .d (.lit (List.map e_i64 []))) (hc := .nil) (h := ?_)
   exact oRet (r0 := []) (rv := .d (.lit (List.map e_i64 []))) (B := []) (vs := [.d (.lit (List.map e_i64 []))]) (σ := []) (hf := Try.func50) (hrs := rfl) (hres := .cons _ _ _ _ (.tmp 2 _ (by kernel_rfl)) .nil) (hnd := by decide)

/-- slices.Clone[[]int,int] -/
def slices_Clone_int_2 (k : Nat) (s1 : (List Int)) : Option ((List Int)) := gcap (List.length s1) 8 (some s1)
theorem slices_Clone_int_2_eq : slices_Clone_int_2 = slices_Clone_int := rfl
def slices_Clone_int_2_E (s1 : (List Int)) : (List Int) → V × List Blk := fun xs => (.ref 0 (List.length xs) 0 (List.length xs), [.sl 1 (List.map e_i64 xs) false])
theorem slices_Clone_int_2_goes (k : Nat) (s1 : (List Int)) : RunsO Try.prog 50 [.d (.lit (List.map e_i64 s1))] [] (slices_Clone_int_2_E s1) (slices_Clone_int_2 k s1) := by
  refine RunsO.of_goes (N := 8) (m := 0) (T := [(0, .d (.lit (List.map e_i64 s1)))]) Try.func50 rfl rfl (h := ?_)
  unfold slices_Clone_int_2
  refine bStart ?_
  refine oSR rfl ?_
  refine oP (.nilc) p_assign ?_
  refine oEnd ?_
  refine oSeq ?_
  refine oSR rfl ?_
  refine oP (.d (.lit (List.map e_i64 s1))) p_move ?_
  refine oNil (xs := List.map e_i64 s1) Try.underlying22 (h := fun β hβ => ?_)
  cases β
  ·refine oEnd ?_
   refine oCondF (h := ?_)
   refine oSkip ?_
   refine oSR rfl ?_
   refine oD (.ref 0 (List.length ([] : List Int)) 0 (List.length ([] : List Int))) (k_buildSlice (H' := [.sl 1 (List.map e_i64 ([] : List Int)) false]) (List.map e_i64 ([] : List Int)) Try.underlying22 ty3) ?_
   refine oP (.d (.lit (List.map e_i64 s1))) p_move ?_
   refine bCap (fun h11 => ?_)
   refine oD (.ref 0 (List.length s1) 0 (List.length s1)) (k_append (H' := [.sl 1 (List.map e_i64 s1) false]) (enc := e_i64) 0 ([] : List Int) s1 Try.underlying22 Try.underlying22 ty3 (hy := holdsLit e_i64_len s1) (hfit := h11)) ?_
   refine oP (.ref 0 (List.length s1) 0 (List.length s1)) p_assign ?_
   refine oEnd ?_
   exact oRet (r0 := s1) (rv := .ref 0 (List.length s1) 0 (List.length s1)) (B := [.sl 1 (List.map e_i64 s1) false]) (vs := [.ref 0 (List.length s1) 0 (List.length s1)]) (σ := [0]) (hf := Try.func50) (hrs := rfl) (hres := .cons _ _ _ _ (.tmp 2 _ (by kernel_rfl)) .nil) (hnd := by decide)
  ·have hs0 : s1 = [] := by cases s1 with | nil => rfl | cons a0 l0 => exact absurd (hβ (by simp)) (by simp)
   subst hs0
   refine bCap (fun _ => ?_)
   refine oEnd ?_
   refine oCondT (h := ?_)
   refine oSR rfl ?_
   refine oP (.nilc) p_assign ?_
   refine oEnd ?_
   refine oVirt (esz := 1) 2 (h := ?_)
   refine oView (H' := [.sl 1 (List.map e_i64 ([] : List Int)) false]) rfl (h := ?_)
   exact oRet (r0 := ([] : List Int)) (rv := .ref 0 (List.length ([] : List Int)) 0 (List.length ([] : List Int))) (B := [.sl 1 (List.map e_i64 ([] : List Int)) false]) (vs := [.ref 0 (List.length ([] : List Int)) 0 (List.length ([] : List Int))]) (σ := [0]) (hf := Try.func50) (hrs := rfl) (hres := .cons _ _ _ _ (.tmp 2 _ (by kernel_rfl)) .nil) (hnd := by decide)

/-- awardingbody/scheme.Withdraw -/
def scheme_Withdraw_b1 (k : Nat) (s0 : (List (List Int))) (again : Int × (List (List Int)) → Option ((List (List Int)))) : Int × (List (List Int)) → Option ((List (List Int))) := uc fun x4 => fun xs10 => bif (decide (x4 < ((List.length s0) : Int))) then gidx s0 x4 fun e115 => Option.bind (slices_Clone_int k e115) (fun r19 => gcap (List.length (xs10 ++ ([r19] : List (List Int)))) 24 (again ((IntKind.wrap .i64 (x4 + 1)), (xs10 ++ ([r19] : List (List Int)))))) else some xs10
def scheme_Withdraw (k : Nat) (p0 : Int) (p1 : Int) (p2 : (List SPart)) (s0 : (List (List Int))) (s1 : (List Int)) (part : Int) (kind : Int) : Option ((List (List Int)) × (List Int) × Int) := Option.bind (scheme_Valid k p0 p1 p2 s0 s1) (fun r116 => bif (!r116) then some ([], [], 1) else Option.bind (scheme_there k p0 p1 p2 part) (fun r119 => bif (!r119) then some ([], [], 4) else Option.bind (scheme_known k kind) (fun r121 => bif (!r121) then some ([], [], 2) else Option.bind (slices_Clone_int_2 k s1) (fun xs5 => Option.bind (gloop (scheme_Withdraw_b1 k s0) k (0, ([] : List (List Int))) : Option ((List (List Int)))) (fun xs8 => gidx xs5 part fun e19 => blet (List.set xs5 (Int.toNat part) kind) fun xs9 => some (xs8, xs9, 0))))))
def scheme_Withdraw_E (p0 : Int) (p1 : Int) (p2 : (List SPart)) (s0 : (List (List Int))) (s1 : (List Int)) (part : Int) (kind : Int) : (List (List Int)) × (List Int) × Int → V × List Blk := uc fun r110 => uc fun r111 => fun r112 => (.tuple [.agg [.d (.lit (List.map e_Li64 r110)), .d (.lit (List.map e_i64 r111))], .d (.int .i64 r112)], [])
theorem scheme_Withdraw_goes (k : Nat) (p0 : Int) (p1 : Int) (p2 : (List SPart)) (s0 : (List (List Int))) (s1 : (List Int)) (part : Int) (kind : Int) : RunsO Try.prog 26 [.agg [.d (.int .i64 p0), .d (.int .i64 p1), .d (.lit (List.map e_SPart p2))], .agg [.d (.lit (List.map e_Li64 s0)), .d (.lit (List.map e_i64 s1))], .d (.int .i64 part), .d (.int .i64 kind)] [] (scheme_Withdraw_E p0 p1 p2 s0 s1 part kind) (scheme_Withdraw k p0 p1 p2 s0 s1 part kind) := by
  refine RunsO.of_goes (N := 55) (m := 0) (T := [(0, .agg [.d (.int .i64 p0), .d (.int .i64 p1), .d (.lit (List.map e_SPart p2))]), (1, .agg [.d (.lit (List.map e_Li64 s0)), .d (.lit (List.map e_i64 s1))]), (2, .d (.int .i64 part)), (3, .d (.int .i64 kind))]) Try.func26 rfl rfl (h := ?_)
  unfold scheme_Withdraw
  refine bStart ?_
  refine oSR rfl ?_
  refine oD (.ptr 0 0) (k_box (H' := [.box [.d (.int .i64 p0), .d (.int .i64 p1), .d (.lit (List.map e_SPart p2))]]) (cells := [.d (.int .i64 p0), .d (.int .i64 p1), .d (.lit (List.map e_SPart p2))])) ?_
  refine oD (.ptr 1 0) (k_box (H' := [.box [.d (.int .i64 p0), .d (.int .i64 p1), .d (.lit (List.map e_SPart p2))], .box [.d (.lit (List.map e_Li64 s0)), .d (.lit (List.map e_i64 s1))]]) (cells := [.d (.lit (List.map e_Li64 s0)), .d (.lit (List.map e_i64 s1))])) ?_
  refine oD (.ptr 2 0) (k_alloc (H' := [.box [.d (.int .i64 p0), .d (.int .i64 p1), .d (.lit (List.map e_SPart p2))], .box [.d (.lit (List.map e_Li64 s0)), .d (.lit (List.map e_i64 s1))], .box [.nilc, .nilc]]) ty31) ?_
  refine oP (.d (.int .i64 0)) p_assign ?_
  refine oEnd ?_
  refine oSeq ?_
  refine oBlock ?_
  refine oSR rfl ?_
  refine oQ (.agg [.d (.int .i64 p0), .d (.int .i64 p1), .d (.lit (List.map e_SPart p2))]) (k_loadAgg 0 0 (hu := Try.underlying27) (hi := ty27)) ?_
  refine oQ (.agg [.d (.lit (List.map e_Li64 s0)), .d (.lit (List.map e_i64 s1))]) (k_loadAgg 1 0 (hu := Try.underlying31) (hi := ty31)) ?_
  refine bCall (caps := []) (v := (fun (r116 : Bool) => (.d (.bool r116) : V))) (H' := (fun (r116 : Bool) => ([.box [.d (.int .i64 p0), .d (.int .i64 p1), .d (.lit (List.map e_SPart p2))], .box [.d (.lit (List.map e_Li64 s0)), .d (.lit (List.map e_i64 s1))], .box [.nilc, .nilc]] : List Blk))) [] _ (scheme_Valid_goes k p0 p1 p2 s0 s1) (ho := rfl) (hfn := Try.func30) (hb := rfl) (hconv := ConvRs.refl _ _) (hnd := by decide) (hBl := fun _ => (by kernel_rfl)) (hv := fun _ => (by kernel_rfl)) (hH' := fun _ => (by kernel_rfl)) (h := fun r116 => ?_)
  refine oP (.d (.bool (!r116))) (p_not (p := r116)) ?_
  refine oP (.d (.bool (!r116))) p_assign ?_
  refine oEnd ?_
  refine bSplit 13 (h1 := fun hc => ?_) (h2 := fun hc => ?_)
  ·refine oCondT (h := ?_)
   refine oSR rfl ?_
   refine oP (.agg [.nilc, .nilc]) (p_build bld31) ?_
   refine oD (.undef) (k_store (vs := [.nilc, .nilc]) (H' := [.box [.d (.int .i64 p0), .d (.int .i64 p1), .d (.lit (List.map e_SPart p2))], .box [.d (.lit (List.map e_Li64 s0)), .d (.lit (List.map e_i64 s1))], .box [.nilc, .nilc]]) 2 0 (hi := ty31)) ?_
   refine oP (.d (.int .i64 1)) p_assign ?_
   refine oEnd ?_
   refine oConvB 2 (cells := [.nilc, .nilc]) (cells' := [.d (.lit (List.map e_Li64 [])), .d (.lit (List.map e_i64 []))]) (hc := .cons _ _ _ _ .nil (.cons _ _ _ _ .nil .nil)) (h := ?_)
   refine oView (H' := [.box [.d (.int .i64 p0), .d (.int .i64 p1), .d (.lit (List.map e_SPart p2))], .box [.d (.lit (List.map e_Li64 s0)), .d (.lit (List.map e_i64 s1))], .box [.d (.lit (List.map e_Li64 [])), .d (.lit (List.map e_i64 []))]]) rfl (h := ?_)
   exact oRet (r0 := ([], [], 1)) (rv := .tuple [.agg [.d (.lit (List.map e_Li64 [])), .d (.lit (List.map e_i64 []))], .d (.int .i64 1)]) (B := []) (vs := [.agg [.d (.lit (List.map e_Li64 [])), .d (.lit (List.map e_i64 []))], .d (.int .i64 1)]) (σ := []) (hf := Try.func26) (hrs := rfl) (hres := .cons _ _ _ _ (.agg 8 31 2 0 [.d (.lit (List.map e_Li64 [])), .d (.lit (List.map e_i64 []))] [.d (.lit (List.map e_Li64 [])), .d (.lit (List.map e_i64 []))] _ _ _ _ (by kernel_rfl) (by kernel_rfl) Try.underlying31 (by kernel_rfl) ty31 (by kernel_rfl) (by kernel_rfl)) (.cons _ _ _ _ (.tmp 9 _ (by kernel_rfl)) .nil)) (hnd := by decide)
  ·refine oCondF (h := ?_)
   refine oSR rfl ?_
   refine oQ (.agg [.d (.int .i64 p0), .d (.int .i64 p1), .d (.lit (List.map e_SPart p2))]) (k_loadAgg 0 0 (hu := Try.underlying27) (hi := ty27)) ?_
   refine oP (.d (.int .i64 part)) p_move ?_
   refine bCall (caps := []) (v := (fun (r119 : Bool) => (.d (.bool r119) : V))) (H' := (fun (r119 : Bool) => ([.box [.d (.int .i64 p0), .d (.int .i64 p1), .d (.lit (List.map e_SPart p2))], .box [.d (.lit (List.map e_Li64 s0)), .d (.lit (List.map e_i64 s1))], .box [.nilc, .nilc]] : List Blk))) [] _ (scheme_there_goes k p0 p1 p2 part) (ho := rfl) (hfn := Try.func48) (hb := rfl) (hconv := ConvRs.refl _ _) (hnd := by decide) (hBl := fun _ => (by kernel_rfl)) (hv := fun _ => (by kernel_rfl)) (hH' := fun _ => (by kernel_rfl)) (h := fun r119 => ?_)
   refine oP (.d (.bool (!r119))) (p_not (p := r119)) ?_
   refine oP (.d (.bool (!r119))) p_assign ?_
   refine oEnd ?_
   refine bSplit 19 (h1 := fun hc => ?_) (h2 := fun hc => ?_)
   ·refine oCondT (h := ?_)
    refine oSR rfl ?_
    refine oP (.agg [.nilc, .nilc]) (p_build bld31) ?_
    refine oD (.undef) (k_store (vs := [.nilc, .nilc]) (H' := [.box [.d (.int .i64 p0), .d (.int .i64 p1), .d (.lit (List.map e_SPart p2))], .box [.d (.lit (List.map e_Li64 s0)), .d (.lit (List.map e_i64 s1))], .box [.nilc, .nilc]]) 2 0 (hi := ty31)) ?_
    refine oP (.d (.int .i64 4)) p_assign ?_
    refine oEnd ?_
    refine oConvB 2 (cells := [.nilc, .nilc]) (cells' := [.d (.lit (List.map e_Li64 [])), .d (.lit (List.map e_i64 []))]) (hc := .cons _ _ _ _ .nil (.cons _ _ _ _ .nil .nil)) (h := ?_)
    refine oView (H' := [.box [.d (.int .i64 p0), .d (.int .i64 p1), .d (.lit (List.map e_SPart p2))], .box [.d (.lit (List.map e_Li64 s0)), .d (.lit (List.map e_i64 s1))], .box [.d (.lit (List.map e_Li64 [])), .d (.lit (List.map e_i64 []))]]) rfl (h := ?_)
    exact oRet (r0 := ([], [], 4)) (rv := .tuple [.agg [.d (.lit (List.map e_Li64 [])), .d (.lit (List.map e_i64 []))], .d (.int .i64 4)]) (B := []) (vs := [.agg [.d (.lit (List.map e_Li64 [])), .d (.lit (List.map e_i64 []))], .d (.int .i64 4)]) (σ := []) (hf := Try.func26) (hrs := rfl) (hres := .cons _ _ _ _ (.agg 8 31 2 0 [.d (.lit (List.map e_Li64 [])), .d (.lit (List.map e_i64 []))] [.d (.lit (List.map e_Li64 [])), .d (.lit (List.map e_i64 []))] _ _ _ _ (by kernel_rfl) (by kernel_rfl) Try.underlying31 (by kernel_rfl) ty31 (by kernel_rfl) (by kernel_rfl)) (.cons _ _ _ _ (.tmp 9 _ (by kernel_rfl)) .nil)) (hnd := by decide)
   ·refine oCondF (h := ?_)
    refine oSR rfl ?_
    refine oP (.d (.int .i64 kind)) p_move ?_
    refine bCall (caps := []) (v := (fun (r121 : Bool) => (.d (.bool r121) : V))) (H' := (fun (r121 : Bool) => ([.box [.d (.int .i64 p0), .d (.int .i64 p1), .d (.lit (List.map e_SPart p2))], .box [.d (.lit (List.map e_Li64 s0)), .d (.lit (List.map e_i64 s1))], .box [.nilc, .nilc]] : List Blk))) [] _ (scheme_known_goes k kind) (ho := rfl) (hfn := Try.func49) (hb := rfl) (hconv := ConvRs.refl _ _) (hnd := by decide) (hBl := fun _ => (by kernel_rfl)) (hv := fun _ => (by kernel_rfl)) (hH' := fun _ => (by kernel_rfl)) (h := fun r121 => ?_)
    refine oP (.d (.bool (!r121))) (p_not (p := r121)) ?_
    refine oP (.d (.bool (!r121))) p_assign ?_
    refine oEnd ?_
    refine bSplit 25 (h1 := fun hc => ?_) (h2 := fun hc => ?_)
    ·refine oCondT (h := ?_)
     refine oSR rfl ?_
     refine oP (.agg [.nilc, .nilc]) (p_build bld31) ?_
     refine oD (.undef) (k_store (vs := [.nilc, .nilc]) (H' := [.box [.d (.int .i64 p0), .d (.int .i64 p1), .d (.lit (List.map e_SPart p2))], .box [.d (.lit (List.map e_Li64 s0)), .d (.lit (List.map e_i64 s1))], .box [.nilc, .nilc]]) 2 0 (hi := ty31)) ?_
     refine oP (.d (.int .i64 2)) p_assign ?_
     refine oEnd ?_
     refine oConvB 2 (cells := [.nilc, .nilc]) (cells' := [.d (.lit (List.map e_Li64 [])), .d (.lit (List.map e_i64 []))]) (hc := .cons _ _ _ _ .nil (.cons _ _ _ _ .nil .nil)) (h := ?_)
     refine oView (H' := [.box [.d (.int .i64 p0), .d (.int .i64 p1), .d (.lit (List.map e_SPart p2))], .box [.d (.lit (List.map e_Li64 s0)), .d (.lit (List.map e_i64 s1))], .box [.d (.lit (List.map e_Li64 [])), .d (.lit (List.map e_i64 []))]]) rfl (h := ?_)
     exact oRet (r0 := ([], [], 2)) (rv := .tuple [.agg [.d (.lit (List.map e_Li64 [])), .d (.lit (List.map e_i64 []))], .d (.int .i64 2)]) (B := []) (vs := [.agg [.d (.lit (List.map e_Li64 [])), .d (.lit (List.map e_i64 []))], .d (.int .i64 2)]) (σ := []) (hf := Try.func26) (hrs := rfl) (hres := .cons _ _ _ _ (.agg 8 31 2 0 [.d (.lit (List.map e_Li64 [])), .d (.lit (List.map e_i64 []))] [.d (.lit (List.map e_Li64 [])), .d (.lit (List.map e_i64 []))] _ _ _ _ (by kernel_rfl) (by kernel_rfl) Try.underlying31 (by kernel_rfl) ty31 (by kernel_rfl) (by kernel_rfl)) (.cons _ _ _ _ (.tmp 9 _ (by kernel_rfl)) .nil)) (hnd := by decide)
    ·refine oCondF (h := ?_)
     refine oSkip ?_
     refine oBlk ?_
     refine oSR rfl ?_
     refine oP (.ptr 1 1) (k_fieldAddr 1 0 (hu := Try.underlying31) (hf := rfl) (hi := ty22)) ?_
     refine oQ (.d (.lit (List.map e_i64 s1))) (k_load 1 1 (hu := Try.underlying22)) ?_
     refine bCall (caps := []) (v := (fun (xs5 : (List Int)) => (.ref 3 (List.length xs5) 0 (List.length xs5) : V))) (H' := (fun (xs5 : (List Int)) => ([.box [.d (.int .i64 p0), .d (.int .i64 p1), .d (.lit (List.map e_SPart p2))], .box [.d (.lit (List.map e_Li64 s0)), .d (.lit (List.map e_i64 s1))], .box [.nilc, .nilc], .sl 1 (List.map e_i64 xs5) false] : List Blk))) [] _ (slices_Clone_int_2_goes k s1) (ho := rfl) (hfn := Try.func50) (hb := rfl) (hconv := ConvRs.refl _ _) (hnd := by decide) (hBl := fun _ => (by kernel_rfl)) (hv := fun _ => (by kernel_rfl)) (hH' := fun _ => (by kernel_rfl)) (h := fun xs5 => ?_)
     refine oP (.agg [.nilc, .ref 3 (List.length xs5) 0 (List.length xs5)]) (p_build bld31) ?_
     refine oD (.ptr 4 0) (k_alloc (H' := [.box [.d (.int .i64 p0), .d (.int .i64 p1), .d (.lit (List.map e_SPart p2))], .box [.d (.lit (List.map e_Li64 s0)), .d (.lit (List.map e_i64 s1))], .box [.nilc, .nilc], .sl 1 (List.map e_i64 xs5) false, .box [.nilc, .nilc]]) ty31) ?_
     refine oD (.undef) (k_store (vs := [.nilc, .ref 3 (List.length xs5) 0 (List.length xs5)]) (H' := [.box [.d (.int .i64 p0), .d (.int .i64 p1), .d (.lit (List.map e_SPart p2))], .box [.d (.lit (List.map e_Li64 s0)), .d (.lit (List.map e_i64 s1))], .box [.nilc, .nilc], .sl 1 (List.map e_i64 xs5) false, .box [.nilc, .ref 3 (List.length xs5) 0 (List.length xs5)]]) 4 0 (hi := ty31)) ?_
     refine oEnd ?_
     refine oSeq ?_
     refine oSR rfl ?_
     refine oP (.ptr 1 0) (k_fieldAddr 1 0 (hu := Try.underlying31) (hf := rfl) (hi := ty29)) ?_
     refine oQ (.d (.lit (List.map e_Li64 s0))) (k_load 1 0 (hu := Try.underlying29)) ?_
     refine oP (.d (.int .i64 ((List.length s0) : Int))) (k_lenLit (enc := e_Li64) s0 (hu := Try.underlying29)) ?_
     refine oP (.d (.int .i64 0)) p_move ?_
     refine oEnd ?_
     refine bJoin ((fun (xs8 : (List (List Int))) => [(2, .d (.int .i64 part)), (3, .d (.int .i64 kind)), (8, .ptr 0 0), (10, .ptr 1 0)])) ((fun (xs8 : (List (List Int))) => [.box [.nilc, .nilc], .box [.ref 2 (List.length xs8) 0 (List.length xs8), .ref 3 (List.length xs5) 0 (List.length xs5)], .sl 1 (List.map e_Li64 xs8) false, .sl 1 (List.map e_i64 xs5) false])) (fun s => s) (fun xs8 => ?_) (fun hj2 => ?_)
     ·refine oView (T' := [(2, .d (.int .i64 part)), (3, .d (.int .i64 kind)), (8, .ptr 0 0), (10, .ptr 1 0)]) (H' := [.box [.nilc, .nilc], .box [.ref 2 (List.length xs8) 0 (List.length xs8), .ref 3 (List.length xs5) 0 (List.length xs5)], .sl 1 (List.map e_Li64 xs8) false, .sl 1 (List.map e_i64 xs5) false]) (h := ?_)
      refine oSR rfl ?_
      refine oP (.ptr 1 1) (k_fieldAddr 1 0 (hu := Try.underlying31) (hf := rfl) (hi := ty22)) ?_
      refine oQ (.ref 3 (List.length xs5) 0 (List.length xs5)) (k_load 1 1 (hu := Try.underlying22)) ?_
      refine oP (.d (.int .i64 part)) p_move ?_
      refine oP (.d (.int .i64 kind)) p_move ?_
      refine bIdx (fun e19 h119 h120 => ?_)
      refine oP (.eptr 3 (List.length xs5) (Int.toNat part) 0) (k_idxRef (enc := e_i64) (fro := false) xs5 (a := e19) (k := .i64) (i := part) (hu := Try.underlying22) (hi := ty3) (h0 := h119) (he := h120)) ?_
      refine bSet _ (fun xs9 hs1 => ?_)
      refine oD (.undef) (k_storeE (H' := [.box [.nilc, .nilc], .box [.ref 2 (List.length xs8) 0 (List.length xs8), .ref 3 (List.length xs5) 0 (List.length xs5)], .sl 1 (List.map e_Li64 xs8) false, .sl 1 (List.map e_i64 xs9) false]) 3 0 xs5 kind [(.int .i64 kind)] e_i64_len (he := h120) (hi := ty3) (hxs := hs1)) ?_
      refine oHead [8, 10] [0, 1, 2, 3] (T' := [(8, .ptr 0 0), (10, .ptr 1 0)]) (H' := [.box [.nilc, .nilc], .box [.ref 2 (List.length xs8) 0 (List.length xs8), .ref 3 (List.length xs5) 0 (List.length xs5)], .sl 1 (List.map e_Li64 xs8) false, .sl 1 (List.map e_i64 xs9) false]) (hnd := by decide) (h := ?_)
      refine oView (T' := [(8, .ptr 0 0), (10, .ptr 1 0)]) (H' := [.box [.nilc, .nilc], .box [.ref 2 (List.length xs8) 0 (List.length xs8), .ref 3 (List.length xs9) 0 (List.length xs9)], .sl 1 (List.map e_Li64 xs8) false, .sl 1 (List.map e_i64 xs9) false]) (by first | rw [(set_len hs1)] | rfl) (by first | rw [(set_len hs1)] | rfl) ?_
      refine oEnd ?_
      refine oSR rfl ?_
      refine oQ (.agg [.ref 2 (List.length xs8) 0 (List.length xs8), .ref 3 (List.length xs9) 0 (List.length xs9)]) (k_loadAgg 1 0 (hu := Try.underlying31) (hi := ty31)) ?_
      refine oD (.undef) (k_store (vs := [.ref 2 (List.length xs8) 0 (List.length xs8), .ref 3 (List.length xs9) 0 (List.length xs9)]) (H' := [.box [.ref 2 (List.length xs8) 0 (List.length xs8), .ref 3 (List.length xs9) 0 (List.length xs9)], .box [.ref 2 (List.length xs8) 0 (List.length xs8), .ref 3 (List.length xs9) 0 (List.length xs9)], .sl 1 (List.map e_Li64 xs8) false, .sl 1 (List.map e_i64 xs9) false]) 0 0 (hi := ty31)) ?_
      refine oP (.d (.int .i64 0)) p_assign ?_
      refine oEnd ?_
      refine oFreeze 2 (esz := 1) (xs := List.map e_Li64 xs8) (h := ?_)
      refine oView (H' := [.box [.ref 2 (List.length xs8) 0 (List.length xs8), .ref 3 (List.length xs9) 0 (List.length xs9)], .box [.ref 2 (List.length xs8) 0 (List.length xs8), .ref 3 (List.length xs9) 0 (List.length xs9)], .sl 1 (List.map e_Li64 xs8) true, .sl 1 (List.map e_i64 xs9) false]) rfl (h := ?_)
      refine oFreeze 3 (esz := 1) (xs := List.map e_i64 xs9) (h := ?_)
      refine oView (H' := [.box [.ref 2 (List.length xs8) 0 (List.length xs8), .ref 3 (List.length xs9) 0 (List.length xs9)], .box [.ref 2 (List.length xs8) 0 (List.length xs8), .ref 3 (List.length xs9) 0 (List.length xs9)], .sl 1 (List.map e_Li64 xs8) true, .sl 1 (List.map e_i64 xs9) true]) rfl (h := ?_)
      refine oConvB 0 (cells := [.ref 2 (List.length xs8) 0 (List.length xs8), .ref 3 (List.length xs9) 0 (List.length xs9)]) (cells' := [.d (.lit (List.map e_Li64 xs8)), .d (.lit (List.map e_i64 xs9))]) (hc := .cons _ _ _ _ (k_lit (enc := e_Li64) (sz := 1) 2 xs8) (.cons _ _ _ _ (k_lit (enc := e_i64) (sz := 1) 3 xs9) .nil)) (h := ?_)
      refine oView (H' := [.box [.d (.lit (List.map e_Li64 xs8)), .d (.lit (List.map e_i64 xs9))], .box [.ref 2 (List.length xs8) 0 (List.length xs8), .ref 3 (List.length xs9) 0 (List.length xs9)], .sl 1 (List.map e_Li64 xs8) true, .sl 1 (List.map e_i64 xs9) true]) rfl (h := ?_)
      exact oRet (r0 := (xs8, xs9, 0)) (rv := .tuple [.agg [.d (.lit (List.map e_Li64 xs8)), .d (.lit (List.map e_i64 xs9))], .d (.int .i64 0)]) (B := []) (vs := [.agg [.d (.lit (List.map e_Li64 xs8)), .d (.lit (List.map e_i64 xs9))], .d (.int .i64 0)]) (σ := []) (hf := Try.func26) (hrs := rfl) (hres := .cons _ _ _ _ (.agg 8 31 0 0 [.d (.lit (List.map e_Li64 xs8)), .d (.lit (List.map e_i64 xs9))] [.d (.lit (List.map e_Li64 xs8)), .d (.lit (List.map e_i64 xs9))] _ _ _ _ (by kernel_rfl) (by kernel_rfl) Try.underlying31 (by kernel_rfl) ty31 (by kernel_rfl) (by kernel_rfl)) (.cons _ _ _ _ (.tmp 9 _ (by kernel_rfl)) .nil)) (hnd := by decide)
     ·refine oBlock ?_
      refine oLoop ?_
      refine oVirtB (esz := 1) 4 0 (cells := [.nilc, .ref 3 (List.length xs5) 0 (List.length xs5)]) (h := ?_)
      refine oView (H' := [.box [.d (.int .i64 p0), .d (.int .i64 p1), .d (.lit (List.map e_SPart p2))], .box [.d (.lit (List.map e_Li64 s0)), .d (.lit (List.map e_i64 s1))], .box [.nilc, .nilc], .sl 1 (List.map e_i64 xs5) false, .box [.ref 5 (List.length ([] : List (List Int))) 0 (List.length ([] : List (List Int))), .ref 3 (List.length xs5) 0 (List.length xs5)], .sl 1 (List.map e_Li64 ([] : List (List Int))) false]) rfl (h := ?_)
      refine oHead [2, 3, 8, 10, 35, 36, 37] [2, 4, 5, 3] (T' := [(2, .d (.int .i64 part)), (3, .d (.int .i64 kind)), (8, .ptr 0 0), (10, .ptr 1 0), (35, .d (.lit (List.map e_Li64 s0))), (36, .d (.int .i64 ((List.length s0) : Int))), (37, .d (.int .i64 0))]) (H' := [.box [.nilc, .nilc], .box [.ref 2 (List.length ([] : List (List Int))) 0 (List.length ([] : List (List Int))), .ref 3 (List.length xs5) 0 (List.length xs5)], .sl 1 (List.map e_Li64 ([] : List (List Int))) false, .sl 1 (List.map e_i64 xs5) false]) (hnd := by decide) (h := ?_)
      refine bLoop (body := scheme_Withdraw_b1 k s0) ((uc fun (x4 : Int) => (fun (xs10 : (List (List Int))) => [(2, .d (.int .i64 part)), (3, .d (.int .i64 kind)), (8, .ptr 0 0), (10, .ptr 1 0), (35, .d (.lit (List.map e_Li64 s0))), (36, .d (.int .i64 ((List.length s0) : Int))), (37, .d (.int .i64 x4))]))) ((uc fun (x4 : Int) => (fun (xs10 : (List (List Int))) => [.box [.nilc, .nilc], .box [.ref 2 (List.length xs10) 0 (List.length xs10), .ref 3 (List.length xs5) 0 (List.length xs5)], .sl 1 (List.map e_Li64 xs10) false, .sl 1 (List.map e_i64 xs5) false]))) (fun again hag1 s => ?_) k (0, ([] : List (List Int)))
      ·unfold scheme_Withdraw_b1
       obtain ⟨x4, xs10⟩ := s
       refine bUc ?_
       refine oView (T' := [(2, .d (.int .i64 part)), (3, .d (.int .i64 kind)), (8, .ptr 0 0), (10, .ptr 1 0), (35, .d (.lit (List.map e_Li64 s0))), (36, .d (.int .i64 ((List.length s0) : Int))), (37, .d (.int .i64 x4))]) (H' := [.box [.nilc, .nilc], .box [.ref 2 (List.length xs10) 0 (List.length xs10), .ref 3 (List.length xs5) 0 (List.length xs5)], .sl 1 (List.map e_Li64 xs10) false, .sl 1 (List.map e_i64 xs5) false]) (h := ?_)
       refine oSR rfl ?_
       refine oP (.d (.bool (decide (x4 < ((List.length s0) : Int))))) (p_int (k := .i64) (p := x4) (q := ((List.length s0) : Int))) ?_
       refine oEnd ?_
       refine oSeq ?_
       refine bSplit 38 (h1 := fun hc => ?_) (h2 := fun hc => ?_)
       ·refine oCondT (h := ?_)
        refine oSkip ?_
        refine oSeq ?_
        refine oBlock ?_
        refine oSR rfl ?_
        refine bIdx (fun e115 h131 h132 => ?_)
        refine oP (.lptr (e_Li64 e115) 0) (k_idxLit e_Li64_len s0 (a := e115) (k := .i64) (i := x4) (hu := Try.underlying29) (hi := ty22) (h0 := h131) (he := h132)) ?_
        refine oQ (.d (.lit (List.map e_i64 e115))) (k_loadL (cells := e_Li64 e115) 0 (hu := Try.underlying22)) ?_
        refine oP (.d (.lit (List.map e_i64 e115))) p_assign ?_
        refine oEnd ?_
        refine oDraw [(0, 8), (1, 7), (2, 5), (3, 8)] rfl ?_
        refine aP 0 (.ptr 1 0) rfl (k_fieldAddr 1 0 (hu := Try.underlying31) (hf := rfl) (hi := ty29)) ?_
        refine aQ 1 [1] (.ref 2 (List.length xs10) 0 (List.length xs10)) rfl (k_load 1 0 (hu := Try.underlying29)) ?_
        refine aP 2 (.d (.lit (List.map e_i64 e115))) rfl p_move ?_
        refine dCall (i := 3) (caps := []) (v := (fun (r19 : (List Int)) => (.d (.lit (List.map e_i64 r19)) : V))) (H' := (fun (r19 : (List Int)) => ([.box [.nilc, .nilc], .box [.ref 2 (List.length xs10) 0 (List.length xs10), .ref 3 (List.length xs5) 0 (List.length xs5)], .sl 1 (List.map e_Li64 xs10) false, .sl 1 (List.map e_i64 xs5) false] : List Blk))) [] _ (slices_Clone_int_goes k e115) rfl (ho := rfl) (hfn := Try.func50) (hb := rfl) (hconv := ConvRs.refl _ _) (hnd := by decide) (hBl := fun _ => (by kernel_rfl)) (hv := fun _ => (by kernel_rfl)) (hH' := fun _ => (by kernel_rfl)) (h := fun r19 => ?_)
        refine aOne (i := 4) (v := .ref 4 (List.length ([r19] : List (List Int))) 0 (List.length ([r19] : List (List Int)))) rfl (hac := (Does.acts (k_buildSlice (H' := [.box [.nilc, .nilc], .box [.ref 2 (List.length xs10) 0 (List.length xs10), .ref 3 (List.length xs5) 0 (List.length xs5)], .sl 1 (List.map e_Li64 xs10) false, .sl 1 (List.map e_i64 xs5) false, .sl 1 (List.map e_Li64 ([r19] : List (List Int))) false]) (List.map e_Li64 ([r19] : List (List Int))) Try.underlying29 ty22))) (h := ?_)
        refine dCap (fun h12 => ?_)
        refine aOne (i := 5) (v := .ref 2 (List.length (xs10 ++ ([r19] : List (List Int)))) 0 (List.length (xs10 ++ ([r19] : List (List Int))))) rfl (hac := (Does.acts (k_append (H' := [.box [.nilc, .nilc], .box [.ref 2 (List.length xs10) 0 (List.length xs10), .ref 3 (List.length xs5) 0 (List.length xs5)], .sl 1 (List.map e_Li64 (xs10 ++ ([r19] : List (List Int)))) false, .sl 1 (List.map e_i64 xs5) false, .sl 1 (List.map e_Li64 ([r19] : List (List Int))) false]) (enc := e_Li64) 2 xs10 ([r19] : List (List Int)) Try.underlying29 Try.underlying29 ty22 (hy := (holdsRef (enc := e_Li64) 4 ([r19] : List (List Int)) false)) (hfit := h12)))) (h := ?_)
        refine aP 6 (.ptr 1 0) rfl (k_fieldAddr 1 0 (hu := Try.underlying31) (hf := rfl) (hi := ty29)) ?_
        refine aOne (i := 7) (v := .undef) rfl (hac := (Does.acts (k_store (vs := [.ref 2 (List.length (xs10 ++ ([r19] : List (List Int)))) 0 (List.length (xs10 ++ ([r19] : List (List Int))))]) (H' := [.box [.nilc, .nilc], .box [.ref 2 (List.length (xs10 ++ ([r19] : List (List Int)))) 0 (List.length (xs10 ++ ([r19] : List (List Int)))), .ref 3 (List.length xs5) 0 (List.length xs5)], .sl 1 (List.map e_Li64 (xs10 ++ ([r19] : List (List Int)))) false, .sl 1 (List.map e_i64 xs5) false, .sl 1 (List.map e_Li64 ([r19] : List (List Int))) false]) 1 0 (hi := ty29)))) (h := ?_)
        refine aDone (h := ?_)
        refine oBlk ?_
        refine oRegion rfl ?_
        refine oP (.d (.int .i64 (IntKind.wrap .i64 (x4 + 1)))) (p_int (k := .i64) (p := x4) (q := 1)) ?_
        refine oP (.d (.int .i64 (IntKind.wrap .i64 (x4 + 1)))) p_move ?_
        refine oEnd ?_
        refine oAgain ?_
        refine oHead [2, 3, 8, 10, 35, 36, 37] [0, 1, 2, 3] (T' := [(2, .d (.int .i64 part)), (3, .d (.int .i64 kind)), (8, .ptr 0 0), (10, .ptr 1 0), (35, .d (.lit (List.map e_Li64 s0))), (36, .d (.int .i64 ((List.length s0) : Int))), (37, .d (.int .i64 (IntKind.wrap .i64 (x4 + 1))))]) (H' := [.box [.nilc, .nilc], .box [.ref 2 (List.length (xs10 ++ ([r19] : List (List Int)))) 0 (List.length (xs10 ++ ([r19] : List (List Int)))), .ref 3 (List.length xs5) 0 (List.length xs5)], .sl 1 (List.map e_Li64 (xs10 ++ ([r19] : List (List Int)))) false, .sl 1 (List.map e_i64 xs5) false]) (hnd := by decide) (h := ?_)
        exact hag1 ((IntKind.wrap .i64 (x4 + 1)), (xs10 ++ ([r19] : List (List Int))))
       ·refine oCondF (h := ?_)
        refine oExit rfl ?_
        refine oHead [2, 3, 8, 10] [0, 1, 2, 3] (T' := [(2, .d (.int .i64 part)), (3, .d (.int .i64 kind)), (8, .ptr 0 0), (10, .ptr 1 0)]) (H' := [.box [.nilc, .nilc], .box [.ref 2 (List.length xs10) 0 (List.length xs10), .ref 3 (List.length xs5) 0 (List.length xs5)], .sl 1 (List.map e_Li64 xs10) false, .sl 1 (List.map e_i64 xs5) false]) (hnd := by decide) (h := ?_)
        exact hj2 xs10

/-- awardingbody/awardingbodyref06.Ints -/
def ref06_Ints_b1 (k : Nat) (a : (List Int)) (b : (List Int)) (again : Int → Option ((Unit) ⊕ (Bool))) : Int → Option ((Unit) ⊕ (Bool)) := fun i4 => bif (decide (i4 < ((List.length a) : Int))) then gidx a i4 fun e1 => gidx b i4 fun e11 => bif (e1 != e11) then some (Sum.inr false) else again (IntKind.wrap .i64 (i4 + 1)) else some (Sum.inl ())
def ref06_Ints (k : Nat) (a : (List Int)) (b : (List Int)) : Option (Bool) := bif (((List.length a) : Int) != ((List.length b) : Int)) then some false else Option.bind (gloop (ref06_Ints_b1 k a b) k 0 : Option ((Unit) ⊕ (Bool))) (Sum.elim (u0 (some true)) (fun r => some r))
def ref06_Ints_E (a : (List Int)) (b : (List Int)) : Bool → V × List Blk := fun r1 => (.d (.bool r1), [])
theorem ref06_Ints_goes (k : Nat) (a : (List Int)) (b : (List Int)) : RunsO Try.prog 18 [.d (.lit (List.map e_i64 a)), .d (.lit (List.map e_i64 b))] [] (ref06_Ints_E a b) (ref06_Ints k a b) := by
  refine RunsO.of_goes (N := 26) (m := 0) (T := [(0, .d (.lit (List.map e_i64 a))), (1, .d (.lit (List.map e_i64 b)))]) Try.func18 rfl rfl (h := ?_)
  unfold ref06_Ints
  refine bStart ?_
  refine oSR rfl ?_
  refine oP (.d (.bool false)) p_assign ?_
  refine oEnd ?_
  refine oSeq ?_
  refine oSR rfl ?_
  refine oP (.d (.lit (List.map e_i64 a))) p_move ?_
  refine oP (.d (.int .i64 ((List.length a) : Int))) (k_lenLit (enc := e_i64) a (hu := Try.underlying22)) ?_
  refine oP (.d (.lit (List.map e_i64 b))) p_move ?_
  refine oP (.d (.int .i64 ((List.length b) : Int))) (k_lenLit (enc := e_i64) b (hu := Try.underlying22)) ?_
  refine oP (.d (.bool (((List.length a) : Int) != ((List.length b) : Int)))) (p_int (k := .i64) (p := ((List.length a) : Int)) (q := ((List.length b) : Int))) ?_
  refine oEnd ?_
  refine bSplit 10 (h1 := fun hc => ?_) (h2 := fun hc => ?_)
  ·refine oCondT (h := ?_)
   refine oSR rfl ?_
   refine oP (.d (.bool false)) p_assign ?_
   refine oEnd ?_
   exact oRet (r0 := false) (rv := .d (.bool false)) (B := []) (vs := [.d (.bool false)]) (σ := []) (hf := Try.func18) (hrs := rfl) (hres := .cons _ _ _ _ (.tmp 4 _ (by kernel_rfl)) .nil) (hnd := by decide)
  ·refine oCondF (h := ?_)
   refine oSkip ?_
   refine oSeq ?_
   refine oSR rfl ?_
   refine oP (.d (.int .i64 0)) p_assign ?_
   refine oEnd ?_
   refine bJoin ((u0 ([]))) ((u0 ([]))) Sum.inl (fun s => ?_) (fun hj2 => ?_)
   ·cases s
    refine bInl ?_
    refine bU0 ?_
    refine oView (T' := []) (H' := []) (h := ?_)
    refine oSR rfl ?_
    refine oP (.d (.bool true)) p_assign ?_
    refine oEnd ?_
    exact oRet (r0 := true) (rv := .d (.bool true)) (B := []) (vs := [.d (.bool true)]) (σ := []) (hf := Try.func18) (hrs := rfl) (hres := .cons _ _ _ _ (.tmp 4 _ (by kernel_rfl)) .nil) (hnd := by decide)
   ·refine oBlock ?_
    refine oLoop ?_
    refine oHead [0, 1, 5] [] (T' := [(0, .d (.lit (List.map e_i64 a))), (1, .d (.lit (List.map e_i64 b))), (5, .d (.int .i64 0))]) (H' := []) (hnd := by decide) (h := ?_)
    refine bLoop (body := ref06_Ints_b1 k a b) ((fun (i4 : Int) => [(0, .d (.lit (List.map e_i64 a))), (1, .d (.lit (List.map e_i64 b))), (5, .d (.int .i64 i4))])) ((fun (i4 : Int) => [])) (fun again hag1 i4 => ?_) k 0
    ·unfold ref06_Ints_b1
     refine oView (T' := [(0, .d (.lit (List.map e_i64 a))), (1, .d (.lit (List.map e_i64 b))), (5, .d (.int .i64 i4))]) (H' := []) (h := ?_)
     refine oSeq ?_
     refine oSR rfl ?_
     refine oP (.d (.int .i64 i4)) p_move ?_
     refine oP (.d (.lit (List.map e_i64 a))) p_move ?_
     refine oP (.d (.int .i64 ((List.length a) : Int))) (k_lenLit (enc := e_i64) a (hu := Try.underlying22)) ?_
     refine oP (.d (.bool (decide (i4 < ((List.length a) : Int))))) (p_int (k := .i64) (p := i4) (q := ((List.length a) : Int))) ?_
     refine oEnd ?_
     refine bSplit 14 (h1 := fun hc => ?_) (h2 := fun hc => ?_)
     ·refine oCondT (h := ?_)
      refine oSkip ?_
      refine oSeq ?_
      refine oBlock ?_
      refine oSeq ?_
      refine oDraw [] rfl ?_
      refine aP 0 (.d (.lit (List.map e_i64 a))) rfl p_move ?_
      refine aP 1 (.d (.int .i64 i4)) rfl p_move ?_
      refine dIdx (fun e1 h1 h11 => ?_)
      refine aP 2 (.lptr (e_i64 e1) 0) rfl (k_idxLit e_i64_len a (a := e1) (k := .i64) (i := i4) (hu := Try.underlying22) (hi := ty3) (h0 := h1) (he := h11)) ?_
      refine aQ 3 [] (.d (.int .i64 e1)) rfl (k_loadL (cells := e_i64 e1) 0 (hu := Try.underlying3)) ?_
      refine aP 4 (.d (.lit (List.map e_i64 b))) rfl p_move ?_
      refine aP 5 (.d (.int .i64 i4)) rfl p_move ?_
      refine dIdx (fun e11 h12 h13 => ?_)
      refine aP 6 (.lptr (e_i64 e11) 0) rfl (k_idxLit e_i64_len b (a := e11) (k := .i64) (i := i4) (hu := Try.underlying22) (hi := ty3) (h0 := h12) (he := h13)) ?_
      refine aQ 7 [] (.d (.int .i64 e11)) rfl (k_loadL (cells := e_i64 e11) 0 (hu := Try.underlying3)) ?_
      refine aP 8 (.d (.bool (e1 != e11))) rfl (p_int (k := .i64) (p := e1) (q := e11)) ?_
      refine aDone (h := ?_)
      refine bSplit 25 (h1 := fun hc => ?_) (h2 := fun hc => ?_)
      ·refine oCondT (h := ?_)
       refine oSR rfl ?_
       refine oP (.d (.bool false)) p_assign ?_
       refine oEnd ?_
       exact oRet (r0 := false) (rv := .d (.bool false)) (B := []) (vs := [.d (.bool false)]) (σ := []) (hf := Try.func18) (hrs := rfl) (hres := .cons _ _ _ _ (.tmp 4 _ (by kernel_rfl)) .nil) (hnd := by decide)
      ·refine oCondF (h := ?_)
       refine oSkip ?_
       refine oBlk ?_
       refine oRegion rfl ?_
       refine oP (.d (.int .i64 i4)) p_move ?_
       refine oP (.d (.int .i64 (IntKind.wrap .i64 (i4 + 1)))) (p_int (k := .i64) (p := i4) (q := 1)) ?_
       refine oP (.d (.int .i64 (IntKind.wrap .i64 (i4 + 1)))) p_assign ?_
       refine oEnd ?_
       refine oAgain ?_
       refine oHead [0, 1, 5] [] (T' := [(0, .d (.lit (List.map e_i64 a))), (1, .d (.lit (List.map e_i64 b))), (5, .d (.int .i64 (IntKind.wrap .i64 (i4 + 1))))]) (H' := []) (hnd := by decide) (h := ?_)
       exact hag1 (IntKind.wrap .i64 (i4 + 1))
     ·refine oCondF (h := ?_)
      refine oExit rfl ?_
      refine oHead [] [] (T' := []) (H' := []) (hnd := by decide) (h := ?_)
      exact hj2 ()

/-- awardingbody/awardingbodylaw23.awake -/
def law23_awake (k : Nat) : Option (Bool) := Option.bind (scheme_Closed k 0 0 ([(⟨1, 4, 0, 0, 0, 0⟩ : SPart), (⟨2, 1, 0, 0, 4, 2⟩ : SPart)] : List SPart) ([[], []] : List (List Int)) ([0, 0] : List Int) ([(-1), 2] : List Int)) (uc fun r133 => fun r142 => Option.bind (scheme_Total k 0 0 ([(⟨1, 4, 0, 0, 0, 0⟩ : SPart), (⟨2, 1, 0, 0, 4, 2⟩ : SPart)] : List SPart) ([[], []] : List (List Int)) ([0, 0] : List Int) ([3, 1] : List Int)) (uc fun r134 => fun r143 => Option.bind (scheme_Withdraw k 0 0 ([(⟨1, 4, 0, 0, 0, 0⟩ : SPart), (⟨2, 1, 0, 0, 4, 2⟩ : SPart)] : List SPart) ([[], []] : List (List Int)) ([0, 0] : List Int) 1 2) (uc fun r1101 => uc fun r1111 => fun r1121 => Option.bind (scheme_Maximum k 0 0 ([(⟨1, 4, 0, 0, 0, 0⟩ : SPart), (⟨2, 1, 0, 0, 4, 2⟩ : SPart)] : List SPart) r1101 r1111) (uc fun r113 => fun r135 => Option.bind (bif (r142 == 0) then Option.bind (ref06_Ints k r133 ([(-2), 1] : List Int)) (fun r16 => some r16) else some false : Option (Bool)) (fun x6 => blet (x6 && (r143 == 0)) fun x7 => blet (x7 && (r134 == 4)) fun x8 => blet (x8 && (r1121 == 0)) fun x9 => blet (x9 && (r135 == 0)) fun x10 => blet (x10 && (r113 == 4)) fun x11 => some x11)))))
def law23_awake_E : Bool → V × List Blk := fun r12 => (.d (.bool r12), [])
theorem law23_awake_goes (k : Nat) : RunsO Try.prog 19 [] [] (law23_awake_E) (law23_awake k) := by
  refine RunsO.of_goes (N := 71) (m := 0) (T := []) Try.func19 rfl rfl (h := ?_)
  unfold law23_awake
  refine bStart ?_
  refine oSR rfl ?_
  refine oP (.d (.bool false)) p_assign ?_
  refine oEnd ?_
  refine oSR rfl ?_
  refine oP (.agg [.d (.int .i64 1), .d (.int .i64 4), .d (.int .i64 0), .d (.int .i64 0), .d (.int .i64 0), .d (.int .i64 0)]) (p_build bld49) ?_
  refine oP (.agg [.d (.int .i64 2), .d (.int .i64 1), .d (.int .i64 0), .d (.int .i64 0), .d (.int .i64 4), .d (.int .i64 2)]) (p_build bld49) ?_
  refine oD (.ref 0 (List.length ([(⟨1, 4, 0, 0, 0, 0⟩ : SPart), (⟨2, 1, 0, 0, 4, 2⟩ : SPart)] : List SPart)) 0 (List.length ([(⟨1, 4, 0, 0, 0, 0⟩ : SPart), (⟨2, 1, 0, 0, 4, 2⟩ : SPart)] : List SPart))) (k_buildSlice (H' := [.sl 6 (List.map e_SPart ([(⟨1, 4, 0, 0, 0, 0⟩ : SPart), (⟨2, 1, 0, 0, 4, 2⟩ : SPart)] : List SPart)) false]) (List.map e_SPart ([(⟨1, 4, 0, 0, 0, 0⟩ : SPart), (⟨2, 1, 0, 0, 4, 2⟩ : SPart)] : List SPart)) Try.underlying25 ty49) ?_
  refine oP (.agg [.d (.int .i64 0), .d (.int .i64 0), .ref 0 (List.length ([(⟨1, 4, 0, 0, 0, 0⟩ : SPart), (⟨2, 1, 0, 0, 4, 2⟩ : SPart)] : List SPart)) 0 (List.length ([(⟨1, 4, 0, 0, 0, 0⟩ : SPart), (⟨2, 1, 0, 0, 4, 2⟩ : SPart)] : List SPart))]) (p_build bld27) ?_
  refine oD (.ptr 1 0) (k_alloc (H' := [.sl 6 (List.map e_SPart ([(⟨1, 4, 0, 0, 0, 0⟩ : SPart), (⟨2, 1, 0, 0, 4, 2⟩ : SPart)] : List SPart)) false, .box [.d (.int .i64 0), .d (.int .i64 0), .nilc]]) ty27) ?_
  refine oD (.undef) (k_store (vs := [.d (.int .i64 0), .d (.int .i64 0), .ref 0 (List.length ([(⟨1, 4, 0, 0, 0, 0⟩ : SPart), (⟨2, 1, 0, 0, 4, 2⟩ : SPart)] : List SPart)) 0 (List.length ([(⟨1, 4, 0, 0, 0, 0⟩ : SPart), (⟨2, 1, 0, 0, 4, 2⟩ : SPart)] : List SPart))]) (H' := [.sl 6 (List.map e_SPart ([(⟨1, 4, 0, 0, 0, 0⟩ : SPart), (⟨2, 1, 0, 0, 4, 2⟩ : SPart)] : List SPart)) false, .box [.d (.int .i64 0), .d (.int .i64 0), .ref 0 (List.length ([(⟨1, 4, 0, 0, 0, 0⟩ : SPart), (⟨2, 1, 0, 0, 4, 2⟩ : SPart)] : List SPart)) 0 (List.length ([(⟨1, 4, 0, 0, 0, 0⟩ : SPart), (⟨2, 1, 0, 0, 4, 2⟩ : SPart)] : List SPart))]]) 1 0 (hi := ty27)) ?_
  refine oEnd ?_
  refine oSR rfl ?_
  refine oD (.ref 2 (List.length ([[], []] : List (List Int))) 0 (List.length ([[], []] : List (List Int)))) (k_buildSlice (H' := [.sl 6 (List.map e_SPart ([(⟨1, 4, 0, 0, 0, 0⟩ : SPart), (⟨2, 1, 0, 0, 4, 2⟩ : SPart)] : List SPart)) false, .box [.d (.int .i64 0), .d (.int .i64 0), .ref 0 (List.length ([(⟨1, 4, 0, 0, 0, 0⟩ : SPart), (⟨2, 1, 0, 0, 4, 2⟩ : SPart)] : List SPart)) 0 (List.length ([(⟨1, 4, 0, 0, 0, 0⟩ : SPart), (⟨2, 1, 0, 0, 4, 2⟩ : SPart)] : List SPart))], .sl 1 (List.map e_Li64 ([[], []] : List (List Int))) false]) (List.map e_Li64 ([[], []] : List (List Int))) Try.underlying29 ty22) ?_
  refine oD (.ref 3 (List.length ([0, 0] : List Int)) 0 (List.length ([0, 0] : List Int))) (k_buildSlice (H' := [.sl 6 (List.map e_SPart ([(⟨1, 4, 0, 0, 0, 0⟩ : SPart), (⟨2, 1, 0, 0, 4, 2⟩ : SPart)] : List SPart)) false, .box [.d (.int .i64 0), .d (.int .i64 0), .ref 0 (List.length ([(⟨1, 4, 0, 0, 0, 0⟩ : SPart), (⟨2, 1, 0, 0, 4, 2⟩ : SPart)] : List SPart)) 0 (List.length ([(⟨1, 4, 0, 0, 0, 0⟩ : SPart), (⟨2, 1, 0, 0, 4, 2⟩ : SPart)] : List SPart))], .sl 1 (List.map e_Li64 ([[], []] : List (List Int))) false, .sl 1 (List.map e_i64 ([0, 0] : List Int)) false]) (List.map e_i64 ([0, 0] : List Int)) Try.underlying22 ty3) ?_
  refine oP (.agg [.ref 2 (List.length ([[], []] : List (List Int))) 0 (List.length ([[], []] : List (List Int))), .ref 3 (List.length ([0, 0] : List Int)) 0 (List.length ([0, 0] : List Int))]) (p_build bld31) ?_
  refine oD (.ptr 4 0) (k_alloc (H' := [.sl 6 (List.map e_SPart ([(⟨1, 4, 0, 0, 0, 0⟩ : SPart), (⟨2, 1, 0, 0, 4, 2⟩ : SPart)] : List SPart)) false, .box [.d (.int .i64 0), .d (.int .i64 0), .ref 0 (List.length ([(⟨1, 4, 0, 0, 0, 0⟩ : SPart), (⟨2, 1, 0, 0, 4, 2⟩ : SPart)] : List SPart)) 0 (List.length ([(⟨1, 4, 0, 0, 0, 0⟩ : SPart), (⟨2, 1, 0, 0, 4, 2⟩ : SPart)] : List SPart))], .sl 1 (List.map e_Li64 ([[], []] : List (List Int))) false, .sl 1 (List.map e_i64 ([0, 0] : List Int)) false, .box [.nilc, .nilc]]) ty31) ?_
  refine oD (.undef) (k_store (vs := [.ref 2 (List.length ([[], []] : List (List Int))) 0 (List.length ([[], []] : List (List Int))), .ref 3 (List.length ([0, 0] : List Int)) 0 (List.length ([0, 0] : List Int))]) (H' := [.sl 6 (List.map e_SPart ([(⟨1, 4, 0, 0, 0, 0⟩ : SPart), (⟨2, 1, 0, 0, 4, 2⟩ : SPart)] : List SPart)) false, .box [.d (.int .i64 0), .d (.int .i64 0), .ref 0 (List.length ([(⟨1, 4, 0, 0, 0, 0⟩ : SPart), (⟨2, 1, 0, 0, 4, 2⟩ : SPart)] : List SPart)) 0 (List.length ([(⟨1, 4, 0, 0, 0, 0⟩ : SPart), (⟨2, 1, 0, 0, 4, 2⟩ : SPart)] : List SPart))], .sl 1 (List.map e_Li64 ([[], []] : List (List Int))) false, .sl 1 (List.map e_i64 ([0, 0] : List Int)) false, .box [.ref 2 (List.length ([[], []] : List (List Int))) 0 (List.length ([[], []] : List (List Int))), .ref 3 (List.length ([0, 0] : List Int)) 0 (List.length ([0, 0] : List Int))]]) 4 0 (hi := ty31)) ?_
  refine oEnd ?_
  refine oSR rfl ?_
  refine oQ (.agg [.d (.int .i64 0), .d (.int .i64 0), .ref 0 (List.length ([(⟨1, 4, 0, 0, 0, 0⟩ : SPart), (⟨2, 1, 0, 0, 4, 2⟩ : SPart)] : List SPart)) 0 (List.length ([(⟨1, 4, 0, 0, 0, 0⟩ : SPart), (⟨2, 1, 0, 0, 4, 2⟩ : SPart)] : List SPart))]) (k_loadAgg 1 0 (hu := Try.underlying27) (hi := ty27)) ?_
  refine oQ (.agg [.ref 2 (List.length ([[], []] : List (List Int))) 0 (List.length ([[], []] : List (List Int))), .ref 3 (List.length ([0, 0] : List Int)) 0 (List.length ([0, 0] : List Int))]) (k_loadAgg 4 0 (hu := Try.underlying31) (hi := ty31)) ?_
  refine oD (.ref 5 (List.length ([(-1), 2] : List Int)) 0 (List.length ([(-1), 2] : List Int))) (k_buildSlice (H' := [.sl 6 (List.map e_SPart ([(⟨1, 4, 0, 0, 0, 0⟩ : SPart), (⟨2, 1, 0, 0, 4, 2⟩ : SPart)] : List SPart)) false, .box [.d (.int .i64 0), .d (.int .i64 0), .ref 0 (List.length ([(⟨1, 4, 0, 0, 0, 0⟩ : SPart), (⟨2, 1, 0, 0, 4, 2⟩ : SPart)] : List SPart)) 0 (List.length ([(⟨1, 4, 0, 0, 0, 0⟩ : SPart), (⟨2, 1, 0, 0, 4, 2⟩ : SPart)] : List SPart))], .sl 1 (List.map e_Li64 ([[], []] : List (List Int))) false, .sl 1 (List.map e_i64 ([0, 0] : List Int)) false, .box [.ref 2 (List.length ([[], []] : List (List Int))) 0 (List.length ([[], []] : List (List Int))), .ref 3 (List.length ([0, 0] : List Int)) 0 (List.length ([0, 0] : List Int))], .sl 1 (List.map e_i64 ([(-1), 2] : List Int)) false]) (List.map e_i64 ([(-1), 2] : List Int)) Try.underlying22 ty3) ?_
  refine oFreeze 0 (esz := 6) (xs := List.map e_SPart ([(⟨1, 4, 0, 0, 0, 0⟩ : SPart), (⟨2, 1, 0, 0, 4, 2⟩ : SPart)] : List SPart)) (h := ?_)
  refine oView (H' := [.sl 6 (List.map e_SPart ([(⟨1, 4, 0, 0, 0, 0⟩ : SPart), (⟨2, 1, 0, 0, 4, 2⟩ : SPart)] : List SPart)) true, .box [.d (.int .i64 0), .d (.int .i64 0), .ref 0 (List.length ([(⟨1, 4, 0, 0, 0, 0⟩ : SPart), (⟨2, 1, 0, 0, 4, 2⟩ : SPart)] : List SPart)) 0 (List.length ([(⟨1, 4, 0, 0, 0, 0⟩ : SPart), (⟨2, 1, 0, 0, 4, 2⟩ : SPart)] : List SPart))], .sl 1 (List.map e_Li64 ([[], []] : List (List Int))) false, .sl 1 (List.map e_i64 ([0, 0] : List Int)) false, .box [.ref 2 (List.length ([[], []] : List (List Int))) 0 (List.length ([[], []] : List (List Int))), .ref 3 (List.length ([0, 0] : List Int)) 0 (List.length ([0, 0] : List Int))], .sl 1 (List.map e_i64 ([(-1), 2] : List Int)) false]) rfl (h := ?_)
  refine oFreeze 2 (esz := 1) (xs := List.map e_Li64 ([[], []] : List (List Int))) (h := ?_)
  refine oView (H' := [.sl 6 (List.map e_SPart ([(⟨1, 4, 0, 0, 0, 0⟩ : SPart), (⟨2, 1, 0, 0, 4, 2⟩ : SPart)] : List SPart)) true, .box [.d (.int .i64 0), .d (.int .i64 0), .ref 0 (List.length ([(⟨1, 4, 0, 0, 0, 0⟩ : SPart), (⟨2, 1, 0, 0, 4, 2⟩ : SPart)] : List SPart)) 0 (List.length ([(⟨1, 4, 0, 0, 0, 0⟩ : SPart), (⟨2, 1, 0, 0, 4, 2⟩ : SPart)] : List SPart))], .sl 1 (List.map e_Li64 ([[], []] : List (List Int))) true, .sl 1 (List.map e_i64 ([0, 0] : List Int)) false, .box [.ref 2 (List.length ([[], []] : List (List Int))) 0 (List.length ([[], []] : List (List Int))), .ref 3 (List.length ([0, 0] : List Int)) 0 (List.length ([0, 0] : List Int))], .sl 1 (List.map e_i64 ([(-1), 2] : List Int)) false]) rfl (h := ?_)
  refine oFreeze 3 (esz := 1) (xs := List.map e_i64 ([0, 0] : List Int)) (h := ?_)
  refine oView (H' := [.sl 6 (List.map e_SPart ([(⟨1, 4, 0, 0, 0, 0⟩ : SPart), (⟨2, 1, 0, 0, 4, 2⟩ : SPart)] : List SPart)) true, .box [.d (.int .i64 0), .d (.int .i64 0), .ref 0 (List.length ([(⟨1, 4, 0, 0, 0, 0⟩ : SPart), (⟨2, 1, 0, 0, 4, 2⟩ : SPart)] : List SPart)) 0 (List.length ([(⟨1, 4, 0, 0, 0, 0⟩ : SPart), (⟨2, 1, 0, 0, 4, 2⟩ : SPart)] : List SPart))], .sl 1 (List.map e_Li64 ([[], []] : List (List Int))) true, .sl 1 (List.map e_i64 ([0, 0] : List Int)) true, .box [.ref 2 (List.length ([[], []] : List (List Int))) 0 (List.length ([[], []] : List (List Int))), .ref 3 (List.length ([0, 0] : List Int)) 0 (List.length ([0, 0] : List Int))], .sl 1 (List.map e_i64 ([(-1), 2] : List Int)) false]) rfl (h := ?_)
  refine oFreeze 5 (esz := 1) (xs := List.map e_i64 ([(-1), 2] : List Int)) (h := ?_)
  refine oView (H' := [.sl 6 (List.map e_SPart ([(⟨1, 4, 0, 0, 0, 0⟩ : SPart), (⟨2, 1, 0, 0, 4, 2⟩ : SPart)] : List SPart)) true, .box [.d (.int .i64 0), .d (.int .i64 0), .ref 0 (List.length ([(⟨1, 4, 0, 0, 0, 0⟩ : SPart), (⟨2, 1, 0, 0, 4, 2⟩ : SPart)] : List SPart)) 0 (List.length ([(⟨1, 4, 0, 0, 0, 0⟩ : SPart), (⟨2, 1, 0, 0, 4, 2⟩ : SPart)] : List SPart))], .sl 1 (List.map e_Li64 ([[], []] : List (List Int))) true, .sl 1 (List.map e_i64 ([0, 0] : List Int)) true, .box [.ref 2 (List.length ([[], []] : List (List Int))) 0 (List.length ([[], []] : List (List Int))), .ref 3 (List.length ([0, 0] : List Int)) 0 (List.length ([0, 0] : List Int))], .sl 1 (List.map e_i64 ([(-1), 2] : List Int)) true]) rfl (h := ?_)
  refine bCall (caps := []) (v := (uc fun (r133 : (List Int)) => (fun (r142 : Int) => (.tuple [.d (.lit (List.map e_i64 r133)), .d (.int .i64 r142)] : V)))) (H' := (uc fun (r133 : (List Int)) => (fun (r142 : Int) => ([.sl 6 (List.map e_SPart ([(⟨1, 4, 0, 0, 0, 0⟩ : SPart), (⟨2, 1, 0, 0, 4, 2⟩ : SPart)] : List SPart)) true, .box [.d (.int .i64 0), .d (.int .i64 0), .ref 0 (List.length ([(⟨1, 4, 0, 0, 0, 0⟩ : SPart), (⟨2, 1, 0, 0, 4, 2⟩ : SPart)] : List SPart)) 0 (List.length ([(⟨1, 4, 0, 0, 0, 0⟩ : SPart), (⟨2, 1, 0, 0, 4, 2⟩ : SPart)] : List SPart))], .sl 1 (List.map e_Li64 ([[], []] : List (List Int))) true, .sl 1 (List.map e_i64 ([0, 0] : List Int)) true, .box [.ref 2 (List.length ([[], []] : List (List Int))) 0 (List.length ([[], []] : List (List Int))), .ref 3 (List.length ([0, 0] : List Int)) 0 (List.length ([0, 0] : List Int))], .sl 1 (List.map e_i64 ([(-1), 2] : List Int)) true] : List Blk)))) [] _ (scheme_Closed_goes k 0 0 ([(⟨1, 4, 0, 0, 0, 0⟩ : SPart), (⟨2, 1, 0, 0, 4, 2⟩ : SPart)] : List SPart) ([[], []] : List (List Int)) ([0, 0] : List Int) ([(-1), 2] : List Int)) (ho := rfl) (hfn := Try.func16) (hb := rfl) (hconv := (convList (vs0 := [.agg [.d (.int .i64 0), .d (.int .i64 0), .ref 0 (List.length ([(⟨1, 4, 0, 0, 0, 0⟩ : SPart), (⟨2, 1, 0, 0, 4, 2⟩ : SPart)] : List SPart)) 0 (List.length ([(⟨1, 4, 0, 0, 0, 0⟩ : SPart), (⟨2, 1, 0, 0, 4, 2⟩ : SPart)] : List SPart))], .agg [.ref 2 (List.length ([[], []] : List (List Int))) 0 (List.length ([[], []] : List (List Int))), .ref 3 (List.length ([0, 0] : List Int)) 0 (List.length ([0, 0] : List Int))], .ref 5 (List.length ([(-1), 2] : List Int)) 0 (List.length ([(-1), 2] : List Int))]) (vs := [.agg [.d (.int .i64 0), .d (.int .i64 0), .d (.lit (List.map e_SPart ([(⟨1, 4, 0, 0, 0, 0⟩ : SPart), (⟨2, 1, 0, 0, 4, 2⟩ : SPart)] : List SPart)))], .agg [.d (.lit (List.map e_Li64 ([[], []] : List (List Int)))), .d (.lit (List.map e_i64 ([0, 0] : List Int)))], .d (.lit (List.map e_i64 ([(-1), 2] : List Int)))]) (p := (.cons _ _ _ _ (.agg _ _ (.cons _ _ _ _ (.same _) (.cons _ _ _ _ (.same _) (.cons _ _ _ _ (k_lit (enc := e_SPart) (sz := 6) 0 ([(⟨1, 4, 0, 0, 0, 0⟩ : SPart), (⟨2, 1, 0, 0, 4, 2⟩ : SPart)] : List SPart)) .nil)))) (.cons _ _ _ _ (.agg _ _ (.cons _ _ _ _ (k_lit (enc := e_Li64) (sz := 1) 2 ([[], []] : List (List Int))) (.cons _ _ _ _ (k_lit (enc := e_i64) (sz := 1) 3 ([0, 0] : List Int)) .nil))) (.cons _ _ _ _ (k_lit (enc := e_i64) (sz := 1) 5 ([(-1), 2] : List Int)) .nil)))))) (hnd := by decide) (hBl := fun _ => (by kernel_rfl)) (hv := fun _ => (by kernel_rfl)) (hH' := fun _ => (by kernel_rfl)) (h := fun r => ?_)
  obtain ⟨r133, r142⟩ := r
  refine bUc ?_
  refine oP (.tuple [.d (.lit (List.map e_i64 r133)), .d (.int .i64 r142)]) p_move ?_
  refine oP (.d (.lit (List.map e_i64 r133))) k_extract ?_
  refine oP (.d (.int .i64 r142)) k_extract ?_
  refine oP (.d (.lit (List.map e_i64 r133))) p_assign ?_
  refine oP (.d (.int .i64 r142)) p_assign ?_
  refine oEnd ?_
  refine oSR rfl ?_
  refine oQ (.agg [.d (.int .i64 0), .d (.int .i64 0), .ref 0 (List.length ([(⟨1, 4, 0, 0, 0, 0⟩ : SPart), (⟨2, 1, 0, 0, 4, 2⟩ : SPart)] : List SPart)) 0 (List.length ([(⟨1, 4, 0, 0, 0, 0⟩ : SPart), (⟨2, 1, 0, 0, 4, 2⟩ : SPart)] : List SPart))]) (k_loadAgg 1 0 (hu := Try.underlying27) (hi := ty27)) ?_
  refine oQ (.agg [.ref 2 (List.length ([[], []] : List (List Int))) 0 (List.length ([[], []] : List (List Int))), .ref 3 (List.length ([0, 0] : List Int)) 0 (List.length ([0, 0] : List Int))]) (k_loadAgg 4 0 (hu := Try.underlying31) (hi := ty31)) ?_
  refine oD (.ref 6 (List.length ([3, 1] : List Int)) 0 (List.length ([3, 1] : List Int))) (k_buildSlice (H' := [.sl 6 (List.map e_SPart ([(⟨1, 4, 0, 0, 0, 0⟩ : SPart), (⟨2, 1, 0, 0, 4, 2⟩ : SPart)] : List SPart)) true, .box [.d (.int .i64 0), .d (.int .i64 0), .ref 0 (List.length ([(⟨1, 4, 0, 0, 0, 0⟩ : SPart), (⟨2, 1, 0, 0, 4, 2⟩ : SPart)] : List SPart)) 0 (List.length ([(⟨1, 4, 0, 0, 0, 0⟩ : SPart), (⟨2, 1, 0, 0, 4, 2⟩ : SPart)] : List SPart))], .sl 1 (List.map e_Li64 ([[], []] : List (List Int))) true, .sl 1 (List.map e_i64 ([0, 0] : List Int)) true, .box [.ref 2 (List.length ([[], []] : List (List Int))) 0 (List.length ([[], []] : List (List Int))), .ref 3 (List.length ([0, 0] : List Int)) 0 (List.length ([0, 0] : List Int))], .sl 1 (List.map e_i64 ([(-1), 2] : List Int)) true, .sl 1 (List.map e_i64 ([3, 1] : List Int)) false]) (List.map e_i64 ([3, 1] : List Int)) Try.underlying22 ty3) ?_
  refine oFreeze 6 (esz := 1) (xs := List.map e_i64 ([3, 1] : List Int)) (h := ?_)
  refine oView (H' := [.sl 6 (List.map e_SPart ([(⟨1, 4, 0, 0, 0, 0⟩ : SPart), (⟨2, 1, 0, 0, 4, 2⟩ : SPart)] : List SPart)) true, .box [.d (.int .i64 0), .d (.int .i64 0), .ref 0 (List.length ([(⟨1, 4, 0, 0, 0, 0⟩ : SPart), (⟨2, 1, 0, 0, 4, 2⟩ : SPart)] : List SPart)) 0 (List.length ([(⟨1, 4, 0, 0, 0, 0⟩ : SPart), (⟨2, 1, 0, 0, 4, 2⟩ : SPart)] : List SPart))], .sl 1 (List.map e_Li64 ([[], []] : List (List Int))) true, .sl 1 (List.map e_i64 ([0, 0] : List Int)) true, .box [.ref 2 (List.length ([[], []] : List (List Int))) 0 (List.length ([[], []] : List (List Int))), .ref 3 (List.length ([0, 0] : List Int)) 0 (List.length ([0, 0] : List Int))], .sl 1 (List.map e_i64 ([(-1), 2] : List Int)) true, .sl 1 (List.map e_i64 ([3, 1] : List Int)) true]) rfl (h := ?_)
  refine bCall (caps := []) (v := (uc fun (r134 : Int) => (fun (r143 : Int) => (.tuple [.d (.int .i64 r134), .d (.int .i64 r143)] : V)))) (H' := (uc fun (r134 : Int) => (fun (r143 : Int) => ([.sl 6 (List.map e_SPart ([(⟨1, 4, 0, 0, 0, 0⟩ : SPart), (⟨2, 1, 0, 0, 4, 2⟩ : SPart)] : List SPart)) true, .box [.d (.int .i64 0), .d (.int .i64 0), .ref 0 (List.length ([(⟨1, 4, 0, 0, 0, 0⟩ : SPart), (⟨2, 1, 0, 0, 4, 2⟩ : SPart)] : List SPart)) 0 (List.length ([(⟨1, 4, 0, 0, 0, 0⟩ : SPart), (⟨2, 1, 0, 0, 4, 2⟩ : SPart)] : List SPart))], .sl 1 (List.map e_Li64 ([[], []] : List (List Int))) true, .sl 1 (List.map e_i64 ([0, 0] : List Int)) true, .box [.ref 2 (List.length ([[], []] : List (List Int))) 0 (List.length ([[], []] : List (List Int))), .ref 3 (List.length ([0, 0] : List Int)) 0 (List.length ([0, 0] : List Int))], .sl 1 (List.map e_i64 ([(-1), 2] : List Int)) true, .sl 1 (List.map e_i64 ([3, 1] : List Int)) true] : List Blk)))) [] _ (scheme_Total_goes k 0 0 ([(⟨1, 4, 0, 0, 0, 0⟩ : SPart), (⟨2, 1, 0, 0, 4, 2⟩ : SPart)] : List SPart) ([[], []] : List (List Int)) ([0, 0] : List Int) ([3, 1] : List Int)) (ho := rfl) (hfn := Try.func21) (hb := rfl) (hconv := (convList (vs0 := [.agg [.d (.int .i64 0), .d (.int .i64 0), .ref 0 (List.length ([(⟨1, 4, 0, 0, 0, 0⟩ : SPart), (⟨2, 1, 0, 0, 4, 2⟩ : SPart)] : List SPart)) 0 (List.length ([(⟨1, 4, 0, 0, 0, 0⟩ : SPart), (⟨2, 1, 0, 0, 4, 2⟩ : SPart)] : List SPart))], .agg [.ref 2 (List.length ([[], []] : List (List Int))) 0 (List.length ([[], []] : List (List Int))), .ref 3 (List.length ([0, 0] : List Int)) 0 (List.length ([0, 0] : List Int))], .ref 6 (List.length ([3, 1] : List Int)) 0 (List.length ([3, 1] : List Int))]) (vs := [.agg [.d (.int .i64 0), .d (.int .i64 0), .d (.lit (List.map e_SPart ([(⟨1, 4, 0, 0, 0, 0⟩ : SPart), (⟨2, 1, 0, 0, 4, 2⟩ : SPart)] : List SPart)))], .agg [.d (.lit (List.map e_Li64 ([[], []] : List (List Int)))), .d (.lit (List.map e_i64 ([0, 0] : List Int)))], .d (.lit (List.map e_i64 ([3, 1] : List Int)))]) (p := (.cons _ _ _ _ (.agg _ _ (.cons _ _ _ _ (.same _) (.cons _ _ _ _ (.same _) (.cons _ _ _ _ (k_lit (enc := e_SPart) (sz := 6) 0 ([(⟨1, 4, 0, 0, 0, 0⟩ : SPart), (⟨2, 1, 0, 0, 4, 2⟩ : SPart)] : List SPart)) .nil)))) (.cons _ _ _ _ (.agg _ _ (.cons _ _ _ _ (k_lit (enc := e_Li64) (sz := 1) 2 ([[], []] : List (List Int))) (.cons _ _ _ _ (k_lit (enc := e_i64) (sz := 1) 3 ([0, 0] : List Int)) .nil))) (.cons _ _ _ _ (k_lit (enc := e_i64) (sz := 1) 6 ([3, 1] : List Int)) .nil)))))) (hnd := by decide) (hBl := fun _ => (by kernel_rfl)) (hv := fun _ => (by kernel_rfl)) (hH' := fun _ => (by kernel_rfl)) (h := fun r => ?_)
  obtain ⟨r134, r143⟩ := r
  refine bUc ?_
  refine oP (.tuple [.d (.int .i64 r134), .d (.int .i64 r143)]) p_move ?_
  refine oP (.d (.int .i64 r134)) k_extract ?_
  refine oP (.d (.int .i64 r143)) k_extract ?_
  refine oP (.d (.int .i64 r134)) p_assign ?_
  refine oP (.d (.int .i64 r143)) p_assign ?_
  refine oEnd ?_
  refine oSR rfl ?_
  refine oQ (.agg [.d (.int .i64 0), .d (.int .i64 0), .ref 0 (List.length ([(⟨1, 4, 0, 0, 0, 0⟩ : SPart), (⟨2, 1, 0, 0, 4, 2⟩ : SPart)] : List SPart)) 0 (List.length ([(⟨1, 4, 0, 0, 0, 0⟩ : SPart), (⟨2, 1, 0, 0, 4, 2⟩ : SPart)] : List SPart))]) (k_loadAgg 1 0 (hu := Try.underlying27) (hi := ty27)) ?_
  refine oQ (.agg [.ref 2 (List.length ([[], []] : List (List Int))) 0 (List.length ([[], []] : List (List Int))), .ref 3 (List.length ([0, 0] : List Int)) 0 (List.length ([0, 0] : List Int))]) (k_loadAgg 4 0 (hu := Try.underlying31) (hi := ty31)) ?_
  refine bCall (caps := []) (v := (uc fun (r1101 : (List (List Int))) => (uc fun (r1111 : (List Int)) => (fun (r1121 : Int) => (.tuple [.agg [.d (.lit (List.map e_Li64 r1101)), .d (.lit (List.map e_i64 r1111))], .d (.int .i64 r1121)] : V))))) (H' := (uc fun (r1101 : (List (List Int))) => (uc fun (r1111 : (List Int)) => (fun (r1121 : Int) => ([.sl 6 (List.map e_SPart ([(⟨1, 4, 0, 0, 0, 0⟩ : SPart), (⟨2, 1, 0, 0, 4, 2⟩ : SPart)] : List SPart)) true, .box [.d (.int .i64 0), .d (.int .i64 0), .ref 0 (List.length ([(⟨1, 4, 0, 0, 0, 0⟩ : SPart), (⟨2, 1, 0, 0, 4, 2⟩ : SPart)] : List SPart)) 0 (List.length ([(⟨1, 4, 0, 0, 0, 0⟩ : SPart), (⟨2, 1, 0, 0, 4, 2⟩ : SPart)] : List SPart))], .sl 1 (List.map e_Li64 ([[], []] : List (List Int))) true, .sl 1 (List.map e_i64 ([0, 0] : List Int)) true, .box [.ref 2 (List.length ([[], []] : List (List Int))) 0 (List.length ([[], []] : List (List Int))), .ref 3 (List.length ([0, 0] : List Int)) 0 (List.length ([0, 0] : List Int))], .sl 1 (List.map e_i64 ([(-1), 2] : List Int)) true, .sl 1 (List.map e_i64 ([3, 1] : List Int)) true] : List Blk))))) [] _ (scheme_Withdraw_goes k 0 0 ([(⟨1, 4, 0, 0, 0, 0⟩ : SPart), (⟨2, 1, 0, 0, 4, 2⟩ : SPart)] : List SPart) ([[], []] : List (List Int)) ([0, 0] : List Int) 1 2) (ho := rfl) (hfn := Try.func26) (hb := rfl) (hconv := (convList (vs0 := [.agg [.d (.int .i64 0), .d (.int .i64 0), .ref 0 (List.length ([(⟨1, 4, 0, 0, 0, 0⟩ : SPart), (⟨2, 1, 0, 0, 4, 2⟩ : SPart)] : List SPart)) 0 (List.length ([(⟨1, 4, 0, 0, 0, 0⟩ : SPart), (⟨2, 1, 0, 0, 4, 2⟩ : SPart)] : List SPart))], .agg [.ref 2 (List.length ([[], []] : List (List Int))) 0 (List.length ([[], []] : List (List Int))), .ref 3 (List.length ([0, 0] : List Int)) 0 (List.length ([0, 0] : List Int))], .d (.int .i64 1), .d (.int .i64 2)]) (vs := [.agg [.d (.int .i64 0), .d (.int .i64 0), .d (.lit (List.map e_SPart ([(⟨1, 4, 0, 0, 0, 0⟩ : SPart), (⟨2, 1, 0, 0, 4, 2⟩ : SPart)] : List SPart)))], .agg [.d (.lit (List.map e_Li64 ([[], []] : List (List Int)))), .d (.lit (List.map e_i64 ([0, 0] : List Int)))], .d (.int .i64 1), .d (.int .i64 2)]) (p := (.cons _ _ _ _ (.agg _ _ (.cons _ _ _ _ (.same _) (.cons _ _ _ _ (.same _) (.cons _ _ _ _ (k_lit (enc := e_SPart) (sz := 6) 0 ([(⟨1, 4, 0, 0, 0, 0⟩ : SPart), (⟨2, 1, 0, 0, 4, 2⟩ : SPart)] : List SPart)) .nil)))) (.cons _ _ _ _ (.agg _ _ (.cons _ _ _ _ (k_lit (enc := e_Li64) (sz := 1) 2 ([[], []] : List (List Int))) (.cons _ _ _ _ (k_lit (enc := e_i64) (sz := 1) 3 ([0, 0] : List Int)) .nil))) (.cons _ _ _ _ (.same _) (.cons _ _ _ _ (.same _) .nil))))))) (hnd := by decide) (hBl := fun _ => (by kernel_rfl)) (hv := fun _ => (by kernel_rfl)) (hH' := fun _ => (by kernel_rfl)) (h := fun r => ?_)
  obtain ⟨r1101, r1111, r1121⟩ := r
  refine bUc ?_
  refine bUc ?_
  refine oP (.tuple [.agg [.d (.lit (List.map e_Li64 r1101)), .d (.lit (List.map e_i64 r1111))], .d (.int .i64 r1121)]) p_move ?_
  refine oP (.agg [.d (.lit (List.map e_Li64 r1101)), .d (.lit (List.map e_i64 r1111))]) k_extract ?_
  refine oP (.d (.int .i64 r1121)) k_extract ?_
  refine oD (.ptr 7 0) (k_alloc (H' := [.sl 6 (List.map e_SPart ([(⟨1, 4, 0, 0, 0, 0⟩ : SPart), (⟨2, 1, 0, 0, 4, 2⟩ : SPart)] : List SPart)) true, .box [.d (.int .i64 0), .d (.int .i64 0), .ref 0 (List.length ([(⟨1, 4, 0, 0, 0, 0⟩ : SPart), (⟨2, 1, 0, 0, 4, 2⟩ : SPart)] : List SPart)) 0 (List.length ([(⟨1, 4, 0, 0, 0, 0⟩ : SPart), (⟨2, 1, 0, 0, 4, 2⟩ : SPart)] : List SPart))], .sl 1 (List.map e_Li64 ([[], []] : List (List Int))) true, .sl 1 (List.map e_i64 ([0, 0] : List Int)) true, .box [.ref 2 (List.length ([[], []] : List (List Int))) 0 (List.length ([[], []] : List (List Int))), .ref 3 (List.length ([0, 0] : List Int)) 0 (List.length ([0, 0] : List Int))], .sl 1 (List.map e_i64 ([(-1), 2] : List Int)) true, .sl 1 (List.map e_i64 ([3, 1] : List Int)) true, .box [.nilc, .nilc]]) ty31) ?_
  refine oD (.undef) (k_store (vs := [.d (.lit (List.map e_Li64 r1101)), .d (.lit (List.map e_i64 r1111))]) (H' := [.sl 6 (List.map e_SPart ([(⟨1, 4, 0, 0, 0, 0⟩ : SPart), (⟨2, 1, 0, 0, 4, 2⟩ : SPart)] : List SPart)) true, .box [.d (.int .i64 0), .d (.int .i64 0), .ref 0 (List.length ([(⟨1, 4, 0, 0, 0, 0⟩ : SPart), (⟨2, 1, 0, 0, 4, 2⟩ : SPart)] : List SPart)) 0 (List.length ([(⟨1, 4, 0, 0, 0, 0⟩ : SPart), (⟨2, 1, 0, 0, 4, 2⟩ : SPart)] : List SPart))], .sl 1 (List.map e_Li64 ([[], []] : List (List Int))) true, .sl 1 (List.map e_i64 ([0, 0] : List Int)) true, .box [.ref 2 (List.length ([[], []] : List (List Int))) 0 (List.length ([[], []] : List (List Int))), .ref 3 (List.length ([0, 0] : List Int)) 0 (List.length ([0, 0] : List Int))], .sl 1 (List.map e_i64 ([(-1), 2] : List Int)) true, .sl 1 (List.map e_i64 ([3, 1] : List Int)) true, .box [.d (.lit (List.map e_Li64 r1101)), .d (.lit (List.map e_i64 r1111))]]) 7 0 (hi := ty31)) ?_
  refine oP (.d (.int .i64 r1121)) p_assign ?_
  refine oEnd ?_
  refine oSR rfl ?_
  refine oQ (.agg [.d (.int .i64 0), .d (.int .i64 0), .ref 0 (List.length ([(⟨1, 4, 0, 0, 0, 0⟩ : SPart), (⟨2, 1, 0, 0, 4, 2⟩ : SPart)] : List SPart)) 0 (List.length ([(⟨1, 4, 0, 0, 0, 0⟩ : SPart), (⟨2, 1, 0, 0, 4, 2⟩ : SPart)] : List SPart))]) (k_loadAgg 1 0 (hu := Try.underlying27) (hi := ty27)) ?_
  refine oQ (.agg [.d (.lit (List.map e_Li64 r1101)), .d (.lit (List.map e_i64 r1111))]) (k_loadAgg 7 0 (hu := Try.underlying31) (hi := ty31)) ?_
  refine bCall (caps := []) (v := (uc fun (r113 : Int) => (fun (r135 : Int) => (.tuple [.d (.int .i64 r113), .d (.int .i64 r135)] : V)))) (H' := (uc fun (r113 : Int) => (fun (r135 : Int) => ([.sl 6 (List.map e_SPart ([(⟨1, 4, 0, 0, 0, 0⟩ : SPart), (⟨2, 1, 0, 0, 4, 2⟩ : SPart)] : List SPart)) true, .box [.d (.int .i64 0), .d (.int .i64 0), .ref 0 (List.length ([(⟨1, 4, 0, 0, 0, 0⟩ : SPart), (⟨2, 1, 0, 0, 4, 2⟩ : SPart)] : List SPart)) 0 (List.length ([(⟨1, 4, 0, 0, 0, 0⟩ : SPart), (⟨2, 1, 0, 0, 4, 2⟩ : SPart)] : List SPart))], .sl 1 (List.map e_Li64 ([[], []] : List (List Int))) true, .sl 1 (List.map e_i64 ([0, 0] : List Int)) true, .box [.ref 2 (List.length ([[], []] : List (List Int))) 0 (List.length ([[], []] : List (List Int))), .ref 3 (List.length ([0, 0] : List Int)) 0 (List.length ([0, 0] : List Int))], .sl 1 (List.map e_i64 ([(-1), 2] : List Int)) true, .sl 1 (List.map e_i64 ([3, 1] : List Int)) true, .box [.d (.lit (List.map e_Li64 r1101)), .d (.lit (List.map e_i64 r1111))]] : List Blk)))) [] _ (scheme_Maximum_goes k 0 0 ([(⟨1, 4, 0, 0, 0, 0⟩ : SPart), (⟨2, 1, 0, 0, 4, 2⟩ : SPart)] : List SPart) r1101 r1111) (ho := rfl) (hfn := Try.func23) (hb := rfl) (hconv := (convList (vs0 := [.agg [.d (.int .i64 0), .d (.int .i64 0), .ref 0 (List.length ([(⟨1, 4, 0, 0, 0, 0⟩ : SPart), (⟨2, 1, 0, 0, 4, 2⟩ : SPart)] : List SPart)) 0 (List.length ([(⟨1, 4, 0, 0, 0, 0⟩ : SPart), (⟨2, 1, 0, 0, 4, 2⟩ : SPart)] : List SPart))], .agg [.d (.lit (List.map e_Li64 r1101)), .d (.lit (List.map e_i64 r1111))]]) (vs := [.agg [.d (.int .i64 0), .d (.int .i64 0), .d (.lit (List.map e_SPart ([(⟨1, 4, 0, 0, 0, 0⟩ : SPart), (⟨2, 1, 0, 0, 4, 2⟩ : SPart)] : List SPart)))], .agg [.d (.lit (List.map e_Li64 r1101)), .d (.lit (List.map e_i64 r1111))]]) (p := (.cons _ _ _ _ (.agg _ _ (.cons _ _ _ _ (.same _) (.cons _ _ _ _ (.same _) (.cons _ _ _ _ (k_lit (enc := e_SPart) (sz := 6) 0 ([(⟨1, 4, 0, 0, 0, 0⟩ : SPart), (⟨2, 1, 0, 0, 4, 2⟩ : SPart)] : List SPart)) .nil)))) (.cons _ _ _ _ (.same _) .nil))))) (hnd := by decide) (hBl := fun _ => (by kernel_rfl)) (hv := fun _ => (by kernel_rfl)) (hH' := fun _ => (by kernel_rfl)) (h := fun r => ?_)
  obtain ⟨r113, r135⟩ := r
  refine bUc ?_
  refine oP (.tuple [.d (.int .i64 r113), .d (.int .i64 r135)]) p_move ?_
  refine oP (.d (.int .i64 r113)) k_extract ?_
  refine oP (.d (.int .i64 r135)) k_extract ?_
  refine oP (.d (.int .i64 r113)) p_assign ?_
  refine oP (.d (.int .i64 r135)) p_assign ?_
  refine oEnd ?_
  refine oSR rfl ?_
  refine oP (.d (.int .i64 r142)) p_move ?_
  refine oP (.d (.bool (r142 == 0))) (p_int (k := .i64) (p := r142) (q := 0)) ?_
  refine oP (.d (.bool (r142 == 0))) p_move ?_
  refine bMeet 4 rfl ((fun (x6 : Bool) => [(5, .d (.int .i64 r134)), (6, .d (.int .i64 r143)), (8, .d (.int .i64 r1121)), (9, .d (.int .i64 r113)), (10, .d (.int .i64 r135)), (50, .d (.bool x6))])) ((fun (x6 : Bool) => [])) (fun s => s) (fun x6 => ?_) (fun hj6 => ?_)
  ·refine oView (T' := [(5, .d (.int .i64 r134)), (6, .d (.int .i64 r143)), (8, .d (.int .i64 r1121)), (9, .d (.int .i64 r113)), (10, .d (.int .i64 r135)), (50, .d (.bool x6))]) (H' := []) (h := ?_)
   refine oP (.d (.bool x6)) p_move ?_
   refine bMeetF (H' := []) 3 rfl ((fun (x7 : Bool) => [(5, .d (.int .i64 r134)), (8, .d (.int .i64 r1121)), (9, .d (.int .i64 r113)), (10, .d (.int .i64 r135)), (54, .d (.bool x7))])) (fun x7 => ?_) (fun F hj1 => ?_)
   ·refine oView (T' := [(5, .d (.int .i64 r134)), (8, .d (.int .i64 r1121)), (9, .d (.int .i64 r113)), (10, .d (.int .i64 r135)), (54, .d (.bool x7))]) (H' := []) (h := ?_)
    refine oP (.d (.bool x7)) p_move ?_
    refine bMeetF (H' := []) 3 rfl ((fun (x8 : Bool) => [(8, .d (.int .i64 r1121)), (9, .d (.int .i64 r113)), (10, .d (.int .i64 r135)), (58, .d (.bool x8))])) (fun x8 => ?_) (fun F hj2 => ?_)
    ·refine oView (T' := [(8, .d (.int .i64 r1121)), (9, .d (.int .i64 r113)), (10, .d (.int .i64 r135)), (58, .d (.bool x8))]) (H' := []) (h := ?_)
     refine oP (.d (.bool x8)) p_move ?_
     refine bMeetF (H' := []) 3 rfl ((fun (x9 : Bool) => [(9, .d (.int .i64 r113)), (10, .d (.int .i64 r135)), (62, .d (.bool x9))])) (fun x9 => ?_) (fun F hj3 => ?_)
     ·refine oView (T' := [(9, .d (.int .i64 r113)), (10, .d (.int .i64 r135)), (62, .d (.bool x9))]) (H' := []) (h := ?_)
      refine oP (.d (.bool x9)) p_move ?_
      refine bMeetF (H' := []) 3 rfl ((fun (x10 : Bool) => [(9, .d (.int .i64 r113)), (66, .d (.bool x10))])) (fun x10 => ?_) (fun F hj4 => ?_)
      ·refine oView (T' := [(9, .d (.int .i64 r113)), (66, .d (.bool x10))]) (H' := []) (h := ?_)
       refine oP (.d (.bool x10)) p_move ?_
       refine bMeetF (H' := []) 3 rfl ((fun (x11 : Bool) => [(70, .d (.bool x11))])) (fun x11 => ?_) (fun F hj5 => ?_)
       ·refine oView (T' := [(70, .d (.bool x11))]) (H' := []) (h := ?_)
        refine oP (.d (.bool x11)) p_assign ?_
        refine oEnd ?_
        exact oRet (r0 := x11) (rv := .d (.bool x11)) (B := []) (vs := [.d (.bool x11)]) (σ := []) (hf := Try.func19) (hrs := rfl) (hres := .cons _ _ _ _ (.tmp 0 _ (by kernel_rfl)) .nil) (hnd := by decide)
       ·refine bPickF 67 (fun c => F (c && (r113 == 4))) (h1 := fun hc => ?_) (h2 := fun hc => ?_)
        ·refine oP (.d (.int .i64 r113)) p_move ?_
         refine oP (.d (.bool (r113 == 4))) (p_int (k := .i64) (p := r113) (q := 4)) ?_
         refine oP (.d (.bool (r113 == 4))) (p_pick (b := true)) ?_
         refine oHead [70] [] (T' := [(70, .d (.bool (r113 == 4)))]) (H' := []) (hnd := by decide) (h := ?_)
         exact hj5 (r113 == 4)
        ·refine oNot (h := ?_)
         refine oNot (h := ?_)
         refine oP (.d (.bool false)) (p_pick (b := false)) ?_
         refine oHead [70] [] (T' := [(70, .d (.bool false))]) (H' := []) (hnd := by decide) (h := ?_)
         exact hj5 false
      ·refine bPickF 63 (fun c => F (c && (r135 == 0))) (h1 := fun hc => ?_) (h2 := fun hc => ?_)
       ·refine oP (.d (.int .i64 r135)) p_move ?_
        refine oP (.d (.bool (r135 == 0))) (p_int (k := .i64) (p := r135) (q := 0)) ?_
        refine oP (.d (.bool (r135 == 0))) (p_pick (b := true)) ?_
        refine oHead [9, 66] [] (T' := [(9, .d (.int .i64 r113)), (66, .d (.bool (r135 == 0)))]) (H' := []) (hnd := by decide) (h := ?_)
        exact hj4 (r135 == 0)
       ·refine oNot (h := ?_)
        refine oNot (h := ?_)
        refine oP (.d (.bool false)) (p_pick (b := false)) ?_
        refine oHead [9, 66] [] (T' := [(9, .d (.int .i64 r113)), (66, .d (.bool false))]) (H' := []) (hnd := by decide) (h := ?_)
        exact hj4 false
     ·refine bPickF 59 (fun c => F (c && (r1121 == 0))) (h1 := fun hc => ?_) (h2 := fun hc => ?_)
      ·refine oP (.d (.int .i64 r1121)) p_move ?_
       refine oP (.d (.bool (r1121 == 0))) (p_int (k := .i64) (p := r1121) (q := 0)) ?_
       refine oP (.d (.bool (r1121 == 0))) (p_pick (b := true)) ?_
       refine oHead [9, 10, 62] [] (T' := [(9, .d (.int .i64 r113)), (10, .d (.int .i64 r135)), (62, .d (.bool (r1121 == 0)))]) (H' := []) (hnd := by decide) (h := ?_)
       exact hj3 (r1121 == 0)
      ·refine oNot (h := ?_)
       refine oNot (h := ?_)
       refine oP (.d (.bool false)) (p_pick (b := false)) ?_
       refine oHead [9, 10, 62] [] (T' := [(9, .d (.int .i64 r113)), (10, .d (.int .i64 r135)), (62, .d (.bool false))]) (H' := []) (hnd := by decide) (h := ?_)
       exact hj3 false
    ·refine bPickF 55 (fun c => F (c && (r134 == 4))) (h1 := fun hc => ?_) (h2 := fun hc => ?_)
     ·refine oP (.d (.int .i64 r134)) p_move ?_
      refine oP (.d (.bool (r134 == 4))) (p_int (k := .i64) (p := r134) (q := 4)) ?_
      refine oP (.d (.bool (r134 == 4))) (p_pick (b := true)) ?_
      refine oHead [8, 9, 10, 58] [] (T' := [(8, .d (.int .i64 r1121)), (9, .d (.int .i64 r113)), (10, .d (.int .i64 r135)), (58, .d (.bool (r134 == 4)))]) (H' := []) (hnd := by decide) (h := ?_)
      exact hj2 (r134 == 4)
     ·refine oNot (h := ?_)
      refine oNot (h := ?_)
      refine oP (.d (.bool false)) (p_pick (b := false)) ?_
      refine oHead [8, 9, 10, 58] [] (T' := [(8, .d (.int .i64 r1121)), (9, .d (.int .i64 r113)), (10, .d (.int .i64 r135)), (58, .d (.bool false))]) (H' := []) (hnd := by decide) (h := ?_)
      exact hj2 false
   ·refine bPickF 51 (fun c => F (c && (r143 == 0))) (h1 := fun hc => ?_) (h2 := fun hc => ?_)
    ·refine oP (.d (.int .i64 r143)) p_move ?_
     refine oP (.d (.bool (r143 == 0))) (p_int (k := .i64) (p := r143) (q := 0)) ?_
     refine oP (.d (.bool (r143 == 0))) (p_pick (b := true)) ?_
     refine oHead [5, 8, 9, 10, 54] [] (T' := [(5, .d (.int .i64 r134)), (8, .d (.int .i64 r1121)), (9, .d (.int .i64 r113)), (10, .d (.int .i64 r135)), (54, .d (.bool (r143 == 0)))]) (H' := []) (hnd := by decide) (h := ?_)
     exact hj1 (r143 == 0)
    ·refine oNot (h := ?_)
     refine oNot (h := ?_)
     refine oP (.d (.bool false)) (p_pick (b := false)) ?_
     refine oHead [5, 8, 9, 10, 54] [] (T' := [(5, .d (.int .i64 r134)), (8, .d (.int .i64 r1121)), (9, .d (.int .i64 r113)), (10, .d (.int .i64 r135)), (54, .d (.bool false))]) (H' := []) (hnd := by decide) (h := ?_)
     exact hj1 false
  ·refine bSplit 46 (h1 := fun hc => ?_) (h2 := fun hc => ?_)
   ·refine oP (.d (.lit (List.map e_i64 r133))) p_move ?_
    refine oD (.ref 8 (List.length ([(-2), 1] : List Int)) 0 (List.length ([(-2), 1] : List Int))) (k_buildSlice (H' := [.sl 6 (List.map e_SPart ([(⟨1, 4, 0, 0, 0, 0⟩ : SPart), (⟨2, 1, 0, 0, 4, 2⟩ : SPart)] : List SPart)) true, .box [.d (.int .i64 0), .d (.int .i64 0), .ref 0 (List.length ([(⟨1, 4, 0, 0, 0, 0⟩ : SPart), (⟨2, 1, 0, 0, 4, 2⟩ : SPart)] : List SPart)) 0 (List.length ([(⟨1, 4, 0, 0, 0, 0⟩ : SPart), (⟨2, 1, 0, 0, 4, 2⟩ : SPart)] : List SPart))], .sl 1 (List.map e_Li64 ([[], []] : List (List Int))) true, .sl 1 (List.map e_i64 ([0, 0] : List Int)) true, .box [.ref 2 (List.length ([[], []] : List (List Int))) 0 (List.length ([[], []] : List (List Int))), .ref 3 (List.length ([0, 0] : List Int)) 0 (List.length ([0, 0] : List Int))], .sl 1 (List.map e_i64 ([(-1), 2] : List Int)) true, .sl 1 (List.map e_i64 ([3, 1] : List Int)) true, .box [.d (.lit (List.map e_Li64 r1101)), .d (.lit (List.map e_i64 r1111))], .sl 1 (List.map e_i64 ([(-2), 1] : List Int)) false]) (List.map e_i64 ([(-2), 1] : List Int)) Try.underlying22 ty3) ?_
    refine oFreeze 8 (esz := 1) (xs := List.map e_i64 ([(-2), 1] : List Int)) (h := ?_)
    refine oView (H' := [.sl 6 (List.map e_SPart ([(⟨1, 4, 0, 0, 0, 0⟩ : SPart), (⟨2, 1, 0, 0, 4, 2⟩ : SPart)] : List SPart)) true, .box [.d (.int .i64 0), .d (.int .i64 0), .ref 0 (List.length ([(⟨1, 4, 0, 0, 0, 0⟩ : SPart), (⟨2, 1, 0, 0, 4, 2⟩ : SPart)] : List SPart)) 0 (List.length ([(⟨1, 4, 0, 0, 0, 0⟩ : SPart), (⟨2, 1, 0, 0, 4, 2⟩ : SPart)] : List SPart))], .sl 1 (List.map e_Li64 ([[], []] : List (List Int))) true, .sl 1 (List.map e_i64 ([0, 0] : List Int)) true, .box [.ref 2 (List.length ([[], []] : List (List Int))) 0 (List.length ([[], []] : List (List Int))), .ref 3 (List.length ([0, 0] : List Int)) 0 (List.length ([0, 0] : List Int))], .sl 1 (List.map e_i64 ([(-1), 2] : List Int)) true, .sl 1 (List.map e_i64 ([3, 1] : List Int)) true, .box [.d (.lit (List.map e_Li64 r1101)), .d (.lit (List.map e_i64 r1111))], .sl 1 (List.map e_i64 ([(-2), 1] : List Int)) true]) rfl (h := ?_)
    refine bCall (caps := []) (v := (fun (r16 : Bool) => (.d (.bool r16) : V))) (H' := (fun (r16 : Bool) => ([.sl 6 (List.map e_SPart ([(⟨1, 4, 0, 0, 0, 0⟩ : SPart), (⟨2, 1, 0, 0, 4, 2⟩ : SPart)] : List SPart)) true, .box [.d (.int .i64 0), .d (.int .i64 0), .ref 0 (List.length ([(⟨1, 4, 0, 0, 0, 0⟩ : SPart), (⟨2, 1, 0, 0, 4, 2⟩ : SPart)] : List SPart)) 0 (List.length ([(⟨1, 4, 0, 0, 0, 0⟩ : SPart), (⟨2, 1, 0, 0, 4, 2⟩ : SPart)] : List SPart))], .sl 1 (List.map e_Li64 ([[], []] : List (List Int))) true, .sl 1 (List.map e_i64 ([0, 0] : List Int)) true, .box [.ref 2 (List.length ([[], []] : List (List Int))) 0 (List.length ([[], []] : List (List Int))), .ref 3 (List.length ([0, 0] : List Int)) 0 (List.length ([0, 0] : List Int))], .sl 1 (List.map e_i64 ([(-1), 2] : List Int)) true, .sl 1 (List.map e_i64 ([3, 1] : List Int)) true, .box [.d (.lit (List.map e_Li64 r1101)), .d (.lit (List.map e_i64 r1111))], .sl 1 (List.map e_i64 ([(-2), 1] : List Int)) true] : List Blk))) [] _ (ref06_Ints_goes k r133 ([(-2), 1] : List Int)) (ho := rfl) (hfn := Try.func18) (hb := rfl) (hconv := (convList (vs0 := [.d (.lit (List.map e_i64 r133)), .ref 8 (List.length ([(-2), 1] : List Int)) 0 (List.length ([(-2), 1] : List Int))]) (vs := [.d (.lit (List.map e_i64 r133)), .d (.lit (List.map e_i64 ([(-2), 1] : List Int)))]) (p := (.cons _ _ _ _ (.same _) (.cons _ _ _ _ (k_lit (enc := e_i64) (sz := 1) 8 ([(-2), 1] : List Int)) .nil))))) (hnd := by decide) (hBl := fun _ => (by kernel_rfl)) (hv := fun _ => (by kernel_rfl)) (hH' := fun _ => (by kernel_rfl)) (h := fun r16 => ?_)
    refine oP (.d (.bool r16)) (p_pick (b := true)) ?_
    refine oHead [5, 6, 8, 9, 10, 50] [] (T' := [(5, .d (.int .i64 r134)), (6, .d (.int .i64 r143)), (8, .d (.int .i64 r1121)), (9, .d (.int .i64 r113)), (10, .d (.int .i64 r135)), (50, .d (.bool r16))]) (H' := []) (hnd := by decide) (h := ?_)
    exact hj6 r16
   ·refine oNot (h := ?_)
    refine oNot (h := ?_)
    refine oNot (h := ?_)
    refine oP (.d (.bool false)) (p_pick (b := false)) ?_
    refine oHead [5, 6, 8, 9, 10, 50] [] (T' := [(5, .d (.int .i64 r134)), (6, .d (.int .i64 r143)), (8, .d (.int .i64 r1121)), (9, .d (.int .i64 r113)), (10, .d (.int .i64 r135)), (50, .d (.bool false))]) (H' := []) (hnd := by decide) (h := ?_)
    exact hj6 false

/-- awardingbody/awardingbodylaw23.SchemeTotals -/
def law23_SchemeTotals (k : Nat) (t : (List Int)) (marks : (List Int)) : Option (Bool) := Option.bind (make_New k t) (fun x7 => Option.bind (make_Tape_LoosePaper k x7 0) (uc fun r143 => uc fun r152 => uc fun r163 => fun x111 => Option.bind (make_Tape_Scheme k r143 r152 r163 x7 x111) (uc fun r153 => uc fun r164 => fun x561 => Option.bind (make_Tape_Marks k r143 r152 r163 x7 x561) (uc fun r165 => fun x121 => Option.bind (scheme_Total k r143 r152 r163 r153 r164 r165) (uc fun r135 => fun r144 => Option.bind (ref23_Total k r143 r152 r163 r153 r164 r165) (uc fun r114 => fun r136 => Option.bind (scheme_Total k r143 r152 r163 r153 r164 marks) (uc fun r137 => fun r145 => Option.bind (ref23_Total k r143 r152 r163 r153 r164 marks) (uc fun r115 => fun r138 => Option.bind (scheme_Maximum k r143 r152 r163 r153 r164) (uc fun r116 => fun r139 => Option.bind (ref23_Maximum k r143 r152 r163 r153 r164) (uc fun r117 => fun r122 => blet ((r135 == r114) && (r144 == r136)) fun x8 => blet (x8 && (r137 == r115)) fun x9 => blet (x9 && (r145 == r138)) fun x10 => blet (x10 && (r116 == r117)) fun x13 => blet (x13 && (r139 == r122)) fun x14 => Option.bind (bif x14 then Option.bind (law23_awake k) (fun r124 => some r124) else some false : Option (Bool)) (fun x15 => some x15)))))))))))
def law23_SchemeTotals_E (t : (List Int)) (marks : (List Int)) : Bool → V × List Blk := fun r1 => (.d (.bool r1), [])
theorem law23_SchemeTotals_goes (k : Nat) (t : (List Int)) (marks : (List Int)) : RunsO Try.prog 4 [.d (.lit (List.map e_i64 t)), .d (.lit (List.map e_i64 marks))] [] (law23_SchemeTotals_E t marks) (law23_SchemeTotals k t marks) := by
  refine RunsO.of_goes (N := 102) (m := 0) (T := [(0, .d (.lit (List.map e_i64 t))), (1, .d (.lit (List.map e_i64 marks)))]) Try.func4 rfl rfl (h := ?_)
  unfold law23_SchemeTotals
  refine bStart ?_
  refine oSR rfl ?_
  refine oP (.d (.bool false)) p_assign ?_
  refine oEnd ?_
  refine oSR rfl ?_
  refine oP (.d (.lit (List.map e_i64 t))) p_move ?_
  refine bCall (caps := []) (v := (fun (x7 : (List Int)) => (.ptr 0 0 : V))) (H' := (fun (x7 : (List Int)) => ([.box [.d (.lit (List.map e_i64 x7)), .d (.int .i64 0)]] : List Blk))) [] _ (make_New_goes k t) (ho := rfl) (hfn := Try.func12) (hb := rfl) (hconv := ConvRs.refl _ _) (hnd := by decide) (hBl := fun _ => (by kernel_rfl)) (hv := fun _ => (by kernel_rfl)) (hH' := fun _ => (by kernel_rfl)) (h := fun x7 => ?_)
  refine oP (.ptr 0 0) p_assign ?_
  refine oEnd ?_
  refine oSR rfl ?_
  refine oP (.ptr 0 0) p_move ?_
  refine bCall (caps := []) (v := (uc fun (r143 : Int) => (uc fun (r152 : Int) => (uc fun (r163 : (List SPart)) => (fun (x111 : Int) => (.agg [.d (.int .i64 r143), .d (.int .i64 r152), .d (.lit (List.map e_SPart r163))] : V)))))) (H' := (uc fun (r143 : Int) => (uc fun (r152 : Int) => (uc fun (r163 : (List SPart)) => (fun (x111 : Int) => ([.box [.d (.lit (List.map e_i64 x7)), .d (.int .i64 x111)]] : List Blk)))))) [0] _ (make_Tape_LoosePaper_goes k x7 0) (ho := rfl) (hfn := Try.func13) (hb := rfl) (hconv := ConvRs.refl _ _) (hnd := by decide) (hBl := fun _ => (by kernel_rfl)) (hv := fun _ => (by kernel_rfl)) (hH' := fun _ => (by kernel_rfl)) (h := fun r => ?_)
  obtain ⟨r143, r152, r163, x111⟩ := r
  refine bUc ?_
  refine bUc ?_
  refine bUc ?_
  refine oD (.ptr 1 0) (k_alloc (H' := [.box [.d (.lit (List.map e_i64 x7)), .d (.int .i64 x111)], .box [.d (.int .i64 0), .d (.int .i64 0), .nilc]]) ty27) ?_
  refine oD (.undef) (k_store (vs := [.d (.int .i64 r143), .d (.int .i64 r152), .d (.lit (List.map e_SPart r163))]) (H' := [.box [.d (.lit (List.map e_i64 x7)), .d (.int .i64 x111)], .box [.d (.int .i64 r143), .d (.int .i64 r152), .d (.lit (List.map e_SPart r163))]]) 1 0 (hi := ty27)) ?_
  refine oEnd ?_
  refine oSR rfl ?_
  refine oP (.ptr 0 0) p_move ?_
  refine oQ (.agg [.d (.int .i64 r143), .d (.int .i64 r152), .d (.lit (List.map e_SPart r163))]) (k_loadAgg 1 0 (hu := Try.underlying27) (hi := ty27)) ?_
  refine bCall (caps := []) (v := (uc fun (r153 : (List (List Int))) => (uc fun (r164 : (List Int)) => (fun (x561 : Int) => (.agg [.d (.lit (List.map e_Li64 r153)), .d (.lit (List.map e_i64 r164))] : V))))) (H' := (uc fun (r153 : (List (List Int))) => (uc fun (r164 : (List Int)) => (fun (x561 : Int) => ([.box [.d (.lit (List.map e_i64 x7)), .d (.int .i64 x561)], .box [.d (.int .i64 r143), .d (.int .i64 r152), .d (.lit (List.map e_SPart r163))]] : List Blk))))) [0] _ (make_Tape_Scheme_goes k r143 r152 r163 x7 x111) (ho := rfl) (hfn := Try.func14) (hb := rfl) (hconv := ConvRs.refl _ _) (hnd := by decide) (hBl := fun _ => (by kernel_rfl)) (hv := fun _ => (by kernel_rfl)) (hH' := fun _ => (by kernel_rfl)) (h := fun r => ?_)
  obtain ⟨r153, r164, x561⟩ := r
  refine bUc ?_
  refine bUc ?_
  refine oD (.ptr 2 0) (k_alloc (H' := [.box [.d (.lit (List.map e_i64 x7)), .d (.int .i64 x561)], .box [.d (.int .i64 r143), .d (.int .i64 r152), .d (.lit (List.map e_SPart r163))], .box [.nilc, .nilc]]) ty31) ?_
  refine oD (.undef) (k_store (vs := [.d (.lit (List.map e_Li64 r153)), .d (.lit (List.map e_i64 r164))]) (H' := [.box [.d (.lit (List.map e_i64 x7)), .d (.int .i64 x561)], .box [.d (.int .i64 r143), .d (.int .i64 r152), .d (.lit (List.map e_SPart r163))], .box [.d (.lit (List.map e_Li64 r153)), .d (.lit (List.map e_i64 r164))]]) 2 0 (hi := ty31)) ?_
  refine oEnd ?_
  refine oSR rfl ?_
  refine oP (.ptr 0 0) p_move ?_
  refine oQ (.agg [.d (.int .i64 r143), .d (.int .i64 r152), .d (.lit (List.map e_SPart r163))]) (k_loadAgg 1 0 (hu := Try.underlying27) (hi := ty27)) ?_
  refine bCall (caps := []) (v := (uc fun (r165 : (List Int)) => (fun (x121 : Int) => (.d (.lit (List.map e_i64 r165)) : V)))) (H' := (uc fun (r165 : (List Int)) => (fun (x121 : Int) => ([.box [.d (.lit (List.map e_i64 x7)), .d (.int .i64 x121)], .box [.d (.int .i64 r143), .d (.int .i64 r152), .d (.lit (List.map e_SPart r163))], .box [.d (.lit (List.map e_Li64 r153)), .d (.lit (List.map e_i64 r164))]] : List Blk)))) [0] _ (make_Tape_Marks_goes k r143 r152 r163 x7 x561) (ho := rfl) (hfn := Try.func20) (hb := rfl) (hconv := ConvRs.refl _ _) (hnd := by decide) (hBl := fun _ => (by kernel_rfl)) (hv := fun _ => (by kernel_rfl)) (hH' := fun _ => (by kernel_rfl)) (h := fun r => ?_)
  obtain ⟨r165, x121⟩ := r
  refine bUc ?_
  refine oP (.d (.lit (List.map e_i64 r165))) p_assign ?_
  refine oEnd ?_
  refine oSR rfl ?_
  refine oQ (.agg [.d (.int .i64 r143), .d (.int .i64 r152), .d (.lit (List.map e_SPart r163))]) (k_loadAgg 1 0 (hu := Try.underlying27) (hi := ty27)) ?_
  refine oQ (.agg [.d (.lit (List.map e_Li64 r153)), .d (.lit (List.map e_i64 r164))]) (k_loadAgg 2 0 (hu := Try.underlying31) (hi := ty31)) ?_
  refine oP (.d (.lit (List.map e_i64 r165))) p_move ?_
  refine bCall (caps := []) (v := (uc fun (r135 : Int) => (fun (r144 : Int) => (.tuple [.d (.int .i64 r135), .d (.int .i64 r144)] : V)))) (H' := (uc fun (r135 : Int) => (fun (r144 : Int) => ([.box [.d (.lit (List.map e_i64 x7)), .d (.int .i64 x121)], .box [.d (.int .i64 r143), .d (.int .i64 r152), .d (.lit (List.map e_SPart r163))], .box [.d (.lit (List.map e_Li64 r153)), .d (.lit (List.map e_i64 r164))]] : List Blk)))) [] _ (scheme_Total_goes k r143 r152 r163 r153 r164 r165) (ho := rfl) (hfn := Try.func21) (hb := rfl) (hconv := ConvRs.refl _ _) (hnd := by decide) (hBl := fun _ => (by kernel_rfl)) (hv := fun _ => (by kernel_rfl)) (hH' := fun _ => (by kernel_rfl)) (h := fun r => ?_)
  obtain ⟨r135, r144⟩ := r
  refine bUc ?_
  refine oP (.tuple [.d (.int .i64 r135), .d (.int .i64 r144)]) p_move ?_
  refine oP (.d (.int .i64 r135)) k_extract ?_
  refine oP (.d (.int .i64 r144)) k_extract ?_
  refine oP (.d (.int .i64 r135)) p_assign ?_
  refine oP (.d (.int .i64 r144)) p_assign ?_
  refine oEnd ?_
  refine oSR rfl ?_
  refine oQ (.agg [.d (.int .i64 r143), .d (.int .i64 r152), .d (.lit (List.map e_SPart r163))]) (k_loadAgg 1 0 (hu := Try.underlying27) (hi := ty27)) ?_
  refine oQ (.agg [.d (.lit (List.map e_Li64 r153)), .d (.lit (List.map e_i64 r164))]) (k_loadAgg 2 0 (hu := Try.underlying31) (hi := ty31)) ?_
  refine oP (.d (.lit (List.map e_i64 r165))) p_move ?_
  refine bCall (caps := []) (v := (uc fun (r114 : Int) => (fun (r136 : Int) => (.tuple [.d (.int .i64 r114), .d (.int .i64 r136)] : V)))) (H' := (uc fun (r114 : Int) => (fun (r136 : Int) => ([.box [.d (.lit (List.map e_i64 x7)), .d (.int .i64 x121)], .box [.d (.int .i64 r143), .d (.int .i64 r152), .d (.lit (List.map e_SPart r163))], .box [.d (.lit (List.map e_Li64 r153)), .d (.lit (List.map e_i64 r164))]] : List Blk)))) [] _ (ref23_Total_goes k r143 r152 r163 r153 r164 r165) (ho := rfl) (hfn := Try.func22) (hb := rfl) (hconv := ConvRs.refl _ _) (hnd := by decide) (hBl := fun _ => (by kernel_rfl)) (hv := fun _ => (by kernel_rfl)) (hH' := fun _ => (by kernel_rfl)) (h := fun r => ?_)
  obtain ⟨r114, r136⟩ := r
  refine bUc ?_
  refine oP (.tuple [.d (.int .i64 r114), .d (.int .i64 r136)]) p_move ?_
  refine oP (.d (.int .i64 r114)) k_extract ?_
  refine oP (.d (.int .i64 r136)) k_extract ?_
  refine oP (.d (.int .i64 r114)) p_assign ?_
  refine oP (.d (.int .i64 r136)) p_assign ?_
  refine oEnd ?_
  refine oSR rfl ?_
  refine oQ (.agg [.d (.int .i64 r143), .d (.int .i64 r152), .d (.lit (List.map e_SPart r163))]) (k_loadAgg 1 0 (hu := Try.underlying27) (hi := ty27)) ?_
  refine oQ (.agg [.d (.lit (List.map e_Li64 r153)), .d (.lit (List.map e_i64 r164))]) (k_loadAgg 2 0 (hu := Try.underlying31) (hi := ty31)) ?_
  refine oP (.d (.lit (List.map e_i64 marks))) p_move ?_
  refine bCall (caps := []) (v := (uc fun (r137 : Int) => (fun (r145 : Int) => (.tuple [.d (.int .i64 r137), .d (.int .i64 r145)] : V)))) (H' := (uc fun (r137 : Int) => (fun (r145 : Int) => ([.box [.d (.lit (List.map e_i64 x7)), .d (.int .i64 x121)], .box [.d (.int .i64 r143), .d (.int .i64 r152), .d (.lit (List.map e_SPart r163))], .box [.d (.lit (List.map e_Li64 r153)), .d (.lit (List.map e_i64 r164))]] : List Blk)))) [] _ (scheme_Total_goes k r143 r152 r163 r153 r164 marks) (ho := rfl) (hfn := Try.func21) (hb := rfl) (hconv := ConvRs.refl _ _) (hnd := by decide) (hBl := fun _ => (by kernel_rfl)) (hv := fun _ => (by kernel_rfl)) (hH' := fun _ => (by kernel_rfl)) (h := fun r => ?_)
  obtain ⟨r137, r145⟩ := r
  refine bUc ?_
  refine oP (.tuple [.d (.int .i64 r137), .d (.int .i64 r145)]) p_move ?_
  refine oP (.d (.int .i64 r137)) k_extract ?_
  refine oP (.d (.int .i64 r145)) k_extract ?_
  refine oP (.d (.int .i64 r137)) p_assign ?_
  refine oP (.d (.int .i64 r145)) p_assign ?_
  refine oEnd ?_
  refine oSR rfl ?_
  refine oQ (.agg [.d (.int .i64 r143), .d (.int .i64 r152), .d (.lit (List.map e_SPart r163))]) (k_loadAgg 1 0 (hu := Try.underlying27) (hi := ty27)) ?_
  refine oQ (.agg [.d (.lit (List.map e_Li64 r153)), .d (.lit (List.map e_i64 r164))]) (k_loadAgg 2 0 (hu := Try.underlying31) (hi := ty31)) ?_
  refine oP (.d (.lit (List.map e_i64 marks))) p_move ?_
  refine bCall (caps := []) (v := (uc fun (r115 : Int) => (fun (r138 : Int) => (.tuple [.d (.int .i64 r115), .d (.int .i64 r138)] : V)))) (H' := (uc fun (r115 : Int) => (fun (r138 : Int) => ([.box [.d (.lit (List.map e_i64 x7)), .d (.int .i64 x121)], .box [.d (.int .i64 r143), .d (.int .i64 r152), .d (.lit (List.map e_SPart r163))], .box [.d (.lit (List.map e_Li64 r153)), .d (.lit (List.map e_i64 r164))]] : List Blk)))) [] _ (ref23_Total_goes k r143 r152 r163 r153 r164 marks) (ho := rfl) (hfn := Try.func22) (hb := rfl) (hconv := ConvRs.refl _ _) (hnd := by decide) (hBl := fun _ => (by kernel_rfl)) (hv := fun _ => (by kernel_rfl)) (hH' := fun _ => (by kernel_rfl)) (h := fun r => ?_)
  obtain ⟨r115, r138⟩ := r
  refine bUc ?_
  refine oP (.tuple [.d (.int .i64 r115), .d (.int .i64 r138)]) p_move ?_
  refine oP (.d (.int .i64 r115)) k_extract ?_
  refine oP (.d (.int .i64 r138)) k_extract ?_
  refine oP (.d (.int .i64 r115)) p_assign ?_
  refine oP (.d (.int .i64 r138)) p_assign ?_
  refine oEnd ?_
  refine oSR rfl ?_
  refine oQ (.agg [.d (.int .i64 r143), .d (.int .i64 r152), .d (.lit (List.map e_SPart r163))]) (k_loadAgg 1 0 (hu := Try.underlying27) (hi := ty27)) ?_
  refine oQ (.agg [.d (.lit (List.map e_Li64 r153)), .d (.lit (List.map e_i64 r164))]) (k_loadAgg 2 0 (hu := Try.underlying31) (hi := ty31)) ?_
  refine bCall (caps := []) (v := (uc fun (r116 : Int) => (fun (r139 : Int) => (.tuple [.d (.int .i64 r116), .d (.int .i64 r139)] : V)))) (H' := (uc fun (r116 : Int) => (fun (r139 : Int) => ([.box [.d (.lit (List.map e_i64 x7)), .d (.int .i64 x121)], .box [.d (.int .i64 r143), .d (.int .i64 r152), .d (.lit (List.map e_SPart r163))], .box [.d (.lit (List.map e_Li64 r153)), .d (.lit (List.map e_i64 r164))]] : List Blk)))) [] _ (scheme_Maximum_goes k r143 r152 r163 r153 r164) (ho := rfl) (hfn := Try.func23) (hb := rfl) (hconv := ConvRs.refl _ _) (hnd := by decide) (hBl := fun _ => (by kernel_rfl)) (hv := fun _ => (by kernel_rfl)) (hH' := fun _ => (by kernel_rfl)) (h := fun r => ?_)
  obtain ⟨r116, r139⟩ := r
  refine bUc ?_
  refine oP (.tuple [.d (.int .i64 r116), .d (.int .i64 r139)]) p_move ?_
  refine oP (.d (.int .i64 r116)) k_extract ?_
  refine oP (.d (.int .i64 r139)) k_extract ?_
  refine oP (.d (.int .i64 r116)) p_assign ?_
  refine oP (.d (.int .i64 r139)) p_assign ?_
  refine oEnd ?_
  refine oSR rfl ?_
  refine oQ (.agg [.d (.int .i64 r143), .d (.int .i64 r152), .d (.lit (List.map e_SPart r163))]) (k_loadAgg 1 0 (hu := Try.underlying27) (hi := ty27)) ?_
  refine oQ (.agg [.d (.lit (List.map e_Li64 r153)), .d (.lit (List.map e_i64 r164))]) (k_loadAgg 2 0 (hu := Try.underlying31) (hi := ty31)) ?_
  refine bCall (caps := []) (v := (uc fun (r117 : Int) => (fun (r122 : Int) => (.tuple [.d (.int .i64 r117), .d (.int .i64 r122)] : V)))) (H' := (uc fun (r117 : Int) => (fun (r122 : Int) => ([.box [.d (.lit (List.map e_i64 x7)), .d (.int .i64 x121)], .box [.d (.int .i64 r143), .d (.int .i64 r152), .d (.lit (List.map e_SPart r163))], .box [.d (.lit (List.map e_Li64 r153)), .d (.lit (List.map e_i64 r164))]] : List Blk)))) [] _ (ref23_Maximum_goes k r143 r152 r163 r153 r164) (ho := rfl) (hfn := Try.func24) (hb := rfl) (hconv := ConvRs.refl _ _) (hnd := by decide) (hBl := fun _ => (by kernel_rfl)) (hv := fun _ => (by kernel_rfl)) (hH' := fun _ => (by kernel_rfl)) (h := fun r => ?_)
  obtain ⟨r117, r122⟩ := r
  refine bUc ?_
  refine oP (.tuple [.d (.int .i64 r117), .d (.int .i64 r122)]) p_move ?_
  refine oP (.d (.int .i64 r117)) k_extract ?_
  refine oP (.d (.int .i64 r122)) k_extract ?_
  refine oP (.d (.int .i64 r117)) p_assign ?_
  refine oP (.d (.int .i64 r122)) p_assign ?_
  refine oEnd ?_
  refine oSR rfl ?_
  refine oP (.d (.int .i64 r135)) p_move ?_
  refine oP (.d (.int .i64 r114)) p_move ?_
  refine oP (.d (.bool (r135 == r114))) (p_int (k := .i64) (p := r135) (q := r114)) ?_
  refine oP (.d (.bool (r135 == r114))) p_move ?_
  refine bMeetF (H' := []) 4 rfl ((fun (x8 : Bool) => [(13, .d (.int .i64 r137)), (14, .d (.int .i64 r145)), (15, .d (.int .i64 r115)), (16, .d (.int .i64 r138)), (17, .d (.int .i64 r116)), (18, .d (.int .i64 r139)), (19, .d (.int .i64 r117)), (20, .d (.int .i64 r122)), (78, .d (.bool x8))])) (fun x8 => ?_) (fun F hj1 => ?_)
  ·refine oView (T' := [(13, .d (.int .i64 r137)), (14, .d (.int .i64 r145)), (15, .d (.int .i64 r115)), (16, .d (.int .i64 r138)), (17, .d (.int .i64 r116)), (18, .d (.int .i64 r139)), (19, .d (.int .i64 r117)), (20, .d (.int .i64 r122)), (78, .d (.bool x8))]) (H' := []) (h := ?_)
   refine oP (.d (.bool x8)) p_move ?_
   refine bMeetF (H' := []) 4 rfl ((fun (x9 : Bool) => [(14, .d (.int .i64 r145)), (16, .d (.int .i64 r138)), (17, .d (.int .i64 r116)), (18, .d (.int .i64 r139)), (19, .d (.int .i64 r117)), (20, .d (.int .i64 r122)), (83, .d (.bool x9))])) (fun x9 => ?_) (fun F hj2 => ?_)
   ·refine oView (T' := [(14, .d (.int .i64 r145)), (16, .d (.int .i64 r138)), (17, .d (.int .i64 r116)), (18, .d (.int .i64 r139)), (19, .d (.int .i64 r117)), (20, .d (.int .i64 r122)), (83, .d (.bool x9))]) (H' := []) (h := ?_)
    refine oP (.d (.bool x9)) p_move ?_
    refine bMeetF (H' := []) 4 rfl ((fun (x10 : Bool) => [(17, .d (.int .i64 r116)), (18, .d (.int .i64 r139)), (19, .d (.int .i64 r117)), (20, .d (.int .i64 r122)), (88, .d (.bool x10))])) (fun x10 => ?_) (fun F hj3 => ?_)
    ·refine oView (T' := [(17, .d (.int .i64 r116)), (18, .d (.int .i64 r139)), (19, .d (.int .i64 r117)), (20, .d (.int .i64 r122)), (88, .d (.bool x10))]) (H' := []) (h := ?_)
     refine oP (.d (.bool x10)) p_move ?_
     refine bMeetF (H' := []) 4 rfl ((fun (x13 : Bool) => [(18, .d (.int .i64 r139)), (20, .d (.int .i64 r122)), (93, .d (.bool x13))])) (fun x13 => ?_) (fun F hj4 => ?_)
     ·refine oView (T' := [(18, .d (.int .i64 r139)), (20, .d (.int .i64 r122)), (93, .d (.bool x13))]) (H' := []) (h := ?_)
      refine oP (.d (.bool x13)) p_move ?_
      refine bMeetF (H' := []) 4 rfl ((fun (x14 : Bool) => [(98, .d (.bool x14))])) (fun x14 => ?_) (fun F hj5 => ?_)
      ·refine oView (T' := [(98, .d (.bool x14))]) (H' := []) (h := ?_)
       refine oP (.d (.bool x14)) p_move ?_
       refine bMeet 2 rfl ((fun (x15 : Bool) => [(101, .d (.bool x15))])) ((fun (x15 : Bool) => [])) (fun s => s) (fun x15 => ?_) (fun hj6 => ?_)
       ·refine oView (T' := [(101, .d (.bool x15))]) (H' := []) (h := ?_)
        refine oP (.d (.bool x15)) p_assign ?_
        refine oEnd ?_
        exact oRet (r0 := x15) (rv := .d (.bool x15)) (B := []) (vs := [.d (.bool x15)]) (σ := []) (hf := Try.func4) (hrs := rfl) (hres := .cons _ _ _ _ (.tmp 4 _ (by kernel_rfl)) .nil) (hnd := by decide)
       ·refine bSplit 99 (h1 := fun hc => ?_) (h2 := fun hc => ?_)
        ·refine bCall (caps := []) (v := (fun (r124 : Bool) => (.d (.bool r124) : V))) (H' := (fun (r124 : Bool) => ([] : List Blk))) [] _ (law23_awake_goes k) (ho := rfl) (hfn := Try.func19) (hb := rfl) (hconv := ConvRs.refl _ _) (hnd := by decide) (hBl := fun _ => (by kernel_rfl)) (hv := fun _ => (by kernel_rfl)) (hH' := fun _ => (by kernel_rfl)) (h := fun r124 => ?_)
         refine oP (.d (.bool r124)) (p_pick (b := true)) ?_
         refine oHead [101] [] (T' := [(101, .d (.bool r124))]) (H' := []) (hnd := by decide) (h := ?_)
         exact hj6 r124
        ·refine oNot (h := ?_)
         refine oP (.d (.bool false)) (p_pick (b := false)) ?_
         refine oHead [101] [] (T' := [(101, .d (.bool false))]) (H' := []) (hnd := by decide) (h := ?_)
         exact hj6 false
      ·refine bPickF 94 (fun c => F (c && (r139 == r122))) (h1 := fun hc => ?_) (h2 := fun hc => ?_)
       ·refine oP (.d (.int .i64 r139)) p_move ?_
        refine oP (.d (.int .i64 r122)) p_move ?_
        refine oP (.d (.bool (r139 == r122))) (p_int (k := .i64) (p := r139) (q := r122)) ?_
        refine oP (.d (.bool (r139 == r122))) (p_pick (b := true)) ?_
        refine oHead [98] [] (T' := [(98, .d (.bool (r139 == r122)))]) (H' := []) (hnd := by decide) (h := ?_)
        exact hj5 (r139 == r122)
       ·refine oNot (h := ?_)
        refine oNot (h := ?_)
        refine oNot (h := ?_)
        refine oP (.d (.bool false)) (p_pick (b := false)) ?_
        refine oHead [98] [] (T' := [(98, .d (.bool false))]) (H' := []) (hnd := by decide) (h := ?_)
        exact hj5 false
     ·refine bPickF 89 (fun c => F (c && (r116 == r117))) (h1 := fun hc => ?_) (h2 := fun hc => ?_)
      ·refine oP (.d (.int .i64 r116)) p_move ?_
       refine oP (.d (.int .i64 r117)) p_move ?_
       refine oP (.d (.bool (r116 == r117))) (p_int (k := .i64) (p := r116) (q := r117)) ?_
       refine oP (.d (.bool (r116 == r117))) (p_pick (b := true)) ?_
       refine oHead [18, 20, 93] [] (T' := [(18, .d (.int .i64 r139)), (20, .d (.int .i64 r122)), (93, .d (.bool (r116 == r117)))]) (H' := []) (hnd := by decide) (h := ?_)
       exact hj4 (r116 == r117)
      ·refine oNot (h := ?_)
       refine oNot (h := ?_)
       refine oNot (h := ?_)
       refine oP (.d (.bool false)) (p_pick (b := false)) ?_
       refine oHead [18, 20, 93] [] (T' := [(18, .d (.int .i64 r139)), (20, .d (.int .i64 r122)), (93, .d (.bool false))]) (H' := []) (hnd := by decide) (h := ?_)
       exact hj4 false
    ·refine bPickF 84 (fun c => F (c && (r145 == r138))) (h1 := fun hc => ?_) (h2 := fun hc => ?_)
     ·refine oP (.d (.int .i64 r145)) p_move ?_
      refine oP (.d (.int .i64 r138)) p_move ?_
      refine oP (.d (.bool (r145 == r138))) (p_int (k := .i64) (p := r145) (q := r138)) ?_
      refine oP (.d (.bool (r145 == r138))) (p_pick (b := true)) ?_
      refine oHead [17, 18, 19, 20, 88] [] (T' := [(17, .d (.int .i64 r116)), (18, .d (.int .i64 r139)), (19, .d (.int .i64 r117)), (20, .d (.int .i64 r122)), (88, .d (.bool (r145 == r138)))]) (H' := []) (hnd := by decide) (h := ?_)
      exact hj3 (r145 == r138)
     ·refine oNot (h := ?_)
      refine oNot (h := ?_)
      refine oNot (h := ?_)
      refine oP (.d (.bool false)) (p_pick (b := false)) ?_
      refine oHead [17, 18, 19, 20, 88] [] (T' := [(17, .d (.int .i64 r116)), (18, .d (.int .i64 r139)), (19, .d (.int .i64 r117)), (20, .d (.int .i64 r122)), (88, .d (.bool false))]) (H' := []) (hnd := by decide) (h := ?_)
      exact hj3 false
   ·refine bPickF 79 (fun c => F (c && (r137 == r115))) (h1 := fun hc => ?_) (h2 := fun hc => ?_)
    ·refine oP (.d (.int .i64 r137)) p_move ?_
     refine oP (.d (.int .i64 r115)) p_move ?_
     refine oP (.d (.bool (r137 == r115))) (p_int (k := .i64) (p := r137) (q := r115)) ?_
     refine oP (.d (.bool (r137 == r115))) (p_pick (b := true)) ?_
     refine oHead [14, 16, 17, 18, 19, 20, 83] [] (T' := [(14, .d (.int .i64 r145)), (16, .d (.int .i64 r138)), (17, .d (.int .i64 r116)), (18, .d (.int .i64 r139)), (19, .d (.int .i64 r117)), (20, .d (.int .i64 r122)), (83, .d (.bool (r137 == r115)))]) (H' := []) (hnd := by decide) (h := ?_)
     exact hj2 (r137 == r115)
    ·refine oNot (h := ?_)
     refine oNot (h := ?_)
     refine oNot (h := ?_)
     refine oP (.d (.bool false)) (p_pick (b := false)) ?_
     refine oHead [14, 16, 17, 18, 19, 20, 83] [] (T' := [(14, .d (.int .i64 r145)), (16, .d (.int .i64 r138)), (17, .d (.int .i64 r116)), (18, .d (.int .i64 r139)), (19, .d (.int .i64 r117)), (20, .d (.int .i64 r122)), (83, .d (.bool false))]) (H' := []) (hnd := by decide) (h := ?_)
     exact hj2 false
  ·refine bPickF 74 (fun c => F (c && (r144 == r136))) (h1 := fun hc => ?_) (h2 := fun hc => ?_)
   ·refine oP (.d (.int .i64 r144)) p_move ?_
    refine oP (.d (.int .i64 r136)) p_move ?_
    refine oP (.d (.bool (r144 == r136))) (p_int (k := .i64) (p := r144) (q := r136)) ?_
    refine oP (.d (.bool (r144 == r136))) (p_pick (b := true)) ?_
    refine oHead [13, 14, 15, 16, 17, 18, 19, 20, 78] [] (T' := [(13, .d (.int .i64 r137)), (14, .d (.int .i64 r145)), (15, .d (.int .i64 r115)), (16, .d (.int .i64 r138)), (17, .d (.int .i64 r116)), (18, .d (.int .i64 r139)), (19, .d (.int .i64 r117)), (20, .d (.int .i64 r122)), (78, .d (.bool (r144 == r136)))]) (H' := []) (hnd := by decide) (h := ?_)
    exact hj1 (r144 == r136)
   ·refine oNot (h := ?_)
    refine oNot (h := ?_)
    refine oNot (h := ?_)
    refine oP (.d (.bool false)) (p_pick (b := false)) ?_
    refine oHead [13, 14, 15, 16, 17, 18, 19, 20, 78] [] (T' := [(13, .d (.int .i64 r137)), (14, .d (.int .i64 r145)), (15, .d (.int .i64 r115)), (16, .d (.int .i64 r138)), (17, .d (.int .i64 r116)), (18, .d (.int .i64 r139)), (19, .d (.int .i64 r117)), (20, .d (.int .i64 r122)), (78, .d (.bool false))]) (H' := []) (hnd := by decide) (h := ?_)
    exact hj1 false

end Go.VM
