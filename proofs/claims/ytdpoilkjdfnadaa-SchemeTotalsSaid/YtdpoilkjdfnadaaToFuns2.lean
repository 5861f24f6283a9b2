/- Plain functions that answer as the program's functions do, and the proof that they do. -/
import Derived.Test.YtdpoilkjdfnadaaProg
import Derived.KernelRfl
import Derived.Test.YtdpoilkjdfnadaaEngDeepCM
import Derived.Test.YtdpoilkjdfnadaaToFacts
import Derived.Test.YtdpoilkjdfnadaaToFuns1
namespace Go.VM
open Go.Proofs
set_option linter.unusedVariables false
set_option linter.unusedSimpArgs false
set_option maxRecDepth 100000
/-- slices.IndexFunc[[]awardingbody/api.Part,awardingbody/api.Part] -/
def slices_IndexFunc_api_Part_api_Part_b1 (k : Nat) (s1 : (List SPart)) (again : Int → Option ((Unit) ⊕ (Int))) : Int → Option ((Unit) ⊕ (Int)) := fun x4 => bif (decide (x4 < ((List.length s1) : Int))) then gidx s1 x4 fun e113 => Option.bind (item_bad k e113.Kind e113.Max e113.Topic e113.Objective e113.Options e113.Key) (fun r114 => bif r114 then some (Sum.inr x4) else again (IntKind.wrap .i64 (x4 + 1))) else some (Sum.inl ())
def slices_IndexFunc_api_Part_api_Part (k : Nat) (s1 : (List SPart)) : Option (Int) := Option.bind (gloop (slices_IndexFunc_api_Part_api_Part_b1 k s1) k 0 : Option ((Unit) ⊕ (Int))) (Sum.elim (u0 (some (-1))) (fun r => some r))
def slices_IndexFunc_api_Part_api_Part_E (s1 : (List SPart)) : Int → V × List Blk := fun r14 => (.d (.int .i64 r14), [])
theorem slices_IndexFunc_api_Part_api_Part_goes (k : Nat) (s1 : (List SPart)) : RunsO Try.prog 66 [.d (.lit (List.map e_SPart s1)), .fn 61 []] [] (slices_IndexFunc_api_Part_api_Part_E s1) (slices_IndexFunc_api_Part_api_Part k s1) := by
  refine RunsO.of_goes (N := 19) (m := 0) (T := [(0, .d (.lit (List.map e_SPart s1))), (1, .fn 61 [])]) Try.func66 rfl rfl (h := ?_)
  unfold slices_IndexFunc_api_Part_api_Part
  refine bStart ?_
  refine oSR rfl ?_
  refine oP (.d (.int .i64 0)) p_assign ?_
  refine oEnd ?_
  refine oSeq ?_
  refine oSR rfl ?_
  refine oP (.d (.lit (List.map e_SPart s1))) p_move ?_
  refine oP (.d (.int .i64 ((List.length s1) : Int))) (k_lenLit (enc := e_SPart) s1 (hu := Try.underlying25)) ?_
  refine oP (.d (.int .i64 0)) p_move ?_
  refine oEnd ?_
  refine bJoin ((u0 ([]))) ((u0 ([]))) Sum.inl (fun s => ?_) (fun hj2 => ?_)
  ·cases s
   refine bInl ?_
   refine bU0 ?_
   refine oView (T' := []) (H' := []) (h := ?_)
   refine oSR rfl ?_
   refine oP (.d (.int .i64 (-1))) p_assign ?_
   refine oEnd ?_
   exact oRet (r0 := (-1)) (rv := .d (.int .i64 (-1))) (B := []) (vs := [.d (.int .i64 (-1))]) (σ := []) (hf := Try.func66) (hrs := rfl) (hres := .cons _ _ _ _ (.tmp 4 _ (by kernel_rfl)) .nil) (hnd := by decide)
  ·refine oBlock ?_
   refine oLoop ?_
   refine oHead [0, 1, 7, 8] [] (T' := [(0, .d (.lit (List.map e_SPart s1))), (1, .fn 61 []), (7, .d (.int .i64 ((List.length s1) : Int))), (8, .d (.int .i64 0))]) (H' := []) (hnd := by decide) (h := ?_)
   refine bLoop (body := slices_IndexFunc_api_Part_api_Part_b1 k s1) ((fun (x4 : Int) => [(0, .d (.lit (List.map e_SPart s1))), (1, .fn 61 []), (7, .d (.int .i64 ((List.length s1) : Int))), (8, .d (.int .i64 x4))])) ((fun (x4 : Int) => [])) (fun again hag1 x4 => ?_) k 0
   ·unfold slices_IndexFunc_api_Part_api_Part_b1
    refine oView (T' := [(0, .d (.lit (List.map e_SPart s1))), (1, .fn 61 []), (7, .d (.int .i64 ((List.length s1) : Int))), (8, .d (.int .i64 x4))]) (H' := []) (h := ?_)
    refine oSR rfl ?_
    refine oP (.d (.bool (decide (x4 < ((List.length s1) : Int))))) (p_int (k := .i64) (p := x4) (q := ((List.length s1) : Int))) ?_
    refine oEnd ?_
    refine oSeq ?_
    refine bSplit 9 (h1 := fun hc => ?_) (h2 := fun hc => ?_)
    ·refine oCondT (h := ?_)
     refine oSkip ?_
     refine oSeq ?_
     refine oBlock ?_
     refine oSR rfl ?_
     refine oP (.d (.int .i64 x4)) p_move ?_
     refine oP (.d (.int .i64 x4)) p_assign ?_
     refine oEnd ?_
     refine oSR rfl ?_
     refine oP (.fn 61 []) p_move ?_
     refine oP (.d (.lit (List.map e_SPart s1))) p_move ?_
     refine oP (.d (.int .i64 x4)) p_move ?_
     refine bIdx (fun e113 h126 h127 => ?_)
     refine oP (.lptr (e_SPart e113) 0) (k_idxLit e_SPart_len s1 (a := e113) (k := .i64) (i := x4) (hu := Try.underlying25) (hi := ty49) (h0 := h126) (he := h127)) ?_
     refine oQ (.agg [.d (.int .i64 e113.Kind), .d (.int .i64 e113.Max), .d (.int .i64 e113.Topic), .d (.int .i64 e113.Objective), .d (.int .i64 e113.Options), .d (.int .i64 e113.Key)]) (k_loadLAgg (cells := e_SPart e113) 0 [(.int .i64 e113.Kind), (.int .i64 e113.Max), (.int .i64 e113.Topic), (.int .i64 e113.Objective), (.int .i64 e113.Options), (.int .i64 e113.Key)] (hu := Try.underlying49) (hi := ty49)) ?_
     refine bCall (caps := []) (v := (fun (r114 : Bool) => (.d (.bool r114) : V))) (H' := (fun (r114 : Bool) => ([] : List Blk))) [] _ (item_bad_goes k e113.Kind e113.Max e113.Topic e113.Objective e113.Options e113.Key) (ho := rfl) (hfn := Try.func61) (hb := rfl) (hconv := ConvRs.refl _ _) (hnd := by decide) (hBl := fun _ => (by kernel_rfl)) (hv := fun _ => (by kernel_rfl)) (hH' := fun _ => (by kernel_rfl)) (h := fun r114 => ?_)
     refine oEnd ?_
     refine bSplit 16 (h1 := fun hc => ?_) (h2 := fun hc => ?_)
     ·refine oCondT (h := ?_)
      refine oSR rfl ?_
      refine oP (.d (.int .i64 x4)) p_move ?_
      refine oP (.d (.int .i64 x4)) p_assign ?_
      refine oEnd ?_
      exact oRet (r0 := x4) (rv := .d (.int .i64 x4)) (B := []) (vs := [.d (.int .i64 x4)]) (σ := []) (hf := Try.func66) (hrs := rfl) (hres := .cons _ _ _ _ (.tmp 4 _ (by kernel_rfl)) .nil) (hnd := by decide)
     ·refine oCondF (h := ?_)
      refine oSkip ?_
      refine oBlk ?_
      refine oRegion rfl ?_
      refine oP (.d (.int .i64 (IntKind.wrap .i64 (x4 + 1)))) (p_int (k := .i64) (p := x4) (q := 1)) ?_
      refine oP (.d (.int .i64 (IntKind.wrap .i64 (x4 + 1)))) p_move ?_
      refine oEnd ?_
      refine oAgain ?_
      refine oHead [0, 1, 7, 8] [] (T' := [(0, .d (.lit (List.map e_SPart s1))), (1, .fn 61 []), (7, .d (.int .i64 ((List.length s1) : Int))), (8, .d (.int .i64 (IntKind.wrap .i64 (x4 + 1))))]) (H' := []) (hnd := by decide) (h := ?_)
      exact hag1 (IntKind.wrap .i64 (x4 + 1))
    ·refine oCondF (h := ?_)
     refine oExit rfl ?_
     refine oHead [] [] (T' := []) (H' := []) (hnd := by decide) (h := ?_)
     exact hj2 ()

/-- slices.ContainsFunc[[]awardingbody/api.Part,awardingbody/api.Part] -/
def slices_ContainsFunc_api_Part_api_Part (k : Nat) (s1 : (List SPart)) : Option (Bool) := Option.bind (slices_IndexFunc_api_Part_api_Part k s1) (fun r141 => some (decide (r141 ≥ 0)))
def slices_ContainsFunc_api_Part_api_Part_E (s1 : (List SPart)) : Bool → V × List Blk := fun r1 => (.d (.bool r1), [])
theorem slices_ContainsFunc_api_Part_api_Part_goes (k : Nat) (s1 : (List SPart)) : RunsO Try.prog 60 [.d (.lit (List.map e_SPart s1)), .fn 61 []] [] (slices_ContainsFunc_api_Part_api_Part_E s1) (slices_ContainsFunc_api_Part_api_Part k s1) := by
  refine RunsO.of_goes (N := 9) (m := 0) (T := [(0, .d (.lit (List.map e_SPart s1))), (1, .fn 61 [])]) Try.func60 rfl rfl (h := ?_)
  unfold slices_ContainsFunc_api_Part_api_Part
  refine bStart ?_
  refine oSR rfl ?_
  refine oP (.d (.bool false)) p_assign ?_
  refine oEnd ?_
  refine oSR rfl ?_
  refine oP (.d (.lit (List.map e_SPart s1))) p_move ?_
  refine oP (.fn 61 []) p_move ?_
  refine bCall (caps := []) (v := (fun (r141 : Int) => (.d (.int .i64 r141) : V))) (H' := (fun (r141 : Int) => ([] : List Blk))) [] _ (slices_IndexFunc_api_Part_api_Part_goes k s1) (ho := rfl) (hfn := Try.func66) (hb := rfl) (hconv := ConvRs.refl _ _) (hnd := by decide) (hBl := fun _ => (by kernel_rfl)) (hv := fun _ => (by kernel_rfl)) (hH' := fun _ => (by kernel_rfl)) (h := fun r141 => ?_)
  refine oP (.d (.bool (decide (r141 ≥ 0)))) (p_int (k := .i64) (p := r141) (q := 0)) ?_
  refine oP (.d (.bool (decide (r141 ≥ 0)))) p_assign ?_
  refine oEnd ?_
  exact oRet (r0 := (decide (r141 ≥ 0))) (rv := .d (.bool (decide (r141 ≥ 0)))) (B := []) (vs := [.d (.bool (decide (r141 ≥ 0)))]) (σ := []) (hf := Try.func60) (hrs := rfl) (hres := .cons _ _ _ _ (.tmp 4 _ (by kernel_rfl)) .nil) (hnd := by decide)

/-- awardingbody/item.sum -/
def item_sum_b1 (k : Nat) (l : (List SPart)) (again : Int × Int → Option (Int)) : Int × Int → Option (Int) := uc fun n6 => fun x4 => bif (decide (x4 < ((List.length l) : Int))) then gidx l x4 fun e113 => again ((IntKind.wrap .i64 (n6 + e113.Max)), (IntKind.wrap .i64 (x4 + 1))) else some n6
def item_sum (k : Nat) (l : (List SPart)) : Option (Int) := Option.bind (gloop (item_sum_b1 k l) k (0, 0) : Option (Int)) (fun n5 => some n5)
def item_sum_E (l : (List SPart)) : Int → V × List Blk := fun r1 => (.d (.int .i64 r1), [])
theorem item_sum_goes (k : Nat) (l : (List SPart)) : RunsO Try.prog 62 [.d (.lit (List.map e_SPart l))] [] (item_sum_E l) (item_sum k l) := by
  refine RunsO.of_goes (N := 18) (m := 0) (T := [(0, .d (.lit (List.map e_SPart l)))]) Try.func62 rfl rfl (h := ?_)
  unfold item_sum
  refine bStart ?_
  refine oSR rfl ?_
  refine oP (.d (.int .i64 0)) p_assign ?_
  refine oEnd ?_
  refine oSR rfl ?_
  refine oP (.d (.int .i64 0)) p_assign ?_
  refine oEnd ?_
  refine oSeq ?_
  refine oSR rfl ?_
  refine oP (.d (.lit (List.map e_SPart l))) p_move ?_
  refine oP (.d (.int .i64 ((List.length l) : Int))) (k_lenLit (enc := e_SPart) l (hu := Try.underlying25)) ?_
  refine oP (.d (.int .i64 0)) p_move ?_
  refine oEnd ?_
  refine bJoin ((fun (n5 : Int) => [(3, .d (.int .i64 n5))])) ((fun (n5 : Int) => [])) (fun s => s) (fun n5 => ?_) (fun hj2 => ?_)
  ·refine oView (T' := [(3, .d (.int .i64 n5))]) (H' := []) (h := ?_)
   refine oSR rfl ?_
   refine oP (.d (.int .i64 n5)) p_move ?_
   refine oP (.d (.int .i64 n5)) p_assign ?_
   refine oEnd ?_
   exact oRet (r0 := n5) (rv := .d (.int .i64 n5)) (B := []) (vs := [.d (.int .i64 n5)]) (σ := []) (hf := Try.func62) (hrs := rfl) (hres := .cons _ _ _ _ (.tmp 2 _ (by kernel_rfl)) .nil) (hnd := by decide)
  ·refine oBlock ?_
   refine oLoop ?_
   refine oHead [3, 6, 7, 8] [] (T' := [(3, .d (.int .i64 0)), (6, .d (.lit (List.map e_SPart l))), (7, .d (.int .i64 ((List.length l) : Int))), (8, .d (.int .i64 0))]) (H' := []) (hnd := by decide) (h := ?_)
   refine bLoop (body := item_sum_b1 k l) ((uc fun (n6 : Int) => (fun (x4 : Int) => [(3, .d (.int .i64 n6)), (6, .d (.lit (List.map e_SPart l))), (7, .d (.int .i64 ((List.length l) : Int))), (8, .d (.int .i64 x4))]))) ((uc fun (n6 : Int) => (fun (x4 : Int) => []))) (fun again hag1 s => ?_) k (0, 0)
   ·unfold item_sum_b1
    obtain ⟨n6, x4⟩ := s
    refine bUc ?_
    refine oView (T' := [(3, .d (.int .i64 n6)), (6, .d (.lit (List.map e_SPart l))), (7, .d (.int .i64 ((List.length l) : Int))), (8, .d (.int .i64 x4))]) (H' := []) (h := ?_)
    refine oSR rfl ?_
    refine oP (.d (.bool (decide (x4 < ((List.length l) : Int))))) (p_int (k := .i64) (p := x4) (q := ((List.length l) : Int))) ?_
    refine oEnd ?_
    refine oSeq ?_
    refine bSplit 9 (h1 := fun hc => ?_) (h2 := fun hc => ?_)
    ·refine oCondT (h := ?_)
     refine oSkip ?_
     refine oSeq ?_
     refine oBlock ?_
     refine oSR rfl ?_
     refine bIdx (fun e113 h126 h127 => ?_)
     refine oP (.lptr (e_SPart e113) 0) (k_idxLit e_SPart_len l (a := e113) (k := .i64) (i := x4) (hu := Try.underlying25) (hi := ty49) (h0 := h126) (he := h127)) ?_
     refine oQ (.agg [.d (.int .i64 e113.Kind), .d (.int .i64 e113.Max), .d (.int .i64 e113.Topic), .d (.int .i64 e113.Objective), .d (.int .i64 e113.Options), .d (.int .i64 e113.Key)]) (k_loadLAgg (cells := e_SPart e113) 0 [(.int .i64 e113.Kind), (.int .i64 e113.Max), (.int .i64 e113.Topic), (.int .i64 e113.Objective), (.int .i64 e113.Options), (.int .i64 e113.Key)] (hu := Try.underlying49) (hi := ty49)) ?_
     refine oD (.ptr 0 0) (k_alloc (H' := [.box [.d (.int .i64 0), .d (.int .i64 0), .d (.int .i64 0), .d (.int .i64 0), .d (.int .i64 0), .d (.int .i64 0)]]) ty49) ?_
     refine oD (.undef) (k_store (vs := [.d (.int .i64 e113.Kind), .d (.int .i64 e113.Max), .d (.int .i64 e113.Topic), .d (.int .i64 e113.Objective), .d (.int .i64 e113.Options), .d (.int .i64 e113.Key)]) (H' := [.box [.d (.int .i64 e113.Kind), .d (.int .i64 e113.Max), .d (.int .i64 e113.Topic), .d (.int .i64 e113.Objective), .d (.int .i64 e113.Options), .d (.int .i64 e113.Key)]]) 0 0 (hi := ty49)) ?_
     refine oEnd ?_
     refine oRegion rfl ?_
     refine oP (.d (.int .i64 n6)) p_move ?_
     refine oP (.ptr 0 1) (k_fieldAddr 0 0 (hu := Try.underlying49) (hf := rfl) (hi := ty3)) ?_
     refine oQ (.d (.int .i64 e113.Max)) (k_load 0 1 (hu := Try.underlying3)) ?_
     refine oP (.d (.int .i64 (IntKind.wrap .i64 (n6 + e113.Max)))) (p_int (k := .i64) (p := n6) (q := e113.Max)) ?_
     refine oP (.d (.int .i64 (IntKind.wrap .i64 (n6 + e113.Max)))) p_assign ?_
     refine oEnd ?_
     refine oBlk ?_
     refine oRegion rfl ?_
     refine oP (.d (.int .i64 (IntKind.wrap .i64 (x4 + 1)))) (p_int (k := .i64) (p := x4) (q := 1)) ?_
     refine oP (.d (.int .i64 (IntKind.wrap .i64 (x4 + 1)))) p_move ?_
     refine oEnd ?_
     refine oAgain ?_
     refine oHead [3, 6, 7, 8] [] (T' := [(3, .d (.int .i64 (IntKind.wrap .i64 (n6 + e113.Max)))), (6, .d (.lit (List.map e_SPart l))), (7, .d (.int .i64 ((List.length l) : Int))), (8, .d (.int .i64 (IntKind.wrap .i64 (x4 + 1))))]) (H' := []) (hnd := by decide) (h := ?_)
     exact hag1 ((IntKind.wrap .i64 (n6 + e113.Max)), (IntKind.wrap .i64 (x4 + 1)))
    ·refine oCondF (h := ?_)
     refine oExit rfl ?_
     refine oHead [3] [] (T' := [(3, .d (.int .i64 n6))]) (H' := []) (hnd := by decide) (h := ?_)
     exact hj2 n6

/-- awardingbody/item.ValidPaper -/
def item_ValidPaper (k : Nat) (p0 : Int) (p1 : Int) (p2 : (List SPart)) : Option (Bool) := Option.bind (item_in k p0 0 31) (fun r16 => Option.bind (bif r16 then Option.bind (item_in k p1 0 3) (fun r114 => some r114) else some false : Option (Bool)) (fun x4 => Option.bind (bif x4 then Option.bind (item_in k ((List.length p2) : Int) 1 24) (fun r113 => some r113) else some false : Option (Bool)) (fun x5 => Option.bind (bif x5 then Option.bind (slices_ContainsFunc_api_Part_api_Part k p2) (fun r112 => some (!r112)) else some false : Option (Bool)) (fun x6 => Option.bind (bif x6 then Option.bind (item_sum k p2) (fun r111 => some (decide (r111 ≤ 200))) else some false : Option (Bool)) (fun x7 => some x7)))))
def item_ValidPaper_E (p0 : Int) (p1 : Int) (p2 : (List SPart)) : Bool → V × List Blk := fun r15 => (.d (.bool r15), [])
theorem item_ValidPaper_goes (k : Nat) (p0 : Int) (p1 : Int) (p2 : (List SPart)) : RunsO Try.prog 51 [.agg [.d (.int .i64 p0), .d (.int .i64 p1), .d (.lit (List.map e_SPart p2))]] [] (item_ValidPaper_E p0 p1 p2) (item_ValidPaper k p0 p1 p2) := by
  refine RunsO.of_goes (N := 29) (m := 0) (T := [(0, .agg [.d (.int .i64 p0), .d (.int .i64 p1), .d (.lit (List.map e_SPart p2))])]) Try.func51 rfl rfl (h := ?_)
  unfold item_ValidPaper
  refine bStart ?_
  refine oSR rfl ?_
  refine oD (.ptr 0 0) (k_box (H' := [.box [.d (.int .i64 p0), .d (.int .i64 p1), .d (.lit (List.map e_SPart p2))]]) (cells := [.d (.int .i64 p0), .d (.int .i64 p1), .d (.lit (List.map e_SPart p2))])) ?_
  refine oP (.d (.bool false)) p_assign ?_
  refine oEnd ?_
  refine oSR rfl ?_
  refine oP (.ptr 0 0) (k_fieldAddr 0 0 (hu := Try.underlying27) (hf := rfl) (hi := ty3)) ?_
  refine oQ (.d (.int .i64 p0)) (k_load 0 0 (hu := Try.underlying3)) ?_
  refine bCall (caps := []) (v := (fun (r16 : Bool) => (.d (.bool r16) : V))) (H' := (fun (r16 : Bool) => ([.box [.d (.int .i64 p0), .d (.int .i64 p1), .d (.lit (List.map e_SPart p2))]] : List Blk))) [] _ (item_in_goes k p0 0 31) (ho := rfl) (hfn := Try.func59) (hb := rfl) (hconv := ConvRs.refl _ _) (hnd := by decide) (hBl := fun _ => (by kernel_rfl)) (hv := fun _ => (by kernel_rfl)) (hH' := fun _ => (by kernel_rfl)) (h := fun r16 => ?_)
  refine oP (.d (.bool r16)) p_move ?_
  refine bMeet 4 rfl ((fun (x4 : Bool) => [(1, .ptr 0 0), (10, .d (.bool x4))])) ((fun (x4 : Bool) => [.box [.d (.int .i64 p0), .d (.int .i64 p1), .d (.lit (List.map e_SPart p2))]])) (fun s => s) (fun x4 => ?_) (fun hj4 => ?_)
  ·refine oView (T' := [(1, .ptr 0 0), (10, .d (.bool x4))]) (H' := [.box [.d (.int .i64 p0), .d (.int .i64 p1), .d (.lit (List.map e_SPart p2))]]) (h := ?_)
   refine oP (.d (.bool x4)) p_move ?_
   refine bMeet 5 rfl ((fun (x5 : Bool) => [(1, .ptr 0 0), (16, .d (.bool x5))])) ((fun (x5 : Bool) => [.box [.d (.int .i64 p0), .d (.int .i64 p1), .d (.lit (List.map e_SPart p2))]])) (fun s => s) (fun x5 => ?_) (fun hj3 => ?_)
   ·refine oView (T' := [(1, .ptr 0 0), (16, .d (.bool x5))]) (H' := [.box [.d (.int .i64 p0), .d (.int .i64 p1), .d (.lit (List.map e_SPart p2))]]) (h := ?_)
    refine oP (.d (.bool x5)) p_move ?_
    refine bMeet 5 rfl ((fun (x6 : Bool) => [(1, .ptr 0 0), (22, .d (.bool x6))])) ((fun (x6 : Bool) => [.box [.d (.int .i64 p0), .d (.int .i64 p1), .d (.lit (List.map e_SPart p2))]])) (fun s => s) (fun x6 => ?_) (fun hj2 => ?_)
    ·refine oView (T' := [(1, .ptr 0 0), (22, .d (.bool x6))]) (H' := [.box [.d (.int .i64 p0), .d (.int .i64 p1), .d (.lit (List.map e_SPart p2))]]) (h := ?_)
     refine oP (.d (.bool x6)) p_move ?_
     refine bMeet 5 rfl ((fun (x7 : Bool) => [(28, .d (.bool x7))])) ((fun (x7 : Bool) => [])) (fun s => s) (fun x7 => ?_) (fun hj1 => ?_)
     ·refine oView (T' := [(28, .d (.bool x7))]) (H' := []) (h := ?_)
      refine oP (.d (.bool x7)) p_assign ?_
      refine oEnd ?_
      exact oRet (r0 := x7) (rv := .d (.bool x7)) (B := []) (vs := [.d (.bool x7)]) (σ := []) (hf := Try.func51) (hrs := rfl) (hres := .cons _ _ _ _ (.tmp 2 _ (by kernel_rfl)) .nil) (hnd := by decide)
     ·refine bSplit 23 (h1 := fun hc => ?_) (h2 := fun hc => ?_)
      ·refine oP (.ptr 0 2) (k_fieldAddr 0 0 (hu := Try.underlying27) (hf := rfl) (hi := ty25)) ?_
       refine oQ (.d (.lit (List.map e_SPart p2))) (k_load 0 2 (hu := Try.underlying25)) ?_
       refine bCall (caps := []) (v := (fun (r111 : Int) => (.d (.int .i64 r111) : V))) (H' := (fun (r111 : Int) => ([.box [.d (.int .i64 p0), .d (.int .i64 p1), .d (.lit (List.map e_SPart p2))]] : List Blk))) [] _ (item_sum_goes k p2) (ho := rfl) (hfn := Try.func62) (hb := rfl) (hconv := ConvRs.refl _ _) (hnd := by decide) (hBl := fun _ => (by kernel_rfl)) (hv := fun _ => (by kernel_rfl)) (hH' := fun _ => (by kernel_rfl)) (h := fun r111 => ?_)
       refine oP (.d (.bool (decide (r111 ≤ 200)))) (p_int (k := .i64) (p := r111) (q := 200)) ?_
       refine oP (.d (.bool (decide (r111 ≤ 200)))) (p_pick (b := true)) ?_
       refine oHead [28] [] (T' := [(28, .d (.bool (decide (r111 ≤ 200))))]) (H' := []) (hnd := by decide) (h := ?_)
       exact hj1 (decide (r111 ≤ 200))
      ·refine oNot (h := ?_)
       refine oNot (h := ?_)
       refine oNot (h := ?_)
       refine oNot (h := ?_)
       refine oP (.d (.bool false)) (p_pick (b := false)) ?_
       refine oHead [28] [] (T' := [(28, .d (.bool false))]) (H' := []) (hnd := by decide) (h := ?_)
       exact hj1 false
    ·refine bSplit 17 (h1 := fun hc => ?_) (h2 := fun hc => ?_)
     ·refine oP (.ptr 0 2) (k_fieldAddr 0 0 (hu := Try.underlying27) (hf := rfl) (hi := ty25)) ?_
      refine oQ (.d (.lit (List.map e_SPart p2))) (k_load 0 2 (hu := Try.underlying25)) ?_
      refine bCall (caps := []) (v := (fun (r112 : Bool) => (.d (.bool r112) : V))) (H' := (fun (r112 : Bool) => ([.box [.d (.int .i64 p0), .d (.int .i64 p1), .d (.lit (List.map e_SPart p2))]] : List Blk))) [] _ (slices_ContainsFunc_api_Part_api_Part_goes k p2) (ho := rfl) (hfn := Try.func60) (hb := rfl) (hconv := ConvRs.refl _ _) (hnd := by decide) (hBl := fun _ => (by kernel_rfl)) (hv := fun _ => (by kernel_rfl)) (hH' := fun _ => (by kernel_rfl)) (h := fun r112 => ?_)
      refine oP (.d (.bool (!r112))) (p_not (p := r112)) ?_
      refine oP (.d (.bool (!r112))) (p_pick (b := true)) ?_
      refine oHead [1, 22] [0] (T' := [(1, .ptr 0 0), (22, .d (.bool (!r112)))]) (H' := [.box [.d (.int .i64 p0), .d (.int .i64 p1), .d (.lit (List.map e_SPart p2))]]) (hnd := by decide) (h := ?_)
      exact hj2 (!r112)
     ·refine oNot (h := ?_)
      refine oNot (h := ?_)
      refine oNot (h := ?_)
      refine oNot (h := ?_)
      refine oP (.d (.bool false)) (p_pick (b := false)) ?_
      refine oHead [1, 22] [0] (T' := [(1, .ptr 0 0), (22, .d (.bool false))]) (H' := [.box [.d (.int .i64 p0), .d (.int .i64 p1), .d (.lit (List.map e_SPart p2))]]) (hnd := by decide) (h := ?_)
      exact hj2 false
   ·refine bSplit 11 (h1 := fun hc => ?_) (h2 := fun hc => ?_)
    ·refine oP (.ptr 0 2) (k_fieldAddr 0 0 (hu := Try.underlying27) (hf := rfl) (hi := ty25)) ?_
     refine oQ (.d (.lit (List.map e_SPart p2))) (k_load 0 2 (hu := Try.underlying25)) ?_
     refine oP (.d (.int .i64 ((List.length p2) : Int))) (k_lenLit (enc := e_SPart) p2 (hu := Try.underlying25)) ?_
     refine bCall (caps := []) (v := (fun (r113 : Bool) => (.d (.bool r113) : V))) (H' := (fun (r113 : Bool) => ([.box [.d (.int .i64 p0), .d (.int .i64 p1), .d (.lit (List.map e_SPart p2))]] : List Blk))) [] _ (item_in_goes k ((List.length p2) : Int) 1 24) (ho := rfl) (hfn := Try.func59) (hb := rfl) (hconv := ConvRs.refl _ _) (hnd := by decide) (hBl := fun _ => (by kernel_rfl)) (hv := fun _ => (by kernel_rfl)) (hH' := fun _ => (by kernel_rfl)) (h := fun r113 => ?_)
     refine oP (.d (.bool r113)) (p_pick (b := true)) ?_
     refine oHead [1, 16] [0] (T' := [(1, .ptr 0 0), (16, .d (.bool r113))]) (H' := [.box [.d (.int .i64 p0), .d (.int .i64 p1), .d (.lit (List.map e_SPart p2))]]) (hnd := by decide) (h := ?_)
     exact hj3 r113
    ·refine oNot (h := ?_)
     refine oNot (h := ?_)
     refine oNot (h := ?_)
     refine oNot (h := ?_)
     refine oP (.d (.bool false)) (p_pick (b := false)) ?_
     refine oHead [1, 16] [0] (T' := [(1, .ptr 0 0), (16, .d (.bool false))]) (H' := [.box [.d (.int .i64 p0), .d (.int .i64 p1), .d (.lit (List.map e_SPart p2))]]) (hnd := by decide) (h := ?_)
     exact hj3 false
  ·refine bSplit 6 (h1 := fun hc => ?_) (h2 := fun hc => ?_)
   ·refine oP (.ptr 0 1) (k_fieldAddr 0 0 (hu := Try.underlying27) (hf := rfl) (hi := ty3)) ?_
    refine oQ (.d (.int .i64 p1)) (k_load 0 1 (hu := Try.underlying3)) ?_
    refine bCall (caps := []) (v := (fun (r114 : Bool) => (.d (.bool r114) : V))) (H' := (fun (r114 : Bool) => ([.box [.d (.int .i64 p0), .d (.int .i64 p1), .d (.lit (List.map e_SPart p2))]] : List Blk))) [] _ (item_in_goes k p1 0 3) (ho := rfl) (hfn := Try.func59) (hb := rfl) (hconv := ConvRs.refl _ _) (hnd := by decide) (hBl := fun _ => (by kernel_rfl)) (hv := fun _ => (by kernel_rfl)) (hH' := fun _ => (by kernel_rfl)) (h := fun r114 => ?_)
    refine oP (.d (.bool r114)) (p_pick (b := true)) ?_
    refine oHead [1, 10] [0] (T' := [(1, .ptr 0 0), (10, .d (.bool r114))]) (H' := [.box [.d (.int .i64 p0), .d (.int .i64 p1), .d (.lit (List.map e_SPart p2))]]) (hnd := by decide) (h := ?_)
    exact hj4 r114
   ·refine oNot (h := ?_)
    refine oNot (h := ?_)
    refine oNot (h := ?_)
    refine oP (.d (.bool false)) (p_pick (b := false)) ?_
    refine oHead [1, 10] [0] (T' := [(1, .ptr 0 0), (10, .d (.bool false))]) (H' := [.box [.d (.int .i64 p0), .d (.int .i64 p1), .d (.lit (List.map e_SPart p2))]]) (hnd := by decide) (h := ?_)
    exact hj4 false

/-- awardingbody/scheme.known -/
def scheme_known (k : Nat) (kind : Int) : Option (Bool) := Option.bind (bif (kind == 0) then some true else bif (kind == 1) then some true else some (kind == 2) : Option (Bool)) (fun x3 => bif x3 then some true else some false)
def scheme_known_E (kind : Int) : Bool → V × List Blk := fun r1 => (.d (.bool r1), [])
theorem scheme_known_goes (k : Nat) (kind : Int) : RunsO Try.prog 49 [.d (.int .i64 kind)] [] (scheme_known_E kind) (scheme_known k kind) := by
  refine RunsO.of_goes (N := 8) (m := 0) (T := [(0, .d (.int .i64 kind))]) Try.func49 rfl rfl (h := ?_)
  unfold scheme_known
  refine bStart ?_
  refine oSR rfl ?_
  refine oP (.d (.bool false)) p_assign ?_
  refine oEnd ?_
  refine oSeq ?_
  refine oSR rfl ?_
  refine oP (.d (.int .i64 kind)) p_move ?_
  refine oEnd ?_
  refine oBlock ?_
  refine oSeq ?_
  refine oSR rfl ?_
  refine oP (.d (.bool (kind == 0))) (p_int (k := .i64) (p := kind) (q := 0)) ?_
  refine oP (.d (.bool (kind == 0))) p_assign ?_
  refine oEnd ?_
  refine bJoin ((fun (x3 : Bool) => [(4, .d (.bool x3))])) ((fun (x3 : Bool) => [])) (fun s => s) (fun x3 => ?_) (fun hj4 => ?_)
  ·refine oView (T' := [(4, .d (.bool x3))]) (H' := []) (h := ?_)
   refine bSplit 4 (h1 := fun hc => ?_) (h2 := fun hc => ?_)
   ·refine oCondT (h := ?_)
    refine oSR rfl ?_
    refine oP (.d (.bool true)) p_assign ?_
    refine oEnd ?_
    exact oRet (r0 := true) (rv := .d (.bool true)) (B := []) (vs := [.d (.bool true)]) (σ := []) (hf := Try.func49) (hrs := rfl) (hres := .cons _ _ _ _ (.tmp 2 _ (by kernel_rfl)) .nil) (hnd := by decide)
   ·refine oCondF (h := ?_)
    refine oSkip ?_
    refine oBlk ?_
    refine oSR rfl ?_
    refine oP (.d (.bool false)) p_assign ?_
    refine oEnd ?_
    exact oRet (r0 := false) (rv := .d (.bool false)) (B := []) (vs := [.d (.bool false)]) (σ := []) (hf := Try.func49) (hrs := rfl) (hres := .cons _ _ _ _ (.tmp 2 _ (by kernel_rfl)) .nil) (hnd := by decide)
  ·refine bSplit 4 (h1 := fun hc => ?_) (h2 := fun hc => ?_)
   ·refine oCondT (h := ?_)
    refine oSkip ?_
    refine oHead [4] [] (T' := [(4, .d (.bool true))]) (H' := []) (hnd := by decide) (h := ?_)
    exact hj4 true
   ·refine oCondF (h := ?_)
    refine oSR rfl ?_
    refine oP (.d (.bool (kind == 1))) (p_int (k := .i64) (p := kind) (q := 1)) ?_
    refine oP (.d (.bool (kind == 1))) p_assign ?_
    refine oEnd ?_
    refine bSplit 4 (h1 := fun hc => ?_) (h2 := fun hc => ?_)
    ·refine oCondT (h := ?_)
     refine oSkip ?_
     refine oHead [4] [] (T' := [(4, .d (.bool true))]) (H' := []) (hnd := by decide) (h := ?_)
     exact hj4 true
    ·refine oCondF (h := ?_)
     refine oRegion rfl ?_
     refine oP (.d (.bool (kind == 2))) (p_int (k := .i64) (p := kind) (q := 2)) ?_
     refine oP (.d (.bool (kind == 2))) p_assign ?_
     refine oEnd ?_
     refine oHead [4] [] (T' := [(4, .d (.bool (kind == 2)))]) (H' := []) (hnd := by decide) (h := ?_)
     exact hj4 (kind == 2)

/-- awardingbody/scheme.Valid$1 -/
def scheme_Valid_1 (k : Nat) (kind : Int) : Option (Bool) := Option.bind (scheme_known k kind) (fun r12 => some (!r12))
def scheme_Valid_1_E (kind : Int) : Bool → V × List Blk := fun r11 => (.d (.bool r11), [])
theorem scheme_Valid_1_goes (k : Nat) (kind : Int) : RunsO Try.prog 53 [.d (.int .i64 kind)] [] (scheme_Valid_1_E kind) (scheme_Valid_1 k kind) := by
  refine RunsO.of_goes (N := 6) (m := 0) (T := [(0, .d (.int .i64 kind))]) Try.func53 rfl rfl (h := ?_)
  unfold scheme_Valid_1
  refine bStart ?_
  refine oSR rfl ?_
  refine oP (.d (.bool false)) p_assign ?_
  refine oEnd ?_
  refine oSR rfl ?_
  refine oP (.d (.int .i64 kind)) p_move ?_
  refine bCall (caps := []) (v := (fun (r12 : Bool) => (.d (.bool r12) : V))) (H' := (fun (r12 : Bool) => ([] : List Blk))) [] _ (scheme_known_goes k kind) (ho := rfl) (hfn := Try.func49) (hb := rfl) (hconv := ConvRs.refl _ _) (hnd := by decide) (hBl := fun _ => (by kernel_rfl)) (hv := fun _ => (by kernel_rfl)) (hH' := fun _ => (by kernel_rfl)) (h := fun r12 => ?_)
  refine oP (.d (.bool (!r12))) (p_not (p := r12)) ?_
  refine oP (.d (.bool (!r12))) p_assign ?_
  refine oEnd ?_
  exact oRet (r0 := (!r12)) (rv := .d (.bool (!r12))) (B := []) (vs := [.d (.bool (!r12))]) (σ := []) (hf := Try.func53) (hrs := rfl) (hres := .cons _ _ _ _ (.tmp 2 _ (by kernel_rfl)) .nil) (hnd := by decide)

/-- slices.IndexFunc[[]int,int] -/
def slices_IndexFunc_int_b1 (k : Nat) (s1 : (List Int)) (again : Int → Option ((Unit) ⊕ (Int))) : Int → Option ((Unit) ⊕ (Int)) := fun x4 => bif (decide (x4 < ((List.length s1) : Int))) then gidx s1 x4 fun e113 => Option.bind (scheme_Valid_1 k e113) (fun r1113 => bif r1113 then some (Sum.inr x4) else again (IntKind.wrap .i64 (x4 + 1))) else some (Sum.inl ())
def slices_IndexFunc_int (k : Nat) (s1 : (List Int)) : Option (Int) := Option.bind (gloop (slices_IndexFunc_int_b1 k s1) k 0 : Option ((Unit) ⊕ (Int))) (Sum.elim (u0 (some (-1))) (fun r => some r))
def slices_IndexFunc_int_E (s1 : (List Int)) : Int → V × List Blk := fun r1 => (.d (.int .i64 r1), [])
theorem slices_IndexFunc_int_goes (k : Nat) (s1 : (List Int)) : RunsO Try.prog 63 [.d (.lit (List.map e_i64 s1)), .fn 53 []] [] (slices_IndexFunc_int_E s1) (slices_IndexFunc_int k s1) := by
  refine RunsO.of_goes (N := 19) (m := 0) (T := [(0, .d (.lit (List.map e_i64 s1))), (1, .fn 53 [])]) Try.func63 rfl rfl (h := ?_)
  unfold slices_IndexFunc_int
  refine bStart ?_
  refine oSR rfl ?_
  refine oP (.d (.int .i64 0)) p_assign ?_
  refine oEnd ?_
  refine oSeq ?_
  refine oSR rfl ?_
  refine oP (.d (.lit (List.map e_i64 s1))) p_move ?_
  refine oP (.d (.int .i64 ((List.length s1) : Int))) (k_lenLit (enc := e_i64) s1 (hu := Try.underlying22)) ?_
  refine oP (.d (.int .i64 0)) p_move ?_
  refine oEnd ?_
  refine bJoin ((u0 ([]))) ((u0 ([]))) Sum.inl (fun s => ?_) (fun hj2 => ?_)
  ·cases s
   refine bInl ?_
   refine bU0 ?_
   refine oView (T' := []) (H' := []) (h := ?_)
   refine oSR rfl ?_
   refine oP (.d (.int .i64 (-1))) p_assign ?_
   refine oEnd ?_
   exact oRet (r0 := (-1)) (rv := .d (.int .i64 (-1))) (B := []) (vs := [.d (.int .i64 (-1))]) (σ := []) (hf := Try.func63) (hrs := rfl) (hres := .cons _ _ _ _ (.tmp 4 _ (by kernel_rfl)) .nil) (hnd := by decide)
  ·refine oBlock ?_
   refine oLoop ?_
   refine oHead [0, 1, 7, 8] [] (T' := [(0, .d (.lit (List.map e_i64 s1))), (1, .fn 53 []), (7, .d (.int .i64 ((List.length s1) : Int))), (8, .d (.int .i64 0))]) (H' := []) (hnd := by decide) (h := ?_)
   refine bLoop (body := slices_IndexFunc_int_b1 k s1) ((fun (x4 : Int) => [(0, .d (.lit (List.map e_i64 s1))), (1, .fn 53 []), (7, .d (.int .i64 ((List.length s1) : Int))), (8, .d (.int .i64 x4))])) ((fun (x4 : Int) => [])) (fun again hag1 x4 => ?_) k 0
   ·unfold slices_IndexFunc_int_b1
    refine oView (T' := [(0, .d (.lit (List.map e_i64 s1))), (1, .fn 53 []), (7, .d (.int .i64 ((List.length s1) : Int))), (8, .d (.int .i64 x4))]) (H' := []) (h := ?_)
    refine oSR rfl ?_
    refine oP (.d (.bool (decide (x4 < ((List.length s1) : Int))))) (p_int (k := .i64) (p := x4) (q := ((List.length s1) : Int))) ?_
    refine oEnd ?_
    refine oSeq ?_
    refine bSplit 9 (h1 := fun hc => ?_) (h2 := fun hc => ?_)
    ·refine oCondT (h := ?_)
     refine oSkip ?_
     refine oSeq ?_
     refine oBlock ?_
     refine oSR rfl ?_
     refine oP (.d (.int .i64 x4)) p_move ?_
     refine oP (.d (.int .i64 x4)) p_assign ?_
     refine oEnd ?_
     refine oSR rfl ?_
     refine oP (.fn 53 []) p_move ?_
     refine oP (.d (.lit (List.map e_i64 s1))) p_move ?_
     refine oP (.d (.int .i64 x4)) p_move ?_
     refine bIdx (fun e113 h126 h127 => ?_)
     refine oP (.lptr (e_i64 e113) 0) (k_idxLit e_i64_len s1 (a := e113) (k := .i64) (i := x4) (hu := Try.underlying22) (hi := ty3) (h0 := h126) (he := h127)) ?_
     refine oQ (.d (.int .i64 e113)) (k_loadL (cells := e_i64 e113) 0 (hu := Try.underlying3)) ?_
     refine bCall (caps := []) (v := (fun (r1113 : Bool) => (.d (.bool r1113) : V))) (H' := (fun (r1113 : Bool) => ([] : List Blk))) [] _ (scheme_Valid_1_goes k e113) (ho := rfl) (hfn := Try.func53) (hb := rfl) (hconv := ConvRs.refl _ _) (hnd := by decide) (hBl := fun _ => (by kernel_rfl)) (hv := fun _ => (by kernel_rfl)) (hH' := fun _ => (by kernel_rfl)) (h := fun r1113 => ?_)
     refine oEnd ?_
     refine bSplit 16 (h1 := fun hc => ?_) (h2 := fun hc => ?_)
     ·refine oCondT (h := ?_)
      refine oSR rfl ?_
      refine oP (.d (.int .i64 x4)) p_move ?_
      refine oP (.d (.int .i64 x4)) p_assign ?_
      refine oEnd ?_
      exact oRet (r0 := x4) (rv := .d (.int .i64 x4)) (B := []) (vs := [.d (.int .i64 x4)]) (σ := []) (hf := Try.func63) (hrs := rfl) (hres := .cons _ _ _ _ (.tmp 4 _ (by kernel_rfl)) .nil) (hnd := by decide)
     ·refine oCondF (h := ?_)
      refine oSkip ?_
      refine oBlk ?_
      refine oRegion rfl ?_
      refine oP (.d (.int .i64 (IntKind.wrap .i64 (x4 + 1)))) (p_int (k := .i64) (p := x4) (q := 1)) ?_
      refine oP (.d (.int .i64 (IntKind.wrap .i64 (x4 + 1)))) p_move ?_
      refine oEnd ?_
      refine oAgain ?_
      refine oHead [0, 1, 7, 8] [] (T' := [(0, .d (.lit (List.map e_i64 s1))), (1, .fn 53 []), (7, .d (.int .i64 ((List.length s1) : Int))), (8, .d (.int .i64 (IntKind.wrap .i64 (x4 + 1))))]) (H' := []) (hnd := by decide) (h := ?_)
      exact hag1 (IntKind.wrap .i64 (x4 + 1))
    ·refine oCondF (h := ?_)
     refine oExit rfl ?_
     refine oHead [] [] (T' := []) (H' := []) (hnd := by decide) (h := ?_)
     exact hj2 ()

/-- slices.ContainsFunc[[]int,int] -/
def slices_ContainsFunc_int (k : Nat) (s1 : (List Int)) : Option (Bool) := Option.bind (slices_IndexFunc_int k s1) (fun r12 => some (decide (r12 ≥ 0)))
def slices_ContainsFunc_int_E (s1 : (List Int)) : Bool → V × List Blk := fun r11 => (.d (.bool r11), [])
theorem slices_ContainsFunc_int_goes (k : Nat) (s1 : (List Int)) : RunsO Try.prog 52 [.d (.lit (List.map e_i64 s1)), .fn 53 []] [] (slices_ContainsFunc_int_E s1) (slices_ContainsFunc_int k s1) := by
  refine RunsO.of_goes (N := 9) (m := 0) (T := [(0, .d (.lit (List.map e_i64 s1))), (1, .fn 53 [])]) Try.func52 rfl rfl (h := ?_)
  unfold slices_ContainsFunc_int
  refine bStart ?_
  refine oSR rfl ?_
  refine oP (.d (.bool false)) p_assign ?_
  refine oEnd ?_
  refine oSR rfl ?_
  refine oP (.d (.lit (List.map e_i64 s1))) p_move ?_
  refine oP (.fn 53 []) p_move ?_
  refine bCall (caps := []) (v := (fun (r12 : Int) => (.d (.int .i64 r12) : V))) (H' := (fun (r12 : Int) => ([] : List Blk))) [] _ (slices_IndexFunc_int_goes k s1) (ho := rfl) (hfn := Try.func63) (hb := rfl) (hconv := ConvRs.refl _ _) (hnd := by decide) (hBl := fun _ => (by kernel_rfl)) (hv := fun _ => (by kernel_rfl)) (hH' := fun _ => (by kernel_rfl)) (h := fun r12 => ?_)
  refine oP (.d (.bool (decide (r12 ≥ 0)))) (p_int (k := .i64) (p := r12) (q := 0)) ?_
  refine oP (.d (.bool (decide (r12 ≥ 0)))) p_assign ?_
  refine oEnd ?_
  exact oRet (r0 := (decide (r12 ≥ 0))) (rv := .d (.bool (decide (r12 ≥ 0)))) (B := []) (vs := [.d (.bool (decide (r12 ≥ 0)))]) (σ := []) (hf := Try.func52) (hrs := rfl) (hres := .cons _ _ _ _ (.tmp 4 _ (by kernel_rfl)) .nil) (hnd := by decide)

/-- awardingbody/scheme.Valid -/
def scheme_Valid_b2 (k : Nat) (s0 : (List (List Int))) (x128 : Int) (e1130 : SPart) (e1131 : (List Int)) (again : Int → Option ((Unit) ⊕ (Bool))) : Int → Option ((Unit) ⊕ (Bool)) := fun x182 => bif (decide (x182 < ((List.length e1131) : Int))) then gidx e1131 x182 fun e1151 => blet ((decide (e1151 < 0)) || (decide (e1151 ≥ e1130.Options))) fun x193 => Option.bind (bif x193 then some true else Option.bind (bif (decide (x182 > 0)) then gidx s0 x128 fun e1156 => gidx e1156 (IntKind.wrap .i64 (x182 - 1)) fun e1157 => some (decide (e1157 ≥ e1151)) else some false : Option (Bool)) (fun x196 => some x196) : Option (Bool)) (fun x195 => bif x195 then some (Sum.inr false) else again (IntKind.wrap .i64 (x182 + 1))) else some (Sum.inl ())
def scheme_Valid_b1 (k : Nat) (p2 : (List SPart)) (s0 : (List (List Int))) (again : Int → Option ((Unit) ⊕ (Bool))) : Int → Option ((Unit) ⊕ (Bool)) := fun x128 => bif (decide (x128 < ((List.length p2) : Int))) then gidx p2 x128 fun e1130 => gidx s0 x128 fun e1131 => Option.bind (gloop (scheme_Valid_b2 k s0 x128 e1130 e1131) k 0 : Option ((Unit) ⊕ (Bool))) (Sum.elim (u0 (again (IntKind.wrap .i64 (x128 + 1)))) (fun r => some (Sum.inr r))) else some (Sum.inl ())
def scheme_Valid (k : Nat) (p0 : Int) (p1 : Int) (p2 : (List SPart)) (s0 : (List (List Int))) (s1 : (List Int)) : Option (Bool) := Option.bind (item_ValidPaper k p0 p1 p2) (fun r151 => blet ((!r151) || (((List.length s0) : Int) != ((List.length p2) : Int))) fun x52 => blet (x52 || (((List.length s1) : Int) != ((List.length p2) : Int))) fun x53 => bif x53 then some false else Option.bind (gloop (scheme_Valid_b1 k p2 s0) k 0 : Option ((Unit) ⊕ (Bool))) (Sum.elim (u0 (Option.bind (slices_ContainsFunc_int k s1) (fun r111 => some (!r111)))) (fun r => some r)))
def scheme_Valid_E (p0 : Int) (p1 : Int) (p2 : (List SPart)) (s0 : (List (List Int))) (s1 : (List Int)) : Bool → V × List Blk := fun r1 => (.d (.bool r1), [])
theorem scheme_Valid_goes (k : Nat) (p0 : Int) (p1 : Int) (p2 : (List SPart)) (s0 : (List (List Int))) (s1 : (List Int)) : RunsO Try.prog 30 [.agg [.d (.int .i64 p0), .d (.int .i64 p1), .d (.lit (List.map e_SPart p2))], .agg [.d (.lit (List.map e_Li64 s0)), .d (.lit (List.map e_i64 s1))]] [] (scheme_Valid_E p0 p1 p2 s0 s1) (scheme_Valid k p0 p1 p2 s0 s1) := by
  refine RunsO.of_goes (N := 80) (m := 0) (T := [(0, .agg [.d (.int .i64 p0), .d (.int .i64 p1), .d (.lit (List.map e_SPart p2))]), (1, .agg [.d (.lit (List.map e_Li64 s0)), .d (.lit (List.map e_i64 s1))])]) Try.func30 rfl rfl (h := ?_)
  unfold scheme_Valid
  refine bStart ?_
  refine oSR rfl ?_
  refine oD (.ptr 0 0) (k_box (H' := [.box [.d (.int .i64 p0), .d (.int .i64 p1), .d (.lit (List.map e_SPart p2))]]) (cells := [.d (.int .i64 p0), .d (.int .i64 p1), .d (.lit (List.map e_SPart p2))])) ?_
  refine oD (.ptr 1 0) (k_box (H' := [.box [.d (.int .i64 p0), .d (.int .i64 p1), .d (.lit (List.map e_SPart p2))], .box [.d (.lit (List.map e_Li64 s0)), .d (.lit (List.map e_i64 s1))]]) (cells := [.d (.lit (List.map e_Li64 s0)), .d (.lit (List.map e_i64 s1))])) ?_
  refine oP (.d (.bool false)) p_assign ?_
  refine oEnd ?_
  refine oSeq ?_
  refine oSR rfl ?_
  refine oQ (.agg [.d (.int .i64 p0), .d (.int .i64 p1), .d (.lit (List.map e_SPart p2))]) (k_loadAgg 0 0 (hu := Try.underlying27) (hi := ty27)) ?_
  refine bCall (caps := []) (v := (fun (r151 : Bool) => (.d (.bool r151) : V))) (H' := (fun (r151 : Bool) => ([.box [.d (.int .i64 p0), .d (.int .i64 p1), .d (.lit (List.map e_SPart p2))], .box [.d (.lit (List.map e_Li64 s0)), .d (.lit (List.map e_i64 s1))]] : List Blk))) [] _ (item_ValidPaper_goes k p0 p1 p2) (ho := rfl) (hfn := Try.func51) (hb := rfl) (hconv := ConvRs.refl _ _) (hnd := by decide) (hBl := fun _ => (by kernel_rfl)) (hv := fun _ => (by kernel_rfl)) (hH' := fun _ => (by kernel_rfl)) (h := fun r151 => ?_)
  refine oP (.d (.bool (!r151))) (p_not (p := r151)) ?_
  refine oP (.d (.bool (!r151))) p_move ?_
  refine bMeetF (H' := [.box [.d (.int .i64 p0), .d (.int .i64 p1), .d (.lit (List.map e_SPart p2))], .box [.d (.lit (List.map e_Li64 s0)), .d (.lit (List.map e_i64 s1))]]) 8 rfl ((fun (x52 : Bool) => [(2, .ptr 0 0), (3, .ptr 1 0), (20, .d (.bool x52))])) (fun x52 => ?_) (fun F hj6 => ?_)
  ·refine oView (T' := [(2, .ptr 0 0), (3, .ptr 1 0), (20, .d (.bool x52))]) (H' := [.box [.d (.int .i64 p0), .d (.int .i64 p1), .d (.lit (List.map e_SPart p2))], .box [.d (.lit (List.map e_Li64 s0)), .d (.lit (List.map e_i64 s1))]]) (h := ?_)
   refine oP (.d (.bool x52)) p_move ?_
   refine bMeetF (H' := [.box [.d (.int .i64 p0), .d (.int .i64 p1), .d (.lit (List.map e_SPart p2))], .box [.d (.lit (List.map e_Li64 s0)), .d (.lit (List.map e_i64 s1))]]) 8 rfl ((fun (x53 : Bool) => [(2, .ptr 0 0), (3, .ptr 1 0), (29, .d (.bool x53))])) (fun x53 => ?_) (fun F hj7 => ?_)
   ·refine oView (T' := [(2, .ptr 0 0), (3, .ptr 1 0), (29, .d (.bool x53))]) (H' := [.box [.d (.int .i64 p0), .d (.int .i64 p1), .d (.lit (List.map e_SPart p2))], .box [.d (.lit (List.map e_Li64 s0)), .d (.lit (List.map e_i64 s1))]]) (h := ?_)
    refine oEnd ?_
    refine bSplit 29 (h1 := fun hc => ?_) (h2 := fun hc => ?_)
    ·refine oCondT (h := ?_)
     refine oSR rfl ?_
     refine oP (.d (.bool false)) p_assign ?_
     refine oEnd ?_
     exact oRet (r0 := false) (rv := .d (.bool false)) (B := []) (vs := [.d (.bool false)]) (σ := []) (hf := Try.func30) (hrs := rfl) (hres := .cons _ _ _ _ (.tmp 4 _ (by kernel_rfl)) .nil) (hnd := by decide)
    ·refine oCondF (h := ?_)
     refine oSkip ?_
     refine oSeq ?_
     refine oSR rfl ?_
     refine oP (.ptr 0 2) (k_fieldAddr 0 0 (hu := Try.underlying27) (hf := rfl) (hi := ty25)) ?_
     refine oQ (.d (.lit (List.map e_SPart p2))) (k_load 0 2 (hu := Try.underlying25)) ?_
     refine oP (.d (.int .i64 ((List.length p2) : Int))) (k_lenLit (enc := e_SPart) p2 (hu := Try.underlying25)) ?_
     refine oP (.d (.int .i64 0)) p_move ?_
     refine oEnd ?_
     refine bJoin ((u0 ([(3, .ptr 0 0)]))) ((u0 ([.box [.d (.lit (List.map e_Li64 s0)), .d (.lit (List.map e_i64 s1))]]))) Sum.inl (fun s => ?_) (fun hj12 => ?_)
     ·cases s
      refine bInl ?_
      refine bU0 ?_
      refine oView (T' := [(3, .ptr 0 0)]) (H' := [.box [.d (.lit (List.map e_Li64 s0)), .d (.lit (List.map e_i64 s1))]]) (h := ?_)
      refine oSR rfl ?_
      refine oP (.ptr 0 1) (k_fieldAddr 0 0 (hu := Try.underlying31) (hf := rfl) (hi := ty22)) ?_
      refine oQ (.d (.lit (List.map e_i64 s1))) (k_load 0 1 (hu := Try.underlying22)) ?_
      refine bCall (caps := []) (v := (fun (r111 : Bool) => (.d (.bool r111) : V))) (H' := (fun (r111 : Bool) => ([.box [.d (.lit (List.map e_Li64 s0)), .d (.lit (List.map e_i64 s1))]] : List Blk))) [] _ (slices_ContainsFunc_int_goes k s1) (ho := rfl) (hfn := Try.func52) (hb := rfl) (hconv := ConvRs.refl _ _) (hnd := by decide) (hBl := fun _ => (by kernel_rfl)) (hv := fun _ => (by kernel_rfl)) (hH' := fun _ => (by kernel_rfl)) (h := fun r111 => ?_)
      refine oP (.d (.bool (!r111))) (p_not (p := r111)) ?_
      refine oP (.d (.bool (!r111))) p_assign ?_
      refine oEnd ?_
      exact oRet (r0 := (!r111)) (rv := .d (.bool (!r111))) (B := []) (vs := [.d (.bool (!r111))]) (σ := []) (hf := Try.func30) (hrs := rfl) (hres := .cons _ _ _ _ (.tmp 4 _ (by kernel_rfl)) .nil) (hnd := by decide)
     ·refine oBlock ?_
      refine oLoop ?_
      refine oHead [3, 31, 32, 33] [1] (T' := [(3, .ptr 0 0), (31, .d (.lit (List.map e_SPart p2))), (32, .d (.int .i64 ((List.length p2) : Int))), (33, .d (.int .i64 0))]) (H' := [.box [.d (.lit (List.map e_Li64 s0)), .d (.lit (List.map e_i64 s1))]]) (hnd := by decide) (h := ?_)
      refine bLoop (body := scheme_Valid_b1 k p2 s0) ((fun (x128 : Int) => [(3, .ptr 0 0), (31, .d (.lit (List.map e_SPart p2))), (32, .d (.int .i64 ((List.length p2) : Int))), (33, .d (.int .i64 x128))])) ((fun (x128 : Int) => [.box [.d (.lit (List.map e_Li64 s0)), .d (.lit (List.map e_i64 s1))]])) (fun again hag1 x128 => ?_) k 0
      ·unfold scheme_Valid_b1
       refine oView (T' := [(3, .ptr 0 0), (31, .d (.lit (List.map e_SPart p2))), (32, .d (.int .i64 ((List.length p2) : Int))), (33, .d (.int .i64 x128))]) (H' := [.box [.d (.lit (List.map e_Li64 s0)), .d (.lit (List.map e_i64 s1))]]) (h := ?_)
       refine oSR rfl ?_
       refine oP (.d (.bool (decide (x128 < ((List.length p2) : Int))))) (p_int (k := .i64) (p := x128) (q := ((List.length p2) : Int))) ?_
       refine oEnd ?_
       refine oSeq ?_
       refine bSplit 34 (h1 := fun hc => ?_) (h2 := fun hc => ?_)
       ·refine oCondT (h := ?_)
        refine oSkip ?_
        refine oSeq ?_
        refine oBlock ?_
        refine oSR rfl ?_
        refine oP (.d (.int .i64 x128)) p_move ?_
        refine bIdx (fun e1130 h1260 h1261 => ?_)
        refine oP (.lptr (e_SPart e1130) 0) (k_idxLit e_SPart_len p2 (a := e1130) (k := .i64) (i := x128) (hu := Try.underlying25) (hi := ty49) (h0 := h1260) (he := h1261)) ?_
        refine oQ (.agg [.d (.int .i64 e1130.Kind), .d (.int .i64 e1130.Max), .d (.int .i64 e1130.Topic), .d (.int .i64 e1130.Objective), .d (.int .i64 e1130.Options), .d (.int .i64 e1130.Key)]) (k_loadLAgg (cells := e_SPart e1130) 0 [(.int .i64 e1130.Kind), (.int .i64 e1130.Max), (.int .i64 e1130.Topic), (.int .i64 e1130.Objective), (.int .i64 e1130.Options), (.int .i64 e1130.Key)] (hu := Try.underlying49) (hi := ty49)) ?_
        refine oD (.ptr 1 0) (k_alloc (H' := [.box [.d (.lit (List.map e_Li64 s0)), .d (.lit (List.map e_i64 s1))], .box [.d (.int .i64 0), .d (.int .i64 0), .d (.int .i64 0), .d (.int .i64 0), .d (.int .i64 0), .d (.int .i64 0)]]) ty49) ?_
        refine oP (.d (.int .i64 x128)) p_assign ?_
        refine oD (.undef) (k_store (vs := [.d (.int .i64 e1130.Kind), .d (.int .i64 e1130.Max), .d (.int .i64 e1130.Topic), .d (.int .i64 e1130.Objective), .d (.int .i64 e1130.Options), .d (.int .i64 e1130.Key)]) (H' := [.box [.d (.lit (List.map e_Li64 s0)), .d (.lit (List.map e_i64 s1))], .box [.d (.int .i64 e1130.Kind), .d (.int .i64 e1130.Max), .d (.int .i64 e1130.Topic), .d (.int .i64 e1130.Objective), .d (.int .i64 e1130.Options), .d (.int .i64 e1130.Key)]]) 1 0 (hi := ty49)) ?_
        refine oEnd ?_
        refine oSR rfl ?_
        refine oP (.ptr 0 0) (k_fieldAddr 0 0 (hu := Try.underlying31) (hf := rfl) (hi := ty29)) ?_
        refine oQ (.d (.lit (List.map e_Li64 s0))) (k_load 0 0 (hu := Try.underlying29)) ?_
        refine oP (.d (.int .i64 x128)) p_move ?_
        refine bIdx (fun e1131 h1262 h1263 => ?_)
        refine oP (.lptr (e_Li64 e1131) 0) (k_idxLit e_Li64_len s0 (a := e1131) (k := .i64) (i := x128) (hu := Try.underlying29) (hi := ty22) (h0 := h1262) (he := h1263)) ?_
        refine oQ (.d (.lit (List.map e_i64 e1131))) (k_loadL (cells := e_Li64 e1131) 0 (hu := Try.underlying22)) ?_
        refine oP (.d (.int .i64 ((List.length e1131) : Int))) (k_lenLit (enc := e_i64) e1131 (hu := Try.underlying22)) ?_
        refine oP (.d (.int .i64 0)) p_move ?_
        refine oEnd ?_
        refine bJoin ((u0 ([(3, .ptr 0 0), (31, .d (.lit (List.map e_SPart p2))), (32, .d (.int .i64 ((List.length p2) : Int))), (33, .d (.int .i64 x128))]))) ((u0 ([.box [.d (.lit (List.map e_Li64 s0)), .d (.lit (List.map e_i64 s1))]]))) Sum.inl (fun s => ?_) (fun hj18 => ?_)
        ·cases s
         refine bInl ?_
         refine bU0 ?_
         refine oView (T' := [(3, .ptr 0 0), (31, .d (.lit (List.map e_SPart p2))), (32, .d (.int .i64 ((List.length p2) : Int))), (33, .d (.int .i64 x128))]) (H' := [.box [.d (.lit (List.map e_Li64 s0)), .d (.lit (List.map e_i64 s1))]]) (h := ?_)
         refine oBlk ?_
         refine oRegion rfl ?_
         refine oP (.d (.int .i64 (IntKind.wrap .i64 (x128 + 1)))) (p_int (k := .i64) (p := x128) (q := 1)) ?_
         refine oP (.d (.int .i64 (IntKind.wrap .i64 (x128 + 1)))) p_move ?_
         refine oEnd ?_
         refine oAgain ?_
         refine oHead [3, 31, 32, 33] [0] (T' := [(3, .ptr 0 0), (31, .d (.lit (List.map e_SPart p2))), (32, .d (.int .i64 ((List.length p2) : Int))), (33, .d (.int .i64 (IntKind.wrap .i64 (x128 + 1))))]) (H' := [.box [.d (.lit (List.map e_Li64 s0)), .d (.lit (List.map e_i64 s1))]]) (hnd := by decide) (h := ?_)
         exact hag1 (IntKind.wrap .i64 (x128 + 1))
        ·refine oBlock ?_
         refine oLoop ?_
         refine oHead [3, 5, 6, 31, 32, 33, 42, 43, 44] [0, 1] (T' := [(3, .ptr 0 0), (5, .d (.int .i64 x128)), (6, .ptr 1 0), (31, .d (.lit (List.map e_SPart p2))), (32, .d (.int .i64 ((List.length p2) : Int))), (33, .d (.int .i64 x128)), (42, .d (.lit (List.map e_i64 e1131))), (43, .d (.int .i64 ((List.length e1131) : Int))), (44, .d (.int .i64 0))]) (H' := [.box [.d (.lit (List.map e_Li64 s0)), .d (.lit (List.map e_i64 s1))], .box [.d (.int .i64 e1130.Kind), .d (.int .i64 e1130.Max), .d (.int .i64 e1130.Topic), .d (.int .i64 e1130.Objective), .d (.int .i64 e1130.Options), .d (.int .i64 e1130.Key)]]) (hnd := by decide) (h := ?_)
         refine bLoop (body := scheme_Valid_b2 k s0 x128 e1130 e1131) ((fun (x182 : Int) => [(3, .ptr 0 0), (5, .d (.int .i64 x128)), (6, .ptr 1 0), (31, .d (.lit (List.map e_SPart p2))), (32, .d (.int .i64 ((List.length p2) : Int))), (33, .d (.int .i64 x128)), (42, .d (.lit (List.map e_i64 e1131))), (43, .d (.int .i64 ((List.length e1131) : Int))), (44, .d (.int .i64 x182))])) ((fun (x182 : Int) => [.box [.d (.lit (List.map e_Li64 s0)), .d (.lit (List.map e_i64 s1))], .box [.d (.int .i64 e1130.Kind), .d (.int .i64 e1130.Max), .d (.int .i64 e1130.Topic), .d (.int .i64 e1130.Objective), .d (.int .i64 e1130.Options), .d (.int .i64 e1130.Key)]])) (fun again hag2 x182 => ?_) k 0
         ·unfold scheme_Valid_b2
          refine oView (T' := [(3, .ptr 0 0), (5, .d (.int .i64 x128)), (6, .ptr 1 0), (31, .d (.lit (List.map e_SPart p2))), (32, .d (.int .i64 ((List.length p2) : Int))), (33, .d (.int .i64 x128)), (42, .d (.lit (List.map e_i64 e1131))), (43, .d (.int .i64 ((List.length e1131) : Int))), (44, .d (.int .i64 x182))]) (H' := [.box [.d (.lit (List.map e_Li64 s0)), .d (.lit (List.map e_i64 s1))], .box [.d (.int .i64 e1130.Kind), .d (.int .i64 e1130.Max), .d (.int .i64 e1130.Topic), .d (.int .i64 e1130.Objective), .d (.int .i64 e1130.Options), .d (.int .i64 e1130.Key)]]) (h := ?_)
          refine oSR rfl ?_
          refine oP (.d (.bool (decide (x182 < ((List.length e1131) : Int))))) (p_int (k := .i64) (p := x182) (q := ((List.length e1131) : Int))) ?_
          refine oEnd ?_
          refine oSeq ?_
          refine bSplit 45 (h1 := fun hc => ?_) (h2 := fun hc => ?_)
          ·refine oCondT (h := ?_)
           refine oSkip ?_
           refine oSeq ?_
           refine oBlock ?_
           refine oSR rfl ?_
           refine oP (.d (.int .i64 x182)) p_move ?_
           refine bIdx (fun e1151 h1302 h1303 => ?_)
           refine oP (.lptr (e_i64 e1151) 0) (k_idxLit e_i64_len e1131 (a := e1151) (k := .i64) (i := x182) (hu := Try.underlying22) (hi := ty3) (h0 := h1302) (he := h1303)) ?_
           refine oQ (.d (.int .i64 e1151)) (k_loadL (cells := e_i64 e1151) 0 (hu := Try.underlying3)) ?_
           refine oP (.d (.int .i64 x182)) p_assign ?_
           refine oP (.d (.int .i64 e1151)) p_assign ?_
           refine oEnd ?_
           refine oSR rfl ?_
           refine oP (.d (.int .i64 e1151)) p_move ?_
           refine oP (.d (.bool (decide (e1151 < 0)))) (p_int (k := .i64) (p := e1151) (q := 0)) ?_
           refine oP (.d (.bool (decide (e1151 < 0)))) p_move ?_
           refine bMeetF (H' := [.box [.d (.lit (List.map e_Li64 s0)), .d (.lit (List.map e_i64 s1))], .box [.d (.int .i64 e1130.Kind), .d (.int .i64 e1130.Max), .d (.int .i64 e1130.Topic), .d (.int .i64 e1130.Objective), .d (.int .i64 e1130.Options), .d (.int .i64 e1130.Key)]]) 5 rfl ((fun (x193 : Bool) => [(3, .ptr 0 0), (5, .d (.int .i64 x128)), (6, .ptr 1 0), (7, .d (.int .i64 x182)), (8, .d (.int .i64 e1151)), (31, .d (.lit (List.map e_SPart p2))), (32, .d (.int .i64 ((List.length p2) : Int))), (33, .d (.int .i64 x128)), (42, .d (.lit (List.map e_i64 e1131))), (43, .d (.int .i64 ((List.length e1131) : Int))), (44, .d (.int .i64 x182)), (56, .d (.bool x193))])) (fun x193 => ?_) (fun F hj19 => ?_)
           ·refine oView (T' := [(3, .ptr 0 0), (5, .d (.int .i64 x128)), (6, .ptr 1 0), (7, .d (.int .i64 x182)), (8, .d (.int .i64 e1151)), (31, .d (.lit (List.map e_SPart p2))), (32, .d (.int .i64 ((List.length p2) : Int))), (33, .d (.int .i64 x128)), (42, .d (.lit (List.map e_i64 e1131))), (43, .d (.int .i64 ((List.length e1131) : Int))), (44, .d (.int .i64 x182)), (56, .d (.bool x193))]) (H' := [.box [.d (.lit (List.map e_Li64 s0)), .d (.lit (List.map e_i64 s1))], .box [.d (.int .i64 e1130.Kind), .d (.int .i64 e1130.Max), .d (.int .i64 e1130.Topic), .d (.int .i64 e1130.Objective), .d (.int .i64 e1130.Options), .d (.int .i64 e1130.Key)]]) (h := ?_)
            refine oP (.d (.bool x193)) p_move ?_
            refine bMeet 16 rfl ((fun (x195 : Bool) => [(3, .ptr 0 0), (5, .d (.int .i64 x128)), (6, .ptr 1 0), (31, .d (.lit (List.map e_SPart p2))), (32, .d (.int .i64 ((List.length p2) : Int))), (33, .d (.int .i64 x128)), (42, .d (.lit (List.map e_i64 e1131))), (43, .d (.int .i64 ((List.length e1131) : Int))), (44, .d (.int .i64 x182)), (73, .d (.bool x195))])) ((fun (x195 : Bool) => [.box [.d (.lit (List.map e_Li64 s0)), .d (.lit (List.map e_i64 s1))], .box [.d (.int .i64 e1130.Kind), .d (.int .i64 e1130.Max), .d (.int .i64 e1130.Topic), .d (.int .i64 e1130.Objective), .d (.int .i64 e1130.Options), .d (.int .i64 e1130.Key)]])) (fun s => s) (fun x195 => ?_) (fun hj20 => ?_)
            ·refine oView (T' := [(3, .ptr 0 0), (5, .d (.int .i64 x128)), (6, .ptr 1 0), (31, .d (.lit (List.map e_SPart p2))), (32, .d (.int .i64 ((List.length p2) : Int))), (33, .d (.int .i64 x128)), (42, .d (.lit (List.map e_i64 e1131))), (43, .d (.int .i64 ((List.length e1131) : Int))), (44, .d (.int .i64 x182)), (73, .d (.bool x195))]) (H' := [.box [.d (.lit (List.map e_Li64 s0)), .d (.lit (List.map e_i64 s1))], .box [.d (.int .i64 e1130.Kind), .d (.int .i64 e1130.Max), .d (.int .i64 e1130.Topic), .d (.int .i64 e1130.Objective), .d (.int .i64 e1130.Options), .d (.int .i64 e1130.Key)]]) (h := ?_)
             refine oEnd ?_
             refine bSplit 73 (h1 := fun hc => ?_) (h2 := fun hc => ?_)
             ·refine oCondT (h := ?_)
              refine oSR rfl ?_
              refine oP (.d (.bool false)) p_assign ?_
              refine oEnd ?_
              exact oRet (r0 := false) (rv := .d (.bool false)) (B := []) (vs := [.d (.bool false)]) (σ := []) (hf := Try.func30) (hrs := rfl) (hres := .cons _ _ _ _ (.tmp 4 _ (by kernel_rfl)) .nil) (hnd := by decide)
             ·refine oCondF (h := ?_)
              refine oSkip ?_
              refine oBlk ?_
              refine oRegion rfl ?_
              refine oP (.d (.int .i64 (IntKind.wrap .i64 (x182 + 1)))) (p_int (k := .i64) (p := x182) (q := 1)) ?_
              refine oP (.d (.int .i64 (IntKind.wrap .i64 (x182 + 1)))) p_move ?_
              refine oEnd ?_
              refine oAgain ?_
              refine oHead [3, 5, 6, 31, 32, 33, 42, 43, 44] [0, 1] (T' := [(3, .ptr 0 0), (5, .d (.int .i64 x128)), (6, .ptr 1 0), (31, .d (.lit (List.map e_SPart p2))), (32, .d (.int .i64 ((List.length p2) : Int))), (33, .d (.int .i64 x128)), (42, .d (.lit (List.map e_i64 e1131))), (43, .d (.int .i64 ((List.length e1131) : Int))), (44, .d (.int .i64 (IntKind.wrap .i64 (x182 + 1))))]) (H' := [.box [.d (.lit (List.map e_Li64 s0)), .d (.lit (List.map e_i64 s1))], .box [.d (.int .i64 e1130.Kind), .d (.int .i64 e1130.Max), .d (.int .i64 e1130.Topic), .d (.int .i64 e1130.Objective), .d (.int .i64 e1130.Options), .d (.int .i64 e1130.Key)]]) (hnd := by decide) (h := ?_)
              exact hag2 (IntKind.wrap .i64 (x182 + 1))
            ·refine bSplit 57 (h1 := fun hc => ?_) (h2 := fun hc => ?_)
             ·refine oNot (h := ?_)
              refine oNot (h := ?_)
              refine oNot (h := ?_)
              refine oNot (h := ?_)
              refine oNot (h := ?_)
              refine oNot (h := ?_)
              refine oNot (h := ?_)
              refine oNot (h := ?_)
              refine oNot (h := ?_)
              refine oNot (h := ?_)
              refine oNot (h := ?_)
              refine oNot (h := ?_)
              refine oNot (h := ?_)
              refine oNot (h := ?_)
              refine oNot (h := ?_)
              refine oP (.d (.bool true)) (p_pick (b := true)) ?_
              refine oHead [3, 5, 6, 31, 32, 33, 42, 43, 44, 73] [0, 1] (T' := [(3, .ptr 0 0), (5, .d (.int .i64 x128)), (6, .ptr 1 0), (31, .d (.lit (List.map e_SPart p2))), (32, .d (.int .i64 ((List.length p2) : Int))), (33, .d (.int .i64 x128)), (42, .d (.lit (List.map e_i64 e1131))), (43, .d (.int .i64 ((List.length e1131) : Int))), (44, .d (.int .i64 x182)), (73, .d (.bool true))]) (H' := [.box [.d (.lit (List.map e_Li64 s0)), .d (.lit (List.map e_i64 s1))], .box [.d (.int .i64 e1130.Kind), .d (.int .i64 e1130.Max), .d (.int .i64 e1130.Topic), .d (.int .i64 e1130.Objective), .d (.int .i64 e1130.Options), .d (.int .i64 e1130.Key)]]) (hnd := by decide) (h := ?_)
              exact hj20 true
             ·refine oP (.d (.int .i64 x182)) p_move ?_
              refine oP (.d (.bool (decide (x182 > 0)))) (p_int (k := .i64) (p := x182) (q := 0)) ?_
              refine oP (.d (.bool (decide (x182 > 0)))) p_move ?_
              refine bMeet 12 rfl ((fun (x196 : Bool) => [(3, .ptr 0 0), (5, .d (.int .i64 x128)), (6, .ptr 1 0), (31, .d (.lit (List.map e_SPart p2))), (32, .d (.int .i64 ((List.length p2) : Int))), (33, .d (.int .i64 x128)), (42, .d (.lit (List.map e_i64 e1131))), (43, .d (.int .i64 ((List.length e1131) : Int))), (44, .d (.int .i64 x182)), (57, .d (.bool false)), (72, .d (.bool x196))])) ((fun (x196 : Bool) => [.box [.d (.lit (List.map e_Li64 s0)), .d (.lit (List.map e_i64 s1))], .box [.d (.int .i64 e1130.Kind), .d (.int .i64 e1130.Max), .d (.int .i64 e1130.Topic), .d (.int .i64 e1130.Objective), .d (.int .i64 e1130.Options), .d (.int .i64 e1130.Key)]])) (fun s => s) (fun x196 => ?_) (fun hj21 => ?_)
              ·refine oView (T' := [(3, .ptr 0 0), (5, .d (.int .i64 x128)), (6, .ptr 1 0), (31, .d (.lit (List.map e_SPart p2))), (32, .d (.int .i64 ((List.length p2) : Int))), (33, .d (.int .i64 x128)), (42, .d (.lit (List.map e_i64 e1131))), (43, .d (.int .i64 ((List.length e1131) : Int))), (44, .d (.int .i64 x182)), (57, .d (.bool false)), (72, .d (.bool x196))]) (H' := [.box [.d (.lit (List.map e_Li64 s0)), .d (.lit (List.map e_i64 s1))], .box [.d (.int .i64 e1130.Kind), .d (.int .i64 e1130.Max), .d (.int .i64 e1130.Topic), .d (.int .i64 e1130.Objective), .d (.int .i64 e1130.Options), .d (.int .i64 e1130.Key)]]) (h := ?_)
               refine oP (.d (.bool x196)) (p_pick (b := false)) ?_
               refine oHead [3, 5, 6, 31, 32, 33, 42, 43, 44, 73] [0, 1] (T' := [(3, .ptr 0 0), (5, .d (.int .i64 x128)), (6, .ptr 1 0), (31, .d (.lit (List.map e_SPart p2))), (32, .d (.int .i64 ((List.length p2) : Int))), (33, .d (.int .i64 x128)), (42, .d (.lit (List.map e_i64 e1131))), (43, .d (.int .i64 ((List.length e1131) : Int))), (44, .d (.int .i64 x182)), (73, .d (.bool x196))]) (H' := [.box [.d (.lit (List.map e_Li64 s0)), .d (.lit (List.map e_i64 s1))], .box [.d (.int .i64 e1130.Kind), .d (.int .i64 e1130.Max), .d (.int .i64 e1130.Topic), .d (.int .i64 e1130.Objective), .d (.int .i64 e1130.Options), .d (.int .i64 e1130.Key)]]) (hnd := by decide) (h := ?_)
               exact hj20 x196
              ·refine bSplit 60 (h1 := fun hc => ?_) (h2 := fun hc => ?_)
               ·refine oP (.ptr 0 0) (k_fieldAddr 0 0 (hu := Try.underlying31) (hf := rfl) (hi := ty29)) ?_
                refine oQ (.d (.lit (List.map e_Li64 s0))) (k_load 0 0 (hu := Try.underlying29)) ?_
                refine oP (.d (.int .i64 x128)) p_move ?_
                refine bIdx (fun e1156 h1312 h1313 => ?_)
                refine oP (.lptr (e_Li64 e1156) 0) (k_idxLit e_Li64_len s0 (a := e1156) (k := .i64) (i := x128) (hu := Try.underlying29) (hi := ty22) (h0 := h1312) (he := h1313)) ?_
                refine oQ (.d (.lit (List.map e_i64 e1156))) (k_loadL (cells := e_Li64 e1156) 0 (hu := Try.underlying22)) ?_
                refine oP (.d (.int .i64 x182)) p_move ?_
                refine oP (.d (.int .i64 (IntKind.wrap .i64 (x182 - 1)))) (p_int (k := .i64) (p := x182) (q := 1)) ?_
                refine bIdx (fun e1157 h1314 h1315 => ?_)
                refine oP (.lptr (e_i64 e1157) 0) (k_idxLit e_i64_len e1156 (a := e1157) (k := .i64) (i := (IntKind.wrap .i64 (x182 - 1))) (hu := Try.underlying22) (hi := ty3) (h0 := h1314) (he := h1315)) ?_
                refine oQ (.d (.int .i64 e1157)) (k_loadL (cells := e_i64 e1157) 0 (hu := Try.underlying3)) ?_
                refine oP (.d (.int .i64 e1151)) p_move ?_
                refine oP (.d (.bool (decide (e1157 ≥ e1151)))) (p_int (k := .i64) (p := e1157) (q := e1151)) ?_
                refine oP (.d (.bool (decide (e1157 ≥ e1151)))) (p_pick (b := true)) ?_
                refine oHead [3, 5, 6, 31, 32, 33, 42, 43, 44, 57, 72] [0, 1] (T' := [(3, .ptr 0 0), (5, .d (.int .i64 x128)), (6, .ptr 1 0), (31, .d (.lit (List.map e_SPart p2))), (32, .d (.int .i64 ((List.length p2) : Int))), (33, .d (.int .i64 x128)), (42, .d (.lit (List.map e_i64 e1131))), (43, .d (.int .i64 ((List.length e1131) : Int))), (44, .d (.int .i64 x182)), (57, .d (.bool false)), (72, .d (.bool (decide (e1157 ≥ e1151))))]) (H' := [.box [.d (.lit (List.map e_Li64 s0)), .d (.lit (List.map e_i64 s1))], .box [.d (.int .i64 e1130.Kind), .d (.int .i64 e1130.Max), .d (.int .i64 e1130.Topic), .d (.int .i64 e1130.Objective), .d (.int .i64 e1130.Options), .d (.int .i64 e1130.Key)]]) (hnd := by decide) (h := ?_)
                exact hj21 (decide (e1157 ≥ e1151))
               ·refine oNot (h := ?_)
                refine oNot (h := ?_)
                refine oNot (h := ?_)
                refine oNot (h := ?_)
                refine oNot (h := ?_)
                refine oNot (h := ?_)
                refine oNot (h := ?_)
                refine oNot (h := ?_)
                refine oNot (h := ?_)
                refine oNot (h := ?_)
                refine oNot (h := ?_)
                refine oP (.d (.bool false)) (p_pick (b := false)) ?_
                refine oHead [3, 5, 6, 31, 32, 33, 42, 43, 44, 57, 72] [0, 1] (T' := [(3, .ptr 0 0), (5, .d (.int .i64 x128)), (6, .ptr 1 0), (31, .d (.lit (List.map e_SPart p2))), (32, .d (.int .i64 ((List.length p2) : Int))), (33, .d (.int .i64 x128)), (42, .d (.lit (List.map e_i64 e1131))), (43, .d (.int .i64 ((List.length e1131) : Int))), (44, .d (.int .i64 x182)), (57, .d (.bool false)), (72, .d (.bool false))]) (H' := [.box [.d (.lit (List.map e_Li64 s0)), .d (.lit (List.map e_i64 s1))], .box [.d (.int .i64 e1130.Kind), .d (.int .i64 e1130.Max), .d (.int .i64 e1130.Topic), .d (.int .i64 e1130.Objective), .d (.int .i64 e1130.Options), .d (.int .i64 e1130.Key)]]) (hnd := by decide) (h := ?_)
                exact hj21 false
           ·refine bPickF 51 (fun c => F (c || (decide (e1151 ≥ e1130.Options)))) (h1 := fun hc => ?_) (h2 := fun hc => ?_)
            ·refine oNot (h := ?_)
             refine oNot (h := ?_)
             refine oNot (h := ?_)
             refine oNot (h := ?_)
             refine oP (.d (.bool true)) (p_pick (b := true)) ?_
             refine oHead [3, 5, 6, 7, 8, 31, 32, 33, 42, 43, 44, 56] [0, 1] (T' := [(3, .ptr 0 0), (5, .d (.int .i64 x128)), (6, .ptr 1 0), (7, .d (.int .i64 x182)), (8, .d (.int .i64 e1151)), (31, .d (.lit (List.map e_SPart p2))), (32, .d (.int .i64 ((List.length p2) : Int))), (33, .d (.int .i64 x128)), (42, .d (.lit (List.map e_i64 e1131))), (43, .d (.int .i64 ((List.length e1131) : Int))), (44, .d (.int .i64 x182)), (56, .d (.bool true))]) (H' := [.box [.d (.lit (List.map e_Li64 s0)), .d (.lit (List.map e_i64 s1))], .box [.d (.int .i64 e1130.Kind), .d (.int .i64 e1130.Max), .d (.int .i64 e1130.Topic), .d (.int .i64 e1130.Objective), .d (.int .i64 e1130.Options), .d (.int .i64 e1130.Key)]]) (hnd := by decide) (h := ?_)
             exact hj19 true
            ·refine oP (.d (.int .i64 e1151)) p_move ?_
             refine oP (.ptr 1 4) (k_fieldAddr 1 0 (hu := Try.underlying49) (hf := rfl) (hi := ty3)) ?_
             refine oQ (.d (.int .i64 e1130.Options)) (k_load 1 4 (hu := Try.underlying3)) ?_
             refine oP (.d (.bool (decide (e1151 ≥ e1130.Options)))) (p_int (k := .i64) (p := e1151) (q := e1130.Options)) ?_
             refine oP (.d (.bool (decide (e1151 ≥ e1130.Options)))) (p_pick (b := false)) ?_
             refine oHead [3, 5, 6, 7, 8, 31, 32, 33, 42, 43, 44, 56] [0, 1] (T' := [(3, .ptr 0 0), (5, .d (.int .i64 x128)), (6, .ptr 1 0), (7, .d (.int .i64 x182)), (8, .d (.int .i64 e1151)), (31, .d (.lit (List.map e_SPart p2))), (32, .d (.int .i64 ((List.length p2) : Int))), (33, .d (.int .i64 x128)), (42, .d (.lit (List.map e_i64 e1131))), (43, .d (.int .i64 ((List.length e1131) : Int))), (44, .d (.int .i64 x182)), (56, .d (.bool (decide (e1151 ≥ e1130.Options))))]) (H' := [.box [.d (.lit (List.map e_Li64 s0)), .d (.lit (List.map e_i64 s1))], .box [.d (.int .i64 e1130.Kind), .d (.int .i64 e1130.Max), .d (.int .i64 e1130.Topic), .d (.int .i64 e1130.Objective), .d (.int .i64 e1130.Options), .d (.int .i64 e1130.Key)]]) (hnd := by decide) (h := ?_)
             exact hj19 (decide (e1151 ≥ e1130.Options))
          ·refine oCondF (h := ?_)
           refine oExit rfl ?_
           refine oHead [3, 31, 32, 33] [0] (T' := [(3, .ptr 0 0), (31, .d (.lit (List.map e_SPart p2))), (32, .d (.int .i64 ((List.length p2) : Int))), (33, .d (.int .i64 x128))]) (H' := [.box [.d (.lit (List.map e_Li64 s0)), .d (.lit (List.map e_i64 s1))]]) (hnd := by decide) (h := ?_)
           exact hj18 ()
       ·refine oCondF (h := ?_)
        refine oExit rfl ?_
        refine oHead [3] [0] (T' := [(3, .ptr 0 0)]) (H' := [.box [.d (.lit (List.map e_Li64 s0)), .d (.lit (List.map e_i64 s1))]]) (hnd := by decide) (h := ?_)
        exact hj12 ()
   ·refine bPickF 21 (fun c => F (c || (((List.length s1) : Int) != ((List.length p2) : Int)))) (h1 := fun hc => ?_) (h2 := fun hc => ?_)
    ·refine oNot (h := ?_)
     refine oNot (h := ?_)
     refine oNot (h := ?_)
     refine oNot (h := ?_)
     refine oNot (h := ?_)
     refine oNot (h := ?_)
     refine oNot (h := ?_)
     refine oP (.d (.bool true)) (p_pick (b := true)) ?_
     refine oHead [2, 3, 29] [0, 1] (T' := [(2, .ptr 0 0), (3, .ptr 1 0), (29, .d (.bool true))]) (H' := [.box [.d (.int .i64 p0), .d (.int .i64 p1), .d (.lit (List.map e_SPart p2))], .box [.d (.lit (List.map e_Li64 s0)), .d (.lit (List.map e_i64 s1))]]) (hnd := by decide) (h := ?_)
     exact hj7 true
    ·refine oP (.ptr 1 1) (k_fieldAddr 1 0 (hu := Try.underlying31) (hf := rfl) (hi := ty22)) ?_
     refine oQ (.d (.lit (List.map e_i64 s1))) (k_load 1 1 (hu := Try.underlying22)) ?_
     refine oP (.d (.int .i64 ((List.length s1) : Int))) (k_lenLit (enc := e_i64) s1 (hu := Try.underlying22)) ?_
     refine oP (.ptr 0 2) (k_fieldAddr 0 0 (hu := Try.underlying27) (hf := rfl) (hi := ty25)) ?_
     refine oQ (.d (.lit (List.map e_SPart p2))) (k_load 0 2 (hu := Try.underlying25)) ?_
     refine oP (.d (.int .i64 ((List.length p2) : Int))) (k_lenLit (enc := e_SPart) p2 (hu := Try.underlying25)) ?_
     refine oP (.d (.bool (((List.length s1) : Int) != ((List.length p2) : Int)))) (p_int (k := .i64) (p := ((List.length s1) : Int)) (q := ((List.length p2) : Int))) ?_
     refine oP (.d (.bool (((List.length s1) : Int) != ((List.length p2) : Int)))) (p_pick (b := false)) ?_
     refine oHead [2, 3, 29] [0, 1] (T' := [(2, .ptr 0 0), (3, .ptr 1 0), (29, .d (.bool (((List.length s1) : Int) != ((List.length p2) : Int))))]) (H' := [.box [.d (.int .i64 p0), .d (.int .i64 p1), .d (.lit (List.map e_SPart p2))], .box [.d (.lit (List.map e_Li64 s0)), .d (.lit (List.map e_i64 s1))]]) (hnd := by decide) (h := ?_)
     exact hj7 (((List.length s1) : Int) != ((List.length p2) : Int))
  ·refine bPickF 12 (fun c => F (c || (((List.length s0) : Int) != ((List.length p2) : Int)))) (h1 := fun hc => ?_) (h2 := fun hc => ?_)
   ·refine oNot (h := ?_)
    refine oNot (h := ?_)
    refine oNot (h := ?_)
    refine oNot (h := ?_)
    refine oNot (h := ?_)
    refine oNot (h := ?_)
    refine oNot (h := ?_)
    refine oP (.d (.bool true)) (p_pick (b := true)) ?_
    refine oHead [2, 3, 20] [0, 1] (T' := [(2, .ptr 0 0), (3, .ptr 1 0), (20, .d (.bool true))]) (H' := [.box [.d (.int .i64 p0), .d (.int .i64 p1), .d (.lit (List.map e_SPart p2))], .box [.d (.lit (List.map e_Li64 s0)), .d (.lit (List.map e_i64 s1))]]) (hnd := by decide) (h := ?_)
    exact hj6 true
   ·refine oP (.ptr 1 0) (k_fieldAddr 1 0 (hu := Try.underlying31) (hf := rfl) (hi := ty29)) ?_
    refine oQ (.d (.lit (List.map e_Li64 s0))) (k_load 1 0 (hu := Try.underlying29)) ?_
    refine oP (.d (.int .i64 ((List.length s0) : Int))) (k_lenLit (enc := e_Li64) s0 (hu := Try.underlying29)) ?_
    refine oP (.ptr 0 2) (k_fieldAddr 0 0 (hu := Try.underlying27) (hf := rfl) (hi := ty25)) ?_
    refine oQ (.d (.lit (List.map e_SPart p2))) (k_load 0 2 (hu := Try.underlying25)) ?_
    refine oP (.d (.int .i64 ((List.length p2) : Int))) (k_lenLit (enc := e_SPart) p2 (hu := Try.underlying25)) ?_
    refine oP (.d (.bool (((List.length s0) : Int) != ((List.length p2) : Int)))) (p_int (k := .i64) (p := ((List.length s0) : Int)) (q := ((List.length p2) : Int))) ?_
    refine oP (.d (.bool (((List.length s0) : Int) != ((List.length p2) : Int)))) (p_pick (b := false)) ?_
    refine oHead [2, 3, 20] [0, 1] (T' := [(2, .ptr 0 0), (3, .ptr 1 0), (20, .d (.bool (((List.length s0) : Int) != ((List.length p2) : Int))))]) (H' := [.box [.d (.int .i64 p0), .d (.int .i64 p1), .d (.lit (List.map e_SPart p2))], .box [.d (.lit (List.map e_Li64 s0)), .d (.lit (List.map e_i64 s1))]]) (hnd := by decide) (h := ?_)
    exact hj6 (((List.length s0) : Int) != ((List.length p2) : Int))

/-- awardingbody/scheme.permitted -/
def scheme_permitted (k : Nat) (x0 : Int) (x1 : Int) (x2 : Int) (x3 : Int) (x4 : Int) (x5 : Int) (mark1 : Int) : Option (Bool) := blet ((mark1 == (-1)) || (mark1 == 0)) fun x10 => blet (x10 || (mark1 == x1)) fun x11 => Option.bind (bif x11 then some true else blet ((x0 == 1) && (decide (mark1 > 0))) fun x15 => blet (x15 && (decide (mark1 < x1))) fun x16 => some x16 : Option (Bool)) (fun x14 => some x14)
def scheme_permitted_E (x0 : Int) (x1 : Int) (x2 : Int) (x3 : Int) (x4 : Int) (x5 : Int) (mark1 : Int) : Bool → V × List Blk := fun r1 => (.d (.bool r1), [])
theorem scheme_permitted_goes (k : Nat) (x0 : Int) (x1 : Int) (x2 : Int) (x3 : Int) (x4 : Int) (x5 : Int) (mark1 : Int) : RunsO Try.prog 56 [.agg [.d (.int .i64 x0), .d (.int .i64 x1), .d (.int .i64 x2), .d (.int .i64 x3), .d (.int .i64 x4), .d (.int .i64 x5)], .d (.int .i64 mark1)] [] (scheme_permitted_E x0 x1 x2 x3 x4 x5 mark1) (scheme_permitted k x0 x1 x2 x3 x4 x5 mark1) := by
  refine RunsO.of_goes (N := 32) (m := 0) (T := [(0, .agg [.d (.int .i64 x0), .d (.int .i64 x1), .d (.int .i64 x2), .d (.int .i64 x3), .d (.int .i64 x4), .d (.int .i64 x5)]), (1, .d (.int .i64 mark1))]) Try.func56 rfl rfl (h := ?_)
  unfold scheme_permitted
  refine bStart ?_
  refine oSR rfl ?_
  refine oD (.ptr 0 0) (k_box (H' := [.box [.d (.int .i64 x0), .d (.int .i64 x1), .d (.int .i64 x2), .d (.int .i64 x3), .d (.int .i64 x4), .d (.int .i64 x5)]]) (cells := [.d (.int .i64 x0), .d (.int .i64 x1), .d (.int .i64 x2), .d (.int .i64 x3), .d (.int .i64 x4), .d (.int .i64 x5)])) ?_
  refine oP (.d (.bool false)) p_assign ?_
  refine oEnd ?_
  refine oSR rfl ?_
  refine oP (.d (.int .i64 mark1)) p_move ?_
  refine oP (.d (.bool (mark1 == (-1)))) (p_int (k := .i64) (p := mark1) (q := (-1))) ?_
  refine oP (.d (.bool (mark1 == (-1)))) p_move ?_
  refine bMeetF (H' := [.box [.d (.int .i64 x0), .d (.int .i64 x1), .d (.int .i64 x2), .d (.int .i64 x3), .d (.int .i64 x4), .d (.int .i64 x5)]]) 3 rfl ((fun (x10 : Bool) => [(1, .d (.int .i64 mark1)), (2, .ptr 0 0), (10, .d (.bool x10))])) (fun x10 => ?_) (fun F hj1 => ?_)
  ·refine oView (T' := [(1, .d (.int .i64 mark1)), (2, .ptr 0 0), (10, .d (.bool x10))]) (H' := [.box [.d (.int .i64 x0), .d (.int .i64 x1), .d (.int .i64 x2), .d (.int .i64 x3), .d (.int .i64 x4), .d (.int .i64 x5)]]) (h := ?_)
   refine oP (.d (.bool x10)) p_move ?_
   refine bMeetF (H' := [.box [.d (.int .i64 x0), .d (.int .i64 x1), .d (.int .i64 x2), .d (.int .i64 x3), .d (.int .i64 x4), .d (.int .i64 x5)]]) 5 rfl ((fun (x11 : Bool) => [(1, .d (.int .i64 mark1)), (2, .ptr 0 0), (16, .d (.bool x11))])) (fun x11 => ?_) (fun F hj2 => ?_)
   ·refine oView (T' := [(1, .d (.int .i64 mark1)), (2, .ptr 0 0), (16, .d (.bool x11))]) (H' := [.box [.d (.int .i64 x0), .d (.int .i64 x1), .d (.int .i64 x2), .d (.int .i64 x3), .d (.int .i64 x4), .d (.int .i64 x5)]]) (h := ?_)
    refine oP (.d (.bool x11)) p_move ?_
    refine bMeet 14 rfl ((fun (x14 : Bool) => [(31, .d (.bool x14))])) ((fun (x14 : Bool) => [])) (fun s => s) (fun x14 => ?_) (fun hj3 => ?_)
    ·refine oView (T' := [(31, .d (.bool x14))]) (H' := []) (h := ?_)
     refine oP (.d (.bool x14)) p_assign ?_
     refine oEnd ?_
     exact oRet (r0 := x14) (rv := .d (.bool x14)) (B := []) (vs := [.d (.bool x14)]) (σ := []) (hf := Try.func56) (hrs := rfl) (hres := .cons _ _ _ _ (.tmp 4 _ (by kernel_rfl)) .nil) (hnd := by decide)
    ·refine bSplit 17 (h1 := fun hc => ?_) (h2 := fun hc => ?_)
     ·refine oNot (h := ?_)
      refine oNot (h := ?_)
      refine oNot (h := ?_)
      refine oNot (h := ?_)
      refine oNot (h := ?_)
      refine oNot (h := ?_)
      refine oNot (h := ?_)
      refine oNot (h := ?_)
      refine oNot (h := ?_)
      refine oNot (h := ?_)
      refine oNot (h := ?_)
      refine oNot (h := ?_)
      refine oNot (h := ?_)
      refine oP (.d (.bool true)) (p_pick (b := true)) ?_
      refine oHead [31] [] (T' := [(31, .d (.bool true))]) (H' := []) (hnd := by decide) (h := ?_)
      exact hj3 true
     ·refine oP (.ptr 0 0) (k_fieldAddr 0 0 (hu := Try.underlying49) (hf := rfl) (hi := ty3)) ?_
      refine oQ (.d (.int .i64 x0)) (k_load 0 0 (hu := Try.underlying3)) ?_
      refine oP (.d (.bool (x0 == 1))) (p_int (k := .i64) (p := x0) (q := 1)) ?_
      refine oP (.d (.bool (x0 == 1))) p_move ?_
      refine bMeetF (H' := [.box [.d (.int .i64 x0), .d (.int .i64 x1), .d (.int .i64 x2), .d (.int .i64 x3), .d (.int .i64 x4), .d (.int .i64 x5)]]) 3 rfl ((fun (x15 : Bool) => [(1, .d (.int .i64 mark1)), (2, .ptr 0 0), (17, .d (.bool false)), (24, .d (.bool x15))])) (fun x15 => ?_) (fun F hj4 => ?_)
      ·refine oView (T' := [(1, .d (.int .i64 mark1)), (2, .ptr 0 0), (17, .d (.bool false)), (24, .d (.bool x15))]) (H' := [.box [.d (.int .i64 x0), .d (.int .i64 x1), .d (.int .i64 x2), .d (.int .i64 x3), .d (.int .i64 x4), .d (.int .i64 x5)]]) (h := ?_)
       refine oP (.d (.bool x15)) p_move ?_
       refine bMeetF (H' := []) 5 rfl ((fun (x16 : Bool) => [(17, .d (.bool false)), (30, .d (.bool x16))])) (fun x16 => ?_) (fun F hj5 => ?_)
       ·refine oView (T' := [(17, .d (.bool false)), (30, .d (.bool x16))]) (H' := []) (h := ?_)
        refine oP (.d (.bool x16)) (p_pick (b := false)) ?_
        refine oHead [31] [] (T' := [(31, .d (.bool x16))]) (H' := []) (hnd := by decide) (h := ?_)
        exact hj3 x16
       ·refine bPickF 25 (fun c => F (c && (decide (mark1 < x1)))) (h1 := fun hc => ?_) (h2 := fun hc => ?_)
        ·refine oP (.d (.int .i64 mark1)) p_move ?_
         refine oP (.ptr 0 1) (k_fieldAddr 0 0 (hu := Try.underlying49) (hf := rfl) (hi := ty3)) ?_
         refine oQ (.d (.int .i64 x1)) (k_load 0 1 (hu := Try.underlying3)) ?_
         refine oP (.d (.bool (decide (mark1 < x1)))) (p_int (k := .i64) (p := mark1) (q := x1)) ?_
         refine oP (.d (.bool (decide (mark1 < x1)))) (p_pick (b := true)) ?_
         refine oHead [17, 30] [] (T' := [(17, .d (.bool false)), (30, .d (.bool (decide (mark1 < x1))))]) (H' := []) (hnd := by decide) (h := ?_)
         exact hj5 (decide (mark1 < x1))
        ·refine oNot (h := ?_)
         refine oNot (h := ?_)
         refine oNot (h := ?_)
         refine oNot (h := ?_)
         refine oP (.d (.bool false)) (p_pick (b := false)) ?_
         refine oHead [17, 30] [] (T' := [(17, .d (.bool false)), (30, .d (.bool false))]) (H' := []) (hnd := by decide) (h := ?_)
         exact hj5 false
      ·refine bPickF 21 (fun c => F (c && (decide (mark1 > 0)))) (h1 := fun hc => ?_) (h2 := fun hc => ?_)
       ·refine oP (.d (.int .i64 mark1)) p_move ?_
        refine oP (.d (.bool (decide (mark1 > 0)))) (p_int (k := .i64) (p := mark1) (q := 0)) ?_
        refine oP (.d (.bool (decide (mark1 > 0)))) (p_pick (b := true)) ?_
        refine oHead [1, 2, 17, 24] [0] (T' := [(1, .d (.int .i64 mark1)), (2, .ptr 0 0), (17, .d (.bool false)), (24, .d (.bool (decide (mark1 > 0))))]) (H' := [.box [.d (.int .i64 x0), .d (.int .i64 x1), .d (.int .i64 x2), .d (.int .i64 x3), .d (.int .i64 x4), .d (.int .i64 x5)]]) (hnd := by decide) (h := ?_)
        exact hj4 (decide (mark1 > 0))
       ·refine oNot (h := ?_)
        refine oNot (h := ?_)
        refine oP (.d (.bool false)) (p_pick (b := false)) ?_
        refine oHead [1, 2, 17, 24] [0] (T' := [(1, .d (.int .i64 mark1)), (2, .ptr 0 0), (17, .d (.bool false)), (24, .d (.bool false))]) (H' := [.box [.d (.int .i64 x0), .d (.int .i64 x1), .d (.int .i64 x2), .d (.int .i64 x3), .d (.int .i64 x4), .d (.int .i64 x5)]]) (hnd := by decide) (h := ?_)
        exact hj4 false
   ·refine bPickF 11 (fun c => F (c || (mark1 == x1))) (h1 := fun hc => ?_) (h2 := fun hc => ?_)
    ·refine oNot (h := ?_)
     refine oNot (h := ?_)
     refine oNot (h := ?_)
     refine oNot (h := ?_)
     refine oP (.d (.bool true)) (p_pick (b := true)) ?_
     refine oHead [1, 2, 16] [0] (T' := [(1, .d (.int .i64 mark1)), (2, .ptr 0 0), (16, .d (.bool true))]) (H' := [.box [.d (.int .i64 x0), .d (.int .i64 x1), .d (.int .i64 x2), .d (.int .i64 x3), .d (.int .i64 x4), .d (.int .i64 x5)]]) (hnd := by decide) (h := ?_)
     exact hj2 true
    ·refine oP (.d (.int .i64 mark1)) p_move ?_
     refine oP (.ptr 0 1) (k_fieldAddr 0 0 (hu := Try.underlying49) (hf := rfl) (hi := ty3)) ?_
     refine oQ (.d (.int .i64 x1)) (k_load 0 1 (hu := Try.underlying3)) ?_
     refine oP (.d (.bool (mark1 == x1))) (p_int (k := .i64) (p := mark1) (q := x1)) ?_
     refine oP (.d (.bool (mark1 == x1))) (p_pick (b := false)) ?_
     refine oHead [1, 2, 16] [0] (T' := [(1, .d (.int .i64 mark1)), (2, .ptr 0 0), (16, .d (.bool (mark1 == x1)))]) (H' := [.box [.d (.int .i64 x0), .d (.int .i64 x1), .d (.int .i64 x2), .d (.int .i64 x3), .d (.int .i64 x4), .d (.int .i64 x5)]]) (hnd := by decide) (h := ?_)
     exact hj2 (mark1 == x1)
  ·refine bPickF 7 (fun c => F (c || (mark1 == 0))) (h1 := fun hc => ?_) (h2 := fun hc => ?_)
   ·refine oNot (h := ?_)
    refine oNot (h := ?_)
    refine oP (.d (.bool true)) (p_pick (b := true)) ?_
    refine oHead [1, 2, 10] [0] (T' := [(1, .d (.int .i64 mark1)), (2, .ptr 0 0), (10, .d (.bool true))]) (H' := [.box [.d (.int .i64 x0), .d (.int .i64 x1), .d (.int .i64 x2), .d (.int .i64 x3), .d (.int .i64 x4), .d (.int .i64 x5)]]) (hnd := by decide) (h := ?_)
    exact hj1 true
   ·refine oP (.d (.int .i64 mark1)) p_move ?_
    refine oP (.d (.bool (mark1 == 0))) (p_int (k := .i64) (p := mark1) (q := 0)) ?_
    refine oP (.d (.bool (mark1 == 0))) (p_pick (b := false)) ?_
    refine oHead [1, 2, 10] [0] (T' := [(1, .d (.int .i64 mark1)), (2, .ptr 0 0), (10, .d (.bool (mark1 == 0)))]) (H' := [.box [.d (.int .i64 x0), .d (.int .i64 x1), .d (.int .i64 x2), .d (.int .i64 x3), .d (.int .i64 x4), .d (.int .i64 x5)]]) (hnd := by decide) (h := ?_)
    exact hj1 (mark1 == 0)

/-- awardingbody/scheme.Marked -/
def scheme_Marked_b1 (k : Nat) (p2 : (List SPart)) (s1 : (List Int)) (marks : (List Int)) (again : Int → Option ((Unit) ⊕ (Bool))) : Int → Option ((Unit) ⊕ (Bool)) := fun x26 => bif (decide (x26 < ((List.length p2) : Int))) then gidx p2 x26 fun e115 => gidx s1 x26 fun e11 => Option.bind (bif (e11 == 0) then gidx marks x26 fun e12 => Option.bind (scheme_permitted k e115.Kind e115.Max e115.Topic e115.Objective e115.Options e115.Key e12) (fun r11 => some (!r11)) else some false : Option Bool) (fun x35 => bif x35 then some (Sum.inr false) else again (IntKind.wrap .i64 (x26 + 1))) else some (Sum.inl ())
def scheme_Marked (k : Nat) (p0 : Int) (p1 : Int) (p2 : (List SPart)) (s0 : (List (List Int))) (s1 : (List Int)) (marks : (List Int)) : Option (Bool) := Option.bind (scheme_Valid k p0 p1 p2 s0 s1) (fun r13 => blet ((!r13) || (((List.length marks) : Int) != ((List.length p2) : Int))) fun x11 => bif x11 then some false else Option.bind (gloop (scheme_Marked_b1 k p2 s1 marks) k 0 : Option ((Unit) ⊕ (Bool))) (Sum.elim (u0 (some true)) (fun r => some r)))
def scheme_Marked_E (p0 : Int) (p1 : Int) (p2 : (List SPart)) (s0 : (List (List Int))) (s1 : (List Int)) (marks : (List Int)) : Bool → V × List Blk := fun r12 => (.d (.bool r12), [])
theorem scheme_Marked_goes (k : Nat) (p0 : Int) (p1 : Int) (p2 : (List SPart)) (s0 : (List (List Int))) (s1 : (List Int)) (marks : (List Int)) : RunsO Try.prog 36 [.agg [.d (.int .i64 p0), .d (.int .i64 p1), .d (.lit (List.map e_SPart p2))], .agg [.d (.lit (List.map e_Li64 s0)), .d (.lit (List.map e_i64 s1))], .d (.lit (List.map e_i64 marks))] [] (scheme_Marked_E p0 p1 p2 s0 s1 marks) (scheme_Marked k p0 p1 p2 s0 s1 marks) := by
  refine RunsO.of_goes (N := 45) (m := 0) (T := [(0, .agg [.d (.int .i64 p0), .d (.int .i64 p1), .d (.lit (List.map e_SPart p2))]), (1, .agg [.d (.lit (List.map e_Li64 s0)), .d (.lit (List.map e_i64 s1))]), (2, .d (.lit (List.map e_i64 marks)))]) Try.func36 rfl rfl (h := ?_)
  unfold scheme_Marked
  refine bStart ?_
  refine oSR rfl ?_
  refine oD (.ptr 0 0) (k_box (H' := [.box [.d (.int .i64 p0), .d (.int .i64 p1), .d (.lit (List.map e_SPart p2))]]) (cells := [.d (.int .i64 p0), .d (.int .i64 p1), .d (.lit (List.map e_SPart p2))])) ?_
  refine oD (.ptr 1 0) (k_box (H' := [.box [.d (.int .i64 p0), .d (.int .i64 p1), .d (.lit (List.map e_SPart p2))], .box [.d (.lit (List.map e_Li64 s0)), .d (.lit (List.map e_i64 s1))]]) (cells := [.d (.lit (List.map e_Li64 s0)), .d (.lit (List.map e_i64 s1))])) ?_
  refine oP (.d (.bool false)) p_assign ?_
  refine oEnd ?_
  refine oSeq ?_
  refine oSR rfl ?_
  refine oQ (.agg [.d (.int .i64 p0), .d (.int .i64 p1), .d (.lit (List.map e_SPart p2))]) (k_loadAgg 0 0 (hu := Try.underlying27) (hi := ty27)) ?_
  refine oQ (.agg [.d (.lit (List.map e_Li64 s0)), .d (.lit (List.map e_i64 s1))]) (k_loadAgg 1 0 (hu := Try.underlying31) (hi := ty31)) ?_
  refine bCall (caps := []) (v := (fun (r13 : Bool) => (.d (.bool r13) : V))) (H' := (fun (r13 : Bool) => ([.box [.d (.int .i64 p0), .d (.int .i64 p1), .d (.lit (List.map e_SPart p2))], .box [.d (.lit (List.map e_Li64 s0)), .d (.lit (List.map e_i64 s1))]] : List Blk))) [] _ (scheme_Valid_goes k p0 p1 p2 s0 s1) (ho := rfl) (hfn := Try.func30) (hb := rfl) (hconv := ConvRs.refl _ _) (hnd := by decide) (hBl := fun _ => (by kernel_rfl)) (hv := fun _ => (by kernel_rfl)) (hH' := fun _ => (by kernel_rfl)) (h := fun r13 => ?_)
  refine oP (.d (.bool (!r13))) (p_not (p := r13)) ?_
  refine oP (.d (.bool (!r13))) p_move ?_
  refine bMeetF (H' := [.box [.d (.int .i64 p0), .d (.int .i64 p1), .d (.lit (List.map e_SPart p2))], .box [.d (.lit (List.map e_Li64 s0)), .d (.lit (List.map e_i64 s1))]]) 7 rfl ((fun (x11 : Bool) => [(2, .d (.lit (List.map e_i64 marks))), (3, .ptr 0 0), (4, .ptr 1 0), (20, .d (.bool x11))])) (fun x11 => ?_) (fun F hj6 => ?_)
  ·refine oView (T' := [(2, .d (.lit (List.map e_i64 marks))), (3, .ptr 0 0), (4, .ptr 1 0), (20, .d (.bool x11))]) (H' := [.box [.d (.int .i64 p0), .d (.int .i64 p1), .d (.lit (List.map e_SPart p2))], .box [.d (.lit (List.map e_Li64 s0)), .d (.lit (List.map e_i64 s1))]]) (h := ?_)
   refine oEnd ?_
   refine bSplit 20 (h1 := fun hc => ?_) (h2 := fun hc => ?_)
   ·refine oCondT (h := ?_)
    refine oSR rfl ?_
    refine oP (.d (.bool false)) p_assign ?_
    refine oEnd ?_
    exact oRet (r0 := false) (rv := .d (.bool false)) (B := []) (vs := [.d (.bool false)]) (σ := []) (hf := Try.func36) (hrs := rfl) (hres := .cons _ _ _ _ (.tmp 6 _ (by kernel_rfl)) .nil) (hnd := by decide)
   ·refine oCondF (h := ?_)
    refine oSkip ?_
    refine oSeq ?_
    refine oSR rfl ?_
    refine oP (.ptr 0 2) (k_fieldAddr 0 0 (hu := Try.underlying27) (hf := rfl) (hi := ty25)) ?_
    refine oQ (.d (.lit (List.map e_SPart p2))) (k_load 0 2 (hu := Try.underlying25)) ?_
    refine oP (.d (.int .i64 ((List.length p2) : Int))) (k_lenLit (enc := e_SPart) p2 (hu := Try.underlying25)) ?_
    refine oP (.d (.int .i64 0)) p_move ?_
    refine oEnd ?_
    refine bJoin ((u0 ([]))) ((u0 ([]))) Sum.inl (fun s => ?_) (fun hj11 => ?_)
    ·cases s
     refine bInl ?_
     refine bU0 ?_
     refine oView (T' := []) (H' := []) (h := ?_)
     refine oSR rfl ?_
     refine oP (.d (.bool true)) p_assign ?_
     refine oEnd ?_
     exact oRet (r0 := true) (rv := .d (.bool true)) (B := []) (vs := [.d (.bool true)]) (σ := []) (hf := Try.func36) (hrs := rfl) (hres := .cons _ _ _ _ (.tmp 6 _ (by kernel_rfl)) .nil) (hnd := by decide)
    ·refine oBlock ?_
     refine oLoop ?_
     refine oHead [2, 4, 22, 23, 24] [1] (T' := [(2, .d (.lit (List.map e_i64 marks))), (4, .ptr 0 0), (22, .d (.lit (List.map e_SPart p2))), (23, .d (.int .i64 ((List.length p2) : Int))), (24, .d (.int .i64 0))]) (H' := [.box [.d (.lit (List.map e_Li64 s0)), .d (.lit (List.map e_i64 s1))]]) (hnd := by decide) (h := ?_)
     refine bLoop (body := scheme_Marked_b1 k p2 s1 marks) ((fun (x26 : Int) => [(2, .d (.lit (List.map e_i64 marks))), (4, .ptr 0 0), (22, .d (.lit (List.map e_SPart p2))), (23, .d (.int .i64 ((List.length p2) : Int))), (24, .d (.int .i64 x26))])) ((fun (x26 : Int) => [.box [.d (.lit (List.map e_Li64 s0)), .d (.lit (List.map e_i64 s1))]])) (fun again hag1 x26 => ?_) k 0
     ·unfold scheme_Marked_b1
      refine oView (T' := [(2, .d (.lit (List.map e_i64 marks))), (4, .ptr 0 0), (22, .d (.lit (List.map e_SPart p2))), (23, .d (.int .i64 ((List.length p2) : Int))), (24, .d (.int .i64 x26))]) (H' := [.box [.d (.lit (List.map e_Li64 s0)), .d (.lit (List.map e_i64 s1))]]) (h := ?_)
      refine oSR rfl ?_
      refine oP (.d (.bool (decide (x26 < ((List.length p2) : Int))))) (p_int (k := .i64) (p := x26) (q := ((List.length p2) : Int))) ?_
      refine oEnd ?_
      refine oSeq ?_
      refine bSplit 25 (h1 := fun hc => ?_) (h2 := fun hc => ?_)
      ·refine oCondT (h := ?_)
       refine oSkip ?_
       refine oSeq ?_
       refine oBlock ?_
       refine oSR rfl ?_
       refine oP (.d (.int .i64 x26)) p_move ?_
       refine bIdx (fun e115 h130 h131 => ?_)
       refine oP (.lptr (e_SPart e115) 0) (k_idxLit e_SPart_len p2 (a := e115) (k := .i64) (i := x26) (hu := Try.underlying25) (hi := ty49) (h0 := h130) (he := h131)) ?_
       refine oQ (.agg [.d (.int .i64 e115.Kind), .d (.int .i64 e115.Max), .d (.int .i64 e115.Topic), .d (.int .i64 e115.Objective), .d (.int .i64 e115.Options), .d (.int .i64 e115.Key)]) (k_loadLAgg (cells := e_SPart e115) 0 [(.int .i64 e115.Kind), (.int .i64 e115.Max), (.int .i64 e115.Topic), (.int .i64 e115.Objective), (.int .i64 e115.Options), (.int .i64 e115.Key)] (hu := Try.underlying49) (hi := ty49)) ?_
       refine oD (.ptr 1 0) (k_alloc (H' := [.box [.d (.lit (List.map e_Li64 s0)), .d (.lit (List.map e_i64 s1))], .box [.d (.int .i64 0), .d (.int .i64 0), .d (.int .i64 0), .d (.int .i64 0), .d (.int .i64 0), .d (.int .i64 0)]]) ty49) ?_
       refine oP (.d (.int .i64 x26)) p_assign ?_
       refine oD (.undef) (k_store (vs := [.d (.int .i64 e115.Kind), .d (.int .i64 e115.Max), .d (.int .i64 e115.Topic), .d (.int .i64 e115.Objective), .d (.int .i64 e115.Options), .d (.int .i64 e115.Key)]) (H' := [.box [.d (.lit (List.map e_Li64 s0)), .d (.lit (List.map e_i64 s1))], .box [.d (.int .i64 e115.Kind), .d (.int .i64 e115.Max), .d (.int .i64 e115.Topic), .d (.int .i64 e115.Objective), .d (.int .i64 e115.Options), .d (.int .i64 e115.Key)]]) 1 0 (hi := ty49)) ?_
       refine oEnd ?_
       refine oSeq ?_
       refine oDraw [(0, 15), (1, 15)] rfl ?_
       refine aP 0 (.ptr 0 1) rfl (k_fieldAddr 0 0 (hu := Try.underlying31) (hf := rfl) (hi := ty22)) ?_
       refine aQ 1 [0] (.d (.lit (List.map e_i64 s1))) rfl (k_load 0 1 (hu := Try.underlying22)) ?_
       refine aP 2 (.d (.int .i64 x26)) rfl p_move ?_
       refine dIdx (fun e11 h12 h13 => ?_)
       refine aP 3 (.lptr (e_i64 e11) 0) rfl (k_idxLit e_i64_len s1 (a := e11) (k := .i64) (i := x26) (hu := Try.underlying22) (hi := ty3) (h0 := h12) (he := h13)) ?_
       refine aQ 4 [] (.d (.int .i64 e11)) rfl (k_loadL (cells := e_i64 e11) 0 (hu := Try.underlying3)) ?_
       refine aP 5 (.d (.bool (e11 == 0))) rfl (p_int (k := .i64) (p := e11) (q := 0)) ?_
       refine aP 6 (.d (.bool (e11 == 0))) rfl p_move ?_
       refine dMeet [14, 13, 12, 11, 10, 9, 8, 7, 6, 5, 4, 3, 2, 1, 0] (fun (x35 : Bool) => [(2, .d (.lit (List.map e_i64 marks))), (4, .ptr 0 0), (22, .d (.lit (List.map e_SPart p2))), (23, .d (.int .i64 ((List.length p2) : Int))), (24, .d (.int .i64 x26)), (43, .d (.bool x35))]) (fun (x35 : Bool) => [(2, .d (.lit (List.map e_i64 marks))), (4, .ptr 0 0), (22, .d (.lit (List.map e_SPart p2))), (23, .d (.int .i64 ((List.length p2) : Int))), (24, .d (.int .i64 x26)), (43, .d (.bool x35))]) (fun _ => [.box [.d (.lit (List.map e_Li64 s0)), .d (.lit (List.map e_i64 s1))], .box [.d (.int .i64 e115.Kind), .d (.int .i64 e115.Max), .d (.int .i64 e115.Topic), .d (.int .i64 e115.Objective), .d (.int .i64 e115.Options), .d (.int .i64 e115.Key)]]) (fun s => s) (fun x35 => ?_) (fun hj17 => ?_)
       ·refine aDone (h := ?_)
        refine bSplit 43 (h1 := fun hc => ?_) (h2 := fun hc => ?_)
        ·refine oCondT (h := ?_)
         refine oSR rfl ?_
         refine oP (.d (.bool false)) p_assign ?_
         refine oEnd ?_
         exact oRet (r0 := false) (rv := .d (.bool false)) (B := []) (vs := [.d (.bool false)]) (σ := []) (hf := Try.func36) (hrs := rfl) (hres := .cons _ _ _ _ (.tmp 6 _ (by kernel_rfl)) .nil) (hnd := by decide)
        ·refine oCondF (h := ?_)
         refine oSkip ?_
         refine oBlk ?_
         refine oRegion rfl ?_
         refine oP (.d (.int .i64 (IntKind.wrap .i64 (x26 + 1)))) (p_int (k := .i64) (p := x26) (q := 1)) ?_
         refine oP (.d (.int .i64 (IntKind.wrap .i64 (x26 + 1)))) p_move ?_
         refine oEnd ?_
         refine oAgain ?_
         refine oHead [2, 4, 22, 23, 24] [0] (T' := [(2, .d (.lit (List.map e_i64 marks))), (4, .ptr 0 0), (22, .d (.lit (List.map e_SPart p2))), (23, .d (.int .i64 ((List.length p2) : Int))), (24, .d (.int .i64 (IntKind.wrap .i64 (x26 + 1))))]) (H' := [.box [.d (.lit (List.map e_Li64 s0)), .d (.lit (List.map e_i64 s1))]]) (hnd := by decide) (h := ?_)
         exact hag1 (IntKind.wrap .i64 (x26 + 1))
       ·refine dSplit 35 (h1 := fun hc => ?_) (h2 := fun hc => ?_)
        ·refine aQ 7 [1] (.agg [.d (.int .i64 e115.Kind), .d (.int .i64 e115.Max), .d (.int .i64 e115.Topic), .d (.int .i64 e115.Objective), .d (.int .i64 e115.Options), .d (.int .i64 e115.Key)]) rfl (k_loadAgg 1 0 (hu := Try.underlying49) (hi := ty49)) ?_
         refine aP 8 (.d (.lit (List.map e_i64 marks))) rfl p_move ?_
         refine aP 9 (.d (.int .i64 x26)) rfl p_move ?_
         refine dIdx (fun e12 h14 h15 => ?_)
         refine aP 10 (.lptr (e_i64 e12) 0) rfl (k_idxLit e_i64_len marks (a := e12) (k := .i64) (i := x26) (hu := Try.underlying22) (hi := ty3) (h0 := h14) (he := h15)) ?_
         refine aQ 11 [] (.d (.int .i64 e12)) rfl (k_loadL (cells := e_i64 e12) 0 (hu := Try.underlying3)) ?_
         refine dCall (i := 12) (caps := []) (v := (fun (r11 : Bool) => (.d (.bool r11) : V))) (H' := (fun (r11 : Bool) => ([.box [.d (.lit (List.map e_Li64 s0)), .d (.lit (List.map e_i64 s1))], .box [.d (.int .i64 e115.Kind), .d (.int .i64 e115.Max), .d (.int .i64 e115.Topic), .d (.int .i64 e115.Objective), .d (.int .i64 e115.Options), .d (.int .i64 e115.Key)]] : List Blk))) [] _ (scheme_permitted_goes k e115.Kind e115.Max e115.Topic e115.Objective e115.Options e115.Key e12) rfl (ho := rfl) (hfn := Try.func56) (hb := rfl) (hconv := ConvRs.refl _ _) (hnd := by decide) (hBl := fun _ => (by kernel_rfl)) (hv := fun _ => (by kernel_rfl)) (hH' := fun _ => (by kernel_rfl)) (h := fun r11 => ?_)
         refine aP 13 (.d (.bool (!r11))) rfl (p_not (p := r11)) ?_
         refine aP 14 (.d (.bool (!r11))) rfl (p_pick (b := true)) ?_
         refine dDrop [2, 4, 22, 23, 24, 43] [2, 4, 22, 23, 24, 43] (T' := [(2, .d (.lit (List.map e_i64 marks))), (4, .ptr 0 0), (22, .d (.lit (List.map e_SPart p2))), (23, .d (.int .i64 ((List.length p2) : Int))), (24, .d (.int .i64 x26)), (43, .d (.bool (!r11)))]) (U' := [(2, .d (.lit (List.map e_i64 marks))), (4, .ptr 0 0), (22, .d (.lit (List.map e_SPart p2))), (23, .d (.int .i64 ((List.length p2) : Int))), (24, .d (.int .i64 x26)), (43, .d (.bool (!r11)))]) (h := ?_)
         exact hj17 (!r11)
        ·refine aTakeNot (i := 7) rfl (h := ?_)
         refine aTakeNot (i := 8) rfl (h := ?_)
         refine aTakeNot (i := 9) rfl (h := ?_)
         refine aTakeNot (i := 10) rfl (h := ?_)
         refine aTakeNot (i := 11) rfl (h := ?_)
         refine aTakeNot (i := 12) rfl (h := ?_)
         refine aTakeNot (i := 13) rfl (h := ?_)
         refine aP 14 (.d (.bool false)) rfl (p_pick (b := false)) ?_
         refine dDrop [2, 4, 22, 23, 24, 43] [2, 4, 22, 23, 24, 43] (T' := [(2, .d (.lit (List.map e_i64 marks))), (4, .ptr 0 0), (22, .d (.lit (List.map e_SPart p2))), (23, .d (.int .i64 ((List.length p2) : Int))), (24, .d (.int .i64 x26)), (43, .d (.bool false))]) (U' := [(2, .d (.lit (List.map e_i64 marks))), (4, .ptr 0 0), (22, .d (.lit (List.map e_SPart p2))), (23, .d (.int .i64 ((List.length p2) : Int))), (24, .d (.int .i64 x26)), (43, .d (.bool false))]) (h := ?_)
         exact hj17 false
      ·refine oCondF (h := ?_)
       refine oExit rfl ?_
       refine oHead [] [] (T' := []) (H' := []) (hnd := by decide) (h := ?_)
       exact hj11 ()
  ·refine bPickF 13 (fun c => F (c || (((List.length marks) : Int) != ((List.length p2) : Int)))) (h1 := fun hc => ?_) (h2 := fun hc => ?_)
   ·refine oNot (h := ?_)
    refine oNot (h := ?_)
    refine oNot (h := ?_)
    refine oNot (h := ?_)
    refine oNot (h := ?_)
    refine oNot (h := ?_)
    refine oP (.d (.bool true)) (p_pick (b := true)) ?_
    refine oHead [2, 3, 4, 20] [0, 1] (T' := [(2, .d (.lit (List.map e_i64 marks))), (3, .ptr 0 0), (4, .ptr 1 0), (20, .d (.bool true))]) (H' := [.box [.d (.int .i64 p0), .d (.int .i64 p1), .d (.lit (List.map e_SPart p2))], .box [.d (.lit (List.map e_Li64 s0)), .d (.lit (List.map e_i64 s1))]]) (hnd := by decide) (h := ?_)
    exact hj6 true
   ·refine oP (.d (.lit (List.map e_i64 marks))) p_move ?_
    refine oP (.d (.int .i64 ((List.length marks) : Int))) (k_lenLit (enc := e_i64) marks (hu := Try.underlying22)) ?_
    refine oP (.ptr 0 2) (k_fieldAddr 0 0 (hu := Try.underlying27) (hf := rfl) (hi := ty25)) ?_
    refine oQ (.d (.lit (List.map e_SPart p2))) (k_load 0 2 (hu := Try.underlying25)) ?_
    refine oP (.d (.int .i64 ((List.length p2) : Int))) (k_lenLit (enc := e_SPart) p2 (hu := Try.underlying25)) ?_
    refine oP (.d (.bool (((List.length marks) : Int) != ((List.length p2) : Int)))) (p_int (k := .i64) (p := ((List.length marks) : Int)) (q := ((List.length p2) : Int))) ?_
    refine oP (.d (.bool (((List.length marks) : Int) != ((List.length p2) : Int)))) (p_pick (b := false)) ?_
    refine oHead [2, 3, 4, 20] [0, 1] (T' := [(2, .d (.lit (List.map e_i64 marks))), (3, .ptr 0 0), (4, .ptr 1 0), (20, .d (.bool (((List.length marks) : Int) != ((List.length p2) : Int))))]) (H' := [.box [.d (.int .i64 p0), .d (.int .i64 p1), .d (.lit (List.map e_SPart p2))], .box [.d (.lit (List.map e_Li64 s0)), .d (.lit (List.map e_i64 s1))]]) (hnd := by decide) (h := ?_)
    exact hj6 (((List.length marks) : Int) != ((List.length p2) : Int))

/-- awardingbody/scheme.Total$1 -/
def scheme_Total_1 (k : Nat) (i : Int) (x : (List Int)) : Option (Int) := gidx x i fun e11 => some (gmax e11 0)
def scheme_Total_1_E (i : Int) (x : (List Int)) : Int → V × List Blk := fun r1 => (.d (.int .i64 r1), [.box [.d (.lit (List.map e_i64 x))]])
theorem scheme_Total_1_goes (k : Nat) (i : Int) (x : (List Int)) : RunsO Try.prog 46 [.d (.int .i64 i), .ptr 0 0] [.box [.d (.lit (List.map e_i64 x))]] (scheme_Total_1_E i x) (scheme_Total_1 k i x) := by
  refine RunsO.of_goes (N := 9) (m := 1) (T := [(0, .d (.int .i64 i)), (1, .ptr 0 0)]) Try.func46 rfl rfl (h := ?_)
  unfold scheme_Total_1
  refine bStart ?_
  refine oSR rfl ?_
  refine oP (.d (.int .i64 0)) p_assign ?_
  refine oEnd ?_
  refine oSR rfl ?_
  refine oQ (.d (.lit (List.map e_i64 x))) (k_load 0 0 (hu := Try.underlying22)) ?_
  refine oP (.d (.int .i64 i)) p_move ?_
  refine bIdx (fun e11 h12 h13 => ?_)
  refine oP (.lptr (e_i64 e11) 0) (k_idxLit e_i64_len x (a := e11) (k := .i64) (i := i) (hu := Try.underlying22) (hi := ty3) (h0 := h12) (he := h13)) ?_
  refine oQ (.d (.int .i64 e11)) (k_loadL (cells := e_i64 e11) 0 (hu := Try.underlying3)) ?_
  refine oP (.d (.int .i64 (gmax e11 0))) (p_max2 (k := .i64) (p := e11) (q := 0)) ?_
  refine oP (.d (.int .i64 (gmax e11 0))) p_assign ?_
  refine oEnd ?_
  exact oRet (r0 := (gmax e11 0)) (rv := .d (.int .i64 (gmax e11 0))) (B := [.box [.d (.lit (List.map e_i64 x))]]) (vs := [.d (.int .i64 (gmax e11 0))]) (σ := [0]) (hf := Try.func46) (hrs := rfl) (hres := .cons _ _ _ _ (.tmp 3 _ (by kernel_rfl)) .nil) (hnd := by decide)

/-- awardingbody/scheme.sum -/
def scheme_sum_b1 (k : Nat) (p2 : (List SPart)) (s1 : (List Int)) (x : (List Int)) (again : Int × Int → Option (Int)) : Int × Int → Option (Int) := uc fun n11 => fun x5 => bif (decide (x5 < ((List.length p2) : Int))) then Option.bind (gidx p2 x5 fun e114 => gidx s1 x5 fun e115 => bif (e115 == 0) then Option.bind (scheme_Total_1 k x5 x) (fun r18 => some (IntKind.wrap .i64 (n11 + r18))) else bif (e115 == 1) then some (IntKind.wrap .i64 (n11 + e114.Max)) else bif (e115 == 2) then some n11 else some n11 : Option (Int)) (fun n14 => again (n14, (IntKind.wrap .i64 (x5 + 1)))) else some n11
def scheme_sum (k : Nat) (p0 : Int) (p1 : Int) (p2 : (List SPart)) (s0 : (List (List Int))) (s1 : (List Int)) (x : (List Int)) : Option (Int) := Option.bind (gloop (scheme_sum_b1 k p2 s1 x) k (0, 0) : Option (Int)) (fun n9 => some n9)
def scheme_sum_E (p0 : Int) (p1 : Int) (p2 : (List SPart)) (s0 : (List (List Int))) (s1 : (List Int)) (x : (List Int)) : Int → V × List Blk := fun r12 => (.d (.int .i64 r12), [.box [.d (.lit (List.map e_i64 x))]])
theorem scheme_sum_goes (k : Nat) (p0 : Int) (p1 : Int) (p2 : (List SPart)) (s0 : (List (List Int))) (s1 : (List Int)) (x : (List Int)) : RunsO Try.prog 45 [.agg [.d (.int .i64 p0), .d (.int .i64 p1), .d (.lit (List.map e_SPart p2))], .agg [.d (.lit (List.map e_Li64 s0)), .d (.lit (List.map e_i64 s1))], .fn 46 [.ptr 0 0]] [.box [.d (.lit (List.map e_i64 x))]] (scheme_sum_E p0 p1 p2 s0 s1 x) (scheme_sum k p0 p1 p2 s0 s1 x) := by
  refine RunsO.of_goes (N := 40) (m := 1) (T := [(0, .agg [.d (.int .i64 p0), .d (.int .i64 p1), .d (.lit (List.map e_SPart p2))]), (1, .agg [.d (.lit (List.map e_Li64 s0)), .d (.lit (List.map e_i64 s1))]), (2, .fn 46 [.ptr 0 0])]) Try.func45 rfl rfl (h := ?_)
  unfold scheme_sum
  refine bStart ?_
  refine oSR rfl ?_
  refine oD (.ptr 1 0) (k_box (H' := [.box [.d (.lit (List.map e_i64 x))], .box [.d (.int .i64 p0), .d (.int .i64 p1), .d (.lit (List.map e_SPart p2))]]) (cells := [.d (.int .i64 p0), .d (.int .i64 p1), .d (.lit (List.map e_SPart p2))])) ?_
  refine oD (.ptr 2 0) (k_box (H' := [.box [.d (.lit (List.map e_i64 x))], .box [.d (.int .i64 p0), .d (.int .i64 p1), .d (.lit (List.map e_SPart p2))], .box [.d (.lit (List.map e_Li64 s0)), .d (.lit (List.map e_i64 s1))]]) (cells := [.d (.lit (List.map e_Li64 s0)), .d (.lit (List.map e_i64 s1))])) ?_
  refine oP (.d (.int .i64 0)) p_assign ?_
  refine oEnd ?_
  refine oSR rfl ?_
  refine oP (.d (.int .i64 0)) p_assign ?_
  refine oEnd ?_
  refine oSeq ?_
  refine oSR rfl ?_
  refine oP (.ptr 1 2) (k_fieldAddr 1 0 (hu := Try.underlying27) (hf := rfl) (hi := ty25)) ?_
  refine oQ (.d (.lit (List.map e_SPart p2))) (k_load 1 2 (hu := Try.underlying25)) ?_
  refine oP (.d (.int .i64 ((List.length p2) : Int))) (k_lenLit (enc := e_SPart) p2 (hu := Try.underlying25)) ?_
  refine oP (.d (.int .i64 0)) p_move ?_
  refine oEnd ?_
  refine bJoin ((fun (n9 : Int) => [(7, .d (.int .i64 n9))])) ((fun (n9 : Int) => [.box [.d (.lit (List.map e_i64 x))]])) (fun s => s) (fun n9 => ?_) (fun hj6 => ?_)
  ·refine oView (T' := [(7, .d (.int .i64 n9))]) (H' := [.box [.d (.lit (List.map e_i64 x))]]) (h := ?_)
   refine oSR rfl ?_
   refine oP (.d (.int .i64 n9)) p_move ?_
   refine oP (.d (.int .i64 n9)) p_assign ?_
   refine oEnd ?_
   exact oRet (r0 := n9) (rv := .d (.int .i64 n9)) (B := [.box [.d (.lit (List.map e_i64 x))]]) (vs := [.d (.int .i64 n9)]) (σ := [0]) (hf := Try.func45) (hrs := rfl) (hres := .cons _ _ _ _ (.tmp 6 _ (by kernel_rfl)) .nil) (hnd := by decide)
  ·refine oBlock ?_
   refine oLoop ?_
   refine oHead [2, 4, 7, 11, 12, 13] [0, 2] (T' := [(2, .fn 46 [.ptr 0 0]), (4, .ptr 1 0), (7, .d (.int .i64 0)), (11, .d (.lit (List.map e_SPart p2))), (12, .d (.int .i64 ((List.length p2) : Int))), (13, .d (.int .i64 0))]) (H' := [.box [.d (.lit (List.map e_i64 x))], .box [.d (.lit (List.map e_Li64 s0)), .d (.lit (List.map e_i64 s1))]]) (hnd := by decide) (h := ?_)
   refine bLoop (body := scheme_sum_b1 k p2 s1 x) ((uc fun (n11 : Int) => (fun (x5 : Int) => [(2, .fn 46 [.ptr 0 0]), (4, .ptr 1 0), (7, .d (.int .i64 n11)), (11, .d (.lit (List.map e_SPart p2))), (12, .d (.int .i64 ((List.length p2) : Int))), (13, .d (.int .i64 x5))]))) ((uc fun (n11 : Int) => (fun (x5 : Int) => [.box [.d (.lit (List.map e_i64 x))], .box [.d (.lit (List.map e_Li64 s0)), .d (.lit (List.map e_i64 s1))]]))) (fun again hag1 s => ?_) k (0, 0)
   ·unfold scheme_sum_b1
    obtain ⟨n11, x5⟩ := s
    refine bUc ?_
    refine oView (T' := [(2, .fn 46 [.ptr 0 0]), (4, .ptr 1 0), (7, .d (.int .i64 n11)), (11, .d (.lit (List.map e_SPart p2))), (12, .d (.int .i64 ((List.length p2) : Int))), (13, .d (.int .i64 x5))]) (H' := [.box [.d (.lit (List.map e_i64 x))], .box [.d (.lit (List.map e_Li64 s0)), .d (.lit (List.map e_i64 s1))]]) (h := ?_)
    refine oSR rfl ?_
    refine oP (.d (.bool (decide (x5 < ((List.length p2) : Int))))) (p_int (k := .i64) (p := x5) (q := ((List.length p2) : Int))) ?_
    refine oEnd ?_
    refine oSeq ?_
    refine bSplit 14 (h1 := fun hc => ?_) (h2 := fun hc => ?_)
    ·refine oCondT (h := ?_)
     refine oSkip ?_
     refine oSeq ?_
     refine bJoin ((fun (n14 : Int) => [(2, .fn 46 [.ptr 0 0]), (4, .ptr 1 0), (7, .d (.int .i64 n14)), (11, .d (.lit (List.map e_SPart p2))), (12, .d (.int .i64 ((List.length p2) : Int))), (13, .d (.int .i64 x5))])) ((fun (n14 : Int) => [.box [.d (.lit (List.map e_i64 x))], .box [.d (.lit (List.map e_Li64 s0)), .d (.lit (List.map e_i64 s1))]])) (fun s => s) (fun n14 => ?_) (fun hj9 => ?_)
     ·refine oView (T' := [(2, .fn 46 [.ptr 0 0]), (4, .ptr 1 0), (7, .d (.int .i64 n14)), (11, .d (.lit (List.map e_SPart p2))), (12, .d (.int .i64 ((List.length p2) : Int))), (13, .d (.int .i64 x5))]) (H' := [.box [.d (.lit (List.map e_i64 x))], .box [.d (.lit (List.map e_Li64 s0)), .d (.lit (List.map e_i64 s1))]]) (h := ?_)
      refine oRegion rfl ?_
      refine oP (.d (.int .i64 (IntKind.wrap .i64 (x5 + 1)))) (p_int (k := .i64) (p := x5) (q := 1)) ?_
      refine oP (.d (.int .i64 (IntKind.wrap .i64 (x5 + 1)))) p_move ?_
      refine oEnd ?_
      refine oAgain ?_
      refine oHead [2, 4, 7, 11, 12, 13] [0, 1] (T' := [(2, .fn 46 [.ptr 0 0]), (4, .ptr 1 0), (7, .d (.int .i64 n14)), (11, .d (.lit (List.map e_SPart p2))), (12, .d (.int .i64 ((List.length p2) : Int))), (13, .d (.int .i64 (IntKind.wrap .i64 (x5 + 1))))]) (H' := [.box [.d (.lit (List.map e_i64 x))], .box [.d (.lit (List.map e_Li64 s0)), .d (.lit (List.map e_i64 s1))]]) (hnd := by decide) (h := ?_)
      exact hag1 (n14, (IntKind.wrap .i64 (x5 + 1)))
     ·refine oBlock ?_
      refine oSR rfl ?_
      refine oP (.d (.int .i64 x5)) p_move ?_
      refine bIdx (fun e114 h128 h129 => ?_)
      refine oP (.lptr (e_SPart e114) 0) (k_idxLit e_SPart_len p2 (a := e114) (k := .i64) (i := x5) (hu := Try.underlying25) (hi := ty49) (h0 := h128) (he := h129)) ?_
      refine oQ (.agg [.d (.int .i64 e114.Kind), .d (.int .i64 e114.Max), .d (.int .i64 e114.Topic), .d (.int .i64 e114.Objective), .d (.int .i64 e114.Options), .d (.int .i64 e114.Key)]) (k_loadLAgg (cells := e_SPart e114) 0 [(.int .i64 e114.Kind), (.int .i64 e114.Max), (.int .i64 e114.Topic), (.int .i64 e114.Objective), (.int .i64 e114.Options), (.int .i64 e114.Key)] (hu := Try.underlying49) (hi := ty49)) ?_
      refine oD (.ptr 2 0) (k_alloc (H' := [.box [.d (.lit (List.map e_i64 x))], .box [.d (.lit (List.map e_Li64 s0)), .d (.lit (List.map e_i64 s1))], .box [.d (.int .i64 0), .d (.int .i64 0), .d (.int .i64 0), .d (.int .i64 0), .d (.int .i64 0), .d (.int .i64 0)]]) ty49) ?_
      refine oP (.d (.int .i64 x5)) p_assign ?_
      refine oD (.undef) (k_store (vs := [.d (.int .i64 e114.Kind), .d (.int .i64 e114.Max), .d (.int .i64 e114.Topic), .d (.int .i64 e114.Objective), .d (.int .i64 e114.Options), .d (.int .i64 e114.Key)]) (H' := [.box [.d (.lit (List.map e_i64 x))], .box [.d (.lit (List.map e_Li64 s0)), .d (.lit (List.map e_i64 s1))], .box [.d (.int .i64 e114.Kind), .d (.int .i64 e114.Max), .d (.int .i64 e114.Topic), .d (.int .i64 e114.Objective), .d (.int .i64 e114.Options), .d (.int .i64 e114.Key)]]) 2 0 (hi := ty49)) ?_
      refine oEnd ?_
      refine oSR rfl ?_
      refine oP (.ptr 1 1) (k_fieldAddr 1 0 (hu := Try.underlying31) (hf := rfl) (hi := ty22)) ?_
      refine oQ (.d (.lit (List.map e_i64 s1))) (k_load 1 1 (hu := Try.underlying22)) ?_
      refine oP (.d (.int .i64 x5)) p_move ?_
      refine bIdx (fun e115 h130 h131 => ?_)
      refine oP (.lptr (e_i64 e115) 0) (k_idxLit e_i64_len s1 (a := e115) (k := .i64) (i := x5) (hu := Try.underlying22) (hi := ty3) (h0 := h130) (he := h131)) ?_
      refine oQ (.d (.int .i64 e115)) (k_loadL (cells := e_i64 e115) 0 (hu := Try.underlying3)) ?_
      refine oEnd ?_
      refine oBlock ?_
      refine oSR rfl ?_
      refine oP (.d (.bool (e115 == 0))) (p_int (k := .i64) (p := e115) (q := 0)) ?_
      refine oP (.d (.bool (e115 == 0))) p_assign ?_
      refine oEnd ?_
      refine bSplit 23 (h1 := fun hc => ?_) (h2 := fun hc => ?_)
      ·refine oCondT (h := ?_)
       refine oRegion rfl ?_
       refine oP (.d (.int .i64 n11)) p_move ?_
       refine oP (.fn 46 [.ptr 0 0]) p_move ?_
       refine oP (.d (.int .i64 x5)) p_move ?_
       refine bCall (caps := [.ptr 0 0]) (v := (fun (r18 : Int) => (.d (.int .i64 r18) : V))) (H' := (fun (r18 : Int) => ([.box [.d (.lit (List.map e_i64 x))], .box [.d (.lit (List.map e_Li64 s0)), .d (.lit (List.map e_i64 s1))], .box [.d (.int .i64 e114.Kind), .d (.int .i64 e114.Max), .d (.int .i64 e114.Topic), .d (.int .i64 e114.Objective), .d (.int .i64 e114.Options), .d (.int .i64 e114.Key)]] : List Blk))) [0] _ (scheme_Total_1_goes k x5 x) (ho := rfl) (hfn := Try.func46) (hb := rfl) (hconv := ConvRs.refl _ _) (hnd := by decide) (hBl := fun _ => (by kernel_rfl)) (hv := fun _ => (by kernel_rfl)) (hH' := fun _ => (by kernel_rfl)) (h := fun r18 => ?_)
       refine oP (.d (.int .i64 (IntKind.wrap .i64 (n11 + r18)))) (p_int (k := .i64) (p := n11) (q := r18)) ?_
       refine oP (.d (.int .i64 (IntKind.wrap .i64 (n11 + r18)))) p_assign ?_
       refine oEnd ?_
       refine oBlk ?_
       refine oBlk ?_
       refine oHead [2, 4, 7, 11, 12, 13] [0, 1] (T' := [(2, .fn 46 [.ptr 0 0]), (4, .ptr 1 0), (7, .d (.int .i64 (IntKind.wrap .i64 (n11 + r18)))), (11, .d (.lit (List.map e_SPart p2))), (12, .d (.int .i64 ((List.length p2) : Int))), (13, .d (.int .i64 x5))]) (H' := [.box [.d (.lit (List.map e_i64 x))], .box [.d (.lit (List.map e_Li64 s0)), .d (.lit (List.map e_i64 s1))]]) (hnd := by decide) (h := ?_)
       exact hj9 (IntKind.wrap .i64 (n11 + r18))
      ·refine oCondF (h := ?_)
       refine oSR rfl ?_
       refine oP (.d (.bool (e115 == 1))) (p_int (k := .i64) (p := e115) (q := 1)) ?_
       refine oP (.d (.bool (e115 == 1))) p_assign ?_
       refine oEnd ?_
       refine bSplit 30 (h1 := fun hc => ?_) (h2 := fun hc => ?_)
       ·refine oCondT (h := ?_)
        refine oRegion rfl ?_
        refine oP (.d (.int .i64 n11)) p_move ?_
        refine oP (.ptr 2 1) (k_fieldAddr 2 0 (hu := Try.underlying49) (hf := rfl) (hi := ty3)) ?_
        refine oQ (.d (.int .i64 e114.Max)) (k_load 2 1 (hu := Try.underlying3)) ?_
        refine oP (.d (.int .i64 (IntKind.wrap .i64 (n11 + e114.Max)))) (p_int (k := .i64) (p := n11) (q := e114.Max)) ?_
        refine oP (.d (.int .i64 (IntKind.wrap .i64 (n11 + e114.Max)))) p_assign ?_
        refine oEnd ?_
        refine oBlk ?_
        refine oBlk ?_
        refine oHead [2, 4, 7, 11, 12, 13] [0, 1] (T' := [(2, .fn 46 [.ptr 0 0]), (4, .ptr 1 0), (7, .d (.int .i64 (IntKind.wrap .i64 (n11 + e114.Max)))), (11, .d (.lit (List.map e_SPart p2))), (12, .d (.int .i64 ((List.length p2) : Int))), (13, .d (.int .i64 x5))]) (H' := [.box [.d (.lit (List.map e_i64 x))], .box [.d (.lit (List.map e_Li64 s0)), .d (.lit (List.map e_i64 s1))]]) (hnd := by decide) (h := ?_)
        exact hj9 (IntKind.wrap .i64 (n11 + e114.Max))
       ·refine oCondF (h := ?_)
        refine oSR rfl ?_
        refine oP (.d (.bool (e115 == 2))) (p_int (k := .i64) (p := e115) (q := 2)) ?_
        refine oP (.d (.bool (e115 == 2))) p_assign ?_
        refine oEnd ?_
        refine bSplit 36 (h1 := fun hc => ?_) (h2 := fun hc => ?_)
        ·refine oCondT (h := ?_)
         refine oSkip ?_
         refine oBlk ?_
         refine oBlk ?_
         refine oHead [2, 4, 7, 11, 12, 13] [0, 1] (T' := [(2, .fn 46 [.ptr 0 0]), (4, .ptr 1 0), (7, .d (.int .i64 n11)), (11, .d (.lit (List.map e_SPart p2))), (12, .d (.int .i64 ((List.length p2) : Int))), (13, .d (.int .i64 x5))]) (H' := [.box [.d (.lit (List.map e_i64 x))], .box [.d (.lit (List.map e_Li64 s0)), .d (.lit (List.map e_i64 s1))]]) (hnd := by decide) (h := ?_)
         exact hj9 n11
        ·refine oCondF (h := ?_)
         refine oSkip ?_
         refine oBlk ?_
         refine oBlk ?_
         refine oHead [2, 4, 7, 11, 12, 13] [0, 1] (T' := [(2, .fn 46 [.ptr 0 0]), (4, .ptr 1 0), (7, .d (.int .i64 n11)), (11, .d (.lit (List.map e_SPart p2))), (12, .d (.int .i64 ((List.length p2) : Int))), (13, .d (.int .i64 x5))]) (H' := [.box [.d (.lit (List.map e_i64 x))], .box [.d (.lit (List.map e_Li64 s0)), .d (.lit (List.map e_i64 s1))]]) (hnd := by decide) (h := ?_)
         exact hj9 n11
    ·refine oCondF (h := ?_)
     refine oExit rfl ?_
     refine oHead [7] [0] (T' := [(7, .d (.int .i64 n11))]) (H' := [.box [.d (.lit (List.map e_i64 x))]]) (hnd := by decide) (h := ?_)
     exact hj6 n11

/-- awardingbody/scheme.Total -/
def scheme_Total (k : Nat) (p0 : Int) (p1 : Int) (p2 : (List SPart)) (s0 : (List (List Int))) (s1 : (List Int)) (marks : (List Int)) : Option (Int × Int) := Option.bind (scheme_Valid k p0 p1 p2 s0 s1) (fun r16 => bif (!r16) then some (0, 1) else bif (((List.length marks) : Int) != ((List.length p2) : Int)) then some (0, 22) else Option.bind (scheme_Marked k p0 p1 p2 s0 s1 marks) (fun r128 => bif (!r128) then some (0, 8) else Option.bind (scheme_sum k p0 p1 p2 s0 s1 marks) (fun r129 => some (r129, 0))))
def scheme_Total_E (p0 : Int) (p1 : Int) (p2 : (List SPart)) (s0 : (List (List Int))) (s1 : (List Int)) (marks : (List Int)) : Int × Int → V × List Blk := uc fun r13 => fun r14 => (.tuple [.d (.int .i64 r13), .d (.int .i64 r14)], [])
theorem scheme_Total_goes (k : Nat) (p0 : Int) (p1 : Int) (p2 : (List SPart)) (s0 : (List (List Int))) (s1 : (List Int)) (marks : (List Int)) : RunsO Try.prog 21 [.agg [.d (.int .i64 p0), .d (.int .i64 p1), .d (.lit (List.map e_SPart p2))], .agg [.d (.lit (List.map e_Li64 s0)), .d (.lit (List.map e_i64 s1))], .d (.lit (List.map e_i64 marks))] [] (scheme_Total_E p0 p1 p2 s0 s1 marks) (scheme_Total k p0 p1 p2 s0 s1 marks) := by
  refine RunsO.of_goes (N := 30) (m := 0) (T := [(0, .agg [.d (.int .i64 p0), .d (.int .i64 p1), .d (.lit (List.map e_SPart p2))]), (1, .agg [.d (.lit (List.map e_Li64 s0)), .d (.lit (List.map e_i64 s1))]), (2, .d (.lit (List.map e_i64 marks)))]) Try.func21 rfl rfl (h := ?_)
  unfold scheme_Total
  refine bStart ?_
  refine oSR rfl ?_
  refine oD (.ptr 0 0) (k_box (H' := [.box [.d (.int .i64 p0), .d (.int .i64 p1), .d (.lit (List.map e_SPart p2))]]) (cells := [.d (.int .i64 p0), .d (.int .i64 p1), .d (.lit (List.map e_SPart p2))])) ?_
  refine oD (.ptr 1 0) (k_box (H' := [.box [.d (.int .i64 p0), .d (.int .i64 p1), .d (.lit (List.map e_SPart p2))], .box [.d (.lit (List.map e_Li64 s0)), .d (.lit (List.map e_i64 s1))]]) (cells := [.d (.lit (List.map e_Li64 s0)), .d (.lit (List.map e_i64 s1))])) ?_
  refine oD (.ptr 2 0) (k_box (H' := [.box [.d (.int .i64 p0), .d (.int .i64 p1), .d (.lit (List.map e_SPart p2))], .box [.d (.lit (List.map e_Li64 s0)), .d (.lit (List.map e_i64 s1))], .box [.d (.lit (List.map e_i64 marks))]]) (cells := [.d (.lit (List.map e_i64 marks))])) ?_
  refine oP (.d (.int .i64 0)) p_assign ?_
  refine oP (.d (.int .i64 0)) p_assign ?_
  refine oEnd ?_
  refine oSeq ?_
  refine oBlock ?_
  refine oSR rfl ?_
  refine oQ (.agg [.d (.int .i64 p0), .d (.int .i64 p1), .d (.lit (List.map e_SPart p2))]) (k_loadAgg 0 0 (hu := Try.underlying27) (hi := ty27)) ?_
  refine oQ (.agg [.d (.lit (List.map e_Li64 s0)), .d (.lit (List.map e_i64 s1))]) (k_loadAgg 1 0 (hu := Try.underlying31) (hi := ty31)) ?_
  refine bCall (caps := []) (v := (fun (r16 : Bool) => (.d (.bool r16) : V))) (H' := (fun (r16 : Bool) => ([.box [.d (.int .i64 p0), .d (.int .i64 p1), .d (.lit (List.map e_SPart p2))], .box [.d (.lit (List.map e_Li64 s0)), .d (.lit (List.map e_i64 s1))], .box [.d (.lit (List.map e_i64 marks))]] : List Blk))) [] _ (scheme_Valid_goes k p0 p1 p2 s0 s1) (ho := rfl) (hfn := Try.func30) (hb := rfl) (hconv := ConvRs.refl _ _) (hnd := by decide) (hBl := fun _ => (by kernel_rfl)) (hv := fun _ => (by kernel_rfl)) (hH' := fun _ => (by kernel_rfl)) (h := fun r16 => ?_)
  refine oP (.d (.bool (!r16))) (p_not (p := r16)) ?_
  refine oP (.d (.bool (!r16))) p_assign ?_
  refine oEnd ?_
  refine bSplit 8 (h1 := fun hc => ?_) (h2 := fun hc => ?_)
  ·refine oCondT (h := ?_)
   refine oSR rfl ?_
   refine oP (.d (.int .i64 0)) p_assign ?_
   refine oP (.d (.int .i64 1)) p_assign ?_
   refine oEnd ?_
   exact oRet (r0 := (0, 1)) (rv := .tuple [.d (.int .i64 0), .d (.int .i64 1)]) (B := []) (vs := [.d (.int .i64 0), .d (.int .i64 1)]) (σ := []) (hf := Try.func21) (hrs := rfl) (hres := .cons _ _ _ _ (.tmp 6 _ (by kernel_rfl)) (.cons _ _ _ _ (.tmp 7 _ (by kernel_rfl)) .nil)) (hnd := by decide)
  ·refine oCondF (h := ?_)
   refine oSR rfl ?_
   refine oQ (.d (.lit (List.map e_i64 marks))) (k_load 2 0 (hu := Try.underlying22)) ?_
   refine oP (.d (.int .i64 ((List.length marks) : Int))) (k_lenLit (enc := e_i64) marks (hu := Try.underlying22)) ?_
   refine oP (.ptr 0 2) (k_fieldAddr 0 0 (hu := Try.underlying27) (hf := rfl) (hi := ty25)) ?_
   refine oQ (.d (.lit (List.map e_SPart p2))) (k_load 0 2 (hu := Try.underlying25)) ?_
   refine oP (.d (.int .i64 ((List.length p2) : Int))) (k_lenLit (enc := e_SPart) p2 (hu := Try.underlying25)) ?_
   refine oP (.d (.bool (((List.length marks) : Int) != ((List.length p2) : Int)))) (p_int (k := .i64) (p := ((List.length marks) : Int)) (q := ((List.length p2) : Int))) ?_
   refine oP (.d (.bool (((List.length marks) : Int) != ((List.length p2) : Int)))) p_assign ?_
   refine oEnd ?_
   refine bSplit 13 (h1 := fun hc => ?_) (h2 := fun hc => ?_)
   ·refine oCondT (h := ?_)
    refine oSR rfl ?_
    refine oP (.d (.int .i64 0)) p_assign ?_
    refine oP (.d (.int .i64 22)) p_assign ?_
    refine oEnd ?_
    exact oRet (r0 := (0, 22)) (rv := .tuple [.d (.int .i64 0), .d (.int .i64 22)]) (B := []) (vs := [.d (.int .i64 0), .d (.int .i64 22)]) (σ := []) (hf := Try.func21) (hrs := rfl) (hres := .cons _ _ _ _ (.tmp 6 _ (by kernel_rfl)) (.cons _ _ _ _ (.tmp 7 _ (by kernel_rfl)) .nil)) (hnd := by decide)
   ·refine oCondF (h := ?_)
    refine oSR rfl ?_
    refine oQ (.agg [.d (.int .i64 p0), .d (.int .i64 p1), .d (.lit (List.map e_SPart p2))]) (k_loadAgg 0 0 (hu := Try.underlying27) (hi := ty27)) ?_
    refine oQ (.agg [.d (.lit (List.map e_Li64 s0)), .d (.lit (List.map e_i64 s1))]) (k_loadAgg 1 0 (hu := Try.underlying31) (hi := ty31)) ?_
    refine oQ (.d (.lit (List.map e_i64 marks))) (k_load 2 0 (hu := Try.underlying22)) ?_
    refine bCall (caps := []) (v := (fun (r128 : Bool) => (.d (.bool r128) : V))) (H' := (fun (r128 : Bool) => ([.box [.d (.int .i64 p0), .d (.int .i64 p1), .d (.lit (List.map e_SPart p2))], .box [.d (.lit (List.map e_Li64 s0)), .d (.lit (List.map e_i64 s1))], .box [.d (.lit (List.map e_i64 marks))]] : List Blk))) [] _ (scheme_Marked_goes k p0 p1 p2 s0 s1 marks) (ho := rfl) (hfn := Try.func36) (hb := rfl) (hconv := ConvRs.refl _ _) (hnd := by decide) (hBl := fun _ => (by kernel_rfl)) (hv := fun _ => (by kernel_rfl)) (hH' := fun _ => (by kernel_rfl)) (h := fun r128 => ?_)
    refine oP (.d (.bool (!r128))) (p_not (p := r128)) ?_
    refine oP (.d (.bool (!r128))) p_assign ?_
    refine oEnd ?_
    refine bSplit 20 (h1 := fun hc => ?_) (h2 := fun hc => ?_)
    ·refine oCondT (h := ?_)
     refine oSR rfl ?_
     refine oP (.d (.int .i64 0)) p_assign ?_
     refine oP (.d (.int .i64 8)) p_assign ?_
     refine oEnd ?_
     exact oRet (r0 := (0, 8)) (rv := .tuple [.d (.int .i64 0), .d (.int .i64 8)]) (B := []) (vs := [.d (.int .i64 0), .d (.int .i64 8)]) (σ := []) (hf := Try.func21) (hrs := rfl) (hres := .cons _ _ _ _ (.tmp 6 _ (by kernel_rfl)) (.cons _ _ _ _ (.tmp 7 _ (by kernel_rfl)) .nil)) (hnd := by decide)
    ·refine oCondF (h := ?_)
     refine oSkip ?_
     refine oBlk ?_
     refine oSR rfl ?_
     refine oQ (.agg [.d (.int .i64 p0), .d (.int .i64 p1), .d (.lit (List.map e_SPart p2))]) (k_loadAgg 0 0 (hu := Try.underlying27) (hi := ty27)) ?_
     refine oQ (.agg [.d (.lit (List.map e_Li64 s0)), .d (.lit (List.map e_i64 s1))]) (k_loadAgg 1 0 (hu := Try.underlying31) (hi := ty31)) ?_
     refine oP (.fn 46 [.ptr 2 0]) p_makeFunc ?_
     refine bCall (caps := []) (v := (fun (r129 : Int) => (.d (.int .i64 r129) : V))) (H' := (fun (r129 : Int) => ([.box [.d (.int .i64 p0), .d (.int .i64 p1), .d (.lit (List.map e_SPart p2))], .box [.d (.lit (List.map e_Li64 s0)), .d (.lit (List.map e_i64 s1))], .box [.d (.lit (List.map e_i64 marks))]] : List Blk))) [2] _ (scheme_sum_goes k p0 p1 p2 s0 s1 marks) (ho := rfl) (hfn := Try.func45) (hb := rfl) (hconv := ConvRs.refl _ _) (hnd := by decide) (hBl := fun _ => (by kernel_rfl)) (hv := fun _ => (by kernel_rfl)) (hH' := fun _ => (by kernel_rfl)) (h := fun r129 => ?_)
     refine oP (.d (.int .i64 r129)) p_assign ?_
     refine oP (.d (.int .i64 0)) p_assign ?_
     refine oEnd ?_
     exact oRet (r0 := (r129, 0)) (rv := .tuple [.d (.int .i64 r129), .d (.int .i64 0)]) (B := []) (vs := [.d (.int .i64 r129), .d (.int .i64 0)]) (σ := []) (hf := Try.func21) (hrs := rfl) (hres := .cons _ _ _ _ (.tmp 6 _ (by kernel_rfl)) (.cons _ _ _ _ (.tmp 7 _ (by kernel_rfl)) .nil)) (hnd := by decide)

/-- awardingbody/awardingbodyref06.ValidPart -/
def ref06_ValidPart (k : Nat) (p0 : Int) (p1 : Int) (p2 : Int) (p3 : Int) (p4 : Int) (p5 : Int) : Option (Bool) := blet ((decide (p1 < 1)) || (decide (p1 > 40))) fun x11 => blet (x11 || (decide (p2 < 0))) fun x12 => blet (x12 || (decide (p2 ≥ 16))) fun x13 => blet (x13 || (decide (p3 < 0))) fun x14 => blet (x14 || (decide (p3 ≥ 6))) fun x15 => bif x15 then some false else bif (p0 == 1) then blet ((p4 == 0) && (p5 == 0)) fun x17 => some x17 else blet ((p0 == 2) && (decide (p4 ≥ 2))) fun x18 => blet (x18 && (decide (p4 ≤ 5))) fun x19 => blet (x19 && (decide (p5 ≥ 0))) fun x20 => blet (x20 && (decide (p5 < p4))) fun x21 => some x21
def ref06_ValidPart_E (p0 : Int) (p1 : Int) (p2 : Int) (p3 : Int) (p4 : Int) (p5 : Int) : Bool → V × List Blk := fun r1 => (.d (.bool r1), [])
theorem ref06_ValidPart_goes (k : Nat) (p0 : Int) (p1 : Int) (p2 : Int) (p3 : Int) (p4 : Int) (p5 : Int) : RunsO Try.prog 64 [.agg [.d (.int .i64 p0), .d (.int .i64 p1), .d (.int .i64 p2), .d (.int .i64 p3), .d (.int .i64 p4), .d (.int .i64 p5)]] [] (ref06_ValidPart_E p0 p1 p2 p3 p4 p5) (ref06_ValidPart k p0 p1 p2 p3 p4 p5) := by
  refine RunsO.of_goes (N := 67) (m := 0) (T := [(0, .agg [.d (.int .i64 p0), .d (.int .i64 p1), .d (.int .i64 p2), .d (.int .i64 p3), .d (.int .i64 p4), .d (.int .i64 p5)])]) Try.func64 rfl rfl (h := ?_)
  unfold ref06_ValidPart
  refine bStart ?_
  refine oSR rfl ?_
  refine oD (.ptr 0 0) (k_box (H' := [.box [.d (.int .i64 p0), .d (.int .i64 p1), .d (.int .i64 p2), .d (.int .i64 p3), .d (.int .i64 p4), .d (.int .i64 p5)]]) (cells := [.d (.int .i64 p0), .d (.int .i64 p1), .d (.int .i64 p2), .d (.int .i64 p3), .d (.int .i64 p4), .d (.int .i64 p5)])) ?_
  refine oP (.d (.bool false)) p_assign ?_
  refine oEnd ?_
  refine oSeq ?_
  refine oSR rfl ?_
  refine oP (.ptr 0 1) (k_fieldAddr 0 0 (hu := Try.underlying49) (hf := rfl) (hi := ty3)) ?_
  refine oQ (.d (.int .i64 p1)) (k_load 0 1 (hu := Try.underlying3)) ?_
  refine oP (.d (.bool (decide (p1 < 1)))) (p_int (k := .i64) (p := p1) (q := 1)) ?_
  refine oP (.d (.bool (decide (p1 < 1)))) p_move ?_
  refine bMeetF (H' := [.box [.d (.int .i64 p0), .d (.int .i64 p1), .d (.int .i64 p2), .d (.int .i64 p3), .d (.int .i64 p4), .d (.int .i64 p5)]]) 4 rfl ((fun (x11 : Bool) => [(1, .ptr 0 0), (10, .d (.bool x11))])) (fun x11 => ?_) (fun F hj1 => ?_)
  ·refine oView (T' := [(1, .ptr 0 0), (10, .d (.bool x11))]) (H' := [.box [.d (.int .i64 p0), .d (.int .i64 p1), .d (.int .i64 p2), .d (.int .i64 p3), .d (.int .i64 p4), .d (.int .i64 p5)]]) (h := ?_)
   refine oP (.d (.bool x11)) p_move ?_
   refine bMeetF (H' := [.box [.d (.int .i64 p0), .d (.int .i64 p1), .d (.int .i64 p2), .d (.int .i64 p3), .d (.int .i64 p4), .d (.int .i64 p5)]]) 4 rfl ((fun (x12 : Bool) => [(1, .ptr 0 0), (15, .d (.bool x12))])) (fun x12 => ?_) (fun F hj2 => ?_)
   ·refine oView (T' := [(1, .ptr 0 0), (15, .d (.bool x12))]) (H' := [.box [.d (.int .i64 p0), .d (.int .i64 p1), .d (.int .i64 p2), .d (.int .i64 p3), .d (.int .i64 p4), .d (.int .i64 p5)]]) (h := ?_)
    refine oP (.d (.bool x12)) p_move ?_
    refine bMeetF (H' := [.box [.d (.int .i64 p0), .d (.int .i64 p1), .d (.int .i64 p2), .d (.int .i64 p3), .d (.int .i64 p4), .d (.int .i64 p5)]]) 4 rfl ((fun (x13 : Bool) => [(1, .ptr 0 0), (20, .d (.bool x13))])) (fun x13 => ?_) (fun F hj3 => ?_)
    ·refine oView (T' := [(1, .ptr 0 0), (20, .d (.bool x13))]) (H' := [.box [.d (.int .i64 p0), .d (.int .i64 p1), .d (.int .i64 p2), .d (.int .i64 p3), .d (.int .i64 p4), .d (.int .i64 p5)]]) (h := ?_)
     refine oP (.d (.bool x13)) p_move ?_
     refine bMeetF (H' := [.box [.d (.int .i64 p0), .d (.int .i64 p1), .d (.int .i64 p2), .d (.int .i64 p3), .d (.int .i64 p4), .d (.int .i64 p5)]]) 4 rfl ((fun (x14 : Bool) => [(1, .ptr 0 0), (25, .d (.bool x14))])) (fun x14 => ?_) (fun F hj4 => ?_)
     ·refine oView (T' := [(1, .ptr 0 0), (25, .d (.bool x14))]) (H' := [.box [.d (.int .i64 p0), .d (.int .i64 p1), .d (.int .i64 p2), .d (.int .i64 p3), .d (.int .i64 p4), .d (.int .i64 p5)]]) (h := ?_)
      refine oP (.d (.bool x14)) p_move ?_
      refine bMeetF (H' := [.box [.d (.int .i64 p0), .d (.int .i64 p1), .d (.int .i64 p2), .d (.int .i64 p3), .d (.int .i64 p4), .d (.int .i64 p5)]]) 4 rfl ((fun (x15 : Bool) => [(1, .ptr 0 0), (30, .d (.bool x15))])) (fun x15 => ?_) (fun F hj5 => ?_)
      ·refine oView (T' := [(1, .ptr 0 0), (30, .d (.bool x15))]) (H' := [.box [.d (.int .i64 p0), .d (.int .i64 p1), .d (.int .i64 p2), .d (.int .i64 p3), .d (.int .i64 p4), .d (.int .i64 p5)]]) (h := ?_)
       refine oEnd ?_
       refine bSplit 30 (h1 := fun hc => ?_) (h2 := fun hc => ?_)
       ·refine oCondT (h := ?_)
        refine oSR rfl ?_
        refine oP (.d (.bool false)) p_assign ?_
        refine oEnd ?_
        exact oRet (r0 := false) (rv := .d (.bool false)) (B := []) (vs := [.d (.bool false)]) (σ := []) (hf := Try.func64) (hrs := rfl) (hres := .cons _ _ _ _ (.tmp 2 _ (by kernel_rfl)) .nil) (hnd := by decide)
       ·refine oCondF (h := ?_)
        refine oSkip ?_
        refine oSeq ?_
        refine oSR rfl ?_
        refine oP (.ptr 0 0) (k_fieldAddr 0 0 (hu := Try.underlying49) (hf := rfl) (hi := ty3)) ?_
        refine oQ (.d (.int .i64 p0)) (k_load 0 0 (hu := Try.underlying3)) ?_
        refine oP (.d (.bool (p0 == 1))) (p_int (k := .i64) (p := p0) (q := 1)) ?_
        refine oEnd ?_
        refine bSplit 33 (h1 := fun hc => ?_) (h2 := fun hc => ?_)
        ·refine oCondT (h := ?_)
         refine oSR rfl ?_
         refine oP (.ptr 0 4) (k_fieldAddr 0 0 (hu := Try.underlying49) (hf := rfl) (hi := ty3)) ?_
         refine oQ (.d (.int .i64 p4)) (k_load 0 4 (hu := Try.underlying3)) ?_
         refine oP (.d (.bool (p4 == 0))) (p_int (k := .i64) (p := p4) (q := 0)) ?_
         refine oP (.d (.bool (p4 == 0))) p_move ?_
         refine bMeetF (H' := []) 4 rfl ((fun (x17 : Bool) => [(41, .d (.bool x17))])) (fun x17 => ?_) (fun F hj6 => ?_)
         ·refine oView (T' := [(41, .d (.bool x17))]) (H' := []) (h := ?_)
          refine oP (.d (.bool x17)) p_assign ?_
          refine oEnd ?_
          exact oRet (r0 := x17) (rv := .d (.bool x17)) (B := []) (vs := [.d (.bool x17)]) (σ := []) (hf := Try.func64) (hrs := rfl) (hres := .cons _ _ _ _ (.tmp 2 _ (by kernel_rfl)) .nil) (hnd := by decide)
         ·refine bPickF 37 (fun c => F (c && (p5 == 0))) (h1 := fun hc => ?_) (h2 := fun hc => ?_)
          ·refine oP (.ptr 0 5) (k_fieldAddr 0 0 (hu := Try.underlying49) (hf := rfl) (hi := ty3)) ?_
           refine oQ (.d (.int .i64 p5)) (k_load 0 5 (hu := Try.underlying3)) ?_
           refine oP (.d (.bool (p5 == 0))) (p_int (k := .i64) (p := p5) (q := 0)) ?_
           refine oP (.d (.bool (p5 == 0))) (p_pick (b := true)) ?_
           refine oHead [41] [] (T' := [(41, .d (.bool (p5 == 0)))]) (H' := []) (hnd := by decide) (h := ?_)
           exact hj6 (p5 == 0)
          ·refine oNot (h := ?_)
           refine oNot (h := ?_)
           refine oNot (h := ?_)
           refine oP (.d (.bool false)) (p_pick (b := false)) ?_
           refine oHead [41] [] (T' := [(41, .d (.bool false))]) (H' := []) (hnd := by decide) (h := ?_)
           exact hj6 false
        ·refine oCondF (h := ?_)
         refine oSkip ?_
         refine oSR rfl ?_
         refine oP (.ptr 0 0) (k_fieldAddr 0 0 (hu := Try.underlying49) (hf := rfl) (hi := ty3)) ?_
         refine oQ (.d (.int .i64 p0)) (k_load 0 0 (hu := Try.underlying3)) ?_
         refine oP (.d (.bool (p0 == 2))) (p_int (k := .i64) (p := p0) (q := 2)) ?_
         refine oP (.d (.bool (p0 == 2))) p_move ?_
         refine bMeetF (H' := [.box [.d (.int .i64 p0), .d (.int .i64 p1), .d (.int .i64 p2), .d (.int .i64 p3), .d (.int .i64 p4), .d (.int .i64 p5)]]) 4 rfl ((fun (x18 : Bool) => [(1, .ptr 0 0), (49, .d (.bool x18))])) (fun x18 => ?_) (fun F hj7 => ?_)
         ·refine oView (T' := [(1, .ptr 0 0), (49, .d (.bool x18))]) (H' := [.box [.d (.int .i64 p0), .d (.int .i64 p1), .d (.int .i64 p2), .d (.int .i64 p3), .d (.int .i64 p4), .d (.int .i64 p5)]]) (h := ?_)
          refine oP (.d (.bool x18)) p_move ?_
          refine bMeetF (H' := [.box [.d (.int .i64 p0), .d (.int .i64 p1), .d (.int .i64 p2), .d (.int .i64 p3), .d (.int .i64 p4), .d (.int .i64 p5)]]) 4 rfl ((fun (x19 : Bool) => [(1, .ptr 0 0), (54, .d (.bool x19))])) (fun x19 => ?_) (fun F hj8 => ?_)
          ·refine oView (T' := [(1, .ptr 0 0), (54, .d (.bool x19))]) (H' := [.box [.d (.int .i64 p0), .d (.int .i64 p1), .d (.int .i64 p2), .d (.int .i64 p3), .d (.int .i64 p4), .d (.int .i64 p5)]]) (h := ?_)
           refine oP (.d (.bool x19)) p_move ?_
           refine bMeetF (H' := [.box [.d (.int .i64 p0), .d (.int .i64 p1), .d (.int .i64 p2), .d (.int .i64 p3), .d (.int .i64 p4), .d (.int .i64 p5)]]) 4 rfl ((fun (x20 : Bool) => [(1, .ptr 0 0), (59, .d (.bool x20))])) (fun x20 => ?_) (fun F hj9 => ?_)
           ·refine oView (T' := [(1, .ptr 0 0), (59, .d (.bool x20))]) (H' := [.box [.d (.int .i64 p0), .d (.int .i64 p1), .d (.int .i64 p2), .d (.int .i64 p3), .d (.int .i64 p4), .d (.int .i64 p5)]]) (h := ?_)
            refine oP (.d (.bool x20)) p_move ?_
            refine bMeetF (H' := []) 6 rfl ((fun (x21 : Bool) => [(66, .d (.bool x21))])) (fun x21 => ?_) (fun F hj10 => ?_)
            ·refine oView (T' := [(66, .d (.bool x21))]) (H' := []) (h := ?_)
             refine oP (.d (.bool x21)) p_assign ?_
             refine oEnd ?_
             exact oRet (r0 := x21) (rv := .d (.bool x21)) (B := []) (vs := [.d (.bool x21)]) (σ := []) (hf := Try.func64) (hrs := rfl) (hres := .cons _ _ _ _ (.tmp 2 _ (by kernel_rfl)) .nil) (hnd := by decide)
            ·refine bPickF 60 (fun c => F (c && (decide (p5 < p4)))) (h1 := fun hc => ?_) (h2 := fun hc => ?_)
             ·refine oP (.ptr 0 5) (k_fieldAddr 0 0 (hu := Try.underlying49) (hf := rfl) (hi := ty3)) ?_
              refine oQ (.d (.int .i64 p5)) (k_load 0 5 (hu := Try.underlying3)) ?_
              refine oP (.ptr 0 4) (k_fieldAddr 0 0 (hu := Try.underlying49) (hf := rfl) (hi := ty3)) ?_
              refine oQ (.d (.int .i64 p4)) (k_load 0 4 (hu := Try.underlying3)) ?_
              refine oP (.d (.bool (decide (p5 < p4)))) (p_int (k := .i64) (p := p5) (q := p4)) ?_
              refine oP (.d (.bool (decide (p5 < p4)))) (p_pick (b := true)) ?_
              refine oHead [66] [] (T' := [(66, .d (.bool (decide (p5 < p4))))]) (H' := []) (hnd := by decide) (h := ?_)
              exact hj10 (decide (p5 < p4))
             ·refine oNot (h := ?_)
              refine oNot (h := ?_)
              refine oNot (h := ?_)
              refine oNot (h := ?_)
              refine oNot (h := ?_)
              refine oP (.d (.bool false)) (p_pick (b := false)) ?_
              refine oHead [66] [] (T' := [(66, .d (.bool false))]) (H' := []) (hnd := by decide) (h := ?_)
              exact hj10 false
           ·refine bPickF 55 (fun c => F (c && (decide (p5 ≥ 0)))) (h1 := fun hc => ?_) (h2 := fun hc => ?_)
            ·refine oP (.ptr 0 5) (k_fieldAddr 0 0 (hu := Try.underlying49) (hf := rfl) (hi := ty3)) ?_
             refine oQ (.d (.int .i64 p5)) (k_load 0 5 (hu := Try.underlying3)) ?_
             refine oP (.d (.bool (decide (p5 ≥ 0)))) (p_int (k := .i64) (p := p5) (q := 0)) ?_
             refine oP (.d (.bool (decide (p5 ≥ 0)))) (p_pick (b := true)) ?_
             refine oHead [1, 59] [0] (T' := [(1, .ptr 0 0), (59, .d (.bool (decide (p5 ≥ 0))))]) (H' := [.box [.d (.int .i64 p0), .d (.int .i64 p1), .d (.int .i64 p2), .d (.int .i64 p3), .d (.int .i64 p4), .d (.int .i64 p5)]]) (hnd := by decide) (h := ?_)
             exact hj9 (decide (p5 ≥ 0))
            ·refine oNot (h := ?_)
             refine oNot (h := ?_)
             refine oNot (h := ?_)
             refine oP (.d (.bool false)) (p_pick (b := false)) ?_
             refine oHead [1, 59] [0] (T' := [(1, .ptr 0 0), (59, .d (.bool false))]) (H' := [.box [.d (.int .i64 p0), .d (.int .i64 p1), .d (.int .i64 p2), .d (.int .i64 p3), .d (.int .i64 p4), .d (.int .i64 p5)]]) (hnd := by decide) (h := ?_)
             exact hj9 false
          ·refine bPickF 50 (fun c => F (c && (decide (p4 ≤ 5)))) (h1 := fun hc => ?_) (h2 := fun hc => ?_)
           ·refine oP (.ptr 0 4) (k_fieldAddr 0 0 (hu := Try.underlying49) (hf := rfl) (hi := ty3)) ?_
            refine oQ (.d (.int .i64 p4)) (k_load 0 4 (hu := Try.underlying3)) ?_
            refine oP (.d (.bool (decide (p4 ≤ 5)))) (p_int (k := .i64) (p := p4) (q := 5)) ?_
            refine oP (.d (.bool (decide (p4 ≤ 5)))) (p_pick (b := true)) ?_
            refine oHead [1, 54] [0] (T' := [(1, .ptr 0 0), (54, .d (.bool (decide (p4 ≤ 5))))]) (H' := [.box [.d (.int .i64 p0), .d (.int .i64 p1), .d (.int .i64 p2), .d (.int .i64 p3), .d (.int .i64 p4), .d (.int .i64 p5)]]) (hnd := by decide) (h := ?_)
            exact hj8 (decide (p4 ≤ 5))
           ·refine oNot (h := ?_)
            refine oNot (h := ?_)
            refine oNot (h := ?_)
            refine oP (.d (.bool false)) (p_pick (b := false)) ?_
            refine oHead [1, 54] [0] (T' := [(1, .ptr 0 0), (54, .d (.bool false))]) (H' := [.box [.d (.int .i64 p0), .d (.int .i64 p1), .d (.int .i64 p2), .d (.int .i64 p3), .d (.int .i64 p4), .d (.int .i64 p5)]]) (hnd := by decide) (h := ?_)
            exact hj8 false
         ·refine bPickF 45 (fun c => F (c && (decide (p4 ≥ 2)))) (h1 := fun hc => ?_) (h2 := fun hc => ?_)
          ·refine oP (.ptr 0 4) (k_fieldAddr 0 0 (hu := Try.underlying49) (hf := rfl) (hi := ty3)) ?_
           refine oQ (.d (.int .i64 p4)) (k_load 0 4 (hu := Try.underlying3)) ?_
           refine oP (.d (.bool (decide (p4 ≥ 2)))) (p_int (k := .i64) (p := p4) (q := 2)) ?_
           refine oP (.d (.bool (decide (p4 ≥ 2)))) (p_pick (b := true)) ?_
           refine oHead [1, 49] [0] (T' := [(1, .ptr 0 0), (49, .d (.bool (decide (p4 ≥ 2))))]) (H' := [.box [.d (.int .i64 p0), .d (.int .i64 p1), .d (.int .i64 p2), .d (.int .i64 p3), .d (.int .i64 p4), .d (.int .i64 p5)]]) (hnd := by decide) (h := ?_)
           exact hj7 (decide (p4 ≥ 2))
          ·refine oNot (h := ?_)
           refine oNot (h := ?_)
           refine oNot (h := ?_)
           refine oP (.d (.bool false)) (p_pick (b := false)) ?_
           refine oHead [1, 49] [0] (T' := [(1, .ptr 0 0), (49, .d (.bool false))]) (H' := [.box [.d (.int .i64 p0), .d (.int .i64 p1), .d (.int .i64 p2), .d (.int .i64 p3), .d (.int .i64 p4), .d (.int .i64 p5)]]) (hnd := by decide) (h := ?_)
           exact hj7 false
      ·refine bPickF 26 (fun c => F (c || (decide (p3 ≥ 6)))) (h1 := fun hc => ?_) (h2 := fun hc => ?_)
       ·refine oNot (h := ?_)
        refine oNot (h := ?_)
        refine oNot (h := ?_)
        refine oP (.d (.bool true)) (p_pick (b := true)) ?_
        refine oHead [1, 30] [0] (T' := [(1, .ptr 0 0), (30, .d (.bool true))]) (H' := [.box [.d (.int .i64 p0), .d (.int .i64 p1), .d (.int .i64 p2), .d (.int .i64 p3), .d (.int .i64 p4), .d (.int .i64 p5)]]) (hnd := by decide) (h := ?_)
        exact hj5 true
       ·refine oP (.ptr 0 3) (k_fieldAddr 0 0 (hu := Try.underlying49) (hf := rfl) (hi := ty3)) ?_
        refine oQ (.d (.int .i64 p3)) (k_load 0 3 (hu := Try.underlying3)) ?_
        refine oP (.d (.bool (decide (p3 ≥ 6)))) (p_int (k := .i64) (p := p3) (q := 6)) ?_
        refine oP (.d (.bool (decide (p3 ≥ 6)))) (p_pick (b := false)) ?_
        refine oHead [1, 30] [0] (T' := [(1, .ptr 0 0), (30, .d (.bool (decide (p3 ≥ 6))))]) (H' := [.box [.d (.int .i64 p0), .d (.int .i64 p1), .d (.int .i64 p2), .d (.int .i64 p3), .d (.int .i64 p4), .d (.int .i64 p5)]]) (hnd := by decide) (h := ?_)
        exact hj5 (decide (p3 ≥ 6))
     ·refine bPickF 21 (fun c => F (c || (decide (p3 < 0)))) (h1 := fun hc => ?_) (h2 := fun hc => ?_)
      ·refine oNot (h := ?_)
       refine oNot (h := ?_)
       refine oNot (h := ?_)
       refine oP (.d (.bool true)) (p_pick (b := true)) ?_
       refine oHead [1, 25] [0] (T' := [(1, .ptr 0 0), (25, .d (.bool true))]) (H' := [.box [.d (.int .i64 p0), .d (.int .i64 p1), .d (.int .i64 p2), .d (.int .i64 p3), .d (.int .i64 p4), .d (.int .i64 p5)]]) (hnd := by decide) (h := ?_)
       exact hj4 true
      ·refine oP (.ptr 0 3) (k_fieldAddr 0 0 (hu := Try.underlying49) (hf := rfl) (hi := ty3)) ?_
       refine oQ (.d (.int .i64 p3)) (k_load 0 3 (hu := Try.underlying3)) ?_
       refine oP (.d (.bool (decide (p3 < 0)))) (p_int (k := .i64) (p := p3) (q := 0)) ?_
       refine oP (.d (.bool (decide (p3 < 0)))) (p_pick (b := false)) ?_
       refine oHead [1, 25] [0] (T' := [(1, .ptr 0 0), (25, .d (.bool (decide (p3 < 0))))]) (H' := [.box [.d (.int .i64 p0), .d (.int .i64 p1), .d (.int .i64 p2), .d (.int .i64 p3), .d (.int .i64 p4), .d (.int .i64 p5)]]) (hnd := by decide) (h := ?_)
       exact hj4 (decide (p3 < 0))
    ·refine bPickF 16 (fun c => F (c || (decide (p2 ≥ 16)))) (h1 := fun hc => ?_) (h2 := fun hc => ?_)
     ·refine oNot (h := ?_)
      refine oNot (h := ?_)
      refine oNot (h := ?_)
      refine oP (.d (.bool true)) (p_pick (b := true)) ?_
      refine oHead [1, 20] [0] (T' := [(1, .ptr 0 0), (20, .d (.bool true))]) (H' := [.box [.d (.int .i64 p0), .d (.int .i64 p1), .d (.int .i64 p2), .d (.int .i64 p3), .d (.int .i64 p4), .d (.int .i64 p5)]]) (hnd := by decide) (h := ?_)
      exact hj3 true
     ·refine oP (.ptr 0 2) (k_fieldAddr 0 0 (hu := Try.underlying49) (hf := rfl) (hi := ty3)) ?_
      refine oQ (.d (.int .i64 p2)) (k_load 0 2 (hu := Try.underlying3)) ?_
      refine oP (.d (.bool (decide (p2 ≥ 16)))) (p_int (k := .i64) (p := p2) (q := 16)) ?_
      refine oP (.d (.bool (decide (p2 ≥ 16)))) (p_pick (b := false)) ?_
      refine oHead [1, 20] [0] (T' := [(1, .ptr 0 0), (20, .d (.bool (decide (p2 ≥ 16))))]) (H' := [.box [.d (.int .i64 p0), .d (.int .i64 p1), .d (.int .i64 p2), .d (.int .i64 p3), .d (.int .i64 p4), .d (.int .i64 p5)]]) (hnd := by decide) (h := ?_)
      exact hj3 (decide (p2 ≥ 16))
   ·refine bPickF 11 (fun c => F (c || (decide (p2 < 0)))) (h1 := fun hc => ?_) (h2 := fun hc => ?_)
    ·refine oNot (h := ?_)
     refine oNot (h := ?_)
     refine oNot (h := ?_)
     refine oP (.d (.bool true)) (p_pick (b := true)) ?_
     refine oHead [1, 15] [0] (T' := [(1, .ptr 0 0), (15, .d (.bool true))]) (H' := [.box [.d (.int .i64 p0), .d (.int .i64 p1), .d (.int .i64 p2), .d (.int .i64 p3), .d (.int .i64 p4), .d (.int .i64 p5)]]) (hnd := by decide) (h := ?_)
     exact hj2 true
    ·refine oP (.ptr 0 2) (k_fieldAddr 0 0 (hu := Try.underlying49) (hf := rfl) (hi := ty3)) ?_
     refine oQ (.d (.int .i64 p2)) (k_load 0 2 (hu := Try.underlying3)) ?_
     refine oP (.d (.bool (decide (p2 < 0)))) (p_int (k := .i64) (p := p2) (q := 0)) ?_
     refine oP (.d (.bool (decide (p2 < 0)))) (p_pick (b := false)) ?_
     refine oHead [1, 15] [0] (T' := [(1, .ptr 0 0), (15, .d (.bool (decide (p2 < 0))))]) (H' := [.box [.d (.int .i64 p0), .d (.int .i64 p1), .d (.int .i64 p2), .d (.int .i64 p3), .d (.int .i64 p4), .d (.int .i64 p5)]]) (hnd := by decide) (h := ?_)
     exact hj2 (decide (p2 < 0))
  ·refine bPickF 6 (fun c => F (c || (decide (p1 > 40)))) (h1 := fun hc => ?_) (h2 := fun hc => ?_)
   ·refine oNot (h := ?_)
    refine oNot (h := ?_)
    refine oNot (h := ?_)
    refine oP (.d (.bool true)) (p_pick (b := true)) ?_
    refine oHead [1, 10] [0] (T' := [(1, .ptr 0 0), (10, .d (.bool true))]) (H' := [.box [.d (.int .i64 p0), .d (.int .i64 p1), .d (.int .i64 p2), .d (.int .i64 p3), .d (.int .i64 p4), .d (.int .i64 p5)]]) (hnd := by decide) (h := ?_)
    exact hj1 true
   ·refine oP (.ptr 0 1) (k_fieldAddr 0 0 (hu := Try.underlying49) (hf := rfl) (hi := ty3)) ?_
    refine oQ (.d (.int .i64 p1)) (k_load 0 1 (hu := Try.underlying3)) ?_
    refine oP (.d (.bool (decide (p1 > 40)))) (p_int (k := .i64) (p := p1) (q := 40)) ?_
    refine oP (.d (.bool (decide (p1 > 40)))) (p_pick (b := false)) ?_
    refine oHead [1, 10] [0] (T' := [(1, .ptr 0 0), (10, .d (.bool (decide (p1 > 40))))]) (H' := [.box [.d (.int .i64 p0), .d (.int .i64 p1), .d (.int .i64 p2), .d (.int .i64 p3), .d (.int .i64 p4), .d (.int .i64 p5)]]) (hnd := by decide) (h := ?_)
    exact hj1 (decide (p1 > 40))

end Go.VM
