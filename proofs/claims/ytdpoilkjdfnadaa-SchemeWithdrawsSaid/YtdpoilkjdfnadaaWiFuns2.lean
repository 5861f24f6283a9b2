/- Plain functions that answer as the program's functions do, and the proof that they do. -/
import Derived.Test.YtdpoilkjdfnadaaProg
import Derived.KernelRfl
import Derived.Test.YtdpoilkjdfnadaaEngDeepCM
import Derived.Test.YtdpoilkjdfnadaaWiFacts
import Derived.Test.YtdpoilkjdfnadaaWiFuns1
namespace Go.VM
open Go.Proofs
set_option linter.unusedVariables false
set_option linter.unusedSimpArgs false
set_option maxRecDepth 100000
/-- slices.IndexFunc[[]int,int] -/
def slices_IndexFunc_int_b1 (k : Nat) (s1 : (List Int)) (again : Int → Option ((Unit) ⊕ (Int))) : Int → Option ((Unit) ⊕ (Int)) := fun x4 => bif (decide (x4 < ((List.length s1) : Int))) then gidx s1 x4 fun e113 => Option.bind (scheme_Valid_1 k e113) (fun r1113 => bif r1113 then some (Sum.inr x4) else again (IntKind.wrap .i64 (x4 + 1))) else some (Sum.inl ())
def slices_IndexFunc_int (k : Nat) (s1 : (List Int)) : Option (Int) := Option.bind (gloop (slices_IndexFunc_int_b1 k s1) k 0 : Option ((Unit) ⊕ (Int))) (Sum.elim (u0 (some (-1))) (fun r => some r))
def slices_IndexFunc_int_E (s1 : (List Int)) : Int → V × List Blk := fun r1 => (.d (.int .i64 r1), [])
theorem slices_IndexFunc_int_goes (k : Nat) (s1 : (List Int)) : RunsO Try.prog 63 [.d (.lit (List.map e_i64 s1)), .fn 53 []] [] (slices_IndexFunc_int_E s1) (slices_IndexFunc_int k s1) := by
  refine RunsO.of_goes (N := 19) (m := 0) (T := [(0, .d (.lit (List.map e_i64 s1))), (1, .fn 53 [])]) Try.func63 rfl rfl (h := ?_)
  unfold slices_IndexFunc_int
  refine bStart ?_
  refine oSR rfl ?_
  refine oP (.d (.int .i64 0)) p_assign ?_
  refine oEnd ?_
  refine oSeq ?_
  refine oSR rfl ?_
  refine oP (.d (.lit (List.map e_i64 s1))) p_move ?_
  refine oP (.d (.int .i64 ((List.length s1) : Int))) (k_lenLit (enc := e_i64) s1 (hu := Try.underlying22)) ?_
  refine oP (.d (.int .i64 0)) p_move ?_
  refine oEnd ?_
  refine bJoin ((u0 ([]))) ((u0 ([]))) Sum.inl (fun s => ?_) (fun hj2 => ?_)
  ·cases s
   refine bInl ?_
   refine bU0 ?_
   refine oView (T' := []) (H' := []) (h := ?_)
   refine oSR rfl ?_
   refine oP (.d (.int .i64 (-1))) p_assign ?_
   refine oEnd ?_
   exact oRet (r0 := (-1)) (rv := .d (.int .i64 (-1))) (B := []) (vs := [.d (.int .i64 (-1))]) (σ := []) (hf := Try.func63) (hrs := rfl) (hres := .cons _ _ _ _ (.tmp 4 _ (by kernel_rfl)) .nil) (hnd := by decide)
  ·refine oBlock ?_
   refine oLoop ?_
   refine oHead [0, 1, 7, 8] [] (T' := [(0, .d (.lit (List.map e_i64 s1))), (1, .fn 53 []), (7, .d (.int .i64 ((List.length s1) : Int))), (8, .d (.int .i64 0))]) (H' := []) (hnd := by decide) (h := ?_)
   refine bLoop (body := slices_IndexFunc_int_b1 k s1) ((fun (x4 : Int) => [(0, .d (.lit (List.map e_i64 s1))), (1, .fn 53 []), (7, .d (.int .i64 ((List.length s1) : Int))), (8, .d (.int .i64 x4))])) ((fun (x4 : Int) => [])) (fun again hag1 x4 => ?_) k 0
   ·unfold slices_IndexFunc_int_b1
    refine oView (T' := [(0, .d (.lit (List.map e_i64 s1))), (1, .fn 53 []), (7, .d (.int .i64 ((List.length s1) : Int))), (8, .d (.int .i64 x4))]) (H' := []) (h := ?_)
    refine oSR rfl ?_
    refine oP (.d (.bool (decide (x4 < ((List.length s1) : Int))))) (p_int (k := .i64) (p := x4) (q := ((List.length s1) : Int))) ?_
    refine oEnd ?_
    refine oSeq ?_
    refine bSplit 9 (h1 := fun hc => ?_) (h2 := fun hc => ?_)
    ·refine oCondT (h := ?_)
     refine oSkip ?_
     refine oSeq ?_
     refine oBlock ?_
     refine oSR rfl ?_
     refine oP (.d (.int .i64 x4)) p_move ?_
     refine oP (.d (.int .i64 x4)) p_assign ?_
     refine oEnd ?_
     refine oSR rfl ?_
     refine oP (.fn 53 []) p_move ?_
     refine oP (.d (.lit (List.map e_i64 s1))) p_move ?_
     refine oP (.d (.int .i64 x4)) p_move ?_
     refine bIdx (fun e113 h126 h127 => ?_)
     refine oP (.lptr (e_i64 e113) 0) (k_idxLit e_i64_len s1 (a := e113) (k := .i64) (i := x4) (hu := Try.underlying22) (hi := ty3) (h0 := h126) (he := h127)) ?_
     refine oQ (.d (.int .i64 e113)) (k_loadL (cells := e_i64 e113) 0 (hu := Try.underlying3)) ?_
     refine bCall (caps := []) (v := (fun (r1113 : Bool) => (.d (.bool r1113) : V))) (H' := (fun (r1113 : Bool) => ([] : List Blk))) [] _ (scheme_Valid_1_goes k e113) (ho := rfl) (hfn := Try.func53) (hb := rfl) (hconv := ConvRs.refl _ _) (hnd := by decide) (hBl := fun _ => (by kernel_rfl)) (hv := fun _ => (by kernel_rfl)) (hH' := fun _ => (by kernel_rfl)) (h := fun r1113 => ?_)
     refine oEnd ?_
     refine bSplit 16 (h1 := fun hc => ?_) (h2 := fun hc => ?_)
     ·refine oCondT (h := ?_)
      refine oSR rfl ?_
      refine oP (.d (.int .i64 x4)) p_move ?_
      refine oP (.d (.int .i64 x4)) p_assign ?_
      refine oEnd ?_
      exact oRet (r0 := x4) (rv := .d (.int .i64 x4)) (B := []) (vs := [.d (.int .i64 x4)]) (σ := []) (hf := Try.func63) (hrs := rfl) (hres := .cons _ _ _ _ (.tmp 4 _ (by kernel_rfl)) .nil) (hnd := by decide)
     ·refine oCondF (h := ?_)
      refine oSkip ?_
      refine oBlk ?_
      refine oRegion rfl ?_
      refine oP (.d (.int .i64 (IntKind.wrap .i64 (x4 + 1)))) (p_int (k := .i64) (p := x4) (q := 1)) ?_
      refine oP (.d (.int .i64 (IntKind.wrap .i64 (x4 + 1)))) p_move ?_
      refine oEnd ?_
      refine oAgain ?_
      refine oHead [0, 1, 7, 8] [] (T' := [(0, .d (.lit (List.map e_i64 s1))), (1, .fn 53 []), (7, .d (.int .i64 ((List.length s1) : Int))), (8, .d (.int .i64 (IntKind.wrap .i64 (x4 + 1))))]) (H' := []) (hnd := by decide) (h := ?_)
      exact hag1 (IntKind.wrap .i64 (x4 + 1))
    ·refine oCondF (h := ?_)
     refine oExit rfl ?_
     refine oHead [] [] (T' := []) (H' := []) (hnd := by decide) (h := ?_)
     exact hj2 ()

/-- slices.ContainsFunc[[]int,int] -/
def slices_ContainsFunc_int (k : Nat) (s1 : (List Int)) : Option (Bool) := Option.bind (slices_IndexFunc_int k s1) (fun r12 => some (decide (r12 ≥ 0)))
def slices_ContainsFunc_int_E (s1 : (List Int)) : Bool → V × List Blk := fun r11 => (.d (.bool r11), [])
theorem slices_ContainsFunc_int_goes (k : Nat) (s1 : (List Int)) : RunsO Try.prog 52 [.d (.lit (List.map e_i64 s1)), .fn 53 []] [] (slices_ContainsFunc_int_E s1) (slices_ContainsFunc_int k s1) := by
  refine RunsO.of_goes (N := 9) (m := 0) (T := [(0, .d (.lit (List.map e_i64 s1))), (1, .fn 53 [])]) Try.func52 rfl rfl (h := ?_)
  unfold slices_ContainsFunc_int
  refine bStart ?_
  refine oSR rfl ?_
  refine oP (.d (.bool false)) p_assign ?_
  refine oEnd ?_
  refine oSR rfl ?_
  refine oP (.d (.lit (List.map e_i64 s1))) p_move ?_
  refine oP (.fn 53 []) p_move ?_
  refine bCall (caps := []) (v := (fun (r12 : Int) => (.d (.int .i64 r12) : V))) (H' := (fun (r12 : Int) => ([] : List Blk))) [] _ (slices_IndexFunc_int_goes k s1) (ho := rfl) (hfn := Try.func63) (hb := rfl) (hconv := ConvRs.refl _ _) (hnd := by decide) (hBl := fun _ => (by kernel_rfl)) (hv := fun _ => (by kernel_rfl)) (hH' := fun _ => (by kernel_rfl)) (h := fun r12 => ?_)
  refine oP (.d (.bool (decide (r12 ≥ 0)))) (p_int (k := .i64) (p := r12) (q := 0)) ?_
  refine oP (.d (.bool (decide (r12 ≥ 0)))) p_assign ?_
  refine oEnd ?_
  exact oRet (r0 := (decide (r12 ≥ 0))) (rv := .d (.bool (decide (r12 ≥ 0)))) (B := []) (vs := [.d (.bool (decide (r12 ≥ 0)))]) (σ := []) (hf := Try.func52) (hrs := rfl) (hres := .cons _ _ _ _ (.tmp 4 _ (by kernel_rfl)) .nil) (hnd := by decide)

/-- awardingbody/scheme.Valid -/
def scheme_Valid_b2 (k : Nat) (s0 : (List (List Int))) (x128 : Int) (e1130 : SPart) (e1131 : (List Int)) (again : Int → Option ((Unit) ⊕ (Bool))) : Int → Option ((Unit) ⊕ (Bool)) := fun x182 => bif (decide (x182 < ((List.length e1131) : Int))) then gidx e1131 x182 fun e1151 => blet ((decide (e1151 < 0)) || (decide (e1151 ≥ e1130.Options))) fun x193 => Option.bind (bif x193 then some true else Option.bind (bif (decide (x182 > 0)) then gidx s0 x128 fun e1156 => gidx e1156 (IntKind.wrap .i64 (x182 - 1)) fun e1157 => some (decide (e1157 ≥ e1151)) else some false : Option (Bool)) (fun x196 => some x196) : Option (Bool)) (fun x195 => bif x195 then some (Sum.inr false) else again (IntKind.wrap .i64 (x182 + 1))) else some (Sum.inl ())
def scheme_Valid_b1 (k : Nat) (p2 : (List SPart)) (s0 : (List (List Int))) (again : Int → Option ((Unit) ⊕ (Bool))) : Int → Option ((Unit) ⊕ (Bool)) := fun x128 => bif (decide (x128 < ((List.length p2) : Int))) then gidx p2 x128 fun e1130 => gidx s0 x128 fun e1131 => Option.bind (gloop (scheme_Valid_b2 k s0 x128 e1130 e1131) k 0 : Option ((Unit) ⊕ (Bool))) (Sum.elim (u0 (again (IntKind.wrap .i64 (x128 + 1)))) (fun r => some (Sum.inr r))) else some (Sum.inl ())
def scheme_Valid (k : Nat) (p0 : Int) (p1 : Int) (p2 : (List SPart)) (s0 : (List (List Int))) (s1 : (List Int)) : Option (Bool) := Option.bind (item_ValidPaper k p0 p1 p2) (fun r151 => blet ((!r151) || (((List.length s0) : Int) != ((List.length p2) : Int))) fun x52 => blet (x52 || (((List.length s1) : Int) != ((List.length p2) : Int))) fun x53 => bif x53 then some false else Option.bind (gloop (scheme_Valid_b1 k p2 s0) k 0 : Option ((Unit) ⊕ (Bool))) (Sum.elim (u0 (Option.bind (slices_ContainsFunc_int k s1) (fun r111 => some (!r111)))) (fun r => some r)))
def scheme_Valid_E (p0 : Int) (p1 : Int) (p2 : (List SPart)) (s0 : (List (List Int))) (s1 : (List Int)) : Bool → V × List Blk := fun r1 => (.d (.bool r1), [])
theorem scheme_Valid_goes (k : Nat) (p0 : Int) (p1 : Int) (p2 : (List SPart)) (s0 : (List (List Int))) (s1 : (List Int)) : RunsO Try.prog 30 [.agg [.d (.int .i64 p0), .d (.int .i64 p1), .d (.lit (List.map e_SPart p2))], .agg [.d (.lit (List.map e_Li64 s0)), .d (.lit (List.map e_i64 s1))]] [] (scheme_Valid_E p0 p1 p2 s0 s1) (scheme_Valid k p0 p1 p2 s0 s1) := by
  refine RunsO.of_goes (N := 80) (m := 0) (T := [(0, .agg [.d (.int .i64 p0), .d (.int .i64 p1), .d (.lit (List.map e_SPart p2))]), (1, .agg [.d (.lit (List.map e_Li64 s0)), .d (.lit (List.map e_i64 s1))])]) Try.func30 rfl rfl (h := ?_)
  unfold scheme_Valid
  refine bStart ?_
  refine oSR rfl ?_
  refine oD (.ptr 0 0) (k_box (H' := [.box [.d (.int .i64 p0), .d (.int .i64 p1), .d (.lit (List.map e_SPart p2))]]) (cells := [.d (.int .i64 p0), .d (.int .i64 p1), .d (.lit (List.map e_SPart p2))])) ?_
  refine oD (.ptr 1 0) (k_box (H' := [.box [.d (.int .i64 p0), .d (.int .i64 p1), .d (.lit (List.map e_SPart p2))], .box [.d (.lit (List.map e_Li64 s0)), .d (.lit (List.map e_i64 s1))]]) (cells := [.d (.lit (List.map e_Li64 s0)), .d (.lit (List.map e_i64 s1))])) ?_
  refine oP (.d (.bool false)) p_assign ?_
  refine oEnd ?_
  refine oSeq ?_
  refine oSR rfl ?_
  refine oQ (.agg [.d (.int .i64 p0), .d (.int .i64 p1), .d (.lit (List.map e_SPart p2))]) (k_loadAgg 0 0 (hu := Try.underlying27) (hi := ty27)) ?_
  refine bCall (caps := []) (v := (fun (r151 : Bool) => (.d (.bool r151) : V))) (H' := (fun (r151 : Bool) => ([.box [.d (.int .i64 p0), .d (.int .i64 p1), .d (.lit (List.map e_SPart p2))], .box [.d (.lit (List.map e_Li64 s0)), .d (.lit (List.map e_i64 s1))]] : List Blk))) [] _ (item_ValidPaper_goes k p0 p1 p2) (ho := rfl) (hfn := Try.func51) (hb := rfl) (hconv := ConvRs.refl _ _) (hnd := by decide) (hBl := fun _ => (by kernel_rfl)) (hv := fun _ => (by kernel_rfl)) (hH' := fun _ => (by kernel_rfl)) (h := fun r151 => ?_)
  refine oP (.d (.bool (!r151))) (p_not (p := r151)) ?_
  refine oP (.d (.bool (!r151))) p_move ?_
  refine bMeetF (H' := [.box [.d (.int .i64 p0), .d (.int .i64 p1), .d (.lit (List.map e_SPart p2))], .box [.d (.lit (List.map e_Li64 s0)), .d (.lit (List.map e_i64 s1))]]) 8 rfl ((fun (x52 : Bool) => [(2, .ptr 0 0), (3, .ptr 1 0), (20, .d (.bool x52))])) (fun x52 => ?_) (fun F hj6 => ?_)
  ·refine oView (T' := [(2, .ptr 0 0), (3, .ptr 1 0), (20, .d (.bool x52))]) (H' := [.box [.d (.int .i64 p0), .d (.int .i64 p1), .d (.lit (List.map e_SPart p2))], .box [.d (.lit (List.map e_Li64 s0)), .d (.lit (List.map e_i64 s1))]]) (h := ?_)
   refine oP (.d (.bool x52)) p_move ?_
   refine bMeetF (H' := [.box [.d (.int .i64 p0), .d (.int .i64 p1), .d (.lit (List.map e_SPart p2))], .box [.d (.lit (List.map e_Li64 s0)), .d (.lit (List.map e_i64 s1))]]) 8 rfl ((fun (x53 : Bool) => [(2, .ptr 0 0), (3, .ptr 1 0), (29, .d (.bool x53))])) (fun x53 => ?_) (fun F hj7 => ?_)
   ·refine oView (T' := [(2, .ptr 0 0), (3, .ptr 1 0), (29, .d (.bool x53))]) (H' := [.box [.d (.int .i64 p0), .d (.int .i64 p1), .d (.lit (List.map e_SPart p2))], .box [.d (.lit (List.map e_Li64 s0)), .d (.lit (List.map e_i64 s1))]]) (h := ?_)
    refine oEnd ?_
    refine bSplit 29 (h1 := fun hc => ?_) (h2 := fun hc => ?_)
    ·refine oCondT (h := ?_)
     refine oSR rfl ?_
     refine oP (.d (.bool false)) p_assign ?_
     refine oEnd ?_
     exact oRet (r0 := false) (rv := .d (.bool false)) (B := []) (vs := [.d (.bool false)]) (σ := []) (hf := Try.func30) (hrs := rfl) (hres := .cons _ _ _ _ (.tmp 4 _ (by kernel_rfl)) .nil) (hnd := by decide)
    ·refine oCondF (h := ?_)
     refine oSkip ?_
     refine oSeq ?_
     refine oSR rfl ?_
     refine oP (.ptr 0 2) (k_fieldAddr 0 0 (hu := Try.underlying27) (hf := rfl) (hi := ty25)) ?_
     refine oQ (.d (.lit (List.map e_SPart p2))) (k_load 0 2 (hu := Try.underlying25)) ?_
     refine oP (.d (.int .i64 ((List.length p2) : Int))) (k_lenLit (enc := e_SPart) p2 (hu := Try.underlying25)) ?_
     refine oP (.d (.int .i64 0)) p_move ?_
     refine oEnd ?_
     refine bJoin ((u0 ([(3, .ptr 0 0)]))) ((u0 ([.box [.d (.lit (List.map e_Li64 s0)), .d (.lit (List.map e_i64 s1))]]))) Sum.inl (fun s => ?_) (fun hj12 => ?_)
     ·cases s
      refine bInl ?_
      refine bU0 ?_
      refine oView (T' := [(3, .ptr 0 0)]) (H' := [.box [.d (.lit (List.map e_Li64 s0)), .d (.lit (List.map e_i64 s1))]]) (h := ?_)
      refine oSR rfl ?_
      refine oP (.ptr 0 1) (k_fieldAddr 0 0 (hu := Try.underlying31) (hf := rfl) (hi := ty22)) ?_
      refine oQ (.d (.lit (List.map e_i64 s1))) (k_load 0 1 (hu := Try.underlying22)) ?_
      refine bCall (caps := []) (v := (fun (r111 : Bool) => (.d (.bool r111) : V))) (H' := (fun (r111 : Bool) => ([.box [.d (.lit (List.map e_Li64 s0)), .d (.lit (List.map e_i64 s1))]] : List Blk))) [] _ (slices_ContainsFunc_int_goes k s1) (ho := rfl) (hfn := Try.func52) (hb := rfl) (hconv := ConvRs.refl _ _) (hnd := by decide) (hBl := fun _ => (by kernel_rfl)) (hv := fun _ => (by kernel_rfl)) (hH' := fun _ => (by kernel_rfl)) (h := fun r111 => ?_)
      refine oP (.d (.bool (!r111))) (p_not (p := r111)) ?_
      refine oP (.d (.bool (!r111))) p_assign ?_
      refine oEnd ?_
      exact oRet (r0 := (!r111)) (rv := .d (.bool (!r111))) (B := []) (vs := [.d (.bool (!r111))]) (σ := []) (hf := Try.func30) (hrs := rfl) (hres := .cons _ _ _ _ (.tmp 4 _ (by kernel_rfl)) .nil) (hnd := by decide)
     ·refine oBlock ?_
      refine oLoop ?_
      refine oHead [3, 31, 32, 33] [1] (T' := [(3, .ptr 0 0), (31, .d (.lit (List.map e_SPart p2))), (32, .d (.int .i64 ((List.length p2) : Int))), (33, .d (.int .i64 0))]) (H' := [.box [.d (.lit (List.map e_Li64 s0)), .d (.lit (List.map e_i64 s1))]]) (hnd := by decide) (h := ?_)
      refine bLoop (body := scheme_Valid_b1 k p2 s0) ((fun (x128 : Int) => [(3, .ptr 0 0), (31, .d (.lit (List.map e_SPart p2))), (32, .d (.int .i64 ((List.length p2) : Int))), (33, .d (.int .i64 x128))])) ((fun (x128 : Int) => [.box [.d (.lit (List.map e_Li64 s0)), .d (.lit (List.map e_i64 s1))]])) (fun again hag1 x128 => ?_) k 0
      ·unfold scheme_Valid_b1
       refine oView (T' := [(3, .ptr 0 0), (31, .d (.lit (List.map e_SPart p2))), (32, .d (.int .i64 ((List.length p2) : Int))), (33, .d (.int .i64 x128))]) (H' := [.box [.d (.lit (List.map e_Li64 s0)), .d (.lit (List.map e_i64 s1))]]) (h := ?_)
       refine oSR rfl ?_
       refine oP (.d (.bool (decide (x128 < ((List.length p2) : Int))))) (p_int (k := .i64) (p := x128) (q := ((List.length p2) : Int))) ?_
       refine oEnd ?_
       refine oSeq ?_
       refine bSplit 34 (h1 := fun hc => ?_) (h2 := fun hc => ?_)
       ·refine oCondT (h := ?_)
        refine oSkip ?_
        refine oSeq ?_
        refine oBlock ?_
        refine oSR rfl ?_
        refine oP (.d (.int .i64 x128)) p_move ?_
        refine bIdx (fun e1130 h1260 h1261 => ?_)
        refine oP (.lptr (e_SPart e1130) 0) (k_idxLit e_SPart_len p2 (a := e1130) (k := .i64) (i := x128) (hu := Try.underlying25) (hi := ty49) (h0 := h1260) (he := h1261)) ?_
        refine oQ (.agg [.d (.int .i64 e1130.Kind), .d (.int .i64 e1130.Max), .d (.int .i64 e1130.Topic), .d (.int .i64 e1130.Objective), .d (.int .i64 e1130.Options), .d (.int .i64 e1130.Key)]) (k_loadLAgg (cells := e_SPart e1130) 0 [(.int .i64 e1130.Kind), (.int .i64 e1130.Max), (.int .i64 e1130.Topic), (.int .i64 e1130.Objective), (.int .i64 e1130.Options), (.int .i64 e1130.Key)] (hu := Try.underlying49) (hi := ty49)) ?_
        refine oD (.ptr 1 0) (k_alloc (H' := [.box [.d (.lit (List.map e_Li64 s0)), .d (.lit (List.map e_i64 s1))], .box [.d (.int .i64 0), .d (.int .i64 0), .d (.int .i64 0), .d (.int .i64 0), .d (.int .i64 0), .d (.int .i64 0)]]) ty49) ?_
        refine oP (.d (.int .i64 x128)) p_assign ?_
        refine oD (.undef) (k_store (vs := [.d (.int .i64 e1130.Kind), .d (.int .i64 e1130.Max), .d (.int .i64 e1130.Topic), .d (.int .i64 e1130.Objective), .d (.int .i64 e1130.Options), .d (.int .i64 e1130.Key)]) (H' := [.box [.d (.lit (List.map e_Li64 s0)), .d (.lit (List.map e_i64 s1))], .box [.d (.int .i64 e1130.Kind), .d (.int .i64 e1130.Max), .d (.int .i64 e1130.Topic), .d (.int .i64 e1130.Objective), .d (.int .i64 e1130.Options), .d (.int .i64 e1130.Key)]]) 1 0 (hi := ty49)) ?_
        refine oEnd ?_
        refine oSR rfl ?_
        refine oP (.ptr 0 0) (k_fieldAddr 0 0 (hu := Try.underlying31) (hf := rfl) (hi := ty29)) ?_
        refine oQ (.d (.lit (List.map e_Li64 s0))) (k_load 0 0 (hu := Try.underlying29)) ?_
        refine oP (.d (.int .i64 x128)) p_move ?_
        refine bIdx (fun e1131 h1262 h1263 => ?_)
        refine oP (.lptr (e_Li64 e1131) 0) (k_idxLit e_Li64_len s0 (a := e1131) (k := .i64) (i := x128) (hu := Try.underlying29) (hi := ty22) (h0 := h1262) (he := h1263)) ?_
        refine oQ (.d (.lit (List.map e_i64 e1131))) (k_loadL (cells := e_Li64 e1131) 0 (hu := Try.underlying22)) ?_
        refine oP (.d (.int .i64 ((List.length e1131) : Int))) (k_lenLit (enc := e_i64) e1131 (hu := Try.underlying22)) ?_
        refine oP (.d (.int .i64 0)) p_move ?_
        refine oEnd ?_
        refine bJoin ((u0 ([(3, .ptr 0 0), (31, .d (.lit (List.map e_SPart p2))), (32, .d (.int .i64 ((List.length p2) : Int))), (33, .d (.int .i64 x128))]))) ((u0 ([.box [.d (.lit (List.map e_Li64 s0)), .d (.lit (List.map e_i64 s1))]]))) Sum.inl (fun s => ?_) (fun hj18 => ?_)
        ·cases s
         refine bInl ?_
         refine bU0 ?_
         refine oView (T' := [(3, .ptr 0 0), (31, .d (.lit (List.map e_SPart p2))), (32, .d (.int .i64 ((List.length p2) : Int))), (33, .d (.int .i64 x128))]) (H' := [.box [.d (.lit (List.map e_Li64 s0)), .d (.lit (List.map e_i64 s1))]]) (h := ?_)
         refine oBlk ?_
         refine oRegion rfl ?_
         refine oP (.d (.int .i64 (IntKind.wrap .i64 (x128 + 1)))) (p_int (k := .i64) (p := x128) (q := 1)) ?_
         refine oP (.d (.int .i64 (IntKind.wrap .i64 (x128 + 1)))) p_move ?_
         refine oEnd ?_
         refine oAgain ?_
         refine oHead [3, 31, 32, 33] [0] (T' := [(3, .ptr 0 0), (31, .d (.lit (List.map e_SPart p2))), (32, .d (.int .i64 ((List.length p2) : Int))), (33, .d (.int .i64 (IntKind.wrap .i64 (x128 + 1))))]) (H' := [.box [.d (.lit (List.map e_Li64 s0)), .d (.lit (List.map e_i64 s1))]]) (hnd := by decide) (h := ?_)
         exact hag1 (IntKind.wrap .i64 (x128 + 1))
        ·refine oBlock ?_
         refine oLoop ?_
         refine oHead [3, 5, 6, 31, 32, 33, 42, 43, 44] [0, 1] (T' := [(3, .ptr 0 0), (5, .d (.int .i64 x128)), (6, .ptr 1 0), (31, .d (.lit (List.map e_SPart p2))), (32, .d (.int .i64 ((List.length p2) : Int))), (33, .d (.int .i64 x128)), (42, .d (.lit (List.map e_i64 e1131))), (43, .d (.int .i64 ((List.length e1131) : Int))), (44, .d (.int .i64 0))]) (H' := [.box [.d (.lit (List.map e_Li64 s0)), .d (.lit (List.map e_i64 s1))], .box [.d (.int .i64 e1130.Kind), .d (.int .i64 e1130.Max), .d (.int .i64 e1130.Topic), .d (.int .i64 e1130.Objective), .d (.int .i64 e1130.Options), .d (.int .i64 e1130.Key)]]) (hnd := by decide) (h := ?_)
         refine bLoop (body := scheme_Valid_b2 k s0 x128 e1130 e1131) ((fun (x182 : Int) => [(3, .ptr 0 0), (5, .d (.int .i64 x128)), (6, .ptr 1 0), (31, .d (.lit (List.map e_SPart p2))), (32, .d (.int .i64 ((List.length p2) : Int))), (33, .d (.int .i64 x128)), (42, .d (.lit (List.map e_i64 e1131))), (43, .d (.int .i64 ((List.length e1131) : Int))), (44, .d (.int .i64 x182))])) ((fun (x182 : Int) => [.box [.d (.lit (List.map e_Li64 s0)), .d (.lit (List.map e_i64 s1))], .box [.d (.int .i64 e1130.Kind), .d (.int .i64 e1130.Max), .d (.int .i64 e1130.Topic), .d (.int .i64 e1130.Objective), .d (.int .i64 e1130.Options), .d (.int .i64 e1130.Key)]])) (fun again hag2 x182 => ?_) k 0
         ·unfold scheme_Valid_b2
          refine oView (T' := [(3, .ptr 0 0), (5, .d (.int .i64 x128)), (6, .ptr 1 0), (31, .d (.lit (List.map e_SPart p2))), (32, .d (.int .i64 ((List.length p2) : Int))), (33, .d (.int .i64 x128)), (42, .d (.lit (List.map e_i64 e1131))), (43, .d (.int .i64 ((List.length e1131) : Int))), (44, .d (.int .i64 x182))]) (H' := [.box [.d (.lit (List.map e_Li64 s0)), .d (.lit (List.map e_i64 s1))], .box [.d (.int .i64 e1130.Kind), .d (.int .i64 e1130.Max), .d (.int .i64 e1130.Topic), .d (.int .i64 e1130.Objective), .d (.int .i64 e1130.Options), .d (.int .i64 e1130.Key)]]) (h := ?_)
          refine oSR rfl ?_
          refine oP (.d (.bool (decide (x182 < ((List.length e1131) : Int))))) (p_int (k := .i64) (p := x182) (q := ((List.length e1131) : Int))) ?_
          refine oEnd ?_
          refine oSeq ?_
          refine bSplit 45 (h1 := fun hc => ?_) (h2 := fun hc => ?_)
          ·refine oCondT (h := ?_)
           refine oSkip ?_
           refine oSeq ?_
           refine oBlock ?_
           refine oSR rfl ?_
           refine oP (.d (.int .i64 x182)) p_move ?_
           refine bIdx (fun e1151 h1302 h1303 => ?_)
           refine oP (.lptr (e_i64 e1151) 0) (k_idxLit e_i64_len e1131 (a := e1151) (k := .i64) (i := x182) (hu := Try.underlying22) (hi := ty3) (h0 := h1302) (he := h1303)) ?_
           refine oQ (.d (.int .i64 e1151)) (k_loadL (cells := e_i64 e1151) 0 (hu := Try.underlying3)) ?_
           refine oP (.d (.int .i64 x182)) p_assign ?_
           refine oP (.d (.int .i64 e1151)) p_assign ?_
           refine oEnd ?_
           refine oSR rfl ?_
           refine oP (.d (.int .i64 e1151)) p_move ?_
           refine oP (.d (.bool (decide (e1151 < 0)))) (p_int (k := .i64) (p := e1151) (q := 0)) ?_
           refine oP (.d (.bool (decide (e1151 < 0)))) p_move ?_
           refine bMeetF (H' := [.box [.d (.lit (List.map e_Li64 s0)), .d (.lit (List.map e_i64 s1))], .box [.d (.int .i64 e1130.Kind), .d (.int .i64 e1130.Max), .d (.int .i64 e1130.Topic), .d (.int .i64 e1130.Objective), .d (.int .i64 e1130.Options), .d (.int .i64 e1130.Key)]]) 5 rfl ((fun (x193 : Bool) => [(3, .ptr 0 0), (5, .d (.int .i64 x128)), (6, .ptr 1 0), (7, .d (.int .i64 x182)), (8, .d (.int .i64 e1151)), (31, .d (.lit (List.map e_SPart p2))), (32, .d (.int .i64 ((List.length p2) : Int))), (33, .d (.int .i64 x128)), (42, .d (.lit (List.map e_i64 e1131))), (43, .d (.int .i64 ((List.length e1131) : Int))), (44, .d (.int .i64 x182)), (56, .d (.bool x193))])) (fun x193 => ?_) (fun F hj19 => ?_)
           ·refine oView (T' := [(3, .ptr 0 0), (5, .d (.int .i64 x128)), (6, .ptr 1 0), (7, .d (.int .i64 x182)), (8, .d (.int .i64 e1151)), (31, .d (.lit (List.map e_SPart p2))), (32, .d (.int .i64 ((List.length p2) : Int))), (33, .d (.int .i64 x128)), (42, .d (.lit (List.map e_i64 e1131))), (43, .d (.int .i64 ((List.length e1131) : Int))), (44, .d (.int .i64 x182)), (56, .d (.bool x193))]) (H' := [.box [.d (.lit (List.map e_Li64 s0)), .d (.lit (List.map e_i64 s1))], .box [.d (.int .i64 e1130.Kind), .d (.int .i64 e1130.Max), .d (.int .i64 e1130.Topic), .d (.int .i64 e1130.Objective), .d (.int .i64 e1130.Options), .d (.int .i64 e1130.Key)]]) (h := ?_)
            refine oP (.d (.bool x193)) p_move ?_
            refine bMeet 16 rfl ((fun (x195 : Bool) => [(3, .ptr 0 0), (5, .d (.int .i64 x128)), (6, .ptr 1 0), (31, .d (.lit (List.map e_SPart p2))), (32, .d (.int .i64 ((List.length p2) : Int))), (33, .d (.int .i64 x128)), (42, .d (.lit (List.map e_i64 e1131))), (43, .d (.int .i64 ((List.length e1131) : Int))), (44, .d (.int .i64 x182)), (73, .d (.bool x195))])) ((fun (x195 : Bool) => [.box [.d (.lit (List.map e_Li64 s0)), .d (.lit (List.map e_i64 s1))], .box [.d (.int .i64 e1130.Kind), .d (.int .i64 e1130.Max), .d (.int .i64 e1130.Topic), .d (.int .i64 e1130.Objective), .d (.int .i64 e1130.Options), .d (.int .i64 e1130.Key)]])) (fun s => s) (fun x195 => ?_) (fun hj20 => ?_)
            ·refine oView (T' := [(3, .ptr 0 0), (5, .d (.int .i64 x128)), (6, .ptr 1 0), (31, .d (.lit (List.map e_SPart p2))), (32, .d (.int .i64 ((List.length p2) : Int))), (33, .d (.int .i64 x128)), (42, .d (.lit (List.map e_i64 e1131))), (43, .d (.int .i64 ((List.length e1131) : Int))), (44, .d (.int .i64 x182)), (73, .d (.bool x195))]) (H' := [.box [.d (.lit (List.map e_Li64 s0)), .d (.lit (List.map e_i64 s1))], .box [.d (.int .i64 e1130.Kind), .d (.int .i64 e1130.Max), .d (.int .i64 e1130.Topic), .d (.int .i64 e1130.Objective), .d (.int .i64 e1130.Options), .d (.int .i64 e1130.Key)]]) (h := ?_)
             refine oEnd ?_
             refine bSplit 73 (h1 := fun hc => ?_) (h2 := fun hc => ?_)
             ·refine oCondT (h := ?_)
              refine oSR rfl ?_
              refine oP (.d (.bool false)) p_assign ?_
              refine oEnd ?_
              exact oRet (r0 := false) (rv := .d (.bool false)) (B := []) (vs := [.d (.bool false)]) (σ := []) (hf := Try.func30) (hrs := rfl) (hres := .cons _ _ _ _ (.tmp 4 _ (by kernel_rfl)) .nil) (hnd := by decide)
             ·refine oCondF (h := ?_)
              refine oSkip ?_
              refine oBlk ?_
              refine oRegion rfl ?_
              refine oP (.d (.int .i64 (IntKind.wrap .i64 (x182 + 1)))) (p_int (k := .i64) (p := x182) (q := 1)) ?_
              refine oP (.d (.int .i64 (IntKind.wrap .i64 (x182 + 1)))) p_move ?_
              refine oEnd ?_
              refine oAgain ?_
              refine oHead [3, 5, 6, 31, 32, 33, 42, 43, 44] [0, 1] (T' := [(3, .ptr 0 0), (5, .d (.int .i64 x128)), (6, .ptr 1 0), (31, .d (.lit (List.map e_SPart p2))), (32, .d (.int .i64 ((List.length p2) : Int))), (33, .d (.int .i64 x128)), (42, .d (.lit (List.map e_i64 e1131))), (43, .d (.int .i64 ((List.length e1131) : Int))), (44, .d (.int .i64 (IntKind.wrap .i64 (x182 + 1))))]) (H' := [.box [.d (.lit (List.map e_Li64 s0)), .d (.lit (List.map e_i64 s1))], .box [.d (.int .i64 e1130.Kind), .d (.int .i64 e1130.Max), .d (.int .i64 e1130.Topic), .d (.int .i64 e1130.Objective), .d (.int .i64 e1130.Options), .d (.int .i64 e1130.Key)]]) (hnd := by decide) (h := ?_)
              exact hag2 (IntKind.wrap .i64 (x182 + 1))
            ·refine bSplit 57 (h1 := fun hc => ?_) (h2 := fun hc => ?_)
             ·refine oNot (h := ?_)
              refine oNot (h := ?_)
              refine oNot (h := ?_)
              refine oNot (h := ?_)
              refine oNot (h := ?_)
              refine oNot (h := ?_)
              refine oNot (h := ?_)
              refine oNot (h := ?_)
              refine oNot (h := ?_)
              refine oNot (h := ?_)
              refine oNot (h := ?_)
              refine oNot (h := ?_)
              refine oNot (h := ?_)
              refine oNot (h := ?_)
              refine oNot (h := ?_)
              refine oP (.d (.bool true)) (p_pick (b := true)) ?_
              refine oHead [3, 5, 6, 31, 32, 33, 42, 43, 44, 73] [0, 1] (T' := [(3, .ptr 0 0), (5, .d (.int .i64 x128)), (6, .ptr 1 0), (31, .d (.lit (List.map e_SPart p2))), (32, .d (.int .i64 ((List.length p2) : Int))), (33, .d (.int .i64 x128)), (42, .d (.lit (List.map e_i64 e1131))), (43, .d (.int .i64 ((List.length e1131) : Int))), (44, .d (.int .i64 x182)), (73, .d (.bool true))]) (H' := [.box [.d (.lit (List.map e_Li64 s0)), .d (.lit (List.map e_i64 s1))], .box [.d (.int .i64 e1130.Kind), .d (.int .i64 e1130.Max), .d (.int .i64 e1130.Topic), .d (.int .i64 e1130.Objective), .d (.int .i64 e1130.Options), .d (.int .i64 e1130.Key)]]) (hnd := by decide) (h := ?_)
              exact hj20 true
             ·refine oP (.d (.int .i64 x182)) p_move ?_
              refine oP (.d (.bool (decide (x182 > 0)))) (p_int (k := .i64) (p := x182) (q := 0)) ?_
              refine oP (.d (.bool (decide (x182 > 0)))) p_move ?_
              refine bMeet 12 rfl ((fun (x196 : Bool) => [(3, .ptr 0 0), (5, .d (.int .i64 x128)), (6, .ptr 1 0), (31, .d (.lit (List.map e_SPart p2))), (32, .d (.int .i64 ((List.length p2) : Int))), (33, .d (.int .i64 x128)), (42, .d (.lit (List.map e_i64 e1131))), (43, .d (.int .i64 ((List.length e1131) : Int))), (44, .d (.int .i64 x182)), (57, .d (.bool false)), (72, .d (.bool x196))])) ((fun (x196 : Bool) => [.box [.d (.lit (List.map e_Li64 s0)), .d (.lit (List.map e_i64 s1))], .box [.d (.int .i64 e1130.Kind), .d (.int .i64 e1130.Max), .d (.int .i64 e1130.Topic), .d (.int .i64 e1130.Objective), .d (.int .i64 e1130.Options), .d (.int .i64 e1130.Key)]])) (fun s => s) (fun x196 => ?_) (fun hj21 => ?_)
              ·refine oView (T' := [(3, .ptr 0 0), (5, .d (.int .i64 x128)), (6, .ptr 1 0), (31, .d (.lit (List.map e_SPart p2))), (32, .d (.int .i64 ((List.length p2) : Int))), (33, .d (.int .i64 x128)), (42, .d (.lit (List.map e_i64 e1131))), (43, .d (.int .i64 ((List.length e1131) : Int))), (44, .d (.int .i64 x182)), (57, .d (.bool false)), (72, .d (.bool x196))]) (H' := [.box [.d (.lit (List.map e_Li64 s0)), .d (.lit (List.map e_i64 s1))], .box [.d (.int .i64 e1130.Kind), .d (.int .i64 e1130.Max), .d (.int .i64 e1130.Topic), .d (.int .i64 e1130.Objective), .d (.int .i64 e1130.Options), .d (.int .i64 e1130.Key)]]) (h := ?_)
               refine oP (.d (.bool x196)) (p_pick (b := false)) ?_
               refine oHead [3, 5, 6, 31, 32, 33, 42, 43, 44, 73] [0, 1] (T' := [(3, .ptr 0 0), (5, .d (.int .i64 x128)), (6, .ptr 1 0), (31, .d (.lit (List.map e_SPart p2))), (32, .d (.int .i64 ((List.length p2) : Int))), (33, .d (.int .i64 x128)), (42, .d (.lit (List.map e_i64 e1131))), (43, .d (.int .i64 ((List.length e1131) : Int))), (44, .d (.int .i64 x182)), (73, .d (.bool x196))]) (H' := [.box [.d (.lit (List.map e_Li64 s0)), .d (.lit (List.map e_i64 s1))], .box [.d (.int .i64 e1130.Kind), .d (.int .i64 e1130.Max), .d (.int .i64 e1130.Topic), .d (.int .i64 e1130.Objective), .d (.int .i64 e1130.Options), .d (.int .i64 e1130.Key)]]) (hnd := by decide) (h := ?_)
               exact hj20 x196
              ·refine bSplit 60 (h1 := fun hc => ?_) (h2 := fun hc => ?_)
               ·refine oP (.ptr 0 0) (k_fieldAddr 0 0 (hu := Try.underlying31) (hf := rfl) (hi := ty29)) ?_
                refine oQ (.d (.lit (List.map e_Li64 s0))) (k_load 0 0 (hu := Try.underlying29)) ?_
                refine oP (.d (.int .i64 x128)) p_move ?_
                refine bIdx (fun e1156 h1312 h1313 => ?_)
                refine oP (.lptr (e_Li64 e1156) 0) (k_idxLit e_Li64_len s0 (a := e1156) (k := .i64) (i := x128) (hu := Try.underlying29) (hi := ty22) (h0 := h1312) (he := h1313)) ?_
                refine oQ (.d (.lit (List.map e_i64 e1156))) (k_loadL (cells := e_Li64 e1156) 0 (hu := Try.underlying22)) ?_
                refine oP (.d (.int .i64 x182)) p_move ?_
                refine oP (.d (.int .i64 (IntKind.wrap .i64 (x182 - 1)))) (p_int (k := .i64) (p := x182) (q := 1)) ?_
                refine bIdx (fun e1157 h1314 h1315 => ?_)
                refine oP (.lptr (e_i64 e1157) 0) (k_idxLit e_i64_len e1156 (a := e1157) (k := .i64) (i := (IntKind.wrap .i64 (x182 - 1))) (hu := Try.underlying22) (hi := ty3) (h0 := h1314) (he := h1315)) ?_
                refine oQ (.d (.int .i64 e1157)) (k_loadL (cells := e_i64 e1157) 0 (hu := Try.underlying3)) ?_
                refine oP (.d (.int .i64 e1151)) p_move ?_
                refine oP (.d (.bool (decide (e1157 ≥ e1151)))) (p_int (k := .i64) (p := e1157) (q := e1151)) ?_
                refine oP (.d (.bool (decide (e1157 ≥ e1151)))) (p_pick (b := true)) ?_
                refine oHead [3, 5, 6, 31, 32, 33, 42, 43, 44, 57, 72] [0, 1] (T' := [(3, .ptr 0 0), (5, .d (.int .i64 x128)), (6, .ptr 1 0), (31, .d (.lit (List.map e_SPart p2))), (32, .d (.int .i64 ((List.length p2) : Int))), (33, .d (.int .i64 x128)), (42, .d (.lit (List.map e_i64 e1131))), (43, .d (.int .i64 ((List.length e1131) : Int))), (44, .d (.int .i64 x182)), (57, .d (.bool false)), (72, .d (.bool (decide (e1157 ≥ e1151))))]) (H' := [.box [.d (.lit (List.map e_Li64 s0)), .d (.lit (List.map e_i64 s1))], .box [.d (.int .i64 e1130.Kind), .d (.int .i64 e1130.Max), .d (.int .i64 e1130.Topic), .d (.int .i64 e1130.Objective), .d (.int .i64 e1130.Options), .d (.int .i64 e1130.Key)]]) (hnd := by decide) (h := ?_)
                exact hj21 (decide (e1157 ≥ e1151))
               ·refine oNot (h := ?_)
                refine oNot (h := ?_)
                refine oNot (h := ?_)
                refine oNot (h := ?_)
                refine oNot (h := ?_)
                refine oNot (h := ?_)
                refine oNot (h := ?_)
                refine oNot (h := ?_)
                refine oNot (h := ?_)
                refine oNot (h := ?_)
                refine oNot (h := ?_)
                refine oP (.d (.bool false)) (p_pick (b := false)) ?_
                refine oHead [3, 5, 6, 31, 32, 33, 42, 43, 44, 57, 72] [0, 1] (T' := [(3, .ptr 0 0), (5, .d (.int .i64 x128)), (6, .ptr 1 0), (31, .d (.lit (List.map e_SPart p2))), (32, .d (.int .i64 ((List.length p2) : Int))), (33, .d (.int .i64 x128)), (42, .d (.lit (List.map e_i64 e1131))), (43, .d (.int .i64 ((List.length e1131) : Int))), (44, .d (.int .i64 x182)), (57, .d (.bool false)), (72, .d (.bool false))]) (H' := [.box [.d (.lit (List.map e_Li64 s0)), .d (.lit (List.map e_i64 s1))], .box [.d (.int .i64 e1130.Kind), .d (.int .i64 e1130.Max), .d (.int .i64 e1130.Topic), .d (.int .i64 e1130.Objective), .d (.int .i64 e1130.Options), .d (.int .i64 e1130.Key)]]) (hnd := by decide) (h := ?_)
                exact hj21 false
           ·refine bPickF 51 (fun c => F (c || (decide (e1151 ≥ e1130.Options)))) (h1 := fun hc => ?_) (h2 := fun hc => ?_)
            ·refine oNot (h := ?_)
             refine oNot (h := ?_)
             refine oNot (h := ?_)
             refine oNot (h := ?_)
             refine oP (.d (.bool true)) (p_pick (b := true)) ?_
             refine oHead [3, 5, 6, 7, 8, 31, 32, 33, 42, 43, 44, 56] [0, 1] (T' := [(3, .ptr 0 0), (5, .d (.int .i64 x128)), (6, .ptr 1 0), (7, .d (.int .i64 x182)), (8, .d (.int .i64 e1151)), (31, .d (.lit (List.map e_SPart p2))), (32, .d (.int .i64 ((List.length p2) : Int))), (33, .d (.int .i64 x128)), (42, .d (.lit (List.map e_i64 e1131))), (43, .d (.int .i64 ((List.length e1131) : Int))), (44, .d (.int .i64 x182)), (56, .d (.bool true))]) (H' := [.box [.d (.lit (List.map e_Li64 s0)), .d (.lit (List.map e_i64 s1))], .box [.d (.int .i64 e1130.Kind), .d (.int .i64 e1130.Max), .d (.int .i64 e1130.Topic), .d (.int .i64 e1130.Objective), .d (.int .i64 e1130.Options), .d (.int .i64 e1130.Key)]]) (hnd := by decide) (h := ?_)
             exact hj19 true
            ·refine oP (.d (.int .i64 e1151)) p_move ?_
             refine oP (.ptr 1 4) (k_fieldAddr 1 0 (hu := Try.underlying49) (hf := rfl) (hi := ty3)) ?_
             refine oQ (.d (.int .i64 e1130.Options)) (k_load 1 4 (hu := Try.underlying3)) ?_
             refine oP (.d (.bool (decide (e1151 ≥ e1130.Options)))) (p_int (k := .i64) (p := e1151) (q := e1130.Options)) ?_
             refine oP (.d (.bool (decide (e1151 ≥ e1130.Options)))) (p_pick (b := false)) ?_
             refine oHead [3, 5, 6, 7, 8, 31, 32, 33, 42, 43, 44, 56] [0, 1] (T' := [(3, .ptr 0 0), (5, .d (.int .i64 x128)), (6, .ptr 1 0), (7, .d (.int .i64 x182)), (8, .d (.int .i64 e1151)), (31, .d (.lit (List.map e_SPart p2))), (32, .d (.int .i64 ((List.length p2) : Int))), (33, .d (.int .i64 x128)), (42, .d (.lit (List.map e_i64 e1131))), (43, .d (.int .i64 ((List.length e1131) : Int))), (44, .d (.int .i64 x182)), (56, .d (.bool (decide (e1151 ≥ e1130.Options))))]) (H' := [.box [.d (.lit (List.map e_Li64 s0)), .d (.lit (List.map e_i64 s1))], .box [.d (.int .i64 e1130.Kind), .d (.int .i64 e1130.Max), .d (.int .i64 e1130.Topic), .d (.int .i64 e1130.Objective), .d (.int .i64 e1130.Options), .d (.int .i64 e1130.Key)]]) (hnd := by decide) (h := ?_)
             exact hj19 (decide (e1151 ≥ e1130.Options))
          ·refine oCondF (h := ?_)
           refine oExit rfl ?_
           refine oHead [3, 31, 32, 33] [0] (T' := [(3, .ptr 0 0), (31, .d (.lit (List.map e_SPart p2))), (32, .d (.int .i64 ((List.length p2) : Int))), (33, .d (.int .i64 x128))]) (H' := [.box [.d (.lit (List.map e_Li64 s0)), .d (.lit (List.map e_i64 s1))]]) (hnd := by decide) (h := ?_)
           exact hj18 ()
       ·refine oCondF (h := ?_)
        refine oExit rfl ?_
        refine oHead [3] [0] (T' := [(3, .ptr 0 0)]) (H' := [.box [.d (.lit (List.map e_Li64 s0)), .d (.lit (List.map e_i64 s1))]]) (hnd := by decide) (h := ?_)
        exact hj12 ()
   ·refine bPickF 21 (fun c => F (c || (((List.length s1) : Int) != ((List.length p2) : Int)))) (h1 := fun hc => ?_) (h2 := fun hc => ?_)
    ·refine oNot (h := ?_)
     refine oNot (h := ?_)
     refine oNot (h := ?_)
     refine oNot (h := ?_)
     refine oNot (h := ?_)
     refine oNot (h := ?_)
     refine oNot (h := ?_)
     refine oP (.d (.bool true)) (p_pick (b := true)) ?_
     refine oHead [2, 3, 29] [0, 1] (T' := [(2, .ptr 0 0), (3, .ptr 1 0), (29, .d (.bool true))]) (H' := [.box [.d (.int .i64 p0), .d (.int .i64 p1), .d (.lit (List.map e_SPart p2))], .box [.d (.lit (List.map e_Li64 s0)), .d (.lit (List.map e_i64 s1))]]) (hnd := by decide) (h := ?_)
     exact hj7 true
    ·refine oP (.ptr 1 1) (k_fieldAddr 1 0 (hu := Try.underlying31) (hf := rfl) (hi := ty22)) ?_
     refine oQ (.d (.lit (List.map e_i64 s1))) (k_load 1 1 (hu := Try.underlying22)) ?_
     refine oP (.d (.int .i64 ((List.length s1) : Int))) (k_lenLit (enc := e_i64) s1 (hu := Try.underlying22)) ?_
     refine oP (.ptr 0 2) (k_fieldAddr 0 0 (hu := Try.underlying27) (hf := rfl) (hi := ty25)) ?_
     refine oQ (.d (.lit (List.map e_SPart p2))) (k_load 0 2 (hu := Try.underlying25)) ?_
     refine oP (.d (.int .i64 ((List.length p2) : Int))) (k_lenLit (enc := e_SPart) p2 (hu := Try.underlying25)) ?_
     refine oP (.d (.bool (((List.length s1) : Int) != ((List.length p2) : Int)))) (p_int (k := .i64) (p := ((List.length s1) : Int)) (q := ((List.length p2) : Int))) ?_
     refine oP (.d (.bool (((List.length s1) : Int) != ((List.length p2) : Int)))) (p_pick (b := false)) ?_
     refine oHead [2, 3, 29] [0, 1] (T' := [(2, .ptr 0 0), (3, .ptr 1 0), (29, .d (.bool (((List.length s1) : Int) != ((List.length p2) : Int))))]) (H' := [.box [.d (.int .i64 p0), .d (.int .i64 p1), .d (.lit (List.map e_SPart p2))], .box [.d (.lit (List.map e_Li64 s0)), .d (.lit (List.map e_i64 s1))]]) (hnd := by decide) (h := ?_)
     exact hj7 (((List.length s1) : Int) != ((List.length p2) : Int))
  ·refine bPickF 12 (fun c => F (c || (((List.length s0) : Int) != ((List.length p2) : Int)))) (h1 := fun hc => ?_) (h2 := fun hc => ?_)
   ·refine oNot (h := ?_)
    refine oNot (h := ?_)
    refine oNot (h := ?_)
    refine oNot (h := ?_)
    refine oNot (h := ?_)
    refine oNot (h := ?_)
    refine oNot (h := ?_)
    refine oP (.d (.bool true)) (p_pick (b := true)) ?_
    refine oHead [2, 3, 20] [0, 1] (T' := [(2, .ptr 0 0), (3, .ptr 1 0), (20, .d (.bool true))]) (H' := [.box [.d (.int .i64 p0), .d (.int .i64 p1), .d (.lit (List.map e_SPart p2))], .box [.d (.lit (List.map e_Li64 s0)), .d (.lit (List.map e_i64 s1))]]) (hnd := by decide) (h := ?_)
    exact hj6 true
   ·refine oP (.ptr 1 0) (k_fieldAddr 1 0 (hu := Try.underlying31) (hf := rfl) (hi := ty29)) ?_
    refine oQ (.d (.lit (List.map e_Li64 s0))) (k_load 1 0 (hu := Try.underlying29)) ?_
    refine oP (.d (.int .i64 ((List.length s0) : Int))) (k_lenLit (enc := e_Li64) s0 (hu := Try.underlying29)) ?_
    refine oP (.ptr 0 2) (k_fieldAddr 0 0 (hu := Try.underlying27) (hf := rfl) (hi := ty25)) ?_
    refine oQ (.d (.lit (List.map e_SPart p2))) (k_load 0 2 (hu := Try.underlying25)) ?_
    refine oP (.d (.int .i64 ((List.length p2) : Int))) (k_lenLit (enc := e_SPart) p2 (hu := Try.underlying25)) ?_
    refine oP (.d (.bool (((List.length s0) : Int) != ((List.length p2) : Int)))) (p_int (k := .i64) (p := ((List.length s0) : Int)) (q := ((List.length p2) : Int))) ?_
    refine oP (.d (.bool (((List.length s0) : Int) != ((List.length p2) : Int)))) (p_pick (b := false)) ?_
    refine oHead [2, 3, 20] [0, 1] (T' := [(2, .ptr 0 0), (3, .ptr 1 0), (20, .d (.bool (((List.length s0) : Int) != ((List.length p2) : Int))))]) (H' := [.box [.d (.int .i64 p0), .d (.int .i64 p1), .d (.lit (List.map e_SPart p2))], .box [.d (.lit (List.map e_Li64 s0)), .d (.lit (List.map e_i64 s1))]]) (hnd := by decide) (h := ?_)
    exact hj6 (((List.length s0) : Int) != ((List.length p2) : Int))

/-- awardingbody/scheme.there -/
def scheme_there (k : Nat) (p0 : Int) (p1 : Int) (p2 : (List SPart)) (part : Int) : Option (Bool) := blet ((decide (part ≥ 0)) && (decide (part < ((List.length p2) : Int)))) fun x1 => some x1
def scheme_there_E (p0 : Int) (p1 : Int) (p2 : (List SPart)) (part : Int) : Bool → V × List Blk := fun r1 => (.d (.bool r1), [])
theorem scheme_there_goes (k : Nat) (p0 : Int) (p1 : Int) (p2 : (List SPart)) (part : Int) : RunsO Try.prog 48 [.agg [.d (.int .i64 p0), .d (.int .i64 p1), .d (.lit (List.map e_SPart p2))], .d (.int .i64 part)] [] (scheme_there_E p0 p1 p2 part) (scheme_there k p0 p1 p2 part) := by
  refine RunsO.of_goes (N := 14) (m := 0) (T := [(0, .agg [.d (.int .i64 p0), .d (.int .i64 p1), .d (.lit (List.map e_SPart p2))]), (1, .d (.int .i64 part))]) Try.func48 rfl rfl (h := ?_)
  unfold scheme_there
  refine bStart ?_
  refine oSR rfl ?_
  refine oD (.ptr 0 0) (k_box (H' := [.box [.d (.int .i64 p0), .d (.int .i64 p1), .d (.lit (List.map e_SPart p2))]]) (cells := [.d (.int .i64 p0), .d (.int .i64 p1), .d (.lit (List.map e_SPart p2))])) ?_
  refine oP (.d (.bool false)) p_assign ?_
  refine oEnd ?_
  refine oSR rfl ?_
  refine oP (.d (.int .i64 part)) p_move ?_
  refine oP (.d (.bool (decide (part ≥ 0)))) (p_int (k := .i64) (p := part) (q := 0)) ?_
  refine oP (.d (.bool (decide (part ≥ 0)))) p_move ?_
  refine bMeetF (H' := []) 6 rfl ((fun (x1 : Bool) => [(13, .d (.bool x1))])) (fun x1 => ?_) (fun F hj1 => ?_)
  ·refine oView (T' := [(13, .d (.bool x1))]) (H' := []) (h := ?_)
   refine oP (.d (.bool x1)) p_assign ?_
   refine oEnd ?_
   exact oRet (r0 := x1) (rv := .d (.bool x1)) (B := []) (vs := [.d (.bool x1)]) (σ := []) (hf := Try.func48) (hrs := rfl) (hres := .cons _ _ _ _ (.tmp 4 _ (by kernel_rfl)) .nil) (hnd := by decide)
  ·refine bPickF 7 (fun c => F (c && (decide (part < ((List.length p2) : Int))))) (h1 := fun hc => ?_) (h2 := fun hc => ?_)
   ·refine oP (.d (.int .i64 part)) p_move ?_
    refine oP (.ptr 0 2) (k_fieldAddr 0 0 (hu := Try.underlying27) (hf := rfl) (hi := ty25)) ?_
    refine oQ (.d (.lit (List.map e_SPart p2))) (k_load 0 2 (hu := Try.underlying25)) ?_
    refine oP (.d (.int .i64 ((List.length p2) : Int))) (k_lenLit (enc := e_SPart) p2 (hu := Try.underlying25)) ?_
    refine oP (.d (.bool (decide (part < ((List.length p2) : Int))))) (p_int (k := .i64) (p := part) (q := ((List.length p2) : Int))) ?_
    refine oP (.d (.bool (decide (part < ((List.length p2) : Int))))) (p_pick (b := true)) ?_
    refine oHead [13] [] (T' := [(13, .d (.bool (decide (part < ((List.length p2) : Int)))))]) (H' := []) (hnd := by decide) (h := ?_)
    exact hj1 (decide (part < ((List.length p2) : Int)))
   ·refine oNot (h := ?_)
    refine oNot (h := ?_)
    refine oNot (h := ?_)
    refine oNot (h := ?_)
    refine oNot (h := ?_)
    refine oP (.d (.bool false)) (p_pick (b := false)) ?_
    refine oHead [13] [] (T' := [(13, .d (.bool false))]) (H' := []) (hnd := by decide) (h := ?_)
    exact hj1 false

/-- slices.Clone[[]int,int] -/
def slices_Clone_int (k : Nat) (s1 : (List Int)) : Option ((List Int)) := gcap (List.length s1) 8 (some s1)
def slices_Clone_int_E (s1 : (List Int)) : (List Int) → V × List Blk := fun r1 => (.d (.lit (List.map e_i64 r1)), [])
theorem slices_Clone_int_goes (k : Nat) (s1 : (List Int)) : RunsO Try.prog 50 [.d (.lit (List.map e_i64 s1))] [] (slices_Clone_int_E s1) (slices_Clone_int k s1) := by
  refine RunsO.of_goes (N := 8) (m := 0) (T := [(0, .d (.lit (List.map e_i64 s1)))]) Try.func50 rfl rfl (h := ?_)
  unfold slices_Clone_int
  refine bStart ?_
  refine oSR rfl ?_
  refine oP (.nilc) p_assign ?_
  refine oEnd ?_
  refine oSeq ?_
  refine oSR rfl ?_
  refine oP (.d (.lit (List.map e_i64 s1))) p_move ?_
  refine oNil (xs := List.map e_i64 s1) Try.underlying22 (h := fun β hβ => ?_)
  cases β
  ·refine oEnd ?_
   refine oCondF (h := ?_)
   refine oSkip ?_
   refine oSR rfl ?_
   refine oD (.ref 0 (List.length ([] : List Int)) 0 (List.length ([] : List Int))) (k_buildSlice (H' := [.sl 1 (List.map e_i64 ([] : List Int)) false]) (List.map e_i64 ([] : List Int)) Try.underlying22 ty3) ?_
   refine oP (.d (.lit (List.map e_i64 s1))) p_move ?_
   refine bCap (fun h11 => ?_)
   refine oD (.ref 0 (List.length s1) 0 (List.length s1)) (k_append (H' := [.sl 1 (List.map e_i64 s1) false]) (enc := e_i64) 0 ([] : List Int) s1 Try.underlying22 Try.underlying22 ty3 (hy := holdsLit e_i64_len s1) (hfit := h11)) ?_
   refine oP (.ref 0 (List.length s1) 0 (List.length s1)) p_assign ?_
   refine oEnd ?_
   refine oFreeze 0 (esz := 1) (xs := List.map e_i64 s1) (h := ?_)
   refine oView (H' := [.sl 1 (List.map e_i64 s1) true]) rfl (h := ?_)
   refine oConv 2 (v := .ref 0 (List.length s1) 0 (List.length s1)) (v' := .d (.lit (List.map e_i64 s1))) (hc := k_lit (enc := e_i64) (sz := 1) 0 s1) (h := ?_)
   exact oRet (r0 := s1) (rv := .d (.lit (List.map e_i64 s1))) (B := []) (vs := [.d (.lit (List.map e_i64 s1))]) (σ := []) (hf := Try.func50) (hrs := rfl) (hres := .cons _ _ _ _ (.tmp 2 _ (by kernel_rfl)) .nil) (hnd := by decide)
  ·have hs0 : s1 = [] := by cases s1 with | nil => rfl | cons a0 l0 => exact absurd (hβ (by simp)) (by simp)
   subst hs0
   refine bCap (fun _ => ?_)
   refine oEnd ?_
   refine oCondT (h := ?_)
   refine oSR rfl ?_
   refine oP (.nilc) p_assign ?_
   refine oEnd ?_
   refine oConv 2 (v := .nilc) (v' := .d (.lit (List.map e_i64 []))) (hc := .nil) (h := ?_)
   exact oRet (r0 := []) (rv := .d (.lit (List.map e_i64 []))) (B := []) (vs := [.d (.lit (List.map e_i64 []))]) (σ := []) (hf := Try.func50) (hrs := rfl) (hres := .cons _ _ _ _ (.tmp 2 _ (by kernel_rfl)) .nil) (hnd := by decide)

/-- slices.Clone[[]int,int] -/
def slices_Clone_int_2 (k : Nat) (s1 : (List Int)) : Option ((List Int)) := gcap (List.length s1) 8 (some s1)
theorem slices_Clone_int_2_eq : slices_Clone_int_2 = slices_Clone_int := rfl
def slices_Clone_int_2_E (s1 : (List Int)) : (List Int) → V × List Blk := fun xs => (.ref 0 (List.length xs) 0 (List.length xs), [.sl 1 (List.map e_i64 xs) false])
theorem slices_Clone_int_2_goes (k : Nat) (s1 : (List Int)) : RunsO Try.prog 50 [.d (.lit (List.map e_i64 s1))] [] (slices_Clone_int_2_E s1) (slices_Clone_int_2 k s1) := by
  refine RunsO.of_goes (N := 8) (m := 0) (T := [(0, .d (.lit (List.map e_i64 s1)))]) Try.func50 rfl rfl (h := ?_)
  unfold slices_Clone_int_2
  refine bStart ?_
  refine oSR rfl ?_
  refine oP (.nilc) p_assign ?_
  refine oEnd ?_
  refine oSeq ?_
  refine oSR rfl ?_
  refine oP (.d (.lit (List.map e_i64 s1))) p_move ?_
  refine oNil (xs := List.map e_i64 s1) Try.underlying22 (h := fun β hβ => ?_)
  cases β
  ·refine oEnd ?_
   refine oCondF (h := ?_)
   refine oSkip ?_
   refine oSR rfl ?_
   refine oD (.ref 0 (List.length ([] : List Int)) 0 (List.length ([] : List Int))) (k_buildSlice (H' := [.sl 1 (List.map e_i64 ([] : List Int)) false]) (List.map e_i64 ([] : List Int)) Try.underlying22 ty3) ?_
   refine oP (.d (.lit (List.map e_i64 s1))) p_move ?_
   refine bCap (fun h11 => ?_)
   refine oD (.ref 0 (List.length s1) 0 (List.length s1)) (k_append (H' := [.sl 1 (List.map e_i64 s1) false]) (enc := e_i64) 0 ([] : List Int) s1 Try.underlying22 Try.underlying22 ty3 (hy := holdsLit e_i64_len s1) (hfit := h11)) ?_
   refine oP (.ref 0 (List.length s1) 0 (List.length s1)) p_assign ?_
   refine oEnd ?_
   exact oRet (r0 := s1) (rv := .ref 0 (List.length s1) 0 (List.length s1)) (B := [.sl 1 (List.map e_i64 s1) false]) (vs := [.ref 0 (List.length s1) 0 (List.length s1)]) (σ := [0]) (hf := Try.func50) (hrs := rfl) (hres := .cons _ _ _ _ (.tmp 2 _ (by kernel_rfl)) .nil) (hnd := by decide)
  ·have hs0 : s1 = [] := by cases s1 with | nil => rfl | cons a0 l0 => exact absurd (hβ (by simp)) (by simp)
   subst hs0
   refine bCap (fun _ => ?_)
   refine oEnd ?_
   refine oCondT (h := ?_)
   refine oSR rfl ?_
   refine oP (.nilc) p_assign ?_
   refine oEnd ?_
   refine oVirt (esz := 1) 2 (h := ?_)
   refine oView (H' := [.sl 1 (List.map e_i64 ([] : List Int)) false]) rfl (h := ?_)
   exact oRet (r0 := ([] : List Int)) (rv := .ref 0 (List.length ([] : List Int)) 0 (List.length ([] : List Int))) (B := [.sl 1 (List.map e_i64 ([] : List Int)) false]) (vs := [.ref 0 (List.length ([] : List Int)) 0 (List.length ([] : List Int))]) (σ := [0]) (hf := Try.func50) (hrs := rfl) (hres := .cons _ _ _ _ (.tmp 2 _ (by kernel_rfl)) .nil) (hnd := by decide)

/-- awardingbody/scheme.Withdraw -/
def scheme_Withdraw_b1 (k : Nat) (s0 : (List (List Int))) (again : Int × (List (List Int)) → Option ((List (List Int)))) : Int × (List (List Int)) → Option ((List (List Int))) := uc fun x4 => fun xs10 => bif (decide (x4 < ((List.length s0) : Int))) then gidx s0 x4 fun e115 => Option.bind (slices_Clone_int k e115) (fun r19 => gcap (List.length (xs10 ++ ([r19] : List (List Int)))) 24 (again ((IntKind.wrap .i64 (x4 + 1)), (xs10 ++ ([r19] : List (List Int)))))) else some xs10
def scheme_Withdraw (k : Nat) (p0 : Int) (p1 : Int) (p2 : (List SPart)) (s0 : (List (List Int))) (s1 : (List Int)) (part : Int) (kind : Int) : Option ((List (List Int)) × (List Int) × Int) := Option.bind (scheme_Valid k p0 p1 p2 s0 s1) (fun r116 => bif (!r116) then some ([], [], 1) else Option.bind (scheme_there k p0 p1 p2 part) (fun r119 => bif (!r119) then some ([], [], 4) else Option.bind (scheme_known k kind) (fun r121 => bif (!r121) then some ([], [], 2) else Option.bind (slices_Clone_int_2 k s1) (fun xs5 => Option.bind (gloop (scheme_Withdraw_b1 k s0) k (0, ([] : List (List Int))) : Option ((List (List Int)))) (fun xs8 => gidx xs5 part fun e19 => blet (List.set xs5 (Int.toNat part) kind) fun xs9 => some (xs8, xs9, 0))))))
def scheme_Withdraw_E (p0 : Int) (p1 : Int) (p2 : (List SPart)) (s0 : (List (List Int))) (s1 : (List Int)) (part : Int) (kind : Int) : (List (List Int)) × (List Int) × Int → V × List Blk := uc fun r110 => uc fun r111 => fun r112 => (.tuple [.agg [.d (.lit (List.map e_Li64 r110)), .d (.lit (List.map e_i64 r111))], .d (.int .i64 r112)], [])
theorem scheme_Withdraw_goes (k : Nat) (p0 : Int) (p1 : Int) (p2 : (List SPart)) (s0 : (List (List Int))) (s1 : (List Int)) (part : Int) (kind : Int) : RunsO Try.prog 26 [.agg [.d (.int .i64 p0), .d (.int .i64 p1), .d (.lit (List.map e_SPart p2))], .agg [.d (.lit (List.map e_Li64 s0)), .d (.lit (List.map e_i64 s1))], .d (.int .i64 part), .d (.int .i64 kind)] [] (scheme_Withdraw_E p0 p1 p2 s0 s1 part kind) (scheme_Withdraw k p0 p1 p2 s0 s1 part kind) := by
  refine RunsO.of_goes (N := 55) (m := 0) (T := [(0, .agg [.d (.int .i64 p0), .d (.int .i64 p1), .d (.lit (List.map e_SPart p2))]), (1, .agg [.d (.lit (List.map e_Li64 s0)), .d (.lit (List.map e_i64 s1))]), (2, .d (.int .i64 part)), (3, .d (.int .i64 kind))]) Try.func26 rfl rfl (h := ?_)
  unfold scheme_Withdraw
  refine bStart ?_
  refine oSR rfl ?_
  refine oD (.ptr 0 0) (k_box (H' := [.box [.d (.int .i64 p0), .d (.int .i64 p1), .d (.lit (List.map e_SPart p2))]]) (cells := [.d (.int .i64 p0), .d (.int .i64 p1), .d (.lit (List.map e_SPart p2))])) ?_
  refine oD (.ptr 1 0) (k_box (H' := [.box [.d (.int .i64 p0), .d (.int .i64 p1), .d (.lit (List.map e_SPart p2))], .box [.d (.lit (List.map e_Li64 s0)), .d (.lit (List.map e_i64 s1))]]) (cells := [.d (.lit (List.map e_Li64 s0)), .d (.lit (List.map e_i64 s1))])) ?_
  refine oD (.ptr 2 0) (k_alloc (H' := [.box [.d (.int .i64 p0), .d (.int .i64 p1), .d (.lit (List.map e_SPart p2))], .box [.d (.lit (List.map e_Li64 s0)), .d (.lit (List.map e_i64 s1))], .box [.nilc, .nilc]]) ty31) ?_
  refine oP (.d (.int .i64 0)) p_assign ?_
  refine oEnd ?_
  refine oSeq ?_
  refine oBlock ?_
  refine oSR rfl ?_
  refine oQ (.agg [.d (.int .i64 p0), .d (.int .i64 p1), .d (.lit (List.map e_SPart p2))]) (k_loadAgg 0 0 (hu := Try.underlying27) (hi := ty27)) ?_
  refine oQ (.agg [.d (.lit (List.map e_Li64 s0)), .d (.lit (List.map e_i64 s1))]) (k_loadAgg 1 0 (hu := Try.underlying31) (hi := ty31)) ?_
  refine bCall (caps := []) (v := (fun (r116 : Bool) => (.d (.bool r116) : V))) (H' := (fun (r116 : Bool) => ([.box [.d (.int .i64 p0), .d (.int .i64 p1), .d (.lit (List.map e_SPart p2))], .box [.d (.lit (List.map e_Li64 s0)), .d (.lit (List.map e_i64 s1))], .box [.nilc, .nilc]] : List Blk))) [] _ (scheme_Valid_goes k p0 p1 p2 s0 s1) (ho := rfl) (hfn := Try.func30) (hb := rfl) (hconv := ConvRs.refl _ _) (hnd := by decide) (hBl := fun _ => (by kernel_rfl)) (hv := fun _ => (by kernel_rfl)) (hH' := fun _ => (by kernel_rfl)) (h := fun r116 => ?_)
  refine oP (.d (.bool (!r116))) (p_not (p := r116)) ?_
  refine oP (.d (.bool (!r116))) p_assign ?_
  refine oEnd ?_
  refine bSplit 13 (h1 := fun hc => ?_) (h2 := fun hc => ?_)
  ·refine oCondT (h := ?_)
   refine oSR rfl ?_
   refine oP (.agg [.nilc, .nilc]) (p_build bld31) ?_
   refine oD (.undef) (k_store (vs := [.nilc, .nilc]) (H' := [.box [.d (.int .i64 p0), .d (.int .i64 p1), .d (.lit (List.map e_SPart p2))], .box [.d (.lit (List.map e_Li64 s0)), .d (.lit (List.map e_i64 s1))], .box [.nilc, .nilc]]) 2 0 (hi := ty31)) ?_
   refine oP (.d (.int .i64 1)) p_assign ?_
   refine oEnd ?_
   refine oConvB 2 (cells := [.nilc, .nilc]) (cells' := [.d (.lit (List.map e_Li64 [])), .d (.lit (List.map e_i64 []))]) (hc := .cons _ _ _ _ .nil (.cons _ _ _ _ .nil .nil)) (h := ?_)
   refine oView (H' := [.box [.d (.int .i64 p0), .d (.int .i64 p1), .d (.lit (List.map e_SPart p2))], .box [.d (.lit (List.map e_Li64 s0)), .d (.lit (List.map e_i64 s1))], .box [.d (.lit (List.map e_Li64 [])), .d (.lit (List.map e_i64 []))]]) rfl (h := ?_)
   exact oRet (r0 := ([], [], 1)) (rv := .tuple [.agg [.d (.lit (List.map e_Li64 [])), .d (.lit (List.map e_i64 []))], .d (.int .i64 1)]) (B := []) (vs := [.agg [.d (.lit (List.map e_Li64 [])), .d (.lit (List.map e_i64 []))], .d (.int .i64 1)]) (σ := []) (hf := Try.func26) (hrs := rfl) (hres := .cons _ _ _ _ (.agg 8 31 2 0 [.d (.lit (List.map e_Li64 [])), .d (.lit (List.map e_i64 []))] [.d (.lit (List.map e_Li64 [])), .d (.lit (List.map e_i64 []))] _ _ _ _ (by kernel_rfl) (by kernel_rfl) Try.underlying31 (by kernel_rfl) ty31 (by kernel_rfl) (by kernel_rfl)) (.cons _ _ _ _ (.tmp 9 _ (by kernel_rfl)) .nil)) (hnd := by decide)
  ·refine oCondF (h := ?_)
   refine oSR rfl ?_
   refine oQ (.agg [.d (.int .i64 p0), .d (.int .i64 p1), .d (.lit (List.map e_SPart p2))]) (k_loadAgg 0 0 (hu := Try.underlying27) (hi := ty27)) ?_
   refine oP (.d (.int .i64 part)) p_move ?_
   refine bCall (caps := []) (v := (fun (r119 : Bool) => (.d (.bool r119) : V))) (H' := (fun (r119 : Bool) => ([.box [.d (.int .i64 p0), .d (.int .i64 p1), .d (.lit (List.map e_SPart p2))], .box [.d (.lit (List.map e_Li64 s0)), .d (.lit (List.map e_i64 s1))], .box [.nilc, .nilc]] : List Blk))) [] _ (scheme_there_goes k p0 p1 p2 part) (ho := rfl) (hfn := Try.func48) (hb := rfl) (hconv := ConvRs.refl _ _) (hnd := by decide) (hBl := fun _ => (by kernel_rfl)) (hv := fun _ => (by kernel_rfl)) (hH' := fun _ => (by kernel_rfl)) (h := fun r119 => ?_)
   refine oP (.d (.bool (!r119))) (p_not (p := r119)) ?_
   refine oP (.d (.bool (!r119))) p_assign ?_
   refine oEnd ?_
   refine bSplit 19 (h1 := fun hc => ?_) (h2 := fun hc => ?_)
   ·refine oCondT (h := ?_)
    refine oSR rfl ?_
    refine oP (.agg [.nilc, .nilc]) (p_build bld31) ?_
    refine oD (.undef) (k_store (vs := [.nilc, .nilc]) (H' := [.box [.d (.int .i64 p0), .d (.int .i64 p1), .d (.lit (List.map e_SPart p2))], .box [.d (.lit (List.map e_Li64 s0)), .d (.lit (List.map e_i64 s1))], .box [.nilc, .nilc]]) 2 0 (hi := ty31)) ?_
    refine oP (.d (.int .i64 4)) p_assign ?_
    refine oEnd ?_
    refine oConvB 2 (cells := [.nilc, .nilc]) (cells' := [.d (.lit (List.map e_Li64 [])), .d (.lit (List.map e_i64 []))]) (hc := .cons _ _ _ _ .nil (.cons _ _ _ _ .nil .nil)) (h := ?_)
    refine oView (H' := [.box [.d (.int .i64 p0), .d (.int .i64 p1), .d (.lit (List.map e_SPart p2))], .box [.d (.lit (List.map e_Li64 s0)), .d (.lit (List.map e_i64 s1))], .box [.d (.lit (List.map e_Li64 [])), .d (.lit (List.map e_i64 []))]]) rfl (h := ?_)
    exact oRet (r0 := ([], [], 4)) (rv := .tuple [.agg [.d (.lit (List.map e_Li64 [])), .d (.lit (List.map e_i64 []))], .d (.int .i64 4)]) (B := []) (vs := [.agg [.d (.lit (List.map e_Li64 [])), .d (.lit (List.map e_i64 []))], .d (.int .i64 4)]) (σ := []) (hf := Try.func26) (hrs := rfl) (hres := .cons _ _ _ _ (.agg 8 31 2 0 [.d (.lit (List.map e_Li64 [])), .d (.lit (List.map e_i64 []))] [.d (.lit (List.map e_Li64 [])), .d (.lit (List.map e_i64 []))] _ _ _ _ (by kernel_rfl) (by kernel_rfl) Try.underlying31 (by kernel_rfl) ty31 (by kernel_rfl) (by kernel_rfl)) (.cons _ _ _ _ (.tmp 9 _ (by kernel_rfl)) .nil)) (hnd := by decide)
   ·refine oCondF (h := ?_)
    refine oSR rfl ?_
    refine oP (.d (.int .i64 kind)) p_move ?_
    refine bCall (caps := []) (v := (fun (r121 : Bool) => (.d (.bool r121) : V))) (H' := (fun (r121 : Bool) => ([.box [.d (.int .i64 p0), .d (.int .i64 p1), .d (.lit (List.map e_SPart p2))], .box [.d (.lit (List.map e_Li64 s0)), .d (.lit (List.map e_i64 s1))], .box [.nilc, .nilc]] : List Blk))) [] _ (scheme_known_goes k kind) (ho := rfl) (hfn := Try.func49) (hb := rfl) (hconv := ConvRs.refl _ _) (hnd := by decide) (hBl := fun _ => (by kernel_rfl)) (hv := fun _ => (by kernel_rfl)) (hH' := fun _ => (by kernel_rfl)) (h := fun r121 => ?_)
    refine oP (.d (.bool (!r121))) (p_not (p := r121)) ?_
    refine oP (.d (.bool (!r121))) p_assign ?_
    refine oEnd ?_
    refine bSplit 25 (h1 := fun hc => ?_) (h2 := fun hc => ?_)
    ·refine oCondT (h := ?_)
     refine oSR rfl ?_
     refine oP (.agg [.nilc, .nilc]) (p_build bld31) ?_
     refine oD (.undef) (k_store (vs := [.nilc, .nilc]) (H' := [.box [.d (.int .i64 p0), .d (.int .i64 p1), .d (.lit (List.map e_SPart p2))], .box [.d (.lit (List.map e_Li64 s0)), .d (.lit (List.map e_i64 s1))], .box [.nilc, .nilc]]) 2 0 (hi := ty31)) ?_
     refine oP (.d (.int .i64 2)) p_assign ?_
     refine oEnd ?_
     refine oConvB 2 (cells := [.nilc, .nilc]) (cells' := [.d (.lit (List.map e_Li64 [])), .d (.lit (List.map e_i64 []))]) (hc := .cons _ _ _ _ .nil (.cons _ _ _ _ .nil .nil)) (h := ?_)
     refine oView (H' := [.box [.d (.int .i64 p0), .d (.int .i64 p1), .d (.lit (List.map e_SPart p2))], .box [.d (.lit (List.map e_Li64 s0)), .d (.lit (List.map e_i64 s1))], .box [.d (.lit (List.map e_Li64 [])), .d (.lit (List.map e_i64 []))]]) rfl (h := ?_)
     exact oRet (r0 := ([], [], 2)) (rv := .tuple [.agg [.d (.lit (List.map e_Li64 [])), .d (.lit (List.map e_i64 []))], .d (.int .i64 2)]) (B := []) (vs := [.agg [.d (.lit (List.map e_Li64 [])), .d (.lit (List.map e_i64 []))], .d (.int .i64 2)]) (σ := []) (hf := Try.func26) (hrs := rfl) (hres := .cons _ _ _ _ (.agg 8 31 2 0 [.d (.lit (List.map e_Li64 [])), .d (.lit (List.map e_i64 []))] [.d (.lit (List.map e_Li64 [])), .d (.lit (List.map e_i64 []))] _ _ _ _ (by kernel_rfl) (by kernel_rfl) Try.underlying31 (by kernel_rfl) ty31 (by kernel_rfl) (by kernel_rfl)) (.cons _ _ _ _ (.tmp 9 _ (by kernel_rfl)) .nil)) (hnd := by decide)
    ·refine oCondF (h := ?_)
     refine oSkip ?_
     refine oBlk ?_
     refine oSR rfl ?_
     refine oP (.ptr 1 1) (k_fieldAddr 1 0 (hu := Try.underlying31) (hf := rfl) (hi := ty22)) ?_
     refine oQ (.d (.lit (List.map e_i64 s1))) (k_load 1 1 (hu := Try.underlying22)) ?_
     refine bCall (caps := []) (v := (fun (xs5 : (List Int)) => (.ref 3 (List.length xs5) 0 (List.length xs5) : V))) (H' := (fun (xs5 : (List Int)) => ([.box [.d (.int .i64 p0), .d (.int .i64 p1), .d (.lit (List.map e_SPart p2))], .box [.d (.lit (List.map e_Li64 s0)), .d (.lit (List.map e_i64 s1))], .box [.nilc, .nilc], .sl 1 (List.map e_i64 xs5) false] : List Blk))) [] _ (slices_Clone_int_2_goes k s1) (ho := rfl) (hfn := Try.func50) (hb := rfl) (hconv := ConvRs.refl _ _) (hnd := by decide) (hBl := fun _ => (by kernel_rfl)) (hv := fun _ => (by kernel_rfl)) (hH' := fun _ => (by kernel_rfl)) (h := fun xs5 => ?_)
     refine oP (.agg [.nilc, .ref 3 (List.length xs5) 0 (List.length xs5)]) (p_build bld31) ?_
     refine oD (.ptr 4 0) (k_alloc (H' := [.box [.d (.int .i64 p0), .d (.int .i64 p1), .d (.lit (List.map e_SPart p2))], .box [.d (.lit (List.map e_Li64 s0)), .d (.lit (List.map e_i64 s1))], .box [.nilc, .nilc], .sl 1 (List.map e_i64 xs5) false, .box [.nilc, .nilc]]) ty31) ?_
     refine oD (.undef) (k_store (vs := [.nilc, .ref 3 (List.length xs5) 0 (List.length xs5)]) (H' := [.box [.d (.int .i64 p0), .d (.int .i64 p1), .d (.lit (List.map e_SPart p2))], .box [.d (.lit (List.map e_Li64 s0)), .d (.lit (List.map e_i64 s1))], .box [.nilc, .nilc], .sl 1 (List.map e_i64 xs5) false, .box [.nilc, .ref 3 (List.length xs5) 0 (List.length xs5)]]) 4 0 (hi := ty31)) ?_
     refine oEnd ?_
     refine oSeq ?_
     refine oSR rfl ?_
     refine oP (.ptr 1 0) (k_fieldAddr 1 0 (hu := Try.underlying31) (hf := rfl) (hi := ty29)) ?_
     refine oQ (.d (.lit (List.map e_Li64 s0))) (k_load 1 0 (hu := Try.underlying29)) ?_
     refine oP (.d (.int .i64 ((List.length s0) : Int))) (k_lenLit (enc := e_Li64) s0 (hu := Try.underlying29)) ?_
     refine oP (.d (.int .i64 0)) p_move ?_
     refine oEnd ?_
     refine bJoin ((fun (xs8 : (List (List Int))) => [(2, .d (.int .i64 part)), (3, .d (.int .i64 kind)), (8, .ptr 0 0), (10, .ptr 1 0)])) ((fun (xs8 : (List (List Int))) => [.box [.nilc, .nilc], .box [.ref 2 (List.length xs8) 0 (List.length xs8), .ref 3 (List.length xs5) 0 (List.length xs5)], .sl 1 (List.map e_Li64 xs8) false, .sl 1 (List.map e_i64 xs5) false])) (fun s => s) (fun xs8 => ?_) (fun hj2 => ?_)
     ·refine oView (T' := [(2, .d (.int .i64 part)), (3, .d (.int .i64 kind)), (8, .ptr 0 0), (10, .ptr 1 0)]) (H' := [.box [.nilc, .nilc], .box [.ref 2 (List.length xs8) 0 (List.length xs8), .ref 3 (List.length xs5) 0 (List.length xs5)], .sl 1 (List.map e_Li64 xs8) false, .sl 1 (List.map e_i64 xs5) false]) (h := ?_)
      refine oSR rfl ?_
      refine oP (.ptr 1 1) (k_fieldAddr 1 0 (hu := Try.underlying31) (hf := rfl) (hi := ty22)) ?_
      refine oQ (.ref 3 (List.length xs5) 0 (List.length xs5)) (k_load 1 1 (hu := Try.underlying22)) ?_
      refine oP (.d (.int .i64 part)) p_move ?_
      refine oP (.d (.int .i64 kind)) p_move ?_
      refine bIdx (fun e19 h119 h120 => ?_)
      refine oP (.eptr 3 (List.length xs5) (Int.toNat part) 0) (k_idxRef (enc := e_i64) (fro := false) xs5 (a := e19) (k := .i64) (i := part) (hu := Try.underlying22) (hi := ty3) (h0 := h119) (he := h120)) ?_
      refine bSet _ (fun xs9 hs1 => ?_)
      refine oD (.undef) (k_storeE (H' := [.box [.nilc, .nilc], .box [.ref 2 (List.length xs8) 0 (List.length xs8), .ref 3 (List.length xs5) 0 (List.length xs5)], .sl 1 (List.map e_Li64 xs8) false, .sl 1 (List.map e_i64 xs9) false]) 3 0 xs5 kind [(.int .i64 kind)] e_i64_len (he := h120) (hi := ty3) (hxs := hs1)) ?_
      refine oHead [8, 10] [0, 1, 2, 3] (T' := [(8, .ptr 0 0), (10, .ptr 1 0)]) (H' := [.box [.nilc, .nilc], .box [.ref 2 (List.length xs8) 0 (List.length xs8), .ref 3 (List.length xs5) 0 (List.length xs5)], .sl 1 (List.map e_Li64 xs8) false, .sl 1 (List.map e_i64 xs9) false]) (hnd := by decide) (h := ?_)
      refine oView (T' := [(8, .ptr 0 0), (10, .ptr 1 0)]) (H' := [.box [.nilc, .nilc], .box [.ref 2 (List.length xs8) 0 (List.length xs8), .ref 3 (List.length xs9) 0 (List.length xs9)], .sl 1 (List.map e_Li64 xs8) false, .sl 1 (List.map e_i64 xs9) false]) (by first | rw [(set_len hs1)] | rfl) (by first | rw [(set_len hs1)] | rfl) ?_
      refine oEnd ?_
      refine oSR rfl ?_
      refine oQ (.agg [.ref 2 (List.length xs8) 0 (List.length xs8), .ref 3 (List.length xs9) 0 (List.length xs9)]) (k_loadAgg 1 0 (hu := Try.underlying31) (hi := ty31)) ?_
      refine oD (.undef) (k_store (vs := [.ref 2 (List.length xs8) 0 (List.length xs8), .ref 3 (List.length xs9) 0 (List.length xs9)]) (H' := [.box [.ref 2 (List.length xs8) 0 (List.length xs8), .ref 3 (List.length xs9) 0 (List.length xs9)], .box [.ref 2 (List.length xs8) 0 (List.length xs8), .ref 3 (List.length xs9) 0 (List.length xs9)], .sl 1 (List.map e_Li64 xs8) false, .sl 1 (List.map e_i64 xs9) false]) 0 0 (hi := ty31)) ?_
      refine oP (.d (.int .i64 0)) p_assign ?_
      refine oEnd ?_
      refine oFreeze 2 (esz := 1) (xs := List.map e_Li64 xs8) (h := ?_)
      refine oView (H' := [.box [.ref 2 (List.length xs8) 0 (List.length xs8), .ref 3 (List.length xs9) 0 (List.length xs9)], .box [.ref 2 (List.length xs8) 0 (List.length xs8), .ref 3 (List.length xs9) 0 (List.length xs9)], .sl 1 (List.map e_Li64 xs8) true, .sl 1 (List.map e_i64 xs9) false]) rfl (h := ?_)
      refine oFreeze 3 (esz := 1) (xs := List.map e_i64 xs9) (h := ?_)
      refine oView (H' := [.box [.ref 2 (List.length xs8) 0 (List.length xs8), .ref 3 (List.length xs9) 0 (List.length xs9)], .box [.ref 2 (List.length xs8) 0 (List.length xs8), .ref 3 (List.length xs9) 0 (List.length xs9)], .sl 1 (List.map e_Li64 xs8) true, .sl 1 (List.map e_i64 xs9) true]) rfl (h := ?_)
      refine oConvB 0 (cells := [.ref 2 (List.length xs8) 0 (List.length xs8), .ref 3 (List.length xs9) 0 (List.length xs9)]) (cells' := [.d (.lit (List.map e_Li64 xs8)), .d (.lit (List.map e_i64 xs9))]) (hc := .cons _ _ _ _ (k_lit (enc := e_Li64) (sz := 1) 2 xs8) (.cons _ _ _ _ (k_lit (enc := e_i64) (sz := 1) 3 xs9) .nil)) (h := ?_)
      refine oView (H' := [.box [.d (.lit (List.map e_Li64 xs8)), .d (.lit (List.map e_i64 xs9))], .box [.ref 2 (List.length xs8) 0 (List.length xs8), .ref 3 (List.length xs9) 0 (List.length xs9)], .sl 1 (List.map e_Li64 xs8) true, .sl 1 (List.map e_i64 xs9) true]) rfl (h := ?_)
      exact oRet (r0 := (xs8, xs9, 0)) (rv := .tuple [.agg [.d (.lit (List.map e_Li64 xs8)), .d (.lit (List.map e_i64 xs9))], .d (.int .i64 0)]) (B := []) (vs := [.agg [.d (.lit (List.map e_Li64 xs8)), .d (.lit (List.map e_i64 xs9))], .d (.int .i64 0)]) (σ := []) (hf := Try.func26) (hrs := rfl) (hres := .cons _ _ _ _ (.agg 8 31 0 0 [.d (.lit (List.map e_Li64 xs8)), .d (.lit (List.map e_i64 xs9))] [.d (.lit (List.map e_Li64 xs8)), .d (.lit (List.map e_i64 xs9))] _ _ _ _ (by kernel_rfl) (by kernel_rfl) Try.underlying31 (by kernel_rfl) ty31 (by kernel_rfl) (by kernel_rfl)) (.cons _ _ _ _ (.tmp 9 _ (by kernel_rfl)) .nil)) (hnd := by decide)
     ·refine oBlock ?_
      refine oLoop ?_
      refine oVirtB (esz := 1) 4 0 (cells := [.nilc, .ref 3 (List.length xs5) 0 (List.length xs5)]) (h := ?_)
      refine oView (H' := [.box [.d (.int .i64 p0), .d (.int .i64 p1), .d (.lit (List.map e_SPart p2))], .box [.d (.lit (List.map e_Li64 s0)), .d (.lit (List.map e_i64 s1))], .box [.nilc, .nilc], .sl 1 (List.map e_i64 xs5) false, .box [.ref 5 (List.length ([] : List (List Int))) 0 (List.length ([] : List (List Int))), .ref 3 (List.length xs5) 0 (List.length xs5)], .sl 1 (List.map e_Li64 ([] : List (List Int))) false]) rfl (h := ?_)
      refine oHead [2, 3, 8, 10, 35, 36, 37] [2, 4, 5, 3] (T' := [(2, .d (.int .i64 part)), (3, .d (.int .i64 kind)), (8, .ptr 0 0), (10, .ptr 1 0), (35, .d (.lit (List.map e_Li64 s0))), (36, .d (.int .i64 ((List.length s0) : Int))), (37, .d (.int .i64 0))]) (H' := [.box [.nilc, .nilc], .box [.ref 2 (List.length ([] : List (List Int))) 0 (List.length ([] : List (List Int))), .ref 3 (List.length xs5) 0 (List.length xs5)], .sl 1 (List.map e_Li64 ([] : List (List Int))) false, .sl 1 (List.map e_i64 xs5) false]) (hnd := by decide) (h := ?_)
      refine bLoop (body := scheme_Withdraw_b1 k s0) ((uc fun (x4 : Int) => (fun (xs10 : (List (List Int))) => [(2, .d (.int .i64 part)), (3, .d (.int .i64 kind)), (8, .ptr 0 0), (10, .ptr 1 0), (35, .d (.lit (List.map e_Li64 s0))), (36, .d (.int .i64 ((List.length s0) : Int))), (37, .d (.int .i64 x4))]))) ((uc fun (x4 : Int) => (fun (xs10 : (List (List Int))) => [.box [.nilc, .nilc], .box [.ref 2 (List.length xs10) 0 (List.length xs10), .ref 3 (List.length xs5) 0 (List.length xs5)], .sl 1 (List.map e_Li64 xs10) false, .sl 1 (List.map e_i64 xs5) false]))) (fun again hag1 s => ?_) k (0, ([] : List (List Int)))
      ·unfold scheme_Withdraw_b1
       obtain ⟨x4, xs10⟩ := s
       refine bUc ?_
       refine oView (T' := [(2, .d (.int .i64 part)), (3, .d (.int .i64 kind)), (8, .ptr 0 0), (10, .ptr 1 0), (35, .d (.lit (List.map e_Li64 s0))), (36, .d (.int .i64 ((List.length s0) : Int))), (37, .d (.int .i64 x4))]) (H' := [.box [.nilc, .nilc], .box [.ref 2 (List.length xs10) 0 (List.length xs10), .ref 3 (List.length xs5) 0 (List.length xs5)], .sl 1 (List.map e_Li64 xs10) false, .sl 1 (List.map e_i64 xs5) false]) (h := ?_)
       refine oSR rfl ?_
       refine oP (.d (.bool (decide (x4 < ((List.length s0) : Int))))) (p_int (k := .i64) (p := x4) (q := ((List.length s0) : Int))) ?_
       refine oEnd ?_
       refine oSeq ?_
       refine bSplit 38 (h1 := fun hc => ?_) (h2 := fun hc => ?_)
       ·refine oCondT (h := ?_)
        refine oSkip ?_
        refine oSeq ?_
        refine oBlock ?_
        refine oSR rfl ?_
        refine bIdx (fun e115 h131 h132 => ?_)
        refine oP (.lptr (e_Li64 e115) 0) (k_idxLit e_Li64_len s0 (a := e115) (k := .i64) (i := x4) (hu := Try.underlying29) (hi := ty22) (h0 := h131) (he := h132)) ?_
        refine oQ (.d (.lit (List.map e_i64 e115))) (k_loadL (cells := e_Li64 e115) 0 (hu := Try.underlying22)) ?_
        refine oP (.d (.lit (List.map e_i64 e115))) p_assign ?_
        refine oEnd ?_
        refine oDraw [(0, 8), (1, 7), (2, 5), (3, 8)] rfl ?_
        refine aP 0 (.ptr 1 0) rfl (k_fieldAddr 1 0 (hu := Try.underlying31) (hf := rfl) (hi := ty29)) ?_
        refine aQ 1 [1] (.ref 2 (List.length xs10) 0 (List.length xs10)) rfl (k_load 1 0 (hu := Try.underlying29)) ?_
        refine aP 2 (.d (.lit (List.map e_i64 e115))) rfl p_move ?_
        refine dCall (i := 3) (caps := []) (v := (fun (r19 : (List Int)) => (.d (.lit (List.map e_i64 r19)) : V))) (H' := (fun (r19 : (List Int)) => ([.box [.nilc, .nilc], .box [.ref 2 (List.length xs10) 0 (List.length xs10), .ref 3 (List.length xs5) 0 (List.length xs5)], .sl 1 (List.map e_Li64 xs10) false, .sl 1 (List.map e_i64 xs5) false] : List Blk))) [] _ (slices_Clone_int_goes k e115) rfl (ho := rfl) (hfn := Try.func50) (hb := rfl) (hconv := ConvRs.refl _ _) (hnd := by decide) (hBl := fun _ => (by kernel_rfl)) (hv := fun _ => (by kernel_rfl)) (hH' := fun _ => (by kernel_rfl)) (h := fun r19 => ?_)
        refine aOne (i := 4) (v := .ref 4 (List.length ([r19] : List (List Int))) 0 (List.length ([r19] : List (List Int)))) rfl (hac := (Does.acts (k_buildSlice (H' := [.box [.nilc, .nilc], .box [.ref 2 (List.length xs10) 0 (List.length xs10), .ref 3 (List.length xs5) 0 (List.length xs5)], .sl 1 (List.map e_Li64 xs10) false, .sl 1 (List.map e_i64 xs5) false, .sl 1 (List.map e_Li64 ([r19] : List (List Int))) false]) (List.map e_Li64 ([r19] : List (List Int))) Try.underlying29 ty22))) (h := ?_)
        refine dCap (fun h12 => ?_)
        refine aOne (i := 5) (v := .ref 2 (List.length (xs10 ++ ([r19] : List (List Int)))) 0 (List.length (xs10 ++ ([r19] : List (List Int))))) rfl (hac := (Does.acts (k_append (H' := [.box [.nilc, .nilc], .box [.ref 2 (List.length xs10) 0 (List.length xs10), .ref 3 (List.length xs5) 0 (List.length xs5)], .sl 1 (List.map e_Li64 (xs10 ++ ([r19] : List (List Int)))) false, .sl 1 (List.map e_i64 xs5) false, .sl 1 (List.map e_Li64 ([r19] : List (List Int))) false]) (enc := e_Li64) 2 xs10 ([r19] : List (List Int)) Try.underlying29 Try.underlying29 ty22 (hy := (holdsRef (enc := e_Li64) 4 ([r19] : List (List Int)) false)) (hfit := h12)))) (h := ?_)
        refine aP 6 (.ptr 1 0) rfl (k_fieldAddr 1 0 (hu := Try.underlying31) (hf := rfl) (hi := ty29)) ?_
        refine aOne (i := 7) (v := .undef) rfl (hac := (Does.acts (k_store (vs := [.ref 2 (List.length (xs10 ++ ([r19] : List (List Int)))) 0 (List.length (xs10 ++ ([r19] : List (List Int))))]) (H' := [.box [.nilc, .nilc], .box [.ref 2 (List.length (xs10 ++ ([r19] : List (List Int)))) 0 (List.length (xs10 ++ ([r19] : List (List Int)))), .ref 3 (List.length xs5) 0 (List.length xs5)], .sl 1 (List.map e_Li64 (xs10 ++ ([r19] : List (List Int)))) false, .sl 1 (List.map e_i64 xs5) false, .sl 1 (List.map e_Li64 ([r19] : List (List Int))) false]) 1 0 (hi := ty29)))) (h := ?_)
        refine aDone (h := ?_)
        refine oBlk ?_
        refine oRegion rfl ?_
        refine oP (.d (.int .i64 (IntKind.wrap .i64 (x4 + 1)))) (p_int (k := .i64) (p := x4) (q := 1)) ?_
        refine oP (.d (.int .i64 (IntKind.wrap .i64 (x4 + 1)))) p_move ?_
        refine oEnd ?_
        refine oAgain ?_
        refine oHead [2, 3, 8, 10, 35, 36, 37] [0, 1, 2, 3] (T' := [(2, .d (.int .i64 part)), (3, .d (.int .i64 kind)), (8, .ptr 0 0), (10, .ptr 1 0), (35, .d (.lit (List.map e_Li64 s0))), (36, .d (.int .i64 ((List.length s0) : Int))), (37, .d (.int .i64 (IntKind.wrap .i64 (x4 + 1))))]) (H' := [.box [.nilc, .nilc], .box [.ref 2 (List.length (xs10 ++ ([r19] : List (List Int)))) 0 (List.length (xs10 ++ ([r19] : List (List Int)))), .ref 3 (List.length xs5) 0 (List.length xs5)], .sl 1 (List.map e_Li64 (xs10 ++ ([r19] : List (List Int)))) false, .sl 1 (List.map e_i64 xs5) false]) (hnd := by decide) (h := ?_)
        exact hag1 ((IntKind.wrap .i64 (x4 + 1)), (xs10 ++ ([r19] : List (List Int))))
       ·refine oCondF (h := ?_)
        refine oExit rfl ?_
        refine oHead [2, 3, 8, 10] [0, 1, 2, 3] (T' := [(2, .d (.int .i64 part)), (3, .d (.int .i64 kind)), (8, .ptr 0 0), (10, .ptr 1 0)]) (H' := [.box [.nilc, .nilc], .box [.ref 2 (List.length xs10) 0 (List.length xs10), .ref 3 (List.length xs5) 0 (List.length xs5)], .sl 1 (List.map e_Li64 xs10) false, .sl 1 (List.map e_i64 xs5) false]) (hnd := by decide) (h := ?_)
        exact hj2 xs10

/-- awardingbody/awardingbodyref06.ValidPart -/
def ref06_ValidPart (k : Nat) (p0 : Int) (p1 : Int) (p2 : Int) (p3 : Int) (p4 : Int) (p5 : Int) : Option (Bool) := blet ((decide (p1 < 1)) || (decide (p1 > 40))) fun x11 => blet (x11 || (decide (p2 < 0))) fun x12 => blet (x12 || (decide (p2 ≥ 16))) fun x13 => blet (x13 || (decide (p3 < 0))) fun x14 => blet (x14 || (decide (p3 ≥ 6))) fun x15 => bif x15 then some false else bif (p0 == 1) then blet ((p4 == 0) && (p5 == 0)) fun x17 => some x17 else blet ((p0 == 2) && (decide (p4 ≥ 2))) fun x18 => blet (x18 && (decide (p4 ≤ 5))) fun x19 => blet (x19 && (decide (p5 ≥ 0))) fun x20 => blet (x20 && (decide (p5 < p4))) fun x21 => some x21
def ref06_ValidPart_E (p0 : Int) (p1 : Int) (p2 : Int) (p3 : Int) (p4 : Int) (p5 : Int) : Bool → V × List Blk := fun r1 => (.d (.bool r1), [])
theorem ref06_ValidPart_goes (k : Nat) (p0 : Int) (p1 : Int) (p2 : Int) (p3 : Int) (p4 : Int) (p5 : Int) : RunsO Try.prog 64 [.agg [.d (.int .i64 p0), .d (.int .i64 p1), .d (.int .i64 p2), .d (.int .i64 p3), .d (.int .i64 p4), .d (.int .i64 p5)]] [] (ref06_ValidPart_E p0 p1 p2 p3 p4 p5) (ref06_ValidPart k p0 p1 p2 p3 p4 p5) := by
  refine RunsO.of_goes (N := 67) (m := 0) (T := [(0, .agg [.d (.int .i64 p0), .d (.int .i64 p1), .d (.int .i64 p2), .d (.int .i64 p3), .d (.int .i64 p4), .d (.int .i64 p5)])]) Try.func64 rfl rfl (h := ?_)
  unfold ref06_ValidPart
  refine bStart ?_
  refine oSR rfl ?_
  refine oD (.ptr 0 0) (k_box (H' := [.box [.d (.int .i64 p0), .d (.int .i64 p1), .d (.int .i64 p2), .d (.int .i64 p3), .d (.int .i64 p4), .d (.int .i64 p5)]]) (cells := [.d (.int .i64 p0), .d (.int .i64 p1), .d (.int .i64 p2), .d (.int .i64 p3), .d (.int .i64 p4), .d (.int .i64 p5)])) ?_
  refine oP (.d (.bool false)) p_assign ?_
  refine oEnd ?_
  refine oSeq ?_
  refine oSR rfl ?_
  refine oP (.ptr 0 1) (k_fieldAddr 0 0 (hu := Try.underlying49) (hf := rfl) (hi := ty3)) ?_
  refine oQ (.d (.int .i64 p1)) (k_load 0 1 (hu := Try.underlying3)) ?_
  refine oP (.d (.bool (decide (p1 < 1)))) (p_int (k := .i64) (p := p1) (q := 1)) ?_
  refine oP (.d (.bool (decide (p1 < 1)))) p_move ?_
  refine bMeetF (H' := [.box [.d (.int .i64 p0), .d (.int .i64 p1), .d (.int .i64 p2), .d (.int .i64 p3), .d (.int .i64 p4), .d (.int .i64 p5)]]) 4 rfl ((fun (x11 : Bool) => [(1, .ptr 0 0), (10, .d (.bool x11))])) (fun x11 => ?_) (fun F hj1 => ?_)
  ·refine oView (T' := [(1, .ptr 0 0), (10, .d (.bool x11))]) (H' := [.box [.d (.int .i64 p0), .d (.int .i64 p1), .d (.int .i64 p2), .d (.int .i64 p3), .d (.int .i64 p4), .d (.int .i64 p5)]]) (h := ?_)
   refine oP (.d (.bool x11)) p_move ?_
   refine bMeetF (H' := [.box [.d (.int .i64 p0), .d (.int .i64 p1), .d (.int .i64 p2), .d (.int .i64 p3), .d (.int .i64 p4), .d (.int .i64 p5)]]) 4 rfl ((fun (x12 : Bool) => [(1, .ptr 0 0), (15, .d (.bool x12))])) (fun x12 => ?_) (fun F hj2 => ?_)
   ·refine oView (T' := [(1, .ptr 0 0), (15, .d (.bool x12))]) (H' := [.box [.d (.int .i64 p0), .d (.int .i64 p1), .d (.int .i64 p2), .d (.int .i64 p3), .d (.int .i64 p4), .d (.int .i64 p5)]]) (h := ?_)
    refine oP (.d (.bool x12)) p_move ?_
    refine bMeetF (H' := [.box [.d (.int .i64 p0), .d (.int .i64 p1), .d (.int .i64 p2), .d (.int .i64 p3), .d (.int .i64 p4), .d (.int .i64 p5)]]) 4 rfl ((fun (x13 : Bool) => [(1, .ptr 0 0), (20, .d (.bool x13))])) (fun x13 => ?_) (fun F hj3 => ?_)
    ·refine oView (T' := [(1, .ptr 0 0), (20, .d (.bool x13))]) (H' := [.box [.d (.int .i64 p0), .d (.int .i64 p1), .d (.int .i64 p2), .d (.int .i64 p3), .d (.int .i64 p4), .d (.int .i64 p5)]]) (h := ?_)
     refine oP (.d (.bool x13)) p_move ?_
     refine bMeetF (H' := [.box [.d (.int .i64 p0), .d (.int .i64 p1), .d (.int .i64 p2), .d (.int .i64 p3), .d (.int .i64 p4), .d (.int .i64 p5)]]) 4 rfl ((fun (x14 : Bool) => [(1, .ptr 0 0), (25, .d (.bool x14))])) (fun x14 => ?_) (fun F hj4 => ?_)
     ·refine oView (T' := [(1, .ptr 0 0), (25, .d (.bool x14))]) (H' := [.box [.d (.int .i64 p0), .d (.int .i64 p1), .d (.int .i64 p2), .d (.int .i64 p3), .d (.int .i64 p4), .d (.int .i64 p5)]]) (h := ?_)
      refine oP (.d (.bool x14)) p_move ?_
      refine bMeetF (H' := [.box [.d (.int .i64 p0), .d (.int .i64 p1), .d (.int .i64 p2), .d (.int .i64 p3), .d (.int .i64 p4), .d (.int .i64 p5)]]) 4 rfl ((fun (x15 : Bool) => [(1, .ptr 0 0), (30, .d (.bool x15))])) (fun x15 => ?_) (fun F hj5 => ?_)
      ·refine oView (T' := [(1, .ptr 0 0), (30, .d (.bool x15))]) (H' := [.box [.d (.int .i64 p0), .d (.int .i64 p1), .d (.int .i64 p2), .d (.int .i64 p3), .d (.int .i64 p4), .d (.int .i64 p5)]]) (h := ?_)
       refine oEnd ?_
       refine bSplit 30 (h1 := fun hc => ?_) (h2 := fun hc => ?_)
       ·refine oCondT (h := ?_)
        refine oSR rfl ?_
        refine oP (.d (.bool false)) p_assign ?_
        refine oEnd ?_
        exact oRet (r0 := false) (rv := .d (.bool false)) (B := []) (vs := [.d (.bool false)]) (σ := []) (hf := Try.func64) (hrs := rfl) (hres := .cons _ _ _ _ (.tmp 2 _ (by kernel_rfl)) .nil) (hnd := by decide)
       ·refine oCondF (h := ?_)
        refine oSkip ?_
        refine oSeq ?_
        refine oSR rfl ?_
        refine oP (.ptr 0 0) (k_fieldAddr 0 0 (hu := Try.underlying49) (hf := rfl) (hi := ty3)) ?_
        refine oQ (.d (.int .i64 p0)) (k_load 0 0 (hu := Try.underlying3)) ?_
        refine oP (.d (.bool (p0 == 1))) (p_int (k := .i64) (p := p0) (q := 1)) ?_
        refine oEnd ?_
        refine bSplit 33 (h1 := fun hc => ?_) (h2 := fun hc => ?_)
        ·refine oCondT (h := ?_)
         refine oSR rfl ?_
         refine oP (.ptr 0 4) (k_fieldAddr 0 0 (hu := Try.underlying49) (hf := rfl) (hi := ty3)) ?_
         refine oQ (.d (.int .i64 p4)) (k_load 0 4 (hu := Try.underlying3)) ?_
         refine oP (.d (.bool (p4 == 0))) (p_int (k := .i64) (p := p4) (q := 0)) ?_
         refine oP (.d (.bool (p4 == 0))) p_move ?_
         refine bMeetF (H' := []) 4 rfl ((fun (x17 : Bool) => [(41, .d (.bool x17))])) (fun x17 => ?_) (fun F hj6 => ?_)
         ·refine oView (T' := [(41, .d (.bool x17))]) (H' := []) (h := ?_)
          refine oP (.d (.bool x17)) p_assign ?_
          refine oEnd ?_
          exact oRet (r0 := x17) (rv := .d (.bool x17)) (B := []) (vs := [.d (.bool x17)]) (σ := []) (hf := Try.func64) (hrs := rfl) (hres := .cons _ _ _ _ (.tmp 2 _ (by kernel_rfl)) .nil) (hnd := by decide)
         ·refine bPickF 37 (fun c => F (c && (p5 == 0))) (h1 := fun hc => ?_) (h2 := fun hc => ?_)
          ·refine oP (.ptr 0 5) (k_fieldAddr 0 0 (hu := Try.underlying49) (hf := rfl) (hi := ty3)) ?_
           refine oQ (.d (.int .i64 p5)) (k_load 0 5 (hu := Try.underlying3)) ?_
           refine oP (.d (.bool (p5 == 0))) (p_int (k := .i64) (p := p5) (q := 0)) ?_
           refine oP (.d (.bool (p5 == 0))) (p_pick (b := true)) ?_
           refine oHead [41] [] (T' := [(41, .d (.bool (p5 == 0)))]) (H' := []) (hnd := by decide) (h := ?_)
           exact hj6 (p5 == 0)
          ·refine oNot (h := ?_)
           refine oNot (h := ?_)
           refine oNot (h := ?_)
           refine oP (.d (.bool false)) (p_pick (b := false)) ?_
           refine oHead [41] [] (T' := [(41, .d (.bool false))]) (H' := []) (hnd := by decide) (h := ?_)
           exact hj6 false
        ·refine oCondF (h := ?_)
         refine oSkip ?_
         refine oSR rfl ?_
         refine oP (.ptr 0 0) (k_fieldAddr 0 0 (hu := Try.underlying49) (hf := rfl) (hi := ty3)) ?_
         refine oQ (.d (.int .i64 p0)) (k_load 0 0 (hu := Try.underlying3)) ?_
         refine oP (.d (.bool (p0 == 2))) (p_int (k := .i64) (p := p0) (q := 2)) ?_
         refine oP (.d (.bool (p0 == 2))) p_move ?_
         refine bMeetF (H' := [.box [.d (.int .i64 p0), .d (.int .i64 p1), .d (.int .i64 p2), .d (.int .i64 p3), .d (.int .i64 p4), .d (.int .i64 p5)]]) 4 rfl ((fun (x18 : Bool) => [(1, .ptr 0 0), (49, .d (.bool x18))])) (fun x18 => ?_) (fun F hj7 => ?_)
         ·refine oView (T' := [(1, .ptr 0 0), (49, .d (.bool x18))]) (H' := [.box [.d (.int .i64 p0), .d (.int .i64 p1), .d (.int .i64 p2), .d (.int .i64 p3), .d (.int .i64 p4), .d (.int .i64 p5)]]) (h := ?_)
          refine oP (.d (.bool x18)) p_move ?_
          refine bMeetF (H' := [.box [.d (.int .i64 p0), .d (.int .i64 p1), .d (.int .i64 p2), .d (.int .i64 p3), .d (.int .i64 p4), .d (.int .i64 p5)]]) 4 rfl ((fun (x19 : Bool) => [(1, .ptr 0 0), (54, .d (.bool x19))])) (fun x19 => ?_) (fun F hj8 => ?_)
          ·refine oView (T' := [(1, .ptr 0 0), (54, .d (.bool x19))]) (H' := [.box [.d (.int .i64 p0), .d (.int .i64 p1), .d (.int .i64 p2), .d (.int .i64 p3), .d (.int .i64 p4), .d (.int .i64 p5)]]) (h := ?_)
           refine oP (.d (.bool x19)) p_move ?_
           refine bMeetF (H' := [.box [.d (.int .i64 p0), .d (.int .i64 p1), .d (.int .i64 p2), .d (.int .i64 p3), .d (.int .i64 p4), .d (.int .i64 p5)]]) 4 rfl ((fun (x20 : Bool) => [(1, .ptr 0 0), (59, .d (.bool x20))])) (fun x20 => ?_) (fun F hj9 => ?_)
           ·refine oView (T' := [(1, .ptr 0 0), (59, .d (.bool x20))]) (H' := [.box [.d (.int .i64 p0), .d (.int .i64 p1), .d (.int .i64 p2), .d (.int .i64 p3), .d (.int .i64 p4), .d (.int .i64 p5)]]) (h := ?_)
            refine oP (.d (.bool x20)) p_move ?_
            refine bMeetF (H' := []) 6 rfl ((fun (x21 : Bool) => [(66, .d (.bool x21))])) (fun x21 => ?_) (fun F hj10 => ?_)
            ·refine oView (T' := [(66, .d (.bool x21))]) (H' := []) (h := ?_)
             refine oP (.d (.bool x21)) p_assign ?_
             refine oEnd ?_
             exact oRet (r0 := x21) (rv := .d (.bool x21)) (B := []) (vs := [.d (.bool x21)]) (σ := []) (hf := Try.func64) (hrs := rfl) (hres := .cons _ _ _ _ (.tmp 2 _ (by kernel_rfl)) .nil) (hnd := by decide)
            ·refine bPickF 60 (fun c => F (c && (decide (p5 < p4)))) (h1 := fun hc => ?_) (h2 := fun hc => ?_)
             ·refine oP (.ptr 0 5) (k_fieldAddr 0 0 (hu := Try.underlying49) (hf := rfl) (hi := ty3)) ?_
              refine oQ (.d (.int .i64 p5)) (k_load 0 5 (hu := Try.underlying3)) ?_
              refine oP (.ptr 0 4) (k_fieldAddr 0 0 (hu := Try.underlying49) (hf := rfl) (hi := ty3)) ?_
              refine oQ (.d (.int .i64 p4)) (k_load 0 4 (hu := Try.underlying3)) ?_
              refine oP (.d (.bool (decide (p5 < p4)))) (p_int (k := .i64) (p := p5) (q := p4)) ?_
              refine oP (.d (.bool (decide (p5 < p4)))) (p_pick (b := true)) ?_
              refine oHead [66] [] (T' := [(66, .d (.bool (decide (p5 < p4))))]) (H' := []) (hnd := by decide) (h := ?_)
              exact hj10 (decide (p5 < p4))
             ·refine oNot (h := ?_)
              refine oNot (h := ?_)
              refine oNot (h := ?_)
              refine oNot (h := ?_)
              refine oNot (h := ?_)
              refine oP (.d (.bool false)) (p_pick (b := false)) ?_
              refine oHead [66] [] (T' := [(66, .d (.bool false))]) (H' := []) (hnd := by decide) (h := ?_)
              exact hj10 false
           ·refine bPickF 55 (fun c => F (c && (decide (p5 ≥ 0)))) (h1 := fun hc => ?_) (h2 := fun hc => ?_)
            ·refine oP (.ptr 0 5) (k_fieldAddr 0 0 (hu := Try.underlying49) (hf := rfl) (hi := ty3)) ?_
             refine oQ (.d (.int .i64 p5)) (k_load 0 5 (hu := Try.underlying3)) ?_
             refine oP (.d (.bool (decide (p5 ≥ 0)))) (p_int (k := .i64) (p := p5) (q := 0)) ?_
             refine oP (.d (.bool (decide (p5 ≥ 0)))) (p_pick (b := true)) ?_
             refine oHead [1, 59] [0] (T' := [(1, .ptr 0 0), (59, .d (.bool (decide (p5 ≥ 0))))]) (H' := [.box [.d (.int .i64 p0), .d (.int .i64 p1), .d (.int .i64 p2), .d (.int .i64 p3), .d (.int .i64 p4), .d (.int .i64 p5)]]) (hnd := by decide) (h := ?_)
             exact hj9 (decide (p5 ≥ 0))
            ·refine oNot (h := ?_)
             refine oNot (h := ?_)
             refine oNot (h := ?_)
             refine oP (.d (.bool false)) (p_pick (b := false)) ?_
             refine oHead [1, 59] [0] (T' := [(1, .ptr 0 0), (59, .d (.bool false))]) (H' := [.box [.d (.int .i64 p0), .d (.int .i64 p1), .d (.int .i64 p2), .d (.int .i64 p3), .d (.int .i64 p4), .d (.int .i64 p5)]]) (hnd := by decide) (h := ?_)
             exact hj9 false
          ·refine bPickF 50 (fun c => F (c && (decide (p4 ≤ 5)))) (h1 := fun hc => ?_) (h2 := fun hc => ?_)
           ·refine oP (.ptr 0 4) (k_fieldAddr 0 0 (hu := Try.underlying49) (hf := rfl) (hi := ty3)) ?_
            refine oQ (.d (.int .i64 p4)) (k_load 0 4 (hu := Try.underlying3)) ?_
            refine oP (.d (.bool (decide (p4 ≤ 5)))) (p_int (k := .i64) (p := p4) (q := 5)) ?_
            refine oP (.d (.bool (decide (p4 ≤ 5)))) (p_pick (b := true)) ?_
            refine oHead [1, 54] [0] (T' := [(1, .ptr 0 0), (54, .d (.bool (decide (p4 ≤ 5))))]) (H' := [.box [.d (.int .i64 p0), .d (.int .i64 p1), .d (.int .i64 p2), .d (.int .i64 p3), .d (.int .i64 p4), .d (.int .i64 p5)]]) (hnd := by decide) (h := ?_)
            exact hj8 (decide (p4 ≤ 5))
           ·refine oNot (h := ?_)
            refine oNot (h := ?_)
            refine oNot (h := ?_)
            refine oP (.d (.bool false)) (p_pick (b := false)) ?_
            refine oHead [1, 54] [0] (T' := [(1, .ptr 0 0), (54, .d (.bool false))]) (H' := [.box [.d (.int .i64 p0), .d (.int .i64 p1), .d (.int .i64 p2), .d (.int .i64 p3), .d (.int .i64 p4), .d (.int .i64 p5)]]) (hnd := by decide) (h := ?_)
            exact hj8 false
         ·refine bPickF 45 (fun c => F (c && (decide (p4 ≥ 2)))) (h1 := fun hc => ?_) (h2 := fun hc => ?_)
          ·refine oP (.ptr 0 4) (k_fieldAddr 0 0 (hu := Try.underlying49) (hf := rfl) (hi := ty3)) ?_
           refine oQ (.d (.int .i64 p4)) (k_load 0 4 (hu := Try.underlying3)) ?_
           refine oP (.d (.bool (decide (p4 ≥ 2)))) (p_int (k := .i64) (p := p4) (q := 2)) ?_
           refine oP (.d (.bool (decide (p4 ≥ 2)))) (p_pick (b := true)) ?_
           refine oHead [1, 49] [0] (T' := [(1, .ptr 0 0), (49, .d (.bool (decide (p4 ≥ 2))))]) (H' := [.box [.d (.int .i64 p0), .d (.int .i64 p1), .d (.int .i64 p2), .d (.int .i64 p3), .d (.int .i64 p4), .d (.int .i64 p5)]]) (hnd := by decide) (h := ?_)
           exact hj7 (decide (p4 ≥ 2))
          ·refine oNot (h := ?_)
           refine oNot (h := ?_)
           refine oNot (h := ?_)
           refine oP (.d (.bool false)) (p_pick (b := false)) ?_
           refine oHead [1, 49] [0] (T' := [(1, .ptr 0 0), (49, .d (.bool false))]) (H' := [.box [.d (.int .i64 p0), .d (.int .i64 p1), .d (.int .i64 p2), .d (.int .i64 p3), .d (.int .i64 p4), .d (.int .i64 p5)]]) (hnd := by decide) (h := ?_)
           exact hj7 false
      ·refine bPickF 26 (fun c => F (c || (decide (p3 ≥ 6)))) (h1 := fun hc => ?_) (h2 := fun hc => ?_)
       ·refine oNot (h := ?_)
        refine oNot (h := ?_)
        refine oNot (h := ?_)
        refine oP (.d (.bool true)) (p_pick (b := true)) ?_
        refine oHead [1, 30] [0] (T' := [(1, .ptr 0 0), (30, .d (.bool true))]) (H' := [.box [.d (.int .i64 p0), .d (.int .i64 p1), .d (.int .i64 p2), .d (.int .i64 p3), .d (.int .i64 p4), .d (.int .i64 p5)]]) (hnd := by decide) (h := ?_)
        exact hj5 true
       ·refine oP (.ptr 0 3) (k_fieldAddr 0 0 (hu := Try.underlying49) (hf := rfl) (hi := ty3)) ?_
        refine oQ (.d (.int .i64 p3)) (k_load 0 3 (hu := Try.underlying3)) ?_
        refine oP (.d (.bool (decide (p3 ≥ 6)))) (p_int (k := .i64) (p := p3) (q := 6)) ?_
        refine oP (.d (.bool (decide (p3 ≥ 6)))) (p_pick (b := false)) ?_
        refine oHead [1, 30] [0] (T' := [(1, .ptr 0 0), (30, .d (.bool (decide (p3 ≥ 6))))]) (H' := [.box [.d (.int .i64 p0), .d (.int .i64 p1), .d (.int .i64 p2), .d (.int .i64 p3), .d (.int .i64 p4), .d (.int .i64 p5)]]) (hnd := by decide) (h := ?_)
        exact hj5 (decide (p3 ≥ 6))
     ·refine bPickF 21 (fun c => F (c || (decide (p3 < 0)))) (h1 := fun hc => ?_) (h2 := fun hc => ?_)
      ·refine oNot (h := ?_)
       refine oNot (h := ?_)
       refine oNot (h := ?_)
       refine oP (.d (.bool true)) (p_pick (b := true)) ?_
       refine oHead [1, 25] [0] (T' := [(1, .ptr 0 0), (25, .d (.bool true))]) (H' := [.box [.d (.int .i64 p0), .d (.int .i64 p1), .d (.int .i64 p2), .d (.int .i64 p3), .d (.int .i64 p4), .d (.int .i64 p5)]]) (hnd := by decide) (h := ?_)
       exact hj4 true
      ·refine oP (.ptr 0 3) (k_fieldAddr 0 0 (hu := Try.underlying49) (hf := rfl) (hi := ty3)) ?_
       refine oQ (.d (.int .i64 p3)) (k_load 0 3 (hu := Try.underlying3)) ?_
       refine oP (.d (.bool (decide (p3 < 0)))) (p_int (k := .i64) (p := p3) (q := 0)) ?_
       refine oP (.d (.bool (decide (p3 < 0)))) (p_pick (b := false)) ?_
       refine oHead [1, 25] [0] (T' := [(1, .ptr 0 0), (25, .d (.bool (decide (p3 < 0))))]) (H' := [.box [.d (.int .i64 p0), .d (.int .i64 p1), .d (.int .i64 p2), .d (.int .i64 p3), .d (.int .i64 p4), .d (.int .i64 p5)]]) (hnd := by decide) (h := ?_)
       exact hj4 (decide (p3 < 0))
    ·refine bPickF 16 (fun c => F (c || (decide (p2 ≥ 16)))) (h1 := fun hc => ?_) (h2 := fun hc => ?_)
     ·refine oNot (h := ?_)
      refine oNot (h := ?_)
      refine oNot (h := ?_)
      refine oP (.d (.bool true)) (p_pick (b := true)) ?_
      refine oHead [1, 20] [0] (T' := [(1, .ptr 0 0), (20, .d (.bool true))]) (H' := [.box [.d (.int .i64 p0), .d (.int .i64 p1), .d (.int .i64 p2), .d (.int .i64 p3), .d (.int .i64 p4), .d (.int .i64 p5)]]) (hnd := by decide) (h := ?_)
      exact hj3 true
     ·refine oP (.ptr 0 2) (k_fieldAddr 0 0 (hu := Try.underlying49) (hf := rfl) (hi := ty3)) ?_
      refine oQ (.d (.int .i64 p2)) (k_load 0 2 (hu := Try.underlying3)) ?_
      refine oP (.d (.bool (decide (p2 ≥ 16)))) (p_int (k := .i64) (p := p2) (q := 16)) ?_
      refine oP (.d (.bool (decide (p2 ≥ 16)))) (p_pick (b := false)) ?_
      refine oHead [1, 20] [0] (T' := [(1, .ptr 0 0), (20, .d (.bool (decide (p2 ≥ 16))))]) (H' := [.box [.d (.int .i64 p0), .d (.int .i64 p1), .d (.int .i64 p2), .d (.int .i64 p3), .d (.int .i64 p4), .d (.int .i64 p5)]]) (hnd := by decide) (h := ?_)
      exact hj3 (decide (p2 ≥ 16))
   ·refine bPickF 11 (fun c => F (c || (decide (p2 < 0)))) (h1 := fun hc => ?_) (h2 := fun hc => ?_)
    ·refine oNot (h := ?_)
     refine oNot (h := ?_)
     refine oNot (h := ?_)
     refine oP (.d (.bool true)) (p_pick (b := true)) ?_
     refine oHead [1, 15] [0] (T' := [(1, .ptr 0 0), (15, .d (.bool true))]) (H' := [.box [.d (.int .i64 p0), .d (.int .i64 p1), .d (.int .i64 p2), .d (.int .i64 p3), .d (.int .i64 p4), .d (.int .i64 p5)]]) (hnd := by decide) (h := ?_)
     exact hj2 true
    ·refine oP (.ptr 0 2) (k_fieldAddr 0 0 (hu := Try.underlying49) (hf := rfl) (hi := ty3)) ?_
     refine oQ (.d (.int .i64 p2)) (k_load 0 2 (hu := Try.underlying3)) ?_
     refine oP (.d (.bool (decide (p2 < 0)))) (p_int (k := .i64) (p := p2) (q := 0)) ?_
     refine oP (.d (.bool (decide (p2 < 0)))) (p_pick (b := false)) ?_
     refine oHead [1, 15] [0] (T' := [(1, .ptr 0 0), (15, .d (.bool (decide (p2 < 0))))]) (H' := [.box [.d (.int .i64 p0), .d (.int .i64 p1), .d (.int .i64 p2), .d (.int .i64 p3), .d (.int .i64 p4), .d (.int .i64 p5)]]) (hnd := by decide) (h := ?_)
     exact hj2 (decide (p2 < 0))
  ·refine bPickF 6 (fun c => F (c || (decide (p1 > 40)))) (h1 := fun hc => ?_) (h2 := fun hc => ?_)
   ·refine oNot (h := ?_)
    refine oNot (h := ?_)
    refine oNot (h := ?_)
    refine oP (.d (.bool true)) (p_pick (b := true)) ?_
    refine oHead [1, 10] [0] (T' := [(1, .ptr 0 0), (10, .d (.bool true))]) (H' := [.box [.d (.int .i64 p0), .d (.int .i64 p1), .d (.int .i64 p2), .d (.int .i64 p3), .d (.int .i64 p4), .d (.int .i64 p5)]]) (hnd := by decide) (h := ?_)
    exact hj1 true
   ·refine oP (.ptr 0 1) (k_fieldAddr 0 0 (hu := Try.underlying49) (hf := rfl) (hi := ty3)) ?_
    refine oQ (.d (.int .i64 p1)) (k_load 0 1 (hu := Try.underlying3)) ?_
    refine oP (.d (.bool (decide (p1 > 40)))) (p_int (k := .i64) (p := p1) (q := 40)) ?_
    refine oP (.d (.bool (decide (p1 > 40)))) (p_pick (b := false)) ?_
    refine oHead [1, 10] [0] (T' := [(1, .ptr 0 0), (10, .d (.bool (decide (p1 > 40))))]) (H' := [.box [.d (.int .i64 p0), .d (.int .i64 p1), .d (.int .i64 p2), .d (.int .i64 p3), .d (.int .i64 p4), .d (.int .i64 p5)]]) (hnd := by decide) (h := ?_)
    exact hj1 (decide (p1 > 40))

/-- awardingbody/awardingbodyref06.ValidPaper -/
def ref06_ValidPaper_b1 (k : Nat) (p2 : (List SPart)) (again : Int × Int → Option ((Int) ⊕ (Bool))) : Int × Int → Option ((Int) ⊕ (Bool)) := uc fun sum6 => fun i4 => bif (decide (i4 < ((List.length p2) : Int))) then gidx p2 i4 fun e113 => Option.bind (ref06_ValidPart k e113.Kind e113.Max e113.Topic e113.Objective e113.Options e113.Key) (fun r114 => bif (!r114) then some (Sum.inr false) else again ((IntKind.wrap .i64 (sum6 + e113.Max)), (IntKind.wrap .i64 (i4 + 1)))) else some (Sum.inl sum6)
def ref06_ValidPaper (k : Nat) (p0 : Int) (p1 : Int) (p2 : (List SPart)) : Option (Bool) := blet ((decide (p0 < 0)) || (decide (p0 > 31))) fun x5 => blet (x5 || (decide (p1 < 0))) fun x6 => blet (x6 || (decide (p1 ≥ 4))) fun x7 => blet (x7 || (decide (((List.length p2) : Int) < 1))) fun x8 => blet (x8 || (decide (((List.length p2) : Int) > 24))) fun x9 => bif x9 then some false else Option.bind (gloop (ref06_ValidPaper_b1 k p2) k (0, 0) : Option ((Int) ⊕ (Bool))) (Sum.elim (fun sum5 => some (decide (sum5 ≤ 200))) (fun r => some r))
def ref06_ValidPaper_E (p0 : Int) (p1 : Int) (p2 : (List SPart)) : Bool → V × List Blk := fun r14 => (.d (.bool r14), [])
theorem ref06_ValidPaper_goes (k : Nat) (p0 : Int) (p1 : Int) (p2 : (List SPart)) : RunsO Try.prog 54 [.agg [.d (.int .i64 p0), .d (.int .i64 p1), .d (.lit (List.map e_SPart p2))]] [] (ref06_ValidPaper_E p0 p1 p2) (ref06_ValidPaper k p0 p1 p2) := by
  refine RunsO.of_goes (N := 59) (m := 0) (T := [(0, .agg [.d (.int .i64 p0), .d (.int .i64 p1), .d (.lit (List.map e_SPart p2))])]) Try.func54 rfl rfl (h := ?_)
  unfold ref06_ValidPaper
  refine bStart ?_
  refine oSR rfl ?_
  refine oD (.ptr 0 0) (k_box (H' := [.box [.d (.int .i64 p0), .d (.int .i64 p1), .d (.lit (List.map e_SPart p2))]]) (cells := [.d (.int .i64 p0), .d (.int .i64 p1), .d (.lit (List.map e_SPart p2))])) ?_
  refine oP (.d (.bool false)) p_assign ?_
  refine oEnd ?_
  refine oSeq ?_
  refine oSR rfl ?_
  refine oP (.ptr 0 0) (k_fieldAddr 0 0 (hu := Try.underlying27) (hf := rfl) (hi := ty3)) ?_
  refine oQ (.d (.int .i64 p0)) (k_load 0 0 (hu := Try.underlying3)) ?_
  refine oP (.d (.bool (decide (p0 < 0)))) (p_int (k := .i64) (p := p0) (q := 0)) ?_
  refine oP (.d (.bool (decide (p0 < 0)))) p_move ?_
  refine bMeetF (H' := [.box [.d (.int .i64 p0), .d (.int .i64 p1), .d (.lit (List.map e_SPart p2))]]) 4 rfl ((fun (x5 : Bool) => [(1, .ptr 0 0), (12, .d (.bool x5))])) (fun x5 => ?_) (fun F hj2 => ?_)
  ·refine oView (T' := [(1, .ptr 0 0), (12, .d (.bool x5))]) (H' := [.box [.d (.int .i64 p0), .d (.int .i64 p1), .d (.lit (List.map e_SPart p2))]]) (h := ?_)
   refine oP (.d (.bool x5)) p_move ?_
   refine bMeetF (H' := [.box [.d (.int .i64 p0), .d (.int .i64 p1), .d (.lit (List.map e_SPart p2))]]) 4 rfl ((fun (x6 : Bool) => [(1, .ptr 0 0), (17, .d (.bool x6))])) (fun x6 => ?_) (fun F hj3 => ?_)
   ·refine oView (T' := [(1, .ptr 0 0), (17, .d (.bool x6))]) (H' := [.box [.d (.int .i64 p0), .d (.int .i64 p1), .d (.lit (List.map e_SPart p2))]]) (h := ?_)
    refine oP (.d (.bool x6)) p_move ?_
    refine bMeetF (H' := [.box [.d (.int .i64 p0), .d (.int .i64 p1), .d (.lit (List.map e_SPart p2))]]) 4 rfl ((fun (x7 : Bool) => [(1, .ptr 0 0), (22, .d (.bool x7))])) (fun x7 => ?_) (fun F hj4 => ?_)
    ·refine oView (T' := [(1, .ptr 0 0), (22, .d (.bool x7))]) (H' := [.box [.d (.int .i64 p0), .d (.int .i64 p1), .d (.lit (List.map e_SPart p2))]]) (h := ?_)
     refine oP (.d (.bool x7)) p_move ?_
     refine bMeetF (H' := [.box [.d (.int .i64 p0), .d (.int .i64 p1), .d (.lit (List.map e_SPart p2))]]) 5 rfl ((fun (x8 : Bool) => [(1, .ptr 0 0), (28, .d (.bool x8))])) (fun x8 => ?_) (fun F hj5 => ?_)
     ·refine oView (T' := [(1, .ptr 0 0), (28, .d (.bool x8))]) (H' := [.box [.d (.int .i64 p0), .d (.int .i64 p1), .d (.lit (List.map e_SPart p2))]]) (h := ?_)
      refine oP (.d (.bool x8)) p_move ?_
      refine bMeetF (H' := [.box [.d (.int .i64 p0), .d (.int .i64 p1), .d (.lit (List.map e_SPart p2))]]) 5 rfl ((fun (x9 : Bool) => [(1, .ptr 0 0), (34, .d (.bool x9))])) (fun x9 => ?_) (fun F hj6 => ?_)
      ·refine oView (T' := [(1, .ptr 0 0), (34, .d (.bool x9))]) (H' := [.box [.d (.int .i64 p0), .d (.int .i64 p1), .d (.lit (List.map e_SPart p2))]]) (h := ?_)
       refine oEnd ?_
       refine bSplit 34 (h1 := fun hc => ?_) (h2 := fun hc => ?_)
       ·refine oCondT (h := ?_)
        refine oSR rfl ?_
        refine oP (.d (.bool false)) p_assign ?_
        refine oEnd ?_
        exact oRet (r0 := false) (rv := .d (.bool false)) (B := []) (vs := [.d (.bool false)]) (σ := []) (hf := Try.func54) (hrs := rfl) (hres := .cons _ _ _ _ (.tmp 2 _ (by kernel_rfl)) .nil) (hnd := by decide)
       ·refine oCondF (h := ?_)
        refine oSkip ?_
        refine oSR rfl ?_
        refine oP (.d (.int .i64 0)) p_assign ?_
        refine oEnd ?_
        refine oSeq ?_
        refine oSR rfl ?_
        refine oP (.d (.int .i64 0)) p_assign ?_
        refine oEnd ?_
        refine bJoin ((fun (sum5 : Int) => [(3, .d (.int .i64 sum5))])) ((fun (sum5 : Int) => [])) Sum.inl (fun sum5 => ?_) (fun hj7 => ?_)
        ·refine bInl ?_
         refine oView (T' := [(3, .d (.int .i64 sum5))]) (H' := []) (h := ?_)
         refine oSR rfl ?_
         refine oP (.d (.int .i64 sum5)) p_move ?_
         refine oP (.d (.bool (decide (sum5 ≤ 200)))) (p_int (k := .i64) (p := sum5) (q := 200)) ?_
         refine oP (.d (.bool (decide (sum5 ≤ 200)))) p_assign ?_
         refine oEnd ?_
         exact oRet (r0 := (decide (sum5 ≤ 200))) (rv := .d (.bool (decide (sum5 ≤ 200)))) (B := []) (vs := [.d (.bool (decide (sum5 ≤ 200)))]) (σ := []) (hf := Try.func54) (hrs := rfl) (hres := .cons _ _ _ _ (.tmp 2 _ (by kernel_rfl)) .nil) (hnd := by decide)
        ·refine oBlock ?_
         refine oLoop ?_
         refine oHead [1, 3, 4] [0] (T' := [(1, .ptr 0 0), (3, .d (.int .i64 0)), (4, .d (.int .i64 0))]) (H' := [.box [.d (.int .i64 p0), .d (.int .i64 p1), .d (.lit (List.map e_SPart p2))]]) (hnd := by decide) (h := ?_)
         refine bLoop (body := ref06_ValidPaper_b1 k p2) ((uc fun (sum6 : Int) => (fun (i4 : Int) => [(1, .ptr 0 0), (3, .d (.int .i64 sum6)), (4, .d (.int .i64 i4))]))) ((uc fun (sum6 : Int) => (fun (i4 : Int) => [.box [.d (.int .i64 p0), .d (.int .i64 p1), .d (.lit (List.map e_SPart p2))]]))) (fun again hag1 s => ?_) k (0, 0)
         ·unfold ref06_ValidPaper_b1
          obtain ⟨sum6, i4⟩ := s
          refine bUc ?_
          refine oView (T' := [(1, .ptr 0 0), (3, .d (.int .i64 sum6)), (4, .d (.int .i64 i4))]) (H' := [.box [.d (.int .i64 p0), .d (.int .i64 p1), .d (.lit (List.map e_SPart p2))]]) (h := ?_)
          refine oSeq ?_
          refine oSR rfl ?_
          refine oP (.d (.int .i64 i4)) p_move ?_
          refine oP (.ptr 0 2) (k_fieldAddr 0 0 (hu := Try.underlying27) (hf := rfl) (hi := ty25)) ?_
          refine oQ (.d (.lit (List.map e_SPart p2))) (k_load 0 2 (hu := Try.underlying25)) ?_
          refine oP (.d (.int .i64 ((List.length p2) : Int))) (k_lenLit (enc := e_SPart) p2 (hu := Try.underlying25)) ?_
          refine oP (.d (.bool (decide (i4 < ((List.length p2) : Int))))) (p_int (k := .i64) (p := i4) (q := ((List.length p2) : Int))) ?_
          refine oEnd ?_
          refine bSplit 39 (h1 := fun hc => ?_) (h2 := fun hc => ?_)
          ·refine oCondT (h := ?_)
           refine oSkip ?_
           refine oSeq ?_
           refine oBlock ?_
           refine oSeq ?_
           refine oSR rfl ?_
           refine oP (.ptr 0 2) (k_fieldAddr 0 0 (hu := Try.underlying27) (hf := rfl) (hi := ty25)) ?_
           refine oQ (.d (.lit (List.map e_SPart p2))) (k_load 0 2 (hu := Try.underlying25)) ?_
           refine oP (.d (.int .i64 i4)) p_move ?_
           refine bIdx (fun e113 h126 h127 => ?_)
           refine oP (.lptr (e_SPart e113) 0) (k_idxLit e_SPart_len p2 (a := e113) (k := .i64) (i := i4) (hu := Try.underlying25) (hi := ty49) (h0 := h126) (he := h127)) ?_
           refine oQ (.agg [.d (.int .i64 e113.Kind), .d (.int .i64 e113.Max), .d (.int .i64 e113.Topic), .d (.int .i64 e113.Objective), .d (.int .i64 e113.Options), .d (.int .i64 e113.Key)]) (k_loadLAgg (cells := e_SPart e113) 0 [(.int .i64 e113.Kind), (.int .i64 e113.Max), (.int .i64 e113.Topic), (.int .i64 e113.Objective), (.int .i64 e113.Options), (.int .i64 e113.Key)] (hu := Try.underlying49) (hi := ty49)) ?_
           refine bCall (caps := []) (v := (fun (r114 : Bool) => (.d (.bool r114) : V))) (H' := (fun (r114 : Bool) => ([.box [.d (.int .i64 p0), .d (.int .i64 p1), .d (.lit (List.map e_SPart p2))]] : List Blk))) [] _ (ref06_ValidPart_goes k e113.Kind e113.Max e113.Topic e113.Objective e113.Options e113.Key) (ho := rfl) (hfn := Try.func64) (hb := rfl) (hconv := ConvRs.refl _ _) (hnd := by decide) (hBl := fun _ => (by kernel_rfl)) (hv := fun _ => (by kernel_rfl)) (hH' := fun _ => (by kernel_rfl)) (h := fun r114 => ?_)
           refine oP (.d (.bool (!r114))) (p_not (p := r114)) ?_
           refine oEnd ?_
           refine bSplit 48 (h1 := fun hc => ?_) (h2 := fun hc => ?_)
           ·refine oCondT (h := ?_)
            refine oSR rfl ?_
            refine oP (.d (.bool false)) p_assign ?_
            refine oEnd ?_
            exact oRet (r0 := false) (rv := .d (.bool false)) (B := []) (vs := [.d (.bool false)]) (σ := []) (hf := Try.func54) (hrs := rfl) (hres := .cons _ _ _ _ (.tmp 2 _ (by kernel_rfl)) .nil) (hnd := by decide)
           ·refine oCondF (h := ?_)
            refine oSkip ?_
            refine oRegion rfl ?_
            refine oP (.d (.int .i64 sum6)) p_move ?_
            refine oP (.ptr 0 2) (k_fieldAddr 0 0 (hu := Try.underlying27) (hf := rfl) (hi := ty25)) ?_
            refine oQ (.d (.lit (List.map e_SPart p2))) (k_load 0 2 (hu := Try.underlying25)) ?_
            refine oP (.d (.int .i64 i4)) p_move ?_
            refine oP (.lptr (e_SPart e113) 0) (k_idxLit e_SPart_len p2 (a := e113) (k := .i64) (i := i4) (hu := Try.underlying25) (hi := ty49) (h0 := h126) (he := h127)) ?_
            refine oP (.lptr (e_SPart e113) 1) (k_fieldAddrL (cells := e_SPart e113) 0 (hu := Try.underlying49) (hf := rfl) (hi := ty3)) ?_
            refine oQ (.d (.int .i64 e113.Max)) (k_loadL (cells := e_SPart e113) 1 (hu := Try.underlying3)) ?_
            refine oP (.d (.int .i64 (IntKind.wrap .i64 (sum6 + e113.Max)))) (p_int (k := .i64) (p := sum6) (q := e113.Max)) ?_
            refine oP (.d (.int .i64 (IntKind.wrap .i64 (sum6 + e113.Max)))) p_assign ?_
            refine oEnd ?_
            refine oBlk ?_
            refine oRegion rfl ?_
            refine oP (.d (.int .i64 i4)) p_move ?_
            refine oP (.d (.int .i64 (IntKind.wrap .i64 (i4 + 1)))) (p_int (k := .i64) (p := i4) (q := 1)) ?_
            refine oP (.d (.int .i64 (IntKind.wrap .i64 (i4 + 1)))) p_assign ?_
            refine oEnd ?_
            refine oAgain ?_
            refine oHead [1, 3, 4] [0] (T' := [(1, .ptr 0 0), (3, .d (.int .i64 (IntKind.wrap .i64 (sum6 + e113.Max)))), (4, .d (.int .i64 (IntKind.wrap .i64 (i4 + 1))))]) (H' := [.box [.d (.int .i64 p0), .d (.int .i64 p1), .d (.lit (List.map e_SPart p2))]]) (hnd := by decide) (h := ?_)
            exact hag1 ((IntKind.wrap .i64 (sum6 + e113.Max)), (IntKind.wrap .i64 (i4 + 1)))
          ·refine oCondF (h := ?_)
           refine oExit rfl ?_
           refine oHead [3] [] (T' := [(3, .d (.int .i64 sum6))]) (H' := []) (hnd := by decide) (h := ?_)
           exact hj7 sum6
      ·refine bPickF 29 (fun c => F (c || (decide (((List.length p2) : Int) > 24)))) (h1 := fun hc => ?_) (h2 := fun hc => ?_)
       ·refine oNot (h := ?_)
        refine oNot (h := ?_)
        refine oNot (h := ?_)
        refine oNot (h := ?_)
        refine oP (.d (.bool true)) (p_pick (b := true)) ?_
        refine oHead [1, 34] [0] (T' := [(1, .ptr 0 0), (34, .d (.bool true))]) (H' := [.box [.d (.int .i64 p0), .d (.int .i64 p1), .d (.lit (List.map e_SPart p2))]]) (hnd := by decide) (h := ?_)
        exact hj6 true
       ·refine oP (.ptr 0 2) (k_fieldAddr 0 0 (hu := Try.underlying27) (hf := rfl) (hi := ty25)) ?_
        refine oQ (.d (.lit (List.map e_SPart p2))) (k_load 0 2 (hu := Try.underlying25)) ?_
        refine oP (.d (.int .i64 ((List.length p2) : Int))) (k_lenLit (enc := e_SPart) p2 (hu := Try.underlying25)) ?_
        refine oP (.d (.bool (decide (((List.length p2) : Int) > 24)))) (p_int (k := .i64) (p := ((List.length p2) : Int)) (q := 24)) ?_
        refine oP (.d (.bool (decide (((List.length p2) : Int) > 24)))) (p_pick (b := false)) ?_
        refine oHead [1, 34] [0] (T' := [(1, .ptr 0 0), (34, .d (.bool (decide (((List.length p2) : Int) > 24))))]) (H' := [.box [.d (.int .i64 p0), .d (.int .i64 p1), .d (.lit (List.map e_SPart p2))]]) (hnd := by decide) (h := ?_)
        exact hj6 (decide (((List.length p2) : Int) > 24))
     ·refine bPickF 23 (fun c => F (c || (decide (((List.length p2) : Int) < 1)))) (h1 := fun hc => ?_) (h2 := fun hc => ?_)
      ·refine oNot (h := ?_)
       refine oNot (h := ?_)
       refine oNot (h := ?_)
       refine oNot (h := ?_)
       refine oP (.d (.bool true)) (p_pick (b := true)) ?_
       refine oHead [1, 28] [0] (T' := [(1, .ptr 0 0), (28, .d (.bool true))]) (H' := [.box [.d (.int .i64 p0), .d (.int .i64 p1), .d (.lit (List.map e_SPart p2))]]) (hnd := by decide) (h := ?_)
       exact hj5 true
      ·refine oP (.ptr 0 2) (k_fieldAddr 0 0 (hu := Try.underlying27) (hf := rfl) (hi := ty25)) ?_
       refine oQ (.d (.lit (List.map e_SPart p2))) (k_load 0 2 (hu := Try.underlying25)) ?_
       refine oP (.d (.int .i64 ((List.length p2) : Int))) (k_lenLit (enc := e_SPart) p2 (hu := Try.underlying25)) ?_
       refine oP (.d (.bool (decide (((List.length p2) : Int) < 1)))) (p_int (k := .i64) (p := ((List.length p2) : Int)) (q := 1)) ?_
       refine oP (.d (.bool (decide (((List.length p2) : Int) < 1)))) (p_pick (b := false)) ?_
       refine oHead [1, 28] [0] (T' := [(1, .ptr 0 0), (28, .d (.bool (decide (((List.length p2) : Int) < 1))))]) (H' := [.box [.d (.int .i64 p0), .d (.int .i64 p1), .d (.lit (List.map e_SPart p2))]]) (hnd := by decide) (h := ?_)
       exact hj5 (decide (((List.length p2) : Int) < 1))
    ·refine bPickF 18 (fun c => F (c || (decide (p1 ≥ 4)))) (h1 := fun hc => ?_) (h2 := fun hc => ?_)
     ·refine oNot (h := ?_)
      refine oNot (h := ?_)
      refine oNot (h := ?_)
      refine oP (.d (.bool true)) (p_pick (b := true)) ?_
      refine oHead [1, 22] [0] (T' := [(1, .ptr 0 0), (22, .d (.bool true))]) (H' := [.box [.d (.int .i64 p0), .d (.int .i64 p1), .d (.lit (List.map e_SPart p2))]]) (hnd := by decide) (h := ?_)
      exact hj4 true
     ·refine oP (.ptr 0 1) (k_fieldAddr 0 0 (hu := Try.underlying27) (hf := rfl) (hi := ty3)) ?_
      refine oQ (.d (.int .i64 p1)) (k_load 0 1 (hu := Try.underlying3)) ?_
      refine oP (.d (.bool (decide (p1 ≥ 4)))) (p_int (k := .i64) (p := p1) (q := 4)) ?_
      refine oP (.d (.bool (decide (p1 ≥ 4)))) (p_pick (b := false)) ?_
      refine oHead [1, 22] [0] (T' := [(1, .ptr 0 0), (22, .d (.bool (decide (p1 ≥ 4))))]) (H' := [.box [.d (.int .i64 p0), .d (.int .i64 p1), .d (.lit (List.map e_SPart p2))]]) (hnd := by decide) (h := ?_)
      exact hj4 (decide (p1 ≥ 4))
   ·refine bPickF 13 (fun c => F (c || (decide (p1 < 0)))) (h1 := fun hc => ?_) (h2 := fun hc => ?_)
    ·refine oNot (h := ?_)
     refine oNot (h := ?_)
     refine oNot (h := ?_)
     refine oP (.d (.bool true)) (p_pick (b := true)) ?_
     refine oHead [1, 17] [0] (T' := [(1, .ptr 0 0), (17, .d (.bool true))]) (H' := [.box [.d (.int .i64 p0), .d (.int .i64 p1), .d (.lit (List.map e_SPart p2))]]) (hnd := by decide) (h := ?_)
     exact hj3 true
    ·refine oP (.ptr 0 1) (k_fieldAddr 0 0 (hu := Try.underlying27) (hf := rfl) (hi := ty3)) ?_
     refine oQ (.d (.int .i64 p1)) (k_load 0 1 (hu := Try.underlying3)) ?_
     refine oP (.d (.bool (decide (p1 < 0)))) (p_int (k := .i64) (p := p1) (q := 0)) ?_
     refine oP (.d (.bool (decide (p1 < 0)))) (p_pick (b := false)) ?_
     refine oHead [1, 17] [0] (T' := [(1, .ptr 0 0), (17, .d (.bool (decide (p1 < 0))))]) (H' := [.box [.d (.int .i64 p0), .d (.int .i64 p1), .d (.lit (List.map e_SPart p2))]]) (hnd := by decide) (h := ?_)
     exact hj3 (decide (p1 < 0))
  ·refine bPickF 8 (fun c => F (c || (decide (p0 > 31)))) (h1 := fun hc => ?_) (h2 := fun hc => ?_)
   ·refine oNot (h := ?_)
    refine oNot (h := ?_)
    refine oNot (h := ?_)
    refine oP (.d (.bool true)) (p_pick (b := true)) ?_
    refine oHead [1, 12] [0] (T' := [(1, .ptr 0 0), (12, .d (.bool true))]) (H' := [.box [.d (.int .i64 p0), .d (.int .i64 p1), .d (.lit (List.map e_SPart p2))]]) (hnd := by decide) (h := ?_)
    exact hj2 true
   ·refine oP (.ptr 0 0) (k_fieldAddr 0 0 (hu := Try.underlying27) (hf := rfl) (hi := ty3)) ?_
    refine oQ (.d (.int .i64 p0)) (k_load 0 0 (hu := Try.underlying3)) ?_
    refine oP (.d (.bool (decide (p0 > 31)))) (p_int (k := .i64) (p := p0) (q := 31)) ?_
    refine oP (.d (.bool (decide (p0 > 31)))) (p_pick (b := false)) ?_
    refine oHead [1, 12] [0] (T' := [(1, .ptr 0 0), (12, .d (.bool (decide (p0 > 31))))]) (H' := [.box [.d (.int .i64 p0), .d (.int .i64 p1), .d (.lit (List.map e_SPart p2))]]) (hnd := by decide) (h := ?_)
    exact hj2 (decide (p0 > 31))

/-- awardingbody/awardingbodyref23.Valid -/
def ref23_Valid_b2 (k : Nat) (p2 : (List SPart)) (s0 : (List (List Int))) (i4 : Int) (again : Int → Option ((Unit) ⊕ (Bool))) : Int → Option ((Unit) ⊕ (Bool)) := fun k128 => gidx s0 i4 fun e147 => bif (decide (k128 < ((List.length e147) : Int))) then gidx e147 k128 fun e12 => Option.bind (bif (decide (e12 < 0)) then some true else gidx p2 i4 fun e13 => some (decide (e12 ≥ e13.Options)) : Option Bool) (fun x358 => Option.bind (bif x358 then some true else Option.bind (bif (decide (k128 > 0)) then gidx e147 (IntKind.wrap .i64 (k128 - 1)) fun e15 => some (decide (e15 ≥ e12)) else some false : Option Bool) (fun x361 => some x361) : Option Bool) (fun x360 => bif x360 then some (Sum.inr false) else again (IntKind.wrap .i64 (k128 + 1)))) else some (Sum.inl ())
def ref23_Valid_b1 (k : Nat) (p2 : (List SPart)) (s0 : (List (List Int))) (s1 : (List Int)) (again : Int → Option ((Unit) ⊕ (Bool))) : Int → Option ((Unit) ⊕ (Bool)) := fun i4 => bif (decide (i4 < ((List.length p2) : Int))) then gidx s1 i4 fun e142 => blet ((decide (e142 < 0)) || (decide (e142 > 2))) fun x303 => bif x303 then some (Sum.inr false) else Option.bind (gloop (ref23_Valid_b2 k p2 s0 i4) k 0 : Option ((Unit) ⊕ (Bool))) (Sum.elim (u0 (again (IntKind.wrap .i64 (i4 + 1)))) (fun r => some (Sum.inr r))) else some (Sum.inl ())
def ref23_Valid (k : Nat) (p0 : Int) (p1 : Int) (p2 : (List SPart)) (s0 : (List (List Int))) (s1 : (List Int)) : Option (Bool) := Option.bind (ref06_ValidPaper k p0 p1 p2) (fun r141 => blet ((!r141) || (((List.length s0) : Int) != ((List.length p2) : Int))) fun x94 => blet (x94 || (((List.length s1) : Int) != ((List.length p2) : Int))) fun x95 => bif x95 then some false else Option.bind (gloop (ref23_Valid_b1 k p2 s0 s1) k 0 : Option ((Unit) ⊕ (Bool))) (Sum.elim (u0 (some true)) (fun r => some r)))
def ref23_Valid_E (p0 : Int) (p1 : Int) (p2 : (List SPart)) (s0 : (List (List Int))) (s1 : (List Int)) : Bool → V × List Blk := fun r1 => (.d (.bool r1), [])
theorem ref23_Valid_goes (k : Nat) (p0 : Int) (p1 : Int) (p2 : (List SPart)) (s0 : (List (List Int))) (s1 : (List Int)) : RunsO Try.prog 31 [.agg [.d (.int .i64 p0), .d (.int .i64 p1), .d (.lit (List.map e_SPart p2))], .agg [.d (.lit (List.map e_Li64 s0)), .d (.lit (List.map e_i64 s1))]] [] (ref23_Valid_E p0 p1 p2 s0 s1) (ref23_Valid k p0 p1 p2 s0 s1) := by
  refine RunsO.of_goes (N := 107) (m := 0) (T := [(0, .agg [.d (.int .i64 p0), .d (.int .i64 p1), .d (.lit (List.map e_SPart p2))]), (1, .agg [.d (.lit (List.map e_Li64 s0)), .d (.lit (List.map e_i64 s1))])]) Try.func31 rfl rfl (h := ?_)
  unfold ref23_Valid
  refine bStart ?_
  refine oSR rfl ?_
  refine oD (.ptr 0 0) (k_box (H' := [.box [.d (.int .i64 p0), .d (.int .i64 p1), .d (.lit (List.map e_SPart p2))]]) (cells := [.d (.int .i64 p0), .d (.int .i64 p1), .d (.lit (List.map e_SPart p2))])) ?_
  refine oD (.ptr 1 0) (k_box (H' := [.box [.d (.int .i64 p0), .d (.int .i64 p1), .d (.lit (List.map e_SPart p2))], .box [.d (.lit (List.map e_Li64 s0)), .d (.lit (List.map e_i64 s1))]]) (cells := [.d (.lit (List.map e_Li64 s0)), .d (.lit (List.map e_i64 s1))])) ?_
  refine oP (.d (.bool false)) p_assign ?_
  refine oEnd ?_
  refine oSR rfl ?_
  refine oP (.ptr 0 2) (k_fieldAddr 0 0 (hu := Try.underlying27) (hf := rfl) (hi := ty25)) ?_
  refine oQ (.d (.lit (List.map e_SPart p2))) (k_load 0 2 (hu := Try.underlying25)) ?_
  refine oP (.d (.int .i64 ((List.length p2) : Int))) (k_lenLit (enc := e_SPart) p2 (hu := Try.underlying25)) ?_
  refine oP (.d (.int .i64 ((List.length p2) : Int))) p_assign ?_
  refine oEnd ?_
  refine oSeq ?_
  refine oSR rfl ?_
  refine oQ (.agg [.d (.int .i64 p0), .d (.int .i64 p1), .d (.lit (List.map e_SPart p2))]) (k_loadAgg 0 0 (hu := Try.underlying27) (hi := ty27)) ?_
  refine bCall (caps := []) (v := (fun (r141 : Bool) => (.d (.bool r141) : V))) (H' := (fun (r141 : Bool) => ([.box [.d (.int .i64 p0), .d (.int .i64 p1), .d (.lit (List.map e_SPart p2))], .box [.d (.lit (List.map e_Li64 s0)), .d (.lit (List.map e_i64 s1))]] : List Blk))) [] _ (ref06_ValidPaper_goes k p0 p1 p2) (ho := rfl) (hfn := Try.func54) (hb := rfl) (hconv := ConvRs.refl _ _) (hnd := by decide) (hBl := fun _ => (by kernel_rfl)) (hv := fun _ => (by kernel_rfl)) (hH' := fun _ => (by kernel_rfl)) (h := fun r141 => ?_)
  refine oP (.d (.bool (!r141))) (p_not (p := r141)) ?_
  refine oP (.d (.bool (!r141))) p_move ?_
  refine bMeetF (H' := [.box [.d (.int .i64 p0), .d (.int .i64 p1), .d (.lit (List.map e_SPart p2))], .box [.d (.lit (List.map e_Li64 s0)), .d (.lit (List.map e_i64 s1))]]) 6 rfl ((fun (x94 : Bool) => [(2, .ptr 0 0), (3, .ptr 1 0), (5, .d (.int .i64 ((List.length p2) : Int))), (20, .d (.bool x94))])) (fun x94 => ?_) (fun F hj54 => ?_)
  ·refine oView (T' := [(2, .ptr 0 0), (3, .ptr 1 0), (5, .d (.int .i64 ((List.length p2) : Int))), (20, .d (.bool x94))]) (H' := [.box [.d (.int .i64 p0), .d (.int .i64 p1), .d (.lit (List.map e_SPart p2))], .box [.d (.lit (List.map e_Li64 s0)), .d (.lit (List.map e_i64 s1))]]) (h := ?_)
   refine oP (.d (.bool x94)) p_move ?_
   refine bMeetF (H' := [.box [.d (.int .i64 p0), .d (.int .i64 p1), .d (.lit (List.map e_SPart p2))], .box [.d (.lit (List.map e_Li64 s0)), .d (.lit (List.map e_i64 s1))]]) 6 rfl ((fun (x95 : Bool) => [(2, .ptr 0 0), (3, .ptr 1 0), (5, .d (.int .i64 ((List.length p2) : Int))), (27, .d (.bool x95))])) (fun x95 => ?_) (fun F hj55 => ?_)
   ·refine oView (T' := [(2, .ptr 0 0), (3, .ptr 1 0), (5, .d (.int .i64 ((List.length p2) : Int))), (27, .d (.bool x95))]) (H' := [.box [.d (.int .i64 p0), .d (.int .i64 p1), .d (.lit (List.map e_SPart p2))], .box [.d (.lit (List.map e_Li64 s0)), .d (.lit (List.map e_i64 s1))]]) (h := ?_)
    refine oEnd ?_
    refine bSplit 27 (h1 := fun hc => ?_) (h2 := fun hc => ?_)
    ·refine oCondT (h := ?_)
     refine oSR rfl ?_
     refine oP (.d (.bool false)) p_assign ?_
     refine oEnd ?_
     exact oRet (r0 := false) (rv := .d (.bool false)) (B := []) (vs := [.d (.bool false)]) (σ := []) (hf := Try.func31) (hrs := rfl) (hres := .cons _ _ _ _ (.tmp 4 _ (by kernel_rfl)) .nil) (hnd := by decide)
    ·refine oCondF (h := ?_)
     refine oSkip ?_
     refine oSeq ?_
     refine oSR rfl ?_
     refine oP (.d (.int .i64 0)) p_assign ?_
     refine oEnd ?_
     refine bJoin ((u0 ([]))) ((u0 ([]))) Sum.inl (fun s => ?_) (fun hj108 => ?_)
     ·cases s
      refine bInl ?_
      refine bU0 ?_
      refine oView (T' := []) (H' := []) (h := ?_)
      refine oSR rfl ?_
      refine oP (.d (.bool true)) p_assign ?_
      refine oEnd ?_
      exact oRet (r0 := true) (rv := .d (.bool true)) (B := []) (vs := [.d (.bool true)]) (σ := []) (hf := Try.func31) (hrs := rfl) (hres := .cons _ _ _ _ (.tmp 4 _ (by kernel_rfl)) .nil) (hnd := by decide)
     ·refine oBlock ?_
      refine oLoop ?_
      refine oHead [2, 3, 5, 6] [0, 1] (T' := [(2, .ptr 0 0), (3, .ptr 1 0), (5, .d (.int .i64 ((List.length p2) : Int))), (6, .d (.int .i64 0))]) (H' := [.box [.d (.int .i64 p0), .d (.int .i64 p1), .d (.lit (List.map e_SPart p2))], .box [.d (.lit (List.map e_Li64 s0)), .d (.lit (List.map e_i64 s1))]]) (hnd := by decide) (h := ?_)
      refine bLoop (body := ref23_Valid_b1 k p2 s0 s1) ((fun (i4 : Int) => [(2, .ptr 0 0), (3, .ptr 1 0), (5, .d (.int .i64 ((List.length p2) : Int))), (6, .d (.int .i64 i4))])) ((fun (i4 : Int) => [.box [.d (.int .i64 p0), .d (.int .i64 p1), .d (.lit (List.map e_SPart p2))], .box [.d (.lit (List.map e_Li64 s0)), .d (.lit (List.map e_i64 s1))]])) (fun again hag1 i4 => ?_) k 0
      ·unfold ref23_Valid_b1
       refine oView (T' := [(2, .ptr 0 0), (3, .ptr 1 0), (5, .d (.int .i64 ((List.length p2) : Int))), (6, .d (.int .i64 i4))]) (H' := [.box [.d (.int .i64 p0), .d (.int .i64 p1), .d (.lit (List.map e_SPart p2))], .box [.d (.lit (List.map e_Li64 s0)), .d (.lit (List.map e_i64 s1))]]) (h := ?_)
       refine oSeq ?_
       refine oSR rfl ?_
       refine oP (.d (.int .i64 i4)) p_move ?_
       refine oP (.d (.int .i64 ((List.length p2) : Int))) p_move ?_
       refine oP (.d (.bool (decide (i4 < ((List.length p2) : Int))))) (p_int (k := .i64) (p := i4) (q := ((List.length p2) : Int))) ?_
       refine oEnd ?_
       refine bSplit 30 (h1 := fun hc => ?_) (h2 := fun hc => ?_)
       ·refine oCondT (h := ?_)
        refine oSkip ?_
        refine oSeq ?_
        refine oBlock ?_
        refine oSeq ?_
        refine oSR rfl ?_
        refine oP (.ptr 1 1) (k_fieldAddr 1 0 (hu := Try.underlying31) (hf := rfl) (hi := ty22)) ?_
        refine oQ (.d (.lit (List.map e_i64 s1))) (k_load 1 1 (hu := Try.underlying22)) ?_
        refine oP (.d (.int .i64 i4)) p_move ?_
        refine bIdx (fun e142 h184 h185 => ?_)
        refine oP (.lptr (e_i64 e142) 0) (k_idxLit e_i64_len s1 (a := e142) (k := .i64) (i := i4) (hu := Try.underlying22) (hi := ty3) (h0 := h184) (he := h185)) ?_
        refine oQ (.d (.int .i64 e142)) (k_loadL (cells := e_i64 e142) 0 (hu := Try.underlying3)) ?_
        refine oP (.d (.bool (decide (e142 < 0)))) (p_int (k := .i64) (p := e142) (q := 0)) ?_
        refine oP (.d (.bool (decide (e142 < 0)))) p_move ?_
        refine bMeetF (H' := [.box [.d (.int .i64 p0), .d (.int .i64 p1), .d (.lit (List.map e_SPart p2))], .box [.d (.lit (List.map e_Li64 s0)), .d (.lit (List.map e_i64 s1))]]) 7 rfl ((fun (x303 : Bool) => [(2, .ptr 0 0), (3, .ptr 1 0), (5, .d (.int .i64 ((List.length p2) : Int))), (6, .d (.int .i64 i4)), (46, .d (.bool x303))])) (fun x303 => ?_) (fun F hj174 => ?_)
        ·refine oView (T' := [(2, .ptr 0 0), (3, .ptr 1 0), (5, .d (.int .i64 ((List.length p2) : Int))), (6, .d (.int .i64 i4)), (46, .d (.bool x303))]) (H' := [.box [.d (.int .i64 p0), .d (.int .i64 p1), .d (.lit (List.map e_SPart p2))], .box [.d (.lit (List.map e_Li64 s0)), .d (.lit (List.map e_i64 s1))]]) (h := ?_)
         refine oEnd ?_
         refine bSplit 46 (h1 := fun hc => ?_) (h2 := fun hc => ?_)
         ·refine oCondT (h := ?_)
          refine oSR rfl ?_
          refine oP (.d (.bool false)) p_assign ?_
          refine oEnd ?_
          exact oRet (r0 := false) (rv := .d (.bool false)) (B := []) (vs := [.d (.bool false)]) (σ := []) (hf := Try.func31) (hrs := rfl) (hres := .cons _ _ _ _ (.tmp 4 _ (by kernel_rfl)) .nil) (hnd := by decide)
         ·refine oCondF (h := ?_)
          refine oSkip ?_
          refine oSR rfl ?_
          refine oP (.d (.int .i64 0)) p_assign ?_
          refine oEnd ?_
          refine bJoin ((u0 ([(2, .ptr 0 0), (3, .ptr 1 0), (5, .d (.int .i64 ((List.length p2) : Int))), (6, .d (.int .i64 i4))]))) ((u0 ([.box [.d (.int .i64 p0), .d (.int .i64 p1), .d (.lit (List.map e_SPart p2))], .box [.d (.lit (List.map e_Li64 s0)), .d (.lit (List.map e_i64 s1))]]))) Sum.inl (fun s => ?_) (fun hj187 => ?_)
          ·cases s
           refine bInl ?_
           refine bU0 ?_
           refine oView (T' := [(2, .ptr 0 0), (3, .ptr 1 0), (5, .d (.int .i64 ((List.length p2) : Int))), (6, .d (.int .i64 i4))]) (H' := [.box [.d (.int .i64 p0), .d (.int .i64 p1), .d (.lit (List.map e_SPart p2))], .box [.d (.lit (List.map e_Li64 s0)), .d (.lit (List.map e_i64 s1))]]) (h := ?_)
           refine oBlk ?_
           refine oRegion rfl ?_
           refine oP (.d (.int .i64 i4)) p_move ?_
           refine oP (.d (.int .i64 (IntKind.wrap .i64 (i4 + 1)))) (p_int (k := .i64) (p := i4) (q := 1)) ?_
           refine oP (.d (.int .i64 (IntKind.wrap .i64 (i4 + 1)))) p_assign ?_
           refine oEnd ?_
           refine oAgain ?_
           refine oHead [2, 3, 5, 6] [0, 1] (T' := [(2, .ptr 0 0), (3, .ptr 1 0), (5, .d (.int .i64 ((List.length p2) : Int))), (6, .d (.int .i64 (IntKind.wrap .i64 (i4 + 1))))]) (H' := [.box [.d (.int .i64 p0), .d (.int .i64 p1), .d (.lit (List.map e_SPart p2))], .box [.d (.lit (List.map e_Li64 s0)), .d (.lit (List.map e_i64 s1))]]) (hnd := by decide) (h := ?_)
           exact hag1 (IntKind.wrap .i64 (i4 + 1))
          ·refine oBlock ?_
           refine oLoop ?_
           refine oHead [2, 3, 5, 6, 7] [0, 1] (T' := [(2, .ptr 0 0), (3, .ptr 1 0), (5, .d (.int .i64 ((List.length p2) : Int))), (6, .d (.int .i64 i4)), (7, .d (.int .i64 0))]) (H' := [.box [.d (.int .i64 p0), .d (.int .i64 p1), .d (.lit (List.map e_SPart p2))], .box [.d (.lit (List.map e_Li64 s0)), .d (.lit (List.map e_i64 s1))]]) (hnd := by decide) (h := ?_)
           refine bLoop (body := ref23_Valid_b2 k p2 s0 i4) ((fun (k128 : Int) => [(2, .ptr 0 0), (3, .ptr 1 0), (5, .d (.int .i64 ((List.length p2) : Int))), (6, .d (.int .i64 i4)), (7, .d (.int .i64 k128))])) ((fun (k128 : Int) => [.box [.d (.int .i64 p0), .d (.int .i64 p1), .d (.lit (List.map e_SPart p2))], .box [.d (.lit (List.map e_Li64 s0)), .d (.lit (List.map e_i64 s1))]])) (fun again hag2 k128 => ?_) k 0
           ·unfold ref23_Valid_b2
            refine oView (T' := [(2, .ptr 0 0), (3, .ptr 1 0), (5, .d (.int .i64 ((List.length p2) : Int))), (6, .d (.int .i64 i4)), (7, .d (.int .i64 k128))]) (H' := [.box [.d (.int .i64 p0), .d (.int .i64 p1), .d (.lit (List.map e_SPart p2))], .box [.d (.lit (List.map e_Li64 s0)), .d (.lit (List.map e_i64 s1))]]) (h := ?_)
            refine oSeq ?_
            refine oSR rfl ?_
            refine oP (.d (.int .i64 k128)) p_move ?_
            refine oP (.ptr 1 0) (k_fieldAddr 1 0 (hu := Try.underlying31) (hf := rfl) (hi := ty29)) ?_
            refine oQ (.d (.lit (List.map e_Li64 s0))) (k_load 1 0 (hu := Try.underlying29)) ?_
            refine oP (.d (.int .i64 i4)) p_move ?_
            refine bIdx (fun e147 h194 h195 => ?_)
            refine oP (.lptr (e_Li64 e147) 0) (k_idxLit e_Li64_len s0 (a := e147) (k := .i64) (i := i4) (hu := Try.underlying29) (hi := ty22) (h0 := h194) (he := h195)) ?_
            refine oQ (.d (.lit (List.map e_i64 e147))) (k_loadL (cells := e_Li64 e147) 0 (hu := Try.underlying22)) ?_
            refine oP (.d (.int .i64 ((List.length e147) : Int))) (k_lenLit (enc := e_i64) e147 (hu := Try.underlying22)) ?_
            refine oP (.d (.bool (decide (k128 < ((List.length e147) : Int))))) (p_int (k := .i64) (p := k128) (q := ((List.length e147) : Int))) ?_
            refine oEnd ?_
            refine bSplit 54 (h1 := fun hc => ?_) (h2 := fun hc => ?_)
            ·refine oCondT (h := ?_)
             refine oSkip ?_
             refine oSeq ?_
             refine oBlock ?_
             refine oSeq ?_
             refine oDraw [(0, 50), (1, 50)] rfl ?_
             refine aP 0 (.ptr 1 0) rfl (k_fieldAddr 1 0 (hu := Try.underlying31) (hf := rfl) (hi := ty29)) ?_
             refine aQ 1 [1] (.d (.lit (List.map e_Li64 s0))) rfl (k_load 1 0 (hu := Try.underlying29)) ?_
             refine aP 2 (.d (.int .i64 i4)) rfl p_move ?_
             refine aP 3 (.lptr (e_Li64 e147) 0) rfl (k_idxLit e_Li64_len s0 (a := e147) (k := .i64) (i := i4) (hu := Try.underlying29) (hi := ty22) (h0 := h194) (he := h195)) ?_
             refine aQ 4 [] (.d (.lit (List.map e_i64 e147))) rfl (k_loadL (cells := e_Li64 e147) 0 (hu := Try.underlying22)) ?_
             refine aP 5 (.d (.int .i64 k128)) rfl p_move ?_
             refine dIdx (fun e12 h14 h15 => ?_)
             refine aP 6 (.lptr (e_i64 e12) 0) rfl (k_idxLit e_i64_len e147 (a := e12) (k := .i64) (i := k128) (hu := Try.underlying22) (hi := ty3) (h0 := h14) (he := h15)) ?_
             refine aQ 7 [] (.d (.int .i64 e12)) rfl (k_loadL (cells := e_i64 e12) 0 (hu := Try.underlying3)) ?_
             refine aP 8 (.d (.bool (decide (e12 < 0)))) rfl (p_int (k := .i64) (p := e12) (q := 0)) ?_
             refine aP 9 (.d (.bool (decide (e12 < 0)))) rfl p_move ?_
             refine dMeet [25, 24, 23, 22, 21, 20, 19, 18, 17, 16, 15, 14, 13, 12, 11, 10, 9, 8, 7, 6, 5, 4, 3, 2, 1, 0] (fun (x358 : Bool) => [(2, .ptr 0 0), (3, .ptr 1 0), (5, .d (.int .i64 ((List.length p2) : Int))), (6, .d (.int .i64 i4)), (7, .d (.int .i64 k128)), (82, .d (.bool x358))]) (fun (x358 : Bool) => [(2, .ptr 0 0), (3, .ptr 1 0), (5, .d (.int .i64 ((List.length p2) : Int))), (6, .d (.int .i64 i4)), (7, .d (.int .i64 k128)), (82, .d (.bool x358))]) (fun _ => [.box [.d (.int .i64 p0), .d (.int .i64 p1), .d (.lit (List.map e_SPart p2))], .box [.d (.lit (List.map e_Li64 s0)), .d (.lit (List.map e_i64 s1))]]) (fun s => s) (fun x358 => ?_) (fun hj204 => ?_)
             ·refine aP 26 (.d (.bool x358)) rfl p_move ?_
              refine dMeet [49, 48, 47, 46, 45, 44, 43, 42, 41, 40, 39, 38, 37, 36, 35, 34, 33, 32, 31, 30, 29, 28, 27, 26, 25, 24, 23, 22, 21, 20, 19, 18, 17, 16, 15, 14, 13, 12, 11, 10, 9, 8, 7, 6, 5, 4, 3, 2, 1, 0] (fun (x360 : Bool) => [(2, .ptr 0 0), (3, .ptr 1 0), (5, .d (.int .i64 ((List.length p2) : Int))), (6, .d (.int .i64 i4)), (7, .d (.int .i64 k128)), (106, .d (.bool x360))]) (fun (x360 : Bool) => [(2, .ptr 0 0), (3, .ptr 1 0), (5, .d (.int .i64 ((List.length p2) : Int))), (6, .d (.int .i64 i4)), (7, .d (.int .i64 k128)), (106, .d (.bool x360))]) (fun _ => [.box [.d (.int .i64 p0), .d (.int .i64 p1), .d (.lit (List.map e_SPart p2))], .box [.d (.lit (List.map e_Li64 s0)), .d (.lit (List.map e_i64 s1))]]) (fun s => s) (fun x360 => ?_) (fun hj206 => ?_)
              ·refine aDone (h := ?_)
               refine bSplit 106 (h1 := fun hc => ?_) (h2 := fun hc => ?_)
               ·refine oCondT (h := ?_)
                refine oSR rfl ?_
                refine oP (.d (.bool false)) p_assign ?_
                refine oEnd ?_
                exact oRet (r0 := false) (rv := .d (.bool false)) (B := []) (vs := [.d (.bool false)]) (σ := []) (hf := Try.func31) (hrs := rfl) (hres := .cons _ _ _ _ (.tmp 4 _ (by kernel_rfl)) .nil) (hnd := by decide)
               ·refine oCondF (h := ?_)
                refine oSkip ?_
                refine oBlk ?_
                refine oRegion rfl ?_
                refine oP (.d (.int .i64 k128)) p_move ?_
                refine oP (.d (.int .i64 (IntKind.wrap .i64 (k128 + 1)))) (p_int (k := .i64) (p := k128) (q := 1)) ?_
                refine oP (.d (.int .i64 (IntKind.wrap .i64 (k128 + 1)))) p_assign ?_
                refine oEnd ?_
                refine oAgain ?_
                refine oHead [2, 3, 5, 6, 7] [0, 1] (T' := [(2, .ptr 0 0), (3, .ptr 1 0), (5, .d (.int .i64 ((List.length p2) : Int))), (6, .d (.int .i64 i4)), (7, .d (.int .i64 (IntKind.wrap .i64 (k128 + 1))))]) (H' := [.box [.d (.int .i64 p0), .d (.int .i64 p1), .d (.lit (List.map e_SPart p2))], .box [.d (.lit (List.map e_Li64 s0)), .d (.lit (List.map e_i64 s1))]]) (hnd := by decide) (h := ?_)
                exact hag2 (IntKind.wrap .i64 (k128 + 1))
              ·refine dSplit 83 (h1 := fun hc => ?_) (h2 := fun hc => ?_)
               ·refine aTakeNot (i := 27) rfl (h := ?_)
                refine aTakeNot (i := 28) rfl (h := ?_)
                refine aTakeNot (i := 29) rfl (h := ?_)
                refine aTakeNot (i := 30) rfl (h := ?_)
                refine aTakeNot (i := 31) rfl (h := ?_)
                refine aTakeNot (i := 32) rfl (h := ?_)
                refine aTakeNot (i := 33) rfl (h := ?_)
                refine aTakeNot (i := 34) rfl (h := ?_)
                refine aTakeNot (i := 35) rfl (h := ?_)
                refine aTakeNot (i := 36) rfl (h := ?_)
                refine aTakeNot (i := 37) rfl (h := ?_)
                refine aTakeNot (i := 38) rfl (h := ?_)
                refine aTakeNot (i := 39) rfl (h := ?_)
                refine aTakeNot (i := 40) rfl (h := ?_)
                refine aTakeNot (i := 41) rfl (h := ?_)
                refine aTakeNot (i := 42) rfl (h := ?_)
                refine aTakeNot (i := 43) rfl (h := ?_)
                refine aTakeNot (i := 44) rfl (h := ?_)
                refine aTakeNot (i := 45) rfl (h := ?_)
                refine aTakeNot (i := 46) rfl (h := ?_)
                refine aTakeNot (i := 47) rfl (h := ?_)
                refine aTakeNot (i := 48) rfl (h := ?_)
                refine aP 49 (.d (.bool true)) rfl (p_pick (b := true)) ?_
                refine dDrop [2, 3, 5, 6, 7, 106] [2, 3, 5, 6, 7, 106] (T' := [(2, .ptr 0 0), (3, .ptr 1 0), (5, .d (.int .i64 ((List.length p2) : Int))), (6, .d (.int .i64 i4)), (7, .d (.int .i64 k128)), (106, .d (.bool true))]) (U' := [(2, .ptr 0 0), (3, .ptr 1 0), (5, .d (.int .i64 ((List.length p2) : Int))), (6, .d (.int .i64 i4)), (7, .d (.int .i64 k128)), (106, .d (.bool true))]) (h := ?_)
                exact hj206 true
               ·refine aP 27 (.d (.int .i64 k128)) rfl p_move ?_
                refine aP 28 (.d (.bool (decide (k128 > 0)))) rfl (p_int (k := .i64) (p := k128) (q := 0)) ?_
                refine aP 29 (.d (.bool (decide (k128 > 0)))) rfl p_move ?_
                refine dMeet [48, 47, 46, 45, 44, 43, 42, 41, 40, 39, 38, 37, 36, 35, 34, 33, 32, 31, 30, 29, 28, 27, 26, 25, 24, 23, 22, 21, 20, 19, 18, 17, 16, 15, 14, 13, 12, 11, 10, 9, 8, 7, 6, 5, 4, 3, 2, 1, 0] (fun (x361 : Bool) => [(2, .ptr 0 0), (3, .ptr 1 0), (5, .d (.int .i64 ((List.length p2) : Int))), (6, .d (.int .i64 i4)), (7, .d (.int .i64 k128)), (83, .d (.bool false)), (105, .d (.bool x361))]) (fun (x361 : Bool) => [(2, .ptr 0 0), (3, .ptr 1 0), (5, .d (.int .i64 ((List.length p2) : Int))), (6, .d (.int .i64 i4)), (7, .d (.int .i64 k128)), (83, .d (.bool false)), (105, .d (.bool x361))]) (fun _ => [.box [.d (.int .i64 p0), .d (.int .i64 p1), .d (.lit (List.map e_SPart p2))], .box [.d (.lit (List.map e_Li64 s0)), .d (.lit (List.map e_i64 s1))]]) (fun s => s) (fun x361 => ?_) (fun hj207 => ?_)
                ·refine aP 49 (.d (.bool x361)) rfl (p_pick (b := false)) ?_
                 refine dDrop [2, 3, 5, 6, 7, 106] [2, 3, 5, 6, 7, 106] (T' := [(2, .ptr 0 0), (3, .ptr 1 0), (5, .d (.int .i64 ((List.length p2) : Int))), (6, .d (.int .i64 i4)), (7, .d (.int .i64 k128)), (106, .d (.bool x361))]) (U' := [(2, .ptr 0 0), (3, .ptr 1 0), (5, .d (.int .i64 ((List.length p2) : Int))), (6, .d (.int .i64 i4)), (7, .d (.int .i64 k128)), (106, .d (.bool x361))]) (h := ?_)
                 exact hj206 x361
                ·refine dSplit 86 (h1 := fun hc => ?_) (h2 := fun hc => ?_)
                 ·refine aP 30 (.ptr 1 0) rfl (k_fieldAddr 1 0 (hu := Try.underlying31) (hf := rfl) (hi := ty29)) ?_
                  refine aQ 31 [1] (.d (.lit (List.map e_Li64 s0))) rfl (k_load 1 0 (hu := Try.underlying29)) ?_
                  refine aP 32 (.d (.int .i64 i4)) rfl p_move ?_
                  refine aP 33 (.lptr (e_Li64 e147) 0) rfl (k_idxLit e_Li64_len s0 (a := e147) (k := .i64) (i := i4) (hu := Try.underlying29) (hi := ty22) (h0 := h194) (he := h195)) ?_
                  refine aQ 34 [] (.d (.lit (List.map e_i64 e147))) rfl (k_loadL (cells := e_Li64 e147) 0 (hu := Try.underlying22)) ?_
                  refine aP 35 (.d (.int .i64 k128)) rfl p_move ?_
                  refine aP 36 (.d (.int .i64 (IntKind.wrap .i64 (k128 - 1)))) rfl (p_int (k := .i64) (p := k128) (q := 1)) ?_
                  refine dIdx (fun e15 h110 h111 => ?_)
                  refine aP 37 (.lptr (e_i64 e15) 0) rfl (k_idxLit e_i64_len e147 (a := e15) (k := .i64) (i := (IntKind.wrap .i64 (k128 - 1))) (hu := Try.underlying22) (hi := ty3) (h0 := h110) (he := h111)) ?_
                  refine aQ 38 [] (.d (.int .i64 e15)) rfl (k_loadL (cells := e_i64 e15) 0 (hu := Try.underlying3)) ?_
                  refine aP 39 (.ptr 1 0) rfl (k_fieldAddr 1 0 (hu := Try.underlying31) (hf := rfl) (hi := ty29)) ?_
                  refine aQ 40 [1] (.d (.lit (List.map e_Li64 s0))) rfl (k_load 1 0 (hu := Try.underlying29)) ?_
                  refine aP 41 (.d (.int .i64 i4)) rfl p_move ?_
                  refine aP 42 (.lptr (e_Li64 e147) 0) rfl (k_idxLit e_Li64_len s0 (a := e147) (k := .i64) (i := i4) (hu := Try.underlying29) (hi := ty22) (h0 := h194) (he := h195)) ?_
                  refine aQ 43 [] (.d (.lit (List.map e_i64 e147))) rfl (k_loadL (cells := e_Li64 e147) 0 (hu := Try.underlying22)) ?_
                  refine aP 44 (.d (.int .i64 k128)) rfl p_move ?_
                  refine aP 45 (.lptr (e_i64 e12) 0) rfl (k_idxLit e_i64_len e147 (a := e12) (k := .i64) (i := k128) (hu := Try.underlying22) (hi := ty3) (h0 := h14) (he := h15)) ?_
                  refine aQ 46 [] (.d (.int .i64 e12)) rfl (k_loadL (cells := e_i64 e12) 0 (hu := Try.underlying3)) ?_
                  refine aP 47 (.d (.bool (decide (e15 ≥ e12)))) rfl (p_int (k := .i64) (p := e15) (q := e12)) ?_
                  refine aP 48 (.d (.bool (decide (e15 ≥ e12)))) rfl (p_pick (b := true)) ?_
                  refine dDrop [2, 3, 5, 6, 7, 83, 105] [2, 3, 5, 6, 7, 83, 105] (T' := [(2, .ptr 0 0), (3, .ptr 1 0), (5, .d (.int .i64 ((List.length p2) : Int))), (6, .d (.int .i64 i4)), (7, .d (.int .i64 k128)), (83, .d (.bool false)), (105, .d (.bool (decide (e15 ≥ e12))))]) (U' := [(2, .ptr 0 0), (3, .ptr 1 0), (5, .d (.int .i64 ((List.length p2) : Int))), (6, .d (.int .i64 i4)), (7, .d (.int .i64 k128)), (83, .d (.bool false)), (105, .d (.bool (decide (e15 ≥ e12))))]) (h := ?_)
                  exact hj207 (decide (e15 ≥ e12))
                 ·refine aTakeNot (i := 30) rfl (h := ?_)
                  refine aTakeNot (i := 31) rfl (h := ?_)
                  refine aTakeNot (i := 32) rfl (h := ?_)
                  refine aTakeNot (i := 33) rfl (h := ?_)
                  refine aTakeNot (i := 34) rfl (h := ?_)
                  refine aTakeNot (i := 35) rfl (h := ?_)
                  refine aTakeNot (i := 36) rfl (h := ?_)
                  refine aTakeNot (i := 37) rfl (h := ?_)
                  refine aTakeNot (i := 38) rfl (h := ?_)
                  refine aTakeNot (i := 39) rfl (h := ?_)
                  refine aTakeNot (i := 40) rfl (h := ?_)
                  refine aTakeNot (i := 41) rfl (h := ?_)
                  refine aTakeNot (i := 42) rfl (h := ?_)
                  refine aTakeNot (i := 43) rfl (h := ?_)
                  refine aTakeNot (i := 44) rfl (h := ?_)
                  refine aTakeNot (i := 45) rfl (h := ?_)
                  refine aTakeNot (i := 46) rfl (h := ?_)
                  refine aTakeNot (i := 47) rfl (h := ?_)
                  refine aP 48 (.d (.bool false)) rfl (p_pick (b := false)) ?_
                  refine dDrop [2, 3, 5, 6, 7, 83, 105] [2, 3, 5, 6, 7, 83, 105] (T' := [(2, .ptr 0 0), (3, .ptr 1 0), (5, .d (.int .i64 ((List.length p2) : Int))), (6, .d (.int .i64 i4)), (7, .d (.int .i64 k128)), (83, .d (.bool false)), (105, .d (.bool false))]) (U' := [(2, .ptr 0 0), (3, .ptr 1 0), (5, .d (.int .i64 ((List.length p2) : Int))), (6, .d (.int .i64 i4)), (7, .d (.int .i64 k128)), (83, .d (.bool false)), (105, .d (.bool false))]) (h := ?_)
                  exact hj207 false
             ·refine dSplit 66 (h1 := fun hc => ?_) (h2 := fun hc => ?_)
              ·refine aTakeNot (i := 10) rfl (h := ?_)
               refine aTakeNot (i := 11) rfl (h := ?_)
               refine aTakeNot (i := 12) rfl (h := ?_)
               refine aTakeNot (i := 13) rfl (h := ?_)
               refine aTakeNot (i := 14) rfl (h := ?_)
               refine aTakeNot (i := 15) rfl (h := ?_)
               refine aTakeNot (i := 16) rfl (h := ?_)
               refine aTakeNot (i := 17) rfl (h := ?_)
               refine aTakeNot (i := 18) rfl (h := ?_)
               refine aTakeNot (i := 19) rfl (h := ?_)
               refine aTakeNot (i := 20) rfl (h := ?_)
               refine aTakeNot (i := 21) rfl (h := ?_)
               refine aTakeNot (i := 22) rfl (h := ?_)
               refine aTakeNot (i := 23) rfl (h := ?_)
               refine aTakeNot (i := 24) rfl (h := ?_)
               refine aP 25 (.d (.bool true)) rfl (p_pick (b := true)) ?_
               refine dDrop [2, 3, 5, 6, 7, 82] [2, 3, 5, 6, 7, 82] (T' := [(2, .ptr 0 0), (3, .ptr 1 0), (5, .d (.int .i64 ((List.length p2) : Int))), (6, .d (.int .i64 i4)), (7, .d (.int .i64 k128)), (82, .d (.bool true))]) (U' := [(2, .ptr 0 0), (3, .ptr 1 0), (5, .d (.int .i64 ((List.length p2) : Int))), (6, .d (.int .i64 i4)), (7, .d (.int .i64 k128)), (82, .d (.bool true))]) (h := ?_)
               exact hj204 true
              ·refine aP 10 (.ptr 1 0) rfl (k_fieldAddr 1 0 (hu := Try.underlying31) (hf := rfl) (hi := ty29)) ?_
               refine aQ 11 [1] (.d (.lit (List.map e_Li64 s0))) rfl (k_load 1 0 (hu := Try.underlying29)) ?_
               refine aP 12 (.d (.int .i64 i4)) rfl p_move ?_
               refine aP 13 (.lptr (e_Li64 e147) 0) rfl (k_idxLit e_Li64_len s0 (a := e147) (k := .i64) (i := i4) (hu := Try.underlying29) (hi := ty22) (h0 := h194) (he := h195)) ?_
               refine aQ 14 [] (.d (.lit (List.map e_i64 e147))) rfl (k_loadL (cells := e_Li64 e147) 0 (hu := Try.underlying22)) ?_
               refine aP 15 (.d (.int .i64 k128)) rfl p_move ?_
               refine aP 16 (.lptr (e_i64 e12) 0) rfl (k_idxLit e_i64_len e147 (a := e12) (k := .i64) (i := k128) (hu := Try.underlying22) (hi := ty3) (h0 := h14) (he := h15)) ?_
               refine aQ 17 [] (.d (.int .i64 e12)) rfl (k_loadL (cells := e_i64 e12) 0 (hu := Try.underlying3)) ?_
               refine aP 18 (.ptr 0 2) rfl (k_fieldAddr 0 0 (hu := Try.underlying27) (hf := rfl) (hi := ty25)) ?_
               refine aQ 19 [0] (.d (.lit (List.map e_SPart p2))) rfl (k_load 0 2 (hu := Try.underlying25)) ?_
               refine aP 20 (.d (.int .i64 i4)) rfl p_move ?_
               refine dIdx (fun e13 h16 h17 => ?_)
               refine aP 21 (.lptr (e_SPart e13) 0) rfl (k_idxLit e_SPart_len p2 (a := e13) (k := .i64) (i := i4) (hu := Try.underlying25) (hi := ty49) (h0 := h16) (he := h17)) ?_
               refine aP 22 (.lptr (e_SPart e13) 4) rfl (k_fieldAddrL (cells := e_SPart e13) 0 (hu := Try.underlying49) (hf := rfl) (hi := ty3)) ?_
               refine aQ 23 [] (.d (.int .i64 e13.Options)) rfl (k_loadL (cells := e_SPart e13) 4 (hu := Try.underlying3)) ?_
               refine aP 24 (.d (.bool (decide (e12 ≥ e13.Options)))) rfl (p_int (k := .i64) (p := e12) (q := e13.Options)) ?_
               refine aP 25 (.d (.bool (decide (e12 ≥ e13.Options)))) rfl (p_pick (b := false)) ?_
               refine dDrop [2, 3, 5, 6, 7, 82] [2, 3, 5, 6, 7, 82] (T' := [(2, .ptr 0 0), (3, .ptr 1 0), (5, .d (.int .i64 ((List.length p2) : Int))), (6, .d (.int .i64 i4)), (7, .d (.int .i64 k128)), (82, .d (.bool (decide (e12 ≥ e13.Options))))]) (U' := [(2, .ptr 0 0), (3, .ptr 1 0), (5, .d (.int .i64 ((List.length p2) : Int))), (6, .d (.int .i64 i4)), (7, .d (.int .i64 k128)), (82, .d (.bool (decide (e12 ≥ e13.Options))))]) (h := ?_)
               exact hj204 (decide (e12 ≥ e13.Options))
            ·refine oCondF (h := ?_)
             refine oExit rfl ?_
             refine oHead [2, 3, 5, 6] [0, 1] (T' := [(2, .ptr 0 0), (3, .ptr 1 0), (5, .d (.int .i64 ((List.length p2) : Int))), (6, .d (.int .i64 i4))]) (H' := [.box [.d (.int .i64 p0), .d (.int .i64 p1), .d (.lit (List.map e_SPart p2))], .box [.d (.lit (List.map e_Li64 s0)), .d (.lit (List.map e_i64 s1))]]) (hnd := by decide) (h := ?_)
             exact hj187 ()
        ·refine bPickF 39 (fun c => F (c || (decide (e142 > 2)))) (h1 := fun hc => ?_) (h2 := fun hc => ?_)
         ·refine oNot (h := ?_)
          refine oNot (h := ?_)
          refine oNot (h := ?_)
          refine oNot (h := ?_)
          refine oNot (h := ?_)
          refine oNot (h := ?_)
          refine oP (.d (.bool true)) (p_pick (b := true)) ?_
          refine oHead [2, 3, 5, 6, 46] [0, 1] (T' := [(2, .ptr 0 0), (3, .ptr 1 0), (5, .d (.int .i64 ((List.length p2) : Int))), (6, .d (.int .i64 i4)), (46, .d (.bool true))]) (H' := [.box [.d (.int .i64 p0), .d (.int .i64 p1), .d (.lit (List.map e_SPart p2))], .box [.d (.lit (List.map e_Li64 s0)), .d (.lit (List.map e_i64 s1))]]) (hnd := by decide) (h := ?_)
          exact hj174 true
         ·refine oP (.ptr 1 1) (k_fieldAddr 1 0 (hu := Try.underlying31) (hf := rfl) (hi := ty22)) ?_
          refine oQ (.d (.lit (List.map e_i64 s1))) (k_load 1 1 (hu := Try.underlying22)) ?_
          refine oP (.d (.int .i64 i4)) p_move ?_
          refine oP (.lptr (e_i64 e142) 0) (k_idxLit e_i64_len s1 (a := e142) (k := .i64) (i := i4) (hu := Try.underlying22) (hi := ty3) (h0 := h184) (he := h185)) ?_
          refine oQ (.d (.int .i64 e142)) (k_loadL (cells := e_i64 e142) 0 (hu := Try.underlying3)) ?_
          refine oP (.d (.bool (decide (e142 > 2)))) (p_int (k := .i64) (p := e142) (q := 2)) ?_
          refine oP (.d (.bool (decide (e142 > 2)))) (p_pick (b := false)) ?_
          refine oHead [2, 3, 5, 6, 46] [0, 1] (T' := [(2, .ptr 0 0), (3, .ptr 1 0), (5, .d (.int .i64 ((List.length p2) : Int))), (6, .d (.int .i64 i4)), (46, .d (.bool (decide (e142 > 2))))]) (H' := [.box [.d (.int .i64 p0), .d (.int .i64 p1), .d (.lit (List.map e_SPart p2))], .box [.d (.lit (List.map e_Li64 s0)), .d (.lit (List.map e_i64 s1))]]) (hnd := by decide) (h := ?_)
          exact hj174 (decide (e142 > 2))
       ·refine oCondF (h := ?_)
        refine oExit rfl ?_
        refine oHead [] [] (T' := []) (H' := []) (hnd := by decide) (h := ?_)
        exact hj108 ()
   ·refine bPickF 21 (fun c => F (c || (((List.length s1) : Int) != ((List.length p2) : Int)))) (h1 := fun hc => ?_) (h2 := fun hc => ?_)
    ·refine oNot (h := ?_)
     refine oNot (h := ?_)
     refine oNot (h := ?_)
     refine oNot (h := ?_)
     refine oNot (h := ?_)
     refine oP (.d (.bool true)) (p_pick (b := true)) ?_
     refine oHead [2, 3, 5, 27] [0, 1] (T' := [(2, .ptr 0 0), (3, .ptr 1 0), (5, .d (.int .i64 ((List.length p2) : Int))), (27, .d (.bool true))]) (H' := [.box [.d (.int .i64 p0), .d (.int .i64 p1), .d (.lit (List.map e_SPart p2))], .box [.d (.lit (List.map e_Li64 s0)), .d (.lit (List.map e_i64 s1))]]) (hnd := by decide) (h := ?_)
     exact hj55 true
    ·refine oP (.ptr 1 1) (k_fieldAddr 1 0 (hu := Try.underlying31) (hf := rfl) (hi := ty22)) ?_
     refine oQ (.d (.lit (List.map e_i64 s1))) (k_load 1 1 (hu := Try.underlying22)) ?_
     refine oP (.d (.int .i64 ((List.length s1) : Int))) (k_lenLit (enc := e_i64) s1 (hu := Try.underlying22)) ?_
     refine oP (.d (.int .i64 ((List.length p2) : Int))) p_move ?_
     refine oP (.d (.bool (((List.length s1) : Int) != ((List.length p2) : Int)))) (p_int (k := .i64) (p := ((List.length s1) : Int)) (q := ((List.length p2) : Int))) ?_
     refine oP (.d (.bool (((List.length s1) : Int) != ((List.length p2) : Int)))) (p_pick (b := false)) ?_
     refine oHead [2, 3, 5, 27] [0, 1] (T' := [(2, .ptr 0 0), (3, .ptr 1 0), (5, .d (.int .i64 ((List.length p2) : Int))), (27, .d (.bool (((List.length s1) : Int) != ((List.length p2) : Int))))]) (H' := [.box [.d (.int .i64 p0), .d (.int .i64 p1), .d (.lit (List.map e_SPart p2))], .box [.d (.lit (List.map e_Li64 s0)), .d (.lit (List.map e_i64 s1))]]) (hnd := by decide) (h := ?_)
     exact hj55 (((List.length s1) : Int) != ((List.length p2) : Int))
  ·refine bPickF 14 (fun c => F (c || (((List.length s0) : Int) != ((List.length p2) : Int)))) (h1 := fun hc => ?_) (h2 := fun hc => ?_)
   ·refine oNot (h := ?_)
    refine oNot (h := ?_)
    refine oNot (h := ?_)
    refine oNot (h := ?_)
    refine oNot (h := ?_)
    refine oP (.d (.bool true)) (p_pick (b := true)) ?_
    refine oHead [2, 3, 5, 20] [0, 1] (T' := [(2, .ptr 0 0), (3, .ptr 1 0), (5, .d (.int .i64 ((List.length p2) : Int))), (20, .d (.bool true))]) (H' := [.box [.d (.int .i64 p0), .d (.int .i64 p1), .d (.lit (List.map e_SPart p2))], .box [.d (.lit (List.map e_Li64 s0)), .d (.lit (List.map e_i64 s1))]]) (hnd := by decide) (h := ?_)
    exact hj54 true
   ·refine oP (.ptr 1 0) (k_fieldAddr 1 0 (hu := Try.underlying31) (hf := rfl) (hi := ty29)) ?_
    refine oQ (.d (.lit (List.map e_Li64 s0))) (k_load 1 0 (hu := Try.underlying29)) ?_
    refine oP (.d (.int .i64 ((List.length s0) : Int))) (k_lenLit (enc := e_Li64) s0 (hu := Try.underlying29)) ?_
    refine oP (.d (.int .i64 ((List.length p2) : Int))) p_move ?_
    refine oP (.d (.bool (((List.length s0) : Int) != ((List.length p2) : Int)))) (p_int (k := .i64) (p := ((List.length s0) : Int)) (q := ((List.length p2) : Int))) ?_
    refine oP (.d (.bool (((List.length s0) : Int) != ((List.length p2) : Int)))) (p_pick (b := false)) ?_
    refine oHead [2, 3, 5, 20] [0, 1] (T' := [(2, .ptr 0 0), (3, .ptr 1 0), (5, .d (.int .i64 ((List.length p2) : Int))), (20, .d (.bool (((List.length s0) : Int) != ((List.length p2) : Int))))]) (H' := [.box [.d (.int .i64 p0), .d (.int .i64 p1), .d (.lit (List.map e_SPart p2))], .box [.d (.lit (List.map e_Li64 s0)), .d (.lit (List.map e_i64 s1))]]) (hnd := by decide) (h := ?_)
    exact hj54 (((List.length s0) : Int) != ((List.length p2) : Int))

end Go.VM
