/- Plain functions that answer as the program's functions do, and the proof that they do. -/
import Derived.Test.YtdpoilkjdfnadaaProg
import Derived.KernelRfl
import Derived.Test.YtdpoilkjdfnadaaEngDeepCM
import Derived.Test.YtdpoilkjdfnadaaToFacts
import Derived.Test.YtdpoilkjdfnadaaToFuns2
namespace Go.VM
open Go.Proofs
set_option linter.unusedVariables false
set_option linter.unusedSimpArgs false
set_option maxRecDepth 100000
/-- awardingbody/awardingbodyref06.ValidPaper -/
def ref06_ValidPaper_b1 (k : Nat) (p2 : (List SPart)) (again : Int × Int → Option ((Int) ⊕ (Bool))) : Int × Int → Option ((Int) ⊕ (Bool)) := uc fun sum6 => fun i4 => bif (decide (i4 < ((List.length p2) : Int))) then gidx p2 i4 fun e113 => Option.bind (ref06_ValidPart k e113.Kind e113.Max e113.Topic e113.Objective e113.Options e113.Key) (fun r114 => bif (!r114) then some (Sum.inr false) else again ((IntKind.wrap .i64 (sum6 + e113.Max)), (IntKind.wrap .i64 (i4 + 1)))) else some (Sum.inl sum6)
def ref06_ValidPaper (k : Nat) (p0 : Int) (p1 : Int) (p2 : (List SPart)) : Option (Bool) := blet ((decide (p0 < 0)) || (decide (p0 > 31))) fun x5 => blet (x5 || (decide (p1 < 0))) fun x6 => blet (x6 || (decide (p1 ≥ 4))) fun x7 => blet (x7 || (decide (((List.length p2) : Int) < 1))) fun x8 => blet (x8 || (decide (((List.length p2) : Int) > 24))) fun x9 => bif x9 then some false else Option.bind (gloop (ref06_ValidPaper_b1 k p2) k (0, 0) : Option ((Int) ⊕ (Bool))) (Sum.elim (fun sum5 => some (decide (sum5 ≤ 200))) (fun r => some r))
def ref06_ValidPaper_E (p0 : Int) (p1 : Int) (p2 : (List SPart)) : Bool → V × List Blk := fun r14 => (.d (.bool r14), [])
theorem ref06_ValidPaper_goes (k : Nat) (p0 : Int) (p1 : Int) (p2 : (List SPart)) : RunsO Try.prog 54 [.agg [.d (.int .i64 p0), .d (.int .i64 p1), .d (.lit (List.map e_SPart p2))]] [] (ref06_ValidPaper_E p0 p1 p2) (ref06_ValidPaper k p0 p1 p2) := by
  refine RunsO.of_goes (N := 59) (m := 0) (T := [(0, .agg [.d (.int .i64 p0), .d (.int .i64 p1), .d (.lit (List.map e_SPart p2))])]) Try.func54 rfl rfl (h := ?_)
  unfold ref06_ValidPaper
  refine bStart ?_
  refine oSR rfl ?_
  refine oD (.ptr 0 0) (k_box (H' := [.box [.d (.int .i64 p0), .d (.int .i64 p1), .d (.lit (List.map e_SPart p2))]]) (cells := [.d (.int .i64 p0), .d (.int .i64 p1), .d (.lit (List.map e_SPart p2))])) ?_
  refine oP (.d (.bool false)) p_assign ?_
  refine oEnd ?_
  refine oSeq ?_
  refine oSR rfl ?_
  refine oP (.ptr 0 0) (k_fieldAddr 0 0 (hu := Try.underlying27) (hf := rfl) (hi := ty3)) ?_
  refine oQ (.d (.int .i64 p0)) (k_load 0 0 (hu := Try.underlying3)) ?_
  refine oP (.d (.bool (decide (p0 < 0)))) (p_int (k := .i64) (p := p0) (q := 0)) ?_
  refine oP (.d (.bool (decide (p0 < 0)))) p_move ?_
  refine bMeetF (H' := [.box [.d (.int .i64 p0), .d (.int .i64 p1), .d (.lit (List.map e_SPart p2))]]) 4 rfl ((fun (x5 : Bool) => [(1, .ptr 0 0), (12, .d (.bool x5))])) (fun x5 => ?_) (fun F hj2 => ?_)
  ·refine oView (T' := [(1, .ptr 0 0), (12, .d (.bool x5))]) (H' := [.box [.d (.int .i64 p0), .d (.int .i64 p1), .d (.lit (List.map e_SPart p2))]]) (h := ?_)
   refine oP (.d (.bool x5)) p_move ?_
   refine bMeetF (H' := [.box [.d (.int .i64 p0), .d (.int .i64 p1), .d (.lit (List.map e_SPart p2))]]) 4 rfl ((fun (x6 : Bool) => [(1, .ptr 0 0), (17, .d (.bool x6))])) (fun x6 => ?_) (fun F hj3 => ?_)
   ·refine oView (T' := [(1, .ptr 0 0), (17, .d (.bool x6))]) (H' := [.box [.d (.int .i64 p0), .d (.int .i64 p1), .d (.lit (List.map e_SPart p2))]]) (h := ?_)
    refine oP (.d (.bool x6)) p_move ?_
    refine bMeetF (H' := [.box [.d (.int .i64 p0), .d (.int .i64 p1), .d (.lit (List.map e_SPart p2))]]) 4 rfl ((fun (x7 : Bool) => [(1, .ptr 0 0), (22, .d (.bool x7))])) (fun x7 => ?_) (fun F hj4 => ?_)
    ·refine oView (T' := [(1, .ptr 0 0), (22, .d (.bool x7))]) (H' := [.box [.d (.int .i64 p0), .d (.int .i64 p1), .d (.lit (List.map e_SPart p2))]]) (h := ?_)
     refine oP (.d (.bool x7)) p_move ?_
     refine bMeetF (H' := [.box [.d (.int .i64 p0), .d (.int .i64 p1), .d (.lit (List.map e_SPart p2))]]) 5 rfl ((fun (x8 : Bool) => [(1, .ptr 0 0), (28, .d (.bool x8))])) (fun x8 => ?_) (fun F hj5 => ?_)
     ·refine oView (T' := [(1, .ptr 0 0), (28, .d (.bool x8))]) (H' := [.box [.d (.int .i64 p0), .d (.int .i64 p1), .d (.lit (List.map e_SPart p2))]]) (h := ?_)
      refine oP (.d (.bool x8)) p_move ?_
      refine bMeetF (H' := [.box [.d (.int .i64 p0), .d (.int .i64 p1), .d (.lit (List.map e_SPart p2))]]) 5 rfl ((fun (x9 : Bool) => [(1, .ptr 0 0), (34, .d (.bool x9))])) (fun x9 => ?_) (fun F hj6 => ?_)
      ·refine oView (T' := [(1, .ptr 0 0), (34, .d (.bool x9))]) (H' := [.box [.d (.int .i64 p0), .d (.int .i64 p1), .d (.lit (List.map e_SPart p2))]]) (h := ?_)
       refine oEnd ?_
       refine bSplit 34 (h1 := fun hc => ?_) (h2 := fun hc => ?_)
       ·refine oCondT (h := ?_)
        refine oSR rfl ?_
        refine oP (.d (.bool false)) p_assign ?_
        refine oEnd ?_
        exact oRet (r0 := false) (rv := .d (.bool false)) (B := []) (vs := [.d (.bool false)]) (σ := []) (hf := Try.func54) (hrs := rfl) (hres := .cons _ _ _ _ (.tmp 2 _ (by kernel_rfl)) .nil) (hnd := by decide)
       ·refine oCondF (h := ?_)
        refine oSkip ?_
        refine oSR rfl ?_
        refine oP (.d (.int .i64 0)) p_assign ?_
        refine oEnd ?_
        refine oSeq ?_
        refine oSR rfl ?_
        refine oP (.d (.int .i64 0)) p_assign ?_
        refine oEnd ?_
        refine bJoin ((fun (sum5 : Int) => [(3, .d (.int .i64 sum5))])) ((fun (sum5 : Int) => [])) Sum.inl (fun sum5 => ?_) (fun hj7 => ?_)
        ·refine bInl ?_
         refine oView (T' := [(3, .d (.int .i64 sum5))]) (H' := []) (h := ?_)
         refine oSR rfl ?_
         refine oP (.d (.int .i64 sum5)) p_move ?_
         refine oP (.d (.bool (decide (sum5 ≤ 200)))) (p_int (k := .i64) (p := sum5) (q := 200)) ?_
         refine oP (.d (.bool (decide (sum5 ≤ 200)))) p_assign ?_
         refine oEnd ?_
         exact oRet (r0 := (decide (sum5 ≤ 200))) (rv := .d (.bool (decide (sum5 ≤ 200)))) (B := []) (vs := [.d (.bool (decide (sum5 ≤ 200)))]) (σ := []) (hf := Try.func54) (hrs := rfl) (hres := .cons _ _ _ _ (.tmp 2 _ (by kernel_rfl)) .nil) (hnd := by decide)
        ·refine oBlock ?_
         refine oLoop ?_
         refine oHead [1, 3, 4] [0] (T' := [(1, .ptr 0 0), (3, .d (.int .i64 0)), (4, .d (.int .i64 0))]) (H' := [.box [.d (.int .i64 p0), .d (.int .i64 p1), .d (.lit (List.map e_SPart p2))]]) (hnd := by decide) (h := ?_)
         refine bLoop (body := ref06_ValidPaper_b1 k p2) ((uc fun (sum6 : Int) => (fun (i4 : Int) => [(1, .ptr 0 0), (3, .d (.int .i64 sum6)), (4, .d (.int .i64 i4))]))) ((uc fun (sum6 : Int) => (fun (i4 : Int) => [.box [.d (.int .i64 p0), .d (.int .i64 p1), .d (.lit (List.map e_SPart p2))]]))) (fun again hag1 s => ?_) k (0, 0)
         ·unfold ref06_ValidPaper_b1
          obtain ⟨sum6, i4⟩ := s
          refine bUc ?_
          refine oView (T' := [(1, .ptr 0 0), (3, .d (.int .i64 sum6)), (4, .d (.int .i64 i4))]) (H' := [.box [.d (.int .i64 p0), .d (.int .i64 p1), .d (.lit (List.map e_SPart p2))]]) (h := ?_)
          refine oSeq ?_
          refine oSR rfl ?_
          refine oP (.d (.int .i64 i4)) p_move ?_
          refine oP (.ptr 0 2) (k_fieldAddr 0 0 (hu := Try.underlying27) (hf := rfl) (hi := ty25)) ?_
          refine oQ (.d (.lit (List.map e_SPart p2))) (k_load 0 2 (hu := Try.underlying25)) ?_
          refine oP (.d (.int .i64 ((List.length p2) : Int))) (k_lenLit (enc := e_SPart) p2 (hu := Try.underlying25)) ?_
          refine oP (.d (.bool (decide (i4 < ((List.length p2) : Int))))) (p_int (k := .i64) (p := i4) (q := ((List.length p2) : Int))) ?_
          refine oEnd ?_
          refine bSplit 39 (h1 := fun hc => ?_) (h2 := fun hc => ?_)
          ·refine oCondT (h := ?_)
           refine oSkip ?_
           refine oSeq ?_
           refine oBlock ?_
           refine oSeq ?_
           refine oSR rfl ?_
           refine oP (.ptr 0 2) (k_fieldAddr 0 0 (hu := Try.underlying27) (hf := rfl) (hi := ty25)) ?_
           refine oQ (.d (.lit (List.map e_SPart p2))) (k_load 0 2 (hu := Try.underlying25)) ?_
           refine oP (.d (.int .i64 i4)) p_move ?_
           refine bIdx (fun e113 h126 h127 => ?_)
           refine oP (.lptr (e_SPart e113) 0) (k_idxLit e_SPart_len p2 (a := e113) (k := .i64) (i := i4) (hu := Try.underlying25) (hi := ty49) (h0 := h126) (he := h127)) ?_
           refine oQ (.agg [.d (.int .i64 e113.Kind), .d (.int .i64 e113.Max), .d (.int .i64 e113.Topic), .d (.int .i64 e113.Objective), .d (.int .i64 e113.Options), .d (.int .i64 e113.Key)]) (k_loadLAgg (cells := e_SPart e113) 0 [(.int .i64 e113.Kind), (.int .i64 e113.Max), (.int .i64 e113.Topic), (.int .i64 e113.Objective), (.int .i64 e113.Options), (.int .i64 e113.Key)] (hu := Try.underlying49) (hi := ty49)) ?_
           refine bCall (caps := []) (v := (fun (r114 : Bool) => (.d (.bool r114) : V))) (H' := (fun (r114 : Bool) => ([.box [.d (.int .i64 p0), .d (.int .i64 p1), .d (.lit (List.map e_SPart p2))]] : List Blk))) [] _ (ref06_ValidPart_goes k e113.Kind e113.Max e113.Topic e113.Objective e113.Options e113.Key) (ho := rfl) (hfn := Try.func64) (hb := rfl) (hconv := ConvRs.refl _ _) (hnd := by decide) (hBl := fun _ => (by kernel_rfl)) (hv := fun _ => (by kernel_rfl)) (hH' := fun _ => (by kernel_rfl)) (h := fun r114 => ?_)
           refine oP (.d (.bool (!r114))) (p_not (p := r114)) ?_
           refine oEnd ?_
           refine bSplit 48 (h1 := fun hc => ?_) (h2 := fun hc => ?_)
           ·refine oCondT (h := ?_)
            refine oSR rfl ?_
            refine oP (.d (.bool false)) p_assign ?_
            refine oEnd ?_
            exact oRet (r0 := false) (rv := .d (.bool false)) (B := []) (vs := [.d (.bool false)]) (σ := []) (hf := Try.func54) (hrs := rfl) (hres := .cons _ _ _ _ (.tmp 2 _ (by kernel_rfl)) .nil) (hnd := by decide)
           ·refine oCondF (h := ?_)
            refine oSkip ?_
            refine oRegion rfl ?_
            refine oP (.d (.int .i64 sum6)) p_move ?_
            refine oP (.ptr 0 2) (k_fieldAddr 0 0 (hu := Try.underlying27) (hf := rfl) (hi := ty25)) ?_
            refine oQ (.d (.lit (List.map e_SPart p2))) (k_load 0 2 (hu := Try.underlying25)) ?_
            refine oP (.d (.int .i64 i4)) p_move ?_
            refine oP (.lptr (e_SPart e113) 0) (k_idxLit e_SPart_len p2 (a := e113) (k := .i64) (i := i4) (hu := Try.underlying25) (hi := ty49) (h0 := h126) (he := h127)) ?_
            refine oP (.lptr (e_SPart e113) 1) (k_fieldAddrL (cells := e_SPart e113) 0 (hu := Try.underlying49) (hf := rfl) (hi := ty3)) ?_
            refine oQ (.d (.int .i64 e113.Max)) (k_loadL (cells := e_SPart e113) 1 (hu := Try.underlying3)) ?_
            refine oP (.d (.int .i64 (IntKind.wrap .i64 (sum6 + e113.Max)))) (p_int (k := .i64) (p := sum6) (q := e113.Max)) ?_
            refine oP (.d (.int .i64 (IntKind.wrap .i64 (sum6 + e113.Max)))) p_assign ?_
            refine oEnd ?_
            refine oBlk ?_
            refine oRegion rfl ?_
            refine oP (.d (.int .i64 i4)) p_move ?_
            refine oP (.d (.int .i64 (IntKind.wrap .i64 (i4 + 1)))) (p_int (k := .i64) (p := i4) (q := 1)) ?_
            refine oP (.d (.int .i64 (IntKind.wrap .i64 (i4 + 1)))) p_assign ?_
            refine oEnd ?_
            refine oAgain ?_
            refine oHead [1, 3, 4] [0] (T' := [(1, .ptr 0 0), (3, .d (.int .i64 (IntKind.wrap .i64 (sum6 + e113.Max)))), (4, .d (.int .i64 (IntKind.wrap .i64 (i4 + 1))))]) (H' := [.box [.d (.int .i64 p0), .d (.int .i64 p1), .d (.lit (List.map e_SPart p2))]]) (hnd := by decide) (h := ?_)
            exact hag1 ((IntKind.wrap .i64 (sum6 + e113.Max)), (IntKind.wrap .i64 (i4 + 1)))
          ·refine oCondF (h := ?_)
           refine oExit rfl ?_
           refine oHead [3] [] (T' := [(3, .d (.int .i64 sum6))]) (H' := []) (hnd := by decide) (h := ?_)
           exact hj7 sum6
      ·refine bPickF 29 (fun c => F (c || (decide (((List.length p2) : Int) > 24)))) (h1 := fun hc => ?_) (h2 := fun hc => ?_)
       ·refine oNot (h := ?_)
        refine oNot (h := ?_)
        refine oNot (h := ?_)
        refine oNot (h := ?_)
        refine oP (.d (.bool true)) (p_pick (b := true)) ?_
        refine oHead [1, 34] [0] (T' := [(1, .ptr 0 0), (34, .d (.bool true))]) (H' := [.box [.d (.int .i64 p0), .d (.int .i64 p1), .d (.lit (List.map e_SPart p2))]]) (hnd := by decide) (h := ?_)
        exact hj6 true
       ·refine oP (.ptr 0 2) (k_fieldAddr 0 0 (hu := Try.underlying27) (hf := rfl) (hi := ty25)) ?_
        refine oQ (.d (.lit (List.map e_SPart p2))) (k_load 0 2 (hu := Try.underlying25)) ?_
        refine oP (.d (.int .i64 ((List.length p2) : Int))) (k_lenLit (enc := e_SPart) p2 (hu := Try.underlying25)) ?_
        refine oP (.d (.bool (decide (((List.length p2) : Int) > 24)))) (p_int (k := .i64) (p := ((List.length p2) : Int)) (q := 24)) ?_
        refine oP (.d (.bool (decide (((List.length p2) : Int) > 24)))) (p_pick (b := false)) ?_
        refine oHead [1, 34] [0] (T' := [(1, .ptr 0 0), (34, .d (.bool (decide (((List.length p2) : Int) > 24))))]) (H' := [.box [.d (.int .i64 p0), .d (.int .i64 p1), .d (.lit (List.map e_SPart p2))]]) (hnd := by decide) (h := ?_)
        exact hj6 (decide (((List.length p2) : Int) > 24))
     ·refine bPickF 23 (fun c => F (c || (decide (((List.length p2) : Int) < 1)))) (h1 := fun hc => ?_) (h2 := fun hc => ?_)
      ·refine oNot (h := ?_)
       refine oNot (h := ?_)
       refine oNot (h := ?_)
       refine oNot (h := ?_)
       refine oP (.d (.bool true)) (p_pick (b := true)) ?_
       refine oHead [1, 28] [0] (T' := [(1, .ptr 0 0), (28, .d (.bool true))]) (H' := [.box [.d (.int .i64 p0), .d (.int .i64 p1), .d (.lit (List.map e_SPart p2))]]) (hnd := by decide) (h := ?_)
       exact hj5 true
      ·refine oP (.ptr 0 2) (k_fieldAddr 0 0 (hu := Try.underlying27) (hf := rfl) (hi := ty25)) ?_
       refine oQ (.d (.lit (List.map e_SPart p2))) (k_load 0 2 (hu := Try.underlying25)) ?_
       refine oP (.d (.int .i64 ((List.length p2) : Int))) (k_lenLit (enc := e_SPart) p2 (hu := Try.underlying25)) ?_
       refine oP (.d (.bool (decide (((List.length p2) : Int) < 1)))) (p_int (k := .i64) (p := ((List.length p2) : Int)) (q := 1)) ?_
       refine oP (.d (.bool (decide (((List.length p2) : Int) < 1)))) (p_pick (b := false)) ?_
       refine oHead [1, 28] [0] (T' := [(1, .ptr 0 0), (28, .d (.bool (decide (((List.length p2) : Int) < 1))))]) (H' := [.box [.d (.int .i64 p0), .d (.int .i64 p1), .d (.lit (List.map e_SPart p2))]]) (hnd := by decide) (h := ?_)
       exact hj5 (decide (((List.length p2) : Int) < 1))
    ·refine bPickF 18 (fun c => F (c || (decide (p1 ≥ 4)))) (h1 := fun hc => ?_) (h2 := fun hc => ?_)
     ·refine oNot (h := ?_)
      refine oNot (h := ?_)
      refine oNot (h := ?_)
      refine oP (.d (.bool true)) (p_pick (b := true)) ?_
      refine oHead [1, 22] [0] (T' := [(1, .ptr 0 0), (22, .d (.bool true))]) (H' := [.box [.d (.int .i64 p0), .d (.int .i64 p1), .d (.lit (List.map e_SPart p2))]]) (hnd := by decide) (h := ?_)
      exact hj4 true
     ·refine oP (.ptr 0 1) (k_fieldAddr 0 0 (hu := Try.underlying27) (hf := rfl) (hi := ty3)) ?_
      refine oQ (.d (.int .i64 p1)) (k_load 0 1 (hu := Try.underlying3)) ?_
      refine oP (.d (.bool (decide (p1 ≥ 4)))) (p_int (k := .i64) (p := p1) (q := 4)) ?_
      refine oP (.d (.bool (decide (p1 ≥ 4)))) (p_pick (b := false)) ?_
      refine oHead [1, 22] [0] (T' := [(1, .ptr 0 0), (22, .d (.bool (decide (p1 ≥ 4))))]) (H' := [.box [.d (.int .i64 p0), .d (.int .i64 p1), .d (.lit (List.map e_SPart p2))]]) (hnd := by decide) (h := ?_)
      exact hj4 (decide (p1 ≥ 4))
   ·refine bPickF 13 (fun c => F (c || (decide (p1 < 0)))) (h1 := fun hc => ?_) (h2 := fun hc => ?_)
    ·refine oNot (h := ?_)
     refine oNot (h := ?_)
     refine oNot (h := ?_)
     refine oP (.d (.bool true)) (p_pick (b := true)) ?_
     refine oHead [1, 17] [0] (T' := [(1, .ptr 0 0), (17, .d (.bool true))]) (H' := [.box [.d (.int .i64 p0), .d (.int .i64 p1), .d (.lit (List.map e_SPart p2))]]) (hnd := by decide) (h := ?_)
     exact hj3 true
    ·refine oP (.ptr 0 1) (k_fieldAddr 0 0 (hu := Try.underlying27) (hf := rfl) (hi := ty3)) ?_
     refine oQ (.d (.int .i64 p1)) (k_load 0 1 (hu := Try.underlying3)) ?_
     refine oP (.d (.bool (decide (p1 < 0)))) (p_int (k := .i64) (p := p1) (q := 0)) ?_
     refine oP (.d (.bool (decide (p1 < 0)))) (p_pick (b := false)) ?_
     refine oHead [1, 17] [0] (T' := [(1, .ptr 0 0), (17, .d (.bool (decide (p1 < 0))))]) (H' := [.box [.d (.int .i64 p0), .d (.int .i64 p1), .d (.lit (List.map e_SPart p2))]]) (hnd := by decide) (h := ?_)
     exact hj3 (decide (p1 < 0))
  ·refine bPickF 8 (fun c => F (c || (decide (p0 > 31)))) (h1 := fun hc => ?_) (h2 := fun hc => ?_)
   ·refine oNot (h := ?_)
    refine oNot (h := ?_)
    refine oNot (h := ?_)
    refine oP (.d (.bool true)) (p_pick (b := true)) ?_
    refine oHead [1, 12] [0] (T' := [(1, .ptr 0 0), (12, .d (.bool true))]) (H' := [.box [.d (.int .i64 p0), .d (.int .i64 p1), .d (.lit (List.map e_SPart p2))]]) (hnd := by decide) (h := ?_)
    exact hj2 true
   ·refine oP (.ptr 0 0) (k_fieldAddr 0 0 (hu := Try.underlying27) (hf := rfl) (hi := ty3)) ?_
    refine oQ (.d (.int .i64 p0)) (k_load 0 0 (hu := Try.underlying3)) ?_
    refine oP (.d (.bool (decide (p0 > 31)))) (p_int (k := .i64) (p := p0) (q := 31)) ?_
    refine oP (.d (.bool (decide (p0 > 31)))) (p_pick (b := false)) ?_
    refine oHead [1, 12] [0] (T' := [(1, .ptr 0 0), (12, .d (.bool (decide (p0 > 31))))]) (H' := [.box [.d (.int .i64 p0), .d (.int .i64 p1), .d (.lit (List.map e_SPart p2))]]) (hnd := by decide) (h := ?_)
    exact hj2 (decide (p0 > 31))

/-- awardingbody/awardingbodyref23.Valid -/
def ref23_Valid_b2 (k : Nat) (p2 : (List SPart)) (s0 : (List (List Int))) (i4 : Int) (again : Int → Option ((Unit) ⊕ (Bool))) : Int → Option ((Unit) ⊕ (Bool)) := fun k128 => gidx s0 i4 fun e147 => bif (decide (k128 < ((List.length e147) : Int))) then gidx e147 k128 fun e12 => Option.bind (bif (decide (e12 < 0)) then some true else gidx p2 i4 fun e13 => some (decide (e12 ≥ e13.Options)) : Option Bool) (fun x358 => Option.bind (bif x358 then some true else Option.bind (bif (decide (k128 > 0)) then gidx e147 (IntKind.wrap .i64 (k128 - 1)) fun e15 => some (decide (e15 ≥ e12)) else some false : Option Bool) (fun x361 => some x361) : Option Bool) (fun x360 => bif x360 then some (Sum.inr false) else again (IntKind.wrap .i64 (k128 + 1)))) else some (Sum.inl ())
def ref23_Valid_b1 (k : Nat) (p2 : (List SPart)) (s0 : (List (List Int))) (s1 : (List Int)) (again : Int → Option ((Unit) ⊕ (Bool))) : Int → Option ((Unit) ⊕ (Bool)) := fun i4 => bif (decide (i4 < ((List.length p2) : Int))) then gidx s1 i4 fun e142 => blet ((decide (e142 < 0)) || (decide (e142 > 2))) fun x303 => bif x303 then some (Sum.inr false) else Option.bind (gloop (ref23_Valid_b2 k p2 s0 i4) k 0 : Option ((Unit) ⊕ (Bool))) (Sum.elim (u0 (again (IntKind.wrap .i64 (i4 + 1)))) (fun r => some (Sum.inr r))) else some (Sum.inl ())
def ref23_Valid (k : Nat) (p0 : Int) (p1 : Int) (p2 : (List SPart)) (s0 : (List (List Int))) (s1 : (List Int)) : Option (Bool) := Option.bind (ref06_ValidPaper k p0 p1 p2) (fun r141 => blet ((!r141) || (((List.length s0) : Int) != ((List.length p2) : Int))) fun x94 => blet (x94 || (((List.length s1) : Int) != ((List.length p2) : Int))) fun x95 => bif x95 then some false else Option.bind (gloop (ref23_Valid_b1 k p2 s0 s1) k 0 : Option ((Unit) ⊕ (Bool))) (Sum.elim (u0 (some true)) (fun r => some r)))
def ref23_Valid_E (p0 : Int) (p1 : Int) (p2 : (List SPart)) (s0 : (List (List Int))) (s1 : (List Int)) : Bool → V × List Blk := fun r1 => (.d (.bool r1), [])
theorem ref23_Valid_goes (k : Nat) (p0 : Int) (p1 : Int) (p2 : (List SPart)) (s0 : (List (List Int))) (s1 : (List Int)) : RunsO Try.prog 31 [.agg [.d (.int .i64 p0), .d (.int .i64 p1), .d (.lit (List.map e_SPart p2))], .agg [.d (.lit (List.map e_Li64 s0)), .d (.lit (List.map e_i64 s1))]] [] (ref23_Valid_E p0 p1 p2 s0 s1) (ref23_Valid k p0 p1 p2 s0 s1) := by
  refine RunsO.of_goes (N := 107) (m := 0) (T := [(0, .agg [.d (.int .i64 p0), .d (.int .i64 p1), .d (.lit (List.map e_SPart p2))]), (1, .agg [.d (.lit (List.map e_Li64 s0)), .d (.lit (List.map e_i64 s1))])]) Try.func31 rfl rfl (h := ?_)
  unfold ref23_Valid
  refine bStart ?_
  refine oSR rfl ?_
  refine oD (.ptr 0 0) (k_box (H' := [.box [.d (.int .i64 p0), .d (.int .i64 p1), .d (.lit (List.map e_SPart p2))]]) (cells := [.d (.int .i64 p0), .d (.int .i64 p1), .d (.lit (List.map e_SPart p2))])) ?_
  refine oD (.ptr 1 0) (k_box (H' := [.box [.d (.int .i64 p0), .d (.int .i64 p1), .d (.lit (List.map e_SPart p2))], .box [.d (.lit (List.map e_Li64 s0)), .d (.lit (List.map e_i64 s1))]]) (cells := [.d (.lit (List.map e_Li64 s0)), .d (.lit (List.map e_i64 s1))])) ?_
  refine oP (.d (.bool false)) p_assign ?_
  refine oEnd ?_
  refine oSR rfl ?_
  refine oP (.ptr 0 2) (k_fieldAddr 0 0 (hu := Try.underlying27) (hf := rfl) (hi := ty25)) ?_
  refine oQ (.d (.lit (List.map e_SPart p2))) (k_load 0 2 (hu := Try.underlying25)) ?_
  refine oP (.d (.int .i64 ((List.length p2) : Int))) (k_lenLit (enc := e_SPart) p2 (hu := Try.underlying25)) ?_
  refine oP (.d (.int .i64 ((List.length p2) : Int))) p_assign ?_
  refine oEnd ?_
  refine oSeq ?_
  refine oSR rfl ?_
  refine oQ (.agg [.d (.int .i64 p0), .d (.int .i64 p1), .d (.lit (List.map e_SPart p2))]) (k_loadAgg 0 0 (hu := Try.underlying27) (hi := ty27)) ?_
  refine bCall (caps := []) (v := (fun (r141 : Bool) => (.d (.bool r141) : V))) (H' := (fun (r141 : Bool) => ([.box [.d (.int .i64 p0), .d (.int .i64 p1), .d (.lit (List.map e_SPart p2))], .box [.d (.lit (List.map e_Li64 s0)), .d (.lit (List.map e_i64 s1))]] : List Blk))) [] _ (ref06_ValidPaper_goes k p0 p1 p2) (ho := rfl) (hfn := Try.func54) (hb := rfl) (hconv := ConvRs.refl _ _) (hnd := by decide) (hBl := fun _ => (by kernel_rfl)) (hv := fun _ => (by kernel_rfl)) (hH' := fun _ => (by kernel_rfl)) (h := fun r141 => ?_)
  refine oP (.d (.bool (!r141))) (p_not (p := r141)) ?_
  refine oP (.d (.bool (!r141))) p_move ?_
  refine bMeetF (H' := [.box [.d (.int .i64 p0), .d (.int .i64 p1), .d (.lit (List.map e_SPart p2))], .box [.d (.lit (List.map e_Li64 s0)), .d (.lit (List.map e_i64 s1))]]) 6 rfl ((fun (x94 : Bool) => [(2, .ptr 0 0), (3, .ptr 1 0), (5, .d (.int .i64 ((List.length p2) : Int))), (20, .d (.bool x94))])) (fun x94 => ?_) (fun F hj54 => ?_)
  ·refine oView (T' := [(2, .ptr 0 0), (3, .ptr 1 0), (5, .d (.int .i64 ((List.length p2) : Int))), (20, .d (.bool x94))]) (H' := [.box [.d (.int .i64 p0), .d (.int .i64 p1), .d (.lit (List.map e_SPart p2))], .box [.d (.lit (List.map e_Li64 s0)), .d (.lit (List.map e_i64 s1))]]) (h := ?_)
   refine oP (.d (.bool x94)) p_move ?_
   refine bMeetF (H' := [.box [.d (.int .i64 p0), .d (.int .i64 p1), .d (.lit (List.map e_SPart p2))], .box [.d (.lit (List.map e_Li64 s0)), .d (.lit (List.map e_i64 s1))]]) 6 rfl ((fun (x95 : Bool) => [(2, .ptr 0 0), (3, .ptr 1 0), (5, .d (.int .i64 ((List.length p2) : Int))), (27, .d (.bool x95))])) (fun x95 => ?_) (fun F hj55 => ?_)
   ·refine oView (T' := [(2, .ptr 0 0), (3, .ptr 1 0), (5, .d (.int .i64 ((List.length p2) : Int))), (27, .d (.bool x95))]) (H' := [.box [.d (.int .i64 p0), .d (.int .i64 p1), .d (.lit (List.map e_SPart p2))], .box [.d (.lit (List.map e_Li64 s0)), .d (.lit (List.map e_i64 s1))]]) (h := ?_)
    refine oEnd ?_
    refine bSplit 27 (h1 := fun hc => ?_) (h2 := fun hc => ?_)
    ·refine oCondT (h := ?_)
     refine oSR rfl ?_
     refine oP (.d (.bool false)) p_assign ?_
     refine oEnd ?_
     exact oRet (r0 := false) (rv := .d (.bool false)) (B := []) (vs := [.d (.bool false)]) (σ := []) (hf := Try.func31) (hrs := rfl) (hres := .cons _ _ _ _ (.tmp 4 _ (by kernel_rfl)) .nil) (hnd := by decide)
    ·refine oCondF (h := ?_)
     refine oSkip ?_
     refine oSeq ?_
     refine oSR rfl ?_
     refine oP (.d (.int .i64 0)) p_assign ?_
     refine oEnd ?_
     refine bJoin ((u0 ([]))) ((u0 ([]))) Sum.inl (fun s => ?_) (fun hj108 => ?_)
     ·cases s
      refine bInl ?_
      refine bU0 ?_
      refine oView (T' := []) (H' := []) (h := ?_)
      refine oSR rfl ?_
      refine oP (.d (.bool true)) p_assign ?_
      refine oEnd ?_
      exact oRet (r0 := true) (rv := .d (.bool true)) (B := []) (vs := [.d (.bool true)]) (σ := []) (hf := Try.func31) (hrs := rfl) (hres := .cons _ _ _ _ (.tmp 4 _ (by kernel_rfl)) .nil) (hnd := by decide)
     ·refine oBlock ?_
      refine oLoop ?_
      refine oHead [2, 3, 5, 6] [0, 1] (T' := [(2, .ptr 0 0), (3, .ptr 1 0), (5, .d (.int .i64 ((List.length p2) : Int))), (6, .d (.int .i64 0))]) (H' := [.box [.d (.int .i64 p0), .d (.int .i64 p1), .d (.lit (List.map e_SPart p2))], .box [.d (.lit (List.map e_Li64 s0)), .d (.lit (List.map e_i64 s1))]]) (hnd := by decide) (h := ?_)
      refine bLoop (body := ref23_Valid_b1 k p2 s0 s1) ((fun (i4 : Int) => [(2, .ptr 0 0), (3, .ptr 1 0), (5, .d (.int .i64 ((List.length p2) : Int))), (6, .d (.int .i64 i4))])) ((fun (i4 : Int) => [.box [.d (.int .i64 p0), .d (.int .i64 p1), .d (.lit (List.map e_SPart p2))], .box [.d (.lit (List.map e_Li64 s0)), .d (.lit (List.map e_i64 s1))]])) (fun again hag1 i4 => ?_) k 0
      ·unfold ref23_Valid_b1
       refine oView (T' := [(2, .ptr 0 0), (3, .ptr 1 0), (5, .d (.int .i64 ((List.length p2) : Int))), (6, .d (.int .i64 i4))]) (H' := [.box [.d (.int .i64 p0), .d (.int .i64 p1), .d (.lit (List.map e_SPart p2))], .box [.d (.lit (List.map e_Li64 s0)), .d (.lit (List.map e_i64 s1))]]) (h := ?_)
       refine oSeq ?_
       refine oSR rfl ?_
       refine oP (.d (.int .i64 i4)) p_move ?_
       refine oP (.d (.int .i64 ((List.length p2) : Int))) p_move ?_
       refine oP (.d (.bool (decide (i4 < ((List.length p2) : Int))))) (p_int (k := .i64) (p := i4) (q := ((List.length p2) : Int))) ?_
       refine oEnd ?_
       refine bSplit 30 (h1 := fun hc => ?_) (h2 := fun hc => ?_)
       ·refine oCondT (h := ?_)
        refine oSkip ?_
        refine oSeq ?_
        refine oBlock ?_
        refine oSeq ?_
        refine oSR rfl ?_
        refine oP (.ptr 1 1) (k_fieldAddr 1 0 (hu := Try.underlying31) (hf := rfl) (hi := ty22)) ?_
        refine oQ (.d (.lit (List.map e_i64 s1))) (k_load 1 1 (hu := Try.underlying22)) ?_
        refine oP (.d (.int .i64 i4)) p_move ?_
        refine bIdx (fun e142 h184 h185 => ?_)
        refine oP (.lptr (e_i64 e142) 0) (k_idxLit e_i64_len s1 (a := e142) (k := .i64) (i := i4) (hu := Try.underlying22) (hi := ty3) (h0 := h184) (he := h185)) ?_
        refine oQ (.d (.int .i64 e142)) (k_loadL (cells := e_i64 e142) 0 (hu := Try.underlying3)) ?_
        refine oP (.d (.bool (decide (e142 < 0)))) (p_int (k := .i64) (p := e142) (q := 0)) ?_
        refine oP (.d (.bool (decide (e142 < 0)))) p_move ?_
        refine bMeetF (H' := [.box [.d (.int .i64 p0), .d (.int .i64 p1), .d (.lit (List.map e_SPart p2))], .box [.d (.lit (List.map e_Li64 s0)), .d (.lit (List.map e_i64 s1))]]) 7 rfl ((fun (x303 : Bool) => [(2, .ptr 0 0), (3, .ptr 1 0), (5, .d (.int .i64 ((List.length p2) : Int))), (6, .d (.int .i64 i4)), (46, .d (.bool x303))])) (fun x303 => ?_) (fun F hj174 => ?_)
        ·refine oView (T' := [(2, .ptr 0 0), (3, .ptr 1 0), (5, .d (.int .i64 ((List.length p2) : Int))), (6, .d (.int .i64 i4)), (46, .d (.bool x303))]) (H' := [.box [.d (.int .i64 p0), .d (.int .i64 p1), .d (.lit (List.map e_SPart p2))], .box [.d (.lit (List.map e_Li64 s0)), .d (.lit (List.map e_i64 s1))]]) (h := ?_)
         refine oEnd ?_
         refine bSplit 46 (h1 := fun hc => ?_) (h2 := fun hc => ?_)
         ·refine oCondT (h := ?_)
          refine oSR rfl ?_
          refine oP (.d (.bool false)) p_assign ?_
          refine oEnd ?_
          exact oRet (r0 := false) (rv := .d (.bool false)) (B := []) (vs := [.d (.bool false)]) (σ := []) (hf := Try.func31) (hrs := rfl) (hres := .cons _ _ _ _ (.tmp 4 _ (by kernel_rfl)) .nil) (hnd := by decide)
         ·refine oCondF (h := ?_)
          refine oSkip ?_
          refine oSR rfl ?_
          refine oP (.d (.int .i64 0)) p_assign ?_
          refine oEnd ?_
          refine bJoin ((u0 ([(2, .ptr 0 0), (3, .ptr 1 0), (5, .d (.int .i64 ((List.length p2) : Int))), (6, .d (.int .i64 i4))]))) ((u0 ([.box [.d (.int .i64 p0), .d (.int .i64 p1), .d (.lit (List.map e_SPart p2))], .box [.d (.lit (List.map e_Li64 s0)), .d (.lit (List.map e_i64 s1))]]))) Sum.inl (fun s => ?_) (fun hj187 => ?_)
          ·cases s
           refine bInl ?_
           refine bU0 ?_
           refine oView (T' := [(2, .ptr 0 0), (3, .ptr 1 0), (5, .d (.int .i64 ((List.length p2) : Int))), (6, .d (.int .i64 i4))]) (H' := [.box [.d (.int .i64 p0), .d (.int .i64 p1), .d (.lit (List.map e_SPart p2))], .box [.d (.lit (List.map e_Li64 s0)), .d (.lit (List.map e_i64 s1))]]) (h := ?_)
           refine oBlk ?_
           refine oRegion rfl ?_
           refine oP (.d (.int .i64 i4)) p_move ?_
           refine oP (.d (.int .i64 (IntKind.wrap .i64 (i4 + 1)))) (p_int (k := .i64) (p := i4) (q := 1)) ?_
           refine oP (.d (.int .i64 (IntKind.wrap .i64 (i4 + 1)))) p_assign ?_
           refine oEnd ?_
           refine oAgain ?_
           refine oHead [2, 3, 5, 6] [0, 1] (T' := [(2, .ptr 0 0), (3, .ptr 1 0), (5, .d (.int .i64 ((List.length p2) : Int))), (6, .d (.int .i64 (IntKind.wrap .i64 (i4 + 1))))]) (H' := [.box [.d (.int .i64 p0), .d (.int .i64 p1), .d (.lit (List.map e_SPart p2))], .box [.d (.lit (List.map e_Li64 s0)), .d (.lit (List.map e_i64 s1))]]) (hnd := by decide) (h := ?_)
           exact hag1 (IntKind.wrap .i64 (i4 + 1))
          ·refine oBlock ?_
           refine oLoop ?_
           refine oHead [2, 3, 5, 6, 7] [0, 1] (T' := [(2, .ptr 0 0), (3, .ptr 1 0), (5, .d (.int .i64 ((List.length p2) : Int))), (6, .d (.int .i64 i4)), (7, .d (.int .i64 0))]) (H' := [.box [.d (.int .i64 p0), .d (.int .i64 p1), .d (.lit (List.map e_SPart p2))], .box [.d (.lit (List.map e_Li64 s0)), .d (.lit (List.map e_i64 s1))]]) (hnd := by decide) (h := ?_)
           refine bLoop (body := ref23_Valid_b2 k p2 s0 i4) ((fun (k128 : Int) => [(2, .ptr 0 0), (3, .ptr 1 0), (5, .d (.int .i64 ((List.length p2) : Int))), (6, .d (.int .i64 i4)), (7, .d (.int .i64 k128))])) ((fun (k128 : Int) => [.box [.d (.int .i64 p0), .d (.int .i64 p1), .d (.lit (List.map e_SPart p2))], .box [.d (.lit (List.map e_Li64 s0)), .d (.lit (List.map e_i64 s1))]])) (fun again hag2 k128 => ?_) k 0
           ·unfold ref23_Valid_b2
            refine oView (T' := [(2, .ptr 0 0), (3, .ptr 1 0), (5, .d (.int .i64 ((List.length p2) : Int))), (6, .d (.int .i64 i4)), (7, .d (.int .i64 k128))]) (H' := [.box [.d (.int .i64 p0), .d (.int .i64 p1), .d (.lit (List.map e_SPart p2))], .box [.d (.lit (List.map e_Li64 s0)), .d (.lit (List.map e_i64 s1))]]) (h := ?_)
            refine oSeq ?_
            refine oSR rfl ?_
            refine oP (.d (.int .i64 k128)) p_move ?_
            refine oP (.ptr 1 0) (k_fieldAddr 1 0 (hu := Try.underlying31) (hf := rfl) (hi := ty29)) ?_
            refine oQ (.d (.lit (List.map e_Li64 s0))) (k_load 1 0 (hu := Try.underlying29)) ?_
            refine oP (.d (.int .i64 i4)) p_move ?_
            refine bIdx (fun e147 h194 h195 => ?_)
            refine oP (.lptr (e_Li64 e147) 0) (k_idxLit e_Li64_len s0 (a := e147) (k := .i64) (i := i4) (hu := Try.underlying29) (hi := ty22) (h0 := h194) (he := h195)) ?_
            refine oQ (.d (.lit (List.map e_i64 e147))) (k_loadL (cells := e_Li64 e147) 0 (hu := Try.underlying22)) ?_
            refine oP (.d (.int .i64 ((List.length e147) : Int))) (k_lenLit (enc := e_i64) e147 (hu := Try.underlying22)) ?_
            refine oP (.d (.bool (decide (k128 < ((List.length e147) : Int))))) (p_int (k := .i64) (p := k128) (q := ((List.length e147) : Int))) ?_
            refine oEnd ?_
            refine bSplit 54 (h1 := fun hc => ?_) (h2 := fun hc => ?_)
            ·refine oCondT (h := ?_)
             refine oSkip ?_
             refine oSeq ?_
             refine oBlock ?_
             refine oSeq ?_
             refine oDraw [(0, 50), (1, 50)] rfl ?_
             refine aP 0 (.ptr 1 0) rfl (k_fieldAddr 1 0 (hu := Try.underlying31) (hf := rfl) (hi := ty29)) ?_
             refine aQ 1 [1] (.d (.lit (List.map e_Li64 s0))) rfl (k_load 1 0 (hu := Try.underlying29)) ?_
             refine aP 2 (.d (.int .i64 i4)) rfl p_move ?_
             refine aP 3 (.lptr (e_Li64 e147) 0) rfl (k_idxLit e_Li64_len s0 (a := e147) (k := .i64) (i := i4) (hu := Try.underlying29) (hi := ty22) (h0 := h194) (he := h195)) ?_
             refine aQ 4 [] (.d (.lit (List.map e_i64 e147))) rfl (k_loadL (cells := e_Li64 e147) 0 (hu := Try.underlying22)) ?_
             refine aP 5 (.d (.int .i64 k128)) rfl p_move ?_
             refine dIdx (fun e12 h14 h15 => ?_)
             refine aP 6 (.lptr (e_i64 e12) 0) rfl (k_idxLit e_i64_len e147 (a := e12) (k := .i64) (i := k128) (hu := Try.underlying22) (hi := ty3) (h0 := h14) (he := h15)) ?_
             refine aQ 7 [] (.d (.int .i64 e12)) rfl (k_loadL (cells := e_i64 e12) 0 (hu := Try.underlying3)) ?_
             refine aP 8 (.d (.bool (decide (e12 < 0)))) rfl (p_int (k := .i64) (p := e12) (q := 0)) ?_
             refine aP 9 (.d (.bool (decide (e12 < 0)))) rfl p_move ?_
             refine dMeet [25, 24, 23, 22, 21, 20, 19, 18, 17, 16, 15, 14, 13, 12, 11, 10, 9, 8, 7, 6, 5, 4, 3, 2, 1, 0] (fun (x358 : Bool) => [(2, .ptr 0 0), (3, .ptr 1 0), (5, .d (.int .i64 ((List.length p2) : Int))), (6, .d (.int .i64 i4)), (7, .d (.int .i64 k128)), (82, .d (.bool x358))]) (fun (x358 : Bool) => [(2, .ptr 0 0), (3, .ptr 1 0), (5, .d (.int .i64 ((List.length p2) : Int))), (6, .d (.int .i64 i4)), (7, .d (.int .i64 k128)), (82, .d (.bool x358))]) (fun _ => [.box [.d (.int .i64 p0), .d (.int .i64 p1), .d (.lit (List.map e_SPart p2))], .box [.d (.lit (List.map e_Li64 s0)), .d (.lit (List.map e_i64 s1))]]) (fun s => s) (fun x358 => ?_) (fun hj204 => ?_)
             ·refine aP 26 (.d (.bool x358)) rfl p_move ?_
              refine dMeet [49, 48, 47, 46, 45, 44, 43, 42, 41, 40, 39, 38, 37, 36, 35, 34, 33, 32, 31, 30, 29, 28, 27, 26, 25, 24, 23, 22, 21, 20, 19, 18, 17, 16, 15, 14, 13, 12, 11, 10, 9, 8, 7, 6, 5, 4, 3, 2, 1, 0] (fun (x360 : Bool) => [(2, .ptr 0 0), (3, .ptr 1 0), (5, .d (.int .i64 ((List.length p2) : Int))), (6, .d (.int .i64 i4)), (7, .d (.int .i64 k128)), (106, .d (.bool x360))]) (fun (x360 : Bool) => [(2, .ptr 0 0), (3, .ptr 1 0), (5, .d (.int .i64 ((List.length p2) : Int))), (6, .d (.int .i64 i4)), (7, .d (.int .i64 k128)), (106, .d (.bool x360))]) (fun _ => [.box [.d (.int .i64 p0), .d (.int .i64 p1), .d (.lit (List.map e_SPart p2))], .box [.d (.lit (List.map e_Li64 s0)), .d (.lit (List.map e_i64 s1))]]) (fun s => s) (fun x360 => ?_) (fun hj206 => ?_)
              ·refine aDone (h := ?_)
               refine bSplit 106 (h1 := fun hc => ?_) (h2 := fun hc => ?_)
               ·refine oCondT (h := ?_)
                refine oSR rfl ?_
                refine oP (.d (.bool false)) p_assign ?_
                refine oEnd ?_
                exact oRet (r0 := false) (rv := .d (.bool false)) (B := []) (vs := [.d (.bool false)]) (σ := []) (hf := Try.func31) (hrs := rfl) (hres := .cons _ _ _ _ (.tmp 4 _ (by kernel_rfl)) .nil) (hnd := by decide)
               ·refine oCondF (h := ?_)
                refine oSkip ?_
                refine oBlk ?_
                refine oRegion rfl ?_
                refine oP (.d (.int .i64 k128)) p_move ?_
                refine oP (.d (.int .i64 (IntKind.wrap .i64 (k128 + 1)))) (p_int (k := .i64) (p := k128) (q := 1)) ?_
                refine oP (.d (.int .i64 (IntKind.wrap .i64 (k128 + 1)))) p_assign ?_
                refine oEnd ?_
                refine oAgain ?_
                refine oHead [2, 3, 5, 6, 7] [0, 1] (T' := [(2, .ptr 0 0), (3, .ptr 1 0), (5, .d (.int .i64 ((List.length p2) : Int))), (6, .d (.int .i64 i4)), (7, .d (.int .i64 (IntKind.wrap .i64 (k128 + 1))))]) (H' := [.box [.d (.int .i64 p0), .d (.int .i64 p1), .d (.lit (List.map e_SPart p2))], .box [.d (.lit (List.map e_Li64 s0)), .d (.lit (List.map e_i64 s1))]]) (hnd := by decide) (h := ?_)
                exact hag2 (IntKind.wrap .i64 (k128 + 1))
              ·refine dSplit 83 (h1 := fun hc => ?_) (h2 := fun hc => ?_)
               ·refine aTakeNot (i := 27) rfl (h := ?_)
                refine aTakeNot (i := 28) rfl (h := ?_)
                refine aTakeNot (i := 29) rfl (h := ?_)
                refine aTakeNot (i := 30) rfl (h := ?_)
                refine aTakeNot (i := 31) rfl (h := ?_)
                refine aTakeNot (i := 32) rfl (h := ?_)
                refine aTakeNot (i := 33) rfl (h := ?_)
                refine aTakeNot (i := 34) rfl (h := ?_)
                refine aTakeNot (i := 35) rfl (h := ?_)
                refine aTakeNot (i := 36) rfl (h := ?_)
                refine aTakeNot (i := 37) rfl (h := ?_)
                refine aTakeNot (i := 38) rfl (h := ?_)
                refine aTakeNot (i := 39) rfl (h := ?_)
                refine aTakeNot (i := 40) rfl (h := ?_)
                refine aTakeNot (i := 41) rfl (h := ?_)
                refine aTakeNot (i := 42) rfl (h := ?_)
                refine aTakeNot (i := 43) rfl (h := ?_)
                refine aTakeNot (i := 44) rfl (h := ?_)
                refine aTakeNot (i := 45) rfl (h := ?_)
                refine aTakeNot (i := 46) rfl (h := ?_)
                refine aTakeNot (i := 47) rfl (h := ?_)
                refine aTakeNot (i := 48) rfl (h := ?_)
                refine aP 49 (.d (.bool true)) rfl (p_pick (b := true)) ?_
                refine dDrop [2, 3, 5, 6, 7, 106] [2, 3, 5, 6, 7, 106] (T' := [(2, .ptr 0 0), (3, .ptr 1 0), (5, .d (.int .i64 ((List.length p2) : Int))), (6, .d (.int .i64 i4)), (7, .d (.int .i64 k128)), (106, .d (.bool true))]) (U' := [(2, .ptr 0 0), (3, .ptr 1 0), (5, .d (.int .i64 ((List.length p2) : Int))), (6, .d (.int .i64 i4)), (7, .d (.int .i64 k128)), (106, .d (.bool true))]) (h := ?_)
                exact hj206 true
               ·refine aP 27 (.d (.int .i64 k128)) rfl p_move ?_
                refine aP 28 (.d (.bool (decide (k128 > 0)))) rfl (p_int (k := .i64) (p := k128) (q := 0)) ?_
                refine aP 29 (.d (.bool (decide (k128 > 0)))) rfl p_move ?_
                refine dMeet [48, 47, 46, 45, 44, 43, 42, 41, 40, 39, 38, 37, 36, 35, 34, 33, 32, 31, 30, 29, 28, 27, 26, 25, 24, 23, 22, 21, 20, 19, 18, 17, 16, 15, 14, 13, 12, 11, 10, 9, 8, 7, 6, 5, 4, 3, 2, 1, 0] (fun (x361 : Bool) => [(2, .ptr 0 0), (3, .ptr 1 0), (5, .d (.int .i64 ((List.length p2) : Int))), (6, .d (.int .i64 i4)), (7, .d (.int .i64 k128)), (83, .d (.bool false)), (105, .d (.bool x361))]) (fun (x361 : Bool) => [(2, .ptr 0 0), (3, .ptr 1 0), (5, .d (.int .i64 ((List.length p2) : Int))), (6, .d (.int .i64 i4)), (7, .d (.int .i64 k128)), (83, .d (.bool false)), (105, .d (.bool x361))]) (fun _ => [.box [.d (.int .i64 p0), .d (.int .i64 p1), .d (.lit (List.map e_SPart p2))], .box [.d (.lit (List.map e_Li64 s0)), .d (.lit (List.map e_i64 s1))]]) (fun s => s) (fun x361 => ?_) (fun hj207 => ?_)
                ·refine aP 49 (.d (.bool x361)) rfl (p_pick (b := false)) ?_
                 refine dDrop [2, 3, 5, 6, 7, 106] [2, 3, 5, 6, 7, 106] (T' := [(2, .ptr 0 0), (3, .ptr 1 0), (5, .d (.int .i64 ((List.length p2) : Int))), (6, .d (.int .i64 i4)), (7, .d (.int .i64 k128)), (106, .d (.bool x361))]) (U' := [(2, .ptr 0 0), (3, .ptr 1 0), (5, .d (.int .i64 ((List.length p2) : Int))), (6, .d (.int .i64 i4)), (7, .d (.int .i64 k128)), (106, .d (.bool x361))]) (h := ?_)
                 exact hj206 x361
                ·refine dSplit 86 (h1 := fun hc => ?_) (h2 := fun hc => ?_)
                 ·refine aP 30 (.ptr 1 0) rfl (k_fieldAddr 1 0 (hu := Try.underlying31) (hf := rfl) (hi := ty29)) ?_
                  refine aQ 31 [1] (.d (.lit (List.map e_Li64 s0))) rfl (k_load 1 0 (hu := Try.underlying29)) ?_
                  refine aP 32 (.d (.int .i64 i4)) rfl p_move ?_
                  refine aP 33 (.lptr (e_Li64 e147) 0) rfl (k_idxLit e_Li64_len s0 (a := e147) (k := .i64) (i := i4) (hu := Try.underlying29) (hi := ty22) (h0 := h194) (he := h195)) ?_
                  refine aQ 34 [] (.d (.lit (List.map e_i64 e147))) rfl (k_loadL (cells := e_Li64 e147) 0 (hu := Try.underlying22)) ?_
                  refine aP 35 (.d (.int .i64 k128)) rfl p_move ?_
                  refine aP 36 (.d (.int .i64 (IntKind.wrap .i64 (k128 - 1)))) rfl (p_int (k := .i64) (p := k128) (q := 1)) ?_
                  refine dIdx (fun e15 h110 h111 => ?_)
                  refine aP 37 (.lptr (e_i64 e15) 0) rfl (k_idxLit e_i64_len e147 (a := e15) (k := .i64) (i := (IntKind.wrap .i64 (k128 - 1))) (hu := Try.underlying22) (hi := ty3) (h0 := h110) (he := h111)) ?_
                  refine aQ 38 [] (.d (.int .i64 e15)) rfl (k_loadL (cells := e_i64 e15) 0 (hu := Try.underlying3)) ?_
                  refine aP 39 (.ptr 1 0) rfl (k_fieldAddr 1 0 (hu := Try.underlying31) (hf := rfl) (hi := ty29)) ?_
                  refine aQ 40 [1] (.d (.lit (List.map e_Li64 s0))) rfl (k_load 1 0 (hu := Try.underlying29)) ?_
                  refine aP 41 (.d (.int .i64 i4)) rfl p_move ?_
                  refine aP 42 (.lptr (e_Li64 e147) 0) rfl (k_idxLit e_Li64_len s0 (a := e147) (k := .i64) (i := i4) (hu := Try.underlying29) (hi := ty22) (h0 := h194) (he := h195)) ?_
                  refine aQ 43 [] (.d (.lit (List.map e_i64 e147))) rfl (k_loadL (cells := e_Li64 e147) 0 (hu := Try.underlying22)) ?_
                  refine aP 44 (.d (.int .i64 k128)) rfl p_move ?_
                  refine aP 45 (.lptr (e_i64 e12) 0) rfl (k_idxLit e_i64_len e147 (a := e12) (k := .i64) (i := k128) (hu := Try.underlying22) (hi := ty3) (h0 := h14) (he := h15)) ?_
                  refine aQ 46 [] (.d (.int .i64 e12)) rfl (k_loadL (cells := e_i64 e12) 0 (hu := Try.underlying3)) ?_
                  refine aP 47 (.d (.bool (decide (e15 ≥ e12)))) rfl (p_int (k := .i64) (p := e15) (q := e12)) ?_
                  refine aP 48 (.d (.bool (decide (e15 ≥ e12)))) rfl (p_pick (b := true)) ?_
                  refine dDrop [2, 3, 5, 6, 7, 83, 105] [2, 3, 5, 6, 7, 83, 105] (T' := [(2, .ptr 0 0), (3, .ptr 1 0), (5, .d (.int .i64 ((List.length p2) : Int))), (6, .d (.int .i64 i4)), (7, .d (.int .i64 k128)), (83, .d (.bool false)), (105, .d (.bool (decide (e15 ≥ e12))))]) (U' := [(2, .ptr 0 0), (3, .ptr 1 0), (5, .d (.int .i64 ((List.length p2) : Int))), (6, .d (.int .i64 i4)), (7, .d (.int .i64 k128)), (83, .d (.bool false)), (105, .d (.bool (decide (e15 ≥ e12))))]) (h := ?_)
                  exact hj207 (decide (e15 ≥ e12))
                 ·refine aTakeNot (i := 30) rfl (h := ?_)
                  refine aTakeNot (i := 31) rfl (h := ?_)
                  refine aTakeNot (i := 32) rfl (h := ?_)
                  refine aTakeNot (i := 33) rfl (h := ?_)
                  refine aTakeNot (i := 34) rfl (h := ?_)
                  refine aTakeNot (i := 35) rfl (h := ?_)
                  refine aTakeNot (i := 36) rfl (h := ?_)
                  refine aTakeNot (i := 37) rfl (h := ?_)
                  refine aTakeNot (i := 38) rfl (h := ?_)
                  refine aTakeNot (i := 39) rfl (h := ?_)
                  refine aTakeNot (i := 40) rfl (h := ?_)
                  refine aTakeNot (i := 41) rfl (h := ?_)
                  refine aTakeNot (i := 42) rfl (h := ?_)
                  refine aTakeNot (i := 43) rfl (h := ?_)
                  refine aTakeNot (i := 44) rfl (h := ?_)
                  refine aTakeNot (i := 45) rfl (h := ?_)
                  refine aTakeNot (i := 46) rfl (h := ?_)
                  refine aTakeNot (i := 47) rfl (h := ?_)
                  refine aP 48 (.d (.bool false)) rfl (p_pick (b := false)) ?_
                  refine dDrop [2, 3, 5, 6, 7, 83, 105] [2, 3, 5, 6, 7, 83, 105] (T' := [(2, .ptr 0 0), (3, .ptr 1 0), (5, .d (.int .i64 ((List.length p2) : Int))), (6, .d (.int .i64 i4)), (7, .d (.int .i64 k128)), (83, .d (.bool false)), (105, .d (.bool false))]) (U' := [(2, .ptr 0 0), (3, .ptr 1 0), (5, .d (.int .i64 ((List.length p2) : Int))), (6, .d (.int .i64 i4)), (7, .d (.int .i64 k128)), (83, .d (.bool false)), (105, .d (.bool false))]) (h := ?_)
                  exact hj207 false
             ·refine dSplit 66 (h1 := fun hc => ?_) (h2 := fun hc => ?_)
              ·refine aTakeNot (i := 10) rfl (h := ?_)
               refine aTakeNot (i := 11) rfl (h := ?_)
               refine aTakeNot (i := 12) rfl (h := ?_)
               refine aTakeNot (i := 13) rfl (h := ?_)
               refine aTakeNot (i := 14) rfl (h := ?_)
               refine aTakeNot (i := 15) rfl (h := ?_)
               refine aTakeNot (i := 16) rfl (h := ?_)
               refine aTakeNot (i := 17) rfl (h := ?_)
               refine aTakeNot (i := 18) rfl (h := ?_)
               refine aTakeNot (i := 19) rfl (h := ?_)
               refine aTakeNot (i := 20) rfl (h := ?_)
               refine aTakeNot (i := 21) rfl (h := ?_)
               refine aTakeNot (i := 22) rfl (h := ?_)
               refine aTakeNot (i := 23) rfl (h := ?_)
               refine aTakeNot (i := 24) rfl (h := ?_)
               refine aP 25 (.d (.bool true)) rfl (p_pick (b := true)) ?_
               refine dDrop [2, 3, 5, 6, 7, 82] [2, 3, 5, 6, 7, 82] (T' := [(2, .ptr 0 0), (3, .ptr 1 0), (5, .d (.int .i64 ((List.length p2) : Int))), (6, .d (.int .i64 i4)), (7, .d (.int .i64 k128)), (82, .d (.bool true))]) (U' := [(2, .ptr 0 0), (3, .ptr 1 0), (5, .d (.int .i64 ((List.length p2) : Int))), (6, .d (.int .i64 i4)), (7, .d (.int .i64 k128)), (82, .d (.bool true))]) (h := ?_)
               exact hj204 true
              ·refine aP 10 (.ptr 1 0) rfl (k_fieldAddr 1 0 (hu := Try.underlying31) (hf := rfl) (hi := ty29)) ?_
               refine aQ 11 [1] (.d (.lit (List.map e_Li64 s0))) rfl (k_load 1 0 (hu := Try.underlying29)) ?_
               refine aP 12 (.d (.int .i64 i4)) rfl p_move ?_
               refine aP 13 (.lptr (e_Li64 e147) 0) rfl (k_idxLit e_Li64_len s0 (a := e147) (k := .i64) (i := i4) (hu := Try.underlying29) (hi := ty22) (h0 := h194) (he := h195)) ?_
               refine aQ 14 [] (.d (.lit (List.map e_i64 e147))) rfl (k_loadL (cells := e_Li64 e147) 0 (hu := Try.underlying22)) ?_
               refine aP 15 (.d (.int .i64 k128)) rfl p_move ?_
               refine aP 16 (.lptr (e_i64 e12) 0) rfl (k_idxLit e_i64_len e147 (a := e12) (k := .i64) (i := k128) (hu := Try.underlying22) (hi := ty3) (h0 := h14) (he := h15)) ?_
               refine aQ 17 [] (.d (.int .i64 e12)) rfl (k_loadL (cells := e_i64 e12) 0 (hu := Try.underlying3)) ?_
               refine aP 18 (.ptr 0 2) rfl (k_fieldAddr 0 0 (hu := Try.underlying27) (hf := rfl) (hi := ty25)) ?_
               refine aQ 19 [0] (.d (.lit (List.map e_SPart p2))) rfl (k_load 0 2 (hu := Try.underlying25)) ?_
               refine aP 20 (.d (.int .i64 i4)) rfl p_move ?_
               refine dIdx (fun e13 h16 h17 => ?_)
               refine aP 21 (.lptr (e_SPart e13) 0) rfl (k_idxLit e_SPart_len p2 (a := e13) (k := .i64) (i := i4) (hu := Try.underlying25) (hi := ty49) (h0 := h16) (he := h17)) ?_
               refine aP 22 (.lptr (e_SPart e13) 4) rfl (k_fieldAddrL (cells := e_SPart e13) 0 (hu := Try.underlying49) (hf := rfl) (hi := ty3)) ?_
               refine aQ 23 [] (.d (.int .i64 e13.Options)) rfl (k_loadL (cells := e_SPart e13) 4 (hu := Try.underlying3)) ?_
               refine aP 24 (.d (.bool (decide (e12 ≥ e13.Options)))) rfl (p_int (k := .i64) (p := e12) (q := e13.Options)) ?_
               refine aP 25 (.d (.bool (decide (e12 ≥ e13.Options)))) rfl (p_pick (b := false)) ?_
               refine dDrop [2, 3, 5, 6, 7, 82] [2, 3, 5, 6, 7, 82] (T' := [(2, .ptr 0 0), (3, .ptr 1 0), (5, .d (.int .i64 ((List.length p2) : Int))), (6, .d (.int .i64 i4)), (7, .d (.int .i64 k128)), (82, .d (.bool (decide (e12 ≥ e13.Options))))]) (U' := [(2, .ptr 0 0), (3, .ptr 1 0), (5, .d (.int .i64 ((List.length p2) : Int))), (6, .d (.int .i64 i4)), (7, .d (.int .i64 k128)), (82, .d (.bool (decide (e12 ≥ e13.Options))))]) (h := ?_)
               exact hj204 (decide (e12 ≥ e13.Options))
            ·refine oCondF (h := ?_)
             refine oExit rfl ?_
             refine oHead [2, 3, 5, 6] [0, 1] (T' := [(2, .ptr 0 0), (3, .ptr 1 0), (5, .d (.int .i64 ((List.length p2) : Int))), (6, .d (.int .i64 i4))]) (H' := [.box [.d (.int .i64 p0), .d (.int .i64 p1), .d (.lit (List.map e_SPart p2))], .box [.d (.lit (List.map e_Li64 s0)), .d (.lit (List.map e_i64 s1))]]) (hnd := by decide) (h := ?_)
             exact hj187 ()
        ·refine bPickF 39 (fun c => F (c || (decide (e142 > 2)))) (h1 := fun hc => ?_) (h2 := fun hc => ?_)
         ·refine oNot (h := ?_)
          refine oNot (h := ?_)
          refine oNot (h := ?_)
          refine oNot (h := ?_)
          refine oNot (h := ?_)
          refine oNot (h := ?_)
          refine oP (.d (.bool true)) (p_pick (b := true)) ?_
          refine oHead [2, 3, 5, 6, 46] [0, 1] (T' := [(2, .ptr 0 0), (3, .ptr 1 0), (5, .d (.int .i64 ((List.length p2) : Int))), (6, .d (.int .i64 i4)), (46, .d (.bool true))]) (H' := [.box [.d (.int .i64 p0), .d (.int .i64 p1), .d (.lit (List.map e_SPart p2))], .box [.d (.lit (List.map e_Li64 s0)), .d (.lit (List.map e_i64 s1))]]) (hnd := by decide) (h := ?_)
          exact hj174 true
         ·refine oP (.ptr 1 1) (k_fieldAddr 1 0 (hu := Try.underlying31) (hf := rfl) (hi := ty22)) ?_
          refine oQ (.d (.lit (List.map e_i64 s1))) (k_load 1 1 (hu := Try.underlying22)) ?_
          refine oP (.d (.int .i64 i4)) p_move ?_
          refine oP (.lptr (e_i64 e142) 0) (k_idxLit e_i64_len s1 (a := e142) (k := .i64) (i := i4) (hu := Try.underlying22) (hi := ty3) (h0 := h184) (he := h185)) ?_
          refine oQ (.d (.int .i64 e142)) (k_loadL (cells := e_i64 e142) 0 (hu := Try.underlying3)) ?_
          refine oP (.d (.bool (decide (e142 > 2)))) (p_int (k := .i64) (p := e142) (q := 2)) ?_
          refine oP (.d (.bool (decide (e142 > 2)))) (p_pick (b := false)) ?_
          refine oHead [2, 3, 5, 6, 46] [0, 1] (T' := [(2, .ptr 0 0), (3, .ptr 1 0), (5, .d (.int .i64 ((List.length p2) : Int))), (6, .d (.int .i64 i4)), (46, .d (.bool (decide (e142 > 2))))]) (H' := [.box [.d (.int .i64 p0), .d (.int .i64 p1), .d (.lit (List.map e_SPart p2))], .box [.d (.lit (List.map e_Li64 s0)), .d (.lit (List.map e_i64 s1))]]) (hnd := by decide) (h := ?_)
          exact hj174 (decide (e142 > 2))
       ·refine oCondF (h := ?_)
        refine oExit rfl ?_
        refine oHead [] [] (T' := []) (H' := []) (hnd := by decide) (h := ?_)
        exact hj108 ()
   ·refine bPickF 21 (fun c => F (c || (((List.length s1) : Int) != ((List.length p2) : Int)))) (h1 := fun hc => ?_) (h2 := fun hc => ?_)
    ·refine oNot (h := ?_)
     refine oNot (h := ?_)
     refine oNot (h := ?_)
     refine oNot (h := ?_)
     refine oNot (h := ?_)
     refine oP (.d (.bool true)) (p_pick (b := true)) ?_
     refine oHead [2, 3, 5, 27] [0, 1] (T' := [(2, .ptr 0 0), (3, .ptr 1 0), (5, .d (.int .i64 ((List.length p2) : Int))), (27, .d (.bool true))]) (H' := [.box [.d (.int .i64 p0), .d (.int .i64 p1), .d (.lit (List.map e_SPart p2))], .box [.d (.lit (List.map e_Li64 s0)), .d (.lit (List.map e_i64 s1))]]) (hnd := by decide) (h := ?_)
     exact hj55 true
    ·refine oP (.ptr 1 1) (k_fieldAddr 1 0 (hu := Try.underlying31) (hf := rfl) (hi := ty22)) ?_
     refine oQ (.d (.lit (List.map e_i64 s1))) (k_load 1 1 (hu := Try.underlying22)) ?_
     refine oP (.d (.int .i64 ((List.length s1) : Int))) (k_lenLit (enc := e_i64) s1 (hu := Try.underlying22)) ?_
     refine oP (.d (.int .i64 ((List.length p2) : Int))) p_move ?_
     refine oP (.d (.bool (((List.length s1) : Int) != ((List.length p2) : Int)))) (p_int (k := .i64) (p := ((List.length s1) : Int)) (q := ((List.length p2) : Int))) ?_
     refine oP (.d (.bool (((List.length s1) : Int) != ((List.length p2) : Int)))) (p_pick (b := false)) ?_
     refine oHead [2, 3, 5, 27] [0, 1] (T' := [(2, .ptr 0 0), (3, .ptr 1 0), (5, .d (.int .i64 ((List.length p2) : Int))), (27, .d (.bool (((List.length s1) : Int) != ((List.length p2) : Int))))]) (H' := [.box [.d (.int .i64 p0), .d (.int .i64 p1), .d (.lit (List.map e_SPart p2))], .box [.d (.lit (List.map e_Li64 s0)), .d (.lit (List.map e_i64 s1))]]) (hnd := by decide) (h := ?_)
     exact hj55 (((List.length s1) : Int) != ((List.length p2) : Int))
  ·refine bPickF 14 (fun c => F (c || (((List.length s0) : Int) != ((List.length p2) : Int)))) (h1 := fun hc => ?_) (h2 := fun hc => ?_)
   ·refine oNot (h := ?_)
    refine oNot (h := ?_)
    refine oNot (h := ?_)
    refine oNot (h := ?_)
    refine oNot (h := ?_)
    refine oP (.d (.bool true)) (p_pick (b := true)) ?_
    refine oHead [2, 3, 5, 20] [0, 1] (T' := [(2, .ptr 0 0), (3, .ptr 1 0), (5, .d (.int .i64 ((List.length p2) : Int))), (20, .d (.bool true))]) (H' := [.box [.d (.int .i64 p0), .d (.int .i64 p1), .d (.lit (List.map e_SPart p2))], .box [.d (.lit (List.map e_Li64 s0)), .d (.lit (List.map e_i64 s1))]]) (hnd := by decide) (h := ?_)
    exact hj54 true
   ·refine oP (.ptr 1 0) (k_fieldAddr 1 0 (hu := Try.underlying31) (hf := rfl) (hi := ty29)) ?_
    refine oQ (.d (.lit (List.map e_Li64 s0))) (k_load 1 0 (hu := Try.underlying29)) ?_
    refine oP (.d (.int .i64 ((List.length s0) : Int))) (k_lenLit (enc := e_Li64) s0 (hu := Try.underlying29)) ?_
    refine oP (.d (.int .i64 ((List.length p2) : Int))) p_move ?_
    refine oP (.d (.bool (((List.length s0) : Int) != ((List.length p2) : Int)))) (p_int (k := .i64) (p := ((List.length s0) : Int)) (q := ((List.length p2) : Int))) ?_
    refine oP (.d (.bool (((List.length s0) : Int) != ((List.length p2) : Int)))) (p_pick (b := false)) ?_
    refine oHead [2, 3, 5, 20] [0, 1] (T' := [(2, .ptr 0 0), (3, .ptr 1 0), (5, .d (.int .i64 ((List.length p2) : Int))), (20, .d (.bool (((List.length s0) : Int) != ((List.length p2) : Int))))]) (H' := [.box [.d (.int .i64 p0), .d (.int .i64 p1), .d (.lit (List.map e_SPart p2))], .box [.d (.lit (List.map e_Li64 s0)), .d (.lit (List.map e_i64 s1))]]) (hnd := by decide) (h := ?_)
    exact hj54 (((List.length s0) : Int) != ((List.length p2) : Int))

/-- awardingbody/awardingbodyref23.Permitted -/
def ref23_Permitted (k : Nat) (p0 : Int) (p1 : Int) (p2 : (List SPart)) (s0 : (List (List Int))) (s1 : (List Int)) (part : Int) (mark1 : Int) : Option (Bool) := Option.bind (ref23_Valid k p0 p1 p2 s0 s1) (fun r12 => blet ((!r12) || (decide (part < 0))) fun x7 => blet (x7 || (decide (part ≥ ((List.length p2) : Int)))) fun x8 => bif x8 then some false else gidx p2 part fun e11 => bif (e11.Kind == 2) then blet ((mark1 == (-1)) || (mark1 == 0)) fun x11 => blet (x11 || (mark1 == e11.Max)) fun x12 => some x12 else blet ((decide (mark1 ≥ (-1))) && (decide (mark1 ≤ e11.Max))) fun x13 => some x13)
def ref23_Permitted_E (p0 : Int) (p1 : Int) (p2 : (List SPart)) (s0 : (List (List Int))) (s1 : (List Int)) (part : Int) (mark1 : Int) : Bool → V × List Blk := fun r11 => (.d (.bool r11), [])
theorem ref23_Permitted_goes (k : Nat) (p0 : Int) (p1 : Int) (p2 : (List SPart)) (s0 : (List (List Int))) (s1 : (List Int)) (part : Int) (mark1 : Int) : RunsO Try.prog 35 [.agg [.d (.int .i64 p0), .d (.int .i64 p1), .d (.lit (List.map e_SPart p2))], .agg [.d (.lit (List.map e_Li64 s0)), .d (.lit (List.map e_i64 s1))], .d (.int .i64 part), .d (.int .i64 mark1)] [] (ref23_Permitted_E p0 p1 p2 s0 s1 part mark1) (ref23_Permitted k p0 p1 p2 s0 s1 part mark1) := by
  refine RunsO.of_goes (N := 56) (m := 0) (T := [(0, .agg [.d (.int .i64 p0), .d (.int .i64 p1), .d (.lit (List.map e_SPart p2))]), (1, .agg [.d (.lit (List.map e_Li64 s0)), .d (.lit (List.map e_i64 s1))]), (2, .d (.int .i64 part)), (3, .d (.int .i64 mark1))]) Try.func35 rfl rfl (h := ?_)
  unfold ref23_Permitted
  refine bStart ?_
  refine oSR rfl ?_
  refine oD (.ptr 0 0) (k_box (H' := [.box [.d (.int .i64 p0), .d (.int .i64 p1), .d (.lit (List.map e_SPart p2))]]) (cells := [.d (.int .i64 p0), .d (.int .i64 p1), .d (.lit (List.map e_SPart p2))])) ?_
  refine oD (.ptr 1 0) (k_box (H' := [.box [.d (.int .i64 p0), .d (.int .i64 p1), .d (.lit (List.map e_SPart p2))], .box [.d (.lit (List.map e_Li64 s0)), .d (.lit (List.map e_i64 s1))]]) (cells := [.d (.lit (List.map e_Li64 s0)), .d (.lit (List.map e_i64 s1))])) ?_
  refine oP (.d (.bool false)) p_assign ?_
  refine oEnd ?_
  refine oSeq ?_
  refine oSR rfl ?_
  refine oQ (.agg [.d (.int .i64 p0), .d (.int .i64 p1), .d (.lit (List.map e_SPart p2))]) (k_loadAgg 0 0 (hu := Try.underlying27) (hi := ty27)) ?_
  refine oQ (.agg [.d (.lit (List.map e_Li64 s0)), .d (.lit (List.map e_i64 s1))]) (k_loadAgg 1 0 (hu := Try.underlying31) (hi := ty31)) ?_
  refine bCall (caps := []) (v := (fun (r12 : Bool) => (.d (.bool r12) : V))) (H' := (fun (r12 : Bool) => ([.box [.d (.int .i64 p0), .d (.int .i64 p1), .d (.lit (List.map e_SPart p2))], .box [.d (.lit (List.map e_Li64 s0)), .d (.lit (List.map e_i64 s1))]] : List Blk))) [] _ (ref23_Valid_goes k p0 p1 p2 s0 s1) (ho := rfl) (hfn := Try.func31) (hb := rfl) (hconv := ConvRs.refl _ _) (hnd := by decide) (hBl := fun _ => (by kernel_rfl)) (hv := fun _ => (by kernel_rfl)) (hH' := fun _ => (by kernel_rfl)) (h := fun r12 => ?_)
  refine oP (.d (.bool (!r12))) (p_not (p := r12)) ?_
  refine oP (.d (.bool (!r12))) p_move ?_
  refine bMeetF (H' := [.box [.d (.int .i64 p0), .d (.int .i64 p1), .d (.lit (List.map e_SPart p2))]]) 3 rfl ((fun (x7 : Bool) => [(2, .d (.int .i64 part)), (3, .d (.int .i64 mark1)), (4, .ptr 0 0), (17, .d (.bool x7))])) (fun x7 => ?_) (fun F hj1 => ?_)
  ·refine oView (T' := [(2, .d (.int .i64 part)), (3, .d (.int .i64 mark1)), (4, .ptr 0 0), (17, .d (.bool x7))]) (H' := [.box [.d (.int .i64 p0), .d (.int .i64 p1), .d (.lit (List.map e_SPart p2))]]) (h := ?_)
   refine oP (.d (.bool x7)) p_move ?_
   refine bMeetF (H' := [.box [.d (.int .i64 p0), .d (.int .i64 p1), .d (.lit (List.map e_SPart p2))]]) 6 rfl ((fun (x8 : Bool) => [(2, .d (.int .i64 part)), (3, .d (.int .i64 mark1)), (4, .ptr 0 0), (24, .d (.bool x8))])) (fun x8 => ?_) (fun F hj2 => ?_)
   ·refine oView (T' := [(2, .d (.int .i64 part)), (3, .d (.int .i64 mark1)), (4, .ptr 0 0), (24, .d (.bool x8))]) (H' := [.box [.d (.int .i64 p0), .d (.int .i64 p1), .d (.lit (List.map e_SPart p2))]]) (h := ?_)
    refine oEnd ?_
    refine bSplit 24 (h1 := fun hc => ?_) (h2 := fun hc => ?_)
    ·refine oCondT (h := ?_)
     refine oSR rfl ?_
     refine oP (.d (.bool false)) p_assign ?_
     refine oEnd ?_
     exact oRet (r0 := false) (rv := .d (.bool false)) (B := []) (vs := [.d (.bool false)]) (σ := []) (hf := Try.func35) (hrs := rfl) (hres := .cons _ _ _ _ (.tmp 8 _ (by kernel_rfl)) .nil) (hnd := by decide)
    ·refine oCondF (h := ?_)
     refine oSkip ?_
     refine oSR rfl ?_
     refine oP (.ptr 0 2) (k_fieldAddr 0 0 (hu := Try.underlying27) (hf := rfl) (hi := ty25)) ?_
     refine oQ (.d (.lit (List.map e_SPart p2))) (k_load 0 2 (hu := Try.underlying25)) ?_
     refine oP (.d (.int .i64 part)) p_move ?_
     refine bIdx (fun e11 h12 h13 => ?_)
     refine oP (.lptr (e_SPart e11) 0) (k_idxLit e_SPart_len p2 (a := e11) (k := .i64) (i := part) (hu := Try.underlying25) (hi := ty49) (h0 := h12) (he := h13)) ?_
     refine oP (.lptr (e_SPart e11) 1) (k_fieldAddrL (cells := e_SPart e11) 0 (hu := Try.underlying49) (hf := rfl) (hi := ty3)) ?_
     refine oQ (.d (.int .i64 e11.Max)) (k_loadL (cells := e_SPart e11) 1 (hu := Try.underlying3)) ?_
     refine oP (.d (.int .i64 e11.Max)) p_assign ?_
     refine oEnd ?_
     refine oSeq ?_
     refine oSR rfl ?_
     refine oP (.ptr 0 2) (k_fieldAddr 0 0 (hu := Try.underlying27) (hf := rfl) (hi := ty25)) ?_
     refine oQ (.d (.lit (List.map e_SPart p2))) (k_load 0 2 (hu := Try.underlying25)) ?_
     refine oP (.d (.int .i64 part)) p_move ?_
     refine oP (.lptr (e_SPart e11) 0) (k_idxLit e_SPart_len p2 (a := e11) (k := .i64) (i := part) (hu := Try.underlying25) (hi := ty49) (h0 := h12) (he := h13)) ?_
     refine oP (.lptr (e_SPart e11) 0) (k_fieldAddrL (cells := e_SPart e11) 0 (hu := Try.underlying49) (hf := rfl) (hi := ty3)) ?_
     refine oQ (.d (.int .i64 e11.Kind)) (k_loadL (cells := e_SPart e11) 0 (hu := Try.underlying3)) ?_
     refine oP (.d (.bool (e11.Kind == 2))) (p_int (k := .i64) (p := e11.Kind) (q := 2)) ?_
     refine oEnd ?_
     refine bSplit 37 (h1 := fun hc => ?_) (h2 := fun hc => ?_)
     ·refine oCondT (h := ?_)
      refine oSR rfl ?_
      refine oP (.d (.int .i64 mark1)) p_move ?_
      refine oP (.d (.bool (mark1 == (-1)))) (p_int (k := .i64) (p := mark1) (q := (-1))) ?_
      refine oP (.d (.bool (mark1 == (-1)))) p_move ?_
      refine bMeetF (H' := []) 3 rfl ((fun (x11 : Bool) => [(3, .d (.int .i64 mark1)), (9, .d (.int .i64 e11.Max)), (43, .d (.bool x11))])) (fun x11 => ?_) (fun F hj3 => ?_)
      ·refine oView (T' := [(3, .d (.int .i64 mark1)), (9, .d (.int .i64 e11.Max)), (43, .d (.bool x11))]) (H' := []) (h := ?_)
       refine oP (.d (.bool x11)) p_move ?_
       refine bMeetF (H' := []) 4 rfl ((fun (x12 : Bool) => [(48, .d (.bool x12))])) (fun x12 => ?_) (fun F hj4 => ?_)
       ·refine oView (T' := [(48, .d (.bool x12))]) (H' := []) (h := ?_)
        refine oP (.d (.bool x12)) p_assign ?_
        refine oEnd ?_
        exact oRet (r0 := x12) (rv := .d (.bool x12)) (B := []) (vs := [.d (.bool x12)]) (σ := []) (hf := Try.func35) (hrs := rfl) (hres := .cons _ _ _ _ (.tmp 8 _ (by kernel_rfl)) .nil) (hnd := by decide)
       ·refine bPickF 44 (fun c => F (c || (mark1 == e11.Max))) (h1 := fun hc => ?_) (h2 := fun hc => ?_)
        ·refine oNot (h := ?_)
         refine oNot (h := ?_)
         refine oNot (h := ?_)
         refine oP (.d (.bool true)) (p_pick (b := true)) ?_
         refine oHead [48] [] (T' := [(48, .d (.bool true))]) (H' := []) (hnd := by decide) (h := ?_)
         exact hj4 true
        ·refine oP (.d (.int .i64 mark1)) p_move ?_
         refine oP (.d (.int .i64 e11.Max)) p_move ?_
         refine oP (.d (.bool (mark1 == e11.Max))) (p_int (k := .i64) (p := mark1) (q := e11.Max)) ?_
         refine oP (.d (.bool (mark1 == e11.Max))) (p_pick (b := false)) ?_
         refine oHead [48] [] (T' := [(48, .d (.bool (mark1 == e11.Max)))]) (H' := []) (hnd := by decide) (h := ?_)
         exact hj4 (mark1 == e11.Max)
      ·refine bPickF 40 (fun c => F (c || (mark1 == 0))) (h1 := fun hc => ?_) (h2 := fun hc => ?_)
       ·refine oNot (h := ?_)
        refine oNot (h := ?_)
        refine oP (.d (.bool true)) (p_pick (b := true)) ?_
        refine oHead [3, 9, 43] [] (T' := [(3, .d (.int .i64 mark1)), (9, .d (.int .i64 e11.Max)), (43, .d (.bool true))]) (H' := []) (hnd := by decide) (h := ?_)
        exact hj3 true
       ·refine oP (.d (.int .i64 mark1)) p_move ?_
        refine oP (.d (.bool (mark1 == 0))) (p_int (k := .i64) (p := mark1) (q := 0)) ?_
        refine oP (.d (.bool (mark1 == 0))) (p_pick (b := false)) ?_
        refine oHead [3, 9, 43] [] (T' := [(3, .d (.int .i64 mark1)), (9, .d (.int .i64 e11.Max)), (43, .d (.bool (mark1 == 0)))]) (H' := []) (hnd := by decide) (h := ?_)
        exact hj3 (mark1 == 0)
     ·refine oCondF (h := ?_)
      refine oSkip ?_
      refine oSR rfl ?_
      refine oP (.d (.int .i64 mark1)) p_move ?_
      refine oP (.d (.bool (decide (mark1 ≥ (-1))))) (p_int (k := .i64) (p := mark1) (q := (-1))) ?_
      refine oP (.d (.bool (decide (mark1 ≥ (-1))))) p_move ?_
      refine bMeetF (H' := []) 4 rfl ((fun (x13 : Bool) => [(55, .d (.bool x13))])) (fun x13 => ?_) (fun F hj5 => ?_)
      ·refine oView (T' := [(55, .d (.bool x13))]) (H' := []) (h := ?_)
       refine oP (.d (.bool x13)) p_assign ?_
       refine oEnd ?_
       exact oRet (r0 := x13) (rv := .d (.bool x13)) (B := []) (vs := [.d (.bool x13)]) (σ := []) (hf := Try.func35) (hrs := rfl) (hres := .cons _ _ _ _ (.tmp 8 _ (by kernel_rfl)) .nil) (hnd := by decide)
      ·refine bPickF 51 (fun c => F (c && (decide (mark1 ≤ e11.Max)))) (h1 := fun hc => ?_) (h2 := fun hc => ?_)
       ·refine oP (.d (.int .i64 mark1)) p_move ?_
        refine oP (.d (.int .i64 e11.Max)) p_move ?_
        refine oP (.d (.bool (decide (mark1 ≤ e11.Max)))) (p_int (k := .i64) (p := mark1) (q := e11.Max)) ?_
        refine oP (.d (.bool (decide (mark1 ≤ e11.Max)))) (p_pick (b := true)) ?_
        refine oHead [55] [] (T' := [(55, .d (.bool (decide (mark1 ≤ e11.Max))))]) (H' := []) (hnd := by decide) (h := ?_)
        exact hj5 (decide (mark1 ≤ e11.Max))
       ·refine oNot (h := ?_)
        refine oNot (h := ?_)
        refine oNot (h := ?_)
        refine oP (.d (.bool false)) (p_pick (b := false)) ?_
        refine oHead [55] [] (T' := [(55, .d (.bool false))]) (H' := []) (hnd := by decide) (h := ?_)
        exact hj5 false
   ·refine bPickF 18 (fun c => F (c || (decide (part ≥ ((List.length p2) : Int))))) (h1 := fun hc => ?_) (h2 := fun hc => ?_)
    ·refine oNot (h := ?_)
     refine oNot (h := ?_)
     refine oNot (h := ?_)
     refine oNot (h := ?_)
     refine oNot (h := ?_)
     refine oP (.d (.bool true)) (p_pick (b := true)) ?_
     refine oHead [2, 3, 4, 24] [0] (T' := [(2, .d (.int .i64 part)), (3, .d (.int .i64 mark1)), (4, .ptr 0 0), (24, .d (.bool true))]) (H' := [.box [.d (.int .i64 p0), .d (.int .i64 p1), .d (.lit (List.map e_SPart p2))]]) (hnd := by decide) (h := ?_)
     exact hj2 true
    ·refine oP (.d (.int .i64 part)) p_move ?_
     refine oP (.ptr 0 2) (k_fieldAddr 0 0 (hu := Try.underlying27) (hf := rfl) (hi := ty25)) ?_
     refine oQ (.d (.lit (List.map e_SPart p2))) (k_load 0 2 (hu := Try.underlying25)) ?_
     refine oP (.d (.int .i64 ((List.length p2) : Int))) (k_lenLit (enc := e_SPart) p2 (hu := Try.underlying25)) ?_
     refine oP (.d (.bool (decide (part ≥ ((List.length p2) : Int))))) (p_int (k := .i64) (p := part) (q := ((List.length p2) : Int))) ?_
     refine oP (.d (.bool (decide (part ≥ ((List.length p2) : Int))))) (p_pick (b := false)) ?_
     refine oHead [2, 3, 4, 24] [0] (T' := [(2, .d (.int .i64 part)), (3, .d (.int .i64 mark1)), (4, .ptr 0 0), (24, .d (.bool (decide (part ≥ ((List.length p2) : Int)))))]) (H' := [.box [.d (.int .i64 p0), .d (.int .i64 p1), .d (.lit (List.map e_SPart p2))]]) (hnd := by decide) (h := ?_)
     exact hj2 (decide (part ≥ ((List.length p2) : Int)))
  ·refine bPickF 14 (fun c => F (c || (decide (part < 0)))) (h1 := fun hc => ?_) (h2 := fun hc => ?_)
   ·refine oNot (h := ?_)
    refine oNot (h := ?_)
    refine oP (.d (.bool true)) (p_pick (b := true)) ?_
    refine oHead [2, 3, 4, 17] [0] (T' := [(2, .d (.int .i64 part)), (3, .d (.int .i64 mark1)), (4, .ptr 0 0), (17, .d (.bool true))]) (H' := [.box [.d (.int .i64 p0), .d (.int .i64 p1), .d (.lit (List.map e_SPart p2))]]) (hnd := by decide) (h := ?_)
    exact hj1 true
   ·refine oP (.d (.int .i64 part)) p_move ?_
    refine oP (.d (.bool (decide (part < 0)))) (p_int (k := .i64) (p := part) (q := 0)) ?_
    refine oP (.d (.bool (decide (part < 0)))) (p_pick (b := false)) ?_
    refine oHead [2, 3, 4, 17] [0] (T' := [(2, .d (.int .i64 part)), (3, .d (.int .i64 mark1)), (4, .ptr 0 0), (17, .d (.bool (decide (part < 0))))]) (H' := [.box [.d (.int .i64 p0), .d (.int .i64 p1), .d (.lit (List.map e_SPart p2))]]) (hnd := by decide) (h := ?_)
    exact hj1 (decide (part < 0))

/-- awardingbody/awardingbodyref23.Marked -/
def ref23_Marked_b1 (k : Nat) (p0 : Int) (p1 : Int) (p2 : (List SPart)) (s0 : (List (List Int))) (s1 : (List Int)) (marks : (List Int)) (again : Int → Option ((Unit) ⊕ (Bool))) : Int → Option ((Unit) ⊕ (Bool)) := fun i4 => bif (decide (i4 < ((List.length marks) : Int))) then gidx s1 i4 fun e1 => Option.bind (bif (e1 == 0) then gidx marks i4 fun e11 => Option.bind (ref23_Permitted k p0 p1 p2 s0 s1 i4 e11) (fun r11 => some (!r11)) else some false : Option Bool) (fun x29 => bif x29 then some (Sum.inr false) else again (IntKind.wrap .i64 (i4 + 1))) else some (Sum.inl ())
def ref23_Marked (k : Nat) (p0 : Int) (p1 : Int) (p2 : (List SPart)) (s0 : (List (List Int))) (s1 : (List Int)) (marks : (List Int)) : Option (Bool) := Option.bind (ref23_Valid k p0 p1 p2 s0 s1) (fun r13 => blet ((!r13) || (((List.length marks) : Int) != ((List.length p2) : Int))) fun x9 => bif x9 then some false else Option.bind (gloop (ref23_Marked_b1 k p0 p1 p2 s0 s1 marks) k 0 : Option ((Unit) ⊕ (Bool))) (Sum.elim (u0 (some true)) (fun r => some r)))
def ref23_Marked_E (p0 : Int) (p1 : Int) (p2 : (List SPart)) (s0 : (List (List Int))) (s1 : (List Int)) (marks : (List Int)) : Bool → V × List Blk := fun r12 => (.d (.bool r12), [])
theorem ref23_Marked_goes (k : Nat) (p0 : Int) (p1 : Int) (p2 : (List SPart)) (s0 : (List (List Int))) (s1 : (List Int)) (marks : (List Int)) : RunsO Try.prog 37 [.agg [.d (.int .i64 p0), .d (.int .i64 p1), .d (.lit (List.map e_SPart p2))], .agg [.d (.lit (List.map e_Li64 s0)), .d (.lit (List.map e_i64 s1))], .d (.lit (List.map e_i64 marks))] [] (ref23_Marked_E p0 p1 p2 s0 s1 marks) (ref23_Marked k p0 p1 p2 s0 s1 marks) := by
  refine RunsO.of_goes (N := 43) (m := 0) (T := [(0, .agg [.d (.int .i64 p0), .d (.int .i64 p1), .d (.lit (List.map e_SPart p2))]), (1, .agg [.d (.lit (List.map e_Li64 s0)), .d (.lit (List.map e_i64 s1))]), (2, .d (.lit (List.map e_i64 marks)))]) Try.func37 rfl rfl (h := ?_)
  unfold ref23_Marked
  refine bStart ?_
  refine oSR rfl ?_
  refine oD (.ptr 0 0) (k_box (H' := [.box [.d (.int .i64 p0), .d (.int .i64 p1), .d (.lit (List.map e_SPart p2))]]) (cells := [.d (.int .i64 p0), .d (.int .i64 p1), .d (.lit (List.map e_SPart p2))])) ?_
  refine oD (.ptr 1 0) (k_box (H' := [.box [.d (.int .i64 p0), .d (.int .i64 p1), .d (.lit (List.map e_SPart p2))], .box [.d (.lit (List.map e_Li64 s0)), .d (.lit (List.map e_i64 s1))]]) (cells := [.d (.lit (List.map e_Li64 s0)), .d (.lit (List.map e_i64 s1))])) ?_
  refine oP (.d (.bool false)) p_assign ?_
  refine oEnd ?_
  refine oSeq ?_
  refine oSR rfl ?_
  refine oQ (.agg [.d (.int .i64 p0), .d (.int .i64 p1), .d (.lit (List.map e_SPart p2))]) (k_loadAgg 0 0 (hu := Try.underlying27) (hi := ty27)) ?_
  refine oQ (.agg [.d (.lit (List.map e_Li64 s0)), .d (.lit (List.map e_i64 s1))]) (k_loadAgg 1 0 (hu := Try.underlying31) (hi := ty31)) ?_
  refine bCall (caps := []) (v := (fun (r13 : Bool) => (.d (.bool r13) : V))) (H' := (fun (r13 : Bool) => ([.box [.d (.int .i64 p0), .d (.int .i64 p1), .d (.lit (List.map e_SPart p2))], .box [.d (.lit (List.map e_Li64 s0)), .d (.lit (List.map e_i64 s1))]] : List Blk))) [] _ (ref23_Valid_goes k p0 p1 p2 s0 s1) (ho := rfl) (hfn := Try.func31) (hb := rfl) (hconv := ConvRs.refl _ _) (hnd := by decide) (hBl := fun _ => (by kernel_rfl)) (hv := fun _ => (by kernel_rfl)) (hH' := fun _ => (by kernel_rfl)) (h := fun r13 => ?_)
  refine oP (.d (.bool (!r13))) (p_not (p := r13)) ?_
  refine oP (.d (.bool (!r13))) p_move ?_
  refine bMeetF (H' := [.box [.d (.int .i64 p0), .d (.int .i64 p1), .d (.lit (List.map e_SPart p2))], .box [.d (.lit (List.map e_Li64 s0)), .d (.lit (List.map e_i64 s1))]]) 7 rfl ((fun (x9 : Bool) => [(2, .d (.lit (List.map e_i64 marks))), (3, .ptr 0 0), (4, .ptr 1 0), (19, .d (.bool x9))])) (fun x9 => ?_) (fun F hj6 => ?_)
  ·refine oView (T' := [(2, .d (.lit (List.map e_i64 marks))), (3, .ptr 0 0), (4, .ptr 1 0), (19, .d (.bool x9))]) (H' := [.box [.d (.int .i64 p0), .d (.int .i64 p1), .d (.lit (List.map e_SPart p2))], .box [.d (.lit (List.map e_Li64 s0)), .d (.lit (List.map e_i64 s1))]]) (h := ?_)
   refine oEnd ?_
   refine bSplit 19 (h1 := fun hc => ?_) (h2 := fun hc => ?_)
   ·refine oCondT (h := ?_)
    refine oSR rfl ?_
    refine oP (.d (.bool false)) p_assign ?_
    refine oEnd ?_
    exact oRet (r0 := false) (rv := .d (.bool false)) (B := []) (vs := [.d (.bool false)]) (σ := []) (hf := Try.func37) (hrs := rfl) (hres := .cons _ _ _ _ (.tmp 6 _ (by kernel_rfl)) .nil) (hnd := by decide)
   ·refine oCondF (h := ?_)
    refine oSkip ?_
    refine oSeq ?_
    refine oSR rfl ?_
    refine oP (.d (.int .i64 0)) p_assign ?_
    refine oEnd ?_
    refine bJoin ((u0 ([]))) ((u0 ([]))) Sum.inl (fun s => ?_) (fun hj11 => ?_)
    ·cases s
     refine bInl ?_
     refine bU0 ?_
     refine oView (T' := []) (H' := []) (h := ?_)
     refine oSR rfl ?_
     refine oP (.d (.bool true)) p_assign ?_
     refine oEnd ?_
     exact oRet (r0 := true) (rv := .d (.bool true)) (B := []) (vs := [.d (.bool true)]) (σ := []) (hf := Try.func37) (hrs := rfl) (hres := .cons _ _ _ _ (.tmp 6 _ (by kernel_rfl)) .nil) (hnd := by decide)
    ·refine oBlock ?_
     refine oLoop ?_
     refine oHead [2, 3, 4, 7] [0, 1] (T' := [(2, .d (.lit (List.map e_i64 marks))), (3, .ptr 0 0), (4, .ptr 1 0), (7, .d (.int .i64 0))]) (H' := [.box [.d (.int .i64 p0), .d (.int .i64 p1), .d (.lit (List.map e_SPart p2))], .box [.d (.lit (List.map e_Li64 s0)), .d (.lit (List.map e_i64 s1))]]) (hnd := by decide) (h := ?_)
     refine bLoop (body := ref23_Marked_b1 k p0 p1 p2 s0 s1 marks) ((fun (i4 : Int) => [(2, .d (.lit (List.map e_i64 marks))), (3, .ptr 0 0), (4, .ptr 1 0), (7, .d (.int .i64 i4))])) ((fun (i4 : Int) => [.box [.d (.int .i64 p0), .d (.int .i64 p1), .d (.lit (List.map e_SPart p2))], .box [.d (.lit (List.map e_Li64 s0)), .d (.lit (List.map e_i64 s1))]])) (fun again hag1 i4 => ?_) k 0
     ·unfold ref23_Marked_b1
      refine oView (T' := [(2, .d (.lit (List.map e_i64 marks))), (3, .ptr 0 0), (4, .ptr 1 0), (7, .d (.int .i64 i4))]) (H' := [.box [.d (.int .i64 p0), .d (.int .i64 p1), .d (.lit (List.map e_SPart p2))], .box [.d (.lit (List.map e_Li64 s0)), .d (.lit (List.map e_i64 s1))]]) (h := ?_)
      refine oSeq ?_
      refine oSR rfl ?_
      refine oP (.d (.int .i64 i4)) p_move ?_
      refine oP (.d (.lit (List.map e_i64 marks))) p_move ?_
      refine oP (.d (.int .i64 ((List.length marks) : Int))) (k_lenLit (enc := e_i64) marks (hu := Try.underlying22)) ?_
      refine oP (.d (.bool (decide (i4 < ((List.length marks) : Int))))) (p_int (k := .i64) (p := i4) (q := ((List.length marks) : Int))) ?_
      refine oEnd ?_
      refine bSplit 23 (h1 := fun hc => ?_) (h2 := fun hc => ?_)
      ·refine oCondT (h := ?_)
       refine oSkip ?_
       refine oSeq ?_
       refine oBlock ?_
       refine oSeq ?_
       refine oDraw [(0, 17), (1, 17)] rfl ?_
       refine aP 0 (.ptr 1 1) rfl (k_fieldAddr 1 0 (hu := Try.underlying31) (hf := rfl) (hi := ty22)) ?_
       refine aQ 1 [1] (.d (.lit (List.map e_i64 s1))) rfl (k_load 1 1 (hu := Try.underlying22)) ?_
       refine aP 2 (.d (.int .i64 i4)) rfl p_move ?_
       refine dIdx (fun e1 h1 h11 => ?_)
       refine aP 3 (.lptr (e_i64 e1) 0) rfl (k_idxLit e_i64_len s1 (a := e1) (k := .i64) (i := i4) (hu := Try.underlying22) (hi := ty3) (h0 := h1) (he := h11)) ?_
       refine aQ 4 [] (.d (.int .i64 e1)) rfl (k_loadL (cells := e_i64 e1) 0 (hu := Try.underlying3)) ?_
       refine aP 5 (.d (.bool (e1 == 0))) rfl (p_int (k := .i64) (p := e1) (q := 0)) ?_
       refine aP 6 (.d (.bool (e1 == 0))) rfl p_move ?_
       refine dMeet [16, 15, 14, 13, 12, 11, 10, 9, 8, 7, 6, 5, 4, 3, 2, 1, 0] (fun (x29 : Bool) => [(2, .d (.lit (List.map e_i64 marks))), (3, .ptr 0 0), (4, .ptr 1 0), (7, .d (.int .i64 i4)), (42, .d (.bool x29))]) (fun (x29 : Bool) => [(2, .d (.lit (List.map e_i64 marks))), (3, .ptr 0 0), (4, .ptr 1 0), (7, .d (.int .i64 i4)), (42, .d (.bool x29))]) (fun _ => [.box [.d (.int .i64 p0), .d (.int .i64 p1), .d (.lit (List.map e_SPart p2))], .box [.d (.lit (List.map e_Li64 s0)), .d (.lit (List.map e_i64 s1))]]) (fun s => s) (fun x29 => ?_) (fun hj17 => ?_)
       ·refine aDone (h := ?_)
        refine bSplit 42 (h1 := fun hc => ?_) (h2 := fun hc => ?_)
        ·refine oCondT (h := ?_)
         refine oSR rfl ?_
         refine oP (.d (.bool false)) p_assign ?_
         refine oEnd ?_
         exact oRet (r0 := false) (rv := .d (.bool false)) (B := []) (vs := [.d (.bool false)]) (σ := []) (hf := Try.func37) (hrs := rfl) (hres := .cons _ _ _ _ (.tmp 6 _ (by kernel_rfl)) .nil) (hnd := by decide)
        ·refine oCondF (h := ?_)
         refine oSkip ?_
         refine oBlk ?_
         refine oRegion rfl ?_
         refine oP (.d (.int .i64 i4)) p_move ?_
         refine oP (.d (.int .i64 (IntKind.wrap .i64 (i4 + 1)))) (p_int (k := .i64) (p := i4) (q := 1)) ?_
         refine oP (.d (.int .i64 (IntKind.wrap .i64 (i4 + 1)))) p_assign ?_
         refine oEnd ?_
         refine oAgain ?_
         refine oHead [2, 3, 4, 7] [0, 1] (T' := [(2, .d (.lit (List.map e_i64 marks))), (3, .ptr 0 0), (4, .ptr 1 0), (7, .d (.int .i64 (IntKind.wrap .i64 (i4 + 1))))]) (H' := [.box [.d (.int .i64 p0), .d (.int .i64 p1), .d (.lit (List.map e_SPart p2))], .box [.d (.lit (List.map e_Li64 s0)), .d (.lit (List.map e_i64 s1))]]) (hnd := by decide) (h := ?_)
         exact hag1 (IntKind.wrap .i64 (i4 + 1))
       ·refine dSplit 32 (h1 := fun hc => ?_) (h2 := fun hc => ?_)
        ·refine aQ 7 [0] (.agg [.d (.int .i64 p0), .d (.int .i64 p1), .d (.lit (List.map e_SPart p2))]) rfl (k_loadAgg 0 0 (hu := Try.underlying27) (hi := ty27)) ?_
         refine aQ 8 [1] (.agg [.d (.lit (List.map e_Li64 s0)), .d (.lit (List.map e_i64 s1))]) rfl (k_loadAgg 1 0 (hu := Try.underlying31) (hi := ty31)) ?_
         refine aP 9 (.d (.int .i64 i4)) rfl p_move ?_
         refine aP 10 (.d (.lit (List.map e_i64 marks))) rfl p_move ?_
         refine aP 11 (.d (.int .i64 i4)) rfl p_move ?_
         refine dIdx (fun e11 h12 h13 => ?_)
         refine aP 12 (.lptr (e_i64 e11) 0) rfl (k_idxLit e_i64_len marks (a := e11) (k := .i64) (i := i4) (hu := Try.underlying22) (hi := ty3) (h0 := h12) (he := h13)) ?_
         refine aQ 13 [] (.d (.int .i64 e11)) rfl (k_loadL (cells := e_i64 e11) 0 (hu := Try.underlying3)) ?_
         refine dCall (i := 14) (caps := []) (v := (fun (r11 : Bool) => (.d (.bool r11) : V))) (H' := (fun (r11 : Bool) => ([.box [.d (.int .i64 p0), .d (.int .i64 p1), .d (.lit (List.map e_SPart p2))], .box [.d (.lit (List.map e_Li64 s0)), .d (.lit (List.map e_i64 s1))]] : List Blk))) [] _ (ref23_Permitted_goes k p0 p1 p2 s0 s1 i4 e11) rfl (ho := rfl) (hfn := Try.func35) (hb := rfl) (hconv := ConvRs.refl _ _) (hnd := by decide) (hBl := fun _ => (by kernel_rfl)) (hv := fun _ => (by kernel_rfl)) (hH' := fun _ => (by kernel_rfl)) (h := fun r11 => ?_)
         refine aP 15 (.d (.bool (!r11))) rfl (p_not (p := r11)) ?_
         refine aP 16 (.d (.bool (!r11))) rfl (p_pick (b := true)) ?_
         refine dDrop [2, 3, 4, 7, 42] [2, 3, 4, 7, 42] (T' := [(2, .d (.lit (List.map e_i64 marks))), (3, .ptr 0 0), (4, .ptr 1 0), (7, .d (.int .i64 i4)), (42, .d (.bool (!r11)))]) (U' := [(2, .d (.lit (List.map e_i64 marks))), (3, .ptr 0 0), (4, .ptr 1 0), (7, .d (.int .i64 i4)), (42, .d (.bool (!r11)))]) (h := ?_)
         exact hj17 (!r11)
        ·refine aTakeNot (i := 7) rfl (h := ?_)
         refine aTakeNot (i := 8) rfl (h := ?_)
         refine aTakeNot (i := 9) rfl (h := ?_)
         refine aTakeNot (i := 10) rfl (h := ?_)
         refine aTakeNot (i := 11) rfl (h := ?_)
         refine aTakeNot (i := 12) rfl (h := ?_)
         refine aTakeNot (i := 13) rfl (h := ?_)
         refine aTakeNot (i := 14) rfl (h := ?_)
         refine aTakeNot (i := 15) rfl (h := ?_)
         refine aP 16 (.d (.bool false)) rfl (p_pick (b := false)) ?_
         refine dDrop [2, 3, 4, 7, 42] [2, 3, 4, 7, 42] (T' := [(2, .d (.lit (List.map e_i64 marks))), (3, .ptr 0 0), (4, .ptr 1 0), (7, .d (.int .i64 i4)), (42, .d (.bool false))]) (U' := [(2, .d (.lit (List.map e_i64 marks))), (3, .ptr 0 0), (4, .ptr 1 0), (7, .d (.int .i64 i4)), (42, .d (.bool false))]) (h := ?_)
         exact hj17 false
      ·refine oCondF (h := ?_)
       refine oExit rfl ?_
       refine oHead [] [] (T' := []) (H' := []) (hnd := by decide) (h := ?_)
       exact hj11 ()
  ·refine bPickF 12 (fun c => F (c || (((List.length marks) : Int) != ((List.length p2) : Int)))) (h1 := fun hc => ?_) (h2 := fun hc => ?_)
   ·refine oNot (h := ?_)
    refine oNot (h := ?_)
    refine oNot (h := ?_)
    refine oNot (h := ?_)
    refine oNot (h := ?_)
    refine oNot (h := ?_)
    refine oP (.d (.bool true)) (p_pick (b := true)) ?_
    refine oHead [2, 3, 4, 19] [0, 1] (T' := [(2, .d (.lit (List.map e_i64 marks))), (3, .ptr 0 0), (4, .ptr 1 0), (19, .d (.bool true))]) (H' := [.box [.d (.int .i64 p0), .d (.int .i64 p1), .d (.lit (List.map e_SPart p2))], .box [.d (.lit (List.map e_Li64 s0)), .d (.lit (List.map e_i64 s1))]]) (hnd := by decide) (h := ?_)
    exact hj6 true
   ·refine oP (.d (.lit (List.map e_i64 marks))) p_move ?_
    refine oP (.d (.int .i64 ((List.length marks) : Int))) (k_lenLit (enc := e_i64) marks (hu := Try.underlying22)) ?_
    refine oP (.ptr 0 2) (k_fieldAddr 0 0 (hu := Try.underlying27) (hf := rfl) (hi := ty25)) ?_
    refine oQ (.d (.lit (List.map e_SPart p2))) (k_load 0 2 (hu := Try.underlying25)) ?_
    refine oP (.d (.int .i64 ((List.length p2) : Int))) (k_lenLit (enc := e_SPart) p2 (hu := Try.underlying25)) ?_
    refine oP (.d (.bool (((List.length marks) : Int) != ((List.length p2) : Int)))) (p_int (k := .i64) (p := ((List.length marks) : Int)) (q := ((List.length p2) : Int))) ?_
    refine oP (.d (.bool (((List.length marks) : Int) != ((List.length p2) : Int)))) (p_pick (b := false)) ?_
    refine oHead [2, 3, 4, 19] [0, 1] (T' := [(2, .d (.lit (List.map e_i64 marks))), (3, .ptr 0 0), (4, .ptr 1 0), (19, .d (.bool (((List.length marks) : Int) != ((List.length p2) : Int))))]) (H' := [.box [.d (.int .i64 p0), .d (.int .i64 p1), .d (.lit (List.map e_SPart p2))], .box [.d (.lit (List.map e_Li64 s0)), .d (.lit (List.map e_i64 s1))]]) (hnd := by decide) (h := ?_)
    exact hj6 (((List.length marks) : Int) != ((List.length p2) : Int))

/-- awardingbody/awardingbodyref23.Total -/
def ref23_Total_b1 (k : Nat) (p2 : (List SPart)) (s1 : (List Int)) (marks : (List Int)) (again : Int × Int → Option (Int)) : Int × Int → Option (Int) := uc fun sum11 => fun i4 => bif (decide (i4 < ((List.length marks) : Int))) then Option.bind (gidx s1 i4 fun e121 => bif (e121 == 0) then gidx marks i4 fun e122 => some (IntKind.wrap .i64 (sum11 + (gmax e122 0))) else bif (e121 == 1) then gidx p2 i4 fun e123 => some (IntKind.wrap .i64 (sum11 + e123.Max)) else some sum11 : Option (Int)) (fun sum14 => again (sum14, (IntKind.wrap .i64 (i4 + 1)))) else some sum11
def ref23_Total (k : Nat) (p0 : Int) (p1 : Int) (p2 : (List SPart)) (s0 : (List (List Int))) (s1 : (List Int)) (marks : (List Int)) : Option (Int × Int) := Option.bind (ref23_Valid k p0 p1 p2 s0 s1) (fun r14 => bif (!r14) then some (0, 1) else bif (((List.length marks) : Int) != ((List.length p2) : Int)) then some (0, 22) else Option.bind (ref23_Marked k p0 p1 p2 s0 s1 marks) (fun r121 => bif (!r121) then some (0, 8) else Option.bind (gloop (ref23_Total_b1 k p2 s1 marks) k (0, 0) : Option (Int)) (fun sum9 => some (sum9, 0))))
def ref23_Total_E (p0 : Int) (p1 : Int) (p2 : (List SPart)) (s0 : (List (List Int))) (s1 : (List Int)) (marks : (List Int)) : Int × Int → V × List Blk := uc fun r11 => fun r13 => (.tuple [.d (.int .i64 r11), .d (.int .i64 r13)], [])
theorem ref23_Total_goes (k : Nat) (p0 : Int) (p1 : Int) (p2 : (List SPart)) (s0 : (List (List Int))) (s1 : (List Int)) (marks : (List Int)) : RunsO Try.prog 22 [.agg [.d (.int .i64 p0), .d (.int .i64 p1), .d (.lit (List.map e_SPart p2))], .agg [.d (.lit (List.map e_Li64 s0)), .d (.lit (List.map e_i64 s1))], .d (.lit (List.map e_i64 marks))] [] (ref23_Total_E p0 p1 p2 s0 s1 marks) (ref23_Total k p0 p1 p2 s0 s1 marks) := by
  refine RunsO.of_goes (N := 56) (m := 0) (T := [(0, .agg [.d (.int .i64 p0), .d (.int .i64 p1), .d (.lit (List.map e_SPart p2))]), (1, .agg [.d (.lit (List.map e_Li64 s0)), .d (.lit (List.map e_i64 s1))]), (2, .d (.lit (List.map e_i64 marks)))]) Try.func22 rfl rfl (h := ?_)
  unfold ref23_Total
  refine bStart ?_
  refine oSR rfl ?_
  refine oD (.ptr 0 0) (k_box (H' := [.box [.d (.int .i64 p0), .d (.int .i64 p1), .d (.lit (List.map e_SPart p2))]]) (cells := [.d (.int .i64 p0), .d (.int .i64 p1), .d (.lit (List.map e_SPart p2))])) ?_
  refine oD (.ptr 1 0) (k_box (H' := [.box [.d (.int .i64 p0), .d (.int .i64 p1), .d (.lit (List.map e_SPart p2))], .box [.d (.lit (List.map e_Li64 s0)), .d (.lit (List.map e_i64 s1))]]) (cells := [.d (.lit (List.map e_Li64 s0)), .d (.lit (List.map e_i64 s1))])) ?_
  refine oP (.d (.int .i64 0)) p_assign ?_
  refine oP (.d (.int .i64 0)) p_assign ?_
  refine oEnd ?_
  refine oSeq ?_
  refine oSR rfl ?_
  refine oQ (.agg [.d (.int .i64 p0), .d (.int .i64 p1), .d (.lit (List.map e_SPart p2))]) (k_loadAgg 0 0 (hu := Try.underlying27) (hi := ty27)) ?_
  refine oQ (.agg [.d (.lit (List.map e_Li64 s0)), .d (.lit (List.map e_i64 s1))]) (k_loadAgg 1 0 (hu := Try.underlying31) (hi := ty31)) ?_
  refine bCall (caps := []) (v := (fun (r14 : Bool) => (.d (.bool r14) : V))) (H' := (fun (r14 : Bool) => ([.box [.d (.int .i64 p0), .d (.int .i64 p1), .d (.lit (List.map e_SPart p2))], .box [.d (.lit (List.map e_Li64 s0)), .d (.lit (List.map e_i64 s1))]] : List Blk))) [] _ (ref23_Valid_goes k p0 p1 p2 s0 s1) (ho := rfl) (hfn := Try.func31) (hb := rfl) (hconv := ConvRs.refl _ _) (hnd := by decide) (hBl := fun _ => (by kernel_rfl)) (hv := fun _ => (by kernel_rfl)) (hH' := fun _ => (by kernel_rfl)) (h := fun r14 => ?_)
  refine oP (.d (.bool (!r14))) (p_not (p := r14)) ?_
  refine oEnd ?_
  refine bSplit 13 (h1 := fun hc => ?_) (h2 := fun hc => ?_)
  ·refine oCondT (h := ?_)
   refine oSR rfl ?_
   refine oP (.d (.int .i64 0)) p_assign ?_
   refine oP (.d (.int .i64 1)) p_assign ?_
   refine oEnd ?_
   exact oRet (r0 := (0, 1)) (rv := .tuple [.d (.int .i64 0), .d (.int .i64 1)]) (B := []) (vs := [.d (.int .i64 0), .d (.int .i64 1)]) (σ := []) (hf := Try.func22) (hrs := rfl) (hres := .cons _ _ _ _ (.tmp 6 _ (by kernel_rfl)) (.cons _ _ _ _ (.tmp 7 _ (by kernel_rfl)) .nil)) (hnd := by decide)
  ·refine oCondF (h := ?_)
   refine oSkip ?_
   refine oSeq ?_
   refine oSR rfl ?_
   refine oP (.d (.lit (List.map e_i64 marks))) p_move ?_
   refine oP (.d (.int .i64 ((List.length marks) : Int))) (k_lenLit (enc := e_i64) marks (hu := Try.underlying22)) ?_
   refine oP (.ptr 0 2) (k_fieldAddr 0 0 (hu := Try.underlying27) (hf := rfl) (hi := ty25)) ?_
   refine oQ (.d (.lit (List.map e_SPart p2))) (k_load 0 2 (hu := Try.underlying25)) ?_
   refine oP (.d (.int .i64 ((List.length p2) : Int))) (k_lenLit (enc := e_SPart) p2 (hu := Try.underlying25)) ?_
   refine oP (.d (.bool (((List.length marks) : Int) != ((List.length p2) : Int)))) (p_int (k := .i64) (p := ((List.length marks) : Int)) (q := ((List.length p2) : Int))) ?_
   refine oEnd ?_
   refine bSplit 19 (h1 := fun hc => ?_) (h2 := fun hc => ?_)
   ·refine oCondT (h := ?_)
    refine oSR rfl ?_
    refine oP (.d (.int .i64 0)) p_assign ?_
    refine oP (.d (.int .i64 22)) p_assign ?_
    refine oEnd ?_
    exact oRet (r0 := (0, 22)) (rv := .tuple [.d (.int .i64 0), .d (.int .i64 22)]) (B := []) (vs := [.d (.int .i64 0), .d (.int .i64 22)]) (σ := []) (hf := Try.func22) (hrs := rfl) (hres := .cons _ _ _ _ (.tmp 6 _ (by kernel_rfl)) (.cons _ _ _ _ (.tmp 7 _ (by kernel_rfl)) .nil)) (hnd := by decide)
   ·refine oCondF (h := ?_)
    refine oSkip ?_
    refine oSeq ?_
    refine oSR rfl ?_
    refine oQ (.agg [.d (.int .i64 p0), .d (.int .i64 p1), .d (.lit (List.map e_SPart p2))]) (k_loadAgg 0 0 (hu := Try.underlying27) (hi := ty27)) ?_
    refine oQ (.agg [.d (.lit (List.map e_Li64 s0)), .d (.lit (List.map e_i64 s1))]) (k_loadAgg 1 0 (hu := Try.underlying31) (hi := ty31)) ?_
    refine oP (.d (.lit (List.map e_i64 marks))) p_move ?_
    refine bCall (caps := []) (v := (fun (r121 : Bool) => (.d (.bool r121) : V))) (H' := (fun (r121 : Bool) => ([.box [.d (.int .i64 p0), .d (.int .i64 p1), .d (.lit (List.map e_SPart p2))], .box [.d (.lit (List.map e_Li64 s0)), .d (.lit (List.map e_i64 s1))]] : List Blk))) [] _ (ref23_Marked_goes k p0 p1 p2 s0 s1 marks) (ho := rfl) (hfn := Try.func37) (hb := rfl) (hconv := ConvRs.refl _ _) (hnd := by decide) (hBl := fun _ => (by kernel_rfl)) (hv := fun _ => (by kernel_rfl)) (hH' := fun _ => (by kernel_rfl)) (h := fun r121 => ?_)
    refine oP (.d (.bool (!r121))) (p_not (p := r121)) ?_
    refine oEnd ?_
    refine bSplit 24 (h1 := fun hc => ?_) (h2 := fun hc => ?_)
    ·refine oCondT (h := ?_)
     refine oSR rfl ?_
     refine oP (.d (.int .i64 0)) p_assign ?_
     refine oP (.d (.int .i64 8)) p_assign ?_
     refine oEnd ?_
     exact oRet (r0 := (0, 8)) (rv := .tuple [.d (.int .i64 0), .d (.int .i64 8)]) (B := []) (vs := [.d (.int .i64 0), .d (.int .i64 8)]) (σ := []) (hf := Try.func22) (hrs := rfl) (hres := .cons _ _ _ _ (.tmp 6 _ (by kernel_rfl)) (.cons _ _ _ _ (.tmp 7 _ (by kernel_rfl)) .nil)) (hnd := by decide)
    ·refine oCondF (h := ?_)
     refine oSkip ?_
     refine oSR rfl ?_
     refine oP (.d (.int .i64 0)) p_assign ?_
     refine oEnd ?_
     refine oSeq ?_
     refine oSR rfl ?_
     refine oP (.d (.int .i64 0)) p_assign ?_
     refine oEnd ?_
     refine bJoin ((fun (sum9 : Int) => [(8, .d (.int .i64 sum9))])) ((fun (sum9 : Int) => [])) (fun s => s) (fun sum9 => ?_) (fun hj6 => ?_)
     ·refine oView (T' := [(8, .d (.int .i64 sum9))]) (H' := []) (h := ?_)
      refine oSR rfl ?_
      refine oP (.d (.int .i64 sum9)) p_move ?_
      refine oP (.d (.int .i64 sum9)) p_assign ?_
      refine oP (.d (.int .i64 0)) p_assign ?_
      refine oEnd ?_
      exact oRet (r0 := (sum9, 0)) (rv := .tuple [.d (.int .i64 sum9), .d (.int .i64 0)]) (B := []) (vs := [.d (.int .i64 sum9), .d (.int .i64 0)]) (σ := []) (hf := Try.func22) (hrs := rfl) (hres := .cons _ _ _ _ (.tmp 6 _ (by kernel_rfl)) (.cons _ _ _ _ (.tmp 7 _ (by kernel_rfl)) .nil)) (hnd := by decide)
     ·refine oBlock ?_
      refine oLoop ?_
      refine oHead [2, 3, 4, 8, 9] [0, 1] (T' := [(2, .d (.lit (List.map e_i64 marks))), (3, .ptr 0 0), (4, .ptr 1 0), (8, .d (.int .i64 0)), (9, .d (.int .i64 0))]) (H' := [.box [.d (.int .i64 p0), .d (.int .i64 p1), .d (.lit (List.map e_SPart p2))], .box [.d (.lit (List.map e_Li64 s0)), .d (.lit (List.map e_i64 s1))]]) (hnd := by decide) (h := ?_)
      refine bLoop (body := ref23_Total_b1 k p2 s1 marks) ((uc fun (sum11 : Int) => (fun (i4 : Int) => [(2, .d (.lit (List.map e_i64 marks))), (3, .ptr 0 0), (4, .ptr 1 0), (8, .d (.int .i64 sum11)), (9, .d (.int .i64 i4))]))) ((uc fun (sum11 : Int) => (fun (i4 : Int) => [.box [.d (.int .i64 p0), .d (.int .i64 p1), .d (.lit (List.map e_SPart p2))], .box [.d (.lit (List.map e_Li64 s0)), .d (.lit (List.map e_i64 s1))]]))) (fun again hag1 s => ?_) k (0, 0)
      ·unfold ref23_Total_b1
       obtain ⟨sum11, i4⟩ := s
       refine bUc ?_
       refine oView (T' := [(2, .d (.lit (List.map e_i64 marks))), (3, .ptr 0 0), (4, .ptr 1 0), (8, .d (.int .i64 sum11)), (9, .d (.int .i64 i4))]) (H' := [.box [.d (.int .i64 p0), .d (.int .i64 p1), .d (.lit (List.map e_SPart p2))], .box [.d (.lit (List.map e_Li64 s0)), .d (.lit (List.map e_i64 s1))]]) (h := ?_)
       refine oSeq ?_
       refine oSR rfl ?_
       refine oP (.d (.int .i64 i4)) p_move ?_
       refine oP (.d (.lit (List.map e_i64 marks))) p_move ?_
       refine oP (.d (.int .i64 ((List.length marks) : Int))) (k_lenLit (enc := e_i64) marks (hu := Try.underlying22)) ?_
       refine oP (.d (.bool (decide (i4 < ((List.length marks) : Int))))) (p_int (k := .i64) (p := i4) (q := ((List.length marks) : Int))) ?_
       refine oEnd ?_
       refine bSplit 28 (h1 := fun hc => ?_) (h2 := fun hc => ?_)
       ·refine oCondT (h := ?_)
        refine oSkip ?_
        refine oSeq ?_
        refine bJoin ((fun (sum14 : Int) => [(2, .d (.lit (List.map e_i64 marks))), (3, .ptr 0 0), (4, .ptr 1 0), (8, .d (.int .i64 sum14)), (9, .d (.int .i64 i4))])) ((fun (sum14 : Int) => [.box [.d (.int .i64 p0), .d (.int .i64 p1), .d (.lit (List.map e_SPart p2))], .box [.d (.lit (List.map e_Li64 s0)), .d (.lit (List.map e_i64 s1))]])) (fun s => s) (fun sum14 => ?_) (fun hj9 => ?_)
        ·refine oView (T' := [(2, .d (.lit (List.map e_i64 marks))), (3, .ptr 0 0), (4, .ptr 1 0), (8, .d (.int .i64 sum14)), (9, .d (.int .i64 i4))]) (H' := [.box [.d (.int .i64 p0), .d (.int .i64 p1), .d (.lit (List.map e_SPart p2))], .box [.d (.lit (List.map e_Li64 s0)), .d (.lit (List.map e_i64 s1))]]) (h := ?_)
         refine oRegion rfl ?_
         refine oP (.d (.int .i64 i4)) p_move ?_
         refine oP (.d (.int .i64 (IntKind.wrap .i64 (i4 + 1)))) (p_int (k := .i64) (p := i4) (q := 1)) ?_
         refine oP (.d (.int .i64 (IntKind.wrap .i64 (i4 + 1)))) p_assign ?_
         refine oEnd ?_
         refine oAgain ?_
         refine oHead [2, 3, 4, 8, 9] [0, 1] (T' := [(2, .d (.lit (List.map e_i64 marks))), (3, .ptr 0 0), (4, .ptr 1 0), (8, .d (.int .i64 sum14)), (9, .d (.int .i64 (IntKind.wrap .i64 (i4 + 1))))]) (H' := [.box [.d (.int .i64 p0), .d (.int .i64 p1), .d (.lit (List.map e_SPart p2))], .box [.d (.lit (List.map e_Li64 s0)), .d (.lit (List.map e_i64 s1))]]) (hnd := by decide) (h := ?_)
         exact hag1 (sum14, (IntKind.wrap .i64 (i4 + 1)))
        ·refine oBlock ?_
         refine oSR rfl ?_
         refine oP (.ptr 1 1) (k_fieldAddr 1 0 (hu := Try.underlying31) (hf := rfl) (hi := ty22)) ?_
         refine oQ (.d (.lit (List.map e_i64 s1))) (k_load 1 1 (hu := Try.underlying22)) ?_
         refine oP (.d (.int .i64 i4)) p_move ?_
         refine bIdx (fun e121 h142 h143 => ?_)
         refine oP (.lptr (e_i64 e121) 0) (k_idxLit e_i64_len s1 (a := e121) (k := .i64) (i := i4) (hu := Try.underlying22) (hi := ty3) (h0 := h142) (he := h143)) ?_
         refine oQ (.d (.int .i64 e121)) (k_loadL (cells := e_i64 e121) 0 (hu := Try.underlying3)) ?_
         refine oEnd ?_
         refine oBlock ?_
         refine oSR rfl ?_
         refine oP (.d (.bool (e121 == 0))) (p_int (k := .i64) (p := e121) (q := 0)) ?_
         refine oP (.d (.bool (e121 == 0))) p_assign ?_
         refine oEnd ?_
         refine bSplit 36 (h1 := fun hc => ?_) (h2 := fun hc => ?_)
         ·refine oCondT (h := ?_)
          refine oRegion rfl ?_
          refine oP (.d (.int .i64 sum11)) p_move ?_
          refine oP (.d (.lit (List.map e_i64 marks))) p_move ?_
          refine oP (.d (.int .i64 i4)) p_move ?_
          refine bIdx (fun e122 h144 h145 => ?_)
          refine oP (.lptr (e_i64 e122) 0) (k_idxLit e_i64_len marks (a := e122) (k := .i64) (i := i4) (hu := Try.underlying22) (hi := ty3) (h0 := h144) (he := h145)) ?_
          refine oQ (.d (.int .i64 e122)) (k_loadL (cells := e_i64 e122) 0 (hu := Try.underlying3)) ?_
          refine oP (.d (.int .i64 (gmax e122 0))) (p_max2 (k := .i64) (p := e122) (q := 0)) ?_
          refine oP (.d (.int .i64 (IntKind.wrap .i64 (sum11 + (gmax e122 0))))) (p_int (k := .i64) (p := sum11) (q := (gmax e122 0))) ?_
          refine oP (.d (.int .i64 (IntKind.wrap .i64 (sum11 + (gmax e122 0))))) p_assign ?_
          refine oEnd ?_
          refine oBlk ?_
          refine oBlk ?_
          refine oHead [2, 3, 4, 8, 9] [0, 1] (T' := [(2, .d (.lit (List.map e_i64 marks))), (3, .ptr 0 0), (4, .ptr 1 0), (8, .d (.int .i64 (IntKind.wrap .i64 (sum11 + (gmax e122 0))))), (9, .d (.int .i64 i4))]) (H' := [.box [.d (.int .i64 p0), .d (.int .i64 p1), .d (.lit (List.map e_SPart p2))], .box [.d (.lit (List.map e_Li64 s0)), .d (.lit (List.map e_i64 s1))]]) (hnd := by decide) (h := ?_)
          exact hj9 (IntKind.wrap .i64 (sum11 + (gmax e122 0)))
         ·refine oCondF (h := ?_)
          refine oSR rfl ?_
          refine oP (.d (.bool (e121 == 1))) (p_int (k := .i64) (p := e121) (q := 1)) ?_
          refine oP (.d (.bool (e121 == 1))) p_assign ?_
          refine oEnd ?_
          refine bSplit 45 (h1 := fun hc => ?_) (h2 := fun hc => ?_)
          ·refine oCondT (h := ?_)
           refine oRegion rfl ?_
           refine oP (.d (.int .i64 sum11)) p_move ?_
           refine oP (.ptr 0 2) (k_fieldAddr 0 0 (hu := Try.underlying27) (hf := rfl) (hi := ty25)) ?_
           refine oQ (.d (.lit (List.map e_SPart p2))) (k_load 0 2 (hu := Try.underlying25)) ?_
           refine oP (.d (.int .i64 i4)) p_move ?_
           refine bIdx (fun e123 h146 h147 => ?_)
           refine oP (.lptr (e_SPart e123) 0) (k_idxLit e_SPart_len p2 (a := e123) (k := .i64) (i := i4) (hu := Try.underlying25) (hi := ty49) (h0 := h146) (he := h147)) ?_
           refine oP (.lptr (e_SPart e123) 1) (k_fieldAddrL (cells := e_SPart e123) 0 (hu := Try.underlying49) (hf := rfl) (hi := ty3)) ?_
           refine oQ (.d (.int .i64 e123.Max)) (k_loadL (cells := e_SPart e123) 1 (hu := Try.underlying3)) ?_
           refine oP (.d (.int .i64 (IntKind.wrap .i64 (sum11 + e123.Max)))) (p_int (k := .i64) (p := sum11) (q := e123.Max)) ?_
           refine oP (.d (.int .i64 (IntKind.wrap .i64 (sum11 + e123.Max)))) p_assign ?_
           refine oEnd ?_
           refine oBlk ?_
           refine oBlk ?_
           refine oHead [2, 3, 4, 8, 9] [0, 1] (T' := [(2, .d (.lit (List.map e_i64 marks))), (3, .ptr 0 0), (4, .ptr 1 0), (8, .d (.int .i64 (IntKind.wrap .i64 (sum11 + e123.Max)))), (9, .d (.int .i64 i4))]) (H' := [.box [.d (.int .i64 p0), .d (.int .i64 p1), .d (.lit (List.map e_SPart p2))], .box [.d (.lit (List.map e_Li64 s0)), .d (.lit (List.map e_i64 s1))]]) (hnd := by decide) (h := ?_)
           exact hj9 (IntKind.wrap .i64 (sum11 + e123.Max))
          ·refine oCondF (h := ?_)
           refine oSkip ?_
           refine oBlk ?_
           refine oBlk ?_
           refine oHead [2, 3, 4, 8, 9] [0, 1] (T' := [(2, .d (.lit (List.map e_i64 marks))), (3, .ptr 0 0), (4, .ptr 1 0), (8, .d (.int .i64 sum11)), (9, .d (.int .i64 i4))]) (H' := [.box [.d (.int .i64 p0), .d (.int .i64 p1), .d (.lit (List.map e_SPart p2))], .box [.d (.lit (List.map e_Li64 s0)), .d (.lit (List.map e_i64 s1))]]) (hnd := by decide) (h := ?_)
           exact hj9 sum11
       ·refine oCondF (h := ?_)
        refine oExit rfl ?_
        refine oHead [8] [] (T' := [(8, .d (.int .i64 sum11))]) (H' := []) (hnd := by decide) (h := ?_)
        exact hj6 sum11

/-- awardingbody/scheme.Maximum$1 -/
def scheme_Maximum_1 (k : Nat) (i : Int) (x : Int) (x1 : Int) (x2 : (List SPart)) : Option (Int) := gidx x2 i fun e11 => some e11.Max
def scheme_Maximum_1_E (i : Int) (x : Int) (x1 : Int) (x2 : (List SPart)) : Int → V × List Blk := fun r1 => (.d (.int .i64 r1), [.box [.d (.int .i64 x), .d (.int .i64 x1), .d (.lit (List.map e_SPart x2))]])
theorem scheme_Maximum_1_goes (k : Nat) (i : Int) (x : Int) (x1 : Int) (x2 : (List SPart)) : RunsO Try.prog 47 [.d (.int .i64 i), .ptr 0 0] [.box [.d (.int .i64 x), .d (.int .i64 x1), .d (.lit (List.map e_SPart x2))]] (scheme_Maximum_1_E i x x1 x2) (scheme_Maximum_1 k i x x1 x2) := by
  refine RunsO.of_goes (N := 10) (m := 1) (T := [(0, .d (.int .i64 i)), (1, .ptr 0 0)]) Try.func47 rfl rfl (h := ?_)
  unfold scheme_Maximum_1
  refine bStart ?_
  refine oSR rfl ?_
  refine oP (.d (.int .i64 0)) p_assign ?_
  refine oEnd ?_
  refine oSR rfl ?_
  refine oP (.ptr 0 2) (k_fieldAddr 0 0 (hu := Try.underlying27) (hf := rfl) (hi := ty25)) ?_
  refine oQ (.d (.lit (List.map e_SPart x2))) (k_load 0 2 (hu := Try.underlying25)) ?_
  refine oP (.d (.int .i64 i)) p_move ?_
  refine bIdx (fun e11 h12 h13 => ?_)
  refine oP (.lptr (e_SPart e11) 0) (k_idxLit e_SPart_len x2 (a := e11) (k := .i64) (i := i) (hu := Try.underlying25) (hi := ty49) (h0 := h12) (he := h13)) ?_
  refine oP (.lptr (e_SPart e11) 1) (k_fieldAddrL (cells := e_SPart e11) 0 (hu := Try.underlying49) (hf := rfl) (hi := ty3)) ?_
  refine oQ (.d (.int .i64 e11.Max)) (k_loadL (cells := e_SPart e11) 1 (hu := Try.underlying3)) ?_
  refine oP (.d (.int .i64 e11.Max)) p_assign ?_
  refine oEnd ?_
  exact oRet (r0 := e11.Max) (rv := .d (.int .i64 e11.Max)) (B := [.box [.d (.int .i64 x), .d (.int .i64 x1), .d (.lit (List.map e_SPart x2))]]) (vs := [.d (.int .i64 e11.Max)]) (σ := [0]) (hf := Try.func47) (hrs := rfl) (hres := .cons _ _ _ _ (.tmp 3 _ (by kernel_rfl)) .nil) (hnd := by decide)

/-- awardingbody/scheme.sum -/
def scheme_sum_2_b1 (k : Nat) (p2 : (List SPart)) (s1 : (List Int)) (x : Int) (x1 : Int) (x2 : (List SPart)) (again : Int × Int → Option (Int)) : Int × Int → Option (Int) := uc fun n11 => fun x7 => bif (decide (x7 < ((List.length p2) : Int))) then Option.bind (gidx p2 x7 fun e114 => gidx s1 x7 fun e115 => bif (e115 == 0) then Option.bind (scheme_Maximum_1 k x7 x x1 x2) (fun r18 => some (IntKind.wrap .i64 (n11 + r18))) else bif (e115 == 1) then some (IntKind.wrap .i64 (n11 + e114.Max)) else bif (e115 == 2) then some n11 else some n11 : Option (Int)) (fun n14 => again (n14, (IntKind.wrap .i64 (x7 + 1)))) else some n11
def scheme_sum_2 (k : Nat) (p0 : Int) (p1 : Int) (p2 : (List SPart)) (s0 : (List (List Int))) (s1 : (List Int)) (x : Int) (x1 : Int) (x2 : (List SPart)) : Option (Int) := Option.bind (gloop (scheme_sum_2_b1 k p2 s1 x x1 x2) k (0, 0) : Option (Int)) (fun n9 => some n9)
def scheme_sum_2_E (p0 : Int) (p1 : Int) (p2 : (List SPart)) (s0 : (List (List Int))) (s1 : (List Int)) (x : Int) (x1 : Int) (x2 : (List SPart)) : Int → V × List Blk := fun r12 => (.d (.int .i64 r12), [.box [.d (.int .i64 x), .d (.int .i64 x1), .d (.lit (List.map e_SPart x2))]])
theorem scheme_sum_2_goes (k : Nat) (p0 : Int) (p1 : Int) (p2 : (List SPart)) (s0 : (List (List Int))) (s1 : (List Int)) (x : Int) (x1 : Int) (x2 : (List SPart)) : RunsO Try.prog 45 [.agg [.d (.int .i64 p0), .d (.int .i64 p1), .d (.lit (List.map e_SPart p2))], .agg [.d (.lit (List.map e_Li64 s0)), .d (.lit (List.map e_i64 s1))], .fn 47 [.ptr 0 0]] [.box [.d (.int .i64 x), .d (.int .i64 x1), .d (.lit (List.map e_SPart x2))]] (scheme_sum_2_E p0 p1 p2 s0 s1 x x1 x2) (scheme_sum_2 k p0 p1 p2 s0 s1 x x1 x2) := by
  refine RunsO.of_goes (N := 40) (m := 1) (T := [(0, .agg [.d (.int .i64 p0), .d (.int .i64 p1), .d (.lit (List.map e_SPart p2))]), (1, .agg [.d (.lit (List.map e_Li64 s0)), .d (.lit (List.map e_i64 s1))]), (2, .fn 47 [.ptr 0 0])]) Try.func45 rfl rfl (h := ?_)
  unfold scheme_sum_2
  refine bStart ?_
  refine oSR rfl ?_
  refine oD (.ptr 1 0) (k_box (H' := [.box [.d (.int .i64 x), .d (.int .i64 x1), .d (.lit (List.map e_SPart x2))], .box [.d (.int .i64 p0), .d (.int .i64 p1), .d (.lit (List.map e_SPart p2))]]) (cells := [.d (.int .i64 p0), .d (.int .i64 p1), .d (.lit (List.map e_SPart p2))])) ?_
  refine oD (.ptr 2 0) (k_box (H' := [.box [.d (.int .i64 x), .d (.int .i64 x1), .d (.lit (List.map e_SPart x2))], .box [.d (.int .i64 p0), .d (.int .i64 p1), .d (.lit (List.map e_SPart p2))], .box [.d (.lit (List.map e_Li64 s0)), .d (.lit (List.map e_i64 s1))]]) (cells := [.d (.lit (List.map e_Li64 s0)), .d (.lit (List.map e_i64 s1))])) ?_
  refine oP (.d (.int .i64 0)) p_assign ?_
  refine oEnd ?_
  refine oSR rfl ?_
  refine oP (.d (.int .i64 0)) p_assign ?_
  refine oEnd ?_
  refine oSeq ?_
  refine oSR rfl ?_
  refine oP (.ptr 1 2) (k_fieldAddr 1 0 (hu := Try.underlying27) (hf := rfl) (hi := ty25)) ?_
  refine oQ (.d (.lit (List.map e_SPart p2))) (k_load 1 2 (hu := Try.underlying25)) ?_
  refine oP (.d (.int .i64 ((List.length p2) : Int))) (k_lenLit (enc := e_SPart) p2 (hu := Try.underlying25)) ?_
  refine oP (.d (.int .i64 0)) p_move ?_
  refine oEnd ?_
  refine bJoin ((fun (n9 : Int) => [(7, .d (.int .i64 n9))])) ((fun (n9 : Int) => [.box [.d (.int .i64 x), .d (.int .i64 x1), .d (.lit (List.map e_SPart x2))]])) (fun s => s) (fun n9 => ?_) (fun hj6 => ?_)
  ·refine oView (T' := [(7, .d (.int .i64 n9))]) (H' := [.box [.d (.int .i64 x), .d (.int .i64 x1), .d (.lit (List.map e_SPart x2))]]) (h := ?_)
   refine oSR rfl ?_
   refine oP (.d (.int .i64 n9)) p_move ?_
   refine oP (.d (.int .i64 n9)) p_assign ?_
   refine oEnd ?_
   exact oRet (r0 := n9) (rv := .d (.int .i64 n9)) (B := [.box [.d (.int .i64 x), .d (.int .i64 x1), .d (.lit (List.map e_SPart x2))]]) (vs := [.d (.int .i64 n9)]) (σ := [0]) (hf := Try.func45) (hrs := rfl) (hres := .cons _ _ _ _ (.tmp 6 _ (by kernel_rfl)) .nil) (hnd := by decide)
  ·refine oBlock ?_
   refine oLoop ?_
   refine oHead [2, 4, 7, 11, 12, 13] [0, 2] (T' := [(2, .fn 47 [.ptr 0 0]), (4, .ptr 1 0), (7, .d (.int .i64 0)), (11, .d (.lit (List.map e_SPart p2))), (12, .d (.int .i64 ((List.length p2) : Int))), (13, .d (.int .i64 0))]) (H' := [.box [.d (.int .i64 x), .d (.int .i64 x1), .d (.lit (List.map e_SPart x2))], .box [.d (.lit (List.map e_Li64 s0)), .d (.lit (List.map e_i64 s1))]]) (hnd := by decide) (h := ?_)
   refine bLoop (body := scheme_sum_2_b1 k p2 s1 x x1 x2) ((uc fun (n11 : Int) => (fun (x7 : Int) => [(2, .fn 47 [.ptr 0 0]), (4, .ptr 1 0), (7, .d (.int .i64 n11)), (11, .d (.lit (List.map e_SPart p2))), (12, .d (.int .i64 ((List.length p2) : Int))), (13, .d (.int .i64 x7))]))) ((uc fun (n11 : Int) => (fun (x7 : Int) => [.box [.d (.int .i64 x), .d (.int .i64 x1), .d (.lit (List.map e_SPart x2))], .box [.d (.lit (List.map e_Li64 s0)), .d (.lit (List.map e_i64 s1))]]))) (fun again hag1 s => ?_) k (0, 0)
   ·unfold scheme_sum_2_b1
    obtain ⟨n11, x7⟩ := s
    refine bUc ?_
    refine oView (T' := [(2, .fn 47 [.ptr 0 0]), (4, .ptr 1 0), (7, .d (.int .i64 n11)), (11, .d (.lit (List.map e_SPart p2))), (12, .d (.int .i64 ((List.length p2) : Int))), (13, .d (.int .i64 x7))]) (H' := [.box [.d (.int .i64 x), .d (.int .i64 x1), .d (.lit (List.map e_SPart x2))], .box [.d (.lit (List.map e_Li64 s0)), .d (.lit (List.map e_i64 s1))]]) (h := ?_)
    refine oSR rfl ?_
    refine oP (.d (.bool (decide (x7 < ((List.length p2) : Int))))) (p_int (k := .i64) (p := x7) (q := ((List.length p2) : Int))) ?_
    refine oEnd ?_
    refine oSeq ?_
    refine bSplit 14 (h1 := fun hc => ?_) (h2 := fun hc => ?_)
    ·refine oCondT (h := ?_)
     refine oSkip ?_
     refine oSeq ?_
     refine bJoin ((fun (n14 : Int) => [(2, .fn 47 [.ptr 0 0]), (4, .ptr 1 0), (7, .d (.int .i64 n14)), (11, .d (.lit (List.map e_SPart p2))), (12, .d (.int .i64 ((List.length p2) : Int))), (13, .d (.int .i64 x7))])) ((fun (n14 : Int) => [.box [.d (.int .i64 x), .d (.int .i64 x1), .d (.lit (List.map e_SPart x2))], .box [.d (.lit (List.map e_Li64 s0)), .d (.lit (List.map e_i64 s1))]])) (fun s => s) (fun n14 => ?_) (fun hj9 => ?_)
     ·refine oView (T' := [(2, .fn 47 [.ptr 0 0]), (4, .ptr 1 0), (7, .d (.int .i64 n14)), (11, .d (.lit (List.map e_SPart p2))), (12, .d (.int .i64 ((List.length p2) : Int))), (13, .d (.int .i64 x7))]) (H' := [.box [.d (.int .i64 x), .d (.int .i64 x1), .d (.lit (List.map e_SPart x2))], .box [.d (.lit (List.map e_Li64 s0)), .d (.lit (List.map e_i64 s1))]]) (h := ?_)
      refine oRegion rfl ?_
      refine oP (.d (.int .i64 (IntKind.wrap .i64 (x7 + 1)))) (p_int (k := .i64) (p := x7) (q := 1)) ?_
      refine oP (.d (.int .i64 (IntKind.wrap .i64 (x7 + 1)))) p_move ?_
      refine oEnd ?_
      refine oAgain ?_
      refine oHead [2, 4, 7, 11, 12, 13] [0, 1] (T' := [(2, .fn 47 [.ptr 0 0]), (4, .ptr 1 0), (7, .d (.int .i64 n14)), (11, .d (.lit (List.map e_SPart p2))), (12, .d (.int .i64 ((List.length p2) : Int))), (13, .d (.int .i64 (IntKind.wrap .i64 (x7 + 1))))]) (H' := [.box [.d (.int .i64 x), .d (.int .i64 x1), .d (.lit (List.map e_SPart x2))], .box [.d (.lit (List.map e_Li64 s0)), .d (.lit (List.map e_i64 s1))]]) (hnd := by decide) (h := ?_)
      exact hag1 (n14, (IntKind.wrap .i64 (x7 + 1)))
     ·refine oBlock ?_
      refine oSR rfl ?_
      refine oP (.d (.int .i64 x7)) p_move ?_
      refine bIdx (fun e114 h128 h129 => ?_)
      refine oP (.lptr (e_SPart e114) 0) (k_idxLit e_SPart_len p2 (a := e114) (k := .i64) (i := x7) (hu := Try.underlying25) (hi := ty49) (h0 := h128) (he := h129)) ?_
      refine oQ (.agg [.d (.int .i64 e114.Kind), .d (.int .i64 e114.Max), .d (.int .i64 e114.Topic), .d (.int .i64 e114.Objective), .d (.int .i64 e114.Options), .d (.int .i64 e114.Key)]) (k_loadLAgg (cells := e_SPart e114) 0 [(.int .i64 e114.Kind), (.int .i64 e114.Max), (.int .i64 e114.Topic), (.int .i64 e114.Objective), (.int .i64 e114.Options), (.int .i64 e114.Key)] (hu := Try.underlying49) (hi := ty49)) ?_
      refine oD (.ptr 2 0) (k_alloc (H' := [.box [.d (.int .i64 x), .d (.int .i64 x1), .d (.lit (List.map e_SPart x2))], .box [.d (.lit (List.map e_Li64 s0)), .d (.lit (List.map e_i64 s1))], .box [.d (.int .i64 0), .d (.int .i64 0), .d (.int .i64 0), .d (.int .i64 0), .d (.int .i64 0), .d (.int .i64 0)]]) ty49) ?_
      refine oP (.d (.int .i64 x7)) p_assign ?_
      refine oD (.undef) (k_store (vs := [.d (.int .i64 e114.Kind), .d (.int .i64 e114.Max), .d (.int .i64 e114.Topic), .d (.int .i64 e114.Objective), .d (.int .i64 e114.Options), .d (.int .i64 e114.Key)]) (H' := [.box [.d (.int .i64 x), .d (.int .i64 x1), .d (.lit (List.map e_SPart x2))], .box [.d (.lit (List.map e_Li64 s0)), .d (.lit (List.map e_i64 s1))], .box [.d (.int .i64 e114.Kind), .d (.int .i64 e114.Max), .d (.int .i64 e114.Topic), .d (.int .i64 e114.Objective), .d (.int .i64 e114.Options), .d (.int .i64 e114.Key)]]) 2 0 (hi := ty49)) ?_
      refine oEnd ?_
      refine oSR rfl ?_
      refine oP (.ptr 1 1) (k_fieldAddr 1 0 (hu := Try.underlying31) (hf := rfl) (hi := ty22)) ?_
      refine oQ (.d (.lit (List.map e_i64 s1))) (k_load 1 1 (hu := Try.underlying22)) ?_
      refine oP (.d (.int .i64 x7)) p_move ?_
      refine bIdx (fun e115 h130 h131 => ?_)
      refine oP (.lptr (e_i64 e115) 0) (k_idxLit e_i64_len s1 (a := e115) (k := .i64) (i := x7) (hu := Try.underlying22) (hi := ty3) (h0 := h130) (he := h131)) ?_
      refine oQ (.d (.int .i64 e115)) (k_loadL (cells := e_i64 e115) 0 (hu := Try.underlying3)) ?_
      refine oEnd ?_
      refine oBlock ?_
      refine oSR rfl ?_
      refine oP (.d (.bool (e115 == 0))) (p_int (k := .i64) (p := e115) (q := 0)) ?_
      refine oP (.d (.bool (e115 == 0))) p_assign ?_
      refine oEnd ?_
      refine bSplit 23 (h1 := fun hc => ?_) (h2 := fun hc => ?_)
      ·refine oCondT (h := ?_)
       refine oRegion rfl ?_
       refine oP (.d (.int .i64 n11)) p_move ?_
       refine oP (.fn 47 [.ptr 0 0]) p_move ?_
       refine oP (.d (.int .i64 x7)) p_move ?_
       refine bCall (caps := [.ptr 0 0]) (v := (fun (r18 : Int) => (.d (.int .i64 r18) : V))) (H' := (fun (r18 : Int) => ([.box [.d (.int .i64 x), .d (.int .i64 x1), .d (.lit (List.map e_SPart x2))], .box [.d (.lit (List.map e_Li64 s0)), .d (.lit (List.map e_i64 s1))], .box [.d (.int .i64 e114.Kind), .d (.int .i64 e114.Max), .d (.int .i64 e114.Topic), .d (.int .i64 e114.Objective), .d (.int .i64 e114.Options), .d (.int .i64 e114.Key)]] : List Blk))) [0] _ (scheme_Maximum_1_goes k x7 x x1 x2) (ho := rfl) (hfn := Try.func47) (hb := rfl) (hconv := ConvRs.refl _ _) (hnd := by decide) (hBl := fun _ => (by kernel_rfl)) (hv := fun _ => (by kernel_rfl)) (hH' := fun _ => (by kernel_rfl)) (h := fun r18 => ?_)
       refine oP (.d (.int .i64 (IntKind.wrap .i64 (n11 + r18)))) (p_int (k := .i64) (p := n11) (q := r18)) ?_
       refine oP (.d (.int .i64 (IntKind.wrap .i64 (n11 + r18)))) p_assign ?_
       refine oEnd ?_
       refine oBlk ?_
       refine oBlk ?_
       refine oHead [2, 4, 7, 11, 12, 13] [0, 1] (T' := [(2, .fn 47 [.ptr 0 0]), (4, .ptr 1 0), (7, .d (.int .i64 (IntKind.wrap .i64 (n11 + r18)))), (11, .d (.lit (List.map e_SPart p2))), (12, .d (.int .i64 ((List.length p2) : Int))), (13, .d (.int .i64 x7))]) (H' := [.box [.d (.int .i64 x), .d (.int .i64 x1), .d (.lit (List.map e_SPart x2))], .box [.d (.lit (List.map e_Li64 s0)), .d (.lit (List.map e_i64 s1))]]) (hnd := by decide) (h := ?_)
       exact hj9 (IntKind.wrap .i64 (n11 + r18))
      ·refine oCondF (h := ?_)
       refine oSR rfl ?_
       refine oP (.d (.bool (e115 == 1))) (p_int (k := .i64) (p := e115) (q := 1)) ?_
       refine oP (.d (.bool (e115 == 1))) p_assign ?_
       refine oEnd ?_
       refine bSplit 30 (h1 := fun hc => ?_) (h2 := fun hc => ?_)
       ·refine oCondT (h := ?_)
        refine oRegion rfl ?_
        refine oP (.d (.int .i64 n11)) p_move ?_
        refine oP (.ptr 2 1) (k_fieldAddr 2 0 (hu := Try.underlying49) (hf := rfl) (hi := ty3)) ?_
        refine oQ (.d (.int .i64 e114.Max)) (k_load 2 1 (hu := Try.underlying3)) ?_
        refine oP (.d (.int .i64 (IntKind.wrap .i64 (n11 + e114.Max)))) (p_int (k := .i64) (p := n11) (q := e114.Max)) ?_
        refine oP (.d (.int .i64 (IntKind.wrap .i64 (n11 + e114.Max)))) p_assign ?_
        refine oEnd ?_
        refine oBlk ?_
        refine oBlk ?_
        refine oHead [2, 4, 7, 11, 12, 13] [0, 1] (T' := [(2, .fn 47 [.ptr 0 0]), (4, .ptr 1 0), (7, .d (.int .i64 (IntKind.wrap .i64 (n11 + e114.Max)))), (11, .d (.lit (List.map e_SPart p2))), (12, .d (.int .i64 ((List.length p2) : Int))), (13, .d (.int .i64 x7))]) (H' := [.box [.d (.int .i64 x), .d (.int .i64 x1), .d (.lit (List.map e_SPart x2))], .box [.d (.lit (List.map e_Li64 s0)), .d (.lit (List.map e_i64 s1))]]) (hnd := by decide) (h := ?_)
        exact hj9 (IntKind.wrap .i64 (n11 + e114.Max))
       ·refine oCondF (h := ?_)
        refine oSR rfl ?_
        refine oP (.d (.bool (e115 == 2))) (p_int (k := .i64) (p := e115) (q := 2)) ?_
        refine oP (.d (.bool (e115 == 2))) p_assign ?_
        refine oEnd ?_
        refine bSplit 36 (h1 := fun hc => ?_) (h2 := fun hc => ?_)
        ·refine oCondT (h := ?_)
         refine oSkip ?_
         refine oBlk ?_
         refine oBlk ?_
         refine oHead [2, 4, 7, 11, 12, 13] [0, 1] (T' := [(2, .fn 47 [.ptr 0 0]), (4, .ptr 1 0), (7, .d (.int .i64 n11)), (11, .d (.lit (List.map e_SPart p2))), (12, .d (.int .i64 ((List.length p2) : Int))), (13, .d (.int .i64 x7))]) (H' := [.box [.d (.int .i64 x), .d (.int .i64 x1), .d (.lit (List.map e_SPart x2))], .box [.d (.lit (List.map e_Li64 s0)), .d (.lit (List.map e_i64 s1))]]) (hnd := by decide) (h := ?_)
         exact hj9 n11
        ·refine oCondF (h := ?_)
         refine oSkip ?_
         refine oBlk ?_
         refine oBlk ?_
         refine oHead [2, 4, 7, 11, 12, 13] [0, 1] (T' := [(2, .fn 47 [.ptr 0 0]), (4, .ptr 1 0), (7, .d (.int .i64 n11)), (11, .d (.lit (List.map e_SPart p2))), (12, .d (.int .i64 ((List.length p2) : Int))), (13, .d (.int .i64 x7))]) (H' := [.box [.d (.int .i64 x), .d (.int .i64 x1), .d (.lit (List.map e_SPart x2))], .box [.d (.lit (List.map e_Li64 s0)), .d (.lit (List.map e_i64 s1))]]) (hnd := by decide) (h := ?_)
         exact hj9 n11
    ·refine oCondF (h := ?_)
     refine oExit rfl ?_
     refine oHead [7] [0] (T' := [(7, .d (.int .i64 n11))]) (H' := [.box [.d (.int .i64 x), .d (.int .i64 x1), .d (.lit (List.map e_SPart x2))]]) (hnd := by decide) (h := ?_)
     exact hj6 n11

/-- awardingbody/scheme.Maximum -/
def scheme_Maximum (k : Nat) (p0 : Int) (p1 : Int) (p2 : (List SPart)) (s0 : (List (List Int))) (s1 : (List Int)) : Option (Int × Int) := Option.bind (scheme_Valid k p0 p1 p2 s0 s1) (fun r14 => bif (!r14) then some (0, 1) else Option.bind (scheme_sum_2 k p0 p1 p2 s0 s1 p0 p1 p2) (fun r121 => some (r121, 0)))
def scheme_Maximum_E (p0 : Int) (p1 : Int) (p2 : (List SPart)) (s0 : (List (List Int))) (s1 : (List Int)) : Int × Int → V × List Blk := uc fun r11 => fun r13 => (.tuple [.d (.int .i64 r11), .d (.int .i64 r13)], [])
theorem scheme_Maximum_goes (k : Nat) (p0 : Int) (p1 : Int) (p2 : (List SPart)) (s0 : (List (List Int))) (s1 : (List Int)) : RunsO Try.prog 23 [.agg [.d (.int .i64 p0), .d (.int .i64 p1), .d (.lit (List.map e_SPart p2))], .agg [.d (.lit (List.map e_Li64 s0)), .d (.lit (List.map e_i64 s1))]] [] (scheme_Maximum_E p0 p1 p2 s0 s1) (scheme_Maximum k p0 p1 p2 s0 s1) := by
  refine RunsO.of_goes (N := 14) (m := 0) (T := [(0, .agg [.d (.int .i64 p0), .d (.int .i64 p1), .d (.lit (List.map e_SPart p2))]), (1, .agg [.d (.lit (List.map e_Li64 s0)), .d (.lit (List.map e_i64 s1))])]) Try.func23 rfl rfl (h := ?_)
  unfold scheme_Maximum
  refine bStart ?_
  refine oSR rfl ?_
  refine oD (.ptr 0 0) (k_box (H' := [.box [.d (.int .i64 p0), .d (.int .i64 p1), .d (.lit (List.map e_SPart p2))]]) (cells := [.d (.int .i64 p0), .d (.int .i64 p1), .d (.lit (List.map e_SPart p2))])) ?_
  refine oD (.ptr 1 0) (k_box (H' := [.box [.d (.int .i64 p0), .d (.int .i64 p1), .d (.lit (List.map e_SPart p2))], .box [.d (.lit (List.map e_Li64 s0)), .d (.lit (List.map e_i64 s1))]]) (cells := [.d (.lit (List.map e_Li64 s0)), .d (.lit (List.map e_i64 s1))])) ?_
  refine oP (.d (.int .i64 0)) p_assign ?_
  refine oP (.d (.int .i64 0)) p_assign ?_
  refine oEnd ?_
  refine oSeq ?_
  refine oSR rfl ?_
  refine oQ (.agg [.d (.int .i64 p0), .d (.int .i64 p1), .d (.lit (List.map e_SPart p2))]) (k_loadAgg 0 0 (hu := Try.underlying27) (hi := ty27)) ?_
  refine oQ (.agg [.d (.lit (List.map e_Li64 s0)), .d (.lit (List.map e_i64 s1))]) (k_loadAgg 1 0 (hu := Try.underlying31) (hi := ty31)) ?_
  refine bCall (caps := []) (v := (fun (r14 : Bool) => (.d (.bool r14) : V))) (H' := (fun (r14 : Bool) => ([.box [.d (.int .i64 p0), .d (.int .i64 p1), .d (.lit (List.map e_SPart p2))], .box [.d (.lit (List.map e_Li64 s0)), .d (.lit (List.map e_i64 s1))]] : List Blk))) [] _ (scheme_Valid_goes k p0 p1 p2 s0 s1) (ho := rfl) (hfn := Try.func30) (hb := rfl) (hconv := ConvRs.refl _ _) (hnd := by decide) (hBl := fun _ => (by kernel_rfl)) (hv := fun _ => (by kernel_rfl)) (hH' := fun _ => (by kernel_rfl)) (h := fun r14 => ?_)
  refine oP (.d (.bool (!r14))) (p_not (p := r14)) ?_
  refine oEnd ?_
  refine bSplit 9 (h1 := fun hc => ?_) (h2 := fun hc => ?_)
  ·refine oCondT (h := ?_)
   refine oSR rfl ?_
   refine oP (.d (.int .i64 0)) p_assign ?_
   refine oP (.d (.int .i64 1)) p_assign ?_
   refine oEnd ?_
   exact oRet (r0 := (0, 1)) (rv := .tuple [.d (.int .i64 0), .d (.int .i64 1)]) (B := []) (vs := [.d (.int .i64 0), .d (.int .i64 1)]) (σ := []) (hf := Try.func23) (hrs := rfl) (hres := .cons _ _ _ _ (.tmp 4 _ (by kernel_rfl)) (.cons _ _ _ _ (.tmp 5 _ (by kernel_rfl)) .nil)) (hnd := by decide)
  ·refine oCondF (h := ?_)
   refine oSkip ?_
   refine oSR rfl ?_
   refine oQ (.agg [.d (.int .i64 p0), .d (.int .i64 p1), .d (.lit (List.map e_SPart p2))]) (k_loadAgg 0 0 (hu := Try.underlying27) (hi := ty27)) ?_
   refine oQ (.agg [.d (.lit (List.map e_Li64 s0)), .d (.lit (List.map e_i64 s1))]) (k_loadAgg 1 0 (hu := Try.underlying31) (hi := ty31)) ?_
   refine oP (.fn 47 [.ptr 0 0]) p_makeFunc ?_
   refine bCall (caps := []) (v := (fun (r121 : Int) => (.d (.int .i64 r121) : V))) (H' := (fun (r121 : Int) => ([.box [.d (.int .i64 p0), .d (.int .i64 p1), .d (.lit (List.map e_SPart p2))], .box [.d (.lit (List.map e_Li64 s0)), .d (.lit (List.map e_i64 s1))]] : List Blk))) [0] _ (scheme_sum_2_goes k p0 p1 p2 s0 s1 p0 p1 p2) (ho := rfl) (hfn := Try.func45) (hb := rfl) (hconv := ConvRs.refl _ _) (hnd := by decide) (hBl := fun _ => (by kernel_rfl)) (hv := fun _ => (by kernel_rfl)) (hH' := fun _ => (by kernel_rfl)) (h := fun r121 => ?_)
   refine oP (.d (.int .i64 r121)) p_assign ?_
   refine oP (.d (.int .i64 0)) p_assign ?_
   refine oEnd ?_
   exact oRet (r0 := (r121, 0)) (rv := .tuple [.d (.int .i64 r121), .d (.int .i64 0)]) (B := []) (vs := [.d (.int .i64 r121), .d (.int .i64 0)]) (σ := []) (hf := Try.func23) (hrs := rfl) (hres := .cons _ _ _ _ (.tmp 4 _ (by kernel_rfl)) (.cons _ _ _ _ (.tmp 5 _ (by kernel_rfl)) .nil)) (hnd := by decide)

/-- awardingbody/awardingbodyref23.Maximum -/
def ref23_Maximum_b1 (k : Nat) (p2 : (List SPart)) (s1 : (List Int)) (again : Int × Int → Option (Int)) : Int × Int → Option (Int) := uc fun sum11 => fun i4 => bif (decide (i4 < ((List.length p2) : Int))) then Option.bind (gidx s1 i4 fun e114 => bif (e114 != 2) then gidx p2 i4 fun e115 => some (IntKind.wrap .i64 (sum11 + e115.Max)) else some sum11 : Option (Int)) (fun sum14 => again (sum14, (IntKind.wrap .i64 (i4 + 1)))) else some sum11
def ref23_Maximum (k : Nat) (p0 : Int) (p1 : Int) (p2 : (List SPart)) (s0 : (List (List Int))) (s1 : (List Int)) : Option (Int × Int) := Option.bind (ref23_Valid k p0 p1 p2 s0 s1) (fun r13 => bif (!r13) then some (0, 1) else Option.bind (gloop (ref23_Maximum_b1 k p2 s1) k (0, 0) : Option (Int)) (fun sum9 => some (sum9, 0)))
def ref23_Maximum_E (p0 : Int) (p1 : Int) (p2 : (List SPart)) (s0 : (List (List Int))) (s1 : (List Int)) : Int × Int → V × List Blk := uc fun r11 => fun r12 => (.tuple [.d (.int .i64 r11), .d (.int .i64 r12)], [])
theorem ref23_Maximum_goes (k : Nat) (p0 : Int) (p1 : Int) (p2 : (List SPart)) (s0 : (List (List Int))) (s1 : (List Int)) : RunsO Try.prog 24 [.agg [.d (.int .i64 p0), .d (.int .i64 p1), .d (.lit (List.map e_SPart p2))], .agg [.d (.lit (List.map e_Li64 s0)), .d (.lit (List.map e_i64 s1))]] [] (ref23_Maximum_E p0 p1 p2 s0 s1) (ref23_Maximum k p0 p1 p2 s0 s1) := by
  refine RunsO.of_goes (N := 34) (m := 0) (T := [(0, .agg [.d (.int .i64 p0), .d (.int .i64 p1), .d (.lit (List.map e_SPart p2))]), (1, .agg [.d (.lit (List.map e_Li64 s0)), .d (.lit (List.map e_i64 s1))])]) Try.func24 rfl rfl (h := ?_)
  unfold ref23_Maximum
  refine bStart ?_
  refine oSR rfl ?_
  refine oD (.ptr 0 0) (k_box (H' := [.box [.d (.int .i64 p0), .d (.int .i64 p1), .d (.lit (List.map e_SPart p2))]]) (cells := [.d (.int .i64 p0), .d (.int .i64 p1), .d (.lit (List.map e_SPart p2))])) ?_
  refine oD (.ptr 1 0) (k_box (H' := [.box [.d (.int .i64 p0), .d (.int .i64 p1), .d (.lit (List.map e_SPart p2))], .box [.d (.lit (List.map e_Li64 s0)), .d (.lit (List.map e_i64 s1))]]) (cells := [.d (.lit (List.map e_Li64 s0)), .d (.lit (List.map e_i64 s1))])) ?_
  refine oP (.d (.int .i64 0)) p_assign ?_
  refine oP (.d (.int .i64 0)) p_assign ?_
  refine oEnd ?_
  refine oSeq ?_
  refine oSR rfl ?_
  refine oQ (.agg [.d (.int .i64 p0), .d (.int .i64 p1), .d (.lit (List.map e_SPart p2))]) (k_loadAgg 0 0 (hu := Try.underlying27) (hi := ty27)) ?_
  refine oQ (.agg [.d (.lit (List.map e_Li64 s0)), .d (.lit (List.map e_i64 s1))]) (k_loadAgg 1 0 (hu := Try.underlying31) (hi := ty31)) ?_
  refine bCall (caps := []) (v := (fun (r13 : Bool) => (.d (.bool r13) : V))) (H' := (fun (r13 : Bool) => ([.box [.d (.int .i64 p0), .d (.int .i64 p1), .d (.lit (List.map e_SPart p2))], .box [.d (.lit (List.map e_Li64 s0)), .d (.lit (List.map e_i64 s1))]] : List Blk))) [] _ (ref23_Valid_goes k p0 p1 p2 s0 s1) (ho := rfl) (hfn := Try.func31) (hb := rfl) (hconv := ConvRs.refl _ _) (hnd := by decide) (hBl := fun _ => (by kernel_rfl)) (hv := fun _ => (by kernel_rfl)) (hH' := fun _ => (by kernel_rfl)) (h := fun r13 => ?_)
  refine oP (.d (.bool (!r13))) (p_not (p := r13)) ?_
  refine oEnd ?_
  refine bSplit 11 (h1 := fun hc => ?_) (h2 := fun hc => ?_)
  ·refine oCondT (h := ?_)
   refine oSR rfl ?_
   refine oP (.d (.int .i64 0)) p_assign ?_
   refine oP (.d (.int .i64 1)) p_assign ?_
   refine oEnd ?_
   exact oRet (r0 := (0, 1)) (rv := .tuple [.d (.int .i64 0), .d (.int .i64 1)]) (B := []) (vs := [.d (.int .i64 0), .d (.int .i64 1)]) (σ := []) (hf := Try.func24) (hrs := rfl) (hres := .cons _ _ _ _ (.tmp 4 _ (by kernel_rfl)) (.cons _ _ _ _ (.tmp 5 _ (by kernel_rfl)) .nil)) (hnd := by decide)
  ·refine oCondF (h := ?_)
   refine oSkip ?_
   refine oSR rfl ?_
   refine oP (.d (.int .i64 0)) p_assign ?_
   refine oEnd ?_
   refine oSeq ?_
   refine oSR rfl ?_
   refine oP (.d (.int .i64 0)) p_assign ?_
   refine oEnd ?_
   refine bJoin ((fun (sum9 : Int) => [(6, .d (.int .i64 sum9))])) ((fun (sum9 : Int) => [])) (fun s => s) (fun sum9 => ?_) (fun hj6 => ?_)
   ·refine oView (T' := [(6, .d (.int .i64 sum9))]) (H' := []) (h := ?_)
    refine oSR rfl ?_
    refine oP (.d (.int .i64 sum9)) p_move ?_
    refine oP (.d (.int .i64 sum9)) p_assign ?_
    refine oP (.d (.int .i64 0)) p_assign ?_
    refine oEnd ?_
    exact oRet (r0 := (sum9, 0)) (rv := .tuple [.d (.int .i64 sum9), .d (.int .i64 0)]) (B := []) (vs := [.d (.int .i64 sum9), .d (.int .i64 0)]) (σ := []) (hf := Try.func24) (hrs := rfl) (hres := .cons _ _ _ _ (.tmp 4 _ (by kernel_rfl)) (.cons _ _ _ _ (.tmp 5 _ (by kernel_rfl)) .nil)) (hnd := by decide)
   ·refine oBlock ?_
    refine oLoop ?_
    refine oHead [2, 3, 6, 7] [0, 1] (T' := [(2, .ptr 0 0), (3, .ptr 1 0), (6, .d (.int .i64 0)), (7, .d (.int .i64 0))]) (H' := [.box [.d (.int .i64 p0), .d (.int .i64 p1), .d (.lit (List.map e_SPart p2))], .box [.d (.lit (List.map e_Li64 s0)), .d (.lit (List.map e_i64 s1))]]) (hnd := by decide) (h := ?_)
    refine bLoop (body := ref23_Maximum_b1 k p2 s1) ((uc fun (sum11 : Int) => (fun (i4 : Int) => [(2, .ptr 0 0), (3, .ptr 1 0), (6, .d (.int .i64 sum11)), (7, .d (.int .i64 i4))]))) ((uc fun (sum11 : Int) => (fun (i4 : Int) => [.box [.d (.int .i64 p0), .d (.int .i64 p1), .d (.lit (List.map e_SPart p2))], .box [.d (.lit (List.map e_Li64 s0)), .d (.lit (List.map e_i64 s1))]]))) (fun again hag1 s => ?_) k (0, 0)
    ·unfold ref23_Maximum_b1
     obtain ⟨sum11, i4⟩ := s
     refine bUc ?_
     refine oView (T' := [(2, .ptr 0 0), (3, .ptr 1 0), (6, .d (.int .i64 sum11)), (7, .d (.int .i64 i4))]) (H' := [.box [.d (.int .i64 p0), .d (.int .i64 p1), .d (.lit (List.map e_SPart p2))], .box [.d (.lit (List.map e_Li64 s0)), .d (.lit (List.map e_i64 s1))]]) (h := ?_)
     refine oSeq ?_
     refine oSR rfl ?_
     refine oP (.d (.int .i64 i4)) p_move ?_
     refine oP (.ptr 0 2) (k_fieldAddr 0 0 (hu := Try.underlying27) (hf := rfl) (hi := ty25)) ?_
     refine oQ (.d (.lit (List.map e_SPart p2))) (k_load 0 2 (hu := Try.underlying25)) ?_
     refine oP (.d (.int .i64 ((List.length p2) : Int))) (k_lenLit (enc := e_SPart) p2 (hu := Try.underlying25)) ?_
     refine oP (.d (.bool (decide (i4 < ((List.length p2) : Int))))) (p_int (k := .i64) (p := i4) (q := ((List.length p2) : Int))) ?_
     refine oEnd ?_
     refine bSplit 16 (h1 := fun hc => ?_) (h2 := fun hc => ?_)
     ·refine oCondT (h := ?_)
      refine oSkip ?_
      refine oSeq ?_
      refine bJoin ((fun (sum14 : Int) => [(2, .ptr 0 0), (3, .ptr 1 0), (6, .d (.int .i64 sum14)), (7, .d (.int .i64 i4))])) ((fun (sum14 : Int) => [.box [.d (.int .i64 p0), .d (.int .i64 p1), .d (.lit (List.map e_SPart p2))], .box [.d (.lit (List.map e_Li64 s0)), .d (.lit (List.map e_i64 s1))]])) (fun s => s) (fun sum14 => ?_) (fun hj9 => ?_)
      ·refine oView (T' := [(2, .ptr 0 0), (3, .ptr 1 0), (6, .d (.int .i64 sum14)), (7, .d (.int .i64 i4))]) (H' := [.box [.d (.int .i64 p0), .d (.int .i64 p1), .d (.lit (List.map e_SPart p2))], .box [.d (.lit (List.map e_Li64 s0)), .d (.lit (List.map e_i64 s1))]]) (h := ?_)
       refine oRegion rfl ?_
       refine oP (.d (.int .i64 i4)) p_move ?_
       refine oP (.d (.int .i64 (IntKind.wrap .i64 (i4 + 1)))) (p_int (k := .i64) (p := i4) (q := 1)) ?_
       refine oP (.d (.int .i64 (IntKind.wrap .i64 (i4 + 1)))) p_assign ?_
       refine oEnd ?_
       refine oAgain ?_
       refine oHead [2, 3, 6, 7] [0, 1] (T' := [(2, .ptr 0 0), (3, .ptr 1 0), (6, .d (.int .i64 sum14)), (7, .d (.int .i64 (IntKind.wrap .i64 (i4 + 1))))]) (H' := [.box [.d (.int .i64 p0), .d (.int .i64 p1), .d (.lit (List.map e_SPart p2))], .box [.d (.lit (List.map e_Li64 s0)), .d (.lit (List.map e_i64 s1))]]) (hnd := by decide) (h := ?_)
       exact hag1 (sum14, (IntKind.wrap .i64 (i4 + 1)))
      ·refine oBlock ?_
       refine oSR rfl ?_
       refine oP (.ptr 1 1) (k_fieldAddr 1 0 (hu := Try.underlying31) (hf := rfl) (hi := ty22)) ?_
       refine oQ (.d (.lit (List.map e_i64 s1))) (k_load 1 1 (hu := Try.underlying22)) ?_
       refine oP (.d (.int .i64 i4)) p_move ?_
       refine bIdx (fun e114 h128 h129 => ?_)
       refine oP (.lptr (e_i64 e114) 0) (k_idxLit e_i64_len s1 (a := e114) (k := .i64) (i := i4) (hu := Try.underlying22) (hi := ty3) (h0 := h128) (he := h129)) ?_
       refine oQ (.d (.int .i64 e114)) (k_loadL (cells := e_i64 e114) 0 (hu := Try.underlying3)) ?_
       refine oP (.d (.bool (e114 != 2))) (p_int (k := .i64) (p := e114) (q := 2)) ?_
       refine oEnd ?_
       refine bSplit 24 (h1 := fun hc => ?_) (h2 := fun hc => ?_)
       ·refine oCondT (h := ?_)
        refine oRegion rfl ?_
        refine oP (.d (.int .i64 sum11)) p_move ?_
        refine oP (.ptr 0 2) (k_fieldAddr 0 0 (hu := Try.underlying27) (hf := rfl) (hi := ty25)) ?_
        refine oQ (.d (.lit (List.map e_SPart p2))) (k_load 0 2 (hu := Try.underlying25)) ?_
        refine oP (.d (.int .i64 i4)) p_move ?_
        refine bIdx (fun e115 h130 h131 => ?_)
        refine oP (.lptr (e_SPart e115) 0) (k_idxLit e_SPart_len p2 (a := e115) (k := .i64) (i := i4) (hu := Try.underlying25) (hi := ty49) (h0 := h130) (he := h131)) ?_
        refine oP (.lptr (e_SPart e115) 1) (k_fieldAddrL (cells := e_SPart e115) 0 (hu := Try.underlying49) (hf := rfl) (hi := ty3)) ?_
        refine oQ (.d (.int .i64 e115.Max)) (k_loadL (cells := e_SPart e115) 1 (hu := Try.underlying3)) ?_
        refine oP (.d (.int .i64 (IntKind.wrap .i64 (sum11 + e115.Max)))) (p_int (k := .i64) (p := sum11) (q := e115.Max)) ?_
        refine oP (.d (.int .i64 (IntKind.wrap .i64 (sum11 + e115.Max)))) p_assign ?_
        refine oEnd ?_
        refine oBlk ?_
        refine oHead [2, 3, 6, 7] [0, 1] (T' := [(2, .ptr 0 0), (3, .ptr 1 0), (6, .d (.int .i64 (IntKind.wrap .i64 (sum11 + e115.Max)))), (7, .d (.int .i64 i4))]) (H' := [.box [.d (.int .i64 p0), .d (.int .i64 p1), .d (.lit (List.map e_SPart p2))], .box [.d (.lit (List.map e_Li64 s0)), .d (.lit (List.map e_i64 s1))]]) (hnd := by decide) (h := ?_)
        exact hj9 (IntKind.wrap .i64 (sum11 + e115.Max))
       ·refine oCondF (h := ?_)
        refine oSkip ?_
        refine oBlk ?_
        refine oHead [2, 3, 6, 7] [0, 1] (T' := [(2, .ptr 0 0), (3, .ptr 1 0), (6, .d (.int .i64 sum11)), (7, .d (.int .i64 i4))]) (H' := [.box [.d (.int .i64 p0), .d (.int .i64 p1), .d (.lit (List.map e_SPart p2))], .box [.d (.lit (List.map e_Li64 s0)), .d (.lit (List.map e_i64 s1))]]) (hnd := by decide) (h := ?_)
        exact hj9 sum11
     ·refine oCondF (h := ?_)
      refine oExit rfl ?_
      refine oHead [6] [] (T' := [(6, .d (.int .i64 sum11))]) (H' := []) (hnd := by decide) (h := ?_)
      exact hj6 sum11

/-- slices.Index[[]int,int] -/
def slices_Index_int_b1 (k : Nat) (s1 : (List Int)) (v : Int) (again : Int → Option ((Unit) ⊕ (Int))) : Int → Option ((Unit) ⊕ (Int)) := fun x4 => bif (decide (x4 < ((List.length s1) : Int))) then gidx s1 x4 fun e113 => bif (v == e113) then some (Sum.inr x4) else again (IntKind.wrap .i64 (x4 + 1)) else some (Sum.inl ())
def slices_Index_int (k : Nat) (s1 : (List Int)) (v : Int) : Option (Int) := Option.bind (gloop (slices_Index_int_b1 k s1 v) k 0 : Option ((Unit) ⊕ (Int))) (Sum.elim (u0 (some (-1))) (fun r => some r))
def slices_Index_int_E (s1 : (List Int)) (v : Int) : Int → V × List Blk := fun r1 => (.d (.int .i64 r1), [])
theorem slices_Index_int_goes (k : Nat) (s1 : (List Int)) (v : Int) : RunsO Try.prog 65 [.d (.lit (List.map e_i64 s1)), .d (.int .i64 v)] [] (slices_Index_int_E s1 v) (slices_Index_int k s1 v) := by
  refine RunsO.of_goes (N := 19) (m := 0) (T := [(0, .d (.lit (List.map e_i64 s1))), (1, .d (.int .i64 v))]) Try.func65 rfl rfl (h := ?_)
  unfold slices_Index_int
  refine bStart ?_
  refine oSR rfl ?_
  refine oP (.d (.int .i64 0)) p_assign ?_
  refine oEnd ?_
  refine oSeq ?_
  refine oSR rfl ?_
  refine oP (.d (.lit (List.map e_i64 s1))) p_move ?_
  refine oP (.d (.int .i64 ((List.length s1) : Int))) (k_lenLit (enc := e_i64) s1 (hu := Try.underlying22)) ?_
  refine oP (.d (.int .i64 0)) p_move ?_
  refine oEnd ?_
  refine bJoin ((u0 ([]))) ((u0 ([]))) Sum.inl (fun s => ?_) (fun hj2 => ?_)
  ·cases s
   refine bInl ?_
   refine bU0 ?_
   refine oView (T' := []) (H' := []) (h := ?_)
   refine oSR rfl ?_
   refine oP (.d (.int .i64 (-1))) p_assign ?_
   refine oEnd ?_
   exact oRet (r0 := (-1)) (rv := .d (.int .i64 (-1))) (B := []) (vs := [.d (.int .i64 (-1))]) (σ := []) (hf := Try.func65) (hrs := rfl) (hres := .cons _ _ _ _ (.tmp 4 _ (by kernel_rfl)) .nil) (hnd := by decide)
  ·refine oBlock ?_
   refine oLoop ?_
   refine oHead [0, 1, 7, 8] [] (T' := [(0, .d (.lit (List.map e_i64 s1))), (1, .d (.int .i64 v)), (7, .d (.int .i64 ((List.length s1) : Int))), (8, .d (.int .i64 0))]) (H' := []) (hnd := by decide) (h := ?_)
   refine bLoop (body := slices_Index_int_b1 k s1 v) ((fun (x4 : Int) => [(0, .d (.lit (List.map e_i64 s1))), (1, .d (.int .i64 v)), (7, .d (.int .i64 ((List.length s1) : Int))), (8, .d (.int .i64 x4))])) ((fun (x4 : Int) => [])) (fun again hag1 x4 => ?_) k 0
   ·unfold slices_Index_int_b1
    refine oView (T' := [(0, .d (.lit (List.map e_i64 s1))), (1, .d (.int .i64 v)), (7, .d (.int .i64 ((List.length s1) : Int))), (8, .d (.int .i64 x4))]) (H' := []) (h := ?_)
    refine oSR rfl ?_
    refine oP (.d (.bool (decide (x4 < ((List.length s1) : Int))))) (p_int (k := .i64) (p := x4) (q := ((List.length s1) : Int))) ?_
    refine oEnd ?_
    refine oSeq ?_
    refine bSplit 9 (h1 := fun hc => ?_) (h2 := fun hc => ?_)
    ·refine oCondT (h := ?_)
     refine oSkip ?_
     refine oSeq ?_
     refine oBlock ?_
     refine oSR rfl ?_
     refine oP (.d (.int .i64 x4)) p_move ?_
     refine oP (.d (.int .i64 x4)) p_assign ?_
     refine oEnd ?_
     refine oSR rfl ?_
     refine oP (.d (.int .i64 v)) p_move ?_
     refine oP (.d (.lit (List.map e_i64 s1))) p_move ?_
     refine oP (.d (.int .i64 x4)) p_move ?_
     refine bIdx (fun e113 h126 h127 => ?_)
     refine oP (.lptr (e_i64 e113) 0) (k_idxLit e_i64_len s1 (a := e113) (k := .i64) (i := x4) (hu := Try.underlying22) (hi := ty3) (h0 := h126) (he := h127)) ?_
     refine oQ (.d (.int .i64 e113)) (k_loadL (cells := e_i64 e113) 0 (hu := Try.underlying3)) ?_
     refine oP (.d (.bool (v == e113))) (p_int (k := .i64) (p := v) (q := e113)) ?_
     refine oEnd ?_
     refine bSplit 16 (h1 := fun hc => ?_) (h2 := fun hc => ?_)
     ·refine oCondT (h := ?_)
      refine oSR rfl ?_
      refine oP (.d (.int .i64 x4)) p_move ?_
      refine oP (.d (.int .i64 x4)) p_assign ?_
      refine oEnd ?_
      exact oRet (r0 := x4) (rv := .d (.int .i64 x4)) (B := []) (vs := [.d (.int .i64 x4)]) (σ := []) (hf := Try.func65) (hrs := rfl) (hres := .cons _ _ _ _ (.tmp 4 _ (by kernel_rfl)) .nil) (hnd := by decide)
     ·refine oCondF (h := ?_)
      refine oSkip ?_
      refine oBlk ?_
      refine oRegion rfl ?_
      refine oP (.d (.int .i64 (IntKind.wrap .i64 (x4 + 1)))) (p_int (k := .i64) (p := x4) (q := 1)) ?_
      refine oP (.d (.int .i64 (IntKind.wrap .i64 (x4 + 1)))) p_move ?_
      refine oEnd ?_
      refine oAgain ?_
      refine oHead [0, 1, 7, 8] [] (T' := [(0, .d (.lit (List.map e_i64 s1))), (1, .d (.int .i64 v)), (7, .d (.int .i64 ((List.length s1) : Int))), (8, .d (.int .i64 (IntKind.wrap .i64 (x4 + 1))))]) (H' := []) (hnd := by decide) (h := ?_)
      exact hag1 (IntKind.wrap .i64 (x4 + 1))
    ·refine oCondF (h := ?_)
     refine oExit rfl ?_
     refine oHead [] [] (T' := []) (H' := []) (hnd := by decide) (h := ?_)
     exact hj2 ()

/-- slices.Contains[[]int,int] -/
def slices_Contains_int (k : Nat) (s1 : (List Int)) (v : Int) : Option (Bool) := Option.bind (slices_Index_int k s1 v) (fun r12 => some (decide (r12 ≥ 0)))
def slices_Contains_int_E (s1 : (List Int)) (v : Int) : Bool → V × List Blk := fun r11 => (.d (.bool r11), [])
theorem slices_Contains_int_goes (k : Nat) (s1 : (List Int)) (v : Int) : RunsO Try.prog 58 [.d (.lit (List.map e_i64 s1)), .d (.int .i64 v)] [] (slices_Contains_int_E s1 v) (slices_Contains_int k s1 v) := by
  refine RunsO.of_goes (N := 9) (m := 0) (T := [(0, .d (.lit (List.map e_i64 s1))), (1, .d (.int .i64 v))]) Try.func58 rfl rfl (h := ?_)
  unfold slices_Contains_int
  refine bStart ?_
  refine oSR rfl ?_
  refine oP (.d (.bool false)) p_assign ?_
  refine oEnd ?_
  refine oSR rfl ?_
  refine oP (.d (.lit (List.map e_i64 s1))) p_move ?_
  refine oP (.d (.int .i64 v)) p_move ?_
  refine bCall (caps := []) (v := (fun (r12 : Int) => (.d (.int .i64 r12) : V))) (H' := (fun (r12 : Int) => ([] : List Blk))) [] _ (slices_Index_int_goes k s1 v) (ho := rfl) (hfn := Try.func65) (hb := rfl) (hconv := ConvRs.refl _ _) (hnd := by decide) (hBl := fun _ => (by kernel_rfl)) (hv := fun _ => (by kernel_rfl)) (hH' := fun _ => (by kernel_rfl)) (h := fun r12 => ?_)
  refine oP (.d (.bool (decide (r12 ≥ 0)))) (p_int (k := .i64) (p := r12) (q := 0)) ?_
  refine oP (.d (.bool (decide (r12 ≥ 0)))) p_assign ?_
  refine oEnd ?_
  exact oRet (r0 := (decide (r12 ≥ 0))) (rv := .d (.bool (decide (r12 ≥ 0)))) (B := []) (vs := [.d (.bool (decide (r12 ≥ 0)))]) (σ := []) (hf := Try.func58) (hrs := rfl) (hres := .cons _ _ _ _ (.tmp 4 _ (by kernel_rfl)) .nil) (hnd := by decide)

/-- awardingbody/scheme.accepts -/
def scheme_accepts (k : Nat) (x0 : Int) (x1 : Int) (x2 : Int) (x3 : Int) (x4 : Int) (x5 : Int) (keys : (List Int)) (answer : Int) : Option (Bool) := bif (((List.length keys) : Int) == 0) then some (answer == x5) else Option.bind (slices_Contains_int k keys answer) (fun r111 => some r111)
def scheme_accepts_E (x0 : Int) (x1 : Int) (x2 : Int) (x3 : Int) (x4 : Int) (x5 : Int) (keys : (List Int)) (answer : Int) : Bool → V × List Blk := fun r1 => (.d (.bool r1), [])
theorem scheme_accepts_goes (k : Nat) (x0 : Int) (x1 : Int) (x2 : Int) (x3 : Int) (x4 : Int) (x5 : Int) (keys : (List Int)) (answer : Int) : RunsO Try.prog 44 [.agg [.d (.int .i64 x0), .d (.int .i64 x1), .d (.int .i64 x2), .d (.int .i64 x3), .d (.int .i64 x4), .d (.int .i64 x5)], .d (.lit (List.map e_i64 keys)), .d (.int .i64 answer)] [] (scheme_accepts_E x0 x1 x2 x3 x4 x5 keys answer) (scheme_accepts k x0 x1 x2 x3 x4 x5 keys answer) := by
  refine RunsO.of_goes (N := 17) (m := 0) (T := [(0, .agg [.d (.int .i64 x0), .d (.int .i64 x1), .d (.int .i64 x2), .d (.int .i64 x3), .d (.int .i64 x4), .d (.int .i64 x5)]), (1, .d (.lit (List.map e_i64 keys))), (2, .d (.int .i64 answer))]) Try.func44 rfl rfl (h := ?_)
  unfold scheme_accepts
  refine bStart ?_
  refine oSR rfl ?_
  refine oD (.ptr 0 0) (k_box (H' := [.box [.d (.int .i64 x0), .d (.int .i64 x1), .d (.int .i64 x2), .d (.int .i64 x3), .d (.int .i64 x4), .d (.int .i64 x5)]]) (cells := [.d (.int .i64 x0), .d (.int .i64 x1), .d (.int .i64 x2), .d (.int .i64 x3), .d (.int .i64 x4), .d (.int .i64 x5)])) ?_
  refine oP (.d (.bool false)) p_assign ?_
  refine oEnd ?_
  refine oSeq ?_
  refine oSR rfl ?_
  refine oP (.d (.lit (List.map e_i64 keys))) p_move ?_
  refine oP (.d (.int .i64 ((List.length keys) : Int))) (k_lenLit (enc := e_i64) keys (hu := Try.underlying22)) ?_
  refine oP (.d (.bool (((List.length keys) : Int) == 0))) (p_int (k := .i64) (p := ((List.length keys) : Int)) (q := 0)) ?_
  refine oEnd ?_
  refine bSplit 9 (h1 := fun hc => ?_) (h2 := fun hc => ?_)
  ·refine oCondT (h := ?_)
   refine oSR rfl ?_
   refine oP (.d (.int .i64 answer)) p_move ?_
   refine oP (.ptr 0 5) (k_fieldAddr 0 0 (hu := Try.underlying49) (hf := rfl) (hi := ty3)) ?_
   refine oQ (.d (.int .i64 x5)) (k_load 0 5 (hu := Try.underlying3)) ?_
   refine oP (.d (.bool (answer == x5))) (p_int (k := .i64) (p := answer) (q := x5)) ?_
   refine oP (.d (.bool (answer == x5))) p_assign ?_
   refine oEnd ?_
   exact oRet (r0 := (answer == x5)) (rv := .d (.bool (answer == x5))) (B := []) (vs := [.d (.bool (answer == x5))]) (σ := []) (hf := Try.func44) (hrs := rfl) (hres := .cons _ _ _ _ (.tmp 6 _ (by kernel_rfl)) .nil) (hnd := by decide)
  ·refine oCondF (h := ?_)
   refine oSkip ?_
   refine oSR rfl ?_
   refine oP (.d (.lit (List.map e_i64 keys))) p_move ?_
   refine oP (.d (.int .i64 answer)) p_move ?_
   refine bCall (caps := []) (v := (fun (r111 : Bool) => (.d (.bool r111) : V))) (H' := (fun (r111 : Bool) => ([.box [.d (.int .i64 x0), .d (.int .i64 x1), .d (.int .i64 x2), .d (.int .i64 x3), .d (.int .i64 x4), .d (.int .i64 x5)]] : List Blk))) [] _ (slices_Contains_int_goes k keys answer) (ho := rfl) (hfn := Try.func58) (hb := rfl) (hconv := ConvRs.refl _ _) (hnd := by decide) (hBl := fun _ => (by kernel_rfl)) (hv := fun _ => (by kernel_rfl)) (hH' := fun _ => (by kernel_rfl)) (h := fun r111 => ?_)
   refine oP (.d (.bool r111)) p_assign ?_
   refine oEnd ?_
   exact oRet (r0 := r111) (rv := .d (.bool r111)) (B := []) (vs := [.d (.bool r111)]) (σ := []) (hf := Try.func44) (hrs := rfl) (hres := .cons _ _ _ _ (.tmp 6 _ (by kernel_rfl)) .nil) (hnd := by decide)

end Go.VM
