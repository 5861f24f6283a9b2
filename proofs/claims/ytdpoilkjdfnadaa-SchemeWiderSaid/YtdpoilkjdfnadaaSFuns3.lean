/- Plain functions that answer as the program's functions do, and the proof that they do. -/
import Derived.Test.YtdpoilkjdfnadaaProg
import Derived.KernelRfl
import Derived.Test.YtdpoilkjdfnadaaEngS
import Derived.Test.YtdpoilkjdfnadaaSFacts
import Derived.Test.YtdpoilkjdfnadaaSFuns2
namespace Go.VM
open Go.Proofs
set_option linter.unusedVariables false
set_option linter.unusedSimpArgs false
set_option maxRecDepth 100000
/-- awardingbody/scheme.Marked -/
def scheme_Marked_b1 (k : Nat) (p2 : (List SPart)) (s1 : (List Int)) (marks : (List Int)) (again : Int → Option ((Unit) ⊕ (Bool))) : Int → Option ((Unit) ⊕ (Bool)) := fun x26 => bif (decide (x26 < ((List.length p2) : Int))) then gidx p2 x26 fun e115 => gidx s1 x26 fun e11 => Option.bind (bif (e11 == 0) then gidx marks x26 fun e12 => Option.bind (scheme_permitted k e115.Kind e115.Max e115.Topic e115.Objective e115.Options e115.Key e12) (fun r11 => some (!r11)) else some false : Option Bool) (fun x35 => bif x35 then some (Sum.inr false) else again (IntKind.wrap .i64 (x26 + 1))) else some (Sum.inl ())
def scheme_Marked (k : Nat) (p0 : Int) (p1 : Int) (p2 : (List SPart)) (s0 : (List (List Int))) (s1 : (List Int)) (marks : (List Int)) : Option (Bool) := Option.bind (scheme_Valid k p0 p1 p2 s0 s1) (fun r13 => blet ((!r13) || (((List.length marks) : Int) != ((List.length p2) : Int))) fun x11 => bif x11 then some false else Option.bind (gloop (scheme_Marked_b1 k p2 s1 marks) k 0 : Option ((Unit) ⊕ (Bool))) (Sum.elim (u0 (some true)) (fun r => some r)))
def scheme_Marked_E (p0 : Int) (p1 : Int) (p2 : (List SPart)) (s0 : (List (List Int))) (s1 : (List Int)) (marks : (List Int)) : Bool → V × List Blk := fun r12 => (.d (.bool r12), [])
theorem scheme_Marked_goes (k : Nat) (p0 : Int) (p1 : Int) (p2 : (List SPart)) (s0 : (List (List Int))) (s1 : (List Int)) (marks : (List Int)) : RunsO Try.prog 36 [.agg [.d (.int .i64 p0), .d (.int .i64 p1), .d (.lit (List.map e_SPart p2))], .agg [.d (.lit (List.map e_Li64 s0)), .d (.lit (List.map e_i64 s1))], .d (.lit (List.map e_i64 marks))] [] (scheme_Marked_E p0 p1 p2 s0 s1 marks) (scheme_Marked k p0 p1 p2 s0 s1 marks) := by
  refine RunsO.of_goes (N := 45) (m := 0) (T := [(0, .agg [.d (.int .i64 p0), .d (.int .i64 p1), .d (.lit (List.map e_SPart p2))]), (1, .agg [.d (.lit (List.map e_Li64 s0)), .d (.lit (List.map e_i64 s1))]), (2, .d (.lit (List.map e_i64 marks)))]) Try.func36 rfl rfl (by kernel_rfl) (by kernel_rfl) (by kernel_rfl) ?_
  unfold scheme_Marked
  refine bStart ?_
  refine oSeq ?_
  refine oRegion rfl ?_
  refine oOp (.ptr 0 0) (by kernel_rfl) (by kernel_rfl) (k_box (H' := [.box [.d (.int .i64 p0), .d (.int .i64 p1), .d (.lit (List.map e_SPart p2))]]) (cells := [.d (.int .i64 p0), .d (.int .i64 p1), .d (.lit (List.map e_SPart p2))]) (by kernel_rfl) (by kernel_rfl) (by kernel_rfl)) ?_
  refine oOp (.ptr 1 0) (by kernel_rfl) (by kernel_rfl) (k_box (H' := [.box [.d (.int .i64 p0), .d (.int .i64 p1), .d (.lit (List.map e_SPart p2))], .box [.d (.lit (List.map e_Li64 s0)), .d (.lit (List.map e_i64 s1))]]) (cells := [.d (.lit (List.map e_Li64 s0)), .d (.lit (List.map e_i64 s1))]) (by kernel_rfl) (by kernel_rfl) (by kernel_rfl)) ?_
  refine oOp (.d (.bool false)) (by kernel_rfl) (by kernel_rfl) (PureV.does (p_assign (by kernel_rfl))) ?_
  refine oEnd ?_
  refine oSeq ?_
  refine oSeq ?_
  refine oRegion rfl ?_
  refine oOp (.agg [.d (.int .i64 p0), .d (.int .i64 p1), .d (.lit (List.map e_SPart p2))]) (by kernel_rfl) (by kernel_rfl) (Quiet.does (k_loadAgg 0 0 (by kernel_rfl) Try.underlying27 (by kernel_rfl) ty27 (by kernel_rfl))) ?_
  refine oOp (.agg [.d (.lit (List.map e_Li64 s0)), .d (.lit (List.map e_i64 s1))]) (by kernel_rfl) (by kernel_rfl) (Quiet.does (k_loadAgg 1 0 (by kernel_rfl) Try.underlying31 (by kernel_rfl) ty31 (by kernel_rfl))) ?_
  refine bCall (caps := []) (v := (fun (r13 : Bool) => (.d (.bool r13) : V))) (H' := (fun (r13 : Bool) => ([.box [.d (.int .i64 p0), .d (.int .i64 p1), .d (.lit (List.map e_SPart p2))], .box [.d (.lit (List.map e_Li64 s0)), .d (.lit (List.map e_i64 s1))]] : List Blk))) [] _ (scheme_Valid_goes k p0 p1 p2 s0 s1) (by kernel_rfl) (by kernel_rfl) rfl (by kernel_rfl) Try.func30 rfl (by kernel_rfl) (ConvRs.refl _ _) (by kernel_rfl) (by kernel_rfl) (by kernel_rfl) (by decide) (by kernel_rfl) (by kernel_rfl) (fun _ => (by kernel_rfl)) (fun _ => (by kernel_rfl)) (fun _ => (by kernel_rfl)) (fun r13 => ?_)
  refine oOp (.d (.bool (!r13))) (by kernel_rfl) (by kernel_rfl) (PureV.does (p_not (p := r13) (by kernel_rfl) (by kernel_rfl))) ?_
  refine oOp (.d (.bool (!r13))) (by kernel_rfl) (by kernel_rfl) (PureV.does (p_move (by kernel_rfl))) ?_
  refine bMeetF (H' := [.box [.d (.int .i64 p0), .d (.int .i64 p1), .d (.lit (List.map e_SPart p2))], .box [.d (.lit (List.map e_Li64 s0)), .d (.lit (List.map e_i64 s1))]]) 7 rfl ((fun (x11 : Bool) => [(2, .d (.lit (List.map e_i64 marks))), (3, .ptr 0 0), (4, .ptr 1 0), (20, .d (.bool x11))])) (fun x11 => ?_) (fun F hj6 => ?_)
  · refine oView (T' := [(2, .d (.lit (List.map e_i64 marks))), (3, .ptr 0 0), (4, .ptr 1 0), (20, .d (.bool x11))]) (H' := [.box [.d (.int .i64 p0), .d (.int .i64 p1), .d (.lit (List.map e_SPart p2))], .box [.d (.lit (List.map e_Li64 s0)), .d (.lit (List.map e_i64 s1))]]) (by kernel_rfl) (by kernel_rfl) ?_
    refine oEnd ?_
    refine bSplit 20 (by kernel_rfl) (fun hc => ?_) (fun hc => ?_)
    · refine oCondT (by kernel_rfl) ?_
      refine oSeq ?_
      refine oRegion rfl ?_
      refine oOp (.d (.bool false)) (by kernel_rfl) (by kernel_rfl) (PureV.does (p_assign (by kernel_rfl))) ?_
      refine oEnd ?_
      exact oRet (r0 := false) (rv := .d (.bool false)) (B := []) (vs := [.d (.bool false)]) (σ := []) (by kernel_rfl) Try.func36 rfl (.cons _ _ _ _ (.tmp 6 _ (by kernel_rfl)) .nil) (by kernel_rfl) (by kernel_rfl) (by kernel_rfl) (by kernel_rfl) (by decide) (by kernel_rfl) (by kernel_rfl)
    · refine oCondF (by kernel_rfl) ?_
      refine oSkip ?_
      refine oSeq ?_
      refine oSeq ?_
      refine oRegion rfl ?_
      refine oOp (.ptr 0 2) (by kernel_rfl) (by kernel_rfl) (PureV.does (k_fieldAddr 0 0 (by kernel_rfl) Try.underlying27 rfl ty25 (by kernel_rfl))) ?_
      refine oOp (.d (.lit (List.map e_SPart p2))) (by kernel_rfl) (by kernel_rfl) (Quiet.does (k_load 0 2 (by kernel_rfl) Try.underlying25 (by kernel_rfl) (by kernel_rfl))) ?_
      refine oOp (.d (.int .i64 ((List.length p2) : Int))) (by kernel_rfl) (by kernel_rfl) (PureV.does (k_lenLit (enc := e_SPart) p2 (by kernel_rfl) Try.underlying25)) ?_
      refine oOp (.d (.int .i64 0)) (by kernel_rfl) (by kernel_rfl) (PureV.does (p_move (by kernel_rfl))) ?_
      refine oEnd ?_
      refine bJoin ((u0 ([]))) ((u0 ([]))) Sum.inl (fun s => ?_) (fun hj11 => ?_)
      · cases s
        refine bInl ?_
        refine bU0 ?_
        refine oView (T' := []) (H' := []) (by kernel_rfl) (by kernel_rfl) ?_
        refine oSeq ?_
        refine oRegion rfl ?_
        refine oOp (.d (.bool true)) (by kernel_rfl) (by kernel_rfl) (PureV.does (p_assign (by kernel_rfl))) ?_
        refine oEnd ?_
        exact oRet (r0 := true) (rv := .d (.bool true)) (B := []) (vs := [.d (.bool true)]) (σ := []) (by kernel_rfl) Try.func36 rfl (.cons _ _ _ _ (.tmp 6 _ (by kernel_rfl)) .nil) (by kernel_rfl) (by kernel_rfl) (by kernel_rfl) (by kernel_rfl) (by decide) (by kernel_rfl) (by kernel_rfl)
      · refine oBlock ?_
        refine oLoop ?_
        refine oHead [2, 4, 22, 23, 24] [1] (T' := [(2, .d (.lit (List.map e_i64 marks))), (4, .ptr 0 0), (22, .d (.lit (List.map e_SPart p2))), (23, .d (.int .i64 ((List.length p2) : Int))), (24, .d (.int .i64 0))]) (H' := [.box [.d (.lit (List.map e_Li64 s0)), .d (.lit (List.map e_i64 s1))]]) (by kernel_rfl) (by kernel_rfl) (by kernel_rfl) (by kernel_rfl) (by decide) (by kernel_rfl) (by kernel_rfl) ?_
        refine bLoop (body := scheme_Marked_b1 k p2 s1 marks) ((fun (x26 : Int) => [(2, .d (.lit (List.map e_i64 marks))), (4, .ptr 0 0), (22, .d (.lit (List.map e_SPart p2))), (23, .d (.int .i64 ((List.length p2) : Int))), (24, .d (.int .i64 x26))])) ((fun (x26 : Int) => [.box [.d (.lit (List.map e_Li64 s0)), .d (.lit (List.map e_i64 s1))]])) (fun again hag1 x26 => ?_) k 0
        · unfold scheme_Marked_b1
          refine oView (T' := [(2, .d (.lit (List.map e_i64 marks))), (4, .ptr 0 0), (22, .d (.lit (List.map e_SPart p2))), (23, .d (.int .i64 ((List.length p2) : Int))), (24, .d (.int .i64 x26))]) (H' := [.box [.d (.lit (List.map e_Li64 s0)), .d (.lit (List.map e_i64 s1))]]) (by kernel_rfl) (by kernel_rfl) ?_
          refine oSeq ?_
          refine oRegion rfl ?_
          refine oOp (.d (.bool (decide (x26 < ((List.length p2) : Int))))) (by kernel_rfl) (by kernel_rfl) (PureV.does (p_int (k := .i64) (p := x26) (q := ((List.length p2) : Int)) (by kernel_rfl) (by kernel_rfl) (by kernel_rfl))) ?_
          refine oEnd ?_
          refine oSeq ?_
          refine bSplit 25 (by kernel_rfl) (fun hc => ?_) (fun hc => ?_)
          · refine oCondT (by kernel_rfl) ?_
            refine oSkip ?_
            refine oSeq ?_
            refine oBlock ?_
            refine oSeq ?_
            refine oRegion rfl ?_
            refine oOp (.d (.int .i64 x26)) (by kernel_rfl) (by kernel_rfl) (PureV.does (p_move (by kernel_rfl))) ?_
            refine bIdx (fun e115 h130 h131 => ?_)
            refine oOp (.lptr (e_SPart e115) 0) (by kernel_rfl) (by kernel_rfl) (PureV.does (k_idxLit e_SPart_len p2 (a := e115) (by kernel_rfl) (k := .i64) (i := x26) (by kernel_rfl) Try.underlying25 ty49 h130 h131)) ?_
            refine oOp (.agg [.d (.int .i64 e115.Kind), .d (.int .i64 e115.Max), .d (.int .i64 e115.Topic), .d (.int .i64 e115.Objective), .d (.int .i64 e115.Options), .d (.int .i64 e115.Key)]) (by kernel_rfl) (by kernel_rfl) (Quiet.does (k_loadLAgg (cells := e_SPart e115) 0 [(.int .i64 e115.Kind), (.int .i64 e115.Max), (.int .i64 e115.Topic), (.int .i64 e115.Objective), (.int .i64 e115.Options), (.int .i64 e115.Key)] (by kernel_rfl) Try.underlying49 (by kernel_rfl) ty49 (by kernel_rfl) (by kernel_rfl) (by kernel_rfl))) ?_
            refine oOp (.ptr 1 0) (by kernel_rfl) (by kernel_rfl) (k_alloc (H' := [.box [.d (.lit (List.map e_Li64 s0)), .d (.lit (List.map e_i64 s1))], .box [.d (.int .i64 0), .d (.int .i64 0), .d (.int .i64 0), .d (.int .i64 0), .d (.int .i64 0), .d (.int .i64 0)]]) ty49 (by kernel_rfl) (by kernel_rfl)) ?_
            refine oOp (.d (.int .i64 x26)) (by kernel_rfl) (by kernel_rfl) (PureV.does (p_assign (by kernel_rfl))) ?_
            refine oOp (.undef) (by kernel_rfl) (by kernel_rfl) (k_store (vs := [.d (.int .i64 e115.Kind), .d (.int .i64 e115.Max), .d (.int .i64 e115.Topic), .d (.int .i64 e115.Objective), .d (.int .i64 e115.Options), .d (.int .i64 e115.Key)]) (H' := [.box [.d (.lit (List.map e_Li64 s0)), .d (.lit (List.map e_i64 s1))], .box [.d (.int .i64 e115.Kind), .d (.int .i64 e115.Max), .d (.int .i64 e115.Topic), .d (.int .i64 e115.Objective), .d (.int .i64 e115.Options), .d (.int .i64 e115.Key)]]) 1 0 (by kernel_rfl) ty49 (by kernel_rfl) (by kernel_rfl) (by kernel_rfl)) ?_
            refine oEnd ?_
            refine oSeq ?_
            refine oDraw [(0, 15), (1, 15)] rfl ?_
            refine aTakeL (i := 0) (st' := []) (.ptr 0 1) rfl (by kernel_rfl) (by kernel_rfl) (by kernel_rfl) (by kernel_rfl) (by kernel_rfl) (by kernel_rfl) (by kernel_rfl) (PureV.quiet (k_fieldAddr 0 0 (by kernel_rfl) Try.underlying31 rfl ty22 (by kernel_rfl)) []) ?_
            refine aTakeL (i := 1) (st' := [0]) (.d (.lit (List.map e_i64 s1))) rfl (by kernel_rfl) (by kernel_rfl) (by kernel_rfl) (by kernel_rfl) (by kernel_rfl) (by kernel_rfl) (by kernel_rfl) (k_load 0 1 (by kernel_rfl) Try.underlying22 (by kernel_rfl) (by kernel_rfl)) ?_
            refine aTakeL (i := 2) (st' := []) (.d (.int .i64 x26)) rfl (by kernel_rfl) (by kernel_rfl) (by kernel_rfl) (by kernel_rfl) (by kernel_rfl) (by kernel_rfl) (by kernel_rfl) (PureV.quiet (p_move (by kernel_rfl)) []) ?_
            refine dIdx (fun e11 h12 h13 => ?_)
            refine aTakeL (i := 3) (st' := []) (.lptr (e_i64 e11) 0) rfl (by kernel_rfl) (by kernel_rfl) (by kernel_rfl) (by kernel_rfl) (by kernel_rfl) (by kernel_rfl) (by kernel_rfl) (PureV.quiet (k_idxLit e_i64_len s1 (a := e11) (by kernel_rfl) (k := .i64) (i := x26) (by kernel_rfl) Try.underlying22 ty3 h12 h13) []) ?_
            refine aTakeL (i := 4) (st' := []) (.d (.int .i64 e11)) rfl (by kernel_rfl) (by kernel_rfl) (by kernel_rfl) (by kernel_rfl) (by kernel_rfl) (by kernel_rfl) (by kernel_rfl) (k_loadL (cells := e_i64 e11) 0 (by kernel_rfl) Try.underlying3 (by kernel_rfl) (by kernel_rfl)) ?_
            refine aTakeL (i := 5) (st' := []) (.d (.bool (e11 == 0))) rfl (by kernel_rfl) (by kernel_rfl) (by kernel_rfl) (by kernel_rfl) (by kernel_rfl) (by kernel_rfl) (by kernel_rfl) (PureV.quiet (p_int (k := .i64) (p := e11) (q := 0) (by kernel_rfl) (by kernel_rfl) (by kernel_rfl)) []) ?_
            refine aTakeL (i := 6) (st' := []) (.d (.bool (e11 == 0))) rfl (by kernel_rfl) (by kernel_rfl) (by kernel_rfl) (by kernel_rfl) (by kernel_rfl) (by kernel_rfl) (by kernel_rfl) (PureV.quiet (p_move (by kernel_rfl)) []) ?_
            refine dMeet [14, 13, 12, 11, 10, 9, 8, 7, 6, 5, 4, 3, 2, 1, 0] (fun (x35 : Bool) => [(2, .d (.lit (List.map e_i64 marks))), (4, .ptr 0 0), (22, .d (.lit (List.map e_SPart p2))), (23, .d (.int .i64 ((List.length p2) : Int))), (24, .d (.int .i64 x26)), (43, .d (.bool x35))]) (fun (x35 : Bool) => [(2, .d (.lit (List.map e_i64 marks))), (4, .ptr 0 0), (22, .d (.lit (List.map e_SPart p2))), (23, .d (.int .i64 ((List.length p2) : Int))), (24, .d (.int .i64 x26)), (43, .d (.bool x35))]) (fun _ => [.box [.d (.lit (List.map e_Li64 s0)), .d (.lit (List.map e_i64 s1))], .box [.d (.int .i64 e115.Kind), .d (.int .i64 e115.Max), .d (.int .i64 e115.Topic), .d (.int .i64 e115.Objective), .d (.int .i64 e115.Options), .d (.int .i64 e115.Key)]]) (fun s => s) (fun x35 => ?_) (fun hj17 => ?_)
            · refine aDone (by kernel_rfl) ?_
              refine bSplit 43 (by kernel_rfl) (fun hc => ?_) (fun hc => ?_)
              · refine oCondT (by kernel_rfl) ?_
                refine oSeq ?_
                refine oRegion rfl ?_
                refine oOp (.d (.bool false)) (by kernel_rfl) (by kernel_rfl) (PureV.does (p_assign (by kernel_rfl))) ?_
                refine oEnd ?_
                exact oRet (r0 := false) (rv := .d (.bool false)) (B := []) (vs := [.d (.bool false)]) (σ := []) (by kernel_rfl) Try.func36 rfl (.cons _ _ _ _ (.tmp 6 _ (by kernel_rfl)) .nil) (by kernel_rfl) (by kernel_rfl) (by kernel_rfl) (by kernel_rfl) (by decide) (by kernel_rfl) (by kernel_rfl)
              · refine oCondF (by kernel_rfl) ?_
                refine oSkip ?_
                refine oBlk ?_
                refine oRegion rfl ?_
                refine oOp (.d (.int .i64 (IntKind.wrap .i64 (x26 + 1)))) (by kernel_rfl) (by kernel_rfl) (PureV.does (p_int (k := .i64) (p := x26) (q := 1) (by kernel_rfl) (by kernel_rfl) (by kernel_rfl))) ?_
                refine oOp (.d (.int .i64 (IntKind.wrap .i64 (x26 + 1)))) (by kernel_rfl) (by kernel_rfl) (PureV.does (p_move (by kernel_rfl))) ?_
                refine oEnd ?_
                refine oAgain ?_
                refine oHead [2, 4, 22, 23, 24] [0] (T' := [(2, .d (.lit (List.map e_i64 marks))), (4, .ptr 0 0), (22, .d (.lit (List.map e_SPart p2))), (23, .d (.int .i64 ((List.length p2) : Int))), (24, .d (.int .i64 (IntKind.wrap .i64 (x26 + 1))))]) (H' := [.box [.d (.lit (List.map e_Li64 s0)), .d (.lit (List.map e_i64 s1))]]) (by kernel_rfl) (by kernel_rfl) (by kernel_rfl) (by kernel_rfl) (by decide) (by kernel_rfl) (by kernel_rfl) ?_
                exact hag1 (IntKind.wrap .i64 (x26 + 1))
            · refine dSplit 35 (by kernel_rfl) (by kernel_rfl) (fun hc => ?_) (fun hc => ?_)
              · refine aTakeL (i := 7) (st' := [1]) (.agg [.d (.int .i64 e115.Kind), .d (.int .i64 e115.Max), .d (.int .i64 e115.Topic), .d (.int .i64 e115.Objective), .d (.int .i64 e115.Options), .d (.int .i64 e115.Key)]) rfl (by kernel_rfl) (by kernel_rfl) (by kernel_rfl) (by kernel_rfl) (by kernel_rfl) (by kernel_rfl) (by kernel_rfl) (k_loadAgg 1 0 (by kernel_rfl) Try.underlying49 (by kernel_rfl) ty49 (by kernel_rfl)) ?_
                refine aTakeL (i := 8) (st' := []) (.d (.lit (List.map e_i64 marks))) rfl (by kernel_rfl) (by kernel_rfl) (by kernel_rfl) (by kernel_rfl) (by kernel_rfl) (by kernel_rfl) (by kernel_rfl) (PureV.quiet (p_move (by kernel_rfl)) []) ?_
                refine aTakeL (i := 9) (st' := []) (.d (.int .i64 x26)) rfl (by kernel_rfl) (by kernel_rfl) (by kernel_rfl) (by kernel_rfl) (by kernel_rfl) (by kernel_rfl) (by kernel_rfl) (PureV.quiet (p_move (by kernel_rfl)) []) ?_
                refine dIdx (fun e12 h14 h15 => ?_)
                refine aTakeL (i := 10) (st' := []) (.lptr (e_i64 e12) 0) rfl (by kernel_rfl) (by kernel_rfl) (by kernel_rfl) (by kernel_rfl) (by kernel_rfl) (by kernel_rfl) (by kernel_rfl) (PureV.quiet (k_idxLit e_i64_len marks (a := e12) (by kernel_rfl) (k := .i64) (i := x26) (by kernel_rfl) Try.underlying22 ty3 h14 h15) []) ?_
                refine aTakeL (i := 11) (st' := []) (.d (.int .i64 e12)) rfl (by kernel_rfl) (by kernel_rfl) (by kernel_rfl) (by kernel_rfl) (by kernel_rfl) (by kernel_rfl) (by kernel_rfl) (k_loadL (cells := e_i64 e12) 0 (by kernel_rfl) Try.underlying3 (by kernel_rfl) (by kernel_rfl)) ?_
                refine dCall (i := 12) (caps := []) (v := (fun (r11 : Bool) => (.d (.bool r11) : V))) (H' := (fun (r11 : Bool) => ([.box [.d (.lit (List.map e_Li64 s0)), .d (.lit (List.map e_i64 s1))], .box [.d (.int .i64 e115.Kind), .d (.int .i64 e115.Max), .d (.int .i64 e115.Topic), .d (.int .i64 e115.Objective), .d (.int .i64 e115.Options), .d (.int .i64 e115.Key)]] : List Blk))) [] _ (scheme_permitted_goes k e115.Kind e115.Max e115.Topic e115.Objective e115.Options e115.Key e12) rfl (by kernel_rfl) (by kernel_rfl) (by kernel_rfl) (by kernel_rfl) (by kernel_rfl) (by kernel_rfl) (by kernel_rfl) (by kernel_rfl) rfl (by kernel_rfl) Try.func56 rfl (by kernel_rfl) (ConvRs.refl _ _) (by kernel_rfl) (by kernel_rfl) (by kernel_rfl) (by decide) (by kernel_rfl) (by kernel_rfl) (fun _ => (by kernel_rfl)) (fun _ => (by kernel_rfl)) (fun _ => (by kernel_rfl)) (fun r11 => ?_)
                refine aTakeL (i := 13) (st' := []) (.d (.bool (!r11))) rfl (by kernel_rfl) (by kernel_rfl) (by kernel_rfl) (by kernel_rfl) (by kernel_rfl) (by kernel_rfl) (by kernel_rfl) (PureV.quiet (p_not (p := r11) (by kernel_rfl) (by kernel_rfl)) []) ?_
                refine aTakeL (i := 14) (st' := []) (.d (.bool (!r11))) rfl (by kernel_rfl) (by kernel_rfl) (by kernel_rfl) (by kernel_rfl) (by kernel_rfl) (by kernel_rfl) (by kernel_rfl) (PureV.quiet (p_pick (b := true) (by kernel_rfl) (by kernel_rfl)) []) ?_
                refine dDrop [2, 4, 22, 23, 24, 43] [2, 4, 22, 23, 24, 43] (T' := [(2, .d (.lit (List.map e_i64 marks))), (4, .ptr 0 0), (22, .d (.lit (List.map e_SPart p2))), (23, .d (.int .i64 ((List.length p2) : Int))), (24, .d (.int .i64 x26)), (43, .d (.bool (!r11)))]) (U' := [(2, .d (.lit (List.map e_i64 marks))), (4, .ptr 0 0), (22, .d (.lit (List.map e_SPart p2))), (23, .d (.int .i64 ((List.length p2) : Int))), (24, .d (.int .i64 x26)), (43, .d (.bool (!r11)))]) (by kernel_rfl) (by kernel_rfl) ?_
                exact hj17 (!r11)
              · refine aTakeNot (i := 7) rfl (by kernel_rfl) (by kernel_rfl) (by kernel_rfl) (by kernel_rfl) (by kernel_rfl) (by kernel_rfl) (by kernel_rfl) ?_
                refine aTakeNot (i := 8) rfl (by kernel_rfl) (by kernel_rfl) (by kernel_rfl) (by kernel_rfl) (by kernel_rfl) (by kernel_rfl) (by kernel_rfl) ?_
                refine aTakeNot (i := 9) rfl (by kernel_rfl) (by kernel_rfl) (by kernel_rfl) (by kernel_rfl) (by kernel_rfl) (by kernel_rfl) (by kernel_rfl) ?_
                refine aTakeNot (i := 10) rfl (by kernel_rfl) (by kernel_rfl) (by kernel_rfl) (by kernel_rfl) (by kernel_rfl) (by kernel_rfl) (by kernel_rfl) ?_
                refine aTakeNot (i := 11) rfl (by kernel_rfl) (by kernel_rfl) (by kernel_rfl) (by kernel_rfl) (by kernel_rfl) (by kernel_rfl) (by kernel_rfl) ?_
                refine aTakeNot (i := 12) rfl (by kernel_rfl) (by kernel_rfl) (by kernel_rfl) (by kernel_rfl) (by kernel_rfl) (by kernel_rfl) (by kernel_rfl) ?_
                refine aTakeNot (i := 13) rfl (by kernel_rfl) (by kernel_rfl) (by kernel_rfl) (by kernel_rfl) (by kernel_rfl) (by kernel_rfl) (by kernel_rfl) ?_
                refine aTakeL (i := 14) (st' := []) (.d (.bool false)) rfl (by kernel_rfl) (by kernel_rfl) (by kernel_rfl) (by kernel_rfl) (by kernel_rfl) (by kernel_rfl) (by kernel_rfl) (PureV.quiet (p_pick (b := false) (by kernel_rfl) (by kernel_rfl)) []) ?_
                refine dDrop [2, 4, 22, 23, 24, 43] [2, 4, 22, 23, 24, 43] (T' := [(2, .d (.lit (List.map e_i64 marks))), (4, .ptr 0 0), (22, .d (.lit (List.map e_SPart p2))), (23, .d (.int .i64 ((List.length p2) : Int))), (24, .d (.int .i64 x26)), (43, .d (.bool false))]) (U' := [(2, .d (.lit (List.map e_i64 marks))), (4, .ptr 0 0), (22, .d (.lit (List.map e_SPart p2))), (23, .d (.int .i64 ((List.length p2) : Int))), (24, .d (.int .i64 x26)), (43, .d (.bool false))]) (by kernel_rfl) (by kernel_rfl) ?_
                exact hj17 false
          · refine oCondF (by kernel_rfl) ?_
            refine oExit rfl ?_
            refine oHead [] [] (T' := []) (H' := []) (by kernel_rfl) (by kernel_rfl) (by kernel_rfl) (by kernel_rfl) (by decide) (by kernel_rfl) (by kernel_rfl) ?_
            exact hj11 ()
  · refine bPickF 13 (fun c => F (c || (((List.length marks) : Int) != ((List.length p2) : Int)))) (by kernel_rfl) (fun hc => ?_) (fun hc => ?_)
    · refine oNot (by kernel_rfl) (by kernel_rfl) ?_
      refine oNot (by kernel_rfl) (by kernel_rfl) ?_
      refine oNot (by kernel_rfl) (by kernel_rfl) ?_
      refine oNot (by kernel_rfl) (by kernel_rfl) ?_
      refine oNot (by kernel_rfl) (by kernel_rfl) ?_
      refine oNot (by kernel_rfl) (by kernel_rfl) ?_
      refine oOp (.d (.bool true)) (by kernel_rfl) (by kernel_rfl) (PureV.does (p_pick (b := true) (by kernel_rfl) (by kernel_rfl))) ?_
      refine oHead [2, 3, 4, 20] [0, 1] (T' := [(2, .d (.lit (List.map e_i64 marks))), (3, .ptr 0 0), (4, .ptr 1 0), (20, .d (.bool true))]) (H' := [.box [.d (.int .i64 p0), .d (.int .i64 p1), .d (.lit (List.map e_SPart p2))], .box [.d (.lit (List.map e_Li64 s0)), .d (.lit (List.map e_i64 s1))]]) (by kernel_rfl) (by kernel_rfl) (by kernel_rfl) (by kernel_rfl) (by decide) (by kernel_rfl) (by kernel_rfl) ?_
      exact hj6 true
    · refine oOp (.d (.lit (List.map e_i64 marks))) (by kernel_rfl) (by kernel_rfl) (PureV.does (p_move (by kernel_rfl))) ?_
      refine oOp (.d (.int .i64 ((List.length marks) : Int))) (by kernel_rfl) (by kernel_rfl) (PureV.does (k_lenLit (enc := e_i64) marks (by kernel_rfl) Try.underlying22)) ?_
      refine oOp (.ptr 0 2) (by kernel_rfl) (by kernel_rfl) (PureV.does (k_fieldAddr 0 0 (by kernel_rfl) Try.underlying27 rfl ty25 (by kernel_rfl))) ?_
      refine oOp (.d (.lit (List.map e_SPart p2))) (by kernel_rfl) (by kernel_rfl) (Quiet.does (k_load 0 2 (by kernel_rfl) Try.underlying25 (by kernel_rfl) (by kernel_rfl))) ?_
      refine oOp (.d (.int .i64 ((List.length p2) : Int))) (by kernel_rfl) (by kernel_rfl) (PureV.does (k_lenLit (enc := e_SPart) p2 (by kernel_rfl) Try.underlying25)) ?_
      refine oOp (.d (.bool (((List.length marks) : Int) != ((List.length p2) : Int)))) (by kernel_rfl) (by kernel_rfl) (PureV.does (p_int (k := .i64) (p := ((List.length marks) : Int)) (q := ((List.length p2) : Int)) (by kernel_rfl) (by kernel_rfl) (by kernel_rfl))) ?_
      refine oOp (.d (.bool (((List.length marks) : Int) != ((List.length p2) : Int)))) (by kernel_rfl) (by kernel_rfl) (PureV.does (p_pick (b := false) (by kernel_rfl) (by kernel_rfl))) ?_
      refine oHead [2, 3, 4, 20] [0, 1] (T' := [(2, .d (.lit (List.map e_i64 marks))), (3, .ptr 0 0), (4, .ptr 1 0), (20, .d (.bool (((List.length marks) : Int) != ((List.length p2) : Int))))]) (H' := [.box [.d (.int .i64 p0), .d (.int .i64 p1), .d (.lit (List.map e_SPart p2))], .box [.d (.lit (List.map e_Li64 s0)), .d (.lit (List.map e_i64 s1))]]) (by kernel_rfl) (by kernel_rfl) (by kernel_rfl) (by kernel_rfl) (by decide) (by kernel_rfl) (by kernel_rfl) ?_
      exact hj6 (((List.length marks) : Int) != ((List.length p2) : Int))

/-- awardingbody/scheme.Total$1 -/
def scheme_Total_1 (k : Nat) (i : Int) (x : (List Int)) : Option (Int) := gidx x i fun e11 => some (gmax e11 0)
def scheme_Total_1_E (i : Int) (x : (List Int)) : Int → V × List Blk := fun r1 => (.d (.int .i64 r1), [.box [.d (.lit (List.map e_i64 x))]])
theorem scheme_Total_1_goes (k : Nat) (i : Int) (x : (List Int)) : RunsO Try.prog 46 [.d (.int .i64 i), .ptr 0 0] [.box [.d (.lit (List.map e_i64 x))]] (scheme_Total_1_E i x) (scheme_Total_1 k i x) := by
  refine RunsO.of_goes (N := 9) (m := 1) (T := [(0, .d (.int .i64 i)), (1, .ptr 0 0)]) Try.func46 rfl rfl (by kernel_rfl) (by kernel_rfl) (by kernel_rfl) ?_
  unfold scheme_Total_1
  refine bStart ?_
  refine oSeq ?_
  refine oRegion rfl ?_
  refine oOp (.d (.int .i64 0)) (by kernel_rfl) (by kernel_rfl) (PureV.does (p_assign (by kernel_rfl))) ?_
  refine oEnd ?_
  refine oSeq ?_
  refine oRegion rfl ?_
  refine oOp (.d (.lit (List.map e_i64 x))) (by kernel_rfl) (by kernel_rfl) (Quiet.does (k_load 0 0 (by kernel_rfl) Try.underlying22 (by kernel_rfl) (by kernel_rfl))) ?_
  refine oOp (.d (.int .i64 i)) (by kernel_rfl) (by kernel_rfl) (PureV.does (p_move (by kernel_rfl))) ?_
  refine bIdx (fun e11 h12 h13 => ?_)
  refine oOp (.lptr (e_i64 e11) 0) (by kernel_rfl) (by kernel_rfl) (PureV.does (k_idxLit e_i64_len x (a := e11) (by kernel_rfl) (k := .i64) (i := i) (by kernel_rfl) Try.underlying22 ty3 h12 h13)) ?_
  refine oOp (.d (.int .i64 e11)) (by kernel_rfl) (by kernel_rfl) (Quiet.does (k_loadL (cells := e_i64 e11) 0 (by kernel_rfl) Try.underlying3 (by kernel_rfl) (by kernel_rfl))) ?_
  refine oOp (.d (.int .i64 (gmax e11 0))) (by kernel_rfl) (by kernel_rfl) (PureV.does (p_max2 (k := .i64) (p := e11) (q := 0) (by kernel_rfl) (by kernel_rfl) (by kernel_rfl))) ?_
  refine oOp (.d (.int .i64 (gmax e11 0))) (by kernel_rfl) (by kernel_rfl) (PureV.does (p_assign (by kernel_rfl))) ?_
  refine oEnd ?_
  exact oRet (r0 := (gmax e11 0)) (rv := .d (.int .i64 (gmax e11 0))) (B := [.box [.d (.lit (List.map e_i64 x))]]) (vs := [.d (.int .i64 (gmax e11 0))]) (σ := [0]) (by kernel_rfl) Try.func46 rfl (.cons _ _ _ _ (.tmp 3 _ (by kernel_rfl)) .nil) (by kernel_rfl) (by kernel_rfl) (by kernel_rfl) (by kernel_rfl) (by decide) (by kernel_rfl) (by kernel_rfl)

/-- awardingbody/scheme.sum -/
def scheme_sum_b1 (k : Nat) (p2 : (List SPart)) (s1 : (List Int)) (x : (List Int)) (again : Int × Int → Option (Int)) : Int × Int → Option (Int) := uc fun n11 => fun x5 => bif (decide (x5 < ((List.length p2) : Int))) then Option.bind (gidx p2 x5 fun e114 => gidx s1 x5 fun e115 => bif (e115 == 0) then Option.bind (scheme_Total_1 k x5 x) (fun r18 => some (IntKind.wrap .i64 (n11 + r18))) else bif (e115 == 1) then some (IntKind.wrap .i64 (n11 + e114.Max)) else bif (e115 == 2) then some n11 else some n11 : Option (Int)) (fun n14 => again (n14, (IntKind.wrap .i64 (x5 + 1)))) else some n11
def scheme_sum (k : Nat) (p0 : Int) (p1 : Int) (p2 : (List SPart)) (s0 : (List (List Int))) (s1 : (List Int)) (x : (List Int)) : Option (Int) := Option.bind (gloop (scheme_sum_b1 k p2 s1 x) k (0, 0) : Option (Int)) (fun n9 => some n9)
def scheme_sum_E (p0 : Int) (p1 : Int) (p2 : (List SPart)) (s0 : (List (List Int))) (s1 : (List Int)) (x : (List Int)) : Int → V × List Blk := fun r12 => (.d (.int .i64 r12), [.box [.d (.lit (List.map e_i64 x))]])
theorem scheme_sum_goes (k : Nat) (p0 : Int) (p1 : Int) (p2 : (List SPart)) (s0 : (List (List Int))) (s1 : (List Int)) (x : (List Int)) : RunsO Try.prog 45 [.agg [.d (.int .i64 p0), .d (.int .i64 p1), .d (.lit (List.map e_SPart p2))], .agg [.d (.lit (List.map e_Li64 s0)), .d (.lit (List.map e_i64 s1))], .fn 46 [.ptr 0 0]] [.box [.d (.lit (List.map e_i64 x))]] (scheme_sum_E p0 p1 p2 s0 s1 x) (scheme_sum k p0 p1 p2 s0 s1 x) := by
  refine RunsO.of_goes (N := 40) (m := 1) (T := [(0, .agg [.d (.int .i64 p0), .d (.int .i64 p1), .d (.lit (List.map e_SPart p2))]), (1, .agg [.d (.lit (List.map e_Li64 s0)), .d (.lit (List.map e_i64 s1))]), (2, .fn 46 [.ptr 0 0])]) Try.func45 rfl rfl (by kernel_rfl) (by kernel_rfl) (by kernel_rfl) ?_
  unfold scheme_sum
  refine bStart ?_
  refine oSeq ?_
  refine oRegion rfl ?_
  refine oOp (.ptr 1 0) (by kernel_rfl) (by kernel_rfl) (k_box (H' := [.box [.d (.lit (List.map e_i64 x))], .box [.d (.int .i64 p0), .d (.int .i64 p1), .d (.lit (List.map e_SPart p2))]]) (cells := [.d (.int .i64 p0), .d (.int .i64 p1), .d (.lit (List.map e_SPart p2))]) (by kernel_rfl) (by kernel_rfl) (by kernel_rfl)) ?_
  refine oOp (.ptr 2 0) (by kernel_rfl) (by kernel_rfl) (k_box (H' := [.box [.d (.lit (List.map e_i64 x))], .box [.d (.int .i64 p0), .d (.int .i64 p1), .d (.lit (List.map e_SPart p2))], .box [.d (.lit (List.map e_Li64 s0)), .d (.lit (List.map e_i64 s1))]]) (cells := [.d (.lit (List.map e_Li64 s0)), .d (.lit (List.map e_i64 s1))]) (by kernel_rfl) (by kernel_rfl) (by kernel_rfl)) ?_
  refine oOp (.d (.int .i64 0)) (by kernel_rfl) (by kernel_rfl) (PureV.does (p_assign (by kernel_rfl))) ?_
  refine oEnd ?_
  refine oSeq ?_
  refine oRegion rfl ?_
  refine oOp (.d (.int .i64 0)) (by kernel_rfl) (by kernel_rfl) (PureV.does (p_assign (by kernel_rfl))) ?_
  refine oEnd ?_
  refine oSeq ?_
  refine oSeq ?_
  refine oRegion rfl ?_
  refine oOp (.ptr 1 2) (by kernel_rfl) (by kernel_rfl) (PureV.does (k_fieldAddr 1 0 (by kernel_rfl) Try.underlying27 rfl ty25 (by kernel_rfl))) ?_
  refine oOp (.d (.lit (List.map e_SPart p2))) (by kernel_rfl) (by kernel_rfl) (Quiet.does (k_load 1 2 (by kernel_rfl) Try.underlying25 (by kernel_rfl) (by kernel_rfl))) ?_
  refine oOp (.d (.int .i64 ((List.length p2) : Int))) (by kernel_rfl) (by kernel_rfl) (PureV.does (k_lenLit (enc := e_SPart) p2 (by kernel_rfl) Try.underlying25)) ?_
  refine oOp (.d (.int .i64 0)) (by kernel_rfl) (by kernel_rfl) (PureV.does (p_move (by kernel_rfl))) ?_
  refine oEnd ?_
  refine bJoin ((fun (n9 : Int) => [(7, .d (.int .i64 n9))])) ((fun (n9 : Int) => [.box [.d (.lit (List.map e_i64 x))]])) (fun s => s) (fun n9 => ?_) (fun hj6 => ?_)
  · refine oView (T' := [(7, .d (.int .i64 n9))]) (H' := [.box [.d (.lit (List.map e_i64 x))]]) (by kernel_rfl) (by kernel_rfl) ?_
    refine oSeq ?_
    refine oRegion rfl ?_
    refine oOp (.d (.int .i64 n9)) (by kernel_rfl) (by kernel_rfl) (PureV.does (p_move (by kernel_rfl))) ?_
    refine oOp (.d (.int .i64 n9)) (by kernel_rfl) (by kernel_rfl) (PureV.does (p_assign (by kernel_rfl))) ?_
    refine oEnd ?_
    exact oRet (r0 := n9) (rv := .d (.int .i64 n9)) (B := [.box [.d (.lit (List.map e_i64 x))]]) (vs := [.d (.int .i64 n9)]) (σ := [0]) (by kernel_rfl) Try.func45 rfl (.cons _ _ _ _ (.tmp 6 _ (by kernel_rfl)) .nil) (by kernel_rfl) (by kernel_rfl) (by kernel_rfl) (by kernel_rfl) (by decide) (by kernel_rfl) (by kernel_rfl)
  · refine oBlock ?_
    refine oLoop ?_
    refine oHead [2, 4, 7, 11, 12, 13] [0, 2] (T' := [(2, .fn 46 [.ptr 0 0]), (4, .ptr 1 0), (7, .d (.int .i64 0)), (11, .d (.lit (List.map e_SPart p2))), (12, .d (.int .i64 ((List.length p2) : Int))), (13, .d (.int .i64 0))]) (H' := [.box [.d (.lit (List.map e_i64 x))], .box [.d (.lit (List.map e_Li64 s0)), .d (.lit (List.map e_i64 s1))]]) (by kernel_rfl) (by kernel_rfl) (by kernel_rfl) (by kernel_rfl) (by decide) (by kernel_rfl) (by kernel_rfl) ?_
    refine bLoop (body := scheme_sum_b1 k p2 s1 x) ((uc fun (n11 : Int) => (fun (x5 : Int) => [(2, .fn 46 [.ptr 0 0]), (4, .ptr 1 0), (7, .d (.int .i64 n11)), (11, .d (.lit (List.map e_SPart p2))), (12, .d (.int .i64 ((List.length p2) : Int))), (13, .d (.int .i64 x5))]))) ((uc fun (n11 : Int) => (fun (x5 : Int) => [.box [.d (.lit (List.map e_i64 x))], .box [.d (.lit (List.map e_Li64 s0)), .d (.lit (List.map e_i64 s1))]]))) (fun again hag1 s => ?_) k (0, 0)
    · unfold scheme_sum_b1
      obtain ⟨n11, x5⟩ := s
      refine bUc ?_
      refine oView (T' := [(2, .fn 46 [.ptr 0 0]), (4, .ptr 1 0), (7, .d (.int .i64 n11)), (11, .d (.lit (List.map e_SPart p2))), (12, .d (.int .i64 ((List.length p2) : Int))), (13, .d (.int .i64 x5))]) (H' := [.box [.d (.lit (List.map e_i64 x))], .box [.d (.lit (List.map e_Li64 s0)), .d (.lit (List.map e_i64 s1))]]) (by kernel_rfl) (by kernel_rfl) ?_
      refine oSeq ?_
      refine oRegion rfl ?_
      refine oOp (.d (.bool (decide (x5 < ((List.length p2) : Int))))) (by kernel_rfl) (by kernel_rfl) (PureV.does (p_int (k := .i64) (p := x5) (q := ((List.length p2) : Int)) (by kernel_rfl) (by kernel_rfl) (by kernel_rfl))) ?_
      refine oEnd ?_
      refine oSeq ?_
      refine bSplit 14 (by kernel_rfl) (fun hc => ?_) (fun hc => ?_)
      · refine oCondT (by kernel_rfl) ?_
        refine oSkip ?_
        refine oSeq ?_
        refine bJoin ((fun (n14 : Int) => [(2, .fn 46 [.ptr 0 0]), (4, .ptr 1 0), (7, .d (.int .i64 n14)), (11, .d (.lit (List.map e_SPart p2))), (12, .d (.int .i64 ((List.length p2) : Int))), (13, .d (.int .i64 x5))])) ((fun (n14 : Int) => [.box [.d (.lit (List.map e_i64 x))], .box [.d (.lit (List.map e_Li64 s0)), .d (.lit (List.map e_i64 s1))]])) (fun s => s) (fun n14 => ?_) (fun hj9 => ?_)
        · refine oView (T' := [(2, .fn 46 [.ptr 0 0]), (4, .ptr 1 0), (7, .d (.int .i64 n14)), (11, .d (.lit (List.map e_SPart p2))), (12, .d (.int .i64 ((List.length p2) : Int))), (13, .d (.int .i64 x5))]) (H' := [.box [.d (.lit (List.map e_i64 x))], .box [.d (.lit (List.map e_Li64 s0)), .d (.lit (List.map e_i64 s1))]]) (by kernel_rfl) (by kernel_rfl) ?_
          refine oRegion rfl ?_
          refine oOp (.d (.int .i64 (IntKind.wrap .i64 (x5 + 1)))) (by kernel_rfl) (by kernel_rfl) (PureV.does (p_int (k := .i64) (p := x5) (q := 1) (by kernel_rfl) (by kernel_rfl) (by kernel_rfl))) ?_
          refine oOp (.d (.int .i64 (IntKind.wrap .i64 (x5 + 1)))) (by kernel_rfl) (by kernel_rfl) (PureV.does (p_move (by kernel_rfl))) ?_
          refine oEnd ?_
          refine oAgain ?_
          refine oHead [2, 4, 7, 11, 12, 13] [0, 1] (T' := [(2, .fn 46 [.ptr 0 0]), (4, .ptr 1 0), (7, .d (.int .i64 n14)), (11, .d (.lit (List.map e_SPart p2))), (12, .d (.int .i64 ((List.length p2) : Int))), (13, .d (.int .i64 (IntKind.wrap .i64 (x5 + 1))))]) (H' := [.box [.d (.lit (List.map e_i64 x))], .box [.d (.lit (List.map e_Li64 s0)), .d (.lit (List.map e_i64 s1))]]) (by kernel_rfl) (by kernel_rfl) (by kernel_rfl) (by kernel_rfl) (by decide) (by kernel_rfl) (by kernel_rfl) ?_
          exact hag1 (n14, (IntKind.wrap .i64 (x5 + 1)))
        · refine oBlock ?_
          refine oSeq ?_
          refine oRegion rfl ?_
          refine oOp (.d (.int .i64 x5)) (by kernel_rfl) (by kernel_rfl) (PureV.does (p_move (by kernel_rfl))) ?_
          refine bIdx (fun e114 h128 h129 => ?_)
          refine oOp (.lptr (e_SPart e114) 0) (by kernel_rfl) (by kernel_rfl) (PureV.does (k_idxLit e_SPart_len p2 (a := e114) (by kernel_rfl) (k := .i64) (i := x5) (by kernel_rfl) Try.underlying25 ty49 h128 h129)) ?_
          refine oOp (.agg [.d (.int .i64 e114.Kind), .d (.int .i64 e114.Max), .d (.int .i64 e114.Topic), .d (.int .i64 e114.Objective), .d (.int .i64 e114.Options), .d (.int .i64 e114.Key)]) (by kernel_rfl) (by kernel_rfl) (Quiet.does (k_loadLAgg (cells := e_SPart e114) 0 [(.int .i64 e114.Kind), (.int .i64 e114.Max), (.int .i64 e114.Topic), (.int .i64 e114.Objective), (.int .i64 e114.Options), (.int .i64 e114.Key)] (by kernel_rfl) Try.underlying49 (by kernel_rfl) ty49 (by kernel_rfl) (by kernel_rfl) (by kernel_rfl))) ?_
          refine oOp (.ptr 2 0) (by kernel_rfl) (by kernel_rfl) (k_alloc (H' := [.box [.d (.lit (List.map e_i64 x))], .box [.d (.lit (List.map e_Li64 s0)), .d (.lit (List.map e_i64 s1))], .box [.d (.int .i64 0), .d (.int .i64 0), .d (.int .i64 0), .d (.int .i64 0), .d (.int .i64 0), .d (.int .i64 0)]]) ty49 (by kernel_rfl) (by kernel_rfl)) ?_
          refine oOp (.d (.int .i64 x5)) (by kernel_rfl) (by kernel_rfl) (PureV.does (p_assign (by kernel_rfl))) ?_
          refine oOp (.undef) (by kernel_rfl) (by kernel_rfl) (k_store (vs := [.d (.int .i64 e114.Kind), .d (.int .i64 e114.Max), .d (.int .i64 e114.Topic), .d (.int .i64 e114.Objective), .d (.int .i64 e114.Options), .d (.int .i64 e114.Key)]) (H' := [.box [.d (.lit (List.map e_i64 x))], .box [.d (.lit (List.map e_Li64 s0)), .d (.lit (List.map e_i64 s1))], .box [.d (.int .i64 e114.Kind), .d (.int .i64 e114.Max), .d (.int .i64 e114.Topic), .d (.int .i64 e114.Objective), .d (.int .i64 e114.Options), .d (.int .i64 e114.Key)]]) 2 0 (by kernel_rfl) ty49 (by kernel_rfl) (by kernel_rfl) (by kernel_rfl)) ?_
          refine oEnd ?_
          refine oSeq ?_
          refine oRegion rfl ?_
          refine oOp (.ptr 1 1) (by kernel_rfl) (by kernel_rfl) (PureV.does (k_fieldAddr 1 0 (by kernel_rfl) Try.underlying31 rfl ty22 (by kernel_rfl))) ?_
          refine oOp (.d (.lit (List.map e_i64 s1))) (by kernel_rfl) (by kernel_rfl) (Quiet.does (k_load 1 1 (by kernel_rfl) Try.underlying22 (by kernel_rfl) (by kernel_rfl))) ?_
          refine oOp (.d (.int .i64 x5)) (by kernel_rfl) (by kernel_rfl) (PureV.does (p_move (by kernel_rfl))) ?_
          refine bIdx (fun e115 h130 h131 => ?_)
          refine oOp (.lptr (e_i64 e115) 0) (by kernel_rfl) (by kernel_rfl) (PureV.does (k_idxLit e_i64_len s1 (a := e115) (by kernel_rfl) (k := .i64) (i := x5) (by kernel_rfl) Try.underlying22 ty3 h130 h131)) ?_
          refine oOp (.d (.int .i64 e115)) (by kernel_rfl) (by kernel_rfl) (Quiet.does (k_loadL (cells := e_i64 e115) 0 (by kernel_rfl) Try.underlying3 (by kernel_rfl) (by kernel_rfl))) ?_
          refine oEnd ?_
          refine oBlock ?_
          refine oSeq ?_
          refine oRegion rfl ?_
          refine oOp (.d (.bool (e115 == 0))) (by kernel_rfl) (by kernel_rfl) (PureV.does (p_int (k := .i64) (p := e115) (q := 0) (by kernel_rfl) (by kernel_rfl) (by kernel_rfl))) ?_
          refine oOp (.d (.bool (e115 == 0))) (by kernel_rfl) (by kernel_rfl) (PureV.does (p_assign (by kernel_rfl))) ?_
          refine oEnd ?_
          refine bSplit 23 (by kernel_rfl) (fun hc => ?_) (fun hc => ?_)
          · refine oCondT (by kernel_rfl) ?_
            refine oRegion rfl ?_
            refine oOp (.d (.int .i64 n11)) (by kernel_rfl) (by kernel_rfl) (PureV.does (p_move (by kernel_rfl))) ?_
            refine oOp (.fn 46 [.ptr 0 0]) (by kernel_rfl) (by kernel_rfl) (PureV.does (p_move (by kernel_rfl))) ?_
            refine oOp (.d (.int .i64 x5)) (by kernel_rfl) (by kernel_rfl) (PureV.does (p_move (by kernel_rfl))) ?_
            refine bCall (caps := [.ptr 0 0]) (v := (fun (r18 : Int) => (.d (.int .i64 r18) : V))) (H' := (fun (r18 : Int) => ([.box [.d (.lit (List.map e_i64 x))], .box [.d (.lit (List.map e_Li64 s0)), .d (.lit (List.map e_i64 s1))], .box [.d (.int .i64 e114.Kind), .d (.int .i64 e114.Max), .d (.int .i64 e114.Topic), .d (.int .i64 e114.Objective), .d (.int .i64 e114.Options), .d (.int .i64 e114.Key)]] : List Blk))) [0] _ (scheme_Total_1_goes k x5 x) (by kernel_rfl) (by kernel_rfl) rfl (by kernel_rfl) Try.func46 rfl (by kernel_rfl) (ConvRs.refl _ _) (by kernel_rfl) (by kernel_rfl) (by kernel_rfl) (by decide) (by kernel_rfl) (by kernel_rfl) (fun _ => (by kernel_rfl)) (fun _ => (by kernel_rfl)) (fun _ => (by kernel_rfl)) (fun r18 => ?_)
            refine oOp (.d (.int .i64 (IntKind.wrap .i64 (n11 + r18)))) (by kernel_rfl) (by kernel_rfl) (PureV.does (p_int (k := .i64) (p := n11) (q := r18) (by kernel_rfl) (by kernel_rfl) (by kernel_rfl))) ?_
            refine oOp (.d (.int .i64 (IntKind.wrap .i64 (n11 + r18)))) (by kernel_rfl) (by kernel_rfl) (PureV.does (p_assign (by kernel_rfl))) ?_
            refine oEnd ?_
            refine oBlk ?_
            refine oBlk ?_
            refine oHead [2, 4, 7, 11, 12, 13] [0, 1] (T' := [(2, .fn 46 [.ptr 0 0]), (4, .ptr 1 0), (7, .d (.int .i64 (IntKind.wrap .i64 (n11 + r18)))), (11, .d (.lit (List.map e_SPart p2))), (12, .d (.int .i64 ((List.length p2) : Int))), (13, .d (.int .i64 x5))]) (H' := [.box [.d (.lit (List.map e_i64 x))], .box [.d (.lit (List.map e_Li64 s0)), .d (.lit (List.map e_i64 s1))]]) (by kernel_rfl) (by kernel_rfl) (by kernel_rfl) (by kernel_rfl) (by decide) (by kernel_rfl) (by kernel_rfl) ?_
            exact hj9 (IntKind.wrap .i64 (n11 + r18))
          · refine oCondF (by kernel_rfl) ?_
            refine oSeq ?_
            refine oRegion rfl ?_
            refine oOp (.d (.bool (e115 == 1))) (by kernel_rfl) (by kernel_rfl) (PureV.does (p_int (k := .i64) (p := e115) (q := 1) (by kernel_rfl) (by kernel_rfl) (by kernel_rfl))) ?_
            refine oOp (.d (.bool (e115 == 1))) (by kernel_rfl) (by kernel_rfl) (PureV.does (p_assign (by kernel_rfl))) ?_
            refine oEnd ?_
            refine bSplit 30 (by kernel_rfl) (fun hc => ?_) (fun hc => ?_)
            · refine oCondT (by kernel_rfl) ?_
              refine oRegion rfl ?_
              refine oOp (.d (.int .i64 n11)) (by kernel_rfl) (by kernel_rfl) (PureV.does (p_move (by kernel_rfl))) ?_
              refine oOp (.ptr 2 1) (by kernel_rfl) (by kernel_rfl) (PureV.does (k_fieldAddr 2 0 (by kernel_rfl) Try.underlying49 rfl ty3 (by kernel_rfl))) ?_
              refine oOp (.d (.int .i64 e114.Max)) (by kernel_rfl) (by kernel_rfl) (Quiet.does (k_load 2 1 (by kernel_rfl) Try.underlying3 (by kernel_rfl) (by kernel_rfl))) ?_
              refine oOp (.d (.int .i64 (IntKind.wrap .i64 (n11 + e114.Max)))) (by kernel_rfl) (by kernel_rfl) (PureV.does (p_int (k := .i64) (p := n11) (q := e114.Max) (by kernel_rfl) (by kernel_rfl) (by kernel_rfl))) ?_
              refine oOp (.d (.int .i64 (IntKind.wrap .i64 (n11 + e114.Max)))) (by kernel_rfl) (by kernel_rfl) (PureV.does (p_assign (by kernel_rfl))) ?_
              refine oEnd ?_
              refine oBlk ?_
              refine oBlk ?_
              refine oHead [2, 4, 7, 11, 12, 13] [0, 1] (T' := [(2, .fn 46 [.ptr 0 0]), (4, .ptr 1 0), (7, .d (.int .i64 (IntKind.wrap .i64 (n11 + e114.Max)))), (11, .d (.lit (List.map e_SPart p2))), (12, .d (.int .i64 ((List.length p2) : Int))), (13, .d (.int .i64 x5))]) (H' := [.box [.d (.lit (List.map e_i64 x))], .box [.d (.lit (List.map e_Li64 s0)), .d (.lit (List.map e_i64 s1))]]) (by kernel_rfl) (by kernel_rfl) (by kernel_rfl) (by kernel_rfl) (by decide) (by kernel_rfl) (by kernel_rfl) ?_
              exact hj9 (IntKind.wrap .i64 (n11 + e114.Max))
            · refine oCondF (by kernel_rfl) ?_
              refine oSeq ?_
              refine oRegion rfl ?_
              refine oOp (.d (.bool (e115 == 2))) (by kernel_rfl) (by kernel_rfl) (PureV.does (p_int (k := .i64) (p := e115) (q := 2) (by kernel_rfl) (by kernel_rfl) (by kernel_rfl))) ?_
              refine oOp (.d (.bool (e115 == 2))) (by kernel_rfl) (by kernel_rfl) (PureV.does (p_assign (by kernel_rfl))) ?_
              refine oEnd ?_
              refine bSplit 36 (by kernel_rfl) (fun hc => ?_) (fun hc => ?_)
              · refine oCondT (by kernel_rfl) ?_
                refine oSkip ?_
                refine oBlk ?_
                refine oBlk ?_
                refine oHead [2, 4, 7, 11, 12, 13] [0, 1] (T' := [(2, .fn 46 [.ptr 0 0]), (4, .ptr 1 0), (7, .d (.int .i64 n11)), (11, .d (.lit (List.map e_SPart p2))), (12, .d (.int .i64 ((List.length p2) : Int))), (13, .d (.int .i64 x5))]) (H' := [.box [.d (.lit (List.map e_i64 x))], .box [.d (.lit (List.map e_Li64 s0)), .d (.lit (List.map e_i64 s1))]]) (by kernel_rfl) (by kernel_rfl) (by kernel_rfl) (by kernel_rfl) (by decide) (by kernel_rfl) (by kernel_rfl) ?_
                exact hj9 n11
              · refine oCondF (by kernel_rfl) ?_
                refine oSkip ?_
                refine oBlk ?_
                refine oBlk ?_
                refine oHead [2, 4, 7, 11, 12, 13] [0, 1] (T' := [(2, .fn 46 [.ptr 0 0]), (4, .ptr 1 0), (7, .d (.int .i64 n11)), (11, .d (.lit (List.map e_SPart p2))), (12, .d (.int .i64 ((List.length p2) : Int))), (13, .d (.int .i64 x5))]) (H' := [.box [.d (.lit (List.map e_i64 x))], .box [.d (.lit (List.map e_Li64 s0)), .d (.lit (List.map e_i64 s1))]]) (by kernel_rfl) (by kernel_rfl) (by kernel_rfl) (by kernel_rfl) (by decide) (by kernel_rfl) (by kernel_rfl) ?_
                exact hj9 n11
      · refine oCondF (by kernel_rfl) ?_
        refine oExit rfl ?_
        refine oHead [7] [0] (T' := [(7, .d (.int .i64 n11))]) (H' := [.box [.d (.lit (List.map e_i64 x))]]) (by kernel_rfl) (by kernel_rfl) (by kernel_rfl) (by kernel_rfl) (by decide) (by kernel_rfl) (by kernel_rfl) ?_
        exact hj6 n11

/-- awardingbody/scheme.Total -/
def scheme_Total (k : Nat) (p0 : Int) (p1 : Int) (p2 : (List SPart)) (s0 : (List (List Int))) (s1 : (List Int)) (marks : (List Int)) : Option (Int × Int) := Option.bind (scheme_Valid k p0 p1 p2 s0 s1) (fun r16 => bif (!r16) then some (0, 1) else bif (((List.length marks) : Int) != ((List.length p2) : Int)) then some (0, 22) else Option.bind (scheme_Marked k p0 p1 p2 s0 s1 marks) (fun r128 => bif (!r128) then some (0, 8) else Option.bind (scheme_sum k p0 p1 p2 s0 s1 marks) (fun r129 => some (r129, 0))))
def scheme_Total_E (p0 : Int) (p1 : Int) (p2 : (List SPart)) (s0 : (List (List Int))) (s1 : (List Int)) (marks : (List Int)) : Int × Int → V × List Blk := uc fun r13 => fun r14 => (.tuple [.d (.int .i64 r13), .d (.int .i64 r14)], [])
theorem scheme_Total_goes (k : Nat) (p0 : Int) (p1 : Int) (p2 : (List SPart)) (s0 : (List (List Int))) (s1 : (List Int)) (marks : (List Int)) : RunsO Try.prog 21 [.agg [.d (.int .i64 p0), .d (.int .i64 p1), .d (.lit (List.map e_SPart p2))], .agg [.d (.lit (List.map e_Li64 s0)), .d (.lit (List.map e_i64 s1))], .d (.lit (List.map e_i64 marks))] [] (scheme_Total_E p0 p1 p2 s0 s1 marks) (scheme_Total k p0 p1 p2 s0 s1 marks) := by
  refine RunsO.of_goes (N := 30) (m := 0) (T := [(0, .agg [.d (.int .i64 p0), .d (.int .i64 p1), .d (.lit (List.map e_SPart p2))]), (1, .agg [.d (.lit (List.map e_Li64 s0)), .d (.lit (List.map e_i64 s1))]), (2, .d (.lit (List.map e_i64 marks)))]) Try.func21 rfl rfl (by kernel_rfl) (by kernel_rfl) (by kernel_rfl) ?_
  unfold scheme_Total
  refine bStart ?_
  refine oSeq ?_
  refine oRegion rfl ?_
  refine oOp (.ptr 0 0) (by kernel_rfl) (by kernel_rfl) (k_box (H' := [.box [.d (.int .i64 p0), .d (.int .i64 p1), .d (.lit (List.map e_SPart p2))]]) (cells := [.d (.int .i64 p0), .d (.int .i64 p1), .d (.lit (List.map e_SPart p2))]) (by kernel_rfl) (by kernel_rfl) (by kernel_rfl)) ?_
  refine oOp (.ptr 1 0) (by kernel_rfl) (by kernel_rfl) (k_box (H' := [.box [.d (.int .i64 p0), .d (.int .i64 p1), .d (.lit (List.map e_SPart p2))], .box [.d (.lit (List.map e_Li64 s0)), .d (.lit (List.map e_i64 s1))]]) (cells := [.d (.lit (List.map e_Li64 s0)), .d (.lit (List.map e_i64 s1))]) (by kernel_rfl) (by kernel_rfl) (by kernel_rfl)) ?_
  refine oOp (.ptr 2 0) (by kernel_rfl) (by kernel_rfl) (k_box (H' := [.box [.d (.int .i64 p0), .d (.int .i64 p1), .d (.lit (List.map e_SPart p2))], .box [.d (.lit (List.map e_Li64 s0)), .d (.lit (List.map e_i64 s1))], .box [.d (.lit (List.map e_i64 marks))]]) (cells := [.d (.lit (List.map e_i64 marks))]) (by kernel_rfl) (by kernel_rfl) (by kernel_rfl)) ?_
  refine oOp (.d (.int .i64 0)) (by kernel_rfl) (by kernel_rfl) (PureV.does (p_assign (by kernel_rfl))) ?_
  refine oOp (.d (.int .i64 0)) (by kernel_rfl) (by kernel_rfl) (PureV.does (p_assign (by kernel_rfl))) ?_
  refine oEnd ?_
  refine oSeq ?_
  refine oBlock ?_
  refine oSeq ?_
  refine oRegion rfl ?_
  refine oOp (.agg [.d (.int .i64 p0), .d (.int .i64 p1), .d (.lit (List.map e_SPart p2))]) (by kernel_rfl) (by kernel_rfl) (Quiet.does (k_loadAgg 0 0 (by kernel_rfl) Try.underlying27 (by kernel_rfl) ty27 (by kernel_rfl))) ?_
  refine oOp (.agg [.d (.lit (List.map e_Li64 s0)), .d (.lit (List.map e_i64 s1))]) (by kernel_rfl) (by kernel_rfl) (Quiet.does (k_loadAgg 1 0 (by kernel_rfl) Try.underlying31 (by kernel_rfl) ty31 (by kernel_rfl))) ?_
  refine bCall (caps := []) (v := (fun (r16 : Bool) => (.d (.bool r16) : V))) (H' := (fun (r16 : Bool) => ([.box [.d (.int .i64 p0), .d (.int .i64 p1), .d (.lit (List.map e_SPart p2))], .box [.d (.lit (List.map e_Li64 s0)), .d (.lit (List.map e_i64 s1))], .box [.d (.lit (List.map e_i64 marks))]] : List Blk))) [] _ (scheme_Valid_goes k p0 p1 p2 s0 s1) (by kernel_rfl) (by kernel_rfl) rfl (by kernel_rfl) Try.func30 rfl (by kernel_rfl) (ConvRs.refl _ _) (by kernel_rfl) (by kernel_rfl) (by kernel_rfl) (by decide) (by kernel_rfl) (by kernel_rfl) (fun _ => (by kernel_rfl)) (fun _ => (by kernel_rfl)) (fun _ => (by kernel_rfl)) (fun r16 => ?_)
  refine oOp (.d (.bool (!r16))) (by kernel_rfl) (by kernel_rfl) (PureV.does (p_not (p := r16) (by kernel_rfl) (by kernel_rfl))) ?_
  refine oOp (.d (.bool (!r16))) (by kernel_rfl) (by kernel_rfl) (PureV.does (p_assign (by kernel_rfl))) ?_
  refine oEnd ?_
  refine bSplit 8 (by kernel_rfl) (fun hc => ?_) (fun hc => ?_)
  · refine oCondT (by kernel_rfl) ?_
    refine oSeq ?_
    refine oRegion rfl ?_
    refine oOp (.d (.int .i64 0)) (by kernel_rfl) (by kernel_rfl) (PureV.does (p_assign (by kernel_rfl))) ?_
    refine oOp (.d (.int .i64 1)) (by kernel_rfl) (by kernel_rfl) (PureV.does (p_assign (by kernel_rfl))) ?_
    refine oEnd ?_
    exact oRet (r0 := (0, 1)) (rv := .tuple [.d (.int .i64 0), .d (.int .i64 1)]) (B := []) (vs := [.d (.int .i64 0), .d (.int .i64 1)]) (σ := []) (by kernel_rfl) Try.func21 rfl (.cons _ _ _ _ (.tmp 6 _ (by kernel_rfl)) (.cons _ _ _ _ (.tmp 7 _ (by kernel_rfl)) .nil)) (by kernel_rfl) (by kernel_rfl) (by kernel_rfl) (by kernel_rfl) (by decide) (by kernel_rfl) (by kernel_rfl)
  · refine oCondF (by kernel_rfl) ?_
    refine oSeq ?_
    refine oRegion rfl ?_
    refine oOp (.d (.lit (List.map e_i64 marks))) (by kernel_rfl) (by kernel_rfl) (Quiet.does (k_load 2 0 (by kernel_rfl) Try.underlying22 (by kernel_rfl) (by kernel_rfl))) ?_
    refine oOp (.d (.int .i64 ((List.length marks) : Int))) (by kernel_rfl) (by kernel_rfl) (PureV.does (k_lenLit (enc := e_i64) marks (by kernel_rfl) Try.underlying22)) ?_
    refine oOp (.ptr 0 2) (by kernel_rfl) (by kernel_rfl) (PureV.does (k_fieldAddr 0 0 (by kernel_rfl) Try.underlying27 rfl ty25 (by kernel_rfl))) ?_
    refine oOp (.d (.lit (List.map e_SPart p2))) (by kernel_rfl) (by kernel_rfl) (Quiet.does (k_load 0 2 (by kernel_rfl) Try.underlying25 (by kernel_rfl) (by kernel_rfl))) ?_
    refine oOp (.d (.int .i64 ((List.length p2) : Int))) (by kernel_rfl) (by kernel_rfl) (PureV.does (k_lenLit (enc := e_SPart) p2 (by kernel_rfl) Try.underlying25)) ?_
    refine oOp (.d (.bool (((List.length marks) : Int) != ((List.length p2) : Int)))) (by kernel_rfl) (by kernel_rfl) (PureV.does (p_int (k := .i64) (p := ((List.length marks) : Int)) (q := ((List.length p2) : Int)) (by kernel_rfl) (by kernel_rfl) (by kernel_rfl))) ?_
    refine oOp (.d (.bool (((List.length marks) : Int) != ((List.length p2) : Int)))) (by kernel_rfl) (by kernel_rfl) (PureV.does (p_assign (by kernel_rfl))) ?_
    refine oEnd ?_
    refine bSplit 13 (by kernel_rfl) (fun hc => ?_) (fun hc => ?_)
    · refine oCondT (by kernel_rfl) ?_
      refine oSeq ?_
      refine oRegion rfl ?_
      refine oOp (.d (.int .i64 0)) (by kernel_rfl) (by kernel_rfl) (PureV.does (p_assign (by kernel_rfl))) ?_
      refine oOp (.d (.int .i64 22)) (by kernel_rfl) (by kernel_rfl) (PureV.does (p_assign (by kernel_rfl))) ?_
      refine oEnd ?_
      exact oRet (r0 := (0, 22)) (rv := .tuple [.d (.int .i64 0), .d (.int .i64 22)]) (B := []) (vs := [.d (.int .i64 0), .d (.int .i64 22)]) (σ := []) (by kernel_rfl) Try.func21 rfl (.cons _ _ _ _ (.tmp 6 _ (by kernel_rfl)) (.cons _ _ _ _ (.tmp 7 _ (by kernel_rfl)) .nil)) (by kernel_rfl) (by kernel_rfl) (by kernel_rfl) (by kernel_rfl) (by decide) (by kernel_rfl) (by kernel_rfl)
    · refine oCondF (by kernel_rfl) ?_
      refine oSeq ?_
      refine oRegion rfl ?_
      refine oOp (.agg [.d (.int .i64 p0), .d (.int .i64 p1), .d (.lit (List.map e_SPart p2))]) (by kernel_rfl) (by kernel_rfl) (Quiet.does (k_loadAgg 0 0 (by kernel_rfl) Try.underlying27 (by kernel_rfl) ty27 (by kernel_rfl))) ?_
      refine oOp (.agg [.d (.lit (List.map e_Li64 s0)), .d (.lit (List.map e_i64 s1))]) (by kernel_rfl) (by kernel_rfl) (Quiet.does (k_loadAgg 1 0 (by kernel_rfl) Try.underlying31 (by kernel_rfl) ty31 (by kernel_rfl))) ?_
      refine oOp (.d (.lit (List.map e_i64 marks))) (by kernel_rfl) (by kernel_rfl) (Quiet.does (k_load 2 0 (by kernel_rfl) Try.underlying22 (by kernel_rfl) (by kernel_rfl))) ?_
      refine bCall (caps := []) (v := (fun (r128 : Bool) => (.d (.bool r128) : V))) (H' := (fun (r128 : Bool) => ([.box [.d (.int .i64 p0), .d (.int .i64 p1), .d (.lit (List.map e_SPart p2))], .box [.d (.lit (List.map e_Li64 s0)), .d (.lit (List.map e_i64 s1))], .box [.d (.lit (List.map e_i64 marks))]] : List Blk))) [] _ (scheme_Marked_goes k p0 p1 p2 s0 s1 marks) (by kernel_rfl) (by kernel_rfl) rfl (by kernel_rfl) Try.func36 rfl (by kernel_rfl) (ConvRs.refl _ _) (by kernel_rfl) (by kernel_rfl) (by kernel_rfl) (by decide) (by kernel_rfl) (by kernel_rfl) (fun _ => (by kernel_rfl)) (fun _ => (by kernel_rfl)) (fun _ => (by kernel_rfl)) (fun r128 => ?_)
      refine oOp (.d (.bool (!r128))) (by kernel_rfl) (by kernel_rfl) (PureV.does (p_not (p := r128) (by kernel_rfl) (by kernel_rfl))) ?_
      refine oOp (.d (.bool (!r128))) (by kernel_rfl) (by kernel_rfl) (PureV.does (p_assign (by kernel_rfl))) ?_
      refine oEnd ?_
      refine bSplit 20 (by kernel_rfl) (fun hc => ?_) (fun hc => ?_)
      · refine oCondT (by kernel_rfl) ?_
        refine oSeq ?_
        refine oRegion rfl ?_
        refine oOp (.d (.int .i64 0)) (by kernel_rfl) (by kernel_rfl) (PureV.does (p_assign (by kernel_rfl))) ?_
        refine oOp (.d (.int .i64 8)) (by kernel_rfl) (by kernel_rfl) (PureV.does (p_assign (by kernel_rfl))) ?_
        refine oEnd ?_
        exact oRet (r0 := (0, 8)) (rv := .tuple [.d (.int .i64 0), .d (.int .i64 8)]) (B := []) (vs := [.d (.int .i64 0), .d (.int .i64 8)]) (σ := []) (by kernel_rfl) Try.func21 rfl (.cons _ _ _ _ (.tmp 6 _ (by kernel_rfl)) (.cons _ _ _ _ (.tmp 7 _ (by kernel_rfl)) .nil)) (by kernel_rfl) (by kernel_rfl) (by kernel_rfl) (by kernel_rfl) (by decide) (by kernel_rfl) (by kernel_rfl)
      · refine oCondF (by kernel_rfl) ?_
        refine oSkip ?_
        refine oBlk ?_
        refine oSeq ?_
        refine oRegion rfl ?_
        refine oOp (.agg [.d (.int .i64 p0), .d (.int .i64 p1), .d (.lit (List.map e_SPart p2))]) (by kernel_rfl) (by kernel_rfl) (Quiet.does (k_loadAgg 0 0 (by kernel_rfl) Try.underlying27 (by kernel_rfl) ty27 (by kernel_rfl))) ?_
        refine oOp (.agg [.d (.lit (List.map e_Li64 s0)), .d (.lit (List.map e_i64 s1))]) (by kernel_rfl) (by kernel_rfl) (Quiet.does (k_loadAgg 1 0 (by kernel_rfl) Try.underlying31 (by kernel_rfl) ty31 (by kernel_rfl))) ?_
        refine oOp (.fn 46 [.ptr 2 0]) (by kernel_rfl) (by kernel_rfl) (PureV.does (p_makeFunc (by kernel_rfl))) ?_
        refine bCall (caps := []) (v := (fun (r129 : Int) => (.d (.int .i64 r129) : V))) (H' := (fun (r129 : Int) => ([.box [.d (.int .i64 p0), .d (.int .i64 p1), .d (.lit (List.map e_SPart p2))], .box [.d (.lit (List.map e_Li64 s0)), .d (.lit (List.map e_i64 s1))], .box [.d (.lit (List.map e_i64 marks))]] : List Blk))) [2] _ (scheme_sum_goes k p0 p1 p2 s0 s1 marks) (by kernel_rfl) (by kernel_rfl) rfl (by kernel_rfl) Try.func45 rfl (by kernel_rfl) (ConvRs.refl _ _) (by kernel_rfl) (by kernel_rfl) (by kernel_rfl) (by decide) (by kernel_rfl) (by kernel_rfl) (fun _ => (by kernel_rfl)) (fun _ => (by kernel_rfl)) (fun _ => (by kernel_rfl)) (fun r129 => ?_)
        refine oOp (.d (.int .i64 r129)) (by kernel_rfl) (by kernel_rfl) (PureV.does (p_assign (by kernel_rfl))) ?_
        refine oOp (.d (.int .i64 0)) (by kernel_rfl) (by kernel_rfl) (PureV.does (p_assign (by kernel_rfl))) ?_
        refine oEnd ?_
        exact oRet (r0 := (r129, 0)) (rv := .tuple [.d (.int .i64 r129), .d (.int .i64 0)]) (B := []) (vs := [.d (.int .i64 r129), .d (.int .i64 0)]) (σ := []) (by kernel_rfl) Try.func21 rfl (.cons _ _ _ _ (.tmp 6 _ (by kernel_rfl)) (.cons _ _ _ _ (.tmp 7 _ (by kernel_rfl)) .nil)) (by kernel_rfl) (by kernel_rfl) (by kernel_rfl) (by kernel_rfl) (by decide) (by kernel_rfl) (by kernel_rfl)

/-- awardingbody/scheme.Maximum$1 -/
def scheme_Maximum_1 (k : Nat) (i : Int) (x : Int) (x1 : Int) (x2 : (List SPart)) : Option (Int) := gidx x2 i fun e11 => some e11.Max
def scheme_Maximum_1_E (i : Int) (x : Int) (x1 : Int) (x2 : (List SPart)) : Int → V × List Blk := fun r1 => (.d (.int .i64 r1), [.box [.d (.int .i64 x), .d (.int .i64 x1), .d (.lit (List.map e_SPart x2))]])
theorem scheme_Maximum_1_goes (k : Nat) (i : Int) (x : Int) (x1 : Int) (x2 : (List SPart)) : RunsO Try.prog 47 [.d (.int .i64 i), .ptr 0 0] [.box [.d (.int .i64 x), .d (.int .i64 x1), .d (.lit (List.map e_SPart x2))]] (scheme_Maximum_1_E i x x1 x2) (scheme_Maximum_1 k i x x1 x2) := by
  refine RunsO.of_goes (N := 10) (m := 1) (T := [(0, .d (.int .i64 i)), (1, .ptr 0 0)]) Try.func47 rfl rfl (by kernel_rfl) (by kernel_rfl) (by kernel_rfl) ?_
  unfold scheme_Maximum_1
  refine bStart ?_
  refine oSeq ?_
  refine oRegion rfl ?_
  refine oOp (.d (.int .i64 0)) (by kernel_rfl) (by kernel_rfl) (PureV.does (p_assign (by kernel_rfl))) ?_
  refine oEnd ?_
  refine oSeq ?_
  refine oRegion rfl ?_
  refine oOp (.ptr 0 2) (by kernel_rfl) (by kernel_rfl) (PureV.does (k_fieldAddr 0 0 (by kernel_rfl) Try.underlying27 rfl ty25 (by kernel_rfl))) ?_
  refine oOp (.d (.lit (List.map e_SPart x2))) (by kernel_rfl) (by kernel_rfl) (Quiet.does (k_load 0 2 (by kernel_rfl) Try.underlying25 (by kernel_rfl) (by kernel_rfl))) ?_
  refine oOp (.d (.int .i64 i)) (by kernel_rfl) (by kernel_rfl) (PureV.does (p_move (by kernel_rfl))) ?_
  refine bIdx (fun e11 h12 h13 => ?_)
  refine oOp (.lptr (e_SPart e11) 0) (by kernel_rfl) (by kernel_rfl) (PureV.does (k_idxLit e_SPart_len x2 (a := e11) (by kernel_rfl) (k := .i64) (i := i) (by kernel_rfl) Try.underlying25 ty49 h12 h13)) ?_
  refine oOp (.lptr (e_SPart e11) 1) (by kernel_rfl) (by kernel_rfl) (PureV.does (k_fieldAddrL (cells := e_SPart e11) 0 (by kernel_rfl) Try.underlying49 rfl ty3 (by kernel_rfl))) ?_
  refine oOp (.d (.int .i64 e11.Max)) (by kernel_rfl) (by kernel_rfl) (Quiet.does (k_loadL (cells := e_SPart e11) 1 (by kernel_rfl) Try.underlying3 (by kernel_rfl) (by kernel_rfl))) ?_
  refine oOp (.d (.int .i64 e11.Max)) (by kernel_rfl) (by kernel_rfl) (PureV.does (p_assign (by kernel_rfl))) ?_
  refine oEnd ?_
  exact oRet (r0 := e11.Max) (rv := .d (.int .i64 e11.Max)) (B := [.box [.d (.int .i64 x), .d (.int .i64 x1), .d (.lit (List.map e_SPart x2))]]) (vs := [.d (.int .i64 e11.Max)]) (σ := [0]) (by kernel_rfl) Try.func47 rfl (.cons _ _ _ _ (.tmp 3 _ (by kernel_rfl)) .nil) (by kernel_rfl) (by kernel_rfl) (by kernel_rfl) (by kernel_rfl) (by decide) (by kernel_rfl) (by kernel_rfl)

/-- awardingbody/scheme.sum -/
def scheme_sum_2_b1 (k : Nat) (p2 : (List SPart)) (s1 : (List Int)) (x : Int) (x1 : Int) (x2 : (List SPart)) (again : Int × Int → Option (Int)) : Int × Int → Option (Int) := uc fun n11 => fun x7 => bif (decide (x7 < ((List.length p2) : Int))) then Option.bind (gidx p2 x7 fun e114 => gidx s1 x7 fun e115 => bif (e115 == 0) then Option.bind (scheme_Maximum_1 k x7 x x1 x2) (fun r18 => some (IntKind.wrap .i64 (n11 + r18))) else bif (e115 == 1) then some (IntKind.wrap .i64 (n11 + e114.Max)) else bif (e115 == 2) then some n11 else some n11 : Option (Int)) (fun n14 => again (n14, (IntKind.wrap .i64 (x7 + 1)))) else some n11
def scheme_sum_2 (k : Nat) (p0 : Int) (p1 : Int) (p2 : (List SPart)) (s0 : (List (List Int))) (s1 : (List Int)) (x : Int) (x1 : Int) (x2 : (List SPart)) : Option (Int) := Option.bind (gloop (scheme_sum_2_b1 k p2 s1 x x1 x2) k (0, 0) : Option (Int)) (fun n9 => some n9)
def scheme_sum_2_E (p0 : Int) (p1 : Int) (p2 : (List SPart)) (s0 : (List (List Int))) (s1 : (List Int)) (x : Int) (x1 : Int) (x2 : (List SPart)) : Int → V × List Blk := fun r12 => (.d (.int .i64 r12), [.box [.d (.int .i64 x), .d (.int .i64 x1), .d (.lit (List.map e_SPart x2))]])
theorem scheme_sum_2_goes (k : Nat) (p0 : Int) (p1 : Int) (p2 : (List SPart)) (s0 : (List (List Int))) (s1 : (List Int)) (x : Int) (x1 : Int) (x2 : (List SPart)) : RunsO Try.prog 45 [.agg [.d (.int .i64 p0), .d (.int .i64 p1), .d (.lit (List.map e_SPart p2))], .agg [.d (.lit (List.map e_Li64 s0)), .d (.lit (List.map e_i64 s1))], .fn 47 [.ptr 0 0]] [.box [.d (.int .i64 x), .d (.int .i64 x1), .d (.lit (List.map e_SPart x2))]] (scheme_sum_2_E p0 p1 p2 s0 s1 x x1 x2) (scheme_sum_2 k p0 p1 p2 s0 s1 x x1 x2) := by
  refine RunsO.of_goes (N := 40) (m := 1) (T := [(0, .agg [.d (.int .i64 p0), .d (.int .i64 p1), .d (.lit (List.map e_SPart p2))]), (1, .agg [.d (.lit (List.map e_Li64 s0)), .d (.lit (List.map e_i64 s1))]), (2, .fn 47 [.ptr 0 0])]) Try.func45 rfl rfl (by kernel_rfl) (by kernel_rfl) (by kernel_rfl) ?_
  unfold scheme_sum_2
  refine bStart ?_
  refine oSeq ?_
  refine oRegion rfl ?_
  refine oOp (.ptr 1 0) (by kernel_rfl) (by kernel_rfl) (k_box (H' := [.box [.d (.int .i64 x), .d (.int .i64 x1), .d (.lit (List.map e_SPart x2))], .box [.d (.int .i64 p0), .d (.int .i64 p1), .d (.lit (List.map e_SPart p2))]]) (cells := [.d (.int .i64 p0), .d (.int .i64 p1), .d (.lit (List.map e_SPart p2))]) (by kernel_rfl) (by kernel_rfl) (by kernel_rfl)) ?_
  refine oOp (.ptr 2 0) (by kernel_rfl) (by kernel_rfl) (k_box (H' := [.box [.d (.int .i64 x), .d (.int .i64 x1), .d (.lit (List.map e_SPart x2))], .box [.d (.int .i64 p0), .d (.int .i64 p1), .d (.lit (List.map e_SPart p2))], .box [.d (.lit (List.map e_Li64 s0)), .d (.lit (List.map e_i64 s1))]]) (cells := [.d (.lit (List.map e_Li64 s0)), .d (.lit (List.map e_i64 s1))]) (by kernel_rfl) (by kernel_rfl) (by kernel_rfl)) ?_
  refine oOp (.d (.int .i64 0)) (by kernel_rfl) (by kernel_rfl) (PureV.does (p_assign (by kernel_rfl))) ?_
  refine oEnd ?_
  refine oSeq ?_
  refine oRegion rfl ?_
  refine oOp (.d (.int .i64 0)) (by kernel_rfl) (by kernel_rfl) (PureV.does (p_assign (by kernel_rfl))) ?_
  refine oEnd ?_
  refine oSeq ?_
  refine oSeq ?_
  refine oRegion rfl ?_
  refine oOp (.ptr 1 2) (by kernel_rfl) (by kernel_rfl) (PureV.does (k_fieldAddr 1 0 (by kernel_rfl) Try.underlying27 rfl ty25 (by kernel_rfl))) ?_
  refine oOp (.d (.lit (List.map e_SPart p2))) (by kernel_rfl) (by kernel_rfl) (Quiet.does (k_load 1 2 (by kernel_rfl) Try.underlying25 (by kernel_rfl) (by kernel_rfl))) ?_
  refine oOp (.d (.int .i64 ((List.length p2) : Int))) (by kernel_rfl) (by kernel_rfl) (PureV.does (k_lenLit (enc := e_SPart) p2 (by kernel_rfl) Try.underlying25)) ?_
  refine oOp (.d (.int .i64 0)) (by kernel_rfl) (by kernel_rfl) (PureV.does (p_move (by kernel_rfl))) ?_
  refine oEnd ?_
  refine bJoin ((fun (n9 : Int) => [(7, .d (.int .i64 n9))])) ((fun (n9 : Int) => [.box [.d (.int .i64 x), .d (.int .i64 x1), .d (.lit (List.map e_SPart x2))]])) (fun s => s) (fun n9 => ?_) (fun hj6 => ?_)
  · refine oView (T' := [(7, .d (.int .i64 n9))]) (H' := [.box [.d (.int .i64 x), .d (.int .i64 x1), .d (.lit (List.map e_SPart x2))]]) (by kernel_rfl) (by kernel_rfl) ?_
    refine oSeq ?_
    refine oRegion rfl ?_
    refine oOp (.d (.int .i64 n9)) (by kernel_rfl) (by kernel_rfl) (PureV.does (p_move (by kernel_rfl))) ?_
    refine oOp (.d (.int .i64 n9)) (by kernel_rfl) (by kernel_rfl) (PureV.does (p_assign (by kernel_rfl))) ?_
    refine oEnd ?_
    exact oRet (r0 := n9) (rv := .d (.int .i64 n9)) (B := [.box [.d (.int .i64 x), .d (.int .i64 x1), .d (.lit (List.map e_SPart x2))]]) (vs := [.d (.int .i64 n9)]) (σ := [0]) (by kernel_rfl) Try.func45 rfl (.cons _ _ _ _ (.tmp 6 _ (by kernel_rfl)) .nil) (by kernel_rfl) (by kernel_rfl) (by kernel_rfl) (by kernel_rfl) (by decide) (by kernel_rfl) (by kernel_rfl)
  · refine oBlock ?_
    refine oLoop ?_
    refine oHead [2, 4, 7, 11, 12, 13] [0, 2] (T' := [(2, .fn 47 [.ptr 0 0]), (4, .ptr 1 0), (7, .d (.int .i64 0)), (11, .d (.lit (List.map e_SPart p2))), (12, .d (.int .i64 ((List.length p2) : Int))), (13, .d (.int .i64 0))]) (H' := [.box [.d (.int .i64 x), .d (.int .i64 x1), .d (.lit (List.map e_SPart x2))], .box [.d (.lit (List.map e_Li64 s0)), .d (.lit (List.map e_i64 s1))]]) (by kernel_rfl) (by kernel_rfl) (by kernel_rfl) (by kernel_rfl) (by decide) (by kernel_rfl) (by kernel_rfl) ?_
    refine bLoop (body := scheme_sum_2_b1 k p2 s1 x x1 x2) ((uc fun (n11 : Int) => (fun (x7 : Int) => [(2, .fn 47 [.ptr 0 0]), (4, .ptr 1 0), (7, .d (.int .i64 n11)), (11, .d (.lit (List.map e_SPart p2))), (12, .d (.int .i64 ((List.length p2) : Int))), (13, .d (.int .i64 x7))]))) ((uc fun (n11 : Int) => (fun (x7 : Int) => [.box [.d (.int .i64 x), .d (.int .i64 x1), .d (.lit (List.map e_SPart x2))], .box [.d (.lit (List.map e_Li64 s0)), .d (.lit (List.map e_i64 s1))]]))) (fun again hag1 s => ?_) k (0, 0)
    · unfold scheme_sum_2_b1
      obtain ⟨n11, x7⟩ := s
      refine bUc ?_
      refine oView (T' := [(2, .fn 47 [.ptr 0 0]), (4, .ptr 1 0), (7, .d (.int .i64 n11)), (11, .d (.lit (List.map e_SPart p2))), (12, .d (.int .i64 ((List.length p2) : Int))), (13, .d (.int .i64 x7))]) (H' := [.box [.d (.int .i64 x), .d (.int .i64 x1), .d (.lit (List.map e_SPart x2))], .box [.d (.lit (List.map e_Li64 s0)), .d (.lit (List.map e_i64 s1))]]) (by kernel_rfl) (by kernel_rfl) ?_
      refine oSeq ?_
      refine oRegion rfl ?_
      refine oOp (.d (.bool (decide (x7 < ((List.length p2) : Int))))) (by kernel_rfl) (by kernel_rfl) (PureV.does (p_int (k := .i64) (p := x7) (q := ((List.length p2) : Int)) (by kernel_rfl) (by kernel_rfl) (by kernel_rfl))) ?_
      refine oEnd ?_
      refine oSeq ?_
      refine bSplit 14 (by kernel_rfl) (fun hc => ?_) (fun hc => ?_)
      · refine oCondT (by kernel_rfl) ?_
        refine oSkip ?_
        refine oSeq ?_
        refine bJoin ((fun (n14 : Int) => [(2, .fn 47 [.ptr 0 0]), (4, .ptr 1 0), (7, .d (.int .i64 n14)), (11, .d (.lit (List.map e_SPart p2))), (12, .d (.int .i64 ((List.length p2) : Int))), (13, .d (.int .i64 x7))])) ((fun (n14 : Int) => [.box [.d (.int .i64 x), .d (.int .i64 x1), .d (.lit (List.map e_SPart x2))], .box [.d (.lit (List.map e_Li64 s0)), .d (.lit (List.map e_i64 s1))]])) (fun s => s) (fun n14 => ?_) (fun hj9 => ?_)
        · refine oView (T' := [(2, .fn 47 [.ptr 0 0]), (4, .ptr 1 0), (7, .d (.int .i64 n14)), (11, .d (.lit (List.map e_SPart p2))), (12, .d (.int .i64 ((List.length p2) : Int))), (13, .d (.int .i64 x7))]) (H' := [.box [.d (.int .i64 x), .d (.int .i64 x1), .d (.lit (List.map e_SPart x2))], .box [.d (.lit (List.map e_Li64 s0)), .d (.lit (List.map e_i64 s1))]]) (by kernel_rfl) (by kernel_rfl) ?_
          refine oRegion rfl ?_
          refine oOp (.d (.int .i64 (IntKind.wrap .i64 (x7 + 1)))) (by kernel_rfl) (by kernel_rfl) (PureV.does (p_int (k := .i64) (p := x7) (q := 1) (by kernel_rfl) (by kernel_rfl) (by kernel_rfl))) ?_
          refine oOp (.d (.int .i64 (IntKind.wrap .i64 (x7 + 1)))) (by kernel_rfl) (by kernel_rfl) (PureV.does (p_move (by kernel_rfl))) ?_
          refine oEnd ?_
          refine oAgain ?_
          refine oHead [2, 4, 7, 11, 12, 13] [0, 1] (T' := [(2, .fn 47 [.ptr 0 0]), (4, .ptr 1 0), (7, .d (.int .i64 n14)), (11, .d (.lit (List.map e_SPart p2))), (12, .d (.int .i64 ((List.length p2) : Int))), (13, .d (.int .i64 (IntKind.wrap .i64 (x7 + 1))))]) (H' := [.box [.d (.int .i64 x), .d (.int .i64 x1), .d (.lit (List.map e_SPart x2))], .box [.d (.lit (List.map e_Li64 s0)), .d (.lit (List.map e_i64 s1))]]) (by kernel_rfl) (by kernel_rfl) (by kernel_rfl) (by kernel_rfl) (by decide) (by kernel_rfl) (by kernel_rfl) ?_
          exact hag1 (n14, (IntKind.wrap .i64 (x7 + 1)))
        · refine oBlock ?_
          refine oSeq ?_
          refine oRegion rfl ?_
          refine oOp (.d (.int .i64 x7)) (by kernel_rfl) (by kernel_rfl) (PureV.does (p_move (by kernel_rfl))) ?_
          refine bIdx (fun e114 h128 h129 => ?_)
          refine oOp (.lptr (e_SPart e114) 0) (by kernel_rfl) (by kernel_rfl) (PureV.does (k_idxLit e_SPart_len p2 (a := e114) (by kernel_rfl) (k := .i64) (i := x7) (by kernel_rfl) Try.underlying25 ty49 h128 h129)) ?_
          refine oOp (.agg [.d (.int .i64 e114.Kind), .d (.int .i64 e114.Max), .d (.int .i64 e114.Topic), .d (.int .i64 e114.Objective), .d (.int .i64 e114.Options), .d (.int .i64 e114.Key)]) (by kernel_rfl) (by kernel_rfl) (Quiet.does (k_loadLAgg (cells := e_SPart e114) 0 [(.int .i64 e114.Kind), (.int .i64 e114.Max), (.int .i64 e114.Topic), (.int .i64 e114.Objective), (.int .i64 e114.Options), (.int .i64 e114.Key)] (by kernel_rfl) Try.underlying49 (by kernel_rfl) ty49 (by kernel_rfl) (by kernel_rfl) (by kernel_rfl))) ?_
          refine oOp (.ptr 2 0) (by kernel_rfl) (by kernel_rfl) (k_alloc (H' := [.box [.d (.int .i64 x), .d (.int .i64 x1), .d (.lit (List.map e_SPart x2))], .box [.d (.lit (List.map e_Li64 s0)), .d (.lit (List.map e_i64 s1))], .box [.d (.int .i64 0), .d (.int .i64 0), .d (.int .i64 0), .d (.int .i64 0), .d (.int .i64 0), .d (.int .i64 0)]]) ty49 (by kernel_rfl) (by kernel_rfl)) ?_
          refine oOp (.d (.int .i64 x7)) (by kernel_rfl) (by kernel_rfl) (PureV.does (p_assign (by kernel_rfl))) ?_
          refine oOp (.undef) (by kernel_rfl) (by kernel_rfl) (k_store (vs := [.d (.int .i64 e114.Kind), .d (.int .i64 e114.Max), .d (.int .i64 e114.Topic), .d (.int .i64 e114.Objective), .d (.int .i64 e114.Options), .d (.int .i64 e114.Key)]) (H' := [.box [.d (.int .i64 x), .d (.int .i64 x1), .d (.lit (List.map e_SPart x2))], .box [.d (.lit (List.map e_Li64 s0)), .d (.lit (List.map e_i64 s1))], .box [.d (.int .i64 e114.Kind), .d (.int .i64 e114.Max), .d (.int .i64 e114.Topic), .d (.int .i64 e114.Objective), .d (.int .i64 e114.Options), .d (.int .i64 e114.Key)]]) 2 0 (by kernel_rfl) ty49 (by kernel_rfl) (by kernel_rfl) (by kernel_rfl)) ?_
          refine oEnd ?_
          refine oSeq ?_
          refine oRegion rfl ?_
          refine oOp (.ptr 1 1) (by kernel_rfl) (by kernel_rfl) (PureV.does (k_fieldAddr 1 0 (by kernel_rfl) Try.underlying31 rfl ty22 (by kernel_rfl))) ?_
          refine oOp (.d (.lit (List.map e_i64 s1))) (by kernel_rfl) (by kernel_rfl) (Quiet.does (k_load 1 1 (by kernel_rfl) Try.underlying22 (by kernel_rfl) (by kernel_rfl))) ?_
          refine oOp (.d (.int .i64 x7)) (by kernel_rfl) (by kernel_rfl) (PureV.does (p_move (by kernel_rfl))) ?_
          refine bIdx (fun e115 h130 h131 => ?_)
          refine oOp (.lptr (e_i64 e115) 0) (by kernel_rfl) (by kernel_rfl) (PureV.does (k_idxLit e_i64_len s1 (a := e115) (by kernel_rfl) (k := .i64) (i := x7) (by kernel_rfl) Try.underlying22 ty3 h130 h131)) ?_
          refine oOp (.d (.int .i64 e115)) (by kernel_rfl) (by kernel_rfl) (Quiet.does (k_loadL (cells := e_i64 e115) 0 (by kernel_rfl) Try.underlying3 (by kernel_rfl) (by kernel_rfl))) ?_
          refine oEnd ?_
          refine oBlock ?_
          refine oSeq ?_
          refine oRegion rfl ?_
          refine oOp (.d (.bool (e115 == 0))) (by kernel_rfl) (by kernel_rfl) (PureV.does (p_int (k := .i64) (p := e115) (q := 0) (by kernel_rfl) (by kernel_rfl) (by kernel_rfl))) ?_
          refine oOp (.d (.bool (e115 == 0))) (by kernel_rfl) (by kernel_rfl) (PureV.does (p_assign (by kernel_rfl))) ?_
          refine oEnd ?_
          refine bSplit 23 (by kernel_rfl) (fun hc => ?_) (fun hc => ?_)
          · refine oCondT (by kernel_rfl) ?_
            refine oRegion rfl ?_
            refine oOp (.d (.int .i64 n11)) (by kernel_rfl) (by kernel_rfl) (PureV.does (p_move (by kernel_rfl))) ?_
            refine oOp (.fn 47 [.ptr 0 0]) (by kernel_rfl) (by kernel_rfl) (PureV.does (p_move (by kernel_rfl))) ?_
            refine oOp (.d (.int .i64 x7)) (by kernel_rfl) (by kernel_rfl) (PureV.does (p_move (by kernel_rfl))) ?_
            refine bCall (caps := [.ptr 0 0]) (v := (fun (r18 : Int) => (.d (.int .i64 r18) : V))) (H' := (fun (r18 : Int) => ([.box [.d (.int .i64 x), .d (.int .i64 x1), .d (.lit (List.map e_SPart x2))], .box [.d (.lit (List.map e_Li64 s0)), .d (.lit (List.map e_i64 s1))], .box [.d (.int .i64 e114.Kind), .d (.int .i64 e114.Max), .d (.int .i64 e114.Topic), .d (.int .i64 e114.Objective), .d (.int .i64 e114.Options), .d (.int .i64 e114.Key)]] : List Blk))) [0] _ (scheme_Maximum_1_goes k x7 x x1 x2) (by kernel_rfl) (by kernel_rfl) rfl (by kernel_rfl) Try.func47 rfl (by kernel_rfl) (ConvRs.refl _ _) (by kernel_rfl) (by kernel_rfl) (by kernel_rfl) (by decide) (by kernel_rfl) (by kernel_rfl) (fun _ => (by kernel_rfl)) (fun _ => (by kernel_rfl)) (fun _ => (by kernel_rfl)) (fun r18 => ?_)
            refine oOp (.d (.int .i64 (IntKind.wrap .i64 (n11 + r18)))) (by kernel_rfl) (by kernel_rfl) (PureV.does (p_int (k := .i64) (p := n11) (q := r18) (by kernel_rfl) (by kernel_rfl) (by kernel_rfl))) ?_
            refine oOp (.d (.int .i64 (IntKind.wrap .i64 (n11 + r18)))) (by kernel_rfl) (by kernel_rfl) (PureV.does (p_assign (by kernel_rfl))) ?_
            refine oEnd ?_
            refine oBlk ?_
            refine oBlk ?_
            refine oHead [2, 4, 7, 11, 12, 13] [0, 1] (T' := [(2, .fn 47 [.ptr 0 0]), (4, .ptr 1 0), (7, .d (.int .i64 (IntKind.wrap .i64 (n11 + r18)))), (11, .d (.lit (List.map e_SPart p2))), (12, .d (.int .i64 ((List.length p2) : Int))), (13, .d (.int .i64 x7))]) (H' := [.box [.d (.int .i64 x), .d (.int .i64 x1), .d (.lit (List.map e_SPart x2))], .box [.d (.lit (List.map e_Li64 s0)), .d (.lit (List.map e_i64 s1))]]) (by kernel_rfl) (by kernel_rfl) (by kernel_rfl) (by kernel_rfl) (by decide) (by kernel_rfl) (by kernel_rfl) ?_
            exact hj9 (IntKind.wrap .i64 (n11 + r18))
          · refine oCondF (by kernel_rfl) ?_
            refine oSeq ?_
            refine oRegion rfl ?_
            refine oOp (.d (.bool (e115 == 1))) (by kernel_rfl) (by kernel_rfl) (PureV.does (p_int (k := .i64) (p := e115) (q := 1) (by kernel_rfl) (by kernel_rfl) (by kernel_rfl))) ?_
            refine oOp (.d (.bool (e115 == 1))) (by kernel_rfl) (by kernel_rfl) (PureV.does (p_assign (by kernel_rfl))) ?_
            refine oEnd ?_
            refine bSplit 30 (by kernel_rfl) (fun hc => ?_) (fun hc => ?_)
            · refine oCondT (by kernel_rfl) ?_
              refine oRegion rfl ?_
              refine oOp (.d (.int .i64 n11)) (by kernel_rfl) (by kernel_rfl) (PureV.does (p_move (by kernel_rfl))) ?_
              refine oOp (.ptr 2 1) (by kernel_rfl) (by kernel_rfl) (PureV.does (k_fieldAddr 2 0 (by kernel_rfl) Try.underlying49 rfl ty3 (by kernel_rfl))) ?_
              refine oOp (.d (.int .i64 e114.Max)) (by kernel_rfl) (by kernel_rfl) (Quiet.does (k_load 2 1 (by kernel_rfl) Try.underlying3 (by kernel_rfl) (by kernel_rfl))) ?_
              refine oOp (.d (.int .i64 (IntKind.wrap .i64 (n11 + e114.Max)))) (by kernel_rfl) (by kernel_rfl) (PureV.does (p_int (k := .i64) (p := n11) (q := e114.Max) (by kernel_rfl) (by kernel_rfl) (by kernel_rfl))) ?_
              refine oOp (.d (.int .i64 (IntKind.wrap .i64 (n11 + e114.Max)))) (by kernel_rfl) (by kernel_rfl) (PureV.does (p_assign (by kernel_rfl))) ?_
              refine oEnd ?_
              refine oBlk ?_
              refine oBlk ?_
              refine oHead [2, 4, 7, 11, 12, 13] [0, 1] (T' := [(2, .fn 47 [.ptr 0 0]), (4, .ptr 1 0), (7, .d (.int .i64 (IntKind.wrap .i64 (n11 + e114.Max)))), (11, .d (.lit (List.map e_SPart p2))), (12, .d (.int .i64 ((List.length p2) : Int))), (13, .d (.int .i64 x7))]) (H' := [.box [.d (.int .i64 x), .d (.int .i64 x1), .d (.lit (List.map e_SPart x2))], .box [.d (.lit (List.map e_Li64 s0)), .d (.lit (List.map e_i64 s1))]]) (by kernel_rfl) (by kernel_rfl) (by kernel_rfl) (by kernel_rfl) (by decide) (by kernel_rfl) (by kernel_rfl) ?_
              exact hj9 (IntKind.wrap .i64 (n11 + e114.Max))
            · refine oCondF (by kernel_rfl) ?_
              refine oSeq ?_
              refine oRegion rfl ?_
              refine oOp (.d (.bool (e115 == 2))) (by kernel_rfl) (by kernel_rfl) (PureV.does (p_int (k := .i64) (p := e115) (q := 2) (by kernel_rfl) (by kernel_rfl) (by kernel_rfl))) ?_
              refine oOp (.d (.bool (e115 == 2))) (by kernel_rfl) (by kernel_rfl) (PureV.does (p_assign (by kernel_rfl))) ?_
              refine oEnd ?_
              refine bSplit 36 (by kernel_rfl) (fun hc => ?_) (fun hc => ?_)
              · refine oCondT (by kernel_rfl) ?_
                refine oSkip ?_
                refine oBlk ?_
                refine oBlk ?_
                refine oHead [2, 4, 7, 11, 12, 13] [0, 1] (T' := [(2, .fn 47 [.ptr 0 0]), (4, .ptr 1 0), (7, .d (.int .i64 n11)), (11, .d (.lit (List.map e_SPart p2))), (12, .d (.int .i64 ((List.length p2) : Int))), (13, .d (.int .i64 x7))]) (H' := [.box [.d (.int .i64 x), .d (.int .i64 x1), .d (.lit (List.map e_SPart x2))], .box [.d (.lit (List.map e_Li64 s0)), .d (.lit (List.map e_i64 s1))]]) (by kernel_rfl) (by kernel_rfl) (by kernel_rfl) (by kernel_rfl) (by decide) (by kernel_rfl) (by kernel_rfl) ?_
                exact hj9 n11
              · refine oCondF (by kernel_rfl) ?_
                refine oSkip ?_
                refine oBlk ?_
                refine oBlk ?_
                refine oHead [2, 4, 7, 11, 12, 13] [0, 1] (T' := [(2, .fn 47 [.ptr 0 0]), (4, .ptr 1 0), (7, .d (.int .i64 n11)), (11, .d (.lit (List.map e_SPart p2))), (12, .d (.int .i64 ((List.length p2) : Int))), (13, .d (.int .i64 x7))]) (H' := [.box [.d (.int .i64 x), .d (.int .i64 x1), .d (.lit (List.map e_SPart x2))], .box [.d (.lit (List.map e_Li64 s0)), .d (.lit (List.map e_i64 s1))]]) (by kernel_rfl) (by kernel_rfl) (by kernel_rfl) (by kernel_rfl) (by decide) (by kernel_rfl) (by kernel_rfl) ?_
                exact hj9 n11
      · refine oCondF (by kernel_rfl) ?_
        refine oExit rfl ?_
        refine oHead [7] [0] (T' := [(7, .d (.int .i64 n11))]) (H' := [.box [.d (.int .i64 x), .d (.int .i64 x1), .d (.lit (List.map e_SPart x2))]]) (by kernel_rfl) (by kernel_rfl) (by kernel_rfl) (by kernel_rfl) (by decide) (by kernel_rfl) (by kernel_rfl) ?_
        exact hj6 n11

/-- awardingbody/scheme.Maximum -/
def scheme_Maximum (k : Nat) (p0 : Int) (p1 : Int) (p2 : (List SPart)) (s0 : (List (List Int))) (s1 : (List Int)) : Option (Int × Int) := Option.bind (scheme_Valid k p0 p1 p2 s0 s1) (fun r14 => bif (!r14) then some (0, 1) else Option.bind (scheme_sum_2 k p0 p1 p2 s0 s1 p0 p1 p2) (fun r121 => some (r121, 0)))
def scheme_Maximum_E (p0 : Int) (p1 : Int) (p2 : (List SPart)) (s0 : (List (List Int))) (s1 : (List Int)) : Int × Int → V × List Blk := uc fun r11 => fun r13 => (.tuple [.d (.int .i64 r11), .d (.int .i64 r13)], [])
theorem scheme_Maximum_goes (k : Nat) (p0 : Int) (p1 : Int) (p2 : (List SPart)) (s0 : (List (List Int))) (s1 : (List Int)) : RunsO Try.prog 23 [.agg [.d (.int .i64 p0), .d (.int .i64 p1), .d (.lit (List.map e_SPart p2))], .agg [.d (.lit (List.map e_Li64 s0)), .d (.lit (List.map e_i64 s1))]] [] (scheme_Maximum_E p0 p1 p2 s0 s1) (scheme_Maximum k p0 p1 p2 s0 s1) := by
  refine RunsO.of_goes (N := 14) (m := 0) (T := [(0, .agg [.d (.int .i64 p0), .d (.int .i64 p1), .d (.lit (List.map e_SPart p2))]), (1, .agg [.d (.lit (List.map e_Li64 s0)), .d (.lit (List.map e_i64 s1))])]) Try.func23 rfl rfl (by kernel_rfl) (by kernel_rfl) (by kernel_rfl) ?_
  unfold scheme_Maximum
  refine bStart ?_
  refine oSeq ?_
  refine oRegion rfl ?_
  refine oOp (.ptr 0 0) (by kernel_rfl) (by kernel_rfl) (k_box (H' := [.box [.d (.int .i64 p0), .d (.int .i64 p1), .d (.lit (List.map e_SPart p2))]]) (cells := [.d (.int .i64 p0), .d (.int .i64 p1), .d (.lit (List.map e_SPart p2))]) (by kernel_rfl) (by kernel_rfl) (by kernel_rfl)) ?_
  refine oOp (.ptr 1 0) (by kernel_rfl) (by kernel_rfl) (k_box (H' := [.box [.d (.int .i64 p0), .d (.int .i64 p1), .d (.lit (List.map e_SPart p2))], .box [.d (.lit (List.map e_Li64 s0)), .d (.lit (List.map e_i64 s1))]]) (cells := [.d (.lit (List.map e_Li64 s0)), .d (.lit (List.map e_i64 s1))]) (by kernel_rfl) (by kernel_rfl) (by kernel_rfl)) ?_
  refine oOp (.d (.int .i64 0)) (by kernel_rfl) (by kernel_rfl) (PureV.does (p_assign (by kernel_rfl))) ?_
  refine oOp (.d (.int .i64 0)) (by kernel_rfl) (by kernel_rfl) (PureV.does (p_assign (by kernel_rfl))) ?_
  refine oEnd ?_
  refine oSeq ?_
  refine oSeq ?_
  refine oRegion rfl ?_
  refine oOp (.agg [.d (.int .i64 p0), .d (.int .i64 p1), .d (.lit (List.map e_SPart p2))]) (by kernel_rfl) (by kernel_rfl) (Quiet.does (k_loadAgg 0 0 (by kernel_rfl) Try.underlying27 (by kernel_rfl) ty27 (by kernel_rfl))) ?_
  refine oOp (.agg [.d (.lit (List.map e_Li64 s0)), .d (.lit (List.map e_i64 s1))]) (by kernel_rfl) (by kernel_rfl) (Quiet.does (k_loadAgg 1 0 (by kernel_rfl) Try.underlying31 (by kernel_rfl) ty31 (by kernel_rfl))) ?_
  refine bCall (caps := []) (v := (fun (r14 : Bool) => (.d (.bool r14) : V))) (H' := (fun (r14 : Bool) => ([.box [.d (.int .i64 p0), .d (.int .i64 p1), .d (.lit (List.map e_SPart p2))], .box [.d (.lit (List.map e_Li64 s0)), .d (.lit (List.map e_i64 s1))]] : List Blk))) [] _ (scheme_Valid_goes k p0 p1 p2 s0 s1) (by kernel_rfl) (by kernel_rfl) rfl (by kernel_rfl) Try.func30 rfl (by kernel_rfl) (ConvRs.refl _ _) (by kernel_rfl) (by kernel_rfl) (by kernel_rfl) (by decide) (by kernel_rfl) (by kernel_rfl) (fun _ => (by kernel_rfl)) (fun _ => (by kernel_rfl)) (fun _ => (by kernel_rfl)) (fun r14 => ?_)
  refine oOp (.d (.bool (!r14))) (by kernel_rfl) (by kernel_rfl) (PureV.does (p_not (p := r14) (by kernel_rfl) (by kernel_rfl))) ?_
  refine oEnd ?_
  refine bSplit 9 (by kernel_rfl) (fun hc => ?_) (fun hc => ?_)
  · refine oCondT (by kernel_rfl) ?_
    refine oSeq ?_
    refine oRegion rfl ?_
    refine oOp (.d (.int .i64 0)) (by kernel_rfl) (by kernel_rfl) (PureV.does (p_assign (by kernel_rfl))) ?_
    refine oOp (.d (.int .i64 1)) (by kernel_rfl) (by kernel_rfl) (PureV.does (p_assign (by kernel_rfl))) ?_
    refine oEnd ?_
    exact oRet (r0 := (0, 1)) (rv := .tuple [.d (.int .i64 0), .d (.int .i64 1)]) (B := []) (vs := [.d (.int .i64 0), .d (.int .i64 1)]) (σ := []) (by kernel_rfl) Try.func23 rfl (.cons _ _ _ _ (.tmp 4 _ (by kernel_rfl)) (.cons _ _ _ _ (.tmp 5 _ (by kernel_rfl)) .nil)) (by kernel_rfl) (by kernel_rfl) (by kernel_rfl) (by kernel_rfl) (by decide) (by kernel_rfl) (by kernel_rfl)
  · refine oCondF (by kernel_rfl) ?_
    refine oSkip ?_
    refine oSeq ?_
    refine oRegion rfl ?_
    refine oOp (.agg [.d (.int .i64 p0), .d (.int .i64 p1), .d (.lit (List.map e_SPart p2))]) (by kernel_rfl) (by kernel_rfl) (Quiet.does (k_loadAgg 0 0 (by kernel_rfl) Try.underlying27 (by kernel_rfl) ty27 (by kernel_rfl))) ?_
    refine oOp (.agg [.d (.lit (List.map e_Li64 s0)), .d (.lit (List.map e_i64 s1))]) (by kernel_rfl) (by kernel_rfl) (Quiet.does (k_loadAgg 1 0 (by kernel_rfl) Try.underlying31 (by kernel_rfl) ty31 (by kernel_rfl))) ?_
    refine oOp (.fn 47 [.ptr 0 0]) (by kernel_rfl) (by kernel_rfl) (PureV.does (p_makeFunc (by kernel_rfl))) ?_
    refine bCall (caps := []) (v := (fun (r121 : Int) => (.d (.int .i64 r121) : V))) (H' := (fun (r121 : Int) => ([.box [.d (.int .i64 p0), .d (.int .i64 p1), .d (.lit (List.map e_SPart p2))], .box [.d (.lit (List.map e_Li64 s0)), .d (.lit (List.map e_i64 s1))]] : List Blk))) [0] _ (scheme_sum_2_goes k p0 p1 p2 s0 s1 p0 p1 p2) (by kernel_rfl) (by kernel_rfl) rfl (by kernel_rfl) Try.func45 rfl (by kernel_rfl) (ConvRs.refl _ _) (by kernel_rfl) (by kernel_rfl) (by kernel_rfl) (by decide) (by kernel_rfl) (by kernel_rfl) (fun _ => (by kernel_rfl)) (fun _ => (by kernel_rfl)) (fun _ => (by kernel_rfl)) (fun r121 => ?_)
    refine oOp (.d (.int .i64 r121)) (by kernel_rfl) (by kernel_rfl) (PureV.does (p_assign (by kernel_rfl))) ?_
    refine oOp (.d (.int .i64 0)) (by kernel_rfl) (by kernel_rfl) (PureV.does (p_assign (by kernel_rfl))) ?_
    refine oEnd ?_
    exact oRet (r0 := (r121, 0)) (rv := .tuple [.d (.int .i64 r121), .d (.int .i64 0)]) (B := []) (vs := [.d (.int .i64 r121), .d (.int .i64 0)]) (σ := []) (by kernel_rfl) Try.func23 rfl (.cons _ _ _ _ (.tmp 4 _ (by kernel_rfl)) (.cons _ _ _ _ (.tmp 5 _ (by kernel_rfl)) .nil)) (by kernel_rfl) (by kernel_rfl) (by kernel_rfl) (by kernel_rfl) (by decide) (by kernel_rfl) (by kernel_rfl)

/-- slices.Index[[]int,int] -/
def slices_Index_int_b1 (k : Nat) (s1 : (List Int)) (v : Int) (again : Int → Option ((Unit) ⊕ (Int))) : Int → Option ((Unit) ⊕ (Int)) := fun x4 => bif (decide (x4 < ((List.length s1) : Int))) then gidx s1 x4 fun e113 => bif (v == e113) then some (Sum.inr x4) else again (IntKind.wrap .i64 (x4 + 1)) else some (Sum.inl ())
def slices_Index_int (k : Nat) (s1 : (List Int)) (v : Int) : Option (Int) := Option.bind (gloop (slices_Index_int_b1 k s1 v) k 0 : Option ((Unit) ⊕ (Int))) (Sum.elim (u0 (some (-1))) (fun r => some r))
def slices_Index_int_E (s1 : (List Int)) (v : Int) : Int → V × List Blk := fun r1 => (.d (.int .i64 r1), [])
theorem slices_Index_int_goes (k : Nat) (s1 : (List Int)) (v : Int) : RunsO Try.prog 65 [.d (.lit (List.map e_i64 s1)), .d (.int .i64 v)] [] (slices_Index_int_E s1 v) (slices_Index_int k s1 v) := by
  refine RunsO.of_goes (N := 19) (m := 0) (T := [(0, .d (.lit (List.map e_i64 s1))), (1, .d (.int .i64 v))]) Try.func65 rfl rfl (by kernel_rfl) (by kernel_rfl) (by kernel_rfl) ?_
  unfold slices_Index_int
  refine bStart ?_
  refine oSeq ?_
  refine oRegion rfl ?_
  refine oOp (.d (.int .i64 0)) (by kernel_rfl) (by kernel_rfl) (PureV.does (p_assign (by kernel_rfl))) ?_
  refine oEnd ?_
  refine oSeq ?_
  refine oSeq ?_
  refine oRegion rfl ?_
  refine oOp (.d (.lit (List.map e_i64 s1))) (by kernel_rfl) (by kernel_rfl) (PureV.does (p_move (by kernel_rfl))) ?_
  refine oOp (.d (.int .i64 ((List.length s1) : Int))) (by kernel_rfl) (by kernel_rfl) (PureV.does (k_lenLit (enc := e_i64) s1 (by kernel_rfl) Try.underlying22)) ?_
  refine oOp (.d (.int .i64 0)) (by kernel_rfl) (by kernel_rfl) (PureV.does (p_move (by kernel_rfl))) ?_
  refine oEnd ?_
  refine bJoin ((u0 ([]))) ((u0 ([]))) Sum.inl (fun s => ?_) (fun hj2 => ?_)
  · cases s
    refine bInl ?_
    refine bU0 ?_
    refine oView (T' := []) (H' := []) (by kernel_rfl) (by kernel_rfl) ?_
    refine oSeq ?_
    refine oRegion rfl ?_
    refine oOp (.d (.int .i64 (-1))) (by kernel_rfl) (by kernel_rfl) (PureV.does (p_assign (by kernel_rfl))) ?_
    refine oEnd ?_
    exact oRet (r0 := (-1)) (rv := .d (.int .i64 (-1))) (B := []) (vs := [.d (.int .i64 (-1))]) (σ := []) (by kernel_rfl) Try.func65 rfl (.cons _ _ _ _ (.tmp 4 _ (by kernel_rfl)) .nil) (by kernel_rfl) (by kernel_rfl) (by kernel_rfl) (by kernel_rfl) (by decide) (by kernel_rfl) (by kernel_rfl)
  · refine oBlock ?_
    refine oLoop ?_
    refine oHead [0, 1, 7, 8] [] (T' := [(0, .d (.lit (List.map e_i64 s1))), (1, .d (.int .i64 v)), (7, .d (.int .i64 ((List.length s1) : Int))), (8, .d (.int .i64 0))]) (H' := []) (by kernel_rfl) (by kernel_rfl) (by kernel_rfl) (by kernel_rfl) (by decide) (by kernel_rfl) (by kernel_rfl) ?_
    refine bLoop (body := slices_Index_int_b1 k s1 v) ((fun (x4 : Int) => [(0, .d (.lit (List.map e_i64 s1))), (1, .d (.int .i64 v)), (7, .d (.int .i64 ((List.length s1) : Int))), (8, .d (.int .i64 x4))])) ((fun (x4 : Int) => [])) (fun again hag1 x4 => ?_) k 0
    · unfold slices_Index_int_b1
      refine oView (T' := [(0, .d (.lit (List.map e_i64 s1))), (1, .d (.int .i64 v)), (7, .d (.int .i64 ((List.length s1) : Int))), (8, .d (.int .i64 x4))]) (H' := []) (by kernel_rfl) (by kernel_rfl) ?_
      refine oSeq ?_
      refine oRegion rfl ?_
      refine oOp (.d (.bool (decide (x4 < ((List.length s1) : Int))))) (by kernel_rfl) (by kernel_rfl) (PureV.does (p_int (k := .i64) (p := x4) (q := ((List.length s1) : Int)) (by kernel_rfl) (by kernel_rfl) (by kernel_rfl))) ?_
      refine oEnd ?_
      refine oSeq ?_
      refine bSplit 9 (by kernel_rfl) (fun hc => ?_) (fun hc => ?_)
      · refine oCondT (by kernel_rfl) ?_
        refine oSkip ?_
        refine oSeq ?_
        refine oBlock ?_
        refine oSeq ?_
        refine oRegion rfl ?_
        refine oOp (.d (.int .i64 x4)) (by kernel_rfl) (by kernel_rfl) (PureV.does (p_move (by kernel_rfl))) ?_
        refine oOp (.d (.int .i64 x4)) (by kernel_rfl) (by kernel_rfl) (PureV.does (p_assign (by kernel_rfl))) ?_
        refine oEnd ?_
        refine oSeq ?_
        refine oRegion rfl ?_
        refine oOp (.d (.int .i64 v)) (by kernel_rfl) (by kernel_rfl) (PureV.does (p_move (by kernel_rfl))) ?_
        refine oOp (.d (.lit (List.map e_i64 s1))) (by kernel_rfl) (by kernel_rfl) (PureV.does (p_move (by kernel_rfl))) ?_
        refine oOp (.d (.int .i64 x4)) (by kernel_rfl) (by kernel_rfl) (PureV.does (p_move (by kernel_rfl))) ?_
        refine bIdx (fun e113 h126 h127 => ?_)
        refine oOp (.lptr (e_i64 e113) 0) (by kernel_rfl) (by kernel_rfl) (PureV.does (k_idxLit e_i64_len s1 (a := e113) (by kernel_rfl) (k := .i64) (i := x4) (by kernel_rfl) Try.underlying22 ty3 h126 h127)) ?_
        refine oOp (.d (.int .i64 e113)) (by kernel_rfl) (by kernel_rfl) (Quiet.does (k_loadL (cells := e_i64 e113) 0 (by kernel_rfl) Try.underlying3 (by kernel_rfl) (by kernel_rfl))) ?_
        refine oOp (.d (.bool (v == e113))) (by kernel_rfl) (by kernel_rfl) (PureV.does (p_int (k := .i64) (p := v) (q := e113) (by kernel_rfl) (by kernel_rfl) (by kernel_rfl))) ?_
        refine oEnd ?_
        refine bSplit 16 (by kernel_rfl) (fun hc => ?_) (fun hc => ?_)
        · refine oCondT (by kernel_rfl) ?_
          refine oSeq ?_
          refine oRegion rfl ?_
          refine oOp (.d (.int .i64 x4)) (by kernel_rfl) (by kernel_rfl) (PureV.does (p_move (by kernel_rfl))) ?_
          refine oOp (.d (.int .i64 x4)) (by kernel_rfl) (by kernel_rfl) (PureV.does (p_assign (by kernel_rfl))) ?_
          refine oEnd ?_
          exact oRet (r0 := x4) (rv := .d (.int .i64 x4)) (B := []) (vs := [.d (.int .i64 x4)]) (σ := []) (by kernel_rfl) Try.func65 rfl (.cons _ _ _ _ (.tmp 4 _ (by kernel_rfl)) .nil) (by kernel_rfl) (by kernel_rfl) (by kernel_rfl) (by kernel_rfl) (by decide) (by kernel_rfl) (by kernel_rfl)
        · refine oCondF (by kernel_rfl) ?_
          refine oSkip ?_
          refine oBlk ?_
          refine oRegion rfl ?_
          refine oOp (.d (.int .i64 (IntKind.wrap .i64 (x4 + 1)))) (by kernel_rfl) (by kernel_rfl) (PureV.does (p_int (k := .i64) (p := x4) (q := 1) (by kernel_rfl) (by kernel_rfl) (by kernel_rfl))) ?_
          refine oOp (.d (.int .i64 (IntKind.wrap .i64 (x4 + 1)))) (by kernel_rfl) (by kernel_rfl) (PureV.does (p_move (by kernel_rfl))) ?_
          refine oEnd ?_
          refine oAgain ?_
          refine oHead [0, 1, 7, 8] [] (T' := [(0, .d (.lit (List.map e_i64 s1))), (1, .d (.int .i64 v)), (7, .d (.int .i64 ((List.length s1) : Int))), (8, .d (.int .i64 (IntKind.wrap .i64 (x4 + 1))))]) (H' := []) (by kernel_rfl) (by kernel_rfl) (by kernel_rfl) (by kernel_rfl) (by decide) (by kernel_rfl) (by kernel_rfl) ?_
          exact hag1 (IntKind.wrap .i64 (x4 + 1))
      · refine oCondF (by kernel_rfl) ?_
        refine oExit rfl ?_
        refine oHead [] [] (T' := []) (H' := []) (by kernel_rfl) (by kernel_rfl) (by kernel_rfl) (by kernel_rfl) (by decide) (by kernel_rfl) (by kernel_rfl) ?_
        exact hj2 ()

/-- slices.Contains[[]int,int] -/
def slices_Contains_int (k : Nat) (s1 : (List Int)) (v : Int) : Option (Bool) := Option.bind (slices_Index_int k s1 v) (fun r12 => some (decide (r12 ≥ 0)))
def slices_Contains_int_E (s1 : (List Int)) (v : Int) : Bool → V × List Blk := fun r11 => (.d (.bool r11), [])
theorem slices_Contains_int_goes (k : Nat) (s1 : (List Int)) (v : Int) : RunsO Try.prog 58 [.d (.lit (List.map e_i64 s1)), .d (.int .i64 v)] [] (slices_Contains_int_E s1 v) (slices_Contains_int k s1 v) := by
  refine RunsO.of_goes (N := 9) (m := 0) (T := [(0, .d (.lit (List.map e_i64 s1))), (1, .d (.int .i64 v))]) Try.func58 rfl rfl (by kernel_rfl) (by kernel_rfl) (by kernel_rfl) ?_
  unfold slices_Contains_int
  refine bStart ?_
  refine oSeq ?_
  refine oRegion rfl ?_
  refine oOp (.d (.bool false)) (by kernel_rfl) (by kernel_rfl) (PureV.does (p_assign (by kernel_rfl))) ?_
  refine oEnd ?_
  refine oSeq ?_
  refine oRegion rfl ?_
  refine oOp (.d (.lit (List.map e_i64 s1))) (by kernel_rfl) (by kernel_rfl) (PureV.does (p_move (by kernel_rfl))) ?_
  refine oOp (.d (.int .i64 v)) (by kernel_rfl) (by kernel_rfl) (PureV.does (p_move (by kernel_rfl))) ?_
  refine bCall (caps := []) (v := (fun (r12 : Int) => (.d (.int .i64 r12) : V))) (H' := (fun (r12 : Int) => ([] : List Blk))) [] _ (slices_Index_int_goes k s1 v) (by kernel_rfl) (by kernel_rfl) rfl (by kernel_rfl) Try.func65 rfl (by kernel_rfl) (ConvRs.refl _ _) (by kernel_rfl) (by kernel_rfl) (by kernel_rfl) (by decide) (by kernel_rfl) (by kernel_rfl) (fun _ => (by kernel_rfl)) (fun _ => (by kernel_rfl)) (fun _ => (by kernel_rfl)) (fun r12 => ?_)
  refine oOp (.d (.bool (decide (r12 ≥ 0)))) (by kernel_rfl) (by kernel_rfl) (PureV.does (p_int (k := .i64) (p := r12) (q := 0) (by kernel_rfl) (by kernel_rfl) (by kernel_rfl))) ?_
  refine oOp (.d (.bool (decide (r12 ≥ 0)))) (by kernel_rfl) (by kernel_rfl) (PureV.does (p_assign (by kernel_rfl))) ?_
  refine oEnd ?_
  exact oRet (r0 := (decide (r12 ≥ 0))) (rv := .d (.bool (decide (r12 ≥ 0)))) (B := []) (vs := [.d (.bool (decide (r12 ≥ 0)))]) (σ := []) (by kernel_rfl) Try.func58 rfl (.cons _ _ _ _ (.tmp 4 _ (by kernel_rfl)) .nil) (by kernel_rfl) (by kernel_rfl) (by kernel_rfl) (by kernel_rfl) (by decide) (by kernel_rfl) (by kernel_rfl)

/-- awardingbody/scheme.accepts -/
def scheme_accepts (k : Nat) (x0 : Int) (x1 : Int) (x2 : Int) (x3 : Int) (x4 : Int) (x5 : Int) (keys : (List Int)) (answer : Int) : Option (Bool) := bif (((List.length keys) : Int) == 0) then some (answer == x5) else Option.bind (slices_Contains_int k keys answer) (fun r111 => some r111)
def scheme_accepts_E (x0 : Int) (x1 : Int) (x2 : Int) (x3 : Int) (x4 : Int) (x5 : Int) (keys : (List Int)) (answer : Int) : Bool → V × List Blk := fun r1 => (.d (.bool r1), [])
theorem scheme_accepts_goes (k : Nat) (x0 : Int) (x1 : Int) (x2 : Int) (x3 : Int) (x4 : Int) (x5 : Int) (keys : (List Int)) (answer : Int) : RunsO Try.prog 44 [.agg [.d (.int .i64 x0), .d (.int .i64 x1), .d (.int .i64 x2), .d (.int .i64 x3), .d (.int .i64 x4), .d (.int .i64 x5)], .d (.lit (List.map e_i64 keys)), .d (.int .i64 answer)] [] (scheme_accepts_E x0 x1 x2 x3 x4 x5 keys answer) (scheme_accepts k x0 x1 x2 x3 x4 x5 keys answer) := by
  refine RunsO.of_goes (N := 17) (m := 0) (T := [(0, .agg [.d (.int .i64 x0), .d (.int .i64 x1), .d (.int .i64 x2), .d (.int .i64 x3), .d (.int .i64 x4), .d (.int .i64 x5)]), (1, .d (.lit (List.map e_i64 keys))), (2, .d (.int .i64 answer))]) Try.func44 rfl rfl (by kernel_rfl) (by kernel_rfl) (by kernel_rfl) ?_
  unfold scheme_accepts
  refine bStart ?_
  refine oSeq ?_
  refine oRegion rfl ?_
  refine oOp (.ptr 0 0) (by kernel_rfl) (by kernel_rfl) (k_box (H' := [.box [.d (.int .i64 x0), .d (.int .i64 x1), .d (.int .i64 x2), .d (.int .i64 x3), .d (.int .i64 x4), .d (.int .i64 x5)]]) (cells := [.d (.int .i64 x0), .d (.int .i64 x1), .d (.int .i64 x2), .d (.int .i64 x3), .d (.int .i64 x4), .d (.int .i64 x5)]) (by kernel_rfl) (by kernel_rfl) (by kernel_rfl)) ?_
  refine oOp (.d (.bool false)) (by kernel_rfl) (by kernel_rfl) (PureV.does (p_assign (by kernel_rfl))) ?_
  refine oEnd ?_
  refine oSeq ?_
  refine oSeq ?_
  refine oRegion rfl ?_
  refine oOp (.d (.lit (List.map e_i64 keys))) (by kernel_rfl) (by kernel_rfl) (PureV.does (p_move (by kernel_rfl))) ?_
  refine oOp (.d (.int .i64 ((List.length keys) : Int))) (by kernel_rfl) (by kernel_rfl) (PureV.does (k_lenLit (enc := e_i64) keys (by kernel_rfl) Try.underlying22)) ?_
  refine oOp (.d (.bool (((List.length keys) : Int) == 0))) (by kernel_rfl) (by kernel_rfl) (PureV.does (p_int (k := .i64) (p := ((List.length keys) : Int)) (q := 0) (by kernel_rfl) (by kernel_rfl) (by kernel_rfl))) ?_
  refine oEnd ?_
  refine bSplit 9 (by kernel_rfl) (fun hc => ?_) (fun hc => ?_)
  · refine oCondT (by kernel_rfl) ?_
    refine oSeq ?_
    refine oRegion rfl ?_
    refine oOp (.d (.int .i64 answer)) (by kernel_rfl) (by kernel_rfl) (PureV.does (p_move (by kernel_rfl))) ?_
    refine oOp (.ptr 0 5) (by kernel_rfl) (by kernel_rfl) (PureV.does (k_fieldAddr 0 0 (by kernel_rfl) Try.underlying49 rfl ty3 (by kernel_rfl))) ?_
    refine oOp (.d (.int .i64 x5)) (by kernel_rfl) (by kernel_rfl) (Quiet.does (k_load 0 5 (by kernel_rfl) Try.underlying3 (by kernel_rfl) (by kernel_rfl))) ?_
    refine oOp (.d (.bool (answer == x5))) (by kernel_rfl) (by kernel_rfl) (PureV.does (p_int (k := .i64) (p := answer) (q := x5) (by kernel_rfl) (by kernel_rfl) (by kernel_rfl))) ?_
    refine oOp (.d (.bool (answer == x5))) (by kernel_rfl) (by kernel_rfl) (PureV.does (p_assign (by kernel_rfl))) ?_
    refine oEnd ?_
    exact oRet (r0 := (answer == x5)) (rv := .d (.bool (answer == x5))) (B := []) (vs := [.d (.bool (answer == x5))]) (σ := []) (by kernel_rfl) Try.func44 rfl (.cons _ _ _ _ (.tmp 6 _ (by kernel_rfl)) .nil) (by kernel_rfl) (by kernel_rfl) (by kernel_rfl) (by kernel_rfl) (by decide) (by kernel_rfl) (by kernel_rfl)
  · refine oCondF (by kernel_rfl) ?_
    refine oSkip ?_
    refine oSeq ?_
    refine oRegion rfl ?_
    refine oOp (.d (.lit (List.map e_i64 keys))) (by kernel_rfl) (by kernel_rfl) (PureV.does (p_move (by kernel_rfl))) ?_
    refine oOp (.d (.int .i64 answer)) (by kernel_rfl) (by kernel_rfl) (PureV.does (p_move (by kernel_rfl))) ?_
    refine bCall (caps := []) (v := (fun (r111 : Bool) => (.d (.bool r111) : V))) (H' := (fun (r111 : Bool) => ([.box [.d (.int .i64 x0), .d (.int .i64 x1), .d (.int .i64 x2), .d (.int .i64 x3), .d (.int .i64 x4), .d (.int .i64 x5)]] : List Blk))) [] _ (slices_Contains_int_goes k keys answer) (by kernel_rfl) (by kernel_rfl) rfl (by kernel_rfl) Try.func58 rfl (by kernel_rfl) (ConvRs.refl _ _) (by kernel_rfl) (by kernel_rfl) (by kernel_rfl) (by decide) (by kernel_rfl) (by kernel_rfl) (fun _ => (by kernel_rfl)) (fun _ => (by kernel_rfl)) (fun _ => (by kernel_rfl)) (fun r111 => ?_)
    refine oOp (.d (.bool r111)) (by kernel_rfl) (by kernel_rfl) (PureV.does (p_assign (by kernel_rfl))) ?_
    refine oEnd ?_
    exact oRet (r0 := r111) (rv := .d (.bool r111)) (B := []) (vs := [.d (.bool r111)]) (σ := []) (by kernel_rfl) Try.func44 rfl (.cons _ _ _ _ (.tmp 6 _ (by kernel_rfl)) .nil) (by kernel_rfl) (by kernel_rfl) (by kernel_rfl) (by kernel_rfl) (by decide) (by kernel_rfl) (by kernel_rfl)

/-- awardingbody/scheme.Closed -/
def scheme_Closed_b1 (k : Nat) (p2 : (List SPart)) (s0 : (List (List Int))) (answers : (List Int)) (again : Int × (List Int) → Option (((List Int)) ⊕ ((List Int) × Int))) : Int × (List Int) → Option (((List Int)) ⊕ ((List Int) × Int)) := uc fun x19 => fun xs11 => bif (decide (x19 < ((List.length p2) : Int))) then Option.bind (gidx p2 x19 fun e115 => gidx answers x19 fun e116 => bif (e115.Kind == 1) then gcap (List.length (xs11 ++ ([(-2)] : List Int))) 8 (some (Sum.inl (xs11 ++ ([(-2)] : List Int)))) else blet ((e116 != (-2)) && (e116 != (-1))) fun x27 => Option.bind (bif x27 then blet ((decide (e116 < 0)) || (decide (e116 ≥ e115.Options))) fun x30 => some x30 else some false : Option (Bool)) (fun x29 => bif x29 then some (Sum.inr ([], 2)) else bif (e116 == (-1)) then gcap (List.length (xs11 ++ ([(-1)] : List Int))) 8 (some (Sum.inl (xs11 ++ ([(-1)] : List Int)))) else gidx s0 x19 fun e12 => Option.bind (scheme_accepts k e115.Kind e115.Max e115.Topic e115.Objective e115.Options e115.Key e12 e116) (fun r12 => bif r12 then gcap (List.length (xs11 ++ ([e115.Max] : List Int))) 8 (some (Sum.inl (xs11 ++ ([e115.Max] : List Int)))) else gcap (List.length (xs11 ++ ([0] : List Int))) 8 (some (Sum.inl (xs11 ++ ([0] : List Int)))))) : Option (((List Int)) ⊕ ((List Int) × Int))) (Sum.elim (fun xs14 => again ((IntKind.wrap .i64 (x19 + 1)), xs14)) (fun r => some (Sum.inr r))) else some (Sum.inl xs11)
def scheme_Closed (k : Nat) (p0 : Int) (p1 : Int) (p2 : (List SPart)) (s0 : (List (List Int))) (s1 : (List Int)) (answers : (List Int)) : Option ((List Int) × Int) := Option.bind (scheme_Valid k p0 p1 p2 s0 s1) (fun r16 => bif (!r16) then some ([], 1) else bif (((List.length answers) : Int) != ((List.length p2) : Int)) then some ([], 22) else Option.bind (gloop (scheme_Closed_b1 k p2 s0 answers) k (0, ([] : List Int)) : Option (((List Int)) ⊕ ((List Int) × Int))) (Sum.elim (fun xs9 => some (xs9, 0)) (fun r => some r)))
def scheme_Closed_E (p0 : Int) (p1 : Int) (p2 : (List SPart)) (s0 : (List (List Int))) (s1 : (List Int)) (answers : (List Int)) : (List Int) × Int → V × List Blk := uc fun r13 => fun r14 => (.tuple [.d (.lit (List.map e_i64 r13)), .d (.int .i64 r14)], [])
theorem scheme_Closed_goes (k : Nat) (p0 : Int) (p1 : Int) (p2 : (List SPart)) (s0 : (List (List Int))) (s1 : (List Int)) (answers : (List Int)) : RunsO Try.prog 16 [.agg [.d (.int .i64 p0), .d (.int .i64 p1), .d (.lit (List.map e_SPart p2))], .agg [.d (.lit (List.map e_Li64 s0)), .d (.lit (List.map e_i64 s1))], .d (.lit (List.map e_i64 answers))] [] (scheme_Closed_E p0 p1 p2 s0 s1 answers) (scheme_Closed k p0 p1 p2 s0 s1 answers) := by
  refine RunsO.of_goes (N := 85) (m := 0) (T := [(0, .agg [.d (.int .i64 p0), .d (.int .i64 p1), .d (.lit (List.map e_SPart p2))]), (1, .agg [.d (.lit (List.map e_Li64 s0)), .d (.lit (List.map e_i64 s1))]), (2, .d (.lit (List.map e_i64 answers)))]) Try.func16 rfl rfl (by kernel_rfl) (by kernel_rfl) (by kernel_rfl) ?_
  unfold scheme_Closed
  refine bStart ?_
  refine oSeq ?_
  refine oRegion rfl ?_
  refine oOp (.ptr 0 0) (by kernel_rfl) (by kernel_rfl) (k_box (H' := [.box [.d (.int .i64 p0), .d (.int .i64 p1), .d (.lit (List.map e_SPart p2))]]) (cells := [.d (.int .i64 p0), .d (.int .i64 p1), .d (.lit (List.map e_SPart p2))]) (by kernel_rfl) (by kernel_rfl) (by kernel_rfl)) ?_
  refine oOp (.ptr 1 0) (by kernel_rfl) (by kernel_rfl) (k_box (H' := [.box [.d (.int .i64 p0), .d (.int .i64 p1), .d (.lit (List.map e_SPart p2))], .box [.d (.lit (List.map e_Li64 s0)), .d (.lit (List.map e_i64 s1))]]) (cells := [.d (.lit (List.map e_Li64 s0)), .d (.lit (List.map e_i64 s1))]) (by kernel_rfl) (by kernel_rfl) (by kernel_rfl)) ?_
  refine oOp (.nilc) (by kernel_rfl) (by kernel_rfl) (PureV.does (p_assign (by kernel_rfl))) ?_
  refine oOp (.d (.int .i64 0)) (by kernel_rfl) (by kernel_rfl) (PureV.does (p_assign (by kernel_rfl))) ?_
  refine oEnd ?_
  refine oSeq ?_
  refine oBlock ?_
  refine oSeq ?_
  refine oRegion rfl ?_
  refine oOp (.agg [.d (.int .i64 p0), .d (.int .i64 p1), .d (.lit (List.map e_SPart p2))]) (by kernel_rfl) (by kernel_rfl) (Quiet.does (k_loadAgg 0 0 (by kernel_rfl) Try.underlying27 (by kernel_rfl) ty27 (by kernel_rfl))) ?_
  refine oOp (.agg [.d (.lit (List.map e_Li64 s0)), .d (.lit (List.map e_i64 s1))]) (by kernel_rfl) (by kernel_rfl) (Quiet.does (k_loadAgg 1 0 (by kernel_rfl) Try.underlying31 (by kernel_rfl) ty31 (by kernel_rfl))) ?_
  refine bCall (caps := []) (v := (fun (r16 : Bool) => (.d (.bool r16) : V))) (H' := (fun (r16 : Bool) => ([.box [.d (.int .i64 p0), .d (.int .i64 p1), .d (.lit (List.map e_SPart p2))], .box [.d (.lit (List.map e_Li64 s0)), .d (.lit (List.map e_i64 s1))]] : List Blk))) [] _ (scheme_Valid_goes k p0 p1 p2 s0 s1) (by kernel_rfl) (by kernel_rfl) rfl (by kernel_rfl) Try.func30 rfl (by kernel_rfl) (ConvRs.refl _ _) (by kernel_rfl) (by kernel_rfl) (by kernel_rfl) (by decide) (by kernel_rfl) (by kernel_rfl) (fun _ => (by kernel_rfl)) (fun _ => (by kernel_rfl)) (fun _ => (by kernel_rfl)) (fun r16 => ?_)
  refine oOp (.d (.bool (!r16))) (by kernel_rfl) (by kernel_rfl) (PureV.does (p_not (p := r16) (by kernel_rfl) (by kernel_rfl))) ?_
  refine oOp (.d (.bool (!r16))) (by kernel_rfl) (by kernel_rfl) (PureV.does (p_assign (by kernel_rfl))) ?_
  refine oEnd ?_
  refine bSplit 12 (by kernel_rfl) (fun hc => ?_) (fun hc => ?_)
  · refine oCondT (by kernel_rfl) ?_
    refine oSeq ?_
    refine oRegion rfl ?_
    refine oOp (.nilc) (by kernel_rfl) (by kernel_rfl) (PureV.does (p_assign (by kernel_rfl))) ?_
    refine oOp (.d (.int .i64 1)) (by kernel_rfl) (by kernel_rfl) (PureV.does (p_assign (by kernel_rfl))) ?_
    refine oEnd ?_
    refine oConv 6 (v := .nilc) (v' := .d (.lit (List.map e_i64 []))) (by kernel_rfl) .nil ?_
    exact oRet (r0 := ([], 1)) (rv := .tuple [.d (.lit (List.map e_i64 [])), .d (.int .i64 1)]) (B := []) (vs := [.d (.lit (List.map e_i64 [])), .d (.int .i64 1)]) (σ := []) (by kernel_rfl) Try.func16 rfl (.cons _ _ _ _ (.tmp 6 _ (by kernel_rfl)) (.cons _ _ _ _ (.tmp 7 _ (by kernel_rfl)) .nil)) (by kernel_rfl) (by kernel_rfl) (by kernel_rfl) (by kernel_rfl) (by decide) (by kernel_rfl) (by kernel_rfl)
  · refine oCondF (by kernel_rfl) ?_
    refine oSeq ?_
    refine oRegion rfl ?_
    refine oOp (.d (.lit (List.map e_i64 answers))) (by kernel_rfl) (by kernel_rfl) (PureV.does (p_move (by kernel_rfl))) ?_
    refine oOp (.d (.int .i64 ((List.length answers) : Int))) (by kernel_rfl) (by kernel_rfl) (PureV.does (k_lenLit (enc := e_i64) answers (by kernel_rfl) Try.underlying22)) ?_
    refine oOp (.ptr 0 2) (by kernel_rfl) (by kernel_rfl) (PureV.does (k_fieldAddr 0 0 (by kernel_rfl) Try.underlying27 rfl ty25 (by kernel_rfl))) ?_
    refine oOp (.d (.lit (List.map e_SPart p2))) (by kernel_rfl) (by kernel_rfl) (Quiet.does (k_load 0 2 (by kernel_rfl) Try.underlying25 (by kernel_rfl) (by kernel_rfl))) ?_
    refine oOp (.d (.int .i64 ((List.length p2) : Int))) (by kernel_rfl) (by kernel_rfl) (PureV.does (k_lenLit (enc := e_SPart) p2 (by kernel_rfl) Try.underlying25)) ?_
    refine oOp (.d (.bool (((List.length answers) : Int) != ((List.length p2) : Int)))) (by kernel_rfl) (by kernel_rfl) (PureV.does (p_int (k := .i64) (p := ((List.length answers) : Int)) (q := ((List.length p2) : Int)) (by kernel_rfl) (by kernel_rfl) (by kernel_rfl))) ?_
    refine oOp (.d (.bool (((List.length answers) : Int) != ((List.length p2) : Int)))) (by kernel_rfl) (by kernel_rfl) (PureV.does (p_assign (by kernel_rfl))) ?_
    refine oEnd ?_
    refine bSplit 17 (by kernel_rfl) (fun hc => ?_) (fun hc => ?_)
    · refine oCondT (by kernel_rfl) ?_
      refine oSeq ?_
      refine oRegion rfl ?_
      refine oOp (.nilc) (by kernel_rfl) (by kernel_rfl) (PureV.does (p_assign (by kernel_rfl))) ?_
      refine oOp (.d (.int .i64 22)) (by kernel_rfl) (by kernel_rfl) (PureV.does (p_assign (by kernel_rfl))) ?_
      refine oEnd ?_
      refine oConv 6 (v := .nilc) (v' := .d (.lit (List.map e_i64 []))) (by kernel_rfl) .nil ?_
      exact oRet (r0 := ([], 22)) (rv := .tuple [.d (.lit (List.map e_i64 [])), .d (.int .i64 22)]) (B := []) (vs := [.d (.lit (List.map e_i64 [])), .d (.int .i64 22)]) (σ := []) (by kernel_rfl) Try.func16 rfl (.cons _ _ _ _ (.tmp 6 _ (by kernel_rfl)) (.cons _ _ _ _ (.tmp 7 _ (by kernel_rfl)) .nil)) (by kernel_rfl) (by kernel_rfl) (by kernel_rfl) (by kernel_rfl) (by decide) (by kernel_rfl) (by kernel_rfl)
    · refine oCondF (by kernel_rfl) ?_
      refine oSkip ?_
      refine oBlk ?_
      refine oSeq ?_
      refine oRegion rfl ?_
      refine oOp (.nilc) (by kernel_rfl) (by kernel_rfl) (PureV.does (p_assign (by kernel_rfl))) ?_
      refine oEnd ?_
      refine oSeq ?_
      refine oSeq ?_
      refine oRegion rfl ?_
      refine oOp (.ptr 0 2) (by kernel_rfl) (by kernel_rfl) (PureV.does (k_fieldAddr 0 0 (by kernel_rfl) Try.underlying27 rfl ty25 (by kernel_rfl))) ?_
      refine oOp (.d (.lit (List.map e_SPart p2))) (by kernel_rfl) (by kernel_rfl) (Quiet.does (k_load 0 2 (by kernel_rfl) Try.underlying25 (by kernel_rfl) (by kernel_rfl))) ?_
      refine oOp (.d (.int .i64 ((List.length p2) : Int))) (by kernel_rfl) (by kernel_rfl) (PureV.does (k_lenLit (enc := e_SPart) p2 (by kernel_rfl) Try.underlying25)) ?_
      refine oOp (.d (.int .i64 0)) (by kernel_rfl) (by kernel_rfl) (PureV.does (p_move (by kernel_rfl))) ?_
      refine oEnd ?_
      refine bJoin ((fun (xs9 : (List Int)) => [(8, .ref 0 (List.length xs9) 0 (List.length xs9))])) ((fun (xs9 : (List Int)) => [.sl 1 (List.map e_i64 xs9) false])) Sum.inl (fun xs9 => ?_) (fun hj6 => ?_)
      · refine bInl ?_
        refine oView (T' := [(8, .ref 0 (List.length xs9) 0 (List.length xs9))]) (H' := [.sl 1 (List.map e_i64 xs9) false]) (by kernel_rfl) (by kernel_rfl) ?_
        refine oSeq ?_
        refine oRegion rfl ?_
        refine oOp (.ref 0 (List.length xs9) 0 (List.length xs9)) (by kernel_rfl) (by kernel_rfl) (PureV.does (p_move (by kernel_rfl))) ?_
        refine oOp (.ref 0 (List.length xs9) 0 (List.length xs9)) (by kernel_rfl) (by kernel_rfl) (PureV.does (p_assign (by kernel_rfl))) ?_
        refine oOp (.d (.int .i64 0)) (by kernel_rfl) (by kernel_rfl) (PureV.does (p_assign (by kernel_rfl))) ?_
        refine oEnd ?_
        refine oFreeze 0 (esz := 1) (xs := List.map e_i64 xs9) (by kernel_rfl) ?_
        refine oView (H' := [.sl 1 (List.map e_i64 xs9) true]) rfl (by kernel_rfl) ?_
        refine oConv 6 (v := .ref 0 (List.length xs9) 0 (List.length xs9)) (v' := .d (.lit (List.map e_i64 xs9))) (by kernel_rfl) (k_lit (enc := e_i64) (sz := 1) 0 xs9 (by kernel_rfl)) ?_
        exact oRet (r0 := (xs9, 0)) (rv := .tuple [.d (.lit (List.map e_i64 xs9)), .d (.int .i64 0)]) (B := []) (vs := [.d (.lit (List.map e_i64 xs9)), .d (.int .i64 0)]) (σ := []) (by kernel_rfl) Try.func16 rfl (.cons _ _ _ _ (.tmp 6 _ (by kernel_rfl)) (.cons _ _ _ _ (.tmp 7 _ (by kernel_rfl)) .nil)) (by kernel_rfl) (by kernel_rfl) (by kernel_rfl) (by kernel_rfl) (by decide) (by kernel_rfl) (by kernel_rfl)
      · refine oBlock ?_
        refine oLoop ?_
        refine oVirt (esz := 1) 8 (by kernel_rfl) ?_
        refine oView (H' := [.box [.d (.int .i64 p0), .d (.int .i64 p1), .d (.lit (List.map e_SPart p2))], .box [.d (.lit (List.map e_Li64 s0)), .d (.lit (List.map e_i64 s1))], .sl 1 (List.map e_i64 ([] : List Int)) false]) rfl (by kernel_rfl) ?_
        refine oHead [2, 4, 8, 25, 26, 27] [1, 2] (T' := [(2, .d (.lit (List.map e_i64 answers))), (4, .ptr 0 0), (8, .ref 1 (List.length ([] : List Int)) 0 (List.length ([] : List Int))), (25, .d (.lit (List.map e_SPart p2))), (26, .d (.int .i64 ((List.length p2) : Int))), (27, .d (.int .i64 0))]) (H' := [.box [.d (.lit (List.map e_Li64 s0)), .d (.lit (List.map e_i64 s1))], .sl 1 (List.map e_i64 ([] : List Int)) false]) (by kernel_rfl) (by kernel_rfl) (by kernel_rfl) (by kernel_rfl) (by decide) (by kernel_rfl) (by kernel_rfl) ?_
        refine bLoop (body := scheme_Closed_b1 k p2 s0 answers) ((uc fun (x19 : Int) => (fun (xs11 : (List Int)) => [(2, .d (.lit (List.map e_i64 answers))), (4, .ptr 0 0), (8, .ref 1 (List.length xs11) 0 (List.length xs11)), (25, .d (.lit (List.map e_SPart p2))), (26, .d (.int .i64 ((List.length p2) : Int))), (27, .d (.int .i64 x19))]))) ((uc fun (x19 : Int) => (fun (xs11 : (List Int)) => [.box [.d (.lit (List.map e_Li64 s0)), .d (.lit (List.map e_i64 s1))], .sl 1 (List.map e_i64 xs11) false]))) (fun again hag1 s => ?_) k (0, ([] : List Int))
        · unfold scheme_Closed_b1
          obtain ⟨x19, xs11⟩ := s
          refine bUc ?_
          refine oView (T' := [(2, .d (.lit (List.map e_i64 answers))), (4, .ptr 0 0), (8, .ref 1 (List.length xs11) 0 (List.length xs11)), (25, .d (.lit (List.map e_SPart p2))), (26, .d (.int .i64 ((List.length p2) : Int))), (27, .d (.int .i64 x19))]) (H' := [.box [.d (.lit (List.map e_Li64 s0)), .d (.lit (List.map e_i64 s1))], .sl 1 (List.map e_i64 xs11) false]) (by kernel_rfl) (by kernel_rfl) ?_
          refine oSeq ?_
          refine oRegion rfl ?_
          refine oOp (.d (.bool (decide (x19 < ((List.length p2) : Int))))) (by kernel_rfl) (by kernel_rfl) (PureV.does (p_int (k := .i64) (p := x19) (q := ((List.length p2) : Int)) (by kernel_rfl) (by kernel_rfl) (by kernel_rfl))) ?_
          refine oEnd ?_
          refine oSeq ?_
          refine bSplit 28 (by kernel_rfl) (fun hc => ?_) (fun hc => ?_)
          · refine oCondT (by kernel_rfl) ?_
            refine oSkip ?_
            refine oSeq ?_
            refine bJoin ((fun (xs14 : (List Int)) => [(2, .d (.lit (List.map e_i64 answers))), (4, .ptr 0 0), (8, .ref 1 (List.length xs14) 0 (List.length xs14)), (25, .d (.lit (List.map e_SPart p2))), (26, .d (.int .i64 ((List.length p2) : Int))), (27, .d (.int .i64 x19))])) ((fun (xs14 : (List Int)) => [.box [.d (.lit (List.map e_Li64 s0)), .d (.lit (List.map e_i64 s1))], .sl 1 (List.map e_i64 xs14) false])) Sum.inl (fun xs14 => ?_) (fun hj9 => ?_)
            · refine bInl ?_
              refine oView (T' := [(2, .d (.lit (List.map e_i64 answers))), (4, .ptr 0 0), (8, .ref 1 (List.length xs14) 0 (List.length xs14)), (25, .d (.lit (List.map e_SPart p2))), (26, .d (.int .i64 ((List.length p2) : Int))), (27, .d (.int .i64 x19))]) (H' := [.box [.d (.lit (List.map e_Li64 s0)), .d (.lit (List.map e_i64 s1))], .sl 1 (List.map e_i64 xs14) false]) (by kernel_rfl) (by kernel_rfl) ?_
              refine oRegion rfl ?_
              refine oOp (.d (.int .i64 (IntKind.wrap .i64 (x19 + 1)))) (by kernel_rfl) (by kernel_rfl) (PureV.does (p_int (k := .i64) (p := x19) (q := 1) (by kernel_rfl) (by kernel_rfl) (by kernel_rfl))) ?_
              refine oOp (.d (.int .i64 (IntKind.wrap .i64 (x19 + 1)))) (by kernel_rfl) (by kernel_rfl) (PureV.does (p_move (by kernel_rfl))) ?_
              refine oEnd ?_
              refine oAgain ?_
              refine oHead [2, 4, 8, 25, 26, 27] [0, 1] (T' := [(2, .d (.lit (List.map e_i64 answers))), (4, .ptr 0 0), (8, .ref 1 (List.length xs14) 0 (List.length xs14)), (25, .d (.lit (List.map e_SPart p2))), (26, .d (.int .i64 ((List.length p2) : Int))), (27, .d (.int .i64 (IntKind.wrap .i64 (x19 + 1))))]) (H' := [.box [.d (.lit (List.map e_Li64 s0)), .d (.lit (List.map e_i64 s1))], .sl 1 (List.map e_i64 xs14) false]) (by kernel_rfl) (by kernel_rfl) (by kernel_rfl) (by kernel_rfl) (by decide) (by kernel_rfl) (by kernel_rfl) ?_
              exact hag1 ((IntKind.wrap .i64 (x19 + 1)), xs14)
            · refine oBlock ?_
              refine oSeq ?_
              refine oRegion rfl ?_
              refine oOp (.d (.int .i64 x19)) (by kernel_rfl) (by kernel_rfl) (PureV.does (p_move (by kernel_rfl))) ?_
              refine bIdx (fun e115 h158 h159 => ?_)
              refine oOp (.lptr (e_SPart e115) 0) (by kernel_rfl) (by kernel_rfl) (PureV.does (k_idxLit e_SPart_len p2 (a := e115) (by kernel_rfl) (k := .i64) (i := x19) (by kernel_rfl) Try.underlying25 ty49 h158 h159)) ?_
              refine oOp (.agg [.d (.int .i64 e115.Kind), .d (.int .i64 e115.Max), .d (.int .i64 e115.Topic), .d (.int .i64 e115.Objective), .d (.int .i64 e115.Options), .d (.int .i64 e115.Key)]) (by kernel_rfl) (by kernel_rfl) (Quiet.does (k_loadLAgg (cells := e_SPart e115) 0 [(.int .i64 e115.Kind), (.int .i64 e115.Max), (.int .i64 e115.Topic), (.int .i64 e115.Objective), (.int .i64 e115.Options), (.int .i64 e115.Key)] (by kernel_rfl) Try.underlying49 (by kernel_rfl) ty49 (by kernel_rfl) (by kernel_rfl) (by kernel_rfl))) ?_
              refine oOp (.ptr 2 0) (by kernel_rfl) (by kernel_rfl) (k_alloc (H' := [.box [.d (.lit (List.map e_Li64 s0)), .d (.lit (List.map e_i64 s1))], .sl 1 (List.map e_i64 xs11) false, .box [.d (.int .i64 0), .d (.int .i64 0), .d (.int .i64 0), .d (.int .i64 0), .d (.int .i64 0), .d (.int .i64 0)]]) ty49 (by kernel_rfl) (by kernel_rfl)) ?_
              refine oOp (.d (.int .i64 x19)) (by kernel_rfl) (by kernel_rfl) (PureV.does (p_assign (by kernel_rfl))) ?_
              refine oOp (.undef) (by kernel_rfl) (by kernel_rfl) (k_store (vs := [.d (.int .i64 e115.Kind), .d (.int .i64 e115.Max), .d (.int .i64 e115.Topic), .d (.int .i64 e115.Objective), .d (.int .i64 e115.Options), .d (.int .i64 e115.Key)]) (H' := [.box [.d (.lit (List.map e_Li64 s0)), .d (.lit (List.map e_i64 s1))], .sl 1 (List.map e_i64 xs11) false, .box [.d (.int .i64 e115.Kind), .d (.int .i64 e115.Max), .d (.int .i64 e115.Topic), .d (.int .i64 e115.Objective), .d (.int .i64 e115.Options), .d (.int .i64 e115.Key)]]) 2 0 (by kernel_rfl) ty49 (by kernel_rfl) (by kernel_rfl) (by kernel_rfl)) ?_
              refine oEnd ?_
              refine oSeq ?_
              refine oRegion rfl ?_
              refine oOp (.d (.lit (List.map e_i64 answers))) (by kernel_rfl) (by kernel_rfl) (PureV.does (p_move (by kernel_rfl))) ?_
              refine oOp (.d (.int .i64 x19)) (by kernel_rfl) (by kernel_rfl) (PureV.does (p_move (by kernel_rfl))) ?_
              refine bIdx (fun e116 h160 h161 => ?_)
              refine oOp (.lptr (e_i64 e116) 0) (by kernel_rfl) (by kernel_rfl) (PureV.does (k_idxLit e_i64_len answers (a := e116) (by kernel_rfl) (k := .i64) (i := x19) (by kernel_rfl) Try.underlying22 ty3 h160 h161)) ?_
              refine oOp (.d (.int .i64 e116)) (by kernel_rfl) (by kernel_rfl) (Quiet.does (k_loadL (cells := e_i64 e116) 0 (by kernel_rfl) Try.underlying3 (by kernel_rfl) (by kernel_rfl))) ?_
              refine oOp (.d (.int .i64 e116)) (by kernel_rfl) (by kernel_rfl) (PureV.does (p_assign (by kernel_rfl))) ?_
              refine oEnd ?_
              refine oBlock ?_
              refine oSeq ?_
              refine oRegion rfl ?_
              refine oOp (.ptr 2 0) (by kernel_rfl) (by kernel_rfl) (PureV.does (k_fieldAddr 2 0 (by kernel_rfl) Try.underlying49 rfl ty3 (by kernel_rfl))) ?_
              refine oOp (.d (.int .i64 e115.Kind)) (by kernel_rfl) (by kernel_rfl) (Quiet.does (k_load 2 0 (by kernel_rfl) Try.underlying3 (by kernel_rfl) (by kernel_rfl))) ?_
              refine oOp (.d (.bool (e115.Kind == 1))) (by kernel_rfl) (by kernel_rfl) (PureV.does (p_int (k := .i64) (p := e115.Kind) (q := 1) (by kernel_rfl) (by kernel_rfl) (by kernel_rfl))) ?_
              refine oOp (.d (.bool (e115.Kind == 1))) (by kernel_rfl) (by kernel_rfl) (PureV.does (p_assign (by kernel_rfl))) ?_
              refine oEnd ?_
              refine bSplit 39 (by kernel_rfl) (fun hc => ?_) (fun hc => ?_)
              · refine oCondT (by kernel_rfl) ?_
                refine oRegion rfl ?_
                refine oOp (.ref 1 (List.length xs11) 0 (List.length xs11)) (by kernel_rfl) (by kernel_rfl) (PureV.does (p_move (by kernel_rfl))) ?_
                refine oOp (.ref 3 (List.length ([(-2)] : List Int)) 0 (List.length ([(-2)] : List Int))) (by kernel_rfl) (by kernel_rfl) (k_buildSlice (H' := [.box [.d (.lit (List.map e_Li64 s0)), .d (.lit (List.map e_i64 s1))], .sl 1 (List.map e_i64 xs11) false, .box [.d (.int .i64 e115.Kind), .d (.int .i64 e115.Max), .d (.int .i64 e115.Topic), .d (.int .i64 e115.Objective), .d (.int .i64 e115.Options), .d (.int .i64 e115.Key)], .sl 1 (List.map e_i64 ([(-2)] : List Int)) false]) (List.map e_i64 ([(-2)] : List Int)) Try.underlying22 ty3 (by kernel_rfl) (by kernel_rfl) (by kernel_rfl)) ?_
                refine bCap (fun h162 => ?_)
                refine oOp (.ref 1 (List.length (xs11 ++ ([(-2)] : List Int))) 0 (List.length (xs11 ++ ([(-2)] : List Int)))) (by kernel_rfl) (by kernel_rfl) (k_append (H' := [.box [.d (.lit (List.map e_Li64 s0)), .d (.lit (List.map e_i64 s1))], .sl 1 (List.map e_i64 (xs11 ++ ([(-2)] : List Int))) false, .box [.d (.int .i64 e115.Kind), .d (.int .i64 e115.Max), .d (.int .i64 e115.Topic), .d (.int .i64 e115.Objective), .d (.int .i64 e115.Options), .d (.int .i64 e115.Key)], .sl 1 (List.map e_i64 ([(-2)] : List Int)) false]) (enc := e_i64) 1 xs11 ([(-2)] : List Int) Try.underlying22 Try.underlying22 ty3 (by kernel_rfl) (by kernel_rfl) (by kernel_rfl) (holdsRef (enc := e_i64) 3 ([(-2)] : List Int) false (by kernel_rfl) (by kernel_rfl)) h162 (by kernel_rfl)) ?_
                refine oOp (.ref 1 (List.length (xs11 ++ ([(-2)] : List Int))) 0 (List.length (xs11 ++ ([(-2)] : List Int)))) (by kernel_rfl) (by kernel_rfl) (PureV.does (p_assign (by kernel_rfl))) ?_
                refine oEnd ?_
                refine oBlk ?_
                refine oBlk ?_
                refine oHead [2, 4, 8, 25, 26, 27] [0, 1] (T' := [(2, .d (.lit (List.map e_i64 answers))), (4, .ptr 0 0), (8, .ref 1 (List.length (xs11 ++ ([(-2)] : List Int))) 0 (List.length (xs11 ++ ([(-2)] : List Int)))), (25, .d (.lit (List.map e_SPart p2))), (26, .d (.int .i64 ((List.length p2) : Int))), (27, .d (.int .i64 x19))]) (H' := [.box [.d (.lit (List.map e_Li64 s0)), .d (.lit (List.map e_i64 s1))], .sl 1 (List.map e_i64 (xs11 ++ ([(-2)] : List Int))) false]) (by kernel_rfl) (by kernel_rfl) (by kernel_rfl) (by kernel_rfl) (by decide) (by kernel_rfl) (by kernel_rfl) ?_
                exact hj9 (xs11 ++ ([(-2)] : List Int))
              · refine oCondF (by kernel_rfl) ?_
                refine oSeq ?_
                refine oRegion rfl ?_
                refine oOp (.d (.int .i64 e116)) (by kernel_rfl) (by kernel_rfl) (PureV.does (p_move (by kernel_rfl))) ?_
                refine oOp (.d (.bool (e116 != (-2)))) (by kernel_rfl) (by kernel_rfl) (PureV.does (p_int (k := .i64) (p := e116) (q := (-2)) (by kernel_rfl) (by kernel_rfl) (by kernel_rfl))) ?_
                refine oOp (.d (.bool (e116 != (-2)))) (by kernel_rfl) (by kernel_rfl) (PureV.does (p_move (by kernel_rfl))) ?_
                refine bMeetF (H' := [.box [.d (.lit (List.map e_Li64 s0)), .d (.lit (List.map e_i64 s1))], .sl 1 (List.map e_i64 xs11) false, .box [.d (.int .i64 e115.Kind), .d (.int .i64 e115.Max), .d (.int .i64 e115.Topic), .d (.int .i64 e115.Objective), .d (.int .i64 e115.Options), .d (.int .i64 e115.Key)]]) 3 rfl ((fun (x27 : Bool) => [(2, .d (.lit (List.map e_i64 answers))), (4, .ptr 0 0), (8, .ref 1 (List.length xs11) 0 (List.length xs11)), (9, .d (.int .i64 x19)), (10, .ptr 2 0), (11, .d (.int .i64 e116)), (25, .d (.lit (List.map e_SPart p2))), (26, .d (.int .i64 ((List.length p2) : Int))), (27, .d (.int .i64 x19)), (52, .d (.bool x27))])) (fun x27 => ?_) (fun F hj10 => ?_)
                · refine oView (T' := [(2, .d (.lit (List.map e_i64 answers))), (4, .ptr 0 0), (8, .ref 1 (List.length xs11) 0 (List.length xs11)), (9, .d (.int .i64 x19)), (10, .ptr 2 0), (11, .d (.int .i64 e116)), (25, .d (.lit (List.map e_SPart p2))), (26, .d (.int .i64 ((List.length p2) : Int))), (27, .d (.int .i64 x19)), (52, .d (.bool x27))]) (H' := [.box [.d (.lit (List.map e_Li64 s0)), .d (.lit (List.map e_i64 s1))], .sl 1 (List.map e_i64 xs11) false, .box [.d (.int .i64 e115.Kind), .d (.int .i64 e115.Max), .d (.int .i64 e115.Topic), .d (.int .i64 e115.Objective), .d (.int .i64 e115.Options), .d (.int .i64 e115.Key)]]) (by kernel_rfl) (by kernel_rfl) ?_
                  refine oOp (.d (.bool x27)) (by kernel_rfl) (by kernel_rfl) (PureV.does (p_move (by kernel_rfl))) ?_
                  refine bMeet 9 rfl ((fun (x29 : Bool) => [(2, .d (.lit (List.map e_i64 answers))), (4, .ptr 0 0), (8, .ref 1 (List.length xs11) 0 (List.length xs11)), (9, .d (.int .i64 x19)), (10, .ptr 2 0), (11, .d (.int .i64 e116)), (25, .d (.lit (List.map e_SPart p2))), (26, .d (.int .i64 ((List.length p2) : Int))), (27, .d (.int .i64 x19)), (62, .d (.bool x29))])) ((fun (x29 : Bool) => [.box [.d (.lit (List.map e_Li64 s0)), .d (.lit (List.map e_i64 s1))], .sl 1 (List.map e_i64 xs11) false, .box [.d (.int .i64 e115.Kind), .d (.int .i64 e115.Max), .d (.int .i64 e115.Topic), .d (.int .i64 e115.Objective), .d (.int .i64 e115.Options), .d (.int .i64 e115.Key)]])) (fun s => s) (fun x29 => ?_) (fun hj11 => ?_)
                  · refine oView (T' := [(2, .d (.lit (List.map e_i64 answers))), (4, .ptr 0 0), (8, .ref 1 (List.length xs11) 0 (List.length xs11)), (9, .d (.int .i64 x19)), (10, .ptr 2 0), (11, .d (.int .i64 e116)), (25, .d (.lit (List.map e_SPart p2))), (26, .d (.int .i64 ((List.length p2) : Int))), (27, .d (.int .i64 x19)), (62, .d (.bool x29))]) (H' := [.box [.d (.lit (List.map e_Li64 s0)), .d (.lit (List.map e_i64 s1))], .sl 1 (List.map e_i64 xs11) false, .box [.d (.int .i64 e115.Kind), .d (.int .i64 e115.Max), .d (.int .i64 e115.Topic), .d (.int .i64 e115.Objective), .d (.int .i64 e115.Options), .d (.int .i64 e115.Key)]]) (by kernel_rfl) (by kernel_rfl) ?_
                    refine oOp (.d (.bool x29)) (by kernel_rfl) (by kernel_rfl) (PureV.does (p_assign (by kernel_rfl))) ?_
                    refine oEnd ?_
                    refine bSplit 46 (by kernel_rfl) (fun hc => ?_) (fun hc => ?_)
                    · refine oCondT (by kernel_rfl) ?_
                      refine oSeq ?_
                      refine oRegion rfl ?_
                      refine oOp (.nilc) (by kernel_rfl) (by kernel_rfl) (PureV.does (p_assign (by kernel_rfl))) ?_
                      refine oOp (.d (.int .i64 2)) (by kernel_rfl) (by kernel_rfl) (PureV.does (p_assign (by kernel_rfl))) ?_
                      refine oEnd ?_
                      refine oConv 6 (v := .nilc) (v' := .d (.lit (List.map e_i64 []))) (by kernel_rfl) .nil ?_
                      exact oRet (r0 := ([], 2)) (rv := .tuple [.d (.lit (List.map e_i64 [])), .d (.int .i64 2)]) (B := []) (vs := [.d (.lit (List.map e_i64 [])), .d (.int .i64 2)]) (σ := []) (by kernel_rfl) Try.func16 rfl (.cons _ _ _ _ (.tmp 6 _ (by kernel_rfl)) (.cons _ _ _ _ (.tmp 7 _ (by kernel_rfl)) .nil)) (by kernel_rfl) (by kernel_rfl) (by kernel_rfl) (by kernel_rfl) (by decide) (by kernel_rfl) (by kernel_rfl)
                    · refine oCondF (by kernel_rfl) ?_
                      refine oSeq ?_
                      refine oRegion rfl ?_
                      refine oOp (.d (.int .i64 e116)) (by kernel_rfl) (by kernel_rfl) (PureV.does (p_move (by kernel_rfl))) ?_
                      refine oOp (.d (.bool (e116 == (-1)))) (by kernel_rfl) (by kernel_rfl) (PureV.does (p_int (k := .i64) (p := e116) (q := (-1)) (by kernel_rfl) (by kernel_rfl) (by kernel_rfl))) ?_
                      refine oOp (.d (.bool (e116 == (-1)))) (by kernel_rfl) (by kernel_rfl) (PureV.does (p_assign (by kernel_rfl))) ?_
                      refine oEnd ?_
                      refine bSplit 63 (by kernel_rfl) (fun hc => ?_) (fun hc => ?_)
                      · refine oCondT (by kernel_rfl) ?_
                        refine oRegion rfl ?_
                        refine oOp (.ref 1 (List.length xs11) 0 (List.length xs11)) (by kernel_rfl) (by kernel_rfl) (PureV.does (p_move (by kernel_rfl))) ?_
                        refine oOp (.ref 3 (List.length ([(-1)] : List Int)) 0 (List.length ([(-1)] : List Int))) (by kernel_rfl) (by kernel_rfl) (k_buildSlice (H' := [.box [.d (.lit (List.map e_Li64 s0)), .d (.lit (List.map e_i64 s1))], .sl 1 (List.map e_i64 xs11) false, .box [.d (.int .i64 e115.Kind), .d (.int .i64 e115.Max), .d (.int .i64 e115.Topic), .d (.int .i64 e115.Objective), .d (.int .i64 e115.Options), .d (.int .i64 e115.Key)], .sl 1 (List.map e_i64 ([(-1)] : List Int)) false]) (List.map e_i64 ([(-1)] : List Int)) Try.underlying22 ty3 (by kernel_rfl) (by kernel_rfl) (by kernel_rfl)) ?_
                        refine bCap (fun h163 => ?_)
                        refine oOp (.ref 1 (List.length (xs11 ++ ([(-1)] : List Int))) 0 (List.length (xs11 ++ ([(-1)] : List Int)))) (by kernel_rfl) (by kernel_rfl) (k_append (H' := [.box [.d (.lit (List.map e_Li64 s0)), .d (.lit (List.map e_i64 s1))], .sl 1 (List.map e_i64 (xs11 ++ ([(-1)] : List Int))) false, .box [.d (.int .i64 e115.Kind), .d (.int .i64 e115.Max), .d (.int .i64 e115.Topic), .d (.int .i64 e115.Objective), .d (.int .i64 e115.Options), .d (.int .i64 e115.Key)], .sl 1 (List.map e_i64 ([(-1)] : List Int)) false]) (enc := e_i64) 1 xs11 ([(-1)] : List Int) Try.underlying22 Try.underlying22 ty3 (by kernel_rfl) (by kernel_rfl) (by kernel_rfl) (holdsRef (enc := e_i64) 3 ([(-1)] : List Int) false (by kernel_rfl) (by kernel_rfl)) h163 (by kernel_rfl)) ?_
                        refine oOp (.ref 1 (List.length (xs11 ++ ([(-1)] : List Int))) 0 (List.length (xs11 ++ ([(-1)] : List Int)))) (by kernel_rfl) (by kernel_rfl) (PureV.does (p_assign (by kernel_rfl))) ?_
                        refine oEnd ?_
                        refine oBlk ?_
                        refine oBlk ?_
                        refine oHead [2, 4, 8, 25, 26, 27] [0, 1] (T' := [(2, .d (.lit (List.map e_i64 answers))), (4, .ptr 0 0), (8, .ref 1 (List.length (xs11 ++ ([(-1)] : List Int))) 0 (List.length (xs11 ++ ([(-1)] : List Int)))), (25, .d (.lit (List.map e_SPart p2))), (26, .d (.int .i64 ((List.length p2) : Int))), (27, .d (.int .i64 x19))]) (H' := [.box [.d (.lit (List.map e_Li64 s0)), .d (.lit (List.map e_i64 s1))], .sl 1 (List.map e_i64 (xs11 ++ ([(-1)] : List Int))) false]) (by kernel_rfl) (by kernel_rfl) (by kernel_rfl) (by kernel_rfl) (by decide) (by kernel_rfl) (by kernel_rfl) ?_
                        exact hj9 (xs11 ++ ([(-1)] : List Int))
                      · refine oCondF (by kernel_rfl) ?_
                        refine oSeq ?_
                        refine oDraw [(0, 9), (1, 9), (2, 9)] rfl ?_
                        refine aTakeL (i := 0) (st' := [2]) (.agg [.d (.int .i64 e115.Kind), .d (.int .i64 e115.Max), .d (.int .i64 e115.Topic), .d (.int .i64 e115.Objective), .d (.int .i64 e115.Options), .d (.int .i64 e115.Key)]) rfl (by kernel_rfl) (by kernel_rfl) (by kernel_rfl) (by kernel_rfl) (by kernel_rfl) (by kernel_rfl) (by kernel_rfl) (k_loadAgg 2 0 (by kernel_rfl) Try.underlying49 (by kernel_rfl) ty49 (by kernel_rfl)) ?_
                        refine aTakeL (i := 1) (st' := []) (.ptr 0 0) rfl (by kernel_rfl) (by kernel_rfl) (by kernel_rfl) (by kernel_rfl) (by kernel_rfl) (by kernel_rfl) (by kernel_rfl) (PureV.quiet (k_fieldAddr 0 0 (by kernel_rfl) Try.underlying31 rfl ty29 (by kernel_rfl)) []) ?_
                        refine aTakeL (i := 2) (st' := [0]) (.d (.lit (List.map e_Li64 s0))) rfl (by kernel_rfl) (by kernel_rfl) (by kernel_rfl) (by kernel_rfl) (by kernel_rfl) (by kernel_rfl) (by kernel_rfl) (k_load 0 0 (by kernel_rfl) Try.underlying29 (by kernel_rfl) (by kernel_rfl)) ?_
                        refine aTakeL (i := 3) (st' := []) (.d (.int .i64 x19)) rfl (by kernel_rfl) (by kernel_rfl) (by kernel_rfl) (by kernel_rfl) (by kernel_rfl) (by kernel_rfl) (by kernel_rfl) (PureV.quiet (p_move (by kernel_rfl)) []) ?_
                        refine dIdx (fun e12 h16 h17 => ?_)
                        refine aTakeL (i := 4) (st' := []) (.lptr (e_Li64 e12) 0) rfl (by kernel_rfl) (by kernel_rfl) (by kernel_rfl) (by kernel_rfl) (by kernel_rfl) (by kernel_rfl) (by kernel_rfl) (PureV.quiet (k_idxLit e_Li64_len s0 (a := e12) (by kernel_rfl) (k := .i64) (i := x19) (by kernel_rfl) Try.underlying29 ty22 h16 h17) []) ?_
                        refine aTakeL (i := 5) (st' := []) (.d (.lit (List.map e_i64 e12))) rfl (by kernel_rfl) (by kernel_rfl) (by kernel_rfl) (by kernel_rfl) (by kernel_rfl) (by kernel_rfl) (by kernel_rfl) (k_loadL (cells := e_Li64 e12) 0 (by kernel_rfl) Try.underlying22 (by kernel_rfl) (by kernel_rfl)) ?_
                        refine aTakeL (i := 6) (st' := []) (.d (.int .i64 e116)) rfl (by kernel_rfl) (by kernel_rfl) (by kernel_rfl) (by kernel_rfl) (by kernel_rfl) (by kernel_rfl) (by kernel_rfl) (PureV.quiet (p_move (by kernel_rfl)) []) ?_
                        refine dCall (i := 7) (caps := []) (v := (fun (r12 : Bool) => (.d (.bool r12) : V))) (H' := (fun (r12 : Bool) => ([.box [.d (.lit (List.map e_Li64 s0)), .d (.lit (List.map e_i64 s1))], .sl 1 (List.map e_i64 xs11) false, .box [.d (.int .i64 e115.Kind), .d (.int .i64 e115.Max), .d (.int .i64 e115.Topic), .d (.int .i64 e115.Objective), .d (.int .i64 e115.Options), .d (.int .i64 e115.Key)]] : List Blk))) [] _ (scheme_accepts_goes k e115.Kind e115.Max e115.Topic e115.Objective e115.Options e115.Key e12 e116) rfl (by kernel_rfl) (by kernel_rfl) (by kernel_rfl) (by kernel_rfl) (by kernel_rfl) (by kernel_rfl) (by kernel_rfl) (by kernel_rfl) rfl (by kernel_rfl) Try.func44 rfl (by kernel_rfl) (ConvRs.refl _ _) (by kernel_rfl) (by kernel_rfl) (by kernel_rfl) (by decide) (by kernel_rfl) (by kernel_rfl) (fun _ => (by kernel_rfl)) (fun _ => (by kernel_rfl)) (fun _ => (by kernel_rfl)) (fun r12 => ?_)
                        refine aTakeL (i := 8) (st' := []) (.d (.bool r12)) rfl (by kernel_rfl) (by kernel_rfl) (by kernel_rfl) (by kernel_rfl) (by kernel_rfl) (by kernel_rfl) (by kernel_rfl) (PureV.quiet (p_assign (by kernel_rfl)) []) ?_
                        refine aDone (by kernel_rfl) ?_
                        refine bSplit 69 (by kernel_rfl) (fun hc => ?_) (fun hc => ?_)
                        · refine oCondT (by kernel_rfl) ?_
                          refine oRegion rfl ?_
                          refine oOp (.ref 1 (List.length xs11) 0 (List.length xs11)) (by kernel_rfl) (by kernel_rfl) (PureV.does (p_move (by kernel_rfl))) ?_
                          refine oOp (.ptr 2 1) (by kernel_rfl) (by kernel_rfl) (PureV.does (k_fieldAddr 2 0 (by kernel_rfl) Try.underlying49 rfl ty3 (by kernel_rfl))) ?_
                          refine oOp (.d (.int .i64 e115.Max)) (by kernel_rfl) (by kernel_rfl) (Quiet.does (k_load 2 1 (by kernel_rfl) Try.underlying3 (by kernel_rfl) (by kernel_rfl))) ?_
                          refine oOp (.ref 3 (List.length ([e115.Max] : List Int)) 0 (List.length ([e115.Max] : List Int))) (by kernel_rfl) (by kernel_rfl) (k_buildSlice (H' := [.box [.d (.lit (List.map e_Li64 s0)), .d (.lit (List.map e_i64 s1))], .sl 1 (List.map e_i64 xs11) false, .box [.d (.int .i64 e115.Kind), .d (.int .i64 e115.Max), .d (.int .i64 e115.Topic), .d (.int .i64 e115.Objective), .d (.int .i64 e115.Options), .d (.int .i64 e115.Key)], .sl 1 (List.map e_i64 ([e115.Max] : List Int)) false]) (List.map e_i64 ([e115.Max] : List Int)) Try.underlying22 ty3 (by kernel_rfl) (by kernel_rfl) (by kernel_rfl)) ?_
                          refine bCap (fun h164 => ?_)
                          refine oOp (.ref 1 (List.length (xs11 ++ ([e115.Max] : List Int))) 0 (List.length (xs11 ++ ([e115.Max] : List Int)))) (by kernel_rfl) (by kernel_rfl) (k_append (H' := [.box [.d (.lit (List.map e_Li64 s0)), .d (.lit (List.map e_i64 s1))], .sl 1 (List.map e_i64 (xs11 ++ ([e115.Max] : List Int))) false, .box [.d (.int .i64 e115.Kind), .d (.int .i64 e115.Max), .d (.int .i64 e115.Topic), .d (.int .i64 e115.Objective), .d (.int .i64 e115.Options), .d (.int .i64 e115.Key)], .sl 1 (List.map e_i64 ([e115.Max] : List Int)) false]) (enc := e_i64) 1 xs11 ([e115.Max] : List Int) Try.underlying22 Try.underlying22 ty3 (by kernel_rfl) (by kernel_rfl) (by kernel_rfl) (holdsRef (enc := e_i64) 3 ([e115.Max] : List Int) false (by kernel_rfl) (by kernel_rfl)) h164 (by kernel_rfl)) ?_
                          refine oOp (.ref 1 (List.length (xs11 ++ ([e115.Max] : List Int))) 0 (List.length (xs11 ++ ([e115.Max] : List Int)))) (by kernel_rfl) (by kernel_rfl) (PureV.does (p_assign (by kernel_rfl))) ?_
                          refine oEnd ?_
                          refine oBlk ?_
                          refine oBlk ?_
                          refine oHead [2, 4, 8, 25, 26, 27] [0, 1] (T' := [(2, .d (.lit (List.map e_i64 answers))), (4, .ptr 0 0), (8, .ref 1 (List.length (xs11 ++ ([e115.Max] : List Int))) 0 (List.length (xs11 ++ ([e115.Max] : List Int)))), (25, .d (.lit (List.map e_SPart p2))), (26, .d (.int .i64 ((List.length p2) : Int))), (27, .d (.int .i64 x19))]) (H' := [.box [.d (.lit (List.map e_Li64 s0)), .d (.lit (List.map e_i64 s1))], .sl 1 (List.map e_i64 (xs11 ++ ([e115.Max] : List Int))) false]) (by kernel_rfl) (by kernel_rfl) (by kernel_rfl) (by kernel_rfl) (by decide) (by kernel_rfl) (by kernel_rfl) ?_
                          exact hj9 (xs11 ++ ([e115.Max] : List Int))
                        · refine oCondF (by kernel_rfl) ?_
                          refine oRegion rfl ?_
                          refine oOp (.ref 1 (List.length xs11) 0 (List.length xs11)) (by kernel_rfl) (by kernel_rfl) (PureV.does (p_move (by kernel_rfl))) ?_
                          refine oOp (.ref 3 (List.length ([0] : List Int)) 0 (List.length ([0] : List Int))) (by kernel_rfl) (by kernel_rfl) (k_buildSlice (H' := [.box [.d (.lit (List.map e_Li64 s0)), .d (.lit (List.map e_i64 s1))], .sl 1 (List.map e_i64 xs11) false, .box [.d (.int .i64 e115.Kind), .d (.int .i64 e115.Max), .d (.int .i64 e115.Topic), .d (.int .i64 e115.Objective), .d (.int .i64 e115.Options), .d (.int .i64 e115.Key)], .sl 1 (List.map e_i64 ([0] : List Int)) false]) (List.map e_i64 ([0] : List Int)) Try.underlying22 ty3 (by kernel_rfl) (by kernel_rfl) (by kernel_rfl)) ?_
                          refine bCap (fun h165 => ?_)
                          refine oOp (.ref 1 (List.length (xs11 ++ ([0] : List Int))) 0 (List.length (xs11 ++ ([0] : List Int)))) (by kernel_rfl) (by kernel_rfl) (k_append (H' := [.box [.d (.lit (List.map e_Li64 s0)), .d (.lit (List.map e_i64 s1))], .sl 1 (List.map e_i64 (xs11 ++ ([0] : List Int))) false, .box [.d (.int .i64 e115.Kind), .d (.int .i64 e115.Max), .d (.int .i64 e115.Topic), .d (.int .i64 e115.Objective), .d (.int .i64 e115.Options), .d (.int .i64 e115.Key)], .sl 1 (List.map e_i64 ([0] : List Int)) false]) (enc := e_i64) 1 xs11 ([0] : List Int) Try.underlying22 Try.underlying22 ty3 (by kernel_rfl) (by kernel_rfl) (by kernel_rfl) (holdsRef (enc := e_i64) 3 ([0] : List Int) false (by kernel_rfl) (by kernel_rfl)) h165 (by kernel_rfl)) ?_
                          refine oOp (.ref 1 (List.length (xs11 ++ ([0] : List Int))) 0 (List.length (xs11 ++ ([0] : List Int)))) (by kernel_rfl) (by kernel_rfl) (PureV.does (p_assign (by kernel_rfl))) ?_
                          refine oEnd ?_
                          refine oBlk ?_
                          refine oBlk ?_
                          refine oHead [2, 4, 8, 25, 26, 27] [0, 1] (T' := [(2, .d (.lit (List.map e_i64 answers))), (4, .ptr 0 0), (8, .ref 1 (List.length (xs11 ++ ([0] : List Int))) 0 (List.length (xs11 ++ ([0] : List Int)))), (25, .d (.lit (List.map e_SPart p2))), (26, .d (.int .i64 ((List.length p2) : Int))), (27, .d (.int .i64 x19))]) (H' := [.box [.d (.lit (List.map e_Li64 s0)), .d (.lit (List.map e_i64 s1))], .sl 1 (List.map e_i64 (xs11 ++ ([0] : List Int))) false]) (by kernel_rfl) (by kernel_rfl) (by kernel_rfl) (by kernel_rfl) (by decide) (by kernel_rfl) (by kernel_rfl) ?_
                          exact hj9 (xs11 ++ ([0] : List Int))
                  · refine bSplit 53 (by kernel_rfl) (fun hc => ?_) (fun hc => ?_)
                    · refine oOp (.d (.int .i64 e116)) (by kernel_rfl) (by kernel_rfl) (PureV.does (p_move (by kernel_rfl))) ?_
                      refine oOp (.d (.bool (decide (e116 < 0)))) (by kernel_rfl) (by kernel_rfl) (PureV.does (p_int (k := .i64) (p := e116) (q := 0) (by kernel_rfl) (by kernel_rfl) (by kernel_rfl))) ?_
                      refine oOp (.d (.bool (decide (e116 < 0)))) (by kernel_rfl) (by kernel_rfl) (PureV.does (p_move (by kernel_rfl))) ?_
                      refine bMeetF (H' := [.box [.d (.lit (List.map e_Li64 s0)), .d (.lit (List.map e_i64 s1))], .sl 1 (List.map e_i64 xs11) false, .box [.d (.int .i64 e115.Kind), .d (.int .i64 e115.Max), .d (.int .i64 e115.Topic), .d (.int .i64 e115.Objective), .d (.int .i64 e115.Options), .d (.int .i64 e115.Key)]]) 5 rfl ((fun (x30 : Bool) => [(2, .d (.lit (List.map e_i64 answers))), (4, .ptr 0 0), (8, .ref 1 (List.length xs11) 0 (List.length xs11)), (9, .d (.int .i64 x19)), (10, .ptr 2 0), (11, .d (.int .i64 e116)), (25, .d (.lit (List.map e_SPart p2))), (26, .d (.int .i64 ((List.length p2) : Int))), (27, .d (.int .i64 x19)), (53, .d (.bool true)), (61, .d (.bool x30))])) (fun x30 => ?_) (fun F hj12 => ?_)
                      · refine oView (T' := [(2, .d (.lit (List.map e_i64 answers))), (4, .ptr 0 0), (8, .ref 1 (List.length xs11) 0 (List.length xs11)), (9, .d (.int .i64 x19)), (10, .ptr 2 0), (11, .d (.int .i64 e116)), (25, .d (.lit (List.map e_SPart p2))), (26, .d (.int .i64 ((List.length p2) : Int))), (27, .d (.int .i64 x19)), (53, .d (.bool true)), (61, .d (.bool x30))]) (H' := [.box [.d (.lit (List.map e_Li64 s0)), .d (.lit (List.map e_i64 s1))], .sl 1 (List.map e_i64 xs11) false, .box [.d (.int .i64 e115.Kind), .d (.int .i64 e115.Max), .d (.int .i64 e115.Topic), .d (.int .i64 e115.Objective), .d (.int .i64 e115.Options), .d (.int .i64 e115.Key)]]) (by kernel_rfl) (by kernel_rfl) ?_
                        refine oOp (.d (.bool x30)) (by kernel_rfl) (by kernel_rfl) (PureV.does (p_pick (b := true) (by kernel_rfl) (by kernel_rfl))) ?_
                        refine oHead [2, 4, 8, 9, 10, 11, 25, 26, 27, 62] [0, 1, 2] (T' := [(2, .d (.lit (List.map e_i64 answers))), (4, .ptr 0 0), (8, .ref 1 (List.length xs11) 0 (List.length xs11)), (9, .d (.int .i64 x19)), (10, .ptr 2 0), (11, .d (.int .i64 e116)), (25, .d (.lit (List.map e_SPart p2))), (26, .d (.int .i64 ((List.length p2) : Int))), (27, .d (.int .i64 x19)), (62, .d (.bool x30))]) (H' := [.box [.d (.lit (List.map e_Li64 s0)), .d (.lit (List.map e_i64 s1))], .sl 1 (List.map e_i64 xs11) false, .box [.d (.int .i64 e115.Kind), .d (.int .i64 e115.Max), .d (.int .i64 e115.Topic), .d (.int .i64 e115.Objective), .d (.int .i64 e115.Options), .d (.int .i64 e115.Key)]]) (by kernel_rfl) (by kernel_rfl) (by kernel_rfl) (by kernel_rfl) (by decide) (by kernel_rfl) (by kernel_rfl) ?_
                        exact hj11 x30
                      · refine bPickF 56 (fun c => F (c || (decide (e116 ≥ e115.Options)))) (by kernel_rfl) (fun hc => ?_) (fun hc => ?_)
                        · refine oNot (by kernel_rfl) (by kernel_rfl) ?_
                          refine oNot (by kernel_rfl) (by kernel_rfl) ?_
                          refine oNot (by kernel_rfl) (by kernel_rfl) ?_
                          refine oNot (by kernel_rfl) (by kernel_rfl) ?_
                          refine oOp (.d (.bool true)) (by kernel_rfl) (by kernel_rfl) (PureV.does (p_pick (b := true) (by kernel_rfl) (by kernel_rfl))) ?_
                          refine oHead [2, 4, 8, 9, 10, 11, 25, 26, 27, 53, 61] [0, 1, 2] (T' := [(2, .d (.lit (List.map e_i64 answers))), (4, .ptr 0 0), (8, .ref 1 (List.length xs11) 0 (List.length xs11)), (9, .d (.int .i64 x19)), (10, .ptr 2 0), (11, .d (.int .i64 e116)), (25, .d (.lit (List.map e_SPart p2))), (26, .d (.int .i64 ((List.length p2) : Int))), (27, .d (.int .i64 x19)), (53, .d (.bool true)), (61, .d (.bool true))]) (H' := [.box [.d (.lit (List.map e_Li64 s0)), .d (.lit (List.map e_i64 s1))], .sl 1 (List.map e_i64 xs11) false, .box [.d (.int .i64 e115.Kind), .d (.int .i64 e115.Max), .d (.int .i64 e115.Topic), .d (.int .i64 e115.Objective), .d (.int .i64 e115.Options), .d (.int .i64 e115.Key)]]) (by kernel_rfl) (by kernel_rfl) (by kernel_rfl) (by kernel_rfl) (by decide) (by kernel_rfl) (by kernel_rfl) ?_
                          exact hj12 true
                        · refine oOp (.d (.int .i64 e116)) (by kernel_rfl) (by kernel_rfl) (PureV.does (p_move (by kernel_rfl))) ?_
                          refine oOp (.ptr 2 4) (by kernel_rfl) (by kernel_rfl) (PureV.does (k_fieldAddr 2 0 (by kernel_rfl) Try.underlying49 rfl ty3 (by kernel_rfl))) ?_
                          refine oOp (.d (.int .i64 e115.Options)) (by kernel_rfl) (by kernel_rfl) (Quiet.does (k_load 2 4 (by kernel_rfl) Try.underlying3 (by kernel_rfl) (by kernel_rfl))) ?_
                          refine oOp (.d (.bool (decide (e116 ≥ e115.Options)))) (by kernel_rfl) (by kernel_rfl) (PureV.does (p_int (k := .i64) (p := e116) (q := e115.Options) (by kernel_rfl) (by kernel_rfl) (by kernel_rfl))) ?_
                          refine oOp (.d (.bool (decide (e116 ≥ e115.Options)))) (by kernel_rfl) (by kernel_rfl) (PureV.does (p_pick (b := false) (by kernel_rfl) (by kernel_rfl))) ?_
                          refine oHead [2, 4, 8, 9, 10, 11, 25, 26, 27, 53, 61] [0, 1, 2] (T' := [(2, .d (.lit (List.map e_i64 answers))), (4, .ptr 0 0), (8, .ref 1 (List.length xs11) 0 (List.length xs11)), (9, .d (.int .i64 x19)), (10, .ptr 2 0), (11, .d (.int .i64 e116)), (25, .d (.lit (List.map e_SPart p2))), (26, .d (.int .i64 ((List.length p2) : Int))), (27, .d (.int .i64 x19)), (53, .d (.bool true)), (61, .d (.bool (decide (e116 ≥ e115.Options))))]) (H' := [.box [.d (.lit (List.map e_Li64 s0)), .d (.lit (List.map e_i64 s1))], .sl 1 (List.map e_i64 xs11) false, .box [.d (.int .i64 e115.Kind), .d (.int .i64 e115.Max), .d (.int .i64 e115.Topic), .d (.int .i64 e115.Objective), .d (.int .i64 e115.Options), .d (.int .i64 e115.Key)]]) (by kernel_rfl) (by kernel_rfl) (by kernel_rfl) (by kernel_rfl) (by decide) (by kernel_rfl) (by kernel_rfl) ?_
                          exact hj12 (decide (e116 ≥ e115.Options))
                    · refine oNot (by kernel_rfl) (by kernel_rfl) ?_
                      refine oNot (by kernel_rfl) (by kernel_rfl) ?_
                      refine oNot (by kernel_rfl) (by kernel_rfl) ?_
                      refine oNot (by kernel_rfl) (by kernel_rfl) ?_
                      refine oNot (by kernel_rfl) (by kernel_rfl) ?_
                      refine oNot (by kernel_rfl) (by kernel_rfl) ?_
                      refine oNot (by kernel_rfl) (by kernel_rfl) ?_
                      refine oNot (by kernel_rfl) (by kernel_rfl) ?_
                      refine oOp (.d (.bool false)) (by kernel_rfl) (by kernel_rfl) (PureV.does (p_pick (b := false) (by kernel_rfl) (by kernel_rfl))) ?_
                      refine oHead [2, 4, 8, 9, 10, 11, 25, 26, 27, 62] [0, 1, 2] (T' := [(2, .d (.lit (List.map e_i64 answers))), (4, .ptr 0 0), (8, .ref 1 (List.length xs11) 0 (List.length xs11)), (9, .d (.int .i64 x19)), (10, .ptr 2 0), (11, .d (.int .i64 e116)), (25, .d (.lit (List.map e_SPart p2))), (26, .d (.int .i64 ((List.length p2) : Int))), (27, .d (.int .i64 x19)), (62, .d (.bool false))]) (H' := [.box [.d (.lit (List.map e_Li64 s0)), .d (.lit (List.map e_i64 s1))], .sl 1 (List.map e_i64 xs11) false, .box [.d (.int .i64 e115.Kind), .d (.int .i64 e115.Max), .d (.int .i64 e115.Topic), .d (.int .i64 e115.Objective), .d (.int .i64 e115.Options), .d (.int .i64 e115.Key)]]) (by kernel_rfl) (by kernel_rfl) (by kernel_rfl) (by kernel_rfl) (by decide) (by kernel_rfl) (by kernel_rfl) ?_
                      exact hj11 false
                · refine bPickF 49 (fun c => F (c && (e116 != (-1)))) (by kernel_rfl) (fun hc => ?_) (fun hc => ?_)
                  · refine oOp (.d (.int .i64 e116)) (by kernel_rfl) (by kernel_rfl) (PureV.does (p_move (by kernel_rfl))) ?_
                    refine oOp (.d (.bool (e116 != (-1)))) (by kernel_rfl) (by kernel_rfl) (PureV.does (p_int (k := .i64) (p := e116) (q := (-1)) (by kernel_rfl) (by kernel_rfl) (by kernel_rfl))) ?_
                    refine oOp (.d (.bool (e116 != (-1)))) (by kernel_rfl) (by kernel_rfl) (PureV.does (p_pick (b := true) (by kernel_rfl) (by kernel_rfl))) ?_
                    refine oHead [2, 4, 8, 9, 10, 11, 25, 26, 27, 52] [0, 1, 2] (T' := [(2, .d (.lit (List.map e_i64 answers))), (4, .ptr 0 0), (8, .ref 1 (List.length xs11) 0 (List.length xs11)), (9, .d (.int .i64 x19)), (10, .ptr 2 0), (11, .d (.int .i64 e116)), (25, .d (.lit (List.map e_SPart p2))), (26, .d (.int .i64 ((List.length p2) : Int))), (27, .d (.int .i64 x19)), (52, .d (.bool (e116 != (-1))))]) (H' := [.box [.d (.lit (List.map e_Li64 s0)), .d (.lit (List.map e_i64 s1))], .sl 1 (List.map e_i64 xs11) false, .box [.d (.int .i64 e115.Kind), .d (.int .i64 e115.Max), .d (.int .i64 e115.Topic), .d (.int .i64 e115.Objective), .d (.int .i64 e115.Options), .d (.int .i64 e115.Key)]]) (by kernel_rfl) (by kernel_rfl) (by kernel_rfl) (by kernel_rfl) (by decide) (by kernel_rfl) (by kernel_rfl) ?_
                    exact hj10 (e116 != (-1))
                  · refine oNot (by kernel_rfl) (by kernel_rfl) ?_
                    refine oNot (by kernel_rfl) (by kernel_rfl) ?_
                    refine oOp (.d (.bool false)) (by kernel_rfl) (by kernel_rfl) (PureV.does (p_pick (b := false) (by kernel_rfl) (by kernel_rfl))) ?_
                    refine oHead [2, 4, 8, 9, 10, 11, 25, 26, 27, 52] [0, 1, 2] (T' := [(2, .d (.lit (List.map e_i64 answers))), (4, .ptr 0 0), (8, .ref 1 (List.length xs11) 0 (List.length xs11)), (9, .d (.int .i64 x19)), (10, .ptr 2 0), (11, .d (.int .i64 e116)), (25, .d (.lit (List.map e_SPart p2))), (26, .d (.int .i64 ((List.length p2) : Int))), (27, .d (.int .i64 x19)), (52, .d (.bool false))]) (H' := [.box [.d (.lit (List.map e_Li64 s0)), .d (.lit (List.map e_i64 s1))], .sl 1 (List.map e_i64 xs11) false, .box [.d (.int .i64 e115.Kind), .d (.int .i64 e115.Max), .d (.int .i64 e115.Topic), .d (.int .i64 e115.Objective), .d (.int .i64 e115.Options), .d (.int .i64 e115.Key)]]) (by kernel_rfl) (by kernel_rfl) (by kernel_rfl) (by kernel_rfl) (by decide) (by kernel_rfl) (by kernel_rfl) ?_
                    exact hj10 false
          · refine oCondF (by kernel_rfl) ?_
            refine oExit rfl ?_
            refine oHead [8] [1] (T' := [(8, .ref 0 (List.length xs11) 0 (List.length xs11))]) (H' := [.sl 1 (List.map e_i64 xs11) false]) (by kernel_rfl) (by kernel_rfl) (by kernel_rfl) (by kernel_rfl) (by decide) (by kernel_rfl) (by kernel_rfl) ?_
            exact hj6 xs11

end Go.VM
