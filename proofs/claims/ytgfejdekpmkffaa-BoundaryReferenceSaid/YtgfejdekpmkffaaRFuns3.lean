/- Plain functions that answer as the program's functions do, and the proof that they do. -/
import Derived.Test.YtgfejdekpmkffaaProg
import Derived.KernelRfl
import Derived.Test.YtgfejdekpmkffaaEngW
import Derived.Test.YtgfejdekpmkffaaRFacts
import Derived.Test.YtgfejdekpmkffaaRFuns2
namespace Go.VM
open Go.Proofs
set_option linter.unusedVariables false
set_option linter.unusedSimpArgs false
set_option maxRecDepth 100000
/-- awardingbody/awardingbodylaw35.same -/
def law35_same_b1 (k : Nat) (a : (List Int)) (b : (List Int)) (again : Int → Option ((Unit) ⊕ (Bool))) : Int → Option ((Unit) ⊕ (Bool)) := fun x4 => bif (decide (x4 < ((List.length a) : Int))) then gidx a x4 fun e1 => gidx b x4 fun e11 => bif (e1 != e11) then some (Sum.inr false) else again (IntKind.wrap .i64 (x4 + 1)) else some (Sum.inl ())
def law35_same (k : Nat) (a : (List Int)) (b : (List Int)) : Option (Bool) := bif (((List.length a) : Int) != ((List.length b) : Int)) then some false else Option.bind (gloop (law35_same_b1 k a b) k 0 : Option ((Unit) ⊕ (Bool))) (Sum.elim (u0 (some true)) (fun r => some r))
def law35_same_E (a : (List Int)) (b : (List Int)) : Bool → V × List Blk := fun r1 => (.d (.bool r1), [])
theorem law35_same_goes (k : Nat) (a : (List Int)) (b : (List Int)) : RunsO Try.prog 14 [.d (.lit (List.map e_i64 a)), .d (.lit (List.map e_i64 b))] [] (law35_same_E a b) (law35_same k a b) := by
  refine RunsO.of_goes (N := 26) (m := 0) (T := [(0, .d (.lit (List.map e_i64 a))), (1, .d (.lit (List.map e_i64 b)))]) Try.func14 rfl rfl (by kernel_rfl) (by kernel_rfl) (by kernel_rfl) ?_
  unfold law35_same
  refine bStart ?_
  refine oSeq ?_
  refine oRegion rfl ?_
  refine oOp (.d (.bool false)) (by kernel_rfl) (by kernel_rfl) (PureV.does (p_assign (by kernel_rfl))) ?_
  refine oEnd ?_
  refine oSeq ?_
  refine oSeq ?_
  refine oRegion rfl ?_
  refine oOp (.d (.lit (List.map e_i64 a))) (by kernel_rfl) (by kernel_rfl) (PureV.does (p_move (by kernel_rfl))) ?_
  refine oOp (.d (.int .i64 ((List.length a) : Int))) (by kernel_rfl) (by kernel_rfl) (PureV.does (k_lenLit (enc := e_i64) a (by kernel_rfl) Try.underlying22)) ?_
  refine oOp (.d (.lit (List.map e_i64 b))) (by kernel_rfl) (by kernel_rfl) (PureV.does (p_move (by kernel_rfl))) ?_
  refine oOp (.d (.int .i64 ((List.length b) : Int))) (by kernel_rfl) (by kernel_rfl) (PureV.does (k_lenLit (enc := e_i64) b (by kernel_rfl) Try.underlying22)) ?_
  refine oOp (.d (.bool (((List.length a) : Int) != ((List.length b) : Int)))) (by kernel_rfl) (by kernel_rfl) (PureV.does (p_int (k := .i64) (p := ((List.length a) : Int)) (q := ((List.length b) : Int)) (by kernel_rfl) (by kernel_rfl) (by kernel_rfl))) ?_
  refine oEnd ?_
  refine bSplit 10 (by kernel_rfl) (fun hc => ?_) (fun hc => ?_)
  · refine oCondT (by kernel_rfl) ?_
    refine oSeq ?_
    refine oRegion rfl ?_
    refine oOp (.d (.bool false)) (by kernel_rfl) (by kernel_rfl) (PureV.does (p_assign (by kernel_rfl))) ?_
    refine oEnd ?_
    exact oRet (r0 := false) (rv := .d (.bool false)) (B := []) (vs := [.d (.bool false)]) (σ := []) (by kernel_rfl) Try.func14 rfl (.cons _ _ _ _ (.tmp 4 _ (by kernel_rfl)) .nil) (by kernel_rfl) (by kernel_rfl) (by kernel_rfl) (by kernel_rfl) (by decide) (by kernel_rfl) (by kernel_rfl)
  · refine oCondF (by kernel_rfl) ?_
    refine oSkip ?_
    refine oSeq ?_
    refine oSeq ?_
    refine oRegion rfl ?_
    refine oOp (.d (.lit (List.map e_i64 a))) (by kernel_rfl) (by kernel_rfl) (PureV.does (p_move (by kernel_rfl))) ?_
    refine oOp (.d (.int .i64 ((List.length a) : Int))) (by kernel_rfl) (by kernel_rfl) (PureV.does (k_lenLit (enc := e_i64) a (by kernel_rfl) Try.underlying22)) ?_
    refine oOp (.d (.int .i64 0)) (by kernel_rfl) (by kernel_rfl) (PureV.does (p_move (by kernel_rfl))) ?_
    refine oEnd ?_
    refine bJoin ((u0 ([]))) ((u0 ([]))) Sum.inl (fun s => ?_) (fun hj2 => ?_)
    · cases s
      refine bInl ?_
      refine bU0 ?_
      refine oView (T' := []) (H' := []) (by kernel_rfl) (by kernel_rfl) ?_
      refine oSeq ?_
      refine oRegion rfl ?_
      refine oOp (.d (.bool true)) (by kernel_rfl) (by kernel_rfl) (PureV.does (p_assign (by kernel_rfl))) ?_
      refine oEnd ?_
      exact oRet (r0 := true) (rv := .d (.bool true)) (B := []) (vs := [.d (.bool true)]) (σ := []) (by kernel_rfl) Try.func14 rfl (.cons _ _ _ _ (.tmp 4 _ (by kernel_rfl)) .nil) (by kernel_rfl) (by kernel_rfl) (by kernel_rfl) (by kernel_rfl) (by decide) (by kernel_rfl) (by kernel_rfl)
    · refine oBlock ?_
      refine oLoop ?_
      refine oHead [0, 1, 12, 13] [] (T' := [(0, .d (.lit (List.map e_i64 a))), (1, .d (.lit (List.map e_i64 b))), (12, .d (.int .i64 ((List.length a) : Int))), (13, .d (.int .i64 0))]) (H' := []) (by kernel_rfl) (by kernel_rfl) (by kernel_rfl) (by kernel_rfl) (by decide) (by kernel_rfl) (by kernel_rfl) ?_
      refine bLoop (body := law35_same_b1 k a b) ((fun (x4 : Int) => [(0, .d (.lit (List.map e_i64 a))), (1, .d (.lit (List.map e_i64 b))), (12, .d (.int .i64 ((List.length a) : Int))), (13, .d (.int .i64 x4))])) ((fun (x4 : Int) => [])) (fun again hag1 x4 => ?_) k 0
      · unfold law35_same_b1
        refine oView (T' := [(0, .d (.lit (List.map e_i64 a))), (1, .d (.lit (List.map e_i64 b))), (12, .d (.int .i64 ((List.length a) : Int))), (13, .d (.int .i64 x4))]) (H' := []) (by kernel_rfl) (by kernel_rfl) ?_
        refine oSeq ?_
        refine oRegion rfl ?_
        refine oOp (.d (.bool (decide (x4 < ((List.length a) : Int))))) (by kernel_rfl) (by kernel_rfl) (PureV.does (p_int (k := .i64) (p := x4) (q := ((List.length a) : Int)) (by kernel_rfl) (by kernel_rfl) (by kernel_rfl))) ?_
        refine oEnd ?_
        refine oSeq ?_
        refine bSplit 14 (by kernel_rfl) (fun hc => ?_) (fun hc => ?_)
        · refine oCondT (by kernel_rfl) ?_
          refine oSkip ?_
          refine oSeq ?_
          refine oBlock ?_
          refine oSeq ?_
          refine oRegion rfl ?_
          refine oOp (.d (.int .i64 x4)) (by kernel_rfl) (by kernel_rfl) (PureV.does (p_move (by kernel_rfl))) ?_
          refine oOp (.d (.int .i64 x4)) (by kernel_rfl) (by kernel_rfl) (PureV.does (p_assign (by kernel_rfl))) ?_
          refine oEnd ?_
          refine oSeq ?_
          refine oDraw [] rfl ?_
          refine aTakeL (i := 0) (st' := []) (.d (.lit (List.map e_i64 a))) rfl (by kernel_rfl) (by kernel_rfl) (by kernel_rfl) (by kernel_rfl) (by kernel_rfl) (by kernel_rfl) (by kernel_rfl) (PureV.quiet (p_move (by kernel_rfl)) []) ?_
          refine aTakeL (i := 1) (st' := []) (.d (.int .i64 x4)) rfl (by kernel_rfl) (by kernel_rfl) (by kernel_rfl) (by kernel_rfl) (by kernel_rfl) (by kernel_rfl) (by kernel_rfl) (PureV.quiet (p_move (by kernel_rfl)) []) ?_
          refine dIdx (fun e1 h1 h11 => ?_)
          refine aTakeL (i := 2) (st' := []) (.lptr (e_i64 e1) 0) rfl (by kernel_rfl) (by kernel_rfl) (by kernel_rfl) (by kernel_rfl) (by kernel_rfl) (by kernel_rfl) (by kernel_rfl) (PureV.quiet (k_idxLit e_i64_len a (a := e1) (by kernel_rfl) (k := .i64) (i := x4) (by kernel_rfl) Try.underlying22 ty3 h1 h11) []) ?_
          refine aTakeL (i := 3) (st' := []) (.d (.int .i64 e1)) rfl (by kernel_rfl) (by kernel_rfl) (by kernel_rfl) (by kernel_rfl) (by kernel_rfl) (by kernel_rfl) (by kernel_rfl) (k_loadL (cells := e_i64 e1) 0 (by kernel_rfl) Try.underlying3 (by kernel_rfl) (by kernel_rfl)) ?_
          refine aTakeL (i := 4) (st' := []) (.d (.lit (List.map e_i64 b))) rfl (by kernel_rfl) (by kernel_rfl) (by kernel_rfl) (by kernel_rfl) (by kernel_rfl) (by kernel_rfl) (by kernel_rfl) (PureV.quiet (p_move (by kernel_rfl)) []) ?_
          refine aTakeL (i := 5) (st' := []) (.d (.int .i64 x4)) rfl (by kernel_rfl) (by kernel_rfl) (by kernel_rfl) (by kernel_rfl) (by kernel_rfl) (by kernel_rfl) (by kernel_rfl) (PureV.quiet (p_move (by kernel_rfl)) []) ?_
          refine dIdx (fun e11 h12 h13 => ?_)
          refine aTakeL (i := 6) (st' := []) (.lptr (e_i64 e11) 0) rfl (by kernel_rfl) (by kernel_rfl) (by kernel_rfl) (by kernel_rfl) (by kernel_rfl) (by kernel_rfl) (by kernel_rfl) (PureV.quiet (k_idxLit e_i64_len b (a := e11) (by kernel_rfl) (k := .i64) (i := x4) (by kernel_rfl) Try.underlying22 ty3 h12 h13) []) ?_
          refine aTakeL (i := 7) (st' := []) (.d (.int .i64 e11)) rfl (by kernel_rfl) (by kernel_rfl) (by kernel_rfl) (by kernel_rfl) (by kernel_rfl) (by kernel_rfl) (by kernel_rfl) (k_loadL (cells := e_i64 e11) 0 (by kernel_rfl) Try.underlying3 (by kernel_rfl) (by kernel_rfl)) ?_
          refine aTakeL (i := 8) (st' := []) (.d (.bool (e1 != e11))) rfl (by kernel_rfl) (by kernel_rfl) (by kernel_rfl) (by kernel_rfl) (by kernel_rfl) (by kernel_rfl) (by kernel_rfl) (PureV.quiet (p_int (k := .i64) (p := e1) (q := e11) (by kernel_rfl) (by kernel_rfl) (by kernel_rfl)) []) ?_
          refine aDone (by kernel_rfl) ?_
          refine bSplit 24 (by kernel_rfl) (fun hc => ?_) (fun hc => ?_)
          · refine oCondT (by kernel_rfl) ?_
            refine oSeq ?_
            refine oRegion rfl ?_
            refine oOp (.d (.bool false)) (by kernel_rfl) (by kernel_rfl) (PureV.does (p_assign (by kernel_rfl))) ?_
            refine oEnd ?_
            exact oRet (r0 := false) (rv := .d (.bool false)) (B := []) (vs := [.d (.bool false)]) (σ := []) (by kernel_rfl) Try.func14 rfl (.cons _ _ _ _ (.tmp 4 _ (by kernel_rfl)) .nil) (by kernel_rfl) (by kernel_rfl) (by kernel_rfl) (by kernel_rfl) (by decide) (by kernel_rfl) (by kernel_rfl)
          · refine oCondF (by kernel_rfl) ?_
            refine oSkip ?_
            refine oBlk ?_
            refine oRegion rfl ?_
            refine oOp (.d (.int .i64 (IntKind.wrap .i64 (x4 + 1)))) (by kernel_rfl) (by kernel_rfl) (PureV.does (p_int (k := .i64) (p := x4) (q := 1) (by kernel_rfl) (by kernel_rfl) (by kernel_rfl))) ?_
            refine oOp (.d (.int .i64 (IntKind.wrap .i64 (x4 + 1)))) (by kernel_rfl) (by kernel_rfl) (PureV.does (p_move (by kernel_rfl))) ?_
            refine oEnd ?_
            refine oAgain ?_
            refine oHead [0, 1, 12, 13] [] (T' := [(0, .d (.lit (List.map e_i64 a))), (1, .d (.lit (List.map e_i64 b))), (12, .d (.int .i64 ((List.length a) : Int))), (13, .d (.int .i64 (IntKind.wrap .i64 (x4 + 1))))]) (H' := []) (by kernel_rfl) (by kernel_rfl) (by kernel_rfl) (by kernel_rfl) (by decide) (by kernel_rfl) (by kernel_rfl) ?_
            exact hag1 (IntKind.wrap .i64 (x4 + 1))
        · refine oCondF (by kernel_rfl) ?_
          refine oExit rfl ?_
          refine oHead [] [] (T' := []) (H' := []) (by kernel_rfl) (by kernel_rfl) (by kernel_rfl) (by kernel_rfl) (by decide) (by kernel_rfl) (by kernel_rfl) ?_
          exact hj2 ()

/-- awardingbody/awardingbodylaw35.sane -/
def law35_sane (k : Nat) : Option (Bool) := Option.bind (boundary_Share k ([1, 1, 1, 1] : List Int) 1 2) (uc fun r192 => fun r1102 => Option.bind (boundary_Share k ([1, 1, 1, 1] : List Int) 0 1) (uc fun r193 => fun r1103 => Option.bind (boundary_Interpolate k 70 40 4) (uc fun r121 => fun r132 => Option.bind (boundary_Tally k ([1, 1, 1, 1] : List Int) ([3, 1] : List Int)) (uc fun r111 => fun r141 => blet ((r1102 == 0) && (r1103 == 0)) fun x9 => blet (x9 && (r132 == 0)) fun x10 => blet (x10 && (r141 == 0)) fun x11 => blet (x11 && (r192 == 2)) fun x12 => blet (x12 && (r193 == 4)) fun x13 => Option.bind (bif x13 then Option.bind (law35_same k r121 ([70, 62, 55, 47, 40] : List Int)) (fun r116 => some r116) else some false : Option (Bool)) (fun x14 => Option.bind (bif x14 then Option.bind (law35_same k r111 ([1, 2, 1] : List Int)) (fun r115 => some r115) else some false : Option (Bool)) (fun x15 => Option.bind (bif x15 then Option.bind (boundary_Grade k ([3, 1] : List Int) 2) (fun r114 => some (r114 == 1)) else some false : Option (Bool)) (fun x16 => Option.bind (bif x16 then Option.bind (boundary_Check k ([3, 1] : List Int) 3) (fun r134 => some (r134 == 0)) else some false : Option (Bool)) (fun x17 => some x17))))))))
def law35_sane_E : Bool → V × List Blk := fun r17 => (.d (.bool r17), [])
theorem law35_sane_goes (k : Nat) : RunsO Try.prog 8 [] [] (law35_sane_E) (law35_sane k) := by
  refine RunsO.of_goes (N := 76) (m := 0) (T := []) Try.func8 rfl rfl (by kernel_rfl) (by kernel_rfl) (by kernel_rfl) ?_
  unfold law35_sane
  refine bStart ?_
  refine oSeq ?_
  refine oRegion rfl ?_
  refine oOp (.d (.bool false)) (by kernel_rfl) (by kernel_rfl) (PureV.does (p_assign (by kernel_rfl))) ?_
  refine oEnd ?_
  refine oSeq ?_
  refine oRegion rfl ?_
  refine oOp (.ref 0 (List.length ([1, 1, 1, 1] : List Int)) 0 (List.length ([1, 1, 1, 1] : List Int))) (by kernel_rfl) (by kernel_rfl) (k_buildSlice (H' := [.sl 1 (List.map e_i64 ([1, 1, 1, 1] : List Int)) false]) (List.map e_i64 ([1, 1, 1, 1] : List Int)) Try.underlying22 ty3 (by kernel_rfl) (by kernel_rfl) (by kernel_rfl)) ?_
  refine oOp (.agg [.ref 0 (List.length ([1, 1, 1, 1] : List Int)) 0 (List.length ([1, 1, 1, 1] : List Int))]) (by kernel_rfl) (by kernel_rfl) (PureV.does (p_build bld28 (by kernel_rfl))) ?_
  refine oOp (.ptr 1 0) (by kernel_rfl) (by kernel_rfl) (k_alloc (H' := [.sl 1 (List.map e_i64 ([1, 1, 1, 1] : List Int)) false, .box [.nilc]]) ty28 (by kernel_rfl) (by kernel_rfl)) ?_
  refine oOp (.undef) (by kernel_rfl) (by kernel_rfl) (k_store (vs := [.ref 0 (List.length ([1, 1, 1, 1] : List Int)) 0 (List.length ([1, 1, 1, 1] : List Int))]) (H' := [.sl 1 (List.map e_i64 ([1, 1, 1, 1] : List Int)) false, .box [.ref 0 (List.length ([1, 1, 1, 1] : List Int)) 0 (List.length ([1, 1, 1, 1] : List Int))]]) 1 0 (by kernel_rfl) ty28 (by kernel_rfl) (by kernel_rfl) (by kernel_rfl)) ?_
  refine oEnd ?_
  refine oSeq ?_
  refine oRegion rfl ?_
  refine oOp (.agg [.ref 0 (List.length ([1, 1, 1, 1] : List Int)) 0 (List.length ([1, 1, 1, 1] : List Int))]) (by kernel_rfl) (by kernel_rfl) (Quiet.does (k_loadAgg 1 0 (by kernel_rfl) Try.underlying28 (by kernel_rfl) ty28 (by kernel_rfl))) ?_
  refine oOp (.agg [.d (.int .i64 1), .d (.int .i64 2)]) (by kernel_rfl) (by kernel_rfl) (PureV.does (p_build bld40 (by kernel_rfl))) ?_
  refine oFreeze 0 (esz := 1) (xs := List.map e_i64 ([1, 1, 1, 1] : List Int)) (by kernel_rfl) ?_
  refine oView (H' := [.sl 1 (List.map e_i64 ([1, 1, 1, 1] : List Int)) true, .box [.ref 0 (List.length ([1, 1, 1, 1] : List Int)) 0 (List.length ([1, 1, 1, 1] : List Int))]]) rfl (by kernel_rfl) ?_
  refine bCall (caps := []) (v := (uc fun (r192 : Int) => (fun (r1102 : Int) => (.tuple [.d (.int .i64 r192), .d (.int .i64 r1102)] : V)))) (H' := (uc fun (r192 : Int) => (fun (r1102 : Int) => ([.sl 1 (List.map e_i64 ([1, 1, 1, 1] : List Int)) true, .box [.ref 0 (List.length ([1, 1, 1, 1] : List Int)) 0 (List.length ([1, 1, 1, 1] : List Int))]] : List Blk)))) [] _ (boundary_Share_goes k ([1, 1, 1, 1] : List Int) 1 2) (by kernel_rfl) (by kernel_rfl) rfl (by kernel_rfl) Try.func18 rfl (by kernel_rfl) (convList (vs0 := [.agg [.ref 0 (List.length ([1, 1, 1, 1] : List Int)) 0 (List.length ([1, 1, 1, 1] : List Int))], .agg [.d (.int .i64 1), .d (.int .i64 2)]]) (vs := [.agg [.d (.lit (List.map e_i64 ([1, 1, 1, 1] : List Int)))], .agg [.d (.int .i64 1), .d (.int .i64 2)]]) (by kernel_rfl) (.cons _ _ _ _ (.agg _ _ (.cons _ _ _ _ (k_lit (enc := e_i64) (sz := 1) 0 ([1, 1, 1, 1] : List Int) (by kernel_rfl)) .nil)) (.cons _ _ _ _ (.same _) .nil))) (by kernel_rfl) (by kernel_rfl) (by kernel_rfl) (by decide) (by kernel_rfl) (by kernel_rfl) (fun _ => (by kernel_rfl)) (fun _ => (by kernel_rfl)) (fun _ => (by kernel_rfl)) (fun r => ?_)
  obtain ⟨r192, r1102⟩ := r
  refine bUc ?_
  refine oOp (.tuple [.d (.int .i64 r192), .d (.int .i64 r1102)]) (by kernel_rfl) (by kernel_rfl) (PureV.does (p_move (by kernel_rfl))) ?_
  refine oOp (.d (.int .i64 r192)) (by kernel_rfl) (by kernel_rfl) (PureV.does (k_extract (by kernel_rfl))) ?_
  refine oOp (.d (.int .i64 r1102)) (by kernel_rfl) (by kernel_rfl) (PureV.does (k_extract (by kernel_rfl))) ?_
  refine oOp (.d (.int .i64 r192)) (by kernel_rfl) (by kernel_rfl) (PureV.does (p_assign (by kernel_rfl))) ?_
  refine oOp (.d (.int .i64 r1102)) (by kernel_rfl) (by kernel_rfl) (PureV.does (p_assign (by kernel_rfl))) ?_
  refine oEnd ?_
  refine oSeq ?_
  refine oRegion rfl ?_
  refine oOp (.agg [.ref 0 (List.length ([1, 1, 1, 1] : List Int)) 0 (List.length ([1, 1, 1, 1] : List Int))]) (by kernel_rfl) (by kernel_rfl) (Quiet.does (k_loadAgg 1 0 (by kernel_rfl) Try.underlying28 (by kernel_rfl) ty28 (by kernel_rfl))) ?_
  refine oOp (.agg [.d (.int .i64 0), .d (.int .i64 1)]) (by kernel_rfl) (by kernel_rfl) (PureV.does (p_build bld40 (by kernel_rfl))) ?_
  refine bCall (caps := []) (v := (uc fun (r193 : Int) => (fun (r1103 : Int) => (.tuple [.d (.int .i64 r193), .d (.int .i64 r1103)] : V)))) (H' := (uc fun (r193 : Int) => (fun (r1103 : Int) => ([.sl 1 (List.map e_i64 ([1, 1, 1, 1] : List Int)) true, .box [.ref 0 (List.length ([1, 1, 1, 1] : List Int)) 0 (List.length ([1, 1, 1, 1] : List Int))]] : List Blk)))) [] _ (boundary_Share_goes k ([1, 1, 1, 1] : List Int) 0 1) (by kernel_rfl) (by kernel_rfl) rfl (by kernel_rfl) Try.func18 rfl (by kernel_rfl) (convList (vs0 := [.agg [.ref 0 (List.length ([1, 1, 1, 1] : List Int)) 0 (List.length ([1, 1, 1, 1] : List Int))], .agg [.d (.int .i64 0), .d (.int .i64 1)]]) (vs := [.agg [.d (.lit (List.map e_i64 ([1, 1, 1, 1] : List Int)))], .agg [.d (.int .i64 0), .d (.int .i64 1)]]) (by kernel_rfl) (.cons _ _ _ _ (.agg _ _ (.cons _ _ _ _ (k_lit (enc := e_i64) (sz := 1) 0 ([1, 1, 1, 1] : List Int) (by kernel_rfl)) .nil)) (.cons _ _ _ _ (.same _) .nil))) (by kernel_rfl) (by kernel_rfl) (by kernel_rfl) (by decide) (by kernel_rfl) (by kernel_rfl) (fun _ => (by kernel_rfl)) (fun _ => (by kernel_rfl)) (fun _ => (by kernel_rfl)) (fun r => ?_)
  obtain ⟨r193, r1103⟩ := r
  refine bUc ?_
  refine oOp (.tuple [.d (.int .i64 r193), .d (.int .i64 r1103)]) (by kernel_rfl) (by kernel_rfl) (PureV.does (p_move (by kernel_rfl))) ?_
  refine oOp (.d (.int .i64 r193)) (by kernel_rfl) (by kernel_rfl) (PureV.does (k_extract (by kernel_rfl))) ?_
  refine oOp (.d (.int .i64 r1103)) (by kernel_rfl) (by kernel_rfl) (PureV.does (k_extract (by kernel_rfl))) ?_
  refine oOp (.d (.int .i64 r193)) (by kernel_rfl) (by kernel_rfl) (PureV.does (p_assign (by kernel_rfl))) ?_
  refine oOp (.d (.int .i64 r1103)) (by kernel_rfl) (by kernel_rfl) (PureV.does (p_assign (by kernel_rfl))) ?_
  refine oEnd ?_
  refine oSeq ?_
  refine oRegion rfl ?_
  refine bCall (caps := []) (v := (uc fun (r121 : (List Int)) => (fun (r132 : Int) => (.tuple [.d (.lit (List.map e_i64 r121)), .d (.int .i64 r132)] : V)))) (H' := (uc fun (r121 : (List Int)) => (fun (r132 : Int) => ([.sl 1 (List.map e_i64 ([1, 1, 1, 1] : List Int)) true, .box [.ref 0 (List.length ([1, 1, 1, 1] : List Int)) 0 (List.length ([1, 1, 1, 1] : List Int))]] : List Blk)))) [] _ (boundary_Interpolate_goes k 70 40 4) (by kernel_rfl) (by kernel_rfl) rfl (by kernel_rfl) Try.func16 rfl (by kernel_rfl) (ConvRs.refl _ _) (by kernel_rfl) (by kernel_rfl) (by kernel_rfl) (by decide) (by kernel_rfl) (by kernel_rfl) (fun _ => (by kernel_rfl)) (fun _ => (by kernel_rfl)) (fun _ => (by kernel_rfl)) (fun r => ?_)
  obtain ⟨r121, r132⟩ := r
  refine bUc ?_
  refine oOp (.tuple [.d (.lit (List.map e_i64 r121)), .d (.int .i64 r132)]) (by kernel_rfl) (by kernel_rfl) (PureV.does (p_move (by kernel_rfl))) ?_
  refine oOp (.d (.lit (List.map e_i64 r121))) (by kernel_rfl) (by kernel_rfl) (PureV.does (k_extract (by kernel_rfl))) ?_
  refine oOp (.d (.int .i64 r132)) (by kernel_rfl) (by kernel_rfl) (PureV.does (k_extract (by kernel_rfl))) ?_
  refine oOp (.d (.lit (List.map e_i64 r121))) (by kernel_rfl) (by kernel_rfl) (PureV.does (p_assign (by kernel_rfl))) ?_
  refine oOp (.d (.int .i64 r132)) (by kernel_rfl) (by kernel_rfl) (PureV.does (p_assign (by kernel_rfl))) ?_
  refine oEnd ?_
  refine oSeq ?_
  refine oRegion rfl ?_
  refine oOp (.agg [.ref 0 (List.length ([1, 1, 1, 1] : List Int)) 0 (List.length ([1, 1, 1, 1] : List Int))]) (by kernel_rfl) (by kernel_rfl) (Quiet.does (k_loadAgg 1 0 (by kernel_rfl) Try.underlying28 (by kernel_rfl) ty28 (by kernel_rfl))) ?_
  refine oOp (.ref 2 (List.length ([3, 1] : List Int)) 0 (List.length ([3, 1] : List Int))) (by kernel_rfl) (by kernel_rfl) (k_buildSlice (H' := [.sl 1 (List.map e_i64 ([1, 1, 1, 1] : List Int)) true, .box [.ref 0 (List.length ([1, 1, 1, 1] : List Int)) 0 (List.length ([1, 1, 1, 1] : List Int))], .sl 1 (List.map e_i64 ([3, 1] : List Int)) false]) (List.map e_i64 ([3, 1] : List Int)) Try.underlying22 ty3 (by kernel_rfl) (by kernel_rfl) (by kernel_rfl)) ?_
  refine oFreeze 2 (esz := 1) (xs := List.map e_i64 ([3, 1] : List Int)) (by kernel_rfl) ?_
  refine oView (H' := [.sl 1 (List.map e_i64 ([1, 1, 1, 1] : List Int)) true, .box [.ref 0 (List.length ([1, 1, 1, 1] : List Int)) 0 (List.length ([1, 1, 1, 1] : List Int))], .sl 1 (List.map e_i64 ([3, 1] : List Int)) true]) rfl (by kernel_rfl) ?_
  refine bCall (caps := []) (v := (uc fun (r111 : (List Int)) => (fun (r141 : Int) => (.tuple [.d (.lit (List.map e_i64 r111)), .d (.int .i64 r141)] : V)))) (H' := (uc fun (r111 : (List Int)) => (fun (r141 : Int) => ([.sl 1 (List.map e_i64 ([1, 1, 1, 1] : List Int)) true, .box [.ref 0 (List.length ([1, 1, 1, 1] : List Int)) 0 (List.length ([1, 1, 1, 1] : List Int))], .sl 1 (List.map e_i64 ([3, 1] : List Int)) true] : List Blk)))) [] _ (boundary_Tally_goes k ([1, 1, 1, 1] : List Int) ([3, 1] : List Int)) (by kernel_rfl) (by kernel_rfl) rfl (by kernel_rfl) Try.func12 rfl (by kernel_rfl) (convList (vs0 := [.agg [.ref 0 (List.length ([1, 1, 1, 1] : List Int)) 0 (List.length ([1, 1, 1, 1] : List Int))], .ref 2 (List.length ([3, 1] : List Int)) 0 (List.length ([3, 1] : List Int))]) (vs := [.agg [.d (.lit (List.map e_i64 ([1, 1, 1, 1] : List Int)))], .d (.lit (List.map e_i64 ([3, 1] : List Int)))]) (by kernel_rfl) (.cons _ _ _ _ (.agg _ _ (.cons _ _ _ _ (k_lit (enc := e_i64) (sz := 1) 0 ([1, 1, 1, 1] : List Int) (by kernel_rfl)) .nil)) (.cons _ _ _ _ (k_lit (enc := e_i64) (sz := 1) 2 ([3, 1] : List Int) (by kernel_rfl)) .nil))) (by kernel_rfl) (by kernel_rfl) (by kernel_rfl) (by decide) (by kernel_rfl) (by kernel_rfl) (fun _ => (by kernel_rfl)) (fun _ => (by kernel_rfl)) (fun _ => (by kernel_rfl)) (fun r => ?_)
  obtain ⟨r111, r141⟩ := r
  refine bUc ?_
  refine oOp (.tuple [.d (.lit (List.map e_i64 r111)), .d (.int .i64 r141)]) (by kernel_rfl) (by kernel_rfl) (PureV.does (p_move (by kernel_rfl))) ?_
  refine oOp (.d (.lit (List.map e_i64 r111))) (by kernel_rfl) (by kernel_rfl) (PureV.does (k_extract (by kernel_rfl))) ?_
  refine oOp (.d (.int .i64 r141)) (by kernel_rfl) (by kernel_rfl) (PureV.does (k_extract (by kernel_rfl))) ?_
  refine oOp (.d (.lit (List.map e_i64 r111))) (by kernel_rfl) (by kernel_rfl) (PureV.does (p_assign (by kernel_rfl))) ?_
  refine oOp (.d (.int .i64 r141)) (by kernel_rfl) (by kernel_rfl) (PureV.does (p_assign (by kernel_rfl))) ?_
  refine oEnd ?_
  refine oSeq ?_
  refine oRegion rfl ?_
  refine oOp (.d (.int .i64 r1102)) (by kernel_rfl) (by kernel_rfl) (PureV.does (p_move (by kernel_rfl))) ?_
  refine oOp (.d (.bool (r1102 == 0))) (by kernel_rfl) (by kernel_rfl) (PureV.does (p_int (k := .i64) (p := r1102) (q := 0) (by kernel_rfl) (by kernel_rfl) (by kernel_rfl))) ?_
  refine oOp (.d (.bool (r1102 == 0))) (by kernel_rfl) (by kernel_rfl) (PureV.does (p_move (by kernel_rfl))) ?_
  refine bMeetF (H' := []) 3 rfl ((fun (x9 : Bool) => [(2, .d (.int .i64 r192)), (4, .d (.int .i64 r193)), (6, .d (.lit (List.map e_i64 r121))), (7, .d (.int .i64 r132)), (8, .d (.lit (List.map e_i64 r111))), (9, .d (.int .i64 r141)), (39, .d (.bool x9))])) (fun x9 => ?_) (fun F hj1 => ?_)
  · refine oView (T' := [(2, .d (.int .i64 r192)), (4, .d (.int .i64 r193)), (6, .d (.lit (List.map e_i64 r121))), (7, .d (.int .i64 r132)), (8, .d (.lit (List.map e_i64 r111))), (9, .d (.int .i64 r141)), (39, .d (.bool x9))]) (H' := []) (by kernel_rfl) (by kernel_rfl) ?_
    refine oOp (.d (.bool x9)) (by kernel_rfl) (by kernel_rfl) (PureV.does (p_move (by kernel_rfl))) ?_
    refine bMeetF (H' := []) 3 rfl ((fun (x10 : Bool) => [(2, .d (.int .i64 r192)), (4, .d (.int .i64 r193)), (6, .d (.lit (List.map e_i64 r121))), (8, .d (.lit (List.map e_i64 r111))), (9, .d (.int .i64 r141)), (43, .d (.bool x10))])) (fun x10 => ?_) (fun F hj2 => ?_)
    · refine oView (T' := [(2, .d (.int .i64 r192)), (4, .d (.int .i64 r193)), (6, .d (.lit (List.map e_i64 r121))), (8, .d (.lit (List.map e_i64 r111))), (9, .d (.int .i64 r141)), (43, .d (.bool x10))]) (H' := []) (by kernel_rfl) (by kernel_rfl) ?_
      refine oOp (.d (.bool x10)) (by kernel_rfl) (by kernel_rfl) (PureV.does (p_move (by kernel_rfl))) ?_
      refine bMeetF (H' := []) 3 rfl ((fun (x11 : Bool) => [(2, .d (.int .i64 r192)), (4, .d (.int .i64 r193)), (6, .d (.lit (List.map e_i64 r121))), (8, .d (.lit (List.map e_i64 r111))), (47, .d (.bool x11))])) (fun x11 => ?_) (fun F hj3 => ?_)
      · refine oView (T' := [(2, .d (.int .i64 r192)), (4, .d (.int .i64 r193)), (6, .d (.lit (List.map e_i64 r121))), (8, .d (.lit (List.map e_i64 r111))), (47, .d (.bool x11))]) (H' := []) (by kernel_rfl) (by kernel_rfl) ?_
        refine oOp (.d (.bool x11)) (by kernel_rfl) (by kernel_rfl) (PureV.does (p_move (by kernel_rfl))) ?_
        refine bMeetF (H' := []) 3 rfl ((fun (x12 : Bool) => [(4, .d (.int .i64 r193)), (6, .d (.lit (List.map e_i64 r121))), (8, .d (.lit (List.map e_i64 r111))), (51, .d (.bool x12))])) (fun x12 => ?_) (fun F hj4 => ?_)
        · refine oView (T' := [(4, .d (.int .i64 r193)), (6, .d (.lit (List.map e_i64 r121))), (8, .d (.lit (List.map e_i64 r111))), (51, .d (.bool x12))]) (H' := []) (by kernel_rfl) (by kernel_rfl) ?_
          refine oOp (.d (.bool x12)) (by kernel_rfl) (by kernel_rfl) (PureV.does (p_move (by kernel_rfl))) ?_
          refine bMeetF (H' := []) 3 rfl ((fun (x13 : Bool) => [(6, .d (.lit (List.map e_i64 r121))), (8, .d (.lit (List.map e_i64 r111))), (55, .d (.bool x13))])) (fun x13 => ?_) (fun F hj5 => ?_)
          · refine oView (T' := [(6, .d (.lit (List.map e_i64 r121))), (8, .d (.lit (List.map e_i64 r111))), (55, .d (.bool x13))]) (H' := []) (by kernel_rfl) (by kernel_rfl) ?_
            refine oOp (.d (.bool x13)) (by kernel_rfl) (by kernel_rfl) (PureV.does (p_move (by kernel_rfl))) ?_
            refine bMeet 4 rfl ((fun (x14 : Bool) => [(8, .d (.lit (List.map e_i64 r111))), (60, .d (.bool x14))])) ((fun (x14 : Bool) => [])) (fun s => s) (fun x14 => ?_) (fun hj9 => ?_)
            · refine oView (T' := [(8, .d (.lit (List.map e_i64 r111))), (60, .d (.bool x14))]) (H' := []) (by kernel_rfl) (by kernel_rfl) ?_
              refine oOp (.d (.bool x14)) (by kernel_rfl) (by kernel_rfl) (PureV.does (p_move (by kernel_rfl))) ?_
              refine bMeet 4 rfl ((fun (x15 : Bool) => [(65, .d (.bool x15))])) ((fun (x15 : Bool) => [])) (fun s => s) (fun x15 => ?_) (fun hj8 => ?_)
              · refine oView (T' := [(65, .d (.bool x15))]) (H' := []) (by kernel_rfl) (by kernel_rfl) ?_
                refine oOp (.d (.bool x15)) (by kernel_rfl) (by kernel_rfl) (PureV.does (p_move (by kernel_rfl))) ?_
                refine bMeet 4 rfl ((fun (x16 : Bool) => [(70, .d (.bool x16))])) ((fun (x16 : Bool) => [])) (fun s => s) (fun x16 => ?_) (fun hj7 => ?_)
                · refine oView (T' := [(70, .d (.bool x16))]) (H' := []) (by kernel_rfl) (by kernel_rfl) ?_
                  refine oOp (.d (.bool x16)) (by kernel_rfl) (by kernel_rfl) (PureV.does (p_move (by kernel_rfl))) ?_
                  refine bMeet 4 rfl ((fun (x17 : Bool) => [(75, .d (.bool x17))])) ((fun (x17 : Bool) => [])) (fun s => s) (fun x17 => ?_) (fun hj6 => ?_)
                  · refine oView (T' := [(75, .d (.bool x17))]) (H' := []) (by kernel_rfl) (by kernel_rfl) ?_
                    refine oOp (.d (.bool x17)) (by kernel_rfl) (by kernel_rfl) (PureV.does (p_assign (by kernel_rfl))) ?_
                    refine oEnd ?_
                    exact oRet (r0 := x17) (rv := .d (.bool x17)) (B := []) (vs := [.d (.bool x17)]) (σ := []) (by kernel_rfl) Try.func8 rfl (.cons _ _ _ _ (.tmp 0 _ (by kernel_rfl)) .nil) (by kernel_rfl) (by kernel_rfl) (by kernel_rfl) (by kernel_rfl) (by decide) (by kernel_rfl) (by kernel_rfl)
                  · refine bSplit 71 (by kernel_rfl) (fun hc => ?_) (fun hc => ?_)
                    · refine oOp (.ref 0 (List.length ([3, 1] : List Int)) 0 (List.length ([3, 1] : List Int))) (by kernel_rfl) (by kernel_rfl) (k_buildSlice (H' := [.sl 1 (List.map e_i64 ([3, 1] : List Int)) false]) (List.map e_i64 ([3, 1] : List Int)) Try.underlying22 ty3 (by kernel_rfl) (by kernel_rfl) (by kernel_rfl)) ?_
                      refine oFreeze 0 (esz := 1) (xs := List.map e_i64 ([3, 1] : List Int)) (by kernel_rfl) ?_
                      refine oView (H' := [.sl 1 (List.map e_i64 ([3, 1] : List Int)) true]) rfl (by kernel_rfl) ?_
                      refine bCall (caps := []) (v := (fun (r134 : Int) => (.d (.int .i64 r134) : V))) (H' := (fun (r134 : Int) => ([.sl 1 (List.map e_i64 ([3, 1] : List Int)) true] : List Blk))) [] _ (boundary_Check_goes k ([3, 1] : List Int) 3) (by kernel_rfl) (by kernel_rfl) rfl (by kernel_rfl) Try.func24 rfl (by kernel_rfl) (convList (vs0 := [.ref 0 (List.length ([3, 1] : List Int)) 0 (List.length ([3, 1] : List Int)), .d (.int .i64 3)]) (vs := [.d (.lit (List.map e_i64 ([3, 1] : List Int))), .d (.int .i64 3)]) (by kernel_rfl) (.cons _ _ _ _ (k_lit (enc := e_i64) (sz := 1) 0 ([3, 1] : List Int) (by kernel_rfl)) (.cons _ _ _ _ (.same _) .nil))) (by kernel_rfl) (by kernel_rfl) (by kernel_rfl) (by decide) (by kernel_rfl) (by kernel_rfl) (fun _ => (by kernel_rfl)) (fun _ => (by kernel_rfl)) (fun _ => (by kernel_rfl)) (fun r134 => ?_)
                      refine oOp (.d (.bool (r134 == 0))) (by kernel_rfl) (by kernel_rfl) (PureV.does (p_int (k := .i64) (p := r134) (q := 0) (by kernel_rfl) (by kernel_rfl) (by kernel_rfl))) ?_
                      refine oOp (.d (.bool (r134 == 0))) (by kernel_rfl) (by kernel_rfl) (PureV.does (p_pick (b := true) (by kernel_rfl) (by kernel_rfl))) ?_
                      refine oHead [75] [] (T' := [(75, .d (.bool (r134 == 0)))]) (H' := []) (by kernel_rfl) (by kernel_rfl) (by kernel_rfl) (by kernel_rfl) (by decide) (by kernel_rfl) (by kernel_rfl) ?_
                      exact hj6 (r134 == 0)
                    · refine oNot (by kernel_rfl) (by kernel_rfl) ?_
                      refine oNot (by kernel_rfl) (by kernel_rfl) ?_
                      refine oNot (by kernel_rfl) (by kernel_rfl) ?_
                      refine oOp (.d (.bool false)) (by kernel_rfl) (by kernel_rfl) (PureV.does (p_pick (b := false) (by kernel_rfl) (by kernel_rfl))) ?_
                      refine oHead [75] [] (T' := [(75, .d (.bool false))]) (H' := []) (by kernel_rfl) (by kernel_rfl) (by kernel_rfl) (by kernel_rfl) (by decide) (by kernel_rfl) (by kernel_rfl) ?_
                      exact hj6 false
                · refine bSplit 66 (by kernel_rfl) (fun hc => ?_) (fun hc => ?_)
                  · refine oOp (.ref 0 (List.length ([3, 1] : List Int)) 0 (List.length ([3, 1] : List Int))) (by kernel_rfl) (by kernel_rfl) (k_buildSlice (H' := [.sl 1 (List.map e_i64 ([3, 1] : List Int)) false]) (List.map e_i64 ([3, 1] : List Int)) Try.underlying22 ty3 (by kernel_rfl) (by kernel_rfl) (by kernel_rfl)) ?_
                    refine oFreeze 0 (esz := 1) (xs := List.map e_i64 ([3, 1] : List Int)) (by kernel_rfl) ?_
                    refine oView (H' := [.sl 1 (List.map e_i64 ([3, 1] : List Int)) true]) rfl (by kernel_rfl) ?_
                    refine bCall (caps := []) (v := (fun (r114 : Int) => (.d (.int .i64 r114) : V))) (H' := (fun (r114 : Int) => ([.sl 1 (List.map e_i64 ([3, 1] : List Int)) true] : List Blk))) [] _ (boundary_Grade_goes k ([3, 1] : List Int) 2) (by kernel_rfl) (by kernel_rfl) rfl (by kernel_rfl) Try.func13 rfl (by kernel_rfl) (convList (vs0 := [.ref 0 (List.length ([3, 1] : List Int)) 0 (List.length ([3, 1] : List Int)), .d (.int .i64 2)]) (vs := [.d (.lit (List.map e_i64 ([3, 1] : List Int))), .d (.int .i64 2)]) (by kernel_rfl) (.cons _ _ _ _ (k_lit (enc := e_i64) (sz := 1) 0 ([3, 1] : List Int) (by kernel_rfl)) (.cons _ _ _ _ (.same _) .nil))) (by kernel_rfl) (by kernel_rfl) (by kernel_rfl) (by decide) (by kernel_rfl) (by kernel_rfl) (fun _ => (by kernel_rfl)) (fun _ => (by kernel_rfl)) (fun _ => (by kernel_rfl)) (fun r114 => ?_)
                    refine oOp (.d (.bool (r114 == 1))) (by kernel_rfl) (by kernel_rfl) (PureV.does (p_int (k := .i64) (p := r114) (q := 1) (by kernel_rfl) (by kernel_rfl) (by kernel_rfl))) ?_
                    refine oOp (.d (.bool (r114 == 1))) (by kernel_rfl) (by kernel_rfl) (PureV.does (p_pick (b := true) (by kernel_rfl) (by kernel_rfl))) ?_
                    refine oHead [70] [] (T' := [(70, .d (.bool (r114 == 1)))]) (H' := []) (by kernel_rfl) (by kernel_rfl) (by kernel_rfl) (by kernel_rfl) (by decide) (by kernel_rfl) (by kernel_rfl) ?_
                    exact hj7 (r114 == 1)
                  · refine oNot (by kernel_rfl) (by kernel_rfl) ?_
                    refine oNot (by kernel_rfl) (by kernel_rfl) ?_
                    refine oNot (by kernel_rfl) (by kernel_rfl) ?_
                    refine oOp (.d (.bool false)) (by kernel_rfl) (by kernel_rfl) (PureV.does (p_pick (b := false) (by kernel_rfl) (by kernel_rfl))) ?_
                    refine oHead [70] [] (T' := [(70, .d (.bool false))]) (H' := []) (by kernel_rfl) (by kernel_rfl) (by kernel_rfl) (by kernel_rfl) (by decide) (by kernel_rfl) (by kernel_rfl) ?_
                    exact hj7 false
              · refine bSplit 61 (by kernel_rfl) (fun hc => ?_) (fun hc => ?_)
                · refine oOp (.d (.lit (List.map e_i64 r111))) (by kernel_rfl) (by kernel_rfl) (PureV.does (p_move (by kernel_rfl))) ?_
                  refine oOp (.ref 0 (List.length ([1, 2, 1] : List Int)) 0 (List.length ([1, 2, 1] : List Int))) (by kernel_rfl) (by kernel_rfl) (k_buildSlice (H' := [.sl 1 (List.map e_i64 ([1, 2, 1] : List Int)) false]) (List.map e_i64 ([1, 2, 1] : List Int)) Try.underlying22 ty3 (by kernel_rfl) (by kernel_rfl) (by kernel_rfl)) ?_
                  refine oFreeze 0 (esz := 1) (xs := List.map e_i64 ([1, 2, 1] : List Int)) (by kernel_rfl) ?_
                  refine oView (H' := [.sl 1 (List.map e_i64 ([1, 2, 1] : List Int)) true]) rfl (by kernel_rfl) ?_
                  refine bCall (caps := []) (v := (fun (r115 : Bool) => (.d (.bool r115) : V))) (H' := (fun (r115 : Bool) => ([.sl 1 (List.map e_i64 ([1, 2, 1] : List Int)) true] : List Blk))) [] _ (law35_same_goes k r111 ([1, 2, 1] : List Int)) (by kernel_rfl) (by kernel_rfl) rfl (by kernel_rfl) Try.func14 rfl (by kernel_rfl) (convList (vs0 := [.d (.lit (List.map e_i64 r111)), .ref 0 (List.length ([1, 2, 1] : List Int)) 0 (List.length ([1, 2, 1] : List Int))]) (vs := [.d (.lit (List.map e_i64 r111)), .d (.lit (List.map e_i64 ([1, 2, 1] : List Int)))]) (by kernel_rfl) (.cons _ _ _ _ (.same _) (.cons _ _ _ _ (k_lit (enc := e_i64) (sz := 1) 0 ([1, 2, 1] : List Int) (by kernel_rfl)) .nil))) (by kernel_rfl) (by kernel_rfl) (by kernel_rfl) (by decide) (by kernel_rfl) (by kernel_rfl) (fun _ => (by kernel_rfl)) (fun _ => (by kernel_rfl)) (fun _ => (by kernel_rfl)) (fun r115 => ?_)
                  refine oOp (.d (.bool r115)) (by kernel_rfl) (by kernel_rfl) (PureV.does (p_pick (b := true) (by kernel_rfl) (by kernel_rfl))) ?_
                  refine oHead [65] [] (T' := [(65, .d (.bool r115))]) (H' := []) (by kernel_rfl) (by kernel_rfl) (by kernel_rfl) (by kernel_rfl) (by decide) (by kernel_rfl) (by kernel_rfl) ?_
                  exact hj8 r115
                · refine oNot (by kernel_rfl) (by kernel_rfl) ?_
                  refine oNot (by kernel_rfl) (by kernel_rfl) ?_
                  refine oNot (by kernel_rfl) (by kernel_rfl) ?_
                  refine oOp (.d (.bool false)) (by kernel_rfl) (by kernel_rfl) (PureV.does (p_pick (b := false) (by kernel_rfl) (by kernel_rfl))) ?_
                  refine oHead [65] [] (T' := [(65, .d (.bool false))]) (H' := []) (by kernel_rfl) (by kernel_rfl) (by kernel_rfl) (by kernel_rfl) (by decide) (by kernel_rfl) (by kernel_rfl) ?_
                  exact hj8 false
            · refine bSplit 56 (by kernel_rfl) (fun hc => ?_) (fun hc => ?_)
              · refine oOp (.d (.lit (List.map e_i64 r121))) (by kernel_rfl) (by kernel_rfl) (PureV.does (p_move (by kernel_rfl))) ?_
                refine oOp (.ref 0 (List.length ([70, 62, 55, 47, 40] : List Int)) 0 (List.length ([70, 62, 55, 47, 40] : List Int))) (by kernel_rfl) (by kernel_rfl) (k_buildSlice (H' := [.sl 1 (List.map e_i64 ([70, 62, 55, 47, 40] : List Int)) false]) (List.map e_i64 ([70, 62, 55, 47, 40] : List Int)) Try.underlying22 ty3 (by kernel_rfl) (by kernel_rfl) (by kernel_rfl)) ?_
                refine oFreeze 0 (esz := 1) (xs := List.map e_i64 ([70, 62, 55, 47, 40] : List Int)) (by kernel_rfl) ?_
                refine oView (H' := [.sl 1 (List.map e_i64 ([70, 62, 55, 47, 40] : List Int)) true]) rfl (by kernel_rfl) ?_
                refine bCall (caps := []) (v := (fun (r116 : Bool) => (.d (.bool r116) : V))) (H' := (fun (r116 : Bool) => ([.sl 1 (List.map e_i64 ([70, 62, 55, 47, 40] : List Int)) true] : List Blk))) [] _ (law35_same_goes k r121 ([70, 62, 55, 47, 40] : List Int)) (by kernel_rfl) (by kernel_rfl) rfl (by kernel_rfl) Try.func14 rfl (by kernel_rfl) (convList (vs0 := [.d (.lit (List.map e_i64 r121)), .ref 0 (List.length ([70, 62, 55, 47, 40] : List Int)) 0 (List.length ([70, 62, 55, 47, 40] : List Int))]) (vs := [.d (.lit (List.map e_i64 r121)), .d (.lit (List.map e_i64 ([70, 62, 55, 47, 40] : List Int)))]) (by kernel_rfl) (.cons _ _ _ _ (.same _) (.cons _ _ _ _ (k_lit (enc := e_i64) (sz := 1) 0 ([70, 62, 55, 47, 40] : List Int) (by kernel_rfl)) .nil))) (by kernel_rfl) (by kernel_rfl) (by kernel_rfl) (by decide) (by kernel_rfl) (by kernel_rfl) (fun _ => (by kernel_rfl)) (fun _ => (by kernel_rfl)) (fun _ => (by kernel_rfl)) (fun r116 => ?_)
                refine oOp (.d (.bool r116)) (by kernel_rfl) (by kernel_rfl) (PureV.does (p_pick (b := true) (by kernel_rfl) (by kernel_rfl))) ?_
                refine oHead [8, 60] [] (T' := [(8, .d (.lit (List.map e_i64 r111))), (60, .d (.bool r116))]) (H' := []) (by kernel_rfl) (by kernel_rfl) (by kernel_rfl) (by kernel_rfl) (by decide) (by kernel_rfl) (by kernel_rfl) ?_
                exact hj9 r116
              · refine oNot (by kernel_rfl) (by kernel_rfl) ?_
                refine oNot (by kernel_rfl) (by kernel_rfl) ?_
                refine oNot (by kernel_rfl) (by kernel_rfl) ?_
                refine oOp (.d (.bool false)) (by kernel_rfl) (by kernel_rfl) (PureV.does (p_pick (b := false) (by kernel_rfl) (by kernel_rfl))) ?_
                refine oHead [8, 60] [] (T' := [(8, .d (.lit (List.map e_i64 r111))), (60, .d (.bool false))]) (H' := []) (by kernel_rfl) (by kernel_rfl) (by kernel_rfl) (by kernel_rfl) (by decide) (by kernel_rfl) (by kernel_rfl) ?_
                exact hj9 false
          · refine bPickF 52 (fun c => F (c && (r193 == 4))) (by kernel_rfl) (fun hc => ?_) (fun hc => ?_)
            · refine oOp (.d (.int .i64 r193)) (by kernel_rfl) (by kernel_rfl) (PureV.does (p_move (by kernel_rfl))) ?_
              refine oOp (.d (.bool (r193 == 4))) (by kernel_rfl) (by kernel_rfl) (PureV.does (p_int (k := .i64) (p := r193) (q := 4) (by kernel_rfl) (by kernel_rfl) (by kernel_rfl))) ?_
              refine oOp (.d (.bool (r193 == 4))) (by kernel_rfl) (by kernel_rfl) (PureV.does (p_pick (b := true) (by kernel_rfl) (by kernel_rfl))) ?_
              refine oHead [6, 8, 55] [] (T' := [(6, .d (.lit (List.map e_i64 r121))), (8, .d (.lit (List.map e_i64 r111))), (55, .d (.bool (r193 == 4)))]) (H' := []) (by kernel_rfl) (by kernel_rfl) (by kernel_rfl) (by kernel_rfl) (by decide) (by kernel_rfl) (by kernel_rfl) ?_
              exact hj5 (r193 == 4)
            · refine oNot (by kernel_rfl) (by kernel_rfl) ?_
              refine oNot (by kernel_rfl) (by kernel_rfl) ?_
              refine oOp (.d (.bool false)) (by kernel_rfl) (by kernel_rfl) (PureV.does (p_pick (b := false) (by kernel_rfl) (by kernel_rfl))) ?_
              refine oHead [6, 8, 55] [] (T' := [(6, .d (.lit (List.map e_i64 r121))), (8, .d (.lit (List.map e_i64 r111))), (55, .d (.bool false))]) (H' := []) (by kernel_rfl) (by kernel_rfl) (by kernel_rfl) (by kernel_rfl) (by decide) (by kernel_rfl) (by kernel_rfl) ?_
              exact hj5 false
        · refine bPickF 48 (fun c => F (c && (r192 == 2))) (by kernel_rfl) (fun hc => ?_) (fun hc => ?_)
          · refine oOp (.d (.int .i64 r192)) (by kernel_rfl) (by kernel_rfl) (PureV.does (p_move (by kernel_rfl))) ?_
            refine oOp (.d (.bool (r192 == 2))) (by kernel_rfl) (by kernel_rfl) (PureV.does (p_int (k := .i64) (p := r192) (q := 2) (by kernel_rfl) (by kernel_rfl) (by kernel_rfl))) ?_
            refine oOp (.d (.bool (r192 == 2))) (by kernel_rfl) (by kernel_rfl) (PureV.does (p_pick (b := true) (by kernel_rfl) (by kernel_rfl))) ?_
            refine oHead [4, 6, 8, 51] [] (T' := [(4, .d (.int .i64 r193)), (6, .d (.lit (List.map e_i64 r121))), (8, .d (.lit (List.map e_i64 r111))), (51, .d (.bool (r192 == 2)))]) (H' := []) (by kernel_rfl) (by kernel_rfl) (by kernel_rfl) (by kernel_rfl) (by decide) (by kernel_rfl) (by kernel_rfl) ?_
            exact hj4 (r192 == 2)
          · refine oNot (by kernel_rfl) (by kernel_rfl) ?_
            refine oNot (by kernel_rfl) (by kernel_rfl) ?_
            refine oOp (.d (.bool false)) (by kernel_rfl) (by kernel_rfl) (PureV.does (p_pick (b := false) (by kernel_rfl) (by kernel_rfl))) ?_
            refine oHead [4, 6, 8, 51] [] (T' := [(4, .d (.int .i64 r193)), (6, .d (.lit (List.map e_i64 r121))), (8, .d (.lit (List.map e_i64 r111))), (51, .d (.bool false))]) (H' := []) (by kernel_rfl) (by kernel_rfl) (by kernel_rfl) (by kernel_rfl) (by decide) (by kernel_rfl) (by kernel_rfl) ?_
            exact hj4 false
      · refine bPickF 44 (fun c => F (c && (r141 == 0))) (by kernel_rfl) (fun hc => ?_) (fun hc => ?_)
        · refine oOp (.d (.int .i64 r141)) (by kernel_rfl) (by kernel_rfl) (PureV.does (p_move (by kernel_rfl))) ?_
          refine oOp (.d (.bool (r141 == 0))) (by kernel_rfl) (by kernel_rfl) (PureV.does (p_int (k := .i64) (p := r141) (q := 0) (by kernel_rfl) (by kernel_rfl) (by kernel_rfl))) ?_
          refine oOp (.d (.bool (r141 == 0))) (by kernel_rfl) (by kernel_rfl) (PureV.does (p_pick (b := true) (by kernel_rfl) (by kernel_rfl))) ?_
          refine oHead [2, 4, 6, 8, 47] [] (T' := [(2, .d (.int .i64 r192)), (4, .d (.int .i64 r193)), (6, .d (.lit (List.map e_i64 r121))), (8, .d (.lit (List.map e_i64 r111))), (47, .d (.bool (r141 == 0)))]) (H' := []) (by kernel_rfl) (by kernel_rfl) (by kernel_rfl) (by kernel_rfl) (by decide) (by kernel_rfl) (by kernel_rfl) ?_
          exact hj3 (r141 == 0)
        · refine oNot (by kernel_rfl) (by kernel_rfl) ?_
          refine oNot (by kernel_rfl) (by kernel_rfl) ?_
          refine oOp (.d (.bool false)) (by kernel_rfl) (by kernel_rfl) (PureV.does (p_pick (b := false) (by kernel_rfl) (by kernel_rfl))) ?_
          refine oHead [2, 4, 6, 8, 47] [] (T' := [(2, .d (.int .i64 r192)), (4, .d (.int .i64 r193)), (6, .d (.lit (List.map e_i64 r121))), (8, .d (.lit (List.map e_i64 r111))), (47, .d (.bool false))]) (H' := []) (by kernel_rfl) (by kernel_rfl) (by kernel_rfl) (by kernel_rfl) (by decide) (by kernel_rfl) (by kernel_rfl) ?_
          exact hj3 false
    · refine bPickF 40 (fun c => F (c && (r132 == 0))) (by kernel_rfl) (fun hc => ?_) (fun hc => ?_)
      · refine oOp (.d (.int .i64 r132)) (by kernel_rfl) (by kernel_rfl) (PureV.does (p_move (by kernel_rfl))) ?_
        refine oOp (.d (.bool (r132 == 0))) (by kernel_rfl) (by kernel_rfl) (PureV.does (p_int (k := .i64) (p := r132) (q := 0) (by kernel_rfl) (by kernel_rfl) (by kernel_rfl))) ?_
        refine oOp (.d (.bool (r132 == 0))) (by kernel_rfl) (by kernel_rfl) (PureV.does (p_pick (b := true) (by kernel_rfl) (by kernel_rfl))) ?_
        refine oHead [2, 4, 6, 8, 9, 43] [] (T' := [(2, .d (.int .i64 r192)), (4, .d (.int .i64 r193)), (6, .d (.lit (List.map e_i64 r121))), (8, .d (.lit (List.map e_i64 r111))), (9, .d (.int .i64 r141)), (43, .d (.bool (r132 == 0)))]) (H' := []) (by kernel_rfl) (by kernel_rfl) (by kernel_rfl) (by kernel_rfl) (by decide) (by kernel_rfl) (by kernel_rfl) ?_
        exact hj2 (r132 == 0)
      · refine oNot (by kernel_rfl) (by kernel_rfl) ?_
        refine oNot (by kernel_rfl) (by kernel_rfl) ?_
        refine oOp (.d (.bool false)) (by kernel_rfl) (by kernel_rfl) (PureV.does (p_pick (b := false) (by kernel_rfl) (by kernel_rfl))) ?_
        refine oHead [2, 4, 6, 8, 9, 43] [] (T' := [(2, .d (.int .i64 r192)), (4, .d (.int .i64 r193)), (6, .d (.lit (List.map e_i64 r121))), (8, .d (.lit (List.map e_i64 r111))), (9, .d (.int .i64 r141)), (43, .d (.bool false))]) (H' := []) (by kernel_rfl) (by kernel_rfl) (by kernel_rfl) (by kernel_rfl) (by decide) (by kernel_rfl) (by kernel_rfl) ?_
        exact hj2 false
  · refine bPickF 36 (fun c => F (c && (r1103 == 0))) (by kernel_rfl) (fun hc => ?_) (fun hc => ?_)
    · refine oOp (.d (.int .i64 r1103)) (by kernel_rfl) (by kernel_rfl) (PureV.does (p_move (by kernel_rfl))) ?_
      refine oOp (.d (.bool (r1103 == 0))) (by kernel_rfl) (by kernel_rfl) (PureV.does (p_int (k := .i64) (p := r1103) (q := 0) (by kernel_rfl) (by kernel_rfl) (by kernel_rfl))) ?_
      refine oOp (.d (.bool (r1103 == 0))) (by kernel_rfl) (by kernel_rfl) (PureV.does (p_pick (b := true) (by kernel_rfl) (by kernel_rfl))) ?_
      refine oHead [2, 4, 6, 7, 8, 9, 39] [] (T' := [(2, .d (.int .i64 r192)), (4, .d (.int .i64 r193)), (6, .d (.lit (List.map e_i64 r121))), (7, .d (.int .i64 r132)), (8, .d (.lit (List.map e_i64 r111))), (9, .d (.int .i64 r141)), (39, .d (.bool (r1103 == 0)))]) (H' := []) (by kernel_rfl) (by kernel_rfl) (by kernel_rfl) (by kernel_rfl) (by decide) (by kernel_rfl) (by kernel_rfl) ?_
      exact hj1 (r1103 == 0)
    · refine oNot (by kernel_rfl) (by kernel_rfl) ?_
      refine oNot (by kernel_rfl) (by kernel_rfl) ?_
      refine oOp (.d (.bool false)) (by kernel_rfl) (by kernel_rfl) (PureV.does (p_pick (b := false) (by kernel_rfl) (by kernel_rfl))) ?_
      refine oHead [2, 4, 6, 7, 8, 9, 39] [] (T' := [(2, .d (.int .i64 r192)), (4, .d (.int .i64 r193)), (6, .d (.lit (List.map e_i64 r121))), (7, .d (.int .i64 r132)), (8, .d (.lit (List.map e_i64 r111))), (9, .d (.int .i64 r141)), (39, .d (.bool false))]) (H' := []) (by kernel_rfl) (by kernel_rfl) (by kernel_rfl) (by kernel_rfl) (by decide) (by kernel_rfl) (by kernel_rfl) ?_
      exact hj1 false

/-- awardingbody/awardingbodymark.Roll -/
def mark_Roll (k : Nat) (l : (List Int)) : Option (Unit) := some ()
def mark_Roll_E (l : (List Int)) : Unit → V × List Blk := u0 ((.ptr 0 0, [.box [.d (.lit (List.map e_i64 l)), .d (.int .i64 0)]]))
theorem mark_Roll_goes (k : Nat) (l : (List Int)) : RunsO Try.prog 9 [.d (.lit (List.map e_i64 l))] [] (mark_Roll_E l) (mark_Roll k l) := by
  refine RunsO.of_goes (N := 6) (m := 0) (T := [(0, .d (.lit (List.map e_i64 l)))]) Try.func9 rfl rfl (by kernel_rfl) (by kernel_rfl) (by kernel_rfl) ?_
  unfold mark_Roll
  refine bStart ?_
  refine oSeq ?_
  refine oRegion rfl ?_
  refine oOp (.nilptr) (by kernel_rfl) (by kernel_rfl) (PureV.does (p_assign (by kernel_rfl))) ?_
  refine oEnd ?_
  refine oSeq ?_
  refine oRegion rfl ?_
  refine oOp (.d (.lit (List.map e_i64 l))) (by kernel_rfl) (by kernel_rfl) (PureV.does (p_move (by kernel_rfl))) ?_
  refine oOp (.agg [.d (.lit (List.map e_i64 l)), .d (.int .i64 0)]) (by kernel_rfl) (by kernel_rfl) (PureV.does (p_build bld51 (by kernel_rfl))) ?_
  refine oOp (.ptr 0 0) (by kernel_rfl) (by kernel_rfl) (k_box (H' := [.box [.d (.lit (List.map e_i64 l)), .d (.int .i64 0)]]) (cells := [.d (.lit (List.map e_i64 l)), .d (.int .i64 0)]) (by kernel_rfl) (by kernel_rfl) (by kernel_rfl)) ?_
  refine oOp (.ptr 0 0) (by kernel_rfl) (by kernel_rfl) (PureV.does (p_assign (by kernel_rfl))) ?_
  refine oEnd ?_
  exact oRet (r0 := ()) (rv := .ptr 0 0) (B := [.box [.d (.lit (List.map e_i64 l)), .d (.int .i64 0)]]) (vs := [.ptr 0 0]) (σ := [0]) (by kernel_rfl) Try.func9 rfl (.cons _ _ _ _ (.tmp 2 _ (by kernel_rfl)) .nil) (by kernel_rfl) (by kernel_rfl) (by kernel_rfl) (by kernel_rfl) (by decide) (by kernel_rfl) (by kernel_rfl)

/-- (*awardingbody/awardingbodymark.Dice).Next -/
def mark_Dice_Next (k : Nat) (n : Int) (x : (List Int)) (x1 : Int) : Option (Int × Int) := blet ((decide (x1 ≥ ((List.length x) : Int))) || (decide (n < 1))) fun x8 => bif x8 then some (0, x1) else gidx x x1 fun e1 => gnz n (Option.bind (bif (decide ((Int.tmod e1 n) < 0)) then some ((IntKind.wrap .i64 ((Int.tmod e1 n) + n)), (IntKind.wrap .i64 (x1 + 1))) else some ((Int.tmod e1 n), (IntKind.wrap .i64 (x1 + 1))) : Option (Int × Int)) (uc fun x9 => fun x10 => some (x9, x10)))
def mark_Dice_Next_E (n : Int) (x : (List Int)) (x1 : Int) : Int × Int → V × List Blk := uc fun r1 => fun x6 => (.d (.int .i64 r1), [.box [.d (.lit (List.map e_i64 x)), .d (.int .i64 x6)]])
theorem mark_Dice_Next_goes (k : Nat) (n : Int) (x : (List Int)) (x1 : Int) : RunsO Try.prog 25 [.ptr 0 0, .d (.int .i64 n)] [.box [.d (.lit (List.map e_i64 x)), .d (.int .i64 x1)]] (mark_Dice_Next_E n x x1) (mark_Dice_Next k n x x1) := by
  refine RunsO.of_goes (N := 45) (m := 1) (T := [(0, .ptr 0 0), (1, .d (.int .i64 n))]) Try.func25 rfl rfl (by kernel_rfl) (by kernel_rfl) (by kernel_rfl) ?_
  unfold mark_Dice_Next
  refine bStart ?_
  refine oSeq ?_
  refine oRegion rfl ?_
  refine oOp (.d (.int .i64 0)) (by kernel_rfl) (by kernel_rfl) (PureV.does (p_assign (by kernel_rfl))) ?_
  refine oEnd ?_
  refine oSeq ?_
  refine oSeq ?_
  refine oDraw [(0, 14)] rfl ?_
  refine aTakeL (i := 0) (st' := []) (.ptr 0 0) rfl (by kernel_rfl) (by kernel_rfl) (by kernel_rfl) (by kernel_rfl) (by kernel_rfl) (by kernel_rfl) (by kernel_rfl) (PureV.quiet (p_move (by kernel_rfl)) []) ?_
  refine aTakeL (i := 1) (st' := []) (.ptr 0 0) rfl (by kernel_rfl) (by kernel_rfl) (by kernel_rfl) (by kernel_rfl) (by kernel_rfl) (by kernel_rfl) (by kernel_rfl) (PureV.quiet (k_nilCheck 0 0 (by kernel_rfl) (by kernel_rfl)) []) ?_
  refine aTakeL (i := 2) (st' := []) (.ptr 0 1) rfl (by kernel_rfl) (by kernel_rfl) (by kernel_rfl) (by kernel_rfl) (by kernel_rfl) (by kernel_rfl) (by kernel_rfl) (PureV.quiet (k_fieldAddr 0 0 (by kernel_rfl) Try.underlying51 rfl ty3 (by kernel_rfl)) []) ?_
  refine aTakeL (i := 3) (st' := [0]) (.d (.int .i64 x1)) rfl (by kernel_rfl) (by kernel_rfl) (by kernel_rfl) (by kernel_rfl) (by kernel_rfl) (by kernel_rfl) (by kernel_rfl) (k_load 0 1 (by kernel_rfl) Try.underlying3 (by kernel_rfl) (by kernel_rfl)) ?_
  refine aTakeL (i := 4) (st' := []) (.ptr 0 0) rfl (by kernel_rfl) (by kernel_rfl) (by kernel_rfl) (by kernel_rfl) (by kernel_rfl) (by kernel_rfl) (by kernel_rfl) (PureV.quiet (p_move (by kernel_rfl)) []) ?_
  refine aTakeL (i := 5) (st' := []) (.ptr 0 0) rfl (by kernel_rfl) (by kernel_rfl) (by kernel_rfl) (by kernel_rfl) (by kernel_rfl) (by kernel_rfl) (by kernel_rfl) (PureV.quiet (k_nilCheck 0 0 (by kernel_rfl) (by kernel_rfl)) []) ?_
  refine aTakeL (i := 6) (st' := []) (.ptr 0 0) rfl (by kernel_rfl) (by kernel_rfl) (by kernel_rfl) (by kernel_rfl) (by kernel_rfl) (by kernel_rfl) (by kernel_rfl) (PureV.quiet (k_fieldAddr 0 0 (by kernel_rfl) Try.underlying51 rfl ty22 (by kernel_rfl)) []) ?_
  refine aTakeL (i := 7) (st' := [0]) (.d (.lit (List.map e_i64 x))) rfl (by kernel_rfl) (by kernel_rfl) (by kernel_rfl) (by kernel_rfl) (by kernel_rfl) (by kernel_rfl) (by kernel_rfl) (k_load 0 0 (by kernel_rfl) Try.underlying22 (by kernel_rfl) (by kernel_rfl)) ?_
  refine aTakeL (i := 8) (st' := []) (.d (.int .i64 ((List.length x) : Int))) rfl (by kernel_rfl) (by kernel_rfl) (by kernel_rfl) (by kernel_rfl) (by kernel_rfl) (by kernel_rfl) (by kernel_rfl) (PureV.quiet (k_lenLit (enc := e_i64) x (by kernel_rfl) Try.underlying22) []) ?_
  refine aTakeL (i := 9) (st' := []) (.d (.bool (decide (x1 ≥ ((List.length x) : Int))))) rfl (by kernel_rfl) (by kernel_rfl) (by kernel_rfl) (by kernel_rfl) (by kernel_rfl) (by kernel_rfl) (by kernel_rfl) (PureV.quiet (p_int (k := .i64) (p := x1) (q := ((List.length x) : Int)) (by kernel_rfl) (by kernel_rfl) (by kernel_rfl)) []) ?_
  refine aTakeL (i := 10) (st' := []) (.d (.bool (decide (x1 ≥ ((List.length x) : Int))))) rfl (by kernel_rfl) (by kernel_rfl) (by kernel_rfl) (by kernel_rfl) (by kernel_rfl) (by kernel_rfl) (by kernel_rfl) (PureV.quiet (p_move (by kernel_rfl)) []) ?_
  refine dMeetF [13, 12, 11, 10, 9, 8, 7, 6, 5, 4, 3, 2, 1, 0] (fun (x8 : Bool) => [(0, .ptr 0 0), (1, .d (.int .i64 n)), (19, .d (.bool x8))]) (fun (x8 : Bool) => [(0, .ptr 0 0), (1, .d (.int .i64 n)), (19, .d (.bool x8))]) (H' := [.box [.d (.lit (List.map e_i64 x)), .d (.int .i64 x1)]]) (fun x8 => ?_) (fun F hj3 => ?_)
  · refine aDone (by kernel_rfl) ?_
    refine bSplit 19 (by kernel_rfl) (fun hc => ?_) (fun hc => ?_)
    · refine oCondT (by kernel_rfl) ?_
      refine oSeq ?_
      refine oRegion rfl ?_
      refine oOp (.d (.int .i64 0)) (by kernel_rfl) (by kernel_rfl) (PureV.does (p_assign (by kernel_rfl))) ?_
      refine oEnd ?_
      exact oRet (r0 := (0, x1)) (rv := .d (.int .i64 0)) (B := [.box [.d (.lit (List.map e_i64 x)), .d (.int .i64 x1)]]) (vs := [.d (.int .i64 0)]) (σ := [0]) (by kernel_rfl) Try.func25 rfl (.cons _ _ _ _ (.tmp 4 _ (by kernel_rfl)) .nil) (by kernel_rfl) (by kernel_rfl) (by kernel_rfl) (by kernel_rfl) (by decide) (by kernel_rfl) (by kernel_rfl)
    · refine oCondF (by kernel_rfl) ?_
      refine oSkip ?_
      refine oSeq ?_
      refine oDraw [(0, 13)] rfl ?_
      refine aTakeL (i := 0) (st' := []) (.ptr 0 0) rfl (by kernel_rfl) (by kernel_rfl) (by kernel_rfl) (by kernel_rfl) (by kernel_rfl) (by kernel_rfl) (by kernel_rfl) (PureV.quiet (p_move (by kernel_rfl)) []) ?_
      refine aTakeL (i := 1) (st' := []) (.ptr 0 0) rfl (by kernel_rfl) (by kernel_rfl) (by kernel_rfl) (by kernel_rfl) (by kernel_rfl) (by kernel_rfl) (by kernel_rfl) (PureV.quiet (k_nilCheck 0 0 (by kernel_rfl) (by kernel_rfl)) []) ?_
      refine aTakeL (i := 2) (st' := []) (.ptr 0 0) rfl (by kernel_rfl) (by kernel_rfl) (by kernel_rfl) (by kernel_rfl) (by kernel_rfl) (by kernel_rfl) (by kernel_rfl) (PureV.quiet (k_fieldAddr 0 0 (by kernel_rfl) Try.underlying51 rfl ty22 (by kernel_rfl)) []) ?_
      refine aTakeL (i := 3) (st' := [0]) (.d (.lit (List.map e_i64 x))) rfl (by kernel_rfl) (by kernel_rfl) (by kernel_rfl) (by kernel_rfl) (by kernel_rfl) (by kernel_rfl) (by kernel_rfl) (k_load 0 0 (by kernel_rfl) Try.underlying22 (by kernel_rfl) (by kernel_rfl)) ?_
      refine aTakeL (i := 4) (st' := []) (.ptr 0 0) rfl (by kernel_rfl) (by kernel_rfl) (by kernel_rfl) (by kernel_rfl) (by kernel_rfl) (by kernel_rfl) (by kernel_rfl) (PureV.quiet (p_move (by kernel_rfl)) []) ?_
      refine aTakeL (i := 5) (st' := []) (.ptr 0 0) rfl (by kernel_rfl) (by kernel_rfl) (by kernel_rfl) (by kernel_rfl) (by kernel_rfl) (by kernel_rfl) (by kernel_rfl) (PureV.quiet (k_nilCheck 0 0 (by kernel_rfl) (by kernel_rfl)) []) ?_
      refine aTakeL (i := 6) (st' := []) (.ptr 0 1) rfl (by kernel_rfl) (by kernel_rfl) (by kernel_rfl) (by kernel_rfl) (by kernel_rfl) (by kernel_rfl) (by kernel_rfl) (PureV.quiet (k_fieldAddr 0 0 (by kernel_rfl) Try.underlying51 rfl ty3 (by kernel_rfl)) []) ?_
      refine aTakeL (i := 7) (st' := [0]) (.d (.int .i64 x1)) rfl (by kernel_rfl) (by kernel_rfl) (by kernel_rfl) (by kernel_rfl) (by kernel_rfl) (by kernel_rfl) (by kernel_rfl) (k_load 0 1 (by kernel_rfl) Try.underlying3 (by kernel_rfl) (by kernel_rfl)) ?_
      refine dIdx (fun e1 h1 h11 => ?_)
      refine aTakeL (i := 8) (st' := []) (.lptr (e_i64 e1) 0) rfl (by kernel_rfl) (by kernel_rfl) (by kernel_rfl) (by kernel_rfl) (by kernel_rfl) (by kernel_rfl) (by kernel_rfl) (PureV.quiet (k_idxLit e_i64_len x (a := e1) (by kernel_rfl) (k := .i64) (i := x1) (by kernel_rfl) Try.underlying22 ty3 h1 h11) []) ?_
      refine aTakeL (i := 9) (st' := []) (.d (.int .i64 e1)) rfl (by kernel_rfl) (by kernel_rfl) (by kernel_rfl) (by kernel_rfl) (by kernel_rfl) (by kernel_rfl) (by kernel_rfl) (k_loadL (cells := e_i64 e1) 0 (by kernel_rfl) Try.underlying3 (by kernel_rfl) (by kernel_rfl)) ?_
      refine aTakeL (i := 10) (st' := []) (.d (.int .i64 n)) rfl (by kernel_rfl) (by kernel_rfl) (by kernel_rfl) (by kernel_rfl) (by kernel_rfl) (by kernel_rfl) (by kernel_rfl) (PureV.quiet (p_move (by kernel_rfl)) []) ?_
      refine dNz (fun h12 => ?_)
      refine aTakeP (i := 11) (.d (.int .i64 (Int.tmod e1 n))) rfl (by kernel_rfl) (by kernel_rfl) (by kernel_rfl) (by kernel_rfl) (by kernel_rfl) (by kernel_rfl) (by kernel_rfl) (p_rem (k := .i64) (p := e1) (q := n) (by kernel_rfl) (by kernel_rfl) h12 (by kernel_rfl)) ?_
      refine aTakeL (i := 12) (st' := []) (.d (.int .i64 (Int.tmod e1 n))) rfl (by kernel_rfl) (by kernel_rfl) (by kernel_rfl) (by kernel_rfl) (by kernel_rfl) (by kernel_rfl) (by kernel_rfl) (PureV.quiet (p_assign (by kernel_rfl)) []) ?_
      refine aDone (by kernel_rfl) ?_
      refine oSeq ?_
      refine oRegion rfl ?_
      refine oOp (.ptr 0 0) (by kernel_rfl) (by kernel_rfl) (PureV.does (p_move (by kernel_rfl))) ?_
      refine oOp (.ptr 0 0) (by kernel_rfl) (by kernel_rfl) (PureV.does (k_nilCheck 0 0 (by kernel_rfl) (by kernel_rfl))) ?_
      refine oOp (.ptr 0 1) (by kernel_rfl) (by kernel_rfl) (PureV.does (k_fieldAddr 0 0 (by kernel_rfl) Try.underlying51 rfl ty3 (by kernel_rfl))) ?_
      refine oOp (.d (.int .i64 x1)) (by kernel_rfl) (by kernel_rfl) (Quiet.does (k_load 0 1 (by kernel_rfl) Try.underlying3 (by kernel_rfl) (by kernel_rfl))) ?_
      refine oOp (.d (.int .i64 (IntKind.wrap .i64 (x1 + 1)))) (by kernel_rfl) (by kernel_rfl) (PureV.does (p_int (k := .i64) (p := x1) (q := 1) (by kernel_rfl) (by kernel_rfl) (by kernel_rfl))) ?_
      refine oOp (.ptr 0 0) (by kernel_rfl) (by kernel_rfl) (PureV.does (k_nilCheck 0 0 (by kernel_rfl) (by kernel_rfl))) ?_
      refine oOp (.ptr 0 1) (by kernel_rfl) (by kernel_rfl) (PureV.does (k_fieldAddr 0 0 (by kernel_rfl) Try.underlying51 rfl ty3 (by kernel_rfl))) ?_
      refine oOp (.undef) (by kernel_rfl) (by kernel_rfl) (k_store (vs := [.d (.int .i64 (IntKind.wrap .i64 (x1 + 1)))]) (H' := [.box [.d (.lit (List.map e_i64 x)), .d (.int .i64 (IntKind.wrap .i64 (x1 + 1)))]]) 0 1 (by kernel_rfl) ty3 (by kernel_rfl) (by kernel_rfl) (by kernel_rfl)) ?_
      refine oEnd ?_
      refine oSeq ?_
      refine oSeq ?_
      refine oRegion rfl ?_
      refine oOp (.d (.int .i64 (Int.tmod e1 n))) (by kernel_rfl) (by kernel_rfl) (PureV.does (p_move (by kernel_rfl))) ?_
      refine oOp (.d (.bool (decide ((Int.tmod e1 n) < 0)))) (by kernel_rfl) (by kernel_rfl) (PureV.does (p_int (k := .i64) (p := (Int.tmod e1 n)) (q := 0) (by kernel_rfl) (by kernel_rfl) (by kernel_rfl))) ?_
      refine oEnd ?_
      refine bJoin ((uc fun (x9 : Int) => (fun (x10 : Int) => [(5, .d (.int .i64 x9))]))) ((uc fun (x9 : Int) => (fun (x10 : Int) => [.box [.d (.lit (List.map e_i64 x)), .d (.int .i64 x10)]]))) (fun s => s) (fun s => ?_) (fun hj4 => ?_)
      · obtain ⟨x9, x10⟩ := s
        refine bUc ?_
        refine oView (T' := [(5, .d (.int .i64 x9))]) (H' := [.box [.d (.lit (List.map e_i64 x)), .d (.int .i64 x10)]]) (by kernel_rfl) (by kernel_rfl) ?_
        refine oSeq ?_
        refine oRegion rfl ?_
        refine oOp (.d (.int .i64 x9)) (by kernel_rfl) (by kernel_rfl) (PureV.does (p_move (by kernel_rfl))) ?_
        refine oOp (.d (.int .i64 x9)) (by kernel_rfl) (by kernel_rfl) (PureV.does (p_assign (by kernel_rfl))) ?_
        refine oEnd ?_
        exact oRet (r0 := (x9, x10)) (rv := .d (.int .i64 x9)) (B := [.box [.d (.lit (List.map e_i64 x)), .d (.int .i64 x10)]]) (vs := [.d (.int .i64 x9)]) (σ := [0]) (by kernel_rfl) Try.func25 rfl (.cons _ _ _ _ (.tmp 4 _ (by kernel_rfl)) .nil) (by kernel_rfl) (by kernel_rfl) (by kernel_rfl) (by kernel_rfl) (by decide) (by kernel_rfl) (by kernel_rfl)
      · refine bSplit 40 (by kernel_rfl) (fun hc => ?_) (fun hc => ?_)
        · refine oCondT (by kernel_rfl) ?_
          refine oRegion rfl ?_
          refine oOp (.d (.int .i64 (Int.tmod e1 n))) (by kernel_rfl) (by kernel_rfl) (PureV.does (p_move (by kernel_rfl))) ?_
          refine oOp (.d (.int .i64 n)) (by kernel_rfl) (by kernel_rfl) (PureV.does (p_move (by kernel_rfl))) ?_
          refine oOp (.d (.int .i64 (IntKind.wrap .i64 ((Int.tmod e1 n) + n)))) (by kernel_rfl) (by kernel_rfl) (PureV.does (p_int (k := .i64) (p := (Int.tmod e1 n)) (q := n) (by kernel_rfl) (by kernel_rfl) (by kernel_rfl))) ?_
          refine oOp (.d (.int .i64 (IntKind.wrap .i64 ((Int.tmod e1 n) + n)))) (by kernel_rfl) (by kernel_rfl) (PureV.does (p_assign (by kernel_rfl))) ?_
          refine oEnd ?_
          refine oHead [5] [0] (T' := [(5, .d (.int .i64 (IntKind.wrap .i64 ((Int.tmod e1 n) + n))))]) (H' := [.box [.d (.lit (List.map e_i64 x)), .d (.int .i64 (IntKind.wrap .i64 (x1 + 1)))]]) (by kernel_rfl) (by kernel_rfl) (by kernel_rfl) (by kernel_rfl) (by decide) (by kernel_rfl) (by kernel_rfl) ?_
          exact hj4 ((IntKind.wrap .i64 ((Int.tmod e1 n) + n)), (IntKind.wrap .i64 (x1 + 1)))
        · refine oCondF (by kernel_rfl) ?_
          refine oSkip ?_
          refine oHead [5] [0] (T' := [(5, .d (.int .i64 (Int.tmod e1 n)))]) (H' := [.box [.d (.lit (List.map e_i64 x)), .d (.int .i64 (IntKind.wrap .i64 (x1 + 1)))]]) (by kernel_rfl) (by kernel_rfl) (by kernel_rfl) (by kernel_rfl) (by decide) (by kernel_rfl) (by kernel_rfl) ?_
          exact hj4 ((Int.tmod e1 n), (IntKind.wrap .i64 (x1 + 1)))
  · refine dPickF 16 (fun c => F (c || (decide (n < 1)))) (by kernel_rfl) (by kernel_rfl) (fun hc => ?_) (fun hc => ?_)
    · refine aTakeNot (i := 11) rfl (by kernel_rfl) (by kernel_rfl) (by kernel_rfl) (by kernel_rfl) (by kernel_rfl) (by kernel_rfl) (by kernel_rfl) ?_
      refine aTakeNot (i := 12) rfl (by kernel_rfl) (by kernel_rfl) (by kernel_rfl) (by kernel_rfl) (by kernel_rfl) (by kernel_rfl) (by kernel_rfl) ?_
      refine aTakeL (i := 13) (st' := []) (.d (.bool true)) rfl (by kernel_rfl) (by kernel_rfl) (by kernel_rfl) (by kernel_rfl) (by kernel_rfl) (by kernel_rfl) (by kernel_rfl) (PureV.quiet (p_pick (b := true) (by kernel_rfl) (by kernel_rfl)) []) ?_
      refine dDrop [0, 1, 19] [0, 1, 19] (T' := [(0, .ptr 0 0), (1, .d (.int .i64 n)), (19, .d (.bool true))]) (U' := [(0, .ptr 0 0), (1, .d (.int .i64 n)), (19, .d (.bool true))]) (by kernel_rfl) (by kernel_rfl) ?_
      exact hj3 true
    · refine aTakeL (i := 11) (st' := []) (.d (.int .i64 n)) rfl (by kernel_rfl) (by kernel_rfl) (by kernel_rfl) (by kernel_rfl) (by kernel_rfl) (by kernel_rfl) (by kernel_rfl) (PureV.quiet (p_move (by kernel_rfl)) []) ?_
      refine aTakeL (i := 12) (st' := []) (.d (.bool (decide (n < 1)))) rfl (by kernel_rfl) (by kernel_rfl) (by kernel_rfl) (by kernel_rfl) (by kernel_rfl) (by kernel_rfl) (by kernel_rfl) (PureV.quiet (p_int (k := .i64) (p := n) (q := 1) (by kernel_rfl) (by kernel_rfl) (by kernel_rfl)) []) ?_
      refine aTakeL (i := 13) (st' := []) (.d (.bool (decide (n < 1)))) rfl (by kernel_rfl) (by kernel_rfl) (by kernel_rfl) (by kernel_rfl) (by kernel_rfl) (by kernel_rfl) (by kernel_rfl) (PureV.quiet (p_pick (b := false) (by kernel_rfl) (by kernel_rfl)) []) ?_
      refine dDrop [0, 1, 19] [0, 1, 19] (T' := [(0, .ptr 0 0), (1, .d (.int .i64 n)), (19, .d (.bool (decide (n < 1))))]) (U' := [(0, .ptr 0 0), (1, .d (.int .i64 n)), (19, .d (.bool (decide (n < 1))))]) (by kernel_rfl) (by kernel_rfl) ?_
      exact hj3 (decide (n < 1))

/-- (*awardingbody/awardingbodymark.Dice).Pick -/
def mark_Dice_Pick (k : Nat) (x : (List Int)) (x1 : Int) (xs : (List Int)) : Option (Int × Int) := Option.bind (mark_Dice_Next k ((List.length xs) : Int) x x1) (uc fun r12 => fun x61 => gidx xs r12 fun e11 => some (e11, x61))
def mark_Dice_Pick_E (x : (List Int)) (x1 : Int) (xs : (List Int)) : Int × Int → V × List Blk := uc fun r11 => fun x2 => (.d (.int .i64 r11), [.box [.d (.lit (List.map e_i64 x)), .d (.int .i64 x2)], .sl 1 (List.map e_i64 xs) false])
theorem mark_Dice_Pick_goes (k : Nat) (x : (List Int)) (x1 : Int) (xs : (List Int)) : RunsO Try.prog 26 [.ptr 0 0, .ref 1 (List.length xs) 0 (List.length xs)] [.box [.d (.lit (List.map e_i64 x)), .d (.int .i64 x1)], .sl 1 (List.map e_i64 xs) false] (mark_Dice_Pick_E x x1 xs) (mark_Dice_Pick k x x1 xs) := by
  refine RunsO.of_goes (N := 12) (m := 2) (T := [(0, .ptr 0 0), (1, .ref 1 (List.length xs) 0 (List.length xs))]) Try.func26 rfl rfl (by kernel_rfl) (by kernel_rfl) (by kernel_rfl) ?_
  unfold mark_Dice_Pick
  refine bStart ?_
  refine oSeq ?_
  refine oRegion rfl ?_
  refine oOp (.d (.int .i64 0)) (by kernel_rfl) (by kernel_rfl) (PureV.does (p_assign (by kernel_rfl))) ?_
  refine oEnd ?_
  refine oSeq ?_
  refine oRegion rfl ?_
  refine oOp (.ref 1 (List.length xs) 0 (List.length xs)) (by kernel_rfl) (by kernel_rfl) (PureV.does (p_move (by kernel_rfl))) ?_
  refine oOp (.ptr 0 0) (by kernel_rfl) (by kernel_rfl) (PureV.does (p_move (by kernel_rfl))) ?_
  refine oOp (.ref 1 (List.length xs) 0 (List.length xs)) (by kernel_rfl) (by kernel_rfl) (PureV.does (p_move (by kernel_rfl))) ?_
  refine oOp (.d (.int .i64 ((List.length xs) : Int))) (by kernel_rfl) (by kernel_rfl) (PureV.does (k_lenRef (enc := e_i64) (sz := 1) (fro := false) 1 xs (by kernel_rfl) (by kernel_rfl) Try.underlying22)) ?_
  refine bCall (caps := []) (v := (uc fun (r12 : Int) => (fun (x61 : Int) => (.d (.int .i64 r12) : V)))) (H' := (uc fun (r12 : Int) => (fun (x61 : Int) => ([.box [.d (.lit (List.map e_i64 x)), .d (.int .i64 x61)], .sl 1 (List.map e_i64 xs) false] : List Blk)))) [0] _ (mark_Dice_Next_goes k ((List.length xs) : Int) x x1) (by kernel_rfl) (by kernel_rfl) rfl (by kernel_rfl) Try.func25 rfl (by kernel_rfl) (ConvRs.refl _ _) (by kernel_rfl) (by kernel_rfl) (by kernel_rfl) (by decide) (by kernel_rfl) (by kernel_rfl) (fun _ => (by kernel_rfl)) (fun _ => (by kernel_rfl)) (fun _ => (by kernel_rfl)) (fun r => ?_)
  obtain ⟨r12, x61⟩ := r
  refine bUc ?_
  refine bIdx (fun e11 h12 h13 => ?_)
  refine oOp (.eptr 1 (List.length xs) (Int.toNat r12) 0) (by kernel_rfl) (by kernel_rfl) (PureV.does (k_idxRef (enc := e_i64) (fro := false) xs (a := e11) (by kernel_rfl) (k := .i64) (i := r12) (by kernel_rfl) (by kernel_rfl) Try.underlying22 ty3 h12 h13)) ?_
  refine oOp (.d (.int .i64 e11)) (by kernel_rfl) (by kernel_rfl) (Quiet.does (k_loadE (enc := e_i64) (sz := 1) (fro := false) 1 0 xs (by kernel_rfl) (by kernel_rfl) Try.underlying3 (by kernel_rfl) h13 (by kernel_rfl))) ?_
  refine oOp (.d (.int .i64 e11)) (by kernel_rfl) (by kernel_rfl) (PureV.does (p_assign (by kernel_rfl))) ?_
  refine oEnd ?_
  exact oRet (r0 := (e11, x61)) (rv := .d (.int .i64 e11)) (B := [.box [.d (.lit (List.map e_i64 x)), .d (.int .i64 x61)], .sl 1 (List.map e_i64 xs) false]) (vs := [.d (.int .i64 e11)]) (σ := [0, 1]) (by kernel_rfl) Try.func26 rfl (.cons _ _ _ _ (.tmp 4 _ (by kernel_rfl)) .nil) (by kernel_rfl) (by kernel_rfl) (by kernel_rfl) (by kernel_rfl) (by decide) (by kernel_rfl) (by kernel_rfl)

/-- (*awardingbody/awardingbodymark.Dice).Distribution -/
def mark_Dice_Distribution_b1 (k : Nat) (x : (List Int)) (least1 : Int) (again : Int × Int × (List Int) → Option (Int × (List Int))) : Int × Int × (List Int) → Option (Int × (List Int)) := uc fun i7 => uc fun x11 => fun xs6 => bif (decide (i7 > 0)) then Option.bind (mark_Dice_Pick k x x11 ([0, 1, 2, 5, 0] : List Int)) (uc fun r11 => fun x2 => gcap (List.length (xs6 ++ ([(IntKind.wrap .i64 (least1 + r11))] : List Int))) 8 (again ((IntKind.wrap .i64 (i7 - 1)), x2, (xs6 ++ ([(IntKind.wrap .i64 (least1 + r11))] : List Int))))) else some (x11, xs6)
def mark_Dice_Distribution (k : Nat) (n : Int) (full : Bool) (x : (List Int)) (x1 : Int) : Option ((List Int) × Int) := Option.bind (bif full then some 1 else some 0 : Option (Int)) (fun least1 => Option.bind (mark_Dice_Next k (IntKind.wrap .i64 (n + 1)) x x1) (uc fun r13 => fun x61 => Option.bind (gloop (mark_Dice_Distribution_b1 k x least1) k ((IntKind.wrap .i64 (1 + r13)), x61, ([] : List Int)) : Option (Int × (List Int))) (uc fun x10 => fun xs5 => some (xs5, x10))))
def mark_Dice_Distribution_E (n : Int) (full : Bool) (x : (List Int)) (x1 : Int) : (List Int) × Int → V × List Blk := uc fun r12 => fun x7 => (.agg [.d (.lit (List.map e_i64 r12))], [.box [.d (.lit (List.map e_i64 x)), .d (.int .i64 x7)]])
theorem mark_Dice_Distribution_goes (k : Nat) (n : Int) (full : Bool) (x : (List Int)) (x1 : Int) : RunsO Try.prog 10 [.ptr 0 0, .d (.int .i64 n), .d (.bool full)] [.box [.d (.lit (List.map e_i64 x)), .d (.int .i64 x1)]] (mark_Dice_Distribution_E n full x x1) (mark_Dice_Distribution k n full x x1) := by
  refine RunsO.of_goes (N := 31) (m := 1) (T := [(0, .ptr 0 0), (1, .d (.int .i64 n)), (2, .d (.bool full))]) Try.func10 rfl rfl (by kernel_rfl) (by kernel_rfl) (by kernel_rfl) ?_
  unfold mark_Dice_Distribution
  refine bStart ?_
  refine oSeq ?_
  refine oRegion rfl ?_
  refine oOp (.ptr 1 0) (by kernel_rfl) (by kernel_rfl) (k_alloc (H' := [.box [.d (.lit (List.map e_i64 x)), .d (.int .i64 x1)], .box [.nilc]]) ty28 (by kernel_rfl) (by kernel_rfl)) ?_
  refine oEnd ?_
  refine oSeq ?_
  refine oRegion rfl ?_
  refine oOp (.ptr 2 0) (by kernel_rfl) (by kernel_rfl) (k_alloc (H' := [.box [.d (.lit (List.map e_i64 x)), .d (.int .i64 x1)], .box [.nilc], .box [.nilc]]) ty28 (by kernel_rfl) (by kernel_rfl)) ?_
  refine oEnd ?_
  refine oSeq ?_
  refine oRegion rfl ?_
  refine oOp (.d (.int .i64 0)) (by kernel_rfl) (by kernel_rfl) (PureV.does (p_assign (by kernel_rfl))) ?_
  refine oEnd ?_
  refine oSeq ?_
  refine oSeq ?_
  refine oRegion rfl ?_
  refine oOp (.d (.bool full)) (by kernel_rfl) (by kernel_rfl) (PureV.does (p_move (by kernel_rfl))) ?_
  refine oEnd ?_
  refine bJoin ((fun (least1 : Int) => [(0, .ptr 0 0), (1, .d (.int .i64 n)), (6, .ptr 1 0), (7, .ptr 2 0), (8, .d (.int .i64 least1))])) ((fun (least1 : Int) => [.box [.d (.lit (List.map e_i64 x)), .d (.int .i64 x1)], .box [.nilc], .box [.nilc]])) (fun s => s) (fun least1 => ?_) (fun hj3 => ?_)
  · refine oView (T' := [(0, .ptr 0 0), (1, .d (.int .i64 n)), (6, .ptr 1 0), (7, .ptr 2 0), (8, .d (.int .i64 least1))]) (H' := [.box [.d (.lit (List.map e_i64 x)), .d (.int .i64 x1)], .box [.nilc], .box [.nilc]]) (by kernel_rfl) (by kernel_rfl) ?_
    refine oSeq ?_
    refine oSeq ?_
    refine oRegion rfl ?_
    refine oOp (.ptr 0 0) (by kernel_rfl) (by kernel_rfl) (PureV.does (p_move (by kernel_rfl))) ?_
    refine oOp (.d (.int .i64 n)) (by kernel_rfl) (by kernel_rfl) (PureV.does (p_move (by kernel_rfl))) ?_
    refine oOp (.d (.int .i64 (IntKind.wrap .i64 (n + 1)))) (by kernel_rfl) (by kernel_rfl) (PureV.does (p_int (k := .i64) (p := n) (q := 1) (by kernel_rfl) (by kernel_rfl) (by kernel_rfl))) ?_
    refine bCall (caps := []) (v := (uc fun (r13 : Int) => (fun (x61 : Int) => (.d (.int .i64 r13) : V)))) (H' := (uc fun (r13 : Int) => (fun (x61 : Int) => ([.box [.d (.lit (List.map e_i64 x)), .d (.int .i64 x61)], .box [.nilc], .box [.nilc]] : List Blk)))) [0] _ (mark_Dice_Next_goes k (IntKind.wrap .i64 (n + 1)) x x1) (by kernel_rfl) (by kernel_rfl) rfl (by kernel_rfl) Try.func25 rfl (by kernel_rfl) (ConvRs.refl _ _) (by kernel_rfl) (by kernel_rfl) (by kernel_rfl) (by decide) (by kernel_rfl) (by kernel_rfl) (fun _ => (by kernel_rfl)) (fun _ => (by kernel_rfl)) (fun _ => (by kernel_rfl)) (fun r => ?_)
    obtain ⟨r13, x61⟩ := r
    refine bUc ?_
    refine oOp (.d (.int .i64 (IntKind.wrap .i64 (1 + r13)))) (by kernel_rfl) (by kernel_rfl) (PureV.does (p_int (k := .i64) (p := 1) (q := r13) (by kernel_rfl) (by kernel_rfl) (by kernel_rfl))) ?_
    refine oOp (.d (.int .i64 (IntKind.wrap .i64 (1 + r13)))) (by kernel_rfl) (by kernel_rfl) (PureV.does (p_assign (by kernel_rfl))) ?_
    refine oEnd ?_
    refine bJoin ((uc fun (x10 : Int) => (fun (xs5 : (List Int)) => [(6, .ptr 1 0), (7, .ptr 2 0)]))) ((uc fun (x10 : Int) => (fun (xs5 : (List Int)) => [.box [.d (.lit (List.map e_i64 x)), .d (.int .i64 x10)], .box [.nilc], .box [.ref 3 (List.length xs5) 0 (List.length xs5)], .sl 1 (List.map e_i64 xs5) false]))) (fun s => s) (fun s => ?_) (fun hj4 => ?_)
    · obtain ⟨x10, xs5⟩ := s
      refine bUc ?_
      refine oView (T' := [(6, .ptr 1 0), (7, .ptr 2 0)]) (H' := [.box [.d (.lit (List.map e_i64 x)), .d (.int .i64 x10)], .box [.nilc], .box [.ref 3 (List.length xs5) 0 (List.length xs5)], .sl 1 (List.map e_i64 xs5) false]) (by kernel_rfl) (by kernel_rfl) ?_
      refine oSeq ?_
      refine oRegion rfl ?_
      refine oOp (.agg [.ref 3 (List.length xs5) 0 (List.length xs5)]) (by kernel_rfl) (by kernel_rfl) (Quiet.does (k_loadAgg 2 0 (by kernel_rfl) Try.underlying28 (by kernel_rfl) ty28 (by kernel_rfl))) ?_
      refine oOp (.undef) (by kernel_rfl) (by kernel_rfl) (k_store (vs := [.ref 3 (List.length xs5) 0 (List.length xs5)]) (H' := [.box [.d (.lit (List.map e_i64 x)), .d (.int .i64 x10)], .box [.ref 3 (List.length xs5) 0 (List.length xs5)], .box [.ref 3 (List.length xs5) 0 (List.length xs5)], .sl 1 (List.map e_i64 xs5) false]) 1 0 (by kernel_rfl) ty28 (by kernel_rfl) (by kernel_rfl) (by kernel_rfl)) ?_
      refine oEnd ?_
      refine oFreeze 3 (esz := 1) (xs := List.map e_i64 xs5) (by kernel_rfl) ?_
      refine oView (H' := [.box [.d (.lit (List.map e_i64 x)), .d (.int .i64 x10)], .box [.ref 3 (List.length xs5) 0 (List.length xs5)], .box [.ref 3 (List.length xs5) 0 (List.length xs5)], .sl 1 (List.map e_i64 xs5) true]) rfl (by kernel_rfl) ?_
      refine oConvB 1 (cells := [.ref 3 (List.length xs5) 0 (List.length xs5)]) (cells' := [.d (.lit (List.map e_i64 xs5))]) (by kernel_rfl) (.cons _ _ _ _ (k_lit (enc := e_i64) (sz := 1) 3 xs5 (by kernel_rfl)) .nil) ?_
      refine oView (H' := [.box [.d (.lit (List.map e_i64 x)), .d (.int .i64 x10)], .box [.d (.lit (List.map e_i64 xs5))], .box [.ref 3 (List.length xs5) 0 (List.length xs5)], .sl 1 (List.map e_i64 xs5) true]) rfl (by kernel_rfl) ?_
      exact oRet (r0 := (xs5, x10)) (rv := .agg [.d (.lit (List.map e_i64 xs5))]) (B := [.box [.d (.lit (List.map e_i64 x)), .d (.int .i64 x10)]]) (vs := [.agg [.d (.lit (List.map e_i64 xs5))]]) (σ := [0]) (by kernel_rfl) Try.func10 rfl (.cons _ _ _ _ (.agg 6 28 1 0 [.d (.lit (List.map e_i64 xs5))] [.d (.lit (List.map e_i64 xs5))] _ _ _ _ (by kernel_rfl) (by kernel_rfl) Try.underlying28 (by kernel_rfl) ty28 (by kernel_rfl) (by kernel_rfl)) .nil) (by kernel_rfl) (by kernel_rfl) (by kernel_rfl) (by kernel_rfl) (by decide) (by kernel_rfl) (by kernel_rfl)
    · refine oBlock ?_
      refine oLoop ?_
      refine oVirtB (esz := 1) 2 0 (cells := [.nilc]) (by kernel_rfl) (by kernel_rfl) ?_
      refine oView (H' := [.box [.d (.lit (List.map e_i64 x)), .d (.int .i64 x61)], .box [.nilc], .box [.ref 3 (List.length ([] : List Int)) 0 (List.length ([] : List Int))], .sl 1 (List.map e_i64 ([] : List Int)) false]) rfl (by kernel_rfl) ?_
      refine oHead [0, 6, 7, 8, 9] [0, 1, 2, 3] (T' := [(0, .ptr 0 0), (6, .ptr 1 0), (7, .ptr 2 0), (8, .d (.int .i64 least1)), (9, .d (.int .i64 (IntKind.wrap .i64 (1 + r13))))]) (H' := [.box [.d (.lit (List.map e_i64 x)), .d (.int .i64 x61)], .box [.nilc], .box [.ref 3 (List.length ([] : List Int)) 0 (List.length ([] : List Int))], .sl 1 (List.map e_i64 ([] : List Int)) false]) (by kernel_rfl) (by kernel_rfl) (by kernel_rfl) (by kernel_rfl) (by decide) (by kernel_rfl) (by kernel_rfl) ?_
      refine bLoop (body := mark_Dice_Distribution_b1 k x least1) ((uc fun (i7 : Int) => (uc fun (x11 : Int) => (fun (xs6 : (List Int)) => [(0, .ptr 0 0), (6, .ptr 1 0), (7, .ptr 2 0), (8, .d (.int .i64 least1)), (9, .d (.int .i64 i7))])))) ((uc fun (i7 : Int) => (uc fun (x11 : Int) => (fun (xs6 : (List Int)) => [.box [.d (.lit (List.map e_i64 x)), .d (.int .i64 x11)], .box [.nilc], .box [.ref 3 (List.length xs6) 0 (List.length xs6)], .sl 1 (List.map e_i64 xs6) false])))) (fun again hag1 s => ?_) k ((IntKind.wrap .i64 (1 + r13)), x61, ([] : List Int))
      · unfold mark_Dice_Distribution_b1
        obtain ⟨i7, x11, xs6⟩ := s
        refine bUc ?_
        refine bUc ?_
        refine oView (T' := [(0, .ptr 0 0), (6, .ptr 1 0), (7, .ptr 2 0), (8, .d (.int .i64 least1)), (9, .d (.int .i64 i7))]) (H' := [.box [.d (.lit (List.map e_i64 x)), .d (.int .i64 x11)], .box [.nilc], .box [.ref 3 (List.length xs6) 0 (List.length xs6)], .sl 1 (List.map e_i64 xs6) false]) (by kernel_rfl) (by kernel_rfl) ?_
        refine oSeq ?_
        refine oSeq ?_
        refine oRegion rfl ?_
        refine oOp (.d (.int .i64 i7)) (by kernel_rfl) (by kernel_rfl) (PureV.does (p_move (by kernel_rfl))) ?_
        refine oOp (.d (.bool (decide (i7 > 0)))) (by kernel_rfl) (by kernel_rfl) (PureV.does (p_int (k := .i64) (p := i7) (q := 0) (by kernel_rfl) (by kernel_rfl) (by kernel_rfl))) ?_
        refine oEnd ?_
        refine bSplit 17 (by kernel_rfl) (fun hc => ?_) (fun hc => ?_)
        · refine oCondT (by kernel_rfl) ?_
          refine oSkip ?_
          refine oSeq ?_
          refine oBlock ?_
          refine oDraw [(0, 5), (1, 11), (2, 10), (3, 8)] rfl ?_
          refine aTakeL (i := 0) (st' := []) (.ptr 2 0) rfl (by kernel_rfl) (by kernel_rfl) (by kernel_rfl) (by kernel_rfl) (by kernel_rfl) (by kernel_rfl) (by kernel_rfl) (PureV.quiet (k_fieldAddr 2 0 (by kernel_rfl) Try.underlying28 rfl ty22 (by kernel_rfl)) []) ?_
          refine aTakeL (i := 1) (st' := [2]) (.ref 3 (List.length xs6) 0 (List.length xs6)) rfl (by kernel_rfl) (by kernel_rfl) (by kernel_rfl) (by kernel_rfl) (by kernel_rfl) (by kernel_rfl) (by kernel_rfl) (k_load 2 0 (by kernel_rfl) Try.underlying22 (by kernel_rfl) (by kernel_rfl)) ?_
          refine aTakeL (i := 2) (st' := []) (.d (.int .i64 least1)) rfl (by kernel_rfl) (by kernel_rfl) (by kernel_rfl) (by kernel_rfl) (by kernel_rfl) (by kernel_rfl) (by kernel_rfl) (PureV.quiet (p_move (by kernel_rfl)) []) ?_
          refine aTakeL (i := 3) (st' := []) (.ptr 0 0) rfl (by kernel_rfl) (by kernel_rfl) (by kernel_rfl) (by kernel_rfl) (by kernel_rfl) (by kernel_rfl) (by kernel_rfl) (PureV.quiet (p_move (by kernel_rfl)) []) ?_
          refine aOne (i := 4) (v := .ref 4 (List.length ([0, 1, 2, 5, 0] : List Int)) 0 (List.length ([0, 1, 2, 5, 0] : List Int))) rfl (by kernel_rfl) (by kernel_rfl) (by kernel_rfl) (by kernel_rfl) (by kernel_rfl) (by kernel_rfl) (by kernel_rfl) (Does.acts (k_buildSlice (H' := [.box [.d (.lit (List.map e_i64 x)), .d (.int .i64 x11)], .box [.nilc], .box [.ref 3 (List.length xs6) 0 (List.length xs6)], .sl 1 (List.map e_i64 xs6) false, .sl 1 (List.map e_i64 ([0, 1, 2, 5, 0] : List Int)) false]) (List.map e_i64 ([0, 1, 2, 5, 0] : List Int)) Try.underlying22 ty3 (by kernel_rfl) (by kernel_rfl) (by kernel_rfl))) (by kernel_rfl) ?_
          refine dCall (i := 5) (caps := []) (v := (uc fun (r11 : Int) => (fun (x2 : Int) => (.d (.int .i64 r11) : V)))) (H' := (uc fun (r11 : Int) => (fun (x2 : Int) => ([.box [.d (.lit (List.map e_i64 x)), .d (.int .i64 x2)], .box [.nilc], .box [.ref 3 (List.length xs6) 0 (List.length xs6)], .sl 1 (List.map e_i64 xs6) false, .sl 1 (List.map e_i64 ([0, 1, 2, 5, 0] : List Int)) false] : List Blk)))) [0, 4] _ (mark_Dice_Pick_goes k x x11 ([0, 1, 2, 5, 0] : List Int)) rfl (by kernel_rfl) (by kernel_rfl) (by kernel_rfl) (by kernel_rfl) (by kernel_rfl) (by kernel_rfl) (by kernel_rfl) (by kernel_rfl) rfl (by kernel_rfl) Try.func26 rfl (by kernel_rfl) (ConvRs.refl _ _) (by kernel_rfl) (by kernel_rfl) (by kernel_rfl) (by decide) (by kernel_rfl) (by kernel_rfl) (fun _ => (by kernel_rfl)) (fun _ => (by kernel_rfl)) (fun _ => (by kernel_rfl)) (fun r => ?_)
          obtain ⟨r11, x2⟩ := r
          refine dUc ?_
          refine aTakeL (i := 6) (st' := []) (.d (.int .i64 (IntKind.wrap .i64 (least1 + r11)))) rfl (by kernel_rfl) (by kernel_rfl) (by kernel_rfl) (by kernel_rfl) (by kernel_rfl) (by kernel_rfl) (by kernel_rfl) (PureV.quiet (p_int (k := .i64) (p := least1) (q := r11) (by kernel_rfl) (by kernel_rfl) (by kernel_rfl)) []) ?_
          refine aOne (i := 7) (v := .ref 5 (List.length ([(IntKind.wrap .i64 (least1 + r11))] : List Int)) 0 (List.length ([(IntKind.wrap .i64 (least1 + r11))] : List Int))) rfl (by kernel_rfl) (by kernel_rfl) (by kernel_rfl) (by kernel_rfl) (by kernel_rfl) (by kernel_rfl) (by kernel_rfl) (Does.acts (k_buildSlice (H' := [.box [.d (.lit (List.map e_i64 x)), .d (.int .i64 x2)], .box [.nilc], .box [.ref 3 (List.length xs6) 0 (List.length xs6)], .sl 1 (List.map e_i64 xs6) false, .sl 1 (List.map e_i64 ([0, 1, 2, 5, 0] : List Int)) false, .sl 1 (List.map e_i64 ([(IntKind.wrap .i64 (least1 + r11))] : List Int)) false]) (List.map e_i64 ([(IntKind.wrap .i64 (least1 + r11))] : List Int)) Try.underlying22 ty3 (by kernel_rfl) (by kernel_rfl) (by kernel_rfl))) (by kernel_rfl) ?_
          refine dCap (fun h1 => ?_)
          refine aOne (i := 8) (v := .ref 3 (List.length (xs6 ++ ([(IntKind.wrap .i64 (least1 + r11))] : List Int))) 0 (List.length (xs6 ++ ([(IntKind.wrap .i64 (least1 + r11))] : List Int)))) rfl (by kernel_rfl) (by kernel_rfl) (by kernel_rfl) (by kernel_rfl) (by kernel_rfl) (by kernel_rfl) (by kernel_rfl) (Does.acts (k_append (H' := [.box [.d (.lit (List.map e_i64 x)), .d (.int .i64 x2)], .box [.nilc], .box [.ref 3 (List.length xs6) 0 (List.length xs6)], .sl 1 (List.map e_i64 (xs6 ++ ([(IntKind.wrap .i64 (least1 + r11))] : List Int))) false, .sl 1 (List.map e_i64 ([0, 1, 2, 5, 0] : List Int)) false, .sl 1 (List.map e_i64 ([(IntKind.wrap .i64 (least1 + r11))] : List Int)) false]) (enc := e_i64) 3 xs6 ([(IntKind.wrap .i64 (least1 + r11))] : List Int) Try.underlying22 Try.underlying22 ty3 (by kernel_rfl) (by kernel_rfl) (by kernel_rfl) (holdsRef (enc := e_i64) 5 ([(IntKind.wrap .i64 (least1 + r11))] : List Int) false (by kernel_rfl) (by kernel_rfl)) h1 (by kernel_rfl))) (by kernel_rfl) ?_
          refine aTakeL (i := 9) (st' := []) (.ptr 2 0) rfl (by kernel_rfl) (by kernel_rfl) (by kernel_rfl) (by kernel_rfl) (by kernel_rfl) (by kernel_rfl) (by kernel_rfl) (PureV.quiet (k_fieldAddr 2 0 (by kernel_rfl) Try.underlying28 rfl ty22 (by kernel_rfl)) []) ?_
          refine aOne (i := 10) (v := .undef) rfl (by kernel_rfl) (by kernel_rfl) (by kernel_rfl) (by kernel_rfl) (by kernel_rfl) (by kernel_rfl) (by kernel_rfl) (Does.acts (k_store (vs := [.ref 3 (List.length (xs6 ++ ([(IntKind.wrap .i64 (least1 + r11))] : List Int))) 0 (List.length (xs6 ++ ([(IntKind.wrap .i64 (least1 + r11))] : List Int)))]) (H' := [.box [.d (.lit (List.map e_i64 x)), .d (.int .i64 x2)], .box [.nilc], .box [.ref 3 (List.length (xs6 ++ ([(IntKind.wrap .i64 (least1 + r11))] : List Int))) 0 (List.length (xs6 ++ ([(IntKind.wrap .i64 (least1 + r11))] : List Int)))], .sl 1 (List.map e_i64 (xs6 ++ ([(IntKind.wrap .i64 (least1 + r11))] : List Int))) false, .sl 1 (List.map e_i64 ([0, 1, 2, 5, 0] : List Int)) false, .sl 1 (List.map e_i64 ([(IntKind.wrap .i64 (least1 + r11))] : List Int)) false]) 2 0 (by kernel_rfl) ty22 (by kernel_rfl) (by kernel_rfl) (by kernel_rfl))) (by kernel_rfl) ?_
          refine aDone (by kernel_rfl) ?_
          refine oBlk ?_
          refine oRegion rfl ?_
          refine oOp (.d (.int .i64 i7)) (by kernel_rfl) (by kernel_rfl) (PureV.does (p_move (by kernel_rfl))) ?_
          refine oOp (.d (.int .i64 (IntKind.wrap .i64 (i7 - 1)))) (by kernel_rfl) (by kernel_rfl) (PureV.does (p_int (k := .i64) (p := i7) (q := 1) (by kernel_rfl) (by kernel_rfl) (by kernel_rfl))) ?_
          refine oOp (.d (.int .i64 (IntKind.wrap .i64 (i7 - 1)))) (by kernel_rfl) (by kernel_rfl) (PureV.does (p_assign (by kernel_rfl))) ?_
          refine oEnd ?_
          refine oAgain ?_
          refine oHead [0, 6, 7, 8, 9] [0, 1, 2, 3] (T' := [(0, .ptr 0 0), (6, .ptr 1 0), (7, .ptr 2 0), (8, .d (.int .i64 least1)), (9, .d (.int .i64 (IntKind.wrap .i64 (i7 - 1))))]) (H' := [.box [.d (.lit (List.map e_i64 x)), .d (.int .i64 x2)], .box [.nilc], .box [.ref 3 (List.length (xs6 ++ ([(IntKind.wrap .i64 (least1 + r11))] : List Int))) 0 (List.length (xs6 ++ ([(IntKind.wrap .i64 (least1 + r11))] : List Int)))], .sl 1 (List.map e_i64 (xs6 ++ ([(IntKind.wrap .i64 (least1 + r11))] : List Int))) false]) (by kernel_rfl) (by kernel_rfl) (by kernel_rfl) (by kernel_rfl) (by decide) (by kernel_rfl) (by kernel_rfl) ?_
          exact hag1 ((IntKind.wrap .i64 (i7 - 1)), x2, (xs6 ++ ([(IntKind.wrap .i64 (least1 + r11))] : List Int)))
        · refine oCondF (by kernel_rfl) ?_
          refine oExit rfl ?_
          refine oHead [6, 7] [0, 1, 2, 3] (T' := [(6, .ptr 1 0), (7, .ptr 2 0)]) (H' := [.box [.d (.lit (List.map e_i64 x)), .d (.int .i64 x11)], .box [.nilc], .box [.ref 3 (List.length xs6) 0 (List.length xs6)], .sl 1 (List.map e_i64 xs6) false]) (by kernel_rfl) (by kernel_rfl) (by kernel_rfl) (by kernel_rfl) (by decide) (by kernel_rfl) (by kernel_rfl) ?_
          exact hj4 (x11, xs6)
  · refine bSplit 10 (by kernel_rfl) (fun hc => ?_) (fun hc => ?_)
    · refine oCondT (by kernel_rfl) ?_
      refine oRegion rfl ?_
      refine oOp (.d (.int .i64 1)) (by kernel_rfl) (by kernel_rfl) (PureV.does (p_assign (by kernel_rfl))) ?_
      refine oEnd ?_
      refine oHead [0, 1, 6, 7, 8] [0, 1, 2] (T' := [(0, .ptr 0 0), (1, .d (.int .i64 n)), (6, .ptr 1 0), (7, .ptr 2 0), (8, .d (.int .i64 1))]) (H' := [.box [.d (.lit (List.map e_i64 x)), .d (.int .i64 x1)], .box [.nilc], .box [.nilc]]) (by kernel_rfl) (by kernel_rfl) (by kernel_rfl) (by kernel_rfl) (by decide) (by kernel_rfl) (by kernel_rfl) ?_
      exact hj3 1
    · refine oCondF (by kernel_rfl) ?_
      refine oSkip ?_
      refine oHead [0, 1, 6, 7, 8] [0, 1, 2] (T' := [(0, .ptr 0 0), (1, .d (.int .i64 n)), (6, .ptr 1 0), (7, .ptr 2 0), (8, .d (.int .i64 0))]) (H' := [.box [.d (.lit (List.map e_i64 x)), .d (.int .i64 x1)], .box [.nilc], .box [.nilc]]) (by kernel_rfl) (by kernel_rfl) (by kernel_rfl) (by kernel_rfl) (by decide) (by kernel_rfl) (by kernel_rfl) ?_
      exact hj3 0

/-- awardingbody/awardingbodyref32.Valid -/
def ref32_Valid_b1 (k : Nat) (d0 : (List Int)) (again : Int × Int → Option ((Unit) ⊕ (Bool))) : Int × Int → Option ((Unit) ⊕ (Bool)) := uc fun n4 => fun i4 => bif (decide (i4 < ((List.length d0) : Int))) then gidx d0 i4 fun e126 => Option.bind (bif (decide (e126 < 0)) then some true else some (decide (e126 > (IntKind.wrap .i64 (1048576 - n4)))) : Option (Bool)) (fun x15 => bif x15 then some (Sum.inr false) else gidx d0 i4 fun e127 => again ((IntKind.wrap .i64 (n4 + e127)), (IntKind.wrap .i64 (i4 + 1)))) else some (Sum.inl ())
def ref32_Valid (k : Nat) (d0 : (List Int)) : Option (Bool) := blet ((decide (((List.length d0) : Int) < 1)) || (decide (((List.length d0) : Int) > 201))) fun x5 => bif x5 then some false else Option.bind (gloop (ref32_Valid_b1 k d0) k (0, 0) : Option ((Unit) ⊕ (Bool))) (Sum.elim (u0 (some true)) (fun r => some r))
def ref32_Valid_E (d0 : (List Int)) : Bool → V × List Blk := fun r1 => (.d (.bool r1), [])
theorem ref32_Valid_goes (k : Nat) (d0 : (List Int)) : RunsO Try.prog 36 [.agg [.d (.lit (List.map e_i64 d0))]] [] (ref32_Valid_E d0) (ref32_Valid k d0) := by
  refine RunsO.of_goes (N := 45) (m := 0) (T := [(0, .agg [.d (.lit (List.map e_i64 d0))])]) Try.func36 rfl rfl (by kernel_rfl) (by kernel_rfl) (by kernel_rfl) ?_
  unfold ref32_Valid
  refine bStart ?_
  refine oSeq ?_
  refine oRegion rfl ?_
  refine oOp (.ptr 0 0) (by kernel_rfl) (by kernel_rfl) (k_box (H' := [.box [.d (.lit (List.map e_i64 d0))]]) (cells := [.d (.lit (List.map e_i64 d0))]) (by kernel_rfl) (by kernel_rfl) (by kernel_rfl)) ?_
  refine oOp (.d (.bool false)) (by kernel_rfl) (by kernel_rfl) (PureV.does (p_assign (by kernel_rfl))) ?_
  refine oEnd ?_
  refine oSeq ?_
  refine oSeq ?_
  refine oRegion rfl ?_
  refine oOp (.ptr 0 0) (by kernel_rfl) (by kernel_rfl) (PureV.does (k_fieldAddr 0 0 (by kernel_rfl) Try.underlying28 rfl ty22 (by kernel_rfl))) ?_
  refine oOp (.d (.lit (List.map e_i64 d0))) (by kernel_rfl) (by kernel_rfl) (Quiet.does (k_load 0 0 (by kernel_rfl) Try.underlying22 (by kernel_rfl) (by kernel_rfl))) ?_
  refine oOp (.d (.int .i64 ((List.length d0) : Int))) (by kernel_rfl) (by kernel_rfl) (PureV.does (k_lenLit (enc := e_i64) d0 (by kernel_rfl) Try.underlying22)) ?_
  refine oOp (.d (.bool (decide (((List.length d0) : Int) < 1)))) (by kernel_rfl) (by kernel_rfl) (PureV.does (p_int (k := .i64) (p := ((List.length d0) : Int)) (q := 1) (by kernel_rfl) (by kernel_rfl) (by kernel_rfl))) ?_
  refine oOp (.d (.bool (decide (((List.length d0) : Int) < 1)))) (by kernel_rfl) (by kernel_rfl) (PureV.does (p_move (by kernel_rfl))) ?_
  refine bMeetF (H' := [.box [.d (.lit (List.map e_i64 d0))]]) 5 rfl ((fun (x5 : Bool) => [(1, .ptr 0 0), (14, .d (.bool x5))])) (fun x5 => ?_) (fun F hj2 => ?_)
  · refine oView (T' := [(1, .ptr 0 0), (14, .d (.bool x5))]) (H' := [.box [.d (.lit (List.map e_i64 d0))]]) (by kernel_rfl) (by kernel_rfl) ?_
    refine oEnd ?_
    refine bSplit 14 (by kernel_rfl) (fun hc => ?_) (fun hc => ?_)
    · refine oCondT (by kernel_rfl) ?_
      refine oSeq ?_
      refine oRegion rfl ?_
      refine oOp (.d (.bool false)) (by kernel_rfl) (by kernel_rfl) (PureV.does (p_assign (by kernel_rfl))) ?_
      refine oEnd ?_
      exact oRet (r0 := false) (rv := .d (.bool false)) (B := []) (vs := [.d (.bool false)]) (σ := []) (by kernel_rfl) Try.func36 rfl (.cons _ _ _ _ (.tmp 2 _ (by kernel_rfl)) .nil) (by kernel_rfl) (by kernel_rfl) (by kernel_rfl) (by kernel_rfl) (by decide) (by kernel_rfl) (by kernel_rfl)
    · refine oCondF (by kernel_rfl) ?_
      refine oSkip ?_
      refine oSeq ?_
      refine oRegion rfl ?_
      refine oOp (.d (.int .i64 0)) (by kernel_rfl) (by kernel_rfl) (PureV.does (p_assign (by kernel_rfl))) ?_
      refine oEnd ?_
      refine oSeq ?_
      refine oSeq ?_
      refine oRegion rfl ?_
      refine oOp (.d (.int .i64 0)) (by kernel_rfl) (by kernel_rfl) (PureV.does (p_assign (by kernel_rfl))) ?_
      refine oEnd ?_
      refine bJoin ((u0 ([]))) ((u0 ([]))) Sum.inl (fun s => ?_) (fun hj3 => ?_)
      · cases s
        refine bInl ?_
        refine bU0 ?_
        refine oView (T' := []) (H' := []) (by kernel_rfl) (by kernel_rfl) ?_
        refine oSeq ?_
        refine oRegion rfl ?_
        refine oOp (.d (.bool true)) (by kernel_rfl) (by kernel_rfl) (PureV.does (p_assign (by kernel_rfl))) ?_
        refine oEnd ?_
        exact oRet (r0 := true) (rv := .d (.bool true)) (B := []) (vs := [.d (.bool true)]) (σ := []) (by kernel_rfl) Try.func36 rfl (.cons _ _ _ _ (.tmp 2 _ (by kernel_rfl)) .nil) (by kernel_rfl) (by kernel_rfl) (by kernel_rfl) (by kernel_rfl) (by decide) (by kernel_rfl) (by kernel_rfl)
      · refine oBlock ?_
        refine oLoop ?_
        refine oHead [1, 3, 4] [0] (T' := [(1, .ptr 0 0), (3, .d (.int .i64 0)), (4, .d (.int .i64 0))]) (H' := [.box [.d (.lit (List.map e_i64 d0))]]) (by kernel_rfl) (by kernel_rfl) (by kernel_rfl) (by kernel_rfl) (by decide) (by kernel_rfl) (by kernel_rfl) ?_
        refine bLoop (body := ref32_Valid_b1 k d0) ((uc fun (n4 : Int) => (fun (i4 : Int) => [(1, .ptr 0 0), (3, .d (.int .i64 n4)), (4, .d (.int .i64 i4))]))) ((uc fun (n4 : Int) => (fun (i4 : Int) => [.box [.d (.lit (List.map e_i64 d0))]]))) (fun again hag1 s => ?_) k (0, 0)
        · unfold ref32_Valid_b1
          obtain ⟨n4, i4⟩ := s
          refine bUc ?_
          refine oView (T' := [(1, .ptr 0 0), (3, .d (.int .i64 n4)), (4, .d (.int .i64 i4))]) (H' := [.box [.d (.lit (List.map e_i64 d0))]]) (by kernel_rfl) (by kernel_rfl) ?_
          refine oSeq ?_
          refine oSeq ?_
          refine oRegion rfl ?_
          refine oOp (.d (.int .i64 i4)) (by kernel_rfl) (by kernel_rfl) (PureV.does (p_move (by kernel_rfl))) ?_
          refine oOp (.ptr 0 0) (by kernel_rfl) (by kernel_rfl) (PureV.does (k_fieldAddr 0 0 (by kernel_rfl) Try.underlying28 rfl ty22 (by kernel_rfl))) ?_
          refine oOp (.d (.lit (List.map e_i64 d0))) (by kernel_rfl) (by kernel_rfl) (Quiet.does (k_load 0 0 (by kernel_rfl) Try.underlying22 (by kernel_rfl) (by kernel_rfl))) ?_
          refine oOp (.d (.int .i64 ((List.length d0) : Int))) (by kernel_rfl) (by kernel_rfl) (PureV.does (k_lenLit (enc := e_i64) d0 (by kernel_rfl) Try.underlying22)) ?_
          refine oOp (.d (.bool (decide (i4 < ((List.length d0) : Int))))) (by kernel_rfl) (by kernel_rfl) (PureV.does (p_int (k := .i64) (p := i4) (q := ((List.length d0) : Int)) (by kernel_rfl) (by kernel_rfl) (by kernel_rfl))) ?_
          refine oEnd ?_
          refine bSplit 19 (by kernel_rfl) (fun hc => ?_) (fun hc => ?_)
          · refine oCondT (by kernel_rfl) ?_
            refine oSkip ?_
            refine oSeq ?_
            refine oBlock ?_
            refine oSeq ?_
            refine oSeq ?_
            refine oRegion rfl ?_
            refine oOp (.ptr 0 0) (by kernel_rfl) (by kernel_rfl) (PureV.does (k_fieldAddr 0 0 (by kernel_rfl) Try.underlying28 rfl ty22 (by kernel_rfl))) ?_
            refine oOp (.d (.lit (List.map e_i64 d0))) (by kernel_rfl) (by kernel_rfl) (Quiet.does (k_load 0 0 (by kernel_rfl) Try.underlying22 (by kernel_rfl) (by kernel_rfl))) ?_
            refine oOp (.d (.int .i64 i4)) (by kernel_rfl) (by kernel_rfl) (PureV.does (p_move (by kernel_rfl))) ?_
            refine bIdx (fun e126 h152 h153 => ?_)
            refine oOp (.lptr (e_i64 e126) 0) (by kernel_rfl) (by kernel_rfl) (PureV.does (k_idxLit e_i64_len d0 (a := e126) (by kernel_rfl) (k := .i64) (i := i4) (by kernel_rfl) Try.underlying22 ty3 h152 h153)) ?_
            refine oOp (.d (.int .i64 e126)) (by kernel_rfl) (by kernel_rfl) (Quiet.does (k_loadL (cells := e_i64 e126) 0 (by kernel_rfl) Try.underlying3 (by kernel_rfl) (by kernel_rfl))) ?_
            refine oOp (.d (.bool (decide (e126 < 0)))) (by kernel_rfl) (by kernel_rfl) (PureV.does (p_int (k := .i64) (p := e126) (q := 0) (by kernel_rfl) (by kernel_rfl) (by kernel_rfl))) ?_
            refine oOp (.d (.bool (decide (e126 < 0)))) (by kernel_rfl) (by kernel_rfl) (PureV.does (p_move (by kernel_rfl))) ?_
            refine bMeet 9 rfl ((fun (x15 : Bool) => [(1, .ptr 0 0), (3, .d (.int .i64 n4)), (4, .d (.int .i64 i4)), (37, .d (.bool x15))])) ((fun (x15 : Bool) => [.box [.d (.lit (List.map e_i64 d0))]])) (fun s => s) (fun x15 => ?_) (fun hj4 => ?_)
            · refine oView (T' := [(1, .ptr 0 0), (3, .d (.int .i64 n4)), (4, .d (.int .i64 i4)), (37, .d (.bool x15))]) (H' := [.box [.d (.lit (List.map e_i64 d0))]]) (by kernel_rfl) (by kernel_rfl) ?_
              refine oEnd ?_
              refine bSplit 37 (by kernel_rfl) (fun hc => ?_) (fun hc => ?_)
              · refine oCondT (by kernel_rfl) ?_
                refine oSeq ?_
                refine oRegion rfl ?_
                refine oOp (.d (.bool false)) (by kernel_rfl) (by kernel_rfl) (PureV.does (p_assign (by kernel_rfl))) ?_
                refine oEnd ?_
                exact oRet (r0 := false) (rv := .d (.bool false)) (B := []) (vs := [.d (.bool false)]) (σ := []) (by kernel_rfl) Try.func36 rfl (.cons _ _ _ _ (.tmp 2 _ (by kernel_rfl)) .nil) (by kernel_rfl) (by kernel_rfl) (by kernel_rfl) (by kernel_rfl) (by decide) (by kernel_rfl) (by kernel_rfl)
              · refine oCondF (by kernel_rfl) ?_
                refine oSkip ?_
                refine oRegion rfl ?_
                refine oOp (.d (.int .i64 n4)) (by kernel_rfl) (by kernel_rfl) (PureV.does (p_move (by kernel_rfl))) ?_
                refine oOp (.ptr 0 0) (by kernel_rfl) (by kernel_rfl) (PureV.does (k_fieldAddr 0 0 (by kernel_rfl) Try.underlying28 rfl ty22 (by kernel_rfl))) ?_
                refine oOp (.d (.lit (List.map e_i64 d0))) (by kernel_rfl) (by kernel_rfl) (Quiet.does (k_load 0 0 (by kernel_rfl) Try.underlying22 (by kernel_rfl) (by kernel_rfl))) ?_
                refine oOp (.d (.int .i64 i4)) (by kernel_rfl) (by kernel_rfl) (PureV.does (p_move (by kernel_rfl))) ?_
                refine bIdx (fun e127 h154 h155 => ?_)
                refine oOp (.lptr (e_i64 e127) 0) (by kernel_rfl) (by kernel_rfl) (PureV.does (k_idxLit e_i64_len d0 (a := e127) (by kernel_rfl) (k := .i64) (i := i4) (by kernel_rfl) Try.underlying22 ty3 h154 h155)) ?_
                refine oOp (.d (.int .i64 e127)) (by kernel_rfl) (by kernel_rfl) (Quiet.does (k_loadL (cells := e_i64 e127) 0 (by kernel_rfl) Try.underlying3 (by kernel_rfl) (by kernel_rfl))) ?_
                refine oOp (.d (.int .i64 (IntKind.wrap .i64 (n4 + e127)))) (by kernel_rfl) (by kernel_rfl) (PureV.does (p_int (k := .i64) (p := n4) (q := e127) (by kernel_rfl) (by kernel_rfl) (by kernel_rfl))) ?_
                refine oOp (.d (.int .i64 (IntKind.wrap .i64 (n4 + e127)))) (by kernel_rfl) (by kernel_rfl) (PureV.does (p_assign (by kernel_rfl))) ?_
                refine oEnd ?_
                refine oBlk ?_
                refine oRegion rfl ?_
                refine oOp (.d (.int .i64 i4)) (by kernel_rfl) (by kernel_rfl) (PureV.does (p_move (by kernel_rfl))) ?_
                refine oOp (.d (.int .i64 (IntKind.wrap .i64 (i4 + 1)))) (by kernel_rfl) (by kernel_rfl) (PureV.does (p_int (k := .i64) (p := i4) (q := 1) (by kernel_rfl) (by kernel_rfl) (by kernel_rfl))) ?_
                refine oOp (.d (.int .i64 (IntKind.wrap .i64 (i4 + 1)))) (by kernel_rfl) (by kernel_rfl) (PureV.does (p_assign (by kernel_rfl))) ?_
                refine oEnd ?_
                refine oAgain ?_
                refine oHead [1, 3, 4] [0] (T' := [(1, .ptr 0 0), (3, .d (.int .i64 (IntKind.wrap .i64 (n4 + e127)))), (4, .d (.int .i64 (IntKind.wrap .i64 (i4 + 1))))]) (H' := [.box [.d (.lit (List.map e_i64 d0))]]) (by kernel_rfl) (by kernel_rfl) (by kernel_rfl) (by kernel_rfl) (by decide) (by kernel_rfl) (by kernel_rfl) ?_
                exact hag1 ((IntKind.wrap .i64 (n4 + e127)), (IntKind.wrap .i64 (i4 + 1)))
            · refine bSplit 28 (by kernel_rfl) (fun hc => ?_) (fun hc => ?_)
              · refine oNot (by kernel_rfl) (by kernel_rfl) ?_
                refine oNot (by kernel_rfl) (by kernel_rfl) ?_
                refine oNot (by kernel_rfl) (by kernel_rfl) ?_
                refine oNot (by kernel_rfl) (by kernel_rfl) ?_
                refine oNot (by kernel_rfl) (by kernel_rfl) ?_
                refine oNot (by kernel_rfl) (by kernel_rfl) ?_
                refine oNot (by kernel_rfl) (by kernel_rfl) ?_
                refine oNot (by kernel_rfl) (by kernel_rfl) ?_
                refine oOp (.d (.bool true)) (by kernel_rfl) (by kernel_rfl) (PureV.does (p_pick (b := true) (by kernel_rfl) (by kernel_rfl))) ?_
                refine oHead [1, 3, 4, 37] [0] (T' := [(1, .ptr 0 0), (3, .d (.int .i64 n4)), (4, .d (.int .i64 i4)), (37, .d (.bool true))]) (H' := [.box [.d (.lit (List.map e_i64 d0))]]) (by kernel_rfl) (by kernel_rfl) (by kernel_rfl) (by kernel_rfl) (by decide) (by kernel_rfl) (by kernel_rfl) ?_
                exact hj4 true
              · refine oOp (.ptr 0 0) (by kernel_rfl) (by kernel_rfl) (PureV.does (k_fieldAddr 0 0 (by kernel_rfl) Try.underlying28 rfl ty22 (by kernel_rfl))) ?_
                refine oOp (.d (.lit (List.map e_i64 d0))) (by kernel_rfl) (by kernel_rfl) (Quiet.does (k_load 0 0 (by kernel_rfl) Try.underlying22 (by kernel_rfl) (by kernel_rfl))) ?_
                refine oOp (.d (.int .i64 i4)) (by kernel_rfl) (by kernel_rfl) (PureV.does (p_move (by kernel_rfl))) ?_
                refine oOp (.lptr (e_i64 e126) 0) (by kernel_rfl) (by kernel_rfl) (PureV.does (k_idxLit e_i64_len d0 (a := e126) (by kernel_rfl) (k := .i64) (i := i4) (by kernel_rfl) Try.underlying22 ty3 h152 h153)) ?_
                refine oOp (.d (.int .i64 e126)) (by kernel_rfl) (by kernel_rfl) (Quiet.does (k_loadL (cells := e_i64 e126) 0 (by kernel_rfl) Try.underlying3 (by kernel_rfl) (by kernel_rfl))) ?_
                refine oOp (.d (.int .i64 n4)) (by kernel_rfl) (by kernel_rfl) (PureV.does (p_move (by kernel_rfl))) ?_
                refine oOp (.d (.int .i64 (IntKind.wrap .i64 (1048576 - n4)))) (by kernel_rfl) (by kernel_rfl) (PureV.does (p_int (k := .i64) (p := 1048576) (q := n4) (by kernel_rfl) (by kernel_rfl) (by kernel_rfl))) ?_
                refine oOp (.d (.bool (decide (e126 > (IntKind.wrap .i64 (1048576 - n4)))))) (by kernel_rfl) (by kernel_rfl) (PureV.does (p_int (k := .i64) (p := e126) (q := (IntKind.wrap .i64 (1048576 - n4))) (by kernel_rfl) (by kernel_rfl) (by kernel_rfl))) ?_
                refine oOp (.d (.bool (decide (e126 > (IntKind.wrap .i64 (1048576 - n4)))))) (by kernel_rfl) (by kernel_rfl) (PureV.does (p_pick (b := false) (by kernel_rfl) (by kernel_rfl))) ?_
                refine oHead [1, 3, 4, 37] [0] (T' := [(1, .ptr 0 0), (3, .d (.int .i64 n4)), (4, .d (.int .i64 i4)), (37, .d (.bool (decide (e126 > (IntKind.wrap .i64 (1048576 - n4))))))]) (H' := [.box [.d (.lit (List.map e_i64 d0))]]) (by kernel_rfl) (by kernel_rfl) (by kernel_rfl) (by kernel_rfl) (by decide) (by kernel_rfl) (by kernel_rfl) ?_
                exact hj4 (decide (e126 > (IntKind.wrap .i64 (1048576 - n4))))
          · refine oCondF (by kernel_rfl) ?_
            refine oExit rfl ?_
            refine oHead [] [] (T' := []) (H' := []) (by kernel_rfl) (by kernel_rfl) (by kernel_rfl) (by kernel_rfl) (by decide) (by kernel_rfl) (by kernel_rfl) ?_
            exact hj3 ()
  · refine bPickF 9 (fun c => F (c || (decide (((List.length d0) : Int) > 201)))) (by kernel_rfl) (fun hc => ?_) (fun hc => ?_)
    · refine oNot (by kernel_rfl) (by kernel_rfl) ?_
      refine oNot (by kernel_rfl) (by kernel_rfl) ?_
      refine oNot (by kernel_rfl) (by kernel_rfl) ?_
      refine oNot (by kernel_rfl) (by kernel_rfl) ?_
      refine oOp (.d (.bool true)) (by kernel_rfl) (by kernel_rfl) (PureV.does (p_pick (b := true) (by kernel_rfl) (by kernel_rfl))) ?_
      refine oHead [1, 14] [0] (T' := [(1, .ptr 0 0), (14, .d (.bool true))]) (H' := [.box [.d (.lit (List.map e_i64 d0))]]) (by kernel_rfl) (by kernel_rfl) (by kernel_rfl) (by kernel_rfl) (by decide) (by kernel_rfl) (by kernel_rfl) ?_
      exact hj2 true
    · refine oOp (.ptr 0 0) (by kernel_rfl) (by kernel_rfl) (PureV.does (k_fieldAddr 0 0 (by kernel_rfl) Try.underlying28 rfl ty22 (by kernel_rfl))) ?_
      refine oOp (.d (.lit (List.map e_i64 d0))) (by kernel_rfl) (by kernel_rfl) (Quiet.does (k_load 0 0 (by kernel_rfl) Try.underlying22 (by kernel_rfl) (by kernel_rfl))) ?_
      refine oOp (.d (.int .i64 ((List.length d0) : Int))) (by kernel_rfl) (by kernel_rfl) (PureV.does (k_lenLit (enc := e_i64) d0 (by kernel_rfl) Try.underlying22)) ?_
      refine oOp (.d (.bool (decide (((List.length d0) : Int) > 201)))) (by kernel_rfl) (by kernel_rfl) (PureV.does (p_int (k := .i64) (p := ((List.length d0) : Int)) (q := 201) (by kernel_rfl) (by kernel_rfl) (by kernel_rfl))) ?_
      refine oOp (.d (.bool (decide (((List.length d0) : Int) > 201)))) (by kernel_rfl) (by kernel_rfl) (PureV.does (p_pick (b := false) (by kernel_rfl) (by kernel_rfl))) ?_
      refine oHead [1, 14] [0] (T' := [(1, .ptr 0 0), (14, .d (.bool (decide (((List.length d0) : Int) > 201))))]) (H' := [.box [.d (.lit (List.map e_i64 d0))]]) (by kernel_rfl) (by kernel_rfl) (by kernel_rfl) (by kernel_rfl) (by decide) (by kernel_rfl) (by kernel_rfl) ?_
      exact hj2 (decide (((List.length d0) : Int) > 201))

/-- awardingbody/awardingbodyref32.Below -/
def ref32_Below_b1 (k : Nat) (d0 : (List Int)) (score : Int) (again : Int × Int → Option (Int)) : Int × Int → Option (Int) := uc fun n6 => fun i4 => blet ((decide (i4 < ((List.length d0) : Int))) && (decide (i4 < score))) fun x12 => Option.bind (bif x12 then Option.bind (ref32_Valid k d0) (fun r18 => some r18) else some false : Option (Bool)) (fun x13 => bif x13 then gidx d0 i4 fun e113 => again ((IntKind.wrap .i64 (n6 + e113)), (IntKind.wrap .i64 (i4 + 1))) else some n6)
def ref32_Below (k : Nat) (d0 : (List Int)) (score : Int) : Option (Int) := Option.bind (gloop (ref32_Below_b1 k d0 score) k (0, 0) : Option (Int)) (fun n5 => some n5)
def ref32_Below_E (d0 : (List Int)) (score : Int) : Int → V × List Blk := fun r12 => (.d (.int .i64 r12), [])
theorem ref32_Below_goes (k : Nat) (d0 : (List Int)) (score : Int) : RunsO Try.prog 21 [.agg [.d (.lit (List.map e_i64 d0))], .d (.int .i64 score)] [] (ref32_Below_E d0 score) (ref32_Below k d0 score) := by
  refine RunsO.of_goes (N := 31) (m := 0) (T := [(0, .agg [.d (.lit (List.map e_i64 d0))]), (1, .d (.int .i64 score))]) Try.func21 rfl rfl (by kernel_rfl) (by kernel_rfl) (by kernel_rfl) ?_
  unfold ref32_Below
  refine bStart ?_
  refine oSeq ?_
  refine oRegion rfl ?_
  refine oOp (.ptr 0 0) (by kernel_rfl) (by kernel_rfl) (k_box (H' := [.box [.d (.lit (List.map e_i64 d0))]]) (cells := [.d (.lit (List.map e_i64 d0))]) (by kernel_rfl) (by kernel_rfl) (by kernel_rfl)) ?_
  refine oOp (.d (.int .i64 0)) (by kernel_rfl) (by kernel_rfl) (PureV.does (p_assign (by kernel_rfl))) ?_
  refine oEnd ?_
  refine oSeq ?_
  refine oRegion rfl ?_
  refine oOp (.d (.int .i64 0)) (by kernel_rfl) (by kernel_rfl) (PureV.does (p_assign (by kernel_rfl))) ?_
  refine oEnd ?_
  refine oSeq ?_
  refine oSeq ?_
  refine oRegion rfl ?_
  refine oOp (.d (.int .i64 0)) (by kernel_rfl) (by kernel_rfl) (PureV.does (p_assign (by kernel_rfl))) ?_
  refine oEnd ?_
  refine bJoin ((fun (n5 : Int) => [(5, .d (.int .i64 n5))])) ((fun (n5 : Int) => [])) (fun s => s) (fun n5 => ?_) (fun hj2 => ?_)
  · refine oView (T' := [(5, .d (.int .i64 n5))]) (H' := []) (by kernel_rfl) (by kernel_rfl) ?_
    refine oSeq ?_
    refine oRegion rfl ?_
    refine oOp (.d (.int .i64 n5)) (by kernel_rfl) (by kernel_rfl) (PureV.does (p_move (by kernel_rfl))) ?_
    refine oOp (.d (.int .i64 n5)) (by kernel_rfl) (by kernel_rfl) (PureV.does (p_assign (by kernel_rfl))) ?_
    refine oEnd ?_
    exact oRet (r0 := n5) (rv := .d (.int .i64 n5)) (B := []) (vs := [.d (.int .i64 n5)]) (σ := []) (by kernel_rfl) Try.func21 rfl (.cons _ _ _ _ (.tmp 4 _ (by kernel_rfl)) .nil) (by kernel_rfl) (by kernel_rfl) (by kernel_rfl) (by kernel_rfl) (by decide) (by kernel_rfl) (by kernel_rfl)
  · refine oBlock ?_
    refine oLoop ?_
    refine oHead [1, 2, 5, 6] [0] (T' := [(1, .d (.int .i64 score)), (2, .ptr 0 0), (5, .d (.int .i64 0)), (6, .d (.int .i64 0))]) (H' := [.box [.d (.lit (List.map e_i64 d0))]]) (by kernel_rfl) (by kernel_rfl) (by kernel_rfl) (by kernel_rfl) (by decide) (by kernel_rfl) (by kernel_rfl) ?_
    refine bLoop (body := ref32_Below_b1 k d0 score) ((uc fun (n6 : Int) => (fun (i4 : Int) => [(1, .d (.int .i64 score)), (2, .ptr 0 0), (5, .d (.int .i64 n6)), (6, .d (.int .i64 i4))]))) ((uc fun (n6 : Int) => (fun (i4 : Int) => [.box [.d (.lit (List.map e_i64 d0))]]))) (fun again hag1 s => ?_) k (0, 0)
    · unfold ref32_Below_b1
      obtain ⟨n6, i4⟩ := s
      refine bUc ?_
      refine oView (T' := [(1, .d (.int .i64 score)), (2, .ptr 0 0), (5, .d (.int .i64 n6)), (6, .d (.int .i64 i4))]) (H' := [.box [.d (.lit (List.map e_i64 d0))]]) (by kernel_rfl) (by kernel_rfl) ?_
      refine oSeq ?_
      refine oSeq ?_
      refine oRegion rfl ?_
      refine oOp (.d (.int .i64 i4)) (by kernel_rfl) (by kernel_rfl) (PureV.does (p_move (by kernel_rfl))) ?_
      refine oOp (.ptr 0 0) (by kernel_rfl) (by kernel_rfl) (PureV.does (k_fieldAddr 0 0 (by kernel_rfl) Try.underlying28 rfl ty22 (by kernel_rfl))) ?_
      refine oOp (.d (.lit (List.map e_i64 d0))) (by kernel_rfl) (by kernel_rfl) (Quiet.does (k_load 0 0 (by kernel_rfl) Try.underlying22 (by kernel_rfl) (by kernel_rfl))) ?_
      refine oOp (.d (.int .i64 ((List.length d0) : Int))) (by kernel_rfl) (by kernel_rfl) (PureV.does (k_lenLit (enc := e_i64) d0 (by kernel_rfl) Try.underlying22)) ?_
      refine oOp (.d (.bool (decide (i4 < ((List.length d0) : Int))))) (by kernel_rfl) (by kernel_rfl) (PureV.does (p_int (k := .i64) (p := i4) (q := ((List.length d0) : Int)) (by kernel_rfl) (by kernel_rfl) (by kernel_rfl))) ?_
      refine oOp (.d (.bool (decide (i4 < ((List.length d0) : Int))))) (by kernel_rfl) (by kernel_rfl) (PureV.does (p_move (by kernel_rfl))) ?_
      refine bMeetF (H' := [.box [.d (.lit (List.map e_i64 d0))]]) 4 rfl ((fun (x12 : Bool) => [(1, .d (.int .i64 score)), (2, .ptr 0 0), (5, .d (.int .i64 n6)), (6, .d (.int .i64 i4)), (16, .d (.bool x12))])) (fun x12 => ?_) (fun F hj3 => ?_)
      · refine oView (T' := [(1, .d (.int .i64 score)), (2, .ptr 0 0), (5, .d (.int .i64 n6)), (6, .d (.int .i64 i4)), (16, .d (.bool x12))]) (H' := [.box [.d (.lit (List.map e_i64 d0))]]) (by kernel_rfl) (by kernel_rfl) ?_
        refine oOp (.d (.bool x12)) (by kernel_rfl) (by kernel_rfl) (PureV.does (p_move (by kernel_rfl))) ?_
        refine bMeet 3 rfl ((fun (x13 : Bool) => [(1, .d (.int .i64 score)), (2, .ptr 0 0), (5, .d (.int .i64 n6)), (6, .d (.int .i64 i4)), (20, .d (.bool x13))])) ((fun (x13 : Bool) => [.box [.d (.lit (List.map e_i64 d0))]])) (fun s => s) (fun x13 => ?_) (fun hj4 => ?_)
        · refine oView (T' := [(1, .d (.int .i64 score)), (2, .ptr 0 0), (5, .d (.int .i64 n6)), (6, .d (.int .i64 i4)), (20, .d (.bool x13))]) (H' := [.box [.d (.lit (List.map e_i64 d0))]]) (by kernel_rfl) (by kernel_rfl) ?_
          refine oEnd ?_
          refine bSplit 20 (by kernel_rfl) (fun hc => ?_) (fun hc => ?_)
          · refine oCondT (by kernel_rfl) ?_
            refine oSkip ?_
            refine oSeq ?_
            refine oBlock ?_
            refine oRegion rfl ?_
            refine oOp (.d (.int .i64 n6)) (by kernel_rfl) (by kernel_rfl) (PureV.does (p_move (by kernel_rfl))) ?_
            refine oOp (.ptr 0 0) (by kernel_rfl) (by kernel_rfl) (PureV.does (k_fieldAddr 0 0 (by kernel_rfl) Try.underlying28 rfl ty22 (by kernel_rfl))) ?_
            refine oOp (.d (.lit (List.map e_i64 d0))) (by kernel_rfl) (by kernel_rfl) (Quiet.does (k_load 0 0 (by kernel_rfl) Try.underlying22 (by kernel_rfl) (by kernel_rfl))) ?_
            refine oOp (.d (.int .i64 i4)) (by kernel_rfl) (by kernel_rfl) (PureV.does (p_move (by kernel_rfl))) ?_
            refine bIdx (fun e113 h126 h127 => ?_)
            refine oOp (.lptr (e_i64 e113) 0) (by kernel_rfl) (by kernel_rfl) (PureV.does (k_idxLit e_i64_len d0 (a := e113) (by kernel_rfl) (k := .i64) (i := i4) (by kernel_rfl) Try.underlying22 ty3 h126 h127)) ?_
            refine oOp (.d (.int .i64 e113)) (by kernel_rfl) (by kernel_rfl) (Quiet.does (k_loadL (cells := e_i64 e113) 0 (by kernel_rfl) Try.underlying3 (by kernel_rfl) (by kernel_rfl))) ?_
            refine oOp (.d (.int .i64 (IntKind.wrap .i64 (n6 + e113)))) (by kernel_rfl) (by kernel_rfl) (PureV.does (p_int (k := .i64) (p := n6) (q := e113) (by kernel_rfl) (by kernel_rfl) (by kernel_rfl))) ?_
            refine oOp (.d (.int .i64 (IntKind.wrap .i64 (n6 + e113)))) (by kernel_rfl) (by kernel_rfl) (PureV.does (p_assign (by kernel_rfl))) ?_
            refine oEnd ?_
            refine oBlk ?_
            refine oRegion rfl ?_
            refine oOp (.d (.int .i64 i4)) (by kernel_rfl) (by kernel_rfl) (PureV.does (p_move (by kernel_rfl))) ?_
            refine oOp (.d (.int .i64 (IntKind.wrap .i64 (i4 + 1)))) (by kernel_rfl) (by kernel_rfl) (PureV.does (p_int (k := .i64) (p := i4) (q := 1) (by kernel_rfl) (by kernel_rfl) (by kernel_rfl))) ?_
            refine oOp (.d (.int .i64 (IntKind.wrap .i64 (i4 + 1)))) (by kernel_rfl) (by kernel_rfl) (PureV.does (p_assign (by kernel_rfl))) ?_
            refine oEnd ?_
            refine oAgain ?_
            refine oHead [1, 2, 5, 6] [0] (T' := [(1, .d (.int .i64 score)), (2, .ptr 0 0), (5, .d (.int .i64 (IntKind.wrap .i64 (n6 + e113)))), (6, .d (.int .i64 (IntKind.wrap .i64 (i4 + 1))))]) (H' := [.box [.d (.lit (List.map e_i64 d0))]]) (by kernel_rfl) (by kernel_rfl) (by kernel_rfl) (by kernel_rfl) (by decide) (by kernel_rfl) (by kernel_rfl) ?_
            exact hag1 ((IntKind.wrap .i64 (n6 + e113)), (IntKind.wrap .i64 (i4 + 1)))
          · refine oCondF (by kernel_rfl) ?_
            refine oExit rfl ?_
            refine oHead [5] [] (T' := [(5, .d (.int .i64 n6))]) (H' := []) (by kernel_rfl) (by kernel_rfl) (by kernel_rfl) (by kernel_rfl) (by decide) (by kernel_rfl) (by kernel_rfl) ?_
            exact hj2 n6
        · refine bSplit 17 (by kernel_rfl) (fun hc => ?_) (fun hc => ?_)
          · refine oOp (.agg [.d (.lit (List.map e_i64 d0))]) (by kernel_rfl) (by kernel_rfl) (Quiet.does (k_loadAgg 0 0 (by kernel_rfl) Try.underlying28 (by kernel_rfl) ty28 (by kernel_rfl))) ?_
            refine bCall (caps := []) (v := (fun (r18 : Bool) => (.d (.bool r18) : V))) (H' := (fun (r18 : Bool) => ([.box [.d (.lit (List.map e_i64 d0))]] : List Blk))) [] _ (ref32_Valid_goes k d0) (by kernel_rfl) (by kernel_rfl) rfl (by kernel_rfl) Try.func36 rfl (by kernel_rfl) (ConvRs.refl _ _) (by kernel_rfl) (by kernel_rfl) (by kernel_rfl) (by decide) (by kernel_rfl) (by kernel_rfl) (fun _ => (by kernel_rfl)) (fun _ => (by kernel_rfl)) (fun _ => (by kernel_rfl)) (fun r18 => ?_)
            refine oOp (.d (.bool r18)) (by kernel_rfl) (by kernel_rfl) (PureV.does (p_pick (b := true) (by kernel_rfl) (by kernel_rfl))) ?_
            refine oHead [1, 2, 5, 6, 20] [0] (T' := [(1, .d (.int .i64 score)), (2, .ptr 0 0), (5, .d (.int .i64 n6)), (6, .d (.int .i64 i4)), (20, .d (.bool r18))]) (H' := [.box [.d (.lit (List.map e_i64 d0))]]) (by kernel_rfl) (by kernel_rfl) (by kernel_rfl) (by kernel_rfl) (by decide) (by kernel_rfl) (by kernel_rfl) ?_
            exact hj4 r18
          · refine oNot (by kernel_rfl) (by kernel_rfl) ?_
            refine oNot (by kernel_rfl) (by kernel_rfl) ?_
            refine oOp (.d (.bool false)) (by kernel_rfl) (by kernel_rfl) (PureV.does (p_pick (b := false) (by kernel_rfl) (by kernel_rfl))) ?_
            refine oHead [1, 2, 5, 6, 20] [0] (T' := [(1, .d (.int .i64 score)), (2, .ptr 0 0), (5, .d (.int .i64 n6)), (6, .d (.int .i64 i4)), (20, .d (.bool false))]) (H' := [.box [.d (.lit (List.map e_i64 d0))]]) (by kernel_rfl) (by kernel_rfl) (by kernel_rfl) (by kernel_rfl) (by decide) (by kernel_rfl) (by kernel_rfl) ?_
            exact hj4 false
      · refine bPickF 12 (fun c => F (c && (decide (i4 < score)))) (by kernel_rfl) (fun hc => ?_) (fun hc => ?_)
        · refine oOp (.d (.int .i64 i4)) (by kernel_rfl) (by kernel_rfl) (PureV.does (p_move (by kernel_rfl))) ?_
          refine oOp (.d (.int .i64 score)) (by kernel_rfl) (by kernel_rfl) (PureV.does (p_move (by kernel_rfl))) ?_
          refine oOp (.d (.bool (decide (i4 < score)))) (by kernel_rfl) (by kernel_rfl) (PureV.does (p_int (k := .i64) (p := i4) (q := score) (by kernel_rfl) (by kernel_rfl) (by kernel_rfl))) ?_
          refine oOp (.d (.bool (decide (i4 < score)))) (by kernel_rfl) (by kernel_rfl) (PureV.does (p_pick (b := true) (by kernel_rfl) (by kernel_rfl))) ?_
          refine oHead [1, 2, 5, 6, 16] [0] (T' := [(1, .d (.int .i64 score)), (2, .ptr 0 0), (5, .d (.int .i64 n6)), (6, .d (.int .i64 i4)), (16, .d (.bool (decide (i4 < score))))]) (H' := [.box [.d (.lit (List.map e_i64 d0))]]) (by kernel_rfl) (by kernel_rfl) (by kernel_rfl) (by kernel_rfl) (by decide) (by kernel_rfl) (by kernel_rfl) ?_
          exact hj3 (decide (i4 < score))
        · refine oNot (by kernel_rfl) (by kernel_rfl) ?_
          refine oNot (by kernel_rfl) (by kernel_rfl) ?_
          refine oNot (by kernel_rfl) (by kernel_rfl) ?_
          refine oOp (.d (.bool false)) (by kernel_rfl) (by kernel_rfl) (PureV.does (p_pick (b := false) (by kernel_rfl) (by kernel_rfl))) ?_
          refine oHead [1, 2, 5, 6, 16] [0] (T' := [(1, .d (.int .i64 score)), (2, .ptr 0 0), (5, .d (.int .i64 n6)), (6, .d (.int .i64 i4)), (16, .d (.bool false))]) (H' := [.box [.d (.lit (List.map e_i64 d0))]]) (by kernel_rfl) (by kernel_rfl) (by kernel_rfl) (by kernel_rfl) (by decide) (by kernel_rfl) (by kernel_rfl) ?_
          exact hj3 false

/-- awardingbody/awardingbodyref32.Count -/
def ref32_Count (k : Nat) (d0 : (List Int)) : Option (Int) := Option.bind (ref32_Below k d0 ((List.length d0) : Int)) (fun r121 => some r121)
def ref32_Count_E (d0 : (List Int)) : Int → V × List Blk := fun r1 => (.d (.int .i64 r1), [])
theorem ref32_Count_goes (k : Nat) (d0 : (List Int)) : RunsO Try.prog 15 [.agg [.d (.lit (List.map e_i64 d0))]] [] (ref32_Count_E d0) (ref32_Count k d0) := by
  refine RunsO.of_goes (N := 8) (m := 0) (T := [(0, .agg [.d (.lit (List.map e_i64 d0))])]) Try.func15 rfl rfl (by kernel_rfl) (by kernel_rfl) (by kernel_rfl) ?_
  unfold ref32_Count
  refine bStart ?_
  refine oSeq ?_
  refine oRegion rfl ?_
  refine oOp (.ptr 0 0) (by kernel_rfl) (by kernel_rfl) (k_box (H' := [.box [.d (.lit (List.map e_i64 d0))]]) (cells := [.d (.lit (List.map e_i64 d0))]) (by kernel_rfl) (by kernel_rfl) (by kernel_rfl)) ?_
  refine oOp (.d (.int .i64 0)) (by kernel_rfl) (by kernel_rfl) (PureV.does (p_assign (by kernel_rfl))) ?_
  refine oEnd ?_
  refine oSeq ?_
  refine oRegion rfl ?_
  refine oOp (.agg [.d (.lit (List.map e_i64 d0))]) (by kernel_rfl) (by kernel_rfl) (Quiet.does (k_loadAgg 0 0 (by kernel_rfl) Try.underlying28 (by kernel_rfl) ty28 (by kernel_rfl))) ?_
  refine oOp (.ptr 0 0) (by kernel_rfl) (by kernel_rfl) (PureV.does (k_fieldAddr 0 0 (by kernel_rfl) Try.underlying28 rfl ty22 (by kernel_rfl))) ?_
  refine oOp (.d (.lit (List.map e_i64 d0))) (by kernel_rfl) (by kernel_rfl) (Quiet.does (k_load 0 0 (by kernel_rfl) Try.underlying22 (by kernel_rfl) (by kernel_rfl))) ?_
  refine oOp (.d (.int .i64 ((List.length d0) : Int))) (by kernel_rfl) (by kernel_rfl) (PureV.does (k_lenLit (enc := e_i64) d0 (by kernel_rfl) Try.underlying22)) ?_
  refine bCall (caps := []) (v := (fun (r121 : Int) => (.d (.int .i64 r121) : V))) (H' := (fun (r121 : Int) => ([.box [.d (.lit (List.map e_i64 d0))]] : List Blk))) [] _ (ref32_Below_goes k d0 ((List.length d0) : Int)) (by kernel_rfl) (by kernel_rfl) rfl (by kernel_rfl) Try.func21 rfl (by kernel_rfl) (ConvRs.refl _ _) (by kernel_rfl) (by kernel_rfl) (by kernel_rfl) (by decide) (by kernel_rfl) (by kernel_rfl) (fun _ => (by kernel_rfl)) (fun _ => (by kernel_rfl)) (fun _ => (by kernel_rfl)) (fun r121 => ?_)
  refine oOp (.d (.int .i64 r121)) (by kernel_rfl) (by kernel_rfl) (PureV.does (p_assign (by kernel_rfl))) ?_
  refine oEnd ?_
  exact oRet (r0 := r121) (rv := .d (.int .i64 r121)) (B := []) (vs := [.d (.int .i64 r121)]) (σ := []) (by kernel_rfl) Try.func15 rfl (.cons _ _ _ _ (.tmp 2 _ (by kernel_rfl)) .nil) (by kernel_rfl) (by kernel_rfl) (by kernel_rfl) (by kernel_rfl) (by decide) (by kernel_rfl) (by kernel_rfl)

/-- (*awardingbody/awardingbodymark.Dice).Bounds -/
def mark_Dice_Bounds_b1 (k : Nat) (x : (List Int)) (again : Int × Int × Int × (List Int) → Option (Int × (List Int))) : Int × Int × Int × (List Int) → Option (Int × (List Int)) := uc fun b7 => uc fun i7 => uc fun x10 => fun xs6 => bif (decide (i7 > 0)) then Option.bind (mark_Dice_Next k (IntKind.wrap .i64 ((IntKind.wrap .i64 (Int.tdiv b7 2)) + 1)) x x10) (uc fun r116 => fun x615 => gcap (List.length (xs6 ++ ([(IntKind.wrap .i64 (b7 - r116))] : List Int))) 8 (again ((IntKind.wrap .i64 (b7 - r116)), (IntKind.wrap .i64 (i7 - 1)), x615, (xs6 ++ ([(IntKind.wrap .i64 (b7 - r116))] : List Int))))) else some (x10, xs6)
def mark_Dice_Bounds (k : Nat) (most : Int) (x : (List Int)) (x1 : Int) : Option ((List Int) × Int) := Option.bind (mark_Dice_Next k 4 x x1) (uc fun r16 => fun x65 => Option.bind (gloop (mark_Dice_Bounds_b1 k x) k ((IntKind.wrap .i64 (most + 1)), (IntKind.wrap .i64 (1 + r16)), x65, ([] : List Int)) : Option (Int × (List Int))) (uc fun x9 => fun xs5 => some (xs5, x9)))
def mark_Dice_Bounds_E (most : Int) (x : (List Int)) (x1 : Int) : (List Int) × Int → V × List Blk := uc fun r15 => fun x5 => (.d (.lit (List.map e_i64 r15)), [.box [.d (.lit (List.map e_i64 x)), .d (.int .i64 x5)]])
theorem mark_Dice_Bounds_goes (k : Nat) (most : Int) (x : (List Int)) (x1 : Int) : RunsO Try.prog 11 [.ptr 0 0, .d (.int .i64 most)] [.box [.d (.lit (List.map e_i64 x)), .d (.int .i64 x1)]] (mark_Dice_Bounds_E most x x1) (mark_Dice_Bounds k most x x1) := by
  refine RunsO.of_goes (N := 29) (m := 1) (T := [(0, .ptr 0 0), (1, .d (.int .i64 most))]) Try.func11 rfl rfl (by kernel_rfl) (by kernel_rfl) (by kernel_rfl) ?_
  unfold mark_Dice_Bounds
  refine bStart ?_
  refine oSeq ?_
  refine oRegion rfl ?_
  refine oOp (.nilc) (by kernel_rfl) (by kernel_rfl) (PureV.does (p_assign (by kernel_rfl))) ?_
  refine oEnd ?_
  refine oSeq ?_
  refine oRegion rfl ?_
  refine oOp (.nilc) (by kernel_rfl) (by kernel_rfl) (PureV.does (p_assign (by kernel_rfl))) ?_
  refine oEnd ?_
  refine oSeq ?_
  refine oRegion rfl ?_
  refine oOp (.d (.int .i64 most)) (by kernel_rfl) (by kernel_rfl) (PureV.does (p_move (by kernel_rfl))) ?_
  refine oOp (.d (.int .i64 (IntKind.wrap .i64 (most + 1)))) (by kernel_rfl) (by kernel_rfl) (PureV.does (p_int (k := .i64) (p := most) (q := 1) (by kernel_rfl) (by kernel_rfl) (by kernel_rfl))) ?_
  refine oOp (.d (.int .i64 (IntKind.wrap .i64 (most + 1)))) (by kernel_rfl) (by kernel_rfl) (PureV.does (p_assign (by kernel_rfl))) ?_
  refine oEnd ?_
  refine oSeq ?_
  refine oSeq ?_
  refine oRegion rfl ?_
  refine oOp (.ptr 0 0) (by kernel_rfl) (by kernel_rfl) (PureV.does (p_move (by kernel_rfl))) ?_
  refine bCall (caps := []) (v := (uc fun (r16 : Int) => (fun (x65 : Int) => (.d (.int .i64 r16) : V)))) (H' := (uc fun (r16 : Int) => (fun (x65 : Int) => ([.box [.d (.lit (List.map e_i64 x)), .d (.int .i64 x65)]] : List Blk)))) [0] _ (mark_Dice_Next_goes k 4 x x1) (by kernel_rfl) (by kernel_rfl) rfl (by kernel_rfl) Try.func25 rfl (by kernel_rfl) (ConvRs.refl _ _) (by kernel_rfl) (by kernel_rfl) (by kernel_rfl) (by decide) (by kernel_rfl) (by kernel_rfl) (fun _ => (by kernel_rfl)) (fun _ => (by kernel_rfl)) (fun _ => (by kernel_rfl)) (fun r => ?_)
  obtain ⟨r16, x65⟩ := r
  refine bUc ?_
  refine oOp (.d (.int .i64 (IntKind.wrap .i64 (1 + r16)))) (by kernel_rfl) (by kernel_rfl) (PureV.does (p_int (k := .i64) (p := 1) (q := r16) (by kernel_rfl) (by kernel_rfl) (by kernel_rfl))) ?_
  refine oOp (.d (.int .i64 (IntKind.wrap .i64 (1 + r16)))) (by kernel_rfl) (by kernel_rfl) (PureV.does (p_assign (by kernel_rfl))) ?_
  refine oEnd ?_
  refine bJoin ((uc fun (x9 : Int) => (fun (xs5 : (List Int)) => [(5, .ref 1 (List.length xs5) 0 (List.length xs5))]))) ((uc fun (x9 : Int) => (fun (xs5 : (List Int)) => [.box [.d (.lit (List.map e_i64 x)), .d (.int .i64 x9)], .sl 1 (List.map e_i64 xs5) false]))) (fun s => s) (fun s => ?_) (fun hj2 => ?_)
  · obtain ⟨x9, xs5⟩ := s
    refine bUc ?_
    refine oView (T' := [(5, .ref 1 (List.length xs5) 0 (List.length xs5))]) (H' := [.box [.d (.lit (List.map e_i64 x)), .d (.int .i64 x9)], .sl 1 (List.map e_i64 xs5) false]) (by kernel_rfl) (by kernel_rfl) ?_
    refine oSeq ?_
    refine oRegion rfl ?_
    refine oOp (.ref 1 (List.length xs5) 0 (List.length xs5)) (by kernel_rfl) (by kernel_rfl) (PureV.does (p_move (by kernel_rfl))) ?_
    refine oOp (.ref 1 (List.length xs5) 0 (List.length xs5)) (by kernel_rfl) (by kernel_rfl) (PureV.does (p_assign (by kernel_rfl))) ?_
    refine oEnd ?_
    refine oFreeze 1 (esz := 1) (xs := List.map e_i64 xs5) (by kernel_rfl) ?_
    refine oView (H' := [.box [.d (.lit (List.map e_i64 x)), .d (.int .i64 x9)], .sl 1 (List.map e_i64 xs5) true]) rfl (by kernel_rfl) ?_
    refine oConv 4 (v := .ref 1 (List.length xs5) 0 (List.length xs5)) (v' := .d (.lit (List.map e_i64 xs5))) (by kernel_rfl) (k_lit (enc := e_i64) (sz := 1) 1 xs5 (by kernel_rfl)) ?_
    exact oRet (r0 := (xs5, x9)) (rv := .d (.lit (List.map e_i64 xs5))) (B := [.box [.d (.lit (List.map e_i64 x)), .d (.int .i64 x9)]]) (vs := [.d (.lit (List.map e_i64 xs5))]) (σ := [0]) (by kernel_rfl) Try.func11 rfl (.cons _ _ _ _ (.tmp 4 _ (by kernel_rfl)) .nil) (by kernel_rfl) (by kernel_rfl) (by kernel_rfl) (by kernel_rfl) (by decide) (by kernel_rfl) (by kernel_rfl)
  · refine oBlock ?_
    refine oLoop ?_
    refine oVirt (esz := 1) 5 (by kernel_rfl) ?_
    refine oView (H' := [.box [.d (.lit (List.map e_i64 x)), .d (.int .i64 x65)], .sl 1 (List.map e_i64 ([] : List Int)) false]) rfl (by kernel_rfl) ?_
    refine oHead [0, 5, 6, 7] [0, 1] (T' := [(0, .ptr 0 0), (5, .ref 1 (List.length ([] : List Int)) 0 (List.length ([] : List Int))), (6, .d (.int .i64 (IntKind.wrap .i64 (most + 1)))), (7, .d (.int .i64 (IntKind.wrap .i64 (1 + r16))))]) (H' := [.box [.d (.lit (List.map e_i64 x)), .d (.int .i64 x65)], .sl 1 (List.map e_i64 ([] : List Int)) false]) (by kernel_rfl) (by kernel_rfl) (by kernel_rfl) (by kernel_rfl) (by decide) (by kernel_rfl) (by kernel_rfl) ?_
    refine bLoop (body := mark_Dice_Bounds_b1 k x) ((uc fun (b7 : Int) => (uc fun (i7 : Int) => (uc fun (x10 : Int) => (fun (xs6 : (List Int)) => [(0, .ptr 0 0), (5, .ref 1 (List.length xs6) 0 (List.length xs6)), (6, .d (.int .i64 b7)), (7, .d (.int .i64 i7))]))))) ((uc fun (b7 : Int) => (uc fun (i7 : Int) => (uc fun (x10 : Int) => (fun (xs6 : (List Int)) => [.box [.d (.lit (List.map e_i64 x)), .d (.int .i64 x10)], .sl 1 (List.map e_i64 xs6) false]))))) (fun again hag1 s => ?_) k ((IntKind.wrap .i64 (most + 1)), (IntKind.wrap .i64 (1 + r16)), x65, ([] : List Int))
    · unfold mark_Dice_Bounds_b1
      obtain ⟨b7, i7, x10, xs6⟩ := s
      refine bUc ?_
      refine bUc ?_
      refine bUc ?_
      refine oView (T' := [(0, .ptr 0 0), (5, .ref 1 (List.length xs6) 0 (List.length xs6)), (6, .d (.int .i64 b7)), (7, .d (.int .i64 i7))]) (H' := [.box [.d (.lit (List.map e_i64 x)), .d (.int .i64 x10)], .sl 1 (List.map e_i64 xs6) false]) (by kernel_rfl) (by kernel_rfl) ?_
      refine oSeq ?_
      refine oSeq ?_
      refine oRegion rfl ?_
      refine oOp (.d (.int .i64 i7)) (by kernel_rfl) (by kernel_rfl) (PureV.does (p_move (by kernel_rfl))) ?_
      refine oOp (.d (.bool (decide (i7 > 0)))) (by kernel_rfl) (by kernel_rfl) (PureV.does (p_int (k := .i64) (p := i7) (q := 0) (by kernel_rfl) (by kernel_rfl) (by kernel_rfl))) ?_
      refine oEnd ?_
      refine bSplit 14 (by kernel_rfl) (fun hc => ?_) (fun hc => ?_)
      · refine oCondT (by kernel_rfl) ?_
        refine oSkip ?_
        refine oSeq ?_
        refine oBlock ?_
        refine oSeq ?_
        refine oRegion rfl ?_
        refine oOp (.d (.int .i64 b7)) (by kernel_rfl) (by kernel_rfl) (PureV.does (p_move (by kernel_rfl))) ?_
        refine oOp (.ptr 0 0) (by kernel_rfl) (by kernel_rfl) (PureV.does (p_move (by kernel_rfl))) ?_
        refine oOp (.d (.int .i64 b7)) (by kernel_rfl) (by kernel_rfl) (PureV.does (p_move (by kernel_rfl))) ?_
        refine oOp (.d (.int .i64 (IntKind.wrap .i64 (Int.tdiv b7 2)))) (by kernel_rfl) (by kernel_rfl) (PureV.does (p_quo (k := .i64) (p := b7) (q := 2) (by kernel_rfl) (by kernel_rfl) (by decide) (by kernel_rfl))) ?_
        refine oOp (.d (.int .i64 (IntKind.wrap .i64 ((IntKind.wrap .i64 (Int.tdiv b7 2)) + 1)))) (by kernel_rfl) (by kernel_rfl) (PureV.does (p_int (k := .i64) (p := (IntKind.wrap .i64 (Int.tdiv b7 2))) (q := 1) (by kernel_rfl) (by kernel_rfl) (by kernel_rfl))) ?_
        refine bCall (caps := []) (v := (uc fun (r116 : Int) => (fun (x615 : Int) => (.d (.int .i64 r116) : V)))) (H' := (uc fun (r116 : Int) => (fun (x615 : Int) => ([.box [.d (.lit (List.map e_i64 x)), .d (.int .i64 x615)], .sl 1 (List.map e_i64 xs6) false] : List Blk)))) [0] _ (mark_Dice_Next_goes k (IntKind.wrap .i64 ((IntKind.wrap .i64 (Int.tdiv b7 2)) + 1)) x x10) (by kernel_rfl) (by kernel_rfl) rfl (by kernel_rfl) Try.func25 rfl (by kernel_rfl) (ConvRs.refl _ _) (by kernel_rfl) (by kernel_rfl) (by kernel_rfl) (by decide) (by kernel_rfl) (by kernel_rfl) (fun _ => (by kernel_rfl)) (fun _ => (by kernel_rfl)) (fun _ => (by kernel_rfl)) (fun r => ?_)
        obtain ⟨r116, x615⟩ := r
        refine bUc ?_
        refine oOp (.d (.int .i64 (IntKind.wrap .i64 (b7 - r116)))) (by kernel_rfl) (by kernel_rfl) (PureV.does (p_int (k := .i64) (p := b7) (q := r116) (by kernel_rfl) (by kernel_rfl) (by kernel_rfl))) ?_
        refine oOp (.d (.int .i64 (IntKind.wrap .i64 (b7 - r116)))) (by kernel_rfl) (by kernel_rfl) (PureV.does (p_assign (by kernel_rfl))) ?_
        refine oEnd ?_
        refine oRegion rfl ?_
        refine oOp (.ref 1 (List.length xs6) 0 (List.length xs6)) (by kernel_rfl) (by kernel_rfl) (PureV.does (p_move (by kernel_rfl))) ?_
        refine oOp (.d (.int .i64 (IntKind.wrap .i64 (b7 - r116)))) (by kernel_rfl) (by kernel_rfl) (PureV.does (p_move (by kernel_rfl))) ?_
        refine oOp (.ref 2 (List.length ([(IntKind.wrap .i64 (b7 - r116))] : List Int)) 0 (List.length ([(IntKind.wrap .i64 (b7 - r116))] : List Int))) (by kernel_rfl) (by kernel_rfl) (k_buildSlice (H' := [.box [.d (.lit (List.map e_i64 x)), .d (.int .i64 x615)], .sl 1 (List.map e_i64 xs6) false, .sl 1 (List.map e_i64 ([(IntKind.wrap .i64 (b7 - r116))] : List Int)) false]) (List.map e_i64 ([(IntKind.wrap .i64 (b7 - r116))] : List Int)) Try.underlying22 ty3 (by kernel_rfl) (by kernel_rfl) (by kernel_rfl)) ?_
        refine bCap (fun h113 => ?_)
        refine oOp (.ref 1 (List.length (xs6 ++ ([(IntKind.wrap .i64 (b7 - r116))] : List Int))) 0 (List.length (xs6 ++ ([(IntKind.wrap .i64 (b7 - r116))] : List Int)))) (by kernel_rfl) (by kernel_rfl) (k_append (H' := [.box [.d (.lit (List.map e_i64 x)), .d (.int .i64 x615)], .sl 1 (List.map e_i64 (xs6 ++ ([(IntKind.wrap .i64 (b7 - r116))] : List Int))) false, .sl 1 (List.map e_i64 ([(IntKind.wrap .i64 (b7 - r116))] : List Int)) false]) (enc := e_i64) 1 xs6 ([(IntKind.wrap .i64 (b7 - r116))] : List Int) Try.underlying22 Try.underlying22 ty3 (by kernel_rfl) (by kernel_rfl) (by kernel_rfl) (holdsRef (enc := e_i64) 2 ([(IntKind.wrap .i64 (b7 - r116))] : List Int) false (by kernel_rfl) (by kernel_rfl)) h113 (by kernel_rfl)) ?_
        refine oOp (.ref 1 (List.length (xs6 ++ ([(IntKind.wrap .i64 (b7 - r116))] : List Int))) 0 (List.length (xs6 ++ ([(IntKind.wrap .i64 (b7 - r116))] : List Int)))) (by kernel_rfl) (by kernel_rfl) (PureV.does (p_assign (by kernel_rfl))) ?_
        refine oEnd ?_
        refine oBlk ?_
        refine oRegion rfl ?_
        refine oOp (.d (.int .i64 i7)) (by kernel_rfl) (by kernel_rfl) (PureV.does (p_move (by kernel_rfl))) ?_
        refine oOp (.d (.int .i64 (IntKind.wrap .i64 (i7 - 1)))) (by kernel_rfl) (by kernel_rfl) (PureV.does (p_int (k := .i64) (p := i7) (q := 1) (by kernel_rfl) (by kernel_rfl) (by kernel_rfl))) ?_
        refine oOp (.d (.int .i64 (IntKind.wrap .i64 (i7 - 1)))) (by kernel_rfl) (by kernel_rfl) (PureV.does (p_assign (by kernel_rfl))) ?_
        refine oEnd ?_
        refine oAgain ?_
        refine oHead [0, 5, 6, 7] [0, 1] (T' := [(0, .ptr 0 0), (5, .ref 1 (List.length (xs6 ++ ([(IntKind.wrap .i64 (b7 - r116))] : List Int))) 0 (List.length (xs6 ++ ([(IntKind.wrap .i64 (b7 - r116))] : List Int)))), (6, .d (.int .i64 (IntKind.wrap .i64 (b7 - r116)))), (7, .d (.int .i64 (IntKind.wrap .i64 (i7 - 1))))]) (H' := [.box [.d (.lit (List.map e_i64 x)), .d (.int .i64 x615)], .sl 1 (List.map e_i64 (xs6 ++ ([(IntKind.wrap .i64 (b7 - r116))] : List Int))) false]) (by kernel_rfl) (by kernel_rfl) (by kernel_rfl) (by kernel_rfl) (by decide) (by kernel_rfl) (by kernel_rfl) ?_
        exact hag1 ((IntKind.wrap .i64 (b7 - r116)), (IntKind.wrap .i64 (i7 - 1)), x615, (xs6 ++ ([(IntKind.wrap .i64 (b7 - r116))] : List Int)))
      · refine oCondF (by kernel_rfl) ?_
        refine oExit rfl ?_
        refine oHead [5] [0, 1] (T' := [(5, .ref 1 (List.length xs6) 0 (List.length xs6))]) (H' := [.box [.d (.lit (List.map e_i64 x)), .d (.int .i64 x10)], .sl 1 (List.map e_i64 xs6) false]) (by kernel_rfl) (by kernel_rfl) (by kernel_rfl) (by kernel_rfl) (by decide) (by kernel_rfl) (by kernel_rfl) ?_
        exact hj2 (x10, xs6)

end Go.VM
