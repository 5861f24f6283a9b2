/- Plain functions that answer as the program's functions do, and the proof that they do. -/
import Derived.Test.YteofgcpnhiplkaaProg
import Derived.KernelRfl
import Derived.Test.YteofgcpnhiplkaaEngS
import Derived.Test.YteofgcpnhiplkaaMFacts
import Derived.Test.YteofgcpnhiplkaaMFuns0
namespace Go.VM
open Go.Proofs
set_option linter.unusedVariables false
set_option linter.unusedSimpArgs false
set_option maxRecDepth 100000
/-- awardingbody/marker.Able -/
def marker_Able_b1 (k : Nat) (l : (List SMarker)) (s0 : Int) (s1 : Int) (s2 : Int) (s3 : Int) (s4 : Int) (s5 : (List Int)) (s6 : (List Int)) (again : Int × (List Int) → Option ((List Int))) : Int × (List Int) → Option ((List Int)) := uc fun x4 => fun xs11 => bif (decide (x4 < ((List.length l) : Int))) then Option.bind (gidx l x4 fun e17 => Option.bind (marker_Eligible k l e17.ID s0 s1 s2 s3 s4 s5 s6) (fun r117 => bif r117 then gcap (List.length (xs11 ++ ([e17.ID] : List Int))) 8 (some (xs11 ++ ([e17.ID] : List Int))) else some xs11) : Option ((List Int))) (fun xs14 => again ((IntKind.wrap .i64 (x4 + 1)), xs14)) else some xs11
def marker_Able (k : Nat) (l : (List SMarker)) (s0 : Int) (s1 : Int) (s2 : Int) (s3 : Int) (s4 : Int) (s5 : (List Int)) (s6 : (List Int)) : Option ((List Int)) := Option.bind (gloop (marker_Able_b1 k l s0 s1 s2 s3 s4 s5 s6) k (0, ([] : List Int)) : Option ((List Int))) (fun xs9 => some xs9)
def marker_Able_E (l : (List SMarker)) (s0 : Int) (s1 : Int) (s2 : Int) (s3 : Int) (s4 : Int) (s5 : (List Int)) (s6 : (List Int)) : (List Int) → V × List Blk := fun r1 => (.d (.lit (List.map e_i64 r1)), [])
theorem marker_Able_goes (k : Nat) (l : (List SMarker)) (s0 : Int) (s1 : Int) (s2 : Int) (s3 : Int) (s4 : Int) (s5 : (List Int)) (s6 : (List Int)) : RunsO Try.prog 20 [.d (.lit (List.map e_SMarker l)), .agg [.d (.int .i64 s0), .d (.int .i64 s1), .d (.int .i64 s2), .d (.int .i64 s3), .d (.int .i64 s4), .d (.lit (List.map e_i64 s5)), .d (.lit (List.map e_i64 s6))]] [] (marker_Able_E l s0 s1 s2 s3 s4 s5 s6) (marker_Able k l s0 s1 s2 s3 s4 s5 s6) := by
  refine RunsO.of_goes (N := 26) (m := 0) (T := [(0, .d (.lit (List.map e_SMarker l))), (1, .agg [.d (.int .i64 s0), .d (.int .i64 s1), .d (.int .i64 s2), .d (.int .i64 s3), .d (.int .i64 s4), .d (.lit (List.map e_i64 s5)), .d (.lit (List.map e_i64 s6))])]) Try.func20 rfl rfl (by kernel_rfl) (by kernel_rfl) (by kernel_rfl) ?_
  unfold marker_Able
  refine bStart ?_
  refine oSeq ?_
  refine oRegion rfl ?_
  refine oOp (.ptr 0 0) (by kernel_rfl) (by kernel_rfl) (k_box (H' := [.box [.d (.int .i64 s0), .d (.int .i64 s1), .d (.int .i64 s2), .d (.int .i64 s3), .d (.int .i64 s4), .d (.lit (List.map e_i64 s5)), .d (.lit (List.map e_i64 s6))]]) (cells := [.d (.int .i64 s0), .d (.int .i64 s1), .d (.int .i64 s2), .d (.int .i64 s3), .d (.int .i64 s4), .d (.lit (List.map e_i64 s5)), .d (.lit (List.map e_i64 s6))]) (by kernel_rfl) (by kernel_rfl) (by kernel_rfl)) ?_
  refine oOp (.nilc) (by kernel_rfl) (by kernel_rfl) (PureV.does (p_assign (by kernel_rfl))) ?_
  refine oEnd ?_
  refine oSeq ?_
  refine oRegion rfl ?_
  refine oOp (.nilc) (by kernel_rfl) (by kernel_rfl) (PureV.does (p_assign (by kernel_rfl))) ?_
  refine oEnd ?_
  refine oSeq ?_
  refine oSeq ?_
  refine oRegion rfl ?_
  refine oOp (.d (.lit (List.map e_SMarker l))) (by kernel_rfl) (by kernel_rfl) (PureV.does (p_move (by kernel_rfl))) ?_
  refine oOp (.d (.int .i64 ((List.length l) : Int))) (by kernel_rfl) (by kernel_rfl) (PureV.does (k_lenLit (enc := e_SMarker) l (by kernel_rfl) Try.underlying41)) ?_
  refine oOp (.d (.int .i64 0)) (by kernel_rfl) (by kernel_rfl) (PureV.does (p_move (by kernel_rfl))) ?_
  refine oEnd ?_
  refine bJoin ((fun (xs9 : (List Int)) => [(5, .ref 0 (List.length xs9) 0 (List.length xs9))])) ((fun (xs9 : (List Int)) => [.sl 1 (List.map e_i64 xs9) false])) (fun s => s) (fun xs9 => ?_) (fun hj6 => ?_)
  · refine oView (T' := [(5, .ref 0 (List.length xs9) 0 (List.length xs9))]) (H' := [.sl 1 (List.map e_i64 xs9) false]) (by kernel_rfl) (by kernel_rfl) ?_
    refine oSeq ?_
    refine oRegion rfl ?_
    refine oOp (.ref 0 (List.length xs9) 0 (List.length xs9)) (by kernel_rfl) (by kernel_rfl) (PureV.does (p_move (by kernel_rfl))) ?_
    refine oOp (.ref 0 (List.length xs9) 0 (List.length xs9)) (by kernel_rfl) (by kernel_rfl) (PureV.does (p_assign (by kernel_rfl))) ?_
    refine oEnd ?_
    refine oFreeze 0 (esz := 1) (xs := List.map e_i64 xs9) (by kernel_rfl) ?_
    refine oView (H' := [.sl 1 (List.map e_i64 xs9) true]) rfl (by kernel_rfl) ?_
    refine oConv 4 (v := .ref 0 (List.length xs9) 0 (List.length xs9)) (v' := .d (.lit (List.map e_i64 xs9))) (by kernel_rfl) (k_lit (enc := e_i64) (sz := 1) 0 xs9 (by kernel_rfl)) ?_
    exact oRet (r0 := xs9) (rv := .d (.lit (List.map e_i64 xs9))) (B := []) (vs := [.d (.lit (List.map e_i64 xs9))]) (σ := []) (by kernel_rfl) Try.func20 rfl (.cons _ _ _ _ (.tmp 4 _ (by kernel_rfl)) .nil) (by kernel_rfl) (by kernel_rfl) (by kernel_rfl) (by kernel_rfl) (by decide) (by kernel_rfl) (by kernel_rfl)
  · refine oBlock ?_
    refine oLoop ?_
    refine oVirt (esz := 1) 5 (by kernel_rfl) ?_
    refine oView (H' := [.box [.d (.int .i64 s0), .d (.int .i64 s1), .d (.int .i64 s2), .d (.int .i64 s3), .d (.int .i64 s4), .d (.lit (List.map e_i64 s5)), .d (.lit (List.map e_i64 s6))], .sl 1 (List.map e_i64 ([] : List Int)) false]) rfl (by kernel_rfl) ?_
    refine oHead [0, 3, 5, 8, 9, 10] [0, 1] (T' := [(0, .d (.lit (List.map e_SMarker l))), (3, .ptr 0 0), (5, .ref 1 (List.length ([] : List Int)) 0 (List.length ([] : List Int))), (8, .d (.lit (List.map e_SMarker l))), (9, .d (.int .i64 ((List.length l) : Int))), (10, .d (.int .i64 0))]) (H' := [.box [.d (.int .i64 s0), .d (.int .i64 s1), .d (.int .i64 s2), .d (.int .i64 s3), .d (.int .i64 s4), .d (.lit (List.map e_i64 s5)), .d (.lit (List.map e_i64 s6))], .sl 1 (List.map e_i64 ([] : List Int)) false]) (by kernel_rfl) (by kernel_rfl) (by kernel_rfl) (by kernel_rfl) (by decide) (by kernel_rfl) (by kernel_rfl) ?_
    refine bLoop (body := marker_Able_b1 k l s0 s1 s2 s3 s4 s5 s6) ((uc fun (x4 : Int) => (fun (xs11 : (List Int)) => [(0, .d (.lit (List.map e_SMarker l))), (3, .ptr 0 0), (5, .ref 1 (List.length xs11) 0 (List.length xs11)), (8, .d (.lit (List.map e_SMarker l))), (9, .d (.int .i64 ((List.length l) : Int))), (10, .d (.int .i64 x4))]))) ((uc fun (x4 : Int) => (fun (xs11 : (List Int)) => [.box [.d (.int .i64 s0), .d (.int .i64 s1), .d (.int .i64 s2), .d (.int .i64 s3), .d (.int .i64 s4), .d (.lit (List.map e_i64 s5)), .d (.lit (List.map e_i64 s6))], .sl 1 (List.map e_i64 xs11) false]))) (fun again hag1 s => ?_) k (0, ([] : List Int))
    · unfold marker_Able_b1
      obtain ⟨x4, xs11⟩ := s
      refine bUc ?_
      refine oView (T' := [(0, .d (.lit (List.map e_SMarker l))), (3, .ptr 0 0), (5, .ref 1 (List.length xs11) 0 (List.length xs11)), (8, .d (.lit (List.map e_SMarker l))), (9, .d (.int .i64 ((List.length l) : Int))), (10, .d (.int .i64 x4))]) (H' := [.box [.d (.int .i64 s0), .d (.int .i64 s1), .d (.int .i64 s2), .d (.int .i64 s3), .d (.int .i64 s4), .d (.lit (List.map e_i64 s5)), .d (.lit (List.map e_i64 s6))], .sl 1 (List.map e_i64 xs11) false]) (by kernel_rfl) (by kernel_rfl) ?_
      refine oSeq ?_
      refine oRegion rfl ?_
      refine oOp (.d (.bool (decide (x4 < ((List.length l) : Int))))) (by kernel_rfl) (by kernel_rfl) (PureV.does (p_int (k := .i64) (p := x4) (q := ((List.length l) : Int)) (by kernel_rfl) (by kernel_rfl) (by kernel_rfl))) ?_
      refine oEnd ?_
      refine oSeq ?_
      refine bSplit 11 (by kernel_rfl) (fun hc => ?_) (fun hc => ?_)
      · refine oCondT (by kernel_rfl) ?_
        refine oSkip ?_
        refine oSeq ?_
        refine bJoin ((fun (xs14 : (List Int)) => [(0, .d (.lit (List.map e_SMarker l))), (3, .ptr 0 0), (5, .ref 1 (List.length xs14) 0 (List.length xs14)), (8, .d (.lit (List.map e_SMarker l))), (9, .d (.int .i64 ((List.length l) : Int))), (10, .d (.int .i64 x4))])) ((fun (xs14 : (List Int)) => [.box [.d (.int .i64 s0), .d (.int .i64 s1), .d (.int .i64 s2), .d (.int .i64 s3), .d (.int .i64 s4), .d (.lit (List.map e_i64 s5)), .d (.lit (List.map e_i64 s6))], .sl 1 (List.map e_i64 xs14) false])) (fun s => s) (fun xs14 => ?_) (fun hj9 => ?_)
        · refine oView (T' := [(0, .d (.lit (List.map e_SMarker l))), (3, .ptr 0 0), (5, .ref 1 (List.length xs14) 0 (List.length xs14)), (8, .d (.lit (List.map e_SMarker l))), (9, .d (.int .i64 ((List.length l) : Int))), (10, .d (.int .i64 x4))]) (H' := [.box [.d (.int .i64 s0), .d (.int .i64 s1), .d (.int .i64 s2), .d (.int .i64 s3), .d (.int .i64 s4), .d (.lit (List.map e_i64 s5)), .d (.lit (List.map e_i64 s6))], .sl 1 (List.map e_i64 xs14) false]) (by kernel_rfl) (by kernel_rfl) ?_
          refine oRegion rfl ?_
          refine oOp (.d (.int .i64 (IntKind.wrap .i64 (x4 + 1)))) (by kernel_rfl) (by kernel_rfl) (PureV.does (p_int (k := .i64) (p := x4) (q := 1) (by kernel_rfl) (by kernel_rfl) (by kernel_rfl))) ?_
          refine oOp (.d (.int .i64 (IntKind.wrap .i64 (x4 + 1)))) (by kernel_rfl) (by kernel_rfl) (PureV.does (p_move (by kernel_rfl))) ?_
          refine oEnd ?_
          refine oAgain ?_
          refine oHead [0, 3, 5, 8, 9, 10] [0, 1] (T' := [(0, .d (.lit (List.map e_SMarker l))), (3, .ptr 0 0), (5, .ref 1 (List.length xs14) 0 (List.length xs14)), (8, .d (.lit (List.map e_SMarker l))), (9, .d (.int .i64 ((List.length l) : Int))), (10, .d (.int .i64 (IntKind.wrap .i64 (x4 + 1))))]) (H' := [.box [.d (.int .i64 s0), .d (.int .i64 s1), .d (.int .i64 s2), .d (.int .i64 s3), .d (.int .i64 s4), .d (.lit (List.map e_i64 s5)), .d (.lit (List.map e_i64 s6))], .sl 1 (List.map e_i64 xs14) false]) (by kernel_rfl) (by kernel_rfl) (by kernel_rfl) (by kernel_rfl) (by decide) (by kernel_rfl) (by kernel_rfl) ?_
          exact hag1 ((IntKind.wrap .i64 (x4 + 1)), xs14)
        · refine oBlock ?_
          refine oSeq ?_
          refine oRegion rfl ?_
          refine bIdx (fun e17 h121 h122 => ?_)
          refine oOp (.lptr (e_SMarker e17) 0) (by kernel_rfl) (by kernel_rfl) (PureV.does (k_idxLit e_SMarker_len l (a := e17) (by kernel_rfl) (k := .i64) (i := x4) (by kernel_rfl) Try.underlying41 ty52 h121 h122)) ?_
          refine oOp (.agg [.d (.int .i64 e17.ID), .d (.int .i64 e17.Centre), .d (.int .i64 e17.Level), .d (.int .i64 e17.Capacity), .d (.lit (List.map e_i64 e17.Papers))]) (by kernel_rfl) (by kernel_rfl) (Quiet.does (k_loadLAgg (cells := e_SMarker e17) 0 [(.int .i64 e17.ID), (.int .i64 e17.Centre), (.int .i64 e17.Level), (.int .i64 e17.Capacity), (.lit (List.map e_i64 e17.Papers))] (by kernel_rfl) Try.underlying52 (by kernel_rfl) ty52 (by kernel_rfl) (by kernel_rfl) (by kernel_rfl))) ?_
          refine oOp (.ptr 2 0) (by kernel_rfl) (by kernel_rfl) (k_alloc (H' := [.box [.d (.int .i64 s0), .d (.int .i64 s1), .d (.int .i64 s2), .d (.int .i64 s3), .d (.int .i64 s4), .d (.lit (List.map e_i64 s5)), .d (.lit (List.map e_i64 s6))], .sl 1 (List.map e_i64 xs11) false, .box [.d (.int .i64 0), .d (.int .i64 0), .d (.int .i64 0), .d (.int .i64 0), .nilc]]) ty52 (by kernel_rfl) (by kernel_rfl)) ?_
          refine oOp (.undef) (by kernel_rfl) (by kernel_rfl) (k_store (vs := [.d (.int .i64 e17.ID), .d (.int .i64 e17.Centre), .d (.int .i64 e17.Level), .d (.int .i64 e17.Capacity), .d (.lit (List.map e_i64 e17.Papers))]) (H' := [.box [.d (.int .i64 s0), .d (.int .i64 s1), .d (.int .i64 s2), .d (.int .i64 s3), .d (.int .i64 s4), .d (.lit (List.map e_i64 s5)), .d (.lit (List.map e_i64 s6))], .sl 1 (List.map e_i64 xs11) false, .box [.d (.int .i64 e17.ID), .d (.int .i64 e17.Centre), .d (.int .i64 e17.Level), .d (.int .i64 e17.Capacity), .d (.lit (List.map e_i64 e17.Papers))]]) 2 0 (by kernel_rfl) ty52 (by kernel_rfl) (by kernel_rfl) (by kernel_rfl)) ?_
          refine oEnd ?_
          refine oSeq ?_
          refine oRegion rfl ?_
          refine oOp (.d (.lit (List.map e_SMarker l))) (by kernel_rfl) (by kernel_rfl) (PureV.does (p_move (by kernel_rfl))) ?_
          refine oOp (.ptr 2 0) (by kernel_rfl) (by kernel_rfl) (PureV.does (k_fieldAddr 2 0 (by kernel_rfl) Try.underlying52 rfl ty3 (by kernel_rfl))) ?_
          refine oOp (.d (.int .i64 e17.ID)) (by kernel_rfl) (by kernel_rfl) (Quiet.does (k_load 2 0 (by kernel_rfl) Try.underlying3 (by kernel_rfl) (by kernel_rfl))) ?_
          refine oOp (.agg [.d (.int .i64 s0), .d (.int .i64 s1), .d (.int .i64 s2), .d (.int .i64 s3), .d (.int .i64 s4), .d (.lit (List.map e_i64 s5)), .d (.lit (List.map e_i64 s6))]) (by kernel_rfl) (by kernel_rfl) (Quiet.does (k_loadAgg 0 0 (by kernel_rfl) Try.underlying50 (by kernel_rfl) ty50 (by kernel_rfl))) ?_
          refine bCall (caps := []) (v := (fun (r117 : Bool) => (.d (.bool r117) : V))) (H' := (fun (r117 : Bool) => ([.box [.d (.int .i64 s0), .d (.int .i64 s1), .d (.int .i64 s2), .d (.int .i64 s3), .d (.int .i64 s4), .d (.lit (List.map e_i64 s5)), .d (.lit (List.map e_i64 s6))], .sl 1 (List.map e_i64 xs11) false, .box [.d (.int .i64 e17.ID), .d (.int .i64 e17.Centre), .d (.int .i64 e17.Level), .d (.int .i64 e17.Capacity), .d (.lit (List.map e_i64 e17.Papers))]] : List Blk))) [] _ (marker_Eligible_goes k l e17.ID s0 s1 s2 s3 s4 s5 s6) (by kernel_rfl) (by kernel_rfl) rfl (by kernel_rfl) Try.func18 rfl (by kernel_rfl) (ConvRs.refl _ _) (by kernel_rfl) (by kernel_rfl) (by kernel_rfl) (by decide) (by kernel_rfl) (by kernel_rfl) (fun _ => (by kernel_rfl)) (fun _ => (by kernel_rfl)) (fun _ => (by kernel_rfl)) (fun r117 => ?_)
          refine oEnd ?_
          refine bSplit 18 (by kernel_rfl) (fun hc => ?_) (fun hc => ?_)
          · refine oCondT (by kernel_rfl) ?_
            refine oRegion rfl ?_
            refine oOp (.ref 1 (List.length xs11) 0 (List.length xs11)) (by kernel_rfl) (by kernel_rfl) (PureV.does (p_move (by kernel_rfl))) ?_
            refine oOp (.ptr 2 0) (by kernel_rfl) (by kernel_rfl) (PureV.does (k_fieldAddr 2 0 (by kernel_rfl) Try.underlying52 rfl ty3 (by kernel_rfl))) ?_
            refine oOp (.d (.int .i64 e17.ID)) (by kernel_rfl) (by kernel_rfl) (Quiet.does (k_load 2 0 (by kernel_rfl) Try.underlying3 (by kernel_rfl) (by kernel_rfl))) ?_
            refine oOp (.ref 3 (List.length ([e17.ID] : List Int)) 0 (List.length ([e17.ID] : List Int))) (by kernel_rfl) (by kernel_rfl) (k_buildSlice (H' := [.box [.d (.int .i64 s0), .d (.int .i64 s1), .d (.int .i64 s2), .d (.int .i64 s3), .d (.int .i64 s4), .d (.lit (List.map e_i64 s5)), .d (.lit (List.map e_i64 s6))], .sl 1 (List.map e_i64 xs11) false, .box [.d (.int .i64 e17.ID), .d (.int .i64 e17.Centre), .d (.int .i64 e17.Level), .d (.int .i64 e17.Capacity), .d (.lit (List.map e_i64 e17.Papers))], .sl 1 (List.map e_i64 ([e17.ID] : List Int)) false]) (List.map e_i64 ([e17.ID] : List Int)) Try.underlying22 ty3 (by kernel_rfl) (by kernel_rfl) (by kernel_rfl)) ?_
            refine bCap (fun h123 => ?_)
            refine oOp (.ref 1 (List.length (xs11 ++ ([e17.ID] : List Int))) 0 (List.length (xs11 ++ ([e17.ID] : List Int)))) (by kernel_rfl) (by kernel_rfl) (k_append (H' := [.box [.d (.int .i64 s0), .d (.int .i64 s1), .d (.int .i64 s2), .d (.int .i64 s3), .d (.int .i64 s4), .d (.lit (List.map e_i64 s5)), .d (.lit (List.map e_i64 s6))], .sl 1 (List.map e_i64 (xs11 ++ ([e17.ID] : List Int))) false, .box [.d (.int .i64 e17.ID), .d (.int .i64 e17.Centre), .d (.int .i64 e17.Level), .d (.int .i64 e17.Capacity), .d (.lit (List.map e_i64 e17.Papers))], .sl 1 (List.map e_i64 ([e17.ID] : List Int)) false]) (enc := e_i64) 1 xs11 ([e17.ID] : List Int) Try.underlying22 Try.underlying22 ty3 (by kernel_rfl) (by kernel_rfl) (by kernel_rfl) (holdsRef (enc := e_i64) 3 ([e17.ID] : List Int) false (by kernel_rfl) (by kernel_rfl)) h123 (by kernel_rfl)) ?_
            refine oOp (.ref 1 (List.length (xs11 ++ ([e17.ID] : List Int))) 0 (List.length (xs11 ++ ([e17.ID] : List Int)))) (by kernel_rfl) (by kernel_rfl) (PureV.does (p_assign (by kernel_rfl))) ?_
            refine oEnd ?_
            refine oBlk ?_
            refine oHead [0, 3, 5, 8, 9, 10] [0, 1] (T' := [(0, .d (.lit (List.map e_SMarker l))), (3, .ptr 0 0), (5, .ref 1 (List.length (xs11 ++ ([e17.ID] : List Int))) 0 (List.length (xs11 ++ ([e17.ID] : List Int)))), (8, .d (.lit (List.map e_SMarker l))), (9, .d (.int .i64 ((List.length l) : Int))), (10, .d (.int .i64 x4))]) (H' := [.box [.d (.int .i64 s0), .d (.int .i64 s1), .d (.int .i64 s2), .d (.int .i64 s3), .d (.int .i64 s4), .d (.lit (List.map e_i64 s5)), .d (.lit (List.map e_i64 s6))], .sl 1 (List.map e_i64 (xs11 ++ ([e17.ID] : List Int))) false]) (by kernel_rfl) (by kernel_rfl) (by kernel_rfl) (by kernel_rfl) (by decide) (by kernel_rfl) (by kernel_rfl) ?_
            exact hj9 (xs11 ++ ([e17.ID] : List Int))
          · refine oCondF (by kernel_rfl) ?_
            refine oSkip ?_
            refine oBlk ?_
            refine oHead [0, 3, 5, 8, 9, 10] [0, 1] (T' := [(0, .d (.lit (List.map e_SMarker l))), (3, .ptr 0 0), (5, .ref 1 (List.length xs11) 0 (List.length xs11)), (8, .d (.lit (List.map e_SMarker l))), (9, .d (.int .i64 ((List.length l) : Int))), (10, .d (.int .i64 x4))]) (H' := [.box [.d (.int .i64 s0), .d (.int .i64 s1), .d (.int .i64 s2), .d (.int .i64 s3), .d (.int .i64 s4), .d (.lit (List.map e_i64 s5)), .d (.lit (List.map e_i64 s6))], .sl 1 (List.map e_i64 xs11) false]) (by kernel_rfl) (by kernel_rfl) (by kernel_rfl) (by kernel_rfl) (by decide) (by kernel_rfl) (by kernel_rfl) ?_
            exact hj9 xs11
      · refine oCondF (by kernel_rfl) ?_
        refine oExit rfl ?_
        refine oHead [5] [1] (T' := [(5, .ref 0 (List.length xs11) 0 (List.length xs11))]) (H' := [.sl 1 (List.map e_i64 xs11) false]) (by kernel_rfl) (by kernel_rfl) (by kernel_rfl) (by kernel_rfl) (by decide) (by kernel_rfl) (by kernel_rfl) ?_
        exact hj6 xs11

/-- awardingbody/awardingbodylaw24.same -/
def law24_same_b1 (k : Nat) (a : (List Int)) (b : (List Int)) (again : Int → Option ((Unit) ⊕ (Bool))) : Int → Option ((Unit) ⊕ (Bool)) := fun x4 => bif (decide (x4 < ((List.length a) : Int))) then gidx a x4 fun e1 => gidx b x4 fun e11 => bif (e1 != e11) then some (Sum.inr false) else again (IntKind.wrap .i64 (x4 + 1)) else some (Sum.inl ())
def law24_same (k : Nat) (a : (List Int)) (b : (List Int)) : Option (Bool) := bif (((List.length a) : Int) != ((List.length b) : Int)) then some false else Option.bind (gloop (law24_same_b1 k a b) k 0 : Option ((Unit) ⊕ (Bool))) (Sum.elim (u0 (some true)) (fun r => some r))
def law24_same_E (a : (List Int)) (b : (List Int)) : Bool → V × List Blk := fun r1 => (.d (.bool r1), [])
theorem law24_same_goes (k : Nat) (a : (List Int)) (b : (List Int)) : RunsO Try.prog 19 [.d (.lit (List.map e_i64 a)), .d (.lit (List.map e_i64 b))] [] (law24_same_E a b) (law24_same k a b) := by
  refine RunsO.of_goes (N := 26) (m := 0) (T := [(0, .d (.lit (List.map e_i64 a))), (1, .d (.lit (List.map e_i64 b)))]) Try.func19 rfl rfl (by kernel_rfl) (by kernel_rfl) (by kernel_rfl) ?_
  unfold law24_same
  refine bStart ?_
  refine oSeq ?_
  refine oRegion rfl ?_
  refine oOp (.d (.bool false)) (by kernel_rfl) (by kernel_rfl) (PureV.does (p_assign (by kernel_rfl))) ?_
  refine oEnd ?_
  refine oSeq ?_
  refine oSeq ?_
  refine oRegion rfl ?_
  refine oOp (.d (.lit (List.map e_i64 a))) (by kernel_rfl) (by kernel_rfl) (PureV.does (p_move (by kernel_rfl))) ?_
  refine oOp (.d (.int .i64 ((List.length a) : Int))) (by kernel_rfl) (by kernel_rfl) (PureV.does (k_lenLit (enc := e_i64) a (by kernel_rfl) Try.underlying22)) ?_
  refine oOp (.d (.lit (List.map e_i64 b))) (by kernel_rfl) (by kernel_rfl) (PureV.does (p_move (by kernel_rfl))) ?_
  refine oOp (.d (.int .i64 ((List.length b) : Int))) (by kernel_rfl) (by kernel_rfl) (PureV.does (k_lenLit (enc := e_i64) b (by kernel_rfl) Try.underlying22)) ?_
  refine oOp (.d (.bool (((List.length a) : Int) != ((List.length b) : Int)))) (by kernel_rfl) (by kernel_rfl) (PureV.does (p_int (k := .i64) (p := ((List.length a) : Int)) (q := ((List.length b) : Int)) (by kernel_rfl) (by kernel_rfl) (by kernel_rfl))) ?_
  refine oEnd ?_
  refine bSplit 10 (by kernel_rfl) (fun hc => ?_) (fun hc => ?_)
  · refine oCondT (by kernel_rfl) ?_
    refine oSeq ?_
    refine oRegion rfl ?_
    refine oOp (.d (.bool false)) (by kernel_rfl) (by kernel_rfl) (PureV.does (p_assign (by kernel_rfl))) ?_
    refine oEnd ?_
    exact oRet (r0 := false) (rv := .d (.bool false)) (B := []) (vs := [.d (.bool false)]) (σ := []) (by kernel_rfl) Try.func19 rfl (.cons _ _ _ _ (.tmp 4 _ (by kernel_rfl)) .nil) (by kernel_rfl) (by kernel_rfl) (by kernel_rfl) (by kernel_rfl) (by decide) (by kernel_rfl) (by kernel_rfl)
  · refine oCondF (by kernel_rfl) ?_
    refine oSkip ?_
    refine oSeq ?_
    refine oSeq ?_
    refine oRegion rfl ?_
    refine oOp (.d (.lit (List.map e_i64 a))) (by kernel_rfl) (by kernel_rfl) (PureV.does (p_move (by kernel_rfl))) ?_
    refine oOp (.d (.int .i64 ((List.length a) : Int))) (by kernel_rfl) (by kernel_rfl) (PureV.does (k_lenLit (enc := e_i64) a (by kernel_rfl) Try.underlying22)) ?_
    refine oOp (.d (.int .i64 0)) (by kernel_rfl) (by kernel_rfl) (PureV.does (p_move (by kernel_rfl))) ?_
    refine oEnd ?_
    refine bJoin ((u0 ([]))) ((u0 ([]))) Sum.inl (fun s => ?_) (fun hj2 => ?_)
    · cases s
      refine bInl ?_
      refine bU0 ?_
      refine oView (T' := []) (H' := []) (by kernel_rfl) (by kernel_rfl) ?_
      refine oSeq ?_
      refine oRegion rfl ?_
      refine oOp (.d (.bool true)) (by kernel_rfl) (by kernel_rfl) (PureV.does (p_assign (by kernel_rfl))) ?_
      refine oEnd ?_
      exact oRet (r0 := true) (rv := .d (.bool true)) (B := []) (vs := [.d (.bool true)]) (σ := []) (by kernel_rfl) Try.func19 rfl (.cons _ _ _ _ (.tmp 4 _ (by kernel_rfl)) .nil) (by kernel_rfl) (by kernel_rfl) (by kernel_rfl) (by kernel_rfl) (by decide) (by kernel_rfl) (by kernel_rfl)
    · refine oBlock ?_
      refine oLoop ?_
      refine oHead [0, 1, 12, 13] [] (T' := [(0, .d (.lit (List.map e_i64 a))), (1, .d (.lit (List.map e_i64 b))), (12, .d (.int .i64 ((List.length a) : Int))), (13, .d (.int .i64 0))]) (H' := []) (by kernel_rfl) (by kernel_rfl) (by kernel_rfl) (by kernel_rfl) (by decide) (by kernel_rfl) (by kernel_rfl) ?_
      refine bLoop (body := law24_same_b1 k a b) ((fun (x4 : Int) => [(0, .d (.lit (List.map e_i64 a))), (1, .d (.lit (List.map e_i64 b))), (12, .d (.int .i64 ((List.length a) : Int))), (13, .d (.int .i64 x4))])) ((fun (x4 : Int) => [])) (fun again hag1 x4 => ?_) k 0
      · unfold law24_same_b1
        refine oView (T' := [(0, .d (.lit (List.map e_i64 a))), (1, .d (.lit (List.map e_i64 b))), (12, .d (.int .i64 ((List.length a) : Int))), (13, .d (.int .i64 x4))]) (H' := []) (by kernel_rfl) (by kernel_rfl) ?_
        refine oSeq ?_
        refine oRegion rfl ?_
        refine oOp (.d (.bool (decide (x4 < ((List.length a) : Int))))) (by kernel_rfl) (by kernel_rfl) (PureV.does (p_int (k := .i64) (p := x4) (q := ((List.length a) : Int)) (by kernel_rfl) (by kernel_rfl) (by kernel_rfl))) ?_
        refine oEnd ?_
        refine oSeq ?_
        refine bSplit 14 (by kernel_rfl) (fun hc => ?_) (fun hc => ?_)
        · refine oCondT (by kernel_rfl) ?_
          refine oSkip ?_
          refine oSeq ?_
          refine oBlock ?_
          refine oSeq ?_
          refine oRegion rfl ?_
          refine oOp (.d (.int .i64 x4)) (by kernel_rfl) (by kernel_rfl) (PureV.does (p_move (by kernel_rfl))) ?_
          refine oOp (.d (.int .i64 x4)) (by kernel_rfl) (by kernel_rfl) (PureV.does (p_assign (by kernel_rfl))) ?_
          refine oEnd ?_
          refine oSeq ?_
          refine oDraw [] rfl ?_
          refine aTakeL (i := 0) (st' := []) (.d (.lit (List.map e_i64 a))) rfl (by kernel_rfl) (by kernel_rfl) (by kernel_rfl) (by kernel_rfl) (by kernel_rfl) (by kernel_rfl) (by kernel_rfl) (PureV.quiet (p_move (by kernel_rfl)) []) ?_
          refine aTakeL (i := 1) (st' := []) (.d (.int .i64 x4)) rfl (by kernel_rfl) (by kernel_rfl) (by kernel_rfl) (by kernel_rfl) (by kernel_rfl) (by kernel_rfl) (by kernel_rfl) (PureV.quiet (p_move (by kernel_rfl)) []) ?_
          refine dIdx (fun e1 h1 h11 => ?_)
          refine aTakeL (i := 2) (st' := []) (.lptr (e_i64 e1) 0) rfl (by kernel_rfl) (by kernel_rfl) (by kernel_rfl) (by kernel_rfl) (by kernel_rfl) (by kernel_rfl) (by kernel_rfl) (PureV.quiet (k_idxLit e_i64_len a (a := e1) (by kernel_rfl) (k := .i64) (i := x4) (by kernel_rfl) Try.underlying22 ty3 h1 h11) []) ?_
          refine aTakeL (i := 3) (st' := []) (.d (.int .i64 e1)) rfl (by kernel_rfl) (by kernel_rfl) (by kernel_rfl) (by kernel_rfl) (by kernel_rfl) (by kernel_rfl) (by kernel_rfl) (k_loadL (cells := e_i64 e1) 0 (by kernel_rfl) Try.underlying3 (by kernel_rfl) (by kernel_rfl)) ?_
          refine aTakeL (i := 4) (st' := []) (.d (.lit (List.map e_i64 b))) rfl (by kernel_rfl) (by kernel_rfl) (by kernel_rfl) (by kernel_rfl) (by kernel_rfl) (by kernel_rfl) (by kernel_rfl) (PureV.quiet (p_move (by kernel_rfl)) []) ?_
          refine aTakeL (i := 5) (st' := []) (.d (.int .i64 x4)) rfl (by kernel_rfl) (by kernel_rfl) (by kernel_rfl) (by kernel_rfl) (by kernel_rfl) (by kernel_rfl) (by kernel_rfl) (PureV.quiet (p_move (by kernel_rfl)) []) ?_
          refine dIdx (fun e11 h12 h13 => ?_)
          refine aTakeL (i := 6) (st' := []) (.lptr (e_i64 e11) 0) rfl (by kernel_rfl) (by kernel_rfl) (by kernel_rfl) (by kernel_rfl) (by kernel_rfl) (by kernel_rfl) (by kernel_rfl) (PureV.quiet (k_idxLit e_i64_len b (a := e11) (by kernel_rfl) (k := .i64) (i := x4) (by kernel_rfl) Try.underlying22 ty3 h12 h13) []) ?_
          refine aTakeL (i := 7) (st' := []) (.d (.int .i64 e11)) rfl (by kernel_rfl) (by kernel_rfl) (by kernel_rfl) (by kernel_rfl) (by kernel_rfl) (by kernel_rfl) (by kernel_rfl) (k_loadL (cells := e_i64 e11) 0 (by kernel_rfl) Try.underlying3 (by kernel_rfl) (by kernel_rfl)) ?_
          refine aTakeL (i := 8) (st' := []) (.d (.bool (e1 != e11))) rfl (by kernel_rfl) (by kernel_rfl) (by kernel_rfl) (by kernel_rfl) (by kernel_rfl) (by kernel_rfl) (by kernel_rfl) (PureV.quiet (p_int (k := .i64) (p := e1) (q := e11) (by kernel_rfl) (by kernel_rfl) (by kernel_rfl)) []) ?_
          refine aDone (by kernel_rfl) ?_
          refine bSplit 24 (by kernel_rfl) (fun hc => ?_) (fun hc => ?_)
          · refine oCondT (by kernel_rfl) ?_
            refine oSeq ?_
            refine oRegion rfl ?_
            refine oOp (.d (.bool false)) (by kernel_rfl) (by kernel_rfl) (PureV.does (p_assign (by kernel_rfl))) ?_
            refine oEnd ?_
            exact oRet (r0 := false) (rv := .d (.bool false)) (B := []) (vs := [.d (.bool false)]) (σ := []) (by kernel_rfl) Try.func19 rfl (.cons _ _ _ _ (.tmp 4 _ (by kernel_rfl)) .nil) (by kernel_rfl) (by kernel_rfl) (by kernel_rfl) (by kernel_rfl) (by decide) (by kernel_rfl) (by kernel_rfl)
          · refine oCondF (by kernel_rfl) ?_
            refine oSkip ?_
            refine oBlk ?_
            refine oRegion rfl ?_
            refine oOp (.d (.int .i64 (IntKind.wrap .i64 (x4 + 1)))) (by kernel_rfl) (by kernel_rfl) (PureV.does (p_int (k := .i64) (p := x4) (q := 1) (by kernel_rfl) (by kernel_rfl) (by kernel_rfl))) ?_
            refine oOp (.d (.int .i64 (IntKind.wrap .i64 (x4 + 1)))) (by kernel_rfl) (by kernel_rfl) (PureV.does (p_move (by kernel_rfl))) ?_
            refine oEnd ?_
            refine oAgain ?_
            refine oHead [0, 1, 12, 13] [] (T' := [(0, .d (.lit (List.map e_i64 a))), (1, .d (.lit (List.map e_i64 b))), (12, .d (.int .i64 ((List.length a) : Int))), (13, .d (.int .i64 (IntKind.wrap .i64 (x4 + 1))))]) (H' := []) (by kernel_rfl) (by kernel_rfl) (by kernel_rfl) (by kernel_rfl) (by decide) (by kernel_rfl) (by kernel_rfl) ?_
            exact hag1 (IntKind.wrap .i64 (x4 + 1))
        · refine oCondF (by kernel_rfl) ?_
          refine oExit rfl ?_
          refine oHead [] [] (T' := []) (H' := []) (by kernel_rfl) (by kernel_rfl) (by kernel_rfl) (by kernel_rfl) (by decide) (by kernel_rfl) (by kernel_rfl) ?_
          exact hj2 ()

/-- awardingbody/marker.Seniors -/
def marker_Seniors_b1 (k : Nat) (l : (List SMarker)) (s0 : Int) (s1 : Int) (s2 : Int) (s3 : Int) (s4 : Int) (s5 : (List Int)) (s6 : (List Int)) (again : Int × (List Int) → Option ((List Int))) : Int × (List Int) → Option ((List Int)) := uc fun x9 => fun xs11 => bif (decide (x9 < ((List.length l) : Int))) then Option.bind (gidx l x9 fun e17 => Option.bind (bif (decide (e17.Level ≥ 2)) then Option.bind (marker_Eligible k l e17.ID s0 s1 s2 s3 s4 s5 s6) (fun r118 => some r118) else some false : Option (Bool)) (fun x13 => bif x13 then gcap (List.length (xs11 ++ ([e17.ID] : List Int))) 8 (some (xs11 ++ ([e17.ID] : List Int))) else some xs11) : Option ((List Int))) (fun xs14 => again ((IntKind.wrap .i64 (x9 + 1)), xs14)) else some xs11
def marker_Seniors (k : Nat) (l : (List SMarker)) (s0 : Int) (s1 : Int) (s2 : Int) (s3 : Int) (s4 : Int) (s5 : (List Int)) (s6 : (List Int)) : Option ((List Int)) := Option.bind (gloop (marker_Seniors_b1 k l s0 s1 s2 s3 s4 s5 s6) k (0, ([] : List Int)) : Option ((List Int))) (fun xs9 => some xs9)
def marker_Seniors_E (l : (List SMarker)) (s0 : Int) (s1 : Int) (s2 : Int) (s3 : Int) (s4 : Int) (s5 : (List Int)) (s6 : (List Int)) : (List Int) → V × List Blk := fun r1 => (.d (.lit (List.map e_i64 r1)), [])
theorem marker_Seniors_goes (k : Nat) (l : (List SMarker)) (s0 : Int) (s1 : Int) (s2 : Int) (s3 : Int) (s4 : Int) (s5 : (List Int)) (s6 : (List Int)) : RunsO Try.prog 21 [.d (.lit (List.map e_SMarker l)), .agg [.d (.int .i64 s0), .d (.int .i64 s1), .d (.int .i64 s2), .d (.int .i64 s3), .d (.int .i64 s4), .d (.lit (List.map e_i64 s5)), .d (.lit (List.map e_i64 s6))]] [] (marker_Seniors_E l s0 s1 s2 s3 s4 s5 s6) (marker_Seniors k l s0 s1 s2 s3 s4 s5 s6) := by
  refine RunsO.of_goes (N := 31) (m := 0) (T := [(0, .d (.lit (List.map e_SMarker l))), (1, .agg [.d (.int .i64 s0), .d (.int .i64 s1), .d (.int .i64 s2), .d (.int .i64 s3), .d (.int .i64 s4), .d (.lit (List.map e_i64 s5)), .d (.lit (List.map e_i64 s6))])]) Try.func21 rfl rfl (by kernel_rfl) (by kernel_rfl) (by kernel_rfl) ?_
  unfold marker_Seniors
  refine bStart ?_
  refine oSeq ?_
  refine oRegion rfl ?_
  refine oOp (.ptr 0 0) (by kernel_rfl) (by kernel_rfl) (k_box (H' := [.box [.d (.int .i64 s0), .d (.int .i64 s1), .d (.int .i64 s2), .d (.int .i64 s3), .d (.int .i64 s4), .d (.lit (List.map e_i64 s5)), .d (.lit (List.map e_i64 s6))]]) (cells := [.d (.int .i64 s0), .d (.int .i64 s1), .d (.int .i64 s2), .d (.int .i64 s3), .d (.int .i64 s4), .d (.lit (List.map e_i64 s5)), .d (.lit (List.map e_i64 s6))]) (by kernel_rfl) (by kernel_rfl) (by kernel_rfl)) ?_
  refine oOp (.nilc) (by kernel_rfl) (by kernel_rfl) (PureV.does (p_assign (by kernel_rfl))) ?_
  refine oEnd ?_
  refine oSeq ?_
  refine oRegion rfl ?_
  refine oOp (.nilc) (by kernel_rfl) (by kernel_rfl) (PureV.does (p_assign (by kernel_rfl))) ?_
  refine oEnd ?_
  refine oSeq ?_
  refine oSeq ?_
  refine oRegion rfl ?_
  refine oOp (.d (.lit (List.map e_SMarker l))) (by kernel_rfl) (by kernel_rfl) (PureV.does (p_move (by kernel_rfl))) ?_
  refine oOp (.d (.int .i64 ((List.length l) : Int))) (by kernel_rfl) (by kernel_rfl) (PureV.does (k_lenLit (enc := e_SMarker) l (by kernel_rfl) Try.underlying41)) ?_
  refine oOp (.d (.int .i64 0)) (by kernel_rfl) (by kernel_rfl) (PureV.does (p_move (by kernel_rfl))) ?_
  refine oEnd ?_
  refine bJoin ((fun (xs9 : (List Int)) => [(5, .ref 0 (List.length xs9) 0 (List.length xs9))])) ((fun (xs9 : (List Int)) => [.sl 1 (List.map e_i64 xs9) false])) (fun s => s) (fun xs9 => ?_) (fun hj6 => ?_)
  · refine oView (T' := [(5, .ref 0 (List.length xs9) 0 (List.length xs9))]) (H' := [.sl 1 (List.map e_i64 xs9) false]) (by kernel_rfl) (by kernel_rfl) ?_
    refine oSeq ?_
    refine oRegion rfl ?_
    refine oOp (.ref 0 (List.length xs9) 0 (List.length xs9)) (by kernel_rfl) (by kernel_rfl) (PureV.does (p_move (by kernel_rfl))) ?_
    refine oOp (.ref 0 (List.length xs9) 0 (List.length xs9)) (by kernel_rfl) (by kernel_rfl) (PureV.does (p_assign (by kernel_rfl))) ?_
    refine oEnd ?_
    refine oFreeze 0 (esz := 1) (xs := List.map e_i64 xs9) (by kernel_rfl) ?_
    refine oView (H' := [.sl 1 (List.map e_i64 xs9) true]) rfl (by kernel_rfl) ?_
    refine oConv 4 (v := .ref 0 (List.length xs9) 0 (List.length xs9)) (v' := .d (.lit (List.map e_i64 xs9))) (by kernel_rfl) (k_lit (enc := e_i64) (sz := 1) 0 xs9 (by kernel_rfl)) ?_
    exact oRet (r0 := xs9) (rv := .d (.lit (List.map e_i64 xs9))) (B := []) (vs := [.d (.lit (List.map e_i64 xs9))]) (σ := []) (by kernel_rfl) Try.func21 rfl (.cons _ _ _ _ (.tmp 4 _ (by kernel_rfl)) .nil) (by kernel_rfl) (by kernel_rfl) (by kernel_rfl) (by kernel_rfl) (by decide) (by kernel_rfl) (by kernel_rfl)
  · refine oBlock ?_
    refine oLoop ?_
    refine oVirt (esz := 1) 5 (by kernel_rfl) ?_
    refine oView (H' := [.box [.d (.int .i64 s0), .d (.int .i64 s1), .d (.int .i64 s2), .d (.int .i64 s3), .d (.int .i64 s4), .d (.lit (List.map e_i64 s5)), .d (.lit (List.map e_i64 s6))], .sl 1 (List.map e_i64 ([] : List Int)) false]) rfl (by kernel_rfl) ?_
    refine oHead [0, 3, 5, 8, 9, 10] [0, 1] (T' := [(0, .d (.lit (List.map e_SMarker l))), (3, .ptr 0 0), (5, .ref 1 (List.length ([] : List Int)) 0 (List.length ([] : List Int))), (8, .d (.lit (List.map e_SMarker l))), (9, .d (.int .i64 ((List.length l) : Int))), (10, .d (.int .i64 0))]) (H' := [.box [.d (.int .i64 s0), .d (.int .i64 s1), .d (.int .i64 s2), .d (.int .i64 s3), .d (.int .i64 s4), .d (.lit (List.map e_i64 s5)), .d (.lit (List.map e_i64 s6))], .sl 1 (List.map e_i64 ([] : List Int)) false]) (by kernel_rfl) (by kernel_rfl) (by kernel_rfl) (by kernel_rfl) (by decide) (by kernel_rfl) (by kernel_rfl) ?_
    refine bLoop (body := marker_Seniors_b1 k l s0 s1 s2 s3 s4 s5 s6) ((uc fun (x9 : Int) => (fun (xs11 : (List Int)) => [(0, .d (.lit (List.map e_SMarker l))), (3, .ptr 0 0), (5, .ref 1 (List.length xs11) 0 (List.length xs11)), (8, .d (.lit (List.map e_SMarker l))), (9, .d (.int .i64 ((List.length l) : Int))), (10, .d (.int .i64 x9))]))) ((uc fun (x9 : Int) => (fun (xs11 : (List Int)) => [.box [.d (.int .i64 s0), .d (.int .i64 s1), .d (.int .i64 s2), .d (.int .i64 s3), .d (.int .i64 s4), .d (.lit (List.map e_i64 s5)), .d (.lit (List.map e_i64 s6))], .sl 1 (List.map e_i64 xs11) false]))) (fun again hag1 s => ?_) k (0, ([] : List Int))
    · unfold marker_Seniors_b1
      obtain ⟨x9, xs11⟩ := s
      refine bUc ?_
      refine oView (T' := [(0, .d (.lit (List.map e_SMarker l))), (3, .ptr 0 0), (5, .ref 1 (List.length xs11) 0 (List.length xs11)), (8, .d (.lit (List.map e_SMarker l))), (9, .d (.int .i64 ((List.length l) : Int))), (10, .d (.int .i64 x9))]) (H' := [.box [.d (.int .i64 s0), .d (.int .i64 s1), .d (.int .i64 s2), .d (.int .i64 s3), .d (.int .i64 s4), .d (.lit (List.map e_i64 s5)), .d (.lit (List.map e_i64 s6))], .sl 1 (List.map e_i64 xs11) false]) (by kernel_rfl) (by kernel_rfl) ?_
      refine oSeq ?_
      refine oRegion rfl ?_
      refine oOp (.d (.bool (decide (x9 < ((List.length l) : Int))))) (by kernel_rfl) (by kernel_rfl) (PureV.does (p_int (k := .i64) (p := x9) (q := ((List.length l) : Int)) (by kernel_rfl) (by kernel_rfl) (by kernel_rfl))) ?_
      refine oEnd ?_
      refine oSeq ?_
      refine bSplit 11 (by kernel_rfl) (fun hc => ?_) (fun hc => ?_)
      · refine oCondT (by kernel_rfl) ?_
        refine oSkip ?_
        refine oSeq ?_
        refine bJoin ((fun (xs14 : (List Int)) => [(0, .d (.lit (List.map e_SMarker l))), (3, .ptr 0 0), (5, .ref 1 (List.length xs14) 0 (List.length xs14)), (8, .d (.lit (List.map e_SMarker l))), (9, .d (.int .i64 ((List.length l) : Int))), (10, .d (.int .i64 x9))])) ((fun (xs14 : (List Int)) => [.box [.d (.int .i64 s0), .d (.int .i64 s1), .d (.int .i64 s2), .d (.int .i64 s3), .d (.int .i64 s4), .d (.lit (List.map e_i64 s5)), .d (.lit (List.map e_i64 s6))], .sl 1 (List.map e_i64 xs14) false])) (fun s => s) (fun xs14 => ?_) (fun hj9 => ?_)
        · refine oView (T' := [(0, .d (.lit (List.map e_SMarker l))), (3, .ptr 0 0), (5, .ref 1 (List.length xs14) 0 (List.length xs14)), (8, .d (.lit (List.map e_SMarker l))), (9, .d (.int .i64 ((List.length l) : Int))), (10, .d (.int .i64 x9))]) (H' := [.box [.d (.int .i64 s0), .d (.int .i64 s1), .d (.int .i64 s2), .d (.int .i64 s3), .d (.int .i64 s4), .d (.lit (List.map e_i64 s5)), .d (.lit (List.map e_i64 s6))], .sl 1 (List.map e_i64 xs14) false]) (by kernel_rfl) (by kernel_rfl) ?_
          refine oRegion rfl ?_
          refine oOp (.d (.int .i64 (IntKind.wrap .i64 (x9 + 1)))) (by kernel_rfl) (by kernel_rfl) (PureV.does (p_int (k := .i64) (p := x9) (q := 1) (by kernel_rfl) (by kernel_rfl) (by kernel_rfl))) ?_
          refine oOp (.d (.int .i64 (IntKind.wrap .i64 (x9 + 1)))) (by kernel_rfl) (by kernel_rfl) (PureV.does (p_move (by kernel_rfl))) ?_
          refine oEnd ?_
          refine oAgain ?_
          refine oHead [0, 3, 5, 8, 9, 10] [0, 1] (T' := [(0, .d (.lit (List.map e_SMarker l))), (3, .ptr 0 0), (5, .ref 1 (List.length xs14) 0 (List.length xs14)), (8, .d (.lit (List.map e_SMarker l))), (9, .d (.int .i64 ((List.length l) : Int))), (10, .d (.int .i64 (IntKind.wrap .i64 (x9 + 1))))]) (H' := [.box [.d (.int .i64 s0), .d (.int .i64 s1), .d (.int .i64 s2), .d (.int .i64 s3), .d (.int .i64 s4), .d (.lit (List.map e_i64 s5)), .d (.lit (List.map e_i64 s6))], .sl 1 (List.map e_i64 xs14) false]) (by kernel_rfl) (by kernel_rfl) (by kernel_rfl) (by kernel_rfl) (by decide) (by kernel_rfl) (by kernel_rfl) ?_
          exact hag1 ((IntKind.wrap .i64 (x9 + 1)), xs14)
        · refine oBlock ?_
          refine oSeq ?_
          refine oRegion rfl ?_
          refine bIdx (fun e17 h121 h122 => ?_)
          refine oOp (.lptr (e_SMarker e17) 0) (by kernel_rfl) (by kernel_rfl) (PureV.does (k_idxLit e_SMarker_len l (a := e17) (by kernel_rfl) (k := .i64) (i := x9) (by kernel_rfl) Try.underlying41 ty52 h121 h122)) ?_
          refine oOp (.agg [.d (.int .i64 e17.ID), .d (.int .i64 e17.Centre), .d (.int .i64 e17.Level), .d (.int .i64 e17.Capacity), .d (.lit (List.map e_i64 e17.Papers))]) (by kernel_rfl) (by kernel_rfl) (Quiet.does (k_loadLAgg (cells := e_SMarker e17) 0 [(.int .i64 e17.ID), (.int .i64 e17.Centre), (.int .i64 e17.Level), (.int .i64 e17.Capacity), (.lit (List.map e_i64 e17.Papers))] (by kernel_rfl) Try.underlying52 (by kernel_rfl) ty52 (by kernel_rfl) (by kernel_rfl) (by kernel_rfl))) ?_
          refine oOp (.ptr 2 0) (by kernel_rfl) (by kernel_rfl) (k_alloc (H' := [.box [.d (.int .i64 s0), .d (.int .i64 s1), .d (.int .i64 s2), .d (.int .i64 s3), .d (.int .i64 s4), .d (.lit (List.map e_i64 s5)), .d (.lit (List.map e_i64 s6))], .sl 1 (List.map e_i64 xs11) false, .box [.d (.int .i64 0), .d (.int .i64 0), .d (.int .i64 0), .d (.int .i64 0), .nilc]]) ty52 (by kernel_rfl) (by kernel_rfl)) ?_
          refine oOp (.undef) (by kernel_rfl) (by kernel_rfl) (k_store (vs := [.d (.int .i64 e17.ID), .d (.int .i64 e17.Centre), .d (.int .i64 e17.Level), .d (.int .i64 e17.Capacity), .d (.lit (List.map e_i64 e17.Papers))]) (H' := [.box [.d (.int .i64 s0), .d (.int .i64 s1), .d (.int .i64 s2), .d (.int .i64 s3), .d (.int .i64 s4), .d (.lit (List.map e_i64 s5)), .d (.lit (List.map e_i64 s6))], .sl 1 (List.map e_i64 xs11) false, .box [.d (.int .i64 e17.ID), .d (.int .i64 e17.Centre), .d (.int .i64 e17.Level), .d (.int .i64 e17.Capacity), .d (.lit (List.map e_i64 e17.Papers))]]) 2 0 (by kernel_rfl) ty52 (by kernel_rfl) (by kernel_rfl) (by kernel_rfl)) ?_
          refine oEnd ?_
          refine oSeq ?_
          refine oRegion rfl ?_
          refine oOp (.ptr 2 2) (by kernel_rfl) (by kernel_rfl) (PureV.does (k_fieldAddr 2 0 (by kernel_rfl) Try.underlying52 rfl ty3 (by kernel_rfl))) ?_
          refine oOp (.d (.int .i64 e17.Level)) (by kernel_rfl) (by kernel_rfl) (Quiet.does (k_load 2 2 (by kernel_rfl) Try.underlying3 (by kernel_rfl) (by kernel_rfl))) ?_
          refine oOp (.d (.bool (decide (e17.Level ≥ 2)))) (by kernel_rfl) (by kernel_rfl) (PureV.does (p_int (k := .i64) (p := e17.Level) (q := 2) (by kernel_rfl) (by kernel_rfl) (by kernel_rfl))) ?_
          refine oOp (.d (.bool (decide (e17.Level ≥ 2)))) (by kernel_rfl) (by kernel_rfl) (PureV.does (p_move (by kernel_rfl))) ?_
          refine bMeet 6 rfl ((fun (x13 : Bool) => [(0, .d (.lit (List.map e_SMarker l))), (3, .ptr 0 0), (5, .ref 1 (List.length xs11) 0 (List.length xs11)), (7, .ptr 2 0), (8, .d (.lit (List.map e_SMarker l))), (9, .d (.int .i64 ((List.length l) : Int))), (10, .d (.int .i64 x9)), (23, .d (.bool x13))])) ((fun (x13 : Bool) => [.box [.d (.int .i64 s0), .d (.int .i64 s1), .d (.int .i64 s2), .d (.int .i64 s3), .d (.int .i64 s4), .d (.lit (List.map e_i64 s5)), .d (.lit (List.map e_i64 s6))], .sl 1 (List.map e_i64 xs11) false, .box [.d (.int .i64 e17.ID), .d (.int .i64 e17.Centre), .d (.int .i64 e17.Level), .d (.int .i64 e17.Capacity), .d (.lit (List.map e_i64 e17.Papers))]])) (fun s => s) (fun x13 => ?_) (fun hj10 => ?_)
          · refine oView (T' := [(0, .d (.lit (List.map e_SMarker l))), (3, .ptr 0 0), (5, .ref 1 (List.length xs11) 0 (List.length xs11)), (7, .ptr 2 0), (8, .d (.lit (List.map e_SMarker l))), (9, .d (.int .i64 ((List.length l) : Int))), (10, .d (.int .i64 x9)), (23, .d (.bool x13))]) (H' := [.box [.d (.int .i64 s0), .d (.int .i64 s1), .d (.int .i64 s2), .d (.int .i64 s3), .d (.int .i64 s4), .d (.lit (List.map e_i64 s5)), .d (.lit (List.map e_i64 s6))], .sl 1 (List.map e_i64 xs11) false, .box [.d (.int .i64 e17.ID), .d (.int .i64 e17.Centre), .d (.int .i64 e17.Level), .d (.int .i64 e17.Capacity), .d (.lit (List.map e_i64 e17.Papers))]]) (by kernel_rfl) (by kernel_rfl) ?_
            refine oEnd ?_
            refine bSplit 23 (by kernel_rfl) (fun hc => ?_) (fun hc => ?_)
            · refine oCondT (by kernel_rfl) ?_
              refine oRegion rfl ?_
              refine oOp (.ref 1 (List.length xs11) 0 (List.length xs11)) (by kernel_rfl) (by kernel_rfl) (PureV.does (p_move (by kernel_rfl))) ?_
              refine oOp (.ptr 2 0) (by kernel_rfl) (by kernel_rfl) (PureV.does (k_fieldAddr 2 0 (by kernel_rfl) Try.underlying52 rfl ty3 (by kernel_rfl))) ?_
              refine oOp (.d (.int .i64 e17.ID)) (by kernel_rfl) (by kernel_rfl) (Quiet.does (k_load 2 0 (by kernel_rfl) Try.underlying3 (by kernel_rfl) (by kernel_rfl))) ?_
              refine oOp (.ref 3 (List.length ([e17.ID] : List Int)) 0 (List.length ([e17.ID] : List Int))) (by kernel_rfl) (by kernel_rfl) (k_buildSlice (H' := [.box [.d (.int .i64 s0), .d (.int .i64 s1), .d (.int .i64 s2), .d (.int .i64 s3), .d (.int .i64 s4), .d (.lit (List.map e_i64 s5)), .d (.lit (List.map e_i64 s6))], .sl 1 (List.map e_i64 xs11) false, .box [.d (.int .i64 e17.ID), .d (.int .i64 e17.Centre), .d (.int .i64 e17.Level), .d (.int .i64 e17.Capacity), .d (.lit (List.map e_i64 e17.Papers))], .sl 1 (List.map e_i64 ([e17.ID] : List Int)) false]) (List.map e_i64 ([e17.ID] : List Int)) Try.underlying22 ty3 (by kernel_rfl) (by kernel_rfl) (by kernel_rfl)) ?_
              refine bCap (fun h123 => ?_)
              refine oOp (.ref 1 (List.length (xs11 ++ ([e17.ID] : List Int))) 0 (List.length (xs11 ++ ([e17.ID] : List Int)))) (by kernel_rfl) (by kernel_rfl) (k_append (H' := [.box [.d (.int .i64 s0), .d (.int .i64 s1), .d (.int .i64 s2), .d (.int .i64 s3), .d (.int .i64 s4), .d (.lit (List.map e_i64 s5)), .d (.lit (List.map e_i64 s6))], .sl 1 (List.map e_i64 (xs11 ++ ([e17.ID] : List Int))) false, .box [.d (.int .i64 e17.ID), .d (.int .i64 e17.Centre), .d (.int .i64 e17.Level), .d (.int .i64 e17.Capacity), .d (.lit (List.map e_i64 e17.Papers))], .sl 1 (List.map e_i64 ([e17.ID] : List Int)) false]) (enc := e_i64) 1 xs11 ([e17.ID] : List Int) Try.underlying22 Try.underlying22 ty3 (by kernel_rfl) (by kernel_rfl) (by kernel_rfl) (holdsRef (enc := e_i64) 3 ([e17.ID] : List Int) false (by kernel_rfl) (by kernel_rfl)) h123 (by kernel_rfl)) ?_
              refine oOp (.ref 1 (List.length (xs11 ++ ([e17.ID] : List Int))) 0 (List.length (xs11 ++ ([e17.ID] : List Int)))) (by kernel_rfl) (by kernel_rfl) (PureV.does (p_assign (by kernel_rfl))) ?_
              refine oEnd ?_
              refine oBlk ?_
              refine oHead [0, 3, 5, 8, 9, 10] [0, 1] (T' := [(0, .d (.lit (List.map e_SMarker l))), (3, .ptr 0 0), (5, .ref 1 (List.length (xs11 ++ ([e17.ID] : List Int))) 0 (List.length (xs11 ++ ([e17.ID] : List Int)))), (8, .d (.lit (List.map e_SMarker l))), (9, .d (.int .i64 ((List.length l) : Int))), (10, .d (.int .i64 x9))]) (H' := [.box [.d (.int .i64 s0), .d (.int .i64 s1), .d (.int .i64 s2), .d (.int .i64 s3), .d (.int .i64 s4), .d (.lit (List.map e_i64 s5)), .d (.lit (List.map e_i64 s6))], .sl 1 (List.map e_i64 (xs11 ++ ([e17.ID] : List Int))) false]) (by kernel_rfl) (by kernel_rfl) (by kernel_rfl) (by kernel_rfl) (by decide) (by kernel_rfl) (by kernel_rfl) ?_
              exact hj9 (xs11 ++ ([e17.ID] : List Int))
            · refine oCondF (by kernel_rfl) ?_
              refine oSkip ?_
              refine oBlk ?_
              refine oHead [0, 3, 5, 8, 9, 10] [0, 1] (T' := [(0, .d (.lit (List.map e_SMarker l))), (3, .ptr 0 0), (5, .ref 1 (List.length xs11) 0 (List.length xs11)), (8, .d (.lit (List.map e_SMarker l))), (9, .d (.int .i64 ((List.length l) : Int))), (10, .d (.int .i64 x9))]) (H' := [.box [.d (.int .i64 s0), .d (.int .i64 s1), .d (.int .i64 s2), .d (.int .i64 s3), .d (.int .i64 s4), .d (.lit (List.map e_i64 s5)), .d (.lit (List.map e_i64 s6))], .sl 1 (List.map e_i64 xs11) false]) (by kernel_rfl) (by kernel_rfl) (by kernel_rfl) (by kernel_rfl) (by decide) (by kernel_rfl) (by kernel_rfl) ?_
              exact hj9 xs11
          · refine bSplit 17 (by kernel_rfl) (fun hc => ?_) (fun hc => ?_)
            · refine oOp (.d (.lit (List.map e_SMarker l))) (by kernel_rfl) (by kernel_rfl) (PureV.does (p_move (by kernel_rfl))) ?_
              refine oOp (.ptr 2 0) (by kernel_rfl) (by kernel_rfl) (PureV.does (k_fieldAddr 2 0 (by kernel_rfl) Try.underlying52 rfl ty3 (by kernel_rfl))) ?_
              refine oOp (.d (.int .i64 e17.ID)) (by kernel_rfl) (by kernel_rfl) (Quiet.does (k_load 2 0 (by kernel_rfl) Try.underlying3 (by kernel_rfl) (by kernel_rfl))) ?_
              refine oOp (.agg [.d (.int .i64 s0), .d (.int .i64 s1), .d (.int .i64 s2), .d (.int .i64 s3), .d (.int .i64 s4), .d (.lit (List.map e_i64 s5)), .d (.lit (List.map e_i64 s6))]) (by kernel_rfl) (by kernel_rfl) (Quiet.does (k_loadAgg 0 0 (by kernel_rfl) Try.underlying50 (by kernel_rfl) ty50 (by kernel_rfl))) ?_
              refine bCall (caps := []) (v := (fun (r118 : Bool) => (.d (.bool r118) : V))) (H' := (fun (r118 : Bool) => ([.box [.d (.int .i64 s0), .d (.int .i64 s1), .d (.int .i64 s2), .d (.int .i64 s3), .d (.int .i64 s4), .d (.lit (List.map e_i64 s5)), .d (.lit (List.map e_i64 s6))], .sl 1 (List.map e_i64 xs11) false, .box [.d (.int .i64 e17.ID), .d (.int .i64 e17.Centre), .d (.int .i64 e17.Level), .d (.int .i64 e17.Capacity), .d (.lit (List.map e_i64 e17.Papers))]] : List Blk))) [] _ (marker_Eligible_goes k l e17.ID s0 s1 s2 s3 s4 s5 s6) (by kernel_rfl) (by kernel_rfl) rfl (by kernel_rfl) Try.func18 rfl (by kernel_rfl) (ConvRs.refl _ _) (by kernel_rfl) (by kernel_rfl) (by kernel_rfl) (by decide) (by kernel_rfl) (by kernel_rfl) (fun _ => (by kernel_rfl)) (fun _ => (by kernel_rfl)) (fun _ => (by kernel_rfl)) (fun r118 => ?_)
              refine oOp (.d (.bool r118)) (by kernel_rfl) (by kernel_rfl) (PureV.does (p_pick (b := true) (by kernel_rfl) (by kernel_rfl))) ?_
              refine oHead [0, 3, 5, 7, 8, 9, 10, 23] [0, 1, 2] (T' := [(0, .d (.lit (List.map e_SMarker l))), (3, .ptr 0 0), (5, .ref 1 (List.length xs11) 0 (List.length xs11)), (7, .ptr 2 0), (8, .d (.lit (List.map e_SMarker l))), (9, .d (.int .i64 ((List.length l) : Int))), (10, .d (.int .i64 x9)), (23, .d (.bool r118))]) (H' := [.box [.d (.int .i64 s0), .d (.int .i64 s1), .d (.int .i64 s2), .d (.int .i64 s3), .d (.int .i64 s4), .d (.lit (List.map e_i64 s5)), .d (.lit (List.map e_i64 s6))], .sl 1 (List.map e_i64 xs11) false, .box [.d (.int .i64 e17.ID), .d (.int .i64 e17.Centre), .d (.int .i64 e17.Level), .d (.int .i64 e17.Capacity), .d (.lit (List.map e_i64 e17.Papers))]]) (by kernel_rfl) (by kernel_rfl) (by kernel_rfl) (by kernel_rfl) (by decide) (by kernel_rfl) (by kernel_rfl) ?_
              exact hj10 r118
            · refine oNot (by kernel_rfl) (by kernel_rfl) ?_
              refine oNot (by kernel_rfl) (by kernel_rfl) ?_
              refine oNot (by kernel_rfl) (by kernel_rfl) ?_
              refine oNot (by kernel_rfl) (by kernel_rfl) ?_
              refine oNot (by kernel_rfl) (by kernel_rfl) ?_
              refine oOp (.d (.bool false)) (by kernel_rfl) (by kernel_rfl) (PureV.does (p_pick (b := false) (by kernel_rfl) (by kernel_rfl))) ?_
              refine oHead [0, 3, 5, 7, 8, 9, 10, 23] [0, 1, 2] (T' := [(0, .d (.lit (List.map e_SMarker l))), (3, .ptr 0 0), (5, .ref 1 (List.length xs11) 0 (List.length xs11)), (7, .ptr 2 0), (8, .d (.lit (List.map e_SMarker l))), (9, .d (.int .i64 ((List.length l) : Int))), (10, .d (.int .i64 x9)), (23, .d (.bool false))]) (H' := [.box [.d (.int .i64 s0), .d (.int .i64 s1), .d (.int .i64 s2), .d (.int .i64 s3), .d (.int .i64 s4), .d (.lit (List.map e_i64 s5)), .d (.lit (List.map e_i64 s6))], .sl 1 (List.map e_i64 xs11) false, .box [.d (.int .i64 e17.ID), .d (.int .i64 e17.Centre), .d (.int .i64 e17.Level), .d (.int .i64 e17.Capacity), .d (.lit (List.map e_i64 e17.Papers))]]) (by kernel_rfl) (by kernel_rfl) (by kernel_rfl) (by kernel_rfl) (by decide) (by kernel_rfl) (by kernel_rfl) ?_
              exact hj10 false
      · refine oCondF (by kernel_rfl) ?_
        refine oExit rfl ?_
        refine oHead [5] [1] (T' := [(5, .ref 0 (List.length xs11) 0 (List.length xs11))]) (H' := [.sl 1 (List.map e_i64 xs11) false]) (by kernel_rfl) (by kernel_rfl) (by kernel_rfl) (by kernel_rfl) (by decide) (by kernel_rfl) (by kernel_rfl) ?_
        exact hj6 xs11

/-- awardingbody/awardingbodylaw24.sane -/
def law24_sane (k : Nat) : Option (Bool) := Option.bind (marker_Check k ([(⟨3, 5, 1, 0, ([0, 1] : List Int)⟩ : SMarker), (⟨4, (-1), 2, 0, ([1] : List Int)⟩ : SMarker)] : List SMarker)) (fun r1291 => Option.bind (bif (r1291 == 0) then Option.bind (marker_CheckScripts k ([(⟨10007, 1, 7, 6, 0, [], []⟩ : SScript), (⟨10008, 1, 8, 5, 0, [], []⟩ : SScript)] : List SScript)) (fun r120 => some (r120 == 0)) else some false : Option (Bool)) (fun x5 => Option.bind (bif x5 then Option.bind (marker_Eligible k ([(⟨3, 5, 1, 0, ([0, 1] : List Int)⟩ : SMarker), (⟨4, (-1), 2, 0, ([1] : List Int)⟩ : SMarker)] : List SMarker) 3 10007 1 7 6 0 [] []) (fun r1110 => some r1110) else some false : Option (Bool)) (fun x6 => Option.bind (bif x6 then Option.bind (marker_Eligible k ([(⟨3, 5, 1, 0, ([0, 1] : List Int)⟩ : SMarker), (⟨4, (-1), 2, 0, ([1] : List Int)⟩ : SMarker)] : List SMarker) 3 10008 1 8 5 0 [] []) (fun r119 => some (!r119)) else some false : Option (Bool)) (fun x7 => Option.bind (bif x7 then Option.bind (marker_Able k ([(⟨3, 5, 1, 0, ([0, 1] : List Int)⟩ : SMarker), (⟨4, (-1), 2, 0, ([1] : List Int)⟩ : SMarker)] : List SMarker) 10008 1 8 5 0 [] []) (fun r117 => Option.bind (law24_same k r117 ([4] : List Int)) (fun r118 => some r118)) else some false : Option (Bool)) (fun x8 => Option.bind (bif x8 then Option.bind (marker_Seniors k ([(⟨3, 5, 1, 0, ([0, 1] : List Int)⟩ : SMarker), (⟨4, (-1), 2, 0, ([1] : List Int)⟩ : SMarker)] : List SMarker) 10007 1 7 6 0 [] []) (fun r115 => Option.bind (law24_same k r115 ([4] : List Int)) (fun r116 => some r116)) else some false : Option (Bool)) (fun x9 => some x9))))))
def law24_sane_E : Bool → V × List Blk := fun r16 => (.d (.bool r16), [])
theorem law24_sane_goes (k : Nat) : RunsO Try.prog 14 [] [] (law24_sane_E) (law24_sane k) := by
  refine RunsO.of_goes (N := 46) (m := 0) (T := []) Try.func14 rfl rfl (by kernel_rfl) (by kernel_rfl) (by kernel_rfl) ?_
  unfold law24_sane
  refine bStart ?_
  refine oSeq ?_
  refine oRegion rfl ?_
  refine oOp (.d (.bool false)) (by kernel_rfl) (by kernel_rfl) (PureV.does (p_assign (by kernel_rfl))) ?_
  refine oEnd ?_
  refine oSeq ?_
  refine oRegion rfl ?_
  refine oOp (.ref 0 (List.length ([0, 1] : List Int)) 0 (List.length ([0, 1] : List Int))) (by kernel_rfl) (by kernel_rfl) (k_buildSlice (H' := [.sl 1 (List.map e_i64 ([0, 1] : List Int)) false]) (List.map e_i64 ([0, 1] : List Int)) Try.underlying22 ty3 (by kernel_rfl) (by kernel_rfl) (by kernel_rfl)) ?_
  refine oOp (.agg [.d (.int .i64 3), .d (.int .i64 5), .d (.int .i64 1), .d (.int .i64 0), .ref 0 (List.length ([0, 1] : List Int)) 0 (List.length ([0, 1] : List Int))]) (by kernel_rfl) (by kernel_rfl) (PureV.does (p_build bld52 (by kernel_rfl))) ?_
  refine oOp (.ref 1 (List.length ([1] : List Int)) 0 (List.length ([1] : List Int))) (by kernel_rfl) (by kernel_rfl) (k_buildSlice (H' := [.sl 1 (List.map e_i64 ([0, 1] : List Int)) false, .sl 1 (List.map e_i64 ([1] : List Int)) false]) (List.map e_i64 ([1] : List Int)) Try.underlying22 ty3 (by kernel_rfl) (by kernel_rfl) (by kernel_rfl)) ?_
  refine oOp (.agg [.d (.int .i64 4), .d (.int .i64 (-1)), .d (.int .i64 2), .d (.int .i64 0), .ref 1 (List.length ([1] : List Int)) 0 (List.length ([1] : List Int))]) (by kernel_rfl) (by kernel_rfl) (PureV.does (p_build bld52 (by kernel_rfl))) ?_
  refine oFreeze 0 (esz := 1) (xs := List.map e_i64 ([0, 1] : List Int)) (by kernel_rfl) ?_
  refine oView (H' := [.sl 1 (List.map e_i64 ([0, 1] : List Int)) true, .sl 1 (List.map e_i64 ([1] : List Int)) false]) rfl (by kernel_rfl) ?_
  refine oConv 5 (v := .agg [.d (.int .i64 3), .d (.int .i64 5), .d (.int .i64 1), .d (.int .i64 0), .ref 0 (List.length ([0, 1] : List Int)) 0 (List.length ([0, 1] : List Int))]) (v' := .agg [.d (.int .i64 3), .d (.int .i64 5), .d (.int .i64 1), .d (.int .i64 0), .d (.lit (List.map e_i64 ([0, 1] : List Int)))]) (by kernel_rfl) (.agg _ _ (.cons _ _ _ _ (.same _) (.cons _ _ _ _ (.same _) (.cons _ _ _ _ (.same _) (.cons _ _ _ _ (.same _) (.cons _ _ _ _ (k_lit (enc := e_i64) (sz := 1) 0 ([0, 1] : List Int) (by kernel_rfl)) .nil)))))) ?_
  refine oFreeze 1 (esz := 1) (xs := List.map e_i64 ([1] : List Int)) (by kernel_rfl) ?_
  refine oView (H' := [.sl 1 (List.map e_i64 ([0, 1] : List Int)) true, .sl 1 (List.map e_i64 ([1] : List Int)) true]) rfl (by kernel_rfl) ?_
  refine oConv 7 (v := .agg [.d (.int .i64 4), .d (.int .i64 (-1)), .d (.int .i64 2), .d (.int .i64 0), .ref 1 (List.length ([1] : List Int)) 0 (List.length ([1] : List Int))]) (v' := .agg [.d (.int .i64 4), .d (.int .i64 (-1)), .d (.int .i64 2), .d (.int .i64 0), .d (.lit (List.map e_i64 ([1] : List Int)))]) (by kernel_rfl) (.agg _ _ (.cons _ _ _ _ (.same _) (.cons _ _ _ _ (.same _) (.cons _ _ _ _ (.same _) (.cons _ _ _ _ (.same _) (.cons _ _ _ _ (k_lit (enc := e_i64) (sz := 1) 1 ([1] : List Int) (by kernel_rfl)) .nil)))))) ?_
  refine oOp (.ref 2 (List.length ([(⟨3, 5, 1, 0, ([0, 1] : List Int)⟩ : SMarker), (⟨4, (-1), 2, 0, ([1] : List Int)⟩ : SMarker)] : List SMarker)) 0 (List.length ([(⟨3, 5, 1, 0, ([0, 1] : List Int)⟩ : SMarker), (⟨4, (-1), 2, 0, ([1] : List Int)⟩ : SMarker)] : List SMarker))) (by kernel_rfl) (by kernel_rfl) (k_buildSlice (H' := [.sl 1 (List.map e_i64 ([0, 1] : List Int)) true, .sl 1 (List.map e_i64 ([1] : List Int)) true, .sl 5 (List.map e_SMarker ([(⟨3, 5, 1, 0, ([0, 1] : List Int)⟩ : SMarker), (⟨4, (-1), 2, 0, ([1] : List Int)⟩ : SMarker)] : List SMarker)) false]) (List.map e_SMarker ([(⟨3, 5, 1, 0, ([0, 1] : List Int)⟩ : SMarker), (⟨4, (-1), 2, 0, ([1] : List Int)⟩ : SMarker)] : List SMarker)) Try.underlying41 ty52 (by kernel_rfl) (by kernel_rfl) (by kernel_rfl)) ?_
  refine oOp (.ref 2 (List.length ([(⟨3, 5, 1, 0, ([0, 1] : List Int)⟩ : SMarker), (⟨4, (-1), 2, 0, ([1] : List Int)⟩ : SMarker)] : List SMarker)) 0 (List.length ([(⟨3, 5, 1, 0, ([0, 1] : List Int)⟩ : SMarker), (⟨4, (-1), 2, 0, ([1] : List Int)⟩ : SMarker)] : List SMarker))) (by kernel_rfl) (by kernel_rfl) (PureV.does (p_assign (by kernel_rfl))) ?_
  refine oEnd ?_
  refine oSeq ?_
  refine oRegion rfl ?_
  refine oOp (.agg [.d (.int .i64 10007), .d (.int .i64 1), .d (.int .i64 7), .d (.int .i64 6), .d (.int .i64 0), .nilc, .nilc]) (by kernel_rfl) (by kernel_rfl) (PureV.does (p_build bld50 (by kernel_rfl))) ?_
  refine oOp (.ptr 3 0) (by kernel_rfl) (by kernel_rfl) (k_alloc (H' := [.sl 1 (List.map e_i64 ([0, 1] : List Int)) true, .sl 1 (List.map e_i64 ([1] : List Int)) true, .sl 5 (List.map e_SMarker ([(⟨3, 5, 1, 0, ([0, 1] : List Int)⟩ : SMarker), (⟨4, (-1), 2, 0, ([1] : List Int)⟩ : SMarker)] : List SMarker)) false, .box [.d (.int .i64 0), .d (.int .i64 0), .d (.int .i64 0), .d (.int .i64 0), .d (.int .i64 0), .nilc, .nilc]]) ty50 (by kernel_rfl) (by kernel_rfl)) ?_
  refine oOp (.undef) (by kernel_rfl) (by kernel_rfl) (k_store (vs := [.d (.int .i64 10007), .d (.int .i64 1), .d (.int .i64 7), .d (.int .i64 6), .d (.int .i64 0), .nilc, .nilc]) (H' := [.sl 1 (List.map e_i64 ([0, 1] : List Int)) true, .sl 1 (List.map e_i64 ([1] : List Int)) true, .sl 5 (List.map e_SMarker ([(⟨3, 5, 1, 0, ([0, 1] : List Int)⟩ : SMarker), (⟨4, (-1), 2, 0, ([1] : List Int)⟩ : SMarker)] : List SMarker)) false, .box [.d (.int .i64 10007), .d (.int .i64 1), .d (.int .i64 7), .d (.int .i64 6), .d (.int .i64 0), .nilc, .nilc]]) 3 0 (by kernel_rfl) ty50 (by kernel_rfl) (by kernel_rfl) (by kernel_rfl)) ?_
  refine oEnd ?_
  refine oSeq ?_
  refine oRegion rfl ?_
  refine oOp (.agg [.d (.int .i64 10008), .d (.int .i64 1), .d (.int .i64 8), .d (.int .i64 5), .d (.int .i64 0), .nilc, .nilc]) (by kernel_rfl) (by kernel_rfl) (PureV.does (p_build bld50 (by kernel_rfl))) ?_
  refine oOp (.ptr 4 0) (by kernel_rfl) (by kernel_rfl) (k_alloc (H' := [.sl 1 (List.map e_i64 ([0, 1] : List Int)) true, .sl 1 (List.map e_i64 ([1] : List Int)) true, .sl 5 (List.map e_SMarker ([(⟨3, 5, 1, 0, ([0, 1] : List Int)⟩ : SMarker), (⟨4, (-1), 2, 0, ([1] : List Int)⟩ : SMarker)] : List SMarker)) false, .box [.d (.int .i64 10007), .d (.int .i64 1), .d (.int .i64 7), .d (.int .i64 6), .d (.int .i64 0), .nilc, .nilc], .box [.d (.int .i64 0), .d (.int .i64 0), .d (.int .i64 0), .d (.int .i64 0), .d (.int .i64 0), .nilc, .nilc]]) ty50 (by kernel_rfl) (by kernel_rfl)) ?_
  refine oOp (.undef) (by kernel_rfl) (by kernel_rfl) (k_store (vs := [.d (.int .i64 10008), .d (.int .i64 1), .d (.int .i64 8), .d (.int .i64 5), .d (.int .i64 0), .nilc, .nilc]) (H' := [.sl 1 (List.map e_i64 ([0, 1] : List Int)) true, .sl 1 (List.map e_i64 ([1] : List Int)) true, .sl 5 (List.map e_SMarker ([(⟨3, 5, 1, 0, ([0, 1] : List Int)⟩ : SMarker), (⟨4, (-1), 2, 0, ([1] : List Int)⟩ : SMarker)] : List SMarker)) false, .box [.d (.int .i64 10007), .d (.int .i64 1), .d (.int .i64 7), .d (.int .i64 6), .d (.int .i64 0), .nilc, .nilc], .box [.d (.int .i64 10008), .d (.int .i64 1), .d (.int .i64 8), .d (.int .i64 5), .d (.int .i64 0), .nilc, .nilc]]) 4 0 (by kernel_rfl) ty50 (by kernel_rfl) (by kernel_rfl) (by kernel_rfl)) ?_
  refine oEnd ?_
  refine oSeq ?_
  refine oRegion rfl ?_
  refine oOp (.ref 2 (List.length ([(⟨3, 5, 1, 0, ([0, 1] : List Int)⟩ : SMarker), (⟨4, (-1), 2, 0, ([1] : List Int)⟩ : SMarker)] : List SMarker)) 0 (List.length ([(⟨3, 5, 1, 0, ([0, 1] : List Int)⟩ : SMarker), (⟨4, (-1), 2, 0, ([1] : List Int)⟩ : SMarker)] : List SMarker))) (by kernel_rfl) (by kernel_rfl) (PureV.does (p_move (by kernel_rfl))) ?_
  refine oFreeze 2 (esz := 5) (xs := List.map e_SMarker ([(⟨3, 5, 1, 0, ([0, 1] : List Int)⟩ : SMarker), (⟨4, (-1), 2, 0, ([1] : List Int)⟩ : SMarker)] : List SMarker)) (by kernel_rfl) ?_
  refine oView (H' := [.sl 1 (List.map e_i64 ([0, 1] : List Int)) true, .sl 1 (List.map e_i64 ([1] : List Int)) true, .sl 5 (List.map e_SMarker ([(⟨3, 5, 1, 0, ([0, 1] : List Int)⟩ : SMarker), (⟨4, (-1), 2, 0, ([1] : List Int)⟩ : SMarker)] : List SMarker)) true, .box [.d (.int .i64 10007), .d (.int .i64 1), .d (.int .i64 7), .d (.int .i64 6), .d (.int .i64 0), .nilc, .nilc], .box [.d (.int .i64 10008), .d (.int .i64 1), .d (.int .i64 8), .d (.int .i64 5), .d (.int .i64 0), .nilc, .nilc]]) rfl (by kernel_rfl) ?_
  refine bCall (caps := []) (v := (fun (r1291 : Int) => (.d (.int .i64 r1291) : V))) (H' := (fun (r1291 : Int) => ([.sl 1 (List.map e_i64 ([0, 1] : List Int)) true, .sl 1 (List.map e_i64 ([1] : List Int)) true, .sl 5 (List.map e_SMarker ([(⟨3, 5, 1, 0, ([0, 1] : List Int)⟩ : SMarker), (⟨4, (-1), 2, 0, ([1] : List Int)⟩ : SMarker)] : List SMarker)) true, .box [.d (.int .i64 10007), .d (.int .i64 1), .d (.int .i64 7), .d (.int .i64 6), .d (.int .i64 0), .nilc, .nilc], .box [.d (.int .i64 10008), .d (.int .i64 1), .d (.int .i64 8), .d (.int .i64 5), .d (.int .i64 0), .nilc, .nilc]] : List Blk))) [] _ (marker_Check_goes k ([(⟨3, 5, 1, 0, ([0, 1] : List Int)⟩ : SMarker), (⟨4, (-1), 2, 0, ([1] : List Int)⟩ : SMarker)] : List SMarker)) (by kernel_rfl) (by kernel_rfl) rfl (by kernel_rfl) Try.func22 rfl (by kernel_rfl) (convList (vs0 := [.ref 2 (List.length ([(⟨3, 5, 1, 0, ([0, 1] : List Int)⟩ : SMarker), (⟨4, (-1), 2, 0, ([1] : List Int)⟩ : SMarker)] : List SMarker)) 0 (List.length ([(⟨3, 5, 1, 0, ([0, 1] : List Int)⟩ : SMarker), (⟨4, (-1), 2, 0, ([1] : List Int)⟩ : SMarker)] : List SMarker))]) (vs := [.d (.lit (List.map e_SMarker ([(⟨3, 5, 1, 0, ([0, 1] : List Int)⟩ : SMarker), (⟨4, (-1), 2, 0, ([1] : List Int)⟩ : SMarker)] : List SMarker)))]) (by kernel_rfl) (.cons _ _ _ _ (k_lit (enc := e_SMarker) (sz := 5) 2 ([(⟨3, 5, 1, 0, ([0, 1] : List Int)⟩ : SMarker), (⟨4, (-1), 2, 0, ([1] : List Int)⟩ : SMarker)] : List SMarker) (by kernel_rfl)) .nil)) (by kernel_rfl) (by kernel_rfl) (by kernel_rfl) (by decide) (by kernel_rfl) (by kernel_rfl) (fun _ => (by kernel_rfl)) (fun _ => (by kernel_rfl)) (fun _ => (by kernel_rfl)) (fun r1291 => ?_)
  refine oOp (.d (.bool (r1291 == 0))) (by kernel_rfl) (by kernel_rfl) (PureV.does (p_int (k := .i64) (p := r1291) (q := 0) (by kernel_rfl) (by kernel_rfl) (by kernel_rfl))) ?_
  refine oOp (.d (.bool (r1291 == 0))) (by kernel_rfl) (by kernel_rfl) (PureV.does (p_move (by kernel_rfl))) ?_
  refine bMeet 6 rfl ((fun (x5 : Bool) => [(1, .ref 0 (List.length ([(⟨3, 5, 1, 0, ([0, 1] : List Int)⟩ : SMarker), (⟨4, (-1), 2, 0, ([1] : List Int)⟩ : SMarker)] : List SMarker)) 0 (List.length ([(⟨3, 5, 1, 0, ([0, 1] : List Int)⟩ : SMarker), (⟨4, (-1), 2, 0, ([1] : List Int)⟩ : SMarker)] : List SMarker))), (2, .ptr 1 0), (3, .ptr 2 0), (20, .d (.bool x5))])) ((fun (x5 : Bool) => [.sl 5 (List.map e_SMarker ([(⟨3, 5, 1, 0, ([0, 1] : List Int)⟩ : SMarker), (⟨4, (-1), 2, 0, ([1] : List Int)⟩ : SMarker)] : List SMarker)) true, .box [.d (.int .i64 10007), .d (.int .i64 1), .d (.int .i64 7), .d (.int .i64 6), .d (.int .i64 0), .nilc, .nilc], .box [.d (.int .i64 10008), .d (.int .i64 1), .d (.int .i64 8), .d (.int .i64 5), .d (.int .i64 0), .nilc, .nilc]])) (fun s => s) (fun x5 => ?_) (fun hj5 => ?_)
  · refine oView (T' := [(1, .ref 0 (List.length ([(⟨3, 5, 1, 0, ([0, 1] : List Int)⟩ : SMarker), (⟨4, (-1), 2, 0, ([1] : List Int)⟩ : SMarker)] : List SMarker)) 0 (List.length ([(⟨3, 5, 1, 0, ([0, 1] : List Int)⟩ : SMarker), (⟨4, (-1), 2, 0, ([1] : List Int)⟩ : SMarker)] : List SMarker))), (2, .ptr 1 0), (3, .ptr 2 0), (20, .d (.bool x5))]) (H' := [.sl 5 (List.map e_SMarker ([(⟨3, 5, 1, 0, ([0, 1] : List Int)⟩ : SMarker), (⟨4, (-1), 2, 0, ([1] : List Int)⟩ : SMarker)] : List SMarker)) true, .box [.d (.int .i64 10007), .d (.int .i64 1), .d (.int .i64 7), .d (.int .i64 6), .d (.int .i64 0), .nilc, .nilc], .box [.d (.int .i64 10008), .d (.int .i64 1), .d (.int .i64 8), .d (.int .i64 5), .d (.int .i64 0), .nilc, .nilc]]) (by kernel_rfl) (by kernel_rfl) ?_
    refine oOp (.d (.bool x5)) (by kernel_rfl) (by kernel_rfl) (PureV.does (p_move (by kernel_rfl))) ?_
    refine bMeet 4 rfl ((fun (x6 : Bool) => [(1, .ref 0 (List.length ([(⟨3, 5, 1, 0, ([0, 1] : List Int)⟩ : SMarker), (⟨4, (-1), 2, 0, ([1] : List Int)⟩ : SMarker)] : List SMarker)) 0 (List.length ([(⟨3, 5, 1, 0, ([0, 1] : List Int)⟩ : SMarker), (⟨4, (-1), 2, 0, ([1] : List Int)⟩ : SMarker)] : List SMarker))), (2, .ptr 1 0), (3, .ptr 2 0), (25, .d (.bool x6))])) ((fun (x6 : Bool) => [.sl 5 (List.map e_SMarker ([(⟨3, 5, 1, 0, ([0, 1] : List Int)⟩ : SMarker), (⟨4, (-1), 2, 0, ([1] : List Int)⟩ : SMarker)] : List SMarker)) true, .box [.d (.int .i64 10007), .d (.int .i64 1), .d (.int .i64 7), .d (.int .i64 6), .d (.int .i64 0), .nilc, .nilc], .box [.d (.int .i64 10008), .d (.int .i64 1), .d (.int .i64 8), .d (.int .i64 5), .d (.int .i64 0), .nilc, .nilc]])) (fun s => s) (fun x6 => ?_) (fun hj4 => ?_)
    · refine oView (T' := [(1, .ref 0 (List.length ([(⟨3, 5, 1, 0, ([0, 1] : List Int)⟩ : SMarker), (⟨4, (-1), 2, 0, ([1] : List Int)⟩ : SMarker)] : List SMarker)) 0 (List.length ([(⟨3, 5, 1, 0, ([0, 1] : List Int)⟩ : SMarker), (⟨4, (-1), 2, 0, ([1] : List Int)⟩ : SMarker)] : List SMarker))), (2, .ptr 1 0), (3, .ptr 2 0), (25, .d (.bool x6))]) (H' := [.sl 5 (List.map e_SMarker ([(⟨3, 5, 1, 0, ([0, 1] : List Int)⟩ : SMarker), (⟨4, (-1), 2, 0, ([1] : List Int)⟩ : SMarker)] : List SMarker)) true, .box [.d (.int .i64 10007), .d (.int .i64 1), .d (.int .i64 7), .d (.int .i64 6), .d (.int .i64 0), .nilc, .nilc], .box [.d (.int .i64 10008), .d (.int .i64 1), .d (.int .i64 8), .d (.int .i64 5), .d (.int .i64 0), .nilc, .nilc]]) (by kernel_rfl) (by kernel_rfl) ?_
      refine oOp (.d (.bool x6)) (by kernel_rfl) (by kernel_rfl) (PureV.does (p_move (by kernel_rfl))) ?_
      refine bMeet 5 rfl ((fun (x7 : Bool) => [(1, .ref 0 (List.length ([(⟨3, 5, 1, 0, ([0, 1] : List Int)⟩ : SMarker), (⟨4, (-1), 2, 0, ([1] : List Int)⟩ : SMarker)] : List SMarker)) 0 (List.length ([(⟨3, 5, 1, 0, ([0, 1] : List Int)⟩ : SMarker), (⟨4, (-1), 2, 0, ([1] : List Int)⟩ : SMarker)] : List SMarker))), (2, .ptr 1 0), (3, .ptr 2 0), (31, .d (.bool x7))])) ((fun (x7 : Bool) => [.sl 5 (List.map e_SMarker ([(⟨3, 5, 1, 0, ([0, 1] : List Int)⟩ : SMarker), (⟨4, (-1), 2, 0, ([1] : List Int)⟩ : SMarker)] : List SMarker)) true, .box [.d (.int .i64 10007), .d (.int .i64 1), .d (.int .i64 7), .d (.int .i64 6), .d (.int .i64 0), .nilc, .nilc], .box [.d (.int .i64 10008), .d (.int .i64 1), .d (.int .i64 8), .d (.int .i64 5), .d (.int .i64 0), .nilc, .nilc]])) (fun s => s) (fun x7 => ?_) (fun hj3 => ?_)
      · refine oView (T' := [(1, .ref 0 (List.length ([(⟨3, 5, 1, 0, ([0, 1] : List Int)⟩ : SMarker), (⟨4, (-1), 2, 0, ([1] : List Int)⟩ : SMarker)] : List SMarker)) 0 (List.length ([(⟨3, 5, 1, 0, ([0, 1] : List Int)⟩ : SMarker), (⟨4, (-1), 2, 0, ([1] : List Int)⟩ : SMarker)] : List SMarker))), (2, .ptr 1 0), (3, .ptr 2 0), (31, .d (.bool x7))]) (H' := [.sl 5 (List.map e_SMarker ([(⟨3, 5, 1, 0, ([0, 1] : List Int)⟩ : SMarker), (⟨4, (-1), 2, 0, ([1] : List Int)⟩ : SMarker)] : List SMarker)) true, .box [.d (.int .i64 10007), .d (.int .i64 1), .d (.int .i64 7), .d (.int .i64 6), .d (.int .i64 0), .nilc, .nilc], .box [.d (.int .i64 10008), .d (.int .i64 1), .d (.int .i64 8), .d (.int .i64 5), .d (.int .i64 0), .nilc, .nilc]]) (by kernel_rfl) (by kernel_rfl) ?_
        refine oOp (.d (.bool x7)) (by kernel_rfl) (by kernel_rfl) (PureV.does (p_move (by kernel_rfl))) ?_
        refine bMeet 6 rfl ((fun (x8 : Bool) => [(1, .ref 0 (List.length ([(⟨3, 5, 1, 0, ([0, 1] : List Int)⟩ : SMarker), (⟨4, (-1), 2, 0, ([1] : List Int)⟩ : SMarker)] : List SMarker)) 0 (List.length ([(⟨3, 5, 1, 0, ([0, 1] : List Int)⟩ : SMarker), (⟨4, (-1), 2, 0, ([1] : List Int)⟩ : SMarker)] : List SMarker))), (2, .ptr 1 0), (38, .d (.bool x8))])) ((fun (x8 : Bool) => [.sl 5 (List.map e_SMarker ([(⟨3, 5, 1, 0, ([0, 1] : List Int)⟩ : SMarker), (⟨4, (-1), 2, 0, ([1] : List Int)⟩ : SMarker)] : List SMarker)) true, .box [.d (.int .i64 10007), .d (.int .i64 1), .d (.int .i64 7), .d (.int .i64 6), .d (.int .i64 0), .nilc, .nilc]])) (fun s => s) (fun x8 => ?_) (fun hj2 => ?_)
        · refine oView (T' := [(1, .ref 0 (List.length ([(⟨3, 5, 1, 0, ([0, 1] : List Int)⟩ : SMarker), (⟨4, (-1), 2, 0, ([1] : List Int)⟩ : SMarker)] : List SMarker)) 0 (List.length ([(⟨3, 5, 1, 0, ([0, 1] : List Int)⟩ : SMarker), (⟨4, (-1), 2, 0, ([1] : List Int)⟩ : SMarker)] : List SMarker))), (2, .ptr 1 0), (38, .d (.bool x8))]) (H' := [.sl 5 (List.map e_SMarker ([(⟨3, 5, 1, 0, ([0, 1] : List Int)⟩ : SMarker), (⟨4, (-1), 2, 0, ([1] : List Int)⟩ : SMarker)] : List SMarker)) true, .box [.d (.int .i64 10007), .d (.int .i64 1), .d (.int .i64 7), .d (.int .i64 6), .d (.int .i64 0), .nilc, .nilc]]) (by kernel_rfl) (by kernel_rfl) ?_
          refine oOp (.d (.bool x8)) (by kernel_rfl) (by kernel_rfl) (PureV.does (p_move (by kernel_rfl))) ?_
          refine bMeet 6 rfl ((fun (x9 : Bool) => [(45, .d (.bool x9))])) ((fun (x9 : Bool) => [])) (fun s => s) (fun x9 => ?_) (fun hj1 => ?_)
          · refine oView (T' := [(45, .d (.bool x9))]) (H' := []) (by kernel_rfl) (by kernel_rfl) ?_
            refine oOp (.d (.bool x9)) (by kernel_rfl) (by kernel_rfl) (PureV.does (p_assign (by kernel_rfl))) ?_
            refine oEnd ?_
            exact oRet (r0 := x9) (rv := .d (.bool x9)) (B := []) (vs := [.d (.bool x9)]) (σ := []) (by kernel_rfl) Try.func14 rfl (.cons _ _ _ _ (.tmp 0 _ (by kernel_rfl)) .nil) (by kernel_rfl) (by kernel_rfl) (by kernel_rfl) (by kernel_rfl) (by decide) (by kernel_rfl) (by kernel_rfl)
          · refine bSplit 39 (by kernel_rfl) (fun hc => ?_) (fun hc => ?_)
            · refine oOp (.ref 0 (List.length ([(⟨3, 5, 1, 0, ([0, 1] : List Int)⟩ : SMarker), (⟨4, (-1), 2, 0, ([1] : List Int)⟩ : SMarker)] : List SMarker)) 0 (List.length ([(⟨3, 5, 1, 0, ([0, 1] : List Int)⟩ : SMarker), (⟨4, (-1), 2, 0, ([1] : List Int)⟩ : SMarker)] : List SMarker))) (by kernel_rfl) (by kernel_rfl) (PureV.does (p_move (by kernel_rfl))) ?_
              refine oOp (.agg [.d (.int .i64 10007), .d (.int .i64 1), .d (.int .i64 7), .d (.int .i64 6), .d (.int .i64 0), .nilc, .nilc]) (by kernel_rfl) (by kernel_rfl) (Quiet.does (k_loadAgg 1 0 (by kernel_rfl) Try.underlying50 (by kernel_rfl) ty50 (by kernel_rfl))) ?_
              refine bCall (caps := []) (v := (fun (r115 : (List Int)) => (.d (.lit (List.map e_i64 r115)) : V))) (H' := (fun (r115 : (List Int)) => ([.sl 5 (List.map e_SMarker ([(⟨3, 5, 1, 0, ([0, 1] : List Int)⟩ : SMarker), (⟨4, (-1), 2, 0, ([1] : List Int)⟩ : SMarker)] : List SMarker)) true, .box [.d (.int .i64 10007), .d (.int .i64 1), .d (.int .i64 7), .d (.int .i64 6), .d (.int .i64 0), .nilc, .nilc]] : List Blk))) [] _ (marker_Seniors_goes k ([(⟨3, 5, 1, 0, ([0, 1] : List Int)⟩ : SMarker), (⟨4, (-1), 2, 0, ([1] : List Int)⟩ : SMarker)] : List SMarker) 10007 1 7 6 0 [] []) (by kernel_rfl) (by kernel_rfl) rfl (by kernel_rfl) Try.func21 rfl (by kernel_rfl) (convList (vs0 := [.ref 0 (List.length ([(⟨3, 5, 1, 0, ([0, 1] : List Int)⟩ : SMarker), (⟨4, (-1), 2, 0, ([1] : List Int)⟩ : SMarker)] : List SMarker)) 0 (List.length ([(⟨3, 5, 1, 0, ([0, 1] : List Int)⟩ : SMarker), (⟨4, (-1), 2, 0, ([1] : List Int)⟩ : SMarker)] : List SMarker)), .agg [.d (.int .i64 10007), .d (.int .i64 1), .d (.int .i64 7), .d (.int .i64 6), .d (.int .i64 0), .nilc, .nilc]]) (vs := [.d (.lit (List.map e_SMarker ([(⟨3, 5, 1, 0, ([0, 1] : List Int)⟩ : SMarker), (⟨4, (-1), 2, 0, ([1] : List Int)⟩ : SMarker)] : List SMarker))), .agg [.d (.int .i64 10007), .d (.int .i64 1), .d (.int .i64 7), .d (.int .i64 6), .d (.int .i64 0), .d (.lit (List.map e_i64 [])), .d (.lit (List.map e_i64 []))]]) (by kernel_rfl) (.cons _ _ _ _ (k_lit (enc := e_SMarker) (sz := 5) 0 ([(⟨3, 5, 1, 0, ([0, 1] : List Int)⟩ : SMarker), (⟨4, (-1), 2, 0, ([1] : List Int)⟩ : SMarker)] : List SMarker) (by kernel_rfl)) (.cons _ _ _ _ (.agg _ _ (.cons _ _ _ _ (.same _) (.cons _ _ _ _ (.same _) (.cons _ _ _ _ (.same _) (.cons _ _ _ _ (.same _) (.cons _ _ _ _ (.same _) (.cons _ _ _ _ .nil (.cons _ _ _ _ .nil .nil)))))))) .nil))) (by kernel_rfl) (by kernel_rfl) (by kernel_rfl) (by decide) (by kernel_rfl) (by kernel_rfl) (fun _ => (by kernel_rfl)) (fun _ => (by kernel_rfl)) (fun _ => (by kernel_rfl)) (fun r115 => ?_)
              refine oOp (.ref 2 (List.length ([4] : List Int)) 0 (List.length ([4] : List Int))) (by kernel_rfl) (by kernel_rfl) (k_buildSlice (H' := [.sl 5 (List.map e_SMarker ([(⟨3, 5, 1, 0, ([0, 1] : List Int)⟩ : SMarker), (⟨4, (-1), 2, 0, ([1] : List Int)⟩ : SMarker)] : List SMarker)) true, .box [.d (.int .i64 10007), .d (.int .i64 1), .d (.int .i64 7), .d (.int .i64 6), .d (.int .i64 0), .nilc, .nilc], .sl 1 (List.map e_i64 ([4] : List Int)) false]) (List.map e_i64 ([4] : List Int)) Try.underlying22 ty3 (by kernel_rfl) (by kernel_rfl) (by kernel_rfl)) ?_
              refine oFreeze 2 (esz := 1) (xs := List.map e_i64 ([4] : List Int)) (by kernel_rfl) ?_
              refine oView (H' := [.sl 5 (List.map e_SMarker ([(⟨3, 5, 1, 0, ([0, 1] : List Int)⟩ : SMarker), (⟨4, (-1), 2, 0, ([1] : List Int)⟩ : SMarker)] : List SMarker)) true, .box [.d (.int .i64 10007), .d (.int .i64 1), .d (.int .i64 7), .d (.int .i64 6), .d (.int .i64 0), .nilc, .nilc], .sl 1 (List.map e_i64 ([4] : List Int)) true]) rfl (by kernel_rfl) ?_
              refine bCall (caps := []) (v := (fun (r116 : Bool) => (.d (.bool r116) : V))) (H' := (fun (r116 : Bool) => ([.sl 5 (List.map e_SMarker ([(⟨3, 5, 1, 0, ([0, 1] : List Int)⟩ : SMarker), (⟨4, (-1), 2, 0, ([1] : List Int)⟩ : SMarker)] : List SMarker)) true, .box [.d (.int .i64 10007), .d (.int .i64 1), .d (.int .i64 7), .d (.int .i64 6), .d (.int .i64 0), .nilc, .nilc], .sl 1 (List.map e_i64 ([4] : List Int)) true] : List Blk))) [] _ (law24_same_goes k r115 ([4] : List Int)) (by kernel_rfl) (by kernel_rfl) rfl (by kernel_rfl) Try.func19 rfl (by kernel_rfl) (convList (vs0 := [.d (.lit (List.map e_i64 r115)), .ref 2 (List.length ([4] : List Int)) 0 (List.length ([4] : List Int))]) (vs := [.d (.lit (List.map e_i64 r115)), .d (.lit (List.map e_i64 ([4] : List Int)))]) (by kernel_rfl) (.cons _ _ _ _ (.same _) (.cons _ _ _ _ (k_lit (enc := e_i64) (sz := 1) 2 ([4] : List Int) (by kernel_rfl)) .nil))) (by kernel_rfl) (by kernel_rfl) (by kernel_rfl) (by decide) (by kernel_rfl) (by kernel_rfl) (fun _ => (by kernel_rfl)) (fun _ => (by kernel_rfl)) (fun _ => (by kernel_rfl)) (fun r116 => ?_)
              refine oOp (.d (.bool r116)) (by kernel_rfl) (by kernel_rfl) (PureV.does (p_pick (b := true) (by kernel_rfl) (by kernel_rfl))) ?_
              refine oHead [45] [] (T' := [(45, .d (.bool r116))]) (H' := []) (by kernel_rfl) (by kernel_rfl) (by kernel_rfl) (by kernel_rfl) (by decide) (by kernel_rfl) (by kernel_rfl) ?_
              exact hj1 r116
            · refine oNot (by kernel_rfl) (by kernel_rfl) ?_
              refine oNot (by kernel_rfl) (by kernel_rfl) ?_
              refine oNot (by kernel_rfl) (by kernel_rfl) ?_
              refine oNot (by kernel_rfl) (by kernel_rfl) ?_
              refine oNot (by kernel_rfl) (by kernel_rfl) ?_
              refine oOp (.d (.bool false)) (by kernel_rfl) (by kernel_rfl) (PureV.does (p_pick (b := false) (by kernel_rfl) (by kernel_rfl))) ?_
              refine oHead [45] [] (T' := [(45, .d (.bool false))]) (H' := []) (by kernel_rfl) (by kernel_rfl) (by kernel_rfl) (by kernel_rfl) (by decide) (by kernel_rfl) (by kernel_rfl) ?_
              exact hj1 false
        · refine bSplit 32 (by kernel_rfl) (fun hc => ?_) (fun hc => ?_)
          · refine oOp (.ref 0 (List.length ([(⟨3, 5, 1, 0, ([0, 1] : List Int)⟩ : SMarker), (⟨4, (-1), 2, 0, ([1] : List Int)⟩ : SMarker)] : List SMarker)) 0 (List.length ([(⟨3, 5, 1, 0, ([0, 1] : List Int)⟩ : SMarker), (⟨4, (-1), 2, 0, ([1] : List Int)⟩ : SMarker)] : List SMarker))) (by kernel_rfl) (by kernel_rfl) (PureV.does (p_move (by kernel_rfl))) ?_
            refine oOp (.agg [.d (.int .i64 10008), .d (.int .i64 1), .d (.int .i64 8), .d (.int .i64 5), .d (.int .i64 0), .nilc, .nilc]) (by kernel_rfl) (by kernel_rfl) (Quiet.does (k_loadAgg 2 0 (by kernel_rfl) Try.underlying50 (by kernel_rfl) ty50 (by kernel_rfl))) ?_
            refine bCall (caps := []) (v := (fun (r117 : (List Int)) => (.d (.lit (List.map e_i64 r117)) : V))) (H' := (fun (r117 : (List Int)) => ([.sl 5 (List.map e_SMarker ([(⟨3, 5, 1, 0, ([0, 1] : List Int)⟩ : SMarker), (⟨4, (-1), 2, 0, ([1] : List Int)⟩ : SMarker)] : List SMarker)) true, .box [.d (.int .i64 10007), .d (.int .i64 1), .d (.int .i64 7), .d (.int .i64 6), .d (.int .i64 0), .nilc, .nilc], .box [.d (.int .i64 10008), .d (.int .i64 1), .d (.int .i64 8), .d (.int .i64 5), .d (.int .i64 0), .nilc, .nilc]] : List Blk))) [] _ (marker_Able_goes k ([(⟨3, 5, 1, 0, ([0, 1] : List Int)⟩ : SMarker), (⟨4, (-1), 2, 0, ([1] : List Int)⟩ : SMarker)] : List SMarker) 10008 1 8 5 0 [] []) (by kernel_rfl) (by kernel_rfl) rfl (by kernel_rfl) Try.func20 rfl (by kernel_rfl) (convList (vs0 := [.ref 0 (List.length ([(⟨3, 5, 1, 0, ([0, 1] : List Int)⟩ : SMarker), (⟨4, (-1), 2, 0, ([1] : List Int)⟩ : SMarker)] : List SMarker)) 0 (List.length ([(⟨3, 5, 1, 0, ([0, 1] : List Int)⟩ : SMarker), (⟨4, (-1), 2, 0, ([1] : List Int)⟩ : SMarker)] : List SMarker)), .agg [.d (.int .i64 10008), .d (.int .i64 1), .d (.int .i64 8), .d (.int .i64 5), .d (.int .i64 0), .nilc, .nilc]]) (vs := [.d (.lit (List.map e_SMarker ([(⟨3, 5, 1, 0, ([0, 1] : List Int)⟩ : SMarker), (⟨4, (-1), 2, 0, ([1] : List Int)⟩ : SMarker)] : List SMarker))), .agg [.d (.int .i64 10008), .d (.int .i64 1), .d (.int .i64 8), .d (.int .i64 5), .d (.int .i64 0), .d (.lit (List.map e_i64 [])), .d (.lit (List.map e_i64 []))]]) (by kernel_rfl) (.cons _ _ _ _ (k_lit (enc := e_SMarker) (sz := 5) 0 ([(⟨3, 5, 1, 0, ([0, 1] : List Int)⟩ : SMarker), (⟨4, (-1), 2, 0, ([1] : List Int)⟩ : SMarker)] : List SMarker) (by kernel_rfl)) (.cons _ _ _ _ (.agg _ _ (.cons _ _ _ _ (.same _) (.cons _ _ _ _ (.same _) (.cons _ _ _ _ (.same _) (.cons _ _ _ _ (.same _) (.cons _ _ _ _ (.same _) (.cons _ _ _ _ .nil (.cons _ _ _ _ .nil .nil)))))))) .nil))) (by kernel_rfl) (by kernel_rfl) (by kernel_rfl) (by decide) (by kernel_rfl) (by kernel_rfl) (fun _ => (by kernel_rfl)) (fun _ => (by kernel_rfl)) (fun _ => (by kernel_rfl)) (fun r117 => ?_)
            refine oOp (.ref 3 (List.length ([4] : List Int)) 0 (List.length ([4] : List Int))) (by kernel_rfl) (by kernel_rfl) (k_buildSlice (H' := [.sl 5 (List.map e_SMarker ([(⟨3, 5, 1, 0, ([0, 1] : List Int)⟩ : SMarker), (⟨4, (-1), 2, 0, ([1] : List Int)⟩ : SMarker)] : List SMarker)) true, .box [.d (.int .i64 10007), .d (.int .i64 1), .d (.int .i64 7), .d (.int .i64 6), .d (.int .i64 0), .nilc, .nilc], .box [.d (.int .i64 10008), .d (.int .i64 1), .d (.int .i64 8), .d (.int .i64 5), .d (.int .i64 0), .nilc, .nilc], .sl 1 (List.map e_i64 ([4] : List Int)) false]) (List.map e_i64 ([4] : List Int)) Try.underlying22 ty3 (by kernel_rfl) (by kernel_rfl) (by kernel_rfl)) ?_
            refine oFreeze 3 (esz := 1) (xs := List.map e_i64 ([4] : List Int)) (by kernel_rfl) ?_
            refine oView (H' := [.sl 5 (List.map e_SMarker ([(⟨3, 5, 1, 0, ([0, 1] : List Int)⟩ : SMarker), (⟨4, (-1), 2, 0, ([1] : List Int)⟩ : SMarker)] : List SMarker)) true, .box [.d (.int .i64 10007), .d (.int .i64 1), .d (.int .i64 7), .d (.int .i64 6), .d (.int .i64 0), .nilc, .nilc], .box [.d (.int .i64 10008), .d (.int .i64 1), .d (.int .i64 8), .d (.int .i64 5), .d (.int .i64 0), .nilc, .nilc], .sl 1 (List.map e_i64 ([4] : List Int)) true]) rfl (by kernel_rfl) ?_
            refine bCall (caps := []) (v := (fun (r118 : Bool) => (.d (.bool r118) : V))) (H' := (fun (r118 : Bool) => ([.sl 5 (List.map e_SMarker ([(⟨3, 5, 1, 0, ([0, 1] : List Int)⟩ : SMarker), (⟨4, (-1), 2, 0, ([1] : List Int)⟩ : SMarker)] : List SMarker)) true, .box [.d (.int .i64 10007), .d (.int .i64 1), .d (.int .i64 7), .d (.int .i64 6), .d (.int .i64 0), .nilc, .nilc], .box [.d (.int .i64 10008), .d (.int .i64 1), .d (.int .i64 8), .d (.int .i64 5), .d (.int .i64 0), .nilc, .nilc], .sl 1 (List.map e_i64 ([4] : List Int)) true] : List Blk))) [] _ (law24_same_goes k r117 ([4] : List Int)) (by kernel_rfl) (by kernel_rfl) rfl (by kernel_rfl) Try.func19 rfl (by kernel_rfl) (convList (vs0 := [.d (.lit (List.map e_i64 r117)), .ref 3 (List.length ([4] : List Int)) 0 (List.length ([4] : List Int))]) (vs := [.d (.lit (List.map e_i64 r117)), .d (.lit (List.map e_i64 ([4] : List Int)))]) (by kernel_rfl) (.cons _ _ _ _ (.same _) (.cons _ _ _ _ (k_lit (enc := e_i64) (sz := 1) 3 ([4] : List Int) (by kernel_rfl)) .nil))) (by kernel_rfl) (by kernel_rfl) (by kernel_rfl) (by decide) (by kernel_rfl) (by kernel_rfl) (fun _ => (by kernel_rfl)) (fun _ => (by kernel_rfl)) (fun _ => (by kernel_rfl)) (fun r118 => ?_)
            refine oOp (.d (.bool r118)) (by kernel_rfl) (by kernel_rfl) (PureV.does (p_pick (b := true) (by kernel_rfl) (by kernel_rfl))) ?_
            refine oHead [1, 2, 38] [0, 1] (T' := [(1, .ref 0 (List.length ([(⟨3, 5, 1, 0, ([0, 1] : List Int)⟩ : SMarker), (⟨4, (-1), 2, 0, ([1] : List Int)⟩ : SMarker)] : List SMarker)) 0 (List.length ([(⟨3, 5, 1, 0, ([0, 1] : List Int)⟩ : SMarker), (⟨4, (-1), 2, 0, ([1] : List Int)⟩ : SMarker)] : List SMarker))), (2, .ptr 1 0), (38, .d (.bool r118))]) (H' := [.sl 5 (List.map e_SMarker ([(⟨3, 5, 1, 0, ([0, 1] : List Int)⟩ : SMarker), (⟨4, (-1), 2, 0, ([1] : List Int)⟩ : SMarker)] : List SMarker)) true, .box [.d (.int .i64 10007), .d (.int .i64 1), .d (.int .i64 7), .d (.int .i64 6), .d (.int .i64 0), .nilc, .nilc]]) (by kernel_rfl) (by kernel_rfl) (by kernel_rfl) (by kernel_rfl) (by decide) (by kernel_rfl) (by kernel_rfl) ?_
            exact hj2 r118
          · refine oNot (by kernel_rfl) (by kernel_rfl) ?_
            refine oNot (by kernel_rfl) (by kernel_rfl) ?_
            refine oNot (by kernel_rfl) (by kernel_rfl) ?_
            refine oNot (by kernel_rfl) (by kernel_rfl) ?_
            refine oNot (by kernel_rfl) (by kernel_rfl) ?_
            refine oOp (.d (.bool false)) (by kernel_rfl) (by kernel_rfl) (PureV.does (p_pick (b := false) (by kernel_rfl) (by kernel_rfl))) ?_
            refine oHead [1, 2, 38] [0, 1] (T' := [(1, .ref 0 (List.length ([(⟨3, 5, 1, 0, ([0, 1] : List Int)⟩ : SMarker), (⟨4, (-1), 2, 0, ([1] : List Int)⟩ : SMarker)] : List SMarker)) 0 (List.length ([(⟨3, 5, 1, 0, ([0, 1] : List Int)⟩ : SMarker), (⟨4, (-1), 2, 0, ([1] : List Int)⟩ : SMarker)] : List SMarker))), (2, .ptr 1 0), (38, .d (.bool false))]) (H' := [.sl 5 (List.map e_SMarker ([(⟨3, 5, 1, 0, ([0, 1] : List Int)⟩ : SMarker), (⟨4, (-1), 2, 0, ([1] : List Int)⟩ : SMarker)] : List SMarker)) true, .box [.d (.int .i64 10007), .d (.int .i64 1), .d (.int .i64 7), .d (.int .i64 6), .d (.int .i64 0), .nilc, .nilc]]) (by kernel_rfl) (by kernel_rfl) (by kernel_rfl) (by kernel_rfl) (by decide) (by kernel_rfl) (by kernel_rfl) ?_
            exact hj2 false
      · refine bSplit 26 (by kernel_rfl) (fun hc => ?_) (fun hc => ?_)
        · refine oOp (.ref 0 (List.length ([(⟨3, 5, 1, 0, ([0, 1] : List Int)⟩ : SMarker), (⟨4, (-1), 2, 0, ([1] : List Int)⟩ : SMarker)] : List SMarker)) 0 (List.length ([(⟨3, 5, 1, 0, ([0, 1] : List Int)⟩ : SMarker), (⟨4, (-1), 2, 0, ([1] : List Int)⟩ : SMarker)] : List SMarker))) (by kernel_rfl) (by kernel_rfl) (PureV.does (p_move (by kernel_rfl))) ?_
          refine oOp (.agg [.d (.int .i64 10008), .d (.int .i64 1), .d (.int .i64 8), .d (.int .i64 5), .d (.int .i64 0), .nilc, .nilc]) (by kernel_rfl) (by kernel_rfl) (Quiet.does (k_loadAgg 2 0 (by kernel_rfl) Try.underlying50 (by kernel_rfl) ty50 (by kernel_rfl))) ?_
          refine bCall (caps := []) (v := (fun (r119 : Bool) => (.d (.bool r119) : V))) (H' := (fun (r119 : Bool) => ([.sl 5 (List.map e_SMarker ([(⟨3, 5, 1, 0, ([0, 1] : List Int)⟩ : SMarker), (⟨4, (-1), 2, 0, ([1] : List Int)⟩ : SMarker)] : List SMarker)) true, .box [.d (.int .i64 10007), .d (.int .i64 1), .d (.int .i64 7), .d (.int .i64 6), .d (.int .i64 0), .nilc, .nilc], .box [.d (.int .i64 10008), .d (.int .i64 1), .d (.int .i64 8), .d (.int .i64 5), .d (.int .i64 0), .nilc, .nilc]] : List Blk))) [] _ (marker_Eligible_goes k ([(⟨3, 5, 1, 0, ([0, 1] : List Int)⟩ : SMarker), (⟨4, (-1), 2, 0, ([1] : List Int)⟩ : SMarker)] : List SMarker) 3 10008 1 8 5 0 [] []) (by kernel_rfl) (by kernel_rfl) rfl (by kernel_rfl) Try.func18 rfl (by kernel_rfl) (convList (vs0 := [.ref 0 (List.length ([(⟨3, 5, 1, 0, ([0, 1] : List Int)⟩ : SMarker), (⟨4, (-1), 2, 0, ([1] : List Int)⟩ : SMarker)] : List SMarker)) 0 (List.length ([(⟨3, 5, 1, 0, ([0, 1] : List Int)⟩ : SMarker), (⟨4, (-1), 2, 0, ([1] : List Int)⟩ : SMarker)] : List SMarker)), .d (.int .i64 3), .agg [.d (.int .i64 10008), .d (.int .i64 1), .d (.int .i64 8), .d (.int .i64 5), .d (.int .i64 0), .nilc, .nilc]]) (vs := [.d (.lit (List.map e_SMarker ([(⟨3, 5, 1, 0, ([0, 1] : List Int)⟩ : SMarker), (⟨4, (-1), 2, 0, ([1] : List Int)⟩ : SMarker)] : List SMarker))), .d (.int .i64 3), .agg [.d (.int .i64 10008), .d (.int .i64 1), .d (.int .i64 8), .d (.int .i64 5), .d (.int .i64 0), .d (.lit (List.map e_i64 [])), .d (.lit (List.map e_i64 []))]]) (by kernel_rfl) (.cons _ _ _ _ (k_lit (enc := e_SMarker) (sz := 5) 0 ([(⟨3, 5, 1, 0, ([0, 1] : List Int)⟩ : SMarker), (⟨4, (-1), 2, 0, ([1] : List Int)⟩ : SMarker)] : List SMarker) (by kernel_rfl)) (.cons _ _ _ _ (.same _) (.cons _ _ _ _ (.agg _ _ (.cons _ _ _ _ (.same _) (.cons _ _ _ _ (.same _) (.cons _ _ _ _ (.same _) (.cons _ _ _ _ (.same _) (.cons _ _ _ _ (.same _) (.cons _ _ _ _ .nil (.cons _ _ _ _ .nil .nil)))))))) .nil)))) (by kernel_rfl) (by kernel_rfl) (by kernel_rfl) (by decide) (by kernel_rfl) (by kernel_rfl) (fun _ => (by kernel_rfl)) (fun _ => (by kernel_rfl)) (fun _ => (by kernel_rfl)) (fun r119 => ?_)
          refine oOp (.d (.bool (!r119))) (by kernel_rfl) (by kernel_rfl) (PureV.does (p_not (p := r119) (by kernel_rfl) (by kernel_rfl))) ?_
          refine oOp (.d (.bool (!r119))) (by kernel_rfl) (by kernel_rfl) (PureV.does (p_pick (b := true) (by kernel_rfl) (by kernel_rfl))) ?_
          refine oHead [1, 2, 3, 31] [0, 1, 2] (T' := [(1, .ref 0 (List.length ([(⟨3, 5, 1, 0, ([0, 1] : List Int)⟩ : SMarker), (⟨4, (-1), 2, 0, ([1] : List Int)⟩ : SMarker)] : List SMarker)) 0 (List.length ([(⟨3, 5, 1, 0, ([0, 1] : List Int)⟩ : SMarker), (⟨4, (-1), 2, 0, ([1] : List Int)⟩ : SMarker)] : List SMarker))), (2, .ptr 1 0), (3, .ptr 2 0), (31, .d (.bool (!r119)))]) (H' := [.sl 5 (List.map e_SMarker ([(⟨3, 5, 1, 0, ([0, 1] : List Int)⟩ : SMarker), (⟨4, (-1), 2, 0, ([1] : List Int)⟩ : SMarker)] : List SMarker)) true, .box [.d (.int .i64 10007), .d (.int .i64 1), .d (.int .i64 7), .d (.int .i64 6), .d (.int .i64 0), .nilc, .nilc], .box [.d (.int .i64 10008), .d (.int .i64 1), .d (.int .i64 8), .d (.int .i64 5), .d (.int .i64 0), .nilc, .nilc]]) (by kernel_rfl) (by kernel_rfl) (by kernel_rfl) (by kernel_rfl) (by decide) (by kernel_rfl) (by kernel_rfl) ?_
          exact hj3 (!r119)
        · refine oNot (by kernel_rfl) (by kernel_rfl) ?_
          refine oNot (by kernel_rfl) (by kernel_rfl) ?_
          refine oNot (by kernel_rfl) (by kernel_rfl) ?_
          refine oNot (by kernel_rfl) (by kernel_rfl) ?_
          refine oOp (.d (.bool false)) (by kernel_rfl) (by kernel_rfl) (PureV.does (p_pick (b := false) (by kernel_rfl) (by kernel_rfl))) ?_
          refine oHead [1, 2, 3, 31] [0, 1, 2] (T' := [(1, .ref 0 (List.length ([(⟨3, 5, 1, 0, ([0, 1] : List Int)⟩ : SMarker), (⟨4, (-1), 2, 0, ([1] : List Int)⟩ : SMarker)] : List SMarker)) 0 (List.length ([(⟨3, 5, 1, 0, ([0, 1] : List Int)⟩ : SMarker), (⟨4, (-1), 2, 0, ([1] : List Int)⟩ : SMarker)] : List SMarker))), (2, .ptr 1 0), (3, .ptr 2 0), (31, .d (.bool false))]) (H' := [.sl 5 (List.map e_SMarker ([(⟨3, 5, 1, 0, ([0, 1] : List Int)⟩ : SMarker), (⟨4, (-1), 2, 0, ([1] : List Int)⟩ : SMarker)] : List SMarker)) true, .box [.d (.int .i64 10007), .d (.int .i64 1), .d (.int .i64 7), .d (.int .i64 6), .d (.int .i64 0), .nilc, .nilc], .box [.d (.int .i64 10008), .d (.int .i64 1), .d (.int .i64 8), .d (.int .i64 5), .d (.int .i64 0), .nilc, .nilc]]) (by kernel_rfl) (by kernel_rfl) (by kernel_rfl) (by kernel_rfl) (by decide) (by kernel_rfl) (by kernel_rfl) ?_
          exact hj3 false
    · refine bSplit 21 (by kernel_rfl) (fun hc => ?_) (fun hc => ?_)
      · refine oOp (.ref 0 (List.length ([(⟨3, 5, 1, 0, ([0, 1] : List Int)⟩ : SMarker), (⟨4, (-1), 2, 0, ([1] : List Int)⟩ : SMarker)] : List SMarker)) 0 (List.length ([(⟨3, 5, 1, 0, ([0, 1] : List Int)⟩ : SMarker), (⟨4, (-1), 2, 0, ([1] : List Int)⟩ : SMarker)] : List SMarker))) (by kernel_rfl) (by kernel_rfl) (PureV.does (p_move (by kernel_rfl))) ?_
        refine oOp (.agg [.d (.int .i64 10007), .d (.int .i64 1), .d (.int .i64 7), .d (.int .i64 6), .d (.int .i64 0), .nilc, .nilc]) (by kernel_rfl) (by kernel_rfl) (Quiet.does (k_loadAgg 1 0 (by kernel_rfl) Try.underlying50 (by kernel_rfl) ty50 (by kernel_rfl))) ?_
        refine bCall (caps := []) (v := (fun (r1110 : Bool) => (.d (.bool r1110) : V))) (H' := (fun (r1110 : Bool) => ([.sl 5 (List.map e_SMarker ([(⟨3, 5, 1, 0, ([0, 1] : List Int)⟩ : SMarker), (⟨4, (-1), 2, 0, ([1] : List Int)⟩ : SMarker)] : List SMarker)) true, .box [.d (.int .i64 10007), .d (.int .i64 1), .d (.int .i64 7), .d (.int .i64 6), .d (.int .i64 0), .nilc, .nilc], .box [.d (.int .i64 10008), .d (.int .i64 1), .d (.int .i64 8), .d (.int .i64 5), .d (.int .i64 0), .nilc, .nilc]] : List Blk))) [] _ (marker_Eligible_goes k ([(⟨3, 5, 1, 0, ([0, 1] : List Int)⟩ : SMarker), (⟨4, (-1), 2, 0, ([1] : List Int)⟩ : SMarker)] : List SMarker) 3 10007 1 7 6 0 [] []) (by kernel_rfl) (by kernel_rfl) rfl (by kernel_rfl) Try.func18 rfl (by kernel_rfl) (convList (vs0 := [.ref 0 (List.length ([(⟨3, 5, 1, 0, ([0, 1] : List Int)⟩ : SMarker), (⟨4, (-1), 2, 0, ([1] : List Int)⟩ : SMarker)] : List SMarker)) 0 (List.length ([(⟨3, 5, 1, 0, ([0, 1] : List Int)⟩ : SMarker), (⟨4, (-1), 2, 0, ([1] : List Int)⟩ : SMarker)] : List SMarker)), .d (.int .i64 3), .agg [.d (.int .i64 10007), .d (.int .i64 1), .d (.int .i64 7), .d (.int .i64 6), .d (.int .i64 0), .nilc, .nilc]]) (vs := [.d (.lit (List.map e_SMarker ([(⟨3, 5, 1, 0, ([0, 1] : List Int)⟩ : SMarker), (⟨4, (-1), 2, 0, ([1] : List Int)⟩ : SMarker)] : List SMarker))), .d (.int .i64 3), .agg [.d (.int .i64 10007), .d (.int .i64 1), .d (.int .i64 7), .d (.int .i64 6), .d (.int .i64 0), .d (.lit (List.map e_i64 [])), .d (.lit (List.map e_i64 []))]]) (by kernel_rfl) (.cons _ _ _ _ (k_lit (enc := e_SMarker) (sz := 5) 0 ([(⟨3, 5, 1, 0, ([0, 1] : List Int)⟩ : SMarker), (⟨4, (-1), 2, 0, ([1] : List Int)⟩ : SMarker)] : List SMarker) (by kernel_rfl)) (.cons _ _ _ _ (.same _) (.cons _ _ _ _ (.agg _ _ (.cons _ _ _ _ (.same _) (.cons _ _ _ _ (.same _) (.cons _ _ _ _ (.same _) (.cons _ _ _ _ (.same _) (.cons _ _ _ _ (.same _) (.cons _ _ _ _ .nil (.cons _ _ _ _ .nil .nil)))))))) .nil)))) (by kernel_rfl) (by kernel_rfl) (by kernel_rfl) (by decide) (by kernel_rfl) (by kernel_rfl) (fun _ => (by kernel_rfl)) (fun _ => (by kernel_rfl)) (fun _ => (by kernel_rfl)) (fun r1110 => ?_)
        refine oOp (.d (.bool r1110)) (by kernel_rfl) (by kernel_rfl) (PureV.does (p_pick (b := true) (by kernel_rfl) (by kernel_rfl))) ?_
        refine oHead [1, 2, 3, 25] [0, 1, 2] (T' := [(1, .ref 0 (List.length ([(⟨3, 5, 1, 0, ([0, 1] : List Int)⟩ : SMarker), (⟨4, (-1), 2, 0, ([1] : List Int)⟩ : SMarker)] : List SMarker)) 0 (List.length ([(⟨3, 5, 1, 0, ([0, 1] : List Int)⟩ : SMarker), (⟨4, (-1), 2, 0, ([1] : List Int)⟩ : SMarker)] : List SMarker))), (2, .ptr 1 0), (3, .ptr 2 0), (25, .d (.bool r1110))]) (H' := [.sl 5 (List.map e_SMarker ([(⟨3, 5, 1, 0, ([0, 1] : List Int)⟩ : SMarker), (⟨4, (-1), 2, 0, ([1] : List Int)⟩ : SMarker)] : List SMarker)) true, .box [.d (.int .i64 10007), .d (.int .i64 1), .d (.int .i64 7), .d (.int .i64 6), .d (.int .i64 0), .nilc, .nilc], .box [.d (.int .i64 10008), .d (.int .i64 1), .d (.int .i64 8), .d (.int .i64 5), .d (.int .i64 0), .nilc, .nilc]]) (by kernel_rfl) (by kernel_rfl) (by kernel_rfl) (by kernel_rfl) (by decide) (by kernel_rfl) (by kernel_rfl) ?_
        exact hj4 r1110
      · refine oNot (by kernel_rfl) (by kernel_rfl) ?_
        refine oNot (by kernel_rfl) (by kernel_rfl) ?_
        refine oNot (by kernel_rfl) (by kernel_rfl) ?_
        refine oOp (.d (.bool false)) (by kernel_rfl) (by kernel_rfl) (PureV.does (p_pick (b := false) (by kernel_rfl) (by kernel_rfl))) ?_
        refine oHead [1, 2, 3, 25] [0, 1, 2] (T' := [(1, .ref 0 (List.length ([(⟨3, 5, 1, 0, ([0, 1] : List Int)⟩ : SMarker), (⟨4, (-1), 2, 0, ([1] : List Int)⟩ : SMarker)] : List SMarker)) 0 (List.length ([(⟨3, 5, 1, 0, ([0, 1] : List Int)⟩ : SMarker), (⟨4, (-1), 2, 0, ([1] : List Int)⟩ : SMarker)] : List SMarker))), (2, .ptr 1 0), (3, .ptr 2 0), (25, .d (.bool false))]) (H' := [.sl 5 (List.map e_SMarker ([(⟨3, 5, 1, 0, ([0, 1] : List Int)⟩ : SMarker), (⟨4, (-1), 2, 0, ([1] : List Int)⟩ : SMarker)] : List SMarker)) true, .box [.d (.int .i64 10007), .d (.int .i64 1), .d (.int .i64 7), .d (.int .i64 6), .d (.int .i64 0), .nilc, .nilc], .box [.d (.int .i64 10008), .d (.int .i64 1), .d (.int .i64 8), .d (.int .i64 5), .d (.int .i64 0), .nilc, .nilc]]) (by kernel_rfl) (by kernel_rfl) (by kernel_rfl) (by kernel_rfl) (by decide) (by kernel_rfl) (by kernel_rfl) ?_
        exact hj4 false
  · refine bSplit 14 (by kernel_rfl) (fun hc => ?_) (fun hc => ?_)
    · refine oOp (.agg [.d (.int .i64 10007), .d (.int .i64 1), .d (.int .i64 7), .d (.int .i64 6), .d (.int .i64 0), .nilc, .nilc]) (by kernel_rfl) (by kernel_rfl) (Quiet.does (k_loadAgg 3 0 (by kernel_rfl) Try.underlying50 (by kernel_rfl) ty50 (by kernel_rfl))) ?_
      refine oOp (.agg [.d (.int .i64 10008), .d (.int .i64 1), .d (.int .i64 8), .d (.int .i64 5), .d (.int .i64 0), .nilc, .nilc]) (by kernel_rfl) (by kernel_rfl) (Quiet.does (k_loadAgg 4 0 (by kernel_rfl) Try.underlying50 (by kernel_rfl) ty50 (by kernel_rfl))) ?_
      refine oOp (.ref 5 (List.length ([(⟨10007, 1, 7, 6, 0, [], []⟩ : SScript), (⟨10008, 1, 8, 5, 0, [], []⟩ : SScript)] : List SScript)) 0 (List.length ([(⟨10007, 1, 7, 6, 0, [], []⟩ : SScript), (⟨10008, 1, 8, 5, 0, [], []⟩ : SScript)] : List SScript))) (by kernel_rfl) (by kernel_rfl) (k_buildSlice (H' := [.sl 1 (List.map e_i64 ([0, 1] : List Int)) true, .sl 1 (List.map e_i64 ([1] : List Int)) true, .sl 5 (List.map e_SMarker ([(⟨3, 5, 1, 0, ([0, 1] : List Int)⟩ : SMarker), (⟨4, (-1), 2, 0, ([1] : List Int)⟩ : SMarker)] : List SMarker)) true, .box [.d (.int .i64 10007), .d (.int .i64 1), .d (.int .i64 7), .d (.int .i64 6), .d (.int .i64 0), .nilc, .nilc], .box [.d (.int .i64 10008), .d (.int .i64 1), .d (.int .i64 8), .d (.int .i64 5), .d (.int .i64 0), .nilc, .nilc], .sl 7 (List.map e_SScript ([(⟨10007, 1, 7, 6, 0, [], []⟩ : SScript), (⟨10008, 1, 8, 5, 0, [], []⟩ : SScript)] : List SScript)) false]) (List.map e_SScript ([(⟨10007, 1, 7, 6, 0, [], []⟩ : SScript), (⟨10008, 1, 8, 5, 0, [], []⟩ : SScript)] : List SScript)) Try.underlying47 ty50 (by kernel_rfl) (by kernel_rfl) (by kernel_rfl)) ?_
      refine oFreeze 5 (esz := 7) (xs := List.map e_SScript ([(⟨10007, 1, 7, 6, 0, [], []⟩ : SScript), (⟨10008, 1, 8, 5, 0, [], []⟩ : SScript)] : List SScript)) (by kernel_rfl) ?_
      refine oView (H' := [.sl 1 (List.map e_i64 ([0, 1] : List Int)) true, .sl 1 (List.map e_i64 ([1] : List Int)) true, .sl 5 (List.map e_SMarker ([(⟨3, 5, 1, 0, ([0, 1] : List Int)⟩ : SMarker), (⟨4, (-1), 2, 0, ([1] : List Int)⟩ : SMarker)] : List SMarker)) true, .box [.d (.int .i64 10007), .d (.int .i64 1), .d (.int .i64 7), .d (.int .i64 6), .d (.int .i64 0), .nilc, .nilc], .box [.d (.int .i64 10008), .d (.int .i64 1), .d (.int .i64 8), .d (.int .i64 5), .d (.int .i64 0), .nilc, .nilc], .sl 7 (List.map e_SScript ([(⟨10007, 1, 7, 6, 0, [], []⟩ : SScript), (⟨10008, 1, 8, 5, 0, [], []⟩ : SScript)] : List SScript)) true]) rfl (by kernel_rfl) ?_
      refine bCall (caps := []) (v := (fun (r120 : Int) => (.d (.int .i64 r120) : V))) (H' := (fun (r120 : Int) => ([.sl 1 (List.map e_i64 ([0, 1] : List Int)) true, .sl 1 (List.map e_i64 ([1] : List Int)) true, .sl 5 (List.map e_SMarker ([(⟨3, 5, 1, 0, ([0, 1] : List Int)⟩ : SMarker), (⟨4, (-1), 2, 0, ([1] : List Int)⟩ : SMarker)] : List SMarker)) true, .box [.d (.int .i64 10007), .d (.int .i64 1), .d (.int .i64 7), .d (.int .i64 6), .d (.int .i64 0), .nilc, .nilc], .box [.d (.int .i64 10008), .d (.int .i64 1), .d (.int .i64 8), .d (.int .i64 5), .d (.int .i64 0), .nilc, .nilc], .sl 7 (List.map e_SScript ([(⟨10007, 1, 7, 6, 0, [], []⟩ : SScript), (⟨10008, 1, 8, 5, 0, [], []⟩ : SScript)] : List SScript)) true] : List Blk))) [] _ (marker_CheckScripts_goes k ([(⟨10007, 1, 7, 6, 0, [], []⟩ : SScript), (⟨10008, 1, 8, 5, 0, [], []⟩ : SScript)] : List SScript)) (by kernel_rfl) (by kernel_rfl) rfl (by kernel_rfl) Try.func23 rfl (by kernel_rfl) (convList (vs0 := [.ref 5 (List.length ([(⟨10007, 1, 7, 6, 0, [], []⟩ : SScript), (⟨10008, 1, 8, 5, 0, [], []⟩ : SScript)] : List SScript)) 0 (List.length ([(⟨10007, 1, 7, 6, 0, [], []⟩ : SScript), (⟨10008, 1, 8, 5, 0, [], []⟩ : SScript)] : List SScript))]) (vs := [.d (.lit (List.map e_SScript ([(⟨10007, 1, 7, 6, 0, [], []⟩ : SScript), (⟨10008, 1, 8, 5, 0, [], []⟩ : SScript)] : List SScript)))]) (by kernel_rfl) (.cons _ _ _ _ (k_lit (enc := e_SScript) (sz := 7) 5 ([(⟨10007, 1, 7, 6, 0, [], []⟩ : SScript), (⟨10008, 1, 8, 5, 0, [], []⟩ : SScript)] : List SScript) (by kernel_rfl)) .nil)) (by kernel_rfl) (by kernel_rfl) (by kernel_rfl) (by decide) (by kernel_rfl) (by kernel_rfl) (fun _ => (by kernel_rfl)) (fun _ => (by kernel_rfl)) (fun _ => (by kernel_rfl)) (fun r120 => ?_)
      refine oOp (.d (.bool (r120 == 0))) (by kernel_rfl) (by kernel_rfl) (PureV.does (p_int (k := .i64) (p := r120) (q := 0) (by kernel_rfl) (by kernel_rfl) (by kernel_rfl))) ?_
      refine oOp (.d (.bool (r120 == 0))) (by kernel_rfl) (by kernel_rfl) (PureV.does (p_pick (b := true) (by kernel_rfl) (by kernel_rfl))) ?_
      refine oHead [1, 2, 3, 20] [2, 3, 4] (T' := [(1, .ref 0 (List.length ([(⟨3, 5, 1, 0, ([0, 1] : List Int)⟩ : SMarker), (⟨4, (-1), 2, 0, ([1] : List Int)⟩ : SMarker)] : List SMarker)) 0 (List.length ([(⟨3, 5, 1, 0, ([0, 1] : List Int)⟩ : SMarker), (⟨4, (-1), 2, 0, ([1] : List Int)⟩ : SMarker)] : List SMarker))), (2, .ptr 1 0), (3, .ptr 2 0), (20, .d (.bool (r120 == 0)))]) (H' := [.sl 5 (List.map e_SMarker ([(⟨3, 5, 1, 0, ([0, 1] : List Int)⟩ : SMarker), (⟨4, (-1), 2, 0, ([1] : List Int)⟩ : SMarker)] : List SMarker)) true, .box [.d (.int .i64 10007), .d (.int .i64 1), .d (.int .i64 7), .d (.int .i64 6), .d (.int .i64 0), .nilc, .nilc], .box [.d (.int .i64 10008), .d (.int .i64 1), .d (.int .i64 8), .d (.int .i64 5), .d (.int .i64 0), .nilc, .nilc]]) (by kernel_rfl) (by kernel_rfl) (by kernel_rfl) (by kernel_rfl) (by decide) (by kernel_rfl) (by kernel_rfl) ?_
      exact hj5 (r120 == 0)
    · refine oNot (by kernel_rfl) (by kernel_rfl) ?_
      refine oNot (by kernel_rfl) (by kernel_rfl) ?_
      refine oNot (by kernel_rfl) (by kernel_rfl) ?_
      refine oNot (by kernel_rfl) (by kernel_rfl) ?_
      refine oNot (by kernel_rfl) (by kernel_rfl) ?_
      refine oOp (.d (.bool false)) (by kernel_rfl) (by kernel_rfl) (PureV.does (p_pick (b := false) (by kernel_rfl) (by kernel_rfl))) ?_
      refine oHead [1, 2, 3, 20] [2, 3, 4] (T' := [(1, .ref 0 (List.length ([(⟨3, 5, 1, 0, ([0, 1] : List Int)⟩ : SMarker), (⟨4, (-1), 2, 0, ([1] : List Int)⟩ : SMarker)] : List SMarker)) 0 (List.length ([(⟨3, 5, 1, 0, ([0, 1] : List Int)⟩ : SMarker), (⟨4, (-1), 2, 0, ([1] : List Int)⟩ : SMarker)] : List SMarker))), (2, .ptr 1 0), (3, .ptr 2 0), (20, .d (.bool false))]) (H' := [.sl 5 (List.map e_SMarker ([(⟨3, 5, 1, 0, ([0, 1] : List Int)⟩ : SMarker), (⟨4, (-1), 2, 0, ([1] : List Int)⟩ : SMarker)] : List SMarker)) true, .box [.d (.int .i64 10007), .d (.int .i64 1), .d (.int .i64 7), .d (.int .i64 6), .d (.int .i64 0), .nilc, .nilc], .box [.d (.int .i64 10008), .d (.int .i64 1), .d (.int .i64 8), .d (.int .i64 5), .d (.int .i64 0), .nilc, .nilc]]) (by kernel_rfl) (by kernel_rfl) (by kernel_rfl) (by kernel_rfl) (by decide) (by kernel_rfl) (by kernel_rfl) ?_
      exact hj5 false

/-- awardingbody/awardingbodymark.Roll -/
def mark_Roll (k : Nat) (l : (List Int)) : Option (Unit) := some ()
def mark_Roll_E (l : (List Int)) : Unit → V × List Blk := u0 ((.ptr 0 0, [.box [.d (.lit (List.map e_i64 l)), .d (.int .i64 0)]]))
theorem mark_Roll_goes (k : Nat) (l : (List Int)) : RunsO Try.prog 10 [.d (.lit (List.map e_i64 l))] [] (mark_Roll_E l) (mark_Roll k l) := by
  refine RunsO.of_goes (N := 6) (m := 0) (T := [(0, .d (.lit (List.map e_i64 l)))]) Try.func10 rfl rfl (by kernel_rfl) (by kernel_rfl) (by kernel_rfl) ?_
  unfold mark_Roll
  refine bStart ?_
  refine oSeq ?_
  refine oRegion rfl ?_
  refine oOp (.nilptr) (by kernel_rfl) (by kernel_rfl) (PureV.does (p_assign (by kernel_rfl))) ?_
  refine oEnd ?_
  refine oSeq ?_
  refine oRegion rfl ?_
  refine oOp (.d (.lit (List.map e_i64 l))) (by kernel_rfl) (by kernel_rfl) (PureV.does (p_move (by kernel_rfl))) ?_
  refine oOp (.agg [.d (.lit (List.map e_i64 l)), .d (.int .i64 0)]) (by kernel_rfl) (by kernel_rfl) (PureV.does (p_build bld62 (by kernel_rfl))) ?_
  refine oOp (.ptr 0 0) (by kernel_rfl) (by kernel_rfl) (k_box (H' := [.box [.d (.lit (List.map e_i64 l)), .d (.int .i64 0)]]) (cells := [.d (.lit (List.map e_i64 l)), .d (.int .i64 0)]) (by kernel_rfl) (by kernel_rfl) (by kernel_rfl)) ?_
  refine oOp (.ptr 0 0) (by kernel_rfl) (by kernel_rfl) (PureV.does (p_assign (by kernel_rfl))) ?_
  refine oEnd ?_
  exact oRet (r0 := ()) (rv := .ptr 0 0) (B := [.box [.d (.lit (List.map e_i64 l)), .d (.int .i64 0)]]) (vs := [.ptr 0 0]) (σ := [0]) (by kernel_rfl) Try.func10 rfl (.cons _ _ _ _ (.tmp 2 _ (by kernel_rfl)) .nil) (by kernel_rfl) (by kernel_rfl) (by kernel_rfl) (by kernel_rfl) (by decide) (by kernel_rfl) (by kernel_rfl)

/-- (*awardingbody/awardingbodymark.Dice).Next -/
def mark_Dice_Next (k : Nat) (n : Int) (x : (List Int)) (x1 : Int) : Option (Int × Int) := blet ((decide (x1 ≥ ((List.length x) : Int))) || (decide (n < 1))) fun x8 => bif x8 then some (0, x1) else gidx x x1 fun e1 => gnz n (Option.bind (bif (decide ((Int.tmod e1 n) < 0)) then some ((IntKind.wrap .i64 ((Int.tmod e1 n) + n)), (IntKind.wrap .i64 (x1 + 1))) else some ((Int.tmod e1 n), (IntKind.wrap .i64 (x1 + 1))) : Option (Int × Int)) (uc fun x9 => fun x10 => some (x9, x10)))
def mark_Dice_Next_E (n : Int) (x : (List Int)) (x1 : Int) : Int × Int → V × List Blk := uc fun r1 => fun x6 => (.d (.int .i64 r1), [.box [.d (.lit (List.map e_i64 x)), .d (.int .i64 x6)]])
theorem mark_Dice_Next_goes (k : Nat) (n : Int) (x : (List Int)) (x1 : Int) : RunsO Try.prog 26 [.ptr 0 0, .d (.int .i64 n)] [.box [.d (.lit (List.map e_i64 x)), .d (.int .i64 x1)]] (mark_Dice_Next_E n x x1) (mark_Dice_Next k n x x1) := by
  refine RunsO.of_goes (N := 45) (m := 1) (T := [(0, .ptr 0 0), (1, .d (.int .i64 n))]) Try.func26 rfl rfl (by kernel_rfl) (by kernel_rfl) (by kernel_rfl) ?_
  unfold mark_Dice_Next
  refine bStart ?_
  refine oSeq ?_
  refine oRegion rfl ?_
  refine oOp (.d (.int .i64 0)) (by kernel_rfl) (by kernel_rfl) (PureV.does (p_assign (by kernel_rfl))) ?_
  refine oEnd ?_
  refine oSeq ?_
  refine oSeq ?_
  refine oDraw [(0, 14)] rfl ?_
  refine aTakeL (i := 0) (st' := []) (.ptr 0 0) rfl (by kernel_rfl) (by kernel_rfl) (by kernel_rfl) (by kernel_rfl) (by kernel_rfl) (by kernel_rfl) (by kernel_rfl) (PureV.quiet (p_move (by kernel_rfl)) []) ?_
  refine aTakeL (i := 1) (st' := []) (.ptr 0 0) rfl (by kernel_rfl) (by kernel_rfl) (by kernel_rfl) (by kernel_rfl) (by kernel_rfl) (by kernel_rfl) (by kernel_rfl) (PureV.quiet (k_nilCheck 0 0 (by kernel_rfl) (by kernel_rfl)) []) ?_
  refine aTakeL (i := 2) (st' := []) (.ptr 0 1) rfl (by kernel_rfl) (by kernel_rfl) (by kernel_rfl) (by kernel_rfl) (by kernel_rfl) (by kernel_rfl) (by kernel_rfl) (PureV.quiet (k_fieldAddr 0 0 (by kernel_rfl) Try.underlying62 rfl ty3 (by kernel_rfl)) []) ?_
  refine aTakeL (i := 3) (st' := [0]) (.d (.int .i64 x1)) rfl (by kernel_rfl) (by kernel_rfl) (by kernel_rfl) (by kernel_rfl) (by kernel_rfl) (by kernel_rfl) (by kernel_rfl) (k_load 0 1 (by kernel_rfl) Try.underlying3 (by kernel_rfl) (by kernel_rfl)) ?_
  refine aTakeL (i := 4) (st' := []) (.ptr 0 0) rfl (by kernel_rfl) (by kernel_rfl) (by kernel_rfl) (by kernel_rfl) (by kernel_rfl) (by kernel_rfl) (by kernel_rfl) (PureV.quiet (p_move (by kernel_rfl)) []) ?_
  refine aTakeL (i := 5) (st' := []) (.ptr 0 0) rfl (by kernel_rfl) (by kernel_rfl) (by kernel_rfl) (by kernel_rfl) (by kernel_rfl) (by kernel_rfl) (by kernel_rfl) (PureV.quiet (k_nilCheck 0 0 (by kernel_rfl) (by kernel_rfl)) []) ?_
  refine aTakeL (i := 6) (st' := []) (.ptr 0 0) rfl (by kernel_rfl) (by kernel_rfl) (by kernel_rfl) (by kernel_rfl) (by kernel_rfl) (by kernel_rfl) (by kernel_rfl) (PureV.quiet (k_fieldAddr 0 0 (by kernel_rfl) Try.underlying62 rfl ty22 (by kernel_rfl)) []) ?_
  refine aTakeL (i := 7) (st' := [0]) (.d (.lit (List.map e_i64 x))) rfl (by kernel_rfl) (by kernel_rfl) (by kernel_rfl) (by kernel_rfl) (by kernel_rfl) (by kernel_rfl) (by kernel_rfl) (k_load 0 0 (by kernel_rfl) Try.underlying22 (by kernel_rfl) (by kernel_rfl)) ?_
  refine aTakeL (i := 8) (st' := []) (.d (.int .i64 ((List.length x) : Int))) rfl (by kernel_rfl) (by kernel_rfl) (by kernel_rfl) (by kernel_rfl) (by kernel_rfl) (by kernel_rfl) (by kernel_rfl) (PureV.quiet (k_lenLit (enc := e_i64) x (by kernel_rfl) Try.underlying22) []) ?_
  refine aTakeL (i := 9) (st' := []) (.d (.bool (decide (x1 ≥ ((List.length x) : Int))))) rfl (by kernel_rfl) (by kernel_rfl) (by kernel_rfl) (by kernel_rfl) (by kernel_rfl) (by kernel_rfl) (by kernel_rfl) (PureV.quiet (p_int (k := .i64) (p := x1) (q := ((List.length x) : Int)) (by kernel_rfl) (by kernel_rfl) (by kernel_rfl)) []) ?_
  refine aTakeL (i := 10) (st' := []) (.d (.bool (decide (x1 ≥ ((List.length x) : Int))))) rfl (by kernel_rfl) (by kernel_rfl) (by kernel_rfl) (by kernel_rfl) (by kernel_rfl) (by kernel_rfl) (by kernel_rfl) (PureV.quiet (p_move (by kernel_rfl)) []) ?_
  refine dMeetF [13, 12, 11, 10, 9, 8, 7, 6, 5, 4, 3, 2, 1, 0] (fun (x8 : Bool) => [(0, .ptr 0 0), (1, .d (.int .i64 n)), (19, .d (.bool x8))]) (fun (x8 : Bool) => [(0, .ptr 0 0), (1, .d (.int .i64 n)), (19, .d (.bool x8))]) (H' := [.box [.d (.lit (List.map e_i64 x)), .d (.int .i64 x1)]]) (fun x8 => ?_) (fun F hj3 => ?_)
  · refine aDone (by kernel_rfl) ?_
    refine bSplit 19 (by kernel_rfl) (fun hc => ?_) (fun hc => ?_)
    · refine oCondT (by kernel_rfl) ?_
      refine oSeq ?_
      refine oRegion rfl ?_
      refine oOp (.d (.int .i64 0)) (by kernel_rfl) (by kernel_rfl) (PureV.does (p_assign (by kernel_rfl))) ?_
      refine oEnd ?_
      exact oRet (r0 := (0, x1)) (rv := .d (.int .i64 0)) (B := [.box [.d (.lit (List.map e_i64 x)), .d (.int .i64 x1)]]) (vs := [.d (.int .i64 0)]) (σ := [0]) (by kernel_rfl) Try.func26 rfl (.cons _ _ _ _ (.tmp 4 _ (by kernel_rfl)) .nil) (by kernel_rfl) (by kernel_rfl) (by kernel_rfl) (by kernel_rfl) (by decide) (by kernel_rfl) (by kernel_rfl)
    · refine oCondF (by kernel_rfl) ?_
      refine oSkip ?_
      refine oSeq ?_
      refine oDraw [(0, 13)] rfl ?_
      refine aTakeL (i := 0) (st' := []) (.ptr 0 0) rfl (by kernel_rfl) (by kernel_rfl) (by kernel_rfl) (by kernel_rfl) (by kernel_rfl) (by kernel_rfl) (by kernel_rfl) (PureV.quiet (p_move (by kernel_rfl)) []) ?_
      refine aTakeL (i := 1) (st' := []) (.ptr 0 0) rfl (by kernel_rfl) (by kernel_rfl) (by kernel_rfl) (by kernel_rfl) (by kernel_rfl) (by kernel_rfl) (by kernel_rfl) (PureV.quiet (k_nilCheck 0 0 (by kernel_rfl) (by kernel_rfl)) []) ?_
      refine aTakeL (i := 2) (st' := []) (.ptr 0 0) rfl (by kernel_rfl) (by kernel_rfl) (by kernel_rfl) (by kernel_rfl) (by kernel_rfl) (by kernel_rfl) (by kernel_rfl) (PureV.quiet (k_fieldAddr 0 0 (by kernel_rfl) Try.underlying62 rfl ty22 (by kernel_rfl)) []) ?_
      refine aTakeL (i := 3) (st' := [0]) (.d (.lit (List.map e_i64 x))) rfl (by kernel_rfl) (by kernel_rfl) (by kernel_rfl) (by kernel_rfl) (by kernel_rfl) (by kernel_rfl) (by kernel_rfl) (k_load 0 0 (by kernel_rfl) Try.underlying22 (by kernel_rfl) (by kernel_rfl)) ?_
      refine aTakeL (i := 4) (st' := []) (.ptr 0 0) rfl (by kernel_rfl) (by kernel_rfl) (by kernel_rfl) (by kernel_rfl) (by kernel_rfl) (by kernel_rfl) (by kernel_rfl) (PureV.quiet (p_move (by kernel_rfl)) []) ?_
      refine aTakeL (i := 5) (st' := []) (.ptr 0 0) rfl (by kernel_rfl) (by kernel_rfl) (by kernel_rfl) (by kernel_rfl) (by kernel_rfl) (by kernel_rfl) (by kernel_rfl) (PureV.quiet (k_nilCheck 0 0 (by kernel_rfl) (by kernel_rfl)) []) ?_
      refine aTakeL (i := 6) (st' := []) (.ptr 0 1) rfl (by kernel_rfl) (by kernel_rfl) (by kernel_rfl) (by kernel_rfl) (by kernel_rfl) (by kernel_rfl) (by kernel_rfl) (PureV.quiet (k_fieldAddr 0 0 (by kernel_rfl) Try.underlying62 rfl ty3 (by kernel_rfl)) []) ?_
      refine aTakeL (i := 7) (st' := [0]) (.d (.int .i64 x1)) rfl (by kernel_rfl) (by kernel_rfl) (by kernel_rfl) (by kernel_rfl) (by kernel_rfl) (by kernel_rfl) (by kernel_rfl) (k_load 0 1 (by kernel_rfl) Try.underlying3 (by kernel_rfl) (by kernel_rfl)) ?_
      refine dIdx (fun e1 h1 h11 => ?_)
      refine aTakeL (i := 8) (st' := []) (.lptr (e_i64 e1) 0) rfl (by kernel_rfl) (by kernel_rfl) (by kernel_rfl) (by kernel_rfl) (by kernel_rfl) (by kernel_rfl) (by kernel_rfl) (PureV.quiet (k_idxLit e_i64_len x (a := e1) (by kernel_rfl) (k := .i64) (i := x1) (by kernel_rfl) Try.underlying22 ty3 h1 h11) []) ?_
      refine aTakeL (i := 9) (st' := []) (.d (.int .i64 e1)) rfl (by kernel_rfl) (by kernel_rfl) (by kernel_rfl) (by kernel_rfl) (by kernel_rfl) (by kernel_rfl) (by kernel_rfl) (k_loadL (cells := e_i64 e1) 0 (by kernel_rfl) Try.underlying3 (by kernel_rfl) (by kernel_rfl)) ?_
      refine aTakeL (i := 10) (st' := []) (.d (.int .i64 n)) rfl (by kernel_rfl) (by kernel_rfl) (by kernel_rfl) (by kernel_rfl) (by kernel_rfl) (by kernel_rfl) (by kernel_rfl) (PureV.quiet (p_move (by kernel_rfl)) []) ?_
      refine dNz (fun h12 => ?_)
      refine aTakeP (i := 11) (.d (.int .i64 (Int.tmod e1 n))) rfl (by kernel_rfl) (by kernel_rfl) (by kernel_rfl) (by kernel_rfl) (by kernel_rfl) (by kernel_rfl) (by kernel_rfl) (p_rem (k := .i64) (p := e1) (q := n) (by kernel_rfl) (by kernel_rfl) h12 (by kernel_rfl)) ?_
      refine aTakeL (i := 12) (st' := []) (.d (.int .i64 (Int.tmod e1 n))) rfl (by kernel_rfl) (by kernel_rfl) (by kernel_rfl) (by kernel_rfl) (by kernel_rfl) (by kernel_rfl) (by kernel_rfl) (PureV.quiet (p_assign (by kernel_rfl)) []) ?_
      refine aDone (by kernel_rfl) ?_
      refine oSeq ?_
      refine oRegion rfl ?_
      refine oOp (.ptr 0 0) (by kernel_rfl) (by kernel_rfl) (PureV.does (p_move (by kernel_rfl))) ?_
      refine oOp (.ptr 0 0) (by kernel_rfl) (by kernel_rfl) (PureV.does (k_nilCheck 0 0 (by kernel_rfl) (by kernel_rfl))) ?_
      refine oOp (.ptr 0 1) (by kernel_rfl) (by kernel_rfl) (PureV.does (k_fieldAddr 0 0 (by kernel_rfl) Try.underlying62 rfl ty3 (by kernel_rfl))) ?_
      refine oOp (.d (.int .i64 x1)) (by kernel_rfl) (by kernel_rfl) (Quiet.does (k_load 0 1 (by kernel_rfl) Try.underlying3 (by kernel_rfl) (by kernel_rfl))) ?_
      refine oOp (.d (.int .i64 (IntKind.wrap .i64 (x1 + 1)))) (by kernel_rfl) (by kernel_rfl) (PureV.does (p_int (k := .i64) (p := x1) (q := 1) (by kernel_rfl) (by kernel_rfl) (by kernel_rfl))) ?_
      refine oOp (.ptr 0 0) (by kernel_rfl) (by kernel_rfl) (PureV.does (k_nilCheck 0 0 (by kernel_rfl) (by kernel_rfl))) ?_
      refine oOp (.ptr 0 1) (by kernel_rfl) (by kernel_rfl) (PureV.does (k_fieldAddr 0 0 (by kernel_rfl) Try.underlying62 rfl ty3 (by kernel_rfl))) ?_
      refine oOp (.undef) (by kernel_rfl) (by kernel_rfl) (k_store (vs := [.d (.int .i64 (IntKind.wrap .i64 (x1 + 1)))]) (H' := [.box [.d (.lit (List.map e_i64 x)), .d (.int .i64 (IntKind.wrap .i64 (x1 + 1)))]]) 0 1 (by kernel_rfl) ty3 (by kernel_rfl) (by kernel_rfl) (by kernel_rfl)) ?_
      refine oEnd ?_
      refine oSeq ?_
      refine oSeq ?_
      refine oRegion rfl ?_
      refine oOp (.d (.int .i64 (Int.tmod e1 n))) (by kernel_rfl) (by kernel_rfl) (PureV.does (p_move (by kernel_rfl))) ?_
      refine oOp (.d (.bool (decide ((Int.tmod e1 n) < 0)))) (by kernel_rfl) (by kernel_rfl) (PureV.does (p_int (k := .i64) (p := (Int.tmod e1 n)) (q := 0) (by kernel_rfl) (by kernel_rfl) (by kernel_rfl))) ?_
      refine oEnd ?_
      refine bJoin ((uc fun (x9 : Int) => (fun (x10 : Int) => [(5, .d (.int .i64 x9))]))) ((uc fun (x9 : Int) => (fun (x10 : Int) => [.box [.d (.lit (List.map e_i64 x)), .d (.int .i64 x10)]]))) (fun s => s) (fun s => ?_) (fun hj4 => ?_)
      · obtain ⟨x9, x10⟩ := s
        refine bUc ?_
        refine oView (T' := [(5, .d (.int .i64 x9))]) (H' := [.box [.d (.lit (List.map e_i64 x)), .d (.int .i64 x10)]]) (by kernel_rfl) (by kernel_rfl) ?_
        refine oSeq ?_
        refine oRegion rfl ?_
        refine oOp (.d (.int .i64 x9)) (by kernel_rfl) (by kernel_rfl) (PureV.does (p_move (by kernel_rfl))) ?_
        refine oOp (.d (.int .i64 x9)) (by kernel_rfl) (by kernel_rfl) (PureV.does (p_assign (by kernel_rfl))) ?_
        refine oEnd ?_
        exact oRet (r0 := (x9, x10)) (rv := .d (.int .i64 x9)) (B := [.box [.d (.lit (List.map e_i64 x)), .d (.int .i64 x10)]]) (vs := [.d (.int .i64 x9)]) (σ := [0]) (by kernel_rfl) Try.func26 rfl (.cons _ _ _ _ (.tmp 4 _ (by kernel_rfl)) .nil) (by kernel_rfl) (by kernel_rfl) (by kernel_rfl) (by kernel_rfl) (by decide) (by kernel_rfl) (by kernel_rfl)
      · refine bSplit 40 (by kernel_rfl) (fun hc => ?_) (fun hc => ?_)
        · refine oCondT (by kernel_rfl) ?_
          refine oRegion rfl ?_
          refine oOp (.d (.int .i64 (Int.tmod e1 n))) (by kernel_rfl) (by kernel_rfl) (PureV.does (p_move (by kernel_rfl))) ?_
          refine oOp (.d (.int .i64 n)) (by kernel_rfl) (by kernel_rfl) (PureV.does (p_move (by kernel_rfl))) ?_
          refine oOp (.d (.int .i64 (IntKind.wrap .i64 ((Int.tmod e1 n) + n)))) (by kernel_rfl) (by kernel_rfl) (PureV.does (p_int (k := .i64) (p := (Int.tmod e1 n)) (q := n) (by kernel_rfl) (by kernel_rfl) (by kernel_rfl))) ?_
          refine oOp (.d (.int .i64 (IntKind.wrap .i64 ((Int.tmod e1 n) + n)))) (by kernel_rfl) (by kernel_rfl) (PureV.does (p_assign (by kernel_rfl))) ?_
          refine oEnd ?_
          refine oHead [5] [0] (T' := [(5, .d (.int .i64 (IntKind.wrap .i64 ((Int.tmod e1 n) + n))))]) (H' := [.box [.d (.lit (List.map e_i64 x)), .d (.int .i64 (IntKind.wrap .i64 (x1 + 1)))]]) (by kernel_rfl) (by kernel_rfl) (by kernel_rfl) (by kernel_rfl) (by decide) (by kernel_rfl) (by kernel_rfl) ?_
          exact hj4 ((IntKind.wrap .i64 ((Int.tmod e1 n) + n)), (IntKind.wrap .i64 (x1 + 1)))
        · refine oCondF (by kernel_rfl) ?_
          refine oSkip ?_
          refine oHead [5] [0] (T' := [(5, .d (.int .i64 (Int.tmod e1 n)))]) (H' := [.box [.d (.lit (List.map e_i64 x)), .d (.int .i64 (IntKind.wrap .i64 (x1 + 1)))]]) (by kernel_rfl) (by kernel_rfl) (by kernel_rfl) (by kernel_rfl) (by decide) (by kernel_rfl) (by kernel_rfl) ?_
          exact hj4 ((Int.tmod e1 n), (IntKind.wrap .i64 (x1 + 1)))
  · refine dPickF 16 (fun c => F (c || (decide (n < 1)))) (by kernel_rfl) (by kernel_rfl) (fun hc => ?_) (fun hc => ?_)
    · refine aTakeNot (i := 11) rfl (by kernel_rfl) (by kernel_rfl) (by kernel_rfl) (by kernel_rfl) (by kernel_rfl) (by kernel_rfl) (by kernel_rfl) ?_
      refine aTakeNot (i := 12) rfl (by kernel_rfl) (by kernel_rfl) (by kernel_rfl) (by kernel_rfl) (by kernel_rfl) (by kernel_rfl) (by kernel_rfl) ?_
      refine aTakeL (i := 13) (st' := []) (.d (.bool true)) rfl (by kernel_rfl) (by kernel_rfl) (by kernel_rfl) (by kernel_rfl) (by kernel_rfl) (by kernel_rfl) (by kernel_rfl) (PureV.quiet (p_pick (b := true) (by kernel_rfl) (by kernel_rfl)) []) ?_
      refine dDrop [0, 1, 19] [0, 1, 19] (T' := [(0, .ptr 0 0), (1, .d (.int .i64 n)), (19, .d (.bool true))]) (U' := [(0, .ptr 0 0), (1, .d (.int .i64 n)), (19, .d (.bool true))]) (by kernel_rfl) (by kernel_rfl) ?_
      exact hj3 true
    · refine aTakeL (i := 11) (st' := []) (.d (.int .i64 n)) rfl (by kernel_rfl) (by kernel_rfl) (by kernel_rfl) (by kernel_rfl) (by kernel_rfl) (by kernel_rfl) (by kernel_rfl) (PureV.quiet (p_move (by kernel_rfl)) []) ?_
      refine aTakeL (i := 12) (st' := []) (.d (.bool (decide (n < 1)))) rfl (by kernel_rfl) (by kernel_rfl) (by kernel_rfl) (by kernel_rfl) (by kernel_rfl) (by kernel_rfl) (by kernel_rfl) (PureV.quiet (p_int (k := .i64) (p := n) (q := 1) (by kernel_rfl) (by kernel_rfl) (by kernel_rfl)) []) ?_
      refine aTakeL (i := 13) (st' := []) (.d (.bool (decide (n < 1)))) rfl (by kernel_rfl) (by kernel_rfl) (by kernel_rfl) (by kernel_rfl) (by kernel_rfl) (by kernel_rfl) (by kernel_rfl) (PureV.quiet (p_pick (b := false) (by kernel_rfl) (by kernel_rfl)) []) ?_
      refine dDrop [0, 1, 19] [0, 1, 19] (T' := [(0, .ptr 0 0), (1, .d (.int .i64 n)), (19, .d (.bool (decide (n < 1))))]) (U' := [(0, .ptr 0 0), (1, .d (.int .i64 n)), (19, .d (.bool (decide (n < 1))))]) (by kernel_rfl) (by kernel_rfl) ?_
      exact hj3 (decide (n < 1))

/-- (*awardingbody/awardingbodymark.Dice).Pick -/
def mark_Dice_Pick (k : Nat) (l : (List Int)) (x : (List Int)) (x1 : Int) : Option (Int × Int) := Option.bind (mark_Dice_Next k ((List.length l) : Int) x x1) (uc fun r12 => fun x61 => gidx l r12 fun e11 => some (e11, x61))
def mark_Dice_Pick_E (l : (List Int)) (x : (List Int)) (x1 : Int) : Int × Int → V × List Blk := uc fun r11 => fun x2 => (.d (.int .i64 r11), [.box [.d (.lit (List.map e_i64 x)), .d (.int .i64 x2)]])
theorem mark_Dice_Pick_goes (k : Nat) (l : (List Int)) (x : (List Int)) (x1 : Int) : RunsO Try.prog 27 [.ptr 0 0, .d (.lit (List.map e_i64 l))] [.box [.d (.lit (List.map e_i64 x)), .d (.int .i64 x1)]] (mark_Dice_Pick_E l x x1) (mark_Dice_Pick k l x x1) := by
  refine RunsO.of_goes (N := 12) (m := 1) (T := [(0, .ptr 0 0), (1, .d (.lit (List.map e_i64 l)))]) Try.func27 rfl rfl (by kernel_rfl) (by kernel_rfl) (by kernel_rfl) ?_
  unfold mark_Dice_Pick
  refine bStart ?_
  refine oSeq ?_
  refine oRegion rfl ?_
  refine oOp (.d (.int .i64 0)) (by kernel_rfl) (by kernel_rfl) (PureV.does (p_assign (by kernel_rfl))) ?_
  refine oEnd ?_
  refine oSeq ?_
  refine oRegion rfl ?_
  refine oOp (.d (.lit (List.map e_i64 l))) (by kernel_rfl) (by kernel_rfl) (PureV.does (p_move (by kernel_rfl))) ?_
  refine oOp (.ptr 0 0) (by kernel_rfl) (by kernel_rfl) (PureV.does (p_move (by kernel_rfl))) ?_
  refine oOp (.d (.lit (List.map e_i64 l))) (by kernel_rfl) (by kernel_rfl) (PureV.does (p_move (by kernel_rfl))) ?_
  refine oOp (.d (.int .i64 ((List.length l) : Int))) (by kernel_rfl) (by kernel_rfl) (PureV.does (k_lenLit (enc := e_i64) l (by kernel_rfl) Try.underlying22)) ?_
  refine bCall (caps := []) (v := (uc fun (r12 : Int) => (fun (x61 : Int) => (.d (.int .i64 r12) : V)))) (H' := (uc fun (r12 : Int) => (fun (x61 : Int) => ([.box [.d (.lit (List.map e_i64 x)), .d (.int .i64 x61)]] : List Blk)))) [0] _ (mark_Dice_Next_goes k ((List.length l) : Int) x x1) (by kernel_rfl) (by kernel_rfl) rfl (by kernel_rfl) Try.func26 rfl (by kernel_rfl) (ConvRs.refl _ _) (by kernel_rfl) (by kernel_rfl) (by kernel_rfl) (by decide) (by kernel_rfl) (by kernel_rfl) (fun _ => (by kernel_rfl)) (fun _ => (by kernel_rfl)) (fun _ => (by kernel_rfl)) (fun r => ?_)
  obtain ⟨r12, x61⟩ := r
  refine bUc ?_
  refine bIdx (fun e11 h12 h13 => ?_)
  refine oOp (.lptr (e_i64 e11) 0) (by kernel_rfl) (by kernel_rfl) (PureV.does (k_idxLit e_i64_len l (a := e11) (by kernel_rfl) (k := .i64) (i := r12) (by kernel_rfl) Try.underlying22 ty3 h12 h13)) ?_
  refine oOp (.d (.int .i64 e11)) (by kernel_rfl) (by kernel_rfl) (Quiet.does (k_loadL (cells := e_i64 e11) 0 (by kernel_rfl) Try.underlying3 (by kernel_rfl) (by kernel_rfl))) ?_
  refine oOp (.d (.int .i64 e11)) (by kernel_rfl) (by kernel_rfl) (PureV.does (p_assign (by kernel_rfl))) ?_
  refine oEnd ?_
  exact oRet (r0 := (e11, x61)) (rv := .d (.int .i64 e11)) (B := [.box [.d (.lit (List.map e_i64 x)), .d (.int .i64 x61)]]) (vs := [.d (.int .i64 e11)]) (σ := [0]) (by kernel_rfl) Try.func27 rfl (.cons _ _ _ _ (.tmp 4 _ (by kernel_rfl)) .nil) (by kernel_rfl) (by kernel_rfl) (by kernel_rfl) (by kernel_rfl) (by decide) (by kernel_rfl) (by kernel_rfl)

end Go.VM
