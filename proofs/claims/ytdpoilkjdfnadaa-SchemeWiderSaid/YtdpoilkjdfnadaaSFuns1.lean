/- Plain functions that answer as the program's functions do, and the proof that they do. -/
import Derived.Test.YtdpoilkjdfnadaaProg
import Derived.KernelRfl
import Derived.Test.YtdpoilkjdfnadaaEngS
import Derived.Test.YtdpoilkjdfnadaaSFacts
import Derived.Test.YtdpoilkjdfnadaaSFuns0
namespace Go.VM
open Go.Proofs
set_option linter.unusedVariables false
set_option linter.unusedSimpArgs false
set_option maxRecDepth 100000
/-- (*awardingbody/awardingbodymake.Tape).Marks -/
def make_Tape_Marks_b1 (k : Nat) (p2 : (List SPart)) (x : (List Int)) (again : Int × Int × (List Int) → Option (Int × (List Int))) : Int × Int × (List Int) → Option (Int × (List Int)) := uc fun i4 => uc fun x20 => fun xs6 => bif (decide (i4 < ((List.length p2) : Int))) then gidx p2 i4 fun e126 => Option.bind (make_Tape_Range k (-1) (gmax e126.Max 0) x x20) (uc fun r114 => fun x213 => blet ((e126.Kind == 2) && (decide (r114 > 0))) fun x34 => Option.bind (bif x34 then gidx p2 i4 fun e128 => some e128.Max else some r114 : Option (Int)) (fun m13 => gcap (List.length (xs6 ++ ([m13] : List Int))) 8 (again ((IntKind.wrap .i64 (i4 + 1)), x213, (xs6 ++ ([m13] : List Int)))))) else some (x20, xs6)
def make_Tape_Marks (k : Nat) (p2 : (List SPart)) (x : (List Int)) (x1 : Int) : Option ((List Int) × Int) := Option.bind (gloop (make_Tape_Marks_b1 k p2 x) k (0, x1, ([] : List Int)) : Option (Int × (List Int))) (uc fun x17 => fun xs5 => some (xs5, x17))
def make_Tape_Marks_E (p2 : (List SPart)) (x : (List Int)) (x1 : Int) : (List Int) × Int → V × List Blk := uc fun r14 => fun x10 => (.d (.lit (List.map e_i64 r14)), [.box [.d (.lit (List.map e_i64 x)), .d (.int .i64 x10)]])
theorem make_Tape_Marks_goes (k : Nat) (p2 : (List SPart)) (x : (List Int)) (x1 : Int) : RunsO Try.prog 20 [.ptr 0 0, .agg [.d (.int .i64 0), .d (.int .i64 0), .d (.lit (List.map e_SPart p2))], .d (.int .i64 0)] [.box [.d (.lit (List.map e_i64 x)), .d (.int .i64 x1)]] (make_Tape_Marks_E p2 x x1) (make_Tape_Marks k p2 x x1) := by
  refine RunsO.of_goes (N := 75) (m := 1) (T := [(0, .ptr 0 0), (1, .agg [.d (.int .i64 0), .d (.int .i64 0), .d (.lit (List.map e_SPart p2))]), (2, .d (.int .i64 0))]) Try.func20 rfl rfl (by kernel_rfl) (by kernel_rfl) (by kernel_rfl) ?_
  unfold make_Tape_Marks
  refine bStart ?_
  refine oSeq ?_
  refine oRegion rfl ?_
  refine oOp (.ptr 1 0) (by kernel_rfl) (by kernel_rfl) (k_box (H' := [.box [.d (.lit (List.map e_i64 x)), .d (.int .i64 x1)], .box [.d (.int .i64 0), .d (.int .i64 0), .d (.lit (List.map e_SPart p2))]]) (cells := [.d (.int .i64 0), .d (.int .i64 0), .d (.lit (List.map e_SPart p2))]) (by kernel_rfl) (by kernel_rfl) (by kernel_rfl)) ?_
  refine oOp (.nilc) (by kernel_rfl) (by kernel_rfl) (PureV.does (p_assign (by kernel_rfl))) ?_
  refine oEnd ?_
  refine oSeq ?_
  refine oRegion rfl ?_
  refine oOp (.nilc) (by kernel_rfl) (by kernel_rfl) (PureV.does (p_assign (by kernel_rfl))) ?_
  refine oEnd ?_
  refine oSeq ?_
  refine oSeq ?_
  refine oRegion rfl ?_
  refine oOp (.d (.int .i64 0)) (by kernel_rfl) (by kernel_rfl) (PureV.does (p_assign (by kernel_rfl))) ?_
  refine oEnd ?_
  refine bJoin ((uc fun (x17 : Int) => (fun (xs5 : (List Int)) => [(0, .ptr 0 0), (2, .d (.int .i64 0)), (7, .ref 1 (List.length xs5) 0 (List.length xs5))]))) ((uc fun (x17 : Int) => (fun (xs5 : (List Int)) => [.box [.d (.lit (List.map e_i64 x)), .d (.int .i64 x17)], .sl 1 (List.map e_i64 xs5) false]))) (fun s => s) (fun s => ?_) (fun hj10 => ?_)
  · obtain ⟨x17, xs5⟩ := s
    refine bUc ?_
    refine oView (T' := [(0, .ptr 0 0), (2, .d (.int .i64 0)), (7, .ref 1 (List.length xs5) 0 (List.length xs5))]) (H' := [.box [.d (.lit (List.map e_i64 x)), .d (.int .i64 x17)], .sl 1 (List.map e_i64 xs5) false]) (by kernel_rfl) (by kernel_rfl) ?_
    refine oSeq ?_
    refine oSeq ?_
    refine oRegion rfl ?_
    refine oOp (.d (.int .i64 0)) (by kernel_rfl) (by kernel_rfl) (PureV.does (p_move (by kernel_rfl))) ?_
    refine oOp (.d (.bool false)) (by kernel_rfl) (by kernel_rfl) (PureV.does (p_int (k := .i64) (p := 0) (q := 0) (by kernel_rfl) (by kernel_rfl) (by kernel_rfl))) ?_
    refine oOp (.d (.bool false)) (by kernel_rfl) (by kernel_rfl) (PureV.does (p_move (by kernel_rfl))) ?_
    refine oNot (by kernel_rfl) (by kernel_rfl) ?_
    refine oNot (by kernel_rfl) (by kernel_rfl) ?_
    refine oNot (by kernel_rfl) (by kernel_rfl) ?_
    refine oOp (.d (.bool false)) (by kernel_rfl) (by kernel_rfl) (PureV.does (p_pick (b := false) (by kernel_rfl) (by kernel_rfl))) ?_
    refine oEnd ?_
    refine oCondF (by kernel_rfl) ?_
    refine oSkip ?_
    refine oSeq ?_
    refine oRegion rfl ?_
    refine oOp (.ref 1 (List.length xs5) 0 (List.length xs5)) (by kernel_rfl) (by kernel_rfl) (PureV.does (p_move (by kernel_rfl))) ?_
    refine oOp (.ref 1 (List.length xs5) 0 (List.length xs5)) (by kernel_rfl) (by kernel_rfl) (PureV.does (p_assign (by kernel_rfl))) ?_
    refine oEnd ?_
    refine oFreeze 1 (esz := 1) (xs := List.map e_i64 xs5) (by kernel_rfl) ?_
    refine oView (H' := [.box [.d (.lit (List.map e_i64 x)), .d (.int .i64 x17)], .sl 1 (List.map e_i64 xs5) true]) rfl (by kernel_rfl) ?_
    refine oConv 6 (v := .ref 1 (List.length xs5) 0 (List.length xs5)) (v' := .d (.lit (List.map e_i64 xs5))) (by kernel_rfl) (k_lit (enc := e_i64) (sz := 1) 1 xs5 (by kernel_rfl)) ?_
    exact oRet (r0 := (xs5, x17)) (rv := .d (.lit (List.map e_i64 xs5))) (B := [.box [.d (.lit (List.map e_i64 x)), .d (.int .i64 x17)]]) (vs := [.d (.lit (List.map e_i64 xs5))]) (σ := [0]) (by kernel_rfl) Try.func20 rfl (.cons _ _ _ _ (.tmp 6 _ (by kernel_rfl)) .nil) (by kernel_rfl) (by kernel_rfl) (by kernel_rfl) (by kernel_rfl) (by decide) (by kernel_rfl) (by kernel_rfl)
  · refine oBlock ?_
    refine oLoop ?_
    refine oVirt (esz := 1) 7 (by kernel_rfl) ?_
    refine oView (H' := [.box [.d (.lit (List.map e_i64 x)), .d (.int .i64 x1)], .box [.d (.int .i64 0), .d (.int .i64 0), .d (.lit (List.map e_SPart p2))], .sl 1 (List.map e_i64 ([] : List Int)) false]) rfl (by kernel_rfl) ?_
    refine oHead [0, 2, 4, 7, 8] [0, 1, 2] (T' := [(0, .ptr 0 0), (2, .d (.int .i64 0)), (4, .ptr 1 0), (7, .ref 2 (List.length ([] : List Int)) 0 (List.length ([] : List Int))), (8, .d (.int .i64 0))]) (H' := [.box [.d (.lit (List.map e_i64 x)), .d (.int .i64 x1)], .box [.d (.int .i64 0), .d (.int .i64 0), .d (.lit (List.map e_SPart p2))], .sl 1 (List.map e_i64 ([] : List Int)) false]) (by kernel_rfl) (by kernel_rfl) (by kernel_rfl) (by kernel_rfl) (by decide) (by kernel_rfl) (by kernel_rfl) ?_
    refine bLoop (body := make_Tape_Marks_b1 k p2 x) ((uc fun (i4 : Int) => (uc fun (x20 : Int) => (fun (xs6 : (List Int)) => [(0, .ptr 0 0), (2, .d (.int .i64 0)), (4, .ptr 1 0), (7, .ref 2 (List.length xs6) 0 (List.length xs6)), (8, .d (.int .i64 i4))])))) ((uc fun (i4 : Int) => (uc fun (x20 : Int) => (fun (xs6 : (List Int)) => [.box [.d (.lit (List.map e_i64 x)), .d (.int .i64 x20)], .box [.d (.int .i64 0), .d (.int .i64 0), .d (.lit (List.map e_SPart p2))], .sl 1 (List.map e_i64 xs6) false])))) (fun again hag1 s => ?_) k (0, x1, ([] : List Int))
    · unfold make_Tape_Marks_b1
      obtain ⟨i4, x20, xs6⟩ := s
      refine bUc ?_
      refine bUc ?_
      refine oView (T' := [(0, .ptr 0 0), (2, .d (.int .i64 0)), (4, .ptr 1 0), (7, .ref 2 (List.length xs6) 0 (List.length xs6)), (8, .d (.int .i64 i4))]) (H' := [.box [.d (.lit (List.map e_i64 x)), .d (.int .i64 x20)], .box [.d (.int .i64 0), .d (.int .i64 0), .d (.lit (List.map e_SPart p2))], .sl 1 (List.map e_i64 xs6) false]) (by kernel_rfl) (by kernel_rfl) ?_
      refine oSeq ?_
      refine oSeq ?_
      refine oRegion rfl ?_
      refine oOp (.d (.int .i64 i4)) (by kernel_rfl) (by kernel_rfl) (PureV.does (p_move (by kernel_rfl))) ?_
      refine oOp (.ptr 1 2) (by kernel_rfl) (by kernel_rfl) (PureV.does (k_fieldAddr 1 0 (by kernel_rfl) Try.underlying27 rfl ty25 (by kernel_rfl))) ?_
      refine oOp (.d (.lit (List.map e_SPart p2))) (by kernel_rfl) (by kernel_rfl) (Quiet.does (k_load 1 2 (by kernel_rfl) Try.underlying25 (by kernel_rfl) (by kernel_rfl))) ?_
      refine oOp (.d (.int .i64 ((List.length p2) : Int))) (by kernel_rfl) (by kernel_rfl) (PureV.does (k_lenLit (enc := e_SPart) p2 (by kernel_rfl) Try.underlying25)) ?_
      refine oOp (.d (.bool (decide (i4 < ((List.length p2) : Int))))) (by kernel_rfl) (by kernel_rfl) (PureV.does (p_int (k := .i64) (p := i4) (q := ((List.length p2) : Int)) (by kernel_rfl) (by kernel_rfl) (by kernel_rfl))) ?_
      refine oEnd ?_
      refine bSplit 14 (by kernel_rfl) (fun hc => ?_) (fun hc => ?_)
      · refine oCondT (by kernel_rfl) ?_
        refine oSkip ?_
        refine oSeq ?_
        refine oBlock ?_
        refine oSeq ?_
        refine oRegion rfl ?_
        refine oOp (.ptr 0 0) (by kernel_rfl) (by kernel_rfl) (PureV.does (p_move (by kernel_rfl))) ?_
        refine oOp (.ptr 1 2) (by kernel_rfl) (by kernel_rfl) (PureV.does (k_fieldAddr 1 0 (by kernel_rfl) Try.underlying27 rfl ty25 (by kernel_rfl))) ?_
        refine oOp (.d (.lit (List.map e_SPart p2))) (by kernel_rfl) (by kernel_rfl) (Quiet.does (k_load 1 2 (by kernel_rfl) Try.underlying25 (by kernel_rfl) (by kernel_rfl))) ?_
        refine oOp (.d (.int .i64 i4)) (by kernel_rfl) (by kernel_rfl) (PureV.does (p_move (by kernel_rfl))) ?_
        refine bIdx (fun e126 h165 h166 => ?_)
        refine oOp (.lptr (e_SPart e126) 0) (by kernel_rfl) (by kernel_rfl) (PureV.does (k_idxLit e_SPart_len p2 (a := e126) (by kernel_rfl) (k := .i64) (i := i4) (by kernel_rfl) Try.underlying25 ty49 h165 h166)) ?_
        refine oOp (.lptr (e_SPart e126) 1) (by kernel_rfl) (by kernel_rfl) (PureV.does (k_fieldAddrL (cells := e_SPart e126) 0 (by kernel_rfl) Try.underlying49 rfl ty3 (by kernel_rfl))) ?_
        refine oOp (.d (.int .i64 e126.Max)) (by kernel_rfl) (by kernel_rfl) (Quiet.does (k_loadL (cells := e_SPart e126) 1 (by kernel_rfl) Try.underlying3 (by kernel_rfl) (by kernel_rfl))) ?_
        refine oOp (.d (.int .i64 (gmax e126.Max 0))) (by kernel_rfl) (by kernel_rfl) (PureV.does (p_max2 (k := .i64) (p := e126.Max) (q := 0) (by kernel_rfl) (by kernel_rfl) (by kernel_rfl))) ?_
        refine bCall (caps := []) (v := (uc fun (r114 : Int) => (fun (x213 : Int) => (.d (.int .i64 r114) : V)))) (H' := (uc fun (r114 : Int) => (fun (x213 : Int) => ([.box [.d (.lit (List.map e_i64 x)), .d (.int .i64 x213)], .box [.d (.int .i64 0), .d (.int .i64 0), .d (.lit (List.map e_SPart p2))], .sl 1 (List.map e_i64 xs6) false] : List Blk)))) [0] _ (make_Tape_Range_goes k (-1) (gmax e126.Max 0) x x20) (by kernel_rfl) (by kernel_rfl) rfl (by kernel_rfl) Try.func38 rfl (by kernel_rfl) (ConvRs.refl _ _) (by kernel_rfl) (by kernel_rfl) (by kernel_rfl) (by decide) (by kernel_rfl) (by kernel_rfl) (fun _ => (by kernel_rfl)) (fun _ => (by kernel_rfl)) (fun _ => (by kernel_rfl)) (fun r => ?_)
        obtain ⟨r114, x213⟩ := r
        refine bUc ?_
        refine oOp (.d (.int .i64 r114)) (by kernel_rfl) (by kernel_rfl) (PureV.does (p_assign (by kernel_rfl))) ?_
        refine oEnd ?_
        refine oSeq ?_
        refine oSeq ?_
        refine oRegion rfl ?_
        refine oOp (.ptr 1 2) (by kernel_rfl) (by kernel_rfl) (PureV.does (k_fieldAddr 1 0 (by kernel_rfl) Try.underlying27 rfl ty25 (by kernel_rfl))) ?_
        refine oOp (.d (.lit (List.map e_SPart p2))) (by kernel_rfl) (by kernel_rfl) (Quiet.does (k_load 1 2 (by kernel_rfl) Try.underlying25 (by kernel_rfl) (by kernel_rfl))) ?_
        refine oOp (.d (.int .i64 i4)) (by kernel_rfl) (by kernel_rfl) (PureV.does (p_move (by kernel_rfl))) ?_
        refine oOp (.lptr (e_SPart e126) 0) (by kernel_rfl) (by kernel_rfl) (PureV.does (k_idxLit e_SPart_len p2 (a := e126) (by kernel_rfl) (k := .i64) (i := i4) (by kernel_rfl) Try.underlying25 ty49 h165 h166)) ?_
        refine oOp (.lptr (e_SPart e126) 0) (by kernel_rfl) (by kernel_rfl) (PureV.does (k_fieldAddrL (cells := e_SPart e126) 0 (by kernel_rfl) Try.underlying49 rfl ty3 (by kernel_rfl))) ?_
        refine oOp (.d (.int .i64 e126.Kind)) (by kernel_rfl) (by kernel_rfl) (Quiet.does (k_loadL (cells := e_SPart e126) 0 (by kernel_rfl) Try.underlying3 (by kernel_rfl) (by kernel_rfl))) ?_
        refine oOp (.d (.bool (e126.Kind == 2))) (by kernel_rfl) (by kernel_rfl) (PureV.does (p_int (k := .i64) (p := e126.Kind) (q := 2) (by kernel_rfl) (by kernel_rfl) (by kernel_rfl))) ?_
        refine oOp (.d (.bool (e126.Kind == 2))) (by kernel_rfl) (by kernel_rfl) (PureV.does (p_move (by kernel_rfl))) ?_
        refine bMeetF (H' := [.box [.d (.lit (List.map e_i64 x)), .d (.int .i64 x213)], .box [.d (.int .i64 0), .d (.int .i64 0), .d (.lit (List.map e_SPart p2))], .sl 1 (List.map e_i64 xs6) false]) 3 rfl ((fun (x34 : Bool) => [(0, .ptr 0 0), (2, .d (.int .i64 0)), (4, .ptr 1 0), (7, .ref 2 (List.length xs6) 0 (List.length xs6)), (8, .d (.int .i64 i4)), (9, .d (.int .i64 r114)), (36, .d (.bool x34))])) (fun x34 => ?_) (fun F hj16 => ?_)
        · refine oView (T' := [(0, .ptr 0 0), (2, .d (.int .i64 0)), (4, .ptr 1 0), (7, .ref 2 (List.length xs6) 0 (List.length xs6)), (8, .d (.int .i64 i4)), (9, .d (.int .i64 r114)), (36, .d (.bool x34))]) (H' := [.box [.d (.lit (List.map e_i64 x)), .d (.int .i64 x213)], .box [.d (.int .i64 0), .d (.int .i64 0), .d (.lit (List.map e_SPart p2))], .sl 1 (List.map e_i64 xs6) false]) (by kernel_rfl) (by kernel_rfl) ?_
          refine oEnd ?_
          refine bJoin ((fun (m13 : Int) => [(0, .ptr 0 0), (2, .d (.int .i64 0)), (4, .ptr 1 0), (7, .ref 2 (List.length xs6) 0 (List.length xs6)), (8, .d (.int .i64 i4)), (9, .d (.int .i64 m13))])) ((fun (m13 : Int) => [.box [.d (.lit (List.map e_i64 x)), .d (.int .i64 x213)], .box [.d (.int .i64 0), .d (.int .i64 0), .d (.lit (List.map e_SPart p2))], .sl 1 (List.map e_i64 xs6) false])) (fun s => s) (fun m13 => ?_) (fun hj17 => ?_)
          · refine oView (T' := [(0, .ptr 0 0), (2, .d (.int .i64 0)), (4, .ptr 1 0), (7, .ref 2 (List.length xs6) 0 (List.length xs6)), (8, .d (.int .i64 i4)), (9, .d (.int .i64 m13))]) (H' := [.box [.d (.lit (List.map e_i64 x)), .d (.int .i64 x213)], .box [.d (.int .i64 0), .d (.int .i64 0), .d (.lit (List.map e_SPart p2))], .sl 1 (List.map e_i64 xs6) false]) (by kernel_rfl) (by kernel_rfl) ?_
            refine oRegion rfl ?_
            refine oOp (.ref 2 (List.length xs6) 0 (List.length xs6)) (by kernel_rfl) (by kernel_rfl) (PureV.does (p_move (by kernel_rfl))) ?_
            refine oOp (.d (.int .i64 m13)) (by kernel_rfl) (by kernel_rfl) (PureV.does (p_move (by kernel_rfl))) ?_
            refine oOp (.ref 3 (List.length ([m13] : List Int)) 0 (List.length ([m13] : List Int))) (by kernel_rfl) (by kernel_rfl) (k_buildSlice (H' := [.box [.d (.lit (List.map e_i64 x)), .d (.int .i64 x213)], .box [.d (.int .i64 0), .d (.int .i64 0), .d (.lit (List.map e_SPart p2))], .sl 1 (List.map e_i64 xs6) false, .sl 1 (List.map e_i64 ([m13] : List Int)) false]) (List.map e_i64 ([m13] : List Int)) Try.underlying22 ty3 (by kernel_rfl) (by kernel_rfl) (by kernel_rfl)) ?_
            refine bCap (fun h169 => ?_)
            refine oOp (.ref 2 (List.length (xs6 ++ ([m13] : List Int))) 0 (List.length (xs6 ++ ([m13] : List Int)))) (by kernel_rfl) (by kernel_rfl) (k_append (H' := [.box [.d (.lit (List.map e_i64 x)), .d (.int .i64 x213)], .box [.d (.int .i64 0), .d (.int .i64 0), .d (.lit (List.map e_SPart p2))], .sl 1 (List.map e_i64 (xs6 ++ ([m13] : List Int))) false, .sl 1 (List.map e_i64 ([m13] : List Int)) false]) (enc := e_i64) 2 xs6 ([m13] : List Int) Try.underlying22 Try.underlying22 ty3 (by kernel_rfl) (by kernel_rfl) (by kernel_rfl) (holdsRef (enc := e_i64) 3 ([m13] : List Int) false (by kernel_rfl) (by kernel_rfl)) h169 (by kernel_rfl)) ?_
            refine oOp (.ref 2 (List.length (xs6 ++ ([m13] : List Int))) 0 (List.length (xs6 ++ ([m13] : List Int)))) (by kernel_rfl) (by kernel_rfl) (PureV.does (p_assign (by kernel_rfl))) ?_
            refine oEnd ?_
            refine oBlk ?_
            refine oRegion rfl ?_
            refine oOp (.d (.int .i64 i4)) (by kernel_rfl) (by kernel_rfl) (PureV.does (p_move (by kernel_rfl))) ?_
            refine oOp (.d (.int .i64 (IntKind.wrap .i64 (i4 + 1)))) (by kernel_rfl) (by kernel_rfl) (PureV.does (p_int (k := .i64) (p := i4) (q := 1) (by kernel_rfl) (by kernel_rfl) (by kernel_rfl))) ?_
            refine oOp (.d (.int .i64 (IntKind.wrap .i64 (i4 + 1)))) (by kernel_rfl) (by kernel_rfl) (PureV.does (p_assign (by kernel_rfl))) ?_
            refine oEnd ?_
            refine oAgain ?_
            refine oHead [0, 2, 4, 7, 8] [0, 1, 2] (T' := [(0, .ptr 0 0), (2, .d (.int .i64 0)), (4, .ptr 1 0), (7, .ref 2 (List.length (xs6 ++ ([m13] : List Int))) 0 (List.length (xs6 ++ ([m13] : List Int)))), (8, .d (.int .i64 (IntKind.wrap .i64 (i4 + 1))))]) (H' := [.box [.d (.lit (List.map e_i64 x)), .d (.int .i64 x213)], .box [.d (.int .i64 0), .d (.int .i64 0), .d (.lit (List.map e_SPart p2))], .sl 1 (List.map e_i64 (xs6 ++ ([m13] : List Int))) false]) (by kernel_rfl) (by kernel_rfl) (by kernel_rfl) (by kernel_rfl) (by decide) (by kernel_rfl) (by kernel_rfl) ?_
            exact hag1 ((IntKind.wrap .i64 (i4 + 1)), x213, (xs6 ++ ([m13] : List Int)))
          · refine bSplit 36 (by kernel_rfl) (fun hc => ?_) (fun hc => ?_)
            · refine oCondT (by kernel_rfl) ?_
              refine oRegion rfl ?_
              refine oOp (.ptr 1 2) (by kernel_rfl) (by kernel_rfl) (PureV.does (k_fieldAddr 1 0 (by kernel_rfl) Try.underlying27 rfl ty25 (by kernel_rfl))) ?_
              refine oOp (.d (.lit (List.map e_SPart p2))) (by kernel_rfl) (by kernel_rfl) (Quiet.does (k_load 1 2 (by kernel_rfl) Try.underlying25 (by kernel_rfl) (by kernel_rfl))) ?_
              refine oOp (.d (.int .i64 i4)) (by kernel_rfl) (by kernel_rfl) (PureV.does (p_move (by kernel_rfl))) ?_
              refine bIdx (fun e128 h170 h171 => ?_)
              refine oOp (.lptr (e_SPart e128) 0) (by kernel_rfl) (by kernel_rfl) (PureV.does (k_idxLit e_SPart_len p2 (a := e128) (by kernel_rfl) (k := .i64) (i := i4) (by kernel_rfl) Try.underlying25 ty49 h170 h171)) ?_
              refine oOp (.lptr (e_SPart e128) 1) (by kernel_rfl) (by kernel_rfl) (PureV.does (k_fieldAddrL (cells := e_SPart e128) 0 (by kernel_rfl) Try.underlying49 rfl ty3 (by kernel_rfl))) ?_
              refine oOp (.d (.int .i64 e128.Max)) (by kernel_rfl) (by kernel_rfl) (Quiet.does (k_loadL (cells := e_SPart e128) 1 (by kernel_rfl) Try.underlying3 (by kernel_rfl) (by kernel_rfl))) ?_
              refine oOp (.d (.int .i64 e128.Max)) (by kernel_rfl) (by kernel_rfl) (PureV.does (p_assign (by kernel_rfl))) ?_
              refine oEnd ?_
              refine oHead [0, 2, 4, 7, 8, 9] [0, 1, 2] (T' := [(0, .ptr 0 0), (2, .d (.int .i64 0)), (4, .ptr 1 0), (7, .ref 2 (List.length xs6) 0 (List.length xs6)), (8, .d (.int .i64 i4)), (9, .d (.int .i64 e128.Max))]) (H' := [.box [.d (.lit (List.map e_i64 x)), .d (.int .i64 x213)], .box [.d (.int .i64 0), .d (.int .i64 0), .d (.lit (List.map e_SPart p2))], .sl 1 (List.map e_i64 xs6) false]) (by kernel_rfl) (by kernel_rfl) (by kernel_rfl) (by kernel_rfl) (by decide) (by kernel_rfl) (by kernel_rfl) ?_
              exact hj17 e128.Max
            · refine oCondF (by kernel_rfl) ?_
              refine oSkip ?_
              refine oHead [0, 2, 4, 7, 8, 9] [0, 1, 2] (T' := [(0, .ptr 0 0), (2, .d (.int .i64 0)), (4, .ptr 1 0), (7, .ref 2 (List.length xs6) 0 (List.length xs6)), (8, .d (.int .i64 i4)), (9, .d (.int .i64 r114))]) (H' := [.box [.d (.lit (List.map e_i64 x)), .d (.int .i64 x213)], .box [.d (.int .i64 0), .d (.int .i64 0), .d (.lit (List.map e_SPart p2))], .sl 1 (List.map e_i64 xs6) false]) (by kernel_rfl) (by kernel_rfl) (by kernel_rfl) (by kernel_rfl) (by decide) (by kernel_rfl) (by kernel_rfl) ?_
              exact hj17 r114
        · refine bPickF 33 (fun c => F (c && (decide (r114 > 0)))) (by kernel_rfl) (fun hc => ?_) (fun hc => ?_)
          · refine oOp (.d (.int .i64 r114)) (by kernel_rfl) (by kernel_rfl) (PureV.does (p_move (by kernel_rfl))) ?_
            refine oOp (.d (.bool (decide (r114 > 0)))) (by kernel_rfl) (by kernel_rfl) (PureV.does (p_int (k := .i64) (p := r114) (q := 0) (by kernel_rfl) (by kernel_rfl) (by kernel_rfl))) ?_
            refine oOp (.d (.bool (decide (r114 > 0)))) (by kernel_rfl) (by kernel_rfl) (PureV.does (p_pick (b := true) (by kernel_rfl) (by kernel_rfl))) ?_
            refine oHead [0, 2, 4, 7, 8, 9, 36] [0, 1, 2] (T' := [(0, .ptr 0 0), (2, .d (.int .i64 0)), (4, .ptr 1 0), (7, .ref 2 (List.length xs6) 0 (List.length xs6)), (8, .d (.int .i64 i4)), (9, .d (.int .i64 r114)), (36, .d (.bool (decide (r114 > 0))))]) (H' := [.box [.d (.lit (List.map e_i64 x)), .d (.int .i64 x213)], .box [.d (.int .i64 0), .d (.int .i64 0), .d (.lit (List.map e_SPart p2))], .sl 1 (List.map e_i64 xs6) false]) (by kernel_rfl) (by kernel_rfl) (by kernel_rfl) (by kernel_rfl) (by decide) (by kernel_rfl) (by kernel_rfl) ?_
            exact hj16 (decide (r114 > 0))
          · refine oNot (by kernel_rfl) (by kernel_rfl) ?_
            refine oNot (by kernel_rfl) (by kernel_rfl) ?_
            refine oOp (.d (.bool false)) (by kernel_rfl) (by kernel_rfl) (PureV.does (p_pick (b := false) (by kernel_rfl) (by kernel_rfl))) ?_
            refine oHead [0, 2, 4, 7, 8, 9, 36] [0, 1, 2] (T' := [(0, .ptr 0 0), (2, .d (.int .i64 0)), (4, .ptr 1 0), (7, .ref 2 (List.length xs6) 0 (List.length xs6)), (8, .d (.int .i64 i4)), (9, .d (.int .i64 r114)), (36, .d (.bool false))]) (H' := [.box [.d (.lit (List.map e_i64 x)), .d (.int .i64 x213)], .box [.d (.int .i64 0), .d (.int .i64 0), .d (.lit (List.map e_SPart p2))], .sl 1 (List.map e_i64 xs6) false]) (by kernel_rfl) (by kernel_rfl) (by kernel_rfl) (by kernel_rfl) (by decide) (by kernel_rfl) (by kernel_rfl) ?_
            exact hj16 false
      · refine oCondF (by kernel_rfl) ?_
        refine oExit rfl ?_
        refine oHead [0, 2, 7] [0, 2] (T' := [(0, .ptr 0 0), (2, .d (.int .i64 0)), (7, .ref 1 (List.length xs6) 0 (List.length xs6))]) (H' := [.box [.d (.lit (List.map e_i64 x)), .d (.int .i64 x20)], .sl 1 (List.map e_i64 xs6) false]) (by kernel_rfl) (by kernel_rfl) (by kernel_rfl) (by kernel_rfl) (by decide) (by kernel_rfl) (by kernel_rfl) ?_
        exact hj10 (x20, xs6)

/-- (*awardingbody/awardingbodymake.Tape).Scheme -/
def make_Tape_Scheme_2_b2 (k : Nat) (p2 : (List SPart)) (x : (List Int)) (i4 : Int) (again : Int × Int × (List Int) → Option (Int × (List Int))) : Int × Int × (List Int) → Option (Int × (List Int)) := uc fun k130 => uc fun x153 => fun xs122 => gidx p2 i4 fun e146 => bif (decide (k130 < e146.Options)) then Option.bind (Option.bind (make_Tape_Next k 2 x x153) (uc fun r1247 => fun x348 => bif (r1247 == 0) then gcap (List.length (xs122 ++ ([k130] : List Int))) 8 (some (x348, (xs122 ++ ([k130] : List Int)))) else some (x348, xs122)) : Option (Int × (List Int))) (uc fun x156 => fun xs125 => again ((IntKind.wrap .i64 (k130 + 1)), x156, xs125)) else some (x153, xs122)
def make_Tape_Scheme_2_b1 (k : Nat) (p2 : (List SPart)) (x : (List Int)) (again : Int × Int × (List (List Int)) × (List Int) → Option (Int × (List (List Int)) × (List Int))) : Int × Int × (List (List Int)) × (List Int) → Option (Int × (List (List Int)) × (List Int)) := uc fun i4 => uc fun x109 => uc fun xs84 => fun xs85 => bif (decide (i4 < ((List.length p2) : Int))) then gidx p2 i4 fun e139 => Option.bind (bif (e139.Kind == 2) then Option.bind (make_Tape_Next k 3 x x109) (uc fun r1248 => fun x349 => some ((r1248 == 0), x349)) else some (false, x109) : Option (Bool × Int)) (uc fun x138 => fun x139 => Option.bind (bif x138 then Option.bind (gloop (make_Tape_Scheme_2_b2 k p2 x i4) k (0, x139, ([] : List Int)) : Option (Int × (List Int))) (uc fun x151 => fun xs120 => some (x151, xs120)) else some (x139, ([] : List Int)) : Option (Int × (List Int))) (uc fun x145 => fun xs114 => Option.bind (gcap (List.length (xs84 ++ ([xs114] : List (List Int)))) 24 (Option.bind (make_Tape_Pick k x x145 ([0, 0, 0, 0, 1, 2] : List Int)) (uc fun r1 => fun x21 => gcap (List.length (xs85 ++ ([r1] : List Int))) 8 (some (x21, (xs85 ++ ([r1] : List Int)))))) : Option (Int × (List Int))) (uc fun x146 => fun xs115 => again ((IntKind.wrap .i64 (i4 + 1)), x146, (xs84 ++ ([xs114] : List (List Int))), xs115)))) else some (x109, xs84, xs85)
def make_Tape_Scheme_2 (k : Nat) (p2 : (List SPart)) (x : (List Int)) (x1 : Int) : Option ((List (List Int)) × (List Int) × Int) := Option.bind (gloop (make_Tape_Scheme_2_b1 k p2 x) k (0, x1, ([] : List (List Int)), ([] : List Int)) : Option (Int × (List (List Int)) × (List Int))) (uc fun x90 => uc fun xs68 => fun xs69 => some (xs68, xs69, x90))
theorem make_Tape_Scheme_2_eq : make_Tape_Scheme_2 = make_Tape_Scheme := rfl
def make_Tape_Scheme_2_E (p2 : (List SPart)) (x : (List Int)) (x1 : Int) : (List (List Int)) × (List Int) × Int → V × List Blk := uc fun xs34 => uc fun xs35 => fun x51 => (.agg [.ref 1 (List.length xs34) 0 (List.length xs34), .ref 2 (List.length xs35) 0 (List.length xs35)], [.box [.d (.lit (List.map e_i64 x)), .d (.int .i64 x51)], .sl 1 (List.map e_Li64 xs34) false, .sl 1 (List.map e_i64 xs35) false])
theorem make_Tape_Scheme_2_goes (k : Nat) (p2 : (List SPart)) (x : (List Int)) (x1 : Int) : RunsO Try.prog 14 [.ptr 0 0, .agg [.d (.int .i64 0), .d (.int .i64 0), .d (.lit (List.map e_SPart p2))], .d (.int .i64 0)] [.box [.d (.lit (List.map e_i64 x)), .d (.int .i64 x1)]] (make_Tape_Scheme_2_E p2 x x1) (make_Tape_Scheme_2 k p2 x x1) := by
  refine RunsO.of_goes (N := 115) (m := 1) (T := [(0, .ptr 0 0), (1, .agg [.d (.int .i64 0), .d (.int .i64 0), .d (.lit (List.map e_SPart p2))]), (2, .d (.int .i64 0))]) Try.func14 rfl rfl (by kernel_rfl) (by kernel_rfl) (by kernel_rfl) ?_
  unfold make_Tape_Scheme_2
  refine bStart ?_
  refine oSeq ?_
  refine oRegion rfl ?_
  refine oOp (.ptr 1 0) (by kernel_rfl) (by kernel_rfl) (k_box (H' := [.box [.d (.lit (List.map e_i64 x)), .d (.int .i64 x1)], .box [.d (.int .i64 0), .d (.int .i64 0), .d (.lit (List.map e_SPart p2))]]) (cells := [.d (.int .i64 0), .d (.int .i64 0), .d (.lit (List.map e_SPart p2))]) (by kernel_rfl) (by kernel_rfl) (by kernel_rfl)) ?_
  refine oOp (.ptr 2 0) (by kernel_rfl) (by kernel_rfl) (k_alloc (H' := [.box [.d (.lit (List.map e_i64 x)), .d (.int .i64 x1)], .box [.d (.int .i64 0), .d (.int .i64 0), .d (.lit (List.map e_SPart p2))], .box [.nilc, .nilc]]) ty31 (by kernel_rfl) (by kernel_rfl)) ?_
  refine oEnd ?_
  refine oSeq ?_
  refine oRegion rfl ?_
  refine oOp (.ptr 3 0) (by kernel_rfl) (by kernel_rfl) (k_alloc (H' := [.box [.d (.lit (List.map e_i64 x)), .d (.int .i64 x1)], .box [.d (.int .i64 0), .d (.int .i64 0), .d (.lit (List.map e_SPart p2))], .box [.nilc, .nilc], .box [.nilc, .nilc]]) ty31 (by kernel_rfl) (by kernel_rfl)) ?_
  refine oEnd ?_
  refine oSeq ?_
  refine oSeq ?_
  refine oRegion rfl ?_
  refine oOp (.d (.int .i64 0)) (by kernel_rfl) (by kernel_rfl) (PureV.does (p_assign (by kernel_rfl))) ?_
  refine oEnd ?_
  refine bJoin ((uc fun (x90 : Int) => (uc fun (xs68 : (List (List Int))) => (fun (xs69 : (List Int)) => [(0, .ptr 0 0), (2, .d (.int .i64 0)), (6, .ptr 1 0), (7, .ptr 2 0)])))) ((uc fun (x90 : Int) => (uc fun (xs68 : (List (List Int))) => (fun (xs69 : (List Int)) => [.box [.d (.lit (List.map e_i64 x)), .d (.int .i64 x90)], .box [.nilc, .nilc], .box [.ref 3 (List.length xs68) 0 (List.length xs68), .ref 4 (List.length xs69) 0 (List.length xs69)], .sl 1 (List.map e_Li64 xs68) false, .sl 1 (List.map e_i64 xs69) false])))) (fun s => s) (fun s => ?_) (fun hj42 => ?_)
  · obtain ⟨x90, xs68, xs69⟩ := s
    refine bUc ?_
    refine bUc ?_
    refine oView (T' := [(0, .ptr 0 0), (2, .d (.int .i64 0)), (6, .ptr 1 0), (7, .ptr 2 0)]) (H' := [.box [.d (.lit (List.map e_i64 x)), .d (.int .i64 x90)], .box [.nilc, .nilc], .box [.ref 3 (List.length xs68) 0 (List.length xs68), .ref 4 (List.length xs69) 0 (List.length xs69)], .sl 1 (List.map e_Li64 xs68) false, .sl 1 (List.map e_i64 xs69) false]) (by kernel_rfl) (by kernel_rfl) ?_
    refine oSeq ?_
    refine oSeq ?_
    refine oRegion rfl ?_
    refine oOp (.d (.int .i64 0)) (by kernel_rfl) (by kernel_rfl) (PureV.does (p_move (by kernel_rfl))) ?_
    refine oOp (.d (.bool false)) (by kernel_rfl) (by kernel_rfl) (PureV.does (p_int (k := .i64) (p := 0) (q := 0) (by kernel_rfl) (by kernel_rfl) (by kernel_rfl))) ?_
    refine oOp (.d (.bool false)) (by kernel_rfl) (by kernel_rfl) (PureV.does (p_move (by kernel_rfl))) ?_
    refine oNot (by kernel_rfl) (by kernel_rfl) ?_
    refine oNot (by kernel_rfl) (by kernel_rfl) ?_
    refine oNot (by kernel_rfl) (by kernel_rfl) ?_
    refine oOp (.d (.bool false)) (by kernel_rfl) (by kernel_rfl) (PureV.does (p_pick (b := false) (by kernel_rfl) (by kernel_rfl))) ?_
    refine oOp (.d (.bool false)) (by kernel_rfl) (by kernel_rfl) (PureV.does (p_move (by kernel_rfl))) ?_
    refine oNot (by kernel_rfl) (by kernel_rfl) ?_
    refine oNot (by kernel_rfl) (by kernel_rfl) ?_
    refine oNot (by kernel_rfl) (by kernel_rfl) ?_
    refine oNot (by kernel_rfl) (by kernel_rfl) ?_
    refine oOp (.d (.bool false)) (by kernel_rfl) (by kernel_rfl) (PureV.does (p_pick (b := false) (by kernel_rfl) (by kernel_rfl))) ?_
    refine oEnd ?_
    refine oCondF (by kernel_rfl) ?_
    refine oSkip ?_
    refine oSeq ?_
    refine oRegion rfl ?_
    refine oOp (.agg [.ref 3 (List.length xs68) 0 (List.length xs68), .ref 4 (List.length xs69) 0 (List.length xs69)]) (by kernel_rfl) (by kernel_rfl) (Quiet.does (k_loadAgg 2 0 (by kernel_rfl) Try.underlying31 (by kernel_rfl) ty31 (by kernel_rfl))) ?_
    refine oOp (.undef) (by kernel_rfl) (by kernel_rfl) (k_store (vs := [.ref 3 (List.length xs68) 0 (List.length xs68), .ref 4 (List.length xs69) 0 (List.length xs69)]) (H' := [.box [.d (.lit (List.map e_i64 x)), .d (.int .i64 x90)], .box [.ref 3 (List.length xs68) 0 (List.length xs68), .ref 4 (List.length xs69) 0 (List.length xs69)], .box [.ref 3 (List.length xs68) 0 (List.length xs68), .ref 4 (List.length xs69) 0 (List.length xs69)], .sl 1 (List.map e_Li64 xs68) false, .sl 1 (List.map e_i64 xs69) false]) 1 0 (by kernel_rfl) ty31 (by kernel_rfl) (by kernel_rfl) (by kernel_rfl)) ?_
    refine oEnd ?_
    exact oRet (r0 := (xs68, xs69, x90)) (rv := .agg [.ref 1 (List.length xs68) 0 (List.length xs68), .ref 2 (List.length xs69) 0 (List.length xs69)]) (B := [.box [.d (.lit (List.map e_i64 x)), .d (.int .i64 x90)], .sl 1 (List.map e_Li64 xs68) false, .sl 1 (List.map e_i64 xs69) false]) (vs := [.agg [.ref 3 (List.length xs68) 0 (List.length xs68), .ref 4 (List.length xs69) 0 (List.length xs69)]]) (σ := [0, 3, 4]) (by kernel_rfl) Try.func14 rfl (.cons _ _ _ _ (.agg 6 31 1 0 [.ref 3 (List.length xs68) 0 (List.length xs68), .ref 4 (List.length xs69) 0 (List.length xs69)] [.ref 3 (List.length xs68) 0 (List.length xs68), .ref 4 (List.length xs69) 0 (List.length xs69)] _ _ _ _ (by kernel_rfl) (by kernel_rfl) Try.underlying31 (by kernel_rfl) ty31 (by kernel_rfl) (by kernel_rfl)) .nil) (by kernel_rfl) (by kernel_rfl) (by kernel_rfl) (by kernel_rfl) (by decide) (by kernel_rfl) (by kernel_rfl)
  · refine oBlock ?_
    refine oLoop ?_
    refine oVirtB (esz := 1) 3 0 (cells := [.nilc, .nilc]) (by kernel_rfl) (by kernel_rfl) ?_
    refine oView (H' := [.box [.d (.lit (List.map e_i64 x)), .d (.int .i64 x1)], .box [.d (.int .i64 0), .d (.int .i64 0), .d (.lit (List.map e_SPart p2))], .box [.nilc, .nilc], .box [.ref 4 (List.length ([] : List (List Int))) 0 (List.length ([] : List (List Int))), .nilc], .sl 1 (List.map e_Li64 ([] : List (List Int))) false]) rfl (by kernel_rfl) ?_
    refine oVirtB (esz := 1) 3 1 (cells := [.ref 4 (List.length ([] : List (List Int))) 0 (List.length ([] : List (List Int))), .nilc]) (by kernel_rfl) (by kernel_rfl) ?_
    refine oView (H' := [.box [.d (.lit (List.map e_i64 x)), .d (.int .i64 x1)], .box [.d (.int .i64 0), .d (.int .i64 0), .d (.lit (List.map e_SPart p2))], .box [.nilc, .nilc], .box [.ref 4 (List.length ([] : List (List Int))) 0 (List.length ([] : List (List Int))), .ref 5 (List.length ([] : List Int)) 0 (List.length ([] : List Int))], .sl 1 (List.map e_Li64 ([] : List (List Int))) false, .sl 1 (List.map e_i64 ([] : List Int)) false]) rfl (by kernel_rfl) ?_
    refine oHead [0, 2, 4, 6, 7, 8] [0, 1, 2, 3, 4, 5] (T' := [(0, .ptr 0 0), (2, .d (.int .i64 0)), (4, .ptr 1 0), (6, .ptr 2 0), (7, .ptr 3 0), (8, .d (.int .i64 0))]) (H' := [.box [.d (.lit (List.map e_i64 x)), .d (.int .i64 x1)], .box [.d (.int .i64 0), .d (.int .i64 0), .d (.lit (List.map e_SPart p2))], .box [.nilc, .nilc], .box [.ref 4 (List.length ([] : List (List Int))) 0 (List.length ([] : List (List Int))), .ref 5 (List.length ([] : List Int)) 0 (List.length ([] : List Int))], .sl 1 (List.map e_Li64 ([] : List (List Int))) false, .sl 1 (List.map e_i64 ([] : List Int)) false]) (by kernel_rfl) (by kernel_rfl) (by kernel_rfl) (by kernel_rfl) (by decide) (by kernel_rfl) (by kernel_rfl) ?_
    refine bLoop (body := make_Tape_Scheme_2_b1 k p2 x) ((uc fun (i4 : Int) => (uc fun (x109 : Int) => (uc fun (xs84 : (List (List Int))) => (fun (xs85 : (List Int)) => [(0, .ptr 0 0), (2, .d (.int .i64 0)), (4, .ptr 1 0), (6, .ptr 2 0), (7, .ptr 3 0), (8, .d (.int .i64 i4))]))))) ((uc fun (i4 : Int) => (uc fun (x109 : Int) => (uc fun (xs84 : (List (List Int))) => (fun (xs85 : (List Int)) => [.box [.d (.lit (List.map e_i64 x)), .d (.int .i64 x109)], .box [.d (.int .i64 0), .d (.int .i64 0), .d (.lit (List.map e_SPart p2))], .box [.nilc, .nilc], .box [.ref 4 (List.length xs84) 0 (List.length xs84), .ref 5 (List.length xs85) 0 (List.length xs85)], .sl 1 (List.map e_Li64 xs84) false, .sl 1 (List.map e_i64 xs85) false]))))) (fun again hag1 s => ?_) k (0, x1, ([] : List (List Int)), ([] : List Int))
    · unfold make_Tape_Scheme_2_b1
      obtain ⟨i4, x109, xs84, xs85⟩ := s
      refine bUc ?_
      refine bUc ?_
      refine bUc ?_
      refine oView (T' := [(0, .ptr 0 0), (2, .d (.int .i64 0)), (4, .ptr 1 0), (6, .ptr 2 0), (7, .ptr 3 0), (8, .d (.int .i64 i4))]) (H' := [.box [.d (.lit (List.map e_i64 x)), .d (.int .i64 x109)], .box [.d (.int .i64 0), .d (.int .i64 0), .d (.lit (List.map e_SPart p2))], .box [.nilc, .nilc], .box [.ref 4 (List.length xs84) 0 (List.length xs84), .ref 5 (List.length xs85) 0 (List.length xs85)], .sl 1 (List.map e_Li64 xs84) false, .sl 1 (List.map e_i64 xs85) false]) (by kernel_rfl) (by kernel_rfl) ?_
      refine oSeq ?_
      refine oSeq ?_
      refine oRegion rfl ?_
      refine oOp (.d (.int .i64 i4)) (by kernel_rfl) (by kernel_rfl) (PureV.does (p_move (by kernel_rfl))) ?_
      refine oOp (.ptr 1 2) (by kernel_rfl) (by kernel_rfl) (PureV.does (k_fieldAddr 1 0 (by kernel_rfl) Try.underlying27 rfl ty25 (by kernel_rfl))) ?_
      refine oOp (.d (.lit (List.map e_SPart p2))) (by kernel_rfl) (by kernel_rfl) (Quiet.does (k_load 1 2 (by kernel_rfl) Try.underlying25 (by kernel_rfl) (by kernel_rfl))) ?_
      refine oOp (.d (.int .i64 ((List.length p2) : Int))) (by kernel_rfl) (by kernel_rfl) (PureV.does (k_lenLit (enc := e_SPart) p2 (by kernel_rfl) Try.underlying25)) ?_
      refine oOp (.d (.bool (decide (i4 < ((List.length p2) : Int))))) (by kernel_rfl) (by kernel_rfl) (PureV.does (p_int (k := .i64) (p := i4) (q := ((List.length p2) : Int)) (by kernel_rfl) (by kernel_rfl) (by kernel_rfl))) ?_
      refine oEnd ?_
      refine bSplit 16 (by kernel_rfl) (fun hc => ?_) (fun hc => ?_)
      · refine oCondT (by kernel_rfl) ?_
        refine oSkip ?_
        refine oSeq ?_
        refine oBlock ?_
        refine oSeq ?_
        refine oRegion rfl ?_
        refine oOp (.nilc) (by kernel_rfl) (by kernel_rfl) (PureV.does (p_assign (by kernel_rfl))) ?_
        refine oEnd ?_
        refine oSeq ?_
        refine oSeq ?_
        refine oRegion rfl ?_
        refine oOp (.ptr 1 2) (by kernel_rfl) (by kernel_rfl) (PureV.does (k_fieldAddr 1 0 (by kernel_rfl) Try.underlying27 rfl ty25 (by kernel_rfl))) ?_
        refine oOp (.d (.lit (List.map e_SPart p2))) (by kernel_rfl) (by kernel_rfl) (Quiet.does (k_load 1 2 (by kernel_rfl) Try.underlying25 (by kernel_rfl) (by kernel_rfl))) ?_
        refine oOp (.d (.int .i64 i4)) (by kernel_rfl) (by kernel_rfl) (PureV.does (p_move (by kernel_rfl))) ?_
        refine bIdx (fun e139 h1106 h1107 => ?_)
        refine oOp (.lptr (e_SPart e139) 0) (by kernel_rfl) (by kernel_rfl) (PureV.does (k_idxLit e_SPart_len p2 (a := e139) (by kernel_rfl) (k := .i64) (i := i4) (by kernel_rfl) Try.underlying25 ty49 h1106 h1107)) ?_
        refine oOp (.lptr (e_SPart e139) 0) (by kernel_rfl) (by kernel_rfl) (PureV.does (k_fieldAddrL (cells := e_SPart e139) 0 (by kernel_rfl) Try.underlying49 rfl ty3 (by kernel_rfl))) ?_
        refine oOp (.d (.int .i64 e139.Kind)) (by kernel_rfl) (by kernel_rfl) (Quiet.does (k_loadL (cells := e_SPart e139) 0 (by kernel_rfl) Try.underlying3 (by kernel_rfl) (by kernel_rfl))) ?_
        refine oOp (.d (.bool (e139.Kind == 2))) (by kernel_rfl) (by kernel_rfl) (PureV.does (p_int (k := .i64) (p := e139.Kind) (q := 2) (by kernel_rfl) (by kernel_rfl) (by kernel_rfl))) ?_
        refine oOp (.d (.bool (e139.Kind == 2))) (by kernel_rfl) (by kernel_rfl) (PureV.does (p_move (by kernel_rfl))) ?_
        refine bMeet 4 rfl ((uc fun (x138 : Bool) => (fun (x139 : Int) => [(0, .ptr 0 0), (2, .d (.int .i64 0)), (4, .ptr 1 0), (6, .ptr 2 0), (7, .ptr 3 0), (8, .d (.int .i64 i4)), (9, .nilc), (30, .d (.bool x138))]))) ((uc fun (x138 : Bool) => (fun (x139 : Int) => [.box [.d (.lit (List.map e_i64 x)), .d (.int .i64 x139)], .box [.d (.int .i64 0), .d (.int .i64 0), .d (.lit (List.map e_SPart p2))], .box [.nilc, .nilc], .box [.ref 4 (List.length xs84) 0 (List.length xs84), .ref 5 (List.length xs85) 0 (List.length xs85)], .sl 1 (List.map e_Li64 xs84) false, .sl 1 (List.map e_i64 xs85) false]))) (fun s => s) (fun s => ?_) (fun hj79 => ?_)
        · obtain ⟨x138, x139⟩ := s
          refine bUc ?_
          refine oView (T' := [(0, .ptr 0 0), (2, .d (.int .i64 0)), (4, .ptr 1 0), (6, .ptr 2 0), (7, .ptr 3 0), (8, .d (.int .i64 i4)), (9, .nilc), (30, .d (.bool x138))]) (H' := [.box [.d (.lit (List.map e_i64 x)), .d (.int .i64 x139)], .box [.d (.int .i64 0), .d (.int .i64 0), .d (.lit (List.map e_SPart p2))], .box [.nilc, .nilc], .box [.ref 4 (List.length xs84) 0 (List.length xs84), .ref 5 (List.length xs85) 0 (List.length xs85)], .sl 1 (List.map e_Li64 xs84) false, .sl 1 (List.map e_i64 xs85) false]) (by kernel_rfl) (by kernel_rfl) ?_
          refine oEnd ?_
          refine bJoin ((uc fun (x145 : Int) => (fun (xs114 : (List Int)) => [(0, .ptr 0 0), (2, .d (.int .i64 0)), (4, .ptr 1 0), (6, .ptr 2 0), (7, .ptr 3 0), (8, .d (.int .i64 i4)), (9, .ref 4 (List.length xs114) 0 (List.length xs114))]))) ((uc fun (x145 : Int) => (fun (xs114 : (List Int)) => [.box [.d (.lit (List.map e_i64 x)), .d (.int .i64 x145)], .box [.d (.int .i64 0), .d (.int .i64 0), .d (.lit (List.map e_SPart p2))], .box [.nilc, .nilc], .box [.ref 5 (List.length xs84) 0 (List.length xs84), .ref 6 (List.length xs85) 0 (List.length xs85)], .sl 1 (List.map e_i64 xs114) false, .sl 1 (List.map e_Li64 xs84) false, .sl 1 (List.map e_i64 xs85) false]))) (fun s => s) (fun s => ?_) (fun hj71 => ?_)
          · obtain ⟨x145, xs114⟩ := s
            refine bUc ?_
            refine oView (T' := [(0, .ptr 0 0), (2, .d (.int .i64 0)), (4, .ptr 1 0), (6, .ptr 2 0), (7, .ptr 3 0), (8, .d (.int .i64 i4)), (9, .ref 4 (List.length xs114) 0 (List.length xs114))]) (H' := [.box [.d (.lit (List.map e_i64 x)), .d (.int .i64 x145)], .box [.d (.int .i64 0), .d (.int .i64 0), .d (.lit (List.map e_SPart p2))], .box [.nilc, .nilc], .box [.ref 5 (List.length xs84) 0 (List.length xs84), .ref 6 (List.length xs85) 0 (List.length xs85)], .sl 1 (List.map e_i64 xs114) false, .sl 1 (List.map e_Li64 xs84) false, .sl 1 (List.map e_i64 xs85) false]) (by kernel_rfl) (by kernel_rfl) ?_
            refine bJoin ((uc fun (x146 : Int) => (fun (xs115 : (List Int)) => [(0, .ptr 0 0), (2, .d (.int .i64 0)), (4, .ptr 1 0), (6, .ptr 2 0), (7, .ptr 3 0), (8, .d (.int .i64 i4))]))) ((uc fun (x146 : Int) => (fun (xs115 : (List Int)) => [.box [.d (.lit (List.map e_i64 x)), .d (.int .i64 x146)], .box [.d (.int .i64 0), .d (.int .i64 0), .d (.lit (List.map e_SPart p2))], .box [.nilc, .nilc], .box [.ref 4 (List.length (xs84 ++ ([xs114] : List (List Int)))) 0 (List.length (xs84 ++ ([xs114] : List (List Int)))), .ref 5 (List.length xs115) 0 (List.length xs115)], .sl 1 (List.map e_Li64 (xs84 ++ ([xs114] : List (List Int)))) false, .sl 1 (List.map e_i64 xs115) false]))) (fun s => s) (fun s => ?_) (fun hj72 => ?_)
            · obtain ⟨x146, xs115⟩ := s
              refine bUc ?_
              refine oView (T' := [(0, .ptr 0 0), (2, .d (.int .i64 0)), (4, .ptr 1 0), (6, .ptr 2 0), (7, .ptr 3 0), (8, .d (.int .i64 i4))]) (H' := [.box [.d (.lit (List.map e_i64 x)), .d (.int .i64 x146)], .box [.d (.int .i64 0), .d (.int .i64 0), .d (.lit (List.map e_SPart p2))], .box [.nilc, .nilc], .box [.ref 4 (List.length (xs84 ++ ([xs114] : List (List Int)))) 0 (List.length (xs84 ++ ([xs114] : List (List Int)))), .ref 5 (List.length xs115) 0 (List.length xs115)], .sl 1 (List.map e_Li64 (xs84 ++ ([xs114] : List (List Int)))) false, .sl 1 (List.map e_i64 xs115) false]) (by kernel_rfl) (by kernel_rfl) ?_
              refine oBlk ?_
              refine oRegion rfl ?_
              refine oOp (.d (.int .i64 i4)) (by kernel_rfl) (by kernel_rfl) (PureV.does (p_move (by kernel_rfl))) ?_
              refine oOp (.d (.int .i64 (IntKind.wrap .i64 (i4 + 1)))) (by kernel_rfl) (by kernel_rfl) (PureV.does (p_int (k := .i64) (p := i4) (q := 1) (by kernel_rfl) (by kernel_rfl) (by kernel_rfl))) ?_
              refine oOp (.d (.int .i64 (IntKind.wrap .i64 (i4 + 1)))) (by kernel_rfl) (by kernel_rfl) (PureV.does (p_assign (by kernel_rfl))) ?_
              refine oEnd ?_
              refine oAgain ?_
              refine oHead [0, 2, 4, 6, 7, 8] [0, 1, 2, 3, 4, 5] (T' := [(0, .ptr 0 0), (2, .d (.int .i64 0)), (4, .ptr 1 0), (6, .ptr 2 0), (7, .ptr 3 0), (8, .d (.int .i64 (IntKind.wrap .i64 (i4 + 1))))]) (H' := [.box [.d (.lit (List.map e_i64 x)), .d (.int .i64 x146)], .box [.d (.int .i64 0), .d (.int .i64 0), .d (.lit (List.map e_SPart p2))], .box [.nilc, .nilc], .box [.ref 4 (List.length (xs84 ++ ([xs114] : List (List Int)))) 0 (List.length (xs84 ++ ([xs114] : List (List Int)))), .ref 5 (List.length xs115) 0 (List.length xs115)], .sl 1 (List.map e_Li64 (xs84 ++ ([xs114] : List (List Int)))) false, .sl 1 (List.map e_i64 xs115) false]) (by kernel_rfl) (by kernel_rfl) (by kernel_rfl) (by kernel_rfl) (by decide) (by kernel_rfl) (by kernel_rfl) ?_
              exact hag1 ((IntKind.wrap .i64 (i4 + 1)), x146, (xs84 ++ ([xs114] : List (List Int))), xs115)
            · refine oFreeze 4 (esz := 1) (xs := List.map e_i64 xs114) (by kernel_rfl) ?_
              refine oView (H' := [.box [.d (.lit (List.map e_i64 x)), .d (.int .i64 x145)], .box [.d (.int .i64 0), .d (.int .i64 0), .d (.lit (List.map e_SPart p2))], .box [.nilc, .nilc], .box [.ref 5 (List.length xs84) 0 (List.length xs84), .ref 6 (List.length xs85) 0 (List.length xs85)], .sl 1 (List.map e_i64 xs114) true, .sl 1 (List.map e_Li64 xs84) false, .sl 1 (List.map e_i64 xs85) false]) rfl (by kernel_rfl) ?_
              refine oConv 9 (v := .ref 4 (List.length xs114) 0 (List.length xs114)) (v' := .d (.lit (List.map e_i64 xs114))) (by kernel_rfl) (k_lit (enc := e_i64) (sz := 1) 4 xs114 (by kernel_rfl)) ?_
              refine oDraw [(0, 9), (1, 16), (2, 16), (3, 13), (4, 16), (5, 4), (6, 11)] rfl ?_
              refine aTakeL (i := 0) (st' := []) (.ptr 3 0) rfl (by kernel_rfl) (by kernel_rfl) (by kernel_rfl) (by kernel_rfl) (by kernel_rfl) (by kernel_rfl) (by kernel_rfl) (PureV.quiet (k_fieldAddr 3 0 (by kernel_rfl) Try.underlying31 rfl ty29 (by kernel_rfl)) []) ?_
              refine aTakeL (i := 1) (st' := [3]) (.ref 5 (List.length xs84) 0 (List.length xs84)) rfl (by kernel_rfl) (by kernel_rfl) (by kernel_rfl) (by kernel_rfl) (by kernel_rfl) (by kernel_rfl) (by kernel_rfl) (k_load 3 0 (by kernel_rfl) Try.underlying29 (by kernel_rfl) (by kernel_rfl)) ?_
              refine aTakeL (i := 2) (st' := []) (.d (.lit (List.map e_i64 xs114))) rfl (by kernel_rfl) (by kernel_rfl) (by kernel_rfl) (by kernel_rfl) (by kernel_rfl) (by kernel_rfl) (by kernel_rfl) (PureV.quiet (p_move (by kernel_rfl)) []) ?_
              refine aTakeL (i := 5) (st' := []) (.ptr 3 1) rfl (by kernel_rfl) (by kernel_rfl) (by kernel_rfl) (by kernel_rfl) (by kernel_rfl) (by kernel_rfl) (by kernel_rfl) (PureV.quiet (k_fieldAddr 3 0 (by kernel_rfl) Try.underlying31 rfl ty22 (by kernel_rfl)) []) ?_
              refine aTakeL (i := 6) (st' := [3]) (.ref 6 (List.length xs85) 0 (List.length xs85)) rfl (by kernel_rfl) (by kernel_rfl) (by kernel_rfl) (by kernel_rfl) (by kernel_rfl) (by kernel_rfl) (by kernel_rfl) (k_load 3 1 (by kernel_rfl) Try.underlying22 (by kernel_rfl) (by kernel_rfl)) ?_
              refine aTakeL (i := 7) (st' := []) (.ptr 0 0) rfl (by kernel_rfl) (by kernel_rfl) (by kernel_rfl) (by kernel_rfl) (by kernel_rfl) (by kernel_rfl) (by kernel_rfl) (PureV.quiet (p_move (by kernel_rfl)) []) ?_
              refine aMany [3, 8] (by kernel_rfl) (by kernel_rfl) (by kernel_rfl) (by kernel_rfl) (.cons _ _ ?_ (.cons _ _ ?_ .nil))
              · refine sOne (i := 3) (v := .ref 7 (List.length ([xs114] : List (List Int))) 0 (List.length ([xs114] : List (List Int)))) rfl (by kernel_rfl) (by kernel_rfl) (by kernel_rfl) (by kernel_rfl) (by kernel_rfl) (Does.acts (k_buildSlice (H' := [.box [.d (.lit (List.map e_i64 x)), .d (.int .i64 x145)], .box [.d (.int .i64 0), .d (.int .i64 0), .d (.lit (List.map e_SPart p2))], .box [.nilc, .nilc], .box [.ref 5 (List.length xs84) 0 (List.length xs84), .ref 6 (List.length xs85) 0 (List.length xs85)], .sl 1 (List.map e_i64 xs114) true, .sl 1 (List.map e_Li64 xs84) false, .sl 1 (List.map e_i64 xs85) false, .sl 1 (List.map e_Li64 ([xs114] : List (List Int))) false]) (List.map e_Li64 ([xs114] : List (List Int))) Try.underlying29 ty22 (by kernel_rfl) (by kernel_rfl) (by kernel_rfl))) (by kernel_rfl) ?_
                refine dCap (fun h18 => ?_)
                refine aMany [4, 8] (by kernel_rfl) (by kernel_rfl) (by kernel_rfl) (by kernel_rfl) (.cons _ _ ?_ (.cons _ _ ?_ .nil))
                · refine sOne (i := 4) (v := .ref 5 (List.length (xs84 ++ ([xs114] : List (List Int)))) 0 (List.length (xs84 ++ ([xs114] : List (List Int))))) rfl (by kernel_rfl) (by kernel_rfl) (by kernel_rfl) (by kernel_rfl) (by kernel_rfl) (Does.acts (k_append (H' := [.box [.d (.lit (List.map e_i64 x)), .d (.int .i64 x145)], .box [.d (.int .i64 0), .d (.int .i64 0), .d (.lit (List.map e_SPart p2))], .box [.nilc, .nilc], .box [.ref 5 (List.length xs84) 0 (List.length xs84), .ref 6 (List.length xs85) 0 (List.length xs85)], .sl 1 (List.map e_i64 xs114) true, .sl 1 (List.map e_Li64 (xs84 ++ ([xs114] : List (List Int)))) false, .sl 1 (List.map e_i64 xs85) false, .sl 1 (List.map e_Li64 ([xs114] : List (List Int))) false]) (enc := e_Li64) 5 xs84 ([xs114] : List (List Int)) Try.underlying29 Try.underlying29 ty22 (by kernel_rfl) (by kernel_rfl) (by kernel_rfl) (holdsRef (enc := e_Li64) 7 ([xs114] : List (List Int)) false (by kernel_rfl) (by kernel_rfl)) h18 (by kernel_rfl))) (by kernel_rfl) ?_
                  refine aTakeL (i := 12) (st' := []) (.ptr 3 0) rfl (by kernel_rfl) (by kernel_rfl) (by kernel_rfl) (by kernel_rfl) (by kernel_rfl) (by kernel_rfl) (by kernel_rfl) (PureV.quiet (k_fieldAddr 3 0 (by kernel_rfl) Try.underlying31 rfl ty29 (by kernel_rfl)) []) ?_
                  refine aOne (i := 8) (v := .ref 8 (List.length ([0, 0, 0, 0, 1, 2] : List Int)) 0 (List.length ([0, 0, 0, 0, 1, 2] : List Int))) rfl (by kernel_rfl) (by kernel_rfl) (by kernel_rfl) (by kernel_rfl) (by kernel_rfl) (by kernel_rfl) (by kernel_rfl) (Does.acts (k_buildSlice (H' := [.box [.d (.lit (List.map e_i64 x)), .d (.int .i64 x145)], .box [.d (.int .i64 0), .d (.int .i64 0), .d (.lit (List.map e_SPart p2))], .box [.nilc, .nilc], .box [.ref 5 (List.length xs84) 0 (List.length xs84), .ref 6 (List.length xs85) 0 (List.length xs85)], .sl 1 (List.map e_i64 xs114) true, .sl 1 (List.map e_Li64 (xs84 ++ ([xs114] : List (List Int)))) false, .sl 1 (List.map e_i64 xs85) false, .sl 1 (List.map e_Li64 ([xs114] : List (List Int))) false, .sl 1 (List.map e_i64 ([0, 0, 0, 0, 1, 2] : List Int)) false]) (List.map e_i64 ([0, 0, 0, 0, 1, 2] : List Int)) Try.underlying22 ty3 (by kernel_rfl) (by kernel_rfl) (by kernel_rfl))) (by kernel_rfl) ?_
                  refine dCall (i := 9) (caps := []) (v := (uc fun (r1 : Int) => (fun (x21 : Int) => (.d (.int .i64 r1) : V)))) (H' := (uc fun (r1 : Int) => (fun (x21 : Int) => ([.box [.d (.lit (List.map e_i64 x)), .d (.int .i64 x21)], .box [.d (.int .i64 0), .d (.int .i64 0), .d (.lit (List.map e_SPart p2))], .box [.nilc, .nilc], .box [.ref 5 (List.length xs84) 0 (List.length xs84), .ref 6 (List.length xs85) 0 (List.length xs85)], .sl 1 (List.map e_i64 xs114) true, .sl 1 (List.map e_Li64 (xs84 ++ ([xs114] : List (List Int)))) false, .sl 1 (List.map e_i64 xs85) false, .sl 1 (List.map e_Li64 ([xs114] : List (List Int))) false, .sl 1 (List.map e_i64 ([0, 0, 0, 0, 1, 2] : List Int)) false] : List Blk)))) [0, 8] _ (make_Tape_Pick_goes k x x145 ([0, 0, 0, 0, 1, 2] : List Int)) rfl (by kernel_rfl) (by kernel_rfl) (by kernel_rfl) (by kernel_rfl) (by kernel_rfl) (by kernel_rfl) (by kernel_rfl) (by kernel_rfl) rfl (by kernel_rfl) Try.func43 rfl (by kernel_rfl) (ConvRs.refl _ _) (by kernel_rfl) (by kernel_rfl) (by kernel_rfl) (by decide) (by kernel_rfl) (by kernel_rfl) (fun _ => (by kernel_rfl)) (fun _ => (by kernel_rfl)) (fun _ => (by kernel_rfl)) (fun r => ?_)
                  obtain ⟨r1, x21⟩ := r
                  refine dUc ?_
                  refine aOne (i := 10) (v := .ref 9 (List.length ([r1] : List Int)) 0 (List.length ([r1] : List Int))) rfl (by kernel_rfl) (by kernel_rfl) (by kernel_rfl) (by kernel_rfl) (by kernel_rfl) (by kernel_rfl) (by kernel_rfl) (Does.acts (k_buildSlice (H' := [.box [.d (.lit (List.map e_i64 x)), .d (.int .i64 x21)], .box [.d (.int .i64 0), .d (.int .i64 0), .d (.lit (List.map e_SPart p2))], .box [.nilc, .nilc], .box [.ref 5 (List.length xs84) 0 (List.length xs84), .ref 6 (List.length xs85) 0 (List.length xs85)], .sl 1 (List.map e_i64 xs114) true, .sl 1 (List.map e_Li64 (xs84 ++ ([xs114] : List (List Int)))) false, .sl 1 (List.map e_i64 xs85) false, .sl 1 (List.map e_Li64 ([xs114] : List (List Int))) false, .sl 1 (List.map e_i64 ([0, 0, 0, 0, 1, 2] : List Int)) false, .sl 1 (List.map e_i64 ([r1] : List Int)) false]) (List.map e_i64 ([r1] : List Int)) Try.underlying22 ty3 (by kernel_rfl) (by kernel_rfl) (by kernel_rfl))) (by kernel_rfl) ?_
                  refine dCap (fun h19 => ?_)
                  refine aOne (i := 11) (v := .ref 6 (List.length (xs85 ++ ([r1] : List Int))) 0 (List.length (xs85 ++ ([r1] : List Int)))) rfl (by kernel_rfl) (by kernel_rfl) (by kernel_rfl) (by kernel_rfl) (by kernel_rfl) (by kernel_rfl) (by kernel_rfl) (Does.acts (k_append (H' := [.box [.d (.lit (List.map e_i64 x)), .d (.int .i64 x21)], .box [.d (.int .i64 0), .d (.int .i64 0), .d (.lit (List.map e_SPart p2))], .box [.nilc, .nilc], .box [.ref 5 (List.length xs84) 0 (List.length xs84), .ref 6 (List.length xs85) 0 (List.length xs85)], .sl 1 (List.map e_i64 xs114) true, .sl 1 (List.map e_Li64 (xs84 ++ ([xs114] : List (List Int)))) false, .sl 1 (List.map e_i64 (xs85 ++ ([r1] : List Int))) false, .sl 1 (List.map e_Li64 ([xs114] : List (List Int))) false, .sl 1 (List.map e_i64 ([0, 0, 0, 0, 1, 2] : List Int)) false, .sl 1 (List.map e_i64 ([r1] : List Int)) false]) (enc := e_i64) 6 xs85 ([r1] : List Int) Try.underlying22 Try.underlying22 ty3 (by kernel_rfl) (by kernel_rfl) (by kernel_rfl) (holdsRef (enc := e_i64) 9 ([r1] : List Int) false (by kernel_rfl) (by kernel_rfl)) h19 (by kernel_rfl))) (by kernel_rfl) ?_
                  refine aOne (i := 13) (v := .undef) rfl (by kernel_rfl) (by kernel_rfl) (by kernel_rfl) (by kernel_rfl) (by kernel_rfl) (by kernel_rfl) (by kernel_rfl) (Does.acts (k_store (vs := [.ref 5 (List.length (xs84 ++ ([xs114] : List (List Int)))) 0 (List.length (xs84 ++ ([xs114] : List (List Int))))]) (H' := [.box [.d (.lit (List.map e_i64 x)), .d (.int .i64 x21)], .box [.d (.int .i64 0), .d (.int .i64 0), .d (.lit (List.map e_SPart p2))], .box [.nilc, .nilc], .box [.ref 5 (List.length (xs84 ++ ([xs114] : List (List Int)))) 0 (List.length (xs84 ++ ([xs114] : List (List Int)))), .ref 6 (List.length xs85) 0 (List.length xs85)], .sl 1 (List.map e_i64 xs114) true, .sl 1 (List.map e_Li64 (xs84 ++ ([xs114] : List (List Int)))) false, .sl 1 (List.map e_i64 (xs85 ++ ([r1] : List Int))) false, .sl 1 (List.map e_Li64 ([xs114] : List (List Int))) false, .sl 1 (List.map e_i64 ([0, 0, 0, 0, 1, 2] : List Int)) false, .sl 1 (List.map e_i64 ([r1] : List Int)) false]) 3 0 (by kernel_rfl) ty29 (by kernel_rfl) (by kernel_rfl) (by kernel_rfl))) (by kernel_rfl) ?_
                  refine aTakeL (i := 14) (st' := []) (.ptr 3 1) rfl (by kernel_rfl) (by kernel_rfl) (by kernel_rfl) (by kernel_rfl) (by kernel_rfl) (by kernel_rfl) (by kernel_rfl) (PureV.quiet (k_fieldAddr 3 0 (by kernel_rfl) Try.underlying31 rfl ty22 (by kernel_rfl)) []) ?_
                  refine aOne (i := 15) (v := .undef) rfl (by kernel_rfl) (by kernel_rfl) (by kernel_rfl) (by kernel_rfl) (by kernel_rfl) (by kernel_rfl) (by kernel_rfl) (Does.acts (k_store (vs := [.ref 6 (List.length (xs85 ++ ([r1] : List Int))) 0 (List.length (xs85 ++ ([r1] : List Int)))]) (H' := [.box [.d (.lit (List.map e_i64 x)), .d (.int .i64 x21)], .box [.d (.int .i64 0), .d (.int .i64 0), .d (.lit (List.map e_SPart p2))], .box [.nilc, .nilc], .box [.ref 5 (List.length (xs84 ++ ([xs114] : List (List Int)))) 0 (List.length (xs84 ++ ([xs114] : List (List Int)))), .ref 6 (List.length (xs85 ++ ([r1] : List Int))) 0 (List.length (xs85 ++ ([r1] : List Int)))], .sl 1 (List.map e_i64 xs114) true, .sl 1 (List.map e_Li64 (xs84 ++ ([xs114] : List (List Int)))) false, .sl 1 (List.map e_i64 (xs85 ++ ([r1] : List Int))) false, .sl 1 (List.map e_Li64 ([xs114] : List (List Int))) false, .sl 1 (List.map e_i64 ([0, 0, 0, 0, 1, 2] : List Int)) false, .sl 1 (List.map e_i64 ([r1] : List Int)) false]) 3 1 (by kernel_rfl) ty22 (by kernel_rfl) (by kernel_rfl) (by kernel_rfl))) (by kernel_rfl) ?_
                  refine aDone (by kernel_rfl) ?_
                  refine oHead [0, 2, 4, 6, 7, 8] [0, 1, 2, 3, 5, 6] (T' := [(0, .ptr 0 0), (2, .d (.int .i64 0)), (4, .ptr 1 0), (6, .ptr 2 0), (7, .ptr 3 0), (8, .d (.int .i64 i4))]) (H' := [.box [.d (.lit (List.map e_i64 x)), .d (.int .i64 x21)], .box [.d (.int .i64 0), .d (.int .i64 0), .d (.lit (List.map e_SPart p2))], .box [.nilc, .nilc], .box [.ref 4 (List.length (xs84 ++ ([xs114] : List (List Int)))) 0 (List.length (xs84 ++ ([xs114] : List (List Int)))), .ref 5 (List.length (xs85 ++ ([r1] : List Int))) 0 (List.length (xs85 ++ ([r1] : List Int)))], .sl 1 (List.map e_Li64 (xs84 ++ ([xs114] : List (List Int)))) false, .sl 1 (List.map e_i64 (xs85 ++ ([r1] : List Int))) false]) (by kernel_rfl) (by kernel_rfl) (by kernel_rfl) (by kernel_rfl) (by decide) (by kernel_rfl) (by kernel_rfl) ?_
                  exact hj72 (x21, (xs85 ++ ([r1] : List Int)))
                · refine sOne (i := 8) (v := .ref 8 (List.length ([0, 0, 0, 0, 1, 2] : List Int)) 0 (List.length ([0, 0, 0, 0, 1, 2] : List Int))) rfl (by kernel_rfl) (by kernel_rfl) (by kernel_rfl) (by kernel_rfl) (by kernel_rfl) (Does.acts (k_buildSlice (H' := [.box [.d (.lit (List.map e_i64 x)), .d (.int .i64 x145)], .box [.d (.int .i64 0), .d (.int .i64 0), .d (.lit (List.map e_SPart p2))], .box [.nilc, .nilc], .box [.ref 5 (List.length xs84) 0 (List.length xs84), .ref 6 (List.length xs85) 0 (List.length xs85)], .sl 1 (List.map e_i64 xs114) true, .sl 1 (List.map e_Li64 xs84) false, .sl 1 (List.map e_i64 xs85) false, .sl 1 (List.map e_Li64 ([xs114] : List (List Int))) false, .sl 1 (List.map e_i64 ([0, 0, 0, 0, 1, 2] : List Int)) false]) (List.map e_i64 ([0, 0, 0, 0, 1, 2] : List Int)) Try.underlying22 ty3 (by kernel_rfl) (by kernel_rfl) (by kernel_rfl))) (by kernel_rfl) ?_
                  refine aOne (i := 4) (v := .ref 5 (List.length (xs84 ++ ([xs114] : List (List Int)))) 0 (List.length (xs84 ++ ([xs114] : List (List Int))))) rfl (by kernel_rfl) (by kernel_rfl) (by kernel_rfl) (by kernel_rfl) (by kernel_rfl) (by kernel_rfl) (by kernel_rfl) (Does.acts (k_append (H' := [.box [.d (.lit (List.map e_i64 x)), .d (.int .i64 x145)], .box [.d (.int .i64 0), .d (.int .i64 0), .d (.lit (List.map e_SPart p2))], .box [.nilc, .nilc], .box [.ref 5 (List.length xs84) 0 (List.length xs84), .ref 6 (List.length xs85) 0 (List.length xs85)], .sl 1 (List.map e_i64 xs114) true, .sl 1 (List.map e_Li64 (xs84 ++ ([xs114] : List (List Int)))) false, .sl 1 (List.map e_i64 xs85) false, .sl 1 (List.map e_Li64 ([xs114] : List (List Int))) false, .sl 1 (List.map e_i64 ([0, 0, 0, 0, 1, 2] : List Int)) false]) (enc := e_Li64) 5 xs84 ([xs114] : List (List Int)) Try.underlying29 Try.underlying29 ty22 (by kernel_rfl) (by kernel_rfl) (by kernel_rfl) (holdsRef (enc := e_Li64) 7 ([xs114] : List (List Int)) false (by kernel_rfl) (by kernel_rfl)) h18 (by kernel_rfl))) (by kernel_rfl) ?_
                  refine aTakeL (i := 12) (st' := []) (.ptr 3 0) rfl (by kernel_rfl) (by kernel_rfl) (by kernel_rfl) (by kernel_rfl) (by kernel_rfl) (by kernel_rfl) (by kernel_rfl) (PureV.quiet (k_fieldAddr 3 0 (by kernel_rfl) Try.underlying31 rfl ty29 (by kernel_rfl)) []) ?_
                  refine dCall (i := 9) (caps := []) (v := (uc fun (r1 : Int) => (fun (x21 : Int) => (.d (.int .i64 r1) : V)))) (H' := (uc fun (r1 : Int) => (fun (x21 : Int) => ([.box [.d (.lit (List.map e_i64 x)), .d (.int .i64 x21)], .box [.d (.int .i64 0), .d (.int .i64 0), .d (.lit (List.map e_SPart p2))], .box [.nilc, .nilc], .box [.ref 5 (List.length xs84) 0 (List.length xs84), .ref 6 (List.length xs85) 0 (List.length xs85)], .sl 1 (List.map e_i64 xs114) true, .sl 1 (List.map e_Li64 (xs84 ++ ([xs114] : List (List Int)))) false, .sl 1 (List.map e_i64 xs85) false, .sl 1 (List.map e_Li64 ([xs114] : List (List Int))) false, .sl 1 (List.map e_i64 ([0, 0, 0, 0, 1, 2] : List Int)) false] : List Blk)))) [0, 8] _ (make_Tape_Pick_goes k x x145 ([0, 0, 0, 0, 1, 2] : List Int)) rfl (by kernel_rfl) (by kernel_rfl) (by kernel_rfl) (by kernel_rfl) (by kernel_rfl) (by kernel_rfl) (by kernel_rfl) (by kernel_rfl) rfl (by kernel_rfl) Try.func43 rfl (by kernel_rfl) (ConvRs.refl _ _) (by kernel_rfl) (by kernel_rfl) (by kernel_rfl) (by decide) (by kernel_rfl) (by kernel_rfl) (fun _ => (by kernel_rfl)) (fun _ => (by kernel_rfl)) (fun _ => (by kernel_rfl)) (fun r => ?_)
                  obtain ⟨r1, x21⟩ := r
                  refine dUc ?_
                  refine aOne (i := 10) (v := .ref 9 (List.length ([r1] : List Int)) 0 (List.length ([r1] : List Int))) rfl (by kernel_rfl) (by kernel_rfl) (by kernel_rfl) (by kernel_rfl) (by kernel_rfl) (by kernel_rfl) (by kernel_rfl) (Does.acts (k_buildSlice (H' := [.box [.d (.lit (List.map e_i64 x)), .d (.int .i64 x21)], .box [.d (.int .i64 0), .d (.int .i64 0), .d (.lit (List.map e_SPart p2))], .box [.nilc, .nilc], .box [.ref 5 (List.length xs84) 0 (List.length xs84), .ref 6 (List.length xs85) 0 (List.length xs85)], .sl 1 (List.map e_i64 xs114) true, .sl 1 (List.map e_Li64 (xs84 ++ ([xs114] : List (List Int)))) false, .sl 1 (List.map e_i64 xs85) false, .sl 1 (List.map e_Li64 ([xs114] : List (List Int))) false, .sl 1 (List.map e_i64 ([0, 0, 0, 0, 1, 2] : List Int)) false, .sl 1 (List.map e_i64 ([r1] : List Int)) false]) (List.map e_i64 ([r1] : List Int)) Try.underlying22 ty3 (by kernel_rfl) (by kernel_rfl) (by kernel_rfl))) (by kernel_rfl) ?_
                  refine dCap (fun h19 => ?_)
                  refine aOne (i := 11) (v := .ref 6 (List.length (xs85 ++ ([r1] : List Int))) 0 (List.length (xs85 ++ ([r1] : List Int)))) rfl (by kernel_rfl) (by kernel_rfl) (by kernel_rfl) (by kernel_rfl) (by kernel_rfl) (by kernel_rfl) (by kernel_rfl) (Does.acts (k_append (H' := [.box [.d (.lit (List.map e_i64 x)), .d (.int .i64 x21)], .box [.d (.int .i64 0), .d (.int .i64 0), .d (.lit (List.map e_SPart p2))], .box [.nilc, .nilc], .box [.ref 5 (List.length xs84) 0 (List.length xs84), .ref 6 (List.length xs85) 0 (List.length xs85)], .sl 1 (List.map e_i64 xs114) true, .sl 1 (List.map e_Li64 (xs84 ++ ([xs114] : List (List Int)))) false, .sl 1 (List.map e_i64 (xs85 ++ ([r1] : List Int))) false, .sl 1 (List.map e_Li64 ([xs114] : List (List Int))) false, .sl 1 (List.map e_i64 ([0, 0, 0, 0, 1, 2] : List Int)) false, .sl 1 (List.map e_i64 ([r1] : List Int)) false]) (enc := e_i64) 6 xs85 ([r1] : List Int) Try.underlying22 Try.underlying22 ty3 (by kernel_rfl) (by kernel_rfl) (by kernel_rfl) (holdsRef (enc := e_i64) 9 ([r1] : List Int) false (by kernel_rfl) (by kernel_rfl)) h19 (by kernel_rfl))) (by kernel_rfl) ?_
                  refine aOne (i := 13) (v := .undef) rfl (by kernel_rfl) (by kernel_rfl) (by kernel_rfl) (by kernel_rfl) (by kernel_rfl) (by kernel_rfl) (by kernel_rfl) (Does.acts (k_store (vs := [.ref 5 (List.length (xs84 ++ ([xs114] : List (List Int)))) 0 (List.length (xs84 ++ ([xs114] : List (List Int))))]) (H' := [.box [.d (.lit (List.map e_i64 x)), .d (.int .i64 x21)], .box [.d (.int .i64 0), .d (.int .i64 0), .d (.lit (List.map e_SPart p2))], .box [.nilc, .nilc], .box [.ref 5 (List.length (xs84 ++ ([xs114] : List (List Int)))) 0 (List.length (xs84 ++ ([xs114] : List (List Int)))), .ref 6 (List.length xs85) 0 (List.length xs85)], .sl 1 (List.map e_i64 xs114) true, .sl 1 (List.map e_Li64 (xs84 ++ ([xs114] : List (List Int)))) false, .sl 1 (List.map e_i64 (xs85 ++ ([r1] : List Int))) false, .sl 1 (List.map e_Li64 ([xs114] : List (List Int))) false, .sl 1 (List.map e_i64 ([0, 0, 0, 0, 1, 2] : List Int)) false, .sl 1 (List.map e_i64 ([r1] : List Int)) false]) 3 0 (by kernel_rfl) ty29 (by kernel_rfl) (by kernel_rfl) (by kernel_rfl))) (by kernel_rfl) ?_
                  refine aTakeL (i := 14) (st' := []) (.ptr 3 1) rfl (by kernel_rfl) (by kernel_rfl) (by kernel_rfl) (by kernel_rfl) (by kernel_rfl) (by kernel_rfl) (by kernel_rfl) (PureV.quiet (k_fieldAddr 3 0 (by kernel_rfl) Try.underlying31 rfl ty22 (by kernel_rfl)) []) ?_
                  refine aOne (i := 15) (v := .undef) rfl (by kernel_rfl) (by kernel_rfl) (by kernel_rfl) (by kernel_rfl) (by kernel_rfl) (by kernel_rfl) (by kernel_rfl) (Does.acts (k_store (vs := [.ref 6 (List.length (xs85 ++ ([r1] : List Int))) 0 (List.length (xs85 ++ ([r1] : List Int)))]) (H' := [.box [.d (.lit (List.map e_i64 x)), .d (.int .i64 x21)], .box [.d (.int .i64 0), .d (.int .i64 0), .d (.lit (List.map e_SPart p2))], .box [.nilc, .nilc], .box [.ref 5 (List.length (xs84 ++ ([xs114] : List (List Int)))) 0 (List.length (xs84 ++ ([xs114] : List (List Int)))), .ref 6 (List.length (xs85 ++ ([r1] : List Int))) 0 (List.length (xs85 ++ ([r1] : List Int)))], .sl 1 (List.map e_i64 xs114) true, .sl 1 (List.map e_Li64 (xs84 ++ ([xs114] : List (List Int)))) false, .sl 1 (List.map e_i64 (xs85 ++ ([r1] : List Int))) false, .sl 1 (List.map e_Li64 ([xs114] : List (List Int))) false, .sl 1 (List.map e_i64 ([0, 0, 0, 0, 1, 2] : List Int)) false, .sl 1 (List.map e_i64 ([r1] : List Int)) false]) 3 1 (by kernel_rfl) ty22 (by kernel_rfl) (by kernel_rfl) (by kernel_rfl))) (by kernel_rfl) ?_
                  refine aDone (by kernel_rfl) ?_
                  refine oHead [0, 2, 4, 6, 7, 8] [0, 1, 2, 3, 5, 6] (T' := [(0, .ptr 0 0), (2, .d (.int .i64 0)), (4, .ptr 1 0), (6, .ptr 2 0), (7, .ptr 3 0), (8, .d (.int .i64 i4))]) (H' := [.box [.d (.lit (List.map e_i64 x)), .d (.int .i64 x21)], .box [.d (.int .i64 0), .d (.int .i64 0), .d (.lit (List.map e_SPart p2))], .box [.nilc, .nilc], .box [.ref 4 (List.length (xs84 ++ ([xs114] : List (List Int)))) 0 (List.length (xs84 ++ ([xs114] : List (List Int)))), .ref 5 (List.length (xs85 ++ ([r1] : List Int))) 0 (List.length (xs85 ++ ([r1] : List Int)))], .sl 1 (List.map e_Li64 (xs84 ++ ([xs114] : List (List Int)))) false, .sl 1 (List.map e_i64 (xs85 ++ ([r1] : List Int))) false]) (by kernel_rfl) (by kernel_rfl) (by kernel_rfl) (by kernel_rfl) (by decide) (by kernel_rfl) (by kernel_rfl) ?_
                  exact hj72 (x21, (xs85 ++ ([r1] : List Int)))
              · refine sOne (i := 8) (v := .ref 7 (List.length ([0, 0, 0, 0, 1, 2] : List Int)) 0 (List.length ([0, 0, 0, 0, 1, 2] : List Int))) rfl (by kernel_rfl) (by kernel_rfl) (by kernel_rfl) (by kernel_rfl) (by kernel_rfl) (Does.acts (k_buildSlice (H' := [.box [.d (.lit (List.map e_i64 x)), .d (.int .i64 x145)], .box [.d (.int .i64 0), .d (.int .i64 0), .d (.lit (List.map e_SPart p2))], .box [.nilc, .nilc], .box [.ref 5 (List.length xs84) 0 (List.length xs84), .ref 6 (List.length xs85) 0 (List.length xs85)], .sl 1 (List.map e_i64 xs114) true, .sl 1 (List.map e_Li64 xs84) false, .sl 1 (List.map e_i64 xs85) false, .sl 1 (List.map e_i64 ([0, 0, 0, 0, 1, 2] : List Int)) false]) (List.map e_i64 ([0, 0, 0, 0, 1, 2] : List Int)) Try.underlying22 ty3 (by kernel_rfl) (by kernel_rfl) (by kernel_rfl))) (by kernel_rfl) ?_
                refine aOne (i := 3) (v := .ref 8 (List.length ([xs114] : List (List Int))) 0 (List.length ([xs114] : List (List Int)))) rfl (by kernel_rfl) (by kernel_rfl) (by kernel_rfl) (by kernel_rfl) (by kernel_rfl) (by kernel_rfl) (by kernel_rfl) (Does.acts (k_buildSlice (H' := [.box [.d (.lit (List.map e_i64 x)), .d (.int .i64 x145)], .box [.d (.int .i64 0), .d (.int .i64 0), .d (.lit (List.map e_SPart p2))], .box [.nilc, .nilc], .box [.ref 5 (List.length xs84) 0 (List.length xs84), .ref 6 (List.length xs85) 0 (List.length xs85)], .sl 1 (List.map e_i64 xs114) true, .sl 1 (List.map e_Li64 xs84) false, .sl 1 (List.map e_i64 xs85) false, .sl 1 (List.map e_i64 ([0, 0, 0, 0, 1, 2] : List Int)) false, .sl 1 (List.map e_Li64 ([xs114] : List (List Int))) false]) (List.map e_Li64 ([xs114] : List (List Int))) Try.underlying29 ty22 (by kernel_rfl) (by kernel_rfl) (by kernel_rfl))) (by kernel_rfl) ?_
                refine dCap (fun h18 => ?_)
                refine aOne (i := 4) (v := .ref 5 (List.length (xs84 ++ ([xs114] : List (List Int)))) 0 (List.length (xs84 ++ ([xs114] : List (List Int))))) rfl (by kernel_rfl) (by kernel_rfl) (by kernel_rfl) (by kernel_rfl) (by kernel_rfl) (by kernel_rfl) (by kernel_rfl) (Does.acts (k_append (H' := [.box [.d (.lit (List.map e_i64 x)), .d (.int .i64 x145)], .box [.d (.int .i64 0), .d (.int .i64 0), .d (.lit (List.map e_SPart p2))], .box [.nilc, .nilc], .box [.ref 5 (List.length xs84) 0 (List.length xs84), .ref 6 (List.length xs85) 0 (List.length xs85)], .sl 1 (List.map e_i64 xs114) true, .sl 1 (List.map e_Li64 (xs84 ++ ([xs114] : List (List Int)))) false, .sl 1 (List.map e_i64 xs85) false, .sl 1 (List.map e_i64 ([0, 0, 0, 0, 1, 2] : List Int)) false, .sl 1 (List.map e_Li64 ([xs114] : List (List Int))) false]) (enc := e_Li64) 5 xs84 ([xs114] : List (List Int)) Try.underlying29 Try.underlying29 ty22 (by kernel_rfl) (by kernel_rfl) (by kernel_rfl) (holdsRef (enc := e_Li64) 8 ([xs114] : List (List Int)) false (by kernel_rfl) (by kernel_rfl)) h18 (by kernel_rfl))) (by kernel_rfl) ?_
                refine aTakeL (i := 12) (st' := []) (.ptr 3 0) rfl (by kernel_rfl) (by kernel_rfl) (by kernel_rfl) (by kernel_rfl) (by kernel_rfl) (by kernel_rfl) (by kernel_rfl) (PureV.quiet (k_fieldAddr 3 0 (by kernel_rfl) Try.underlying31 rfl ty29 (by kernel_rfl)) []) ?_
                refine dCall (i := 9) (caps := []) (v := (uc fun (r1 : Int) => (fun (x21 : Int) => (.d (.int .i64 r1) : V)))) (H' := (uc fun (r1 : Int) => (fun (x21 : Int) => ([.box [.d (.lit (List.map e_i64 x)), .d (.int .i64 x21)], .box [.d (.int .i64 0), .d (.int .i64 0), .d (.lit (List.map e_SPart p2))], .box [.nilc, .nilc], .box [.ref 5 (List.length xs84) 0 (List.length xs84), .ref 6 (List.length xs85) 0 (List.length xs85)], .sl 1 (List.map e_i64 xs114) true, .sl 1 (List.map e_Li64 (xs84 ++ ([xs114] : List (List Int)))) false, .sl 1 (List.map e_i64 xs85) false, .sl 1 (List.map e_i64 ([0, 0, 0, 0, 1, 2] : List Int)) false, .sl 1 (List.map e_Li64 ([xs114] : List (List Int))) false] : List Blk)))) [0, 7] _ (make_Tape_Pick_goes k x x145 ([0, 0, 0, 0, 1, 2] : List Int)) rfl (by kernel_rfl) (by kernel_rfl) (by kernel_rfl) (by kernel_rfl) (by kernel_rfl) (by kernel_rfl) (by kernel_rfl) (by kernel_rfl) rfl (by kernel_rfl) Try.func43 rfl (by kernel_rfl) (ConvRs.refl _ _) (by kernel_rfl) (by kernel_rfl) (by kernel_rfl) (by decide) (by kernel_rfl) (by kernel_rfl) (fun _ => (by kernel_rfl)) (fun _ => (by kernel_rfl)) (fun _ => (by kernel_rfl)) (fun r => ?_)
                obtain ⟨r1, x21⟩ := r
                refine dUc ?_
                refine aOne (i := 10) (v := .ref 9 (List.length ([r1] : List Int)) 0 (List.length ([r1] : List Int))) rfl (by kernel_rfl) (by kernel_rfl) (by kernel_rfl) (by kernel_rfl) (by kernel_rfl) (by kernel_rfl) (by kernel_rfl) (Does.acts (k_buildSlice (H' := [.box [.d (.lit (List.map e_i64 x)), .d (.int .i64 x21)], .box [.d (.int .i64 0), .d (.int .i64 0), .d (.lit (List.map e_SPart p2))], .box [.nilc, .nilc], .box [.ref 5 (List.length xs84) 0 (List.length xs84), .ref 6 (List.length xs85) 0 (List.length xs85)], .sl 1 (List.map e_i64 xs114) true, .sl 1 (List.map e_Li64 (xs84 ++ ([xs114] : List (List Int)))) false, .sl 1 (List.map e_i64 xs85) false, .sl 1 (List.map e_i64 ([0, 0, 0, 0, 1, 2] : List Int)) false, .sl 1 (List.map e_Li64 ([xs114] : List (List Int))) false, .sl 1 (List.map e_i64 ([r1] : List Int)) false]) (List.map e_i64 ([r1] : List Int)) Try.underlying22 ty3 (by kernel_rfl) (by kernel_rfl) (by kernel_rfl))) (by kernel_rfl) ?_
                refine dCap (fun h19 => ?_)
                refine aOne (i := 11) (v := .ref 6 (List.length (xs85 ++ ([r1] : List Int))) 0 (List.length (xs85 ++ ([r1] : List Int)))) rfl (by kernel_rfl) (by kernel_rfl) (by kernel_rfl) (by kernel_rfl) (by kernel_rfl) (by kernel_rfl) (by kernel_rfl) (Does.acts (k_append (H' := [.box [.d (.lit (List.map e_i64 x)), .d (.int .i64 x21)], .box [.d (.int .i64 0), .d (.int .i64 0), .d (.lit (List.map e_SPart p2))], .box [.nilc, .nilc], .box [.ref 5 (List.length xs84) 0 (List.length xs84), .ref 6 (List.length xs85) 0 (List.length xs85)], .sl 1 (List.map e_i64 xs114) true, .sl 1 (List.map e_Li64 (xs84 ++ ([xs114] : List (List Int)))) false, .sl 1 (List.map e_i64 (xs85 ++ ([r1] : List Int))) false, .sl 1 (List.map e_i64 ([0, 0, 0, 0, 1, 2] : List Int)) false, .sl 1 (List.map e_Li64 ([xs114] : List (List Int))) false, .sl 1 (List.map e_i64 ([r1] : List Int)) false]) (enc := e_i64) 6 xs85 ([r1] : List Int) Try.underlying22 Try.underlying22 ty3 (by kernel_rfl) (by kernel_rfl) (by kernel_rfl) (holdsRef (enc := e_i64) 9 ([r1] : List Int) false (by kernel_rfl) (by kernel_rfl)) h19 (by kernel_rfl))) (by kernel_rfl) ?_
                refine aOne (i := 13) (v := .undef) rfl (by kernel_rfl) (by kernel_rfl) (by kernel_rfl) (by kernel_rfl) (by kernel_rfl) (by kernel_rfl) (by kernel_rfl) (Does.acts (k_store (vs := [.ref 5 (List.length (xs84 ++ ([xs114] : List (List Int)))) 0 (List.length (xs84 ++ ([xs114] : List (List Int))))]) (H' := [.box [.d (.lit (List.map e_i64 x)), .d (.int .i64 x21)], .box [.d (.int .i64 0), .d (.int .i64 0), .d (.lit (List.map e_SPart p2))], .box [.nilc, .nilc], .box [.ref 5 (List.length (xs84 ++ ([xs114] : List (List Int)))) 0 (List.length (xs84 ++ ([xs114] : List (List Int)))), .ref 6 (List.length xs85) 0 (List.length xs85)], .sl 1 (List.map e_i64 xs114) true, .sl 1 (List.map e_Li64 (xs84 ++ ([xs114] : List (List Int)))) false, .sl 1 (List.map e_i64 (xs85 ++ ([r1] : List Int))) false, .sl 1 (List.map e_i64 ([0, 0, 0, 0, 1, 2] : List Int)) false, .sl 1 (List.map e_Li64 ([xs114] : List (List Int))) false, .sl 1 (List.map e_i64 ([r1] : List Int)) false]) 3 0 (by kernel_rfl) ty29 (by kernel_rfl) (by kernel_rfl) (by kernel_rfl))) (by kernel_rfl) ?_
                refine aTakeL (i := 14) (st' := []) (.ptr 3 1) rfl (by kernel_rfl) (by kernel_rfl) (by kernel_rfl) (by kernel_rfl) (by kernel_rfl) (by kernel_rfl) (by kernel_rfl) (PureV.quiet (k_fieldAddr 3 0 (by kernel_rfl) Try.underlying31 rfl ty22 (by kernel_rfl)) []) ?_
                refine aOne (i := 15) (v := .undef) rfl (by kernel_rfl) (by kernel_rfl) (by kernel_rfl) (by kernel_rfl) (by kernel_rfl) (by kernel_rfl) (by kernel_rfl) (Does.acts (k_store (vs := [.ref 6 (List.length (xs85 ++ ([r1] : List Int))) 0 (List.length (xs85 ++ ([r1] : List Int)))]) (H' := [.box [.d (.lit (List.map e_i64 x)), .d (.int .i64 x21)], .box [.d (.int .i64 0), .d (.int .i64 0), .d (.lit (List.map e_SPart p2))], .box [.nilc, .nilc], .box [.ref 5 (List.length (xs84 ++ ([xs114] : List (List Int)))) 0 (List.length (xs84 ++ ([xs114] : List (List Int)))), .ref 6 (List.length (xs85 ++ ([r1] : List Int))) 0 (List.length (xs85 ++ ([r1] : List Int)))], .sl 1 (List.map e_i64 xs114) true, .sl 1 (List.map e_Li64 (xs84 ++ ([xs114] : List (List Int)))) false, .sl 1 (List.map e_i64 (xs85 ++ ([r1] : List Int))) false, .sl 1 (List.map e_i64 ([0, 0, 0, 0, 1, 2] : List Int)) false, .sl 1 (List.map e_Li64 ([xs114] : List (List Int))) false, .sl 1 (List.map e_i64 ([r1] : List Int)) false]) 3 1 (by kernel_rfl) ty22 (by kernel_rfl) (by kernel_rfl) (by kernel_rfl))) (by kernel_rfl) ?_
                refine aDone (by kernel_rfl) ?_
                refine oHead [0, 2, 4, 6, 7, 8] [0, 1, 2, 3, 5, 6] (T' := [(0, .ptr 0 0), (2, .d (.int .i64 0)), (4, .ptr 1 0), (6, .ptr 2 0), (7, .ptr 3 0), (8, .d (.int .i64 i4))]) (H' := [.box [.d (.lit (List.map e_i64 x)), .d (.int .i64 x21)], .box [.d (.int .i64 0), .d (.int .i64 0), .d (.lit (List.map e_SPart p2))], .box [.nilc, .nilc], .box [.ref 4 (List.length (xs84 ++ ([xs114] : List (List Int)))) 0 (List.length (xs84 ++ ([xs114] : List (List Int)))), .ref 5 (List.length (xs85 ++ ([r1] : List Int))) 0 (List.length (xs85 ++ ([r1] : List Int)))], .sl 1 (List.map e_Li64 (xs84 ++ ([xs114] : List (List Int)))) false, .sl 1 (List.map e_i64 (xs85 ++ ([r1] : List Int))) false]) (by kernel_rfl) (by kernel_rfl) (by kernel_rfl) (by kernel_rfl) (by decide) (by kernel_rfl) (by kernel_rfl) ?_
                exact hj72 (x21, (xs85 ++ ([r1] : List Int)))
          · refine bSplit 30 (by kernel_rfl) (fun hc => ?_) (fun hc => ?_)
            · refine oCondT (by kernel_rfl) ?_
              refine oSeq ?_
              refine oRegion rfl ?_
              refine oOp (.d (.int .i64 0)) (by kernel_rfl) (by kernel_rfl) (PureV.does (p_assign (by kernel_rfl))) ?_
              refine oEnd ?_
              refine bJoin ((uc fun (x151 : Int) => (fun (xs120 : (List Int)) => [(0, .ptr 0 0), (2, .d (.int .i64 0)), (4, .ptr 1 0), (6, .ptr 2 0), (7, .ptr 3 0), (8, .d (.int .i64 i4)), (9, .ref 4 (List.length xs120) 0 (List.length xs120))]))) ((uc fun (x151 : Int) => (fun (xs120 : (List Int)) => [.box [.d (.lit (List.map e_i64 x)), .d (.int .i64 x151)], .box [.d (.int .i64 0), .d (.int .i64 0), .d (.lit (List.map e_SPart p2))], .box [.nilc, .nilc], .box [.ref 5 (List.length xs84) 0 (List.length xs84), .ref 6 (List.length xs85) 0 (List.length xs85)], .sl 1 (List.map e_i64 xs120) false, .sl 1 (List.map e_Li64 xs84) false, .sl 1 (List.map e_i64 xs85) false]))) (fun s => s) (fun s => ?_) (fun hj75 => ?_)
              · obtain ⟨x151, xs120⟩ := s
                refine bUc ?_
                refine oView (T' := [(0, .ptr 0 0), (2, .d (.int .i64 0)), (4, .ptr 1 0), (6, .ptr 2 0), (7, .ptr 3 0), (8, .d (.int .i64 i4)), (9, .ref 4 (List.length xs120) 0 (List.length xs120))]) (H' := [.box [.d (.lit (List.map e_i64 x)), .d (.int .i64 x151)], .box [.d (.int .i64 0), .d (.int .i64 0), .d (.lit (List.map e_SPart p2))], .box [.nilc, .nilc], .box [.ref 5 (List.length xs84) 0 (List.length xs84), .ref 6 (List.length xs85) 0 (List.length xs85)], .sl 1 (List.map e_i64 xs120) false, .sl 1 (List.map e_Li64 xs84) false, .sl 1 (List.map e_i64 xs85) false]) (by kernel_rfl) (by kernel_rfl) ?_
                refine oHead [0, 2, 4, 6, 7, 8, 9] [0, 1, 2, 3, 4, 5, 6] (T' := [(0, .ptr 0 0), (2, .d (.int .i64 0)), (4, .ptr 1 0), (6, .ptr 2 0), (7, .ptr 3 0), (8, .d (.int .i64 i4)), (9, .ref 4 (List.length xs120) 0 (List.length xs120))]) (H' := [.box [.d (.lit (List.map e_i64 x)), .d (.int .i64 x151)], .box [.d (.int .i64 0), .d (.int .i64 0), .d (.lit (List.map e_SPart p2))], .box [.nilc, .nilc], .box [.ref 5 (List.length xs84) 0 (List.length xs84), .ref 6 (List.length xs85) 0 (List.length xs85)], .sl 1 (List.map e_i64 xs120) false, .sl 1 (List.map e_Li64 xs84) false, .sl 1 (List.map e_i64 xs85) false]) (by kernel_rfl) (by kernel_rfl) (by kernel_rfl) (by kernel_rfl) (by decide) (by kernel_rfl) (by kernel_rfl) ?_
                exact hj71 (x151, xs120)
              · refine oBlock ?_
                refine oLoop ?_
                refine oVirt (esz := 1) 9 (by kernel_rfl) ?_
                refine oView (H' := [.box [.d (.lit (List.map e_i64 x)), .d (.int .i64 x139)], .box [.d (.int .i64 0), .d (.int .i64 0), .d (.lit (List.map e_SPart p2))], .box [.nilc, .nilc], .box [.ref 4 (List.length xs84) 0 (List.length xs84), .ref 5 (List.length xs85) 0 (List.length xs85)], .sl 1 (List.map e_Li64 xs84) false, .sl 1 (List.map e_i64 xs85) false, .sl 1 (List.map e_i64 ([] : List Int)) false]) rfl (by kernel_rfl) ?_
                refine oHead [0, 2, 4, 6, 7, 8, 9, 10] [0, 1, 2, 3, 6, 4, 5] (T' := [(0, .ptr 0 0), (2, .d (.int .i64 0)), (4, .ptr 1 0), (6, .ptr 2 0), (7, .ptr 3 0), (8, .d (.int .i64 i4)), (9, .ref 4 (List.length ([] : List Int)) 0 (List.length ([] : List Int))), (10, .d (.int .i64 0))]) (H' := [.box [.d (.lit (List.map e_i64 x)), .d (.int .i64 x139)], .box [.d (.int .i64 0), .d (.int .i64 0), .d (.lit (List.map e_SPart p2))], .box [.nilc, .nilc], .box [.ref 5 (List.length xs84) 0 (List.length xs84), .ref 6 (List.length xs85) 0 (List.length xs85)], .sl 1 (List.map e_i64 ([] : List Int)) false, .sl 1 (List.map e_Li64 xs84) false, .sl 1 (List.map e_i64 xs85) false]) (by kernel_rfl) (by kernel_rfl) (by kernel_rfl) (by kernel_rfl) (by decide) (by kernel_rfl) (by kernel_rfl) ?_
                refine bLoop (body := make_Tape_Scheme_2_b2 k p2 x i4) ((uc fun (k130 : Int) => (uc fun (x153 : Int) => (fun (xs122 : (List Int)) => [(0, .ptr 0 0), (2, .d (.int .i64 0)), (4, .ptr 1 0), (6, .ptr 2 0), (7, .ptr 3 0), (8, .d (.int .i64 i4)), (9, .ref 4 (List.length xs122) 0 (List.length xs122)), (10, .d (.int .i64 k130))])))) ((uc fun (k130 : Int) => (uc fun (x153 : Int) => (fun (xs122 : (List Int)) => [.box [.d (.lit (List.map e_i64 x)), .d (.int .i64 x153)], .box [.d (.int .i64 0), .d (.int .i64 0), .d (.lit (List.map e_SPart p2))], .box [.nilc, .nilc], .box [.ref 5 (List.length xs84) 0 (List.length xs84), .ref 6 (List.length xs85) 0 (List.length xs85)], .sl 1 (List.map e_i64 xs122) false, .sl 1 (List.map e_Li64 xs84) false, .sl 1 (List.map e_i64 xs85) false])))) (fun again hag2 s => ?_) k (0, x139, ([] : List Int))
                · unfold make_Tape_Scheme_2_b2
                  obtain ⟨k130, x153, xs122⟩ := s
                  refine bUc ?_
                  refine bUc ?_
                  refine oView (T' := [(0, .ptr 0 0), (2, .d (.int .i64 0)), (4, .ptr 1 0), (6, .ptr 2 0), (7, .ptr 3 0), (8, .d (.int .i64 i4)), (9, .ref 4 (List.length xs122) 0 (List.length xs122)), (10, .d (.int .i64 k130))]) (H' := [.box [.d (.lit (List.map e_i64 x)), .d (.int .i64 x153)], .box [.d (.int .i64 0), .d (.int .i64 0), .d (.lit (List.map e_SPart p2))], .box [.nilc, .nilc], .box [.ref 5 (List.length xs84) 0 (List.length xs84), .ref 6 (List.length xs85) 0 (List.length xs85)], .sl 1 (List.map e_i64 xs122) false, .sl 1 (List.map e_Li64 xs84) false, .sl 1 (List.map e_i64 xs85) false]) (by kernel_rfl) (by kernel_rfl) ?_
                  refine oSeq ?_
                  refine oSeq ?_
                  refine oRegion rfl ?_
                  refine oOp (.d (.int .i64 k130)) (by kernel_rfl) (by kernel_rfl) (PureV.does (p_move (by kernel_rfl))) ?_
                  refine oOp (.ptr 1 2) (by kernel_rfl) (by kernel_rfl) (PureV.does (k_fieldAddr 1 0 (by kernel_rfl) Try.underlying27 rfl ty25 (by kernel_rfl))) ?_
                  refine oOp (.d (.lit (List.map e_SPart p2))) (by kernel_rfl) (by kernel_rfl) (Quiet.does (k_load 1 2 (by kernel_rfl) Try.underlying25 (by kernel_rfl) (by kernel_rfl))) ?_
                  refine oOp (.d (.int .i64 i4)) (by kernel_rfl) (by kernel_rfl) (PureV.does (p_move (by kernel_rfl))) ?_
                  refine bIdx (fun e146 h1126 h1127 => ?_)
                  refine oOp (.lptr (e_SPart e146) 0) (by kernel_rfl) (by kernel_rfl) (PureV.does (k_idxLit e_SPart_len p2 (a := e146) (by kernel_rfl) (k := .i64) (i := i4) (by kernel_rfl) Try.underlying25 ty49 h1126 h1127)) ?_
                  refine oOp (.lptr (e_SPart e146) 4) (by kernel_rfl) (by kernel_rfl) (PureV.does (k_fieldAddrL (cells := e_SPart e146) 0 (by kernel_rfl) Try.underlying49 rfl ty3 (by kernel_rfl))) ?_
                  refine oOp (.d (.int .i64 e146.Options)) (by kernel_rfl) (by kernel_rfl) (Quiet.does (k_loadL (cells := e_SPart e146) 4 (by kernel_rfl) Try.underlying3 (by kernel_rfl) (by kernel_rfl))) ?_
                  refine oOp (.d (.bool (decide (k130 < e146.Options)))) (by kernel_rfl) (by kernel_rfl) (PureV.does (p_int (k := .i64) (p := k130) (q := e146.Options) (by kernel_rfl) (by kernel_rfl) (by kernel_rfl))) ?_
                  refine oEnd ?_
                  refine bSplit 38 (by kernel_rfl) (fun hc => ?_) (fun hc => ?_)
                  · refine oCondT (by kernel_rfl) ?_
                    refine oSkip ?_
                    refine oSeq ?_
                    refine bJoin ((uc fun (x156 : Int) => (fun (xs125 : (List Int)) => [(0, .ptr 0 0), (2, .d (.int .i64 0)), (4, .ptr 1 0), (6, .ptr 2 0), (7, .ptr 3 0), (8, .d (.int .i64 i4)), (9, .ref 4 (List.length xs125) 0 (List.length xs125)), (10, .d (.int .i64 k130))]))) ((uc fun (x156 : Int) => (fun (xs125 : (List Int)) => [.box [.d (.lit (List.map e_i64 x)), .d (.int .i64 x156)], .box [.d (.int .i64 0), .d (.int .i64 0), .d (.lit (List.map e_SPart p2))], .box [.nilc, .nilc], .box [.ref 5 (List.length xs84) 0 (List.length xs84), .ref 6 (List.length xs85) 0 (List.length xs85)], .sl 1 (List.map e_i64 xs125) false, .sl 1 (List.map e_Li64 xs84) false, .sl 1 (List.map e_i64 xs85) false]))) (fun s => s) (fun s => ?_) (fun hj78 => ?_)
                    · obtain ⟨x156, xs125⟩ := s
                      refine bUc ?_
                      refine oView (T' := [(0, .ptr 0 0), (2, .d (.int .i64 0)), (4, .ptr 1 0), (6, .ptr 2 0), (7, .ptr 3 0), (8, .d (.int .i64 i4)), (9, .ref 4 (List.length xs125) 0 (List.length xs125)), (10, .d (.int .i64 k130))]) (H' := [.box [.d (.lit (List.map e_i64 x)), .d (.int .i64 x156)], .box [.d (.int .i64 0), .d (.int .i64 0), .d (.lit (List.map e_SPart p2))], .box [.nilc, .nilc], .box [.ref 5 (List.length xs84) 0 (List.length xs84), .ref 6 (List.length xs85) 0 (List.length xs85)], .sl 1 (List.map e_i64 xs125) false, .sl 1 (List.map e_Li64 xs84) false, .sl 1 (List.map e_i64 xs85) false]) (by kernel_rfl) (by kernel_rfl) ?_
                      refine oRegion rfl ?_
                      refine oOp (.d (.int .i64 k130)) (by kernel_rfl) (by kernel_rfl) (PureV.does (p_move (by kernel_rfl))) ?_
                      refine oOp (.d (.int .i64 (IntKind.wrap .i64 (k130 + 1)))) (by kernel_rfl) (by kernel_rfl) (PureV.does (p_int (k := .i64) (p := k130) (q := 1) (by kernel_rfl) (by kernel_rfl) (by kernel_rfl))) ?_
                      refine oOp (.d (.int .i64 (IntKind.wrap .i64 (k130 + 1)))) (by kernel_rfl) (by kernel_rfl) (PureV.does (p_assign (by kernel_rfl))) ?_
                      refine oEnd ?_
                      refine oAgain ?_
                      refine oHead [0, 2, 4, 6, 7, 8, 9, 10] [0, 1, 2, 3, 4, 5, 6] (T' := [(0, .ptr 0 0), (2, .d (.int .i64 0)), (4, .ptr 1 0), (6, .ptr 2 0), (7, .ptr 3 0), (8, .d (.int .i64 i4)), (9, .ref 4 (List.length xs125) 0 (List.length xs125)), (10, .d (.int .i64 (IntKind.wrap .i64 (k130 + 1))))]) (H' := [.box [.d (.lit (List.map e_i64 x)), .d (.int .i64 x156)], .box [.d (.int .i64 0), .d (.int .i64 0), .d (.lit (List.map e_SPart p2))], .box [.nilc, .nilc], .box [.ref 5 (List.length xs84) 0 (List.length xs84), .ref 6 (List.length xs85) 0 (List.length xs85)], .sl 1 (List.map e_i64 xs125) false, .sl 1 (List.map e_Li64 xs84) false, .sl 1 (List.map e_i64 xs85) false]) (by kernel_rfl) (by kernel_rfl) (by kernel_rfl) (by kernel_rfl) (by decide) (by kernel_rfl) (by kernel_rfl) ?_
                      exact hag2 ((IntKind.wrap .i64 (k130 + 1)), x156, xs125)
                    · refine oBlock ?_
                      refine oSeq ?_
                      refine oRegion rfl ?_
                      refine oOp (.ptr 0 0) (by kernel_rfl) (by kernel_rfl) (PureV.does (p_move (by kernel_rfl))) ?_
                      refine bCall (caps := []) (v := (uc fun (r1247 : Int) => (fun (x348 : Int) => (.d (.int .i64 r1247) : V)))) (H' := (uc fun (r1247 : Int) => (fun (x348 : Int) => ([.box [.d (.lit (List.map e_i64 x)), .d (.int .i64 x348)], .box [.d (.int .i64 0), .d (.int .i64 0), .d (.lit (List.map e_SPart p2))], .box [.nilc, .nilc], .box [.ref 5 (List.length xs84) 0 (List.length xs84), .ref 6 (List.length xs85) 0 (List.length xs85)], .sl 1 (List.map e_i64 xs122) false, .sl 1 (List.map e_Li64 xs84) false, .sl 1 (List.map e_i64 xs85) false] : List Blk)))) [0] _ (make_Tape_Next_goes k 2 x x153) (by kernel_rfl) (by kernel_rfl) rfl (by kernel_rfl) Try.func39 rfl (by kernel_rfl) (ConvRs.refl _ _) (by kernel_rfl) (by kernel_rfl) (by kernel_rfl) (by decide) (by kernel_rfl) (by kernel_rfl) (fun _ => (by kernel_rfl)) (fun _ => (by kernel_rfl)) (fun _ => (by kernel_rfl)) (fun r => ?_)
                      obtain ⟨r1247, x348⟩ := r
                      refine bUc ?_
                      refine oOp (.d (.bool (r1247 == 0))) (by kernel_rfl) (by kernel_rfl) (PureV.does (p_int (k := .i64) (p := r1247) (q := 0) (by kernel_rfl) (by kernel_rfl) (by kernel_rfl))) ?_
                      refine oEnd ?_
                      refine bSplit 43 (by kernel_rfl) (fun hc => ?_) (fun hc => ?_)
                      · refine oCondT (by kernel_rfl) ?_
                        refine oRegion rfl ?_
                        refine oOp (.ref 4 (List.length xs122) 0 (List.length xs122)) (by kernel_rfl) (by kernel_rfl) (PureV.does (p_move (by kernel_rfl))) ?_
                        refine oOp (.d (.int .i64 k130)) (by kernel_rfl) (by kernel_rfl) (PureV.does (p_move (by kernel_rfl))) ?_
                        refine oOp (.ref 7 (List.length ([k130] : List Int)) 0 (List.length ([k130] : List Int))) (by kernel_rfl) (by kernel_rfl) (k_buildSlice (H' := [.box [.d (.lit (List.map e_i64 x)), .d (.int .i64 x348)], .box [.d (.int .i64 0), .d (.int .i64 0), .d (.lit (List.map e_SPart p2))], .box [.nilc, .nilc], .box [.ref 5 (List.length xs84) 0 (List.length xs84), .ref 6 (List.length xs85) 0 (List.length xs85)], .sl 1 (List.map e_i64 xs122) false, .sl 1 (List.map e_Li64 xs84) false, .sl 1 (List.map e_i64 xs85) false, .sl 1 (List.map e_i64 ([k130] : List Int)) false]) (List.map e_i64 ([k130] : List Int)) Try.underlying22 ty3 (by kernel_rfl) (by kernel_rfl) (by kernel_rfl)) ?_
                        refine bCap (fun h1129 => ?_)
                        refine oOp (.ref 4 (List.length (xs122 ++ ([k130] : List Int))) 0 (List.length (xs122 ++ ([k130] : List Int)))) (by kernel_rfl) (by kernel_rfl) (k_append (H' := [.box [.d (.lit (List.map e_i64 x)), .d (.int .i64 x348)], .box [.d (.int .i64 0), .d (.int .i64 0), .d (.lit (List.map e_SPart p2))], .box [.nilc, .nilc], .box [.ref 5 (List.length xs84) 0 (List.length xs84), .ref 6 (List.length xs85) 0 (List.length xs85)], .sl 1 (List.map e_i64 (xs122 ++ ([k130] : List Int))) false, .sl 1 (List.map e_Li64 xs84) false, .sl 1 (List.map e_i64 xs85) false, .sl 1 (List.map e_i64 ([k130] : List Int)) false]) (enc := e_i64) 4 xs122 ([k130] : List Int) Try.underlying22 Try.underlying22 ty3 (by kernel_rfl) (by kernel_rfl) (by kernel_rfl) (holdsRef (enc := e_i64) 7 ([k130] : List Int) false (by kernel_rfl) (by kernel_rfl)) h1129 (by kernel_rfl)) ?_
                        refine oOp (.ref 4 (List.length (xs122 ++ ([k130] : List Int))) 0 (List.length (xs122 ++ ([k130] : List Int)))) (by kernel_rfl) (by kernel_rfl) (PureV.does (p_assign (by kernel_rfl))) ?_
                        refine oEnd ?_
                        refine oBlk ?_
                        refine oHead [0, 2, 4, 6, 7, 8, 9, 10] [0, 1, 2, 3, 4, 5, 6] (T' := [(0, .ptr 0 0), (2, .d (.int .i64 0)), (4, .ptr 1 0), (6, .ptr 2 0), (7, .ptr 3 0), (8, .d (.int .i64 i4)), (9, .ref 4 (List.length (xs122 ++ ([k130] : List Int))) 0 (List.length (xs122 ++ ([k130] : List Int)))), (10, .d (.int .i64 k130))]) (H' := [.box [.d (.lit (List.map e_i64 x)), .d (.int .i64 x348)], .box [.d (.int .i64 0), .d (.int .i64 0), .d (.lit (List.map e_SPart p2))], .box [.nilc, .nilc], .box [.ref 5 (List.length xs84) 0 (List.length xs84), .ref 6 (List.length xs85) 0 (List.length xs85)], .sl 1 (List.map e_i64 (xs122 ++ ([k130] : List Int))) false, .sl 1 (List.map e_Li64 xs84) false, .sl 1 (List.map e_i64 xs85) false]) (by kernel_rfl) (by kernel_rfl) (by kernel_rfl) (by kernel_rfl) (by decide) (by kernel_rfl) (by kernel_rfl) ?_
                        exact hj78 (x348, (xs122 ++ ([k130] : List Int)))
                      · refine oCondF (by kernel_rfl) ?_
                        refine oSkip ?_
                        refine oBlk ?_
                        refine oHead [0, 2, 4, 6, 7, 8, 9, 10] [0, 1, 2, 3, 4, 5, 6] (T' := [(0, .ptr 0 0), (2, .d (.int .i64 0)), (4, .ptr 1 0), (6, .ptr 2 0), (7, .ptr 3 0), (8, .d (.int .i64 i4)), (9, .ref 4 (List.length xs122) 0 (List.length xs122)), (10, .d (.int .i64 k130))]) (H' := [.box [.d (.lit (List.map e_i64 x)), .d (.int .i64 x348)], .box [.d (.int .i64 0), .d (.int .i64 0), .d (.lit (List.map e_SPart p2))], .box [.nilc, .nilc], .box [.ref 5 (List.length xs84) 0 (List.length xs84), .ref 6 (List.length xs85) 0 (List.length xs85)], .sl 1 (List.map e_i64 xs122) false, .sl 1 (List.map e_Li64 xs84) false, .sl 1 (List.map e_i64 xs85) false]) (by kernel_rfl) (by kernel_rfl) (by kernel_rfl) (by kernel_rfl) (by decide) (by kernel_rfl) (by kernel_rfl) ?_
                        exact hj78 (x348, xs122)
                  · refine oCondF (by kernel_rfl) ?_
                    refine oExit rfl ?_
                    refine oHead [0, 2, 4, 6, 7, 8, 9] [0, 1, 2, 3, 4, 5, 6] (T' := [(0, .ptr 0 0), (2, .d (.int .i64 0)), (4, .ptr 1 0), (6, .ptr 2 0), (7, .ptr 3 0), (8, .d (.int .i64 i4)), (9, .ref 4 (List.length xs122) 0 (List.length xs122))]) (H' := [.box [.d (.lit (List.map e_i64 x)), .d (.int .i64 x153)], .box [.d (.int .i64 0), .d (.int .i64 0), .d (.lit (List.map e_SPart p2))], .box [.nilc, .nilc], .box [.ref 5 (List.length xs84) 0 (List.length xs84), .ref 6 (List.length xs85) 0 (List.length xs85)], .sl 1 (List.map e_i64 xs122) false, .sl 1 (List.map e_Li64 xs84) false, .sl 1 (List.map e_i64 xs85) false]) (by kernel_rfl) (by kernel_rfl) (by kernel_rfl) (by kernel_rfl) (by decide) (by kernel_rfl) (by kernel_rfl) ?_
                    exact hj75 (x153, xs122)
            · refine oCondF (by kernel_rfl) ?_
              refine oSkip ?_
              refine oVirt (esz := 1) 9 (by kernel_rfl) ?_
              refine oView (H' := [.box [.d (.lit (List.map e_i64 x)), .d (.int .i64 x139)], .box [.d (.int .i64 0), .d (.int .i64 0), .d (.lit (List.map e_SPart p2))], .box [.nilc, .nilc], .box [.ref 4 (List.length xs84) 0 (List.length xs84), .ref 5 (List.length xs85) 0 (List.length xs85)], .sl 1 (List.map e_Li64 xs84) false, .sl 1 (List.map e_i64 xs85) false, .sl 1 (List.map e_i64 ([] : List Int)) false]) rfl (by kernel_rfl) ?_
              refine oHead [0, 2, 4, 6, 7, 8, 9] [0, 1, 2, 3, 6, 4, 5] (T' := [(0, .ptr 0 0), (2, .d (.int .i64 0)), (4, .ptr 1 0), (6, .ptr 2 0), (7, .ptr 3 0), (8, .d (.int .i64 i4)), (9, .ref 4 (List.length ([] : List Int)) 0 (List.length ([] : List Int)))]) (H' := [.box [.d (.lit (List.map e_i64 x)), .d (.int .i64 x139)], .box [.d (.int .i64 0), .d (.int .i64 0), .d (.lit (List.map e_SPart p2))], .box [.nilc, .nilc], .box [.ref 5 (List.length xs84) 0 (List.length xs84), .ref 6 (List.length xs85) 0 (List.length xs85)], .sl 1 (List.map e_i64 ([] : List Int)) false, .sl 1 (List.map e_Li64 xs84) false, .sl 1 (List.map e_i64 xs85) false]) (by kernel_rfl) (by kernel_rfl) (by kernel_rfl) (by kernel_rfl) (by decide) (by kernel_rfl) (by kernel_rfl) ?_
              exact hj71 (x139, ([] : List Int))
        · refine bSplit 26 (by kernel_rfl) (fun hc => ?_) (fun hc => ?_)
          · refine oOp (.ptr 0 0) (by kernel_rfl) (by kernel_rfl) (PureV.does (p_move (by kernel_rfl))) ?_
            refine bCall (caps := []) (v := (uc fun (r1248 : Int) => (fun (x349 : Int) => (.d (.int .i64 r1248) : V)))) (H' := (uc fun (r1248 : Int) => (fun (x349 : Int) => ([.box [.d (.lit (List.map e_i64 x)), .d (.int .i64 x349)], .box [.d (.int .i64 0), .d (.int .i64 0), .d (.lit (List.map e_SPart p2))], .box [.nilc, .nilc], .box [.ref 4 (List.length xs84) 0 (List.length xs84), .ref 5 (List.length xs85) 0 (List.length xs85)], .sl 1 (List.map e_Li64 xs84) false, .sl 1 (List.map e_i64 xs85) false] : List Blk)))) [0] _ (make_Tape_Next_goes k 3 x x109) (by kernel_rfl) (by kernel_rfl) rfl (by kernel_rfl) Try.func39 rfl (by kernel_rfl) (ConvRs.refl _ _) (by kernel_rfl) (by kernel_rfl) (by kernel_rfl) (by decide) (by kernel_rfl) (by kernel_rfl) (fun _ => (by kernel_rfl)) (fun _ => (by kernel_rfl)) (fun _ => (by kernel_rfl)) (fun r => ?_)
            obtain ⟨r1248, x349⟩ := r
            refine bUc ?_
            refine oOp (.d (.bool (r1248 == 0))) (by kernel_rfl) (by kernel_rfl) (PureV.does (p_int (k := .i64) (p := r1248) (q := 0) (by kernel_rfl) (by kernel_rfl) (by kernel_rfl))) ?_
            refine oOp (.d (.bool (r1248 == 0))) (by kernel_rfl) (by kernel_rfl) (PureV.does (p_pick (b := true) (by kernel_rfl) (by kernel_rfl))) ?_
            refine oHead [0, 2, 4, 6, 7, 8, 9, 30] [0, 1, 2, 3, 4, 5] (T' := [(0, .ptr 0 0), (2, .d (.int .i64 0)), (4, .ptr 1 0), (6, .ptr 2 0), (7, .ptr 3 0), (8, .d (.int .i64 i4)), (9, .nilc), (30, .d (.bool (r1248 == 0)))]) (H' := [.box [.d (.lit (List.map e_i64 x)), .d (.int .i64 x349)], .box [.d (.int .i64 0), .d (.int .i64 0), .d (.lit (List.map e_SPart p2))], .box [.nilc, .nilc], .box [.ref 4 (List.length xs84) 0 (List.length xs84), .ref 5 (List.length xs85) 0 (List.length xs85)], .sl 1 (List.map e_Li64 xs84) false, .sl 1 (List.map e_i64 xs85) false]) (by kernel_rfl) (by kernel_rfl) (by kernel_rfl) (by kernel_rfl) (by decide) (by kernel_rfl) (by kernel_rfl) ?_
            exact hj79 ((r1248 == 0), x349)
          · refine oNot (by kernel_rfl) (by kernel_rfl) ?_
            refine oNot (by kernel_rfl) (by kernel_rfl) ?_
            refine oNot (by kernel_rfl) (by kernel_rfl) ?_
            refine oOp (.d (.bool false)) (by kernel_rfl) (by kernel_rfl) (PureV.does (p_pick (b := false) (by kernel_rfl) (by kernel_rfl))) ?_
            refine oHead [0, 2, 4, 6, 7, 8, 9, 30] [0, 1, 2, 3, 4, 5] (T' := [(0, .ptr 0 0), (2, .d (.int .i64 0)), (4, .ptr 1 0), (6, .ptr 2 0), (7, .ptr 3 0), (8, .d (.int .i64 i4)), (9, .nilc), (30, .d (.bool false))]) (H' := [.box [.d (.lit (List.map e_i64 x)), .d (.int .i64 x109)], .box [.d (.int .i64 0), .d (.int .i64 0), .d (.lit (List.map e_SPart p2))], .box [.nilc, .nilc], .box [.ref 4 (List.length xs84) 0 (List.length xs84), .ref 5 (List.length xs85) 0 (List.length xs85)], .sl 1 (List.map e_Li64 xs84) false, .sl 1 (List.map e_i64 xs85) false]) (by kernel_rfl) (by kernel_rfl) (by kernel_rfl) (by kernel_rfl) (by decide) (by kernel_rfl) (by kernel_rfl) ?_
            exact hj79 (false, x109)
      · refine oCondF (by kernel_rfl) ?_
        refine oExit rfl ?_
        refine oHead [0, 2, 6, 7] [0, 2, 3, 4, 5] (T' := [(0, .ptr 0 0), (2, .d (.int .i64 0)), (6, .ptr 1 0), (7, .ptr 2 0)]) (H' := [.box [.d (.lit (List.map e_i64 x)), .d (.int .i64 x109)], .box [.nilc, .nilc], .box [.ref 3 (List.length xs84) 0 (List.length xs84), .ref 4 (List.length xs85) 0 (List.length xs85)], .sl 1 (List.map e_Li64 xs84) false, .sl 1 (List.map e_i64 xs85) false]) (by kernel_rfl) (by kernel_rfl) (by kernel_rfl) (by kernel_rfl) (by decide) (by kernel_rfl) (by kernel_rfl) ?_
        exact hj42 (x109, xs84, xs85)

/-- awardingbody/item.in -/
def item_in (k : Nat) (n : Int) (least : Int) (most : Int) : Option (Bool) := blet ((decide (n ≥ least)) && (decide (n ≤ most))) fun x1 => some x1
def item_in_E (n : Int) (least : Int) (most : Int) : Bool → V × List Blk := fun r1 => (.d (.bool r1), [])
theorem item_in_goes (k : Nat) (n : Int) (least : Int) (most : Int) : RunsO Try.prog 59 [.d (.int .i64 n), .d (.int .i64 least), .d (.int .i64 most)] [] (item_in_E n least most) (item_in k n least most) := by
  refine RunsO.of_goes (N := 15) (m := 0) (T := [(0, .d (.int .i64 n)), (1, .d (.int .i64 least)), (2, .d (.int .i64 most))]) Try.func59 rfl rfl (by kernel_rfl) (by kernel_rfl) (by kernel_rfl) ?_
  unfold item_in
  refine bStart ?_
  refine oSeq ?_
  refine oRegion rfl ?_
  refine oOp (.d (.bool false)) (by kernel_rfl) (by kernel_rfl) (PureV.does (p_assign (by kernel_rfl))) ?_
  refine oEnd ?_
  refine oSeq ?_
  refine oRegion rfl ?_
  refine oOp (.d (.int .i64 n)) (by kernel_rfl) (by kernel_rfl) (PureV.does (p_move (by kernel_rfl))) ?_
  refine oOp (.d (.int .i64 least)) (by kernel_rfl) (by kernel_rfl) (PureV.does (p_move (by kernel_rfl))) ?_
  refine oOp (.d (.bool (decide (n ≥ least)))) (by kernel_rfl) (by kernel_rfl) (PureV.does (p_int (k := .i64) (p := n) (q := least) (by kernel_rfl) (by kernel_rfl) (by kernel_rfl))) ?_
  refine oOp (.d (.bool (decide (n ≥ least)))) (by kernel_rfl) (by kernel_rfl) (PureV.does (p_move (by kernel_rfl))) ?_
  refine bMeetF (H' := []) 4 rfl ((fun (x1 : Bool) => [(14, .d (.bool x1))])) (fun x1 => ?_) (fun F hj1 => ?_)
  · refine oView (T' := [(14, .d (.bool x1))]) (H' := []) (by kernel_rfl) (by kernel_rfl) ?_
    refine oOp (.d (.bool x1)) (by kernel_rfl) (by kernel_rfl) (PureV.does (p_assign (by kernel_rfl))) ?_
    refine oEnd ?_
    exact oRet (r0 := x1) (rv := .d (.bool x1)) (B := []) (vs := [.d (.bool x1)]) (σ := []) (by kernel_rfl) Try.func59 rfl (.cons _ _ _ _ (.tmp 6 _ (by kernel_rfl)) .nil) (by kernel_rfl) (by kernel_rfl) (by kernel_rfl) (by kernel_rfl) (by decide) (by kernel_rfl) (by kernel_rfl)
  · refine bPickF 10 (fun c => F (c && (decide (n ≤ most)))) (by kernel_rfl) (fun hc => ?_) (fun hc => ?_)
    · refine oOp (.d (.int .i64 n)) (by kernel_rfl) (by kernel_rfl) (PureV.does (p_move (by kernel_rfl))) ?_
      refine oOp (.d (.int .i64 most)) (by kernel_rfl) (by kernel_rfl) (PureV.does (p_move (by kernel_rfl))) ?_
      refine oOp (.d (.bool (decide (n ≤ most)))) (by kernel_rfl) (by kernel_rfl) (PureV.does (p_int (k := .i64) (p := n) (q := most) (by kernel_rfl) (by kernel_rfl) (by kernel_rfl))) ?_
      refine oOp (.d (.bool (decide (n ≤ most)))) (by kernel_rfl) (by kernel_rfl) (PureV.does (p_pick (b := true) (by kernel_rfl) (by kernel_rfl))) ?_
      refine oHead [14] [] (T' := [(14, .d (.bool (decide (n ≤ most))))]) (H' := []) (by kernel_rfl) (by kernel_rfl) (by kernel_rfl) (by kernel_rfl) (by decide) (by kernel_rfl) (by kernel_rfl) ?_
      exact hj1 (decide (n ≤ most))
    · refine oNot (by kernel_rfl) (by kernel_rfl) ?_
      refine oNot (by kernel_rfl) (by kernel_rfl) ?_
      refine oNot (by kernel_rfl) (by kernel_rfl) ?_
      refine oOp (.d (.bool false)) (by kernel_rfl) (by kernel_rfl) (PureV.does (p_pick (b := false) (by kernel_rfl) (by kernel_rfl))) ?_
      refine oHead [14] [] (T' := [(14, .d (.bool false))]) (H' := []) (by kernel_rfl) (by kernel_rfl) (by kernel_rfl) (by kernel_rfl) (by decide) (by kernel_rfl) (by kernel_rfl) ?_
      exact hj1 false

/-- awardingbody/item.ValidPart -/
def item_ValidPart (k : Nat) (p0 : Int) (p1 : Int) (p2 : Int) (p3 : Int) (p4 : Int) (p5 : Int) : Option (Bool) := Option.bind (item_in k p1 1 40) (fun r112 => Option.bind (bif (!r112) then some true else Option.bind (item_in k p2 0 15) (fun r125 => some (!r125)) : Option (Bool)) (fun x9 => Option.bind (bif x9 then some true else Option.bind (item_in k p3 0 5) (fun r124 => some (!r124)) : Option (Bool)) (fun x10 => bif x10 then some false else bif (p0 == 1) then blet ((p4 == 0) && (p5 == 0)) fun x15 => some x15 else bif (p0 == 2) then Option.bind (item_in k p4 2 5) (fun r121 => Option.bind (bif r121 then Option.bind (item_in k p5 0 (IntKind.wrap .i64 (p4 - 1))) (fun r123 => some r123) else some false : Option (Bool)) (fun x17 => some x17)) else some false)))
def item_ValidPart_E (p0 : Int) (p1 : Int) (p2 : Int) (p3 : Int) (p4 : Int) (p5 : Int) : Bool → V × List Blk := fun r111 => (.d (.bool r111), [])
theorem item_ValidPart_goes (k : Nat) (p0 : Int) (p1 : Int) (p2 : Int) (p3 : Int) (p4 : Int) (p5 : Int) : RunsO Try.prog 67 [.agg [.d (.int .i64 p0), .d (.int .i64 p1), .d (.int .i64 p2), .d (.int .i64 p3), .d (.int .i64 p4), .d (.int .i64 p5)]] [] (item_ValidPart_E p0 p1 p2 p3 p4 p5) (item_ValidPart k p0 p1 p2 p3 p4 p5) := by
  refine RunsO.of_goes (N := 44) (m := 0) (T := [(0, .agg [.d (.int .i64 p0), .d (.int .i64 p1), .d (.int .i64 p2), .d (.int .i64 p3), .d (.int .i64 p4), .d (.int .i64 p5)])]) Try.func67 rfl rfl (by kernel_rfl) (by kernel_rfl) (by kernel_rfl) ?_
  unfold item_ValidPart
  refine bStart ?_
  refine oSeq ?_
  refine oRegion rfl ?_
  refine oOp (.ptr 0 0) (by kernel_rfl) (by kernel_rfl) (k_box (H' := [.box [.d (.int .i64 p0), .d (.int .i64 p1), .d (.int .i64 p2), .d (.int .i64 p3), .d (.int .i64 p4), .d (.int .i64 p5)]]) (cells := [.d (.int .i64 p0), .d (.int .i64 p1), .d (.int .i64 p2), .d (.int .i64 p3), .d (.int .i64 p4), .d (.int .i64 p5)]) (by kernel_rfl) (by kernel_rfl) (by kernel_rfl)) ?_
  refine oOp (.d (.bool false)) (by kernel_rfl) (by kernel_rfl) (PureV.does (p_assign (by kernel_rfl))) ?_
  refine oEnd ?_
  refine oSeq ?_
  refine oSeq ?_
  refine oRegion rfl ?_
  refine oOp (.ptr 0 1) (by kernel_rfl) (by kernel_rfl) (PureV.does (k_fieldAddr 0 0 (by kernel_rfl) Try.underlying49 rfl ty3 (by kernel_rfl))) ?_
  refine oOp (.d (.int .i64 p1)) (by kernel_rfl) (by kernel_rfl) (Quiet.does (k_load 0 1 (by kernel_rfl) Try.underlying3 (by kernel_rfl) (by kernel_rfl))) ?_
  refine bCall (caps := []) (v := (fun (r112 : Bool) => (.d (.bool r112) : V))) (H' := (fun (r112 : Bool) => ([.box [.d (.int .i64 p0), .d (.int .i64 p1), .d (.int .i64 p2), .d (.int .i64 p3), .d (.int .i64 p4), .d (.int .i64 p5)]] : List Blk))) [] _ (item_in_goes k p1 1 40) (by kernel_rfl) (by kernel_rfl) rfl (by kernel_rfl) Try.func59 rfl (by kernel_rfl) (ConvRs.refl _ _) (by kernel_rfl) (by kernel_rfl) (by kernel_rfl) (by decide) (by kernel_rfl) (by kernel_rfl) (fun _ => (by kernel_rfl)) (fun _ => (by kernel_rfl)) (fun _ => (by kernel_rfl)) (fun r112 => ?_)
  refine oOp (.d (.bool (!r112))) (by kernel_rfl) (by kernel_rfl) (PureV.does (p_not (p := r112) (by kernel_rfl) (by kernel_rfl))) ?_
  refine oOp (.d (.bool (!r112))) (by kernel_rfl) (by kernel_rfl) (PureV.does (p_move (by kernel_rfl))) ?_
  refine bMeet 5 rfl ((fun (x9 : Bool) => [(1, .ptr 0 0), (12, .d (.bool x9))])) ((fun (x9 : Bool) => [.box [.d (.int .i64 p0), .d (.int .i64 p1), .d (.int .i64 p2), .d (.int .i64 p3), .d (.int .i64 p4), .d (.int .i64 p5)]])) (fun s => s) (fun x9 => ?_) (fun hj4 => ?_)
  · refine oView (T' := [(1, .ptr 0 0), (12, .d (.bool x9))]) (H' := [.box [.d (.int .i64 p0), .d (.int .i64 p1), .d (.int .i64 p2), .d (.int .i64 p3), .d (.int .i64 p4), .d (.int .i64 p5)]]) (by kernel_rfl) (by kernel_rfl) ?_
    refine oOp (.d (.bool x9)) (by kernel_rfl) (by kernel_rfl) (PureV.does (p_move (by kernel_rfl))) ?_
    refine bMeet 5 rfl ((fun (x10 : Bool) => [(1, .ptr 0 0), (18, .d (.bool x10))])) ((fun (x10 : Bool) => [.box [.d (.int .i64 p0), .d (.int .i64 p1), .d (.int .i64 p2), .d (.int .i64 p3), .d (.int .i64 p4), .d (.int .i64 p5)]])) (fun s => s) (fun x10 => ?_) (fun hj3 => ?_)
    · refine oView (T' := [(1, .ptr 0 0), (18, .d (.bool x10))]) (H' := [.box [.d (.int .i64 p0), .d (.int .i64 p1), .d (.int .i64 p2), .d (.int .i64 p3), .d (.int .i64 p4), .d (.int .i64 p5)]]) (by kernel_rfl) (by kernel_rfl) ?_
      refine oEnd ?_
      refine bSplit 18 (by kernel_rfl) (fun hc => ?_) (fun hc => ?_)
      · refine oCondT (by kernel_rfl) ?_
        refine oSeq ?_
        refine oRegion rfl ?_
        refine oOp (.d (.bool false)) (by kernel_rfl) (by kernel_rfl) (PureV.does (p_assign (by kernel_rfl))) ?_
        refine oEnd ?_
        exact oRet (r0 := false) (rv := .d (.bool false)) (B := []) (vs := [.d (.bool false)]) (σ := []) (by kernel_rfl) Try.func67 rfl (.cons _ _ _ _ (.tmp 2 _ (by kernel_rfl)) .nil) (by kernel_rfl) (by kernel_rfl) (by kernel_rfl) (by kernel_rfl) (by decide) (by kernel_rfl) (by kernel_rfl)
      · refine oCondF (by kernel_rfl) ?_
        refine oSkip ?_
        refine oSeq ?_
        refine oSeq ?_
        refine oRegion rfl ?_
        refine oOp (.ptr 0 0) (by kernel_rfl) (by kernel_rfl) (PureV.does (k_fieldAddr 0 0 (by kernel_rfl) Try.underlying49 rfl ty3 (by kernel_rfl))) ?_
        refine oOp (.d (.int .i64 p0)) (by kernel_rfl) (by kernel_rfl) (Quiet.does (k_load 0 0 (by kernel_rfl) Try.underlying3 (by kernel_rfl) (by kernel_rfl))) ?_
        refine oEnd ?_
        refine oBlock ?_
        refine oSeq ?_
        refine oRegion rfl ?_
        refine oOp (.d (.bool (p0 == 1))) (by kernel_rfl) (by kernel_rfl) (PureV.does (p_int (k := .i64) (p := p0) (q := 1) (by kernel_rfl) (by kernel_rfl) (by kernel_rfl))) ?_
        refine oOp (.d (.bool (p0 == 1))) (by kernel_rfl) (by kernel_rfl) (PureV.does (p_assign (by kernel_rfl))) ?_
        refine oEnd ?_
        refine bSplit 21 (by kernel_rfl) (fun hc => ?_) (fun hc => ?_)
        · refine oCondT (by kernel_rfl) ?_
          refine oSeq ?_
          refine oRegion rfl ?_
          refine oOp (.ptr 0 4) (by kernel_rfl) (by kernel_rfl) (PureV.does (k_fieldAddr 0 0 (by kernel_rfl) Try.underlying49 rfl ty3 (by kernel_rfl))) ?_
          refine oOp (.d (.int .i64 p4)) (by kernel_rfl) (by kernel_rfl) (Quiet.does (k_load 0 4 (by kernel_rfl) Try.underlying3 (by kernel_rfl) (by kernel_rfl))) ?_
          refine oOp (.d (.bool (p4 == 0))) (by kernel_rfl) (by kernel_rfl) (PureV.does (p_int (k := .i64) (p := p4) (q := 0) (by kernel_rfl) (by kernel_rfl) (by kernel_rfl))) ?_
          refine oOp (.d (.bool (p4 == 0))) (by kernel_rfl) (by kernel_rfl) (PureV.does (p_move (by kernel_rfl))) ?_
          refine bMeetF (H' := []) 4 rfl ((fun (x15 : Bool) => [(30, .d (.bool x15))])) (fun x15 => ?_) (fun F hj1 => ?_)
          · refine oView (T' := [(30, .d (.bool x15))]) (H' := []) (by kernel_rfl) (by kernel_rfl) ?_
            refine oOp (.d (.bool x15)) (by kernel_rfl) (by kernel_rfl) (PureV.does (p_assign (by kernel_rfl))) ?_
            refine oEnd ?_
            exact oRet (r0 := x15) (rv := .d (.bool x15)) (B := []) (vs := [.d (.bool x15)]) (σ := []) (by kernel_rfl) Try.func67 rfl (.cons _ _ _ _ (.tmp 2 _ (by kernel_rfl)) .nil) (by kernel_rfl) (by kernel_rfl) (by kernel_rfl) (by kernel_rfl) (by decide) (by kernel_rfl) (by kernel_rfl)
          · refine bPickF 26 (fun c => F (c && (p5 == 0))) (by kernel_rfl) (fun hc => ?_) (fun hc => ?_)
            · refine oOp (.ptr 0 5) (by kernel_rfl) (by kernel_rfl) (PureV.does (k_fieldAddr 0 0 (by kernel_rfl) Try.underlying49 rfl ty3 (by kernel_rfl))) ?_
              refine oOp (.d (.int .i64 p5)) (by kernel_rfl) (by kernel_rfl) (Quiet.does (k_load 0 5 (by kernel_rfl) Try.underlying3 (by kernel_rfl) (by kernel_rfl))) ?_
              refine oOp (.d (.bool (p5 == 0))) (by kernel_rfl) (by kernel_rfl) (PureV.does (p_int (k := .i64) (p := p5) (q := 0) (by kernel_rfl) (by kernel_rfl) (by kernel_rfl))) ?_
              refine oOp (.d (.bool (p5 == 0))) (by kernel_rfl) (by kernel_rfl) (PureV.does (p_pick (b := true) (by kernel_rfl) (by kernel_rfl))) ?_
              refine oHead [30] [] (T' := [(30, .d (.bool (p5 == 0)))]) (H' := []) (by kernel_rfl) (by kernel_rfl) (by kernel_rfl) (by kernel_rfl) (by decide) (by kernel_rfl) (by kernel_rfl) ?_
              exact hj1 (p5 == 0)
            · refine oNot (by kernel_rfl) (by kernel_rfl) ?_
              refine oNot (by kernel_rfl) (by kernel_rfl) ?_
              refine oNot (by kernel_rfl) (by kernel_rfl) ?_
              refine oOp (.d (.bool false)) (by kernel_rfl) (by kernel_rfl) (PureV.does (p_pick (b := false) (by kernel_rfl) (by kernel_rfl))) ?_
              refine oHead [30] [] (T' := [(30, .d (.bool false))]) (H' := []) (by kernel_rfl) (by kernel_rfl) (by kernel_rfl) (by kernel_rfl) (by decide) (by kernel_rfl) (by kernel_rfl) ?_
              exact hj1 false
        · refine oCondF (by kernel_rfl) ?_
          refine oSeq ?_
          refine oRegion rfl ?_
          refine oOp (.d (.bool (p0 == 2))) (by kernel_rfl) (by kernel_rfl) (PureV.does (p_int (k := .i64) (p := p0) (q := 2) (by kernel_rfl) (by kernel_rfl) (by kernel_rfl))) ?_
          refine oOp (.d (.bool (p0 == 2))) (by kernel_rfl) (by kernel_rfl) (PureV.does (p_assign (by kernel_rfl))) ?_
          refine oEnd ?_
          refine bSplit 31 (by kernel_rfl) (fun hc => ?_) (fun hc => ?_)
          · refine oCondT (by kernel_rfl) ?_
            refine oSeq ?_
            refine oRegion rfl ?_
            refine oOp (.ptr 0 4) (by kernel_rfl) (by kernel_rfl) (PureV.does (k_fieldAddr 0 0 (by kernel_rfl) Try.underlying49 rfl ty3 (by kernel_rfl))) ?_
            refine oOp (.d (.int .i64 p4)) (by kernel_rfl) (by kernel_rfl) (Quiet.does (k_load 0 4 (by kernel_rfl) Try.underlying3 (by kernel_rfl) (by kernel_rfl))) ?_
            refine bCall (caps := []) (v := (fun (r121 : Bool) => (.d (.bool r121) : V))) (H' := (fun (r121 : Bool) => ([.box [.d (.int .i64 p0), .d (.int .i64 p1), .d (.int .i64 p2), .d (.int .i64 p3), .d (.int .i64 p4), .d (.int .i64 p5)]] : List Blk))) [] _ (item_in_goes k p4 2 5) (by kernel_rfl) (by kernel_rfl) rfl (by kernel_rfl) Try.func59 rfl (by kernel_rfl) (ConvRs.refl _ _) (by kernel_rfl) (by kernel_rfl) (by kernel_rfl) (by decide) (by kernel_rfl) (by kernel_rfl) (fun _ => (by kernel_rfl)) (fun _ => (by kernel_rfl)) (fun _ => (by kernel_rfl)) (fun r121 => ?_)
            refine oOp (.d (.bool r121)) (by kernel_rfl) (by kernel_rfl) (PureV.does (p_move (by kernel_rfl))) ?_
            refine bMeet 7 rfl ((fun (x17 : Bool) => [(43, .d (.bool x17))])) ((fun (x17 : Bool) => [])) (fun s => s) (fun x17 => ?_) (fun hj2 => ?_)
            · refine oView (T' := [(43, .d (.bool x17))]) (H' := []) (by kernel_rfl) (by kernel_rfl) ?_
              refine oOp (.d (.bool x17)) (by kernel_rfl) (by kernel_rfl) (PureV.does (p_assign (by kernel_rfl))) ?_
              refine oEnd ?_
              exact oRet (r0 := x17) (rv := .d (.bool x17)) (B := []) (vs := [.d (.bool x17)]) (σ := []) (by kernel_rfl) Try.func67 rfl (.cons _ _ _ _ (.tmp 2 _ (by kernel_rfl)) .nil) (by kernel_rfl) (by kernel_rfl) (by kernel_rfl) (by kernel_rfl) (by decide) (by kernel_rfl) (by kernel_rfl)
            · refine bSplit 36 (by kernel_rfl) (fun hc => ?_) (fun hc => ?_)
              · refine oOp (.ptr 0 5) (by kernel_rfl) (by kernel_rfl) (PureV.does (k_fieldAddr 0 0 (by kernel_rfl) Try.underlying49 rfl ty3 (by kernel_rfl))) ?_
                refine oOp (.d (.int .i64 p5)) (by kernel_rfl) (by kernel_rfl) (Quiet.does (k_load 0 5 (by kernel_rfl) Try.underlying3 (by kernel_rfl) (by kernel_rfl))) ?_
                refine oOp (.ptr 0 4) (by kernel_rfl) (by kernel_rfl) (PureV.does (k_fieldAddr 0 0 (by kernel_rfl) Try.underlying49 rfl ty3 (by kernel_rfl))) ?_
                refine oOp (.d (.int .i64 p4)) (by kernel_rfl) (by kernel_rfl) (Quiet.does (k_load 0 4 (by kernel_rfl) Try.underlying3 (by kernel_rfl) (by kernel_rfl))) ?_
                refine oOp (.d (.int .i64 (IntKind.wrap .i64 (p4 - 1)))) (by kernel_rfl) (by kernel_rfl) (PureV.does (p_int (k := .i64) (p := p4) (q := 1) (by kernel_rfl) (by kernel_rfl) (by kernel_rfl))) ?_
                refine bCall (caps := []) (v := (fun (r123 : Bool) => (.d (.bool r123) : V))) (H' := (fun (r123 : Bool) => ([.box [.d (.int .i64 p0), .d (.int .i64 p1), .d (.int .i64 p2), .d (.int .i64 p3), .d (.int .i64 p4), .d (.int .i64 p5)]] : List Blk))) [] _ (item_in_goes k p5 0 (IntKind.wrap .i64 (p4 - 1))) (by kernel_rfl) (by kernel_rfl) rfl (by kernel_rfl) Try.func59 rfl (by kernel_rfl) (ConvRs.refl _ _) (by kernel_rfl) (by kernel_rfl) (by kernel_rfl) (by decide) (by kernel_rfl) (by kernel_rfl) (fun _ => (by kernel_rfl)) (fun _ => (by kernel_rfl)) (fun _ => (by kernel_rfl)) (fun r123 => ?_)
                refine oOp (.d (.bool r123)) (by kernel_rfl) (by kernel_rfl) (PureV.does (p_pick (b := true) (by kernel_rfl) (by kernel_rfl))) ?_
                refine oHead [43] [] (T' := [(43, .d (.bool r123))]) (H' := []) (by kernel_rfl) (by kernel_rfl) (by kernel_rfl) (by kernel_rfl) (by decide) (by kernel_rfl) (by kernel_rfl) ?_
                exact hj2 r123
              · refine oNot (by kernel_rfl) (by kernel_rfl) ?_
                refine oNot (by kernel_rfl) (by kernel_rfl) ?_
                refine oNot (by kernel_rfl) (by kernel_rfl) ?_
                refine oNot (by kernel_rfl) (by kernel_rfl) ?_
                refine oNot (by kernel_rfl) (by kernel_rfl) ?_
                refine oNot (by kernel_rfl) (by kernel_rfl) ?_
                refine oOp (.d (.bool false)) (by kernel_rfl) (by kernel_rfl) (PureV.does (p_pick (b := false) (by kernel_rfl) (by kernel_rfl))) ?_
                refine oHead [43] [] (T' := [(43, .d (.bool false))]) (H' := []) (by kernel_rfl) (by kernel_rfl) (by kernel_rfl) (by kernel_rfl) (by decide) (by kernel_rfl) (by kernel_rfl) ?_
                exact hj2 false
          · refine oCondF (by kernel_rfl) ?_
            refine oSkip ?_
            refine oBlk ?_
            refine oSeq ?_
            refine oRegion rfl ?_
            refine oOp (.d (.bool false)) (by kernel_rfl) (by kernel_rfl) (PureV.does (p_assign (by kernel_rfl))) ?_
            refine oEnd ?_
            exact oRet (r0 := false) (rv := .d (.bool false)) (B := []) (vs := [.d (.bool false)]) (σ := []) (by kernel_rfl) Try.func67 rfl (.cons _ _ _ _ (.tmp 2 _ (by kernel_rfl)) .nil) (by kernel_rfl) (by kernel_rfl) (by kernel_rfl) (by kernel_rfl) (by decide) (by kernel_rfl) (by kernel_rfl)
    · refine bSplit 13 (by kernel_rfl) (fun hc => ?_) (fun hc => ?_)
      · refine oNot (by kernel_rfl) (by kernel_rfl) ?_
        refine oNot (by kernel_rfl) (by kernel_rfl) ?_
        refine oNot (by kernel_rfl) (by kernel_rfl) ?_
        refine oNot (by kernel_rfl) (by kernel_rfl) ?_
        refine oOp (.d (.bool true)) (by kernel_rfl) (by kernel_rfl) (PureV.does (p_pick (b := true) (by kernel_rfl) (by kernel_rfl))) ?_
        refine oHead [1, 18] [0] (T' := [(1, .ptr 0 0), (18, .d (.bool true))]) (H' := [.box [.d (.int .i64 p0), .d (.int .i64 p1), .d (.int .i64 p2), .d (.int .i64 p3), .d (.int .i64 p4), .d (.int .i64 p5)]]) (by kernel_rfl) (by kernel_rfl) (by kernel_rfl) (by kernel_rfl) (by decide) (by kernel_rfl) (by kernel_rfl) ?_
        exact hj3 true
      · refine oOp (.ptr 0 3) (by kernel_rfl) (by kernel_rfl) (PureV.does (k_fieldAddr 0 0 (by kernel_rfl) Try.underlying49 rfl ty3 (by kernel_rfl))) ?_
        refine oOp (.d (.int .i64 p3)) (by kernel_rfl) (by kernel_rfl) (Quiet.does (k_load 0 3 (by kernel_rfl) Try.underlying3 (by kernel_rfl) (by kernel_rfl))) ?_
        refine bCall (caps := []) (v := (fun (r124 : Bool) => (.d (.bool r124) : V))) (H' := (fun (r124 : Bool) => ([.box [.d (.int .i64 p0), .d (.int .i64 p1), .d (.int .i64 p2), .d (.int .i64 p3), .d (.int .i64 p4), .d (.int .i64 p5)]] : List Blk))) [] _ (item_in_goes k p3 0 5) (by kernel_rfl) (by kernel_rfl) rfl (by kernel_rfl) Try.func59 rfl (by kernel_rfl) (ConvRs.refl _ _) (by kernel_rfl) (by kernel_rfl) (by kernel_rfl) (by decide) (by kernel_rfl) (by kernel_rfl) (fun _ => (by kernel_rfl)) (fun _ => (by kernel_rfl)) (fun _ => (by kernel_rfl)) (fun r124 => ?_)
        refine oOp (.d (.bool (!r124))) (by kernel_rfl) (by kernel_rfl) (PureV.does (p_not (p := r124) (by kernel_rfl) (by kernel_rfl))) ?_
        refine oOp (.d (.bool (!r124))) (by kernel_rfl) (by kernel_rfl) (PureV.does (p_pick (b := false) (by kernel_rfl) (by kernel_rfl))) ?_
        refine oHead [1, 18] [0] (T' := [(1, .ptr 0 0), (18, .d (.bool (!r124)))]) (H' := [.box [.d (.int .i64 p0), .d (.int .i64 p1), .d (.int .i64 p2), .d (.int .i64 p3), .d (.int .i64 p4), .d (.int .i64 p5)]]) (by kernel_rfl) (by kernel_rfl) (by kernel_rfl) (by kernel_rfl) (by decide) (by kernel_rfl) (by kernel_rfl) ?_
        exact hj3 (!r124)
  · refine bSplit 7 (by kernel_rfl) (fun hc => ?_) (fun hc => ?_)
    · refine oNot (by kernel_rfl) (by kernel_rfl) ?_
      refine oNot (by kernel_rfl) (by kernel_rfl) ?_
      refine oNot (by kernel_rfl) (by kernel_rfl) ?_
      refine oNot (by kernel_rfl) (by kernel_rfl) ?_
      refine oOp (.d (.bool true)) (by kernel_rfl) (by kernel_rfl) (PureV.does (p_pick (b := true) (by kernel_rfl) (by kernel_rfl))) ?_
      refine oHead [1, 12] [0] (T' := [(1, .ptr 0 0), (12, .d (.bool true))]) (H' := [.box [.d (.int .i64 p0), .d (.int .i64 p1), .d (.int .i64 p2), .d (.int .i64 p3), .d (.int .i64 p4), .d (.int .i64 p5)]]) (by kernel_rfl) (by kernel_rfl) (by kernel_rfl) (by kernel_rfl) (by decide) (by kernel_rfl) (by kernel_rfl) ?_
      exact hj4 true
    · refine oOp (.ptr 0 2) (by kernel_rfl) (by kernel_rfl) (PureV.does (k_fieldAddr 0 0 (by kernel_rfl) Try.underlying49 rfl ty3 (by kernel_rfl))) ?_
      refine oOp (.d (.int .i64 p2)) (by kernel_rfl) (by kernel_rfl) (Quiet.does (k_load 0 2 (by kernel_rfl) Try.underlying3 (by kernel_rfl) (by kernel_rfl))) ?_
      refine bCall (caps := []) (v := (fun (r125 : Bool) => (.d (.bool r125) : V))) (H' := (fun (r125 : Bool) => ([.box [.d (.int .i64 p0), .d (.int .i64 p1), .d (.int .i64 p2), .d (.int .i64 p3), .d (.int .i64 p4), .d (.int .i64 p5)]] : List Blk))) [] _ (item_in_goes k p2 0 15) (by kernel_rfl) (by kernel_rfl) rfl (by kernel_rfl) Try.func59 rfl (by kernel_rfl) (ConvRs.refl _ _) (by kernel_rfl) (by kernel_rfl) (by kernel_rfl) (by decide) (by kernel_rfl) (by kernel_rfl) (fun _ => (by kernel_rfl)) (fun _ => (by kernel_rfl)) (fun _ => (by kernel_rfl)) (fun r125 => ?_)
      refine oOp (.d (.bool (!r125))) (by kernel_rfl) (by kernel_rfl) (PureV.does (p_not (p := r125) (by kernel_rfl) (by kernel_rfl))) ?_
      refine oOp (.d (.bool (!r125))) (by kernel_rfl) (by kernel_rfl) (PureV.does (p_pick (b := false) (by kernel_rfl) (by kernel_rfl))) ?_
      refine oHead [1, 12] [0] (T' := [(1, .ptr 0 0), (12, .d (.bool (!r125)))]) (H' := [.box [.d (.int .i64 p0), .d (.int .i64 p1), .d (.int .i64 p2), .d (.int .i64 p3), .d (.int .i64 p4), .d (.int .i64 p5)]]) (by kernel_rfl) (by kernel_rfl) (by kernel_rfl) (by kernel_rfl) (by decide) (by kernel_rfl) (by kernel_rfl) ?_
      exact hj4 (!r125)

/-- awardingbody/item.bad -/
def item_bad (k : Nat) (p0 : Int) (p1 : Int) (p2 : Int) (p3 : Int) (p4 : Int) (p5 : Int) : Option (Bool) := Option.bind (item_ValidPart k p0 p1 p2 p3 p4 p5) (fun r1111 => some (!r1111))
def item_bad_E (p0 : Int) (p1 : Int) (p2 : Int) (p3 : Int) (p4 : Int) (p5 : Int) : Bool → V × List Blk := fun r1 => (.d (.bool r1), [])
theorem item_bad_goes (k : Nat) (p0 : Int) (p1 : Int) (p2 : Int) (p3 : Int) (p4 : Int) (p5 : Int) : RunsO Try.prog 61 [.agg [.d (.int .i64 p0), .d (.int .i64 p1), .d (.int .i64 p2), .d (.int .i64 p3), .d (.int .i64 p4), .d (.int .i64 p5)]] [] (item_bad_E p0 p1 p2 p3 p4 p5) (item_bad k p0 p1 p2 p3 p4 p5) := by
  refine RunsO.of_goes (N := 6) (m := 0) (T := [(0, .agg [.d (.int .i64 p0), .d (.int .i64 p1), .d (.int .i64 p2), .d (.int .i64 p3), .d (.int .i64 p4), .d (.int .i64 p5)])]) Try.func61 rfl rfl (by kernel_rfl) (by kernel_rfl) (by kernel_rfl) ?_
  unfold item_bad
  refine bStart ?_
  refine oSeq ?_
  refine oRegion rfl ?_
  refine oOp (.ptr 0 0) (by kernel_rfl) (by kernel_rfl) (k_box (H' := [.box [.d (.int .i64 p0), .d (.int .i64 p1), .d (.int .i64 p2), .d (.int .i64 p3), .d (.int .i64 p4), .d (.int .i64 p5)]]) (cells := [.d (.int .i64 p0), .d (.int .i64 p1), .d (.int .i64 p2), .d (.int .i64 p3), .d (.int .i64 p4), .d (.int .i64 p5)]) (by kernel_rfl) (by kernel_rfl) (by kernel_rfl)) ?_
  refine oOp (.d (.bool false)) (by kernel_rfl) (by kernel_rfl) (PureV.does (p_assign (by kernel_rfl))) ?_
  refine oEnd ?_
  refine oSeq ?_
  refine oRegion rfl ?_
  refine oOp (.agg [.d (.int .i64 p0), .d (.int .i64 p1), .d (.int .i64 p2), .d (.int .i64 p3), .d (.int .i64 p4), .d (.int .i64 p5)]) (by kernel_rfl) (by kernel_rfl) (Quiet.does (k_loadAgg 0 0 (by kernel_rfl) Try.underlying49 (by kernel_rfl) ty49 (by kernel_rfl))) ?_
  refine bCall (caps := []) (v := (fun (r1111 : Bool) => (.d (.bool r1111) : V))) (H' := (fun (r1111 : Bool) => ([.box [.d (.int .i64 p0), .d (.int .i64 p1), .d (.int .i64 p2), .d (.int .i64 p3), .d (.int .i64 p4), .d (.int .i64 p5)]] : List Blk))) [] _ (item_ValidPart_goes k p0 p1 p2 p3 p4 p5) (by kernel_rfl) (by kernel_rfl) rfl (by kernel_rfl) Try.func67 rfl (by kernel_rfl) (ConvRs.refl _ _) (by kernel_rfl) (by kernel_rfl) (by kernel_rfl) (by decide) (by kernel_rfl) (by kernel_rfl) (fun _ => (by kernel_rfl)) (fun _ => (by kernel_rfl)) (fun _ => (by kernel_rfl)) (fun r1111 => ?_)
  refine oOp (.d (.bool (!r1111))) (by kernel_rfl) (by kernel_rfl) (PureV.does (p_not (p := r1111) (by kernel_rfl) (by kernel_rfl))) ?_
  refine oOp (.d (.bool (!r1111))) (by kernel_rfl) (by kernel_rfl) (PureV.does (p_assign (by kernel_rfl))) ?_
  refine oEnd ?_
  exact oRet (r0 := (!r1111)) (rv := .d (.bool (!r1111))) (B := []) (vs := [.d (.bool (!r1111))]) (σ := []) (by kernel_rfl) Try.func61 rfl (.cons _ _ _ _ (.tmp 2 _ (by kernel_rfl)) .nil) (by kernel_rfl) (by kernel_rfl) (by kernel_rfl) (by kernel_rfl) (by decide) (by kernel_rfl) (by kernel_rfl)

/-- slices.IndexFunc[[]awardingbody/api.Part,awardingbody/api.Part] -/
def slices_IndexFunc_api_Part_api_Part_b1 (k : Nat) (s1 : (List SPart)) (again : Int → Option ((Unit) ⊕ (Int))) : Int → Option ((Unit) ⊕ (Int)) := fun x4 => bif (decide (x4 < ((List.length s1) : Int))) then gidx s1 x4 fun e113 => Option.bind (item_bad k e113.Kind e113.Max e113.Topic e113.Objective e113.Options e113.Key) (fun r114 => bif r114 then some (Sum.inr x4) else again (IntKind.wrap .i64 (x4 + 1))) else some (Sum.inl ())
def slices_IndexFunc_api_Part_api_Part (k : Nat) (s1 : (List SPart)) : Option (Int) := Option.bind (gloop (slices_IndexFunc_api_Part_api_Part_b1 k s1) k 0 : Option ((Unit) ⊕ (Int))) (Sum.elim (u0 (some (-1))) (fun r => some r))
def slices_IndexFunc_api_Part_api_Part_E (s1 : (List SPart)) : Int → V × List Blk := fun r14 => (.d (.int .i64 r14), [])
theorem slices_IndexFunc_api_Part_api_Part_goes (k : Nat) (s1 : (List SPart)) : RunsO Try.prog 66 [.d (.lit (List.map e_SPart s1)), .fn 61 []] [] (slices_IndexFunc_api_Part_api_Part_E s1) (slices_IndexFunc_api_Part_api_Part k s1) := by
  refine RunsO.of_goes (N := 19) (m := 0) (T := [(0, .d (.lit (List.map e_SPart s1))), (1, .fn 61 [])]) Try.func66 rfl rfl (by kernel_rfl) (by kernel_rfl) (by kernel_rfl) ?_
  unfold slices_IndexFunc_api_Part_api_Part
  refine bStart ?_
  refine oSeq ?_
  refine oRegion rfl ?_
  refine oOp (.d (.int .i64 0)) (by kernel_rfl) (by kernel_rfl) (PureV.does (p_assign (by kernel_rfl))) ?_
  refine oEnd ?_
  refine oSeq ?_
  refine oSeq ?_
  refine oRegion rfl ?_
  refine oOp (.d (.lit (List.map e_SPart s1))) (by kernel_rfl) (by kernel_rfl) (PureV.does (p_move (by kernel_rfl))) ?_
  refine oOp (.d (.int .i64 ((List.length s1) : Int))) (by kernel_rfl) (by kernel_rfl) (PureV.does (k_lenLit (enc := e_SPart) s1 (by kernel_rfl) Try.underlying25)) ?_
  refine oOp (.d (.int .i64 0)) (by kernel_rfl) (by kernel_rfl) (PureV.does (p_move (by kernel_rfl))) ?_
  refine oEnd ?_
  refine bJoin ((u0 ([]))) ((u0 ([]))) Sum.inl (fun s => ?_) (fun hj2 => ?_)
  · cases s
    refine bInl ?_
    refine bU0 ?_
    refine oView (T' := []) (H' := []) (by kernel_rfl) (by kernel_rfl) ?_
    refine oSeq ?_
    refine oRegion rfl ?_
    refine oOp (.d (.int .i64 (-1))) (by kernel_rfl) (by kernel_rfl) (PureV.does (p_assign (by kernel_rfl))) ?_
    refine oEnd ?_
    exact oRet (r0 := (-1)) (rv := .d (.int .i64 (-1))) (B := []) (vs := [.d (.int .i64 (-1))]) (σ := []) (by kernel_rfl) Try.func66 rfl (.cons _ _ _ _ (.tmp 4 _ (by kernel_rfl)) .nil) (by kernel_rfl) (by kernel_rfl) (by kernel_rfl) (by kernel_rfl) (by decide) (by kernel_rfl) (by kernel_rfl)
  · refine oBlock ?_
    refine oLoop ?_
    refine oHead [0, 1, 7, 8] [] (T' := [(0, .d (.lit (List.map e_SPart s1))), (1, .fn 61 []), (7, .d (.int .i64 ((List.length s1) : Int))), (8, .d (.int .i64 0))]) (H' := []) (by kernel_rfl) (by kernel_rfl) (by kernel_rfl) (by kernel_rfl) (by decide) (by kernel_rfl) (by kernel_rfl) ?_
    refine bLoop (body := slices_IndexFunc_api_Part_api_Part_b1 k s1) ((fun (x4 : Int) => [(0, .d (.lit (List.map e_SPart s1))), (1, .fn 61 []), (7, .d (.int .i64 ((List.length s1) : Int))), (8, .d (.int .i64 x4))])) ((fun (x4 : Int) => [])) (fun again hag1 x4 => ?_) k 0
    · unfold slices_IndexFunc_api_Part_api_Part_b1
      refine oView (T' := [(0, .d (.lit (List.map e_SPart s1))), (1, .fn 61 []), (7, .d (.int .i64 ((List.length s1) : Int))), (8, .d (.int .i64 x4))]) (H' := []) (by kernel_rfl) (by kernel_rfl) ?_
      refine oSeq ?_
      refine oRegion rfl ?_
      refine oOp (.d (.bool (decide (x4 < ((List.length s1) : Int))))) (by kernel_rfl) (by kernel_rfl) (PureV.does (p_int (k := .i64) (p := x4) (q := ((List.length s1) : Int)) (by kernel_rfl) (by kernel_rfl) (by kernel_rfl))) ?_
      refine oEnd ?_
      refine oSeq ?_
      refine bSplit 9 (by kernel_rfl) (fun hc => ?_) (fun hc => ?_)
      · refine oCondT (by kernel_rfl) ?_
        refine oSkip ?_
        refine oSeq ?_
        refine oBlock ?_
        refine oSeq ?_
        refine oRegion rfl ?_
        refine oOp (.d (.int .i64 x4)) (by kernel_rfl) (by kernel_rfl) (PureV.does (p_move (by kernel_rfl))) ?_
        refine oOp (.d (.int .i64 x4)) (by kernel_rfl) (by kernel_rfl) (PureV.does (p_assign (by kernel_rfl))) ?_
        refine oEnd ?_
        refine oSeq ?_
        refine oRegion rfl ?_
        refine oOp (.fn 61 []) (by kernel_rfl) (by kernel_rfl) (PureV.does (p_move (by kernel_rfl))) ?_
        refine oOp (.d (.lit (List.map e_SPart s1))) (by kernel_rfl) (by kernel_rfl) (PureV.does (p_move (by kernel_rfl))) ?_
        refine oOp (.d (.int .i64 x4)) (by kernel_rfl) (by kernel_rfl) (PureV.does (p_move (by kernel_rfl))) ?_
        refine bIdx (fun e113 h126 h127 => ?_)
        refine oOp (.lptr (e_SPart e113) 0) (by kernel_rfl) (by kernel_rfl) (PureV.does (k_idxLit e_SPart_len s1 (a := e113) (by kernel_rfl) (k := .i64) (i := x4) (by kernel_rfl) Try.underlying25 ty49 h126 h127)) ?_
        refine oOp (.agg [.d (.int .i64 e113.Kind), .d (.int .i64 e113.Max), .d (.int .i64 e113.Topic), .d (.int .i64 e113.Objective), .d (.int .i64 e113.Options), .d (.int .i64 e113.Key)]) (by kernel_rfl) (by kernel_rfl) (Quiet.does (k_loadLAgg (cells := e_SPart e113) 0 [(.int .i64 e113.Kind), (.int .i64 e113.Max), (.int .i64 e113.Topic), (.int .i64 e113.Objective), (.int .i64 e113.Options), (.int .i64 e113.Key)] (by kernel_rfl) Try.underlying49 (by kernel_rfl) ty49 (by kernel_rfl) (by kernel_rfl) (by kernel_rfl))) ?_
        refine bCall (caps := []) (v := (fun (r114 : Bool) => (.d (.bool r114) : V))) (H' := (fun (r114 : Bool) => ([] : List Blk))) [] _ (item_bad_goes k e113.Kind e113.Max e113.Topic e113.Objective e113.Options e113.Key) (by kernel_rfl) (by kernel_rfl) rfl (by kernel_rfl) Try.func61 rfl (by kernel_rfl) (ConvRs.refl _ _) (by kernel_rfl) (by kernel_rfl) (by kernel_rfl) (by decide) (by kernel_rfl) (by kernel_rfl) (fun _ => (by kernel_rfl)) (fun _ => (by kernel_rfl)) (fun _ => (by kernel_rfl)) (fun r114 => ?_)
        refine oEnd ?_
        refine bSplit 16 (by kernel_rfl) (fun hc => ?_) (fun hc => ?_)
        · refine oCondT (by kernel_rfl) ?_
          refine oSeq ?_
          refine oRegion rfl ?_
          refine oOp (.d (.int .i64 x4)) (by kernel_rfl) (by kernel_rfl) (PureV.does (p_move (by kernel_rfl))) ?_
          refine oOp (.d (.int .i64 x4)) (by kernel_rfl) (by kernel_rfl) (PureV.does (p_assign (by kernel_rfl))) ?_
          refine oEnd ?_
          exact oRet (r0 := x4) (rv := .d (.int .i64 x4)) (B := []) (vs := [.d (.int .i64 x4)]) (σ := []) (by kernel_rfl) Try.func66 rfl (.cons _ _ _ _ (.tmp 4 _ (by kernel_rfl)) .nil) (by kernel_rfl) (by kernel_rfl) (by kernel_rfl) (by kernel_rfl) (by decide) (by kernel_rfl) (by kernel_rfl)
        · refine oCondF (by kernel_rfl) ?_
          refine oSkip ?_
          refine oBlk ?_
          refine oRegion rfl ?_
          refine oOp (.d (.int .i64 (IntKind.wrap .i64 (x4 + 1)))) (by kernel_rfl) (by kernel_rfl) (PureV.does (p_int (k := .i64) (p := x4) (q := 1) (by kernel_rfl) (by kernel_rfl) (by kernel_rfl))) ?_
          refine oOp (.d (.int .i64 (IntKind.wrap .i64 (x4 + 1)))) (by kernel_rfl) (by kernel_rfl) (PureV.does (p_move (by kernel_rfl))) ?_
          refine oEnd ?_
          refine oAgain ?_
          refine oHead [0, 1, 7, 8] [] (T' := [(0, .d (.lit (List.map e_SPart s1))), (1, .fn 61 []), (7, .d (.int .i64 ((List.length s1) : Int))), (8, .d (.int .i64 (IntKind.wrap .i64 (x4 + 1))))]) (H' := []) (by kernel_rfl) (by kernel_rfl) (by kernel_rfl) (by kernel_rfl) (by decide) (by kernel_rfl) (by kernel_rfl) ?_
          exact hag1 (IntKind.wrap .i64 (x4 + 1))
      · refine oCondF (by kernel_rfl) ?_
        refine oExit rfl ?_
        refine oHead [] [] (T' := []) (H' := []) (by kernel_rfl) (by kernel_rfl) (by kernel_rfl) (by kernel_rfl) (by decide) (by kernel_rfl) (by kernel_rfl) ?_
        exact hj2 ()

/-- slices.ContainsFunc[[]awardingbody/api.Part,awardingbody/api.Part] -/
def slices_ContainsFunc_api_Part_api_Part (k : Nat) (s1 : (List SPart)) : Option (Bool) := Option.bind (slices_IndexFunc_api_Part_api_Part k s1) (fun r141 => some (decide (r141 ≥ 0)))
def slices_ContainsFunc_api_Part_api_Part_E (s1 : (List SPart)) : Bool → V × List Blk := fun r1 => (.d (.bool r1), [])
theorem slices_ContainsFunc_api_Part_api_Part_goes (k : Nat) (s1 : (List SPart)) : RunsO Try.prog 60 [.d (.lit (List.map e_SPart s1)), .fn 61 []] [] (slices_ContainsFunc_api_Part_api_Part_E s1) (slices_ContainsFunc_api_Part_api_Part k s1) := by
  refine RunsO.of_goes (N := 9) (m := 0) (T := [(0, .d (.lit (List.map e_SPart s1))), (1, .fn 61 [])]) Try.func60 rfl rfl (by kernel_rfl) (by kernel_rfl) (by kernel_rfl) ?_
  unfold slices_ContainsFunc_api_Part_api_Part
  refine bStart ?_
  refine oSeq ?_
  refine oRegion rfl ?_
  refine oOp (.d (.bool false)) (by kernel_rfl) (by kernel_rfl) (PureV.does (p_assign (by kernel_rfl))) ?_
  refine oEnd ?_
  refine oSeq ?_
  refine oRegion rfl ?_
  refine oOp (.d (.lit (List.map e_SPart s1))) (by kernel_rfl) (by kernel_rfl) (PureV.does (p_move (by kernel_rfl))) ?_
  refine oOp (.fn 61 []) (by kernel_rfl) (by kernel_rfl) (PureV.does (p_move (by kernel_rfl))) ?_
  refine bCall (caps := []) (v := (fun (r141 : Int) => (.d (.int .i64 r141) : V))) (H' := (fun (r141 : Int) => ([] : List Blk))) [] _ (slices_IndexFunc_api_Part_api_Part_goes k s1) (by kernel_rfl) (by kernel_rfl) rfl (by kernel_rfl) Try.func66 rfl (by kernel_rfl) (ConvRs.refl _ _) (by kernel_rfl) (by kernel_rfl) (by kernel_rfl) (by decide) (by kernel_rfl) (by kernel_rfl) (fun _ => (by kernel_rfl)) (fun _ => (by kernel_rfl)) (fun _ => (by kernel_rfl)) (fun r141 => ?_)
  refine oOp (.d (.bool (decide (r141 ≥ 0)))) (by kernel_rfl) (by kernel_rfl) (PureV.does (p_int (k := .i64) (p := r141) (q := 0) (by kernel_rfl) (by kernel_rfl) (by kernel_rfl))) ?_
  refine oOp (.d (.bool (decide (r141 ≥ 0)))) (by kernel_rfl) (by kernel_rfl) (PureV.does (p_assign (by kernel_rfl))) ?_
  refine oEnd ?_
  exact oRet (r0 := (decide (r141 ≥ 0))) (rv := .d (.bool (decide (r141 ≥ 0)))) (B := []) (vs := [.d (.bool (decide (r141 ≥ 0)))]) (σ := []) (by kernel_rfl) Try.func60 rfl (.cons _ _ _ _ (.tmp 4 _ (by kernel_rfl)) .nil) (by kernel_rfl) (by kernel_rfl) (by kernel_rfl) (by kernel_rfl) (by decide) (by kernel_rfl) (by kernel_rfl)

/-- awardingbody/item.sum -/
def item_sum_b1 (k : Nat) (l : (List SPart)) (again : Int × Int → Option (Int)) : Int × Int → Option (Int) := uc fun n6 => fun x4 => bif (decide (x4 < ((List.length l) : Int))) then gidx l x4 fun e113 => again ((IntKind.wrap .i64 (n6 + e113.Max)), (IntKind.wrap .i64 (x4 + 1))) else some n6
def item_sum (k : Nat) (l : (List SPart)) : Option (Int) := Option.bind (gloop (item_sum_b1 k l) k (0, 0) : Option (Int)) (fun n5 => some n5)
def item_sum_E (l : (List SPart)) : Int → V × List Blk := fun r1 => (.d (.int .i64 r1), [])
theorem item_sum_goes (k : Nat) (l : (List SPart)) : RunsO Try.prog 62 [.d (.lit (List.map e_SPart l))] [] (item_sum_E l) (item_sum k l) := by
  refine RunsO.of_goes (N := 18) (m := 0) (T := [(0, .d (.lit (List.map e_SPart l)))]) Try.func62 rfl rfl (by kernel_rfl) (by kernel_rfl) (by kernel_rfl) ?_
  unfold item_sum
  refine bStart ?_
  refine oSeq ?_
  refine oRegion rfl ?_
  refine oOp (.d (.int .i64 0)) (by kernel_rfl) (by kernel_rfl) (PureV.does (p_assign (by kernel_rfl))) ?_
  refine oEnd ?_
  refine oSeq ?_
  refine oRegion rfl ?_
  refine oOp (.d (.int .i64 0)) (by kernel_rfl) (by kernel_rfl) (PureV.does (p_assign (by kernel_rfl))) ?_
  refine oEnd ?_
  refine oSeq ?_
  refine oSeq ?_
  refine oRegion rfl ?_
  refine oOp (.d (.lit (List.map e_SPart l))) (by kernel_rfl) (by kernel_rfl) (PureV.does (p_move (by kernel_rfl))) ?_
  refine oOp (.d (.int .i64 ((List.length l) : Int))) (by kernel_rfl) (by kernel_rfl) (PureV.does (k_lenLit (enc := e_SPart) l (by kernel_rfl) Try.underlying25)) ?_
  refine oOp (.d (.int .i64 0)) (by kernel_rfl) (by kernel_rfl) (PureV.does (p_move (by kernel_rfl))) ?_
  refine oEnd ?_
  refine bJoin ((fun (n5 : Int) => [(3, .d (.int .i64 n5))])) ((fun (n5 : Int) => [])) (fun s => s) (fun n5 => ?_) (fun hj2 => ?_)
  · refine oView (T' := [(3, .d (.int .i64 n5))]) (H' := []) (by kernel_rfl) (by kernel_rfl) ?_
    refine oSeq ?_
    refine oRegion rfl ?_
    refine oOp (.d (.int .i64 n5)) (by kernel_rfl) (by kernel_rfl) (PureV.does (p_move (by kernel_rfl))) ?_
    refine oOp (.d (.int .i64 n5)) (by kernel_rfl) (by kernel_rfl) (PureV.does (p_assign (by kernel_rfl))) ?_
    refine oEnd ?_
    exact oRet (r0 := n5) (rv := .d (.int .i64 n5)) (B := []) (vs := [.d (.int .i64 n5)]) (σ := []) (by kernel_rfl) Try.func62 rfl (.cons _ _ _ _ (.tmp 2 _ (by kernel_rfl)) .nil) (by kernel_rfl) (by kernel_rfl) (by kernel_rfl) (by kernel_rfl) (by decide) (by kernel_rfl) (by kernel_rfl)
  · refine oBlock ?_
    refine oLoop ?_
    refine oHead [3, 6, 7, 8] [] (T' := [(3, .d (.int .i64 0)), (6, .d (.lit (List.map e_SPart l))), (7, .d (.int .i64 ((List.length l) : Int))), (8, .d (.int .i64 0))]) (H' := []) (by kernel_rfl) (by kernel_rfl) (by kernel_rfl) (by kernel_rfl) (by decide) (by kernel_rfl) (by kernel_rfl) ?_
    refine bLoop (body := item_sum_b1 k l) ((uc fun (n6 : Int) => (fun (x4 : Int) => [(3, .d (.int .i64 n6)), (6, .d (.lit (List.map e_SPart l))), (7, .d (.int .i64 ((List.length l) : Int))), (8, .d (.int .i64 x4))]))) ((uc fun (n6 : Int) => (fun (x4 : Int) => []))) (fun again hag1 s => ?_) k (0, 0)
    · unfold item_sum_b1
      obtain ⟨n6, x4⟩ := s
      refine bUc ?_
      refine oView (T' := [(3, .d (.int .i64 n6)), (6, .d (.lit (List.map e_SPart l))), (7, .d (.int .i64 ((List.length l) : Int))), (8, .d (.int .i64 x4))]) (H' := []) (by kernel_rfl) (by kernel_rfl) ?_
      refine oSeq ?_
      refine oRegion rfl ?_
      refine oOp (.d (.bool (decide (x4 < ((List.length l) : Int))))) (by kernel_rfl) (by kernel_rfl) (PureV.does (p_int (k := .i64) (p := x4) (q := ((List.length l) : Int)) (by kernel_rfl) (by kernel_rfl) (by kernel_rfl))) ?_
      refine oEnd ?_
      refine oSeq ?_
      refine bSplit 9 (by kernel_rfl) (fun hc => ?_) (fun hc => ?_)
      · refine oCondT (by kernel_rfl) ?_
        refine oSkip ?_
        refine oSeq ?_
        refine oBlock ?_
        refine oSeq ?_
        refine oRegion rfl ?_
        refine bIdx (fun e113 h126 h127 => ?_)
        refine oOp (.lptr (e_SPart e113) 0) (by kernel_rfl) (by kernel_rfl) (PureV.does (k_idxLit e_SPart_len l (a := e113) (by kernel_rfl) (k := .i64) (i := x4) (by kernel_rfl) Try.underlying25 ty49 h126 h127)) ?_
        refine oOp (.agg [.d (.int .i64 e113.Kind), .d (.int .i64 e113.Max), .d (.int .i64 e113.Topic), .d (.int .i64 e113.Objective), .d (.int .i64 e113.Options), .d (.int .i64 e113.Key)]) (by kernel_rfl) (by kernel_rfl) (Quiet.does (k_loadLAgg (cells := e_SPart e113) 0 [(.int .i64 e113.Kind), (.int .i64 e113.Max), (.int .i64 e113.Topic), (.int .i64 e113.Objective), (.int .i64 e113.Options), (.int .i64 e113.Key)] (by kernel_rfl) Try.underlying49 (by kernel_rfl) ty49 (by kernel_rfl) (by kernel_rfl) (by kernel_rfl))) ?_
        refine oOp (.ptr 0 0) (by kernel_rfl) (by kernel_rfl) (k_alloc (H' := [.box [.d (.int .i64 0), .d (.int .i64 0), .d (.int .i64 0), .d (.int .i64 0), .d (.int .i64 0), .d (.int .i64 0)]]) ty49 (by kernel_rfl) (by kernel_rfl)) ?_
        refine oOp (.undef) (by kernel_rfl) (by kernel_rfl) (k_store (vs := [.d (.int .i64 e113.Kind), .d (.int .i64 e113.Max), .d (.int .i64 e113.Topic), .d (.int .i64 e113.Objective), .d (.int .i64 e113.Options), .d (.int .i64 e113.Key)]) (H' := [.box [.d (.int .i64 e113.Kind), .d (.int .i64 e113.Max), .d (.int .i64 e113.Topic), .d (.int .i64 e113.Objective), .d (.int .i64 e113.Options), .d (.int .i64 e113.Key)]]) 0 0 (by kernel_rfl) ty49 (by kernel_rfl) (by kernel_rfl) (by kernel_rfl)) ?_
        refine oEnd ?_
        refine oRegion rfl ?_
        refine oOp (.d (.int .i64 n6)) (by kernel_rfl) (by kernel_rfl) (PureV.does (p_move (by kernel_rfl))) ?_
        refine oOp (.ptr 0 1) (by kernel_rfl) (by kernel_rfl) (PureV.does (k_fieldAddr 0 0 (by kernel_rfl) Try.underlying49 rfl ty3 (by kernel_rfl))) ?_
        refine oOp (.d (.int .i64 e113.Max)) (by kernel_rfl) (by kernel_rfl) (Quiet.does (k_load 0 1 (by kernel_rfl) Try.underlying3 (by kernel_rfl) (by kernel_rfl))) ?_
        refine oOp (.d (.int .i64 (IntKind.wrap .i64 (n6 + e113.Max)))) (by kernel_rfl) (by kernel_rfl) (PureV.does (p_int (k := .i64) (p := n6) (q := e113.Max) (by kernel_rfl) (by kernel_rfl) (by kernel_rfl))) ?_
        refine oOp (.d (.int .i64 (IntKind.wrap .i64 (n6 + e113.Max)))) (by kernel_rfl) (by kernel_rfl) (PureV.does (p_assign (by kernel_rfl))) ?_
        refine oEnd ?_
        refine oBlk ?_
        refine oRegion rfl ?_
        refine oOp (.d (.int .i64 (IntKind.wrap .i64 (x4 + 1)))) (by kernel_rfl) (by kernel_rfl) (PureV.does (p_int (k := .i64) (p := x4) (q := 1) (by kernel_rfl) (by kernel_rfl) (by kernel_rfl))) ?_
        refine oOp (.d (.int .i64 (IntKind.wrap .i64 (x4 + 1)))) (by kernel_rfl) (by kernel_rfl) (PureV.does (p_move (by kernel_rfl))) ?_
        refine oEnd ?_
        refine oAgain ?_
        refine oHead [3, 6, 7, 8] [] (T' := [(3, .d (.int .i64 (IntKind.wrap .i64 (n6 + e113.Max)))), (6, .d (.lit (List.map e_SPart l))), (7, .d (.int .i64 ((List.length l) : Int))), (8, .d (.int .i64 (IntKind.wrap .i64 (x4 + 1))))]) (H' := []) (by kernel_rfl) (by kernel_rfl) (by kernel_rfl) (by kernel_rfl) (by decide) (by kernel_rfl) (by kernel_rfl) ?_
        exact hag1 ((IntKind.wrap .i64 (n6 + e113.Max)), (IntKind.wrap .i64 (x4 + 1)))
      · refine oCondF (by kernel_rfl) ?_
        refine oExit rfl ?_
        refine oHead [3] [] (T' := [(3, .d (.int .i64 n6))]) (H' := []) (by kernel_rfl) (by kernel_rfl) (by kernel_rfl) (by kernel_rfl) (by decide) (by kernel_rfl) (by kernel_rfl) ?_
        exact hj2 n6

end Go.VM
