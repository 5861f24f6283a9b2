/- Plain functions that answer as the program's functions do, and the proof that they do. -/
import Derived.Test.YtdpoilkjdfnadaaProg
import Derived.KernelRfl
import Derived.Test.YtdpoilkjdfnadaaEngS
import Derived.Test.YtdpoilkjdfnadaaSFacts
import Derived.Test.YtdpoilkjdfnadaaSFuns1
namespace Go.VM
open Go.Proofs
set_option linter.unusedVariables false
set_option linter.unusedSimpArgs false
set_option maxRecDepth 100000
/-- awardingbody/item.ValidPaper -/
def item_ValidPaper (k : Nat) (p0 : Int) (p1 : Int) (p2 : (List SPart)) : Option (Bool) := Option.bind (item_in k p0 0 31) (fun r16 => Option.bind (bif r16 then Option.bind (item_in k p1 0 3) (fun r114 => some r114) else some false : Option (Bool)) (fun x4 => Option.bind (bif x4 then Option.bind (item_in k ((List.length p2) : Int) 1 24) (fun r113 => some r113) else some false : Option (Bool)) (fun x5 => Option.bind (bif x5 then Option.bind (slices_ContainsFunc_api_Part_api_Part k p2) (fun r112 => some (!r112)) else some false : Option (Bool)) (fun x6 => Option.bind (bif x6 then Option.bind (item_sum k p2) (fun r111 => some (decide (r111 ≤ 200))) else some false : Option (Bool)) (fun x7 => some x7)))))
def item_ValidPaper_E (p0 : Int) (p1 : Int) (p2 : (List SPart)) : Bool → V × List Blk := fun r15 => (.d (.bool r15), [])
theorem item_ValidPaper_goes (k : Nat) (p0 : Int) (p1 : Int) (p2 : (List SPart)) : RunsO Try.prog 51 [.agg [.d (.int .i64 p0), .d (.int .i64 p1), .d (.lit (List.map e_SPart p2))]] [] (item_ValidPaper_E p0 p1 p2) (item_ValidPaper k p0 p1 p2) := by
  refine RunsO.of_goes (N := 29) (m := 0) (T := [(0, .agg [.d (.int .i64 p0), .d (.int .i64 p1), .d (.lit (List.map e_SPart p2))])]) Try.func51 rfl rfl (by kernel_rfl) (by kernel_rfl) (by kernel_rfl) ?_
  unfold item_ValidPaper
  refine bStart ?_
  refine oSeq ?_
  refine oRegion rfl ?_
  refine oOp (.ptr 0 0) (by kernel_rfl) (by kernel_rfl) (k_box (H' := [.box [.d (.int .i64 p0), .d (.int .i64 p1), .d (.lit (List.map e_SPart p2))]]) (cells := [.d (.int .i64 p0), .d (.int .i64 p1), .d (.lit (List.map e_SPart p2))]) (by kernel_rfl) (by kernel_rfl) (by kernel_rfl)) ?_
  refine oOp (.d (.bool false)) (by kernel_rfl) (by kernel_rfl) (PureV.does (p_assign (by kernel_rfl))) ?_
  refine oEnd ?_
  refine oSeq ?_
  refine oRegion rfl ?_
  refine oOp (.ptr 0 0) (by kernel_rfl) (by kernel_rfl) (PureV.does (k_fieldAddr 0 0 (by kernel_rfl) Try.underlying27 rfl ty3 (by kernel_rfl))) ?_
  refine oOp (.d (.int .i64 p0)) (by kernel_rfl) (by kernel_rfl) (Quiet.does (k_load 0 0 (by kernel_rfl) Try.underlying3 (by kernel_rfl) (by kernel_rfl))) ?_
  refine bCall (caps := []) (v := (fun (r16 : Bool) => (.d (.bool r16) : V))) (H' := (fun (r16 : Bool) => ([.box [.d (.int .i64 p0), .d (.int .i64 p1), .d (.lit (List.map e_SPart p2))]] : List Blk))) [] _ (item_in_goes k p0 0 31) (by kernel_rfl) (by kernel_rfl) rfl (by kernel_rfl) Try.func59 rfl (by kernel_rfl) (ConvRs.refl _ _) (by kernel_rfl) (by kernel_rfl) (by kernel_rfl) (by decide) (by kernel_rfl) (by kernel_rfl) (fun _ => (by kernel_rfl)) (fun _ => (by kernel_rfl)) (fun _ => (by kernel_rfl)) (fun r16 => ?_)
  refine oOp (.d (.bool r16)) (by kernel_rfl) (by kernel_rfl) (PureV.does (p_move (by kernel_rfl))) ?_
  refine bMeet 4 rfl ((fun (x4 : Bool) => [(1, .ptr 0 0), (10, .d (.bool x4))])) ((fun (x4 : Bool) => [.box [.d (.int .i64 p0), .d (.int .i64 p1), .d (.lit (List.map e_SPart p2))]])) (fun s => s) (fun x4 => ?_) (fun hj4 => ?_)
  · refine oView (T' := [(1, .ptr 0 0), (10, .d (.bool x4))]) (H' := [.box [.d (.int .i64 p0), .d (.int .i64 p1), .d (.lit (List.map e_SPart p2))]]) (by kernel_rfl) (by kernel_rfl) ?_
    refine oOp (.d (.bool x4)) (by kernel_rfl) (by kernel_rfl) (PureV.does (p_move (by kernel_rfl))) ?_
    refine bMeet 5 rfl ((fun (x5 : Bool) => [(1, .ptr 0 0), (16, .d (.bool x5))])) ((fun (x5 : Bool) => [.box [.d (.int .i64 p0), .d (.int .i64 p1), .d (.lit (List.map e_SPart p2))]])) (fun s => s) (fun x5 => ?_) (fun hj3 => ?_)
    · refine oView (T' := [(1, .ptr 0 0), (16, .d (.bool x5))]) (H' := [.box [.d (.int .i64 p0), .d (.int .i64 p1), .d (.lit (List.map e_SPart p2))]]) (by kernel_rfl) (by kernel_rfl) ?_
      refine oOp (.d (.bool x5)) (by kernel_rfl) (by kernel_rfl) (PureV.does (p_move (by kernel_rfl))) ?_
      refine bMeet 5 rfl ((fun (x6 : Bool) => [(1, .ptr 0 0), (22, .d (.bool x6))])) ((fun (x6 : Bool) => [.box [.d (.int .i64 p0), .d (.int .i64 p1), .d (.lit (List.map e_SPart p2))]])) (fun s => s) (fun x6 => ?_) (fun hj2 => ?_)
      · refine oView (T' := [(1, .ptr 0 0), (22, .d (.bool x6))]) (H' := [.box [.d (.int .i64 p0), .d (.int .i64 p1), .d (.lit (List.map e_SPart p2))]]) (by kernel_rfl) (by kernel_rfl) ?_
        refine oOp (.d (.bool x6)) (by kernel_rfl) (by kernel_rfl) (PureV.does (p_move (by kernel_rfl))) ?_
        refine bMeet 5 rfl ((fun (x7 : Bool) => [(28, .d (.bool x7))])) ((fun (x7 : Bool) => [])) (fun s => s) (fun x7 => ?_) (fun hj1 => ?_)
        · refine oView (T' := [(28, .d (.bool x7))]) (H' := []) (by kernel_rfl) (by kernel_rfl) ?_
          refine oOp (.d (.bool x7)) (by kernel_rfl) (by kernel_rfl) (PureV.does (p_assign (by kernel_rfl))) ?_
          refine oEnd ?_
          exact oRet (r0 := x7) (rv := .d (.bool x7)) (B := []) (vs := [.d (.bool x7)]) (σ := []) (by kernel_rfl) Try.func51 rfl (.cons _ _ _ _ (.tmp 2 _ (by kernel_rfl)) .nil) (by kernel_rfl) (by kernel_rfl) (by kernel_rfl) (by kernel_rfl) (by decide) (by kernel_rfl) (by kernel_rfl)
        · refine bSplit 23 (by kernel_rfl) (fun hc => ?_) (fun hc => ?_)
          · refine oOp (.ptr 0 2) (by kernel_rfl) (by kernel_rfl) (PureV.does (k_fieldAddr 0 0 (by kernel_rfl) Try.underlying27 rfl ty25 (by kernel_rfl))) ?_
            refine oOp (.d (.lit (List.map e_SPart p2))) (by kernel_rfl) (by kernel_rfl) (Quiet.does (k_load 0 2 (by kernel_rfl) Try.underlying25 (by kernel_rfl) (by kernel_rfl))) ?_
            refine bCall (caps := []) (v := (fun (r111 : Int) => (.d (.int .i64 r111) : V))) (H' := (fun (r111 : Int) => ([.box [.d (.int .i64 p0), .d (.int .i64 p1), .d (.lit (List.map e_SPart p2))]] : List Blk))) [] _ (item_sum_goes k p2) (by kernel_rfl) (by kernel_rfl) rfl (by kernel_rfl) Try.func62 rfl (by kernel_rfl) (ConvRs.refl _ _) (by kernel_rfl) (by kernel_rfl) (by kernel_rfl) (by decide) (by kernel_rfl) (by kernel_rfl) (fun _ => (by kernel_rfl)) (fun _ => (by kernel_rfl)) (fun _ => (by kernel_rfl)) (fun r111 => ?_)
            refine oOp (.d (.bool (decide (r111 ≤ 200)))) (by kernel_rfl) (by kernel_rfl) (PureV.does (p_int (k := .i64) (p := r111) (q := 200) (by kernel_rfl) (by kernel_rfl) (by kernel_rfl))) ?_
            refine oOp (.d (.bool (decide (r111 ≤ 200)))) (by kernel_rfl) (by kernel_rfl) (PureV.does (p_pick (b := true) (by kernel_rfl) (by kernel_rfl))) ?_
            refine oHead [28] [] (T' := [(28, .d (.bool (decide (r111 ≤ 200))))]) (H' := []) (by kernel_rfl) (by kernel_rfl) (by kernel_rfl) (by kernel_rfl) (by decide) (by kernel_rfl) (by kernel_rfl) ?_
            exact hj1 (decide (r111 ≤ 200))
          · refine oNot (by kernel_rfl) (by kernel_rfl) ?_
            refine oNot (by kernel_rfl) (by kernel_rfl) ?_
            refine oNot (by kernel_rfl) (by kernel_rfl) ?_
            refine oNot (by kernel_rfl) (by kernel_rfl) ?_
            refine oOp (.d (.bool false)) (by kernel_rfl) (by kernel_rfl) (PureV.does (p_pick (b := false) (by kernel_rfl) (by kernel_rfl))) ?_
            refine oHead [28] [] (T' := [(28, .d (.bool false))]) (H' := []) (by kernel_rfl) (by kernel_rfl) (by kernel_rfl) (by kernel_rfl) (by decide) (by kernel_rfl) (by kernel_rfl) ?_
            exact hj1 false
      · refine bSplit 17 (by kernel_rfl) (fun hc => ?_) (fun hc => ?_)
        · refine oOp (.ptr 0 2) (by kernel_rfl) (by kernel_rfl) (PureV.does (k_fieldAddr 0 0 (by kernel_rfl) Try.underlying27 rfl ty25 (by kernel_rfl))) ?_
          refine oOp (.d (.lit (List.map e_SPart p2))) (by kernel_rfl) (by kernel_rfl) (Quiet.does (k_load 0 2 (by kernel_rfl) Try.underlying25 (by kernel_rfl) (by kernel_rfl))) ?_
          refine bCall (caps := []) (v := (fun (r112 : Bool) => (.d (.bool r112) : V))) (H' := (fun (r112 : Bool) => ([.box [.d (.int .i64 p0), .d (.int .i64 p1), .d (.lit (List.map e_SPart p2))]] : List Blk))) [] _ (slices_ContainsFunc_api_Part_api_Part_goes k p2) (by kernel_rfl) (by kernel_rfl) rfl (by kernel_rfl) Try.func60 rfl (by kernel_rfl) (ConvRs.refl _ _) (by kernel_rfl) (by kernel_rfl) (by kernel_rfl) (by decide) (by kernel_rfl) (by kernel_rfl) (fun _ => (by kernel_rfl)) (fun _ => (by kernel_rfl)) (fun _ => (by kernel_rfl)) (fun r112 => ?_)
          refine oOp (.d (.bool (!r112))) (by kernel_rfl) (by kernel_rfl) (PureV.does (p_not (p := r112) (by kernel_rfl) (by kernel_rfl))) ?_
          refine oOp (.d (.bool (!r112))) (by kernel_rfl) (by kernel_rfl) (PureV.does (p_pick (b := true) (by kernel_rfl) (by kernel_rfl))) ?_
          refine oHead [1, 22] [0] (T' := [(1, .ptr 0 0), (22, .d (.bool (!r112)))]) (H' := [.box [.d (.int .i64 p0), .d (.int .i64 p1), .d (.lit (List.map e_SPart p2))]]) (by kernel_rfl) (by kernel_rfl) (by kernel_rfl) (by kernel_rfl) (by decide) (by kernel_rfl) (by kernel_rfl) ?_
          exact hj2 (!r112)
        · refine oNot (by kernel_rfl) (by kernel_rfl) ?_
          refine oNot (by kernel_rfl) (by kernel_rfl) ?_
          refine oNot (by kernel_rfl) (by kernel_rfl) ?_
          refine oNot (by kernel_rfl) (by kernel_rfl) ?_
          refine oOp (.d (.bool false)) (by kernel_rfl) (by kernel_rfl) (PureV.does (p_pick (b := false) (by kernel_rfl) (by kernel_rfl))) ?_
          refine oHead [1, 22] [0] (T' := [(1, .ptr 0 0), (22, .d (.bool false))]) (H' := [.box [.d (.int .i64 p0), .d (.int .i64 p1), .d (.lit (List.map e_SPart p2))]]) (by kernel_rfl) (by kernel_rfl) (by kernel_rfl) (by kernel_rfl) (by decide) (by kernel_rfl) (by kernel_rfl) ?_
          exact hj2 false
    · refine bSplit 11 (by kernel_rfl) (fun hc => ?_) (fun hc => ?_)
      · refine oOp (.ptr 0 2) (by kernel_rfl) (by kernel_rfl) (PureV.does (k_fieldAddr 0 0 (by kernel_rfl) Try.underlying27 rfl ty25 (by kernel_rfl))) ?_
        refine oOp (.d (.lit (List.map e_SPart p2))) (by kernel_rfl) (by kernel_rfl) (Quiet.does (k_load 0 2 (by kernel_rfl) Try.underlying25 (by kernel_rfl) (by kernel_rfl))) ?_
        refine oOp (.d (.int .i64 ((List.length p2) : Int))) (by kernel_rfl) (by kernel_rfl) (PureV.does (k_lenLit (enc := e_SPart) p2 (by kernel_rfl) Try.underlying25)) ?_
        refine bCall (caps := []) (v := (fun (r113 : Bool) => (.d (.bool r113) : V))) (H' := (fun (r113 : Bool) => ([.box [.d (.int .i64 p0), .d (.int .i64 p1), .d (.lit (List.map e_SPart p2))]] : List Blk))) [] _ (item_in_goes k ((List.length p2) : Int) 1 24) (by kernel_rfl) (by kernel_rfl) rfl (by kernel_rfl) Try.func59 rfl (by kernel_rfl) (ConvRs.refl _ _) (by kernel_rfl) (by kernel_rfl) (by kernel_rfl) (by decide) (by kernel_rfl) (by kernel_rfl) (fun _ => (by kernel_rfl)) (fun _ => (by kernel_rfl)) (fun _ => (by kernel_rfl)) (fun r113 => ?_)
        refine oOp (.d (.bool r113)) (by kernel_rfl) (by kernel_rfl) (PureV.does (p_pick (b := true) (by kernel_rfl) (by kernel_rfl))) ?_
        refine oHead [1, 16] [0] (T' := [(1, .ptr 0 0), (16, .d (.bool r113))]) (H' := [.box [.d (.int .i64 p0), .d (.int .i64 p1), .d (.lit (List.map e_SPart p2))]]) (by kernel_rfl) (by kernel_rfl) (by kernel_rfl) (by kernel_rfl) (by decide) (by kernel_rfl) (by kernel_rfl) ?_
        exact hj3 r113
      · refine oNot (by kernel_rfl) (by kernel_rfl) ?_
        refine oNot (by kernel_rfl) (by kernel_rfl) ?_
        refine oNot (by kernel_rfl) (by kernel_rfl) ?_
        refine oNot (by kernel_rfl) (by kernel_rfl) ?_
        refine oOp (.d (.bool false)) (by kernel_rfl) (by kernel_rfl) (PureV.does (p_pick (b := false) (by kernel_rfl) (by kernel_rfl))) ?_
        refine oHead [1, 16] [0] (T' := [(1, .ptr 0 0), (16, .d (.bool false))]) (H' := [.box [.d (.int .i64 p0), .d (.int .i64 p1), .d (.lit (List.map e_SPart p2))]]) (by kernel_rfl) (by kernel_rfl) (by kernel_rfl) (by kernel_rfl) (by decide) (by kernel_rfl) (by kernel_rfl) ?_
        exact hj3 false
  · refine bSplit 6 (by kernel_rfl) (fun hc => ?_) (fun hc => ?_)
    · refine oOp (.ptr 0 1) (by kernel_rfl) (by kernel_rfl) (PureV.does (k_fieldAddr 0 0 (by kernel_rfl) Try.underlying27 rfl ty3 (by kernel_rfl))) ?_
      refine oOp (.d (.int .i64 p1)) (by kernel_rfl) (by kernel_rfl) (Quiet.does (k_load 0 1 (by kernel_rfl) Try.underlying3 (by kernel_rfl) (by kernel_rfl))) ?_
      refine bCall (caps := []) (v := (fun (r114 : Bool) => (.d (.bool r114) : V))) (H' := (fun (r114 : Bool) => ([.box [.d (.int .i64 p0), .d (.int .i64 p1), .d (.lit (List.map e_SPart p2))]] : List Blk))) [] _ (item_in_goes k p1 0 3) (by kernel_rfl) (by kernel_rfl) rfl (by kernel_rfl) Try.func59 rfl (by kernel_rfl) (ConvRs.refl _ _) (by kernel_rfl) (by kernel_rfl) (by kernel_rfl) (by decide) (by kernel_rfl) (by kernel_rfl) (fun _ => (by kernel_rfl)) (fun _ => (by kernel_rfl)) (fun _ => (by kernel_rfl)) (fun r114 => ?_)
      refine oOp (.d (.bool r114)) (by kernel_rfl) (by kernel_rfl) (PureV.does (p_pick (b := true) (by kernel_rfl) (by kernel_rfl))) ?_
      refine oHead [1, 10] [0] (T' := [(1, .ptr 0 0), (10, .d (.bool r114))]) (H' := [.box [.d (.int .i64 p0), .d (.int .i64 p1), .d (.lit (List.map e_SPart p2))]]) (by kernel_rfl) (by kernel_rfl) (by kernel_rfl) (by kernel_rfl) (by decide) (by kernel_rfl) (by kernel_rfl) ?_
      exact hj4 r114
    · refine oNot (by kernel_rfl) (by kernel_rfl) ?_
      refine oNot (by kernel_rfl) (by kernel_rfl) ?_
      refine oNot (by kernel_rfl) (by kernel_rfl) ?_
      refine oOp (.d (.bool false)) (by kernel_rfl) (by kernel_rfl) (PureV.does (p_pick (b := false) (by kernel_rfl) (by kernel_rfl))) ?_
      refine oHead [1, 10] [0] (T' := [(1, .ptr 0 0), (10, .d (.bool false))]) (H' := [.box [.d (.int .i64 p0), .d (.int .i64 p1), .d (.lit (List.map e_SPart p2))]]) (by kernel_rfl) (by kernel_rfl) (by kernel_rfl) (by kernel_rfl) (by decide) (by kernel_rfl) (by kernel_rfl) ?_
      exact hj4 false

/-- awardingbody/scheme.known -/
def scheme_known (k : Nat) (kind : Int) : Option (Bool) := Option.bind (bif (kind == 0) then some true else bif (kind == 1) then some true else some (kind == 2) : Option (Bool)) (fun x3 => bif x3 then some true else some false)
def scheme_known_E (kind : Int) : Bool → V × List Blk := fun r1 => (.d (.bool r1), [])
theorem scheme_known_goes (k : Nat) (kind : Int) : RunsO Try.prog 49 [.d (.int .i64 kind)] [] (scheme_known_E kind) (scheme_known k kind) := by
  refine RunsO.of_goes (N := 8) (m := 0) (T := [(0, .d (.int .i64 kind))]) Try.func49 rfl rfl (by kernel_rfl) (by kernel_rfl) (by kernel_rfl) ?_
  unfold scheme_known
  refine bStart ?_
  refine oSeq ?_
  refine oRegion rfl ?_
  refine oOp (.d (.bool false)) (by kernel_rfl) (by kernel_rfl) (PureV.does (p_assign (by kernel_rfl))) ?_
  refine oEnd ?_
  refine oSeq ?_
  refine oSeq ?_
  refine oRegion rfl ?_
  refine oOp (.d (.int .i64 kind)) (by kernel_rfl) (by kernel_rfl) (PureV.does (p_move (by kernel_rfl))) ?_
  refine oEnd ?_
  refine oBlock ?_
  refine oSeq ?_
  refine oSeq ?_
  refine oRegion rfl ?_
  refine oOp (.d (.bool (kind == 0))) (by kernel_rfl) (by kernel_rfl) (PureV.does (p_int (k := .i64) (p := kind) (q := 0) (by kernel_rfl) (by kernel_rfl) (by kernel_rfl))) ?_
  refine oOp (.d (.bool (kind == 0))) (by kernel_rfl) (by kernel_rfl) (PureV.does (p_assign (by kernel_rfl))) ?_
  refine oEnd ?_
  refine bJoin ((fun (x3 : Bool) => [(4, .d (.bool x3))])) ((fun (x3 : Bool) => [])) (fun s => s) (fun x3 => ?_) (fun hj4 => ?_)
  · refine oView (T' := [(4, .d (.bool x3))]) (H' := []) (by kernel_rfl) (by kernel_rfl) ?_
    refine bSplit 4 (by kernel_rfl) (fun hc => ?_) (fun hc => ?_)
    · refine oCondT (by kernel_rfl) ?_
      refine oSeq ?_
      refine oRegion rfl ?_
      refine oOp (.d (.bool true)) (by kernel_rfl) (by kernel_rfl) (PureV.does (p_assign (by kernel_rfl))) ?_
      refine oEnd ?_
      exact oRet (r0 := true) (rv := .d (.bool true)) (B := []) (vs := [.d (.bool true)]) (σ := []) (by kernel_rfl) Try.func49 rfl (.cons _ _ _ _ (.tmp 2 _ (by kernel_rfl)) .nil) (by kernel_rfl) (by kernel_rfl) (by kernel_rfl) (by kernel_rfl) (by decide) (by kernel_rfl) (by kernel_rfl)
    · refine oCondF (by kernel_rfl) ?_
      refine oSkip ?_
      refine oBlk ?_
      refine oSeq ?_
      refine oRegion rfl ?_
      refine oOp (.d (.bool false)) (by kernel_rfl) (by kernel_rfl) (PureV.does (p_assign (by kernel_rfl))) ?_
      refine oEnd ?_
      exact oRet (r0 := false) (rv := .d (.bool false)) (B := []) (vs := [.d (.bool false)]) (σ := []) (by kernel_rfl) Try.func49 rfl (.cons _ _ _ _ (.tmp 2 _ (by kernel_rfl)) .nil) (by kernel_rfl) (by kernel_rfl) (by kernel_rfl) (by kernel_rfl) (by decide) (by kernel_rfl) (by kernel_rfl)
  · refine bSplit 4 (by kernel_rfl) (fun hc => ?_) (fun hc => ?_)
    · refine oCondT (by kernel_rfl) ?_
      refine oSkip ?_
      refine oHead [4] [] (T' := [(4, .d (.bool true))]) (H' := []) (by kernel_rfl) (by kernel_rfl) (by kernel_rfl) (by kernel_rfl) (by decide) (by kernel_rfl) (by kernel_rfl) ?_
      exact hj4 true
    · refine oCondF (by kernel_rfl) ?_
      refine oSeq ?_
      refine oRegion rfl ?_
      refine oOp (.d (.bool (kind == 1))) (by kernel_rfl) (by kernel_rfl) (PureV.does (p_int (k := .i64) (p := kind) (q := 1) (by kernel_rfl) (by kernel_rfl) (by kernel_rfl))) ?_
      refine oOp (.d (.bool (kind == 1))) (by kernel_rfl) (by kernel_rfl) (PureV.does (p_assign (by kernel_rfl))) ?_
      refine oEnd ?_
      refine bSplit 4 (by kernel_rfl) (fun hc => ?_) (fun hc => ?_)
      · refine oCondT (by kernel_rfl) ?_
        refine oSkip ?_
        refine oHead [4] [] (T' := [(4, .d (.bool true))]) (H' := []) (by kernel_rfl) (by kernel_rfl) (by kernel_rfl) (by kernel_rfl) (by decide) (by kernel_rfl) (by kernel_rfl) ?_
        exact hj4 true
      · refine oCondF (by kernel_rfl) ?_
        refine oRegion rfl ?_
        refine oOp (.d (.bool (kind == 2))) (by kernel_rfl) (by kernel_rfl) (PureV.does (p_int (k := .i64) (p := kind) (q := 2) (by kernel_rfl) (by kernel_rfl) (by kernel_rfl))) ?_
        refine oOp (.d (.bool (kind == 2))) (by kernel_rfl) (by kernel_rfl) (PureV.does (p_assign (by kernel_rfl))) ?_
        refine oEnd ?_
        refine oHead [4] [] (T' := [(4, .d (.bool (kind == 2)))]) (H' := []) (by kernel_rfl) (by kernel_rfl) (by kernel_rfl) (by kernel_rfl) (by decide) (by kernel_rfl) (by kernel_rfl) ?_
        exact hj4 (kind == 2)

/-- awardingbody/scheme.Valid$1 -/
def scheme_Valid_1 (k : Nat) (kind : Int) : Option (Bool) := Option.bind (scheme_known k kind) (fun r12 => some (!r12))
def scheme_Valid_1_E (kind : Int) : Bool → V × List Blk := fun r11 => (.d (.bool r11), [])
theorem scheme_Valid_1_goes (k : Nat) (kind : Int) : RunsO Try.prog 53 [.d (.int .i64 kind)] [] (scheme_Valid_1_E kind) (scheme_Valid_1 k kind) := by
  refine RunsO.of_goes (N := 6) (m := 0) (T := [(0, .d (.int .i64 kind))]) Try.func53 rfl rfl (by kernel_rfl) (by kernel_rfl) (by kernel_rfl) ?_
  unfold scheme_Valid_1
  refine bStart ?_
  refine oSeq ?_
  refine oRegion rfl ?_
  refine oOp (.d (.bool false)) (by kernel_rfl) (by kernel_rfl) (PureV.does (p_assign (by kernel_rfl))) ?_
  refine oEnd ?_
  refine oSeq ?_
  refine oRegion rfl ?_
  refine oOp (.d (.int .i64 kind)) (by kernel_rfl) (by kernel_rfl) (PureV.does (p_move (by kernel_rfl))) ?_
  refine bCall (caps := []) (v := (fun (r12 : Bool) => (.d (.bool r12) : V))) (H' := (fun (r12 : Bool) => ([] : List Blk))) [] _ (scheme_known_goes k kind) (by kernel_rfl) (by kernel_rfl) rfl (by kernel_rfl) Try.func49 rfl (by kernel_rfl) (ConvRs.refl _ _) (by kernel_rfl) (by kernel_rfl) (by kernel_rfl) (by decide) (by kernel_rfl) (by kernel_rfl) (fun _ => (by kernel_rfl)) (fun _ => (by kernel_rfl)) (fun _ => (by kernel_rfl)) (fun r12 => ?_)
  refine oOp (.d (.bool (!r12))) (by kernel_rfl) (by kernel_rfl) (PureV.does (p_not (p := r12) (by kernel_rfl) (by kernel_rfl))) ?_
  refine oOp (.d (.bool (!r12))) (by kernel_rfl) (by kernel_rfl) (PureV.does (p_assign (by kernel_rfl))) ?_
  refine oEnd ?_
  exact oRet (r0 := (!r12)) (rv := .d (.bool (!r12))) (B := []) (vs := [.d (.bool (!r12))]) (σ := []) (by kernel_rfl) Try.func53 rfl (.cons _ _ _ _ (.tmp 2 _ (by kernel_rfl)) .nil) (by kernel_rfl) (by kernel_rfl) (by kernel_rfl) (by kernel_rfl) (by decide) (by kernel_rfl) (by kernel_rfl)

/-- slices.IndexFunc[[]int,int] -/
def slices_IndexFunc_int_b1 (k : Nat) (s1 : (List Int)) (again : Int → Option ((Unit) ⊕ (Int))) : Int → Option ((Unit) ⊕ (Int)) := fun x4 => bif (decide (x4 < ((List.length s1) : Int))) then gidx s1 x4 fun e113 => Option.bind (scheme_Valid_1 k e113) (fun r1113 => bif r1113 then some (Sum.inr x4) else again (IntKind.wrap .i64 (x4 + 1))) else some (Sum.inl ())
def slices_IndexFunc_int (k : Nat) (s1 : (List Int)) : Option (Int) := Option.bind (gloop (slices_IndexFunc_int_b1 k s1) k 0 : Option ((Unit) ⊕ (Int))) (Sum.elim (u0 (some (-1))) (fun r => some r))
def slices_IndexFunc_int_E (s1 : (List Int)) : Int → V × List Blk := fun r1 => (.d (.int .i64 r1), [])
theorem slices_IndexFunc_int_goes (k : Nat) (s1 : (List Int)) : RunsO Try.prog 63 [.d (.lit (List.map e_i64 s1)), .fn 53 []] [] (slices_IndexFunc_int_E s1) (slices_IndexFunc_int k s1) := by
  refine RunsO.of_goes (N := 19) (m := 0) (T := [(0, .d (.lit (List.map e_i64 s1))), (1, .fn 53 [])]) Try.func63 rfl rfl (by kernel_rfl) (by kernel_rfl) (by kernel_rfl) ?_
  unfold slices_IndexFunc_int
  refine bStart ?_
  refine oSeq ?_
  refine oRegion rfl ?_
  refine oOp (.d (.int .i64 0)) (by kernel_rfl) (by kernel_rfl) (PureV.does (p_assign (by kernel_rfl))) ?_
  refine oEnd ?_
  refine oSeq ?_
  refine oSeq ?_
  refine oRegion rfl ?_
  refine oOp (.d (.lit (List.map e_i64 s1))) (by kernel_rfl) (by kernel_rfl) (PureV.does (p_move (by kernel_rfl))) ?_
  refine oOp (.d (.int .i64 ((List.length s1) : Int))) (by kernel_rfl) (by kernel_rfl) (PureV.does (k_lenLit (enc := e_i64) s1 (by kernel_rfl) Try.underlying22)) ?_
  refine oOp (.d (.int .i64 0)) (by kernel_rfl) (by kernel_rfl) (PureV.does (p_move (by kernel_rfl))) ?_
  refine oEnd ?_
  refine bJoin ((u0 ([]))) ((u0 ([]))) Sum.inl (fun s => ?_) (fun hj2 => ?_)
  · cases s
    refine bInl ?_
    refine bU0 ?_
    refine oView (T' := []) (H' := []) (by kernel_rfl) (by kernel_rfl) ?_
    refine oSeq ?_
    refine oRegion rfl ?_
    refine oOp (.d (.int .i64 (-1))) (by kernel_rfl) (by kernel_rfl) (PureV.does (p_assign (by kernel_rfl))) ?_
    refine oEnd ?_
    exact oRet (r0 := (-1)) (rv := .d (.int .i64 (-1))) (B := []) (vs := [.d (.int .i64 (-1))]) (σ := []) (by kernel_rfl) Try.func63 rfl (.cons _ _ _ _ (.tmp 4 _ (by kernel_rfl)) .nil) (by kernel_rfl) (by kernel_rfl) (by kernel_rfl) (by kernel_rfl) (by decide) (by kernel_rfl) (by kernel_rfl)
  · refine oBlock ?_
    refine oLoop ?_
    refine oHead [0, 1, 7, 8] [] (T' := [(0, .d (.lit (List.map e_i64 s1))), (1, .fn 53 []), (7, .d (.int .i64 ((List.length s1) : Int))), (8, .d (.int .i64 0))]) (H' := []) (by kernel_rfl) (by kernel_rfl) (by kernel_rfl) (by kernel_rfl) (by decide) (by kernel_rfl) (by kernel_rfl) ?_
    refine bLoop (body := slices_IndexFunc_int_b1 k s1) ((fun (x4 : Int) => [(0, .d (.lit (List.map e_i64 s1))), (1, .fn 53 []), (7, .d (.int .i64 ((List.length s1) : Int))), (8, .d (.int .i64 x4))])) ((fun (x4 : Int) => [])) (fun again hag1 x4 => ?_) k 0
    · unfold slices_IndexFunc_int_b1
      refine oView (T' := [(0, .d (.lit (List.map e_i64 s1))), (1, .fn 53 []), (7, .d (.int .i64 ((List.length s1) : Int))), (8, .d (.int .i64 x4))]) (H' := []) (by kernel_rfl) (by kernel_rfl) ?_
      refine oSeq ?_
      refine oRegion rfl ?_
      refine oOp (.d (.bool (decide (x4 < ((List.length s1) : Int))))) (by kernel_rfl) (by kernel_rfl) (PureV.does (p_int (k := .i64) (p := x4) (q := ((List.length s1) : Int)) (by kernel_rfl) (by kernel_rfl) (by kernel_rfl))) ?_
      refine oEnd ?_
      refine oSeq ?_
      refine bSplit 9 (by kernel_rfl) (fun hc => ?_) (fun hc => ?_)
      · refine oCondT (by kernel_rfl) ?_
        refine oSkip ?_
        refine oSeq ?_
        refine oBlock ?_
        refine oSeq ?_
        refine oRegion rfl ?_
        refine oOp (.d (.int .i64 x4)) (by kernel_rfl) (by kernel_rfl) (PureV.does (p_move (by kernel_rfl))) ?_
        refine oOp (.d (.int .i64 x4)) (by kernel_rfl) (by kernel_rfl) (PureV.does (p_assign (by kernel_rfl))) ?_
        refine oEnd ?_
        refine oSeq ?_
        refine oRegion rfl ?_
        refine oOp (.fn 53 []) (by kernel_rfl) (by kernel_rfl) (PureV.does (p_move (by kernel_rfl))) ?_
        refine oOp (.d (.lit (List.map e_i64 s1))) (by kernel_rfl) (by kernel_rfl) (PureV.does (p_move (by kernel_rfl))) ?_
        refine oOp (.d (.int .i64 x4)) (by kernel_rfl) (by kernel_rfl) (PureV.does (p_move (by kernel_rfl))) ?_
        refine bIdx (fun e113 h126 h127 => ?_)
        refine oOp (.lptr (e_i64 e113) 0) (by kernel_rfl) (by kernel_rfl) (PureV.does (k_idxLit e_i64_len s1 (a := e113) (by kernel_rfl) (k := .i64) (i := x4) (by kernel_rfl) Try.underlying22 ty3 h126 h127)) ?_
        refine oOp (.d (.int .i64 e113)) (by kernel_rfl) (by kernel_rfl) (Quiet.does (k_loadL (cells := e_i64 e113) 0 (by kernel_rfl) Try.underlying3 (by kernel_rfl) (by kernel_rfl))) ?_
        refine bCall (caps := []) (v := (fun (r1113 : Bool) => (.d (.bool r1113) : V))) (H' := (fun (r1113 : Bool) => ([] : List Blk))) [] _ (scheme_Valid_1_goes k e113) (by kernel_rfl) (by kernel_rfl) rfl (by kernel_rfl) Try.func53 rfl (by kernel_rfl) (ConvRs.refl _ _) (by kernel_rfl) (by kernel_rfl) (by kernel_rfl) (by decide) (by kernel_rfl) (by kernel_rfl) (fun _ => (by kernel_rfl)) (fun _ => (by kernel_rfl)) (fun _ => (by kernel_rfl)) (fun r1113 => ?_)
        refine oEnd ?_
        refine bSplit 16 (by kernel_rfl) (fun hc => ?_) (fun hc => ?_)
        · refine oCondT (by kernel_rfl) ?_
          refine oSeq ?_
          refine oRegion rfl ?_
          refine oOp (.d (.int .i64 x4)) (by kernel_rfl) (by kernel_rfl) (PureV.does (p_move (by kernel_rfl))) ?_
          refine oOp (.d (.int .i64 x4)) (by kernel_rfl) (by kernel_rfl) (PureV.does (p_assign (by kernel_rfl))) ?_
          refine oEnd ?_
          exact oRet (r0 := x4) (rv := .d (.int .i64 x4)) (B := []) (vs := [.d (.int .i64 x4)]) (σ := []) (by kernel_rfl) Try.func63 rfl (.cons _ _ _ _ (.tmp 4 _ (by kernel_rfl)) .nil) (by kernel_rfl) (by kernel_rfl) (by kernel_rfl) (by kernel_rfl) (by decide) (by kernel_rfl) (by kernel_rfl)
        · refine oCondF (by kernel_rfl) ?_
          refine oSkip ?_
          refine oBlk ?_
          refine oRegion rfl ?_
          refine oOp (.d (.int .i64 (IntKind.wrap .i64 (x4 + 1)))) (by kernel_rfl) (by kernel_rfl) (PureV.does (p_int (k := .i64) (p := x4) (q := 1) (by kernel_rfl) (by kernel_rfl) (by kernel_rfl))) ?_
          refine oOp (.d (.int .i64 (IntKind.wrap .i64 (x4 + 1)))) (by kernel_rfl) (by kernel_rfl) (PureV.does (p_move (by kernel_rfl))) ?_
          refine oEnd ?_
          refine oAgain ?_
          refine oHead [0, 1, 7, 8] [] (T' := [(0, .d (.lit (List.map e_i64 s1))), (1, .fn 53 []), (7, .d (.int .i64 ((List.length s1) : Int))), (8, .d (.int .i64 (IntKind.wrap .i64 (x4 + 1))))]) (H' := []) (by kernel_rfl) (by kernel_rfl) (by kernel_rfl) (by kernel_rfl) (by decide) (by kernel_rfl) (by kernel_rfl) ?_
          exact hag1 (IntKind.wrap .i64 (x4 + 1))
      · refine oCondF (by kernel_rfl) ?_
        refine oExit rfl ?_
        refine oHead [] [] (T' := []) (H' := []) (by kernel_rfl) (by kernel_rfl) (by kernel_rfl) (by kernel_rfl) (by decide) (by kernel_rfl) (by kernel_rfl) ?_
        exact hj2 ()

/-- slices.ContainsFunc[[]int,int] -/
def slices_ContainsFunc_int (k : Nat) (s1 : (List Int)) : Option (Bool) := Option.bind (slices_IndexFunc_int k s1) (fun r12 => some (decide (r12 ≥ 0)))
def slices_ContainsFunc_int_E (s1 : (List Int)) : Bool → V × List Blk := fun r11 => (.d (.bool r11), [])
theorem slices_ContainsFunc_int_goes (k : Nat) (s1 : (List Int)) : RunsO Try.prog 52 [.d (.lit (List.map e_i64 s1)), .fn 53 []] [] (slices_ContainsFunc_int_E s1) (slices_ContainsFunc_int k s1) := by
  refine RunsO.of_goes (N := 9) (m := 0) (T := [(0, .d (.lit (List.map e_i64 s1))), (1, .fn 53 [])]) Try.func52 rfl rfl (by kernel_rfl) (by kernel_rfl) (by kernel_rfl) ?_
  unfold slices_ContainsFunc_int
  refine bStart ?_
  refine oSeq ?_
  refine oRegion rfl ?_
  refine oOp (.d (.bool false)) (by kernel_rfl) (by kernel_rfl) (PureV.does (p_assign (by kernel_rfl))) ?_
  refine oEnd ?_
  refine oSeq ?_
  refine oRegion rfl ?_
  refine oOp (.d (.lit (List.map e_i64 s1))) (by kernel_rfl) (by kernel_rfl) (PureV.does (p_move (by kernel_rfl))) ?_
  refine oOp (.fn 53 []) (by kernel_rfl) (by kernel_rfl) (PureV.does (p_move (by kernel_rfl))) ?_
  refine bCall (caps := []) (v := (fun (r12 : Int) => (.d (.int .i64 r12) : V))) (H' := (fun (r12 : Int) => ([] : List Blk))) [] _ (slices_IndexFunc_int_goes k s1) (by kernel_rfl) (by kernel_rfl) rfl (by kernel_rfl) Try.func63 rfl (by kernel_rfl) (ConvRs.refl _ _) (by kernel_rfl) (by kernel_rfl) (by kernel_rfl) (by decide) (by kernel_rfl) (by kernel_rfl) (fun _ => (by kernel_rfl)) (fun _ => (by kernel_rfl)) (fun _ => (by kernel_rfl)) (fun r12 => ?_)
  refine oOp (.d (.bool (decide (r12 ≥ 0)))) (by kernel_rfl) (by kernel_rfl) (PureV.does (p_int (k := .i64) (p := r12) (q := 0) (by kernel_rfl) (by kernel_rfl) (by kernel_rfl))) ?_
  refine oOp (.d (.bool (decide (r12 ≥ 0)))) (by kernel_rfl) (by kernel_rfl) (PureV.does (p_assign (by kernel_rfl))) ?_
  refine oEnd ?_
  exact oRet (r0 := (decide (r12 ≥ 0))) (rv := .d (.bool (decide (r12 ≥ 0)))) (B := []) (vs := [.d (.bool (decide (r12 ≥ 0)))]) (σ := []) (by kernel_rfl) Try.func52 rfl (.cons _ _ _ _ (.tmp 4 _ (by kernel_rfl)) .nil) (by kernel_rfl) (by kernel_rfl) (by kernel_rfl) (by kernel_rfl) (by decide) (by kernel_rfl) (by kernel_rfl)

/-- awardingbody/scheme.Valid -/
def scheme_Valid_b2 (k : Nat) (s0 : (List (List Int))) (x128 : Int) (e1130 : SPart) (e1131 : (List Int)) (again : Int → Option ((Unit) ⊕ (Bool))) : Int → Option ((Unit) ⊕ (Bool)) := fun x182 => bif (decide (x182 < ((List.length e1131) : Int))) then gidx e1131 x182 fun e1151 => blet ((decide (e1151 < 0)) || (decide (e1151 ≥ e1130.Options))) fun x193 => Option.bind (bif x193 then some true else Option.bind (bif (decide (x182 > 0)) then gidx s0 x128 fun e1156 => gidx e1156 (IntKind.wrap .i64 (x182 - 1)) fun e1157 => some (decide (e1157 ≥ e1151)) else some false : Option (Bool)) (fun x196 => some x196) : Option (Bool)) (fun x195 => bif x195 then some (Sum.inr false) else again (IntKind.wrap .i64 (x182 + 1))) else some (Sum.inl ())
def scheme_Valid_b1 (k : Nat) (p2 : (List SPart)) (s0 : (List (List Int))) (again : Int → Option ((Unit) ⊕ (Bool))) : Int → Option ((Unit) ⊕ (Bool)) := fun x128 => bif (decide (x128 < ((List.length p2) : Int))) then gidx p2 x128 fun e1130 => gidx s0 x128 fun e1131 => Option.bind (gloop (scheme_Valid_b2 k s0 x128 e1130 e1131) k 0 : Option ((Unit) ⊕ (Bool))) (Sum.elim (u0 (again (IntKind.wrap .i64 (x128 + 1)))) (fun r => some (Sum.inr r))) else some (Sum.inl ())
def scheme_Valid (k : Nat) (p0 : Int) (p1 : Int) (p2 : (List SPart)) (s0 : (List (List Int))) (s1 : (List Int)) : Option (Bool) := Option.bind (item_ValidPaper k p0 p1 p2) (fun r151 => blet ((!r151) || (((List.length s0) : Int) != ((List.length p2) : Int))) fun x52 => blet (x52 || (((List.length s1) : Int) != ((List.length p2) : Int))) fun x53 => bif x53 then some false else Option.bind (gloop (scheme_Valid_b1 k p2 s0) k 0 : Option ((Unit) ⊕ (Bool))) (Sum.elim (u0 (Option.bind (slices_ContainsFunc_int k s1) (fun r111 => some (!r111)))) (fun r => some r)))
def scheme_Valid_E (p0 : Int) (p1 : Int) (p2 : (List SPart)) (s0 : (List (List Int))) (s1 : (List Int)) : Bool → V × List Blk := fun r1 => (.d (.bool r1), [])
theorem scheme_Valid_goes (k : Nat) (p0 : Int) (p1 : Int) (p2 : (List SPart)) (s0 : (List (List Int))) (s1 : (List Int)) : RunsO Try.prog 30 [.agg [.d (.int .i64 p0), .d (.int .i64 p1), .d (.lit (List.map e_SPart p2))], .agg [.d (.lit (List.map e_Li64 s0)), .d (.lit (List.map e_i64 s1))]] [] (scheme_Valid_E p0 p1 p2 s0 s1) (scheme_Valid k p0 p1 p2 s0 s1) := by
  refine RunsO.of_goes (N := 80) (m := 0) (T := [(0, .agg [.d (.int .i64 p0), .d (.int .i64 p1), .d (.lit (List.map e_SPart p2))]), (1, .agg [.d (.lit (List.map e_Li64 s0)), .d (.lit (List.map e_i64 s1))])]) Try.func30 rfl rfl (by kernel_rfl) (by kernel_rfl) (by kernel_rfl) ?_
  unfold scheme_Valid
  refine bStart ?_
  refine oSeq ?_
  refine oRegion rfl ?_
  refine oOp (.ptr 0 0) (by kernel_rfl) (by kernel_rfl) (k_box (H' := [.box [.d (.int .i64 p0), .d (.int .i64 p1), .d (.lit (List.map e_SPart p2))]]) (cells := [.d (.int .i64 p0), .d (.int .i64 p1), .d (.lit (List.map e_SPart p2))]) (by kernel_rfl) (by kernel_rfl) (by kernel_rfl)) ?_
  refine oOp (.ptr 1 0) (by kernel_rfl) (by kernel_rfl) (k_box (H' := [.box [.d (.int .i64 p0), .d (.int .i64 p1), .d (.lit (List.map e_SPart p2))], .box [.d (.lit (List.map e_Li64 s0)), .d (.lit (List.map e_i64 s1))]]) (cells := [.d (.lit (List.map e_Li64 s0)), .d (.lit (List.map e_i64 s1))]) (by kernel_rfl) (by kernel_rfl) (by kernel_rfl)) ?_
  refine oOp (.d (.bool false)) (by kernel_rfl) (by kernel_rfl) (PureV.does (p_assign (by kernel_rfl))) ?_
  refine oEnd ?_
  refine oSeq ?_
  refine oSeq ?_
  refine oRegion rfl ?_
  refine oOp (.agg [.d (.int .i64 p0), .d (.int .i64 p1), .d (.lit (List.map e_SPart p2))]) (by kernel_rfl) (by kernel_rfl) (Quiet.does (k_loadAgg 0 0 (by kernel_rfl) Try.underlying27 (by kernel_rfl) ty27 (by kernel_rfl))) ?_
  refine bCall (caps := []) (v := (fun (r151 : Bool) => (.d (.bool r151) : V))) (H' := (fun (r151 : Bool) => ([.box [.d (.int .i64 p0), .d (.int .i64 p1), .d (.lit (List.map e_SPart p2))], .box [.d (.lit (List.map e_Li64 s0)), .d (.lit (List.map e_i64 s1))]] : List Blk))) [] _ (item_ValidPaper_goes k p0 p1 p2) (by kernel_rfl) (by kernel_rfl) rfl (by kernel_rfl) Try.func51 rfl (by kernel_rfl) (ConvRs.refl _ _) (by kernel_rfl) (by kernel_rfl) (by kernel_rfl) (by decide) (by kernel_rfl) (by kernel_rfl) (fun _ => (by kernel_rfl)) (fun _ => (by kernel_rfl)) (fun _ => (by kernel_rfl)) (fun r151 => ?_)
  refine oOp (.d (.bool (!r151))) (by kernel_rfl) (by kernel_rfl) (PureV.does (p_not (p := r151) (by kernel_rfl) (by kernel_rfl))) ?_
  refine oOp (.d (.bool (!r151))) (by kernel_rfl) (by kernel_rfl) (PureV.does (p_move (by kernel_rfl))) ?_
  refine bMeetF (H' := [.box [.d (.int .i64 p0), .d (.int .i64 p1), .d (.lit (List.map e_SPart p2))], .box [.d (.lit (List.map e_Li64 s0)), .d (.lit (List.map e_i64 s1))]]) 8 rfl ((fun (x52 : Bool) => [(2, .ptr 0 0), (3, .ptr 1 0), (20, .d (.bool x52))])) (fun x52 => ?_) (fun F hj6 => ?_)
  · refine oView (T' := [(2, .ptr 0 0), (3, .ptr 1 0), (20, .d (.bool x52))]) (H' := [.box [.d (.int .i64 p0), .d (.int .i64 p1), .d (.lit (List.map e_SPart p2))], .box [.d (.lit (List.map e_Li64 s0)), .d (.lit (List.map e_i64 s1))]]) (by kernel_rfl) (by kernel_rfl) ?_
    refine oOp (.d (.bool x52)) (by kernel_rfl) (by kernel_rfl) (PureV.does (p_move (by kernel_rfl))) ?_
    refine bMeetF (H' := [.box [.d (.int .i64 p0), .d (.int .i64 p1), .d (.lit (List.map e_SPart p2))], .box [.d (.lit (List.map e_Li64 s0)), .d (.lit (List.map e_i64 s1))]]) 8 rfl ((fun (x53 : Bool) => [(2, .ptr 0 0), (3, .ptr 1 0), (29, .d (.bool x53))])) (fun x53 => ?_) (fun F hj7 => ?_)
    · refine oView (T' := [(2, .ptr 0 0), (3, .ptr 1 0), (29, .d (.bool x53))]) (H' := [.box [.d (.int .i64 p0), .d (.int .i64 p1), .d (.lit (List.map e_SPart p2))], .box [.d (.lit (List.map e_Li64 s0)), .d (.lit (List.map e_i64 s1))]]) (by kernel_rfl) (by kernel_rfl) ?_
      refine oEnd ?_
      refine bSplit 29 (by kernel_rfl) (fun hc => ?_) (fun hc => ?_)
      · refine oCondT (by kernel_rfl) ?_
        refine oSeq ?_
        refine oRegion rfl ?_
        refine oOp (.d (.bool false)) (by kernel_rfl) (by kernel_rfl) (PureV.does (p_assign (by kernel_rfl))) ?_
        refine oEnd ?_
        exact oRet (r0 := false) (rv := .d (.bool false)) (B := []) (vs := [.d (.bool false)]) (σ := []) (by kernel_rfl) Try.func30 rfl (.cons _ _ _ _ (.tmp 4 _ (by kernel_rfl)) .nil) (by kernel_rfl) (by kernel_rfl) (by kernel_rfl) (by kernel_rfl) (by decide) (by kernel_rfl) (by kernel_rfl)
      · refine oCondF (by kernel_rfl) ?_
        refine oSkip ?_
        refine oSeq ?_
        refine oSeq ?_
        refine oRegion rfl ?_
        refine oOp (.ptr 0 2) (by kernel_rfl) (by kernel_rfl) (PureV.does (k_fieldAddr 0 0 (by kernel_rfl) Try.underlying27 rfl ty25 (by kernel_rfl))) ?_
        refine oOp (.d (.lit (List.map e_SPart p2))) (by kernel_rfl) (by kernel_rfl) (Quiet.does (k_load 0 2 (by kernel_rfl) Try.underlying25 (by kernel_rfl) (by kernel_rfl))) ?_
        refine oOp (.d (.int .i64 ((List.length p2) : Int))) (by kernel_rfl) (by kernel_rfl) (PureV.does (k_lenLit (enc := e_SPart) p2 (by kernel_rfl) Try.underlying25)) ?_
        refine oOp (.d (.int .i64 0)) (by kernel_rfl) (by kernel_rfl) (PureV.does (p_move (by kernel_rfl))) ?_
        refine oEnd ?_
        refine bJoin ((u0 ([(3, .ptr 0 0)]))) ((u0 ([.box [.d (.lit (List.map e_Li64 s0)), .d (.lit (List.map e_i64 s1))]]))) Sum.inl (fun s => ?_) (fun hj12 => ?_)
        · cases s
          refine bInl ?_
          refine bU0 ?_
          refine oView (T' := [(3, .ptr 0 0)]) (H' := [.box [.d (.lit (List.map e_Li64 s0)), .d (.lit (List.map e_i64 s1))]]) (by kernel_rfl) (by kernel_rfl) ?_
          refine oSeq ?_
          refine oRegion rfl ?_
          refine oOp (.ptr 0 1) (by kernel_rfl) (by kernel_rfl) (PureV.does (k_fieldAddr 0 0 (by kernel_rfl) Try.underlying31 rfl ty22 (by kernel_rfl))) ?_
          refine oOp (.d (.lit (List.map e_i64 s1))) (by kernel_rfl) (by kernel_rfl) (Quiet.does (k_load 0 1 (by kernel_rfl) Try.underlying22 (by kernel_rfl) (by kernel_rfl))) ?_
          refine bCall (caps := []) (v := (fun (r111 : Bool) => (.d (.bool r111) : V))) (H' := (fun (r111 : Bool) => ([.box [.d (.lit (List.map e_Li64 s0)), .d (.lit (List.map e_i64 s1))]] : List Blk))) [] _ (slices_ContainsFunc_int_goes k s1) (by kernel_rfl) (by kernel_rfl) rfl (by kernel_rfl) Try.func52 rfl (by kernel_rfl) (ConvRs.refl _ _) (by kernel_rfl) (by kernel_rfl) (by kernel_rfl) (by decide) (by kernel_rfl) (by kernel_rfl) (fun _ => (by kernel_rfl)) (fun _ => (by kernel_rfl)) (fun _ => (by kernel_rfl)) (fun r111 => ?_)
          refine oOp (.d (.bool (!r111))) (by kernel_rfl) (by kernel_rfl) (PureV.does (p_not (p := r111) (by kernel_rfl) (by kernel_rfl))) ?_
          refine oOp (.d (.bool (!r111))) (by kernel_rfl) (by kernel_rfl) (PureV.does (p_assign (by kernel_rfl))) ?_
          refine oEnd ?_
          exact oRet (r0 := (!r111)) (rv := .d (.bool (!r111))) (B := []) (vs := [.d (.bool (!r111))]) (σ := []) (by kernel_rfl) Try.func30 rfl (.cons _ _ _ _ (.tmp 4 _ (by kernel_rfl)) .nil) (by kernel_rfl) (by kernel_rfl) (by kernel_rfl) (by kernel_rfl) (by decide) (by kernel_rfl) (by kernel_rfl)
        · refine oBlock ?_
          refine oLoop ?_
          refine oHead [3, 31, 32, 33] [1] (T' := [(3, .ptr 0 0), (31, .d (.lit (List.map e_SPart p2))), (32, .d (.int .i64 ((List.length p2) : Int))), (33, .d (.int .i64 0))]) (H' := [.box [.d (.lit (List.map e_Li64 s0)), .d (.lit (List.map e_i64 s1))]]) (by kernel_rfl) (by kernel_rfl) (by kernel_rfl) (by kernel_rfl) (by decide) (by kernel_rfl) (by kernel_rfl) ?_
          refine bLoop (body := scheme_Valid_b1 k p2 s0) ((fun (x128 : Int) => [(3, .ptr 0 0), (31, .d (.lit (List.map e_SPart p2))), (32, .d (.int .i64 ((List.length p2) : Int))), (33, .d (.int .i64 x128))])) ((fun (x128 : Int) => [.box [.d (.lit (List.map e_Li64 s0)), .d (.lit (List.map e_i64 s1))]])) (fun again hag1 x128 => ?_) k 0
          · unfold scheme_Valid_b1
            refine oView (T' := [(3, .ptr 0 0), (31, .d (.lit (List.map e_SPart p2))), (32, .d (.int .i64 ((List.length p2) : Int))), (33, .d (.int .i64 x128))]) (H' := [.box [.d (.lit (List.map e_Li64 s0)), .d (.lit (List.map e_i64 s1))]]) (by kernel_rfl) (by kernel_rfl) ?_
            refine oSeq ?_
            refine oRegion rfl ?_
            refine oOp (.d (.bool (decide (x128 < ((List.length p2) : Int))))) (by kernel_rfl) (by kernel_rfl) (PureV.does (p_int (k := .i64) (p := x128) (q := ((List.length p2) : Int)) (by kernel_rfl) (by kernel_rfl) (by kernel_rfl))) ?_
            refine oEnd ?_
            refine oSeq ?_
            refine bSplit 34 (by kernel_rfl) (fun hc => ?_) (fun hc => ?_)
            · refine oCondT (by kernel_rfl) ?_
              refine oSkip ?_
              refine oSeq ?_
              refine oBlock ?_
              refine oSeq ?_
              refine oRegion rfl ?_
              refine oOp (.d (.int .i64 x128)) (by kernel_rfl) (by kernel_rfl) (PureV.does (p_move (by kernel_rfl))) ?_
              refine bIdx (fun e1130 h1260 h1261 => ?_)
              refine oOp (.lptr (e_SPart e1130) 0) (by kernel_rfl) (by kernel_rfl) (PureV.does (k_idxLit e_SPart_len p2 (a := e1130) (by kernel_rfl) (k := .i64) (i := x128) (by kernel_rfl) Try.underlying25 ty49 h1260 h1261)) ?_
              refine oOp (.agg [.d (.int .i64 e1130.Kind), .d (.int .i64 e1130.Max), .d (.int .i64 e1130.Topic), .d (.int .i64 e1130.Objective), .d (.int .i64 e1130.Options), .d (.int .i64 e1130.Key)]) (by kernel_rfl) (by kernel_rfl) (Quiet.does (k_loadLAgg (cells := e_SPart e1130) 0 [(.int .i64 e1130.Kind), (.int .i64 e1130.Max), (.int .i64 e1130.Topic), (.int .i64 e1130.Objective), (.int .i64 e1130.Options), (.int .i64 e1130.Key)] (by kernel_rfl) Try.underlying49 (by kernel_rfl) ty49 (by kernel_rfl) (by kernel_rfl) (by kernel_rfl))) ?_
              refine oOp (.ptr 1 0) (by kernel_rfl) (by kernel_rfl) (k_alloc (H' := [.box [.d (.lit (List.map e_Li64 s0)), .d (.lit (List.map e_i64 s1))], .box [.d (.int .i64 0), .d (.int .i64 0), .d (.int .i64 0), .d (.int .i64 0), .d (.int .i64 0), .d (.int .i64 0)]]) ty49 (by kernel_rfl) (by kernel_rfl)) ?_
              refine oOp (.d (.int .i64 x128)) (by kernel_rfl) (by kernel_rfl) (PureV.does (p_assign (by kernel_rfl))) ?_
              refine oOp (.undef) (by kernel_rfl) (by kernel_rfl) (k_store (vs := [.d (.int .i64 e1130.Kind), .d (.int .i64 e1130.Max), .d (.int .i64 e1130.Topic), .d (.int .i64 e1130.Objective), .d (.int .i64 e1130.Options), .d (.int .i64 e1130.Key)]) (H' := [.box [.d (.lit (List.map e_Li64 s0)), .d (.lit (List.map e_i64 s1))], .box [.d (.int .i64 e1130.Kind), .d (.int .i64 e1130.Max), .d (.int .i64 e1130.Topic), .d (.int .i64 e1130.Objective), .d (.int .i64 e1130.Options), .d (.int .i64 e1130.Key)]]) 1 0 (by kernel_rfl) ty49 (by kernel_rfl) (by kernel_rfl) (by kernel_rfl)) ?_
              refine oEnd ?_
              refine oSeq ?_
              refine oRegion rfl ?_
              refine oOp (.ptr 0 0) (by kernel_rfl) (by kernel_rfl) (PureV.does (k_fieldAddr 0 0 (by kernel_rfl) Try.underlying31 rfl ty29 (by kernel_rfl))) ?_
              refine oOp (.d (.lit (List.map e_Li64 s0))) (by kernel_rfl) (by kernel_rfl) (Quiet.does (k_load 0 0 (by kernel_rfl) Try.underlying29 (by kernel_rfl) (by kernel_rfl))) ?_
              refine oOp (.d (.int .i64 x128)) (by kernel_rfl) (by kernel_rfl) (PureV.does (p_move (by kernel_rfl))) ?_
              refine bIdx (fun e1131 h1262 h1263 => ?_)
              refine oOp (.lptr (e_Li64 e1131) 0) (by kernel_rfl) (by kernel_rfl) (PureV.does (k_idxLit e_Li64_len s0 (a := e1131) (by kernel_rfl) (k := .i64) (i := x128) (by kernel_rfl) Try.underlying29 ty22 h1262 h1263)) ?_
              refine oOp (.d (.lit (List.map e_i64 e1131))) (by kernel_rfl) (by kernel_rfl) (Quiet.does (k_loadL (cells := e_Li64 e1131) 0 (by kernel_rfl) Try.underlying22 (by kernel_rfl) (by kernel_rfl))) ?_
              refine oOp (.d (.int .i64 ((List.length e1131) : Int))) (by kernel_rfl) (by kernel_rfl) (PureV.does (k_lenLit (enc := e_i64) e1131 (by kernel_rfl) Try.underlying22)) ?_
              refine oOp (.d (.int .i64 0)) (by kernel_rfl) (by kernel_rfl) (PureV.does (p_move (by kernel_rfl))) ?_
              refine oEnd ?_
              refine bJoin ((u0 ([(3, .ptr 0 0), (31, .d (.lit (List.map e_SPart p2))), (32, .d (.int .i64 ((List.length p2) : Int))), (33, .d (.int .i64 x128))]))) ((u0 ([.box [.d (.lit (List.map e_Li64 s0)), .d (.lit (List.map e_i64 s1))]]))) Sum.inl (fun s => ?_) (fun hj18 => ?_)
              · cases s
                refine bInl ?_
                refine bU0 ?_
                refine oView (T' := [(3, .ptr 0 0), (31, .d (.lit (List.map e_SPart p2))), (32, .d (.int .i64 ((List.length p2) : Int))), (33, .d (.int .i64 x128))]) (H' := [.box [.d (.lit (List.map e_Li64 s0)), .d (.lit (List.map e_i64 s1))]]) (by kernel_rfl) (by kernel_rfl) ?_
                refine oBlk ?_
                refine oRegion rfl ?_
                refine oOp (.d (.int .i64 (IntKind.wrap .i64 (x128 + 1)))) (by kernel_rfl) (by kernel_rfl) (PureV.does (p_int (k := .i64) (p := x128) (q := 1) (by kernel_rfl) (by kernel_rfl) (by kernel_rfl))) ?_
                refine oOp (.d (.int .i64 (IntKind.wrap .i64 (x128 + 1)))) (by kernel_rfl) (by kernel_rfl) (PureV.does (p_move (by kernel_rfl))) ?_
                refine oEnd ?_
                refine oAgain ?_
                refine oHead [3, 31, 32, 33] [0] (T' := [(3, .ptr 0 0), (31, .d (.lit (List.map e_SPart p2))), (32, .d (.int .i64 ((List.length p2) : Int))), (33, .d (.int .i64 (IntKind.wrap .i64 (x128 + 1))))]) (H' := [.box [.d (.lit (List.map e_Li64 s0)), .d (.lit (List.map e_i64 s1))]]) (by kernel_rfl) (by kernel_rfl) (by kernel_rfl) (by kernel_rfl) (by decide) (by kernel_rfl) (by kernel_rfl) ?_
                exact hag1 (IntKind.wrap .i64 (x128 + 1))
              · refine oBlock ?_
                refine oLoop ?_
                refine oHead [3, 5, 6, 31, 32, 33, 42, 43, 44] [0, 1] (T' := [(3, .ptr 0 0), (5, .d (.int .i64 x128)), (6, .ptr 1 0), (31, .d (.lit (List.map e_SPart p2))), (32, .d (.int .i64 ((List.length p2) : Int))), (33, .d (.int .i64 x128)), (42, .d (.lit (List.map e_i64 e1131))), (43, .d (.int .i64 ((List.length e1131) : Int))), (44, .d (.int .i64 0))]) (H' := [.box [.d (.lit (List.map e_Li64 s0)), .d (.lit (List.map e_i64 s1))], .box [.d (.int .i64 e1130.Kind), .d (.int .i64 e1130.Max), .d (.int .i64 e1130.Topic), .d (.int .i64 e1130.Objective), .d (.int .i64 e1130.Options), .d (.int .i64 e1130.Key)]]) (by kernel_rfl) (by kernel_rfl) (by kernel_rfl) (by kernel_rfl) (by decide) (by kernel_rfl) (by kernel_rfl) ?_
                refine bLoop (body := scheme_Valid_b2 k s0 x128 e1130 e1131) ((fun (x182 : Int) => [(3, .ptr 0 0), (5, .d (.int .i64 x128)), (6, .ptr 1 0), (31, .d (.lit (List.map e_SPart p2))), (32, .d (.int .i64 ((List.length p2) : Int))), (33, .d (.int .i64 x128)), (42, .d (.lit (List.map e_i64 e1131))), (43, .d (.int .i64 ((List.length e1131) : Int))), (44, .d (.int .i64 x182))])) ((fun (x182 : Int) => [.box [.d (.lit (List.map e_Li64 s0)), .d (.lit (List.map e_i64 s1))], .box [.d (.int .i64 e1130.Kind), .d (.int .i64 e1130.Max), .d (.int .i64 e1130.Topic), .d (.int .i64 e1130.Objective), .d (.int .i64 e1130.Options), .d (.int .i64 e1130.Key)]])) (fun again hag2 x182 => ?_) k 0
                · unfold scheme_Valid_b2
                  refine oView (T' := [(3, .ptr 0 0), (5, .d (.int .i64 x128)), (6, .ptr 1 0), (31, .d (.lit (List.map e_SPart p2))), (32, .d (.int .i64 ((List.length p2) : Int))), (33, .d (.int .i64 x128)), (42, .d (.lit (List.map e_i64 e1131))), (43, .d (.int .i64 ((List.length e1131) : Int))), (44, .d (.int .i64 x182))]) (H' := [.box [.d (.lit (List.map e_Li64 s0)), .d (.lit (List.map e_i64 s1))], .box [.d (.int .i64 e1130.Kind), .d (.int .i64 e1130.Max), .d (.int .i64 e1130.Topic), .d (.int .i64 e1130.Objective), .d (.int .i64 e1130.Options), .d (.int .i64 e1130.Key)]]) (by kernel_rfl) (by kernel_rfl) ?_
                  refine oSeq ?_
                  refine oRegion rfl ?_
                  refine oOp (.d (.bool (decide (x182 < ((List.length e1131) : Int))))) (by kernel_rfl) (by kernel_rfl) (PureV.does (p_int (k := .i64) (p := x182) (q := ((List.length e1131) : Int)) (by kernel_rfl) (by kernel_rfl) (by kernel_rfl))) ?_
                  refine oEnd ?_
                  refine oSeq ?_
                  refine bSplit 45 (by kernel_rfl) (fun hc => ?_) (fun hc => ?_)
                  · refine oCondT (by kernel_rfl) ?_
                    refine oSkip ?_
                    refine oSeq ?_
                    refine oBlock ?_
                    refine oSeq ?_
                    refine oRegion rfl ?_
                    refine oOp (.d (.int .i64 x182)) (by kernel_rfl) (by kernel_rfl) (PureV.does (p_move (by kernel_rfl))) ?_
                    refine bIdx (fun e1151 h1302 h1303 => ?_)
                    refine oOp (.lptr (e_i64 e1151) 0) (by kernel_rfl) (by kernel_rfl) (PureV.does (k_idxLit e_i64_len e1131 (a := e1151) (by kernel_rfl) (k := .i64) (i := x182) (by kernel_rfl) Try.underlying22 ty3 h1302 h1303)) ?_
                    refine oOp (.d (.int .i64 e1151)) (by kernel_rfl) (by kernel_rfl) (Quiet.does (k_loadL (cells := e_i64 e1151) 0 (by kernel_rfl) Try.underlying3 (by kernel_rfl) (by kernel_rfl))) ?_
                    refine oOp (.d (.int .i64 x182)) (by kernel_rfl) (by kernel_rfl) (PureV.does (p_assign (by kernel_rfl))) ?_
                    refine oOp (.d (.int .i64 e1151)) (by kernel_rfl) (by kernel_rfl) (PureV.does (p_assign (by kernel_rfl))) ?_
                    refine oEnd ?_
                    refine oSeq ?_
                    refine oRegion rfl ?_
                    refine oOp (.d (.int .i64 e1151)) (by kernel_rfl) (by kernel_rfl) (PureV.does (p_move (by kernel_rfl))) ?_
                    refine oOp (.d (.bool (decide (e1151 < 0)))) (by kernel_rfl) (by kernel_rfl) (PureV.does (p_int (k := .i64) (p := e1151) (q := 0) (by kernel_rfl) (by kernel_rfl) (by kernel_rfl))) ?_
                    refine oOp (.d (.bool (decide (e1151 < 0)))) (by kernel_rfl) (by kernel_rfl) (PureV.does (p_move (by kernel_rfl))) ?_
                    refine bMeetF (H' := [.box [.d (.lit (List.map e_Li64 s0)), .d (.lit (List.map e_i64 s1))], .box [.d (.int .i64 e1130.Kind), .d (.int .i64 e1130.Max), .d (.int .i64 e1130.Topic), .d (.int .i64 e1130.Objective), .d (.int .i64 e1130.Options), .d (.int .i64 e1130.Key)]]) 5 rfl ((fun (x193 : Bool) => [(3, .ptr 0 0), (5, .d (.int .i64 x128)), (6, .ptr 1 0), (7, .d (.int .i64 x182)), (8, .d (.int .i64 e1151)), (31, .d (.lit (List.map e_SPart p2))), (32, .d (.int .i64 ((List.length p2) : Int))), (33, .d (.int .i64 x128)), (42, .d (.lit (List.map e_i64 e1131))), (43, .d (.int .i64 ((List.length e1131) : Int))), (44, .d (.int .i64 x182)), (56, .d (.bool x193))])) (fun x193 => ?_) (fun F hj19 => ?_)
                    · refine oView (T' := [(3, .ptr 0 0), (5, .d (.int .i64 x128)), (6, .ptr 1 0), (7, .d (.int .i64 x182)), (8, .d (.int .i64 e1151)), (31, .d (.lit (List.map e_SPart p2))), (32, .d (.int .i64 ((List.length p2) : Int))), (33, .d (.int .i64 x128)), (42, .d (.lit (List.map e_i64 e1131))), (43, .d (.int .i64 ((List.length e1131) : Int))), (44, .d (.int .i64 x182)), (56, .d (.bool x193))]) (H' := [.box [.d (.lit (List.map e_Li64 s0)), .d (.lit (List.map e_i64 s1))], .box [.d (.int .i64 e1130.Kind), .d (.int .i64 e1130.Max), .d (.int .i64 e1130.Topic), .d (.int .i64 e1130.Objective), .d (.int .i64 e1130.Options), .d (.int .i64 e1130.Key)]]) (by kernel_rfl) (by kernel_rfl) ?_
                      refine oOp (.d (.bool x193)) (by kernel_rfl) (by kernel_rfl) (PureV.does (p_move (by kernel_rfl))) ?_
                      refine bMeet 16 rfl ((fun (x195 : Bool) => [(3, .ptr 0 0), (5, .d (.int .i64 x128)), (6, .ptr 1 0), (31, .d (.lit (List.map e_SPart p2))), (32, .d (.int .i64 ((List.length p2) : Int))), (33, .d (.int .i64 x128)), (42, .d (.lit (List.map e_i64 e1131))), (43, .d (.int .i64 ((List.length e1131) : Int))), (44, .d (.int .i64 x182)), (73, .d (.bool x195))])) ((fun (x195 : Bool) => [.box [.d (.lit (List.map e_Li64 s0)), .d (.lit (List.map e_i64 s1))], .box [.d (.int .i64 e1130.Kind), .d (.int .i64 e1130.Max), .d (.int .i64 e1130.Topic), .d (.int .i64 e1130.Objective), .d (.int .i64 e1130.Options), .d (.int .i64 e1130.Key)]])) (fun s => s) (fun x195 => ?_) (fun hj20 => ?_)
                      · refine oView (T' := [(3, .ptr 0 0), (5, .d (.int .i64 x128)), (6, .ptr 1 0), (31, .d (.lit (List.map e_SPart p2))), (32, .d (.int .i64 ((List.length p2) : Int))), (33, .d (.int .i64 x128)), (42, .d (.lit (List.map e_i64 e1131))), (43, .d (.int .i64 ((List.length e1131) : Int))), (44, .d (.int .i64 x182)), (73, .d (.bool x195))]) (H' := [.box [.d (.lit (List.map e_Li64 s0)), .d (.lit (List.map e_i64 s1))], .box [.d (.int .i64 e1130.Kind), .d (.int .i64 e1130.Max), .d (.int .i64 e1130.Topic), .d (.int .i64 e1130.Objective), .d (.int .i64 e1130.Options), .d (.int .i64 e1130.Key)]]) (by kernel_rfl) (by kernel_rfl) ?_
                        refine oEnd ?_
                        refine bSplit 73 (by kernel_rfl) (fun hc => ?_) (fun hc => ?_)
                        · refine oCondT (by kernel_rfl) ?_
                          refine oSeq ?_
                          refine oRegion rfl ?_
                          refine oOp (.d (.bool false)) (by kernel_rfl) (by kernel_rfl) (PureV.does (p_assign (by kernel_rfl))) ?_
                          refine oEnd ?_
                          exact oRet (r0 := false) (rv := .d (.bool false)) (B := []) (vs := [.d (.bool false)]) (σ := []) (by kernel_rfl) Try.func30 rfl (.cons _ _ _ _ (.tmp 4 _ (by kernel_rfl)) .nil) (by kernel_rfl) (by kernel_rfl) (by kernel_rfl) (by kernel_rfl) (by decide) (by kernel_rfl) (by kernel_rfl)
                        · refine oCondF (by kernel_rfl) ?_
                          refine oSkip ?_
                          refine oBlk ?_
                          refine oRegion rfl ?_
                          refine oOp (.d (.int .i64 (IntKind.wrap .i64 (x182 + 1)))) (by kernel_rfl) (by kernel_rfl) (PureV.does (p_int (k := .i64) (p := x182) (q := 1) (by kernel_rfl) (by kernel_rfl) (by kernel_rfl))) ?_
                          refine oOp (.d (.int .i64 (IntKind.wrap .i64 (x182 + 1)))) (by kernel_rfl) (by kernel_rfl) (PureV.does (p_move (by kernel_rfl))) ?_
                          refine oEnd ?_
                          refine oAgain ?_
                          refine oHead [3, 5, 6, 31, 32, 33, 42, 43, 44] [0, 1] (T' := [(3, .ptr 0 0), (5, .d (.int .i64 x128)), (6, .ptr 1 0), (31, .d (.lit (List.map e_SPart p2))), (32, .d (.int .i64 ((List.length p2) : Int))), (33, .d (.int .i64 x128)), (42, .d (.lit (List.map e_i64 e1131))), (43, .d (.int .i64 ((List.length e1131) : Int))), (44, .d (.int .i64 (IntKind.wrap .i64 (x182 + 1))))]) (H' := [.box [.d (.lit (List.map e_Li64 s0)), .d (.lit (List.map e_i64 s1))], .box [.d (.int .i64 e1130.Kind), .d (.int .i64 e1130.Max), .d (.int .i64 e1130.Topic), .d (.int .i64 e1130.Objective), .d (.int .i64 e1130.Options), .d (.int .i64 e1130.Key)]]) (by kernel_rfl) (by kernel_rfl) (by kernel_rfl) (by kernel_rfl) (by decide) (by kernel_rfl) (by kernel_rfl) ?_
                          exact hag2 (IntKind.wrap .i64 (x182 + 1))
                      · refine bSplit 57 (by kernel_rfl) (fun hc => ?_) (fun hc => ?_)
                        · refine oNot (by kernel_rfl) (by kernel_rfl) ?_
                          refine oNot (by kernel_rfl) (by kernel_rfl) ?_
                          refine oNot (by kernel_rfl) (by kernel_rfl) ?_
                          refine oNot (by kernel_rfl) (by kernel_rfl) ?_
                          refine oNot (by kernel_rfl) (by kernel_rfl) ?_
                          refine oNot (by kernel_rfl) (by kernel_rfl) ?_
                          refine oNot (by kernel_rfl) (by kernel_rfl) ?_
                          refine oNot (by kernel_rfl) (by kernel_rfl) ?_
                          refine oNot (by kernel_rfl) (by kernel_rfl) ?_
                          refine oNot (by kernel_rfl) (by kernel_rfl) ?_
                          refine oNot (by kernel_rfl) (by kernel_rfl) ?_
                          refine oNot (by kernel_rfl) (by kernel_rfl) ?_
                          refine oNot (by kernel_rfl) (by kernel_rfl) ?_
                          refine oNot (by kernel_rfl) (by kernel_rfl) ?_
                          refine oNot (by kernel_rfl) (by kernel_rfl) ?_
                          refine oOp (.d (.bool true)) (by kernel_rfl) (by kernel_rfl) (PureV.does (p_pick (b := true) (by kernel_rfl) (by kernel_rfl))) ?_
                          refine oHead [3, 5, 6, 31, 32, 33, 42, 43, 44, 73] [0, 1] (T' := [(3, .ptr 0 0), (5, .d (.int .i64 x128)), (6, .ptr 1 0), (31, .d (.lit (List.map e_SPart p2))), (32, .d (.int .i64 ((List.length p2) : Int))), (33, .d (.int .i64 x128)), (42, .d (.lit (List.map e_i64 e1131))), (43, .d (.int .i64 ((List.length e1131) : Int))), (44, .d (.int .i64 x182)), (73, .d (.bool true))]) (H' := [.box [.d (.lit (List.map e_Li64 s0)), .d (.lit (List.map e_i64 s1))], .box [.d (.int .i64 e1130.Kind), .d (.int .i64 e1130.Max), .d (.int .i64 e1130.Topic), .d (.int .i64 e1130.Objective), .d (.int .i64 e1130.Options), .d (.int .i64 e1130.Key)]]) (by kernel_rfl) (by kernel_rfl) (by kernel_rfl) (by kernel_rfl) (by decide) (by kernel_rfl) (by kernel_rfl) ?_
                          exact hj20 true
                        · refine oOp (.d (.int .i64 x182)) (by kernel_rfl) (by kernel_rfl) (PureV.does (p_move (by kernel_rfl))) ?_
                          refine oOp (.d (.bool (decide (x182 > 0)))) (by kernel_rfl) (by kernel_rfl) (PureV.does (p_int (k := .i64) (p := x182) (q := 0) (by kernel_rfl) (by kernel_rfl) (by kernel_rfl))) ?_
                          refine oOp (.d (.bool (decide (x182 > 0)))) (by kernel_rfl) (by kernel_rfl) (PureV.does (p_move (by kernel_rfl))) ?_
                          refine bMeet 12 rfl ((fun (x196 : Bool) => [(3, .ptr 0 0), (5, .d (.int .i64 x128)), (6, .ptr 1 0), (31, .d (.lit (List.map e_SPart p2))), (32, .d (.int .i64 ((List.length p2) : Int))), (33, .d (.int .i64 x128)), (42, .d (.lit (List.map e_i64 e1131))), (43, .d (.int .i64 ((List.length e1131) : Int))), (44, .d (.int .i64 x182)), (57, .d (.bool false)), (72, .d (.bool x196))])) ((fun (x196 : Bool) => [.box [.d (.lit (List.map e_Li64 s0)), .d (.lit (List.map e_i64 s1))], .box [.d (.int .i64 e1130.Kind), .d (.int .i64 e1130.Max), .d (.int .i64 e1130.Topic), .d (.int .i64 e1130.Objective), .d (.int .i64 e1130.Options), .d (.int .i64 e1130.Key)]])) (fun s => s) (fun x196 => ?_) (fun hj21 => ?_)
                          · refine oView (T' := [(3, .ptr 0 0), (5, .d (.int .i64 x128)), (6, .ptr 1 0), (31, .d (.lit (List.map e_SPart p2))), (32, .d (.int .i64 ((List.length p2) : Int))), (33, .d (.int .i64 x128)), (42, .d (.lit (List.map e_i64 e1131))), (43, .d (.int .i64 ((List.length e1131) : Int))), (44, .d (.int .i64 x182)), (57, .d (.bool false)), (72, .d (.bool x196))]) (H' := [.box [.d (.lit (List.map e_Li64 s0)), .d (.lit (List.map e_i64 s1))], .box [.d (.int .i64 e1130.Kind), .d (.int .i64 e1130.Max), .d (.int .i64 e1130.Topic), .d (.int .i64 e1130.Objective), .d (.int .i64 e1130.Options), .d (.int .i64 e1130.Key)]]) (by kernel_rfl) (by kernel_rfl) ?_
                            refine oOp (.d (.bool x196)) (by kernel_rfl) (by kernel_rfl) (PureV.does (p_pick (b := false) (by kernel_rfl) (by kernel_rfl))) ?_
                            refine oHead [3, 5, 6, 31, 32, 33, 42, 43, 44, 73] [0, 1] (T' := [(3, .ptr 0 0), (5, .d (.int .i64 x128)), (6, .ptr 1 0), (31, .d (.lit (List.map e_SPart p2))), (32, .d (.int .i64 ((List.length p2) : Int))), (33, .d (.int .i64 x128)), (42, .d (.lit (List.map e_i64 e1131))), (43, .d (.int .i64 ((List.length e1131) : Int))), (44, .d (.int .i64 x182)), (73, .d (.bool x196))]) (H' := [.box [.d (.lit (List.map e_Li64 s0)), .d (.lit (List.map e_i64 s1))], .box [.d (.int .i64 e1130.Kind), .d (.int .i64 e1130.Max), .d (.int .i64 e1130.Topic), .d (.int .i64 e1130.Objective), .d (.int .i64 e1130.Options), .d (.int .i64 e1130.Key)]]) (by kernel_rfl) (by kernel_rfl) (by kernel_rfl) (by kernel_rfl) (by decide) (by kernel_rfl) (by kernel_rfl) ?_
                            exact hj20 x196
                          · refine bSplit 60 (by kernel_rfl) (fun hc => ?_) (fun hc => ?_)
                            · refine oOp (.ptr 0 0) (by kernel_rfl) (by kernel_rfl) (PureV.does (k_fieldAddr 0 0 (by kernel_rfl) Try.underlying31 rfl ty29 (by kernel_rfl))) ?_
                              refine oOp (.d (.lit (List.map e_Li64 s0))) (by kernel_rfl) (by kernel_rfl) (Quiet.does (k_load 0 0 (by kernel_rfl) Try.underlying29 (by kernel_rfl) (by kernel_rfl))) ?_
                              refine oOp (.d (.int .i64 x128)) (by kernel_rfl) (by kernel_rfl) (PureV.does (p_move (by kernel_rfl))) ?_
                              refine bIdx (fun e1156 h1312 h1313 => ?_)
                              refine oOp (.lptr (e_Li64 e1156) 0) (by kernel_rfl) (by kernel_rfl) (PureV.does (k_idxLit e_Li64_len s0 (a := e1156) (by kernel_rfl) (k := .i64) (i := x128) (by kernel_rfl) Try.underlying29 ty22 h1312 h1313)) ?_
                              refine oOp (.d (.lit (List.map e_i64 e1156))) (by kernel_rfl) (by kernel_rfl) (Quiet.does (k_loadL (cells := e_Li64 e1156) 0 (by kernel_rfl) Try.underlying22 (by kernel_rfl) (by kernel_rfl))) ?_
                              refine oOp (.d (.int .i64 x182)) (by kernel_rfl) (by kernel_rfl) (PureV.does (p_move (by kernel_rfl))) ?_
                              refine oOp (.d (.int .i64 (IntKind.wrap .i64 (x182 - 1)))) (by kernel_rfl) (by kernel_rfl) (PureV.does (p_int (k := .i64) (p := x182) (q := 1) (by kernel_rfl) (by kernel_rfl) (by kernel_rfl))) ?_
                              refine bIdx (fun e1157 h1314 h1315 => ?_)
                              refine oOp (.lptr (e_i64 e1157) 0) (by kernel_rfl) (by kernel_rfl) (PureV.does (k_idxLit e_i64_len e1156 (a := e1157) (by kernel_rfl) (k := .i64) (i := (IntKind.wrap .i64 (x182 - 1))) (by kernel_rfl) Try.underlying22 ty3 h1314 h1315)) ?_
                              refine oOp (.d (.int .i64 e1157)) (by kernel_rfl) (by kernel_rfl) (Quiet.does (k_loadL (cells := e_i64 e1157) 0 (by kernel_rfl) Try.underlying3 (by kernel_rfl) (by kernel_rfl))) ?_
                              refine oOp (.d (.int .i64 e1151)) (by kernel_rfl) (by kernel_rfl) (PureV.does (p_move (by kernel_rfl))) ?_
                              refine oOp (.d (.bool (decide (e1157 ≥ e1151)))) (by kernel_rfl) (by kernel_rfl) (PureV.does (p_int (k := .i64) (p := e1157) (q := e1151) (by kernel_rfl) (by kernel_rfl) (by kernel_rfl))) ?_
                              refine oOp (.d (.bool (decide (e1157 ≥ e1151)))) (by kernel_rfl) (by kernel_rfl) (PureV.does (p_pick (b := true) (by kernel_rfl) (by kernel_rfl))) ?_
                              refine oHead [3, 5, 6, 31, 32, 33, 42, 43, 44, 57, 72] [0, 1] (T' := [(3, .ptr 0 0), (5, .d (.int .i64 x128)), (6, .ptr 1 0), (31, .d (.lit (List.map e_SPart p2))), (32, .d (.int .i64 ((List.length p2) : Int))), (33, .d (.int .i64 x128)), (42, .d (.lit (List.map e_i64 e1131))), (43, .d (.int .i64 ((List.length e1131) : Int))), (44, .d (.int .i64 x182)), (57, .d (.bool false)), (72, .d (.bool (decide (e1157 ≥ e1151))))]) (H' := [.box [.d (.lit (List.map e_Li64 s0)), .d (.lit (List.map e_i64 s1))], .box [.d (.int .i64 e1130.Kind), .d (.int .i64 e1130.Max), .d (.int .i64 e1130.Topic), .d (.int .i64 e1130.Objective), .d (.int .i64 e1130.Options), .d (.int .i64 e1130.Key)]]) (by kernel_rfl) (by kernel_rfl) (by kernel_rfl) (by kernel_rfl) (by decide) (by kernel_rfl) (by kernel_rfl) ?_
                              exact hj21 (decide (e1157 ≥ e1151))
                            · refine oNot (by kernel_rfl) (by kernel_rfl) ?_
                              refine oNot (by kernel_rfl) (by kernel_rfl) ?_
                              refine oNot (by kernel_rfl) (by kernel_rfl) ?_
                              refine oNot (by kernel_rfl) (by kernel_rfl) ?_
                              refine oNot (by kernel_rfl) (by kernel_rfl) ?_
                              refine oNot (by kernel_rfl) (by kernel_rfl) ?_
                              refine oNot (by kernel_rfl) (by kernel_rfl) ?_
                              refine oNot (by kernel_rfl) (by kernel_rfl) ?_
                              refine oNot (by kernel_rfl) (by kernel_rfl) ?_
                              refine oNot (by kernel_rfl) (by kernel_rfl) ?_
                              refine oNot (by kernel_rfl) (by kernel_rfl) ?_
                              refine oOp (.d (.bool false)) (by kernel_rfl) (by kernel_rfl) (PureV.does (p_pick (b := false) (by kernel_rfl) (by kernel_rfl))) ?_
                              refine oHead [3, 5, 6, 31, 32, 33, 42, 43, 44, 57, 72] [0, 1] (T' := [(3, .ptr 0 0), (5, .d (.int .i64 x128)), (6, .ptr 1 0), (31, .d (.lit (List.map e_SPart p2))), (32, .d (.int .i64 ((List.length p2) : Int))), (33, .d (.int .i64 x128)), (42, .d (.lit (List.map e_i64 e1131))), (43, .d (.int .i64 ((List.length e1131) : Int))), (44, .d (.int .i64 x182)), (57, .d (.bool false)), (72, .d (.bool false))]) (H' := [.box [.d (.lit (List.map e_Li64 s0)), .d (.lit (List.map e_i64 s1))], .box [.d (.int .i64 e1130.Kind), .d (.int .i64 e1130.Max), .d (.int .i64 e1130.Topic), .d (.int .i64 e1130.Objective), .d (.int .i64 e1130.Options), .d (.int .i64 e1130.Key)]]) (by kernel_rfl) (by kernel_rfl) (by kernel_rfl) (by kernel_rfl) (by decide) (by kernel_rfl) (by kernel_rfl) ?_
                              exact hj21 false
                    · refine bPickF 51 (fun c => F (c || (decide (e1151 ≥ e1130.Options)))) (by kernel_rfl) (fun hc => ?_) (fun hc => ?_)
                      · refine oNot (by kernel_rfl) (by kernel_rfl) ?_
                        refine oNot (by kernel_rfl) (by kernel_rfl) ?_
                        refine oNot (by kernel_rfl) (by kernel_rfl) ?_
                        refine oNot (by kernel_rfl) (by kernel_rfl) ?_
                        refine oOp (.d (.bool true)) (by kernel_rfl) (by kernel_rfl) (PureV.does (p_pick (b := true) (by kernel_rfl) (by kernel_rfl))) ?_
                        refine oHead [3, 5, 6, 7, 8, 31, 32, 33, 42, 43, 44, 56] [0, 1] (T' := [(3, .ptr 0 0), (5, .d (.int .i64 x128)), (6, .ptr 1 0), (7, .d (.int .i64 x182)), (8, .d (.int .i64 e1151)), (31, .d (.lit (List.map e_SPart p2))), (32, .d (.int .i64 ((List.length p2) : Int))), (33, .d (.int .i64 x128)), (42, .d (.lit (List.map e_i64 e1131))), (43, .d (.int .i64 ((List.length e1131) : Int))), (44, .d (.int .i64 x182)), (56, .d (.bool true))]) (H' := [.box [.d (.lit (List.map e_Li64 s0)), .d (.lit (List.map e_i64 s1))], .box [.d (.int .i64 e1130.Kind), .d (.int .i64 e1130.Max), .d (.int .i64 e1130.Topic), .d (.int .i64 e1130.Objective), .d (.int .i64 e1130.Options), .d (.int .i64 e1130.Key)]]) (by kernel_rfl) (by kernel_rfl) (by kernel_rfl) (by kernel_rfl) (by decide) (by kernel_rfl) (by kernel_rfl) ?_
                        exact hj19 true
                      · refine oOp (.d (.int .i64 e1151)) (by kernel_rfl) (by kernel_rfl) (PureV.does (p_move (by kernel_rfl))) ?_
                        refine oOp (.ptr 1 4) (by kernel_rfl) (by kernel_rfl) (PureV.does (k_fieldAddr 1 0 (by kernel_rfl) Try.underlying49 rfl ty3 (by kernel_rfl))) ?_
                        refine oOp (.d (.int .i64 e1130.Options)) (by kernel_rfl) (by kernel_rfl) (Quiet.does (k_load 1 4 (by kernel_rfl) Try.underlying3 (by kernel_rfl) (by kernel_rfl))) ?_
                        refine oOp (.d (.bool (decide (e1151 ≥ e1130.Options)))) (by kernel_rfl) (by kernel_rfl) (PureV.does (p_int (k := .i64) (p := e1151) (q := e1130.Options) (by kernel_rfl) (by kernel_rfl) (by kernel_rfl))) ?_
                        refine oOp (.d (.bool (decide (e1151 ≥ e1130.Options)))) (by kernel_rfl) (by kernel_rfl) (PureV.does (p_pick (b := false) (by kernel_rfl) (by kernel_rfl))) ?_
                        refine oHead [3, 5, 6, 7, 8, 31, 32, 33, 42, 43, 44, 56] [0, 1] (T' := [(3, .ptr 0 0), (5, .d (.int .i64 x128)), (6, .ptr 1 0), (7, .d (.int .i64 x182)), (8, .d (.int .i64 e1151)), (31, .d (.lit (List.map e_SPart p2))), (32, .d (.int .i64 ((List.length p2) : Int))), (33, .d (.int .i64 x128)), (42, .d (.lit (List.map e_i64 e1131))), (43, .d (.int .i64 ((List.length e1131) : Int))), (44, .d (.int .i64 x182)), (56, .d (.bool (decide (e1151 ≥ e1130.Options))))]) (H' := [.box [.d (.lit (List.map e_Li64 s0)), .d (.lit (List.map e_i64 s1))], .box [.d (.int .i64 e1130.Kind), .d (.int .i64 e1130.Max), .d (.int .i64 e1130.Topic), .d (.int .i64 e1130.Objective), .d (.int .i64 e1130.Options), .d (.int .i64 e1130.Key)]]) (by kernel_rfl) (by kernel_rfl) (by kernel_rfl) (by kernel_rfl) (by decide) (by kernel_rfl) (by kernel_rfl) ?_
                        exact hj19 (decide (e1151 ≥ e1130.Options))
                  · refine oCondF (by kernel_rfl) ?_
                    refine oExit rfl ?_
                    refine oHead [3, 31, 32, 33] [0] (T' := [(3, .ptr 0 0), (31, .d (.lit (List.map e_SPart p2))), (32, .d (.int .i64 ((List.length p2) : Int))), (33, .d (.int .i64 x128))]) (H' := [.box [.d (.lit (List.map e_Li64 s0)), .d (.lit (List.map e_i64 s1))]]) (by kernel_rfl) (by kernel_rfl) (by kernel_rfl) (by kernel_rfl) (by decide) (by kernel_rfl) (by kernel_rfl) ?_
                    exact hj18 ()
            · refine oCondF (by kernel_rfl) ?_
              refine oExit rfl ?_
              refine oHead [3] [0] (T' := [(3, .ptr 0 0)]) (H' := [.box [.d (.lit (List.map e_Li64 s0)), .d (.lit (List.map e_i64 s1))]]) (by kernel_rfl) (by kernel_rfl) (by kernel_rfl) (by kernel_rfl) (by decide) (by kernel_rfl) (by kernel_rfl) ?_
              exact hj12 ()
    · refine bPickF 21 (fun c => F (c || (((List.length s1) : Int) != ((List.length p2) : Int)))) (by kernel_rfl) (fun hc => ?_) (fun hc => ?_)
      · refine oNot (by kernel_rfl) (by kernel_rfl) ?_
        refine oNot (by kernel_rfl) (by kernel_rfl) ?_
        refine oNot (by kernel_rfl) (by kernel_rfl) ?_
        refine oNot (by kernel_rfl) (by kernel_rfl) ?_
        refine oNot (by kernel_rfl) (by kernel_rfl) ?_
        refine oNot (by kernel_rfl) (by kernel_rfl) ?_
        refine oNot (by kernel_rfl) (by kernel_rfl) ?_
        refine oOp (.d (.bool true)) (by kernel_rfl) (by kernel_rfl) (PureV.does (p_pick (b := true) (by kernel_rfl) (by kernel_rfl))) ?_
        refine oHead [2, 3, 29] [0, 1] (T' := [(2, .ptr 0 0), (3, .ptr 1 0), (29, .d (.bool true))]) (H' := [.box [.d (.int .i64 p0), .d (.int .i64 p1), .d (.lit (List.map e_SPart p2))], .box [.d (.lit (List.map e_Li64 s0)), .d (.lit (List.map e_i64 s1))]]) (by kernel_rfl) (by kernel_rfl) (by kernel_rfl) (by kernel_rfl) (by decide) (by kernel_rfl) (by kernel_rfl) ?_
        exact hj7 true
      · refine oOp (.ptr 1 1) (by kernel_rfl) (by kernel_rfl) (PureV.does (k_fieldAddr 1 0 (by kernel_rfl) Try.underlying31 rfl ty22 (by kernel_rfl))) ?_
        refine oOp (.d (.lit (List.map e_i64 s1))) (by kernel_rfl) (by kernel_rfl) (Quiet.does (k_load 1 1 (by kernel_rfl) Try.underlying22 (by kernel_rfl) (by kernel_rfl))) ?_
        refine oOp (.d (.int .i64 ((List.length s1) : Int))) (by kernel_rfl) (by kernel_rfl) (PureV.does (k_lenLit (enc := e_i64) s1 (by kernel_rfl) Try.underlying22)) ?_
        refine oOp (.ptr 0 2) (by kernel_rfl) (by kernel_rfl) (PureV.does (k_fieldAddr 0 0 (by kernel_rfl) Try.underlying27 rfl ty25 (by kernel_rfl))) ?_
        refine oOp (.d (.lit (List.map e_SPart p2))) (by kernel_rfl) (by kernel_rfl) (Quiet.does (k_load 0 2 (by kernel_rfl) Try.underlying25 (by kernel_rfl) (by kernel_rfl))) ?_
        refine oOp (.d (.int .i64 ((List.length p2) : Int))) (by kernel_rfl) (by kernel_rfl) (PureV.does (k_lenLit (enc := e_SPart) p2 (by kernel_rfl) Try.underlying25)) ?_
        refine oOp (.d (.bool (((List.length s1) : Int) != ((List.length p2) : Int)))) (by kernel_rfl) (by kernel_rfl) (PureV.does (p_int (k := .i64) (p := ((List.length s1) : Int)) (q := ((List.length p2) : Int)) (by kernel_rfl) (by kernel_rfl) (by kernel_rfl))) ?_
        refine oOp (.d (.bool (((List.length s1) : Int) != ((List.length p2) : Int)))) (by kernel_rfl) (by kernel_rfl) (PureV.does (p_pick (b := false) (by kernel_rfl) (by kernel_rfl))) ?_
        refine oHead [2, 3, 29] [0, 1] (T' := [(2, .ptr 0 0), (3, .ptr 1 0), (29, .d (.bool (((List.length s1) : Int) != ((List.length p2) : Int))))]) (H' := [.box [.d (.int .i64 p0), .d (.int .i64 p1), .d (.lit (List.map e_SPart p2))], .box [.d (.lit (List.map e_Li64 s0)), .d (.lit (List.map e_i64 s1))]]) (by kernel_rfl) (by kernel_rfl) (by kernel_rfl) (by kernel_rfl) (by decide) (by kernel_rfl) (by kernel_rfl) ?_
        exact hj7 (((List.length s1) : Int) != ((List.length p2) : Int))
  · refine bPickF 12 (fun c => F (c || (((List.length s0) : Int) != ((List.length p2) : Int)))) (by kernel_rfl) (fun hc => ?_) (fun hc => ?_)
    · refine oNot (by kernel_rfl) (by kernel_rfl) ?_
      refine oNot (by kernel_rfl) (by kernel_rfl) ?_
      refine oNot (by kernel_rfl) (by kernel_rfl) ?_
      refine oNot (by kernel_rfl) (by kernel_rfl) ?_
      refine oNot (by kernel_rfl) (by kernel_rfl) ?_
      refine oNot (by kernel_rfl) (by kernel_rfl) ?_
      refine oNot (by kernel_rfl) (by kernel_rfl) ?_
      refine oOp (.d (.bool true)) (by kernel_rfl) (by kernel_rfl) (PureV.does (p_pick (b := true) (by kernel_rfl) (by kernel_rfl))) ?_
      refine oHead [2, 3, 20] [0, 1] (T' := [(2, .ptr 0 0), (3, .ptr 1 0), (20, .d (.bool true))]) (H' := [.box [.d (.int .i64 p0), .d (.int .i64 p1), .d (.lit (List.map e_SPart p2))], .box [.d (.lit (List.map e_Li64 s0)), .d (.lit (List.map e_i64 s1))]]) (by kernel_rfl) (by kernel_rfl) (by kernel_rfl) (by kernel_rfl) (by decide) (by kernel_rfl) (by kernel_rfl) ?_
      exact hj6 true
    · refine oOp (.ptr 1 0) (by kernel_rfl) (by kernel_rfl) (PureV.does (k_fieldAddr 1 0 (by kernel_rfl) Try.underlying31 rfl ty29 (by kernel_rfl))) ?_
      refine oOp (.d (.lit (List.map e_Li64 s0))) (by kernel_rfl) (by kernel_rfl) (Quiet.does (k_load 1 0 (by kernel_rfl) Try.underlying29 (by kernel_rfl) (by kernel_rfl))) ?_
      refine oOp (.d (.int .i64 ((List.length s0) : Int))) (by kernel_rfl) (by kernel_rfl) (PureV.does (k_lenLit (enc := e_Li64) s0 (by kernel_rfl) Try.underlying29)) ?_
      refine oOp (.ptr 0 2) (by kernel_rfl) (by kernel_rfl) (PureV.does (k_fieldAddr 0 0 (by kernel_rfl) Try.underlying27 rfl ty25 (by kernel_rfl))) ?_
      refine oOp (.d (.lit (List.map e_SPart p2))) (by kernel_rfl) (by kernel_rfl) (Quiet.does (k_load 0 2 (by kernel_rfl) Try.underlying25 (by kernel_rfl) (by kernel_rfl))) ?_
      refine oOp (.d (.int .i64 ((List.length p2) : Int))) (by kernel_rfl) (by kernel_rfl) (PureV.does (k_lenLit (enc := e_SPart) p2 (by kernel_rfl) Try.underlying25)) ?_
      refine oOp (.d (.bool (((List.length s0) : Int) != ((List.length p2) : Int)))) (by kernel_rfl) (by kernel_rfl) (PureV.does (p_int (k := .i64) (p := ((List.length s0) : Int)) (q := ((List.length p2) : Int)) (by kernel_rfl) (by kernel_rfl) (by kernel_rfl))) ?_
      refine oOp (.d (.bool (((List.length s0) : Int) != ((List.length p2) : Int)))) (by kernel_rfl) (by kernel_rfl) (PureV.does (p_pick (b := false) (by kernel_rfl) (by kernel_rfl))) ?_
      refine oHead [2, 3, 20] [0, 1] (T' := [(2, .ptr 0 0), (3, .ptr 1 0), (20, .d (.bool (((List.length s0) : Int) != ((List.length p2) : Int))))]) (H' := [.box [.d (.int .i64 p0), .d (.int .i64 p1), .d (.lit (List.map e_SPart p2))], .box [.d (.lit (List.map e_Li64 s0)), .d (.lit (List.map e_i64 s1))]]) (by kernel_rfl) (by kernel_rfl) (by kernel_rfl) (by kernel_rfl) (by decide) (by kernel_rfl) (by kernel_rfl) ?_
      exact hj6 (((List.length s0) : Int) != ((List.length p2) : Int))

/-- awardingbody/scheme.there -/
def scheme_there (k : Nat) (p0 : Int) (p1 : Int) (p2 : (List SPart)) (part : Int) : Option (Bool) := blet ((decide (part ≥ 0)) && (decide (part < ((List.length p2) : Int)))) fun x1 => some x1
def scheme_there_E (p0 : Int) (p1 : Int) (p2 : (List SPart)) (part : Int) : Bool → V × List Blk := fun r1 => (.d (.bool r1), [])
theorem scheme_there_goes (k : Nat) (p0 : Int) (p1 : Int) (p2 : (List SPart)) (part : Int) : RunsO Try.prog 48 [.agg [.d (.int .i64 p0), .d (.int .i64 p1), .d (.lit (List.map e_SPart p2))], .d (.int .i64 part)] [] (scheme_there_E p0 p1 p2 part) (scheme_there k p0 p1 p2 part) := by
  refine RunsO.of_goes (N := 14) (m := 0) (T := [(0, .agg [.d (.int .i64 p0), .d (.int .i64 p1), .d (.lit (List.map e_SPart p2))]), (1, .d (.int .i64 part))]) Try.func48 rfl rfl (by kernel_rfl) (by kernel_rfl) (by kernel_rfl) ?_
  unfold scheme_there
  refine bStart ?_
  refine oSeq ?_
  refine oRegion rfl ?_
  refine oOp (.ptr 0 0) (by kernel_rfl) (by kernel_rfl) (k_box (H' := [.box [.d (.int .i64 p0), .d (.int .i64 p1), .d (.lit (List.map e_SPart p2))]]) (cells := [.d (.int .i64 p0), .d (.int .i64 p1), .d (.lit (List.map e_SPart p2))]) (by kernel_rfl) (by kernel_rfl) (by kernel_rfl)) ?_
  refine oOp (.d (.bool false)) (by kernel_rfl) (by kernel_rfl) (PureV.does (p_assign (by kernel_rfl))) ?_
  refine oEnd ?_
  refine oSeq ?_
  refine oRegion rfl ?_
  refine oOp (.d (.int .i64 part)) (by kernel_rfl) (by kernel_rfl) (PureV.does (p_move (by kernel_rfl))) ?_
  refine oOp (.d (.bool (decide (part ≥ 0)))) (by kernel_rfl) (by kernel_rfl) (PureV.does (p_int (k := .i64) (p := part) (q := 0) (by kernel_rfl) (by kernel_rfl) (by kernel_rfl))) ?_
  refine oOp (.d (.bool (decide (part ≥ 0)))) (by kernel_rfl) (by kernel_rfl) (PureV.does (p_move (by kernel_rfl))) ?_
  refine bMeetF (H' := []) 6 rfl ((fun (x1 : Bool) => [(13, .d (.bool x1))])) (fun x1 => ?_) (fun F hj1 => ?_)
  · refine oView (T' := [(13, .d (.bool x1))]) (H' := []) (by kernel_rfl) (by kernel_rfl) ?_
    refine oOp (.d (.bool x1)) (by kernel_rfl) (by kernel_rfl) (PureV.does (p_assign (by kernel_rfl))) ?_
    refine oEnd ?_
    exact oRet (r0 := x1) (rv := .d (.bool x1)) (B := []) (vs := [.d (.bool x1)]) (σ := []) (by kernel_rfl) Try.func48 rfl (.cons _ _ _ _ (.tmp 4 _ (by kernel_rfl)) .nil) (by kernel_rfl) (by kernel_rfl) (by kernel_rfl) (by kernel_rfl) (by decide) (by kernel_rfl) (by kernel_rfl)
  · refine bPickF 7 (fun c => F (c && (decide (part < ((List.length p2) : Int))))) (by kernel_rfl) (fun hc => ?_) (fun hc => ?_)
    · refine oOp (.d (.int .i64 part)) (by kernel_rfl) (by kernel_rfl) (PureV.does (p_move (by kernel_rfl))) ?_
      refine oOp (.ptr 0 2) (by kernel_rfl) (by kernel_rfl) (PureV.does (k_fieldAddr 0 0 (by kernel_rfl) Try.underlying27 rfl ty25 (by kernel_rfl))) ?_
      refine oOp (.d (.lit (List.map e_SPart p2))) (by kernel_rfl) (by kernel_rfl) (Quiet.does (k_load 0 2 (by kernel_rfl) Try.underlying25 (by kernel_rfl) (by kernel_rfl))) ?_
      refine oOp (.d (.int .i64 ((List.length p2) : Int))) (by kernel_rfl) (by kernel_rfl) (PureV.does (k_lenLit (enc := e_SPart) p2 (by kernel_rfl) Try.underlying25)) ?_
      refine oOp (.d (.bool (decide (part < ((List.length p2) : Int))))) (by kernel_rfl) (by kernel_rfl) (PureV.does (p_int (k := .i64) (p := part) (q := ((List.length p2) : Int)) (by kernel_rfl) (by kernel_rfl) (by kernel_rfl))) ?_
      refine oOp (.d (.bool (decide (part < ((List.length p2) : Int))))) (by kernel_rfl) (by kernel_rfl) (PureV.does (p_pick (b := true) (by kernel_rfl) (by kernel_rfl))) ?_
      refine oHead [13] [] (T' := [(13, .d (.bool (decide (part < ((List.length p2) : Int)))))]) (H' := []) (by kernel_rfl) (by kernel_rfl) (by kernel_rfl) (by kernel_rfl) (by decide) (by kernel_rfl) (by kernel_rfl) ?_
      exact hj1 (decide (part < ((List.length p2) : Int)))
    · refine oNot (by kernel_rfl) (by kernel_rfl) ?_
      refine oNot (by kernel_rfl) (by kernel_rfl) ?_
      refine oNot (by kernel_rfl) (by kernel_rfl) ?_
      refine oNot (by kernel_rfl) (by kernel_rfl) ?_
      refine oNot (by kernel_rfl) (by kernel_rfl) ?_
      refine oOp (.d (.bool false)) (by kernel_rfl) (by kernel_rfl) (PureV.does (p_pick (b := false) (by kernel_rfl) (by kernel_rfl))) ?_
      refine oHead [13] [] (T' := [(13, .d (.bool false))]) (H' := []) (by kernel_rfl) (by kernel_rfl) (by kernel_rfl) (by kernel_rfl) (by decide) (by kernel_rfl) (by kernel_rfl) ?_
      exact hj1 false

/-- slices.Clone[[]int,int] -/
def slices_Clone_int (k : Nat) (s1 : (List Int)) : Option ((List Int)) := gcap (List.length s1) 8 (some s1)
def slices_Clone_int_E (s1 : (List Int)) : (List Int) → V × List Blk := fun r1 => (.d (.lit (List.map e_i64 r1)), [])
theorem slices_Clone_int_goes (k : Nat) (s1 : (List Int)) : RunsO Try.prog 50 [.d (.lit (List.map e_i64 s1))] [] (slices_Clone_int_E s1) (slices_Clone_int k s1) := by
  refine RunsO.of_goes (N := 8) (m := 0) (T := [(0, .d (.lit (List.map e_i64 s1)))]) Try.func50 rfl rfl (by kernel_rfl) (by kernel_rfl) (by kernel_rfl) ?_
  unfold slices_Clone_int
  refine bStart ?_
  refine oSeq ?_
  refine oRegion rfl ?_
  refine oOp (.nilc) (by kernel_rfl) (by kernel_rfl) (PureV.does (p_assign (by kernel_rfl))) ?_
  refine oEnd ?_
  refine oSeq ?_
  refine oSeq ?_
  refine oRegion rfl ?_
  refine oOp (.d (.lit (List.map e_i64 s1))) (by kernel_rfl) (by kernel_rfl) (PureV.does (p_move (by kernel_rfl))) ?_
  refine oNil (xs := List.map e_i64 s1) Try.underlying22 (by kernel_rfl) (by kernel_rfl) (by kernel_rfl) (fun β hβ => ?_)
  cases β
  · refine oEnd ?_
    refine oCondF (by kernel_rfl) ?_
    refine oSkip ?_
    refine oSeq ?_
    refine oRegion rfl ?_
    refine oOp (.ref 0 (List.length ([] : List Int)) 0 (List.length ([] : List Int))) (by kernel_rfl) (by kernel_rfl) (k_buildSlice (H' := [.sl 1 (List.map e_i64 ([] : List Int)) false]) (List.map e_i64 ([] : List Int)) Try.underlying22 ty3 (by kernel_rfl) (by kernel_rfl) (by kernel_rfl)) ?_
    refine oOp (.d (.lit (List.map e_i64 s1))) (by kernel_rfl) (by kernel_rfl) (PureV.does (p_move (by kernel_rfl))) ?_
    refine bCap (fun h11 => ?_)
    refine oOp (.ref 0 (List.length s1) 0 (List.length s1)) (by kernel_rfl) (by kernel_rfl) (k_append (H' := [.sl 1 (List.map e_i64 s1) false]) (enc := e_i64) 0 ([] : List Int) s1 Try.underlying22 Try.underlying22 ty3 (by kernel_rfl) (by kernel_rfl) (by kernel_rfl) (holdsLit e_i64_len s1 (by kernel_rfl)) h11 (by kernel_rfl)) ?_
    refine oOp (.ref 0 (List.length s1) 0 (List.length s1)) (by kernel_rfl) (by kernel_rfl) (PureV.does (p_assign (by kernel_rfl))) ?_
    refine oEnd ?_
    refine oFreeze 0 (esz := 1) (xs := List.map e_i64 s1) (by kernel_rfl) ?_
    refine oView (H' := [.sl 1 (List.map e_i64 s1) true]) rfl (by kernel_rfl) ?_
    refine oConv 2 (v := .ref 0 (List.length s1) 0 (List.length s1)) (v' := .d (.lit (List.map e_i64 s1))) (by kernel_rfl) (k_lit (enc := e_i64) (sz := 1) 0 s1 (by kernel_rfl)) ?_
    exact oRet (r0 := s1) (rv := .d (.lit (List.map e_i64 s1))) (B := []) (vs := [.d (.lit (List.map e_i64 s1))]) (σ := []) (by kernel_rfl) Try.func50 rfl (.cons _ _ _ _ (.tmp 2 _ (by kernel_rfl)) .nil) (by kernel_rfl) (by kernel_rfl) (by kernel_rfl) (by kernel_rfl) (by decide) (by kernel_rfl) (by kernel_rfl)
  · have hs0 : s1 = [] := by cases s1 with | nil => rfl | cons a0 l0 => exact absurd (hβ (by simp)) (by simp)
    subst hs0
    refine bCap (fun _ => ?_)
    refine oEnd ?_
    refine oCondT (by kernel_rfl) ?_
    refine oSeq ?_
    refine oRegion rfl ?_
    refine oOp (.nilc) (by kernel_rfl) (by kernel_rfl) (PureV.does (p_assign (by kernel_rfl))) ?_
    refine oEnd ?_
    refine oConv 2 (v := .nilc) (v' := .d (.lit (List.map e_i64 []))) (by kernel_rfl) .nil ?_
    exact oRet (r0 := []) (rv := .d (.lit (List.map e_i64 []))) (B := []) (vs := [.d (.lit (List.map e_i64 []))]) (σ := []) (by kernel_rfl) Try.func50 rfl (.cons _ _ _ _ (.tmp 2 _ (by kernel_rfl)) .nil) (by kernel_rfl) (by kernel_rfl) (by kernel_rfl) (by kernel_rfl) (by decide) (by kernel_rfl) (by kernel_rfl)

/-- slices.Clone[[]int,int] -/
def slices_Clone_int_2 (k : Nat) (s1 : (List Int)) : Option ((List Int)) := gcap (List.length s1) 8 (some s1)
theorem slices_Clone_int_2_eq : slices_Clone_int_2 = slices_Clone_int := rfl
def slices_Clone_int_2_E (s1 : (List Int)) : (List Int) → V × List Blk := fun xs => (.ref 0 (List.length xs) 0 (List.length xs), [.sl 1 (List.map e_i64 xs) false])
theorem slices_Clone_int_2_goes (k : Nat) (s1 : (List Int)) : RunsO Try.prog 50 [.d (.lit (List.map e_i64 s1))] [] (slices_Clone_int_2_E s1) (slices_Clone_int_2 k s1) := by
  refine RunsO.of_goes (N := 8) (m := 0) (T := [(0, .d (.lit (List.map e_i64 s1)))]) Try.func50 rfl rfl (by kernel_rfl) (by kernel_rfl) (by kernel_rfl) ?_
  unfold slices_Clone_int_2
  refine bStart ?_
  refine oSeq ?_
  refine oRegion rfl ?_
  refine oOp (.nilc) (by kernel_rfl) (by kernel_rfl) (PureV.does (p_assign (by kernel_rfl))) ?_
  refine oEnd ?_
  refine oSeq ?_
  refine oSeq ?_
  refine oRegion rfl ?_
  refine oOp (.d (.lit (List.map e_i64 s1))) (by kernel_rfl) (by kernel_rfl) (PureV.does (p_move (by kernel_rfl))) ?_
  refine oNil (xs := List.map e_i64 s1) Try.underlying22 (by kernel_rfl) (by kernel_rfl) (by kernel_rfl) (fun β hβ => ?_)
  cases β
  · refine oEnd ?_
    refine oCondF (by kernel_rfl) ?_
    refine oSkip ?_
    refine oSeq ?_
    refine oRegion rfl ?_
    refine oOp (.ref 0 (List.length ([] : List Int)) 0 (List.length ([] : List Int))) (by kernel_rfl) (by kernel_rfl) (k_buildSlice (H' := [.sl 1 (List.map e_i64 ([] : List Int)) false]) (List.map e_i64 ([] : List Int)) Try.underlying22 ty3 (by kernel_rfl) (by kernel_rfl) (by kernel_rfl)) ?_
    refine oOp (.d (.lit (List.map e_i64 s1))) (by kernel_rfl) (by kernel_rfl) (PureV.does (p_move (by kernel_rfl))) ?_
    refine bCap (fun h11 => ?_)
    refine oOp (.ref 0 (List.length s1) 0 (List.length s1)) (by kernel_rfl) (by kernel_rfl) (k_append (H' := [.sl 1 (List.map e_i64 s1) false]) (enc := e_i64) 0 ([] : List Int) s1 Try.underlying22 Try.underlying22 ty3 (by kernel_rfl) (by kernel_rfl) (by kernel_rfl) (holdsLit e_i64_len s1 (by kernel_rfl)) h11 (by kernel_rfl)) ?_
    refine oOp (.ref 0 (List.length s1) 0 (List.length s1)) (by kernel_rfl) (by kernel_rfl) (PureV.does (p_assign (by kernel_rfl))) ?_
    refine oEnd ?_
    exact oRet (r0 := s1) (rv := .ref 0 (List.length s1) 0 (List.length s1)) (B := [.sl 1 (List.map e_i64 s1) false]) (vs := [.ref 0 (List.length s1) 0 (List.length s1)]) (σ := [0]) (by kernel_rfl) Try.func50 rfl (.cons _ _ _ _ (.tmp 2 _ (by kernel_rfl)) .nil) (by kernel_rfl) (by kernel_rfl) (by kernel_rfl) (by kernel_rfl) (by decide) (by kernel_rfl) (by kernel_rfl)
  · have hs0 : s1 = [] := by cases s1 with | nil => rfl | cons a0 l0 => exact absurd (hβ (by simp)) (by simp)
    subst hs0
    refine bCap (fun _ => ?_)
    refine oEnd ?_
    refine oCondT (by kernel_rfl) ?_
    refine oSeq ?_
    refine oRegion rfl ?_
    refine oOp (.nilc) (by kernel_rfl) (by kernel_rfl) (PureV.does (p_assign (by kernel_rfl))) ?_
    refine oEnd ?_
    refine oVirt (esz := 1) 2 (by kernel_rfl) ?_
    refine oView (H' := [.sl 1 (List.map e_i64 ([] : List Int)) false]) rfl (by kernel_rfl) ?_
    exact oRet (r0 := ([] : List Int)) (rv := .ref 0 (List.length ([] : List Int)) 0 (List.length ([] : List Int))) (B := [.sl 1 (List.map e_i64 ([] : List Int)) false]) (vs := [.ref 0 (List.length ([] : List Int)) 0 (List.length ([] : List Int))]) (σ := [0]) (by kernel_rfl) Try.func50 rfl (.cons _ _ _ _ (.tmp 2 _ (by kernel_rfl)) .nil) (by kernel_rfl) (by kernel_rfl) (by kernel_rfl) (by kernel_rfl) (by decide) (by kernel_rfl) (by kernel_rfl)

/-- awardingbody/scheme.Withdraw -/
def scheme_Withdraw_b1 (k : Nat) (s0 : (List (List Int))) (again : Int × (List (List Int)) → Option ((List (List Int)))) : Int × (List (List Int)) → Option ((List (List Int))) := uc fun x4 => fun xs10 => bif (decide (x4 < ((List.length s0) : Int))) then gidx s0 x4 fun e115 => Option.bind (slices_Clone_int k e115) (fun r19 => gcap (List.length (xs10 ++ ([r19] : List (List Int)))) 24 (again ((IntKind.wrap .i64 (x4 + 1)), (xs10 ++ ([r19] : List (List Int)))))) else some xs10
def scheme_Withdraw (k : Nat) (p0 : Int) (p1 : Int) (p2 : (List SPart)) (s0 : (List (List Int))) (s1 : (List Int)) (part : Int) (kind : Int) : Option ((List (List Int)) × (List Int) × Int) := Option.bind (scheme_Valid k p0 p1 p2 s0 s1) (fun r116 => bif (!r116) then some ([], [], 1) else Option.bind (scheme_there k p0 p1 p2 part) (fun r119 => bif (!r119) then some ([], [], 4) else Option.bind (scheme_known k kind) (fun r121 => bif (!r121) then some ([], [], 2) else Option.bind (slices_Clone_int_2 k s1) (fun xs5 => Option.bind (gloop (scheme_Withdraw_b1 k s0) k (0, ([] : List (List Int))) : Option ((List (List Int)))) (fun xs8 => gidx xs5 part fun e19 => blet (List.set xs5 (Int.toNat part) kind) fun xs9 => some (xs8, xs9, 0))))))
def scheme_Withdraw_E (p0 : Int) (p1 : Int) (p2 : (List SPart)) (s0 : (List (List Int))) (s1 : (List Int)) (part : Int) (kind : Int) : (List (List Int)) × (List Int) × Int → V × List Blk := uc fun r110 => uc fun r111 => fun r112 => (.tuple [.agg [.d (.lit (List.map e_Li64 r110)), .d (.lit (List.map e_i64 r111))], .d (.int .i64 r112)], [])
theorem scheme_Withdraw_goes (k : Nat) (p0 : Int) (p1 : Int) (p2 : (List SPart)) (s0 : (List (List Int))) (s1 : (List Int)) (part : Int) (kind : Int) : RunsO Try.prog 26 [.agg [.d (.int .i64 p0), .d (.int .i64 p1), .d (.lit (List.map e_SPart p2))], .agg [.d (.lit (List.map e_Li64 s0)), .d (.lit (List.map e_i64 s1))], .d (.int .i64 part), .d (.int .i64 kind)] [] (scheme_Withdraw_E p0 p1 p2 s0 s1 part kind) (scheme_Withdraw k p0 p1 p2 s0 s1 part kind) := by
  refine RunsO.of_goes (N := 55) (m := 0) (T := [(0, .agg [.d (.int .i64 p0), .d (.int .i64 p1), .d (.lit (List.map e_SPart p2))]), (1, .agg [.d (.lit (List.map e_Li64 s0)), .d (.lit (List.map e_i64 s1))]), (2, .d (.int .i64 part)), (3, .d (.int .i64 kind))]) Try.func26 rfl rfl (by kernel_rfl) (by kernel_rfl) (by kernel_rfl) ?_
  unfold scheme_Withdraw
  refine bStart ?_
  refine oSeq ?_
  refine oRegion rfl ?_
  refine oOp (.ptr 0 0) (by kernel_rfl) (by kernel_rfl) (k_box (H' := [.box [.d (.int .i64 p0), .d (.int .i64 p1), .d (.lit (List.map e_SPart p2))]]) (cells := [.d (.int .i64 p0), .d (.int .i64 p1), .d (.lit (List.map e_SPart p2))]) (by kernel_rfl) (by kernel_rfl) (by kernel_rfl)) ?_
  refine oOp (.ptr 1 0) (by kernel_rfl) (by kernel_rfl) (k_box (H' := [.box [.d (.int .i64 p0), .d (.int .i64 p1), .d (.lit (List.map e_SPart p2))], .box [.d (.lit (List.map e_Li64 s0)), .d (.lit (List.map e_i64 s1))]]) (cells := [.d (.lit (List.map e_Li64 s0)), .d (.lit (List.map e_i64 s1))]) (by kernel_rfl) (by kernel_rfl) (by kernel_rfl)) ?_
  refine oOp (.ptr 2 0) (by kernel_rfl) (by kernel_rfl) (k_alloc (H' := [.box [.d (.int .i64 p0), .d (.int .i64 p1), .d (.lit (List.map e_SPart p2))], .box [.d (.lit (List.map e_Li64 s0)), .d (.lit (List.map e_i64 s1))], .box [.nilc, .nilc]]) ty31 (by kernel_rfl) (by kernel_rfl)) ?_
  refine oOp (.d (.int .i64 0)) (by kernel_rfl) (by kernel_rfl) (PureV.does (p_assign (by kernel_rfl))) ?_
  refine oEnd ?_
  refine oSeq ?_
  refine oBlock ?_
  refine oSeq ?_
  refine oRegion rfl ?_
  refine oOp (.agg [.d (.int .i64 p0), .d (.int .i64 p1), .d (.lit (List.map e_SPart p2))]) (by kernel_rfl) (by kernel_rfl) (Quiet.does (k_loadAgg 0 0 (by kernel_rfl) Try.underlying27 (by kernel_rfl) ty27 (by kernel_rfl))) ?_
  refine oOp (.agg [.d (.lit (List.map e_Li64 s0)), .d (.lit (List.map e_i64 s1))]) (by kernel_rfl) (by kernel_rfl) (Quiet.does (k_loadAgg 1 0 (by kernel_rfl) Try.underlying31 (by kernel_rfl) ty31 (by kernel_rfl))) ?_
  refine bCall (caps := []) (v := (fun (r116 : Bool) => (.d (.bool r116) : V))) (H' := (fun (r116 : Bool) => ([.box [.d (.int .i64 p0), .d (.int .i64 p1), .d (.lit (List.map e_SPart p2))], .box [.d (.lit (List.map e_Li64 s0)), .d (.lit (List.map e_i64 s1))], .box [.nilc, .nilc]] : List Blk))) [] _ (scheme_Valid_goes k p0 p1 p2 s0 s1) (by kernel_rfl) (by kernel_rfl) rfl (by kernel_rfl) Try.func30 rfl (by kernel_rfl) (ConvRs.refl _ _) (by kernel_rfl) (by kernel_rfl) (by kernel_rfl) (by decide) (by kernel_rfl) (by kernel_rfl) (fun _ => (by kernel_rfl)) (fun _ => (by kernel_rfl)) (fun _ => (by kernel_rfl)) (fun r116 => ?_)
  refine oOp (.d (.bool (!r116))) (by kernel_rfl) (by kernel_rfl) (PureV.does (p_not (p := r116) (by kernel_rfl) (by kernel_rfl))) ?_
  refine oOp (.d (.bool (!r116))) (by kernel_rfl) (by kernel_rfl) (PureV.does (p_assign (by kernel_rfl))) ?_
  refine oEnd ?_
  refine bSplit 13 (by kernel_rfl) (fun hc => ?_) (fun hc => ?_)
  · refine oCondT (by kernel_rfl) ?_
    refine oSeq ?_
    refine oRegion rfl ?_
    refine oOp (.agg [.nilc, .nilc]) (by kernel_rfl) (by kernel_rfl) (PureV.does (p_build bld31 (by kernel_rfl))) ?_
    refine oOp (.undef) (by kernel_rfl) (by kernel_rfl) (k_store (vs := [.nilc, .nilc]) (H' := [.box [.d (.int .i64 p0), .d (.int .i64 p1), .d (.lit (List.map e_SPart p2))], .box [.d (.lit (List.map e_Li64 s0)), .d (.lit (List.map e_i64 s1))], .box [.nilc, .nilc]]) 2 0 (by kernel_rfl) ty31 (by kernel_rfl) (by kernel_rfl) (by kernel_rfl)) ?_
    refine oOp (.d (.int .i64 1)) (by kernel_rfl) (by kernel_rfl) (PureV.does (p_assign (by kernel_rfl))) ?_
    refine oEnd ?_
    refine oConvB 2 (cells := [.nilc, .nilc]) (cells' := [.d (.lit (List.map e_Li64 [])), .d (.lit (List.map e_i64 []))]) (by kernel_rfl) (.cons _ _ _ _ .nil (.cons _ _ _ _ .nil .nil)) ?_
    refine oView (H' := [.box [.d (.int .i64 p0), .d (.int .i64 p1), .d (.lit (List.map e_SPart p2))], .box [.d (.lit (List.map e_Li64 s0)), .d (.lit (List.map e_i64 s1))], .box [.d (.lit (List.map e_Li64 [])), .d (.lit (List.map e_i64 []))]]) rfl (by kernel_rfl) ?_
    exact oRet (r0 := ([], [], 1)) (rv := .tuple [.agg [.d (.lit (List.map e_Li64 [])), .d (.lit (List.map e_i64 []))], .d (.int .i64 1)]) (B := []) (vs := [.agg [.d (.lit (List.map e_Li64 [])), .d (.lit (List.map e_i64 []))], .d (.int .i64 1)]) (σ := []) (by kernel_rfl) Try.func26 rfl (.cons _ _ _ _ (.agg 8 31 2 0 [.d (.lit (List.map e_Li64 [])), .d (.lit (List.map e_i64 []))] [.d (.lit (List.map e_Li64 [])), .d (.lit (List.map e_i64 []))] _ _ _ _ (by kernel_rfl) (by kernel_rfl) Try.underlying31 (by kernel_rfl) ty31 (by kernel_rfl) (by kernel_rfl)) (.cons _ _ _ _ (.tmp 9 _ (by kernel_rfl)) .nil)) (by kernel_rfl) (by kernel_rfl) (by kernel_rfl) (by kernel_rfl) (by decide) (by kernel_rfl) (by kernel_rfl)
  · refine oCondF (by kernel_rfl) ?_
    refine oSeq ?_
    refine oRegion rfl ?_
    refine oOp (.agg [.d (.int .i64 p0), .d (.int .i64 p1), .d (.lit (List.map e_SPart p2))]) (by kernel_rfl) (by kernel_rfl) (Quiet.does (k_loadAgg 0 0 (by kernel_rfl) Try.underlying27 (by kernel_rfl) ty27 (by kernel_rfl))) ?_
    refine oOp (.d (.int .i64 part)) (by kernel_rfl) (by kernel_rfl) (PureV.does (p_move (by kernel_rfl))) ?_
    refine bCall (caps := []) (v := (fun (r119 : Bool) => (.d (.bool r119) : V))) (H' := (fun (r119 : Bool) => ([.box [.d (.int .i64 p0), .d (.int .i64 p1), .d (.lit (List.map e_SPart p2))], .box [.d (.lit (List.map e_Li64 s0)), .d (.lit (List.map e_i64 s1))], .box [.nilc, .nilc]] : List Blk))) [] _ (scheme_there_goes k p0 p1 p2 part) (by kernel_rfl) (by kernel_rfl) rfl (by kernel_rfl) Try.func48 rfl (by kernel_rfl) (ConvRs.refl _ _) (by kernel_rfl) (by kernel_rfl) (by kernel_rfl) (by decide) (by kernel_rfl) (by kernel_rfl) (fun _ => (by kernel_rfl)) (fun _ => (by kernel_rfl)) (fun _ => (by kernel_rfl)) (fun r119 => ?_)
    refine oOp (.d (.bool (!r119))) (by kernel_rfl) (by kernel_rfl) (PureV.does (p_not (p := r119) (by kernel_rfl) (by kernel_rfl))) ?_
    refine oOp (.d (.bool (!r119))) (by kernel_rfl) (by kernel_rfl) (PureV.does (p_assign (by kernel_rfl))) ?_
    refine oEnd ?_
    refine bSplit 19 (by kernel_rfl) (fun hc => ?_) (fun hc => ?_)
    · refine oCondT (by kernel_rfl) ?_
      refine oSeq ?_
      refine oRegion rfl ?_
      refine oOp (.agg [.nilc, .nilc]) (by kernel_rfl) (by kernel_rfl) (PureV.does (p_build bld31 (by kernel_rfl))) ?_
      refine oOp (.undef) (by kernel_rfl) (by kernel_rfl) (k_store (vs := [.nilc, .nilc]) (H' := [.box [.d (.int .i64 p0), .d (.int .i64 p1), .d (.lit (List.map e_SPart p2))], .box [.d (.lit (List.map e_Li64 s0)), .d (.lit (List.map e_i64 s1))], .box [.nilc, .nilc]]) 2 0 (by kernel_rfl) ty31 (by kernel_rfl) (by kernel_rfl) (by kernel_rfl)) ?_
      refine oOp (.d (.int .i64 4)) (by kernel_rfl) (by kernel_rfl) (PureV.does (p_assign (by kernel_rfl))) ?_
      refine oEnd ?_
      refine oConvB 2 (cells := [.nilc, .nilc]) (cells' := [.d (.lit (List.map e_Li64 [])), .d (.lit (List.map e_i64 []))]) (by kernel_rfl) (.cons _ _ _ _ .nil (.cons _ _ _ _ .nil .nil)) ?_
      refine oView (H' := [.box [.d (.int .i64 p0), .d (.int .i64 p1), .d (.lit (List.map e_SPart p2))], .box [.d (.lit (List.map e_Li64 s0)), .d (.lit (List.map e_i64 s1))], .box [.d (.lit (List.map e_Li64 [])), .d (.lit (List.map e_i64 []))]]) rfl (by kernel_rfl) ?_
      exact oRet (r0 := ([], [], 4)) (rv := .tuple [.agg [.d (.lit (List.map e_Li64 [])), .d (.lit (List.map e_i64 []))], .d (.int .i64 4)]) (B := []) (vs := [.agg [.d (.lit (List.map e_Li64 [])), .d (.lit (List.map e_i64 []))], .d (.int .i64 4)]) (σ := []) (by kernel_rfl) Try.func26 rfl (.cons _ _ _ _ (.agg 8 31 2 0 [.d (.lit (List.map e_Li64 [])), .d (.lit (List.map e_i64 []))] [.d (.lit (List.map e_Li64 [])), .d (.lit (List.map e_i64 []))] _ _ _ _ (by kernel_rfl) (by kernel_rfl) Try.underlying31 (by kernel_rfl) ty31 (by kernel_rfl) (by kernel_rfl)) (.cons _ _ _ _ (.tmp 9 _ (by kernel_rfl)) .nil)) (by kernel_rfl) (by kernel_rfl) (by kernel_rfl) (by kernel_rfl) (by decide) (by kernel_rfl) (by kernel_rfl)
    · refine oCondF (by kernel_rfl) ?_
      refine oSeq ?_
      refine oRegion rfl ?_
      refine oOp (.d (.int .i64 kind)) (by kernel_rfl) (by kernel_rfl) (PureV.does (p_move (by kernel_rfl))) ?_
      refine bCall (caps := []) (v := (fun (r121 : Bool) => (.d (.bool r121) : V))) (H' := (fun (r121 : Bool) => ([.box [.d (.int .i64 p0), .d (.int .i64 p1), .d (.lit (List.map e_SPart p2))], .box [.d (.lit (List.map e_Li64 s0)), .d (.lit (List.map e_i64 s1))], .box [.nilc, .nilc]] : List Blk))) [] _ (scheme_known_goes k kind) (by kernel_rfl) (by kernel_rfl) rfl (by kernel_rfl) Try.func49 rfl (by kernel_rfl) (ConvRs.refl _ _) (by kernel_rfl) (by kernel_rfl) (by kernel_rfl) (by decide) (by kernel_rfl) (by kernel_rfl) (fun _ => (by kernel_rfl)) (fun _ => (by kernel_rfl)) (fun _ => (by kernel_rfl)) (fun r121 => ?_)
      refine oOp (.d (.bool (!r121))) (by kernel_rfl) (by kernel_rfl) (PureV.does (p_not (p := r121) (by kernel_rfl) (by kernel_rfl))) ?_
      refine oOp (.d (.bool (!r121))) (by kernel_rfl) (by kernel_rfl) (PureV.does (p_assign (by kernel_rfl))) ?_
      refine oEnd ?_
      refine bSplit 25 (by kernel_rfl) (fun hc => ?_) (fun hc => ?_)
      · refine oCondT (by kernel_rfl) ?_
        refine oSeq ?_
        refine oRegion rfl ?_
        refine oOp (.agg [.nilc, .nilc]) (by kernel_rfl) (by kernel_rfl) (PureV.does (p_build bld31 (by kernel_rfl))) ?_
        refine oOp (.undef) (by kernel_rfl) (by kernel_rfl) (k_store (vs := [.nilc, .nilc]) (H' := [.box [.d (.int .i64 p0), .d (.int .i64 p1), .d (.lit (List.map e_SPart p2))], .box [.d (.lit (List.map e_Li64 s0)), .d (.lit (List.map e_i64 s1))], .box [.nilc, .nilc]]) 2 0 (by kernel_rfl) ty31 (by kernel_rfl) (by kernel_rfl) (by kernel_rfl)) ?_
        refine oOp (.d (.int .i64 2)) (by kernel_rfl) (by kernel_rfl) (PureV.does (p_assign (by kernel_rfl))) ?_
        refine oEnd ?_
        refine oConvB 2 (cells := [.nilc, .nilc]) (cells' := [.d (.lit (List.map e_Li64 [])), .d (.lit (List.map e_i64 []))]) (by kernel_rfl) (.cons _ _ _ _ .nil (.cons _ _ _ _ .nil .nil)) ?_
        refine oView (H' := [.box [.d (.int .i64 p0), .d (.int .i64 p1), .d (.lit (List.map e_SPart p2))], .box [.d (.lit (List.map e_Li64 s0)), .d (.lit (List.map e_i64 s1))], .box [.d (.lit (List.map e_Li64 [])), .d (.lit (List.map e_i64 []))]]) rfl (by kernel_rfl) ?_
        exact oRet (r0 := ([], [], 2)) (rv := .tuple [.agg [.d (.lit (List.map e_Li64 [])), .d (.lit (List.map e_i64 []))], .d (.int .i64 2)]) (B := []) (vs := [.agg [.d (.lit (List.map e_Li64 [])), .d (.lit (List.map e_i64 []))], .d (.int .i64 2)]) (σ := []) (by kernel_rfl) Try.func26 rfl (.cons _ _ _ _ (.agg 8 31 2 0 [.d (.lit (List.map e_Li64 [])), .d (.lit (List.map e_i64 []))] [.d (.lit (List.map e_Li64 [])), .d (.lit (List.map e_i64 []))] _ _ _ _ (by kernel_rfl) (by kernel_rfl) Try.underlying31 (by kernel_rfl) ty31 (by kernel_rfl) (by kernel_rfl)) (.cons _ _ _ _ (.tmp 9 _ (by kernel_rfl)) .nil)) (by kernel_rfl) (by kernel_rfl) (by kernel_rfl) (by kernel_rfl) (by decide) (by kernel_rfl) (by kernel_rfl)
      · refine oCondF (by kernel_rfl) ?_
        refine oSkip ?_
        refine oBlk ?_
        refine oSeq ?_
        refine oRegion rfl ?_
        refine oOp (.ptr 1 1) (by kernel_rfl) (by kernel_rfl) (PureV.does (k_fieldAddr 1 0 (by kernel_rfl) Try.underlying31 rfl ty22 (by kernel_rfl))) ?_
        refine oOp (.d (.lit (List.map e_i64 s1))) (by kernel_rfl) (by kernel_rfl) (Quiet.does (k_load 1 1 (by kernel_rfl) Try.underlying22 (by kernel_rfl) (by kernel_rfl))) ?_
        refine bCall (caps := []) (v := (fun (xs5 : (List Int)) => (.ref 3 (List.length xs5) 0 (List.length xs5) : V))) (H' := (fun (xs5 : (List Int)) => ([.box [.d (.int .i64 p0), .d (.int .i64 p1), .d (.lit (List.map e_SPart p2))], .box [.d (.lit (List.map e_Li64 s0)), .d (.lit (List.map e_i64 s1))], .box [.nilc, .nilc], .sl 1 (List.map e_i64 xs5) false] : List Blk))) [] _ (slices_Clone_int_2_goes k s1) (by kernel_rfl) (by kernel_rfl) rfl (by kernel_rfl) Try.func50 rfl (by kernel_rfl) (ConvRs.refl _ _) (by kernel_rfl) (by kernel_rfl) (by kernel_rfl) (by decide) (by kernel_rfl) (by kernel_rfl) (fun _ => (by kernel_rfl)) (fun _ => (by kernel_rfl)) (fun _ => (by kernel_rfl)) (fun xs5 => ?_)
        refine oOp (.agg [.nilc, .ref 3 (List.length xs5) 0 (List.length xs5)]) (by kernel_rfl) (by kernel_rfl) (PureV.does (p_build bld31 (by kernel_rfl))) ?_
        refine oOp (.ptr 4 0) (by kernel_rfl) (by kernel_rfl) (k_alloc (H' := [.box [.d (.int .i64 p0), .d (.int .i64 p1), .d (.lit (List.map e_SPart p2))], .box [.d (.lit (List.map e_Li64 s0)), .d (.lit (List.map e_i64 s1))], .box [.nilc, .nilc], .sl 1 (List.map e_i64 xs5) false, .box [.nilc, .nilc]]) ty31 (by kernel_rfl) (by kernel_rfl)) ?_
        refine oOp (.undef) (by kernel_rfl) (by kernel_rfl) (k_store (vs := [.nilc, .ref 3 (List.length xs5) 0 (List.length xs5)]) (H' := [.box [.d (.int .i64 p0), .d (.int .i64 p1), .d (.lit (List.map e_SPart p2))], .box [.d (.lit (List.map e_Li64 s0)), .d (.lit (List.map e_i64 s1))], .box [.nilc, .nilc], .sl 1 (List.map e_i64 xs5) false, .box [.nilc, .ref 3 (List.length xs5) 0 (List.length xs5)]]) 4 0 (by kernel_rfl) ty31 (by kernel_rfl) (by kernel_rfl) (by kernel_rfl)) ?_
        refine oEnd ?_
        refine oSeq ?_
        refine oSeq ?_
        refine oRegion rfl ?_
        refine oOp (.ptr 1 0) (by kernel_rfl) (by kernel_rfl) (PureV.does (k_fieldAddr 1 0 (by kernel_rfl) Try.underlying31 rfl ty29 (by kernel_rfl))) ?_
        refine oOp (.d (.lit (List.map e_Li64 s0))) (by kernel_rfl) (by kernel_rfl) (Quiet.does (k_load 1 0 (by kernel_rfl) Try.underlying29 (by kernel_rfl) (by kernel_rfl))) ?_
        refine oOp (.d (.int .i64 ((List.length s0) : Int))) (by kernel_rfl) (by kernel_rfl) (PureV.does (k_lenLit (enc := e_Li64) s0 (by kernel_rfl) Try.underlying29)) ?_
        refine oOp (.d (.int .i64 0)) (by kernel_rfl) (by kernel_rfl) (PureV.does (p_move (by kernel_rfl))) ?_
        refine oEnd ?_
        refine bJoin ((fun (xs8 : (List (List Int))) => [(2, .d (.int .i64 part)), (3, .d (.int .i64 kind)), (8, .ptr 0 0), (10, .ptr 1 0)])) ((fun (xs8 : (List (List Int))) => [.box [.nilc, .nilc], .box [.ref 2 (List.length xs8) 0 (List.length xs8), .ref 3 (List.length xs5) 0 (List.length xs5)], .sl 1 (List.map e_Li64 xs8) false, .sl 1 (List.map e_i64 xs5) false])) (fun s => s) (fun xs8 => ?_) (fun hj2 => ?_)
        · refine oView (T' := [(2, .d (.int .i64 part)), (3, .d (.int .i64 kind)), (8, .ptr 0 0), (10, .ptr 1 0)]) (H' := [.box [.nilc, .nilc], .box [.ref 2 (List.length xs8) 0 (List.length xs8), .ref 3 (List.length xs5) 0 (List.length xs5)], .sl 1 (List.map e_Li64 xs8) false, .sl 1 (List.map e_i64 xs5) false]) (by kernel_rfl) (by kernel_rfl) ?_
          refine oSeq ?_
          refine oRegion rfl ?_
          refine oOp (.ptr 1 1) (by kernel_rfl) (by kernel_rfl) (PureV.does (k_fieldAddr 1 0 (by kernel_rfl) Try.underlying31 rfl ty22 (by kernel_rfl))) ?_
          refine oOp (.ref 3 (List.length xs5) 0 (List.length xs5)) (by kernel_rfl) (by kernel_rfl) (Quiet.does (k_load 1 1 (by kernel_rfl) Try.underlying22 (by kernel_rfl) (by kernel_rfl))) ?_
          refine oOp (.d (.int .i64 part)) (by kernel_rfl) (by kernel_rfl) (PureV.does (p_move (by kernel_rfl))) ?_
          refine oOp (.d (.int .i64 kind)) (by kernel_rfl) (by kernel_rfl) (PureV.does (p_move (by kernel_rfl))) ?_
          refine bIdx (fun e19 h119 h120 => ?_)
          refine oOp (.eptr 3 (List.length xs5) (Int.toNat part) 0) (by kernel_rfl) (by kernel_rfl) (PureV.does (k_idxRef (enc := e_i64) (fro := false) xs5 (a := e19) (by kernel_rfl) (k := .i64) (i := part) (by kernel_rfl) (by kernel_rfl) Try.underlying22 ty3 h119 h120)) ?_
          refine bSet _ (fun xs9 hs1 => ?_)
          refine oOp (.undef) (by kernel_rfl) (by kernel_rfl) (k_storeE (H' := [.box [.nilc, .nilc], .box [.ref 2 (List.length xs8) 0 (List.length xs8), .ref 3 (List.length xs5) 0 (List.length xs5)], .sl 1 (List.map e_Li64 xs8) false, .sl 1 (List.map e_i64 xs9) false]) 3 0 xs5 kind [(.int .i64 kind)] e_i64_len (by kernel_rfl) (by kernel_rfl) h120 ty3 (by kernel_rfl) (by kernel_rfl) (by kernel_rfl) hs1 (by kernel_rfl)) ?_
          refine oHead [8, 10] [0, 1, 2, 3] (T' := [(8, .ptr 0 0), (10, .ptr 1 0)]) (H' := [.box [.nilc, .nilc], .box [.ref 2 (List.length xs8) 0 (List.length xs8), .ref 3 (List.length xs5) 0 (List.length xs5)], .sl 1 (List.map e_Li64 xs8) false, .sl 1 (List.map e_i64 xs9) false]) (by kernel_rfl) (by kernel_rfl) (by kernel_rfl) (by kernel_rfl) (by decide) (by kernel_rfl) (by kernel_rfl) ?_
          refine oView (T' := [(8, .ptr 0 0), (10, .ptr 1 0)]) (H' := [.box [.nilc, .nilc], .box [.ref 2 (List.length xs8) 0 (List.length xs8), .ref 3 (List.length xs9) 0 (List.length xs9)], .sl 1 (List.map e_Li64 xs8) false, .sl 1 (List.map e_i64 xs9) false]) (by first | rw [(set_len hs1)] | rfl) (by first | rw [(set_len hs1)] | rfl) ?_
          refine oEnd ?_
          refine oSeq ?_
          refine oRegion rfl ?_
          refine oOp (.agg [.ref 2 (List.length xs8) 0 (List.length xs8), .ref 3 (List.length xs9) 0 (List.length xs9)]) (by kernel_rfl) (by kernel_rfl) (Quiet.does (k_loadAgg 1 0 (by kernel_rfl) Try.underlying31 (by kernel_rfl) ty31 (by kernel_rfl))) ?_
          refine oOp (.undef) (by kernel_rfl) (by kernel_rfl) (k_store (vs := [.ref 2 (List.length xs8) 0 (List.length xs8), .ref 3 (List.length xs9) 0 (List.length xs9)]) (H' := [.box [.ref 2 (List.length xs8) 0 (List.length xs8), .ref 3 (List.length xs9) 0 (List.length xs9)], .box [.ref 2 (List.length xs8) 0 (List.length xs8), .ref 3 (List.length xs9) 0 (List.length xs9)], .sl 1 (List.map e_Li64 xs8) false, .sl 1 (List.map e_i64 xs9) false]) 0 0 (by kernel_rfl) ty31 (by kernel_rfl) (by kernel_rfl) (by kernel_rfl)) ?_
          refine oOp (.d (.int .i64 0)) (by kernel_rfl) (by kernel_rfl) (PureV.does (p_assign (by kernel_rfl))) ?_
          refine oEnd ?_
          refine oFreeze 2 (esz := 1) (xs := List.map e_Li64 xs8) (by kernel_rfl) ?_
          refine oView (H' := [.box [.ref 2 (List.length xs8) 0 (List.length xs8), .ref 3 (List.length xs9) 0 (List.length xs9)], .box [.ref 2 (List.length xs8) 0 (List.length xs8), .ref 3 (List.length xs9) 0 (List.length xs9)], .sl 1 (List.map e_Li64 xs8) true, .sl 1 (List.map e_i64 xs9) false]) rfl (by kernel_rfl) ?_
          refine oFreeze 3 (esz := 1) (xs := List.map e_i64 xs9) (by kernel_rfl) ?_
          refine oView (H' := [.box [.ref 2 (List.length xs8) 0 (List.length xs8), .ref 3 (List.length xs9) 0 (List.length xs9)], .box [.ref 2 (List.length xs8) 0 (List.length xs8), .ref 3 (List.length xs9) 0 (List.length xs9)], .sl 1 (List.map e_Li64 xs8) true, .sl 1 (List.map e_i64 xs9) true]) rfl (by kernel_rfl) ?_
          refine oConvB 0 (cells := [.ref 2 (List.length xs8) 0 (List.length xs8), .ref 3 (List.length xs9) 0 (List.length xs9)]) (cells' := [.d (.lit (List.map e_Li64 xs8)), .d (.lit (List.map e_i64 xs9))]) (by kernel_rfl) (.cons _ _ _ _ (k_lit (enc := e_Li64) (sz := 1) 2 xs8 (by kernel_rfl)) (.cons _ _ _ _ (k_lit (enc := e_i64) (sz := 1) 3 xs9 (by kernel_rfl)) .nil)) ?_
          refine oView (H' := [.box [.d (.lit (List.map e_Li64 xs8)), .d (.lit (List.map e_i64 xs9))], .box [.ref 2 (List.length xs8) 0 (List.length xs8), .ref 3 (List.length xs9) 0 (List.length xs9)], .sl 1 (List.map e_Li64 xs8) true, .sl 1 (List.map e_i64 xs9) true]) rfl (by kernel_rfl) ?_
          exact oRet (r0 := (xs8, xs9, 0)) (rv := .tuple [.agg [.d (.lit (List.map e_Li64 xs8)), .d (.lit (List.map e_i64 xs9))], .d (.int .i64 0)]) (B := []) (vs := [.agg [.d (.lit (List.map e_Li64 xs8)), .d (.lit (List.map e_i64 xs9))], .d (.int .i64 0)]) (σ := []) (by kernel_rfl) Try.func26 rfl (.cons _ _ _ _ (.agg 8 31 0 0 [.d (.lit (List.map e_Li64 xs8)), .d (.lit (List.map e_i64 xs9))] [.d (.lit (List.map e_Li64 xs8)), .d (.lit (List.map e_i64 xs9))] _ _ _ _ (by kernel_rfl) (by kernel_rfl) Try.underlying31 (by kernel_rfl) ty31 (by kernel_rfl) (by kernel_rfl)) (.cons _ _ _ _ (.tmp 9 _ (by kernel_rfl)) .nil)) (by kernel_rfl) (by kernel_rfl) (by kernel_rfl) (by kernel_rfl) (by decide) (by kernel_rfl) (by kernel_rfl)
        · refine oBlock ?_
          refine oLoop ?_
          refine oVirtB (esz := 1) 4 0 (cells := [.nilc, .ref 3 (List.length xs5) 0 (List.length xs5)]) (by kernel_rfl) (by kernel_rfl) ?_
          refine oView (H' := [.box [.d (.int .i64 p0), .d (.int .i64 p1), .d (.lit (List.map e_SPart p2))], .box [.d (.lit (List.map e_Li64 s0)), .d (.lit (List.map e_i64 s1))], .box [.nilc, .nilc], .sl 1 (List.map e_i64 xs5) false, .box [.ref 5 (List.length ([] : List (List Int))) 0 (List.length ([] : List (List Int))), .ref 3 (List.length xs5) 0 (List.length xs5)], .sl 1 (List.map e_Li64 ([] : List (List Int))) false]) rfl (by kernel_rfl) ?_
          refine oHead [2, 3, 8, 10, 35, 36, 37] [2, 4, 5, 3] (T' := [(2, .d (.int .i64 part)), (3, .d (.int .i64 kind)), (8, .ptr 0 0), (10, .ptr 1 0), (35, .d (.lit (List.map e_Li64 s0))), (36, .d (.int .i64 ((List.length s0) : Int))), (37, .d (.int .i64 0))]) (H' := [.box [.nilc, .nilc], .box [.ref 2 (List.length ([] : List (List Int))) 0 (List.length ([] : List (List Int))), .ref 3 (List.length xs5) 0 (List.length xs5)], .sl 1 (List.map e_Li64 ([] : List (List Int))) false, .sl 1 (List.map e_i64 xs5) false]) (by kernel_rfl) (by kernel_rfl) (by kernel_rfl) (by kernel_rfl) (by decide) (by kernel_rfl) (by kernel_rfl) ?_
          refine bLoop (body := scheme_Withdraw_b1 k s0) ((uc fun (x4 : Int) => (fun (xs10 : (List (List Int))) => [(2, .d (.int .i64 part)), (3, .d (.int .i64 kind)), (8, .ptr 0 0), (10, .ptr 1 0), (35, .d (.lit (List.map e_Li64 s0))), (36, .d (.int .i64 ((List.length s0) : Int))), (37, .d (.int .i64 x4))]))) ((uc fun (x4 : Int) => (fun (xs10 : (List (List Int))) => [.box [.nilc, .nilc], .box [.ref 2 (List.length xs10) 0 (List.length xs10), .ref 3 (List.length xs5) 0 (List.length xs5)], .sl 1 (List.map e_Li64 xs10) false, .sl 1 (List.map e_i64 xs5) false]))) (fun again hag1 s => ?_) k (0, ([] : List (List Int)))
          · unfold scheme_Withdraw_b1
            obtain ⟨x4, xs10⟩ := s
            refine bUc ?_
            refine oView (T' := [(2, .d (.int .i64 part)), (3, .d (.int .i64 kind)), (8, .ptr 0 0), (10, .ptr 1 0), (35, .d (.lit (List.map e_Li64 s0))), (36, .d (.int .i64 ((List.length s0) : Int))), (37, .d (.int .i64 x4))]) (H' := [.box [.nilc, .nilc], .box [.ref 2 (List.length xs10) 0 (List.length xs10), .ref 3 (List.length xs5) 0 (List.length xs5)], .sl 1 (List.map e_Li64 xs10) false, .sl 1 (List.map e_i64 xs5) false]) (by kernel_rfl) (by kernel_rfl) ?_
            refine oSeq ?_
            refine oRegion rfl ?_
            refine oOp (.d (.bool (decide (x4 < ((List.length s0) : Int))))) (by kernel_rfl) (by kernel_rfl) (PureV.does (p_int (k := .i64) (p := x4) (q := ((List.length s0) : Int)) (by kernel_rfl) (by kernel_rfl) (by kernel_rfl))) ?_
            refine oEnd ?_
            refine oSeq ?_
            refine bSplit 38 (by kernel_rfl) (fun hc => ?_) (fun hc => ?_)
            · refine oCondT (by kernel_rfl) ?_
              refine oSkip ?_
              refine oSeq ?_
              refine oBlock ?_
              refine oSeq ?_
              refine oRegion rfl ?_
              refine bIdx (fun e115 h131 h132 => ?_)
              refine oOp (.lptr (e_Li64 e115) 0) (by kernel_rfl) (by kernel_rfl) (PureV.does (k_idxLit e_Li64_len s0 (a := e115) (by kernel_rfl) (k := .i64) (i := x4) (by kernel_rfl) Try.underlying29 ty22 h131 h132)) ?_
              refine oOp (.d (.lit (List.map e_i64 e115))) (by kernel_rfl) (by kernel_rfl) (Quiet.does (k_loadL (cells := e_Li64 e115) 0 (by kernel_rfl) Try.underlying22 (by kernel_rfl) (by kernel_rfl))) ?_
              refine oOp (.d (.lit (List.map e_i64 e115))) (by kernel_rfl) (by kernel_rfl) (PureV.does (p_assign (by kernel_rfl))) ?_
              refine oEnd ?_
              refine oDraw [(0, 8), (1, 7), (2, 5), (3, 8)] rfl ?_
              refine aTakeL (i := 0) (st' := []) (.ptr 1 0) rfl (by kernel_rfl) (by kernel_rfl) (by kernel_rfl) (by kernel_rfl) (by kernel_rfl) (by kernel_rfl) (by kernel_rfl) (PureV.quiet (k_fieldAddr 1 0 (by kernel_rfl) Try.underlying31 rfl ty29 (by kernel_rfl)) []) ?_
              refine aTakeL (i := 1) (st' := [1]) (.ref 2 (List.length xs10) 0 (List.length xs10)) rfl (by kernel_rfl) (by kernel_rfl) (by kernel_rfl) (by kernel_rfl) (by kernel_rfl) (by kernel_rfl) (by kernel_rfl) (k_load 1 0 (by kernel_rfl) Try.underlying29 (by kernel_rfl) (by kernel_rfl)) ?_
              refine aTakeL (i := 2) (st' := []) (.d (.lit (List.map e_i64 e115))) rfl (by kernel_rfl) (by kernel_rfl) (by kernel_rfl) (by kernel_rfl) (by kernel_rfl) (by kernel_rfl) (by kernel_rfl) (PureV.quiet (p_move (by kernel_rfl)) []) ?_
              refine dCall (i := 3) (caps := []) (v := (fun (r19 : (List Int)) => (.d (.lit (List.map e_i64 r19)) : V))) (H' := (fun (r19 : (List Int)) => ([.box [.nilc, .nilc], .box [.ref 2 (List.length xs10) 0 (List.length xs10), .ref 3 (List.length xs5) 0 (List.length xs5)], .sl 1 (List.map e_Li64 xs10) false, .sl 1 (List.map e_i64 xs5) false] : List Blk))) [] _ (slices_Clone_int_goes k e115) rfl (by kernel_rfl) (by kernel_rfl) (by kernel_rfl) (by kernel_rfl) (by kernel_rfl) (by kernel_rfl) (by kernel_rfl) (by kernel_rfl) rfl (by kernel_rfl) Try.func50 rfl (by kernel_rfl) (ConvRs.refl _ _) (by kernel_rfl) (by kernel_rfl) (by kernel_rfl) (by decide) (by kernel_rfl) (by kernel_rfl) (fun _ => (by kernel_rfl)) (fun _ => (by kernel_rfl)) (fun _ => (by kernel_rfl)) (fun r19 => ?_)
              refine aOne (i := 4) (v := .ref 4 (List.length ([r19] : List (List Int))) 0 (List.length ([r19] : List (List Int)))) rfl (by kernel_rfl) (by kernel_rfl) (by kernel_rfl) (by kernel_rfl) (by kernel_rfl) (by kernel_rfl) (by kernel_rfl) (Does.acts (k_buildSlice (H' := [.box [.nilc, .nilc], .box [.ref 2 (List.length xs10) 0 (List.length xs10), .ref 3 (List.length xs5) 0 (List.length xs5)], .sl 1 (List.map e_Li64 xs10) false, .sl 1 (List.map e_i64 xs5) false, .sl 1 (List.map e_Li64 ([r19] : List (List Int))) false]) (List.map e_Li64 ([r19] : List (List Int))) Try.underlying29 ty22 (by kernel_rfl) (by kernel_rfl) (by kernel_rfl))) (by kernel_rfl) ?_
              refine dCap (fun h12 => ?_)
              refine aOne (i := 5) (v := .ref 2 (List.length (xs10 ++ ([r19] : List (List Int)))) 0 (List.length (xs10 ++ ([r19] : List (List Int))))) rfl (by kernel_rfl) (by kernel_rfl) (by kernel_rfl) (by kernel_rfl) (by kernel_rfl) (by kernel_rfl) (by kernel_rfl) (Does.acts (k_append (H' := [.box [.nilc, .nilc], .box [.ref 2 (List.length xs10) 0 (List.length xs10), .ref 3 (List.length xs5) 0 (List.length xs5)], .sl 1 (List.map e_Li64 (xs10 ++ ([r19] : List (List Int)))) false, .sl 1 (List.map e_i64 xs5) false, .sl 1 (List.map e_Li64 ([r19] : List (List Int))) false]) (enc := e_Li64) 2 xs10 ([r19] : List (List Int)) Try.underlying29 Try.underlying29 ty22 (by kernel_rfl) (by kernel_rfl) (by kernel_rfl) (holdsRef (enc := e_Li64) 4 ([r19] : List (List Int)) false (by kernel_rfl) (by kernel_rfl)) h12 (by kernel_rfl))) (by kernel_rfl) ?_
              refine aTakeL (i := 6) (st' := []) (.ptr 1 0) rfl (by kernel_rfl) (by kernel_rfl) (by kernel_rfl) (by kernel_rfl) (by kernel_rfl) (by kernel_rfl) (by kernel_rfl) (PureV.quiet (k_fieldAddr 1 0 (by kernel_rfl) Try.underlying31 rfl ty29 (by kernel_rfl)) []) ?_
              refine aOne (i := 7) (v := .undef) rfl (by kernel_rfl) (by kernel_rfl) (by kernel_rfl) (by kernel_rfl) (by kernel_rfl) (by kernel_rfl) (by kernel_rfl) (Does.acts (k_store (vs := [.ref 2 (List.length (xs10 ++ ([r19] : List (List Int)))) 0 (List.length (xs10 ++ ([r19] : List (List Int))))]) (H' := [.box [.nilc, .nilc], .box [.ref 2 (List.length (xs10 ++ ([r19] : List (List Int)))) 0 (List.length (xs10 ++ ([r19] : List (List Int)))), .ref 3 (List.length xs5) 0 (List.length xs5)], .sl 1 (List.map e_Li64 (xs10 ++ ([r19] : List (List Int)))) false, .sl 1 (List.map e_i64 xs5) false, .sl 1 (List.map e_Li64 ([r19] : List (List Int))) false]) 1 0 (by kernel_rfl) ty29 (by kernel_rfl) (by kernel_rfl) (by kernel_rfl))) (by kernel_rfl) ?_
              refine aDone (by kernel_rfl) ?_
              refine oBlk ?_
              refine oRegion rfl ?_
              refine oOp (.d (.int .i64 (IntKind.wrap .i64 (x4 + 1)))) (by kernel_rfl) (by kernel_rfl) (PureV.does (p_int (k := .i64) (p := x4) (q := 1) (by kernel_rfl) (by kernel_rfl) (by kernel_rfl))) ?_
              refine oOp (.d (.int .i64 (IntKind.wrap .i64 (x4 + 1)))) (by kernel_rfl) (by kernel_rfl) (PureV.does (p_move (by kernel_rfl))) ?_
              refine oEnd ?_
              refine oAgain ?_
              refine oHead [2, 3, 8, 10, 35, 36, 37] [0, 1, 2, 3] (T' := [(2, .d (.int .i64 part)), (3, .d (.int .i64 kind)), (8, .ptr 0 0), (10, .ptr 1 0), (35, .d (.lit (List.map e_Li64 s0))), (36, .d (.int .i64 ((List.length s0) : Int))), (37, .d (.int .i64 (IntKind.wrap .i64 (x4 + 1))))]) (H' := [.box [.nilc, .nilc], .box [.ref 2 (List.length (xs10 ++ ([r19] : List (List Int)))) 0 (List.length (xs10 ++ ([r19] : List (List Int)))), .ref 3 (List.length xs5) 0 (List.length xs5)], .sl 1 (List.map e_Li64 (xs10 ++ ([r19] : List (List Int)))) false, .sl 1 (List.map e_i64 xs5) false]) (by kernel_rfl) (by kernel_rfl) (by kernel_rfl) (by kernel_rfl) (by decide) (by kernel_rfl) (by kernel_rfl) ?_
              exact hag1 ((IntKind.wrap .i64 (x4 + 1)), (xs10 ++ ([r19] : List (List Int))))
            · refine oCondF (by kernel_rfl) ?_
              refine oExit rfl ?_
              refine oHead [2, 3, 8, 10] [0, 1, 2, 3] (T' := [(2, .d (.int .i64 part)), (3, .d (.int .i64 kind)), (8, .ptr 0 0), (10, .ptr 1 0)]) (H' := [.box [.nilc, .nilc], .box [.ref 2 (List.length xs10) 0 (List.length xs10), .ref 3 (List.length xs5) 0 (List.length xs5)], .sl 1 (List.map e_Li64 xs10) false, .sl 1 (List.map e_i64 xs5) false]) (by kernel_rfl) (by kernel_rfl) (by kernel_rfl) (by kernel_rfl) (by decide) (by kernel_rfl) (by kernel_rfl) ?_
              exact hj2 xs10

/-- awardingbody/scheme.permitted -/
def scheme_permitted (k : Nat) (x0 : Int) (x1 : Int) (x2 : Int) (x3 : Int) (x4 : Int) (x5 : Int) (mark1 : Int) : Option (Bool) := blet ((mark1 == (-1)) || (mark1 == 0)) fun x10 => blet (x10 || (mark1 == x1)) fun x11 => Option.bind (bif x11 then some true else blet ((x0 == 1) && (decide (mark1 > 0))) fun x15 => blet (x15 && (decide (mark1 < x1))) fun x16 => some x16 : Option (Bool)) (fun x14 => some x14)
def scheme_permitted_E (x0 : Int) (x1 : Int) (x2 : Int) (x3 : Int) (x4 : Int) (x5 : Int) (mark1 : Int) : Bool → V × List Blk := fun r1 => (.d (.bool r1), [])
theorem scheme_permitted_goes (k : Nat) (x0 : Int) (x1 : Int) (x2 : Int) (x3 : Int) (x4 : Int) (x5 : Int) (mark1 : Int) : RunsO Try.prog 56 [.agg [.d (.int .i64 x0), .d (.int .i64 x1), .d (.int .i64 x2), .d (.int .i64 x3), .d (.int .i64 x4), .d (.int .i64 x5)], .d (.int .i64 mark1)] [] (scheme_permitted_E x0 x1 x2 x3 x4 x5 mark1) (scheme_permitted k x0 x1 x2 x3 x4 x5 mark1) := by
  refine RunsO.of_goes (N := 32) (m := 0) (T := [(0, .agg [.d (.int .i64 x0), .d (.int .i64 x1), .d (.int .i64 x2), .d (.int .i64 x3), .d (.int .i64 x4), .d (.int .i64 x5)]), (1, .d (.int .i64 mark1))]) Try.func56 rfl rfl (by kernel_rfl) (by kernel_rfl) (by kernel_rfl) ?_
  unfold scheme_permitted
  refine bStart ?_
  refine oSeq ?_
  refine oRegion rfl ?_
  refine oOp (.ptr 0 0) (by kernel_rfl) (by kernel_rfl) (k_box (H' := [.box [.d (.int .i64 x0), .d (.int .i64 x1), .d (.int .i64 x2), .d (.int .i64 x3), .d (.int .i64 x4), .d (.int .i64 x5)]]) (cells := [.d (.int .i64 x0), .d (.int .i64 x1), .d (.int .i64 x2), .d (.int .i64 x3), .d (.int .i64 x4), .d (.int .i64 x5)]) (by kernel_rfl) (by kernel_rfl) (by kernel_rfl)) ?_
  refine oOp (.d (.bool false)) (by kernel_rfl) (by kernel_rfl) (PureV.does (p_assign (by kernel_rfl))) ?_
  refine oEnd ?_
  refine oSeq ?_
  refine oRegion rfl ?_
  refine oOp (.d (.int .i64 mark1)) (by kernel_rfl) (by kernel_rfl) (PureV.does (p_move (by kernel_rfl))) ?_
  refine oOp (.d (.bool (mark1 == (-1)))) (by kernel_rfl) (by kernel_rfl) (PureV.does (p_int (k := .i64) (p := mark1) (q := (-1)) (by kernel_rfl) (by kernel_rfl) (by kernel_rfl))) ?_
  refine oOp (.d (.bool (mark1 == (-1)))) (by kernel_rfl) (by kernel_rfl) (PureV.does (p_move (by kernel_rfl))) ?_
  refine bMeetF (H' := [.box [.d (.int .i64 x0), .d (.int .i64 x1), .d (.int .i64 x2), .d (.int .i64 x3), .d (.int .i64 x4), .d (.int .i64 x5)]]) 3 rfl ((fun (x10 : Bool) => [(1, .d (.int .i64 mark1)), (2, .ptr 0 0), (10, .d (.bool x10))])) (fun x10 => ?_) (fun F hj1 => ?_)
  · refine oView (T' := [(1, .d (.int .i64 mark1)), (2, .ptr 0 0), (10, .d (.bool x10))]) (H' := [.box [.d (.int .i64 x0), .d (.int .i64 x1), .d (.int .i64 x2), .d (.int .i64 x3), .d (.int .i64 x4), .d (.int .i64 x5)]]) (by kernel_rfl) (by kernel_rfl) ?_
    refine oOp (.d (.bool x10)) (by kernel_rfl) (by kernel_rfl) (PureV.does (p_move (by kernel_rfl))) ?_
    refine bMeetF (H' := [.box [.d (.int .i64 x0), .d (.int .i64 x1), .d (.int .i64 x2), .d (.int .i64 x3), .d (.int .i64 x4), .d (.int .i64 x5)]]) 5 rfl ((fun (x11 : Bool) => [(1, .d (.int .i64 mark1)), (2, .ptr 0 0), (16, .d (.bool x11))])) (fun x11 => ?_) (fun F hj2 => ?_)
    · refine oView (T' := [(1, .d (.int .i64 mark1)), (2, .ptr 0 0), (16, .d (.bool x11))]) (H' := [.box [.d (.int .i64 x0), .d (.int .i64 x1), .d (.int .i64 x2), .d (.int .i64 x3), .d (.int .i64 x4), .d (.int .i64 x5)]]) (by kernel_rfl) (by kernel_rfl) ?_
      refine oOp (.d (.bool x11)) (by kernel_rfl) (by kernel_rfl) (PureV.does (p_move (by kernel_rfl))) ?_
      refine bMeet 14 rfl ((fun (x14 : Bool) => [(31, .d (.bool x14))])) ((fun (x14 : Bool) => [])) (fun s => s) (fun x14 => ?_) (fun hj3 => ?_)
      · refine oView (T' := [(31, .d (.bool x14))]) (H' := []) (by kernel_rfl) (by kernel_rfl) ?_
        refine oOp (.d (.bool x14)) (by kernel_rfl) (by kernel_rfl) (PureV.does (p_assign (by kernel_rfl))) ?_
        refine oEnd ?_
        exact oRet (r0 := x14) (rv := .d (.bool x14)) (B := []) (vs := [.d (.bool x14)]) (σ := []) (by kernel_rfl) Try.func56 rfl (.cons _ _ _ _ (.tmp 4 _ (by kernel_rfl)) .nil) (by kernel_rfl) (by kernel_rfl) (by kernel_rfl) (by kernel_rfl) (by decide) (by kernel_rfl) (by kernel_rfl)
      · refine bSplit 17 (by kernel_rfl) (fun hc => ?_) (fun hc => ?_)
        · refine oNot (by kernel_rfl) (by kernel_rfl) ?_
          refine oNot (by kernel_rfl) (by kernel_rfl) ?_
          refine oNot (by kernel_rfl) (by kernel_rfl) ?_
          refine oNot (by kernel_rfl) (by kernel_rfl) ?_
          refine oNot (by kernel_rfl) (by kernel_rfl) ?_
          refine oNot (by kernel_rfl) (by kernel_rfl) ?_
          refine oNot (by kernel_rfl) (by kernel_rfl) ?_
          refine oNot (by kernel_rfl) (by kernel_rfl) ?_
          refine oNot (by kernel_rfl) (by kernel_rfl) ?_
          refine oNot (by kernel_rfl) (by kernel_rfl) ?_
          refine oNot (by kernel_rfl) (by kernel_rfl) ?_
          refine oNot (by kernel_rfl) (by kernel_rfl) ?_
          refine oNot (by kernel_rfl) (by kernel_rfl) ?_
          refine oOp (.d (.bool true)) (by kernel_rfl) (by kernel_rfl) (PureV.does (p_pick (b := true) (by kernel_rfl) (by kernel_rfl))) ?_
          refine oHead [31] [] (T' := [(31, .d (.bool true))]) (H' := []) (by kernel_rfl) (by kernel_rfl) (by kernel_rfl) (by kernel_rfl) (by decide) (by kernel_rfl) (by kernel_rfl) ?_
          exact hj3 true
        · refine oOp (.ptr 0 0) (by kernel_rfl) (by kernel_rfl) (PureV.does (k_fieldAddr 0 0 (by kernel_rfl) Try.underlying49 rfl ty3 (by kernel_rfl))) ?_
          refine oOp (.d (.int .i64 x0)) (by kernel_rfl) (by kernel_rfl) (Quiet.does (k_load 0 0 (by kernel_rfl) Try.underlying3 (by kernel_rfl) (by kernel_rfl))) ?_
          refine oOp (.d (.bool (x0 == 1))) (by kernel_rfl) (by kernel_rfl) (PureV.does (p_int (k := .i64) (p := x0) (q := 1) (by kernel_rfl) (by kernel_rfl) (by kernel_rfl))) ?_
          refine oOp (.d (.bool (x0 == 1))) (by kernel_rfl) (by kernel_rfl) (PureV.does (p_move (by kernel_rfl))) ?_
          refine bMeetF (H' := [.box [.d (.int .i64 x0), .d (.int .i64 x1), .d (.int .i64 x2), .d (.int .i64 x3), .d (.int .i64 x4), .d (.int .i64 x5)]]) 3 rfl ((fun (x15 : Bool) => [(1, .d (.int .i64 mark1)), (2, .ptr 0 0), (17, .d (.bool false)), (24, .d (.bool x15))])) (fun x15 => ?_) (fun F hj4 => ?_)
          · refine oView (T' := [(1, .d (.int .i64 mark1)), (2, .ptr 0 0), (17, .d (.bool false)), (24, .d (.bool x15))]) (H' := [.box [.d (.int .i64 x0), .d (.int .i64 x1), .d (.int .i64 x2), .d (.int .i64 x3), .d (.int .i64 x4), .d (.int .i64 x5)]]) (by kernel_rfl) (by kernel_rfl) ?_
            refine oOp (.d (.bool x15)) (by kernel_rfl) (by kernel_rfl) (PureV.does (p_move (by kernel_rfl))) ?_
            refine bMeetF (H' := []) 5 rfl ((fun (x16 : Bool) => [(17, .d (.bool false)), (30, .d (.bool x16))])) (fun x16 => ?_) (fun F hj5 => ?_)
            · refine oView (T' := [(17, .d (.bool false)), (30, .d (.bool x16))]) (H' := []) (by kernel_rfl) (by kernel_rfl) ?_
              refine oOp (.d (.bool x16)) (by kernel_rfl) (by kernel_rfl) (PureV.does (p_pick (b := false) (by kernel_rfl) (by kernel_rfl))) ?_
              refine oHead [31] [] (T' := [(31, .d (.bool x16))]) (H' := []) (by kernel_rfl) (by kernel_rfl) (by kernel_rfl) (by kernel_rfl) (by decide) (by kernel_rfl) (by kernel_rfl) ?_
              exact hj3 x16
            · refine bPickF 25 (fun c => F (c && (decide (mark1 < x1)))) (by kernel_rfl) (fun hc => ?_) (fun hc => ?_)
              · refine oOp (.d (.int .i64 mark1)) (by kernel_rfl) (by kernel_rfl) (PureV.does (p_move (by kernel_rfl))) ?_
                refine oOp (.ptr 0 1) (by kernel_rfl) (by kernel_rfl) (PureV.does (k_fieldAddr 0 0 (by kernel_rfl) Try.underlying49 rfl ty3 (by kernel_rfl))) ?_
                refine oOp (.d (.int .i64 x1)) (by kernel_rfl) (by kernel_rfl) (Quiet.does (k_load 0 1 (by kernel_rfl) Try.underlying3 (by kernel_rfl) (by kernel_rfl))) ?_
                refine oOp (.d (.bool (decide (mark1 < x1)))) (by kernel_rfl) (by kernel_rfl) (PureV.does (p_int (k := .i64) (p := mark1) (q := x1) (by kernel_rfl) (by kernel_rfl) (by kernel_rfl))) ?_
                refine oOp (.d (.bool (decide (mark1 < x1)))) (by kernel_rfl) (by kernel_rfl) (PureV.does (p_pick (b := true) (by kernel_rfl) (by kernel_rfl))) ?_
                refine oHead [17, 30] [] (T' := [(17, .d (.bool false)), (30, .d (.bool (decide (mark1 < x1))))]) (H' := []) (by kernel_rfl) (by kernel_rfl) (by kernel_rfl) (by kernel_rfl) (by decide) (by kernel_rfl) (by kernel_rfl) ?_
                exact hj5 (decide (mark1 < x1))
              · refine oNot (by kernel_rfl) (by kernel_rfl) ?_
                refine oNot (by kernel_rfl) (by kernel_rfl) ?_
                refine oNot (by kernel_rfl) (by kernel_rfl) ?_
                refine oNot (by kernel_rfl) (by kernel_rfl) ?_
                refine oOp (.d (.bool false)) (by kernel_rfl) (by kernel_rfl) (PureV.does (p_pick (b := false) (by kernel_rfl) (by kernel_rfl))) ?_
                refine oHead [17, 30] [] (T' := [(17, .d (.bool false)), (30, .d (.bool false))]) (H' := []) (by kernel_rfl) (by kernel_rfl) (by kernel_rfl) (by kernel_rfl) (by decide) (by kernel_rfl) (by kernel_rfl) ?_
                exact hj5 false
          · refine bPickF 21 (fun c => F (c && (decide (mark1 > 0)))) (by kernel_rfl) (fun hc => ?_) (fun hc => ?_)
            · refine oOp (.d (.int .i64 mark1)) (by kernel_rfl) (by kernel_rfl) (PureV.does (p_move (by kernel_rfl))) ?_
              refine oOp (.d (.bool (decide (mark1 > 0)))) (by kernel_rfl) (by kernel_rfl) (PureV.does (p_int (k := .i64) (p := mark1) (q := 0) (by kernel_rfl) (by kernel_rfl) (by kernel_rfl))) ?_
              refine oOp (.d (.bool (decide (mark1 > 0)))) (by kernel_rfl) (by kernel_rfl) (PureV.does (p_pick (b := true) (by kernel_rfl) (by kernel_rfl))) ?_
              refine oHead [1, 2, 17, 24] [0] (T' := [(1, .d (.int .i64 mark1)), (2, .ptr 0 0), (17, .d (.bool false)), (24, .d (.bool (decide (mark1 > 0))))]) (H' := [.box [.d (.int .i64 x0), .d (.int .i64 x1), .d (.int .i64 x2), .d (.int .i64 x3), .d (.int .i64 x4), .d (.int .i64 x5)]]) (by kernel_rfl) (by kernel_rfl) (by kernel_rfl) (by kernel_rfl) (by decide) (by kernel_rfl) (by kernel_rfl) ?_
              exact hj4 (decide (mark1 > 0))
            · refine oNot (by kernel_rfl) (by kernel_rfl) ?_
              refine oNot (by kernel_rfl) (by kernel_rfl) ?_
              refine oOp (.d (.bool false)) (by kernel_rfl) (by kernel_rfl) (PureV.does (p_pick (b := false) (by kernel_rfl) (by kernel_rfl))) ?_
              refine oHead [1, 2, 17, 24] [0] (T' := [(1, .d (.int .i64 mark1)), (2, .ptr 0 0), (17, .d (.bool false)), (24, .d (.bool false))]) (H' := [.box [.d (.int .i64 x0), .d (.int .i64 x1), .d (.int .i64 x2), .d (.int .i64 x3), .d (.int .i64 x4), .d (.int .i64 x5)]]) (by kernel_rfl) (by kernel_rfl) (by kernel_rfl) (by kernel_rfl) (by decide) (by kernel_rfl) (by kernel_rfl) ?_
              exact hj4 false
    · refine bPickF 11 (fun c => F (c || (mark1 == x1))) (by kernel_rfl) (fun hc => ?_) (fun hc => ?_)
      · refine oNot (by kernel_rfl) (by kernel_rfl) ?_
        refine oNot (by kernel_rfl) (by kernel_rfl) ?_
        refine oNot (by kernel_rfl) (by kernel_rfl) ?_
        refine oNot (by kernel_rfl) (by kernel_rfl) ?_
        refine oOp (.d (.bool true)) (by kernel_rfl) (by kernel_rfl) (PureV.does (p_pick (b := true) (by kernel_rfl) (by kernel_rfl))) ?_
        refine oHead [1, 2, 16] [0] (T' := [(1, .d (.int .i64 mark1)), (2, .ptr 0 0), (16, .d (.bool true))]) (H' := [.box [.d (.int .i64 x0), .d (.int .i64 x1), .d (.int .i64 x2), .d (.int .i64 x3), .d (.int .i64 x4), .d (.int .i64 x5)]]) (by kernel_rfl) (by kernel_rfl) (by kernel_rfl) (by kernel_rfl) (by decide) (by kernel_rfl) (by kernel_rfl) ?_
        exact hj2 true
      · refine oOp (.d (.int .i64 mark1)) (by kernel_rfl) (by kernel_rfl) (PureV.does (p_move (by kernel_rfl))) ?_
        refine oOp (.ptr 0 1) (by kernel_rfl) (by kernel_rfl) (PureV.does (k_fieldAddr 0 0 (by kernel_rfl) Try.underlying49 rfl ty3 (by kernel_rfl))) ?_
        refine oOp (.d (.int .i64 x1)) (by kernel_rfl) (by kernel_rfl) (Quiet.does (k_load 0 1 (by kernel_rfl) Try.underlying3 (by kernel_rfl) (by kernel_rfl))) ?_
        refine oOp (.d (.bool (mark1 == x1))) (by kernel_rfl) (by kernel_rfl) (PureV.does (p_int (k := .i64) (p := mark1) (q := x1) (by kernel_rfl) (by kernel_rfl) (by kernel_rfl))) ?_
        refine oOp (.d (.bool (mark1 == x1))) (by kernel_rfl) (by kernel_rfl) (PureV.does (p_pick (b := false) (by kernel_rfl) (by kernel_rfl))) ?_
        refine oHead [1, 2, 16] [0] (T' := [(1, .d (.int .i64 mark1)), (2, .ptr 0 0), (16, .d (.bool (mark1 == x1)))]) (H' := [.box [.d (.int .i64 x0), .d (.int .i64 x1), .d (.int .i64 x2), .d (.int .i64 x3), .d (.int .i64 x4), .d (.int .i64 x5)]]) (by kernel_rfl) (by kernel_rfl) (by kernel_rfl) (by kernel_rfl) (by decide) (by kernel_rfl) (by kernel_rfl) ?_
        exact hj2 (mark1 == x1)
  · refine bPickF 7 (fun c => F (c || (mark1 == 0))) (by kernel_rfl) (fun hc => ?_) (fun hc => ?_)
    · refine oNot (by kernel_rfl) (by kernel_rfl) ?_
      refine oNot (by kernel_rfl) (by kernel_rfl) ?_
      refine oOp (.d (.bool true)) (by kernel_rfl) (by kernel_rfl) (PureV.does (p_pick (b := true) (by kernel_rfl) (by kernel_rfl))) ?_
      refine oHead [1, 2, 10] [0] (T' := [(1, .d (.int .i64 mark1)), (2, .ptr 0 0), (10, .d (.bool true))]) (H' := [.box [.d (.int .i64 x0), .d (.int .i64 x1), .d (.int .i64 x2), .d (.int .i64 x3), .d (.int .i64 x4), .d (.int .i64 x5)]]) (by kernel_rfl) (by kernel_rfl) (by kernel_rfl) (by kernel_rfl) (by decide) (by kernel_rfl) (by kernel_rfl) ?_
      exact hj1 true
    · refine oOp (.d (.int .i64 mark1)) (by kernel_rfl) (by kernel_rfl) (PureV.does (p_move (by kernel_rfl))) ?_
      refine oOp (.d (.bool (mark1 == 0))) (by kernel_rfl) (by kernel_rfl) (PureV.does (p_int (k := .i64) (p := mark1) (q := 0) (by kernel_rfl) (by kernel_rfl) (by kernel_rfl))) ?_
      refine oOp (.d (.bool (mark1 == 0))) (by kernel_rfl) (by kernel_rfl) (PureV.does (p_pick (b := false) (by kernel_rfl) (by kernel_rfl))) ?_
      refine oHead [1, 2, 10] [0] (T' := [(1, .d (.int .i64 mark1)), (2, .ptr 0 0), (10, .d (.bool (mark1 == 0)))]) (H' := [.box [.d (.int .i64 x0), .d (.int .i64 x1), .d (.int .i64 x2), .d (.int .i64 x3), .d (.int .i64 x4), .d (.int .i64 x5)]]) (by kernel_rfl) (by kernel_rfl) (by kernel_rfl) (by kernel_rfl) (by decide) (by kernel_rfl) (by kernel_rfl) ?_
      exact hj1 (mark1 == 0)

end Go.VM
