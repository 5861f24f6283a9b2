/- Plain functions that answer as the program's functions do, and the proof that they do. -/
import Derived.Test.YtgfejdekpmkffaaProg
import Derived.KernelRfl
import Derived.Test.YtgfejdekpmkffaaEngW
import Derived.Test.YtgfejdekpmkffaaRFacts
import Derived.Test.YtgfejdekpmkffaaRFuns0
import Derived.Test.YtgfejdekpmkffaaRFuns1
import Derived.Test.YtgfejdekpmkffaaRFuns2
import Derived.Test.YtgfejdekpmkffaaRFuns3
namespace Go.VM
open Go.Proofs
set_option linter.unusedVariables false
set_option linter.unusedSimpArgs false
set_option maxRecDepth 100000
/-- awardingbody/boundary.Nearest -/
def boundary_Nearest_b1 (k : Nat) (d0 : (List Int)) (share0 : Int) (share1 : Int) (again : Int × Int → Option (Int)) : Int × Int → Option (Int) := uc fun best11 => fun b4 => bif (decide (b4 ≤ ((List.length d0) : Int))) then Option.bind (Option.bind (boundary_reach k d0 best11) (fun r11 => Option.bind (boundary_reach k d0 b4) (fun r12 => Option.bind (distribution_Count k d0) (fun r1111 => Option.bind (ratio_New k (IntKind.wrap .i64 (r11 + r12)) (IntKind.wrap .i64 (2 * r1111))) (uc fun r137 => uc fun r167 => fun r177 => Option.bind (bif (decide (r12 < r11)) then Option.bind (ratio_Less k share0 share1 r137 r167) (fun r123 => some r123) else some false : Option (Bool)) (fun x7 => bif x7 then some b4 else some best11))))) : Option (Int)) (fun best14 => again (best14, (IntKind.wrap .i64 (b4 + 1)))) else some best11
def boundary_Nearest (k : Nat) (d0 : (List Int)) (share0 : Int) (share1 : Int) : Option (Int × Int) := Option.bind (boundary_check k d0 share0 share1) (fun r110 => bif (r110 != 0) then some (0, r110) else Option.bind (gloop (boundary_Nearest_b1 k d0 share0 share1) k (0, 1) : Option (Int)) (fun best9 => some (best9, 0)))
def boundary_Nearest_E (d0 : (List Int)) (share0 : Int) (share1 : Int) : Int × Int → V × List Blk := uc fun r18 => fun r19 => (.tuple [.d (.int .i64 r18), .d (.int .i64 r19)], [])
theorem boundary_Nearest_goes (k : Nat) (d0 : (List Int)) (share0 : Int) (share1 : Int) : RunsO Try.prog 19 [.agg [.d (.lit (List.map e_i64 d0))], .agg [.d (.int .i64 share0), .d (.int .i64 share1)]] [] (boundary_Nearest_E d0 share0 share1) (boundary_Nearest k d0 share0 share1) := by
  refine RunsO.of_goes (N := 52) (m := 0) (T := [(0, .agg [.d (.lit (List.map e_i64 d0))]), (1, .agg [.d (.int .i64 share0), .d (.int .i64 share1)])]) Try.func19 rfl rfl (by kernel_rfl) (by kernel_rfl) (by kernel_rfl) ?_
  unfold boundary_Nearest
  refine bStart ?_
  refine oSeq ?_
  refine oRegion rfl ?_
  refine oOp (.ptr 0 0) (by kernel_rfl) (by kernel_rfl) (k_box (H' := [.box [.d (.lit (List.map e_i64 d0))]]) (cells := [.d (.lit (List.map e_i64 d0))]) (by kernel_rfl) (by kernel_rfl) (by kernel_rfl)) ?_
  refine oOp (.ptr 1 0) (by kernel_rfl) (by kernel_rfl) (k_box (H' := [.box [.d (.lit (List.map e_i64 d0))], .box [.d (.int .i64 share0), .d (.int .i64 share1)]]) (cells := [.d (.int .i64 share0), .d (.int .i64 share1)]) (by kernel_rfl) (by kernel_rfl) (by kernel_rfl)) ?_
  refine oOp (.d (.int .i64 0)) (by kernel_rfl) (by kernel_rfl) (PureV.does (p_assign (by kernel_rfl))) ?_
  refine oOp (.d (.int .i64 0)) (by kernel_rfl) (by kernel_rfl) (PureV.does (p_assign (by kernel_rfl))) ?_
  refine oEnd ?_
  refine oSeq ?_
  refine oSeq ?_
  refine oRegion rfl ?_
  refine oOp (.agg [.d (.lit (List.map e_i64 d0))]) (by kernel_rfl) (by kernel_rfl) (Quiet.does (k_loadAgg 0 0 (by kernel_rfl) Try.underlying28 (by kernel_rfl) ty28 (by kernel_rfl))) ?_
  refine oOp (.agg [.d (.int .i64 share0), .d (.int .i64 share1)]) (by kernel_rfl) (by kernel_rfl) (Quiet.does (k_loadAgg 1 0 (by kernel_rfl) Try.underlying40 (by kernel_rfl) ty40 (by kernel_rfl))) ?_
  refine bCall (caps := []) (v := (fun (r110 : Int) => (.d (.int .i64 r110) : V))) (H' := (fun (r110 : Int) => ([.box [.d (.lit (List.map e_i64 d0))], .box [.d (.int .i64 share0), .d (.int .i64 share1)]] : List Blk))) [] _ (boundary_check_goes k d0 share0 share1) (by kernel_rfl) (by kernel_rfl) rfl (by kernel_rfl) Try.func31 rfl (by kernel_rfl) (ConvRs.refl _ _) (by kernel_rfl) (by kernel_rfl) (by kernel_rfl) (by decide) (by kernel_rfl) (by kernel_rfl) (fun _ => (by kernel_rfl)) (fun _ => (by kernel_rfl)) (fun _ => (by kernel_rfl)) (fun r110 => ?_)
  refine oOp (.d (.int .i64 r110)) (by kernel_rfl) (by kernel_rfl) (PureV.does (p_assign (by kernel_rfl))) ?_
  refine oEnd ?_
  refine oSeq ?_
  refine oRegion rfl ?_
  refine oOp (.d (.int .i64 r110)) (by kernel_rfl) (by kernel_rfl) (PureV.does (p_move (by kernel_rfl))) ?_
  refine oOp (.d (.bool (r110 != 0))) (by kernel_rfl) (by kernel_rfl) (PureV.does (p_int (k := .i64) (p := r110) (q := 0) (by kernel_rfl) (by kernel_rfl) (by kernel_rfl))) ?_
  refine oEnd ?_
  refine bSplit 17 (by kernel_rfl) (fun hc => ?_) (fun hc => ?_)
  · refine oCondT (by kernel_rfl) ?_
    refine oSeq ?_
    refine oRegion rfl ?_
    refine oOp (.d (.int .i64 r110)) (by kernel_rfl) (by kernel_rfl) (PureV.does (p_move (by kernel_rfl))) ?_
    refine oOp (.d (.int .i64 0)) (by kernel_rfl) (by kernel_rfl) (PureV.does (p_assign (by kernel_rfl))) ?_
    refine oOp (.d (.int .i64 r110)) (by kernel_rfl) (by kernel_rfl) (PureV.does (p_assign (by kernel_rfl))) ?_
    refine oEnd ?_
    exact oRet (r0 := (0, r110)) (rv := .tuple [.d (.int .i64 0), .d (.int .i64 r110)]) (B := []) (vs := [.d (.int .i64 0), .d (.int .i64 r110)]) (σ := []) (by kernel_rfl) Try.func19 rfl (.cons _ _ _ _ (.tmp 4 _ (by kernel_rfl)) (.cons _ _ _ _ (.tmp 5 _ (by kernel_rfl)) .nil)) (by kernel_rfl) (by kernel_rfl) (by kernel_rfl) (by kernel_rfl) (by decide) (by kernel_rfl) (by kernel_rfl)
  · refine oCondF (by kernel_rfl) ?_
    refine oSkip ?_
    refine oSeq ?_
    refine oRegion rfl ?_
    refine oOp (.d (.int .i64 0)) (by kernel_rfl) (by kernel_rfl) (PureV.does (p_assign (by kernel_rfl))) ?_
    refine oEnd ?_
    refine oSeq ?_
    refine oSeq ?_
    refine oRegion rfl ?_
    refine oOp (.d (.int .i64 1)) (by kernel_rfl) (by kernel_rfl) (PureV.does (p_assign (by kernel_rfl))) ?_
    refine oEnd ?_
    refine bJoin ((fun (best9 : Int) => [(7, .d (.int .i64 best9))])) ((fun (best9 : Int) => [])) (fun s => s) (fun best9 => ?_) (fun hj6 => ?_)
    · refine oView (T' := [(7, .d (.int .i64 best9))]) (H' := []) (by kernel_rfl) (by kernel_rfl) ?_
      refine oSeq ?_
      refine oRegion rfl ?_
      refine oOp (.d (.int .i64 best9)) (by kernel_rfl) (by kernel_rfl) (PureV.does (p_move (by kernel_rfl))) ?_
      refine oOp (.d (.int .i64 best9)) (by kernel_rfl) (by kernel_rfl) (PureV.does (p_assign (by kernel_rfl))) ?_
      refine oOp (.d (.int .i64 0)) (by kernel_rfl) (by kernel_rfl) (PureV.does (p_assign (by kernel_rfl))) ?_
      refine oEnd ?_
      exact oRet (r0 := (best9, 0)) (rv := .tuple [.d (.int .i64 best9), .d (.int .i64 0)]) (B := []) (vs := [.d (.int .i64 best9), .d (.int .i64 0)]) (σ := []) (by kernel_rfl) Try.func19 rfl (.cons _ _ _ _ (.tmp 4 _ (by kernel_rfl)) (.cons _ _ _ _ (.tmp 5 _ (by kernel_rfl)) .nil)) (by kernel_rfl) (by kernel_rfl) (by kernel_rfl) (by kernel_rfl) (by decide) (by kernel_rfl) (by kernel_rfl)
    · refine oBlock ?_
      refine oLoop ?_
      refine oHead [2, 3, 7, 8] [0, 1] (T' := [(2, .ptr 0 0), (3, .ptr 1 0), (7, .d (.int .i64 0)), (8, .d (.int .i64 1))]) (H' := [.box [.d (.lit (List.map e_i64 d0))], .box [.d (.int .i64 share0), .d (.int .i64 share1)]]) (by kernel_rfl) (by kernel_rfl) (by kernel_rfl) (by kernel_rfl) (by decide) (by kernel_rfl) (by kernel_rfl) ?_
      refine bLoop (body := boundary_Nearest_b1 k d0 share0 share1) ((uc fun (best11 : Int) => (fun (b4 : Int) => [(2, .ptr 0 0), (3, .ptr 1 0), (7, .d (.int .i64 best11)), (8, .d (.int .i64 b4))]))) ((uc fun (best11 : Int) => (fun (b4 : Int) => [.box [.d (.lit (List.map e_i64 d0))], .box [.d (.int .i64 share0), .d (.int .i64 share1)]]))) (fun again hag1 s => ?_) k (0, 1)
      · unfold boundary_Nearest_b1
        obtain ⟨best11, b4⟩ := s
        refine bUc ?_
        refine oView (T' := [(2, .ptr 0 0), (3, .ptr 1 0), (7, .d (.int .i64 best11)), (8, .d (.int .i64 b4))]) (H' := [.box [.d (.lit (List.map e_i64 d0))], .box [.d (.int .i64 share0), .d (.int .i64 share1)]]) (by kernel_rfl) (by kernel_rfl) ?_
        refine oSeq ?_
        refine oSeq ?_
        refine oRegion rfl ?_
        refine oOp (.d (.int .i64 b4)) (by kernel_rfl) (by kernel_rfl) (PureV.does (p_move (by kernel_rfl))) ?_
        refine oOp (.ptr 0 0) (by kernel_rfl) (by kernel_rfl) (PureV.does (k_fieldAddr 0 0 (by kernel_rfl) Try.underlying28 rfl ty22 (by kernel_rfl))) ?_
        refine oOp (.d (.lit (List.map e_i64 d0))) (by kernel_rfl) (by kernel_rfl) (Quiet.does (k_load 0 0 (by kernel_rfl) Try.underlying22 (by kernel_rfl) (by kernel_rfl))) ?_
        refine oOp (.d (.int .i64 ((List.length d0) : Int))) (by kernel_rfl) (by kernel_rfl) (PureV.does (k_lenLit (enc := e_i64) d0 (by kernel_rfl) Try.underlying22)) ?_
        refine oOp (.d (.bool (decide (b4 ≤ ((List.length d0) : Int))))) (by kernel_rfl) (by kernel_rfl) (PureV.does (p_int (k := .i64) (p := b4) (q := ((List.length d0) : Int)) (by kernel_rfl) (by kernel_rfl) (by kernel_rfl))) ?_
        refine oEnd ?_
        refine bSplit 23 (by kernel_rfl) (fun hc => ?_) (fun hc => ?_)
        · refine oCondT (by kernel_rfl) ?_
          refine oSkip ?_
          refine oSeq ?_
          refine bJoin ((fun (best14 : Int) => [(2, .ptr 0 0), (3, .ptr 1 0), (7, .d (.int .i64 best14)), (8, .d (.int .i64 b4))])) ((fun (best14 : Int) => [.box [.d (.lit (List.map e_i64 d0))], .box [.d (.int .i64 share0), .d (.int .i64 share1)]])) (fun s => s) (fun best14 => ?_) (fun hj9 => ?_)
          · refine oView (T' := [(2, .ptr 0 0), (3, .ptr 1 0), (7, .d (.int .i64 best14)), (8, .d (.int .i64 b4))]) (H' := [.box [.d (.lit (List.map e_i64 d0))], .box [.d (.int .i64 share0), .d (.int .i64 share1)]]) (by kernel_rfl) (by kernel_rfl) ?_
            refine oRegion rfl ?_
            refine oOp (.d (.int .i64 b4)) (by kernel_rfl) (by kernel_rfl) (PureV.does (p_move (by kernel_rfl))) ?_
            refine oOp (.d (.int .i64 (IntKind.wrap .i64 (b4 + 1)))) (by kernel_rfl) (by kernel_rfl) (PureV.does (p_int (k := .i64) (p := b4) (q := 1) (by kernel_rfl) (by kernel_rfl) (by kernel_rfl))) ?_
            refine oOp (.d (.int .i64 (IntKind.wrap .i64 (b4 + 1)))) (by kernel_rfl) (by kernel_rfl) (PureV.does (p_assign (by kernel_rfl))) ?_
            refine oEnd ?_
            refine oAgain ?_
            refine oHead [2, 3, 7, 8] [0, 1] (T' := [(2, .ptr 0 0), (3, .ptr 1 0), (7, .d (.int .i64 best14)), (8, .d (.int .i64 (IntKind.wrap .i64 (b4 + 1))))]) (H' := [.box [.d (.lit (List.map e_i64 d0))], .box [.d (.int .i64 share0), .d (.int .i64 share1)]]) (by kernel_rfl) (by kernel_rfl) (by kernel_rfl) (by kernel_rfl) (by decide) (by kernel_rfl) (by kernel_rfl) ?_
            exact hag1 (best14, (IntKind.wrap .i64 (b4 + 1)))
          · refine oBlock ?_
            refine oSeq ?_
            refine oDraw [(0, 8), (1, 8)] rfl ?_
            refine aTakeL (i := 0) (st' := [0]) (.agg [.d (.lit (List.map e_i64 d0))]) rfl (by kernel_rfl) (by kernel_rfl) (by kernel_rfl) (by kernel_rfl) (by kernel_rfl) (by kernel_rfl) (by kernel_rfl) (k_loadAgg 0 0 (by kernel_rfl) Try.underlying28 (by kernel_rfl) ty28 (by kernel_rfl)) ?_
            refine aTakeL (i := 1) (st' := []) (.d (.int .i64 best11)) rfl (by kernel_rfl) (by kernel_rfl) (by kernel_rfl) (by kernel_rfl) (by kernel_rfl) (by kernel_rfl) (by kernel_rfl) (PureV.quiet (p_move (by kernel_rfl)) []) ?_
            refine aTakeL (i := 3) (st' := [0]) (.agg [.d (.lit (List.map e_i64 d0))]) rfl (by kernel_rfl) (by kernel_rfl) (by kernel_rfl) (by kernel_rfl) (by kernel_rfl) (by kernel_rfl) (by kernel_rfl) (k_loadAgg 0 0 (by kernel_rfl) Try.underlying28 (by kernel_rfl) ty28 (by kernel_rfl)) ?_
            refine aTakeL (i := 4) (st' := []) (.d (.int .i64 b4)) rfl (by kernel_rfl) (by kernel_rfl) (by kernel_rfl) (by kernel_rfl) (by kernel_rfl) (by kernel_rfl) (by kernel_rfl) (PureV.quiet (p_move (by kernel_rfl)) []) ?_
            refine dCall (i := 2) (caps := []) (v := (fun (r11 : Int) => (.d (.int .i64 r11) : V))) (H' := (fun (r11 : Int) => ([.box [.d (.lit (List.map e_i64 d0))], .box [.d (.int .i64 share0), .d (.int .i64 share1)]] : List Blk))) [] _ (boundary_reach_goes k d0 best11) rfl (by kernel_rfl) (by kernel_rfl) (by kernel_rfl) (by kernel_rfl) (by kernel_rfl) (by kernel_rfl) (by kernel_rfl) (by kernel_rfl) rfl (by kernel_rfl) Try.func33 rfl (by kernel_rfl) (ConvRs.refl _ _) (by kernel_rfl) (by kernel_rfl) (by kernel_rfl) (by decide) (by kernel_rfl) (by kernel_rfl) (fun _ => (by kernel_rfl)) (fun _ => (by kernel_rfl)) (fun _ => (by kernel_rfl)) (fun r11 => ?_)
            refine dCall (i := 5) (caps := []) (v := (fun (r12 : Int) => (.d (.int .i64 r12) : V))) (H' := (fun (r12 : Int) => ([.box [.d (.lit (List.map e_i64 d0))], .box [.d (.int .i64 share0), .d (.int .i64 share1)]] : List Blk))) [] _ (boundary_reach_goes k d0 b4) rfl (by kernel_rfl) (by kernel_rfl) (by kernel_rfl) (by kernel_rfl) (by kernel_rfl) (by kernel_rfl) (by kernel_rfl) (by kernel_rfl) rfl (by kernel_rfl) Try.func33 rfl (by kernel_rfl) (ConvRs.refl _ _) (by kernel_rfl) (by kernel_rfl) (by kernel_rfl) (by decide) (by kernel_rfl) (by kernel_rfl) (fun _ => (by kernel_rfl)) (fun _ => (by kernel_rfl)) (fun _ => (by kernel_rfl)) (fun r12 => ?_)
            refine aTakeL (i := 6) (st' := []) (.d (.int .i64 r11)) rfl (by kernel_rfl) (by kernel_rfl) (by kernel_rfl) (by kernel_rfl) (by kernel_rfl) (by kernel_rfl) (by kernel_rfl) (PureV.quiet (p_assign (by kernel_rfl)) []) ?_
            refine aTakeL (i := 7) (st' := []) (.d (.int .i64 r12)) rfl (by kernel_rfl) (by kernel_rfl) (by kernel_rfl) (by kernel_rfl) (by kernel_rfl) (by kernel_rfl) (by kernel_rfl) (PureV.quiet (p_assign (by kernel_rfl)) []) ?_
            refine aDone (by kernel_rfl) ?_
            refine oSeq ?_
            refine oRegion rfl ?_
            refine oOp (.d (.int .i64 r11)) (by kernel_rfl) (by kernel_rfl) (PureV.does (p_move (by kernel_rfl))) ?_
            refine oOp (.d (.int .i64 r12)) (by kernel_rfl) (by kernel_rfl) (PureV.does (p_move (by kernel_rfl))) ?_
            refine oOp (.d (.int .i64 (IntKind.wrap .i64 (r11 + r12)))) (by kernel_rfl) (by kernel_rfl) (PureV.does (p_int (k := .i64) (p := r11) (q := r12) (by kernel_rfl) (by kernel_rfl) (by kernel_rfl))) ?_
            refine oOp (.agg [.d (.lit (List.map e_i64 d0))]) (by kernel_rfl) (by kernel_rfl) (Quiet.does (k_loadAgg 0 0 (by kernel_rfl) Try.underlying28 (by kernel_rfl) ty28 (by kernel_rfl))) ?_
            refine bCall (caps := []) (v := (fun (r1111 : Int) => (.d (.int .i64 r1111) : V))) (H' := (fun (r1111 : Int) => ([.box [.d (.lit (List.map e_i64 d0))], .box [.d (.int .i64 share0), .d (.int .i64 share1)]] : List Blk))) [] _ (distribution_Count_goes k d0) (by kernel_rfl) (by kernel_rfl) rfl (by kernel_rfl) Try.func34 rfl (by kernel_rfl) (ConvRs.refl _ _) (by kernel_rfl) (by kernel_rfl) (by kernel_rfl) (by decide) (by kernel_rfl) (by kernel_rfl) (fun _ => (by kernel_rfl)) (fun _ => (by kernel_rfl)) (fun _ => (by kernel_rfl)) (fun r1111 => ?_)
            refine oOp (.d (.int .i64 (IntKind.wrap .i64 (2 * r1111)))) (by kernel_rfl) (by kernel_rfl) (PureV.does (p_int (k := .i64) (p := 2) (q := r1111) (by kernel_rfl) (by kernel_rfl) (by kernel_rfl))) ?_
            refine bCall (caps := []) (v := (uc fun (r137 : Int) => (uc fun (r167 : Int) => (fun (r177 : Int) => (.tuple [.agg [.d (.int .i64 r137), .d (.int .i64 r167)], .d (.int .i64 r177)] : V))))) (H' := (uc fun (r137 : Int) => (uc fun (r167 : Int) => (fun (r177 : Int) => ([.box [.d (.lit (List.map e_i64 d0))], .box [.d (.int .i64 share0), .d (.int .i64 share1)]] : List Blk))))) [] _ (ratio_New_goes k (IntKind.wrap .i64 (r11 + r12)) (IntKind.wrap .i64 (2 * r1111))) (by kernel_rfl) (by kernel_rfl) rfl (by kernel_rfl) Try.func32 rfl (by kernel_rfl) (ConvRs.refl _ _) (by kernel_rfl) (by kernel_rfl) (by kernel_rfl) (by decide) (by kernel_rfl) (by kernel_rfl) (fun _ => (by kernel_rfl)) (fun _ => (by kernel_rfl)) (fun _ => (by kernel_rfl)) (fun r => ?_)
            obtain ⟨r137, r167, r177⟩ := r
            refine bUc ?_
            refine bUc ?_
            refine oOp (.tuple [.agg [.d (.int .i64 r137), .d (.int .i64 r167)], .d (.int .i64 r177)]) (by kernel_rfl) (by kernel_rfl) (PureV.does (p_move (by kernel_rfl))) ?_
            refine oOp (.agg [.d (.int .i64 r137), .d (.int .i64 r167)]) (by kernel_rfl) (by kernel_rfl) (PureV.does (k_extract (by kernel_rfl))) ?_
            refine oOp (.d (.int .i64 r177)) (by kernel_rfl) (by kernel_rfl) (PureV.does (k_extract (by kernel_rfl))) ?_
            refine oOp (.ptr 2 0) (by kernel_rfl) (by kernel_rfl) (k_alloc (H' := [.box [.d (.lit (List.map e_i64 d0))], .box [.d (.int .i64 share0), .d (.int .i64 share1)], .box [.d (.int .i64 0), .d (.int .i64 0)]]) ty40 (by kernel_rfl) (by kernel_rfl)) ?_
            refine oOp (.undef) (by kernel_rfl) (by kernel_rfl) (k_store (vs := [.d (.int .i64 r137), .d (.int .i64 r167)]) (H' := [.box [.d (.lit (List.map e_i64 d0))], .box [.d (.int .i64 share0), .d (.int .i64 share1)], .box [.d (.int .i64 r137), .d (.int .i64 r167)]]) 2 0 (by kernel_rfl) ty40 (by kernel_rfl) (by kernel_rfl) (by kernel_rfl)) ?_
            refine oOp (.d (.int .i64 r177)) (by kernel_rfl) (by kernel_rfl) (PureV.does (p_assign (by kernel_rfl))) ?_
            refine oEnd ?_
            refine oSeq ?_
            refine oRegion rfl ?_
            refine oOp (.d (.int .i64 r12)) (by kernel_rfl) (by kernel_rfl) (PureV.does (p_move (by kernel_rfl))) ?_
            refine oOp (.d (.int .i64 r11)) (by kernel_rfl) (by kernel_rfl) (PureV.does (p_move (by kernel_rfl))) ?_
            refine oOp (.d (.bool (decide (r12 < r11)))) (by kernel_rfl) (by kernel_rfl) (PureV.does (p_int (k := .i64) (p := r12) (q := r11) (by kernel_rfl) (by kernel_rfl) (by kernel_rfl))) ?_
            refine oOp (.d (.bool (decide (r12 < r11)))) (by kernel_rfl) (by kernel_rfl) (PureV.does (p_move (by kernel_rfl))) ?_
            refine bMeet 4 rfl ((fun (x7 : Bool) => [(2, .ptr 0 0), (3, .ptr 1 0), (7, .d (.int .i64 best11)), (8, .d (.int .i64 b4)), (49, .d (.bool x7))])) ((fun (x7 : Bool) => [.box [.d (.lit (List.map e_i64 d0))], .box [.d (.int .i64 share0), .d (.int .i64 share1)]])) (fun s => s) (fun x7 => ?_) (fun hj10 => ?_)
            · refine oView (T' := [(2, .ptr 0 0), (3, .ptr 1 0), (7, .d (.int .i64 best11)), (8, .d (.int .i64 b4)), (49, .d (.bool x7))]) (H' := [.box [.d (.lit (List.map e_i64 d0))], .box [.d (.int .i64 share0), .d (.int .i64 share1)]]) (by kernel_rfl) (by kernel_rfl) ?_
              refine oEnd ?_
              refine bSplit 49 (by kernel_rfl) (fun hc => ?_) (fun hc => ?_)
              · refine oCondT (by kernel_rfl) ?_
                refine oRegion rfl ?_
                refine oOp (.d (.int .i64 b4)) (by kernel_rfl) (by kernel_rfl) (PureV.does (p_move (by kernel_rfl))) ?_
                refine oOp (.d (.int .i64 b4)) (by kernel_rfl) (by kernel_rfl) (PureV.does (p_assign (by kernel_rfl))) ?_
                refine oEnd ?_
                refine oBlk ?_
                refine oHead [2, 3, 7, 8] [0, 1] (T' := [(2, .ptr 0 0), (3, .ptr 1 0), (7, .d (.int .i64 b4)), (8, .d (.int .i64 b4))]) (H' := [.box [.d (.lit (List.map e_i64 d0))], .box [.d (.int .i64 share0), .d (.int .i64 share1)]]) (by kernel_rfl) (by kernel_rfl) (by kernel_rfl) (by kernel_rfl) (by decide) (by kernel_rfl) (by kernel_rfl) ?_
                exact hj9 b4
              · refine oCondF (by kernel_rfl) ?_
                refine oSkip ?_
                refine oBlk ?_
                refine oHead [2, 3, 7, 8] [0, 1] (T' := [(2, .ptr 0 0), (3, .ptr 1 0), (7, .d (.int .i64 best11)), (8, .d (.int .i64 b4))]) (H' := [.box [.d (.lit (List.map e_i64 d0))], .box [.d (.int .i64 share0), .d (.int .i64 share1)]]) (by kernel_rfl) (by kernel_rfl) (by kernel_rfl) (by kernel_rfl) (by decide) (by kernel_rfl) (by kernel_rfl) ?_
                exact hj9 best11
            · refine bSplit 45 (by kernel_rfl) (fun hc => ?_) (fun hc => ?_)
              · refine oOp (.agg [.d (.int .i64 share0), .d (.int .i64 share1)]) (by kernel_rfl) (by kernel_rfl) (Quiet.does (k_loadAgg 1 0 (by kernel_rfl) Try.underlying40 (by kernel_rfl) ty40 (by kernel_rfl))) ?_
                refine oOp (.agg [.d (.int .i64 r137), .d (.int .i64 r167)]) (by kernel_rfl) (by kernel_rfl) (Quiet.does (k_loadAgg 2 0 (by kernel_rfl) Try.underlying40 (by kernel_rfl) ty40 (by kernel_rfl))) ?_
                refine bCall (caps := []) (v := (fun (r123 : Bool) => (.d (.bool r123) : V))) (H' := (fun (r123 : Bool) => ([.box [.d (.lit (List.map e_i64 d0))], .box [.d (.int .i64 share0), .d (.int .i64 share1)], .box [.d (.int .i64 r137), .d (.int .i64 r167)]] : List Blk))) [] _ (ratio_Less_goes k share0 share1 r137 r167) (by kernel_rfl) (by kernel_rfl) rfl (by kernel_rfl) Try.func35 rfl (by kernel_rfl) (ConvRs.refl _ _) (by kernel_rfl) (by kernel_rfl) (by kernel_rfl) (by decide) (by kernel_rfl) (by kernel_rfl) (fun _ => (by kernel_rfl)) (fun _ => (by kernel_rfl)) (fun _ => (by kernel_rfl)) (fun r123 => ?_)
                refine oOp (.d (.bool r123)) (by kernel_rfl) (by kernel_rfl) (PureV.does (p_pick (b := true) (by kernel_rfl) (by kernel_rfl))) ?_
                refine oHead [2, 3, 7, 8, 49] [0, 1] (T' := [(2, .ptr 0 0), (3, .ptr 1 0), (7, .d (.int .i64 best11)), (8, .d (.int .i64 b4)), (49, .d (.bool r123))]) (H' := [.box [.d (.lit (List.map e_i64 d0))], .box [.d (.int .i64 share0), .d (.int .i64 share1)]]) (by kernel_rfl) (by kernel_rfl) (by kernel_rfl) (by kernel_rfl) (by decide) (by kernel_rfl) (by kernel_rfl) ?_
                exact hj10 r123
              · refine oNot (by kernel_rfl) (by kernel_rfl) ?_
                refine oNot (by kernel_rfl) (by kernel_rfl) ?_
                refine oNot (by kernel_rfl) (by kernel_rfl) ?_
                refine oOp (.d (.bool false)) (by kernel_rfl) (by kernel_rfl) (PureV.does (p_pick (b := false) (by kernel_rfl) (by kernel_rfl))) ?_
                refine oHead [2, 3, 7, 8, 49] [0, 1] (T' := [(2, .ptr 0 0), (3, .ptr 1 0), (7, .d (.int .i64 best11)), (8, .d (.int .i64 b4)), (49, .d (.bool false))]) (H' := [.box [.d (.lit (List.map e_i64 d0))], .box [.d (.int .i64 share0), .d (.int .i64 share1)]]) (by kernel_rfl) (by kernel_rfl) (by kernel_rfl) (by kernel_rfl) (by decide) (by kernel_rfl) (by kernel_rfl) ?_
                exact hj10 false
        · refine oCondF (by kernel_rfl) ?_
          refine oExit rfl ?_
          refine oHead [7] [] (T' := [(7, .d (.int .i64 best11))]) (H' := []) (by kernel_rfl) (by kernel_rfl) (by kernel_rfl) (by kernel_rfl) (by decide) (by kernel_rfl) (by kernel_rfl) ?_
          exact hj6 best11

/-- awardingbody/boundary.Reference -/
def boundary_Reference_b1 (k : Nat) (d0 : (List Int)) (reference0 : (List Int)) (b : (List Int)) (again : Int × (List Int) → Option ((List Int))) : Int × (List Int) → Option ((List Int)) := uc fun x14 => fun xs6 => bif (decide (x14 < ((List.length b) : Int))) then gidx b x14 fun e120 => Option.bind (boundary_reach k reference0 e120) (fun r1 => Option.bind (distribution_Count k reference0) (fun r116 => Option.bind (ratio_New k r1 r116) (uc fun r131 => uc fun r16 => fun r17 => Option.bind (boundary_Nearest k d0 r131 r16) (uc fun r1813 => fun r1913 => Option.bind (bif (decide (x14 > 0)) then gidx xs6 (IntKind.wrap .i64 (x14 - 1)) fun e122 => some (gmin r1813 e122) else some r1813 : Option (Int)) (fun n7 => gcap (List.length (xs6 ++ ([n7] : List Int))) 8 (again ((IntKind.wrap .i64 (x14 + 1)), (xs6 ++ ([n7] : List Int))))))))) else some xs6
def boundary_Reference (k : Nat) (d0 : (List Int)) (reference0 : (List Int)) (b : (List Int)) : Option ((List Int) × Int) := Option.bind (distribution_Valid k d0) (fun r126 => Option.bind (bif (!r126) then some true else Option.bind (distribution_Valid k reference0) (fun r128 => some (!r128)) : Option (Bool)) (fun x9 => bif x9 then some ([], 1) else Option.bind (distribution_Count k d0) (fun r1111 => Option.bind (bif (r1111 == 0) then some true else Option.bind (distribution_Count k reference0) (fun r1113 => some (r1113 == 0)) : Option (Bool)) (fun x11 => bif x11 then some ([], 10) else Option.bind (boundary_Check k b (IntKind.wrap .i64 (((List.length reference0) : Int) - 1))) (fun r132 => bif (r132 != 0) then some ([], r132) else Option.bind (gloop (boundary_Reference_b1 k d0 reference0 b) k (0, ([] : List Int)) : Option ((List Int))) (fun xs5 => some (xs5, 0)))))))
def boundary_Reference_E (d0 : (List Int)) (reference0 : (List Int)) (b : (List Int)) : (List Int) × Int → V × List Blk := uc fun r14 => fun r15 => (.tuple [.d (.lit (List.map e_i64 r14)), .d (.int .i64 r15)], [])
theorem boundary_Reference_goes (k : Nat) (d0 : (List Int)) (reference0 : (List Int)) (b : (List Int)) : RunsO Try.prog 23 [.agg [.d (.lit (List.map e_i64 d0))], .agg [.d (.lit (List.map e_i64 reference0))], .d (.lit (List.map e_i64 b))] [] (boundary_Reference_E d0 reference0 b) (boundary_Reference k d0 reference0 b) := by
  refine RunsO.of_goes (N := 80) (m := 0) (T := [(0, .agg [.d (.lit (List.map e_i64 d0))]), (1, .agg [.d (.lit (List.map e_i64 reference0))]), (2, .d (.lit (List.map e_i64 b)))]) Try.func23 rfl rfl (by kernel_rfl) (by kernel_rfl) (by kernel_rfl) ?_
  unfold boundary_Reference
  refine bStart ?_
  refine oSeq ?_
  refine oRegion rfl ?_
  refine oOp (.ptr 0 0) (by kernel_rfl) (by kernel_rfl) (k_box (H' := [.box [.d (.lit (List.map e_i64 d0))]]) (cells := [.d (.lit (List.map e_i64 d0))]) (by kernel_rfl) (by kernel_rfl) (by kernel_rfl)) ?_
  refine oOp (.ptr 1 0) (by kernel_rfl) (by kernel_rfl) (k_box (H' := [.box [.d (.lit (List.map e_i64 d0))], .box [.d (.lit (List.map e_i64 reference0))]]) (cells := [.d (.lit (List.map e_i64 reference0))]) (by kernel_rfl) (by kernel_rfl) (by kernel_rfl)) ?_
  refine oOp (.nilc) (by kernel_rfl) (by kernel_rfl) (PureV.does (p_assign (by kernel_rfl))) ?_
  refine oOp (.d (.int .i64 0)) (by kernel_rfl) (by kernel_rfl) (PureV.does (p_assign (by kernel_rfl))) ?_
  refine oEnd ?_
  refine oSeq ?_
  refine oBlock ?_
  refine oSeq ?_
  refine oRegion rfl ?_
  refine oOp (.agg [.d (.lit (List.map e_i64 d0))]) (by kernel_rfl) (by kernel_rfl) (Quiet.does (k_loadAgg 0 0 (by kernel_rfl) Try.underlying28 (by kernel_rfl) ty28 (by kernel_rfl))) ?_
  refine bCall (caps := []) (v := (fun (r126 : Bool) => (.d (.bool r126) : V))) (H' := (fun (r126 : Bool) => ([.box [.d (.lit (List.map e_i64 d0))], .box [.d (.lit (List.map e_i64 reference0))]] : List Blk))) [] _ (distribution_Valid_goes k d0) (by kernel_rfl) (by kernel_rfl) rfl (by kernel_rfl) Try.func27 rfl (by kernel_rfl) (ConvRs.refl _ _) (by kernel_rfl) (by kernel_rfl) (by kernel_rfl) (by decide) (by kernel_rfl) (by kernel_rfl) (fun _ => (by kernel_rfl)) (fun _ => (by kernel_rfl)) (fun _ => (by kernel_rfl)) (fun r126 => ?_)
  refine oOp (.d (.bool (!r126))) (by kernel_rfl) (by kernel_rfl) (PureV.does (p_not (p := r126) (by kernel_rfl) (by kernel_rfl))) ?_
  refine oOp (.d (.bool (!r126))) (by kernel_rfl) (by kernel_rfl) (PureV.does (p_move (by kernel_rfl))) ?_
  refine bMeet 4 rfl ((fun (x9 : Bool) => [(2, .d (.lit (List.map e_i64 b))), (3, .ptr 0 0), (4, .ptr 1 0), (24, .d (.bool x9))])) ((fun (x9 : Bool) => [.box [.d (.lit (List.map e_i64 d0))], .box [.d (.lit (List.map e_i64 reference0))]])) (fun s => s) (fun x9 => ?_) (fun hj12 => ?_)
  · refine oView (T' := [(2, .d (.lit (List.map e_i64 b))), (3, .ptr 0 0), (4, .ptr 1 0), (24, .d (.bool x9))]) (H' := [.box [.d (.lit (List.map e_i64 d0))], .box [.d (.lit (List.map e_i64 reference0))]]) (by kernel_rfl) (by kernel_rfl) ?_
    refine oOp (.d (.bool x9)) (by kernel_rfl) (by kernel_rfl) (PureV.does (p_assign (by kernel_rfl))) ?_
    refine oEnd ?_
    refine bSplit 16 (by kernel_rfl) (fun hc => ?_) (fun hc => ?_)
    · refine oCondT (by kernel_rfl) ?_
      refine oSeq ?_
      refine oRegion rfl ?_
      refine oOp (.nilc) (by kernel_rfl) (by kernel_rfl) (PureV.does (p_assign (by kernel_rfl))) ?_
      refine oOp (.d (.int .i64 1)) (by kernel_rfl) (by kernel_rfl) (PureV.does (p_assign (by kernel_rfl))) ?_
      refine oEnd ?_
      refine oConv 6 (v := .nilc) (v' := .d (.lit (List.map e_i64 []))) (by kernel_rfl) .nil ?_
      exact oRet (r0 := ([], 1)) (rv := .tuple [.d (.lit (List.map e_i64 [])), .d (.int .i64 1)]) (B := []) (vs := [.d (.lit (List.map e_i64 [])), .d (.int .i64 1)]) (σ := []) (by kernel_rfl) Try.func23 rfl (.cons _ _ _ _ (.tmp 6 _ (by kernel_rfl)) (.cons _ _ _ _ (.tmp 7 _ (by kernel_rfl)) .nil)) (by kernel_rfl) (by kernel_rfl) (by kernel_rfl) (by kernel_rfl) (by decide) (by kernel_rfl) (by kernel_rfl)
    · refine oCondF (by kernel_rfl) ?_
      refine oSeq ?_
      refine oRegion rfl ?_
      refine oOp (.agg [.d (.lit (List.map e_i64 d0))]) (by kernel_rfl) (by kernel_rfl) (Quiet.does (k_loadAgg 0 0 (by kernel_rfl) Try.underlying28 (by kernel_rfl) ty28 (by kernel_rfl))) ?_
      refine bCall (caps := []) (v := (fun (r1111 : Int) => (.d (.int .i64 r1111) : V))) (H' := (fun (r1111 : Int) => ([.box [.d (.lit (List.map e_i64 d0))], .box [.d (.lit (List.map e_i64 reference0))]] : List Blk))) [] _ (distribution_Count_goes k d0) (by kernel_rfl) (by kernel_rfl) rfl (by kernel_rfl) Try.func34 rfl (by kernel_rfl) (ConvRs.refl _ _) (by kernel_rfl) (by kernel_rfl) (by kernel_rfl) (by decide) (by kernel_rfl) (by kernel_rfl) (fun _ => (by kernel_rfl)) (fun _ => (by kernel_rfl)) (fun _ => (by kernel_rfl)) (fun r1111 => ?_)
      refine oOp (.d (.bool (r1111 == 0))) (by kernel_rfl) (by kernel_rfl) (PureV.does (p_int (k := .i64) (p := r1111) (q := 0) (by kernel_rfl) (by kernel_rfl) (by kernel_rfl))) ?_
      refine oOp (.d (.bool (r1111 == 0))) (by kernel_rfl) (by kernel_rfl) (PureV.does (p_move (by kernel_rfl))) ?_
      refine bMeet 4 rfl ((fun (x11 : Bool) => [(2, .d (.lit (List.map e_i64 b))), (3, .ptr 0 0), (4, .ptr 1 0), (33, .d (.bool x11))])) ((fun (x11 : Bool) => [.box [.d (.lit (List.map e_i64 d0))], .box [.d (.lit (List.map e_i64 reference0))]])) (fun s => s) (fun x11 => ?_) (fun hj11 => ?_)
      · refine oView (T' := [(2, .d (.lit (List.map e_i64 b))), (3, .ptr 0 0), (4, .ptr 1 0), (33, .d (.bool x11))]) (H' := [.box [.d (.lit (List.map e_i64 d0))], .box [.d (.lit (List.map e_i64 reference0))]]) (by kernel_rfl) (by kernel_rfl) ?_
        refine oOp (.d (.bool x11)) (by kernel_rfl) (by kernel_rfl) (PureV.does (p_assign (by kernel_rfl))) ?_
        refine oEnd ?_
        refine bSplit 25 (by kernel_rfl) (fun hc => ?_) (fun hc => ?_)
        · refine oCondT (by kernel_rfl) ?_
          refine oSeq ?_
          refine oRegion rfl ?_
          refine oOp (.nilc) (by kernel_rfl) (by kernel_rfl) (PureV.does (p_assign (by kernel_rfl))) ?_
          refine oOp (.d (.int .i64 10)) (by kernel_rfl) (by kernel_rfl) (PureV.does (p_assign (by kernel_rfl))) ?_
          refine oEnd ?_
          refine oConv 6 (v := .nilc) (v' := .d (.lit (List.map e_i64 []))) (by kernel_rfl) .nil ?_
          exact oRet (r0 := ([], 10)) (rv := .tuple [.d (.lit (List.map e_i64 [])), .d (.int .i64 10)]) (B := []) (vs := [.d (.lit (List.map e_i64 [])), .d (.int .i64 10)]) (σ := []) (by kernel_rfl) Try.func23 rfl (.cons _ _ _ _ (.tmp 6 _ (by kernel_rfl)) (.cons _ _ _ _ (.tmp 7 _ (by kernel_rfl)) .nil)) (by kernel_rfl) (by kernel_rfl) (by kernel_rfl) (by kernel_rfl) (by decide) (by kernel_rfl) (by kernel_rfl)
        · refine oCondF (by kernel_rfl) ?_
          refine oSkip ?_
          refine oBlk ?_
          refine oSeq ?_
          refine oSeq ?_
          refine oRegion rfl ?_
          refine oOp (.d (.lit (List.map e_i64 b))) (by kernel_rfl) (by kernel_rfl) (PureV.does (p_move (by kernel_rfl))) ?_
          refine oOp (.ptr 1 0) (by kernel_rfl) (by kernel_rfl) (PureV.does (k_fieldAddr 1 0 (by kernel_rfl) Try.underlying28 rfl ty22 (by kernel_rfl))) ?_
          refine oOp (.d (.lit (List.map e_i64 reference0))) (by kernel_rfl) (by kernel_rfl) (Quiet.does (k_load 1 0 (by kernel_rfl) Try.underlying22 (by kernel_rfl) (by kernel_rfl))) ?_
          refine oOp (.d (.int .i64 ((List.length reference0) : Int))) (by kernel_rfl) (by kernel_rfl) (PureV.does (k_lenLit (enc := e_i64) reference0 (by kernel_rfl) Try.underlying22)) ?_
          refine oOp (.d (.int .i64 (IntKind.wrap .i64 (((List.length reference0) : Int) - 1)))) (by kernel_rfl) (by kernel_rfl) (PureV.does (p_int (k := .i64) (p := ((List.length reference0) : Int)) (q := 1) (by kernel_rfl) (by kernel_rfl) (by kernel_rfl))) ?_
          refine bCall (caps := []) (v := (fun (r132 : Int) => (.d (.int .i64 r132) : V))) (H' := (fun (r132 : Int) => ([.box [.d (.lit (List.map e_i64 d0))], .box [.d (.lit (List.map e_i64 reference0))]] : List Blk))) [] _ (boundary_Check_goes k b (IntKind.wrap .i64 (((List.length reference0) : Int) - 1))) (by kernel_rfl) (by kernel_rfl) rfl (by kernel_rfl) Try.func24 rfl (by kernel_rfl) (ConvRs.refl _ _) (by kernel_rfl) (by kernel_rfl) (by kernel_rfl) (by decide) (by kernel_rfl) (by kernel_rfl) (fun _ => (by kernel_rfl)) (fun _ => (by kernel_rfl)) (fun _ => (by kernel_rfl)) (fun r132 => ?_)
          refine oOp (.d (.int .i64 r132)) (by kernel_rfl) (by kernel_rfl) (PureV.does (p_assign (by kernel_rfl))) ?_
          refine oEnd ?_
          refine oSeq ?_
          refine oRegion rfl ?_
          refine oOp (.d (.int .i64 r132)) (by kernel_rfl) (by kernel_rfl) (PureV.does (p_move (by kernel_rfl))) ?_
          refine oOp (.d (.bool (r132 != 0))) (by kernel_rfl) (by kernel_rfl) (PureV.does (p_int (k := .i64) (p := r132) (q := 0) (by kernel_rfl) (by kernel_rfl) (by kernel_rfl))) ?_
          refine oEnd ?_
          refine bSplit 41 (by kernel_rfl) (fun hc => ?_) (fun hc => ?_)
          · refine oCondT (by kernel_rfl) ?_
            refine oSeq ?_
            refine oRegion rfl ?_
            refine oOp (.d (.int .i64 r132)) (by kernel_rfl) (by kernel_rfl) (PureV.does (p_move (by kernel_rfl))) ?_
            refine oOp (.nilc) (by kernel_rfl) (by kernel_rfl) (PureV.does (p_assign (by kernel_rfl))) ?_
            refine oOp (.d (.int .i64 r132)) (by kernel_rfl) (by kernel_rfl) (PureV.does (p_assign (by kernel_rfl))) ?_
            refine oEnd ?_
            refine oConv 6 (v := .nilc) (v' := .d (.lit (List.map e_i64 []))) (by kernel_rfl) .nil ?_
            exact oRet (r0 := ([], r132)) (rv := .tuple [.d (.lit (List.map e_i64 [])), .d (.int .i64 r132)]) (B := []) (vs := [.d (.lit (List.map e_i64 [])), .d (.int .i64 r132)]) (σ := []) (by kernel_rfl) Try.func23 rfl (.cons _ _ _ _ (.tmp 6 _ (by kernel_rfl)) (.cons _ _ _ _ (.tmp 7 _ (by kernel_rfl)) .nil)) (by kernel_rfl) (by kernel_rfl) (by kernel_rfl) (by kernel_rfl) (by decide) (by kernel_rfl) (by kernel_rfl)
          · refine oCondF (by kernel_rfl) ?_
            refine oSkip ?_
            refine oSeq ?_
            refine oRegion rfl ?_
            refine oOp (.nilc) (by kernel_rfl) (by kernel_rfl) (PureV.does (p_assign (by kernel_rfl))) ?_
            refine oEnd ?_
            refine oSeq ?_
            refine oSeq ?_
            refine oRegion rfl ?_
            refine oOp (.d (.lit (List.map e_i64 b))) (by kernel_rfl) (by kernel_rfl) (PureV.does (p_move (by kernel_rfl))) ?_
            refine oOp (.d (.int .i64 ((List.length b) : Int))) (by kernel_rfl) (by kernel_rfl) (PureV.does (k_lenLit (enc := e_i64) b (by kernel_rfl) Try.underlying22)) ?_
            refine oOp (.d (.int .i64 0)) (by kernel_rfl) (by kernel_rfl) (PureV.does (p_move (by kernel_rfl))) ?_
            refine oEnd ?_
            refine bJoin ((fun (xs5 : (List Int)) => [(9, .ref 0 (List.length xs5) 0 (List.length xs5))])) ((fun (xs5 : (List Int)) => [.sl 1 (List.map e_i64 xs5) false])) (fun s => s) (fun xs5 => ?_) (fun hj6 => ?_)
            · refine oView (T' := [(9, .ref 0 (List.length xs5) 0 (List.length xs5))]) (H' := [.sl 1 (List.map e_i64 xs5) false]) (by kernel_rfl) (by kernel_rfl) ?_
              refine oSeq ?_
              refine oRegion rfl ?_
              refine oOp (.ref 0 (List.length xs5) 0 (List.length xs5)) (by kernel_rfl) (by kernel_rfl) (PureV.does (p_move (by kernel_rfl))) ?_
              refine oOp (.ref 0 (List.length xs5) 0 (List.length xs5)) (by kernel_rfl) (by kernel_rfl) (PureV.does (p_assign (by kernel_rfl))) ?_
              refine oOp (.d (.int .i64 0)) (by kernel_rfl) (by kernel_rfl) (PureV.does (p_assign (by kernel_rfl))) ?_
              refine oEnd ?_
              refine oFreeze 0 (esz := 1) (xs := List.map e_i64 xs5) (by kernel_rfl) ?_
              refine oView (H' := [.sl 1 (List.map e_i64 xs5) true]) rfl (by kernel_rfl) ?_
              refine oConv 6 (v := .ref 0 (List.length xs5) 0 (List.length xs5)) (v' := .d (.lit (List.map e_i64 xs5))) (by kernel_rfl) (k_lit (enc := e_i64) (sz := 1) 0 xs5 (by kernel_rfl)) ?_
              exact oRet (r0 := (xs5, 0)) (rv := .tuple [.d (.lit (List.map e_i64 xs5)), .d (.int .i64 0)]) (B := []) (vs := [.d (.lit (List.map e_i64 xs5)), .d (.int .i64 0)]) (σ := []) (by kernel_rfl) Try.func23 rfl (.cons _ _ _ _ (.tmp 6 _ (by kernel_rfl)) (.cons _ _ _ _ (.tmp 7 _ (by kernel_rfl)) .nil)) (by kernel_rfl) (by kernel_rfl) (by kernel_rfl) (by kernel_rfl) (by decide) (by kernel_rfl) (by kernel_rfl)
            · refine oBlock ?_
              refine oLoop ?_
              refine oVirt (esz := 1) 9 (by kernel_rfl) ?_
              refine oView (H' := [.box [.d (.lit (List.map e_i64 d0))], .box [.d (.lit (List.map e_i64 reference0))], .sl 1 (List.map e_i64 ([] : List Int)) false]) rfl (by kernel_rfl) ?_
              refine oHead [3, 4, 9, 43, 44, 45] [0, 1, 2] (T' := [(3, .ptr 0 0), (4, .ptr 1 0), (9, .ref 2 (List.length ([] : List Int)) 0 (List.length ([] : List Int))), (43, .d (.lit (List.map e_i64 b))), (44, .d (.int .i64 ((List.length b) : Int))), (45, .d (.int .i64 0))]) (H' := [.box [.d (.lit (List.map e_i64 d0))], .box [.d (.lit (List.map e_i64 reference0))], .sl 1 (List.map e_i64 ([] : List Int)) false]) (by kernel_rfl) (by kernel_rfl) (by kernel_rfl) (by kernel_rfl) (by decide) (by kernel_rfl) (by kernel_rfl) ?_
              refine bLoop (body := boundary_Reference_b1 k d0 reference0 b) ((uc fun (x14 : Int) => (fun (xs6 : (List Int)) => [(3, .ptr 0 0), (4, .ptr 1 0), (9, .ref 2 (List.length xs6) 0 (List.length xs6)), (43, .d (.lit (List.map e_i64 b))), (44, .d (.int .i64 ((List.length b) : Int))), (45, .d (.int .i64 x14))]))) ((uc fun (x14 : Int) => (fun (xs6 : (List Int)) => [.box [.d (.lit (List.map e_i64 d0))], .box [.d (.lit (List.map e_i64 reference0))], .sl 1 (List.map e_i64 xs6) false]))) (fun again hag1 s => ?_) k (0, ([] : List Int))
              · unfold boundary_Reference_b1
                obtain ⟨x14, xs6⟩ := s
                refine bUc ?_
                refine oView (T' := [(3, .ptr 0 0), (4, .ptr 1 0), (9, .ref 2 (List.length xs6) 0 (List.length xs6)), (43, .d (.lit (List.map e_i64 b))), (44, .d (.int .i64 ((List.length b) : Int))), (45, .d (.int .i64 x14))]) (H' := [.box [.d (.lit (List.map e_i64 d0))], .box [.d (.lit (List.map e_i64 reference0))], .sl 1 (List.map e_i64 xs6) false]) (by kernel_rfl) (by kernel_rfl) ?_
                refine oSeq ?_
                refine oRegion rfl ?_
                refine oOp (.d (.bool (decide (x14 < ((List.length b) : Int))))) (by kernel_rfl) (by kernel_rfl) (PureV.does (p_int (k := .i64) (p := x14) (q := ((List.length b) : Int)) (by kernel_rfl) (by kernel_rfl) (by kernel_rfl))) ?_
                refine oEnd ?_
                refine oSeq ?_
                refine bSplit 46 (by kernel_rfl) (fun hc => ?_) (fun hc => ?_)
                · refine oCondT (by kernel_rfl) ?_
                  refine oSkip ?_
                  refine oSeq ?_
                  refine oBlock ?_
                  refine oSeq ?_
                  refine oRegion rfl ?_
                  refine oOp (.d (.int .i64 x14)) (by kernel_rfl) (by kernel_rfl) (PureV.does (p_move (by kernel_rfl))) ?_
                  refine bIdx (fun e120 h153 h154 => ?_)
                  refine oOp (.lptr (e_i64 e120) 0) (by kernel_rfl) (by kernel_rfl) (PureV.does (k_idxLit e_i64_len b (a := e120) (by kernel_rfl) (k := .i64) (i := x14) (by kernel_rfl) Try.underlying22 ty3 h153 h154)) ?_
                  refine oOp (.d (.int .i64 e120)) (by kernel_rfl) (by kernel_rfl) (Quiet.does (k_loadL (cells := e_i64 e120) 0 (by kernel_rfl) Try.underlying3 (by kernel_rfl) (by kernel_rfl))) ?_
                  refine oOp (.d (.int .i64 x14)) (by kernel_rfl) (by kernel_rfl) (PureV.does (p_assign (by kernel_rfl))) ?_
                  refine oOp (.d (.int .i64 e120)) (by kernel_rfl) (by kernel_rfl) (PureV.does (p_assign (by kernel_rfl))) ?_
                  refine oEnd ?_
                  refine oSeq ?_
                  refine oDraw [(0, 12), (1, 12), (2, 12)] rfl ?_
                  refine aTakeL (i := 0) (st' := [1]) (.agg [.d (.lit (List.map e_i64 reference0))]) rfl (by kernel_rfl) (by kernel_rfl) (by kernel_rfl) (by kernel_rfl) (by kernel_rfl) (by kernel_rfl) (by kernel_rfl) (k_loadAgg 1 0 (by kernel_rfl) Try.underlying28 (by kernel_rfl) ty28 (by kernel_rfl)) ?_
                  refine aTakeL (i := 1) (st' := []) (.d (.int .i64 e120)) rfl (by kernel_rfl) (by kernel_rfl) (by kernel_rfl) (by kernel_rfl) (by kernel_rfl) (by kernel_rfl) (by kernel_rfl) (PureV.quiet (p_move (by kernel_rfl)) []) ?_
                  refine aTakeL (i := 3) (st' := [1]) (.agg [.d (.lit (List.map e_i64 reference0))]) rfl (by kernel_rfl) (by kernel_rfl) (by kernel_rfl) (by kernel_rfl) (by kernel_rfl) (by kernel_rfl) (by kernel_rfl) (k_loadAgg 1 0 (by kernel_rfl) Try.underlying28 (by kernel_rfl) ty28 (by kernel_rfl)) ?_
                  refine dCall (i := 2) (caps := []) (v := (fun (r1 : Int) => (.d (.int .i64 r1) : V))) (H' := (fun (r1 : Int) => ([.box [.d (.lit (List.map e_i64 d0))], .box [.d (.lit (List.map e_i64 reference0))], .sl 1 (List.map e_i64 xs6) false] : List Blk))) [] _ (boundary_reach_goes k reference0 e120) rfl (by kernel_rfl) (by kernel_rfl) (by kernel_rfl) (by kernel_rfl) (by kernel_rfl) (by kernel_rfl) (by kernel_rfl) (by kernel_rfl) rfl (by kernel_rfl) Try.func33 rfl (by kernel_rfl) (ConvRs.refl _ _) (by kernel_rfl) (by kernel_rfl) (by kernel_rfl) (by decide) (by kernel_rfl) (by kernel_rfl) (fun _ => (by kernel_rfl)) (fun _ => (by kernel_rfl)) (fun _ => (by kernel_rfl)) (fun r1 => ?_)
                  refine dCall (i := 4) (caps := []) (v := (fun (r116 : Int) => (.d (.int .i64 r116) : V))) (H' := (fun (r116 : Int) => ([.box [.d (.lit (List.map e_i64 d0))], .box [.d (.lit (List.map e_i64 reference0))], .sl 1 (List.map e_i64 xs6) false] : List Blk))) [] _ (distribution_Count_goes k reference0) rfl (by kernel_rfl) (by kernel_rfl) (by kernel_rfl) (by kernel_rfl) (by kernel_rfl) (by kernel_rfl) (by kernel_rfl) (by kernel_rfl) rfl (by kernel_rfl) Try.func34 rfl (by kernel_rfl) (ConvRs.refl _ _) (by kernel_rfl) (by kernel_rfl) (by kernel_rfl) (by decide) (by kernel_rfl) (by kernel_rfl) (fun _ => (by kernel_rfl)) (fun _ => (by kernel_rfl)) (fun _ => (by kernel_rfl)) (fun r116 => ?_)
                  refine dCall (i := 5) (caps := []) (v := (uc fun (r131 : Int) => (uc fun (r16 : Int) => (fun (r17 : Int) => (.tuple [.agg [.d (.int .i64 r131), .d (.int .i64 r16)], .d (.int .i64 r17)] : V))))) (H' := (uc fun (r131 : Int) => (uc fun (r16 : Int) => (fun (r17 : Int) => ([.box [.d (.lit (List.map e_i64 d0))], .box [.d (.lit (List.map e_i64 reference0))], .sl 1 (List.map e_i64 xs6) false] : List Blk))))) [] _ (ratio_New_goes k r1 r116) rfl (by kernel_rfl) (by kernel_rfl) (by kernel_rfl) (by kernel_rfl) (by kernel_rfl) (by kernel_rfl) (by kernel_rfl) (by kernel_rfl) rfl (by kernel_rfl) Try.func32 rfl (by kernel_rfl) (ConvRs.refl _ _) (by kernel_rfl) (by kernel_rfl) (by kernel_rfl) (by decide) (by kernel_rfl) (by kernel_rfl) (fun _ => (by kernel_rfl)) (fun _ => (by kernel_rfl)) (fun _ => (by kernel_rfl)) (fun r => ?_)
                  obtain ⟨r131, r16, r17⟩ := r
                  refine dUc ?_
                  refine dUc ?_
                  refine aTakeP (i := 6) (.tuple [.agg [.d (.int .i64 r131), .d (.int .i64 r16)], .d (.int .i64 r17)]) rfl (by kernel_rfl) (by kernel_rfl) (by kernel_rfl) (by kernel_rfl) (by kernel_rfl) (by kernel_rfl) (by kernel_rfl) (p_move (by kernel_rfl)) ?_
                  refine aTakeP (i := 7) (.agg [.d (.int .i64 r131), .d (.int .i64 r16)]) rfl (by kernel_rfl) (by kernel_rfl) (by kernel_rfl) (by kernel_rfl) (by kernel_rfl) (by kernel_rfl) (by kernel_rfl) (k_extract (by kernel_rfl)) ?_
                  refine aTakeP (i := 8) (.d (.int .i64 r17)) rfl (by kernel_rfl) (by kernel_rfl) (by kernel_rfl) (by kernel_rfl) (by kernel_rfl) (by kernel_rfl) (by kernel_rfl) (k_extract (by kernel_rfl)) ?_
                  refine aAlloc (i := 9) (d := 12) rfl (by kernel_rfl) (by kernel_rfl) rfl rfl (by kernel_rfl) (by kernel_rfl) ty40 (cells := [.d (.int .i64 0), .d (.int .i64 0)]) (by kernel_rfl) (by kernel_rfl) ?_
                  refine dView (H' := [.box [.d (.lit (List.map e_i64 d0))], .box [.d (.lit (List.map e_i64 reference0))], .sl 1 (List.map e_i64 xs6) false, .box [.d (.int .i64 0), .d (.int .i64 0)]]) rfl rfl (by kernel_rfl) ?_
                  refine aOne (i := 10) (v := .undef) rfl (by kernel_rfl) (by kernel_rfl) (by kernel_rfl) (by kernel_rfl) (by kernel_rfl) (by kernel_rfl) (by kernel_rfl) (Does.acts (k_store (vs := [.d (.int .i64 r131), .d (.int .i64 r16)]) (H' := [.box [.d (.lit (List.map e_i64 d0))], .box [.d (.lit (List.map e_i64 reference0))], .sl 1 (List.map e_i64 xs6) false, .box [.d (.int .i64 r131), .d (.int .i64 r16)]]) 3 0 (by kernel_rfl) ty40 (by kernel_rfl) (by kernel_rfl) (by kernel_rfl))) (by kernel_rfl) ?_
                  refine aTakeL (i := 11) (st' := []) (.d (.int .i64 r17)) rfl (by kernel_rfl) (by kernel_rfl) (by kernel_rfl) (by kernel_rfl) (by kernel_rfl) (by kernel_rfl) (by kernel_rfl) (PureV.quiet (p_assign (by kernel_rfl)) []) ?_
                  refine aDone (by kernel_rfl) ?_
                  refine oSeq ?_
                  refine oRegion rfl ?_
                  refine oOp (.agg [.d (.lit (List.map e_i64 d0))]) (by kernel_rfl) (by kernel_rfl) (Quiet.does (k_loadAgg 0 0 (by kernel_rfl) Try.underlying28 (by kernel_rfl) ty28 (by kernel_rfl))) ?_
                  refine oOp (.agg [.d (.int .i64 r131), .d (.int .i64 r16)]) (by kernel_rfl) (by kernel_rfl) (Quiet.does (k_loadAgg 3 0 (by kernel_rfl) Try.underlying40 (by kernel_rfl) ty40 (by kernel_rfl))) ?_
                  refine bCall (caps := []) (v := (uc fun (r1813 : Int) => (fun (r1913 : Int) => (.tuple [.d (.int .i64 r1813), .d (.int .i64 r1913)] : V)))) (H' := (uc fun (r1813 : Int) => (fun (r1913 : Int) => ([.box [.d (.lit (List.map e_i64 d0))], .box [.d (.lit (List.map e_i64 reference0))], .sl 1 (List.map e_i64 xs6) false, .box [.d (.int .i64 r131), .d (.int .i64 r16)]] : List Blk)))) [] _ (boundary_Nearest_goes k d0 r131 r16) (by kernel_rfl) (by kernel_rfl) rfl (by kernel_rfl) Try.func19 rfl (by kernel_rfl) (ConvRs.refl _ _) (by kernel_rfl) (by kernel_rfl) (by kernel_rfl) (by decide) (by kernel_rfl) (by kernel_rfl) (fun _ => (by kernel_rfl)) (fun _ => (by kernel_rfl)) (fun _ => (by kernel_rfl)) (fun r => ?_)
                  obtain ⟨r1813, r1913⟩ := r
                  refine bUc ?_
                  refine oOp (.tuple [.d (.int .i64 r1813), .d (.int .i64 r1913)]) (by kernel_rfl) (by kernel_rfl) (PureV.does (p_move (by kernel_rfl))) ?_
                  refine oOp (.d (.int .i64 r1813)) (by kernel_rfl) (by kernel_rfl) (PureV.does (k_extract (by kernel_rfl))) ?_
                  refine oOp (.d (.int .i64 r1913)) (by kernel_rfl) (by kernel_rfl) (PureV.does (k_extract (by kernel_rfl))) ?_
                  refine oOp (.d (.int .i64 r1813)) (by kernel_rfl) (by kernel_rfl) (PureV.does (p_assign (by kernel_rfl))) ?_
                  refine oOp (.d (.int .i64 r1913)) (by kernel_rfl) (by kernel_rfl) (PureV.does (p_assign (by kernel_rfl))) ?_
                  refine oEnd ?_
                  refine oSeq ?_
                  refine oSeq ?_
                  refine oRegion rfl ?_
                  refine oOp (.d (.int .i64 x14)) (by kernel_rfl) (by kernel_rfl) (PureV.does (p_move (by kernel_rfl))) ?_
                  refine oOp (.d (.bool (decide (x14 > 0)))) (by kernel_rfl) (by kernel_rfl) (PureV.does (p_int (k := .i64) (p := x14) (q := 0) (by kernel_rfl) (by kernel_rfl) (by kernel_rfl))) ?_
                  refine oEnd ?_
                  refine bJoin ((fun (n7 : Int) => [(3, .ptr 0 0), (4, .ptr 1 0), (9, .ref 2 (List.length xs6) 0 (List.length xs6)), (14, .d (.int .i64 n7)), (43, .d (.lit (List.map e_i64 b))), (44, .d (.int .i64 ((List.length b) : Int))), (45, .d (.int .i64 x14))])) ((fun (n7 : Int) => [.box [.d (.lit (List.map e_i64 d0))], .box [.d (.lit (List.map e_i64 reference0))], .sl 1 (List.map e_i64 xs6) false])) (fun s => s) (fun n7 => ?_) (fun hj10 => ?_)
                  · refine oView (T' := [(3, .ptr 0 0), (4, .ptr 1 0), (9, .ref 2 (List.length xs6) 0 (List.length xs6)), (14, .d (.int .i64 n7)), (43, .d (.lit (List.map e_i64 b))), (44, .d (.int .i64 ((List.length b) : Int))), (45, .d (.int .i64 x14))]) (H' := [.box [.d (.lit (List.map e_i64 d0))], .box [.d (.lit (List.map e_i64 reference0))], .sl 1 (List.map e_i64 xs6) false]) (by kernel_rfl) (by kernel_rfl) ?_
                    refine oRegion rfl ?_
                    refine oOp (.ref 2 (List.length xs6) 0 (List.length xs6)) (by kernel_rfl) (by kernel_rfl) (PureV.does (p_move (by kernel_rfl))) ?_
                    refine oOp (.d (.int .i64 n7)) (by kernel_rfl) (by kernel_rfl) (PureV.does (p_move (by kernel_rfl))) ?_
                    refine oOp (.ref 3 (List.length ([n7] : List Int)) 0 (List.length ([n7] : List Int))) (by kernel_rfl) (by kernel_rfl) (k_buildSlice (H' := [.box [.d (.lit (List.map e_i64 d0))], .box [.d (.lit (List.map e_i64 reference0))], .sl 1 (List.map e_i64 xs6) false, .sl 1 (List.map e_i64 ([n7] : List Int)) false]) (List.map e_i64 ([n7] : List Int)) Try.underlying22 ty3 (by kernel_rfl) (by kernel_rfl) (by kernel_rfl)) ?_
                    refine bCap (fun h157 => ?_)
                    refine oOp (.ref 2 (List.length (xs6 ++ ([n7] : List Int))) 0 (List.length (xs6 ++ ([n7] : List Int)))) (by kernel_rfl) (by kernel_rfl) (k_append (H' := [.box [.d (.lit (List.map e_i64 d0))], .box [.d (.lit (List.map e_i64 reference0))], .sl 1 (List.map e_i64 (xs6 ++ ([n7] : List Int))) false, .sl 1 (List.map e_i64 ([n7] : List Int)) false]) (enc := e_i64) 2 xs6 ([n7] : List Int) Try.underlying22 Try.underlying22 ty3 (by kernel_rfl) (by kernel_rfl) (by kernel_rfl) (holdsRef (enc := e_i64) 3 ([n7] : List Int) false (by kernel_rfl) (by kernel_rfl)) h157 (by kernel_rfl)) ?_
                    refine oOp (.ref 2 (List.length (xs6 ++ ([n7] : List Int))) 0 (List.length (xs6 ++ ([n7] : List Int)))) (by kernel_rfl) (by kernel_rfl) (PureV.does (p_assign (by kernel_rfl))) ?_
                    refine oEnd ?_
                    refine oBlk ?_
                    refine oRegion rfl ?_
                    refine oOp (.d (.int .i64 (IntKind.wrap .i64 (x14 + 1)))) (by kernel_rfl) (by kernel_rfl) (PureV.does (p_int (k := .i64) (p := x14) (q := 1) (by kernel_rfl) (by kernel_rfl) (by kernel_rfl))) ?_
                    refine oOp (.d (.int .i64 (IntKind.wrap .i64 (x14 + 1)))) (by kernel_rfl) (by kernel_rfl) (PureV.does (p_move (by kernel_rfl))) ?_
                    refine oEnd ?_
                    refine oAgain ?_
                    refine oHead [3, 4, 9, 43, 44, 45] [0, 1, 2] (T' := [(3, .ptr 0 0), (4, .ptr 1 0), (9, .ref 2 (List.length (xs6 ++ ([n7] : List Int))) 0 (List.length (xs6 ++ ([n7] : List Int)))), (43, .d (.lit (List.map e_i64 b))), (44, .d (.int .i64 ((List.length b) : Int))), (45, .d (.int .i64 (IntKind.wrap .i64 (x14 + 1))))]) (H' := [.box [.d (.lit (List.map e_i64 d0))], .box [.d (.lit (List.map e_i64 reference0))], .sl 1 (List.map e_i64 (xs6 ++ ([n7] : List Int))) false]) (by kernel_rfl) (by kernel_rfl) (by kernel_rfl) (by kernel_rfl) (by decide) (by kernel_rfl) (by kernel_rfl) ?_
                    exact hag1 ((IntKind.wrap .i64 (x14 + 1)), (xs6 ++ ([n7] : List Int)))
                  · refine bSplit 66 (by kernel_rfl) (fun hc => ?_) (fun hc => ?_)
                    · refine oCondT (by kernel_rfl) ?_
                      refine oRegion rfl ?_
                      refine oOp (.d (.int .i64 r1813)) (by kernel_rfl) (by kernel_rfl) (PureV.does (p_move (by kernel_rfl))) ?_
                      refine oOp (.ref 2 (List.length xs6) 0 (List.length xs6)) (by kernel_rfl) (by kernel_rfl) (PureV.does (p_move (by kernel_rfl))) ?_
                      refine oOp (.d (.int .i64 x14)) (by kernel_rfl) (by kernel_rfl) (PureV.does (p_move (by kernel_rfl))) ?_
                      refine oOp (.d (.int .i64 (IntKind.wrap .i64 (x14 - 1)))) (by kernel_rfl) (by kernel_rfl) (PureV.does (p_int (k := .i64) (p := x14) (q := 1) (by kernel_rfl) (by kernel_rfl) (by kernel_rfl))) ?_
                      refine bIdx (fun e122 h158 h159 => ?_)
                      refine oOp (.eptr 2 (List.length xs6) (Int.toNat (IntKind.wrap .i64 (x14 - 1))) 0) (by kernel_rfl) (by kernel_rfl) (PureV.does (k_idxRef (enc := e_i64) (fro := false) xs6 (a := e122) (by kernel_rfl) (k := .i64) (i := (IntKind.wrap .i64 (x14 - 1))) (by kernel_rfl) (by kernel_rfl) Try.underlying22 ty3 h158 h159)) ?_
                      refine oOp (.d (.int .i64 e122)) (by kernel_rfl) (by kernel_rfl) (Quiet.does (k_loadE (enc := e_i64) (sz := 1) (fro := false) 2 0 xs6 (by kernel_rfl) (by kernel_rfl) Try.underlying3 (by kernel_rfl) h159 (by kernel_rfl))) ?_
                      refine oOp (.d (.int .i64 (gmin r1813 e122))) (by kernel_rfl) (by kernel_rfl) (PureV.does (p_min2 (k := .i64) (p := r1813) (q := e122) (by kernel_rfl) (by kernel_rfl) (by kernel_rfl))) ?_
                      refine oOp (.d (.int .i64 (gmin r1813 e122))) (by kernel_rfl) (by kernel_rfl) (PureV.does (p_assign (by kernel_rfl))) ?_
                      refine oEnd ?_
                      refine oHead [3, 4, 9, 14, 43, 44, 45] [0, 1, 2] (T' := [(3, .ptr 0 0), (4, .ptr 1 0), (9, .ref 2 (List.length xs6) 0 (List.length xs6)), (14, .d (.int .i64 (gmin r1813 e122))), (43, .d (.lit (List.map e_i64 b))), (44, .d (.int .i64 ((List.length b) : Int))), (45, .d (.int .i64 x14))]) (H' := [.box [.d (.lit (List.map e_i64 d0))], .box [.d (.lit (List.map e_i64 reference0))], .sl 1 (List.map e_i64 xs6) false]) (by kernel_rfl) (by kernel_rfl) (by kernel_rfl) (by kernel_rfl) (by decide) (by kernel_rfl) (by kernel_rfl) ?_
                      exact hj10 (gmin r1813 e122)
                    · refine oCondF (by kernel_rfl) ?_
                      refine oSkip ?_
                      refine oHead [3, 4, 9, 14, 43, 44, 45] [0, 1, 2] (T' := [(3, .ptr 0 0), (4, .ptr 1 0), (9, .ref 2 (List.length xs6) 0 (List.length xs6)), (14, .d (.int .i64 r1813)), (43, .d (.lit (List.map e_i64 b))), (44, .d (.int .i64 ((List.length b) : Int))), (45, .d (.int .i64 x14))]) (H' := [.box [.d (.lit (List.map e_i64 d0))], .box [.d (.lit (List.map e_i64 reference0))], .sl 1 (List.map e_i64 xs6) false]) (by kernel_rfl) (by kernel_rfl) (by kernel_rfl) (by kernel_rfl) (by decide) (by kernel_rfl) (by kernel_rfl) ?_
                      exact hj10 r1813
                · refine oCondF (by kernel_rfl) ?_
                  refine oExit rfl ?_
                  refine oHead [9] [2] (T' := [(9, .ref 0 (List.length xs6) 0 (List.length xs6))]) (H' := [.sl 1 (List.map e_i64 xs6) false]) (by kernel_rfl) (by kernel_rfl) (by kernel_rfl) (by kernel_rfl) (by decide) (by kernel_rfl) (by kernel_rfl) ?_
                  exact hj6 xs6
      · refine bSplit 29 (by kernel_rfl) (fun hc => ?_) (fun hc => ?_)
        · refine oNot (by kernel_rfl) (by kernel_rfl) ?_
          refine oNot (by kernel_rfl) (by kernel_rfl) ?_
          refine oNot (by kernel_rfl) (by kernel_rfl) ?_
          refine oOp (.d (.bool true)) (by kernel_rfl) (by kernel_rfl) (PureV.does (p_pick (b := true) (by kernel_rfl) (by kernel_rfl))) ?_
          refine oHead [2, 3, 4, 33] [0, 1] (T' := [(2, .d (.lit (List.map e_i64 b))), (3, .ptr 0 0), (4, .ptr 1 0), (33, .d (.bool true))]) (H' := [.box [.d (.lit (List.map e_i64 d0))], .box [.d (.lit (List.map e_i64 reference0))]]) (by kernel_rfl) (by kernel_rfl) (by kernel_rfl) (by kernel_rfl) (by decide) (by kernel_rfl) (by kernel_rfl) ?_
          exact hj11 true
        · refine oOp (.agg [.d (.lit (List.map e_i64 reference0))]) (by kernel_rfl) (by kernel_rfl) (Quiet.does (k_loadAgg 1 0 (by kernel_rfl) Try.underlying28 (by kernel_rfl) ty28 (by kernel_rfl))) ?_
          refine bCall (caps := []) (v := (fun (r1113 : Int) => (.d (.int .i64 r1113) : V))) (H' := (fun (r1113 : Int) => ([.box [.d (.lit (List.map e_i64 d0))], .box [.d (.lit (List.map e_i64 reference0))]] : List Blk))) [] _ (distribution_Count_goes k reference0) (by kernel_rfl) (by kernel_rfl) rfl (by kernel_rfl) Try.func34 rfl (by kernel_rfl) (ConvRs.refl _ _) (by kernel_rfl) (by kernel_rfl) (by kernel_rfl) (by decide) (by kernel_rfl) (by kernel_rfl) (fun _ => (by kernel_rfl)) (fun _ => (by kernel_rfl)) (fun _ => (by kernel_rfl)) (fun r1113 => ?_)
          refine oOp (.d (.bool (r1113 == 0))) (by kernel_rfl) (by kernel_rfl) (PureV.does (p_int (k := .i64) (p := r1113) (q := 0) (by kernel_rfl) (by kernel_rfl) (by kernel_rfl))) ?_
          refine oOp (.d (.bool (r1113 == 0))) (by kernel_rfl) (by kernel_rfl) (PureV.does (p_pick (b := false) (by kernel_rfl) (by kernel_rfl))) ?_
          refine oHead [2, 3, 4, 33] [0, 1] (T' := [(2, .d (.lit (List.map e_i64 b))), (3, .ptr 0 0), (4, .ptr 1 0), (33, .d (.bool (r1113 == 0)))]) (H' := [.box [.d (.lit (List.map e_i64 d0))], .box [.d (.lit (List.map e_i64 reference0))]]) (by kernel_rfl) (by kernel_rfl) (by kernel_rfl) (by kernel_rfl) (by decide) (by kernel_rfl) (by kernel_rfl) ?_
          exact hj11 (r1113 == 0)
  · refine bSplit 20 (by kernel_rfl) (fun hc => ?_) (fun hc => ?_)
    · refine oNot (by kernel_rfl) (by kernel_rfl) ?_
      refine oNot (by kernel_rfl) (by kernel_rfl) ?_
      refine oNot (by kernel_rfl) (by kernel_rfl) ?_
      refine oOp (.d (.bool true)) (by kernel_rfl) (by kernel_rfl) (PureV.does (p_pick (b := true) (by kernel_rfl) (by kernel_rfl))) ?_
      refine oHead [2, 3, 4, 24] [0, 1] (T' := [(2, .d (.lit (List.map e_i64 b))), (3, .ptr 0 0), (4, .ptr 1 0), (24, .d (.bool true))]) (H' := [.box [.d (.lit (List.map e_i64 d0))], .box [.d (.lit (List.map e_i64 reference0))]]) (by kernel_rfl) (by kernel_rfl) (by kernel_rfl) (by kernel_rfl) (by decide) (by kernel_rfl) (by kernel_rfl) ?_
      exact hj12 true
    · refine oOp (.agg [.d (.lit (List.map e_i64 reference0))]) (by kernel_rfl) (by kernel_rfl) (Quiet.does (k_loadAgg 1 0 (by kernel_rfl) Try.underlying28 (by kernel_rfl) ty28 (by kernel_rfl))) ?_
      refine bCall (caps := []) (v := (fun (r128 : Bool) => (.d (.bool r128) : V))) (H' := (fun (r128 : Bool) => ([.box [.d (.lit (List.map e_i64 d0))], .box [.d (.lit (List.map e_i64 reference0))]] : List Blk))) [] _ (distribution_Valid_goes k reference0) (by kernel_rfl) (by kernel_rfl) rfl (by kernel_rfl) Try.func27 rfl (by kernel_rfl) (ConvRs.refl _ _) (by kernel_rfl) (by kernel_rfl) (by kernel_rfl) (by decide) (by kernel_rfl) (by kernel_rfl) (fun _ => (by kernel_rfl)) (fun _ => (by kernel_rfl)) (fun _ => (by kernel_rfl)) (fun r128 => ?_)
      refine oOp (.d (.bool (!r128))) (by kernel_rfl) (by kernel_rfl) (PureV.does (p_not (p := r128) (by kernel_rfl) (by kernel_rfl))) ?_
      refine oOp (.d (.bool (!r128))) (by kernel_rfl) (by kernel_rfl) (PureV.does (p_pick (b := false) (by kernel_rfl) (by kernel_rfl))) ?_
      refine oHead [2, 3, 4, 24] [0, 1] (T' := [(2, .d (.lit (List.map e_i64 b))), (3, .ptr 0 0), (4, .ptr 1 0), (24, .d (.bool (!r128)))]) (H' := [.box [.d (.lit (List.map e_i64 d0))], .box [.d (.lit (List.map e_i64 reference0))]]) (by kernel_rfl) (by kernel_rfl) (by kernel_rfl) (by kernel_rfl) (by decide) (by kernel_rfl) (by kernel_rfl) ?_
      exact hj12 (!r128)

/-- awardingbody/awardingbodylaw35.BoundaryReference -/
def law35_BoundaryReference_b1 (k : Nat) (r123 : (List Int)) (k17 : Int) (again : Int × (List Int) → Option ((List Int))) : Int × (List Int) → Option ((List Int)) := uc fun x28 => fun xs12 => bif (decide (x28 < ((List.length r123) : Int))) then gidx r123 x28 fun e123 => gcap (List.length (xs12 ++ ([(IntKind.wrap .i64 (e123 * k17))] : List Int))) 8 (again ((IntKind.wrap .i64 (x28 + 1)), (xs12 ++ ([(IntKind.wrap .i64 (e123 * k17))] : List Int)))) else some xs12
def law35_BoundaryReference_b2 (k : Nat) (r122 : (List Int)) (again : Int × Int × (List Int) → Option (Int × (List Int))) : Int × Int × (List Int) → Option (Int × (List Int)) := uc fun k19 => uc fun x30 => fun xs14 => bif (decide (x30 < ((List.length r122) : Int))) then gidx r122 x30 fun e129 => gcap (List.length (xs14 ++ ([(IntKind.wrap .i64 (e129 * k19))] : List Int))) 8 (again (k19, (IntKind.wrap .i64 (x30 + 1)), (xs14 ++ ([(IntKind.wrap .i64 (e129 * k19))] : List Int)))) else some (k19, xs14)
def law35_BoundaryReference_b3 (k : Nat) (r149 : (List Int)) (again : Int → Option ((Unit) ⊕ (Bool))) : Int → Option ((Unit) ⊕ (Bool)) := fun i4 => bif (decide (i4 < ((List.length r149) : Int))) then gidx r149 i4 fun e1 => gidx r149 (IntKind.wrap .i64 (i4 - 1)) fun e11 => bif (decide (e1 > e11)) then some (Sum.inr false) else again (IntKind.wrap .i64 (i4 + 1)) else some (Sum.inl ())
def law35_BoundaryReference (k : Nat) (t : (List Int)) (times : Int) : Option (Bool) := Option.bind (mark_Light k t) (u0 (bif (!(decide (((List.length t) : Int) ≤ 600))) then Option.bind (law35_sane k) (fun r176 => some r176) else Option.bind (mark_Roll k t) (u0 (Option.bind (mark_Dice_Distribution k 9 false t 0) (uc fun r122 => fun x72 => Option.bind (mark_Dice_Distribution k 9 false t x72) (uc fun r123 => fun x73 => Option.bind (ref32_Count k r122) (fun r110 => Option.bind (bif (r110 == 0) then some true else Option.bind (ref32_Count k r123) (fun r125 => some (r125 == 0)) : Option (Bool)) (fun x15 => bif x15 then Option.bind (law35_sane k) (fun r178 => some r178) else Option.bind (mark_Dice_Bounds k (IntKind.wrap .i64 (((List.length r123) : Int) - 1)) t x73) (uc fun r155 => fun x51 => Option.bind (boundary_Reference k r123 r123 r155) (uc fun r146 => fun r156 => Option.bind (boundary_Tally k r123 r146) (uc fun r114 => fun r147 => Option.bind (boundary_Tally k r123 r155) (uc fun r115 => fun r148 => Option.bind (boundary_Reference k r122 r123 r155) (uc fun r149 => fun r157 => blet ((r156 != 0) || (r147 != 0)) fun x16 => blet (x16 || (r148 != 0)) fun x17 => blet (x17 || (r157 != 0)) fun x18 => Option.bind (bif x18 then some true else Option.bind (law35_same k r114 r115) (fun r124 => some (!r124)) : Option (Bool)) (fun x19 => bif x19 then some false else Option.bind (gloop (law35_BoundaryReference_b3 k r149) k 1 : Option ((Unit) ⊕ (Bool))) (Sum.elim (u0 (Option.bind (gloop (law35_BoundaryReference_b2 k r122) k ((IntKind.wrap .i64 (1 + (IntKind.wrap .i64 (Int.tmod times 5)))), 0, ([] : List Int)) : Option (Int × (List Int))) (uc fun k17 => fun xs8 => Option.bind (gloop (law35_BoundaryReference_b1 k r123 k17) k (0, ([] : List Int)) : Option ((List Int))) (fun xs11 => Option.bind (boundary_Reference k xs8 r123 r155) (uc fun r1410 => fun r158 => Option.bind (boundary_Reference k r122 xs11 r155) (uc fun r1411 => fun r159 => blet ((r158 == 0) && (r159 == 0)) fun x24 => Option.bind (bif x24 then Option.bind (law35_same k r1410 r149) (fun r120 => some r120) else some false : Option (Bool)) (fun x25 => Option.bind (bif x25 then Option.bind (law35_same k r1411 r149) (fun r119 => some r119) else some false : Option (Bool)) (fun x26 => Option.bind (bif x26 then Option.bind (law35_sane k) (fun r1710 => some r1710) else some false : Option (Bool)) (fun x27 => some x27))))))))) (fun r => some r))))))))))))))))
def law35_BoundaryReference_E (t : (List Int)) (times : Int) : Bool → V × List Blk := fun r19 => (.d (.bool r19), [])
theorem law35_BoundaryReference_goes (k : Nat) (t : (List Int)) (times : Int) : RunsO Try.prog 6 [.d (.lit (List.map e_i64 t)), .d (.int .u8 times)] [] (law35_BoundaryReference_E t times) (law35_BoundaryReference k t times) := by
  refine RunsO.of_goes (N := 185) (m := 0) (T := [(0, .d (.lit (List.map e_i64 t))), (1, .d (.int .u8 times))]) Try.func6 rfl rfl (by kernel_rfl) (by kernel_rfl) (by kernel_rfl) ?_
  unfold law35_BoundaryReference
  refine bStart ?_
  refine oSeq ?_
  refine oRegion rfl ?_
  refine oOp (.d (.bool false)) (by kernel_rfl) (by kernel_rfl) (PureV.does (p_assign (by kernel_rfl))) ?_
  refine oEnd ?_
  refine oSeq ?_
  refine oSeq ?_
  refine oRegion rfl ?_
  refine oOp (.d (.lit (List.map e_i64 t))) (by kernel_rfl) (by kernel_rfl) (PureV.does (p_move (by kernel_rfl))) ?_
  refine bCall (caps := []) (v := (u0 ((.d (.bool (decide (((List.length t) : Int) ≤ 600))) : V)))) (H' := (u0 (([] : List Blk)))) [] _ (mark_Light_goes k t) (by kernel_rfl) (by kernel_rfl) rfl (by kernel_rfl) Try.func7 rfl (by kernel_rfl) (ConvRs.refl _ _) (by kernel_rfl) (by kernel_rfl) (by kernel_rfl) (by decide) (by kernel_rfl) (by kernel_rfl) (fun _ => (by kernel_rfl)) (fun _ => (by kernel_rfl)) (fun _ => (by kernel_rfl)) (fun r => ?_)
  cases r
  refine bU0 ?_
  refine oOp (.d (.bool (!(decide (((List.length t) : Int) ≤ 600))))) (by kernel_rfl) (by kernel_rfl) (PureV.does (p_not (p := (decide (((List.length t) : Int) ≤ 600))) (by kernel_rfl) (by kernel_rfl))) ?_
  refine oEnd ?_
  refine bSplit 31 (by kernel_rfl) (fun hc => ?_) (fun hc => ?_)
  · refine oCondT (by kernel_rfl) ?_
    refine oSeq ?_
    refine oRegion rfl ?_
    refine bCall (caps := []) (v := (fun (r176 : Bool) => (.d (.bool r176) : V))) (H' := (fun (r176 : Bool) => ([] : List Blk))) [] _ (law35_sane_goes k ) (by kernel_rfl) (by kernel_rfl) rfl (by kernel_rfl) Try.func8 rfl (by kernel_rfl) (ConvRs.refl _ _) (by kernel_rfl) (by kernel_rfl) (by kernel_rfl) (by decide) (by kernel_rfl) (by kernel_rfl) (fun _ => (by kernel_rfl)) (fun _ => (by kernel_rfl)) (fun _ => (by kernel_rfl)) (fun r176 => ?_)
    refine oOp (.d (.bool r176)) (by kernel_rfl) (by kernel_rfl) (PureV.does (p_assign (by kernel_rfl))) ?_
    refine oEnd ?_
    exact oRet (r0 := r176) (rv := .d (.bool r176)) (B := []) (vs := [.d (.bool r176)]) (σ := []) (by kernel_rfl) Try.func6 rfl (.cons _ _ _ _ (.tmp 4 _ (by kernel_rfl)) .nil) (by kernel_rfl) (by kernel_rfl) (by kernel_rfl) (by kernel_rfl) (by decide) (by kernel_rfl) (by kernel_rfl)
  · refine oCondF (by kernel_rfl) ?_
    refine oSkip ?_
    refine oSeq ?_
    refine oRegion rfl ?_
    refine oOp (.d (.lit (List.map e_i64 t))) (by kernel_rfl) (by kernel_rfl) (PureV.does (p_move (by kernel_rfl))) ?_
    refine bCall (caps := []) (v := (u0 ((.ptr 0 0 : V)))) (H' := (u0 (([.box [.d (.lit (List.map e_i64 t)), .d (.int .i64 0)]] : List Blk)))) [] _ (mark_Roll_goes k t) (by kernel_rfl) (by kernel_rfl) rfl (by kernel_rfl) Try.func9 rfl (by kernel_rfl) (ConvRs.refl _ _) (by kernel_rfl) (by kernel_rfl) (by kernel_rfl) (by decide) (by kernel_rfl) (by kernel_rfl) (fun _ => (by kernel_rfl)) (fun _ => (by kernel_rfl)) (fun _ => (by kernel_rfl)) (fun r => ?_)
    cases r
    refine bU0 ?_
    refine oOp (.ptr 0 0) (by kernel_rfl) (by kernel_rfl) (PureV.does (p_assign (by kernel_rfl))) ?_
    refine oEnd ?_
    refine oSeq ?_
    refine oRegion rfl ?_
    refine oOp (.ptr 0 0) (by kernel_rfl) (by kernel_rfl) (PureV.does (p_move (by kernel_rfl))) ?_
    refine bCall (caps := []) (v := (uc fun (r122 : (List Int)) => (fun (x72 : Int) => (.agg [.d (.lit (List.map e_i64 r122))] : V)))) (H' := (uc fun (r122 : (List Int)) => (fun (x72 : Int) => ([.box [.d (.lit (List.map e_i64 t)), .d (.int .i64 x72)]] : List Blk)))) [0] _ (mark_Dice_Distribution_goes k 9 false t 0) (by kernel_rfl) (by kernel_rfl) rfl (by kernel_rfl) Try.func10 rfl (by kernel_rfl) (ConvRs.refl _ _) (by kernel_rfl) (by kernel_rfl) (by kernel_rfl) (by decide) (by kernel_rfl) (by kernel_rfl) (fun _ => (by kernel_rfl)) (fun _ => (by kernel_rfl)) (fun _ => (by kernel_rfl)) (fun r => ?_)
    obtain ⟨r122, x72⟩ := r
    refine bUc ?_
    refine oOp (.ptr 0 0) (by kernel_rfl) (by kernel_rfl) (PureV.does (p_move (by kernel_rfl))) ?_
    refine bCall (caps := []) (v := (uc fun (r123 : (List Int)) => (fun (x73 : Int) => (.agg [.d (.lit (List.map e_i64 r123))] : V)))) (H' := (uc fun (r123 : (List Int)) => (fun (x73 : Int) => ([.box [.d (.lit (List.map e_i64 t)), .d (.int .i64 x73)]] : List Blk)))) [0] _ (mark_Dice_Distribution_goes k 9 false t x72) (by kernel_rfl) (by kernel_rfl) rfl (by kernel_rfl) Try.func10 rfl (by kernel_rfl) (ConvRs.refl _ _) (by kernel_rfl) (by kernel_rfl) (by kernel_rfl) (by decide) (by kernel_rfl) (by kernel_rfl) (fun _ => (by kernel_rfl)) (fun _ => (by kernel_rfl)) (fun _ => (by kernel_rfl)) (fun r => ?_)
    obtain ⟨r123, x73⟩ := r
    refine bUc ?_
    refine oOp (.ptr 1 0) (by kernel_rfl) (by kernel_rfl) (k_alloc (H' := [.box [.d (.lit (List.map e_i64 t)), .d (.int .i64 x73)], .box [.nilc]]) ty28 (by kernel_rfl) (by kernel_rfl)) ?_
    refine oOp (.ptr 2 0) (by kernel_rfl) (by kernel_rfl) (k_alloc (H' := [.box [.d (.lit (List.map e_i64 t)), .d (.int .i64 x73)], .box [.nilc], .box [.nilc]]) ty28 (by kernel_rfl) (by kernel_rfl)) ?_
    refine oOp (.undef) (by kernel_rfl) (by kernel_rfl) (k_store (vs := [.d (.lit (List.map e_i64 r122))]) (H' := [.box [.d (.lit (List.map e_i64 t)), .d (.int .i64 x73)], .box [.d (.lit (List.map e_i64 r122))], .box [.nilc]]) 1 0 (by kernel_rfl) ty28 (by kernel_rfl) (by kernel_rfl) (by kernel_rfl)) ?_
    refine oOp (.undef) (by kernel_rfl) (by kernel_rfl) (k_store (vs := [.d (.lit (List.map e_i64 r123))]) (H' := [.box [.d (.lit (List.map e_i64 t)), .d (.int .i64 x73)], .box [.d (.lit (List.map e_i64 r122))], .box [.d (.lit (List.map e_i64 r123))]]) 2 0 (by kernel_rfl) ty28 (by kernel_rfl) (by kernel_rfl) (by kernel_rfl)) ?_
    refine oEnd ?_
    refine oSeq ?_
    refine oSeq ?_
    refine oRegion rfl ?_
    refine oOp (.agg [.d (.lit (List.map e_i64 r122))]) (by kernel_rfl) (by kernel_rfl) (Quiet.does (k_loadAgg 1 0 (by kernel_rfl) Try.underlying28 (by kernel_rfl) ty28 (by kernel_rfl))) ?_
    refine bCall (caps := []) (v := (fun (r110 : Int) => (.d (.int .i64 r110) : V))) (H' := (fun (r110 : Int) => ([.box [.d (.lit (List.map e_i64 t)), .d (.int .i64 x73)], .box [.d (.lit (List.map e_i64 r122))], .box [.d (.lit (List.map e_i64 r123))]] : List Blk))) [] _ (ref32_Count_goes k r122) (by kernel_rfl) (by kernel_rfl) rfl (by kernel_rfl) Try.func15 rfl (by kernel_rfl) (ConvRs.refl _ _) (by kernel_rfl) (by kernel_rfl) (by kernel_rfl) (by decide) (by kernel_rfl) (by kernel_rfl) (fun _ => (by kernel_rfl)) (fun _ => (by kernel_rfl)) (fun _ => (by kernel_rfl)) (fun r110 => ?_)
    refine oOp (.d (.bool (r110 == 0))) (by kernel_rfl) (by kernel_rfl) (PureV.does (p_int (k := .i64) (p := r110) (q := 0) (by kernel_rfl) (by kernel_rfl) (by kernel_rfl))) ?_
    refine oOp (.d (.bool (r110 == 0))) (by kernel_rfl) (by kernel_rfl) (PureV.does (p_move (by kernel_rfl))) ?_
    refine bMeet 4 rfl ((fun (x15 : Bool) => [(1, .d (.int .u8 times)), (5, .ptr 0 0), (6, .ptr 1 0), (7, .ptr 2 0), (46, .d (.bool x15))])) ((fun (x15 : Bool) => [.box [.d (.lit (List.map e_i64 t)), .d (.int .i64 x73)], .box [.d (.lit (List.map e_i64 r122))], .box [.d (.lit (List.map e_i64 r123))]])) (fun s => s) (fun x15 => ?_) (fun hj15 => ?_)
    · refine oView (T' := [(1, .d (.int .u8 times)), (5, .ptr 0 0), (6, .ptr 1 0), (7, .ptr 2 0), (46, .d (.bool x15))]) (H' := [.box [.d (.lit (List.map e_i64 t)), .d (.int .i64 x73)], .box [.d (.lit (List.map e_i64 r122))], .box [.d (.lit (List.map e_i64 r123))]]) (by kernel_rfl) (by kernel_rfl) ?_
      refine oEnd ?_
      refine bSplit 46 (by kernel_rfl) (fun hc => ?_) (fun hc => ?_)
      · refine oCondT (by kernel_rfl) ?_
        refine oSeq ?_
        refine oRegion rfl ?_
        refine bCall (caps := []) (v := (fun (r178 : Bool) => (.d (.bool r178) : V))) (H' := (fun (r178 : Bool) => ([.box [.d (.lit (List.map e_i64 t)), .d (.int .i64 x73)], .box [.d (.lit (List.map e_i64 r122))], .box [.d (.lit (List.map e_i64 r123))]] : List Blk))) [] _ (law35_sane_goes k ) (by kernel_rfl) (by kernel_rfl) rfl (by kernel_rfl) Try.func8 rfl (by kernel_rfl) (ConvRs.refl _ _) (by kernel_rfl) (by kernel_rfl) (by kernel_rfl) (by decide) (by kernel_rfl) (by kernel_rfl) (fun _ => (by kernel_rfl)) (fun _ => (by kernel_rfl)) (fun _ => (by kernel_rfl)) (fun r178 => ?_)
        refine oOp (.d (.bool r178)) (by kernel_rfl) (by kernel_rfl) (PureV.does (p_assign (by kernel_rfl))) ?_
        refine oEnd ?_
        exact oRet (r0 := r178) (rv := .d (.bool r178)) (B := []) (vs := [.d (.bool r178)]) (σ := []) (by kernel_rfl) Try.func6 rfl (.cons _ _ _ _ (.tmp 4 _ (by kernel_rfl)) .nil) (by kernel_rfl) (by kernel_rfl) (by kernel_rfl) (by kernel_rfl) (by decide) (by kernel_rfl) (by kernel_rfl)
      · refine oCondF (by kernel_rfl) ?_
        refine oSkip ?_
        refine oSeq ?_
        refine oRegion rfl ?_
        refine oOp (.ptr 0 0) (by kernel_rfl) (by kernel_rfl) (PureV.does (p_move (by kernel_rfl))) ?_
        refine oOp (.ptr 2 0) (by kernel_rfl) (by kernel_rfl) (PureV.does (k_fieldAddr 2 0 (by kernel_rfl) Try.underlying28 rfl ty22 (by kernel_rfl))) ?_
        refine oOp (.d (.lit (List.map e_i64 r123))) (by kernel_rfl) (by kernel_rfl) (Quiet.does (k_load 2 0 (by kernel_rfl) Try.underlying22 (by kernel_rfl) (by kernel_rfl))) ?_
        refine oOp (.d (.int .i64 ((List.length r123) : Int))) (by kernel_rfl) (by kernel_rfl) (PureV.does (k_lenLit (enc := e_i64) r123 (by kernel_rfl) Try.underlying22)) ?_
        refine oOp (.d (.int .i64 (IntKind.wrap .i64 (((List.length r123) : Int) - 1)))) (by kernel_rfl) (by kernel_rfl) (PureV.does (p_int (k := .i64) (p := ((List.length r123) : Int)) (q := 1) (by kernel_rfl) (by kernel_rfl) (by kernel_rfl))) ?_
        refine bCall (caps := []) (v := (uc fun (r155 : (List Int)) => (fun (x51 : Int) => (.d (.lit (List.map e_i64 r155)) : V)))) (H' := (uc fun (r155 : (List Int)) => (fun (x51 : Int) => ([.box [.d (.lit (List.map e_i64 t)), .d (.int .i64 x51)], .box [.d (.lit (List.map e_i64 r122))], .box [.d (.lit (List.map e_i64 r123))]] : List Blk)))) [0] _ (mark_Dice_Bounds_goes k (IntKind.wrap .i64 (((List.length r123) : Int) - 1)) t x73) (by kernel_rfl) (by kernel_rfl) rfl (by kernel_rfl) Try.func11 rfl (by kernel_rfl) (ConvRs.refl _ _) (by kernel_rfl) (by kernel_rfl) (by kernel_rfl) (by decide) (by kernel_rfl) (by kernel_rfl) (fun _ => (by kernel_rfl)) (fun _ => (by kernel_rfl)) (fun _ => (by kernel_rfl)) (fun r => ?_)
        obtain ⟨r155, x51⟩ := r
        refine bUc ?_
        refine oOp (.d (.lit (List.map e_i64 r155))) (by kernel_rfl) (by kernel_rfl) (PureV.does (p_assign (by kernel_rfl))) ?_
        refine oEnd ?_
        refine oSeq ?_
        refine oRegion rfl ?_
        refine oOp (.agg [.d (.lit (List.map e_i64 r123))]) (by kernel_rfl) (by kernel_rfl) (Quiet.does (k_loadAgg 2 0 (by kernel_rfl) Try.underlying28 (by kernel_rfl) ty28 (by kernel_rfl))) ?_
        refine oOp (.agg [.d (.lit (List.map e_i64 r123))]) (by kernel_rfl) (by kernel_rfl) (Quiet.does (k_loadAgg 2 0 (by kernel_rfl) Try.underlying28 (by kernel_rfl) ty28 (by kernel_rfl))) ?_
        refine oOp (.d (.lit (List.map e_i64 r155))) (by kernel_rfl) (by kernel_rfl) (PureV.does (p_move (by kernel_rfl))) ?_
        refine bCall (caps := []) (v := (uc fun (r146 : (List Int)) => (fun (r156 : Int) => (.tuple [.d (.lit (List.map e_i64 r146)), .d (.int .i64 r156)] : V)))) (H' := (uc fun (r146 : (List Int)) => (fun (r156 : Int) => ([.box [.d (.lit (List.map e_i64 t)), .d (.int .i64 x51)], .box [.d (.lit (List.map e_i64 r122))], .box [.d (.lit (List.map e_i64 r123))]] : List Blk)))) [] _ (boundary_Reference_goes k r123 r123 r155) (by kernel_rfl) (by kernel_rfl) rfl (by kernel_rfl) Try.func23 rfl (by kernel_rfl) (ConvRs.refl _ _) (by kernel_rfl) (by kernel_rfl) (by kernel_rfl) (by decide) (by kernel_rfl) (by kernel_rfl) (fun _ => (by kernel_rfl)) (fun _ => (by kernel_rfl)) (fun _ => (by kernel_rfl)) (fun r => ?_)
        obtain ⟨r146, r156⟩ := r
        refine bUc ?_
        refine oOp (.tuple [.d (.lit (List.map e_i64 r146)), .d (.int .i64 r156)]) (by kernel_rfl) (by kernel_rfl) (PureV.does (p_move (by kernel_rfl))) ?_
        refine oOp (.d (.lit (List.map e_i64 r146))) (by kernel_rfl) (by kernel_rfl) (PureV.does (k_extract (by kernel_rfl))) ?_
        refine oOp (.d (.int .i64 r156)) (by kernel_rfl) (by kernel_rfl) (PureV.does (k_extract (by kernel_rfl))) ?_
        refine oOp (.d (.lit (List.map e_i64 r146))) (by kernel_rfl) (by kernel_rfl) (PureV.does (p_assign (by kernel_rfl))) ?_
        refine oOp (.d (.int .i64 r156)) (by kernel_rfl) (by kernel_rfl) (PureV.does (p_assign (by kernel_rfl))) ?_
        refine oEnd ?_
        refine oSeq ?_
        refine oRegion rfl ?_
        refine oOp (.agg [.d (.lit (List.map e_i64 r123))]) (by kernel_rfl) (by kernel_rfl) (Quiet.does (k_loadAgg 2 0 (by kernel_rfl) Try.underlying28 (by kernel_rfl) ty28 (by kernel_rfl))) ?_
        refine oOp (.d (.lit (List.map e_i64 r146))) (by kernel_rfl) (by kernel_rfl) (PureV.does (p_move (by kernel_rfl))) ?_
        refine bCall (caps := []) (v := (uc fun (r114 : (List Int)) => (fun (r147 : Int) => (.tuple [.d (.lit (List.map e_i64 r114)), .d (.int .i64 r147)] : V)))) (H' := (uc fun (r114 : (List Int)) => (fun (r147 : Int) => ([.box [.d (.lit (List.map e_i64 t)), .d (.int .i64 x51)], .box [.d (.lit (List.map e_i64 r122))], .box [.d (.lit (List.map e_i64 r123))]] : List Blk)))) [] _ (boundary_Tally_goes k r123 r146) (by kernel_rfl) (by kernel_rfl) rfl (by kernel_rfl) Try.func12 rfl (by kernel_rfl) (ConvRs.refl _ _) (by kernel_rfl) (by kernel_rfl) (by kernel_rfl) (by decide) (by kernel_rfl) (by kernel_rfl) (fun _ => (by kernel_rfl)) (fun _ => (by kernel_rfl)) (fun _ => (by kernel_rfl)) (fun r => ?_)
        obtain ⟨r114, r147⟩ := r
        refine bUc ?_
        refine oOp (.tuple [.d (.lit (List.map e_i64 r114)), .d (.int .i64 r147)]) (by kernel_rfl) (by kernel_rfl) (PureV.does (p_move (by kernel_rfl))) ?_
        refine oOp (.d (.lit (List.map e_i64 r114))) (by kernel_rfl) (by kernel_rfl) (PureV.does (k_extract (by kernel_rfl))) ?_
        refine oOp (.d (.int .i64 r147)) (by kernel_rfl) (by kernel_rfl) (PureV.does (k_extract (by kernel_rfl))) ?_
        refine oOp (.d (.lit (List.map e_i64 r114))) (by kernel_rfl) (by kernel_rfl) (PureV.does (p_assign (by kernel_rfl))) ?_
        refine oOp (.d (.int .i64 r147)) (by kernel_rfl) (by kernel_rfl) (PureV.does (p_assign (by kernel_rfl))) ?_
        refine oEnd ?_
        refine oSeq ?_
        refine oRegion rfl ?_
        refine oOp (.agg [.d (.lit (List.map e_i64 r123))]) (by kernel_rfl) (by kernel_rfl) (Quiet.does (k_loadAgg 2 0 (by kernel_rfl) Try.underlying28 (by kernel_rfl) ty28 (by kernel_rfl))) ?_
        refine oOp (.d (.lit (List.map e_i64 r155))) (by kernel_rfl) (by kernel_rfl) (PureV.does (p_move (by kernel_rfl))) ?_
        refine bCall (caps := []) (v := (uc fun (r115 : (List Int)) => (fun (r148 : Int) => (.tuple [.d (.lit (List.map e_i64 r115)), .d (.int .i64 r148)] : V)))) (H' := (uc fun (r115 : (List Int)) => (fun (r148 : Int) => ([.box [.d (.lit (List.map e_i64 t)), .d (.int .i64 x51)], .box [.d (.lit (List.map e_i64 r122))], .box [.d (.lit (List.map e_i64 r123))]] : List Blk)))) [] _ (boundary_Tally_goes k r123 r155) (by kernel_rfl) (by kernel_rfl) rfl (by kernel_rfl) Try.func12 rfl (by kernel_rfl) (ConvRs.refl _ _) (by kernel_rfl) (by kernel_rfl) (by kernel_rfl) (by decide) (by kernel_rfl) (by kernel_rfl) (fun _ => (by kernel_rfl)) (fun _ => (by kernel_rfl)) (fun _ => (by kernel_rfl)) (fun r => ?_)
        obtain ⟨r115, r148⟩ := r
        refine bUc ?_
        refine oOp (.tuple [.d (.lit (List.map e_i64 r115)), .d (.int .i64 r148)]) (by kernel_rfl) (by kernel_rfl) (PureV.does (p_move (by kernel_rfl))) ?_
        refine oOp (.d (.lit (List.map e_i64 r115))) (by kernel_rfl) (by kernel_rfl) (PureV.does (k_extract (by kernel_rfl))) ?_
        refine oOp (.d (.int .i64 r148)) (by kernel_rfl) (by kernel_rfl) (PureV.does (k_extract (by kernel_rfl))) ?_
        refine oOp (.d (.lit (List.map e_i64 r115))) (by kernel_rfl) (by kernel_rfl) (PureV.does (p_assign (by kernel_rfl))) ?_
        refine oOp (.d (.int .i64 r148)) (by kernel_rfl) (by kernel_rfl) (PureV.does (p_assign (by kernel_rfl))) ?_
        refine oEnd ?_
        refine oSeq ?_
        refine oRegion rfl ?_
        refine oOp (.agg [.d (.lit (List.map e_i64 r122))]) (by kernel_rfl) (by kernel_rfl) (Quiet.does (k_loadAgg 1 0 (by kernel_rfl) Try.underlying28 (by kernel_rfl) ty28 (by kernel_rfl))) ?_
        refine oOp (.agg [.d (.lit (List.map e_i64 r123))]) (by kernel_rfl) (by kernel_rfl) (Quiet.does (k_loadAgg 2 0 (by kernel_rfl) Try.underlying28 (by kernel_rfl) ty28 (by kernel_rfl))) ?_
        refine oOp (.d (.lit (List.map e_i64 r155))) (by kernel_rfl) (by kernel_rfl) (PureV.does (p_move (by kernel_rfl))) ?_
        refine bCall (caps := []) (v := (uc fun (r149 : (List Int)) => (fun (r157 : Int) => (.tuple [.d (.lit (List.map e_i64 r149)), .d (.int .i64 r157)] : V)))) (H' := (uc fun (r149 : (List Int)) => (fun (r157 : Int) => ([.box [.d (.lit (List.map e_i64 t)), .d (.int .i64 x51)], .box [.d (.lit (List.map e_i64 r122))], .box [.d (.lit (List.map e_i64 r123))]] : List Blk)))) [] _ (boundary_Reference_goes k r122 r123 r155) (by kernel_rfl) (by kernel_rfl) rfl (by kernel_rfl) Try.func23 rfl (by kernel_rfl) (ConvRs.refl _ _) (by kernel_rfl) (by kernel_rfl) (by kernel_rfl) (by decide) (by kernel_rfl) (by kernel_rfl) (fun _ => (by kernel_rfl)) (fun _ => (by kernel_rfl)) (fun _ => (by kernel_rfl)) (fun r => ?_)
        obtain ⟨r149, r157⟩ := r
        refine bUc ?_
        refine oOp (.tuple [.d (.lit (List.map e_i64 r149)), .d (.int .i64 r157)]) (by kernel_rfl) (by kernel_rfl) (PureV.does (p_move (by kernel_rfl))) ?_
        refine oOp (.d (.lit (List.map e_i64 r149))) (by kernel_rfl) (by kernel_rfl) (PureV.does (k_extract (by kernel_rfl))) ?_
        refine oOp (.d (.int .i64 r157)) (by kernel_rfl) (by kernel_rfl) (PureV.does (k_extract (by kernel_rfl))) ?_
        refine oOp (.d (.lit (List.map e_i64 r149))) (by kernel_rfl) (by kernel_rfl) (PureV.does (p_assign (by kernel_rfl))) ?_
        refine oOp (.d (.int .i64 r157)) (by kernel_rfl) (by kernel_rfl) (PureV.does (p_assign (by kernel_rfl))) ?_
        refine oEnd ?_
        refine oSeq ?_
        refine oSeq ?_
        refine oRegion rfl ?_
        refine oOp (.d (.int .i64 r156)) (by kernel_rfl) (by kernel_rfl) (PureV.does (p_move (by kernel_rfl))) ?_
        refine oOp (.d (.bool (r156 != 0))) (by kernel_rfl) (by kernel_rfl) (PureV.does (p_int (k := .i64) (p := r156) (q := 0) (by kernel_rfl) (by kernel_rfl) (by kernel_rfl))) ?_
        refine oOp (.d (.bool (r156 != 0))) (by kernel_rfl) (by kernel_rfl) (PureV.does (p_move (by kernel_rfl))) ?_
        refine bMeetF (H' := [.box [.d (.lit (List.map e_i64 r122))], .box [.d (.lit (List.map e_i64 r123))]]) 3 rfl ((fun (x16 : Bool) => [(1, .d (.int .u8 times)), (6, .ptr 0 0), (7, .ptr 1 0), (8, .d (.lit (List.map e_i64 r155))), (11, .d (.lit (List.map e_i64 r114))), (13, .d (.lit (List.map e_i64 r115))), (14, .d (.int .i64 r148)), (15, .d (.lit (List.map e_i64 r149))), (16, .d (.int .i64 r157)), (85, .d (.bool x16))])) (fun x16 => ?_) (fun F hj4 => ?_)
        · refine oView (T' := [(1, .d (.int .u8 times)), (6, .ptr 0 0), (7, .ptr 1 0), (8, .d (.lit (List.map e_i64 r155))), (11, .d (.lit (List.map e_i64 r114))), (13, .d (.lit (List.map e_i64 r115))), (14, .d (.int .i64 r148)), (15, .d (.lit (List.map e_i64 r149))), (16, .d (.int .i64 r157)), (85, .d (.bool x16))]) (H' := [.box [.d (.lit (List.map e_i64 r122))], .box [.d (.lit (List.map e_i64 r123))]]) (by kernel_rfl) (by kernel_rfl) ?_
          refine oOp (.d (.bool x16)) (by kernel_rfl) (by kernel_rfl) (PureV.does (p_move (by kernel_rfl))) ?_
          refine bMeetF (H' := [.box [.d (.lit (List.map e_i64 r122))], .box [.d (.lit (List.map e_i64 r123))]]) 3 rfl ((fun (x17 : Bool) => [(1, .d (.int .u8 times)), (6, .ptr 0 0), (7, .ptr 1 0), (8, .d (.lit (List.map e_i64 r155))), (11, .d (.lit (List.map e_i64 r114))), (13, .d (.lit (List.map e_i64 r115))), (15, .d (.lit (List.map e_i64 r149))), (16, .d (.int .i64 r157)), (89, .d (.bool x17))])) (fun x17 => ?_) (fun F hj5 => ?_)
          · refine oView (T' := [(1, .d (.int .u8 times)), (6, .ptr 0 0), (7, .ptr 1 0), (8, .d (.lit (List.map e_i64 r155))), (11, .d (.lit (List.map e_i64 r114))), (13, .d (.lit (List.map e_i64 r115))), (15, .d (.lit (List.map e_i64 r149))), (16, .d (.int .i64 r157)), (89, .d (.bool x17))]) (H' := [.box [.d (.lit (List.map e_i64 r122))], .box [.d (.lit (List.map e_i64 r123))]]) (by kernel_rfl) (by kernel_rfl) ?_
            refine oOp (.d (.bool x17)) (by kernel_rfl) (by kernel_rfl) (PureV.does (p_move (by kernel_rfl))) ?_
            refine bMeetF (H' := [.box [.d (.lit (List.map e_i64 r122))], .box [.d (.lit (List.map e_i64 r123))]]) 3 rfl ((fun (x18 : Bool) => [(1, .d (.int .u8 times)), (6, .ptr 0 0), (7, .ptr 1 0), (8, .d (.lit (List.map e_i64 r155))), (11, .d (.lit (List.map e_i64 r114))), (13, .d (.lit (List.map e_i64 r115))), (15, .d (.lit (List.map e_i64 r149))), (93, .d (.bool x18))])) (fun x18 => ?_) (fun F hj6 => ?_)
            · refine oView (T' := [(1, .d (.int .u8 times)), (6, .ptr 0 0), (7, .ptr 1 0), (8, .d (.lit (List.map e_i64 r155))), (11, .d (.lit (List.map e_i64 r114))), (13, .d (.lit (List.map e_i64 r115))), (15, .d (.lit (List.map e_i64 r149))), (93, .d (.bool x18))]) (H' := [.box [.d (.lit (List.map e_i64 r122))], .box [.d (.lit (List.map e_i64 r123))]]) (by kernel_rfl) (by kernel_rfl) ?_
              refine oOp (.d (.bool x18)) (by kernel_rfl) (by kernel_rfl) (PureV.does (p_move (by kernel_rfl))) ?_
              refine bMeet 5 rfl ((fun (x19 : Bool) => [(1, .d (.int .u8 times)), (6, .ptr 0 0), (7, .ptr 1 0), (8, .d (.lit (List.map e_i64 r155))), (15, .d (.lit (List.map e_i64 r149))), (99, .d (.bool x19))])) ((fun (x19 : Bool) => [.box [.d (.lit (List.map e_i64 r122))], .box [.d (.lit (List.map e_i64 r123))]])) (fun s => s) (fun x19 => ?_) (fun hj14 => ?_)
              · refine oView (T' := [(1, .d (.int .u8 times)), (6, .ptr 0 0), (7, .ptr 1 0), (8, .d (.lit (List.map e_i64 r155))), (15, .d (.lit (List.map e_i64 r149))), (99, .d (.bool x19))]) (H' := [.box [.d (.lit (List.map e_i64 r122))], .box [.d (.lit (List.map e_i64 r123))]]) (by kernel_rfl) (by kernel_rfl) ?_
                refine oEnd ?_
                refine bSplit 99 (by kernel_rfl) (fun hc => ?_) (fun hc => ?_)
                · refine oCondT (by kernel_rfl) ?_
                  refine oSeq ?_
                  refine oRegion rfl ?_
                  refine oOp (.d (.bool false)) (by kernel_rfl) (by kernel_rfl) (PureV.does (p_assign (by kernel_rfl))) ?_
                  refine oEnd ?_
                  exact oRet (r0 := false) (rv := .d (.bool false)) (B := []) (vs := [.d (.bool false)]) (σ := []) (by kernel_rfl) Try.func6 rfl (.cons _ _ _ _ (.tmp 4 _ (by kernel_rfl)) .nil) (by kernel_rfl) (by kernel_rfl) (by kernel_rfl) (by kernel_rfl) (by decide) (by kernel_rfl) (by kernel_rfl)
                · refine oCondF (by kernel_rfl) ?_
                  refine oSkip ?_
                  refine oSeq ?_
                  refine oSeq ?_
                  refine oRegion rfl ?_
                  refine oOp (.d (.int .i64 1)) (by kernel_rfl) (by kernel_rfl) (PureV.does (p_assign (by kernel_rfl))) ?_
                  refine oEnd ?_
                  refine bJoin ((u0 ([(1, .d (.int .u8 times)), (6, .ptr 0 0), (7, .ptr 1 0), (8, .d (.lit (List.map e_i64 r155))), (15, .d (.lit (List.map e_i64 r149)))]))) ((u0 ([.box [.d (.lit (List.map e_i64 r122))], .box [.d (.lit (List.map e_i64 r123))]]))) Sum.inl (fun s => ?_) (fun hj7 => ?_)
                  · cases s
                    refine bInl ?_
                    refine bU0 ?_
                    refine oView (T' := [(1, .d (.int .u8 times)), (6, .ptr 0 0), (7, .ptr 1 0), (8, .d (.lit (List.map e_i64 r155))), (15, .d (.lit (List.map e_i64 r149)))]) (H' := [.box [.d (.lit (List.map e_i64 r122))], .box [.d (.lit (List.map e_i64 r123))]]) (by kernel_rfl) (by kernel_rfl) ?_
                    refine oSeq ?_
                    refine oRegion rfl ?_
                    refine oOp (.d (.int .u8 times)) (by kernel_rfl) (by kernel_rfl) (PureV.does (p_move (by kernel_rfl))) ?_
                    refine oOp (.d (.int .u8 (Int.tmod times 5))) (by kernel_rfl) (by kernel_rfl) (PureV.does (p_rem (k := .u8) (p := times) (q := 5) (by kernel_rfl) (by kernel_rfl) (by decide) (by kernel_rfl))) ?_
                    refine oOp (.d (.int .i64 (IntKind.wrap .i64 (Int.tmod times 5)))) (by kernel_rfl) (by kernel_rfl) (PureV.does (p_conv (k := .u8) (p := (Int.tmod times 5)) (by kernel_rfl) Try.underlying5 Try.underlying3 (by kernel_rfl))) ?_
                    refine oOp (.d (.int .i64 (IntKind.wrap .i64 (1 + (IntKind.wrap .i64 (Int.tmod times 5)))))) (by kernel_rfl) (by kernel_rfl) (PureV.does (p_int (k := .i64) (p := 1) (q := (IntKind.wrap .i64 (Int.tmod times 5))) (by kernel_rfl) (by kernel_rfl) (by kernel_rfl))) ?_
                    refine oOp (.d (.int .i64 (IntKind.wrap .i64 (1 + (IntKind.wrap .i64 (Int.tmod times 5)))))) (by kernel_rfl) (by kernel_rfl) (PureV.does (p_assign (by kernel_rfl))) ?_
                    refine oEnd ?_
                    refine oSeq ?_
                    refine oRegion rfl ?_
                    refine oOp (.ptr 2 0) (by kernel_rfl) (by kernel_rfl) (k_alloc (H' := [.box [.d (.lit (List.map e_i64 r122))], .box [.d (.lit (List.map e_i64 r123))], .box [.nilc]]) ty28 (by kernel_rfl) (by kernel_rfl)) ?_
                    refine oOp (.ptr 3 0) (by kernel_rfl) (by kernel_rfl) (k_alloc (H' := [.box [.d (.lit (List.map e_i64 r122))], .box [.d (.lit (List.map e_i64 r123))], .box [.nilc], .box [.nilc]]) ty28 (by kernel_rfl) (by kernel_rfl)) ?_
                    refine oEnd ?_
                    refine oSeq ?_
                    refine oSeq ?_
                    refine oRegion rfl ?_
                    refine oOp (.ptr 0 0) (by kernel_rfl) (by kernel_rfl) (PureV.does (k_fieldAddr 0 0 (by kernel_rfl) Try.underlying28 rfl ty22 (by kernel_rfl))) ?_
                    refine oOp (.d (.lit (List.map e_i64 r122))) (by kernel_rfl) (by kernel_rfl) (Quiet.does (k_load 0 0 (by kernel_rfl) Try.underlying22 (by kernel_rfl) (by kernel_rfl))) ?_
                    refine oOp (.d (.int .i64 ((List.length r122) : Int))) (by kernel_rfl) (by kernel_rfl) (PureV.does (k_lenLit (enc := e_i64) r122 (by kernel_rfl) Try.underlying22)) ?_
                    refine oOp (.d (.int .i64 0)) (by kernel_rfl) (by kernel_rfl) (PureV.does (p_move (by kernel_rfl))) ?_
                    refine oEnd ?_
                    refine bJoin ((uc fun (k17 : Int) => (fun (xs8 : (List Int)) => [(6, .ptr 0 0), (7, .ptr 1 0), (8, .d (.lit (List.map e_i64 r155))), (15, .d (.lit (List.map e_i64 r149))), (18, .d (.int .i64 k17)), (19, .ptr 2 0), (20, .ptr 3 0)]))) ((uc fun (k17 : Int) => (fun (xs8 : (List Int)) => [.box [.d (.lit (List.map e_i64 r122))], .box [.d (.lit (List.map e_i64 r123))], .box [.ref 4 (List.length xs8) 0 (List.length xs8)], .box [.nilc], .sl 1 (List.map e_i64 xs8) false]))) (fun s => s) (fun s => ?_) (fun hj8 => ?_)
                    · obtain ⟨k17, xs8⟩ := s
                      refine bUc ?_
                      refine oView (T' := [(6, .ptr 0 0), (7, .ptr 1 0), (8, .d (.lit (List.map e_i64 r155))), (15, .d (.lit (List.map e_i64 r149))), (18, .d (.int .i64 k17)), (19, .ptr 2 0), (20, .ptr 3 0)]) (H' := [.box [.d (.lit (List.map e_i64 r122))], .box [.d (.lit (List.map e_i64 r123))], .box [.ref 4 (List.length xs8) 0 (List.length xs8)], .box [.nilc], .sl 1 (List.map e_i64 xs8) false]) (by kernel_rfl) (by kernel_rfl) ?_
                      refine oSeq ?_
                      refine oSeq ?_
                      refine oRegion rfl ?_
                      refine oOp (.ptr 1 0) (by kernel_rfl) (by kernel_rfl) (PureV.does (k_fieldAddr 1 0 (by kernel_rfl) Try.underlying28 rfl ty22 (by kernel_rfl))) ?_
                      refine oOp (.d (.lit (List.map e_i64 r123))) (by kernel_rfl) (by kernel_rfl) (Quiet.does (k_load 1 0 (by kernel_rfl) Try.underlying22 (by kernel_rfl) (by kernel_rfl))) ?_
                      refine oOp (.d (.int .i64 ((List.length r123) : Int))) (by kernel_rfl) (by kernel_rfl) (PureV.does (k_lenLit (enc := e_i64) r123 (by kernel_rfl) Try.underlying22)) ?_
                      refine oOp (.d (.int .i64 0)) (by kernel_rfl) (by kernel_rfl) (PureV.does (p_move (by kernel_rfl))) ?_
                      refine oEnd ?_
                      refine bJoin ((fun (xs11 : (List Int)) => [(6, .ptr 0 0), (7, .ptr 1 0), (8, .d (.lit (List.map e_i64 r155))), (15, .d (.lit (List.map e_i64 r149))), (19, .ptr 2 0), (20, .ptr 3 0)])) ((fun (xs11 : (List Int)) => [.box [.d (.lit (List.map e_i64 r122))], .box [.d (.lit (List.map e_i64 r123))], .box [.ref 4 (List.length xs8) 0 (List.length xs8)], .box [.ref 5 (List.length xs11) 0 (List.length xs11)], .sl 1 (List.map e_i64 xs8) false, .sl 1 (List.map e_i64 xs11) false])) (fun s => s) (fun xs11 => ?_) (fun hj9 => ?_)
                      · refine oView (T' := [(6, .ptr 0 0), (7, .ptr 1 0), (8, .d (.lit (List.map e_i64 r155))), (15, .d (.lit (List.map e_i64 r149))), (19, .ptr 2 0), (20, .ptr 3 0)]) (H' := [.box [.d (.lit (List.map e_i64 r122))], .box [.d (.lit (List.map e_i64 r123))], .box [.ref 4 (List.length xs8) 0 (List.length xs8)], .box [.ref 5 (List.length xs11) 0 (List.length xs11)], .sl 1 (List.map e_i64 xs8) false, .sl 1 (List.map e_i64 xs11) false]) (by kernel_rfl) (by kernel_rfl) ?_
                        refine oSeq ?_
                        refine oRegion rfl ?_
                        refine oOp (.agg [.ref 4 (List.length xs8) 0 (List.length xs8)]) (by kernel_rfl) (by kernel_rfl) (Quiet.does (k_loadAgg 2 0 (by kernel_rfl) Try.underlying28 (by kernel_rfl) ty28 (by kernel_rfl))) ?_
                        refine oOp (.agg [.d (.lit (List.map e_i64 r123))]) (by kernel_rfl) (by kernel_rfl) (Quiet.does (k_loadAgg 1 0 (by kernel_rfl) Try.underlying28 (by kernel_rfl) ty28 (by kernel_rfl))) ?_
                        refine oOp (.d (.lit (List.map e_i64 r155))) (by kernel_rfl) (by kernel_rfl) (PureV.does (p_move (by kernel_rfl))) ?_
                        refine oFreeze 4 (esz := 1) (xs := List.map e_i64 xs8) (by kernel_rfl) ?_
                        refine oView (H' := [.box [.d (.lit (List.map e_i64 r122))], .box [.d (.lit (List.map e_i64 r123))], .box [.ref 4 (List.length xs8) 0 (List.length xs8)], .box [.ref 5 (List.length xs11) 0 (List.length xs11)], .sl 1 (List.map e_i64 xs8) true, .sl 1 (List.map e_i64 xs11) false]) rfl (by kernel_rfl) ?_
                        refine bCall (caps := []) (v := (uc fun (r1410 : (List Int)) => (fun (r158 : Int) => (.tuple [.d (.lit (List.map e_i64 r1410)), .d (.int .i64 r158)] : V)))) (H' := (uc fun (r1410 : (List Int)) => (fun (r158 : Int) => ([.box [.d (.lit (List.map e_i64 r122))], .box [.d (.lit (List.map e_i64 r123))], .box [.ref 4 (List.length xs8) 0 (List.length xs8)], .box [.ref 5 (List.length xs11) 0 (List.length xs11)], .sl 1 (List.map e_i64 xs8) true, .sl 1 (List.map e_i64 xs11) false] : List Blk)))) [] _ (boundary_Reference_goes k xs8 r123 r155) (by kernel_rfl) (by kernel_rfl) rfl (by kernel_rfl) Try.func23 rfl (by kernel_rfl) (convList (vs0 := [.agg [.ref 4 (List.length xs8) 0 (List.length xs8)], .agg [.d (.lit (List.map e_i64 r123))], .d (.lit (List.map e_i64 r155))]) (vs := [.agg [.d (.lit (List.map e_i64 xs8))], .agg [.d (.lit (List.map e_i64 r123))], .d (.lit (List.map e_i64 r155))]) (by kernel_rfl) (.cons _ _ _ _ (.agg _ _ (.cons _ _ _ _ (k_lit (enc := e_i64) (sz := 1) 4 xs8 (by kernel_rfl)) .nil)) (.cons _ _ _ _ (.same _) (.cons _ _ _ _ (.same _) .nil)))) (by kernel_rfl) (by kernel_rfl) (by kernel_rfl) (by decide) (by kernel_rfl) (by kernel_rfl) (fun _ => (by kernel_rfl)) (fun _ => (by kernel_rfl)) (fun _ => (by kernel_rfl)) (fun r => ?_)
                        obtain ⟨r1410, r158⟩ := r
                        refine bUc ?_
                        refine oOp (.tuple [.d (.lit (List.map e_i64 r1410)), .d (.int .i64 r158)]) (by kernel_rfl) (by kernel_rfl) (PureV.does (p_move (by kernel_rfl))) ?_
                        refine oOp (.d (.lit (List.map e_i64 r1410))) (by kernel_rfl) (by kernel_rfl) (PureV.does (k_extract (by kernel_rfl))) ?_
                        refine oOp (.d (.int .i64 r158)) (by kernel_rfl) (by kernel_rfl) (PureV.does (k_extract (by kernel_rfl))) ?_
                        refine oOp (.d (.lit (List.map e_i64 r1410))) (by kernel_rfl) (by kernel_rfl) (PureV.does (p_assign (by kernel_rfl))) ?_
                        refine oOp (.d (.int .i64 r158)) (by kernel_rfl) (by kernel_rfl) (PureV.does (p_assign (by kernel_rfl))) ?_
                        refine oEnd ?_
                        refine oSeq ?_
                        refine oRegion rfl ?_
                        refine oOp (.agg [.d (.lit (List.map e_i64 r122))]) (by kernel_rfl) (by kernel_rfl) (Quiet.does (k_loadAgg 0 0 (by kernel_rfl) Try.underlying28 (by kernel_rfl) ty28 (by kernel_rfl))) ?_
                        refine oOp (.agg [.ref 5 (List.length xs11) 0 (List.length xs11)]) (by kernel_rfl) (by kernel_rfl) (Quiet.does (k_loadAgg 3 0 (by kernel_rfl) Try.underlying28 (by kernel_rfl) ty28 (by kernel_rfl))) ?_
                        refine oOp (.d (.lit (List.map e_i64 r155))) (by kernel_rfl) (by kernel_rfl) (PureV.does (p_move (by kernel_rfl))) ?_
                        refine oFreeze 5 (esz := 1) (xs := List.map e_i64 xs11) (by kernel_rfl) ?_
                        refine oView (H' := [.box [.d (.lit (List.map e_i64 r122))], .box [.d (.lit (List.map e_i64 r123))], .box [.ref 4 (List.length xs8) 0 (List.length xs8)], .box [.ref 5 (List.length xs11) 0 (List.length xs11)], .sl 1 (List.map e_i64 xs8) true, .sl 1 (List.map e_i64 xs11) true]) rfl (by kernel_rfl) ?_
                        refine bCall (caps := []) (v := (uc fun (r1411 : (List Int)) => (fun (r159 : Int) => (.tuple [.d (.lit (List.map e_i64 r1411)), .d (.int .i64 r159)] : V)))) (H' := (uc fun (r1411 : (List Int)) => (fun (r159 : Int) => ([.box [.d (.lit (List.map e_i64 r122))], .box [.d (.lit (List.map e_i64 r123))], .box [.ref 4 (List.length xs8) 0 (List.length xs8)], .box [.ref 5 (List.length xs11) 0 (List.length xs11)], .sl 1 (List.map e_i64 xs8) true, .sl 1 (List.map e_i64 xs11) true] : List Blk)))) [] _ (boundary_Reference_goes k r122 xs11 r155) (by kernel_rfl) (by kernel_rfl) rfl (by kernel_rfl) Try.func23 rfl (by kernel_rfl) (convList (vs0 := [.agg [.d (.lit (List.map e_i64 r122))], .agg [.ref 5 (List.length xs11) 0 (List.length xs11)], .d (.lit (List.map e_i64 r155))]) (vs := [.agg [.d (.lit (List.map e_i64 r122))], .agg [.d (.lit (List.map e_i64 xs11))], .d (.lit (List.map e_i64 r155))]) (by kernel_rfl) (.cons _ _ _ _ (.same _) (.cons _ _ _ _ (.agg _ _ (.cons _ _ _ _ (k_lit (enc := e_i64) (sz := 1) 5 xs11 (by kernel_rfl)) .nil)) (.cons _ _ _ _ (.same _) .nil)))) (by kernel_rfl) (by kernel_rfl) (by kernel_rfl) (by decide) (by kernel_rfl) (by kernel_rfl) (fun _ => (by kernel_rfl)) (fun _ => (by kernel_rfl)) (fun _ => (by kernel_rfl)) (fun r => ?_)
                        obtain ⟨r1411, r159⟩ := r
                        refine bUc ?_
                        refine oOp (.tuple [.d (.lit (List.map e_i64 r1411)), .d (.int .i64 r159)]) (by kernel_rfl) (by kernel_rfl) (PureV.does (p_move (by kernel_rfl))) ?_
                        refine oOp (.d (.lit (List.map e_i64 r1411))) (by kernel_rfl) (by kernel_rfl) (PureV.does (k_extract (by kernel_rfl))) ?_
                        refine oOp (.d (.int .i64 r159)) (by kernel_rfl) (by kernel_rfl) (PureV.does (k_extract (by kernel_rfl))) ?_
                        refine oOp (.d (.lit (List.map e_i64 r1411))) (by kernel_rfl) (by kernel_rfl) (PureV.does (p_assign (by kernel_rfl))) ?_
                        refine oOp (.d (.int .i64 r159)) (by kernel_rfl) (by kernel_rfl) (PureV.does (p_assign (by kernel_rfl))) ?_
                        refine oEnd ?_
                        refine oSeq ?_
                        refine oRegion rfl ?_
                        refine oOp (.d (.int .i64 r158)) (by kernel_rfl) (by kernel_rfl) (PureV.does (p_move (by kernel_rfl))) ?_
                        refine oOp (.d (.bool (r158 == 0))) (by kernel_rfl) (by kernel_rfl) (PureV.does (p_int (k := .i64) (p := r158) (q := 0) (by kernel_rfl) (by kernel_rfl) (by kernel_rfl))) ?_
                        refine oOp (.d (.bool (r158 == 0))) (by kernel_rfl) (by kernel_rfl) (PureV.does (p_move (by kernel_rfl))) ?_
                        refine bMeetF (H' := []) 3 rfl ((fun (x24 : Bool) => [(15, .d (.lit (List.map e_i64 r149))), (25, .d (.lit (List.map e_i64 r1410))), (27, .d (.lit (List.map e_i64 r1411))), (171, .d (.bool x24))])) (fun x24 => ?_) (fun F hj10 => ?_)
                        · refine oView (T' := [(15, .d (.lit (List.map e_i64 r149))), (25, .d (.lit (List.map e_i64 r1410))), (27, .d (.lit (List.map e_i64 r1411))), (171, .d (.bool x24))]) (H' := []) (by kernel_rfl) (by kernel_rfl) ?_
                          refine oOp (.d (.bool x24)) (by kernel_rfl) (by kernel_rfl) (PureV.does (p_move (by kernel_rfl))) ?_
                          refine bMeet 4 rfl ((fun (x25 : Bool) => [(15, .d (.lit (List.map e_i64 r149))), (27, .d (.lit (List.map e_i64 r1411))), (176, .d (.bool x25))])) ((fun (x25 : Bool) => [])) (fun s => s) (fun x25 => ?_) (fun hj13 => ?_)
                          · refine oView (T' := [(15, .d (.lit (List.map e_i64 r149))), (27, .d (.lit (List.map e_i64 r1411))), (176, .d (.bool x25))]) (H' := []) (by kernel_rfl) (by kernel_rfl) ?_
                            refine oOp (.d (.bool x25)) (by kernel_rfl) (by kernel_rfl) (PureV.does (p_move (by kernel_rfl))) ?_
                            refine bMeet 4 rfl ((fun (x26 : Bool) => [(181, .d (.bool x26))])) ((fun (x26 : Bool) => [])) (fun s => s) (fun x26 => ?_) (fun hj12 => ?_)
                            · refine oView (T' := [(181, .d (.bool x26))]) (H' := []) (by kernel_rfl) (by kernel_rfl) ?_
                              refine oOp (.d (.bool x26)) (by kernel_rfl) (by kernel_rfl) (PureV.does (p_move (by kernel_rfl))) ?_
                              refine bMeet 2 rfl ((fun (x27 : Bool) => [(184, .d (.bool x27))])) ((fun (x27 : Bool) => [])) (fun s => s) (fun x27 => ?_) (fun hj11 => ?_)
                              · refine oView (T' := [(184, .d (.bool x27))]) (H' := []) (by kernel_rfl) (by kernel_rfl) ?_
                                refine oOp (.d (.bool x27)) (by kernel_rfl) (by kernel_rfl) (PureV.does (p_assign (by kernel_rfl))) ?_
                                refine oEnd ?_
                                exact oRet (r0 := x27) (rv := .d (.bool x27)) (B := []) (vs := [.d (.bool x27)]) (σ := []) (by kernel_rfl) Try.func6 rfl (.cons _ _ _ _ (.tmp 4 _ (by kernel_rfl)) .nil) (by kernel_rfl) (by kernel_rfl) (by kernel_rfl) (by kernel_rfl) (by decide) (by kernel_rfl) (by kernel_rfl)
                              · refine bSplit 182 (by kernel_rfl) (fun hc => ?_) (fun hc => ?_)
                                · refine bCall (caps := []) (v := (fun (r1710 : Bool) => (.d (.bool r1710) : V))) (H' := (fun (r1710 : Bool) => ([] : List Blk))) [] _ (law35_sane_goes k ) (by kernel_rfl) (by kernel_rfl) rfl (by kernel_rfl) Try.func8 rfl (by kernel_rfl) (ConvRs.refl _ _) (by kernel_rfl) (by kernel_rfl) (by kernel_rfl) (by decide) (by kernel_rfl) (by kernel_rfl) (fun _ => (by kernel_rfl)) (fun _ => (by kernel_rfl)) (fun _ => (by kernel_rfl)) (fun r1710 => ?_)
                                  refine oOp (.d (.bool r1710)) (by kernel_rfl) (by kernel_rfl) (PureV.does (p_pick (b := true) (by kernel_rfl) (by kernel_rfl))) ?_
                                  refine oHead [184] [] (T' := [(184, .d (.bool r1710))]) (H' := []) (by kernel_rfl) (by kernel_rfl) (by kernel_rfl) (by kernel_rfl) (by decide) (by kernel_rfl) (by kernel_rfl) ?_
                                  exact hj11 r1710
                                · refine oNot (by kernel_rfl) (by kernel_rfl) ?_
                                  refine oOp (.d (.bool false)) (by kernel_rfl) (by kernel_rfl) (PureV.does (p_pick (b := false) (by kernel_rfl) (by kernel_rfl))) ?_
                                  refine oHead [184] [] (T' := [(184, .d (.bool false))]) (H' := []) (by kernel_rfl) (by kernel_rfl) (by kernel_rfl) (by kernel_rfl) (by decide) (by kernel_rfl) (by kernel_rfl) ?_
                                  exact hj11 false
                            · refine bSplit 177 (by kernel_rfl) (fun hc => ?_) (fun hc => ?_)
                              · refine oOp (.d (.lit (List.map e_i64 r1411))) (by kernel_rfl) (by kernel_rfl) (PureV.does (p_move (by kernel_rfl))) ?_
                                refine oOp (.d (.lit (List.map e_i64 r149))) (by kernel_rfl) (by kernel_rfl) (PureV.does (p_move (by kernel_rfl))) ?_
                                refine bCall (caps := []) (v := (fun (r119 : Bool) => (.d (.bool r119) : V))) (H' := (fun (r119 : Bool) => ([] : List Blk))) [] _ (law35_same_goes k r1411 r149) (by kernel_rfl) (by kernel_rfl) rfl (by kernel_rfl) Try.func14 rfl (by kernel_rfl) (ConvRs.refl _ _) (by kernel_rfl) (by kernel_rfl) (by kernel_rfl) (by decide) (by kernel_rfl) (by kernel_rfl) (fun _ => (by kernel_rfl)) (fun _ => (by kernel_rfl)) (fun _ => (by kernel_rfl)) (fun r119 => ?_)
                                refine oOp (.d (.bool r119)) (by kernel_rfl) (by kernel_rfl) (PureV.does (p_pick (b := true) (by kernel_rfl) (by kernel_rfl))) ?_
                                refine oHead [181] [] (T' := [(181, .d (.bool r119))]) (H' := []) (by kernel_rfl) (by kernel_rfl) (by kernel_rfl) (by kernel_rfl) (by decide) (by kernel_rfl) (by kernel_rfl) ?_
                                exact hj12 r119
                              · refine oNot (by kernel_rfl) (by kernel_rfl) ?_
                                refine oNot (by kernel_rfl) (by kernel_rfl) ?_
                                refine oNot (by kernel_rfl) (by kernel_rfl) ?_
                                refine oOp (.d (.bool false)) (by kernel_rfl) (by kernel_rfl) (PureV.does (p_pick (b := false) (by kernel_rfl) (by kernel_rfl))) ?_
                                refine oHead [181] [] (T' := [(181, .d (.bool false))]) (H' := []) (by kernel_rfl) (by kernel_rfl) (by kernel_rfl) (by kernel_rfl) (by decide) (by kernel_rfl) (by kernel_rfl) ?_
                                exact hj12 false
                          · refine bSplit 172 (by kernel_rfl) (fun hc => ?_) (fun hc => ?_)
                            · refine oOp (.d (.lit (List.map e_i64 r1410))) (by kernel_rfl) (by kernel_rfl) (PureV.does (p_move (by kernel_rfl))) ?_
                              refine oOp (.d (.lit (List.map e_i64 r149))) (by kernel_rfl) (by kernel_rfl) (PureV.does (p_move (by kernel_rfl))) ?_
                              refine bCall (caps := []) (v := (fun (r120 : Bool) => (.d (.bool r120) : V))) (H' := (fun (r120 : Bool) => ([] : List Blk))) [] _ (law35_same_goes k r1410 r149) (by kernel_rfl) (by kernel_rfl) rfl (by kernel_rfl) Try.func14 rfl (by kernel_rfl) (ConvRs.refl _ _) (by kernel_rfl) (by kernel_rfl) (by kernel_rfl) (by decide) (by kernel_rfl) (by kernel_rfl) (fun _ => (by kernel_rfl)) (fun _ => (by kernel_rfl)) (fun _ => (by kernel_rfl)) (fun r120 => ?_)
                              refine oOp (.d (.bool r120)) (by kernel_rfl) (by kernel_rfl) (PureV.does (p_pick (b := true) (by kernel_rfl) (by kernel_rfl))) ?_
                              refine oHead [15, 27, 176] [] (T' := [(15, .d (.lit (List.map e_i64 r149))), (27, .d (.lit (List.map e_i64 r1411))), (176, .d (.bool r120))]) (H' := []) (by kernel_rfl) (by kernel_rfl) (by kernel_rfl) (by kernel_rfl) (by decide) (by kernel_rfl) (by kernel_rfl) ?_
                              exact hj13 r120
                            · refine oNot (by kernel_rfl) (by kernel_rfl) ?_
                              refine oNot (by kernel_rfl) (by kernel_rfl) ?_
                              refine oNot (by kernel_rfl) (by kernel_rfl) ?_
                              refine oOp (.d (.bool false)) (by kernel_rfl) (by kernel_rfl) (PureV.does (p_pick (b := false) (by kernel_rfl) (by kernel_rfl))) ?_
                              refine oHead [15, 27, 176] [] (T' := [(15, .d (.lit (List.map e_i64 r149))), (27, .d (.lit (List.map e_i64 r1411))), (176, .d (.bool false))]) (H' := []) (by kernel_rfl) (by kernel_rfl) (by kernel_rfl) (by kernel_rfl) (by decide) (by kernel_rfl) (by kernel_rfl) ?_
                              exact hj13 false
                        · refine bPickF 168 (fun c => F (c && (r159 == 0))) (by kernel_rfl) (fun hc => ?_) (fun hc => ?_)
                          · refine oOp (.d (.int .i64 r159)) (by kernel_rfl) (by kernel_rfl) (PureV.does (p_move (by kernel_rfl))) ?_
                            refine oOp (.d (.bool (r159 == 0))) (by kernel_rfl) (by kernel_rfl) (PureV.does (p_int (k := .i64) (p := r159) (q := 0) (by kernel_rfl) (by kernel_rfl) (by kernel_rfl))) ?_
                            refine oOp (.d (.bool (r159 == 0))) (by kernel_rfl) (by kernel_rfl) (PureV.does (p_pick (b := true) (by kernel_rfl) (by kernel_rfl))) ?_
                            refine oHead [15, 25, 27, 171] [] (T' := [(15, .d (.lit (List.map e_i64 r149))), (25, .d (.lit (List.map e_i64 r1410))), (27, .d (.lit (List.map e_i64 r1411))), (171, .d (.bool (r159 == 0)))]) (H' := []) (by kernel_rfl) (by kernel_rfl) (by kernel_rfl) (by kernel_rfl) (by decide) (by kernel_rfl) (by kernel_rfl) ?_
                            exact hj10 (r159 == 0)
                          · refine oNot (by kernel_rfl) (by kernel_rfl) ?_
                            refine oNot (by kernel_rfl) (by kernel_rfl) ?_
                            refine oOp (.d (.bool false)) (by kernel_rfl) (by kernel_rfl) (PureV.does (p_pick (b := false) (by kernel_rfl) (by kernel_rfl))) ?_
                            refine oHead [15, 25, 27, 171] [] (T' := [(15, .d (.lit (List.map e_i64 r149))), (25, .d (.lit (List.map e_i64 r1410))), (27, .d (.lit (List.map e_i64 r1411))), (171, .d (.bool false))]) (H' := []) (by kernel_rfl) (by kernel_rfl) (by kernel_rfl) (by kernel_rfl) (by decide) (by kernel_rfl) (by kernel_rfl) ?_
                            exact hj10 false
                      · refine oBlock ?_
                        refine oLoop ?_
                        refine oVirtB (esz := 1) 3 0 (cells := [.nilc]) (by kernel_rfl) (by kernel_rfl) ?_
                        refine oView (H' := [.box [.d (.lit (List.map e_i64 r122))], .box [.d (.lit (List.map e_i64 r123))], .box [.ref 4 (List.length xs8) 0 (List.length xs8)], .box [.ref 5 (List.length ([] : List Int)) 0 (List.length ([] : List Int))], .sl 1 (List.map e_i64 xs8) false, .sl 1 (List.map e_i64 ([] : List Int)) false]) rfl (by kernel_rfl) ?_
                        refine oHead [6, 7, 8, 15, 18, 19, 20, 137, 138, 139] [0, 1, 2, 3, 4, 5] (T' := [(6, .ptr 0 0), (7, .ptr 1 0), (8, .d (.lit (List.map e_i64 r155))), (15, .d (.lit (List.map e_i64 r149))), (18, .d (.int .i64 k17)), (19, .ptr 2 0), (20, .ptr 3 0), (137, .d (.lit (List.map e_i64 r123))), (138, .d (.int .i64 ((List.length r123) : Int))), (139, .d (.int .i64 0))]) (H' := [.box [.d (.lit (List.map e_i64 r122))], .box [.d (.lit (List.map e_i64 r123))], .box [.ref 4 (List.length xs8) 0 (List.length xs8)], .box [.ref 5 (List.length ([] : List Int)) 0 (List.length ([] : List Int))], .sl 1 (List.map e_i64 xs8) false, .sl 1 (List.map e_i64 ([] : List Int)) false]) (by kernel_rfl) (by kernel_rfl) (by kernel_rfl) (by kernel_rfl) (by decide) (by kernel_rfl) (by kernel_rfl) ?_
                        refine bLoop (body := law35_BoundaryReference_b1 k r123 k17) ((uc fun (x28 : Int) => (fun (xs12 : (List Int)) => [(6, .ptr 0 0), (7, .ptr 1 0), (8, .d (.lit (List.map e_i64 r155))), (15, .d (.lit (List.map e_i64 r149))), (18, .d (.int .i64 k17)), (19, .ptr 2 0), (20, .ptr 3 0), (137, .d (.lit (List.map e_i64 r123))), (138, .d (.int .i64 ((List.length r123) : Int))), (139, .d (.int .i64 x28))]))) ((uc fun (x28 : Int) => (fun (xs12 : (List Int)) => [.box [.d (.lit (List.map e_i64 r122))], .box [.d (.lit (List.map e_i64 r123))], .box [.ref 4 (List.length xs8) 0 (List.length xs8)], .box [.ref 5 (List.length xs12) 0 (List.length xs12)], .sl 1 (List.map e_i64 xs8) false, .sl 1 (List.map e_i64 xs12) false]))) (fun again hag1 s => ?_) k (0, ([] : List Int))
                        · unfold law35_BoundaryReference_b1
                          obtain ⟨x28, xs12⟩ := s
                          refine bUc ?_
                          refine oView (T' := [(6, .ptr 0 0), (7, .ptr 1 0), (8, .d (.lit (List.map e_i64 r155))), (15, .d (.lit (List.map e_i64 r149))), (18, .d (.int .i64 k17)), (19, .ptr 2 0), (20, .ptr 3 0), (137, .d (.lit (List.map e_i64 r123))), (138, .d (.int .i64 ((List.length r123) : Int))), (139, .d (.int .i64 x28))]) (H' := [.box [.d (.lit (List.map e_i64 r122))], .box [.d (.lit (List.map e_i64 r123))], .box [.ref 4 (List.length xs8) 0 (List.length xs8)], .box [.ref 5 (List.length xs12) 0 (List.length xs12)], .sl 1 (List.map e_i64 xs8) false, .sl 1 (List.map e_i64 xs12) false]) (by kernel_rfl) (by kernel_rfl) ?_
                          refine oSeq ?_
                          refine oRegion rfl ?_
                          refine oOp (.d (.bool (decide (x28 < ((List.length r123) : Int))))) (by kernel_rfl) (by kernel_rfl) (PureV.does (p_int (k := .i64) (p := x28) (q := ((List.length r123) : Int)) (by kernel_rfl) (by kernel_rfl) (by kernel_rfl))) ?_
                          refine oEnd ?_
                          refine oSeq ?_
                          refine bSplit 140 (by kernel_rfl) (fun hc => ?_) (fun hc => ?_)
                          · refine oCondT (by kernel_rfl) ?_
                            refine oSkip ?_
                            refine oSeq ?_
                            refine oBlock ?_
                            refine oSeq ?_
                            refine oRegion rfl ?_
                            refine bIdx (fun e123 h167 h168 => ?_)
                            refine oOp (.lptr (e_i64 e123) 0) (by kernel_rfl) (by kernel_rfl) (PureV.does (k_idxLit e_i64_len r123 (a := e123) (by kernel_rfl) (k := .i64) (i := x28) (by kernel_rfl) Try.underlying22 ty3 h167 h168)) ?_
                            refine oOp (.d (.int .i64 e123)) (by kernel_rfl) (by kernel_rfl) (Quiet.does (k_loadL (cells := e_i64 e123) 0 (by kernel_rfl) Try.underlying3 (by kernel_rfl) (by kernel_rfl))) ?_
                            refine oOp (.d (.int .i64 e123)) (by kernel_rfl) (by kernel_rfl) (PureV.does (p_assign (by kernel_rfl))) ?_
                            refine oEnd ?_
                            refine oRegion rfl ?_
                            refine oOp (.ptr 3 0) (by kernel_rfl) (by kernel_rfl) (PureV.does (k_fieldAddr 3 0 (by kernel_rfl) Try.underlying28 rfl ty22 (by kernel_rfl))) ?_
                            refine oOp (.ref 5 (List.length xs12) 0 (List.length xs12)) (by kernel_rfl) (by kernel_rfl) (Quiet.does (k_load 3 0 (by kernel_rfl) Try.underlying22 (by kernel_rfl) (by kernel_rfl))) ?_
                            refine oOp (.d (.int .i64 e123)) (by kernel_rfl) (by kernel_rfl) (PureV.does (p_move (by kernel_rfl))) ?_
                            refine oOp (.d (.int .i64 k17)) (by kernel_rfl) (by kernel_rfl) (PureV.does (p_move (by kernel_rfl))) ?_
                            refine oOp (.d (.int .i64 (IntKind.wrap .i64 (e123 * k17)))) (by kernel_rfl) (by kernel_rfl) (PureV.does (p_int (k := .i64) (p := e123) (q := k17) (by kernel_rfl) (by kernel_rfl) (by kernel_rfl))) ?_
                            refine oOp (.ref 6 (List.length ([(IntKind.wrap .i64 (e123 * k17))] : List Int)) 0 (List.length ([(IntKind.wrap .i64 (e123 * k17))] : List Int))) (by kernel_rfl) (by kernel_rfl) (k_buildSlice (H' := [.box [.d (.lit (List.map e_i64 r122))], .box [.d (.lit (List.map e_i64 r123))], .box [.ref 4 (List.length xs8) 0 (List.length xs8)], .box [.ref 5 (List.length xs12) 0 (List.length xs12)], .sl 1 (List.map e_i64 xs8) false, .sl 1 (List.map e_i64 xs12) false, .sl 1 (List.map e_i64 ([(IntKind.wrap .i64 (e123 * k17))] : List Int)) false]) (List.map e_i64 ([(IntKind.wrap .i64 (e123 * k17))] : List Int)) Try.underlying22 ty3 (by kernel_rfl) (by kernel_rfl) (by kernel_rfl)) ?_
                            refine bCap (fun h169 => ?_)
                            refine oOp (.ref 5 (List.length (xs12 ++ ([(IntKind.wrap .i64 (e123 * k17))] : List Int))) 0 (List.length (xs12 ++ ([(IntKind.wrap .i64 (e123 * k17))] : List Int)))) (by kernel_rfl) (by kernel_rfl) (k_append (H' := [.box [.d (.lit (List.map e_i64 r122))], .box [.d (.lit (List.map e_i64 r123))], .box [.ref 4 (List.length xs8) 0 (List.length xs8)], .box [.ref 5 (List.length xs12) 0 (List.length xs12)], .sl 1 (List.map e_i64 xs8) false, .sl 1 (List.map e_i64 (xs12 ++ ([(IntKind.wrap .i64 (e123 * k17))] : List Int))) false, .sl 1 (List.map e_i64 ([(IntKind.wrap .i64 (e123 * k17))] : List Int)) false]) (enc := e_i64) 5 xs12 ([(IntKind.wrap .i64 (e123 * k17))] : List Int) Try.underlying22 Try.underlying22 ty3 (by kernel_rfl) (by kernel_rfl) (by kernel_rfl) (holdsRef (enc := e_i64) 6 ([(IntKind.wrap .i64 (e123 * k17))] : List Int) false (by kernel_rfl) (by kernel_rfl)) h169 (by kernel_rfl)) ?_
                            refine oOp (.ptr 3 0) (by kernel_rfl) (by kernel_rfl) (PureV.does (k_fieldAddr 3 0 (by kernel_rfl) Try.underlying28 rfl ty22 (by kernel_rfl))) ?_
                            refine oOp (.undef) (by kernel_rfl) (by kernel_rfl) (k_store (vs := [.ref 5 (List.length (xs12 ++ ([(IntKind.wrap .i64 (e123 * k17))] : List Int))) 0 (List.length (xs12 ++ ([(IntKind.wrap .i64 (e123 * k17))] : List Int)))]) (H' := [.box [.d (.lit (List.map e_i64 r122))], .box [.d (.lit (List.map e_i64 r123))], .box [.ref 4 (List.length xs8) 0 (List.length xs8)], .box [.ref 5 (List.length (xs12 ++ ([(IntKind.wrap .i64 (e123 * k17))] : List Int))) 0 (List.length (xs12 ++ ([(IntKind.wrap .i64 (e123 * k17))] : List Int)))], .sl 1 (List.map e_i64 xs8) false, .sl 1 (List.map e_i64 (xs12 ++ ([(IntKind.wrap .i64 (e123 * k17))] : List Int))) false, .sl 1 (List.map e_i64 ([(IntKind.wrap .i64 (e123 * k17))] : List Int)) false]) 3 0 (by kernel_rfl) ty22 (by kernel_rfl) (by kernel_rfl) (by kernel_rfl)) ?_
                            refine oEnd ?_
                            refine oBlk ?_
                            refine oRegion rfl ?_
                            refine oOp (.d (.int .i64 (IntKind.wrap .i64 (x28 + 1)))) (by kernel_rfl) (by kernel_rfl) (PureV.does (p_int (k := .i64) (p := x28) (q := 1) (by kernel_rfl) (by kernel_rfl) (by kernel_rfl))) ?_
                            refine oOp (.d (.int .i64 (IntKind.wrap .i64 (x28 + 1)))) (by kernel_rfl) (by kernel_rfl) (PureV.does (p_move (by kernel_rfl))) ?_
                            refine oEnd ?_
                            refine oAgain ?_
                            refine oHead [6, 7, 8, 15, 18, 19, 20, 137, 138, 139] [0, 1, 2, 3, 4, 5] (T' := [(6, .ptr 0 0), (7, .ptr 1 0), (8, .d (.lit (List.map e_i64 r155))), (15, .d (.lit (List.map e_i64 r149))), (18, .d (.int .i64 k17)), (19, .ptr 2 0), (20, .ptr 3 0), (137, .d (.lit (List.map e_i64 r123))), (138, .d (.int .i64 ((List.length r123) : Int))), (139, .d (.int .i64 (IntKind.wrap .i64 (x28 + 1))))]) (H' := [.box [.d (.lit (List.map e_i64 r122))], .box [.d (.lit (List.map e_i64 r123))], .box [.ref 4 (List.length xs8) 0 (List.length xs8)], .box [.ref 5 (List.length (xs12 ++ ([(IntKind.wrap .i64 (e123 * k17))] : List Int))) 0 (List.length (xs12 ++ ([(IntKind.wrap .i64 (e123 * k17))] : List Int)))], .sl 1 (List.map e_i64 xs8) false, .sl 1 (List.map e_i64 (xs12 ++ ([(IntKind.wrap .i64 (e123 * k17))] : List Int))) false]) (by kernel_rfl) (by kernel_rfl) (by kernel_rfl) (by kernel_rfl) (by decide) (by kernel_rfl) (by kernel_rfl) ?_
                            exact hag1 ((IntKind.wrap .i64 (x28 + 1)), (xs12 ++ ([(IntKind.wrap .i64 (e123 * k17))] : List Int)))
                          · refine oCondF (by kernel_rfl) ?_
                            refine oExit rfl ?_
                            refine oHead [6, 7, 8, 15, 19, 20] [0, 1, 2, 3, 4, 5] (T' := [(6, .ptr 0 0), (7, .ptr 1 0), (8, .d (.lit (List.map e_i64 r155))), (15, .d (.lit (List.map e_i64 r149))), (19, .ptr 2 0), (20, .ptr 3 0)]) (H' := [.box [.d (.lit (List.map e_i64 r122))], .box [.d (.lit (List.map e_i64 r123))], .box [.ref 4 (List.length xs8) 0 (List.length xs8)], .box [.ref 5 (List.length xs12) 0 (List.length xs12)], .sl 1 (List.map e_i64 xs8) false, .sl 1 (List.map e_i64 xs12) false]) (by kernel_rfl) (by kernel_rfl) (by kernel_rfl) (by kernel_rfl) (by decide) (by kernel_rfl) (by kernel_rfl) ?_
                            exact hj9 xs12
                    · refine oBlock ?_
                      refine oLoop ?_
                      refine oVirtB (esz := 1) 2 0 (cells := [.nilc]) (by kernel_rfl) (by kernel_rfl) ?_
                      refine oView (H' := [.box [.d (.lit (List.map e_i64 r122))], .box [.d (.lit (List.map e_i64 r123))], .box [.ref 4 (List.length ([] : List Int)) 0 (List.length ([] : List Int))], .box [.nilc], .sl 1 (List.map e_i64 ([] : List Int)) false]) rfl (by kernel_rfl) ?_
                      refine oHead [6, 7, 8, 15, 18, 19, 20, 121, 122, 123] [0, 1, 2, 3, 4] (T' := [(6, .ptr 0 0), (7, .ptr 1 0), (8, .d (.lit (List.map e_i64 r155))), (15, .d (.lit (List.map e_i64 r149))), (18, .d (.int .i64 (IntKind.wrap .i64 (1 + (IntKind.wrap .i64 (Int.tmod times 5)))))), (19, .ptr 2 0), (20, .ptr 3 0), (121, .d (.lit (List.map e_i64 r122))), (122, .d (.int .i64 ((List.length r122) : Int))), (123, .d (.int .i64 0))]) (H' := [.box [.d (.lit (List.map e_i64 r122))], .box [.d (.lit (List.map e_i64 r123))], .box [.ref 4 (List.length ([] : List Int)) 0 (List.length ([] : List Int))], .box [.nilc], .sl 1 (List.map e_i64 ([] : List Int)) false]) (by kernel_rfl) (by kernel_rfl) (by kernel_rfl) (by kernel_rfl) (by decide) (by kernel_rfl) (by kernel_rfl) ?_
                      refine bLoop (body := law35_BoundaryReference_b2 k r122) ((uc fun (k19 : Int) => (uc fun (x30 : Int) => (fun (xs14 : (List Int)) => [(6, .ptr 0 0), (7, .ptr 1 0), (8, .d (.lit (List.map e_i64 r155))), (15, .d (.lit (List.map e_i64 r149))), (18, .d (.int .i64 k19)), (19, .ptr 2 0), (20, .ptr 3 0), (121, .d (.lit (List.map e_i64 r122))), (122, .d (.int .i64 ((List.length r122) : Int))), (123, .d (.int .i64 x30))])))) ((uc fun (k19 : Int) => (uc fun (x30 : Int) => (fun (xs14 : (List Int)) => [.box [.d (.lit (List.map e_i64 r122))], .box [.d (.lit (List.map e_i64 r123))], .box [.ref 4 (List.length xs14) 0 (List.length xs14)], .box [.nilc], .sl 1 (List.map e_i64 xs14) false])))) (fun again hag2 s => ?_) k ((IntKind.wrap .i64 (1 + (IntKind.wrap .i64 (Int.tmod times 5)))), 0, ([] : List Int))
                      · unfold law35_BoundaryReference_b2
                        obtain ⟨k19, x30, xs14⟩ := s
                        refine bUc ?_
                        refine bUc ?_
                        refine oView (T' := [(6, .ptr 0 0), (7, .ptr 1 0), (8, .d (.lit (List.map e_i64 r155))), (15, .d (.lit (List.map e_i64 r149))), (18, .d (.int .i64 k19)), (19, .ptr 2 0), (20, .ptr 3 0), (121, .d (.lit (List.map e_i64 r122))), (122, .d (.int .i64 ((List.length r122) : Int))), (123, .d (.int .i64 x30))]) (H' := [.box [.d (.lit (List.map e_i64 r122))], .box [.d (.lit (List.map e_i64 r123))], .box [.ref 4 (List.length xs14) 0 (List.length xs14)], .box [.nilc], .sl 1 (List.map e_i64 xs14) false]) (by kernel_rfl) (by kernel_rfl) ?_
                        refine oSeq ?_
                        refine oRegion rfl ?_
                        refine oOp (.d (.bool (decide (x30 < ((List.length r122) : Int))))) (by kernel_rfl) (by kernel_rfl) (PureV.does (p_int (k := .i64) (p := x30) (q := ((List.length r122) : Int)) (by kernel_rfl) (by kernel_rfl) (by kernel_rfl))) ?_
                        refine oEnd ?_
                        refine oSeq ?_
                        refine bSplit 124 (by kernel_rfl) (fun hc => ?_) (fun hc => ?_)
                        · refine oCondT (by kernel_rfl) ?_
                          refine oSkip ?_
                          refine oSeq ?_
                          refine oBlock ?_
                          refine oSeq ?_
                          refine oRegion rfl ?_
                          refine bIdx (fun e129 h185 h186 => ?_)
                          refine oOp (.lptr (e_i64 e129) 0) (by kernel_rfl) (by kernel_rfl) (PureV.does (k_idxLit e_i64_len r122 (a := e129) (by kernel_rfl) (k := .i64) (i := x30) (by kernel_rfl) Try.underlying22 ty3 h185 h186)) ?_
                          refine oOp (.d (.int .i64 e129)) (by kernel_rfl) (by kernel_rfl) (Quiet.does (k_loadL (cells := e_i64 e129) 0 (by kernel_rfl) Try.underlying3 (by kernel_rfl) (by kernel_rfl))) ?_
                          refine oOp (.d (.int .i64 e129)) (by kernel_rfl) (by kernel_rfl) (PureV.does (p_assign (by kernel_rfl))) ?_
                          refine oEnd ?_
                          refine oRegion rfl ?_
                          refine oOp (.ptr 2 0) (by kernel_rfl) (by kernel_rfl) (PureV.does (k_fieldAddr 2 0 (by kernel_rfl) Try.underlying28 rfl ty22 (by kernel_rfl))) ?_
                          refine oOp (.ref 4 (List.length xs14) 0 (List.length xs14)) (by kernel_rfl) (by kernel_rfl) (Quiet.does (k_load 2 0 (by kernel_rfl) Try.underlying22 (by kernel_rfl) (by kernel_rfl))) ?_
                          refine oOp (.d (.int .i64 e129)) (by kernel_rfl) (by kernel_rfl) (PureV.does (p_move (by kernel_rfl))) ?_
                          refine oOp (.d (.int .i64 k19)) (by kernel_rfl) (by kernel_rfl) (PureV.does (p_move (by kernel_rfl))) ?_
                          refine oOp (.d (.int .i64 (IntKind.wrap .i64 (e129 * k19)))) (by kernel_rfl) (by kernel_rfl) (PureV.does (p_int (k := .i64) (p := e129) (q := k19) (by kernel_rfl) (by kernel_rfl) (by kernel_rfl))) ?_
                          refine oOp (.ref 5 (List.length ([(IntKind.wrap .i64 (e129 * k19))] : List Int)) 0 (List.length ([(IntKind.wrap .i64 (e129 * k19))] : List Int))) (by kernel_rfl) (by kernel_rfl) (k_buildSlice (H' := [.box [.d (.lit (List.map e_i64 r122))], .box [.d (.lit (List.map e_i64 r123))], .box [.ref 4 (List.length xs14) 0 (List.length xs14)], .box [.nilc], .sl 1 (List.map e_i64 xs14) false, .sl 1 (List.map e_i64 ([(IntKind.wrap .i64 (e129 * k19))] : List Int)) false]) (List.map e_i64 ([(IntKind.wrap .i64 (e129 * k19))] : List Int)) Try.underlying22 ty3 (by kernel_rfl) (by kernel_rfl) (by kernel_rfl)) ?_
                          refine bCap (fun h187 => ?_)
                          refine oOp (.ref 4 (List.length (xs14 ++ ([(IntKind.wrap .i64 (e129 * k19))] : List Int))) 0 (List.length (xs14 ++ ([(IntKind.wrap .i64 (e129 * k19))] : List Int)))) (by kernel_rfl) (by kernel_rfl) (k_append (H' := [.box [.d (.lit (List.map e_i64 r122))], .box [.d (.lit (List.map e_i64 r123))], .box [.ref 4 (List.length xs14) 0 (List.length xs14)], .box [.nilc], .sl 1 (List.map e_i64 (xs14 ++ ([(IntKind.wrap .i64 (e129 * k19))] : List Int))) false, .sl 1 (List.map e_i64 ([(IntKind.wrap .i64 (e129 * k19))] : List Int)) false]) (enc := e_i64) 4 xs14 ([(IntKind.wrap .i64 (e129 * k19))] : List Int) Try.underlying22 Try.underlying22 ty3 (by kernel_rfl) (by kernel_rfl) (by kernel_rfl) (holdsRef (enc := e_i64) 5 ([(IntKind.wrap .i64 (e129 * k19))] : List Int) false (by kernel_rfl) (by kernel_rfl)) h187 (by kernel_rfl)) ?_
                          refine oOp (.ptr 2 0) (by kernel_rfl) (by kernel_rfl) (PureV.does (k_fieldAddr 2 0 (by kernel_rfl) Try.underlying28 rfl ty22 (by kernel_rfl))) ?_
                          refine oOp (.undef) (by kernel_rfl) (by kernel_rfl) (k_store (vs := [.ref 4 (List.length (xs14 ++ ([(IntKind.wrap .i64 (e129 * k19))] : List Int))) 0 (List.length (xs14 ++ ([(IntKind.wrap .i64 (e129 * k19))] : List Int)))]) (H' := [.box [.d (.lit (List.map e_i64 r122))], .box [.d (.lit (List.map e_i64 r123))], .box [.ref 4 (List.length (xs14 ++ ([(IntKind.wrap .i64 (e129 * k19))] : List Int))) 0 (List.length (xs14 ++ ([(IntKind.wrap .i64 (e129 * k19))] : List Int)))], .box [.nilc], .sl 1 (List.map e_i64 (xs14 ++ ([(IntKind.wrap .i64 (e129 * k19))] : List Int))) false, .sl 1 (List.map e_i64 ([(IntKind.wrap .i64 (e129 * k19))] : List Int)) false]) 2 0 (by kernel_rfl) ty22 (by kernel_rfl) (by kernel_rfl) (by kernel_rfl)) ?_
                          refine oEnd ?_
                          refine oBlk ?_
                          refine oRegion rfl ?_
                          refine oOp (.d (.int .i64 (IntKind.wrap .i64 (x30 + 1)))) (by kernel_rfl) (by kernel_rfl) (PureV.does (p_int (k := .i64) (p := x30) (q := 1) (by kernel_rfl) (by kernel_rfl) (by kernel_rfl))) ?_
                          refine oOp (.d (.int .i64 (IntKind.wrap .i64 (x30 + 1)))) (by kernel_rfl) (by kernel_rfl) (PureV.does (p_move (by kernel_rfl))) ?_
                          refine oEnd ?_
                          refine oAgain ?_
                          refine oHead [6, 7, 8, 15, 18, 19, 20, 121, 122, 123] [0, 1, 2, 3, 4] (T' := [(6, .ptr 0 0), (7, .ptr 1 0), (8, .d (.lit (List.map e_i64 r155))), (15, .d (.lit (List.map e_i64 r149))), (18, .d (.int .i64 k19)), (19, .ptr 2 0), (20, .ptr 3 0), (121, .d (.lit (List.map e_i64 r122))), (122, .d (.int .i64 ((List.length r122) : Int))), (123, .d (.int .i64 (IntKind.wrap .i64 (x30 + 1))))]) (H' := [.box [.d (.lit (List.map e_i64 r122))], .box [.d (.lit (List.map e_i64 r123))], .box [.ref 4 (List.length (xs14 ++ ([(IntKind.wrap .i64 (e129 * k19))] : List Int))) 0 (List.length (xs14 ++ ([(IntKind.wrap .i64 (e129 * k19))] : List Int)))], .box [.nilc], .sl 1 (List.map e_i64 (xs14 ++ ([(IntKind.wrap .i64 (e129 * k19))] : List Int))) false]) (by kernel_rfl) (by kernel_rfl) (by kernel_rfl) (by kernel_rfl) (by decide) (by kernel_rfl) (by kernel_rfl) ?_
                          exact hag2 (k19, (IntKind.wrap .i64 (x30 + 1)), (xs14 ++ ([(IntKind.wrap .i64 (e129 * k19))] : List Int)))
                        · refine oCondF (by kernel_rfl) ?_
                          refine oExit rfl ?_
                          refine oHead [6, 7, 8, 15, 18, 19, 20] [0, 1, 2, 3, 4] (T' := [(6, .ptr 0 0), (7, .ptr 1 0), (8, .d (.lit (List.map e_i64 r155))), (15, .d (.lit (List.map e_i64 r149))), (18, .d (.int .i64 k19)), (19, .ptr 2 0), (20, .ptr 3 0)]) (H' := [.box [.d (.lit (List.map e_i64 r122))], .box [.d (.lit (List.map e_i64 r123))], .box [.ref 4 (List.length xs14) 0 (List.length xs14)], .box [.nilc], .sl 1 (List.map e_i64 xs14) false]) (by kernel_rfl) (by kernel_rfl) (by kernel_rfl) (by kernel_rfl) (by decide) (by kernel_rfl) (by kernel_rfl) ?_
                          exact hj8 (k19, xs14)
                  · refine oBlock ?_
                    refine oLoop ?_
                    refine oHead [1, 6, 7, 8, 15, 17] [0, 1] (T' := [(1, .d (.int .u8 times)), (6, .ptr 0 0), (7, .ptr 1 0), (8, .d (.lit (List.map e_i64 r155))), (15, .d (.lit (List.map e_i64 r149))), (17, .d (.int .i64 1))]) (H' := [.box [.d (.lit (List.map e_i64 r122))], .box [.d (.lit (List.map e_i64 r123))]]) (by kernel_rfl) (by kernel_rfl) (by kernel_rfl) (by kernel_rfl) (by decide) (by kernel_rfl) (by kernel_rfl) ?_
                    refine bLoop (body := law35_BoundaryReference_b3 k r149) ((fun (i4 : Int) => [(1, .d (.int .u8 times)), (6, .ptr 0 0), (7, .ptr 1 0), (8, .d (.lit (List.map e_i64 r155))), (15, .d (.lit (List.map e_i64 r149))), (17, .d (.int .i64 i4))])) ((fun (i4 : Int) => [.box [.d (.lit (List.map e_i64 r122))], .box [.d (.lit (List.map e_i64 r123))]])) (fun again hag3 i4 => ?_) k 1
                    · unfold law35_BoundaryReference_b3
                      refine oView (T' := [(1, .d (.int .u8 times)), (6, .ptr 0 0), (7, .ptr 1 0), (8, .d (.lit (List.map e_i64 r155))), (15, .d (.lit (List.map e_i64 r149))), (17, .d (.int .i64 i4))]) (H' := [.box [.d (.lit (List.map e_i64 r122))], .box [.d (.lit (List.map e_i64 r123))]]) (by kernel_rfl) (by kernel_rfl) ?_
                      refine oSeq ?_
                      refine oSeq ?_
                      refine oRegion rfl ?_
                      refine oOp (.d (.int .i64 i4)) (by kernel_rfl) (by kernel_rfl) (PureV.does (p_move (by kernel_rfl))) ?_
                      refine oOp (.d (.lit (List.map e_i64 r149))) (by kernel_rfl) (by kernel_rfl) (PureV.does (p_move (by kernel_rfl))) ?_
                      refine oOp (.d (.int .i64 ((List.length r149) : Int))) (by kernel_rfl) (by kernel_rfl) (PureV.does (k_lenLit (enc := e_i64) r149 (by kernel_rfl) Try.underlying22)) ?_
                      refine oOp (.d (.bool (decide (i4 < ((List.length r149) : Int))))) (by kernel_rfl) (by kernel_rfl) (PureV.does (p_int (k := .i64) (p := i4) (q := ((List.length r149) : Int)) (by kernel_rfl) (by kernel_rfl) (by kernel_rfl))) ?_
                      refine oEnd ?_
                      refine bSplit 103 (by kernel_rfl) (fun hc => ?_) (fun hc => ?_)
                      · refine oCondT (by kernel_rfl) ?_
                        refine oSkip ?_
                        refine oSeq ?_
                        refine oBlock ?_
                        refine oSeq ?_
                        refine oDraw [(0, 10), (1, 10)] rfl ?_
                        refine aTakeL (i := 0) (st' := []) (.d (.lit (List.map e_i64 r149))) rfl (by kernel_rfl) (by kernel_rfl) (by kernel_rfl) (by kernel_rfl) (by kernel_rfl) (by kernel_rfl) (by kernel_rfl) (PureV.quiet (p_move (by kernel_rfl)) []) ?_
                        refine aTakeL (i := 1) (st' := []) (.d (.int .i64 i4)) rfl (by kernel_rfl) (by kernel_rfl) (by kernel_rfl) (by kernel_rfl) (by kernel_rfl) (by kernel_rfl) (by kernel_rfl) (PureV.quiet (p_move (by kernel_rfl)) []) ?_
                        refine dIdx (fun e1 h1 h11 => ?_)
                        refine aTakeL (i := 2) (st' := []) (.lptr (e_i64 e1) 0) rfl (by kernel_rfl) (by kernel_rfl) (by kernel_rfl) (by kernel_rfl) (by kernel_rfl) (by kernel_rfl) (by kernel_rfl) (PureV.quiet (k_idxLit e_i64_len r149 (a := e1) (by kernel_rfl) (k := .i64) (i := i4) (by kernel_rfl) Try.underlying22 ty3 h1 h11) []) ?_
                        refine aTakeL (i := 3) (st' := []) (.d (.int .i64 e1)) rfl (by kernel_rfl) (by kernel_rfl) (by kernel_rfl) (by kernel_rfl) (by kernel_rfl) (by kernel_rfl) (by kernel_rfl) (k_loadL (cells := e_i64 e1) 0 (by kernel_rfl) Try.underlying3 (by kernel_rfl) (by kernel_rfl)) ?_
                        refine aTakeL (i := 4) (st' := []) (.d (.lit (List.map e_i64 r149))) rfl (by kernel_rfl) (by kernel_rfl) (by kernel_rfl) (by kernel_rfl) (by kernel_rfl) (by kernel_rfl) (by kernel_rfl) (PureV.quiet (p_move (by kernel_rfl)) []) ?_
                        refine aTakeL (i := 5) (st' := []) (.d (.int .i64 i4)) rfl (by kernel_rfl) (by kernel_rfl) (by kernel_rfl) (by kernel_rfl) (by kernel_rfl) (by kernel_rfl) (by kernel_rfl) (PureV.quiet (p_move (by kernel_rfl)) []) ?_
                        refine aTakeL (i := 6) (st' := []) (.d (.int .i64 (IntKind.wrap .i64 (i4 - 1)))) rfl (by kernel_rfl) (by kernel_rfl) (by kernel_rfl) (by kernel_rfl) (by kernel_rfl) (by kernel_rfl) (by kernel_rfl) (PureV.quiet (p_int (k := .i64) (p := i4) (q := 1) (by kernel_rfl) (by kernel_rfl) (by kernel_rfl)) []) ?_
                        refine dIdx (fun e11 h12 h13 => ?_)
                        refine aTakeL (i := 7) (st' := []) (.lptr (e_i64 e11) 0) rfl (by kernel_rfl) (by kernel_rfl) (by kernel_rfl) (by kernel_rfl) (by kernel_rfl) (by kernel_rfl) (by kernel_rfl) (PureV.quiet (k_idxLit e_i64_len r149 (a := e11) (by kernel_rfl) (k := .i64) (i := (IntKind.wrap .i64 (i4 - 1))) (by kernel_rfl) Try.underlying22 ty3 h12 h13) []) ?_
                        refine aTakeL (i := 8) (st' := []) (.d (.int .i64 e11)) rfl (by kernel_rfl) (by kernel_rfl) (by kernel_rfl) (by kernel_rfl) (by kernel_rfl) (by kernel_rfl) (by kernel_rfl) (k_loadL (cells := e_i64 e11) 0 (by kernel_rfl) Try.underlying3 (by kernel_rfl) (by kernel_rfl)) ?_
                        refine aTakeL (i := 9) (st' := []) (.d (.bool (decide (e1 > e11)))) rfl (by kernel_rfl) (by kernel_rfl) (by kernel_rfl) (by kernel_rfl) (by kernel_rfl) (by kernel_rfl) (by kernel_rfl) (PureV.quiet (p_int (k := .i64) (p := e1) (q := e11) (by kernel_rfl) (by kernel_rfl) (by kernel_rfl)) []) ?_
                        refine aDone (by kernel_rfl) ?_
                        refine bSplit 115 (by kernel_rfl) (fun hc => ?_) (fun hc => ?_)
                        · refine oCondT (by kernel_rfl) ?_
                          refine oSeq ?_
                          refine oRegion rfl ?_
                          refine oOp (.d (.bool false)) (by kernel_rfl) (by kernel_rfl) (PureV.does (p_assign (by kernel_rfl))) ?_
                          refine oEnd ?_
                          exact oRet (r0 := false) (rv := .d (.bool false)) (B := []) (vs := [.d (.bool false)]) (σ := []) (by kernel_rfl) Try.func6 rfl (.cons _ _ _ _ (.tmp 4 _ (by kernel_rfl)) .nil) (by kernel_rfl) (by kernel_rfl) (by kernel_rfl) (by kernel_rfl) (by decide) (by kernel_rfl) (by kernel_rfl)
                        · refine oCondF (by kernel_rfl) ?_
                          refine oSkip ?_
                          refine oBlk ?_
                          refine oRegion rfl ?_
                          refine oOp (.d (.int .i64 i4)) (by kernel_rfl) (by kernel_rfl) (PureV.does (p_move (by kernel_rfl))) ?_
                          refine oOp (.d (.int .i64 (IntKind.wrap .i64 (i4 + 1)))) (by kernel_rfl) (by kernel_rfl) (PureV.does (p_int (k := .i64) (p := i4) (q := 1) (by kernel_rfl) (by kernel_rfl) (by kernel_rfl))) ?_
                          refine oOp (.d (.int .i64 (IntKind.wrap .i64 (i4 + 1)))) (by kernel_rfl) (by kernel_rfl) (PureV.does (p_assign (by kernel_rfl))) ?_
                          refine oEnd ?_
                          refine oAgain ?_
                          refine oHead [1, 6, 7, 8, 15, 17] [0, 1] (T' := [(1, .d (.int .u8 times)), (6, .ptr 0 0), (7, .ptr 1 0), (8, .d (.lit (List.map e_i64 r155))), (15, .d (.lit (List.map e_i64 r149))), (17, .d (.int .i64 (IntKind.wrap .i64 (i4 + 1))))]) (H' := [.box [.d (.lit (List.map e_i64 r122))], .box [.d (.lit (List.map e_i64 r123))]]) (by kernel_rfl) (by kernel_rfl) (by kernel_rfl) (by kernel_rfl) (by decide) (by kernel_rfl) (by kernel_rfl) ?_
                          exact hag3 (IntKind.wrap .i64 (i4 + 1))
                      · refine oCondF (by kernel_rfl) ?_
                        refine oExit rfl ?_
                        refine oHead [1, 6, 7, 8, 15] [0, 1] (T' := [(1, .d (.int .u8 times)), (6, .ptr 0 0), (7, .ptr 1 0), (8, .d (.lit (List.map e_i64 r155))), (15, .d (.lit (List.map e_i64 r149)))]) (H' := [.box [.d (.lit (List.map e_i64 r122))], .box [.d (.lit (List.map e_i64 r123))]]) (by kernel_rfl) (by kernel_rfl) (by kernel_rfl) (by kernel_rfl) (by decide) (by kernel_rfl) (by kernel_rfl) ?_
                        exact hj7 ()
              · refine bSplit 94 (by kernel_rfl) (fun hc => ?_) (fun hc => ?_)
                · refine oNot (by kernel_rfl) (by kernel_rfl) ?_
                  refine oNot (by kernel_rfl) (by kernel_rfl) ?_
                  refine oNot (by kernel_rfl) (by kernel_rfl) ?_
                  refine oNot (by kernel_rfl) (by kernel_rfl) ?_
                  refine oOp (.d (.bool true)) (by kernel_rfl) (by kernel_rfl) (PureV.does (p_pick (b := true) (by kernel_rfl) (by kernel_rfl))) ?_
                  refine oHead [1, 6, 7, 8, 15, 99] [0, 1] (T' := [(1, .d (.int .u8 times)), (6, .ptr 0 0), (7, .ptr 1 0), (8, .d (.lit (List.map e_i64 r155))), (15, .d (.lit (List.map e_i64 r149))), (99, .d (.bool true))]) (H' := [.box [.d (.lit (List.map e_i64 r122))], .box [.d (.lit (List.map e_i64 r123))]]) (by kernel_rfl) (by kernel_rfl) (by kernel_rfl) (by kernel_rfl) (by decide) (by kernel_rfl) (by kernel_rfl) ?_
                  exact hj14 true
                · refine oOp (.d (.lit (List.map e_i64 r114))) (by kernel_rfl) (by kernel_rfl) (PureV.does (p_move (by kernel_rfl))) ?_
                  refine oOp (.d (.lit (List.map e_i64 r115))) (by kernel_rfl) (by kernel_rfl) (PureV.does (p_move (by kernel_rfl))) ?_
                  refine bCall (caps := []) (v := (fun (r124 : Bool) => (.d (.bool r124) : V))) (H' := (fun (r124 : Bool) => ([.box [.d (.lit (List.map e_i64 r122))], .box [.d (.lit (List.map e_i64 r123))]] : List Blk))) [] _ (law35_same_goes k r114 r115) (by kernel_rfl) (by kernel_rfl) rfl (by kernel_rfl) Try.func14 rfl (by kernel_rfl) (ConvRs.refl _ _) (by kernel_rfl) (by kernel_rfl) (by kernel_rfl) (by decide) (by kernel_rfl) (by kernel_rfl) (fun _ => (by kernel_rfl)) (fun _ => (by kernel_rfl)) (fun _ => (by kernel_rfl)) (fun r124 => ?_)
                  refine oOp (.d (.bool (!r124))) (by kernel_rfl) (by kernel_rfl) (PureV.does (p_not (p := r124) (by kernel_rfl) (by kernel_rfl))) ?_
                  refine oOp (.d (.bool (!r124))) (by kernel_rfl) (by kernel_rfl) (PureV.does (p_pick (b := false) (by kernel_rfl) (by kernel_rfl))) ?_
                  refine oHead [1, 6, 7, 8, 15, 99] [0, 1] (T' := [(1, .d (.int .u8 times)), (6, .ptr 0 0), (7, .ptr 1 0), (8, .d (.lit (List.map e_i64 r155))), (15, .d (.lit (List.map e_i64 r149))), (99, .d (.bool (!r124)))]) (H' := [.box [.d (.lit (List.map e_i64 r122))], .box [.d (.lit (List.map e_i64 r123))]]) (by kernel_rfl) (by kernel_rfl) (by kernel_rfl) (by kernel_rfl) (by decide) (by kernel_rfl) (by kernel_rfl) ?_
                  exact hj14 (!r124)
            · refine bPickF 90 (fun c => F (c || (r157 != 0))) (by kernel_rfl) (fun hc => ?_) (fun hc => ?_)
              · refine oNot (by kernel_rfl) (by kernel_rfl) ?_
                refine oNot (by kernel_rfl) (by kernel_rfl) ?_
                refine oOp (.d (.bool true)) (by kernel_rfl) (by kernel_rfl) (PureV.does (p_pick (b := true) (by kernel_rfl) (by kernel_rfl))) ?_
                refine oHead [1, 6, 7, 8, 11, 13, 15, 93] [0, 1] (T' := [(1, .d (.int .u8 times)), (6, .ptr 0 0), (7, .ptr 1 0), (8, .d (.lit (List.map e_i64 r155))), (11, .d (.lit (List.map e_i64 r114))), (13, .d (.lit (List.map e_i64 r115))), (15, .d (.lit (List.map e_i64 r149))), (93, .d (.bool true))]) (H' := [.box [.d (.lit (List.map e_i64 r122))], .box [.d (.lit (List.map e_i64 r123))]]) (by kernel_rfl) (by kernel_rfl) (by kernel_rfl) (by kernel_rfl) (by decide) (by kernel_rfl) (by kernel_rfl) ?_
                exact hj6 true
              · refine oOp (.d (.int .i64 r157)) (by kernel_rfl) (by kernel_rfl) (PureV.does (p_move (by kernel_rfl))) ?_
                refine oOp (.d (.bool (r157 != 0))) (by kernel_rfl) (by kernel_rfl) (PureV.does (p_int (k := .i64) (p := r157) (q := 0) (by kernel_rfl) (by kernel_rfl) (by kernel_rfl))) ?_
                refine oOp (.d (.bool (r157 != 0))) (by kernel_rfl) (by kernel_rfl) (PureV.does (p_pick (b := false) (by kernel_rfl) (by kernel_rfl))) ?_
                refine oHead [1, 6, 7, 8, 11, 13, 15, 93] [0, 1] (T' := [(1, .d (.int .u8 times)), (6, .ptr 0 0), (7, .ptr 1 0), (8, .d (.lit (List.map e_i64 r155))), (11, .d (.lit (List.map e_i64 r114))), (13, .d (.lit (List.map e_i64 r115))), (15, .d (.lit (List.map e_i64 r149))), (93, .d (.bool (r157 != 0)))]) (H' := [.box [.d (.lit (List.map e_i64 r122))], .box [.d (.lit (List.map e_i64 r123))]]) (by kernel_rfl) (by kernel_rfl) (by kernel_rfl) (by kernel_rfl) (by decide) (by kernel_rfl) (by kernel_rfl) ?_
                exact hj6 (r157 != 0)
          · refine bPickF 86 (fun c => F (c || (r148 != 0))) (by kernel_rfl) (fun hc => ?_) (fun hc => ?_)
            · refine oNot (by kernel_rfl) (by kernel_rfl) ?_
              refine oNot (by kernel_rfl) (by kernel_rfl) ?_
              refine oOp (.d (.bool true)) (by kernel_rfl) (by kernel_rfl) (PureV.does (p_pick (b := true) (by kernel_rfl) (by kernel_rfl))) ?_
              refine oHead [1, 6, 7, 8, 11, 13, 15, 16, 89] [0, 1] (T' := [(1, .d (.int .u8 times)), (6, .ptr 0 0), (7, .ptr 1 0), (8, .d (.lit (List.map e_i64 r155))), (11, .d (.lit (List.map e_i64 r114))), (13, .d (.lit (List.map e_i64 r115))), (15, .d (.lit (List.map e_i64 r149))), (16, .d (.int .i64 r157)), (89, .d (.bool true))]) (H' := [.box [.d (.lit (List.map e_i64 r122))], .box [.d (.lit (List.map e_i64 r123))]]) (by kernel_rfl) (by kernel_rfl) (by kernel_rfl) (by kernel_rfl) (by decide) (by kernel_rfl) (by kernel_rfl) ?_
              exact hj5 true
            · refine oOp (.d (.int .i64 r148)) (by kernel_rfl) (by kernel_rfl) (PureV.does (p_move (by kernel_rfl))) ?_
              refine oOp (.d (.bool (r148 != 0))) (by kernel_rfl) (by kernel_rfl) (PureV.does (p_int (k := .i64) (p := r148) (q := 0) (by kernel_rfl) (by kernel_rfl) (by kernel_rfl))) ?_
              refine oOp (.d (.bool (r148 != 0))) (by kernel_rfl) (by kernel_rfl) (PureV.does (p_pick (b := false) (by kernel_rfl) (by kernel_rfl))) ?_
              refine oHead [1, 6, 7, 8, 11, 13, 15, 16, 89] [0, 1] (T' := [(1, .d (.int .u8 times)), (6, .ptr 0 0), (7, .ptr 1 0), (8, .d (.lit (List.map e_i64 r155))), (11, .d (.lit (List.map e_i64 r114))), (13, .d (.lit (List.map e_i64 r115))), (15, .d (.lit (List.map e_i64 r149))), (16, .d (.int .i64 r157)), (89, .d (.bool (r148 != 0)))]) (H' := [.box [.d (.lit (List.map e_i64 r122))], .box [.d (.lit (List.map e_i64 r123))]]) (by kernel_rfl) (by kernel_rfl) (by kernel_rfl) (by kernel_rfl) (by decide) (by kernel_rfl) (by kernel_rfl) ?_
              exact hj5 (r148 != 0)
        · refine bPickF 82 (fun c => F (c || (r147 != 0))) (by kernel_rfl) (fun hc => ?_) (fun hc => ?_)
          · refine oNot (by kernel_rfl) (by kernel_rfl) ?_
            refine oNot (by kernel_rfl) (by kernel_rfl) ?_
            refine oOp (.d (.bool true)) (by kernel_rfl) (by kernel_rfl) (PureV.does (p_pick (b := true) (by kernel_rfl) (by kernel_rfl))) ?_
            refine oHead [1, 6, 7, 8, 11, 13, 14, 15, 16, 85] [1, 2] (T' := [(1, .d (.int .u8 times)), (6, .ptr 0 0), (7, .ptr 1 0), (8, .d (.lit (List.map e_i64 r155))), (11, .d (.lit (List.map e_i64 r114))), (13, .d (.lit (List.map e_i64 r115))), (14, .d (.int .i64 r148)), (15, .d (.lit (List.map e_i64 r149))), (16, .d (.int .i64 r157)), (85, .d (.bool true))]) (H' := [.box [.d (.lit (List.map e_i64 r122))], .box [.d (.lit (List.map e_i64 r123))]]) (by kernel_rfl) (by kernel_rfl) (by kernel_rfl) (by kernel_rfl) (by decide) (by kernel_rfl) (by kernel_rfl) ?_
            exact hj4 true
          · refine oOp (.d (.int .i64 r147)) (by kernel_rfl) (by kernel_rfl) (PureV.does (p_move (by kernel_rfl))) ?_
            refine oOp (.d (.bool (r147 != 0))) (by kernel_rfl) (by kernel_rfl) (PureV.does (p_int (k := .i64) (p := r147) (q := 0) (by kernel_rfl) (by kernel_rfl) (by kernel_rfl))) ?_
            refine oOp (.d (.bool (r147 != 0))) (by kernel_rfl) (by kernel_rfl) (PureV.does (p_pick (b := false) (by kernel_rfl) (by kernel_rfl))) ?_
            refine oHead [1, 6, 7, 8, 11, 13, 14, 15, 16, 85] [1, 2] (T' := [(1, .d (.int .u8 times)), (6, .ptr 0 0), (7, .ptr 1 0), (8, .d (.lit (List.map e_i64 r155))), (11, .d (.lit (List.map e_i64 r114))), (13, .d (.lit (List.map e_i64 r115))), (14, .d (.int .i64 r148)), (15, .d (.lit (List.map e_i64 r149))), (16, .d (.int .i64 r157)), (85, .d (.bool (r147 != 0)))]) (H' := [.box [.d (.lit (List.map e_i64 r122))], .box [.d (.lit (List.map e_i64 r123))]]) (by kernel_rfl) (by kernel_rfl) (by kernel_rfl) (by kernel_rfl) (by decide) (by kernel_rfl) (by kernel_rfl) ?_
            exact hj4 (r147 != 0)
    · refine bSplit 42 (by kernel_rfl) (fun hc => ?_) (fun hc => ?_)
      · refine oNot (by kernel_rfl) (by kernel_rfl) ?_
        refine oNot (by kernel_rfl) (by kernel_rfl) ?_
        refine oNot (by kernel_rfl) (by kernel_rfl) ?_
        refine oOp (.d (.bool true)) (by kernel_rfl) (by kernel_rfl) (PureV.does (p_pick (b := true) (by kernel_rfl) (by kernel_rfl))) ?_
        refine oHead [1, 5, 6, 7, 46] [0, 1, 2] (T' := [(1, .d (.int .u8 times)), (5, .ptr 0 0), (6, .ptr 1 0), (7, .ptr 2 0), (46, .d (.bool true))]) (H' := [.box [.d (.lit (List.map e_i64 t)), .d (.int .i64 x73)], .box [.d (.lit (List.map e_i64 r122))], .box [.d (.lit (List.map e_i64 r123))]]) (by kernel_rfl) (by kernel_rfl) (by kernel_rfl) (by kernel_rfl) (by decide) (by kernel_rfl) (by kernel_rfl) ?_
        exact hj15 true
      · refine oOp (.agg [.d (.lit (List.map e_i64 r123))]) (by kernel_rfl) (by kernel_rfl) (Quiet.does (k_loadAgg 2 0 (by kernel_rfl) Try.underlying28 (by kernel_rfl) ty28 (by kernel_rfl))) ?_
        refine bCall (caps := []) (v := (fun (r125 : Int) => (.d (.int .i64 r125) : V))) (H' := (fun (r125 : Int) => ([.box [.d (.lit (List.map e_i64 t)), .d (.int .i64 x73)], .box [.d (.lit (List.map e_i64 r122))], .box [.d (.lit (List.map e_i64 r123))]] : List Blk))) [] _ (ref32_Count_goes k r123) (by kernel_rfl) (by kernel_rfl) rfl (by kernel_rfl) Try.func15 rfl (by kernel_rfl) (ConvRs.refl _ _) (by kernel_rfl) (by kernel_rfl) (by kernel_rfl) (by decide) (by kernel_rfl) (by kernel_rfl) (fun _ => (by kernel_rfl)) (fun _ => (by kernel_rfl)) (fun _ => (by kernel_rfl)) (fun r125 => ?_)
        refine oOp (.d (.bool (r125 == 0))) (by kernel_rfl) (by kernel_rfl) (PureV.does (p_int (k := .i64) (p := r125) (q := 0) (by kernel_rfl) (by kernel_rfl) (by kernel_rfl))) ?_
        refine oOp (.d (.bool (r125 == 0))) (by kernel_rfl) (by kernel_rfl) (PureV.does (p_pick (b := false) (by kernel_rfl) (by kernel_rfl))) ?_
        refine oHead [1, 5, 6, 7, 46] [0, 1, 2] (T' := [(1, .d (.int .u8 times)), (5, .ptr 0 0), (6, .ptr 1 0), (7, .ptr 2 0), (46, .d (.bool (r125 == 0)))]) (H' := [.box [.d (.lit (List.map e_i64 t)), .d (.int .i64 x73)], .box [.d (.lit (List.map e_i64 r122))], .box [.d (.lit (List.map e_i64 r123))]]) (by kernel_rfl) (by kernel_rfl) (by kernel_rfl) (by kernel_rfl) (by decide) (by kernel_rfl) (by kernel_rfl) ?_
        exact hj15 (r125 == 0)

end Go.VM
