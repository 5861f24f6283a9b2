/- Plain functions that answer as the program's functions do, and the proof that they do. -/
import Derived.Test.YtmnpognjbfjhbaaProg
import Derived.KernelRfl
import Derived.Test.YtmnpognjbfjhbaaEngW
import Derived.Test.YtmnpognjbfjhbaaDFacts
import Derived.Test.YtmnpognjbfjhbaaDFuns0
import Derived.Test.YtmnpognjbfjhbaaDFuns1
import Derived.Test.YtmnpognjbfjhbaaDFuns2
import Derived.Test.YtmnpognjbfjhbaaDFuns5
namespace Go.VM
open Go.Proofs
set_option linter.unusedVariables false
set_option linter.unusedSimpArgs false
set_option maxRecDepth 100000
/-- awardingbody/distribution.Add -/
def distribution_Add_b2 (k : Nat) (e1117 : SDistribution) (again : Int × (List Int) → Option ((List Int))) : Int × (List Int) → Option ((List Int)) := uc fun x38 => fun xs110 => bif (decide (x38 < ((List.length e1117.Counts) : Int))) then gidx e1117.Counts x38 fun e1136 => gidx xs110 x38 fun e1137 => blet (List.set xs110 (Int.toNat x38) (IntKind.wrap .i64 (e1137 + e1136))) fun xs115 => again ((IntKind.wrap .i64 (x38 + 1)), xs115) else some xs110
def distribution_Add_b1 (k : Nat) (a0 : (List Int)) (b0 : (List Int)) (again : Int × (List Int) → Option ((List Int))) : Int × (List Int) → Option ((List Int)) := uc fun x28 => fun xs78 => bif (decide (x28 < ((List.length ([(⟨a0⟩ : SDistribution), (⟨b0⟩ : SDistribution)] : List SDistribution)) : Int))) then gidx ([(⟨a0⟩ : SDistribution), (⟨b0⟩ : SDistribution)] : List SDistribution) x28 fun e1117 => Option.bind (gloop (distribution_Add_b2 k e1117) k (0, xs78) : Option ((List Int))) (fun xs107 => again ((IntKind.wrap .i64 (x28 + 1)), xs107)) else some xs78
def distribution_Add (k : Nat) (a0 : (List Int)) (b0 : (List Int)) : Option ((List Int) × Int) := Option.bind (distribution_Valid k a0) (fun r126 => Option.bind (bif (!r126) then some true else Option.bind (distribution_Valid k b0) (fun r128 => some (!r128)) : Option (Bool)) (fun x13 => bif x13 then some ([], 1) else Option.bind (distribution_Count k a0) (fun r11 => Option.bind (distribution_Count k b0) (fun r111 => bif (decide ((IntKind.wrap .i64 (r11 + r111)) > 1048576)) then some ([], 3) else gmake (gmax ((List.length a0) : Int) ((List.length b0) : Int)) 8 (blet (List.replicate (Int.toNat (gmax ((List.length a0) : Int) ((List.length b0) : Int))) 0) fun xs32 => Option.bind (gloop (distribution_Add_b1 k a0 b0) k (0, xs32) : Option ((List Int))) (fun xs63 => some (xs63, 0)))))))
def distribution_Add_E (a0 : (List Int)) (b0 : (List Int)) : (List Int) × Int → V × List Blk := uc fun r1 => fun r13 => (.tuple [.agg [.d (.lit (List.map e_i64 r1))], .d (.int .i64 r13)], [])
theorem distribution_Add_goes (k : Nat) (a0 : (List Int)) (b0 : (List Int)) : RunsO Try.prog 22 [.agg [.d (.lit (List.map e_i64 a0))], .agg [.d (.lit (List.map e_i64 b0))]] [] (distribution_Add_E a0 b0) (distribution_Add k a0 b0) := by
  refine RunsO.of_goes (N := 65) (m := 0) (T := [(0, .agg [.d (.lit (List.map e_i64 a0))]), (1, .agg [.d (.lit (List.map e_i64 b0))])]) Try.func22 rfl rfl (by kernel_rfl) (by kernel_rfl) (by kernel_rfl) ?_
  unfold distribution_Add
  refine bStart ?_
  refine oSeq ?_
  refine oRegion rfl ?_
  refine oOp (.ptr 0 0) (by kernel_rfl) (by kernel_rfl) (k_box (H' := [.box [.d (.lit (List.map e_i64 a0))]]) (cells := [.d (.lit (List.map e_i64 a0))]) (by kernel_rfl) (by kernel_rfl) (by kernel_rfl)) ?_
  refine oOp (.ptr 1 0) (by kernel_rfl) (by kernel_rfl) (k_box (H' := [.box [.d (.lit (List.map e_i64 a0))], .box [.d (.lit (List.map e_i64 b0))]]) (cells := [.d (.lit (List.map e_i64 b0))]) (by kernel_rfl) (by kernel_rfl) (by kernel_rfl)) ?_
  refine oOp (.ptr 2 0) (by kernel_rfl) (by kernel_rfl) (k_alloc (H' := [.box [.d (.lit (List.map e_i64 a0))], .box [.d (.lit (List.map e_i64 b0))], .box [.nilc]]) ty26 (by kernel_rfl) (by kernel_rfl)) ?_
  refine oOp (.d (.int .i64 0)) (by kernel_rfl) (by kernel_rfl) (PureV.does (p_assign (by kernel_rfl))) ?_
  refine oEnd ?_
  refine oSeq ?_
  refine oBlock ?_
  refine oSeq ?_
  refine oRegion rfl ?_
  refine oOp (.agg [.d (.lit (List.map e_i64 a0))]) (by kernel_rfl) (by kernel_rfl) (Quiet.does (k_loadAgg 0 0 (by kernel_rfl) Try.underlying26 (by kernel_rfl) ty26 (by kernel_rfl))) ?_
  refine bCall (caps := []) (v := (fun (r126 : Bool) => (.d (.bool r126) : V))) (H' := (fun (r126 : Bool) => ([.box [.d (.lit (List.map e_i64 a0))], .box [.d (.lit (List.map e_i64 b0))], .box [.nilc]] : List Blk))) [] _ (distribution_Valid_goes k a0) (by kernel_rfl) (by kernel_rfl) rfl (by kernel_rfl) Try.func28 rfl (by kernel_rfl) (ConvRs.refl _ _) (by kernel_rfl) (by kernel_rfl) (by kernel_rfl) (by decide) (by kernel_rfl) (by kernel_rfl) (fun _ => (by kernel_rfl)) (fun _ => (by kernel_rfl)) (fun _ => (by kernel_rfl)) (fun r126 => ?_)
  refine oOp (.d (.bool (!r126))) (by kernel_rfl) (by kernel_rfl) (PureV.does (p_not (p := r126) (by kernel_rfl) (by kernel_rfl))) ?_
  refine oOp (.d (.bool (!r126))) (by kernel_rfl) (by kernel_rfl) (PureV.does (p_move (by kernel_rfl))) ?_
  refine bMeet 4 rfl ((fun (x13 : Bool) => [(2, .ptr 0 0), (3, .ptr 1 0), (4, .ptr 2 0), (19, .d (.bool x13))])) ((fun (x13 : Bool) => [.box [.d (.lit (List.map e_i64 a0))], .box [.d (.lit (List.map e_i64 b0))], .box [.nilc]])) (fun s => s) (fun x13 => ?_) (fun hj17 => ?_)
  · refine oView (T' := [(2, .ptr 0 0), (3, .ptr 1 0), (4, .ptr 2 0), (19, .d (.bool x13))]) (H' := [.box [.d (.lit (List.map e_i64 a0))], .box [.d (.lit (List.map e_i64 b0))], .box [.nilc]]) (by kernel_rfl) (by kernel_rfl) ?_
    refine oOp (.d (.bool x13)) (by kernel_rfl) (by kernel_rfl) (PureV.does (p_assign (by kernel_rfl))) ?_
    refine oEnd ?_
    refine bSplit 11 (by kernel_rfl) (fun hc => ?_) (fun hc => ?_)
    · refine oCondT (by kernel_rfl) ?_
      refine oSeq ?_
      refine oRegion rfl ?_
      refine oOp (.agg [.nilc]) (by kernel_rfl) (by kernel_rfl) (PureV.does (p_build bld26 (by kernel_rfl))) ?_
      refine oOp (.undef) (by kernel_rfl) (by kernel_rfl) (k_store (vs := [.nilc]) (H' := [.box [.d (.lit (List.map e_i64 a0))], .box [.d (.lit (List.map e_i64 b0))], .box [.nilc]]) 2 0 (by kernel_rfl) ty26 (by kernel_rfl) (by kernel_rfl) (by kernel_rfl)) ?_
      refine oOp (.d (.int .i64 1)) (by kernel_rfl) (by kernel_rfl) (PureV.does (p_assign (by kernel_rfl))) ?_
      refine oEnd ?_
      refine oConvB 2 (cells := [.nilc]) (cells' := [.d (.lit (List.map e_i64 []))]) (by kernel_rfl) (.cons _ _ _ _ .nil .nil) ?_
      refine oView (H' := [.box [.d (.lit (List.map e_i64 a0))], .box [.d (.lit (List.map e_i64 b0))], .box [.d (.lit (List.map e_i64 []))]]) rfl (by kernel_rfl) ?_
      exact oRet (r0 := ([], 1)) (rv := .tuple [.agg [.d (.lit (List.map e_i64 []))], .d (.int .i64 1)]) (B := []) (vs := [.agg [.d (.lit (List.map e_i64 []))], .d (.int .i64 1)]) (σ := []) (by kernel_rfl) Try.func22 rfl (.cons _ _ _ _ (.agg 4 26 2 0 [.d (.lit (List.map e_i64 []))] [.d (.lit (List.map e_i64 []))] _ _ _ _ (by kernel_rfl) (by kernel_rfl) Try.underlying26 (by kernel_rfl) ty26 (by kernel_rfl) (by kernel_rfl)) (.cons _ _ _ _ (.tmp 5 _ (by kernel_rfl)) .nil)) (by kernel_rfl) (by kernel_rfl) (by kernel_rfl) (by kernel_rfl) (by decide) (by kernel_rfl) (by kernel_rfl)
    · refine oCondF (by kernel_rfl) ?_
      refine oSeq ?_
      refine oDraw [(0, 7), (1, 7), (2, 7)] rfl ?_
      refine aTakeL (i := 0) (st' := [0]) (.agg [.d (.lit (List.map e_i64 a0))]) rfl (by kernel_rfl) (by kernel_rfl) (by kernel_rfl) (by kernel_rfl) (by kernel_rfl) (by kernel_rfl) (by kernel_rfl) (k_loadAgg 0 0 (by kernel_rfl) Try.underlying26 (by kernel_rfl) ty26 (by kernel_rfl)) ?_
      refine aTakeL (i := 2) (st' := [1]) (.agg [.d (.lit (List.map e_i64 b0))]) rfl (by kernel_rfl) (by kernel_rfl) (by kernel_rfl) (by kernel_rfl) (by kernel_rfl) (by kernel_rfl) (by kernel_rfl) (k_loadAgg 1 0 (by kernel_rfl) Try.underlying26 (by kernel_rfl) ty26 (by kernel_rfl)) ?_
      refine dCall (i := 1) (caps := []) (v := (fun (r11 : Int) => (.d (.int .i64 r11) : V))) (H' := (fun (r11 : Int) => ([.box [.d (.lit (List.map e_i64 a0))], .box [.d (.lit (List.map e_i64 b0))], .box [.nilc]] : List Blk))) [] _ (distribution_Count_goes k a0) rfl (by kernel_rfl) (by kernel_rfl) (by kernel_rfl) (by kernel_rfl) (by kernel_rfl) (by kernel_rfl) (by kernel_rfl) (by kernel_rfl) rfl (by kernel_rfl) Try.func15 rfl (by kernel_rfl) (ConvRs.refl _ _) (by kernel_rfl) (by kernel_rfl) (by kernel_rfl) (by decide) (by kernel_rfl) (by kernel_rfl) (fun _ => (by kernel_rfl)) (fun _ => (by kernel_rfl)) (fun _ => (by kernel_rfl)) (fun r11 => ?_)
      refine dCall (i := 3) (caps := []) (v := (fun (r111 : Int) => (.d (.int .i64 r111) : V))) (H' := (fun (r111 : Int) => ([.box [.d (.lit (List.map e_i64 a0))], .box [.d (.lit (List.map e_i64 b0))], .box [.nilc]] : List Blk))) [] _ (distribution_Count_goes k b0) rfl (by kernel_rfl) (by kernel_rfl) (by kernel_rfl) (by kernel_rfl) (by kernel_rfl) (by kernel_rfl) (by kernel_rfl) (by kernel_rfl) rfl (by kernel_rfl) Try.func15 rfl (by kernel_rfl) (ConvRs.refl _ _) (by kernel_rfl) (by kernel_rfl) (by kernel_rfl) (by decide) (by kernel_rfl) (by kernel_rfl) (fun _ => (by kernel_rfl)) (fun _ => (by kernel_rfl)) (fun _ => (by kernel_rfl)) (fun r111 => ?_)
      refine aTakeL (i := 4) (st' := []) (.d (.int .i64 (IntKind.wrap .i64 (r11 + r111)))) rfl (by kernel_rfl) (by kernel_rfl) (by kernel_rfl) (by kernel_rfl) (by kernel_rfl) (by kernel_rfl) (by kernel_rfl) (PureV.quiet (p_int (k := .i64) (p := r11) (q := r111) (by kernel_rfl) (by kernel_rfl) (by kernel_rfl)) []) ?_
      refine aTakeL (i := 5) (st' := []) (.d (.bool (decide ((IntKind.wrap .i64 (r11 + r111)) > 1048576)))) rfl (by kernel_rfl) (by kernel_rfl) (by kernel_rfl) (by kernel_rfl) (by kernel_rfl) (by kernel_rfl) (by kernel_rfl) (PureV.quiet (p_int (k := .i64) (p := (IntKind.wrap .i64 (r11 + r111))) (q := 1048576) (by kernel_rfl) (by kernel_rfl) (by kernel_rfl)) []) ?_
      refine aTakeL (i := 6) (st' := []) (.d (.bool (decide ((IntKind.wrap .i64 (r11 + r111)) > 1048576)))) rfl (by kernel_rfl) (by kernel_rfl) (by kernel_rfl) (by kernel_rfl) (by kernel_rfl) (by kernel_rfl) (by kernel_rfl) (PureV.quiet (p_assign (by kernel_rfl)) []) ?_
      refine aDone (by kernel_rfl) ?_
      refine bSplit 21 (by kernel_rfl) (fun hc => ?_) (fun hc => ?_)
      · refine oCondT (by kernel_rfl) ?_
        refine oSeq ?_
        refine oRegion rfl ?_
        refine oOp (.agg [.nilc]) (by kernel_rfl) (by kernel_rfl) (PureV.does (p_build bld26 (by kernel_rfl))) ?_
        refine oOp (.undef) (by kernel_rfl) (by kernel_rfl) (k_store (vs := [.nilc]) (H' := [.box [.d (.lit (List.map e_i64 a0))], .box [.d (.lit (List.map e_i64 b0))], .box [.nilc]]) 2 0 (by kernel_rfl) ty26 (by kernel_rfl) (by kernel_rfl) (by kernel_rfl)) ?_
        refine oOp (.d (.int .i64 3)) (by kernel_rfl) (by kernel_rfl) (PureV.does (p_assign (by kernel_rfl))) ?_
        refine oEnd ?_
        refine oConvB 2 (cells := [.nilc]) (cells' := [.d (.lit (List.map e_i64 []))]) (by kernel_rfl) (.cons _ _ _ _ .nil .nil) ?_
        refine oView (H' := [.box [.d (.lit (List.map e_i64 a0))], .box [.d (.lit (List.map e_i64 b0))], .box [.d (.lit (List.map e_i64 []))]]) rfl (by kernel_rfl) ?_
        exact oRet (r0 := ([], 3)) (rv := .tuple [.agg [.d (.lit (List.map e_i64 []))], .d (.int .i64 3)]) (B := []) (vs := [.agg [.d (.lit (List.map e_i64 []))], .d (.int .i64 3)]) (σ := []) (by kernel_rfl) Try.func22 rfl (.cons _ _ _ _ (.agg 4 26 2 0 [.d (.lit (List.map e_i64 []))] [.d (.lit (List.map e_i64 []))] _ _ _ _ (by kernel_rfl) (by kernel_rfl) Try.underlying26 (by kernel_rfl) ty26 (by kernel_rfl) (by kernel_rfl)) (.cons _ _ _ _ (.tmp 5 _ (by kernel_rfl)) .nil)) (by kernel_rfl) (by kernel_rfl) (by kernel_rfl) (by kernel_rfl) (by decide) (by kernel_rfl) (by kernel_rfl)
      · refine oCondF (by kernel_rfl) ?_
        refine oSkip ?_
        refine oBlk ?_
        refine oSeq ?_
        refine oRegion rfl ?_
        refine oOp (.ptr 0 0) (by kernel_rfl) (by kernel_rfl) (PureV.does (k_fieldAddr 0 0 (by kernel_rfl) Try.underlying26 rfl ty22 (by kernel_rfl))) ?_
        refine oOp (.d (.lit (List.map e_i64 a0))) (by kernel_rfl) (by kernel_rfl) (Quiet.does (k_load 0 0 (by kernel_rfl) Try.underlying22 (by kernel_rfl) (by kernel_rfl))) ?_
        refine oOp (.d (.int .i64 ((List.length a0) : Int))) (by kernel_rfl) (by kernel_rfl) (PureV.does (k_lenLit (enc := e_i64) a0 (by kernel_rfl) Try.underlying22)) ?_
        refine oOp (.ptr 1 0) (by kernel_rfl) (by kernel_rfl) (PureV.does (k_fieldAddr 1 0 (by kernel_rfl) Try.underlying26 rfl ty22 (by kernel_rfl))) ?_
        refine oOp (.d (.lit (List.map e_i64 b0))) (by kernel_rfl) (by kernel_rfl) (Quiet.does (k_load 1 0 (by kernel_rfl) Try.underlying22 (by kernel_rfl) (by kernel_rfl))) ?_
        refine oOp (.d (.int .i64 ((List.length b0) : Int))) (by kernel_rfl) (by kernel_rfl) (PureV.does (k_lenLit (enc := e_i64) b0 (by kernel_rfl) Try.underlying22)) ?_
        refine oOp (.d (.int .i64 (gmax ((List.length a0) : Int) ((List.length b0) : Int)))) (by kernel_rfl) (by kernel_rfl) (PureV.does (p_max2 (k := .i64) (p := ((List.length a0) : Int)) (q := ((List.length b0) : Int)) (by kernel_rfl) (by kernel_rfl) (by kernel_rfl))) ?_
        refine bMake (fun h174 h175 => ?_)
        refine bSet _ (fun xs32 hs17 => ?_)
        refine oOp (.ref 3 (Int.toNat (gmax ((List.length a0) : Int) ((List.length b0) : Int))) 0 (Int.toNat (gmax ((List.length a0) : Int) ((List.length b0) : Int)))) (by kernel_rfl) (by kernel_rfl) (k_make (enc := e_i64) (k1 := .i64) (k2 := .i64) (H' := [.box [.d (.lit (List.map e_i64 a0))], .box [.d (.lit (List.map e_i64 b0))], .box [.nilc], .sl 1 (List.map e_i64 xs32) false]) 0 [(.int .i64 0)] (by kernel_rfl) (by kernel_rfl) Try.underlying22 ty3 (by kernel_rfl) (by kernel_rfl) (by kernel_rfl) h174 h175 (by subst hs17; rfl)) ?_
        refine oHead [2, 3, 4, 36] [0, 1, 2, 3] (T' := [(2, .ptr 0 0), (3, .ptr 1 0), (4, .ptr 2 0), (36, .ref 3 (Int.toNat (gmax ((List.length a0) : Int) ((List.length b0) : Int))) 0 (Int.toNat (gmax ((List.length a0) : Int) ((List.length b0) : Int))))]) (H' := [.box [.d (.lit (List.map e_i64 a0))], .box [.d (.lit (List.map e_i64 b0))], .box [.nilc], .sl 1 (List.map e_i64 xs32) false]) (by kernel_rfl) (by kernel_rfl) (by kernel_rfl) (by kernel_rfl) (by decide) (by kernel_rfl) (by kernel_rfl) ?_
        refine oView (T' := [(2, .ptr 0 0), (3, .ptr 1 0), (4, .ptr 2 0), (36, .ref 3 (List.length xs32) 0 (List.length xs32))]) (H' := [.box [.d (.lit (List.map e_i64 a0))], .box [.d (.lit (List.map e_i64 b0))], .box [.nilc], .sl 1 (List.map e_i64 xs32) false]) (by first | rw [(rep_len hs17)] | rfl) (by first | rw [(rep_len hs17)] | rfl) ?_
        refine oOp (.agg [.ref 3 (List.length xs32) 0 (List.length xs32)]) (by kernel_rfl) (by kernel_rfl) (PureV.does (p_build bld26 (by kernel_rfl))) ?_
        refine oOp (.ptr 4 0) (by kernel_rfl) (by kernel_rfl) (k_alloc (H' := [.box [.d (.lit (List.map e_i64 a0))], .box [.d (.lit (List.map e_i64 b0))], .box [.nilc], .sl 1 (List.map e_i64 xs32) false, .box [.nilc]]) ty26 (by kernel_rfl) (by kernel_rfl)) ?_
        refine oOp (.undef) (by kernel_rfl) (by kernel_rfl) (k_store (vs := [.ref 3 (List.length xs32) 0 (List.length xs32)]) (H' := [.box [.d (.lit (List.map e_i64 a0))], .box [.d (.lit (List.map e_i64 b0))], .box [.nilc], .sl 1 (List.map e_i64 xs32) false, .box [.ref 3 (List.length xs32) 0 (List.length xs32)]]) 4 0 (by kernel_rfl) ty26 (by kernel_rfl) (by kernel_rfl) (by kernel_rfl)) ?_
        refine oEnd ?_
        refine oSeq ?_
        refine oSeq ?_
        refine oRegion rfl ?_
        refine oOp (.agg [.d (.lit (List.map e_i64 a0))]) (by kernel_rfl) (by kernel_rfl) (Quiet.does (k_loadAgg 0 0 (by kernel_rfl) Try.underlying26 (by kernel_rfl) ty26 (by kernel_rfl))) ?_
        refine oOp (.agg [.d (.lit (List.map e_i64 b0))]) (by kernel_rfl) (by kernel_rfl) (Quiet.does (k_loadAgg 1 0 (by kernel_rfl) Try.underlying26 (by kernel_rfl) ty26 (by kernel_rfl))) ?_
        refine oOp (.ref 5 (List.length ([(⟨a0⟩ : SDistribution), (⟨b0⟩ : SDistribution)] : List SDistribution)) 0 (List.length ([(⟨a0⟩ : SDistribution), (⟨b0⟩ : SDistribution)] : List SDistribution))) (by kernel_rfl) (by kernel_rfl) (k_buildSlice (H' := [.box [.d (.lit (List.map e_i64 a0))], .box [.d (.lit (List.map e_i64 b0))], .box [.nilc], .sl 1 (List.map e_i64 xs32) false, .box [.ref 3 (List.length xs32) 0 (List.length xs32)], .sl 1 (List.map e_SDistribution ([(⟨a0⟩ : SDistribution), (⟨b0⟩ : SDistribution)] : List SDistribution)) false]) (List.map e_SDistribution ([(⟨a0⟩ : SDistribution), (⟨b0⟩ : SDistribution)] : List SDistribution)) Try.underlying71 ty26 (by kernel_rfl) (by kernel_rfl) (by kernel_rfl)) ?_
        refine oOp (.d (.int .i64 ((List.length ([(⟨a0⟩ : SDistribution), (⟨b0⟩ : SDistribution)] : List SDistribution)) : Int))) (by kernel_rfl) (by kernel_rfl) (PureV.does (k_lenRef (enc := e_SDistribution) (sz := 1) (fro := false) 5 ([(⟨a0⟩ : SDistribution), (⟨b0⟩ : SDistribution)] : List SDistribution) (by kernel_rfl) (by kernel_rfl) Try.underlying71)) ?_
        refine oOp (.d (.int .i64 0)) (by kernel_rfl) (by kernel_rfl) (PureV.does (p_move (by kernel_rfl))) ?_
        refine oEnd ?_
        refine bJoin ((fun (xs63 : (List Int)) => [(4, .ptr 0 0), (6, .ptr 1 0)])) ((fun (xs63 : (List Int)) => [.box [.nilc], .box [.ref 2 (List.length xs63) 0 (List.length xs63)], .sl 1 (List.map e_i64 xs63) false])) (fun s => s) (fun xs63 => ?_) (fun hj10 => ?_)
        · refine oView (T' := [(4, .ptr 0 0), (6, .ptr 1 0)]) (H' := [.box [.nilc], .box [.ref 2 (List.length xs63) 0 (List.length xs63)], .sl 1 (List.map e_i64 xs63) false]) (by kernel_rfl) (by kernel_rfl) ?_
          refine oSeq ?_
          refine oRegion rfl ?_
          refine oOp (.agg [.ref 2 (List.length xs63) 0 (List.length xs63)]) (by kernel_rfl) (by kernel_rfl) (Quiet.does (k_loadAgg 1 0 (by kernel_rfl) Try.underlying26 (by kernel_rfl) ty26 (by kernel_rfl))) ?_
          refine oOp (.undef) (by kernel_rfl) (by kernel_rfl) (k_store (vs := [.ref 2 (List.length xs63) 0 (List.length xs63)]) (H' := [.box [.ref 2 (List.length xs63) 0 (List.length xs63)], .box [.ref 2 (List.length xs63) 0 (List.length xs63)], .sl 1 (List.map e_i64 xs63) false]) 0 0 (by kernel_rfl) ty26 (by kernel_rfl) (by kernel_rfl) (by kernel_rfl)) ?_
          refine oOp (.d (.int .i64 0)) (by kernel_rfl) (by kernel_rfl) (PureV.does (p_assign (by kernel_rfl))) ?_
          refine oEnd ?_
          refine oFreeze 2 (esz := 1) (xs := List.map e_i64 xs63) (by kernel_rfl) ?_
          refine oView (H' := [.box [.ref 2 (List.length xs63) 0 (List.length xs63)], .box [.ref 2 (List.length xs63) 0 (List.length xs63)], .sl 1 (List.map e_i64 xs63) true]) rfl (by kernel_rfl) ?_
          refine oConvB 0 (cells := [.ref 2 (List.length xs63) 0 (List.length xs63)]) (cells' := [.d (.lit (List.map e_i64 xs63))]) (by kernel_rfl) (.cons _ _ _ _ (k_lit (enc := e_i64) (sz := 1) 2 xs63 (by kernel_rfl)) .nil) ?_
          refine oView (H' := [.box [.d (.lit (List.map e_i64 xs63))], .box [.ref 2 (List.length xs63) 0 (List.length xs63)], .sl 1 (List.map e_i64 xs63) true]) rfl (by kernel_rfl) ?_
          exact oRet (r0 := (xs63, 0)) (rv := .tuple [.agg [.d (.lit (List.map e_i64 xs63))], .d (.int .i64 0)]) (B := []) (vs := [.agg [.d (.lit (List.map e_i64 xs63))], .d (.int .i64 0)]) (σ := []) (by kernel_rfl) Try.func22 rfl (.cons _ _ _ _ (.agg 4 26 0 0 [.d (.lit (List.map e_i64 xs63))] [.d (.lit (List.map e_i64 xs63))] _ _ _ _ (by kernel_rfl) (by kernel_rfl) Try.underlying26 (by kernel_rfl) ty26 (by kernel_rfl) (by kernel_rfl)) (.cons _ _ _ _ (.tmp 5 _ (by kernel_rfl)) .nil)) (by kernel_rfl) (by kernel_rfl) (by kernel_rfl) (by kernel_rfl) (by decide) (by kernel_rfl) (by kernel_rfl)
        · refine oBlock ?_
          refine oLoop ?_
          refine oHead [4, 6, 40, 41, 42] [2, 4, 5, 3] (T' := [(4, .ptr 0 0), (6, .ptr 1 0), (40, .ref 2 (List.length ([(⟨a0⟩ : SDistribution), (⟨b0⟩ : SDistribution)] : List SDistribution)) 0 (List.length ([(⟨a0⟩ : SDistribution), (⟨b0⟩ : SDistribution)] : List SDistribution))), (41, .d (.int .i64 ((List.length ([(⟨a0⟩ : SDistribution), (⟨b0⟩ : SDistribution)] : List SDistribution)) : Int))), (42, .d (.int .i64 0))]) (H' := [.box [.nilc], .box [.ref 3 (List.length xs32) 0 (List.length xs32)], .sl 1 (List.map e_SDistribution ([(⟨a0⟩ : SDistribution), (⟨b0⟩ : SDistribution)] : List SDistribution)) false, .sl 1 (List.map e_i64 xs32) false]) (by kernel_rfl) (by kernel_rfl) (by kernel_rfl) (by kernel_rfl) (by decide) (by kernel_rfl) (by kernel_rfl) ?_
          refine bLoop (body := distribution_Add_b1 k a0 b0) ((uc fun (x28 : Int) => (fun (xs78 : (List Int)) => [(4, .ptr 0 0), (6, .ptr 1 0), (40, .ref 2 (List.length ([(⟨a0⟩ : SDistribution), (⟨b0⟩ : SDistribution)] : List SDistribution)) 0 (List.length ([(⟨a0⟩ : SDistribution), (⟨b0⟩ : SDistribution)] : List SDistribution))), (41, .d (.int .i64 ((List.length ([(⟨a0⟩ : SDistribution), (⟨b0⟩ : SDistribution)] : List SDistribution)) : Int))), (42, .d (.int .i64 x28))]))) ((uc fun (x28 : Int) => (fun (xs78 : (List Int)) => [.box [.nilc], .box [.ref 3 (List.length xs78) 0 (List.length xs78)], .sl 1 (List.map e_SDistribution ([(⟨a0⟩ : SDistribution), (⟨b0⟩ : SDistribution)] : List SDistribution)) false, .sl 1 (List.map e_i64 xs78) false]))) (fun again hag1 s => ?_) k (0, xs32)
          · unfold distribution_Add_b1
            obtain ⟨x28, xs78⟩ := s
            refine bUc ?_
            refine oView (T' := [(4, .ptr 0 0), (6, .ptr 1 0), (40, .ref 2 (List.length ([(⟨a0⟩ : SDistribution), (⟨b0⟩ : SDistribution)] : List SDistribution)) 0 (List.length ([(⟨a0⟩ : SDistribution), (⟨b0⟩ : SDistribution)] : List SDistribution))), (41, .d (.int .i64 ((List.length ([(⟨a0⟩ : SDistribution), (⟨b0⟩ : SDistribution)] : List SDistribution)) : Int))), (42, .d (.int .i64 x28))]) (H' := [.box [.nilc], .box [.ref 3 (List.length xs78) 0 (List.length xs78)], .sl 1 (List.map e_SDistribution ([(⟨a0⟩ : SDistribution), (⟨b0⟩ : SDistribution)] : List SDistribution)) false, .sl 1 (List.map e_i64 xs78) false]) (by kernel_rfl) (by kernel_rfl) ?_
            refine oSeq ?_
            refine oRegion rfl ?_
            refine oOp (.d (.bool (decide (x28 < ((List.length ([(⟨a0⟩ : SDistribution), (⟨b0⟩ : SDistribution)] : List SDistribution)) : Int))))) (by kernel_rfl) (by kernel_rfl) (PureV.does (p_int (k := .i64) (p := x28) (q := ((List.length ([(⟨a0⟩ : SDistribution), (⟨b0⟩ : SDistribution)] : List SDistribution)) : Int)) (by kernel_rfl) (by kernel_rfl) (by kernel_rfl))) ?_
            refine oEnd ?_
            refine oSeq ?_
            refine bSplit 43 (by kernel_rfl) (fun hc => ?_) (fun hc => ?_)
            · refine oCondT (by kernel_rfl) ?_
              refine oSkip ?_
              refine oSeq ?_
              refine oBlock ?_
              refine oSeq ?_
              refine oRegion rfl ?_
              refine bIdx (fun e1117 h1238 h1239 => ?_)
              refine oOp (.eptr 2 (List.length ([(⟨a0⟩ : SDistribution), (⟨b0⟩ : SDistribution)] : List SDistribution)) (Int.toNat x28) 0) (by kernel_rfl) (by kernel_rfl) (PureV.does (k_idxRef (enc := e_SDistribution) (fro := false) ([(⟨a0⟩ : SDistribution), (⟨b0⟩ : SDistribution)] : List SDistribution) (a := e1117) (by kernel_rfl) (k := .i64) (i := x28) (by kernel_rfl) (by kernel_rfl) Try.underlying71 ty26 h1238 h1239)) ?_
              refine oOp (.agg [.d (.lit (List.map e_i64 e1117.Counts))]) (by kernel_rfl) (by kernel_rfl) (Quiet.does (k_loadEAgg (enc := e_SDistribution) (sz0 := 1) (fro := false) 2 0 ([(⟨a0⟩ : SDistribution), (⟨b0⟩ : SDistribution)] : List SDistribution) [(.lit (List.map e_i64 e1117.Counts))] (by kernel_rfl) (by kernel_rfl) Try.underlying26 (by kernel_rfl) ty26 h1239 (by kernel_rfl) (by kernel_rfl) (by kernel_rfl))) ?_
              refine oOp (.ptr 4 0) (by kernel_rfl) (by kernel_rfl) (k_alloc (H' := [.box [.nilc], .box [.ref 3 (List.length xs78) 0 (List.length xs78)], .sl 1 (List.map e_SDistribution ([(⟨a0⟩ : SDistribution), (⟨b0⟩ : SDistribution)] : List SDistribution)) false, .sl 1 (List.map e_i64 xs78) false, .box [.nilc]]) ty26 (by kernel_rfl) (by kernel_rfl)) ?_
              refine oOp (.undef) (by kernel_rfl) (by kernel_rfl) (k_store (vs := [.d (.lit (List.map e_i64 e1117.Counts))]) (H' := [.box [.nilc], .box [.ref 3 (List.length xs78) 0 (List.length xs78)], .sl 1 (List.map e_SDistribution ([(⟨a0⟩ : SDistribution), (⟨b0⟩ : SDistribution)] : List SDistribution)) false, .sl 1 (List.map e_i64 xs78) false, .box [.d (.lit (List.map e_i64 e1117.Counts))]]) 4 0 (by kernel_rfl) ty26 (by kernel_rfl) (by kernel_rfl) (by kernel_rfl)) ?_
              refine oEnd ?_
              refine oSeq ?_
              refine oRegion rfl ?_
              refine oOp (.ptr 4 0) (by kernel_rfl) (by kernel_rfl) (PureV.does (k_fieldAddr 4 0 (by kernel_rfl) Try.underlying26 rfl ty22 (by kernel_rfl))) ?_
              refine oOp (.d (.lit (List.map e_i64 e1117.Counts))) (by kernel_rfl) (by kernel_rfl) (Quiet.does (k_load 4 0 (by kernel_rfl) Try.underlying22 (by kernel_rfl) (by kernel_rfl))) ?_
              refine oOp (.d (.int .i64 ((List.length e1117.Counts) : Int))) (by kernel_rfl) (by kernel_rfl) (PureV.does (k_lenLit (enc := e_i64) e1117.Counts (by kernel_rfl) Try.underlying22)) ?_
              refine oOp (.d (.int .i64 0)) (by kernel_rfl) (by kernel_rfl) (PureV.does (p_move (by kernel_rfl))) ?_
              refine oEnd ?_
              refine bJoin ((fun (xs107 : (List Int)) => [(4, .ptr 0 0), (6, .ptr 1 0), (40, .ref 2 (List.length ([(⟨a0⟩ : SDistribution), (⟨b0⟩ : SDistribution)] : List SDistribution)) 0 (List.length ([(⟨a0⟩ : SDistribution), (⟨b0⟩ : SDistribution)] : List SDistribution))), (41, .d (.int .i64 ((List.length ([(⟨a0⟩ : SDistribution), (⟨b0⟩ : SDistribution)] : List SDistribution)) : Int))), (42, .d (.int .i64 x28))])) ((fun (xs107 : (List Int)) => [.box [.nilc], .box [.ref 3 (List.length xs107) 0 (List.length xs107)], .sl 1 (List.map e_SDistribution ([(⟨a0⟩ : SDistribution), (⟨b0⟩ : SDistribution)] : List SDistribution)) false, .sl 1 (List.map e_i64 xs107) false])) (fun s => s) (fun xs107 => ?_) (fun hj16 => ?_)
              · refine oView (T' := [(4, .ptr 0 0), (6, .ptr 1 0), (40, .ref 2 (List.length ([(⟨a0⟩ : SDistribution), (⟨b0⟩ : SDistribution)] : List SDistribution)) 0 (List.length ([(⟨a0⟩ : SDistribution), (⟨b0⟩ : SDistribution)] : List SDistribution))), (41, .d (.int .i64 ((List.length ([(⟨a0⟩ : SDistribution), (⟨b0⟩ : SDistribution)] : List SDistribution)) : Int))), (42, .d (.int .i64 x28))]) (H' := [.box [.nilc], .box [.ref 3 (List.length xs107) 0 (List.length xs107)], .sl 1 (List.map e_SDistribution ([(⟨a0⟩ : SDistribution), (⟨b0⟩ : SDistribution)] : List SDistribution)) false, .sl 1 (List.map e_i64 xs107) false]) (by kernel_rfl) (by kernel_rfl) ?_
                refine oBlk ?_
                refine oRegion rfl ?_
                refine oOp (.d (.int .i64 (IntKind.wrap .i64 (x28 + 1)))) (by kernel_rfl) (by kernel_rfl) (PureV.does (p_int (k := .i64) (p := x28) (q := 1) (by kernel_rfl) (by kernel_rfl) (by kernel_rfl))) ?_
                refine oOp (.d (.int .i64 (IntKind.wrap .i64 (x28 + 1)))) (by kernel_rfl) (by kernel_rfl) (PureV.does (p_move (by kernel_rfl))) ?_
                refine oEnd ?_
                refine oAgain ?_
                refine oHead [4, 6, 40, 41, 42] [0, 1, 2, 3] (T' := [(4, .ptr 0 0), (6, .ptr 1 0), (40, .ref 2 (List.length ([(⟨a0⟩ : SDistribution), (⟨b0⟩ : SDistribution)] : List SDistribution)) 0 (List.length ([(⟨a0⟩ : SDistribution), (⟨b0⟩ : SDistribution)] : List SDistribution))), (41, .d (.int .i64 ((List.length ([(⟨a0⟩ : SDistribution), (⟨b0⟩ : SDistribution)] : List SDistribution)) : Int))), (42, .d (.int .i64 (IntKind.wrap .i64 (x28 + 1))))]) (H' := [.box [.nilc], .box [.ref 3 (List.length xs107) 0 (List.length xs107)], .sl 1 (List.map e_SDistribution ([(⟨a0⟩ : SDistribution), (⟨b0⟩ : SDistribution)] : List SDistribution)) false, .sl 1 (List.map e_i64 xs107) false]) (by kernel_rfl) (by kernel_rfl) (by kernel_rfl) (by kernel_rfl) (by decide) (by kernel_rfl) (by kernel_rfl) ?_
                exact hag1 ((IntKind.wrap .i64 (x28 + 1)), xs107)
              · refine oBlock ?_
                refine oLoop ?_
                refine oHead [4, 6, 40, 41, 42, 47, 48, 49] [0, 1, 2, 3] (T' := [(4, .ptr 0 0), (6, .ptr 1 0), (40, .ref 2 (List.length ([(⟨a0⟩ : SDistribution), (⟨b0⟩ : SDistribution)] : List SDistribution)) 0 (List.length ([(⟨a0⟩ : SDistribution), (⟨b0⟩ : SDistribution)] : List SDistribution))), (41, .d (.int .i64 ((List.length ([(⟨a0⟩ : SDistribution), (⟨b0⟩ : SDistribution)] : List SDistribution)) : Int))), (42, .d (.int .i64 x28)), (47, .d (.lit (List.map e_i64 e1117.Counts))), (48, .d (.int .i64 ((List.length e1117.Counts) : Int))), (49, .d (.int .i64 0))]) (H' := [.box [.nilc], .box [.ref 3 (List.length xs78) 0 (List.length xs78)], .sl 1 (List.map e_SDistribution ([(⟨a0⟩ : SDistribution), (⟨b0⟩ : SDistribution)] : List SDistribution)) false, .sl 1 (List.map e_i64 xs78) false]) (by kernel_rfl) (by kernel_rfl) (by kernel_rfl) (by kernel_rfl) (by decide) (by kernel_rfl) (by kernel_rfl) ?_
                refine bLoop (body := distribution_Add_b2 k e1117) ((uc fun (x38 : Int) => (fun (xs110 : (List Int)) => [(4, .ptr 0 0), (6, .ptr 1 0), (40, .ref 2 (List.length ([(⟨a0⟩ : SDistribution), (⟨b0⟩ : SDistribution)] : List SDistribution)) 0 (List.length ([(⟨a0⟩ : SDistribution), (⟨b0⟩ : SDistribution)] : List SDistribution))), (41, .d (.int .i64 ((List.length ([(⟨a0⟩ : SDistribution), (⟨b0⟩ : SDistribution)] : List SDistribution)) : Int))), (42, .d (.int .i64 x28)), (47, .d (.lit (List.map e_i64 e1117.Counts))), (48, .d (.int .i64 ((List.length e1117.Counts) : Int))), (49, .d (.int .i64 x38))]))) ((uc fun (x38 : Int) => (fun (xs110 : (List Int)) => [.box [.nilc], .box [.ref 3 (List.length xs110) 0 (List.length xs110)], .sl 1 (List.map e_SDistribution ([(⟨a0⟩ : SDistribution), (⟨b0⟩ : SDistribution)] : List SDistribution)) false, .sl 1 (List.map e_i64 xs110) false]))) (fun again hag2 s => ?_) k (0, xs78)
                · unfold distribution_Add_b2
                  obtain ⟨x38, xs110⟩ := s
                  refine bUc ?_
                  refine oView (T' := [(4, .ptr 0 0), (6, .ptr 1 0), (40, .ref 2 (List.length ([(⟨a0⟩ : SDistribution), (⟨b0⟩ : SDistribution)] : List SDistribution)) 0 (List.length ([(⟨a0⟩ : SDistribution), (⟨b0⟩ : SDistribution)] : List SDistribution))), (41, .d (.int .i64 ((List.length ([(⟨a0⟩ : SDistribution), (⟨b0⟩ : SDistribution)] : List SDistribution)) : Int))), (42, .d (.int .i64 x28)), (47, .d (.lit (List.map e_i64 e1117.Counts))), (48, .d (.int .i64 ((List.length e1117.Counts) : Int))), (49, .d (.int .i64 x38))]) (H' := [.box [.nilc], .box [.ref 3 (List.length xs110) 0 (List.length xs110)], .sl 1 (List.map e_SDistribution ([(⟨a0⟩ : SDistribution), (⟨b0⟩ : SDistribution)] : List SDistribution)) false, .sl 1 (List.map e_i64 xs110) false]) (by kernel_rfl) (by kernel_rfl) ?_
                  refine oSeq ?_
                  refine oRegion rfl ?_
                  refine oOp (.d (.bool (decide (x38 < ((List.length e1117.Counts) : Int))))) (by kernel_rfl) (by kernel_rfl) (PureV.does (p_int (k := .i64) (p := x38) (q := ((List.length e1117.Counts) : Int)) (by kernel_rfl) (by kernel_rfl) (by kernel_rfl))) ?_
                  refine oEnd ?_
                  refine oSeq ?_
                  refine bSplit 50 (by kernel_rfl) (fun hc => ?_) (fun hc => ?_)
                  · refine oCondT (by kernel_rfl) ?_
                    refine oSkip ?_
                    refine oSeq ?_
                    refine oBlock ?_
                    refine oSeq ?_
                    refine oRegion rfl ?_
                    refine oOp (.d (.int .i64 x38)) (by kernel_rfl) (by kernel_rfl) (PureV.does (p_move (by kernel_rfl))) ?_
                    refine bIdx (fun e1136 h1276 h1277 => ?_)
                    refine oOp (.lptr (e_i64 e1136) 0) (by kernel_rfl) (by kernel_rfl) (PureV.does (k_idxLit e_i64_len e1117.Counts (a := e1136) (by kernel_rfl) (k := .i64) (i := x38) (by kernel_rfl) Try.underlying22 ty3 h1276 h1277)) ?_
                    refine oOp (.d (.int .i64 e1136)) (by kernel_rfl) (by kernel_rfl) (Quiet.does (k_loadL (cells := e_i64 e1136) 0 (by kernel_rfl) Try.underlying3 (by kernel_rfl) (by kernel_rfl))) ?_
                    refine oOp (.d (.int .i64 x38)) (by kernel_rfl) (by kernel_rfl) (PureV.does (p_assign (by kernel_rfl))) ?_
                    refine oOp (.d (.int .i64 e1136)) (by kernel_rfl) (by kernel_rfl) (PureV.does (p_assign (by kernel_rfl))) ?_
                    refine oEnd ?_
                    refine oRegion rfl ?_
                    refine oOp (.ptr 1 0) (by kernel_rfl) (by kernel_rfl) (PureV.does (k_fieldAddr 1 0 (by kernel_rfl) Try.underlying26 rfl ty22 (by kernel_rfl))) ?_
                    refine oOp (.ref 3 (List.length xs110) 0 (List.length xs110)) (by kernel_rfl) (by kernel_rfl) (Quiet.does (k_load 1 0 (by kernel_rfl) Try.underlying22 (by kernel_rfl) (by kernel_rfl))) ?_
                    refine oOp (.d (.int .i64 x38)) (by kernel_rfl) (by kernel_rfl) (PureV.does (p_move (by kernel_rfl))) ?_
                    refine bIdx (fun e1137 h1278 h1279 => ?_)
                    refine oOp (.eptr 3 (List.length xs110) (Int.toNat x38) 0) (by kernel_rfl) (by kernel_rfl) (PureV.does (k_idxRef (enc := e_i64) (fro := false) xs110 (a := e1137) (by kernel_rfl) (k := .i64) (i := x38) (by kernel_rfl) (by kernel_rfl) Try.underlying22 ty3 h1278 h1279)) ?_
                    refine oOp (.d (.int .i64 e1137)) (by kernel_rfl) (by kernel_rfl) (Quiet.does (k_loadE (enc := e_i64) (sz := 1) (fro := false) 3 0 xs110 (by kernel_rfl) (by kernel_rfl) Try.underlying3 (by kernel_rfl) h1279 (by kernel_rfl))) ?_
                    refine oOp (.d (.int .i64 e1136)) (by kernel_rfl) (by kernel_rfl) (PureV.does (p_move (by kernel_rfl))) ?_
                    refine oOp (.d (.int .i64 (IntKind.wrap .i64 (e1137 + e1136)))) (by kernel_rfl) (by kernel_rfl) (PureV.does (p_int (k := .i64) (p := e1137) (q := e1136) (by kernel_rfl) (by kernel_rfl) (by kernel_rfl))) ?_
                    refine oOp (.eptr 3 (List.length xs110) (Int.toNat x38) 0) (by kernel_rfl) (by kernel_rfl) (PureV.does (k_idxRef (enc := e_i64) (fro := false) xs110 (a := e1137) (by kernel_rfl) (k := .i64) (i := x38) (by kernel_rfl) (by kernel_rfl) Try.underlying22 ty3 h1278 h1279)) ?_
                    refine bSet _ (fun xs115 hs63 => ?_)
                    refine oOp (.undef) (by kernel_rfl) (by kernel_rfl) (k_storeE (H' := [.box [.nilc], .box [.ref 3 (List.length xs110) 0 (List.length xs110)], .sl 1 (List.map e_SDistribution ([(⟨a0⟩ : SDistribution), (⟨b0⟩ : SDistribution)] : List SDistribution)) false, .sl 1 (List.map e_i64 xs115) false]) 3 0 xs110 (IntKind.wrap .i64 (e1137 + e1136)) [(.int .i64 (IntKind.wrap .i64 (e1137 + e1136)))] e_i64_len (by kernel_rfl) (by kernel_rfl) h1279 ty3 (by kernel_rfl) (by kernel_rfl) (by kernel_rfl) hs63 (by kernel_rfl)) ?_
                    refine oHead [4, 6, 40, 41, 42, 47, 48, 49] [0, 1, 2, 3] (T' := [(4, .ptr 0 0), (6, .ptr 1 0), (40, .ref 2 (List.length ([(⟨a0⟩ : SDistribution), (⟨b0⟩ : SDistribution)] : List SDistribution)) 0 (List.length ([(⟨a0⟩ : SDistribution), (⟨b0⟩ : SDistribution)] : List SDistribution))), (41, .d (.int .i64 ((List.length ([(⟨a0⟩ : SDistribution), (⟨b0⟩ : SDistribution)] : List SDistribution)) : Int))), (42, .d (.int .i64 x28)), (47, .d (.lit (List.map e_i64 e1117.Counts))), (48, .d (.int .i64 ((List.length e1117.Counts) : Int))), (49, .d (.int .i64 x38))]) (H' := [.box [.nilc], .box [.ref 3 (List.length xs110) 0 (List.length xs110)], .sl 1 (List.map e_SDistribution ([(⟨a0⟩ : SDistribution), (⟨b0⟩ : SDistribution)] : List SDistribution)) false, .sl 1 (List.map e_i64 xs115) false]) (by kernel_rfl) (by kernel_rfl) (by kernel_rfl) (by kernel_rfl) (by decide) (by kernel_rfl) (by kernel_rfl) ?_
                    refine oView (T' := [(4, .ptr 0 0), (6, .ptr 1 0), (40, .ref 2 (List.length ([(⟨a0⟩ : SDistribution), (⟨b0⟩ : SDistribution)] : List SDistribution)) 0 (List.length ([(⟨a0⟩ : SDistribution), (⟨b0⟩ : SDistribution)] : List SDistribution))), (41, .d (.int .i64 ((List.length ([(⟨a0⟩ : SDistribution), (⟨b0⟩ : SDistribution)] : List SDistribution)) : Int))), (42, .d (.int .i64 x28)), (47, .d (.lit (List.map e_i64 e1117.Counts))), (48, .d (.int .i64 ((List.length e1117.Counts) : Int))), (49, .d (.int .i64 x38))]) (H' := [.box [.nilc], .box [.ref 3 (List.length xs115) 0 (List.length xs115)], .sl 1 (List.map e_SDistribution ([(⟨a0⟩ : SDistribution), (⟨b0⟩ : SDistribution)] : List SDistribution)) false, .sl 1 (List.map e_i64 xs115) false]) (by first | rw [(set_len hs63)] | rfl) (by first | rw [(set_len hs63)] | rfl) ?_
                    refine oEnd ?_
                    refine oBlk ?_
                    refine oRegion rfl ?_
                    refine oOp (.d (.int .i64 (IntKind.wrap .i64 (x38 + 1)))) (by kernel_rfl) (by kernel_rfl) (PureV.does (p_int (k := .i64) (p := x38) (q := 1) (by kernel_rfl) (by kernel_rfl) (by kernel_rfl))) ?_
                    refine oOp (.d (.int .i64 (IntKind.wrap .i64 (x38 + 1)))) (by kernel_rfl) (by kernel_rfl) (PureV.does (p_move (by kernel_rfl))) ?_
                    refine oEnd ?_
                    refine oAgain ?_
                    refine oHead [4, 6, 40, 41, 42, 47, 48, 49] [0, 1, 2, 3] (T' := [(4, .ptr 0 0), (6, .ptr 1 0), (40, .ref 2 (List.length ([(⟨a0⟩ : SDistribution), (⟨b0⟩ : SDistribution)] : List SDistribution)) 0 (List.length ([(⟨a0⟩ : SDistribution), (⟨b0⟩ : SDistribution)] : List SDistribution))), (41, .d (.int .i64 ((List.length ([(⟨a0⟩ : SDistribution), (⟨b0⟩ : SDistribution)] : List SDistribution)) : Int))), (42, .d (.int .i64 x28)), (47, .d (.lit (List.map e_i64 e1117.Counts))), (48, .d (.int .i64 ((List.length e1117.Counts) : Int))), (49, .d (.int .i64 (IntKind.wrap .i64 (x38 + 1))))]) (H' := [.box [.nilc], .box [.ref 3 (List.length xs115) 0 (List.length xs115)], .sl 1 (List.map e_SDistribution ([(⟨a0⟩ : SDistribution), (⟨b0⟩ : SDistribution)] : List SDistribution)) false, .sl 1 (List.map e_i64 xs115) false]) (by kernel_rfl) (by kernel_rfl) (by kernel_rfl) (by kernel_rfl) (by decide) (by kernel_rfl) (by kernel_rfl) ?_
                    exact hag2 ((IntKind.wrap .i64 (x38 + 1)), xs115)
                  · refine oCondF (by kernel_rfl) ?_
                    refine oExit rfl ?_
                    refine oHead [4, 6, 40, 41, 42] [0, 1, 2, 3] (T' := [(4, .ptr 0 0), (6, .ptr 1 0), (40, .ref 2 (List.length ([(⟨a0⟩ : SDistribution), (⟨b0⟩ : SDistribution)] : List SDistribution)) 0 (List.length ([(⟨a0⟩ : SDistribution), (⟨b0⟩ : SDistribution)] : List SDistribution))), (41, .d (.int .i64 ((List.length ([(⟨a0⟩ : SDistribution), (⟨b0⟩ : SDistribution)] : List SDistribution)) : Int))), (42, .d (.int .i64 x28))]) (H' := [.box [.nilc], .box [.ref 3 (List.length xs110) 0 (List.length xs110)], .sl 1 (List.map e_SDistribution ([(⟨a0⟩ : SDistribution), (⟨b0⟩ : SDistribution)] : List SDistribution)) false, .sl 1 (List.map e_i64 xs110) false]) (by kernel_rfl) (by kernel_rfl) (by kernel_rfl) (by kernel_rfl) (by decide) (by kernel_rfl) (by kernel_rfl) ?_
                    exact hj16 xs110
            · refine oCondF (by kernel_rfl) ?_
              refine oExit rfl ?_
              refine oHead [4, 6] [0, 1, 3] (T' := [(4, .ptr 0 0), (6, .ptr 1 0)]) (H' := [.box [.nilc], .box [.ref 2 (List.length xs78) 0 (List.length xs78)], .sl 1 (List.map e_i64 xs78) false]) (by kernel_rfl) (by kernel_rfl) (by kernel_rfl) (by kernel_rfl) (by decide) (by kernel_rfl) (by kernel_rfl) ?_
              exact hj10 xs78
  · refine bSplit 15 (by kernel_rfl) (fun hc => ?_) (fun hc => ?_)
    · refine oNot (by kernel_rfl) (by kernel_rfl) ?_
      refine oNot (by kernel_rfl) (by kernel_rfl) ?_
      refine oNot (by kernel_rfl) (by kernel_rfl) ?_
      refine oOp (.d (.bool true)) (by kernel_rfl) (by kernel_rfl) (PureV.does (p_pick (b := true) (by kernel_rfl) (by kernel_rfl))) ?_
      refine oHead [2, 3, 4, 19] [0, 1, 2] (T' := [(2, .ptr 0 0), (3, .ptr 1 0), (4, .ptr 2 0), (19, .d (.bool true))]) (H' := [.box [.d (.lit (List.map e_i64 a0))], .box [.d (.lit (List.map e_i64 b0))], .box [.nilc]]) (by kernel_rfl) (by kernel_rfl) (by kernel_rfl) (by kernel_rfl) (by decide) (by kernel_rfl) (by kernel_rfl) ?_
      exact hj17 true
    · refine oOp (.agg [.d (.lit (List.map e_i64 b0))]) (by kernel_rfl) (by kernel_rfl) (Quiet.does (k_loadAgg 1 0 (by kernel_rfl) Try.underlying26 (by kernel_rfl) ty26 (by kernel_rfl))) ?_
      refine bCall (caps := []) (v := (fun (r128 : Bool) => (.d (.bool r128) : V))) (H' := (fun (r128 : Bool) => ([.box [.d (.lit (List.map e_i64 a0))], .box [.d (.lit (List.map e_i64 b0))], .box [.nilc]] : List Blk))) [] _ (distribution_Valid_goes k b0) (by kernel_rfl) (by kernel_rfl) rfl (by kernel_rfl) Try.func28 rfl (by kernel_rfl) (ConvRs.refl _ _) (by kernel_rfl) (by kernel_rfl) (by kernel_rfl) (by decide) (by kernel_rfl) (by kernel_rfl) (fun _ => (by kernel_rfl)) (fun _ => (by kernel_rfl)) (fun _ => (by kernel_rfl)) (fun r128 => ?_)
      refine oOp (.d (.bool (!r128))) (by kernel_rfl) (by kernel_rfl) (PureV.does (p_not (p := r128) (by kernel_rfl) (by kernel_rfl))) ?_
      refine oOp (.d (.bool (!r128))) (by kernel_rfl) (by kernel_rfl) (PureV.does (p_pick (b := false) (by kernel_rfl) (by kernel_rfl))) ?_
      refine oHead [2, 3, 4, 19] [0, 1, 2] (T' := [(2, .ptr 0 0), (3, .ptr 1 0), (4, .ptr 2 0), (19, .d (.bool (!r128)))]) (H' := [.box [.d (.lit (List.map e_i64 a0))], .box [.d (.lit (List.map e_i64 b0))], .box [.nilc]]) (by kernel_rfl) (by kernel_rfl) (by kernel_rfl) (by kernel_rfl) (by decide) (by kernel_rfl) (by kernel_rfl) ?_
      exact hj17 (!r128)

/-- awardingbody/awardingbodylaw32.DistributionSums -/
def law32_DistributionSums_b1 (k : Nat) (r1210 : (List Int)) (r1211 : (List Int)) (r130 : (List Int)) (again : Int × Int × Int → Option ((Unit) ⊕ (Bool))) : Int × Int × Int → Option ((Unit) ⊕ (Bool)) := uc fun s14 => uc fun x37 => fun x38 => bif (decide (s14 ≤ 10)) then Option.bind (Option.bind (distribution_Below k r130 s14) (fun r114 => Option.bind (distribution_Below k r1210 s14) (fun r115 => Option.bind (distribution_Below k r1211 s14) (fun r116 => bif (r114 != (IntKind.wrap .i64 (r115 + r116))) then some (Sum.inr false) else Option.bind (distribution_Rank k r130 s14) (uc fun r1220 => uc fun r1413 => fun r1513 => bif (r1513 == 0) then Option.bind (ref01_Less k r1220 r1413 x37 x38) (fun r170 => bif r170 then some (Sum.inr false) else some (Sum.inl (r1220, r1413))) else some (Sum.inl (x37, x38)))))) : Option ((Int × Int) ⊕ (Bool))) (Sum.elim (uc fun x43 => fun x44 => again ((IntKind.wrap .i64 (s14 + 1)), x43, x44)) (fun r => some (Sum.inr r))) else some (Sum.inl ())
def law32_DistributionSums (k : Nat) (t : (List Int)) : Option (Bool) := Option.bind (mark_Light k t) (u0 (bif (!(decide (((List.length t) : Int) ≤ 600))) then Option.bind (law32_sane k) (fun r129 => some r129) else Option.bind (mark_Roll k t) (u0 (Option.bind (mark_Dice_Distribution k 8 false t 0) (uc fun r1210 => fun x72 => Option.bind (mark_Dice_Distribution k 8 false t x72) (uc fun r1211 => fun x73 => Option.bind (distribution_Add k r1210 r1211) (uc fun r130 => fun r132 => Option.bind (bif (r132 != 0) then some true else Option.bind (distribution_Count k r130) (fun r111 => Option.bind (distribution_Count k r1210) (fun r112 => Option.bind (distribution_Count k r1211) (fun r113 => some (r111 != (IntKind.wrap .i64 (r112 + r113)))))) : Option Bool) (fun x18 => bif x18 then some false else Option.bind (gloop (law32_DistributionSums_b1 k r1210 r1211 r130) k (0, 0, 1) : Option ((Unit) ⊕ (Bool))) (Sum.elim (u0 (Option.bind (distribution_Mean k r1210) (uc fun r1214 => uc fun r147 => fun r157 => Option.bind (distribution_Mean k r1211) (uc fun r1215 => uc fun r148 => fun r158 => Option.bind (distribution_Mean k r130) (uc fun r1216 => uc fun r149 => fun r159 => blet ((r157 != 0) || (r158 != 0)) fun x27 => bif x27 then Option.bind (law32_sane k) (fun r136 => some r136) else Option.bind (bif (r159 == 0) then Option.bind (ref01_Less k r1216 r149 r1214 r147) (fun r164 => Option.bind (bif r164 then Option.bind (ref01_Less k r1216 r149 r1215 r148) (fun r166 => some r166) else some false : Option (Bool)) (fun x34 => some (!x34))) else some false : Option (Bool)) (fun x29 => Option.bind (bif x29 then Option.bind (ref01_Less k r1214 r147 r1216 r149) (fun r161 => Option.bind (bif r161 then Option.bind (ref01_Less k r1215 r148 r1216 r149) (fun r163 => some r163) else some false : Option (Bool)) (fun x33 => some (!x33))) else some false : Option (Bool)) (fun x31 => Option.bind (bif x31 then Option.bind (law32_sane k) (fun r160 => some r160) else some false : Option (Bool)) (fun x32 => some x32)))))))) (fun r => some r))))))))))
def law32_DistributionSums_E (t : (List Int)) : Bool → V × List Blk := fun r127 => (.d (.bool r127), [])
theorem law32_DistributionSums_goes (k : Nat) (t : (List Int)) : RunsO Try.prog 6 [.d (.lit (List.map e_i64 t))] [] (law32_DistributionSums_E t) (law32_DistributionSums k t) := by
  refine RunsO.of_goes (N := 123) (m := 0) (T := [(0, .d (.lit (List.map e_i64 t)))]) Try.func6 rfl rfl (by kernel_rfl) (by kernel_rfl) (by kernel_rfl) ?_
  unfold law32_DistributionSums
  refine bStart ?_
  refine oSeq ?_
  refine oRegion rfl ?_
  refine oOp (.d (.bool false)) (by kernel_rfl) (by kernel_rfl) (PureV.does (p_assign (by kernel_rfl))) ?_
  refine oEnd ?_
  refine oSeq ?_
  refine oSeq ?_
  refine oRegion rfl ?_
  refine oOp (.d (.lit (List.map e_i64 t))) (by kernel_rfl) (by kernel_rfl) (PureV.does (p_move (by kernel_rfl))) ?_
  refine bCall (caps := []) (v := (u0 ((.d (.bool (decide (((List.length t) : Int) ≤ 600))) : V)))) (H' := (u0 (([] : List Blk)))) [] _ (mark_Light_goes k t) (by kernel_rfl) (by kernel_rfl) rfl (by kernel_rfl) Try.func9 rfl (by kernel_rfl) (ConvRs.refl _ _) (by kernel_rfl) (by kernel_rfl) (by kernel_rfl) (by decide) (by kernel_rfl) (by kernel_rfl) (fun _ => (by kernel_rfl)) (fun _ => (by kernel_rfl)) (fun _ => (by kernel_rfl)) (fun r => ?_)
  cases r
  refine bU0 ?_
  refine oOp (.d (.bool (!(decide (((List.length t) : Int) ≤ 600))))) (by kernel_rfl) (by kernel_rfl) (PureV.does (p_not (p := (decide (((List.length t) : Int) ≤ 600))) (by kernel_rfl) (by kernel_rfl))) ?_
  refine oEnd ?_
  refine bSplit 20 (by kernel_rfl) (fun hc => ?_) (fun hc => ?_)
  · refine oCondT (by kernel_rfl) ?_
    refine oSeq ?_
    refine oRegion rfl ?_
    refine bCall (caps := []) (v := (fun (r129 : Bool) => (.d (.bool r129) : V))) (H' := (fun (r129 : Bool) => ([] : List Blk))) [] _ (law32_sane_goes k ) (by kernel_rfl) (by kernel_rfl) rfl (by kernel_rfl) Try.func10 rfl (by kernel_rfl) (ConvRs.refl _ _) (by kernel_rfl) (by kernel_rfl) (by kernel_rfl) (by decide) (by kernel_rfl) (by kernel_rfl) (fun _ => (by kernel_rfl)) (fun _ => (by kernel_rfl)) (fun _ => (by kernel_rfl)) (fun r129 => ?_)
    refine oOp (.d (.bool r129)) (by kernel_rfl) (by kernel_rfl) (PureV.does (p_assign (by kernel_rfl))) ?_
    refine oEnd ?_
    exact oRet (r0 := r129) (rv := .d (.bool r129)) (B := []) (vs := [.d (.bool r129)]) (σ := []) (by kernel_rfl) Try.func6 rfl (.cons _ _ _ _ (.tmp 2 _ (by kernel_rfl)) .nil) (by kernel_rfl) (by kernel_rfl) (by kernel_rfl) (by kernel_rfl) (by decide) (by kernel_rfl) (by kernel_rfl)
  · refine oCondF (by kernel_rfl) ?_
    refine oSkip ?_
    refine oSeq ?_
    refine oRegion rfl ?_
    refine oOp (.d (.lit (List.map e_i64 t))) (by kernel_rfl) (by kernel_rfl) (PureV.does (p_move (by kernel_rfl))) ?_
    refine bCall (caps := []) (v := (u0 ((.ptr 0 0 : V)))) (H' := (u0 (([.box [.d (.lit (List.map e_i64 t)), .d (.int .i64 0)]] : List Blk)))) [] _ (mark_Roll_goes k t) (by kernel_rfl) (by kernel_rfl) rfl (by kernel_rfl) Try.func11 rfl (by kernel_rfl) (ConvRs.refl _ _) (by kernel_rfl) (by kernel_rfl) (by kernel_rfl) (by decide) (by kernel_rfl) (by kernel_rfl) (fun _ => (by kernel_rfl)) (fun _ => (by kernel_rfl)) (fun _ => (by kernel_rfl)) (fun r => ?_)
    cases r
    refine bU0 ?_
    refine oOp (.ptr 0 0) (by kernel_rfl) (by kernel_rfl) (PureV.does (p_assign (by kernel_rfl))) ?_
    refine oEnd ?_
    refine oSeq ?_
    refine oRegion rfl ?_
    refine oOp (.ptr 0 0) (by kernel_rfl) (by kernel_rfl) (PureV.does (p_move (by kernel_rfl))) ?_
    refine bCall (caps := []) (v := (uc fun (r1210 : (List Int)) => (fun (x72 : Int) => (.agg [.d (.lit (List.map e_i64 r1210))] : V)))) (H' := (uc fun (r1210 : (List Int)) => (fun (x72 : Int) => ([.box [.d (.lit (List.map e_i64 t)), .d (.int .i64 x72)]] : List Blk)))) [0] _ (mark_Dice_Distribution_goes k 8 false t 0) (by kernel_rfl) (by kernel_rfl) rfl (by kernel_rfl) Try.func12 rfl (by kernel_rfl) (ConvRs.refl _ _) (by kernel_rfl) (by kernel_rfl) (by kernel_rfl) (by decide) (by kernel_rfl) (by kernel_rfl) (fun _ => (by kernel_rfl)) (fun _ => (by kernel_rfl)) (fun _ => (by kernel_rfl)) (fun r => ?_)
    obtain ⟨r1210, x72⟩ := r
    refine bUc ?_
    refine oOp (.ptr 0 0) (by kernel_rfl) (by kernel_rfl) (PureV.does (p_move (by kernel_rfl))) ?_
    refine bCall (caps := []) (v := (uc fun (r1211 : (List Int)) => (fun (x73 : Int) => (.agg [.d (.lit (List.map e_i64 r1211))] : V)))) (H' := (uc fun (r1211 : (List Int)) => (fun (x73 : Int) => ([.box [.d (.lit (List.map e_i64 t)), .d (.int .i64 x73)]] : List Blk)))) [0] _ (mark_Dice_Distribution_goes k 8 false t x72) (by kernel_rfl) (by kernel_rfl) rfl (by kernel_rfl) Try.func12 rfl (by kernel_rfl) (ConvRs.refl _ _) (by kernel_rfl) (by kernel_rfl) (by kernel_rfl) (by decide) (by kernel_rfl) (by kernel_rfl) (fun _ => (by kernel_rfl)) (fun _ => (by kernel_rfl)) (fun _ => (by kernel_rfl)) (fun r => ?_)
    obtain ⟨r1211, x73⟩ := r
    refine bUc ?_
    refine oOp (.ptr 1 0) (by kernel_rfl) (by kernel_rfl) (k_alloc (H' := [.box [.d (.lit (List.map e_i64 t)), .d (.int .i64 x73)], .box [.nilc]]) ty26 (by kernel_rfl) (by kernel_rfl)) ?_
    refine oOp (.ptr 2 0) (by kernel_rfl) (by kernel_rfl) (k_alloc (H' := [.box [.d (.lit (List.map e_i64 t)), .d (.int .i64 x73)], .box [.nilc], .box [.nilc]]) ty26 (by kernel_rfl) (by kernel_rfl)) ?_
    refine oOp (.undef) (by kernel_rfl) (by kernel_rfl) (k_store (vs := [.d (.lit (List.map e_i64 r1210))]) (H' := [.box [.d (.lit (List.map e_i64 t)), .d (.int .i64 x73)], .box [.d (.lit (List.map e_i64 r1210))], .box [.nilc]]) 1 0 (by kernel_rfl) ty26 (by kernel_rfl) (by kernel_rfl) (by kernel_rfl)) ?_
    refine oOp (.undef) (by kernel_rfl) (by kernel_rfl) (k_store (vs := [.d (.lit (List.map e_i64 r1211))]) (H' := [.box [.d (.lit (List.map e_i64 t)), .d (.int .i64 x73)], .box [.d (.lit (List.map e_i64 r1210))], .box [.d (.lit (List.map e_i64 r1211))]]) 2 0 (by kernel_rfl) ty26 (by kernel_rfl) (by kernel_rfl) (by kernel_rfl)) ?_
    refine oEnd ?_
    refine oSeq ?_
    refine oRegion rfl ?_
    refine oOp (.agg [.d (.lit (List.map e_i64 r1210))]) (by kernel_rfl) (by kernel_rfl) (Quiet.does (k_loadAgg 1 0 (by kernel_rfl) Try.underlying26 (by kernel_rfl) ty26 (by kernel_rfl))) ?_
    refine oOp (.agg [.d (.lit (List.map e_i64 r1211))]) (by kernel_rfl) (by kernel_rfl) (Quiet.does (k_loadAgg 2 0 (by kernel_rfl) Try.underlying26 (by kernel_rfl) ty26 (by kernel_rfl))) ?_
    refine bCall (caps := []) (v := (uc fun (r130 : (List Int)) => (fun (r132 : Int) => (.tuple [.agg [.d (.lit (List.map e_i64 r130))], .d (.int .i64 r132)] : V)))) (H' := (uc fun (r130 : (List Int)) => (fun (r132 : Int) => ([.box [.d (.lit (List.map e_i64 t)), .d (.int .i64 x73)], .box [.d (.lit (List.map e_i64 r1210))], .box [.d (.lit (List.map e_i64 r1211))]] : List Blk)))) [] _ (distribution_Add_goes k r1210 r1211) (by kernel_rfl) (by kernel_rfl) rfl (by kernel_rfl) Try.func22 rfl (by kernel_rfl) (ConvRs.refl _ _) (by kernel_rfl) (by kernel_rfl) (by kernel_rfl) (by decide) (by kernel_rfl) (by kernel_rfl) (fun _ => (by kernel_rfl)) (fun _ => (by kernel_rfl)) (fun _ => (by kernel_rfl)) (fun r => ?_)
    obtain ⟨r130, r132⟩ := r
    refine bUc ?_
    refine oOp (.tuple [.agg [.d (.lit (List.map e_i64 r130))], .d (.int .i64 r132)]) (by kernel_rfl) (by kernel_rfl) (PureV.does (p_move (by kernel_rfl))) ?_
    refine oOp (.agg [.d (.lit (List.map e_i64 r130))]) (by kernel_rfl) (by kernel_rfl) (PureV.does (k_extract (by kernel_rfl))) ?_
    refine oOp (.d (.int .i64 r132)) (by kernel_rfl) (by kernel_rfl) (PureV.does (k_extract (by kernel_rfl))) ?_
    refine oOp (.ptr 3 0) (by kernel_rfl) (by kernel_rfl) (k_alloc (H' := [.box [.d (.lit (List.map e_i64 t)), .d (.int .i64 x73)], .box [.d (.lit (List.map e_i64 r1210))], .box [.d (.lit (List.map e_i64 r1211))], .box [.nilc]]) ty26 (by kernel_rfl) (by kernel_rfl)) ?_
    refine oOp (.undef) (by kernel_rfl) (by kernel_rfl) (k_store (vs := [.d (.lit (List.map e_i64 r130))]) (H' := [.box [.d (.lit (List.map e_i64 t)), .d (.int .i64 x73)], .box [.d (.lit (List.map e_i64 r1210))], .box [.d (.lit (List.map e_i64 r1211))], .box [.d (.lit (List.map e_i64 r130))]]) 3 0 (by kernel_rfl) ty26 (by kernel_rfl) (by kernel_rfl) (by kernel_rfl)) ?_
    refine oOp (.d (.int .i64 r132)) (by kernel_rfl) (by kernel_rfl) (PureV.does (p_assign (by kernel_rfl))) ?_
    refine oEnd ?_
    refine oSeq ?_
    refine oSeq ?_
    refine oDraw [(0, 12), (1, 12), (2, 12), (3, 12)] rfl ?_
    refine aTakeL (i := 0) (st' := []) (.d (.int .i64 r132)) rfl (by kernel_rfl) (by kernel_rfl) (by kernel_rfl) (by kernel_rfl) (by kernel_rfl) (by kernel_rfl) (by kernel_rfl) (PureV.quiet (p_move (by kernel_rfl)) []) ?_
    refine aTakeL (i := 1) (st' := []) (.d (.bool (r132 != 0))) rfl (by kernel_rfl) (by kernel_rfl) (by kernel_rfl) (by kernel_rfl) (by kernel_rfl) (by kernel_rfl) (by kernel_rfl) (PureV.quiet (p_int (k := .i64) (p := r132) (q := 0) (by kernel_rfl) (by kernel_rfl) (by kernel_rfl)) []) ?_
    refine aTakeL (i := 2) (st' := []) (.d (.bool (r132 != 0))) rfl (by kernel_rfl) (by kernel_rfl) (by kernel_rfl) (by kernel_rfl) (by kernel_rfl) (by kernel_rfl) (by kernel_rfl) (PureV.quiet (p_move (by kernel_rfl)) []) ?_
    refine dMeet [11, 10, 9, 8, 7, 6, 5, 4, 3, 2, 1, 0] (fun (x18 : Bool) => [(4, .ptr 1 0), (5, .ptr 2 0), (6, .ptr 3 0), (45, .d (.bool x18))]) (fun (x18 : Bool) => [(4, .ptr 1 0), (5, .ptr 2 0), (6, .ptr 3 0), (45, .d (.bool x18))]) (fun _ => [.box [.d (.lit (List.map e_i64 t)), .d (.int .i64 x73)], .box [.d (.lit (List.map e_i64 r1210))], .box [.d (.lit (List.map e_i64 r1211))], .box [.d (.lit (List.map e_i64 r130))]]) (fun s => s) (fun x18 => ?_) (fun hj5 => ?_)
    · refine aDone (by kernel_rfl) ?_
      refine bSplit 45 (by kernel_rfl) (fun hc => ?_) (fun hc => ?_)
      · refine oCondT (by kernel_rfl) ?_
        refine oSeq ?_
        refine oRegion rfl ?_
        refine oOp (.d (.bool false)) (by kernel_rfl) (by kernel_rfl) (PureV.does (p_assign (by kernel_rfl))) ?_
        refine oEnd ?_
        exact oRet (r0 := false) (rv := .d (.bool false)) (B := []) (vs := [.d (.bool false)]) (σ := []) (by kernel_rfl) Try.func6 rfl (.cons _ _ _ _ (.tmp 2 _ (by kernel_rfl)) .nil) (by kernel_rfl) (by kernel_rfl) (by kernel_rfl) (by kernel_rfl) (by decide) (by kernel_rfl) (by kernel_rfl)
      · refine oCondF (by kernel_rfl) ?_
        refine oSkip ?_
        refine oSeq ?_
        refine oRegion rfl ?_
        refine oOp (.agg [.d (.int .i64 0), .d (.int .i64 1)]) (by kernel_rfl) (by kernel_rfl) (PureV.does (p_build bld31 (by kernel_rfl))) ?_
        refine oOp (.ptr 4 0) (by kernel_rfl) (by kernel_rfl) (k_alloc (H' := [.box [.d (.lit (List.map e_i64 t)), .d (.int .i64 x73)], .box [.d (.lit (List.map e_i64 r1210))], .box [.d (.lit (List.map e_i64 r1211))], .box [.d (.lit (List.map e_i64 r130))], .box [.d (.int .i64 0), .d (.int .i64 0)]]) ty31 (by kernel_rfl) (by kernel_rfl)) ?_
        refine oOp (.undef) (by kernel_rfl) (by kernel_rfl) (k_store (vs := [.d (.int .i64 0), .d (.int .i64 1)]) (H' := [.box [.d (.lit (List.map e_i64 t)), .d (.int .i64 x73)], .box [.d (.lit (List.map e_i64 r1210))], .box [.d (.lit (List.map e_i64 r1211))], .box [.d (.lit (List.map e_i64 r130))], .box [.d (.int .i64 0), .d (.int .i64 1)]]) 4 0 (by kernel_rfl) ty31 (by kernel_rfl) (by kernel_rfl) (by kernel_rfl)) ?_
        refine oEnd ?_
        refine oSeq ?_
        refine oSeq ?_
        refine oRegion rfl ?_
        refine oOp (.d (.int .i64 0)) (by kernel_rfl) (by kernel_rfl) (PureV.does (p_assign (by kernel_rfl))) ?_
        refine oEnd ?_
        refine bJoin ((u0 ([(4, .ptr 0 0), (5, .ptr 1 0), (6, .ptr 2 0)]))) ((u0 ([.box [.d (.lit (List.map e_i64 r1210))], .box [.d (.lit (List.map e_i64 r1211))], .box [.d (.lit (List.map e_i64 r130))]]))) Sum.inl (fun s => ?_) (fun hj8 => ?_)
        · cases s
          refine bInl ?_
          refine bU0 ?_
          refine oView (T' := [(4, .ptr 0 0), (5, .ptr 1 0), (6, .ptr 2 0)]) (H' := [.box [.d (.lit (List.map e_i64 r1210))], .box [.d (.lit (List.map e_i64 r1211))], .box [.d (.lit (List.map e_i64 r130))]]) (by kernel_rfl) (by kernel_rfl) ?_
          refine oSeq ?_
          refine oRegion rfl ?_
          refine oOp (.agg [.d (.lit (List.map e_i64 r1210))]) (by kernel_rfl) (by kernel_rfl) (Quiet.does (k_loadAgg 0 0 (by kernel_rfl) Try.underlying26 (by kernel_rfl) ty26 (by kernel_rfl))) ?_
          refine bCall (caps := []) (v := (uc fun (r1214 : Int) => (uc fun (r147 : Int) => (fun (r157 : Int) => (.tuple [.agg [.d (.int .i64 r1214), .d (.int .i64 r147)], .d (.int .i64 r157)] : V))))) (H' := (uc fun (r1214 : Int) => (uc fun (r147 : Int) => (fun (r157 : Int) => ([.box [.d (.lit (List.map e_i64 r1210))], .box [.d (.lit (List.map e_i64 r1211))], .box [.d (.lit (List.map e_i64 r130))]] : List Blk))))) [] _ (distribution_Mean_goes k r1210) (by kernel_rfl) (by kernel_rfl) rfl (by kernel_rfl) Try.func19 rfl (by kernel_rfl) (ConvRs.refl _ _) (by kernel_rfl) (by kernel_rfl) (by kernel_rfl) (by decide) (by kernel_rfl) (by kernel_rfl) (fun _ => (by kernel_rfl)) (fun _ => (by kernel_rfl)) (fun _ => (by kernel_rfl)) (fun r => ?_)
          obtain ⟨r1214, r147, r157⟩ := r
          refine bUc ?_
          refine bUc ?_
          refine oOp (.tuple [.agg [.d (.int .i64 r1214), .d (.int .i64 r147)], .d (.int .i64 r157)]) (by kernel_rfl) (by kernel_rfl) (PureV.does (p_move (by kernel_rfl))) ?_
          refine oOp (.agg [.d (.int .i64 r1214), .d (.int .i64 r147)]) (by kernel_rfl) (by kernel_rfl) (PureV.does (k_extract (by kernel_rfl))) ?_
          refine oOp (.d (.int .i64 r157)) (by kernel_rfl) (by kernel_rfl) (PureV.does (k_extract (by kernel_rfl))) ?_
          refine oOp (.ptr 3 0) (by kernel_rfl) (by kernel_rfl) (k_alloc (H' := [.box [.d (.lit (List.map e_i64 r1210))], .box [.d (.lit (List.map e_i64 r1211))], .box [.d (.lit (List.map e_i64 r130))], .box [.d (.int .i64 0), .d (.int .i64 0)]]) ty31 (by kernel_rfl) (by kernel_rfl)) ?_
          refine oOp (.undef) (by kernel_rfl) (by kernel_rfl) (k_store (vs := [.d (.int .i64 r1214), .d (.int .i64 r147)]) (H' := [.box [.d (.lit (List.map e_i64 r1210))], .box [.d (.lit (List.map e_i64 r1211))], .box [.d (.lit (List.map e_i64 r130))], .box [.d (.int .i64 r1214), .d (.int .i64 r147)]]) 3 0 (by kernel_rfl) ty31 (by kernel_rfl) (by kernel_rfl) (by kernel_rfl)) ?_
          refine oOp (.d (.int .i64 r157)) (by kernel_rfl) (by kernel_rfl) (PureV.does (p_assign (by kernel_rfl))) ?_
          refine oEnd ?_
          refine oSeq ?_
          refine oRegion rfl ?_
          refine oOp (.agg [.d (.lit (List.map e_i64 r1211))]) (by kernel_rfl) (by kernel_rfl) (Quiet.does (k_loadAgg 1 0 (by kernel_rfl) Try.underlying26 (by kernel_rfl) ty26 (by kernel_rfl))) ?_
          refine bCall (caps := []) (v := (uc fun (r1215 : Int) => (uc fun (r148 : Int) => (fun (r158 : Int) => (.tuple [.agg [.d (.int .i64 r1215), .d (.int .i64 r148)], .d (.int .i64 r158)] : V))))) (H' := (uc fun (r1215 : Int) => (uc fun (r148 : Int) => (fun (r158 : Int) => ([.box [.d (.lit (List.map e_i64 r1210))], .box [.d (.lit (List.map e_i64 r1211))], .box [.d (.lit (List.map e_i64 r130))], .box [.d (.int .i64 r1214), .d (.int .i64 r147)]] : List Blk))))) [] _ (distribution_Mean_goes k r1211) (by kernel_rfl) (by kernel_rfl) rfl (by kernel_rfl) Try.func19 rfl (by kernel_rfl) (ConvRs.refl _ _) (by kernel_rfl) (by kernel_rfl) (by kernel_rfl) (by decide) (by kernel_rfl) (by kernel_rfl) (fun _ => (by kernel_rfl)) (fun _ => (by kernel_rfl)) (fun _ => (by kernel_rfl)) (fun r => ?_)
          obtain ⟨r1215, r148, r158⟩ := r
          refine bUc ?_
          refine bUc ?_
          refine oOp (.tuple [.agg [.d (.int .i64 r1215), .d (.int .i64 r148)], .d (.int .i64 r158)]) (by kernel_rfl) (by kernel_rfl) (PureV.does (p_move (by kernel_rfl))) ?_
          refine oOp (.agg [.d (.int .i64 r1215), .d (.int .i64 r148)]) (by kernel_rfl) (by kernel_rfl) (PureV.does (k_extract (by kernel_rfl))) ?_
          refine oOp (.d (.int .i64 r158)) (by kernel_rfl) (by kernel_rfl) (PureV.does (k_extract (by kernel_rfl))) ?_
          refine oOp (.ptr 4 0) (by kernel_rfl) (by kernel_rfl) (k_alloc (H' := [.box [.d (.lit (List.map e_i64 r1210))], .box [.d (.lit (List.map e_i64 r1211))], .box [.d (.lit (List.map e_i64 r130))], .box [.d (.int .i64 r1214), .d (.int .i64 r147)], .box [.d (.int .i64 0), .d (.int .i64 0)]]) ty31 (by kernel_rfl) (by kernel_rfl)) ?_
          refine oOp (.undef) (by kernel_rfl) (by kernel_rfl) (k_store (vs := [.d (.int .i64 r1215), .d (.int .i64 r148)]) (H' := [.box [.d (.lit (List.map e_i64 r1210))], .box [.d (.lit (List.map e_i64 r1211))], .box [.d (.lit (List.map e_i64 r130))], .box [.d (.int .i64 r1214), .d (.int .i64 r147)], .box [.d (.int .i64 r1215), .d (.int .i64 r148)]]) 4 0 (by kernel_rfl) ty31 (by kernel_rfl) (by kernel_rfl) (by kernel_rfl)) ?_
          refine oOp (.d (.int .i64 r158)) (by kernel_rfl) (by kernel_rfl) (PureV.does (p_assign (by kernel_rfl))) ?_
          refine oEnd ?_
          refine oSeq ?_
          refine oRegion rfl ?_
          refine oOp (.agg [.d (.lit (List.map e_i64 r130))]) (by kernel_rfl) (by kernel_rfl) (Quiet.does (k_loadAgg 2 0 (by kernel_rfl) Try.underlying26 (by kernel_rfl) ty26 (by kernel_rfl))) ?_
          refine bCall (caps := []) (v := (uc fun (r1216 : Int) => (uc fun (r149 : Int) => (fun (r159 : Int) => (.tuple [.agg [.d (.int .i64 r1216), .d (.int .i64 r149)], .d (.int .i64 r159)] : V))))) (H' := (uc fun (r1216 : Int) => (uc fun (r149 : Int) => (fun (r159 : Int) => ([.box [.d (.lit (List.map e_i64 r1210))], .box [.d (.lit (List.map e_i64 r1211))], .box [.d (.lit (List.map e_i64 r130))], .box [.d (.int .i64 r1214), .d (.int .i64 r147)], .box [.d (.int .i64 r1215), .d (.int .i64 r148)]] : List Blk))))) [] _ (distribution_Mean_goes k r130) (by kernel_rfl) (by kernel_rfl) rfl (by kernel_rfl) Try.func19 rfl (by kernel_rfl) (ConvRs.refl _ _) (by kernel_rfl) (by kernel_rfl) (by kernel_rfl) (by decide) (by kernel_rfl) (by kernel_rfl) (fun _ => (by kernel_rfl)) (fun _ => (by kernel_rfl)) (fun _ => (by kernel_rfl)) (fun r => ?_)
          obtain ⟨r1216, r149, r159⟩ := r
          refine bUc ?_
          refine bUc ?_
          refine oOp (.tuple [.agg [.d (.int .i64 r1216), .d (.int .i64 r149)], .d (.int .i64 r159)]) (by kernel_rfl) (by kernel_rfl) (PureV.does (p_move (by kernel_rfl))) ?_
          refine oOp (.agg [.d (.int .i64 r1216), .d (.int .i64 r149)]) (by kernel_rfl) (by kernel_rfl) (PureV.does (k_extract (by kernel_rfl))) ?_
          refine oOp (.d (.int .i64 r159)) (by kernel_rfl) (by kernel_rfl) (PureV.does (k_extract (by kernel_rfl))) ?_
          refine oOp (.ptr 5 0) (by kernel_rfl) (by kernel_rfl) (k_alloc (H' := [.box [.d (.lit (List.map e_i64 r1210))], .box [.d (.lit (List.map e_i64 r1211))], .box [.d (.lit (List.map e_i64 r130))], .box [.d (.int .i64 r1214), .d (.int .i64 r147)], .box [.d (.int .i64 r1215), .d (.int .i64 r148)], .box [.d (.int .i64 0), .d (.int .i64 0)]]) ty31 (by kernel_rfl) (by kernel_rfl)) ?_
          refine oOp (.undef) (by kernel_rfl) (by kernel_rfl) (k_store (vs := [.d (.int .i64 r1216), .d (.int .i64 r149)]) (H' := [.box [.d (.lit (List.map e_i64 r1210))], .box [.d (.lit (List.map e_i64 r1211))], .box [.d (.lit (List.map e_i64 r130))], .box [.d (.int .i64 r1214), .d (.int .i64 r147)], .box [.d (.int .i64 r1215), .d (.int .i64 r148)], .box [.d (.int .i64 r1216), .d (.int .i64 r149)]]) 5 0 (by kernel_rfl) ty31 (by kernel_rfl) (by kernel_rfl) (by kernel_rfl)) ?_
          refine oOp (.d (.int .i64 r159)) (by kernel_rfl) (by kernel_rfl) (PureV.does (p_assign (by kernel_rfl))) ?_
          refine oEnd ?_
          refine oSeq ?_
          refine oSeq ?_
          refine oRegion rfl ?_
          refine oOp (.d (.int .i64 r157)) (by kernel_rfl) (by kernel_rfl) (PureV.does (p_move (by kernel_rfl))) ?_
          refine oOp (.d (.bool (r157 != 0))) (by kernel_rfl) (by kernel_rfl) (PureV.does (p_int (k := .i64) (p := r157) (q := 0) (by kernel_rfl) (by kernel_rfl) (by kernel_rfl))) ?_
          refine oOp (.d (.bool (r157 != 0))) (by kernel_rfl) (by kernel_rfl) (PureV.does (p_move (by kernel_rfl))) ?_
          refine bMeetF (H' := [.box [.d (.int .i64 r1214), .d (.int .i64 r147)], .box [.d (.int .i64 r1215), .d (.int .i64 r148)], .box [.d (.int .i64 r1216), .d (.int .i64 r149)]]) 3 rfl ((fun (x27 : Bool) => [(12, .ptr 0 0), (14, .ptr 1 0), (16, .ptr 2 0), (17, .d (.int .i64 r159)), (94, .d (.bool x27))])) (fun x27 => ?_) (fun F hj9 => ?_)
          · refine oView (T' := [(12, .ptr 0 0), (14, .ptr 1 0), (16, .ptr 2 0), (17, .d (.int .i64 r159)), (94, .d (.bool x27))]) (H' := [.box [.d (.int .i64 r1214), .d (.int .i64 r147)], .box [.d (.int .i64 r1215), .d (.int .i64 r148)], .box [.d (.int .i64 r1216), .d (.int .i64 r149)]]) (by kernel_rfl) (by kernel_rfl) ?_
            refine oEnd ?_
            refine bSplit 94 (by kernel_rfl) (fun hc => ?_) (fun hc => ?_)
            · refine oCondT (by kernel_rfl) ?_
              refine oSeq ?_
              refine oRegion rfl ?_
              refine bCall (caps := []) (v := (fun (r136 : Bool) => (.d (.bool r136) : V))) (H' := (fun (r136 : Bool) => ([.box [.d (.int .i64 r1214), .d (.int .i64 r147)], .box [.d (.int .i64 r1215), .d (.int .i64 r148)], .box [.d (.int .i64 r1216), .d (.int .i64 r149)]] : List Blk))) [] _ (law32_sane_goes k ) (by kernel_rfl) (by kernel_rfl) rfl (by kernel_rfl) Try.func10 rfl (by kernel_rfl) (ConvRs.refl _ _) (by kernel_rfl) (by kernel_rfl) (by kernel_rfl) (by decide) (by kernel_rfl) (by kernel_rfl) (fun _ => (by kernel_rfl)) (fun _ => (by kernel_rfl)) (fun _ => (by kernel_rfl)) (fun r136 => ?_)
              refine oOp (.d (.bool r136)) (by kernel_rfl) (by kernel_rfl) (PureV.does (p_assign (by kernel_rfl))) ?_
              refine oEnd ?_
              exact oRet (r0 := r136) (rv := .d (.bool r136)) (B := []) (vs := [.d (.bool r136)]) (σ := []) (by kernel_rfl) Try.func6 rfl (.cons _ _ _ _ (.tmp 2 _ (by kernel_rfl)) .nil) (by kernel_rfl) (by kernel_rfl) (by kernel_rfl) (by kernel_rfl) (by decide) (by kernel_rfl) (by kernel_rfl)
            · refine oCondF (by kernel_rfl) ?_
              refine oSkip ?_
              refine oSeq ?_
              refine oRegion rfl ?_
              refine oOp (.d (.int .i64 r159)) (by kernel_rfl) (by kernel_rfl) (PureV.does (p_move (by kernel_rfl))) ?_
              refine oOp (.d (.bool (r159 == 0))) (by kernel_rfl) (by kernel_rfl) (PureV.does (p_int (k := .i64) (p := r159) (q := 0) (by kernel_rfl) (by kernel_rfl) (by kernel_rfl))) ?_
              refine oOp (.d (.bool (r159 == 0))) (by kernel_rfl) (by kernel_rfl) (PureV.does (p_move (by kernel_rfl))) ?_
              refine bMeet 10 rfl ((fun (x29 : Bool) => [(12, .ptr 0 0), (14, .ptr 1 0), (16, .ptr 2 0), (108, .d (.bool x29))])) ((fun (x29 : Bool) => [.box [.d (.int .i64 r1214), .d (.int .i64 r147)], .box [.d (.int .i64 r1215), .d (.int .i64 r148)], .box [.d (.int .i64 r1216), .d (.int .i64 r149)]])) (fun s => s) (fun x29 => ?_) (fun hj13 => ?_)
              · refine oView (T' := [(12, .ptr 0 0), (14, .ptr 1 0), (16, .ptr 2 0), (108, .d (.bool x29))]) (H' := [.box [.d (.int .i64 r1214), .d (.int .i64 r147)], .box [.d (.int .i64 r1215), .d (.int .i64 r148)], .box [.d (.int .i64 r1216), .d (.int .i64 r149)]]) (by kernel_rfl) (by kernel_rfl) ?_
                refine oOp (.d (.bool x29)) (by kernel_rfl) (by kernel_rfl) (PureV.does (p_move (by kernel_rfl))) ?_
                refine bMeet 10 rfl ((fun (x31 : Bool) => [(119, .d (.bool x31))])) ((fun (x31 : Bool) => [])) (fun s => s) (fun x31 => ?_) (fun hj11 => ?_)
                · refine oView (T' := [(119, .d (.bool x31))]) (H' := []) (by kernel_rfl) (by kernel_rfl) ?_
                  refine oOp (.d (.bool x31)) (by kernel_rfl) (by kernel_rfl) (PureV.does (p_move (by kernel_rfl))) ?_
                  refine bMeet 2 rfl ((fun (x32 : Bool) => [(122, .d (.bool x32))])) ((fun (x32 : Bool) => [])) (fun s => s) (fun x32 => ?_) (fun hj10 => ?_)
                  · refine oView (T' := [(122, .d (.bool x32))]) (H' := []) (by kernel_rfl) (by kernel_rfl) ?_
                    refine oOp (.d (.bool x32)) (by kernel_rfl) (by kernel_rfl) (PureV.does (p_assign (by kernel_rfl))) ?_
                    refine oEnd ?_
                    exact oRet (r0 := x32) (rv := .d (.bool x32)) (B := []) (vs := [.d (.bool x32)]) (σ := []) (by kernel_rfl) Try.func6 rfl (.cons _ _ _ _ (.tmp 2 _ (by kernel_rfl)) .nil) (by kernel_rfl) (by kernel_rfl) (by kernel_rfl) (by kernel_rfl) (by decide) (by kernel_rfl) (by kernel_rfl)
                  · refine bSplit 120 (by kernel_rfl) (fun hc => ?_) (fun hc => ?_)
                    · refine bCall (caps := []) (v := (fun (r160 : Bool) => (.d (.bool r160) : V))) (H' := (fun (r160 : Bool) => ([] : List Blk))) [] _ (law32_sane_goes k ) (by kernel_rfl) (by kernel_rfl) rfl (by kernel_rfl) Try.func10 rfl (by kernel_rfl) (ConvRs.refl _ _) (by kernel_rfl) (by kernel_rfl) (by kernel_rfl) (by decide) (by kernel_rfl) (by kernel_rfl) (fun _ => (by kernel_rfl)) (fun _ => (by kernel_rfl)) (fun _ => (by kernel_rfl)) (fun r160 => ?_)
                      refine oOp (.d (.bool r160)) (by kernel_rfl) (by kernel_rfl) (PureV.does (p_pick (b := true) (by kernel_rfl) (by kernel_rfl))) ?_
                      refine oHead [122] [] (T' := [(122, .d (.bool r160))]) (H' := []) (by kernel_rfl) (by kernel_rfl) (by kernel_rfl) (by kernel_rfl) (by decide) (by kernel_rfl) (by kernel_rfl) ?_
                      exact hj10 r160
                    · refine oNot (by kernel_rfl) (by kernel_rfl) ?_
                      refine oOp (.d (.bool false)) (by kernel_rfl) (by kernel_rfl) (PureV.does (p_pick (b := false) (by kernel_rfl) (by kernel_rfl))) ?_
                      refine oHead [122] [] (T' := [(122, .d (.bool false))]) (H' := []) (by kernel_rfl) (by kernel_rfl) (by kernel_rfl) (by kernel_rfl) (by decide) (by kernel_rfl) (by kernel_rfl) ?_
                      exact hj10 false
                · refine bSplit 109 (by kernel_rfl) (fun hc => ?_) (fun hc => ?_)
                  · refine oOp (.agg [.d (.int .i64 r1214), .d (.int .i64 r147)]) (by kernel_rfl) (by kernel_rfl) (Quiet.does (k_loadAgg 0 0 (by kernel_rfl) Try.underlying31 (by kernel_rfl) ty31 (by kernel_rfl))) ?_
                    refine oOp (.agg [.d (.int .i64 r1216), .d (.int .i64 r149)]) (by kernel_rfl) (by kernel_rfl) (Quiet.does (k_loadAgg 2 0 (by kernel_rfl) Try.underlying31 (by kernel_rfl) ty31 (by kernel_rfl))) ?_
                    refine bCall (caps := []) (v := (fun (r161 : Bool) => (.d (.bool r161) : V))) (H' := (fun (r161 : Bool) => ([.box [.d (.int .i64 r1214), .d (.int .i64 r147)], .box [.d (.int .i64 r1215), .d (.int .i64 r148)], .box [.d (.int .i64 r1216), .d (.int .i64 r149)]] : List Blk))) [] _ (ref01_Less_goes k r1214 r147 r1216 r149) (by kernel_rfl) (by kernel_rfl) rfl (by kernel_rfl) Try.func21 rfl (by kernel_rfl) (ConvRs.refl _ _) (by kernel_rfl) (by kernel_rfl) (by kernel_rfl) (by decide) (by kernel_rfl) (by kernel_rfl) (fun _ => (by kernel_rfl)) (fun _ => (by kernel_rfl)) (fun _ => (by kernel_rfl)) (fun r161 => ?_)
                    refine oOp (.d (.bool r161)) (by kernel_rfl) (by kernel_rfl) (PureV.does (p_move (by kernel_rfl))) ?_
                    refine bMeet 4 rfl ((fun (x33 : Bool) => [(109, .d (.bool true)), (117, .d (.bool x33))])) ((fun (x33 : Bool) => [])) (fun s => s) (fun x33 => ?_) (fun hj12 => ?_)
                    · refine oView (T' := [(109, .d (.bool true)), (117, .d (.bool x33))]) (H' := []) (by kernel_rfl) (by kernel_rfl) ?_
                      refine oOp (.d (.bool (!x33))) (by kernel_rfl) (by kernel_rfl) (PureV.does (p_not (p := x33) (by kernel_rfl) (by kernel_rfl))) ?_
                      refine oOp (.d (.bool (!x33))) (by kernel_rfl) (by kernel_rfl) (PureV.does (p_pick (b := true) (by kernel_rfl) (by kernel_rfl))) ?_
                      refine oHead [119] [] (T' := [(119, .d (.bool (!x33)))]) (H' := []) (by kernel_rfl) (by kernel_rfl) (by kernel_rfl) (by kernel_rfl) (by decide) (by kernel_rfl) (by kernel_rfl) ?_
                      exact hj11 (!x33)
                    · refine bSplit 113 (by kernel_rfl) (fun hc => ?_) (fun hc => ?_)
                      · refine oOp (.agg [.d (.int .i64 r1215), .d (.int .i64 r148)]) (by kernel_rfl) (by kernel_rfl) (Quiet.does (k_loadAgg 1 0 (by kernel_rfl) Try.underlying31 (by kernel_rfl) ty31 (by kernel_rfl))) ?_
                        refine oOp (.agg [.d (.int .i64 r1216), .d (.int .i64 r149)]) (by kernel_rfl) (by kernel_rfl) (Quiet.does (k_loadAgg 2 0 (by kernel_rfl) Try.underlying31 (by kernel_rfl) ty31 (by kernel_rfl))) ?_
                        refine bCall (caps := []) (v := (fun (r163 : Bool) => (.d (.bool r163) : V))) (H' := (fun (r163 : Bool) => ([.box [.d (.int .i64 r1214), .d (.int .i64 r147)], .box [.d (.int .i64 r1215), .d (.int .i64 r148)], .box [.d (.int .i64 r1216), .d (.int .i64 r149)]] : List Blk))) [] _ (ref01_Less_goes k r1215 r148 r1216 r149) (by kernel_rfl) (by kernel_rfl) rfl (by kernel_rfl) Try.func21 rfl (by kernel_rfl) (ConvRs.refl _ _) (by kernel_rfl) (by kernel_rfl) (by kernel_rfl) (by decide) (by kernel_rfl) (by kernel_rfl) (fun _ => (by kernel_rfl)) (fun _ => (by kernel_rfl)) (fun _ => (by kernel_rfl)) (fun r163 => ?_)
                        refine oOp (.d (.bool r163)) (by kernel_rfl) (by kernel_rfl) (PureV.does (p_pick (b := true) (by kernel_rfl) (by kernel_rfl))) ?_
                        refine oHead [109, 117] [] (T' := [(109, .d (.bool true)), (117, .d (.bool r163))]) (H' := []) (by kernel_rfl) (by kernel_rfl) (by kernel_rfl) (by kernel_rfl) (by decide) (by kernel_rfl) (by kernel_rfl) ?_
                        exact hj12 r163
                      · refine oNot (by kernel_rfl) (by kernel_rfl) ?_
                        refine oNot (by kernel_rfl) (by kernel_rfl) ?_
                        refine oNot (by kernel_rfl) (by kernel_rfl) ?_
                        refine oOp (.d (.bool false)) (by kernel_rfl) (by kernel_rfl) (PureV.does (p_pick (b := false) (by kernel_rfl) (by kernel_rfl))) ?_
                        refine oHead [109, 117] [] (T' := [(109, .d (.bool true)), (117, .d (.bool false))]) (H' := []) (by kernel_rfl) (by kernel_rfl) (by kernel_rfl) (by kernel_rfl) (by decide) (by kernel_rfl) (by kernel_rfl) ?_
                        exact hj12 false
                  · refine oNot (by kernel_rfl) (by kernel_rfl) ?_
                    refine oNot (by kernel_rfl) (by kernel_rfl) ?_
                    refine oNot (by kernel_rfl) (by kernel_rfl) ?_
                    refine oNot (by kernel_rfl) (by kernel_rfl) ?_
                    refine oNot (by kernel_rfl) (by kernel_rfl) ?_
                    refine oNot (by kernel_rfl) (by kernel_rfl) ?_
                    refine oNot (by kernel_rfl) (by kernel_rfl) ?_
                    refine oNot (by kernel_rfl) (by kernel_rfl) ?_
                    refine oNot (by kernel_rfl) (by kernel_rfl) ?_
                    refine oOp (.d (.bool false)) (by kernel_rfl) (by kernel_rfl) (PureV.does (p_pick (b := false) (by kernel_rfl) (by kernel_rfl))) ?_
                    refine oHead [119] [] (T' := [(119, .d (.bool false))]) (H' := []) (by kernel_rfl) (by kernel_rfl) (by kernel_rfl) (by kernel_rfl) (by decide) (by kernel_rfl) (by kernel_rfl) ?_
                    exact hj11 false
              · refine bSplit 98 (by kernel_rfl) (fun hc => ?_) (fun hc => ?_)
                · refine oOp (.agg [.d (.int .i64 r1216), .d (.int .i64 r149)]) (by kernel_rfl) (by kernel_rfl) (Quiet.does (k_loadAgg 2 0 (by kernel_rfl) Try.underlying31 (by kernel_rfl) ty31 (by kernel_rfl))) ?_
                  refine oOp (.agg [.d (.int .i64 r1214), .d (.int .i64 r147)]) (by kernel_rfl) (by kernel_rfl) (Quiet.does (k_loadAgg 0 0 (by kernel_rfl) Try.underlying31 (by kernel_rfl) ty31 (by kernel_rfl))) ?_
                  refine bCall (caps := []) (v := (fun (r164 : Bool) => (.d (.bool r164) : V))) (H' := (fun (r164 : Bool) => ([.box [.d (.int .i64 r1214), .d (.int .i64 r147)], .box [.d (.int .i64 r1215), .d (.int .i64 r148)], .box [.d (.int .i64 r1216), .d (.int .i64 r149)]] : List Blk))) [] _ (ref01_Less_goes k r1216 r149 r1214 r147) (by kernel_rfl) (by kernel_rfl) rfl (by kernel_rfl) Try.func21 rfl (by kernel_rfl) (ConvRs.refl _ _) (by kernel_rfl) (by kernel_rfl) (by kernel_rfl) (by decide) (by kernel_rfl) (by kernel_rfl) (fun _ => (by kernel_rfl)) (fun _ => (by kernel_rfl)) (fun _ => (by kernel_rfl)) (fun r164 => ?_)
                  refine oOp (.d (.bool r164)) (by kernel_rfl) (by kernel_rfl) (PureV.does (p_move (by kernel_rfl))) ?_
                  refine bMeet 4 rfl ((fun (x34 : Bool) => [(12, .ptr 0 0), (14, .ptr 1 0), (16, .ptr 2 0), (98, .d (.bool true)), (106, .d (.bool x34))])) ((fun (x34 : Bool) => [.box [.d (.int .i64 r1214), .d (.int .i64 r147)], .box [.d (.int .i64 r1215), .d (.int .i64 r148)], .box [.d (.int .i64 r1216), .d (.int .i64 r149)]])) (fun s => s) (fun x34 => ?_) (fun hj14 => ?_)
                  · refine oView (T' := [(12, .ptr 0 0), (14, .ptr 1 0), (16, .ptr 2 0), (98, .d (.bool true)), (106, .d (.bool x34))]) (H' := [.box [.d (.int .i64 r1214), .d (.int .i64 r147)], .box [.d (.int .i64 r1215), .d (.int .i64 r148)], .box [.d (.int .i64 r1216), .d (.int .i64 r149)]]) (by kernel_rfl) (by kernel_rfl) ?_
                    refine oOp (.d (.bool (!x34))) (by kernel_rfl) (by kernel_rfl) (PureV.does (p_not (p := x34) (by kernel_rfl) (by kernel_rfl))) ?_
                    refine oOp (.d (.bool (!x34))) (by kernel_rfl) (by kernel_rfl) (PureV.does (p_pick (b := true) (by kernel_rfl) (by kernel_rfl))) ?_
                    refine oHead [12, 14, 16, 108] [0, 1, 2] (T' := [(12, .ptr 0 0), (14, .ptr 1 0), (16, .ptr 2 0), (108, .d (.bool (!x34)))]) (H' := [.box [.d (.int .i64 r1214), .d (.int .i64 r147)], .box [.d (.int .i64 r1215), .d (.int .i64 r148)], .box [.d (.int .i64 r1216), .d (.int .i64 r149)]]) (by kernel_rfl) (by kernel_rfl) (by kernel_rfl) (by kernel_rfl) (by decide) (by kernel_rfl) (by kernel_rfl) ?_
                    exact hj13 (!x34)
                  · refine bSplit 102 (by kernel_rfl) (fun hc => ?_) (fun hc => ?_)
                    · refine oOp (.agg [.d (.int .i64 r1216), .d (.int .i64 r149)]) (by kernel_rfl) (by kernel_rfl) (Quiet.does (k_loadAgg 2 0 (by kernel_rfl) Try.underlying31 (by kernel_rfl) ty31 (by kernel_rfl))) ?_
                      refine oOp (.agg [.d (.int .i64 r1215), .d (.int .i64 r148)]) (by kernel_rfl) (by kernel_rfl) (Quiet.does (k_loadAgg 1 0 (by kernel_rfl) Try.underlying31 (by kernel_rfl) ty31 (by kernel_rfl))) ?_
                      refine bCall (caps := []) (v := (fun (r166 : Bool) => (.d (.bool r166) : V))) (H' := (fun (r166 : Bool) => ([.box [.d (.int .i64 r1214), .d (.int .i64 r147)], .box [.d (.int .i64 r1215), .d (.int .i64 r148)], .box [.d (.int .i64 r1216), .d (.int .i64 r149)]] : List Blk))) [] _ (ref01_Less_goes k r1216 r149 r1215 r148) (by kernel_rfl) (by kernel_rfl) rfl (by kernel_rfl) Try.func21 rfl (by kernel_rfl) (ConvRs.refl _ _) (by kernel_rfl) (by kernel_rfl) (by kernel_rfl) (by decide) (by kernel_rfl) (by kernel_rfl) (fun _ => (by kernel_rfl)) (fun _ => (by kernel_rfl)) (fun _ => (by kernel_rfl)) (fun r166 => ?_)
                      refine oOp (.d (.bool r166)) (by kernel_rfl) (by kernel_rfl) (PureV.does (p_pick (b := true) (by kernel_rfl) (by kernel_rfl))) ?_
                      refine oHead [12, 14, 16, 98, 106] [0, 1, 2] (T' := [(12, .ptr 0 0), (14, .ptr 1 0), (16, .ptr 2 0), (98, .d (.bool true)), (106, .d (.bool r166))]) (H' := [.box [.d (.int .i64 r1214), .d (.int .i64 r147)], .box [.d (.int .i64 r1215), .d (.int .i64 r148)], .box [.d (.int .i64 r1216), .d (.int .i64 r149)]]) (by kernel_rfl) (by kernel_rfl) (by kernel_rfl) (by kernel_rfl) (by decide) (by kernel_rfl) (by kernel_rfl) ?_
                      exact hj14 r166
                    · refine oNot (by kernel_rfl) (by kernel_rfl) ?_
                      refine oNot (by kernel_rfl) (by kernel_rfl) ?_
                      refine oNot (by kernel_rfl) (by kernel_rfl) ?_
                      refine oOp (.d (.bool false)) (by kernel_rfl) (by kernel_rfl) (PureV.does (p_pick (b := false) (by kernel_rfl) (by kernel_rfl))) ?_
                      refine oHead [12, 14, 16, 98, 106] [0, 1, 2] (T' := [(12, .ptr 0 0), (14, .ptr 1 0), (16, .ptr 2 0), (98, .d (.bool true)), (106, .d (.bool false))]) (H' := [.box [.d (.int .i64 r1214), .d (.int .i64 r147)], .box [.d (.int .i64 r1215), .d (.int .i64 r148)], .box [.d (.int .i64 r1216), .d (.int .i64 r149)]]) (by kernel_rfl) (by kernel_rfl) (by kernel_rfl) (by kernel_rfl) (by decide) (by kernel_rfl) (by kernel_rfl) ?_
                      exact hj14 false
                · refine oNot (by kernel_rfl) (by kernel_rfl) ?_
                  refine oNot (by kernel_rfl) (by kernel_rfl) ?_
                  refine oNot (by kernel_rfl) (by kernel_rfl) ?_
                  refine oNot (by kernel_rfl) (by kernel_rfl) ?_
                  refine oNot (by kernel_rfl) (by kernel_rfl) ?_
                  refine oNot (by kernel_rfl) (by kernel_rfl) ?_
                  refine oNot (by kernel_rfl) (by kernel_rfl) ?_
                  refine oNot (by kernel_rfl) (by kernel_rfl) ?_
                  refine oNot (by kernel_rfl) (by kernel_rfl) ?_
                  refine oOp (.d (.bool false)) (by kernel_rfl) (by kernel_rfl) (PureV.does (p_pick (b := false) (by kernel_rfl) (by kernel_rfl))) ?_
                  refine oHead [12, 14, 16, 108] [0, 1, 2] (T' := [(12, .ptr 0 0), (14, .ptr 1 0), (16, .ptr 2 0), (108, .d (.bool false))]) (H' := [.box [.d (.int .i64 r1214), .d (.int .i64 r147)], .box [.d (.int .i64 r1215), .d (.int .i64 r148)], .box [.d (.int .i64 r1216), .d (.int .i64 r149)]]) (by kernel_rfl) (by kernel_rfl) (by kernel_rfl) (by kernel_rfl) (by decide) (by kernel_rfl) (by kernel_rfl) ?_
                  exact hj13 false
          · refine bPickF 91 (fun c => F (c || (r158 != 0))) (by kernel_rfl) (fun hc => ?_) (fun hc => ?_)
            · refine oNot (by kernel_rfl) (by kernel_rfl) ?_
              refine oNot (by kernel_rfl) (by kernel_rfl) ?_
              refine oOp (.d (.bool true)) (by kernel_rfl) (by kernel_rfl) (PureV.does (p_pick (b := true) (by kernel_rfl) (by kernel_rfl))) ?_
              refine oHead [12, 14, 16, 17, 94] [3, 4, 5] (T' := [(12, .ptr 0 0), (14, .ptr 1 0), (16, .ptr 2 0), (17, .d (.int .i64 r159)), (94, .d (.bool true))]) (H' := [.box [.d (.int .i64 r1214), .d (.int .i64 r147)], .box [.d (.int .i64 r1215), .d (.int .i64 r148)], .box [.d (.int .i64 r1216), .d (.int .i64 r149)]]) (by kernel_rfl) (by kernel_rfl) (by kernel_rfl) (by kernel_rfl) (by decide) (by kernel_rfl) (by kernel_rfl) ?_
              exact hj9 true
            · refine oOp (.d (.int .i64 r158)) (by kernel_rfl) (by kernel_rfl) (PureV.does (p_move (by kernel_rfl))) ?_
              refine oOp (.d (.bool (r158 != 0))) (by kernel_rfl) (by kernel_rfl) (PureV.does (p_int (k := .i64) (p := r158) (q := 0) (by kernel_rfl) (by kernel_rfl) (by kernel_rfl))) ?_
              refine oOp (.d (.bool (r158 != 0))) (by kernel_rfl) (by kernel_rfl) (PureV.does (p_pick (b := false) (by kernel_rfl) (by kernel_rfl))) ?_
              refine oHead [12, 14, 16, 17, 94] [3, 4, 5] (T' := [(12, .ptr 0 0), (14, .ptr 1 0), (16, .ptr 2 0), (17, .d (.int .i64 r159)), (94, .d (.bool (r158 != 0)))]) (H' := [.box [.d (.int .i64 r1214), .d (.int .i64 r147)], .box [.d (.int .i64 r1215), .d (.int .i64 r148)], .box [.d (.int .i64 r1216), .d (.int .i64 r149)]]) (by kernel_rfl) (by kernel_rfl) (by kernel_rfl) (by kernel_rfl) (by decide) (by kernel_rfl) (by kernel_rfl) ?_
              exact hj9 (r158 != 0)
        · refine oBlock ?_
          refine oLoop ?_
          refine oHead [4, 5, 6, 8, 9] [1, 2, 3, 4] (T' := [(4, .ptr 0 0), (5, .ptr 1 0), (6, .ptr 2 0), (8, .ptr 3 0), (9, .d (.int .i64 0))]) (H' := [.box [.d (.lit (List.map e_i64 r1210))], .box [.d (.lit (List.map e_i64 r1211))], .box [.d (.lit (List.map e_i64 r130))], .box [.d (.int .i64 0), .d (.int .i64 1)]]) (by kernel_rfl) (by kernel_rfl) (by kernel_rfl) (by kernel_rfl) (by decide) (by kernel_rfl) (by kernel_rfl) ?_
          refine bLoop (body := law32_DistributionSums_b1 k r1210 r1211 r130) ((uc fun (s14 : Int) => (uc fun (x37 : Int) => (fun (x38 : Int) => [(4, .ptr 0 0), (5, .ptr 1 0), (6, .ptr 2 0), (8, .ptr 3 0), (9, .d (.int .i64 s14))])))) ((uc fun (s14 : Int) => (uc fun (x37 : Int) => (fun (x38 : Int) => [.box [.d (.lit (List.map e_i64 r1210))], .box [.d (.lit (List.map e_i64 r1211))], .box [.d (.lit (List.map e_i64 r130))], .box [.d (.int .i64 x37), .d (.int .i64 x38)]])))) (fun again hag1 s => ?_) k (0, 0, 1)
          · unfold law32_DistributionSums_b1
            obtain ⟨s14, x37, x38⟩ := s
            refine bUc ?_
            refine bUc ?_
            refine oView (T' := [(4, .ptr 0 0), (5, .ptr 1 0), (6, .ptr 2 0), (8, .ptr 3 0), (9, .d (.int .i64 s14))]) (H' := [.box [.d (.lit (List.map e_i64 r1210))], .box [.d (.lit (List.map e_i64 r1211))], .box [.d (.lit (List.map e_i64 r130))], .box [.d (.int .i64 x37), .d (.int .i64 x38)]]) (by kernel_rfl) (by kernel_rfl) ?_
            refine oSeq ?_
            refine oSeq ?_
            refine oRegion rfl ?_
            refine oOp (.d (.int .i64 s14)) (by kernel_rfl) (by kernel_rfl) (PureV.does (p_move (by kernel_rfl))) ?_
            refine oOp (.d (.bool (decide (s14 ≤ 10)))) (by kernel_rfl) (by kernel_rfl) (PureV.does (p_int (k := .i64) (p := s14) (q := 10) (by kernel_rfl) (by kernel_rfl) (by kernel_rfl))) ?_
            refine oEnd ?_
            refine bSplit 48 (by kernel_rfl) (fun hc => ?_) (fun hc => ?_)
            · refine oCondT (by kernel_rfl) ?_
              refine oSkip ?_
              refine oSeq ?_
              refine bJoin ((uc fun (x43 : Int) => (fun (x44 : Int) => [(4, .ptr 0 0), (5, .ptr 1 0), (6, .ptr 2 0), (8, .ptr 3 0), (9, .d (.int .i64 s14))]))) ((uc fun (x43 : Int) => (fun (x44 : Int) => [.box [.d (.lit (List.map e_i64 r1210))], .box [.d (.lit (List.map e_i64 r1211))], .box [.d (.lit (List.map e_i64 r130))], .box [.d (.int .i64 x43), .d (.int .i64 x44)]]))) Sum.inl (fun s => ?_) (fun hj17 => ?_)
              · obtain ⟨x43, x44⟩ := s
                refine bInl ?_
                refine bUc ?_
                refine oView (T' := [(4, .ptr 0 0), (5, .ptr 1 0), (6, .ptr 2 0), (8, .ptr 3 0), (9, .d (.int .i64 s14))]) (H' := [.box [.d (.lit (List.map e_i64 r1210))], .box [.d (.lit (List.map e_i64 r1211))], .box [.d (.lit (List.map e_i64 r130))], .box [.d (.int .i64 x43), .d (.int .i64 x44)]]) (by kernel_rfl) (by kernel_rfl) ?_
                refine oRegion rfl ?_
                refine oOp (.d (.int .i64 s14)) (by kernel_rfl) (by kernel_rfl) (PureV.does (p_move (by kernel_rfl))) ?_
                refine oOp (.d (.int .i64 (IntKind.wrap .i64 (s14 + 1)))) (by kernel_rfl) (by kernel_rfl) (PureV.does (p_int (k := .i64) (p := s14) (q := 1) (by kernel_rfl) (by kernel_rfl) (by kernel_rfl))) ?_
                refine oOp (.d (.int .i64 (IntKind.wrap .i64 (s14 + 1)))) (by kernel_rfl) (by kernel_rfl) (PureV.does (p_assign (by kernel_rfl))) ?_
                refine oEnd ?_
                refine oAgain ?_
                refine oHead [4, 5, 6, 8, 9] [0, 1, 2, 3] (T' := [(4, .ptr 0 0), (5, .ptr 1 0), (6, .ptr 2 0), (8, .ptr 3 0), (9, .d (.int .i64 (IntKind.wrap .i64 (s14 + 1))))]) (H' := [.box [.d (.lit (List.map e_i64 r1210))], .box [.d (.lit (List.map e_i64 r1211))], .box [.d (.lit (List.map e_i64 r130))], .box [.d (.int .i64 x43), .d (.int .i64 x44)]]) (by kernel_rfl) (by kernel_rfl) (by kernel_rfl) (by kernel_rfl) (by decide) (by kernel_rfl) (by kernel_rfl) ?_
                exact hag1 ((IntKind.wrap .i64 (s14 + 1)), x43, x44)
              · refine oBlock ?_
                refine oSeq ?_
                refine oSeq ?_
                refine oDraw [(0, 11), (1, 11), (2, 11), (3, 11)] rfl ?_
                refine aTakeL (i := 0) (st' := [2]) (.agg [.d (.lit (List.map e_i64 r130))]) rfl (by kernel_rfl) (by kernel_rfl) (by kernel_rfl) (by kernel_rfl) (by kernel_rfl) (by kernel_rfl) (by kernel_rfl) (k_loadAgg 2 0 (by kernel_rfl) Try.underlying26 (by kernel_rfl) ty26 (by kernel_rfl)) ?_
                refine aTakeL (i := 1) (st' := []) (.d (.int .i64 s14)) rfl (by kernel_rfl) (by kernel_rfl) (by kernel_rfl) (by kernel_rfl) (by kernel_rfl) (by kernel_rfl) (by kernel_rfl) (PureV.quiet (p_move (by kernel_rfl)) []) ?_
                refine aTakeL (i := 3) (st' := [0]) (.agg [.d (.lit (List.map e_i64 r1210))]) rfl (by kernel_rfl) (by kernel_rfl) (by kernel_rfl) (by kernel_rfl) (by kernel_rfl) (by kernel_rfl) (by kernel_rfl) (k_loadAgg 0 0 (by kernel_rfl) Try.underlying26 (by kernel_rfl) ty26 (by kernel_rfl)) ?_
                refine aTakeL (i := 4) (st' := []) (.d (.int .i64 s14)) rfl (by kernel_rfl) (by kernel_rfl) (by kernel_rfl) (by kernel_rfl) (by kernel_rfl) (by kernel_rfl) (by kernel_rfl) (PureV.quiet (p_move (by kernel_rfl)) []) ?_
                refine aTakeL (i := 6) (st' := [1]) (.agg [.d (.lit (List.map e_i64 r1211))]) rfl (by kernel_rfl) (by kernel_rfl) (by kernel_rfl) (by kernel_rfl) (by kernel_rfl) (by kernel_rfl) (by kernel_rfl) (k_loadAgg 1 0 (by kernel_rfl) Try.underlying26 (by kernel_rfl) ty26 (by kernel_rfl)) ?_
                refine aTakeL (i := 7) (st' := []) (.d (.int .i64 s14)) rfl (by kernel_rfl) (by kernel_rfl) (by kernel_rfl) (by kernel_rfl) (by kernel_rfl) (by kernel_rfl) (by kernel_rfl) (PureV.quiet (p_move (by kernel_rfl)) []) ?_
                refine dCall (i := 2) (caps := []) (v := (fun (r114 : Int) => (.d (.int .i64 r114) : V))) (H' := (fun (r114 : Int) => ([.box [.d (.lit (List.map e_i64 r1210))], .box [.d (.lit (List.map e_i64 r1211))], .box [.d (.lit (List.map e_i64 r130))], .box [.d (.int .i64 x37), .d (.int .i64 x38)]] : List Blk))) [] _ (distribution_Below_goes k r130 s14) rfl (by kernel_rfl) (by kernel_rfl) (by kernel_rfl) (by kernel_rfl) (by kernel_rfl) (by kernel_rfl) (by kernel_rfl) (by kernel_rfl) rfl (by kernel_rfl) Try.func16 rfl (by kernel_rfl) (ConvRs.refl _ _) (by kernel_rfl) (by kernel_rfl) (by kernel_rfl) (by decide) (by kernel_rfl) (by kernel_rfl) (fun _ => (by kernel_rfl)) (fun _ => (by kernel_rfl)) (fun _ => (by kernel_rfl)) (fun r114 => ?_)
                refine dCall (i := 5) (caps := []) (v := (fun (r115 : Int) => (.d (.int .i64 r115) : V))) (H' := (fun (r115 : Int) => ([.box [.d (.lit (List.map e_i64 r1210))], .box [.d (.lit (List.map e_i64 r1211))], .box [.d (.lit (List.map e_i64 r130))], .box [.d (.int .i64 x37), .d (.int .i64 x38)]] : List Blk))) [] _ (distribution_Below_goes k r1210 s14) rfl (by kernel_rfl) (by kernel_rfl) (by kernel_rfl) (by kernel_rfl) (by kernel_rfl) (by kernel_rfl) (by kernel_rfl) (by kernel_rfl) rfl (by kernel_rfl) Try.func16 rfl (by kernel_rfl) (ConvRs.refl _ _) (by kernel_rfl) (by kernel_rfl) (by kernel_rfl) (by decide) (by kernel_rfl) (by kernel_rfl) (fun _ => (by kernel_rfl)) (fun _ => (by kernel_rfl)) (fun _ => (by kernel_rfl)) (fun r115 => ?_)
                refine dCall (i := 8) (caps := []) (v := (fun (r116 : Int) => (.d (.int .i64 r116) : V))) (H' := (fun (r116 : Int) => ([.box [.d (.lit (List.map e_i64 r1210))], .box [.d (.lit (List.map e_i64 r1211))], .box [.d (.lit (List.map e_i64 r130))], .box [.d (.int .i64 x37), .d (.int .i64 x38)]] : List Blk))) [] _ (distribution_Below_goes k r1211 s14) rfl (by kernel_rfl) (by kernel_rfl) (by kernel_rfl) (by kernel_rfl) (by kernel_rfl) (by kernel_rfl) (by kernel_rfl) (by kernel_rfl) rfl (by kernel_rfl) Try.func16 rfl (by kernel_rfl) (ConvRs.refl _ _) (by kernel_rfl) (by kernel_rfl) (by kernel_rfl) (by decide) (by kernel_rfl) (by kernel_rfl) (fun _ => (by kernel_rfl)) (fun _ => (by kernel_rfl)) (fun _ => (by kernel_rfl)) (fun r116 => ?_)
                refine aTakeL (i := 9) (st' := []) (.d (.int .i64 (IntKind.wrap .i64 (r115 + r116)))) rfl (by kernel_rfl) (by kernel_rfl) (by kernel_rfl) (by kernel_rfl) (by kernel_rfl) (by kernel_rfl) (by kernel_rfl) (PureV.quiet (p_int (k := .i64) (p := r115) (q := r116) (by kernel_rfl) (by kernel_rfl) (by kernel_rfl)) []) ?_
                refine aTakeL (i := 10) (st' := []) (.d (.bool (r114 != (IntKind.wrap .i64 (r115 + r116))))) rfl (by kernel_rfl) (by kernel_rfl) (by kernel_rfl) (by kernel_rfl) (by kernel_rfl) (by kernel_rfl) (by kernel_rfl) (PureV.quiet (p_int (k := .i64) (p := r114) (q := (IntKind.wrap .i64 (r115 + r116))) (by kernel_rfl) (by kernel_rfl) (by kernel_rfl)) []) ?_
                refine aDone (by kernel_rfl) ?_
                refine bSplit 61 (by kernel_rfl) (fun hc => ?_) (fun hc => ?_)
                · refine oCondT (by kernel_rfl) ?_
                  refine oSeq ?_
                  refine oRegion rfl ?_
                  refine oOp (.d (.bool false)) (by kernel_rfl) (by kernel_rfl) (PureV.does (p_assign (by kernel_rfl))) ?_
                  refine oEnd ?_
                  exact oRet (r0 := false) (rv := .d (.bool false)) (B := []) (vs := [.d (.bool false)]) (σ := []) (by kernel_rfl) Try.func6 rfl (.cons _ _ _ _ (.tmp 2 _ (by kernel_rfl)) .nil) (by kernel_rfl) (by kernel_rfl) (by kernel_rfl) (by kernel_rfl) (by decide) (by kernel_rfl) (by kernel_rfl)
                · refine oCondF (by kernel_rfl) ?_
                  refine oSkip ?_
                  refine oSeq ?_
                  refine oRegion rfl ?_
                  refine oOp (.agg [.d (.lit (List.map e_i64 r130))]) (by kernel_rfl) (by kernel_rfl) (Quiet.does (k_loadAgg 2 0 (by kernel_rfl) Try.underlying26 (by kernel_rfl) ty26 (by kernel_rfl))) ?_
                  refine oOp (.d (.int .i64 s14)) (by kernel_rfl) (by kernel_rfl) (PureV.does (p_move (by kernel_rfl))) ?_
                  refine bCall (caps := []) (v := (uc fun (r1220 : Int) => (uc fun (r1413 : Int) => (fun (r1513 : Int) => (.tuple [.agg [.d (.int .i64 r1220), .d (.int .i64 r1413)], .d (.int .i64 r1513)] : V))))) (H' := (uc fun (r1220 : Int) => (uc fun (r1413 : Int) => (fun (r1513 : Int) => ([.box [.d (.lit (List.map e_i64 r1210))], .box [.d (.lit (List.map e_i64 r1211))], .box [.d (.lit (List.map e_i64 r130))], .box [.d (.int .i64 x37), .d (.int .i64 x38)]] : List Blk))))) [] _ (distribution_Rank_goes k r130 s14) (by kernel_rfl) (by kernel_rfl) rfl (by kernel_rfl) Try.func23 rfl (by kernel_rfl) (ConvRs.refl _ _) (by kernel_rfl) (by kernel_rfl) (by kernel_rfl) (by decide) (by kernel_rfl) (by kernel_rfl) (fun _ => (by kernel_rfl)) (fun _ => (by kernel_rfl)) (fun _ => (by kernel_rfl)) (fun r => ?_)
                  obtain ⟨r1220, r1413, r1513⟩ := r
                  refine bUc ?_
                  refine bUc ?_
                  refine oOp (.tuple [.agg [.d (.int .i64 r1220), .d (.int .i64 r1413)], .d (.int .i64 r1513)]) (by kernel_rfl) (by kernel_rfl) (PureV.does (p_move (by kernel_rfl))) ?_
                  refine oOp (.agg [.d (.int .i64 r1220), .d (.int .i64 r1413)]) (by kernel_rfl) (by kernel_rfl) (PureV.does (k_extract (by kernel_rfl))) ?_
                  refine oOp (.d (.int .i64 r1513)) (by kernel_rfl) (by kernel_rfl) (PureV.does (k_extract (by kernel_rfl))) ?_
                  refine oOp (.ptr 4 0) (by kernel_rfl) (by kernel_rfl) (k_alloc (H' := [.box [.d (.lit (List.map e_i64 r1210))], .box [.d (.lit (List.map e_i64 r1211))], .box [.d (.lit (List.map e_i64 r130))], .box [.d (.int .i64 x37), .d (.int .i64 x38)], .box [.d (.int .i64 0), .d (.int .i64 0)]]) ty31 (by kernel_rfl) (by kernel_rfl)) ?_
                  refine oOp (.undef) (by kernel_rfl) (by kernel_rfl) (k_store (vs := [.d (.int .i64 r1220), .d (.int .i64 r1413)]) (H' := [.box [.d (.lit (List.map e_i64 r1210))], .box [.d (.lit (List.map e_i64 r1211))], .box [.d (.lit (List.map e_i64 r130))], .box [.d (.int .i64 x37), .d (.int .i64 x38)], .box [.d (.int .i64 r1220), .d (.int .i64 r1413)]]) 4 0 (by kernel_rfl) ty31 (by kernel_rfl) (by kernel_rfl) (by kernel_rfl)) ?_
                  refine oOp (.d (.int .i64 r1513)) (by kernel_rfl) (by kernel_rfl) (PureV.does (p_assign (by kernel_rfl))) ?_
                  refine oEnd ?_
                  refine oSeq ?_
                  refine oRegion rfl ?_
                  refine oOp (.d (.int .i64 r1513)) (by kernel_rfl) (by kernel_rfl) (PureV.does (p_move (by kernel_rfl))) ?_
                  refine oOp (.d (.bool (r1513 == 0))) (by kernel_rfl) (by kernel_rfl) (PureV.does (p_int (k := .i64) (p := r1513) (q := 0) (by kernel_rfl) (by kernel_rfl) (by kernel_rfl))) ?_
                  refine oEnd ?_
                  refine bSplit 69 (by kernel_rfl) (fun hc => ?_) (fun hc => ?_)
                  · refine oCondT (by kernel_rfl) ?_
                    refine oSeq ?_
                    refine oSeq ?_
                    refine oRegion rfl ?_
                    refine oOp (.agg [.d (.int .i64 r1220), .d (.int .i64 r1413)]) (by kernel_rfl) (by kernel_rfl) (Quiet.does (k_loadAgg 4 0 (by kernel_rfl) Try.underlying31 (by kernel_rfl) ty31 (by kernel_rfl))) ?_
                    refine oOp (.agg [.d (.int .i64 x37), .d (.int .i64 x38)]) (by kernel_rfl) (by kernel_rfl) (Quiet.does (k_loadAgg 3 0 (by kernel_rfl) Try.underlying31 (by kernel_rfl) ty31 (by kernel_rfl))) ?_
                    refine bCall (caps := []) (v := (fun (r170 : Bool) => (.d (.bool r170) : V))) (H' := (fun (r170 : Bool) => ([.box [.d (.lit (List.map e_i64 r1210))], .box [.d (.lit (List.map e_i64 r1211))], .box [.d (.lit (List.map e_i64 r130))], .box [.d (.int .i64 x37), .d (.int .i64 x38)], .box [.d (.int .i64 r1220), .d (.int .i64 r1413)]] : List Blk))) [] _ (ref01_Less_goes k r1220 r1413 x37 x38) (by kernel_rfl) (by kernel_rfl) rfl (by kernel_rfl) Try.func21 rfl (by kernel_rfl) (ConvRs.refl _ _) (by kernel_rfl) (by kernel_rfl) (by kernel_rfl) (by decide) (by kernel_rfl) (by kernel_rfl) (fun _ => (by kernel_rfl)) (fun _ => (by kernel_rfl)) (fun _ => (by kernel_rfl)) (fun r170 => ?_)
                    refine oEnd ?_
                    refine bSplit 72 (by kernel_rfl) (fun hc => ?_) (fun hc => ?_)
                    · refine oCondT (by kernel_rfl) ?_
                      refine oSeq ?_
                      refine oRegion rfl ?_
                      refine oOp (.d (.bool false)) (by kernel_rfl) (by kernel_rfl) (PureV.does (p_assign (by kernel_rfl))) ?_
                      refine oEnd ?_
                      exact oRet (r0 := false) (rv := .d (.bool false)) (B := []) (vs := [.d (.bool false)]) (σ := []) (by kernel_rfl) Try.func6 rfl (.cons _ _ _ _ (.tmp 2 _ (by kernel_rfl)) .nil) (by kernel_rfl) (by kernel_rfl) (by kernel_rfl) (by kernel_rfl) (by decide) (by kernel_rfl) (by kernel_rfl)
                    · refine oCondF (by kernel_rfl) ?_
                      refine oSkip ?_
                      refine oRegion rfl ?_
                      refine oOp (.agg [.d (.int .i64 r1220), .d (.int .i64 r1413)]) (by kernel_rfl) (by kernel_rfl) (Quiet.does (k_loadAgg 4 0 (by kernel_rfl) Try.underlying31 (by kernel_rfl) ty31 (by kernel_rfl))) ?_
                      refine oOp (.undef) (by kernel_rfl) (by kernel_rfl) (k_store (vs := [.d (.int .i64 r1220), .d (.int .i64 r1413)]) (H' := [.box [.d (.lit (List.map e_i64 r1210))], .box [.d (.lit (List.map e_i64 r1211))], .box [.d (.lit (List.map e_i64 r130))], .box [.d (.int .i64 r1220), .d (.int .i64 r1413)], .box [.d (.int .i64 r1220), .d (.int .i64 r1413)]]) 3 0 (by kernel_rfl) ty31 (by kernel_rfl) (by kernel_rfl) (by kernel_rfl)) ?_
                      refine oEnd ?_
                      refine oBlk ?_
                      refine oHead [4, 5, 6, 8, 9] [0, 1, 2, 3] (T' := [(4, .ptr 0 0), (5, .ptr 1 0), (6, .ptr 2 0), (8, .ptr 3 0), (9, .d (.int .i64 s14))]) (H' := [.box [.d (.lit (List.map e_i64 r1210))], .box [.d (.lit (List.map e_i64 r1211))], .box [.d (.lit (List.map e_i64 r130))], .box [.d (.int .i64 r1220), .d (.int .i64 r1413)]]) (by kernel_rfl) (by kernel_rfl) (by kernel_rfl) (by kernel_rfl) (by decide) (by kernel_rfl) (by kernel_rfl) ?_
                      exact hj17 (r1220, r1413)
                  · refine oCondF (by kernel_rfl) ?_
                    refine oSkip ?_
                    refine oBlk ?_
                    refine oHead [4, 5, 6, 8, 9] [0, 1, 2, 3] (T' := [(4, .ptr 0 0), (5, .ptr 1 0), (6, .ptr 2 0), (8, .ptr 3 0), (9, .d (.int .i64 s14))]) (H' := [.box [.d (.lit (List.map e_i64 r1210))], .box [.d (.lit (List.map e_i64 r1211))], .box [.d (.lit (List.map e_i64 r130))], .box [.d (.int .i64 x37), .d (.int .i64 x38)]]) (by kernel_rfl) (by kernel_rfl) (by kernel_rfl) (by kernel_rfl) (by decide) (by kernel_rfl) (by kernel_rfl) ?_
                    exact hj17 (x37, x38)
            · refine oCondF (by kernel_rfl) ?_
              refine oExit rfl ?_
              refine oHead [4, 5, 6] [0, 1, 2] (T' := [(4, .ptr 0 0), (5, .ptr 1 0), (6, .ptr 2 0)]) (H' := [.box [.d (.lit (List.map e_i64 r1210))], .box [.d (.lit (List.map e_i64 r1211))], .box [.d (.lit (List.map e_i64 r130))]]) (by kernel_rfl) (by kernel_rfl) (by kernel_rfl) (by kernel_rfl) (by decide) (by kernel_rfl) (by kernel_rfl) ?_
              exact hj8 ()
    · refine dSplit 36 (by kernel_rfl) (by kernel_rfl) (fun hc => ?_) (fun hc => ?_)
      · refine aTakeNot (i := 3) rfl (by kernel_rfl) (by kernel_rfl) (by kernel_rfl) (by kernel_rfl) (by kernel_rfl) (by kernel_rfl) (by kernel_rfl) ?_
        refine aTakeNot (i := 4) rfl (by kernel_rfl) (by kernel_rfl) (by kernel_rfl) (by kernel_rfl) (by kernel_rfl) (by kernel_rfl) (by kernel_rfl) ?_
        refine aTakeNot (i := 5) rfl (by kernel_rfl) (by kernel_rfl) (by kernel_rfl) (by kernel_rfl) (by kernel_rfl) (by kernel_rfl) (by kernel_rfl) ?_
        refine aTakeNot (i := 6) rfl (by kernel_rfl) (by kernel_rfl) (by kernel_rfl) (by kernel_rfl) (by kernel_rfl) (by kernel_rfl) (by kernel_rfl) ?_
        refine aTakeNot (i := 7) rfl (by kernel_rfl) (by kernel_rfl) (by kernel_rfl) (by kernel_rfl) (by kernel_rfl) (by kernel_rfl) (by kernel_rfl) ?_
        refine aTakeNot (i := 8) rfl (by kernel_rfl) (by kernel_rfl) (by kernel_rfl) (by kernel_rfl) (by kernel_rfl) (by kernel_rfl) (by kernel_rfl) ?_
        refine aTakeNot (i := 9) rfl (by kernel_rfl) (by kernel_rfl) (by kernel_rfl) (by kernel_rfl) (by kernel_rfl) (by kernel_rfl) (by kernel_rfl) ?_
        refine aTakeNot (i := 10) rfl (by kernel_rfl) (by kernel_rfl) (by kernel_rfl) (by kernel_rfl) (by kernel_rfl) (by kernel_rfl) (by kernel_rfl) ?_
        refine aTakeL (i := 11) (st' := []) (.d (.bool true)) rfl (by kernel_rfl) (by kernel_rfl) (by kernel_rfl) (by kernel_rfl) (by kernel_rfl) (by kernel_rfl) (by kernel_rfl) (PureV.quiet (p_pick (b := true) (by kernel_rfl) (by kernel_rfl)) []) ?_
        refine dDrop [4, 5, 6, 45] [4, 5, 6, 45] (T' := [(4, .ptr 1 0), (5, .ptr 2 0), (6, .ptr 3 0), (45, .d (.bool true))]) (U' := [(4, .ptr 1 0), (5, .ptr 2 0), (6, .ptr 3 0), (45, .d (.bool true))]) (by kernel_rfl) (by kernel_rfl) ?_
        exact hj5 true
      · refine aTakeL (i := 3) (st' := [3]) (.agg [.d (.lit (List.map e_i64 r130))]) rfl (by kernel_rfl) (by kernel_rfl) (by kernel_rfl) (by kernel_rfl) (by kernel_rfl) (by kernel_rfl) (by kernel_rfl) (k_loadAgg 3 0 (by kernel_rfl) Try.underlying26 (by kernel_rfl) ty26 (by kernel_rfl)) ?_
        refine aTakeL (i := 5) (st' := [1]) (.agg [.d (.lit (List.map e_i64 r1210))]) rfl (by kernel_rfl) (by kernel_rfl) (by kernel_rfl) (by kernel_rfl) (by kernel_rfl) (by kernel_rfl) (by kernel_rfl) (k_loadAgg 1 0 (by kernel_rfl) Try.underlying26 (by kernel_rfl) ty26 (by kernel_rfl)) ?_
        refine aTakeL (i := 7) (st' := [2]) (.agg [.d (.lit (List.map e_i64 r1211))]) rfl (by kernel_rfl) (by kernel_rfl) (by kernel_rfl) (by kernel_rfl) (by kernel_rfl) (by kernel_rfl) (by kernel_rfl) (k_loadAgg 2 0 (by kernel_rfl) Try.underlying26 (by kernel_rfl) ty26 (by kernel_rfl)) ?_
        refine dCall (i := 4) (caps := []) (v := (fun (r111 : Int) => (.d (.int .i64 r111) : V))) (H' := (fun (r111 : Int) => ([.box [.d (.lit (List.map e_i64 t)), .d (.int .i64 x73)], .box [.d (.lit (List.map e_i64 r1210))], .box [.d (.lit (List.map e_i64 r1211))], .box [.d (.lit (List.map e_i64 r130))]] : List Blk))) [] _ (distribution_Count_goes k r130) rfl (by kernel_rfl) (by kernel_rfl) (by kernel_rfl) (by kernel_rfl) (by kernel_rfl) (by kernel_rfl) (by kernel_rfl) (by kernel_rfl) rfl (by kernel_rfl) Try.func15 rfl (by kernel_rfl) (ConvRs.refl _ _) (by kernel_rfl) (by kernel_rfl) (by kernel_rfl) (by decide) (by kernel_rfl) (by kernel_rfl) (fun _ => (by kernel_rfl)) (fun _ => (by kernel_rfl)) (fun _ => (by kernel_rfl)) (fun r111 => ?_)
        refine dCall (i := 6) (caps := []) (v := (fun (r112 : Int) => (.d (.int .i64 r112) : V))) (H' := (fun (r112 : Int) => ([.box [.d (.lit (List.map e_i64 t)), .d (.int .i64 x73)], .box [.d (.lit (List.map e_i64 r1210))], .box [.d (.lit (List.map e_i64 r1211))], .box [.d (.lit (List.map e_i64 r130))]] : List Blk))) [] _ (distribution_Count_goes k r1210) rfl (by kernel_rfl) (by kernel_rfl) (by kernel_rfl) (by kernel_rfl) (by kernel_rfl) (by kernel_rfl) (by kernel_rfl) (by kernel_rfl) rfl (by kernel_rfl) Try.func15 rfl (by kernel_rfl) (ConvRs.refl _ _) (by kernel_rfl) (by kernel_rfl) (by kernel_rfl) (by decide) (by kernel_rfl) (by kernel_rfl) (fun _ => (by kernel_rfl)) (fun _ => (by kernel_rfl)) (fun _ => (by kernel_rfl)) (fun r112 => ?_)
        refine dCall (i := 8) (caps := []) (v := (fun (r113 : Int) => (.d (.int .i64 r113) : V))) (H' := (fun (r113 : Int) => ([.box [.d (.lit (List.map e_i64 t)), .d (.int .i64 x73)], .box [.d (.lit (List.map e_i64 r1210))], .box [.d (.lit (List.map e_i64 r1211))], .box [.d (.lit (List.map e_i64 r130))]] : List Blk))) [] _ (distribution_Count_goes k r1211) rfl (by kernel_rfl) (by kernel_rfl) (by kernel_rfl) (by kernel_rfl) (by kernel_rfl) (by kernel_rfl) (by kernel_rfl) (by kernel_rfl) rfl (by kernel_rfl) Try.func15 rfl (by kernel_rfl) (ConvRs.refl _ _) (by kernel_rfl) (by kernel_rfl) (by kernel_rfl) (by decide) (by kernel_rfl) (by kernel_rfl) (fun _ => (by kernel_rfl)) (fun _ => (by kernel_rfl)) (fun _ => (by kernel_rfl)) (fun r113 => ?_)
        refine aTakeL (i := 9) (st' := []) (.d (.int .i64 (IntKind.wrap .i64 (r112 + r113)))) rfl (by kernel_rfl) (by kernel_rfl) (by kernel_rfl) (by kernel_rfl) (by kernel_rfl) (by kernel_rfl) (by kernel_rfl) (PureV.quiet (p_int (k := .i64) (p := r112) (q := r113) (by kernel_rfl) (by kernel_rfl) (by kernel_rfl)) []) ?_
        refine aTakeL (i := 10) (st' := []) (.d (.bool (r111 != (IntKind.wrap .i64 (r112 + r113))))) rfl (by kernel_rfl) (by kernel_rfl) (by kernel_rfl) (by kernel_rfl) (by kernel_rfl) (by kernel_rfl) (by kernel_rfl) (PureV.quiet (p_int (k := .i64) (p := r111) (q := (IntKind.wrap .i64 (r112 + r113))) (by kernel_rfl) (by kernel_rfl) (by kernel_rfl)) []) ?_
        refine aTakeL (i := 11) (st' := []) (.d (.bool (r111 != (IntKind.wrap .i64 (r112 + r113))))) rfl (by kernel_rfl) (by kernel_rfl) (by kernel_rfl) (by kernel_rfl) (by kernel_rfl) (by kernel_rfl) (by kernel_rfl) (PureV.quiet (p_pick (b := false) (by kernel_rfl) (by kernel_rfl)) []) ?_
        refine dDrop [4, 5, 6, 45] [4, 5, 6, 45] (T' := [(4, .ptr 1 0), (5, .ptr 2 0), (6, .ptr 3 0), (45, .d (.bool (r111 != (IntKind.wrap .i64 (r112 + r113)))))]) (U' := [(4, .ptr 1 0), (5, .ptr 2 0), (6, .ptr 3 0), (45, .d (.bool (r111 != (IntKind.wrap .i64 (r112 + r113)))))]) (by kernel_rfl) (by kernel_rfl) ?_
        refine dLv [11, 10, 9, 8, 7, 6, 5, 4, 3, 2, 1, 0] (by kernel_rfl) ?_
        exact hj5 (r111 != (IntKind.wrap .i64 (r112 + r113)))

end Go.VM
