/- Plain functions that answer as the program's functions do, and the proof that they do. -/
import Derived.Test.YtgfejdekpmkffaaProg
import Derived.KernelRfl
import Derived.Test.YtgfejdekpmkffaaEngW
import Derived.Test.YtgfejdekpmkffaaBFacts
import Derived.Test.YtgfejdekpmkffaaBFuns0
import Derived.Test.YtgfejdekpmkffaaBFuns1
import Derived.Test.YtgfejdekpmkffaaBFuns2
import Derived.Test.YtgfejdekpmkffaaBFuns3
import Derived.Test.YtgfejdekpmkffaaBFuns4
namespace Go.VM
open Go.Proofs
set_option linter.unusedVariables false
set_option linter.unusedSimpArgs false
set_option maxRecDepth 100000
/-- awardingbody/awardingbodyref01.Divide -/
def ref01_Divide_b1 (k : Nat) (a0 : Int) (a1 : Int) (b0 : Int) (b1 : Int) (again : Int × Int × Int × Int × Int → Option (Int × Int × Int × Int)) : Int × Int × Int × Int × Int → Option (Int × Int × Int × Int) := uc fun i4 => uc fun x56 => uc fun x57 => uc fun x58 => fun x59 => bif (decide (i4 ≥ 0)) then Option.bind (gnn (IntKind.wrap .u64 (Int.tmod i4 64)) (Option.bind (bif (decide (i4 ≥ 64)) then gnn (IntKind.wrap .u64 (IntKind.wrap .i64 (i4 - 64))) (some (iand .u64 (Int.fdiv a0 (2 ^ (min (Int.toNat (IntKind.wrap .u64 (IntKind.wrap .i64 (i4 - 64)))) (IntKind.bits .u64)))) 1)) else some (iand .u64 (Int.fdiv a1 (2 ^ (min (Int.toNat (IntKind.wrap .u64 (Int.tmod i4 64))) (IntKind.bits .u64)))) 1) : Option (Int)) (fun bit4 => Option.bind (ref01_Twice k x58 x59) (uc fun r131 => fun r1118 => Option.bind (ref01_Twice k x56 x57) (uc fun r132 => fun r1119 => Option.bind (bif ((Int.fdiv x58 (2 ^ (min (Int.toNat 63) (IntKind.bits .u64)))) == 1) then some (true, (ior .u64 r1118 bit4)) else Option.bind (ref01_Order k r131 (ior .u64 r1118 bit4) b0 b1) (fun r134 => some ((decide (r134 ≥ 0)), (ior .u64 r1118 bit4))) : Option (Bool × Int)) (uc fun x76 => fun x77 => bif x76 then Option.bind (ref01_Minus k r131 x77 b0 b1) (u0 (some (r132, (ior .u64 r1119 1), ((r131 - b0 - (if x77 < b1 + 0 then 1 else 0)) % 18446744073709551616), ((x77 - b1 - 0) % 18446744073709551616)))) else some (r132, r1119, r131, x77)))))) : Option (Int × Int × Int × Int)) (uc fun x72 => uc fun x73 => uc fun x74 => fun x75 => again ((IntKind.wrap .i64 (i4 - 1)), x72, x73, x74, x75)) else some (x56, x57, x58, x59)
def ref01_Divide (k : Nat) (a0 : Int) (a1 : Int) (b0 : Int) (b1 : Int) : Option (Int × Int × Int × Int) := blet ((a0 == 0) && (b0 == 0)) fun x25 => bif x25 then gnz b1 (gnz b1 (some (0, (IntKind.wrap .u64 (Int.tdiv a1 b1)), 0, (Int.tmod a1 b1)))) else Option.bind (gloop (ref01_Divide_b1 k a0 a1 b0 b1) k (127, 0, 0, 0, 0) : Option (Int × Int × Int × Int)) (uc fun x46 => uc fun x47 => uc fun x48 => fun x49 => some (x46, x47, x48, x49))
def ref01_Divide_E (a0 : Int) (a1 : Int) (b0 : Int) (b1 : Int) : Int × Int × Int × Int → V × List Blk := uc fun r17 => uc fun r18 => uc fun r19 => fun r110 => (.tuple [.agg [.d (.int .u64 r17), .d (.int .u64 r18)], .agg [.d (.int .u64 r19), .d (.int .u64 r110)]], [])
theorem ref01_Divide_goes (k : Nat) (a0 : Int) (a1 : Int) (b0 : Int) (b1 : Int) : RunsO Try.prog 42 [.agg [.d (.int .u64 a0), .d (.int .u64 a1)], .agg [.d (.int .u64 b0), .d (.int .u64 b1)]] [] (ref01_Divide_E a0 a1 b0 b1) (ref01_Divide k a0 a1 b0 b1) := by
  refine RunsO.of_goes (N := 82) (m := 0) (T := [(0, .agg [.d (.int .u64 a0), .d (.int .u64 a1)]), (1, .agg [.d (.int .u64 b0), .d (.int .u64 b1)])]) Try.func42 rfl rfl (by kernel_rfl) (by kernel_rfl) (by kernel_rfl) ?_
  unfold ref01_Divide
  refine bStart ?_
  refine oSeq ?_
  refine oRegion rfl ?_
  refine oOp (.ptr 0 0) (by kernel_rfl) (by kernel_rfl) (k_box (H' := [.box [.d (.int .u64 a0), .d (.int .u64 a1)]]) (cells := [.d (.int .u64 a0), .d (.int .u64 a1)]) (by kernel_rfl) (by kernel_rfl) (by kernel_rfl)) ?_
  refine oOp (.ptr 1 0) (by kernel_rfl) (by kernel_rfl) (k_box (H' := [.box [.d (.int .u64 a0), .d (.int .u64 a1)], .box [.d (.int .u64 b0), .d (.int .u64 b1)]]) (cells := [.d (.int .u64 b0), .d (.int .u64 b1)]) (by kernel_rfl) (by kernel_rfl) (by kernel_rfl)) ?_
  refine oOp (.ptr 2 0) (by kernel_rfl) (by kernel_rfl) (k_alloc (H' := [.box [.d (.int .u64 a0), .d (.int .u64 a1)], .box [.d (.int .u64 b0), .d (.int .u64 b1)], .box [.d (.int .u64 0), .d (.int .u64 0)]]) ty59 (by kernel_rfl) (by kernel_rfl)) ?_
  refine oOp (.ptr 3 0) (by kernel_rfl) (by kernel_rfl) (k_alloc (H' := [.box [.d (.int .u64 a0), .d (.int .u64 a1)], .box [.d (.int .u64 b0), .d (.int .u64 b1)], .box [.d (.int .u64 0), .d (.int .u64 0)], .box [.d (.int .u64 0), .d (.int .u64 0)]]) ty59 (by kernel_rfl) (by kernel_rfl)) ?_
  refine oEnd ?_
  refine oSeq ?_
  refine oSeq ?_
  refine oRegion rfl ?_
  refine oOp (.ptr 0 0) (by kernel_rfl) (by kernel_rfl) (PureV.does (k_fieldAddr 0 0 (by kernel_rfl) Try.underlying59 rfl ty56 (by kernel_rfl))) ?_
  refine oOp (.d (.int .u64 a0)) (by kernel_rfl) (by kernel_rfl) (Quiet.does (k_load 0 0 (by kernel_rfl) Try.underlying56 (by kernel_rfl) (by kernel_rfl))) ?_
  refine oOp (.d (.bool (a0 == 0))) (by kernel_rfl) (by kernel_rfl) (PureV.does (p_int (k := .u64) (p := a0) (q := 0) (by kernel_rfl) (by kernel_rfl) (by kernel_rfl))) ?_
  refine oOp (.d (.bool (a0 == 0))) (by kernel_rfl) (by kernel_rfl) (PureV.does (p_move (by kernel_rfl))) ?_
  refine bMeetF (H' := [.box [.d (.int .u64 a0), .d (.int .u64 a1)], .box [.d (.int .u64 b0), .d (.int .u64 b1)], .box [.d (.int .u64 0), .d (.int .u64 0)], .box [.d (.int .u64 0), .d (.int .u64 0)]]) 4 rfl ((fun (x25 : Bool) => [(2, .ptr 0 0), (3, .ptr 1 0), (4, .ptr 2 0), (5, .ptr 3 0), (18, .d (.bool x25))])) (fun x25 => ?_) (fun F hj5 => ?_)
  · refine oView (T' := [(2, .ptr 0 0), (3, .ptr 1 0), (4, .ptr 2 0), (5, .ptr 3 0), (18, .d (.bool x25))]) (H' := [.box [.d (.int .u64 a0), .d (.int .u64 a1)], .box [.d (.int .u64 b0), .d (.int .u64 b1)], .box [.d (.int .u64 0), .d (.int .u64 0)], .box [.d (.int .u64 0), .d (.int .u64 0)]]) (by kernel_rfl) (by kernel_rfl) ?_
    refine oEnd ?_
    refine bSplit 18 (by kernel_rfl) (fun hc => ?_) (fun hc => ?_)
    · refine oCondT (by kernel_rfl) ?_
      refine oSeq ?_
      refine oDraw [(0, 14), (1, 14), (2, 12), (3, 13)] rfl ?_
      refine aTakeL (i := 0) (st' := []) (.ptr 0 1) rfl (by kernel_rfl) (by kernel_rfl) (by kernel_rfl) (by kernel_rfl) (by kernel_rfl) (by kernel_rfl) (by kernel_rfl) (PureV.quiet (k_fieldAddr 0 0 (by kernel_rfl) Try.underlying59 rfl ty56 (by kernel_rfl)) []) ?_
      refine aTakeL (i := 1) (st' := [0]) (.d (.int .u64 a1)) rfl (by kernel_rfl) (by kernel_rfl) (by kernel_rfl) (by kernel_rfl) (by kernel_rfl) (by kernel_rfl) (by kernel_rfl) (k_load 0 1 (by kernel_rfl) Try.underlying56 (by kernel_rfl) (by kernel_rfl)) ?_
      refine aTakeL (i := 2) (st' := []) (.ptr 1 1) rfl (by kernel_rfl) (by kernel_rfl) (by kernel_rfl) (by kernel_rfl) (by kernel_rfl) (by kernel_rfl) (by kernel_rfl) (PureV.quiet (k_fieldAddr 1 0 (by kernel_rfl) Try.underlying59 rfl ty56 (by kernel_rfl)) []) ?_
      refine aTakeL (i := 3) (st' := [1]) (.d (.int .u64 b1)) rfl (by kernel_rfl) (by kernel_rfl) (by kernel_rfl) (by kernel_rfl) (by kernel_rfl) (by kernel_rfl) (by kernel_rfl) (k_load 1 1 (by kernel_rfl) Try.underlying56 (by kernel_rfl) (by kernel_rfl)) ?_
      refine dNz (fun h1 => ?_)
      refine aTakeP (i := 4) (.d (.int .u64 (IntKind.wrap .u64 (Int.tdiv a1 b1)))) rfl (by kernel_rfl) (by kernel_rfl) (by kernel_rfl) (by kernel_rfl) (by kernel_rfl) (by kernel_rfl) (by kernel_rfl) (p_quo (k := .u64) (p := a1) (q := b1) (by kernel_rfl) (by kernel_rfl) h1 (by kernel_rfl)) ?_
      refine aTakeL (i := 5) (st' := []) (.agg [.d (.int .u64 0), .d (.int .u64 (IntKind.wrap .u64 (Int.tdiv a1 b1)))]) rfl (by kernel_rfl) (by kernel_rfl) (by kernel_rfl) (by kernel_rfl) (by kernel_rfl) (by kernel_rfl) (by kernel_rfl) (PureV.quiet (p_build bld59 (by kernel_rfl)) []) ?_
      refine aTakeL (i := 6) (st' := []) (.ptr 0 1) rfl (by kernel_rfl) (by kernel_rfl) (by kernel_rfl) (by kernel_rfl) (by kernel_rfl) (by kernel_rfl) (by kernel_rfl) (PureV.quiet (k_fieldAddr 0 0 (by kernel_rfl) Try.underlying59 rfl ty56 (by kernel_rfl)) []) ?_
      refine aTakeL (i := 7) (st' := [0]) (.d (.int .u64 a1)) rfl (by kernel_rfl) (by kernel_rfl) (by kernel_rfl) (by kernel_rfl) (by kernel_rfl) (by kernel_rfl) (by kernel_rfl) (k_load 0 1 (by kernel_rfl) Try.underlying56 (by kernel_rfl) (by kernel_rfl)) ?_
      refine aTakeL (i := 8) (st' := []) (.ptr 1 1) rfl (by kernel_rfl) (by kernel_rfl) (by kernel_rfl) (by kernel_rfl) (by kernel_rfl) (by kernel_rfl) (by kernel_rfl) (PureV.quiet (k_fieldAddr 1 0 (by kernel_rfl) Try.underlying59 rfl ty56 (by kernel_rfl)) []) ?_
      refine aTakeL (i := 9) (st' := [1]) (.d (.int .u64 b1)) rfl (by kernel_rfl) (by kernel_rfl) (by kernel_rfl) (by kernel_rfl) (by kernel_rfl) (by kernel_rfl) (by kernel_rfl) (k_load 1 1 (by kernel_rfl) Try.underlying56 (by kernel_rfl) (by kernel_rfl)) ?_
      refine dNz (fun h12 => ?_)
      refine aTakeP (i := 10) (.d (.int .u64 (Int.tmod a1 b1))) rfl (by kernel_rfl) (by kernel_rfl) (by kernel_rfl) (by kernel_rfl) (by kernel_rfl) (by kernel_rfl) (by kernel_rfl) (p_rem (k := .u64) (p := a1) (q := b1) (by kernel_rfl) (by kernel_rfl) h12 (by kernel_rfl)) ?_
      refine aTakeL (i := 11) (st' := []) (.agg [.d (.int .u64 0), .d (.int .u64 (Int.tmod a1 b1))]) rfl (by kernel_rfl) (by kernel_rfl) (by kernel_rfl) (by kernel_rfl) (by kernel_rfl) (by kernel_rfl) (by kernel_rfl) (PureV.quiet (p_build bld59 (by kernel_rfl)) []) ?_
      refine aOne (i := 12) (v := .undef) rfl (by kernel_rfl) (by kernel_rfl) (by kernel_rfl) (by kernel_rfl) (by kernel_rfl) (by kernel_rfl) (by kernel_rfl) (Does.acts (k_store (vs := [.d (.int .u64 0), .d (.int .u64 (IntKind.wrap .u64 (Int.tdiv a1 b1)))]) (H' := [.box [.d (.int .u64 a0), .d (.int .u64 a1)], .box [.d (.int .u64 b0), .d (.int .u64 b1)], .box [.d (.int .u64 0), .d (.int .u64 (IntKind.wrap .u64 (Int.tdiv a1 b1)))], .box [.d (.int .u64 0), .d (.int .u64 0)]]) 2 0 (by kernel_rfl) ty59 (by kernel_rfl) (by kernel_rfl) (by kernel_rfl))) (by kernel_rfl) ?_
      refine aOne (i := 13) (v := .undef) rfl (by kernel_rfl) (by kernel_rfl) (by kernel_rfl) (by kernel_rfl) (by kernel_rfl) (by kernel_rfl) (by kernel_rfl) (Does.acts (k_store (vs := [.d (.int .u64 0), .d (.int .u64 (Int.tmod a1 b1))]) (H' := [.box [.d (.int .u64 a0), .d (.int .u64 a1)], .box [.d (.int .u64 b0), .d (.int .u64 b1)], .box [.d (.int .u64 0), .d (.int .u64 (IntKind.wrap .u64 (Int.tdiv a1 b1)))], .box [.d (.int .u64 0), .d (.int .u64 (Int.tmod a1 b1))]]) 3 0 (by kernel_rfl) ty59 (by kernel_rfl) (by kernel_rfl) (by kernel_rfl))) (by kernel_rfl) ?_
      refine aDone (by kernel_rfl) ?_
      exact oRet (r0 := (0, (IntKind.wrap .u64 (Int.tdiv a1 b1)), 0, (Int.tmod a1 b1))) (rv := .tuple [.agg [.d (.int .u64 0), .d (.int .u64 (IntKind.wrap .u64 (Int.tdiv a1 b1)))], .agg [.d (.int .u64 0), .d (.int .u64 (Int.tmod a1 b1))]]) (B := []) (vs := [.agg [.d (.int .u64 0), .d (.int .u64 (IntKind.wrap .u64 (Int.tdiv a1 b1)))], .agg [.d (.int .u64 0), .d (.int .u64 (Int.tmod a1 b1))]]) (σ := []) (by kernel_rfl) Try.func42 rfl (.cons _ _ _ _ (.agg 4 59 2 0 [.d (.int .u64 0), .d (.int .u64 (IntKind.wrap .u64 (Int.tdiv a1 b1)))] [.d (.int .u64 0), .d (.int .u64 (IntKind.wrap .u64 (Int.tdiv a1 b1)))] _ _ _ _ (by kernel_rfl) (by kernel_rfl) Try.underlying59 (by kernel_rfl) ty59 (by kernel_rfl) (by kernel_rfl)) (.cons _ _ _ _ (.agg 5 59 3 0 [.d (.int .u64 0), .d (.int .u64 (Int.tmod a1 b1))] [.d (.int .u64 0), .d (.int .u64 (Int.tmod a1 b1))] _ _ _ _ (by kernel_rfl) (by kernel_rfl) Try.underlying59 (by kernel_rfl) ty59 (by kernel_rfl) (by kernel_rfl)) .nil)) (by kernel_rfl) (by kernel_rfl) (by kernel_rfl) (by kernel_rfl) (by decide) (by kernel_rfl) (by kernel_rfl)
    · refine oCondF (by kernel_rfl) ?_
      refine oSkip ?_
      refine oSeq ?_
      refine oRegion rfl ?_
      refine oOp (.agg [.d (.int .u64 0), .d (.int .u64 0)]) (by kernel_rfl) (by kernel_rfl) (PureV.does (p_build bld59 (by kernel_rfl))) ?_
      refine oOp (.agg [.d (.int .u64 0), .d (.int .u64 0)]) (by kernel_rfl) (by kernel_rfl) (PureV.does (p_build bld59 (by kernel_rfl))) ?_
      refine oOp (.ptr 4 0) (by kernel_rfl) (by kernel_rfl) (k_alloc (H' := [.box [.d (.int .u64 a0), .d (.int .u64 a1)], .box [.d (.int .u64 b0), .d (.int .u64 b1)], .box [.d (.int .u64 0), .d (.int .u64 0)], .box [.d (.int .u64 0), .d (.int .u64 0)], .box [.d (.int .u64 0), .d (.int .u64 0)]]) ty59 (by kernel_rfl) (by kernel_rfl)) ?_
      refine oOp (.ptr 5 0) (by kernel_rfl) (by kernel_rfl) (k_alloc (H' := [.box [.d (.int .u64 a0), .d (.int .u64 a1)], .box [.d (.int .u64 b0), .d (.int .u64 b1)], .box [.d (.int .u64 0), .d (.int .u64 0)], .box [.d (.int .u64 0), .d (.int .u64 0)], .box [.d (.int .u64 0), .d (.int .u64 0)], .box [.d (.int .u64 0), .d (.int .u64 0)]]) ty59 (by kernel_rfl) (by kernel_rfl)) ?_
      refine oOp (.undef) (by kernel_rfl) (by kernel_rfl) (k_store (vs := [.d (.int .u64 0), .d (.int .u64 0)]) (H' := [.box [.d (.int .u64 a0), .d (.int .u64 a1)], .box [.d (.int .u64 b0), .d (.int .u64 b1)], .box [.d (.int .u64 0), .d (.int .u64 0)], .box [.d (.int .u64 0), .d (.int .u64 0)], .box [.d (.int .u64 0), .d (.int .u64 0)], .box [.d (.int .u64 0), .d (.int .u64 0)]]) 4 0 (by kernel_rfl) ty59 (by kernel_rfl) (by kernel_rfl) (by kernel_rfl)) ?_
      refine oOp (.undef) (by kernel_rfl) (by kernel_rfl) (k_store (vs := [.d (.int .u64 0), .d (.int .u64 0)]) (H' := [.box [.d (.int .u64 a0), .d (.int .u64 a1)], .box [.d (.int .u64 b0), .d (.int .u64 b1)], .box [.d (.int .u64 0), .d (.int .u64 0)], .box [.d (.int .u64 0), .d (.int .u64 0)], .box [.d (.int .u64 0), .d (.int .u64 0)], .box [.d (.int .u64 0), .d (.int .u64 0)]]) 5 0 (by kernel_rfl) ty59 (by kernel_rfl) (by kernel_rfl) (by kernel_rfl)) ?_
      refine oEnd ?_
      refine oSeq ?_
      refine oSeq ?_
      refine oRegion rfl ?_
      refine oOp (.d (.int .i64 127)) (by kernel_rfl) (by kernel_rfl) (PureV.does (p_assign (by kernel_rfl))) ?_
      refine oEnd ?_
      refine bJoin ((uc fun (x46 : Int) => (uc fun (x47 : Int) => (uc fun (x48 : Int) => (fun (x49 : Int) => [(4, .ptr 0 0), (5, .ptr 1 0), (6, .ptr 2 0), (7, .ptr 3 0)]))))) ((uc fun (x46 : Int) => (uc fun (x47 : Int) => (uc fun (x48 : Int) => (fun (x49 : Int) => [.box [.d (.int .u64 0), .d (.int .u64 0)], .box [.d (.int .u64 0), .d (.int .u64 0)], .box [.d (.int .u64 x46), .d (.int .u64 x47)], .box [.d (.int .u64 x48), .d (.int .u64 x49)]]))))) (fun s => s) (fun s => ?_) (fun hj9 => ?_)
      · obtain ⟨x46, x47, x48, x49⟩ := s
        refine bUc ?_
        refine bUc ?_
        refine bUc ?_
        refine oView (T' := [(4, .ptr 0 0), (5, .ptr 1 0), (6, .ptr 2 0), (7, .ptr 3 0)]) (H' := [.box [.d (.int .u64 0), .d (.int .u64 0)], .box [.d (.int .u64 0), .d (.int .u64 0)], .box [.d (.int .u64 x46), .d (.int .u64 x47)], .box [.d (.int .u64 x48), .d (.int .u64 x49)]]) (by kernel_rfl) (by kernel_rfl) ?_
        refine oSeq ?_
        refine oDraw [(0, 2), (1, 3), (2, 4), (3, 4)] rfl ?_
        refine aTakeL (i := 0) (st' := [2]) (.agg [.d (.int .u64 x46), .d (.int .u64 x47)]) rfl (by kernel_rfl) (by kernel_rfl) (by kernel_rfl) (by kernel_rfl) (by kernel_rfl) (by kernel_rfl) (by kernel_rfl) (k_loadAgg 2 0 (by kernel_rfl) Try.underlying59 (by kernel_rfl) ty59 (by kernel_rfl)) ?_
        refine aTakeL (i := 1) (st' := [3]) (.agg [.d (.int .u64 x48), .d (.int .u64 x49)]) rfl (by kernel_rfl) (by kernel_rfl) (by kernel_rfl) (by kernel_rfl) (by kernel_rfl) (by kernel_rfl) (by kernel_rfl) (k_loadAgg 3 0 (by kernel_rfl) Try.underlying59 (by kernel_rfl) ty59 (by kernel_rfl)) ?_
        refine aOne (i := 2) (v := .undef) rfl (by kernel_rfl) (by kernel_rfl) (by kernel_rfl) (by kernel_rfl) (by kernel_rfl) (by kernel_rfl) (by kernel_rfl) (Does.acts (k_store (vs := [.d (.int .u64 x46), .d (.int .u64 x47)]) (H' := [.box [.d (.int .u64 x46), .d (.int .u64 x47)], .box [.d (.int .u64 0), .d (.int .u64 0)], .box [.d (.int .u64 x46), .d (.int .u64 x47)], .box [.d (.int .u64 x48), .d (.int .u64 x49)]]) 0 0 (by kernel_rfl) ty59 (by kernel_rfl) (by kernel_rfl) (by kernel_rfl))) (by kernel_rfl) ?_
        refine aOne (i := 3) (v := .undef) rfl (by kernel_rfl) (by kernel_rfl) (by kernel_rfl) (by kernel_rfl) (by kernel_rfl) (by kernel_rfl) (by kernel_rfl) (Does.acts (k_store (vs := [.d (.int .u64 x48), .d (.int .u64 x49)]) (H' := [.box [.d (.int .u64 x46), .d (.int .u64 x47)], .box [.d (.int .u64 x48), .d (.int .u64 x49)], .box [.d (.int .u64 x46), .d (.int .u64 x47)], .box [.d (.int .u64 x48), .d (.int .u64 x49)]]) 1 0 (by kernel_rfl) ty59 (by kernel_rfl) (by kernel_rfl) (by kernel_rfl))) (by kernel_rfl) ?_
        refine aDone (by kernel_rfl) ?_
        exact oRet (r0 := (x46, x47, x48, x49)) (rv := .tuple [.agg [.d (.int .u64 x46), .d (.int .u64 x47)], .agg [.d (.int .u64 x48), .d (.int .u64 x49)]]) (B := []) (vs := [.agg [.d (.int .u64 x46), .d (.int .u64 x47)], .agg [.d (.int .u64 x48), .d (.int .u64 x49)]]) (σ := []) (by kernel_rfl) Try.func42 rfl (.cons _ _ _ _ (.agg 4 59 0 0 [.d (.int .u64 x46), .d (.int .u64 x47)] [.d (.int .u64 x46), .d (.int .u64 x47)] _ _ _ _ (by kernel_rfl) (by kernel_rfl) Try.underlying59 (by kernel_rfl) ty59 (by kernel_rfl) (by kernel_rfl)) (.cons _ _ _ _ (.agg 5 59 1 0 [.d (.int .u64 x48), .d (.int .u64 x49)] [.d (.int .u64 x48), .d (.int .u64 x49)] _ _ _ _ (by kernel_rfl) (by kernel_rfl) Try.underlying59 (by kernel_rfl) ty59 (by kernel_rfl) (by kernel_rfl)) .nil)) (by kernel_rfl) (by kernel_rfl) (by kernel_rfl) (by kernel_rfl) (by decide) (by kernel_rfl) (by kernel_rfl)
      · refine oBlock ?_
        refine oLoop ?_
        refine oHead [2, 3, 4, 5, 6, 7, 8] [0, 1, 2, 3, 4, 5] (T' := [(2, .ptr 0 0), (3, .ptr 1 0), (4, .ptr 2 0), (5, .ptr 3 0), (6, .ptr 4 0), (7, .ptr 5 0), (8, .d (.int .i64 127))]) (H' := [.box [.d (.int .u64 a0), .d (.int .u64 a1)], .box [.d (.int .u64 b0), .d (.int .u64 b1)], .box [.d (.int .u64 0), .d (.int .u64 0)], .box [.d (.int .u64 0), .d (.int .u64 0)], .box [.d (.int .u64 0), .d (.int .u64 0)], .box [.d (.int .u64 0), .d (.int .u64 0)]]) (by kernel_rfl) (by kernel_rfl) (by kernel_rfl) (by kernel_rfl) (by decide) (by kernel_rfl) (by kernel_rfl) ?_
        refine bLoop (body := ref01_Divide_b1 k a0 a1 b0 b1) ((uc fun (i4 : Int) => (uc fun (x56 : Int) => (uc fun (x57 : Int) => (uc fun (x58 : Int) => (fun (x59 : Int) => [(2, .ptr 0 0), (3, .ptr 1 0), (4, .ptr 2 0), (5, .ptr 3 0), (6, .ptr 4 0), (7, .ptr 5 0), (8, .d (.int .i64 i4))])))))) ((uc fun (i4 : Int) => (uc fun (x56 : Int) => (uc fun (x57 : Int) => (uc fun (x58 : Int) => (fun (x59 : Int) => [.box [.d (.int .u64 a0), .d (.int .u64 a1)], .box [.d (.int .u64 b0), .d (.int .u64 b1)], .box [.d (.int .u64 0), .d (.int .u64 0)], .box [.d (.int .u64 0), .d (.int .u64 0)], .box [.d (.int .u64 x56), .d (.int .u64 x57)], .box [.d (.int .u64 x58), .d (.int .u64 x59)]])))))) (fun again hag1 s => ?_) k (127, 0, 0, 0, 0)
        · unfold ref01_Divide_b1
          obtain ⟨i4, x56, x57, x58, x59⟩ := s
          refine bUc ?_
          refine bUc ?_
          refine bUc ?_
          refine bUc ?_
          refine oView (T' := [(2, .ptr 0 0), (3, .ptr 1 0), (4, .ptr 2 0), (5, .ptr 3 0), (6, .ptr 4 0), (7, .ptr 5 0), (8, .d (.int .i64 i4))]) (H' := [.box [.d (.int .u64 a0), .d (.int .u64 a1)], .box [.d (.int .u64 b0), .d (.int .u64 b1)], .box [.d (.int .u64 0), .d (.int .u64 0)], .box [.d (.int .u64 0), .d (.int .u64 0)], .box [.d (.int .u64 x56), .d (.int .u64 x57)], .box [.d (.int .u64 x58), .d (.int .u64 x59)]]) (by kernel_rfl) (by kernel_rfl) ?_
          refine oSeq ?_
          refine oSeq ?_
          refine oRegion rfl ?_
          refine oOp (.d (.int .i64 i4)) (by kernel_rfl) (by kernel_rfl) (PureV.does (p_move (by kernel_rfl))) ?_
          refine oOp (.d (.bool (decide (i4 ≥ 0)))) (by kernel_rfl) (by kernel_rfl) (PureV.does (p_int (k := .i64) (p := i4) (q := 0) (by kernel_rfl) (by kernel_rfl) (by kernel_rfl))) ?_
          refine oEnd ?_
          refine bSplit 34 (by kernel_rfl) (fun hc => ?_) (fun hc => ?_)
          · refine oCondT (by kernel_rfl) ?_
            refine oSkip ?_
            refine oSeq ?_
            refine bJoin ((uc fun (x72 : Int) => (uc fun (x73 : Int) => (uc fun (x74 : Int) => (fun (x75 : Int) => [(2, .ptr 0 0), (3, .ptr 1 0), (4, .ptr 2 0), (5, .ptr 3 0), (6, .ptr 4 0), (7, .ptr 5 0), (8, .d (.int .i64 i4))]))))) ((uc fun (x72 : Int) => (uc fun (x73 : Int) => (uc fun (x74 : Int) => (fun (x75 : Int) => [.box [.d (.int .u64 a0), .d (.int .u64 a1)], .box [.d (.int .u64 b0), .d (.int .u64 b1)], .box [.d (.int .u64 0), .d (.int .u64 0)], .box [.d (.int .u64 0), .d (.int .u64 0)], .box [.d (.int .u64 x72), .d (.int .u64 x73)], .box [.d (.int .u64 x74), .d (.int .u64 x75)]]))))) (fun s => s) (fun s => ?_) (fun hj14 => ?_)
            · obtain ⟨x72, x73, x74, x75⟩ := s
              refine bUc ?_
              refine bUc ?_
              refine bUc ?_
              refine oView (T' := [(2, .ptr 0 0), (3, .ptr 1 0), (4, .ptr 2 0), (5, .ptr 3 0), (6, .ptr 4 0), (7, .ptr 5 0), (8, .d (.int .i64 i4))]) (H' := [.box [.d (.int .u64 a0), .d (.int .u64 a1)], .box [.d (.int .u64 b0), .d (.int .u64 b1)], .box [.d (.int .u64 0), .d (.int .u64 0)], .box [.d (.int .u64 0), .d (.int .u64 0)], .box [.d (.int .u64 x72), .d (.int .u64 x73)], .box [.d (.int .u64 x74), .d (.int .u64 x75)]]) (by kernel_rfl) (by kernel_rfl) ?_
              refine oRegion rfl ?_
              refine oOp (.d (.int .i64 i4)) (by kernel_rfl) (by kernel_rfl) (PureV.does (p_move (by kernel_rfl))) ?_
              refine oOp (.d (.int .i64 (IntKind.wrap .i64 (i4 - 1)))) (by kernel_rfl) (by kernel_rfl) (PureV.does (p_int (k := .i64) (p := i4) (q := 1) (by kernel_rfl) (by kernel_rfl) (by kernel_rfl))) ?_
              refine oOp (.d (.int .i64 (IntKind.wrap .i64 (i4 - 1)))) (by kernel_rfl) (by kernel_rfl) (PureV.does (p_assign (by kernel_rfl))) ?_
              refine oEnd ?_
              refine oAgain ?_
              refine oHead [2, 3, 4, 5, 6, 7, 8] [0, 1, 2, 3, 4, 5] (T' := [(2, .ptr 0 0), (3, .ptr 1 0), (4, .ptr 2 0), (5, .ptr 3 0), (6, .ptr 4 0), (7, .ptr 5 0), (8, .d (.int .i64 (IntKind.wrap .i64 (i4 - 1))))]) (H' := [.box [.d (.int .u64 a0), .d (.int .u64 a1)], .box [.d (.int .u64 b0), .d (.int .u64 b1)], .box [.d (.int .u64 0), .d (.int .u64 0)], .box [.d (.int .u64 0), .d (.int .u64 0)], .box [.d (.int .u64 x72), .d (.int .u64 x73)], .box [.d (.int .u64 x74), .d (.int .u64 x75)]]) (by kernel_rfl) (by kernel_rfl) (by kernel_rfl) (by kernel_rfl) (by decide) (by kernel_rfl) (by kernel_rfl) ?_
              exact hag1 ((IntKind.wrap .i64 (i4 - 1)), x72, x73, x74, x75)
            · refine oBlock ?_
              refine oSeq ?_
              refine oRegion rfl ?_
              refine oOp (.ptr 0 1) (by kernel_rfl) (by kernel_rfl) (PureV.does (k_fieldAddr 0 0 (by kernel_rfl) Try.underlying59 rfl ty56 (by kernel_rfl))) ?_
              refine oOp (.d (.int .u64 a1)) (by kernel_rfl) (by kernel_rfl) (Quiet.does (k_load 0 1 (by kernel_rfl) Try.underlying56 (by kernel_rfl) (by kernel_rfl))) ?_
              refine oOp (.d (.int .i64 i4)) (by kernel_rfl) (by kernel_rfl) (PureV.does (p_move (by kernel_rfl))) ?_
              refine oOp (.d (.int .i64 (Int.tmod i4 64))) (by kernel_rfl) (by kernel_rfl) (PureV.does (p_rem (k := .i64) (p := i4) (q := 64) (by kernel_rfl) (by kernel_rfl) (by decide) (by kernel_rfl))) ?_
              refine oOp (.d (.int .u64 (IntKind.wrap .u64 (Int.tmod i4 64)))) (by kernel_rfl) (by kernel_rfl) (PureV.does (p_conv (k := .i64) (p := (Int.tmod i4 64)) (by kernel_rfl) Try.underlying3 Try.underlying74 (by kernel_rfl))) ?_
              refine bNn (fun h132 => ?_)
              refine oOp (.d (.int .u64 (Int.fdiv a1 (2 ^ (min (Int.toNat (IntKind.wrap .u64 (Int.tmod i4 64))) (IntKind.bits .u64)))))) (by kernel_rfl) (by kernel_rfl) (PureV.does (p_shr (k := .u64) (k2 := .u64) (p := a1) (q := (IntKind.wrap .u64 (Int.tmod i4 64))) (by kernel_rfl) (by kernel_rfl) h132 (by kernel_rfl))) ?_
              refine oOp (.d (.int .u64 (iand .u64 (Int.fdiv a1 (2 ^ (min (Int.toNat (IntKind.wrap .u64 (Int.tmod i4 64))) (IntKind.bits .u64)))) 1))) (by kernel_rfl) (by kernel_rfl) (PureV.does (p_int (k := .u64) (p := (Int.fdiv a1 (2 ^ (min (Int.toNat (IntKind.wrap .u64 (Int.tmod i4 64))) (IntKind.bits .u64))))) (q := 1) (by kernel_rfl) (by kernel_rfl) (by kernel_rfl))) ?_
              refine oOp (.d (.int .u64 (iand .u64 (Int.fdiv a1 (2 ^ (min (Int.toNat (IntKind.wrap .u64 (Int.tmod i4 64))) (IntKind.bits .u64)))) 1))) (by kernel_rfl) (by kernel_rfl) (PureV.does (p_assign (by kernel_rfl))) ?_
              refine oEnd ?_
              refine oSeq ?_
              refine oSeq ?_
              refine oRegion rfl ?_
              refine oOp (.d (.int .i64 i4)) (by kernel_rfl) (by kernel_rfl) (PureV.does (p_move (by kernel_rfl))) ?_
              refine oOp (.d (.bool (decide (i4 ≥ 64)))) (by kernel_rfl) (by kernel_rfl) (PureV.does (p_int (k := .i64) (p := i4) (q := 64) (by kernel_rfl) (by kernel_rfl) (by kernel_rfl))) ?_
              refine oEnd ?_
              refine bJoin ((fun (bit4 : Int) => [(2, .ptr 0 0), (3, .ptr 1 0), (4, .ptr 2 0), (5, .ptr 3 0), (6, .ptr 4 0), (7, .ptr 5 0), (8, .d (.int .i64 i4)), (9, .d (.int .u64 bit4))])) ((fun (bit4 : Int) => [.box [.d (.int .u64 a0), .d (.int .u64 a1)], .box [.d (.int .u64 b0), .d (.int .u64 b1)], .box [.d (.int .u64 0), .d (.int .u64 0)], .box [.d (.int .u64 0), .d (.int .u64 0)], .box [.d (.int .u64 x56), .d (.int .u64 x57)], .box [.d (.int .u64 x58), .d (.int .u64 x59)]])) (fun s => s) (fun bit4 => ?_) (fun hj15 => ?_)
              · refine oView (T' := [(2, .ptr 0 0), (3, .ptr 1 0), (4, .ptr 2 0), (5, .ptr 3 0), (6, .ptr 4 0), (7, .ptr 5 0), (8, .d (.int .i64 i4)), (9, .d (.int .u64 bit4))]) (H' := [.box [.d (.int .u64 a0), .d (.int .u64 a1)], .box [.d (.int .u64 b0), .d (.int .u64 b1)], .box [.d (.int .u64 0), .d (.int .u64 0)], .box [.d (.int .u64 0), .d (.int .u64 0)], .box [.d (.int .u64 x56), .d (.int .u64 x57)], .box [.d (.int .u64 x58), .d (.int .u64 x59)]]) (by kernel_rfl) (by kernel_rfl) ?_
                refine oSeq ?_
                refine oRegion rfl ?_
                refine oOp (.ptr 5 0) (by kernel_rfl) (by kernel_rfl) (PureV.does (k_fieldAddr 5 0 (by kernel_rfl) Try.underlying59 rfl ty56 (by kernel_rfl))) ?_
                refine oOp (.d (.int .u64 x58)) (by kernel_rfl) (by kernel_rfl) (Quiet.does (k_load 5 0 (by kernel_rfl) Try.underlying56 (by kernel_rfl) (by kernel_rfl))) ?_
                refine oOp (.d (.int .u64 (Int.fdiv x58 (2 ^ (min (Int.toNat 63) (IntKind.bits .u64)))))) (by kernel_rfl) (by kernel_rfl) (PureV.does (p_shr (k := .u64) (k2 := .u64) (p := x58) (q := 63) (by kernel_rfl) (by kernel_rfl) (by decide) (by kernel_rfl))) ?_
                refine oOp (.d (.bool ((Int.fdiv x58 (2 ^ (min (Int.toNat 63) (IntKind.bits .u64)))) == 1))) (by kernel_rfl) (by kernel_rfl) (PureV.does (p_int (k := .u64) (p := (Int.fdiv x58 (2 ^ (min (Int.toNat 63) (IntKind.bits .u64))))) (q := 1) (by kernel_rfl) (by kernel_rfl) (by kernel_rfl))) ?_
                refine oOp (.d (.bool ((Int.fdiv x58 (2 ^ (min (Int.toNat 63) (IntKind.bits .u64)))) == 1))) (by kernel_rfl) (by kernel_rfl) (PureV.does (p_assign (by kernel_rfl))) ?_
                refine oEnd ?_
                refine oSeq ?_
                refine oRegion rfl ?_
                refine oOp (.agg [.d (.int .u64 x58), .d (.int .u64 x59)]) (by kernel_rfl) (by kernel_rfl) (Quiet.does (k_loadAgg 5 0 (by kernel_rfl) Try.underlying59 (by kernel_rfl) ty59 (by kernel_rfl))) ?_
                refine bCall (caps := []) (v := (uc fun (r131 : Int) => (fun (r1118 : Int) => (.agg [.d (.int .u64 r131), .d (.int .u64 r1118)] : V)))) (H' := (uc fun (r131 : Int) => (fun (r1118 : Int) => ([.box [.d (.int .u64 a0), .d (.int .u64 a1)], .box [.d (.int .u64 b0), .d (.int .u64 b1)], .box [.d (.int .u64 0), .d (.int .u64 0)], .box [.d (.int .u64 0), .d (.int .u64 0)], .box [.d (.int .u64 x56), .d (.int .u64 x57)], .box [.d (.int .u64 x58), .d (.int .u64 x59)]] : List Blk)))) [] _ (ref01_Twice_goes k x58 x59) (by kernel_rfl) (by kernel_rfl) rfl (by kernel_rfl) Try.func49 rfl (by kernel_rfl) (ConvRs.refl _ _) (by kernel_rfl) (by kernel_rfl) (by kernel_rfl) (by decide) (by kernel_rfl) (by kernel_rfl) (fun _ => (by kernel_rfl)) (fun _ => (by kernel_rfl)) (fun _ => (by kernel_rfl)) (fun r => ?_)
                obtain ⟨r131, r1118⟩ := r
                refine bUc ?_
                refine oOp (.undef) (by kernel_rfl) (by kernel_rfl) (k_store (vs := [.d (.int .u64 r131), .d (.int .u64 r1118)]) (H' := [.box [.d (.int .u64 a0), .d (.int .u64 a1)], .box [.d (.int .u64 b0), .d (.int .u64 b1)], .box [.d (.int .u64 0), .d (.int .u64 0)], .box [.d (.int .u64 0), .d (.int .u64 0)], .box [.d (.int .u64 x56), .d (.int .u64 x57)], .box [.d (.int .u64 r131), .d (.int .u64 r1118)]]) 5 0 (by kernel_rfl) ty59 (by kernel_rfl) (by kernel_rfl) (by kernel_rfl)) ?_
                refine oEnd ?_
                refine oSeq ?_
                refine oRegion rfl ?_
                refine oOp (.ptr 5 1) (by kernel_rfl) (by kernel_rfl) (PureV.does (k_fieldAddr 5 0 (by kernel_rfl) Try.underlying59 rfl ty56 (by kernel_rfl))) ?_
                refine oOp (.d (.int .u64 r1118)) (by kernel_rfl) (by kernel_rfl) (Quiet.does (k_load 5 1 (by kernel_rfl) Try.underlying56 (by kernel_rfl) (by kernel_rfl))) ?_
                refine oOp (.d (.int .u64 bit4)) (by kernel_rfl) (by kernel_rfl) (PureV.does (p_move (by kernel_rfl))) ?_
                refine oOp (.d (.int .u64 (ior .u64 r1118 bit4))) (by kernel_rfl) (by kernel_rfl) (PureV.does (p_int (k := .u64) (p := r1118) (q := bit4) (by kernel_rfl) (by kernel_rfl) (by kernel_rfl))) ?_
                refine oOp (.ptr 5 1) (by kernel_rfl) (by kernel_rfl) (PureV.does (k_fieldAddr 5 0 (by kernel_rfl) Try.underlying59 rfl ty56 (by kernel_rfl))) ?_
                refine oOp (.undef) (by kernel_rfl) (by kernel_rfl) (k_store (vs := [.d (.int .u64 (ior .u64 r1118 bit4))]) (H' := [.box [.d (.int .u64 a0), .d (.int .u64 a1)], .box [.d (.int .u64 b0), .d (.int .u64 b1)], .box [.d (.int .u64 0), .d (.int .u64 0)], .box [.d (.int .u64 0), .d (.int .u64 0)], .box [.d (.int .u64 x56), .d (.int .u64 x57)], .box [.d (.int .u64 r131), .d (.int .u64 (ior .u64 r1118 bit4))]]) 5 1 (by kernel_rfl) ty56 (by kernel_rfl) (by kernel_rfl) (by kernel_rfl)) ?_
                refine oEnd ?_
                refine oSeq ?_
                refine oRegion rfl ?_
                refine oOp (.agg [.d (.int .u64 x56), .d (.int .u64 x57)]) (by kernel_rfl) (by kernel_rfl) (Quiet.does (k_loadAgg 4 0 (by kernel_rfl) Try.underlying59 (by kernel_rfl) ty59 (by kernel_rfl))) ?_
                refine bCall (caps := []) (v := (uc fun (r132 : Int) => (fun (r1119 : Int) => (.agg [.d (.int .u64 r132), .d (.int .u64 r1119)] : V)))) (H' := (uc fun (r132 : Int) => (fun (r1119 : Int) => ([.box [.d (.int .u64 a0), .d (.int .u64 a1)], .box [.d (.int .u64 b0), .d (.int .u64 b1)], .box [.d (.int .u64 0), .d (.int .u64 0)], .box [.d (.int .u64 0), .d (.int .u64 0)], .box [.d (.int .u64 x56), .d (.int .u64 x57)], .box [.d (.int .u64 r131), .d (.int .u64 (ior .u64 r1118 bit4))]] : List Blk)))) [] _ (ref01_Twice_goes k x56 x57) (by kernel_rfl) (by kernel_rfl) rfl (by kernel_rfl) Try.func49 rfl (by kernel_rfl) (ConvRs.refl _ _) (by kernel_rfl) (by kernel_rfl) (by kernel_rfl) (by decide) (by kernel_rfl) (by kernel_rfl) (fun _ => (by kernel_rfl)) (fun _ => (by kernel_rfl)) (fun _ => (by kernel_rfl)) (fun r => ?_)
                obtain ⟨r132, r1119⟩ := r
                refine bUc ?_
                refine oOp (.undef) (by kernel_rfl) (by kernel_rfl) (k_store (vs := [.d (.int .u64 r132), .d (.int .u64 r1119)]) (H' := [.box [.d (.int .u64 a0), .d (.int .u64 a1)], .box [.d (.int .u64 b0), .d (.int .u64 b1)], .box [.d (.int .u64 0), .d (.int .u64 0)], .box [.d (.int .u64 0), .d (.int .u64 0)], .box [.d (.int .u64 r132), .d (.int .u64 r1119)], .box [.d (.int .u64 r131), .d (.int .u64 (ior .u64 r1118 bit4))]]) 4 0 (by kernel_rfl) ty59 (by kernel_rfl) (by kernel_rfl) (by kernel_rfl)) ?_
                refine oEnd ?_
                refine oSeq ?_
                refine oRegion rfl ?_
                refine oOp (.d (.bool ((Int.fdiv x58 (2 ^ (min (Int.toNat 63) (IntKind.bits .u64)))) == 1))) (by kernel_rfl) (by kernel_rfl) (PureV.does (p_move (by kernel_rfl))) ?_
                refine oOp (.d (.bool ((Int.fdiv x58 (2 ^ (min (Int.toNat 63) (IntKind.bits .u64)))) == 1))) (by kernel_rfl) (by kernel_rfl) (PureV.does (p_move (by kernel_rfl))) ?_
                refine bMeet 5 rfl ((uc fun (x76 : Bool) => (fun (x77 : Int) => [(2, .ptr 0 0), (3, .ptr 1 0), (4, .ptr 2 0), (5, .ptr 3 0), (6, .ptr 4 0), (7, .ptr 5 0), (8, .d (.int .i64 i4)), (72, .d (.bool x76))]))) ((uc fun (x76 : Bool) => (fun (x77 : Int) => [.box [.d (.int .u64 a0), .d (.int .u64 a1)], .box [.d (.int .u64 b0), .d (.int .u64 b1)], .box [.d (.int .u64 0), .d (.int .u64 0)], .box [.d (.int .u64 0), .d (.int .u64 0)], .box [.d (.int .u64 r132), .d (.int .u64 r1119)], .box [.d (.int .u64 r131), .d (.int .u64 x77)]]))) (fun s => s) (fun s => ?_) (fun hj16 => ?_)
                · obtain ⟨x76, x77⟩ := s
                  refine bUc ?_
                  refine oView (T' := [(2, .ptr 0 0), (3, .ptr 1 0), (4, .ptr 2 0), (5, .ptr 3 0), (6, .ptr 4 0), (7, .ptr 5 0), (8, .d (.int .i64 i4)), (72, .d (.bool x76))]) (H' := [.box [.d (.int .u64 a0), .d (.int .u64 a1)], .box [.d (.int .u64 b0), .d (.int .u64 b1)], .box [.d (.int .u64 0), .d (.int .u64 0)], .box [.d (.int .u64 0), .d (.int .u64 0)], .box [.d (.int .u64 r132), .d (.int .u64 r1119)], .box [.d (.int .u64 r131), .d (.int .u64 x77)]]) (by kernel_rfl) (by kernel_rfl) ?_
                  refine oEnd ?_
                  refine bSplit 72 (by kernel_rfl) (fun hc => ?_) (fun hc => ?_)
                  · refine oCondT (by kernel_rfl) ?_
                    refine oSeq ?_
                    refine oRegion rfl ?_
                    refine oOp (.agg [.d (.int .u64 r131), .d (.int .u64 x77)]) (by kernel_rfl) (by kernel_rfl) (Quiet.does (k_loadAgg 5 0 (by kernel_rfl) Try.underlying59 (by kernel_rfl) ty59 (by kernel_rfl))) ?_
                    refine oOp (.agg [.d (.int .u64 b0), .d (.int .u64 b1)]) (by kernel_rfl) (by kernel_rfl) (Quiet.does (k_loadAgg 1 0 (by kernel_rfl) Try.underlying59 (by kernel_rfl) ty59 (by kernel_rfl))) ?_
                    refine bCall (caps := []) (v := (u0 ((.agg [.d (.int .u64 ((r131 - b0 - (if x77 < b1 + 0 then 1 else 0)) % 18446744073709551616)), .d (.int .u64 ((x77 - b1 - 0) % 18446744073709551616))] : V)))) (H' := (u0 (([.box [.d (.int .u64 a0), .d (.int .u64 a1)], .box [.d (.int .u64 b0), .d (.int .u64 b1)], .box [.d (.int .u64 0), .d (.int .u64 0)], .box [.d (.int .u64 0), .d (.int .u64 0)], .box [.d (.int .u64 r132), .d (.int .u64 r1119)], .box [.d (.int .u64 r131), .d (.int .u64 x77)]] : List Blk)))) [] _ (ref01_Minus_goes k r131 x77 b0 b1) (by kernel_rfl) (by kernel_rfl) rfl (by kernel_rfl) Try.func51 rfl (by kernel_rfl) (ConvRs.refl _ _) (by kernel_rfl) (by kernel_rfl) (by kernel_rfl) (by decide) (by kernel_rfl) (by kernel_rfl) (fun _ => (by kernel_rfl)) (fun _ => (by kernel_rfl)) (fun _ => (by kernel_rfl)) (fun r => ?_)
                    cases r
                    refine bU0 ?_
                    refine oOp (.undef) (by kernel_rfl) (by kernel_rfl) (k_store (vs := [.d (.int .u64 ((r131 - b0 - (if x77 < b1 + 0 then 1 else 0)) % 18446744073709551616)), .d (.int .u64 ((x77 - b1 - 0) % 18446744073709551616))]) (H' := [.box [.d (.int .u64 a0), .d (.int .u64 a1)], .box [.d (.int .u64 b0), .d (.int .u64 b1)], .box [.d (.int .u64 0), .d (.int .u64 0)], .box [.d (.int .u64 0), .d (.int .u64 0)], .box [.d (.int .u64 r132), .d (.int .u64 r1119)], .box [.d (.int .u64 ((r131 - b0 - (if x77 < b1 + 0 then 1 else 0)) % 18446744073709551616)), .d (.int .u64 ((x77 - b1 - 0) % 18446744073709551616))]]) 5 0 (by kernel_rfl) ty59 (by kernel_rfl) (by kernel_rfl) (by kernel_rfl)) ?_
                    refine oEnd ?_
                    refine oRegion rfl ?_
                    refine oOp (.ptr 4 1) (by kernel_rfl) (by kernel_rfl) (PureV.does (k_fieldAddr 4 0 (by kernel_rfl) Try.underlying59 rfl ty56 (by kernel_rfl))) ?_
                    refine oOp (.d (.int .u64 r1119)) (by kernel_rfl) (by kernel_rfl) (Quiet.does (k_load 4 1 (by kernel_rfl) Try.underlying56 (by kernel_rfl) (by kernel_rfl))) ?_
                    refine oOp (.d (.int .u64 (ior .u64 r1119 1))) (by kernel_rfl) (by kernel_rfl) (PureV.does (p_int (k := .u64) (p := r1119) (q := 1) (by kernel_rfl) (by kernel_rfl) (by kernel_rfl))) ?_
                    refine oOp (.ptr 4 1) (by kernel_rfl) (by kernel_rfl) (PureV.does (k_fieldAddr 4 0 (by kernel_rfl) Try.underlying59 rfl ty56 (by kernel_rfl))) ?_
                    refine oOp (.undef) (by kernel_rfl) (by kernel_rfl) (k_store (vs := [.d (.int .u64 (ior .u64 r1119 1))]) (H' := [.box [.d (.int .u64 a0), .d (.int .u64 a1)], .box [.d (.int .u64 b0), .d (.int .u64 b1)], .box [.d (.int .u64 0), .d (.int .u64 0)], .box [.d (.int .u64 0), .d (.int .u64 0)], .box [.d (.int .u64 r132), .d (.int .u64 (ior .u64 r1119 1))], .box [.d (.int .u64 ((r131 - b0 - (if x77 < b1 + 0 then 1 else 0)) % 18446744073709551616)), .d (.int .u64 ((x77 - b1 - 0) % 18446744073709551616))]]) 4 1 (by kernel_rfl) ty56 (by kernel_rfl) (by kernel_rfl) (by kernel_rfl)) ?_
                    refine oEnd ?_
                    refine oBlk ?_
                    refine oHead [2, 3, 4, 5, 6, 7, 8] [0, 1, 2, 3, 4, 5] (T' := [(2, .ptr 0 0), (3, .ptr 1 0), (4, .ptr 2 0), (5, .ptr 3 0), (6, .ptr 4 0), (7, .ptr 5 0), (8, .d (.int .i64 i4))]) (H' := [.box [.d (.int .u64 a0), .d (.int .u64 a1)], .box [.d (.int .u64 b0), .d (.int .u64 b1)], .box [.d (.int .u64 0), .d (.int .u64 0)], .box [.d (.int .u64 0), .d (.int .u64 0)], .box [.d (.int .u64 r132), .d (.int .u64 (ior .u64 r1119 1))], .box [.d (.int .u64 ((r131 - b0 - (if x77 < b1 + 0 then 1 else 0)) % 18446744073709551616)), .d (.int .u64 ((x77 - b1 - 0) % 18446744073709551616))]]) (by kernel_rfl) (by kernel_rfl) (by kernel_rfl) (by kernel_rfl) (by decide) (by kernel_rfl) (by kernel_rfl) ?_
                    exact hj14 (r132, (ior .u64 r1119 1), ((r131 - b0 - (if x77 < b1 + 0 then 1 else 0)) % 18446744073709551616), ((x77 - b1 - 0) % 18446744073709551616))
                  · refine oCondF (by kernel_rfl) ?_
                    refine oSkip ?_
                    refine oBlk ?_
                    refine oHead [2, 3, 4, 5, 6, 7, 8] [0, 1, 2, 3, 4, 5] (T' := [(2, .ptr 0 0), (3, .ptr 1 0), (4, .ptr 2 0), (5, .ptr 3 0), (6, .ptr 4 0), (7, .ptr 5 0), (8, .d (.int .i64 i4))]) (H' := [.box [.d (.int .u64 a0), .d (.int .u64 a1)], .box [.d (.int .u64 b0), .d (.int .u64 b1)], .box [.d (.int .u64 0), .d (.int .u64 0)], .box [.d (.int .u64 0), .d (.int .u64 0)], .box [.d (.int .u64 r132), .d (.int .u64 r1119)], .box [.d (.int .u64 r131), .d (.int .u64 x77)]]) (by kernel_rfl) (by kernel_rfl) (by kernel_rfl) (by kernel_rfl) (by decide) (by kernel_rfl) (by kernel_rfl) ?_
                    exact hj14 (r132, r1119, r131, x77)
                · refine bSplit 67 (by kernel_rfl) (fun hc => ?_) (fun hc => ?_)
                  · refine oNot (by kernel_rfl) (by kernel_rfl) ?_
                    refine oNot (by kernel_rfl) (by kernel_rfl) ?_
                    refine oNot (by kernel_rfl) (by kernel_rfl) ?_
                    refine oNot (by kernel_rfl) (by kernel_rfl) ?_
                    refine oOp (.d (.bool true)) (by kernel_rfl) (by kernel_rfl) (PureV.does (p_pick (b := true) (by kernel_rfl) (by kernel_rfl))) ?_
                    refine oHead [2, 3, 4, 5, 6, 7, 8, 72] [0, 1, 2, 3, 4, 5] (T' := [(2, .ptr 0 0), (3, .ptr 1 0), (4, .ptr 2 0), (5, .ptr 3 0), (6, .ptr 4 0), (7, .ptr 5 0), (8, .d (.int .i64 i4)), (72, .d (.bool true))]) (H' := [.box [.d (.int .u64 a0), .d (.int .u64 a1)], .box [.d (.int .u64 b0), .d (.int .u64 b1)], .box [.d (.int .u64 0), .d (.int .u64 0)], .box [.d (.int .u64 0), .d (.int .u64 0)], .box [.d (.int .u64 r132), .d (.int .u64 r1119)], .box [.d (.int .u64 r131), .d (.int .u64 (ior .u64 r1118 bit4))]]) (by kernel_rfl) (by kernel_rfl) (by kernel_rfl) (by kernel_rfl) (by decide) (by kernel_rfl) (by kernel_rfl) ?_
                    exact hj16 (true, (ior .u64 r1118 bit4))
                  · refine oOp (.agg [.d (.int .u64 r131), .d (.int .u64 (ior .u64 r1118 bit4))]) (by kernel_rfl) (by kernel_rfl) (Quiet.does (k_loadAgg 5 0 (by kernel_rfl) Try.underlying59 (by kernel_rfl) ty59 (by kernel_rfl))) ?_
                    refine oOp (.agg [.d (.int .u64 b0), .d (.int .u64 b1)]) (by kernel_rfl) (by kernel_rfl) (Quiet.does (k_loadAgg 1 0 (by kernel_rfl) Try.underlying59 (by kernel_rfl) ty59 (by kernel_rfl))) ?_
                    refine bCall (caps := []) (v := (fun (r134 : Int) => (.d (.int .i64 r134) : V))) (H' := (fun (r134 : Int) => ([.box [.d (.int .u64 a0), .d (.int .u64 a1)], .box [.d (.int .u64 b0), .d (.int .u64 b1)], .box [.d (.int .u64 0), .d (.int .u64 0)], .box [.d (.int .u64 0), .d (.int .u64 0)], .box [.d (.int .u64 r132), .d (.int .u64 r1119)], .box [.d (.int .u64 r131), .d (.int .u64 (ior .u64 r1118 bit4))]] : List Blk))) [] _ (ref01_Order_goes k r131 (ior .u64 r1118 bit4) b0 b1) (by kernel_rfl) (by kernel_rfl) rfl (by kernel_rfl) Try.func50 rfl (by kernel_rfl) (ConvRs.refl _ _) (by kernel_rfl) (by kernel_rfl) (by kernel_rfl) (by decide) (by kernel_rfl) (by kernel_rfl) (fun _ => (by kernel_rfl)) (fun _ => (by kernel_rfl)) (fun _ => (by kernel_rfl)) (fun r134 => ?_)
                    refine oOp (.d (.bool (decide (r134 ≥ 0)))) (by kernel_rfl) (by kernel_rfl) (PureV.does (p_int (k := .i64) (p := r134) (q := 0) (by kernel_rfl) (by kernel_rfl) (by kernel_rfl))) ?_
                    refine oOp (.d (.bool (decide (r134 ≥ 0)))) (by kernel_rfl) (by kernel_rfl) (PureV.does (p_pick (b := false) (by kernel_rfl) (by kernel_rfl))) ?_
                    refine oHead [2, 3, 4, 5, 6, 7, 8, 72] [0, 1, 2, 3, 4, 5] (T' := [(2, .ptr 0 0), (3, .ptr 1 0), (4, .ptr 2 0), (5, .ptr 3 0), (6, .ptr 4 0), (7, .ptr 5 0), (8, .d (.int .i64 i4)), (72, .d (.bool (decide (r134 ≥ 0))))]) (H' := [.box [.d (.int .u64 a0), .d (.int .u64 a1)], .box [.d (.int .u64 b0), .d (.int .u64 b1)], .box [.d (.int .u64 0), .d (.int .u64 0)], .box [.d (.int .u64 0), .d (.int .u64 0)], .box [.d (.int .u64 r132), .d (.int .u64 r1119)], .box [.d (.int .u64 r131), .d (.int .u64 (ior .u64 r1118 bit4))]]) (by kernel_rfl) (by kernel_rfl) (by kernel_rfl) (by kernel_rfl) (by decide) (by kernel_rfl) (by kernel_rfl) ?_
                    exact hj16 ((decide (r134 ≥ 0)), (ior .u64 r1118 bit4))
              · refine bSplit 45 (by kernel_rfl) (fun hc => ?_) (fun hc => ?_)
                · refine oCondT (by kernel_rfl) ?_
                  refine oRegion rfl ?_
                  refine oOp (.ptr 0 0) (by kernel_rfl) (by kernel_rfl) (PureV.does (k_fieldAddr 0 0 (by kernel_rfl) Try.underlying59 rfl ty56 (by kernel_rfl))) ?_
                  refine oOp (.d (.int .u64 a0)) (by kernel_rfl) (by kernel_rfl) (Quiet.does (k_load 0 0 (by kernel_rfl) Try.underlying56 (by kernel_rfl) (by kernel_rfl))) ?_
                  refine oOp (.d (.int .i64 i4)) (by kernel_rfl) (by kernel_rfl) (PureV.does (p_move (by kernel_rfl))) ?_
                  refine oOp (.d (.int .i64 (IntKind.wrap .i64 (i4 - 64)))) (by kernel_rfl) (by kernel_rfl) (PureV.does (p_int (k := .i64) (p := i4) (q := 64) (by kernel_rfl) (by kernel_rfl) (by kernel_rfl))) ?_
                  refine oOp (.d (.int .u64 (IntKind.wrap .u64 (IntKind.wrap .i64 (i4 - 64))))) (by kernel_rfl) (by kernel_rfl) (PureV.does (p_conv (k := .i64) (p := (IntKind.wrap .i64 (i4 - 64))) (by kernel_rfl) Try.underlying3 Try.underlying74 (by kernel_rfl))) ?_
                  refine bNn (fun h134 => ?_)
                  refine oOp (.d (.int .u64 (Int.fdiv a0 (2 ^ (min (Int.toNat (IntKind.wrap .u64 (IntKind.wrap .i64 (i4 - 64)))) (IntKind.bits .u64)))))) (by kernel_rfl) (by kernel_rfl) (PureV.does (p_shr (k := .u64) (k2 := .u64) (p := a0) (q := (IntKind.wrap .u64 (IntKind.wrap .i64 (i4 - 64)))) (by kernel_rfl) (by kernel_rfl) h134 (by kernel_rfl))) ?_
                  refine oOp (.d (.int .u64 (iand .u64 (Int.fdiv a0 (2 ^ (min (Int.toNat (IntKind.wrap .u64 (IntKind.wrap .i64 (i4 - 64)))) (IntKind.bits .u64)))) 1))) (by kernel_rfl) (by kernel_rfl) (PureV.does (p_int (k := .u64) (p := (Int.fdiv a0 (2 ^ (min (Int.toNat (IntKind.wrap .u64 (IntKind.wrap .i64 (i4 - 64)))) (IntKind.bits .u64))))) (q := 1) (by kernel_rfl) (by kernel_rfl) (by kernel_rfl))) ?_
                  refine oOp (.d (.int .u64 (iand .u64 (Int.fdiv a0 (2 ^ (min (Int.toNat (IntKind.wrap .u64 (IntKind.wrap .i64 (i4 - 64)))) (IntKind.bits .u64)))) 1))) (by kernel_rfl) (by kernel_rfl) (PureV.does (p_assign (by kernel_rfl))) ?_
                  refine oEnd ?_
                  refine oHead [2, 3, 4, 5, 6, 7, 8, 9] [0, 1, 2, 3, 4, 5] (T' := [(2, .ptr 0 0), (3, .ptr 1 0), (4, .ptr 2 0), (5, .ptr 3 0), (6, .ptr 4 0), (7, .ptr 5 0), (8, .d (.int .i64 i4)), (9, .d (.int .u64 (iand .u64 (Int.fdiv a0 (2 ^ (min (Int.toNat (IntKind.wrap .u64 (IntKind.wrap .i64 (i4 - 64)))) (IntKind.bits .u64)))) 1)))]) (H' := [.box [.d (.int .u64 a0), .d (.int .u64 a1)], .box [.d (.int .u64 b0), .d (.int .u64 b1)], .box [.d (.int .u64 0), .d (.int .u64 0)], .box [.d (.int .u64 0), .d (.int .u64 0)], .box [.d (.int .u64 x56), .d (.int .u64 x57)], .box [.d (.int .u64 x58), .d (.int .u64 x59)]]) (by kernel_rfl) (by kernel_rfl) (by kernel_rfl) (by kernel_rfl) (by decide) (by kernel_rfl) (by kernel_rfl) ?_
                  exact hj15 (iand .u64 (Int.fdiv a0 (2 ^ (min (Int.toNat (IntKind.wrap .u64 (IntKind.wrap .i64 (i4 - 64)))) (IntKind.bits .u64)))) 1)
                · refine oCondF (by kernel_rfl) ?_
                  refine oSkip ?_
                  refine oHead [2, 3, 4, 5, 6, 7, 8, 9] [0, 1, 2, 3, 4, 5] (T' := [(2, .ptr 0 0), (3, .ptr 1 0), (4, .ptr 2 0), (5, .ptr 3 0), (6, .ptr 4 0), (7, .ptr 5 0), (8, .d (.int .i64 i4)), (9, .d (.int .u64 (iand .u64 (Int.fdiv a1 (2 ^ (min (Int.toNat (IntKind.wrap .u64 (Int.tmod i4 64))) (IntKind.bits .u64)))) 1)))]) (H' := [.box [.d (.int .u64 a0), .d (.int .u64 a1)], .box [.d (.int .u64 b0), .d (.int .u64 b1)], .box [.d (.int .u64 0), .d (.int .u64 0)], .box [.d (.int .u64 0), .d (.int .u64 0)], .box [.d (.int .u64 x56), .d (.int .u64 x57)], .box [.d (.int .u64 x58), .d (.int .u64 x59)]]) (by kernel_rfl) (by kernel_rfl) (by kernel_rfl) (by kernel_rfl) (by decide) (by kernel_rfl) (by kernel_rfl) ?_
                  exact hj15 (iand .u64 (Int.fdiv a1 (2 ^ (min (Int.toNat (IntKind.wrap .u64 (Int.tmod i4 64))) (IntKind.bits .u64)))) 1)
          · refine oCondF (by kernel_rfl) ?_
            refine oExit rfl ?_
            refine oHead [4, 5, 6, 7] [2, 3, 4, 5] (T' := [(4, .ptr 0 0), (5, .ptr 1 0), (6, .ptr 2 0), (7, .ptr 3 0)]) (H' := [.box [.d (.int .u64 0), .d (.int .u64 0)], .box [.d (.int .u64 0), .d (.int .u64 0)], .box [.d (.int .u64 x56), .d (.int .u64 x57)], .box [.d (.int .u64 x58), .d (.int .u64 x59)]]) (by kernel_rfl) (by kernel_rfl) (by kernel_rfl) (by kernel_rfl) (by decide) (by kernel_rfl) (by kernel_rfl) ?_
            exact hj9 (x56, x57, x58, x59)
  · refine bPickF 14 (fun c => F (c && (b0 == 0))) (by kernel_rfl) (fun hc => ?_) (fun hc => ?_)
    · refine oOp (.ptr 1 0) (by kernel_rfl) (by kernel_rfl) (PureV.does (k_fieldAddr 1 0 (by kernel_rfl) Try.underlying59 rfl ty56 (by kernel_rfl))) ?_
      refine oOp (.d (.int .u64 b0)) (by kernel_rfl) (by kernel_rfl) (Quiet.does (k_load 1 0 (by kernel_rfl) Try.underlying56 (by kernel_rfl) (by kernel_rfl))) ?_
      refine oOp (.d (.bool (b0 == 0))) (by kernel_rfl) (by kernel_rfl) (PureV.does (p_int (k := .u64) (p := b0) (q := 0) (by kernel_rfl) (by kernel_rfl) (by kernel_rfl))) ?_
      refine oOp (.d (.bool (b0 == 0))) (by kernel_rfl) (by kernel_rfl) (PureV.does (p_pick (b := true) (by kernel_rfl) (by kernel_rfl))) ?_
      refine oHead [2, 3, 4, 5, 18] [0, 1, 2, 3] (T' := [(2, .ptr 0 0), (3, .ptr 1 0), (4, .ptr 2 0), (5, .ptr 3 0), (18, .d (.bool (b0 == 0)))]) (H' := [.box [.d (.int .u64 a0), .d (.int .u64 a1)], .box [.d (.int .u64 b0), .d (.int .u64 b1)], .box [.d (.int .u64 0), .d (.int .u64 0)], .box [.d (.int .u64 0), .d (.int .u64 0)]]) (by kernel_rfl) (by kernel_rfl) (by kernel_rfl) (by kernel_rfl) (by decide) (by kernel_rfl) (by kernel_rfl) ?_
      exact hj5 (b0 == 0)
    · refine oNot (by kernel_rfl) (by kernel_rfl) ?_
      refine oNot (by kernel_rfl) (by kernel_rfl) ?_
      refine oNot (by kernel_rfl) (by kernel_rfl) ?_
      refine oOp (.d (.bool false)) (by kernel_rfl) (by kernel_rfl) (PureV.does (p_pick (b := false) (by kernel_rfl) (by kernel_rfl))) ?_
      refine oHead [2, 3, 4, 5, 18] [0, 1, 2, 3] (T' := [(2, .ptr 0 0), (3, .ptr 1 0), (4, .ptr 2 0), (5, .ptr 3 0), (18, .d (.bool false))]) (H' := [.box [.d (.int .u64 a0), .d (.int .u64 a1)], .box [.d (.int .u64 b0), .d (.int .u64 b1)], .box [.d (.int .u64 0), .d (.int .u64 0)], .box [.d (.int .u64 0), .d (.int .u64 0)]]) (by kernel_rfl) (by kernel_rfl) (by kernel_rfl) (by kernel_rfl) (by decide) (by kernel_rfl) (by kernel_rfl) ?_
      exact hj5 false

/-- awardingbody/awardingbodyref01.Divisor -/
def ref01_Divisor_b1 (k : Nat) (again : Int × Int × Int × Int → Option (Int × Int)) : Int × Int × Int × Int → Option (Int × Int) := uc fun x20 => uc fun x21 => uc fun x22 => fun x23 => bif (!((x22 == 0) && ((x23 == 0) && true))) then Option.bind (ref01_Divide k x20 x21 x22 x23) (uc fun r176 => uc fun r186 => uc fun r196 => fun r1106 => again (x22, x23, r196, r1106)) else some (x20, x21)
def ref01_Divisor (k : Nat) (a0 : Int) (a1 : Int) (b0 : Int) (b1 : Int) : Option (Int × Int) := Option.bind (gloop (ref01_Divisor_b1 k) k (a0, a1, b0, b1) : Option (Int × Int)) (uc fun x18 => fun x19 => some (x18, x19))
def ref01_Divisor_E (a0 : Int) (a1 : Int) (b0 : Int) (b1 : Int) : Int × Int → V × List Blk := uc fun r1 => fun r11 => (.agg [.d (.int .u64 r1), .d (.int .u64 r11)], [])
theorem ref01_Divisor_goes (k : Nat) (a0 : Int) (a1 : Int) (b0 : Int) (b1 : Int) : RunsO Try.prog 41 [.agg [.d (.int .u64 a0), .d (.int .u64 a1)], .agg [.d (.int .u64 b0), .d (.int .u64 b1)]] [] (ref01_Divisor_E a0 a1 b0 b1) (ref01_Divisor k a0 a1 b0 b1) := by
  refine RunsO.of_goes (N := 19) (m := 0) (T := [(0, .agg [.d (.int .u64 a0), .d (.int .u64 a1)]), (1, .agg [.d (.int .u64 b0), .d (.int .u64 b1)])]) Try.func41 rfl rfl (by kernel_rfl) (by kernel_rfl) (by kernel_rfl) ?_
  unfold ref01_Divisor
  refine bStart ?_
  refine oSeq ?_
  refine oRegion rfl ?_
  refine oOp (.ptr 0 0) (by kernel_rfl) (by kernel_rfl) (k_box (H' := [.box [.d (.int .u64 a0), .d (.int .u64 a1)]]) (cells := [.d (.int .u64 a0), .d (.int .u64 a1)]) (by kernel_rfl) (by kernel_rfl) (by kernel_rfl)) ?_
  refine oOp (.ptr 1 0) (by kernel_rfl) (by kernel_rfl) (k_box (H' := [.box [.d (.int .u64 a0), .d (.int .u64 a1)], .box [.d (.int .u64 b0), .d (.int .u64 b1)]]) (cells := [.d (.int .u64 b0), .d (.int .u64 b1)]) (by kernel_rfl) (by kernel_rfl) (by kernel_rfl)) ?_
  refine oOp (.ptr 2 0) (by kernel_rfl) (by kernel_rfl) (k_alloc (H' := [.box [.d (.int .u64 a0), .d (.int .u64 a1)], .box [.d (.int .u64 b0), .d (.int .u64 b1)], .box [.d (.int .u64 0), .d (.int .u64 0)]]) ty59 (by kernel_rfl) (by kernel_rfl)) ?_
  refine oEnd ?_
  refine oSeq ?_
  refine bJoin ((uc fun (x18 : Int) => (fun (x19 : Int) => [(2, .ptr 0 0), (4, .ptr 1 0)]))) ((uc fun (x18 : Int) => (fun (x19 : Int) => [.box [.d (.int .u64 x18), .d (.int .u64 x19)], .box [.d (.int .u64 0), .d (.int .u64 0)]]))) (fun s => s) (fun s => ?_) (fun hj2 => ?_)
  · obtain ⟨x18, x19⟩ := s
    refine bUc ?_
    refine oView (T' := [(2, .ptr 0 0), (4, .ptr 1 0)]) (H' := [.box [.d (.int .u64 x18), .d (.int .u64 x19)], .box [.d (.int .u64 0), .d (.int .u64 0)]]) (by kernel_rfl) (by kernel_rfl) ?_
    refine oSeq ?_
    refine oRegion rfl ?_
    refine oOp (.agg [.d (.int .u64 x18), .d (.int .u64 x19)]) (by kernel_rfl) (by kernel_rfl) (Quiet.does (k_loadAgg 0 0 (by kernel_rfl) Try.underlying59 (by kernel_rfl) ty59 (by kernel_rfl))) ?_
    refine oOp (.undef) (by kernel_rfl) (by kernel_rfl) (k_store (vs := [.d (.int .u64 x18), .d (.int .u64 x19)]) (H' := [.box [.d (.int .u64 x18), .d (.int .u64 x19)], .box [.d (.int .u64 x18), .d (.int .u64 x19)]]) 1 0 (by kernel_rfl) ty59 (by kernel_rfl) (by kernel_rfl) (by kernel_rfl)) ?_
    refine oEnd ?_
    exact oRet (r0 := (x18, x19)) (rv := .agg [.d (.int .u64 x18), .d (.int .u64 x19)]) (B := []) (vs := [.agg [.d (.int .u64 x18), .d (.int .u64 x19)]]) (σ := []) (by kernel_rfl) Try.func41 rfl (.cons _ _ _ _ (.agg 4 59 1 0 [.d (.int .u64 x18), .d (.int .u64 x19)] [.d (.int .u64 x18), .d (.int .u64 x19)] _ _ _ _ (by kernel_rfl) (by kernel_rfl) Try.underlying59 (by kernel_rfl) ty59 (by kernel_rfl) (by kernel_rfl)) .nil) (by kernel_rfl) (by kernel_rfl) (by kernel_rfl) (by kernel_rfl) (by decide) (by kernel_rfl) (by kernel_rfl)
  · refine oBlock ?_
    refine oLoop ?_
    refine oHead [2, 3, 4] [0, 1, 2] (T' := [(2, .ptr 0 0), (3, .ptr 1 0), (4, .ptr 2 0)]) (H' := [.box [.d (.int .u64 a0), .d (.int .u64 a1)], .box [.d (.int .u64 b0), .d (.int .u64 b1)], .box [.d (.int .u64 0), .d (.int .u64 0)]]) (by kernel_rfl) (by kernel_rfl) (by kernel_rfl) (by kernel_rfl) (by decide) (by kernel_rfl) (by kernel_rfl) ?_
    refine bLoop (body := ref01_Divisor_b1 k) ((uc fun (x20 : Int) => (uc fun (x21 : Int) => (uc fun (x22 : Int) => (fun (x23 : Int) => [(2, .ptr 0 0), (3, .ptr 1 0), (4, .ptr 2 0)]))))) ((uc fun (x20 : Int) => (uc fun (x21 : Int) => (uc fun (x22 : Int) => (fun (x23 : Int) => [.box [.d (.int .u64 x20), .d (.int .u64 x21)], .box [.d (.int .u64 x22), .d (.int .u64 x23)], .box [.d (.int .u64 0), .d (.int .u64 0)]]))))) (fun again hag1 s => ?_) k (a0, a1, b0, b1)
    · unfold ref01_Divisor_b1
      obtain ⟨x20, x21, x22, x23⟩ := s
      refine bUc ?_
      refine bUc ?_
      refine bUc ?_
      refine oView (T' := [(2, .ptr 0 0), (3, .ptr 1 0), (4, .ptr 2 0)]) (H' := [.box [.d (.int .u64 x20), .d (.int .u64 x21)], .box [.d (.int .u64 x22), .d (.int .u64 x23)], .box [.d (.int .u64 0), .d (.int .u64 0)]]) (by kernel_rfl) (by kernel_rfl) ?_
      refine oSeq ?_
      refine oSeq ?_
      refine oRegion rfl ?_
      refine oOp (.agg [.d (.int .u64 x22), .d (.int .u64 x23)]) (by kernel_rfl) (by kernel_rfl) (Quiet.does (k_loadAgg 1 0 (by kernel_rfl) Try.underlying59 (by kernel_rfl) ty59 (by kernel_rfl))) ?_
      refine oOp (.agg [.d (.int .u64 0), .d (.int .u64 0)]) (by kernel_rfl) (by kernel_rfl) (PureV.does (p_build bld59 (by kernel_rfl))) ?_
      refine oOp (.d (.bool (!((x22 == 0) && ((x23 == 0) && true))))) (by kernel_rfl) (by kernel_rfl) (PureV.does (k_neAgg (by kernel_rfl) (by kernel_rfl) Try.eqGuardType59 (EqV.struct 1 59 [.d (.int .u64 x22), .d (.int .u64 x23)] [.d (.int .u64 0), .d (.int .u64 0)] _ ((x22 == 0) && ((x23 == 0) && true)) Try.underlying59 Try.stoodInHeld59 (EqF.one 1 1 _ _ _ _ _ _ _ (x22 == 0) ((x23 == 0) && true) (by kernel_rfl) Try.underlying56 (by kernel_rfl) (by kernel_rfl) (by kernel_rfl) (by kernel_rfl) (EqV.int 56 .u64 .u64 x22 0 Try.underlying56) (EqF.one 1 1 _ _ _ _ _ _ _ (x23 == 0) true (by kernel_rfl) Try.underlying56 (by kernel_rfl) (by kernel_rfl) (by kernel_rfl) (by kernel_rfl) (EqV.int 56 .u64 .u64 x23 0 Try.underlying56) (EqF.nil 1 _ _)))) (by kernel_rfl))) ?_
      refine oEnd ?_
      refine bSplit 9 (by kernel_rfl) (fun hc => ?_) (fun hc => ?_)
      · refine oCondT (by kernel_rfl) ?_
        refine oSkip ?_
        refine oBlock ?_
        refine oSeq ?_
        refine oRegion rfl ?_
        refine oOp (.agg [.d (.int .u64 x20), .d (.int .u64 x21)]) (by kernel_rfl) (by kernel_rfl) (Quiet.does (k_loadAgg 0 0 (by kernel_rfl) Try.underlying59 (by kernel_rfl) ty59 (by kernel_rfl))) ?_
        refine oOp (.agg [.d (.int .u64 x22), .d (.int .u64 x23)]) (by kernel_rfl) (by kernel_rfl) (Quiet.does (k_loadAgg 1 0 (by kernel_rfl) Try.underlying59 (by kernel_rfl) ty59 (by kernel_rfl))) ?_
        refine bCall (caps := []) (v := (uc fun (r176 : Int) => (uc fun (r186 : Int) => (uc fun (r196 : Int) => (fun (r1106 : Int) => (.tuple [.agg [.d (.int .u64 r176), .d (.int .u64 r186)], .agg [.d (.int .u64 r196), .d (.int .u64 r1106)]] : V)))))) (H' := (uc fun (r176 : Int) => (uc fun (r186 : Int) => (uc fun (r196 : Int) => (fun (r1106 : Int) => ([.box [.d (.int .u64 x20), .d (.int .u64 x21)], .box [.d (.int .u64 x22), .d (.int .u64 x23)], .box [.d (.int .u64 0), .d (.int .u64 0)]] : List Blk)))))) [] _ (ref01_Divide_goes k x20 x21 x22 x23) (by kernel_rfl) (by kernel_rfl) rfl (by kernel_rfl) Try.func42 rfl (by kernel_rfl) (ConvRs.refl _ _) (by kernel_rfl) (by kernel_rfl) (by kernel_rfl) (by decide) (by kernel_rfl) (by kernel_rfl) (fun _ => (by kernel_rfl)) (fun _ => (by kernel_rfl)) (fun _ => (by kernel_rfl)) (fun r => ?_)
        obtain ⟨r176, r186, r196, r1106⟩ := r
        refine bUc ?_
        refine bUc ?_
        refine bUc ?_
        refine oOp (.tuple [.agg [.d (.int .u64 r176), .d (.int .u64 r186)], .agg [.d (.int .u64 r196), .d (.int .u64 r1106)]]) (by kernel_rfl) (by kernel_rfl) (PureV.does (p_move (by kernel_rfl))) ?_
        refine oOp (.agg [.d (.int .u64 r176), .d (.int .u64 r186)]) (by kernel_rfl) (by kernel_rfl) (PureV.does (k_extract (by kernel_rfl))) ?_
        refine oOp (.agg [.d (.int .u64 r196), .d (.int .u64 r1106)]) (by kernel_rfl) (by kernel_rfl) (PureV.does (k_extract (by kernel_rfl))) ?_
        refine oOp (.ptr 3 0) (by kernel_rfl) (by kernel_rfl) (k_alloc (H' := [.box [.d (.int .u64 x20), .d (.int .u64 x21)], .box [.d (.int .u64 x22), .d (.int .u64 x23)], .box [.d (.int .u64 0), .d (.int .u64 0)], .box [.d (.int .u64 0), .d (.int .u64 0)]]) ty59 (by kernel_rfl) (by kernel_rfl)) ?_
        refine oOp (.ptr 4 0) (by kernel_rfl) (by kernel_rfl) (k_alloc (H' := [.box [.d (.int .u64 x20), .d (.int .u64 x21)], .box [.d (.int .u64 x22), .d (.int .u64 x23)], .box [.d (.int .u64 0), .d (.int .u64 0)], .box [.d (.int .u64 0), .d (.int .u64 0)], .box [.d (.int .u64 0), .d (.int .u64 0)]]) ty59 (by kernel_rfl) (by kernel_rfl)) ?_
        refine oOp (.undef) (by kernel_rfl) (by kernel_rfl) (k_store (vs := [.d (.int .u64 r176), .d (.int .u64 r186)]) (H' := [.box [.d (.int .u64 x20), .d (.int .u64 x21)], .box [.d (.int .u64 x22), .d (.int .u64 x23)], .box [.d (.int .u64 0), .d (.int .u64 0)], .box [.d (.int .u64 r176), .d (.int .u64 r186)], .box [.d (.int .u64 0), .d (.int .u64 0)]]) 3 0 (by kernel_rfl) ty59 (by kernel_rfl) (by kernel_rfl) (by kernel_rfl)) ?_
        refine oOp (.undef) (by kernel_rfl) (by kernel_rfl) (k_store (vs := [.d (.int .u64 r196), .d (.int .u64 r1106)]) (H' := [.box [.d (.int .u64 x20), .d (.int .u64 x21)], .box [.d (.int .u64 x22), .d (.int .u64 x23)], .box [.d (.int .u64 0), .d (.int .u64 0)], .box [.d (.int .u64 r176), .d (.int .u64 r186)], .box [.d (.int .u64 r196), .d (.int .u64 r1106)]]) 4 0 (by kernel_rfl) ty59 (by kernel_rfl) (by kernel_rfl) (by kernel_rfl)) ?_
        refine oEnd ?_
        refine oDraw [(0, 2), (1, 3), (2, 4), (3, 4), (4, 4)] rfl ?_
        refine aTakeL (i := 0) (st' := [1]) (.agg [.d (.int .u64 x22), .d (.int .u64 x23)]) rfl (by kernel_rfl) (by kernel_rfl) (by kernel_rfl) (by kernel_rfl) (by kernel_rfl) (by kernel_rfl) (by kernel_rfl) (k_loadAgg 1 0 (by kernel_rfl) Try.underlying59 (by kernel_rfl) ty59 (by kernel_rfl)) ?_
        refine aTakeL (i := 1) (st' := [4]) (.agg [.d (.int .u64 r196), .d (.int .u64 r1106)]) rfl (by kernel_rfl) (by kernel_rfl) (by kernel_rfl) (by kernel_rfl) (by kernel_rfl) (by kernel_rfl) (by kernel_rfl) (k_loadAgg 4 0 (by kernel_rfl) Try.underlying59 (by kernel_rfl) ty59 (by kernel_rfl)) ?_
        refine aOne (i := 2) (v := .undef) rfl (by kernel_rfl) (by kernel_rfl) (by kernel_rfl) (by kernel_rfl) (by kernel_rfl) (by kernel_rfl) (by kernel_rfl) (Does.acts (k_store (vs := [.d (.int .u64 x22), .d (.int .u64 x23)]) (H' := [.box [.d (.int .u64 x22), .d (.int .u64 x23)], .box [.d (.int .u64 x22), .d (.int .u64 x23)], .box [.d (.int .u64 0), .d (.int .u64 0)], .box [.d (.int .u64 r176), .d (.int .u64 r186)], .box [.d (.int .u64 r196), .d (.int .u64 r1106)]]) 0 0 (by kernel_rfl) ty59 (by kernel_rfl) (by kernel_rfl) (by kernel_rfl))) (by kernel_rfl) ?_
        refine aOne (i := 3) (v := .undef) rfl (by kernel_rfl) (by kernel_rfl) (by kernel_rfl) (by kernel_rfl) (by kernel_rfl) (by kernel_rfl) (by kernel_rfl) (Does.acts (k_store (vs := [.d (.int .u64 r196), .d (.int .u64 r1106)]) (H' := [.box [.d (.int .u64 x22), .d (.int .u64 x23)], .box [.d (.int .u64 r196), .d (.int .u64 r1106)], .box [.d (.int .u64 0), .d (.int .u64 0)], .box [.d (.int .u64 r176), .d (.int .u64 r186)], .box [.d (.int .u64 r196), .d (.int .u64 r1106)]]) 1 0 (by kernel_rfl) ty59 (by kernel_rfl) (by kernel_rfl) (by kernel_rfl))) (by kernel_rfl) ?_
        refine aDone (by kernel_rfl) ?_
        refine oBlk ?_
        refine oAgain ?_
        refine oHead [2, 3, 4] [0, 1, 2] (T' := [(2, .ptr 0 0), (3, .ptr 1 0), (4, .ptr 2 0)]) (H' := [.box [.d (.int .u64 x22), .d (.int .u64 x23)], .box [.d (.int .u64 r196), .d (.int .u64 r1106)], .box [.d (.int .u64 0), .d (.int .u64 0)]]) (by kernel_rfl) (by kernel_rfl) (by kernel_rfl) (by kernel_rfl) (by decide) (by kernel_rfl) (by kernel_rfl) ?_
        exact hag1 (x22, x23, r196, r1106)
      · refine oCondF (by kernel_rfl) ?_
        refine oExit rfl ?_
        refine oHead [2, 4] [0, 2] (T' := [(2, .ptr 0 0), (4, .ptr 1 0)]) (H' := [.box [.d (.int .u64 x20), .d (.int .u64 x21)], .box [.d (.int .u64 0), .d (.int .u64 0)]]) (by kernel_rfl) (by kernel_rfl) (by kernel_rfl) (by kernel_rfl) (by decide) (by kernel_rfl) (by kernel_rfl) ?_
        exact hj2 (x20, x21)

/-- awardingbody/awardingbodyref01.Reduce -/
def ref01_Reduce (k : Nat) (negative : Bool) (num0 : Int) (num1 : Int) (den0 : Int) (den1 : Int) : Option (Int × Int × Int) := Option.bind (ref01_Divisor k num0 num1 den0 den1) (uc fun r15 => fun r111 => Option.bind (ref01_Divide k num0 num1 r15 r111) (uc fun r172 => uc fun r182 => uc fun r192 => fun r1102 => Option.bind (ref01_Divide k den0 den1 r15 r111) (uc fun r173 => uc fun r183 => uc fun r193 => fun r1103 => blet ((decide (r172 > 0)) || (decide (r173 > 0))) fun x5 => blet (x5 || (decide (r182 > 1152921504606846976))) fun x6 => blet (x6 || (decide (r183 > 1152921504606846976))) fun x7 => bif x7 then some (0, 0, 6) else Option.bind (bif negative then some ((IntKind.wrap .i64 (0 - (IntKind.wrap .i64 r182))), (IntKind.wrap .i64 r183)) else some ((IntKind.wrap .i64 r182), (IntKind.wrap .i64 r183)) : Option (Int × Int)) (uc fun x8 => fun x9 => some (x8, x9, 0)))))
def ref01_Reduce_E (negative : Bool) (num0 : Int) (num1 : Int) (den0 : Int) (den1 : Int) : Int × Int × Int → V × List Blk := uc fun r12 => uc fun r13 => fun r14 => (.tuple [.agg [.d (.int .i64 r12), .d (.int .i64 r13)], .d (.int .i64 r14)], [])
theorem ref01_Reduce_goes (k : Nat) (negative : Bool) (num0 : Int) (num1 : Int) (den0 : Int) (den1 : Int) : RunsO Try.prog 29 [.d (.bool negative), .agg [.d (.int .u64 num0), .d (.int .u64 num1)], .agg [.d (.int .u64 den0), .d (.int .u64 den1)]] [] (ref01_Reduce_E negative num0 num1 den0 den1) (ref01_Reduce k negative num0 num1 den0 den1) := by
  refine RunsO.of_goes (N := 61) (m := 0) (T := [(0, .d (.bool negative)), (1, .agg [.d (.int .u64 num0), .d (.int .u64 num1)]), (2, .agg [.d (.int .u64 den0), .d (.int .u64 den1)])]) Try.func29 rfl rfl (by kernel_rfl) (by kernel_rfl) (by kernel_rfl) ?_
  unfold ref01_Reduce
  refine bStart ?_
  refine oSeq ?_
  refine oRegion rfl ?_
  refine oOp (.ptr 0 0) (by kernel_rfl) (by kernel_rfl) (k_box (H' := [.box [.d (.int .u64 num0), .d (.int .u64 num1)]]) (cells := [.d (.int .u64 num0), .d (.int .u64 num1)]) (by kernel_rfl) (by kernel_rfl) (by kernel_rfl)) ?_
  refine oOp (.ptr 1 0) (by kernel_rfl) (by kernel_rfl) (k_box (H' := [.box [.d (.int .u64 num0), .d (.int .u64 num1)], .box [.d (.int .u64 den0), .d (.int .u64 den1)]]) (cells := [.d (.int .u64 den0), .d (.int .u64 den1)]) (by kernel_rfl) (by kernel_rfl) (by kernel_rfl)) ?_
  refine oOp (.ptr 2 0) (by kernel_rfl) (by kernel_rfl) (k_alloc (H' := [.box [.d (.int .u64 num0), .d (.int .u64 num1)], .box [.d (.int .u64 den0), .d (.int .u64 den1)], .box [.d (.int .i64 0), .d (.int .i64 0)]]) ty40 (by kernel_rfl) (by kernel_rfl)) ?_
  refine oOp (.d (.int .i64 0)) (by kernel_rfl) (by kernel_rfl) (PureV.does (p_assign (by kernel_rfl))) ?_
  refine oEnd ?_
  refine oSeq ?_
  refine oRegion rfl ?_
  refine oOp (.agg [.d (.int .u64 num0), .d (.int .u64 num1)]) (by kernel_rfl) (by kernel_rfl) (Quiet.does (k_loadAgg 0 0 (by kernel_rfl) Try.underlying59 (by kernel_rfl) ty59 (by kernel_rfl))) ?_
  refine oOp (.agg [.d (.int .u64 den0), .d (.int .u64 den1)]) (by kernel_rfl) (by kernel_rfl) (Quiet.does (k_loadAgg 1 0 (by kernel_rfl) Try.underlying59 (by kernel_rfl) ty59 (by kernel_rfl))) ?_
  refine bCall (caps := []) (v := (uc fun (r15 : Int) => (fun (r111 : Int) => (.agg [.d (.int .u64 r15), .d (.int .u64 r111)] : V)))) (H' := (uc fun (r15 : Int) => (fun (r111 : Int) => ([.box [.d (.int .u64 num0), .d (.int .u64 num1)], .box [.d (.int .u64 den0), .d (.int .u64 den1)], .box [.d (.int .i64 0), .d (.int .i64 0)]] : List Blk)))) [] _ (ref01_Divisor_goes k num0 num1 den0 den1) (by kernel_rfl) (by kernel_rfl) rfl (by kernel_rfl) Try.func41 rfl (by kernel_rfl) (ConvRs.refl _ _) (by kernel_rfl) (by kernel_rfl) (by kernel_rfl) (by decide) (by kernel_rfl) (by kernel_rfl) (fun _ => (by kernel_rfl)) (fun _ => (by kernel_rfl)) (fun _ => (by kernel_rfl)) (fun r => ?_)
  obtain ⟨r15, r111⟩ := r
  refine bUc ?_
  refine oOp (.ptr 3 0) (by kernel_rfl) (by kernel_rfl) (k_alloc (H' := [.box [.d (.int .u64 num0), .d (.int .u64 num1)], .box [.d (.int .u64 den0), .d (.int .u64 den1)], .box [.d (.int .i64 0), .d (.int .i64 0)], .box [.d (.int .u64 0), .d (.int .u64 0)]]) ty59 (by kernel_rfl) (by kernel_rfl)) ?_
  refine oOp (.undef) (by kernel_rfl) (by kernel_rfl) (k_store (vs := [.d (.int .u64 r15), .d (.int .u64 r111)]) (H' := [.box [.d (.int .u64 num0), .d (.int .u64 num1)], .box [.d (.int .u64 den0), .d (.int .u64 den1)], .box [.d (.int .i64 0), .d (.int .i64 0)], .box [.d (.int .u64 r15), .d (.int .u64 r111)]]) 3 0 (by kernel_rfl) ty59 (by kernel_rfl) (by kernel_rfl) (by kernel_rfl)) ?_
  refine oEnd ?_
  refine oSeq ?_
  refine oRegion rfl ?_
  refine oOp (.agg [.d (.int .u64 num0), .d (.int .u64 num1)]) (by kernel_rfl) (by kernel_rfl) (Quiet.does (k_loadAgg 0 0 (by kernel_rfl) Try.underlying59 (by kernel_rfl) ty59 (by kernel_rfl))) ?_
  refine oOp (.agg [.d (.int .u64 r15), .d (.int .u64 r111)]) (by kernel_rfl) (by kernel_rfl) (Quiet.does (k_loadAgg 3 0 (by kernel_rfl) Try.underlying59 (by kernel_rfl) ty59 (by kernel_rfl))) ?_
  refine bCall (caps := []) (v := (uc fun (r172 : Int) => (uc fun (r182 : Int) => (uc fun (r192 : Int) => (fun (r1102 : Int) => (.tuple [.agg [.d (.int .u64 r172), .d (.int .u64 r182)], .agg [.d (.int .u64 r192), .d (.int .u64 r1102)]] : V)))))) (H' := (uc fun (r172 : Int) => (uc fun (r182 : Int) => (uc fun (r192 : Int) => (fun (r1102 : Int) => ([.box [.d (.int .u64 num0), .d (.int .u64 num1)], .box [.d (.int .u64 den0), .d (.int .u64 den1)], .box [.d (.int .i64 0), .d (.int .i64 0)], .box [.d (.int .u64 r15), .d (.int .u64 r111)]] : List Blk)))))) [] _ (ref01_Divide_goes k num0 num1 r15 r111) (by kernel_rfl) (by kernel_rfl) rfl (by kernel_rfl) Try.func42 rfl (by kernel_rfl) (ConvRs.refl _ _) (by kernel_rfl) (by kernel_rfl) (by kernel_rfl) (by decide) (by kernel_rfl) (by kernel_rfl) (fun _ => (by kernel_rfl)) (fun _ => (by kernel_rfl)) (fun _ => (by kernel_rfl)) (fun r => ?_)
  obtain ⟨r172, r182, r192, r1102⟩ := r
  refine bUc ?_
  refine bUc ?_
  refine bUc ?_
  refine oOp (.tuple [.agg [.d (.int .u64 r172), .d (.int .u64 r182)], .agg [.d (.int .u64 r192), .d (.int .u64 r1102)]]) (by kernel_rfl) (by kernel_rfl) (PureV.does (p_move (by kernel_rfl))) ?_
  refine oOp (.agg [.d (.int .u64 r172), .d (.int .u64 r182)]) (by kernel_rfl) (by kernel_rfl) (PureV.does (k_extract (by kernel_rfl))) ?_
  refine oOp (.agg [.d (.int .u64 r192), .d (.int .u64 r1102)]) (by kernel_rfl) (by kernel_rfl) (PureV.does (k_extract (by kernel_rfl))) ?_
  refine oOp (.ptr 4 0) (by kernel_rfl) (by kernel_rfl) (k_alloc (H' := [.box [.d (.int .u64 num0), .d (.int .u64 num1)], .box [.d (.int .u64 den0), .d (.int .u64 den1)], .box [.d (.int .i64 0), .d (.int .i64 0)], .box [.d (.int .u64 r15), .d (.int .u64 r111)], .box [.d (.int .u64 0), .d (.int .u64 0)]]) ty59 (by kernel_rfl) (by kernel_rfl)) ?_
  refine oOp (.ptr 5 0) (by kernel_rfl) (by kernel_rfl) (k_alloc (H' := [.box [.d (.int .u64 num0), .d (.int .u64 num1)], .box [.d (.int .u64 den0), .d (.int .u64 den1)], .box [.d (.int .i64 0), .d (.int .i64 0)], .box [.d (.int .u64 r15), .d (.int .u64 r111)], .box [.d (.int .u64 0), .d (.int .u64 0)], .box [.d (.int .u64 0), .d (.int .u64 0)]]) ty59 (by kernel_rfl) (by kernel_rfl)) ?_
  refine oOp (.undef) (by kernel_rfl) (by kernel_rfl) (k_store (vs := [.d (.int .u64 r172), .d (.int .u64 r182)]) (H' := [.box [.d (.int .u64 num0), .d (.int .u64 num1)], .box [.d (.int .u64 den0), .d (.int .u64 den1)], .box [.d (.int .i64 0), .d (.int .i64 0)], .box [.d (.int .u64 r15), .d (.int .u64 r111)], .box [.d (.int .u64 r172), .d (.int .u64 r182)], .box [.d (.int .u64 0), .d (.int .u64 0)]]) 4 0 (by kernel_rfl) ty59 (by kernel_rfl) (by kernel_rfl) (by kernel_rfl)) ?_
  refine oOp (.undef) (by kernel_rfl) (by kernel_rfl) (k_store (vs := [.d (.int .u64 r192), .d (.int .u64 r1102)]) (H' := [.box [.d (.int .u64 num0), .d (.int .u64 num1)], .box [.d (.int .u64 den0), .d (.int .u64 den1)], .box [.d (.int .i64 0), .d (.int .i64 0)], .box [.d (.int .u64 r15), .d (.int .u64 r111)], .box [.d (.int .u64 r172), .d (.int .u64 r182)], .box [.d (.int .u64 r192), .d (.int .u64 r1102)]]) 5 0 (by kernel_rfl) ty59 (by kernel_rfl) (by kernel_rfl) (by kernel_rfl)) ?_
  refine oEnd ?_
  refine oSeq ?_
  refine oRegion rfl ?_
  refine oOp (.agg [.d (.int .u64 den0), .d (.int .u64 den1)]) (by kernel_rfl) (by kernel_rfl) (Quiet.does (k_loadAgg 1 0 (by kernel_rfl) Try.underlying59 (by kernel_rfl) ty59 (by kernel_rfl))) ?_
  refine oOp (.agg [.d (.int .u64 r15), .d (.int .u64 r111)]) (by kernel_rfl) (by kernel_rfl) (Quiet.does (k_loadAgg 3 0 (by kernel_rfl) Try.underlying59 (by kernel_rfl) ty59 (by kernel_rfl))) ?_
  refine bCall (caps := []) (v := (uc fun (r173 : Int) => (uc fun (r183 : Int) => (uc fun (r193 : Int) => (fun (r1103 : Int) => (.tuple [.agg [.d (.int .u64 r173), .d (.int .u64 r183)], .agg [.d (.int .u64 r193), .d (.int .u64 r1103)]] : V)))))) (H' := (uc fun (r173 : Int) => (uc fun (r183 : Int) => (uc fun (r193 : Int) => (fun (r1103 : Int) => ([.box [.d (.int .u64 num0), .d (.int .u64 num1)], .box [.d (.int .u64 den0), .d (.int .u64 den1)], .box [.d (.int .i64 0), .d (.int .i64 0)], .box [.d (.int .u64 r15), .d (.int .u64 r111)], .box [.d (.int .u64 r172), .d (.int .u64 r182)], .box [.d (.int .u64 r192), .d (.int .u64 r1102)]] : List Blk)))))) [] _ (ref01_Divide_goes k den0 den1 r15 r111) (by kernel_rfl) (by kernel_rfl) rfl (by kernel_rfl) Try.func42 rfl (by kernel_rfl) (ConvRs.refl _ _) (by kernel_rfl) (by kernel_rfl) (by kernel_rfl) (by decide) (by kernel_rfl) (by kernel_rfl) (fun _ => (by kernel_rfl)) (fun _ => (by kernel_rfl)) (fun _ => (by kernel_rfl)) (fun r => ?_)
  obtain ⟨r173, r183, r193, r1103⟩ := r
  refine bUc ?_
  refine bUc ?_
  refine bUc ?_
  refine oOp (.tuple [.agg [.d (.int .u64 r173), .d (.int .u64 r183)], .agg [.d (.int .u64 r193), .d (.int .u64 r1103)]]) (by kernel_rfl) (by kernel_rfl) (PureV.does (p_move (by kernel_rfl))) ?_
  refine oOp (.agg [.d (.int .u64 r173), .d (.int .u64 r183)]) (by kernel_rfl) (by kernel_rfl) (PureV.does (k_extract (by kernel_rfl))) ?_
  refine oOp (.agg [.d (.int .u64 r193), .d (.int .u64 r1103)]) (by kernel_rfl) (by kernel_rfl) (PureV.does (k_extract (by kernel_rfl))) ?_
  refine oOp (.ptr 6 0) (by kernel_rfl) (by kernel_rfl) (k_alloc (H' := [.box [.d (.int .u64 num0), .d (.int .u64 num1)], .box [.d (.int .u64 den0), .d (.int .u64 den1)], .box [.d (.int .i64 0), .d (.int .i64 0)], .box [.d (.int .u64 r15), .d (.int .u64 r111)], .box [.d (.int .u64 r172), .d (.int .u64 r182)], .box [.d (.int .u64 r192), .d (.int .u64 r1102)], .box [.d (.int .u64 0), .d (.int .u64 0)]]) ty59 (by kernel_rfl) (by kernel_rfl)) ?_
  refine oOp (.ptr 7 0) (by kernel_rfl) (by kernel_rfl) (k_alloc (H' := [.box [.d (.int .u64 num0), .d (.int .u64 num1)], .box [.d (.int .u64 den0), .d (.int .u64 den1)], .box [.d (.int .i64 0), .d (.int .i64 0)], .box [.d (.int .u64 r15), .d (.int .u64 r111)], .box [.d (.int .u64 r172), .d (.int .u64 r182)], .box [.d (.int .u64 r192), .d (.int .u64 r1102)], .box [.d (.int .u64 0), .d (.int .u64 0)], .box [.d (.int .u64 0), .d (.int .u64 0)]]) ty59 (by kernel_rfl) (by kernel_rfl)) ?_
  refine oOp (.undef) (by kernel_rfl) (by kernel_rfl) (k_store (vs := [.d (.int .u64 r173), .d (.int .u64 r183)]) (H' := [.box [.d (.int .u64 num0), .d (.int .u64 num1)], .box [.d (.int .u64 den0), .d (.int .u64 den1)], .box [.d (.int .i64 0), .d (.int .i64 0)], .box [.d (.int .u64 r15), .d (.int .u64 r111)], .box [.d (.int .u64 r172), .d (.int .u64 r182)], .box [.d (.int .u64 r192), .d (.int .u64 r1102)], .box [.d (.int .u64 r173), .d (.int .u64 r183)], .box [.d (.int .u64 0), .d (.int .u64 0)]]) 6 0 (by kernel_rfl) ty59 (by kernel_rfl) (by kernel_rfl) (by kernel_rfl)) ?_
  refine oOp (.undef) (by kernel_rfl) (by kernel_rfl) (k_store (vs := [.d (.int .u64 r193), .d (.int .u64 r1103)]) (H' := [.box [.d (.int .u64 num0), .d (.int .u64 num1)], .box [.d (.int .u64 den0), .d (.int .u64 den1)], .box [.d (.int .i64 0), .d (.int .i64 0)], .box [.d (.int .u64 r15), .d (.int .u64 r111)], .box [.d (.int .u64 r172), .d (.int .u64 r182)], .box [.d (.int .u64 r192), .d (.int .u64 r1102)], .box [.d (.int .u64 r173), .d (.int .u64 r183)], .box [.d (.int .u64 r193), .d (.int .u64 r1103)]]) 7 0 (by kernel_rfl) ty59 (by kernel_rfl) (by kernel_rfl) (by kernel_rfl)) ?_
  refine oEnd ?_
  refine oSeq ?_
  refine oSeq ?_
  refine oRegion rfl ?_
  refine oOp (.ptr 4 0) (by kernel_rfl) (by kernel_rfl) (PureV.does (k_fieldAddr 4 0 (by kernel_rfl) Try.underlying59 rfl ty56 (by kernel_rfl))) ?_
  refine oOp (.d (.int .u64 r172)) (by kernel_rfl) (by kernel_rfl) (Quiet.does (k_load 4 0 (by kernel_rfl) Try.underlying56 (by kernel_rfl) (by kernel_rfl))) ?_
  refine oOp (.d (.bool (decide (r172 > 0)))) (by kernel_rfl) (by kernel_rfl) (PureV.does (p_int (k := .u64) (p := r172) (q := 0) (by kernel_rfl) (by kernel_rfl) (by kernel_rfl))) ?_
  refine oOp (.d (.bool (decide (r172 > 0)))) (by kernel_rfl) (by kernel_rfl) (PureV.does (p_move (by kernel_rfl))) ?_
  refine bMeetF (H' := [.box [.d (.int .i64 0), .d (.int .i64 0)], .box [.d (.int .u64 r172), .d (.int .u64 r182)], .box [.d (.int .u64 r173), .d (.int .u64 r183)]]) 4 rfl ((fun (x5 : Bool) => [(0, .d (.bool negative)), (6, .ptr 0 0), (9, .ptr 1 0), (11, .ptr 2 0), (36, .d (.bool x5))])) (fun x5 => ?_) (fun F hj2 => ?_)
  · refine oView (T' := [(0, .d (.bool negative)), (6, .ptr 0 0), (9, .ptr 1 0), (11, .ptr 2 0), (36, .d (.bool x5))]) (H' := [.box [.d (.int .i64 0), .d (.int .i64 0)], .box [.d (.int .u64 r172), .d (.int .u64 r182)], .box [.d (.int .u64 r173), .d (.int .u64 r183)]]) (by kernel_rfl) (by kernel_rfl) ?_
    refine oOp (.d (.bool x5)) (by kernel_rfl) (by kernel_rfl) (PureV.does (p_move (by kernel_rfl))) ?_
    refine bMeetF (H' := [.box [.d (.int .i64 0), .d (.int .i64 0)], .box [.d (.int .u64 r172), .d (.int .u64 r182)], .box [.d (.int .u64 r173), .d (.int .u64 r183)]]) 4 rfl ((fun (x6 : Bool) => [(0, .d (.bool negative)), (6, .ptr 0 0), (9, .ptr 1 0), (11, .ptr 2 0), (41, .d (.bool x6))])) (fun x6 => ?_) (fun F hj3 => ?_)
    · refine oView (T' := [(0, .d (.bool negative)), (6, .ptr 0 0), (9, .ptr 1 0), (11, .ptr 2 0), (41, .d (.bool x6))]) (H' := [.box [.d (.int .i64 0), .d (.int .i64 0)], .box [.d (.int .u64 r172), .d (.int .u64 r182)], .box [.d (.int .u64 r173), .d (.int .u64 r183)]]) (by kernel_rfl) (by kernel_rfl) ?_
      refine oOp (.d (.bool x6)) (by kernel_rfl) (by kernel_rfl) (PureV.does (p_move (by kernel_rfl))) ?_
      refine bMeetF (H' := [.box [.d (.int .i64 0), .d (.int .i64 0)], .box [.d (.int .u64 r172), .d (.int .u64 r182)], .box [.d (.int .u64 r173), .d (.int .u64 r183)]]) 4 rfl ((fun (x7 : Bool) => [(0, .d (.bool negative)), (6, .ptr 0 0), (9, .ptr 1 0), (11, .ptr 2 0), (46, .d (.bool x7))])) (fun x7 => ?_) (fun F hj4 => ?_)
      · refine oView (T' := [(0, .d (.bool negative)), (6, .ptr 0 0), (9, .ptr 1 0), (11, .ptr 2 0), (46, .d (.bool x7))]) (H' := [.box [.d (.int .i64 0), .d (.int .i64 0)], .box [.d (.int .u64 r172), .d (.int .u64 r182)], .box [.d (.int .u64 r173), .d (.int .u64 r183)]]) (by kernel_rfl) (by kernel_rfl) ?_
        refine oEnd ?_
        refine bSplit 46 (by kernel_rfl) (fun hc => ?_) (fun hc => ?_)
        · refine oCondT (by kernel_rfl) ?_
          refine oSeq ?_
          refine oRegion rfl ?_
          refine oOp (.agg [.d (.int .i64 0), .d (.int .i64 0)]) (by kernel_rfl) (by kernel_rfl) (PureV.does (p_build bld40 (by kernel_rfl))) ?_
          refine oOp (.undef) (by kernel_rfl) (by kernel_rfl) (k_store (vs := [.d (.int .i64 0), .d (.int .i64 0)]) (H' := [.box [.d (.int .i64 0), .d (.int .i64 0)], .box [.d (.int .u64 r172), .d (.int .u64 r182)], .box [.d (.int .u64 r173), .d (.int .u64 r183)]]) 0 0 (by kernel_rfl) ty40 (by kernel_rfl) (by kernel_rfl) (by kernel_rfl)) ?_
          refine oOp (.d (.int .i64 6)) (by kernel_rfl) (by kernel_rfl) (PureV.does (p_assign (by kernel_rfl))) ?_
          refine oEnd ?_
          exact oRet (r0 := (0, 0, 6)) (rv := .tuple [.agg [.d (.int .i64 0), .d (.int .i64 0)], .d (.int .i64 6)]) (B := []) (vs := [.agg [.d (.int .i64 0), .d (.int .i64 0)], .d (.int .i64 6)]) (σ := []) (by kernel_rfl) Try.func29 rfl (.cons _ _ _ _ (.agg 6 40 0 0 [.d (.int .i64 0), .d (.int .i64 0)] [.d (.int .i64 0), .d (.int .i64 0)] _ _ _ _ (by kernel_rfl) (by kernel_rfl) Try.underlying40 (by kernel_rfl) ty40 (by kernel_rfl) (by kernel_rfl)) (.cons _ _ _ _ (.tmp 7 _ (by kernel_rfl)) .nil)) (by kernel_rfl) (by kernel_rfl) (by kernel_rfl) (by kernel_rfl) (by decide) (by kernel_rfl) (by kernel_rfl)
        · refine oCondF (by kernel_rfl) ?_
          refine oSkip ?_
          refine oSeq ?_
          refine oRegion rfl ?_
          refine oOp (.ptr 1 1) (by kernel_rfl) (by kernel_rfl) (PureV.does (k_fieldAddr 1 0 (by kernel_rfl) Try.underlying59 rfl ty56 (by kernel_rfl))) ?_
          refine oOp (.d (.int .u64 r182)) (by kernel_rfl) (by kernel_rfl) (Quiet.does (k_load 1 1 (by kernel_rfl) Try.underlying56 (by kernel_rfl) (by kernel_rfl))) ?_
          refine oOp (.d (.int .i64 (IntKind.wrap .i64 r182))) (by kernel_rfl) (by kernel_rfl) (PureV.does (p_conv (k := .u64) (p := r182) (by kernel_rfl) Try.underlying56 Try.underlying3 (by kernel_rfl))) ?_
          refine oOp (.ptr 2 1) (by kernel_rfl) (by kernel_rfl) (PureV.does (k_fieldAddr 2 0 (by kernel_rfl) Try.underlying59 rfl ty56 (by kernel_rfl))) ?_
          refine oOp (.d (.int .u64 r183)) (by kernel_rfl) (by kernel_rfl) (Quiet.does (k_load 2 1 (by kernel_rfl) Try.underlying56 (by kernel_rfl) (by kernel_rfl))) ?_
          refine oOp (.d (.int .i64 (IntKind.wrap .i64 r183))) (by kernel_rfl) (by kernel_rfl) (PureV.does (p_conv (k := .u64) (p := r183) (by kernel_rfl) Try.underlying56 Try.underlying3 (by kernel_rfl))) ?_
          refine oOp (.agg [.d (.int .i64 (IntKind.wrap .i64 r182)), .d (.int .i64 (IntKind.wrap .i64 r183))]) (by kernel_rfl) (by kernel_rfl) (PureV.does (p_build bld40 (by kernel_rfl))) ?_
          refine oOp (.ptr 3 0) (by kernel_rfl) (by kernel_rfl) (k_alloc (H' := [.box [.d (.int .i64 0), .d (.int .i64 0)], .box [.d (.int .u64 r172), .d (.int .u64 r182)], .box [.d (.int .u64 r173), .d (.int .u64 r183)], .box [.d (.int .i64 0), .d (.int .i64 0)]]) ty40 (by kernel_rfl) (by kernel_rfl)) ?_
          refine oOp (.undef) (by kernel_rfl) (by kernel_rfl) (k_store (vs := [.d (.int .i64 (IntKind.wrap .i64 r182)), .d (.int .i64 (IntKind.wrap .i64 r183))]) (H' := [.box [.d (.int .i64 0), .d (.int .i64 0)], .box [.d (.int .u64 r172), .d (.int .u64 r182)], .box [.d (.int .u64 r173), .d (.int .u64 r183)], .box [.d (.int .i64 (IntKind.wrap .i64 r182)), .d (.int .i64 (IntKind.wrap .i64 r183))]]) 3 0 (by kernel_rfl) ty40 (by kernel_rfl) (by kernel_rfl) (by kernel_rfl)) ?_
          refine oEnd ?_
          refine oSeq ?_
          refine oSeq ?_
          refine oRegion rfl ?_
          refine oOp (.d (.bool negative)) (by kernel_rfl) (by kernel_rfl) (PureV.does (p_move (by kernel_rfl))) ?_
          refine oEnd ?_
          refine bJoin ((uc fun (x8 : Int) => (fun (x9 : Int) => [(6, .ptr 0 0), (13, .ptr 1 0)]))) ((uc fun (x8 : Int) => (fun (x9 : Int) => [.box [.d (.int .i64 0), .d (.int .i64 0)], .box [.d (.int .i64 x8), .d (.int .i64 x9)]]))) (fun s => s) (fun s => ?_) (fun hj5 => ?_)
          · obtain ⟨x8, x9⟩ := s
            refine bUc ?_
            refine oView (T' := [(6, .ptr 0 0), (13, .ptr 1 0)]) (H' := [.box [.d (.int .i64 0), .d (.int .i64 0)], .box [.d (.int .i64 x8), .d (.int .i64 x9)]]) (by kernel_rfl) (by kernel_rfl) ?_
            refine oSeq ?_
            refine oRegion rfl ?_
            refine oOp (.agg [.d (.int .i64 x8), .d (.int .i64 x9)]) (by kernel_rfl) (by kernel_rfl) (Quiet.does (k_loadAgg 1 0 (by kernel_rfl) Try.underlying40 (by kernel_rfl) ty40 (by kernel_rfl))) ?_
            refine oOp (.undef) (by kernel_rfl) (by kernel_rfl) (k_store (vs := [.d (.int .i64 x8), .d (.int .i64 x9)]) (H' := [.box [.d (.int .i64 x8), .d (.int .i64 x9)], .box [.d (.int .i64 x8), .d (.int .i64 x9)]]) 0 0 (by kernel_rfl) ty40 (by kernel_rfl) (by kernel_rfl) (by kernel_rfl)) ?_
            refine oOp (.d (.int .i64 0)) (by kernel_rfl) (by kernel_rfl) (PureV.does (p_assign (by kernel_rfl))) ?_
            refine oEnd ?_
            exact oRet (r0 := (x8, x9, 0)) (rv := .tuple [.agg [.d (.int .i64 x8), .d (.int .i64 x9)], .d (.int .i64 0)]) (B := []) (vs := [.agg [.d (.int .i64 x8), .d (.int .i64 x9)], .d (.int .i64 0)]) (σ := []) (by kernel_rfl) Try.func29 rfl (.cons _ _ _ _ (.agg 6 40 0 0 [.d (.int .i64 x8), .d (.int .i64 x9)] [.d (.int .i64 x8), .d (.int .i64 x9)] _ _ _ _ (by kernel_rfl) (by kernel_rfl) Try.underlying40 (by kernel_rfl) ty40 (by kernel_rfl) (by kernel_rfl)) (.cons _ _ _ _ (.tmp 7 _ (by kernel_rfl)) .nil)) (by kernel_rfl) (by kernel_rfl) (by kernel_rfl) (by kernel_rfl) (by decide) (by kernel_rfl) (by kernel_rfl)
          · refine bSplit 55 (by kernel_rfl) (fun hc => ?_) (fun hc => ?_)
            · refine oCondT (by kernel_rfl) ?_
              refine oRegion rfl ?_
              refine oOp (.ptr 3 0) (by kernel_rfl) (by kernel_rfl) (PureV.does (k_fieldAddr 3 0 (by kernel_rfl) Try.underlying40 rfl ty3 (by kernel_rfl))) ?_
              refine oOp (.d (.int .i64 (IntKind.wrap .i64 r182))) (by kernel_rfl) (by kernel_rfl) (Quiet.does (k_load 3 0 (by kernel_rfl) Try.underlying3 (by kernel_rfl) (by kernel_rfl))) ?_
              refine oOp (.d (.int .i64 (IntKind.wrap .i64 (0 - (IntKind.wrap .i64 r182))))) (by kernel_rfl) (by kernel_rfl) (PureV.does (p_neg (k := .i64) (p := (IntKind.wrap .i64 r182)) (by kernel_rfl) (by kernel_rfl))) ?_
              refine oOp (.ptr 3 0) (by kernel_rfl) (by kernel_rfl) (PureV.does (k_fieldAddr 3 0 (by kernel_rfl) Try.underlying40 rfl ty3 (by kernel_rfl))) ?_
              refine oOp (.undef) (by kernel_rfl) (by kernel_rfl) (k_store (vs := [.d (.int .i64 (IntKind.wrap .i64 (0 - (IntKind.wrap .i64 r182))))]) (H' := [.box [.d (.int .i64 0), .d (.int .i64 0)], .box [.d (.int .u64 r172), .d (.int .u64 r182)], .box [.d (.int .u64 r173), .d (.int .u64 r183)], .box [.d (.int .i64 (IntKind.wrap .i64 (0 - (IntKind.wrap .i64 r182)))), .d (.int .i64 (IntKind.wrap .i64 r183))]]) 3 0 (by kernel_rfl) ty3 (by kernel_rfl) (by kernel_rfl) (by kernel_rfl)) ?_
              refine oEnd ?_
              refine oHead [6, 13] [0, 3] (T' := [(6, .ptr 0 0), (13, .ptr 1 0)]) (H' := [.box [.d (.int .i64 0), .d (.int .i64 0)], .box [.d (.int .i64 (IntKind.wrap .i64 (0 - (IntKind.wrap .i64 r182)))), .d (.int .i64 (IntKind.wrap .i64 r183))]]) (by kernel_rfl) (by kernel_rfl) (by kernel_rfl) (by kernel_rfl) (by decide) (by kernel_rfl) (by kernel_rfl) ?_
              exact hj5 ((IntKind.wrap .i64 (0 - (IntKind.wrap .i64 r182))), (IntKind.wrap .i64 r183))
            · refine oCondF (by kernel_rfl) ?_
              refine oSkip ?_
              refine oHead [6, 13] [0, 3] (T' := [(6, .ptr 0 0), (13, .ptr 1 0)]) (H' := [.box [.d (.int .i64 0), .d (.int .i64 0)], .box [.d (.int .i64 (IntKind.wrap .i64 r182)), .d (.int .i64 (IntKind.wrap .i64 r183))]]) (by kernel_rfl) (by kernel_rfl) (by kernel_rfl) (by kernel_rfl) (by decide) (by kernel_rfl) (by kernel_rfl) ?_
              exact hj5 ((IntKind.wrap .i64 r182), (IntKind.wrap .i64 r183))
      · refine bPickF 42 (fun c => F (c || (decide (r183 > 1152921504606846976)))) (by kernel_rfl) (fun hc => ?_) (fun hc => ?_)
        · refine oNot (by kernel_rfl) (by kernel_rfl) ?_
          refine oNot (by kernel_rfl) (by kernel_rfl) ?_
          refine oNot (by kernel_rfl) (by kernel_rfl) ?_
          refine oOp (.d (.bool true)) (by kernel_rfl) (by kernel_rfl) (PureV.does (p_pick (b := true) (by kernel_rfl) (by kernel_rfl))) ?_
          refine oHead [0, 6, 9, 11, 46] [0, 1, 2] (T' := [(0, .d (.bool negative)), (6, .ptr 0 0), (9, .ptr 1 0), (11, .ptr 2 0), (46, .d (.bool true))]) (H' := [.box [.d (.int .i64 0), .d (.int .i64 0)], .box [.d (.int .u64 r172), .d (.int .u64 r182)], .box [.d (.int .u64 r173), .d (.int .u64 r183)]]) (by kernel_rfl) (by kernel_rfl) (by kernel_rfl) (by kernel_rfl) (by decide) (by kernel_rfl) (by kernel_rfl) ?_
          exact hj4 true
        · refine oOp (.ptr 2 1) (by kernel_rfl) (by kernel_rfl) (PureV.does (k_fieldAddr 2 0 (by kernel_rfl) Try.underlying59 rfl ty56 (by kernel_rfl))) ?_
          refine oOp (.d (.int .u64 r183)) (by kernel_rfl) (by kernel_rfl) (Quiet.does (k_load 2 1 (by kernel_rfl) Try.underlying56 (by kernel_rfl) (by kernel_rfl))) ?_
          refine oOp (.d (.bool (decide (r183 > 1152921504606846976)))) (by kernel_rfl) (by kernel_rfl) (PureV.does (p_int (k := .u64) (p := r183) (q := 1152921504606846976) (by kernel_rfl) (by kernel_rfl) (by kernel_rfl))) ?_
          refine oOp (.d (.bool (decide (r183 > 1152921504606846976)))) (by kernel_rfl) (by kernel_rfl) (PureV.does (p_pick (b := false) (by kernel_rfl) (by kernel_rfl))) ?_
          refine oHead [0, 6, 9, 11, 46] [0, 1, 2] (T' := [(0, .d (.bool negative)), (6, .ptr 0 0), (9, .ptr 1 0), (11, .ptr 2 0), (46, .d (.bool (decide (r183 > 1152921504606846976))))]) (H' := [.box [.d (.int .i64 0), .d (.int .i64 0)], .box [.d (.int .u64 r172), .d (.int .u64 r182)], .box [.d (.int .u64 r173), .d (.int .u64 r183)]]) (by kernel_rfl) (by kernel_rfl) (by kernel_rfl) (by kernel_rfl) (by decide) (by kernel_rfl) (by kernel_rfl) ?_
          exact hj4 (decide (r183 > 1152921504606846976))
    · refine bPickF 37 (fun c => F (c || (decide (r182 > 1152921504606846976)))) (by kernel_rfl) (fun hc => ?_) (fun hc => ?_)
      · refine oNot (by kernel_rfl) (by kernel_rfl) ?_
        refine oNot (by kernel_rfl) (by kernel_rfl) ?_
        refine oNot (by kernel_rfl) (by kernel_rfl) ?_
        refine oOp (.d (.bool true)) (by kernel_rfl) (by kernel_rfl) (PureV.does (p_pick (b := true) (by kernel_rfl) (by kernel_rfl))) ?_
        refine oHead [0, 6, 9, 11, 41] [0, 1, 2] (T' := [(0, .d (.bool negative)), (6, .ptr 0 0), (9, .ptr 1 0), (11, .ptr 2 0), (41, .d (.bool true))]) (H' := [.box [.d (.int .i64 0), .d (.int .i64 0)], .box [.d (.int .u64 r172), .d (.int .u64 r182)], .box [.d (.int .u64 r173), .d (.int .u64 r183)]]) (by kernel_rfl) (by kernel_rfl) (by kernel_rfl) (by kernel_rfl) (by decide) (by kernel_rfl) (by kernel_rfl) ?_
        exact hj3 true
      · refine oOp (.ptr 1 1) (by kernel_rfl) (by kernel_rfl) (PureV.does (k_fieldAddr 1 0 (by kernel_rfl) Try.underlying59 rfl ty56 (by kernel_rfl))) ?_
        refine oOp (.d (.int .u64 r182)) (by kernel_rfl) (by kernel_rfl) (Quiet.does (k_load 1 1 (by kernel_rfl) Try.underlying56 (by kernel_rfl) (by kernel_rfl))) ?_
        refine oOp (.d (.bool (decide (r182 > 1152921504606846976)))) (by kernel_rfl) (by kernel_rfl) (PureV.does (p_int (k := .u64) (p := r182) (q := 1152921504606846976) (by kernel_rfl) (by kernel_rfl) (by kernel_rfl))) ?_
        refine oOp (.d (.bool (decide (r182 > 1152921504606846976)))) (by kernel_rfl) (by kernel_rfl) (PureV.does (p_pick (b := false) (by kernel_rfl) (by kernel_rfl))) ?_
        refine oHead [0, 6, 9, 11, 41] [0, 1, 2] (T' := [(0, .d (.bool negative)), (6, .ptr 0 0), (9, .ptr 1 0), (11, .ptr 2 0), (41, .d (.bool (decide (r182 > 1152921504606846976))))]) (H' := [.box [.d (.int .i64 0), .d (.int .i64 0)], .box [.d (.int .u64 r172), .d (.int .u64 r182)], .box [.d (.int .u64 r173), .d (.int .u64 r183)]]) (by kernel_rfl) (by kernel_rfl) (by kernel_rfl) (by kernel_rfl) (by decide) (by kernel_rfl) (by kernel_rfl) ?_
        exact hj3 (decide (r182 > 1152921504606846976))
  · refine bPickF 32 (fun c => F (c || (decide (r173 > 0)))) (by kernel_rfl) (fun hc => ?_) (fun hc => ?_)
    · refine oNot (by kernel_rfl) (by kernel_rfl) ?_
      refine oNot (by kernel_rfl) (by kernel_rfl) ?_
      refine oNot (by kernel_rfl) (by kernel_rfl) ?_
      refine oOp (.d (.bool true)) (by kernel_rfl) (by kernel_rfl) (PureV.does (p_pick (b := true) (by kernel_rfl) (by kernel_rfl))) ?_
      refine oHead [0, 6, 9, 11, 36] [2, 4, 6] (T' := [(0, .d (.bool negative)), (6, .ptr 0 0), (9, .ptr 1 0), (11, .ptr 2 0), (36, .d (.bool true))]) (H' := [.box [.d (.int .i64 0), .d (.int .i64 0)], .box [.d (.int .u64 r172), .d (.int .u64 r182)], .box [.d (.int .u64 r173), .d (.int .u64 r183)]]) (by kernel_rfl) (by kernel_rfl) (by kernel_rfl) (by kernel_rfl) (by decide) (by kernel_rfl) (by kernel_rfl) ?_
      exact hj2 true
    · refine oOp (.ptr 6 0) (by kernel_rfl) (by kernel_rfl) (PureV.does (k_fieldAddr 6 0 (by kernel_rfl) Try.underlying59 rfl ty56 (by kernel_rfl))) ?_
      refine oOp (.d (.int .u64 r173)) (by kernel_rfl) (by kernel_rfl) (Quiet.does (k_load 6 0 (by kernel_rfl) Try.underlying56 (by kernel_rfl) (by kernel_rfl))) ?_
      refine oOp (.d (.bool (decide (r173 > 0)))) (by kernel_rfl) (by kernel_rfl) (PureV.does (p_int (k := .u64) (p := r173) (q := 0) (by kernel_rfl) (by kernel_rfl) (by kernel_rfl))) ?_
      refine oOp (.d (.bool (decide (r173 > 0)))) (by kernel_rfl) (by kernel_rfl) (PureV.does (p_pick (b := false) (by kernel_rfl) (by kernel_rfl))) ?_
      refine oHead [0, 6, 9, 11, 36] [2, 4, 6] (T' := [(0, .d (.bool negative)), (6, .ptr 0 0), (9, .ptr 1 0), (11, .ptr 2 0), (36, .d (.bool (decide (r173 > 0))))]) (H' := [.box [.d (.int .i64 0), .d (.int .i64 0)], .box [.d (.int .u64 r172), .d (.int .u64 r182)], .box [.d (.int .u64 r173), .d (.int .u64 r183)]]) (by kernel_rfl) (by kernel_rfl) (by kernel_rfl) (by kernel_rfl) (by decide) (by kernel_rfl) (by kernel_rfl) ?_
      exact hj2 (decide (r173 > 0))

/-- awardingbody/awardingbodyref01.New -/
def ref01_New (k : Nat) (num : Int) (den : Int) : Option (Int × Int × Int) := bif (den == 0) then some (0, 0, 2) else Option.bind (ref01_Size k num) (fun r18 => Option.bind (ref01_Size k den) (fun r19 => Option.bind (ref01_Reduce k (!((decide (num < 0)) == (decide (den < 0)))) 0 r18 0 r19) (uc fun r121 => uc fun r131 => fun r141 => some (r121, r131, r141))))
def ref01_New_E (num : Int) (den : Int) : Int × Int × Int → V × List Blk := uc fun r15 => uc fun r16 => fun r17 => (.tuple [.agg [.d (.int .i64 r15), .d (.int .i64 r16)], .d (.int .i64 r17)], [])
theorem ref01_New_goes (k : Nat) (num : Int) (den : Int) : RunsO Try.prog 17 [.d (.int .i64 num), .d (.int .i64 den)] [] (ref01_New_E num den) (ref01_New k num den) := by
  refine RunsO.of_goes (N := 23) (m := 0) (T := [(0, .d (.int .i64 num)), (1, .d (.int .i64 den))]) Try.func17 rfl rfl (by kernel_rfl) (by kernel_rfl) (by kernel_rfl) ?_
  unfold ref01_New
  refine bStart ?_
  refine oSeq ?_
  refine oRegion rfl ?_
  refine oOp (.ptr 0 0) (by kernel_rfl) (by kernel_rfl) (k_alloc (H' := [.box [.d (.int .i64 0), .d (.int .i64 0)]]) ty40 (by kernel_rfl) (by kernel_rfl)) ?_
  refine oOp (.d (.int .i64 0)) (by kernel_rfl) (by kernel_rfl) (PureV.does (p_assign (by kernel_rfl))) ?_
  refine oEnd ?_
  refine oSeq ?_
  refine oSeq ?_
  refine oRegion rfl ?_
  refine oOp (.d (.int .i64 den)) (by kernel_rfl) (by kernel_rfl) (PureV.does (p_move (by kernel_rfl))) ?_
  refine oOp (.d (.bool (den == 0))) (by kernel_rfl) (by kernel_rfl) (PureV.does (p_int (k := .i64) (p := den) (q := 0) (by kernel_rfl) (by kernel_rfl) (by kernel_rfl))) ?_
  refine oEnd ?_
  refine bSplit 7 (by kernel_rfl) (fun hc => ?_) (fun hc => ?_)
  · refine oCondT (by kernel_rfl) ?_
    refine oSeq ?_
    refine oRegion rfl ?_
    refine oOp (.agg [.d (.int .i64 0), .d (.int .i64 0)]) (by kernel_rfl) (by kernel_rfl) (PureV.does (p_build bld40 (by kernel_rfl))) ?_
    refine oOp (.undef) (by kernel_rfl) (by kernel_rfl) (k_store (vs := [.d (.int .i64 0), .d (.int .i64 0)]) (H' := [.box [.d (.int .i64 0), .d (.int .i64 0)]]) 0 0 (by kernel_rfl) ty40 (by kernel_rfl) (by kernel_rfl) (by kernel_rfl)) ?_
    refine oOp (.d (.int .i64 2)) (by kernel_rfl) (by kernel_rfl) (PureV.does (p_assign (by kernel_rfl))) ?_
    refine oEnd ?_
    exact oRet (r0 := (0, 0, 2)) (rv := .tuple [.agg [.d (.int .i64 0), .d (.int .i64 0)], .d (.int .i64 2)]) (B := []) (vs := [.agg [.d (.int .i64 0), .d (.int .i64 0)], .d (.int .i64 2)]) (σ := []) (by kernel_rfl) Try.func17 rfl (.cons _ _ _ _ (.agg 4 40 0 0 [.d (.int .i64 0), .d (.int .i64 0)] [.d (.int .i64 0), .d (.int .i64 0)] _ _ _ _ (by kernel_rfl) (by kernel_rfl) Try.underlying40 (by kernel_rfl) ty40 (by kernel_rfl) (by kernel_rfl)) (.cons _ _ _ _ (.tmp 5 _ (by kernel_rfl)) .nil)) (by kernel_rfl) (by kernel_rfl) (by kernel_rfl) (by kernel_rfl) (by decide) (by kernel_rfl) (by kernel_rfl)
  · refine oCondF (by kernel_rfl) ?_
    refine oSkip ?_
    refine oSeq ?_
    refine oRegion rfl ?_
    refine oOp (.d (.int .i64 num)) (by kernel_rfl) (by kernel_rfl) (PureV.does (p_move (by kernel_rfl))) ?_
    refine oOp (.d (.bool (decide (num < 0)))) (by kernel_rfl) (by kernel_rfl) (PureV.does (p_int (k := .i64) (p := num) (q := 0) (by kernel_rfl) (by kernel_rfl) (by kernel_rfl))) ?_
    refine oOp (.d (.int .i64 den)) (by kernel_rfl) (by kernel_rfl) (PureV.does (p_move (by kernel_rfl))) ?_
    refine oOp (.d (.bool (decide (den < 0)))) (by kernel_rfl) (by kernel_rfl) (PureV.does (p_int (k := .i64) (p := den) (q := 0) (by kernel_rfl) (by kernel_rfl) (by kernel_rfl))) ?_
    refine oOp (.d (.bool (!((decide (num < 0)) == (decide (den < 0)))))) (by kernel_rfl) (by kernel_rfl) (PureV.does (p_boolNe (p := (decide (num < 0))) (q := (decide (den < 0))) (by kernel_rfl) (by kernel_rfl) Try.underlying4 (by kernel_rfl))) ?_
    refine oOp (.d (.int .i64 num)) (by kernel_rfl) (by kernel_rfl) (PureV.does (p_move (by kernel_rfl))) ?_
    refine bCall (caps := []) (v := (fun (r18 : Int) => (.d (.int .u64 r18) : V))) (H' := (fun (r18 : Int) => ([.box [.d (.int .i64 0), .d (.int .i64 0)]] : List Blk))) [] _ (ref01_Size_goes k num) (by kernel_rfl) (by kernel_rfl) rfl (by kernel_rfl) Try.func30 rfl (by kernel_rfl) (ConvRs.refl _ _) (by kernel_rfl) (by kernel_rfl) (by kernel_rfl) (by decide) (by kernel_rfl) (by kernel_rfl) (fun _ => (by kernel_rfl)) (fun _ => (by kernel_rfl)) (fun _ => (by kernel_rfl)) (fun r18 => ?_)
    refine oOp (.agg [.d (.int .u64 0), .d (.int .u64 r18)]) (by kernel_rfl) (by kernel_rfl) (PureV.does (p_build bld59 (by kernel_rfl))) ?_
    refine oOp (.d (.int .i64 den)) (by kernel_rfl) (by kernel_rfl) (PureV.does (p_move (by kernel_rfl))) ?_
    refine bCall (caps := []) (v := (fun (r19 : Int) => (.d (.int .u64 r19) : V))) (H' := (fun (r19 : Int) => ([.box [.d (.int .i64 0), .d (.int .i64 0)]] : List Blk))) [] _ (ref01_Size_goes k den) (by kernel_rfl) (by kernel_rfl) rfl (by kernel_rfl) Try.func30 rfl (by kernel_rfl) (ConvRs.refl _ _) (by kernel_rfl) (by kernel_rfl) (by kernel_rfl) (by decide) (by kernel_rfl) (by kernel_rfl) (fun _ => (by kernel_rfl)) (fun _ => (by kernel_rfl)) (fun _ => (by kernel_rfl)) (fun r19 => ?_)
    refine oOp (.agg [.d (.int .u64 0), .d (.int .u64 r19)]) (by kernel_rfl) (by kernel_rfl) (PureV.does (p_build bld59 (by kernel_rfl))) ?_
    refine bCall (caps := []) (v := (uc fun (r121 : Int) => (uc fun (r131 : Int) => (fun (r141 : Int) => (.tuple [.agg [.d (.int .i64 r121), .d (.int .i64 r131)], .d (.int .i64 r141)] : V))))) (H' := (uc fun (r121 : Int) => (uc fun (r131 : Int) => (fun (r141 : Int) => ([.box [.d (.int .i64 0), .d (.int .i64 0)]] : List Blk))))) [] _ (ref01_Reduce_goes k (!((decide (num < 0)) == (decide (den < 0)))) 0 r18 0 r19) (by kernel_rfl) (by kernel_rfl) rfl (by kernel_rfl) Try.func29 rfl (by kernel_rfl) (ConvRs.refl _ _) (by kernel_rfl) (by kernel_rfl) (by kernel_rfl) (by decide) (by kernel_rfl) (by kernel_rfl) (fun _ => (by kernel_rfl)) (fun _ => (by kernel_rfl)) (fun _ => (by kernel_rfl)) (fun r => ?_)
    obtain ⟨r121, r131, r141⟩ := r
    refine bUc ?_
    refine bUc ?_
    refine oOp (.agg [.d (.int .i64 r121), .d (.int .i64 r131)]) (by kernel_rfl) (by kernel_rfl) (PureV.does (k_extract (by kernel_rfl))) ?_
    refine oOp (.d (.int .i64 r141)) (by kernel_rfl) (by kernel_rfl) (PureV.does (k_extract (by kernel_rfl))) ?_
    refine oOp (.undef) (by kernel_rfl) (by kernel_rfl) (k_store (vs := [.d (.int .i64 r121), .d (.int .i64 r131)]) (H' := [.box [.d (.int .i64 r121), .d (.int .i64 r131)]]) 0 0 (by kernel_rfl) ty40 (by kernel_rfl) (by kernel_rfl) (by kernel_rfl)) ?_
    refine oOp (.d (.int .i64 r141)) (by kernel_rfl) (by kernel_rfl) (PureV.does (p_assign (by kernel_rfl))) ?_
    refine oEnd ?_
    exact oRet (r0 := (r121, r131, r141)) (rv := .tuple [.agg [.d (.int .i64 r121), .d (.int .i64 r131)], .d (.int .i64 r141)]) (B := []) (vs := [.agg [.d (.int .i64 r121), .d (.int .i64 r131)], .d (.int .i64 r141)]) (σ := []) (by kernel_rfl) Try.func17 rfl (.cons _ _ _ _ (.agg 4 40 0 0 [.d (.int .i64 r121), .d (.int .i64 r131)] [.d (.int .i64 r121), .d (.int .i64 r131)] _ _ _ _ (by kernel_rfl) (by kernel_rfl) Try.underlying40 (by kernel_rfl) ty40 (by kernel_rfl) (by kernel_rfl)) (.cons _ _ _ _ (.tmp 5 _ (by kernel_rfl)) .nil)) (by kernel_rfl) (by kernel_rfl) (by kernel_rfl) (by kernel_rfl) (by decide) (by kernel_rfl) (by kernel_rfl)

/-- awardingbody/boundary.Nearest -/
def boundary_Nearest_b1 (k : Nat) (d0 : (List Int)) (share0 : Int) (share1 : Int) (again : Int × Int → Option (Int)) : Int × Int → Option (Int) := uc fun best11 => fun b4 => bif (decide (b4 ≤ ((List.length d0) : Int))) then Option.bind (Option.bind (boundary_reach k d0 best11) (fun r11 => Option.bind (boundary_reach k d0 b4) (fun r12 => Option.bind (distribution_Count k d0) (fun r1111 => Option.bind (ratio_New k (IntKind.wrap .i64 (r11 + r12)) (IntKind.wrap .i64 (2 * r1111))) (uc fun r137 => uc fun r167 => fun r177 => Option.bind (bif (decide (r12 < r11)) then Option.bind (ratio_Less k share0 share1 r137 r167) (fun r123 => some r123) else some false : Option (Bool)) (fun x7 => bif x7 then some b4 else some best11))))) : Option (Int)) (fun best14 => again (best14, (IntKind.wrap .i64 (b4 + 1)))) else some best11
def boundary_Nearest (k : Nat) (d0 : (List Int)) (share0 : Int) (share1 : Int) : Option (Int × Int) := Option.bind (boundary_check k d0 share0 share1) (fun r110 => bif (r110 != 0) then some (0, r110) else Option.bind (gloop (boundary_Nearest_b1 k d0 share0 share1) k (0, 1) : Option (Int)) (fun best9 => some (best9, 0)))
def boundary_Nearest_E (d0 : (List Int)) (share0 : Int) (share1 : Int) : Int × Int → V × List Blk := uc fun r18 => fun r19 => (.tuple [.d (.int .i64 r18), .d (.int .i64 r19)], [])
theorem boundary_Nearest_goes (k : Nat) (d0 : (List Int)) (share0 : Int) (share1 : Int) : RunsO Try.prog 19 [.agg [.d (.lit (List.map e_i64 d0))], .agg [.d (.int .i64 share0), .d (.int .i64 share1)]] [] (boundary_Nearest_E d0 share0 share1) (boundary_Nearest k d0 share0 share1) := by
  refine RunsO.of_goes (N := 52) (m := 0) (T := [(0, .agg [.d (.lit (List.map e_i64 d0))]), (1, .agg [.d (.int .i64 share0), .d (.int .i64 share1)])]) Try.func19 rfl rfl (by kernel_rfl) (by kernel_rfl) (by kernel_rfl) ?_
  unfold boundary_Nearest
  refine bStart ?_
  refine oSeq ?_
  refine oRegion rfl ?_
  refine oOp (.ptr 0 0) (by kernel_rfl) (by kernel_rfl) (k_box (H' := [.box [.d (.lit (List.map e_i64 d0))]]) (cells := [.d (.lit (List.map e_i64 d0))]) (by kernel_rfl) (by kernel_rfl) (by kernel_rfl)) ?_
  refine oOp (.ptr 1 0) (by kernel_rfl) (by kernel_rfl) (k_box (H' := [.box [.d (.lit (List.map e_i64 d0))], .box [.d (.int .i64 share0), .d (.int .i64 share1)]]) (cells := [.d (.int .i64 share0), .d (.int .i64 share1)]) (by kernel_rfl) (by kernel_rfl) (by kernel_rfl)) ?_
  refine oOp (.d (.int .i64 0)) (by kernel_rfl) (by kernel_rfl) (PureV.does (p_assign (by kernel_rfl))) ?_
  refine oOp (.d (.int .i64 0)) (by kernel_rfl) (by kernel_rfl) (PureV.does (p_assign (by kernel_rfl))) ?_
  refine oEnd ?_
  refine oSeq ?_
  refine oSeq ?_
  refine oRegion rfl ?_
  refine oOp (.agg [.d (.lit (List.map e_i64 d0))]) (by kernel_rfl) (by kernel_rfl) (Quiet.does (k_loadAgg 0 0 (by kernel_rfl) Try.underlying28 (by kernel_rfl) ty28 (by kernel_rfl))) ?_
  refine oOp (.agg [.d (.int .i64 share0), .d (.int .i64 share1)]) (by kernel_rfl) (by kernel_rfl) (Quiet.does (k_loadAgg 1 0 (by kernel_rfl) Try.underlying40 (by kernel_rfl) ty40 (by kernel_rfl))) ?_
  refine bCall (caps := []) (v := (fun (r110 : Int) => (.d (.int .i64 r110) : V))) (H' := (fun (r110 : Int) => ([.box [.d (.lit (List.map e_i64 d0))], .box [.d (.int .i64 share0), .d (.int .i64 share1)]] : List Blk))) [] _ (boundary_check_goes k d0 share0 share1) (by kernel_rfl) (by kernel_rfl) rfl (by kernel_rfl) Try.func31 rfl (by kernel_rfl) (ConvRs.refl _ _) (by kernel_rfl) (by kernel_rfl) (by kernel_rfl) (by decide) (by kernel_rfl) (by kernel_rfl) (fun _ => (by kernel_rfl)) (fun _ => (by kernel_rfl)) (fun _ => (by kernel_rfl)) (fun r110 => ?_)
  refine oOp (.d (.int .i64 r110)) (by kernel_rfl) (by kernel_rfl) (PureV.does (p_assign (by kernel_rfl))) ?_
  refine oEnd ?_
  refine oSeq ?_
  refine oRegion rfl ?_
  refine oOp (.d (.int .i64 r110)) (by kernel_rfl) (by kernel_rfl) (PureV.does (p_move (by kernel_rfl))) ?_
  refine oOp (.d (.bool (r110 != 0))) (by kernel_rfl) (by kernel_rfl) (PureV.does (p_int (k := .i64) (p := r110) (q := 0) (by kernel_rfl) (by kernel_rfl) (by kernel_rfl))) ?_
  refine oEnd ?_
  refine bSplit 17 (by kernel_rfl) (fun hc => ?_) (fun hc => ?_)
  · refine oCondT (by kernel_rfl) ?_
    refine oSeq ?_
    refine oRegion rfl ?_
    refine oOp (.d (.int .i64 r110)) (by kernel_rfl) (by kernel_rfl) (PureV.does (p_move (by kernel_rfl))) ?_
    refine oOp (.d (.int .i64 0)) (by kernel_rfl) (by kernel_rfl) (PureV.does (p_assign (by kernel_rfl))) ?_
    refine oOp (.d (.int .i64 r110)) (by kernel_rfl) (by kernel_rfl) (PureV.does (p_assign (by kernel_rfl))) ?_
    refine oEnd ?_
    exact oRet (r0 := (0, r110)) (rv := .tuple [.d (.int .i64 0), .d (.int .i64 r110)]) (B := []) (vs := [.d (.int .i64 0), .d (.int .i64 r110)]) (σ := []) (by kernel_rfl) Try.func19 rfl (.cons _ _ _ _ (.tmp 4 _ (by kernel_rfl)) (.cons _ _ _ _ (.tmp 5 _ (by kernel_rfl)) .nil)) (by kernel_rfl) (by kernel_rfl) (by kernel_rfl) (by kernel_rfl) (by decide) (by kernel_rfl) (by kernel_rfl)
  · refine oCondF (by kernel_rfl) ?_
    refine oSkip ?_
    refine oSeq ?_
    refine oRegion rfl ?_
    refine oOp (.d (.int .i64 0)) (by kernel_rfl) (by kernel_rfl) (PureV.does (p_assign (by kernel_rfl))) ?_
    refine oEnd ?_
    refine oSeq ?_
    refine oSeq ?_
    refine oRegion rfl ?_
    refine oOp (.d (.int .i64 1)) (by kernel_rfl) (by kernel_rfl) (PureV.does (p_assign (by kernel_rfl))) ?_
    refine oEnd ?_
    refine bJoin ((fun (best9 : Int) => [(7, .d (.int .i64 best9))])) ((fun (best9 : Int) => [])) (fun s => s) (fun best9 => ?_) (fun hj6 => ?_)
    · refine oView (T' := [(7, .d (.int .i64 best9))]) (H' := []) (by kernel_rfl) (by kernel_rfl) ?_
      refine oSeq ?_
      refine oRegion rfl ?_
      refine oOp (.d (.int .i64 best9)) (by kernel_rfl) (by kernel_rfl) (PureV.does (p_move (by kernel_rfl))) ?_
      refine oOp (.d (.int .i64 best9)) (by kernel_rfl) (by kernel_rfl) (PureV.does (p_assign (by kernel_rfl))) ?_
      refine oOp (.d (.int .i64 0)) (by kernel_rfl) (by kernel_rfl) (PureV.does (p_assign (by kernel_rfl))) ?_
      refine oEnd ?_
      exact oRet (r0 := (best9, 0)) (rv := .tuple [.d (.int .i64 best9), .d (.int .i64 0)]) (B := []) (vs := [.d (.int .i64 best9), .d (.int .i64 0)]) (σ := []) (by kernel_rfl) Try.func19 rfl (.cons _ _ _ _ (.tmp 4 _ (by kernel_rfl)) (.cons _ _ _ _ (.tmp 5 _ (by kernel_rfl)) .nil)) (by kernel_rfl) (by kernel_rfl) (by kernel_rfl) (by kernel_rfl) (by decide) (by kernel_rfl) (by kernel_rfl)
    · refine oBlock ?_
      refine oLoop ?_
      refine oHead [2, 3, 7, 8] [0, 1] (T' := [(2, .ptr 0 0), (3, .ptr 1 0), (7, .d (.int .i64 0)), (8, .d (.int .i64 1))]) (H' := [.box [.d (.lit (List.map e_i64 d0))], .box [.d (.int .i64 share0), .d (.int .i64 share1)]]) (by kernel_rfl) (by kernel_rfl) (by kernel_rfl) (by kernel_rfl) (by decide) (by kernel_rfl) (by kernel_rfl) ?_
      refine bLoop (body := boundary_Nearest_b1 k d0 share0 share1) ((uc fun (best11 : Int) => (fun (b4 : Int) => [(2, .ptr 0 0), (3, .ptr 1 0), (7, .d (.int .i64 best11)), (8, .d (.int .i64 b4))]))) ((uc fun (best11 : Int) => (fun (b4 : Int) => [.box [.d (.lit (List.map e_i64 d0))], .box [.d (.int .i64 share0), .d (.int .i64 share1)]]))) (fun again hag1 s => ?_) k (0, 1)
      · unfold boundary_Nearest_b1
        obtain ⟨best11, b4⟩ := s
        refine bUc ?_
        refine oView (T' := [(2, .ptr 0 0), (3, .ptr 1 0), (7, .d (.int .i64 best11)), (8, .d (.int .i64 b4))]) (H' := [.box [.d (.lit (List.map e_i64 d0))], .box [.d (.int .i64 share0), .d (.int .i64 share1)]]) (by kernel_rfl) (by kernel_rfl) ?_
        refine oSeq ?_
        refine oSeq ?_
        refine oRegion rfl ?_
        refine oOp (.d (.int .i64 b4)) (by kernel_rfl) (by kernel_rfl) (PureV.does (p_move (by kernel_rfl))) ?_
        refine oOp (.ptr 0 0) (by kernel_rfl) (by kernel_rfl) (PureV.does (k_fieldAddr 0 0 (by kernel_rfl) Try.underlying28 rfl ty22 (by kernel_rfl))) ?_
        refine oOp (.d (.lit (List.map e_i64 d0))) (by kernel_rfl) (by kernel_rfl) (Quiet.does (k_load 0 0 (by kernel_rfl) Try.underlying22 (by kernel_rfl) (by kernel_rfl))) ?_
        refine oOp (.d (.int .i64 ((List.length d0) : Int))) (by kernel_rfl) (by kernel_rfl) (PureV.does (k_lenLit (enc := e_i64) d0 (by kernel_rfl) Try.underlying22)) ?_
        refine oOp (.d (.bool (decide (b4 ≤ ((List.length d0) : Int))))) (by kernel_rfl) (by kernel_rfl) (PureV.does (p_int (k := .i64) (p := b4) (q := ((List.length d0) : Int)) (by kernel_rfl) (by kernel_rfl) (by kernel_rfl))) ?_
        refine oEnd ?_
        refine bSplit 23 (by kernel_rfl) (fun hc => ?_) (fun hc => ?_)
        · refine oCondT (by kernel_rfl) ?_
          refine oSkip ?_
          refine oSeq ?_
          refine bJoin ((fun (best14 : Int) => [(2, .ptr 0 0), (3, .ptr 1 0), (7, .d (.int .i64 best14)), (8, .d (.int .i64 b4))])) ((fun (best14 : Int) => [.box [.d (.lit (List.map e_i64 d0))], .box [.d (.int .i64 share0), .d (.int .i64 share1)]])) (fun s => s) (fun best14 => ?_) (fun hj9 => ?_)
          · refine oView (T' := [(2, .ptr 0 0), (3, .ptr 1 0), (7, .d (.int .i64 best14)), (8, .d (.int .i64 b4))]) (H' := [.box [.d (.lit (List.map e_i64 d0))], .box [.d (.int .i64 share0), .d (.int .i64 share1)]]) (by kernel_rfl) (by kernel_rfl) ?_
            refine oRegion rfl ?_
            refine oOp (.d (.int .i64 b4)) (by kernel_rfl) (by kernel_rfl) (PureV.does (p_move (by kernel_rfl))) ?_
            refine oOp (.d (.int .i64 (IntKind.wrap .i64 (b4 + 1)))) (by kernel_rfl) (by kernel_rfl) (PureV.does (p_int (k := .i64) (p := b4) (q := 1) (by kernel_rfl) (by kernel_rfl) (by kernel_rfl))) ?_
            refine oOp (.d (.int .i64 (IntKind.wrap .i64 (b4 + 1)))) (by kernel_rfl) (by kernel_rfl) (PureV.does (p_assign (by kernel_rfl))) ?_
            refine oEnd ?_
            refine oAgain ?_
            refine oHead [2, 3, 7, 8] [0, 1] (T' := [(2, .ptr 0 0), (3, .ptr 1 0), (7, .d (.int .i64 best14)), (8, .d (.int .i64 (IntKind.wrap .i64 (b4 + 1))))]) (H' := [.box [.d (.lit (List.map e_i64 d0))], .box [.d (.int .i64 share0), .d (.int .i64 share1)]]) (by kernel_rfl) (by kernel_rfl) (by kernel_rfl) (by kernel_rfl) (by decide) (by kernel_rfl) (by kernel_rfl) ?_
            exact hag1 (best14, (IntKind.wrap .i64 (b4 + 1)))
          · refine oBlock ?_
            refine oSeq ?_
            refine oDraw [(0, 8), (1, 8)] rfl ?_
            refine aTakeL (i := 0) (st' := [0]) (.agg [.d (.lit (List.map e_i64 d0))]) rfl (by kernel_rfl) (by kernel_rfl) (by kernel_rfl) (by kernel_rfl) (by kernel_rfl) (by kernel_rfl) (by kernel_rfl) (k_loadAgg 0 0 (by kernel_rfl) Try.underlying28 (by kernel_rfl) ty28 (by kernel_rfl)) ?_
            refine aTakeL (i := 1) (st' := []) (.d (.int .i64 best11)) rfl (by kernel_rfl) (by kernel_rfl) (by kernel_rfl) (by kernel_rfl) (by kernel_rfl) (by kernel_rfl) (by kernel_rfl) (PureV.quiet (p_move (by kernel_rfl)) []) ?_
            refine aTakeL (i := 3) (st' := [0]) (.agg [.d (.lit (List.map e_i64 d0))]) rfl (by kernel_rfl) (by kernel_rfl) (by kernel_rfl) (by kernel_rfl) (by kernel_rfl) (by kernel_rfl) (by kernel_rfl) (k_loadAgg 0 0 (by kernel_rfl) Try.underlying28 (by kernel_rfl) ty28 (by kernel_rfl)) ?_
            refine aTakeL (i := 4) (st' := []) (.d (.int .i64 b4)) rfl (by kernel_rfl) (by kernel_rfl) (by kernel_rfl) (by kernel_rfl) (by kernel_rfl) (by kernel_rfl) (by kernel_rfl) (PureV.quiet (p_move (by kernel_rfl)) []) ?_
            refine dCall (i := 2) (caps := []) (v := (fun (r11 : Int) => (.d (.int .i64 r11) : V))) (H' := (fun (r11 : Int) => ([.box [.d (.lit (List.map e_i64 d0))], .box [.d (.int .i64 share0), .d (.int .i64 share1)]] : List Blk))) [] _ (boundary_reach_goes k d0 best11) rfl (by kernel_rfl) (by kernel_rfl) (by kernel_rfl) (by kernel_rfl) (by kernel_rfl) (by kernel_rfl) (by kernel_rfl) (by kernel_rfl) rfl (by kernel_rfl) Try.func33 rfl (by kernel_rfl) (ConvRs.refl _ _) (by kernel_rfl) (by kernel_rfl) (by kernel_rfl) (by decide) (by kernel_rfl) (by kernel_rfl) (fun _ => (by kernel_rfl)) (fun _ => (by kernel_rfl)) (fun _ => (by kernel_rfl)) (fun r11 => ?_)
            refine dCall (i := 5) (caps := []) (v := (fun (r12 : Int) => (.d (.int .i64 r12) : V))) (H' := (fun (r12 : Int) => ([.box [.d (.lit (List.map e_i64 d0))], .box [.d (.int .i64 share0), .d (.int .i64 share1)]] : List Blk))) [] _ (boundary_reach_goes k d0 b4) rfl (by kernel_rfl) (by kernel_rfl) (by kernel_rfl) (by kernel_rfl) (by kernel_rfl) (by kernel_rfl) (by kernel_rfl) (by kernel_rfl) rfl (by kernel_rfl) Try.func33 rfl (by kernel_rfl) (ConvRs.refl _ _) (by kernel_rfl) (by kernel_rfl) (by kernel_rfl) (by decide) (by kernel_rfl) (by kernel_rfl) (fun _ => (by kernel_rfl)) (fun _ => (by kernel_rfl)) (fun _ => (by kernel_rfl)) (fun r12 => ?_)
            refine aTakeL (i := 6) (st' := []) (.d (.int .i64 r11)) rfl (by kernel_rfl) (by kernel_rfl) (by kernel_rfl) (by kernel_rfl) (by kernel_rfl) (by kernel_rfl) (by kernel_rfl) (PureV.quiet (p_assign (by kernel_rfl)) []) ?_
            refine aTakeL (i := 7) (st' := []) (.d (.int .i64 r12)) rfl (by kernel_rfl) (by kernel_rfl) (by kernel_rfl) (by kernel_rfl) (by kernel_rfl) (by kernel_rfl) (by kernel_rfl) (PureV.quiet (p_assign (by kernel_rfl)) []) ?_
            refine aDone (by kernel_rfl) ?_
            refine oSeq ?_
            refine oRegion rfl ?_
            refine oOp (.d (.int .i64 r11)) (by kernel_rfl) (by kernel_rfl) (PureV.does (p_move (by kernel_rfl))) ?_
            refine oOp (.d (.int .i64 r12)) (by kernel_rfl) (by kernel_rfl) (PureV.does (p_move (by kernel_rfl))) ?_
            refine oOp (.d (.int .i64 (IntKind.wrap .i64 (r11 + r12)))) (by kernel_rfl) (by kernel_rfl) (PureV.does (p_int (k := .i64) (p := r11) (q := r12) (by kernel_rfl) (by kernel_rfl) (by kernel_rfl))) ?_
            refine oOp (.agg [.d (.lit (List.map e_i64 d0))]) (by kernel_rfl) (by kernel_rfl) (Quiet.does (k_loadAgg 0 0 (by kernel_rfl) Try.underlying28 (by kernel_rfl) ty28 (by kernel_rfl))) ?_
            refine bCall (caps := []) (v := (fun (r1111 : Int) => (.d (.int .i64 r1111) : V))) (H' := (fun (r1111 : Int) => ([.box [.d (.lit (List.map e_i64 d0))], .box [.d (.int .i64 share0), .d (.int .i64 share1)]] : List Blk))) [] _ (distribution_Count_goes k d0) (by kernel_rfl) (by kernel_rfl) rfl (by kernel_rfl) Try.func34 rfl (by kernel_rfl) (ConvRs.refl _ _) (by kernel_rfl) (by kernel_rfl) (by kernel_rfl) (by decide) (by kernel_rfl) (by kernel_rfl) (fun _ => (by kernel_rfl)) (fun _ => (by kernel_rfl)) (fun _ => (by kernel_rfl)) (fun r1111 => ?_)
            refine oOp (.d (.int .i64 (IntKind.wrap .i64 (2 * r1111)))) (by kernel_rfl) (by kernel_rfl) (PureV.does (p_int (k := .i64) (p := 2) (q := r1111) (by kernel_rfl) (by kernel_rfl) (by kernel_rfl))) ?_
            refine bCall (caps := []) (v := (uc fun (r137 : Int) => (uc fun (r167 : Int) => (fun (r177 : Int) => (.tuple [.agg [.d (.int .i64 r137), .d (.int .i64 r167)], .d (.int .i64 r177)] : V))))) (H' := (uc fun (r137 : Int) => (uc fun (r167 : Int) => (fun (r177 : Int) => ([.box [.d (.lit (List.map e_i64 d0))], .box [.d (.int .i64 share0), .d (.int .i64 share1)]] : List Blk))))) [] _ (ratio_New_goes k (IntKind.wrap .i64 (r11 + r12)) (IntKind.wrap .i64 (2 * r1111))) (by kernel_rfl) (by kernel_rfl) rfl (by kernel_rfl) Try.func32 rfl (by kernel_rfl) (ConvRs.refl _ _) (by kernel_rfl) (by kernel_rfl) (by kernel_rfl) (by decide) (by kernel_rfl) (by kernel_rfl) (fun _ => (by kernel_rfl)) (fun _ => (by kernel_rfl)) (fun _ => (by kernel_rfl)) (fun r => ?_)
            obtain ⟨r137, r167, r177⟩ := r
            refine bUc ?_
            refine bUc ?_
            refine oOp (.tuple [.agg [.d (.int .i64 r137), .d (.int .i64 r167)], .d (.int .i64 r177)]) (by kernel_rfl) (by kernel_rfl) (PureV.does (p_move (by kernel_rfl))) ?_
            refine oOp (.agg [.d (.int .i64 r137), .d (.int .i64 r167)]) (by kernel_rfl) (by kernel_rfl) (PureV.does (k_extract (by kernel_rfl))) ?_
            refine oOp (.d (.int .i64 r177)) (by kernel_rfl) (by kernel_rfl) (PureV.does (k_extract (by kernel_rfl))) ?_
            refine oOp (.ptr 2 0) (by kernel_rfl) (by kernel_rfl) (k_alloc (H' := [.box [.d (.lit (List.map e_i64 d0))], .box [.d (.int .i64 share0), .d (.int .i64 share1)], .box [.d (.int .i64 0), .d (.int .i64 0)]]) ty40 (by kernel_rfl) (by kernel_rfl)) ?_
            refine oOp (.undef) (by kernel_rfl) (by kernel_rfl) (k_store (vs := [.d (.int .i64 r137), .d (.int .i64 r167)]) (H' := [.box [.d (.lit (List.map e_i64 d0))], .box [.d (.int .i64 share0), .d (.int .i64 share1)], .box [.d (.int .i64 r137), .d (.int .i64 r167)]]) 2 0 (by kernel_rfl) ty40 (by kernel_rfl) (by kernel_rfl) (by kernel_rfl)) ?_
            refine oOp (.d (.int .i64 r177)) (by kernel_rfl) (by kernel_rfl) (PureV.does (p_assign (by kernel_rfl))) ?_
            refine oEnd ?_
            refine oSeq ?_
            refine oRegion rfl ?_
            refine oOp (.d (.int .i64 r12)) (by kernel_rfl) (by kernel_rfl) (PureV.does (p_move (by kernel_rfl))) ?_
            refine oOp (.d (.int .i64 r11)) (by kernel_rfl) (by kernel_rfl) (PureV.does (p_move (by kernel_rfl))) ?_
            refine oOp (.d (.bool (decide (r12 < r11)))) (by kernel_rfl) (by kernel_rfl) (PureV.does (p_int (k := .i64) (p := r12) (q := r11) (by kernel_rfl) (by kernel_rfl) (by kernel_rfl))) ?_
            refine oOp (.d (.bool (decide (r12 < r11)))) (by kernel_rfl) (by kernel_rfl) (PureV.does (p_move (by kernel_rfl))) ?_
            refine bMeet 4 rfl ((fun (x7 : Bool) => [(2, .ptr 0 0), (3, .ptr 1 0), (7, .d (.int .i64 best11)), (8, .d (.int .i64 b4)), (49, .d (.bool x7))])) ((fun (x7 : Bool) => [.box [.d (.lit (List.map e_i64 d0))], .box [.d (.int .i64 share0), .d (.int .i64 share1)]])) (fun s => s) (fun x7 => ?_) (fun hj10 => ?_)
            · refine oView (T' := [(2, .ptr 0 0), (3, .ptr 1 0), (7, .d (.int .i64 best11)), (8, .d (.int .i64 b4)), (49, .d (.bool x7))]) (H' := [.box [.d (.lit (List.map e_i64 d0))], .box [.d (.int .i64 share0), .d (.int .i64 share1)]]) (by kernel_rfl) (by kernel_rfl) ?_
              refine oEnd ?_
              refine bSplit 49 (by kernel_rfl) (fun hc => ?_) (fun hc => ?_)
              · refine oCondT (by kernel_rfl) ?_
                refine oRegion rfl ?_
                refine oOp (.d (.int .i64 b4)) (by kernel_rfl) (by kernel_rfl) (PureV.does (p_move (by kernel_rfl))) ?_
                refine oOp (.d (.int .i64 b4)) (by kernel_rfl) (by kernel_rfl) (PureV.does (p_assign (by kernel_rfl))) ?_
                refine oEnd ?_
                refine oBlk ?_
                refine oHead [2, 3, 7, 8] [0, 1] (T' := [(2, .ptr 0 0), (3, .ptr 1 0), (7, .d (.int .i64 b4)), (8, .d (.int .i64 b4))]) (H' := [.box [.d (.lit (List.map e_i64 d0))], .box [.d (.int .i64 share0), .d (.int .i64 share1)]]) (by kernel_rfl) (by kernel_rfl) (by kernel_rfl) (by kernel_rfl) (by decide) (by kernel_rfl) (by kernel_rfl) ?_
                exact hj9 b4
              · refine oCondF (by kernel_rfl) ?_
                refine oSkip ?_
                refine oBlk ?_
                refine oHead [2, 3, 7, 8] [0, 1] (T' := [(2, .ptr 0 0), (3, .ptr 1 0), (7, .d (.int .i64 best11)), (8, .d (.int .i64 b4))]) (H' := [.box [.d (.lit (List.map e_i64 d0))], .box [.d (.int .i64 share0), .d (.int .i64 share1)]]) (by kernel_rfl) (by kernel_rfl) (by kernel_rfl) (by kernel_rfl) (by decide) (by kernel_rfl) (by kernel_rfl) ?_
                exact hj9 best11
            · refine bSplit 45 (by kernel_rfl) (fun hc => ?_) (fun hc => ?_)
              · refine oOp (.agg [.d (.int .i64 share0), .d (.int .i64 share1)]) (by kernel_rfl) (by kernel_rfl) (Quiet.does (k_loadAgg 1 0 (by kernel_rfl) Try.underlying40 (by kernel_rfl) ty40 (by kernel_rfl))) ?_
                refine oOp (.agg [.d (.int .i64 r137), .d (.int .i64 r167)]) (by kernel_rfl) (by kernel_rfl) (Quiet.does (k_loadAgg 2 0 (by kernel_rfl) Try.underlying40 (by kernel_rfl) ty40 (by kernel_rfl))) ?_
                refine bCall (caps := []) (v := (fun (r123 : Bool) => (.d (.bool r123) : V))) (H' := (fun (r123 : Bool) => ([.box [.d (.lit (List.map e_i64 d0))], .box [.d (.int .i64 share0), .d (.int .i64 share1)], .box [.d (.int .i64 r137), .d (.int .i64 r167)]] : List Blk))) [] _ (ratio_Less_goes k share0 share1 r137 r167) (by kernel_rfl) (by kernel_rfl) rfl (by kernel_rfl) Try.func35 rfl (by kernel_rfl) (ConvRs.refl _ _) (by kernel_rfl) (by kernel_rfl) (by kernel_rfl) (by decide) (by kernel_rfl) (by kernel_rfl) (fun _ => (by kernel_rfl)) (fun _ => (by kernel_rfl)) (fun _ => (by kernel_rfl)) (fun r123 => ?_)
                refine oOp (.d (.bool r123)) (by kernel_rfl) (by kernel_rfl) (PureV.does (p_pick (b := true) (by kernel_rfl) (by kernel_rfl))) ?_
                refine oHead [2, 3, 7, 8, 49] [0, 1] (T' := [(2, .ptr 0 0), (3, .ptr 1 0), (7, .d (.int .i64 best11)), (8, .d (.int .i64 b4)), (49, .d (.bool r123))]) (H' := [.box [.d (.lit (List.map e_i64 d0))], .box [.d (.int .i64 share0), .d (.int .i64 share1)]]) (by kernel_rfl) (by kernel_rfl) (by kernel_rfl) (by kernel_rfl) (by decide) (by kernel_rfl) (by kernel_rfl) ?_
                exact hj10 r123
              · refine oNot (by kernel_rfl) (by kernel_rfl) ?_
                refine oNot (by kernel_rfl) (by kernel_rfl) ?_
                refine oNot (by kernel_rfl) (by kernel_rfl) ?_
                refine oOp (.d (.bool false)) (by kernel_rfl) (by kernel_rfl) (PureV.does (p_pick (b := false) (by kernel_rfl) (by kernel_rfl))) ?_
                refine oHead [2, 3, 7, 8, 49] [0, 1] (T' := [(2, .ptr 0 0), (3, .ptr 1 0), (7, .d (.int .i64 best11)), (8, .d (.int .i64 b4)), (49, .d (.bool false))]) (H' := [.box [.d (.lit (List.map e_i64 d0))], .box [.d (.int .i64 share0), .d (.int .i64 share1)]]) (by kernel_rfl) (by kernel_rfl) (by kernel_rfl) (by kernel_rfl) (by decide) (by kernel_rfl) (by kernel_rfl) ?_
                exact hj10 false
        · refine oCondF (by kernel_rfl) ?_
          refine oExit rfl ?_
          refine oHead [7] [] (T' := [(7, .d (.int .i64 best11))]) (H' := []) (by kernel_rfl) (by kernel_rfl) (by kernel_rfl) (by kernel_rfl) (by decide) (by kernel_rfl) (by kernel_rfl) ?_
          exact hj6 best11

/-- awardingbody/awardingbodylaw35.BoundaryShares$1 -/
def law35_BoundaryShares_1 (k : Nat) (b : Int) (x : Int) (x1 : (List Int)) : Option (Int) := Option.bind (ref32_Below k x1 b) (fun r12 => some (IntKind.wrap .i64 (x - r12)))
def law35_BoundaryShares_1_E (b : Int) (x : Int) (x1 : (List Int)) : Int → V × List Blk := fun r1 => (.d (.int .i64 r1), [.box [.d (.int .i64 x)], .box [.d (.lit (List.map e_i64 x1))]])
theorem law35_BoundaryShares_1_goes (k : Nat) (b : Int) (x : Int) (x1 : (List Int)) : RunsO Try.prog 20 [.d (.int .i64 b), .ptr 0 0, .ptr 1 0] [.box [.d (.int .i64 x)], .box [.d (.lit (List.map e_i64 x1))]] (law35_BoundaryShares_1_E b x x1) (law35_BoundaryShares_1 k b x x1) := by
  refine RunsO.of_goes (N := 10) (m := 2) (T := [(0, .d (.int .i64 b)), (1, .ptr 0 0), (2, .ptr 1 0)]) Try.func20 rfl rfl (by kernel_rfl) (by kernel_rfl) (by kernel_rfl) ?_
  unfold law35_BoundaryShares_1
  refine bStart ?_
  refine oSeq ?_
  refine oRegion rfl ?_
  refine oOp (.d (.int .i64 0)) (by kernel_rfl) (by kernel_rfl) (PureV.does (p_assign (by kernel_rfl))) ?_
  refine oEnd ?_
  refine oSeq ?_
  refine oDraw [(0, 6), (1, 6)] rfl ?_
  refine aTakeL (i := 0) (st' := [0]) (.d (.int .i64 x)) rfl (by kernel_rfl) (by kernel_rfl) (by kernel_rfl) (by kernel_rfl) (by kernel_rfl) (by kernel_rfl) (by kernel_rfl) (k_load 0 0 (by kernel_rfl) Try.underlying3 (by kernel_rfl) (by kernel_rfl)) ?_
  refine aTakeL (i := 1) (st' := [1]) (.agg [.d (.lit (List.map e_i64 x1))]) rfl (by kernel_rfl) (by kernel_rfl) (by kernel_rfl) (by kernel_rfl) (by kernel_rfl) (by kernel_rfl) (by kernel_rfl) (k_loadAgg 1 0 (by kernel_rfl) Try.underlying28 (by kernel_rfl) ty28 (by kernel_rfl)) ?_
  refine aTakeL (i := 2) (st' := []) (.d (.int .i64 b)) rfl (by kernel_rfl) (by kernel_rfl) (by kernel_rfl) (by kernel_rfl) (by kernel_rfl) (by kernel_rfl) (by kernel_rfl) (PureV.quiet (p_move (by kernel_rfl)) []) ?_
  refine dCall (i := 3) (caps := []) (v := (fun (r12 : Int) => (.d (.int .i64 r12) : V))) (H' := (fun (r12 : Int) => ([.box [.d (.int .i64 x)], .box [.d (.lit (List.map e_i64 x1))]] : List Blk))) [] _ (ref32_Below_goes k x1 b) rfl (by kernel_rfl) (by kernel_rfl) (by kernel_rfl) (by kernel_rfl) (by kernel_rfl) (by kernel_rfl) (by kernel_rfl) (by kernel_rfl) rfl (by kernel_rfl) Try.func21 rfl (by kernel_rfl) (ConvRs.refl _ _) (by kernel_rfl) (by kernel_rfl) (by kernel_rfl) (by decide) (by kernel_rfl) (by kernel_rfl) (fun _ => (by kernel_rfl)) (fun _ => (by kernel_rfl)) (fun _ => (by kernel_rfl)) (fun r12 => ?_)
  refine aTakeL (i := 4) (st' := []) (.d (.int .i64 (IntKind.wrap .i64 (x - r12)))) rfl (by kernel_rfl) (by kernel_rfl) (by kernel_rfl) (by kernel_rfl) (by kernel_rfl) (by kernel_rfl) (by kernel_rfl) (PureV.quiet (p_int (k := .i64) (p := x) (q := r12) (by kernel_rfl) (by kernel_rfl) (by kernel_rfl)) []) ?_
  refine aTakeL (i := 5) (st' := []) (.d (.int .i64 (IntKind.wrap .i64 (x - r12)))) rfl (by kernel_rfl) (by kernel_rfl) (by kernel_rfl) (by kernel_rfl) (by kernel_rfl) (by kernel_rfl) (by kernel_rfl) (PureV.quiet (p_assign (by kernel_rfl)) []) ?_
  refine aDone (by kernel_rfl) ?_
  exact oRet (r0 := (IntKind.wrap .i64 (x - r12))) (rv := .d (.int .i64 (IntKind.wrap .i64 (x - r12)))) (B := [.box [.d (.int .i64 x)], .box [.d (.lit (List.map e_i64 x1))]]) (vs := [.d (.int .i64 (IntKind.wrap .i64 (x - r12)))]) (σ := [0, 1]) (by kernel_rfl) Try.func20 rfl (.cons _ _ _ _ (.tmp 4 _ (by kernel_rfl)) .nil) (by kernel_rfl) (by kernel_rfl) (by kernel_rfl) (by kernel_rfl) (by decide) (by kernel_rfl) (by kernel_rfl)

end Go.VM
