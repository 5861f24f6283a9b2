/- Plain functions that answer as the program's functions do, and the proof that they do. -/
import Derived.Test.YtdebnihlkdabpaaProg
import Derived.KernelRfl
import Derived.Test.YtdebnihlkdabpaaEngX
import Derived.Test.YtdebnihlkdabpaaMFacts
import Derived.Test.YtdebnihlkdabpaaMFuns1
import Derived.Test.YtdebnihlkdabpaaMFuns4
namespace Go.VM
open Go.Proofs
set_option linter.unusedVariables false
set_option linter.unusedSimpArgs false
set_option maxRecDepth 100000
/-- awardingbody/awardingbodyref01.Divide -/
def ref01_Divide_b1 (k : Nat) (a0 : Int) (a1 : Int) (b0 : Int) (b1 : Int) (again : Int × Int × Int × Int × Int → Option (Int × Int × Int × Int)) : Int × Int × Int × Int × Int → Option (Int × Int × Int × Int) := uc fun i4 => uc fun x56 => uc fun x57 => uc fun x58 => fun x59 => bif (decide (i4 ≥ 0)) then Option.bind (gnn (IntKind.wrap .u64 (Int.tmod i4 64)) (Option.bind (bif (decide (i4 ≥ 64)) then gnn (IntKind.wrap .u64 (IntKind.wrap .i64 (i4 - 64))) (some (iand .u64 (Int.fdiv a0 (2 ^ (min (Int.toNat (IntKind.wrap .u64 (IntKind.wrap .i64 (i4 - 64)))) (IntKind.bits .u64)))) 1)) else some (iand .u64 (Int.fdiv a1 (2 ^ (min (Int.toNat (IntKind.wrap .u64 (Int.tmod i4 64))) (IntKind.bits .u64)))) 1) : Option (Int)) (fun bit4 => Option.bind (ref01_Twice k x58 x59) (uc fun r131 => fun r1118 => Option.bind (ref01_Twice k x56 x57) (uc fun r132 => fun r1119 => Option.bind (bif ((Int.fdiv x58 (2 ^ (min (Int.toNat 63) (IntKind.bits .u64)))) == 1) then some (true, (ior .u64 r1118 bit4)) else Option.bind (ref01_Order k r131 (ior .u64 r1118 bit4) b0 b1) (fun r134 => some ((decide (r134 ≥ 0)), (ior .u64 r1118 bit4))) : Option (Bool × Int)) (uc fun x76 => fun x77 => bif x76 then Option.bind (ref01_Minus k r131 x77 b0 b1) (u0 (some (r132, (ior .u64 r1119 1), ((r131 - b0 - (if x77 < b1 + 0 then 1 else 0)) % 18446744073709551616), ((x77 - b1 - 0) % 18446744073709551616)))) else some (r132, r1119, r131, x77)))))) : Option (Int × Int × Int × Int)) (uc fun x72 => uc fun x73 => uc fun x74 => fun x75 => again ((IntKind.wrap .i64 (i4 - 1)), x72, x73, x74, x75)) else some (x56, x57, x58, x59)
def ref01_Divide (k : Nat) (a0 : Int) (a1 : Int) (b0 : Int) (b1 : Int) : Option (Int × Int × Int × Int) := blet ((a0 == 0) && (b0 == 0)) fun x25 => bif x25 then gnz b1 (gnz b1 (some (0, (IntKind.wrap .u64 (Int.tdiv a1 b1)), 0, (Int.tmod a1 b1)))) else Option.bind (gloop (ref01_Divide_b1 k a0 a1 b0 b1) k (127, 0, 0, 0, 0) : Option (Int × Int × Int × Int)) (uc fun x46 => uc fun x47 => uc fun x48 => fun x49 => some (x46, x47, x48, x49))
def ref01_Divide_E (a0 : Int) (a1 : Int) (b0 : Int) (b1 : Int) : Int × Int × Int × Int → V × List Blk := uc fun r17 => uc fun r18 => uc fun r19 => fun r110 => (.tuple [.agg [.d (.int .u64 r17), .d (.int .u64 r18)], .agg [.d (.int .u64 r19), .d (.int .u64 r110)]], [])
theorem ref01_Divide_goes (k : Nat) (a0 : Int) (a1 : Int) (b0 : Int) (b1 : Int) : RunsO Try.prog 63 [.agg [.d (.int .u64 a0), .d (.int .u64 a1)], .agg [.d (.int .u64 b0), .d (.int .u64 b1)]] [] (ref01_Divide_E a0 a1 b0 b1) (ref01_Divide k a0 a1 b0 b1) := by
  refine RunsO.of_goes (N := 82) (m := 0) (T := [(0, .agg [.d (.int .u64 a0), .d (.int .u64 a1)]), (1, .agg [.d (.int .u64 b0), .d (.int .u64 b1)])]) Try.func63 rfl rfl (h := ?_)
  unfold ref01_Divide
  refine bStart ?_
  refine oSR rfl ?_
  refine oD (.ptr 0 0) (k_box (H' := [.box [.d (.int .u64 a0), .d (.int .u64 a1)]]) (cells := [.d (.int .u64 a0), .d (.int .u64 a1)])) ?_
  refine oD (.ptr 1 0) (k_box (H' := [.box [.d (.int .u64 a0), .d (.int .u64 a1)], .box [.d (.int .u64 b0), .d (.int .u64 b1)]]) (cells := [.d (.int .u64 b0), .d (.int .u64 b1)])) ?_
  refine oD (.ptr 2 0) (k_alloc (H' := [.box [.d (.int .u64 a0), .d (.int .u64 a1)], .box [.d (.int .u64 b0), .d (.int .u64 b1)], .box [.d (.int .u64 0), .d (.int .u64 0)]]) ty65) ?_
  refine oD (.ptr 3 0) (k_alloc (H' := [.box [.d (.int .u64 a0), .d (.int .u64 a1)], .box [.d (.int .u64 b0), .d (.int .u64 b1)], .box [.d (.int .u64 0), .d (.int .u64 0)], .box [.d (.int .u64 0), .d (.int .u64 0)]]) ty65) ?_
  refine oEnd ?_
  refine oSeq ?_
  refine oSR rfl ?_
  refine oP (.ptr 0 0) (k_fieldAddr 0 0 (hu := Try.underlying65) (hf := rfl) (hi := ty62)) ?_
  refine oQ (.d (.int .u64 a0)) (k_load 0 0 (hu := Try.underlying62)) ?_
  refine oP (.d (.bool (a0 == 0))) (p_int (k := .u64) (p := a0) (q := 0)) ?_
  refine oP (.d (.bool (a0 == 0))) p_move ?_
  refine bMeetF (H' := [.box [.d (.int .u64 a0), .d (.int .u64 a1)], .box [.d (.int .u64 b0), .d (.int .u64 b1)], .box [.d (.int .u64 0), .d (.int .u64 0)], .box [.d (.int .u64 0), .d (.int .u64 0)]]) 4 rfl ((fun (x25 : Bool) => [(2, .ptr 0 0), (3, .ptr 1 0), (4, .ptr 2 0), (5, .ptr 3 0), (18, .d (.bool x25))])) (fun x25 => ?_) (fun F hj5 => ?_)
  ·refine oView (T' := [(2, .ptr 0 0), (3, .ptr 1 0), (4, .ptr 2 0), (5, .ptr 3 0), (18, .d (.bool x25))]) (H' := [.box [.d (.int .u64 a0), .d (.int .u64 a1)], .box [.d (.int .u64 b0), .d (.int .u64 b1)], .box [.d (.int .u64 0), .d (.int .u64 0)], .box [.d (.int .u64 0), .d (.int .u64 0)]]) (h := ?_)
   refine oEnd ?_
   refine bSplit 18 (h1 := fun hc => ?_) (h2 := fun hc => ?_)
   ·refine oCondT (h := ?_)
    refine oSeq ?_
    refine oDraw [(0, 14), (1, 14), (2, 12), (3, 13)] rfl ?_
    refine aP 0 (.ptr 0 1) rfl (k_fieldAddr 0 0 (hu := Try.underlying65) (hf := rfl) (hi := ty62)) ?_
    refine aQ 1 [0] (.d (.int .u64 a1)) rfl (k_load 0 1 (hu := Try.underlying62)) ?_
    refine aP 2 (.ptr 1 1) rfl (k_fieldAddr 1 0 (hu := Try.underlying65) (hf := rfl) (hi := ty62)) ?_
    refine aQ 3 [1] (.d (.int .u64 b1)) rfl (k_load 1 1 (hu := Try.underlying62)) ?_
    refine dNz (fun h1 => ?_)
    refine aTakeP (i := 4) (.d (.int .u64 (IntKind.wrap .u64 (Int.tdiv a1 b1)))) rfl (hp := p_quo (k := .u64) (p := a1) (q := b1) (hq := h1)) (h := ?_)
    refine aP 5 (.agg [.d (.int .u64 0), .d (.int .u64 (IntKind.wrap .u64 (Int.tdiv a1 b1)))]) rfl (p_build bld65) ?_
    refine aP 6 (.ptr 0 1) rfl (k_fieldAddr 0 0 (hu := Try.underlying65) (hf := rfl) (hi := ty62)) ?_
    refine aQ 7 [0] (.d (.int .u64 a1)) rfl (k_load 0 1 (hu := Try.underlying62)) ?_
    refine aP 8 (.ptr 1 1) rfl (k_fieldAddr 1 0 (hu := Try.underlying65) (hf := rfl) (hi := ty62)) ?_
    refine aQ 9 [1] (.d (.int .u64 b1)) rfl (k_load 1 1 (hu := Try.underlying62)) ?_
    refine dNz (fun h12 => ?_)
    refine aTakeP (i := 10) (.d (.int .u64 (Int.tmod a1 b1))) rfl (hp := p_rem (k := .u64) (p := a1) (q := b1) (hq := h12)) (h := ?_)
    refine aP 11 (.agg [.d (.int .u64 0), .d (.int .u64 (Int.tmod a1 b1))]) rfl (p_build bld65) ?_
    refine aOne (i := 12) (v := .undef) rfl (hac := Does.acts (k_store (vs := [.d (.int .u64 0), .d (.int .u64 (IntKind.wrap .u64 (Int.tdiv a1 b1)))]) (H' := [.box [.d (.int .u64 a0), .d (.int .u64 a1)], .box [.d (.int .u64 b0), .d (.int .u64 b1)], .box [.d (.int .u64 0), .d (.int .u64 (IntKind.wrap .u64 (Int.tdiv a1 b1)))], .box [.d (.int .u64 0), .d (.int .u64 0)]]) 2 0 (hi := ty65))) (h := ?_)
    refine aOne (i := 13) (v := .undef) rfl (hac := Does.acts (k_store (vs := [.d (.int .u64 0), .d (.int .u64 (Int.tmod a1 b1))]) (H' := [.box [.d (.int .u64 a0), .d (.int .u64 a1)], .box [.d (.int .u64 b0), .d (.int .u64 b1)], .box [.d (.int .u64 0), .d (.int .u64 (IntKind.wrap .u64 (Int.tdiv a1 b1)))], .box [.d (.int .u64 0), .d (.int .u64 (Int.tmod a1 b1))]]) 3 0 (hi := ty65))) (h := ?_)
    refine aDone (h := ?_)
    exact oRet (r0 := (0, (IntKind.wrap .u64 (Int.tdiv a1 b1)), 0, (Int.tmod a1 b1))) (rv := .tuple [.agg [.d (.int .u64 0), .d (.int .u64 (IntKind.wrap .u64 (Int.tdiv a1 b1)))], .agg [.d (.int .u64 0), .d (.int .u64 (Int.tmod a1 b1))]]) (B := []) (vs := [.agg [.d (.int .u64 0), .d (.int .u64 (IntKind.wrap .u64 (Int.tdiv a1 b1)))], .agg [.d (.int .u64 0), .d (.int .u64 (Int.tmod a1 b1))]]) (σ := []) (hf := Try.func63) (hrs := rfl) (hres := .cons _ _ _ _ (.agg 4 65 2 0 [.d (.int .u64 0), .d (.int .u64 (IntKind.wrap .u64 (Int.tdiv a1 b1)))] [.d (.int .u64 0), .d (.int .u64 (IntKind.wrap .u64 (Int.tdiv a1 b1)))] _ _ _ _ (by kernel_rfl) (by kernel_rfl) Try.underlying65 (by kernel_rfl) ty65 (by kernel_rfl) (by kernel_rfl)) (.cons _ _ _ _ (.agg 5 65 3 0 [.d (.int .u64 0), .d (.int .u64 (Int.tmod a1 b1))] [.d (.int .u64 0), .d (.int .u64 (Int.tmod a1 b1))] _ _ _ _ (by kernel_rfl) (by kernel_rfl) Try.underlying65 (by kernel_rfl) ty65 (by kernel_rfl) (by kernel_rfl)) .nil)) (hnd := by decide)
   ·refine oCondF (h := ?_)
    refine oSkip ?_
    refine oSR rfl ?_
    refine oP (.agg [.d (.int .u64 0), .d (.int .u64 0)]) (p_build bld65) ?_
    refine oP (.agg [.d (.int .u64 0), .d (.int .u64 0)]) (p_build bld65) ?_
    refine oD (.ptr 4 0) (k_alloc (H' := [.box [.d (.int .u64 a0), .d (.int .u64 a1)], .box [.d (.int .u64 b0), .d (.int .u64 b1)], .box [.d (.int .u64 0), .d (.int .u64 0)], .box [.d (.int .u64 0), .d (.int .u64 0)], .box [.d (.int .u64 0), .d (.int .u64 0)]]) ty65) ?_
    refine oD (.ptr 5 0) (k_alloc (H' := [.box [.d (.int .u64 a0), .d (.int .u64 a1)], .box [.d (.int .u64 b0), .d (.int .u64 b1)], .box [.d (.int .u64 0), .d (.int .u64 0)], .box [.d (.int .u64 0), .d (.int .u64 0)], .box [.d (.int .u64 0), .d (.int .u64 0)], .box [.d (.int .u64 0), .d (.int .u64 0)]]) ty65) ?_
    refine oD (.undef) (k_store (vs := [.d (.int .u64 0), .d (.int .u64 0)]) (H' := [.box [.d (.int .u64 a0), .d (.int .u64 a1)], .box [.d (.int .u64 b0), .d (.int .u64 b1)], .box [.d (.int .u64 0), .d (.int .u64 0)], .box [.d (.int .u64 0), .d (.int .u64 0)], .box [.d (.int .u64 0), .d (.int .u64 0)], .box [.d (.int .u64 0), .d (.int .u64 0)]]) 4 0 (hi := ty65)) ?_
    refine oD (.undef) (k_store (vs := [.d (.int .u64 0), .d (.int .u64 0)]) (H' := [.box [.d (.int .u64 a0), .d (.int .u64 a1)], .box [.d (.int .u64 b0), .d (.int .u64 b1)], .box [.d (.int .u64 0), .d (.int .u64 0)], .box [.d (.int .u64 0), .d (.int .u64 0)], .box [.d (.int .u64 0), .d (.int .u64 0)], .box [.d (.int .u64 0), .d (.int .u64 0)]]) 5 0 (hi := ty65)) ?_
    refine oEnd ?_
    refine oSeq ?_
    refine oSR rfl ?_
    refine oP (.d (.int .i64 127)) p_assign ?_
    refine oEnd ?_
    refine bJoin ((uc fun (x46 : Int) => (uc fun (x47 : Int) => (uc fun (x48 : Int) => (fun (x49 : Int) => [(4, .ptr 0 0), (5, .ptr 1 0), (6, .ptr 2 0), (7, .ptr 3 0)]))))) ((uc fun (x46 : Int) => (uc fun (x47 : Int) => (uc fun (x48 : Int) => (fun (x49 : Int) => [.box [.d (.int .u64 0), .d (.int .u64 0)], .box [.d (.int .u64 0), .d (.int .u64 0)], .box [.d (.int .u64 x46), .d (.int .u64 x47)], .box [.d (.int .u64 x48), .d (.int .u64 x49)]]))))) (fun s => s) (fun s => ?_) (fun hj9 => ?_)
    ·obtain ⟨x46, x47, x48, x49⟩ := s
     refine bUc ?_
     refine bUc ?_
     refine bUc ?_
     refine oView (T' := [(4, .ptr 0 0), (5, .ptr 1 0), (6, .ptr 2 0), (7, .ptr 3 0)]) (H' := [.box [.d (.int .u64 0), .d (.int .u64 0)], .box [.d (.int .u64 0), .d (.int .u64 0)], .box [.d (.int .u64 x46), .d (.int .u64 x47)], .box [.d (.int .u64 x48), .d (.int .u64 x49)]]) (h := ?_)
     refine oSeq ?_
     refine oDraw [(0, 2), (1, 3), (2, 4), (3, 4)] rfl ?_
     refine aQ 0 [2] (.agg [.d (.int .u64 x46), .d (.int .u64 x47)]) rfl (k_loadAgg 2 0 (hu := Try.underlying65) (hi := ty65)) ?_
     refine aQ 1 [3] (.agg [.d (.int .u64 x48), .d (.int .u64 x49)]) rfl (k_loadAgg 3 0 (hu := Try.underlying65) (hi := ty65)) ?_
     refine aOne (i := 2) (v := .undef) rfl (hac := Does.acts (k_store (vs := [.d (.int .u64 x46), .d (.int .u64 x47)]) (H' := [.box [.d (.int .u64 x46), .d (.int .u64 x47)], .box [.d (.int .u64 0), .d (.int .u64 0)], .box [.d (.int .u64 x46), .d (.int .u64 x47)], .box [.d (.int .u64 x48), .d (.int .u64 x49)]]) 0 0 (hi := ty65))) (h := ?_)
     refine aOne (i := 3) (v := .undef) rfl (hac := Does.acts (k_store (vs := [.d (.int .u64 x48), .d (.int .u64 x49)]) (H' := [.box [.d (.int .u64 x46), .d (.int .u64 x47)], .box [.d (.int .u64 x48), .d (.int .u64 x49)], .box [.d (.int .u64 x46), .d (.int .u64 x47)], .box [.d (.int .u64 x48), .d (.int .u64 x49)]]) 1 0 (hi := ty65))) (h := ?_)
     refine aDone (h := ?_)
     exact oRet (r0 := (x46, x47, x48, x49)) (rv := .tuple [.agg [.d (.int .u64 x46), .d (.int .u64 x47)], .agg [.d (.int .u64 x48), .d (.int .u64 x49)]]) (B := []) (vs := [.agg [.d (.int .u64 x46), .d (.int .u64 x47)], .agg [.d (.int .u64 x48), .d (.int .u64 x49)]]) (σ := []) (hf := Try.func63) (hrs := rfl) (hres := .cons _ _ _ _ (.agg 4 65 0 0 [.d (.int .u64 x46), .d (.int .u64 x47)] [.d (.int .u64 x46), .d (.int .u64 x47)] _ _ _ _ (by kernel_rfl) (by kernel_rfl) Try.underlying65 (by kernel_rfl) ty65 (by kernel_rfl) (by kernel_rfl)) (.cons _ _ _ _ (.agg 5 65 1 0 [.d (.int .u64 x48), .d (.int .u64 x49)] [.d (.int .u64 x48), .d (.int .u64 x49)] _ _ _ _ (by kernel_rfl) (by kernel_rfl) Try.underlying65 (by kernel_rfl) ty65 (by kernel_rfl) (by kernel_rfl)) .nil)) (hnd := by decide)
    ·refine oBlock ?_
     refine oLoop ?_
     refine oHead [2, 3, 4, 5, 6, 7, 8] [0, 1, 2, 3, 4, 5] (T' := [(2, .ptr 0 0), (3, .ptr 1 0), (4, .ptr 2 0), (5, .ptr 3 0), (6, .ptr 4 0), (7, .ptr 5 0), (8, .d (.int .i64 127))]) (H' := [.box [.d (.int .u64 a0), .d (.int .u64 a1)], .box [.d (.int .u64 b0), .d (.int .u64 b1)], .box [.d (.int .u64 0), .d (.int .u64 0)], .box [.d (.int .u64 0), .d (.int .u64 0)], .box [.d (.int .u64 0), .d (.int .u64 0)], .box [.d (.int .u64 0), .d (.int .u64 0)]]) (hnd := by decide) (h := ?_)
     refine bLoop (body := ref01_Divide_b1 k a0 a1 b0 b1) ((uc fun (i4 : Int) => (uc fun (x56 : Int) => (uc fun (x57 : Int) => (uc fun (x58 : Int) => (fun (x59 : Int) => [(2, .ptr 0 0), (3, .ptr 1 0), (4, .ptr 2 0), (5, .ptr 3 0), (6, .ptr 4 0), (7, .ptr 5 0), (8, .d (.int .i64 i4))])))))) ((uc fun (i4 : Int) => (uc fun (x56 : Int) => (uc fun (x57 : Int) => (uc fun (x58 : Int) => (fun (x59 : Int) => [.box [.d (.int .u64 a0), .d (.int .u64 a1)], .box [.d (.int .u64 b0), .d (.int .u64 b1)], .box [.d (.int .u64 0), .d (.int .u64 0)], .box [.d (.int .u64 0), .d (.int .u64 0)], .box [.d (.int .u64 x56), .d (.int .u64 x57)], .box [.d (.int .u64 x58), .d (.int .u64 x59)]])))))) (fun again hag1 s => ?_) k (127, 0, 0, 0, 0)
     ·unfold ref01_Divide_b1
      obtain ⟨i4, x56, x57, x58, x59⟩ := s
      refine bUc ?_
      refine bUc ?_
      refine bUc ?_
      refine bUc ?_
      refine oView (T' := [(2, .ptr 0 0), (3, .ptr 1 0), (4, .ptr 2 0), (5, .ptr 3 0), (6, .ptr 4 0), (7, .ptr 5 0), (8, .d (.int .i64 i4))]) (H' := [.box [.d (.int .u64 a0), .d (.int .u64 a1)], .box [.d (.int .u64 b0), .d (.int .u64 b1)], .box [.d (.int .u64 0), .d (.int .u64 0)], .box [.d (.int .u64 0), .d (.int .u64 0)], .box [.d (.int .u64 x56), .d (.int .u64 x57)], .box [.d (.int .u64 x58), .d (.int .u64 x59)]]) (h := ?_)
      refine oSeq ?_
      refine oSR rfl ?_
      refine oP (.d (.int .i64 i4)) p_move ?_
      refine oP (.d (.bool (decide (i4 ≥ 0)))) (p_int (k := .i64) (p := i4) (q := 0)) ?_
      refine oEnd ?_
      refine bSplit 34 (h1 := fun hc => ?_) (h2 := fun hc => ?_)
      ·refine oCondT (h := ?_)
       refine oSkip ?_
       refine oSeq ?_
       refine bJoin ((uc fun (x72 : Int) => (uc fun (x73 : Int) => (uc fun (x74 : Int) => (fun (x75 : Int) => [(2, .ptr 0 0), (3, .ptr 1 0), (4, .ptr 2 0), (5, .ptr 3 0), (6, .ptr 4 0), (7, .ptr 5 0), (8, .d (.int .i64 i4))]))))) ((uc fun (x72 : Int) => (uc fun (x73 : Int) => (uc fun (x74 : Int) => (fun (x75 : Int) => [.box [.d (.int .u64 a0), .d (.int .u64 a1)], .box [.d (.int .u64 b0), .d (.int .u64 b1)], .box [.d (.int .u64 0), .d (.int .u64 0)], .box [.d (.int .u64 0), .d (.int .u64 0)], .box [.d (.int .u64 x72), .d (.int .u64 x73)], .box [.d (.int .u64 x74), .d (.int .u64 x75)]]))))) (fun s => s) (fun s => ?_) (fun hj14 => ?_)
       ·obtain ⟨x72, x73, x74, x75⟩ := s
        refine bUc ?_
        refine bUc ?_
        refine bUc ?_
        refine oView (T' := [(2, .ptr 0 0), (3, .ptr 1 0), (4, .ptr 2 0), (5, .ptr 3 0), (6, .ptr 4 0), (7, .ptr 5 0), (8, .d (.int .i64 i4))]) (H' := [.box [.d (.int .u64 a0), .d (.int .u64 a1)], .box [.d (.int .u64 b0), .d (.int .u64 b1)], .box [.d (.int .u64 0), .d (.int .u64 0)], .box [.d (.int .u64 0), .d (.int .u64 0)], .box [.d (.int .u64 x72), .d (.int .u64 x73)], .box [.d (.int .u64 x74), .d (.int .u64 x75)]]) (h := ?_)
        refine oRegion rfl ?_
        refine oP (.d (.int .i64 i4)) p_move ?_
        refine oP (.d (.int .i64 (IntKind.wrap .i64 (i4 - 1)))) (p_int (k := .i64) (p := i4) (q := 1)) ?_
        refine oP (.d (.int .i64 (IntKind.wrap .i64 (i4 - 1)))) p_assign ?_
        refine oEnd ?_
        refine oAgain ?_
        refine oHead [2, 3, 4, 5, 6, 7, 8] [0, 1, 2, 3, 4, 5] (T' := [(2, .ptr 0 0), (3, .ptr 1 0), (4, .ptr 2 0), (5, .ptr 3 0), (6, .ptr 4 0), (7, .ptr 5 0), (8, .d (.int .i64 (IntKind.wrap .i64 (i4 - 1))))]) (H' := [.box [.d (.int .u64 a0), .d (.int .u64 a1)], .box [.d (.int .u64 b0), .d (.int .u64 b1)], .box [.d (.int .u64 0), .d (.int .u64 0)], .box [.d (.int .u64 0), .d (.int .u64 0)], .box [.d (.int .u64 x72), .d (.int .u64 x73)], .box [.d (.int .u64 x74), .d (.int .u64 x75)]]) (hnd := by decide) (h := ?_)
        exact hag1 ((IntKind.wrap .i64 (i4 - 1)), x72, x73, x74, x75)
       ·refine oBlock ?_
        refine oSR rfl ?_
        refine oP (.ptr 0 1) (k_fieldAddr 0 0 (hu := Try.underlying65) (hf := rfl) (hi := ty62)) ?_
        refine oQ (.d (.int .u64 a1)) (k_load 0 1 (hu := Try.underlying62)) ?_
        refine oP (.d (.int .i64 i4)) p_move ?_
        refine oP (.d (.int .i64 (Int.tmod i4 64))) (p_rem (k := .i64) (p := i4) (q := 64) (hq := by decide)) ?_
        refine oP (.d (.int .u64 (IntKind.wrap .u64 (Int.tmod i4 64)))) (p_conv (k := .i64) (p := (Int.tmod i4 64)) (hu1 := Try.underlying3) (hu2 := Try.underlying107)) ?_
        refine bNn (fun h132 => ?_)
        refine oP (.d (.int .u64 (Int.fdiv a1 (2 ^ (min (Int.toNat (IntKind.wrap .u64 (Int.tmod i4 64))) (IntKind.bits .u64)))))) (p_shr (k := .u64) (k2 := .u64) (p := a1) (q := (IntKind.wrap .u64 (Int.tmod i4 64))) (hq := h132)) ?_
        refine oP (.d (.int .u64 (iand .u64 (Int.fdiv a1 (2 ^ (min (Int.toNat (IntKind.wrap .u64 (Int.tmod i4 64))) (IntKind.bits .u64)))) 1))) (p_int (k := .u64) (p := (Int.fdiv a1 (2 ^ (min (Int.toNat (IntKind.wrap .u64 (Int.tmod i4 64))) (IntKind.bits .u64))))) (q := 1)) ?_
        refine oP (.d (.int .u64 (iand .u64 (Int.fdiv a1 (2 ^ (min (Int.toNat (IntKind.wrap .u64 (Int.tmod i4 64))) (IntKind.bits .u64)))) 1))) p_assign ?_
        refine oEnd ?_
        refine oSeq ?_
        refine oSR rfl ?_
        refine oP (.d (.int .i64 i4)) p_move ?_
        refine oP (.d (.bool (decide (i4 ≥ 64)))) (p_int (k := .i64) (p := i4) (q := 64)) ?_
        refine oEnd ?_
        refine bJoin ((fun (bit4 : Int) => [(2, .ptr 0 0), (3, .ptr 1 0), (4, .ptr 2 0), (5, .ptr 3 0), (6, .ptr 4 0), (7, .ptr 5 0), (8, .d (.int .i64 i4)), (9, .d (.int .u64 bit4))])) ((fun (bit4 : Int) => [.box [.d (.int .u64 a0), .d (.int .u64 a1)], .box [.d (.int .u64 b0), .d (.int .u64 b1)], .box [.d (.int .u64 0), .d (.int .u64 0)], .box [.d (.int .u64 0), .d (.int .u64 0)], .box [.d (.int .u64 x56), .d (.int .u64 x57)], .box [.d (.int .u64 x58), .d (.int .u64 x59)]])) (fun s => s) (fun bit4 => ?_) (fun hj15 => ?_)
        ·refine oView (T' := [(2, .ptr 0 0), (3, .ptr 1 0), (4, .ptr 2 0), (5, .ptr 3 0), (6, .ptr 4 0), (7, .ptr 5 0), (8, .d (.int .i64 i4)), (9, .d (.int .u64 bit4))]) (H' := [.box [.d (.int .u64 a0), .d (.int .u64 a1)], .box [.d (.int .u64 b0), .d (.int .u64 b1)], .box [.d (.int .u64 0), .d (.int .u64 0)], .box [.d (.int .u64 0), .d (.int .u64 0)], .box [.d (.int .u64 x56), .d (.int .u64 x57)], .box [.d (.int .u64 x58), .d (.int .u64 x59)]]) (h := ?_)
         refine oSR rfl ?_
         refine oP (.ptr 5 0) (k_fieldAddr 5 0 (hu := Try.underlying65) (hf := rfl) (hi := ty62)) ?_
         refine oQ (.d (.int .u64 x58)) (k_load 5 0 (hu := Try.underlying62)) ?_
         refine oP (.d (.int .u64 (Int.fdiv x58 (2 ^ (min (Int.toNat 63) (IntKind.bits .u64)))))) (p_shr (k := .u64) (k2 := .u64) (p := x58) (q := 63) (hq := by decide)) ?_
         refine oP (.d (.bool ((Int.fdiv x58 (2 ^ (min (Int.toNat 63) (IntKind.bits .u64)))) == 1))) (p_int (k := .u64) (p := (Int.fdiv x58 (2 ^ (min (Int.toNat 63) (IntKind.bits .u64))))) (q := 1)) ?_
         refine oP (.d (.bool ((Int.fdiv x58 (2 ^ (min (Int.toNat 63) (IntKind.bits .u64)))) == 1))) p_assign ?_
         refine oEnd ?_
         refine oSR rfl ?_
         refine oQ (.agg [.d (.int .u64 x58), .d (.int .u64 x59)]) (k_loadAgg 5 0 (hu := Try.underlying65) (hi := ty65)) ?_
         refine bCall (caps := []) (v := (uc fun (r131 : Int) => (fun (r1118 : Int) => (.agg [.d (.int .u64 r131), .d (.int .u64 r1118)] : V)))) (H' := (uc fun (r131 : Int) => (fun (r1118 : Int) => ([.box [.d (.int .u64 a0), .d (.int .u64 a1)], .box [.d (.int .u64 b0), .d (.int .u64 b1)], .box [.d (.int .u64 0), .d (.int .u64 0)], .box [.d (.int .u64 0), .d (.int .u64 0)], .box [.d (.int .u64 x56), .d (.int .u64 x57)], .box [.d (.int .u64 x58), .d (.int .u64 x59)]] : List Blk)))) [] _ (ref01_Twice_goes k x58 x59) (ho := rfl) (hfn := Try.func90) (hb := rfl) (hconv := ConvRs.refl _ _) (hnd := by decide) (hBl := fun _ => (by kernel_rfl)) (hv := fun _ => (by kernel_rfl)) (hH' := fun _ => (by kernel_rfl)) (h := fun r => ?_)
         obtain ⟨r131, r1118⟩ := r
         refine bUc ?_
         refine oD (.undef) (k_store (vs := [.d (.int .u64 r131), .d (.int .u64 r1118)]) (H' := [.box [.d (.int .u64 a0), .d (.int .u64 a1)], .box [.d (.int .u64 b0), .d (.int .u64 b1)], .box [.d (.int .u64 0), .d (.int .u64 0)], .box [.d (.int .u64 0), .d (.int .u64 0)], .box [.d (.int .u64 x56), .d (.int .u64 x57)], .box [.d (.int .u64 r131), .d (.int .u64 r1118)]]) 5 0 (hi := ty65)) ?_
         refine oEnd ?_
         refine oSR rfl ?_
         refine oP (.ptr 5 1) (k_fieldAddr 5 0 (hu := Try.underlying65) (hf := rfl) (hi := ty62)) ?_
         refine oQ (.d (.int .u64 r1118)) (k_load 5 1 (hu := Try.underlying62)) ?_
         refine oP (.d (.int .u64 bit4)) p_move ?_
         refine oP (.d (.int .u64 (ior .u64 r1118 bit4))) (p_int (k := .u64) (p := r1118) (q := bit4)) ?_
         refine oP (.ptr 5 1) (k_fieldAddr 5 0 (hu := Try.underlying65) (hf := rfl) (hi := ty62)) ?_
         refine oD (.undef) (k_store (vs := [.d (.int .u64 (ior .u64 r1118 bit4))]) (H' := [.box [.d (.int .u64 a0), .d (.int .u64 a1)], .box [.d (.int .u64 b0), .d (.int .u64 b1)], .box [.d (.int .u64 0), .d (.int .u64 0)], .box [.d (.int .u64 0), .d (.int .u64 0)], .box [.d (.int .u64 x56), .d (.int .u64 x57)], .box [.d (.int .u64 r131), .d (.int .u64 (ior .u64 r1118 bit4))]]) 5 1 (hi := ty62)) ?_
         refine oEnd ?_
         refine oSR rfl ?_
         refine oQ (.agg [.d (.int .u64 x56), .d (.int .u64 x57)]) (k_loadAgg 4 0 (hu := Try.underlying65) (hi := ty65)) ?_
         refine bCall (caps := []) (v := (uc fun (r132 : Int) => (fun (r1119 : Int) => (.agg [.d (.int .u64 r132), .d (.int .u64 r1119)] : V)))) (H' := (uc fun (r132 : Int) => (fun (r1119 : Int) => ([.box [.d (.int .u64 a0), .d (.int .u64 a1)], .box [.d (.int .u64 b0), .d (.int .u64 b1)], .box [.d (.int .u64 0), .d (.int .u64 0)], .box [.d (.int .u64 0), .d (.int .u64 0)], .box [.d (.int .u64 x56), .d (.int .u64 x57)], .box [.d (.int .u64 r131), .d (.int .u64 (ior .u64 r1118 bit4))]] : List Blk)))) [] _ (ref01_Twice_goes k x56 x57) (ho := rfl) (hfn := Try.func90) (hb := rfl) (hconv := ConvRs.refl _ _) (hnd := by decide) (hBl := fun _ => (by kernel_rfl)) (hv := fun _ => (by kernel_rfl)) (hH' := fun _ => (by kernel_rfl)) (h := fun r => ?_)
         obtain ⟨r132, r1119⟩ := r
         refine bUc ?_
         refine oD (.undef) (k_store (vs := [.d (.int .u64 r132), .d (.int .u64 r1119)]) (H' := [.box [.d (.int .u64 a0), .d (.int .u64 a1)], .box [.d (.int .u64 b0), .d (.int .u64 b1)], .box [.d (.int .u64 0), .d (.int .u64 0)], .box [.d (.int .u64 0), .d (.int .u64 0)], .box [.d (.int .u64 r132), .d (.int .u64 r1119)], .box [.d (.int .u64 r131), .d (.int .u64 (ior .u64 r1118 bit4))]]) 4 0 (hi := ty65)) ?_
         refine oEnd ?_
         refine oSR rfl ?_
         refine oP (.d (.bool ((Int.fdiv x58 (2 ^ (min (Int.toNat 63) (IntKind.bits .u64)))) == 1))) p_move ?_
         refine oP (.d (.bool ((Int.fdiv x58 (2 ^ (min (Int.toNat 63) (IntKind.bits .u64)))) == 1))) p_move ?_
         refine bMeet 5 rfl ((uc fun (x76 : Bool) => (fun (x77 : Int) => [(2, .ptr 0 0), (3, .ptr 1 0), (4, .ptr 2 0), (5, .ptr 3 0), (6, .ptr 4 0), (7, .ptr 5 0), (8, .d (.int .i64 i4)), (72, .d (.bool x76))]))) ((uc fun (x76 : Bool) => (fun (x77 : Int) => [.box [.d (.int .u64 a0), .d (.int .u64 a1)], .box [.d (.int .u64 b0), .d (.int .u64 b1)], .box [.d (.int .u64 0), .d (.int .u64 0)], .box [.d (.int .u64 0), .d (.int .u64 0)], .box [.d (.int .u64 r132), .d (.int .u64 r1119)], .box [.d (.int .u64 r131), .d (.int .u64 x77)]]))) (fun s => s) (fun s => ?_) (fun hj16 => ?_)
         ·obtain ⟨x76, x77⟩ := s
          refine bUc ?_
          refine oView (T' := [(2, .ptr 0 0), (3, .ptr 1 0), (4, .ptr 2 0), (5, .ptr 3 0), (6, .ptr 4 0), (7, .ptr 5 0), (8, .d (.int .i64 i4)), (72, .d (.bool x76))]) (H' := [.box [.d (.int .u64 a0), .d (.int .u64 a1)], .box [.d (.int .u64 b0), .d (.int .u64 b1)], .box [.d (.int .u64 0), .d (.int .u64 0)], .box [.d (.int .u64 0), .d (.int .u64 0)], .box [.d (.int .u64 r132), .d (.int .u64 r1119)], .box [.d (.int .u64 r131), .d (.int .u64 x77)]]) (h := ?_)
          refine oEnd ?_
          refine bSplit 72 (h1 := fun hc => ?_) (h2 := fun hc => ?_)
          ·refine oCondT (h := ?_)
           refine oSR rfl ?_
           refine oQ (.agg [.d (.int .u64 r131), .d (.int .u64 x77)]) (k_loadAgg 5 0 (hu := Try.underlying65) (hi := ty65)) ?_
           refine oQ (.agg [.d (.int .u64 b0), .d (.int .u64 b1)]) (k_loadAgg 1 0 (hu := Try.underlying65) (hi := ty65)) ?_
           refine bCall (caps := []) (v := (u0 ((.agg [.d (.int .u64 ((r131 - b0 - (if x77 < b1 + 0 then 1 else 0)) % 18446744073709551616)), .d (.int .u64 ((x77 - b1 - 0) % 18446744073709551616))] : V)))) (H' := (u0 (([.box [.d (.int .u64 a0), .d (.int .u64 a1)], .box [.d (.int .u64 b0), .d (.int .u64 b1)], .box [.d (.int .u64 0), .d (.int .u64 0)], .box [.d (.int .u64 0), .d (.int .u64 0)], .box [.d (.int .u64 r132), .d (.int .u64 r1119)], .box [.d (.int .u64 r131), .d (.int .u64 x77)]] : List Blk)))) [] _ (ref01_Minus_goes k r131 x77 b0 b1) (ho := rfl) (hfn := Try.func80) (hb := rfl) (hconv := ConvRs.refl _ _) (hnd := by decide) (hBl := fun _ => (by kernel_rfl)) (hv := fun _ => (by kernel_rfl)) (hH' := fun _ => (by kernel_rfl)) (h := fun r => ?_)
           cases r
           refine bU0 ?_
           refine oD (.undef) (k_store (vs := [.d (.int .u64 ((r131 - b0 - (if x77 < b1 + 0 then 1 else 0)) % 18446744073709551616)), .d (.int .u64 ((x77 - b1 - 0) % 18446744073709551616))]) (H' := [.box [.d (.int .u64 a0), .d (.int .u64 a1)], .box [.d (.int .u64 b0), .d (.int .u64 b1)], .box [.d (.int .u64 0), .d (.int .u64 0)], .box [.d (.int .u64 0), .d (.int .u64 0)], .box [.d (.int .u64 r132), .d (.int .u64 r1119)], .box [.d (.int .u64 ((r131 - b0 - (if x77 < b1 + 0 then 1 else 0)) % 18446744073709551616)), .d (.int .u64 ((x77 - b1 - 0) % 18446744073709551616))]]) 5 0 (hi := ty65)) ?_
           refine oEnd ?_
           refine oRegion rfl ?_
           refine oP (.ptr 4 1) (k_fieldAddr 4 0 (hu := Try.underlying65) (hf := rfl) (hi := ty62)) ?_
           refine oQ (.d (.int .u64 r1119)) (k_load 4 1 (hu := Try.underlying62)) ?_
           refine oP (.d (.int .u64 (ior .u64 r1119 1))) (p_int (k := .u64) (p := r1119) (q := 1)) ?_
           refine oP (.ptr 4 1) (k_fieldAddr 4 0 (hu := Try.underlying65) (hf := rfl) (hi := ty62)) ?_
           refine oD (.undef) (k_store (vs := [.d (.int .u64 (ior .u64 r1119 1))]) (H' := [.box [.d (.int .u64 a0), .d (.int .u64 a1)], .box [.d (.int .u64 b0), .d (.int .u64 b1)], .box [.d (.int .u64 0), .d (.int .u64 0)], .box [.d (.int .u64 0), .d (.int .u64 0)], .box [.d (.int .u64 r132), .d (.int .u64 (ior .u64 r1119 1))], .box [.d (.int .u64 ((r131 - b0 - (if x77 < b1 + 0 then 1 else 0)) % 18446744073709551616)), .d (.int .u64 ((x77 - b1 - 0) % 18446744073709551616))]]) 4 1 (hi := ty62)) ?_
           refine oEnd ?_
           refine oBlk ?_
           refine oHead [2, 3, 4, 5, 6, 7, 8] [0, 1, 2, 3, 4, 5] (T' := [(2, .ptr 0 0), (3, .ptr 1 0), (4, .ptr 2 0), (5, .ptr 3 0), (6, .ptr 4 0), (7, .ptr 5 0), (8, .d (.int .i64 i4))]) (H' := [.box [.d (.int .u64 a0), .d (.int .u64 a1)], .box [.d (.int .u64 b0), .d (.int .u64 b1)], .box [.d (.int .u64 0), .d (.int .u64 0)], .box [.d (.int .u64 0), .d (.int .u64 0)], .box [.d (.int .u64 r132), .d (.int .u64 (ior .u64 r1119 1))], .box [.d (.int .u64 ((r131 - b0 - (if x77 < b1 + 0 then 1 else 0)) % 18446744073709551616)), .d (.int .u64 ((x77 - b1 - 0) % 18446744073709551616))]]) (hnd := by decide) (h := ?_)
           exact hj14 (r132, (ior .u64 r1119 1), ((r131 - b0 - (if x77 < b1 + 0 then 1 else 0)) % 18446744073709551616), ((x77 - b1 - 0) % 18446744073709551616))
          ·refine oCondF (h := ?_)
           refine oSkip ?_
           refine oBlk ?_
           refine oHead [2, 3, 4, 5, 6, 7, 8] [0, 1, 2, 3, 4, 5] (T' := [(2, .ptr 0 0), (3, .ptr 1 0), (4, .ptr 2 0), (5, .ptr 3 0), (6, .ptr 4 0), (7, .ptr 5 0), (8, .d (.int .i64 i4))]) (H' := [.box [.d (.int .u64 a0), .d (.int .u64 a1)], .box [.d (.int .u64 b0), .d (.int .u64 b1)], .box [.d (.int .u64 0), .d (.int .u64 0)], .box [.d (.int .u64 0), .d (.int .u64 0)], .box [.d (.int .u64 r132), .d (.int .u64 r1119)], .box [.d (.int .u64 r131), .d (.int .u64 x77)]]) (hnd := by decide) (h := ?_)
           exact hj14 (r132, r1119, r131, x77)
         ·refine bSplit 67 (h1 := fun hc => ?_) (h2 := fun hc => ?_)
          ·refine oNot (h := ?_)
           refine oNot (h := ?_)
           refine oNot (h := ?_)
           refine oNot (h := ?_)
           refine oP (.d (.bool true)) (p_pick (b := true)) ?_
           refine oHead [2, 3, 4, 5, 6, 7, 8, 72] [0, 1, 2, 3, 4, 5] (T' := [(2, .ptr 0 0), (3, .ptr 1 0), (4, .ptr 2 0), (5, .ptr 3 0), (6, .ptr 4 0), (7, .ptr 5 0), (8, .d (.int .i64 i4)), (72, .d (.bool true))]) (H' := [.box [.d (.int .u64 a0), .d (.int .u64 a1)], .box [.d (.int .u64 b0), .d (.int .u64 b1)], .box [.d (.int .u64 0), .d (.int .u64 0)], .box [.d (.int .u64 0), .d (.int .u64 0)], .box [.d (.int .u64 r132), .d (.int .u64 r1119)], .box [.d (.int .u64 r131), .d (.int .u64 (ior .u64 r1118 bit4))]]) (hnd := by decide) (h := ?_)
           exact hj16 (true, (ior .u64 r1118 bit4))
          ·refine oQ (.agg [.d (.int .u64 r131), .d (.int .u64 (ior .u64 r1118 bit4))]) (k_loadAgg 5 0 (hu := Try.underlying65) (hi := ty65)) ?_
           refine oQ (.agg [.d (.int .u64 b0), .d (.int .u64 b1)]) (k_loadAgg 1 0 (hu := Try.underlying65) (hi := ty65)) ?_
           refine bCall (caps := []) (v := (fun (r134 : Int) => (.d (.int .i64 r134) : V))) (H' := (fun (r134 : Int) => ([.box [.d (.int .u64 a0), .d (.int .u64 a1)], .box [.d (.int .u64 b0), .d (.int .u64 b1)], .box [.d (.int .u64 0), .d (.int .u64 0)], .box [.d (.int .u64 0), .d (.int .u64 0)], .box [.d (.int .u64 r132), .d (.int .u64 r1119)], .box [.d (.int .u64 r131), .d (.int .u64 (ior .u64 r1118 bit4))]] : List Blk))) [] _ (ref01_Order_goes k r131 (ior .u64 r1118 bit4) b0 b1) (ho := rfl) (hfn := Try.func79) (hb := rfl) (hconv := ConvRs.refl _ _) (hnd := by decide) (hBl := fun _ => (by kernel_rfl)) (hv := fun _ => (by kernel_rfl)) (hH' := fun _ => (by kernel_rfl)) (h := fun r134 => ?_)
           refine oP (.d (.bool (decide (r134 ≥ 0)))) (p_int (k := .i64) (p := r134) (q := 0)) ?_
           refine oP (.d (.bool (decide (r134 ≥ 0)))) (p_pick (b := false)) ?_
           refine oHead [2, 3, 4, 5, 6, 7, 8, 72] [0, 1, 2, 3, 4, 5] (T' := [(2, .ptr 0 0), (3, .ptr 1 0), (4, .ptr 2 0), (5, .ptr 3 0), (6, .ptr 4 0), (7, .ptr 5 0), (8, .d (.int .i64 i4)), (72, .d (.bool (decide (r134 ≥ 0))))]) (H' := [.box [.d (.int .u64 a0), .d (.int .u64 a1)], .box [.d (.int .u64 b0), .d (.int .u64 b1)], .box [.d (.int .u64 0), .d (.int .u64 0)], .box [.d (.int .u64 0), .d (.int .u64 0)], .box [.d (.int .u64 r132), .d (.int .u64 r1119)], .box [.d (.int .u64 r131), .d (.int .u64 (ior .u64 r1118 bit4))]]) (hnd := by decide) (h := ?_)
           exact hj16 ((decide (r134 ≥ 0)), (ior .u64 r1118 bit4))
        ·refine bSplit 45 (h1 := fun hc => ?_) (h2 := fun hc => ?_)
         ·refine oCondT (h := ?_)
          refine oRegion rfl ?_
          refine oP (.ptr 0 0) (k_fieldAddr 0 0 (hu := Try.underlying65) (hf := rfl) (hi := ty62)) ?_
          refine oQ (.d (.int .u64 a0)) (k_load 0 0 (hu := Try.underlying62)) ?_
          refine oP (.d (.int .i64 i4)) p_move ?_
          refine oP (.d (.int .i64 (IntKind.wrap .i64 (i4 - 64)))) (p_int (k := .i64) (p := i4) (q := 64)) ?_
          refine oP (.d (.int .u64 (IntKind.wrap .u64 (IntKind.wrap .i64 (i4 - 64))))) (p_conv (k := .i64) (p := (IntKind.wrap .i64 (i4 - 64))) (hu1 := Try.underlying3) (hu2 := Try.underlying107)) ?_
          refine bNn (fun h134 => ?_)
          refine oP (.d (.int .u64 (Int.fdiv a0 (2 ^ (min (Int.toNat (IntKind.wrap .u64 (IntKind.wrap .i64 (i4 - 64)))) (IntKind.bits .u64)))))) (p_shr (k := .u64) (k2 := .u64) (p := a0) (q := (IntKind.wrap .u64 (IntKind.wrap .i64 (i4 - 64)))) (hq := h134)) ?_
          refine oP (.d (.int .u64 (iand .u64 (Int.fdiv a0 (2 ^ (min (Int.toNat (IntKind.wrap .u64 (IntKind.wrap .i64 (i4 - 64)))) (IntKind.bits .u64)))) 1))) (p_int (k := .u64) (p := (Int.fdiv a0 (2 ^ (min (Int.toNat (IntKind.wrap .u64 (IntKind.wrap .i64 (i4 - 64)))) (IntKind.bits .u64))))) (q := 1)) ?_
          refine oP (.d (.int .u64 (iand .u64 (Int.fdiv a0 (2 ^ (min (Int.toNat (IntKind.wrap .u64 (IntKind.wrap .i64 (i4 - 64)))) (IntKind.bits .u64)))) 1))) p_assign ?_
          refine oEnd ?_
          refine oHead [2, 3, 4, 5, 6, 7, 8, 9] [0, 1, 2, 3, 4, 5] (T' := [(2, .ptr 0 0), (3, .ptr 1 0), (4, .ptr 2 0), (5, .ptr 3 0), (6, .ptr 4 0), (7, .ptr 5 0), (8, .d (.int .i64 i4)), (9, .d (.int .u64 (iand .u64 (Int.fdiv a0 (2 ^ (min (Int.toNat (IntKind.wrap .u64 (IntKind.wrap .i64 (i4 - 64)))) (IntKind.bits .u64)))) 1)))]) (H' := [.box [.d (.int .u64 a0), .d (.int .u64 a1)], .box [.d (.int .u64 b0), .d (.int .u64 b1)], .box [.d (.int .u64 0), .d (.int .u64 0)], .box [.d (.int .u64 0), .d (.int .u64 0)], .box [.d (.int .u64 x56), .d (.int .u64 x57)], .box [.d (.int .u64 x58), .d (.int .u64 x59)]]) (hnd := by decide) (h := ?_)
          exact hj15 (iand .u64 (Int.fdiv a0 (2 ^ (min (Int.toNat (IntKind.wrap .u64 (IntKind.wrap .i64 (i4 - 64)))) (IntKind.bits .u64)))) 1)
         ·refine oCondF (h := ?_)
          refine oSkip ?_
          refine oHead [2, 3, 4, 5, 6, 7, 8, 9] [0, 1, 2, 3, 4, 5] (T' := [(2, .ptr 0 0), (3, .ptr 1 0), (4, .ptr 2 0), (5, .ptr 3 0), (6, .ptr 4 0), (7, .ptr 5 0), (8, .d (.int .i64 i4)), (9, .d (.int .u64 (iand .u64 (Int.fdiv a1 (2 ^ (min (Int.toNat (IntKind.wrap .u64 (Int.tmod i4 64))) (IntKind.bits .u64)))) 1)))]) (H' := [.box [.d (.int .u64 a0), .d (.int .u64 a1)], .box [.d (.int .u64 b0), .d (.int .u64 b1)], .box [.d (.int .u64 0), .d (.int .u64 0)], .box [.d (.int .u64 0), .d (.int .u64 0)], .box [.d (.int .u64 x56), .d (.int .u64 x57)], .box [.d (.int .u64 x58), .d (.int .u64 x59)]]) (hnd := by decide) (h := ?_)
          exact hj15 (iand .u64 (Int.fdiv a1 (2 ^ (min (Int.toNat (IntKind.wrap .u64 (Int.tmod i4 64))) (IntKind.bits .u64)))) 1)
      ·refine oCondF (h := ?_)
       refine oExit rfl ?_
       refine oHead [4, 5, 6, 7] [2, 3, 4, 5] (T' := [(4, .ptr 0 0), (5, .ptr 1 0), (6, .ptr 2 0), (7, .ptr 3 0)]) (H' := [.box [.d (.int .u64 0), .d (.int .u64 0)], .box [.d (.int .u64 0), .d (.int .u64 0)], .box [.d (.int .u64 x56), .d (.int .u64 x57)], .box [.d (.int .u64 x58), .d (.int .u64 x59)]]) (hnd := by decide) (h := ?_)
       exact hj9 (x56, x57, x58, x59)
  ·refine bPickF 14 (fun c => F (c && (b0 == 0))) (h1 := fun hc => ?_) (h2 := fun hc => ?_)
   ·refine oP (.ptr 1 0) (k_fieldAddr 1 0 (hu := Try.underlying65) (hf := rfl) (hi := ty62)) ?_
    refine oQ (.d (.int .u64 b0)) (k_load 1 0 (hu := Try.underlying62)) ?_
    refine oP (.d (.bool (b0 == 0))) (p_int (k := .u64) (p := b0) (q := 0)) ?_
    refine oP (.d (.bool (b0 == 0))) (p_pick (b := true)) ?_
    refine oHead [2, 3, 4, 5, 18] [0, 1, 2, 3] (T' := [(2, .ptr 0 0), (3, .ptr 1 0), (4, .ptr 2 0), (5, .ptr 3 0), (18, .d (.bool (b0 == 0)))]) (H' := [.box [.d (.int .u64 a0), .d (.int .u64 a1)], .box [.d (.int .u64 b0), .d (.int .u64 b1)], .box [.d (.int .u64 0), .d (.int .u64 0)], .box [.d (.int .u64 0), .d (.int .u64 0)]]) (hnd := by decide) (h := ?_)
    exact hj5 (b0 == 0)
   ·refine oNot (h := ?_)
    refine oNot (h := ?_)
    refine oNot (h := ?_)
    refine oP (.d (.bool false)) (p_pick (b := false)) ?_
    refine oHead [2, 3, 4, 5, 18] [0, 1, 2, 3] (T' := [(2, .ptr 0 0), (3, .ptr 1 0), (4, .ptr 2 0), (5, .ptr 3 0), (18, .d (.bool false))]) (H' := [.box [.d (.int .u64 a0), .d (.int .u64 a1)], .box [.d (.int .u64 b0), .d (.int .u64 b1)], .box [.d (.int .u64 0), .d (.int .u64 0)], .box [.d (.int .u64 0), .d (.int .u64 0)]]) (hnd := by decide) (h := ?_)
    exact hj5 false

/-- awardingbody/awardingbodyref01.Divisor -/
def ref01_Divisor_b1 (k : Nat) (again : Int × Int × Int × Int → Option (Int × Int)) : Int × Int × Int × Int → Option (Int × Int) := uc fun x20 => uc fun x21 => uc fun x22 => fun x23 => bif (!((x22 == 0) && ((x23 == 0) && true))) then Option.bind (ref01_Divide k x20 x21 x22 x23) (uc fun r176 => uc fun r186 => uc fun r196 => fun r1106 => again (x22, x23, r196, r1106)) else some (x20, x21)
def ref01_Divisor (k : Nat) (a0 : Int) (a1 : Int) (b0 : Int) (b1 : Int) : Option (Int × Int) := Option.bind (gloop (ref01_Divisor_b1 k) k (a0, a1, b0, b1) : Option (Int × Int)) (uc fun x18 => fun x19 => some (x18, x19))
def ref01_Divisor_E (a0 : Int) (a1 : Int) (b0 : Int) (b1 : Int) : Int × Int → V × List Blk := uc fun r1 => fun r11 => (.agg [.d (.int .u64 r1), .d (.int .u64 r11)], [])
theorem ref01_Divisor_goes (k : Nat) (a0 : Int) (a1 : Int) (b0 : Int) (b1 : Int) : RunsO Try.prog 62 [.agg [.d (.int .u64 a0), .d (.int .u64 a1)], .agg [.d (.int .u64 b0), .d (.int .u64 b1)]] [] (ref01_Divisor_E a0 a1 b0 b1) (ref01_Divisor k a0 a1 b0 b1) := by
  refine RunsO.of_goes (N := 19) (m := 0) (T := [(0, .agg [.d (.int .u64 a0), .d (.int .u64 a1)]), (1, .agg [.d (.int .u64 b0), .d (.int .u64 b1)])]) Try.func62 rfl rfl (h := ?_)
  unfold ref01_Divisor
  refine bStart ?_
  refine oSR rfl ?_
  refine oD (.ptr 0 0) (k_box (H' := [.box [.d (.int .u64 a0), .d (.int .u64 a1)]]) (cells := [.d (.int .u64 a0), .d (.int .u64 a1)])) ?_
  refine oD (.ptr 1 0) (k_box (H' := [.box [.d (.int .u64 a0), .d (.int .u64 a1)], .box [.d (.int .u64 b0), .d (.int .u64 b1)]]) (cells := [.d (.int .u64 b0), .d (.int .u64 b1)])) ?_
  refine oD (.ptr 2 0) (k_alloc (H' := [.box [.d (.int .u64 a0), .d (.int .u64 a1)], .box [.d (.int .u64 b0), .d (.int .u64 b1)], .box [.d (.int .u64 0), .d (.int .u64 0)]]) ty65) ?_
  refine oEnd ?_
  refine oSeq ?_
  refine bJoin ((uc fun (x18 : Int) => (fun (x19 : Int) => [(2, .ptr 0 0), (4, .ptr 1 0)]))) ((uc fun (x18 : Int) => (fun (x19 : Int) => [.box [.d (.int .u64 x18), .d (.int .u64 x19)], .box [.d (.int .u64 0), .d (.int .u64 0)]]))) (fun s => s) (fun s => ?_) (fun hj2 => ?_)
  ·obtain ⟨x18, x19⟩ := s
   refine bUc ?_
   refine oView (T' := [(2, .ptr 0 0), (4, .ptr 1 0)]) (H' := [.box [.d (.int .u64 x18), .d (.int .u64 x19)], .box [.d (.int .u64 0), .d (.int .u64 0)]]) (h := ?_)
   refine oSR rfl ?_
   refine oQ (.agg [.d (.int .u64 x18), .d (.int .u64 x19)]) (k_loadAgg 0 0 (hu := Try.underlying65) (hi := ty65)) ?_
   refine oD (.undef) (k_store (vs := [.d (.int .u64 x18), .d (.int .u64 x19)]) (H' := [.box [.d (.int .u64 x18), .d (.int .u64 x19)], .box [.d (.int .u64 x18), .d (.int .u64 x19)]]) 1 0 (hi := ty65)) ?_
   refine oEnd ?_
   exact oRet (r0 := (x18, x19)) (rv := .agg [.d (.int .u64 x18), .d (.int .u64 x19)]) (B := []) (vs := [.agg [.d (.int .u64 x18), .d (.int .u64 x19)]]) (σ := []) (hf := Try.func62) (hrs := rfl) (hres := .cons _ _ _ _ (.agg 4 65 1 0 [.d (.int .u64 x18), .d (.int .u64 x19)] [.d (.int .u64 x18), .d (.int .u64 x19)] _ _ _ _ (by kernel_rfl) (by kernel_rfl) Try.underlying65 (by kernel_rfl) ty65 (by kernel_rfl) (by kernel_rfl)) .nil) (hnd := by decide)
  ·refine oBlock ?_
   refine oLoop ?_
   refine oHead [2, 3, 4] [0, 1, 2] (T' := [(2, .ptr 0 0), (3, .ptr 1 0), (4, .ptr 2 0)]) (H' := [.box [.d (.int .u64 a0), .d (.int .u64 a1)], .box [.d (.int .u64 b0), .d (.int .u64 b1)], .box [.d (.int .u64 0), .d (.int .u64 0)]]) (hnd := by decide) (h := ?_)
   refine bLoop (body := ref01_Divisor_b1 k) ((uc fun (x20 : Int) => (uc fun (x21 : Int) => (uc fun (x22 : Int) => (fun (x23 : Int) => [(2, .ptr 0 0), (3, .ptr 1 0), (4, .ptr 2 0)]))))) ((uc fun (x20 : Int) => (uc fun (x21 : Int) => (uc fun (x22 : Int) => (fun (x23 : Int) => [.box [.d (.int .u64 x20), .d (.int .u64 x21)], .box [.d (.int .u64 x22), .d (.int .u64 x23)], .box [.d (.int .u64 0), .d (.int .u64 0)]]))))) (fun again hag1 s => ?_) k (a0, a1, b0, b1)
   ·unfold ref01_Divisor_b1
    obtain ⟨x20, x21, x22, x23⟩ := s
    refine bUc ?_
    refine bUc ?_
    refine bUc ?_
    refine oView (T' := [(2, .ptr 0 0), (3, .ptr 1 0), (4, .ptr 2 0)]) (H' := [.box [.d (.int .u64 x20), .d (.int .u64 x21)], .box [.d (.int .u64 x22), .d (.int .u64 x23)], .box [.d (.int .u64 0), .d (.int .u64 0)]]) (h := ?_)
    refine oSeq ?_
    refine oSR rfl ?_
    refine oQ (.agg [.d (.int .u64 x22), .d (.int .u64 x23)]) (k_loadAgg 1 0 (hu := Try.underlying65) (hi := ty65)) ?_
    refine oP (.agg [.d (.int .u64 0), .d (.int .u64 0)]) (p_build bld65) ?_
    refine oP (.d (.bool (!((x22 == 0) && ((x23 == 0) && true))))) (k_neAgg (hg := Try.eqGuardType65) (h := EqV.struct 1 65 [.d (.int .u64 x22), .d (.int .u64 x23)] [.d (.int .u64 0), .d (.int .u64 0)] _ ((x22 == 0) && ((x23 == 0) && true)) Try.underlying65 Try.stoodInHeld65 (EqF.one 1 1 _ _ _ _ _ _ _ (x22 == 0) ((x23 == 0) && true) (by kernel_rfl) Try.underlying62 (by kernel_rfl) (by kernel_rfl) (by kernel_rfl) (by kernel_rfl) (EqV.int 62 .u64 .u64 x22 0 Try.underlying62) (EqF.one 1 1 _ _ _ _ _ _ _ (x23 == 0) true (by kernel_rfl) Try.underlying62 (by kernel_rfl) (by kernel_rfl) (by kernel_rfl) (by kernel_rfl) (EqV.int 62 .u64 .u64 x23 0 Try.underlying62) (EqF.nil 1 _ _))))) ?_
    refine oEnd ?_
    refine bSplit 9 (h1 := fun hc => ?_) (h2 := fun hc => ?_)
    ·refine oCondT (h := ?_)
     refine oSkip ?_
     refine oBlock ?_
     refine oSR rfl ?_
     refine oQ (.agg [.d (.int .u64 x20), .d (.int .u64 x21)]) (k_loadAgg 0 0 (hu := Try.underlying65) (hi := ty65)) ?_
     refine oQ (.agg [.d (.int .u64 x22), .d (.int .u64 x23)]) (k_loadAgg 1 0 (hu := Try.underlying65) (hi := ty65)) ?_
     refine bCall (caps := []) (v := (uc fun (r176 : Int) => (uc fun (r186 : Int) => (uc fun (r196 : Int) => (fun (r1106 : Int) => (.tuple [.agg [.d (.int .u64 r176), .d (.int .u64 r186)], .agg [.d (.int .u64 r196), .d (.int .u64 r1106)]] : V)))))) (H' := (uc fun (r176 : Int) => (uc fun (r186 : Int) => (uc fun (r196 : Int) => (fun (r1106 : Int) => ([.box [.d (.int .u64 x20), .d (.int .u64 x21)], .box [.d (.int .u64 x22), .d (.int .u64 x23)], .box [.d (.int .u64 0), .d (.int .u64 0)]] : List Blk)))))) [] _ (ref01_Divide_goes k x20 x21 x22 x23) (ho := rfl) (hfn := Try.func63) (hb := rfl) (hconv := ConvRs.refl _ _) (hnd := by decide) (hBl := fun _ => (by kernel_rfl)) (hv := fun _ => (by kernel_rfl)) (hH' := fun _ => (by kernel_rfl)) (h := fun r => ?_)
     obtain ⟨r176, r186, r196, r1106⟩ := r
     refine bUc ?_
     refine bUc ?_
     refine bUc ?_
     refine oP (.tuple [.agg [.d (.int .u64 r176), .d (.int .u64 r186)], .agg [.d (.int .u64 r196), .d (.int .u64 r1106)]]) p_move ?_
     refine oP (.agg [.d (.int .u64 r176), .d (.int .u64 r186)]) k_extract ?_
     refine oP (.agg [.d (.int .u64 r196), .d (.int .u64 r1106)]) k_extract ?_
     refine oD (.ptr 3 0) (k_alloc (H' := [.box [.d (.int .u64 x20), .d (.int .u64 x21)], .box [.d (.int .u64 x22), .d (.int .u64 x23)], .box [.d (.int .u64 0), .d (.int .u64 0)], .box [.d (.int .u64 0), .d (.int .u64 0)]]) ty65) ?_
     refine oD (.ptr 4 0) (k_alloc (H' := [.box [.d (.int .u64 x20), .d (.int .u64 x21)], .box [.d (.int .u64 x22), .d (.int .u64 x23)], .box [.d (.int .u64 0), .d (.int .u64 0)], .box [.d (.int .u64 0), .d (.int .u64 0)], .box [.d (.int .u64 0), .d (.int .u64 0)]]) ty65) ?_
     refine oD (.undef) (k_store (vs := [.d (.int .u64 r176), .d (.int .u64 r186)]) (H' := [.box [.d (.int .u64 x20), .d (.int .u64 x21)], .box [.d (.int .u64 x22), .d (.int .u64 x23)], .box [.d (.int .u64 0), .d (.int .u64 0)], .box [.d (.int .u64 r176), .d (.int .u64 r186)], .box [.d (.int .u64 0), .d (.int .u64 0)]]) 3 0 (hi := ty65)) ?_
     refine oD (.undef) (k_store (vs := [.d (.int .u64 r196), .d (.int .u64 r1106)]) (H' := [.box [.d (.int .u64 x20), .d (.int .u64 x21)], .box [.d (.int .u64 x22), .d (.int .u64 x23)], .box [.d (.int .u64 0), .d (.int .u64 0)], .box [.d (.int .u64 r176), .d (.int .u64 r186)], .box [.d (.int .u64 r196), .d (.int .u64 r1106)]]) 4 0 (hi := ty65)) ?_
     refine oEnd ?_
     refine oDraw [(0, 2), (1, 3), (2, 4), (3, 4), (4, 4)] rfl ?_
     refine aQ 0 [1] (.agg [.d (.int .u64 x22), .d (.int .u64 x23)]) rfl (k_loadAgg 1 0 (hu := Try.underlying65) (hi := ty65)) ?_
     refine aQ 1 [4] (.agg [.d (.int .u64 r196), .d (.int .u64 r1106)]) rfl (k_loadAgg 4 0 (hu := Try.underlying65) (hi := ty65)) ?_
     refine aOne (i := 2) (v := .undef) rfl (hac := Does.acts (k_store (vs := [.d (.int .u64 x22), .d (.int .u64 x23)]) (H' := [.box [.d (.int .u64 x22), .d (.int .u64 x23)], .box [.d (.int .u64 x22), .d (.int .u64 x23)], .box [.d (.int .u64 0), .d (.int .u64 0)], .box [.d (.int .u64 r176), .d (.int .u64 r186)], .box [.d (.int .u64 r196), .d (.int .u64 r1106)]]) 0 0 (hi := ty65))) (h := ?_)
     refine aOne (i := 3) (v := .undef) rfl (hac := Does.acts (k_store (vs := [.d (.int .u64 r196), .d (.int .u64 r1106)]) (H' := [.box [.d (.int .u64 x22), .d (.int .u64 x23)], .box [.d (.int .u64 r196), .d (.int .u64 r1106)], .box [.d (.int .u64 0), .d (.int .u64 0)], .box [.d (.int .u64 r176), .d (.int .u64 r186)], .box [.d (.int .u64 r196), .d (.int .u64 r1106)]]) 1 0 (hi := ty65))) (h := ?_)
     refine aDone (h := ?_)
     refine oBlk ?_
     refine oAgain ?_
     refine oHead [2, 3, 4] [0, 1, 2] (T' := [(2, .ptr 0 0), (3, .ptr 1 0), (4, .ptr 2 0)]) (H' := [.box [.d (.int .u64 x22), .d (.int .u64 x23)], .box [.d (.int .u64 r196), .d (.int .u64 r1106)], .box [.d (.int .u64 0), .d (.int .u64 0)]]) (hnd := by decide) (h := ?_)
     exact hag1 (x22, x23, r196, r1106)
    ·refine oCondF (h := ?_)
     refine oExit rfl ?_
     refine oHead [2, 4] [0, 2] (T' := [(2, .ptr 0 0), (4, .ptr 1 0)]) (H' := [.box [.d (.int .u64 x20), .d (.int .u64 x21)], .box [.d (.int .u64 0), .d (.int .u64 0)]]) (hnd := by decide) (h := ?_)
     exact hj2 (x20, x21)

/-- awardingbody/awardingbodyref01.Reduce -/
def ref01_Reduce (k : Nat) (negative : Bool) (num0 : Int) (num1 : Int) (den0 : Int) (den1 : Int) : Option (Int × Int × Int) := Option.bind (ref01_Divisor k num0 num1 den0 den1) (uc fun r15 => fun r111 => Option.bind (ref01_Divide k num0 num1 r15 r111) (uc fun r172 => uc fun r182 => uc fun r192 => fun r1102 => Option.bind (ref01_Divide k den0 den1 r15 r111) (uc fun r173 => uc fun r183 => uc fun r193 => fun r1103 => blet ((decide (r172 > 0)) || (decide (r173 > 0))) fun x5 => blet (x5 || (decide (r182 > 1152921504606846976))) fun x6 => blet (x6 || (decide (r183 > 1152921504606846976))) fun x7 => bif x7 then some (0, 0, 6) else Option.bind (bif negative then some ((IntKind.wrap .i64 (0 - (IntKind.wrap .i64 r182))), (IntKind.wrap .i64 r183)) else some ((IntKind.wrap .i64 r182), (IntKind.wrap .i64 r183)) : Option (Int × Int)) (uc fun x8 => fun x9 => some (x8, x9, 0)))))
def ref01_Reduce_E (negative : Bool) (num0 : Int) (num1 : Int) (den0 : Int) (den1 : Int) : Int × Int × Int → V × List Blk := uc fun r12 => uc fun r13 => fun r14 => (.tuple [.agg [.d (.int .i64 r12), .d (.int .i64 r13)], .d (.int .i64 r14)], [])
theorem ref01_Reduce_goes (k : Nat) (negative : Bool) (num0 : Int) (num1 : Int) (den0 : Int) (den1 : Int) : RunsO Try.prog 36 [.d (.bool negative), .agg [.d (.int .u64 num0), .d (.int .u64 num1)], .agg [.d (.int .u64 den0), .d (.int .u64 den1)]] [] (ref01_Reduce_E negative num0 num1 den0 den1) (ref01_Reduce k negative num0 num1 den0 den1) := by
  refine RunsO.of_goes (N := 61) (m := 0) (T := [(0, .d (.bool negative)), (1, .agg [.d (.int .u64 num0), .d (.int .u64 num1)]), (2, .agg [.d (.int .u64 den0), .d (.int .u64 den1)])]) Try.func36 rfl rfl (h := ?_)
  unfold ref01_Reduce
  refine bStart ?_
  refine oSR rfl ?_
  refine oD (.ptr 0 0) (k_box (H' := [.box [.d (.int .u64 num0), .d (.int .u64 num1)]]) (cells := [.d (.int .u64 num0), .d (.int .u64 num1)])) ?_
  refine oD (.ptr 1 0) (k_box (H' := [.box [.d (.int .u64 num0), .d (.int .u64 num1)], .box [.d (.int .u64 den0), .d (.int .u64 den1)]]) (cells := [.d (.int .u64 den0), .d (.int .u64 den1)])) ?_
  refine oD (.ptr 2 0) (k_alloc (H' := [.box [.d (.int .u64 num0), .d (.int .u64 num1)], .box [.d (.int .u64 den0), .d (.int .u64 den1)], .box [.d (.int .i64 0), .d (.int .i64 0)]]) ty38) ?_
  refine oP (.d (.int .i64 0)) p_assign ?_
  refine oEnd ?_
  refine oSR rfl ?_
  refine oQ (.agg [.d (.int .u64 num0), .d (.int .u64 num1)]) (k_loadAgg 0 0 (hu := Try.underlying65) (hi := ty65)) ?_
  refine oQ (.agg [.d (.int .u64 den0), .d (.int .u64 den1)]) (k_loadAgg 1 0 (hu := Try.underlying65) (hi := ty65)) ?_
  refine bCall (caps := []) (v := (uc fun (r15 : Int) => (fun (r111 : Int) => (.agg [.d (.int .u64 r15), .d (.int .u64 r111)] : V)))) (H' := (uc fun (r15 : Int) => (fun (r111 : Int) => ([.box [.d (.int .u64 num0), .d (.int .u64 num1)], .box [.d (.int .u64 den0), .d (.int .u64 den1)], .box [.d (.int .i64 0), .d (.int .i64 0)]] : List Blk)))) [] _ (ref01_Divisor_goes k num0 num1 den0 den1) (ho := rfl) (hfn := Try.func62) (hb := rfl) (hconv := ConvRs.refl _ _) (hnd := by decide) (hBl := fun _ => (by kernel_rfl)) (hv := fun _ => (by kernel_rfl)) (hH' := fun _ => (by kernel_rfl)) (h := fun r => ?_)
  obtain ⟨r15, r111⟩ := r
  refine bUc ?_
  refine oD (.ptr 3 0) (k_alloc (H' := [.box [.d (.int .u64 num0), .d (.int .u64 num1)], .box [.d (.int .u64 den0), .d (.int .u64 den1)], .box [.d (.int .i64 0), .d (.int .i64 0)], .box [.d (.int .u64 0), .d (.int .u64 0)]]) ty65) ?_
  refine oD (.undef) (k_store (vs := [.d (.int .u64 r15), .d (.int .u64 r111)]) (H' := [.box [.d (.int .u64 num0), .d (.int .u64 num1)], .box [.d (.int .u64 den0), .d (.int .u64 den1)], .box [.d (.int .i64 0), .d (.int .i64 0)], .box [.d (.int .u64 r15), .d (.int .u64 r111)]]) 3 0 (hi := ty65)) ?_
  refine oEnd ?_
  refine oSR rfl ?_
  refine oQ (.agg [.d (.int .u64 num0), .d (.int .u64 num1)]) (k_loadAgg 0 0 (hu := Try.underlying65) (hi := ty65)) ?_
  refine oQ (.agg [.d (.int .u64 r15), .d (.int .u64 r111)]) (k_loadAgg 3 0 (hu := Try.underlying65) (hi := ty65)) ?_
  refine bCall (caps := []) (v := (uc fun (r172 : Int) => (uc fun (r182 : Int) => (uc fun (r192 : Int) => (fun (r1102 : Int) => (.tuple [.agg [.d (.int .u64 r172), .d (.int .u64 r182)], .agg [.d (.int .u64 r192), .d (.int .u64 r1102)]] : V)))))) (H' := (uc fun (r172 : Int) => (uc fun (r182 : Int) => (uc fun (r192 : Int) => (fun (r1102 : Int) => ([.box [.d (.int .u64 num0), .d (.int .u64 num1)], .box [.d (.int .u64 den0), .d (.int .u64 den1)], .box [.d (.int .i64 0), .d (.int .i64 0)], .box [.d (.int .u64 r15), .d (.int .u64 r111)]] : List Blk)))))) [] _ (ref01_Divide_goes k num0 num1 r15 r111) (ho := rfl) (hfn := Try.func63) (hb := rfl) (hconv := ConvRs.refl _ _) (hnd := by decide) (hBl := fun _ => (by kernel_rfl)) (hv := fun _ => (by kernel_rfl)) (hH' := fun _ => (by kernel_rfl)) (h := fun r => ?_)
  obtain ⟨r172, r182, r192, r1102⟩ := r
  refine bUc ?_
  refine bUc ?_
  refine bUc ?_
  refine oP (.tuple [.agg [.d (.int .u64 r172), .d (.int .u64 r182)], .agg [.d (.int .u64 r192), .d (.int .u64 r1102)]]) p_move ?_
  refine oP (.agg [.d (.int .u64 r172), .d (.int .u64 r182)]) k_extract ?_
  refine oP (.agg [.d (.int .u64 r192), .d (.int .u64 r1102)]) k_extract ?_
  refine oD (.ptr 4 0) (k_alloc (H' := [.box [.d (.int .u64 num0), .d (.int .u64 num1)], .box [.d (.int .u64 den0), .d (.int .u64 den1)], .box [.d (.int .i64 0), .d (.int .i64 0)], .box [.d (.int .u64 r15), .d (.int .u64 r111)], .box [.d (.int .u64 0), .d (.int .u64 0)]]) ty65) ?_
  refine oD (.ptr 5 0) (k_alloc (H' := [.box [.d (.int .u64 num0), .d (.int .u64 num1)], .box [.d (.int .u64 den0), .d (.int .u64 den1)], .box [.d (.int .i64 0), .d (.int .i64 0)], .box [.d (.int .u64 r15), .d (.int .u64 r111)], .box [.d (.int .u64 0), .d (.int .u64 0)], .box [.d (.int .u64 0), .d (.int .u64 0)]]) ty65) ?_
  refine oD (.undef) (k_store (vs := [.d (.int .u64 r172), .d (.int .u64 r182)]) (H' := [.box [.d (.int .u64 num0), .d (.int .u64 num1)], .box [.d (.int .u64 den0), .d (.int .u64 den1)], .box [.d (.int .i64 0), .d (.int .i64 0)], .box [.d (.int .u64 r15), .d (.int .u64 r111)], .box [.d (.int .u64 r172), .d (.int .u64 r182)], .box [.d (.int .u64 0), .d (.int .u64 0)]]) 4 0 (hi := ty65)) ?_
  refine oD (.undef) (k_store (vs := [.d (.int .u64 r192), .d (.int .u64 r1102)]) (H' := [.box [.d (.int .u64 num0), .d (.int .u64 num1)], .box [.d (.int .u64 den0), .d (.int .u64 den1)], .box [.d (.int .i64 0), .d (.int .i64 0)], .box [.d (.int .u64 r15), .d (.int .u64 r111)], .box [.d (.int .u64 r172), .d (.int .u64 r182)], .box [.d (.int .u64 r192), .d (.int .u64 r1102)]]) 5 0 (hi := ty65)) ?_
  refine oEnd ?_
  refine oSR rfl ?_
  refine oQ (.agg [.d (.int .u64 den0), .d (.int .u64 den1)]) (k_loadAgg 1 0 (hu := Try.underlying65) (hi := ty65)) ?_
  refine oQ (.agg [.d (.int .u64 r15), .d (.int .u64 r111)]) (k_loadAgg 3 0 (hu := Try.underlying65) (hi := ty65)) ?_
  refine bCall (caps := []) (v := (uc fun (r173 : Int) => (uc fun (r183 : Int) => (uc fun (r193 : Int) => (fun (r1103 : Int) => (.tuple [.agg [.d (.int .u64 r173), .d (.int .u64 r183)], .agg [.d (.int .u64 r193), .d (.int .u64 r1103)]] : V)))))) (H' := (uc fun (r173 : Int) => (uc fun (r183 : Int) => (uc fun (r193 : Int) => (fun (r1103 : Int) => ([.box [.d (.int .u64 num0), .d (.int .u64 num1)], .box [.d (.int .u64 den0), .d (.int .u64 den1)], .box [.d (.int .i64 0), .d (.int .i64 0)], .box [.d (.int .u64 r15), .d (.int .u64 r111)], .box [.d (.int .u64 r172), .d (.int .u64 r182)], .box [.d (.int .u64 r192), .d (.int .u64 r1102)]] : List Blk)))))) [] _ (ref01_Divide_goes k den0 den1 r15 r111) (ho := rfl) (hfn := Try.func63) (hb := rfl) (hconv := ConvRs.refl _ _) (hnd := by decide) (hBl := fun _ => (by kernel_rfl)) (hv := fun _ => (by kernel_rfl)) (hH' := fun _ => (by kernel_rfl)) (h := fun r => ?_)
  obtain ⟨r173, r183, r193, r1103⟩ := r
  refine bUc ?_
  refine bUc ?_
  refine bUc ?_
  refine oP (.tuple [.agg [.d (.int .u64 r173), .d (.int .u64 r183)], .agg [.d (.int .u64 r193), .d (.int .u64 r1103)]]) p_move ?_
  refine oP (.agg [.d (.int .u64 r173), .d (.int .u64 r183)]) k_extract ?_
  refine oP (.agg [.d (.int .u64 r193), .d (.int .u64 r1103)]) k_extract ?_
  refine oD (.ptr 6 0) (k_alloc (H' := [.box [.d (.int .u64 num0), .d (.int .u64 num1)], .box [.d (.int .u64 den0), .d (.int .u64 den1)], .box [.d (.int .i64 0), .d (.int .i64 0)], .box [.d (.int .u64 r15), .d (.int .u64 r111)], .box [.d (.int .u64 r172), .d (.int .u64 r182)], .box [.d (.int .u64 r192), .d (.int .u64 r1102)], .box [.d (.int .u64 0), .d (.int .u64 0)]]) ty65) ?_
  refine oD (.ptr 7 0) (k_alloc (H' := [.box [.d (.int .u64 num0), .d (.int .u64 num1)], .box [.d (.int .u64 den0), .d (.int .u64 den1)], .box [.d (.int .i64 0), .d (.int .i64 0)], .box [.d (.int .u64 r15), .d (.int .u64 r111)], .box [.d (.int .u64 r172), .d (.int .u64 r182)], .box [.d (.int .u64 r192), .d (.int .u64 r1102)], .box [.d (.int .u64 0), .d (.int .u64 0)], .box [.d (.int .u64 0), .d (.int .u64 0)]]) ty65) ?_
  refine oD (.undef) (k_store (vs := [.d (.int .u64 r173), .d (.int .u64 r183)]) (H' := [.box [.d (.int .u64 num0), .d (.int .u64 num1)], .box [.d (.int .u64 den0), .d (.int .u64 den1)], .box [.d (.int .i64 0), .d (.int .i64 0)], .box [.d (.int .u64 r15), .d (.int .u64 r111)], .box [.d (.int .u64 r172), .d (.int .u64 r182)], .box [.d (.int .u64 r192), .d (.int .u64 r1102)], .box [.d (.int .u64 r173), .d (.int .u64 r183)], .box [.d (.int .u64 0), .d (.int .u64 0)]]) 6 0 (hi := ty65)) ?_
  refine oD (.undef) (k_store (vs := [.d (.int .u64 r193), .d (.int .u64 r1103)]) (H' := [.box [.d (.int .u64 num0), .d (.int .u64 num1)], .box [.d (.int .u64 den0), .d (.int .u64 den1)], .box [.d (.int .i64 0), .d (.int .i64 0)], .box [.d (.int .u64 r15), .d (.int .u64 r111)], .box [.d (.int .u64 r172), .d (.int .u64 r182)], .box [.d (.int .u64 r192), .d (.int .u64 r1102)], .box [.d (.int .u64 r173), .d (.int .u64 r183)], .box [.d (.int .u64 r193), .d (.int .u64 r1103)]]) 7 0 (hi := ty65)) ?_
  refine oEnd ?_
  refine oSeq ?_
  refine oSR rfl ?_
  refine oP (.ptr 4 0) (k_fieldAddr 4 0 (hu := Try.underlying65) (hf := rfl) (hi := ty62)) ?_
  refine oQ (.d (.int .u64 r172)) (k_load 4 0 (hu := Try.underlying62)) ?_
  refine oP (.d (.bool (decide (r172 > 0)))) (p_int (k := .u64) (p := r172) (q := 0)) ?_
  refine oP (.d (.bool (decide (r172 > 0)))) p_move ?_
  refine bMeetF (H' := [.box [.d (.int .i64 0), .d (.int .i64 0)], .box [.d (.int .u64 r172), .d (.int .u64 r182)], .box [.d (.int .u64 r173), .d (.int .u64 r183)]]) 4 rfl ((fun (x5 : Bool) => [(0, .d (.bool negative)), (6, .ptr 0 0), (9, .ptr 1 0), (11, .ptr 2 0), (36, .d (.bool x5))])) (fun x5 => ?_) (fun F hj2 => ?_)
  ·refine oView (T' := [(0, .d (.bool negative)), (6, .ptr 0 0), (9, .ptr 1 0), (11, .ptr 2 0), (36, .d (.bool x5))]) (H' := [.box [.d (.int .i64 0), .d (.int .i64 0)], .box [.d (.int .u64 r172), .d (.int .u64 r182)], .box [.d (.int .u64 r173), .d (.int .u64 r183)]]) (h := ?_)
   refine oP (.d (.bool x5)) p_move ?_
   refine bMeetF (H' := [.box [.d (.int .i64 0), .d (.int .i64 0)], .box [.d (.int .u64 r172), .d (.int .u64 r182)], .box [.d (.int .u64 r173), .d (.int .u64 r183)]]) 4 rfl ((fun (x6 : Bool) => [(0, .d (.bool negative)), (6, .ptr 0 0), (9, .ptr 1 0), (11, .ptr 2 0), (41, .d (.bool x6))])) (fun x6 => ?_) (fun F hj3 => ?_)
   ·refine oView (T' := [(0, .d (.bool negative)), (6, .ptr 0 0), (9, .ptr 1 0), (11, .ptr 2 0), (41, .d (.bool x6))]) (H' := [.box [.d (.int .i64 0), .d (.int .i64 0)], .box [.d (.int .u64 r172), .d (.int .u64 r182)], .box [.d (.int .u64 r173), .d (.int .u64 r183)]]) (h := ?_)
    refine oP (.d (.bool x6)) p_move ?_
    refine bMeetF (H' := [.box [.d (.int .i64 0), .d (.int .i64 0)], .box [.d (.int .u64 r172), .d (.int .u64 r182)], .box [.d (.int .u64 r173), .d (.int .u64 r183)]]) 4 rfl ((fun (x7 : Bool) => [(0, .d (.bool negative)), (6, .ptr 0 0), (9, .ptr 1 0), (11, .ptr 2 0), (46, .d (.bool x7))])) (fun x7 => ?_) (fun F hj4 => ?_)
    ·refine oView (T' := [(0, .d (.bool negative)), (6, .ptr 0 0), (9, .ptr 1 0), (11, .ptr 2 0), (46, .d (.bool x7))]) (H' := [.box [.d (.int .i64 0), .d (.int .i64 0)], .box [.d (.int .u64 r172), .d (.int .u64 r182)], .box [.d (.int .u64 r173), .d (.int .u64 r183)]]) (h := ?_)
     refine oEnd ?_
     refine bSplit 46 (h1 := fun hc => ?_) (h2 := fun hc => ?_)
     ·refine oCondT (h := ?_)
      refine oSR rfl ?_
      refine oP (.agg [.d (.int .i64 0), .d (.int .i64 0)]) (p_build bld38) ?_
      refine oD (.undef) (k_store (vs := [.d (.int .i64 0), .d (.int .i64 0)]) (H' := [.box [.d (.int .i64 0), .d (.int .i64 0)], .box [.d (.int .u64 r172), .d (.int .u64 r182)], .box [.d (.int .u64 r173), .d (.int .u64 r183)]]) 0 0 (hi := ty38)) ?_
      refine oP (.d (.int .i64 6)) p_assign ?_
      refine oEnd ?_
      exact oRet (r0 := (0, 0, 6)) (rv := .tuple [.agg [.d (.int .i64 0), .d (.int .i64 0)], .d (.int .i64 6)]) (B := []) (vs := [.agg [.d (.int .i64 0), .d (.int .i64 0)], .d (.int .i64 6)]) (σ := []) (hf := Try.func36) (hrs := rfl) (hres := .cons _ _ _ _ (.agg 6 38 0 0 [.d (.int .i64 0), .d (.int .i64 0)] [.d (.int .i64 0), .d (.int .i64 0)] _ _ _ _ (by kernel_rfl) (by kernel_rfl) Try.underlying38 (by kernel_rfl) ty38 (by kernel_rfl) (by kernel_rfl)) (.cons _ _ _ _ (.tmp 7 _ (by kernel_rfl)) .nil)) (hnd := by decide)
     ·refine oCondF (h := ?_)
      refine oSkip ?_
      refine oSR rfl ?_
      refine oP (.ptr 1 1) (k_fieldAddr 1 0 (hu := Try.underlying65) (hf := rfl) (hi := ty62)) ?_
      refine oQ (.d (.int .u64 r182)) (k_load 1 1 (hu := Try.underlying62)) ?_
      refine oP (.d (.int .i64 (IntKind.wrap .i64 r182))) (p_conv (k := .u64) (p := r182) (hu1 := Try.underlying62) (hu2 := Try.underlying3)) ?_
      refine oP (.ptr 2 1) (k_fieldAddr 2 0 (hu := Try.underlying65) (hf := rfl) (hi := ty62)) ?_
      refine oQ (.d (.int .u64 r183)) (k_load 2 1 (hu := Try.underlying62)) ?_
      refine oP (.d (.int .i64 (IntKind.wrap .i64 r183))) (p_conv (k := .u64) (p := r183) (hu1 := Try.underlying62) (hu2 := Try.underlying3)) ?_
      refine oP (.agg [.d (.int .i64 (IntKind.wrap .i64 r182)), .d (.int .i64 (IntKind.wrap .i64 r183))]) (p_build bld38) ?_
      refine oD (.ptr 3 0) (k_alloc (H' := [.box [.d (.int .i64 0), .d (.int .i64 0)], .box [.d (.int .u64 r172), .d (.int .u64 r182)], .box [.d (.int .u64 r173), .d (.int .u64 r183)], .box [.d (.int .i64 0), .d (.int .i64 0)]]) ty38) ?_
      refine oD (.undef) (k_store (vs := [.d (.int .i64 (IntKind.wrap .i64 r182)), .d (.int .i64 (IntKind.wrap .i64 r183))]) (H' := [.box [.d (.int .i64 0), .d (.int .i64 0)], .box [.d (.int .u64 r172), .d (.int .u64 r182)], .box [.d (.int .u64 r173), .d (.int .u64 r183)], .box [.d (.int .i64 (IntKind.wrap .i64 r182)), .d (.int .i64 (IntKind.wrap .i64 r183))]]) 3 0 (hi := ty38)) ?_
      refine oEnd ?_
      refine oSeq ?_
      refine oSR rfl ?_
      refine oP (.d (.bool negative)) p_move ?_
      refine oEnd ?_
      refine bJoin ((uc fun (x8 : Int) => (fun (x9 : Int) => [(6, .ptr 0 0), (13, .ptr 1 0)]))) ((uc fun (x8 : Int) => (fun (x9 : Int) => [.box [.d (.int .i64 0), .d (.int .i64 0)], .box [.d (.int .i64 x8), .d (.int .i64 x9)]]))) (fun s => s) (fun s => ?_) (fun hj5 => ?_)
      ·obtain ⟨x8, x9⟩ := s
       refine bUc ?_
       refine oView (T' := [(6, .ptr 0 0), (13, .ptr 1 0)]) (H' := [.box [.d (.int .i64 0), .d (.int .i64 0)], .box [.d (.int .i64 x8), .d (.int .i64 x9)]]) (h := ?_)
       refine oSR rfl ?_
       refine oQ (.agg [.d (.int .i64 x8), .d (.int .i64 x9)]) (k_loadAgg 1 0 (hu := Try.underlying38) (hi := ty38)) ?_
       refine oD (.undef) (k_store (vs := [.d (.int .i64 x8), .d (.int .i64 x9)]) (H' := [.box [.d (.int .i64 x8), .d (.int .i64 x9)], .box [.d (.int .i64 x8), .d (.int .i64 x9)]]) 0 0 (hi := ty38)) ?_
       refine oP (.d (.int .i64 0)) p_assign ?_
       refine oEnd ?_
       exact oRet (r0 := (x8, x9, 0)) (rv := .tuple [.agg [.d (.int .i64 x8), .d (.int .i64 x9)], .d (.int .i64 0)]) (B := []) (vs := [.agg [.d (.int .i64 x8), .d (.int .i64 x9)], .d (.int .i64 0)]) (σ := []) (hf := Try.func36) (hrs := rfl) (hres := .cons _ _ _ _ (.agg 6 38 0 0 [.d (.int .i64 x8), .d (.int .i64 x9)] [.d (.int .i64 x8), .d (.int .i64 x9)] _ _ _ _ (by kernel_rfl) (by kernel_rfl) Try.underlying38 (by kernel_rfl) ty38 (by kernel_rfl) (by kernel_rfl)) (.cons _ _ _ _ (.tmp 7 _ (by kernel_rfl)) .nil)) (hnd := by decide)
      ·refine bSplit 55 (h1 := fun hc => ?_) (h2 := fun hc => ?_)
       ·refine oCondT (h := ?_)
        refine oRegion rfl ?_
        refine oP (.ptr 3 0) (k_fieldAddr 3 0 (hu := Try.underlying38) (hf := rfl) (hi := ty3)) ?_
        refine oQ (.d (.int .i64 (IntKind.wrap .i64 r182))) (k_load 3 0 (hu := Try.underlying3)) ?_
        refine oP (.d (.int .i64 (IntKind.wrap .i64 (0 - (IntKind.wrap .i64 r182))))) (p_neg (k := .i64) (p := (IntKind.wrap .i64 r182))) ?_
        refine oP (.ptr 3 0) (k_fieldAddr 3 0 (hu := Try.underlying38) (hf := rfl) (hi := ty3)) ?_
        refine oD (.undef) (k_store (vs := [.d (.int .i64 (IntKind.wrap .i64 (0 - (IntKind.wrap .i64 r182))))]) (H' := [.box [.d (.int .i64 0), .d (.int .i64 0)], .box [.d (.int .u64 r172), .d (.int .u64 r182)], .box [.d (.int .u64 r173), .d (.int .u64 r183)], .box [.d (.int .i64 (IntKind.wrap .i64 (0 - (IntKind.wrap .i64 r182)))), .d (.int .i64 (IntKind.wrap .i64 r183))]]) 3 0 (hi := ty3)) ?_
        refine oEnd ?_
        refine oHead [6, 13] [0, 3] (T' := [(6, .ptr 0 0), (13, .ptr 1 0)]) (H' := [.box [.d (.int .i64 0), .d (.int .i64 0)], .box [.d (.int .i64 (IntKind.wrap .i64 (0 - (IntKind.wrap .i64 r182)))), .d (.int .i64 (IntKind.wrap .i64 r183))]]) (hnd := by decide) (h := ?_)
        exact hj5 ((IntKind.wrap .i64 (0 - (IntKind.wrap .i64 r182))), (IntKind.wrap .i64 r183))
       ·refine oCondF (h := ?_)
        refine oSkip ?_
        refine oHead [6, 13] [0, 3] (T' := [(6, .ptr 0 0), (13, .ptr 1 0)]) (H' := [.box [.d (.int .i64 0), .d (.int .i64 0)], .box [.d (.int .i64 (IntKind.wrap .i64 r182)), .d (.int .i64 (IntKind.wrap .i64 r183))]]) (hnd := by decide) (h := ?_)
        exact hj5 ((IntKind.wrap .i64 r182), (IntKind.wrap .i64 r183))
    ·refine bPickF 42 (fun c => F (c || (decide (r183 > 1152921504606846976)))) (h1 := fun hc => ?_) (h2 := fun hc => ?_)
     ·refine oNot (h := ?_)
      refine oNot (h := ?_)
      refine oNot (h := ?_)
      refine oP (.d (.bool true)) (p_pick (b := true)) ?_
      refine oHead [0, 6, 9, 11, 46] [0, 1, 2] (T' := [(0, .d (.bool negative)), (6, .ptr 0 0), (9, .ptr 1 0), (11, .ptr 2 0), (46, .d (.bool true))]) (H' := [.box [.d (.int .i64 0), .d (.int .i64 0)], .box [.d (.int .u64 r172), .d (.int .u64 r182)], .box [.d (.int .u64 r173), .d (.int .u64 r183)]]) (hnd := by decide) (h := ?_)
      exact hj4 true
     ·refine oP (.ptr 2 1) (k_fieldAddr 2 0 (hu := Try.underlying65) (hf := rfl) (hi := ty62)) ?_
      refine oQ (.d (.int .u64 r183)) (k_load 2 1 (hu := Try.underlying62)) ?_
      refine oP (.d (.bool (decide (r183 > 1152921504606846976)))) (p_int (k := .u64) (p := r183) (q := 1152921504606846976)) ?_
      refine oP (.d (.bool (decide (r183 > 1152921504606846976)))) (p_pick (b := false)) ?_
      refine oHead [0, 6, 9, 11, 46] [0, 1, 2] (T' := [(0, .d (.bool negative)), (6, .ptr 0 0), (9, .ptr 1 0), (11, .ptr 2 0), (46, .d (.bool (decide (r183 > 1152921504606846976))))]) (H' := [.box [.d (.int .i64 0), .d (.int .i64 0)], .box [.d (.int .u64 r172), .d (.int .u64 r182)], .box [.d (.int .u64 r173), .d (.int .u64 r183)]]) (hnd := by decide) (h := ?_)
      exact hj4 (decide (r183 > 1152921504606846976))
   ·refine bPickF 37 (fun c => F (c || (decide (r182 > 1152921504606846976)))) (h1 := fun hc => ?_) (h2 := fun hc => ?_)
    ·refine oNot (h := ?_)
     refine oNot (h := ?_)
     refine oNot (h := ?_)
     refine oP (.d (.bool true)) (p_pick (b := true)) ?_
     refine oHead [0, 6, 9, 11, 41] [0, 1, 2] (T' := [(0, .d (.bool negative)), (6, .ptr 0 0), (9, .ptr 1 0), (11, .ptr 2 0), (41, .d (.bool true))]) (H' := [.box [.d (.int .i64 0), .d (.int .i64 0)], .box [.d (.int .u64 r172), .d (.int .u64 r182)], .box [.d (.int .u64 r173), .d (.int .u64 r183)]]) (hnd := by decide) (h := ?_)
     exact hj3 true
    ·refine oP (.ptr 1 1) (k_fieldAddr 1 0 (hu := Try.underlying65) (hf := rfl) (hi := ty62)) ?_
     refine oQ (.d (.int .u64 r182)) (k_load 1 1 (hu := Try.underlying62)) ?_
     refine oP (.d (.bool (decide (r182 > 1152921504606846976)))) (p_int (k := .u64) (p := r182) (q := 1152921504606846976)) ?_
     refine oP (.d (.bool (decide (r182 > 1152921504606846976)))) (p_pick (b := false)) ?_
     refine oHead [0, 6, 9, 11, 41] [0, 1, 2] (T' := [(0, .d (.bool negative)), (6, .ptr 0 0), (9, .ptr 1 0), (11, .ptr 2 0), (41, .d (.bool (decide (r182 > 1152921504606846976))))]) (H' := [.box [.d (.int .i64 0), .d (.int .i64 0)], .box [.d (.int .u64 r172), .d (.int .u64 r182)], .box [.d (.int .u64 r173), .d (.int .u64 r183)]]) (hnd := by decide) (h := ?_)
     exact hj3 (decide (r182 > 1152921504606846976))
  ·refine bPickF 32 (fun c => F (c || (decide (r173 > 0)))) (h1 := fun hc => ?_) (h2 := fun hc => ?_)
   ·refine oNot (h := ?_)
    refine oNot (h := ?_)
    refine oNot (h := ?_)
    refine oP (.d (.bool true)) (p_pick (b := true)) ?_
    refine oHead [0, 6, 9, 11, 36] [2, 4, 6] (T' := [(0, .d (.bool negative)), (6, .ptr 0 0), (9, .ptr 1 0), (11, .ptr 2 0), (36, .d (.bool true))]) (H' := [.box [.d (.int .i64 0), .d (.int .i64 0)], .box [.d (.int .u64 r172), .d (.int .u64 r182)], .box [.d (.int .u64 r173), .d (.int .u64 r183)]]) (hnd := by decide) (h := ?_)
    exact hj2 true
   ·refine oP (.ptr 6 0) (k_fieldAddr 6 0 (hu := Try.underlying65) (hf := rfl) (hi := ty62)) ?_
    refine oQ (.d (.int .u64 r173)) (k_load 6 0 (hu := Try.underlying62)) ?_
    refine oP (.d (.bool (decide (r173 > 0)))) (p_int (k := .u64) (p := r173) (q := 0)) ?_
    refine oP (.d (.bool (decide (r173 > 0)))) (p_pick (b := false)) ?_
    refine oHead [0, 6, 9, 11, 36] [2, 4, 6] (T' := [(0, .d (.bool negative)), (6, .ptr 0 0), (9, .ptr 1 0), (11, .ptr 2 0), (36, .d (.bool (decide (r173 > 0))))]) (H' := [.box [.d (.int .i64 0), .d (.int .i64 0)], .box [.d (.int .u64 r172), .d (.int .u64 r182)], .box [.d (.int .u64 r173), .d (.int .u64 r183)]]) (hnd := by decide) (h := ?_)
    exact hj2 (decide (r173 > 0))

/-- awardingbody/awardingbodyref01.New -/
def ref01_New (k : Nat) (num : Int) (den : Int) : Option (Int × Int × Int) := bif (den == 0) then some (0, 0, 2) else Option.bind (ref01_Size k num) (fun r18 => Option.bind (ref01_Size k den) (fun r19 => Option.bind (ref01_Reduce k (!((decide (num < 0)) == (decide (den < 0)))) 0 r18 0 r19) (uc fun r121 => uc fun r131 => fun r141 => some (r121, r131, r141))))
def ref01_New_E (num : Int) (den : Int) : Int × Int × Int → V × List Blk := uc fun r15 => uc fun r16 => fun r17 => (.tuple [.agg [.d (.int .i64 r15), .d (.int .i64 r16)], .d (.int .i64 r17)], [])
theorem ref01_New_goes (k : Nat) (num : Int) (den : Int) : RunsO Try.prog 13 [.d (.int .i64 num), .d (.int .i64 den)] [] (ref01_New_E num den) (ref01_New k num den) := by
  refine RunsO.of_goes (N := 23) (m := 0) (T := [(0, .d (.int .i64 num)), (1, .d (.int .i64 den))]) Try.func13 rfl rfl (h := ?_)
  unfold ref01_New
  refine bStart ?_
  refine oSR rfl ?_
  refine oD (.ptr 0 0) (k_alloc (H' := [.box [.d (.int .i64 0), .d (.int .i64 0)]]) ty38) ?_
  refine oP (.d (.int .i64 0)) p_assign ?_
  refine oEnd ?_
  refine oSeq ?_
  refine oSR rfl ?_
  refine oP (.d (.int .i64 den)) p_move ?_
  refine oP (.d (.bool (den == 0))) (p_int (k := .i64) (p := den) (q := 0)) ?_
  refine oEnd ?_
  refine bSplit 7 (h1 := fun hc => ?_) (h2 := fun hc => ?_)
  ·refine oCondT (h := ?_)
   refine oSR rfl ?_
   refine oP (.agg [.d (.int .i64 0), .d (.int .i64 0)]) (p_build bld38) ?_
   refine oD (.undef) (k_store (vs := [.d (.int .i64 0), .d (.int .i64 0)]) (H' := [.box [.d (.int .i64 0), .d (.int .i64 0)]]) 0 0 (hi := ty38)) ?_
   refine oP (.d (.int .i64 2)) p_assign ?_
   refine oEnd ?_
   exact oRet (r0 := (0, 0, 2)) (rv := .tuple [.agg [.d (.int .i64 0), .d (.int .i64 0)], .d (.int .i64 2)]) (B := []) (vs := [.agg [.d (.int .i64 0), .d (.int .i64 0)], .d (.int .i64 2)]) (σ := []) (hf := Try.func13) (hrs := rfl) (hres := .cons _ _ _ _ (.agg 4 38 0 0 [.d (.int .i64 0), .d (.int .i64 0)] [.d (.int .i64 0), .d (.int .i64 0)] _ _ _ _ (by kernel_rfl) (by kernel_rfl) Try.underlying38 (by kernel_rfl) ty38 (by kernel_rfl) (by kernel_rfl)) (.cons _ _ _ _ (.tmp 5 _ (by kernel_rfl)) .nil)) (hnd := by decide)
  ·refine oCondF (h := ?_)
   refine oSkip ?_
   refine oSR rfl ?_
   refine oP (.d (.int .i64 num)) p_move ?_
   refine oP (.d (.bool (decide (num < 0)))) (p_int (k := .i64) (p := num) (q := 0)) ?_
   refine oP (.d (.int .i64 den)) p_move ?_
   refine oP (.d (.bool (decide (den < 0)))) (p_int (k := .i64) (p := den) (q := 0)) ?_
   refine oP (.d (.bool (!((decide (num < 0)) == (decide (den < 0)))))) (p_boolNe (p := (decide (num < 0))) (q := (decide (den < 0))) (hu := Try.underlying4)) ?_
   refine oP (.d (.int .i64 num)) p_move ?_
   refine bCall (caps := []) (v := (fun (r18 : Int) => (.d (.int .u64 r18) : V))) (H' := (fun (r18 : Int) => ([.box [.d (.int .i64 0), .d (.int .i64 0)]] : List Blk))) [] _ (ref01_Size_goes k num) (ho := rfl) (hfn := Try.func37) (hb := rfl) (hconv := ConvRs.refl _ _) (hnd := by decide) (hBl := fun _ => (by kernel_rfl)) (hv := fun _ => (by kernel_rfl)) (hH' := fun _ => (by kernel_rfl)) (h := fun r18 => ?_)
   refine oP (.agg [.d (.int .u64 0), .d (.int .u64 r18)]) (p_build bld65) ?_
   refine oP (.d (.int .i64 den)) p_move ?_
   refine bCall (caps := []) (v := (fun (r19 : Int) => (.d (.int .u64 r19) : V))) (H' := (fun (r19 : Int) => ([.box [.d (.int .i64 0), .d (.int .i64 0)]] : List Blk))) [] _ (ref01_Size_goes k den) (ho := rfl) (hfn := Try.func37) (hb := rfl) (hconv := ConvRs.refl _ _) (hnd := by decide) (hBl := fun _ => (by kernel_rfl)) (hv := fun _ => (by kernel_rfl)) (hH' := fun _ => (by kernel_rfl)) (h := fun r19 => ?_)
   refine oP (.agg [.d (.int .u64 0), .d (.int .u64 r19)]) (p_build bld65) ?_
   refine bCall (caps := []) (v := (uc fun (r121 : Int) => (uc fun (r131 : Int) => (fun (r141 : Int) => (.tuple [.agg [.d (.int .i64 r121), .d (.int .i64 r131)], .d (.int .i64 r141)] : V))))) (H' := (uc fun (r121 : Int) => (uc fun (r131 : Int) => (fun (r141 : Int) => ([.box [.d (.int .i64 0), .d (.int .i64 0)]] : List Blk))))) [] _ (ref01_Reduce_goes k (!((decide (num < 0)) == (decide (den < 0)))) 0 r18 0 r19) (ho := rfl) (hfn := Try.func36) (hb := rfl) (hconv := ConvRs.refl _ _) (hnd := by decide) (hBl := fun _ => (by kernel_rfl)) (hv := fun _ => (by kernel_rfl)) (hH' := fun _ => (by kernel_rfl)) (h := fun r => ?_)
   obtain ⟨r121, r131, r141⟩ := r
   refine bUc ?_
   refine bUc ?_
   refine oP (.agg [.d (.int .i64 r121), .d (.int .i64 r131)]) k_extract ?_
   refine oP (.d (.int .i64 r141)) k_extract ?_
   refine oD (.undef) (k_store (vs := [.d (.int .i64 r121), .d (.int .i64 r131)]) (H' := [.box [.d (.int .i64 r121), .d (.int .i64 r131)]]) 0 0 (hi := ty38)) ?_
   refine oP (.d (.int .i64 r141)) p_assign ?_
   refine oEnd ?_
   exact oRet (r0 := (r121, r131, r141)) (rv := .tuple [.agg [.d (.int .i64 r121), .d (.int .i64 r131)], .d (.int .i64 r141)]) (B := []) (vs := [.agg [.d (.int .i64 r121), .d (.int .i64 r131)], .d (.int .i64 r141)]) (σ := []) (hf := Try.func13) (hrs := rfl) (hres := .cons _ _ _ _ (.agg 4 38 0 0 [.d (.int .i64 r121), .d (.int .i64 r131)] [.d (.int .i64 r121), .d (.int .i64 r131)] _ _ _ _ (by kernel_rfl) (by kernel_rfl) Try.underlying38 (by kernel_rfl) ty38 (by kernel_rfl) (by kernel_rfl)) (.cons _ _ _ _ (.tmp 5 _ (by kernel_rfl)) .nil)) (hnd := by decide)

/-- awardingbody/awardingbodyref32.Mean -/
def ref32_Mean (k : Nat) (d0 : (List Int)) : Option (Int × Int × Int) := Option.bind (ref32_wrong k d0) (fun r152 => bif (r152 != 0) then some (0, 0, r152) else Option.bind (ref32_sum k d0) (fun r1 => Option.bind (ref32_Count k d0) (fun r11 => Option.bind (ref01_New k r1 r11) (uc fun r151 => uc fun r16 => fun r17 => some (r151, r16, r17)))))
def ref32_Mean_E (d0 : (List Int)) : Int × Int × Int → V × List Blk := uc fun r12 => uc fun r13 => fun r14 => (.tuple [.agg [.d (.int .i64 r12), .d (.int .i64 r13)], .d (.int .i64 r14)], [])
theorem ref32_Mean_goes (k : Nat) (d0 : (List Int)) : RunsO Try.prog 18 [.agg [.d (.lit (List.map e_i64 d0))]] [] (ref32_Mean_E d0) (ref32_Mean k d0) := by
  refine RunsO.of_goes (N := 18) (m := 0) (T := [(0, .agg [.d (.lit (List.map e_i64 d0))])]) Try.func18 rfl rfl (h := ?_)
  unfold ref32_Mean
  refine bStart ?_
  refine oSR rfl ?_
  refine oD (.ptr 0 0) (k_box (H' := [.box [.d (.lit (List.map e_i64 d0))]]) (cells := [.d (.lit (List.map e_i64 d0))])) ?_
  refine oD (.ptr 1 0) (k_alloc (H' := [.box [.d (.lit (List.map e_i64 d0))], .box [.d (.int .i64 0), .d (.int .i64 0)]]) ty38) ?_
  refine oP (.d (.int .i64 0)) p_assign ?_
  refine oEnd ?_
  refine oSeq ?_
  refine oSR rfl ?_
  refine oQ (.agg [.d (.lit (List.map e_i64 d0))]) (k_loadAgg 0 0 (hu := Try.underlying28) (hi := ty28)) ?_
  refine bCall (caps := []) (v := (fun (r152 : Int) => (.d (.int .i64 r152) : V))) (H' := (fun (r152 : Int) => ([.box [.d (.lit (List.map e_i64 d0))], .box [.d (.int .i64 0), .d (.int .i64 0)]] : List Blk))) [] _ (ref32_wrong_goes k d0) (ho := rfl) (hfn := Try.func46) (hb := rfl) (hconv := ConvRs.refl _ _) (hnd := by decide) (hBl := fun _ => (by kernel_rfl)) (hv := fun _ => (by kernel_rfl)) (hH' := fun _ => (by kernel_rfl)) (h := fun r152 => ?_)
  refine oP (.d (.int .i64 r152)) p_assign ?_
  refine oEnd ?_
  refine oSR rfl ?_
  refine oP (.d (.int .i64 r152)) p_move ?_
  refine oP (.d (.bool (r152 != 0))) (p_int (k := .i64) (p := r152) (q := 0)) ?_
  refine oEnd ?_
  refine bSplit 8 (h1 := fun hc => ?_) (h2 := fun hc => ?_)
  ·refine oCondT (h := ?_)
   refine oSR rfl ?_
   refine oP (.agg [.d (.int .i64 0), .d (.int .i64 0)]) (p_build bld38) ?_
   refine oP (.d (.int .i64 r152)) p_move ?_
   refine oD (.undef) (k_store (vs := [.d (.int .i64 0), .d (.int .i64 0)]) (H' := [.box [.d (.lit (List.map e_i64 d0))], .box [.d (.int .i64 0), .d (.int .i64 0)]]) 1 0 (hi := ty38)) ?_
   refine oP (.d (.int .i64 r152)) p_assign ?_
   refine oEnd ?_
   exact oRet (r0 := (0, 0, r152)) (rv := .tuple [.agg [.d (.int .i64 0), .d (.int .i64 0)], .d (.int .i64 r152)]) (B := []) (vs := [.agg [.d (.int .i64 0), .d (.int .i64 0)], .d (.int .i64 r152)]) (σ := []) (hf := Try.func18) (hrs := rfl) (hres := .cons _ _ _ _ (.agg 2 38 1 0 [.d (.int .i64 0), .d (.int .i64 0)] [.d (.int .i64 0), .d (.int .i64 0)] _ _ _ _ (by kernel_rfl) (by kernel_rfl) Try.underlying38 (by kernel_rfl) ty38 (by kernel_rfl) (by kernel_rfl)) (.cons _ _ _ _ (.tmp 3 _ (by kernel_rfl)) .nil)) (hnd := by decide)
  ·refine oCondF (h := ?_)
   refine oSkip ?_
   refine oSeq ?_
   refine oDraw [(0, 9), (1, 7)] rfl ?_
   refine aQ 0 [0] (.agg [.d (.lit (List.map e_i64 d0))]) rfl (k_loadAgg 0 0 (hu := Try.underlying28) (hi := ty28)) ?_
   refine aQ 2 [0] (.agg [.d (.lit (List.map e_i64 d0))]) rfl (k_loadAgg 0 0 (hu := Try.underlying28) (hi := ty28)) ?_
   refine dCall (i := 1) (caps := []) (v := (fun (r1 : Int) => (.d (.int .i64 r1) : V))) (H' := (fun (r1 : Int) => ([.box [.d (.lit (List.map e_i64 d0))], .box [.d (.int .i64 0), .d (.int .i64 0)]] : List Blk))) [] _ (ref32_sum_goes k d0) rfl (ho := rfl) (hfn := Try.func47) (hb := rfl) (hconv := ConvRs.refl _ _) (hnd := by decide) (hBl := fun _ => (by kernel_rfl)) (hv := fun _ => (by kernel_rfl)) (hH' := fun _ => (by kernel_rfl)) (h := fun r1 => ?_)
   refine dCall (i := 3) (caps := []) (v := (fun (r11 : Int) => (.d (.int .i64 r11) : V))) (H' := (fun (r11 : Int) => ([.box [.d (.lit (List.map e_i64 d0))], .box [.d (.int .i64 0), .d (.int .i64 0)]] : List Blk))) [] _ (ref32_Count_goes k d0) rfl (ho := rfl) (hfn := Try.func12) (hb := rfl) (hconv := ConvRs.refl _ _) (hnd := by decide) (hBl := fun _ => (by kernel_rfl)) (hv := fun _ => (by kernel_rfl)) (hH' := fun _ => (by kernel_rfl)) (h := fun r11 => ?_)
   refine dCall (i := 4) (caps := []) (v := (uc fun (r151 : Int) => (uc fun (r16 : Int) => (fun (r17 : Int) => (.tuple [.agg [.d (.int .i64 r151), .d (.int .i64 r16)], .d (.int .i64 r17)] : V))))) (H' := (uc fun (r151 : Int) => (uc fun (r16 : Int) => (fun (r17 : Int) => ([.box [.d (.lit (List.map e_i64 d0))], .box [.d (.int .i64 0), .d (.int .i64 0)]] : List Blk))))) [] _ (ref01_New_goes k r1 r11) rfl (ho := rfl) (hfn := Try.func13) (hb := rfl) (hconv := ConvRs.refl _ _) (hnd := by decide) (hBl := fun _ => (by kernel_rfl)) (hv := fun _ => (by kernel_rfl)) (hH' := fun _ => (by kernel_rfl)) (h := fun r => ?_)
   obtain ⟨r151, r16, r17⟩ := r
   refine dUc ?_
   refine dUc ?_
   refine aTakeP (i := 5) (.agg [.d (.int .i64 r151), .d (.int .i64 r16)]) rfl (hp := k_extract) (h := ?_)
   refine aTakeP (i := 6) (.d (.int .i64 r17)) rfl (hp := k_extract) (h := ?_)
   refine aOne (i := 7) (v := .undef) rfl (hac := Does.acts (k_store (vs := [.d (.int .i64 r151), .d (.int .i64 r16)]) (H' := [.box [.d (.lit (List.map e_i64 d0))], .box [.d (.int .i64 r151), .d (.int .i64 r16)]]) 1 0 (hi := ty38))) (h := ?_)
   refine aP 8 (.d (.int .i64 r17)) rfl p_assign ?_
   refine aDone (h := ?_)
   exact oRet (r0 := (r151, r16, r17)) (rv := .tuple [.agg [.d (.int .i64 r151), .d (.int .i64 r16)], .d (.int .i64 r17)]) (B := []) (vs := [.agg [.d (.int .i64 r151), .d (.int .i64 r16)], .d (.int .i64 r17)]) (σ := []) (hf := Try.func18) (hrs := rfl) (hres := .cons _ _ _ _ (.agg 2 38 1 0 [.d (.int .i64 r151), .d (.int .i64 r16)] [.d (.int .i64 r151), .d (.int .i64 r16)] _ _ _ _ (by kernel_rfl) (by kernel_rfl) Try.underlying38 (by kernel_rfl) ty38 (by kernel_rfl) (by kernel_rfl)) (.cons _ _ _ _ (.tmp 3 _ (by kernel_rfl)) .nil)) (hnd := by decide)

/-- awardingbody/awardingbodyref01.Valid -/
def ref01_Valid (k : Nat) (a0 : Int) (a1 : Int) : Option (Bool) := blet ((decide (a1 < 1)) || (decide (a1 > 1152921504606846976))) fun x3 => blet (x3 || (decide (a0 < (-1152921504606846976)))) fun x4 => blet (x4 || (decide (a0 > 1152921504606846976))) fun x5 => bif x5 then some false else Option.bind (ref01_Size k a0) (fun r1 => Option.bind (ref01_Size k a1) (fun r11 => Option.bind (ref01_Divisor k 0 r1 0 r11) (uc fun r12 => fun r111 => some ((r12 == 0) && ((r111 == 1) && true)))))
def ref01_Valid_E (a0 : Int) (a1 : Int) : Bool → V × List Blk := fun r13 => (.d (.bool r13), [])
theorem ref01_Valid_goes (k : Nat) (a0 : Int) (a1 : Int) : RunsO Try.prog 48 [.agg [.d (.int .i64 a0), .d (.int .i64 a1)]] [] (ref01_Valid_E a0 a1) (ref01_Valid k a0 a1) := by
  refine RunsO.of_goes (N := 32) (m := 0) (T := [(0, .agg [.d (.int .i64 a0), .d (.int .i64 a1)])]) Try.func48 rfl rfl (h := ?_)
  unfold ref01_Valid
  refine bStart ?_
  refine oSR rfl ?_
  refine oD (.ptr 0 0) (k_box (H' := [.box [.d (.int .i64 a0), .d (.int .i64 a1)]]) (cells := [.d (.int .i64 a0), .d (.int .i64 a1)])) ?_
  refine oP (.d (.bool false)) p_assign ?_
  refine oEnd ?_
  refine oSeq ?_
  refine oSR rfl ?_
  refine oP (.ptr 0 1) (k_fieldAddr 0 0 (hu := Try.underlying38) (hf := rfl) (hi := ty3)) ?_
  refine oQ (.d (.int .i64 a1)) (k_load 0 1 (hu := Try.underlying3)) ?_
  refine oP (.d (.bool (decide (a1 < 1)))) (p_int (k := .i64) (p := a1) (q := 1)) ?_
  refine oP (.d (.bool (decide (a1 < 1)))) p_move ?_
  refine bMeetF (H' := [.box [.d (.int .i64 a0), .d (.int .i64 a1)]]) 4 rfl ((fun (x3 : Bool) => [(1, .ptr 0 0), (10, .d (.bool x3))])) (fun x3 => ?_) (fun F hj1 => ?_)
  ·refine oView (T' := [(1, .ptr 0 0), (10, .d (.bool x3))]) (H' := [.box [.d (.int .i64 a0), .d (.int .i64 a1)]]) (h := ?_)
   refine oP (.d (.bool x3)) p_move ?_
   refine bMeetF (H' := [.box [.d (.int .i64 a0), .d (.int .i64 a1)]]) 4 rfl ((fun (x4 : Bool) => [(1, .ptr 0 0), (15, .d (.bool x4))])) (fun x4 => ?_) (fun F hj2 => ?_)
   ·refine oView (T' := [(1, .ptr 0 0), (15, .d (.bool x4))]) (H' := [.box [.d (.int .i64 a0), .d (.int .i64 a1)]]) (h := ?_)
    refine oP (.d (.bool x4)) p_move ?_
    refine bMeetF (H' := [.box [.d (.int .i64 a0), .d (.int .i64 a1)]]) 4 rfl ((fun (x5 : Bool) => [(1, .ptr 0 0), (20, .d (.bool x5))])) (fun x5 => ?_) (fun F hj3 => ?_)
    ·refine oView (T' := [(1, .ptr 0 0), (20, .d (.bool x5))]) (H' := [.box [.d (.int .i64 a0), .d (.int .i64 a1)]]) (h := ?_)
     refine oEnd ?_
     refine bSplit 20 (h1 := fun hc => ?_) (h2 := fun hc => ?_)
     ·refine oCondT (h := ?_)
      refine oSR rfl ?_
      refine oP (.d (.bool false)) p_assign ?_
      refine oEnd ?_
      exact oRet (r0 := false) (rv := .d (.bool false)) (B := []) (vs := [.d (.bool false)]) (σ := []) (hf := Try.func48) (hrs := rfl) (hres := .cons _ _ _ _ (.tmp 2 _ (by kernel_rfl)) .nil) (hnd := by decide)
     ·refine oCondF (h := ?_)
      refine oSkip ?_
      refine oSeq ?_
      refine oDraw [(0, 12)] rfl ?_
      refine aP 0 (.ptr 0 0) rfl (k_fieldAddr 0 0 (hu := Try.underlying38) (hf := rfl) (hi := ty3)) ?_
      refine aQ 1 [0] (.d (.int .i64 a0)) rfl (k_load 0 0 (hu := Try.underlying3)) ?_
      refine aP 4 (.ptr 0 1) rfl (k_fieldAddr 0 0 (hu := Try.underlying38) (hf := rfl) (hi := ty3)) ?_
      refine aQ 5 [0] (.d (.int .i64 a1)) rfl (k_load 0 1 (hu := Try.underlying3)) ?_
      refine aP 9 (.agg [.d (.int .u64 0), .d (.int .u64 1)]) rfl (p_build bld65) ?_
      refine dCall (i := 2) (caps := []) (v := (fun (r1 : Int) => (.d (.int .u64 r1) : V))) (H' := (fun (r1 : Int) => ([.box [.d (.int .i64 a0), .d (.int .i64 a1)]] : List Blk))) [] _ (ref01_Size_goes k a0) rfl (ho := rfl) (hfn := Try.func37) (hb := rfl) (hconv := ConvRs.refl _ _) (hnd := by decide) (hBl := fun _ => (by kernel_rfl)) (hv := fun _ => (by kernel_rfl)) (hH' := fun _ => (by kernel_rfl)) (h := fun r1 => ?_)
      refine aP 3 (.agg [.d (.int .u64 0), .d (.int .u64 r1)]) rfl (p_build bld65) ?_
      refine dCall (i := 6) (caps := []) (v := (fun (r11 : Int) => (.d (.int .u64 r11) : V))) (H' := (fun (r11 : Int) => ([.box [.d (.int .i64 a0), .d (.int .i64 a1)]] : List Blk))) [] _ (ref01_Size_goes k a1) rfl (ho := rfl) (hfn := Try.func37) (hb := rfl) (hconv := ConvRs.refl _ _) (hnd := by decide) (hBl := fun _ => (by kernel_rfl)) (hv := fun _ => (by kernel_rfl)) (hH' := fun _ => (by kernel_rfl)) (h := fun r11 => ?_)
      refine aP 7 (.agg [.d (.int .u64 0), .d (.int .u64 r11)]) rfl (p_build bld65) ?_
      refine dCall (i := 8) (caps := []) (v := (uc fun (r12 : Int) => (fun (r111 : Int) => (.agg [.d (.int .u64 r12), .d (.int .u64 r111)] : V)))) (H' := (uc fun (r12 : Int) => (fun (r111 : Int) => ([.box [.d (.int .i64 a0), .d (.int .i64 a1)]] : List Blk)))) [] _ (ref01_Divisor_goes k 0 r1 0 r11) rfl (ho := rfl) (hfn := Try.func62) (hb := rfl) (hconv := ConvRs.refl _ _) (hnd := by decide) (hBl := fun _ => (by kernel_rfl)) (hv := fun _ => (by kernel_rfl)) (hH' := fun _ => (by kernel_rfl)) (h := fun r => ?_)
      obtain ⟨r12, r111⟩ := r
      refine dUc ?_
      refine aTakeP (i := 10) (.d (.bool ((r12 == 0) && ((r111 == 1) && true)))) rfl (hp := k_eqAgg (hg := Try.eqGuardType65) (h := EqV.struct 1 65 [.d (.int .u64 r12), .d (.int .u64 r111)] [.d (.int .u64 0), .d (.int .u64 1)] _ ((r12 == 0) && ((r111 == 1) && true)) Try.underlying65 Try.stoodInHeld65 (EqF.one 1 1 _ _ _ _ _ _ _ (r12 == 0) ((r111 == 1) && true) (by kernel_rfl) Try.underlying62 (by kernel_rfl) (by kernel_rfl) (by kernel_rfl) (by kernel_rfl) (EqV.int 62 .u64 .u64 r12 0 Try.underlying62) (EqF.one 1 1 _ _ _ _ _ _ _ (r111 == 1) true (by kernel_rfl) Try.underlying62 (by kernel_rfl) (by kernel_rfl) (by kernel_rfl) (by kernel_rfl) (EqV.int 62 .u64 .u64 r111 1 Try.underlying62) (EqF.nil 1 _ _))))) (h := ?_)
      refine aP 11 (.d (.bool ((r12 == 0) && ((r111 == 1) && true)))) rfl p_assign ?_
      refine aDone (h := ?_)
      exact oRet (r0 := ((r12 == 0) && ((r111 == 1) && true))) (rv := .d (.bool ((r12 == 0) && ((r111 == 1) && true)))) (B := []) (vs := [.d (.bool ((r12 == 0) && ((r111 == 1) && true)))]) (σ := []) (hf := Try.func48) (hrs := rfl) (hres := .cons _ _ _ _ (.tmp 2 _ (by kernel_rfl)) .nil) (hnd := by decide)
    ·refine bPickF 16 (fun c => F (c || (decide (a0 > 1152921504606846976)))) (h1 := fun hc => ?_) (h2 := fun hc => ?_)
     ·refine oNot (h := ?_)
      refine oNot (h := ?_)
      refine oNot (h := ?_)
      refine oP (.d (.bool true)) (p_pick (b := true)) ?_
      refine oHead [1, 20] [0] (T' := [(1, .ptr 0 0), (20, .d (.bool true))]) (H' := [.box [.d (.int .i64 a0), .d (.int .i64 a1)]]) (hnd := by decide) (h := ?_)
      exact hj3 true
     ·refine oP (.ptr 0 0) (k_fieldAddr 0 0 (hu := Try.underlying38) (hf := rfl) (hi := ty3)) ?_
      refine oQ (.d (.int .i64 a0)) (k_load 0 0 (hu := Try.underlying3)) ?_
      refine oP (.d (.bool (decide (a0 > 1152921504606846976)))) (p_int (k := .i64) (p := a0) (q := 1152921504606846976)) ?_
      refine oP (.d (.bool (decide (a0 > 1152921504606846976)))) (p_pick (b := false)) ?_
      refine oHead [1, 20] [0] (T' := [(1, .ptr 0 0), (20, .d (.bool (decide (a0 > 1152921504606846976))))]) (H' := [.box [.d (.int .i64 a0), .d (.int .i64 a1)]]) (hnd := by decide) (h := ?_)
      exact hj3 (decide (a0 > 1152921504606846976))
   ·refine bPickF 11 (fun c => F (c || (decide (a0 < (-1152921504606846976))))) (h1 := fun hc => ?_) (h2 := fun hc => ?_)
    ·refine oNot (h := ?_)
     refine oNot (h := ?_)
     refine oNot (h := ?_)
     refine oP (.d (.bool true)) (p_pick (b := true)) ?_
     refine oHead [1, 15] [0] (T' := [(1, .ptr 0 0), (15, .d (.bool true))]) (H' := [.box [.d (.int .i64 a0), .d (.int .i64 a1)]]) (hnd := by decide) (h := ?_)
     exact hj2 true
    ·refine oP (.ptr 0 0) (k_fieldAddr 0 0 (hu := Try.underlying38) (hf := rfl) (hi := ty3)) ?_
     refine oQ (.d (.int .i64 a0)) (k_load 0 0 (hu := Try.underlying3)) ?_
     refine oP (.d (.bool (decide (a0 < (-1152921504606846976))))) (p_int (k := .i64) (p := a0) (q := (-1152921504606846976))) ?_
     refine oP (.d (.bool (decide (a0 < (-1152921504606846976))))) (p_pick (b := false)) ?_
     refine oHead [1, 15] [0] (T' := [(1, .ptr 0 0), (15, .d (.bool (decide (a0 < (-1152921504606846976)))))]) (H' := [.box [.d (.int .i64 a0), .d (.int .i64 a1)]]) (hnd := by decide) (h := ?_)
     exact hj2 (decide (a0 < (-1152921504606846976)))
  ·refine bPickF 6 (fun c => F (c || (decide (a1 > 1152921504606846976)))) (h1 := fun hc => ?_) (h2 := fun hc => ?_)
   ·refine oNot (h := ?_)
    refine oNot (h := ?_)
    refine oNot (h := ?_)
    refine oP (.d (.bool true)) (p_pick (b := true)) ?_
    refine oHead [1, 10] [0] (T' := [(1, .ptr 0 0), (10, .d (.bool true))]) (H' := [.box [.d (.int .i64 a0), .d (.int .i64 a1)]]) (hnd := by decide) (h := ?_)
    exact hj1 true
   ·refine oP (.ptr 0 1) (k_fieldAddr 0 0 (hu := Try.underlying38) (hf := rfl) (hi := ty3)) ?_
    refine oQ (.d (.int .i64 a1)) (k_load 0 1 (hu := Try.underlying3)) ?_
    refine oP (.d (.bool (decide (a1 > 1152921504606846976)))) (p_int (k := .i64) (p := a1) (q := 1152921504606846976)) ?_
    refine oP (.d (.bool (decide (a1 > 1152921504606846976)))) (p_pick (b := false)) ?_
    refine oHead [1, 10] [0] (T' := [(1, .ptr 0 0), (10, .d (.bool (decide (a1 > 1152921504606846976))))]) (H' := [.box [.d (.int .i64 a0), .d (.int .i64 a1)]]) (hnd := by decide) (h := ?_)
    exact hj1 (decide (a1 > 1152921504606846976))

/-- awardingbody/awardingbodyref01.Product -/
def ref01_Product (k : Nat) (a : Int) (b : Int) : Option (Int × Int) := Option.bind (math_bits_Mul64 k a b) (uc fun r14 => fun r111 => some (r14, r111))
def ref01_Product_E (a : Int) (b : Int) : Int × Int → V × List Blk := uc fun r12 => fun r13 => (.agg [.d (.int .u64 r12), .d (.int .u64 r13)], [])
theorem ref01_Product_goes (k : Nat) (a : Int) (b : Int) : RunsO Try.prog 50 [.d (.int .u64 a), .d (.int .u64 b)] [] (ref01_Product_E a b) (ref01_Product k a b) := by
  refine RunsO.of_goes (N := 16) (m := 0) (T := [(0, .d (.int .u64 a)), (1, .d (.int .u64 b))]) Try.func50 rfl rfl (h := ?_)
  unfold ref01_Product
  refine bStart ?_
  refine oSR rfl ?_
  refine oD (.ptr 0 0) (k_alloc (H' := [.box [.d (.int .u64 0), .d (.int .u64 0)]]) ty65) ?_
  refine oEnd ?_
  refine oSR rfl ?_
  refine oP (.d (.int .u64 a)) p_move ?_
  refine oP (.d (.int .u64 b)) p_move ?_
  refine bCall (caps := []) (v := (uc fun (r14 : Int) => (fun (r111 : Int) => (.tuple [.d (.int .u64 r14), .d (.int .u64 r111)] : V)))) (H' := (uc fun (r14 : Int) => (fun (r111 : Int) => ([.box [.d (.int .u64 0), .d (.int .u64 0)]] : List Blk)))) [] _ (math_bits_Mul64_goes k a b) (ho := rfl) (hfn := Try.func81) (hb := rfl) (hconv := ConvRs.refl _ _) (hnd := by decide) (hBl := fun _ => (by kernel_rfl)) (hv := fun _ => (by kernel_rfl)) (hH' := fun _ => (by kernel_rfl)) (h := fun r => ?_)
  obtain ⟨r14, r111⟩ := r
  refine bUc ?_
  refine oP (.tuple [.d (.int .u64 r14), .d (.int .u64 r111)]) p_move ?_
  refine oP (.d (.int .u64 r14)) k_extract ?_
  refine oP (.d (.int .u64 r111)) k_extract ?_
  refine oP (.d (.int .u64 r14)) p_assign ?_
  refine oP (.d (.int .u64 r111)) p_assign ?_
  refine oEnd ?_
  refine oSR rfl ?_
  refine oP (.d (.int .u64 r14)) p_move ?_
  refine oP (.d (.int .u64 r111)) p_move ?_
  refine oP (.agg [.d (.int .u64 r14), .d (.int .u64 r111)]) (p_build bld65) ?_
  refine oD (.undef) (k_store (vs := [.d (.int .u64 r14), .d (.int .u64 r111)]) (H' := [.box [.d (.int .u64 r14), .d (.int .u64 r111)]]) 0 0 (hi := ty65)) ?_
  refine oEnd ?_
  exact oRet (r0 := (r14, r111)) (rv := .agg [.d (.int .u64 r14), .d (.int .u64 r111)]) (B := []) (vs := [.agg [.d (.int .u64 r14), .d (.int .u64 r111)]]) (σ := []) (hf := Try.func50) (hrs := rfl) (hres := .cons _ _ _ _ (.agg 4 65 0 0 [.d (.int .u64 r14), .d (.int .u64 r111)] [.d (.int .u64 r14), .d (.int .u64 r111)] _ _ _ _ (by kernel_rfl) (by kernel_rfl) Try.underlying65 (by kernel_rfl) ty65 (by kernel_rfl) (by kernel_rfl)) .nil) (hnd := by decide)

/-- awardingbody/awardingbodyref01.Plus -/
def ref01_Plus (k : Nat) (a0 : Int) (a1 : Int) (b0 : Int) (b1 : Int) : Option (Unit) := gcarry a1 b1 0 (gcarry a0 b0 ((a1 + b1 + 0) / 18446744073709551616) (some ()))
def ref01_Plus_E (a0 : Int) (a1 : Int) (b0 : Int) (b1 : Int) : Unit → V × List Blk := u0 ((.agg [.d (.int .u64 ((a0 + b0 + ((a1 + b1 + 0) / 18446744073709551616)) % 18446744073709551616)), .d (.int .u64 ((a1 + b1 + 0) % 18446744073709551616))], []))
theorem ref01_Plus_goes (k : Nat) (a0 : Int) (a1 : Int) (b0 : Int) (b1 : Int) : RunsO Try.prog 78 [.agg [.d (.int .u64 a0), .d (.int .u64 a1)], .agg [.d (.int .u64 b0), .d (.int .u64 b1)]] [] (ref01_Plus_E a0 a1 b0 b1) (ref01_Plus k a0 a1 b0 b1) := by
  refine RunsO.of_goes (N := 29) (m := 0) (T := [(0, .agg [.d (.int .u64 a0), .d (.int .u64 a1)]), (1, .agg [.d (.int .u64 b0), .d (.int .u64 b1)])]) Try.func78 rfl rfl (h := ?_)
  unfold ref01_Plus
  refine bStart ?_
  refine oSR rfl ?_
  refine oD (.ptr 0 0) (k_box (H' := [.box [.d (.int .u64 a0), .d (.int .u64 a1)]]) (cells := [.d (.int .u64 a0), .d (.int .u64 a1)])) ?_
  refine oD (.ptr 1 0) (k_box (H' := [.box [.d (.int .u64 a0), .d (.int .u64 a1)], .box [.d (.int .u64 b0), .d (.int .u64 b1)]]) (cells := [.d (.int .u64 b0), .d (.int .u64 b1)])) ?_
  refine oD (.ptr 2 0) (k_alloc (H' := [.box [.d (.int .u64 a0), .d (.int .u64 a1)], .box [.d (.int .u64 b0), .d (.int .u64 b1)], .box [.d (.int .u64 0), .d (.int .u64 0)]]) ty65) ?_
  refine oEnd ?_
  refine oSR rfl ?_
  refine oP (.ptr 0 1) (k_fieldAddr 0 0 (hu := Try.underlying65) (hf := rfl) (hi := ty62)) ?_
  refine oQ (.d (.int .u64 a1)) (k_load 0 1 (hu := Try.underlying62)) ?_
  refine oP (.ptr 1 1) (k_fieldAddr 1 0 (hu := Try.underlying65) (hf := rfl) (hi := ty62)) ?_
  refine oQ (.d (.int .u64 b1)) (k_load 1 1 (hu := Try.underlying62)) ?_
  refine bCarry (fun h12 => ?_)
  refine oP (.tuple [.d (.int .u64 ((a1 + b1 + 0) % 18446744073709551616)), .d (.int .u64 ((a1 + b1 + 0) / 18446744073709551616))]) (p_add64 (p := a1) (q := b1) (c := 0) (hfn := Try.func93) (hc := h12)) ?_
  refine oP (.tuple [.d (.int .u64 ((a1 + b1 + 0) % 18446744073709551616)), .d (.int .u64 ((a1 + b1 + 0) / 18446744073709551616))]) p_move ?_
  refine oP (.d (.int .u64 ((a1 + b1 + 0) % 18446744073709551616))) k_extract ?_
  refine oP (.d (.int .u64 ((a1 + b1 + 0) / 18446744073709551616))) k_extract ?_
  refine oP (.d (.int .u64 ((a1 + b1 + 0) % 18446744073709551616))) p_assign ?_
  refine oP (.d (.int .u64 ((a1 + b1 + 0) / 18446744073709551616))) p_assign ?_
  refine oEnd ?_
  refine oSR rfl ?_
  refine oP (.ptr 0 0) (k_fieldAddr 0 0 (hu := Try.underlying65) (hf := rfl) (hi := ty62)) ?_
  refine oQ (.d (.int .u64 a0)) (k_load 0 0 (hu := Try.underlying62)) ?_
  refine oP (.ptr 1 0) (k_fieldAddr 1 0 (hu := Try.underlying65) (hf := rfl) (hi := ty62)) ?_
  refine oQ (.d (.int .u64 b0)) (k_load 1 0 (hu := Try.underlying62)) ?_
  refine oP (.d (.int .u64 ((a1 + b1 + 0) / 18446744073709551616))) p_move ?_
  refine bCarry (fun h13 => ?_)
  refine oP (.tuple [.d (.int .u64 ((a0 + b0 + ((a1 + b1 + 0) / 18446744073709551616)) % 18446744073709551616)), .d (.int .u64 ((a0 + b0 + ((a1 + b1 + 0) / 18446744073709551616)) / 18446744073709551616))]) (p_add64 (p := a0) (q := b0) (c := ((a1 + b1 + 0) / 18446744073709551616)) (hfn := Try.func93) (hc := h13)) ?_
  refine oP (.tuple [.d (.int .u64 ((a0 + b0 + ((a1 + b1 + 0) / 18446744073709551616)) % 18446744073709551616)), .d (.int .u64 ((a0 + b0 + ((a1 + b1 + 0) / 18446744073709551616)) / 18446744073709551616))]) p_move ?_
  refine oP (.d (.int .u64 ((a0 + b0 + ((a1 + b1 + 0) / 18446744073709551616)) % 18446744073709551616))) k_extract ?_
  refine oP (.d (.int .u64 ((a0 + b0 + ((a1 + b1 + 0) / 18446744073709551616)) / 18446744073709551616))) k_extract ?_
  refine oP (.d (.int .u64 ((a0 + b0 + ((a1 + b1 + 0) / 18446744073709551616)) % 18446744073709551616))) p_assign ?_
  refine oP (.d (.int .u64 ((a0 + b0 + ((a1 + b1 + 0) / 18446744073709551616)) / 18446744073709551616))) p_assign ?_
  refine oEnd ?_
  refine oSR rfl ?_
  refine oP (.d (.int .u64 ((a0 + b0 + ((a1 + b1 + 0) / 18446744073709551616)) % 18446744073709551616))) p_move ?_
  refine oP (.d (.int .u64 ((a1 + b1 + 0) % 18446744073709551616))) p_move ?_
  refine oP (.agg [.d (.int .u64 ((a0 + b0 + ((a1 + b1 + 0) / 18446744073709551616)) % 18446744073709551616)), .d (.int .u64 ((a1 + b1 + 0) % 18446744073709551616))]) (p_build bld65) ?_
  refine oD (.undef) (k_store (vs := [.d (.int .u64 ((a0 + b0 + ((a1 + b1 + 0) / 18446744073709551616)) % 18446744073709551616)), .d (.int .u64 ((a1 + b1 + 0) % 18446744073709551616))]) (H' := [.box [.d (.int .u64 a0), .d (.int .u64 a1)], .box [.d (.int .u64 b0), .d (.int .u64 b1)], .box [.d (.int .u64 ((a0 + b0 + ((a1 + b1 + 0) / 18446744073709551616)) % 18446744073709551616)), .d (.int .u64 ((a1 + b1 + 0) % 18446744073709551616))]]) 2 0 (hi := ty65)) ?_
  refine oEnd ?_
  exact oRet (r0 := ()) (rv := .agg [.d (.int .u64 ((a0 + b0 + ((a1 + b1 + 0) / 18446744073709551616)) % 18446744073709551616)), .d (.int .u64 ((a1 + b1 + 0) % 18446744073709551616))]) (B := []) (vs := [.agg [.d (.int .u64 ((a0 + b0 + ((a1 + b1 + 0) / 18446744073709551616)) % 18446744073709551616)), .d (.int .u64 ((a1 + b1 + 0) % 18446744073709551616))]]) (σ := []) (hf := Try.func78) (hrs := rfl) (hres := .cons _ _ _ _ (.agg 4 65 2 0 [.d (.int .u64 ((a0 + b0 + ((a1 + b1 + 0) / 18446744073709551616)) % 18446744073709551616)), .d (.int .u64 ((a1 + b1 + 0) % 18446744073709551616))] [.d (.int .u64 ((a0 + b0 + ((a1 + b1 + 0) / 18446744073709551616)) % 18446744073709551616)), .d (.int .u64 ((a1 + b1 + 0) % 18446744073709551616))] _ _ _ _ (by kernel_rfl) (by kernel_rfl) Try.underlying65 (by kernel_rfl) ty65 (by kernel_rfl) (by kernel_rfl)) .nil) (hnd := by decide)

/-- awardingbody/awardingbodyref01.total -/
def ref01_total (k : Nat) (x : Bool) (a0 : Int) (a1 : Int) (y : Bool) (b0 : Int) (b1 : Int) : Option (Bool × Int × Int) := bif (x == y) then Option.bind (ref01_Plus k a0 a1 b0 b1) (u0 (some (x, ((a0 + b0 + ((a1 + b1 + 0) / 18446744073709551616)) % 18446744073709551616), ((a1 + b1 + 0) % 18446744073709551616)))) else Option.bind (ref01_Order k a0 a1 b0 b1) (fun r14 => bif (decide (r14 ≥ 0)) then Option.bind (ref01_Minus k a0 a1 b0 b1) (u0 (some (x, ((a0 - b0 - (if a1 < b1 + 0 then 1 else 0)) % 18446744073709551616), ((a1 - b1 - 0) % 18446744073709551616)))) else Option.bind (ref01_Minus k b0 b1 a0 a1) (u0 (some (y, ((b0 - a0 - (if b1 < a1 + 0 then 1 else 0)) % 18446744073709551616), ((b1 - a1 - 0) % 18446744073709551616)))))
def ref01_total_E (x : Bool) (a0 : Int) (a1 : Int) (y : Bool) (b0 : Int) (b1 : Int) : Bool × Int × Int → V × List Blk := uc fun r11 => uc fun r12 => fun r13 => (.tuple [.d (.bool r11), .agg [.d (.int .u64 r12), .d (.int .u64 r13)]], [])
theorem ref01_total_goes (k : Nat) (x : Bool) (a0 : Int) (a1 : Int) (y : Bool) (b0 : Int) (b1 : Int) : RunsO Try.prog 49 [.d (.bool x), .agg [.d (.int .u64 a0), .d (.int .u64 a1)], .d (.bool y), .agg [.d (.int .u64 b0), .d (.int .u64 b1)]] [] (ref01_total_E x a0 a1 y b0 b1) (ref01_total k x a0 a1 y b0 b1) := by
  refine RunsO.of_goes (N := 29) (m := 0) (T := [(0, .d (.bool x)), (1, .agg [.d (.int .u64 a0), .d (.int .u64 a1)]), (2, .d (.bool y)), (3, .agg [.d (.int .u64 b0), .d (.int .u64 b1)])]) Try.func49 rfl rfl (h := ?_)
  unfold ref01_total
  refine bStart ?_
  refine oSR rfl ?_
  refine oD (.ptr 0 0) (k_box (H' := [.box [.d (.int .u64 a0), .d (.int .u64 a1)]]) (cells := [.d (.int .u64 a0), .d (.int .u64 a1)])) ?_
  refine oD (.ptr 1 0) (k_box (H' := [.box [.d (.int .u64 a0), .d (.int .u64 a1)], .box [.d (.int .u64 b0), .d (.int .u64 b1)]]) (cells := [.d (.int .u64 b0), .d (.int .u64 b1)])) ?_
  refine oP (.d (.bool false)) p_assign ?_
  refine oD (.ptr 2 0) (k_alloc (H' := [.box [.d (.int .u64 a0), .d (.int .u64 a1)], .box [.d (.int .u64 b0), .d (.int .u64 b1)], .box [.d (.int .u64 0), .d (.int .u64 0)]]) ty65) ?_
  refine oEnd ?_
  refine oSeq ?_
  refine oSR rfl ?_
  refine oP (.d (.bool x)) p_move ?_
  refine oP (.d (.bool y)) p_move ?_
  refine oP (.d (.bool (x == y))) (p_boolEq (p := x) (q := y) (hu := Try.underlying4)) ?_
  refine oEnd ?_
  refine bSplit 12 (h1 := fun hc => ?_) (h2 := fun hc => ?_)
  ·refine oCondT (h := ?_)
   refine oSR rfl ?_
   refine oP (.d (.bool x)) p_move ?_
   refine oQ (.agg [.d (.int .u64 a0), .d (.int .u64 a1)]) (k_loadAgg 0 0 (hu := Try.underlying65) (hi := ty65)) ?_
   refine oQ (.agg [.d (.int .u64 b0), .d (.int .u64 b1)]) (k_loadAgg 1 0 (hu := Try.underlying65) (hi := ty65)) ?_
   refine bCall (caps := []) (v := (u0 ((.agg [.d (.int .u64 ((a0 + b0 + ((a1 + b1 + 0) / 18446744073709551616)) % 18446744073709551616)), .d (.int .u64 ((a1 + b1 + 0) % 18446744073709551616))] : V)))) (H' := (u0 (([.box [.d (.int .u64 a0), .d (.int .u64 a1)], .box [.d (.int .u64 b0), .d (.int .u64 b1)], .box [.d (.int .u64 0), .d (.int .u64 0)]] : List Blk)))) [] _ (ref01_Plus_goes k a0 a1 b0 b1) (ho := rfl) (hfn := Try.func78) (hb := rfl) (hconv := ConvRs.refl _ _) (hnd := by decide) (hBl := fun _ => (by kernel_rfl)) (hv := fun _ => (by kernel_rfl)) (hH' := fun _ => (by kernel_rfl)) (h := fun r => ?_)
   cases r
   refine bU0 ?_
   refine oP (.d (.bool x)) p_assign ?_
   refine oD (.undef) (k_store (vs := [.d (.int .u64 ((a0 + b0 + ((a1 + b1 + 0) / 18446744073709551616)) % 18446744073709551616)), .d (.int .u64 ((a1 + b1 + 0) % 18446744073709551616))]) (H' := [.box [.d (.int .u64 a0), .d (.int .u64 a1)], .box [.d (.int .u64 b0), .d (.int .u64 b1)], .box [.d (.int .u64 ((a0 + b0 + ((a1 + b1 + 0) / 18446744073709551616)) % 18446744073709551616)), .d (.int .u64 ((a1 + b1 + 0) % 18446744073709551616))]]) 2 0 (hi := ty65)) ?_
   refine oEnd ?_
   exact oRet (r0 := (x, ((a0 + b0 + ((a1 + b1 + 0) / 18446744073709551616)) % 18446744073709551616), ((a1 + b1 + 0) % 18446744073709551616))) (rv := .tuple [.d (.bool x), .agg [.d (.int .u64 ((a0 + b0 + ((a1 + b1 + 0) / 18446744073709551616)) % 18446744073709551616)), .d (.int .u64 ((a1 + b1 + 0) % 18446744073709551616))]]) (B := []) (vs := [.d (.bool x), .agg [.d (.int .u64 ((a0 + b0 + ((a1 + b1 + 0) / 18446744073709551616)) % 18446744073709551616)), .d (.int .u64 ((a1 + b1 + 0) % 18446744073709551616))]]) (σ := []) (hf := Try.func49) (hrs := rfl) (hres := .cons _ _ _ _ (.tmp 8 _ (by kernel_rfl)) (.cons _ _ _ _ (.agg 9 65 2 0 [.d (.int .u64 ((a0 + b0 + ((a1 + b1 + 0) / 18446744073709551616)) % 18446744073709551616)), .d (.int .u64 ((a1 + b1 + 0) % 18446744073709551616))] [.d (.int .u64 ((a0 + b0 + ((a1 + b1 + 0) / 18446744073709551616)) % 18446744073709551616)), .d (.int .u64 ((a1 + b1 + 0) % 18446744073709551616))] _ _ _ _ (by kernel_rfl) (by kernel_rfl) Try.underlying65 (by kernel_rfl) ty65 (by kernel_rfl) (by kernel_rfl)) .nil)) (hnd := by decide)
  ·refine oCondF (h := ?_)
   refine oSkip ?_
   refine oSeq ?_
   refine oSR rfl ?_
   refine oQ (.agg [.d (.int .u64 a0), .d (.int .u64 a1)]) (k_loadAgg 0 0 (hu := Try.underlying65) (hi := ty65)) ?_
   refine oQ (.agg [.d (.int .u64 b0), .d (.int .u64 b1)]) (k_loadAgg 1 0 (hu := Try.underlying65) (hi := ty65)) ?_
   refine bCall (caps := []) (v := (fun (r14 : Int) => (.d (.int .i64 r14) : V))) (H' := (fun (r14 : Int) => ([.box [.d (.int .u64 a0), .d (.int .u64 a1)], .box [.d (.int .u64 b0), .d (.int .u64 b1)], .box [.d (.int .u64 0), .d (.int .u64 0)]] : List Blk))) [] _ (ref01_Order_goes k a0 a1 b0 b1) (ho := rfl) (hfn := Try.func79) (hb := rfl) (hconv := ConvRs.refl _ _) (hnd := by decide) (hBl := fun _ => (by kernel_rfl)) (hv := fun _ => (by kernel_rfl)) (hH' := fun _ => (by kernel_rfl)) (h := fun r14 => ?_)
   refine oP (.d (.bool (decide (r14 ≥ 0)))) (p_int (k := .i64) (p := r14) (q := 0)) ?_
   refine oEnd ?_
   refine bSplit 20 (h1 := fun hc => ?_) (h2 := fun hc => ?_)
   ·refine oCondT (h := ?_)
    refine oSR rfl ?_
    refine oP (.d (.bool x)) p_move ?_
    refine oQ (.agg [.d (.int .u64 a0), .d (.int .u64 a1)]) (k_loadAgg 0 0 (hu := Try.underlying65) (hi := ty65)) ?_
    refine oQ (.agg [.d (.int .u64 b0), .d (.int .u64 b1)]) (k_loadAgg 1 0 (hu := Try.underlying65) (hi := ty65)) ?_
    refine bCall (caps := []) (v := (u0 ((.agg [.d (.int .u64 ((a0 - b0 - (if a1 < b1 + 0 then 1 else 0)) % 18446744073709551616)), .d (.int .u64 ((a1 - b1 - 0) % 18446744073709551616))] : V)))) (H' := (u0 (([.box [.d (.int .u64 a0), .d (.int .u64 a1)], .box [.d (.int .u64 b0), .d (.int .u64 b1)], .box [.d (.int .u64 0), .d (.int .u64 0)]] : List Blk)))) [] _ (ref01_Minus_goes k a0 a1 b0 b1) (ho := rfl) (hfn := Try.func80) (hb := rfl) (hconv := ConvRs.refl _ _) (hnd := by decide) (hBl := fun _ => (by kernel_rfl)) (hv := fun _ => (by kernel_rfl)) (hH' := fun _ => (by kernel_rfl)) (h := fun r => ?_)
    cases r
    refine bU0 ?_
    refine oP (.d (.bool x)) p_assign ?_
    refine oD (.undef) (k_store (vs := [.d (.int .u64 ((a0 - b0 - (if a1 < b1 + 0 then 1 else 0)) % 18446744073709551616)), .d (.int .u64 ((a1 - b1 - 0) % 18446744073709551616))]) (H' := [.box [.d (.int .u64 a0), .d (.int .u64 a1)], .box [.d (.int .u64 b0), .d (.int .u64 b1)], .box [.d (.int .u64 ((a0 - b0 - (if a1 < b1 + 0 then 1 else 0)) % 18446744073709551616)), .d (.int .u64 ((a1 - b1 - 0) % 18446744073709551616))]]) 2 0 (hi := ty65)) ?_
    refine oEnd ?_
    exact oRet (r0 := (x, ((a0 - b0 - (if a1 < b1 + 0 then 1 else 0)) % 18446744073709551616), ((a1 - b1 - 0) % 18446744073709551616))) (rv := .tuple [.d (.bool x), .agg [.d (.int .u64 ((a0 - b0 - (if a1 < b1 + 0 then 1 else 0)) % 18446744073709551616)), .d (.int .u64 ((a1 - b1 - 0) % 18446744073709551616))]]) (B := []) (vs := [.d (.bool x), .agg [.d (.int .u64 ((a0 - b0 - (if a1 < b1 + 0 then 1 else 0)) % 18446744073709551616)), .d (.int .u64 ((a1 - b1 - 0) % 18446744073709551616))]]) (σ := []) (hf := Try.func49) (hrs := rfl) (hres := .cons _ _ _ _ (.tmp 8 _ (by kernel_rfl)) (.cons _ _ _ _ (.agg 9 65 2 0 [.d (.int .u64 ((a0 - b0 - (if a1 < b1 + 0 then 1 else 0)) % 18446744073709551616)), .d (.int .u64 ((a1 - b1 - 0) % 18446744073709551616))] [.d (.int .u64 ((a0 - b0 - (if a1 < b1 + 0 then 1 else 0)) % 18446744073709551616)), .d (.int .u64 ((a1 - b1 - 0) % 18446744073709551616))] _ _ _ _ (by kernel_rfl) (by kernel_rfl) Try.underlying65 (by kernel_rfl) ty65 (by kernel_rfl) (by kernel_rfl)) .nil)) (hnd := by decide)
   ·refine oCondF (h := ?_)
    refine oSkip ?_
    refine oSR rfl ?_
    refine oP (.d (.bool y)) p_move ?_
    refine oQ (.agg [.d (.int .u64 b0), .d (.int .u64 b1)]) (k_loadAgg 1 0 (hu := Try.underlying65) (hi := ty65)) ?_
    refine oQ (.agg [.d (.int .u64 a0), .d (.int .u64 a1)]) (k_loadAgg 0 0 (hu := Try.underlying65) (hi := ty65)) ?_
    refine bCall (caps := []) (v := (u0 ((.agg [.d (.int .u64 ((b0 - a0 - (if b1 < a1 + 0 then 1 else 0)) % 18446744073709551616)), .d (.int .u64 ((b1 - a1 - 0) % 18446744073709551616))] : V)))) (H' := (u0 (([.box [.d (.int .u64 a0), .d (.int .u64 a1)], .box [.d (.int .u64 b0), .d (.int .u64 b1)], .box [.d (.int .u64 0), .d (.int .u64 0)]] : List Blk)))) [] _ (ref01_Minus_goes k b0 b1 a0 a1) (ho := rfl) (hfn := Try.func80) (hb := rfl) (hconv := ConvRs.refl _ _) (hnd := by decide) (hBl := fun _ => (by kernel_rfl)) (hv := fun _ => (by kernel_rfl)) (hH' := fun _ => (by kernel_rfl)) (h := fun r => ?_)
    cases r
    refine bU0 ?_
    refine oP (.d (.bool y)) p_assign ?_
    refine oD (.undef) (k_store (vs := [.d (.int .u64 ((b0 - a0 - (if b1 < a1 + 0 then 1 else 0)) % 18446744073709551616)), .d (.int .u64 ((b1 - a1 - 0) % 18446744073709551616))]) (H' := [.box [.d (.int .u64 a0), .d (.int .u64 a1)], .box [.d (.int .u64 b0), .d (.int .u64 b1)], .box [.d (.int .u64 ((b0 - a0 - (if b1 < a1 + 0 then 1 else 0)) % 18446744073709551616)), .d (.int .u64 ((b1 - a1 - 0) % 18446744073709551616))]]) 2 0 (hi := ty65)) ?_
    refine oEnd ?_
    exact oRet (r0 := (y, ((b0 - a0 - (if b1 < a1 + 0 then 1 else 0)) % 18446744073709551616), ((b1 - a1 - 0) % 18446744073709551616))) (rv := .tuple [.d (.bool y), .agg [.d (.int .u64 ((b0 - a0 - (if b1 < a1 + 0 then 1 else 0)) % 18446744073709551616)), .d (.int .u64 ((b1 - a1 - 0) % 18446744073709551616))]]) (B := []) (vs := [.d (.bool y), .agg [.d (.int .u64 ((b0 - a0 - (if b1 < a1 + 0 then 1 else 0)) % 18446744073709551616)), .d (.int .u64 ((b1 - a1 - 0) % 18446744073709551616))]]) (σ := []) (hf := Try.func49) (hrs := rfl) (hres := .cons _ _ _ _ (.tmp 8 _ (by kernel_rfl)) (.cons _ _ _ _ (.agg 9 65 2 0 [.d (.int .u64 ((b0 - a0 - (if b1 < a1 + 0 then 1 else 0)) % 18446744073709551616)), .d (.int .u64 ((b1 - a1 - 0) % 18446744073709551616))] [.d (.int .u64 ((b0 - a0 - (if b1 < a1 + 0 then 1 else 0)) % 18446744073709551616)), .d (.int .u64 ((b1 - a1 - 0) % 18446744073709551616))] _ _ _ _ (by kernel_rfl) (by kernel_rfl) Try.underlying65 (by kernel_rfl) ty65 (by kernel_rfl) (by kernel_rfl)) .nil)) (hnd := by decide)

/-- awardingbody/awardingbodyref01.Add -/
def ref01_Add (k : Nat) (a0 : Int) (a1 : Int) (b0 : Int) (b1 : Int) : Option (Int × Int × Int) := Option.bind (ref01_Valid k a0 a1) (fun r137 => Option.bind (bif (!r137) then some true else Option.bind (ref01_Valid k b0 b1) (fun r139 => some (!r139)) : Option (Bool)) (fun x1 => bif x1 then some (0, 0, 1) else Option.bind (ref01_Size k a0) (fun r1 => Option.bind (ref01_Size k b1) (fun r11 => Option.bind (ref01_Product k r1 r11) (uc fun r12 => fun r132 => Option.bind (ref01_Size k b0) (fun r14 => Option.bind (ref01_Size k a1) (fun r15 => Option.bind (ref01_Product k r14 r15) (uc fun r121 => fun r133 => Option.bind (ref01_total k (decide (a0 < 0)) r12 r132 (decide (b0 < 0)) r121 r133) (uc fun r111 => uc fun r122 => fun r134 => Option.bind (ref01_Size k a1) (fun r16 => Option.bind (ref01_Size k b1) (fun r17 => Option.bind (ref01_Product k r16 r17) (uc fun r123 => fun r135 => Option.bind (ref01_Reduce k r111 r122 r134 r123 r135) (uc fun r124 => uc fun r136 => fun r141 => some (r124, r136, r141))))))))))))))
def ref01_Add_E (a0 : Int) (a1 : Int) (b0 : Int) (b1 : Int) : Int × Int × Int → V × List Blk := uc fun r18 => uc fun r19 => fun r110 => (.tuple [.agg [.d (.int .i64 r18), .d (.int .i64 r19)], .d (.int .i64 r110)], [])
theorem ref01_Add_goes (k : Nat) (a0 : Int) (a1 : Int) (b0 : Int) (b1 : Int) : RunsO Try.prog 22 [.agg [.d (.int .i64 a0), .d (.int .i64 a1)], .agg [.d (.int .i64 b0), .d (.int .i64 b1)]] [] (ref01_Add_E a0 a1 b0 b1) (ref01_Add k a0 a1 b0 b1) := by
  refine RunsO.of_goes (N := 53) (m := 0) (T := [(0, .agg [.d (.int .i64 a0), .d (.int .i64 a1)]), (1, .agg [.d (.int .i64 b0), .d (.int .i64 b1)])]) Try.func22 rfl rfl (h := ?_)
  unfold ref01_Add
  refine bStart ?_
  refine oSR rfl ?_
  refine oD (.ptr 0 0) (k_box (H' := [.box [.d (.int .i64 a0), .d (.int .i64 a1)]]) (cells := [.d (.int .i64 a0), .d (.int .i64 a1)])) ?_
  refine oD (.ptr 1 0) (k_box (H' := [.box [.d (.int .i64 a0), .d (.int .i64 a1)], .box [.d (.int .i64 b0), .d (.int .i64 b1)]]) (cells := [.d (.int .i64 b0), .d (.int .i64 b1)])) ?_
  refine oD (.ptr 2 0) (k_alloc (H' := [.box [.d (.int .i64 a0), .d (.int .i64 a1)], .box [.d (.int .i64 b0), .d (.int .i64 b1)], .box [.d (.int .i64 0), .d (.int .i64 0)]]) ty38) ?_
  refine oP (.d (.int .i64 0)) p_assign ?_
  refine oEnd ?_
  refine oSeq ?_
  refine oSR rfl ?_
  refine oQ (.agg [.d (.int .i64 a0), .d (.int .i64 a1)]) (k_loadAgg 0 0 (hu := Try.underlying38) (hi := ty38)) ?_
  refine bCall (caps := []) (v := (fun (r137 : Bool) => (.d (.bool r137) : V))) (H' := (fun (r137 : Bool) => ([.box [.d (.int .i64 a0), .d (.int .i64 a1)], .box [.d (.int .i64 b0), .d (.int .i64 b1)], .box [.d (.int .i64 0), .d (.int .i64 0)]] : List Blk))) [] _ (ref01_Valid_goes k a0 a1) (ho := rfl) (hfn := Try.func48) (hb := rfl) (hconv := ConvRs.refl _ _) (hnd := by decide) (hBl := fun _ => (by kernel_rfl)) (hv := fun _ => (by kernel_rfl)) (hH' := fun _ => (by kernel_rfl)) (h := fun r137 => ?_)
  refine oP (.d (.bool (!r137))) (p_not (p := r137)) ?_
  refine oP (.d (.bool (!r137))) p_move ?_
  refine bMeet 4 rfl ((fun (x1 : Bool) => [(2, .ptr 0 0), (3, .ptr 1 0), (4, .ptr 2 0), (15, .d (.bool x1))])) ((fun (x1 : Bool) => [.box [.d (.int .i64 a0), .d (.int .i64 a1)], .box [.d (.int .i64 b0), .d (.int .i64 b1)], .box [.d (.int .i64 0), .d (.int .i64 0)]])) (fun s => s) (fun x1 => ?_) (fun hj1 => ?_)
  ·refine oView (T' := [(2, .ptr 0 0), (3, .ptr 1 0), (4, .ptr 2 0), (15, .d (.bool x1))]) (H' := [.box [.d (.int .i64 a0), .d (.int .i64 a1)], .box [.d (.int .i64 b0), .d (.int .i64 b1)], .box [.d (.int .i64 0), .d (.int .i64 0)]]) (h := ?_)
   refine oEnd ?_
   refine bSplit 15 (h1 := fun hc => ?_) (h2 := fun hc => ?_)
   ·refine oCondT (h := ?_)
    refine oSR rfl ?_
    refine oP (.agg [.d (.int .i64 0), .d (.int .i64 0)]) (p_build bld38) ?_
    refine oD (.undef) (k_store (vs := [.d (.int .i64 0), .d (.int .i64 0)]) (H' := [.box [.d (.int .i64 a0), .d (.int .i64 a1)], .box [.d (.int .i64 b0), .d (.int .i64 b1)], .box [.d (.int .i64 0), .d (.int .i64 0)]]) 2 0 (hi := ty38)) ?_
    refine oP (.d (.int .i64 1)) p_assign ?_
    refine oEnd ?_
    exact oRet (r0 := (0, 0, 1)) (rv := .tuple [.agg [.d (.int .i64 0), .d (.int .i64 0)], .d (.int .i64 1)]) (B := []) (vs := [.agg [.d (.int .i64 0), .d (.int .i64 0)], .d (.int .i64 1)]) (σ := []) (hf := Try.func22) (hrs := rfl) (hres := .cons _ _ _ _ (.agg 4 38 2 0 [.d (.int .i64 0), .d (.int .i64 0)] [.d (.int .i64 0), .d (.int .i64 0)] _ _ _ _ (by kernel_rfl) (by kernel_rfl) Try.underlying38 (by kernel_rfl) ty38 (by kernel_rfl) (by kernel_rfl)) (.cons _ _ _ _ (.tmp 5 _ (by kernel_rfl)) .nil)) (hnd := by decide)
   ·refine oCondF (h := ?_)
    refine oSkip ?_
    refine oSeq ?_
    refine oDraw [(0, 27), (1, 27), (2, 27)] rfl ?_
    refine aP 0 (.ptr 0 0) rfl (k_fieldAddr 0 0 (hu := Try.underlying38) (hf := rfl) (hi := ty3)) ?_
    refine aQ 1 [0] (.d (.int .i64 a0)) rfl (k_load 0 0 (hu := Try.underlying3)) ?_
    refine aP 2 (.d (.bool (decide (a0 < 0)))) rfl (p_int (k := .i64) (p := a0) (q := 0)) ?_
    refine aP 3 (.ptr 0 0) rfl (k_fieldAddr 0 0 (hu := Try.underlying38) (hf := rfl) (hi := ty3)) ?_
    refine aQ 4 [0] (.d (.int .i64 a0)) rfl (k_load 0 0 (hu := Try.underlying3)) ?_
    refine aP 6 (.ptr 1 1) rfl (k_fieldAddr 1 0 (hu := Try.underlying38) (hf := rfl) (hi := ty3)) ?_
    refine aQ 7 [1] (.d (.int .i64 b1)) rfl (k_load 1 1 (hu := Try.underlying3)) ?_
    refine aP 10 (.ptr 1 0) rfl (k_fieldAddr 1 0 (hu := Try.underlying38) (hf := rfl) (hi := ty3)) ?_
    refine aQ 11 [1] (.d (.int .i64 b0)) rfl (k_load 1 0 (hu := Try.underlying3)) ?_
    refine aP 12 (.d (.bool (decide (b0 < 0)))) rfl (p_int (k := .i64) (p := b0) (q := 0)) ?_
    refine aP 13 (.ptr 1 0) rfl (k_fieldAddr 1 0 (hu := Try.underlying38) (hf := rfl) (hi := ty3)) ?_
    refine aQ 14 [1] (.d (.int .i64 b0)) rfl (k_load 1 0 (hu := Try.underlying3)) ?_
    refine aP 16 (.ptr 0 1) rfl (k_fieldAddr 0 0 (hu := Try.underlying38) (hf := rfl) (hi := ty3)) ?_
    refine aQ 17 [0] (.d (.int .i64 a1)) rfl (k_load 0 1 (hu := Try.underlying3)) ?_
    refine dCall (i := 5) (caps := []) (v := (fun (r1 : Int) => (.d (.int .u64 r1) : V))) (H' := (fun (r1 : Int) => ([.box [.d (.int .i64 a0), .d (.int .i64 a1)], .box [.d (.int .i64 b0), .d (.int .i64 b1)], .box [.d (.int .i64 0), .d (.int .i64 0)]] : List Blk))) [] _ (ref01_Size_goes k a0) rfl (ho := rfl) (hfn := Try.func37) (hb := rfl) (hconv := ConvRs.refl _ _) (hnd := by decide) (hBl := fun _ => (by kernel_rfl)) (hv := fun _ => (by kernel_rfl)) (hH' := fun _ => (by kernel_rfl)) (h := fun r1 => ?_)
    refine dCall (i := 8) (caps := []) (v := (fun (r11 : Int) => (.d (.int .u64 r11) : V))) (H' := (fun (r11 : Int) => ([.box [.d (.int .i64 a0), .d (.int .i64 a1)], .box [.d (.int .i64 b0), .d (.int .i64 b1)], .box [.d (.int .i64 0), .d (.int .i64 0)]] : List Blk))) [] _ (ref01_Size_goes k b1) rfl (ho := rfl) (hfn := Try.func37) (hb := rfl) (hconv := ConvRs.refl _ _) (hnd := by decide) (hBl := fun _ => (by kernel_rfl)) (hv := fun _ => (by kernel_rfl)) (hH' := fun _ => (by kernel_rfl)) (h := fun r11 => ?_)
    refine dCall (i := 9) (caps := []) (v := (uc fun (r12 : Int) => (fun (r132 : Int) => (.agg [.d (.int .u64 r12), .d (.int .u64 r132)] : V)))) (H' := (uc fun (r12 : Int) => (fun (r132 : Int) => ([.box [.d (.int .i64 a0), .d (.int .i64 a1)], .box [.d (.int .i64 b0), .d (.int .i64 b1)], .box [.d (.int .i64 0), .d (.int .i64 0)]] : List Blk)))) [] _ (ref01_Product_goes k r1 r11) rfl (ho := rfl) (hfn := Try.func50) (hb := rfl) (hconv := ConvRs.refl _ _) (hnd := by decide) (hBl := fun _ => (by kernel_rfl)) (hv := fun _ => (by kernel_rfl)) (hH' := fun _ => (by kernel_rfl)) (h := fun r => ?_)
    obtain ⟨r12, r132⟩ := r
    refine dUc ?_
    refine dCall (i := 15) (caps := []) (v := (fun (r14 : Int) => (.d (.int .u64 r14) : V))) (H' := (fun (r14 : Int) => ([.box [.d (.int .i64 a0), .d (.int .i64 a1)], .box [.d (.int .i64 b0), .d (.int .i64 b1)], .box [.d (.int .i64 0), .d (.int .i64 0)]] : List Blk))) [] _ (ref01_Size_goes k b0) rfl (ho := rfl) (hfn := Try.func37) (hb := rfl) (hconv := ConvRs.refl _ _) (hnd := by decide) (hBl := fun _ => (by kernel_rfl)) (hv := fun _ => (by kernel_rfl)) (hH' := fun _ => (by kernel_rfl)) (h := fun r14 => ?_)
    refine dCall (i := 18) (caps := []) (v := (fun (r15 : Int) => (.d (.int .u64 r15) : V))) (H' := (fun (r15 : Int) => ([.box [.d (.int .i64 a0), .d (.int .i64 a1)], .box [.d (.int .i64 b0), .d (.int .i64 b1)], .box [.d (.int .i64 0), .d (.int .i64 0)]] : List Blk))) [] _ (ref01_Size_goes k a1) rfl (ho := rfl) (hfn := Try.func37) (hb := rfl) (hconv := ConvRs.refl _ _) (hnd := by decide) (hBl := fun _ => (by kernel_rfl)) (hv := fun _ => (by kernel_rfl)) (hH' := fun _ => (by kernel_rfl)) (h := fun r15 => ?_)
    refine dCall (i := 19) (caps := []) (v := (uc fun (r121 : Int) => (fun (r133 : Int) => (.agg [.d (.int .u64 r121), .d (.int .u64 r133)] : V)))) (H' := (uc fun (r121 : Int) => (fun (r133 : Int) => ([.box [.d (.int .i64 a0), .d (.int .i64 a1)], .box [.d (.int .i64 b0), .d (.int .i64 b1)], .box [.d (.int .i64 0), .d (.int .i64 0)]] : List Blk)))) [] _ (ref01_Product_goes k r14 r15) rfl (ho := rfl) (hfn := Try.func50) (hb := rfl) (hconv := ConvRs.refl _ _) (hnd := by decide) (hBl := fun _ => (by kernel_rfl)) (hv := fun _ => (by kernel_rfl)) (hH' := fun _ => (by kernel_rfl)) (h := fun r => ?_)
    obtain ⟨r121, r133⟩ := r
    refine dUc ?_
    refine dCall (i := 20) (caps := []) (v := (uc fun (r111 : Bool) => (uc fun (r122 : Int) => (fun (r134 : Int) => (.tuple [.d (.bool r111), .agg [.d (.int .u64 r122), .d (.int .u64 r134)]] : V))))) (H' := (uc fun (r111 : Bool) => (uc fun (r122 : Int) => (fun (r134 : Int) => ([.box [.d (.int .i64 a0), .d (.int .i64 a1)], .box [.d (.int .i64 b0), .d (.int .i64 b1)], .box [.d (.int .i64 0), .d (.int .i64 0)]] : List Blk))))) [] _ (ref01_total_goes k (decide (a0 < 0)) r12 r132 (decide (b0 < 0)) r121 r133) rfl (ho := rfl) (hfn := Try.func49) (hb := rfl) (hconv := ConvRs.refl _ _) (hnd := by decide) (hBl := fun _ => (by kernel_rfl)) (hv := fun _ => (by kernel_rfl)) (hH' := fun _ => (by kernel_rfl)) (h := fun r => ?_)
    obtain ⟨r111, r122, r134⟩ := r
    refine dUc ?_
    refine dUc ?_
    refine aTakeP (i := 21) (.tuple [.d (.bool r111), .agg [.d (.int .u64 r122), .d (.int .u64 r134)]]) rfl (hp := p_move) (h := ?_)
    refine aTakeP (i := 22) (.d (.bool r111)) rfl (hp := k_extract) (h := ?_)
    refine aTakeP (i := 23) (.agg [.d (.int .u64 r122), .d (.int .u64 r134)]) rfl (hp := k_extract) (h := ?_)
    refine aAlloc (i := 24) (d := 7) rfl (hop := rfl) (hd := rfl) (hty := ty65) (cells := [.d (.int .u64 0), .d (.int .u64 0)]) (h := ?_)
    refine dView (H' := [.box [.d (.int .i64 a0), .d (.int .i64 a1)], .box [.d (.int .i64 b0), .d (.int .i64 b1)], .box [.d (.int .i64 0), .d (.int .i64 0)], .box [.d (.int .u64 0), .d (.int .u64 0)]]) rfl rfl (h := ?_)
    refine aP 25 (.d (.bool r111)) rfl p_assign ?_
    refine aOne (i := 26) (v := .undef) rfl (hac := Does.acts (k_store (vs := [.d (.int .u64 r122), .d (.int .u64 r134)]) (H' := [.box [.d (.int .i64 a0), .d (.int .i64 a1)], .box [.d (.int .i64 b0), .d (.int .i64 b1)], .box [.d (.int .i64 0), .d (.int .i64 0)], .box [.d (.int .u64 r122), .d (.int .u64 r134)]]) 3 0 (hi := ty65))) (h := ?_)
    refine aDone (h := ?_)
    refine oSeq ?_
    refine oDraw [(0, 14), (1, 14), (2, 12), (3, 14)] rfl ?_
    refine aP 0 (.d (.bool r111)) rfl p_move ?_
    refine aQ 1 [3] (.agg [.d (.int .u64 r122), .d (.int .u64 r134)]) rfl (k_loadAgg 3 0 (hu := Try.underlying65) (hi := ty65)) ?_
    refine aP 2 (.ptr 0 1) rfl (k_fieldAddr 0 0 (hu := Try.underlying38) (hf := rfl) (hi := ty3)) ?_
    refine aQ 3 [0] (.d (.int .i64 a1)) rfl (k_load 0 1 (hu := Try.underlying3)) ?_
    refine aP 5 (.ptr 1 1) rfl (k_fieldAddr 1 0 (hu := Try.underlying38) (hf := rfl) (hi := ty3)) ?_
    refine aQ 6 [1] (.d (.int .i64 b1)) rfl (k_load 1 1 (hu := Try.underlying3)) ?_
    refine dCall (i := 4) (caps := []) (v := (fun (r16 : Int) => (.d (.int .u64 r16) : V))) (H' := (fun (r16 : Int) => ([.box [.d (.int .i64 a0), .d (.int .i64 a1)], .box [.d (.int .i64 b0), .d (.int .i64 b1)], .box [.d (.int .i64 0), .d (.int .i64 0)], .box [.d (.int .u64 r122), .d (.int .u64 r134)]] : List Blk))) [] _ (ref01_Size_goes k a1) rfl (ho := rfl) (hfn := Try.func37) (hb := rfl) (hconv := ConvRs.refl _ _) (hnd := by decide) (hBl := fun _ => (by kernel_rfl)) (hv := fun _ => (by kernel_rfl)) (hH' := fun _ => (by kernel_rfl)) (h := fun r16 => ?_)
    refine dCall (i := 7) (caps := []) (v := (fun (r17 : Int) => (.d (.int .u64 r17) : V))) (H' := (fun (r17 : Int) => ([.box [.d (.int .i64 a0), .d (.int .i64 a1)], .box [.d (.int .i64 b0), .d (.int .i64 b1)], .box [.d (.int .i64 0), .d (.int .i64 0)], .box [.d (.int .u64 r122), .d (.int .u64 r134)]] : List Blk))) [] _ (ref01_Size_goes k b1) rfl (ho := rfl) (hfn := Try.func37) (hb := rfl) (hconv := ConvRs.refl _ _) (hnd := by decide) (hBl := fun _ => (by kernel_rfl)) (hv := fun _ => (by kernel_rfl)) (hH' := fun _ => (by kernel_rfl)) (h := fun r17 => ?_)
    refine dCall (i := 8) (caps := []) (v := (uc fun (r123 : Int) => (fun (r135 : Int) => (.agg [.d (.int .u64 r123), .d (.int .u64 r135)] : V)))) (H' := (uc fun (r123 : Int) => (fun (r135 : Int) => ([.box [.d (.int .i64 a0), .d (.int .i64 a1)], .box [.d (.int .i64 b0), .d (.int .i64 b1)], .box [.d (.int .i64 0), .d (.int .i64 0)], .box [.d (.int .u64 r122), .d (.int .u64 r134)]] : List Blk)))) [] _ (ref01_Product_goes k r16 r17) rfl (ho := rfl) (hfn := Try.func50) (hb := rfl) (hconv := ConvRs.refl _ _) (hnd := by decide) (hBl := fun _ => (by kernel_rfl)) (hv := fun _ => (by kernel_rfl)) (hH' := fun _ => (by kernel_rfl)) (h := fun r => ?_)
    obtain ⟨r123, r135⟩ := r
    refine dUc ?_
    refine dCall (i := 9) (caps := []) (v := (uc fun (r124 : Int) => (uc fun (r136 : Int) => (fun (r141 : Int) => (.tuple [.agg [.d (.int .i64 r124), .d (.int .i64 r136)], .d (.int .i64 r141)] : V))))) (H' := (uc fun (r124 : Int) => (uc fun (r136 : Int) => (fun (r141 : Int) => ([.box [.d (.int .i64 a0), .d (.int .i64 a1)], .box [.d (.int .i64 b0), .d (.int .i64 b1)], .box [.d (.int .i64 0), .d (.int .i64 0)], .box [.d (.int .u64 r122), .d (.int .u64 r134)]] : List Blk))))) [] _ (ref01_Reduce_goes k r111 r122 r134 r123 r135) rfl (ho := rfl) (hfn := Try.func36) (hb := rfl) (hconv := ConvRs.refl _ _) (hnd := by decide) (hBl := fun _ => (by kernel_rfl)) (hv := fun _ => (by kernel_rfl)) (hH' := fun _ => (by kernel_rfl)) (h := fun r => ?_)
    obtain ⟨r124, r136, r141⟩ := r
    refine dUc ?_
    refine dUc ?_
    refine aTakeP (i := 10) (.agg [.d (.int .i64 r124), .d (.int .i64 r136)]) rfl (hp := k_extract) (h := ?_)
    refine aTakeP (i := 11) (.d (.int .i64 r141)) rfl (hp := k_extract) (h := ?_)
    refine aOne (i := 12) (v := .undef) rfl (hac := Does.acts (k_store (vs := [.d (.int .i64 r124), .d (.int .i64 r136)]) (H' := [.box [.d (.int .i64 a0), .d (.int .i64 a1)], .box [.d (.int .i64 b0), .d (.int .i64 b1)], .box [.d (.int .i64 r124), .d (.int .i64 r136)], .box [.d (.int .u64 r122), .d (.int .u64 r134)]]) 2 0 (hi := ty38))) (h := ?_)
    refine aP 13 (.d (.int .i64 r141)) rfl p_assign ?_
    refine aDone (h := ?_)
    exact oRet (r0 := (r124, r136, r141)) (rv := .tuple [.agg [.d (.int .i64 r124), .d (.int .i64 r136)], .d (.int .i64 r141)]) (B := []) (vs := [.agg [.d (.int .i64 r124), .d (.int .i64 r136)], .d (.int .i64 r141)]) (σ := []) (hf := Try.func22) (hrs := rfl) (hres := .cons _ _ _ _ (.agg 4 38 2 0 [.d (.int .i64 r124), .d (.int .i64 r136)] [.d (.int .i64 r124), .d (.int .i64 r136)] _ _ _ _ (by kernel_rfl) (by kernel_rfl) Try.underlying38 (by kernel_rfl) ty38 (by kernel_rfl) (by kernel_rfl)) (.cons _ _ _ _ (.tmp 5 _ (by kernel_rfl)) .nil)) (hnd := by decide)
  ·refine bSplit 11 (h1 := fun hc => ?_) (h2 := fun hc => ?_)
   ·refine oNot (h := ?_)
    refine oNot (h := ?_)
    refine oNot (h := ?_)
    refine oP (.d (.bool true)) (p_pick (b := true)) ?_
    refine oHead [2, 3, 4, 15] [0, 1, 2] (T' := [(2, .ptr 0 0), (3, .ptr 1 0), (4, .ptr 2 0), (15, .d (.bool true))]) (H' := [.box [.d (.int .i64 a0), .d (.int .i64 a1)], .box [.d (.int .i64 b0), .d (.int .i64 b1)], .box [.d (.int .i64 0), .d (.int .i64 0)]]) (hnd := by decide) (h := ?_)
    exact hj1 true
   ·refine oQ (.agg [.d (.int .i64 b0), .d (.int .i64 b1)]) (k_loadAgg 1 0 (hu := Try.underlying38) (hi := ty38)) ?_
    refine bCall (caps := []) (v := (fun (r139 : Bool) => (.d (.bool r139) : V))) (H' := (fun (r139 : Bool) => ([.box [.d (.int .i64 a0), .d (.int .i64 a1)], .box [.d (.int .i64 b0), .d (.int .i64 b1)], .box [.d (.int .i64 0), .d (.int .i64 0)]] : List Blk))) [] _ (ref01_Valid_goes k b0 b1) (ho := rfl) (hfn := Try.func48) (hb := rfl) (hconv := ConvRs.refl _ _) (hnd := by decide) (hBl := fun _ => (by kernel_rfl)) (hv := fun _ => (by kernel_rfl)) (hH' := fun _ => (by kernel_rfl)) (h := fun r139 => ?_)
    refine oP (.d (.bool (!r139))) (p_not (p := r139)) ?_
    refine oP (.d (.bool (!r139))) (p_pick (b := false)) ?_
    refine oHead [2, 3, 4, 15] [0, 1, 2] (T' := [(2, .ptr 0 0), (3, .ptr 1 0), (4, .ptr 2 0), (15, .d (.bool (!r139)))]) (H' := [.box [.d (.int .i64 a0), .d (.int .i64 a1)], .box [.d (.int .i64 b0), .d (.int .i64 b1)], .box [.d (.int .i64 0), .d (.int .i64 0)]]) (hnd := by decide) (h := ?_)
    exact hj1 (!r139)

/-- awardingbody/awardingbodyref01.Sub -/
def ref01_Sub (k : Nat) (a0 : Int) (a1 : Int) (b0 : Int) (b1 : Int) : Option (Int × Int × Int) := Option.bind (ref01_Valid k a0 a1) (fun r132 => Option.bind (bif (!r132) then some true else Option.bind (ref01_Valid k b0 b1) (fun r134 => some (!r134)) : Option (Bool)) (fun x1 => bif x1 then some (0, 0, 1) else Option.bind (ref01_Add k a0 a1 (IntKind.wrap .i64 (0 - b0)) b1) (uc fun r181 => uc fun r191 => fun r1101 => some (r181, r191, r1101))))
def ref01_Sub_E (a0 : Int) (a1 : Int) (b0 : Int) (b1 : Int) : Int × Int × Int → V × List Blk := uc fun r1 => uc fun r11 => fun r12 => (.tuple [.agg [.d (.int .i64 r1), .d (.int .i64 r11)], .d (.int .i64 r12)], [])
theorem ref01_Sub_goes (k : Nat) (a0 : Int) (a1 : Int) (b0 : Int) (b1 : Int) : RunsO Try.prog 20 [.agg [.d (.int .i64 a0), .d (.int .i64 a1)], .agg [.d (.int .i64 b0), .d (.int .i64 b1)]] [] (ref01_Sub_E a0 a1 b0 b1) (ref01_Sub k a0 a1 b0 b1) := by
  refine RunsO.of_goes (N := 25) (m := 0) (T := [(0, .agg [.d (.int .i64 a0), .d (.int .i64 a1)]), (1, .agg [.d (.int .i64 b0), .d (.int .i64 b1)])]) Try.func20 rfl rfl (h := ?_)
  unfold ref01_Sub
  refine bStart ?_
  refine oSR rfl ?_
  refine oD (.ptr 0 0) (k_box (H' := [.box [.d (.int .i64 a0), .d (.int .i64 a1)]]) (cells := [.d (.int .i64 a0), .d (.int .i64 a1)])) ?_
  refine oD (.ptr 1 0) (k_box (H' := [.box [.d (.int .i64 a0), .d (.int .i64 a1)], .box [.d (.int .i64 b0), .d (.int .i64 b1)]]) (cells := [.d (.int .i64 b0), .d (.int .i64 b1)])) ?_
  refine oD (.ptr 2 0) (k_alloc (H' := [.box [.d (.int .i64 a0), .d (.int .i64 a1)], .box [.d (.int .i64 b0), .d (.int .i64 b1)], .box [.d (.int .i64 0), .d (.int .i64 0)]]) ty38) ?_
  refine oP (.d (.int .i64 0)) p_assign ?_
  refine oEnd ?_
  refine oSeq ?_
  refine oSR rfl ?_
  refine oQ (.agg [.d (.int .i64 a0), .d (.int .i64 a1)]) (k_loadAgg 0 0 (hu := Try.underlying38) (hi := ty38)) ?_
  refine bCall (caps := []) (v := (fun (r132 : Bool) => (.d (.bool r132) : V))) (H' := (fun (r132 : Bool) => ([.box [.d (.int .i64 a0), .d (.int .i64 a1)], .box [.d (.int .i64 b0), .d (.int .i64 b1)], .box [.d (.int .i64 0), .d (.int .i64 0)]] : List Blk))) [] _ (ref01_Valid_goes k a0 a1) (ho := rfl) (hfn := Try.func48) (hb := rfl) (hconv := ConvRs.refl _ _) (hnd := by decide) (hBl := fun _ => (by kernel_rfl)) (hv := fun _ => (by kernel_rfl)) (hH' := fun _ => (by kernel_rfl)) (h := fun r132 => ?_)
  refine oP (.d (.bool (!r132))) (p_not (p := r132)) ?_
  refine oP (.d (.bool (!r132))) p_move ?_
  refine bMeet 4 rfl ((fun (x1 : Bool) => [(2, .ptr 0 0), (3, .ptr 1 0), (4, .ptr 2 0), (13, .d (.bool x1))])) ((fun (x1 : Bool) => [.box [.d (.int .i64 a0), .d (.int .i64 a1)], .box [.d (.int .i64 b0), .d (.int .i64 b1)], .box [.d (.int .i64 0), .d (.int .i64 0)]])) (fun s => s) (fun x1 => ?_) (fun hj1 => ?_)
  ·refine oView (T' := [(2, .ptr 0 0), (3, .ptr 1 0), (4, .ptr 2 0), (13, .d (.bool x1))]) (H' := [.box [.d (.int .i64 a0), .d (.int .i64 a1)], .box [.d (.int .i64 b0), .d (.int .i64 b1)], .box [.d (.int .i64 0), .d (.int .i64 0)]]) (h := ?_)
   refine oEnd ?_
   refine bSplit 13 (h1 := fun hc => ?_) (h2 := fun hc => ?_)
   ·refine oCondT (h := ?_)
    refine oSR rfl ?_
    refine oP (.agg [.d (.int .i64 0), .d (.int .i64 0)]) (p_build bld38) ?_
    refine oD (.undef) (k_store (vs := [.d (.int .i64 0), .d (.int .i64 0)]) (H' := [.box [.d (.int .i64 a0), .d (.int .i64 a1)], .box [.d (.int .i64 b0), .d (.int .i64 b1)], .box [.d (.int .i64 0), .d (.int .i64 0)]]) 2 0 (hi := ty38)) ?_
    refine oP (.d (.int .i64 1)) p_assign ?_
    refine oEnd ?_
    exact oRet (r0 := (0, 0, 1)) (rv := .tuple [.agg [.d (.int .i64 0), .d (.int .i64 0)], .d (.int .i64 1)]) (B := []) (vs := [.agg [.d (.int .i64 0), .d (.int .i64 0)], .d (.int .i64 1)]) (σ := []) (hf := Try.func20) (hrs := rfl) (hres := .cons _ _ _ _ (.agg 4 38 2 0 [.d (.int .i64 0), .d (.int .i64 0)] [.d (.int .i64 0), .d (.int .i64 0)] _ _ _ _ (by kernel_rfl) (by kernel_rfl) Try.underlying38 (by kernel_rfl) ty38 (by kernel_rfl) (by kernel_rfl)) (.cons _ _ _ _ (.tmp 5 _ (by kernel_rfl)) .nil)) (hnd := by decide)
   ·refine oCondF (h := ?_)
    refine oSkip ?_
    refine oSR rfl ?_
    refine oQ (.agg [.d (.int .i64 a0), .d (.int .i64 a1)]) (k_loadAgg 0 0 (hu := Try.underlying38) (hi := ty38)) ?_
    refine oP (.ptr 1 0) (k_fieldAddr 1 0 (hu := Try.underlying38) (hf := rfl) (hi := ty3)) ?_
    refine oQ (.d (.int .i64 b0)) (k_load 1 0 (hu := Try.underlying3)) ?_
    refine oP (.d (.int .i64 (IntKind.wrap .i64 (0 - b0)))) (p_neg (k := .i64) (p := b0)) ?_
    refine oP (.ptr 1 1) (k_fieldAddr 1 0 (hu := Try.underlying38) (hf := rfl) (hi := ty3)) ?_
    refine oQ (.d (.int .i64 b1)) (k_load 1 1 (hu := Try.underlying3)) ?_
    refine oP (.agg [.d (.int .i64 (IntKind.wrap .i64 (0 - b0))), .d (.int .i64 b1)]) (p_build bld38) ?_
    refine bCall (caps := []) (v := (uc fun (r181 : Int) => (uc fun (r191 : Int) => (fun (r1101 : Int) => (.tuple [.agg [.d (.int .i64 r181), .d (.int .i64 r191)], .d (.int .i64 r1101)] : V))))) (H' := (uc fun (r181 : Int) => (uc fun (r191 : Int) => (fun (r1101 : Int) => ([.box [.d (.int .i64 a0), .d (.int .i64 a1)], .box [.d (.int .i64 b0), .d (.int .i64 b1)], .box [.d (.int .i64 0), .d (.int .i64 0)]] : List Blk))))) [] _ (ref01_Add_goes k a0 a1 (IntKind.wrap .i64 (0 - b0)) b1) (ho := rfl) (hfn := Try.func22) (hb := rfl) (hconv := ConvRs.refl _ _) (hnd := by decide) (hBl := fun _ => (by kernel_rfl)) (hv := fun _ => (by kernel_rfl)) (hH' := fun _ => (by kernel_rfl)) (h := fun r => ?_)
    obtain ⟨r181, r191, r1101⟩ := r
    refine bUc ?_
    refine bUc ?_
    refine oP (.agg [.d (.int .i64 r181), .d (.int .i64 r191)]) k_extract ?_
    refine oP (.d (.int .i64 r1101)) k_extract ?_
    refine oD (.undef) (k_store (vs := [.d (.int .i64 r181), .d (.int .i64 r191)]) (H' := [.box [.d (.int .i64 a0), .d (.int .i64 a1)], .box [.d (.int .i64 b0), .d (.int .i64 b1)], .box [.d (.int .i64 r181), .d (.int .i64 r191)]]) 2 0 (hi := ty38)) ?_
    refine oP (.d (.int .i64 r1101)) p_assign ?_
    refine oEnd ?_
    exact oRet (r0 := (r181, r191, r1101)) (rv := .tuple [.agg [.d (.int .i64 r181), .d (.int .i64 r191)], .d (.int .i64 r1101)]) (B := []) (vs := [.agg [.d (.int .i64 r181), .d (.int .i64 r191)], .d (.int .i64 r1101)]) (σ := []) (hf := Try.func20) (hrs := rfl) (hres := .cons _ _ _ _ (.agg 4 38 2 0 [.d (.int .i64 r181), .d (.int .i64 r191)] [.d (.int .i64 r181), .d (.int .i64 r191)] _ _ _ _ (by kernel_rfl) (by kernel_rfl) Try.underlying38 (by kernel_rfl) ty38 (by kernel_rfl) (by kernel_rfl)) (.cons _ _ _ _ (.tmp 5 _ (by kernel_rfl)) .nil)) (hnd := by decide)
  ·refine bSplit 9 (h1 := fun hc => ?_) (h2 := fun hc => ?_)
   ·refine oNot (h := ?_)
    refine oNot (h := ?_)
    refine oNot (h := ?_)
    refine oP (.d (.bool true)) (p_pick (b := true)) ?_
    refine oHead [2, 3, 4, 13] [0, 1, 2] (T' := [(2, .ptr 0 0), (3, .ptr 1 0), (4, .ptr 2 0), (13, .d (.bool true))]) (H' := [.box [.d (.int .i64 a0), .d (.int .i64 a1)], .box [.d (.int .i64 b0), .d (.int .i64 b1)], .box [.d (.int .i64 0), .d (.int .i64 0)]]) (hnd := by decide) (h := ?_)
    exact hj1 true
   ·refine oQ (.agg [.d (.int .i64 b0), .d (.int .i64 b1)]) (k_loadAgg 1 0 (hu := Try.underlying38) (hi := ty38)) ?_
    refine bCall (caps := []) (v := (fun (r134 : Bool) => (.d (.bool r134) : V))) (H' := (fun (r134 : Bool) => ([.box [.d (.int .i64 a0), .d (.int .i64 a1)], .box [.d (.int .i64 b0), .d (.int .i64 b1)], .box [.d (.int .i64 0), .d (.int .i64 0)]] : List Blk))) [] _ (ref01_Valid_goes k b0 b1) (ho := rfl) (hfn := Try.func48) (hb := rfl) (hconv := ConvRs.refl _ _) (hnd := by decide) (hBl := fun _ => (by kernel_rfl)) (hv := fun _ => (by kernel_rfl)) (hH' := fun _ => (by kernel_rfl)) (h := fun r134 => ?_)
    refine oP (.d (.bool (!r134))) (p_not (p := r134)) ?_
    refine oP (.d (.bool (!r134))) (p_pick (b := false)) ?_
    refine oHead [2, 3, 4, 13] [0, 1, 2] (T' := [(2, .ptr 0 0), (3, .ptr 1 0), (4, .ptr 2 0), (13, .d (.bool (!r134)))]) (H' := [.box [.d (.int .i64 a0), .d (.int .i64 a1)], .box [.d (.int .i64 b0), .d (.int .i64 b1)], .box [.d (.int .i64 0), .d (.int .i64 0)]]) (hnd := by decide) (h := ?_)
    exact hj1 (!r134)

/-- awardingbody/awardingbodyref32.Deviation -/
def ref32_Deviation_b1 (k : Nat) (d0 : (List Int)) (r1 : Int) (r11 : Int) (again : Int × Int → Option (Int)) : Int × Int → Option (Int) := uc fun out6 => fun i4 => bif (decide (i4 < ((List.length d0) : Int))) then gidx d0 i4 fun e113 => again ((IntKind.wrap .i64 (out6 + (IntKind.wrap .i64 (e113 * (gmax (IntKind.wrap .i64 ((IntKind.wrap .i64 (i4 * r1)) - r11)) (IntKind.wrap .i64 (0 - (IntKind.wrap .i64 ((IntKind.wrap .i64 (i4 * r1)) - r11))))))))), (IntKind.wrap .i64 (i4 + 1))) else some out6
def ref32_Deviation (k : Nat) (d0 : (List Int)) : Option (Int × Int × Int) := Option.bind (ref32_wrong k d0) (fun r152 => bif (r152 != 0) then some (0, 0, r152) else Option.bind (ref32_Count k d0) (fun r1 => Option.bind (ref32_sum k d0) (fun r11 => Option.bind (gloop (ref32_Deviation_b1 k d0 r1 r11) k (0, 0) : Option (Int)) (fun out5 => Option.bind (ref01_New k out5 (IntKind.wrap .i64 (r1 * r1))) (uc fun r153 => uc fun r161 => fun r171 => some (r153, r161, r171))))))
def ref32_Deviation_E (d0 : (List Int)) : Int × Int × Int → V × List Blk := uc fun r12 => uc fun r13 => fun r14 => (.tuple [.agg [.d (.int .i64 r12), .d (.int .i64 r13)], .d (.int .i64 r14)], [])
theorem ref32_Deviation_goes (k : Nat) (d0 : (List Int)) : RunsO Try.prog 21 [.agg [.d (.lit (List.map e_i64 d0))]] [] (ref32_Deviation_E d0) (ref32_Deviation k d0) := by
  refine RunsO.of_goes (N := 51) (m := 0) (T := [(0, .agg [.d (.lit (List.map e_i64 d0))])]) Try.func21 rfl rfl (h := ?_)
  unfold ref32_Deviation
  refine bStart ?_
  refine oSR rfl ?_
  refine oD (.ptr 0 0) (k_box (H' := [.box [.d (.lit (List.map e_i64 d0))]]) (cells := [.d (.lit (List.map e_i64 d0))])) ?_
  refine oD (.ptr 1 0) (k_alloc (H' := [.box [.d (.lit (List.map e_i64 d0))], .box [.d (.int .i64 0), .d (.int .i64 0)]]) ty38) ?_
  refine oP (.d (.int .i64 0)) p_assign ?_
  refine oEnd ?_
  refine oSeq ?_
  refine oSR rfl ?_
  refine oQ (.agg [.d (.lit (List.map e_i64 d0))]) (k_loadAgg 0 0 (hu := Try.underlying28) (hi := ty28)) ?_
  refine bCall (caps := []) (v := (fun (r152 : Int) => (.d (.int .i64 r152) : V))) (H' := (fun (r152 : Int) => ([.box [.d (.lit (List.map e_i64 d0))], .box [.d (.int .i64 0), .d (.int .i64 0)]] : List Blk))) [] _ (ref32_wrong_goes k d0) (ho := rfl) (hfn := Try.func46) (hb := rfl) (hconv := ConvRs.refl _ _) (hnd := by decide) (hBl := fun _ => (by kernel_rfl)) (hv := fun _ => (by kernel_rfl)) (hH' := fun _ => (by kernel_rfl)) (h := fun r152 => ?_)
  refine oP (.d (.int .i64 r152)) p_assign ?_
  refine oEnd ?_
  refine oSR rfl ?_
  refine oP (.d (.int .i64 r152)) p_move ?_
  refine oP (.d (.bool (r152 != 0))) (p_int (k := .i64) (p := r152) (q := 0)) ?_
  refine oEnd ?_
  refine bSplit 13 (h1 := fun hc => ?_) (h2 := fun hc => ?_)
  ·refine oCondT (h := ?_)
   refine oSR rfl ?_
   refine oP (.agg [.d (.int .i64 0), .d (.int .i64 0)]) (p_build bld38) ?_
   refine oP (.d (.int .i64 r152)) p_move ?_
   refine oD (.undef) (k_store (vs := [.d (.int .i64 0), .d (.int .i64 0)]) (H' := [.box [.d (.lit (List.map e_i64 d0))], .box [.d (.int .i64 0), .d (.int .i64 0)]]) 1 0 (hi := ty38)) ?_
   refine oP (.d (.int .i64 r152)) p_assign ?_
   refine oEnd ?_
   exact oRet (r0 := (0, 0, r152)) (rv := .tuple [.agg [.d (.int .i64 0), .d (.int .i64 0)], .d (.int .i64 r152)]) (B := []) (vs := [.agg [.d (.int .i64 0), .d (.int .i64 0)], .d (.int .i64 r152)]) (σ := []) (hf := Try.func21) (hrs := rfl) (hres := .cons _ _ _ _ (.agg 2 38 1 0 [.d (.int .i64 0), .d (.int .i64 0)] [.d (.int .i64 0), .d (.int .i64 0)] _ _ _ _ (by kernel_rfl) (by kernel_rfl) Try.underlying38 (by kernel_rfl) ty38 (by kernel_rfl) (by kernel_rfl)) (.cons _ _ _ _ (.tmp 3 _ (by kernel_rfl)) .nil)) (hnd := by decide)
  ·refine oCondF (h := ?_)
   refine oSkip ?_
   refine oSeq ?_
   refine oDraw [(0, 7), (1, 7)] rfl ?_
   refine aQ 0 [0] (.agg [.d (.lit (List.map e_i64 d0))]) rfl (k_loadAgg 0 0 (hu := Try.underlying28) (hi := ty28)) ?_
   refine aQ 2 [0] (.agg [.d (.lit (List.map e_i64 d0))]) rfl (k_loadAgg 0 0 (hu := Try.underlying28) (hi := ty28)) ?_
   refine dCall (i := 1) (caps := []) (v := (fun (r1 : Int) => (.d (.int .i64 r1) : V))) (H' := (fun (r1 : Int) => ([.box [.d (.lit (List.map e_i64 d0))], .box [.d (.int .i64 0), .d (.int .i64 0)]] : List Blk))) [] _ (ref32_Count_goes k d0) rfl (ho := rfl) (hfn := Try.func12) (hb := rfl) (hconv := ConvRs.refl _ _) (hnd := by decide) (hBl := fun _ => (by kernel_rfl)) (hv := fun _ => (by kernel_rfl)) (hH' := fun _ => (by kernel_rfl)) (h := fun r1 => ?_)
   refine dCall (i := 3) (caps := []) (v := (fun (r11 : Int) => (.d (.int .i64 r11) : V))) (H' := (fun (r11 : Int) => ([.box [.d (.lit (List.map e_i64 d0))], .box [.d (.int .i64 0), .d (.int .i64 0)]] : List Blk))) [] _ (ref32_sum_goes k d0) rfl (ho := rfl) (hfn := Try.func47) (hb := rfl) (hconv := ConvRs.refl _ _) (hnd := by decide) (hBl := fun _ => (by kernel_rfl)) (hv := fun _ => (by kernel_rfl)) (hH' := fun _ => (by kernel_rfl)) (h := fun r11 => ?_)
   refine aP 4 (.d (.int .i64 r1)) rfl p_assign ?_
   refine aP 5 (.d (.int .i64 r11)) rfl p_assign ?_
   refine aP 6 (.d (.int .i64 0)) rfl p_assign ?_
   refine aDone (h := ?_)
   refine oSeq ?_
   refine oSR rfl ?_
   refine oP (.d (.int .i64 0)) p_assign ?_
   refine oEnd ?_
   refine bJoin ((fun (out5 : Int) => [(2, .ptr 0 0), (5, .d (.int .i64 r1)), (7, .d (.int .i64 out5))])) ((fun (out5 : Int) => [.box [.d (.int .i64 0), .d (.int .i64 0)]])) (fun s => s) (fun out5 => ?_) (fun hj2 => ?_)
   ·refine oView (T' := [(2, .ptr 0 0), (5, .d (.int .i64 r1)), (7, .d (.int .i64 out5))]) (H' := [.box [.d (.int .i64 0), .d (.int .i64 0)]]) (h := ?_)
    refine oSR rfl ?_
    refine oP (.d (.int .i64 out5)) p_move ?_
    refine oP (.d (.int .i64 r1)) p_move ?_
    refine oP (.d (.int .i64 r1)) p_move ?_
    refine oP (.d (.int .i64 (IntKind.wrap .i64 (r1 * r1)))) (p_int (k := .i64) (p := r1) (q := r1)) ?_
    refine bCall (caps := []) (v := (uc fun (r153 : Int) => (uc fun (r161 : Int) => (fun (r171 : Int) => (.tuple [.agg [.d (.int .i64 r153), .d (.int .i64 r161)], .d (.int .i64 r171)] : V))))) (H' := (uc fun (r153 : Int) => (uc fun (r161 : Int) => (fun (r171 : Int) => ([.box [.d (.int .i64 0), .d (.int .i64 0)]] : List Blk))))) [] _ (ref01_New_goes k out5 (IntKind.wrap .i64 (r1 * r1))) (ho := rfl) (hfn := Try.func13) (hb := rfl) (hconv := ConvRs.refl _ _) (hnd := by decide) (hBl := fun _ => (by kernel_rfl)) (hv := fun _ => (by kernel_rfl)) (hH' := fun _ => (by kernel_rfl)) (h := fun r => ?_)
    obtain ⟨r153, r161, r171⟩ := r
    refine bUc ?_
    refine bUc ?_
    refine oP (.agg [.d (.int .i64 r153), .d (.int .i64 r161)]) k_extract ?_
    refine oP (.d (.int .i64 r171)) k_extract ?_
    refine oD (.undef) (k_store (vs := [.d (.int .i64 r153), .d (.int .i64 r161)]) (H' := [.box [.d (.int .i64 r153), .d (.int .i64 r161)]]) 0 0 (hi := ty38)) ?_
    refine oP (.d (.int .i64 r171)) p_assign ?_
    refine oEnd ?_
    exact oRet (r0 := (r153, r161, r171)) (rv := .tuple [.agg [.d (.int .i64 r153), .d (.int .i64 r161)], .d (.int .i64 r171)]) (B := []) (vs := [.agg [.d (.int .i64 r153), .d (.int .i64 r161)], .d (.int .i64 r171)]) (σ := []) (hf := Try.func21) (hrs := rfl) (hres := .cons _ _ _ _ (.agg 2 38 0 0 [.d (.int .i64 r153), .d (.int .i64 r161)] [.d (.int .i64 r153), .d (.int .i64 r161)] _ _ _ _ (by kernel_rfl) (by kernel_rfl) Try.underlying38 (by kernel_rfl) ty38 (by kernel_rfl) (by kernel_rfl)) (.cons _ _ _ _ (.tmp 3 _ (by kernel_rfl)) .nil)) (hnd := by decide)
   ·refine oBlock ?_
    refine oLoop ?_
    refine oHead [1, 2, 5, 6, 7, 8] [0, 1] (T' := [(1, .ptr 0 0), (2, .ptr 1 0), (5, .d (.int .i64 r1)), (6, .d (.int .i64 r11)), (7, .d (.int .i64 0)), (8, .d (.int .i64 0))]) (H' := [.box [.d (.lit (List.map e_i64 d0))], .box [.d (.int .i64 0), .d (.int .i64 0)]]) (hnd := by decide) (h := ?_)
    refine bLoop (body := ref32_Deviation_b1 k d0 r1 r11) ((uc fun (out6 : Int) => (fun (i4 : Int) => [(1, .ptr 0 0), (2, .ptr 1 0), (5, .d (.int .i64 r1)), (6, .d (.int .i64 r11)), (7, .d (.int .i64 out6)), (8, .d (.int .i64 i4))]))) ((uc fun (out6 : Int) => (fun (i4 : Int) => [.box [.d (.lit (List.map e_i64 d0))], .box [.d (.int .i64 0), .d (.int .i64 0)]]))) (fun again hag1 s => ?_) k (0, 0)
    ·unfold ref32_Deviation_b1
     obtain ⟨out6, i4⟩ := s
     refine bUc ?_
     refine oView (T' := [(1, .ptr 0 0), (2, .ptr 1 0), (5, .d (.int .i64 r1)), (6, .d (.int .i64 r11)), (7, .d (.int .i64 out6)), (8, .d (.int .i64 i4))]) (H' := [.box [.d (.lit (List.map e_i64 d0))], .box [.d (.int .i64 0), .d (.int .i64 0)]]) (h := ?_)
     refine oSeq ?_
     refine oSR rfl ?_
     refine oP (.d (.int .i64 i4)) p_move ?_
     refine oP (.ptr 0 0) (k_fieldAddr 0 0 (hu := Try.underlying28) (hf := rfl) (hi := ty22)) ?_
     refine oQ (.d (.lit (List.map e_i64 d0))) (k_load 0 0 (hu := Try.underlying22)) ?_
     refine oP (.d (.int .i64 ((List.length d0) : Int))) (k_lenLit (enc := e_i64) d0 (hu := Try.underlying22)) ?_
     refine oP (.d (.bool (decide (i4 < ((List.length d0) : Int))))) (p_int (k := .i64) (p := i4) (q := ((List.length d0) : Int))) ?_
     refine oEnd ?_
     refine bSplit 24 (h1 := fun hc => ?_) (h2 := fun hc => ?_)
     ·refine oCondT (h := ?_)
      refine oSkip ?_
      refine oSeq ?_
      refine oBlock ?_
      refine oSR rfl ?_
      refine oP (.d (.int .i64 i4)) p_move ?_
      refine oP (.d (.int .i64 r1)) p_move ?_
      refine oP (.d (.int .i64 (IntKind.wrap .i64 (i4 * r1)))) (p_int (k := .i64) (p := i4) (q := r1)) ?_
      refine oP (.d (.int .i64 r11)) p_move ?_
      refine oP (.d (.int .i64 (IntKind.wrap .i64 ((IntKind.wrap .i64 (i4 * r1)) - r11)))) (p_int (k := .i64) (p := (IntKind.wrap .i64 (i4 * r1))) (q := r11)) ?_
      refine oP (.d (.int .i64 (IntKind.wrap .i64 ((IntKind.wrap .i64 (i4 * r1)) - r11)))) p_assign ?_
      refine oEnd ?_
      refine oRegion rfl ?_
      refine oP (.d (.int .i64 out6)) p_move ?_
      refine oP (.ptr 0 0) (k_fieldAddr 0 0 (hu := Try.underlying28) (hf := rfl) (hi := ty22)) ?_
      refine oQ (.d (.lit (List.map e_i64 d0))) (k_load 0 0 (hu := Try.underlying22)) ?_
      refine oP (.d (.int .i64 i4)) p_move ?_
      refine bIdx (fun e113 h126 h127 => ?_)
      refine oP (.lptr (e_i64 e113) 0) (k_idxLit e_i64_len d0 (a := e113) (k := .i64) (i := i4) (hu := Try.underlying22) (hi := ty3) (h0 := h126) (he := h127)) ?_
      refine oQ (.d (.int .i64 e113)) (k_loadL (cells := e_i64 e113) 0 (hu := Try.underlying3)) ?_
      refine oP (.d (.int .i64 (IntKind.wrap .i64 ((IntKind.wrap .i64 (i4 * r1)) - r11)))) p_move ?_
      refine oP (.d (.int .i64 (IntKind.wrap .i64 ((IntKind.wrap .i64 (i4 * r1)) - r11)))) p_move ?_
      refine oP (.d (.int .i64 (IntKind.wrap .i64 (0 - (IntKind.wrap .i64 ((IntKind.wrap .i64 (i4 * r1)) - r11)))))) (p_neg (k := .i64) (p := (IntKind.wrap .i64 ((IntKind.wrap .i64 (i4 * r1)) - r11)))) ?_
      refine oP (.d (.int .i64 (gmax (IntKind.wrap .i64 ((IntKind.wrap .i64 (i4 * r1)) - r11)) (IntKind.wrap .i64 (0 - (IntKind.wrap .i64 ((IntKind.wrap .i64 (i4 * r1)) - r11))))))) (p_max2 (k := .i64) (p := (IntKind.wrap .i64 ((IntKind.wrap .i64 (i4 * r1)) - r11))) (q := (IntKind.wrap .i64 (0 - (IntKind.wrap .i64 ((IntKind.wrap .i64 (i4 * r1)) - r11)))))) ?_
      refine oP (.d (.int .i64 (IntKind.wrap .i64 (e113 * (gmax (IntKind.wrap .i64 ((IntKind.wrap .i64 (i4 * r1)) - r11)) (IntKind.wrap .i64 (0 - (IntKind.wrap .i64 ((IntKind.wrap .i64 (i4 * r1)) - r11))))))))) (p_int (k := .i64) (p := e113) (q := (gmax (IntKind.wrap .i64 ((IntKind.wrap .i64 (i4 * r1)) - r11)) (IntKind.wrap .i64 (0 - (IntKind.wrap .i64 ((IntKind.wrap .i64 (i4 * r1)) - r11))))))) ?_
      refine oP (.d (.int .i64 (IntKind.wrap .i64 (out6 + (IntKind.wrap .i64 (e113 * (gmax (IntKind.wrap .i64 ((IntKind.wrap .i64 (i4 * r1)) - r11)) (IntKind.wrap .i64 (0 - (IntKind.wrap .i64 ((IntKind.wrap .i64 (i4 * r1)) - r11))))))))))) (p_int (k := .i64) (p := out6) (q := (IntKind.wrap .i64 (e113 * (gmax (IntKind.wrap .i64 ((IntKind.wrap .i64 (i4 * r1)) - r11)) (IntKind.wrap .i64 (0 - (IntKind.wrap .i64 ((IntKind.wrap .i64 (i4 * r1)) - r11))))))))) ?_
      refine oP (.d (.int .i64 (IntKind.wrap .i64 (out6 + (IntKind.wrap .i64 (e113 * (gmax (IntKind.wrap .i64 ((IntKind.wrap .i64 (i4 * r1)) - r11)) (IntKind.wrap .i64 (0 - (IntKind.wrap .i64 ((IntKind.wrap .i64 (i4 * r1)) - r11))))))))))) p_assign ?_
      refine oEnd ?_
      refine oBlk ?_
      refine oRegion rfl ?_
      refine oP (.d (.int .i64 i4)) p_move ?_
      refine oP (.d (.int .i64 (IntKind.wrap .i64 (i4 + 1)))) (p_int (k := .i64) (p := i4) (q := 1)) ?_
      refine oP (.d (.int .i64 (IntKind.wrap .i64 (i4 + 1)))) p_assign ?_
      refine oEnd ?_
      refine oAgain ?_
      refine oHead [1, 2, 5, 6, 7, 8] [0, 1] (T' := [(1, .ptr 0 0), (2, .ptr 1 0), (5, .d (.int .i64 r1)), (6, .d (.int .i64 r11)), (7, .d (.int .i64 (IntKind.wrap .i64 (out6 + (IntKind.wrap .i64 (e113 * (gmax (IntKind.wrap .i64 ((IntKind.wrap .i64 (i4 * r1)) - r11)) (IntKind.wrap .i64 (0 - (IntKind.wrap .i64 ((IntKind.wrap .i64 (i4 * r1)) - r11))))))))))), (8, .d (.int .i64 (IntKind.wrap .i64 (i4 + 1))))]) (H' := [.box [.d (.lit (List.map e_i64 d0))], .box [.d (.int .i64 0), .d (.int .i64 0)]]) (hnd := by decide) (h := ?_)
      exact hag1 ((IntKind.wrap .i64 (out6 + (IntKind.wrap .i64 (e113 * (gmax (IntKind.wrap .i64 ((IntKind.wrap .i64 (i4 * r1)) - r11)) (IntKind.wrap .i64 (0 - (IntKind.wrap .i64 ((IntKind.wrap .i64 (i4 * r1)) - r11))))))))), (IntKind.wrap .i64 (i4 + 1)))
     ·refine oCondF (h := ?_)
      refine oExit rfl ?_
      refine oHead [2, 5, 7] [1] (T' := [(2, .ptr 0 0), (5, .d (.int .i64 r1)), (7, .d (.int .i64 out6))]) (H' := [.box [.d (.int .i64 0), .d (.int .i64 0)]]) (hnd := by decide) (h := ?_)
      exact hj2 out6

end Go.VM
