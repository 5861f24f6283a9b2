/- Plain functions that answer as the program's functions do, and the proof that they do. -/
import Derived.Test.YtdpoilkjdfnadaaProg
import Derived.KernelRfl
import Derived.Test.YtdpoilkjdfnadaaEngDeepCM
import Derived.Test.YtdpoilkjdfnadaaWiFacts
import Derived.Test.YtdpoilkjdfnadaaWiFuns0
namespace Go.VM
open Go.Proofs
set_option linter.unusedVariables false
set_option linter.unusedSimpArgs false
set_option maxRecDepth 100000
/-- (*awardingbody/awardingbodymake.Tape).Scheme -/
def make_Tape_Scheme_b2 (k : Nat) (p2 : (List SPart)) (x : (List Int)) (i4 : Int) (again : Int × Int × (List Int) → Option (Int × (List Int))) : Int × Int × (List Int) → Option (Int × (List Int)) := uc fun k130 => uc fun x165 => fun xs130 => gidx p2 i4 fun e148 => bif (decide (k130 < e148.Options)) then Option.bind (Option.bind (make_Tape_Next k 2 x x165) (uc fun r1254 => fun x355 => bif (r1254 == 0) then gcap (List.length (xs130 ++ ([k130] : List Int))) 8 (some (x355, (xs130 ++ ([k130] : List Int)))) else some (x355, xs130)) : Option (Int × (List Int))) (uc fun x168 => fun xs133 => again ((IntKind.wrap .i64 (k130 + 1)), x168, xs133)) else some (x165, xs130)
def make_Tape_Scheme_b1 (k : Nat) (p2 : (List SPart)) (x : (List Int)) (again : Int × Int × (List (List Int)) × (List Int) → Option (Int × (List (List Int)) × (List Int))) : Int × Int × (List (List Int)) × (List Int) → Option (Int × (List (List Int)) × (List Int)) := uc fun i4 => uc fun x121 => uc fun xs92 => fun xs93 => bif (decide (i4 < ((List.length p2) : Int))) then gidx p2 i4 fun e141 => Option.bind (bif (e141.Kind == 2) then Option.bind (make_Tape_Next k 3 x x121) (uc fun r1255 => fun x356 => some ((r1255 == 0), x356)) else some (false, x121) : Option (Bool × Int)) (uc fun x150 => fun x151 => Option.bind (bif x150 then Option.bind (gloop (make_Tape_Scheme_b2 k p2 x i4) k (0, x151, ([] : List Int)) : Option (Int × (List Int))) (uc fun x163 => fun xs128 => some (x163, xs128)) else some (x151, ([] : List Int)) : Option (Int × (List Int))) (uc fun x157 => fun xs122 => Option.bind (gcap (List.length (xs92 ++ ([xs122] : List (List Int)))) 24 (Option.bind (make_Tape_Pick_2 k x x157 ([0, 0, 0, 0, 1, 2] : List Int)) (uc fun r1 => fun x21 => gcap (List.length (xs93 ++ ([r1] : List Int))) 8 (some (x21, (xs93 ++ ([r1] : List Int)))))) : Option (Int × (List Int))) (uc fun x158 => fun xs123 => again ((IntKind.wrap .i64 (i4 + 1)), x158, (xs92 ++ ([xs122] : List (List Int))), xs123)))) else some (x121, xs92, xs93)
def make_Tape_Scheme (k : Nat) (p0 : Int) (p1 : Int) (p2 : (List SPart)) (x : (List Int)) (x1 : Int) : Option ((List (List Int)) × (List Int) × Int) := Option.bind (gloop (make_Tape_Scheme_b1 k p2 x) k (0, x1, ([] : List (List Int)), ([] : List Int)) : Option (Int × (List (List Int)) × (List Int))) (uc fun x95 => uc fun xs71 => fun xs72 => Option.bind (make_Tape_One k 10 x x95) (uc fun r17 => fun x213 => blet (r17 && (decide (((List.length xs71) : Int) > 0))) fun x96 => Option.bind (bif x96 then Option.bind (make_Tape_Next k 3 x x213) (uc fun r1229 => fun x330 => bif (r1229 == 0) then Option.bind (Option.bind (make_Tape_Next k ((List.length xs72) : Int) x x330) (uc fun r1213 => fun x314 => Option.bind (make_Tape_Pick_2 k x x314 ([(-1), 3] : List Int)) (uc fun r13 => fun x211 => gidx xs72 r1213 fun e112 => blet (List.set xs72 (Int.toNat r1213) r13) fun xs34 => some (x211, xs34))) : Option (Int × (List Int))) (uc fun x101 => fun xs76 => some (x101, xs71, xs76)) else bif (r1229 == 1) then Option.bind (make_Tape_Next k ((List.length xs71) : Int) x x330) (uc fun r1230 => fun x331 => Option.bind (gidx xs71 r1230 fun e113 => Option.bind (make_Tape_Range k (-1) 5 x x331) (uc fun r14 => fun x212 => gcap (List.length (e113 ++ ([r14] : List Int))) 8 (blet (List.set xs71 (Int.toNat r1230) (e113 ++ ([r14] : List Int))) fun xs36 => some (x212, xs36))) : Option (Int × (List (List Int)))) (uc fun x102 => fun xs77 => some (x102, xs77, xs72))) else gcut 0 1 ((List.length xs71) : Int) (some (x330, (List.drop (Int.toNat 1) xs71), xs72))) else some (x213, xs71, xs72) : Option (Int × (List (List Int)) × (List Int))) (uc fun x99 => uc fun x100 => fun xs75 => some (x100, xs75, x99))))
def make_Tape_Scheme_E (p0 : Int) (p1 : Int) (p2 : (List SPart)) (x : (List Int)) (x1 : Int) : (List (List Int)) × (List Int) × Int → V × List Blk := uc fun r15 => uc fun r16 => fun x56 => (.agg [.d (.lit (List.map e_Li64 r15)), .d (.lit (List.map e_i64 r16))], [.box [.d (.lit (List.map e_i64 x)), .d (.int .i64 x56)]])
theorem make_Tape_Scheme_goes (k : Nat) (p0 : Int) (p1 : Int) (p2 : (List SPart)) (x : (List Int)) (x1 : Int) : RunsO Try.prog 14 [.ptr 0 0, .agg [.d (.int .i64 p0), .d (.int .i64 p1), .d (.lit (List.map e_SPart p2))], .d (.int .i64 10)] [.box [.d (.lit (List.map e_i64 x)), .d (.int .i64 x1)]] (make_Tape_Scheme_E p0 p1 p2 x x1) (make_Tape_Scheme k p0 p1 p2 x x1) := by
  refine RunsO.of_goes (N := 115) (m := 1) (T := [(0, .ptr 0 0), (1, .agg [.d (.int .i64 p0), .d (.int .i64 p1), .d (.lit (List.map e_SPart p2))]), (2, .d (.int .i64 10))]) Try.func14 rfl rfl (h := ?_)
  unfold make_Tape_Scheme
  refine bStart ?_
  refine oSR rfl ?_
  refine oD (.ptr 1 0) (k_box (H' := [.box [.d (.lit (List.map e_i64 x)), .d (.int .i64 x1)], .box [.d (.int .i64 p0), .d (.int .i64 p1), .d (.lit (List.map e_SPart p2))]]) (cells := [.d (.int .i64 p0), .d (.int .i64 p1), .d (.lit (List.map e_SPart p2))])) ?_
  refine oD (.ptr 2 0) (k_alloc (H' := [.box [.d (.lit (List.map e_i64 x)), .d (.int .i64 x1)], .box [.d (.int .i64 p0), .d (.int .i64 p1), .d (.lit (List.map e_SPart p2))], .box [.nilc, .nilc]]) ty31) ?_
  refine oEnd ?_
  refine oSR rfl ?_
  refine oD (.ptr 3 0) (k_alloc (H' := [.box [.d (.lit (List.map e_i64 x)), .d (.int .i64 x1)], .box [.d (.int .i64 p0), .d (.int .i64 p1), .d (.lit (List.map e_SPart p2))], .box [.nilc, .nilc], .box [.nilc, .nilc]]) ty31) ?_
  refine oEnd ?_
  refine oSeq ?_
  refine oSR rfl ?_
  refine oP (.d (.int .i64 0)) p_assign ?_
  refine oEnd ?_
  refine bJoin ((uc fun (x95 : Int) => (uc fun (xs71 : (List (List Int))) => (fun (xs72 : (List Int)) => [(0, .ptr 0 0), (2, .d (.int .i64 10)), (6, .ptr 1 0), (7, .ptr 2 0)])))) ((uc fun (x95 : Int) => (uc fun (xs71 : (List (List Int))) => (fun (xs72 : (List Int)) => [.box [.d (.lit (List.map e_i64 x)), .d (.int .i64 x95)], .box [.nilc, .nilc], .box [.ref 3 (List.length xs71) 0 (List.length xs71), .ref 4 (List.length xs72) 0 (List.length xs72)], .deep 1 (List.map (dp e_i64) xs71), .sl 1 (List.map e_i64 xs72) false])))) (fun s => s) (fun s => ?_) (fun hj45 => ?_)
  ·obtain ⟨x95, xs71, xs72⟩ := s
   refine bUc ?_
   refine bUc ?_
   refine oView (T' := [(0, .ptr 0 0), (2, .d (.int .i64 10)), (6, .ptr 1 0), (7, .ptr 2 0)]) (H' := [.box [.d (.lit (List.map e_i64 x)), .d (.int .i64 x95)], .box [.nilc, .nilc], .box [.ref 3 (List.length xs71) 0 (List.length xs71), .ref 4 (List.length xs72) 0 (List.length xs72)], .deep 1 (List.map (dp e_i64) xs71), .sl 1 (List.map e_i64 xs72) false]) (h := ?_)
   refine oSeq ?_
   refine oSR rfl ?_
   refine oP (.d (.int .i64 10)) p_move ?_
   refine oP (.d (.bool true)) (p_int (k := .i64) (p := 10) (q := 0)) ?_
   refine oP (.d (.bool true)) p_move ?_
   refine oP (.ptr 0 0) p_move ?_
   refine oP (.d (.int .i64 10)) p_move ?_
   refine bCall (caps := []) (v := (uc fun (r17 : Bool) => (fun (x213 : Int) => (.d (.bool r17) : V)))) (H' := (uc fun (r17 : Bool) => (fun (x213 : Int) => ([.box [.d (.lit (List.map e_i64 x)), .d (.int .i64 x213)], .box [.nilc, .nilc], .box [.ref 3 (List.length xs71) 0 (List.length xs71), .ref 4 (List.length xs72) 0 (List.length xs72)], .deep 1 (List.map (dp e_i64) xs71), .sl 1 (List.map e_i64 xs72) false] : List Blk)))) [0] _ (make_Tape_One_goes k 10 x x95) (ho := rfl) (hfn := Try.func40) (hb := rfl) (hconv := ConvRs.refl _ _) (hnd := by decide) (hBl := fun _ => (by kernel_rfl)) (hv := fun _ => (by kernel_rfl)) (hH' := fun _ => (by kernel_rfl)) (h := fun r => ?_)
   obtain ⟨r17, x213⟩ := r
   refine bUc ?_
   refine oP (.d (.bool r17)) (p_pick (b := true)) ?_
   refine oP (.d (.bool r17)) p_move ?_
   refine bMeetF (H' := [.box [.d (.lit (List.map e_i64 x)), .d (.int .i64 x213)], .box [.nilc, .nilc], .box [.ref 3 (List.length xs71) 0 (List.length xs71), .ref 4 (List.length xs72) 0 (List.length xs72)], .deep 1 (List.map (dp e_i64) xs71), .sl 1 (List.map e_i64 xs72) false]) 5 rfl ((fun (x96 : Bool) => [(0, .ptr 0 0), (6, .ptr 1 0), (7, .ptr 2 0), (74, .d (.bool x96))])) (fun x96 => ?_) (fun F hj46 => ?_)
   ·refine oView (T' := [(0, .ptr 0 0), (6, .ptr 1 0), (7, .ptr 2 0), (74, .d (.bool x96))]) (H' := [.box [.d (.lit (List.map e_i64 x)), .d (.int .i64 x213)], .box [.nilc, .nilc], .box [.ref 3 (List.length xs71) 0 (List.length xs71), .ref 4 (List.length xs72) 0 (List.length xs72)], .deep 1 (List.map (dp e_i64) xs71), .sl 1 (List.map e_i64 xs72) false]) (h := ?_)
    refine oEnd ?_
    refine bJoin ((uc fun (x99 : Int) => (uc fun (x100 : (List (List Int))) => (fun (xs75 : (List Int)) => [(6, .ptr 1 0), (7, .ptr 2 0)])))) ((uc fun (x99 : Int) => (uc fun (x100 : (List (List Int))) => (fun (xs75 : (List Int)) => [.box [.d (.lit (List.map e_i64 x)), .d (.int .i64 x99)], .box [.nilc, .nilc], .box [.d (.lit (List.map e_Li64 x100)), .ref 3 (List.length xs75) 0 (List.length xs75)], .sl 1 (List.map e_i64 xs75) false])))) (fun s => s) (fun s => ?_) (fun hj49 => ?_)
    ·obtain ⟨x99, x100, xs75⟩ := s
     refine bUc ?_
     refine bUc ?_
     refine oView (T' := [(6, .ptr 1 0), (7, .ptr 2 0)]) (H' := [.box [.d (.lit (List.map e_i64 x)), .d (.int .i64 x99)], .box [.nilc, .nilc], .box [.d (.lit (List.map e_Li64 x100)), .ref 3 (List.length xs75) 0 (List.length xs75)], .sl 1 (List.map e_i64 xs75) false]) (h := ?_)
     refine oSR rfl ?_
     refine oQ (.agg [.d (.lit (List.map e_Li64 x100)), .ref 3 (List.length xs75) 0 (List.length xs75)]) (k_loadAgg 2 0 (hu := Try.underlying31) (hi := ty31)) ?_
     refine oD (.undef) (k_store (vs := [.d (.lit (List.map e_Li64 x100)), .ref 3 (List.length xs75) 0 (List.length xs75)]) (H' := [.box [.d (.lit (List.map e_i64 x)), .d (.int .i64 x99)], .box [.d (.lit (List.map e_Li64 x100)), .ref 3 (List.length xs75) 0 (List.length xs75)], .box [.d (.lit (List.map e_Li64 x100)), .ref 3 (List.length xs75) 0 (List.length xs75)], .sl 1 (List.map e_i64 xs75) false]) 1 0 (hi := ty31)) ?_
     refine oEnd ?_
     refine oFreeze 3 (esz := 1) (xs := List.map e_i64 xs75) (h := ?_)
     refine oView (H' := [.box [.d (.lit (List.map e_i64 x)), .d (.int .i64 x99)], .box [.d (.lit (List.map e_Li64 x100)), .ref 3 (List.length xs75) 0 (List.length xs75)], .box [.d (.lit (List.map e_Li64 x100)), .ref 3 (List.length xs75) 0 (List.length xs75)], .sl 1 (List.map e_i64 xs75) true]) rfl (h := ?_)
     refine oConvB 1 (cells := [.d (.lit (List.map e_Li64 x100)), .ref 3 (List.length xs75) 0 (List.length xs75)]) (cells' := [.d (.lit (List.map e_Li64 x100)), .d (.lit (List.map e_i64 xs75))]) (hc := .cons _ _ _ _ (.same _) (.cons _ _ _ _ (k_lit (enc := e_i64) (sz := 1) 3 xs75) .nil)) (h := ?_)
     refine oView (H' := [.box [.d (.lit (List.map e_i64 x)), .d (.int .i64 x99)], .box [.d (.lit (List.map e_Li64 x100)), .d (.lit (List.map e_i64 xs75))], .box [.d (.lit (List.map e_Li64 x100)), .ref 3 (List.length xs75) 0 (List.length xs75)], .sl 1 (List.map e_i64 xs75) true]) rfl (h := ?_)
     exact oRet (r0 := (x100, xs75, x99)) (rv := .agg [.d (.lit (List.map e_Li64 x100)), .d (.lit (List.map e_i64 xs75))]) (B := [.box [.d (.lit (List.map e_i64 x)), .d (.int .i64 x99)]]) (vs := [.agg [.d (.lit (List.map e_Li64 x100)), .d (.lit (List.map e_i64 xs75))]]) (σ := [0]) (hf := Try.func14) (hrs := rfl) (hres := .cons _ _ _ _ (.agg 6 31 1 0 [.d (.lit (List.map e_Li64 x100)), .d (.lit (List.map e_i64 xs75))] [.d (.lit (List.map e_Li64 x100)), .d (.lit (List.map e_i64 xs75))] _ _ _ _ (by kernel_rfl) (by kernel_rfl) Try.underlying31 (by kernel_rfl) ty31 (by kernel_rfl) (by kernel_rfl)) .nil) (hnd := by decide)
    ·refine bSplit 74 (h1 := fun hc => ?_) (h2 := fun hc => ?_)
     ·refine oCondT (h := ?_)
      refine oSR rfl ?_
      refine oP (.ptr 0 0) p_move ?_
      refine bCall (caps := []) (v := (uc fun (r1229 : Int) => (fun (x330 : Int) => (.d (.int .i64 r1229) : V)))) (H' := (uc fun (r1229 : Int) => (fun (x330 : Int) => ([.box [.d (.lit (List.map e_i64 x)), .d (.int .i64 x330)], .box [.nilc, .nilc], .box [.ref 3 (List.length xs71) 0 (List.length xs71), .ref 4 (List.length xs72) 0 (List.length xs72)], .deep 1 (List.map (dp e_i64) xs71), .sl 1 (List.map e_i64 xs72) false] : List Blk)))) [0] _ (make_Tape_Next_goes k 3 x x213) (ho := rfl) (hfn := Try.func39) (hb := rfl) (hconv := ConvRs.refl _ _) (hnd := by decide) (hBl := fun _ => (by kernel_rfl)) (hv := fun _ => (by kernel_rfl)) (hH' := fun _ => (by kernel_rfl)) (h := fun r => ?_)
      obtain ⟨r1229, x330⟩ := r
      refine bUc ?_
      refine oEnd ?_
      refine oBlock ?_
      refine oSR rfl ?_
      refine oP (.d (.bool (r1229 == 0))) (p_int (k := .i64) (p := r1229) (q := 0)) ?_
      refine oP (.d (.bool (r1229 == 0))) p_assign ?_
      refine oEnd ?_
      refine bSplit 81 (h1 := fun hc => ?_) (h2 := fun hc => ?_)
      ·refine oCondT (h := ?_)
       refine bJoin ((uc fun (x101 : Int) => (fun (xs76 : (List Int)) => [(6, .ptr 1 0), (7, .ptr 2 0)]))) ((uc fun (x101 : Int) => (fun (xs76 : (List Int)) => [.box [.d (.lit (List.map e_i64 x)), .d (.int .i64 x101)], .box [.nilc, .nilc], .box [.ref 3 (List.length xs71) 0 (List.length xs71), .ref 4 (List.length xs76) 0 (List.length xs76)], .deep 1 (List.map (dp e_i64) xs71), .sl 1 (List.map e_i64 xs76) false]))) (fun s => s) (fun s => ?_) (fun hj50 => ?_)
       ·obtain ⟨x101, xs76⟩ := s
        refine bUc ?_
        refine oView (T' := [(6, .ptr 1 0), (7, .ptr 2 0)]) (H' := [.box [.d (.lit (List.map e_i64 x)), .d (.int .i64 x101)], .box [.nilc, .nilc], .box [.ref 3 (List.length xs71) 0 (List.length xs71), .ref 4 (List.length xs76) 0 (List.length xs76)], .deep 1 (List.map (dp e_i64) xs71), .sl 1 (List.map e_i64 xs76) false]) (h := ?_)
        refine oBlk ?_
        refine oFreezeDeep 3 (isz := 1) (enc := e_i64) (xs := xs71) (by kernel_rfl) ?_
        refine oView (H' := [.box [.d (.lit (List.map e_i64 x)), .d (.int .i64 x101)], .box [.nilc, .nilc], .box [.ref 3 (List.length xs71) 0 (List.length xs71), .ref 4 (List.length xs76) 0 (List.length xs76)], .sl 1 (List.map e_Li64 xs71) true, .sl 1 (List.map e_i64 xs76) false]) rfl (h := ?_)
        refine oConvB 2 (cells := [.ref 3 (List.length xs71) 0 (List.length xs71), .ref 4 (List.length xs76) 0 (List.length xs76)]) (cells' := [.d (.lit (List.map e_Li64 xs71)), .ref 4 (List.length xs76) 0 (List.length xs76)]) (hc := .cons _ _ _ _ (k_lit (enc := e_Li64) (sz := 1) 3 xs71) (.cons _ _ _ _ (.same _) .nil)) (h := ?_)
        refine oView (H' := [.box [.d (.lit (List.map e_i64 x)), .d (.int .i64 x101)], .box [.nilc, .nilc], .box [.d (.lit (List.map e_Li64 xs71)), .ref 4 (List.length xs76) 0 (List.length xs76)], .sl 1 (List.map e_Li64 xs71) true, .sl 1 (List.map e_i64 xs76) false]) rfl (h := ?_)
        refine oHead [6, 7] [0, 1, 2, 4] (T' := [(6, .ptr 1 0), (7, .ptr 2 0)]) (H' := [.box [.d (.lit (List.map e_i64 x)), .d (.int .i64 x101)], .box [.nilc, .nilc], .box [.d (.lit (List.map e_Li64 xs71)), .ref 3 (List.length xs76) 0 (List.length xs76)], .sl 1 (List.map e_i64 xs76) false]) (hnd := by decide) (h := ?_)
        exact hj49 (x101, xs71, xs76)
       ·refine oDraw [(0, 6), (1, 12), (2, 12), (3, 12), (4, 11)] rfl ?_
        refine aP 0 (.ptr 2 1) rfl (k_fieldAddr 2 0 (hu := Try.underlying31) (hf := rfl) (hi := ty22)) ?_
        refine aQ 1 [2] (.ref 4 (List.length xs72) 0 (List.length xs72)) rfl (k_load 2 1 (hu := Try.underlying22)) ?_
        refine aP 2 (.ptr 0 0) rfl p_move ?_
        refine aP 3 (.ptr 2 1) rfl (k_fieldAddr 2 0 (hu := Try.underlying31) (hf := rfl) (hi := ty22)) ?_
        refine aQ 4 [2] (.ref 4 (List.length xs72) 0 (List.length xs72)) rfl (k_load 2 1 (hu := Try.underlying22)) ?_
        refine aP 5 (.d (.int .i64 ((List.length xs72) : Int))) rfl (k_lenRef (enc := e_i64) (sz := 1) (fro := false) 4 xs72 (hu := Try.underlying22)) ?_
        refine aP 7 (.ptr 0 0) rfl p_move ?_
        refine aMany [6, 8] (h := .cons _ _ ?_ (.cons _ _ ?_ .nil))
        ·refine sCall (i := 6) (caps := []) (v := (uc fun (r1213 : Int) => (fun (x314 : Int) => (.d (.int .i64 r1213) : V)))) (H' := (uc fun (r1213 : Int) => (fun (x314 : Int) => ([.box [.d (.lit (List.map e_i64 x)), .d (.int .i64 x314)], .box [.nilc, .nilc], .box [.ref 3 (List.length xs71) 0 (List.length xs71), .ref 4 (List.length xs72) 0 (List.length xs72)], .deep 1 (List.map (dp e_i64) xs71), .sl 1 (List.map e_i64 xs72) false] : List Blk)))) [0] _ (make_Tape_Next_goes k ((List.length xs72) : Int) x x330) rfl (ho := rfl) (hfn := Try.func39) (hb := rfl) (hconv := ConvRs.refl _ _) (hnd := by decide) (hBl := fun _ => (by kernel_rfl)) (hv := fun _ => (by kernel_rfl)) (hH' := fun _ => (by kernel_rfl)) (h := fun r => ?_)
         obtain ⟨r1213, x314⟩ := r
         refine dUc ?_
         refine aOne (i := 8) (v := .ref 5 (List.length ([(-1), 3] : List Int)) 0 (List.length ([(-1), 3] : List Int))) rfl (hac := (Does.acts (k_buildSlice (H' := [.box [.d (.lit (List.map e_i64 x)), .d (.int .i64 x314)], .box [.nilc, .nilc], .box [.ref 3 (List.length xs71) 0 (List.length xs71), .ref 4 (List.length xs72) 0 (List.length xs72)], .deep 1 (List.map (dp e_i64) xs71), .sl 1 (List.map e_i64 xs72) false, .sl 1 (List.map e_i64 ([(-1), 3] : List Int)) false]) (List.map e_i64 ([(-1), 3] : List Int)) Try.underlying22 ty3))) (h := ?_)
         refine dCall (i := 9) (caps := []) (v := (uc fun (r13 : Int) => (fun (x211 : Int) => (.d (.int .i64 r13) : V)))) (H' := (uc fun (r13 : Int) => (fun (x211 : Int) => ([.box [.d (.lit (List.map e_i64 x)), .d (.int .i64 x211)], .box [.nilc, .nilc], .box [.ref 3 (List.length xs71) 0 (List.length xs71), .ref 4 (List.length xs72) 0 (List.length xs72)], .deep 1 (List.map (dp e_i64) xs71), .sl 1 (List.map e_i64 xs72) false, .sl 1 (List.map e_i64 ([(-1), 3] : List Int)) false] : List Blk)))) [0, 5] _ (make_Tape_Pick_2_goes k x x314 ([(-1), 3] : List Int)) rfl (ho := rfl) (hfn := Try.func43) (hb := rfl) (hconv := ConvRs.refl _ _) (hnd := by decide) (hBl := fun _ => (by kernel_rfl)) (hv := fun _ => (by kernel_rfl)) (hH' := fun _ => (by kernel_rfl)) (h := fun r => ?_)
         obtain ⟨r13, x211⟩ := r
         refine dUc ?_
         refine dIdx (fun e112 h134 h135 => ?_)
         refine aP 10 (.eptr 4 (List.length xs72) (Int.toNat r1213) 0) rfl (k_idxRef (enc := e_i64) (fro := false) xs72 (a := e112) (k := .i64) (i := r1213) (hu := Try.underlying22) (hi := ty3) (h0 := h134) (he := h135)) ?_
         refine dSet _ (fun xs34 hs => ?_)
         refine aOne (i := 11) (v := .undef) rfl (hac := (Does.acts (k_storeE (H' := [.box [.d (.lit (List.map e_i64 x)), .d (.int .i64 x211)], .box [.nilc, .nilc], .box [.ref 3 (List.length xs71) 0 (List.length xs71), .ref 4 (List.length xs72) 0 (List.length xs72)], .deep 1 (List.map (dp e_i64) xs71), .sl 1 (List.map e_i64 xs34) false, .sl 1 (List.map e_i64 ([(-1), 3] : List Int)) false]) 4 0 xs72 r13 [(.int .i64 r13)] e_i64_len (he := h135) (hi := ty3) (hxs := hs)))) (h := ?_)
         refine dDrop [6, 7] [6, 7] (T' := [(6, .ptr 1 0), (7, .ptr 2 0)]) (U' := [(6, .ptr 1 0), (7, .ptr 2 0)]) (h := ?_)
         refine dView (H' := [.box [.d (.lit (List.map e_i64 x)), .d (.int .i64 x211)], .box [.nilc, .nilc], .box [.ref 3 (List.length xs71) 0 (List.length xs71), .ref 4 (List.length xs72) 0 (List.length xs72)], .deep 1 (List.map (dp e_i64) xs71), .sl 1 (List.map e_i64 xs34) false, .sl 1 (List.map e_i64 ([(-1), 3] : List Int)) false]) rfl rfl (h := ?_)
         refine dView (T' := [(6, .ptr 1 0), (7, .ptr 2 0)]) (H' := [.box [.d (.lit (List.map e_i64 x)), .d (.int .i64 x211)], .box [.nilc, .nilc], .box [.ref 3 (List.length xs71) 0 (List.length xs71), .ref 4 (List.length xs34) 0 (List.length xs34)], .deep 1 (List.map (dp e_i64) xs71), .sl 1 (List.map e_i64 xs34) false, .sl 1 (List.map e_i64 ([(-1), 3] : List Int)) false]) (by first | rw [(set_len hs)] | rfl) rfl (by first | rw [(set_len hs)] | rfl) ?_
         refine aDone (h := ?_)
         refine oHead [6, 7] [0, 1, 2, 3, 4] (T' := [(6, .ptr 1 0), (7, .ptr 2 0)]) (H' := [.box [.d (.lit (List.map e_i64 x)), .d (.int .i64 x211)], .box [.nilc, .nilc], .box [.ref 3 (List.length xs71) 0 (List.length xs71), .ref 4 (List.length xs34) 0 (List.length xs34)], .deep 1 (List.map (dp e_i64) xs71), .sl 1 (List.map e_i64 xs34) false]) (hnd := by decide) (h := ?_)
         exact hj50 (x211, xs34)
        ·refine sOne (i := 8) (v := .ref 5 (List.length ([(-1), 3] : List Int)) 0 (List.length ([(-1), 3] : List Int))) rfl (hac := (Does.acts (k_buildSlice (H' := [.box [.d (.lit (List.map e_i64 x)), .d (.int .i64 x330)], .box [.nilc, .nilc], .box [.ref 3 (List.length xs71) 0 (List.length xs71), .ref 4 (List.length xs72) 0 (List.length xs72)], .deep 1 (List.map (dp e_i64) xs71), .sl 1 (List.map e_i64 xs72) false, .sl 1 (List.map e_i64 ([(-1), 3] : List Int)) false]) (List.map e_i64 ([(-1), 3] : List Int)) Try.underlying22 ty3))) (h := ?_)
         refine dCall (i := 6) (caps := []) (v := (uc fun (r1213 : Int) => (fun (x314 : Int) => (.d (.int .i64 r1213) : V)))) (H' := (uc fun (r1213 : Int) => (fun (x314 : Int) => ([.box [.d (.lit (List.map e_i64 x)), .d (.int .i64 x314)], .box [.nilc, .nilc], .box [.ref 3 (List.length xs71) 0 (List.length xs71), .ref 4 (List.length xs72) 0 (List.length xs72)], .deep 1 (List.map (dp e_i64) xs71), .sl 1 (List.map e_i64 xs72) false, .sl 1 (List.map e_i64 ([(-1), 3] : List Int)) false] : List Blk)))) [0] _ (make_Tape_Next_goes k ((List.length xs72) : Int) x x330) rfl (ho := rfl) (hfn := Try.func39) (hb := rfl) (hconv := ConvRs.refl _ _) (hnd := by decide) (hBl := fun _ => (by kernel_rfl)) (hv := fun _ => (by kernel_rfl)) (hH' := fun _ => (by kernel_rfl)) (h := fun r => ?_)
         obtain ⟨r1213, x314⟩ := r
         refine dUc ?_
         refine dCall (i := 9) (caps := []) (v := (uc fun (r13 : Int) => (fun (x211 : Int) => (.d (.int .i64 r13) : V)))) (H' := (uc fun (r13 : Int) => (fun (x211 : Int) => ([.box [.d (.lit (List.map e_i64 x)), .d (.int .i64 x211)], .box [.nilc, .nilc], .box [.ref 3 (List.length xs71) 0 (List.length xs71), .ref 4 (List.length xs72) 0 (List.length xs72)], .deep 1 (List.map (dp e_i64) xs71), .sl 1 (List.map e_i64 xs72) false, .sl 1 (List.map e_i64 ([(-1), 3] : List Int)) false] : List Blk)))) [0, 5] _ (make_Tape_Pick_2_goes k x x314 ([(-1), 3] : List Int)) rfl (ho := rfl) (hfn := Try.func43) (hb := rfl) (hconv := ConvRs.refl _ _) (hnd := by decide) (hBl := fun _ => (by kernel_rfl)) (hv := fun _ => (by kernel_rfl)) (hH' := fun _ => (by kernel_rfl)) (h := fun r => ?_)
         obtain ⟨r13, x211⟩ := r
         refine dUc ?_
         refine dIdx (fun e112 h134 h135 => ?_)
         refine aP 10 (.eptr 4 (List.length xs72) (Int.toNat r1213) 0) rfl (k_idxRef (enc := e_i64) (fro := false) xs72 (a := e112) (k := .i64) (i := r1213) (hu := Try.underlying22) (hi := ty3) (h0 := h134) (he := h135)) ?_
         refine dSet _ (fun xs34 hs => ?_)
         refine aOne (i := 11) (v := .undef) rfl (hac := (Does.acts (k_storeE (H' := [.box [.d (.lit (List.map e_i64 x)), .d (.int .i64 x211)], .box [.nilc, .nilc], .box [.ref 3 (List.length xs71) 0 (List.length xs71), .ref 4 (List.length xs72) 0 (List.length xs72)], .deep 1 (List.map (dp e_i64) xs71), .sl 1 (List.map e_i64 xs34) false, .sl 1 (List.map e_i64 ([(-1), 3] : List Int)) false]) 4 0 xs72 r13 [(.int .i64 r13)] e_i64_len (he := h135) (hi := ty3) (hxs := hs)))) (h := ?_)
         refine dDrop [6, 7] [6, 7] (T' := [(6, .ptr 1 0), (7, .ptr 2 0)]) (U' := [(6, .ptr 1 0), (7, .ptr 2 0)]) (h := ?_)
         refine dView (H' := [.box [.d (.lit (List.map e_i64 x)), .d (.int .i64 x211)], .box [.nilc, .nilc], .box [.ref 3 (List.length xs71) 0 (List.length xs71), .ref 4 (List.length xs72) 0 (List.length xs72)], .deep 1 (List.map (dp e_i64) xs71), .sl 1 (List.map e_i64 xs34) false, .sl 1 (List.map e_i64 ([(-1), 3] : List Int)) false]) rfl rfl (h := ?_)
         refine dView (T' := [(6, .ptr 1 0), (7, .ptr 2 0)]) (H' := [.box [.d (.lit (List.map e_i64 x)), .d (.int .i64 x211)], .box [.nilc, .nilc], .box [.ref 3 (List.length xs71) 0 (List.length xs71), .ref 4 (List.length xs34) 0 (List.length xs34)], .deep 1 (List.map (dp e_i64) xs71), .sl 1 (List.map e_i64 xs34) false, .sl 1 (List.map e_i64 ([(-1), 3] : List Int)) false]) (by first | rw [(set_len hs)] | rfl) rfl (by first | rw [(set_len hs)] | rfl) ?_
         refine aDone (h := ?_)
         refine oHead [6, 7] [0, 1, 2, 3, 4] (T' := [(6, .ptr 1 0), (7, .ptr 2 0)]) (H' := [.box [.d (.lit (List.map e_i64 x)), .d (.int .i64 x211)], .box [.nilc, .nilc], .box [.ref 3 (List.length xs71) 0 (List.length xs71), .ref 4 (List.length xs34) 0 (List.length xs34)], .deep 1 (List.map (dp e_i64) xs71), .sl 1 (List.map e_i64 xs34) false]) (hnd := by decide) (h := ?_)
         exact hj50 (x211, xs34)
      ·refine oCondF (h := ?_)
       refine oSR rfl ?_
       refine oP (.d (.bool (r1229 == 1))) (p_int (k := .i64) (p := r1229) (q := 1)) ?_
       refine oP (.d (.bool (r1229 == 1))) p_assign ?_
       refine oEnd ?_
       refine bSplit 94 (h1 := fun hc => ?_) (h2 := fun hc => ?_)
       ·refine oCondT (h := ?_)
        refine oSR rfl ?_
        refine oP (.ptr 0 0) p_move ?_
        refine oP (.ptr 2 0) (k_fieldAddr 2 0 (hu := Try.underlying31) (hf := rfl) (hi := ty29)) ?_
        refine oQ (.ref 3 (List.length xs71) 0 (List.length xs71)) (k_load 2 0 (hu := Try.underlying29)) ?_
        refine oP (.d (.int .i64 ((List.length xs71) : Int))) (k_lenDeep (isz := 1) (enc := e_i64) 3 xs71 (by kernel_rfl) (by kernel_rfl) Try.underlying29) ?_
        refine bCall (caps := []) (v := (uc fun (r1230 : Int) => (fun (x331 : Int) => (.d (.int .i64 r1230) : V)))) (H' := (uc fun (r1230 : Int) => (fun (x331 : Int) => ([.box [.d (.lit (List.map e_i64 x)), .d (.int .i64 x331)], .box [.nilc, .nilc], .box [.ref 3 (List.length xs71) 0 (List.length xs71), .ref 4 (List.length xs72) 0 (List.length xs72)], .deep 1 (List.map (dp e_i64) xs71), .sl 1 (List.map e_i64 xs72) false] : List Blk)))) [0] _ (make_Tape_Next_goes k ((List.length xs71) : Int) x x330) (ho := rfl) (hfn := Try.func39) (hb := rfl) (hconv := ConvRs.refl _ _) (hnd := by decide) (hBl := fun _ => (by kernel_rfl)) (hv := fun _ => (by kernel_rfl)) (hH' := fun _ => (by kernel_rfl)) (h := fun r => ?_)
        obtain ⟨r1230, x331⟩ := r
        refine bUc ?_
        refine oP (.d (.int .i64 r1230)) p_assign ?_
        refine oEnd ?_
        refine bJoin ((uc fun (x102 : Int) => (fun (xs77 : (List (List Int))) => [(6, .ptr 1 0), (7, .ptr 2 0)]))) ((uc fun (x102 : Int) => (fun (xs77 : (List (List Int))) => [.box [.d (.lit (List.map e_i64 x)), .d (.int .i64 x102)], .box [.nilc, .nilc], .box [.ref 3 (List.length xs77) 0 (List.length xs77), .ref 4 (List.length xs72) 0 (List.length xs72)], .deep 1 (List.map (dp e_i64) xs77), .sl 1 (List.map e_i64 xs72) false]))) (fun s => s) (fun s => ?_) (fun hj51 => ?_)
        ·obtain ⟨x102, xs77⟩ := s
         refine bUc ?_
         refine oView (T' := [(6, .ptr 1 0), (7, .ptr 2 0)]) (H' := [.box [.d (.lit (List.map e_i64 x)), .d (.int .i64 x102)], .box [.nilc, .nilc], .box [.ref 3 (List.length xs77) 0 (List.length xs77), .ref 4 (List.length xs72) 0 (List.length xs72)], .deep 1 (List.map (dp e_i64) xs77), .sl 1 (List.map e_i64 xs72) false]) (h := ?_)
         refine oBlk ?_
         refine oFreezeDeep 3 (isz := 1) (enc := e_i64) (xs := xs77) (by kernel_rfl) ?_
         refine oView (H' := [.box [.d (.lit (List.map e_i64 x)), .d (.int .i64 x102)], .box [.nilc, .nilc], .box [.ref 3 (List.length xs77) 0 (List.length xs77), .ref 4 (List.length xs72) 0 (List.length xs72)], .sl 1 (List.map e_Li64 xs77) true, .sl 1 (List.map e_i64 xs72) false]) rfl (h := ?_)
         refine oConvB 2 (cells := [.ref 3 (List.length xs77) 0 (List.length xs77), .ref 4 (List.length xs72) 0 (List.length xs72)]) (cells' := [.d (.lit (List.map e_Li64 xs77)), .ref 4 (List.length xs72) 0 (List.length xs72)]) (hc := .cons _ _ _ _ (k_lit (enc := e_Li64) (sz := 1) 3 xs77) (.cons _ _ _ _ (.same _) .nil)) (h := ?_)
         refine oView (H' := [.box [.d (.lit (List.map e_i64 x)), .d (.int .i64 x102)], .box [.nilc, .nilc], .box [.d (.lit (List.map e_Li64 xs77)), .ref 4 (List.length xs72) 0 (List.length xs72)], .sl 1 (List.map e_Li64 xs77) true, .sl 1 (List.map e_i64 xs72) false]) rfl (h := ?_)
         refine oHead [6, 7] [0, 1, 2, 4] (T' := [(6, .ptr 1 0), (7, .ptr 2 0)]) (H' := [.box [.d (.lit (List.map e_i64 x)), .d (.int .i64 x102)], .box [.nilc, .nilc], .box [.d (.lit (List.map e_Li64 xs77)), .ref 3 (List.length xs72) 0 (List.length xs72)], .sl 1 (List.map e_i64 xs72) false]) (hnd := by decide) (h := ?_)
         exact hj49 (x102, xs77, xs72)
        ·refine oDraw [(0, 9), (1, 14), (2, 14), (3, 7), (4, 14)] rfl ?_
         refine aP 0 (.ptr 2 0) rfl (k_fieldAddr 2 0 (hu := Try.underlying31) (hf := rfl) (hi := ty29)) ?_
         refine aQ 1 [2] (.ref 3 (List.length xs71) 0 (List.length xs71)) rfl (k_load 2 0 (hu := Try.underlying29)) ?_
         refine aP 2 (.d (.int .i64 r1230)) rfl p_move ?_
         refine aP 3 (.ptr 2 0) rfl (k_fieldAddr 2 0 (hu := Try.underlying31) (hf := rfl) (hi := ty29)) ?_
         refine aQ 4 [2] (.ref 3 (List.length xs71) 0 (List.length xs71)) rfl (k_load 2 0 (hu := Try.underlying29)) ?_
         refine aP 5 (.d (.int .i64 r1230)) rfl p_move ?_
         refine dIdx (fun e113 h136 h137 => ?_)
         refine aP 6 (.eptr 3 (List.length xs71) (Int.toNat r1230) 0) rfl (k_idxDeep (isz := 1) (yss := (List.map (dp e_i64) xs71)) 3 xs71 (a := e113) (by kernel_rfl) (k := .i64) (i := r1230) (by kernel_rfl) (by kernel_rfl) (by simp) Try.underlying29 ty22 h136 h137) ?_
         refine aP 8 (.ptr 0 0) rfl p_move ?_
         refine aMany [7, 9] (h := .cons _ _ ?_ (.cons _ _ ?_ .nil))
         ·refine sOne (i := 7) (v := .ref 5 (List.length e113) 0 (List.length e113)) rfl (hac := Does.acts (k_take (isz := 1) (enc := e_i64) (H' := [.box [.d (.lit (List.map e_i64 x)), .d (.int .i64 x331)], .box [.nilc, .nilc], .box [.ref 3 (List.length xs71) 0 (List.length xs71), .ref 4 (List.length xs72) 0 (List.length xs72)], .deep 1 (List.set (List.map (dp e_i64) xs71) (Int.toNat r1230) none), .sl 1 (List.map e_i64 xs72) false, .sl 1 (List.map e_i64 e113) false]) 3 xs71 (by kernel_rfl) (by kernel_rfl) Try.underlying22 (by kernel_rfl) h137 (by kernel_rfl))) (h := ?_)
          refine dCall (i := 9) (caps := []) (v := (uc fun (r14 : Int) => (fun (x212 : Int) => (.d (.int .i64 r14) : V)))) (H' := (uc fun (r14 : Int) => (fun (x212 : Int) => ([.box [.d (.lit (List.map e_i64 x)), .d (.int .i64 x212)], .box [.nilc, .nilc], .box [.ref 3 (List.length xs71) 0 (List.length xs71), .ref 4 (List.length xs72) 0 (List.length xs72)], .deep 1 (List.set (List.map (dp e_i64) xs71) (Int.toNat r1230) none), .sl 1 (List.map e_i64 xs72) false, .sl 1 (List.map e_i64 e113) false] : List Blk)))) [0] _ (make_Tape_Range_goes k (-1) 5 x x331) rfl (ho := rfl) (hfn := Try.func38) (hb := rfl) (hconv := ConvRs.refl _ _) (hnd := by decide) (hBl := fun _ => (by kernel_rfl)) (hv := fun _ => (by kernel_rfl)) (hH' := fun _ => (by kernel_rfl)) (h := fun r => ?_)
          obtain ⟨r14, x212⟩ := r
          refine dUc ?_
          refine aOne (i := 10) (v := .ref 6 (List.length ([r14] : List Int)) 0 (List.length ([r14] : List Int))) rfl (hac := (Does.acts (k_buildSlice (H' := [.box [.d (.lit (List.map e_i64 x)), .d (.int .i64 x212)], .box [.nilc, .nilc], .box [.ref 3 (List.length xs71) 0 (List.length xs71), .ref 4 (List.length xs72) 0 (List.length xs72)], .deep 1 (List.set (List.map (dp e_i64) xs71) (Int.toNat r1230) none), .sl 1 (List.map e_i64 xs72) false, .sl 1 (List.map e_i64 e113) false, .sl 1 (List.map e_i64 ([r14] : List Int)) false]) (List.map e_i64 ([r14] : List Int)) Try.underlying22 ty3))) (h := ?_)
          refine dCap (fun h138 => ?_)
          refine aOne (i := 11) (v := .ref 5 (List.length (e113 ++ ([r14] : List Int))) 0 (List.length (e113 ++ ([r14] : List Int)))) rfl (hac := (Does.acts (k_append (H' := [.box [.d (.lit (List.map e_i64 x)), .d (.int .i64 x212)], .box [.nilc, .nilc], .box [.ref 3 (List.length xs71) 0 (List.length xs71), .ref 4 (List.length xs72) 0 (List.length xs72)], .deep 1 (List.set (List.map (dp e_i64) xs71) (Int.toNat r1230) none), .sl 1 (List.map e_i64 xs72) false, .sl 1 (List.map e_i64 (e113 ++ ([r14] : List Int))) false, .sl 1 (List.map e_i64 ([r14] : List Int)) false]) (enc := e_i64) 5 e113 ([r14] : List Int) Try.underlying22 Try.underlying22 ty3 (hy := (holdsRef (enc := e_i64) 6 ([r14] : List Int) false)) (hfit := h138)))) (h := ?_)
          refine aP 12 (.eptr 3 (List.length xs71) (Int.toNat r1230) 0) rfl (k_idxDeep (isz := 1) (yss := (List.map (dp e_i64) xs71)) 3 xs71 (a := e113) (by kernel_rfl) (k := .i64) (i := r1230) (by kernel_rfl) (by kernel_rfl) (by simp) Try.underlying29 ty22 h136 h137) ?_
          refine dSet _ (fun xs36 hs1 => ?_)
          refine aOne (i := 13) (v := .undef) rfl (hac := (Does.acts (k_put (isz := 1) (yss := (List.set (List.map (dp e_i64) xs71) (Int.toNat r1230) none)) (enc := e_i64) (H' := [.box [.d (.lit (List.map e_i64 x)), .d (.int .i64 x212)], .box [.nilc, .nilc], .box [.ref 3 (List.length xs71) 0 (List.length xs71), .ref 4 (List.length xs72) 0 (List.length xs72)], .deep 1 (List.map (dp e_i64) xs36), .sl 1 (List.map e_i64 xs72) false, .dead, .sl 1 (List.map e_i64 ([r14] : List Int)) false]) 3 5 xs71 (e113 ++ ([r14] : List Int)) (by kernel_rfl) (by kernel_rfl) (by kernel_rfl) (by simp) (List.getElem?_eq_some_iff.1 h137).1 ty22 (by kernel_rfl) (by kernel_rfl) (by kernel_rfl) (put_hole hs1) (by kernel_rfl)))) (h := ?_)
          refine dDrop [6, 7] [6, 7] (T' := [(6, .ptr 1 0), (7, .ptr 2 0)]) (U' := [(6, .ptr 1 0), (7, .ptr 2 0)]) (h := ?_)
          refine dView (H' := [.box [.d (.lit (List.map e_i64 x)), .d (.int .i64 x212)], .box [.nilc, .nilc], .box [.ref 3 (List.length xs71) 0 (List.length xs71), .ref 4 (List.length xs72) 0 (List.length xs72)], .deep 1 (List.map (dp e_i64) xs36), .sl 1 (List.map e_i64 xs72) false, .dead, .sl 1 (List.map e_i64 ([r14] : List Int)) false]) rfl rfl (h := ?_)
          refine dView (T' := [(6, .ptr 1 0), (7, .ptr 2 0)]) (H' := [.box [.d (.lit (List.map e_i64 x)), .d (.int .i64 x212)], .box [.nilc, .nilc], .box [.ref 3 (List.length xs36) 0 (List.length xs36), .ref 4 (List.length xs72) 0 (List.length xs72)], .deep 1 (List.map (dp e_i64) xs36), .sl 1 (List.map e_i64 xs72) false, .dead, .sl 1 (List.map e_i64 ([r14] : List Int)) false]) (by first | rw [(set_len hs1)] | rfl) rfl (by first | rw [(set_len hs1)] | rfl) ?_
          refine aDone (h := ?_)
          refine oHead [6, 7] [0, 1, 2, 3, 4] (T' := [(6, .ptr 1 0), (7, .ptr 2 0)]) (H' := [.box [.d (.lit (List.map e_i64 x)), .d (.int .i64 x212)], .box [.nilc, .nilc], .box [.ref 3 (List.length xs36) 0 (List.length xs36), .ref 4 (List.length xs72) 0 (List.length xs72)], .deep 1 (List.map (dp e_i64) xs36), .sl 1 (List.map e_i64 xs72) false]) (hnd := by decide) (h := ?_)
          exact hj51 (x212, xs36)
         ·refine sCall (i := 9) (caps := []) (v := (uc fun (r14 : Int) => (fun (x212 : Int) => (.d (.int .i64 r14) : V)))) (H' := (uc fun (r14 : Int) => (fun (x212 : Int) => ([.box [.d (.lit (List.map e_i64 x)), .d (.int .i64 x212)], .box [.nilc, .nilc], .box [.ref 3 (List.length xs71) 0 (List.length xs71), .ref 4 (List.length xs72) 0 (List.length xs72)], .deep 1 (List.map (dp e_i64) xs71), .sl 1 (List.map e_i64 xs72) false] : List Blk)))) [0] _ (make_Tape_Range_goes k (-1) 5 x x331) rfl (ho := rfl) (hfn := Try.func38) (hb := rfl) (hconv := ConvRs.refl _ _) (hnd := by decide) (hBl := fun _ => (by kernel_rfl)) (hv := fun _ => (by kernel_rfl)) (hH' := fun _ => (by kernel_rfl)) (h := fun r => ?_)
          obtain ⟨r14, x212⟩ := r
          refine dUc ?_
          refine aMany [7, 10] (h := .cons _ _ ?_ (.cons _ _ ?_ .nil))
          ·refine sOne (i := 7) (v := .ref 5 (List.length e113) 0 (List.length e113)) rfl (hac := Does.acts (k_take (isz := 1) (enc := e_i64) (H' := [.box [.d (.lit (List.map e_i64 x)), .d (.int .i64 x212)], .box [.nilc, .nilc], .box [.ref 3 (List.length xs71) 0 (List.length xs71), .ref 4 (List.length xs72) 0 (List.length xs72)], .deep 1 (List.set (List.map (dp e_i64) xs71) (Int.toNat r1230) none), .sl 1 (List.map e_i64 xs72) false, .sl 1 (List.map e_i64 e113) false]) 3 xs71 (by kernel_rfl) (by kernel_rfl) Try.underlying22 (by kernel_rfl) h137 (by kernel_rfl))) (h := ?_)
           refine aOne (i := 10) (v := .ref 6 (List.length ([r14] : List Int)) 0 (List.length ([r14] : List Int))) rfl (hac := (Does.acts (k_buildSlice (H' := [.box [.d (.lit (List.map e_i64 x)), .d (.int .i64 x212)], .box [.nilc, .nilc], .box [.ref 3 (List.length xs71) 0 (List.length xs71), .ref 4 (List.length xs72) 0 (List.length xs72)], .deep 1 (List.set (List.map (dp e_i64) xs71) (Int.toNat r1230) none), .sl 1 (List.map e_i64 xs72) false, .sl 1 (List.map e_i64 e113) false, .sl 1 (List.map e_i64 ([r14] : List Int)) false]) (List.map e_i64 ([r14] : List Int)) Try.underlying22 ty3))) (h := ?_)
           refine dCap (fun h138 => ?_)
           refine aOne (i := 11) (v := .ref 5 (List.length (e113 ++ ([r14] : List Int))) 0 (List.length (e113 ++ ([r14] : List Int)))) rfl (hac := (Does.acts (k_append (H' := [.box [.d (.lit (List.map e_i64 x)), .d (.int .i64 x212)], .box [.nilc, .nilc], .box [.ref 3 (List.length xs71) 0 (List.length xs71), .ref 4 (List.length xs72) 0 (List.length xs72)], .deep 1 (List.set (List.map (dp e_i64) xs71) (Int.toNat r1230) none), .sl 1 (List.map e_i64 xs72) false, .sl 1 (List.map e_i64 (e113 ++ ([r14] : List Int))) false, .sl 1 (List.map e_i64 ([r14] : List Int)) false]) (enc := e_i64) 5 e113 ([r14] : List Int) Try.underlying22 Try.underlying22 ty3 (hy := (holdsRef (enc := e_i64) 6 ([r14] : List Int) false)) (hfit := h138)))) (h := ?_)
           refine aP 12 (.eptr 3 (List.length xs71) (Int.toNat r1230) 0) rfl (k_idxDeep (isz := 1) (yss := (List.map (dp e_i64) xs71)) 3 xs71 (a := e113) (by kernel_rfl) (k := .i64) (i := r1230) (by kernel_rfl) (by kernel_rfl) (by simp) Try.underlying29 ty22 h136 h137) ?_
           refine dSet _ (fun xs36 hs1 => ?_)
           refine aOne (i := 13) (v := .undef) rfl (hac := (Does.acts (k_put (isz := 1) (yss := (List.set (List.map (dp e_i64) xs71) (Int.toNat r1230) none)) (enc := e_i64) (H' := [.box [.d (.lit (List.map e_i64 x)), .d (.int .i64 x212)], .box [.nilc, .nilc], .box [.ref 3 (List.length xs71) 0 (List.length xs71), .ref 4 (List.length xs72) 0 (List.length xs72)], .deep 1 (List.map (dp e_i64) xs36), .sl 1 (List.map e_i64 xs72) false, .dead, .sl 1 (List.map e_i64 ([r14] : List Int)) false]) 3 5 xs71 (e113 ++ ([r14] : List Int)) (by kernel_rfl) (by kernel_rfl) (by kernel_rfl) (by simp) (List.getElem?_eq_some_iff.1 h137).1 ty22 (by kernel_rfl) (by kernel_rfl) (by kernel_rfl) (put_hole hs1) (by kernel_rfl)))) (h := ?_)
           refine dDrop [6, 7] [6, 7] (T' := [(6, .ptr 1 0), (7, .ptr 2 0)]) (U' := [(6, .ptr 1 0), (7, .ptr 2 0)]) (h := ?_)
           refine dView (H' := [.box [.d (.lit (List.map e_i64 x)), .d (.int .i64 x212)], .box [.nilc, .nilc], .box [.ref 3 (List.length xs71) 0 (List.length xs71), .ref 4 (List.length xs72) 0 (List.length xs72)], .deep 1 (List.map (dp e_i64) xs36), .sl 1 (List.map e_i64 xs72) false, .dead, .sl 1 (List.map e_i64 ([r14] : List Int)) false]) rfl rfl (h := ?_)
           refine dView (T' := [(6, .ptr 1 0), (7, .ptr 2 0)]) (H' := [.box [.d (.lit (List.map e_i64 x)), .d (.int .i64 x212)], .box [.nilc, .nilc], .box [.ref 3 (List.length xs36) 0 (List.length xs36), .ref 4 (List.length xs72) 0 (List.length xs72)], .deep 1 (List.map (dp e_i64) xs36), .sl 1 (List.map e_i64 xs72) false, .dead, .sl 1 (List.map e_i64 ([r14] : List Int)) false]) (by first | rw [(set_len hs1)] | rfl) rfl (by first | rw [(set_len hs1)] | rfl) ?_
           refine aDone (h := ?_)
           refine oHead [6, 7] [0, 1, 2, 3, 4] (T' := [(6, .ptr 1 0), (7, .ptr 2 0)]) (H' := [.box [.d (.lit (List.map e_i64 x)), .d (.int .i64 x212)], .box [.nilc, .nilc], .box [.ref 3 (List.length xs36) 0 (List.length xs36), .ref 4 (List.length xs72) 0 (List.length xs72)], .deep 1 (List.map (dp e_i64) xs36), .sl 1 (List.map e_i64 xs72) false]) (hnd := by decide) (h := ?_)
           exact hj51 (x212, xs36)
          ·refine sOne (i := 10) (v := .ref 5 (List.length ([r14] : List Int)) 0 (List.length ([r14] : List Int))) rfl (hac := (Does.acts (k_buildSlice (H' := [.box [.d (.lit (List.map e_i64 x)), .d (.int .i64 x212)], .box [.nilc, .nilc], .box [.ref 3 (List.length xs71) 0 (List.length xs71), .ref 4 (List.length xs72) 0 (List.length xs72)], .deep 1 (List.map (dp e_i64) xs71), .sl 1 (List.map e_i64 xs72) false, .sl 1 (List.map e_i64 ([r14] : List Int)) false]) (List.map e_i64 ([r14] : List Int)) Try.underlying22 ty3))) (h := ?_)
           refine aOne (i := 7) (v := .ref 6 (List.length e113) 0 (List.length e113)) rfl (hac := (Does.acts (k_take (isz := 1) (enc := e_i64) (H' := [.box [.d (.lit (List.map e_i64 x)), .d (.int .i64 x212)], .box [.nilc, .nilc], .box [.ref 3 (List.length xs71) 0 (List.length xs71), .ref 4 (List.length xs72) 0 (List.length xs72)], .deep 1 (List.set (List.map (dp e_i64) xs71) (Int.toNat r1230) none), .sl 1 (List.map e_i64 xs72) false, .sl 1 (List.map e_i64 ([r14] : List Int)) false, .sl 1 (List.map e_i64 e113) false]) 3 xs71 (by kernel_rfl) (by kernel_rfl) Try.underlying22 (by kernel_rfl) h137 (by kernel_rfl)))) (h := ?_)
           refine dCap (fun h138 => ?_)
           refine aOne (i := 11) (v := .ref 6 (List.length (e113 ++ ([r14] : List Int))) 0 (List.length (e113 ++ ([r14] : List Int)))) rfl (hac := (Does.acts (k_append (H' := [.box [.d (.lit (List.map e_i64 x)), .d (.int .i64 x212)], .box [.nilc, .nilc], .box [.ref 3 (List.length xs71) 0 (List.length xs71), .ref 4 (List.length xs72) 0 (List.length xs72)], .deep 1 (List.set (List.map (dp e_i64) xs71) (Int.toNat r1230) none), .sl 1 (List.map e_i64 xs72) false, .sl 1 (List.map e_i64 ([r14] : List Int)) false, .sl 1 (List.map e_i64 (e113 ++ ([r14] : List Int))) false]) (enc := e_i64) 6 e113 ([r14] : List Int) Try.underlying22 Try.underlying22 ty3 (hy := (holdsRef (enc := e_i64) 5 ([r14] : List Int) false)) (hfit := h138)))) (h := ?_)
           refine aP 12 (.eptr 3 (List.length xs71) (Int.toNat r1230) 0) rfl (k_idxDeep (isz := 1) (yss := (List.map (dp e_i64) xs71)) 3 xs71 (a := e113) (by kernel_rfl) (k := .i64) (i := r1230) (by kernel_rfl) (by kernel_rfl) (by simp) Try.underlying29 ty22 h136 h137) ?_
           refine dSet _ (fun xs36 hs1 => ?_)
           refine aOne (i := 13) (v := .undef) rfl (hac := (Does.acts (k_put (isz := 1) (yss := (List.set (List.map (dp e_i64) xs71) (Int.toNat r1230) none)) (enc := e_i64) (H' := [.box [.d (.lit (List.map e_i64 x)), .d (.int .i64 x212)], .box [.nilc, .nilc], .box [.ref 3 (List.length xs71) 0 (List.length xs71), .ref 4 (List.length xs72) 0 (List.length xs72)], .deep 1 (List.map (dp e_i64) xs36), .sl 1 (List.map e_i64 xs72) false, .sl 1 (List.map e_i64 ([r14] : List Int)) false, .dead]) 3 6 xs71 (e113 ++ ([r14] : List Int)) (by kernel_rfl) (by kernel_rfl) (by kernel_rfl) (by simp) (List.getElem?_eq_some_iff.1 h137).1 ty22 (by kernel_rfl) (by kernel_rfl) (by kernel_rfl) (put_hole hs1) (by kernel_rfl)))) (h := ?_)
           refine dDrop [6, 7] [6, 7] (T' := [(6, .ptr 1 0), (7, .ptr 2 0)]) (U' := [(6, .ptr 1 0), (7, .ptr 2 0)]) (h := ?_)
           refine dView (H' := [.box [.d (.lit (List.map e_i64 x)), .d (.int .i64 x212)], .box [.nilc, .nilc], .box [.ref 3 (List.length xs71) 0 (List.length xs71), .ref 4 (List.length xs72) 0 (List.length xs72)], .deep 1 (List.map (dp e_i64) xs36), .sl 1 (List.map e_i64 xs72) false, .sl 1 (List.map e_i64 ([r14] : List Int)) false, .dead]) rfl rfl (h := ?_)
           refine dView (T' := [(6, .ptr 1 0), (7, .ptr 2 0)]) (H' := [.box [.d (.lit (List.map e_i64 x)), .d (.int .i64 x212)], .box [.nilc, .nilc], .box [.ref 3 (List.length xs36) 0 (List.length xs36), .ref 4 (List.length xs72) 0 (List.length xs72)], .deep 1 (List.map (dp e_i64) xs36), .sl 1 (List.map e_i64 xs72) false, .sl 1 (List.map e_i64 ([r14] : List Int)) false, .dead]) (by first | rw [(set_len hs1)] | rfl) rfl (by first | rw [(set_len hs1)] | rfl) ?_
           refine aDone (h := ?_)
           refine oHead [6, 7] [0, 1, 2, 3, 4] (T' := [(6, .ptr 1 0), (7, .ptr 2 0)]) (H' := [.box [.d (.lit (List.map e_i64 x)), .d (.int .i64 x212)], .box [.nilc, .nilc], .box [.ref 3 (List.length xs36) 0 (List.length xs36), .ref 4 (List.length xs72) 0 (List.length xs72)], .deep 1 (List.map (dp e_i64) xs36), .sl 1 (List.map e_i64 xs72) false]) (hnd := by decide) (h := ?_)
           exact hj51 (x212, xs36)
       ·refine oCondF (h := ?_)
        refine oRegion rfl ?_
        refine oP (.ptr 2 0) (k_fieldAddr 2 0 (hu := Try.underlying31) (hf := rfl) (hi := ty29)) ?_
        refine oQ (.ref 3 (List.length xs71) 0 (List.length xs71)) (k_load 2 0 (hu := Try.underlying29)) ?_
        refine oFreezeDeep 3 (isz := 1) (enc := e_i64) (xs := xs71) (by kernel_rfl) ?_
        refine oView (H' := [.box [.d (.lit (List.map e_i64 x)), .d (.int .i64 x330)], .box [.nilc, .nilc], .box [.ref 3 (List.length xs71) 0 (List.length xs71), .ref 4 (List.length xs72) 0 (List.length xs72)], .sl 1 (List.map e_Li64 xs71) true, .sl 1 (List.map e_i64 xs72) false]) rfl (h := ?_)
        refine oConv 78 (v := .ref 3 (List.length xs71) 0 (List.length xs71)) (v' := .d (.lit (List.map e_Li64 xs71))) (hc := k_lit (enc := e_Li64) (sz := 1) 3 xs71) (h := ?_)
        refine bCut (fun h177 h178 h179 => ?_)
        refine oP (.d (.lit (List.map e_Li64 (List.drop (Int.toNat 1) xs71)))) (k_cutL (k1 := .i64) (l := 1) e_Li64_len xs71 (by kernel_rfl) (by kernel_rfl) Try.underlying29 ty22 h178 h179) ?_
        refine oP (.ptr 2 0) (k_fieldAddr 2 0 (hu := Try.underlying31) (hf := rfl) (hi := ty29)) ?_
        refine oD (.undef) (k_store (vs := [.d (.lit (List.map e_Li64 (List.drop (Int.toNat 1) xs71)))]) (H' := [.box [.d (.lit (List.map e_i64 x)), .d (.int .i64 x330)], .box [.nilc, .nilc], .box [.d (.lit (List.map e_Li64 (List.drop (Int.toNat 1) xs71))), .ref 4 (List.length xs72) 0 (List.length xs72)], .sl 1 (List.map e_Li64 xs71) true, .sl 1 (List.map e_i64 xs72) false]) 2 0 (hi := ty29)) ?_
        refine oEnd ?_
        refine oBlk ?_
        refine oHead [6, 7] [0, 1, 2, 4] (T' := [(6, .ptr 1 0), (7, .ptr 2 0)]) (H' := [.box [.d (.lit (List.map e_i64 x)), .d (.int .i64 x330)], .box [.nilc, .nilc], .box [.d (.lit (List.map e_Li64 (List.drop (Int.toNat 1) xs71))), .ref 3 (List.length xs72) 0 (List.length xs72)], .sl 1 (List.map e_i64 xs72) false]) (hnd := by decide) (h := ?_)
        exact hj49 (x330, (List.drop (Int.toNat 1) xs71), xs72)
     ·refine oCondF (h := ?_)
      refine oSkip ?_
      refine oFreezeDeep 3 (isz := 1) (enc := e_i64) (xs := xs71) (by kernel_rfl) ?_
      refine oView (H' := [.box [.d (.lit (List.map e_i64 x)), .d (.int .i64 x213)], .box [.nilc, .nilc], .box [.ref 3 (List.length xs71) 0 (List.length xs71), .ref 4 (List.length xs72) 0 (List.length xs72)], .sl 1 (List.map e_Li64 xs71) true, .sl 1 (List.map e_i64 xs72) false]) rfl (h := ?_)
      refine oConvB 2 (cells := [.ref 3 (List.length xs71) 0 (List.length xs71), .ref 4 (List.length xs72) 0 (List.length xs72)]) (cells' := [.d (.lit (List.map e_Li64 xs71)), .ref 4 (List.length xs72) 0 (List.length xs72)]) (hc := .cons _ _ _ _ (k_lit (enc := e_Li64) (sz := 1) 3 xs71) (.cons _ _ _ _ (.same _) .nil)) (h := ?_)
      refine oView (H' := [.box [.d (.lit (List.map e_i64 x)), .d (.int .i64 x213)], .box [.nilc, .nilc], .box [.d (.lit (List.map e_Li64 xs71)), .ref 4 (List.length xs72) 0 (List.length xs72)], .sl 1 (List.map e_Li64 xs71) true, .sl 1 (List.map e_i64 xs72) false]) rfl (h := ?_)
      refine oHead [6, 7] [0, 1, 2, 4] (T' := [(6, .ptr 1 0), (7, .ptr 2 0)]) (H' := [.box [.d (.lit (List.map e_i64 x)), .d (.int .i64 x213)], .box [.nilc, .nilc], .box [.d (.lit (List.map e_Li64 xs71)), .ref 3 (List.length xs72) 0 (List.length xs72)], .sl 1 (List.map e_i64 xs72) false]) (hnd := by decide) (h := ?_)
      exact hj49 (x213, xs71, xs72)
   ·refine bPickF 69 (fun c => F (c && (decide (((List.length xs71) : Int) > 0)))) (h1 := fun hc => ?_) (h2 := fun hc => ?_)
    ·refine oP (.ptr 2 0) (k_fieldAddr 2 0 (hu := Try.underlying31) (hf := rfl) (hi := ty29)) ?_
     refine oQ (.ref 3 (List.length xs71) 0 (List.length xs71)) (k_load 2 0 (hu := Try.underlying29)) ?_
     refine oP (.d (.int .i64 ((List.length xs71) : Int))) (k_lenDeep (isz := 1) (enc := e_i64) 3 xs71 (by kernel_rfl) (by kernel_rfl) Try.underlying29) ?_
     refine oP (.d (.bool (decide (((List.length xs71) : Int) > 0)))) (p_int (k := .i64) (p := ((List.length xs71) : Int)) (q := 0)) ?_
     refine oP (.d (.bool (decide (((List.length xs71) : Int) > 0)))) (p_pick (b := true)) ?_
     refine oHead [0, 6, 7, 74] [0, 1, 2, 3, 4] (T' := [(0, .ptr 0 0), (6, .ptr 1 0), (7, .ptr 2 0), (74, .d (.bool (decide (((List.length xs71) : Int) > 0))))]) (H' := [.box [.d (.lit (List.map e_i64 x)), .d (.int .i64 x213)], .box [.nilc, .nilc], .box [.ref 3 (List.length xs71) 0 (List.length xs71), .ref 4 (List.length xs72) 0 (List.length xs72)], .deep 1 (List.map (dp e_i64) xs71), .sl 1 (List.map e_i64 xs72) false]) (hnd := by decide) (h := ?_)
     exact hj46 (decide (((List.length xs71) : Int) > 0))
    ·refine oNot (h := ?_)
     refine oNot (h := ?_)
     refine oNot (h := ?_)
     refine oNot (h := ?_)
     refine oP (.d (.bool false)) (p_pick (b := false)) ?_
     refine oHead [0, 6, 7, 74] [0, 1, 2, 3, 4] (T' := [(0, .ptr 0 0), (6, .ptr 1 0), (7, .ptr 2 0), (74, .d (.bool false))]) (H' := [.box [.d (.lit (List.map e_i64 x)), .d (.int .i64 x213)], .box [.nilc, .nilc], .box [.ref 3 (List.length xs71) 0 (List.length xs71), .ref 4 (List.length xs72) 0 (List.length xs72)], .deep 1 (List.map (dp e_i64) xs71), .sl 1 (List.map e_i64 xs72) false]) (hnd := by decide) (h := ?_)
     exact hj46 false
  ·refine oBlock ?_
   refine oLoop ?_
   refine oVirtBDeep (isz := 1) 3 0 (cells := [.nilc, .nilc]) (by kernel_rfl) (by kernel_rfl) ?_
   refine oView (H' := [.box [.d (.lit (List.map e_i64 x)), .d (.int .i64 x1)], .box [.d (.int .i64 p0), .d (.int .i64 p1), .d (.lit (List.map e_SPart p2))], .box [.nilc, .nilc], .box [.ref 4 (List.length ([] : List (List Int))) 0 (List.length ([] : List (List Int))), .nilc], .deep 1 (List.map (dp e_i64) ([] : List (List Int)))]) rfl (h := ?_)
   refine oVirtB (esz := 1) 3 1 (cells := [.ref 4 (List.length ([] : List (List Int))) 0 (List.length ([] : List (List Int))), .nilc]) (h := ?_)
   refine oView (H' := [.box [.d (.lit (List.map e_i64 x)), .d (.int .i64 x1)], .box [.d (.int .i64 p0), .d (.int .i64 p1), .d (.lit (List.map e_SPart p2))], .box [.nilc, .nilc], .box [.ref 4 (List.length ([] : List (List Int))) 0 (List.length ([] : List (List Int))), .ref 5 (List.length ([] : List Int)) 0 (List.length ([] : List Int))], .deep 1 (List.map (dp e_i64) ([] : List (List Int))), .sl 1 (List.map e_i64 ([] : List Int)) false]) rfl (h := ?_)
   refine oHead [0, 2, 4, 6, 7, 8] [0, 1, 2, 3, 4, 5] (T' := [(0, .ptr 0 0), (2, .d (.int .i64 10)), (4, .ptr 1 0), (6, .ptr 2 0), (7, .ptr 3 0), (8, .d (.int .i64 0))]) (H' := [.box [.d (.lit (List.map e_i64 x)), .d (.int .i64 x1)], .box [.d (.int .i64 p0), .d (.int .i64 p1), .d (.lit (List.map e_SPart p2))], .box [.nilc, .nilc], .box [.ref 4 (List.length ([] : List (List Int))) 0 (List.length ([] : List (List Int))), .ref 5 (List.length ([] : List Int)) 0 (List.length ([] : List Int))], .deep 1 (List.map (dp e_i64) ([] : List (List Int))), .sl 1 (List.map e_i64 ([] : List Int)) false]) (hnd := by decide) (h := ?_)
   refine bLoop (body := make_Tape_Scheme_b1 k p2 x) ((uc fun (i4 : Int) => (uc fun (x121 : Int) => (uc fun (xs92 : (List (List Int))) => (fun (xs93 : (List Int)) => [(0, .ptr 0 0), (2, .d (.int .i64 10)), (4, .ptr 1 0), (6, .ptr 2 0), (7, .ptr 3 0), (8, .d (.int .i64 i4))]))))) ((uc fun (i4 : Int) => (uc fun (x121 : Int) => (uc fun (xs92 : (List (List Int))) => (fun (xs93 : (List Int)) => [.box [.d (.lit (List.map e_i64 x)), .d (.int .i64 x121)], .box [.d (.int .i64 p0), .d (.int .i64 p1), .d (.lit (List.map e_SPart p2))], .box [.nilc, .nilc], .box [.ref 4 (List.length xs92) 0 (List.length xs92), .ref 5 (List.length xs93) 0 (List.length xs93)], .deep 1 (List.map (dp e_i64) xs92), .sl 1 (List.map e_i64 xs93) false]))))) (fun again hag1 s => ?_) k (0, x1, ([] : List (List Int)), ([] : List Int))
   ·unfold make_Tape_Scheme_b1
    obtain ⟨i4, x121, xs92, xs93⟩ := s
    refine bUc ?_
    refine bUc ?_
    refine bUc ?_
    refine oView (T' := [(0, .ptr 0 0), (2, .d (.int .i64 10)), (4, .ptr 1 0), (6, .ptr 2 0), (7, .ptr 3 0), (8, .d (.int .i64 i4))]) (H' := [.box [.d (.lit (List.map e_i64 x)), .d (.int .i64 x121)], .box [.d (.int .i64 p0), .d (.int .i64 p1), .d (.lit (List.map e_SPart p2))], .box [.nilc, .nilc], .box [.ref 4 (List.length xs92) 0 (List.length xs92), .ref 5 (List.length xs93) 0 (List.length xs93)], .deep 1 (List.map (dp e_i64) xs92), .sl 1 (List.map e_i64 xs93) false]) (h := ?_)
    refine oSeq ?_
    refine oSR rfl ?_
    refine oP (.d (.int .i64 i4)) p_move ?_
    refine oP (.ptr 1 2) (k_fieldAddr 1 0 (hu := Try.underlying27) (hf := rfl) (hi := ty25)) ?_
    refine oQ (.d (.lit (List.map e_SPart p2))) (k_load 1 2 (hu := Try.underlying25)) ?_
    refine oP (.d (.int .i64 ((List.length p2) : Int))) (k_lenLit (enc := e_SPart) p2 (hu := Try.underlying25)) ?_
    refine oP (.d (.bool (decide (i4 < ((List.length p2) : Int))))) (p_int (k := .i64) (p := i4) (q := ((List.length p2) : Int))) ?_
    refine oEnd ?_
    refine bSplit 16 (h1 := fun hc => ?_) (h2 := fun hc => ?_)
    ·refine oCondT (h := ?_)
     refine oSkip ?_
     refine oSeq ?_
     refine oBlock ?_
     refine oSR rfl ?_
     refine oP (.nilc) p_assign ?_
     refine oEnd ?_
     refine oSeq ?_
     refine oSR rfl ?_
     refine oP (.ptr 1 2) (k_fieldAddr 1 0 (hu := Try.underlying27) (hf := rfl) (hi := ty25)) ?_
     refine oQ (.d (.lit (List.map e_SPart p2))) (k_load 1 2 (hu := Try.underlying25)) ?_
     refine oP (.d (.int .i64 i4)) p_move ?_
     refine bIdx (fun e141 h1120 h1121 => ?_)
     refine oP (.lptr (e_SPart e141) 0) (k_idxLit e_SPart_len p2 (a := e141) (k := .i64) (i := i4) (hu := Try.underlying25) (hi := ty49) (h0 := h1120) (he := h1121)) ?_
     refine oP (.lptr (e_SPart e141) 0) (k_fieldAddrL (cells := e_SPart e141) 0 (hu := Try.underlying49) (hf := rfl) (hi := ty3)) ?_
     refine oQ (.d (.int .i64 e141.Kind)) (k_loadL (cells := e_SPart e141) 0 (hu := Try.underlying3)) ?_
     refine oP (.d (.bool (e141.Kind == 2))) (p_int (k := .i64) (p := e141.Kind) (q := 2)) ?_
     refine oP (.d (.bool (e141.Kind == 2))) p_move ?_
     refine bMeet 4 rfl ((uc fun (x150 : Bool) => (fun (x151 : Int) => [(0, .ptr 0 0), (2, .d (.int .i64 10)), (4, .ptr 1 0), (6, .ptr 2 0), (7, .ptr 3 0), (8, .d (.int .i64 i4)), (9, .nilc), (30, .d (.bool x150))]))) ((uc fun (x150 : Bool) => (fun (x151 : Int) => [.box [.d (.lit (List.map e_i64 x)), .d (.int .i64 x151)], .box [.d (.int .i64 p0), .d (.int .i64 p1), .d (.lit (List.map e_SPart p2))], .box [.nilc, .nilc], .box [.ref 4 (List.length xs92) 0 (List.length xs92), .ref 5 (List.length xs93) 0 (List.length xs93)], .deep 1 (List.map (dp e_i64) xs92), .sl 1 (List.map e_i64 xs93) false]))) (fun s => s) (fun s => ?_) (fun hj88 => ?_)
     ·obtain ⟨x150, x151⟩ := s
      refine bUc ?_
      refine oView (T' := [(0, .ptr 0 0), (2, .d (.int .i64 10)), (4, .ptr 1 0), (6, .ptr 2 0), (7, .ptr 3 0), (8, .d (.int .i64 i4)), (9, .nilc), (30, .d (.bool x150))]) (H' := [.box [.d (.lit (List.map e_i64 x)), .d (.int .i64 x151)], .box [.d (.int .i64 p0), .d (.int .i64 p1), .d (.lit (List.map e_SPart p2))], .box [.nilc, .nilc], .box [.ref 4 (List.length xs92) 0 (List.length xs92), .ref 5 (List.length xs93) 0 (List.length xs93)], .deep 1 (List.map (dp e_i64) xs92), .sl 1 (List.map e_i64 xs93) false]) (h := ?_)
      refine oEnd ?_
      refine bJoin ((uc fun (x157 : Int) => (fun (xs122 : (List Int)) => [(0, .ptr 0 0), (2, .d (.int .i64 10)), (4, .ptr 1 0), (6, .ptr 2 0), (7, .ptr 3 0), (8, .d (.int .i64 i4)), (9, .ref 4 (List.length xs122) 0 (List.length xs122))]))) ((uc fun (x157 : Int) => (fun (xs122 : (List Int)) => [.box [.d (.lit (List.map e_i64 x)), .d (.int .i64 x157)], .box [.d (.int .i64 p0), .d (.int .i64 p1), .d (.lit (List.map e_SPart p2))], .box [.nilc, .nilc], .box [.ref 5 (List.length xs92) 0 (List.length xs92), .ref 6 (List.length xs93) 0 (List.length xs93)], .sl 1 (List.map e_i64 xs122) false, .deep 1 (List.map (dp e_i64) xs92), .sl 1 (List.map e_i64 xs93) false]))) (fun s => s) (fun s => ?_) (fun hj80 => ?_)
      ·obtain ⟨x157, xs122⟩ := s
       refine bUc ?_
       refine oView (T' := [(0, .ptr 0 0), (2, .d (.int .i64 10)), (4, .ptr 1 0), (6, .ptr 2 0), (7, .ptr 3 0), (8, .d (.int .i64 i4)), (9, .ref 4 (List.length xs122) 0 (List.length xs122))]) (H' := [.box [.d (.lit (List.map e_i64 x)), .d (.int .i64 x157)], .box [.d (.int .i64 p0), .d (.int .i64 p1), .d (.lit (List.map e_SPart p2))], .box [.nilc, .nilc], .box [.ref 5 (List.length xs92) 0 (List.length xs92), .ref 6 (List.length xs93) 0 (List.length xs93)], .sl 1 (List.map e_i64 xs122) false, .deep 1 (List.map (dp e_i64) xs92), .sl 1 (List.map e_i64 xs93) false]) (h := ?_)
       refine bJoin ((uc fun (x158 : Int) => (fun (xs123 : (List Int)) => [(0, .ptr 0 0), (2, .d (.int .i64 10)), (4, .ptr 1 0), (6, .ptr 2 0), (7, .ptr 3 0), (8, .d (.int .i64 i4))]))) ((uc fun (x158 : Int) => (fun (xs123 : (List Int)) => [.box [.d (.lit (List.map e_i64 x)), .d (.int .i64 x158)], .box [.d (.int .i64 p0), .d (.int .i64 p1), .d (.lit (List.map e_SPart p2))], .box [.nilc, .nilc], .box [.ref 4 (List.length (xs92 ++ ([xs122] : List (List Int)))) 0 (List.length (xs92 ++ ([xs122] : List (List Int)))), .ref 5 (List.length xs123) 0 (List.length xs123)], .deep 1 (List.map (dp e_i64) (xs92 ++ ([xs122] : List (List Int)))), .sl 1 (List.map e_i64 xs123) false]))) (fun s => s) (fun s => ?_) (fun hj81 => ?_)
       ·obtain ⟨x158, xs123⟩ := s
        refine bUc ?_
        refine oView (T' := [(0, .ptr 0 0), (2, .d (.int .i64 10)), (4, .ptr 1 0), (6, .ptr 2 0), (7, .ptr 3 0), (8, .d (.int .i64 i4))]) (H' := [.box [.d (.lit (List.map e_i64 x)), .d (.int .i64 x158)], .box [.d (.int .i64 p0), .d (.int .i64 p1), .d (.lit (List.map e_SPart p2))], .box [.nilc, .nilc], .box [.ref 4 (List.length (xs92 ++ ([xs122] : List (List Int)))) 0 (List.length (xs92 ++ ([xs122] : List (List Int)))), .ref 5 (List.length xs123) 0 (List.length xs123)], .deep 1 (List.map (dp e_i64) (xs92 ++ ([xs122] : List (List Int)))), .sl 1 (List.map e_i64 xs123) false]) (h := ?_)
        refine oBlk ?_
        refine oRegion rfl ?_
        refine oP (.d (.int .i64 i4)) p_move ?_
        refine oP (.d (.int .i64 (IntKind.wrap .i64 (i4 + 1)))) (p_int (k := .i64) (p := i4) (q := 1)) ?_
        refine oP (.d (.int .i64 (IntKind.wrap .i64 (i4 + 1)))) p_assign ?_
        refine oEnd ?_
        refine oAgain ?_
        refine oHead [0, 2, 4, 6, 7, 8] [0, 1, 2, 3, 4, 5] (T' := [(0, .ptr 0 0), (2, .d (.int .i64 10)), (4, .ptr 1 0), (6, .ptr 2 0), (7, .ptr 3 0), (8, .d (.int .i64 (IntKind.wrap .i64 (i4 + 1))))]) (H' := [.box [.d (.lit (List.map e_i64 x)), .d (.int .i64 x158)], .box [.d (.int .i64 p0), .d (.int .i64 p1), .d (.lit (List.map e_SPart p2))], .box [.nilc, .nilc], .box [.ref 4 (List.length (xs92 ++ ([xs122] : List (List Int)))) 0 (List.length (xs92 ++ ([xs122] : List (List Int)))), .ref 5 (List.length xs123) 0 (List.length xs123)], .deep 1 (List.map (dp e_i64) (xs92 ++ ([xs122] : List (List Int)))), .sl 1 (List.map e_i64 xs123) false]) (hnd := by decide) (h := ?_)
        exact hag1 ((IntKind.wrap .i64 (i4 + 1)), x158, (xs92 ++ ([xs122] : List (List Int))), xs123)
       ·refine oDraw [(0, 9), (1, 16), (2, 16), (3, 13), (4, 3), (5, 4), (6, 11)] rfl ?_
        refine aP 0 (.ptr 3 0) rfl (k_fieldAddr 3 0 (hu := Try.underlying31) (hf := rfl) (hi := ty29)) ?_
        refine aQ 1 [3] (.ref 5 (List.length xs92) 0 (List.length xs92)) rfl (k_load 3 0 (hu := Try.underlying29)) ?_
        refine aP 2 (.ref 4 (List.length xs122) 0 (List.length xs122)) rfl p_move ?_
        refine aP 5 (.ptr 3 1) rfl (k_fieldAddr 3 0 (hu := Try.underlying31) (hf := rfl) (hi := ty22)) ?_
        refine aQ 6 [3] (.ref 6 (List.length xs93) 0 (List.length xs93)) rfl (k_load 3 1 (hu := Try.underlying22)) ?_
        refine aP 7 (.ptr 0 0) rfl p_move ?_
        refine aMany [3, 8] (h := .cons _ _ ?_ (.cons _ _ ?_ .nil))
        ·refine sOne (i := 3) (v := .ref 7 (List.length ([xs122] : List (List Int))) 0 (List.length ([xs122] : List (List Int)))) rfl (hac := (Does.acts (k_buildDeep (isz := 1) (enc := e_i64) (y := 50) (H' := [.box [.d (.lit (List.map e_i64 x)), .d (.int .i64 x157)], .box [.d (.int .i64 p0), .d (.int .i64 p1), .d (.lit (List.map e_SPart p2))], .box [.nilc, .nilc], .box [.ref 5 (List.length xs92) 0 (List.length xs92), .ref 6 (List.length xs93) 0 (List.length xs93)], .dead, .deep 1 (List.map (dp e_i64) xs92), .sl 1 (List.map e_i64 xs93) false, .deep 1 (List.map (dp e_i64) ([xs122] : List (List Int)))]) 4 xs122 Try.underlying29 ty22 (by kernel_rfl) (by kernel_rfl) (by kernel_rfl)))) (h := ?_)
         refine dCap (fun h18 => ?_)
         refine aMany [4, 8] (h := .cons _ _ ?_ (.cons _ _ ?_ .nil))
         ·refine sOne (i := 4) (v := .ref 5 (List.length (xs92 ++ ([xs122] : List (List Int)))) 0 (List.length (xs92 ++ ([xs122] : List (List Int))))) rfl (hac := (Does.acts (k_appendDeep (isz := 1) (enc := e_i64) (H' := [.box [.d (.lit (List.map e_i64 x)), .d (.int .i64 x157)], .box [.d (.int .i64 p0), .d (.int .i64 p1), .d (.lit (List.map e_SPart p2))], .box [.nilc, .nilc], .box [.ref 5 (List.length xs92) 0 (List.length xs92), .ref 6 (List.length xs93) 0 (List.length xs93)], .dead, .deep 1 (List.map (dp e_i64) (xs92 ++ ([xs122] : List (List Int)))), .sl 1 (List.map e_i64 xs93) false, .dead]) 5 7 xs92 ([xs122] : List (List Int)) Try.underlying29 Try.underlying29 ty22 (by kernel_rfl) (by kernel_rfl) (by kernel_rfl) (by kernel_rfl) (by kernel_rfl) (by kernel_rfl) h18 (by kernel_rfl)))) (h := ?_)
          refine aP 12 (.ptr 3 0) rfl (k_fieldAddr 3 0 (hu := Try.underlying31) (hf := rfl) (hi := ty29)) ?_
          refine aOne (i := 8) (v := .ref 8 (List.length ([0, 0, 0, 0, 1, 2] : List Int)) 0 (List.length ([0, 0, 0, 0, 1, 2] : List Int))) rfl (hac := (Does.acts (k_buildSlice (H' := [.box [.d (.lit (List.map e_i64 x)), .d (.int .i64 x157)], .box [.d (.int .i64 p0), .d (.int .i64 p1), .d (.lit (List.map e_SPart p2))], .box [.nilc, .nilc], .box [.ref 5 (List.length xs92) 0 (List.length xs92), .ref 6 (List.length xs93) 0 (List.length xs93)], .dead, .deep 1 (List.map (dp e_i64) (xs92 ++ ([xs122] : List (List Int)))), .sl 1 (List.map e_i64 xs93) false, .dead, .sl 1 (List.map e_i64 ([0, 0, 0, 0, 1, 2] : List Int)) false]) (List.map e_i64 ([0, 0, 0, 0, 1, 2] : List Int)) Try.underlying22 ty3))) (h := ?_)
          refine dCall (i := 9) (caps := []) (v := (uc fun (r1 : Int) => (fun (x21 : Int) => (.d (.int .i64 r1) : V)))) (H' := (uc fun (r1 : Int) => (fun (x21 : Int) => ([.box [.d (.lit (List.map e_i64 x)), .d (.int .i64 x21)], .box [.d (.int .i64 p0), .d (.int .i64 p1), .d (.lit (List.map e_SPart p2))], .box [.nilc, .nilc], .box [.ref 5 (List.length xs92) 0 (List.length xs92), .ref 6 (List.length xs93) 0 (List.length xs93)], .dead, .deep 1 (List.map (dp e_i64) (xs92 ++ ([xs122] : List (List Int)))), .sl 1 (List.map e_i64 xs93) false, .dead, .sl 1 (List.map e_i64 ([0, 0, 0, 0, 1, 2] : List Int)) false] : List Blk)))) [0, 8] _ (make_Tape_Pick_2_goes k x x157 ([0, 0, 0, 0, 1, 2] : List Int)) rfl (ho := rfl) (hfn := Try.func43) (hb := rfl) (hconv := ConvRs.refl _ _) (hnd := by decide) (hBl := fun _ => (by kernel_rfl)) (hv := fun _ => (by kernel_rfl)) (hH' := fun _ => (by kernel_rfl)) (h := fun r => ?_)
          obtain ⟨r1, x21⟩ := r
          refine dUc ?_
          refine aOne (i := 10) (v := .ref 9 (List.length ([r1] : List Int)) 0 (List.length ([r1] : List Int))) rfl (hac := (Does.acts (k_buildSlice (H' := [.box [.d (.lit (List.map e_i64 x)), .d (.int .i64 x21)], .box [.d (.int .i64 p0), .d (.int .i64 p1), .d (.lit (List.map e_SPart p2))], .box [.nilc, .nilc], .box [.ref 5 (List.length xs92) 0 (List.length xs92), .ref 6 (List.length xs93) 0 (List.length xs93)], .dead, .deep 1 (List.map (dp e_i64) (xs92 ++ ([xs122] : List (List Int)))), .sl 1 (List.map e_i64 xs93) false, .dead, .sl 1 (List.map e_i64 ([0, 0, 0, 0, 1, 2] : List Int)) false, .sl 1 (List.map e_i64 ([r1] : List Int)) false]) (List.map e_i64 ([r1] : List Int)) Try.underlying22 ty3))) (h := ?_)
          refine dCap (fun h19 => ?_)
          refine aOne (i := 11) (v := .ref 6 (List.length (xs93 ++ ([r1] : List Int))) 0 (List.length (xs93 ++ ([r1] : List Int)))) rfl (hac := (Does.acts (k_append (H' := [.box [.d (.lit (List.map e_i64 x)), .d (.int .i64 x21)], .box [.d (.int .i64 p0), .d (.int .i64 p1), .d (.lit (List.map e_SPart p2))], .box [.nilc, .nilc], .box [.ref 5 (List.length xs92) 0 (List.length xs92), .ref 6 (List.length xs93) 0 (List.length xs93)], .dead, .deep 1 (List.map (dp e_i64) (xs92 ++ ([xs122] : List (List Int)))), .sl 1 (List.map e_i64 (xs93 ++ ([r1] : List Int))) false, .dead, .sl 1 (List.map e_i64 ([0, 0, 0, 0, 1, 2] : List Int)) false, .sl 1 (List.map e_i64 ([r1] : List Int)) false]) (enc := e_i64) 6 xs93 ([r1] : List Int) Try.underlying22 Try.underlying22 ty3 (hy := (holdsRef (enc := e_i64) 9 ([r1] : List Int) false)) (hfit := h19)))) (h := ?_)
          refine aOne (i := 13) (v := .undef) rfl (hac := (Does.acts (k_store (vs := [.ref 5 (List.length (xs92 ++ ([xs122] : List (List Int)))) 0 (List.length (xs92 ++ ([xs122] : List (List Int))))]) (H' := [.box [.d (.lit (List.map e_i64 x)), .d (.int .i64 x21)], .box [.d (.int .i64 p0), .d (.int .i64 p1), .d (.lit (List.map e_SPart p2))], .box [.nilc, .nilc], .box [.ref 5 (List.length (xs92 ++ ([xs122] : List (List Int)))) 0 (List.length (xs92 ++ ([xs122] : List (List Int)))), .ref 6 (List.length xs93) 0 (List.length xs93)], .dead, .deep 1 (List.map (dp e_i64) (xs92 ++ ([xs122] : List (List Int)))), .sl 1 (List.map e_i64 (xs93 ++ ([r1] : List Int))) false, .dead, .sl 1 (List.map e_i64 ([0, 0, 0, 0, 1, 2] : List Int)) false, .sl 1 (List.map e_i64 ([r1] : List Int)) false]) 3 0 (hi := ty29)))) (h := ?_)
          refine aP 14 (.ptr 3 1) rfl (k_fieldAddr 3 0 (hu := Try.underlying31) (hf := rfl) (hi := ty22)) ?_
          refine aOne (i := 15) (v := .undef) rfl (hac := (Does.acts (k_store (vs := [.ref 6 (List.length (xs93 ++ ([r1] : List Int))) 0 (List.length (xs93 ++ ([r1] : List Int)))]) (H' := [.box [.d (.lit (List.map e_i64 x)), .d (.int .i64 x21)], .box [.d (.int .i64 p0), .d (.int .i64 p1), .d (.lit (List.map e_SPart p2))], .box [.nilc, .nilc], .box [.ref 5 (List.length (xs92 ++ ([xs122] : List (List Int)))) 0 (List.length (xs92 ++ ([xs122] : List (List Int)))), .ref 6 (List.length (xs93 ++ ([r1] : List Int))) 0 (List.length (xs93 ++ ([r1] : List Int)))], .dead, .deep 1 (List.map (dp e_i64) (xs92 ++ ([xs122] : List (List Int)))), .sl 1 (List.map e_i64 (xs93 ++ ([r1] : List Int))) false, .dead, .sl 1 (List.map e_i64 ([0, 0, 0, 0, 1, 2] : List Int)) false, .sl 1 (List.map e_i64 ([r1] : List Int)) false]) 3 1 (hi := ty22)))) (h := ?_)
          refine aDone (h := ?_)
          refine oHead [0, 2, 4, 6, 7, 8] [0, 1, 2, 3, 5, 6] (T' := [(0, .ptr 0 0), (2, .d (.int .i64 10)), (4, .ptr 1 0), (6, .ptr 2 0), (7, .ptr 3 0), (8, .d (.int .i64 i4))]) (H' := [.box [.d (.lit (List.map e_i64 x)), .d (.int .i64 x21)], .box [.d (.int .i64 p0), .d (.int .i64 p1), .d (.lit (List.map e_SPart p2))], .box [.nilc, .nilc], .box [.ref 4 (List.length (xs92 ++ ([xs122] : List (List Int)))) 0 (List.length (xs92 ++ ([xs122] : List (List Int)))), .ref 5 (List.length (xs93 ++ ([r1] : List Int))) 0 (List.length (xs93 ++ ([r1] : List Int)))], .deep 1 (List.map (dp e_i64) (xs92 ++ ([xs122] : List (List Int)))), .sl 1 (List.map e_i64 (xs93 ++ ([r1] : List Int))) false]) (hnd := by decide) (h := ?_)
          exact hj81 (x21, (xs93 ++ ([r1] : List Int)))
         ·refine sOne (i := 8) (v := .ref 8 (List.length ([0, 0, 0, 0, 1, 2] : List Int)) 0 (List.length ([0, 0, 0, 0, 1, 2] : List Int))) rfl (hac := (Does.acts (k_buildSlice (H' := [.box [.d (.lit (List.map e_i64 x)), .d (.int .i64 x157)], .box [.d (.int .i64 p0), .d (.int .i64 p1), .d (.lit (List.map e_SPart p2))], .box [.nilc, .nilc], .box [.ref 5 (List.length xs92) 0 (List.length xs92), .ref 6 (List.length xs93) 0 (List.length xs93)], .dead, .deep 1 (List.map (dp e_i64) xs92), .sl 1 (List.map e_i64 xs93) false, .deep 1 (List.map (dp e_i64) ([xs122] : List (List Int))), .sl 1 (List.map e_i64 ([0, 0, 0, 0, 1, 2] : List Int)) false]) (List.map e_i64 ([0, 0, 0, 0, 1, 2] : List Int)) Try.underlying22 ty3))) (h := ?_)
          refine aOne (i := 4) (v := .ref 5 (List.length (xs92 ++ ([xs122] : List (List Int)))) 0 (List.length (xs92 ++ ([xs122] : List (List Int))))) rfl (hac := (Does.acts (k_appendDeep (isz := 1) (enc := e_i64) (H' := [.box [.d (.lit (List.map e_i64 x)), .d (.int .i64 x157)], .box [.d (.int .i64 p0), .d (.int .i64 p1), .d (.lit (List.map e_SPart p2))], .box [.nilc, .nilc], .box [.ref 5 (List.length xs92) 0 (List.length xs92), .ref 6 (List.length xs93) 0 (List.length xs93)], .dead, .deep 1 (List.map (dp e_i64) (xs92 ++ ([xs122] : List (List Int)))), .sl 1 (List.map e_i64 xs93) false, .dead, .sl 1 (List.map e_i64 ([0, 0, 0, 0, 1, 2] : List Int)) false]) 5 7 xs92 ([xs122] : List (List Int)) Try.underlying29 Try.underlying29 ty22 (by kernel_rfl) (by kernel_rfl) (by kernel_rfl) (by kernel_rfl) (by kernel_rfl) (by kernel_rfl) h18 (by kernel_rfl)))) (h := ?_)
          refine aP 12 (.ptr 3 0) rfl (k_fieldAddr 3 0 (hu := Try.underlying31) (hf := rfl) (hi := ty29)) ?_
          refine dCall (i := 9) (caps := []) (v := (uc fun (r1 : Int) => (fun (x21 : Int) => (.d (.int .i64 r1) : V)))) (H' := (uc fun (r1 : Int) => (fun (x21 : Int) => ([.box [.d (.lit (List.map e_i64 x)), .d (.int .i64 x21)], .box [.d (.int .i64 p0), .d (.int .i64 p1), .d (.lit (List.map e_SPart p2))], .box [.nilc, .nilc], .box [.ref 5 (List.length xs92) 0 (List.length xs92), .ref 6 (List.length xs93) 0 (List.length xs93)], .dead, .deep 1 (List.map (dp e_i64) (xs92 ++ ([xs122] : List (List Int)))), .sl 1 (List.map e_i64 xs93) false, .dead, .sl 1 (List.map e_i64 ([0, 0, 0, 0, 1, 2] : List Int)) false] : List Blk)))) [0, 8] _ (make_Tape_Pick_2_goes k x x157 ([0, 0, 0, 0, 1, 2] : List Int)) rfl (ho := rfl) (hfn := Try.func43) (hb := rfl) (hconv := ConvRs.refl _ _) (hnd := by decide) (hBl := fun _ => (by kernel_rfl)) (hv := fun _ => (by kernel_rfl)) (hH' := fun _ => (by kernel_rfl)) (h := fun r => ?_)
          obtain ⟨r1, x21⟩ := r
          refine dUc ?_
          refine aOne (i := 10) (v := .ref 9 (List.length ([r1] : List Int)) 0 (List.length ([r1] : List Int))) rfl (hac := (Does.acts (k_buildSlice (H' := [.box [.d (.lit (List.map e_i64 x)), .d (.int .i64 x21)], .box [.d (.int .i64 p0), .d (.int .i64 p1), .d (.lit (List.map e_SPart p2))], .box [.nilc, .nilc], .box [.ref 5 (List.length xs92) 0 (List.length xs92), .ref 6 (List.length xs93) 0 (List.length xs93)], .dead, .deep 1 (List.map (dp e_i64) (xs92 ++ ([xs122] : List (List Int)))), .sl 1 (List.map e_i64 xs93) false, .dead, .sl 1 (List.map e_i64 ([0, 0, 0, 0, 1, 2] : List Int)) false, .sl 1 (List.map e_i64 ([r1] : List Int)) false]) (List.map e_i64 ([r1] : List Int)) Try.underlying22 ty3))) (h := ?_)
          refine dCap (fun h19 => ?_)
          refine aOne (i := 11) (v := .ref 6 (List.length (xs93 ++ ([r1] : List Int))) 0 (List.length (xs93 ++ ([r1] : List Int)))) rfl (hac := (Does.acts (k_append (H' := [.box [.d (.lit (List.map e_i64 x)), .d (.int .i64 x21)], .box [.d (.int .i64 p0), .d (.int .i64 p1), .d (.lit (List.map e_SPart p2))], .box [.nilc, .nilc], .box [.ref 5 (List.length xs92) 0 (List.length xs92), .ref 6 (List.length xs93) 0 (List.length xs93)], .dead, .deep 1 (List.map (dp e_i64) (xs92 ++ ([xs122] : List (List Int)))), .sl 1 (List.map e_i64 (xs93 ++ ([r1] : List Int))) false, .dead, .sl 1 (List.map e_i64 ([0, 0, 0, 0, 1, 2] : List Int)) false, .sl 1 (List.map e_i64 ([r1] : List Int)) false]) (enc := e_i64) 6 xs93 ([r1] : List Int) Try.underlying22 Try.underlying22 ty3 (hy := (holdsRef (enc := e_i64) 9 ([r1] : List Int) false)) (hfit := h19)))) (h := ?_)
          refine aOne (i := 13) (v := .undef) rfl (hac := (Does.acts (k_store (vs := [.ref 5 (List.length (xs92 ++ ([xs122] : List (List Int)))) 0 (List.length (xs92 ++ ([xs122] : List (List Int))))]) (H' := [.box [.d (.lit (List.map e_i64 x)), .d (.int .i64 x21)], .box [.d (.int .i64 p0), .d (.int .i64 p1), .d (.lit (List.map e_SPart p2))], .box [.nilc, .nilc], .box [.ref 5 (List.length (xs92 ++ ([xs122] : List (List Int)))) 0 (List.length (xs92 ++ ([xs122] : List (List Int)))), .ref 6 (List.length xs93) 0 (List.length xs93)], .dead, .deep 1 (List.map (dp e_i64) (xs92 ++ ([xs122] : List (List Int)))), .sl 1 (List.map e_i64 (xs93 ++ ([r1] : List Int))) false, .dead, .sl 1 (List.map e_i64 ([0, 0, 0, 0, 1, 2] : List Int)) false, .sl 1 (List.map e_i64 ([r1] : List Int)) false]) 3 0 (hi := ty29)))) (h := ?_)
          refine aP 14 (.ptr 3 1) rfl (k_fieldAddr 3 0 (hu := Try.underlying31) (hf := rfl) (hi := ty22)) ?_
          refine aOne (i := 15) (v := .undef) rfl (hac := (Does.acts (k_store (vs := [.ref 6 (List.length (xs93 ++ ([r1] : List Int))) 0 (List.length (xs93 ++ ([r1] : List Int)))]) (H' := [.box [.d (.lit (List.map e_i64 x)), .d (.int .i64 x21)], .box [.d (.int .i64 p0), .d (.int .i64 p1), .d (.lit (List.map e_SPart p2))], .box [.nilc, .nilc], .box [.ref 5 (List.length (xs92 ++ ([xs122] : List (List Int)))) 0 (List.length (xs92 ++ ([xs122] : List (List Int)))), .ref 6 (List.length (xs93 ++ ([r1] : List Int))) 0 (List.length (xs93 ++ ([r1] : List Int)))], .dead, .deep 1 (List.map (dp e_i64) (xs92 ++ ([xs122] : List (List Int)))), .sl 1 (List.map e_i64 (xs93 ++ ([r1] : List Int))) false, .dead, .sl 1 (List.map e_i64 ([0, 0, 0, 0, 1, 2] : List Int)) false, .sl 1 (List.map e_i64 ([r1] : List Int)) false]) 3 1 (hi := ty22)))) (h := ?_)
          refine aDone (h := ?_)
          refine oHead [0, 2, 4, 6, 7, 8] [0, 1, 2, 3, 5, 6] (T' := [(0, .ptr 0 0), (2, .d (.int .i64 10)), (4, .ptr 1 0), (6, .ptr 2 0), (7, .ptr 3 0), (8, .d (.int .i64 i4))]) (H' := [.box [.d (.lit (List.map e_i64 x)), .d (.int .i64 x21)], .box [.d (.int .i64 p0), .d (.int .i64 p1), .d (.lit (List.map e_SPart p2))], .box [.nilc, .nilc], .box [.ref 4 (List.length (xs92 ++ ([xs122] : List (List Int)))) 0 (List.length (xs92 ++ ([xs122] : List (List Int)))), .ref 5 (List.length (xs93 ++ ([r1] : List Int))) 0 (List.length (xs93 ++ ([r1] : List Int)))], .deep 1 (List.map (dp e_i64) (xs92 ++ ([xs122] : List (List Int)))), .sl 1 (List.map e_i64 (xs93 ++ ([r1] : List Int))) false]) (hnd := by decide) (h := ?_)
          exact hj81 (x21, (xs93 ++ ([r1] : List Int)))
        ·refine sOne (i := 8) (v := .ref 7 (List.length ([0, 0, 0, 0, 1, 2] : List Int)) 0 (List.length ([0, 0, 0, 0, 1, 2] : List Int))) rfl (hac := (Does.acts (k_buildSlice (H' := [.box [.d (.lit (List.map e_i64 x)), .d (.int .i64 x157)], .box [.d (.int .i64 p0), .d (.int .i64 p1), .d (.lit (List.map e_SPart p2))], .box [.nilc, .nilc], .box [.ref 5 (List.length xs92) 0 (List.length xs92), .ref 6 (List.length xs93) 0 (List.length xs93)], .sl 1 (List.map e_i64 xs122) false, .deep 1 (List.map (dp e_i64) xs92), .sl 1 (List.map e_i64 xs93) false, .sl 1 (List.map e_i64 ([0, 0, 0, 0, 1, 2] : List Int)) false]) (List.map e_i64 ([0, 0, 0, 0, 1, 2] : List Int)) Try.underlying22 ty3))) (h := ?_)
         refine aOne (i := 3) (v := .ref 8 (List.length ([xs122] : List (List Int))) 0 (List.length ([xs122] : List (List Int)))) rfl (hac := (Does.acts (k_buildDeep (isz := 1) (enc := e_i64) (y := 50) (H' := [.box [.d (.lit (List.map e_i64 x)), .d (.int .i64 x157)], .box [.d (.int .i64 p0), .d (.int .i64 p1), .d (.lit (List.map e_SPart p2))], .box [.nilc, .nilc], .box [.ref 5 (List.length xs92) 0 (List.length xs92), .ref 6 (List.length xs93) 0 (List.length xs93)], .dead, .deep 1 (List.map (dp e_i64) xs92), .sl 1 (List.map e_i64 xs93) false, .sl 1 (List.map e_i64 ([0, 0, 0, 0, 1, 2] : List Int)) false, .deep 1 (List.map (dp e_i64) ([xs122] : List (List Int)))]) 4 xs122 Try.underlying29 ty22 (by kernel_rfl) (by kernel_rfl) (by kernel_rfl)))) (h := ?_)
         refine dCap (fun h18 => ?_)
         refine aOne (i := 4) (v := .ref 5 (List.length (xs92 ++ ([xs122] : List (List Int)))) 0 (List.length (xs92 ++ ([xs122] : List (List Int))))) rfl (hac := (Does.acts (k_appendDeep (isz := 1) (enc := e_i64) (H' := [.box [.d (.lit (List.map e_i64 x)), .d (.int .i64 x157)], .box [.d (.int .i64 p0), .d (.int .i64 p1), .d (.lit (List.map e_SPart p2))], .box [.nilc, .nilc], .box [.ref 5 (List.length xs92) 0 (List.length xs92), .ref 6 (List.length xs93) 0 (List.length xs93)], .dead, .deep 1 (List.map (dp e_i64) (xs92 ++ ([xs122] : List (List Int)))), .sl 1 (List.map e_i64 xs93) false, .sl 1 (List.map e_i64 ([0, 0, 0, 0, 1, 2] : List Int)) false, .dead]) 5 8 xs92 ([xs122] : List (List Int)) Try.underlying29 Try.underlying29 ty22 (by kernel_rfl) (by kernel_rfl) (by kernel_rfl) (by kernel_rfl) (by kernel_rfl) (by kernel_rfl) h18 (by kernel_rfl)))) (h := ?_)
         refine aP 12 (.ptr 3 0) rfl (k_fieldAddr 3 0 (hu := Try.underlying31) (hf := rfl) (hi := ty29)) ?_
         refine dCall (i := 9) (caps := []) (v := (uc fun (r1 : Int) => (fun (x21 : Int) => (.d (.int .i64 r1) : V)))) (H' := (uc fun (r1 : Int) => (fun (x21 : Int) => ([.box [.d (.lit (List.map e_i64 x)), .d (.int .i64 x21)], .box [.d (.int .i64 p0), .d (.int .i64 p1), .d (.lit (List.map e_SPart p2))], .box [.nilc, .nilc], .box [.ref 5 (List.length xs92) 0 (List.length xs92), .ref 6 (List.length xs93) 0 (List.length xs93)], .dead, .deep 1 (List.map (dp e_i64) (xs92 ++ ([xs122] : List (List Int)))), .sl 1 (List.map e_i64 xs93) false, .sl 1 (List.map e_i64 ([0, 0, 0, 0, 1, 2] : List Int)) false, .dead] : List Blk)))) [0, 7] _ (make_Tape_Pick_2_goes k x x157 ([0, 0, 0, 0, 1, 2] : List Int)) rfl (ho := rfl) (hfn := Try.func43) (hb := rfl) (hconv := ConvRs.refl _ _) (hnd := by decide) (hBl := fun _ => (by kernel_rfl)) (hv := fun _ => (by kernel_rfl)) (hH' := fun _ => (by kernel_rfl)) (h := fun r => ?_)
         obtain ⟨r1, x21⟩ := r
         refine dUc ?_
         refine aOne (i := 10) (v := .ref 9 (List.length ([r1] : List Int)) 0 (List.length ([r1] : List Int))) rfl (hac := (Does.acts (k_buildSlice (H' := [.box [.d (.lit (List.map e_i64 x)), .d (.int .i64 x21)], .box [.d (.int .i64 p0), .d (.int .i64 p1), .d (.lit (List.map e_SPart p2))], .box [.nilc, .nilc], .box [.ref 5 (List.length xs92) 0 (List.length xs92), .ref 6 (List.length xs93) 0 (List.length xs93)], .dead, .deep 1 (List.map (dp e_i64) (xs92 ++ ([xs122] : List (List Int)))), .sl 1 (List.map e_i64 xs93) false, .sl 1 (List.map e_i64 ([0, 0, 0, 0, 1, 2] : List Int)) false, .dead, .sl 1 (List.map e_i64 ([r1] : List Int)) false]) (List.map e_i64 ([r1] : List Int)) Try.underlying22 ty3))) (h := ?_)
         refine dCap (fun h19 => ?_)
         refine aOne (i := 11) (v := .ref 6 (List.length (xs93 ++ ([r1] : List Int))) 0 (List.length (xs93 ++ ([r1] : List Int)))) rfl (hac := (Does.acts (k_append (H' := [.box [.d (.lit (List.map e_i64 x)), .d (.int .i64 x21)], .box [.d (.int .i64 p0), .d (.int .i64 p1), .d (.lit (List.map e_SPart p2))], .box [.nilc, .nilc], .box [.ref 5 (List.length xs92) 0 (List.length xs92), .ref 6 (List.length xs93) 0 (List.length xs93)], .dead, .deep 1 (List.map (dp e_i64) (xs92 ++ ([xs122] : List (List Int)))), .sl 1 (List.map e_i64 (xs93 ++ ([r1] : List Int))) false, .sl 1 (List.map e_i64 ([0, 0, 0, 0, 1, 2] : List Int)) false, .dead, .sl 1 (List.map e_i64 ([r1] : List Int)) false]) (enc := e_i64) 6 xs93 ([r1] : List Int) Try.underlying22 Try.underlying22 ty3 (hy := (holdsRef (enc := e_i64) 9 ([r1] : List Int) false)) (hfit := h19)))) (h := ?_)
         refine aOne (i := 13) (v := .undef) rfl (hac := (Does.acts (k_store (vs := [.ref 5 (List.length (xs92 ++ ([xs122] : List (List Int)))) 0 (List.length (xs92 ++ ([xs122] : List (List Int))))]) (H' := [.box [.d (.lit (List.map e_i64 x)), .d (.int .i64 x21)], .box [.d (.int .i64 p0), .d (.int .i64 p1), .d (.lit (List.map e_SPart p2))], .box [.nilc, .nilc], .box [.ref 5 (List.length (xs92 ++ ([xs122] : List (List Int)))) 0 (List.length (xs92 ++ ([xs122] : List (List Int)))), .ref 6 (List.length xs93) 0 (List.length xs93)], .dead, .deep 1 (List.map (dp e_i64) (xs92 ++ ([xs122] : List (List Int)))), .sl 1 (List.map e_i64 (xs93 ++ ([r1] : List Int))) false, .sl 1 (List.map e_i64 ([0, 0, 0, 0, 1, 2] : List Int)) false, .dead, .sl 1 (List.map e_i64 ([r1] : List Int)) false]) 3 0 (hi := ty29)))) (h := ?_)
         refine aP 14 (.ptr 3 1) rfl (k_fieldAddr 3 0 (hu := Try.underlying31) (hf := rfl) (hi := ty22)) ?_
         refine aOne (i := 15) (v := .undef) rfl (hac := (Does.acts (k_store (vs := [.ref 6 (List.length (xs93 ++ ([r1] : List Int))) 0 (List.length (xs93 ++ ([r1] : List Int)))]) (H' := [.box [.d (.lit (List.map e_i64 x)), .d (.int .i64 x21)], .box [.d (.int .i64 p0), .d (.int .i64 p1), .d (.lit (List.map e_SPart p2))], .box [.nilc, .nilc], .box [.ref 5 (List.length (xs92 ++ ([xs122] : List (List Int)))) 0 (List.length (xs92 ++ ([xs122] : List (List Int)))), .ref 6 (List.length (xs93 ++ ([r1] : List Int))) 0 (List.length (xs93 ++ ([r1] : List Int)))], .dead, .deep 1 (List.map (dp e_i64) (xs92 ++ ([xs122] : List (List Int)))), .sl 1 (List.map e_i64 (xs93 ++ ([r1] : List Int))) false, .sl 1 (List.map e_i64 ([0, 0, 0, 0, 1, 2] : List Int)) false, .dead, .sl 1 (List.map e_i64 ([r1] : List Int)) false]) 3 1 (hi := ty22)))) (h := ?_)
         refine aDone (h := ?_)
         refine oHead [0, 2, 4, 6, 7, 8] [0, 1, 2, 3, 5, 6] (T' := [(0, .ptr 0 0), (2, .d (.int .i64 10)), (4, .ptr 1 0), (6, .ptr 2 0), (7, .ptr 3 0), (8, .d (.int .i64 i4))]) (H' := [.box [.d (.lit (List.map e_i64 x)), .d (.int .i64 x21)], .box [.d (.int .i64 p0), .d (.int .i64 p1), .d (.lit (List.map e_SPart p2))], .box [.nilc, .nilc], .box [.ref 4 (List.length (xs92 ++ ([xs122] : List (List Int)))) 0 (List.length (xs92 ++ ([xs122] : List (List Int)))), .ref 5 (List.length (xs93 ++ ([r1] : List Int))) 0 (List.length (xs93 ++ ([r1] : List Int)))], .deep 1 (List.map (dp e_i64) (xs92 ++ ([xs122] : List (List Int)))), .sl 1 (List.map e_i64 (xs93 ++ ([r1] : List Int))) false]) (hnd := by decide) (h := ?_)
         exact hj81 (x21, (xs93 ++ ([r1] : List Int)))
      ·refine bSplit 30 (h1 := fun hc => ?_) (h2 := fun hc => ?_)
       ·refine oCondT (h := ?_)
        refine oSR rfl ?_
        refine oP (.d (.int .i64 0)) p_assign ?_
        refine oEnd ?_
        refine bJoin ((uc fun (x163 : Int) => (fun (xs128 : (List Int)) => [(0, .ptr 0 0), (2, .d (.int .i64 10)), (4, .ptr 1 0), (6, .ptr 2 0), (7, .ptr 3 0), (8, .d (.int .i64 i4)), (9, .ref 4 (List.length xs128) 0 (List.length xs128))]))) ((uc fun (x163 : Int) => (fun (xs128 : (List Int)) => [.box [.d (.lit (List.map e_i64 x)), .d (.int .i64 x163)], .box [.d (.int .i64 p0), .d (.int .i64 p1), .d (.lit (List.map e_SPart p2))], .box [.nilc, .nilc], .box [.ref 5 (List.length xs92) 0 (List.length xs92), .ref 6 (List.length xs93) 0 (List.length xs93)], .sl 1 (List.map e_i64 xs128) false, .deep 1 (List.map (dp e_i64) xs92), .sl 1 (List.map e_i64 xs93) false]))) (fun s => s) (fun s => ?_) (fun hj84 => ?_)
        ·obtain ⟨x163, xs128⟩ := s
         refine bUc ?_
         refine oView (T' := [(0, .ptr 0 0), (2, .d (.int .i64 10)), (4, .ptr 1 0), (6, .ptr 2 0), (7, .ptr 3 0), (8, .d (.int .i64 i4)), (9, .ref 4 (List.length xs128) 0 (List.length xs128))]) (H' := [.box [.d (.lit (List.map e_i64 x)), .d (.int .i64 x163)], .box [.d (.int .i64 p0), .d (.int .i64 p1), .d (.lit (List.map e_SPart p2))], .box [.nilc, .nilc], .box [.ref 5 (List.length xs92) 0 (List.length xs92), .ref 6 (List.length xs93) 0 (List.length xs93)], .sl 1 (List.map e_i64 xs128) false, .deep 1 (List.map (dp e_i64) xs92), .sl 1 (List.map e_i64 xs93) false]) (h := ?_)
         refine oHead [0, 2, 4, 6, 7, 8, 9] [0, 1, 2, 3, 4, 5, 6] (T' := [(0, .ptr 0 0), (2, .d (.int .i64 10)), (4, .ptr 1 0), (6, .ptr 2 0), (7, .ptr 3 0), (8, .d (.int .i64 i4)), (9, .ref 4 (List.length xs128) 0 (List.length xs128))]) (H' := [.box [.d (.lit (List.map e_i64 x)), .d (.int .i64 x163)], .box [.d (.int .i64 p0), .d (.int .i64 p1), .d (.lit (List.map e_SPart p2))], .box [.nilc, .nilc], .box [.ref 5 (List.length xs92) 0 (List.length xs92), .ref 6 (List.length xs93) 0 (List.length xs93)], .sl 1 (List.map e_i64 xs128) false, .deep 1 (List.map (dp e_i64) xs92), .sl 1 (List.map e_i64 xs93) false]) (hnd := by decide) (h := ?_)
         exact hj80 (x163, xs128)
        ·refine oBlock ?_
         refine oLoop ?_
         refine oVirt (esz := 1) 9 (h := ?_)
         refine oView (H' := [.box [.d (.lit (List.map e_i64 x)), .d (.int .i64 x151)], .box [.d (.int .i64 p0), .d (.int .i64 p1), .d (.lit (List.map e_SPart p2))], .box [.nilc, .nilc], .box [.ref 4 (List.length xs92) 0 (List.length xs92), .ref 5 (List.length xs93) 0 (List.length xs93)], .deep 1 (List.map (dp e_i64) xs92), .sl 1 (List.map e_i64 xs93) false, .sl 1 (List.map e_i64 ([] : List Int)) false]) rfl (h := ?_)
         refine oHead [0, 2, 4, 6, 7, 8, 9, 10] [0, 1, 2, 3, 6, 4, 5] (T' := [(0, .ptr 0 0), (2, .d (.int .i64 10)), (4, .ptr 1 0), (6, .ptr 2 0), (7, .ptr 3 0), (8, .d (.int .i64 i4)), (9, .ref 4 (List.length ([] : List Int)) 0 (List.length ([] : List Int))), (10, .d (.int .i64 0))]) (H' := [.box [.d (.lit (List.map e_i64 x)), .d (.int .i64 x151)], .box [.d (.int .i64 p0), .d (.int .i64 p1), .d (.lit (List.map e_SPart p2))], .box [.nilc, .nilc], .box [.ref 5 (List.length xs92) 0 (List.length xs92), .ref 6 (List.length xs93) 0 (List.length xs93)], .sl 1 (List.map e_i64 ([] : List Int)) false, .deep 1 (List.map (dp e_i64) xs92), .sl 1 (List.map e_i64 xs93) false]) (hnd := by decide) (h := ?_)
         refine bLoop (body := make_Tape_Scheme_b2 k p2 x i4) ((uc fun (k130 : Int) => (uc fun (x165 : Int) => (fun (xs130 : (List Int)) => [(0, .ptr 0 0), (2, .d (.int .i64 10)), (4, .ptr 1 0), (6, .ptr 2 0), (7, .ptr 3 0), (8, .d (.int .i64 i4)), (9, .ref 4 (List.length xs130) 0 (List.length xs130)), (10, .d (.int .i64 k130))])))) ((uc fun (k130 : Int) => (uc fun (x165 : Int) => (fun (xs130 : (List Int)) => [.box [.d (.lit (List.map e_i64 x)), .d (.int .i64 x165)], .box [.d (.int .i64 p0), .d (.int .i64 p1), .d (.lit (List.map e_SPart p2))], .box [.nilc, .nilc], .box [.ref 5 (List.length xs92) 0 (List.length xs92), .ref 6 (List.length xs93) 0 (List.length xs93)], .sl 1 (List.map e_i64 xs130) false, .deep 1 (List.map (dp e_i64) xs92), .sl 1 (List.map e_i64 xs93) false])))) (fun again hag2 s => ?_) k (0, x151, ([] : List Int))
         ·unfold make_Tape_Scheme_b2
          obtain ⟨k130, x165, xs130⟩ := s
          refine bUc ?_
          refine bUc ?_
          refine oView (T' := [(0, .ptr 0 0), (2, .d (.int .i64 10)), (4, .ptr 1 0), (6, .ptr 2 0), (7, .ptr 3 0), (8, .d (.int .i64 i4)), (9, .ref 4 (List.length xs130) 0 (List.length xs130)), (10, .d (.int .i64 k130))]) (H' := [.box [.d (.lit (List.map e_i64 x)), .d (.int .i64 x165)], .box [.d (.int .i64 p0), .d (.int .i64 p1), .d (.lit (List.map e_SPart p2))], .box [.nilc, .nilc], .box [.ref 5 (List.length xs92) 0 (List.length xs92), .ref 6 (List.length xs93) 0 (List.length xs93)], .sl 1 (List.map e_i64 xs130) false, .deep 1 (List.map (dp e_i64) xs92), .sl 1 (List.map e_i64 xs93) false]) (h := ?_)
          refine oSeq ?_
          refine oSR rfl ?_
          refine oP (.d (.int .i64 k130)) p_move ?_
          refine oP (.ptr 1 2) (k_fieldAddr 1 0 (hu := Try.underlying27) (hf := rfl) (hi := ty25)) ?_
          refine oQ (.d (.lit (List.map e_SPart p2))) (k_load 1 2 (hu := Try.underlying25)) ?_
          refine oP (.d (.int .i64 i4)) p_move ?_
          refine bIdx (fun e148 h1140 h1141 => ?_)
          refine oP (.lptr (e_SPart e148) 0) (k_idxLit e_SPart_len p2 (a := e148) (k := .i64) (i := i4) (hu := Try.underlying25) (hi := ty49) (h0 := h1140) (he := h1141)) ?_
          refine oP (.lptr (e_SPart e148) 4) (k_fieldAddrL (cells := e_SPart e148) 0 (hu := Try.underlying49) (hf := rfl) (hi := ty3)) ?_
          refine oQ (.d (.int .i64 e148.Options)) (k_loadL (cells := e_SPart e148) 4 (hu := Try.underlying3)) ?_
          refine oP (.d (.bool (decide (k130 < e148.Options)))) (p_int (k := .i64) (p := k130) (q := e148.Options)) ?_
          refine oEnd ?_
          refine bSplit 38 (h1 := fun hc => ?_) (h2 := fun hc => ?_)
          ·refine oCondT (h := ?_)
           refine oSkip ?_
           refine oSeq ?_
           refine bJoin ((uc fun (x168 : Int) => (fun (xs133 : (List Int)) => [(0, .ptr 0 0), (2, .d (.int .i64 10)), (4, .ptr 1 0), (6, .ptr 2 0), (7, .ptr 3 0), (8, .d (.int .i64 i4)), (9, .ref 4 (List.length xs133) 0 (List.length xs133)), (10, .d (.int .i64 k130))]))) ((uc fun (x168 : Int) => (fun (xs133 : (List Int)) => [.box [.d (.lit (List.map e_i64 x)), .d (.int .i64 x168)], .box [.d (.int .i64 p0), .d (.int .i64 p1), .d (.lit (List.map e_SPart p2))], .box [.nilc, .nilc], .box [.ref 5 (List.length xs92) 0 (List.length xs92), .ref 6 (List.length xs93) 0 (List.length xs93)], .sl 1 (List.map e_i64 xs133) false, .deep 1 (List.map (dp e_i64) xs92), .sl 1 (List.map e_i64 xs93) false]))) (fun s => s) (fun s => ?_) (fun hj87 => ?_)
           ·obtain ⟨x168, xs133⟩ := s
            refine bUc ?_
            refine oView (T' := [(0, .ptr 0 0), (2, .d (.int .i64 10)), (4, .ptr 1 0), (6, .ptr 2 0), (7, .ptr 3 0), (8, .d (.int .i64 i4)), (9, .ref 4 (List.length xs133) 0 (List.length xs133)), (10, .d (.int .i64 k130))]) (H' := [.box [.d (.lit (List.map e_i64 x)), .d (.int .i64 x168)], .box [.d (.int .i64 p0), .d (.int .i64 p1), .d (.lit (List.map e_SPart p2))], .box [.nilc, .nilc], .box [.ref 5 (List.length xs92) 0 (List.length xs92), .ref 6 (List.length xs93) 0 (List.length xs93)], .sl 1 (List.map e_i64 xs133) false, .deep 1 (List.map (dp e_i64) xs92), .sl 1 (List.map e_i64 xs93) false]) (h := ?_)
            refine oRegion rfl ?_
            refine oP (.d (.int .i64 k130)) p_move ?_
            refine oP (.d (.int .i64 (IntKind.wrap .i64 (k130 + 1)))) (p_int (k := .i64) (p := k130) (q := 1)) ?_
            refine oP (.d (.int .i64 (IntKind.wrap .i64 (k130 + 1)))) p_assign ?_
            refine oEnd ?_
            refine oAgain ?_
            refine oHead [0, 2, 4, 6, 7, 8, 9, 10] [0, 1, 2, 3, 4, 5, 6] (T' := [(0, .ptr 0 0), (2, .d (.int .i64 10)), (4, .ptr 1 0), (6, .ptr 2 0), (7, .ptr 3 0), (8, .d (.int .i64 i4)), (9, .ref 4 (List.length xs133) 0 (List.length xs133)), (10, .d (.int .i64 (IntKind.wrap .i64 (k130 + 1))))]) (H' := [.box [.d (.lit (List.map e_i64 x)), .d (.int .i64 x168)], .box [.d (.int .i64 p0), .d (.int .i64 p1), .d (.lit (List.map e_SPart p2))], .box [.nilc, .nilc], .box [.ref 5 (List.length xs92) 0 (List.length xs92), .ref 6 (List.length xs93) 0 (List.length xs93)], .sl 1 (List.map e_i64 xs133) false, .deep 1 (List.map (dp e_i64) xs92), .sl 1 (List.map e_i64 xs93) false]) (hnd := by decide) (h := ?_)
            exact hag2 ((IntKind.wrap .i64 (k130 + 1)), x168, xs133)
           ·refine oBlock ?_
            refine oSR rfl ?_
            refine oP (.ptr 0 0) p_move ?_
            refine bCall (caps := []) (v := (uc fun (r1254 : Int) => (fun (x355 : Int) => (.d (.int .i64 r1254) : V)))) (H' := (uc fun (r1254 : Int) => (fun (x355 : Int) => ([.box [.d (.lit (List.map e_i64 x)), .d (.int .i64 x355)], .box [.d (.int .i64 p0), .d (.int .i64 p1), .d (.lit (List.map e_SPart p2))], .box [.nilc, .nilc], .box [.ref 5 (List.length xs92) 0 (List.length xs92), .ref 6 (List.length xs93) 0 (List.length xs93)], .sl 1 (List.map e_i64 xs130) false, .deep 1 (List.map (dp e_i64) xs92), .sl 1 (List.map e_i64 xs93) false] : List Blk)))) [0] _ (make_Tape_Next_goes k 2 x x165) (ho := rfl) (hfn := Try.func39) (hb := rfl) (hconv := ConvRs.refl _ _) (hnd := by decide) (hBl := fun _ => (by kernel_rfl)) (hv := fun _ => (by kernel_rfl)) (hH' := fun _ => (by kernel_rfl)) (h := fun r => ?_)
            obtain ⟨r1254, x355⟩ := r
            refine bUc ?_
            refine oP (.d (.bool (r1254 == 0))) (p_int (k := .i64) (p := r1254) (q := 0)) ?_
            refine oEnd ?_
            refine bSplit 43 (h1 := fun hc => ?_) (h2 := fun hc => ?_)
            ·refine oCondT (h := ?_)
             refine oRegion rfl ?_
             refine oP (.ref 4 (List.length xs130) 0 (List.length xs130)) p_move ?_
             refine oP (.d (.int .i64 k130)) p_move ?_
             refine oD (.ref 7 (List.length ([k130] : List Int)) 0 (List.length ([k130] : List Int))) (k_buildSlice (H' := [.box [.d (.lit (List.map e_i64 x)), .d (.int .i64 x355)], .box [.d (.int .i64 p0), .d (.int .i64 p1), .d (.lit (List.map e_SPart p2))], .box [.nilc, .nilc], .box [.ref 5 (List.length xs92) 0 (List.length xs92), .ref 6 (List.length xs93) 0 (List.length xs93)], .sl 1 (List.map e_i64 xs130) false, .deep 1 (List.map (dp e_i64) xs92), .sl 1 (List.map e_i64 xs93) false, .sl 1 (List.map e_i64 ([k130] : List Int)) false]) (List.map e_i64 ([k130] : List Int)) Try.underlying22 ty3) ?_
             refine bCap (fun h1143 => ?_)
             refine oD (.ref 4 (List.length (xs130 ++ ([k130] : List Int))) 0 (List.length (xs130 ++ ([k130] : List Int)))) (k_append (H' := [.box [.d (.lit (List.map e_i64 x)), .d (.int .i64 x355)], .box [.d (.int .i64 p0), .d (.int .i64 p1), .d (.lit (List.map e_SPart p2))], .box [.nilc, .nilc], .box [.ref 5 (List.length xs92) 0 (List.length xs92), .ref 6 (List.length xs93) 0 (List.length xs93)], .sl 1 (List.map e_i64 (xs130 ++ ([k130] : List Int))) false, .deep 1 (List.map (dp e_i64) xs92), .sl 1 (List.map e_i64 xs93) false, .sl 1 (List.map e_i64 ([k130] : List Int)) false]) (enc := e_i64) 4 xs130 ([k130] : List Int) Try.underlying22 Try.underlying22 ty3 (hy := (holdsRef (enc := e_i64) 7 ([k130] : List Int) false)) (hfit := h1143)) ?_
             refine oP (.ref 4 (List.length (xs130 ++ ([k130] : List Int))) 0 (List.length (xs130 ++ ([k130] : List Int)))) p_assign ?_
             refine oEnd ?_
             refine oBlk ?_
             refine oHead [0, 2, 4, 6, 7, 8, 9, 10] [0, 1, 2, 3, 4, 5, 6] (T' := [(0, .ptr 0 0), (2, .d (.int .i64 10)), (4, .ptr 1 0), (6, .ptr 2 0), (7, .ptr 3 0), (8, .d (.int .i64 i4)), (9, .ref 4 (List.length (xs130 ++ ([k130] : List Int))) 0 (List.length (xs130 ++ ([k130] : List Int)))), (10, .d (.int .i64 k130))]) (H' := [.box [.d (.lit (List.map e_i64 x)), .d (.int .i64 x355)], .box [.d (.int .i64 p0), .d (.int .i64 p1), .d (.lit (List.map e_SPart p2))], .box [.nilc, .nilc], .box [.ref 5 (List.length xs92) 0 (List.length xs92), .ref 6 (List.length xs93) 0 (List.length xs93)], .sl 1 (List.map e_i64 (xs130 ++ ([k130] : List Int))) false, .deep 1 (List.map (dp e_i64) xs92), .sl 1 (List.map e_i64 xs93) false]) (hnd := by decide) (h := ?_)
             exact hj87 (x355, (xs130 ++ ([k130] : List Int)))
            ·refine oCondF (h := ?_)
             refine oSkip ?_
             refine oBlk ?_
             refine oHead [0, 2, 4, 6, 7, 8, 9, 10] [0, 1, 2, 3, 4, 5, 6] (T' := [(0, .ptr 0 0), (2, .d (.int .i64 10)), (4, .ptr 1 0), (6, .ptr 2 0), (7, .ptr 3 0), (8, .d (.int .i64 i4)), (9, .ref 4 (List.length xs130) 0 (List.length xs130)), (10, .d (.int .i64 k130))]) (H' := [.box [.d (.lit (List.map e_i64 x)), .d (.int .i64 x355)], .box [.d (.int .i64 p0), .d (.int .i64 p1), .d (.lit (List.map e_SPart p2))], .box [.nilc, .nilc], .box [.ref 5 (List.length xs92) 0 (List.length xs92), .ref 6 (List.length xs93) 0 (List.length xs93)], .sl 1 (List.map e_i64 xs130) false, .deep 1 (List.map (dp e_i64) xs92), .sl 1 (List.map e_i64 xs93) false]) (hnd := by decide) (h := ?_)
             exact hj87 (x355, xs130)
          ·refine oCondF (h := ?_)
           refine oExit rfl ?_
           refine oHead [0, 2, 4, 6, 7, 8, 9] [0, 1, 2, 3, 4, 5, 6] (T' := [(0, .ptr 0 0), (2, .d (.int .i64 10)), (4, .ptr 1 0), (6, .ptr 2 0), (7, .ptr 3 0), (8, .d (.int .i64 i4)), (9, .ref 4 (List.length xs130) 0 (List.length xs130))]) (H' := [.box [.d (.lit (List.map e_i64 x)), .d (.int .i64 x165)], .box [.d (.int .i64 p0), .d (.int .i64 p1), .d (.lit (List.map e_SPart p2))], .box [.nilc, .nilc], .box [.ref 5 (List.length xs92) 0 (List.length xs92), .ref 6 (List.length xs93) 0 (List.length xs93)], .sl 1 (List.map e_i64 xs130) false, .deep 1 (List.map (dp e_i64) xs92), .sl 1 (List.map e_i64 xs93) false]) (hnd := by decide) (h := ?_)
           exact hj84 (x165, xs130)
       ·refine oCondF (h := ?_)
        refine oSkip ?_
        refine oVirt (esz := 1) 9 (h := ?_)
        refine oView (H' := [.box [.d (.lit (List.map e_i64 x)), .d (.int .i64 x151)], .box [.d (.int .i64 p0), .d (.int .i64 p1), .d (.lit (List.map e_SPart p2))], .box [.nilc, .nilc], .box [.ref 4 (List.length xs92) 0 (List.length xs92), .ref 5 (List.length xs93) 0 (List.length xs93)], .deep 1 (List.map (dp e_i64) xs92), .sl 1 (List.map e_i64 xs93) false, .sl 1 (List.map e_i64 ([] : List Int)) false]) rfl (h := ?_)
        refine oHead [0, 2, 4, 6, 7, 8, 9] [0, 1, 2, 3, 6, 4, 5] (T' := [(0, .ptr 0 0), (2, .d (.int .i64 10)), (4, .ptr 1 0), (6, .ptr 2 0), (7, .ptr 3 0), (8, .d (.int .i64 i4)), (9, .ref 4 (List.length ([] : List Int)) 0 (List.length ([] : List Int)))]) (H' := [.box [.d (.lit (List.map e_i64 x)), .d (.int .i64 x151)], .box [.d (.int .i64 p0), .d (.int .i64 p1), .d (.lit (List.map e_SPart p2))], .box [.nilc, .nilc], .box [.ref 5 (List.length xs92) 0 (List.length xs92), .ref 6 (List.length xs93) 0 (List.length xs93)], .sl 1 (List.map e_i64 ([] : List Int)) false, .deep 1 (List.map (dp e_i64) xs92), .sl 1 (List.map e_i64 xs93) false]) (hnd := by decide) (h := ?_)
        exact hj80 (x151, ([] : List Int))
     ·refine bSplit 26 (h1 := fun hc => ?_) (h2 := fun hc => ?_)
      ·refine oP (.ptr 0 0) p_move ?_
       refine bCall (caps := []) (v := (uc fun (r1255 : Int) => (fun (x356 : Int) => (.d (.int .i64 r1255) : V)))) (H' := (uc fun (r1255 : Int) => (fun (x356 : Int) => ([.box [.d (.lit (List.map e_i64 x)), .d (.int .i64 x356)], .box [.d (.int .i64 p0), .d (.int .i64 p1), .d (.lit (List.map e_SPart p2))], .box [.nilc, .nilc], .box [.ref 4 (List.length xs92) 0 (List.length xs92), .ref 5 (List.length xs93) 0 (List.length xs93)], .deep 1 (List.map (dp e_i64) xs92), .sl 1 (List.map e_i64 xs93) false] : List Blk)))) [0] _ (make_Tape_Next_goes k 3 x x121) (ho := rfl) (hfn := Try.func39) (hb := rfl) (hconv := ConvRs.refl _ _) (hnd := by decide) (hBl := fun _ => (by kernel_rfl)) (hv := fun _ => (by kernel_rfl)) (hH' := fun _ => (by kernel_rfl)) (h := fun r => ?_)
       obtain ⟨r1255, x356⟩ := r
       refine bUc ?_
       refine oP (.d (.bool (r1255 == 0))) (p_int (k := .i64) (p := r1255) (q := 0)) ?_
       refine oP (.d (.bool (r1255 == 0))) (p_pick (b := true)) ?_
       refine oHead [0, 2, 4, 6, 7, 8, 9, 30] [0, 1, 2, 3, 4, 5] (T' := [(0, .ptr 0 0), (2, .d (.int .i64 10)), (4, .ptr 1 0), (6, .ptr 2 0), (7, .ptr 3 0), (8, .d (.int .i64 i4)), (9, .nilc), (30, .d (.bool (r1255 == 0)))]) (H' := [.box [.d (.lit (List.map e_i64 x)), .d (.int .i64 x356)], .box [.d (.int .i64 p0), .d (.int .i64 p1), .d (.lit (List.map e_SPart p2))], .box [.nilc, .nilc], .box [.ref 4 (List.length xs92) 0 (List.length xs92), .ref 5 (List.length xs93) 0 (List.length xs93)], .deep 1 (List.map (dp e_i64) xs92), .sl 1 (List.map e_i64 xs93) false]) (hnd := by decide) (h := ?_)
       exact hj88 ((r1255 == 0), x356)
      ·refine oNot (h := ?_)
       refine oNot (h := ?_)
       refine oNot (h := ?_)
       refine oP (.d (.bool false)) (p_pick (b := false)) ?_
       refine oHead [0, 2, 4, 6, 7, 8, 9, 30] [0, 1, 2, 3, 4, 5] (T' := [(0, .ptr 0 0), (2, .d (.int .i64 10)), (4, .ptr 1 0), (6, .ptr 2 0), (7, .ptr 3 0), (8, .d (.int .i64 i4)), (9, .nilc), (30, .d (.bool false))]) (H' := [.box [.d (.lit (List.map e_i64 x)), .d (.int .i64 x121)], .box [.d (.int .i64 p0), .d (.int .i64 p1), .d (.lit (List.map e_SPart p2))], .box [.nilc, .nilc], .box [.ref 4 (List.length xs92) 0 (List.length xs92), .ref 5 (List.length xs93) 0 (List.length xs93)], .deep 1 (List.map (dp e_i64) xs92), .sl 1 (List.map e_i64 xs93) false]) (hnd := by decide) (h := ?_)
       exact hj88 (false, x121)
    ·refine oCondF (h := ?_)
     refine oExit rfl ?_
     refine oHead [0, 2, 6, 7] [0, 2, 3, 4, 5] (T' := [(0, .ptr 0 0), (2, .d (.int .i64 10)), (6, .ptr 1 0), (7, .ptr 2 0)]) (H' := [.box [.d (.lit (List.map e_i64 x)), .d (.int .i64 x121)], .box [.nilc, .nilc], .box [.ref 3 (List.length xs92) 0 (List.length xs92), .ref 4 (List.length xs93) 0 (List.length xs93)], .deep 1 (List.map (dp e_i64) xs92), .sl 1 (List.map e_i64 xs93) false]) (hnd := by decide) (h := ?_)
     exact hj45 (x121, xs92, xs93)

/-- awardingbody/item.in -/
def item_in (k : Nat) (n : Int) (least : Int) (most : Int) : Option (Bool) := blet ((decide (n ≥ least)) && (decide (n ≤ most))) fun x1 => some x1
def item_in_E (n : Int) (least : Int) (most : Int) : Bool → V × List Blk := fun r1 => (.d (.bool r1), [])
theorem item_in_goes (k : Nat) (n : Int) (least : Int) (most : Int) : RunsO Try.prog 59 [.d (.int .i64 n), .d (.int .i64 least), .d (.int .i64 most)] [] (item_in_E n least most) (item_in k n least most) := by
  refine RunsO.of_goes (N := 15) (m := 0) (T := [(0, .d (.int .i64 n)), (1, .d (.int .i64 least)), (2, .d (.int .i64 most))]) Try.func59 rfl rfl (h := ?_)
  unfold item_in
  refine bStart ?_
  refine oSR rfl ?_
  refine oP (.d (.bool false)) p_assign ?_
  refine oEnd ?_
  refine oSR rfl ?_
  refine oP (.d (.int .i64 n)) p_move ?_
  refine oP (.d (.int .i64 least)) p_move ?_
  refine oP (.d (.bool (decide (n ≥ least)))) (p_int (k := .i64) (p := n) (q := least)) ?_
  refine oP (.d (.bool (decide (n ≥ least)))) p_move ?_
  refine bMeetF (H' := []) 4 rfl ((fun (x1 : Bool) => [(14, .d (.bool x1))])) (fun x1 => ?_) (fun F hj1 => ?_)
  ·refine oView (T' := [(14, .d (.bool x1))]) (H' := []) (h := ?_)
   refine oP (.d (.bool x1)) p_assign ?_
   refine oEnd ?_
   exact oRet (r0 := x1) (rv := .d (.bool x1)) (B := []) (vs := [.d (.bool x1)]) (σ := []) (hf := Try.func59) (hrs := rfl) (hres := .cons _ _ _ _ (.tmp 6 _ (by kernel_rfl)) .nil) (hnd := by decide)
  ·refine bPickF 10 (fun c => F (c && (decide (n ≤ most)))) (h1 := fun hc => ?_) (h2 := fun hc => ?_)
   ·refine oP (.d (.int .i64 n)) p_move ?_
    refine oP (.d (.int .i64 most)) p_move ?_
    refine oP (.d (.bool (decide (n ≤ most)))) (p_int (k := .i64) (p := n) (q := most)) ?_
    refine oP (.d (.bool (decide (n ≤ most)))) (p_pick (b := true)) ?_
    refine oHead [14] [] (T' := [(14, .d (.bool (decide (n ≤ most))))]) (H' := []) (hnd := by decide) (h := ?_)
    exact hj1 (decide (n ≤ most))
   ·refine oNot (h := ?_)
    refine oNot (h := ?_)
    refine oNot (h := ?_)
    refine oP (.d (.bool false)) (p_pick (b := false)) ?_
    refine oHead [14] [] (T' := [(14, .d (.bool false))]) (H' := []) (hnd := by decide) (h := ?_)
    exact hj1 false

/-- awardingbody/item.ValidPart -/
def item_ValidPart (k : Nat) (p0 : Int) (p1 : Int) (p2 : Int) (p3 : Int) (p4 : Int) (p5 : Int) : Option (Bool) := Option.bind (item_in k p1 1 40) (fun r112 => Option.bind (bif (!r112) then some true else Option.bind (item_in k p2 0 15) (fun r125 => some (!r125)) : Option (Bool)) (fun x9 => Option.bind (bif x9 then some true else Option.bind (item_in k p3 0 5) (fun r124 => some (!r124)) : Option (Bool)) (fun x10 => bif x10 then some false else bif (p0 == 1) then blet ((p4 == 0) && (p5 == 0)) fun x15 => some x15 else bif (p0 == 2) then Option.bind (item_in k p4 2 5) (fun r121 => Option.bind (bif r121 then Option.bind (item_in k p5 0 (IntKind.wrap .i64 (p4 - 1))) (fun r123 => some r123) else some false : Option (Bool)) (fun x17 => some x17)) else some false)))
def item_ValidPart_E (p0 : Int) (p1 : Int) (p2 : Int) (p3 : Int) (p4 : Int) (p5 : Int) : Bool → V × List Blk := fun r111 => (.d (.bool r111), [])
theorem item_ValidPart_goes (k : Nat) (p0 : Int) (p1 : Int) (p2 : Int) (p3 : Int) (p4 : Int) (p5 : Int) : RunsO Try.prog 67 [.agg [.d (.int .i64 p0), .d (.int .i64 p1), .d (.int .i64 p2), .d (.int .i64 p3), .d (.int .i64 p4), .d (.int .i64 p5)]] [] (item_ValidPart_E p0 p1 p2 p3 p4 p5) (item_ValidPart k p0 p1 p2 p3 p4 p5) := by
  refine RunsO.of_goes (N := 44) (m := 0) (T := [(0, .agg [.d (.int .i64 p0), .d (.int .i64 p1), .d (.int .i64 p2), .d (.int .i64 p3), .d (.int .i64 p4), .d (.int .i64 p5)])]) Try.func67 rfl rfl (h := ?_)
  unfold item_ValidPart
  refine bStart ?_
  refine oSR rfl ?_
  refine oD (.ptr 0 0) (k_box (H' := [.box [.d (.int .i64 p0), .d (.int .i64 p1), .d (.int .i64 p2), .d (.int .i64 p3), .d (.int .i64 p4), .d (.int .i64 p5)]]) (cells := [.d (.int .i64 p0), .d (.int .i64 p1), .d (.int .i64 p2), .d (.int .i64 p3), .d (.int .i64 p4), .d (.int .i64 p5)])) ?_
  refine oP (.d (.bool false)) p_assign ?_
  refine oEnd ?_
  refine oSeq ?_
  refine oSR rfl ?_
  refine oP (.ptr 0 1) (k_fieldAddr 0 0 (hu := Try.underlying49) (hf := rfl) (hi := ty3)) ?_
  refine oQ (.d (.int .i64 p1)) (k_load 0 1 (hu := Try.underlying3)) ?_
  refine bCall (caps := []) (v := (fun (r112 : Bool) => (.d (.bool r112) : V))) (H' := (fun (r112 : Bool) => ([.box [.d (.int .i64 p0), .d (.int .i64 p1), .d (.int .i64 p2), .d (.int .i64 p3), .d (.int .i64 p4), .d (.int .i64 p5)]] : List Blk))) [] _ (item_in_goes k p1 1 40) (ho := rfl) (hfn := Try.func59) (hb := rfl) (hconv := ConvRs.refl _ _) (hnd := by decide) (hBl := fun _ => (by kernel_rfl)) (hv := fun _ => (by kernel_rfl)) (hH' := fun _ => (by kernel_rfl)) (h := fun r112 => ?_)
  refine oP (.d (.bool (!r112))) (p_not (p := r112)) ?_
  refine oP (.d (.bool (!r112))) p_move ?_
  refine bMeet 5 rfl ((fun (x9 : Bool) => [(1, .ptr 0 0), (12, .d (.bool x9))])) ((fun (x9 : Bool) => [.box [.d (.int .i64 p0), .d (.int .i64 p1), .d (.int .i64 p2), .d (.int .i64 p3), .d (.int .i64 p4), .d (.int .i64 p5)]])) (fun s => s) (fun x9 => ?_) (fun hj4 => ?_)
  ·refine oView (T' := [(1, .ptr 0 0), (12, .d (.bool x9))]) (H' := [.box [.d (.int .i64 p0), .d (.int .i64 p1), .d (.int .i64 p2), .d (.int .i64 p3), .d (.int .i64 p4), .d (.int .i64 p5)]]) (h := ?_)
   refine oP (.d (.bool x9)) p_move ?_
   refine bMeet 5 rfl ((fun (x10 : Bool) => [(1, .ptr 0 0), (18, .d (.bool x10))])) ((fun (x10 : Bool) => [.box [.d (.int .i64 p0), .d (.int .i64 p1), .d (.int .i64 p2), .d (.int .i64 p3), .d (.int .i64 p4), .d (.int .i64 p5)]])) (fun s => s) (fun x10 => ?_) (fun hj3 => ?_)
   ·refine oView (T' := [(1, .ptr 0 0), (18, .d (.bool x10))]) (H' := [.box [.d (.int .i64 p0), .d (.int .i64 p1), .d (.int .i64 p2), .d (.int .i64 p3), .d (.int .i64 p4), .d (.int .i64 p5)]]) (h := ?_)
    refine oEnd ?_
    refine bSplit 18 (h1 := fun hc => ?_) (h2 := fun hc => ?_)
    ·refine oCondT (h := ?_)
     refine oSR rfl ?_
     refine oP (.d (.bool false)) p_assign ?_
     refine oEnd ?_
     exact oRet (r0 := false) (rv := .d (.bool false)) (B := []) (vs := [.d (.bool false)]) (σ := []) (hf := Try.func67) (hrs := rfl) (hres := .cons _ _ _ _ (.tmp 2 _ (by kernel_rfl)) .nil) (hnd := by decide)
    ·refine oCondF (h := ?_)
     refine oSkip ?_
     refine oSeq ?_
     refine oSR rfl ?_
     refine oP (.ptr 0 0) (k_fieldAddr 0 0 (hu := Try.underlying49) (hf := rfl) (hi := ty3)) ?_
     refine oQ (.d (.int .i64 p0)) (k_load 0 0 (hu := Try.underlying3)) ?_
     refine oEnd ?_
     refine oBlock ?_
     refine oSR rfl ?_
     refine oP (.d (.bool (p0 == 1))) (p_int (k := .i64) (p := p0) (q := 1)) ?_
     refine oP (.d (.bool (p0 == 1))) p_assign ?_
     refine oEnd ?_
     refine bSplit 21 (h1 := fun hc => ?_) (h2 := fun hc => ?_)
     ·refine oCondT (h := ?_)
      refine oSR rfl ?_
      refine oP (.ptr 0 4) (k_fieldAddr 0 0 (hu := Try.underlying49) (hf := rfl) (hi := ty3)) ?_
      refine oQ (.d (.int .i64 p4)) (k_load 0 4 (hu := Try.underlying3)) ?_
      refine oP (.d (.bool (p4 == 0))) (p_int (k := .i64) (p := p4) (q := 0)) ?_
      refine oP (.d (.bool (p4 == 0))) p_move ?_
      refine bMeetF (H' := []) 4 rfl ((fun (x15 : Bool) => [(30, .d (.bool x15))])) (fun x15 => ?_) (fun F hj1 => ?_)
      ·refine oView (T' := [(30, .d (.bool x15))]) (H' := []) (h := ?_)
       refine oP (.d (.bool x15)) p_assign ?_
       refine oEnd ?_
       exact oRet (r0 := x15) (rv := .d (.bool x15)) (B := []) (vs := [.d (.bool x15)]) (σ := []) (hf := Try.func67) (hrs := rfl) (hres := .cons _ _ _ _ (.tmp 2 _ (by kernel_rfl)) .nil) (hnd := by decide)
      ·refine bPickF 26 (fun c => F (c && (p5 == 0))) (h1 := fun hc => ?_) (h2 := fun hc => ?_)
       ·refine oP (.ptr 0 5) (k_fieldAddr 0 0 (hu := Try.underlying49) (hf := rfl) (hi := ty3)) ?_
        refine oQ (.d (.int .i64 p5)) (k_load 0 5 (hu := Try.underlying3)) ?_
        refine oP (.d (.bool (p5 == 0))) (p_int (k := .i64) (p := p5) (q := 0)) ?_
        refine oP (.d (.bool (p5 == 0))) (p_pick (b := true)) ?_
        refine oHead [30] [] (T' := [(30, .d (.bool (p5 == 0)))]) (H' := []) (hnd := by decide) (h := ?_)
        exact hj1 (p5 == 0)
       ·refine oNot (h := ?_)
        refine oNot (h := ?_)
        refine oNot (h := ?_)
        refine oP (.d (.bool false)) (p_pick (b := false)) ?_
        refine oHead [30] [] (T' := [(30, .d (.bool false))]) (H' := []) (hnd := by decide) (h := ?_)
        exact hj1 false
     ·refine oCondF (h := ?_)
      refine oSR rfl ?_
      refine oP (.d (.bool (p0 == 2))) (p_int (k := .i64) (p := p0) (q := 2)) ?_
      refine oP (.d (.bool (p0 == 2))) p_assign ?_
      refine oEnd ?_
      refine bSplit 31 (h1 := fun hc => ?_) (h2 := fun hc => ?_)
      ·refine oCondT (h := ?_)
       refine oSR rfl ?_
       refine oP (.ptr 0 4) (k_fieldAddr 0 0 (hu := Try.underlying49) (hf := rfl) (hi := ty3)) ?_
       refine oQ (.d (.int .i64 p4)) (k_load 0 4 (hu := Try.underlying3)) ?_
       refine bCall (caps := []) (v := (fun (r121 : Bool) => (.d (.bool r121) : V))) (H' := (fun (r121 : Bool) => ([.box [.d (.int .i64 p0), .d (.int .i64 p1), .d (.int .i64 p2), .d (.int .i64 p3), .d (.int .i64 p4), .d (.int .i64 p5)]] : List Blk))) [] _ (item_in_goes k p4 2 5) (ho := rfl) (hfn := Try.func59) (hb := rfl) (hconv := ConvRs.refl _ _) (hnd := by decide) (hBl := fun _ => (by kernel_rfl)) (hv := fun _ => (by kernel_rfl)) (hH' := fun _ => (by kernel_rfl)) (h := fun r121 => ?_)
       refine oP (.d (.bool r121)) p_move ?_
       refine bMeet 7 rfl ((fun (x17 : Bool) => [(43, .d (.bool x17))])) ((fun (x17 : Bool) => [])) (fun s => s) (fun x17 => ?_) (fun hj2 => ?_)
       ·refine oView (T' := [(43, .d (.bool x17))]) (H' := []) (h := ?_)
        refine oP (.d (.bool x17)) p_assign ?_
        refine oEnd ?_
        exact oRet (r0 := x17) (rv := .d (.bool x17)) (B := []) (vs := [.d (.bool x17)]) (σ := []) (hf := Try.func67) (hrs := rfl) (hres := .cons _ _ _ _ (.tmp 2 _ (by kernel_rfl)) .nil) (hnd := by decide)
       ·refine bSplit 36 (h1 := fun hc => ?_) (h2 := fun hc => ?_)
        ·refine oP (.ptr 0 5) (k_fieldAddr 0 0 (hu := Try.underlying49) (hf := rfl) (hi := ty3)) ?_
         refine oQ (.d (.int .i64 p5)) (k_load 0 5 (hu := Try.underlying3)) ?_
         refine oP (.ptr 0 4) (k_fieldAddr 0 0 (hu := Try.underlying49) (hf := rfl) (hi := ty3)) ?_
         refine oQ (.d (.int .i64 p4)) (k_load 0 4 (hu := Try.underlying3)) ?_
         refine oP (.d (.int .i64 (IntKind.wrap .i64 (p4 - 1)))) (p_int (k := .i64) (p := p4) (q := 1)) ?_
         refine bCall (caps := []) (v := (fun (r123 : Bool) => (.d (.bool r123) : V))) (H' := (fun (r123 : Bool) => ([.box [.d (.int .i64 p0), .d (.int .i64 p1), .d (.int .i64 p2), .d (.int .i64 p3), .d (.int .i64 p4), .d (.int .i64 p5)]] : List Blk))) [] _ (item_in_goes k p5 0 (IntKind.wrap .i64 (p4 - 1))) (ho := rfl) (hfn := Try.func59) (hb := rfl) (hconv := ConvRs.refl _ _) (hnd := by decide) (hBl := fun _ => (by kernel_rfl)) (hv := fun _ => (by kernel_rfl)) (hH' := fun _ => (by kernel_rfl)) (h := fun r123 => ?_)
         refine oP (.d (.bool r123)) (p_pick (b := true)) ?_
         refine oHead [43] [] (T' := [(43, .d (.bool r123))]) (H' := []) (hnd := by decide) (h := ?_)
         exact hj2 r123
        ·refine oNot (h := ?_)
         refine oNot (h := ?_)
         refine oNot (h := ?_)
         refine oNot (h := ?_)
         refine oNot (h := ?_)
         refine oNot (h := ?_)
         refine oP (.d (.bool false)) (p_pick (b := false)) ?_
         refine oHead [43] [] (T' := [(43, .d (.bool false))]) (H' := []) (hnd := by decide) (h := ?_)
         exact hj2 false
      ·refine oCondF (h := ?_)
       refine oSkip ?_
       refine oBlk ?_
       refine oSR rfl ?_
       refine oP (.d (.bool false)) p_assign ?_
       refine oEnd ?_
       exact oRet (r0 := false) (rv := .d (.bool false)) (B := []) (vs := [.d (.bool false)]) (σ := []) (hf := Try.func67) (hrs := rfl) (hres := .cons _ _ _ _ (.tmp 2 _ (by kernel_rfl)) .nil) (hnd := by decide)
   ·refine bSplit 13 (h1 := fun hc => ?_) (h2 := fun hc => ?_)
    ·refine oNot (h := ?_)
     refine oNot (h := ?_)
     refine oNot (h := ?_)
     refine oNot (h := ?_)
     refine oP (.d (.bool true)) (p_pick (b := true)) ?_
     refine oHead [1, 18] [0] (T' := [(1, .ptr 0 0), (18, .d (.bool true))]) (H' := [.box [.d (.int .i64 p0), .d (.int .i64 p1), .d (.int .i64 p2), .d (.int .i64 p3), .d (.int .i64 p4), .d (.int .i64 p5)]]) (hnd := by decide) (h := ?_)
     exact hj3 true
    ·refine oP (.ptr 0 3) (k_fieldAddr 0 0 (hu := Try.underlying49) (hf := rfl) (hi := ty3)) ?_
     refine oQ (.d (.int .i64 p3)) (k_load 0 3 (hu := Try.underlying3)) ?_
     refine bCall (caps := []) (v := (fun (r124 : Bool) => (.d (.bool r124) : V))) (H' := (fun (r124 : Bool) => ([.box [.d (.int .i64 p0), .d (.int .i64 p1), .d (.int .i64 p2), .d (.int .i64 p3), .d (.int .i64 p4), .d (.int .i64 p5)]] : List Blk))) [] _ (item_in_goes k p3 0 5) (ho := rfl) (hfn := Try.func59) (hb := rfl) (hconv := ConvRs.refl _ _) (hnd := by decide) (hBl := fun _ => (by kernel_rfl)) (hv := fun _ => (by kernel_rfl)) (hH' := fun _ => (by kernel_rfl)) (h := fun r124 => ?_)
     refine oP (.d (.bool (!r124))) (p_not (p := r124)) ?_
     refine oP (.d (.bool (!r124))) (p_pick (b := false)) ?_
     refine oHead [1, 18] [0] (T' := [(1, .ptr 0 0), (18, .d (.bool (!r124)))]) (H' := [.box [.d (.int .i64 p0), .d (.int .i64 p1), .d (.int .i64 p2), .d (.int .i64 p3), .d (.int .i64 p4), .d (.int .i64 p5)]]) (hnd := by decide) (h := ?_)
     exact hj3 (!r124)
  ·refine bSplit 7 (h1 := fun hc => ?_) (h2 := fun hc => ?_)
   ·refine oNot (h := ?_)
    refine oNot (h := ?_)
    refine oNot (h := ?_)
    refine oNot (h := ?_)
    refine oP (.d (.bool true)) (p_pick (b := true)) ?_
    refine oHead [1, 12] [0] (T' := [(1, .ptr 0 0), (12, .d (.bool true))]) (H' := [.box [.d (.int .i64 p0), .d (.int .i64 p1), .d (.int .i64 p2), .d (.int .i64 p3), .d (.int .i64 p4), .d (.int .i64 p5)]]) (hnd := by decide) (h := ?_)
    exact hj4 true
   ·refine oP (.ptr 0 2) (k_fieldAddr 0 0 (hu := Try.underlying49) (hf := rfl) (hi := ty3)) ?_
    refine oQ (.d (.int .i64 p2)) (k_load 0 2 (hu := Try.underlying3)) ?_
    refine bCall (caps := []) (v := (fun (r125 : Bool) => (.d (.bool r125) : V))) (H' := (fun (r125 : Bool) => ([.box [.d (.int .i64 p0), .d (.int .i64 p1), .d (.int .i64 p2), .d (.int .i64 p3), .d (.int .i64 p4), .d (.int .i64 p5)]] : List Blk))) [] _ (item_in_goes k p2 0 15) (ho := rfl) (hfn := Try.func59) (hb := rfl) (hconv := ConvRs.refl _ _) (hnd := by decide) (hBl := fun _ => (by kernel_rfl)) (hv := fun _ => (by kernel_rfl)) (hH' := fun _ => (by kernel_rfl)) (h := fun r125 => ?_)
    refine oP (.d (.bool (!r125))) (p_not (p := r125)) ?_
    refine oP (.d (.bool (!r125))) (p_pick (b := false)) ?_
    refine oHead [1, 12] [0] (T' := [(1, .ptr 0 0), (12, .d (.bool (!r125)))]) (H' := [.box [.d (.int .i64 p0), .d (.int .i64 p1), .d (.int .i64 p2), .d (.int .i64 p3), .d (.int .i64 p4), .d (.int .i64 p5)]]) (hnd := by decide) (h := ?_)
    exact hj4 (!r125)

/-- awardingbody/item.bad -/
def item_bad (k : Nat) (p0 : Int) (p1 : Int) (p2 : Int) (p3 : Int) (p4 : Int) (p5 : Int) : Option (Bool) := Option.bind (item_ValidPart k p0 p1 p2 p3 p4 p5) (fun r1111 => some (!r1111))
def item_bad_E (p0 : Int) (p1 : Int) (p2 : Int) (p3 : Int) (p4 : Int) (p5 : Int) : Bool → V × List Blk := fun r1 => (.d (.bool r1), [])
theorem item_bad_goes (k : Nat) (p0 : Int) (p1 : Int) (p2 : Int) (p3 : Int) (p4 : Int) (p5 : Int) : RunsO Try.prog 61 [.agg [.d (.int .i64 p0), .d (.int .i64 p1), .d (.int .i64 p2), .d (.int .i64 p3), .d (.int .i64 p4), .d (.int .i64 p5)]] [] (item_bad_E p0 p1 p2 p3 p4 p5) (item_bad k p0 p1 p2 p3 p4 p5) := by
  refine RunsO.of_goes (N := 6) (m := 0) (T := [(0, .agg [.d (.int .i64 p0), .d (.int .i64 p1), .d (.int .i64 p2), .d (.int .i64 p3), .d (.int .i64 p4), .d (.int .i64 p5)])]) Try.func61 rfl rfl (h := ?_)
  unfold item_bad
  refine bStart ?_
  refine oSR rfl ?_
  refine oD (.ptr 0 0) (k_box (H' := [.box [.d (.int .i64 p0), .d (.int .i64 p1), .d (.int .i64 p2), .d (.int .i64 p3), .d (.int .i64 p4), .d (.int .i64 p5)]]) (cells := [.d (.int .i64 p0), .d (.int .i64 p1), .d (.int .i64 p2), .d (.int .i64 p3), .d (.int .i64 p4), .d (.int .i64 p5)])) ?_
  refine oP (.d (.bool false)) p_assign ?_
  refine oEnd ?_
  refine oSR rfl ?_
  refine oQ (.agg [.d (.int .i64 p0), .d (.int .i64 p1), .d (.int .i64 p2), .d (.int .i64 p3), .d (.int .i64 p4), .d (.int .i64 p5)]) (k_loadAgg 0 0 (hu := Try.underlying49) (hi := ty49)) ?_
  refine bCall (caps := []) (v := (fun (r1111 : Bool) => (.d (.bool r1111) : V))) (H' := (fun (r1111 : Bool) => ([.box [.d (.int .i64 p0), .d (.int .i64 p1), .d (.int .i64 p2), .d (.int .i64 p3), .d (.int .i64 p4), .d (.int .i64 p5)]] : List Blk))) [] _ (item_ValidPart_goes k p0 p1 p2 p3 p4 p5) (ho := rfl) (hfn := Try.func67) (hb := rfl) (hconv := ConvRs.refl _ _) (hnd := by decide) (hBl := fun _ => (by kernel_rfl)) (hv := fun _ => (by kernel_rfl)) (hH' := fun _ => (by kernel_rfl)) (h := fun r1111 => ?_)
  refine oP (.d (.bool (!r1111))) (p_not (p := r1111)) ?_
  refine oP (.d (.bool (!r1111))) p_assign ?_
  refine oEnd ?_
  exact oRet (r0 := (!r1111)) (rv := .d (.bool (!r1111))) (B := []) (vs := [.d (.bool (!r1111))]) (σ := []) (hf := Try.func61) (hrs := rfl) (hres := .cons _ _ _ _ (.tmp 2 _ (by kernel_rfl)) .nil) (hnd := by decide)

/-- slices.IndexFunc[[]awardingbody/api.Part,awardingbody/api.Part] -/
def slices_IndexFunc_api_Part_api_Part_b1 (k : Nat) (s1 : (List SPart)) (again : Int → Option ((Unit) ⊕ (Int))) : Int → Option ((Unit) ⊕ (Int)) := fun x4 => bif (decide (x4 < ((List.length s1) : Int))) then gidx s1 x4 fun e113 => Option.bind (item_bad k e113.Kind e113.Max e113.Topic e113.Objective e113.Options e113.Key) (fun r114 => bif r114 then some (Sum.inr x4) else again (IntKind.wrap .i64 (x4 + 1))) else some (Sum.inl ())
def slices_IndexFunc_api_Part_api_Part (k : Nat) (s1 : (List SPart)) : Option (Int) := Option.bind (gloop (slices_IndexFunc_api_Part_api_Part_b1 k s1) k 0 : Option ((Unit) ⊕ (Int))) (Sum.elim (u0 (some (-1))) (fun r => some r))
def slices_IndexFunc_api_Part_api_Part_E (s1 : (List SPart)) : Int → V × List Blk := fun r14 => (.d (.int .i64 r14), [])
theorem slices_IndexFunc_api_Part_api_Part_goes (k : Nat) (s1 : (List SPart)) : RunsO Try.prog 66 [.d (.lit (List.map e_SPart s1)), .fn 61 []] [] (slices_IndexFunc_api_Part_api_Part_E s1) (slices_IndexFunc_api_Part_api_Part k s1) := by
  refine RunsO.of_goes (N := 19) (m := 0) (T := [(0, .d (.lit (List.map e_SPart s1))), (1, .fn 61 [])]) Try.func66 rfl rfl (h := ?_)
  unfold slices_IndexFunc_api_Part_api_Part
  refine bStart ?_
  refine oSR rfl ?_
  refine oP (.d (.int .i64 0)) p_assign ?_
  refine oEnd ?_
  refine oSeq ?_
  refine oSR rfl ?_
  refine oP (.d (.lit (List.map e_SPart s1))) p_move ?_
  refine oP (.d (.int .i64 ((List.length s1) : Int))) (k_lenLit (enc := e_SPart) s1 (hu := Try.underlying25)) ?_
  refine oP (.d (.int .i64 0)) p_move ?_
  refine oEnd ?_
  refine bJoin ((u0 ([]))) ((u0 ([]))) Sum.inl (fun s => ?_) (fun hj2 => ?_)
  ·cases s
   refine bInl ?_
   refine bU0 ?_
   refine oView (T' := []) (H' := []) (h := ?_)
   refine oSR rfl ?_
   refine oP (.d (.int .i64 (-1))) p_assign ?_
   refine oEnd ?_
   exact oRet (r0 := (-1)) (rv := .d (.int .i64 (-1))) (B := []) (vs := [.d (.int .i64 (-1))]) (σ := []) (hf := Try.func66) (hrs := rfl) (hres := .cons _ _ _ _ (.tmp 4 _ (by kernel_rfl)) .nil) (hnd := by decide)
  ·refine oBlock ?_
   refine oLoop ?_
   refine oHead [0, 1, 7, 8] [] (T' := [(0, .d (.lit (List.map e_SPart s1))), (1, .fn 61 []), (7, .d (.int .i64 ((List.length s1) : Int))), (8, .d (.int .i64 0))]) (H' := []) (hnd := by decide) (h := ?_)
   refine bLoop (body := slices_IndexFunc_api_Part_api_Part_b1 k s1) ((fun (x4 : Int) => [(0, .d (.lit (List.map e_SPart s1))), (1, .fn 61 []), (7, .d (.int .i64 ((List.length s1) : Int))), (8, .d (.int .i64 x4))])) ((fun (x4 : Int) => [])) (fun again hag1 x4 => ?_) k 0
   ·unfold slices_IndexFunc_api_Part_api_Part_b1
    refine oView (T' := [(0, .d (.lit (List.map e_SPart s1))), (1, .fn 61 []), (7, .d (.int .i64 ((List.length s1) : Int))), (8, .d (.int .i64 x4))]) (H' := []) (h := ?_)
    refine oSR rfl ?_
    refine oP (.d (.bool (decide (x4 < ((List.length s1) : Int))))) (p_int (k := .i64) (p := x4) (q := ((List.length s1) : Int))) ?_
    refine oEnd ?_
    refine oSeq ?_
    refine bSplit 9 (h1 := fun hc => ?_) (h2 := fun hc => ?_)
    ·refine oCondT (h := ?_)
     refine oSkip ?_
     refine oSeq ?_
     refine oBlock ?_
     refine oSR rfl ?_
     refine oP (.d (.int .i64 x4)) p_move ?_
     refine oP (.d (.int .i64 x4)) p_assign ?_
     refine oEnd ?_
     refine oSR rfl ?_
     refine oP (.fn 61 []) p_move ?_
     refine oP (.d (.lit (List.map e_SPart s1))) p_move ?_
     refine oP (.d (.int .i64 x4)) p_move ?_
     refine bIdx (fun e113 h126 h127 => ?_)
     refine oP (.lptr (e_SPart e113) 0) (k_idxLit e_SPart_len s1 (a := e113) (k := .i64) (i := x4) (hu := Try.underlying25) (hi := ty49) (h0 := h126) (he := h127)) ?_
     refine oQ (.agg [.d (.int .i64 e113.Kind), .d (.int .i64 e113.Max), .d (.int .i64 e113.Topic), .d (.int .i64 e113.Objective), .d (.int .i64 e113.Options), .d (.int .i64 e113.Key)]) (k_loadLAgg (cells := e_SPart e113) 0 [(.int .i64 e113.Kind), (.int .i64 e113.Max), (.int .i64 e113.Topic), (.int .i64 e113.Objective), (.int .i64 e113.Options), (.int .i64 e113.Key)] (hu := Try.underlying49) (hi := ty49)) ?_
     refine bCall (caps := []) (v := (fun (r114 : Bool) => (.d (.bool r114) : V))) (H' := (fun (r114 : Bool) => ([] : List Blk))) [] _ (item_bad_goes k e113.Kind e113.Max e113.Topic e113.Objective e113.Options e113.Key) (ho := rfl) (hfn := Try.func61) (hb := rfl) (hconv := ConvRs.refl _ _) (hnd := by decide) (hBl := fun _ => (by kernel_rfl)) (hv := fun _ => (by kernel_rfl)) (hH' := fun _ => (by kernel_rfl)) (h := fun r114 => ?_)
     refine oEnd ?_
     refine bSplit 16 (h1 := fun hc => ?_) (h2 := fun hc => ?_)
     ·refine oCondT (h := ?_)
      refine oSR rfl ?_
      refine oP (.d (.int .i64 x4)) p_move ?_
      refine oP (.d (.int .i64 x4)) p_assign ?_
      refine oEnd ?_
      exact oRet (r0 := x4) (rv := .d (.int .i64 x4)) (B := []) (vs := [.d (.int .i64 x4)]) (σ := []) (hf := Try.func66) (hrs := rfl) (hres := .cons _ _ _ _ (.tmp 4 _ (by kernel_rfl)) .nil) (hnd := by decide)
     ·refine oCondF (h := ?_)
      refine oSkip ?_
      refine oBlk ?_
      refine oRegion rfl ?_
      refine oP (.d (.int .i64 (IntKind.wrap .i64 (x4 + 1)))) (p_int (k := .i64) (p := x4) (q := 1)) ?_
      refine oP (.d (.int .i64 (IntKind.wrap .i64 (x4 + 1)))) p_move ?_
      refine oEnd ?_
      refine oAgain ?_
      refine oHead [0, 1, 7, 8] [] (T' := [(0, .d (.lit (List.map e_SPart s1))), (1, .fn 61 []), (7, .d (.int .i64 ((List.length s1) : Int))), (8, .d (.int .i64 (IntKind.wrap .i64 (x4 + 1))))]) (H' := []) (hnd := by decide) (h := ?_)
      exact hag1 (IntKind.wrap .i64 (x4 + 1))
    ·refine oCondF (h := ?_)
     refine oExit rfl ?_
     refine oHead [] [] (T' := []) (H' := []) (hnd := by decide) (h := ?_)
     exact hj2 ()

/-- slices.ContainsFunc[[]awardingbody/api.Part,awardingbody/api.Part] -/
def slices_ContainsFunc_api_Part_api_Part (k : Nat) (s1 : (List SPart)) : Option (Bool) := Option.bind (slices_IndexFunc_api_Part_api_Part k s1) (fun r141 => some (decide (r141 ≥ 0)))
def slices_ContainsFunc_api_Part_api_Part_E (s1 : (List SPart)) : Bool → V × List Blk := fun r1 => (.d (.bool r1), [])
theorem slices_ContainsFunc_api_Part_api_Part_goes (k : Nat) (s1 : (List SPart)) : RunsO Try.prog 60 [.d (.lit (List.map e_SPart s1)), .fn 61 []] [] (slices_ContainsFunc_api_Part_api_Part_E s1) (slices_ContainsFunc_api_Part_api_Part k s1) := by
  refine RunsO.of_goes (N := 9) (m := 0) (T := [(0, .d (.lit (List.map e_SPart s1))), (1, .fn 61 [])]) Try.func60 rfl rfl (h := ?_)
  unfold slices_ContainsFunc_api_Part_api_Part
  refine bStart ?_
  refine oSR rfl ?_
  refine oP (.d (.bool false)) p_assign ?_
  refine oEnd ?_
  refine oSR rfl ?_
  refine oP (.d (.lit (List.map e_SPart s1))) p_move ?_
  refine oP (.fn 61 []) p_move ?_
  refine bCall (caps := []) (v := (fun (r141 : Int) => (.d (.int .i64 r141) : V))) (H' := (fun (r141 : Int) => ([] : List Blk))) [] _ (slices_IndexFunc_api_Part_api_Part_goes k s1) (ho := rfl) (hfn := Try.func66) (hb := rfl) (hconv := ConvRs.refl _ _) (hnd := by decide) (hBl := fun _ => (by kernel_rfl)) (hv := fun _ => (by kernel_rfl)) (hH' := fun _ => (by kernel_rfl)) (h := fun r141 => ?_)
  refine oP (.d (.bool (decide (r141 ≥ 0)))) (p_int (k := .i64) (p := r141) (q := 0)) ?_
  refine oP (.d (.bool (decide (r141 ≥ 0)))) p_assign ?_
  refine oEnd ?_
  exact oRet (r0 := (decide (r141 ≥ 0))) (rv := .d (.bool (decide (r141 ≥ 0)))) (B := []) (vs := [.d (.bool (decide (r141 ≥ 0)))]) (σ := []) (hf := Try.func60) (hrs := rfl) (hres := .cons _ _ _ _ (.tmp 4 _ (by kernel_rfl)) .nil) (hnd := by decide)

/-- awardingbody/item.sum -/
def item_sum_b1 (k : Nat) (l : (List SPart)) (again : Int × Int → Option (Int)) : Int × Int → Option (Int) := uc fun n6 => fun x4 => bif (decide (x4 < ((List.length l) : Int))) then gidx l x4 fun e113 => again ((IntKind.wrap .i64 (n6 + e113.Max)), (IntKind.wrap .i64 (x4 + 1))) else some n6
def item_sum (k : Nat) (l : (List SPart)) : Option (Int) := Option.bind (gloop (item_sum_b1 k l) k (0, 0) : Option (Int)) (fun n5 => some n5)
def item_sum_E (l : (List SPart)) : Int → V × List Blk := fun r1 => (.d (.int .i64 r1), [])
theorem item_sum_goes (k : Nat) (l : (List SPart)) : RunsO Try.prog 62 [.d (.lit (List.map e_SPart l))] [] (item_sum_E l) (item_sum k l) := by
  refine RunsO.of_goes (N := 18) (m := 0) (T := [(0, .d (.lit (List.map e_SPart l)))]) Try.func62 rfl rfl (h := ?_)
  unfold item_sum
  refine bStart ?_
  refine oSR rfl ?_
  refine oP (.d (.int .i64 0)) p_assign ?_
  refine oEnd ?_
  refine oSR rfl ?_
  refine oP (.d (.int .i64 0)) p_assign ?_
  refine oEnd ?_
  refine oSeq ?_
  refine oSR rfl ?_
  refine oP (.d (.lit (List.map e_SPart l))) p_move ?_
  refine oP (.d (.int .i64 ((List.length l) : Int))) (k_lenLit (enc := e_SPart) l (hu := Try.underlying25)) ?_
  refine oP (.d (.int .i64 0)) p_move ?_
  refine oEnd ?_
  refine bJoin ((fun (n5 : Int) => [(3, .d (.int .i64 n5))])) ((fun (n5 : Int) => [])) (fun s => s) (fun n5 => ?_) (fun hj2 => ?_)
  ·refine oView (T' := [(3, .d (.int .i64 n5))]) (H' := []) (h := ?_)
   refine oSR rfl ?_
   refine oP (.d (.int .i64 n5)) p_move ?_
   refine oP (.d (.int .i64 n5)) p_assign ?_
   refine oEnd ?_
   exact oRet (r0 := n5) (rv := .d (.int .i64 n5)) (B := []) (vs := [.d (.int .i64 n5)]) (σ := []) (hf := Try.func62) (hrs := rfl) (hres := .cons _ _ _ _ (.tmp 2 _ (by kernel_rfl)) .nil) (hnd := by decide)
  ·refine oBlock ?_
   refine oLoop ?_
   refine oHead [3, 6, 7, 8] [] (T' := [(3, .d (.int .i64 0)), (6, .d (.lit (List.map e_SPart l))), (7, .d (.int .i64 ((List.length l) : Int))), (8, .d (.int .i64 0))]) (H' := []) (hnd := by decide) (h := ?_)
   refine bLoop (body := item_sum_b1 k l) ((uc fun (n6 : Int) => (fun (x4 : Int) => [(3, .d (.int .i64 n6)), (6, .d (.lit (List.map e_SPart l))), (7, .d (.int .i64 ((List.length l) : Int))), (8, .d (.int .i64 x4))]))) ((uc fun (n6 : Int) => (fun (x4 : Int) => []))) (fun again hag1 s => ?_) k (0, 0)
   ·unfold item_sum_b1
    obtain ⟨n6, x4⟩ := s
    refine bUc ?_
    refine oView (T' := [(3, .d (.int .i64 n6)), (6, .d (.lit (List.map e_SPart l))), (7, .d (.int .i64 ((List.length l) : Int))), (8, .d (.int .i64 x4))]) (H' := []) (h := ?_)
    refine oSR rfl ?_
    refine oP (.d (.bool (decide (x4 < ((List.length l) : Int))))) (p_int (k := .i64) (p := x4) (q := ((List.length l) : Int))) ?_
    refine oEnd ?_
    refine oSeq ?_
    refine bSplit 9 (h1 := fun hc => ?_) (h2 := fun hc => ?_)
    ·refine oCondT (h := ?_)
     refine oSkip ?_
     refine oSeq ?_
     refine oBlock ?_
     refine oSR rfl ?_
     refine bIdx (fun e113 h126 h127 => ?_)
     refine oP (.lptr (e_SPart e113) 0) (k_idxLit e_SPart_len l (a := e113) (k := .i64) (i := x4) (hu := Try.underlying25) (hi := ty49) (h0 := h126) (he := h127)) ?_
     refine oQ (.agg [.d (.int .i64 e113.Kind), .d (.int .i64 e113.Max), .d (.int .i64 e113.Topic), .d (.int .i64 e113.Objective), .d (.int .i64 e113.Options), .d (.int .i64 e113.Key)]) (k_loadLAgg (cells := e_SPart e113) 0 [(.int .i64 e113.Kind), (.int .i64 e113.Max), (.int .i64 e113.Topic), (.int .i64 e113.Objective), (.int .i64 e113.Options), (.int .i64 e113.Key)] (hu := Try.underlying49) (hi := ty49)) ?_
     refine oD (.ptr 0 0) (k_alloc (H' := [.box [.d (.int .i64 0), .d (.int .i64 0), .d (.int .i64 0), .d (.int .i64 0), .d (.int .i64 0), .d (.int .i64 0)]]) ty49) ?_
     refine oD (.undef) (k_store (vs := [.d (.int .i64 e113.Kind), .d (.int .i64 e113.Max), .d (.int .i64 e113.Topic), .d (.int .i64 e113.Objective), .d (.int .i64 e113.Options), .d (.int .i64 e113.Key)]) (H' := [.box [.d (.int .i64 e113.Kind), .d (.int .i64 e113.Max), .d (.int .i64 e113.Topic), .d (.int .i64 e113.Objective), .d (.int .i64 e113.Options), .d (.int .i64 e113.Key)]]) 0 0 (hi := ty49)) ?_
     refine oEnd ?_
     refine oRegion rfl ?_
     refine oP (.d (.int .i64 n6)) p_move ?_
     refine oP (.ptr 0 1) (k_fieldAddr 0 0 (hu := Try.underlying49) (hf := rfl) (hi := ty3)) ?_
     refine oQ (.d (.int .i64 e113.Max)) (k_load 0 1 (hu := Try.underlying3)) ?_
     refine oP (.d (.int .i64 (IntKind.wrap .i64 (n6 + e113.Max)))) (p_int (k := .i64) (p := n6) (q := e113.Max)) ?_
     refine oP (.d (.int .i64 (IntKind.wrap .i64 (n6 + e113.Max)))) p_assign ?_
     refine oEnd ?_
     refine oBlk ?_
     refine oRegion rfl ?_
     refine oP (.d (.int .i64 (IntKind.wrap .i64 (x4 + 1)))) (p_int (k := .i64) (p := x4) (q := 1)) ?_
     refine oP (.d (.int .i64 (IntKind.wrap .i64 (x4 + 1)))) p_move ?_
     refine oEnd ?_
     refine oAgain ?_
     refine oHead [3, 6, 7, 8] [] (T' := [(3, .d (.int .i64 (IntKind.wrap .i64 (n6 + e113.Max)))), (6, .d (.lit (List.map e_SPart l))), (7, .d (.int .i64 ((List.length l) : Int))), (8, .d (.int .i64 (IntKind.wrap .i64 (x4 + 1))))]) (H' := []) (hnd := by decide) (h := ?_)
     exact hag1 ((IntKind.wrap .i64 (n6 + e113.Max)), (IntKind.wrap .i64 (x4 + 1)))
    ·refine oCondF (h := ?_)
     refine oExit rfl ?_
     refine oHead [3] [] (T' := [(3, .d (.int .i64 n6))]) (H' := []) (hnd := by decide) (h := ?_)
     exact hj2 n6

/-- awardingbody/item.ValidPaper -/
def item_ValidPaper (k : Nat) (p0 : Int) (p1 : Int) (p2 : (List SPart)) : Option (Bool) := Option.bind (item_in k p0 0 31) (fun r16 => Option.bind (bif r16 then Option.bind (item_in k p1 0 3) (fun r114 => some r114) else some false : Option (Bool)) (fun x4 => Option.bind (bif x4 then Option.bind (item_in k ((List.length p2) : Int) 1 24) (fun r113 => some r113) else some false : Option (Bool)) (fun x5 => Option.bind (bif x5 then Option.bind (slices_ContainsFunc_api_Part_api_Part k p2) (fun r112 => some (!r112)) else some false : Option (Bool)) (fun x6 => Option.bind (bif x6 then Option.bind (item_sum k p2) (fun r111 => some (decide (r111 ≤ 200))) else some false : Option (Bool)) (fun x7 => some x7)))))
def item_ValidPaper_E (p0 : Int) (p1 : Int) (p2 : (List SPart)) : Bool → V × List Blk := fun r15 => (.d (.bool r15), [])
theorem item_ValidPaper_goes (k : Nat) (p0 : Int) (p1 : Int) (p2 : (List SPart)) : RunsO Try.prog 51 [.agg [.d (.int .i64 p0), .d (.int .i64 p1), .d (.lit (List.map e_SPart p2))]] [] (item_ValidPaper_E p0 p1 p2) (item_ValidPaper k p0 p1 p2) := by
  refine RunsO.of_goes (N := 29) (m := 0) (T := [(0, .agg [.d (.int .i64 p0), .d (.int .i64 p1), .d (.lit (List.map e_SPart p2))])]) Try.func51 rfl rfl (h := ?_)
  unfold item_ValidPaper
  refine bStart ?_
  refine oSR rfl ?_
  refine oD (.ptr 0 0) (k_box (H' := [.box [.d (.int .i64 p0), .d (.int .i64 p1), .d (.lit (List.map e_SPart p2))]]) (cells := [.d (.int .i64 p0), .d (.int .i64 p1), .d (.lit (List.map e_SPart p2))])) ?_
  refine oP (.d (.bool false)) p_assign ?_
  refine oEnd ?_
  refine oSR rfl ?_
  refine oP (.ptr 0 0) (k_fieldAddr 0 0 (hu := Try.underlying27) (hf := rfl) (hi := ty3)) ?_
  refine oQ (.d (.int .i64 p0)) (k_load 0 0 (hu := Try.underlying3)) ?_
  refine bCall (caps := []) (v := (fun (r16 : Bool) => (.d (.bool r16) : V))) (H' := (fun (r16 : Bool) => ([.box [.d (.int .i64 p0), .d (.int .i64 p1), .d (.lit (List.map e_SPart p2))]] : List Blk))) [] _ (item_in_goes k p0 0 31) (ho := rfl) (hfn := Try.func59) (hb := rfl) (hconv := ConvRs.refl _ _) (hnd := by decide) (hBl := fun _ => (by kernel_rfl)) (hv := fun _ => (by kernel_rfl)) (hH' := fun _ => (by kernel_rfl)) (h := fun r16 => ?_)
  refine oP (.d (.bool r16)) p_move ?_
  refine bMeet 4 rfl ((fun (x4 : Bool) => [(1, .ptr 0 0), (10, .d (.bool x4))])) ((fun (x4 : Bool) => [.box [.d (.int .i64 p0), .d (.int .i64 p1), .d (.lit (List.map e_SPart p2))]])) (fun s => s) (fun x4 => ?_) (fun hj4 => ?_)
  ·refine oView (T' := [(1, .ptr 0 0), (10, .d (.bool x4))]) (H' := [.box [.d (.int .i64 p0), .d (.int .i64 p1), .d (.lit (List.map e_SPart p2))]]) (h := ?_)
   refine oP (.d (.bool x4)) p_move ?_
   refine bMeet 5 rfl ((fun (x5 : Bool) => [(1, .ptr 0 0), (16, .d (.bool x5))])) ((fun (x5 : Bool) => [.box [.d (.int .i64 p0), .d (.int .i64 p1), .d (.lit (List.map e_SPart p2))]])) (fun s => s) (fun x5 => ?_) (fun hj3 => ?_)
   ·refine oView (T' := [(1, .ptr 0 0), (16, .d (.bool x5))]) (H' := [.box [.d (.int .i64 p0), .d (.int .i64 p1), .d (.lit (List.map e_SPart p2))]]) (h := ?_)
    refine oP (.d (.bool x5)) p_move ?_
    refine bMeet 5 rfl ((fun (x6 : Bool) => [(1, .ptr 0 0), (22, .d (.bool x6))])) ((fun (x6 : Bool) => [.box [.d (.int .i64 p0), .d (.int .i64 p1), .d (.lit (List.map e_SPart p2))]])) (fun s => s) (fun x6 => ?_) (fun hj2 => ?_)
    ·refine oView (T' := [(1, .ptr 0 0), (22, .d (.bool x6))]) (H' := [.box [.d (.int .i64 p0), .d (.int .i64 p1), .d (.lit (List.map e_SPart p2))]]) (h := ?_)
     refine oP (.d (.bool x6)) p_move ?_
     refine bMeet 5 rfl ((fun (x7 : Bool) => [(28, .d (.bool x7))])) ((fun (x7 : Bool) => [])) (fun s => s) (fun x7 => ?_) (fun hj1 => ?_)
     ·refine oView (T' := [(28, .d (.bool x7))]) (H' := []) (h := ?_)
      refine oP (.d (.bool x7)) p_assign ?_
      refine oEnd ?_
      exact oRet (r0 := x7) (rv := .d (.bool x7)) (B := []) (vs := [.d (.bool x7)]) (σ := []) (hf := Try.func51) (hrs := rfl) (hres := .cons _ _ _ _ (.tmp 2 _ (by kernel_rfl)) .nil) (hnd := by decide)
     ·refine bSplit 23 (h1 := fun hc => ?_) (h2 := fun hc => ?_)
      ·refine oP (.ptr 0 2) (k_fieldAddr 0 0 (hu := Try.underlying27) (hf := rfl) (hi := ty25)) ?_
       refine oQ (.d (.lit (List.map e_SPart p2))) (k_load 0 2 (hu := Try.underlying25)) ?_
       refine bCall (caps := []) (v := (fun (r111 : Int) => (.d (.int .i64 r111) : V))) (H' := (fun (r111 : Int) => ([.box [.d (.int .i64 p0), .d (.int .i64 p1), .d (.lit (List.map e_SPart p2))]] : List Blk))) [] _ (item_sum_goes k p2) (ho := rfl) (hfn := Try.func62) (hb := rfl) (hconv := ConvRs.refl _ _) (hnd := by decide) (hBl := fun _ => (by kernel_rfl)) (hv := fun _ => (by kernel_rfl)) (hH' := fun _ => (by kernel_rfl)) (h := fun r111 => ?_)
       refine oP (.d (.bool (decide (r111 ≤ 200)))) (p_int (k := .i64) (p := r111) (q := 200)) ?_
       refine oP (.d (.bool (decide (r111 ≤ 200)))) (p_pick (b := true)) ?_
       refine oHead [28] [] (T' := [(28, .d (.bool (decide (r111 ≤ 200))))]) (H' := []) (hnd := by decide) (h := ?_)
       exact hj1 (decide (r111 ≤ 200))
      ·refine oNot (h := ?_)
       refine oNot (h := ?_)
       refine oNot (h := ?_)
       refine oNot (h := ?_)
       refine oP (.d (.bool false)) (p_pick (b := false)) ?_
       refine oHead [28] [] (T' := [(28, .d (.bool false))]) (H' := []) (hnd := by decide) (h := ?_)
       exact hj1 false
    ·refine bSplit 17 (h1 := fun hc => ?_) (h2 := fun hc => ?_)
     ·refine oP (.ptr 0 2) (k_fieldAddr 0 0 (hu := Try.underlying27) (hf := rfl) (hi := ty25)) ?_
      refine oQ (.d (.lit (List.map e_SPart p2))) (k_load 0 2 (hu := Try.underlying25)) ?_
      refine bCall (caps := []) (v := (fun (r112 : Bool) => (.d (.bool r112) : V))) (H' := (fun (r112 : Bool) => ([.box [.d (.int .i64 p0), .d (.int .i64 p1), .d (.lit (List.map e_SPart p2))]] : List Blk))) [] _ (slices_ContainsFunc_api_Part_api_Part_goes k p2) (ho := rfl) (hfn := Try.func60) (hb := rfl) (hconv := ConvRs.refl _ _) (hnd := by decide) (hBl := fun _ => (by kernel_rfl)) (hv := fun _ => (by kernel_rfl)) (hH' := fun _ => (by kernel_rfl)) (h := fun r112 => ?_)
      refine oP (.d (.bool (!r112))) (p_not (p := r112)) ?_
      refine oP (.d (.bool (!r112))) (p_pick (b := true)) ?_
      refine oHead [1, 22] [0] (T' := [(1, .ptr 0 0), (22, .d (.bool (!r112)))]) (H' := [.box [.d (.int .i64 p0), .d (.int .i64 p1), .d (.lit (List.map e_SPart p2))]]) (hnd := by decide) (h := ?_)
      exact hj2 (!r112)
     ·refine oNot (h := ?_)
      refine oNot (h := ?_)
      refine oNot (h := ?_)
      refine oNot (h := ?_)
      refine oP (.d (.bool false)) (p_pick (b := false)) ?_
      refine oHead [1, 22] [0] (T' := [(1, .ptr 0 0), (22, .d (.bool false))]) (H' := [.box [.d (.int .i64 p0), .d (.int .i64 p1), .d (.lit (List.map e_SPart p2))]]) (hnd := by decide) (h := ?_)
      exact hj2 false
   ·refine bSplit 11 (h1 := fun hc => ?_) (h2 := fun hc => ?_)
    ·refine oP (.ptr 0 2) (k_fieldAddr 0 0 (hu := Try.underlying27) (hf := rfl) (hi := ty25)) ?_
     refine oQ (.d (.lit (List.map e_SPart p2))) (k_load 0 2 (hu := Try.underlying25)) ?_
     refine oP (.d (.int .i64 ((List.length p2) : Int))) (k_lenLit (enc := e_SPart) p2 (hu := Try.underlying25)) ?_
     refine bCall (caps := []) (v := (fun (r113 : Bool) => (.d (.bool r113) : V))) (H' := (fun (r113 : Bool) => ([.box [.d (.int .i64 p0), .d (.int .i64 p1), .d (.lit (List.map e_SPart p2))]] : List Blk))) [] _ (item_in_goes k ((List.length p2) : Int) 1 24) (ho := rfl) (hfn := Try.func59) (hb := rfl) (hconv := ConvRs.refl _ _) (hnd := by decide) (hBl := fun _ => (by kernel_rfl)) (hv := fun _ => (by kernel_rfl)) (hH' := fun _ => (by kernel_rfl)) (h := fun r113 => ?_)
     refine oP (.d (.bool r113)) (p_pick (b := true)) ?_
     refine oHead [1, 16] [0] (T' := [(1, .ptr 0 0), (16, .d (.bool r113))]) (H' := [.box [.d (.int .i64 p0), .d (.int .i64 p1), .d (.lit (List.map e_SPart p2))]]) (hnd := by decide) (h := ?_)
     exact hj3 r113
    ·refine oNot (h := ?_)
     refine oNot (h := ?_)
     refine oNot (h := ?_)
     refine oNot (h := ?_)
     refine oP (.d (.bool false)) (p_pick (b := false)) ?_
     refine oHead [1, 16] [0] (T' := [(1, .ptr 0 0), (16, .d (.bool false))]) (H' := [.box [.d (.int .i64 p0), .d (.int .i64 p1), .d (.lit (List.map e_SPart p2))]]) (hnd := by decide) (h := ?_)
     exact hj3 false
  ·refine bSplit 6 (h1 := fun hc => ?_) (h2 := fun hc => ?_)
   ·refine oP (.ptr 0 1) (k_fieldAddr 0 0 (hu := Try.underlying27) (hf := rfl) (hi := ty3)) ?_
    refine oQ (.d (.int .i64 p1)) (k_load 0 1 (hu := Try.underlying3)) ?_
    refine bCall (caps := []) (v := (fun (r114 : Bool) => (.d (.bool r114) : V))) (H' := (fun (r114 : Bool) => ([.box [.d (.int .i64 p0), .d (.int .i64 p1), .d (.lit (List.map e_SPart p2))]] : List Blk))) [] _ (item_in_goes k p1 0 3) (ho := rfl) (hfn := Try.func59) (hb := rfl) (hconv := ConvRs.refl _ _) (hnd := by decide) (hBl := fun _ => (by kernel_rfl)) (hv := fun _ => (by kernel_rfl)) (hH' := fun _ => (by kernel_rfl)) (h := fun r114 => ?_)
    refine oP (.d (.bool r114)) (p_pick (b := true)) ?_
    refine oHead [1, 10] [0] (T' := [(1, .ptr 0 0), (10, .d (.bool r114))]) (H' := [.box [.d (.int .i64 p0), .d (.int .i64 p1), .d (.lit (List.map e_SPart p2))]]) (hnd := by decide) (h := ?_)
    exact hj4 r114
   ·refine oNot (h := ?_)
    refine oNot (h := ?_)
    refine oNot (h := ?_)
    refine oP (.d (.bool false)) (p_pick (b := false)) ?_
    refine oHead [1, 10] [0] (T' := [(1, .ptr 0 0), (10, .d (.bool false))]) (H' := [.box [.d (.int .i64 p0), .d (.int .i64 p1), .d (.lit (List.map e_SPart p2))]]) (hnd := by decide) (h := ?_)
    exact hj4 false

/-- awardingbody/scheme.known -/
def scheme_known (k : Nat) (kind : Int) : Option (Bool) := Option.bind (bif (kind == 0) then some true else bif (kind == 1) then some true else some (kind == 2) : Option (Bool)) (fun x3 => bif x3 then some true else some false)
def scheme_known_E (kind : Int) : Bool → V × List Blk := fun r1 => (.d (.bool r1), [])
theorem scheme_known_goes (k : Nat) (kind : Int) : RunsO Try.prog 49 [.d (.int .i64 kind)] [] (scheme_known_E kind) (scheme_known k kind) := by
  refine RunsO.of_goes (N := 8) (m := 0) (T := [(0, .d (.int .i64 kind))]) Try.func49 rfl rfl (h := ?_)
  unfold scheme_known
  refine bStart ?_
  refine oSR rfl ?_
  refine oP (.d (.bool false)) p_assign ?_
  refine oEnd ?_
  refine oSeq ?_
  refine oSR rfl ?_
  refine oP (.d (.int .i64 kind)) p_move ?_
  refine oEnd ?_
  refine oBlock ?_
  refine oSeq ?_
  refine oSR rfl ?_
  refine oP (.d (.bool (kind == 0))) (p_int (k := .i64) (p := kind) (q := 0)) ?_
  refine oP (.d (.bool (kind == 0))) p_assign ?_
  refine oEnd ?_
  refine bJoin ((fun (x3 : Bool) => [(4, .d (.bool x3))])) ((fun (x3 : Bool) => [])) (fun s => s) (fun x3 => ?_) (fun hj4 => ?_)
  ·refine oView (T' := [(4, .d (.bool x3))]) (H' := []) (h := ?_)
   refine bSplit 4 (h1 := fun hc => ?_) (h2 := fun hc => ?_)
   ·refine oCondT (h := ?_)
    refine oSR rfl ?_
    refine oP (.d (.bool true)) p_assign ?_
    refine oEnd ?_
    exact oRet (r0 := true) (rv := .d (.bool true)) (B := []) (vs := [.d (.bool true)]) (σ := []) (hf := Try.func49) (hrs := rfl) (hres := .cons _ _ _ _ (.tmp 2 _ (by kernel_rfl)) .nil) (hnd := by decide)
   ·refine oCondF (h := ?_)
    refine oSkip ?_
    refine oBlk ?_
    refine oSR rfl ?_
    refine oP (.d (.bool false)) p_assign ?_
    refine oEnd ?_
    exact oRet (r0 := false) (rv := .d (.bool false)) (B := []) (vs := [.d (.bool false)]) (σ := []) (hf := Try.func49) (hrs := rfl) (hres := .cons _ _ _ _ (.tmp 2 _ (by kernel_rfl)) .nil) (hnd := by decide)
  ·refine bSplit 4 (h1 := fun hc => ?_) (h2 := fun hc => ?_)
   ·refine oCondT (h := ?_)
    refine oSkip ?_
    refine oHead [4] [] (T' := [(4, .d (.bool true))]) (H' := []) (hnd := by decide) (h := ?_)
    exact hj4 true
   ·refine oCondF (h := ?_)
    refine oSR rfl ?_
    refine oP (.d (.bool (kind == 1))) (p_int (k := .i64) (p := kind) (q := 1)) ?_
    refine oP (.d (.bool (kind == 1))) p_assign ?_
    refine oEnd ?_
    refine bSplit 4 (h1 := fun hc => ?_) (h2 := fun hc => ?_)
    ·refine oCondT (h := ?_)
     refine oSkip ?_
     refine oHead [4] [] (T' := [(4, .d (.bool true))]) (H' := []) (hnd := by decide) (h := ?_)
     exact hj4 true
    ·refine oCondF (h := ?_)
     refine oRegion rfl ?_
     refine oP (.d (.bool (kind == 2))) (p_int (k := .i64) (p := kind) (q := 2)) ?_
     refine oP (.d (.bool (kind == 2))) p_assign ?_
     refine oEnd ?_
     refine oHead [4] [] (T' := [(4, .d (.bool (kind == 2)))]) (H' := []) (hnd := by decide) (h := ?_)
     exact hj4 (kind == 2)

/-- awardingbody/scheme.Valid$1 -/
def scheme_Valid_1 (k : Nat) (kind : Int) : Option (Bool) := Option.bind (scheme_known k kind) (fun r12 => some (!r12))
def scheme_Valid_1_E (kind : Int) : Bool → V × List Blk := fun r11 => (.d (.bool r11), [])
theorem scheme_Valid_1_goes (k : Nat) (kind : Int) : RunsO Try.prog 53 [.d (.int .i64 kind)] [] (scheme_Valid_1_E kind) (scheme_Valid_1 k kind) := by
  refine RunsO.of_goes (N := 6) (m := 0) (T := [(0, .d (.int .i64 kind))]) Try.func53 rfl rfl (h := ?_)
  unfold scheme_Valid_1
  refine bStart ?_
  refine oSR rfl ?_
  refine oP (.d (.bool false)) p_assign ?_
  refine oEnd ?_
  refine oSR rfl ?_
  refine oP (.d (.int .i64 kind)) p_move ?_
  refine bCall (caps := []) (v := (fun (r12 : Bool) => (.d (.bool r12) : V))) (H' := (fun (r12 : Bool) => ([] : List Blk))) [] _ (scheme_known_goes k kind) (ho := rfl) (hfn := Try.func49) (hb := rfl) (hconv := ConvRs.refl _ _) (hnd := by decide) (hBl := fun _ => (by kernel_rfl)) (hv := fun _ => (by kernel_rfl)) (hH' := fun _ => (by kernel_rfl)) (h := fun r12 => ?_)
  refine oP (.d (.bool (!r12))) (p_not (p := r12)) ?_
  refine oP (.d (.bool (!r12))) p_assign ?_
  refine oEnd ?_
  exact oRet (r0 := (!r12)) (rv := .d (.bool (!r12))) (B := []) (vs := [.d (.bool (!r12))]) (σ := []) (hf := Try.func53) (hrs := rfl) (hres := .cons _ _ _ _ (.tmp 2 _ (by kernel_rfl)) .nil) (hnd := by decide)

end Go.VM
