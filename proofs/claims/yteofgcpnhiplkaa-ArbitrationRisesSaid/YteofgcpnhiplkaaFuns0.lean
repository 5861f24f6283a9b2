/- Plain functions that answer as the program's functions do, and the proof that they do. -/
import Derived.Test.YteofgcpnhiplkaaProg
import Derived.KernelRfl
import Derived.Test.YteofgcpnhiplkaaEngS
import Derived.Test.YteofgcpnhiplkaaFacts
namespace Go.VM
open Go.Proofs
set_option linter.unusedVariables false
set_option linter.unusedSimpArgs false
set_option maxRecDepth 100000
/-- awardingbody/awardingbodymark.Light -/
def mark_Light (k : Nat) (l : (List Int)) : Option (Unit) := some ()
def mark_Light_E (l : (List Int)) : Unit → V × List Blk := u0 ((.d (.bool (decide (((List.length l) : Int) ≤ 600))), []))
theorem mark_Light_goes (k : Nat) (l : (List Int)) : RunsO Try.prog 8 [.d (.lit (List.map e_i64 l))] [] (mark_Light_E l) (mark_Light k l) := by
  refine RunsO.of_goes (N := 6) (m := 0) (T := [(0, .d (.lit (List.map e_i64 l)))]) Try.func8 rfl rfl (by kernel_rfl) (by kernel_rfl) (by kernel_rfl) ?_
  unfold mark_Light
  refine bStart ?_
  refine oSeq ?_
  refine oRegion rfl ?_
  refine oOp (.d (.bool false)) (by kernel_rfl) (by kernel_rfl) (PureV.does (p_assign (by kernel_rfl))) ?_
  refine oEnd ?_
  refine oSeq ?_
  refine oRegion rfl ?_
  refine oOp (.d (.lit (List.map e_i64 l))) (by kernel_rfl) (by kernel_rfl) (PureV.does (p_move (by kernel_rfl))) ?_
  refine oOp (.d (.int .i64 ((List.length l) : Int))) (by kernel_rfl) (by kernel_rfl) (PureV.does (k_lenLit (enc := e_i64) l (by kernel_rfl) Try.underlying22)) ?_
  refine oOp (.d (.bool (decide (((List.length l) : Int) ≤ 600)))) (by kernel_rfl) (by kernel_rfl) (PureV.does (p_int (k := .i64) (p := ((List.length l) : Int)) (q := 600) (by kernel_rfl) (by kernel_rfl) (by kernel_rfl))) ?_
  refine oOp (.d (.bool (decide (((List.length l) : Int) ≤ 600)))) (by kernel_rfl) (by kernel_rfl) (PureV.does (p_assign (by kernel_rfl))) ?_
  refine oEnd ?_
  exact oRet (r0 := ()) (rv := .d (.bool (decide (((List.length l) : Int) ≤ 600)))) (B := []) (vs := [.d (.bool (decide (((List.length l) : Int) ≤ 600)))]) (σ := []) (by kernel_rfl) Try.func8 rfl (.cons _ _ _ _ (.tmp 2 _ (by kernel_rfl)) .nil) (by kernel_rfl) (by kernel_rfl) (by kernel_rfl) (by kernel_rfl) (by decide) (by kernel_rfl) (by kernel_rfl)

/-- cmp.isNaN[int] -/
def cmp_isNaN_int (k : Nat) (x : Int) : Option (Unit) := some ()
def cmp_isNaN_int_E (x : Int) : Unit → V × List Blk := u0 ((.d (.bool (x != x)), []))
theorem cmp_isNaN_int_goes (k : Nat) (x : Int) : RunsO Try.prog 46 [.d (.int .i64 x)] [] (cmp_isNaN_int_E x) (cmp_isNaN_int k x) := by
  refine RunsO.of_goes (N := 6) (m := 0) (T := [(0, .d (.int .i64 x))]) Try.func46 rfl rfl (by kernel_rfl) (by kernel_rfl) (by kernel_rfl) ?_
  unfold cmp_isNaN_int
  refine bStart ?_
  refine oSeq ?_
  refine oRegion rfl ?_
  refine oOp (.d (.bool false)) (by kernel_rfl) (by kernel_rfl) (PureV.does (p_assign (by kernel_rfl))) ?_
  refine oEnd ?_
  refine oSeq ?_
  refine oRegion rfl ?_
  refine oOp (.d (.int .i64 x)) (by kernel_rfl) (by kernel_rfl) (PureV.does (p_move (by kernel_rfl))) ?_
  refine oOp (.d (.int .i64 x)) (by kernel_rfl) (by kernel_rfl) (PureV.does (p_move (by kernel_rfl))) ?_
  refine oOp (.d (.bool (x != x))) (by kernel_rfl) (by kernel_rfl) (PureV.does (p_int (k := .i64) (p := x) (q := x) (by kernel_rfl) (by kernel_rfl) (by kernel_rfl))) ?_
  refine oOp (.d (.bool (x != x))) (by kernel_rfl) (by kernel_rfl) (PureV.does (p_assign (by kernel_rfl))) ?_
  refine oEnd ?_
  exact oRet (r0 := ()) (rv := .d (.bool (x != x))) (B := []) (vs := [.d (.bool (x != x))]) (σ := []) (by kernel_rfl) Try.func46 rfl (.cons _ _ _ _ (.tmp 2 _ (by kernel_rfl)) .nil) (by kernel_rfl) (by kernel_rfl) (by kernel_rfl) (by kernel_rfl) (by decide) (by kernel_rfl) (by kernel_rfl)

/-- cmp.Compare[int] -/
def cmp_Compare_int (k : Nat) (x : Int) (y : Int) : Option (Int) := Option.bind (cmp_isNaN_int k x) (u0 (Option.bind (cmp_isNaN_int k y) (u0 (bif (x != x) then bif (y != y) then some 0 else some (-1) else bif (y != y) then some 1 else bif (decide (x < y)) then some (-1) else bif (decide (x > y)) then some 1 else some 0))))
def cmp_Compare_int_E (x : Int) (y : Int) : Int → V × List Blk := fun r1 => (.d (.int .i64 r1), [])
theorem cmp_Compare_int_goes (k : Nat) (x : Int) (y : Int) : RunsO Try.prog 44 [.d (.int .i64 x), .d (.int .i64 y)] [] (cmp_Compare_int_E x y) (cmp_Compare_int k x y) := by
  refine RunsO.of_goes (N := 20) (m := 0) (T := [(0, .d (.int .i64 x)), (1, .d (.int .i64 y))]) Try.func44 rfl rfl (by kernel_rfl) (by kernel_rfl) (by kernel_rfl) ?_
  unfold cmp_Compare_int
  refine bStart ?_
  refine oSeq ?_
  refine oRegion rfl ?_
  refine oOp (.d (.int .i64 0)) (by kernel_rfl) (by kernel_rfl) (PureV.does (p_assign (by kernel_rfl))) ?_
  refine oEnd ?_
  refine oSeq ?_
  refine oRegion rfl ?_
  refine oOp (.d (.int .i64 x)) (by kernel_rfl) (by kernel_rfl) (PureV.does (p_move (by kernel_rfl))) ?_
  refine bCall (caps := []) (v := (u0 ((.d (.bool (x != x)) : V)))) (H' := (u0 (([] : List Blk)))) [] _ (cmp_isNaN_int_goes k x) (by kernel_rfl) (by kernel_rfl) rfl (by kernel_rfl) Try.func46 rfl (by kernel_rfl) (ConvRs.refl _ _) (by kernel_rfl) (by kernel_rfl) (by kernel_rfl) (by decide) (by kernel_rfl) (by kernel_rfl) (fun _ => (by kernel_rfl)) (fun _ => (by kernel_rfl)) (fun _ => (by kernel_rfl)) (fun r => ?_)
  cases r
  refine bU0 ?_
  refine oOp (.d (.bool (x != x))) (by kernel_rfl) (by kernel_rfl) (PureV.does (p_assign (by kernel_rfl))) ?_
  refine oEnd ?_
  refine oSeq ?_
  refine oRegion rfl ?_
  refine oOp (.d (.int .i64 y)) (by kernel_rfl) (by kernel_rfl) (PureV.does (p_move (by kernel_rfl))) ?_
  refine bCall (caps := []) (v := (u0 ((.d (.bool (y != y)) : V)))) (H' := (u0 (([] : List Blk)))) [] _ (cmp_isNaN_int_goes k y) (by kernel_rfl) (by kernel_rfl) rfl (by kernel_rfl) Try.func46 rfl (by kernel_rfl) (ConvRs.refl _ _) (by kernel_rfl) (by kernel_rfl) (by kernel_rfl) (by decide) (by kernel_rfl) (by kernel_rfl) (fun _ => (by kernel_rfl)) (fun _ => (by kernel_rfl)) (fun _ => (by kernel_rfl)) (fun r => ?_)
  cases r
  refine bU0 ?_
  refine oOp (.d (.bool (y != y))) (by kernel_rfl) (by kernel_rfl) (PureV.does (p_assign (by kernel_rfl))) ?_
  refine oEnd ?_
  refine oSeq ?_
  refine oSeq ?_
  refine oRegion rfl ?_
  refine oOp (.d (.bool (x != x))) (by kernel_rfl) (by kernel_rfl) (PureV.does (p_move (by kernel_rfl))) ?_
  refine oEnd ?_
  refine bSplit 11 (by kernel_rfl) (fun hc => ?_) (fun hc => ?_)
  · refine oCondT (by kernel_rfl) ?_
    refine oSeq ?_
    refine oSeq ?_
    refine oRegion rfl ?_
    refine oOp (.d (.bool (y != y))) (by kernel_rfl) (by kernel_rfl) (PureV.does (p_move (by kernel_rfl))) ?_
    refine oEnd ?_
    refine bSplit 12 (by kernel_rfl) (fun hc => ?_) (fun hc => ?_)
    · refine oCondT (by kernel_rfl) ?_
      refine oSeq ?_
      refine oRegion rfl ?_
      refine oOp (.d (.int .i64 0)) (by kernel_rfl) (by kernel_rfl) (PureV.does (p_assign (by kernel_rfl))) ?_
      refine oEnd ?_
      exact oRet (r0 := 0) (rv := .d (.int .i64 0)) (B := []) (vs := [.d (.int .i64 0)]) (σ := []) (by kernel_rfl) Try.func44 rfl (.cons _ _ _ _ (.tmp 4 _ (by kernel_rfl)) .nil) (by kernel_rfl) (by kernel_rfl) (by kernel_rfl) (by kernel_rfl) (by decide) (by kernel_rfl) (by kernel_rfl)
    · refine oCondF (by kernel_rfl) ?_
      refine oSkip ?_
      refine oSeq ?_
      refine oRegion rfl ?_
      refine oOp (.d (.int .i64 (-1))) (by kernel_rfl) (by kernel_rfl) (PureV.does (p_assign (by kernel_rfl))) ?_
      refine oEnd ?_
      exact oRet (r0 := (-1)) (rv := .d (.int .i64 (-1))) (B := []) (vs := [.d (.int .i64 (-1))]) (σ := []) (by kernel_rfl) Try.func44 rfl (.cons _ _ _ _ (.tmp 4 _ (by kernel_rfl)) .nil) (by kernel_rfl) (by kernel_rfl) (by kernel_rfl) (by kernel_rfl) (by decide) (by kernel_rfl) (by kernel_rfl)
  · refine oCondF (by kernel_rfl) ?_
    refine oSkip ?_
    refine oSeq ?_
    refine oSeq ?_
    refine oRegion rfl ?_
    refine oOp (.d (.bool (y != y))) (by kernel_rfl) (by kernel_rfl) (PureV.does (p_move (by kernel_rfl))) ?_
    refine oEnd ?_
    refine bSplit 13 (by kernel_rfl) (fun hc => ?_) (fun hc => ?_)
    · refine oCondT (by kernel_rfl) ?_
      refine oSeq ?_
      refine oRegion rfl ?_
      refine oOp (.d (.int .i64 1)) (by kernel_rfl) (by kernel_rfl) (PureV.does (p_assign (by kernel_rfl))) ?_
      refine oEnd ?_
      exact oRet (r0 := 1) (rv := .d (.int .i64 1)) (B := []) (vs := [.d (.int .i64 1)]) (σ := []) (by kernel_rfl) Try.func44 rfl (.cons _ _ _ _ (.tmp 4 _ (by kernel_rfl)) .nil) (by kernel_rfl) (by kernel_rfl) (by kernel_rfl) (by kernel_rfl) (by decide) (by kernel_rfl) (by kernel_rfl)
    · refine oCondF (by kernel_rfl) ?_
      refine oSkip ?_
      refine oSeq ?_
      refine oSeq ?_
      refine oRegion rfl ?_
      refine oOp (.d (.int .i64 x)) (by kernel_rfl) (by kernel_rfl) (PureV.does (p_move (by kernel_rfl))) ?_
      refine oOp (.d (.int .i64 y)) (by kernel_rfl) (by kernel_rfl) (PureV.does (p_move (by kernel_rfl))) ?_
      refine oOp (.d (.bool (decide (x < y)))) (by kernel_rfl) (by kernel_rfl) (PureV.does (p_int (k := .i64) (p := x) (q := y) (by kernel_rfl) (by kernel_rfl) (by kernel_rfl))) ?_
      refine oEnd ?_
      refine bSplit 16 (by kernel_rfl) (fun hc => ?_) (fun hc => ?_)
      · refine oCondT (by kernel_rfl) ?_
        refine oSeq ?_
        refine oRegion rfl ?_
        refine oOp (.d (.int .i64 (-1))) (by kernel_rfl) (by kernel_rfl) (PureV.does (p_assign (by kernel_rfl))) ?_
        refine oEnd ?_
        exact oRet (r0 := (-1)) (rv := .d (.int .i64 (-1))) (B := []) (vs := [.d (.int .i64 (-1))]) (σ := []) (by kernel_rfl) Try.func44 rfl (.cons _ _ _ _ (.tmp 4 _ (by kernel_rfl)) .nil) (by kernel_rfl) (by kernel_rfl) (by kernel_rfl) (by kernel_rfl) (by decide) (by kernel_rfl) (by kernel_rfl)
      · refine oCondF (by kernel_rfl) ?_
        refine oSkip ?_
        refine oSeq ?_
        refine oSeq ?_
        refine oRegion rfl ?_
        refine oOp (.d (.int .i64 x)) (by kernel_rfl) (by kernel_rfl) (PureV.does (p_move (by kernel_rfl))) ?_
        refine oOp (.d (.int .i64 y)) (by kernel_rfl) (by kernel_rfl) (PureV.does (p_move (by kernel_rfl))) ?_
        refine oOp (.d (.bool (decide (x > y)))) (by kernel_rfl) (by kernel_rfl) (PureV.does (p_int (k := .i64) (p := x) (q := y) (by kernel_rfl) (by kernel_rfl) (by kernel_rfl))) ?_
        refine oEnd ?_
        refine bSplit 19 (by kernel_rfl) (fun hc => ?_) (fun hc => ?_)
        · refine oCondT (by kernel_rfl) ?_
          refine oSeq ?_
          refine oRegion rfl ?_
          refine oOp (.d (.int .i64 1)) (by kernel_rfl) (by kernel_rfl) (PureV.does (p_assign (by kernel_rfl))) ?_
          refine oEnd ?_
          exact oRet (r0 := 1) (rv := .d (.int .i64 1)) (B := []) (vs := [.d (.int .i64 1)]) (σ := []) (by kernel_rfl) Try.func44 rfl (.cons _ _ _ _ (.tmp 4 _ (by kernel_rfl)) .nil) (by kernel_rfl) (by kernel_rfl) (by kernel_rfl) (by kernel_rfl) (by decide) (by kernel_rfl) (by kernel_rfl)
        · refine oCondF (by kernel_rfl) ?_
          refine oSkip ?_
          refine oSeq ?_
          refine oRegion rfl ?_
          refine oOp (.d (.int .i64 0)) (by kernel_rfl) (by kernel_rfl) (PureV.does (p_assign (by kernel_rfl))) ?_
          refine oEnd ?_
          exact oRet (r0 := 0) (rv := .d (.int .i64 0)) (B := []) (vs := [.d (.int .i64 0)]) (σ := []) (by kernel_rfl) Try.func44 rfl (.cons _ _ _ _ (.tmp 4 _ (by kernel_rfl)) .nil) (by kernel_rfl) (by kernel_rfl) (by kernel_rfl) (by kernel_rfl) (by decide) (by kernel_rfl) (by kernel_rfl)

/-- cmp.Or[int] -/
def cmp_Or_int_b1 (k : Nat) (xs : (List Int)) (again : Int → Option ((Unit) ⊕ (Int))) : Int → Option ((Unit) ⊕ (Int)) := fun x4 => bif (decide (x4 < ((List.length xs) : Int))) then gidx xs x4 fun e113 => bif (e113 != 0) then some (Sum.inr e113) else again (IntKind.wrap .i64 (x4 + 1)) else some (Sum.inl ())
def cmp_Or_int (k : Nat) (xs : (List Int)) : Option (Int) := Option.bind (gloop (cmp_Or_int_b1 k xs) k 0 : Option ((Unit) ⊕ (Int))) (Sum.elim (u0 (some 0)) (fun r => some r))
def cmp_Or_int_E (xs : (List Int)) : Int → V × List Blk := fun r1 => (.d (.int .i64 r1), [.sl 1 (List.map e_i64 xs) false])
theorem cmp_Or_int_goes (k : Nat) (xs : (List Int)) : RunsO Try.prog 43 [.ref 0 (List.length xs) 0 (List.length xs)] [.sl 1 (List.map e_i64 xs) false] (cmp_Or_int_E xs) (cmp_Or_int k xs) := by
  refine RunsO.of_goes (N := 18) (m := 1) (T := [(0, .ref 0 (List.length xs) 0 (List.length xs))]) Try.func43 rfl rfl (by kernel_rfl) (by kernel_rfl) (by kernel_rfl) ?_
  unfold cmp_Or_int
  refine bStart ?_
  refine oSeq ?_
  refine oRegion rfl ?_
  refine oOp (.d (.int .i64 0)) (by kernel_rfl) (by kernel_rfl) (PureV.does (p_assign (by kernel_rfl))) ?_
  refine oEnd ?_
  refine oSeq ?_
  refine oRegion rfl ?_
  refine oOp (.d (.int .i64 0)) (by kernel_rfl) (by kernel_rfl) (PureV.does (p_assign (by kernel_rfl))) ?_
  refine oEnd ?_
  refine oSeq ?_
  refine oSeq ?_
  refine oRegion rfl ?_
  refine oOp (.ref 0 (List.length xs) 0 (List.length xs)) (by kernel_rfl) (by kernel_rfl) (PureV.does (p_move (by kernel_rfl))) ?_
  refine oOp (.d (.int .i64 ((List.length xs) : Int))) (by kernel_rfl) (by kernel_rfl) (PureV.does (k_lenRef (enc := e_i64) (sz := 1) (fro := false) 0 xs (by kernel_rfl) (by kernel_rfl) Try.underlying22)) ?_
  refine oOp (.d (.int .i64 0)) (by kernel_rfl) (by kernel_rfl) (PureV.does (p_move (by kernel_rfl))) ?_
  refine oEnd ?_
  refine bJoin ((u0 ([(3, .d (.int .i64 0))]))) ((u0 ([.sl 1 (List.map e_i64 xs) false]))) Sum.inl (fun s => ?_) (fun hj2 => ?_)
  · cases s
    refine bInl ?_
    refine bU0 ?_
    refine oView (T' := [(3, .d (.int .i64 0))]) (H' := [.sl 1 (List.map e_i64 xs) false]) (by kernel_rfl) (by kernel_rfl) ?_
    refine oSeq ?_
    refine oRegion rfl ?_
    refine oOp (.d (.int .i64 0)) (by kernel_rfl) (by kernel_rfl) (PureV.does (p_move (by kernel_rfl))) ?_
    refine oOp (.d (.int .i64 0)) (by kernel_rfl) (by kernel_rfl) (PureV.does (p_assign (by kernel_rfl))) ?_
    refine oEnd ?_
    exact oRet (r0 := 0) (rv := .d (.int .i64 0)) (B := [.sl 1 (List.map e_i64 xs) false]) (vs := [.d (.int .i64 0)]) (σ := [0]) (by kernel_rfl) Try.func43 rfl (.cons _ _ _ _ (.tmp 2 _ (by kernel_rfl)) .nil) (by kernel_rfl) (by kernel_rfl) (by kernel_rfl) (by kernel_rfl) (by decide) (by kernel_rfl) (by kernel_rfl)
  · refine oBlock ?_
    refine oLoop ?_
    refine oHead [3, 6, 7, 8] [0] (T' := [(3, .d (.int .i64 0)), (6, .ref 0 (List.length xs) 0 (List.length xs)), (7, .d (.int .i64 ((List.length xs) : Int))), (8, .d (.int .i64 0))]) (H' := [.sl 1 (List.map e_i64 xs) false]) (by kernel_rfl) (by kernel_rfl) (by kernel_rfl) (by kernel_rfl) (by decide) (by kernel_rfl) (by kernel_rfl) ?_
    refine bLoop (body := cmp_Or_int_b1 k xs) ((fun (x4 : Int) => [(3, .d (.int .i64 0)), (6, .ref 0 (List.length xs) 0 (List.length xs)), (7, .d (.int .i64 ((List.length xs) : Int))), (8, .d (.int .i64 x4))])) ((fun (x4 : Int) => [.sl 1 (List.map e_i64 xs) false])) (fun again hag1 x4 => ?_) k 0
    · unfold cmp_Or_int_b1
      refine oView (T' := [(3, .d (.int .i64 0)), (6, .ref 0 (List.length xs) 0 (List.length xs)), (7, .d (.int .i64 ((List.length xs) : Int))), (8, .d (.int .i64 x4))]) (H' := [.sl 1 (List.map e_i64 xs) false]) (by kernel_rfl) (by kernel_rfl) ?_
      refine oSeq ?_
      refine oRegion rfl ?_
      refine oOp (.d (.bool (decide (x4 < ((List.length xs) : Int))))) (by kernel_rfl) (by kernel_rfl) (PureV.does (p_int (k := .i64) (p := x4) (q := ((List.length xs) : Int)) (by kernel_rfl) (by kernel_rfl) (by kernel_rfl))) ?_
      refine oEnd ?_
      refine oSeq ?_
      refine bSplit 9 (by kernel_rfl) (fun hc => ?_) (fun hc => ?_)
      · refine oCondT (by kernel_rfl) ?_
        refine oSkip ?_
        refine oSeq ?_
        refine oBlock ?_
        refine oSeq ?_
        refine oRegion rfl ?_
        refine bIdx (fun e113 h126 h127 => ?_)
        refine oOp (.eptr 0 (List.length xs) (Int.toNat x4) 0) (by kernel_rfl) (by kernel_rfl) (PureV.does (k_idxRef (enc := e_i64) (fro := false) xs (a := e113) (by kernel_rfl) (k := .i64) (i := x4) (by kernel_rfl) (by kernel_rfl) Try.underlying22 ty3 h126 h127)) ?_
        refine oOp (.d (.int .i64 e113)) (by kernel_rfl) (by kernel_rfl) (Quiet.does (k_loadE (enc := e_i64) (sz := 1) (fro := false) 0 0 xs (by kernel_rfl) (by kernel_rfl) Try.underlying3 (by kernel_rfl) h127 (by kernel_rfl))) ?_
        refine oOp (.d (.int .i64 e113)) (by kernel_rfl) (by kernel_rfl) (PureV.does (p_assign (by kernel_rfl))) ?_
        refine oEnd ?_
        refine oSeq ?_
        refine oRegion rfl ?_
        refine oOp (.d (.int .i64 e113)) (by kernel_rfl) (by kernel_rfl) (PureV.does (p_move (by kernel_rfl))) ?_
        refine oOp (.d (.int .i64 0)) (by kernel_rfl) (by kernel_rfl) (PureV.does (p_move (by kernel_rfl))) ?_
        refine oOp (.d (.bool (e113 != 0))) (by kernel_rfl) (by kernel_rfl) (PureV.does (p_int (k := .i64) (p := e113) (q := 0) (by kernel_rfl) (by kernel_rfl) (by kernel_rfl))) ?_
        refine oEnd ?_
        refine bSplit 14 (by kernel_rfl) (fun hc => ?_) (fun hc => ?_)
        · refine oCondT (by kernel_rfl) ?_
          refine oSeq ?_
          refine oRegion rfl ?_
          refine oOp (.d (.int .i64 e113)) (by kernel_rfl) (by kernel_rfl) (PureV.does (p_move (by kernel_rfl))) ?_
          refine oOp (.d (.int .i64 e113)) (by kernel_rfl) (by kernel_rfl) (PureV.does (p_assign (by kernel_rfl))) ?_
          refine oEnd ?_
          exact oRet (r0 := e113) (rv := .d (.int .i64 e113)) (B := [.sl 1 (List.map e_i64 xs) false]) (vs := [.d (.int .i64 e113)]) (σ := [0]) (by kernel_rfl) Try.func43 rfl (.cons _ _ _ _ (.tmp 2 _ (by kernel_rfl)) .nil) (by kernel_rfl) (by kernel_rfl) (by kernel_rfl) (by kernel_rfl) (by decide) (by kernel_rfl) (by kernel_rfl)
        · refine oCondF (by kernel_rfl) ?_
          refine oSkip ?_
          refine oBlk ?_
          refine oRegion rfl ?_
          refine oOp (.d (.int .i64 (IntKind.wrap .i64 (x4 + 1)))) (by kernel_rfl) (by kernel_rfl) (PureV.does (p_int (k := .i64) (p := x4) (q := 1) (by kernel_rfl) (by kernel_rfl) (by kernel_rfl))) ?_
          refine oOp (.d (.int .i64 (IntKind.wrap .i64 (x4 + 1)))) (by kernel_rfl) (by kernel_rfl) (PureV.does (p_move (by kernel_rfl))) ?_
          refine oEnd ?_
          refine oAgain ?_
          refine oHead [3, 6, 7, 8] [0] (T' := [(3, .d (.int .i64 0)), (6, .ref 0 (List.length xs) 0 (List.length xs)), (7, .d (.int .i64 ((List.length xs) : Int))), (8, .d (.int .i64 (IntKind.wrap .i64 (x4 + 1))))]) (H' := [.sl 1 (List.map e_i64 xs) false]) (by kernel_rfl) (by kernel_rfl) (by kernel_rfl) (by kernel_rfl) (by decide) (by kernel_rfl) (by kernel_rfl) ?_
          exact hag1 (IntKind.wrap .i64 (x4 + 1))
      · refine oCondF (by kernel_rfl) ?_
        refine oExit rfl ?_
        refine oHead [3] [0] (T' := [(3, .d (.int .i64 0))]) (H' := [.sl 1 (List.map e_i64 xs) false]) (by kernel_rfl) (by kernel_rfl) (by kernel_rfl) (by kernel_rfl) (by decide) (by kernel_rfl) (by kernel_rfl) ?_
        exact hj2 ()

/-- awardingbody/stamp.Compare -/
def stamp_Compare (k : Nat) (a0 : Int) (a1 : Int) (a2 : Int) (b0 : Int) (b1 : Int) (b2 : Int) : Option (Int) := Option.bind (cmp_Compare_int k a0 b0) (fun r113 => Option.bind (cmp_Compare_int k a1 b1) (fun r114 => Option.bind (cmp_Compare_int k a2 b2) (fun r115 => Option.bind (cmp_Or_int k ([r113, r114, r115] : List Int)) (fun r116 => some r116))))
def stamp_Compare_E (a0 : Int) (a1 : Int) (a2 : Int) (b0 : Int) (b1 : Int) (b2 : Int) : Int → V × List Blk := fun r18 => (.d (.int .i64 r18), [])
theorem stamp_Compare_goes (k : Nat) (a0 : Int) (a1 : Int) (a2 : Int) (b0 : Int) (b1 : Int) (b2 : Int) : RunsO Try.prog 39 [.agg [.d (.int .i64 a0), .d (.int .i64 a1), .d (.int .i64 a2)], .agg [.d (.int .i64 b0), .d (.int .i64 b1), .d (.int .i64 b2)]] [] (stamp_Compare_E a0 a1 a2 b0 b1 b2) (stamp_Compare k a0 a1 a2 b0 b1 b2) := by
  refine RunsO.of_goes (N := 22) (m := 0) (T := [(0, .agg [.d (.int .i64 a0), .d (.int .i64 a1), .d (.int .i64 a2)]), (1, .agg [.d (.int .i64 b0), .d (.int .i64 b1), .d (.int .i64 b2)])]) Try.func39 rfl rfl (by kernel_rfl) (by kernel_rfl) (by kernel_rfl) ?_
  unfold stamp_Compare
  refine bStart ?_
  refine oSeq ?_
  refine oRegion rfl ?_
  refine oOp (.ptr 0 0) (by kernel_rfl) (by kernel_rfl) (k_box (H' := [.box [.d (.int .i64 a0), .d (.int .i64 a1), .d (.int .i64 a2)]]) (cells := [.d (.int .i64 a0), .d (.int .i64 a1), .d (.int .i64 a2)]) (by kernel_rfl) (by kernel_rfl) (by kernel_rfl)) ?_
  refine oOp (.ptr 1 0) (by kernel_rfl) (by kernel_rfl) (k_box (H' := [.box [.d (.int .i64 a0), .d (.int .i64 a1), .d (.int .i64 a2)], .box [.d (.int .i64 b0), .d (.int .i64 b1), .d (.int .i64 b2)]]) (cells := [.d (.int .i64 b0), .d (.int .i64 b1), .d (.int .i64 b2)]) (by kernel_rfl) (by kernel_rfl) (by kernel_rfl)) ?_
  refine oOp (.d (.int .i64 0)) (by kernel_rfl) (by kernel_rfl) (PureV.does (p_assign (by kernel_rfl))) ?_
  refine oEnd ?_
  refine oSeq ?_
  refine oDraw [0, 1] rfl ?_
  refine aTakeL (i := 0) (st' := []) (.ptr 0 0) rfl (by kernel_rfl) (by kernel_rfl) (by kernel_rfl) (by kernel_rfl) (by kernel_rfl) (by kernel_rfl) (by kernel_rfl) (PureV.quiet (k_fieldAddr 0 0 (by kernel_rfl) Try.underlying36 rfl ty3 (by kernel_rfl)) []) ?_
  refine aTakeL (i := 1) (st' := [0]) (.d (.int .i64 a0)) rfl (by kernel_rfl) (by kernel_rfl) (by kernel_rfl) (by kernel_rfl) (by kernel_rfl) (by kernel_rfl) (by kernel_rfl) (k_load 0 0 (by kernel_rfl) Try.underlying3 (by kernel_rfl) (by kernel_rfl)) ?_
  refine aTakeL (i := 2) (st' := []) (.ptr 1 0) rfl (by kernel_rfl) (by kernel_rfl) (by kernel_rfl) (by kernel_rfl) (by kernel_rfl) (by kernel_rfl) (by kernel_rfl) (PureV.quiet (k_fieldAddr 1 0 (by kernel_rfl) Try.underlying36 rfl ty3 (by kernel_rfl)) []) ?_
  refine aTakeL (i := 3) (st' := [1]) (.d (.int .i64 b0)) rfl (by kernel_rfl) (by kernel_rfl) (by kernel_rfl) (by kernel_rfl) (by kernel_rfl) (by kernel_rfl) (by kernel_rfl) (k_load 1 0 (by kernel_rfl) Try.underlying3 (by kernel_rfl) (by kernel_rfl)) ?_
  refine aTakeL (i := 5) (st' := []) (.ptr 0 1) rfl (by kernel_rfl) (by kernel_rfl) (by kernel_rfl) (by kernel_rfl) (by kernel_rfl) (by kernel_rfl) (by kernel_rfl) (PureV.quiet (k_fieldAddr 0 0 (by kernel_rfl) Try.underlying36 rfl ty3 (by kernel_rfl)) []) ?_
  refine aTakeL (i := 6) (st' := [0]) (.d (.int .i64 a1)) rfl (by kernel_rfl) (by kernel_rfl) (by kernel_rfl) (by kernel_rfl) (by kernel_rfl) (by kernel_rfl) (by kernel_rfl) (k_load 0 1 (by kernel_rfl) Try.underlying3 (by kernel_rfl) (by kernel_rfl)) ?_
  refine aTakeL (i := 7) (st' := []) (.ptr 1 1) rfl (by kernel_rfl) (by kernel_rfl) (by kernel_rfl) (by kernel_rfl) (by kernel_rfl) (by kernel_rfl) (by kernel_rfl) (PureV.quiet (k_fieldAddr 1 0 (by kernel_rfl) Try.underlying36 rfl ty3 (by kernel_rfl)) []) ?_
  refine aTakeL (i := 8) (st' := [1]) (.d (.int .i64 b1)) rfl (by kernel_rfl) (by kernel_rfl) (by kernel_rfl) (by kernel_rfl) (by kernel_rfl) (by kernel_rfl) (by kernel_rfl) (k_load 1 1 (by kernel_rfl) Try.underlying3 (by kernel_rfl) (by kernel_rfl)) ?_
  refine aTakeL (i := 10) (st' := []) (.ptr 0 2) rfl (by kernel_rfl) (by kernel_rfl) (by kernel_rfl) (by kernel_rfl) (by kernel_rfl) (by kernel_rfl) (by kernel_rfl) (PureV.quiet (k_fieldAddr 0 0 (by kernel_rfl) Try.underlying36 rfl ty3 (by kernel_rfl)) []) ?_
  refine aTakeL (i := 11) (st' := [0]) (.d (.int .i64 a2)) rfl (by kernel_rfl) (by kernel_rfl) (by kernel_rfl) (by kernel_rfl) (by kernel_rfl) (by kernel_rfl) (by kernel_rfl) (k_load 0 2 (by kernel_rfl) Try.underlying3 (by kernel_rfl) (by kernel_rfl)) ?_
  refine aTakeL (i := 12) (st' := []) (.ptr 1 2) rfl (by kernel_rfl) (by kernel_rfl) (by kernel_rfl) (by kernel_rfl) (by kernel_rfl) (by kernel_rfl) (by kernel_rfl) (PureV.quiet (k_fieldAddr 1 0 (by kernel_rfl) Try.underlying36 rfl ty3 (by kernel_rfl)) []) ?_
  refine aTakeL (i := 13) (st' := [1]) (.d (.int .i64 b2)) rfl (by kernel_rfl) (by kernel_rfl) (by kernel_rfl) (by kernel_rfl) (by kernel_rfl) (by kernel_rfl) (by kernel_rfl) (k_load 1 2 (by kernel_rfl) Try.underlying3 (by kernel_rfl) (by kernel_rfl)) ?_
  refine dCall (i := 4) (caps := []) (v := (fun (r113 : Int) => (.d (.int .i64 r113) : V))) (H' := (fun (r113 : Int) => ([.box [.d (.int .i64 a0), .d (.int .i64 a1), .d (.int .i64 a2)], .box [.d (.int .i64 b0), .d (.int .i64 b1), .d (.int .i64 b2)]] : List Blk))) [] _ (cmp_Compare_int_goes k a0 b0) rfl (by kernel_rfl) (by kernel_rfl) (by kernel_rfl) (by kernel_rfl) (by kernel_rfl) (by kernel_rfl) (by kernel_rfl) (by kernel_rfl) rfl (by kernel_rfl) Try.func44 rfl (by kernel_rfl) (ConvRs.refl _ _) (by kernel_rfl) (by kernel_rfl) (by kernel_rfl) (by decide) (by kernel_rfl) (by kernel_rfl) (fun _ => (by kernel_rfl)) (fun _ => (by kernel_rfl)) (fun _ => (by kernel_rfl)) (fun r113 => ?_)
  refine dCall (i := 9) (caps := []) (v := (fun (r114 : Int) => (.d (.int .i64 r114) : V))) (H' := (fun (r114 : Int) => ([.box [.d (.int .i64 a0), .d (.int .i64 a1), .d (.int .i64 a2)], .box [.d (.int .i64 b0), .d (.int .i64 b1), .d (.int .i64 b2)]] : List Blk))) [] _ (cmp_Compare_int_goes k a1 b1) rfl (by kernel_rfl) (by kernel_rfl) (by kernel_rfl) (by kernel_rfl) (by kernel_rfl) (by kernel_rfl) (by kernel_rfl) (by kernel_rfl) rfl (by kernel_rfl) Try.func44 rfl (by kernel_rfl) (ConvRs.refl _ _) (by kernel_rfl) (by kernel_rfl) (by kernel_rfl) (by decide) (by kernel_rfl) (by kernel_rfl) (fun _ => (by kernel_rfl)) (fun _ => (by kernel_rfl)) (fun _ => (by kernel_rfl)) (fun r114 => ?_)
  refine dCall (i := 14) (caps := []) (v := (fun (r115 : Int) => (.d (.int .i64 r115) : V))) (H' := (fun (r115 : Int) => ([.box [.d (.int .i64 a0), .d (.int .i64 a1), .d (.int .i64 a2)], .box [.d (.int .i64 b0), .d (.int .i64 b1), .d (.int .i64 b2)]] : List Blk))) [] _ (cmp_Compare_int_goes k a2 b2) rfl (by kernel_rfl) (by kernel_rfl) (by kernel_rfl) (by kernel_rfl) (by kernel_rfl) (by kernel_rfl) (by kernel_rfl) (by kernel_rfl) rfl (by kernel_rfl) Try.func44 rfl (by kernel_rfl) (ConvRs.refl _ _) (by kernel_rfl) (by kernel_rfl) (by kernel_rfl) (by decide) (by kernel_rfl) (by kernel_rfl) (fun _ => (by kernel_rfl)) (fun _ => (by kernel_rfl)) (fun _ => (by kernel_rfl)) (fun r115 => ?_)
  refine aOne (i := 15) (v := .ref 2 (List.length ([r113, r114, r115] : List Int)) 0 (List.length ([r113, r114, r115] : List Int))) rfl (by kernel_rfl) (by kernel_rfl) (by kernel_rfl) (by kernel_rfl) (by kernel_rfl) (by kernel_rfl) (by kernel_rfl) (Does.acts (k_buildSlice (H' := [.box [.d (.int .i64 a0), .d (.int .i64 a1), .d (.int .i64 a2)], .box [.d (.int .i64 b0), .d (.int .i64 b1), .d (.int .i64 b2)], .sl 1 (List.map e_i64 ([r113, r114, r115] : List Int)) false]) (List.map e_i64 ([r113, r114, r115] : List Int)) Try.underlying22 ty3 (by kernel_rfl) (by kernel_rfl) (by kernel_rfl))) (by kernel_rfl) ?_
  refine dCall (i := 16) (caps := []) (v := (fun (r116 : Int) => (.d (.int .i64 r116) : V))) (H' := (fun (r116 : Int) => ([.box [.d (.int .i64 a0), .d (.int .i64 a1), .d (.int .i64 a2)], .box [.d (.int .i64 b0), .d (.int .i64 b1), .d (.int .i64 b2)], .sl 1 (List.map e_i64 ([r113, r114, r115] : List Int)) false] : List Blk))) [2] _ (cmp_Or_int_goes k ([r113, r114, r115] : List Int)) rfl (by kernel_rfl) (by kernel_rfl) (by kernel_rfl) (by kernel_rfl) (by kernel_rfl) (by kernel_rfl) (by kernel_rfl) (by kernel_rfl) rfl (by kernel_rfl) Try.func43 rfl (by kernel_rfl) (ConvRs.refl _ _) (by kernel_rfl) (by kernel_rfl) (by kernel_rfl) (by decide) (by kernel_rfl) (by kernel_rfl) (fun _ => (by kernel_rfl)) (fun _ => (by kernel_rfl)) (fun _ => (by kernel_rfl)) (fun r116 => ?_)
  refine aTakeL (i := 17) (st' := []) (.d (.int .i64 r116)) rfl (by kernel_rfl) (by kernel_rfl) (by kernel_rfl) (by kernel_rfl) (by kernel_rfl) (by kernel_rfl) (by kernel_rfl) (PureV.quiet (p_assign (by kernel_rfl)) []) ?_
  refine aDone (by kernel_rfl) ?_
  exact oRet (r0 := r116) (rv := .d (.int .i64 r116)) (B := []) (vs := [.d (.int .i64 r116)]) (σ := []) (by kernel_rfl) Try.func39 rfl (.cons _ _ _ _ (.tmp 4 _ (by kernel_rfl)) .nil) (by kernel_rfl) (by kernel_rfl) (by kernel_rfl) (by kernel_rfl) (by decide) (by kernel_rfl) (by kernel_rfl)

/-- awardingbody/arbitration.senior -/
def arbitration_senior_b1 (k : Nat) (l : (List SGiven)) (again : Bool × Int × Int × Int × Int × Int × Int × Int × Int × Int → Option (Bool × Int × Int × Int × Int × Int × Int × Int × Int)) : Bool × Int × Int × Int × Int × Int × Int × Int × Int × Int → Option (Bool × Int × Int × Int × Int × Int × Int × Int × Int) := uc fun x111 => uc fun x112 => uc fun x113 => uc fun x114 => uc fun x115 => uc fun x116 => uc fun x117 => uc fun x118 => uc fun x119 => fun x120 => bif (decide (x112 < ((List.length l) : Int))) then Option.bind (gidx l x112 fun e17 => bif (decide (e17.Level < 2)) then some (x111, x113, x114, x115, x116, x117, x118, x119, x120) else blet ((!x111) || (decide (e17.Level > x116))) fun x157 => Option.bind (bif x157 then some true else Option.bind (bif (e17.Level == x116) then Option.bind (stamp_Compare k e17.Stamp_Time e17.Stamp_Source e17.Stamp_Seq x118 x119 x120) (fun r186 => some (true, (decide (r186 ≥ 0)))) else some (false, false) : Option (Bool × Bool)) (uc fun x161 => fun x162 => some x162) : Option (Bool)) (fun x160 => bif x160 then some (true, e17.Script, e17.Part, e17.Marker, e17.Level, e17.Value, e17.Stamp_Time, e17.Stamp_Source, e17.Stamp_Seq) else some (x111, x113, x114, x115, x116, x117, x118, x119, x120)) : Option (Bool × Int × Int × Int × Int × Int × Int × Int × Int)) (uc fun x148 => uc fun x149 => uc fun x150 => uc fun x151 => uc fun x152 => uc fun x153 => uc fun x154 => uc fun x155 => fun x156 => again (x148, (IntKind.wrap .i64 (x112 + 1)), x149, x150, x151, x152, x153, x154, x155, x156)) else some (x111, x113, x114, x115, x116, x117, x118, x119, x120)
def arbitration_senior (k : Nat) (l : (List SGiven)) : Option (Int × Int × Int × Int × Int × Int × Int × Int × Bool) := Option.bind (gloop (arbitration_senior_b1 k l) k (false, 0, 0, 0, 0, 0, 0, 0, 0, 0) : Option (Bool × Int × Int × Int × Int × Int × Int × Int × Int)) (uc fun x93 => uc fun x94 => uc fun x95 => uc fun x96 => uc fun x97 => uc fun x98 => uc fun x99 => uc fun x100 => fun x101 => some (x94, x95, x96, x97, x98, x99, x100, x101, x93))
def arbitration_senior_E (l : (List SGiven)) : Int × Int × Int × Int × Int × Int × Int × Int × Bool → V × List Blk := uc fun r1 => uc fun r11 => uc fun r12 => uc fun r13 => uc fun r14 => uc fun r15 => uc fun r16 => uc fun r17 => fun r19 => (.tuple [.agg [.d (.int .i64 r1), .d (.int .i64 r11), .d (.int .i64 r12), .d (.int .i64 r13), .d (.int .i64 r14), .d (.int .i64 r15), .d (.int .i64 r16), .d (.int .i64 r17)], .d (.bool r19)], [])
theorem arbitration_senior_goes (k : Nat) (l : (List SGiven)) : RunsO Try.prog 28 [.d (.lit (List.map e_SGiven l))] [] (arbitration_senior_E l) (arbitration_senior k l) := by
  refine RunsO.of_goes (N := 45) (m := 0) (T := [(0, .d (.lit (List.map e_SGiven l)))]) Try.func28 rfl rfl (by kernel_rfl) (by kernel_rfl) (by kernel_rfl) ?_
  unfold arbitration_senior
  refine bStart ?_
  refine oSeq ?_
  refine oRegion rfl ?_
  refine oOp (.ptr 0 0) (by kernel_rfl) (by kernel_rfl) (k_alloc (H' := [.box [.d (.int .i64 0), .d (.int .i64 0), .d (.int .i64 0), .d (.int .i64 0), .d (.int .i64 0), .d (.int .i64 0), .d (.int .i64 0), .d (.int .i64 0)]]) ty38 (by kernel_rfl) (by kernel_rfl)) ?_
  refine oOp (.d (.bool false)) (by kernel_rfl) (by kernel_rfl) (PureV.does (p_assign (by kernel_rfl))) ?_
  refine oEnd ?_
  refine oSeq ?_
  refine oRegion rfl ?_
  refine oOp (.ptr 1 0) (by kernel_rfl) (by kernel_rfl) (k_alloc (H' := [.box [.d (.int .i64 0), .d (.int .i64 0), .d (.int .i64 0), .d (.int .i64 0), .d (.int .i64 0), .d (.int .i64 0), .d (.int .i64 0), .d (.int .i64 0)], .box [.d (.int .i64 0), .d (.int .i64 0), .d (.int .i64 0), .d (.int .i64 0), .d (.int .i64 0), .d (.int .i64 0), .d (.int .i64 0), .d (.int .i64 0)]]) ty38 (by kernel_rfl) (by kernel_rfl)) ?_
  refine oEnd ?_
  refine oSeq ?_
  refine oRegion rfl ?_
  refine oOp (.d (.bool false)) (by kernel_rfl) (by kernel_rfl) (PureV.does (p_assign (by kernel_rfl))) ?_
  refine oEnd ?_
  refine oSeq ?_
  refine oSeq ?_
  refine oRegion rfl ?_
  refine oOp (.d (.lit (List.map e_SGiven l))) (by kernel_rfl) (by kernel_rfl) (PureV.does (p_move (by kernel_rfl))) ?_
  refine oOp (.d (.int .i64 ((List.length l) : Int))) (by kernel_rfl) (by kernel_rfl) (PureV.does (k_lenLit (enc := e_SGiven) l (by kernel_rfl) Try.underlying30)) ?_
  refine oOp (.d (.int .i64 0)) (by kernel_rfl) (by kernel_rfl) (PureV.does (p_move (by kernel_rfl))) ?_
  refine oEnd ?_
  refine bJoin ((uc fun (x93 : Bool) => (uc fun (x94 : Int) => (uc fun (x95 : Int) => (uc fun (x96 : Int) => (uc fun (x97 : Int) => (uc fun (x98 : Int) => (uc fun (x99 : Int) => (uc fun (x100 : Int) => (fun (x101 : Int) => [(2, .ptr 0 0), (4, .ptr 1 0), (5, .d (.bool x93))])))))))))) ((uc fun (x93 : Bool) => (uc fun (x94 : Int) => (uc fun (x95 : Int) => (uc fun (x96 : Int) => (uc fun (x97 : Int) => (uc fun (x98 : Int) => (uc fun (x99 : Int) => (uc fun (x100 : Int) => (fun (x101 : Int) => [.box [.d (.int .i64 0), .d (.int .i64 0), .d (.int .i64 0), .d (.int .i64 0), .d (.int .i64 0), .d (.int .i64 0), .d (.int .i64 0), .d (.int .i64 0)], .box [.d (.int .i64 x94), .d (.int .i64 x95), .d (.int .i64 x96), .d (.int .i64 x97), .d (.int .i64 x98), .d (.int .i64 x99), .d (.int .i64 x100), .d (.int .i64 x101)]])))))))))) (fun s => s) (fun s => ?_) (fun hj6 => ?_)
  · obtain ⟨x93, x94, x95, x96, x97, x98, x99, x100, x101⟩ := s
    refine bUc ?_
    refine bUc ?_
    refine bUc ?_
    refine bUc ?_
    refine bUc ?_
    refine bUc ?_
    refine bUc ?_
    refine bUc ?_
    refine oView (T' := [(2, .ptr 0 0), (4, .ptr 1 0), (5, .d (.bool x93))]) (H' := [.box [.d (.int .i64 0), .d (.int .i64 0), .d (.int .i64 0), .d (.int .i64 0), .d (.int .i64 0), .d (.int .i64 0), .d (.int .i64 0), .d (.int .i64 0)], .box [.d (.int .i64 x94), .d (.int .i64 x95), .d (.int .i64 x96), .d (.int .i64 x97), .d (.int .i64 x98), .d (.int .i64 x99), .d (.int .i64 x100), .d (.int .i64 x101)]]) (by kernel_rfl) (by kernel_rfl) ?_
    refine oSeq ?_
    refine oRegion rfl ?_
    refine oOp (.agg [.d (.int .i64 x94), .d (.int .i64 x95), .d (.int .i64 x96), .d (.int .i64 x97), .d (.int .i64 x98), .d (.int .i64 x99), .d (.int .i64 x100), .d (.int .i64 x101)]) (by kernel_rfl) (by kernel_rfl) (Quiet.does (k_loadAgg 1 0 (by kernel_rfl) Try.underlying38 (by kernel_rfl) ty38 (by kernel_rfl))) ?_
    refine oOp (.d (.bool x93)) (by kernel_rfl) (by kernel_rfl) (PureV.does (p_move (by kernel_rfl))) ?_
    refine oOp (.undef) (by kernel_rfl) (by kernel_rfl) (k_store (vs := [.d (.int .i64 x94), .d (.int .i64 x95), .d (.int .i64 x96), .d (.int .i64 x97), .d (.int .i64 x98), .d (.int .i64 x99), .d (.int .i64 x100), .d (.int .i64 x101)]) (H' := [.box [.d (.int .i64 x94), .d (.int .i64 x95), .d (.int .i64 x96), .d (.int .i64 x97), .d (.int .i64 x98), .d (.int .i64 x99), .d (.int .i64 x100), .d (.int .i64 x101)], .box [.d (.int .i64 x94), .d (.int .i64 x95), .d (.int .i64 x96), .d (.int .i64 x97), .d (.int .i64 x98), .d (.int .i64 x99), .d (.int .i64 x100), .d (.int .i64 x101)]]) 0 0 (by kernel_rfl) ty38 (by kernel_rfl) (by kernel_rfl) (by kernel_rfl)) ?_
    refine oOp (.d (.bool x93)) (by kernel_rfl) (by kernel_rfl) (PureV.does (p_assign (by kernel_rfl))) ?_
    refine oEnd ?_
    exact oRet (r0 := (x94, x95, x96, x97, x98, x99, x100, x101, x93)) (rv := .tuple [.agg [.d (.int .i64 x94), .d (.int .i64 x95), .d (.int .i64 x96), .d (.int .i64 x97), .d (.int .i64 x98), .d (.int .i64 x99), .d (.int .i64 x100), .d (.int .i64 x101)], .d (.bool x93)]) (B := []) (vs := [.agg [.d (.int .i64 x94), .d (.int .i64 x95), .d (.int .i64 x96), .d (.int .i64 x97), .d (.int .i64 x98), .d (.int .i64 x99), .d (.int .i64 x100), .d (.int .i64 x101)], .d (.bool x93)]) (σ := []) (by kernel_rfl) Try.func28 rfl (.cons _ _ _ _ (.agg 2 38 0 0 [.d (.int .i64 x94), .d (.int .i64 x95), .d (.int .i64 x96), .d (.int .i64 x97), .d (.int .i64 x98), .d (.int .i64 x99), .d (.int .i64 x100), .d (.int .i64 x101)] [.d (.int .i64 x94), .d (.int .i64 x95), .d (.int .i64 x96), .d (.int .i64 x97), .d (.int .i64 x98), .d (.int .i64 x99), .d (.int .i64 x100), .d (.int .i64 x101)] _ _ _ _ (by kernel_rfl) (by kernel_rfl) Try.underlying38 (by kernel_rfl) ty38 (by kernel_rfl) (by kernel_rfl)) (.cons _ _ _ _ (.tmp 3 _ (by kernel_rfl)) .nil)) (by kernel_rfl) (by kernel_rfl) (by kernel_rfl) (by kernel_rfl) (by decide) (by kernel_rfl) (by kernel_rfl)
  · refine oBlock ?_
    refine oLoop ?_
    refine oHead [2, 4, 5, 8, 9, 10] [0, 1] (T' := [(2, .ptr 0 0), (4, .ptr 1 0), (5, .d (.bool false)), (8, .d (.lit (List.map e_SGiven l))), (9, .d (.int .i64 ((List.length l) : Int))), (10, .d (.int .i64 0))]) (H' := [.box [.d (.int .i64 0), .d (.int .i64 0), .d (.int .i64 0), .d (.int .i64 0), .d (.int .i64 0), .d (.int .i64 0), .d (.int .i64 0), .d (.int .i64 0)], .box [.d (.int .i64 0), .d (.int .i64 0), .d (.int .i64 0), .d (.int .i64 0), .d (.int .i64 0), .d (.int .i64 0), .d (.int .i64 0), .d (.int .i64 0)]]) (by kernel_rfl) (by kernel_rfl) (by kernel_rfl) (by kernel_rfl) (by decide) (by kernel_rfl) (by kernel_rfl) ?_
    refine bLoop (body := arbitration_senior_b1 k l) ((uc fun (x111 : Bool) => (uc fun (x112 : Int) => (uc fun (x113 : Int) => (uc fun (x114 : Int) => (uc fun (x115 : Int) => (uc fun (x116 : Int) => (uc fun (x117 : Int) => (uc fun (x118 : Int) => (uc fun (x119 : Int) => (fun (x120 : Int) => [(2, .ptr 0 0), (4, .ptr 1 0), (5, .d (.bool x111)), (8, .d (.lit (List.map e_SGiven l))), (9, .d (.int .i64 ((List.length l) : Int))), (10, .d (.int .i64 x112))]))))))))))) ((uc fun (x111 : Bool) => (uc fun (x112 : Int) => (uc fun (x113 : Int) => (uc fun (x114 : Int) => (uc fun (x115 : Int) => (uc fun (x116 : Int) => (uc fun (x117 : Int) => (uc fun (x118 : Int) => (uc fun (x119 : Int) => (fun (x120 : Int) => [.box [.d (.int .i64 0), .d (.int .i64 0), .d (.int .i64 0), .d (.int .i64 0), .d (.int .i64 0), .d (.int .i64 0), .d (.int .i64 0), .d (.int .i64 0)], .box [.d (.int .i64 x113), .d (.int .i64 x114), .d (.int .i64 x115), .d (.int .i64 x116), .d (.int .i64 x117), .d (.int .i64 x118), .d (.int .i64 x119), .d (.int .i64 x120)]]))))))))))) (fun again hag1 s => ?_) k (false, 0, 0, 0, 0, 0, 0, 0, 0, 0)
    · unfold arbitration_senior_b1
      obtain ⟨x111, x112, x113, x114, x115, x116, x117, x118, x119, x120⟩ := s
      refine bUc ?_
      refine bUc ?_
      refine bUc ?_
      refine bUc ?_
      refine bUc ?_
      refine bUc ?_
      refine bUc ?_
      refine bUc ?_
      refine bUc ?_
      refine oView (T' := [(2, .ptr 0 0), (4, .ptr 1 0), (5, .d (.bool x111)), (8, .d (.lit (List.map e_SGiven l))), (9, .d (.int .i64 ((List.length l) : Int))), (10, .d (.int .i64 x112))]) (H' := [.box [.d (.int .i64 0), .d (.int .i64 0), .d (.int .i64 0), .d (.int .i64 0), .d (.int .i64 0), .d (.int .i64 0), .d (.int .i64 0), .d (.int .i64 0)], .box [.d (.int .i64 x113), .d (.int .i64 x114), .d (.int .i64 x115), .d (.int .i64 x116), .d (.int .i64 x117), .d (.int .i64 x118), .d (.int .i64 x119), .d (.int .i64 x120)]]) (by kernel_rfl) (by kernel_rfl) ?_
      refine oSeq ?_
      refine oRegion rfl ?_
      refine oOp (.d (.bool (decide (x112 < ((List.length l) : Int))))) (by kernel_rfl) (by kernel_rfl) (PureV.does (p_int (k := .i64) (p := x112) (q := ((List.length l) : Int)) (by kernel_rfl) (by kernel_rfl) (by kernel_rfl))) ?_
      refine oEnd ?_
      refine oSeq ?_
      refine bSplit 11 (by kernel_rfl) (fun hc => ?_) (fun hc => ?_)
      · refine oCondT (by kernel_rfl) ?_
        refine oSkip ?_
        refine oSeq ?_
        refine bJoin ((uc fun (x148 : Bool) => (uc fun (x149 : Int) => (uc fun (x150 : Int) => (uc fun (x151 : Int) => (uc fun (x152 : Int) => (uc fun (x153 : Int) => (uc fun (x154 : Int) => (uc fun (x155 : Int) => (fun (x156 : Int) => [(2, .ptr 0 0), (4, .ptr 1 0), (5, .d (.bool x148)), (8, .d (.lit (List.map e_SGiven l))), (9, .d (.int .i64 ((List.length l) : Int))), (10, .d (.int .i64 x112))])))))))))) ((uc fun (x148 : Bool) => (uc fun (x149 : Int) => (uc fun (x150 : Int) => (uc fun (x151 : Int) => (uc fun (x152 : Int) => (uc fun (x153 : Int) => (uc fun (x154 : Int) => (uc fun (x155 : Int) => (fun (x156 : Int) => [.box [.d (.int .i64 0), .d (.int .i64 0), .d (.int .i64 0), .d (.int .i64 0), .d (.int .i64 0), .d (.int .i64 0), .d (.int .i64 0), .d (.int .i64 0)], .box [.d (.int .i64 x149), .d (.int .i64 x150), .d (.int .i64 x151), .d (.int .i64 x152), .d (.int .i64 x153), .d (.int .i64 x154), .d (.int .i64 x155), .d (.int .i64 x156)]])))))))))) (fun s => s) (fun s => ?_) (fun hj9 => ?_)
        · obtain ⟨x148, x149, x150, x151, x152, x153, x154, x155, x156⟩ := s
          refine bUc ?_
          refine bUc ?_
          refine bUc ?_
          refine bUc ?_
          refine bUc ?_
          refine bUc ?_
          refine bUc ?_
          refine bUc ?_
          refine oView (T' := [(2, .ptr 0 0), (4, .ptr 1 0), (5, .d (.bool x148)), (8, .d (.lit (List.map e_SGiven l))), (9, .d (.int .i64 ((List.length l) : Int))), (10, .d (.int .i64 x112))]) (H' := [.box [.d (.int .i64 0), .d (.int .i64 0), .d (.int .i64 0), .d (.int .i64 0), .d (.int .i64 0), .d (.int .i64 0), .d (.int .i64 0), .d (.int .i64 0)], .box [.d (.int .i64 x149), .d (.int .i64 x150), .d (.int .i64 x151), .d (.int .i64 x152), .d (.int .i64 x153), .d (.int .i64 x154), .d (.int .i64 x155), .d (.int .i64 x156)]]) (by kernel_rfl) (by kernel_rfl) ?_
          refine oRegion rfl ?_
          refine oOp (.d (.int .i64 (IntKind.wrap .i64 (x112 + 1)))) (by kernel_rfl) (by kernel_rfl) (PureV.does (p_int (k := .i64) (p := x112) (q := 1) (by kernel_rfl) (by kernel_rfl) (by kernel_rfl))) ?_
          refine oOp (.d (.int .i64 (IntKind.wrap .i64 (x112 + 1)))) (by kernel_rfl) (by kernel_rfl) (PureV.does (p_move (by kernel_rfl))) ?_
          refine oEnd ?_
          refine oAgain ?_
          refine oHead [2, 4, 5, 8, 9, 10] [0, 1] (T' := [(2, .ptr 0 0), (4, .ptr 1 0), (5, .d (.bool x148)), (8, .d (.lit (List.map e_SGiven l))), (9, .d (.int .i64 ((List.length l) : Int))), (10, .d (.int .i64 (IntKind.wrap .i64 (x112 + 1))))]) (H' := [.box [.d (.int .i64 0), .d (.int .i64 0), .d (.int .i64 0), .d (.int .i64 0), .d (.int .i64 0), .d (.int .i64 0), .d (.int .i64 0), .d (.int .i64 0)], .box [.d (.int .i64 x149), .d (.int .i64 x150), .d (.int .i64 x151), .d (.int .i64 x152), .d (.int .i64 x153), .d (.int .i64 x154), .d (.int .i64 x155), .d (.int .i64 x156)]]) (by kernel_rfl) (by kernel_rfl) (by kernel_rfl) (by kernel_rfl) (by decide) (by kernel_rfl) (by kernel_rfl) ?_
          exact hag1 (x148, (IntKind.wrap .i64 (x112 + 1)), x149, x150, x151, x152, x153, x154, x155, x156)
        · refine oBlock ?_
          refine oSeq ?_
          refine oRegion rfl ?_
          refine bIdx (fun e17 h114 h115 => ?_)
          refine oOp (.lptr (e_SGiven e17) 0) (by kernel_rfl) (by kernel_rfl) (PureV.does (k_idxLit e_SGiven_len l (a := e17) (by kernel_rfl) (k := .i64) (i := x112) (by kernel_rfl) Try.underlying30 ty38 h114 h115)) ?_
          refine oOp (.agg [.d (.int .i64 e17.Script), .d (.int .i64 e17.Part), .d (.int .i64 e17.Marker), .d (.int .i64 e17.Level), .d (.int .i64 e17.Value), .d (.int .i64 e17.Stamp_Time), .d (.int .i64 e17.Stamp_Source), .d (.int .i64 e17.Stamp_Seq)]) (by kernel_rfl) (by kernel_rfl) (Quiet.does (k_loadLAgg (cells := e_SGiven e17) 0 [(.int .i64 e17.Script), (.int .i64 e17.Part), (.int .i64 e17.Marker), (.int .i64 e17.Level), (.int .i64 e17.Value), (.int .i64 e17.Stamp_Time), (.int .i64 e17.Stamp_Source), (.int .i64 e17.Stamp_Seq)] (by kernel_rfl) Try.underlying38 (by kernel_rfl) ty38 (by kernel_rfl) (by kernel_rfl) (by kernel_rfl))) ?_
          refine oOp (.ptr 2 0) (by kernel_rfl) (by kernel_rfl) (k_alloc (H' := [.box [.d (.int .i64 0), .d (.int .i64 0), .d (.int .i64 0), .d (.int .i64 0), .d (.int .i64 0), .d (.int .i64 0), .d (.int .i64 0), .d (.int .i64 0)], .box [.d (.int .i64 x113), .d (.int .i64 x114), .d (.int .i64 x115), .d (.int .i64 x116), .d (.int .i64 x117), .d (.int .i64 x118), .d (.int .i64 x119), .d (.int .i64 x120)], .box [.d (.int .i64 0), .d (.int .i64 0), .d (.int .i64 0), .d (.int .i64 0), .d (.int .i64 0), .d (.int .i64 0), .d (.int .i64 0), .d (.int .i64 0)]]) ty38 (by kernel_rfl) (by kernel_rfl)) ?_
          refine oOp (.undef) (by kernel_rfl) (by kernel_rfl) (k_store (vs := [.d (.int .i64 e17.Script), .d (.int .i64 e17.Part), .d (.int .i64 e17.Marker), .d (.int .i64 e17.Level), .d (.int .i64 e17.Value), .d (.int .i64 e17.Stamp_Time), .d (.int .i64 e17.Stamp_Source), .d (.int .i64 e17.Stamp_Seq)]) (H' := [.box [.d (.int .i64 0), .d (.int .i64 0), .d (.int .i64 0), .d (.int .i64 0), .d (.int .i64 0), .d (.int .i64 0), .d (.int .i64 0), .d (.int .i64 0)], .box [.d (.int .i64 x113), .d (.int .i64 x114), .d (.int .i64 x115), .d (.int .i64 x116), .d (.int .i64 x117), .d (.int .i64 x118), .d (.int .i64 x119), .d (.int .i64 x120)], .box [.d (.int .i64 e17.Script), .d (.int .i64 e17.Part), .d (.int .i64 e17.Marker), .d (.int .i64 e17.Level), .d (.int .i64 e17.Value), .d (.int .i64 e17.Stamp_Time), .d (.int .i64 e17.Stamp_Source), .d (.int .i64 e17.Stamp_Seq)]]) 2 0 (by kernel_rfl) ty38 (by kernel_rfl) (by kernel_rfl) (by kernel_rfl)) ?_
          refine oEnd ?_
          refine oSeq ?_
          refine oSeq ?_
          refine oRegion rfl ?_
          refine oOp (.ptr 2 3) (by kernel_rfl) (by kernel_rfl) (PureV.does (k_fieldAddr 2 0 (by kernel_rfl) Try.underlying38 rfl ty3 (by kernel_rfl))) ?_
          refine oOp (.d (.int .i64 e17.Level)) (by kernel_rfl) (by kernel_rfl) (Quiet.does (k_load 2 3 (by kernel_rfl) Try.underlying3 (by kernel_rfl) (by kernel_rfl))) ?_
          refine oOp (.d (.bool (decide (e17.Level < 2)))) (by kernel_rfl) (by kernel_rfl) (PureV.does (p_int (k := .i64) (p := e17.Level) (q := 2) (by kernel_rfl) (by kernel_rfl) (by kernel_rfl))) ?_
          refine oEnd ?_
          refine bSplit 16 (by kernel_rfl) (fun hc => ?_) (fun hc => ?_)
          · refine oCondT (by kernel_rfl) ?_
            refine oExit rfl ?_
            refine oHead [2, 4, 5, 8, 9, 10] [0, 1] (T' := [(2, .ptr 0 0), (4, .ptr 1 0), (5, .d (.bool x111)), (8, .d (.lit (List.map e_SGiven l))), (9, .d (.int .i64 ((List.length l) : Int))), (10, .d (.int .i64 x112))]) (H' := [.box [.d (.int .i64 0), .d (.int .i64 0), .d (.int .i64 0), .d (.int .i64 0), .d (.int .i64 0), .d (.int .i64 0), .d (.int .i64 0), .d (.int .i64 0)], .box [.d (.int .i64 x113), .d (.int .i64 x114), .d (.int .i64 x115), .d (.int .i64 x116), .d (.int .i64 x117), .d (.int .i64 x118), .d (.int .i64 x119), .d (.int .i64 x120)]]) (by kernel_rfl) (by kernel_rfl) (by kernel_rfl) (by kernel_rfl) (by decide) (by kernel_rfl) (by kernel_rfl) ?_
            exact hj9 (x111, x113, x114, x115, x116, x117, x118, x119, x120)
          · refine oCondF (by kernel_rfl) ?_
            refine oSkip ?_
            refine oSeq ?_
            refine oRegion rfl ?_
            refine oOp (.d (.bool x111)) (by kernel_rfl) (by kernel_rfl) (PureV.does (p_move (by kernel_rfl))) ?_
            refine oOp (.d (.bool (!x111))) (by kernel_rfl) (by kernel_rfl) (PureV.does (p_not (p := x111) (by kernel_rfl) (by kernel_rfl))) ?_
            refine oOp (.d (.bool (!x111))) (by kernel_rfl) (by kernel_rfl) (PureV.does (p_move (by kernel_rfl))) ?_
            refine bMeetF (H' := [.box [.d (.int .i64 0), .d (.int .i64 0), .d (.int .i64 0), .d (.int .i64 0), .d (.int .i64 0), .d (.int .i64 0), .d (.int .i64 0), .d (.int .i64 0)], .box [.d (.int .i64 x113), .d (.int .i64 x114), .d (.int .i64 x115), .d (.int .i64 x116), .d (.int .i64 x117), .d (.int .i64 x118), .d (.int .i64 x119), .d (.int .i64 x120)], .box [.d (.int .i64 e17.Script), .d (.int .i64 e17.Part), .d (.int .i64 e17.Marker), .d (.int .i64 e17.Level), .d (.int .i64 e17.Value), .d (.int .i64 e17.Stamp_Time), .d (.int .i64 e17.Stamp_Source), .d (.int .i64 e17.Stamp_Seq)]]) 6 rfl ((fun (x157 : Bool) => [(2, .ptr 0 0), (4, .ptr 1 0), (5, .d (.bool x111)), (7, .ptr 2 0), (8, .d (.lit (List.map e_SGiven l))), (9, .d (.int .i64 ((List.length l) : Int))), (10, .d (.int .i64 x112)), (25, .d (.bool x157))])) (fun x157 => ?_) (fun F hj10 => ?_)
            · refine oView (T' := [(2, .ptr 0 0), (4, .ptr 1 0), (5, .d (.bool x111)), (7, .ptr 2 0), (8, .d (.lit (List.map e_SGiven l))), (9, .d (.int .i64 ((List.length l) : Int))), (10, .d (.int .i64 x112)), (25, .d (.bool x157))]) (H' := [.box [.d (.int .i64 0), .d (.int .i64 0), .d (.int .i64 0), .d (.int .i64 0), .d (.int .i64 0), .d (.int .i64 0), .d (.int .i64 0), .d (.int .i64 0)], .box [.d (.int .i64 x113), .d (.int .i64 x114), .d (.int .i64 x115), .d (.int .i64 x116), .d (.int .i64 x117), .d (.int .i64 x118), .d (.int .i64 x119), .d (.int .i64 x120)], .box [.d (.int .i64 e17.Script), .d (.int .i64 e17.Part), .d (.int .i64 e17.Marker), .d (.int .i64 e17.Level), .d (.int .i64 e17.Value), .d (.int .i64 e17.Stamp_Time), .d (.int .i64 e17.Stamp_Source), .d (.int .i64 e17.Stamp_Seq)]]) (by kernel_rfl) (by kernel_rfl) ?_
              refine oOp (.d (.bool x157)) (by kernel_rfl) (by kernel_rfl) (PureV.does (p_move (by kernel_rfl))) ?_
              refine bMeet 14 rfl ((fun (x160 : Bool) => [(2, .ptr 0 0), (4, .ptr 1 0), (5, .d (.bool x111)), (7, .ptr 2 0), (8, .d (.lit (List.map e_SGiven l))), (9, .d (.int .i64 ((List.length l) : Int))), (10, .d (.int .i64 x112)), (40, .d (.bool x160))])) ((fun (x160 : Bool) => [.box [.d (.int .i64 0), .d (.int .i64 0), .d (.int .i64 0), .d (.int .i64 0), .d (.int .i64 0), .d (.int .i64 0), .d (.int .i64 0), .d (.int .i64 0)], .box [.d (.int .i64 x113), .d (.int .i64 x114), .d (.int .i64 x115), .d (.int .i64 x116), .d (.int .i64 x117), .d (.int .i64 x118), .d (.int .i64 x119), .d (.int .i64 x120)], .box [.d (.int .i64 e17.Script), .d (.int .i64 e17.Part), .d (.int .i64 e17.Marker), .d (.int .i64 e17.Level), .d (.int .i64 e17.Value), .d (.int .i64 e17.Stamp_Time), .d (.int .i64 e17.Stamp_Source), .d (.int .i64 e17.Stamp_Seq)]])) (fun s => s) (fun x160 => ?_) (fun hj11 => ?_)
              · refine oView (T' := [(2, .ptr 0 0), (4, .ptr 1 0), (5, .d (.bool x111)), (7, .ptr 2 0), (8, .d (.lit (List.map e_SGiven l))), (9, .d (.int .i64 ((List.length l) : Int))), (10, .d (.int .i64 x112)), (40, .d (.bool x160))]) (H' := [.box [.d (.int .i64 0), .d (.int .i64 0), .d (.int .i64 0), .d (.int .i64 0), .d (.int .i64 0), .d (.int .i64 0), .d (.int .i64 0), .d (.int .i64 0)], .box [.d (.int .i64 x113), .d (.int .i64 x114), .d (.int .i64 x115), .d (.int .i64 x116), .d (.int .i64 x117), .d (.int .i64 x118), .d (.int .i64 x119), .d (.int .i64 x120)], .box [.d (.int .i64 e17.Script), .d (.int .i64 e17.Part), .d (.int .i64 e17.Marker), .d (.int .i64 e17.Level), .d (.int .i64 e17.Value), .d (.int .i64 e17.Stamp_Time), .d (.int .i64 e17.Stamp_Source), .d (.int .i64 e17.Stamp_Seq)]]) (by kernel_rfl) (by kernel_rfl) ?_
                refine oEnd ?_
                refine bSplit 40 (by kernel_rfl) (fun hc => ?_) (fun hc => ?_)
                · refine oCondT (by kernel_rfl) ?_
                  refine oRegion rfl ?_
                  refine oOp (.agg [.d (.int .i64 e17.Script), .d (.int .i64 e17.Part), .d (.int .i64 e17.Marker), .d (.int .i64 e17.Level), .d (.int .i64 e17.Value), .d (.int .i64 e17.Stamp_Time), .d (.int .i64 e17.Stamp_Source), .d (.int .i64 e17.Stamp_Seq)]) (by kernel_rfl) (by kernel_rfl) (Quiet.does (k_loadAgg 2 0 (by kernel_rfl) Try.underlying38 (by kernel_rfl) ty38 (by kernel_rfl))) ?_
                  refine oOp (.undef) (by kernel_rfl) (by kernel_rfl) (k_store (vs := [.d (.int .i64 e17.Script), .d (.int .i64 e17.Part), .d (.int .i64 e17.Marker), .d (.int .i64 e17.Level), .d (.int .i64 e17.Value), .d (.int .i64 e17.Stamp_Time), .d (.int .i64 e17.Stamp_Source), .d (.int .i64 e17.Stamp_Seq)]) (H' := [.box [.d (.int .i64 0), .d (.int .i64 0), .d (.int .i64 0), .d (.int .i64 0), .d (.int .i64 0), .d (.int .i64 0), .d (.int .i64 0), .d (.int .i64 0)], .box [.d (.int .i64 e17.Script), .d (.int .i64 e17.Part), .d (.int .i64 e17.Marker), .d (.int .i64 e17.Level), .d (.int .i64 e17.Value), .d (.int .i64 e17.Stamp_Time), .d (.int .i64 e17.Stamp_Source), .d (.int .i64 e17.Stamp_Seq)], .box [.d (.int .i64 e17.Script), .d (.int .i64 e17.Part), .d (.int .i64 e17.Marker), .d (.int .i64 e17.Level), .d (.int .i64 e17.Value), .d (.int .i64 e17.Stamp_Time), .d (.int .i64 e17.Stamp_Source), .d (.int .i64 e17.Stamp_Seq)]]) 1 0 (by kernel_rfl) ty38 (by kernel_rfl) (by kernel_rfl) (by kernel_rfl)) ?_
                  refine oOp (.d (.bool true)) (by kernel_rfl) (by kernel_rfl) (PureV.does (p_assign (by kernel_rfl))) ?_
                  refine oEnd ?_
                  refine oBlk ?_
                  refine oHead [2, 4, 5, 8, 9, 10] [0, 1] (T' := [(2, .ptr 0 0), (4, .ptr 1 0), (5, .d (.bool true)), (8, .d (.lit (List.map e_SGiven l))), (9, .d (.int .i64 ((List.length l) : Int))), (10, .d (.int .i64 x112))]) (H' := [.box [.d (.int .i64 0), .d (.int .i64 0), .d (.int .i64 0), .d (.int .i64 0), .d (.int .i64 0), .d (.int .i64 0), .d (.int .i64 0), .d (.int .i64 0)], .box [.d (.int .i64 e17.Script), .d (.int .i64 e17.Part), .d (.int .i64 e17.Marker), .d (.int .i64 e17.Level), .d (.int .i64 e17.Value), .d (.int .i64 e17.Stamp_Time), .d (.int .i64 e17.Stamp_Source), .d (.int .i64 e17.Stamp_Seq)]]) (by kernel_rfl) (by kernel_rfl) (by kernel_rfl) (by kernel_rfl) (by decide) (by kernel_rfl) (by kernel_rfl) ?_
                  exact hj9 (true, e17.Script, e17.Part, e17.Marker, e17.Level, e17.Value, e17.Stamp_Time, e17.Stamp_Source, e17.Stamp_Seq)
                · refine oCondF (by kernel_rfl) ?_
                  refine oSkip ?_
                  refine oBlk ?_
                  refine oHead [2, 4, 5, 8, 9, 10] [0, 1] (T' := [(2, .ptr 0 0), (4, .ptr 1 0), (5, .d (.bool x111)), (8, .d (.lit (List.map e_SGiven l))), (9, .d (.int .i64 ((List.length l) : Int))), (10, .d (.int .i64 x112))]) (H' := [.box [.d (.int .i64 0), .d (.int .i64 0), .d (.int .i64 0), .d (.int .i64 0), .d (.int .i64 0), .d (.int .i64 0), .d (.int .i64 0), .d (.int .i64 0)], .box [.d (.int .i64 x113), .d (.int .i64 x114), .d (.int .i64 x115), .d (.int .i64 x116), .d (.int .i64 x117), .d (.int .i64 x118), .d (.int .i64 x119), .d (.int .i64 x120)]]) (by kernel_rfl) (by kernel_rfl) (by kernel_rfl) (by kernel_rfl) (by decide) (by kernel_rfl) (by kernel_rfl) ?_
                  exact hj9 (x111, x113, x114, x115, x116, x117, x118, x119, x120)
              · refine bSplit 26 (by kernel_rfl) (fun hc => ?_) (fun hc => ?_)
                · refine oNot (by kernel_rfl) (by kernel_rfl) ?_
                  refine oNot (by kernel_rfl) (by kernel_rfl) ?_
                  refine oNot (by kernel_rfl) (by kernel_rfl) ?_
                  refine oNot (by kernel_rfl) (by kernel_rfl) ?_
                  refine oNot (by kernel_rfl) (by kernel_rfl) ?_
                  refine oNot (by kernel_rfl) (by kernel_rfl) ?_
                  refine oNot (by kernel_rfl) (by kernel_rfl) ?_
                  refine oNot (by kernel_rfl) (by kernel_rfl) ?_
                  refine oNot (by kernel_rfl) (by kernel_rfl) ?_
                  refine oNot (by kernel_rfl) (by kernel_rfl) ?_
                  refine oNot (by kernel_rfl) (by kernel_rfl) ?_
                  refine oNot (by kernel_rfl) (by kernel_rfl) ?_
                  refine oNot (by kernel_rfl) (by kernel_rfl) ?_
                  refine oOp (.d (.bool true)) (by kernel_rfl) (by kernel_rfl) (PureV.does (p_pick (b := true) (by kernel_rfl) (by kernel_rfl))) ?_
                  refine oHead [2, 4, 5, 7, 8, 9, 10, 40] [0, 1, 2] (T' := [(2, .ptr 0 0), (4, .ptr 1 0), (5, .d (.bool x111)), (7, .ptr 2 0), (8, .d (.lit (List.map e_SGiven l))), (9, .d (.int .i64 ((List.length l) : Int))), (10, .d (.int .i64 x112)), (40, .d (.bool true))]) (H' := [.box [.d (.int .i64 0), .d (.int .i64 0), .d (.int .i64 0), .d (.int .i64 0), .d (.int .i64 0), .d (.int .i64 0), .d (.int .i64 0), .d (.int .i64 0)], .box [.d (.int .i64 x113), .d (.int .i64 x114), .d (.int .i64 x115), .d (.int .i64 x116), .d (.int .i64 x117), .d (.int .i64 x118), .d (.int .i64 x119), .d (.int .i64 x120)], .box [.d (.int .i64 e17.Script), .d (.int .i64 e17.Part), .d (.int .i64 e17.Marker), .d (.int .i64 e17.Level), .d (.int .i64 e17.Value), .d (.int .i64 e17.Stamp_Time), .d (.int .i64 e17.Stamp_Source), .d (.int .i64 e17.Stamp_Seq)]]) (by kernel_rfl) (by kernel_rfl) (by kernel_rfl) (by kernel_rfl) (by decide) (by kernel_rfl) (by kernel_rfl) ?_
                  exact hj11 true
                · refine oOp (.ptr 2 3) (by kernel_rfl) (by kernel_rfl) (PureV.does (k_fieldAddr 2 0 (by kernel_rfl) Try.underlying38 rfl ty3 (by kernel_rfl))) ?_
                  refine oOp (.d (.int .i64 e17.Level)) (by kernel_rfl) (by kernel_rfl) (Quiet.does (k_load 2 3 (by kernel_rfl) Try.underlying3 (by kernel_rfl) (by kernel_rfl))) ?_
                  refine oOp (.ptr 1 3) (by kernel_rfl) (by kernel_rfl) (PureV.does (k_fieldAddr 1 0 (by kernel_rfl) Try.underlying38 rfl ty3 (by kernel_rfl))) ?_
                  refine oOp (.d (.int .i64 x116)) (by kernel_rfl) (by kernel_rfl) (Quiet.does (k_load 1 3 (by kernel_rfl) Try.underlying3 (by kernel_rfl) (by kernel_rfl))) ?_
                  refine oOp (.d (.bool (e17.Level == x116))) (by kernel_rfl) (by kernel_rfl) (PureV.does (p_int (k := .i64) (p := e17.Level) (q := x116) (by kernel_rfl) (by kernel_rfl) (by kernel_rfl))) ?_
                  refine oOp (.d (.bool (e17.Level == x116))) (by kernel_rfl) (by kernel_rfl) (PureV.does (p_move (by kernel_rfl))) ?_
                  refine bMeet 7 rfl ((uc fun (x161 : Bool) => (fun (x162 : Bool) => [(2, .ptr 0 0), (4, .ptr 1 0), (5, .d (.bool x111)), (7, .ptr 2 0), (8, .d (.lit (List.map e_SGiven l))), (9, .d (.int .i64 ((List.length l) : Int))), (10, .d (.int .i64 x112)), (26, .d (.bool false)), (27, .ptr 2 3), (28, .d (.int .i64 e17.Level)), (29, .ptr 1 3), (30, .d (.int .i64 x116)), (31, .d (.bool (e17.Level == x116))), (32, .d (.bool x161)), (39, .d (.bool x162))]))) ((uc fun (x161 : Bool) => (fun (x162 : Bool) => [.box [.d (.int .i64 0), .d (.int .i64 0), .d (.int .i64 0), .d (.int .i64 0), .d (.int .i64 0), .d (.int .i64 0), .d (.int .i64 0), .d (.int .i64 0)], .box [.d (.int .i64 x113), .d (.int .i64 x114), .d (.int .i64 x115), .d (.int .i64 x116), .d (.int .i64 x117), .d (.int .i64 x118), .d (.int .i64 x119), .d (.int .i64 x120)], .box [.d (.int .i64 e17.Script), .d (.int .i64 e17.Part), .d (.int .i64 e17.Marker), .d (.int .i64 e17.Level), .d (.int .i64 e17.Value), .d (.int .i64 e17.Stamp_Time), .d (.int .i64 e17.Stamp_Source), .d (.int .i64 e17.Stamp_Seq)]]))) (fun s => s) (fun s => ?_) (fun hj12 => ?_)
                  · obtain ⟨x161, x162⟩ := s
                    refine bUc ?_
                    refine oView (T' := [(2, .ptr 0 0), (4, .ptr 1 0), (5, .d (.bool x111)), (7, .ptr 2 0), (8, .d (.lit (List.map e_SGiven l))), (9, .d (.int .i64 ((List.length l) : Int))), (10, .d (.int .i64 x112)), (26, .d (.bool false)), (27, .ptr 2 3), (28, .d (.int .i64 e17.Level)), (29, .ptr 1 3), (30, .d (.int .i64 x116)), (31, .d (.bool (e17.Level == x116))), (32, .d (.bool x161)), (39, .d (.bool x162))]) (H' := [.box [.d (.int .i64 0), .d (.int .i64 0), .d (.int .i64 0), .d (.int .i64 0), .d (.int .i64 0), .d (.int .i64 0), .d (.int .i64 0), .d (.int .i64 0)], .box [.d (.int .i64 x113), .d (.int .i64 x114), .d (.int .i64 x115), .d (.int .i64 x116), .d (.int .i64 x117), .d (.int .i64 x118), .d (.int .i64 x119), .d (.int .i64 x120)], .box [.d (.int .i64 e17.Script), .d (.int .i64 e17.Part), .d (.int .i64 e17.Marker), .d (.int .i64 e17.Level), .d (.int .i64 e17.Value), .d (.int .i64 e17.Stamp_Time), .d (.int .i64 e17.Stamp_Source), .d (.int .i64 e17.Stamp_Seq)]]) (by kernel_rfl) (by kernel_rfl) ?_
                    refine oOp (.d (.bool x162)) (by kernel_rfl) (by kernel_rfl) (PureV.does (p_pick (b := false) (by kernel_rfl) (by kernel_rfl))) ?_
                    refine oHead [2, 4, 5, 7, 8, 9, 10, 40] [0, 1, 2] (T' := [(2, .ptr 0 0), (4, .ptr 1 0), (5, .d (.bool x111)), (7, .ptr 2 0), (8, .d (.lit (List.map e_SGiven l))), (9, .d (.int .i64 ((List.length l) : Int))), (10, .d (.int .i64 x112)), (40, .d (.bool x162))]) (H' := [.box [.d (.int .i64 0), .d (.int .i64 0), .d (.int .i64 0), .d (.int .i64 0), .d (.int .i64 0), .d (.int .i64 0), .d (.int .i64 0), .d (.int .i64 0)], .box [.d (.int .i64 x113), .d (.int .i64 x114), .d (.int .i64 x115), .d (.int .i64 x116), .d (.int .i64 x117), .d (.int .i64 x118), .d (.int .i64 x119), .d (.int .i64 x120)], .box [.d (.int .i64 e17.Script), .d (.int .i64 e17.Part), .d (.int .i64 e17.Marker), .d (.int .i64 e17.Level), .d (.int .i64 e17.Value), .d (.int .i64 e17.Stamp_Time), .d (.int .i64 e17.Stamp_Source), .d (.int .i64 e17.Stamp_Seq)]]) (by kernel_rfl) (by kernel_rfl) (by kernel_rfl) (by kernel_rfl) (by decide) (by kernel_rfl) (by kernel_rfl) ?_
                    exact hj11 x162
                  · refine bSplit 32 (by kernel_rfl) (fun hc => ?_) (fun hc => ?_)
                    · refine oOp (.ptr 2 5) (by kernel_rfl) (by kernel_rfl) (PureV.does (k_fieldAddr 2 0 (by kernel_rfl) Try.underlying38 rfl ty36 (by kernel_rfl))) ?_
                      refine oOp (.agg [.d (.int .i64 e17.Stamp_Time), .d (.int .i64 e17.Stamp_Source), .d (.int .i64 e17.Stamp_Seq)]) (by kernel_rfl) (by kernel_rfl) (Quiet.does (k_loadAgg 2 5 (by kernel_rfl) Try.underlying36 (by kernel_rfl) ty36 (by kernel_rfl))) ?_
                      refine oOp (.ptr 1 5) (by kernel_rfl) (by kernel_rfl) (PureV.does (k_fieldAddr 1 0 (by kernel_rfl) Try.underlying38 rfl ty36 (by kernel_rfl))) ?_
                      refine oOp (.agg [.d (.int .i64 x118), .d (.int .i64 x119), .d (.int .i64 x120)]) (by kernel_rfl) (by kernel_rfl) (Quiet.does (k_loadAgg 1 5 (by kernel_rfl) Try.underlying36 (by kernel_rfl) ty36 (by kernel_rfl))) ?_
                      refine bCall (caps := []) (v := (fun (r186 : Int) => (.d (.int .i64 r186) : V))) (H' := (fun (r186 : Int) => ([.box [.d (.int .i64 0), .d (.int .i64 0), .d (.int .i64 0), .d (.int .i64 0), .d (.int .i64 0), .d (.int .i64 0), .d (.int .i64 0), .d (.int .i64 0)], .box [.d (.int .i64 x113), .d (.int .i64 x114), .d (.int .i64 x115), .d (.int .i64 x116), .d (.int .i64 x117), .d (.int .i64 x118), .d (.int .i64 x119), .d (.int .i64 x120)], .box [.d (.int .i64 e17.Script), .d (.int .i64 e17.Part), .d (.int .i64 e17.Marker), .d (.int .i64 e17.Level), .d (.int .i64 e17.Value), .d (.int .i64 e17.Stamp_Time), .d (.int .i64 e17.Stamp_Source), .d (.int .i64 e17.Stamp_Seq)]] : List Blk))) [] _ (stamp_Compare_goes k e17.Stamp_Time e17.Stamp_Source e17.Stamp_Seq x118 x119 x120) (by kernel_rfl) (by kernel_rfl) rfl (by kernel_rfl) Try.func39 rfl (by kernel_rfl) (ConvRs.refl _ _) (by kernel_rfl) (by kernel_rfl) (by kernel_rfl) (by decide) (by kernel_rfl) (by kernel_rfl) (fun _ => (by kernel_rfl)) (fun _ => (by kernel_rfl)) (fun _ => (by kernel_rfl)) (fun r186 => ?_)
                      refine oOp (.d (.bool (decide (r186 ≥ 0)))) (by kernel_rfl) (by kernel_rfl) (PureV.does (p_int (k := .i64) (p := r186) (q := 0) (by kernel_rfl) (by kernel_rfl) (by kernel_rfl))) ?_
                      refine oOp (.d (.bool (decide (r186 ≥ 0)))) (by kernel_rfl) (by kernel_rfl) (PureV.does (p_pick (b := true) (by kernel_rfl) (by kernel_rfl))) ?_
                      refine oHead [2, 4, 5, 7, 8, 9, 10, 26, 27, 28, 29, 30, 31, 32, 39] [0, 1, 2] (T' := [(2, .ptr 0 0), (4, .ptr 1 0), (5, .d (.bool x111)), (7, .ptr 2 0), (8, .d (.lit (List.map e_SGiven l))), (9, .d (.int .i64 ((List.length l) : Int))), (10, .d (.int .i64 x112)), (26, .d (.bool false)), (27, .ptr 2 3), (28, .d (.int .i64 e17.Level)), (29, .ptr 1 3), (30, .d (.int .i64 x116)), (31, .d (.bool (e17.Level == x116))), (32, .d (.bool true)), (39, .d (.bool (decide (r186 ≥ 0))))]) (H' := [.box [.d (.int .i64 0), .d (.int .i64 0), .d (.int .i64 0), .d (.int .i64 0), .d (.int .i64 0), .d (.int .i64 0), .d (.int .i64 0), .d (.int .i64 0)], .box [.d (.int .i64 x113), .d (.int .i64 x114), .d (.int .i64 x115), .d (.int .i64 x116), .d (.int .i64 x117), .d (.int .i64 x118), .d (.int .i64 x119), .d (.int .i64 x120)], .box [.d (.int .i64 e17.Script), .d (.int .i64 e17.Part), .d (.int .i64 e17.Marker), .d (.int .i64 e17.Level), .d (.int .i64 e17.Value), .d (.int .i64 e17.Stamp_Time), .d (.int .i64 e17.Stamp_Source), .d (.int .i64 e17.Stamp_Seq)]]) (by kernel_rfl) (by kernel_rfl) (by kernel_rfl) (by kernel_rfl) (by decide) (by kernel_rfl) (by kernel_rfl) ?_
                      exact hj12 (true, (decide (r186 ≥ 0)))
                    · refine oNot (by kernel_rfl) (by kernel_rfl) ?_
                      refine oNot (by kernel_rfl) (by kernel_rfl) ?_
                      refine oNot (by kernel_rfl) (by kernel_rfl) ?_
                      refine oNot (by kernel_rfl) (by kernel_rfl) ?_
                      refine oNot (by kernel_rfl) (by kernel_rfl) ?_
                      refine oNot (by kernel_rfl) (by kernel_rfl) ?_
                      refine oOp (.d (.bool false)) (by kernel_rfl) (by kernel_rfl) (PureV.does (p_pick (b := false) (by kernel_rfl) (by kernel_rfl))) ?_
                      refine oHead [2, 4, 5, 7, 8, 9, 10, 26, 27, 28, 29, 30, 31, 32, 39] [0, 1, 2] (T' := [(2, .ptr 0 0), (4, .ptr 1 0), (5, .d (.bool x111)), (7, .ptr 2 0), (8, .d (.lit (List.map e_SGiven l))), (9, .d (.int .i64 ((List.length l) : Int))), (10, .d (.int .i64 x112)), (26, .d (.bool false)), (27, .ptr 2 3), (28, .d (.int .i64 e17.Level)), (29, .ptr 1 3), (30, .d (.int .i64 x116)), (31, .d (.bool (e17.Level == x116))), (32, .d (.bool false)), (39, .d (.bool false))]) (H' := [.box [.d (.int .i64 0), .d (.int .i64 0), .d (.int .i64 0), .d (.int .i64 0), .d (.int .i64 0), .d (.int .i64 0), .d (.int .i64 0), .d (.int .i64 0)], .box [.d (.int .i64 x113), .d (.int .i64 x114), .d (.int .i64 x115), .d (.int .i64 x116), .d (.int .i64 x117), .d (.int .i64 x118), .d (.int .i64 x119), .d (.int .i64 x120)], .box [.d (.int .i64 e17.Script), .d (.int .i64 e17.Part), .d (.int .i64 e17.Marker), .d (.int .i64 e17.Level), .d (.int .i64 e17.Value), .d (.int .i64 e17.Stamp_Time), .d (.int .i64 e17.Stamp_Source), .d (.int .i64 e17.Stamp_Seq)]]) (by kernel_rfl) (by kernel_rfl) (by kernel_rfl) (by kernel_rfl) (by decide) (by kernel_rfl) (by kernel_rfl) ?_
                      exact hj12 (false, false)
            · refine bPickF 19 (fun c => F (c || (decide (e17.Level > x116)))) (by kernel_rfl) (fun hc => ?_) (fun hc => ?_)
              · refine oNot (by kernel_rfl) (by kernel_rfl) ?_
                refine oNot (by kernel_rfl) (by kernel_rfl) ?_
                refine oNot (by kernel_rfl) (by kernel_rfl) ?_
                refine oNot (by kernel_rfl) (by kernel_rfl) ?_
                refine oNot (by kernel_rfl) (by kernel_rfl) ?_
                refine oOp (.d (.bool true)) (by kernel_rfl) (by kernel_rfl) (PureV.does (p_pick (b := true) (by kernel_rfl) (by kernel_rfl))) ?_
                refine oHead [2, 4, 5, 7, 8, 9, 10, 25] [0, 1, 2] (T' := [(2, .ptr 0 0), (4, .ptr 1 0), (5, .d (.bool x111)), (7, .ptr 2 0), (8, .d (.lit (List.map e_SGiven l))), (9, .d (.int .i64 ((List.length l) : Int))), (10, .d (.int .i64 x112)), (25, .d (.bool true))]) (H' := [.box [.d (.int .i64 0), .d (.int .i64 0), .d (.int .i64 0), .d (.int .i64 0), .d (.int .i64 0), .d (.int .i64 0), .d (.int .i64 0), .d (.int .i64 0)], .box [.d (.int .i64 x113), .d (.int .i64 x114), .d (.int .i64 x115), .d (.int .i64 x116), .d (.int .i64 x117), .d (.int .i64 x118), .d (.int .i64 x119), .d (.int .i64 x120)], .box [.d (.int .i64 e17.Script), .d (.int .i64 e17.Part), .d (.int .i64 e17.Marker), .d (.int .i64 e17.Level), .d (.int .i64 e17.Value), .d (.int .i64 e17.Stamp_Time), .d (.int .i64 e17.Stamp_Source), .d (.int .i64 e17.Stamp_Seq)]]) (by kernel_rfl) (by kernel_rfl) (by kernel_rfl) (by kernel_rfl) (by decide) (by kernel_rfl) (by kernel_rfl) ?_
                exact hj10 true
              · refine oOp (.ptr 2 3) (by kernel_rfl) (by kernel_rfl) (PureV.does (k_fieldAddr 2 0 (by kernel_rfl) Try.underlying38 rfl ty3 (by kernel_rfl))) ?_
                refine oOp (.d (.int .i64 e17.Level)) (by kernel_rfl) (by kernel_rfl) (Quiet.does (k_load 2 3 (by kernel_rfl) Try.underlying3 (by kernel_rfl) (by kernel_rfl))) ?_
                refine oOp (.ptr 1 3) (by kernel_rfl) (by kernel_rfl) (PureV.does (k_fieldAddr 1 0 (by kernel_rfl) Try.underlying38 rfl ty3 (by kernel_rfl))) ?_
                refine oOp (.d (.int .i64 x116)) (by kernel_rfl) (by kernel_rfl) (Quiet.does (k_load 1 3 (by kernel_rfl) Try.underlying3 (by kernel_rfl) (by kernel_rfl))) ?_
                refine oOp (.d (.bool (decide (e17.Level > x116)))) (by kernel_rfl) (by kernel_rfl) (PureV.does (p_int (k := .i64) (p := e17.Level) (q := x116) (by kernel_rfl) (by kernel_rfl) (by kernel_rfl))) ?_
                refine oOp (.d (.bool (decide (e17.Level > x116)))) (by kernel_rfl) (by kernel_rfl) (PureV.does (p_pick (b := false) (by kernel_rfl) (by kernel_rfl))) ?_
                refine oHead [2, 4, 5, 7, 8, 9, 10, 25] [0, 1, 2] (T' := [(2, .ptr 0 0), (4, .ptr 1 0), (5, .d (.bool x111)), (7, .ptr 2 0), (8, .d (.lit (List.map e_SGiven l))), (9, .d (.int .i64 ((List.length l) : Int))), (10, .d (.int .i64 x112)), (25, .d (.bool (decide (e17.Level > x116))))]) (H' := [.box [.d (.int .i64 0), .d (.int .i64 0), .d (.int .i64 0), .d (.int .i64 0), .d (.int .i64 0), .d (.int .i64 0), .d (.int .i64 0), .d (.int .i64 0)], .box [.d (.int .i64 x113), .d (.int .i64 x114), .d (.int .i64 x115), .d (.int .i64 x116), .d (.int .i64 x117), .d (.int .i64 x118), .d (.int .i64 x119), .d (.int .i64 x120)], .box [.d (.int .i64 e17.Script), .d (.int .i64 e17.Part), .d (.int .i64 e17.Marker), .d (.int .i64 e17.Level), .d (.int .i64 e17.Value), .d (.int .i64 e17.Stamp_Time), .d (.int .i64 e17.Stamp_Source), .d (.int .i64 e17.Stamp_Seq)]]) (by kernel_rfl) (by kernel_rfl) (by kernel_rfl) (by kernel_rfl) (by decide) (by kernel_rfl) (by kernel_rfl) ?_
                exact hj10 (decide (e17.Level > x116))
      · refine oCondF (by kernel_rfl) ?_
        refine oExit rfl ?_
        refine oHead [2, 4, 5] [0, 1] (T' := [(2, .ptr 0 0), (4, .ptr 1 0), (5, .d (.bool x111))]) (H' := [.box [.d (.int .i64 0), .d (.int .i64 0), .d (.int .i64 0), .d (.int .i64 0), .d (.int .i64 0), .d (.int .i64 0), .d (.int .i64 0), .d (.int .i64 0)], .box [.d (.int .i64 x113), .d (.int .i64 x114), .d (.int .i64 x115), .d (.int .i64 x116), .d (.int .i64 x117), .d (.int .i64 x118), .d (.int .i64 x119), .d (.int .i64 x120)]]) (by kernel_rfl) (by kernel_rfl) (by kernel_rfl) (by kernel_rfl) (by decide) (by kernel_rfl) (by kernel_rfl) ?_
        exact hj6 (x111, x113, x114, x115, x116, x117, x118, x119, x120)

/-- awardingbody/arbitration.Decide -/
def arbitration_Decide_b1 (k : Nat) (l : (List SGiven)) (again : Int × Int × Int × Int → Option (Int × Int × Int)) : Int × Int × Int × Int → Option (Int × Int × Int) := uc fun sum6 => uc fun x20 => uc fun x21 => fun x22 => bif (decide (x22 < ((List.length l) : Int))) then gidx l x22 fun e115 => again ((gmin sum6 (gmax e115.Value 0)), (gmax x20 (gmax e115.Value 0)), (IntKind.wrap .i64 (x21 + (gmax e115.Value 0))), (IntKind.wrap .i64 (x22 + 1))) else some (sum6, x20, x21)
def arbitration_Decide (k : Nat) (r0 : Bool) (r1 : Int) (l : (List SGiven)) : Option (Int × Int) := Option.bind (arbitration_senior k l) (uc fun r112 => uc fun r113 => uc fun r121 => uc fun r131 => uc fun r141 => uc fun r151 => uc fun r161 => uc fun r171 => fun r191 => bif r191 then some (3, (gmax r141 0)) else bif (((List.length l) : Int) == 0) then some (0, 0) else gidx l 0 fun e15 => Option.bind (gloop (arbitration_Decide_b1 k l) k ((gmax e15.Value 0), 0, 0, 0) : Option (Int × Int × Int)) (uc fun sum5 => uc fun x16 => fun x17 => blet ((((List.length l) : Int) == 1) && r0) fun x18 => bif x18 then some (1, 0) else Option.bind (bif (decide (((List.length l) : Int) > 1)) then some (decide ((IntKind.wrap .i64 (x16 - sum5)) > r1)) else some false : Option (Bool)) (fun x19 => bif x19 then some (2, 0) else gnz (IntKind.wrap .i64 (2 * ((List.length l) : Int))) (some (3, (IntKind.wrap .i64 (Int.tdiv (IntKind.wrap .i64 ((IntKind.wrap .i64 (2 * x17)) + ((List.length l) : Int))) (IntKind.wrap .i64 (2 * ((List.length l) : Int))))))))))
def arbitration_Decide_E (r0 : Bool) (r1 : Int) (l : (List SGiven)) : Int × Int → V × List Blk := uc fun r18 => fun r110 => (.agg [.d (.int .i64 r18), .d (.int .i64 r110)], [])
theorem arbitration_Decide_goes (k : Nat) (r0 : Bool) (r1 : Int) (l : (List SGiven)) : RunsO Try.prog 13 [.agg [.d (.bool r0), .d (.int .i64 r1)], .d (.lit (List.map e_SGiven l))] [] (arbitration_Decide_E r0 r1 l) (arbitration_Decide k r0 r1 l) := by
  refine RunsO.of_goes (N := 82) (m := 0) (T := [(0, .agg [.d (.bool r0), .d (.int .i64 r1)]), (1, .d (.lit (List.map e_SGiven l)))]) Try.func13 rfl rfl (by kernel_rfl) (by kernel_rfl) (by kernel_rfl) ?_
  unfold arbitration_Decide
  refine bStart ?_
  refine oSeq ?_
  refine oRegion rfl ?_
  refine oOp (.ptr 0 0) (by kernel_rfl) (by kernel_rfl) (k_box (H' := [.box [.d (.bool r0), .d (.int .i64 r1)]]) (cells := [.d (.bool r0), .d (.int .i64 r1)]) (by kernel_rfl) (by kernel_rfl) (by kernel_rfl)) ?_
  refine oOp (.ptr 1 0) (by kernel_rfl) (by kernel_rfl) (k_alloc (H' := [.box [.d (.bool r0), .d (.int .i64 r1)], .box [.d (.int .i64 0), .d (.int .i64 0)]]) ty33 (by kernel_rfl) (by kernel_rfl)) ?_
  refine oEnd ?_
  refine oSeq ?_
  refine oSeq ?_
  refine oRegion rfl ?_
  refine oOp (.d (.lit (List.map e_SGiven l))) (by kernel_rfl) (by kernel_rfl) (PureV.does (p_move (by kernel_rfl))) ?_
  refine bCall (caps := []) (v := (uc fun (r112 : Int) => (uc fun (r113 : Int) => (uc fun (r121 : Int) => (uc fun (r131 : Int) => (uc fun (r141 : Int) => (uc fun (r151 : Int) => (uc fun (r161 : Int) => (uc fun (r171 : Int) => (fun (r191 : Bool) => (.tuple [.agg [.d (.int .i64 r112), .d (.int .i64 r113), .d (.int .i64 r121), .d (.int .i64 r131), .d (.int .i64 r141), .d (.int .i64 r151), .d (.int .i64 r161), .d (.int .i64 r171)], .d (.bool r191)] : V))))))))))) (H' := (uc fun (r112 : Int) => (uc fun (r113 : Int) => (uc fun (r121 : Int) => (uc fun (r131 : Int) => (uc fun (r141 : Int) => (uc fun (r151 : Int) => (uc fun (r161 : Int) => (uc fun (r171 : Int) => (fun (r191 : Bool) => ([.box [.d (.bool r0), .d (.int .i64 r1)], .box [.d (.int .i64 0), .d (.int .i64 0)]] : List Blk))))))))))) [] _ (arbitration_senior_goes k l) (by kernel_rfl) (by kernel_rfl) rfl (by kernel_rfl) Try.func28 rfl (by kernel_rfl) (ConvRs.refl _ _) (by kernel_rfl) (by kernel_rfl) (by kernel_rfl) (by decide) (by kernel_rfl) (by kernel_rfl) (fun _ => (by kernel_rfl)) (fun _ => (by kernel_rfl)) (fun _ => (by kernel_rfl)) (fun r => ?_)
  obtain ⟨r112, r113, r121, r131, r141, r151, r161, r171, r191⟩ := r
  refine bUc ?_
  refine bUc ?_
  refine bUc ?_
  refine bUc ?_
  refine bUc ?_
  refine bUc ?_
  refine bUc ?_
  refine bUc ?_
  refine oOp (.tuple [.agg [.d (.int .i64 r112), .d (.int .i64 r113), .d (.int .i64 r121), .d (.int .i64 r131), .d (.int .i64 r141), .d (.int .i64 r151), .d (.int .i64 r161), .d (.int .i64 r171)], .d (.bool r191)]) (by kernel_rfl) (by kernel_rfl) (PureV.does (p_move (by kernel_rfl))) ?_
  refine oOp (.agg [.d (.int .i64 r112), .d (.int .i64 r113), .d (.int .i64 r121), .d (.int .i64 r131), .d (.int .i64 r141), .d (.int .i64 r151), .d (.int .i64 r161), .d (.int .i64 r171)]) (by kernel_rfl) (by kernel_rfl) (PureV.does (k_extract (by kernel_rfl))) ?_
  refine oOp (.d (.bool r191)) (by kernel_rfl) (by kernel_rfl) (PureV.does (k_extract (by kernel_rfl))) ?_
  refine oOp (.ptr 2 0) (by kernel_rfl) (by kernel_rfl) (k_alloc (H' := [.box [.d (.bool r0), .d (.int .i64 r1)], .box [.d (.int .i64 0), .d (.int .i64 0)], .box [.d (.int .i64 0), .d (.int .i64 0), .d (.int .i64 0), .d (.int .i64 0), .d (.int .i64 0), .d (.int .i64 0), .d (.int .i64 0), .d (.int .i64 0)]]) ty38 (by kernel_rfl) (by kernel_rfl)) ?_
  refine oOp (.undef) (by kernel_rfl) (by kernel_rfl) (k_store (vs := [.d (.int .i64 r112), .d (.int .i64 r113), .d (.int .i64 r121), .d (.int .i64 r131), .d (.int .i64 r141), .d (.int .i64 r151), .d (.int .i64 r161), .d (.int .i64 r171)]) (H' := [.box [.d (.bool r0), .d (.int .i64 r1)], .box [.d (.int .i64 0), .d (.int .i64 0)], .box [.d (.int .i64 r112), .d (.int .i64 r113), .d (.int .i64 r121), .d (.int .i64 r131), .d (.int .i64 r141), .d (.int .i64 r151), .d (.int .i64 r161), .d (.int .i64 r171)]]) 2 0 (by kernel_rfl) ty38 (by kernel_rfl) (by kernel_rfl) (by kernel_rfl)) ?_
  refine oOp (.d (.bool r191)) (by kernel_rfl) (by kernel_rfl) (PureV.does (p_assign (by kernel_rfl))) ?_
  refine oEnd ?_
  refine oSeq ?_
  refine oRegion rfl ?_
  refine oOp (.d (.bool r191)) (by kernel_rfl) (by kernel_rfl) (PureV.does (p_move (by kernel_rfl))) ?_
  refine oEnd ?_
  refine bSplit 19 (by kernel_rfl) (fun hc => ?_) (fun hc => ?_)
  · refine oCondT (by kernel_rfl) ?_
    refine oSeq ?_
    refine oRegion rfl ?_
    refine oOp (.ptr 2 4) (by kernel_rfl) (by kernel_rfl) (PureV.does (k_fieldAddr 2 0 (by kernel_rfl) Try.underlying38 rfl ty3 (by kernel_rfl))) ?_
    refine oOp (.d (.int .i64 r141)) (by kernel_rfl) (by kernel_rfl) (Quiet.does (k_load 2 4 (by kernel_rfl) Try.underlying3 (by kernel_rfl) (by kernel_rfl))) ?_
    refine oOp (.d (.int .i64 (gmax r141 0))) (by kernel_rfl) (by kernel_rfl) (PureV.does (p_max2 (k := .i64) (p := r141) (q := 0) (by kernel_rfl) (by kernel_rfl) (by kernel_rfl))) ?_
    refine oOp (.agg [.d (.int .i64 3), .d (.int .i64 (gmax r141 0))]) (by kernel_rfl) (by kernel_rfl) (PureV.does (p_build bld33 (by kernel_rfl))) ?_
    refine oOp (.undef) (by kernel_rfl) (by kernel_rfl) (k_store (vs := [.d (.int .i64 3), .d (.int .i64 (gmax r141 0))]) (H' := [.box [.d (.bool r0), .d (.int .i64 r1)], .box [.d (.int .i64 3), .d (.int .i64 (gmax r141 0))], .box [.d (.int .i64 r112), .d (.int .i64 r113), .d (.int .i64 r121), .d (.int .i64 r131), .d (.int .i64 r141), .d (.int .i64 r151), .d (.int .i64 r161), .d (.int .i64 r171)]]) 1 0 (by kernel_rfl) ty33 (by kernel_rfl) (by kernel_rfl) (by kernel_rfl)) ?_
    refine oEnd ?_
    exact oRet (r0 := (3, (gmax r141 0))) (rv := .agg [.d (.int .i64 3), .d (.int .i64 (gmax r141 0))]) (B := []) (vs := [.agg [.d (.int .i64 3), .d (.int .i64 (gmax r141 0))]]) (σ := []) (by kernel_rfl) Try.func13 rfl (.cons _ _ _ _ (.agg 4 33 1 0 [.d (.int .i64 3), .d (.int .i64 (gmax r141 0))] [.d (.int .i64 3), .d (.int .i64 (gmax r141 0))] _ _ _ _ (by kernel_rfl) (by kernel_rfl) Try.underlying33 (by kernel_rfl) ty33 (by kernel_rfl) (by kernel_rfl)) .nil) (by kernel_rfl) (by kernel_rfl) (by kernel_rfl) (by kernel_rfl) (by decide) (by kernel_rfl) (by kernel_rfl)
  · refine oCondF (by kernel_rfl) ?_
    refine oSkip ?_
    refine oSeq ?_
    refine oSeq ?_
    refine oRegion rfl ?_
    refine oOp (.d (.lit (List.map e_SGiven l))) (by kernel_rfl) (by kernel_rfl) (PureV.does (p_move (by kernel_rfl))) ?_
    refine oOp (.d (.int .i64 ((List.length l) : Int))) (by kernel_rfl) (by kernel_rfl) (PureV.does (k_lenLit (enc := e_SGiven) l (by kernel_rfl) Try.underlying30)) ?_
    refine oOp (.d (.bool (((List.length l) : Int) == 0))) (by kernel_rfl) (by kernel_rfl) (PureV.does (p_int (k := .i64) (p := ((List.length l) : Int)) (q := 0) (by kernel_rfl) (by kernel_rfl) (by kernel_rfl))) ?_
    refine oEnd ?_
    refine bSplit 26 (by kernel_rfl) (fun hc => ?_) (fun hc => ?_)
    · refine oCondT (by kernel_rfl) ?_
      refine oSeq ?_
      refine oRegion rfl ?_
      refine oOp (.agg [.d (.int .i64 0), .d (.int .i64 0)]) (by kernel_rfl) (by kernel_rfl) (PureV.does (p_build bld33 (by kernel_rfl))) ?_
      refine oOp (.undef) (by kernel_rfl) (by kernel_rfl) (k_store (vs := [.d (.int .i64 0), .d (.int .i64 0)]) (H' := [.box [.d (.bool r0), .d (.int .i64 r1)], .box [.d (.int .i64 0), .d (.int .i64 0)], .box [.d (.int .i64 r112), .d (.int .i64 r113), .d (.int .i64 r121), .d (.int .i64 r131), .d (.int .i64 r141), .d (.int .i64 r151), .d (.int .i64 r161), .d (.int .i64 r171)]]) 1 0 (by kernel_rfl) ty33 (by kernel_rfl) (by kernel_rfl) (by kernel_rfl)) ?_
      refine oEnd ?_
      exact oRet (r0 := (0, 0)) (rv := .agg [.d (.int .i64 0), .d (.int .i64 0)]) (B := []) (vs := [.agg [.d (.int .i64 0), .d (.int .i64 0)]]) (σ := []) (by kernel_rfl) Try.func13 rfl (.cons _ _ _ _ (.agg 4 33 1 0 [.d (.int .i64 0), .d (.int .i64 0)] [.d (.int .i64 0), .d (.int .i64 0)] _ _ _ _ (by kernel_rfl) (by kernel_rfl) Try.underlying33 (by kernel_rfl) ty33 (by kernel_rfl) (by kernel_rfl)) .nil) (by kernel_rfl) (by kernel_rfl) (by kernel_rfl) (by kernel_rfl) (by decide) (by kernel_rfl) (by kernel_rfl)
    · refine oCondF (by kernel_rfl) ?_
      refine oSkip ?_
      refine oSeq ?_
      refine oRegion rfl ?_
      refine oOp (.d (.lit (List.map e_SGiven l))) (by kernel_rfl) (by kernel_rfl) (PureV.does (p_move (by kernel_rfl))) ?_
      refine bIdx (fun e15 h111 h112 => ?_)
      refine oOp (.lptr (e_SGiven e15) 0) (by kernel_rfl) (by kernel_rfl) (PureV.does (k_idxLit e_SGiven_len l (a := e15) (by kernel_rfl) (k := .i64) (i := 0) (by kernel_rfl) Try.underlying30 ty38 h111 h112)) ?_
      refine oOp (.lptr (e_SGiven e15) 4) (by kernel_rfl) (by kernel_rfl) (PureV.does (k_fieldAddrL (cells := e_SGiven e15) 0 (by kernel_rfl) Try.underlying38 rfl ty3 (by kernel_rfl))) ?_
      refine oOp (.d (.int .i64 e15.Value)) (by kernel_rfl) (by kernel_rfl) (Quiet.does (k_loadL (cells := e_SGiven e15) 4 (by kernel_rfl) Try.underlying3 (by kernel_rfl) (by kernel_rfl))) ?_
      refine oOp (.d (.int .i64 (gmax e15.Value 0))) (by kernel_rfl) (by kernel_rfl) (PureV.does (p_max2 (k := .i64) (p := e15.Value) (q := 0) (by kernel_rfl) (by kernel_rfl) (by kernel_rfl))) ?_
      refine oOp (.d (.int .i64 (gmax e15.Value 0))) (by kernel_rfl) (by kernel_rfl) (PureV.does (p_assign (by kernel_rfl))) ?_
      refine oOp (.d (.int .i64 0)) (by kernel_rfl) (by kernel_rfl) (PureV.does (p_assign (by kernel_rfl))) ?_
      refine oOp (.d (.int .i64 0)) (by kernel_rfl) (by kernel_rfl) (PureV.does (p_assign (by kernel_rfl))) ?_
      refine oEnd ?_
      refine oSeq ?_
      refine oSeq ?_
      refine oRegion rfl ?_
      refine oOp (.d (.lit (List.map e_SGiven l))) (by kernel_rfl) (by kernel_rfl) (PureV.does (p_move (by kernel_rfl))) ?_
      refine oOp (.d (.int .i64 ((List.length l) : Int))) (by kernel_rfl) (by kernel_rfl) (PureV.does (k_lenLit (enc := e_SGiven) l (by kernel_rfl) Try.underlying30)) ?_
      refine oOp (.d (.int .i64 0)) (by kernel_rfl) (by kernel_rfl) (PureV.does (p_move (by kernel_rfl))) ?_
      refine oEnd ?_
      refine bJoin ((uc fun (sum5 : Int) => (uc fun (x16 : Int) => (fun (x17 : Int) => [(1, .d (.lit (List.map e_SGiven l))), (2, .ptr 0 0), (4, .ptr 1 0), (7, .d (.int .i64 sum5)), (8, .d (.int .i64 x16)), (9, .d (.int .i64 x17))])))) ((uc fun (sum5 : Int) => (uc fun (x16 : Int) => (fun (x17 : Int) => [.box [.d (.bool r0), .d (.int .i64 r1)], .box [.d (.int .i64 0), .d (.int .i64 0)]])))) (fun s => s) (fun s => ?_) (fun hj2 => ?_)
      · obtain ⟨sum5, x16, x17⟩ := s
        refine bUc ?_
        refine bUc ?_
        refine oView (T' := [(1, .d (.lit (List.map e_SGiven l))), (2, .ptr 0 0), (4, .ptr 1 0), (7, .d (.int .i64 sum5)), (8, .d (.int .i64 x16)), (9, .d (.int .i64 x17))]) (H' := [.box [.d (.bool r0), .d (.int .i64 r1)], .box [.d (.int .i64 0), .d (.int .i64 0)]]) (by kernel_rfl) (by kernel_rfl) ?_
        refine oSeq ?_
        refine oRegion rfl ?_
        refine oOp (.d (.lit (List.map e_SGiven l))) (by kernel_rfl) (by kernel_rfl) (PureV.does (p_move (by kernel_rfl))) ?_
        refine oOp (.d (.int .i64 ((List.length l) : Int))) (by kernel_rfl) (by kernel_rfl) (PureV.does (k_lenLit (enc := e_SGiven) l (by kernel_rfl) Try.underlying30)) ?_
        refine oOp (.d (.int .i64 ((List.length l) : Int))) (by kernel_rfl) (by kernel_rfl) (PureV.does (p_assign (by kernel_rfl))) ?_
        refine oEnd ?_
        refine oBlock ?_
        refine oSeq ?_
        refine oRegion rfl ?_
        refine oOp (.d (.int .i64 ((List.length l) : Int))) (by kernel_rfl) (by kernel_rfl) (PureV.does (p_move (by kernel_rfl))) ?_
        refine oOp (.d (.bool (((List.length l) : Int) == 1))) (by kernel_rfl) (by kernel_rfl) (PureV.does (p_int (k := .i64) (p := ((List.length l) : Int)) (q := 1) (by kernel_rfl) (by kernel_rfl) (by kernel_rfl))) ?_
        refine oOp (.d (.bool (((List.length l) : Int) == 1))) (by kernel_rfl) (by kernel_rfl) (PureV.does (p_move (by kernel_rfl))) ?_
        refine bMeetF (H' := [.box [.d (.bool r0), .d (.int .i64 r1)], .box [.d (.int .i64 0), .d (.int .i64 0)]]) 3 rfl ((fun (x18 : Bool) => [(2, .ptr 0 0), (4, .ptr 1 0), (7, .d (.int .i64 sum5)), (8, .d (.int .i64 x16)), (9, .d (.int .i64 x17)), (13, .d (.int .i64 ((List.length l) : Int))), (68, .d (.bool x18))])) (fun x18 => ?_) (fun F hj3 => ?_)
        · refine oView (T' := [(2, .ptr 0 0), (4, .ptr 1 0), (7, .d (.int .i64 sum5)), (8, .d (.int .i64 x16)), (9, .d (.int .i64 x17)), (13, .d (.int .i64 ((List.length l) : Int))), (68, .d (.bool x18))]) (H' := [.box [.d (.bool r0), .d (.int .i64 r1)], .box [.d (.int .i64 0), .d (.int .i64 0)]]) (by kernel_rfl) (by kernel_rfl) ?_
          refine oOp (.d (.bool x18)) (by kernel_rfl) (by kernel_rfl) (PureV.does (p_assign (by kernel_rfl))) ?_
          refine oEnd ?_
          refine bSplit 62 (by kernel_rfl) (fun hc => ?_) (fun hc => ?_)
          · refine oCondT (by kernel_rfl) ?_
            refine oSeq ?_
            refine oRegion rfl ?_
            refine oOp (.agg [.d (.int .i64 1), .d (.int .i64 0)]) (by kernel_rfl) (by kernel_rfl) (PureV.does (p_build bld33 (by kernel_rfl))) ?_
            refine oOp (.undef) (by kernel_rfl) (by kernel_rfl) (k_store (vs := [.d (.int .i64 1), .d (.int .i64 0)]) (H' := [.box [.d (.bool r0), .d (.int .i64 r1)], .box [.d (.int .i64 1), .d (.int .i64 0)]]) 1 0 (by kernel_rfl) ty33 (by kernel_rfl) (by kernel_rfl) (by kernel_rfl)) ?_
            refine oEnd ?_
            exact oRet (r0 := (1, 0)) (rv := .agg [.d (.int .i64 1), .d (.int .i64 0)]) (B := []) (vs := [.agg [.d (.int .i64 1), .d (.int .i64 0)]]) (σ := []) (by kernel_rfl) Try.func13 rfl (.cons _ _ _ _ (.agg 4 33 1 0 [.d (.int .i64 1), .d (.int .i64 0)] [.d (.int .i64 1), .d (.int .i64 0)] _ _ _ _ (by kernel_rfl) (by kernel_rfl) Try.underlying33 (by kernel_rfl) ty33 (by kernel_rfl) (by kernel_rfl)) .nil) (by kernel_rfl) (by kernel_rfl) (by kernel_rfl) (by kernel_rfl) (by decide) (by kernel_rfl) (by kernel_rfl)
          · refine oCondF (by kernel_rfl) ?_
            refine oSeq ?_
            refine oRegion rfl ?_
            refine oOp (.d (.int .i64 ((List.length l) : Int))) (by kernel_rfl) (by kernel_rfl) (PureV.does (p_move (by kernel_rfl))) ?_
            refine oOp (.d (.bool (decide (((List.length l) : Int) > 1)))) (by kernel_rfl) (by kernel_rfl) (PureV.does (p_int (k := .i64) (p := ((List.length l) : Int)) (q := 1) (by kernel_rfl) (by kernel_rfl) (by kernel_rfl))) ?_
            refine oOp (.d (.bool (decide (((List.length l) : Int) > 1)))) (by kernel_rfl) (by kernel_rfl) (PureV.does (p_move (by kernel_rfl))) ?_
            refine bMeet 7 rfl ((fun (x19 : Bool) => [(4, .ptr 0 0), (9, .d (.int .i64 x17)), (13, .d (.int .i64 ((List.length l) : Int))), (80, .d (.bool x19))])) ((fun (x19 : Bool) => [.box [.d (.int .i64 0), .d (.int .i64 0)]])) (fun s => s) (fun x19 => ?_) (fun hj4 => ?_)
            · refine oView (T' := [(4, .ptr 0 0), (9, .d (.int .i64 x17)), (13, .d (.int .i64 ((List.length l) : Int))), (80, .d (.bool x19))]) (H' := [.box [.d (.int .i64 0), .d (.int .i64 0)]]) (by kernel_rfl) (by kernel_rfl) ?_
              refine oOp (.d (.bool x19)) (by kernel_rfl) (by kernel_rfl) (PureV.does (p_assign (by kernel_rfl))) ?_
              refine oEnd ?_
              refine bSplit 70 (by kernel_rfl) (fun hc => ?_) (fun hc => ?_)
              · refine oCondT (by kernel_rfl) ?_
                refine oSeq ?_
                refine oRegion rfl ?_
                refine oOp (.agg [.d (.int .i64 2), .d (.int .i64 0)]) (by kernel_rfl) (by kernel_rfl) (PureV.does (p_build bld33 (by kernel_rfl))) ?_
                refine oOp (.undef) (by kernel_rfl) (by kernel_rfl) (k_store (vs := [.d (.int .i64 2), .d (.int .i64 0)]) (H' := [.box [.d (.int .i64 2), .d (.int .i64 0)]]) 0 0 (by kernel_rfl) ty33 (by kernel_rfl) (by kernel_rfl) (by kernel_rfl)) ?_
                refine oEnd ?_
                exact oRet (r0 := (2, 0)) (rv := .agg [.d (.int .i64 2), .d (.int .i64 0)]) (B := []) (vs := [.agg [.d (.int .i64 2), .d (.int .i64 0)]]) (σ := []) (by kernel_rfl) Try.func13 rfl (.cons _ _ _ _ (.agg 4 33 0 0 [.d (.int .i64 2), .d (.int .i64 0)] [.d (.int .i64 2), .d (.int .i64 0)] _ _ _ _ (by kernel_rfl) (by kernel_rfl) Try.underlying33 (by kernel_rfl) ty33 (by kernel_rfl) (by kernel_rfl)) .nil) (by kernel_rfl) (by kernel_rfl) (by kernel_rfl) (by kernel_rfl) (by decide) (by kernel_rfl) (by kernel_rfl)
              · refine oCondF (by kernel_rfl) ?_
                refine oSeq ?_
                refine oRegion rfl ?_
                refine oOp (.d (.int .i64 x17)) (by kernel_rfl) (by kernel_rfl) (PureV.does (p_move (by kernel_rfl))) ?_
                refine oOp (.d (.int .i64 (IntKind.wrap .i64 (2 * x17)))) (by kernel_rfl) (by kernel_rfl) (PureV.does (p_int (k := .i64) (p := 2) (q := x17) (by kernel_rfl) (by kernel_rfl) (by kernel_rfl))) ?_
                refine oOp (.d (.int .i64 ((List.length l) : Int))) (by kernel_rfl) (by kernel_rfl) (PureV.does (p_move (by kernel_rfl))) ?_
                refine oOp (.d (.int .i64 (IntKind.wrap .i64 ((IntKind.wrap .i64 (2 * x17)) + ((List.length l) : Int))))) (by kernel_rfl) (by kernel_rfl) (PureV.does (p_int (k := .i64) (p := (IntKind.wrap .i64 (2 * x17))) (q := ((List.length l) : Int)) (by kernel_rfl) (by kernel_rfl) (by kernel_rfl))) ?_
                refine oOp (.d (.int .i64 ((List.length l) : Int))) (by kernel_rfl) (by kernel_rfl) (PureV.does (p_move (by kernel_rfl))) ?_
                refine oOp (.d (.int .i64 (IntKind.wrap .i64 (2 * ((List.length l) : Int))))) (by kernel_rfl) (by kernel_rfl) (PureV.does (p_int (k := .i64) (p := 2) (q := ((List.length l) : Int)) (by kernel_rfl) (by kernel_rfl) (by kernel_rfl))) ?_
                refine bNz (fun h121 => ?_)
                refine oOp (.d (.int .i64 (IntKind.wrap .i64 (Int.tdiv (IntKind.wrap .i64 ((IntKind.wrap .i64 (2 * x17)) + ((List.length l) : Int))) (IntKind.wrap .i64 (2 * ((List.length l) : Int))))))) (by kernel_rfl) (by kernel_rfl) (PureV.does (p_quo (k := .i64) (p := (IntKind.wrap .i64 ((IntKind.wrap .i64 (2 * x17)) + ((List.length l) : Int)))) (q := (IntKind.wrap .i64 (2 * ((List.length l) : Int)))) (by kernel_rfl) (by kernel_rfl) h121 (by kernel_rfl))) ?_
                refine oOp (.agg [.d (.int .i64 3), .d (.int .i64 (IntKind.wrap .i64 (Int.tdiv (IntKind.wrap .i64 ((IntKind.wrap .i64 (2 * x17)) + ((List.length l) : Int))) (IntKind.wrap .i64 (2 * ((List.length l) : Int))))))]) (by kernel_rfl) (by kernel_rfl) (PureV.does (p_build bld33 (by kernel_rfl))) ?_
                refine oOp (.undef) (by kernel_rfl) (by kernel_rfl) (k_store (vs := [.d (.int .i64 3), .d (.int .i64 (IntKind.wrap .i64 (Int.tdiv (IntKind.wrap .i64 ((IntKind.wrap .i64 (2 * x17)) + ((List.length l) : Int))) (IntKind.wrap .i64 (2 * ((List.length l) : Int))))))]) (H' := [.box [.d (.int .i64 3), .d (.int .i64 (IntKind.wrap .i64 (Int.tdiv (IntKind.wrap .i64 ((IntKind.wrap .i64 (2 * x17)) + ((List.length l) : Int))) (IntKind.wrap .i64 (2 * ((List.length l) : Int))))))]]) 0 0 (by kernel_rfl) ty33 (by kernel_rfl) (by kernel_rfl) (by kernel_rfl)) ?_
                refine oEnd ?_
                exact oRet (r0 := (3, (IntKind.wrap .i64 (Int.tdiv (IntKind.wrap .i64 ((IntKind.wrap .i64 (2 * x17)) + ((List.length l) : Int))) (IntKind.wrap .i64 (2 * ((List.length l) : Int))))))) (rv := .agg [.d (.int .i64 3), .d (.int .i64 (IntKind.wrap .i64 (Int.tdiv (IntKind.wrap .i64 ((IntKind.wrap .i64 (2 * x17)) + ((List.length l) : Int))) (IntKind.wrap .i64 (2 * ((List.length l) : Int))))))]) (B := []) (vs := [.agg [.d (.int .i64 3), .d (.int .i64 (IntKind.wrap .i64 (Int.tdiv (IntKind.wrap .i64 ((IntKind.wrap .i64 (2 * x17)) + ((List.length l) : Int))) (IntKind.wrap .i64 (2 * ((List.length l) : Int))))))]]) (σ := []) (by kernel_rfl) Try.func13 rfl (.cons _ _ _ _ (.agg 4 33 0 0 [.d (.int .i64 3), .d (.int .i64 (IntKind.wrap .i64 (Int.tdiv (IntKind.wrap .i64 ((IntKind.wrap .i64 (2 * x17)) + ((List.length l) : Int))) (IntKind.wrap .i64 (2 * ((List.length l) : Int))))))] [.d (.int .i64 3), .d (.int .i64 (IntKind.wrap .i64 (Int.tdiv (IntKind.wrap .i64 ((IntKind.wrap .i64 (2 * x17)) + ((List.length l) : Int))) (IntKind.wrap .i64 (2 * ((List.length l) : Int))))))] _ _ _ _ (by kernel_rfl) (by kernel_rfl) Try.underlying33 (by kernel_rfl) ty33 (by kernel_rfl) (by kernel_rfl)) .nil) (by kernel_rfl) (by kernel_rfl) (by kernel_rfl) (by kernel_rfl) (by decide) (by kernel_rfl) (by kernel_rfl)
            · refine bSplit 73 (by kernel_rfl) (fun hc => ?_) (fun hc => ?_)
              · refine oOp (.d (.int .i64 x16)) (by kernel_rfl) (by kernel_rfl) (PureV.does (p_move (by kernel_rfl))) ?_
                refine oOp (.d (.int .i64 sum5)) (by kernel_rfl) (by kernel_rfl) (PureV.does (p_move (by kernel_rfl))) ?_
                refine oOp (.d (.int .i64 (IntKind.wrap .i64 (x16 - sum5)))) (by kernel_rfl) (by kernel_rfl) (PureV.does (p_int (k := .i64) (p := x16) (q := sum5) (by kernel_rfl) (by kernel_rfl) (by kernel_rfl))) ?_
                refine oOp (.ptr 0 1) (by kernel_rfl) (by kernel_rfl) (PureV.does (k_fieldAddr 0 0 (by kernel_rfl) Try.underlying28 rfl ty3 (by kernel_rfl))) ?_
                refine oOp (.d (.int .i64 r1)) (by kernel_rfl) (by kernel_rfl) (Quiet.does (k_load 0 1 (by kernel_rfl) Try.underlying3 (by kernel_rfl) (by kernel_rfl))) ?_
                refine oOp (.d (.bool (decide ((IntKind.wrap .i64 (x16 - sum5)) > r1)))) (by kernel_rfl) (by kernel_rfl) (PureV.does (p_int (k := .i64) (p := (IntKind.wrap .i64 (x16 - sum5))) (q := r1) (by kernel_rfl) (by kernel_rfl) (by kernel_rfl))) ?_
                refine oOp (.d (.bool (decide ((IntKind.wrap .i64 (x16 - sum5)) > r1)))) (by kernel_rfl) (by kernel_rfl) (PureV.does (p_pick (b := true) (by kernel_rfl) (by kernel_rfl))) ?_
                refine oHead [4, 9, 13, 80] [1] (T' := [(4, .ptr 0 0), (9, .d (.int .i64 x17)), (13, .d (.int .i64 ((List.length l) : Int))), (80, .d (.bool (decide ((IntKind.wrap .i64 (x16 - sum5)) > r1))))]) (H' := [.box [.d (.int .i64 0), .d (.int .i64 0)]]) (by kernel_rfl) (by kernel_rfl) (by kernel_rfl) (by kernel_rfl) (by decide) (by kernel_rfl) (by kernel_rfl) ?_
                exact hj4 (decide ((IntKind.wrap .i64 (x16 - sum5)) > r1))
              · refine oNot (by kernel_rfl) (by kernel_rfl) ?_
                refine oNot (by kernel_rfl) (by kernel_rfl) ?_
                refine oNot (by kernel_rfl) (by kernel_rfl) ?_
                refine oNot (by kernel_rfl) (by kernel_rfl) ?_
                refine oNot (by kernel_rfl) (by kernel_rfl) ?_
                refine oNot (by kernel_rfl) (by kernel_rfl) ?_
                refine oOp (.d (.bool false)) (by kernel_rfl) (by kernel_rfl) (PureV.does (p_pick (b := false) (by kernel_rfl) (by kernel_rfl))) ?_
                refine oHead [4, 9, 13, 80] [1] (T' := [(4, .ptr 0 0), (9, .d (.int .i64 x17)), (13, .d (.int .i64 ((List.length l) : Int))), (80, .d (.bool false))]) (H' := [.box [.d (.int .i64 0), .d (.int .i64 0)]]) (by kernel_rfl) (by kernel_rfl) (by kernel_rfl) (by kernel_rfl) (by decide) (by kernel_rfl) (by kernel_rfl) ?_
                exact hj4 false
        · refine bPickF 65 (fun c => F (c && r0)) (by kernel_rfl) (fun hc => ?_) (fun hc => ?_)
          · refine oOp (.ptr 0 0) (by kernel_rfl) (by kernel_rfl) (PureV.does (k_fieldAddr 0 0 (by kernel_rfl) Try.underlying28 rfl ty4 (by kernel_rfl))) ?_
            refine oOp (.d (.bool r0)) (by kernel_rfl) (by kernel_rfl) (Quiet.does (k_load 0 0 (by kernel_rfl) Try.underlying4 (by kernel_rfl) (by kernel_rfl))) ?_
            refine oOp (.d (.bool r0)) (by kernel_rfl) (by kernel_rfl) (PureV.does (p_pick (b := true) (by kernel_rfl) (by kernel_rfl))) ?_
            refine oHead [2, 4, 7, 8, 9, 13, 68] [0, 1] (T' := [(2, .ptr 0 0), (4, .ptr 1 0), (7, .d (.int .i64 sum5)), (8, .d (.int .i64 x16)), (9, .d (.int .i64 x17)), (13, .d (.int .i64 ((List.length l) : Int))), (68, .d (.bool r0))]) (H' := [.box [.d (.bool r0), .d (.int .i64 r1)], .box [.d (.int .i64 0), .d (.int .i64 0)]]) (by kernel_rfl) (by kernel_rfl) (by kernel_rfl) (by kernel_rfl) (by decide) (by kernel_rfl) (by kernel_rfl) ?_
            exact hj3 r0
          · refine oNot (by kernel_rfl) (by kernel_rfl) ?_
            refine oNot (by kernel_rfl) (by kernel_rfl) ?_
            refine oOp (.d (.bool false)) (by kernel_rfl) (by kernel_rfl) (PureV.does (p_pick (b := false) (by kernel_rfl) (by kernel_rfl))) ?_
            refine oHead [2, 4, 7, 8, 9, 13, 68] [0, 1] (T' := [(2, .ptr 0 0), (4, .ptr 1 0), (7, .d (.int .i64 sum5)), (8, .d (.int .i64 x16)), (9, .d (.int .i64 x17)), (13, .d (.int .i64 ((List.length l) : Int))), (68, .d (.bool false))]) (H' := [.box [.d (.bool r0), .d (.int .i64 r1)], .box [.d (.int .i64 0), .d (.int .i64 0)]]) (by kernel_rfl) (by kernel_rfl) (by kernel_rfl) (by kernel_rfl) (by decide) (by kernel_rfl) (by kernel_rfl) ?_
            exact hj3 false
      · refine oBlock ?_
        refine oLoop ?_
        refine oHead [1, 2, 4, 7, 8, 9, 33, 34, 35] [0, 1] (T' := [(1, .d (.lit (List.map e_SGiven l))), (2, .ptr 0 0), (4, .ptr 1 0), (7, .d (.int .i64 (gmax e15.Value 0))), (8, .d (.int .i64 0)), (9, .d (.int .i64 0)), (33, .d (.lit (List.map e_SGiven l))), (34, .d (.int .i64 ((List.length l) : Int))), (35, .d (.int .i64 0))]) (H' := [.box [.d (.bool r0), .d (.int .i64 r1)], .box [.d (.int .i64 0), .d (.int .i64 0)]]) (by kernel_rfl) (by kernel_rfl) (by kernel_rfl) (by kernel_rfl) (by decide) (by kernel_rfl) (by kernel_rfl) ?_
        refine bLoop (body := arbitration_Decide_b1 k l) ((uc fun (sum6 : Int) => (uc fun (x20 : Int) => (uc fun (x21 : Int) => (fun (x22 : Int) => [(1, .d (.lit (List.map e_SGiven l))), (2, .ptr 0 0), (4, .ptr 1 0), (7, .d (.int .i64 sum6)), (8, .d (.int .i64 x20)), (9, .d (.int .i64 x21)), (33, .d (.lit (List.map e_SGiven l))), (34, .d (.int .i64 ((List.length l) : Int))), (35, .d (.int .i64 x22))]))))) ((uc fun (sum6 : Int) => (uc fun (x20 : Int) => (uc fun (x21 : Int) => (fun (x22 : Int) => [.box [.d (.bool r0), .d (.int .i64 r1)], .box [.d (.int .i64 0), .d (.int .i64 0)]]))))) (fun again hag1 s => ?_) k ((gmax e15.Value 0), 0, 0, 0)
        · unfold arbitration_Decide_b1
          obtain ⟨sum6, x20, x21, x22⟩ := s
          refine bUc ?_
          refine bUc ?_
          refine bUc ?_
          refine oView (T' := [(1, .d (.lit (List.map e_SGiven l))), (2, .ptr 0 0), (4, .ptr 1 0), (7, .d (.int .i64 sum6)), (8, .d (.int .i64 x20)), (9, .d (.int .i64 x21)), (33, .d (.lit (List.map e_SGiven l))), (34, .d (.int .i64 ((List.length l) : Int))), (35, .d (.int .i64 x22))]) (H' := [.box [.d (.bool r0), .d (.int .i64 r1)], .box [.d (.int .i64 0), .d (.int .i64 0)]]) (by kernel_rfl) (by kernel_rfl) ?_
          refine oSeq ?_
          refine oRegion rfl ?_
          refine oOp (.d (.bool (decide (x22 < ((List.length l) : Int))))) (by kernel_rfl) (by kernel_rfl) (PureV.does (p_int (k := .i64) (p := x22) (q := ((List.length l) : Int)) (by kernel_rfl) (by kernel_rfl) (by kernel_rfl))) ?_
          refine oEnd ?_
          refine oSeq ?_
          refine bSplit 36 (by kernel_rfl) (fun hc => ?_) (fun hc => ?_)
          · refine oCondT (by kernel_rfl) ?_
            refine oSkip ?_
            refine oSeq ?_
            refine oBlock ?_
            refine oSeq ?_
            refine oRegion rfl ?_
            refine bIdx (fun e115 h132 h133 => ?_)
            refine oOp (.lptr (e_SGiven e115) 0) (by kernel_rfl) (by kernel_rfl) (PureV.does (k_idxLit e_SGiven_len l (a := e115) (by kernel_rfl) (k := .i64) (i := x22) (by kernel_rfl) Try.underlying30 ty38 h132 h133)) ?_
            refine oOp (.agg [.d (.int .i64 e115.Script), .d (.int .i64 e115.Part), .d (.int .i64 e115.Marker), .d (.int .i64 e115.Level), .d (.int .i64 e115.Value), .d (.int .i64 e115.Stamp_Time), .d (.int .i64 e115.Stamp_Source), .d (.int .i64 e115.Stamp_Seq)]) (by kernel_rfl) (by kernel_rfl) (Quiet.does (k_loadLAgg (cells := e_SGiven e115) 0 [(.int .i64 e115.Script), (.int .i64 e115.Part), (.int .i64 e115.Marker), (.int .i64 e115.Level), (.int .i64 e115.Value), (.int .i64 e115.Stamp_Time), (.int .i64 e115.Stamp_Source), (.int .i64 e115.Stamp_Seq)] (by kernel_rfl) Try.underlying38 (by kernel_rfl) ty38 (by kernel_rfl) (by kernel_rfl) (by kernel_rfl))) ?_
            refine oOp (.ptr 2 0) (by kernel_rfl) (by kernel_rfl) (k_alloc (H' := [.box [.d (.bool r0), .d (.int .i64 r1)], .box [.d (.int .i64 0), .d (.int .i64 0)], .box [.d (.int .i64 0), .d (.int .i64 0), .d (.int .i64 0), .d (.int .i64 0), .d (.int .i64 0), .d (.int .i64 0), .d (.int .i64 0), .d (.int .i64 0)]]) ty38 (by kernel_rfl) (by kernel_rfl)) ?_
            refine oOp (.undef) (by kernel_rfl) (by kernel_rfl) (k_store (vs := [.d (.int .i64 e115.Script), .d (.int .i64 e115.Part), .d (.int .i64 e115.Marker), .d (.int .i64 e115.Level), .d (.int .i64 e115.Value), .d (.int .i64 e115.Stamp_Time), .d (.int .i64 e115.Stamp_Source), .d (.int .i64 e115.Stamp_Seq)]) (H' := [.box [.d (.bool r0), .d (.int .i64 r1)], .box [.d (.int .i64 0), .d (.int .i64 0)], .box [.d (.int .i64 e115.Script), .d (.int .i64 e115.Part), .d (.int .i64 e115.Marker), .d (.int .i64 e115.Level), .d (.int .i64 e115.Value), .d (.int .i64 e115.Stamp_Time), .d (.int .i64 e115.Stamp_Source), .d (.int .i64 e115.Stamp_Seq)]]) 2 0 (by kernel_rfl) ty38 (by kernel_rfl) (by kernel_rfl) (by kernel_rfl)) ?_
            refine oEnd ?_
            refine oSeq ?_
            refine oRegion rfl ?_
            refine oOp (.ptr 2 4) (by kernel_rfl) (by kernel_rfl) (PureV.does (k_fieldAddr 2 0 (by kernel_rfl) Try.underlying38 rfl ty3 (by kernel_rfl))) ?_
            refine oOp (.d (.int .i64 e115.Value)) (by kernel_rfl) (by kernel_rfl) (Quiet.does (k_load 2 4 (by kernel_rfl) Try.underlying3 (by kernel_rfl) (by kernel_rfl))) ?_
            refine oOp (.d (.int .i64 (gmax e115.Value 0))) (by kernel_rfl) (by kernel_rfl) (PureV.does (p_max2 (k := .i64) (p := e115.Value) (q := 0) (by kernel_rfl) (by kernel_rfl) (by kernel_rfl))) ?_
            refine oOp (.d (.int .i64 (gmax e115.Value 0))) (by kernel_rfl) (by kernel_rfl) (PureV.does (p_assign (by kernel_rfl))) ?_
            refine oEnd ?_
            refine oRegion rfl ?_
            refine oOp (.d (.int .i64 sum6)) (by kernel_rfl) (by kernel_rfl) (PureV.does (p_move (by kernel_rfl))) ?_
            refine oOp (.d (.int .i64 (gmax e115.Value 0))) (by kernel_rfl) (by kernel_rfl) (PureV.does (p_move (by kernel_rfl))) ?_
            refine oOp (.d (.int .i64 (gmin sum6 (gmax e115.Value 0)))) (by kernel_rfl) (by kernel_rfl) (PureV.does (p_min2 (k := .i64) (p := sum6) (q := (gmax e115.Value 0)) (by kernel_rfl) (by kernel_rfl) (by kernel_rfl))) ?_
            refine oOp (.d (.int .i64 x20)) (by kernel_rfl) (by kernel_rfl) (PureV.does (p_move (by kernel_rfl))) ?_
            refine oOp (.d (.int .i64 (gmax e115.Value 0))) (by kernel_rfl) (by kernel_rfl) (PureV.does (p_move (by kernel_rfl))) ?_
            refine oOp (.d (.int .i64 (gmax x20 (gmax e115.Value 0)))) (by kernel_rfl) (by kernel_rfl) (PureV.does (p_max2 (k := .i64) (p := x20) (q := (gmax e115.Value 0)) (by kernel_rfl) (by kernel_rfl) (by kernel_rfl))) ?_
            refine oOp (.d (.int .i64 x21)) (by kernel_rfl) (by kernel_rfl) (PureV.does (p_move (by kernel_rfl))) ?_
            refine oOp (.d (.int .i64 (gmax e115.Value 0))) (by kernel_rfl) (by kernel_rfl) (PureV.does (p_move (by kernel_rfl))) ?_
            refine oOp (.d (.int .i64 (IntKind.wrap .i64 (x21 + (gmax e115.Value 0))))) (by kernel_rfl) (by kernel_rfl) (PureV.does (p_int (k := .i64) (p := x21) (q := (gmax e115.Value 0)) (by kernel_rfl) (by kernel_rfl) (by kernel_rfl))) ?_
            refine oOp (.d (.int .i64 (gmin sum6 (gmax e115.Value 0)))) (by kernel_rfl) (by kernel_rfl) (PureV.does (p_assign (by kernel_rfl))) ?_
            refine oOp (.d (.int .i64 (gmax x20 (gmax e115.Value 0)))) (by kernel_rfl) (by kernel_rfl) (PureV.does (p_assign (by kernel_rfl))) ?_
            refine oOp (.d (.int .i64 (IntKind.wrap .i64 (x21 + (gmax e115.Value 0))))) (by kernel_rfl) (by kernel_rfl) (PureV.does (p_assign (by kernel_rfl))) ?_
            refine oEnd ?_
            refine oBlk ?_
            refine oRegion rfl ?_
            refine oOp (.d (.int .i64 (IntKind.wrap .i64 (x22 + 1)))) (by kernel_rfl) (by kernel_rfl) (PureV.does (p_int (k := .i64) (p := x22) (q := 1) (by kernel_rfl) (by kernel_rfl) (by kernel_rfl))) ?_
            refine oOp (.d (.int .i64 (IntKind.wrap .i64 (x22 + 1)))) (by kernel_rfl) (by kernel_rfl) (PureV.does (p_move (by kernel_rfl))) ?_
            refine oEnd ?_
            refine oAgain ?_
            refine oHead [1, 2, 4, 7, 8, 9, 33, 34, 35] [0, 1] (T' := [(1, .d (.lit (List.map e_SGiven l))), (2, .ptr 0 0), (4, .ptr 1 0), (7, .d (.int .i64 (gmin sum6 (gmax e115.Value 0)))), (8, .d (.int .i64 (gmax x20 (gmax e115.Value 0)))), (9, .d (.int .i64 (IntKind.wrap .i64 (x21 + (gmax e115.Value 0))))), (33, .d (.lit (List.map e_SGiven l))), (34, .d (.int .i64 ((List.length l) : Int))), (35, .d (.int .i64 (IntKind.wrap .i64 (x22 + 1))))]) (H' := [.box [.d (.bool r0), .d (.int .i64 r1)], .box [.d (.int .i64 0), .d (.int .i64 0)]]) (by kernel_rfl) (by kernel_rfl) (by kernel_rfl) (by kernel_rfl) (by decide) (by kernel_rfl) (by kernel_rfl) ?_
            exact hag1 ((gmin sum6 (gmax e115.Value 0)), (gmax x20 (gmax e115.Value 0)), (IntKind.wrap .i64 (x21 + (gmax e115.Value 0))), (IntKind.wrap .i64 (x22 + 1)))
          · refine oCondF (by kernel_rfl) ?_
            refine oExit rfl ?_
            refine oHead [1, 2, 4, 7, 8, 9] [0, 1] (T' := [(1, .d (.lit (List.map e_SGiven l))), (2, .ptr 0 0), (4, .ptr 1 0), (7, .d (.int .i64 sum6)), (8, .d (.int .i64 x20)), (9, .d (.int .i64 x21))]) (H' := [.box [.d (.bool r0), .d (.int .i64 r1)], .box [.d (.int .i64 0), .d (.int .i64 0)]]) (by kernel_rfl) (by kernel_rfl) (by kernel_rfl) (by kernel_rfl) (by decide) (by kernel_rfl) (by kernel_rfl) ?_
            exact hj2 (sum6, x20, x21)

/-- awardingbody/arbitration.Check -/
def arbitration_Check (k : Nat) (r0 : Bool) (r1 : Int) : Option (Int) := blet ((decide (r1 < 0)) || (decide (r1 > 40))) fun x1 => bif x1 then some 2 else some 0
def arbitration_Check_E (r0 : Bool) (r1 : Int) : Int → V × List Blk := fun r11 => (.d (.int .i64 r11), [])
theorem arbitration_Check_goes (k : Nat) (r0 : Bool) (r1 : Int) : RunsO Try.prog 24 [.agg [.d (.bool r0), .d (.int .i64 r1)]] [] (arbitration_Check_E r0 r1) (arbitration_Check k r0 r1) := by
  refine RunsO.of_goes (N := 11) (m := 0) (T := [(0, .agg [.d (.bool r0), .d (.int .i64 r1)])]) Try.func24 rfl rfl (by kernel_rfl) (by kernel_rfl) (by kernel_rfl) ?_
  unfold arbitration_Check
  refine bStart ?_
  refine oSeq ?_
  refine oRegion rfl ?_
  refine oOp (.ptr 0 0) (by kernel_rfl) (by kernel_rfl) (k_box (H' := [.box [.d (.bool r0), .d (.int .i64 r1)]]) (cells := [.d (.bool r0), .d (.int .i64 r1)]) (by kernel_rfl) (by kernel_rfl) (by kernel_rfl)) ?_
  refine oOp (.d (.int .i64 0)) (by kernel_rfl) (by kernel_rfl) (PureV.does (p_assign (by kernel_rfl))) ?_
  refine oEnd ?_
  refine oSeq ?_
  refine oSeq ?_
  refine oRegion rfl ?_
  refine oOp (.ptr 0 1) (by kernel_rfl) (by kernel_rfl) (PureV.does (k_fieldAddr 0 0 (by kernel_rfl) Try.underlying28 rfl ty3 (by kernel_rfl))) ?_
  refine oOp (.d (.int .i64 r1)) (by kernel_rfl) (by kernel_rfl) (Quiet.does (k_load 0 1 (by kernel_rfl) Try.underlying3 (by kernel_rfl) (by kernel_rfl))) ?_
  refine oOp (.d (.bool (decide (r1 < 0)))) (by kernel_rfl) (by kernel_rfl) (PureV.does (p_int (k := .i64) (p := r1) (q := 0) (by kernel_rfl) (by kernel_rfl) (by kernel_rfl))) ?_
  refine oOp (.d (.bool (decide (r1 < 0)))) (by kernel_rfl) (by kernel_rfl) (PureV.does (p_move (by kernel_rfl))) ?_
  refine bMeetF (H' := []) 4 rfl ((fun (x1 : Bool) => [(10, .d (.bool x1))])) (fun x1 => ?_) (fun F hj1 => ?_)
  · refine oView (T' := [(10, .d (.bool x1))]) (H' := []) (by kernel_rfl) (by kernel_rfl) ?_
    refine oEnd ?_
    refine bSplit 10 (by kernel_rfl) (fun hc => ?_) (fun hc => ?_)
    · refine oCondT (by kernel_rfl) ?_
      refine oSeq ?_
      refine oRegion rfl ?_
      refine oOp (.d (.int .i64 2)) (by kernel_rfl) (by kernel_rfl) (PureV.does (p_assign (by kernel_rfl))) ?_
      refine oEnd ?_
      exact oRet (r0 := 2) (rv := .d (.int .i64 2)) (B := []) (vs := [.d (.int .i64 2)]) (σ := []) (by kernel_rfl) Try.func24 rfl (.cons _ _ _ _ (.tmp 2 _ (by kernel_rfl)) .nil) (by kernel_rfl) (by kernel_rfl) (by kernel_rfl) (by kernel_rfl) (by decide) (by kernel_rfl) (by kernel_rfl)
    · refine oCondF (by kernel_rfl) ?_
      refine oSkip ?_
      refine oSeq ?_
      refine oRegion rfl ?_
      refine oOp (.d (.int .i64 0)) (by kernel_rfl) (by kernel_rfl) (PureV.does (p_assign (by kernel_rfl))) ?_
      refine oEnd ?_
      exact oRet (r0 := 0) (rv := .d (.int .i64 0)) (B := []) (vs := [.d (.int .i64 0)]) (σ := []) (by kernel_rfl) Try.func24 rfl (.cons _ _ _ _ (.tmp 2 _ (by kernel_rfl)) .nil) (by kernel_rfl) (by kernel_rfl) (by kernel_rfl) (by kernel_rfl) (by decide) (by kernel_rfl) (by kernel_rfl)
  · refine bPickF 6 (fun c => F (c || (decide (r1 > 40)))) (by kernel_rfl) (fun hc => ?_) (fun hc => ?_)
    · refine oNot (by kernel_rfl) (by kernel_rfl) ?_
      refine oNot (by kernel_rfl) (by kernel_rfl) ?_
      refine oNot (by kernel_rfl) (by kernel_rfl) ?_
      refine oOp (.d (.bool true)) (by kernel_rfl) (by kernel_rfl) (PureV.does (p_pick (b := true) (by kernel_rfl) (by kernel_rfl))) ?_
      refine oHead [10] [] (T' := [(10, .d (.bool true))]) (H' := []) (by kernel_rfl) (by kernel_rfl) (by kernel_rfl) (by kernel_rfl) (by decide) (by kernel_rfl) (by kernel_rfl) ?_
      exact hj1 true
    · refine oOp (.ptr 0 1) (by kernel_rfl) (by kernel_rfl) (PureV.does (k_fieldAddr 0 0 (by kernel_rfl) Try.underlying28 rfl ty3 (by kernel_rfl))) ?_
      refine oOp (.d (.int .i64 r1)) (by kernel_rfl) (by kernel_rfl) (Quiet.does (k_load 0 1 (by kernel_rfl) Try.underlying3 (by kernel_rfl) (by kernel_rfl))) ?_
      refine oOp (.d (.bool (decide (r1 > 40)))) (by kernel_rfl) (by kernel_rfl) (PureV.does (p_int (k := .i64) (p := r1) (q := 40) (by kernel_rfl) (by kernel_rfl) (by kernel_rfl))) ?_
      refine oOp (.d (.bool (decide (r1 > 40)))) (by kernel_rfl) (by kernel_rfl) (PureV.does (p_pick (b := false) (by kernel_rfl) (by kernel_rfl))) ?_
      refine oHead [10] [] (T' := [(10, .d (.bool (decide (r1 > 40))))]) (H' := []) (by kernel_rfl) (by kernel_rfl) (by kernel_rfl) (by kernel_rfl) (by decide) (by kernel_rfl) (by kernel_rfl) ?_
      exact hj1 (decide (r1 > 40))

end Go.VM
