/- Plain functions that answer as the program's functions do, and the proof that they do. -/
import Derived.Test.YtdebnihlkdabpaaProg
import Derived.KernelRfl
import Derived.Test.YtdebnihlkdabpaaEngYM
import Derived.Test.YtdebnihlkdabpaaSeFacts
import Derived.Test.YtdebnihlkdabpaaSeFuns0
namespace Go.VM
open Go.Proofs
set_option linter.unusedVariables false
set_option linter.unusedSimpArgs false
set_option maxRecDepth 100000
/-- math/bits.Mul64 -/
def math_bits_Mul64 (k : Nat) (x : Int) (y : Int) : Option (Int × Int) := some ((IntKind.wrap .u64 ((IntKind.wrap .u64 ((IntKind.wrap .u64 ((Int.fdiv x (2 ^ (min (Int.toNat 32) (IntKind.bits .u64)))) * (Int.fdiv y (2 ^ (min (Int.toNat 32) (IntKind.bits .u64)))))) + (Int.fdiv (IntKind.wrap .u64 ((IntKind.wrap .u64 ((Int.fdiv x (2 ^ (min (Int.toNat 32) (IntKind.bits .u64)))) * (iand .u64 y 4294967295))) + (Int.fdiv (IntKind.wrap .u64 ((iand .u64 x 4294967295) * (iand .u64 y 4294967295))) (2 ^ (min (Int.toNat 32) (IntKind.bits .u64)))))) (2 ^ (min (Int.toNat 32) (IntKind.bits .u64)))))) + (Int.fdiv (IntKind.wrap .u64 ((iand .u64 (IntKind.wrap .u64 ((IntKind.wrap .u64 ((Int.fdiv x (2 ^ (min (Int.toNat 32) (IntKind.bits .u64)))) * (iand .u64 y 4294967295))) + (Int.fdiv (IntKind.wrap .u64 ((iand .u64 x 4294967295) * (iand .u64 y 4294967295))) (2 ^ (min (Int.toNat 32) (IntKind.bits .u64)))))) 4294967295) + (IntKind.wrap .u64 ((iand .u64 x 4294967295) * (Int.fdiv y (2 ^ (min (Int.toNat 32) (IntKind.bits .u64)))))))) (2 ^ (min (Int.toNat 32) (IntKind.bits .u64)))))), (IntKind.wrap .u64 (x * y)))
def math_bits_Mul64_E (x : Int) (y : Int) : Int × Int → V × List Blk := uc fun r1 => fun r11 => (.tuple [.d (.int .u64 r1), .d (.int .u64 r11)], [])
theorem math_bits_Mul64_goes (k : Nat) (x : Int) (y : Int) : RunsO Try.prog 81 [.d (.int .u64 x), .d (.int .u64 y)] [] (math_bits_Mul64_E x y) (math_bits_Mul64 k x y) := by
  refine RunsO.of_goes (N := 51) (m := 0) (T := [(0, .d (.int .u64 x)), (1, .d (.int .u64 y))]) Try.func81 rfl rfl (h := ?_)
  unfold math_bits_Mul64
  refine bStart ?_
  refine oSR rfl ?_
  refine oP (.d (.int .u64 0)) p_assign ?_
  refine oP (.d (.int .u64 0)) p_assign ?_
  refine oEnd ?_
  refine oSR rfl ?_
  refine oP (.d (.int .u64 x)) p_move ?_
  refine oP (.d (.int .u64 (iand .u64 x 4294967295))) (p_int (k := .u64) (p := x) (q := 4294967295)) ?_
  refine oP (.d (.int .u64 (iand .u64 x 4294967295))) p_assign ?_
  refine oEnd ?_
  refine oSR rfl ?_
  refine oP (.d (.int .u64 x)) p_move ?_
  refine oP (.d (.int .u64 (Int.fdiv x (2 ^ (min (Int.toNat 32) (IntKind.bits .u64)))))) (p_shr (k := .u64) (k2 := .u64) (p := x) (q := 32) (hq := by decide)) ?_
  refine oP (.d (.int .u64 (Int.fdiv x (2 ^ (min (Int.toNat 32) (IntKind.bits .u64)))))) p_assign ?_
  refine oEnd ?_
  refine oSR rfl ?_
  refine oP (.d (.int .u64 y)) p_move ?_
  refine oP (.d (.int .u64 (iand .u64 y 4294967295))) (p_int (k := .u64) (p := y) (q := 4294967295)) ?_
  refine oP (.d (.int .u64 (iand .u64 y 4294967295))) p_assign ?_
  refine oEnd ?_
  refine oSR rfl ?_
  refine oP (.d (.int .u64 y)) p_move ?_
  refine oP (.d (.int .u64 (Int.fdiv y (2 ^ (min (Int.toNat 32) (IntKind.bits .u64)))))) (p_shr (k := .u64) (k2 := .u64) (p := y) (q := 32) (hq := by decide)) ?_
  refine oP (.d (.int .u64 (Int.fdiv y (2 ^ (min (Int.toNat 32) (IntKind.bits .u64)))))) p_assign ?_
  refine oEnd ?_
  refine oSR rfl ?_
  refine oP (.d (.int .u64 (iand .u64 x 4294967295))) p_move ?_
  refine oP (.d (.int .u64 (iand .u64 y 4294967295))) p_move ?_
  refine oP (.d (.int .u64 (IntKind.wrap .u64 ((iand .u64 x 4294967295) * (iand .u64 y 4294967295))))) (p_int (k := .u64) (p := (iand .u64 x 4294967295)) (q := (iand .u64 y 4294967295))) ?_
  refine oP (.d (.int .u64 (IntKind.wrap .u64 ((iand .u64 x 4294967295) * (iand .u64 y 4294967295))))) p_assign ?_
  refine oEnd ?_
  refine oSR rfl ?_
  refine oP (.d (.int .u64 (Int.fdiv x (2 ^ (min (Int.toNat 32) (IntKind.bits .u64)))))) p_move ?_
  refine oP (.d (.int .u64 (iand .u64 y 4294967295))) p_move ?_
  refine oP (.d (.int .u64 (IntKind.wrap .u64 ((Int.fdiv x (2 ^ (min (Int.toNat 32) (IntKind.bits .u64)))) * (iand .u64 y 4294967295))))) (p_int (k := .u64) (p := (Int.fdiv x (2 ^ (min (Int.toNat 32) (IntKind.bits .u64))))) (q := (iand .u64 y 4294967295))) ?_
  refine oP (.d (.int .u64 (IntKind.wrap .u64 ((iand .u64 x 4294967295) * (iand .u64 y 4294967295))))) p_move ?_
  refine oP (.d (.int .u64 (Int.fdiv (IntKind.wrap .u64 ((iand .u64 x 4294967295) * (iand .u64 y 4294967295))) (2 ^ (min (Int.toNat 32) (IntKind.bits .u64)))))) (p_shr (k := .u64) (k2 := .u64) (p := (IntKind.wrap .u64 ((iand .u64 x 4294967295) * (iand .u64 y 4294967295)))) (q := 32) (hq := by decide)) ?_
  refine oP (.d (.int .u64 (IntKind.wrap .u64 ((IntKind.wrap .u64 ((Int.fdiv x (2 ^ (min (Int.toNat 32) (IntKind.bits .u64)))) * (iand .u64 y 4294967295))) + (Int.fdiv (IntKind.wrap .u64 ((iand .u64 x 4294967295) * (iand .u64 y 4294967295))) (2 ^ (min (Int.toNat 32) (IntKind.bits .u64)))))))) (p_int (k := .u64) (p := (IntKind.wrap .u64 ((Int.fdiv x (2 ^ (min (Int.toNat 32) (IntKind.bits .u64)))) * (iand .u64 y 4294967295)))) (q := (Int.fdiv (IntKind.wrap .u64 ((iand .u64 x 4294967295) * (iand .u64 y 4294967295))) (2 ^ (min (Int.toNat 32) (IntKind.bits .u64)))))) ?_
  refine oP (.d (.int .u64 (IntKind.wrap .u64 ((IntKind.wrap .u64 ((Int.fdiv x (2 ^ (min (Int.toNat 32) (IntKind.bits .u64)))) * (iand .u64 y 4294967295))) + (Int.fdiv (IntKind.wrap .u64 ((iand .u64 x 4294967295) * (iand .u64 y 4294967295))) (2 ^ (min (Int.toNat 32) (IntKind.bits .u64)))))))) p_assign ?_
  refine oEnd ?_
  refine oSR rfl ?_
  refine oP (.d (.int .u64 (IntKind.wrap .u64 ((IntKind.wrap .u64 ((Int.fdiv x (2 ^ (min (Int.toNat 32) (IntKind.bits .u64)))) * (iand .u64 y 4294967295))) + (Int.fdiv (IntKind.wrap .u64 ((iand .u64 x 4294967295) * (iand .u64 y 4294967295))) (2 ^ (min (Int.toNat 32) (IntKind.bits .u64)))))))) p_move ?_
  refine oP (.d (.int .u64 (iand .u64 (IntKind.wrap .u64 ((IntKind.wrap .u64 ((Int.fdiv x (2 ^ (min (Int.toNat 32) (IntKind.bits .u64)))) * (iand .u64 y 4294967295))) + (Int.fdiv (IntKind.wrap .u64 ((iand .u64 x 4294967295) * (iand .u64 y 4294967295))) (2 ^ (min (Int.toNat 32) (IntKind.bits .u64)))))) 4294967295))) (p_int (k := .u64) (p := (IntKind.wrap .u64 ((IntKind.wrap .u64 ((Int.fdiv x (2 ^ (min (Int.toNat 32) (IntKind.bits .u64)))) * (iand .u64 y 4294967295))) + (Int.fdiv (IntKind.wrap .u64 ((iand .u64 x 4294967295) * (iand .u64 y 4294967295))) (2 ^ (min (Int.toNat 32) (IntKind.bits .u64))))))) (q := 4294967295)) ?_
  refine oP (.d (.int .u64 (iand .u64 (IntKind.wrap .u64 ((IntKind.wrap .u64 ((Int.fdiv x (2 ^ (min (Int.toNat 32) (IntKind.bits .u64)))) * (iand .u64 y 4294967295))) + (Int.fdiv (IntKind.wrap .u64 ((iand .u64 x 4294967295) * (iand .u64 y 4294967295))) (2 ^ (min (Int.toNat 32) (IntKind.bits .u64)))))) 4294967295))) p_assign ?_
  refine oEnd ?_
  refine oSR rfl ?_
  refine oP (.d (.int .u64 (IntKind.wrap .u64 ((IntKind.wrap .u64 ((Int.fdiv x (2 ^ (min (Int.toNat 32) (IntKind.bits .u64)))) * (iand .u64 y 4294967295))) + (Int.fdiv (IntKind.wrap .u64 ((iand .u64 x 4294967295) * (iand .u64 y 4294967295))) (2 ^ (min (Int.toNat 32) (IntKind.bits .u64)))))))) p_move ?_
  refine oP (.d (.int .u64 (Int.fdiv (IntKind.wrap .u64 ((IntKind.wrap .u64 ((Int.fdiv x (2 ^ (min (Int.toNat 32) (IntKind.bits .u64)))) * (iand .u64 y 4294967295))) + (Int.fdiv (IntKind.wrap .u64 ((iand .u64 x 4294967295) * (iand .u64 y 4294967295))) (2 ^ (min (Int.toNat 32) (IntKind.bits .u64)))))) (2 ^ (min (Int.toNat 32) (IntKind.bits .u64)))))) (p_shr (k := .u64) (k2 := .u64) (p := (IntKind.wrap .u64 ((IntKind.wrap .u64 ((Int.fdiv x (2 ^ (min (Int.toNat 32) (IntKind.bits .u64)))) * (iand .u64 y 4294967295))) + (Int.fdiv (IntKind.wrap .u64 ((iand .u64 x 4294967295) * (iand .u64 y 4294967295))) (2 ^ (min (Int.toNat 32) (IntKind.bits .u64))))))) (q := 32) (hq := by decide)) ?_
  refine oP (.d (.int .u64 (Int.fdiv (IntKind.wrap .u64 ((IntKind.wrap .u64 ((Int.fdiv x (2 ^ (min (Int.toNat 32) (IntKind.bits .u64)))) * (iand .u64 y 4294967295))) + (Int.fdiv (IntKind.wrap .u64 ((iand .u64 x 4294967295) * (iand .u64 y 4294967295))) (2 ^ (min (Int.toNat 32) (IntKind.bits .u64)))))) (2 ^ (min (Int.toNat 32) (IntKind.bits .u64)))))) p_assign ?_
  refine oEnd ?_
  refine oSR rfl ?_
  refine oP (.d (.int .u64 (iand .u64 (IntKind.wrap .u64 ((IntKind.wrap .u64 ((Int.fdiv x (2 ^ (min (Int.toNat 32) (IntKind.bits .u64)))) * (iand .u64 y 4294967295))) + (Int.fdiv (IntKind.wrap .u64 ((iand .u64 x 4294967295) * (iand .u64 y 4294967295))) (2 ^ (min (Int.toNat 32) (IntKind.bits .u64)))))) 4294967295))) p_move ?_
  refine oP (.d (.int .u64 (iand .u64 x 4294967295))) p_move ?_
  refine oP (.d (.int .u64 (Int.fdiv y (2 ^ (min (Int.toNat 32) (IntKind.bits .u64)))))) p_move ?_
  refine oP (.d (.int .u64 (IntKind.wrap .u64 ((iand .u64 x 4294967295) * (Int.fdiv y (2 ^ (min (Int.toNat 32) (IntKind.bits .u64)))))))) (p_int (k := .u64) (p := (iand .u64 x 4294967295)) (q := (Int.fdiv y (2 ^ (min (Int.toNat 32) (IntKind.bits .u64)))))) ?_
  refine oP (.d (.int .u64 (IntKind.wrap .u64 ((iand .u64 (IntKind.wrap .u64 ((IntKind.wrap .u64 ((Int.fdiv x (2 ^ (min (Int.toNat 32) (IntKind.bits .u64)))) * (iand .u64 y 4294967295))) + (Int.fdiv (IntKind.wrap .u64 ((iand .u64 x 4294967295) * (iand .u64 y 4294967295))) (2 ^ (min (Int.toNat 32) (IntKind.bits .u64)))))) 4294967295) + (IntKind.wrap .u64 ((iand .u64 x 4294967295) * (Int.fdiv y (2 ^ (min (Int.toNat 32) (IntKind.bits .u64)))))))))) (p_int (k := .u64) (p := (iand .u64 (IntKind.wrap .u64 ((IntKind.wrap .u64 ((Int.fdiv x (2 ^ (min (Int.toNat 32) (IntKind.bits .u64)))) * (iand .u64 y 4294967295))) + (Int.fdiv (IntKind.wrap .u64 ((iand .u64 x 4294967295) * (iand .u64 y 4294967295))) (2 ^ (min (Int.toNat 32) (IntKind.bits .u64)))))) 4294967295)) (q := (IntKind.wrap .u64 ((iand .u64 x 4294967295) * (Int.fdiv y (2 ^ (min (Int.toNat 32) (IntKind.bits .u64)))))))) ?_
  refine oP (.d (.int .u64 (IntKind.wrap .u64 ((iand .u64 (IntKind.wrap .u64 ((IntKind.wrap .u64 ((Int.fdiv x (2 ^ (min (Int.toNat 32) (IntKind.bits .u64)))) * (iand .u64 y 4294967295))) + (Int.fdiv (IntKind.wrap .u64 ((iand .u64 x 4294967295) * (iand .u64 y 4294967295))) (2 ^ (min (Int.toNat 32) (IntKind.bits .u64)))))) 4294967295) + (IntKind.wrap .u64 ((iand .u64 x 4294967295) * (Int.fdiv y (2 ^ (min (Int.toNat 32) (IntKind.bits .u64)))))))))) p_assign ?_
  refine oEnd ?_
  refine oSR rfl ?_
  refine oP (.d (.int .u64 (Int.fdiv x (2 ^ (min (Int.toNat 32) (IntKind.bits .u64)))))) p_move ?_
  refine oP (.d (.int .u64 (Int.fdiv y (2 ^ (min (Int.toNat 32) (IntKind.bits .u64)))))) p_move ?_
  refine oP (.d (.int .u64 (IntKind.wrap .u64 ((Int.fdiv x (2 ^ (min (Int.toNat 32) (IntKind.bits .u64)))) * (Int.fdiv y (2 ^ (min (Int.toNat 32) (IntKind.bits .u64)))))))) (p_int (k := .u64) (p := (Int.fdiv x (2 ^ (min (Int.toNat 32) (IntKind.bits .u64))))) (q := (Int.fdiv y (2 ^ (min (Int.toNat 32) (IntKind.bits .u64)))))) ?_
  refine oP (.d (.int .u64 (Int.fdiv (IntKind.wrap .u64 ((IntKind.wrap .u64 ((Int.fdiv x (2 ^ (min (Int.toNat 32) (IntKind.bits .u64)))) * (iand .u64 y 4294967295))) + (Int.fdiv (IntKind.wrap .u64 ((iand .u64 x 4294967295) * (iand .u64 y 4294967295))) (2 ^ (min (Int.toNat 32) (IntKind.bits .u64)))))) (2 ^ (min (Int.toNat 32) (IntKind.bits .u64)))))) p_move ?_
  refine oP (.d (.int .u64 (IntKind.wrap .u64 ((IntKind.wrap .u64 ((Int.fdiv x (2 ^ (min (Int.toNat 32) (IntKind.bits .u64)))) * (Int.fdiv y (2 ^ (min (Int.toNat 32) (IntKind.bits .u64)))))) + (Int.fdiv (IntKind.wrap .u64 ((IntKind.wrap .u64 ((Int.fdiv x (2 ^ (min (Int.toNat 32) (IntKind.bits .u64)))) * (iand .u64 y 4294967295))) + (Int.fdiv (IntKind.wrap .u64 ((iand .u64 x 4294967295) * (iand .u64 y 4294967295))) (2 ^ (min (Int.toNat 32) (IntKind.bits .u64)))))) (2 ^ (min (Int.toNat 32) (IntKind.bits .u64)))))))) (p_int (k := .u64) (p := (IntKind.wrap .u64 ((Int.fdiv x (2 ^ (min (Int.toNat 32) (IntKind.bits .u64)))) * (Int.fdiv y (2 ^ (min (Int.toNat 32) (IntKind.bits .u64))))))) (q := (Int.fdiv (IntKind.wrap .u64 ((IntKind.wrap .u64 ((Int.fdiv x (2 ^ (min (Int.toNat 32) (IntKind.bits .u64)))) * (iand .u64 y 4294967295))) + (Int.fdiv (IntKind.wrap .u64 ((iand .u64 x 4294967295) * (iand .u64 y 4294967295))) (2 ^ (min (Int.toNat 32) (IntKind.bits .u64)))))) (2 ^ (min (Int.toNat 32) (IntKind.bits .u64)))))) ?_
  refine oP (.d (.int .u64 (IntKind.wrap .u64 ((iand .u64 (IntKind.wrap .u64 ((IntKind.wrap .u64 ((Int.fdiv x (2 ^ (min (Int.toNat 32) (IntKind.bits .u64)))) * (iand .u64 y 4294967295))) + (Int.fdiv (IntKind.wrap .u64 ((iand .u64 x 4294967295) * (iand .u64 y 4294967295))) (2 ^ (min (Int.toNat 32) (IntKind.bits .u64)))))) 4294967295) + (IntKind.wrap .u64 ((iand .u64 x 4294967295) * (Int.fdiv y (2 ^ (min (Int.toNat 32) (IntKind.bits .u64)))))))))) p_move ?_
  refine oP (.d (.int .u64 (Int.fdiv (IntKind.wrap .u64 ((iand .u64 (IntKind.wrap .u64 ((IntKind.wrap .u64 ((Int.fdiv x (2 ^ (min (Int.toNat 32) (IntKind.bits .u64)))) * (iand .u64 y 4294967295))) + (Int.fdiv (IntKind.wrap .u64 ((iand .u64 x 4294967295) * (iand .u64 y 4294967295))) (2 ^ (min (Int.toNat 32) (IntKind.bits .u64)))))) 4294967295) + (IntKind.wrap .u64 ((iand .u64 x 4294967295) * (Int.fdiv y (2 ^ (min (Int.toNat 32) (IntKind.bits .u64)))))))) (2 ^ (min (Int.toNat 32) (IntKind.bits .u64)))))) (p_shr (k := .u64) (k2 := .u64) (p := (IntKind.wrap .u64 ((iand .u64 (IntKind.wrap .u64 ((IntKind.wrap .u64 ((Int.fdiv x (2 ^ (min (Int.toNat 32) (IntKind.bits .u64)))) * (iand .u64 y 4294967295))) + (Int.fdiv (IntKind.wrap .u64 ((iand .u64 x 4294967295) * (iand .u64 y 4294967295))) (2 ^ (min (Int.toNat 32) (IntKind.bits .u64)))))) 4294967295) + (IntKind.wrap .u64 ((iand .u64 x 4294967295) * (Int.fdiv y (2 ^ (min (Int.toNat 32) (IntKind.bits .u64))))))))) (q := 32) (hq := by decide)) ?_
  refine oP (.d (.int .u64 (IntKind.wrap .u64 ((IntKind.wrap .u64 ((IntKind.wrap .u64 ((Int.fdiv x (2 ^ (min (Int.toNat 32) (IntKind.bits .u64)))) * (Int.fdiv y (2 ^ (min (Int.toNat 32) (IntKind.bits .u64)))))) + (Int.fdiv (IntKind.wrap .u64 ((IntKind.wrap .u64 ((Int.fdiv x (2 ^ (min (Int.toNat 32) (IntKind.bits .u64)))) * (iand .u64 y 4294967295))) + (Int.fdiv (IntKind.wrap .u64 ((iand .u64 x 4294967295) * (iand .u64 y 4294967295))) (2 ^ (min (Int.toNat 32) (IntKind.bits .u64)))))) (2 ^ (min (Int.toNat 32) (IntKind.bits .u64)))))) + (Int.fdiv (IntKind.wrap .u64 ((iand .u64 (IntKind.wrap .u64 ((IntKind.wrap .u64 ((Int.fdiv x (2 ^ (min (Int.toNat 32) (IntKind.bits .u64)))) * (iand .u64 y 4294967295))) + (Int.fdiv (IntKind.wrap .u64 ((iand .u64 x 4294967295) * (iand .u64 y 4294967295))) (2 ^ (min (Int.toNat 32) (IntKind.bits .u64)))))) 4294967295) + (IntKind.wrap .u64 ((iand .u64 x 4294967295) * (Int.fdiv y (2 ^ (min (Int.toNat 32) (IntKind.bits .u64)))))))) (2 ^ (min (Int.toNat 32) (IntKind.bits .u64)))))))) (p_int (k := .u64) (p := (IntKind.wrap .u64 ((IntKind.wrap .u64 ((Int.fdiv x (2 ^ (min (Int.toNat 32) (IntKind.bits .u64)))) * (Int.fdiv y (2 ^ (min (Int.toNat 32) (IntKind.bits .u64)))))) + (Int.fdiv (IntKind.wrap .u64 ((IntKind.wrap .u64 ((Int.fdiv x (2 ^ (min (Int.toNat 32) (IntKind.bits .u64)))) * (iand .u64 y 4294967295))) + (Int.fdiv (IntKind.wrap .u64 ((iand .u64 x 4294967295) * (iand .u64 y 4294967295))) (2 ^ (min (Int.toNat 32) (IntKind.bits .u64)))))) (2 ^ (min (Int.toNat 32) (IntKind.bits .u64))))))) (q := (Int.fdiv (IntKind.wrap .u64 ((iand .u64 (IntKind.wrap .u64 ((IntKind.wrap .u64 ((Int.fdiv x (2 ^ (min (Int.toNat 32) (IntKind.bits .u64)))) * (iand .u64 y 4294967295))) + (Int.fdiv (IntKind.wrap .u64 ((iand .u64 x 4294967295) * (iand .u64 y 4294967295))) (2 ^ (min (Int.toNat 32) (IntKind.bits .u64)))))) 4294967295) + (IntKind.wrap .u64 ((iand .u64 x 4294967295) * (Int.fdiv y (2 ^ (min (Int.toNat 32) (IntKind.bits .u64)))))))) (2 ^ (min (Int.toNat 32) (IntKind.bits .u64)))))) ?_
  refine oP (.d (.int .u64 (IntKind.wrap .u64 ((IntKind.wrap .u64 ((IntKind.wrap .u64 ((Int.fdiv x (2 ^ (min (Int.toNat 32) (IntKind.bits .u64)))) * (Int.fdiv y (2 ^ (min (Int.toNat 32) (IntKind.bits .u64)))))) + (Int.fdiv (IntKind.wrap .u64 ((IntKind.wrap .u64 ((Int.fdiv x (2 ^ (min (Int.toNat 32) (IntKind.bits .u64)))) * (iand .u64 y 4294967295))) + (Int.fdiv (IntKind.wrap .u64 ((iand .u64 x 4294967295) * (iand .u64 y 4294967295))) (2 ^ (min (Int.toNat 32) (IntKind.bits .u64)))))) (2 ^ (min (Int.toNat 32) (IntKind.bits .u64)))))) + (Int.fdiv (IntKind.wrap .u64 ((iand .u64 (IntKind.wrap .u64 ((IntKind.wrap .u64 ((Int.fdiv x (2 ^ (min (Int.toNat 32) (IntKind.bits .u64)))) * (iand .u64 y 4294967295))) + (Int.fdiv (IntKind.wrap .u64 ((iand .u64 x 4294967295) * (iand .u64 y 4294967295))) (2 ^ (min (Int.toNat 32) (IntKind.bits .u64)))))) 4294967295) + (IntKind.wrap .u64 ((iand .u64 x 4294967295) * (Int.fdiv y (2 ^ (min (Int.toNat 32) (IntKind.bits .u64)))))))) (2 ^ (min (Int.toNat 32) (IntKind.bits .u64)))))))) p_assign ?_
  refine oEnd ?_
  refine oSR rfl ?_
  refine oP (.d (.int .u64 x)) p_move ?_
  refine oP (.d (.int .u64 y)) p_move ?_
  refine oP (.d (.int .u64 (IntKind.wrap .u64 (x * y)))) (p_int (k := .u64) (p := x) (q := y)) ?_
  refine oP (.d (.int .u64 (IntKind.wrap .u64 (x * y)))) p_assign ?_
  refine oEnd ?_
  exact oRet (r0 := ((IntKind.wrap .u64 ((IntKind.wrap .u64 ((IntKind.wrap .u64 ((Int.fdiv x (2 ^ (min (Int.toNat 32) (IntKind.bits .u64)))) * (Int.fdiv y (2 ^ (min (Int.toNat 32) (IntKind.bits .u64)))))) + (Int.fdiv (IntKind.wrap .u64 ((IntKind.wrap .u64 ((Int.fdiv x (2 ^ (min (Int.toNat 32) (IntKind.bits .u64)))) * (iand .u64 y 4294967295))) + (Int.fdiv (IntKind.wrap .u64 ((iand .u64 x 4294967295) * (iand .u64 y 4294967295))) (2 ^ (min (Int.toNat 32) (IntKind.bits .u64)))))) (2 ^ (min (Int.toNat 32) (IntKind.bits .u64)))))) + (Int.fdiv (IntKind.wrap .u64 ((iand .u64 (IntKind.wrap .u64 ((IntKind.wrap .u64 ((Int.fdiv x (2 ^ (min (Int.toNat 32) (IntKind.bits .u64)))) * (iand .u64 y 4294967295))) + (Int.fdiv (IntKind.wrap .u64 ((iand .u64 x 4294967295) * (iand .u64 y 4294967295))) (2 ^ (min (Int.toNat 32) (IntKind.bits .u64)))))) 4294967295) + (IntKind.wrap .u64 ((iand .u64 x 4294967295) * (Int.fdiv y (2 ^ (min (Int.toNat 32) (IntKind.bits .u64)))))))) (2 ^ (min (Int.toNat 32) (IntKind.bits .u64)))))), (IntKind.wrap .u64 (x * y)))) (rv := .tuple [.d (.int .u64 (IntKind.wrap .u64 ((IntKind.wrap .u64 ((IntKind.wrap .u64 ((Int.fdiv x (2 ^ (min (Int.toNat 32) (IntKind.bits .u64)))) * (Int.fdiv y (2 ^ (min (Int.toNat 32) (IntKind.bits .u64)))))) + (Int.fdiv (IntKind.wrap .u64 ((IntKind.wrap .u64 ((Int.fdiv x (2 ^ (min (Int.toNat 32) (IntKind.bits .u64)))) * (iand .u64 y 4294967295))) + (Int.fdiv (IntKind.wrap .u64 ((iand .u64 x 4294967295) * (iand .u64 y 4294967295))) (2 ^ (min (Int.toNat 32) (IntKind.bits .u64)))))) (2 ^ (min (Int.toNat 32) (IntKind.bits .u64)))))) + (Int.fdiv (IntKind.wrap .u64 ((iand .u64 (IntKind.wrap .u64 ((IntKind.wrap .u64 ((Int.fdiv x (2 ^ (min (Int.toNat 32) (IntKind.bits .u64)))) * (iand .u64 y 4294967295))) + (Int.fdiv (IntKind.wrap .u64 ((iand .u64 x 4294967295) * (iand .u64 y 4294967295))) (2 ^ (min (Int.toNat 32) (IntKind.bits .u64)))))) 4294967295) + (IntKind.wrap .u64 ((iand .u64 x 4294967295) * (Int.fdiv y (2 ^ (min (Int.toNat 32) (IntKind.bits .u64)))))))) (2 ^ (min (Int.toNat 32) (IntKind.bits .u64))))))), .d (.int .u64 (IntKind.wrap .u64 (x * y)))]) (B := []) (vs := [.d (.int .u64 (IntKind.wrap .u64 ((IntKind.wrap .u64 ((IntKind.wrap .u64 ((Int.fdiv x (2 ^ (min (Int.toNat 32) (IntKind.bits .u64)))) * (Int.fdiv y (2 ^ (min (Int.toNat 32) (IntKind.bits .u64)))))) + (Int.fdiv (IntKind.wrap .u64 ((IntKind.wrap .u64 ((Int.fdiv x (2 ^ (min (Int.toNat 32) (IntKind.bits .u64)))) * (iand .u64 y 4294967295))) + (Int.fdiv (IntKind.wrap .u64 ((iand .u64 x 4294967295) * (iand .u64 y 4294967295))) (2 ^ (min (Int.toNat 32) (IntKind.bits .u64)))))) (2 ^ (min (Int.toNat 32) (IntKind.bits .u64)))))) + (Int.fdiv (IntKind.wrap .u64 ((iand .u64 (IntKind.wrap .u64 ((IntKind.wrap .u64 ((Int.fdiv x (2 ^ (min (Int.toNat 32) (IntKind.bits .u64)))) * (iand .u64 y 4294967295))) + (Int.fdiv (IntKind.wrap .u64 ((iand .u64 x 4294967295) * (iand .u64 y 4294967295))) (2 ^ (min (Int.toNat 32) (IntKind.bits .u64)))))) 4294967295) + (IntKind.wrap .u64 ((iand .u64 x 4294967295) * (Int.fdiv y (2 ^ (min (Int.toNat 32) (IntKind.bits .u64)))))))) (2 ^ (min (Int.toNat 32) (IntKind.bits .u64))))))), .d (.int .u64 (IntKind.wrap .u64 (x * y)))]) (σ := []) (hf := Try.func81) (hrs := rfl) (hres := .cons _ _ _ _ (.tmp 4 _ (by kernel_rfl)) (.cons _ _ _ _ (.tmp 5 _ (by kernel_rfl)) .nil)) (hnd := by decide)

/-- awardingbody/ratio.times -/
def ratio_times (k : Nat) (n : Int) (by1 : Int) : Option (Int × Int) := Option.bind (ratio_abs k n) (fun r14 => Option.bind (math_bits_Mul64 k r14 by1) (uc fun r15 => fun r112 => some (r15, r112)))
def ratio_times_E (n : Int) (by1 : Int) : Int × Int → V × List Blk := uc fun r12 => fun r13 => (.agg [.d (.bool (decide (n < 0))), .d (.int .u64 r12), .d (.int .u64 r13)], [])
theorem ratio_times_goes (k : Nat) (n : Int) (by1 : Int) : RunsO Try.prog 92 [.d (.int .i64 n), .d (.int .u64 by1)] [] (ratio_times_E n by1) (ratio_times k n by1) := by
  refine RunsO.of_goes (N := 19) (m := 0) (T := [(0, .d (.int .i64 n)), (1, .d (.int .u64 by1))]) Try.func92 rfl rfl (h := ?_)
  unfold ratio_times
  refine bStart ?_
  refine oSR rfl ?_
  refine oD (.ptr 0 0) (k_alloc (H' := [.box [.d (.bool false), .d (.int .u64 0), .d (.int .u64 0)]]) ty106) ?_
  refine oEnd ?_
  refine oSR rfl ?_
  refine oP (.d (.int .i64 n)) p_move ?_
  refine bCall (caps := []) (v := (fun (r14 : Int) => (.d (.int .u64 r14) : V))) (H' := (fun (r14 : Int) => ([.box [.d (.bool false), .d (.int .u64 0), .d (.int .u64 0)]] : List Blk))) [] _ (ratio_abs_goes k n) (ho := rfl) (hfn := Try.func66) (hb := rfl) (hconv := ConvRs.refl _ _) (hnd := by decide) (hBl := fun _ => (by kernel_rfl)) (hv := fun _ => (by kernel_rfl)) (hH' := fun _ => (by kernel_rfl)) (h := fun r14 => ?_)
  refine oP (.d (.int .u64 by1)) p_move ?_
  refine bCall (caps := []) (v := (uc fun (r15 : Int) => (fun (r112 : Int) => (.tuple [.d (.int .u64 r15), .d (.int .u64 r112)] : V)))) (H' := (uc fun (r15 : Int) => (fun (r112 : Int) => ([.box [.d (.bool false), .d (.int .u64 0), .d (.int .u64 0)]] : List Blk)))) [] _ (math_bits_Mul64_goes k r14 by1) (ho := rfl) (hfn := Try.func81) (hb := rfl) (hconv := ConvRs.refl _ _) (hnd := by decide) (hBl := fun _ => (by kernel_rfl)) (hv := fun _ => (by kernel_rfl)) (hH' := fun _ => (by kernel_rfl)) (h := fun r => ?_)
  obtain ⟨r15, r112⟩ := r
  refine bUc ?_
  refine oP (.tuple [.d (.int .u64 r15), .d (.int .u64 r112)]) p_move ?_
  refine oP (.d (.int .u64 r15)) k_extract ?_
  refine oP (.d (.int .u64 r112)) k_extract ?_
  refine oP (.d (.int .u64 r15)) p_assign ?_
  refine oP (.d (.int .u64 r112)) p_assign ?_
  refine oEnd ?_
  refine oSR rfl ?_
  refine oP (.d (.int .i64 n)) p_move ?_
  refine oP (.d (.bool (decide (n < 0)))) (p_int (k := .i64) (p := n) (q := 0)) ?_
  refine oP (.d (.int .u64 r15)) p_move ?_
  refine oP (.d (.int .u64 r112)) p_move ?_
  refine oP (.agg [.d (.bool (decide (n < 0))), .d (.int .u64 r15), .d (.int .u64 r112)]) (p_build bld106) ?_
  refine oD (.undef) (k_store (vs := [.d (.bool (decide (n < 0))), .d (.int .u64 r15), .d (.int .u64 r112)]) (H' := [.box [.d (.bool (decide (n < 0))), .d (.int .u64 r15), .d (.int .u64 r112)]]) 0 0 (hi := ty106)) ?_
  refine oEnd ?_
  exact oRet (r0 := (r15, r112)) (rv := .agg [.d (.bool (decide (n < 0))), .d (.int .u64 r15), .d (.int .u64 r112)]) (B := []) (vs := [.agg [.d (.bool (decide (n < 0))), .d (.int .u64 r15), .d (.int .u64 r112)]]) (σ := []) (hf := Try.func92) (hrs := rfl) (hres := .cons _ _ _ _ (.agg 4 106 0 0 [.d (.bool (decide (n < 0))), .d (.int .u64 r15), .d (.int .u64 r112)] [.d (.bool (decide (n < 0))), .d (.int .u64 r15), .d (.int .u64 r112)] _ _ _ _ (by kernel_rfl) (by kernel_rfl) Try.underlying106 (by kernel_rfl) ty106 (by kernel_rfl) (by kernel_rfl)) .nil) (hnd := by decide)

/-- (awardingbody/ratio.wide).compare -/
def ratio_wide_compare (k : Nat) (w0 : Bool) (w1 : Int) (w2 : Int) (v0 : Bool) (v1 : Int) (v2 : Int) : Option (Int) := blet ((w1 != v1) && (decide (w1 < v1))) fun x13 => Option.bind (bif x13 then some true else blet ((w1 == v1) && (decide (w2 < v2))) fun x18 => some x18 : Option (Bool)) (fun x15 => bif x15 then some (-1) else blet ((w1 == v1) && (w2 == v2)) fun x17 => bif x17 then some 0 else some 1)
def ratio_wide_compare_E (w0 : Bool) (w1 : Int) (w2 : Int) (v0 : Bool) (v1 : Int) (v2 : Int) : Int → V × List Blk := fun r1 => (.d (.int .i64 r1), [])
theorem ratio_wide_compare_goes (k : Nat) (w0 : Bool) (w1 : Int) (w2 : Int) (v0 : Bool) (v1 : Int) (v2 : Int) : RunsO Try.prog 100 [.agg [.d (.bool w0), .d (.int .u64 w1), .d (.int .u64 w2)], .agg [.d (.bool v0), .d (.int .u64 v1), .d (.int .u64 v2)]] [] (ratio_wide_compare_E w0 w1 w2 v0 v1 v2) (ratio_wide_compare k w0 w1 w2 v0 v1 v2) := by
  refine RunsO.of_goes (N := 43) (m := 0) (T := [(0, .agg [.d (.bool w0), .d (.int .u64 w1), .d (.int .u64 w2)]), (1, .agg [.d (.bool v0), .d (.int .u64 v1), .d (.int .u64 v2)])]) Try.func100 rfl rfl (h := ?_)
  unfold ratio_wide_compare
  refine bStart ?_
  refine oSR rfl ?_
  refine oD (.ptr 0 0) (k_box (H' := [.box [.d (.bool w0), .d (.int .u64 w1), .d (.int .u64 w2)]]) (cells := [.d (.bool w0), .d (.int .u64 w1), .d (.int .u64 w2)])) ?_
  refine oD (.ptr 1 0) (k_box (H' := [.box [.d (.bool w0), .d (.int .u64 w1), .d (.int .u64 w2)], .box [.d (.bool v0), .d (.int .u64 v1), .d (.int .u64 v2)]]) (cells := [.d (.bool v0), .d (.int .u64 v1), .d (.int .u64 v2)])) ?_
  refine oP (.d (.int .i64 0)) p_assign ?_
  refine oEnd ?_
  refine oSeq ?_
  refine oBlock ?_
  refine oSeq ?_
  refine oSR rfl ?_
  refine oP (.ptr 0 1) (k_fieldAddr 0 0 (hu := Try.underlying106) (hf := rfl) (hi := ty62)) ?_
  refine oQ (.d (.int .u64 w1)) (k_load 0 1 (hu := Try.underlying62)) ?_
  refine oP (.ptr 1 1) (k_fieldAddr 1 0 (hu := Try.underlying106) (hf := rfl) (hi := ty62)) ?_
  refine oQ (.d (.int .u64 v1)) (k_load 1 1 (hu := Try.underlying62)) ?_
  refine oP (.d (.bool (w1 != v1))) (p_int (k := .u64) (p := w1) (q := v1)) ?_
  refine oP (.d (.bool (w1 != v1))) p_move ?_
  refine bMeetF (H' := [.box [.d (.bool w0), .d (.int .u64 w1), .d (.int .u64 w2)], .box [.d (.bool v0), .d (.int .u64 v1), .d (.int .u64 v2)]]) 6 rfl ((fun (x13 : Bool) => [(2, .ptr 0 0), (3, .ptr 1 0), (17, .d (.bool x13))])) (fun x13 => ?_) (fun F hj4 => ?_)
  ·refine oView (T' := [(2, .ptr 0 0), (3, .ptr 1 0), (17, .d (.bool x13))]) (H' := [.box [.d (.bool w0), .d (.int .u64 w1), .d (.int .u64 w2)], .box [.d (.bool v0), .d (.int .u64 v1), .d (.int .u64 v2)]]) (h := ?_)
   refine oP (.d (.bool x13)) p_assign ?_
   refine oEnd ?_
   refine bJoin ((fun (x15 : Bool) => [(2, .ptr 0 0), (3, .ptr 1 0), (5, .d (.bool x15))])) ((fun (x15 : Bool) => [.box [.d (.bool w0), .d (.int .u64 w1), .d (.int .u64 w2)], .box [.d (.bool v0), .d (.int .u64 v1), .d (.int .u64 v2)]])) (fun s => s) (fun x15 => ?_) (fun hj5 => ?_)
   ·refine oView (T' := [(2, .ptr 0 0), (3, .ptr 1 0), (5, .d (.bool x15))]) (H' := [.box [.d (.bool w0), .d (.int .u64 w1), .d (.int .u64 w2)], .box [.d (.bool v0), .d (.int .u64 v1), .d (.int .u64 v2)]]) (h := ?_)
    refine bSplit 5 (h1 := fun hc => ?_) (h2 := fun hc => ?_)
    ·refine oCondT (h := ?_)
     refine oSR rfl ?_
     refine oP (.d (.int .i64 (-1))) p_assign ?_
     refine oEnd ?_
     exact oRet (r0 := (-1)) (rv := .d (.int .i64 (-1))) (B := []) (vs := [.d (.int .i64 (-1))]) (σ := []) (hf := Try.func100) (hrs := rfl) (hres := .cons _ _ _ _ (.tmp 4 _ (by kernel_rfl)) .nil) (hnd := by decide)
    ·refine oCondF (h := ?_)
     refine oSR rfl ?_
     refine oP (.ptr 0 1) (k_fieldAddr 0 0 (hu := Try.underlying106) (hf := rfl) (hi := ty62)) ?_
     refine oQ (.d (.int .u64 w1)) (k_load 0 1 (hu := Try.underlying62)) ?_
     refine oP (.ptr 1 1) (k_fieldAddr 1 0 (hu := Try.underlying106) (hf := rfl) (hi := ty62)) ?_
     refine oQ (.d (.int .u64 v1)) (k_load 1 1 (hu := Try.underlying62)) ?_
     refine oP (.d (.bool (w1 == v1))) (p_int (k := .u64) (p := w1) (q := v1)) ?_
     refine oP (.d (.bool (w1 == v1))) p_move ?_
     refine bMeetF (H' := []) 6 rfl ((fun (x17 : Bool) => [(42, .d (.bool x17))])) (fun x17 => ?_) (fun F hj6 => ?_)
     ·refine oView (T' := [(42, .d (.bool x17))]) (H' := []) (h := ?_)
      refine oP (.d (.bool x17)) p_assign ?_
      refine oEnd ?_
      refine bSplit 30 (h1 := fun hc => ?_) (h2 := fun hc => ?_)
      ·refine oCondT (h := ?_)
       refine oSR rfl ?_
       refine oP (.d (.int .i64 0)) p_assign ?_
       refine oEnd ?_
       exact oRet (r0 := 0) (rv := .d (.int .i64 0)) (B := []) (vs := [.d (.int .i64 0)]) (σ := []) (hf := Try.func100) (hrs := rfl) (hres := .cons _ _ _ _ (.tmp 4 _ (by kernel_rfl)) .nil) (hnd := by decide)
      ·refine oCondF (h := ?_)
       refine oSkip ?_
       refine oBlk ?_
       refine oSR rfl ?_
       refine oP (.d (.int .i64 1)) p_assign ?_
       refine oEnd ?_
       exact oRet (r0 := 1) (rv := .d (.int .i64 1)) (B := []) (vs := [.d (.int .i64 1)]) (σ := []) (hf := Try.func100) (hrs := rfl) (hres := .cons _ _ _ _ (.tmp 4 _ (by kernel_rfl)) .nil) (hnd := by decide)
     ·refine bPickF 36 (fun c => F (c && (w2 == v2))) (h1 := fun hc => ?_) (h2 := fun hc => ?_)
      ·refine oP (.ptr 0 2) (k_fieldAddr 0 0 (hu := Try.underlying106) (hf := rfl) (hi := ty62)) ?_
       refine oQ (.d (.int .u64 w2)) (k_load 0 2 (hu := Try.underlying62)) ?_
       refine oP (.ptr 1 2) (k_fieldAddr 1 0 (hu := Try.underlying106) (hf := rfl) (hi := ty62)) ?_
       refine oQ (.d (.int .u64 v2)) (k_load 1 2 (hu := Try.underlying62)) ?_
       refine oP (.d (.bool (w2 == v2))) (p_int (k := .u64) (p := w2) (q := v2)) ?_
       refine oP (.d (.bool (w2 == v2))) (p_pick (b := true)) ?_
       refine oHead [42] [] (T' := [(42, .d (.bool (w2 == v2)))]) (H' := []) (hnd := by decide) (h := ?_)
       exact hj6 (w2 == v2)
      ·refine oNot (h := ?_)
       refine oNot (h := ?_)
       refine oNot (h := ?_)
       refine oNot (h := ?_)
       refine oNot (h := ?_)
       refine oP (.d (.bool false)) (p_pick (b := false)) ?_
       refine oHead [42] [] (T' := [(42, .d (.bool false))]) (H' := []) (hnd := by decide) (h := ?_)
       exact hj6 false
   ·refine bSplit 5 (h1 := fun hc => ?_) (h2 := fun hc => ?_)
    ·refine oCondT (h := ?_)
     refine oSkip ?_
     refine oHead [2, 3, 5] [0, 1] (T' := [(2, .ptr 0 0), (3, .ptr 1 0), (5, .d (.bool true))]) (H' := [.box [.d (.bool w0), .d (.int .u64 w1), .d (.int .u64 w2)], .box [.d (.bool v0), .d (.int .u64 v1), .d (.int .u64 v2)]]) (hnd := by decide) (h := ?_)
     exact hj5 true
    ·refine oCondF (h := ?_)
     refine oRegion rfl ?_
     refine oP (.ptr 0 1) (k_fieldAddr 0 0 (hu := Try.underlying106) (hf := rfl) (hi := ty62)) ?_
     refine oQ (.d (.int .u64 w1)) (k_load 0 1 (hu := Try.underlying62)) ?_
     refine oP (.ptr 1 1) (k_fieldAddr 1 0 (hu := Try.underlying106) (hf := rfl) (hi := ty62)) ?_
     refine oQ (.d (.int .u64 v1)) (k_load 1 1 (hu := Try.underlying62)) ?_
     refine oP (.d (.bool (w1 == v1))) (p_int (k := .u64) (p := w1) (q := v1)) ?_
     refine oP (.d (.bool (w1 == v1))) p_move ?_
     refine bMeetF (H' := [.box [.d (.bool w0), .d (.int .u64 w1), .d (.int .u64 w2)], .box [.d (.bool v0), .d (.int .u64 v1), .d (.int .u64 v2)]]) 6 rfl ((fun (x18 : Bool) => [(2, .ptr 0 0), (3, .ptr 1 0), (29, .d (.bool x18))])) (fun x18 => ?_) (fun F hj7 => ?_)
     ·refine oView (T' := [(2, .ptr 0 0), (3, .ptr 1 0), (29, .d (.bool x18))]) (H' := [.box [.d (.bool w0), .d (.int .u64 w1), .d (.int .u64 w2)], .box [.d (.bool v0), .d (.int .u64 v1), .d (.int .u64 v2)]]) (h := ?_)
      refine oP (.d (.bool x18)) p_assign ?_
      refine oEnd ?_
      refine oHead [2, 3, 5] [0, 1] (T' := [(2, .ptr 0 0), (3, .ptr 1 0), (5, .d (.bool x18))]) (H' := [.box [.d (.bool w0), .d (.int .u64 w1), .d (.int .u64 w2)], .box [.d (.bool v0), .d (.int .u64 v1), .d (.int .u64 v2)]]) (hnd := by decide) (h := ?_)
      exact hj5 x18
     ·refine bPickF 23 (fun c => F (c && (decide (w2 < v2)))) (h1 := fun hc => ?_) (h2 := fun hc => ?_)
      ·refine oP (.ptr 0 2) (k_fieldAddr 0 0 (hu := Try.underlying106) (hf := rfl) (hi := ty62)) ?_
       refine oQ (.d (.int .u64 w2)) (k_load 0 2 (hu := Try.underlying62)) ?_
       refine oP (.ptr 1 2) (k_fieldAddr 1 0 (hu := Try.underlying106) (hf := rfl) (hi := ty62)) ?_
       refine oQ (.d (.int .u64 v2)) (k_load 1 2 (hu := Try.underlying62)) ?_
       refine oP (.d (.bool (decide (w2 < v2)))) (p_int (k := .u64) (p := w2) (q := v2)) ?_
       refine oP (.d (.bool (decide (w2 < v2)))) (p_pick (b := true)) ?_
       refine oHead [2, 3, 29] [0, 1] (T' := [(2, .ptr 0 0), (3, .ptr 1 0), (29, .d (.bool (decide (w2 < v2))))]) (H' := [.box [.d (.bool w0), .d (.int .u64 w1), .d (.int .u64 w2)], .box [.d (.bool v0), .d (.int .u64 v1), .d (.int .u64 v2)]]) (hnd := by decide) (h := ?_)
       exact hj7 (decide (w2 < v2))
      ·refine oNot (h := ?_)
       refine oNot (h := ?_)
       refine oNot (h := ?_)
       refine oNot (h := ?_)
       refine oNot (h := ?_)
       refine oP (.d (.bool false)) (p_pick (b := false)) ?_
       refine oHead [2, 3, 29] [0, 1] (T' := [(2, .ptr 0 0), (3, .ptr 1 0), (29, .d (.bool false))]) (H' := [.box [.d (.bool w0), .d (.int .u64 w1), .d (.int .u64 w2)], .box [.d (.bool v0), .d (.int .u64 v1), .d (.int .u64 v2)]]) (hnd := by decide) (h := ?_)
       exact hj7 false
  ·refine bPickF 11 (fun c => F (c && (decide (w1 < v1)))) (h1 := fun hc => ?_) (h2 := fun hc => ?_)
   ·refine oP (.ptr 0 1) (k_fieldAddr 0 0 (hu := Try.underlying106) (hf := rfl) (hi := ty62)) ?_
    refine oQ (.d (.int .u64 w1)) (k_load 0 1 (hu := Try.underlying62)) ?_
    refine oP (.ptr 1 1) (k_fieldAddr 1 0 (hu := Try.underlying106) (hf := rfl) (hi := ty62)) ?_
    refine oQ (.d (.int .u64 v1)) (k_load 1 1 (hu := Try.underlying62)) ?_
    refine oP (.d (.bool (decide (w1 < v1)))) (p_int (k := .u64) (p := w1) (q := v1)) ?_
    refine oP (.d (.bool (decide (w1 < v1)))) (p_pick (b := true)) ?_
    refine oHead [2, 3, 17] [0, 1] (T' := [(2, .ptr 0 0), (3, .ptr 1 0), (17, .d (.bool (decide (w1 < v1))))]) (H' := [.box [.d (.bool w0), .d (.int .u64 w1), .d (.int .u64 w2)], .box [.d (.bool v0), .d (.int .u64 v1), .d (.int .u64 v2)]]) (hnd := by decide) (h := ?_)
    exact hj4 (decide (w1 < v1))
   ·refine oNot (h := ?_)
    refine oNot (h := ?_)
    refine oNot (h := ?_)
    refine oNot (h := ?_)
    refine oNot (h := ?_)
    refine oP (.d (.bool false)) (p_pick (b := false)) ?_
    refine oHead [2, 3, 17] [0, 1] (T' := [(2, .ptr 0 0), (3, .ptr 1 0), (17, .d (.bool false))]) (H' := [.box [.d (.bool w0), .d (.int .u64 w1), .d (.int .u64 w2)], .box [.d (.bool v0), .d (.int .u64 v1), .d (.int .u64 v2)]]) (hnd := by decide) (h := ?_)
    exact hj4 false

/-- awardingbody/ratio.Compare -/
def ratio_Compare (k : Nat) (a0 : Int) (a1 : Int) (b0 : Int) (b1 : Int) : Option (Int) := Option.bind (ratio_Valid k a0 a1) (fun r124 => Option.bind (bif (!r124) then some true else Option.bind (ratio_Valid k b0 b1) (fun r126 => some (!r126)) : Option (Bool)) (fun x6 => bif x6 then some 0 else Option.bind (ratio_times k a0 (IntKind.wrap .u64 b1)) (uc fun r122 => fun r13 => Option.bind (ratio_times k b0 (IntKind.wrap .u64 a1)) (uc fun r123 => fun r131 => blet ((decide (a0 < 0)) && (!(decide (b0 < 0)))) fun x9 => bif x9 then some (-1) else blet ((decide (b0 < 0)) && (!(decide (a0 < 0)))) fun x11 => bif x11 then some 1 else bif (decide (a0 < 0)) then Option.bind (ratio_wide_compare k (decide (b0 < 0)) r123 r131 (decide (a0 < 0)) r122 r13) (fun r113 => some r113) else Option.bind (ratio_wide_compare k (decide (a0 < 0)) r122 r13 (decide (b0 < 0)) r123 r131) (fun r114 => some r114)))))
def ratio_Compare_E (a0 : Int) (a1 : Int) (b0 : Int) (b1 : Int) : Int → V × List Blk := fun r18 => (.d (.int .i64 r18), [])
theorem ratio_Compare_goes (k : Nat) (a0 : Int) (a1 : Int) (b0 : Int) (b1 : Int) : RunsO Try.prog 86 [.agg [.d (.int .i64 a0), .d (.int .i64 a1)], .agg [.d (.int .i64 b0), .d (.int .i64 b1)]] [] (ratio_Compare_E a0 a1 b0 b1) (ratio_Compare k a0 a1 b0 b1) := by
  refine RunsO.of_goes (N := 52) (m := 0) (T := [(0, .agg [.d (.int .i64 a0), .d (.int .i64 a1)]), (1, .agg [.d (.int .i64 b0), .d (.int .i64 b1)])]) Try.func86 rfl rfl (h := ?_)
  unfold ratio_Compare
  refine bStart ?_
  refine oSR rfl ?_
  refine oD (.ptr 0 0) (k_box (H' := [.box [.d (.int .i64 a0), .d (.int .i64 a1)]]) (cells := [.d (.int .i64 a0), .d (.int .i64 a1)])) ?_
  refine oD (.ptr 1 0) (k_box (H' := [.box [.d (.int .i64 a0), .d (.int .i64 a1)], .box [.d (.int .i64 b0), .d (.int .i64 b1)]]) (cells := [.d (.int .i64 b0), .d (.int .i64 b1)])) ?_
  refine oP (.d (.int .i64 0)) p_assign ?_
  refine oEnd ?_
  refine oSeq ?_
  refine oSR rfl ?_
  refine oQ (.agg [.d (.int .i64 a0), .d (.int .i64 a1)]) (k_loadAgg 0 0 (hu := Try.underlying38) (hi := ty38)) ?_
  refine bCall (caps := []) (v := (fun (r124 : Bool) => (.d (.bool r124) : V))) (H' := (fun (r124 : Bool) => ([.box [.d (.int .i64 a0), .d (.int .i64 a1)], .box [.d (.int .i64 b0), .d (.int .i64 b1)]] : List Blk))) [] _ (ratio_Valid_goes k a0 a1) (ho := rfl) (hfn := Try.func39) (hb := rfl) (hconv := ConvRs.refl _ _) (hnd := by decide) (hBl := fun _ => (by kernel_rfl)) (hv := fun _ => (by kernel_rfl)) (hH' := fun _ => (by kernel_rfl)) (h := fun r124 => ?_)
  refine oP (.d (.bool (!r124))) (p_not (p := r124)) ?_
  refine oP (.d (.bool (!r124))) p_move ?_
  refine bMeet 4 rfl ((fun (x6 : Bool) => [(2, .ptr 0 0), (3, .ptr 1 0), (14, .d (.bool x6))])) ((fun (x6 : Bool) => [.box [.d (.int .i64 a0), .d (.int .i64 a1)], .box [.d (.int .i64 b0), .d (.int .i64 b1)]])) (fun s => s) (fun x6 => ?_) (fun hj3 => ?_)
  ·refine oView (T' := [(2, .ptr 0 0), (3, .ptr 1 0), (14, .d (.bool x6))]) (H' := [.box [.d (.int .i64 a0), .d (.int .i64 a1)], .box [.d (.int .i64 b0), .d (.int .i64 b1)]]) (h := ?_)
   refine oEnd ?_
   refine bSplit 14 (h1 := fun hc => ?_) (h2 := fun hc => ?_)
   ·refine oCondT (h := ?_)
    refine oSR rfl ?_
    refine oP (.d (.int .i64 0)) p_assign ?_
    refine oEnd ?_
    exact oRet (r0 := 0) (rv := .d (.int .i64 0)) (B := []) (vs := [.d (.int .i64 0)]) (σ := []) (hf := Try.func86) (hrs := rfl) (hres := .cons _ _ _ _ (.tmp 4 _ (by kernel_rfl)) .nil) (hnd := by decide)
   ·refine oCondF (h := ?_)
    refine oSkip ?_
    refine oSeq ?_
    refine oDraw [(0, 16), (1, 16)] rfl ?_
    refine aP 0 (.ptr 0 0) rfl (k_fieldAddr 0 0 (hu := Try.underlying38) (hf := rfl) (hi := ty3)) ?_
    refine aQ 1 [0] (.d (.int .i64 a0)) rfl (k_load 0 0 (hu := Try.underlying3)) ?_
    refine aP 2 (.ptr 1 1) rfl (k_fieldAddr 1 0 (hu := Try.underlying38) (hf := rfl) (hi := ty3)) ?_
    refine aQ 3 [1] (.d (.int .i64 b1)) rfl (k_load 1 1 (hu := Try.underlying3)) ?_
    refine aP 4 (.d (.int .u64 (IntKind.wrap .u64 b1))) rfl (p_conv (k := .i64) (p := b1) (hu1 := Try.underlying3) (hu2 := Try.underlying62)) ?_
    refine aP 6 (.ptr 1 0) rfl (k_fieldAddr 1 0 (hu := Try.underlying38) (hf := rfl) (hi := ty3)) ?_
    refine aQ 7 [1] (.d (.int .i64 b0)) rfl (k_load 1 0 (hu := Try.underlying3)) ?_
    refine aP 8 (.ptr 0 1) rfl (k_fieldAddr 0 0 (hu := Try.underlying38) (hf := rfl) (hi := ty3)) ?_
    refine aQ 9 [0] (.d (.int .i64 a1)) rfl (k_load 0 1 (hu := Try.underlying3)) ?_
    refine aP 10 (.d (.int .u64 (IntKind.wrap .u64 a1))) rfl (p_conv (k := .i64) (p := a1) (hu1 := Try.underlying3) (hu2 := Try.underlying62)) ?_
    refine dCall (i := 5) (caps := []) (v := (uc fun (r122 : Int) => (fun (r13 : Int) => (.agg [.d (.bool (decide (a0 < 0))), .d (.int .u64 r122), .d (.int .u64 r13)] : V)))) (H' := (uc fun (r122 : Int) => (fun (r13 : Int) => ([.box [.d (.int .i64 a0), .d (.int .i64 a1)], .box [.d (.int .i64 b0), .d (.int .i64 b1)]] : List Blk)))) [] _ (ratio_times_goes k a0 (IntKind.wrap .u64 b1)) rfl (ho := rfl) (hfn := Try.func92) (hb := rfl) (hconv := ConvRs.refl _ _) (hnd := by decide) (hBl := fun _ => (by kernel_rfl)) (hv := fun _ => (by kernel_rfl)) (hH' := fun _ => (by kernel_rfl)) (h := fun r => ?_)
    obtain ⟨r122, r13⟩ := r
    refine dUc ?_
    refine dCall (i := 11) (caps := []) (v := (uc fun (r123 : Int) => (fun (r131 : Int) => (.agg [.d (.bool (decide (b0 < 0))), .d (.int .u64 r123), .d (.int .u64 r131)] : V)))) (H' := (uc fun (r123 : Int) => (fun (r131 : Int) => ([.box [.d (.int .i64 a0), .d (.int .i64 a1)], .box [.d (.int .i64 b0), .d (.int .i64 b1)]] : List Blk)))) [] _ (ratio_times_goes k b0 (IntKind.wrap .u64 a1)) rfl (ho := rfl) (hfn := Try.func92) (hb := rfl) (hconv := ConvRs.refl _ _) (hnd := by decide) (hBl := fun _ => (by kernel_rfl)) (hv := fun _ => (by kernel_rfl)) (hH' := fun _ => (by kernel_rfl)) (h := fun r => ?_)
    obtain ⟨r123, r131⟩ := r
    refine dUc ?_
    refine aAlloc (i := 12) (d := 5) rfl (hop := rfl) (hd := rfl) (hty := ty106) (cells := [.d (.bool false), .d (.int .u64 0), .d (.int .u64 0)]) (h := ?_)
    refine dView (H' := [.box [.d (.int .i64 a0), .d (.int .i64 a1)], .box [.d (.int .i64 b0), .d (.int .i64 b1)], .box [.d (.bool false), .d (.int .u64 0), .d (.int .u64 0)]]) rfl rfl (h := ?_)
    refine aAlloc (i := 13) (d := 6) rfl (hop := rfl) (hd := rfl) (hty := ty106) (cells := [.d (.bool false), .d (.int .u64 0), .d (.int .u64 0)]) (h := ?_)
    refine dView (H' := [.box [.d (.int .i64 a0), .d (.int .i64 a1)], .box [.d (.int .i64 b0), .d (.int .i64 b1)], .box [.d (.bool false), .d (.int .u64 0), .d (.int .u64 0)], .box [.d (.bool false), .d (.int .u64 0), .d (.int .u64 0)]]) rfl rfl (h := ?_)
    refine aOne (i := 14) (v := .undef) rfl (hac := Does.acts (k_store (vs := [.d (.bool (decide (a0 < 0))), .d (.int .u64 r122), .d (.int .u64 r13)]) (H' := [.box [.d (.int .i64 a0), .d (.int .i64 a1)], .box [.d (.int .i64 b0), .d (.int .i64 b1)], .box [.d (.bool (decide (a0 < 0))), .d (.int .u64 r122), .d (.int .u64 r13)], .box [.d (.bool false), .d (.int .u64 0), .d (.int .u64 0)]]) 2 0 (hi := ty106))) (h := ?_)
    refine aOne (i := 15) (v := .undef) rfl (hac := Does.acts (k_store (vs := [.d (.bool (decide (b0 < 0))), .d (.int .u64 r123), .d (.int .u64 r131)]) (H' := [.box [.d (.int .i64 a0), .d (.int .i64 a1)], .box [.d (.int .i64 b0), .d (.int .i64 b1)], .box [.d (.bool (decide (a0 < 0))), .d (.int .u64 r122), .d (.int .u64 r13)], .box [.d (.bool (decide (b0 < 0))), .d (.int .u64 r123), .d (.int .u64 r131)]]) 3 0 (hi := ty106))) (h := ?_)
    refine aDone (h := ?_)
    refine oSeq ?_
    refine oBlock ?_
    refine oSR rfl ?_
    refine oP (.ptr 2 0) (k_fieldAddr 2 0 (hu := Try.underlying106) (hf := rfl) (hi := ty4)) ?_
    refine oQ (.d (.bool (decide (a0 < 0)))) (k_load 2 0 (hu := Try.underlying4)) ?_
    refine oP (.d (.bool (decide (a0 < 0)))) p_move ?_
    refine bMeetF (H' := [.box [.d (.bool (decide (a0 < 0))), .d (.int .u64 r122), .d (.int .u64 r13)], .box [.d (.bool (decide (b0 < 0))), .d (.int .u64 r123), .d (.int .u64 r131)]]) 4 rfl ((fun (x9 : Bool) => [(5, .ptr 0 0), (6, .ptr 1 0), (34, .d (.bool x9))])) (fun x9 => ?_) (fun F hj1 => ?_)
    ·refine oView (T' := [(5, .ptr 0 0), (6, .ptr 1 0), (34, .d (.bool x9))]) (H' := [.box [.d (.bool (decide (a0 < 0))), .d (.int .u64 r122), .d (.int .u64 r13)], .box [.d (.bool (decide (b0 < 0))), .d (.int .u64 r123), .d (.int .u64 r131)]]) (h := ?_)
     refine oP (.d (.bool x9)) p_assign ?_
     refine oEnd ?_
     refine bSplit 27 (h1 := fun hc => ?_) (h2 := fun hc => ?_)
     ·refine oCondT (h := ?_)
      refine oSR rfl ?_
      refine oP (.d (.int .i64 (-1))) p_assign ?_
      refine oEnd ?_
      exact oRet (r0 := (-1)) (rv := .d (.int .i64 (-1))) (B := []) (vs := [.d (.int .i64 (-1))]) (σ := []) (hf := Try.func86) (hrs := rfl) (hres := .cons _ _ _ _ (.tmp 4 _ (by kernel_rfl)) .nil) (hnd := by decide)
     ·refine oCondF (h := ?_)
      refine oSR rfl ?_
      refine oP (.ptr 1 0) (k_fieldAddr 1 0 (hu := Try.underlying106) (hf := rfl) (hi := ty4)) ?_
      refine oQ (.d (.bool (decide (b0 < 0)))) (k_load 1 0 (hu := Try.underlying4)) ?_
      refine oP (.d (.bool (decide (b0 < 0)))) p_move ?_
      refine bMeetF (H' := [.box [.d (.bool (decide (a0 < 0))), .d (.int .u64 r122), .d (.int .u64 r13)], .box [.d (.bool (decide (b0 < 0))), .d (.int .u64 r123), .d (.int .u64 r131)]]) 4 rfl ((fun (x11 : Bool) => [(5, .ptr 0 0), (6, .ptr 1 0), (42, .d (.bool x11))])) (fun x11 => ?_) (fun F hj2 => ?_)
      ·refine oView (T' := [(5, .ptr 0 0), (6, .ptr 1 0), (42, .d (.bool x11))]) (H' := [.box [.d (.bool (decide (a0 < 0))), .d (.int .u64 r122), .d (.int .u64 r13)], .box [.d (.bool (decide (b0 < 0))), .d (.int .u64 r123), .d (.int .u64 r131)]]) (h := ?_)
       refine oP (.d (.bool x11)) p_assign ?_
       refine oEnd ?_
       refine bSplit 35 (h1 := fun hc => ?_) (h2 := fun hc => ?_)
       ·refine oCondT (h := ?_)
        refine oSR rfl ?_
        refine oP (.d (.int .i64 1)) p_assign ?_
        refine oEnd ?_
        exact oRet (r0 := 1) (rv := .d (.int .i64 1)) (B := []) (vs := [.d (.int .i64 1)]) (σ := []) (hf := Try.func86) (hrs := rfl) (hres := .cons _ _ _ _ (.tmp 4 _ (by kernel_rfl)) .nil) (hnd := by decide)
       ·refine oCondF (h := ?_)
        refine oSR rfl ?_
        refine oP (.ptr 0 0) (k_fieldAddr 0 0 (hu := Try.underlying106) (hf := rfl) (hi := ty4)) ?_
        refine oQ (.d (.bool (decide (a0 < 0)))) (k_load 0 0 (hu := Try.underlying4)) ?_
        refine oP (.d (.bool (decide (a0 < 0)))) p_assign ?_
        refine oEnd ?_
        refine bSplit 43 (h1 := fun hc => ?_) (h2 := fun hc => ?_)
        ·refine oCondT (h := ?_)
         refine oSR rfl ?_
         refine oQ (.agg [.d (.bool (decide (b0 < 0))), .d (.int .u64 r123), .d (.int .u64 r131)]) (k_loadAgg 1 0 (hu := Try.underlying106) (hi := ty106)) ?_
         refine oQ (.agg [.d (.bool (decide (a0 < 0))), .d (.int .u64 r122), .d (.int .u64 r13)]) (k_loadAgg 0 0 (hu := Try.underlying106) (hi := ty106)) ?_
         refine bCall (caps := []) (v := (fun (r113 : Int) => (.d (.int .i64 r113) : V))) (H' := (fun (r113 : Int) => ([.box [.d (.bool (decide (a0 < 0))), .d (.int .u64 r122), .d (.int .u64 r13)], .box [.d (.bool (decide (b0 < 0))), .d (.int .u64 r123), .d (.int .u64 r131)]] : List Blk))) [] _ (ratio_wide_compare_goes k (decide (b0 < 0)) r123 r131 (decide (a0 < 0)) r122 r13) (ho := rfl) (hfn := Try.func100) (hb := rfl) (hconv := ConvRs.refl _ _) (hnd := by decide) (hBl := fun _ => (by kernel_rfl)) (hv := fun _ => (by kernel_rfl)) (hH' := fun _ => (by kernel_rfl)) (h := fun r113 => ?_)
         refine oP (.d (.int .i64 r113)) p_assign ?_
         refine oEnd ?_
         exact oRet (r0 := r113) (rv := .d (.int .i64 r113)) (B := []) (vs := [.d (.int .i64 r113)]) (σ := []) (hf := Try.func86) (hrs := rfl) (hres := .cons _ _ _ _ (.tmp 4 _ (by kernel_rfl)) .nil) (hnd := by decide)
        ·refine oCondF (h := ?_)
         refine oSkip ?_
         refine oBlk ?_
         refine oSR rfl ?_
         refine oQ (.agg [.d (.bool (decide (a0 < 0))), .d (.int .u64 r122), .d (.int .u64 r13)]) (k_loadAgg 0 0 (hu := Try.underlying106) (hi := ty106)) ?_
         refine oQ (.agg [.d (.bool (decide (b0 < 0))), .d (.int .u64 r123), .d (.int .u64 r131)]) (k_loadAgg 1 0 (hu := Try.underlying106) (hi := ty106)) ?_
         refine bCall (caps := []) (v := (fun (r114 : Int) => (.d (.int .i64 r114) : V))) (H' := (fun (r114 : Int) => ([.box [.d (.bool (decide (a0 < 0))), .d (.int .u64 r122), .d (.int .u64 r13)], .box [.d (.bool (decide (b0 < 0))), .d (.int .u64 r123), .d (.int .u64 r131)]] : List Blk))) [] _ (ratio_wide_compare_goes k (decide (a0 < 0)) r122 r13 (decide (b0 < 0)) r123 r131) (ho := rfl) (hfn := Try.func100) (hb := rfl) (hconv := ConvRs.refl _ _) (hnd := by decide) (hBl := fun _ => (by kernel_rfl)) (hv := fun _ => (by kernel_rfl)) (hH' := fun _ => (by kernel_rfl)) (h := fun r114 => ?_)
         refine oP (.d (.int .i64 r114)) p_assign ?_
         refine oEnd ?_
         exact oRet (r0 := r114) (rv := .d (.int .i64 r114)) (B := []) (vs := [.d (.int .i64 r114)]) (σ := []) (hf := Try.func86) (hrs := rfl) (hres := .cons _ _ _ _ (.tmp 4 _ (by kernel_rfl)) .nil) (hnd := by decide)
      ·refine bPickF 38 (fun c => F (c && (!(decide (a0 < 0))))) (h1 := fun hc => ?_) (h2 := fun hc => ?_)
       ·refine oP (.ptr 0 0) (k_fieldAddr 0 0 (hu := Try.underlying106) (hf := rfl) (hi := ty4)) ?_
        refine oQ (.d (.bool (decide (a0 < 0)))) (k_load 0 0 (hu := Try.underlying4)) ?_
        refine oP (.d (.bool (!(decide (a0 < 0))))) (p_not (p := (decide (a0 < 0)))) ?_
        refine oP (.d (.bool (!(decide (a0 < 0))))) (p_pick (b := true)) ?_
        refine oHead [5, 6, 42] [0, 1] (T' := [(5, .ptr 0 0), (6, .ptr 1 0), (42, .d (.bool (!(decide (a0 < 0)))))]) (H' := [.box [.d (.bool (decide (a0 < 0))), .d (.int .u64 r122), .d (.int .u64 r13)], .box [.d (.bool (decide (b0 < 0))), .d (.int .u64 r123), .d (.int .u64 r131)]]) (hnd := by decide) (h := ?_)
        exact hj2 (!(decide (a0 < 0)))
       ·refine oNot (h := ?_)
        refine oNot (h := ?_)
        refine oNot (h := ?_)
        refine oP (.d (.bool false)) (p_pick (b := false)) ?_
        refine oHead [5, 6, 42] [0, 1] (T' := [(5, .ptr 0 0), (6, .ptr 1 0), (42, .d (.bool false))]) (H' := [.box [.d (.bool (decide (a0 < 0))), .d (.int .u64 r122), .d (.int .u64 r13)], .box [.d (.bool (decide (b0 < 0))), .d (.int .u64 r123), .d (.int .u64 r131)]]) (hnd := by decide) (h := ?_)
        exact hj2 false
    ·refine bPickF 30 (fun c => F (c && (!(decide (b0 < 0))))) (h1 := fun hc => ?_) (h2 := fun hc => ?_)
     ·refine oP (.ptr 3 0) (k_fieldAddr 3 0 (hu := Try.underlying106) (hf := rfl) (hi := ty4)) ?_
      refine oQ (.d (.bool (decide (b0 < 0)))) (k_load 3 0 (hu := Try.underlying4)) ?_
      refine oP (.d (.bool (!(decide (b0 < 0))))) (p_not (p := (decide (b0 < 0)))) ?_
      refine oP (.d (.bool (!(decide (b0 < 0))))) (p_pick (b := true)) ?_
      refine oHead [5, 6, 34] [2, 3] (T' := [(5, .ptr 0 0), (6, .ptr 1 0), (34, .d (.bool (!(decide (b0 < 0)))))]) (H' := [.box [.d (.bool (decide (a0 < 0))), .d (.int .u64 r122), .d (.int .u64 r13)], .box [.d (.bool (decide (b0 < 0))), .d (.int .u64 r123), .d (.int .u64 r131)]]) (hnd := by decide) (h := ?_)
      exact hj1 (!(decide (b0 < 0)))
     ·refine oNot (h := ?_)
      refine oNot (h := ?_)
      refine oNot (h := ?_)
      refine oP (.d (.bool false)) (p_pick (b := false)) ?_
      refine oHead [5, 6, 34] [2, 3] (T' := [(5, .ptr 0 0), (6, .ptr 1 0), (34, .d (.bool false))]) (H' := [.box [.d (.bool (decide (a0 < 0))), .d (.int .u64 r122), .d (.int .u64 r13)], .box [.d (.bool (decide (b0 < 0))), .d (.int .u64 r123), .d (.int .u64 r131)]]) (hnd := by decide) (h := ?_)
      exact hj1 false
  ·refine bSplit 10 (h1 := fun hc => ?_) (h2 := fun hc => ?_)
   ·refine oNot (h := ?_)
    refine oNot (h := ?_)
    refine oNot (h := ?_)
    refine oP (.d (.bool true)) (p_pick (b := true)) ?_
    refine oHead [2, 3, 14] [0, 1] (T' := [(2, .ptr 0 0), (3, .ptr 1 0), (14, .d (.bool true))]) (H' := [.box [.d (.int .i64 a0), .d (.int .i64 a1)], .box [.d (.int .i64 b0), .d (.int .i64 b1)]]) (hnd := by decide) (h := ?_)
    exact hj3 true
   ·refine oQ (.agg [.d (.int .i64 b0), .d (.int .i64 b1)]) (k_loadAgg 1 0 (hu := Try.underlying38) (hi := ty38)) ?_
    refine bCall (caps := []) (v := (fun (r126 : Bool) => (.d (.bool r126) : V))) (H' := (fun (r126 : Bool) => ([.box [.d (.int .i64 a0), .d (.int .i64 a1)], .box [.d (.int .i64 b0), .d (.int .i64 b1)]] : List Blk))) [] _ (ratio_Valid_goes k b0 b1) (ho := rfl) (hfn := Try.func39) (hb := rfl) (hconv := ConvRs.refl _ _) (hnd := by decide) (hBl := fun _ => (by kernel_rfl)) (hv := fun _ => (by kernel_rfl)) (hH' := fun _ => (by kernel_rfl)) (h := fun r126 => ?_)
    refine oP (.d (.bool (!r126))) (p_not (p := r126)) ?_
    refine oP (.d (.bool (!r126))) (p_pick (b := false)) ?_
    refine oHead [2, 3, 14] [0, 1] (T' := [(2, .ptr 0 0), (3, .ptr 1 0), (14, .d (.bool (!r126)))]) (H' := [.box [.d (.int .i64 a0), .d (.int .i64 a1)], .box [.d (.int .i64 b0), .d (.int .i64 b1)]]) (hnd := by decide) (h := ?_)
    exact hj3 (!r126)

/-- awardingbody/ratio.Less -/
def ratio_Less (k : Nat) (a0 : Int) (a1 : Int) (b0 : Int) (b1 : Int) : Option (Bool) := Option.bind (ratio_Compare k a0 a1 b0 b1) (fun r181 => some (r181 == (-1)))
def ratio_Less_E (a0 : Int) (a1 : Int) (b0 : Int) (b1 : Int) : Bool → V × List Blk := fun r1 => (.d (.bool r1), [])
theorem ratio_Less_goes (k : Nat) (a0 : Int) (a1 : Int) (b0 : Int) (b1 : Int) : RunsO Try.prog 69 [.agg [.d (.int .i64 a0), .d (.int .i64 a1)], .agg [.d (.int .i64 b0), .d (.int .i64 b1)]] [] (ratio_Less_E a0 a1 b0 b1) (ratio_Less k a0 a1 b0 b1) := by
  refine RunsO.of_goes (N := 9) (m := 0) (T := [(0, .agg [.d (.int .i64 a0), .d (.int .i64 a1)]), (1, .agg [.d (.int .i64 b0), .d (.int .i64 b1)])]) Try.func69 rfl rfl (h := ?_)
  unfold ratio_Less
  refine bStart ?_
  refine oSR rfl ?_
  refine oD (.ptr 0 0) (k_box (H' := [.box [.d (.int .i64 a0), .d (.int .i64 a1)]]) (cells := [.d (.int .i64 a0), .d (.int .i64 a1)])) ?_
  refine oD (.ptr 1 0) (k_box (H' := [.box [.d (.int .i64 a0), .d (.int .i64 a1)], .box [.d (.int .i64 b0), .d (.int .i64 b1)]]) (cells := [.d (.int .i64 b0), .d (.int .i64 b1)])) ?_
  refine oP (.d (.bool false)) p_assign ?_
  refine oEnd ?_
  refine oSR rfl ?_
  refine oQ (.agg [.d (.int .i64 a0), .d (.int .i64 a1)]) (k_loadAgg 0 0 (hu := Try.underlying38) (hi := ty38)) ?_
  refine oQ (.agg [.d (.int .i64 b0), .d (.int .i64 b1)]) (k_loadAgg 1 0 (hu := Try.underlying38) (hi := ty38)) ?_
  refine bCall (caps := []) (v := (fun (r181 : Int) => (.d (.int .i64 r181) : V))) (H' := (fun (r181 : Int) => ([.box [.d (.int .i64 a0), .d (.int .i64 a1)], .box [.d (.int .i64 b0), .d (.int .i64 b1)]] : List Blk))) [] _ (ratio_Compare_goes k a0 a1 b0 b1) (ho := rfl) (hfn := Try.func86) (hb := rfl) (hconv := ConvRs.refl _ _) (hnd := by decide) (hBl := fun _ => (by kernel_rfl)) (hv := fun _ => (by kernel_rfl)) (hH' := fun _ => (by kernel_rfl)) (h := fun r181 => ?_)
  refine oP (.d (.bool (r181 == (-1)))) (p_int (k := .i64) (p := r181) (q := (-1))) ?_
  refine oP (.d (.bool (r181 == (-1)))) p_assign ?_
  refine oEnd ?_
  exact oRet (r0 := (r181 == (-1))) (rv := .d (.bool (r181 == (-1)))) (B := []) (vs := [.d (.bool (r181 == (-1)))]) (σ := []) (hf := Try.func69) (hrs := rfl) (hres := .cons _ _ _ _ (.tmp 4 _ (by kernel_rfl)) .nil) (hnd := by decide)

/-- awardingbody/conversion.right -/
def conversion_right_b1 (k : Nat) (l : (List SPoint)) (again : Int → Option ((Unit) ⊕ (Bool))) : Int → Option ((Unit) ⊕ (Bool)) := fun x76 => bif (decide (x76 < ((List.length l) : Int))) then gidx l x76 fun e114 => Option.bind (ratio_Valid k e114.X_Num e114.X_Den) (fun r12 => Option.bind (bif (!r12) then some true else Option.bind (ratio_Valid k e114.Y_Num e114.Y_Den) (fun r121 => some (!r121)) : Option Bool) (fun x118 => Option.bind (bif x118 then some true else Option.bind (bif (decide (x76 > 0)) then gidx l (IntKind.wrap .i64 (x76 - 1)) fun e13 => Option.bind (ratio_Less k e13.X_Num e13.X_Den e114.X_Num e114.X_Den) (fun r1 => Option.bind (bif (!r1) then some true else Option.bind (ratio_Less k e13.Y_Num e13.Y_Den e114.Y_Num e114.Y_Den) (fun r11 => some (!r11)) : Option Bool) (fun x125 => some x125)) else some false : Option Bool) (fun x124 => some x124) : Option Bool) (fun x122 => bif x122 then some (Sum.inr false) else again (IntKind.wrap .i64 (x76 + 1))))) else some (Sum.inl ())
def conversion_right (k : Nat) (l : (List SPoint)) : Option (Bool) := Option.bind (gloop (conversion_right_b1 k l) k 0 : Option ((Unit) ⊕ (Bool))) (Sum.elim (u0 (some (decide (((List.length l) : Int) ≥ 2)))) (fun r => some r))
def conversion_right_E (l : (List SPoint)) : Bool → V × List Blk := fun r13 => (.d (.bool r13), [])
theorem conversion_right_goes (k : Nat) (l : (List SPoint)) : RunsO Try.prog 64 [.d (.lit (List.map e_SPoint l))] [] (conversion_right_E l) (conversion_right k l) := by
  refine RunsO.of_goes (N := 54) (m := 0) (T := [(0, .d (.lit (List.map e_SPoint l)))]) Try.func64 rfl rfl (h := ?_)
  unfold conversion_right
  refine bStart ?_
  refine oSR rfl ?_
  refine oP (.d (.bool false)) p_assign ?_
  refine oEnd ?_
  refine oSeq ?_
  refine oSR rfl ?_
  refine oP (.d (.lit (List.map e_SPoint l))) p_move ?_
  refine oP (.d (.int .i64 ((List.length l) : Int))) (k_lenLit (enc := e_SPoint) l (hu := Try.underlying30)) ?_
  refine oP (.d (.int .i64 0)) p_move ?_
  refine oEnd ?_
  refine bJoin ((u0 ([(0, .d (.lit (List.map e_SPoint l)))]))) ((u0 ([]))) Sum.inl (fun s => ?_) (fun hj42 => ?_)
  ·cases s
   refine bInl ?_
   refine bU0 ?_
   refine oView (T' := [(0, .d (.lit (List.map e_SPoint l)))]) (H' := []) (h := ?_)
   refine oSR rfl ?_
   refine oP (.d (.lit (List.map e_SPoint l))) p_move ?_
   refine oP (.d (.int .i64 ((List.length l) : Int))) (k_lenLit (enc := e_SPoint) l (hu := Try.underlying30)) ?_
   refine oP (.d (.bool (decide (((List.length l) : Int) ≥ 2)))) (p_int (k := .i64) (p := ((List.length l) : Int)) (q := 2)) ?_
   refine oP (.d (.bool (decide (((List.length l) : Int) ≥ 2)))) p_assign ?_
   refine oEnd ?_
   exact oRet (r0 := (decide (((List.length l) : Int) ≥ 2))) (rv := .d (.bool (decide (((List.length l) : Int) ≥ 2)))) (B := []) (vs := [.d (.bool (decide (((List.length l) : Int) ≥ 2)))]) (σ := []) (hf := Try.func64) (hrs := rfl) (hres := .cons _ _ _ _ (.tmp 2 _ (by kernel_rfl)) .nil) (hnd := by decide)
  ·refine oBlock ?_
   refine oLoop ?_
   refine oHead [0, 5, 6, 7] [] (T' := [(0, .d (.lit (List.map e_SPoint l))), (5, .d (.lit (List.map e_SPoint l))), (6, .d (.int .i64 ((List.length l) : Int))), (7, .d (.int .i64 0))]) (H' := []) (hnd := by decide) (h := ?_)
   refine bLoop (body := conversion_right_b1 k l) ((fun (x76 : Int) => [(0, .d (.lit (List.map e_SPoint l))), (5, .d (.lit (List.map e_SPoint l))), (6, .d (.int .i64 ((List.length l) : Int))), (7, .d (.int .i64 x76))])) ((fun (x76 : Int) => [])) (fun again hag1 x76 => ?_) k 0
   ·unfold conversion_right_b1
    refine oView (T' := [(0, .d (.lit (List.map e_SPoint l))), (5, .d (.lit (List.map e_SPoint l))), (6, .d (.int .i64 ((List.length l) : Int))), (7, .d (.int .i64 x76))]) (H' := []) (h := ?_)
    refine oSR rfl ?_
    refine oP (.d (.bool (decide (x76 < ((List.length l) : Int))))) (p_int (k := .i64) (p := x76) (q := ((List.length l) : Int))) ?_
    refine oEnd ?_
    refine oSeq ?_
    refine bSplit 8 (h1 := fun hc => ?_) (h2 := fun hc => ?_)
    ·refine oCondT (h := ?_)
     refine oSkip ?_
     refine oSeq ?_
     refine oBlock ?_
     refine oSR rfl ?_
     refine oP (.d (.int .i64 x76)) p_move ?_
     refine bIdx (fun e114 h128 h129 => ?_)
     refine oP (.lptr (e_SPoint e114) 0) (k_idxLit e_SPoint_len l (a := e114) (k := .i64) (i := x76) (hu := Try.underlying30) (hi := ty60) (h0 := h128) (he := h129)) ?_
     refine oQ (.agg [.d (.int .i64 e114.X_Num), .d (.int .i64 e114.X_Den), .d (.int .i64 e114.Y_Num), .d (.int .i64 e114.Y_Den)]) (k_loadLAgg (cells := e_SPoint e114) 0 [(.int .i64 e114.X_Num), (.int .i64 e114.X_Den), (.int .i64 e114.Y_Num), (.int .i64 e114.Y_Den)] (hu := Try.underlying60) (hi := ty60)) ?_
     refine oD (.ptr 0 0) (k_alloc (H' := [.box [.d (.int .i64 0), .d (.int .i64 0), .d (.int .i64 0), .d (.int .i64 0)]]) ty60) ?_
     refine oP (.d (.int .i64 x76)) p_assign ?_
     refine oD (.undef) (k_store (vs := [.d (.int .i64 e114.X_Num), .d (.int .i64 e114.X_Den), .d (.int .i64 e114.Y_Num), .d (.int .i64 e114.Y_Den)]) (H' := [.box [.d (.int .i64 e114.X_Num), .d (.int .i64 e114.X_Den), .d (.int .i64 e114.Y_Num), .d (.int .i64 e114.Y_Den)]]) 0 0 (hi := ty60)) ?_
     refine oEnd ?_
     refine oSeq ?_
     refine oDraw [(0, 38)] rfl ?_
     refine aP 0 (.ptr 0 0) rfl (k_fieldAddr 0 0 (hu := Try.underlying60) (hf := rfl) (hi := ty38)) ?_
     refine aQ 1 [0] (.agg [.d (.int .i64 e114.X_Num), .d (.int .i64 e114.X_Den)]) rfl (k_loadAgg 0 0 (hu := Try.underlying38) (hi := ty38)) ?_
     refine dCall (i := 2) (caps := []) (v := (fun (r12 : Bool) => (.d (.bool r12) : V))) (H' := (fun (r12 : Bool) => ([.box [.d (.int .i64 e114.X_Num), .d (.int .i64 e114.X_Den), .d (.int .i64 e114.Y_Num), .d (.int .i64 e114.Y_Den)]] : List Blk))) [] _ (ratio_Valid_goes k e114.X_Num e114.X_Den) rfl (ho := rfl) (hfn := Try.func39) (hb := rfl) (hconv := ConvRs.refl _ _) (hnd := by decide) (hBl := fun _ => (by kernel_rfl)) (hv := fun _ => (by kernel_rfl)) (hH' := fun _ => (by kernel_rfl)) (h := fun r12 => ?_)
     refine aP 3 (.d (.bool (!r12))) rfl (p_not (p := r12)) ?_
     refine aP 4 (.d (.bool (!r12))) rfl p_move ?_
     refine dMeet [9, 8, 7, 6, 5, 4, 3, 2, 1, 0] (fun (x118 : Bool) => [(0, .d (.lit (List.map e_SPoint l))), (3, .d (.int .i64 x76)), (4, .ptr 0 0), (5, .d (.lit (List.map e_SPoint l))), (6, .d (.int .i64 ((List.length l) : Int))), (7, .d (.int .i64 x76)), (21, .d (.bool x118))]) (fun (x118 : Bool) => [(0, .d (.lit (List.map e_SPoint l))), (3, .d (.int .i64 x76)), (4, .ptr 0 0), (5, .d (.lit (List.map e_SPoint l))), (6, .d (.int .i64 ((List.length l) : Int))), (7, .d (.int .i64 x76)), (21, .d (.bool x118))]) (fun _ => [.box [.d (.int .i64 e114.X_Num), .d (.int .i64 e114.X_Den), .d (.int .i64 e114.Y_Num), .d (.int .i64 e114.Y_Den)]]) (fun s => s) (fun x118 => ?_) (fun hj71 => ?_)
     ·refine aP 10 (.d (.bool x118)) rfl p_move ?_
      refine dMeet [37, 36, 35, 34, 33, 32, 31, 30, 29, 28, 27, 26, 25, 24, 23, 22, 21, 20, 19, 18, 17, 16, 15, 14, 13, 12, 11, 10, 9, 8, 7, 6, 5, 4, 3, 2, 1, 0] (fun (x122 : Bool) => [(0, .d (.lit (List.map e_SPoint l))), (5, .d (.lit (List.map e_SPoint l))), (6, .d (.int .i64 ((List.length l) : Int))), (7, .d (.int .i64 x76)), (49, .d (.bool x122))]) (fun (x122 : Bool) => [(0, .d (.lit (List.map e_SPoint l))), (5, .d (.lit (List.map e_SPoint l))), (6, .d (.int .i64 ((List.length l) : Int))), (7, .d (.int .i64 x76)), (49, .d (.bool x122))]) (fun _ => [.box [.d (.int .i64 e114.X_Num), .d (.int .i64 e114.X_Den), .d (.int .i64 e114.Y_Num), .d (.int .i64 e114.Y_Den)]]) (fun s => s) (fun x122 => ?_) (fun hj75 => ?_)
      ·refine aDone (h := ?_)
       refine bSplit 49 (h1 := fun hc => ?_) (h2 := fun hc => ?_)
       ·refine oCondT (h := ?_)
        refine oSR rfl ?_
        refine oP (.d (.bool false)) p_assign ?_
        refine oEnd ?_
        exact oRet (r0 := false) (rv := .d (.bool false)) (B := []) (vs := [.d (.bool false)]) (σ := []) (hf := Try.func64) (hrs := rfl) (hres := .cons _ _ _ _ (.tmp 2 _ (by kernel_rfl)) .nil) (hnd := by decide)
       ·refine oCondF (h := ?_)
        refine oSkip ?_
        refine oBlk ?_
        refine oRegion rfl ?_
        refine oP (.d (.int .i64 (IntKind.wrap .i64 (x76 + 1)))) (p_int (k := .i64) (p := x76) (q := 1)) ?_
        refine oP (.d (.int .i64 (IntKind.wrap .i64 (x76 + 1)))) p_move ?_
        refine oEnd ?_
        refine oAgain ?_
        refine oHead [0, 5, 6, 7] [] (T' := [(0, .d (.lit (List.map e_SPoint l))), (5, .d (.lit (List.map e_SPoint l))), (6, .d (.int .i64 ((List.length l) : Int))), (7, .d (.int .i64 (IntKind.wrap .i64 (x76 + 1))))]) (H' := []) (hnd := by decide) (h := ?_)
        exact hag1 (IntKind.wrap .i64 (x76 + 1))
      ·refine dSplit 22 (h1 := fun hc => ?_) (h2 := fun hc => ?_)
       ·refine aTakeNot (i := 11) rfl (h := ?_)
        refine aTakeNot (i := 12) rfl (h := ?_)
        refine aTakeNot (i := 13) rfl (h := ?_)
        refine aTakeNot (i := 14) rfl (h := ?_)
        refine aTakeNot (i := 15) rfl (h := ?_)
        refine aTakeNot (i := 16) rfl (h := ?_)
        refine aTakeNot (i := 17) rfl (h := ?_)
        refine aTakeNot (i := 18) rfl (h := ?_)
        refine aTakeNot (i := 19) rfl (h := ?_)
        refine aTakeNot (i := 20) rfl (h := ?_)
        refine aTakeNot (i := 21) rfl (h := ?_)
        refine aTakeNot (i := 22) rfl (h := ?_)
        refine aTakeNot (i := 23) rfl (h := ?_)
        refine aTakeNot (i := 24) rfl (h := ?_)
        refine aTakeNot (i := 25) rfl (h := ?_)
        refine aTakeNot (i := 26) rfl (h := ?_)
        refine aTakeNot (i := 27) rfl (h := ?_)
        refine aTakeNot (i := 28) rfl (h := ?_)
        refine aTakeNot (i := 29) rfl (h := ?_)
        refine aTakeNot (i := 30) rfl (h := ?_)
        refine aTakeNot (i := 31) rfl (h := ?_)
        refine aTakeNot (i := 32) rfl (h := ?_)
        refine aTakeNot (i := 33) rfl (h := ?_)
        refine aTakeNot (i := 34) rfl (h := ?_)
        refine aTakeNot (i := 35) rfl (h := ?_)
        refine aTakeNot (i := 36) rfl (h := ?_)
        refine aP 37 (.d (.bool true)) rfl (p_pick (b := true)) ?_
        refine dDrop [0, 5, 6, 7, 49] [0, 5, 6, 7, 49] (T' := [(0, .d (.lit (List.map e_SPoint l))), (5, .d (.lit (List.map e_SPoint l))), (6, .d (.int .i64 ((List.length l) : Int))), (7, .d (.int .i64 x76)), (49, .d (.bool true))]) (U' := [(0, .d (.lit (List.map e_SPoint l))), (5, .d (.lit (List.map e_SPoint l))), (6, .d (.int .i64 ((List.length l) : Int))), (7, .d (.int .i64 x76)), (49, .d (.bool true))]) (h := ?_)
        exact hj75 true
       ·refine aP 11 (.d (.int .i64 x76)) rfl p_move ?_
        refine aP 12 (.d (.bool (decide (x76 > 0)))) rfl (p_int (k := .i64) (p := x76) (q := 0)) ?_
        refine aP 13 (.d (.bool (decide (x76 > 0)))) rfl p_move ?_
        refine dMeet [36, 35, 34, 33, 32, 31, 30, 29, 28, 27, 26, 25, 24, 23, 22, 21, 20, 19, 18, 17, 16, 15, 14, 13, 12, 11, 10, 9, 8, 7, 6, 5, 4, 3, 2, 1, 0] (fun (x124 : Bool) => [(0, .d (.lit (List.map e_SPoint l))), (5, .d (.lit (List.map e_SPoint l))), (6, .d (.int .i64 ((List.length l) : Int))), (7, .d (.int .i64 x76)), (22, .d (.bool false)), (48, .d (.bool x124))]) (fun (x124 : Bool) => [(0, .d (.lit (List.map e_SPoint l))), (5, .d (.lit (List.map e_SPoint l))), (6, .d (.int .i64 ((List.length l) : Int))), (7, .d (.int .i64 x76)), (22, .d (.bool false)), (48, .d (.bool x124))]) (fun _ => [.box [.d (.int .i64 e114.X_Num), .d (.int .i64 e114.X_Den), .d (.int .i64 e114.Y_Num), .d (.int .i64 e114.Y_Den)]]) (fun s => s) (fun x124 => ?_) (fun hj77 => ?_)
        ·refine aP 37 (.d (.bool x124)) rfl (p_pick (b := false)) ?_
         refine dDrop [0, 5, 6, 7, 49] [0, 5, 6, 7, 49] (T' := [(0, .d (.lit (List.map e_SPoint l))), (5, .d (.lit (List.map e_SPoint l))), (6, .d (.int .i64 ((List.length l) : Int))), (7, .d (.int .i64 x76)), (49, .d (.bool x124))]) (U' := [(0, .d (.lit (List.map e_SPoint l))), (5, .d (.lit (List.map e_SPoint l))), (6, .d (.int .i64 ((List.length l) : Int))), (7, .d (.int .i64 x76)), (49, .d (.bool x124))]) (h := ?_)
         exact hj75 x124
        ·refine dSplit 25 (h1 := fun hc => ?_) (h2 := fun hc => ?_)
         ·refine aP 14 (.d (.lit (List.map e_SPoint l))) rfl p_move ?_
          refine aP 15 (.d (.int .i64 x76)) rfl p_move ?_
          refine aP 16 (.d (.int .i64 (IntKind.wrap .i64 (x76 - 1)))) rfl (p_int (k := .i64) (p := x76) (q := 1)) ?_
          refine dIdx (fun e13 h16 h17 => ?_)
          refine aP 17 (.lptr (e_SPoint e13) 0) rfl (k_idxLit e_SPoint_len l (a := e13) (k := .i64) (i := (IntKind.wrap .i64 (x76 - 1))) (hu := Try.underlying30) (hi := ty60) (h0 := h16) (he := h17)) ?_
          refine aP 18 (.lptr (e_SPoint e13) 0) rfl (k_fieldAddrL (cells := e_SPoint e13) 0 (hu := Try.underlying60) (hf := rfl) (hi := ty38)) ?_
          refine aQ 19 [] (.agg [.d (.int .i64 e13.X_Num), .d (.int .i64 e13.X_Den)]) rfl (k_loadLAgg (cells := e_SPoint e13) 0 [(.int .i64 e13.X_Num), (.int .i64 e13.X_Den)] (hu := Try.underlying38) (hi := ty38)) ?_
          refine aP 20 (.ptr 0 0) rfl (k_fieldAddr 0 0 (hu := Try.underlying60) (hf := rfl) (hi := ty38)) ?_
          refine aQ 21 [0] (.agg [.d (.int .i64 e114.X_Num), .d (.int .i64 e114.X_Den)]) rfl (k_loadAgg 0 0 (hu := Try.underlying38) (hi := ty38)) ?_
          refine dCall (i := 22) (caps := []) (v := (fun (r1 : Bool) => (.d (.bool r1) : V))) (H' := (fun (r1 : Bool) => ([.box [.d (.int .i64 e114.X_Num), .d (.int .i64 e114.X_Den), .d (.int .i64 e114.Y_Num), .d (.int .i64 e114.Y_Den)]] : List Blk))) [] _ (ratio_Less_goes k e13.X_Num e13.X_Den e114.X_Num e114.X_Den) rfl (ho := rfl) (hfn := Try.func69) (hb := rfl) (hconv := ConvRs.refl _ _) (hnd := by decide) (hBl := fun _ => (by kernel_rfl)) (hv := fun _ => (by kernel_rfl)) (hH' := fun _ => (by kernel_rfl)) (h := fun r1 => ?_)
          refine aP 23 (.d (.bool (!r1))) rfl (p_not (p := r1)) ?_
          refine aP 24 (.d (.bool (!r1))) rfl p_move ?_
          refine dMeet [35, 34, 33, 32, 31, 30, 29, 28, 27, 26, 25, 24, 23, 22, 21, 20, 19, 18, 17, 16, 15, 14, 13, 12, 11, 10, 9, 8, 7, 6, 5, 4, 3, 2, 1, 0] (fun (x125 : Bool) => [(0, .d (.lit (List.map e_SPoint l))), (5, .d (.lit (List.map e_SPoint l))), (6, .d (.int .i64 ((List.length l) : Int))), (7, .d (.int .i64 x76)), (22, .d (.bool false)), (25, .d (.bool true)), (47, .d (.bool x125))]) (fun (x125 : Bool) => [(0, .d (.lit (List.map e_SPoint l))), (5, .d (.lit (List.map e_SPoint l))), (6, .d (.int .i64 ((List.length l) : Int))), (7, .d (.int .i64 x76)), (22, .d (.bool false)), (25, .d (.bool true)), (47, .d (.bool x125))]) (fun _ => [.box [.d (.int .i64 e114.X_Num), .d (.int .i64 e114.X_Den), .d (.int .i64 e114.Y_Num), .d (.int .i64 e114.Y_Den)]]) (fun s => s) (fun x125 => ?_) (fun hj78 => ?_)
          ·refine aP 36 (.d (.bool x125)) rfl (p_pick (b := true)) ?_
           refine dDrop [0, 5, 6, 7, 22, 48] [0, 5, 6, 7, 22, 48] (T' := [(0, .d (.lit (List.map e_SPoint l))), (5, .d (.lit (List.map e_SPoint l))), (6, .d (.int .i64 ((List.length l) : Int))), (7, .d (.int .i64 x76)), (22, .d (.bool false)), (48, .d (.bool x125))]) (U' := [(0, .d (.lit (List.map e_SPoint l))), (5, .d (.lit (List.map e_SPoint l))), (6, .d (.int .i64 ((List.length l) : Int))), (7, .d (.int .i64 x76)), (22, .d (.bool false)), (48, .d (.bool x125))]) (h := ?_)
           exact hj77 x125
          ·refine dSplit 36 (h1 := fun hc => ?_) (h2 := fun hc => ?_)
           ·refine aTakeNot (i := 25) rfl (h := ?_)
            refine aTakeNot (i := 26) rfl (h := ?_)
            refine aTakeNot (i := 27) rfl (h := ?_)
            refine aTakeNot (i := 28) rfl (h := ?_)
            refine aTakeNot (i := 29) rfl (h := ?_)
            refine aTakeNot (i := 30) rfl (h := ?_)
            refine aTakeNot (i := 31) rfl (h := ?_)
            refine aTakeNot (i := 32) rfl (h := ?_)
            refine aTakeNot (i := 33) rfl (h := ?_)
            refine aTakeNot (i := 34) rfl (h := ?_)
            refine aP 35 (.d (.bool true)) rfl (p_pick (b := true)) ?_
            refine dDrop [0, 5, 6, 7, 22, 25, 47] [0, 5, 6, 7, 22, 25, 47] (T' := [(0, .d (.lit (List.map e_SPoint l))), (5, .d (.lit (List.map e_SPoint l))), (6, .d (.int .i64 ((List.length l) : Int))), (7, .d (.int .i64 x76)), (22, .d (.bool false)), (25, .d (.bool true)), (47, .d (.bool true))]) (U' := [(0, .d (.lit (List.map e_SPoint l))), (5, .d (.lit (List.map e_SPoint l))), (6, .d (.int .i64 ((List.length l) : Int))), (7, .d (.int .i64 x76)), (22, .d (.bool false)), (25, .d (.bool true)), (47, .d (.bool true))]) (h := ?_)
            exact hj78 true
           ·refine aP 25 (.d (.lit (List.map e_SPoint l))) rfl p_move ?_
            refine aP 26 (.d (.int .i64 x76)) rfl p_move ?_
            refine aP 27 (.d (.int .i64 (IntKind.wrap .i64 (x76 - 1)))) rfl (p_int (k := .i64) (p := x76) (q := 1)) ?_
            refine aP 28 (.lptr (e_SPoint e13) 0) rfl (k_idxLit e_SPoint_len l (a := e13) (k := .i64) (i := (IntKind.wrap .i64 (x76 - 1))) (hu := Try.underlying30) (hi := ty60) (h0 := h16) (he := h17)) ?_
            refine aP 29 (.lptr (e_SPoint e13) 2) rfl (k_fieldAddrL (cells := e_SPoint e13) 0 (hu := Try.underlying60) (hf := rfl) (hi := ty38)) ?_
            refine aQ 30 [] (.agg [.d (.int .i64 e13.Y_Num), .d (.int .i64 e13.Y_Den)]) rfl (k_loadLAgg (cells := e_SPoint e13) 2 [(.int .i64 e13.Y_Num), (.int .i64 e13.Y_Den)] (hu := Try.underlying38) (hi := ty38)) ?_
            refine aP 31 (.ptr 0 2) rfl (k_fieldAddr 0 0 (hu := Try.underlying60) (hf := rfl) (hi := ty38)) ?_
            refine aQ 32 [0] (.agg [.d (.int .i64 e114.Y_Num), .d (.int .i64 e114.Y_Den)]) rfl (k_loadAgg 0 2 (hu := Try.underlying38) (hi := ty38)) ?_
            refine dCall (i := 33) (caps := []) (v := (fun (r11 : Bool) => (.d (.bool r11) : V))) (H' := (fun (r11 : Bool) => ([.box [.d (.int .i64 e114.X_Num), .d (.int .i64 e114.X_Den), .d (.int .i64 e114.Y_Num), .d (.int .i64 e114.Y_Den)]] : List Blk))) [] _ (ratio_Less_goes k e13.Y_Num e13.Y_Den e114.Y_Num e114.Y_Den) rfl (ho := rfl) (hfn := Try.func69) (hb := rfl) (hconv := ConvRs.refl _ _) (hnd := by decide) (hBl := fun _ => (by kernel_rfl)) (hv := fun _ => (by kernel_rfl)) (hH' := fun _ => (by kernel_rfl)) (h := fun r11 => ?_)
            refine aP 34 (.d (.bool (!r11))) rfl (p_not (p := r11)) ?_
            refine aP 35 (.d (.bool (!r11))) rfl (p_pick (b := false)) ?_
            refine dDrop [0, 5, 6, 7, 22, 25, 47] [0, 5, 6, 7, 22, 25, 47] (T' := [(0, .d (.lit (List.map e_SPoint l))), (5, .d (.lit (List.map e_SPoint l))), (6, .d (.int .i64 ((List.length l) : Int))), (7, .d (.int .i64 x76)), (22, .d (.bool false)), (25, .d (.bool true)), (47, .d (.bool (!r11)))]) (U' := [(0, .d (.lit (List.map e_SPoint l))), (5, .d (.lit (List.map e_SPoint l))), (6, .d (.int .i64 ((List.length l) : Int))), (7, .d (.int .i64 x76)), (22, .d (.bool false)), (25, .d (.bool true)), (47, .d (.bool (!r11)))]) (h := ?_)
            exact hj78 (!r11)
         ·refine aTakeNot (i := 14) rfl (h := ?_)
          refine aTakeNot (i := 15) rfl (h := ?_)
          refine aTakeNot (i := 16) rfl (h := ?_)
          refine aTakeNot (i := 17) rfl (h := ?_)
          refine aTakeNot (i := 18) rfl (h := ?_)
          refine aTakeNot (i := 19) rfl (h := ?_)
          refine aTakeNot (i := 20) rfl (h := ?_)
          refine aTakeNot (i := 21) rfl (h := ?_)
          refine aTakeNot (i := 22) rfl (h := ?_)
          refine aTakeNot (i := 23) rfl (h := ?_)
          refine aTakeNot (i := 24) rfl (h := ?_)
          refine aTakeNot (i := 25) rfl (h := ?_)
          refine aTakeNot (i := 26) rfl (h := ?_)
          refine aTakeNot (i := 27) rfl (h := ?_)
          refine aTakeNot (i := 28) rfl (h := ?_)
          refine aTakeNot (i := 29) rfl (h := ?_)
          refine aTakeNot (i := 30) rfl (h := ?_)
          refine aTakeNot (i := 31) rfl (h := ?_)
          refine aTakeNot (i := 32) rfl (h := ?_)
          refine aTakeNot (i := 33) rfl (h := ?_)
          refine aTakeNot (i := 34) rfl (h := ?_)
          refine aTakeNot (i := 35) rfl (h := ?_)
          refine aP 36 (.d (.bool false)) rfl (p_pick (b := false)) ?_
          refine dDrop [0, 5, 6, 7, 22, 48] [0, 5, 6, 7, 22, 48] (T' := [(0, .d (.lit (List.map e_SPoint l))), (5, .d (.lit (List.map e_SPoint l))), (6, .d (.int .i64 ((List.length l) : Int))), (7, .d (.int .i64 x76)), (22, .d (.bool false)), (48, .d (.bool false))]) (U' := [(0, .d (.lit (List.map e_SPoint l))), (5, .d (.lit (List.map e_SPoint l))), (6, .d (.int .i64 ((List.length l) : Int))), (7, .d (.int .i64 x76)), (22, .d (.bool false)), (48, .d (.bool false))]) (h := ?_)
          exact hj77 false
     ·refine dSplit 16 (h1 := fun hc => ?_) (h2 := fun hc => ?_)
      ·refine aTakeNot (i := 5) rfl (h := ?_)
       refine aTakeNot (i := 6) rfl (h := ?_)
       refine aTakeNot (i := 7) rfl (h := ?_)
       refine aTakeNot (i := 8) rfl (h := ?_)
       refine aP 9 (.d (.bool true)) rfl (p_pick (b := true)) ?_
       refine dDrop [0, 3, 4, 5, 6, 7, 21] [0, 3, 4, 5, 6, 7, 21] (T' := [(0, .d (.lit (List.map e_SPoint l))), (3, .d (.int .i64 x76)), (4, .ptr 0 0), (5, .d (.lit (List.map e_SPoint l))), (6, .d (.int .i64 ((List.length l) : Int))), (7, .d (.int .i64 x76)), (21, .d (.bool true))]) (U' := [(0, .d (.lit (List.map e_SPoint l))), (3, .d (.int .i64 x76)), (4, .ptr 0 0), (5, .d (.lit (List.map e_SPoint l))), (6, .d (.int .i64 ((List.length l) : Int))), (7, .d (.int .i64 x76)), (21, .d (.bool true))]) (h := ?_)
       exact hj71 true
      ·refine aP 5 (.ptr 0 2) rfl (k_fieldAddr 0 0 (hu := Try.underlying60) (hf := rfl) (hi := ty38)) ?_
       refine aQ 6 [0] (.agg [.d (.int .i64 e114.Y_Num), .d (.int .i64 e114.Y_Den)]) rfl (k_loadAgg 0 2 (hu := Try.underlying38) (hi := ty38)) ?_
       refine dCall (i := 7) (caps := []) (v := (fun (r121 : Bool) => (.d (.bool r121) : V))) (H' := (fun (r121 : Bool) => ([.box [.d (.int .i64 e114.X_Num), .d (.int .i64 e114.X_Den), .d (.int .i64 e114.Y_Num), .d (.int .i64 e114.Y_Den)]] : List Blk))) [] _ (ratio_Valid_goes k e114.Y_Num e114.Y_Den) rfl (ho := rfl) (hfn := Try.func39) (hb := rfl) (hconv := ConvRs.refl _ _) (hnd := by decide) (hBl := fun _ => (by kernel_rfl)) (hv := fun _ => (by kernel_rfl)) (hH' := fun _ => (by kernel_rfl)) (h := fun r121 => ?_)
       refine aP 8 (.d (.bool (!r121))) rfl (p_not (p := r121)) ?_
       refine aP 9 (.d (.bool (!r121))) rfl (p_pick (b := false)) ?_
       refine dDrop [0, 3, 4, 5, 6, 7, 21] [0, 3, 4, 5, 6, 7, 21] (T' := [(0, .d (.lit (List.map e_SPoint l))), (3, .d (.int .i64 x76)), (4, .ptr 0 0), (5, .d (.lit (List.map e_SPoint l))), (6, .d (.int .i64 ((List.length l) : Int))), (7, .d (.int .i64 x76)), (21, .d (.bool (!r121)))]) (U' := [(0, .d (.lit (List.map e_SPoint l))), (3, .d (.int .i64 x76)), (4, .ptr 0 0), (5, .d (.lit (List.map e_SPoint l))), (6, .d (.int .i64 ((List.length l) : Int))), (7, .d (.int .i64 x76)), (21, .d (.bool (!r121)))]) (h := ?_)
       exact hj71 (!r121)
    ·refine oCondF (h := ?_)
     refine oExit rfl ?_
     refine oHead [0] [] (T' := [(0, .d (.lit (List.map e_SPoint l)))]) (H' := []) (hnd := by decide) (h := ?_)
     exact hj42 ()

/-- awardingbody/conversion.Valid -/
def conversion_Valid (k : Nat) (c0 : (List SPoint)) : Option (Bool) := Option.bind (bif (decide (((List.length c0) : Int) ≤ 410)) then Option.bind (conversion_right k c0) (fun r132 => some r132) else some false : Option (Bool)) (fun x1 => some x1)
def conversion_Valid_E (c0 : (List SPoint)) : Bool → V × List Blk := fun r1 => (.d (.bool r1), [])
theorem conversion_Valid_goes (k : Nat) (c0 : (List SPoint)) : RunsO Try.prog 38 [.agg [.d (.lit (List.map e_SPoint c0))]] [] (conversion_Valid_E c0) (conversion_Valid k c0) := by
  refine RunsO.of_goes (N := 12) (m := 0) (T := [(0, .agg [.d (.lit (List.map e_SPoint c0))])]) Try.func38 rfl rfl (h := ?_)
  unfold conversion_Valid
  refine bStart ?_
  refine oSR rfl ?_
  refine oD (.ptr 0 0) (k_box (H' := [.box [.d (.lit (List.map e_SPoint c0))]]) (cells := [.d (.lit (List.map e_SPoint c0))])) ?_
  refine oP (.d (.bool false)) p_assign ?_
  refine oEnd ?_
  refine oSR rfl ?_
  refine oP (.ptr 0 0) (k_fieldAddr 0 0 (hu := Try.underlying32) (hf := rfl) (hi := ty30)) ?_
  refine oQ (.d (.lit (List.map e_SPoint c0))) (k_load 0 0 (hu := Try.underlying30)) ?_
  refine oP (.d (.int .i64 ((List.length c0) : Int))) (k_lenLit (enc := e_SPoint) c0 (hu := Try.underlying30)) ?_
  refine oP (.d (.bool (decide (((List.length c0) : Int) ≤ 410)))) (p_int (k := .i64) (p := ((List.length c0) : Int)) (q := 410)) ?_
  refine oP (.d (.bool (decide (((List.length c0) : Int) ≤ 410)))) p_move ?_
  refine bMeet 4 rfl ((fun (x1 : Bool) => [(11, .d (.bool x1))])) ((fun (x1 : Bool) => [])) (fun s => s) (fun x1 => ?_) (fun hj1 => ?_)
  ·refine oView (T' := [(11, .d (.bool x1))]) (H' := []) (h := ?_)
   refine oP (.d (.bool x1)) p_assign ?_
   refine oEnd ?_
   exact oRet (r0 := x1) (rv := .d (.bool x1)) (B := []) (vs := [.d (.bool x1)]) (σ := []) (hf := Try.func38) (hrs := rfl) (hres := .cons _ _ _ _ (.tmp 2 _ (by kernel_rfl)) .nil) (hnd := by decide)
  ·refine bSplit 7 (h1 := fun hc => ?_) (h2 := fun hc => ?_)
   ·refine oP (.ptr 0 0) (k_fieldAddr 0 0 (hu := Try.underlying32) (hf := rfl) (hi := ty30)) ?_
    refine oQ (.d (.lit (List.map e_SPoint c0))) (k_load 0 0 (hu := Try.underlying30)) ?_
    refine bCall (caps := []) (v := (fun (r132 : Bool) => (.d (.bool r132) : V))) (H' := (fun (r132 : Bool) => ([.box [.d (.lit (List.map e_SPoint c0))]] : List Blk))) [] _ (conversion_right_goes k c0) (ho := rfl) (hfn := Try.func64) (hb := rfl) (hconv := ConvRs.refl _ _) (hnd := by decide) (hBl := fun _ => (by kernel_rfl)) (hv := fun _ => (by kernel_rfl)) (hH' := fun _ => (by kernel_rfl)) (h := fun r132 => ?_)
    refine oP (.d (.bool r132)) (p_pick (b := true)) ?_
    refine oHead [11] [] (T' := [(11, .d (.bool r132))]) (H' := []) (hnd := by decide) (h := ?_)
    exact hj1 r132
   ·refine oNot (h := ?_)
    refine oNot (h := ?_)
    refine oNot (h := ?_)
    refine oP (.d (.bool false)) (p_pick (b := false)) ?_
    refine oHead [11] [] (T' := [(11, .d (.bool false))]) (H' := []) (hnd := by decide) (h := ?_)
    exact hj1 false

/-- (awardingbody/ratio.wide).plus -/
def ratio_wide_plus (k : Nat) (w0 : Bool) (w1 : Int) (w2 : Int) (v0 : Bool) (v1 : Int) (v2 : Int) : Option (Bool × Int × Int) := bif (w0 == v0) then gcarry w2 v2 0 (gcarry w1 v1 ((w2 + v2 + 0) / 18446744073709551616) (some (w0, ((w1 + v1 + ((w2 + v2 + 0) / 18446744073709551616)) % 18446744073709551616), ((w2 + v2 + 0) % 18446744073709551616)))) else Option.bind (ratio_wide_compare k w0 w1 w2 v0 v1 v2) (fun r14 => Option.bind (bif (decide (r14 < 0)) then some (v0, v1, v2, w0, w1, w2) else some (w0, w1, w2, v0, v1, v2) : Option (Bool × Int × Int × Bool × Int × Int)) (uc fun x6 => uc fun x7 => uc fun x8 => uc fun x9 => uc fun x10 => fun x11 => gcarry x8 x11 0 (gle x11 18446744073709551615 (gcarry x7 x10 (if x8 < x11 + 0 then 1 else 0) (gle x10 18446744073709551615 (some (x6, ((x7 - x10 - (if x8 < x11 + 0 then 1 else 0)) % 18446744073709551616), ((x8 - x11 - 0) % 18446744073709551616))))))))
def ratio_wide_plus_E (w0 : Bool) (w1 : Int) (w2 : Int) (v0 : Bool) (v1 : Int) (v2 : Int) : Bool × Int × Int → V × List Blk := uc fun r11 => uc fun r12 => fun r13 => (.agg [.d (.bool r11), .d (.int .u64 r12), .d (.int .u64 r13)], [])
theorem ratio_wide_plus_goes (k : Nat) (w0 : Bool) (w1 : Int) (w2 : Int) (v0 : Bool) (v1 : Int) (v2 : Int) : RunsO Try.prog 95 [.agg [.d (.bool w0), .d (.int .u64 w1), .d (.int .u64 w2)], .agg [.d (.bool v0), .d (.int .u64 v1), .d (.int .u64 v2)]] [] (ratio_wide_plus_E w0 w1 w2 v0 v1 v2) (ratio_wide_plus k w0 w1 w2 v0 v1 v2) := by
  refine RunsO.of_goes (N := 68) (m := 0) (T := [(0, .agg [.d (.bool w0), .d (.int .u64 w1), .d (.int .u64 w2)]), (1, .agg [.d (.bool v0), .d (.int .u64 v1), .d (.int .u64 v2)])]) Try.func95 rfl rfl (h := ?_)
  unfold ratio_wide_plus
  refine bStart ?_
  refine oSR rfl ?_
  refine oD (.ptr 0 0) (k_box (H' := [.box [.d (.bool w0), .d (.int .u64 w1), .d (.int .u64 w2)]]) (cells := [.d (.bool w0), .d (.int .u64 w1), .d (.int .u64 w2)])) ?_
  refine oD (.ptr 1 0) (k_box (H' := [.box [.d (.bool w0), .d (.int .u64 w1), .d (.int .u64 w2)], .box [.d (.bool v0), .d (.int .u64 v1), .d (.int .u64 v2)]]) (cells := [.d (.bool v0), .d (.int .u64 v1), .d (.int .u64 v2)])) ?_
  refine oD (.ptr 2 0) (k_alloc (H' := [.box [.d (.bool w0), .d (.int .u64 w1), .d (.int .u64 w2)], .box [.d (.bool v0), .d (.int .u64 v1), .d (.int .u64 v2)], .box [.d (.bool false), .d (.int .u64 0), .d (.int .u64 0)]]) ty106) ?_
  refine oEnd ?_
  refine oSeq ?_
  refine oSR rfl ?_
  refine oP (.ptr 0 0) (k_fieldAddr 0 0 (hu := Try.underlying106) (hf := rfl) (hi := ty4)) ?_
  refine oQ (.d (.bool w0)) (k_load 0 0 (hu := Try.underlying4)) ?_
  refine oP (.ptr 1 0) (k_fieldAddr 1 0 (hu := Try.underlying106) (hf := rfl) (hi := ty4)) ?_
  refine oQ (.d (.bool v0)) (k_load 1 0 (hu := Try.underlying4)) ?_
  refine oP (.d (.bool (w0 == v0))) (p_boolEq (p := w0) (q := v0) (hu := Try.underlying4)) ?_
  refine oEnd ?_
  refine bSplit 17 (h1 := fun hc => ?_) (h2 := fun hc => ?_)
  ·refine oCondT (h := ?_)
   refine oSR rfl ?_
   refine oP (.ptr 0 2) (k_fieldAddr 0 0 (hu := Try.underlying106) (hf := rfl) (hi := ty62)) ?_
   refine oQ (.d (.int .u64 w2)) (k_load 0 2 (hu := Try.underlying62)) ?_
   refine oP (.ptr 1 2) (k_fieldAddr 1 0 (hu := Try.underlying106) (hf := rfl) (hi := ty62)) ?_
   refine oQ (.d (.int .u64 v2)) (k_load 1 2 (hu := Try.underlying62)) ?_
   refine bCarry (fun h110 => ?_)
   refine oP (.tuple [.d (.int .u64 ((w2 + v2 + 0) % 18446744073709551616)), .d (.int .u64 ((w2 + v2 + 0) / 18446744073709551616))]) (p_add64 (p := w2) (q := v2) (c := 0) (hfn := Try.func93) (hc := h110)) ?_
   refine oP (.tuple [.d (.int .u64 ((w2 + v2 + 0) % 18446744073709551616)), .d (.int .u64 ((w2 + v2 + 0) / 18446744073709551616))]) p_move ?_
   refine oP (.d (.int .u64 ((w2 + v2 + 0) % 18446744073709551616))) k_extract ?_
   refine oP (.d (.int .u64 ((w2 + v2 + 0) / 18446744073709551616))) k_extract ?_
   refine oP (.d (.int .u64 ((w2 + v2 + 0) % 18446744073709551616))) p_assign ?_
   refine oP (.d (.int .u64 ((w2 + v2 + 0) / 18446744073709551616))) p_assign ?_
   refine oEnd ?_
   refine oSR rfl ?_
   refine oP (.ptr 0 1) (k_fieldAddr 0 0 (hu := Try.underlying106) (hf := rfl) (hi := ty62)) ?_
   refine oQ (.d (.int .u64 w1)) (k_load 0 1 (hu := Try.underlying62)) ?_
   refine oP (.ptr 1 1) (k_fieldAddr 1 0 (hu := Try.underlying106) (hf := rfl) (hi := ty62)) ?_
   refine oQ (.d (.int .u64 v1)) (k_load 1 1 (hu := Try.underlying62)) ?_
   refine oP (.d (.int .u64 ((w2 + v2 + 0) / 18446744073709551616))) p_move ?_
   refine bCarry (fun h111 => ?_)
   refine oP (.tuple [.d (.int .u64 ((w1 + v1 + ((w2 + v2 + 0) / 18446744073709551616)) % 18446744073709551616)), .d (.int .u64 ((w1 + v1 + ((w2 + v2 + 0) / 18446744073709551616)) / 18446744073709551616))]) (p_add64 (p := w1) (q := v1) (c := ((w2 + v2 + 0) / 18446744073709551616)) (hfn := Try.func93) (hc := h111)) ?_
   refine oP (.tuple [.d (.int .u64 ((w1 + v1 + ((w2 + v2 + 0) / 18446744073709551616)) % 18446744073709551616)), .d (.int .u64 ((w1 + v1 + ((w2 + v2 + 0) / 18446744073709551616)) / 18446744073709551616))]) p_move ?_
   refine oP (.d (.int .u64 ((w1 + v1 + ((w2 + v2 + 0) / 18446744073709551616)) % 18446744073709551616))) k_extract ?_
   refine oP (.d (.int .u64 ((w1 + v1 + ((w2 + v2 + 0) / 18446744073709551616)) / 18446744073709551616))) k_extract ?_
   refine oP (.d (.int .u64 ((w1 + v1 + ((w2 + v2 + 0) / 18446744073709551616)) % 18446744073709551616))) p_assign ?_
   refine oP (.d (.int .u64 ((w1 + v1 + ((w2 + v2 + 0) / 18446744073709551616)) / 18446744073709551616))) p_assign ?_
   refine oEnd ?_
   refine oSR rfl ?_
   refine oP (.ptr 0 0) (k_fieldAddr 0 0 (hu := Try.underlying106) (hf := rfl) (hi := ty4)) ?_
   refine oQ (.d (.bool w0)) (k_load 0 0 (hu := Try.underlying4)) ?_
   refine oP (.d (.int .u64 ((w1 + v1 + ((w2 + v2 + 0) / 18446744073709551616)) % 18446744073709551616))) p_move ?_
   refine oP (.d (.int .u64 ((w2 + v2 + 0) % 18446744073709551616))) p_move ?_
   refine oP (.agg [.d (.bool w0), .d (.int .u64 ((w1 + v1 + ((w2 + v2 + 0) / 18446744073709551616)) % 18446744073709551616)), .d (.int .u64 ((w2 + v2 + 0) % 18446744073709551616))]) (p_build bld106) ?_
   refine oD (.undef) (k_store (vs := [.d (.bool w0), .d (.int .u64 ((w1 + v1 + ((w2 + v2 + 0) / 18446744073709551616)) % 18446744073709551616)), .d (.int .u64 ((w2 + v2 + 0) % 18446744073709551616))]) (H' := [.box [.d (.bool w0), .d (.int .u64 w1), .d (.int .u64 w2)], .box [.d (.bool v0), .d (.int .u64 v1), .d (.int .u64 v2)], .box [.d (.bool w0), .d (.int .u64 ((w1 + v1 + ((w2 + v2 + 0) / 18446744073709551616)) % 18446744073709551616)), .d (.int .u64 ((w2 + v2 + 0) % 18446744073709551616))]]) 2 0 (hi := ty106)) ?_
   refine oEnd ?_
   exact oRet (r0 := (w0, ((w1 + v1 + ((w2 + v2 + 0) / 18446744073709551616)) % 18446744073709551616), ((w2 + v2 + 0) % 18446744073709551616))) (rv := .agg [.d (.bool w0), .d (.int .u64 ((w1 + v1 + ((w2 + v2 + 0) / 18446744073709551616)) % 18446744073709551616)), .d (.int .u64 ((w2 + v2 + 0) % 18446744073709551616))]) (B := []) (vs := [.agg [.d (.bool w0), .d (.int .u64 ((w1 + v1 + ((w2 + v2 + 0) / 18446744073709551616)) % 18446744073709551616)), .d (.int .u64 ((w2 + v2 + 0) % 18446744073709551616))]]) (σ := []) (hf := Try.func95) (hrs := rfl) (hres := .cons _ _ _ _ (.agg 4 106 2 0 [.d (.bool w0), .d (.int .u64 ((w1 + v1 + ((w2 + v2 + 0) / 18446744073709551616)) % 18446744073709551616)), .d (.int .u64 ((w2 + v2 + 0) % 18446744073709551616))] [.d (.bool w0), .d (.int .u64 ((w1 + v1 + ((w2 + v2 + 0) / 18446744073709551616)) % 18446744073709551616)), .d (.int .u64 ((w2 + v2 + 0) % 18446744073709551616))] _ _ _ _ (by kernel_rfl) (by kernel_rfl) Try.underlying106 (by kernel_rfl) ty106 (by kernel_rfl) (by kernel_rfl)) .nil) (hnd := by decide)
  ·refine oCondF (h := ?_)
   refine oSkip ?_
   refine oSeq ?_
   refine oSR rfl ?_
   refine oQ (.agg [.d (.bool w0), .d (.int .u64 w1), .d (.int .u64 w2)]) (k_loadAgg 0 0 (hu := Try.underlying106) (hi := ty106)) ?_
   refine oQ (.agg [.d (.bool v0), .d (.int .u64 v1), .d (.int .u64 v2)]) (k_loadAgg 1 0 (hu := Try.underlying106) (hi := ty106)) ?_
   refine bCall (caps := []) (v := (fun (r14 : Int) => (.d (.int .i64 r14) : V))) (H' := (fun (r14 : Int) => ([.box [.d (.bool w0), .d (.int .u64 w1), .d (.int .u64 w2)], .box [.d (.bool v0), .d (.int .u64 v1), .d (.int .u64 v2)], .box [.d (.bool false), .d (.int .u64 0), .d (.int .u64 0)]] : List Blk))) [] _ (ratio_wide_compare_goes k w0 w1 w2 v0 v1 v2) (ho := rfl) (hfn := Try.func100) (hb := rfl) (hconv := ConvRs.refl _ _) (hnd := by decide) (hBl := fun _ => (by kernel_rfl)) (hv := fun _ => (by kernel_rfl)) (hH' := fun _ => (by kernel_rfl)) (h := fun r14 => ?_)
   refine oP (.d (.bool (decide (r14 < 0)))) (p_int (k := .i64) (p := r14) (q := 0)) ?_
   refine oEnd ?_
   refine bJoin ((uc fun (x6 : Bool) => (uc fun (x7 : Int) => (uc fun (x8 : Int) => (uc fun (x9 : Bool) => (uc fun (x10 : Int) => (fun (x11 : Int) => [(2, .ptr 0 0), (3, .ptr 1 0), (4, .ptr 2 0)]))))))) ((uc fun (x6 : Bool) => (uc fun (x7 : Int) => (uc fun (x8 : Int) => (uc fun (x9 : Bool) => (uc fun (x10 : Int) => (fun (x11 : Int) => [.box [.d (.bool x6), .d (.int .u64 x7), .d (.int .u64 x8)], .box [.d (.bool x9), .d (.int .u64 x10), .d (.int .u64 x11)], .box [.d (.bool false), .d (.int .u64 0), .d (.int .u64 0)]]))))))) (fun s => s) (fun s => ?_) (fun hj2 => ?_)
   ·obtain ⟨x6, x7, x8, x9, x10, x11⟩ := s
    refine bUc ?_
    refine bUc ?_
    refine bUc ?_
    refine bUc ?_
    refine bUc ?_
    refine oView (T' := [(2, .ptr 0 0), (3, .ptr 1 0), (4, .ptr 2 0)]) (H' := [.box [.d (.bool x6), .d (.int .u64 x7), .d (.int .u64 x8)], .box [.d (.bool x9), .d (.int .u64 x10), .d (.int .u64 x11)], .box [.d (.bool false), .d (.int .u64 0), .d (.int .u64 0)]]) (h := ?_)
    refine oSR rfl ?_
    refine oP (.ptr 0 2) (k_fieldAddr 0 0 (hu := Try.underlying106) (hf := rfl) (hi := ty62)) ?_
    refine oQ (.d (.int .u64 x8)) (k_load 0 2 (hu := Try.underlying62)) ?_
    refine oP (.ptr 1 2) (k_fieldAddr 1 0 (hu := Try.underlying106) (hf := rfl) (hi := ty62)) ?_
    refine oQ (.d (.int .u64 x11)) (k_load 1 2 (hu := Try.underlying62)) ?_
    refine bCarry (fun h112 => ?_)
    refine bLe (fun h113 => ?_)
    refine oP (.tuple [.d (.int .u64 ((x8 - x11 - 0) % 18446744073709551616)), .d (.int .u64 (if x8 < x11 + 0 then 1 else 0))]) (p_sub64 (p := x8) (q := x11) (c := 0) (hfn := Try.func94) (hc := h112) (hq := h113)) ?_
    refine oP (.tuple [.d (.int .u64 ((x8 - x11 - 0) % 18446744073709551616)), .d (.int .u64 (if x8 < x11 + 0 then 1 else 0))]) p_move ?_
    refine oP (.d (.int .u64 ((x8 - x11 - 0) % 18446744073709551616))) k_extract ?_
    refine oP (.d (.int .u64 (if x8 < x11 + 0 then 1 else 0))) k_extract ?_
    refine oP (.d (.int .u64 ((x8 - x11 - 0) % 18446744073709551616))) p_assign ?_
    refine oP (.d (.int .u64 (if x8 < x11 + 0 then 1 else 0))) p_assign ?_
    refine oEnd ?_
    refine oSR rfl ?_
    refine oP (.ptr 0 1) (k_fieldAddr 0 0 (hu := Try.underlying106) (hf := rfl) (hi := ty62)) ?_
    refine oQ (.d (.int .u64 x7)) (k_load 0 1 (hu := Try.underlying62)) ?_
    refine oP (.ptr 1 1) (k_fieldAddr 1 0 (hu := Try.underlying106) (hf := rfl) (hi := ty62)) ?_
    refine oQ (.d (.int .u64 x10)) (k_load 1 1 (hu := Try.underlying62)) ?_
    refine oP (.d (.int .u64 (if x8 < x11 + 0 then 1 else 0))) p_move ?_
    refine bCarry (fun h114 => ?_)
    refine bLe (fun h115 => ?_)
    refine oP (.tuple [.d (.int .u64 ((x7 - x10 - (if x8 < x11 + 0 then 1 else 0)) % 18446744073709551616)), .d (.int .u64 (if x7 < x10 + (if x8 < x11 + 0 then 1 else 0) then 1 else 0))]) (p_sub64 (p := x7) (q := x10) (c := (if x8 < x11 + 0 then 1 else 0)) (hfn := Try.func94) (hc := h114) (hq := h115)) ?_
    refine oP (.tuple [.d (.int .u64 ((x7 - x10 - (if x8 < x11 + 0 then 1 else 0)) % 18446744073709551616)), .d (.int .u64 (if x7 < x10 + (if x8 < x11 + 0 then 1 else 0) then 1 else 0))]) p_move ?_
    refine oP (.d (.int .u64 ((x7 - x10 - (if x8 < x11 + 0 then 1 else 0)) % 18446744073709551616))) k_extract ?_
    refine oP (.d (.int .u64 (if x7 < x10 + (if x8 < x11 + 0 then 1 else 0) then 1 else 0))) k_extract ?_
    refine oP (.d (.int .u64 ((x7 - x10 - (if x8 < x11 + 0 then 1 else 0)) % 18446744073709551616))) p_assign ?_
    refine oP (.d (.int .u64 (if x7 < x10 + (if x8 < x11 + 0 then 1 else 0) then 1 else 0))) p_assign ?_
    refine oEnd ?_
    refine oSR rfl ?_
    refine oP (.ptr 0 0) (k_fieldAddr 0 0 (hu := Try.underlying106) (hf := rfl) (hi := ty4)) ?_
    refine oQ (.d (.bool x6)) (k_load 0 0 (hu := Try.underlying4)) ?_
    refine oP (.d (.int .u64 ((x7 - x10 - (if x8 < x11 + 0 then 1 else 0)) % 18446744073709551616))) p_move ?_
    refine oP (.d (.int .u64 ((x8 - x11 - 0) % 18446744073709551616))) p_move ?_
    refine oP (.agg [.d (.bool x6), .d (.int .u64 ((x7 - x10 - (if x8 < x11 + 0 then 1 else 0)) % 18446744073709551616)), .d (.int .u64 ((x8 - x11 - 0) % 18446744073709551616))]) (p_build bld106) ?_
    refine oD (.undef) (k_store (vs := [.d (.bool x6), .d (.int .u64 ((x7 - x10 - (if x8 < x11 + 0 then 1 else 0)) % 18446744073709551616)), .d (.int .u64 ((x8 - x11 - 0) % 18446744073709551616))]) (H' := [.box [.d (.bool x6), .d (.int .u64 x7), .d (.int .u64 x8)], .box [.d (.bool x9), .d (.int .u64 x10), .d (.int .u64 x11)], .box [.d (.bool x6), .d (.int .u64 ((x7 - x10 - (if x8 < x11 + 0 then 1 else 0)) % 18446744073709551616)), .d (.int .u64 ((x8 - x11 - 0) % 18446744073709551616))]]) 2 0 (hi := ty106)) ?_
    refine oEnd ?_
    exact oRet (r0 := (x6, ((x7 - x10 - (if x8 < x11 + 0 then 1 else 0)) % 18446744073709551616), ((x8 - x11 - 0) % 18446744073709551616))) (rv := .agg [.d (.bool x6), .d (.int .u64 ((x7 - x10 - (if x8 < x11 + 0 then 1 else 0)) % 18446744073709551616)), .d (.int .u64 ((x8 - x11 - 0) % 18446744073709551616))]) (B := []) (vs := [.agg [.d (.bool x6), .d (.int .u64 ((x7 - x10 - (if x8 < x11 + 0 then 1 else 0)) % 18446744073709551616)), .d (.int .u64 ((x8 - x11 - 0) % 18446744073709551616))]]) (σ := []) (hf := Try.func95) (hrs := rfl) (hres := .cons _ _ _ _ (.agg 4 106 2 0 [.d (.bool x6), .d (.int .u64 ((x7 - x10 - (if x8 < x11 + 0 then 1 else 0)) % 18446744073709551616)), .d (.int .u64 ((x8 - x11 - 0) % 18446744073709551616))] [.d (.bool x6), .d (.int .u64 ((x7 - x10 - (if x8 < x11 + 0 then 1 else 0)) % 18446744073709551616)), .d (.int .u64 ((x8 - x11 - 0) % 18446744073709551616))] _ _ _ _ (by kernel_rfl) (by kernel_rfl) Try.underlying106 (by kernel_rfl) ty106 (by kernel_rfl) (by kernel_rfl)) .nil) (hnd := by decide)
   ·refine bSplit 43 (h1 := fun hc => ?_) (h2 := fun hc => ?_)
    ·refine oCondT (h := ?_)
     refine oRegion rfl ?_
     refine oQ (.agg [.d (.bool v0), .d (.int .u64 v1), .d (.int .u64 v2)]) (k_loadAgg 1 0 (hu := Try.underlying106) (hi := ty106)) ?_
     refine oQ (.agg [.d (.bool w0), .d (.int .u64 w1), .d (.int .u64 w2)]) (k_loadAgg 0 0 (hu := Try.underlying106) (hi := ty106)) ?_
     refine oD (.undef) (k_store (vs := [.d (.bool v0), .d (.int .u64 v1), .d (.int .u64 v2)]) (H' := [.box [.d (.bool v0), .d (.int .u64 v1), .d (.int .u64 v2)], .box [.d (.bool v0), .d (.int .u64 v1), .d (.int .u64 v2)], .box [.d (.bool false), .d (.int .u64 0), .d (.int .u64 0)]]) 0 0 (hi := ty106)) ?_
     refine oD (.undef) (k_store (vs := [.d (.bool w0), .d (.int .u64 w1), .d (.int .u64 w2)]) (H' := [.box [.d (.bool v0), .d (.int .u64 v1), .d (.int .u64 v2)], .box [.d (.bool w0), .d (.int .u64 w1), .d (.int .u64 w2)], .box [.d (.bool false), .d (.int .u64 0), .d (.int .u64 0)]]) 1 0 (hi := ty106)) ?_
     refine oEnd ?_
     refine oHead [2, 3, 4] [0, 1, 2] (T' := [(2, .ptr 0 0), (3, .ptr 1 0), (4, .ptr 2 0)]) (H' := [.box [.d (.bool v0), .d (.int .u64 v1), .d (.int .u64 v2)], .box [.d (.bool w0), .d (.int .u64 w1), .d (.int .u64 w2)], .box [.d (.bool false), .d (.int .u64 0), .d (.int .u64 0)]]) (hnd := by decide) (h := ?_)
     exact hj2 (v0, v1, v2, w0, w1, w2)
    ·refine oCondF (h := ?_)
     refine oSkip ?_
     refine oHead [2, 3, 4] [0, 1, 2] (T' := [(2, .ptr 0 0), (3, .ptr 1 0), (4, .ptr 2 0)]) (H' := [.box [.d (.bool w0), .d (.int .u64 w1), .d (.int .u64 w2)], .box [.d (.bool v0), .d (.int .u64 v1), .d (.int .u64 v2)], .box [.d (.bool false), .d (.int .u64 0), .d (.int .u64 0)]]) (hnd := by decide) (h := ?_)
     exact hj2 (w0, w1, w2, v0, v1, v2)

/-- awardingbody/ratio.Add -/
def ratio_Add (k : Nat) (a0 : Int) (a1 : Int) (b0 : Int) (b1 : Int) : Option (Int × Int × Int) := Option.bind (ratio_Valid k a0 a1) (fun r126 => Option.bind (bif (!r126) then some true else Option.bind (ratio_Valid k b0 b1) (fun r129 => some (!r129)) : Option (Bool)) (fun x3 => bif x3 then some (0, 0, 1) else Option.bind (ratio_gcd k (IntKind.wrap .u64 a1) (IntKind.wrap .u64 b1)) (fun r110 => gnz r110 (gnz r110 (Option.bind (ratio_times k a0 (IntKind.wrap .u64 (Int.tdiv (IntKind.wrap .u64 b1) r110))) (uc fun r122 => fun r13 => Option.bind (ratio_times k b0 (IntKind.wrap .u64 (Int.tdiv (IntKind.wrap .u64 a1) r110))) (uc fun r123 => fun r131 => Option.bind (ratio_wide_plus k (decide (a0 < 0)) r122 r13 (decide (b0 < 0)) r123 r131) (uc fun r11 => uc fun r124 => fun r132 => Option.bind (bif (r124 == 0) then some ((IntKind.wrap .u64 (Int.tdiv (IntKind.wrap .u64 a1) r110)), (IntKind.wrap .u64 (Int.tdiv (IntKind.wrap .u64 b1) r110)), (r132 == 0)) else some ((IntKind.wrap .u64 (Int.tdiv (IntKind.wrap .u64 a1) r110)), (IntKind.wrap .u64 (Int.tdiv (IntKind.wrap .u64 b1) r110)), false) : Option (Int × Int × Bool)) (uc fun p3 => uc fun q3 => fun x5 => bif x5 then some (0, 1, 0) else Option.bind (math_bits_Rem64 k r124 r132 r110) (fun r115 => Option.bind (ratio_gcd k r110 r115) (fun r116 => gnz r116 (Option.bind (math_bits_Mul64 k (IntKind.wrap .u64 (Int.tdiv r110 r116)) p3) (uc fun r117 => fun r118 => bif (r117 != 0) then some (0, 0, 6) else Option.bind (math_bits_Mul64 k r118 q3) (uc fun r119 => fun r1110 => bif (r119 != 0) then some (0, 0, 6) else Option.bind (ratio_wide_over k r11 r124 r132 r116) (uc fun r1111 => fun r134 => Option.bind (ratio_lowest k r11 r1111 r134 r1110) (uc fun r128 => uc fun r142 => fun r152 => some (r128, r142, r152)))))))))))))))))
def ratio_Add_E (a0 : Int) (a1 : Int) (b0 : Int) (b1 : Int) : Int × Int × Int → V × List Blk := uc fun r17 => uc fun r18 => fun r19 => (.tuple [.agg [.d (.int .i64 r17), .d (.int .i64 r18)], .d (.int .i64 r19)], [])
theorem ratio_Add_goes (k : Nat) (a0 : Int) (a1 : Int) (b0 : Int) (b1 : Int) : RunsO Try.prog 84 [.agg [.d (.int .i64 a0), .d (.int .i64 a1)], .agg [.d (.int .i64 b0), .d (.int .i64 b1)]] [] (ratio_Add_E a0 a1 b0 b1) (ratio_Add k a0 a1 b0 b1) := by
  refine RunsO.of_goes (N := 92) (m := 0) (T := [(0, .agg [.d (.int .i64 a0), .d (.int .i64 a1)]), (1, .agg [.d (.int .i64 b0), .d (.int .i64 b1)])]) Try.func84 rfl rfl (h := ?_)
  unfold ratio_Add
  refine bStart ?_
  refine oSR rfl ?_
  refine oD (.ptr 0 0) (k_box (H' := [.box [.d (.int .i64 a0), .d (.int .i64 a1)]]) (cells := [.d (.int .i64 a0), .d (.int .i64 a1)])) ?_
  refine oD (.ptr 1 0) (k_box (H' := [.box [.d (.int .i64 a0), .d (.int .i64 a1)], .box [.d (.int .i64 b0), .d (.int .i64 b1)]]) (cells := [.d (.int .i64 b0), .d (.int .i64 b1)])) ?_
  refine oD (.ptr 2 0) (k_alloc (H' := [.box [.d (.int .i64 a0), .d (.int .i64 a1)], .box [.d (.int .i64 b0), .d (.int .i64 b1)], .box [.d (.int .i64 0), .d (.int .i64 0)]]) ty38) ?_
  refine oP (.d (.int .i64 0)) p_assign ?_
  refine oEnd ?_
  refine oSeq ?_
  refine oSR rfl ?_
  refine oQ (.agg [.d (.int .i64 a0), .d (.int .i64 a1)]) (k_loadAgg 0 0 (hu := Try.underlying38) (hi := ty38)) ?_
  refine bCall (caps := []) (v := (fun (r126 : Bool) => (.d (.bool r126) : V))) (H' := (fun (r126 : Bool) => ([.box [.d (.int .i64 a0), .d (.int .i64 a1)], .box [.d (.int .i64 b0), .d (.int .i64 b1)], .box [.d (.int .i64 0), .d (.int .i64 0)]] : List Blk))) [] _ (ratio_Valid_goes k a0 a1) (ho := rfl) (hfn := Try.func39) (hb := rfl) (hconv := ConvRs.refl _ _) (hnd := by decide) (hBl := fun _ => (by kernel_rfl)) (hv := fun _ => (by kernel_rfl)) (hH' := fun _ => (by kernel_rfl)) (h := fun r126 => ?_)
  refine oP (.d (.bool (!r126))) (p_not (p := r126)) ?_
  refine oP (.d (.bool (!r126))) p_move ?_
  refine bMeet 4 rfl ((fun (x3 : Bool) => [(2, .ptr 0 0), (3, .ptr 1 0), (4, .ptr 2 0), (20, .d (.bool x3))])) ((fun (x3 : Bool) => [.box [.d (.int .i64 a0), .d (.int .i64 a1)], .box [.d (.int .i64 b0), .d (.int .i64 b1)], .box [.d (.int .i64 0), .d (.int .i64 0)]])) (fun s => s) (fun x3 => ?_) (fun hj2 => ?_)
  ·refine oView (T' := [(2, .ptr 0 0), (3, .ptr 1 0), (4, .ptr 2 0), (20, .d (.bool x3))]) (H' := [.box [.d (.int .i64 a0), .d (.int .i64 a1)], .box [.d (.int .i64 b0), .d (.int .i64 b1)], .box [.d (.int .i64 0), .d (.int .i64 0)]]) (h := ?_)
   refine oEnd ?_
   refine bSplit 20 (h1 := fun hc => ?_) (h2 := fun hc => ?_)
   ·refine oCondT (h := ?_)
    refine oSR rfl ?_
    refine oP (.agg [.d (.int .i64 0), .d (.int .i64 0)]) (p_build bld38) ?_
    refine oD (.undef) (k_store (vs := [.d (.int .i64 0), .d (.int .i64 0)]) (H' := [.box [.d (.int .i64 a0), .d (.int .i64 a1)], .box [.d (.int .i64 b0), .d (.int .i64 b1)], .box [.d (.int .i64 0), .d (.int .i64 0)]]) 2 0 (hi := ty38)) ?_
    refine oP (.d (.int .i64 1)) p_assign ?_
    refine oEnd ?_
    exact oRet (r0 := (0, 0, 1)) (rv := .tuple [.agg [.d (.int .i64 0), .d (.int .i64 0)], .d (.int .i64 1)]) (B := []) (vs := [.agg [.d (.int .i64 0), .d (.int .i64 0)], .d (.int .i64 1)]) (σ := []) (hf := Try.func84) (hrs := rfl) (hres := .cons _ _ _ _ (.agg 4 38 2 0 [.d (.int .i64 0), .d (.int .i64 0)] [.d (.int .i64 0), .d (.int .i64 0)] _ _ _ _ (by kernel_rfl) (by kernel_rfl) Try.underlying38 (by kernel_rfl) ty38 (by kernel_rfl) (by kernel_rfl)) (.cons _ _ _ _ (.tmp 5 _ (by kernel_rfl)) .nil)) (hnd := by decide)
   ·refine oCondF (h := ?_)
    refine oSkip ?_
    refine oSR rfl ?_
    refine oP (.ptr 0 1) (k_fieldAddr 0 0 (hu := Try.underlying38) (hf := rfl) (hi := ty3)) ?_
    refine oQ (.d (.int .i64 a1)) (k_load 0 1 (hu := Try.underlying3)) ?_
    refine oP (.d (.int .u64 (IntKind.wrap .u64 a1))) (p_conv (k := .i64) (p := a1) (hu1 := Try.underlying3) (hu2 := Try.underlying62)) ?_
    refine oP (.ptr 1 1) (k_fieldAddr 1 0 (hu := Try.underlying38) (hf := rfl) (hi := ty3)) ?_
    refine oQ (.d (.int .i64 b1)) (k_load 1 1 (hu := Try.underlying3)) ?_
    refine oP (.d (.int .u64 (IntKind.wrap .u64 b1))) (p_conv (k := .i64) (p := b1) (hu1 := Try.underlying3) (hu2 := Try.underlying62)) ?_
    refine bCall (caps := []) (v := (fun (r110 : Int) => (.d (.int .u64 r110) : V))) (H' := (fun (r110 : Int) => ([.box [.d (.int .i64 a0), .d (.int .i64 a1)], .box [.d (.int .i64 b0), .d (.int .i64 b1)], .box [.d (.int .i64 0), .d (.int .i64 0)]] : List Blk))) [] _ (ratio_gcd_goes k (IntKind.wrap .u64 a1) (IntKind.wrap .u64 b1)) (ho := rfl) (hfn := Try.func65) (hb := rfl) (hconv := ConvRs.refl _ _) (hnd := by decide) (hBl := fun _ => (by kernel_rfl)) (hv := fun _ => (by kernel_rfl)) (hH' := fun _ => (by kernel_rfl)) (h := fun r110 => ?_)
    refine oP (.d (.int .u64 r110)) p_assign ?_
    refine oEnd ?_
    refine oSeq ?_
    refine oDraw [(0, 12), (1, 12), (2, 12)] rfl ?_
    refine aP 0 (.ptr 0 1) rfl (k_fieldAddr 0 0 (hu := Try.underlying38) (hf := rfl) (hi := ty3)) ?_
    refine aQ 1 [0] (.d (.int .i64 a1)) rfl (k_load 0 1 (hu := Try.underlying3)) ?_
    refine aP 2 (.d (.int .u64 (IntKind.wrap .u64 a1))) rfl (p_conv (k := .i64) (p := a1) (hu1 := Try.underlying3) (hu2 := Try.underlying62)) ?_
    refine aP 3 (.d (.int .u64 r110)) rfl p_move ?_
    refine dNz (fun h1 => ?_)
    refine aTakeP (i := 4) (.d (.int .u64 (IntKind.wrap .u64 (Int.tdiv (IntKind.wrap .u64 a1) r110)))) rfl (hp := p_quo (k := .u64) (p := (IntKind.wrap .u64 a1)) (q := r110) (hq := h1)) (h := ?_)
    refine aP 5 (.ptr 1 1) rfl (k_fieldAddr 1 0 (hu := Try.underlying38) (hf := rfl) (hi := ty3)) ?_
    refine aQ 6 [1] (.d (.int .i64 b1)) rfl (k_load 1 1 (hu := Try.underlying3)) ?_
    refine aP 7 (.d (.int .u64 (IntKind.wrap .u64 b1))) rfl (p_conv (k := .i64) (p := b1) (hu1 := Try.underlying3) (hu2 := Try.underlying62)) ?_
    refine aP 8 (.d (.int .u64 r110)) rfl p_move ?_
    refine dNz (fun h12 => ?_)
    refine aTakeP (i := 9) (.d (.int .u64 (IntKind.wrap .u64 (Int.tdiv (IntKind.wrap .u64 b1) r110)))) rfl (hp := p_quo (k := .u64) (p := (IntKind.wrap .u64 b1)) (q := r110) (hq := h12)) (h := ?_)
    refine aP 10 (.d (.int .u64 (IntKind.wrap .u64 (Int.tdiv (IntKind.wrap .u64 a1) r110)))) rfl p_assign ?_
    refine aP 11 (.d (.int .u64 (IntKind.wrap .u64 (Int.tdiv (IntKind.wrap .u64 b1) r110)))) rfl p_assign ?_
    refine aDone (h := ?_)
    refine oSeq ?_
    refine oDraw [(0, 11), (1, 11), (2, 11)] rfl ?_
    refine aP 0 (.ptr 0 0) rfl (k_fieldAddr 0 0 (hu := Try.underlying38) (hf := rfl) (hi := ty3)) ?_
    refine aQ 1 [0] (.d (.int .i64 a0)) rfl (k_load 0 0 (hu := Try.underlying3)) ?_
    refine aP 2 (.d (.int .u64 (IntKind.wrap .u64 (Int.tdiv (IntKind.wrap .u64 b1) r110)))) rfl p_move ?_
    refine aP 4 (.ptr 1 0) rfl (k_fieldAddr 1 0 (hu := Try.underlying38) (hf := rfl) (hi := ty3)) ?_
    refine aQ 5 [1] (.d (.int .i64 b0)) rfl (k_load 1 0 (hu := Try.underlying3)) ?_
    refine aP 6 (.d (.int .u64 (IntKind.wrap .u64 (Int.tdiv (IntKind.wrap .u64 a1) r110)))) rfl p_move ?_
    refine dCall (i := 3) (caps := []) (v := (uc fun (r122 : Int) => (fun (r13 : Int) => (.agg [.d (.bool (decide (a0 < 0))), .d (.int .u64 r122), .d (.int .u64 r13)] : V)))) (H' := (uc fun (r122 : Int) => (fun (r13 : Int) => ([.box [.d (.int .i64 a0), .d (.int .i64 a1)], .box [.d (.int .i64 b0), .d (.int .i64 b1)], .box [.d (.int .i64 0), .d (.int .i64 0)]] : List Blk)))) [] _ (ratio_times_goes k a0 (IntKind.wrap .u64 (Int.tdiv (IntKind.wrap .u64 b1) r110))) rfl (ho := rfl) (hfn := Try.func92) (hb := rfl) (hconv := ConvRs.refl _ _) (hnd := by decide) (hBl := fun _ => (by kernel_rfl)) (hv := fun _ => (by kernel_rfl)) (hH' := fun _ => (by kernel_rfl)) (h := fun r => ?_)
    obtain ⟨r122, r13⟩ := r
    refine dUc ?_
    refine dCall (i := 7) (caps := []) (v := (uc fun (r123 : Int) => (fun (r131 : Int) => (.agg [.d (.bool (decide (b0 < 0))), .d (.int .u64 r123), .d (.int .u64 r131)] : V)))) (H' := (uc fun (r123 : Int) => (fun (r131 : Int) => ([.box [.d (.int .i64 a0), .d (.int .i64 a1)], .box [.d (.int .i64 b0), .d (.int .i64 b1)], .box [.d (.int .i64 0), .d (.int .i64 0)]] : List Blk)))) [] _ (ratio_times_goes k b0 (IntKind.wrap .u64 (Int.tdiv (IntKind.wrap .u64 a1) r110))) rfl (ho := rfl) (hfn := Try.func92) (hb := rfl) (hconv := ConvRs.refl _ _) (hnd := by decide) (hBl := fun _ => (by kernel_rfl)) (hv := fun _ => (by kernel_rfl)) (hH' := fun _ => (by kernel_rfl)) (h := fun r => ?_)
    obtain ⟨r123, r131⟩ := r
    refine dUc ?_
    refine dCall (i := 8) (caps := []) (v := (uc fun (r11 : Bool) => (uc fun (r124 : Int) => (fun (r132 : Int) => (.agg [.d (.bool r11), .d (.int .u64 r124), .d (.int .u64 r132)] : V))))) (H' := (uc fun (r11 : Bool) => (uc fun (r124 : Int) => (fun (r132 : Int) => ([.box [.d (.int .i64 a0), .d (.int .i64 a1)], .box [.d (.int .i64 b0), .d (.int .i64 b1)], .box [.d (.int .i64 0), .d (.int .i64 0)]] : List Blk))))) [] _ (ratio_wide_plus_goes k (decide (a0 < 0)) r122 r13 (decide (b0 < 0)) r123 r131) rfl (ho := rfl) (hfn := Try.func95) (hb := rfl) (hconv := ConvRs.refl _ _) (hnd := by decide) (hBl := fun _ => (by kernel_rfl)) (hv := fun _ => (by kernel_rfl)) (hH' := fun _ => (by kernel_rfl)) (h := fun r => ?_)
    obtain ⟨r11, r124, r132⟩ := r
    refine dUc ?_
    refine dUc ?_
    refine aAlloc (i := 9) (d := 9) rfl (hop := rfl) (hd := rfl) (hty := ty106) (cells := [.d (.bool false), .d (.int .u64 0), .d (.int .u64 0)]) (h := ?_)
    refine dView (H' := [.box [.d (.int .i64 a0), .d (.int .i64 a1)], .box [.d (.int .i64 b0), .d (.int .i64 b1)], .box [.d (.int .i64 0), .d (.int .i64 0)], .box [.d (.bool false), .d (.int .u64 0), .d (.int .u64 0)]]) rfl rfl (h := ?_)
    refine aOne (i := 10) (v := .undef) rfl (hac := Does.acts (k_store (vs := [.d (.bool r11), .d (.int .u64 r124), .d (.int .u64 r132)]) (H' := [.box [.d (.int .i64 a0), .d (.int .i64 a1)], .box [.d (.int .i64 b0), .d (.int .i64 b1)], .box [.d (.int .i64 0), .d (.int .i64 0)], .box [.d (.bool r11), .d (.int .u64 r124), .d (.int .u64 r132)]]) 3 0 (hi := ty106))) (h := ?_)
    refine aDone (h := ?_)
    refine oSeq ?_
    refine oSR rfl ?_
    refine oP (.ptr 3 1) (k_fieldAddr 3 0 (hu := Try.underlying106) (hf := rfl) (hi := ty62)) ?_
    refine oQ (.d (.int .u64 r124)) (k_load 3 1 (hu := Try.underlying62)) ?_
    refine oP (.d (.bool (r124 == 0))) (p_int (k := .u64) (p := r124) (q := 0)) ?_
    refine oP (.d (.bool (r124 == 0))) p_move ?_
    refine bMeet 4 rfl ((uc fun (p3 : Int) => (uc fun (q3 : Int) => (fun (x5 : Bool) => [(4, .ptr 0 0), (6, .d (.int .u64 r110)), (7, .d (.int .u64 p3)), (8, .d (.int .u64 q3)), (9, .ptr 1 0), (55, .d (.bool x5))])))) ((uc fun (p3 : Int) => (uc fun (q3 : Int) => (fun (x5 : Bool) => [.box [.d (.int .i64 0), .d (.int .i64 0)], .box [.d (.bool r11), .d (.int .u64 r124), .d (.int .u64 r132)]])))) (fun s => s) (fun s => ?_) (fun hj1 => ?_)
    ·obtain ⟨p3, q3, x5⟩ := s
     refine bUc ?_
     refine bUc ?_
     refine oView (T' := [(4, .ptr 0 0), (6, .d (.int .u64 r110)), (7, .d (.int .u64 p3)), (8, .d (.int .u64 q3)), (9, .ptr 1 0), (55, .d (.bool x5))]) (H' := [.box [.d (.int .i64 0), .d (.int .i64 0)], .box [.d (.bool r11), .d (.int .u64 r124), .d (.int .u64 r132)]]) (h := ?_)
     refine oEnd ?_
     refine bSplit 55 (h1 := fun hc => ?_) (h2 := fun hc => ?_)
     ·refine oCondT (h := ?_)
      refine oSR rfl ?_
      refine oP (.agg [.d (.int .i64 0), .d (.int .i64 1)]) (p_build bld38) ?_
      refine oD (.undef) (k_store (vs := [.d (.int .i64 0), .d (.int .i64 1)]) (H' := [.box [.d (.int .i64 0), .d (.int .i64 1)], .box [.d (.bool r11), .d (.int .u64 r124), .d (.int .u64 r132)]]) 0 0 (hi := ty38)) ?_
      refine oP (.d (.int .i64 0)) p_assign ?_
      refine oEnd ?_
      exact oRet (r0 := (0, 1, 0)) (rv := .tuple [.agg [.d (.int .i64 0), .d (.int .i64 1)], .d (.int .i64 0)]) (B := []) (vs := [.agg [.d (.int .i64 0), .d (.int .i64 1)], .d (.int .i64 0)]) (σ := []) (hf := Try.func84) (hrs := rfl) (hres := .cons _ _ _ _ (.agg 4 38 0 0 [.d (.int .i64 0), .d (.int .i64 1)] [.d (.int .i64 0), .d (.int .i64 1)] _ _ _ _ (by kernel_rfl) (by kernel_rfl) Try.underlying38 (by kernel_rfl) ty38 (by kernel_rfl) (by kernel_rfl)) (.cons _ _ _ _ (.tmp 5 _ (by kernel_rfl)) .nil)) (hnd := by decide)
     ·refine oCondF (h := ?_)
      refine oSkip ?_
      refine oSR rfl ?_
      refine oP (.d (.int .u64 r110)) p_move ?_
      refine oP (.ptr 1 1) (k_fieldAddr 1 0 (hu := Try.underlying106) (hf := rfl) (hi := ty62)) ?_
      refine oQ (.d (.int .u64 r124)) (k_load 1 1 (hu := Try.underlying62)) ?_
      refine oP (.ptr 1 2) (k_fieldAddr 1 0 (hu := Try.underlying106) (hf := rfl) (hi := ty62)) ?_
      refine oQ (.d (.int .u64 r132)) (k_load 1 2 (hu := Try.underlying62)) ?_
      refine oP (.d (.int .u64 r110)) p_move ?_
      refine bCall (caps := []) (v := (fun (r115 : Int) => (.d (.int .u64 r115) : V))) (H' := (fun (r115 : Int) => ([.box [.d (.int .i64 0), .d (.int .i64 0)], .box [.d (.bool r11), .d (.int .u64 r124), .d (.int .u64 r132)]] : List Blk))) [] _ (math_bits_Rem64_goes k r124 r132 r110) (ho := rfl) (hfn := Try.func96) (hb := rfl) (hconv := ConvRs.refl _ _) (hnd := by decide) (hBl := fun _ => (by kernel_rfl)) (hv := fun _ => (by kernel_rfl)) (hH' := fun _ => (by kernel_rfl)) (h := fun r115 => ?_)
      refine bCall (caps := []) (v := (fun (r116 : Int) => (.d (.int .u64 r116) : V))) (H' := (fun (r116 : Int) => ([.box [.d (.int .i64 0), .d (.int .i64 0)], .box [.d (.bool r11), .d (.int .u64 r124), .d (.int .u64 r132)]] : List Blk))) [] _ (ratio_gcd_goes k r110 r115) (ho := rfl) (hfn := Try.func65) (hb := rfl) (hconv := ConvRs.refl _ _) (hnd := by decide) (hBl := fun _ => (by kernel_rfl)) (hv := fun _ => (by kernel_rfl)) (hH' := fun _ => (by kernel_rfl)) (h := fun r116 => ?_)
      refine oP (.d (.int .u64 r116)) p_assign ?_
      refine oEnd ?_
      refine oSR rfl ?_
      refine oP (.d (.int .u64 r110)) p_move ?_
      refine oP (.d (.int .u64 r116)) p_move ?_
      refine bNz (fun h111 => ?_)
      refine oP (.d (.int .u64 (IntKind.wrap .u64 (Int.tdiv r110 r116)))) (p_quo (k := .u64) (p := r110) (q := r116) (hq := h111)) ?_
      refine oP (.d (.int .u64 p3)) p_move ?_
      refine bCall (caps := []) (v := (uc fun (r117 : Int) => (fun (r118 : Int) => (.tuple [.d (.int .u64 r117), .d (.int .u64 r118)] : V)))) (H' := (uc fun (r117 : Int) => (fun (r118 : Int) => ([.box [.d (.int .i64 0), .d (.int .i64 0)], .box [.d (.bool r11), .d (.int .u64 r124), .d (.int .u64 r132)]] : List Blk)))) [] _ (math_bits_Mul64_goes k (IntKind.wrap .u64 (Int.tdiv r110 r116)) p3) (ho := rfl) (hfn := Try.func81) (hb := rfl) (hconv := ConvRs.refl _ _) (hnd := by decide) (hBl := fun _ => (by kernel_rfl)) (hv := fun _ => (by kernel_rfl)) (hH' := fun _ => (by kernel_rfl)) (h := fun r => ?_)
      obtain ⟨r117, r118⟩ := r
      refine bUc ?_
      refine oP (.tuple [.d (.int .u64 r117), .d (.int .u64 r118)]) p_move ?_
      refine oP (.d (.int .u64 r117)) k_extract ?_
      refine oP (.d (.int .u64 r118)) k_extract ?_
      refine oP (.d (.int .u64 r117)) p_assign ?_
      refine oP (.d (.int .u64 r118)) p_assign ?_
      refine oEnd ?_
      refine oSeq ?_
      refine oSR rfl ?_
      refine oP (.d (.int .u64 r117)) p_move ?_
      refine oP (.d (.bool (r117 != 0))) (p_int (k := .u64) (p := r117) (q := 0)) ?_
      refine oEnd ?_
      refine bSplit 74 (h1 := fun hc => ?_) (h2 := fun hc => ?_)
      ·refine oCondT (h := ?_)
       refine oSR rfl ?_
       refine oP (.agg [.d (.int .i64 0), .d (.int .i64 0)]) (p_build bld38) ?_
       refine oD (.undef) (k_store (vs := [.d (.int .i64 0), .d (.int .i64 0)]) (H' := [.box [.d (.int .i64 0), .d (.int .i64 0)], .box [.d (.bool r11), .d (.int .u64 r124), .d (.int .u64 r132)]]) 0 0 (hi := ty38)) ?_
       refine oP (.d (.int .i64 6)) p_assign ?_
       refine oEnd ?_
       exact oRet (r0 := (0, 0, 6)) (rv := .tuple [.agg [.d (.int .i64 0), .d (.int .i64 0)], .d (.int .i64 6)]) (B := []) (vs := [.agg [.d (.int .i64 0), .d (.int .i64 0)], .d (.int .i64 6)]) (σ := []) (hf := Try.func84) (hrs := rfl) (hres := .cons _ _ _ _ (.agg 4 38 0 0 [.d (.int .i64 0), .d (.int .i64 0)] [.d (.int .i64 0), .d (.int .i64 0)] _ _ _ _ (by kernel_rfl) (by kernel_rfl) Try.underlying38 (by kernel_rfl) ty38 (by kernel_rfl) (by kernel_rfl)) (.cons _ _ _ _ (.tmp 5 _ (by kernel_rfl)) .nil)) (hnd := by decide)
      ·refine oCondF (h := ?_)
       refine oSkip ?_
       refine oSR rfl ?_
       refine oP (.d (.int .u64 r118)) p_move ?_
       refine oP (.d (.int .u64 q3)) p_move ?_
       refine bCall (caps := []) (v := (uc fun (r119 : Int) => (fun (r1110 : Int) => (.tuple [.d (.int .u64 r119), .d (.int .u64 r1110)] : V)))) (H' := (uc fun (r119 : Int) => (fun (r1110 : Int) => ([.box [.d (.int .i64 0), .d (.int .i64 0)], .box [.d (.bool r11), .d (.int .u64 r124), .d (.int .u64 r132)]] : List Blk)))) [] _ (math_bits_Mul64_goes k r118 q3) (ho := rfl) (hfn := Try.func81) (hb := rfl) (hconv := ConvRs.refl _ _) (hnd := by decide) (hBl := fun _ => (by kernel_rfl)) (hv := fun _ => (by kernel_rfl)) (hH' := fun _ => (by kernel_rfl)) (h := fun r => ?_)
       obtain ⟨r119, r1110⟩ := r
       refine bUc ?_
       refine oP (.tuple [.d (.int .u64 r119), .d (.int .u64 r1110)]) p_move ?_
       refine oP (.d (.int .u64 r119)) k_extract ?_
       refine oP (.d (.int .u64 r1110)) k_extract ?_
       refine oP (.d (.int .u64 r119)) p_assign ?_
       refine oP (.d (.int .u64 r1110)) p_assign ?_
       refine oEnd ?_
       refine oSeq ?_
       refine oSR rfl ?_
       refine oP (.d (.int .u64 r119)) p_move ?_
       refine oP (.d (.bool (r119 != 0))) (p_int (k := .u64) (p := r119) (q := 0)) ?_
       refine oEnd ?_
       refine bSplit 83 (h1 := fun hc => ?_) (h2 := fun hc => ?_)
       ·refine oCondT (h := ?_)
        refine oSR rfl ?_
        refine oP (.agg [.d (.int .i64 0), .d (.int .i64 0)]) (p_build bld38) ?_
        refine oD (.undef) (k_store (vs := [.d (.int .i64 0), .d (.int .i64 0)]) (H' := [.box [.d (.int .i64 0), .d (.int .i64 0)], .box [.d (.bool r11), .d (.int .u64 r124), .d (.int .u64 r132)]]) 0 0 (hi := ty38)) ?_
        refine oP (.d (.int .i64 6)) p_assign ?_
        refine oEnd ?_
        exact oRet (r0 := (0, 0, 6)) (rv := .tuple [.agg [.d (.int .i64 0), .d (.int .i64 0)], .d (.int .i64 6)]) (B := []) (vs := [.agg [.d (.int .i64 0), .d (.int .i64 0)], .d (.int .i64 6)]) (σ := []) (hf := Try.func84) (hrs := rfl) (hres := .cons _ _ _ _ (.agg 4 38 0 0 [.d (.int .i64 0), .d (.int .i64 0)] [.d (.int .i64 0), .d (.int .i64 0)] _ _ _ _ (by kernel_rfl) (by kernel_rfl) Try.underlying38 (by kernel_rfl) ty38 (by kernel_rfl) (by kernel_rfl)) (.cons _ _ _ _ (.tmp 5 _ (by kernel_rfl)) .nil)) (hnd := by decide)
       ·refine oCondF (h := ?_)
        refine oSkip ?_
        refine oSR rfl ?_
        refine oQ (.agg [.d (.bool r11), .d (.int .u64 r124), .d (.int .u64 r132)]) (k_loadAgg 1 0 (hu := Try.underlying106) (hi := ty106)) ?_
        refine oP (.d (.int .u64 r116)) p_move ?_
        refine bCall (caps := []) (v := (uc fun (r1111 : Int) => (fun (r134 : Int) => (.agg [.d (.bool r11), .d (.int .u64 r1111), .d (.int .u64 r134)] : V)))) (H' := (uc fun (r1111 : Int) => (fun (r134 : Int) => ([.box [.d (.int .i64 0), .d (.int .i64 0)], .box [.d (.bool r11), .d (.int .u64 r124), .d (.int .u64 r132)]] : List Blk)))) [] _ (ratio_wide_over_goes k r11 r124 r132 r116) (ho := rfl) (hfn := Try.func97) (hb := rfl) (hconv := ConvRs.refl _ _) (hnd := by decide) (hBl := fun _ => (by kernel_rfl)) (hv := fun _ => (by kernel_rfl)) (hH' := fun _ => (by kernel_rfl)) (h := fun r => ?_)
        obtain ⟨r1111, r134⟩ := r
        refine bUc ?_
        refine oP (.d (.int .u64 r1110)) p_move ?_
        refine bCall (caps := []) (v := (uc fun (r128 : Int) => (uc fun (r142 : Int) => (fun (r152 : Int) => (.tuple [.agg [.d (.int .i64 r128), .d (.int .i64 r142)], .d (.int .i64 r152)] : V))))) (H' := (uc fun (r128 : Int) => (uc fun (r142 : Int) => (fun (r152 : Int) => ([.box [.d (.int .i64 0), .d (.int .i64 0)], .box [.d (.bool r11), .d (.int .u64 r124), .d (.int .u64 r132)]] : List Blk))))) [] _ (ratio_lowest_goes k r11 r1111 r134 r1110) (ho := rfl) (hfn := Try.func89) (hb := rfl) (hconv := ConvRs.refl _ _) (hnd := by decide) (hBl := fun _ => (by kernel_rfl)) (hv := fun _ => (by kernel_rfl)) (hH' := fun _ => (by kernel_rfl)) (h := fun r => ?_)
        obtain ⟨r128, r142, r152⟩ := r
        refine bUc ?_
        refine bUc ?_
        refine oP (.agg [.d (.int .i64 r128), .d (.int .i64 r142)]) k_extract ?_
        refine oP (.d (.int .i64 r152)) k_extract ?_
        refine oD (.undef) (k_store (vs := [.d (.int .i64 r128), .d (.int .i64 r142)]) (H' := [.box [.d (.int .i64 r128), .d (.int .i64 r142)], .box [.d (.bool r11), .d (.int .u64 r124), .d (.int .u64 r132)]]) 0 0 (hi := ty38)) ?_
        refine oP (.d (.int .i64 r152)) p_assign ?_
        refine oEnd ?_
        exact oRet (r0 := (r128, r142, r152)) (rv := .tuple [.agg [.d (.int .i64 r128), .d (.int .i64 r142)], .d (.int .i64 r152)]) (B := []) (vs := [.agg [.d (.int .i64 r128), .d (.int .i64 r142)], .d (.int .i64 r152)]) (σ := []) (hf := Try.func84) (hrs := rfl) (hres := .cons _ _ _ _ (.agg 4 38 0 0 [.d (.int .i64 r128), .d (.int .i64 r142)] [.d (.int .i64 r128), .d (.int .i64 r142)] _ _ _ _ (by kernel_rfl) (by kernel_rfl) Try.underlying38 (by kernel_rfl) ty38 (by kernel_rfl) (by kernel_rfl)) (.cons _ _ _ _ (.tmp 5 _ (by kernel_rfl)) .nil)) (hnd := by decide)
    ·refine bSplit 51 (h1 := fun hc => ?_) (h2 := fun hc => ?_)
     ·refine oP (.ptr 3 2) (k_fieldAddr 3 0 (hu := Try.underlying106) (hf := rfl) (hi := ty62)) ?_
      refine oQ (.d (.int .u64 r132)) (k_load 3 2 (hu := Try.underlying62)) ?_
      refine oP (.d (.bool (r132 == 0))) (p_int (k := .u64) (p := r132) (q := 0)) ?_
      refine oP (.d (.bool (r132 == 0))) (p_pick (b := true)) ?_
      refine oHead [4, 6, 7, 8, 9, 55] [2, 3] (T' := [(4, .ptr 0 0), (6, .d (.int .u64 r110)), (7, .d (.int .u64 (IntKind.wrap .u64 (Int.tdiv (IntKind.wrap .u64 a1) r110)))), (8, .d (.int .u64 (IntKind.wrap .u64 (Int.tdiv (IntKind.wrap .u64 b1) r110)))), (9, .ptr 1 0), (55, .d (.bool (r132 == 0)))]) (H' := [.box [.d (.int .i64 0), .d (.int .i64 0)], .box [.d (.bool r11), .d (.int .u64 r124), .d (.int .u64 r132)]]) (hnd := by decide) (h := ?_)
      exact hj1 ((IntKind.wrap .u64 (Int.tdiv (IntKind.wrap .u64 a1) r110)), (IntKind.wrap .u64 (Int.tdiv (IntKind.wrap .u64 b1) r110)), (r132 == 0))
     ·refine oNot (h := ?_)
      refine oNot (h := ?_)
      refine oNot (h := ?_)
      refine oP (.d (.bool false)) (p_pick (b := false)) ?_
      refine oHead [4, 6, 7, 8, 9, 55] [2, 3] (T' := [(4, .ptr 0 0), (6, .d (.int .u64 r110)), (7, .d (.int .u64 (IntKind.wrap .u64 (Int.tdiv (IntKind.wrap .u64 a1) r110)))), (8, .d (.int .u64 (IntKind.wrap .u64 (Int.tdiv (IntKind.wrap .u64 b1) r110)))), (9, .ptr 1 0), (55, .d (.bool false))]) (H' := [.box [.d (.int .i64 0), .d (.int .i64 0)], .box [.d (.bool r11), .d (.int .u64 r124), .d (.int .u64 r132)]]) (hnd := by decide) (h := ?_)
      exact hj1 ((IntKind.wrap .u64 (Int.tdiv (IntKind.wrap .u64 a1) r110)), (IntKind.wrap .u64 (Int.tdiv (IntKind.wrap .u64 b1) r110)), false)
  ·refine bSplit 16 (h1 := fun hc => ?_) (h2 := fun hc => ?_)
   ·refine oNot (h := ?_)
    refine oNot (h := ?_)
    refine oNot (h := ?_)
    refine oP (.d (.bool true)) (p_pick (b := true)) ?_
    refine oHead [2, 3, 4, 20] [0, 1, 2] (T' := [(2, .ptr 0 0), (3, .ptr 1 0), (4, .ptr 2 0), (20, .d (.bool true))]) (H' := [.box [.d (.int .i64 a0), .d (.int .i64 a1)], .box [.d (.int .i64 b0), .d (.int .i64 b1)], .box [.d (.int .i64 0), .d (.int .i64 0)]]) (hnd := by decide) (h := ?_)
    exact hj2 true
   ·refine oQ (.agg [.d (.int .i64 b0), .d (.int .i64 b1)]) (k_loadAgg 1 0 (hu := Try.underlying38) (hi := ty38)) ?_
    refine bCall (caps := []) (v := (fun (r129 : Bool) => (.d (.bool r129) : V))) (H' := (fun (r129 : Bool) => ([.box [.d (.int .i64 a0), .d (.int .i64 a1)], .box [.d (.int .i64 b0), .d (.int .i64 b1)], .box [.d (.int .i64 0), .d (.int .i64 0)]] : List Blk))) [] _ (ratio_Valid_goes k b0 b1) (ho := rfl) (hfn := Try.func39) (hb := rfl) (hconv := ConvRs.refl _ _) (hnd := by decide) (hBl := fun _ => (by kernel_rfl)) (hv := fun _ => (by kernel_rfl)) (hH' := fun _ => (by kernel_rfl)) (h := fun r129 => ?_)
    refine oP (.d (.bool (!r129))) (p_not (p := r129)) ?_
    refine oP (.d (.bool (!r129))) (p_pick (b := false)) ?_
    refine oHead [2, 3, 4, 20] [0, 1, 2] (T' := [(2, .ptr 0 0), (3, .ptr 1 0), (4, .ptr 2 0), (20, .d (.bool (!r129)))]) (H' := [.box [.d (.int .i64 a0), .d (.int .i64 a1)], .box [.d (.int .i64 b0), .d (.int .i64 b1)], .box [.d (.int .i64 0), .d (.int .i64 0)]]) (hnd := by decide) (h := ?_)
    exact hj2 (!r129)

/-- awardingbody/ratio.Sub -/
def ratio_Sub (k : Nat) (a0 : Int) (a1 : Int) (b0 : Int) (b1 : Int) : Option (Int × Int × Int) := Option.bind (ratio_Valid k a0 a1) (fun r122 => Option.bind (bif (!r122) then some true else Option.bind (ratio_Valid k b0 b1) (fun r124 => some (!r124)) : Option (Bool)) (fun x1 => bif x1 then some (0, 0, 1) else Option.bind (ratio_Add k a0 a1 (IntKind.wrap .i64 (0 - b0)) b1) (uc fun r171 => uc fun r181 => fun r191 => some (r171, r181, r191))))
def ratio_Sub_E (a0 : Int) (a1 : Int) (b0 : Int) (b1 : Int) : Int × Int × Int → V × List Blk := uc fun r1 => uc fun r11 => fun r13 => (.tuple [.agg [.d (.int .i64 r1), .d (.int .i64 r11)], .d (.int .i64 r13)], [])
theorem ratio_Sub_goes (k : Nat) (a0 : Int) (a1 : Int) (b0 : Int) (b1 : Int) : RunsO Try.prog 75 [.agg [.d (.int .i64 a0), .d (.int .i64 a1)], .agg [.d (.int .i64 b0), .d (.int .i64 b1)]] [] (ratio_Sub_E a0 a1 b0 b1) (ratio_Sub k a0 a1 b0 b1) := by
  refine RunsO.of_goes (N := 25) (m := 0) (T := [(0, .agg [.d (.int .i64 a0), .d (.int .i64 a1)]), (1, .agg [.d (.int .i64 b0), .d (.int .i64 b1)])]) Try.func75 rfl rfl (h := ?_)
  unfold ratio_Sub
  refine bStart ?_
  refine oSR rfl ?_
  refine oD (.ptr 0 0) (k_box (H' := [.box [.d (.int .i64 a0), .d (.int .i64 a1)]]) (cells := [.d (.int .i64 a0), .d (.int .i64 a1)])) ?_
  refine oD (.ptr 1 0) (k_box (H' := [.box [.d (.int .i64 a0), .d (.int .i64 a1)], .box [.d (.int .i64 b0), .d (.int .i64 b1)]]) (cells := [.d (.int .i64 b0), .d (.int .i64 b1)])) ?_
  refine oD (.ptr 2 0) (k_alloc (H' := [.box [.d (.int .i64 a0), .d (.int .i64 a1)], .box [.d (.int .i64 b0), .d (.int .i64 b1)], .box [.d (.int .i64 0), .d (.int .i64 0)]]) ty38) ?_
  refine oP (.d (.int .i64 0)) p_assign ?_
  refine oEnd ?_
  refine oSeq ?_
  refine oSR rfl ?_
  refine oQ (.agg [.d (.int .i64 a0), .d (.int .i64 a1)]) (k_loadAgg 0 0 (hu := Try.underlying38) (hi := ty38)) ?_
  refine bCall (caps := []) (v := (fun (r122 : Bool) => (.d (.bool r122) : V))) (H' := (fun (r122 : Bool) => ([.box [.d (.int .i64 a0), .d (.int .i64 a1)], .box [.d (.int .i64 b0), .d (.int .i64 b1)], .box [.d (.int .i64 0), .d (.int .i64 0)]] : List Blk))) [] _ (ratio_Valid_goes k a0 a1) (ho := rfl) (hfn := Try.func39) (hb := rfl) (hconv := ConvRs.refl _ _) (hnd := by decide) (hBl := fun _ => (by kernel_rfl)) (hv := fun _ => (by kernel_rfl)) (hH' := fun _ => (by kernel_rfl)) (h := fun r122 => ?_)
  refine oP (.d (.bool (!r122))) (p_not (p := r122)) ?_
  refine oP (.d (.bool (!r122))) p_move ?_
  refine bMeet 4 rfl ((fun (x1 : Bool) => [(2, .ptr 0 0), (3, .ptr 1 0), (4, .ptr 2 0), (13, .d (.bool x1))])) ((fun (x1 : Bool) => [.box [.d (.int .i64 a0), .d (.int .i64 a1)], .box [.d (.int .i64 b0), .d (.int .i64 b1)], .box [.d (.int .i64 0), .d (.int .i64 0)]])) (fun s => s) (fun x1 => ?_) (fun hj1 => ?_)
  ·refine oView (T' := [(2, .ptr 0 0), (3, .ptr 1 0), (4, .ptr 2 0), (13, .d (.bool x1))]) (H' := [.box [.d (.int .i64 a0), .d (.int .i64 a1)], .box [.d (.int .i64 b0), .d (.int .i64 b1)], .box [.d (.int .i64 0), .d (.int .i64 0)]]) (h := ?_)
   refine oEnd ?_
   refine bSplit 13 (h1 := fun hc => ?_) (h2 := fun hc => ?_)
   ·refine oCondT (h := ?_)
    refine oSR rfl ?_
    refine oP (.agg [.d (.int .i64 0), .d (.int .i64 0)]) (p_build bld38) ?_
    refine oD (.undef) (k_store (vs := [.d (.int .i64 0), .d (.int .i64 0)]) (H' := [.box [.d (.int .i64 a0), .d (.int .i64 a1)], .box [.d (.int .i64 b0), .d (.int .i64 b1)], .box [.d (.int .i64 0), .d (.int .i64 0)]]) 2 0 (hi := ty38)) ?_
    refine oP (.d (.int .i64 1)) p_assign ?_
    refine oEnd ?_
    exact oRet (r0 := (0, 0, 1)) (rv := .tuple [.agg [.d (.int .i64 0), .d (.int .i64 0)], .d (.int .i64 1)]) (B := []) (vs := [.agg [.d (.int .i64 0), .d (.int .i64 0)], .d (.int .i64 1)]) (σ := []) (hf := Try.func75) (hrs := rfl) (hres := .cons _ _ _ _ (.agg 4 38 2 0 [.d (.int .i64 0), .d (.int .i64 0)] [.d (.int .i64 0), .d (.int .i64 0)] _ _ _ _ (by kernel_rfl) (by kernel_rfl) Try.underlying38 (by kernel_rfl) ty38 (by kernel_rfl) (by kernel_rfl)) (.cons _ _ _ _ (.tmp 5 _ (by kernel_rfl)) .nil)) (hnd := by decide)
   ·refine oCondF (h := ?_)
    refine oSkip ?_
    refine oSR rfl ?_
    refine oQ (.agg [.d (.int .i64 a0), .d (.int .i64 a1)]) (k_loadAgg 0 0 (hu := Try.underlying38) (hi := ty38)) ?_
    refine oP (.ptr 1 0) (k_fieldAddr 1 0 (hu := Try.underlying38) (hf := rfl) (hi := ty3)) ?_
    refine oQ (.d (.int .i64 b0)) (k_load 1 0 (hu := Try.underlying3)) ?_
    refine oP (.d (.int .i64 (IntKind.wrap .i64 (0 - b0)))) (p_neg (k := .i64) (p := b0)) ?_
    refine oP (.ptr 1 1) (k_fieldAddr 1 0 (hu := Try.underlying38) (hf := rfl) (hi := ty3)) ?_
    refine oQ (.d (.int .i64 b1)) (k_load 1 1 (hu := Try.underlying3)) ?_
    refine oP (.agg [.d (.int .i64 (IntKind.wrap .i64 (0 - b0))), .d (.int .i64 b1)]) (p_build bld38) ?_
    refine bCall (caps := []) (v := (uc fun (r171 : Int) => (uc fun (r181 : Int) => (fun (r191 : Int) => (.tuple [.agg [.d (.int .i64 r171), .d (.int .i64 r181)], .d (.int .i64 r191)] : V))))) (H' := (uc fun (r171 : Int) => (uc fun (r181 : Int) => (fun (r191 : Int) => ([.box [.d (.int .i64 a0), .d (.int .i64 a1)], .box [.d (.int .i64 b0), .d (.int .i64 b1)], .box [.d (.int .i64 0), .d (.int .i64 0)]] : List Blk))))) [] _ (ratio_Add_goes k a0 a1 (IntKind.wrap .i64 (0 - b0)) b1) (ho := rfl) (hfn := Try.func84) (hb := rfl) (hconv := ConvRs.refl _ _) (hnd := by decide) (hBl := fun _ => (by kernel_rfl)) (hv := fun _ => (by kernel_rfl)) (hH' := fun _ => (by kernel_rfl)) (h := fun r => ?_)
    obtain ⟨r171, r181, r191⟩ := r
    refine bUc ?_
    refine bUc ?_
    refine oP (.agg [.d (.int .i64 r171), .d (.int .i64 r181)]) k_extract ?_
    refine oP (.d (.int .i64 r191)) k_extract ?_
    refine oD (.undef) (k_store (vs := [.d (.int .i64 r171), .d (.int .i64 r181)]) (H' := [.box [.d (.int .i64 a0), .d (.int .i64 a1)], .box [.d (.int .i64 b0), .d (.int .i64 b1)], .box [.d (.int .i64 r171), .d (.int .i64 r181)]]) 2 0 (hi := ty38)) ?_
    refine oP (.d (.int .i64 r191)) p_assign ?_
    refine oEnd ?_
    exact oRet (r0 := (r171, r181, r191)) (rv := .tuple [.agg [.d (.int .i64 r171), .d (.int .i64 r181)], .d (.int .i64 r191)]) (B := []) (vs := [.agg [.d (.int .i64 r171), .d (.int .i64 r181)], .d (.int .i64 r191)]) (σ := []) (hf := Try.func75) (hrs := rfl) (hres := .cons _ _ _ _ (.agg 4 38 2 0 [.d (.int .i64 r171), .d (.int .i64 r181)] [.d (.int .i64 r171), .d (.int .i64 r181)] _ _ _ _ (by kernel_rfl) (by kernel_rfl) Try.underlying38 (by kernel_rfl) ty38 (by kernel_rfl) (by kernel_rfl)) (.cons _ _ _ _ (.tmp 5 _ (by kernel_rfl)) .nil)) (hnd := by decide)
  ·refine bSplit 9 (h1 := fun hc => ?_) (h2 := fun hc => ?_)
   ·refine oNot (h := ?_)
    refine oNot (h := ?_)
    refine oNot (h := ?_)
    refine oP (.d (.bool true)) (p_pick (b := true)) ?_
    refine oHead [2, 3, 4, 13] [0, 1, 2] (T' := [(2, .ptr 0 0), (3, .ptr 1 0), (4, .ptr 2 0), (13, .d (.bool true))]) (H' := [.box [.d (.int .i64 a0), .d (.int .i64 a1)], .box [.d (.int .i64 b0), .d (.int .i64 b1)], .box [.d (.int .i64 0), .d (.int .i64 0)]]) (hnd := by decide) (h := ?_)
    exact hj1 true
   ·refine oQ (.agg [.d (.int .i64 b0), .d (.int .i64 b1)]) (k_loadAgg 1 0 (hu := Try.underlying38) (hi := ty38)) ?_
    refine bCall (caps := []) (v := (fun (r124 : Bool) => (.d (.bool r124) : V))) (H' := (fun (r124 : Bool) => ([.box [.d (.int .i64 a0), .d (.int .i64 a1)], .box [.d (.int .i64 b0), .d (.int .i64 b1)], .box [.d (.int .i64 0), .d (.int .i64 0)]] : List Blk))) [] _ (ratio_Valid_goes k b0 b1) (ho := rfl) (hfn := Try.func39) (hb := rfl) (hconv := ConvRs.refl _ _) (hnd := by decide) (hBl := fun _ => (by kernel_rfl)) (hv := fun _ => (by kernel_rfl)) (hH' := fun _ => (by kernel_rfl)) (h := fun r124 => ?_)
    refine oP (.d (.bool (!r124))) (p_not (p := r124)) ?_
    refine oP (.d (.bool (!r124))) (p_pick (b := false)) ?_
    refine oHead [2, 3, 4, 13] [0, 1, 2] (T' := [(2, .ptr 0 0), (3, .ptr 1 0), (4, .ptr 2 0), (13, .d (.bool (!r124)))]) (H' := [.box [.d (.int .i64 a0), .d (.int .i64 a1)], .box [.d (.int .i64 b0), .d (.int .i64 b1)], .box [.d (.int .i64 0), .d (.int .i64 0)]]) (hnd := by decide) (h := ?_)
    exact hj1 (!r124)

/-- (*awardingbody/conversion.calc).do -/
def conversion_calc_do (k : Nat) (r0 : Int) (r1 : Int) (e1 : Int) (x : Int) : Option (Int) := blet ((x == 0) && (e1 != 0)) fun x4 => Option.bind (bif x4 then some 6 else some x : Option (Int)) (fun x5 => some x5)
def conversion_calc_do_E (r0 : Int) (r1 : Int) (e1 : Int) (x : Int) : Int → V × List Blk := fun x3 => (.agg [.d (.int .i64 r0), .d (.int .i64 r1)], [.box [.d (.int .i64 x3)]])
theorem conversion_calc_do_goes (k : Nat) (r0 : Int) (r1 : Int) (e1 : Int) (x : Int) : RunsO Try.prog 83 [.ptr 0 0, .agg [.d (.int .i64 r0), .d (.int .i64 r1)], .d (.int .i64 e1)] [.box [.d (.int .i64 x)]] (conversion_calc_do_E r0 r1 e1 x) (conversion_calc_do k r0 r1 e1 x) := by
  refine RunsO.of_goes (N := 20) (m := 1) (T := [(0, .ptr 0 0), (1, .agg [.d (.int .i64 r0), .d (.int .i64 r1)]), (2, .d (.int .i64 e1))]) Try.func83 rfl rfl (h := ?_)
  unfold conversion_calc_do
  refine bStart ?_
  refine oSR rfl ?_
  refine oD (.ptr 1 0) (k_box (H' := [.box [.d (.int .i64 x)], .box [.d (.int .i64 r0), .d (.int .i64 r1)]]) (cells := [.d (.int .i64 r0), .d (.int .i64 r1)])) ?_
  refine oD (.ptr 2 0) (k_alloc (H' := [.box [.d (.int .i64 x)], .box [.d (.int .i64 r0), .d (.int .i64 r1)], .box [.d (.int .i64 0), .d (.int .i64 0)]]) ty38) ?_
  refine oEnd ?_
  refine oSeq ?_
  refine oSR rfl ?_
  refine oP (.ptr 0 0) p_move ?_
  refine oP (.ptr 0 0) (k_nilCheck 0 0) ?_
  refine oP (.ptr 0 0) (k_fieldAddr 0 0 (hu := Try.underlying69) (hf := rfl) (hi := ty33)) ?_
  refine oQ (.d (.int .i64 x)) (k_load 0 0 (hu := Try.underlying33)) ?_
  refine oP (.d (.bool (x == 0))) (p_int (k := .i64) (p := x) (q := 0)) ?_
  refine oP (.d (.bool (x == 0))) p_move ?_
  refine bMeetF (H' := [.box [.d (.int .i64 x)], .box [.d (.int .i64 r0), .d (.int .i64 r1)], .box [.d (.int .i64 0), .d (.int .i64 0)]]) 3 rfl ((fun (x4 : Bool) => [(0, .ptr 0 0), (4, .ptr 1 0), (6, .ptr 2 0), (15, .d (.bool x4))])) (fun x4 => ?_) (fun F hj2 => ?_)
  ·refine oView (T' := [(0, .ptr 0 0), (4, .ptr 1 0), (6, .ptr 2 0), (15, .d (.bool x4))]) (H' := [.box [.d (.int .i64 x)], .box [.d (.int .i64 r0), .d (.int .i64 r1)], .box [.d (.int .i64 0), .d (.int .i64 0)]]) (h := ?_)
   refine oEnd ?_
   refine bJoin ((fun (x5 : Int) => [(4, .ptr 1 0), (6, .ptr 2 0)])) ((fun (x5 : Int) => [.box [.d (.int .i64 x5)], .box [.d (.int .i64 r0), .d (.int .i64 r1)], .box [.d (.int .i64 0), .d (.int .i64 0)]])) (fun s => s) (fun x5 => ?_) (fun hj3 => ?_)
   ·refine oView (T' := [(4, .ptr 1 0), (6, .ptr 2 0)]) (H' := [.box [.d (.int .i64 x5)], .box [.d (.int .i64 r0), .d (.int .i64 r1)], .box [.d (.int .i64 0), .d (.int .i64 0)]]) (h := ?_)
    refine oSR rfl ?_
    refine oQ (.agg [.d (.int .i64 r0), .d (.int .i64 r1)]) (k_loadAgg 1 0 (hu := Try.underlying38) (hi := ty38)) ?_
    refine oD (.undef) (k_store (vs := [.d (.int .i64 r0), .d (.int .i64 r1)]) (H' := [.box [.d (.int .i64 x5)], .box [.d (.int .i64 r0), .d (.int .i64 r1)], .box [.d (.int .i64 r0), .d (.int .i64 r1)]]) 2 0 (hi := ty38)) ?_
    refine oEnd ?_
    exact oRet (r0 := x5) (rv := .agg [.d (.int .i64 r0), .d (.int .i64 r1)]) (B := [.box [.d (.int .i64 x5)]]) (vs := [.agg [.d (.int .i64 r0), .d (.int .i64 r1)]]) (σ := [0]) (hf := Try.func83) (hrs := rfl) (hres := .cons _ _ _ _ (.agg 6 38 2 0 [.d (.int .i64 r0), .d (.int .i64 r1)] [.d (.int .i64 r0), .d (.int .i64 r1)] _ _ _ _ (by kernel_rfl) (by kernel_rfl) Try.underlying38 (by kernel_rfl) ty38 (by kernel_rfl) (by kernel_rfl)) .nil) (hnd := by decide)
   ·refine bSplit 15 (h1 := fun hc => ?_) (h2 := fun hc => ?_)
    ·refine oCondT (h := ?_)
     refine oRegion rfl ?_
     refine oP (.ptr 0 0) p_move ?_
     refine oP (.ptr 0 0) (k_nilCheck 0 0) ?_
     refine oP (.ptr 0 0) (k_fieldAddr 0 0 (hu := Try.underlying69) (hf := rfl) (hi := ty33)) ?_
     refine oD (.undef) (k_store (vs := [.d (.int .i64 6)]) (H' := [.box [.d (.int .i64 6)], .box [.d (.int .i64 r0), .d (.int .i64 r1)], .box [.d (.int .i64 0), .d (.int .i64 0)]]) 0 0 (hi := ty33)) ?_
     refine oEnd ?_
     refine oHead [4, 6] [0, 1, 2] (T' := [(4, .ptr 1 0), (6, .ptr 2 0)]) (H' := [.box [.d (.int .i64 6)], .box [.d (.int .i64 r0), .d (.int .i64 r1)], .box [.d (.int .i64 0), .d (.int .i64 0)]]) (hnd := by decide) (h := ?_)
     exact hj3 6
    ·refine oCondF (h := ?_)
     refine oSkip ?_
     refine oHead [4, 6] [0, 1, 2] (T' := [(4, .ptr 1 0), (6, .ptr 2 0)]) (H' := [.box [.d (.int .i64 x)], .box [.d (.int .i64 r0), .d (.int .i64 r1)], .box [.d (.int .i64 0), .d (.int .i64 0)]]) (hnd := by decide) (h := ?_)
     exact hj3 x
  ·refine bPickF 12 (fun c => F (c && (e1 != 0))) (h1 := fun hc => ?_) (h2 := fun hc => ?_)
   ·refine oP (.d (.int .i64 e1)) p_move ?_
    refine oP (.d (.bool (e1 != 0))) (p_int (k := .i64) (p := e1) (q := 0)) ?_
    refine oP (.d (.bool (e1 != 0))) (p_pick (b := true)) ?_
    refine oHead [0, 4, 6, 15] [0, 1, 2] (T' := [(0, .ptr 0 0), (4, .ptr 1 0), (6, .ptr 2 0), (15, .d (.bool (e1 != 0)))]) (H' := [.box [.d (.int .i64 x)], .box [.d (.int .i64 r0), .d (.int .i64 r1)], .box [.d (.int .i64 0), .d (.int .i64 0)]]) (hnd := by decide) (h := ?_)
    exact hj2 (e1 != 0)
   ·refine oNot (h := ?_)
    refine oNot (h := ?_)
    refine oP (.d (.bool false)) (p_pick (b := false)) ?_
    refine oHead [0, 4, 6, 15] [0, 1, 2] (T' := [(0, .ptr 0 0), (4, .ptr 1 0), (6, .ptr 2 0), (15, .d (.bool false))]) (H' := [.box [.d (.int .i64 x)], .box [.d (.int .i64 r0), .d (.int .i64 r1)], .box [.d (.int .i64 0), .d (.int .i64 0)]]) (hnd := by decide) (h := ?_)
    exact hj2 false

/-- (*awardingbody/conversion.calc).sub -/
def conversion_calc_sub (k : Nat) (a0 : Int) (a1 : Int) (b0 : Int) (b1 : Int) (x : Int) : Option (Int × Int × Int) := Option.bind (ratio_Sub k a0 a1 b0 b1) (uc fun r15 => uc fun r111 => fun r131 => Option.bind (conversion_calc_do k r15 r111 r131 x) (fun x31 => some (r15, r111, x31)))
def conversion_calc_sub_E (a0 : Int) (a1 : Int) (b0 : Int) (b1 : Int) (x : Int) : Int × Int × Int → V × List Blk := uc fun r12 => uc fun r14 => fun x1 => (.agg [.d (.int .i64 r12), .d (.int .i64 r14)], [.box [.d (.int .i64 x1)]])
theorem conversion_calc_sub_goes (k : Nat) (a0 : Int) (a1 : Int) (b0 : Int) (b1 : Int) (x : Int) : RunsO Try.prog 70 [.ptr 0 0, .agg [.d (.int .i64 a0), .d (.int .i64 a1)], .agg [.d (.int .i64 b0), .d (.int .i64 b1)]] [.box [.d (.int .i64 x)]] (conversion_calc_sub_E a0 a1 b0 b1 x) (conversion_calc_sub k a0 a1 b0 b1 x) := by
  refine RunsO.of_goes (N := 14) (m := 1) (T := [(0, .ptr 0 0), (1, .agg [.d (.int .i64 a0), .d (.int .i64 a1)]), (2, .agg [.d (.int .i64 b0), .d (.int .i64 b1)])]) Try.func70 rfl rfl (h := ?_)
  unfold conversion_calc_sub
  refine bStart ?_
  refine oSR rfl ?_
  refine oD (.ptr 1 0) (k_box (H' := [.box [.d (.int .i64 x)], .box [.d (.int .i64 a0), .d (.int .i64 a1)]]) (cells := [.d (.int .i64 a0), .d (.int .i64 a1)])) ?_
  refine oD (.ptr 2 0) (k_box (H' := [.box [.d (.int .i64 x)], .box [.d (.int .i64 a0), .d (.int .i64 a1)], .box [.d (.int .i64 b0), .d (.int .i64 b1)]]) (cells := [.d (.int .i64 b0), .d (.int .i64 b1)])) ?_
  refine oD (.ptr 3 0) (k_alloc (H' := [.box [.d (.int .i64 x)], .box [.d (.int .i64 a0), .d (.int .i64 a1)], .box [.d (.int .i64 b0), .d (.int .i64 b1)], .box [.d (.int .i64 0), .d (.int .i64 0)]]) ty38) ?_
  refine oEnd ?_
  refine oSR rfl ?_
  refine oP (.ptr 0 0) p_move ?_
  refine oQ (.agg [.d (.int .i64 a0), .d (.int .i64 a1)]) (k_loadAgg 1 0 (hu := Try.underlying38) (hi := ty38)) ?_
  refine oQ (.agg [.d (.int .i64 b0), .d (.int .i64 b1)]) (k_loadAgg 2 0 (hu := Try.underlying38) (hi := ty38)) ?_
  refine bCall (caps := []) (v := (uc fun (r15 : Int) => (uc fun (r111 : Int) => (fun (r131 : Int) => (.tuple [.agg [.d (.int .i64 r15), .d (.int .i64 r111)], .d (.int .i64 r131)] : V))))) (H' := (uc fun (r15 : Int) => (uc fun (r111 : Int) => (fun (r131 : Int) => ([.box [.d (.int .i64 x)], .box [.d (.int .i64 a0), .d (.int .i64 a1)], .box [.d (.int .i64 b0), .d (.int .i64 b1)], .box [.d (.int .i64 0), .d (.int .i64 0)]] : List Blk))))) [] _ (ratio_Sub_goes k a0 a1 b0 b1) (ho := rfl) (hfn := Try.func75) (hb := rfl) (hconv := ConvRs.refl _ _) (hnd := by decide) (hBl := fun _ => (by kernel_rfl)) (hv := fun _ => (by kernel_rfl)) (hH' := fun _ => (by kernel_rfl)) (h := fun r => ?_)
  obtain ⟨r15, r111, r131⟩ := r
  refine bUc ?_
  refine bUc ?_
  refine oP (.agg [.d (.int .i64 r15), .d (.int .i64 r111)]) k_extract ?_
  refine oP (.d (.int .i64 r131)) k_extract ?_
  refine bCall (caps := []) (v := (fun (x31 : Int) => (.agg [.d (.int .i64 r15), .d (.int .i64 r111)] : V))) (H' := (fun (x31 : Int) => ([.box [.d (.int .i64 x31)], .box [.d (.int .i64 a0), .d (.int .i64 a1)], .box [.d (.int .i64 b0), .d (.int .i64 b1)], .box [.d (.int .i64 0), .d (.int .i64 0)]] : List Blk))) [0] _ (conversion_calc_do_goes k r15 r111 r131 x) (ho := rfl) (hfn := Try.func83) (hb := rfl) (hconv := ConvRs.refl _ _) (hnd := by decide) (hBl := fun _ => (by kernel_rfl)) (hv := fun _ => (by kernel_rfl)) (hH' := fun _ => (by kernel_rfl)) (h := fun x31 => ?_)
  refine oD (.undef) (k_store (vs := [.d (.int .i64 r15), .d (.int .i64 r111)]) (H' := [.box [.d (.int .i64 x31)], .box [.d (.int .i64 a0), .d (.int .i64 a1)], .box [.d (.int .i64 b0), .d (.int .i64 b1)], .box [.d (.int .i64 r15), .d (.int .i64 r111)]]) 3 0 (hi := ty38)) ?_
  refine oEnd ?_
  exact oRet (r0 := (r15, r111, x31)) (rv := .agg [.d (.int .i64 r15), .d (.int .i64 r111)]) (B := [.box [.d (.int .i64 x31)]]) (vs := [.agg [.d (.int .i64 r15), .d (.int .i64 r111)]]) (σ := [0]) (hf := Try.func70) (hrs := rfl) (hres := .cons _ _ _ _ (.agg 6 38 3 0 [.d (.int .i64 r15), .d (.int .i64 r111)] [.d (.int .i64 r15), .d (.int .i64 r111)] _ _ _ _ (by kernel_rfl) (by kernel_rfl) Try.underlying38 (by kernel_rfl) ty38 (by kernel_rfl) (by kernel_rfl)) .nil) (hnd := by decide)

end Go.VM
