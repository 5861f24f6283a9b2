/- The kinds of the elements of slices, and the facts of the types, for the printed functions. -/
import Derived.Test.YteofgcpnhiplkaaProg
import Derived.KernelRfl
import Derived.Test.YteofgcpnhiplkaaEngS
namespace Go.VM
open Go.Proofs
set_option linter.unusedVariables false
set_option linter.unusedSimpArgs false
set_option maxRecDepth 100000
def e_i64 (x : Int) : List D := [.int .i64 x]
theorem e_i64_len (x : Int) : (e_i64 x).length = 1 := rfl
structure SGiven where
  Script : Int
  Part : Int
  Marker : Int
  Level : Int
  Value : Int
  Stamp_Time : Int
  Stamp_Source : Int
  Stamp_Seq : Int
deriving DecidableEq
def e_SGiven (x : SGiven) : List D := [.int .i64 x.Script, .int .i64 x.Part, .int .i64 x.Marker, .int .i64 x.Level, .int .i64 x.Value, .int .i64 x.Stamp_Time, .int .i64 x.Stamp_Source, .int .i64 x.Stamp_Seq]
theorem e_SGiven_len (x : SGiven) : (e_SGiven x).length = 8 := rfl
theorem ty0 : TyI Try.prog 0 (Go.Value.tuple #[]) 1 0 := by unfold TyI; kernel_rfl
theorem ty3 : TyI Try.prog 3 (Go.Value.int Go.IntKind.i64 0) 1 8 := by unfold TyI; kernel_rfl
theorem ty4 : TyI Try.prog 4 (Go.Value.bool false) 1 1 := by unfold TyI; kernel_rfl
theorem ty22 : TyI Try.prog 22 (Go.Value.slice none 0 0) 1 24 := by unfold TyI; kernel_rfl
theorem ty28 : TyI Try.prog 28 (Go.Value.agg #[(Go.Value.bool false), (Go.Value.int Go.IntKind.i64 0)]) 2 16 := by unfold TyI; kernel_rfl
theorem ty33 : TyI Try.prog 33 (Go.Value.agg #[(Go.Value.int Go.IntKind.i64 0), (Go.Value.int Go.IntKind.i64 0)]) 2 16 := by unfold TyI; kernel_rfl
theorem ty36 : TyI Try.prog 36 (Go.Value.agg #[(Go.Value.int Go.IntKind.i64 0), (Go.Value.int Go.IntKind.i64 0), (Go.Value.int Go.IntKind.i64 0)]) 3 24 := by unfold TyI; kernel_rfl
theorem ty38 : TyI Try.prog 38 (Go.Value.agg #[(Go.Value.int Go.IntKind.i64 0), (Go.Value.int Go.IntKind.i64 0), (Go.Value.int Go.IntKind.i64 0), (Go.Value.int Go.IntKind.i64 0), (Go.Value.int Go.IntKind.i64 0), (Go.Value.int Go.IntKind.i64 0), (Go.Value.int Go.IntKind.i64 0), (Go.Value.int Go.IntKind.i64 0)]) 8 64 := by unfold TyI; kernel_rfl
theorem ty62 : TyI Try.prog 62 (Go.Value.agg #[(Go.Value.slice none 0 0), (Go.Value.int Go.IntKind.i64 0)]) 2 32 := by unfold TyI; kernel_rfl
theorem bld28 : Bld Try.prog 28 (fun i => ([(0, 1), (1, 1)] : List (Nat × Nat))[i]?) (Go.Value.agg #[(Go.Value.bool false), (Go.Value.int Go.IntKind.i64 0)]) := bld_struct Try.underlying28 ty28 (by kernel_rfl)
theorem bld33 : Bld Try.prog 33 (fun i => ([(0, 1), (1, 1)] : List (Nat × Nat))[i]?) (Go.Value.agg #[(Go.Value.int Go.IntKind.i64 0), (Go.Value.int Go.IntKind.i64 0)]) := bld_struct Try.underlying33 ty33 (by kernel_rfl)
theorem bld36 : Bld Try.prog 36 (fun i => ([(0, 1), (1, 1), (2, 1)] : List (Nat × Nat))[i]?) (Go.Value.agg #[(Go.Value.int Go.IntKind.i64 0), (Go.Value.int Go.IntKind.i64 0), (Go.Value.int Go.IntKind.i64 0)]) := bld_struct Try.underlying36 ty36 (by kernel_rfl)
theorem bld38 : Bld Try.prog 38 (fun i => ([(0, 1), (1, 1), (2, 1), (3, 1), (4, 1), (5, 3)] : List (Nat × Nat))[i]?) (Go.Value.agg #[(Go.Value.int Go.IntKind.i64 0), (Go.Value.int Go.IntKind.i64 0), (Go.Value.int Go.IntKind.i64 0), (Go.Value.int Go.IntKind.i64 0), (Go.Value.int Go.IntKind.i64 0), (Go.Value.int Go.IntKind.i64 0), (Go.Value.int Go.IntKind.i64 0), (Go.Value.int Go.IntKind.i64 0)]) := bld_struct Try.underlying38 ty38 (by kernel_rfl)
theorem bld62 : Bld Try.prog 62 (fun i => ([(0, 1), (1, 1)] : List (Nat × Nat))[i]?) (Go.Value.agg #[(Go.Value.slice none 0 0), (Go.Value.int Go.IntKind.i64 0)]) := bld_struct Try.underlying62 ty62 (by kernel_rfl)
end Go.VM
