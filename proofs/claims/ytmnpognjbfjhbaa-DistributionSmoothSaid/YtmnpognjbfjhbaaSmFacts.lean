/- The kinds of the elements of slices, and the facts of the types, for the printed functions. -/
import Derived.Test.YtmnpognjbfjhbaaProg
import Derived.KernelRfl
import Derived.Test.YtmnpognjbfjhbaaEngOM
namespace Go.VM
open Go.Proofs
set_option linter.unusedVariables false
set_option linter.unusedSimpArgs false
set_option maxRecDepth 100000
def e_i64 (x : Int) : List D := [.int .i64 x]
theorem e_i64_len (x : Int) : (e_i64 x).length = 1 := rfl
structure SDistribution where
  Counts : (List Int)
deriving DecidableEq
def e_SDistribution (x : SDistribution) : List D := [.lit (List.map e_i64 x.Counts)]
theorem e_SDistribution_len (x : SDistribution) : (e_SDistribution x).length = 1 := rfl
def tab0 : List Int := [0, 1, 2, 2, 3, 3, 3, 3, 4, 4, 4, 4, 4, 4, 4, 4, 5, 5, 5, 5, 5, 5, 5, 5, 5, 5, 5, 5, 5, 5, 5, 5, 6, 6, 6, 6, 6, 6, 6, 6, 6, 6, 6, 6, 6, 6, 6, 6, 6, 6, 6, 6, 6, 6, 6, 6, 6, 6, 6, 6, 6, 6, 6, 6, 7, 7, 7, 7, 7, 7, 7, 7, 7, 7, 7, 7, 7, 7, 7, 7, 7, 7, 7, 7, 7, 7, 7, 7, 7, 7, 7, 7, 7, 7, 7, 7, 7, 7, 7, 7, 7, 7, 7, 7, 7, 7, 7, 7, 7, 7, 7, 7, 7, 7, 7, 7, 7, 7, 7, 7, 7, 7, 7, 7, 7, 7, 7, 7, 8, 8, 8, 8, 8, 8, 8, 8, 8, 8, 8, 8, 8, 8, 8, 8, 8, 8, 8, 8, 8, 8, 8, 8, 8, 8, 8, 8, 8, 8, 8, 8, 8, 8, 8, 8, 8, 8, 8, 8, 8, 8, 8, 8, 8, 8, 8, 8, 8, 8, 8, 8, 8, 8, 8, 8, 8, 8, 8, 8, 8, 8, 8, 8, 8, 8, 8, 8, 8, 8, 8, 8, 8, 8, 8, 8, 8, 8, 8, 8, 8, 8, 8, 8, 8, 8, 8, 8, 8, 8, 8, 8, 8, 8, 8, 8, 8, 8, 8, 8, 8, 8, 8, 8, 8, 8, 8, 8, 8, 8, 8, 8, 8, 8, 8, 8, 8, 8, 8, 8, 8, 8, 8, 8, 8, 8, 8, 8]
theorem ty0 : TyI Try.prog 0 (Go.Value.tuple #[]) 1 0 := by unfold TyI; kernel_rfl
theorem ty3 : TyI Try.prog 3 (Go.Value.int Go.IntKind.i64 0) 1 8 := by unfold TyI; kernel_rfl
theorem ty4 : TyI Try.prog 4 (Go.Value.bool false) 1 1 := by unfold TyI; kernel_rfl
theorem ty22 : TyI Try.prog 22 (Go.Value.slice none 0 0) 1 24 := by unfold TyI; kernel_rfl
theorem ty26 : TyI Try.prog 26 (Go.Value.agg #[(Go.Value.slice none 0 0)]) 1 24 := by unfold TyI; kernel_rfl
theorem ty31 : TyI Try.prog 31 (Go.Value.agg #[(Go.Value.int Go.IntKind.i64 0), (Go.Value.int Go.IntKind.i64 0)]) 2 16 := by unfold TyI; kernel_rfl
theorem ty58 : TyI Try.prog 58 (Go.Value.agg #[(Go.Value.slice none 0 0), (Go.Value.int Go.IntKind.i64 0)]) 2 32 := by unfold TyI; kernel_rfl
theorem ty61 : TyI Try.prog 61 (Go.Value.int Go.IntKind.u64 0) 1 8 := by unfold TyI; kernel_rfl
theorem ty64 : TyI Try.prog 64 (Go.Value.agg #[(Go.Value.int Go.IntKind.u64 0), (Go.Value.int Go.IntKind.u64 0)]) 2 16 := by unfold TyI; kernel_rfl
theorem ty80 : TyI Try.prog 80 (Go.Value.agg #[(Go.Value.bool false), (Go.Value.int Go.IntKind.u64 0), (Go.Value.int Go.IntKind.u64 0)]) 3 24 := by unfold TyI; kernel_rfl
theorem bld26 : Bld Try.prog 26 (fun i => ([(0, 1)] : List (Nat × Nat))[i]?) (Go.Value.agg #[(Go.Value.slice none 0 0)]) := bld_struct Try.underlying26 ty26 (by kernel_rfl)
theorem bld31 : Bld Try.prog 31 (fun i => ([(0, 1), (1, 1)] : List (Nat × Nat))[i]?) (Go.Value.agg #[(Go.Value.int Go.IntKind.i64 0), (Go.Value.int Go.IntKind.i64 0)]) := bld_struct Try.underlying31 ty31 (by kernel_rfl)
theorem bld58 : Bld Try.prog 58 (fun i => ([(0, 1), (1, 1)] : List (Nat × Nat))[i]?) (Go.Value.agg #[(Go.Value.slice none 0 0), (Go.Value.int Go.IntKind.i64 0)]) := bld_struct Try.underlying58 ty58 (by kernel_rfl)
theorem bld64 : Bld Try.prog 64 (fun i => ([(0, 1), (1, 1)] : List (Nat × Nat))[i]?) (Go.Value.agg #[(Go.Value.int Go.IntKind.u64 0), (Go.Value.int Go.IntKind.u64 0)]) := bld_struct Try.underlying64 ty64 (by kernel_rfl)
theorem bld80 : Bld Try.prog 80 (fun i => ([(0, 1), (1, 1), (2, 1)] : List (Nat × Nat))[i]?) (Go.Value.agg #[(Go.Value.bool false), (Go.Value.int Go.IntKind.u64 0), (Go.Value.int Go.IntKind.u64 0)]) := bld_struct Try.underlying80 ty80 (by kernel_rfl)
end Go.VM
