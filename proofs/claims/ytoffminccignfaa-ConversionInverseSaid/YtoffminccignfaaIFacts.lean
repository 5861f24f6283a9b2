/- The kinds of the elements of slices, and the facts of the types, for the printed functions. -/
import Derived.Test.YtoffminccignfaaProg
import Derived.KernelRfl
import Derived.Test.YtoffminccignfaaEngPart
namespace Go.VM
open Go.Proofs
set_option linter.unusedVariables false
set_option linter.unusedSimpArgs false
set_option maxRecDepth 100000
def e_i64 (x : Int) : List D := [.int .i64 x]
theorem e_i64_len (x : Int) : (e_i64 x).length = 1 := rfl
structure SPoint where
  X_Num : Int
  X_Den : Int
  Y_Num : Int
  Y_Den : Int
deriving DecidableEq
def e_SPoint (x : SPoint) : List D := [.int .i64 x.X_Num, .int .i64 x.X_Den, .int .i64 x.Y_Num, .int .i64 x.Y_Den]
theorem e_SPoint_len (x : SPoint) : (e_SPoint x).length = 4 := rfl
structure SRatio where
  Num : Int
  Den : Int
deriving DecidableEq
def e_SRatio (x : SRatio) : List D := [.int .i64 x.Num, .int .i64 x.Den]
theorem e_SRatio_len (x : SRatio) : (e_SRatio x).length = 2 := rfl
def tab0 : List Int := [0, 1, 2, 2, 3, 3, 3, 3, 4, 4, 4, 4, 4, 4, 4, 4, 5, 5, 5, 5, 5, 5, 5, 5, 5, 5, 5, 5, 5, 5, 5, 5, 6, 6, 6, 6, 6, 6, 6, 6, 6, 6, 6, 6, 6, 6, 6, 6, 6, 6, 6, 6, 6, 6, 6, 6, 6, 6, 6, 6, 6, 6, 6, 6, 7, 7, 7, 7, 7, 7, 7, 7, 7, 7, 7, 7, 7, 7, 7, 7, 7, 7, 7, 7, 7, 7, 7, 7, 7, 7, 7, 7, 7, 7, 7, 7, 7, 7, 7, 7, 7, 7, 7, 7, 7, 7, 7, 7, 7, 7, 7, 7, 7, 7, 7, 7, 7, 7, 7, 7, 7, 7, 7, 7, 7, 7, 7, 7, 8, 8, 8, 8, 8, 8, 8, 8, 8, 8, 8, 8, 8, 8, 8, 8, 8, 8, 8, 8, 8, 8, 8, 8, 8, 8, 8, 8, 8, 8, 8, 8, 8, 8, 8, 8, 8, 8, 8, 8, 8, 8, 8, 8, 8, 8, 8, 8, 8, 8, 8, 8, 8, 8, 8, 8, 8, 8, 8, 8, 8, 8, 8, 8, 8, 8, 8, 8, 8, 8, 8, 8, 8, 8, 8, 8, 8, 8, 8, 8, 8, 8, 8, 8, 8, 8, 8, 8, 8, 8, 8, 8, 8, 8, 8, 8, 8, 8, 8, 8, 8, 8, 8, 8, 8, 8, 8, 8, 8, 8, 8, 8, 8, 8, 8, 8, 8, 8, 8, 8, 8, 8, 8, 8, 8, 8, 8, 8]
theorem ty0 : TyI Try.prog 0 (Go.Value.tuple #[]) 1 0 := by unfold TyI; kernel_rfl
theorem ty3 : TyI Try.prog 3 (Go.Value.int Go.IntKind.i64 0) 1 8 := by unfold TyI; kernel_rfl
theorem ty4 : TyI Try.prog 4 (Go.Value.bool false) 1 1 := by unfold TyI; kernel_rfl
theorem ty22 : TyI Try.prog 22 (Go.Value.slice none 0 0) 1 24 := by unfold TyI; kernel_rfl
theorem ty27 : TyI Try.prog 27 (Go.Value.slice none 0 0) 1 24 := by unfold TyI; kernel_rfl
theorem ty29 : TyI Try.prog 29 (Go.Value.agg #[(Go.Value.slice none 0 0)]) 1 24 := by unfold TyI; kernel_rfl
theorem ty31 : TyI Try.prog 31 (Go.Value.int Go.IntKind.i64 0) 1 8 := by unfold TyI; kernel_rfl
theorem ty37 : TyI Try.prog 37 (Go.Value.agg #[(Go.Value.int Go.IntKind.i64 0), (Go.Value.int Go.IntKind.i64 0)]) 2 16 := by unfold TyI; kernel_rfl
theorem ty39 : TyI Try.prog 39 (Go.Value.agg #[(Go.Value.int Go.IntKind.i64 0), (Go.Value.int Go.IntKind.i64 0), (Go.Value.int Go.IntKind.i64 0), (Go.Value.int Go.IntKind.i64 0)]) 4 32 := by unfold TyI; kernel_rfl
theorem ty49 : TyI Try.prog 49 (Go.Value.agg #[(Go.Value.slice none 0 0), (Go.Value.int Go.IntKind.i64 0)]) 2 32 := by unfold TyI; kernel_rfl
theorem ty56 : TyI Try.prog 56 (Go.Value.agg #[(Go.Value.int Go.IntKind.i64 0)]) 1 8 := by unfold TyI; kernel_rfl
theorem ty64 : TyI Try.prog 64 (Go.Value.int Go.IntKind.u64 0) 1 8 := by unfold TyI; kernel_rfl
theorem ty80 : TyI Try.prog 80 (Go.Value.agg #[(Go.Value.bool false), (Go.Value.int Go.IntKind.u64 0), (Go.Value.int Go.IntKind.u64 0)]) 3 24 := by unfold TyI; kernel_rfl
theorem bld29 : Bld Try.prog 29 (fun i => ([(0, 1)] : List (Nat × Nat))[i]?) (Go.Value.agg #[(Go.Value.slice none 0 0)]) := bld_struct Try.underlying29 ty29 (by kernel_rfl)
theorem bld37 : Bld Try.prog 37 (fun i => ([(0, 1), (1, 1)] : List (Nat × Nat))[i]?) (Go.Value.agg #[(Go.Value.int Go.IntKind.i64 0), (Go.Value.int Go.IntKind.i64 0)]) := bld_struct Try.underlying37 ty37 (by kernel_rfl)
theorem bld39 : Bld Try.prog 39 (fun i => ([(0, 2), (2, 2)] : List (Nat × Nat))[i]?) (Go.Value.agg #[(Go.Value.int Go.IntKind.i64 0), (Go.Value.int Go.IntKind.i64 0), (Go.Value.int Go.IntKind.i64 0), (Go.Value.int Go.IntKind.i64 0)]) := bld_struct Try.underlying39 ty39 (by kernel_rfl)
theorem bld49 : Bld Try.prog 49 (fun i => ([(0, 1), (1, 1)] : List (Nat × Nat))[i]?) (Go.Value.agg #[(Go.Value.slice none 0 0), (Go.Value.int Go.IntKind.i64 0)]) := bld_struct Try.underlying49 ty49 (by kernel_rfl)
theorem bld80 : Bld Try.prog 80 (fun i => ([(0, 1), (1, 1), (2, 1)] : List (Nat × Nat))[i]?) (Go.Value.agg #[(Go.Value.bool false), (Go.Value.int Go.IntKind.u64 0), (Go.Value.int Go.IntKind.u64 0)]) := bld_struct Try.underlying80 ty80 (by kernel_rfl)
end Go.VM
