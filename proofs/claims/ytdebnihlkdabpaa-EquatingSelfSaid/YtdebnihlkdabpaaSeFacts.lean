/- The kinds of the elements of slices, and the facts of the types, for the printed functions. -/
import Derived.Test.YtdebnihlkdabpaaProg
import Derived.KernelRfl
import Derived.Test.YtdebnihlkdabpaaEngYM
namespace Go.VM
open Go.Proofs
set_option linter.unusedVariables false
set_option linter.unusedSimpArgs false
set_option maxRecDepth 100000
def e_i64 (x : Int) : List D := [.int .i64 x]
theorem e_i64_len (x : Int) : (e_i64 x).length = 1 := rfl
structure SPoint where
  X_Num : Int
  X_Den : Int
  Y_Num : Int
  Y_Den : Int
deriving DecidableEq
def e_SPoint (x : SPoint) : List D := [.int .i64 x.X_Num, .int .i64 x.X_Den, .int .i64 x.Y_Num, .int .i64 x.Y_Den]
theorem e_SPoint_len (x : SPoint) : (e_SPoint x).length = 4 := rfl
structure SRatio where
  Num : Int
  Den : Int
deriving DecidableEq
def e_SRatio (x : SRatio) : List D := [.int .i64 x.Num, .int .i64 x.Den]
theorem e_SRatio_len (x : SRatio) : (e_SRatio x).length = 2 := rfl
def tab0 : List Int := [0, 1, 2, 2, 3, 3, 3, 3, 4, 4, 4, 4, 4, 4, 4, 4, 5, 5, 5, 5, 5, 5, 5, 5, 5, 5, 5, 5, 5, 5, 5, 5, 6, 6, 6, 6, 6, 6, 6, 6, 6, 6, 6, 6, 6, 6, 6, 6, 6, 6, 6, 6, 6, 6, 6, 6, 6, 6, 6, 6, 6, 6, 6, 6, 7, 7, 7, 7, 7, 7, 7, 7, 7, 7, 7, 7, 7, 7, 7, 7, 7, 7, 7, 7, 7, 7, 7, 7, 7, 7, 7, 7, 7, 7, 7, 7, 7, 7, 7, 7, 7, 7, 7, 7, 7, 7, 7, 7, 7, 7, 7, 7, 7, 7, 7, 7, 7, 7, 7, 7, 7, 7, 7, 7, 7, 7, 7, 7, 8, 8, 8, 8, 8, 8, 8, 8, 8, 8, 8, 8, 8, 8, 8, 8, 8, 8, 8, 8, 8, 8, 8, 8, 8, 8, 8, 8, 8, 8, 8, 8, 8, 8, 8, 8, 8, 8, 8, 8, 8, 8, 8, 8, 8, 8, 8, 8, 8, 8, 8, 8, 8, 8, 8, 8, 8, 8, 8, 8, 8, 8, 8, 8, 8, 8, 8, 8, 8, 8, 8, 8, 8, 8, 8, 8, 8, 8, 8, 8, 8, 8, 8, 8, 8, 8, 8, 8, 8, 8, 8, 8, 8, 8, 8, 8, 8, 8, 8, 8, 8, 8, 8, 8, 8, 8, 8, 8, 8, 8, 8, 8, 8, 8, 8, 8, 8, 8, 8, 8, 8, 8, 8, 8, 8, 8, 8, 8]
theorem ty0 : TyI Try.prog 0 (Go.Value.tuple #[]) 1 0 := by unfold TyI; kernel_rfl
theorem ty3 : TyI Try.prog 3 (Go.Value.int Go.IntKind.i64 0) 1 8 := by unfold TyI; kernel_rfl
theorem ty4 : TyI Try.prog 4 (Go.Value.bool false) 1 1 := by unfold TyI; kernel_rfl
theorem ty22 : TyI Try.prog 22 (Go.Value.slice none 0 0) 1 24 := by unfold TyI; kernel_rfl
theorem ty28 : TyI Try.prog 28 (Go.Value.agg #[(Go.Value.slice none 0 0)]) 1 24 := by unfold TyI; kernel_rfl
theorem ty30 : TyI Try.prog 30 (Go.Value.slice none 0 0) 1 24 := by unfold TyI; kernel_rfl
theorem ty32 : TyI Try.prog 32 (Go.Value.agg #[(Go.Value.slice none 0 0)]) 1 24 := by unfold TyI; kernel_rfl
theorem ty33 : TyI Try.prog 33 (Go.Value.int Go.IntKind.i64 0) 1 8 := by unfold TyI; kernel_rfl
theorem ty38 : TyI Try.prog 38 (Go.Value.agg #[(Go.Value.int Go.IntKind.i64 0), (Go.Value.int Go.IntKind.i64 0)]) 2 16 := by unfold TyI; kernel_rfl
theorem ty53 : TyI Try.prog 53 (Go.Value.agg #[(Go.Value.slice none 0 0), (Go.Value.int Go.IntKind.i64 0)]) 2 32 := by unfold TyI; kernel_rfl
theorem ty60 : TyI Try.prog 60 (Go.Value.agg #[(Go.Value.int Go.IntKind.i64 0), (Go.Value.int Go.IntKind.i64 0), (Go.Value.int Go.IntKind.i64 0), (Go.Value.int Go.IntKind.i64 0)]) 4 32 := by unfold TyI; kernel_rfl
theorem ty62 : TyI Try.prog 62 (Go.Value.int Go.IntKind.u64 0) 1 8 := by unfold TyI; kernel_rfl
theorem ty69 : TyI Try.prog 69 (Go.Value.agg #[(Go.Value.int Go.IntKind.i64 0)]) 1 8 := by unfold TyI; kernel_rfl
theorem ty106 : TyI Try.prog 106 (Go.Value.agg #[(Go.Value.bool false), (Go.Value.int Go.IntKind.u64 0), (Go.Value.int Go.IntKind.u64 0)]) 3 24 := by unfold TyI; kernel_rfl
theorem bld28 : Bld Try.prog 28 (fun i => ([(0, 1)] : List (Nat × Nat))[i]?) (Go.Value.agg #[(Go.Value.slice none 0 0)]) := bld_struct Try.underlying28 ty28 (by kernel_rfl)
theorem bld32 : Bld Try.prog 32 (fun i => ([(0, 1)] : List (Nat × Nat))[i]?) (Go.Value.agg #[(Go.Value.slice none 0 0)]) := bld_struct Try.underlying32 ty32 (by kernel_rfl)
theorem bld38 : Bld Try.prog 38 (fun i => ([(0, 1), (1, 1)] : List (Nat × Nat))[i]?) (Go.Value.agg #[(Go.Value.int Go.IntKind.i64 0), (Go.Value.int Go.IntKind.i64 0)]) := bld_struct Try.underlying38 ty38 (by kernel_rfl)
theorem bld53 : Bld Try.prog 53 (fun i => ([(0, 1), (1, 1)] : List (Nat × Nat))[i]?) (Go.Value.agg #[(Go.Value.slice none 0 0), (Go.Value.int Go.IntKind.i64 0)]) := bld_struct Try.underlying53 ty53 (by kernel_rfl)
theorem bld60 : Bld Try.prog 60 (fun i => ([(0, 2), (2, 2)] : List (Nat × Nat))[i]?) (Go.Value.agg #[(Go.Value.int Go.IntKind.i64 0), (Go.Value.int Go.IntKind.i64 0), (Go.Value.int Go.IntKind.i64 0), (Go.Value.int Go.IntKind.i64 0)]) := bld_struct Try.underlying60 ty60 (by kernel_rfl)
theorem bld106 : Bld Try.prog 106 (fun i => ([(0, 1), (1, 1), (2, 1)] : List (Nat × Nat))[i]?) (Go.Value.agg #[(Go.Value.bool false), (Go.Value.int Go.IntKind.u64 0), (Go.Value.int Go.IntKind.u64 0)]) := bld_struct Try.underlying106 ty106 (by kernel_rfl)
end Go.VM
