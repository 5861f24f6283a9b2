/- The kinds of the elements of slices, and the facts of the types, for the printed functions. -/
import Derived.Test.YtdpoilkjdfnadaaProg
import Derived.KernelRfl
import Derived.Test.YtdpoilkjdfnadaaEngDeepCM
namespace Go.VM
open Go.Proofs
set_option linter.unusedVariables false
set_option linter.unusedSimpArgs false
set_option maxRecDepth 100000
def e_i64 (x : Int) : List D := [.int .i64 x]
theorem e_i64_len (x : Int) : (e_i64 x).length = 1 := rfl
structure SPart where
  Kind : Int
  Max : Int
  Topic : Int
  Objective : Int
  Options : Int
  Key : Int
deriving DecidableEq
def e_SPart (x : SPart) : List D := [.int .i64 x.Kind, .int .i64 x.Max, .int .i64 x.Topic, .int .i64 x.Objective, .int .i64 x.Options, .int .i64 x.Key]
theorem e_SPart_len (x : SPart) : (e_SPart x).length = 6 := rfl
def e_Li64 (x : List Int) : List D := [.lit (x.map e_i64)]
theorem e_Li64_len (x : (List Int)) : (e_Li64 x).length = 1 := rfl

theorem ty0 : TyI Try.prog 0 (Go.Value.tuple #[]) 1 0 := by unfold TyI; kernel_rfl
theorem ty3 : TyI Try.prog 3 (Go.Value.int Go.IntKind.i64 0) 1 8 := by unfold TyI; kernel_rfl
theorem ty22 : TyI Try.prog 22 (Go.Value.slice none 0 0) 1 24 := by unfold TyI; kernel_rfl
theorem ty25 : TyI Try.prog 25 (Go.Value.slice none 0 0) 1 24 := by unfold TyI; kernel_rfl
theorem ty27 : TyI Try.prog 27 (Go.Value.agg #[(Go.Value.int Go.IntKind.i64 0), (Go.Value.int Go.IntKind.i64 0), (Go.Value.slice none 0 0)]) 3 40 := by unfold TyI; kernel_rfl
theorem ty29 : TyI Try.prog 29 (Go.Value.slice none 0 0) 1 24 := by unfold TyI; kernel_rfl
theorem ty31 : TyI Try.prog 31 (Go.Value.agg #[(Go.Value.slice none 0 0), (Go.Value.slice none 0 0)]) 2 48 := by unfold TyI; kernel_rfl
theorem ty49 : TyI Try.prog 49 (Go.Value.agg #[(Go.Value.int Go.IntKind.i64 0), (Go.Value.int Go.IntKind.i64 0), (Go.Value.int Go.IntKind.i64 0), (Go.Value.int Go.IntKind.i64 0), (Go.Value.int Go.IntKind.i64 0), (Go.Value.int Go.IntKind.i64 0)]) 6 48 := by unfold TyI; kernel_rfl
theorem ty56 : TyI Try.prog 56 (Go.Value.agg #[(Go.Value.slice none 0 0), (Go.Value.int Go.IntKind.i64 0)]) 2 32 := by unfold TyI; kernel_rfl
theorem bld27 : Bld Try.prog 27 (fun i => ([(0, 1), (1, 1), (2, 1)] : List (Nat × Nat))[i]?) (Go.Value.agg #[(Go.Value.int Go.IntKind.i64 0), (Go.Value.int Go.IntKind.i64 0), (Go.Value.slice none 0 0)]) := bld_struct Try.underlying27 ty27 (by kernel_rfl)
theorem bld31 : Bld Try.prog 31 (fun i => ([(0, 1), (1, 1)] : List (Nat × Nat))[i]?) (Go.Value.agg #[(Go.Value.slice none 0 0), (Go.Value.slice none 0 0)]) := bld_struct Try.underlying31 ty31 (by kernel_rfl)
theorem bld49 : Bld Try.prog 49 (fun i => ([(0, 1), (1, 1), (2, 1), (3, 1), (4, 1), (5, 1)] : List (Nat × Nat))[i]?) (Go.Value.agg #[(Go.Value.int Go.IntKind.i64 0), (Go.Value.int Go.IntKind.i64 0), (Go.Value.int Go.IntKind.i64 0), (Go.Value.int Go.IntKind.i64 0), (Go.Value.int Go.IntKind.i64 0), (Go.Value.int Go.IntKind.i64 0)]) := bld_struct Try.underlying49 ty49 (by kernel_rfl)
theorem bld56 : Bld Try.prog 56 (fun i => ([(0, 1), (1, 1)] : List (Nat × Nat))[i]?) (Go.Value.agg #[(Go.Value.slice none 0 0), (Go.Value.int Go.IntKind.i64 0)]) := bld_struct Try.underlying56 ty56 (by kernel_rfl)
end Go.VM
