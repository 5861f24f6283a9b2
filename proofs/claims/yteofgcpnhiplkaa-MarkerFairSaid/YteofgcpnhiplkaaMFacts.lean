/- The kinds of the elements of slices, and the facts of the types, for the printed functions. -/
import Derived.Test.YteofgcpnhiplkaaProg
import Derived.KernelRfl
import Derived.Test.YteofgcpnhiplkaaEngS
namespace Go.VM
open Go.Proofs
set_option linter.unusedVariables false
set_option linter.unusedSimpArgs false
set_option maxRecDepth 100000
def e_i64 (x : Int) : List D := [.int .i64 x]
theorem e_i64_len (x : Int) : (e_i64 x).length = 1 := rfl
structure SMarker where
  ID : Int
  Centre : Int
  Level : Int
  Capacity : Int
  Papers : (List Int)
deriving DecidableEq
def e_SMarker (x : SMarker) : List D := [.int .i64 x.ID, .int .i64 x.Centre, .int .i64 x.Level, .int .i64 x.Capacity, .lit (List.map e_i64 x.Papers)]
theorem e_SMarker_len (x : SMarker) : (e_SMarker x).length = 5 := rfl
structure SScript where
  Number : Int
  Paper : Int
  Candidate : Int
  Centre : Int
  Variant : Int
  Pages : (List Int)
  Answers : (List Int)
deriving DecidableEq
def e_SScript (x : SScript) : List D := [.int .i64 x.Number, .int .i64 x.Paper, .int .i64 x.Candidate, .int .i64 x.Centre, .int .i64 x.Variant, .lit (List.map e_i64 x.Pages), .lit (List.map e_i64 x.Answers)]
theorem e_SScript_len (x : SScript) : (e_SScript x).length = 7 := rfl
def e_Li64 (x : List Int) : List D := [.lit (x.map e_i64)]
theorem e_Li64_len (x : (List Int)) : (e_Li64 x).length = 1 := rfl
structure SPart where
  Kind : Int
  Max : Int
  Topic : Int
  Objective : Int
  Options : Int
  Key : Int
deriving DecidableEq
def e_SPart (x : SPart) : List D := [.int .i64 x.Kind, .int .i64 x.Max, .int .i64 x.Topic, .int .i64 x.Objective, .int .i64 x.Options, .int .i64 x.Key]
theorem e_SPart_len (x : SPart) : (e_SPart x).length = 6 := rfl
structure SPaper where
  Code : Int
  Variant : Int
  Parts : (List SPart)
deriving DecidableEq
def e_SPaper (x : SPaper) : List D := [.int .i64 x.Code, .int .i64 x.Variant, .lit (List.map e_SPart x.Parts)]
theorem e_SPaper_len (x : SPaper) : (e_SPaper x).length = 3 := rfl
structure SScheme where
  Keys : (List (List Int))
  Withdrawn : (List Int)
deriving DecidableEq
def e_SScheme (x : SScheme) : List D := [.lit (List.map e_Li64 x.Keys), .lit (List.map e_i64 x.Withdrawn)]
theorem e_SScheme_len (x : SScheme) : (e_SScheme x).length = 2 := rfl
theorem ty0 : TyI Try.prog 0 (Go.Value.tuple #[]) 1 0 := by unfold TyI; kernel_rfl
theorem ty3 : TyI Try.prog 3 (Go.Value.int Go.IntKind.i64 0) 1 8 := by unfold TyI; kernel_rfl
theorem ty22 : TyI Try.prog 22 (Go.Value.slice none 0 0) 1 24 := by unfold TyI; kernel_rfl
theorem ty50 : TyI Try.prog 50 (Go.Value.agg #[(Go.Value.int Go.IntKind.i64 0), (Go.Value.int Go.IntKind.i64 0), (Go.Value.int Go.IntKind.i64 0), (Go.Value.int Go.IntKind.i64 0), (Go.Value.int Go.IntKind.i64 0), (Go.Value.slice none 0 0), (Go.Value.slice none 0 0)]) 7 88 := by unfold TyI; kernel_rfl
theorem ty52 : TyI Try.prog 52 (Go.Value.agg #[(Go.Value.int Go.IntKind.i64 0), (Go.Value.int Go.IntKind.i64 0), (Go.Value.int Go.IntKind.i64 0), (Go.Value.int Go.IntKind.i64 0), (Go.Value.slice none 0 0)]) 5 56 := by unfold TyI; kernel_rfl
theorem ty62 : TyI Try.prog 62 (Go.Value.agg #[(Go.Value.slice none 0 0), (Go.Value.int Go.IntKind.i64 0)]) 2 32 := by unfold TyI; kernel_rfl
theorem ty69 : TyI Try.prog 69 (Go.Value.slice none 0 0) 1 24 := by unfold TyI; kernel_rfl
theorem ty71 : TyI Try.prog 71 (Go.Value.agg #[(Go.Value.int Go.IntKind.i64 0), (Go.Value.int Go.IntKind.i64 0), (Go.Value.slice none 0 0)]) 3 40 := by unfold TyI; kernel_rfl
theorem ty74 : TyI Try.prog 74 (Go.Value.agg #[(Go.Value.slice none 0 0), (Go.Value.slice none 0 0)]) 2 48 := by unfold TyI; kernel_rfl
theorem ty85 : TyI Try.prog 85 (Go.Value.agg #[(Go.Value.int Go.IntKind.i64 0), (Go.Value.int Go.IntKind.i64 0), (Go.Value.int Go.IntKind.i64 0), (Go.Value.int Go.IntKind.i64 0), (Go.Value.int Go.IntKind.i64 0), (Go.Value.int Go.IntKind.i64 0)]) 6 48 := by unfold TyI; kernel_rfl
theorem bld50 : Bld Try.prog 50 (fun i => ([(0, 1), (1, 1), (2, 1), (3, 1), (4, 1), (5, 1), (6, 1)] : List (Nat × Nat))[i]?) (Go.Value.agg #[(Go.Value.int Go.IntKind.i64 0), (Go.Value.int Go.IntKind.i64 0), (Go.Value.int Go.IntKind.i64 0), (Go.Value.int Go.IntKind.i64 0), (Go.Value.int Go.IntKind.i64 0), (Go.Value.slice none 0 0), (Go.Value.slice none 0 0)]) := bld_struct Try.underlying50 ty50 (by kernel_rfl)
theorem bld52 : Bld Try.prog 52 (fun i => ([(0, 1), (1, 1), (2, 1), (3, 1), (4, 1)] : List (Nat × Nat))[i]?) (Go.Value.agg #[(Go.Value.int Go.IntKind.i64 0), (Go.Value.int Go.IntKind.i64 0), (Go.Value.int Go.IntKind.i64 0), (Go.Value.int Go.IntKind.i64 0), (Go.Value.slice none 0 0)]) := bld_struct Try.underlying52 ty52 (by kernel_rfl)
theorem bld62 : Bld Try.prog 62 (fun i => ([(0, 1), (1, 1)] : List (Nat × Nat))[i]?) (Go.Value.agg #[(Go.Value.slice none 0 0), (Go.Value.int Go.IntKind.i64 0)]) := bld_struct Try.underlying62 ty62 (by kernel_rfl)
theorem bld71 : Bld Try.prog 71 (fun i => ([(0, 1), (1, 1), (2, 1)] : List (Nat × Nat))[i]?) (Go.Value.agg #[(Go.Value.int Go.IntKind.i64 0), (Go.Value.int Go.IntKind.i64 0), (Go.Value.slice none 0 0)]) := bld_struct Try.underlying71 ty71 (by kernel_rfl)
theorem bld74 : Bld Try.prog 74 (fun i => ([(0, 1), (1, 1)] : List (Nat × Nat))[i]?) (Go.Value.agg #[(Go.Value.slice none 0 0), (Go.Value.slice none 0 0)]) := bld_struct Try.underlying74 ty74 (by kernel_rfl)
theorem bld85 : Bld Try.prog 85 (fun i => ([(0, 1), (1, 1), (2, 1), (3, 1), (4, 1), (5, 1)] : List (Nat × Nat))[i]?) (Go.Value.agg #[(Go.Value.int Go.IntKind.i64 0), (Go.Value.int Go.IntKind.i64 0), (Go.Value.int Go.IntKind.i64 0), (Go.Value.int Go.IntKind.i64 0), (Go.Value.int Go.IntKind.i64 0), (Go.Value.int Go.IntKind.i64 0)]) := bld_struct Try.underlying85 ty85 (by kernel_rfl)
end Go.VM
