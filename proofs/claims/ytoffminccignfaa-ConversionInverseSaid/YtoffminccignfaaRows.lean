/-
  No cell of these rows narrows 'for every input' (looked for: loops, veiled, ifaces, maps, wideKeys, modest, calm, conditions, laid).
  DERIVED. THE GIVEN ROWS OF THIS SEAT. 3 by the template 'for every input the law returns true; each argument reads behind the call as it read before'; 0 by the template 'total and deterministic' (their statements: YtoffminccignfaaTotals.lean).
  GIVEN WITH THE SEED: the statements are not yours to turn. If you find one false, say at which input.
  Laid BY PROGRAM, IN A SANDBOX (cutbox-rows.mjs): the forced cells as the released guide's own fill.sh prints them over the translation bcf110c01cdc2dcc… (all of the seat's roots in one cut). By AI agents, Wed Nov 11 2026. No macro, syntax, notation, axiom, sorry.
-/
import Derived.Test.YtoffminccignfaaChecked
import GoSem.Claim
import GoSem.ClaimJoined
import GoSem.ClaimMapViews
import Derived.JoinedTies
import Derived.KernelRfl
namespace Go.Proofs.Ytoffminccignfaa
/- THE CELL 'sum', in the pinned program and in every row, IS THE sha256 OF THE DUMP (.gsa) THAT YtoffminccignfaaProg.lean LOADS. Nothing in Lean hashes anything: it is a label: what it is worth is what the hold of that sum in a sandbox is worth. -/
noncomputable def Try.pinned : Pinned := { name := "ytoffminccignfaa", sum := "bcf110c01cdc2dccf423aa5b92145915ba02bad231fcbba8bcb972c59d376578", checked := Try.checked }
namespace Rows
def none {H : Type} : Left H := { results := [], args := [] }

/-- 'awardingbodylaw33.ConversionRises': WHATEVER THE INPUT: true; the input reads as it did. -/
def conversionRisesSpec : ChangeSpec := { name := "conversionRises", fn := fun _ => fun
  | [d] => { results := [.lit (.bool true)], args := [d] }
  | _ => none }
def conversionRisesRow : OpenClaim := { program := "ytoffminccignfaa", sum := "bcf110c01cdc2dccf423aa5b92145915ba02bad231fcbba8bcb972c59d376578", func := "awardingbody/awardingbodylaw33.ConversionRises", spec := "conversionRises", inPlace := ["math/bits.Add64", "math/bits.Sub64"], unfollowed := true, recurses := true, named := ["math/bits.divideError", "math/bits.overflowError"], apart := false }
def ConversionRisesSaid : Prop := conversionRisesRow.holds Try.pinned (OpenSpec.ofChange conversionRisesSpec)

/-- ITS FALSE NEIGHBOUR: 'it returns false'. Refute it at one input. -/
def conversionRisesWrong : ChangeSpec := { name := "conversionRises", fn := fun _ => fun
  | [d] => { results := [.lit (.bool false)], args := [d] }
  | _ => none }
def ConversionRisesWrongFalsely : Prop := conversionRisesRow.holds Try.pinned (OpenSpec.ofChange conversionRisesWrong)

/-- 'awardingbodylaw33.ConversionComposes': WHATEVER THE INPUT: true; the input reads as it did. -/
def conversionComposesSpec : ChangeSpec := { name := "conversionComposes", fn := fun _ => fun
  | [d] => { results := [.lit (.bool true)], args := [d] }
  | _ => none }
def conversionComposesRow : OpenClaim := { program := "ytoffminccignfaa", sum := "bcf110c01cdc2dccf423aa5b92145915ba02bad231fcbba8bcb972c59d376578", func := "awardingbody/awardingbodylaw33.ConversionComposes", spec := "conversionComposes", inPlace := ["math/bits.Add64", "math/bits.Sub64"], unfollowed := true, recurses := true, named := ["math/bits.divideError", "math/bits.overflowError"], apart := false }
def ConversionComposesSaid : Prop := conversionComposesRow.holds Try.pinned (OpenSpec.ofChange conversionComposesSpec)

/-- ITS FALSE NEIGHBOUR: 'it returns false'. Refute it at one input. -/
def conversionComposesWrong : ChangeSpec := { name := "conversionComposes", fn := fun _ => fun
  | [d] => { results := [.lit (.bool false)], args := [d] }
  | _ => none }
def ConversionComposesWrongFalsely : Prop := conversionComposesRow.holds Try.pinned (OpenSpec.ofChange conversionComposesWrong)

/-- 'awardingbodylaw33.ConversionInverse': WHATEVER THE INPUT: true; the input reads as it did. -/
def conversionInverseSpec : ChangeSpec := { name := "conversionInverse", fn := fun _ => fun
  | [d] => { results := [.lit (.bool true)], args := [d] }
  | _ => none }
def conversionInverseRow : OpenClaim := { program := "ytoffminccignfaa", sum := "bcf110c01cdc2dccf423aa5b92145915ba02bad231fcbba8bcb972c59d376578", func := "awardingbody/awardingbodylaw33.ConversionInverse", spec := "conversionInverse", inPlace := ["math/bits.Add64", "math/bits.Sub64"], unfollowed := true, recurses := true, named := ["math/bits.divideError", "math/bits.overflowError"], apart := false }
def ConversionInverseSaid : Prop := conversionInverseRow.holds Try.pinned (OpenSpec.ofChange conversionInverseSpec)

/-- ITS FALSE NEIGHBOUR: 'it returns false'. Refute it at one input. -/
def conversionInverseWrong : ChangeSpec := { name := "conversionInverse", fn := fun _ => fun
  | [d] => { results := [.lit (.bool false)], args := [d] }
  | _ => none }
def ConversionInverseWrongFalsely : Prop := conversionInverseRow.holds Try.pinned (OpenSpec.ofChange conversionInverseWrong)

/- THE SECOND FORM. 'bulk': how many values and letters a reading holds, each counted each time it is reached (what is shared counts as often as it is met; a slice's spare places count too). A statement '..UptoSaid' is the law's where the arguments, and the package variables that the reading takes, are together of bulk at most 1048576: NARROWER than '..Said'. Prove '..Said' where nothing that the law and all that it calls make is longer than what came in: it says more and counts as full. Else prove '..UptoSaid'. A law counts once. -/
mutual
def uptoBulk {H : Type} : DataW H → Nat
  | .lit (.string bytes) => bytes.length + 1
  | .lit _ => 1
  | .nil => 1
  | .ptr d => uptoBulk d + 1
  | .slice elems spare => uptoBulkAll elems + uptoBulkAll spare + 1
  | .agg parts => uptoBulkAll parts + 1
  | .iface _ d => uptoBulk d + 1
  | .map entries => uptoBulkEntries entries + 1
  | .held _ => 1
def uptoBulkAll {H : Type} : List (DataW H) → Nat
  | [] => 0
  | d :: r => uptoBulk d + uptoBulkAll r
def uptoBulkEntries {H : Type} : List (Lit × DataW H) → Nat
  | [] => 0
  | x :: r => uptoBulkEntry x + uptoBulkEntries r
def uptoBulkEntry {H : Type} : Lit × DataW H → Nat
  | (.string bytes, d) => bytes.length + uptoBulk d + 1
  | (_, d) => uptoBulk d + 1
 end
def uptoSmall : (H : Type) → List (DataW H) → Bool := fun _ ds => decide (uptoBulkAll ds ≤ 1048576)
def OpenSpec.upto (s : _root_.Go.ChangeSpec) : _root_.Go.OpenSpec := { _root_.Go.OpenSpec.ofChange s with cond := some uptoSmall }

/-- 'awardingbodylaw33.ConversionRises', WHERE WHAT IT READS IS OF BULK AT MOST 1048576: true; the input reads as it did. -/
def conversionRisesUptoRow : OpenClaim := { program := "ytoffminccignfaa", sum := "bcf110c01cdc2dccf423aa5b92145915ba02bad231fcbba8bcb972c59d376578", func := "awardingbody/awardingbodylaw33.ConversionRises", spec := "conversionRises", inPlace := ["math/bits.Add64", "math/bits.Sub64"], unfollowed := true, recurses := true, named := ["math/bits.divideError", "math/bits.overflowError"], apart := false, narrowed := true }
def ConversionRisesUptoSaid : Prop := conversionRisesUptoRow.holds Try.pinned (OpenSpec.upto conversionRisesSpec)

/-- 'awardingbodylaw33.ConversionComposes', WHERE WHAT IT READS IS OF BULK AT MOST 1048576: true; the input reads as it did. -/
def conversionComposesUptoRow : OpenClaim := { program := "ytoffminccignfaa", sum := "bcf110c01cdc2dccf423aa5b92145915ba02bad231fcbba8bcb972c59d376578", func := "awardingbody/awardingbodylaw33.ConversionComposes", spec := "conversionComposes", inPlace := ["math/bits.Add64", "math/bits.Sub64"], unfollowed := true, recurses := true, named := ["math/bits.divideError", "math/bits.overflowError"], apart := false, narrowed := true }
def ConversionComposesUptoSaid : Prop := conversionComposesUptoRow.holds Try.pinned (OpenSpec.upto conversionComposesSpec)

/-- 'awardingbodylaw33.ConversionInverse', WHERE WHAT IT READS IS OF BULK AT MOST 1048576: true; the input reads as it did. -/
def conversionInverseUptoRow : OpenClaim := { program := "ytoffminccignfaa", sum := "bcf110c01cdc2dccf423aa5b92145915ba02bad231fcbba8bcb972c59d376578", func := "awardingbody/awardingbodylaw33.ConversionInverse", spec := "conversionInverse", inPlace := ["math/bits.Add64", "math/bits.Sub64"], unfollowed := true, recurses := true, named := ["math/bits.divideError", "math/bits.overflowError"], apart := false, narrowed := true }
def ConversionInverseUptoSaid : Prop := conversionInverseUptoRow.holds Try.pinned (OpenSpec.upto conversionInverseSpec)

end Rows
end Go.Proofs.Ytoffminccignfaa
