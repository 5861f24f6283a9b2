/-
  No cell of these rows narrows 'for every input' (looked for: loops, veiled, ifaces, maps, wideKeys, modest, calm, conditions, laid).
  DERIVED. THE GIVEN ROWS OF THIS SEAT. 4 by the template 'for every input the law returns true; each argument reads behind the call as it read before'; 0 by the template 'total and deterministic' (their statements: YtdebnihlkdabpaaTotals.lean).
  GIVEN WITH THE SEED: the statements are not yours to turn. If you find one false, say at which input.
  Laid BY PROGRAM, IN A SANDBOX (cutbox-rows.mjs): the forced cells as the released guide's own fill.sh prints them over the translation 05d3f50e8ca4405c… (all of the seat's roots in one cut). By AI agents, Wed Nov 11 2026. No macro, syntax, notation, axiom, sorry.
-/
import Derived.Test.YtdebnihlkdabpaaChecked
import GoSem.Claim
import GoSem.ClaimJoined
import GoSem.ClaimMapViews
import Derived.JoinedTies
import Derived.KernelRfl
namespace Go.Proofs.Ytdebnihlkdabpaa
/- THE CELL 'sum', in the pinned program and in every row, IS THE sha256 OF THE DUMP (.gsa) THAT YtdebnihlkdabpaaProg.lean LOADS. Nothing in Lean hashes anything: it is a label: what it is worth is what the hold of that sum in a sandbox is worth. -/
noncomputable def Try.pinned : Pinned := { name := "ytdebnihlkdabpaa", sum := "05d3f50e8ca4405ca8ddfce8210bf07dd7c640ca6415e7ee19c08f2d3fc892af", checked := Try.checked }
namespace Rows
def none {H : Type} : Left H := { results := [], args := [] }

/-- 'awardingbodylaw34.EquatingShares': WHATEVER THE INPUT: true; the input reads as it did. -/
def equatingSharesSpec : ChangeSpec := { name := "equatingShares", fn := fun _ => fun
  | [d] => { results := [.lit (.bool true)], args := [d] }
  | _ => none }
def equatingSharesRow : OpenClaim := { program := "ytdebnihlkdabpaa", sum := "05d3f50e8ca4405ca8ddfce8210bf07dd7c640ca6415e7ee19c08f2d3fc892af", func := "awardingbody/awardingbodylaw34.EquatingShares", spec := "equatingShares", inPlace := ["math/bits.Add64", "math/bits.Sub64"], unfollowed := true, recurses := true, named := ["math/bits.divideError", "math/bits.overflowError"], apart := false }
def EquatingSharesSaid : Prop := equatingSharesRow.holds Try.pinned (OpenSpec.ofChange equatingSharesSpec)

/-- ITS FALSE NEIGHBOUR: 'it returns false'. Refute it at one input. -/
def equatingSharesWrong : ChangeSpec := { name := "equatingShares", fn := fun _ => fun
  | [d] => { results := [.lit (.bool false)], args := [d] }
  | _ => none }
def EquatingSharesWrongFalsely : Prop := equatingSharesRow.holds Try.pinned (OpenSpec.ofChange equatingSharesWrong)

/-- 'awardingbodylaw34.EquatingMeans': WHATEVER THE INPUT: true; the input reads as it did. -/
def equatingMeansSpec : ChangeSpec := { name := "equatingMeans", fn := fun _ => fun
  | [d] => { results := [.lit (.bool true)], args := [d] }
  | _ => none }
def equatingMeansRow : OpenClaim := { program := "ytdebnihlkdabpaa", sum := "05d3f50e8ca4405ca8ddfce8210bf07dd7c640ca6415e7ee19c08f2d3fc892af", func := "awardingbody/awardingbodylaw34.EquatingMeans", spec := "equatingMeans", inPlace := ["math/bits.Add64", "math/bits.Sub64"], unfollowed := true, recurses := true, named := ["math/bits.divideError", "math/bits.overflowError"], apart := false }
def EquatingMeansSaid : Prop := equatingMeansRow.holds Try.pinned (OpenSpec.ofChange equatingMeansSpec)

/-- ITS FALSE NEIGHBOUR: 'it returns false'. Refute it at one input. -/
def equatingMeansWrong : ChangeSpec := { name := "equatingMeans", fn := fun _ => fun
  | [d] => { results := [.lit (.bool false)], args := [d] }
  | _ => none }
def EquatingMeansWrongFalsely : Prop := equatingMeansRow.holds Try.pinned (OpenSpec.ofChange equatingMeansWrong)

/-- 'awardingbodylaw34.EquatingBack': WHATEVER THE INPUT: true; the input reads as it did. -/
def equatingBackSpec : ChangeSpec := { name := "equatingBack", fn := fun _ => fun
  | [d1, d2] => { results := [.lit (.bool true)], args := [d1, d2] }
  | _ => none }
def equatingBackRow : OpenClaim := { program := "ytdebnihlkdabpaa", sum := "05d3f50e8ca4405ca8ddfce8210bf07dd7c640ca6415e7ee19c08f2d3fc892af", func := "awardingbody/awardingbodylaw34.EquatingBack", spec := "equatingBack", inPlace := ["math/bits.Add64", "math/bits.Sub64"], unfollowed := true, recurses := true, named := ["math/bits.divideError", "math/bits.overflowError"], apart := false }
def EquatingBackSaid : Prop := equatingBackRow.holds Try.pinned (OpenSpec.ofChange equatingBackSpec)

/-- ITS FALSE NEIGHBOUR: 'it returns false'. Refute it at one input. -/
def equatingBackWrong : ChangeSpec := { name := "equatingBack", fn := fun _ => fun
  | [d1, d2] => { results := [.lit (.bool false)], args := [d1, d2] }
  | _ => none }
def EquatingBackWrongFalsely : Prop := equatingBackRow.holds Try.pinned (OpenSpec.ofChange equatingBackWrong)

/-- 'awardingbodylaw34.EquatingSelf': WHATEVER THE INPUT: true; the input reads as it did. -/
def equatingSelfSpec : ChangeSpec := { name := "equatingSelf", fn := fun _ => fun
  | [d1, d2] => { results := [.lit (.bool true)], args := [d1, d2] }
  | _ => none }
def equatingSelfRow : OpenClaim := { program := "ytdebnihlkdabpaa", sum := "05d3f50e8ca4405ca8ddfce8210bf07dd7c640ca6415e7ee19c08f2d3fc892af", func := "awardingbody/awardingbodylaw34.EquatingSelf", spec := "equatingSelf", inPlace := ["math/bits.Add64", "math/bits.Sub64"], unfollowed := true, recurses := true, named := ["math/bits.divideError", "math/bits.overflowError"], apart := false }
def EquatingSelfSaid : Prop := equatingSelfRow.holds Try.pinned (OpenSpec.ofChange equatingSelfSpec)

/-- ITS FALSE NEIGHBOUR: 'it returns false'. Refute it at one input. -/
def equatingSelfWrong : ChangeSpec := { name := "equatingSelf", fn := fun _ => fun
  | [d1, d2] => { results := [.lit (.bool false)], args := [d1, d2] }
  | _ => none }
def EquatingSelfWrongFalsely : Prop := equatingSelfRow.holds Try.pinned (OpenSpec.ofChange equatingSelfWrong)

/- THE SECOND FORM. 'bulk': how many values and letters a reading holds, each counted each time it is reached (what is shared counts as often as it is met; a slice's spare places count too). A statement '..UptoSaid' is the law's where the arguments, and the package variables that the reading takes, are together of bulk at most 1048576: NARROWER than '..Said'. Prove '..Said' where nothing that the law and all that it calls make is longer than what came in: it says more and counts as full. Else prove '..UptoSaid'. A law counts once. -/
mutual
def uptoBulk {H : Type} : DataW H → Nat
  | .lit (.string bytes) => bytes.length + 1
  | .lit _ => 1
  | .nil => 1
  | .ptr d => uptoBulk d + 1
  | .slice elems spare => uptoBulkAll elems + uptoBulkAll spare + 1
  | .agg parts => uptoBulkAll parts + 1
  | .iface _ d => uptoBulk d + 1
  | .map entries => uptoBulkEntries entries + 1
  | .held _ => 1
def uptoBulkAll {H : Type} : List (DataW H) → Nat
  | [] => 0
  | d :: r => uptoBulk d + uptoBulkAll r
def uptoBulkEntries {H : Type} : List (Lit × DataW H) → Nat
  | [] => 0
  | x :: r => uptoBulkEntry x + uptoBulkEntries r
def uptoBulkEntry {H : Type} : Lit × DataW H → Nat
  | (.string bytes, d) => bytes.length + uptoBulk d + 1
  | (_, d) => uptoBulk d + 1
 end
def uptoSmall : (H : Type) → List (DataW H) → Bool := fun _ ds => decide (uptoBulkAll ds ≤ 1048576)
def OpenSpec.upto (s : _root_.Go.ChangeSpec) : _root_.Go.OpenSpec := { _root_.Go.OpenSpec.ofChange s with cond := some uptoSmall }

/-- 'awardingbodylaw34.EquatingShares', WHERE WHAT IT READS IS OF BULK AT MOST 1048576: true; the input reads as it did. -/
def equatingSharesUptoRow : OpenClaim := { program := "ytdebnihlkdabpaa", sum := "05d3f50e8ca4405ca8ddfce8210bf07dd7c640ca6415e7ee19c08f2d3fc892af", func := "awardingbody/awardingbodylaw34.EquatingShares", spec := "equatingShares", inPlace := ["math/bits.Add64", "math/bits.Sub64"], unfollowed := true, recurses := true, named := ["math/bits.divideError", "math/bits.overflowError"], apart := false, narrowed := true }
def EquatingSharesUptoSaid : Prop := equatingSharesUptoRow.holds Try.pinned (OpenSpec.upto equatingSharesSpec)

/-- 'awardingbodylaw34.EquatingMeans', WHERE WHAT IT READS IS OF BULK AT MOST 1048576: true; the input reads as it did. -/
def equatingMeansUptoRow : OpenClaim := { program := "ytdebnihlkdabpaa", sum := "05d3f50e8ca4405ca8ddfce8210bf07dd7c640ca6415e7ee19c08f2d3fc892af", func := "awardingbody/awardingbodylaw34.EquatingMeans", spec := "equatingMeans", inPlace := ["math/bits.Add64", "math/bits.Sub64"], unfollowed := true, recurses := true, named := ["math/bits.divideError", "math/bits.overflowError"], apart := false, narrowed := true }
def EquatingMeansUptoSaid : Prop := equatingMeansUptoRow.holds Try.pinned (OpenSpec.upto equatingMeansSpec)

/-- 'awardingbodylaw34.EquatingBack', WHERE WHAT IT READS IS OF BULK AT MOST 1048576: true; the input reads as it did. -/
def equatingBackUptoRow : OpenClaim := { program := "ytdebnihlkdabpaa", sum := "05d3f50e8ca4405ca8ddfce8210bf07dd7c640ca6415e7ee19c08f2d3fc892af", func := "awardingbody/awardingbodylaw34.EquatingBack", spec := "equatingBack", inPlace := ["math/bits.Add64", "math/bits.Sub64"], unfollowed := true, recurses := true, named := ["math/bits.divideError", "math/bits.overflowError"], apart := false, narrowed := true }
def EquatingBackUptoSaid : Prop := equatingBackUptoRow.holds Try.pinned (OpenSpec.upto equatingBackSpec)

/-- 'awardingbodylaw34.EquatingSelf', WHERE WHAT IT READS IS OF BULK AT MOST 1048576: true; the input reads as it did. -/
def equatingSelfUptoRow : OpenClaim := { program := "ytdebnihlkdabpaa", sum := "05d3f50e8ca4405ca8ddfce8210bf07dd7c640ca6415e7ee19c08f2d3fc892af", func := "awardingbody/awardingbodylaw34.EquatingSelf", spec := "equatingSelf", inPlace := ["math/bits.Add64", "math/bits.Sub64"], unfollowed := true, recurses := true, named := ["math/bits.divideError", "math/bits.overflowError"], apart := false, narrowed := true }
def EquatingSelfUptoSaid : Prop := equatingSelfUptoRow.holds Try.pinned (OpenSpec.upto equatingSelfSpec)

end Rows
end Go.Proofs.Ytdebnihlkdabpaa
