/-
  No cell of these rows narrows 'for every input' (looked for: loops, veiled, ifaces, maps, wideKeys, modest, calm, conditions, laid).
  DERIVED. THE GIVEN ROWS OF THIS SEAT. 8 by the template 'for every input the law returns true; each argument reads behind the call as it read before'; 0 by the template 'total and deterministic' (their statements: YtehmnkholidanaaTotals.lean).
  GIVEN WITH THE SEED: the statements are not yours to turn. If you find one false, say at which input.
  Laid BY PROGRAM, IN A SANDBOX (cutbox-rows.mjs): the forced cells as the released guide's own fill.sh prints them over the translation 110a8773f7828f60… (all of the seat's roots in one cut). By AI agents, Wed Nov 11 2026. No macro, syntax, notation, axiom, sorry.
-/
import Derived.Test.YtehmnkholidanaaChecked
import GoSem.Claim
import GoSem.ClaimJoined
import GoSem.ClaimMapViews
import Derived.JoinedTies
import Derived.KernelRfl
namespace Go.Proofs.Ytehmnkholidanaa
/- THE CELL 'sum', in the pinned program and in every row, IS THE sha256 OF THE DUMP (.gsa) THAT YtehmnkholidanaaProg.lean LOADS. Nothing in Lean hashes anything: it is a label: what it is worth is what the hold of that sum in a sandbox is worth. -/
noncomputable def Try.pinned : Pinned := { name := "ytehmnkholidanaa", sum := "110a8773f7828f6098d25647e8a999d39cccf0dde4908a81dfff1daadd77d7d7", checked := Try.checked }
namespace Rows
def none {H : Type} : Left H := { results := [], args := [] }

/-- 'flagstonelaw26.IdentityGrows': WHATEVER THE INPUT: true; the input reads as it did. -/
def identityGrowsSpec : ChangeSpec := { name := "identityGrows", fn := fun _ => fun
  | [d1, d2, d3] => { results := [.lit (.bool true)], args := [d1, d2, d3] }
  | _ => none }
def identityGrowsRow : OpenClaim := { program := "ytehmnkholidanaa", sum := "110a8773f7828f6098d25647e8a999d39cccf0dde4908a81dfff1daadd77d7d7", func := "flagstone/flagstonelaw26.IdentityGrows", spec := "identityGrows", recurses := true, apart := false }
def IdentityGrowsSaid : Prop := identityGrowsRow.holds Try.pinned (OpenSpec.ofChange identityGrowsSpec)

/-- ITS FALSE NEIGHBOUR: 'it returns false'. Refute it at one input. -/
def identityGrowsWrong : ChangeSpec := { name := "identityGrows", fn := fun _ => fun
  | [d1, d2, d3] => { results := [.lit (.bool false)], args := [d1, d2, d3] }
  | _ => none }
def IdentityGrowsWrongFalsely : Prop := identityGrowsRow.holds Try.pinned (OpenSpec.ofChange identityGrowsWrong)

/-- 'flagstonelaw26.IdentityPaths': WHATEVER THE INPUT: true; the input reads as it did. -/
def identityPathsSpec : ChangeSpec := { name := "identityPaths", fn := fun _ => fun
  | [d1, d2, d3] => { results := [.lit (.bool true)], args := [d1, d2, d3] }
  | _ => none }
def identityPathsRow : OpenClaim := { program := "ytehmnkholidanaa", sum := "110a8773f7828f6098d25647e8a999d39cccf0dde4908a81dfff1daadd77d7d7", func := "flagstone/flagstonelaw26.IdentityPaths", spec := "identityPaths", recurses := true, apart := false }
def IdentityPathsSaid : Prop := identityPathsRow.holds Try.pinned (OpenSpec.ofChange identityPathsSpec)

/-- ITS FALSE NEIGHBOUR: 'it returns false'. Refute it at one input. -/
def identityPathsWrong : ChangeSpec := { name := "identityPaths", fn := fun _ => fun
  | [d1, d2, d3] => { results := [.lit (.bool false)], args := [d1, d2, d3] }
  | _ => none }
def IdentityPathsWrongFalsely : Prop := identityPathsRow.holds Try.pinned (OpenSpec.ofChange identityPathsWrong)

/-- 'flagstonelaw26.IdentityParts': WHATEVER THE INPUT: true; the input reads as it did. -/
def identityPartsSpec : ChangeSpec := { name := "identityParts", fn := fun _ => fun
  | [d] => { results := [.lit (.bool true)], args := [d] }
  | _ => none }
def identityPartsRow : OpenClaim := { program := "ytehmnkholidanaa", sum := "110a8773f7828f6098d25647e8a999d39cccf0dde4908a81dfff1daadd77d7d7", func := "flagstone/flagstonelaw26.IdentityParts", spec := "identityParts", recurses := true, apart := false }
def IdentityPartsSaid : Prop := identityPartsRow.holds Try.pinned (OpenSpec.ofChange identityPartsSpec)

/-- ITS FALSE NEIGHBOUR: 'it returns false'. Refute it at one input. -/
def identityPartsWrong : ChangeSpec := { name := "identityParts", fn := fun _ => fun
  | [d] => { results := [.lit (.bool false)], args := [d] }
  | _ => none }
def IdentityPartsWrongFalsely : Prop := identityPartsRow.holds Try.pinned (OpenSpec.ofChange identityPartsWrong)

/-- 'flagstonelaw26.IdentityOrder': WHATEVER THE INPUT: true; the input reads as it did. -/
def identityOrderSpec : ChangeSpec := { name := "identityOrder", fn := fun _ => fun
  | [d1, d2, d3] => { results := [.lit (.bool true)], args := [d1, d2, d3] }
  | _ => none }
def identityOrderRow : OpenClaim := { program := "ytehmnkholidanaa", sum := "110a8773f7828f6098d25647e8a999d39cccf0dde4908a81dfff1daadd77d7d7", func := "flagstone/flagstonelaw26.IdentityOrder", spec := "identityOrder", recurses := true, apart := false }
def IdentityOrderSaid : Prop := identityOrderRow.holds Try.pinned (OpenSpec.ofChange identityOrderSpec)

/-- ITS FALSE NEIGHBOUR: 'it returns false'. Refute it at one input. -/
def identityOrderWrong : ChangeSpec := { name := "identityOrder", fn := fun _ => fun
  | [d1, d2, d3] => { results := [.lit (.bool false)], args := [d1, d2, d3] }
  | _ => none }
def IdentityOrderWrongFalsely : Prop := identityOrderRow.holds Try.pinned (OpenSpec.ofChange identityOrderWrong)

/-- 'flagstonelaw26.IdentityForests': WHATEVER THE INPUT: true; the input reads as it did. -/
def identityForestsSpec : ChangeSpec := { name := "identityForests", fn := fun _ => fun
  | [d] => { results := [.lit (.bool true)], args := [d] }
  | _ => none }
def identityForestsRow : OpenClaim := { program := "ytehmnkholidanaa", sum := "110a8773f7828f6098d25647e8a999d39cccf0dde4908a81dfff1daadd77d7d7", func := "flagstone/flagstonelaw26.IdentityForests", spec := "identityForests", recurses := true, apart := false }
def IdentityForestsSaid : Prop := identityForestsRow.holds Try.pinned (OpenSpec.ofChange identityForestsSpec)

/-- ITS FALSE NEIGHBOUR: 'it returns false'. Refute it at one input. -/
def identityForestsWrong : ChangeSpec := { name := "identityForests", fn := fun _ => fun
  | [d] => { results := [.lit (.bool false)], args := [d] }
  | _ => none }
def IdentityForestsWrongFalsely : Prop := identityForestsRow.holds Try.pinned (OpenSpec.ofChange identityForestsWrong)

/-- 'flagstonelaw26.IdentityTimes': WHATEVER THE INPUT: true; the input reads as it did. -/
def identityTimesSpec : ChangeSpec := { name := "identityTimes", fn := fun _ => fun
  | [d1, d2, d3] => { results := [.lit (.bool true)], args := [d1, d2, d3] }
  | _ => none }
def identityTimesRow : OpenClaim := { program := "ytehmnkholidanaa", sum := "110a8773f7828f6098d25647e8a999d39cccf0dde4908a81dfff1daadd77d7d7", func := "flagstone/flagstonelaw26.IdentityTimes", spec := "identityTimes", recurses := true, apart := false }
def IdentityTimesSaid : Prop := identityTimesRow.holds Try.pinned (OpenSpec.ofChange identityTimesSpec)

/-- ITS FALSE NEIGHBOUR: 'it returns false'. Refute it at one input. -/
def identityTimesWrong : ChangeSpec := { name := "identityTimes", fn := fun _ => fun
  | [d1, d2, d3] => { results := [.lit (.bool false)], args := [d1, d2, d3] }
  | _ => none }
def IdentityTimesWrongFalsely : Prop := identityTimesRow.holds Try.pinned (OpenSpec.ofChange identityTimesWrong)

/-- 'flagstonelaw26.IdentityTells': WHATEVER THE INPUT: true; the input reads as it did. -/
def identityTellsSpec : ChangeSpec := { name := "identityTells", fn := fun _ => fun
  | [d] => { results := [.lit (.bool true)], args := [d] }
  | _ => none }
def identityTellsRow : OpenClaim := { program := "ytehmnkholidanaa", sum := "110a8773f7828f6098d25647e8a999d39cccf0dde4908a81dfff1daadd77d7d7", func := "flagstone/flagstonelaw26.IdentityTells", spec := "identityTells", recurses := true, apart := false }
def IdentityTellsSaid : Prop := identityTellsRow.holds Try.pinned (OpenSpec.ofChange identityTellsSpec)

/-- ITS FALSE NEIGHBOUR: 'it returns false'. Refute it at one input. -/
def identityTellsWrong : ChangeSpec := { name := "identityTells", fn := fun _ => fun
  | [d] => { results := [.lit (.bool false)], args := [d] }
  | _ => none }
def IdentityTellsWrongFalsely : Prop := identityTellsRow.holds Try.pinned (OpenSpec.ofChange identityTellsWrong)

/-- 'flagstonelaw26.IdentityAny': WHATEVER THE INPUT: true; the input reads as it did. -/
def identityAnySpec : ChangeSpec := { name := "identityAny", fn := fun _ => fun
  | [d1, d2, d3, d4] => { results := [.lit (.bool true)], args := [d1, d2, d3, d4] }
  | _ => none }
def identityAnyRow : OpenClaim := { program := "ytehmnkholidanaa", sum := "110a8773f7828f6098d25647e8a999d39cccf0dde4908a81dfff1daadd77d7d7", func := "flagstone/flagstonelaw26.IdentityAny", spec := "identityAny", recurses := true, apart := false }
def IdentityAnySaid : Prop := identityAnyRow.holds Try.pinned (OpenSpec.ofChange identityAnySpec)

/-- ITS FALSE NEIGHBOUR: 'it returns false'. Refute it at one input. -/
def identityAnyWrong : ChangeSpec := { name := "identityAny", fn := fun _ => fun
  | [d1, d2, d3, d4] => { results := [.lit (.bool false)], args := [d1, d2, d3, d4] }
  | _ => none }
def IdentityAnyWrongFalsely : Prop := identityAnyRow.holds Try.pinned (OpenSpec.ofChange identityAnyWrong)

/- THE SECOND FORM. 'bulk': how many values and letters a reading holds, each counted each time it is reached (what is shared counts as often as it is met; a slice's spare places count too). A statement '..UptoSaid' is the law's where the arguments, and the package variables that the reading takes, are together of bulk at most 1048576: NARROWER than '..Said'. Prove '..Said' where nothing that the law and all that it calls make is longer than what came in: it says more and counts as full. Else prove '..UptoSaid'. A law counts once. -/
mutual
def uptoBulk {H : Type} : DataW H → Nat
  | .lit (.string bytes) => bytes.length + 1
  | .lit _ => 1
  | .nil => 1
  | .ptr d => uptoBulk d + 1
  | .slice elems spare => uptoBulkAll elems + uptoBulkAll spare + 1
  | .agg parts => uptoBulkAll parts + 1
  | .iface _ d => uptoBulk d + 1
  | .map entries => uptoBulkEntries entries + 1
  | .held _ => 1
def uptoBulkAll {H : Type} : List (DataW H) → Nat
  | [] => 0
  | d :: r => uptoBulk d + uptoBulkAll r
def uptoBulkEntries {H : Type} : List (Lit × DataW H) → Nat
  | [] => 0
  | x :: r => uptoBulkEntry x + uptoBulkEntries r
def uptoBulkEntry {H : Type} : Lit × DataW H → Nat
  | (.string bytes, d) => bytes.length + uptoBulk d + 1
  | (_, d) => uptoBulk d + 1
 end
def uptoSmall : (H : Type) → List (DataW H) → Bool := fun _ ds => decide (uptoBulkAll ds ≤ 1048576)
def OpenSpec.upto (s : _root_.Go.ChangeSpec) : _root_.Go.OpenSpec := { _root_.Go.OpenSpec.ofChange s with cond := some uptoSmall }

/-- 'flagstonelaw26.IdentityGrows', WHERE WHAT IT READS IS OF BULK AT MOST 1048576: true; the input reads as it did. -/
def identityGrowsUptoRow : OpenClaim := { program := "ytehmnkholidanaa", sum := "110a8773f7828f6098d25647e8a999d39cccf0dde4908a81dfff1daadd77d7d7", func := "flagstone/flagstonelaw26.IdentityGrows", spec := "identityGrows", recurses := true, apart := false, narrowed := true }
def IdentityGrowsUptoSaid : Prop := identityGrowsUptoRow.holds Try.pinned (OpenSpec.upto identityGrowsSpec)

/-- 'flagstonelaw26.IdentityPaths', WHERE WHAT IT READS IS OF BULK AT MOST 1048576: true; the input reads as it did. -/
def identityPathsUptoRow : OpenClaim := { program := "ytehmnkholidanaa", sum := "110a8773f7828f6098d25647e8a999d39cccf0dde4908a81dfff1daadd77d7d7", func := "flagstone/flagstonelaw26.IdentityPaths", spec := "identityPaths", recurses := true, apart := false, narrowed := true }
def IdentityPathsUptoSaid : Prop := identityPathsUptoRow.holds Try.pinned (OpenSpec.upto identityPathsSpec)

/-- 'flagstonelaw26.IdentityParts', WHERE WHAT IT READS IS OF BULK AT MOST 1048576: true; the input reads as it did. -/
def identityPartsUptoRow : OpenClaim := { program := "ytehmnkholidanaa", sum := "110a8773f7828f6098d25647e8a999d39cccf0dde4908a81dfff1daadd77d7d7", func := "flagstone/flagstonelaw26.IdentityParts", spec := "identityParts", recurses := true, apart := false, narrowed := true }
def IdentityPartsUptoSaid : Prop := identityPartsUptoRow.holds Try.pinned (OpenSpec.upto identityPartsSpec)

/-- 'flagstonelaw26.IdentityOrder', WHERE WHAT IT READS IS OF BULK AT MOST 1048576: true; the input reads as it did. -/
def identityOrderUptoRow : OpenClaim := { program := "ytehmnkholidanaa", sum := "110a8773f7828f6098d25647e8a999d39cccf0dde4908a81dfff1daadd77d7d7", func := "flagstone/flagstonelaw26.IdentityOrder", spec := "identityOrder", recurses := true, apart := false, narrowed := true }
def IdentityOrderUptoSaid : Prop := identityOrderUptoRow.holds Try.pinned (OpenSpec.upto identityOrderSpec)

/-- 'flagstonelaw26.IdentityForests', WHERE WHAT IT READS IS OF BULK AT MOST 1048576: true; the input reads as it did. -/
def identityForestsUptoRow : OpenClaim := { program := "ytehmnkholidanaa", sum := "110a8773f7828f6098d25647e8a999d39cccf0dde4908a81dfff1daadd77d7d7", func := "flagstone/flagstonelaw26.IdentityForests", spec := "identityForests", recurses := true, apart := false, narrowed := true }
def IdentityForestsUptoSaid : Prop := identityForestsUptoRow.holds Try.pinned (OpenSpec.upto identityForestsSpec)

/-- 'flagstonelaw26.IdentityTimes', WHERE WHAT IT READS IS OF BULK AT MOST 1048576: true; the input reads as it did. -/
def identityTimesUptoRow : OpenClaim := { program := "ytehmnkholidanaa", sum := "110a8773f7828f6098d25647e8a999d39cccf0dde4908a81dfff1daadd77d7d7", func := "flagstone/flagstonelaw26.IdentityTimes", spec := "identityTimes", recurses := true, apart := false, narrowed := true }
def IdentityTimesUptoSaid : Prop := identityTimesUptoRow.holds Try.pinned (OpenSpec.upto identityTimesSpec)

/-- 'flagstonelaw26.IdentityTells', WHERE WHAT IT READS IS OF BULK AT MOST 1048576: true; the input reads as it did. -/
def identityTellsUptoRow : OpenClaim := { program := "ytehmnkholidanaa", sum := "110a8773f7828f6098d25647e8a999d39cccf0dde4908a81dfff1daadd77d7d7", func := "flagstone/flagstonelaw26.IdentityTells", spec := "identityTells", recurses := true, apart := false, narrowed := true }
def IdentityTellsUptoSaid : Prop := identityTellsUptoRow.holds Try.pinned (OpenSpec.upto identityTellsSpec)

/-- 'flagstonelaw26.IdentityAny', WHERE WHAT IT READS IS OF BULK AT MOST 1048576: true; the input reads as it did. -/
def identityAnyUptoRow : OpenClaim := { program := "ytehmnkholidanaa", sum := "110a8773f7828f6098d25647e8a999d39cccf0dde4908a81dfff1daadd77d7d7", func := "flagstone/flagstonelaw26.IdentityAny", spec := "identityAny", recurses := true, apart := false, narrowed := true }
def IdentityAnyUptoSaid : Prop := identityAnyUptoRow.holds Try.pinned (OpenSpec.upto identityAnySpec)

end Rows
end Go.Proofs.Ytehmnkholidanaa
