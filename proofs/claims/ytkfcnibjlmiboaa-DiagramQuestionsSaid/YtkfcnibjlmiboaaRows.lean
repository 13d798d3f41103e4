/-
  No cell of these rows narrows 'for every input' (looked for: loops, veiled, ifaces, maps, wideKeys, modest, calm, conditions, laid).
  DERIVED. THE GIVEN ROWS OF THIS SEAT. 6 by the template 'for every input the law returns true; each argument reads behind the call as it read before'; 0 by the template 'total and deterministic' (their statements: YtkfcnibjlmiboaaTotals.lean).
  GIVEN WITH THE SEED: the statements are not yours to turn. If you find one false, say at which input.
  Laid BY PROGRAM, IN A SANDBOX (cutbox-rows.mjs): the forced cells as the released guide's own fill.sh prints them over the translation 46d0b14920932923… (all of the seat's roots in one cut). By AI agents, Wed Nov 11 2026. No macro, syntax, notation, axiom, sorry.
-/
import Derived.Test.YtkfcnibjlmiboaaChecked
import GoSem.Claim
import GoSem.ClaimJoined
import GoSem.ClaimMapViews
import Derived.JoinedTies
import Derived.KernelRfl
namespace Go.Proofs.Ytkfcnibjlmiboaa
/- THE CELL 'sum', in the pinned program and in every row, IS THE sha256 OF THE DUMP (.gsa) THAT YtkfcnibjlmiboaaProg.lean LOADS. Nothing in Lean hashes anything: it is a label: what it is worth is what the hold of that sum in a sandbox is worth. -/
noncomputable def Try.pinned : Pinned := { name := "ytkfcnibjlmiboaa", sum := "46d0b149209329232ea4e01bb31bdc7f921329f1650dccfa550f99b28b333ac7", checked := Try.checked }
namespace Rows
def none {H : Type} : Left H := { results := [], args := [] }

/-- 'flagstonelaw17.DiagramFull': WHATEVER THE INPUT: true; the input reads as it did. -/
def diagramFullSpec : ChangeSpec := { name := "diagramFull", fn := fun _ => fun
  | [d] => { results := [.lit (.bool true)], args := [d] }
  | _ => none }
def diagramFullRow : OpenClaim := { program := "ytkfcnibjlmiboaa", sum := "46d0b149209329232ea4e01bb31bdc7f921329f1650dccfa550f99b28b333ac7", func := "flagstone/flagstonelaw17.DiagramFull", spec := "diagramFull", unfollowed := true, recurses := true, plainKeys := false, apart := false }
def DiagramFullSaid : Prop := diagramFullRow.holds Try.pinned (OpenSpec.ofChange diagramFullSpec)

/-- ITS FALSE NEIGHBOUR: 'it returns false'. Refute it at one input. -/
def diagramFullWrong : ChangeSpec := { name := "diagramFull", fn := fun _ => fun
  | [d] => { results := [.lit (.bool false)], args := [d] }
  | _ => none }
def DiagramFullWrongFalsely : Prop := diagramFullRow.holds Try.pinned (OpenSpec.ofChange diagramFullWrong)

/-- 'flagstonelaw17.DiagramOperations': WHATEVER THE INPUT: true; the input reads as it did. -/
def diagramOperationsSpec : ChangeSpec := { name := "diagramOperations", fn := fun _ => fun
  | [d] => { results := [.lit (.bool true)], args := [d] }
  | _ => none }
def diagramOperationsRow : OpenClaim := { program := "ytkfcnibjlmiboaa", sum := "46d0b149209329232ea4e01bb31bdc7f921329f1650dccfa550f99b28b333ac7", func := "flagstone/flagstonelaw17.DiagramOperations", spec := "diagramOperations", unfollowed := true, recurses := true, plainKeys := false, apart := false }
def DiagramOperationsSaid : Prop := diagramOperationsRow.holds Try.pinned (OpenSpec.ofChange diagramOperationsSpec)

/-- ITS FALSE NEIGHBOUR: 'it returns false'. Refute it at one input. -/
def diagramOperationsWrong : ChangeSpec := { name := "diagramOperations", fn := fun _ => fun
  | [d] => { results := [.lit (.bool false)], args := [d] }
  | _ => none }
def DiagramOperationsWrongFalsely : Prop := diagramOperationsRow.holds Try.pinned (OpenSpec.ofChange diagramOperationsWrong)

/-- 'flagstonelaw17.DiagramLimits': WHATEVER THE INPUT: true; the input reads as it did. -/
def diagramLimitsSpec : ChangeSpec := { name := "diagramLimits", fn := fun _ => fun
  | [d1, d2, d3] => { results := [.lit (.bool true)], args := [d1, d2, d3] }
  | _ => none }
def diagramLimitsRow : OpenClaim := { program := "ytkfcnibjlmiboaa", sum := "46d0b149209329232ea4e01bb31bdc7f921329f1650dccfa550f99b28b333ac7", func := "flagstone/flagstonelaw17.DiagramLimits", spec := "diagramLimits", unfollowed := true, recurses := true, plainKeys := false, apart := false }
def DiagramLimitsSaid : Prop := diagramLimitsRow.holds Try.pinned (OpenSpec.ofChange diagramLimitsSpec)

/-- ITS FALSE NEIGHBOUR: 'it returns false'. Refute it at one input. -/
def diagramLimitsWrong : ChangeSpec := { name := "diagramLimits", fn := fun _ => fun
  | [d1, d2, d3] => { results := [.lit (.bool false)], args := [d1, d2, d3] }
  | _ => none }
def DiagramLimitsWrongFalsely : Prop := diagramLimitsRow.holds Try.pinned (OpenSpec.ofChange diagramLimitsWrong)

/-- 'flagstonelaw17.DiagramAlgebra': WHATEVER THE INPUT: true; the input reads as it did. -/
def diagramAlgebraSpec : ChangeSpec := { name := "diagramAlgebra", fn := fun _ => fun
  | [d1, d2, d3, d4] => { results := [.lit (.bool true)], args := [d1, d2, d3, d4] }
  | _ => none }
def diagramAlgebraRow : OpenClaim := { program := "ytkfcnibjlmiboaa", sum := "46d0b149209329232ea4e01bb31bdc7f921329f1650dccfa550f99b28b333ac7", func := "flagstone/flagstonelaw17.DiagramAlgebra", spec := "diagramAlgebra", unfollowed := true, recurses := true, plainKeys := false, apart := false }
def DiagramAlgebraSaid : Prop := diagramAlgebraRow.holds Try.pinned (OpenSpec.ofChange diagramAlgebraSpec)

/-- ITS FALSE NEIGHBOUR: 'it returns false'. Refute it at one input. -/
def diagramAlgebraWrong : ChangeSpec := { name := "diagramAlgebra", fn := fun _ => fun
  | [d1, d2, d3, d4] => { results := [.lit (.bool false)], args := [d1, d2, d3, d4] }
  | _ => none }
def DiagramAlgebraWrongFalsely : Prop := diagramAlgebraRow.holds Try.pinned (OpenSpec.ofChange diagramAlgebraWrong)

/-- 'flagstonelaw17.DiagramCanonical': WHATEVER THE INPUT: true; the input reads as it did. -/
def diagramCanonicalSpec : ChangeSpec := { name := "diagramCanonical", fn := fun _ => fun
  | [d] => { results := [.lit (.bool true)], args := [d] }
  | _ => none }
def diagramCanonicalRow : OpenClaim := { program := "ytkfcnibjlmiboaa", sum := "46d0b149209329232ea4e01bb31bdc7f921329f1650dccfa550f99b28b333ac7", func := "flagstone/flagstonelaw17.DiagramCanonical", spec := "diagramCanonical", unfollowed := true, recurses := true, plainKeys := false, apart := false }
def DiagramCanonicalSaid : Prop := diagramCanonicalRow.holds Try.pinned (OpenSpec.ofChange diagramCanonicalSpec)

/-- ITS FALSE NEIGHBOUR: 'it returns false'. Refute it at one input. -/
def diagramCanonicalWrong : ChangeSpec := { name := "diagramCanonical", fn := fun _ => fun
  | [d] => { results := [.lit (.bool false)], args := [d] }
  | _ => none }
def DiagramCanonicalWrongFalsely : Prop := diagramCanonicalRow.holds Try.pinned (OpenSpec.ofChange diagramCanonicalWrong)

/-- 'flagstonelaw17.DiagramQuestions': WHATEVER THE INPUT: true; the input reads as it did. -/
def diagramQuestionsSpec : ChangeSpec := { name := "diagramQuestions", fn := fun _ => fun
  | [d1, d2] => { results := [.lit (.bool true)], args := [d1, d2] }
  | _ => none }
def diagramQuestionsRow : OpenClaim := { program := "ytkfcnibjlmiboaa", sum := "46d0b149209329232ea4e01bb31bdc7f921329f1650dccfa550f99b28b333ac7", func := "flagstone/flagstonelaw17.DiagramQuestions", spec := "diagramQuestions", unfollowed := true, recurses := true, plainKeys := false, apart := false }
def DiagramQuestionsSaid : Prop := diagramQuestionsRow.holds Try.pinned (OpenSpec.ofChange diagramQuestionsSpec)

/-- ITS FALSE NEIGHBOUR: 'it returns false'. Refute it at one input. -/
def diagramQuestionsWrong : ChangeSpec := { name := "diagramQuestions", fn := fun _ => fun
  | [d1, d2] => { results := [.lit (.bool false)], args := [d1, d2] }
  | _ => none }
def DiagramQuestionsWrongFalsely : Prop := diagramQuestionsRow.holds Try.pinned (OpenSpec.ofChange diagramQuestionsWrong)

/- THE SECOND FORM. 'bulk': how many values and letters a reading holds, each counted each time it is reached (what is shared counts as often as it is met; a slice's spare places count too). A statement '..UptoSaid' is the law's where the arguments, and the package variables that the reading takes, are together of bulk at most 1048576: NARROWER than '..Said'. Prove '..Said' where nothing that the law and all that it calls make is longer than what came in: it says more and counts as full. Else prove '..UptoSaid'. A law counts once. -/
mutual
def uptoBulk {H : Type} : DataW H → Nat
  | .lit (.string bytes) => bytes.length + 1
  | .lit _ => 1
  | .nil => 1
  | .ptr d => uptoBulk d + 1
  | .slice elems spare => uptoBulkAll elems + uptoBulkAll spare + 1
  | .agg parts => uptoBulkAll parts + 1
  | .iface _ d => uptoBulk d + 1
  | .map entries => uptoBulkEntries entries + 1
  | .held _ => 1
def uptoBulkAll {H : Type} : List (DataW H) → Nat
  | [] => 0
  | d :: r => uptoBulk d + uptoBulkAll r
def uptoBulkEntries {H : Type} : List (Lit × DataW H) → Nat
  | [] => 0
  | x :: r => uptoBulkEntry x + uptoBulkEntries r
def uptoBulkEntry {H : Type} : Lit × DataW H → Nat
  | (.string bytes, d) => bytes.length + uptoBulk d + 1
  | (_, d) => uptoBulk d + 1
 end
def uptoSmall : (H : Type) → List (DataW H) → Bool := fun _ ds => decide (uptoBulkAll ds ≤ 1048576)
def OpenSpec.upto (s : _root_.Go.ChangeSpec) : _root_.Go.OpenSpec := { _root_.Go.OpenSpec.ofChange s with cond := some uptoSmall }

/-- 'flagstonelaw17.DiagramFull', WHERE WHAT IT READS IS OF BULK AT MOST 1048576: true; the input reads as it did. -/
def diagramFullUptoRow : OpenClaim := { program := "ytkfcnibjlmiboaa", sum := "46d0b149209329232ea4e01bb31bdc7f921329f1650dccfa550f99b28b333ac7", func := "flagstone/flagstonelaw17.DiagramFull", spec := "diagramFull", unfollowed := true, recurses := true, plainKeys := false, apart := false, narrowed := true }
def DiagramFullUptoSaid : Prop := diagramFullUptoRow.holds Try.pinned (OpenSpec.upto diagramFullSpec)

/-- 'flagstonelaw17.DiagramOperations', WHERE WHAT IT READS IS OF BULK AT MOST 1048576: true; the input reads as it did. -/
def diagramOperationsUptoRow : OpenClaim := { program := "ytkfcnibjlmiboaa", sum := "46d0b149209329232ea4e01bb31bdc7f921329f1650dccfa550f99b28b333ac7", func := "flagstone/flagstonelaw17.DiagramOperations", spec := "diagramOperations", unfollowed := true, recurses := true, plainKeys := false, apart := false, narrowed := true }
def DiagramOperationsUptoSaid : Prop := diagramOperationsUptoRow.holds Try.pinned (OpenSpec.upto diagramOperationsSpec)

/-- 'flagstonelaw17.DiagramLimits', WHERE WHAT IT READS IS OF BULK AT MOST 1048576: true; the input reads as it did. -/
def diagramLimitsUptoRow : OpenClaim := { program := "ytkfcnibjlmiboaa", sum := "46d0b149209329232ea4e01bb31bdc7f921329f1650dccfa550f99b28b333ac7", func := "flagstone/flagstonelaw17.DiagramLimits", spec := "diagramLimits", unfollowed := true, recurses := true, plainKeys := false, apart := false, narrowed := true }
def DiagramLimitsUptoSaid : Prop := diagramLimitsUptoRow.holds Try.pinned (OpenSpec.upto diagramLimitsSpec)

/-- 'flagstonelaw17.DiagramAlgebra', WHERE WHAT IT READS IS OF BULK AT MOST 1048576: true; the input reads as it did. -/
def diagramAlgebraUptoRow : OpenClaim := { program := "ytkfcnibjlmiboaa", sum := "46d0b149209329232ea4e01bb31bdc7f921329f1650dccfa550f99b28b333ac7", func := "flagstone/flagstonelaw17.DiagramAlgebra", spec := "diagramAlgebra", unfollowed := true, recurses := true, plainKeys := false, apart := false, narrowed := true }
def DiagramAlgebraUptoSaid : Prop := diagramAlgebraUptoRow.holds Try.pinned (OpenSpec.upto diagramAlgebraSpec)

/-- 'flagstonelaw17.DiagramCanonical', WHERE WHAT IT READS IS OF BULK AT MOST 1048576: true; the input reads as it did. -/
def diagramCanonicalUptoRow : OpenClaim := { program := "ytkfcnibjlmiboaa", sum := "46d0b149209329232ea4e01bb31bdc7f921329f1650dccfa550f99b28b333ac7", func := "flagstone/flagstonelaw17.DiagramCanonical", spec := "diagramCanonical", unfollowed := true, recurses := true, plainKeys := false, apart := false, narrowed := true }
def DiagramCanonicalUptoSaid : Prop := diagramCanonicalUptoRow.holds Try.pinned (OpenSpec.upto diagramCanonicalSpec)

/-- 'flagstonelaw17.DiagramQuestions', WHERE WHAT IT READS IS OF BULK AT MOST 1048576: true; the input reads as it did. -/
def diagramQuestionsUptoRow : OpenClaim := { program := "ytkfcnibjlmiboaa", sum := "46d0b149209329232ea4e01bb31bdc7f921329f1650dccfa550f99b28b333ac7", func := "flagstone/flagstonelaw17.DiagramQuestions", spec := "diagramQuestions", unfollowed := true, recurses := true, plainKeys := false, apart := false, narrowed := true }
def DiagramQuestionsUptoSaid : Prop := diagramQuestionsUptoRow.holds Try.pinned (OpenSpec.upto diagramQuestionsSpec)

end Rows
end Go.Proofs.Ytkfcnibjlmiboaa
