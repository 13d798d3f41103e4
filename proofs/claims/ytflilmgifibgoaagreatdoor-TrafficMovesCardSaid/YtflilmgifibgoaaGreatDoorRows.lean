/-
  NARROWER THAN 'FOR EVERY INPUT', by the rows' own cells (each row's printed sentence says how): TrafficSteps: laid · TrafficCools: laid · TrafficActs: laid · TrafficMoves: laid.
  DERIVED. THE GIVEN ROWS OF THIS SEAT. 4 by the template 'for every input the law returns true; each argument reads behind the call as it read before'; 0 by the template 'total and deterministic' (their statements: YtflilmgifibgoaaGreatDoorTotals.lean).
  GIVEN WITH THE SEED: the statements are not yours to turn. If you find one false, say at which input.
  Laid BY PROGRAM, IN A SANDBOX (cutbox-rows.mjs): the forced cells as the released guide's own fill.sh prints them over the translation 4ca72ecbd9ae0c22… (all of the seat's roots in one cut). By AI agents, Wed Nov 11 2026. No macro, syntax, notation, axiom, sorry.
-/
import Derived.Test.YtflilmgifibgoaaGreatDoorChecked
import GoSem.PinnedTables
import GoSem.Claim
import GoSem.ClaimJoined
import GoSem.ClaimMapViews
import Derived.JoinedTies
import Derived.KernelRfl
namespace Go.Proofs.YtflilmgifibgoaaGreatDoor
/- THE CELL 'sum', in the pinned program and in every row, IS THE sha256 OF THE DUMP (.gsa) THAT YtflilmgifibgoaaGreatDoorProg.lean LOADS. Nothing in Lean hashes anything: it is a label: what it is worth is what the hold of that sum in a sandbox is worth. -/
noncomputable def Tryz.pinned : Pinned := { name := "ytflilmgifibgoaagreatdoor", sum := "4ca72ecbd9ae0c22ebaba1573e30e7f7d7bf1cd8dd563fdaaba57beecdb92d0e", checked := Tryz.checked }
namespace Rows
def none {H : Type} : Left H := { results := [], args := [] }

/- WHAT THE LISTED PACKAGE-LEVEL VARIABLES READ AS WHEN THE CALL BEGINS. Each datum BY PROGRAM (the guide's laid-datum.mjs) off the statement by which the dump's own 'gosem.cut.vars' lays the variable. In a bare row this is a premise. The card (YtflilmgifibgoaaGreatDoorCards.lean) ties it to the program's text. -/
def laid_unicode_utf8_acceptRanges {H : Type} : DataW H := .agg [.agg [.lit (.int .u8 128), .lit (.int .u8 191)], .agg [.lit (.int .u8 160), .lit (.int .u8 191)], .agg [.lit (.int .u8 128), .lit (.int .u8 159)], .agg [.lit (.int .u8 144), .lit (.int .u8 191)], .agg [.lit (.int .u8 128), .lit (.int .u8 143)], .agg [.lit (.int .u8 0), .lit (.int .u8 0)], .agg [.lit (.int .u8 0), .lit (.int .u8 0)], .agg [.lit (.int .u8 0), .lit (.int .u8 0)], .agg [.lit (.int .u8 0), .lit (.int .u8 0)], .agg [.lit (.int .u8 0), .lit (.int .u8 0)], .agg [.lit (.int .u8 0), .lit (.int .u8 0)], .agg [.lit (.int .u8 0), .lit (.int .u8 0)], .agg [.lit (.int .u8 0), .lit (.int .u8 0)], .agg [.lit (.int .u8 0), .lit (.int .u8 0)], .agg [.lit (.int .u8 0), .lit (.int .u8 0)], .agg [.lit (.int .u8 0), .lit (.int .u8 0)]]
def laid_flagstone_flagstonedraw_texts {H : Type} : DataW H := .agg [.lit (.string [115, 101]), .lit (.string [100, 101]), .lit (.string [117, 115]), .lit (.string [112, 114, 111]), .lit (.string [102, 114, 101, 101]), .lit (.string []), .lit (.string [97, 34, 98]), .lit (.string [99, 92]), .lit (.string [195, 169]), .lit (.string [112, 114, 111, 115, 101]), .lit (.string [120, 32, 121])]
def laid_flagstone_flagstonedraw_versions {H : Type} : DataW H := .agg [.lit (.string [49, 46, 48, 46, 48]), .lit (.string [49, 46, 50, 46, 51]), .lit (.string [49, 46, 49, 48, 46, 48]), .lit (.string [50, 46, 48, 46, 49]), .lit (.string [48, 46, 48, 46, 48]), .lit (.string [57, 57, 57, 57, 57, 57, 46, 48, 46, 57, 57, 57, 57, 57, 57])]
def laid_flagstone_flagstonedraw_lists {H : Type} : DataW H := .agg [.slice [] [], .slice [.lit (.string [112, 114, 111])] [], .slice [.lit (.string [100, 101]), .lit (.string [115, 101])] [], .slice [.lit (.string []), .lit (.string [102, 114, 101, 101]), .lit (.string [117, 115])] [], .slice [.lit (.string [120, 32, 121])] []]
/-- One of Go's own tables, pinned by name: the form's constant. -/
def laid_unicode_utf8_first : DataW Unit := Go.Pinned.utf8First

/-- 'flagstonelaw14.TrafficSteps': WHATEVER THE INPUT: true; the input reads as it did. -/
def trafficStepsSpec : ChangeSpec := { name := "trafficSteps", fn := fun _ => fun
  | [d1, d2] => { results := [.lit (.bool true)], args := [d1, d2] }
  | _ => none }
def trafficStepsRow : OpenClaim := { program := "ytflilmgifibgoaagreatdoor", sum := "4ca72ecbd9ae0c22ebaba1573e30e7f7d7bf1cd8dd563fdaaba57beecdb92d0e", func := "flagstone/flagstonelaw14.TrafficSteps", spec := "trafficSteps", unfollowed := true, recurses := true, named := ["flagstone/flagstonedraw.texts", "flagstone/flagstonedraw.versions", "flagstone/flagstonedraw.lists", "unicode/utf8.first", "unicode/utf8.acceptRanges"], plainKeys := false, apart := false, laid := [("unicode/utf8.acceptRanges", laid_unicode_utf8_acceptRanges), ("flagstone/flagstonedraw.texts", laid_flagstone_flagstonedraw_texts), ("flagstone/flagstonedraw.versions", laid_flagstone_flagstonedraw_versions), ("flagstone/flagstonedraw.lists", laid_flagstone_flagstonedraw_lists), ("unicode/utf8.first", laid_unicode_utf8_first)] }
def TrafficStepsSaid : Prop := trafficStepsRow.holds Tryz.pinned (OpenSpec.ofChange trafficStepsSpec)

/-- ITS FALSE NEIGHBOUR: 'it returns false'. Refute it at one input. -/
def trafficStepsWrong : ChangeSpec := { name := "trafficSteps", fn := fun _ => fun
  | [d1, d2] => { results := [.lit (.bool false)], args := [d1, d2] }
  | _ => none }
def TrafficStepsWrongFalsely : Prop := trafficStepsRow.holds Tryz.pinned (OpenSpec.ofChange trafficStepsWrong)

/-- 'flagstonelaw14.TrafficCools': WHATEVER THE INPUT: true; the input reads as it did. -/
def trafficCoolsSpec : ChangeSpec := { name := "trafficCools", fn := fun _ => fun
  | [d1, d2, d3, d4, d5, d6] => { results := [.lit (.bool true)], args := [d1, d2, d3, d4, d5, d6] }
  | _ => none }
def trafficCoolsRow : OpenClaim := { program := "ytflilmgifibgoaagreatdoor", sum := "4ca72ecbd9ae0c22ebaba1573e30e7f7d7bf1cd8dd563fdaaba57beecdb92d0e", func := "flagstone/flagstonelaw14.TrafficCools", spec := "trafficCools", unfollowed := true, recurses := true, named := ["flagstone/flagstonedraw.texts", "flagstone/flagstonedraw.versions", "flagstone/flagstonedraw.lists", "unicode/utf8.first", "unicode/utf8.acceptRanges"], plainKeys := false, apart := false, laid := [("unicode/utf8.acceptRanges", laid_unicode_utf8_acceptRanges), ("flagstone/flagstonedraw.texts", laid_flagstone_flagstonedraw_texts), ("flagstone/flagstonedraw.versions", laid_flagstone_flagstonedraw_versions), ("flagstone/flagstonedraw.lists", laid_flagstone_flagstonedraw_lists), ("unicode/utf8.first", laid_unicode_utf8_first)] }
def TrafficCoolsSaid : Prop := trafficCoolsRow.holds Tryz.pinned (OpenSpec.ofChange trafficCoolsSpec)

/-- ITS FALSE NEIGHBOUR: 'it returns false'. Refute it at one input. -/
def trafficCoolsWrong : ChangeSpec := { name := "trafficCools", fn := fun _ => fun
  | [d1, d2, d3, d4, d5, d6] => { results := [.lit (.bool false)], args := [d1, d2, d3, d4, d5, d6] }
  | _ => none }
def TrafficCoolsWrongFalsely : Prop := trafficCoolsRow.holds Tryz.pinned (OpenSpec.ofChange trafficCoolsWrong)

/-- 'flagstonelaw14.TrafficActs': WHATEVER THE INPUT: true; the input reads as it did. -/
def trafficActsSpec : ChangeSpec := { name := "trafficActs", fn := fun _ => fun
  | [d1, d2, d3, d4] => { results := [.lit (.bool true)], args := [d1, d2, d3, d4] }
  | _ => none }
def trafficActsRow : OpenClaim := { program := "ytflilmgifibgoaagreatdoor", sum := "4ca72ecbd9ae0c22ebaba1573e30e7f7d7bf1cd8dd563fdaaba57beecdb92d0e", func := "flagstone/flagstonelaw14.TrafficActs", spec := "trafficActs", unfollowed := true, recurses := true, named := ["flagstone/flagstonedraw.texts", "flagstone/flagstonedraw.versions", "flagstone/flagstonedraw.lists", "unicode/utf8.first", "unicode/utf8.acceptRanges"], plainKeys := false, apart := false, laid := [("unicode/utf8.acceptRanges", laid_unicode_utf8_acceptRanges), ("flagstone/flagstonedraw.texts", laid_flagstone_flagstonedraw_texts), ("flagstone/flagstonedraw.versions", laid_flagstone_flagstonedraw_versions), ("flagstone/flagstonedraw.lists", laid_flagstone_flagstonedraw_lists), ("unicode/utf8.first", laid_unicode_utf8_first)] }
def TrafficActsSaid : Prop := trafficActsRow.holds Tryz.pinned (OpenSpec.ofChange trafficActsSpec)

/-- ITS FALSE NEIGHBOUR: 'it returns false'. Refute it at one input. -/
def trafficActsWrong : ChangeSpec := { name := "trafficActs", fn := fun _ => fun
  | [d1, d2, d3, d4] => { results := [.lit (.bool false)], args := [d1, d2, d3, d4] }
  | _ => none }
def TrafficActsWrongFalsely : Prop := trafficActsRow.holds Tryz.pinned (OpenSpec.ofChange trafficActsWrong)

/-- 'flagstonelaw14.TrafficMoves': WHATEVER THE INPUT: true; the input reads as it did. -/
def trafficMovesSpec : ChangeSpec := { name := "trafficMoves", fn := fun _ => fun
  | [d1, d2, d3] => { results := [.lit (.bool true)], args := [d1, d2, d3] }
  | _ => none }
def trafficMovesRow : OpenClaim := { program := "ytflilmgifibgoaagreatdoor", sum := "4ca72ecbd9ae0c22ebaba1573e30e7f7d7bf1cd8dd563fdaaba57beecdb92d0e", func := "flagstone/flagstonelaw14.TrafficMoves", spec := "trafficMoves", unfollowed := true, recurses := true, named := ["flagstone/flagstonedraw.texts", "flagstone/flagstonedraw.versions", "flagstone/flagstonedraw.lists", "unicode/utf8.first", "unicode/utf8.acceptRanges"], plainKeys := false, apart := false, laid := [("unicode/utf8.acceptRanges", laid_unicode_utf8_acceptRanges), ("flagstone/flagstonedraw.texts", laid_flagstone_flagstonedraw_texts), ("flagstone/flagstonedraw.versions", laid_flagstone_flagstonedraw_versions), ("flagstone/flagstonedraw.lists", laid_flagstone_flagstonedraw_lists), ("unicode/utf8.first", laid_unicode_utf8_first)] }
def TrafficMovesSaid : Prop := trafficMovesRow.holds Tryz.pinned (OpenSpec.ofChange trafficMovesSpec)

/-- ITS FALSE NEIGHBOUR: 'it returns false'. Refute it at one input. -/
def trafficMovesWrong : ChangeSpec := { name := "trafficMoves", fn := fun _ => fun
  | [d1, d2, d3] => { results := [.lit (.bool false)], args := [d1, d2, d3] }
  | _ => none }
def TrafficMovesWrongFalsely : Prop := trafficMovesRow.holds Tryz.pinned (OpenSpec.ofChange trafficMovesWrong)

/- THE SECOND FORM. 'bulk': how many values and letters a reading holds, each counted each time it is reached (what is shared counts as often as it is met; a slice's spare places count too). A statement '..UptoSaid' is the law's where the arguments, and the package variables that the reading takes, are together of bulk at most 1048576: NARROWER than '..Said'. Prove '..Said' where nothing that the law and all that it calls make is longer than what came in: it says more and counts as full. Else prove '..UptoSaid'. A law counts once. -/
mutual
def uptoBulk {H : Type} : DataW H → Nat
  | .lit (.string bytes) => bytes.length + 1
  | .lit _ => 1
  | .nil => 1
  | .ptr d => uptoBulk d + 1
  | .slice elems spare => uptoBulkAll elems + uptoBulkAll spare + 1
  | .agg parts => uptoBulkAll parts + 1
  | .iface _ d => uptoBulk d + 1
  | .map entries => uptoBulkEntries entries + 1
  | .held _ => 1
def uptoBulkAll {H : Type} : List (DataW H) → Nat
  | [] => 0
  | d :: r => uptoBulk d + uptoBulkAll r
def uptoBulkEntries {H : Type} : List (Lit × DataW H) → Nat
  | [] => 0
  | x :: r => uptoBulkEntry x + uptoBulkEntries r
def uptoBulkEntry {H : Type} : Lit × DataW H → Nat
  | (.string bytes, d) => bytes.length + uptoBulk d + 1
  | (_, d) => uptoBulk d + 1
 end
def uptoSmall : (H : Type) → List (DataW H) → Bool := fun _ ds => decide (uptoBulkAll ds ≤ 1048576)
def OpenSpec.upto (s : _root_.Go.ChangeSpec) : _root_.Go.OpenSpec := { _root_.Go.OpenSpec.ofChange s with cond := some uptoSmall }

/-- 'flagstonelaw14.TrafficSteps', WHERE WHAT IT READS IS OF BULK AT MOST 1048576: true; the input reads as it did. -/
def trafficStepsUptoRow : OpenClaim := { program := "ytflilmgifibgoaagreatdoor", sum := "4ca72ecbd9ae0c22ebaba1573e30e7f7d7bf1cd8dd563fdaaba57beecdb92d0e", func := "flagstone/flagstonelaw14.TrafficSteps", spec := "trafficSteps", unfollowed := true, recurses := true, named := ["flagstone/flagstonedraw.texts", "flagstone/flagstonedraw.versions", "flagstone/flagstonedraw.lists", "unicode/utf8.first", "unicode/utf8.acceptRanges"], plainKeys := false, apart := false, laid := [("unicode/utf8.acceptRanges", laid_unicode_utf8_acceptRanges), ("flagstone/flagstonedraw.texts", laid_flagstone_flagstonedraw_texts), ("flagstone/flagstonedraw.versions", laid_flagstone_flagstonedraw_versions), ("flagstone/flagstonedraw.lists", laid_flagstone_flagstonedraw_lists), ("unicode/utf8.first", laid_unicode_utf8_first)], narrowed := true }
def TrafficStepsUptoSaid : Prop := trafficStepsUptoRow.holds Tryz.pinned (OpenSpec.upto trafficStepsSpec)

/-- 'flagstonelaw14.TrafficCools', WHERE WHAT IT READS IS OF BULK AT MOST 1048576: true; the input reads as it did. -/
def trafficCoolsUptoRow : OpenClaim := { program := "ytflilmgifibgoaagreatdoor", sum := "4ca72ecbd9ae0c22ebaba1573e30e7f7d7bf1cd8dd563fdaaba57beecdb92d0e", func := "flagstone/flagstonelaw14.TrafficCools", spec := "trafficCools", unfollowed := true, recurses := true, named := ["flagstone/flagstonedraw.texts", "flagstone/flagstonedraw.versions", "flagstone/flagstonedraw.lists", "unicode/utf8.first", "unicode/utf8.acceptRanges"], plainKeys := false, apart := false, laid := [("unicode/utf8.acceptRanges", laid_unicode_utf8_acceptRanges), ("flagstone/flagstonedraw.texts", laid_flagstone_flagstonedraw_texts), ("flagstone/flagstonedraw.versions", laid_flagstone_flagstonedraw_versions), ("flagstone/flagstonedraw.lists", laid_flagstone_flagstonedraw_lists), ("unicode/utf8.first", laid_unicode_utf8_first)], narrowed := true }
def TrafficCoolsUptoSaid : Prop := trafficCoolsUptoRow.holds Tryz.pinned (OpenSpec.upto trafficCoolsSpec)

/-- 'flagstonelaw14.TrafficActs', WHERE WHAT IT READS IS OF BULK AT MOST 1048576: true; the input reads as it did. -/
def trafficActsUptoRow : OpenClaim := { program := "ytflilmgifibgoaagreatdoor", sum := "4ca72ecbd9ae0c22ebaba1573e30e7f7d7bf1cd8dd563fdaaba57beecdb92d0e", func := "flagstone/flagstonelaw14.TrafficActs", spec := "trafficActs", unfollowed := true, recurses := true, named := ["flagstone/flagstonedraw.texts", "flagstone/flagstonedraw.versions", "flagstone/flagstonedraw.lists", "unicode/utf8.first", "unicode/utf8.acceptRanges"], plainKeys := false, apart := false, laid := [("unicode/utf8.acceptRanges", laid_unicode_utf8_acceptRanges), ("flagstone/flagstonedraw.texts", laid_flagstone_flagstonedraw_texts), ("flagstone/flagstonedraw.versions", laid_flagstone_flagstonedraw_versions), ("flagstone/flagstonedraw.lists", laid_flagstone_flagstonedraw_lists), ("unicode/utf8.first", laid_unicode_utf8_first)], narrowed := true }
def TrafficActsUptoSaid : Prop := trafficActsUptoRow.holds Tryz.pinned (OpenSpec.upto trafficActsSpec)

/-- 'flagstonelaw14.TrafficMoves', WHERE WHAT IT READS IS OF BULK AT MOST 1048576: true; the input reads as it did. -/
def trafficMovesUptoRow : OpenClaim := { program := "ytflilmgifibgoaagreatdoor", sum := "4ca72ecbd9ae0c22ebaba1573e30e7f7d7bf1cd8dd563fdaaba57beecdb92d0e", func := "flagstone/flagstonelaw14.TrafficMoves", spec := "trafficMoves", unfollowed := true, recurses := true, named := ["flagstone/flagstonedraw.texts", "flagstone/flagstonedraw.versions", "flagstone/flagstonedraw.lists", "unicode/utf8.first", "unicode/utf8.acceptRanges"], plainKeys := false, apart := false, laid := [("unicode/utf8.acceptRanges", laid_unicode_utf8_acceptRanges), ("flagstone/flagstonedraw.texts", laid_flagstone_flagstonedraw_texts), ("flagstone/flagstonedraw.versions", laid_flagstone_flagstonedraw_versions), ("flagstone/flagstonedraw.lists", laid_flagstone_flagstonedraw_lists), ("unicode/utf8.first", laid_unicode_utf8_first)], narrowed := true }
def TrafficMovesUptoSaid : Prop := trafficMovesUptoRow.holds Tryz.pinned (OpenSpec.upto trafficMovesSpec)

end Rows
end Go.Proofs.YtflilmgifibgoaaGreatDoor
