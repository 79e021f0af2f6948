/-
  No cell of these rows narrows 'for every input' (looked for: loops, veiled, ifaces, maps, wideKeys, modest, calm, conditions, laid).
  DERIVED. THE GIVEN ROWS OF THIS SEAT. 13 by the template 'for every input the law returns true; each argument reads behind the call as it read before'; 0 by the template 'total and deterministic' (their statements: YtgjnohkcnfdmkaaTotals.lean).
  GIVEN WITH THE SEED: the statements are not yours to turn. If you find one false, say at which input.
  Laid BY PROGRAM, IN A SANDBOX (cutbox-rows.mjs): the forced cells as the released guide's own fill.sh prints them over the translation eb66b5d6976d39fe… (all of the seat's roots in one cut). By AI agents, Wed Nov 11 2026. No macro, syntax, notation, axiom, sorry.
-/
import Derived.Test.YtgjnohkcnfdmkaaChecked
import GoSem.Claim
import GoSem.ClaimJoined
import GoSem.ClaimMapViews
import Derived.JoinedTies
import Derived.KernelRfl
namespace Go.Proofs.Ytgjnohkcnfdmkaa
/- THE CELL 'sum', in the pinned program and in every row, IS THE sha256 OF THE DUMP (.gsa) THAT YtgjnohkcnfdmkaaProg.lean LOADS. Nothing in Lean hashes anything: it is a label: what it is worth is what the hold of that sum in a sandbox is worth. -/
noncomputable def Try.pinned : Pinned := { name := "ytgjnohkcnfdmkaa", sum := "eb66b5d6976d39fe30c4dadf9d51060d0cbeaf1b2eede081e78d95060d3f75e2", checked := Try.checked }
namespace Rows
def none {H : Type} : Left H := { results := [], args := [] }

/-- 'coldpluglaw12.MatchDrafts': WHATEVER THE INPUT: true; the input reads as it did. -/
def matchDraftsSpec : ChangeSpec := { name := "matchDrafts", fn := fun _ => fun
  | [d1, d2, d3, d4] => { results := [.lit (.bool true)], args := [d1, d2, d3, d4] }
  | _ => none }
def matchDraftsRow : OpenClaim := { program := "ytgjnohkcnfdmkaa", sum := "eb66b5d6976d39fe30c4dadf9d51060d0cbeaf1b2eede081e78d95060d3f75e2", func := "coldplug/coldpluglaw12.MatchDrafts", spec := "matchDrafts", unfollowed := true, recurses := true, plainKeys := false, apart := false }
def MatchDraftsSaid : Prop := matchDraftsRow.holds Try.pinned (OpenSpec.ofChange matchDraftsSpec)

/-- ITS FALSE NEIGHBOUR: 'it returns false'. Refute it at one input. -/
def matchDraftsWrong : ChangeSpec := { name := "matchDrafts", fn := fun _ => fun
  | [d1, d2, d3, d4] => { results := [.lit (.bool false)], args := [d1, d2, d3, d4] }
  | _ => none }
def MatchDraftsWrongFalsely : Prop := matchDraftsRow.holds Try.pinned (OpenSpec.ofChange matchDraftsWrong)

/-- 'coldpluglaw12.MatchGlobs': WHATEVER THE INPUT: true; the input reads as it did. -/
def matchGlobsSpec : ChangeSpec := { name := "matchGlobs", fn := fun _ => fun
  | [d1, d2] => { results := [.lit (.bool true)], args := [d1, d2] }
  | _ => none }
def matchGlobsRow : OpenClaim := { program := "ytgjnohkcnfdmkaa", sum := "eb66b5d6976d39fe30c4dadf9d51060d0cbeaf1b2eede081e78d95060d3f75e2", func := "coldplug/coldpluglaw12.MatchGlobs", spec := "matchGlobs", unfollowed := true, recurses := true, plainKeys := false, apart := false }
def MatchGlobsSaid : Prop := matchGlobsRow.holds Try.pinned (OpenSpec.ofChange matchGlobsSpec)

/-- ITS FALSE NEIGHBOUR: 'it returns false'. Refute it at one input. -/
def matchGlobsWrong : ChangeSpec := { name := "matchGlobs", fn := fun _ => fun
  | [d1, d2] => { results := [.lit (.bool false)], args := [d1, d2] }
  | _ => none }
def MatchGlobsWrongFalsely : Prop := matchGlobsRow.holds Try.pinned (OpenSpec.ofChange matchGlobsWrong)

/-- 'coldpluglaw12.MatchDevices': WHATEVER THE INPUT: true; the input reads as it did. -/
def matchDevicesSpec : ChangeSpec := { name := "matchDevices", fn := fun _ => fun
  | [d1, d2, d3] => { results := [.lit (.bool true)], args := [d1, d2, d3] }
  | _ => none }
def matchDevicesRow : OpenClaim := { program := "ytgjnohkcnfdmkaa", sum := "eb66b5d6976d39fe30c4dadf9d51060d0cbeaf1b2eede081e78d95060d3f75e2", func := "coldplug/coldpluglaw12.MatchDevices", spec := "matchDevices", unfollowed := true, recurses := true, plainKeys := false, apart := false }
def MatchDevicesSaid : Prop := matchDevicesRow.holds Try.pinned (OpenSpec.ofChange matchDevicesSpec)

/-- ITS FALSE NEIGHBOUR: 'it returns false'. Refute it at one input. -/
def matchDevicesWrong : ChangeSpec := { name := "matchDevices", fn := fun _ => fun
  | [d1, d2, d3] => { results := [.lit (.bool false)], args := [d1, d2, d3] }
  | _ => none }
def MatchDevicesWrongFalsely : Prop := matchDevicesRow.holds Try.pinned (OpenSpec.ofChange matchDevicesWrong)

/-- 'coldpluglaw12.MatchTurns': WHATEVER THE INPUT: true; the input reads as it did. -/
def matchTurnsSpec : ChangeSpec := { name := "matchTurns", fn := fun _ => fun
  | [d] => { results := [.lit (.bool true)], args := [d] }
  | _ => none }
def matchTurnsRow : OpenClaim := { program := "ytgjnohkcnfdmkaa", sum := "eb66b5d6976d39fe30c4dadf9d51060d0cbeaf1b2eede081e78d95060d3f75e2", func := "coldplug/coldpluglaw12.MatchTurns", spec := "matchTurns", unfollowed := true, recurses := true, plainKeys := false, apart := false }
def MatchTurnsSaid : Prop := matchTurnsRow.holds Try.pinned (OpenSpec.ofChange matchTurnsSpec)

/-- ITS FALSE NEIGHBOUR: 'it returns false'. Refute it at one input. -/
def matchTurnsWrong : ChangeSpec := { name := "matchTurns", fn := fun _ => fun
  | [d] => { results := [.lit (.bool false)], args := [d] }
  | _ => none }
def MatchTurnsWrongFalsely : Prop := matchTurnsRow.holds Try.pinned (OpenSpec.ofChange matchTurnsWrong)

/-- 'coldpluglaw02.GlobMatches': WHATEVER THE INPUT: true; the input reads as it did. -/
def globMatchesSpec : ChangeSpec := { name := "globMatches", fn := fun _ => fun
  | [d1, d2] => { results := [.lit (.bool true)], args := [d1, d2] }
  | _ => none }
def globMatchesRow : OpenClaim := { program := "ytgjnohkcnfdmkaa", sum := "eb66b5d6976d39fe30c4dadf9d51060d0cbeaf1b2eede081e78d95060d3f75e2", func := "coldplug/coldpluglaw02.GlobMatches", spec := "globMatches", unfollowed := true, recurses := true, plainKeys := false, apart := false }
def GlobMatchesSaid : Prop := globMatchesRow.holds Try.pinned (OpenSpec.ofChange globMatchesSpec)

/-- ITS FALSE NEIGHBOUR: 'it returns false'. Refute it at one input. -/
def globMatchesWrong : ChangeSpec := { name := "globMatches", fn := fun _ => fun
  | [d1, d2] => { results := [.lit (.bool false)], args := [d1, d2] }
  | _ => none }
def GlobMatchesWrongFalsely : Prop := globMatchesRow.holds Try.pinned (OpenSpec.ofChange globMatchesWrong)

/-- 'coldpluglaw02.GlobMeets': WHATEVER THE INPUT: true; the input reads as it did. -/
def globMeetsSpec : ChangeSpec := { name := "globMeets", fn := fun _ => fun
  | [d1, d2, d3] => { results := [.lit (.bool true)], args := [d1, d2, d3] }
  | _ => none }
def globMeetsRow : OpenClaim := { program := "ytgjnohkcnfdmkaa", sum := "eb66b5d6976d39fe30c4dadf9d51060d0cbeaf1b2eede081e78d95060d3f75e2", func := "coldplug/coldpluglaw02.GlobMeets", spec := "globMeets", unfollowed := true, recurses := true, plainKeys := false, apart := false }
def GlobMeetsSaid : Prop := globMeetsRow.holds Try.pinned (OpenSpec.ofChange globMeetsSpec)

/-- ITS FALSE NEIGHBOUR: 'it returns false'. Refute it at one input. -/
def globMeetsWrong : ChangeSpec := { name := "globMeets", fn := fun _ => fun
  | [d1, d2, d3] => { results := [.lit (.bool false)], args := [d1, d2, d3] }
  | _ => none }
def GlobMeetsWrongFalsely : Prop := globMeetsRow.holds Try.pinned (OpenSpec.ofChange globMeetsWrong)

/-- 'coldpluglaw02.GlobTurns': WHATEVER THE INPUT: true; the input reads as it did. -/
def globTurnsSpec : ChangeSpec := { name := "globTurns", fn := fun _ => fun
  | [d1, d2, d3] => { results := [.lit (.bool true)], args := [d1, d2, d3] }
  | _ => none }
def globTurnsRow : OpenClaim := { program := "ytgjnohkcnfdmkaa", sum := "eb66b5d6976d39fe30c4dadf9d51060d0cbeaf1b2eede081e78d95060d3f75e2", func := "coldplug/coldpluglaw02.GlobTurns", spec := "globTurns", unfollowed := true, recurses := true, plainKeys := false, apart := false }
def GlobTurnsSaid : Prop := globTurnsRow.holds Try.pinned (OpenSpec.ofChange globTurnsSpec)

/-- ITS FALSE NEIGHBOUR: 'it returns false'. Refute it at one input. -/
def globTurnsWrong : ChangeSpec := { name := "globTurns", fn := fun _ => fun
  | [d1, d2, d3] => { results := [.lit (.bool false)], args := [d1, d2, d3] }
  | _ => none }
def GlobTurnsWrongFalsely : Prop := globTurnsRow.holds Try.pinned (OpenSpec.ofChange globTurnsWrong)

/-- 'coldpluglaw02.GlobChecks': WHATEVER THE INPUT: true; the input reads as it did. -/
def globChecksSpec : ChangeSpec := { name := "globChecks", fn := fun _ => fun
  | [d] => { results := [.lit (.bool true)], args := [d] }
  | _ => none }
def globChecksRow : OpenClaim := { program := "ytgjnohkcnfdmkaa", sum := "eb66b5d6976d39fe30c4dadf9d51060d0cbeaf1b2eede081e78d95060d3f75e2", func := "coldplug/coldpluglaw02.GlobChecks", spec := "globChecks", unfollowed := true, recurses := true, plainKeys := false, apart := false }
def GlobChecksSaid : Prop := globChecksRow.holds Try.pinned (OpenSpec.ofChange globChecksSpec)

/-- ITS FALSE NEIGHBOUR: 'it returns false'. Refute it at one input. -/
def globChecksWrong : ChangeSpec := { name := "globChecks", fn := fun _ => fun
  | [d] => { results := [.lit (.bool false)], args := [d] }
  | _ => none }
def GlobChecksWrongFalsely : Prop := globChecksRow.holds Try.pinned (OpenSpec.ofChange globChecksWrong)

/-- 'coldpluglaw02.GlobCommons': WHATEVER THE INPUT: true; the input reads as it did. -/
def globCommonsSpec : ChangeSpec := { name := "globCommons", fn := fun _ => fun
  | [d1, d2] => { results := [.lit (.bool true)], args := [d1, d2] }
  | _ => none }
def globCommonsRow : OpenClaim := { program := "ytgjnohkcnfdmkaa", sum := "eb66b5d6976d39fe30c4dadf9d51060d0cbeaf1b2eede081e78d95060d3f75e2", func := "coldplug/coldpluglaw02.GlobCommons", spec := "globCommons", unfollowed := true, recurses := true, plainKeys := false, apart := false }
def GlobCommonsSaid : Prop := globCommonsRow.holds Try.pinned (OpenSpec.ofChange globCommonsSpec)

/-- ITS FALSE NEIGHBOUR: 'it returns false'. Refute it at one input. -/
def globCommonsWrong : ChangeSpec := { name := "globCommons", fn := fun _ => fun
  | [d1, d2] => { results := [.lit (.bool false)], args := [d1, d2] }
  | _ => none }
def GlobCommonsWrongFalsely : Prop := globCommonsRow.holds Try.pinned (OpenSpec.ofChange globCommonsWrong)

/-- 'coldpluglaw02.GlobChoices': WHATEVER THE INPUT: true; the input reads as it did. -/
def globChoicesSpec : ChangeSpec := { name := "globChoices", fn := fun _ => fun
  | [d1, d2, d3] => { results := [.lit (.bool true)], args := [d1, d2, d3] }
  | _ => none }
def globChoicesRow : OpenClaim := { program := "ytgjnohkcnfdmkaa", sum := "eb66b5d6976d39fe30c4dadf9d51060d0cbeaf1b2eede081e78d95060d3f75e2", func := "coldplug/coldpluglaw02.GlobChoices", spec := "globChoices", unfollowed := true, recurses := true, plainKeys := false, apart := false }
def GlobChoicesSaid : Prop := globChoicesRow.holds Try.pinned (OpenSpec.ofChange globChoicesSpec)

/-- ITS FALSE NEIGHBOUR: 'it returns false'. Refute it at one input. -/
def globChoicesWrong : ChangeSpec := { name := "globChoices", fn := fun _ => fun
  | [d1, d2, d3] => { results := [.lit (.bool false)], args := [d1, d2, d3] }
  | _ => none }
def GlobChoicesWrongFalsely : Prop := globChoicesRow.holds Try.pinned (OpenSpec.ofChange globChoicesWrong)

/-- 'coldpluglaw02.GlobLiterals': WHATEVER THE INPUT: true; the input reads as it did. -/
def globLiteralsSpec : ChangeSpec := { name := "globLiterals", fn := fun _ => fun
  | [d] => { results := [.lit (.bool true)], args := [d] }
  | _ => none }
def globLiteralsRow : OpenClaim := { program := "ytgjnohkcnfdmkaa", sum := "eb66b5d6976d39fe30c4dadf9d51060d0cbeaf1b2eede081e78d95060d3f75e2", func := "coldplug/coldpluglaw02.GlobLiterals", spec := "globLiterals", unfollowed := true, recurses := true, plainKeys := false, apart := false }
def GlobLiteralsSaid : Prop := globLiteralsRow.holds Try.pinned (OpenSpec.ofChange globLiteralsSpec)

/-- ITS FALSE NEIGHBOUR: 'it returns false'. Refute it at one input. -/
def globLiteralsWrong : ChangeSpec := { name := "globLiterals", fn := fun _ => fun
  | [d] => { results := [.lit (.bool false)], args := [d] }
  | _ => none }
def GlobLiteralsWrongFalsely : Prop := globLiteralsRow.holds Try.pinned (OpenSpec.ofChange globLiteralsWrong)

/-- 'coldpluglaw02.GlobBegins': WHATEVER THE INPUT: true; the input reads as it did. -/
def globBeginsSpec : ChangeSpec := { name := "globBegins", fn := fun _ => fun
  | [d1, d2] => { results := [.lit (.bool true)], args := [d1, d2] }
  | _ => none }
def globBeginsRow : OpenClaim := { program := "ytgjnohkcnfdmkaa", sum := "eb66b5d6976d39fe30c4dadf9d51060d0cbeaf1b2eede081e78d95060d3f75e2", func := "coldplug/coldpluglaw02.GlobBegins", spec := "globBegins", unfollowed := true, recurses := true, plainKeys := false, apart := false }
def GlobBeginsSaid : Prop := globBeginsRow.holds Try.pinned (OpenSpec.ofChange globBeginsSpec)

/-- ITS FALSE NEIGHBOUR: 'it returns false'. Refute it at one input. -/
def globBeginsWrong : ChangeSpec := { name := "globBegins", fn := fun _ => fun
  | [d1, d2] => { results := [.lit (.bool false)], args := [d1, d2] }
  | _ => none }
def GlobBeginsWrongFalsely : Prop := globBeginsRow.holds Try.pinned (OpenSpec.ofChange globBeginsWrong)

/-- 'coldpluglaw02.GlobJoins': WHATEVER THE INPUT: true; the input reads as it did. -/
def globJoinsSpec : ChangeSpec := { name := "globJoins", fn := fun _ => fun
  | [d1, d2, d3] => { results := [.lit (.bool true)], args := [d1, d2, d3] }
  | _ => none }
def globJoinsRow : OpenClaim := { program := "ytgjnohkcnfdmkaa", sum := "eb66b5d6976d39fe30c4dadf9d51060d0cbeaf1b2eede081e78d95060d3f75e2", func := "coldplug/coldpluglaw02.GlobJoins", spec := "globJoins", inPlace := ["internal/bytealg.IndexByteString", "internal/bytealg.IndexString"], unfollowed := true, recurses := true, named := ["internal/bytealg.MaxLen"], plainKeys := false, apart := false }
def GlobJoinsSaid : Prop := globJoinsRow.holds Try.pinned (OpenSpec.ofChange globJoinsSpec)

/-- ITS FALSE NEIGHBOUR: 'it returns false'. Refute it at one input. -/
def globJoinsWrong : ChangeSpec := { name := "globJoins", fn := fun _ => fun
  | [d1, d2, d3] => { results := [.lit (.bool false)], args := [d1, d2, d3] }
  | _ => none }
def GlobJoinsWrongFalsely : Prop := globJoinsRow.holds Try.pinned (OpenSpec.ofChange globJoinsWrong)

/- THE SECOND FORM. 'bulk': how many values and letters a reading holds, each counted each time it is reached (what is shared counts as often as it is met; a slice's spare places count too). A statement '..UptoSaid' is the law's where the arguments, and the package variables that the reading takes, are together of bulk at most 1048576: NARROWER than '..Said'. Prove '..Said' where nothing that the law and all that it calls make is longer than what came in: it says more and counts as full. Else prove '..UptoSaid'. A law counts once. -/
mutual
def uptoBulk {H : Type} : DataW H → Nat
  | .lit (.string bytes) => bytes.length + 1
  | .lit _ => 1
  | .nil => 1
  | .ptr d => uptoBulk d + 1
  | .slice elems spare => uptoBulkAll elems + uptoBulkAll spare + 1
  | .agg parts => uptoBulkAll parts + 1
  | .iface _ d => uptoBulk d + 1
  | .map entries => uptoBulkEntries entries + 1
  | .held _ => 1
def uptoBulkAll {H : Type} : List (DataW H) → Nat
  | [] => 0
  | d :: r => uptoBulk d + uptoBulkAll r
def uptoBulkEntries {H : Type} : List (Lit × DataW H) → Nat
  | [] => 0
  | x :: r => uptoBulkEntry x + uptoBulkEntries r
def uptoBulkEntry {H : Type} : Lit × DataW H → Nat
  | (.string bytes, d) => bytes.length + uptoBulk d + 1
  | (_, d) => uptoBulk d + 1
 end
def uptoSmall : (H : Type) → List (DataW H) → Bool := fun _ ds => decide (uptoBulkAll ds ≤ 1048576)
def OpenSpec.upto (s : _root_.Go.ChangeSpec) : _root_.Go.OpenSpec := { _root_.Go.OpenSpec.ofChange s with cond := some uptoSmall }

/-- 'coldpluglaw12.MatchDrafts', WHERE WHAT IT READS IS OF BULK AT MOST 1048576: true; the input reads as it did. -/
def matchDraftsUptoRow : OpenClaim := { program := "ytgjnohkcnfdmkaa", sum := "eb66b5d6976d39fe30c4dadf9d51060d0cbeaf1b2eede081e78d95060d3f75e2", func := "coldplug/coldpluglaw12.MatchDrafts", spec := "matchDrafts", unfollowed := true, recurses := true, plainKeys := false, apart := false, narrowed := true }
def MatchDraftsUptoSaid : Prop := matchDraftsUptoRow.holds Try.pinned (OpenSpec.upto matchDraftsSpec)

/-- 'coldpluglaw12.MatchGlobs', WHERE WHAT IT READS IS OF BULK AT MOST 1048576: true; the input reads as it did. -/
def matchGlobsUptoRow : OpenClaim := { program := "ytgjnohkcnfdmkaa", sum := "eb66b5d6976d39fe30c4dadf9d51060d0cbeaf1b2eede081e78d95060d3f75e2", func := "coldplug/coldpluglaw12.MatchGlobs", spec := "matchGlobs", unfollowed := true, recurses := true, plainKeys := false, apart := false, narrowed := true }
def MatchGlobsUptoSaid : Prop := matchGlobsUptoRow.holds Try.pinned (OpenSpec.upto matchGlobsSpec)

/-- 'coldpluglaw12.MatchDevices', WHERE WHAT IT READS IS OF BULK AT MOST 1048576: true; the input reads as it did. -/
def matchDevicesUptoRow : OpenClaim := { program := "ytgjnohkcnfdmkaa", sum := "eb66b5d6976d39fe30c4dadf9d51060d0cbeaf1b2eede081e78d95060d3f75e2", func := "coldplug/coldpluglaw12.MatchDevices", spec := "matchDevices", unfollowed := true, recurses := true, plainKeys := false, apart := false, narrowed := true }
def MatchDevicesUptoSaid : Prop := matchDevicesUptoRow.holds Try.pinned (OpenSpec.upto matchDevicesSpec)

/-- 'coldpluglaw12.MatchTurns', WHERE WHAT IT READS IS OF BULK AT MOST 1048576: true; the input reads as it did. -/
def matchTurnsUptoRow : OpenClaim := { program := "ytgjnohkcnfdmkaa", sum := "eb66b5d6976d39fe30c4dadf9d51060d0cbeaf1b2eede081e78d95060d3f75e2", func := "coldplug/coldpluglaw12.MatchTurns", spec := "matchTurns", unfollowed := true, recurses := true, plainKeys := false, apart := false, narrowed := true }
def MatchTurnsUptoSaid : Prop := matchTurnsUptoRow.holds Try.pinned (OpenSpec.upto matchTurnsSpec)

/-- 'coldpluglaw02.GlobMatches', WHERE WHAT IT READS IS OF BULK AT MOST 1048576: true; the input reads as it did. -/
def globMatchesUptoRow : OpenClaim := { program := "ytgjnohkcnfdmkaa", sum := "eb66b5d6976d39fe30c4dadf9d51060d0cbeaf1b2eede081e78d95060d3f75e2", func := "coldplug/coldpluglaw02.GlobMatches", spec := "globMatches", unfollowed := true, recurses := true, plainKeys := false, apart := false, narrowed := true }
def GlobMatchesUptoSaid : Prop := globMatchesUptoRow.holds Try.pinned (OpenSpec.upto globMatchesSpec)

/-- 'coldpluglaw02.GlobMeets', WHERE WHAT IT READS IS OF BULK AT MOST 1048576: true; the input reads as it did. -/
def globMeetsUptoRow : OpenClaim := { program := "ytgjnohkcnfdmkaa", sum := "eb66b5d6976d39fe30c4dadf9d51060d0cbeaf1b2eede081e78d95060d3f75e2", func := "coldplug/coldpluglaw02.GlobMeets", spec := "globMeets", unfollowed := true, recurses := true, plainKeys := false, apart := false, narrowed := true }
def GlobMeetsUptoSaid : Prop := globMeetsUptoRow.holds Try.pinned (OpenSpec.upto globMeetsSpec)

/-- 'coldpluglaw02.GlobTurns', WHERE WHAT IT READS IS OF BULK AT MOST 1048576: true; the input reads as it did. -/
def globTurnsUptoRow : OpenClaim := { program := "ytgjnohkcnfdmkaa", sum := "eb66b5d6976d39fe30c4dadf9d51060d0cbeaf1b2eede081e78d95060d3f75e2", func := "coldplug/coldpluglaw02.GlobTurns", spec := "globTurns", unfollowed := true, recurses := true, plainKeys := false, apart := false, narrowed := true }
def GlobTurnsUptoSaid : Prop := globTurnsUptoRow.holds Try.pinned (OpenSpec.upto globTurnsSpec)

/-- 'coldpluglaw02.GlobChecks', WHERE WHAT IT READS IS OF BULK AT MOST 1048576: true; the input reads as it did. -/
def globChecksUptoRow : OpenClaim := { program := "ytgjnohkcnfdmkaa", sum := "eb66b5d6976d39fe30c4dadf9d51060d0cbeaf1b2eede081e78d95060d3f75e2", func := "coldplug/coldpluglaw02.GlobChecks", spec := "globChecks", unfollowed := true, recurses := true, plainKeys := false, apart := false, narrowed := true }
def GlobChecksUptoSaid : Prop := globChecksUptoRow.holds Try.pinned (OpenSpec.upto globChecksSpec)

/-- 'coldpluglaw02.GlobCommons', WHERE WHAT IT READS IS OF BULK AT MOST 1048576: true; the input reads as it did. -/
def globCommonsUptoRow : OpenClaim := { program := "ytgjnohkcnfdmkaa", sum := "eb66b5d6976d39fe30c4dadf9d51060d0cbeaf1b2eede081e78d95060d3f75e2", func := "coldplug/coldpluglaw02.GlobCommons", spec := "globCommons", unfollowed := true, recurses := true, plainKeys := false, apart := false, narrowed := true }
def GlobCommonsUptoSaid : Prop := globCommonsUptoRow.holds Try.pinned (OpenSpec.upto globCommonsSpec)

/-- 'coldpluglaw02.GlobChoices', WHERE WHAT IT READS IS OF BULK AT MOST 1048576: true; the input reads as it did. -/
def globChoicesUptoRow : OpenClaim := { program := "ytgjnohkcnfdmkaa", sum := "eb66b5d6976d39fe30c4dadf9d51060d0cbeaf1b2eede081e78d95060d3f75e2", func := "coldplug/coldpluglaw02.GlobChoices", spec := "globChoices", unfollowed := true, recurses := true, plainKeys := false, apart := false, narrowed := true }
def GlobChoicesUptoSaid : Prop := globChoicesUptoRow.holds Try.pinned (OpenSpec.upto globChoicesSpec)

/-- 'coldpluglaw02.GlobLiterals', WHERE WHAT IT READS IS OF BULK AT MOST 1048576: true; the input reads as it did. -/
def globLiteralsUptoRow : OpenClaim := { program := "ytgjnohkcnfdmkaa", sum := "eb66b5d6976d39fe30c4dadf9d51060d0cbeaf1b2eede081e78d95060d3f75e2", func := "coldplug/coldpluglaw02.GlobLiterals", spec := "globLiterals", unfollowed := true, recurses := true, plainKeys := false, apart := false, narrowed := true }
def GlobLiteralsUptoSaid : Prop := globLiteralsUptoRow.holds Try.pinned (OpenSpec.upto globLiteralsSpec)

/-- 'coldpluglaw02.GlobBegins', WHERE WHAT IT READS IS OF BULK AT MOST 1048576: true; the input reads as it did. -/
def globBeginsUptoRow : OpenClaim := { program := "ytgjnohkcnfdmkaa", sum := "eb66b5d6976d39fe30c4dadf9d51060d0cbeaf1b2eede081e78d95060d3f75e2", func := "coldplug/coldpluglaw02.GlobBegins", spec := "globBegins", unfollowed := true, recurses := true, plainKeys := false, apart := false, narrowed := true }
def GlobBeginsUptoSaid : Prop := globBeginsUptoRow.holds Try.pinned (OpenSpec.upto globBeginsSpec)

/-- 'coldpluglaw02.GlobJoins', WHERE WHAT IT READS IS OF BULK AT MOST 1048576: true; the input reads as it did. -/
def globJoinsUptoRow : OpenClaim := { program := "ytgjnohkcnfdmkaa", sum := "eb66b5d6976d39fe30c4dadf9d51060d0cbeaf1b2eede081e78d95060d3f75e2", func := "coldplug/coldpluglaw02.GlobJoins", spec := "globJoins", inPlace := ["internal/bytealg.IndexByteString", "internal/bytealg.IndexString"], unfollowed := true, recurses := true, named := ["internal/bytealg.MaxLen"], plainKeys := false, apart := false, narrowed := true }
def GlobJoinsUptoSaid : Prop := globJoinsUptoRow.holds Try.pinned (OpenSpec.upto globJoinsSpec)

end Rows
end Go.Proofs.Ytgjnohkcnfdmkaa
