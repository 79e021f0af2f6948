/-
  No cell of these rows narrows 'for every input' (looked for: loops, veiled, ifaces, maps, wideKeys, modest, calm, conditions, laid).
  DERIVED. THE GIVEN ROWS OF THIS SEAT. 5 by the template 'for every input the law returns true; each argument reads behind the call as it read before'; 0 by the template 'total and deterministic' (their statements: YtfihccfjboopiaaTotals.lean).
  GIVEN WITH THE SEED: the statements are not yours to turn. If you find one false, say at which input.
  Laid BY PROGRAM, IN A SANDBOX (cutbox-rows.mjs): the forced cells as the released guide's own fill.sh prints them over the translation 9502d0ef59c3a4f8… (all of the seat's roots in one cut). By AI agents, Wed Nov 11 2026. No macro, syntax, notation, axiom, sorry.
-/
import Derived.Test.YtfihccfjboopiaaChecked
import GoSem.Claim
import GoSem.ClaimJoined
import GoSem.ClaimMapViews
import Derived.JoinedTies
import Derived.KernelRfl
namespace Go.Proofs.Ytfihccfjboopiaa
/- THE CELL 'sum', in the pinned program and in every row, IS THE sha256 OF THE DUMP (.gsa) THAT YtfihccfjboopiaaProg.lean LOADS. Nothing in Lean hashes anything: it is a label: what it is worth is what the hold of that sum in a sandbox is worth. -/
noncomputable def Try.pinned : Pinned := { name := "ytfihccfjboopiaa", sum := "9502d0ef59c3a4f837a5969eee6944abff18d2dc0ca7aeb79a178d443622a7f4", checked := Try.checked }
namespace Rows
def none {H : Type} : Left H := { results := [], args := [] }

/-- 'coldpluglaw12.MatchDrafts': WHATEVER THE INPUT: true; the input reads as it did. -/
def matchDraftsSpec : ChangeSpec := { name := "matchDrafts", fn := fun _ => fun
  | [d1, d2, d3, d4] => { results := [.lit (.bool true)], args := [d1, d2, d3, d4] }
  | _ => none }
def matchDraftsRow : OpenClaim := { program := "ytfihccfjboopiaa", sum := "9502d0ef59c3a4f837a5969eee6944abff18d2dc0ca7aeb79a178d443622a7f4", func := "coldplug/coldpluglaw12.MatchDrafts", spec := "matchDrafts", unfollowed := true, recurses := true, plainKeys := false, apart := false }
def MatchDraftsSaid : Prop := matchDraftsRow.holds Try.pinned (OpenSpec.ofChange matchDraftsSpec)

/-- ITS FALSE NEIGHBOUR: 'it returns false'. Refute it at one input. -/
def matchDraftsWrong : ChangeSpec := { name := "matchDrafts", fn := fun _ => fun
  | [d1, d2, d3, d4] => { results := [.lit (.bool false)], args := [d1, d2, d3, d4] }
  | _ => none }
def MatchDraftsWrongFalsely : Prop := matchDraftsRow.holds Try.pinned (OpenSpec.ofChange matchDraftsWrong)

/-- 'coldpluglaw12.MatchGlobs': WHATEVER THE INPUT: true; the input reads as it did. -/
def matchGlobsSpec : ChangeSpec := { name := "matchGlobs", fn := fun _ => fun
  | [d1, d2] => { results := [.lit (.bool true)], args := [d1, d2] }
  | _ => none }
def matchGlobsRow : OpenClaim := { program := "ytfihccfjboopiaa", sum := "9502d0ef59c3a4f837a5969eee6944abff18d2dc0ca7aeb79a178d443622a7f4", func := "coldplug/coldpluglaw12.MatchGlobs", spec := "matchGlobs", unfollowed := true, recurses := true, plainKeys := false, apart := false }
def MatchGlobsSaid : Prop := matchGlobsRow.holds Try.pinned (OpenSpec.ofChange matchGlobsSpec)

/-- ITS FALSE NEIGHBOUR: 'it returns false'. Refute it at one input. -/
def matchGlobsWrong : ChangeSpec := { name := "matchGlobs", fn := fun _ => fun
  | [d1, d2] => { results := [.lit (.bool false)], args := [d1, d2] }
  | _ => none }
def MatchGlobsWrongFalsely : Prop := matchGlobsRow.holds Try.pinned (OpenSpec.ofChange matchGlobsWrong)

/-- 'coldpluglaw12.MatchDevices': WHATEVER THE INPUT: true; the input reads as it did. -/
def matchDevicesSpec : ChangeSpec := { name := "matchDevices", fn := fun _ => fun
  | [d1, d2, d3] => { results := [.lit (.bool true)], args := [d1, d2, d3] }
  | _ => none }
def matchDevicesRow : OpenClaim := { program := "ytfihccfjboopiaa", sum := "9502d0ef59c3a4f837a5969eee6944abff18d2dc0ca7aeb79a178d443622a7f4", func := "coldplug/coldpluglaw12.MatchDevices", spec := "matchDevices", unfollowed := true, recurses := true, plainKeys := false, apart := false }
def MatchDevicesSaid : Prop := matchDevicesRow.holds Try.pinned (OpenSpec.ofChange matchDevicesSpec)

/-- ITS FALSE NEIGHBOUR: 'it returns false'. Refute it at one input. -/
def matchDevicesWrong : ChangeSpec := { name := "matchDevices", fn := fun _ => fun
  | [d1, d2, d3] => { results := [.lit (.bool false)], args := [d1, d2, d3] }
  | _ => none }
def MatchDevicesWrongFalsely : Prop := matchDevicesRow.holds Try.pinned (OpenSpec.ofChange matchDevicesWrong)

/-- 'coldpluglaw12.MatchTurns': WHATEVER THE INPUT: true; the input reads as it did. -/
def matchTurnsSpec : ChangeSpec := { name := "matchTurns", fn := fun _ => fun
  | [d] => { results := [.lit (.bool true)], args := [d] }
  | _ => none }
def matchTurnsRow : OpenClaim := { program := "ytfihccfjboopiaa", sum := "9502d0ef59c3a4f837a5969eee6944abff18d2dc0ca7aeb79a178d443622a7f4", func := "coldplug/coldpluglaw12.MatchTurns", spec := "matchTurns", unfollowed := true, recurses := true, plainKeys := false, apart := false }
def MatchTurnsSaid : Prop := matchTurnsRow.holds Try.pinned (OpenSpec.ofChange matchTurnsSpec)

/-- ITS FALSE NEIGHBOUR: 'it returns false'. Refute it at one input. -/
def matchTurnsWrong : ChangeSpec := { name := "matchTurns", fn := fun _ => fun
  | [d] => { results := [.lit (.bool false)], args := [d] }
  | _ => none }
def MatchTurnsWrongFalsely : Prop := matchTurnsRow.holds Try.pinned (OpenSpec.ofChange matchTurnsWrong)

/-- 'coldpluglaw02.GlobCommons': WHATEVER THE INPUT: true; the input reads as it did. -/
def globCommonsSpec : ChangeSpec := { name := "globCommons", fn := fun _ => fun
  | [d1, d2] => { results := [.lit (.bool true)], args := [d1, d2] }
  | _ => none }
def globCommonsRow : OpenClaim := { program := "ytfihccfjboopiaa", sum := "9502d0ef59c3a4f837a5969eee6944abff18d2dc0ca7aeb79a178d443622a7f4", func := "coldplug/coldpluglaw02.GlobCommons", spec := "globCommons", unfollowed := true, recurses := true, plainKeys := false, apart := false }
def GlobCommonsSaid : Prop := globCommonsRow.holds Try.pinned (OpenSpec.ofChange globCommonsSpec)

/-- ITS FALSE NEIGHBOUR: 'it returns false'. Refute it at one input. -/
def globCommonsWrong : ChangeSpec := { name := "globCommons", fn := fun _ => fun
  | [d1, d2] => { results := [.lit (.bool false)], args := [d1, d2] }
  | _ => none }
def GlobCommonsWrongFalsely : Prop := globCommonsRow.holds Try.pinned (OpenSpec.ofChange globCommonsWrong)

/- THE SECOND FORM. 'bulk': how many values and letters a reading holds, each counted each time it is reached (what is shared counts as often as it is met; a slice's spare places count too). A statement '..UptoSaid' is the law's where the arguments, and the package variables that the reading takes, are together of bulk at most 1048576: NARROWER than '..Said'. Prove '..Said' where nothing that the law and all that it calls make is longer than what came in: it says more and counts as full. Else prove '..UptoSaid'. A law counts once. -/
mutual
def uptoBulk {H : Type} : DataW H → Nat
  | .lit (.string bytes) => bytes.length + 1
  | .lit _ => 1
  | .nil => 1
  | .ptr d => uptoBulk d + 1
  | .slice elems spare => uptoBulkAll elems + uptoBulkAll spare + 1
  | .agg parts => uptoBulkAll parts + 1
  | .iface _ d => uptoBulk d + 1
  | .map entries => uptoBulkEntries entries + 1
  | .held _ => 1
def uptoBulkAll {H : Type} : List (DataW H) → Nat
  | [] => 0
  | d :: r => uptoBulk d + uptoBulkAll r
def uptoBulkEntries {H : Type} : List (Lit × DataW H) → Nat
  | [] => 0
  | x :: r => uptoBulkEntry x + uptoBulkEntries r
def uptoBulkEntry {H : Type} : Lit × DataW H → Nat
  | (.string bytes, d) => bytes.length + uptoBulk d + 1
  | (_, d) => uptoBulk d + 1
 end
def uptoSmall : (H : Type) → List (DataW H) → Bool := fun _ ds => decide (uptoBulkAll ds ≤ 1048576)
def OpenSpec.upto (s : _root_.Go.ChangeSpec) : _root_.Go.OpenSpec := { _root_.Go.OpenSpec.ofChange s with cond := some uptoSmall }

/-- 'coldpluglaw12.MatchDrafts', WHERE WHAT IT READS IS OF BULK AT MOST 1048576: true; the input reads as it did. -/
def matchDraftsUptoRow : OpenClaim := { program := "ytfihccfjboopiaa", sum := "9502d0ef59c3a4f837a5969eee6944abff18d2dc0ca7aeb79a178d443622a7f4", func := "coldplug/coldpluglaw12.MatchDrafts", spec := "matchDrafts", unfollowed := true, recurses := true, plainKeys := false, apart := false, narrowed := true }
def MatchDraftsUptoSaid : Prop := matchDraftsUptoRow.holds Try.pinned (OpenSpec.upto matchDraftsSpec)

/-- 'coldpluglaw12.MatchGlobs', WHERE WHAT IT READS IS OF BULK AT MOST 1048576: true; the input reads as it did. -/
def matchGlobsUptoRow : OpenClaim := { program := "ytfihccfjboopiaa", sum := "9502d0ef59c3a4f837a5969eee6944abff18d2dc0ca7aeb79a178d443622a7f4", func := "coldplug/coldpluglaw12.MatchGlobs", spec := "matchGlobs", unfollowed := true, recurses := true, plainKeys := false, apart := false, narrowed := true }
def MatchGlobsUptoSaid : Prop := matchGlobsUptoRow.holds Try.pinned (OpenSpec.upto matchGlobsSpec)

/-- 'coldpluglaw12.MatchDevices', WHERE WHAT IT READS IS OF BULK AT MOST 1048576: true; the input reads as it did. -/
def matchDevicesUptoRow : OpenClaim := { program := "ytfihccfjboopiaa", sum := "9502d0ef59c3a4f837a5969eee6944abff18d2dc0ca7aeb79a178d443622a7f4", func := "coldplug/coldpluglaw12.MatchDevices", spec := "matchDevices", unfollowed := true, recurses := true, plainKeys := false, apart := false, narrowed := true }
def MatchDevicesUptoSaid : Prop := matchDevicesUptoRow.holds Try.pinned (OpenSpec.upto matchDevicesSpec)

/-- 'coldpluglaw12.MatchTurns', WHERE WHAT IT READS IS OF BULK AT MOST 1048576: true; the input reads as it did. -/
def matchTurnsUptoRow : OpenClaim := { program := "ytfihccfjboopiaa", sum := "9502d0ef59c3a4f837a5969eee6944abff18d2dc0ca7aeb79a178d443622a7f4", func := "coldplug/coldpluglaw12.MatchTurns", spec := "matchTurns", unfollowed := true, recurses := true, plainKeys := false, apart := false, narrowed := true }
def MatchTurnsUptoSaid : Prop := matchTurnsUptoRow.holds Try.pinned (OpenSpec.upto matchTurnsSpec)

/-- 'coldpluglaw02.GlobCommons', WHERE WHAT IT READS IS OF BULK AT MOST 1048576: true; the input reads as it did. -/
def globCommonsUptoRow : OpenClaim := { program := "ytfihccfjboopiaa", sum := "9502d0ef59c3a4f837a5969eee6944abff18d2dc0ca7aeb79a178d443622a7f4", func := "coldplug/coldpluglaw02.GlobCommons", spec := "globCommons", unfollowed := true, recurses := true, plainKeys := false, apart := false, narrowed := true }
def GlobCommonsUptoSaid : Prop := globCommonsUptoRow.holds Try.pinned (OpenSpec.upto globCommonsSpec)

end Rows
end Go.Proofs.Ytfihccfjboopiaa
