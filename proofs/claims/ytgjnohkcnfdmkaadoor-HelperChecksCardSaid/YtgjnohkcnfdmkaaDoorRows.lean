/-
  NARROWER THAN 'FOR EVERY INPUT', by the rows' own cells (each row's printed sentence says how): HelperCalls: laid · HelperBounds: laid · HelperFirst: laid · HelperJoins: laid · HelperItems: laid · HelperChecks: laid.
  DERIVED. THE GIVEN ROWS OF THIS SEAT. 6 by the template 'for every input the law returns true; each argument reads behind the call as it read before'; 0 by the template 'total and deterministic' (their statements: YtgjnohkcnfdmkaaDoorTotals.lean).
  GIVEN WITH THE SEED: the statements are not yours to turn. If you find one false, say at which input.
  Laid BY PROGRAM, IN A SANDBOX (cutbox-rows.mjs): the forced cells as the released guide's own fill.sh prints them over the translation afbed4f2b5e2e41a… (all of the seat's roots in one cut). By AI agents, Wed Nov 11 2026. No macro, syntax, notation, axiom, sorry.
-/
import Derived.Test.YtgjnohkcnfdmkaaDoorChecked
import GoSem.PinnedTables
import GoSem.Claim
import GoSem.ClaimJoined
import GoSem.ClaimMapViews
import Derived.JoinedTies
import Derived.KernelRfl
namespace Go.Proofs.YtgjnohkcnfdmkaaDoor
/- THE CELL 'sum', in the pinned program and in every row, IS THE sha256 OF THE DUMP (.gsa) THAT YtgjnohkcnfdmkaaDoorProg.lean LOADS. Nothing in Lean hashes anything: it is a label: what it is worth is what the hold of that sum in a sandbox is worth. -/
noncomputable def Tryd.pinned : Pinned := { name := "ytgjnohkcnfdmkaadoor", sum := "afbed4f2b5e2e41a6a458edf6da40e5fd3e95b2fc386ceebae06aa1a1ef951bc", checked := Tryd.checked }
namespace Rows
def none {H : Type} : Left H := { results := [], args := [] }

/- WHAT THE LISTED PACKAGE-LEVEL VARIABLES READ AS WHEN THE CALL BEGINS. Each datum BY PROGRAM (the guide's laid-datum.mjs) off the statement by which the dump's own 'gosem.cut.vars' lays the variable. In a bare row this is a premise. The card (YtgjnohkcnfdmkaaDoorCards.lean) ties it to the program's text. -/
def laid_unicode_utf8_acceptRanges {H : Type} : DataW H := .agg [.agg [.lit (.int .u8 128), .lit (.int .u8 191)], .agg [.lit (.int .u8 160), .lit (.int .u8 191)], .agg [.lit (.int .u8 128), .lit (.int .u8 159)], .agg [.lit (.int .u8 144), .lit (.int .u8 191)], .agg [.lit (.int .u8 128), .lit (.int .u8 143)], .agg [.lit (.int .u8 0), .lit (.int .u8 0)], .agg [.lit (.int .u8 0), .lit (.int .u8 0)], .agg [.lit (.int .u8 0), .lit (.int .u8 0)], .agg [.lit (.int .u8 0), .lit (.int .u8 0)], .agg [.lit (.int .u8 0), .lit (.int .u8 0)], .agg [.lit (.int .u8 0), .lit (.int .u8 0)], .agg [.lit (.int .u8 0), .lit (.int .u8 0)], .agg [.lit (.int .u8 0), .lit (.int .u8 0)], .agg [.lit (.int .u8 0), .lit (.int .u8 0)], .agg [.lit (.int .u8 0), .lit (.int .u8 0)], .agg [.lit (.int .u8 0), .lit (.int .u8 0)]]
/-- One of Go's own tables, pinned by name: the form's constant. -/
def laid_unicode_utf8_first : DataW Unit := Go.Pinned.utf8First

/-- 'coldpluglaw14.HelperCalls': WHATEVER THE INPUT: true; the input reads as it did. -/
def helperCallsSpec : ChangeSpec := { name := "helperCalls", fn := fun _ => fun
  | [d1, d2, d3] => { results := [.lit (.bool true)], args := [d1, d2, d3] }
  | _ => none }
def helperCallsRow : OpenClaim := { program := "ytgjnohkcnfdmkaadoor", sum := "afbed4f2b5e2e41a6a458edf6da40e5fd3e95b2fc386ceebae06aa1a1ef951bc", func := "coldplug/coldpluglaw14.HelperCalls", spec := "helperCalls", inPlace := ["internal/bytealg.CountString", "internal/bytealg.IndexByteString", "internal/bytealg.IndexString"], unfollowed := true, recurses := true, named := ["unicode/utf8.first", "unicode/utf8.acceptRanges", "internal/bytealg.MaxLen"], apart := false, laid := [("unicode/utf8.acceptRanges", laid_unicode_utf8_acceptRanges), ("unicode/utf8.first", laid_unicode_utf8_first)] }
def HelperCallsSaid : Prop := helperCallsRow.holds Tryd.pinned (OpenSpec.ofChange helperCallsSpec)

/-- ITS FALSE NEIGHBOUR: 'it returns false'. Refute it at one input. -/
def helperCallsWrong : ChangeSpec := { name := "helperCalls", fn := fun _ => fun
  | [d1, d2, d3] => { results := [.lit (.bool false)], args := [d1, d2, d3] }
  | _ => none }
def HelperCallsWrongFalsely : Prop := helperCallsRow.holds Tryd.pinned (OpenSpec.ofChange helperCallsWrong)

/-- 'coldpluglaw14.HelperBounds': WHATEVER THE INPUT: true; the input reads as it did. -/
def helperBoundsSpec : ChangeSpec := { name := "helperBounds", fn := fun _ => fun
  | [d1, d2] => { results := [.lit (.bool true)], args := [d1, d2] }
  | _ => none }
def helperBoundsRow : OpenClaim := { program := "ytgjnohkcnfdmkaadoor", sum := "afbed4f2b5e2e41a6a458edf6da40e5fd3e95b2fc386ceebae06aa1a1ef951bc", func := "coldplug/coldpluglaw14.HelperBounds", spec := "helperBounds", inPlace := ["internal/bytealg.CountString", "internal/bytealg.IndexByteString", "internal/bytealg.IndexString"], unfollowed := true, recurses := true, named := ["unicode/utf8.first", "unicode/utf8.acceptRanges", "internal/bytealg.MaxLen"], apart := false, laid := [("unicode/utf8.acceptRanges", laid_unicode_utf8_acceptRanges), ("unicode/utf8.first", laid_unicode_utf8_first)] }
def HelperBoundsSaid : Prop := helperBoundsRow.holds Tryd.pinned (OpenSpec.ofChange helperBoundsSpec)

/-- ITS FALSE NEIGHBOUR: 'it returns false'. Refute it at one input. -/
def helperBoundsWrong : ChangeSpec := { name := "helperBounds", fn := fun _ => fun
  | [d1, d2] => { results := [.lit (.bool false)], args := [d1, d2] }
  | _ => none }
def HelperBoundsWrongFalsely : Prop := helperBoundsRow.holds Tryd.pinned (OpenSpec.ofChange helperBoundsWrong)

/-- 'coldpluglaw14.HelperFirst': WHATEVER THE INPUT: true; the input reads as it did. -/
def helperFirstSpec : ChangeSpec := { name := "helperFirst", fn := fun _ => fun
  | [d] => { results := [.lit (.bool true)], args := [d] }
  | _ => none }
def helperFirstRow : OpenClaim := { program := "ytgjnohkcnfdmkaadoor", sum := "afbed4f2b5e2e41a6a458edf6da40e5fd3e95b2fc386ceebae06aa1a1ef951bc", func := "coldplug/coldpluglaw14.HelperFirst", spec := "helperFirst", inPlace := ["internal/bytealg.CountString", "internal/bytealg.IndexByteString", "internal/bytealg.IndexString"], unfollowed := true, recurses := true, named := ["unicode/utf8.first", "unicode/utf8.acceptRanges", "internal/bytealg.MaxLen"], apart := false, laid := [("unicode/utf8.acceptRanges", laid_unicode_utf8_acceptRanges), ("unicode/utf8.first", laid_unicode_utf8_first)] }
def HelperFirstSaid : Prop := helperFirstRow.holds Tryd.pinned (OpenSpec.ofChange helperFirstSpec)

/-- ITS FALSE NEIGHBOUR: 'it returns false'. Refute it at one input. -/
def helperFirstWrong : ChangeSpec := { name := "helperFirst", fn := fun _ => fun
  | [d] => { results := [.lit (.bool false)], args := [d] }
  | _ => none }
def HelperFirstWrongFalsely : Prop := helperFirstRow.holds Tryd.pinned (OpenSpec.ofChange helperFirstWrong)

/-- 'coldpluglaw14.HelperJoins': WHATEVER THE INPUT: true; the input reads as it did. -/
def helperJoinsSpec : ChangeSpec := { name := "helperJoins", fn := fun _ => fun
  | [d1, d2] => { results := [.lit (.bool true)], args := [d1, d2] }
  | _ => none }
def helperJoinsRow : OpenClaim := { program := "ytgjnohkcnfdmkaadoor", sum := "afbed4f2b5e2e41a6a458edf6da40e5fd3e95b2fc386ceebae06aa1a1ef951bc", func := "coldplug/coldpluglaw14.HelperJoins", spec := "helperJoins", inPlace := ["internal/bytealg.CountString", "internal/bytealg.IndexByteString", "internal/bytealg.IndexString"], unfollowed := true, recurses := true, named := ["unicode/utf8.first", "unicode/utf8.acceptRanges", "internal/bytealg.MaxLen"], apart := false, laid := [("unicode/utf8.acceptRanges", laid_unicode_utf8_acceptRanges), ("unicode/utf8.first", laid_unicode_utf8_first)] }
def HelperJoinsSaid : Prop := helperJoinsRow.holds Tryd.pinned (OpenSpec.ofChange helperJoinsSpec)

/-- ITS FALSE NEIGHBOUR: 'it returns false'. Refute it at one input. -/
def helperJoinsWrong : ChangeSpec := { name := "helperJoins", fn := fun _ => fun
  | [d1, d2] => { results := [.lit (.bool false)], args := [d1, d2] }
  | _ => none }
def HelperJoinsWrongFalsely : Prop := helperJoinsRow.holds Tryd.pinned (OpenSpec.ofChange helperJoinsWrong)

/-- 'coldpluglaw14.HelperItems': WHATEVER THE INPUT: true; the input reads as it did. -/
def helperItemsSpec : ChangeSpec := { name := "helperItems", fn := fun _ => fun
  | [d] => { results := [.lit (.bool true)], args := [d] }
  | _ => none }
def helperItemsRow : OpenClaim := { program := "ytgjnohkcnfdmkaadoor", sum := "afbed4f2b5e2e41a6a458edf6da40e5fd3e95b2fc386ceebae06aa1a1ef951bc", func := "coldplug/coldpluglaw14.HelperItems", spec := "helperItems", inPlace := ["internal/bytealg.CountString", "internal/bytealg.IndexByteString", "internal/bytealg.IndexString"], unfollowed := true, recurses := true, named := ["unicode/utf8.first", "unicode/utf8.acceptRanges", "internal/bytealg.MaxLen"], apart := false, laid := [("unicode/utf8.acceptRanges", laid_unicode_utf8_acceptRanges), ("unicode/utf8.first", laid_unicode_utf8_first)] }
def HelperItemsSaid : Prop := helperItemsRow.holds Tryd.pinned (OpenSpec.ofChange helperItemsSpec)

/-- ITS FALSE NEIGHBOUR: 'it returns false'. Refute it at one input. -/
def helperItemsWrong : ChangeSpec := { name := "helperItems", fn := fun _ => fun
  | [d] => { results := [.lit (.bool false)], args := [d] }
  | _ => none }
def HelperItemsWrongFalsely : Prop := helperItemsRow.holds Tryd.pinned (OpenSpec.ofChange helperItemsWrong)

/-- 'coldpluglaw14.HelperChecks': WHATEVER THE INPUT: true; the input reads as it did. -/
def helperChecksSpec : ChangeSpec := { name := "helperChecks", fn := fun _ => fun
  | [d1, d2, d3] => { results := [.lit (.bool true)], args := [d1, d2, d3] }
  | _ => none }
def helperChecksRow : OpenClaim := { program := "ytgjnohkcnfdmkaadoor", sum := "afbed4f2b5e2e41a6a458edf6da40e5fd3e95b2fc386ceebae06aa1a1ef951bc", func := "coldplug/coldpluglaw14.HelperChecks", spec := "helperChecks", inPlace := ["internal/bytealg.CountString", "internal/bytealg.IndexByteString", "internal/bytealg.IndexString"], unfollowed := true, recurses := true, named := ["unicode/utf8.first", "unicode/utf8.acceptRanges", "internal/bytealg.MaxLen"], apart := false, laid := [("unicode/utf8.acceptRanges", laid_unicode_utf8_acceptRanges), ("unicode/utf8.first", laid_unicode_utf8_first)] }
def HelperChecksSaid : Prop := helperChecksRow.holds Tryd.pinned (OpenSpec.ofChange helperChecksSpec)

/-- ITS FALSE NEIGHBOUR: 'it returns false'. Refute it at one input. -/
def helperChecksWrong : ChangeSpec := { name := "helperChecks", fn := fun _ => fun
  | [d1, d2, d3] => { results := [.lit (.bool false)], args := [d1, d2, d3] }
  | _ => none }
def HelperChecksWrongFalsely : Prop := helperChecksRow.holds Tryd.pinned (OpenSpec.ofChange helperChecksWrong)

/- THE SECOND FORM. 'bulk': how many values and letters a reading holds, each counted each time it is reached (what is shared counts as often as it is met; a slice's spare places count too). A statement '..UptoSaid' is the law's where the arguments, and the package variables that the reading takes, are together of bulk at most 1048576: NARROWER than '..Said'. Prove '..Said' where nothing that the law and all that it calls make is longer than what came in: it says more and counts as full. Else prove '..UptoSaid'. A law counts once. -/
mutual
def uptoBulk {H : Type} : DataW H → Nat
  | .lit (.string bytes) => bytes.length + 1
  | .lit _ => 1
  | .nil => 1
  | .ptr d => uptoBulk d + 1
  | .slice elems spare => uptoBulkAll elems + uptoBulkAll spare + 1
  | .agg parts => uptoBulkAll parts + 1
  | .iface _ d => uptoBulk d + 1
  | .map entries => uptoBulkEntries entries + 1
  | .held _ => 1
def uptoBulkAll {H : Type} : List (DataW H) → Nat
  | [] => 0
  | d :: r => uptoBulk d + uptoBulkAll r
def uptoBulkEntries {H : Type} : List (Lit × DataW H) → Nat
  | [] => 0
  | x :: r => uptoBulkEntry x + uptoBulkEntries r
def uptoBulkEntry {H : Type} : Lit × DataW H → Nat
  | (.string bytes, d) => bytes.length + uptoBulk d + 1
  | (_, d) => uptoBulk d + 1
 end
def uptoSmall : (H : Type) → List (DataW H) → Bool := fun _ ds => decide (uptoBulkAll ds ≤ 1048576)
def OpenSpec.upto (s : _root_.Go.ChangeSpec) : _root_.Go.OpenSpec := { _root_.Go.OpenSpec.ofChange s with cond := some uptoSmall }

/-- 'coldpluglaw14.HelperCalls', WHERE WHAT IT READS IS OF BULK AT MOST 1048576: true; the input reads as it did. -/
def helperCallsUptoRow : OpenClaim := { program := "ytgjnohkcnfdmkaadoor", sum := "afbed4f2b5e2e41a6a458edf6da40e5fd3e95b2fc386ceebae06aa1a1ef951bc", func := "coldplug/coldpluglaw14.HelperCalls", spec := "helperCalls", inPlace := ["internal/bytealg.CountString", "internal/bytealg.IndexByteString", "internal/bytealg.IndexString"], unfollowed := true, recurses := true, named := ["unicode/utf8.first", "unicode/utf8.acceptRanges", "internal/bytealg.MaxLen"], apart := false, laid := [("unicode/utf8.acceptRanges", laid_unicode_utf8_acceptRanges), ("unicode/utf8.first", laid_unicode_utf8_first)], narrowed := true }
def HelperCallsUptoSaid : Prop := helperCallsUptoRow.holds Tryd.pinned (OpenSpec.upto helperCallsSpec)

/-- 'coldpluglaw14.HelperBounds', WHERE WHAT IT READS IS OF BULK AT MOST 1048576: true; the input reads as it did. -/
def helperBoundsUptoRow : OpenClaim := { program := "ytgjnohkcnfdmkaadoor", sum := "afbed4f2b5e2e41a6a458edf6da40e5fd3e95b2fc386ceebae06aa1a1ef951bc", func := "coldplug/coldpluglaw14.HelperBounds", spec := "helperBounds", inPlace := ["internal/bytealg.CountString", "internal/bytealg.IndexByteString", "internal/bytealg.IndexString"], unfollowed := true, recurses := true, named := ["unicode/utf8.first", "unicode/utf8.acceptRanges", "internal/bytealg.MaxLen"], apart := false, laid := [("unicode/utf8.acceptRanges", laid_unicode_utf8_acceptRanges), ("unicode/utf8.first", laid_unicode_utf8_first)], narrowed := true }
def HelperBoundsUptoSaid : Prop := helperBoundsUptoRow.holds Tryd.pinned (OpenSpec.upto helperBoundsSpec)

/-- 'coldpluglaw14.HelperFirst', WHERE WHAT IT READS IS OF BULK AT MOST 1048576: true; the input reads as it did. -/
def helperFirstUptoRow : OpenClaim := { program := "ytgjnohkcnfdmkaadoor", sum := "afbed4f2b5e2e41a6a458edf6da40e5fd3e95b2fc386ceebae06aa1a1ef951bc", func := "coldplug/coldpluglaw14.HelperFirst", spec := "helperFirst", inPlace := ["internal/bytealg.CountString", "internal/bytealg.IndexByteString", "internal/bytealg.IndexString"], unfollowed := true, recurses := true, named := ["unicode/utf8.first", "unicode/utf8.acceptRanges", "internal/bytealg.MaxLen"], apart := false, laid := [("unicode/utf8.acceptRanges", laid_unicode_utf8_acceptRanges), ("unicode/utf8.first", laid_unicode_utf8_first)], narrowed := true }
def HelperFirstUptoSaid : Prop := helperFirstUptoRow.holds Tryd.pinned (OpenSpec.upto helperFirstSpec)

/-- 'coldpluglaw14.HelperJoins', WHERE WHAT IT READS IS OF BULK AT MOST 1048576: true; the input reads as it did. -/
def helperJoinsUptoRow : OpenClaim := { program := "ytgjnohkcnfdmkaadoor", sum := "afbed4f2b5e2e41a6a458edf6da40e5fd3e95b2fc386ceebae06aa1a1ef951bc", func := "coldplug/coldpluglaw14.HelperJoins", spec := "helperJoins", inPlace := ["internal/bytealg.CountString", "internal/bytealg.IndexByteString", "internal/bytealg.IndexString"], unfollowed := true, recurses := true, named := ["unicode/utf8.first", "unicode/utf8.acceptRanges", "internal/bytealg.MaxLen"], apart := false, laid := [("unicode/utf8.acceptRanges", laid_unicode_utf8_acceptRanges), ("unicode/utf8.first", laid_unicode_utf8_first)], narrowed := true }
def HelperJoinsUptoSaid : Prop := helperJoinsUptoRow.holds Tryd.pinned (OpenSpec.upto helperJoinsSpec)

/-- 'coldpluglaw14.HelperItems', WHERE WHAT IT READS IS OF BULK AT MOST 1048576: true; the input reads as it did. -/
def helperItemsUptoRow : OpenClaim := { program := "ytgjnohkcnfdmkaadoor", sum := "afbed4f2b5e2e41a6a458edf6da40e5fd3e95b2fc386ceebae06aa1a1ef951bc", func := "coldplug/coldpluglaw14.HelperItems", spec := "helperItems", inPlace := ["internal/bytealg.CountString", "internal/bytealg.IndexByteString", "internal/bytealg.IndexString"], unfollowed := true, recurses := true, named := ["unicode/utf8.first", "unicode/utf8.acceptRanges", "internal/bytealg.MaxLen"], apart := false, laid := [("unicode/utf8.acceptRanges", laid_unicode_utf8_acceptRanges), ("unicode/utf8.first", laid_unicode_utf8_first)], narrowed := true }
def HelperItemsUptoSaid : Prop := helperItemsUptoRow.holds Tryd.pinned (OpenSpec.upto helperItemsSpec)

/-- 'coldpluglaw14.HelperChecks', WHERE WHAT IT READS IS OF BULK AT MOST 1048576: true; the input reads as it did. -/
def helperChecksUptoRow : OpenClaim := { program := "ytgjnohkcnfdmkaadoor", sum := "afbed4f2b5e2e41a6a458edf6da40e5fd3e95b2fc386ceebae06aa1a1ef951bc", func := "coldplug/coldpluglaw14.HelperChecks", spec := "helperChecks", inPlace := ["internal/bytealg.CountString", "internal/bytealg.IndexByteString", "internal/bytealg.IndexString"], unfollowed := true, recurses := true, named := ["unicode/utf8.first", "unicode/utf8.acceptRanges", "internal/bytealg.MaxLen"], apart := false, laid := [("unicode/utf8.acceptRanges", laid_unicode_utf8_acceptRanges), ("unicode/utf8.first", laid_unicode_utf8_first)], narrowed := true }
def HelperChecksUptoSaid : Prop := helperChecksUptoRow.holds Tryd.pinned (OpenSpec.upto helperChecksSpec)

end Rows
end Go.Proofs.YtgjnohkcnfdmkaaDoor
