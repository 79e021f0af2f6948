/-
  DERIVED. GIVEN WITH THE SEED: THE CARDS: each row of YtgjnohkcnfdmkaaDoorRows.lean that lists a variable, with what it lists TIED to the program's text (the seventh form; the later family's looks); each row that meets fmt, with fmt's text TOLD by the authors' own Lean function (tested against real Go, not proved from fmt's source: count such statements apart). THE CARD IS WHAT COUNTS. Prove the row's statement (the work); the ties are given (YtgjnohkcnfdmkaaDoorTie.lean); close each card by the builder's one call (the guide's Derived/Test/ToyasCard.lean, 'card_holds'). Laid BY PROGRAM, IN A SANDBOX (cutbox-door.mjs). By AI agents, Wed Nov 11 2026. No macro, syntax, notation, axiom, sorry.
-/
import Derived.Test.YtgjnohkcnfdmkaaDoorRows
import GoSem.ClaimSeven
namespace Go.Proofs.YtgjnohkcnfdmkaaDoor
namespace Rows

/-- THE TIED CARD OF 'coldpluglaw14.HelperCalls'. -/
def helperCallsCard : Claim7 := { stood := { row := helperCallsRow, standIns := [], harness := (true, "976c7b5ca0a6e0b7ae283dd8bbc166f4b8d42aca6b552a348e227aea158a716c"), looks := false }, kinds := [], alts := [], laidByText := true, laidKinds := [.data, .pinned], laidTests := true, laidLooks := .later }
def HelperCallsCardSaid : Prop := Claim7.holds Tryd.pinned (.plain (OpenSpec.ofChange helperCallsSpec)) helperCallsCard

/-- THE TIED CARD OF 'coldpluglaw14.HelperBounds'. -/
def helperBoundsCard : Claim7 := { stood := { row := helperBoundsRow, standIns := [], harness := (true, "976c7b5ca0a6e0b7ae283dd8bbc166f4b8d42aca6b552a348e227aea158a716c"), looks := false }, kinds := [], alts := [], laidByText := true, laidKinds := [.data, .pinned], laidTests := true, laidLooks := .later }
def HelperBoundsCardSaid : Prop := Claim7.holds Tryd.pinned (.plain (OpenSpec.ofChange helperBoundsSpec)) helperBoundsCard

/-- THE TIED CARD OF 'coldpluglaw14.HelperFirst'. -/
def helperFirstCard : Claim7 := { stood := { row := helperFirstRow, standIns := [], harness := (true, "976c7b5ca0a6e0b7ae283dd8bbc166f4b8d42aca6b552a348e227aea158a716c"), looks := false }, kinds := [], alts := [], laidByText := true, laidKinds := [.data, .pinned], laidTests := true, laidLooks := .later }
def HelperFirstCardSaid : Prop := Claim7.holds Tryd.pinned (.plain (OpenSpec.ofChange helperFirstSpec)) helperFirstCard

/-- THE TIED CARD OF 'coldpluglaw14.HelperJoins'. -/
def helperJoinsCard : Claim7 := { stood := { row := helperJoinsRow, standIns := [], harness := (true, "976c7b5ca0a6e0b7ae283dd8bbc166f4b8d42aca6b552a348e227aea158a716c"), looks := false }, kinds := [], alts := [], laidByText := true, laidKinds := [.data, .pinned], laidTests := true, laidLooks := .later }
def HelperJoinsCardSaid : Prop := Claim7.holds Tryd.pinned (.plain (OpenSpec.ofChange helperJoinsSpec)) helperJoinsCard

/-- THE TIED CARD OF 'coldpluglaw14.HelperItems'. -/
def helperItemsCard : Claim7 := { stood := { row := helperItemsRow, standIns := [], harness := (true, "976c7b5ca0a6e0b7ae283dd8bbc166f4b8d42aca6b552a348e227aea158a716c"), looks := false }, kinds := [], alts := [], laidByText := true, laidKinds := [.data, .pinned], laidTests := true, laidLooks := .later }
def HelperItemsCardSaid : Prop := Claim7.holds Tryd.pinned (.plain (OpenSpec.ofChange helperItemsSpec)) helperItemsCard

/-- THE TIED CARD OF 'coldpluglaw14.HelperChecks'. -/
def helperChecksCard : Claim7 := { stood := { row := helperChecksRow, standIns := [], harness := (true, "976c7b5ca0a6e0b7ae283dd8bbc166f4b8d42aca6b552a348e227aea158a716c"), looks := false }, kinds := [], alts := [], laidByText := true, laidKinds := [.data, .pinned], laidTests := true, laidLooks := .later }
def HelperChecksCardSaid : Prop := Claim7.holds Tryd.pinned (.plain (OpenSpec.ofChange helperChecksSpec)) helperChecksCard

/-- THE SECOND FORM's CARD OF 'coldpluglaw14.HelperCalls'. -/
def helperCallsUptoCard : Claim7 := { stood := { row := helperCallsUptoRow, standIns := [], harness := (true, "976c7b5ca0a6e0b7ae283dd8bbc166f4b8d42aca6b552a348e227aea158a716c"), looks := false }, kinds := [], alts := [], laidByText := true, laidKinds := [.data, .pinned], laidTests := true, laidLooks := .later }
def HelperCallsUptoCardSaid : Prop := Claim7.holds Tryd.pinned (.plain (OpenSpec.upto helperCallsSpec)) helperCallsUptoCard

/-- THE SECOND FORM's CARD OF 'coldpluglaw14.HelperBounds'. -/
def helperBoundsUptoCard : Claim7 := { stood := { row := helperBoundsUptoRow, standIns := [], harness := (true, "976c7b5ca0a6e0b7ae283dd8bbc166f4b8d42aca6b552a348e227aea158a716c"), looks := false }, kinds := [], alts := [], laidByText := true, laidKinds := [.data, .pinned], laidTests := true, laidLooks := .later }
def HelperBoundsUptoCardSaid : Prop := Claim7.holds Tryd.pinned (.plain (OpenSpec.upto helperBoundsSpec)) helperBoundsUptoCard

/-- THE SECOND FORM's CARD OF 'coldpluglaw14.HelperFirst'. -/
def helperFirstUptoCard : Claim7 := { stood := { row := helperFirstUptoRow, standIns := [], harness := (true, "976c7b5ca0a6e0b7ae283dd8bbc166f4b8d42aca6b552a348e227aea158a716c"), looks := false }, kinds := [], alts := [], laidByText := true, laidKinds := [.data, .pinned], laidTests := true, laidLooks := .later }
def HelperFirstUptoCardSaid : Prop := Claim7.holds Tryd.pinned (.plain (OpenSpec.upto helperFirstSpec)) helperFirstUptoCard

/-- THE SECOND FORM's CARD OF 'coldpluglaw14.HelperJoins'. -/
def helperJoinsUptoCard : Claim7 := { stood := { row := helperJoinsUptoRow, standIns := [], harness := (true, "976c7b5ca0a6e0b7ae283dd8bbc166f4b8d42aca6b552a348e227aea158a716c"), looks := false }, kinds := [], alts := [], laidByText := true, laidKinds := [.data, .pinned], laidTests := true, laidLooks := .later }
def HelperJoinsUptoCardSaid : Prop := Claim7.holds Tryd.pinned (.plain (OpenSpec.upto helperJoinsSpec)) helperJoinsUptoCard

/-- THE SECOND FORM's CARD OF 'coldpluglaw14.HelperItems'. -/
def helperItemsUptoCard : Claim7 := { stood := { row := helperItemsUptoRow, standIns := [], harness := (true, "976c7b5ca0a6e0b7ae283dd8bbc166f4b8d42aca6b552a348e227aea158a716c"), looks := false }, kinds := [], alts := [], laidByText := true, laidKinds := [.data, .pinned], laidTests := true, laidLooks := .later }
def HelperItemsUptoCardSaid : Prop := Claim7.holds Tryd.pinned (.plain (OpenSpec.upto helperItemsSpec)) helperItemsUptoCard

/-- THE SECOND FORM's CARD OF 'coldpluglaw14.HelperChecks'. -/
def helperChecksUptoCard : Claim7 := { stood := { row := helperChecksUptoRow, standIns := [], harness := (true, "976c7b5ca0a6e0b7ae283dd8bbc166f4b8d42aca6b552a348e227aea158a716c"), looks := false }, kinds := [], alts := [], laidByText := true, laidKinds := [.data, .pinned], laidTests := true, laidLooks := .later }
def HelperChecksUptoCardSaid : Prop := Claim7.holds Tryd.pinned (.plain (OpenSpec.upto helperChecksSpec)) helperChecksUptoCard
end Rows
end Go.Proofs.YtgjnohkcnfdmkaaDoor
