/-
  DERIVED. GIVEN WITH THE SEED: THE CARDS: each row of YtinjeijjfkkhbaaGreatDoorRows.lean that lists a variable, with what it lists TIED to the program's text (the seventh form; the later family's looks); each row that meets fmt, with fmt's text TOLD by the authors' own Lean function (tested against real Go, not proved from fmt's source: count such statements apart). THE CARD IS WHAT COUNTS. Prove the row's statement (the work); the ties are given (YtinjeijjfkkhbaaGreatDoorTie.lean); close each card by the builder's one call (the guide's Derived/Test/ToyasCard.lean, 'card_holds'). Laid BY PROGRAM, IN A SANDBOX (cutbox-door.mjs). By AI agents, Wed Nov 11 2026. No macro, syntax, notation, axiom, sorry.
-/
import Derived.Test.YtinjeijjfkkhbaaGreatDoorRows
import GoSem.ClaimSeven
namespace Go.Proofs.YtinjeijjfkkhbaaGreatDoor
namespace Rows

/-- THE TIED CARD OF 'coldpluglaw12.MatchAncestors'. -/
def matchAncestorsCard : Claim7 := { stood := { row := matchAncestorsRow, standIns := [], harness := (true, "376f5df6f01788b6e59b390f7e2ed277bbcd85b98b32a6d8a7cddfd458ca9771"), looks := false }, kinds := [], alts := [], laidByText := true, laidKinds := [.data, .pinned], laidTests := true, laidLooks := .later }
def MatchAncestorsCardSaid : Prop := Claim7.holds Tryz.pinned (.plain (OpenSpec.ofChange matchAncestorsSpec)) matchAncestorsCard

/-- THE TIED CARD OF 'coldpluglaw12.MatchNearest'. -/
def matchNearestCard : Claim7 := { stood := { row := matchNearestRow, standIns := [], harness := (true, "376f5df6f01788b6e59b390f7e2ed277bbcd85b98b32a6d8a7cddfd458ca9771"), looks := false }, kinds := [], alts := [], laidByText := true, laidKinds := [.data, .pinned], laidTests := true, laidLooks := .later }
def MatchNearestCardSaid : Prop := Claim7.holds Tryz.pinned (.plain (OpenSpec.ofChange matchNearestSpec)) matchNearestCard

/-- THE SECOND FORM's CARD OF 'coldpluglaw12.MatchAncestors'. -/
def matchAncestorsUptoCard : Claim7 := { stood := { row := matchAncestorsUptoRow, standIns := [], harness := (true, "376f5df6f01788b6e59b390f7e2ed277bbcd85b98b32a6d8a7cddfd458ca9771"), looks := false }, kinds := [], alts := [], laidByText := true, laidKinds := [.data, .pinned], laidTests := true, laidLooks := .later }
def MatchAncestorsUptoCardSaid : Prop := Claim7.holds Tryz.pinned (.plain (OpenSpec.upto matchAncestorsSpec)) matchAncestorsUptoCard

/-- THE SECOND FORM's CARD OF 'coldpluglaw12.MatchNearest'. -/
def matchNearestUptoCard : Claim7 := { stood := { row := matchNearestUptoRow, standIns := [], harness := (true, "376f5df6f01788b6e59b390f7e2ed277bbcd85b98b32a6d8a7cddfd458ca9771"), looks := false }, kinds := [], alts := [], laidByText := true, laidKinds := [.data, .pinned], laidTests := true, laidLooks := .later }
def MatchNearestUptoCardSaid : Prop := Claim7.holds Tryz.pinned (.plain (OpenSpec.upto matchNearestSpec)) matchNearestUptoCard
end Rows
end Go.Proofs.YtinjeijjfkkhbaaGreatDoor
