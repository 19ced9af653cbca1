/-
  DERIVED. GIVEN WITH THE SEED: THE CARDS: each row of YtlainoonnnimiaaGreatDoorRows.lean that lists a variable, with what it lists TIED to the program's text (the seventh form; the later family's looks); each row that meets fmt, with fmt's text TOLD by the authors' own Lean function (tested against real Go, not proved from fmt's source: count such statements apart). THE CARD IS WHAT COUNTS. Prove the row's statement (the work); the ties are given (YtlainoonnnimiaaGreatDoorTie.lean); close each card by the builder's one call (the guide's Derived/Test/ToyasCard.lean, 'card_holds'). Laid BY PROGRAM, IN A SANDBOX (cutbox-door.mjs). By AI agents, Wed Nov 11 2026. No macro, syntax, notation, axiom, sorry.
-/
import Derived.Test.YtlainoonnnimiaaGreatDoorRows
import GoSem.ClaimSeven
namespace Go.Proofs.YtlainoonnnimiaaGreatDoor
namespace Rows

/-- THE TIED CARD OF 'interleaflaw20.SweepNeeds'. -/
def sweepNeedsCard : Claim7 := { stood := { row := sweepNeedsRow, standIns := [], harness := (true, "0edc0327ff7efc3c617baf693cc6078bc68f7f79913d20e4949a13d3b1f960df"), looks := false }, kinds := [], alts := [], laidByText := true, laidKinds := [.data, .data, .data], laidTests := true, laidLooks := .later }
def SweepNeedsCardSaid : Prop := Claim7.holds Tryz.pinned (.plain (OpenSpec.ofChange sweepNeedsSpec)) sweepNeedsCard

/-- THE TIED CARD OF 'interleaflaw20.SweepNil'. -/
def sweepNilCard : Claim7 := { stood := { row := sweepNilRow, standIns := [], harness := (true, "0edc0327ff7efc3c617baf693cc6078bc68f7f79913d20e4949a13d3b1f960df"), looks := false }, kinds := [], alts := [], laidByText := true, laidKinds := [.data, .data, .data], laidTests := true, laidLooks := .later }
def SweepNilCardSaid : Prop := Claim7.holds Tryz.pinned (.plain (OpenSpec.ofChange sweepNilSpec)) sweepNilCard

/-- THE SECOND FORM's CARD OF 'interleaflaw20.SweepNeeds'. -/
def sweepNeedsUptoCard : Claim7 := { stood := { row := sweepNeedsUptoRow, standIns := [], harness := (true, "0edc0327ff7efc3c617baf693cc6078bc68f7f79913d20e4949a13d3b1f960df"), looks := false }, kinds := [], alts := [], laidByText := true, laidKinds := [.data, .data, .data], laidTests := true, laidLooks := .later }
def SweepNeedsUptoCardSaid : Prop := Claim7.holds Tryz.pinned (.plain (OpenSpec.upto sweepNeedsSpec)) sweepNeedsUptoCard

/-- THE SECOND FORM's CARD OF 'interleaflaw20.SweepNil'. -/
def sweepNilUptoCard : Claim7 := { stood := { row := sweepNilUptoRow, standIns := [], harness := (true, "0edc0327ff7efc3c617baf693cc6078bc68f7f79913d20e4949a13d3b1f960df"), looks := false }, kinds := [], alts := [], laidByText := true, laidKinds := [.data, .data, .data], laidTests := true, laidLooks := .later }
def SweepNilUptoCardSaid : Prop := Claim7.holds Tryz.pinned (.plain (OpenSpec.upto sweepNilSpec)) sweepNilUptoCard
end Rows
end Go.Proofs.YtlainoonnnimiaaGreatDoor
