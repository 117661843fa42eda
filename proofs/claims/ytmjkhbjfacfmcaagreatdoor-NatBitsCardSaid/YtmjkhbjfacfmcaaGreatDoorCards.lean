/-
  DERIVED. GIVEN WITH THE SEED: THE CARDS: each row of YtmjkhbjfacfmcaaGreatDoorRows.lean that lists a variable, with what it lists TIED to the program's text (the seventh form; the later family's looks); each row that meets fmt, with fmt's text TOLD by the authors' own Lean function (tested against real Go, not proved from fmt's source: count such statements apart). THE CARD IS WHAT COUNTS. Prove the row's statement (the work); the ties are given (YtmjkhbjfacfmcaaGreatDoorTie.lean); close each card by the builder's one call (the guide's Derived/Test/ToyasCard.lean, 'card_holds'). Laid BY PROGRAM, IN A SANDBOX (cutbox-door.mjs). By AI agents, Wed Nov 11 2026. No macro, syntax, notation, axiom, sorry.
-/
import Derived.Test.YtmjkhbjfacfmcaaGreatDoorRows
import GoSem.ClaimSeven
namespace Go.Proofs.YtmjkhbjfacfmcaaGreatDoor
namespace Rows

/-- THE TIED CARD OF 'waypointlaw01.NatQuotients'. -/
def natQuotientsCard : Claim7 := { stood := { row := natQuotientsRow, standIns := [], harness := (true, "c8ed0a40a9ac937d4b462ec7217f08fd63386ccda36a6ab9cbeb03701c4337d2"), looks := true }, kinds := [], alts := [], laidByText := true, laidKinds := [.data, .data, .data, .data, .sentinel, .sentinel, .pinned], laidTests := true, laidLooks := .later }
def NatQuotientsCardSaid : Prop := Claim7.holds Tryz.pinned (.plain (OpenSpec.ofChange natQuotientsSpec)) natQuotientsCard

/-- THE TIED CARD OF 'waypointlaw01.NatBits'. -/
def natBitsCard : Claim7 := { stood := { row := natBitsRow, standIns := [], harness := (true, "c8ed0a40a9ac937d4b462ec7217f08fd63386ccda36a6ab9cbeb03701c4337d2"), looks := true }, kinds := [], alts := [], laidByText := true, laidKinds := [.data, .data, .data, .data, .sentinel, .sentinel, .pinned], laidTests := true, laidLooks := .later }
def NatBitsCardSaid : Prop := Claim7.holds Tryz.pinned (.plain (OpenSpec.ofChange natBitsSpec)) natBitsCard

/-- THE TIED CARD OF 'waypointlaw01.NatSums'. -/
def natSumsCard : Claim7 := { stood := { row := natSumsRow, standIns := [], harness := (true, "c8ed0a40a9ac937d4b462ec7217f08fd63386ccda36a6ab9cbeb03701c4337d2"), looks := true }, kinds := [], alts := [], laidByText := true, laidKinds := [.data, .data, .data, .data, .sentinel, .sentinel, .pinned], laidTests := true, laidLooks := .later }
def NatSumsCardSaid : Prop := Claim7.holds Tryz.pinned (.plain (OpenSpec.ofChange natSumsSpec)) natSumsCard

/-- THE SECOND FORM's CARD OF 'waypointlaw01.NatQuotients'. -/
def natQuotientsUptoCard : Claim7 := { stood := { row := natQuotientsUptoRow, standIns := [], harness := (true, "c8ed0a40a9ac937d4b462ec7217f08fd63386ccda36a6ab9cbeb03701c4337d2"), looks := true }, kinds := [], alts := [], laidByText := true, laidKinds := [.data, .data, .data, .data, .sentinel, .sentinel, .pinned], laidTests := true, laidLooks := .later }
def NatQuotientsUptoCardSaid : Prop := Claim7.holds Tryz.pinned (.plain (OpenSpec.upto natQuotientsSpec)) natQuotientsUptoCard

/-- THE SECOND FORM's CARD OF 'waypointlaw01.NatBits'. -/
def natBitsUptoCard : Claim7 := { stood := { row := natBitsUptoRow, standIns := [], harness := (true, "c8ed0a40a9ac937d4b462ec7217f08fd63386ccda36a6ab9cbeb03701c4337d2"), looks := true }, kinds := [], alts := [], laidByText := true, laidKinds := [.data, .data, .data, .data, .sentinel, .sentinel, .pinned], laidTests := true, laidLooks := .later }
def NatBitsUptoCardSaid : Prop := Claim7.holds Tryz.pinned (.plain (OpenSpec.upto natBitsSpec)) natBitsUptoCard

/-- THE SECOND FORM's CARD OF 'waypointlaw01.NatSums'. -/
def natSumsUptoCard : Claim7 := { stood := { row := natSumsUptoRow, standIns := [], harness := (true, "c8ed0a40a9ac937d4b462ec7217f08fd63386ccda36a6ab9cbeb03701c4337d2"), looks := true }, kinds := [], alts := [], laidByText := true, laidKinds := [.data, .data, .data, .data, .sentinel, .sentinel, .pinned], laidTests := true, laidLooks := .later }
def NatSumsUptoCardSaid : Prop := Claim7.holds Tryz.pinned (.plain (OpenSpec.upto natSumsSpec)) natSumsUptoCard
end Rows
end Go.Proofs.YtmjkhbjfacfmcaaGreatDoor
