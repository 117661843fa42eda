/-
  DERIVED. GIVEN WITH THE SEED: THE CARDS: each row of YtmjkhbjfacfmcaaDoorRows.lean that lists a variable, with what it lists TIED to the program's text (the seventh form; the later family's looks); each row that meets fmt, with fmt's text TOLD by the authors' own Lean function (tested against real Go, not proved from fmt's source: count such statements apart). THE CARD IS WHAT COUNTS. Prove the row's statement (the work); the ties are given (YtmjkhbjfacfmcaaDoorTie.lean); close each card by the builder's one call (the guide's Derived/Test/ToyasCard.lean, 'card_holds'). Laid BY PROGRAM, IN A SANDBOX (cutbox-door.mjs). By AI agents, Wed Nov 11 2026. No macro, syntax, notation, axiom, sorry.
-/
import Derived.Test.YtmjkhbjfacfmcaaDoorRows
import GoSem.ClaimSeven
namespace Go.Proofs.YtmjkhbjfacfmcaaDoor
namespace Rows

/-- THE TIED CARD OF 'waypointlaw01.NatText'. -/
def natTextCard : Claim7 := { stood := { row := natTextRow, standIns := [], harness := (true, "d80604c6f030096ab0067542bb08f640330e50e5eb6f569d0610ce7d8b63ce77"), looks := true }, kinds := [], alts := [], laidByText := true, laidKinds := [.data, .data, .data, .data, .sentinel, .sentinel, .pinned], laidTests := true, laidLooks := .later }
def NatTextCardSaid : Prop := Claim7.holds Tryd.pinned (.plain (OpenSpec.ofChange natTextSpec)) natTextCard

/-- THE TIED CARD OF 'waypointlaw01.NatParse'. -/
def natParseCard : Claim7 := { stood := { row := natParseRow, standIns := [], harness := (true, "d80604c6f030096ab0067542bb08f640330e50e5eb6f569d0610ce7d8b63ce77"), looks := true }, kinds := [], alts := [], laidByText := true, laidKinds := [.data, .data, .data, .data, .sentinel, .sentinel, .pinned], laidTests := true, laidLooks := .later }
def NatParseCardSaid : Prop := Claim7.holds Tryd.pinned (.plain (OpenSpec.ofChange natParseSpec)) natParseCard

/-- THE TIED CARD OF 'waypointlaw01.NatProducts'. -/
def natProductsCard : Claim7 := { stood := { row := natProductsRow, standIns := [], harness := (true, "d80604c6f030096ab0067542bb08f640330e50e5eb6f569d0610ce7d8b63ce77"), looks := true }, kinds := [], alts := [], laidByText := true, laidKinds := [.data, .data, .data, .data, .sentinel, .sentinel, .pinned], laidTests := true, laidLooks := .later }
def NatProductsCardSaid : Prop := Claim7.holds Tryd.pinned (.plain (OpenSpec.ofChange natProductsSpec)) natProductsCard

/-- THE TIED CARD OF 'waypointlaw01.NatDivides'. -/
def natDividesCard : Claim7 := { stood := { row := natDividesRow, standIns := [], harness := (true, "d80604c6f030096ab0067542bb08f640330e50e5eb6f569d0610ce7d8b63ce77"), looks := true }, kinds := [], alts := [], laidByText := true, laidKinds := [.data, .data, .data, .data, .sentinel, .sentinel, .pinned], laidTests := true, laidLooks := .later }
def NatDividesCardSaid : Prop := Claim7.holds Tryd.pinned (.plain (OpenSpec.ofChange natDividesSpec)) natDividesCard

/-- THE TIED CARD OF 'waypointlaw01.NatAlgebra'. -/
def natAlgebraCard : Claim7 := { stood := { row := natAlgebraRow, standIns := [], harness := (true, "d80604c6f030096ab0067542bb08f640330e50e5eb6f569d0610ce7d8b63ce77"), looks := true }, kinds := [], alts := [], laidByText := true, laidKinds := [.data, .data, .data, .data, .sentinel, .sentinel, .pinned], laidTests := true, laidLooks := .later }
def NatAlgebraCardSaid : Prop := Claim7.holds Tryd.pinned (.plain (OpenSpec.ofChange natAlgebraSpec)) natAlgebraCard

/-- THE SECOND FORM's CARD OF 'waypointlaw01.NatText'. -/
def natTextUptoCard : Claim7 := { stood := { row := natTextUptoRow, standIns := [], harness := (true, "d80604c6f030096ab0067542bb08f640330e50e5eb6f569d0610ce7d8b63ce77"), looks := true }, kinds := [], alts := [], laidByText := true, laidKinds := [.data, .data, .data, .data, .sentinel, .sentinel, .pinned], laidTests := true, laidLooks := .later }
def NatTextUptoCardSaid : Prop := Claim7.holds Tryd.pinned (.plain (OpenSpec.upto natTextSpec)) natTextUptoCard

/-- THE SECOND FORM's CARD OF 'waypointlaw01.NatParse'. -/
def natParseUptoCard : Claim7 := { stood := { row := natParseUptoRow, standIns := [], harness := (true, "d80604c6f030096ab0067542bb08f640330e50e5eb6f569d0610ce7d8b63ce77"), looks := true }, kinds := [], alts := [], laidByText := true, laidKinds := [.data, .data, .data, .data, .sentinel, .sentinel, .pinned], laidTests := true, laidLooks := .later }
def NatParseUptoCardSaid : Prop := Claim7.holds Tryd.pinned (.plain (OpenSpec.upto natParseSpec)) natParseUptoCard

/-- THE SECOND FORM's CARD OF 'waypointlaw01.NatProducts'. -/
def natProductsUptoCard : Claim7 := { stood := { row := natProductsUptoRow, standIns := [], harness := (true, "d80604c6f030096ab0067542bb08f640330e50e5eb6f569d0610ce7d8b63ce77"), looks := true }, kinds := [], alts := [], laidByText := true, laidKinds := [.data, .data, .data, .data, .sentinel, .sentinel, .pinned], laidTests := true, laidLooks := .later }
def NatProductsUptoCardSaid : Prop := Claim7.holds Tryd.pinned (.plain (OpenSpec.upto natProductsSpec)) natProductsUptoCard

/-- THE SECOND FORM's CARD OF 'waypointlaw01.NatDivides'. -/
def natDividesUptoCard : Claim7 := { stood := { row := natDividesUptoRow, standIns := [], harness := (true, "d80604c6f030096ab0067542bb08f640330e50e5eb6f569d0610ce7d8b63ce77"), looks := true }, kinds := [], alts := [], laidByText := true, laidKinds := [.data, .data, .data, .data, .sentinel, .sentinel, .pinned], laidTests := true, laidLooks := .later }
def NatDividesUptoCardSaid : Prop := Claim7.holds Tryd.pinned (.plain (OpenSpec.upto natDividesSpec)) natDividesUptoCard

/-- THE SECOND FORM's CARD OF 'waypointlaw01.NatAlgebra'. -/
def natAlgebraUptoCard : Claim7 := { stood := { row := natAlgebraUptoRow, standIns := [], harness := (true, "d80604c6f030096ab0067542bb08f640330e50e5eb6f569d0610ce7d8b63ce77"), looks := true }, kinds := [], alts := [], laidByText := true, laidKinds := [.data, .data, .data, .data, .sentinel, .sentinel, .pinned], laidTests := true, laidLooks := .later }
def NatAlgebraUptoCardSaid : Prop := Claim7.holds Tryd.pinned (.plain (OpenSpec.upto natAlgebraSpec)) natAlgebraUptoCard
end Rows
end Go.Proofs.YtmjkhbjfacfmcaaDoor
