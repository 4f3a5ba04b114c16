/-
  DERIVED. GIVEN WITH THE SEED: THE CARDS: each row of YtdmhjnnogcpccaaGreatDoorRows.lean that lists a variable, with what it lists TIED to the program's text (the seventh form; the later family's looks); each row that meets fmt, with fmt's text TOLD by the authors' own Lean function (tested against real Go, not proved from fmt's source: count such statements apart). THE CARD IS WHAT COUNTS. Prove the row's statement (the work); the ties are given (YtdmhjnnogcpccaaGreatDoorTie.lean); close each card by the builder's one call (the guide's Derived/Test/ToyasCard.lean, 'card_holds'). Laid BY PROGRAM, IN A SANDBOX (cutbox-door.mjs). By AI agents, Wed Nov 11 2026. No macro, syntax, notation, axiom, sorry.
-/
import Derived.Test.YtdmhjnnogcpccaaGreatDoorRows
import GoSem.ClaimSeven
namespace Go.Proofs.YtdmhjnnogcpccaaGreatDoor
namespace Rows

/-- THE TIED CARD OF 'muntinlaw07.NullableTells'. -/
def nullableTellsCard : Claim7 := { stood := { row := nullableTellsRow, standIns := [], harness := (true, "8c3e9e85a6d3b626d674bf2fb2bf037d043514611debfeceb16f8f3ba9aa6ec8"), looks := true }, kinds := [], alts := [], laidByText := true, laidKinds := [.handle], laidTests := true, laidLooks := .later }
def NullableTellsCardSaid : Prop := Claim7.holds Tryz.pinned (.plain (OpenSpec.ofChange nullableTellsSpec)) nullableTellsCard

/-- THE TIED CARD OF 'muntinlaw06.ScopeClosed'. -/
def scopeClosedCard : Claim7 := { stood := { row := scopeClosedRow, standIns := [], harness := (true, "8c3e9e85a6d3b626d674bf2fb2bf037d043514611debfeceb16f8f3ba9aa6ec8"), looks := true }, kinds := [], alts := [], laidByText := true, laidKinds := [.handle], laidTests := true, laidLooks := .later }
def ScopeClosedCardSaid : Prop := Claim7.holds Tryz.pinned (.plain (OpenSpec.ofChange scopeClosedSpec)) scopeClosedCard

/-- THE TIED CARD OF 'muntinlaw06.ScopeMore'. -/
def scopeMoreCard : Claim7 := { stood := { row := scopeMoreRow, standIns := [], harness := (true, "8c3e9e85a6d3b626d674bf2fb2bf037d043514611debfeceb16f8f3ba9aa6ec8"), looks := true }, kinds := [], alts := [], laidByText := true, laidKinds := [.handle], laidTests := true, laidLooks := .later }
def ScopeMoreCardSaid : Prop := Claim7.holds Tryz.pinned (.plain (OpenSpec.ofChange scopeMoreSpec)) scopeMoreCard

/-- THE TIED CARD OF 'muntinlaw06.ScopeTells'. -/
def scopeTellsCard : Claim7 := { stood := { row := scopeTellsRow, standIns := [], harness := (true, "8c3e9e85a6d3b626d674bf2fb2bf037d043514611debfeceb16f8f3ba9aa6ec8"), looks := true }, kinds := [], alts := [], laidByText := true, laidKinds := [.handle], laidTests := true, laidLooks := .later }
def ScopeTellsCardSaid : Prop := Claim7.holds Tryz.pinned (.plain (OpenSpec.ofChange scopeTellsSpec)) scopeTellsCard

/-- THE SECOND FORM's CARD OF 'muntinlaw07.NullableTells'. -/
def nullableTellsUptoCard : Claim7 := { stood := { row := nullableTellsUptoRow, standIns := [], harness := (true, "8c3e9e85a6d3b626d674bf2fb2bf037d043514611debfeceb16f8f3ba9aa6ec8"), looks := true }, kinds := [], alts := [], laidByText := true, laidKinds := [.handle], laidTests := true, laidLooks := .later }
def NullableTellsUptoCardSaid : Prop := Claim7.holds Tryz.pinned (.plain (OpenSpec.upto nullableTellsSpec)) nullableTellsUptoCard

/-- THE SECOND FORM's CARD OF 'muntinlaw06.ScopeClosed'. -/
def scopeClosedUptoCard : Claim7 := { stood := { row := scopeClosedUptoRow, standIns := [], harness := (true, "8c3e9e85a6d3b626d674bf2fb2bf037d043514611debfeceb16f8f3ba9aa6ec8"), looks := true }, kinds := [], alts := [], laidByText := true, laidKinds := [.handle], laidTests := true, laidLooks := .later }
def ScopeClosedUptoCardSaid : Prop := Claim7.holds Tryz.pinned (.plain (OpenSpec.upto scopeClosedSpec)) scopeClosedUptoCard

/-- THE SECOND FORM's CARD OF 'muntinlaw06.ScopeMore'. -/
def scopeMoreUptoCard : Claim7 := { stood := { row := scopeMoreUptoRow, standIns := [], harness := (true, "8c3e9e85a6d3b626d674bf2fb2bf037d043514611debfeceb16f8f3ba9aa6ec8"), looks := true }, kinds := [], alts := [], laidByText := true, laidKinds := [.handle], laidTests := true, laidLooks := .later }
def ScopeMoreUptoCardSaid : Prop := Claim7.holds Tryz.pinned (.plain (OpenSpec.upto scopeMoreSpec)) scopeMoreUptoCard

/-- THE SECOND FORM's CARD OF 'muntinlaw06.ScopeTells'. -/
def scopeTellsUptoCard : Claim7 := { stood := { row := scopeTellsUptoRow, standIns := [], harness := (true, "8c3e9e85a6d3b626d674bf2fb2bf037d043514611debfeceb16f8f3ba9aa6ec8"), looks := true }, kinds := [], alts := [], laidByText := true, laidKinds := [.handle], laidTests := true, laidLooks := .later }
def ScopeTellsUptoCardSaid : Prop := Claim7.holds Tryz.pinned (.plain (OpenSpec.upto scopeTellsSpec)) scopeTellsUptoCard
end Rows
end Go.Proofs.YtdmhjnnogcpccaaGreatDoor
