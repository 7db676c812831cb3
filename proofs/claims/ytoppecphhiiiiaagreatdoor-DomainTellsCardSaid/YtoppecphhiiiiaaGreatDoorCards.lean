/-
  DERIVED. GIVEN WITH THE SEED: THE CARDS: each row of YtoppecphhiiiiaaGreatDoorRows.lean that lists a variable, with what it lists TIED to the program's text (the seventh form; the later family's looks); each row that meets fmt, with fmt's text TOLD by the authors' own Lean function (tested against real Go, not proved from fmt's source: count such statements apart). THE CARD IS WHAT COUNTS. Prove the row's statement (the work); the ties are given (YtoppecphhiiiiaaGreatDoorTie.lean); close each card by the builder's one call (the guide's Derived/Test/ToyasCard.lean, 'card_holds'). Laid BY PROGRAM, IN A SANDBOX (cutbox-door.mjs). By AI agents, Wed Nov 11 2026. No macro, syntax, notation, axiom, sorry.
-/
import Derived.Test.YtoppecphhiiiiaaGreatDoorRows
import GoSem.ClaimSeven
namespace Go.Proofs.YtoppecphhiiiiaaGreatDoor
namespace Rows

/-- THE TIED CARD OF 'pillarboxlaw09.DomainTells'. -/
def domainTellsCard : Claim7 := { stood := { row := domainTellsRow, standIns := [], harness := (true, "9744ce27baa59ab5d59a7c7dae986cb0656e25dc327b37642f574dc978870205"), looks := false }, kinds := [], alts := [], laidByText := true, laidKinds := [.data, .pinned], laidTests := true, laidLooks := .later }
def DomainTellsCardSaid : Prop := Claim7.holds Tryz.pinned (.plain (OpenSpec.ofChange domainTellsSpec)) domainTellsCard

/-- THE TIED CARD OF 'pillarboxlaw09.DomainBack'. -/
def domainBackCard : Claim7 := { stood := { row := domainBackRow, standIns := [], harness := (true, "9744ce27baa59ab5d59a7c7dae986cb0656e25dc327b37642f574dc978870205"), looks := false }, kinds := [], alts := [], laidByText := true, laidKinds := [.data, .pinned], laidTests := true, laidLooks := .later }
def DomainBackCardSaid : Prop := Claim7.holds Tryz.pinned (.plain (OpenSpec.ofChange domainBackSpec)) domainBackCard

/-- THE TIED CARD OF 'pillarboxlaw09.DomainParts'. -/
def domainPartsCard : Claim7 := { stood := { row := domainPartsRow, standIns := [], harness := (true, "9744ce27baa59ab5d59a7c7dae986cb0656e25dc327b37642f574dc978870205"), looks := false }, kinds := [], alts := [], laidByText := true, laidKinds := [.data, .pinned], laidTests := true, laidLooks := .later }
def DomainPartsCardSaid : Prop := Claim7.holds Tryz.pinned (.plain (OpenSpec.ofChange domainPartsSpec)) domainPartsCard

/-- THE TIED CARD OF 'pillarboxlaw09.DomainOne'. -/
def domainOneCard : Claim7 := { stood := { row := domainOneRow, standIns := [], harness := (true, "9744ce27baa59ab5d59a7c7dae986cb0656e25dc327b37642f574dc978870205"), looks := false }, kinds := [], alts := [], laidByText := true, laidKinds := [.data, .pinned], laidTests := true, laidLooks := .later }
def DomainOneCardSaid : Prop := Claim7.holds Tryz.pinned (.plain (OpenSpec.ofChange domainOneSpec)) domainOneCard

/-- THE TIED CARD OF 'pillarboxlaw09.DomainTree'. -/
def domainTreeCard : Claim7 := { stood := { row := domainTreeRow, standIns := [], harness := (true, "9744ce27baa59ab5d59a7c7dae986cb0656e25dc327b37642f574dc978870205"), looks := false }, kinds := [], alts := [], laidByText := true, laidKinds := [.data, .pinned], laidTests := true, laidLooks := .later }
def DomainTreeCardSaid : Prop := Claim7.holds Tryz.pinned (.plain (OpenSpec.ofChange domainTreeSpec)) domainTreeCard

/-- THE SECOND FORM's CARD OF 'pillarboxlaw09.DomainTells'. -/
def domainTellsUptoCard : Claim7 := { stood := { row := domainTellsUptoRow, standIns := [], harness := (true, "9744ce27baa59ab5d59a7c7dae986cb0656e25dc327b37642f574dc978870205"), looks := false }, kinds := [], alts := [], laidByText := true, laidKinds := [.data, .pinned], laidTests := true, laidLooks := .later }
def DomainTellsUptoCardSaid : Prop := Claim7.holds Tryz.pinned (.plain (OpenSpec.upto domainTellsSpec)) domainTellsUptoCard

/-- THE SECOND FORM's CARD OF 'pillarboxlaw09.DomainBack'. -/
def domainBackUptoCard : Claim7 := { stood := { row := domainBackUptoRow, standIns := [], harness := (true, "9744ce27baa59ab5d59a7c7dae986cb0656e25dc327b37642f574dc978870205"), looks := false }, kinds := [], alts := [], laidByText := true, laidKinds := [.data, .pinned], laidTests := true, laidLooks := .later }
def DomainBackUptoCardSaid : Prop := Claim7.holds Tryz.pinned (.plain (OpenSpec.upto domainBackSpec)) domainBackUptoCard

/-- THE SECOND FORM's CARD OF 'pillarboxlaw09.DomainParts'. -/
def domainPartsUptoCard : Claim7 := { stood := { row := domainPartsUptoRow, standIns := [], harness := (true, "9744ce27baa59ab5d59a7c7dae986cb0656e25dc327b37642f574dc978870205"), looks := false }, kinds := [], alts := [], laidByText := true, laidKinds := [.data, .pinned], laidTests := true, laidLooks := .later }
def DomainPartsUptoCardSaid : Prop := Claim7.holds Tryz.pinned (.plain (OpenSpec.upto domainPartsSpec)) domainPartsUptoCard

/-- THE SECOND FORM's CARD OF 'pillarboxlaw09.DomainOne'. -/
def domainOneUptoCard : Claim7 := { stood := { row := domainOneUptoRow, standIns := [], harness := (true, "9744ce27baa59ab5d59a7c7dae986cb0656e25dc327b37642f574dc978870205"), looks := false }, kinds := [], alts := [], laidByText := true, laidKinds := [.data, .pinned], laidTests := true, laidLooks := .later }
def DomainOneUptoCardSaid : Prop := Claim7.holds Tryz.pinned (.plain (OpenSpec.upto domainOneSpec)) domainOneUptoCard

/-- THE SECOND FORM's CARD OF 'pillarboxlaw09.DomainTree'. -/
def domainTreeUptoCard : Claim7 := { stood := { row := domainTreeUptoRow, standIns := [], harness := (true, "9744ce27baa59ab5d59a7c7dae986cb0656e25dc327b37642f574dc978870205"), looks := false }, kinds := [], alts := [], laidByText := true, laidKinds := [.data, .pinned], laidTests := true, laidLooks := .later }
def DomainTreeUptoCardSaid : Prop := Claim7.holds Tryz.pinned (.plain (OpenSpec.upto domainTreeSpec)) domainTreeUptoCard
end Rows
end Go.Proofs.YtoppecphhiiiiaaGreatDoor
