/-
  DERIVED. GIVEN WITH THE SEED: THE CARDS: each row of YtoggdigclbcndaaDoorRows.lean that lists a variable, with what it lists TIED to the program's text (the seventh form; the later family's looks); each row that meets fmt, with fmt's text TOLD by the authors' own Lean function (tested against real Go, not proved from fmt's source: count such statements apart). THE CARD IS WHAT COUNTS. Prove the row's statement (the work); the ties are given (YtoggdigclbcndaaDoorTie.lean); close each card by the builder's one call (the guide's Derived/Test/ToyasCard.lean, 'card_holds'). Laid BY PROGRAM, IN A SANDBOX (cutbox-door.mjs). By AI agents, Wed Nov 11 2026. No macro, syntax, notation, axiom, sorry.
-/
import Derived.Test.YtoggdigclbcndaaDoorRows
import GoSem.ClaimSeven
namespace Go.Proofs.YtoggdigclbcndaaDoor
namespace Rows

/-- THE TIED CARD OF 'geyserlaw15.PathRights'. -/
def pathRightsCard : Claim7 := { stood := { row := pathRightsRow, standIns := [], harness := (true, "637e2755a2dd98c98f452c94b7c8d925f9bc946da83db62fb62d3d6c363cdc9d"), looks := true }, kinds := [], alts := [], laidByText := true, laidKinds := [.data, .data, .data, .data, .sentinel, .sentinel, .pinned], laidTests := true, laidLooks := .later }
def PathRightsCardSaid : Prop := Claim7.holds Tryd.pinned (.plain (OpenSpec.ofChange pathRightsSpec)) pathRightsCard

/-- THE TIED CARD OF 'geyserlaw15.PathVolumes'. -/
def pathVolumesCard : Claim7 := { stood := { row := pathVolumesRow, standIns := [], harness := (true, "637e2755a2dd98c98f452c94b7c8d925f9bc946da83db62fb62d3d6c363cdc9d"), looks := true }, kinds := [], alts := [], laidByText := true, laidKinds := [.data, .data, .data, .data, .sentinel, .sentinel, .pinned], laidTests := true, laidLooks := .later }
def PathVolumesCardSaid : Prop := Claim7.holds Tryd.pinned (.plain (OpenSpec.ofChange pathVolumesSpec)) pathVolumesCard

/-- THE TIED CARD OF 'geyserlaw15.PathNumbers'. -/
def pathNumbersCard : Claim7 := { stood := { row := pathNumbersRow, standIns := [], harness := (true, "637e2755a2dd98c98f452c94b7c8d925f9bc946da83db62fb62d3d6c363cdc9d"), looks := true }, kinds := [], alts := [], laidByText := true, laidKinds := [.data, .data, .data, .data, .sentinel, .sentinel, .pinned], laidTests := true, laidLooks := .later }
def PathNumbersCardSaid : Prop := Claim7.holds Tryd.pinned (.plain (OpenSpec.ofChange pathNumbersSpec)) pathNumbersCard

/-- THE TIED CARD OF 'geyserlaw22.ArgsBack'. -/
def argsBackCard : Claim7 := { stood := { row := argsBackRow, standIns := [], harness := (true, "637e2755a2dd98c98f452c94b7c8d925f9bc946da83db62fb62d3d6c363cdc9d"), looks := true }, kinds := [], alts := [], laidByText := true, laidKinds := [.data, .data, .data, .data, .sentinel, .sentinel, .pinned], laidTests := true, laidLooks := .later }
def ArgsBackCardSaid : Prop := Claim7.holds Tryd.pinned (.plain (OpenSpec.ofChange argsBackSpec)) argsBackCard

/-- THE TIED CARD OF 'geyserlaw22.ArgsReads'. -/
def argsReadsCard : Claim7 := { stood := { row := argsReadsRow, standIns := [], harness := (true, "637e2755a2dd98c98f452c94b7c8d925f9bc946da83db62fb62d3d6c363cdc9d"), looks := true }, kinds := [], alts := [], laidByText := true, laidKinds := [.data, .data, .data, .data, .sentinel, .sentinel, .pinned], laidTests := true, laidLooks := .later }
def ArgsReadsCardSaid : Prop := Claim7.holds Tryd.pinned (.plain (OpenSpec.ofChange argsReadsSpec)) argsReadsCard

/-- THE SECOND FORM's CARD OF 'geyserlaw15.PathRights'. -/
def pathRightsUptoCard : Claim7 := { stood := { row := pathRightsUptoRow, standIns := [], harness := (true, "637e2755a2dd98c98f452c94b7c8d925f9bc946da83db62fb62d3d6c363cdc9d"), looks := true }, kinds := [], alts := [], laidByText := true, laidKinds := [.data, .data, .data, .data, .sentinel, .sentinel, .pinned], laidTests := true, laidLooks := .later }
def PathRightsUptoCardSaid : Prop := Claim7.holds Tryd.pinned (.plain (OpenSpec.upto pathRightsSpec)) pathRightsUptoCard

/-- THE SECOND FORM's CARD OF 'geyserlaw15.PathVolumes'. -/
def pathVolumesUptoCard : Claim7 := { stood := { row := pathVolumesUptoRow, standIns := [], harness := (true, "637e2755a2dd98c98f452c94b7c8d925f9bc946da83db62fb62d3d6c363cdc9d"), looks := true }, kinds := [], alts := [], laidByText := true, laidKinds := [.data, .data, .data, .data, .sentinel, .sentinel, .pinned], laidTests := true, laidLooks := .later }
def PathVolumesUptoCardSaid : Prop := Claim7.holds Tryd.pinned (.plain (OpenSpec.upto pathVolumesSpec)) pathVolumesUptoCard

/-- THE SECOND FORM's CARD OF 'geyserlaw15.PathNumbers'. -/
def pathNumbersUptoCard : Claim7 := { stood := { row := pathNumbersUptoRow, standIns := [], harness := (true, "637e2755a2dd98c98f452c94b7c8d925f9bc946da83db62fb62d3d6c363cdc9d"), looks := true }, kinds := [], alts := [], laidByText := true, laidKinds := [.data, .data, .data, .data, .sentinel, .sentinel, .pinned], laidTests := true, laidLooks := .later }
def PathNumbersUptoCardSaid : Prop := Claim7.holds Tryd.pinned (.plain (OpenSpec.upto pathNumbersSpec)) pathNumbersUptoCard

/-- THE SECOND FORM's CARD OF 'geyserlaw22.ArgsBack'. -/
def argsBackUptoCard : Claim7 := { stood := { row := argsBackUptoRow, standIns := [], harness := (true, "637e2755a2dd98c98f452c94b7c8d925f9bc946da83db62fb62d3d6c363cdc9d"), looks := true }, kinds := [], alts := [], laidByText := true, laidKinds := [.data, .data, .data, .data, .sentinel, .sentinel, .pinned], laidTests := true, laidLooks := .later }
def ArgsBackUptoCardSaid : Prop := Claim7.holds Tryd.pinned (.plain (OpenSpec.upto argsBackSpec)) argsBackUptoCard

/-- THE SECOND FORM's CARD OF 'geyserlaw22.ArgsReads'. -/
def argsReadsUptoCard : Claim7 := { stood := { row := argsReadsUptoRow, standIns := [], harness := (true, "637e2755a2dd98c98f452c94b7c8d925f9bc946da83db62fb62d3d6c363cdc9d"), looks := true }, kinds := [], alts := [], laidByText := true, laidKinds := [.data, .data, .data, .data, .sentinel, .sentinel, .pinned], laidTests := true, laidLooks := .later }
def ArgsReadsUptoCardSaid : Prop := Claim7.holds Tryd.pinned (.plain (OpenSpec.upto argsReadsSpec)) argsReadsUptoCard
end Rows
end Go.Proofs.YtoggdigclbcndaaDoor
