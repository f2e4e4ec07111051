/-
  DERIVED. GIVEN WITH THE SEED: THE CARDS: each row of YtpkpadepccneeaaGreatDoorRows.lean that lists a variable, with what it lists TIED to the program's text (the seventh form; the later family's looks); each row that meets fmt, with fmt's text TOLD by the authors' own Lean function (tested against real Go, not proved from fmt's source: count such statements apart). THE CARD IS WHAT COUNTS. Prove the row's statement (the work); the ties are given (YtpkpadepccneeaaGreatDoorTie.lean); close each card by the builder's one call (the guide's Derived/Test/ToyasCard.lean, 'card_holds'). Laid BY PROGRAM, IN A SANDBOX (cutbox-door.mjs). By AI agents, Wed Nov 11 2026. No macro, syntax, notation, axiom, sorry.
-/
import Derived.Test.YtpkpadepccneeaaGreatDoorRows
import GoSem.ClaimSeven
namespace Go.Proofs.YtpkpadepccneeaaGreatDoor
namespace Rows

/-- THE TIED CARD OF 'epicycletop.CoreTransform'. -/
def coreTransformCard : Claim7 := { stood := { row := coreTransformRow, standIns := [], harness := (true, "dc9d0d8aad0b73cd06f421d91e108caf36b62bd579fc3950814a9a7a98504e1f"), looks := true }, kinds := [], alts := [], laidByText := true, laidKinds := [.data, .data, .data, .sentinel, .sentinel], laidTests := true, laidLooks := .later }
def CoreTransformCardSaid : Prop := Claim7.holds Tryz.pinned (.plain (OpenSpec.ofChange coreTransformSpec)) coreTransformCard

/-- THE TIED CARD OF 'epicycletop.CoreBack'. -/
def coreBackCard : Claim7 := { stood := { row := coreBackRow, standIns := [], harness := (true, "dc9d0d8aad0b73cd06f421d91e108caf36b62bd579fc3950814a9a7a98504e1f"), looks := true }, kinds := [], alts := [], laidByText := true, laidKinds := [.data, .data, .data, .sentinel, .sentinel], laidTests := true, laidLooks := .later }
def CoreBackCardSaid : Prop := Claim7.holds Tryz.pinned (.plain (OpenSpec.ofChange coreBackSpec)) coreBackCard

/-- THE TIED CARD OF 'epicycletop.CoreLinear'. -/
def coreLinearCard : Claim7 := { stood := { row := coreLinearRow, standIns := [], harness := (true, "dc9d0d8aad0b73cd06f421d91e108caf36b62bd579fc3950814a9a7a98504e1f"), looks := true }, kinds := [], alts := [], laidByText := true, laidKinds := [.data, .data, .data, .sentinel, .sentinel], laidTests := true, laidLooks := .later }
def CoreLinearCardSaid : Prop := Claim7.holds Tryz.pinned (.plain (OpenSpec.ofChange coreLinearSpec)) coreLinearCard

/-- THE TIED CARD OF 'epicycletop.CoreProved'. -/
def coreProvedCard : Claim7 := { stood := { row := coreProvedRow, standIns := [], harness := (true, "dc9d0d8aad0b73cd06f421d91e108caf36b62bd579fc3950814a9a7a98504e1f"), looks := true }, kinds := [], alts := [], laidByText := true, laidKinds := [.data, .data, .data, .sentinel, .sentinel], laidTests := true, laidLooks := .later }
def CoreProvedCardSaid : Prop := Claim7.holds Tryz.pinned (.plain (OpenSpec.ofChange coreProvedSpec)) coreProvedCard

/-- THE SECOND FORM's CARD OF 'epicycletop.CoreTransform'. -/
def coreTransformUptoCard : Claim7 := { stood := { row := coreTransformUptoRow, standIns := [], harness := (true, "dc9d0d8aad0b73cd06f421d91e108caf36b62bd579fc3950814a9a7a98504e1f"), looks := true }, kinds := [], alts := [], laidByText := true, laidKinds := [.data, .data, .data, .sentinel, .sentinel], laidTests := true, laidLooks := .later }
def CoreTransformUptoCardSaid : Prop := Claim7.holds Tryz.pinned (.plain (OpenSpec.upto coreTransformSpec)) coreTransformUptoCard

/-- THE SECOND FORM's CARD OF 'epicycletop.CoreBack'. -/
def coreBackUptoCard : Claim7 := { stood := { row := coreBackUptoRow, standIns := [], harness := (true, "dc9d0d8aad0b73cd06f421d91e108caf36b62bd579fc3950814a9a7a98504e1f"), looks := true }, kinds := [], alts := [], laidByText := true, laidKinds := [.data, .data, .data, .sentinel, .sentinel], laidTests := true, laidLooks := .later }
def CoreBackUptoCardSaid : Prop := Claim7.holds Tryz.pinned (.plain (OpenSpec.upto coreBackSpec)) coreBackUptoCard

/-- THE SECOND FORM's CARD OF 'epicycletop.CoreLinear'. -/
def coreLinearUptoCard : Claim7 := { stood := { row := coreLinearUptoRow, standIns := [], harness := (true, "dc9d0d8aad0b73cd06f421d91e108caf36b62bd579fc3950814a9a7a98504e1f"), looks := true }, kinds := [], alts := [], laidByText := true, laidKinds := [.data, .data, .data, .sentinel, .sentinel], laidTests := true, laidLooks := .later }
def CoreLinearUptoCardSaid : Prop := Claim7.holds Tryz.pinned (.plain (OpenSpec.upto coreLinearSpec)) coreLinearUptoCard

/-- THE SECOND FORM's CARD OF 'epicycletop.CoreProved'. -/
def coreProvedUptoCard : Claim7 := { stood := { row := coreProvedUptoRow, standIns := [], harness := (true, "dc9d0d8aad0b73cd06f421d91e108caf36b62bd579fc3950814a9a7a98504e1f"), looks := true }, kinds := [], alts := [], laidByText := true, laidKinds := [.data, .data, .data, .sentinel, .sentinel], laidTests := true, laidLooks := .later }
def CoreProvedUptoCardSaid : Prop := Claim7.holds Tryz.pinned (.plain (OpenSpec.upto coreProvedSpec)) coreProvedUptoCard
end Rows
end Go.Proofs.YtpkpadepccneeaaGreatDoor
