/-
  DERIVED. GIVEN WITH THE SEED: THE CARDS: each row of YtmeebjjdceokeaaDoorRows.lean that lists a variable, with what it lists TIED to the program's text (the seventh form; the later family's looks); each row that meets fmt, with fmt's text TOLD by the authors' own Lean function (tested against real Go, not proved from fmt's source: count such statements apart). THE CARD IS WHAT COUNTS. Prove the row's statement (the work); the ties are given (YtmeebjjdceokeaaDoorTie.lean); close each card by the builder's one call (the guide's Derived/Test/ToyasCard.lean, 'card_holds'). Laid BY PROGRAM, IN A SANDBOX (cutbox-door.mjs). By AI agents, Wed Nov 11 2026. No macro, syntax, notation, axiom, sorry.
-/
import Derived.Test.YtmeebjjdceokeaaDoorRows
import GoSem.ClaimSeven
namespace Go.Proofs.YtmeebjjdceokeaaDoor
namespace Rows

/-- THE TIED CARD OF 'roundelaylaw03.ValueSizes'. -/
def valueSizesCard : Claim7 := { stood := { row := valueSizesRow, standIns := [], harness := (true, "dc6b641adf9653cad7a4c2870902929faf7b0f88a383a742dafb8a38fa7acc68"), looks := false }, kinds := [], alts := [], laidByText := true, laidKinds := [.data, .data, .data, .pinned], laidTests := true, laidLooks := .later }
def ValueSizesCardSaid : Prop := Claim7.holds Tryd.pinned (.plain (OpenSpec.ofChange valueSizesSpec)) valueSizesCard

/-- THE TIED CARD OF 'roundelaylaw03.ValueCmp'. -/
def valueCmpCard : Claim7 := { stood := { row := valueCmpRow, standIns := [], harness := (true, "dc6b641adf9653cad7a4c2870902929faf7b0f88a383a742dafb8a38fa7acc68"), looks := false }, kinds := [], alts := [], laidByText := true, laidKinds := [.data, .data, .data, .pinned], laidTests := true, laidLooks := .later }
def ValueCmpCardSaid : Prop := Claim7.holds Tryd.pinned (.plain (OpenSpec.ofChange valueCmpSpec)) valueCmpCard

/-- THE TIED CARD OF 'roundelaylaw03.ValueOrder'. -/
def valueOrderCard : Claim7 := { stood := { row := valueOrderRow, standIns := [], harness := (true, "dc6b641adf9653cad7a4c2870902929faf7b0f88a383a742dafb8a38fa7acc68"), looks := false }, kinds := [], alts := [], laidByText := true, laidKinds := [.data, .data, .data, .pinned], laidTests := true, laidLooks := .later }
def ValueOrderCardSaid : Prop := Claim7.holds Tryd.pinned (.plain (OpenSpec.ofChange valueOrderSpec)) valueOrderCard

/-- THE TIED CARD OF 'roundelaylaw03.ValueSet'. -/
def valueSetCard : Claim7 := { stood := { row := valueSetRow, standIns := [], harness := (true, "dc6b641adf9653cad7a4c2870902929faf7b0f88a383a742dafb8a38fa7acc68"), looks := false }, kinds := [], alts := [], laidByText := true, laidKinds := [.data, .data, .data, .pinned], laidTests := true, laidLooks := .later }
def ValueSetCardSaid : Prop := Claim7.holds Tryd.pinned (.plain (OpenSpec.ofChange valueSetSpec)) valueSetCard

/-- THE TIED CARD OF 'roundelaylaw03.ValueDel'. -/
def valueDelCard : Claim7 := { stood := { row := valueDelRow, standIns := [], harness := (true, "dc6b641adf9653cad7a4c2870902929faf7b0f88a383a742dafb8a38fa7acc68"), looks := false }, kinds := [], alts := [], laidByText := true, laidKinds := [.data, .data, .data, .pinned], laidTests := true, laidLooks := .later }
def ValueDelCardSaid : Prop := Claim7.holds Tryd.pinned (.plain (OpenSpec.ofChange valueDelSpec)) valueDelCard

/-- THE TIED CARD OF 'roundelaylaw03.ValueOther'. -/
def valueOtherCard : Claim7 := { stood := { row := valueOtherRow, standIns := [], harness := (true, "dc6b641adf9653cad7a4c2870902929faf7b0f88a383a742dafb8a38fa7acc68"), looks := false }, kinds := [], alts := [], laidByText := true, laidKinds := [.data, .data, .data, .pinned], laidTests := true, laidLooks := .later }
def ValueOtherCardSaid : Prop := Claim7.holds Tryd.pinned (.plain (OpenSpec.ofChange valueOtherSpec)) valueOtherCard

/-- THE SECOND FORM's CARD OF 'roundelaylaw03.ValueSizes'. -/
def valueSizesUptoCard : Claim7 := { stood := { row := valueSizesUptoRow, standIns := [], harness := (true, "dc6b641adf9653cad7a4c2870902929faf7b0f88a383a742dafb8a38fa7acc68"), looks := false }, kinds := [], alts := [], laidByText := true, laidKinds := [.data, .data, .data, .pinned], laidTests := true, laidLooks := .later }
def ValueSizesUptoCardSaid : Prop := Claim7.holds Tryd.pinned (.plain (OpenSpec.upto valueSizesSpec)) valueSizesUptoCard

/-- THE SECOND FORM's CARD OF 'roundelaylaw03.ValueCmp'. -/
def valueCmpUptoCard : Claim7 := { stood := { row := valueCmpUptoRow, standIns := [], harness := (true, "dc6b641adf9653cad7a4c2870902929faf7b0f88a383a742dafb8a38fa7acc68"), looks := false }, kinds := [], alts := [], laidByText := true, laidKinds := [.data, .data, .data, .pinned], laidTests := true, laidLooks := .later }
def ValueCmpUptoCardSaid : Prop := Claim7.holds Tryd.pinned (.plain (OpenSpec.upto valueCmpSpec)) valueCmpUptoCard

/-- THE SECOND FORM's CARD OF 'roundelaylaw03.ValueOrder'. -/
def valueOrderUptoCard : Claim7 := { stood := { row := valueOrderUptoRow, standIns := [], harness := (true, "dc6b641adf9653cad7a4c2870902929faf7b0f88a383a742dafb8a38fa7acc68"), looks := false }, kinds := [], alts := [], laidByText := true, laidKinds := [.data, .data, .data, .pinned], laidTests := true, laidLooks := .later }
def ValueOrderUptoCardSaid : Prop := Claim7.holds Tryd.pinned (.plain (OpenSpec.upto valueOrderSpec)) valueOrderUptoCard

/-- THE SECOND FORM's CARD OF 'roundelaylaw03.ValueSet'. -/
def valueSetUptoCard : Claim7 := { stood := { row := valueSetUptoRow, standIns := [], harness := (true, "dc6b641adf9653cad7a4c2870902929faf7b0f88a383a742dafb8a38fa7acc68"), looks := false }, kinds := [], alts := [], laidByText := true, laidKinds := [.data, .data, .data, .pinned], laidTests := true, laidLooks := .later }
def ValueSetUptoCardSaid : Prop := Claim7.holds Tryd.pinned (.plain (OpenSpec.upto valueSetSpec)) valueSetUptoCard

/-- THE SECOND FORM's CARD OF 'roundelaylaw03.ValueDel'. -/
def valueDelUptoCard : Claim7 := { stood := { row := valueDelUptoRow, standIns := [], harness := (true, "dc6b641adf9653cad7a4c2870902929faf7b0f88a383a742dafb8a38fa7acc68"), looks := false }, kinds := [], alts := [], laidByText := true, laidKinds := [.data, .data, .data, .pinned], laidTests := true, laidLooks := .later }
def ValueDelUptoCardSaid : Prop := Claim7.holds Tryd.pinned (.plain (OpenSpec.upto valueDelSpec)) valueDelUptoCard

/-- THE SECOND FORM's CARD OF 'roundelaylaw03.ValueOther'. -/
def valueOtherUptoCard : Claim7 := { stood := { row := valueOtherUptoRow, standIns := [], harness := (true, "dc6b641adf9653cad7a4c2870902929faf7b0f88a383a742dafb8a38fa7acc68"), looks := false }, kinds := [], alts := [], laidByText := true, laidKinds := [.data, .data, .data, .pinned], laidTests := true, laidLooks := .later }
def ValueOtherUptoCardSaid : Prop := Claim7.holds Tryd.pinned (.plain (OpenSpec.upto valueOtherSpec)) valueOtherUptoCard
end Rows
end Go.Proofs.YtmeebjjdceokeaaDoor
