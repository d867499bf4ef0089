/-
  DERIVED. GIVEN WITH THE SEED: THE CARDS: each row of YtlehgmfpblifkaaDoorRows.lean that lists a variable, with what it lists TIED to the program's text (the seventh form; the later family's looks); each row that meets fmt, with fmt's text TOLD by the authors' own Lean function (tested against real Go, not proved from fmt's source: count such statements apart). THE CARD IS WHAT COUNTS. Prove the row's statement (the work); the ties are given (YtlehgmfpblifkaaDoorTie.lean); close each card by the builder's one call (the guide's Derived/Test/ToyasCard.lean, 'card_holds'). Laid BY PROGRAM, IN A SANDBOX (cutbox-door.mjs). By AI agents, Wed Nov 11 2026. No macro, syntax, notation, axiom, sorry.
-/
import Derived.Test.YtlehgmfpblifkaaDoorRows
import GoSem.ClaimSeven
namespace Go.Proofs.YtlehgmfpblifkaaDoor
namespace Rows

/-- THE TIED CARD OF 'roundelaylaw07.HeapFresh'. -/
def heapFreshCard : Claim7 := { stood := { row := heapFreshRow, standIns := [], harness := (true, "4c103b701ed085fc37f75841660261baa3b412e548bd5f5f55dcbd24f74a8829"), looks := false }, kinds := [], alts := [], laidByText := true, laidKinds := [.data, .data], laidTests := true, laidLooks := .later }
def HeapFreshCardSaid : Prop := Claim7.holds Tryd.pinned (.plain (OpenSpec.ofChange heapFreshSpec)) heapFreshCard

/-- THE TIED CARD OF 'roundelaylaw07.HeapMoves'. -/
def heapMovesCard : Claim7 := { stood := { row := heapMovesRow, standIns := [], harness := (true, "4c103b701ed085fc37f75841660261baa3b412e548bd5f5f55dcbd24f74a8829"), looks := false }, kinds := [], alts := [], laidByText := true, laidKinds := [.data, .data], laidTests := true, laidLooks := .later }
def HeapMovesCardSaid : Prop := Claim7.holds Tryd.pinned (.plain (OpenSpec.ofChange heapMovesSpec)) heapMovesCard

/-- THE TIED CARD OF 'roundelaylaw07.HeapNext'. -/
def heapNextCard : Claim7 := { stood := { row := heapNextRow, standIns := [], harness := (true, "4c103b701ed085fc37f75841660261baa3b412e548bd5f5f55dcbd24f74a8829"), looks := false }, kinds := [], alts := [], laidByText := true, laidKinds := [.data, .data], laidTests := true, laidLooks := .later }
def HeapNextCardSaid : Prop := Claim7.holds Tryd.pinned (.plain (OpenSpec.ofChange heapNextSpec)) heapNextCard

/-- THE TIED CARD OF 'roundelaylaw07.HeapActs'. -/
def heapActsCard : Claim7 := { stood := { row := heapActsRow, standIns := [], harness := (true, "4c103b701ed085fc37f75841660261baa3b412e548bd5f5f55dcbd24f74a8829"), looks := false }, kinds := [], alts := [], laidByText := true, laidKinds := [.data, .data], laidTests := true, laidLooks := .later }
def HeapActsCardSaid : Prop := Claim7.holds Tryd.pinned (.plain (OpenSpec.ofChange heapActsSpec)) heapActsCard

/-- THE TIED CARD OF 'roundelaylaw07.HeapOther'. -/
def heapOtherCard : Claim7 := { stood := { row := heapOtherRow, standIns := [], harness := (true, "4c103b701ed085fc37f75841660261baa3b412e548bd5f5f55dcbd24f74a8829"), looks := false }, kinds := [], alts := [], laidByText := true, laidKinds := [.data, .data], laidTests := true, laidLooks := .later }
def HeapOtherCardSaid : Prop := Claim7.holds Tryd.pinned (.plain (OpenSpec.ofChange heapOtherSpec)) heapOtherCard

/-- THE SECOND FORM's CARD OF 'roundelaylaw07.HeapFresh'. -/
def heapFreshUptoCard : Claim7 := { stood := { row := heapFreshUptoRow, standIns := [], harness := (true, "4c103b701ed085fc37f75841660261baa3b412e548bd5f5f55dcbd24f74a8829"), looks := false }, kinds := [], alts := [], laidByText := true, laidKinds := [.data, .data], laidTests := true, laidLooks := .later }
def HeapFreshUptoCardSaid : Prop := Claim7.holds Tryd.pinned (.plain (OpenSpec.upto heapFreshSpec)) heapFreshUptoCard

/-- THE SECOND FORM's CARD OF 'roundelaylaw07.HeapMoves'. -/
def heapMovesUptoCard : Claim7 := { stood := { row := heapMovesUptoRow, standIns := [], harness := (true, "4c103b701ed085fc37f75841660261baa3b412e548bd5f5f55dcbd24f74a8829"), looks := false }, kinds := [], alts := [], laidByText := true, laidKinds := [.data, .data], laidTests := true, laidLooks := .later }
def HeapMovesUptoCardSaid : Prop := Claim7.holds Tryd.pinned (.plain (OpenSpec.upto heapMovesSpec)) heapMovesUptoCard

/-- THE SECOND FORM's CARD OF 'roundelaylaw07.HeapNext'. -/
def heapNextUptoCard : Claim7 := { stood := { row := heapNextUptoRow, standIns := [], harness := (true, "4c103b701ed085fc37f75841660261baa3b412e548bd5f5f55dcbd24f74a8829"), looks := false }, kinds := [], alts := [], laidByText := true, laidKinds := [.data, .data], laidTests := true, laidLooks := .later }
def HeapNextUptoCardSaid : Prop := Claim7.holds Tryd.pinned (.plain (OpenSpec.upto heapNextSpec)) heapNextUptoCard

/-- THE SECOND FORM's CARD OF 'roundelaylaw07.HeapActs'. -/
def heapActsUptoCard : Claim7 := { stood := { row := heapActsUptoRow, standIns := [], harness := (true, "4c103b701ed085fc37f75841660261baa3b412e548bd5f5f55dcbd24f74a8829"), looks := false }, kinds := [], alts := [], laidByText := true, laidKinds := [.data, .data], laidTests := true, laidLooks := .later }
def HeapActsUptoCardSaid : Prop := Claim7.holds Tryd.pinned (.plain (OpenSpec.upto heapActsSpec)) heapActsUptoCard

/-- THE SECOND FORM's CARD OF 'roundelaylaw07.HeapOther'. -/
def heapOtherUptoCard : Claim7 := { stood := { row := heapOtherUptoRow, standIns := [], harness := (true, "4c103b701ed085fc37f75841660261baa3b412e548bd5f5f55dcbd24f74a8829"), looks := false }, kinds := [], alts := [], laidByText := true, laidKinds := [.data, .data], laidTests := true, laidLooks := .later }
def HeapOtherUptoCardSaid : Prop := Claim7.holds Tryd.pinned (.plain (OpenSpec.upto heapOtherSpec)) heapOtherUptoCard
end Rows
end Go.Proofs.YtlehgmfpblifkaaDoor
