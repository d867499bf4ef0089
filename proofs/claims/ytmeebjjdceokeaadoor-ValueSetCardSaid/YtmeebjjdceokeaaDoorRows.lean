/-
  NARROWER THAN 'FOR EVERY INPUT', by the rows' own cells (each row's printed sentence says how): ValueSizes: laid · ValueCmp: laid · ValueOrder: laid · ValueSet: laid · ValueDel: laid · ValueOther: laid.
  DERIVED. THE GIVEN ROWS OF THIS SEAT. 6 by the template 'for every input the law returns true; each argument reads behind the call as it read before'; 0 by the template 'total and deterministic' (their statements: YtmeebjjdceokeaaDoorTotals.lean).
  GIVEN WITH THE SEED: the statements are not yours to turn. If you find one false, say at which input.
  Laid BY PROGRAM, IN A SANDBOX (cutbox-rows.mjs): the forced cells as the released guide's own fill.sh prints them over the translation e4f3a9b1a1df32db… (all of the seat's roots in one cut). By AI agents, Wed Nov 11 2026. No macro, syntax, notation, axiom, sorry.
-/
import Derived.Test.YtmeebjjdceokeaaDoorChecked
import GoSem.PinnedTables
import GoSem.Claim
import GoSem.ClaimJoined
import GoSem.ClaimMapViews
import Derived.JoinedTies
import Derived.KernelRfl
namespace Go.Proofs.YtmeebjjdceokeaaDoor
/- THE CELL 'sum', in the pinned program and in every row, IS THE sha256 OF THE DUMP (.gsa) THAT YtmeebjjdceokeaaDoorProg.lean LOADS. Nothing in Lean hashes anything: it is a label: what it is worth is what the hold of that sum in a sandbox is worth. -/
noncomputable def Tryd.pinned : Pinned := { name := "ytmeebjjdceokeaadoor", sum := "e4f3a9b1a1df32db4c035bf6e0ca4b8c11f87745d47f0646aaebc69b36f9f620", checked := Tryd.checked }
namespace Rows
def none {H : Type} : Left H := { results := [], args := [] }

/- WHAT THE LISTED PACKAGE-LEVEL VARIABLES READ AS WHEN THE CALL BEGINS. Each datum BY PROGRAM (the guide's laid-datum.mjs) off the statement by which the dump's own 'gosem.cut.vars' lays the variable. In a bare row this is a premise. The card (YtmeebjjdceokeaaDoorCards.lean) ties it to the program's text. -/
def laid_unicode_utf8_acceptRanges {H : Type} : DataW H := .agg [.agg [.lit (.int .u8 128), .lit (.int .u8 191)], .agg [.lit (.int .u8 160), .lit (.int .u8 191)], .agg [.lit (.int .u8 128), .lit (.int .u8 159)], .agg [.lit (.int .u8 144), .lit (.int .u8 191)], .agg [.lit (.int .u8 128), .lit (.int .u8 143)], .agg [.lit (.int .u8 0), .lit (.int .u8 0)], .agg [.lit (.int .u8 0), .lit (.int .u8 0)], .agg [.lit (.int .u8 0), .lit (.int .u8 0)], .agg [.lit (.int .u8 0), .lit (.int .u8 0)], .agg [.lit (.int .u8 0), .lit (.int .u8 0)], .agg [.lit (.int .u8 0), .lit (.int .u8 0)], .agg [.lit (.int .u8 0), .lit (.int .u8 0)], .agg [.lit (.int .u8 0), .lit (.int .u8 0)], .agg [.lit (.int .u8 0), .lit (.int .u8 0)], .agg [.lit (.int .u8 0), .lit (.int .u8 0)], .agg [.lit (.int .u8 0), .lit (.int .u8 0)]]
def laid_roundelay_roundelaylaw03_words {H : Type} : DataW H := .agg [.lit (.string []), .lit (.string [97]), .lit (.string [98]), .lit (.string [97, 98]), .lit (.string [0]), .lit (.string [195, 169]), .lit (.string [122, 0]), .lit (.string [108, 111, 110, 103, 44, 32, 97, 110, 100, 32, 108, 111, 110, 103, 101, 114])]
def laid_roundelay_roundelaylaw03_names {H : Type} : DataW H := .agg [.lit (.string [97]), .lit (.string [98]), .lit (.string [99]), .lit (.string [110])]
/-- One of Go's own tables, pinned by name: the form's constant. -/
def laid_unicode_utf8_first : DataW Unit := Go.Pinned.utf8First

/-- 'roundelaylaw03.ValueSizes': WHATEVER THE INPUT: true; the input reads as it did. -/
def valueSizesSpec : ChangeSpec := { name := "valueSizes", fn := fun _ => fun
  | [d1, d2] => { results := [.lit (.bool true)], args := [d1, d2] }
  | _ => none }
def valueSizesRow : OpenClaim := { program := "ytmeebjjdceokeaadoor", sum := "e4f3a9b1a1df32db4c035bf6e0ca4b8c11f87745d47f0646aaebc69b36f9f620", func := "roundelay/roundelaylaw03.ValueSizes", spec := "valueSizes", inPlace := ["slices.overlaps[roundelay/api.Field]", "internal/bytealg.abigen_runtime_cmpstring"], unfollowed := true, recurses := true, named := ["unicode/utf8.first", "unicode/utf8.acceptRanges", "roundelay/roundelaylaw03.words", "roundelay/roundelaylaw03.names"], apart := false, laid := [("unicode/utf8.acceptRanges", laid_unicode_utf8_acceptRanges), ("roundelay/roundelaylaw03.words", laid_roundelay_roundelaylaw03_words), ("roundelay/roundelaylaw03.names", laid_roundelay_roundelaylaw03_names), ("unicode/utf8.first", laid_unicode_utf8_first)] }
def ValueSizesSaid : Prop := valueSizesRow.holds Tryd.pinned (OpenSpec.ofChange valueSizesSpec)

/-- ITS FALSE NEIGHBOUR: 'it returns false'. Refute it at one input. -/
def valueSizesWrong : ChangeSpec := { name := "valueSizes", fn := fun _ => fun
  | [d1, d2] => { results := [.lit (.bool false)], args := [d1, d2] }
  | _ => none }
def ValueSizesWrongFalsely : Prop := valueSizesRow.holds Tryd.pinned (OpenSpec.ofChange valueSizesWrong)

/-- 'roundelaylaw03.ValueCmp': WHATEVER THE INPUT: true; the input reads as it did. -/
def valueCmpSpec : ChangeSpec := { name := "valueCmp", fn := fun _ => fun
  | [d1, d2] => { results := [.lit (.bool true)], args := [d1, d2] }
  | _ => none }
def valueCmpRow : OpenClaim := { program := "ytmeebjjdceokeaadoor", sum := "e4f3a9b1a1df32db4c035bf6e0ca4b8c11f87745d47f0646aaebc69b36f9f620", func := "roundelay/roundelaylaw03.ValueCmp", spec := "valueCmp", inPlace := ["slices.overlaps[roundelay/api.Field]", "internal/bytealg.abigen_runtime_cmpstring"], unfollowed := true, recurses := true, named := ["unicode/utf8.first", "unicode/utf8.acceptRanges", "roundelay/roundelaylaw03.words", "roundelay/roundelaylaw03.names"], apart := false, laid := [("unicode/utf8.acceptRanges", laid_unicode_utf8_acceptRanges), ("roundelay/roundelaylaw03.words", laid_roundelay_roundelaylaw03_words), ("roundelay/roundelaylaw03.names", laid_roundelay_roundelaylaw03_names), ("unicode/utf8.first", laid_unicode_utf8_first)] }
def ValueCmpSaid : Prop := valueCmpRow.holds Tryd.pinned (OpenSpec.ofChange valueCmpSpec)

/-- ITS FALSE NEIGHBOUR: 'it returns false'. Refute it at one input. -/
def valueCmpWrong : ChangeSpec := { name := "valueCmp", fn := fun _ => fun
  | [d1, d2] => { results := [.lit (.bool false)], args := [d1, d2] }
  | _ => none }
def ValueCmpWrongFalsely : Prop := valueCmpRow.holds Tryd.pinned (OpenSpec.ofChange valueCmpWrong)

/-- 'roundelaylaw03.ValueOrder': WHATEVER THE INPUT: true; the input reads as it did. -/
def valueOrderSpec : ChangeSpec := { name := "valueOrder", fn := fun _ => fun
  | [d1, d2, d3] => { results := [.lit (.bool true)], args := [d1, d2, d3] }
  | _ => none }
def valueOrderRow : OpenClaim := { program := "ytmeebjjdceokeaadoor", sum := "e4f3a9b1a1df32db4c035bf6e0ca4b8c11f87745d47f0646aaebc69b36f9f620", func := "roundelay/roundelaylaw03.ValueOrder", spec := "valueOrder", inPlace := ["slices.overlaps[roundelay/api.Field]", "internal/bytealg.abigen_runtime_cmpstring"], unfollowed := true, recurses := true, named := ["unicode/utf8.first", "unicode/utf8.acceptRanges", "roundelay/roundelaylaw03.words", "roundelay/roundelaylaw03.names"], apart := false, laid := [("unicode/utf8.acceptRanges", laid_unicode_utf8_acceptRanges), ("roundelay/roundelaylaw03.words", laid_roundelay_roundelaylaw03_words), ("roundelay/roundelaylaw03.names", laid_roundelay_roundelaylaw03_names), ("unicode/utf8.first", laid_unicode_utf8_first)] }
def ValueOrderSaid : Prop := valueOrderRow.holds Tryd.pinned (OpenSpec.ofChange valueOrderSpec)

/-- ITS FALSE NEIGHBOUR: 'it returns false'. Refute it at one input. -/
def valueOrderWrong : ChangeSpec := { name := "valueOrder", fn := fun _ => fun
  | [d1, d2, d3] => { results := [.lit (.bool false)], args := [d1, d2, d3] }
  | _ => none }
def ValueOrderWrongFalsely : Prop := valueOrderRow.holds Tryd.pinned (OpenSpec.ofChange valueOrderWrong)

/-- 'roundelaylaw03.ValueSet': WHATEVER THE INPUT: true; the input reads as it did. -/
def valueSetSpec : ChangeSpec := { name := "valueSet", fn := fun _ => fun
  | [d1, d2, d3] => { results := [.lit (.bool true)], args := [d1, d2, d3] }
  | _ => none }
def valueSetRow : OpenClaim := { program := "ytmeebjjdceokeaadoor", sum := "e4f3a9b1a1df32db4c035bf6e0ca4b8c11f87745d47f0646aaebc69b36f9f620", func := "roundelay/roundelaylaw03.ValueSet", spec := "valueSet", inPlace := ["slices.overlaps[roundelay/api.Field]", "internal/bytealg.abigen_runtime_cmpstring"], unfollowed := true, recurses := true, named := ["unicode/utf8.first", "unicode/utf8.acceptRanges", "roundelay/roundelaylaw03.words", "roundelay/roundelaylaw03.names"], apart := false, laid := [("unicode/utf8.acceptRanges", laid_unicode_utf8_acceptRanges), ("roundelay/roundelaylaw03.words", laid_roundelay_roundelaylaw03_words), ("roundelay/roundelaylaw03.names", laid_roundelay_roundelaylaw03_names), ("unicode/utf8.first", laid_unicode_utf8_first)] }
def ValueSetSaid : Prop := valueSetRow.holds Tryd.pinned (OpenSpec.ofChange valueSetSpec)

/-- ITS FALSE NEIGHBOUR: 'it returns false'. Refute it at one input. -/
def valueSetWrong : ChangeSpec := { name := "valueSet", fn := fun _ => fun
  | [d1, d2, d3] => { results := [.lit (.bool false)], args := [d1, d2, d3] }
  | _ => none }
def ValueSetWrongFalsely : Prop := valueSetRow.holds Tryd.pinned (OpenSpec.ofChange valueSetWrong)

/-- 'roundelaylaw03.ValueDel': WHATEVER THE INPUT: true; the input reads as it did. -/
def valueDelSpec : ChangeSpec := { name := "valueDel", fn := fun _ => fun
  | [d1, d2, d3] => { results := [.lit (.bool true)], args := [d1, d2, d3] }
  | _ => none }
def valueDelRow : OpenClaim := { program := "ytmeebjjdceokeaadoor", sum := "e4f3a9b1a1df32db4c035bf6e0ca4b8c11f87745d47f0646aaebc69b36f9f620", func := "roundelay/roundelaylaw03.ValueDel", spec := "valueDel", inPlace := ["slices.overlaps[roundelay/api.Field]", "internal/bytealg.abigen_runtime_cmpstring"], unfollowed := true, recurses := true, named := ["unicode/utf8.first", "unicode/utf8.acceptRanges", "roundelay/roundelaylaw03.words", "roundelay/roundelaylaw03.names"], apart := false, laid := [("unicode/utf8.acceptRanges", laid_unicode_utf8_acceptRanges), ("roundelay/roundelaylaw03.words", laid_roundelay_roundelaylaw03_words), ("roundelay/roundelaylaw03.names", laid_roundelay_roundelaylaw03_names), ("unicode/utf8.first", laid_unicode_utf8_first)] }
def ValueDelSaid : Prop := valueDelRow.holds Tryd.pinned (OpenSpec.ofChange valueDelSpec)

/-- ITS FALSE NEIGHBOUR: 'it returns false'. Refute it at one input. -/
def valueDelWrong : ChangeSpec := { name := "valueDel", fn := fun _ => fun
  | [d1, d2, d3] => { results := [.lit (.bool false)], args := [d1, d2, d3] }
  | _ => none }
def ValueDelWrongFalsely : Prop := valueDelRow.holds Tryd.pinned (OpenSpec.ofChange valueDelWrong)

/-- 'roundelaylaw03.ValueOther': WHATEVER THE INPUT: true; the input reads as it did. -/
def valueOtherSpec : ChangeSpec := { name := "valueOther", fn := fun _ => fun
  | [d1, d2] => { results := [.lit (.bool true)], args := [d1, d2] }
  | _ => none }
def valueOtherRow : OpenClaim := { program := "ytmeebjjdceokeaadoor", sum := "e4f3a9b1a1df32db4c035bf6e0ca4b8c11f87745d47f0646aaebc69b36f9f620", func := "roundelay/roundelaylaw03.ValueOther", spec := "valueOther", inPlace := ["slices.overlaps[roundelay/api.Field]", "internal/bytealg.abigen_runtime_cmpstring"], unfollowed := true, recurses := true, named := ["unicode/utf8.first", "unicode/utf8.acceptRanges", "roundelay/roundelaylaw03.words", "roundelay/roundelaylaw03.names"], apart := false, laid := [("unicode/utf8.acceptRanges", laid_unicode_utf8_acceptRanges), ("roundelay/roundelaylaw03.words", laid_roundelay_roundelaylaw03_words), ("roundelay/roundelaylaw03.names", laid_roundelay_roundelaylaw03_names), ("unicode/utf8.first", laid_unicode_utf8_first)] }
def ValueOtherSaid : Prop := valueOtherRow.holds Tryd.pinned (OpenSpec.ofChange valueOtherSpec)

/-- ITS FALSE NEIGHBOUR: 'it returns false'. Refute it at one input. -/
def valueOtherWrong : ChangeSpec := { name := "valueOther", fn := fun _ => fun
  | [d1, d2] => { results := [.lit (.bool false)], args := [d1, d2] }
  | _ => none }
def ValueOtherWrongFalsely : Prop := valueOtherRow.holds Tryd.pinned (OpenSpec.ofChange valueOtherWrong)

/- THE SECOND FORM. 'bulk': how many values and letters a reading holds, each counted each time it is reached (what is shared counts as often as it is met; a slice's spare places count too). A statement '..UptoSaid' is the law's where the arguments, and the package variables that the reading takes, are together of bulk at most 1048576: NARROWER than '..Said'. Prove '..Said' where nothing that the law and all that it calls make is longer than what came in: it says more and counts as full. Else prove '..UptoSaid'. A law counts once. -/
mutual
def uptoBulk {H : Type} : DataW H → Nat
  | .lit (.string bytes) => bytes.length + 1
  | .lit _ => 1
  | .nil => 1
  | .ptr d => uptoBulk d + 1
  | .slice elems spare => uptoBulkAll elems + uptoBulkAll spare + 1
  | .agg parts => uptoBulkAll parts + 1
  | .iface _ d => uptoBulk d + 1
  | .map entries => uptoBulkEntries entries + 1
  | .held _ => 1
def uptoBulkAll {H : Type} : List (DataW H) → Nat
  | [] => 0
  | d :: r => uptoBulk d + uptoBulkAll r
def uptoBulkEntries {H : Type} : List (Lit × DataW H) → Nat
  | [] => 0
  | x :: r => uptoBulkEntry x + uptoBulkEntries r
def uptoBulkEntry {H : Type} : Lit × DataW H → Nat
  | (.string bytes, d) => bytes.length + uptoBulk d + 1
  | (_, d) => uptoBulk d + 1
 end
def uptoSmall : (H : Type) → List (DataW H) → Bool := fun _ ds => decide (uptoBulkAll ds ≤ 1048576)
def OpenSpec.upto (s : _root_.Go.ChangeSpec) : _root_.Go.OpenSpec := { _root_.Go.OpenSpec.ofChange s with cond := some uptoSmall }

/-- 'roundelaylaw03.ValueSizes', WHERE WHAT IT READS IS OF BULK AT MOST 1048576: true; the input reads as it did. -/
def valueSizesUptoRow : OpenClaim := { program := "ytmeebjjdceokeaadoor", sum := "e4f3a9b1a1df32db4c035bf6e0ca4b8c11f87745d47f0646aaebc69b36f9f620", func := "roundelay/roundelaylaw03.ValueSizes", spec := "valueSizes", inPlace := ["slices.overlaps[roundelay/api.Field]", "internal/bytealg.abigen_runtime_cmpstring"], unfollowed := true, recurses := true, named := ["unicode/utf8.first", "unicode/utf8.acceptRanges", "roundelay/roundelaylaw03.words", "roundelay/roundelaylaw03.names"], apart := false, laid := [("unicode/utf8.acceptRanges", laid_unicode_utf8_acceptRanges), ("roundelay/roundelaylaw03.words", laid_roundelay_roundelaylaw03_words), ("roundelay/roundelaylaw03.names", laid_roundelay_roundelaylaw03_names), ("unicode/utf8.first", laid_unicode_utf8_first)], narrowed := true }
def ValueSizesUptoSaid : Prop := valueSizesUptoRow.holds Tryd.pinned (OpenSpec.upto valueSizesSpec)

/-- 'roundelaylaw03.ValueCmp', WHERE WHAT IT READS IS OF BULK AT MOST 1048576: true; the input reads as it did. -/
def valueCmpUptoRow : OpenClaim := { program := "ytmeebjjdceokeaadoor", sum := "e4f3a9b1a1df32db4c035bf6e0ca4b8c11f87745d47f0646aaebc69b36f9f620", func := "roundelay/roundelaylaw03.ValueCmp", spec := "valueCmp", inPlace := ["slices.overlaps[roundelay/api.Field]", "internal/bytealg.abigen_runtime_cmpstring"], unfollowed := true, recurses := true, named := ["unicode/utf8.first", "unicode/utf8.acceptRanges", "roundelay/roundelaylaw03.words", "roundelay/roundelaylaw03.names"], apart := false, laid := [("unicode/utf8.acceptRanges", laid_unicode_utf8_acceptRanges), ("roundelay/roundelaylaw03.words", laid_roundelay_roundelaylaw03_words), ("roundelay/roundelaylaw03.names", laid_roundelay_roundelaylaw03_names), ("unicode/utf8.first", laid_unicode_utf8_first)], narrowed := true }
def ValueCmpUptoSaid : Prop := valueCmpUptoRow.holds Tryd.pinned (OpenSpec.upto valueCmpSpec)

/-- 'roundelaylaw03.ValueOrder', WHERE WHAT IT READS IS OF BULK AT MOST 1048576: true; the input reads as it did. -/
def valueOrderUptoRow : OpenClaim := { program := "ytmeebjjdceokeaadoor", sum := "e4f3a9b1a1df32db4c035bf6e0ca4b8c11f87745d47f0646aaebc69b36f9f620", func := "roundelay/roundelaylaw03.ValueOrder", spec := "valueOrder", inPlace := ["slices.overlaps[roundelay/api.Field]", "internal/bytealg.abigen_runtime_cmpstring"], unfollowed := true, recurses := true, named := ["unicode/utf8.first", "unicode/utf8.acceptRanges", "roundelay/roundelaylaw03.words", "roundelay/roundelaylaw03.names"], apart := false, laid := [("unicode/utf8.acceptRanges", laid_unicode_utf8_acceptRanges), ("roundelay/roundelaylaw03.words", laid_roundelay_roundelaylaw03_words), ("roundelay/roundelaylaw03.names", laid_roundelay_roundelaylaw03_names), ("unicode/utf8.first", laid_unicode_utf8_first)], narrowed := true }
def ValueOrderUptoSaid : Prop := valueOrderUptoRow.holds Tryd.pinned (OpenSpec.upto valueOrderSpec)

/-- 'roundelaylaw03.ValueSet', WHERE WHAT IT READS IS OF BULK AT MOST 1048576: true; the input reads as it did. -/
def valueSetUptoRow : OpenClaim := { program := "ytmeebjjdceokeaadoor", sum := "e4f3a9b1a1df32db4c035bf6e0ca4b8c11f87745d47f0646aaebc69b36f9f620", func := "roundelay/roundelaylaw03.ValueSet", spec := "valueSet", inPlace := ["slices.overlaps[roundelay/api.Field]", "internal/bytealg.abigen_runtime_cmpstring"], unfollowed := true, recurses := true, named := ["unicode/utf8.first", "unicode/utf8.acceptRanges", "roundelay/roundelaylaw03.words", "roundelay/roundelaylaw03.names"], apart := false, laid := [("unicode/utf8.acceptRanges", laid_unicode_utf8_acceptRanges), ("roundelay/roundelaylaw03.words", laid_roundelay_roundelaylaw03_words), ("roundelay/roundelaylaw03.names", laid_roundelay_roundelaylaw03_names), ("unicode/utf8.first", laid_unicode_utf8_first)], narrowed := true }
def ValueSetUptoSaid : Prop := valueSetUptoRow.holds Tryd.pinned (OpenSpec.upto valueSetSpec)

/-- 'roundelaylaw03.ValueDel', WHERE WHAT IT READS IS OF BULK AT MOST 1048576: true; the input reads as it did. -/
def valueDelUptoRow : OpenClaim := { program := "ytmeebjjdceokeaadoor", sum := "e4f3a9b1a1df32db4c035bf6e0ca4b8c11f87745d47f0646aaebc69b36f9f620", func := "roundelay/roundelaylaw03.ValueDel", spec := "valueDel", inPlace := ["slices.overlaps[roundelay/api.Field]", "internal/bytealg.abigen_runtime_cmpstring"], unfollowed := true, recurses := true, named := ["unicode/utf8.first", "unicode/utf8.acceptRanges", "roundelay/roundelaylaw03.words", "roundelay/roundelaylaw03.names"], apart := false, laid := [("unicode/utf8.acceptRanges", laid_unicode_utf8_acceptRanges), ("roundelay/roundelaylaw03.words", laid_roundelay_roundelaylaw03_words), ("roundelay/roundelaylaw03.names", laid_roundelay_roundelaylaw03_names), ("unicode/utf8.first", laid_unicode_utf8_first)], narrowed := true }
def ValueDelUptoSaid : Prop := valueDelUptoRow.holds Tryd.pinned (OpenSpec.upto valueDelSpec)

/-- 'roundelaylaw03.ValueOther', WHERE WHAT IT READS IS OF BULK AT MOST 1048576: true; the input reads as it did. -/
def valueOtherUptoRow : OpenClaim := { program := "ytmeebjjdceokeaadoor", sum := "e4f3a9b1a1df32db4c035bf6e0ca4b8c11f87745d47f0646aaebc69b36f9f620", func := "roundelay/roundelaylaw03.ValueOther", spec := "valueOther", inPlace := ["slices.overlaps[roundelay/api.Field]", "internal/bytealg.abigen_runtime_cmpstring"], unfollowed := true, recurses := true, named := ["unicode/utf8.first", "unicode/utf8.acceptRanges", "roundelay/roundelaylaw03.words", "roundelay/roundelaylaw03.names"], apart := false, laid := [("unicode/utf8.acceptRanges", laid_unicode_utf8_acceptRanges), ("roundelay/roundelaylaw03.words", laid_roundelay_roundelaylaw03_words), ("roundelay/roundelaylaw03.names", laid_roundelay_roundelaylaw03_names), ("unicode/utf8.first", laid_unicode_utf8_first)], narrowed := true }
def ValueOtherUptoSaid : Prop := valueOtherUptoRow.holds Tryd.pinned (OpenSpec.upto valueOtherSpec)

end Rows
end Go.Proofs.YtmeebjjdceokeaaDoor
