/-
  NARROWER THAN 'FOR EVERY INPUT', by the rows' own cells (each row's printed sentence says how): HeapFresh: laid · HeapMoves: laid · HeapNext: laid · HeapActs: laid · HeapOther: laid.
  DERIVED. THE GIVEN ROWS OF THIS SEAT. 5 by the template 'for every input the law returns true; each argument reads behind the call as it read before'; 0 by the template 'total and deterministic' (their statements: YtlehgmfpblifkaaDoorTotals.lean).
  GIVEN WITH THE SEED: the statements are not yours to turn. If you find one false, say at which input.
  Laid BY PROGRAM, IN A SANDBOX (cutbox-rows.mjs): the forced cells as the released guide's own fill.sh prints them over the translation d3a80ef18374b52f… (all of the seat's roots in one cut). By AI agents, Wed Nov 11 2026. No macro, syntax, notation, axiom, sorry.
-/
import Derived.Test.YtlehgmfpblifkaaDoorChecked
import GoSem.Claim
import GoSem.ClaimJoined
import GoSem.ClaimMapViews
import Derived.JoinedTies
import Derived.KernelRfl
namespace Go.Proofs.YtlehgmfpblifkaaDoor
/- THE CELL 'sum', in the pinned program and in every row, IS THE sha256 OF THE DUMP (.gsa) THAT YtlehgmfpblifkaaDoorProg.lean LOADS. Nothing in Lean hashes anything: it is a label: what it is worth is what the hold of that sum in a sandbox is worth. -/
noncomputable def Tryd.pinned : Pinned := { name := "ytlehgmfpblifkaadoor", sum := "d3a80ef18374b52fa19efdeedd20609f65af3bffb5062ed235ba62c7faa258a9", checked := Tryd.checked }
namespace Rows
def none {H : Type} : Left H := { results := [], args := [] }

/- WHAT THE LISTED PACKAGE-LEVEL VARIABLES READ AS WHEN THE CALL BEGINS. Each datum BY PROGRAM (the guide's laid-datum.mjs) off the statement by which the dump's own 'gosem.cut.vars' lays the variable. In a bare row this is a premise. The card (YtlehgmfpblifkaaDoorCards.lean) ties it to the program's text. -/
def laid_roundelay_roundelaylaw03_words {H : Type} : DataW H := .agg [.lit (.string []), .lit (.string [97]), .lit (.string [98]), .lit (.string [97, 98]), .lit (.string [0]), .lit (.string [195, 169]), .lit (.string [122, 0]), .lit (.string [108, 111, 110, 103, 44, 32, 97, 110, 100, 32, 108, 111, 110, 103, 101, 114])]
def laid_roundelay_roundelaylaw03_names {H : Type} : DataW H := .agg [.lit (.string [97]), .lit (.string [98]), .lit (.string [99]), .lit (.string [110])]

/-- 'roundelaylaw07.HeapFresh': WHATEVER THE INPUT: true; the input reads as it did. -/
def heapFreshSpec : ChangeSpec := { name := "heapFresh", fn := fun _ => fun
  | [d] => { results := [.lit (.bool true)], args := [d] }
  | _ => none }
def heapFreshRow : OpenClaim := { program := "ytlehgmfpblifkaadoor", sum := "d3a80ef18374b52fa19efdeedd20609f65af3bffb5062ed235ba62c7faa258a9", func := "roundelay/roundelaylaw07.HeapFresh", spec := "heapFresh", unfollowed := true, recurses := true, named := ["roundelay/roundelaylaw03.words", "roundelay/roundelaylaw03.names"], apart := false, laid := [("roundelay/roundelaylaw03.words", laid_roundelay_roundelaylaw03_words), ("roundelay/roundelaylaw03.names", laid_roundelay_roundelaylaw03_names)] }
def HeapFreshSaid : Prop := heapFreshRow.holds Tryd.pinned (OpenSpec.ofChange heapFreshSpec)

/-- ITS FALSE NEIGHBOUR: 'it returns false'. Refute it at one input. -/
def heapFreshWrong : ChangeSpec := { name := "heapFresh", fn := fun _ => fun
  | [d] => { results := [.lit (.bool false)], args := [d] }
  | _ => none }
def HeapFreshWrongFalsely : Prop := heapFreshRow.holds Tryd.pinned (OpenSpec.ofChange heapFreshWrong)

/-- 'roundelaylaw07.HeapMoves': WHATEVER THE INPUT: true; the input reads as it did. -/
def heapMovesSpec : ChangeSpec := { name := "heapMoves", fn := fun _ => fun
  | [d1, d2] => { results := [.lit (.bool true)], args := [d1, d2] }
  | _ => none }
def heapMovesRow : OpenClaim := { program := "ytlehgmfpblifkaadoor", sum := "d3a80ef18374b52fa19efdeedd20609f65af3bffb5062ed235ba62c7faa258a9", func := "roundelay/roundelaylaw07.HeapMoves", spec := "heapMoves", unfollowed := true, recurses := true, named := ["roundelay/roundelaylaw03.words", "roundelay/roundelaylaw03.names"], apart := false, laid := [("roundelay/roundelaylaw03.words", laid_roundelay_roundelaylaw03_words), ("roundelay/roundelaylaw03.names", laid_roundelay_roundelaylaw03_names)] }
def HeapMovesSaid : Prop := heapMovesRow.holds Tryd.pinned (OpenSpec.ofChange heapMovesSpec)

/-- ITS FALSE NEIGHBOUR: 'it returns false'. Refute it at one input. -/
def heapMovesWrong : ChangeSpec := { name := "heapMoves", fn := fun _ => fun
  | [d1, d2] => { results := [.lit (.bool false)], args := [d1, d2] }
  | _ => none }
def HeapMovesWrongFalsely : Prop := heapMovesRow.holds Tryd.pinned (OpenSpec.ofChange heapMovesWrong)

/-- 'roundelaylaw07.HeapNext': WHATEVER THE INPUT: true; the input reads as it did. -/
def heapNextSpec : ChangeSpec := { name := "heapNext", fn := fun _ => fun
  | [d1, d2] => { results := [.lit (.bool true)], args := [d1, d2] }
  | _ => none }
def heapNextRow : OpenClaim := { program := "ytlehgmfpblifkaadoor", sum := "d3a80ef18374b52fa19efdeedd20609f65af3bffb5062ed235ba62c7faa258a9", func := "roundelay/roundelaylaw07.HeapNext", spec := "heapNext", inPlace := ["internal/bytealg.abigen_runtime_cmpstring"], unfollowed := true, recurses := true, named := ["roundelay/roundelaylaw03.words", "roundelay/roundelaylaw03.names"], apart := false, laid := [("roundelay/roundelaylaw03.words", laid_roundelay_roundelaylaw03_words), ("roundelay/roundelaylaw03.names", laid_roundelay_roundelaylaw03_names)] }
def HeapNextSaid : Prop := heapNextRow.holds Tryd.pinned (OpenSpec.ofChange heapNextSpec)

/-- ITS FALSE NEIGHBOUR: 'it returns false'. Refute it at one input. -/
def heapNextWrong : ChangeSpec := { name := "heapNext", fn := fun _ => fun
  | [d1, d2] => { results := [.lit (.bool false)], args := [d1, d2] }
  | _ => none }
def HeapNextWrongFalsely : Prop := heapNextRow.holds Tryd.pinned (OpenSpec.ofChange heapNextWrong)

/-- 'roundelaylaw07.HeapActs': WHATEVER THE INPUT: true; the input reads as it did. -/
def heapActsSpec : ChangeSpec := { name := "heapActs", fn := fun _ => fun
  | [d1, d2] => { results := [.lit (.bool true)], args := [d1, d2] }
  | _ => none }
def heapActsRow : OpenClaim := { program := "ytlehgmfpblifkaadoor", sum := "d3a80ef18374b52fa19efdeedd20609f65af3bffb5062ed235ba62c7faa258a9", func := "roundelay/roundelaylaw07.HeapActs", spec := "heapActs", inPlace := ["internal/bytealg.abigen_runtime_cmpstring"], unfollowed := true, recurses := true, named := ["roundelay/roundelaylaw03.words", "roundelay/roundelaylaw03.names"], apart := false, laid := [("roundelay/roundelaylaw03.words", laid_roundelay_roundelaylaw03_words), ("roundelay/roundelaylaw03.names", laid_roundelay_roundelaylaw03_names)] }
def HeapActsSaid : Prop := heapActsRow.holds Tryd.pinned (OpenSpec.ofChange heapActsSpec)

/-- ITS FALSE NEIGHBOUR: 'it returns false'. Refute it at one input. -/
def heapActsWrong : ChangeSpec := { name := "heapActs", fn := fun _ => fun
  | [d1, d2] => { results := [.lit (.bool false)], args := [d1, d2] }
  | _ => none }
def HeapActsWrongFalsely : Prop := heapActsRow.holds Tryd.pinned (OpenSpec.ofChange heapActsWrong)

/-- 'roundelaylaw07.HeapOther': WHATEVER THE INPUT: true; the input reads as it did. -/
def heapOtherSpec : ChangeSpec := { name := "heapOther", fn := fun _ => fun
  | [d1, d2, d3] => { results := [.lit (.bool true)], args := [d1, d2, d3] }
  | _ => none }
def heapOtherRow : OpenClaim := { program := "ytlehgmfpblifkaadoor", sum := "d3a80ef18374b52fa19efdeedd20609f65af3bffb5062ed235ba62c7faa258a9", func := "roundelay/roundelaylaw07.HeapOther", spec := "heapOther", inPlace := ["internal/bytealg.abigen_runtime_cmpstring"], unfollowed := true, recurses := true, named := ["roundelay/roundelaylaw03.words", "roundelay/roundelaylaw03.names"], apart := false, laid := [("roundelay/roundelaylaw03.words", laid_roundelay_roundelaylaw03_words), ("roundelay/roundelaylaw03.names", laid_roundelay_roundelaylaw03_names)] }
def HeapOtherSaid : Prop := heapOtherRow.holds Tryd.pinned (OpenSpec.ofChange heapOtherSpec)

/-- ITS FALSE NEIGHBOUR: 'it returns false'. Refute it at one input. -/
def heapOtherWrong : ChangeSpec := { name := "heapOther", fn := fun _ => fun
  | [d1, d2, d3] => { results := [.lit (.bool false)], args := [d1, d2, d3] }
  | _ => none }
def HeapOtherWrongFalsely : Prop := heapOtherRow.holds Tryd.pinned (OpenSpec.ofChange heapOtherWrong)

/- THE SECOND FORM. 'bulk': how many values and letters a reading holds, each counted each time it is reached (what is shared counts as often as it is met; a slice's spare places count too). A statement '..UptoSaid' is the law's where the arguments, and the package variables that the reading takes, are together of bulk at most 1048576: NARROWER than '..Said'. Prove '..Said' where nothing that the law and all that it calls make is longer than what came in: it says more and counts as full. Else prove '..UptoSaid'. A law counts once. -/
mutual
def uptoBulk {H : Type} : DataW H → Nat
  | .lit (.string bytes) => bytes.length + 1
  | .lit _ => 1
  | .nil => 1
  | .ptr d => uptoBulk d + 1
  | .slice elems spare => uptoBulkAll elems + uptoBulkAll spare + 1
  | .agg parts => uptoBulkAll parts + 1
  | .iface _ d => uptoBulk d + 1
  | .map entries => uptoBulkEntries entries + 1
  | .held _ => 1
def uptoBulkAll {H : Type} : List (DataW H) → Nat
  | [] => 0
  | d :: r => uptoBulk d + uptoBulkAll r
def uptoBulkEntries {H : Type} : List (Lit × DataW H) → Nat
  | [] => 0
  | x :: r => uptoBulkEntry x + uptoBulkEntries r
def uptoBulkEntry {H : Type} : Lit × DataW H → Nat
  | (.string bytes, d) => bytes.length + uptoBulk d + 1
  | (_, d) => uptoBulk d + 1
 end
def uptoSmall : (H : Type) → List (DataW H) → Bool := fun _ ds => decide (uptoBulkAll ds ≤ 1048576)
def OpenSpec.upto (s : _root_.Go.ChangeSpec) : _root_.Go.OpenSpec := { _root_.Go.OpenSpec.ofChange s with cond := some uptoSmall }

/-- 'roundelaylaw07.HeapFresh', WHERE WHAT IT READS IS OF BULK AT MOST 1048576: true; the input reads as it did. -/
def heapFreshUptoRow : OpenClaim := { program := "ytlehgmfpblifkaadoor", sum := "d3a80ef18374b52fa19efdeedd20609f65af3bffb5062ed235ba62c7faa258a9", func := "roundelay/roundelaylaw07.HeapFresh", spec := "heapFresh", unfollowed := true, recurses := true, named := ["roundelay/roundelaylaw03.words", "roundelay/roundelaylaw03.names"], apart := false, laid := [("roundelay/roundelaylaw03.words", laid_roundelay_roundelaylaw03_words), ("roundelay/roundelaylaw03.names", laid_roundelay_roundelaylaw03_names)], narrowed := true }
def HeapFreshUptoSaid : Prop := heapFreshUptoRow.holds Tryd.pinned (OpenSpec.upto heapFreshSpec)

/-- 'roundelaylaw07.HeapMoves', WHERE WHAT IT READS IS OF BULK AT MOST 1048576: true; the input reads as it did. -/
def heapMovesUptoRow : OpenClaim := { program := "ytlehgmfpblifkaadoor", sum := "d3a80ef18374b52fa19efdeedd20609f65af3bffb5062ed235ba62c7faa258a9", func := "roundelay/roundelaylaw07.HeapMoves", spec := "heapMoves", unfollowed := true, recurses := true, named := ["roundelay/roundelaylaw03.words", "roundelay/roundelaylaw03.names"], apart := false, laid := [("roundelay/roundelaylaw03.words", laid_roundelay_roundelaylaw03_words), ("roundelay/roundelaylaw03.names", laid_roundelay_roundelaylaw03_names)], narrowed := true }
def HeapMovesUptoSaid : Prop := heapMovesUptoRow.holds Tryd.pinned (OpenSpec.upto heapMovesSpec)

/-- 'roundelaylaw07.HeapNext', WHERE WHAT IT READS IS OF BULK AT MOST 1048576: true; the input reads as it did. -/
def heapNextUptoRow : OpenClaim := { program := "ytlehgmfpblifkaadoor", sum := "d3a80ef18374b52fa19efdeedd20609f65af3bffb5062ed235ba62c7faa258a9", func := "roundelay/roundelaylaw07.HeapNext", spec := "heapNext", inPlace := ["internal/bytealg.abigen_runtime_cmpstring"], unfollowed := true, recurses := true, named := ["roundelay/roundelaylaw03.words", "roundelay/roundelaylaw03.names"], apart := false, laid := [("roundelay/roundelaylaw03.words", laid_roundelay_roundelaylaw03_words), ("roundelay/roundelaylaw03.names", laid_roundelay_roundelaylaw03_names)], narrowed := true }
def HeapNextUptoSaid : Prop := heapNextUptoRow.holds Tryd.pinned (OpenSpec.upto heapNextSpec)

/-- 'roundelaylaw07.HeapActs', WHERE WHAT IT READS IS OF BULK AT MOST 1048576: true; the input reads as it did. -/
def heapActsUptoRow : OpenClaim := { program := "ytlehgmfpblifkaadoor", sum := "d3a80ef18374b52fa19efdeedd20609f65af3bffb5062ed235ba62c7faa258a9", func := "roundelay/roundelaylaw07.HeapActs", spec := "heapActs", inPlace := ["internal/bytealg.abigen_runtime_cmpstring"], unfollowed := true, recurses := true, named := ["roundelay/roundelaylaw03.words", "roundelay/roundelaylaw03.names"], apart := false, laid := [("roundelay/roundelaylaw03.words", laid_roundelay_roundelaylaw03_words), ("roundelay/roundelaylaw03.names", laid_roundelay_roundelaylaw03_names)], narrowed := true }
def HeapActsUptoSaid : Prop := heapActsUptoRow.holds Tryd.pinned (OpenSpec.upto heapActsSpec)

/-- 'roundelaylaw07.HeapOther', WHERE WHAT IT READS IS OF BULK AT MOST 1048576: true; the input reads as it did. -/
def heapOtherUptoRow : OpenClaim := { program := "ytlehgmfpblifkaadoor", sum := "d3a80ef18374b52fa19efdeedd20609f65af3bffb5062ed235ba62c7faa258a9", func := "roundelay/roundelaylaw07.HeapOther", spec := "heapOther", inPlace := ["internal/bytealg.abigen_runtime_cmpstring"], unfollowed := true, recurses := true, named := ["roundelay/roundelaylaw03.words", "roundelay/roundelaylaw03.names"], apart := false, laid := [("roundelay/roundelaylaw03.words", laid_roundelay_roundelaylaw03_words), ("roundelay/roundelaylaw03.names", laid_roundelay_roundelaylaw03_names)], narrowed := true }
def HeapOtherUptoSaid : Prop := heapOtherUptoRow.holds Tryd.pinned (OpenSpec.upto heapOtherSpec)

end Rows
end Go.Proofs.YtlehgmfpblifkaaDoor
