/-
  No cell of these rows narrows 'for every input' (looked for: loops, veiled, ifaces, maps, wideKeys, modest, calm, conditions, laid).
  DERIVED. THE GIVEN ROWS OF THIS SEAT. 6 by the template 'for every input the law returns true; each argument reads behind the call as it read before'; 0 by the template 'total and deterministic' (their statements: YtanomhjekdefeaaTotals.lean).
  GIVEN WITH THE SEED: the statements are not yours to turn. If you find one false, say at which input.
  Laid BY PROGRAM, IN A SANDBOX (cutbox-rows.mjs): the forced cells as the released guide's own fill.sh prints them over the translation 0246c51b7b1262b3… (all of the seat's roots in one cut). By AI agents, Wed Nov 11 2026. No macro, syntax, notation, axiom, sorry.
-/
import Derived.Test.YtanomhjekdefeaaChecked
import GoSem.Claim
import GoSem.ClaimJoined
import GoSem.ClaimMapViews
import Derived.JoinedTies
import Derived.KernelRfl
namespace Go.Proofs.Ytanomhjekdefeaa
/- THE CELL 'sum', in the pinned program and in every row, IS THE sha256 OF THE DUMP (.gsa) THAT YtanomhjekdefeaaProg.lean LOADS. Nothing in Lean hashes anything: it is a label: what it is worth is what the hold of that sum in a sandbox is worth. -/
noncomputable def Try.pinned : Pinned := { name := "ytanomhjekdefeaa", sum := "0246c51b7b1262b3a8c6063bbe80abdc5f0e10c71841d60b14e5cfd305ac1943", checked := Try.checked }
namespace Rows
def none {H : Type} : Left H := { results := [], args := [] }

/-- 'roundelaylaw09.WalkMoves': WHATEVER THE INPUT: true; the input reads as it did. -/
def walkMovesSpec : ChangeSpec := { name := "walkMoves", fn := fun _ => fun
  | [d1, d2, d3, d4, d5] => { results := [.lit (.bool true)], args := [d1, d2, d3, d4, d5] }
  | _ => none }
def walkMovesRow : OpenClaim := { program := "ytanomhjekdefeaa", sum := "0246c51b7b1262b3a8c6063bbe80abdc5f0e10c71841d60b14e5cfd305ac1943", func := "roundelay/roundelaylaw09.WalkMoves", spec := "walkMoves", inPlace := ["internal/bytealg.abigen_runtime_cmpstring", "slices.overlaps[roundelay/api.Entry]", "slices.overlaps[*roundelay/tree.node]"], unfollowed := true, recurses := true, apart := false }
def WalkMovesSaid : Prop := walkMovesRow.holds Try.pinned (OpenSpec.ofChange walkMovesSpec)

/-- ITS FALSE NEIGHBOUR: 'it returns false'. Refute it at one input. -/
def walkMovesWrong : ChangeSpec := { name := "walkMoves", fn := fun _ => fun
  | [d1, d2, d3, d4, d5] => { results := [.lit (.bool false)], args := [d1, d2, d3, d4, d5] }
  | _ => none }
def WalkMovesWrongFalsely : Prop := walkMovesRow.holds Try.pinned (OpenSpec.ofChange walkMovesWrong)

/-- 'roundelaylaw09.WalkAll': WHATEVER THE INPUT: true; the input reads as it did. -/
def walkAllSpec : ChangeSpec := { name := "walkAll", fn := fun _ => fun
  | [d1, d2, d3] => { results := [.lit (.bool true)], args := [d1, d2, d3] }
  | _ => none }
def walkAllRow : OpenClaim := { program := "ytanomhjekdefeaa", sum := "0246c51b7b1262b3a8c6063bbe80abdc5f0e10c71841d60b14e5cfd305ac1943", func := "roundelay/roundelaylaw09.WalkAll", spec := "walkAll", inPlace := ["internal/bytealg.abigen_runtime_cmpstring", "slices.overlaps[roundelay/api.Entry]", "slices.overlaps[*roundelay/tree.node]"], unfollowed := true, recurses := true, apart := false }
def WalkAllSaid : Prop := walkAllRow.holds Try.pinned (OpenSpec.ofChange walkAllSpec)

/-- ITS FALSE NEIGHBOUR: 'it returns false'. Refute it at one input. -/
def walkAllWrong : ChangeSpec := { name := "walkAll", fn := fun _ => fun
  | [d1, d2, d3] => { results := [.lit (.bool false)], args := [d1, d2, d3] }
  | _ => none }
def WalkAllWrongFalsely : Prop := walkAllRow.holds Try.pinned (OpenSpec.ofChange walkAllWrong)

/-- 'roundelaylaw09.WalkParts': WHATEVER THE INPUT: true; the input reads as it did. -/
def walkPartsSpec : ChangeSpec := { name := "walkParts", fn := fun _ => fun
  | [d1, d2, d3, d4] => { results := [.lit (.bool true)], args := [d1, d2, d3, d4] }
  | _ => none }
def walkPartsRow : OpenClaim := { program := "ytanomhjekdefeaa", sum := "0246c51b7b1262b3a8c6063bbe80abdc5f0e10c71841d60b14e5cfd305ac1943", func := "roundelay/roundelaylaw09.WalkParts", spec := "walkParts", inPlace := ["internal/bytealg.abigen_runtime_cmpstring", "slices.overlaps[roundelay/api.Entry]", "slices.overlaps[*roundelay/tree.node]"], unfollowed := true, recurses := true, apart := false }
def WalkPartsSaid : Prop := walkPartsRow.holds Try.pinned (OpenSpec.ofChange walkPartsSpec)

/-- ITS FALSE NEIGHBOUR: 'it returns false'. Refute it at one input. -/
def walkPartsWrong : ChangeSpec := { name := "walkParts", fn := fun _ => fun
  | [d1, d2, d3, d4] => { results := [.lit (.bool false)], args := [d1, d2, d3, d4] }
  | _ => none }
def WalkPartsWrongFalsely : Prop := walkPartsRow.holds Try.pinned (OpenSpec.ofChange walkPartsWrong)

/-- 'roundelaylaw09.WalkWaits': WHATEVER THE INPUT: true; the input reads as it did. -/
def walkWaitsSpec : ChangeSpec := { name := "walkWaits", fn := fun _ => fun
  | [d1, d2] => { results := [.lit (.bool true)], args := [d1, d2] }
  | _ => none }
def walkWaitsRow : OpenClaim := { program := "ytanomhjekdefeaa", sum := "0246c51b7b1262b3a8c6063bbe80abdc5f0e10c71841d60b14e5cfd305ac1943", func := "roundelay/roundelaylaw09.WalkWaits", spec := "walkWaits", inPlace := ["internal/bytealg.abigen_runtime_cmpstring", "slices.overlaps[roundelay/api.Entry]", "slices.overlaps[*roundelay/tree.node]"], unfollowed := true, recurses := true, apart := false }
def WalkWaitsSaid : Prop := walkWaitsRow.holds Try.pinned (OpenSpec.ofChange walkWaitsSpec)

/-- ITS FALSE NEIGHBOUR: 'it returns false'. Refute it at one input. -/
def walkWaitsWrong : ChangeSpec := { name := "walkWaits", fn := fun _ => fun
  | [d1, d2] => { results := [.lit (.bool false)], args := [d1, d2] }
  | _ => none }
def WalkWaitsWrongFalsely : Prop := walkWaitsRow.holds Try.pinned (OpenSpec.ofChange walkWaitsWrong)

/-- 'roundelaylaw09.WalkResumes': WHATEVER THE INPUT: true; the input reads as it did. -/
def walkResumesSpec : ChangeSpec := { name := "walkResumes", fn := fun _ => fun
  | [d1, d2, d3, d4, d5] => { results := [.lit (.bool true)], args := [d1, d2, d3, d4, d5] }
  | _ => none }
def walkResumesRow : OpenClaim := { program := "ytanomhjekdefeaa", sum := "0246c51b7b1262b3a8c6063bbe80abdc5f0e10c71841d60b14e5cfd305ac1943", func := "roundelay/roundelaylaw09.WalkResumes", spec := "walkResumes", inPlace := ["internal/bytealg.abigen_runtime_cmpstring", "slices.overlaps[roundelay/api.Entry]", "slices.overlaps[*roundelay/tree.node]"], unfollowed := true, recurses := true, apart := false }
def WalkResumesSaid : Prop := walkResumesRow.holds Try.pinned (OpenSpec.ofChange walkResumesSpec)

/-- ITS FALSE NEIGHBOUR: 'it returns false'. Refute it at one input. -/
def walkResumesWrong : ChangeSpec := { name := "walkResumes", fn := fun _ => fun
  | [d1, d2, d3, d4, d5] => { results := [.lit (.bool false)], args := [d1, d2, d3, d4, d5] }
  | _ => none }
def WalkResumesWrongFalsely : Prop := walkResumesRow.holds Try.pinned (OpenSpec.ofChange walkResumesWrong)

/-- 'roundelaylaw09.WalkMarks': WHATEVER THE INPUT: true; the input reads as it did. -/
def walkMarksSpec : ChangeSpec := { name := "walkMarks", fn := fun _ => fun
  | [d1, d2, d3, d4, d5] => { results := [.lit (.bool true)], args := [d1, d2, d3, d4, d5] }
  | _ => none }
def walkMarksRow : OpenClaim := { program := "ytanomhjekdefeaa", sum := "0246c51b7b1262b3a8c6063bbe80abdc5f0e10c71841d60b14e5cfd305ac1943", func := "roundelay/roundelaylaw09.WalkMarks", spec := "walkMarks", inPlace := ["internal/bytealg.abigen_runtime_cmpstring", "slices.overlaps[roundelay/api.Entry]", "slices.overlaps[*roundelay/tree.node]"], unfollowed := true, recurses := true, apart := false }
def WalkMarksSaid : Prop := walkMarksRow.holds Try.pinned (OpenSpec.ofChange walkMarksSpec)

/-- ITS FALSE NEIGHBOUR: 'it returns false'. Refute it at one input. -/
def walkMarksWrong : ChangeSpec := { name := "walkMarks", fn := fun _ => fun
  | [d1, d2, d3, d4, d5] => { results := [.lit (.bool false)], args := [d1, d2, d3, d4, d5] }
  | _ => none }
def WalkMarksWrongFalsely : Prop := walkMarksRow.holds Try.pinned (OpenSpec.ofChange walkMarksWrong)

/- THE SECOND FORM. 'bulk': how many values and letters a reading holds, each counted each time it is reached (what is shared counts as often as it is met; a slice's spare places count too). A statement '..UptoSaid' is the law's where the arguments, and the package variables that the reading takes, are together of bulk at most 1048576: NARROWER than '..Said'. Prove '..Said' where nothing that the law and all that it calls make is longer than what came in: it says more and counts as full. Else prove '..UptoSaid'. A law counts once. -/
mutual
def uptoBulk {H : Type} : DataW H → Nat
  | .lit (.string bytes) => bytes.length + 1
  | .lit _ => 1
  | .nil => 1
  | .ptr d => uptoBulk d + 1
  | .slice elems spare => uptoBulkAll elems + uptoBulkAll spare + 1
  | .agg parts => uptoBulkAll parts + 1
  | .iface _ d => uptoBulk d + 1
  | .map entries => uptoBulkEntries entries + 1
  | .held _ => 1
def uptoBulkAll {H : Type} : List (DataW H) → Nat
  | [] => 0
  | d :: r => uptoBulk d + uptoBulkAll r
def uptoBulkEntries {H : Type} : List (Lit × DataW H) → Nat
  | [] => 0
  | x :: r => uptoBulkEntry x + uptoBulkEntries r
def uptoBulkEntry {H : Type} : Lit × DataW H → Nat
  | (.string bytes, d) => bytes.length + uptoBulk d + 1
  | (_, d) => uptoBulk d + 1
 end
def uptoSmall : (H : Type) → List (DataW H) → Bool := fun _ ds => decide (uptoBulkAll ds ≤ 1048576)
def OpenSpec.upto (s : _root_.Go.ChangeSpec) : _root_.Go.OpenSpec := { _root_.Go.OpenSpec.ofChange s with cond := some uptoSmall }

/-- 'roundelaylaw09.WalkMoves', WHERE WHAT IT READS IS OF BULK AT MOST 1048576: true; the input reads as it did. -/
def walkMovesUptoRow : OpenClaim := { program := "ytanomhjekdefeaa", sum := "0246c51b7b1262b3a8c6063bbe80abdc5f0e10c71841d60b14e5cfd305ac1943", func := "roundelay/roundelaylaw09.WalkMoves", spec := "walkMoves", inPlace := ["internal/bytealg.abigen_runtime_cmpstring", "slices.overlaps[roundelay/api.Entry]", "slices.overlaps[*roundelay/tree.node]"], unfollowed := true, recurses := true, apart := false, narrowed := true }
def WalkMovesUptoSaid : Prop := walkMovesUptoRow.holds Try.pinned (OpenSpec.upto walkMovesSpec)

/-- 'roundelaylaw09.WalkAll', WHERE WHAT IT READS IS OF BULK AT MOST 1048576: true; the input reads as it did. -/
def walkAllUptoRow : OpenClaim := { program := "ytanomhjekdefeaa", sum := "0246c51b7b1262b3a8c6063bbe80abdc5f0e10c71841d60b14e5cfd305ac1943", func := "roundelay/roundelaylaw09.WalkAll", spec := "walkAll", inPlace := ["internal/bytealg.abigen_runtime_cmpstring", "slices.overlaps[roundelay/api.Entry]", "slices.overlaps[*roundelay/tree.node]"], unfollowed := true, recurses := true, apart := false, narrowed := true }
def WalkAllUptoSaid : Prop := walkAllUptoRow.holds Try.pinned (OpenSpec.upto walkAllSpec)

/-- 'roundelaylaw09.WalkParts', WHERE WHAT IT READS IS OF BULK AT MOST 1048576: true; the input reads as it did. -/
def walkPartsUptoRow : OpenClaim := { program := "ytanomhjekdefeaa", sum := "0246c51b7b1262b3a8c6063bbe80abdc5f0e10c71841d60b14e5cfd305ac1943", func := "roundelay/roundelaylaw09.WalkParts", spec := "walkParts", inPlace := ["internal/bytealg.abigen_runtime_cmpstring", "slices.overlaps[roundelay/api.Entry]", "slices.overlaps[*roundelay/tree.node]"], unfollowed := true, recurses := true, apart := false, narrowed := true }
def WalkPartsUptoSaid : Prop := walkPartsUptoRow.holds Try.pinned (OpenSpec.upto walkPartsSpec)

/-- 'roundelaylaw09.WalkWaits', WHERE WHAT IT READS IS OF BULK AT MOST 1048576: true; the input reads as it did. -/
def walkWaitsUptoRow : OpenClaim := { program := "ytanomhjekdefeaa", sum := "0246c51b7b1262b3a8c6063bbe80abdc5f0e10c71841d60b14e5cfd305ac1943", func := "roundelay/roundelaylaw09.WalkWaits", spec := "walkWaits", inPlace := ["internal/bytealg.abigen_runtime_cmpstring", "slices.overlaps[roundelay/api.Entry]", "slices.overlaps[*roundelay/tree.node]"], unfollowed := true, recurses := true, apart := false, narrowed := true }
def WalkWaitsUptoSaid : Prop := walkWaitsUptoRow.holds Try.pinned (OpenSpec.upto walkWaitsSpec)

/-- 'roundelaylaw09.WalkResumes', WHERE WHAT IT READS IS OF BULK AT MOST 1048576: true; the input reads as it did. -/
def walkResumesUptoRow : OpenClaim := { program := "ytanomhjekdefeaa", sum := "0246c51b7b1262b3a8c6063bbe80abdc5f0e10c71841d60b14e5cfd305ac1943", func := "roundelay/roundelaylaw09.WalkResumes", spec := "walkResumes", inPlace := ["internal/bytealg.abigen_runtime_cmpstring", "slices.overlaps[roundelay/api.Entry]", "slices.overlaps[*roundelay/tree.node]"], unfollowed := true, recurses := true, apart := false, narrowed := true }
def WalkResumesUptoSaid : Prop := walkResumesUptoRow.holds Try.pinned (OpenSpec.upto walkResumesSpec)

/-- 'roundelaylaw09.WalkMarks', WHERE WHAT IT READS IS OF BULK AT MOST 1048576: true; the input reads as it did. -/
def walkMarksUptoRow : OpenClaim := { program := "ytanomhjekdefeaa", sum := "0246c51b7b1262b3a8c6063bbe80abdc5f0e10c71841d60b14e5cfd305ac1943", func := "roundelay/roundelaylaw09.WalkMarks", spec := "walkMarks", inPlace := ["internal/bytealg.abigen_runtime_cmpstring", "slices.overlaps[roundelay/api.Entry]", "slices.overlaps[*roundelay/tree.node]"], unfollowed := true, recurses := true, apart := false, narrowed := true }
def WalkMarksUptoSaid : Prop := walkMarksUptoRow.holds Try.pinned (OpenSpec.upto walkMarksSpec)

end Rows
end Go.Proofs.Ytanomhjekdefeaa
