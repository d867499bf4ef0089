/-
  No cell of these rows narrows 'for every input' (looked for: loops, veiled, ifaces, maps, wideKeys, modest, calm, conditions, laid).
  DERIVED. THE GIVEN ROWS OF THIS SEAT. 7 by the template 'for every input the law returns true; each argument reads behind the call as it read before'; 0 by the template 'total and deterministic' (their statements: YtfkhbppkdapkcaaTotals.lean).
  GIVEN WITH THE SEED: the statements are not yours to turn. If you find one false, say at which input.
  Laid BY PROGRAM, IN A SANDBOX (cutbox-rows.mjs): the forced cells as the released guide's own fill.sh prints them over the translation 9baa844e07a314db… (all of the seat's roots in one cut). By AI agents, Wed Nov 11 2026. No macro, syntax, notation, axiom, sorry.
-/
import Derived.Test.YtfkhbppkdapkcaaChecked
import GoSem.Claim
import GoSem.ClaimJoined
import GoSem.ClaimMapViews
import Derived.JoinedTies
import Derived.KernelRfl
namespace Go.Proofs.Ytfkhbppkdapkcaa
/- THE CELL 'sum', in the pinned program and in every row, IS THE sha256 OF THE DUMP (.gsa) THAT YtfkhbppkdapkcaaProg.lean LOADS. Nothing in Lean hashes anything: it is a label: what it is worth is what the hold of that sum in a sandbox is worth. -/
noncomputable def Try.pinned : Pinned := { name := "ytfkhbppkdapkcaa", sum := "9baa844e07a314dbc9c415bda79e15e50c881bd711e7330f3334158ec81276a0", checked := Try.checked }
namespace Rows
def none {H : Type} : Left H := { results := [], args := [] }

/-- 'roundelaylaw08.TreeTurned': WHATEVER THE INPUT: true; the input reads as it did. -/
def treeTurnedSpec : ChangeSpec := { name := "treeTurned", fn := fun _ => fun
  | [d] => { results := [.lit (.bool true)], args := [d] }
  | _ => none }
def treeTurnedRow : OpenClaim := { program := "ytfkhbppkdapkcaa", sum := "9baa844e07a314dbc9c415bda79e15e50c881bd711e7330f3334158ec81276a0", func := "roundelay/roundelaylaw08.TreeTurned", spec := "treeTurned", inPlace := ["internal/bytealg.abigen_runtime_cmpstring", "slices.overlaps[roundelay/api.Entry]", "slices.overlaps[*roundelay/tree.node]"], unfollowed := true, recurses := true, apart := false }
def TreeTurnedSaid : Prop := treeTurnedRow.holds Try.pinned (OpenSpec.ofChange treeTurnedSpec)

/-- ITS FALSE NEIGHBOUR: 'it returns false'. Refute it at one input. -/
def treeTurnedWrong : ChangeSpec := { name := "treeTurned", fn := fun _ => fun
  | [d] => { results := [.lit (.bool false)], args := [d] }
  | _ => none }
def TreeTurnedWrongFalsely : Prop := treeTurnedRow.holds Try.pinned (OpenSpec.ofChange treeTurnedWrong)

/-- 'roundelaylaw08.TreeRaw': WHATEVER THE INPUT: true; the input reads as it did. -/
def treeRawSpec : ChangeSpec := { name := "treeRaw", fn := fun _ => fun
  | [d1, d2] => { results := [.lit (.bool true)], args := [d1, d2] }
  | _ => none }
def treeRawRow : OpenClaim := { program := "ytfkhbppkdapkcaa", sum := "9baa844e07a314dbc9c415bda79e15e50c881bd711e7330f3334158ec81276a0", func := "roundelay/roundelaylaw08.TreeRaw", spec := "treeRaw", inPlace := ["internal/bytealg.abigen_runtime_cmpstring", "slices.overlaps[roundelay/api.Entry]", "slices.overlaps[*roundelay/tree.node]"], unfollowed := true, recurses := true, apart := false }
def TreeRawSaid : Prop := treeRawRow.holds Try.pinned (OpenSpec.ofChange treeRawSpec)

/-- ITS FALSE NEIGHBOUR: 'it returns false'. Refute it at one input. -/
def treeRawWrong : ChangeSpec := { name := "treeRaw", fn := fun _ => fun
  | [d1, d2] => { results := [.lit (.bool false)], args := [d1, d2] }
  | _ => none }
def TreeRawWrongFalsely : Prop := treeRawRow.holds Try.pinned (OpenSpec.ofChange treeRawWrong)

/-- 'roundelaylaw08.TreeNodes': WHATEVER THE INPUT: true; the input reads as it did. -/
def treeNodesSpec : ChangeSpec := { name := "treeNodes", fn := fun _ => fun
  | [d] => { results := [.lit (.bool true)], args := [d] }
  | _ => none }
def treeNodesRow : OpenClaim := { program := "ytfkhbppkdapkcaa", sum := "9baa844e07a314dbc9c415bda79e15e50c881bd711e7330f3334158ec81276a0", func := "roundelay/roundelaylaw08.TreeNodes", spec := "treeNodes", inPlace := ["internal/bytealg.abigen_runtime_cmpstring", "slices.overlaps[roundelay/api.Entry]", "slices.overlaps[*roundelay/tree.node]"], unfollowed := true, recurses := true, apart := false }
def TreeNodesSaid : Prop := treeNodesRow.holds Try.pinned (OpenSpec.ofChange treeNodesSpec)

/-- ITS FALSE NEIGHBOUR: 'it returns false'. Refute it at one input. -/
def treeNodesWrong : ChangeSpec := { name := "treeNodes", fn := fun _ => fun
  | [d] => { results := [.lit (.bool false)], args := [d] }
  | _ => none }
def TreeNodesWrongFalsely : Prop := treeNodesRow.holds Try.pinned (OpenSpec.ofChange treeNodesWrong)

/-- 'roundelaylaw08.TreeSteps': WHATEVER THE INPUT: true; the input reads as it did. -/
def treeStepsSpec : ChangeSpec := { name := "treeSteps", fn := fun _ => fun
  | [d1, d2, d3, d4] => { results := [.lit (.bool true)], args := [d1, d2, d3, d4] }
  | _ => none }
def treeStepsRow : OpenClaim := { program := "ytfkhbppkdapkcaa", sum := "9baa844e07a314dbc9c415bda79e15e50c881bd711e7330f3334158ec81276a0", func := "roundelay/roundelaylaw08.TreeSteps", spec := "treeSteps", inPlace := ["internal/bytealg.abigen_runtime_cmpstring", "slices.overlaps[roundelay/api.Entry]", "slices.overlaps[*roundelay/tree.node]"], unfollowed := true, recurses := true, apart := false }
def TreeStepsSaid : Prop := treeStepsRow.holds Try.pinned (OpenSpec.ofChange treeStepsSpec)

/-- ITS FALSE NEIGHBOUR: 'it returns false'. Refute it at one input. -/
def treeStepsWrong : ChangeSpec := { name := "treeSteps", fn := fun _ => fun
  | [d1, d2, d3, d4] => { results := [.lit (.bool false)], args := [d1, d2, d3, d4] }
  | _ => none }
def TreeStepsWrongFalsely : Prop := treeStepsRow.holds Try.pinned (OpenSpec.ofChange treeStepsWrong)

/-- 'roundelaylaw08.TreeDrained': WHATEVER THE INPUT: true; the input reads as it did. -/
def treeDrainedSpec : ChangeSpec := { name := "treeDrained", fn := fun _ => fun
  | [d1, d2] => { results := [.lit (.bool true)], args := [d1, d2] }
  | _ => none }
def treeDrainedRow : OpenClaim := { program := "ytfkhbppkdapkcaa", sum := "9baa844e07a314dbc9c415bda79e15e50c881bd711e7330f3334158ec81276a0", func := "roundelay/roundelaylaw08.TreeDrained", spec := "treeDrained", inPlace := ["internal/bytealg.abigen_runtime_cmpstring", "slices.overlaps[roundelay/api.Entry]", "slices.overlaps[*roundelay/tree.node]"], unfollowed := true, recurses := true, apart := false }
def TreeDrainedSaid : Prop := treeDrainedRow.holds Try.pinned (OpenSpec.ofChange treeDrainedSpec)

/-- ITS FALSE NEIGHBOUR: 'it returns false'. Refute it at one input. -/
def treeDrainedWrong : ChangeSpec := { name := "treeDrained", fn := fun _ => fun
  | [d1, d2] => { results := [.lit (.bool false)], args := [d1, d2] }
  | _ => none }
def TreeDrainedWrongFalsely : Prop := treeDrainedRow.holds Try.pinned (OpenSpec.ofChange treeDrainedWrong)

/-- 'roundelaylaw08.TreeMany': WHATEVER THE INPUT: true; the input reads as it did. -/
def treeManySpec : ChangeSpec := { name := "treeMany", fn := fun _ => fun
  | [d1, d2, d3] => { results := [.lit (.bool true)], args := [d1, d2, d3] }
  | _ => none }
def treeManyRow : OpenClaim := { program := "ytfkhbppkdapkcaa", sum := "9baa844e07a314dbc9c415bda79e15e50c881bd711e7330f3334158ec81276a0", func := "roundelay/roundelaylaw08.TreeMany", spec := "treeMany", inPlace := ["internal/bytealg.abigen_runtime_cmpstring", "slices.overlaps[roundelay/api.Entry]", "slices.overlaps[*roundelay/tree.node]"], unfollowed := true, recurses := true, apart := false }
def TreeManySaid : Prop := treeManyRow.holds Try.pinned (OpenSpec.ofChange treeManySpec)

/-- ITS FALSE NEIGHBOUR: 'it returns false'. Refute it at one input. -/
def treeManyWrong : ChangeSpec := { name := "treeMany", fn := fun _ => fun
  | [d1, d2, d3] => { results := [.lit (.bool false)], args := [d1, d2, d3] }
  | _ => none }
def TreeManyWrongFalsely : Prop := treeManyRow.holds Try.pinned (OpenSpec.ofChange treeManyWrong)

/-- 'roundelaylaw08.TreeActs': WHATEVER THE INPUT: true; the input reads as it did. -/
def treeActsSpec : ChangeSpec := { name := "treeActs", fn := fun _ => fun
  | [d] => { results := [.lit (.bool true)], args := [d] }
  | _ => none }
def treeActsRow : OpenClaim := { program := "ytfkhbppkdapkcaa", sum := "9baa844e07a314dbc9c415bda79e15e50c881bd711e7330f3334158ec81276a0", func := "roundelay/roundelaylaw08.TreeActs", spec := "treeActs", inPlace := ["internal/bytealg.abigen_runtime_cmpstring", "slices.overlaps[roundelay/api.Entry]", "slices.overlaps[*roundelay/tree.node]"], unfollowed := true, recurses := true, apart := false }
def TreeActsSaid : Prop := treeActsRow.holds Try.pinned (OpenSpec.ofChange treeActsSpec)

/-- ITS FALSE NEIGHBOUR: 'it returns false'. Refute it at one input. -/
def treeActsWrong : ChangeSpec := { name := "treeActs", fn := fun _ => fun
  | [d] => { results := [.lit (.bool false)], args := [d] }
  | _ => none }
def TreeActsWrongFalsely : Prop := treeActsRow.holds Try.pinned (OpenSpec.ofChange treeActsWrong)

/- THE SECOND FORM. 'bulk': how many values and letters a reading holds, each counted each time it is reached (what is shared counts as often as it is met; a slice's spare places count too). A statement '..UptoSaid' is the law's where the arguments, and the package variables that the reading takes, are together of bulk at most 1048576: NARROWER than '..Said'. Prove '..Said' where nothing that the law and all that it calls make is longer than what came in: it says more and counts as full. Else prove '..UptoSaid'. A law counts once. -/
mutual
def uptoBulk {H : Type} : DataW H → Nat
  | .lit (.string bytes) => bytes.length + 1
  | .lit _ => 1
  | .nil => 1
  | .ptr d => uptoBulk d + 1
  | .slice elems spare => uptoBulkAll elems + uptoBulkAll spare + 1
  | .agg parts => uptoBulkAll parts + 1
  | .iface _ d => uptoBulk d + 1
  | .map entries => uptoBulkEntries entries + 1
  | .held _ => 1
def uptoBulkAll {H : Type} : List (DataW H) → Nat
  | [] => 0
  | d :: r => uptoBulk d + uptoBulkAll r
def uptoBulkEntries {H : Type} : List (Lit × DataW H) → Nat
  | [] => 0
  | x :: r => uptoBulkEntry x + uptoBulkEntries r
def uptoBulkEntry {H : Type} : Lit × DataW H → Nat
  | (.string bytes, d) => bytes.length + uptoBulk d + 1
  | (_, d) => uptoBulk d + 1
 end
def uptoSmall : (H : Type) → List (DataW H) → Bool := fun _ ds => decide (uptoBulkAll ds ≤ 1048576)
def OpenSpec.upto (s : _root_.Go.ChangeSpec) : _root_.Go.OpenSpec := { _root_.Go.OpenSpec.ofChange s with cond := some uptoSmall }

/-- 'roundelaylaw08.TreeTurned', WHERE WHAT IT READS IS OF BULK AT MOST 1048576: true; the input reads as it did. -/
def treeTurnedUptoRow : OpenClaim := { program := "ytfkhbppkdapkcaa", sum := "9baa844e07a314dbc9c415bda79e15e50c881bd711e7330f3334158ec81276a0", func := "roundelay/roundelaylaw08.TreeTurned", spec := "treeTurned", inPlace := ["internal/bytealg.abigen_runtime_cmpstring", "slices.overlaps[roundelay/api.Entry]", "slices.overlaps[*roundelay/tree.node]"], unfollowed := true, recurses := true, apart := false, narrowed := true }
def TreeTurnedUptoSaid : Prop := treeTurnedUptoRow.holds Try.pinned (OpenSpec.upto treeTurnedSpec)

/-- 'roundelaylaw08.TreeRaw', WHERE WHAT IT READS IS OF BULK AT MOST 1048576: true; the input reads as it did. -/
def treeRawUptoRow : OpenClaim := { program := "ytfkhbppkdapkcaa", sum := "9baa844e07a314dbc9c415bda79e15e50c881bd711e7330f3334158ec81276a0", func := "roundelay/roundelaylaw08.TreeRaw", spec := "treeRaw", inPlace := ["internal/bytealg.abigen_runtime_cmpstring", "slices.overlaps[roundelay/api.Entry]", "slices.overlaps[*roundelay/tree.node]"], unfollowed := true, recurses := true, apart := false, narrowed := true }
def TreeRawUptoSaid : Prop := treeRawUptoRow.holds Try.pinned (OpenSpec.upto treeRawSpec)

/-- 'roundelaylaw08.TreeNodes', WHERE WHAT IT READS IS OF BULK AT MOST 1048576: true; the input reads as it did. -/
def treeNodesUptoRow : OpenClaim := { program := "ytfkhbppkdapkcaa", sum := "9baa844e07a314dbc9c415bda79e15e50c881bd711e7330f3334158ec81276a0", func := "roundelay/roundelaylaw08.TreeNodes", spec := "treeNodes", inPlace := ["internal/bytealg.abigen_runtime_cmpstring", "slices.overlaps[roundelay/api.Entry]", "slices.overlaps[*roundelay/tree.node]"], unfollowed := true, recurses := true, apart := false, narrowed := true }
def TreeNodesUptoSaid : Prop := treeNodesUptoRow.holds Try.pinned (OpenSpec.upto treeNodesSpec)

/-- 'roundelaylaw08.TreeSteps', WHERE WHAT IT READS IS OF BULK AT MOST 1048576: true; the input reads as it did. -/
def treeStepsUptoRow : OpenClaim := { program := "ytfkhbppkdapkcaa", sum := "9baa844e07a314dbc9c415bda79e15e50c881bd711e7330f3334158ec81276a0", func := "roundelay/roundelaylaw08.TreeSteps", spec := "treeSteps", inPlace := ["internal/bytealg.abigen_runtime_cmpstring", "slices.overlaps[roundelay/api.Entry]", "slices.overlaps[*roundelay/tree.node]"], unfollowed := true, recurses := true, apart := false, narrowed := true }
def TreeStepsUptoSaid : Prop := treeStepsUptoRow.holds Try.pinned (OpenSpec.upto treeStepsSpec)

/-- 'roundelaylaw08.TreeDrained', WHERE WHAT IT READS IS OF BULK AT MOST 1048576: true; the input reads as it did. -/
def treeDrainedUptoRow : OpenClaim := { program := "ytfkhbppkdapkcaa", sum := "9baa844e07a314dbc9c415bda79e15e50c881bd711e7330f3334158ec81276a0", func := "roundelay/roundelaylaw08.TreeDrained", spec := "treeDrained", inPlace := ["internal/bytealg.abigen_runtime_cmpstring", "slices.overlaps[roundelay/api.Entry]", "slices.overlaps[*roundelay/tree.node]"], unfollowed := true, recurses := true, apart := false, narrowed := true }
def TreeDrainedUptoSaid : Prop := treeDrainedUptoRow.holds Try.pinned (OpenSpec.upto treeDrainedSpec)

/-- 'roundelaylaw08.TreeMany', WHERE WHAT IT READS IS OF BULK AT MOST 1048576: true; the input reads as it did. -/
def treeManyUptoRow : OpenClaim := { program := "ytfkhbppkdapkcaa", sum := "9baa844e07a314dbc9c415bda79e15e50c881bd711e7330f3334158ec81276a0", func := "roundelay/roundelaylaw08.TreeMany", spec := "treeMany", inPlace := ["internal/bytealg.abigen_runtime_cmpstring", "slices.overlaps[roundelay/api.Entry]", "slices.overlaps[*roundelay/tree.node]"], unfollowed := true, recurses := true, apart := false, narrowed := true }
def TreeManyUptoSaid : Prop := treeManyUptoRow.holds Try.pinned (OpenSpec.upto treeManySpec)

/-- 'roundelaylaw08.TreeActs', WHERE WHAT IT READS IS OF BULK AT MOST 1048576: true; the input reads as it did. -/
def treeActsUptoRow : OpenClaim := { program := "ytfkhbppkdapkcaa", sum := "9baa844e07a314dbc9c415bda79e15e50c881bd711e7330f3334158ec81276a0", func := "roundelay/roundelaylaw08.TreeActs", spec := "treeActs", inPlace := ["internal/bytealg.abigen_runtime_cmpstring", "slices.overlaps[roundelay/api.Entry]", "slices.overlaps[*roundelay/tree.node]"], unfollowed := true, recurses := true, apart := false, narrowed := true }
def TreeActsUptoSaid : Prop := treeActsUptoRow.holds Try.pinned (OpenSpec.upto treeActsSpec)

end Rows
end Go.Proofs.Ytfkhbppkdapkcaa
