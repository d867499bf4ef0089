/-
  No cell of these rows narrows 'for every input' (looked for: loops, veiled, ifaces, maps, wideKeys, modest, calm, conditions, laid).
  DERIVED. THE GIVEN ROWS OF THIS SEAT. 6 by the template 'for every input the law returns true; each argument reads behind the call as it read before'; 0 by the template 'total and deterministic' (their statements: YtaoamkkgiiiejaaTotals.lean).
  GIVEN WITH THE SEED: the statements are not yours to turn. If you find one false, say at which input.
  Laid BY PROGRAM, IN A SANDBOX (cutbox-rows.mjs): the forced cells as the released guide's own fill.sh prints them over the translation 7d313b92c9b27cfd… (all of the seat's roots in one cut). By AI agents, Wed Nov 11 2026. No macro, syntax, notation, axiom, sorry.
-/
import Derived.Test.YtaoamkkgiiiejaaChecked
import GoSem.Claim
import GoSem.ClaimJoined
import GoSem.ClaimMapViews
import Derived.JoinedTies
import Derived.KernelRfl
namespace Go.Proofs.Ytaoamkkgiiiejaa
/- THE CELL 'sum', in the pinned program and in every row, IS THE sha256 OF THE DUMP (.gsa) THAT YtaoamkkgiiiejaaProg.lean LOADS. Nothing in Lean hashes anything: it is a label: what it is worth is what the hold of that sum in a sandbox is worth. -/
noncomputable def Try.pinned : Pinned := { name := "ytaoamkkgiiiejaa", sum := "7d313b92c9b27cfdc26f49a339de3b83827faf4904b0c5008fb93a1fc39986e5", checked := Try.checked }
namespace Rows
def none {H : Type} : Left H := { results := [], args := [] }

/-- 'roundelaylaw18.SideAll': WHATEVER THE INPUT: true; the input reads as it did. -/
def sideAllSpec : ChangeSpec := { name := "sideAll", fn := fun _ => fun
  | [d1, d2] => { results := [.lit (.bool true)], args := [d1, d2] }
  | _ => none }
def sideAllRow : OpenClaim := { program := "ytaoamkkgiiiejaa", sum := "7d313b92c9b27cfdc26f49a339de3b83827faf4904b0c5008fb93a1fc39986e5", func := "roundelay/roundelaylaw18.SideAll", spec := "sideAll", inPlace := ["internal/bytealg.abigen_runtime_cmpstring", "slices.overlaps[roundelay/api.Entry]", "slices.overlaps[*roundelay/tree.node]"], unfollowed := true, recurses := true, plainKeys := false, apart := false }
def SideAllSaid : Prop := sideAllRow.holds Try.pinned (OpenSpec.ofChange sideAllSpec)

/-- ITS FALSE NEIGHBOUR: 'it returns false'. Refute it at one input. -/
def sideAllWrong : ChangeSpec := { name := "sideAll", fn := fun _ => fun
  | [d1, d2] => { results := [.lit (.bool false)], args := [d1, d2] }
  | _ => none }
def SideAllWrongFalsely : Prop := sideAllRow.holds Try.pinned (OpenSpec.ofChange sideAllWrong)

/-- 'roundelaylaw18.SideLast': WHATEVER THE INPUT: true; the input reads as it did. -/
def sideLastSpec : ChangeSpec := { name := "sideLast", fn := fun _ => fun
  | [d1, d2] => { results := [.lit (.bool true)], args := [d1, d2] }
  | _ => none }
def sideLastRow : OpenClaim := { program := "ytaoamkkgiiiejaa", sum := "7d313b92c9b27cfdc26f49a339de3b83827faf4904b0c5008fb93a1fc39986e5", func := "roundelay/roundelaylaw18.SideLast", spec := "sideLast", inPlace := ["internal/bytealg.abigen_runtime_cmpstring", "slices.overlaps[roundelay/api.Entry]", "slices.overlaps[*roundelay/tree.node]"], unfollowed := true, recurses := true, plainKeys := false, apart := false }
def SideLastSaid : Prop := sideLastRow.holds Try.pinned (OpenSpec.ofChange sideLastSpec)

/-- ITS FALSE NEIGHBOUR: 'it returns false'. Refute it at one input. -/
def sideLastWrong : ChangeSpec := { name := "sideLast", fn := fun _ => fun
  | [d1, d2] => { results := [.lit (.bool false)], args := [d1, d2] }
  | _ => none }
def SideLastWrongFalsely : Prop := sideLastRow.holds Try.pinned (OpenSpec.ofChange sideLastWrong)

/-- 'roundelaylaw18.SideDrains': WHATEVER THE INPUT: true; the input reads as it did. -/
def sideDrainsSpec : ChangeSpec := { name := "sideDrains", fn := fun _ => fun
  | [d1, d2] => { results := [.lit (.bool true)], args := [d1, d2] }
  | _ => none }
def sideDrainsRow : OpenClaim := { program := "ytaoamkkgiiiejaa", sum := "7d313b92c9b27cfdc26f49a339de3b83827faf4904b0c5008fb93a1fc39986e5", func := "roundelay/roundelaylaw18.SideDrains", spec := "sideDrains", inPlace := ["internal/bytealg.abigen_runtime_cmpstring", "slices.overlaps[roundelay/api.Entry]", "slices.overlaps[*roundelay/tree.node]"], unfollowed := true, recurses := true, plainKeys := false, apart := false }
def SideDrainsSaid : Prop := sideDrainsRow.holds Try.pinned (OpenSpec.ofChange sideDrainsSpec)

/-- ITS FALSE NEIGHBOUR: 'it returns false'. Refute it at one input. -/
def sideDrainsWrong : ChangeSpec := { name := "sideDrains", fn := fun _ => fun
  | [d1, d2] => { results := [.lit (.bool false)], args := [d1, d2] }
  | _ => none }
def SideDrainsWrongFalsely : Prop := sideDrainsRow.holds Try.pinned (OpenSpec.ofChange sideDrainsWrong)

/-- 'roundelaylaw18.SideParts': WHATEVER THE INPUT: true; the input reads as it did. -/
def sidePartsSpec : ChangeSpec := { name := "sideParts", fn := fun _ => fun
  | [d1, d2] => { results := [.lit (.bool true)], args := [d1, d2] }
  | _ => none }
def sidePartsRow : OpenClaim := { program := "ytaoamkkgiiiejaa", sum := "7d313b92c9b27cfdc26f49a339de3b83827faf4904b0c5008fb93a1fc39986e5", func := "roundelay/roundelaylaw18.SideParts", spec := "sideParts", inPlace := ["internal/bytealg.abigen_runtime_cmpstring", "slices.overlaps[roundelay/api.Entry]", "slices.overlaps[*roundelay/tree.node]"], unfollowed := true, recurses := true, plainKeys := false, apart := false }
def SidePartsSaid : Prop := sidePartsRow.holds Try.pinned (OpenSpec.ofChange sidePartsSpec)

/-- ITS FALSE NEIGHBOUR: 'it returns false'. Refute it at one input. -/
def sidePartsWrong : ChangeSpec := { name := "sideParts", fn := fun _ => fun
  | [d1, d2] => { results := [.lit (.bool false)], args := [d1, d2] }
  | _ => none }
def SidePartsWrongFalsely : Prop := sidePartsRow.holds Try.pinned (OpenSpec.ofChange sidePartsWrong)

/-- 'roundelaylaw18.SideBetween': WHATEVER THE INPUT: true; the input reads as it did. -/
def sideBetweenSpec : ChangeSpec := { name := "sideBetween", fn := fun _ => fun
  | [d1, d2] => { results := [.lit (.bool true)], args := [d1, d2] }
  | _ => none }
def sideBetweenRow : OpenClaim := { program := "ytaoamkkgiiiejaa", sum := "7d313b92c9b27cfdc26f49a339de3b83827faf4904b0c5008fb93a1fc39986e5", func := "roundelay/roundelaylaw18.SideBetween", spec := "sideBetween", inPlace := ["internal/bytealg.abigen_runtime_cmpstring", "slices.overlaps[roundelay/api.Entry]", "slices.overlaps[*roundelay/tree.node]"], unfollowed := true, recurses := true, plainKeys := false, apart := false }
def SideBetweenSaid : Prop := sideBetweenRow.holds Try.pinned (OpenSpec.ofChange sideBetweenSpec)

/-- ITS FALSE NEIGHBOUR: 'it returns false'. Refute it at one input. -/
def sideBetweenWrong : ChangeSpec := { name := "sideBetween", fn := fun _ => fun
  | [d1, d2] => { results := [.lit (.bool false)], args := [d1, d2] }
  | _ => none }
def SideBetweenWrongFalsely : Prop := sideBetweenRow.holds Try.pinned (OpenSpec.ofChange sideBetweenWrong)

/-- 'roundelaylaw18.SideTwice': WHATEVER THE INPUT: true; the input reads as it did. -/
def sideTwiceSpec : ChangeSpec := { name := "sideTwice", fn := fun _ => fun
  | [d] => { results := [.lit (.bool true)], args := [d] }
  | _ => none }
def sideTwiceRow : OpenClaim := { program := "ytaoamkkgiiiejaa", sum := "7d313b92c9b27cfdc26f49a339de3b83827faf4904b0c5008fb93a1fc39986e5", func := "roundelay/roundelaylaw18.SideTwice", spec := "sideTwice", inPlace := ["internal/bytealg.abigen_runtime_cmpstring", "slices.overlaps[roundelay/api.Entry]", "slices.overlaps[*roundelay/tree.node]"], unfollowed := true, recurses := true, plainKeys := false, apart := false }
def SideTwiceSaid : Prop := sideTwiceRow.holds Try.pinned (OpenSpec.ofChange sideTwiceSpec)

/-- ITS FALSE NEIGHBOUR: 'it returns false'. Refute it at one input. -/
def sideTwiceWrong : ChangeSpec := { name := "sideTwice", fn := fun _ => fun
  | [d] => { results := [.lit (.bool false)], args := [d] }
  | _ => none }
def SideTwiceWrongFalsely : Prop := sideTwiceRow.holds Try.pinned (OpenSpec.ofChange sideTwiceWrong)

/- THE SECOND FORM. 'bulk': how many values and letters a reading holds, each counted each time it is reached (what is shared counts as often as it is met; a slice's spare places count too). A statement '..UptoSaid' is the law's where the arguments, and the package variables that the reading takes, are together of bulk at most 1048576: NARROWER than '..Said'. Prove '..Said' where nothing that the law and all that it calls make is longer than what came in: it says more and counts as full. Else prove '..UptoSaid'. A law counts once. -/
mutual
def uptoBulk {H : Type} : DataW H → Nat
  | .lit (.string bytes) => bytes.length + 1
  | .lit _ => 1
  | .nil => 1
  | .ptr d => uptoBulk d + 1
  | .slice elems spare => uptoBulkAll elems + uptoBulkAll spare + 1
  | .agg parts => uptoBulkAll parts + 1
  | .iface _ d => uptoBulk d + 1
  | .map entries => uptoBulkEntries entries + 1
  | .held _ => 1
def uptoBulkAll {H : Type} : List (DataW H) → Nat
  | [] => 0
  | d :: r => uptoBulk d + uptoBulkAll r
def uptoBulkEntries {H : Type} : List (Lit × DataW H) → Nat
  | [] => 0
  | x :: r => uptoBulkEntry x + uptoBulkEntries r
def uptoBulkEntry {H : Type} : Lit × DataW H → Nat
  | (.string bytes, d) => bytes.length + uptoBulk d + 1
  | (_, d) => uptoBulk d + 1
 end
def uptoSmall : (H : Type) → List (DataW H) → Bool := fun _ ds => decide (uptoBulkAll ds ≤ 1048576)
def OpenSpec.upto (s : _root_.Go.ChangeSpec) : _root_.Go.OpenSpec := { _root_.Go.OpenSpec.ofChange s with cond := some uptoSmall }

/-- 'roundelaylaw18.SideAll', WHERE WHAT IT READS IS OF BULK AT MOST 1048576: true; the input reads as it did. -/
def sideAllUptoRow : OpenClaim := { program := "ytaoamkkgiiiejaa", sum := "7d313b92c9b27cfdc26f49a339de3b83827faf4904b0c5008fb93a1fc39986e5", func := "roundelay/roundelaylaw18.SideAll", spec := "sideAll", inPlace := ["internal/bytealg.abigen_runtime_cmpstring", "slices.overlaps[roundelay/api.Entry]", "slices.overlaps[*roundelay/tree.node]"], unfollowed := true, recurses := true, plainKeys := false, apart := false, narrowed := true }
def SideAllUptoSaid : Prop := sideAllUptoRow.holds Try.pinned (OpenSpec.upto sideAllSpec)

/-- 'roundelaylaw18.SideLast', WHERE WHAT IT READS IS OF BULK AT MOST 1048576: true; the input reads as it did. -/
def sideLastUptoRow : OpenClaim := { program := "ytaoamkkgiiiejaa", sum := "7d313b92c9b27cfdc26f49a339de3b83827faf4904b0c5008fb93a1fc39986e5", func := "roundelay/roundelaylaw18.SideLast", spec := "sideLast", inPlace := ["internal/bytealg.abigen_runtime_cmpstring", "slices.overlaps[roundelay/api.Entry]", "slices.overlaps[*roundelay/tree.node]"], unfollowed := true, recurses := true, plainKeys := false, apart := false, narrowed := true }
def SideLastUptoSaid : Prop := sideLastUptoRow.holds Try.pinned (OpenSpec.upto sideLastSpec)

/-- 'roundelaylaw18.SideDrains', WHERE WHAT IT READS IS OF BULK AT MOST 1048576: true; the input reads as it did. -/
def sideDrainsUptoRow : OpenClaim := { program := "ytaoamkkgiiiejaa", sum := "7d313b92c9b27cfdc26f49a339de3b83827faf4904b0c5008fb93a1fc39986e5", func := "roundelay/roundelaylaw18.SideDrains", spec := "sideDrains", inPlace := ["internal/bytealg.abigen_runtime_cmpstring", "slices.overlaps[roundelay/api.Entry]", "slices.overlaps[*roundelay/tree.node]"], unfollowed := true, recurses := true, plainKeys := false, apart := false, narrowed := true }
def SideDrainsUptoSaid : Prop := sideDrainsUptoRow.holds Try.pinned (OpenSpec.upto sideDrainsSpec)

/-- 'roundelaylaw18.SideParts', WHERE WHAT IT READS IS OF BULK AT MOST 1048576: true; the input reads as it did. -/
def sidePartsUptoRow : OpenClaim := { program := "ytaoamkkgiiiejaa", sum := "7d313b92c9b27cfdc26f49a339de3b83827faf4904b0c5008fb93a1fc39986e5", func := "roundelay/roundelaylaw18.SideParts", spec := "sideParts", inPlace := ["internal/bytealg.abigen_runtime_cmpstring", "slices.overlaps[roundelay/api.Entry]", "slices.overlaps[*roundelay/tree.node]"], unfollowed := true, recurses := true, plainKeys := false, apart := false, narrowed := true }
def SidePartsUptoSaid : Prop := sidePartsUptoRow.holds Try.pinned (OpenSpec.upto sidePartsSpec)

/-- 'roundelaylaw18.SideBetween', WHERE WHAT IT READS IS OF BULK AT MOST 1048576: true; the input reads as it did. -/
def sideBetweenUptoRow : OpenClaim := { program := "ytaoamkkgiiiejaa", sum := "7d313b92c9b27cfdc26f49a339de3b83827faf4904b0c5008fb93a1fc39986e5", func := "roundelay/roundelaylaw18.SideBetween", spec := "sideBetween", inPlace := ["internal/bytealg.abigen_runtime_cmpstring", "slices.overlaps[roundelay/api.Entry]", "slices.overlaps[*roundelay/tree.node]"], unfollowed := true, recurses := true, plainKeys := false, apart := false, narrowed := true }
def SideBetweenUptoSaid : Prop := sideBetweenUptoRow.holds Try.pinned (OpenSpec.upto sideBetweenSpec)

/-- 'roundelaylaw18.SideTwice', WHERE WHAT IT READS IS OF BULK AT MOST 1048576: true; the input reads as it did. -/
def sideTwiceUptoRow : OpenClaim := { program := "ytaoamkkgiiiejaa", sum := "7d313b92c9b27cfdc26f49a339de3b83827faf4904b0c5008fb93a1fc39986e5", func := "roundelay/roundelaylaw18.SideTwice", spec := "sideTwice", inPlace := ["internal/bytealg.abigen_runtime_cmpstring", "slices.overlaps[roundelay/api.Entry]", "slices.overlaps[*roundelay/tree.node]"], unfollowed := true, recurses := true, plainKeys := false, apart := false, narrowed := true }
def SideTwiceUptoSaid : Prop := sideTwiceUptoRow.holds Try.pinned (OpenSpec.upto sideTwiceSpec)

end Rows
end Go.Proofs.Ytaoamkkgiiiejaa
