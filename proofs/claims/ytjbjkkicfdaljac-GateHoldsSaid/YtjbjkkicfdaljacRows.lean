/-
  No cell of these rows narrows 'for every input' (looked for: loops, veiled, ifaces, maps, wideKeys, modest, calm, conditions, laid).
  DERIVED. THE GIVEN ROWS OF THIS SEAT. 6 by the template 'for every input the law returns true; each argument reads behind the call as it read before'; 0 by the template 'total and deterministic' (their statements: YtjbjkkicfdaljacTotals.lean).
  GIVEN WITH THE SEED: the statements are not yours to turn. If you find one false, say at which input.
  Laid BY PROGRAM, IN A SANDBOX (cutbox-rows.mjs): the forced cells as the released guide's own fill.sh prints them over the translation 5e306f7e5cbbe1a0… (all of the seat's roots in one cut). By AI agents, Wed Nov 11 2026. No macro, syntax, notation, axiom, sorry.
-/
import Derived.Test.YtjbjkkicfdaljacChecked
import GoSem.Claim
import GoSem.ClaimJoined
import GoSem.ClaimMapViews
import Derived.JoinedTies
import Derived.KernelRfl
namespace Go.Proofs.Ytjbjkkicfdaljac
/- THE CELL 'sum', in the pinned program and in every row, IS THE sha256 OF THE DUMP (.gsa) THAT YtjbjkkicfdaljacProg.lean LOADS. Nothing in Lean hashes anything: it is a label: what it is worth is what the hold of that sum in a sandbox is worth. -/
noncomputable def Try.pinned : Pinned := { name := "ytjbjkkicfdaljac", sum := "5e306f7e5cbbe1a002aeb4e722a802fe1b9b2e8abaf2cb5899ec029e891cc03d", checked := Try.checked }
namespace Rows
def none {H : Type} : Left H := { results := [], args := [] }

/-- 'roundelaylaw12.GateActs': WHATEVER THE INPUT: true; the input reads as it did. -/
def gateActsSpec : ChangeSpec := { name := "gateActs", fn := fun _ => fun
  | [d1, d2, d3] => { results := [.lit (.bool true)], args := [d1, d2, d3] }
  | _ => none }
def gateActsRow : OpenClaim := { program := "ytjbjkkicfdaljac", sum := "5e306f7e5cbbe1a002aeb4e722a802fe1b9b2e8abaf2cb5899ec029e891cc03d", func := "roundelay/roundelaylaw12.GateActs", spec := "gateActs", unfollowed := true, recurses := true, apart := false }
def GateActsSaid : Prop := gateActsRow.holds Try.pinned (OpenSpec.ofChange gateActsSpec)

/-- ITS FALSE NEIGHBOUR: 'it returns false'. Refute it at one input. -/
def gateActsWrong : ChangeSpec := { name := "gateActs", fn := fun _ => fun
  | [d1, d2, d3] => { results := [.lit (.bool false)], args := [d1, d2, d3] }
  | _ => none }
def GateActsWrongFalsely : Prop := gateActsRow.holds Try.pinned (OpenSpec.ofChange gateActsWrong)

/-- 'roundelaylaw12.GateHolds': WHATEVER THE INPUT: true; the input reads as it did. -/
def gateHoldsSpec : ChangeSpec := { name := "gateHolds", fn := fun _ => fun
  | [d1, d2, d3] => { results := [.lit (.bool true)], args := [d1, d2, d3] }
  | _ => none }
def gateHoldsRow : OpenClaim := { program := "ytjbjkkicfdaljac", sum := "5e306f7e5cbbe1a002aeb4e722a802fe1b9b2e8abaf2cb5899ec029e891cc03d", func := "roundelay/roundelaylaw12.GateHolds", spec := "gateHolds", unfollowed := true, recurses := true, apart := false }
def GateHoldsSaid : Prop := gateHoldsRow.holds Try.pinned (OpenSpec.ofChange gateHoldsSpec)

/-- ITS FALSE NEIGHBOUR: 'it returns false'. Refute it at one input. -/
def gateHoldsWrong : ChangeSpec := { name := "gateHolds", fn := fun _ => fun
  | [d1, d2, d3] => { results := [.lit (.bool false)], args := [d1, d2, d3] }
  | _ => none }
def GateHoldsWrongFalsely : Prop := gateHoldsRow.holds Try.pinned (OpenSpec.ofChange gateHoldsWrong)

/-- 'roundelaylaw12.GateFair': WHATEVER THE INPUT: true; the input reads as it did. -/
def gateFairSpec : ChangeSpec := { name := "gateFair", fn := fun _ => fun
  | [d1, d2] => { results := [.lit (.bool true)], args := [d1, d2] }
  | _ => none }
def gateFairRow : OpenClaim := { program := "ytjbjkkicfdaljac", sum := "5e306f7e5cbbe1a002aeb4e722a802fe1b9b2e8abaf2cb5899ec029e891cc03d", func := "roundelay/roundelaylaw12.GateFair", spec := "gateFair", unfollowed := true, recurses := true, apart := false }
def GateFairSaid : Prop := gateFairRow.holds Try.pinned (OpenSpec.ofChange gateFairSpec)

/-- ITS FALSE NEIGHBOUR: 'it returns false'. Refute it at one input. -/
def gateFairWrong : ChangeSpec := { name := "gateFair", fn := fun _ => fun
  | [d1, d2] => { results := [.lit (.bool false)], args := [d1, d2] }
  | _ => none }
def GateFairWrongFalsely : Prop := gateFairRow.holds Try.pinned (OpenSpec.ofChange gateFairWrong)

/-- 'roundelaylaw12.GateTwice': WHATEVER THE INPUT: true; the input reads as it did. -/
def gateTwiceSpec : ChangeSpec := { name := "gateTwice", fn := fun _ => fun
  | [d1, d2, d3, d4] => { results := [.lit (.bool true)], args := [d1, d2, d3, d4] }
  | _ => none }
def gateTwiceRow : OpenClaim := { program := "ytjbjkkicfdaljac", sum := "5e306f7e5cbbe1a002aeb4e722a802fe1b9b2e8abaf2cb5899ec029e891cc03d", func := "roundelay/roundelaylaw12.GateTwice", spec := "gateTwice", unfollowed := true, recurses := true, apart := false }
def GateTwiceSaid : Prop := gateTwiceRow.holds Try.pinned (OpenSpec.ofChange gateTwiceSpec)

/-- ITS FALSE NEIGHBOUR: 'it returns false'. Refute it at one input. -/
def gateTwiceWrong : ChangeSpec := { name := "gateTwice", fn := fun _ => fun
  | [d1, d2, d3, d4] => { results := [.lit (.bool false)], args := [d1, d2, d3, d4] }
  | _ => none }
def GateTwiceWrongFalsely : Prop := gateTwiceRow.holds Try.pinned (OpenSpec.ofChange gateTwiceWrong)

/-- 'roundelaylaw12.GateAway': WHATEVER THE INPUT: true; the input reads as it did. -/
def gateAwaySpec : ChangeSpec := { name := "gateAway", fn := fun _ => fun
  | [d1, d2] => { results := [.lit (.bool true)], args := [d1, d2] }
  | _ => none }
def gateAwayRow : OpenClaim := { program := "ytjbjkkicfdaljac", sum := "5e306f7e5cbbe1a002aeb4e722a802fe1b9b2e8abaf2cb5899ec029e891cc03d", func := "roundelay/roundelaylaw12.GateAway", spec := "gateAway", unfollowed := true, recurses := true, apart := false }
def GateAwaySaid : Prop := gateAwayRow.holds Try.pinned (OpenSpec.ofChange gateAwaySpec)

/-- ITS FALSE NEIGHBOUR: 'it returns false'. Refute it at one input. -/
def gateAwayWrong : ChangeSpec := { name := "gateAway", fn := fun _ => fun
  | [d1, d2] => { results := [.lit (.bool false)], args := [d1, d2] }
  | _ => none }
def GateAwayWrongFalsely : Prop := gateAwayRow.holds Try.pinned (OpenSpec.ofChange gateAwayWrong)

/-- 'roundelaylaw12.GateGone': WHATEVER THE INPUT: true; the input reads as it did. -/
def gateGoneSpec : ChangeSpec := { name := "gateGone", fn := fun _ => fun
  | [d1, d2, d3, d4] => { results := [.lit (.bool true)], args := [d1, d2, d3, d4] }
  | _ => none }
def gateGoneRow : OpenClaim := { program := "ytjbjkkicfdaljac", sum := "5e306f7e5cbbe1a002aeb4e722a802fe1b9b2e8abaf2cb5899ec029e891cc03d", func := "roundelay/roundelaylaw12.GateGone", spec := "gateGone", unfollowed := true, recurses := true, apart := false }
def GateGoneSaid : Prop := gateGoneRow.holds Try.pinned (OpenSpec.ofChange gateGoneSpec)

/-- ITS FALSE NEIGHBOUR: 'it returns false'. Refute it at one input. -/
def gateGoneWrong : ChangeSpec := { name := "gateGone", fn := fun _ => fun
  | [d1, d2, d3, d4] => { results := [.lit (.bool false)], args := [d1, d2, d3, d4] }
  | _ => none }
def GateGoneWrongFalsely : Prop := gateGoneRow.holds Try.pinned (OpenSpec.ofChange gateGoneWrong)

/- THE SECOND FORM. 'bulk': how many values and letters a reading holds, each counted each time it is reached (what is shared counts as often as it is met; a slice's spare places count too). A statement '..UptoSaid' is the law's where the arguments, and the package variables that the reading takes, are together of bulk at most 1048576: NARROWER than '..Said'. Prove '..Said' where nothing that the law and all that it calls make is longer than what came in: it says more and counts as full. Else prove '..UptoSaid'. A law counts once. -/
mutual
def uptoBulk {H : Type} : DataW H → Nat
  | .lit (.string bytes) => bytes.length + 1
  | .lit _ => 1
  | .nil => 1
  | .ptr d => uptoBulk d + 1
  | .slice elems spare => uptoBulkAll elems + uptoBulkAll spare + 1
  | .agg parts => uptoBulkAll parts + 1
  | .iface _ d => uptoBulk d + 1
  | .map entries => uptoBulkEntries entries + 1
  | .held _ => 1
def uptoBulkAll {H : Type} : List (DataW H) → Nat
  | [] => 0
  | d :: r => uptoBulk d + uptoBulkAll r
def uptoBulkEntries {H : Type} : List (Lit × DataW H) → Nat
  | [] => 0
  | x :: r => uptoBulkEntry x + uptoBulkEntries r
def uptoBulkEntry {H : Type} : Lit × DataW H → Nat
  | (.string bytes, d) => bytes.length + uptoBulk d + 1
  | (_, d) => uptoBulk d + 1
 end
def uptoSmall : (H : Type) → List (DataW H) → Bool := fun _ ds => decide (uptoBulkAll ds ≤ 1048576)
def OpenSpec.upto (s : _root_.Go.ChangeSpec) : _root_.Go.OpenSpec := { _root_.Go.OpenSpec.ofChange s with cond := some uptoSmall }

/-- 'roundelaylaw12.GateActs', WHERE WHAT IT READS IS OF BULK AT MOST 1048576: true; the input reads as it did. -/
def gateActsUptoRow : OpenClaim := { program := "ytjbjkkicfdaljac", sum := "5e306f7e5cbbe1a002aeb4e722a802fe1b9b2e8abaf2cb5899ec029e891cc03d", func := "roundelay/roundelaylaw12.GateActs", spec := "gateActs", unfollowed := true, recurses := true, apart := false, narrowed := true }
def GateActsUptoSaid : Prop := gateActsUptoRow.holds Try.pinned (OpenSpec.upto gateActsSpec)

/-- 'roundelaylaw12.GateHolds', WHERE WHAT IT READS IS OF BULK AT MOST 1048576: true; the input reads as it did. -/
def gateHoldsUptoRow : OpenClaim := { program := "ytjbjkkicfdaljac", sum := "5e306f7e5cbbe1a002aeb4e722a802fe1b9b2e8abaf2cb5899ec029e891cc03d", func := "roundelay/roundelaylaw12.GateHolds", spec := "gateHolds", unfollowed := true, recurses := true, apart := false, narrowed := true }
def GateHoldsUptoSaid : Prop := gateHoldsUptoRow.holds Try.pinned (OpenSpec.upto gateHoldsSpec)

/-- 'roundelaylaw12.GateFair', WHERE WHAT IT READS IS OF BULK AT MOST 1048576: true; the input reads as it did. -/
def gateFairUptoRow : OpenClaim := { program := "ytjbjkkicfdaljac", sum := "5e306f7e5cbbe1a002aeb4e722a802fe1b9b2e8abaf2cb5899ec029e891cc03d", func := "roundelay/roundelaylaw12.GateFair", spec := "gateFair", unfollowed := true, recurses := true, apart := false, narrowed := true }
def GateFairUptoSaid : Prop := gateFairUptoRow.holds Try.pinned (OpenSpec.upto gateFairSpec)

/-- 'roundelaylaw12.GateTwice', WHERE WHAT IT READS IS OF BULK AT MOST 1048576: true; the input reads as it did. -/
def gateTwiceUptoRow : OpenClaim := { program := "ytjbjkkicfdaljac", sum := "5e306f7e5cbbe1a002aeb4e722a802fe1b9b2e8abaf2cb5899ec029e891cc03d", func := "roundelay/roundelaylaw12.GateTwice", spec := "gateTwice", unfollowed := true, recurses := true, apart := false, narrowed := true }
def GateTwiceUptoSaid : Prop := gateTwiceUptoRow.holds Try.pinned (OpenSpec.upto gateTwiceSpec)

/-- 'roundelaylaw12.GateAway', WHERE WHAT IT READS IS OF BULK AT MOST 1048576: true; the input reads as it did. -/
def gateAwayUptoRow : OpenClaim := { program := "ytjbjkkicfdaljac", sum := "5e306f7e5cbbe1a002aeb4e722a802fe1b9b2e8abaf2cb5899ec029e891cc03d", func := "roundelay/roundelaylaw12.GateAway", spec := "gateAway", unfollowed := true, recurses := true, apart := false, narrowed := true }
def GateAwayUptoSaid : Prop := gateAwayUptoRow.holds Try.pinned (OpenSpec.upto gateAwaySpec)

/-- 'roundelaylaw12.GateGone', WHERE WHAT IT READS IS OF BULK AT MOST 1048576: true; the input reads as it did. -/
def gateGoneUptoRow : OpenClaim := { program := "ytjbjkkicfdaljac", sum := "5e306f7e5cbbe1a002aeb4e722a802fe1b9b2e8abaf2cb5899ec029e891cc03d", func := "roundelay/roundelaylaw12.GateGone", spec := "gateGone", unfollowed := true, recurses := true, apart := false, narrowed := true }
def GateGoneUptoSaid : Prop := gateGoneUptoRow.holds Try.pinned (OpenSpec.upto gateGoneSpec)

end Rows
end Go.Proofs.Ytjbjkkicfdaljac
