/-
  No cell of these rows narrows 'for every input' (looked for: loops, veiled, ifaces, maps, wideKeys, modest, calm, conditions, laid).
  DERIVED. THE GIVEN ROWS OF THIS SEAT. 6 by the template 'for every input the law returns true; each argument reads behind the call as it read before'; 0 by the template 'total and deterministic' (their statements: YtjbjkkicfdaljaaTotals.lean).
  GIVEN WITH THE SEED: the statements are not yours to turn. If you find one false, say at which input.
  Laid BY PROGRAM, IN A SANDBOX (cutbox-rows.mjs): the forced cells as the released guide's own fill.sh prints them over the translation debc255e3bd57fa7… (all of the seat's roots in one cut). By AI agents, Wed Nov 11 2026. No macro, syntax, notation, axiom, sorry.
-/
import Derived.Test.YtjbjkkicfdaljaaChecked
import GoSem.Claim
import GoSem.ClaimJoined
import GoSem.ClaimMapViews
import Derived.JoinedTies
import Derived.KernelRfl
namespace Go.Proofs.Ytjbjkkicfdaljaa
/- THE CELL 'sum', in the pinned program and in every row, IS THE sha256 OF THE DUMP (.gsa) THAT YtjbjkkicfdaljaaProg.lean LOADS. Nothing in Lean hashes anything: it is a label: what it is worth is what the hold of that sum in a sandbox is worth. -/
noncomputable def Try.pinned : Pinned := { name := "ytjbjkkicfdaljaa", sum := "debc255e3bd57fa7a1fa97e3605287802bf73cdd0f8f5acc11937d1a8fcda401", checked := Try.checked }
namespace Rows
def none {H : Type} : Left H := { results := [], args := [] }

/-- 'roundelaylaw23.TurnFair': WHATEVER THE INPUT: true; the input reads as it did. -/
def turnFairSpec : ChangeSpec := { name := "turnFair", fn := fun _ => fun
  | [d1, d2, d3] => { results := [.lit (.bool true)], args := [d1, d2, d3] }
  | _ => none }
def turnFairRow : OpenClaim := { program := "ytjbjkkicfdaljaa", sum := "debc255e3bd57fa7a1fa97e3605287802bf73cdd0f8f5acc11937d1a8fcda401", func := "roundelay/roundelaylaw23.TurnFair", spec := "turnFair", unfollowed := true, recurses := true, apart := false }
def TurnFairSaid : Prop := turnFairRow.holds Try.pinned (OpenSpec.ofChange turnFairSpec)

/-- ITS FALSE NEIGHBOUR: 'it returns false'. Refute it at one input. -/
def turnFairWrong : ChangeSpec := { name := "turnFair", fn := fun _ => fun
  | [d1, d2, d3] => { results := [.lit (.bool false)], args := [d1, d2, d3] }
  | _ => none }
def TurnFairWrongFalsely : Prop := turnFairRow.holds Try.pinned (OpenSpec.ofChange turnFairWrong)

/-- 'roundelaylaw23.TurnFree': WHATEVER THE INPUT: true; the input reads as it did. -/
def turnFreeSpec : ChangeSpec := { name := "turnFree", fn := fun _ => fun
  | [d1, d2] => { results := [.lit (.bool true)], args := [d1, d2] }
  | _ => none }
def turnFreeRow : OpenClaim := { program := "ytjbjkkicfdaljaa", sum := "debc255e3bd57fa7a1fa97e3605287802bf73cdd0f8f5acc11937d1a8fcda401", func := "roundelay/roundelaylaw23.TurnFree", spec := "turnFree", unfollowed := true, recurses := true, apart := false }
def TurnFreeSaid : Prop := turnFreeRow.holds Try.pinned (OpenSpec.ofChange turnFreeSpec)

/-- ITS FALSE NEIGHBOUR: 'it returns false'. Refute it at one input. -/
def turnFreeWrong : ChangeSpec := { name := "turnFree", fn := fun _ => fun
  | [d1, d2] => { results := [.lit (.bool false)], args := [d1, d2] }
  | _ => none }
def TurnFreeWrongFalsely : Prop := turnFreeRow.holds Try.pinned (OpenSpec.ofChange turnFreeWrong)

/-- 'roundelaylaw23.TurnWaits': WHATEVER THE INPUT: true; the input reads as it did. -/
def turnWaitsSpec : ChangeSpec := { name := "turnWaits", fn := fun _ => fun
  | [d1, d2] => { results := [.lit (.bool true)], args := [d1, d2] }
  | _ => none }
def turnWaitsRow : OpenClaim := { program := "ytjbjkkicfdaljaa", sum := "debc255e3bd57fa7a1fa97e3605287802bf73cdd0f8f5acc11937d1a8fcda401", func := "roundelay/roundelaylaw23.TurnWaits", spec := "turnWaits", unfollowed := true, recurses := true, apart := false }
def TurnWaitsSaid : Prop := turnWaitsRow.holds Try.pinned (OpenSpec.ofChange turnWaitsSpec)

/-- ITS FALSE NEIGHBOUR: 'it returns false'. Refute it at one input. -/
def turnWaitsWrong : ChangeSpec := { name := "turnWaits", fn := fun _ => fun
  | [d1, d2] => { results := [.lit (.bool false)], args := [d1, d2] }
  | _ => none }
def TurnWaitsWrongFalsely : Prop := turnWaitsRow.holds Try.pinned (OpenSpec.ofChange turnWaitsWrong)

/-- 'roundelaylaw23.TurnRuns': WHATEVER THE INPUT: true; the input reads as it did. -/
def turnRunsSpec : ChangeSpec := { name := "turnRuns", fn := fun _ => fun
  | [d1, d2] => { results := [.lit (.bool true)], args := [d1, d2] }
  | _ => none }
def turnRunsRow : OpenClaim := { program := "ytjbjkkicfdaljaa", sum := "debc255e3bd57fa7a1fa97e3605287802bf73cdd0f8f5acc11937d1a8fcda401", func := "roundelay/roundelaylaw23.TurnRuns", spec := "turnRuns", unfollowed := true, recurses := true, apart := false }
def TurnRunsSaid : Prop := turnRunsRow.holds Try.pinned (OpenSpec.ofChange turnRunsSpec)

/-- ITS FALSE NEIGHBOUR: 'it returns false'. Refute it at one input. -/
def turnRunsWrong : ChangeSpec := { name := "turnRuns", fn := fun _ => fun
  | [d1, d2] => { results := [.lit (.bool false)], args := [d1, d2] }
  | _ => none }
def TurnRunsWrongFalsely : Prop := turnRunsRow.holds Try.pinned (OpenSpec.ofChange turnRunsWrong)

/-- 'roundelaylaw23.TurnOnce': WHATEVER THE INPUT: true; the input reads as it did. -/
def turnOnceSpec : ChangeSpec := { name := "turnOnce", fn := fun _ => fun
  | [d1, d2] => { results := [.lit (.bool true)], args := [d1, d2] }
  | _ => none }
def turnOnceRow : OpenClaim := { program := "ytjbjkkicfdaljaa", sum := "debc255e3bd57fa7a1fa97e3605287802bf73cdd0f8f5acc11937d1a8fcda401", func := "roundelay/roundelaylaw23.TurnOnce", spec := "turnOnce", unfollowed := true, recurses := true, apart := false }
def TurnOnceSaid : Prop := turnOnceRow.holds Try.pinned (OpenSpec.ofChange turnOnceSpec)

/-- ITS FALSE NEIGHBOUR: 'it returns false'. Refute it at one input. -/
def turnOnceWrong : ChangeSpec := { name := "turnOnce", fn := fun _ => fun
  | [d1, d2] => { results := [.lit (.bool false)], args := [d1, d2] }
  | _ => none }
def TurnOnceWrongFalsely : Prop := turnOnceRow.holds Try.pinned (OpenSpec.ofChange turnOnceWrong)

/-- 'roundelaylaw23.TurnActs': WHATEVER THE INPUT: true; the input reads as it did. -/
def turnActsSpec : ChangeSpec := { name := "turnActs", fn := fun _ => fun
  | [d] => { results := [.lit (.bool true)], args := [d] }
  | _ => none }
def turnActsRow : OpenClaim := { program := "ytjbjkkicfdaljaa", sum := "debc255e3bd57fa7a1fa97e3605287802bf73cdd0f8f5acc11937d1a8fcda401", func := "roundelay/roundelaylaw23.TurnActs", spec := "turnActs", unfollowed := true, recurses := true, apart := false }
def TurnActsSaid : Prop := turnActsRow.holds Try.pinned (OpenSpec.ofChange turnActsSpec)

/-- ITS FALSE NEIGHBOUR: 'it returns false'. Refute it at one input. -/
def turnActsWrong : ChangeSpec := { name := "turnActs", fn := fun _ => fun
  | [d] => { results := [.lit (.bool false)], args := [d] }
  | _ => none }
def TurnActsWrongFalsely : Prop := turnActsRow.holds Try.pinned (OpenSpec.ofChange turnActsWrong)

/- THE SECOND FORM. 'bulk': how many values and letters a reading holds, each counted each time it is reached (what is shared counts as often as it is met; a slice's spare places count too). A statement '..UptoSaid' is the law's where the arguments, and the package variables that the reading takes, are together of bulk at most 1048576: NARROWER than '..Said'. Prove '..Said' where nothing that the law and all that it calls make is longer than what came in: it says more and counts as full. Else prove '..UptoSaid'. A law counts once. -/
mutual
def uptoBulk {H : Type} : DataW H → Nat
  | .lit (.string bytes) => bytes.length + 1
  | .lit _ => 1
  | .nil => 1
  | .ptr d => uptoBulk d + 1
  | .slice elems spare => uptoBulkAll elems + uptoBulkAll spare + 1
  | .agg parts => uptoBulkAll parts + 1
  | .iface _ d => uptoBulk d + 1
  | .map entries => uptoBulkEntries entries + 1
  | .held _ => 1
def uptoBulkAll {H : Type} : List (DataW H) → Nat
  | [] => 0
  | d :: r => uptoBulk d + uptoBulkAll r
def uptoBulkEntries {H : Type} : List (Lit × DataW H) → Nat
  | [] => 0
  | x :: r => uptoBulkEntry x + uptoBulkEntries r
def uptoBulkEntry {H : Type} : Lit × DataW H → Nat
  | (.string bytes, d) => bytes.length + uptoBulk d + 1
  | (_, d) => uptoBulk d + 1
 end
def uptoSmall : (H : Type) → List (DataW H) → Bool := fun _ ds => decide (uptoBulkAll ds ≤ 1048576)
def OpenSpec.upto (s : _root_.Go.ChangeSpec) : _root_.Go.OpenSpec := { _root_.Go.OpenSpec.ofChange s with cond := some uptoSmall }

/-- 'roundelaylaw23.TurnFair', WHERE WHAT IT READS IS OF BULK AT MOST 1048576: true; the input reads as it did. -/
def turnFairUptoRow : OpenClaim := { program := "ytjbjkkicfdaljaa", sum := "debc255e3bd57fa7a1fa97e3605287802bf73cdd0f8f5acc11937d1a8fcda401", func := "roundelay/roundelaylaw23.TurnFair", spec := "turnFair", unfollowed := true, recurses := true, apart := false, narrowed := true }
def TurnFairUptoSaid : Prop := turnFairUptoRow.holds Try.pinned (OpenSpec.upto turnFairSpec)

/-- 'roundelaylaw23.TurnFree', WHERE WHAT IT READS IS OF BULK AT MOST 1048576: true; the input reads as it did. -/
def turnFreeUptoRow : OpenClaim := { program := "ytjbjkkicfdaljaa", sum := "debc255e3bd57fa7a1fa97e3605287802bf73cdd0f8f5acc11937d1a8fcda401", func := "roundelay/roundelaylaw23.TurnFree", spec := "turnFree", unfollowed := true, recurses := true, apart := false, narrowed := true }
def TurnFreeUptoSaid : Prop := turnFreeUptoRow.holds Try.pinned (OpenSpec.upto turnFreeSpec)

/-- 'roundelaylaw23.TurnWaits', WHERE WHAT IT READS IS OF BULK AT MOST 1048576: true; the input reads as it did. -/
def turnWaitsUptoRow : OpenClaim := { program := "ytjbjkkicfdaljaa", sum := "debc255e3bd57fa7a1fa97e3605287802bf73cdd0f8f5acc11937d1a8fcda401", func := "roundelay/roundelaylaw23.TurnWaits", spec := "turnWaits", unfollowed := true, recurses := true, apart := false, narrowed := true }
def TurnWaitsUptoSaid : Prop := turnWaitsUptoRow.holds Try.pinned (OpenSpec.upto turnWaitsSpec)

/-- 'roundelaylaw23.TurnRuns', WHERE WHAT IT READS IS OF BULK AT MOST 1048576: true; the input reads as it did. -/
def turnRunsUptoRow : OpenClaim := { program := "ytjbjkkicfdaljaa", sum := "debc255e3bd57fa7a1fa97e3605287802bf73cdd0f8f5acc11937d1a8fcda401", func := "roundelay/roundelaylaw23.TurnRuns", spec := "turnRuns", unfollowed := true, recurses := true, apart := false, narrowed := true }
def TurnRunsUptoSaid : Prop := turnRunsUptoRow.holds Try.pinned (OpenSpec.upto turnRunsSpec)

/-- 'roundelaylaw23.TurnOnce', WHERE WHAT IT READS IS OF BULK AT MOST 1048576: true; the input reads as it did. -/
def turnOnceUptoRow : OpenClaim := { program := "ytjbjkkicfdaljaa", sum := "debc255e3bd57fa7a1fa97e3605287802bf73cdd0f8f5acc11937d1a8fcda401", func := "roundelay/roundelaylaw23.TurnOnce", spec := "turnOnce", unfollowed := true, recurses := true, apart := false, narrowed := true }
def TurnOnceUptoSaid : Prop := turnOnceUptoRow.holds Try.pinned (OpenSpec.upto turnOnceSpec)

/-- 'roundelaylaw23.TurnActs', WHERE WHAT IT READS IS OF BULK AT MOST 1048576: true; the input reads as it did. -/
def turnActsUptoRow : OpenClaim := { program := "ytjbjkkicfdaljaa", sum := "debc255e3bd57fa7a1fa97e3605287802bf73cdd0f8f5acc11937d1a8fcda401", func := "roundelay/roundelaylaw23.TurnActs", spec := "turnActs", unfollowed := true, recurses := true, apart := false, narrowed := true }
def TurnActsUptoSaid : Prop := turnActsUptoRow.holds Try.pinned (OpenSpec.upto turnActsSpec)

end Rows
end Go.Proofs.Ytjbjkkicfdaljaa
