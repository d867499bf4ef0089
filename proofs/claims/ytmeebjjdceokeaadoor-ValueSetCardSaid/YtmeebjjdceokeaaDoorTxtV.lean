/- text.Valid at the two texts of the example. -/
import Derived.Test.YtmeebjjdceokeaaDoorCmpOrd
import Derived.Deep.LoopGhost
namespace Go.Proofs.YtmeebjjdceokeaaDoor
open Go.RowKit
set_option linter.unusedVariables false
attribute [local go_sem ↓] Go.wp_at_zero Go.wp_at_succ

set_option maxRecDepth 100000 in
theorem utf_nil (w : World) : Calls Tryd.prog 50 #[.string ⟨#[]⟩] w fun e w' => e = .returned (.bool true) ∧ Below w.heap.size w w' := by
  go_enter Tryd.func50, Tryd.ntmps50
  go_wp2_with fail
  go_loopw [0] (fun s wx => s = .string ⟨#[]⟩ ∧ Below w.heap.size w wx) (fun _ _ => 0)
  case atStart => exact ⟨rfl, Below.refl _ _⟩
  case round =>
    obtain ⟨rfl, hb⟩ := hrel
    go_wp2_with fail
    go_ret
    exact ⟨rfl, hb⟩

set_option maxHeartbeats 800000 in
set_option maxRecDepth 100000 in
theorem utf_a (w : World) : Calls Tryd.prog 50 #[.string ⟨#[97]⟩] w fun e w' => e = .returned (.bool true) ∧ Below w.heap.size w w' := by
  have hx : (⟨#[97]⟩ : ByteArray).extract 1 1 = ⟨#[]⟩ := by decide
  go_enter Tryd.func50, Tryd.ntmps50
  go_wp2_with fail
  go_loopw [0] (fun s wx => (s = .string ⟨#[97]⟩ ∨ s = .string ⟨#[]⟩) ∧ Below w.heap.size w wx) (fun s _ => match s with | .string t => t.size | _ => 0)
  case atStart => exact ⟨.inl rfl, Below.refl _ _⟩
  case round =>
    obtain ⟨rfl | rfl, hb⟩ := hrel
    · go_wp2_with fail
      exact ⟨⟨.inr rfl, hb⟩, by decide⟩
    · go_wp2_with fail
      go_ret
      exact ⟨rfl, hb⟩

theorem valid_nil (w : World) : Calls Tryd.prog 40 #[.string ⟨#[]⟩] w fun e w' => e = .returned (.bool true) ∧ Below w.heap.size w w' := by
  go_enter Tryd.func40, Tryd.ntmps40
  go_wp2_with fail
  refine (utf_nil _).mono ?_
  rintro e w4 ⟨rfl, b4⟩
  go_wp2_with fail
  go_ret
  exact ⟨rfl, b4⟩
theorem valid_a (w : World) : Calls Tryd.prog 40 #[.string ⟨#[97]⟩] w fun e w' => e = .returned (.bool true) ∧ Below w.heap.size w w' := by
  go_enter Tryd.func40, Tryd.ntmps40
  go_wp2_with fail
  refine (utf_a _).mono ?_
  rintro e w4 ⟨rfl, b4⟩
  go_wp2_with fail
  go_ret
  exact ⟨rfl, b4⟩

end Go.Proofs.YtmeebjjdceokeaaDoor
