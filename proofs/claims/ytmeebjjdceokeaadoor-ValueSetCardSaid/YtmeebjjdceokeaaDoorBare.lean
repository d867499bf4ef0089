/- bare and Valid at the example's values. -/
import Derived.Test.YtmeebjjdceokeaaDoorTxtV
namespace Go.Proofs.YtmeebjjdceokeaaDoor
open Go.RowKit
set_option linter.unusedVariables false
attribute [local go_sem ↓] Go.wp_at_zero Go.wp_at_succ

theorem bare_int (i : Int) (w : World) : Calls Tryd.prog 39 #[.agg #[.int .i64 2, .int .i64 i, .string ⟨#[]⟩, .slice none 0 0, .slice none 0 0]] w fun e w' => e = .returned (.bool true) ∧ Below w.heap.size w w' := by
  go_enter Tryd.func39, Tryd.ntmps39
  go_wp2_with fail
  go_ret
  exact ⟨by simp, balloc _⟩
theorem bare_obj (A : Option Addr) (n c : Nat) (w : World) : Calls Tryd.prog 39 #[.agg #[.int .i64 5, .int .i64 0, .string ⟨#[]⟩, .slice none 0 0, .slice A n c]] w fun e w' => e = .returned (.bool true) ∧ Below w.heap.size w w' := by
  go_enter Tryd.func39, Tryd.ntmps39
  go_wp2_with fail
  go_ret
  exact ⟨by simp, balloc _⟩

theorem rises_nil (w : World) : Calls Tryd.prog 41 #[.slice none 0 0] w fun e w' => e = .returned (.bool true) ∧ Below w.heap.size w w' := by
  go_enter Tryd.func41, Tryd.ntmps41
  go_wp2_with fail
  go_loopw [7] (fun s wx => s = .int .i64 0 ∧ Below w.heap.size w wx) (fun _ _ => 0)
  case atStart => exact ⟨rfl, Below.refl _ _⟩
  case round =>
    obtain ⟨rfl, hb⟩ := hrel
    go_wp2_with fail
    go_ret
    exact ⟨rfl, hb⟩
set_option maxHeartbeats 1000000 in
set_option maxRecDepth 100000 in
theorem valid_int (i : Int) (w : World) : Calls Tryd.prog 20 #[.agg #[.int .i64 2, .int .i64 i, .string ⟨#[]⟩, .slice none 0 0, .slice none 0 0]] w fun e w' => e = .returned (.bool true) ∧ Below w.heap.size w w' := by
  have X0 := heap_alloc_new w (.cells #[.int .i64 2, .int .i64 i, .string ⟨#[]⟩, .slice none 0 0, .slice none 0 0] 28)
  have b0 := balloc (w := w) (.cells #[.int .i64 2, .int .i64 i, .string ⟨#[]⟩, .slice none 0 0, .slice none 0 0] 28)
  have HX := hid_mk X0
  have HB := hid_mk b0
  clear X0 b0
  go_enter Tryd.func20, Tryd.ntmps20
  go_wp2_with fail
  refine (bare_int i _).mono ?_
  rintro e w1 ⟨rfl, b1⟩
  have X1 := below_block b1 (lt_of_block HX.out) HX.out
  have hb1 := bthen HB.out b1
  have x0 := (cell_of_row w1 _ 0 _ _ _ X1).trans rfl
  have x1 := (cell_of_row w1 _ 1 _ _ _ X1).trans rfl
  have x2 := (cell_of_row w1 _ 2 _ _ _ X1).trans rfl
  have x3 := (cell_of_row w1 _ 3 _ _ _ X1).trans rfl
  have x4 := (cell_of_row w1 _ 4 _ _ _ X1).trans rfl
  have HX1 := hid_mk X1
  have HB1 := hid_mk hb1
  clear X1 hb1 b1
  go_wp2_with fail
  go_loopw [21] (fun s wx => s = .int .i64 0 ∧ wx = w1) (fun _ _ => 0)
  case atStart => exact ⟨rfl, rfl⟩
  case round =>
    obtain ⟨rfl, rfl⟩ := hrel
    go_wp2_with fail
    refine (valid_nil _).mono ?_
    rintro e w2 ⟨rfl, b2⟩
    have X2 := below_block b2 (lt_of_block HX1.out) HX1.out
    have z0 := (cell_of_row w2 _ 0 _ _ _ X2).trans rfl
    have z1 := (cell_of_row w2 _ 1 _ _ _ X2).trans rfl
    have z4 := (cell_of_row w2 _ 4 _ _ _ X2).trans rfl
    have hb2 := hid_mk (bthen HB1.out b2)
    have HX2 := hid_mk X2
    clear b2 X2 x0 x1 x2 x3 x4
    go_wp2_with fail
    refine (rises_nil _).mono ?_
    rintro e w3 ⟨rfl, b3⟩
    have X3 := below_block b3 (lt_of_block HX2.out) HX2.out
    have t0 := (cell_of_row w3 _ 0 _ _ _ X3).trans rfl
    have t1 := (cell_of_row w3 _ 1 _ _ _ X3).trans rfl
    have hb3 := hid_mk (bthen hb2.out b3)
    clear b3 X3 z0 z1 z4
    go_wp2_with fail
    go_ret
    exact ⟨by simp, hb3.out⟩

end Go.Proofs.YtmeebjjdceokeaaDoor
