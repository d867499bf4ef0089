/- rises at the example's one field. -/
import Derived.Test.YtmeebjjdceokeaaDoorBare
import Derived.Test.YtmeebjjdceokeaaDoorQuietB
namespace Go.Proofs.YtmeebjjdceokeaaDoor
open Go.RowKit
set_option linter.unusedVariables false
attribute [local go_sem ↓] Go.wp_at_zero Go.wp_at_succ

set_option maxHeartbeats 1000000 in
set_option maxRecDepth 100000 in
theorem rises_one (g c : Nat) (i : Int) (w : World) (Z : w.heap[g]? = some (.cells #[.string ⟨#[97]⟩, .int .i64 2, .int .i64 i, .string ⟨#[]⟩, .slice none 0 0, .slice none 0 0] 31 (0, 0))) :
    Calls Tryd.prog 41 #[.slice (some ⟨g, 0, none⟩) 1 1] w fun e w' => e = .returned (.bool true) ∧ Below w.heap.size w w' := by
  have HZ := hid_mk Z
  have hgl := lt_of_block Z
  clear Z
  go_enter Tryd.func41, Tryd.ntmps41
  go_wp2_with fail
  go_loopw [7] (fun s wx => (s = .int .i64 0 ∨ s = .int .i64 1) ∧ Below w.heap.size w wx) (fun s _ => 1 - (intOf s).toNat)
  case atStart => exact ⟨.inl rfl, Below.refl _ _⟩
  case round =>
    obtain ⟨rfl | rfl, hb⟩ := hrel
    · have X := below_block hb hgl HZ.out
      have c0 := (cell_of_row wr g 0 _ _ _ X).trans rfl
      have c1 := (cell_of_row wr g 1 _ _ _ X).trans rfl
      have c2 := (cell_of_row wr g 2 _ _ _ X).trans rfl
      have c3 := (cell_of_row wr g 3 _ _ _ X).trans rfl
      have c4 := (cell_of_row wr g 4 _ _ _ X).trans rfl
      have c5 := (cell_of_row wr g 5 _ _ _ X).trans rfl
      clear X
      obtain ⟨W, hW⟩ : ∃ W, W = wr.alloc (.cells #[.string ⟨#[97]⟩, .int .i64 2, .int .i64 i, .string ⟨#[]⟩, .slice none 0 0, .slice none 0 0] 31) := ⟨_, rfl⟩
      have Y : W.heap[wr.heap.size]? = some (.cells #[.string ⟨#[97]⟩, .int .i64 2, .int .i64 i, .string ⟨#[]⟩, .slice none 0 0, .slice none 0 0] 31 (0, 0)) := by rw [hW]; exact heap_alloc_new wr _
      have bW : Below wr.heap.size wr W := by rw [hW]; exact balloc _
      have e0 : ∀ z : BW W, z.w.cell? ⟨wr.heap.size, 0, none⟩ = some (.string ⟨#[97]⟩) := fun z => z.cell ((cell_of_row W _ 0 _ _ _ Y).trans rfl)
      have e1 : ∀ z : BW W, z.w.cell? ⟨wr.heap.size, 1, none⟩ = some (.int .i64 2) := fun z => z.cell ((cell_of_row W _ 1 _ _ _ Y).trans rfl)
      have e2 : ∀ z : BW W, z.w.cell? ⟨wr.heap.size, 2, none⟩ = some (.int .i64 i) := fun z => z.cell ((cell_of_row W _ 2 _ _ _ Y).trans rfl)
      have e3 : ∀ z : BW W, z.w.cell? ⟨wr.heap.size, 3, none⟩ = some (.string ⟨#[]⟩) := fun z => z.cell ((cell_of_row W _ 3 _ _ _ Y).trans rfl)
      have e4 : ∀ z : BW W, z.w.cell? ⟨wr.heap.size, 4, none⟩ = some (.slice none 0 0) := fun z => z.cell ((cell_of_row W _ 4 _ _ _ Y).trans rfl)
      have e5 : ∀ z : BW W, z.w.cell? ⟨wr.heap.size, 5, none⟩ = some (.slice none 0 0) := fun z => z.cell ((cell_of_row W _ 5 _ _ _ Y).trans rfl)
      have HTV : Hid (∀ z : BW W, Calls Tryd.prog 40 #[.string ⟨#[97]⟩] z.w fun e w'' => e = .returned (.bool true) ∧ ∃ y : BW W, w'' = y.w) := hid_mk fun z => (valid_a z.w).mono (by rintro e w' ⟨rfl, b⟩; exact ⟨rfl, z.step b⟩)
      have HVV : Hid (∀ z : BW W, Calls Tryd.prog 20 #[.agg #[.int .i64 2, .int .i64 i, .string ⟨#[]⟩, .slice none 0 0, .slice none 0 0]] z.w fun e w'' => e = .returned (.bool true) ∧ ∃ y : BW W, w'' = y.w) := hid_mk fun z => (valid_int i z.w).mono (by rintro e w' ⟨rfl, b⟩; exact ⟨rfl, z.step b⟩)
      have hbW := hid_mk (hb.trans (bW.mono hb.size))
      have HWW := hid_mk hW.symm
      clear Y bW hW
      go_wp2_with fail
      rw [HWW.out]
      refine wp_region_bw W (by kernel_rfl) (by kernel_rfl) (Below.refl _ _) ?_
      repeat (go_big_quiet_step ((first | exact HTV.out _ | exact HVV.out _)))
      refine wpQuiet_nil ?_
      rintro _ ⟨z, rfl⟩
      have hbz := hbW.out.trans (z.h.mono hbW.out.size)
      clear e0 e1 e2 e3 e4 e5 HTV HVV
      go_wp2_with fail
      exact ⟨⟨.inr (by go_num), hbz⟩, by simp [intOf]⟩
    · go_wp2_with fail
      go_ret
      exact ⟨rfl, hb⟩

end Go.Proofs.YtmeebjjdceokeaaDoor
