/- Numbers and texts, by the law's own definition. -/
import Derived.Test.YtmeebjjdceokeaaDoorCmpOrd
namespace Go.Proofs.YtmeebjjdceokeaaDoor
open Go.RowKit
set_option linter.unusedVariables false
attribute [local go_sem ↓] Go.wp_at_zero Go.wp_at_succ

theorem less_cb : ∀ a b : List UInt8, Op.bytesLess a b = decide (cb a b < 0)
  | [], [] => by simp [Op.bytesLess, cb, Lib.compareBytes]
  | [], _ :: _ => by simp [Op.bytesLess, cb, Lib.compareBytes]
  | _ :: _, [] => by simp [Op.bytesLess, cb, Lib.compareBytes]
  | x :: a, y :: b => by
    have ih := less_cb a b
    unfold Op.bytesLess
    rw [ih]
    unfold cb
    conv => rhs; unfold Lib.compareBytes
    by_cases h1 : x < y
    · simp [h1]
    · by_cases h2 : y < x
      · have h3 : ¬ x = y := fun h => UInt8.lt_irrefl y (h ▸ h2)
        simp [h1, h2, h3]
      · have h3 : x = y := UInt8.le_antisymm (UInt8.not_lt.1 h2) (UInt8.not_lt.1 h1)
        subst h3
        simp [h1]
theorem texteq_cb (a b : List UInt8) : (a == b) = decide (cb a b = 0) := by
  by_cases h : a = b
  · subst h; simp [cb_self]
  · have h2 : ¬ cb a b = 0 := fun h9 => h (cb_zero _ _ h9)
    simp [h, h2]
theorem sign_any (x y : Int) (w : World) : Calls Tryd.prog 31 #[.int .i64 x, .int .i64 y] w fun e w' => e = .returned (.int .i64 (sgn x y)) ∧ w = w' := by
  by_cases h1 : x < y
  · have hs : Hid (sgn x y = -1) := if_pos h1
    go_enter Tryd.func31, Tryd.ntmps31
    go_wp2_with fail
    go_ret
    exact ⟨ret_int hs.out.symm, rfl⟩
  · by_cases h2 : y < x
    · have hs : Hid (sgn x y = 1) := (if_neg h1).trans (if_pos h2)
      go_enter Tryd.func31, Tryd.ntmps31
      go_wp2_with fail
      go_ret
      exact ⟨ret_int hs.out.symm, rfl⟩
    · have hs : Hid (sgn x y = 0) := (if_neg h1).trans (if_neg h2)
      go_enter Tryd.func31, Tryd.ntmps31
      go_wp2_with fail
      go_ret
      exact ⟨ret_int hs.out.symm, rfl⟩
theorem texts_any (a b : ByteArray) (w : World) : Calls Tryd.prog 32 #[.string a, .string b] w fun e w' => e = .returned (.int .i64 (cb a.data.toList b.data.toList)) ∧ w = w' := by
  have q1 : Op.bytesLess a.toList b.toList = decide (cb a.data.toList b.data.toList < 0) := by rw [less_cb, Lib.toList_data, Lib.toList_data]
  have ht : a.toList = a.data.toList := Lib.toList_data a
  have ht2 : b.toList = b.data.toList := Lib.toList_data b
  rcases cb_cases a.data.toList b.data.toList with h | h | h
  · have l1 : Op.bytesLess a.toList b.toList = true := by rw [q1, h]; decide
    have HH := hid_mk h
    clear q1 ht ht2 h
    go_enter Tryd.func32, Tryd.ntmps32
    go_wp2_with fail
    go_ret
    exact ⟨ret_int HH.out.symm, rfl⟩
  · have l1 : Op.bytesLess a.toList b.toList = false := by rw [q1, h]; decide
    have l2 : a.toList = b.toList := by rw [ht, ht2]; exact cb_zero _ _ h
    have l3 : (a.toList == b.toList) = true := by rw [l2]; simp
    have HH := hid_mk h
    clear q1 ht ht2 h l2
    go_enter Tryd.func32, Tryd.ntmps32
    go_wp2_with fail
    go_ret
    exact ⟨ret_int HH.out.symm, rfl⟩
  · have l1 : Op.bytesLess a.toList b.toList = false := by rw [q1, h]; decide
    have l3 : (a.toList == b.toList) = false := by
      rw [ht, ht2]
      refine beq_eq_false_iff_ne.2 fun e => ?_
      rw [e, cb_self] at h
      cases h
    have HH := hid_mk h
    clear q1 ht ht2 h
    go_enter Tryd.func32, Tryd.ntmps32
    go_wp2_with fail
    go_ret
    exact ⟨ret_int HH.out.symm, rfl⟩

end Go.Proofs.YtmeebjjdceokeaaDoor
