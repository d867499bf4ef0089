/- The order that the law keeps for itself: Texts, Below. -/
import Derived.Test.YtanomhjekdefeaaTreeLs
namespace Go.Proofs.Ytanomhjekdefeaa
open Go.RowKit
set_option linter.unusedVariables false
attribute [local go_sem ↓] Go.wp_at_zero Go.wp_at_succ

theorem less_cb : ∀ a b : List UInt8, Op.bytesLess a b = decide (cb a b < 0)
  | [], [] => by simp [Op.bytesLess, cb, Lib.compareBytes]
  | [], _ :: _ => by simp [Op.bytesLess, cb, Lib.compareBytes]
  | _ :: _, [] => by simp [Op.bytesLess, cb, Lib.compareBytes]
  | x :: a, y :: b => by
    have ih := less_cb a b
    unfold Op.bytesLess
    rw [ih]
    unfold cb
    conv => rhs; unfold Lib.compareBytes
    by_cases h1 : x < y
    · simp [h1]
    · by_cases h2 : y < x
      · have h3 : ¬ x = y := fun h => UInt8.lt_irrefl y (h ▸ h2)
        simp [h1, h2, h3]
      · have h3 : x = y := UInt8.le_antisymm (UInt8.not_lt.1 h2) (UInt8.not_lt.1 h1)
        subst h3
        simp [h1]
theorem texteq_cb (a b : List UInt8) : (a == b) = decide (cb a b = 0) := by
  by_cases h : a = b
  · subst h; simp [cb_self]
  · have h2 : ¬ cb a b = 0 := fun h9 => h (cb_zero _ _ h9)
    simp [h, h2]

theorem texts_any (a b : ByteArray) (w : World) :
    Calls Try.prog 32 #[.string a, .string b] w fun r w' => r = .returned (.int .i64 (cb a.data.toList b.data.toList)) ∧ w = w' := by
  have q1 : Op.bytesLess a.toList b.toList = decide (cb a.data.toList b.data.toList < 0) := by rw [less_cb, Lib.toList_data, Lib.toList_data]
  have q2 : (a.toList == b.toList) = decide (cb a.data.toList b.data.toList = 0) := by rw [texteq_cb, Lib.toList_data, Lib.toList_data]
  obtain ⟨c, hc⟩ : ∃ c, c = cb a.data.toList b.data.toList := ⟨_, rfl⟩
  rw [← hc] at q1 q2
  rw [← hc]
  have h3 := cb_cases a.data.toList b.data.toList
  rw [← hc] at h3
  rcases h3 with rfl | rfl | rfl
  all_goals
    simp only [Int.reduceLT, Int.reduceNeg, Int.reduceEq, decide_true, decide_false] at q1 q2
    clear hc
    go_enter Try.func32, Try.ntmps32
    go_wp2_with fail
    go_ret
    exact ⟨rfl, rfl⟩

theorem lt_key {a b : E} (h : kcmp a b < 0) : lt a b := by unfold lt cmpE; rw [if_neg (by omega)]; exact h
theorem not_lt_key {a b : E} (h : 0 < kcmp a b) : ¬ lt a b := by unfold lt cmpE; rw [if_neg (by omega)]; omega
theorem lt_id {a b : E} (h : kcmp a b = 0) : lt a b ↔ a.id < b.id := by
  unfold lt cmpE sgn
  rw [if_pos h]
  split
  · simp; assumption
  · split <;> simp <;> omega

theorem lawbelow_any (a b : E) (w : World) :
    Calls Try.prog 22 #[.agg #[.string a.key, .int .i64 a.id], .agg #[.string b.key, .int .i64 b.id]] w fun r w' => r = .returned (.bool (decide (lt a b))) ∧ Below w.heap.size w w' := by
  obtain ⟨c, hc⟩ : ∃ c, c = kcmp a b := ⟨_, rfl⟩
  have hb : Below w.heap.size w ((w.alloc (.cells #[.string a.key, .int .i64 a.id] 34)).alloc (.cells #[.string b.key, .int .i64 b.id] 34)) := ((Below.refl _ w).alloc (Nat.le_refl _) _).alloc (by simp) _
  rcases cb_cases a.key.data.toList b.key.data.toList with h | h | h
  · have HE : Hid (true = decide (lt a b)) := hid_mk (decide_eq_true (lt_key (by unfold kcmp; omega))).symm
    clear hc
    go_enter Try.func22, Try.ntmps22
    go_wp2_with (go_at_call 32; refine (texts_any _ _ _).mono ?_; rintro r w2 ⟨rfl, rfl⟩; rw [h])
    go_ret
    exact ⟨ret_bool HE.out, hb⟩
  · by_cases hi : a.id < b.id
    · have HE : Hid (true = decide (lt a b)) := hid_mk (decide_eq_true ((lt_id (by unfold kcmp; omega)).2 hi)).symm
      clear hc
      go_enter Try.func22, Try.ntmps22
      go_wp2_with (go_at_call 32; refine (texts_any _ _ _).mono ?_; rintro r w2 ⟨rfl, rfl⟩; rw [h])
      go_ret
      exact ⟨ret_bool HE.out, hb⟩
    · have HE : Hid (false = decide (lt a b)) := hid_mk (decide_eq_false (fun h9 => hi ((lt_id (by unfold kcmp; omega)).1 h9))).symm
      clear hc
      go_enter Try.func22, Try.ntmps22
      go_wp2_with (go_at_call 32; refine (texts_any _ _ _).mono ?_; rintro r w2 ⟨rfl, rfl⟩; rw [h])
      go_ret
      exact ⟨ret_bool ((decide_eq_false (show ¬ a.id < b.id by omega)).trans HE.out), hb⟩
  · have HE : Hid (false = decide (lt a b)) := hid_mk (decide_eq_false (not_lt_key (by unfold kcmp; omega))).symm
    clear hc
    go_enter Try.func22, Try.ntmps22
    go_wp2_with (go_at_call 32; refine (texts_any _ _ _).mono ?_; rintro r w2 ⟨rfl, rfl⟩; rw [h])
    go_ret
    exact ⟨ret_bool HE.out, hb⟩

end Go.Proofs.Ytanomhjekdefeaa
