/- slices.Clone of any row of fields. -/
import Derived.Test.YtmeebjjdceokeaaDoorSlF
import Derived.Lib.AppendZeros
namespace Go.Proofs.YtmeebjjdceokeaaDoor
open Go.RowKit
set_option linter.unusedVariables false
attribute [local go_sem ↓] Go.wp_at_zero Go.wp_at_succ

theorem clone0_any (A : Addr) (c : Nat) (w : World) :
    Calls Tryd.prog 33 #[.slice (some A) 0 c] w fun e w' => ∃ v', e = .returned v' ∧ Rw w.heap.size w' 31 6 v' 0 [] ∧ Below w.heap.size w w' := by
  obtain ⟨i0, hi0, hz0, hzs, hzb⟩ := info_parts infoF
  have hq : ∀ W, (binOp .eql 26 (.slice (some A) 0 c) (.slice none 0 0)).run Tryd.prog W = .ok (.bool false) W := fun W => by kernel_rfl
  have hg := heap_alloc_new w (.cells #[] 31)
  have hr := run_append_room (P := Tryd.prog) (w.alloc (.cells #[] 31)) 26 26 _ i0 Tryd.underlying26 hi0 w.heap.size 0 0 #[] hg A 0 c [] (by simp) (fun j u hu => by simp at hu) (fun u hu => absurd hu (by simp)) (Nat.le_refl _) (by simp)
  obtain ⟨w', hw'⟩ : ∃ w', w' = (w.alloc (.cells #[] 31)).setRow w.heap.size (((#[] : Array Value).toList.take (0 * i0.size) ++ [] ++ (#[] : Array Value).toList.drop (0 * i0.size + ([] : List Value).length)).toArray) := ⟨_, rfl⟩
  have hrow := setRow_heap (w.alloc (.cells #[] 31)) w.heap.size #[] (((#[] : Array Value).toList.take (0 * i0.size) ++ [] ++ (#[] : Array Value).toList.drop (0 * i0.size + ([] : List Value).length)).toArray) 31 _ hg
  rw [← hw'] at hr hrow
  have HR : Hid (Rw w.heap.size w' 31 6 (.slice (some ⟨w.heap.size, 0, none⟩) 0 0) 0 []) := hid_mk ⟨by simp, .inr ⟨_, 0, _, rfl, Nat.le_refl _, hrow, Nat.le_refl _, Nat.zero_le _, by simp, by simp⟩⟩
  have HB : Hid (Below w.heap.size w w') := hid_mk (by
    rw [hw']
    refine (balloc (w := w) (.cells #[] 31)).trans ⟨rfl, rfl, rfl, by simp [World.setRow], fun k hk => setRow_other _ _ k _ (fun e => by omega)⟩)
  rw [Nat.zero_add] at hr
  clear hg hrow hw'
  go_enter Tryd.func33, Tryd.ntmps33
  go_wp2_with (at_builtin; refine Lib.wpList_append_run _ rfl _ _ 26 26 rfl _ _ rfl rfl _ _ hr ?_)
  go_ret
  exact ⟨_, rfl, HR.out, HB.out⟩
theorem cloneN_any (w : World) :
    Calls Tryd.prog 33 #[.slice none 0 0] w fun e w' => ∃ v', e = .returned v' ∧ Rw w.heap.size w' 31 6 v' 0 [] ∧ Below w.heap.size w w' := by
  have hq : ∀ W, (binOp .eql 26 (.slice none 0 0) (.slice none 0 0)).run Tryd.prog W = .ok (.bool true) W := fun W => by kernel_rfl
  go_enter Tryd.func33, Tryd.ntmps33
  go_wp2_with fail
  go_ret
  exact ⟨_, rfl, Rw.nil _ _ _ _, Below.refl _ _⟩
/-- Any row of fields. -/
theorem clone_any (B n : Nat) (v : Value) (cs : List Value) (w : World) (R : Rw B w 31 6 v n cs) (h1 : ∀ u ∈ cs, u.oneCell' = true) (hn : n < 1000000000000) :
    Calls Tryd.prog 33 #[v] w fun e w' => ∃ v', e = .returned v' ∧ Rw w.heap.size w' 31 6 v' n cs ∧ Below w.heap.size w w' := by
  obtain ⟨A, cap, rfl, q1, q2, q3, q4⟩ := R.shape
  rcases A with _ | a
  · obtain ⟨rfl, rfl, rfl⟩ := q3 rfl
    exact cloneN_any w
  · obtain ⟨g, rfl, _, _, _, hc⟩ := q4 a rfl
    rcases Nat.eq_zero_or_pos n with h0 | h0
    · subst h0
      have hcs : cs = [] := List.eq_nil_of_length_eq_zero (by simpa using R.1)
      subst hcs
      exact clone0_any _ cap w
    · exact cloneF_any _ n cap cs w h0 hn R.1 (fun j u hu => by rw [Addr.add_lit, Nat.zero_add]; exact hc j u hu) h1

end Go.Proofs.YtmeebjjdceokeaaDoor
