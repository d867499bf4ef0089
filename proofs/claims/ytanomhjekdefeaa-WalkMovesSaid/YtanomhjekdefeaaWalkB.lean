/- Whether an entry is in a walk's part. -/
import Derived.Test.YtanomhjekdefeaaWalkA
import Derived.Test.YtanomhjekdefeaaTreeZ
namespace Go.Proofs.Ytanomhjekdefeaa
open Go.RowKit
set_option linter.unusedVariables false
attribute [local go_sem ↓] Go.wp_at_zero Go.wp_at_succ

theorem bl_kc (a b : ByteArray) : Op.bytesLess a.toList b.toList = decide (kc a b < 0) := by
  rw [less_cb, Lib.toList_data, Lib.toList_data]
  rfl

theorem emp_nil (k : ByteArray) : k.toList.isEmpty = decide (k = nil0) := by
  rw [Lib.toList_data]
  rcases k with ⟨⟨l⟩⟩
  cases l with
  | nil => rfl
  | cons x l =>
    have h : ¬ (⟨⟨x :: l⟩⟩ : ByteArray) = nil0 := fun h => by unfold nil0 at h; injection h with h; injection h with h; cases h
    rw [decide_eq_false h]
    rfl

set_option maxHeartbeats 2000000 in
set_option maxRecDepth 100000 in
theorem in_any (p tp : Nat) (r : Rg) (m : Mk) (e : E) (w : World) (X : Wk w p tp r m) :
    Calls Try.prog 31 #[.pointer (some ⟨p, 0, none⟩), .agg #[.string e.key, .int .i64 e.id]] w fun x w' => x = .returned (.bool (inR e r)) ∧ Below w.heap.size w w' := by
  have q1 := bl_kc e.key r.f
  have q2 := bl_kc e.key r.t
  have hp := X.lt
  have c1 := X.cells.c1
  have c2 := X.cells.c2
  have m0 : ¬ w.heap.size = p := by omega
  have m1 : ¬ p = w.heap.size := by omega
  clear X
  obtain ⟨rf, rt, rd⟩ := r
  simp only at q1 q2 c1 c2
  have HI : Hid (inR e ⟨rf, rt, rd⟩ = (!decide (kc e.key rf < 0) && (decide (rt = nil0) || decide (kc e.key rt < 0)))) := hid_mk rfl
  cases hA : decide (kc e.key rf < 0) with
  | true =>
    rw [hA] at q1 HI
    go_enter Try.func31, Try.ntmps31
    go_wp2_with fail
    go_quiet (fail)
    go_wp2_with fail
    go_ret
    exact ⟨ret_bool (by rw [HI.out]; rfl), pw_below (balloc _)⟩
  | false =>
    rw [hA] at q1 HI
    have q3 := emp_nil rt
    cases hn : decide (rt = nil0) with
    | true =>
      rw [hn] at q3 HI
      go_enter Try.func31, Try.ntmps31
      go_wp2_with fail
      go_quiet (fail)
      go_wp2_with fail
      go_ret
      exact ⟨ret_bool (by rw [HI.out]; rfl), pw_below (balloc _)⟩
    | false =>
      rw [hn] at q3 HI
      obtain ⟨b, hb⟩ : ∃ b, b = decide (kc e.key rt < 0) := ⟨_, rfl⟩
      rw [← hb] at q2 HI
      clear hb
      go_enter Try.func31, Try.ntmps31
      go_wp2_with fail
      go_quiet (fail)
      go_wp2_with fail
      go_ret
      exact ⟨ret_bool (by rw [HI.out]; rfl), pw_below (balloc _)⟩

set_option maxHeartbeats 2000000 in
set_option maxRecDepth 100000 in
theorem lin_any (e : E) (r : Rg) (w : World) :
    Calls Try.prog 20 #[.agg #[.string e.key, .int .i64 e.id], .agg #[.string r.f, .string r.t, .bool r.dn]] w fun x w' => x = .returned (.bool (inR e r)) ∧ Below w.heap.size w w' := by
  have q1 := bl_kc e.key r.f
  have q2 := bl_kc e.key r.t
  obtain ⟨rf, rt, rd⟩ := r
  simp only at q1 q2
  have HI : Hid (inR e ⟨rf, rt, rd⟩ = (!decide (kc e.key rf < 0) && (decide (rt = nil0) || decide (kc e.key rt < 0)))) := hid_mk rfl
  cases hA : decide (kc e.key rf < 0) with
  | true =>
    rw [hA] at q1 HI
    go_enter Try.func20, Try.ntmps20
    go_wp2_with fail
    go_ret
    exact ⟨ret_bool (by rw [HI.out]; rfl), bthen (balloc _) (balloc _)⟩
  | false =>
    rw [hA] at q1 HI
    have q3 := emp_nil rt
    cases hn : decide (rt = nil0) with
    | true =>
      rw [hn] at q3 HI
      go_enter Try.func20, Try.ntmps20
      go_wp2_with fail
      go_ret
      exact ⟨ret_bool (by rw [HI.out]; rfl), bthen (balloc _) (balloc _)⟩
    | false =>
      rw [hn] at q3 HI
      obtain ⟨b, hb⟩ : ∃ b, b = decide (kc e.key rt < 0) := ⟨_, rfl⟩
      rw [← hb] at q2 HI
      clear hb
      go_enter Try.func20, Try.ntmps20
      go_wp2_with fail
      go_ret
      exact ⟨ret_bool (by rw [HI.out]; rfl), bthen (balloc _) (balloc _)⟩


end Go.Proofs.Ytanomhjekdefeaa
