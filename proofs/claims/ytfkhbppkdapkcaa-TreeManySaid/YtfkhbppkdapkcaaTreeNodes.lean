/- The walk over the law TreeNodes. -/
import Derived.Test.YtfkhbppkdapkcaaTreeTurned
import Derived.Test.YtfkhbppkdapkcaaTreeDi
namespace Go.Proofs.Ytfkhbppkdapkcaa
open Go.RowKit
set_option linter.unusedVariables false
attribute [local go_sem ↓] Go.wp_at_zero Go.wp_at_succ

theorem del_le {e : E} {L : List E} (hs : Srt L) : (del e L).length ≤ L.length := by
  by_cases he : e ∈ L
  · have := (del_length hs).1 he; omega
  · rw [(del_length hs).2 he]; exact Nat.le_refl _
theorem lt_8 {a : Int} {c : Int} (h : a < c) : decide (a < c) = true := decide_eq_true h

set_option maxHeartbeats 4000000 in
set_option maxRecDepth 100000 in
theorem lawnodes_walk (A : Option Addr) (n cap : Nat) (xs : List A8) (w : World) (hin : InA8 w A n cap xs) :
    Calls Try.prog 5 #[.slice A n cap] w fun e w' => e = .returned (.bool true) ∧ Below w.heap.size w w' := by
  obtain ⟨hxl, hnc, hcap, hoks, hA⟩ := hin
  obtain ⟨m, hmn, hm100, _, hmin⟩ := min_fact Try.prog n 120 (by omega)
  have hmc : m ≤ cap := by omega
  have HOKS := hid_mk hoks
  have HA := hid_mk hA
  clear hoks hA hxl
  go_enter Try.func5, Try.ntmps5
  go_wp2_with fail
  refine (awake_any _).mono ?_
  rintro e w1 ⟨rfl, b1⟩
  go_wp2_with fail
  refine (new_any _).mono ?_
  rintro e w2 ⟨p, F, rfl, T1, b2⟩
  have hs1 := b1.size
  have hb2 := bthen b1 b2
  have HT1 := hid_mk T1
  clear T1 b1 b2
  go_wp2_with fail
  refine (right_any w1.heap.size p [] F _ HT1.out (by simp)).mono ?_
  rintro e w3 ⟨rfl, b3⟩
  have hb3 := hb2.trans (b3.mono hb2.size)
  have HT3 := hid_mk (HT1.out.below b3)
  clear hb2 HT1 b3
  go_wp2_with fail
  clear hmin
  go_loopw [22] (fun iv wr => ∃ (k : Nat) (L : List E) (F : Nat → Prop), iv = .int .i64 k ∧ k ≤ m ∧ L.length ≤ k ∧ Hid (Tree w1.heap.size wr p L F) ∧ Below w.heap.size w wr) (fun iv _ => m - (intOf iv).toNat)
  case atStart => exact ⟨0, [], F, rfl, Nat.zero_le _, Nat.le_refl _, HT3, hb3⟩
  case round =>
    clear HT3 hb3
    obtain ⟨k, L, F, rfl, hk, hl, T, hb⟩ := hrel
    by_cases hlt : k < m
    · obtain ⟨b, off, rfl, hbw, hcs⟩ := HA.out (by omega)
      obtain ⟨c0, c1, c2⟩ := hcs k (by omega)
      have c0' := keep_cell hb c0
      have c1' := keep_cell hb c1
      have c2' := keep_cell hb c2
      have HO := hid_mk (HOKS.out k (by omega))
      obtain ⟨x, hx⟩ : ∃ x, x = a8 xs k := ⟨_, rfl⟩
      rw [← hx] at c0' c1' c2' HO
      have HSR := hid_mk T.out.srt
      have hbb : Below wr.heap.size wr (wr.alloc (.cells #[.int .u8 x.kind, .int .u8 x.key, .int .u8 x.id] 30)) := balloc _
      clear hcs c0 c1 c2 hx
      by_cases hkd : x.kind < 140
      all_goals
        go_wp2_with fail
        refine (entry_any x _ HO.out).mono ?_
        rintro e w4 ⟨rfl, b4⟩
        have b14 := bthen hbb b4
        have T4 := hid_mk (T.out.below b14)
        have hb4 := hb.trans (b14.mono hb.size)
        clear b4 hbb b14 c0' c1' c2'
        go_wp2_with fail
      · refine (tadd_any w1.heap.size p L F x.ent _ T4.out (by omega)).mono ?_
        rintro e w5 ⟨rfl, F', T5, m5⟩
        have hb5 := hb4.trans ((T4.out.moved m5).mono hs1)
        have hL := add_le (e := x.ent) HSR.out
        have HT5 := hid_mk T5
        clear m5 T5 T4 hb4 hb T
        go_wp2_with fail
        refine (right_any w1.heap.size p _ F' _ HT5.out (by omega)).mono ?_
        rintro e w6 ⟨rfl, b6⟩
        have hb6 := hb5.trans (b6.mono hb5.size)
        have HT6 := hid_mk (HT5.out.below b6)
        clear b6 hb5 HT5
        go_wp2_with fail
        exact ⟨⟨k + 1, _, F', by go_num, by omega, by omega, HT6, hb6⟩, by simp [intOf]; omega⟩
      · refine (tdel_any w1.heap.size p L F x.ent _ T4.out (by omega)).mono ?_
        rintro e w5 ⟨rfl, F', T5, m5⟩
        have hb5 := hb4.trans ((T4.out.moved m5).mono hs1)
        have hL := del_le (e := x.ent) HSR.out
        have HT5 := hid_mk T5
        clear m5 T5 T4 hb4 hb T
        go_wp2_with fail
        refine (right_any w1.heap.size p _ F' _ HT5.out (by omega)).mono ?_
        rintro e w6 ⟨rfl, b6⟩
        have hb6 := hb5.trans (b6.mono hb5.size)
        have HT6 := hid_mk (HT5.out.below b6)
        clear b6 hb5 HT5
        go_wp2_with fail
        exact ⟨⟨k + 1, _, F', by go_num, by omega, by omega, HT6, hb6⟩, by simp [intOf]; omega⟩
    · obtain rfl : k = m := by omega
      go_wp2_with fail
      go_ret
      exact ⟨rfl, hb⟩

end Go.Proofs.Ytfkhbppkdapkcaa
