/- The walk over GateGone. -/
import Derived.Test.YtjbjkkicfdaljacGateTwice
namespace Go.Proofs.Ytjbjkkicfdaljac
open Go.RowKit
set_option linter.unusedVariables false

theorem gone_not (g : G) (x : Int) : decide (x ∈ (leaveG g x).i) = false ∧ decide (x ∈ (leaveG g x).w) = false := by
  have h := leave_all g x
  have h2 : x ∉ (leaveG g x).i ++ (leaveG g x).w := by rw [h]; intro h3; exact ((mem_but _ _ _).1 h3).2 rfl
  rw [List.mem_append] at h2
  exact ⟨decide_eq_false fun h3 => h2 (.inl h3), decide_eq_false fun h3 => h2 (.inr h3)⟩
theorem gone_same (g : G) (x : Int) (hok : g.ok) (h1 : x ∉ g.i) (h2 : x ∉ g.w) : leaveL g x = [] ∧ leaveG g x = g := by
  have e1 := but_none g.i x h1
  have e2 := but_none g.w x h2
  have hm : many g x = 0 := by
    unfold many
    rw [e1, e2]
    rcases hw : g.w with _ | ⟨y, ys⟩
    · exact Nat.min_eq_right (Nat.zero_le _)
    · have h3 := hok.full (by rw [hw]; simp)
      rw [h3, Nat.sub_self]
      exact Nat.min_eq_left (Nat.zero_le _)
  have hl : leaveL g x = [] := by unfold leaveL; rw [hm]; rfl
  refine ⟨hl, ?_⟩
  unfold leaveG
  rw [hl, hm, e1, e2, List.append_nil]
  rfl

theorem gone_walk (t r : Int) (A : Option Addr) (n cap : Nat) (xs : List Deed) (id : Int) (w : World) (_ : (Lit.int .i64 t).wf = true) (_ : (Lit.int .i64 r).wf = true) (hin : InActs w A n cap xs) (_ : (Lit.int .i64 id).wf = true) :
    Calls Try.prog 8 #[.int .i64 t, .int .i64 r, .slice A n cap, .int .i64 id] w fun e w' => e = .returned (.bool true) ∧ Below w.heap.size w w' := by
  obtain ⟨hxl, hnc, hcap, hoks, hA⟩ := hin
  obtain ⟨m, hmn, hm60, _, hmin⟩ := min_fact Try.prog n 60 (by omega)
  have hmc : m ≤ cap := by omega
  go_enter Try.func8, Try.ntmps8
  go_wp2_with fail
  refine (awake_any _).mono ?_
  rintro e w1 ⟨rfl, b1⟩
  go_wp2_with fail
  refine (new_any t r _).mono ?_
  rintro e w2 ⟨rfl, ⟨F2, h2⟩, b2⟩
  have hok2 := newG_ok t r
  go_wp2_with fail
  clear hmin
  go_loopw [29] (fun i wr => ∃ (k : Nat) (g : G) (F : Nat → Prop), i = .int .i64 k ∧ k ≤ m ∧ Gate w1.heap.size wr w1.heap.size g F ∧ g.ok ∧ Below w1.heap.size w1 wr) (fun i _ => m - (intOf i).toNat)
  case atStart => exact ⟨0, _, _, rfl, Nat.zero_le _, h2, hok2, b2⟩
  case round =>
    clear h2 b2 hok2
    obtain ⟨j, g, F, rfl, hj, ht, hok, hb⟩ := hrel
    by_cases hlt : j < m
    · obtain ⟨b, off, rfl, hbw, hcs⟩ := hA (by omega)
      have B0 := bthen b1 hb
      obtain ⟨d0, d1⟩ := acts_later B0 hbw (hcs j (by omega))
      obtain ⟨k0, k1, i0, i1⟩ := hoks j (by omega)
      clear hcs hA hoks
      go_wp2_with fail
      refine (ask_any _ _ _ _ ((dth xs j).id % 30) _ (ht.below (balloc _)) hok).mono ?_
      rintro e w3 ⟨rfl, F3, h3, m3⟩
      have hb4 := (hb.trans (balloc' hb.size)).trans ((ht.below (balloc _)).moved m3)
      go_wp2_with fail
      exact ⟨⟨j + 1, _, _, by go_num, by omega, h3, askG_ok _ _ hok, hb4⟩, by simp [intOf]; omega⟩
    · obtain ⟨f1, f2⟩ := gone_not g id
      have hok3 := leaveG_ok g id hok
      have F1 := hid_mk f1; have F2 := hid_mk f2
      clear f1 f2 hA hoks
      go_wp2_with fail
      refine (inside_any _ _ _ _ _ ht hok).mono ?_
      rintro e w4 ⟨v4, rfl, hv4, b4⟩
      have h4 := ht.below b4
      have B4 := bthen hb b4
      go_wp2_with fail
      refine (waiting_any _ _ _ _ _ h4 hok).mono ?_
      rintro e w5 ⟨v5, rfl, hv5, b5⟩
      have h5 := h4.below b5
      have B5 := bthen B4 b5
      have hv4' : Ids _ w5 v4 _ := ownsRow_below hv4 b5
      have a4 := apart_new hv4' (fun k hk => (ht.foot k hk).2)
      have a5 := apart_new hv5 (fun k hk => (h4.foot k hk).2)
      clear ht hb b4 b5 h4 B4 hv4
      go_wp2_with fail
      refine (has_any _ _ _ id _ hv4').mono ?_
      rintro e w6 ⟨rfl, b6⟩
      have h6 := h5.below b6
      have B6 := bthen B5 b6
      have i4 : Ids _ w6 v4 _ := ownsRow_below hv4' b6
      have i5 : Ids _ w6 v5 _ := ownsRow_below hv5 b6
      clear h5 B5 hv4' hv5 b6
      -- there already?
      by_cases hi : id ∈ g.i
      · rw [decide_eq_true hi]
        go_wp2_with fail
        refine (leave_any _ _ _ _ id _ h6 hok).mono ?_
        rintro e w7 ⟨v7, rfl, hv7, F7, h7, m7, _⟩
        have B7 := B6.trans (h6.moved m7)
        go_wp2_with fail
        refine (inside_any _ _ _ _ _ h7 hok3).mono ?_
        rintro e w8 ⟨v8, rfl, hv8, b8⟩
        have h8 := h7.below b8
        have B8 := bthen B7 b8
        go_wp2_with fail
        refine (has_any _ _ _ id _ hv8).mono ?_
        rintro e w9 ⟨rfl, b9⟩
        rw [F1.out]
        have h9 := h8.below b9
        have B9 := bthen B8 b9
        go_wp2_with fail
        refine (waiting_any _ _ _ _ _ h9 hok3).mono ?_
        rintro e w10 ⟨v10, rfl, hv10, b10⟩
        have B10 := bthen B9 b10
        go_wp2_with fail
        refine (has_any _ _ _ id _ hv10).mono ?_
        rintro e w11 ⟨rfl, b11⟩
        rw [F2.out]
        go_wp2_with fail
        go_ret
        exact ⟨rfl, bthen b1 (bthen B10 b11)⟩
      · rw [decide_eq_false hi]
        go_wp2_with fail
        refine (has_any _ _ _ id _ i5).mono ?_
        rintro e wA ⟨rfl, bA⟩
        have hA6 := h6.below bA
        have BA := bthen B6 bA
        have jA4 : Ids _ wA v4 _ := ownsRow_below i4 bA
        have jA5 : Ids _ wA v5 _ := ownsRow_below i5 bA
        clear h6 B6 i4 i5 bA
        by_cases hw : id ∈ g.w
        · rw [decide_eq_true hw]
          go_wp2_with fail
          refine (leave_any _ _ _ _ id _ hA6 hok).mono ?_
          rintro e w7 ⟨v7, rfl, hv7, F7, h7, m7, _⟩
          have B7 := BA.trans (hA6.moved m7)
          go_wp2_with fail
          refine (inside_any _ _ _ _ _ h7 hok3).mono ?_
          rintro e w8 ⟨v8, rfl, hv8, b8⟩
          have h8 := h7.below b8
          have B8 := bthen B7 b8
          go_wp2_with fail
          refine (has_any _ _ _ id _ hv8).mono ?_
          rintro e w9 ⟨rfl, b9⟩
          rw [F1.out]
          have h9 := h8.below b9
          have B9 := bthen B8 b9
          go_wp2_with fail
          refine (waiting_any _ _ _ _ _ h9 hok3).mono ?_
          rintro e w10 ⟨v10, rfl, hv10, b10⟩
          have B10 := bthen B9 b10
          go_wp2_with fail
          refine (has_any _ _ _ id _ hv10).mono ?_
          rintro e w11 ⟨rfl, b11⟩
          rw [F2.out]
          go_wp2_with fail
          go_ret
          exact ⟨rfl, bthen b1 (bthen B10 b11)⟩
        · rw [decide_eq_false hw]
          obtain ⟨s1, s2⟩ := gone_same g id hok hi hw
          have S1 := hid_mk s1; have S2 := hid_mk s2
          clear s1 s2
          go_wp2_with fail
          refine (leave_any _ _ _ _ id _ hA6 hok).mono ?_
          rintro e w7 ⟨v7, rfl, hv7, F7, h7, m7, _⟩
          rw [S2.out] at h7
          rw [S1.out] at hv7
          obtain ⟨A7, cap7, rfl, _, _, _⟩ := ownsRow_shape hv7
          rw [S2.out] at F1 F2
          have B7 := BA.trans (hA6.moved m7)
          have c4 : Ids _ w7 v4 _ := m7.row jA4 a4
          have c5 : Ids _ w7 v5 _ := m7.row jA5 a5
          clear hA6 jA4 jA5 m7 a4 a5 BA
          go_wp2_with fail
          refine (inside_any _ _ _ _ _ h7 hok).mono ?_
          rintro e w8 ⟨v8, rfl, hv8, b8⟩
          have h8 := h7.below b8
          have B8 := bthen B7 b8
          have d4 : Ids _ w8 v4 _ := ownsRow_below c4 b8
          have d5 : Ids _ w8 v5 _ := ownsRow_below c5 b8
          clear h7 B7 c4 c5 b8
          go_wp2_with fail
          refine (has_any _ _ _ id _ hv8).mono ?_
          rintro e w9 ⟨rfl, b9⟩
          rw [F1.out]
          have h9 := h8.below b9
          have B9 := bthen B8 b9
          have c4 : Ids _ w9 v4 _ := ownsRow_below d4 b9
          have c5 : Ids _ w9 v5 _ := ownsRow_below d5 b9
          clear h8 B8 d4 d5 b9 hv8
          go_wp2_with fail
          refine (waiting_any _ _ _ _ _ h9 hok).mono ?_
          rintro e w10 ⟨v10, rfl, hv10, b10⟩
          have h10 := h9.below b10
          have B10 := bthen B9 b10
          have d4 : Ids _ w10 v4 _ := ownsRow_below c4 b10
          have d5 : Ids _ w10 v5 _ := ownsRow_below c5 b10
          clear h9 B9 c4 c5 b10
          go_wp2_with fail
          refine (has_any _ _ _ id _ hv10).mono ?_
          rintro e w11 ⟨rfl, b11⟩
          rw [F2.out]
          have h11 := h10.below b11
          have B11 := bthen B10 b11
          have c4 : Ids _ w11 v4 _ := ownsRow_below d4 b11
          have c5 : Ids _ w11 v5 _ := ownsRow_below d5 b11
          clear h10 B10 d4 d5 b11 hv10
          go_wp2_with fail
          refine (inside_any _ _ _ _ _ h11 hok).mono ?_
          rintro e w12 ⟨v12, rfl, hv12, b12⟩
          have h12 := h11.below b12
          have B12 := bthen B11 b12
          have d4 : Ids _ w12 v4 _ := ownsRow_below c4 b12
          have d5 : Ids _ w12 v5 _ := ownsRow_below c5 b12
          clear h11 B11 c4 c5 b12
          go_wp2_with fail
          refine (same_true _ _ _ _ _ _ d4 hv12).mono ?_
          rintro e w13 ⟨rfl, b13⟩
          have h13 := h12.below b13
          have B13 := bthen B12 b13
          have c5 : Ids _ w13 v5 _ := ownsRow_below d5 b13
          clear h12 B12 d4 d5 b13 hv12
          go_wp2_with fail
          refine (waiting_any _ _ _ _ _ h13 hok).mono ?_
          rintro e w14 ⟨v14, rfl, hv14, b14⟩
          have B14 := bthen B13 b14
          have d5 : Ids _ w14 v5 _ := ownsRow_below c5 b14
          go_wp2_with fail
          refine (same_true _ _ _ _ _ _ d5 hv14).mono ?_
          rintro e w15 ⟨rfl, b15⟩
          go_wp2_with fail
          go_ret
          exact ⟨rfl, bthen b1 (bthen B14 b15)⟩

end Go.Proofs.Ytjbjkkicfdaljac
