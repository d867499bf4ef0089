/- The walks over GateTwice, GateGone. -/
import Derived.Test.YtjbjkkicfdaljacGateActs
namespace Go.Proofs.Ytjbjkkicfdaljac
open Go.RowKit
set_option linter.unusedVariables false

theorem apart_new {N : Nat} {w : World} {v : Value} {l : List Int} {F : Nat → Prop} (hv : Ids N w v l) (hF : ∀ k, F k → k < N) : Apart v F := fun k hk hf => by
  have h1 := (own_lt hv k hk).1
  have h2 := hF k hf
  omega

theorem twice_facts (g : G) (k : Int) (h : g.ok) :
    askA (askG g k) k = askA g k ∧ askG (askG g k) k = askG g k ∧ decide (k ∈ (askG g k).i) = (askA g k == 1) ∧ decide (k ∈ (askG g k).w) = (askA g k == 2) := by
  have hdis : k ∈ g.i → k ∈ g.w → False := fun h1 h2 => (List.nodup_append.1 h.once).2.2 k h1 k h2 rfl
  by_cases h1 : k ∈ g.i
  · have e1 : askG g k = g := if_pos h1
    have e2 : askA g k = 1 := if_pos h1
    have h2 : k ∉ g.w := fun h2 => hdis h1 h2
    rw [e1, e2]
    exact ⟨rfl, e1, by simp [h1], by simp [h2]⟩
  · by_cases h2 : k ∈ g.w
    · have e1 : askG g k = g := (if_neg h1).trans (if_pos h2)
      have e2 : askA g k = 2 := (if_neg h1).trans (if_pos h2)
      rw [e1, e2]
      exact ⟨rfl, e1, by simp [h1], by simp [h2]⟩
    · by_cases h3 : g.i.length < g.t
      · have e1 : askG g k = ⟨g.t, g.r, g.i ++ [k], g.w⟩ := (if_neg h1).trans ((if_neg h2).trans (if_pos h3))
        have e2 : askA g k = 1 := (if_neg h1).trans ((if_neg h2).trans (if_pos h3))
        have hm : k ∈ g.i ++ [k] := by simp
        rw [e1, e2]
        exact ⟨if_pos hm, if_pos hm, by simp, by simp [h2]⟩
      · by_cases h4 : g.w.length < g.r
        · have e1 : askG g k = ⟨g.t, g.r, g.i, g.w ++ [k]⟩ := (if_neg h1).trans ((if_neg h2).trans ((if_neg h3).trans (if_pos h4)))
          have e2 : askA g k = 2 := (if_neg h1).trans ((if_neg h2).trans ((if_neg h3).trans (if_pos h4)))
          have hm : k ∈ g.w ++ [k] := by simp
          rw [e1, e2]
          exact ⟨(if_neg h1).trans (if_pos hm), (if_neg h1).trans (if_pos hm), by simp [h1], by simp⟩
        · have e1 : askG g k = g := (if_neg h1).trans ((if_neg h2).trans ((if_neg h3).trans (if_neg h4)))
          have e2 : askA g k = 0 := (if_neg h1).trans ((if_neg h2).trans ((if_neg h3).trans (if_neg h4)))
          rw [e1, e2]
          exact ⟨rfl, e1, by simp [h1], by simp [h2]⟩

theorem twice_walk (t r : Int) (A : Option Addr) (n cap : Nat) (xs : List Deed) (id : Int) (w : World) (_ : (Lit.int .i64 t).wf = true) (_ : (Lit.int .i64 r).wf = true) (hin : InActs w A n cap xs) (hid : (Lit.int .u8 id).wf = true) :
    Calls Try.prog 6 #[.int .i64 t, .int .i64 r, .slice A n cap, .int .u8 id] w fun e w' => e = .returned (.bool true) ∧ Below w.heap.size w w' := by
  obtain ⟨hid0, hid1⟩ := wf_u8 hid
  obtain ⟨hxl, hnc, hcap, hoks, hA⟩ := hin
  obtain ⟨m, hmn, hm60, _, hmin⟩ := min_fact Try.prog n 60 (by omega)
  have hmc : m ≤ cap := by omega
  go_enter Try.func6, Try.ntmps6
  go_wp2_with fail
  refine (awake_any _).mono ?_
  rintro e w1 ⟨rfl, b1⟩
  go_wp2_with fail
  refine (new_any t r _).mono ?_
  rintro e w2 ⟨rfl, ⟨F2, h2⟩, b2⟩
  have hok2 := newG_ok t r
  go_wp2_with fail
  clear hmin
  go_loopw [30] (fun i wr => ∃ (k : Nat) (g : G) (F : Nat → Prop), i = .int .i64 k ∧ k ≤ m ∧ Gate w1.heap.size wr w1.heap.size g F ∧ g.ok ∧ Below w1.heap.size w1 wr) (fun i _ => m - (intOf i).toNat)
  case atStart => exact ⟨0, _, _, rfl, Nat.zero_le _, h2, hok2, b2⟩
  case round =>
    clear h2 b2 hok2
    obtain ⟨j, g, F, rfl, hj, ht, hok, hb⟩ := hrel
    by_cases hlt : j < m
    · obtain ⟨b, off, rfl, hbw, hcs⟩ := hA (by omega)
      have B0 := bthen b1 hb
      obtain ⟨d0, d1⟩ := acts_later B0 hbw (hcs j (by omega))
      obtain ⟨k0, k1, i0, i1⟩ := hoks j (by omega)
      clear hcs hA hoks
      by_cases hk : (dth xs j).kind < 200
      · go_wp2_with fail
        refine (ask_any _ _ _ _ ((dth xs j).id % 30) _ (ht.below (balloc _)) hok).mono ?_
        rintro e w3 ⟨rfl, F3, h3, m3⟩
        have hb4 := (hb.trans (balloc' hb.size)).trans ((ht.below (balloc _)).moved m3)
        go_wp2_with fail
        exact ⟨⟨j + 1, _, _, by go_num, by omega, h3, askG_ok _ _ hok, hb4⟩, by simp [intOf]; omega⟩
      · go_wp2_with fail
        refine (leave_any _ _ _ _ ((dth xs j).id % 30) _ (ht.below (balloc _)) hok).mono ?_
        rintro e w3 ⟨v3, rfl, hv3, F3, h3, m3, _⟩
        have hb4 := (hb.trans (balloc' hb.size)).trans ((ht.below (balloc _)).moved m3)
        go_wp2_with fail
        exact ⟨⟨j + 1, _, _, by go_num, by omega, h3, leaveG_ok _ _ hok, hb4⟩, by simp [intOf]; omega⟩
    · have e0 := bthen b1 hb
      obtain ⟨f1, f2, f3, f4⟩ := twice_facts g (id % 30) hok
      have hok3 := askG_ok g (id % 30) hok
      have F1 := hid_mk f1; have F2 := hid_mk f2; have F3 := hid_mk f3; have F4 := hid_mk f4
      have q1 : (askA g (id % 30) == askA g (id % 30)) = true := by simp
      have q2 : ((askA g (id % 30) == 1) == (askA g (id % 30) == 1)) = true := by simp
      have q3 : ((askA g (id % 30) == 2) == (askA g (id % 30) == 2)) = true := by simp
      clear f1 f2 f3 f4 hA hoks
      go_wp2_with fail
      refine (ask_any _ _ _ _ (id % 30) _ ht hok).mono ?_
      rintro e w3 ⟨rfl, Fa, h3, m3⟩
      have B3 := hb.trans (ht.moved m3)
      go_wp2_with fail
      refine (inside_any _ _ _ _ _ h3 hok3).mono ?_
      rintro e w4 ⟨v4, rfl, hv4, b4⟩
      have h4 := h3.below b4
      have B4 := bthen B3 b4
      go_wp2_with fail
      refine (waiting_any _ _ _ _ _ h4 hok3).mono ?_
      rintro e w5 ⟨v5, rfl, hv5, b5⟩
      have h5 := h4.below b5
      have B5 := bthen B4 b5
      have hv4' : Ids _ w5 v4 _ := ownsRow_below hv4 b5
      have a4 := apart_new hv4' (fun k hk => (h3.foot k hk).2)
      have a5 := apart_new hv5 (fun k hk => (h4.foot k hk).2)
      go_wp2_with fail
      refine (ask_any _ _ _ _ (id % 30) _ h5 hok3).mono ?_
      rintro e w6 ⟨rfl, Fb, h6, m6⟩
      rw [F2.out] at h6
      rw [F1.out]
      have B6 := B5.trans (h5.moved m6)
      have hv4'' : Ids _ w6 v4 _ := m6.row hv4' a4
      have hv5'' : Ids _ w6 v5 _ := m6.row hv5 a5
      clear h3 h4 h5 hv4 hv5 hv4' m3 m6 a4 a5 B3 B4 B5 b4 b5 ht hb
      go_wp2_with fail
      refine (has_any _ _ _ (id % 30) _ hv4'').mono ?_
      rintro e w7 ⟨rfl, b7⟩
      rw [F3.out]
      have h7 := h6.below b7
      have B7 := bthen B6 b7
      have i4 : Ids _ w7 v4 _ := ownsRow_below hv4'' b7
      have i5 : Ids _ w7 v5 _ := ownsRow_below hv5'' b7
      clear h6 B6 hv4'' hv5'' b7
      go_wp2_with fail
      refine (has_any _ _ _ (id % 30) _ i5).mono ?_
      rintro e w8 ⟨rfl, b8⟩
      rw [F4.out]
      have h8 := h7.below b8
      have B8 := bthen B7 b8
      have j4 : Ids _ w8 v4 _ := ownsRow_below i4 b8
      have j5 : Ids _ w8 v5 _ := ownsRow_below i5 b8
      clear h7 B7 i4 i5 b8
      go_wp2_with fail
      refine (inside_any _ _ _ _ _ h8 hok3).mono ?_
      rintro e w9 ⟨v9, rfl, hv9, b9⟩
      have h9 := h8.below b9
      have B9 := bthen B8 b9
      have k5 : Ids _ w9 v5 _ := ownsRow_below j5 b9
      have k4 : Ids _ w9 v4 _ := ownsRow_below j4 b9
      clear h8 B8 j4 j5 b9
      go_wp2_with fail
      refine (same_true _ _ _ _ _ _ k4 hv9).mono ?_
      rintro e w10 ⟨rfl, b10⟩
      have h10 := h9.below b10
      have B10 := bthen B9 b10
      have l5 : Ids _ w10 v5 _ := ownsRow_below k5 b10
      clear h9 B9 k4 k5 hv9 b10
      go_wp2_with fail
      refine (waiting_any _ _ _ _ _ h10 hok3).mono ?_
      rintro e w11 ⟨v11, rfl, hv11, b11⟩
      have B11 := bthen B10 b11
      have m5 : Ids _ w11 v5 _ := ownsRow_below l5 b11
      go_wp2_with fail
      refine (same_true _ _ _ _ _ _ m5 hv11).mono ?_
      rintro e w12 ⟨rfl, b12⟩
      go_wp2_with fail
      go_ret
      exact ⟨rfl, bthen b1 (bthen B11 b12)⟩

end Go.Proofs.Ytjbjkkicfdaljac
