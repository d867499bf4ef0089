/- The walk over GateHolds. -/
import Derived.Test.YtjbjkkicfdaljacGateTwice
namespace Go.Proofs.Ytjbjkkicfdaljac
open Go.RowKit
set_option linter.unusedVariables false

theorem ask_tr (g : G) (x : Int) : (askG g x).t = g.t ∧ (askG g x).r = g.r := by
  unfold askG
  split
  · exact ⟨rfl, rfl⟩
  · split
    · exact ⟨rfl, rfl⟩
    · split
      · exact ⟨rfl, rfl⟩
      · split <;> exact ⟨rfl, rfl⟩
theorem not_before (l : List Int) (h : l.Nodup) (q : Nat) (hq : q < l.length) : decide (gi l q ∈ l.take q) = false := by
  refine decide_eq_false fun hm => ?_
  obtain ⟨j, hj, e⟩ := List.getElem_of_mem hm
  have hj2 : j < q := by rw [List.length_take] at hj; omega
  rw [List.getElem_take, gi_get l q hq] at e
  exact (List.pairwise_iff_getElem.1 h) j q (by omega) hq hj2 e

set_option maxHeartbeats 4000000 in
set_option maxRecDepth 100000 in
theorem holds_walk (t r : Int) (A : Option Addr) (n cap : Nat) (xs : List Deed) (w : World) (_ : (Lit.int .i64 t).wf = true) (_ : (Lit.int .i64 r).wf = true) (hin : InActs w A n cap xs) :
    Calls Try.prog 4 #[.int .i64 t, .int .i64 r, .slice A n cap] w fun e w' => e = .returned (.bool true) ∧ Below w.heap.size w w' := by
  obtain ⟨hxl, hnc, hcap, hoks, hA⟩ := hin
  obtain ⟨m, hmn, hm100, _, hmin⟩ := min_fact Try.prog n 100 (by omega)
  have hmc : m ≤ cap := by omega
  have hct : clampT t = (newG t r).t := rfl
  have hcr : clampR r = (newG t r).r := rfl
  go_enter Try.func4, Try.ntmps4
  go_wp2_with fail
  refine (awake_any _).mono ?_
  rintro e w1 ⟨rfl, b1⟩
  go_wp2_with fail
  refine (new_any t r _).mono ?_
  rintro e w2 ⟨rfl, ⟨F2, h2⟩, b2⟩
  have hok2 := newG_ok t r
  go_wp2_with fail
  clear hmin
  go_loopw [27] (fun i wr => ∃ (k : Nat) (g : G) (F : Nat → Prop), i = .int .i64 k ∧ k ≤ m ∧ Gate w1.heap.size wr w1.heap.size g F ∧ g.ok ∧ clampT t = g.t ∧ clampR r = g.r ∧ Below w1.heap.size w1 wr) (fun i _ => m - (intOf i).toNat)
  case atStart => exact ⟨0, _, _, rfl, Nat.zero_le _, h2, hok2, hct, hcr, b2⟩
  case round =>
    clear h2 b2 hok2 hct hcr
    obtain ⟨j, g, F, rfl, hj, ht, hok, ht1, hr1, hb⟩ := hrel
    by_cases hlt : j < m
    · obtain ⟨b, off, rfl, hbw, hcs⟩ := hA (by omega)
      have B0 := bthen b1 hb
      obtain ⟨d0, d1⟩ := acts_later B0 hbw (hcs j (by omega))
      obtain ⟨k0, k1, i0, i1⟩ := hoks j (by omega)
      clear hcs hA hoks
      obtain ⟨c1, hc1, hc2⟩ := clampT_run Try.prog t
      obtain ⟨c2, hc3, hc4⟩ := clampR_run Try.prog r
      have HC1 := hid_mk hc1; have HC2 := hid_mk hc2; have HC3 := hid_mk hc3; have HC4 := hid_mk hc4
      clear hc1 hc2 hc3 hc4
      have hk : (dth xs j).kind < 160 ∨ ¬ (dth xs j).kind < 160 := by omega
      rcases hk with hk | hk
      go_wp2_with fail
      refine (ask_any _ _ _ _ ((dth xs j).id % 30) _ (ht.below (balloc _)) hok).mono ?_
      rintro e w3 ⟨rfl, F3, h3, m3⟩
      have hb4 := (hb.trans (balloc' hb.size)).trans ((ht.below (balloc _)).moved m3)
      obtain ⟨g', h3, hok3, ht3, hr3⟩ : ∃ g' : G, Gate w1.heap.size w3 w1.heap.size g' F3 ∧ g'.ok ∧ clampT t = g'.t ∧ clampR r = g'.r := ⟨_, h3, askG_ok _ _ hok, ht1.trans (ask_tr g _).1.symm, hr1.trans (ask_tr g _).2.symm⟩
      rotate_left
      go_wp2_with fail
      refine (leave_any _ _ _ _ ((dth xs j).id % 30) _ (ht.below (balloc _)) hok).mono ?_
      rintro e w3 ⟨v3, rfl, hv3, F3, h3, m3, _⟩
      have hb4 := (hb.trans (balloc' hb.size)).trans ((ht.below (balloc _)).moved m3)
      obtain ⟨g', h3, hok3, ht3, hr3⟩ : ∃ g' : G, Gate w1.heap.size w3 w1.heap.size g' F3 ∧ g'.ok ∧ clampT t = g'.t ∧ clampR r = g'.r := ⟨_, h3, leaveG_ok _ _ hok, ht1, hr1⟩
      clear hv3
      all_goals
        clear ht hb m3 hok ht1 hr1 d0 d1 B0 hk
        have hl1 := hok3.it
        have hl2 := hok3.wr
        have hfull : ¬ 0 < g'.w.length ∨ (0 < g'.w.length ∧ clampT t ≤ g'.i.length) := by
          rcases hw : g'.w with _ | ⟨y, ys⟩
          · exact .inl (by simp)
          · exact .inr ⟨by simp, by rw [hok3.full (by rw [hw]; simp), ht3]; exact Nat.le_refl _⟩
        rw [← ht3] at hl1
        rw [← hr3] at hl2
        have hl16 := hok3.t16
        have hl64 := hok3.r64
        rw [← ht3] at hl16
        rw [← hr3] at hl64
        have HT3 := hid_mk ht3
        have HR3 := hid_mk hr3
        clear ht3 hr3
        have hc1 := HC1.out; have hc2 := HC2.out; have hc3 := HC3.out; have hc4 := HC4.out
        go_wp2_with fail
        refine (inside_any _ _ _ _ _ h3 hok3).mono ?_
        rintro e w4 ⟨v4, rfl, hv4, b4⟩
        have h4 := h3.below b4
        have B4 := bthen hb4 b4
        go_wp2_with fail
        refine (waiting_any _ _ _ _ _ h4 hok3).mono ?_
        rintro e w5 ⟨v5, rfl, hv5, b5⟩
        have h5 := h4.below b5
        have B5 := bthen B4 b5
        have hv4' : Ids w3.heap.size w5 v4 g'.i := ownsRow_below hv4 b5
        have hs35 : w1.heap.size ≤ w3.heap.size := hb4.size
        have hs5 : w3.heap.size ≤ w5.heap.size := Nat.le_trans b4.size b5.size
        have hF3 := fun k hk => (h3.foot k hk).2
        clear h3 h4 hb4 B4 b4 b5 hv4
        obtain ⟨A4, cap4, rfl, _, _, _⟩ := ownsRow_shape hv4'
        obtain ⟨A5, cap5, rfl, _, _, _⟩ := ownsRow_shape hv5
        rcases hfull with hw0 | ⟨hw0, hfi⟩
        all_goals
          go_wp2_with (at_builtin; refine app_row _ rfl (.tmp 77) (.tmp 78) 26 2 (.int .i64 0) 1 8 rfl Try.underlying26 info2 rfl (by decide) w3.heap.size _ g'.i.length (ints g'.i) rfl hv4' _ _ g'.w.length (ints g'.w) rfl hv5 (ints_cells _) hs5 (by omega) (by omega) ?_)
          intro v6 w6 hown6 hm6
          have h6 := h5.other hm6 (fun k hk hf => by have h1 := (own_lt hv4' k hf).1; have h2 := hF3 k hk; omega)
          have B6 := B5.trans (hm6.below (fun k hk => Nat.le_trans hs35 (own_lt hv4' k hk).1) B5.size)
          obtain ⟨A6, cap6, rfl, _, _, _⟩ := ownsRow_shape hown6
          obtain ⟨L, hL⟩ : ∃ L, L = g'.i ++ g'.w := ⟨_, rfl⟩
          have hLl : g'.i.length + g'.w.length = L.length := by rw [hL, List.length_append]
          have hv6 : Ids w3.heap.size w6 (.slice A6 L.length cap6) L := by unfold Ids; rw [hL, ints_append, List.length_append]; exact hown6
          rw [hLl]
          have hnd : L.Nodup := by rw [hL]; exact hok3.once
          have HLL := hid_mk hLl
          have HL := hid_mk hL
          have HND := hid_mk hnd
          have hL80 : L.length ≤ 80 := by omega
          clear hL hLl hnd hown6 hm6 h5 B5 hv4' hv5 hs5 hc1 hc2 hc3 hc4 HC1 HC2 HC3 HC4
          go_wp2_with fail
          go_loopw [81] (fun i wr => ∃ (q : Nat), i = .int .i64 q ∧ q ≤ L.length ∧ Gate w1.heap.size wr w1.heap.size g' F3 ∧ Ids w3.heap.size wr (.slice A6 L.length cap6) L ∧ Below w1.heap.size w1 wr) (fun i _ => L.length - (intOf i).toNat)
          case atStart => exact ⟨0, rfl, Nat.zero_le _, h6, hv6, B6⟩
          case round =>
            clear h6 hv6 B6
            obtain ⟨q, rfl, hq, h6, hv6, B6⟩ := hrel
            by_cases hlt2 : q < L.length
            · obtain ⟨RA, rcap, he, _, _, hRA, hrcs⟩ := hv6.cells
              obtain ⟨rg, rfl, hrg, _⟩ := hRA (by omega)
              injection he with he1 he2 he3
              subst he1 he3
              have hcell := hrcs q hlt2 rg rfl
              have HX := hid_mk (not_before L HND.out q hlt2)
              generalize gi L q = x at *
              clear hrcs hRA
              go_wp2_with fail
              refine (inside_any _ _ _ _ _ h6 hok3).mono ?_
              rintro e w7 ⟨v7, rfl, hv7, b7⟩
              have h7 := h6.below b7
              have B7 := bthen B6 b7
              have r7 : Ids w3.heap.size w7 (.slice (some ⟨rg, 0, none⟩) L.length cap6) L := ownsRow_below hv6 b7
              have hr7 := (own_lt hv6 rg rfl).2
              have HS7 := hid_mk b7.size
              have HB6 := hid_mk B6.size
              have HF6 := hid_mk (fun k hk => (h6.foot k hk).2)
              clear h6 B6 hv6 b7 hcell
              go_wp2_with fail
              refine (waiting_any _ _ _ _ _ h7 hok3).mono ?_
              rintro e w8 ⟨v8, rfl, hv8, b8⟩
              have h8 := h7.below b8
              have B8 := bthen B7 b8
              have r8 : Ids w3.heap.size w8 (.slice (some ⟨rg, 0, none⟩) L.length cap6) L := ownsRow_below r7 b8
              have hv7' := ownsRow_below hv7 b8
              have hF8 := fun k hk => (h7.foot k hk).2
              obtain ⟨A7, cap7, rfl, _, _, _⟩ := ownsRow_shape hv7'
              obtain ⟨A8, cap8, rfl, _, _, _⟩ := ownsRow_shape hv8
              have hs78 := Nat.le_trans HS7.out b8.size
              have hLr : L.length = g'.i.length + g'.w.length := HLL.out.symm
              have HLr := hid_mk hLr
              have hn80 : g'.i.length + g'.w.length ≤ 80 := by omega
              have ha7 : Apart (.slice (some ⟨rg, 0, none⟩) L.length cap6) (own (.slice A7 g'.i.length cap7)) := fun k hk hf => by
                have h1 := (own_lt hv7' k hf).1
                have e : rg = k := by simpa [Value.ownBlock] using hk
                omega
              clear hLr h7 B7 r7 b8 hv7
              go_wp2_with (at_builtin; refine app_row _ rfl (.tmp 87) (.tmp 89) 26 2 (.int .i64 0) 1 8 rfl Try.underlying26 info2 rfl (by decide) _ _ g'.i.length (ints g'.i) rfl hv7' _ _ g'.w.length (ints g'.w) rfl hv8 (ints_cells _) hs78 (by omega) (by omega) ?_)
              intro v9 w9 hown9 hm9
              have h9 := h8.other hm9 (fun k hk hf => by
                have h1 := (own_lt hv7' k hf).1
                have h2 := HF6.out k hk
                omega)
              have r9 : Ids w3.heap.size w9 (.slice (some ⟨rg, 0, none⟩) L.length cap6) L := hm9.row r8 ha7
              have B9 := B8.trans (hm9.below (fun k hk => Nat.le_trans HB6.out (own_lt hv7' k hk).1) B8.size)
              obtain ⟨A9, cap9, rfl, hc9, _, _⟩ := ownsRow_shape hown9
              have hv9 : Ids wr.heap.size w9 (.slice A9 L.length cap9) L := by
                unfold Ids
                rw [HLr.out]
                rw [← ints_append, ← HL.out] at hown9
                exact hown9
              rw [← HLr.out] at hc9 ⊢
              have hp9 := Ids.prefix hv9 hq
              have hqc : q ≤ cap9 := by omega
              clear h8 hown9 hm9 r8 B8 hv7' hv8 ha7 hs78
              go_wp2_with fail
              refine (has_any _ _ _ x _ hp9).mono ?_
              rintro e wA ⟨rfl, bA⟩
              rw [HX.out]
              go_wp2_with fail
              exact ⟨⟨q + 1, by go_num, by omega, h9.below bA, ownsRow_below r9 bA, bthen B9 bA⟩, by simp [intOf]; omega⟩
            · obtain rfl : q = L.length := by omega
              go_wp2_with fail
              exact ⟨⟨j + 1, _, _, by go_num, by omega, h6, hok3, HT3.out, HR3.out, B6⟩, by simp [intOf]; omega⟩
    · go_wp2_with fail
      go_ret
      exact ⟨rfl, bthen b1 hb⟩

end Go.Proofs.Ytjbjkkicfdaljac
