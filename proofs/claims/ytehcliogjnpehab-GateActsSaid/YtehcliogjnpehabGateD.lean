/- The walks over package gate: Leave, continued. -/
import Derived.Test.YtehcliogjnpehabGateC
namespace Go.Proofs.Ytehcliogjnpehab
open Go.RowKit
set_option linter.unusedVariables false

theorem Ids.prefix {B n : Nat} {w : World} {A : Option Addr} {cap : Nat} {l : List Int} (h : Ids B w (.slice A l.length cap) l) (hn : n ≤ l.length) : Ids B w (.slice A n cap) (l.take n) := by
  have hlen : (l.take n).length = n := by rw [List.length_take]; omega
  rcases A with _ | A
  · obtain ⟨A', cap', e, h1, h2, h3⟩ := ownsRow_shape h
    rcases h.2 with ⟨e2, hz⟩ | ⟨g, c, cu, e2, _⟩
    · injection e2 with _ _ e3
      subst e3
      have hn0 : n = 0 := by omega
      subst hn0
      exact Ids.nil _ _
    · injection e2 with e3; cases e3
  · rcases h.2 with ⟨e2, hz⟩ | ⟨g, c, cu, e2, _⟩
    · injection e2 with e3; cases e3
    · injection e2 with e3
      injection e3 with e3
      subst e3
      have h2 := own_prefix h n hn
      unfold Ids
      rw [hlen]
      have e : (ints l).take (n * 1) = ints (l.take n) := by rw [Nat.mul_one]; simp [ints, List.map_take]
      rw [← e]
      exact h2

theorem delete_front (l : List Int) (B : Nat) (v : Value) (k : Nat) (w : World) (h : Ids B w v l) (hl : l.length < 1000000000000) (hk : k ≤ l.length) :
    Calls Try.prog 17 #[v, .int .i64 0, .int .i64 (k : Int)] w fun e w' => ∃ v', e = .returned v' ∧ Ids B w' v' (l.drop k) ∧ Mv (own v) (own v') w w' := by
  obtain ⟨A, cap, rfl, hlc, hcm, hA, hc⟩ := h.cells
  by_cases h0 : k = 0
  · subst h0
    go_enter Try.func17, Try.ntmps17
    go_wp2_with fail
    go_ret
    exact ⟨_, rfl, h, Mv.refl _ _⟩
  · obtain ⟨g, rfl, hg, hBg⟩ := hA (by omega)
    have hne : ((0 : Int) == (k : Int)) = false := beq_eq_false_iff_ne.2 (by omega)
    obtain ⟨A, hA, HA⟩ : ∃ A : Addr, (if cap = k then some (⟨g, 0, none⟩ : Addr) else some ⟨g, k, none⟩) = some A ∧ Hid (k < l.length → A = ⟨g, k * 1, none⟩) := by
      by_cases hc : cap = k
      · exact ⟨_, by rw [if_pos hc], fun h => by omega⟩
      · exact ⟨_, by rw [if_neg hc], fun _ => by rw [Nat.mul_one]⟩
    obtain ⟨i0, hi0, hz0, hz1, hz2⟩ := info_parts info2
    have hkc : k ≤ cap := by omega
    clear hc
    go_enter Try.func17, Try.ntmps17
    go_wp2_with fail
    go_region_law (refine step_cut (w := w.drew) h 0 k (by omega) (by omega) (ints_cells l) rfl (.tmp 22) (.tmp 25) 26 rfl i0 Try.underlying26 hi0 hz1 (by simp [Act.eval, Act.put]) A (l.length - k) (cap - k) (by simp [Act.eval, Act.put]) HA.out rfl ?_; intro w1 hown1 hg1)
    simp only [Nat.zero_mul, List.take_zero, List.nil_append, Nat.mul_one, Nat.zero_add] at hown1
    generalize hq : l.length - k = q at *
    have HQ : Hid ((l.drop k).length = q) := hid_mk (by rw [List.length_drop]; omega)
    have hqn : q < l.length := by omega
    have hq2 : ¬ cap = q := by omega
    have hqc : q ≤ l.length := by omega
    have HD : Hid ((ints l).drop k = ints (l.drop k)) := hid_mk (by simp [ints, List.map_drop])
    have HG : Mv (own (.slice (some ⟨g, 0, none⟩) l.length cap)) (own (.slice (some ⟨g, 0, none⟩) q cap)) w w1 := ⟨hg1.os, hg1.tape, hg1.output, hg1.size, fun j hj hc => hg1.block j hj fun e => hc e.symm, fun j hj => .inl hj⟩
    clear hq hg1 hA
    go_wp2_with (refine wpList_clear_own rfl (.tmp 31) 26 rfl hown1 (l.length - q) (cap - q) _ rfl (by omega) (by omega) (by omega) Try.underlying26 _ zero2 rfl (by intro u hu; simp [Value.cells] at hu; subst hu; rfl) ?_; intro w2 hown2 hg2)
    go_ret
    refine ⟨_, rfl, ?_, HG.trans (Mv.grown hg2 (.inl rfl))⟩
    unfold Ids
    rw [HQ.out, ← HD.out]
    exact hown2

theorem leave_any (g : G) (B p : Nat) (F : Nat → Prop) (x : Int) (w : World) (h : Gate B w p g F) (hok : g.ok) :
    Calls Try.prog 10 #[.pointer (some ⟨p, 0, none⟩), .int .i64 x] w fun e w' => ∃ v, e = .returned v ∧ Ids w.heap.size w' v (leaveL g x) ∧ ∃ F', Gate B w' p (leaveG g x) F' ∧ Mv F F' w w' ∧ Apart v F' := by
  have hl1 := hok.it
  have hl2 := hok.t16
  have hl3 := hok.wr
  have hl4 := hok.r64
  have HB := hid_mk h
  obtain ⟨w0, hw0⟩ : ∃ w0, w0 = w.alloc (.cells #[.int .i64 x] 2) := ⟨_, rfl⟩
  have hbox : w0.heap[w.heap.size]? = some (.cells #[.int .i64 x] 2 (0, 0)) := by rw [hw0]; exact heap_alloc_new w _
  have b0 : Below w.heap.size w w0 := by rw [hw0]; exact balloc _
  have hqc := cell_of_one hbox
  have HW0 := hid_mk hw0
  clear hw0
  obtain ⟨v1, v2, rfl, hG⟩ := h
  have hf0 := fun k hk => (HB.out.foot k hk).2
  have hG0 := hG.below b0
  have hs0 := lt_of_block hbox
  obtain ⟨A1, cap1, rfl, _, _, _⟩ := ownsRow_shape hG0.2.2.1
  obtain ⟨A2, cap2, rfl, _, _, _⟩ := ownsRow_shape hG0.2.2.2.1
  obtain ⟨_, _, c2, _⟩ := hG.cells
  have hpl := lt_of_block hG.2.1
  have hn1 : (Value.slice A1 g.i.length cap1).ownBlock ≠ some w.heap.size := fun e => by have := hf0 _ (.inr (.inl e)); omega
  have hbl1 := but_length g.i x
  have hbl2 := but_length g.w x
  go_enter Try.func10, Try.ntmps10
  go_wp2_with fail
  rw [← HW0.out]
  refine (deleteFunc_any g.i B _ _ x _ hG0.2.2.1 (by omega) hqc hn1).mono ?_
  rintro e w1 ⟨v3, rfl, hv3, hm3⟩
  obtain ⟨A3, cap3, rfl, _, _, _⟩ := ownsRow_shape hv3
  obtain ⟨s1, m1, s3, s4, s5⟩ := store_i hG0 hm3 hv3
  have hqc1 := m1.at_ hbox (fun hf => by have := hf0 _ hf; omega)
  go_wp2_with fail
  obtain ⟨w2, hw2⟩ : ∃ w2, w2 = w1.setCell ⟨p, 2, none⟩ (.slice A3 (but g.i x).length cap3) := ⟨_, rfl⟩
  rw [← hw2] at s1 m1 hqc1 ⊢
  clear hw2 s3 s4 s5 hm3 hv3
  have hn2 : (Value.slice A2 g.w.length cap2).ownBlock ≠ some w.heap.size := fun e => by have := hf0 _ (.inr (.inr e)); omega
  refine (deleteFunc_any g.w B _ _ x _ s1.2.2.2.1 (by show g.w.length < _; omega) (cell_of_one hqc1) hn2).mono ?_
  rintro e w3 ⟨v4, rfl, hv4, hm4⟩
  obtain ⟨A4, cap4, rfl, hlc4, _, _⟩ := ownsRow_shape hv4
  obtain ⟨t1, m2, t3, t4, t5, t6, t7, t8⟩ := store_w s1 hm4 hv4
  have hmin : ∀ ats ty W, (Builtin.min_ ats ty #[.int .i64 ((g.t : Int) - ((but g.i x).length : Int)), .int .i64 ((but g.w x).length : Int)]).run Try.prog W = .ok (.int .i64 (many g x : Int)) W := by
    intro ats ty W
    have h : ∀ ats ty W, (Builtin.min_ ats ty #[.int .i64 ((g.t : Int) - ((but g.i x).length : Int)), .int .i64 ((but g.w x).length : Int)]).run Try.prog W = .ok (.int .i64 (if ((but g.w x).length : Int) < (g.t : Int) - ((but g.i x).length : Int) then ((but g.w x).length : Int) else (g.t : Int) - ((but g.i x).length : Int))) W := by
      intro ats ty W
      simp only [Builtin.min_, List.foldlM_cons, List.foldlM_nil, Builtin.min2]
      rfl
    rw [h]
    have e : (if ((but g.w x).length : Int) < (g.t : Int) - ((but g.i x).length : Int) then ((but g.w x).length : Int) else (g.t : Int) - ((but g.i x).length : Int)) = (many g x : Int) := by
      unfold many
      by_cases hc : ((but g.w x).length : Int) < (g.t : Int) - ((but g.i x).length : Int)
      · rw [if_pos hc, show Nat.min (g.t - (but g.i x).length) (but g.w x).length = (but g.w x).length from Nat.min_eq_right (by omega)]
      · rw [if_neg hc, show Nat.min (g.t - (but g.i x).length) (but g.w x).length = g.t - (but g.i x).length from Nat.min_eq_left (by omega)]; omega
    rw [e]
  have hmn := many_le g x
  have hmn' := many_le' g x
  have hmc : many g x ≤ cap4 := by omega
  go_wp2_with fail
  go_quiet (fail)
  clear hmin
  go_wp2_with fail
  obtain ⟨w4, hw4⟩ : ∃ w4, w4 = (w3.setCell ⟨p, 3, none⟩ (.slice A4 (but g.w x).length cap4)).drewN nq := ⟨_, rfl⟩
  have t2 : GateAt B w4 p (.slice A3 (but g.i x).length cap3) (.slice A4 (but g.w x).length cap4) ⟨g.t, g.r, but g.i x, but g.w x⟩ := by rw [hw4]; exact t1
  have m3 : Mv (Foot p (.slice A1 g.i.length cap1) (.slice A2 g.w.length cap2)) (Foot p (.slice A3 (but g.i x).length cap3) (.slice A4 (but g.w x).length cap4)) w0 w4 := by rw [hw4]; exact (m1.trans m2).drewN
  rw [← hw4]
  clear hw4 t1 m2 t3 t4 t5 t6 t7 t8 s1 m1 hm4 hv4 hqc1 hG0 c2 hqc hbox
  have hF4 : ∀ k, Foot p (.slice A3 (but g.i x).length cap3) (.slice A4 (but g.w x).length cap4) k → k < w4.heap.size := fun k hk => (Gate.foot ⟨_, _, rfl, t2⟩ k hk).2
  refine (clone_any _ B _ _ (Ids.prefix t2.2.2.2.1 hmn) (by rw [List.length_take]; omega)).mono ?_
  rintro e w5 ⟨v5, rfl, hv5, b5⟩
  have t3 := t2.below b5
  have m5 := m3.trans (.of_below b5)
  have hv5' : Ids w4.heap.size w5 v5 (leaveL g x) := hv5
  have hl5 : (leaveL g x).length ≤ (but g.w x).length := by unfold leaveL; rw [List.length_take]; omega
  have ha5 : Apart v5 (Foot p (.slice A3 (but g.i x).length cap3) (.slice A4 (but g.w x).length cap4)) := fun k hk hf => by
    have h1 := (own_lt hv5' k hk).1
    have h2 := hF4 k hf
    omega
  obtain ⟨A5, cap5, rfl, _, _, _⟩ := ownsRow_shape hv5'
  obtain ⟨f0, f1, f2, f3⟩ := t3.cells
  have hsz5 : B ≤ w5.heap.size := Gate.size ⟨_, _, rfl, t3⟩
  have hs4 : w.heap.size ≤ w4.heap.size := by have h1 := b0.size; have h2 := m3.size; omega
  clear t2 m3 b5 hv5
  go_wp2_with (at_builtin; refine app_row _ rfl (.tmp 54) (.tmp 55) 26 2 (.int .i64 0) 1 8 rfl Try.underlying26 info2 rfl (by decide) B _ (but g.i x).length (ints (but g.i x)) rfl t3.2.2.1 _ _ (leaveL g x).length (ints (leaveL g x)) rfl hv5' (ints_cells _) hsz5 (by omega) (by omega) ?_)
  intro v6 w6 hown6 hm6
  obtain ⟨A6, cap6, rfl, _, _, _⟩ := ownsRow_shape hown6
  have hrow6 : Ids B w6 (.slice A6 ((but g.i x).length + (leaveL g x).length) cap6) (but g.i x ++ leaveL g x) := by unfold Ids; rw [ints_append, List.length_append]; exact hown6
  obtain ⟨s1, s2, s3, s4, s5, s6, s7, s8⟩ := store_i t3 hm6 hrow6
  have ha6 := ha5.moved s2 (fun k hk => (own_lt hv5' k hk).2)
  have hv6 : Ids w4.heap.size _ _ _ := s2.row hv5' ha5
  go_wp2_with fail
  obtain ⟨w7, hw7⟩ : ∃ w7, w7 = w6.setCell ⟨p, 2, none⟩ (.slice A6 ((but g.i x).length + (leaveL g x).length) cap6) := ⟨_, rfl⟩
  rw [← hw7] at s1 s2 hv6 ⊢
  clear hw7 s3 s4 s5 s6 s7 s8 hm6 hrow6 hown6
  have m7 := m5.trans s2
  clear m5 s2 hv5' t3
  refine (delete_front (but g.w x) B _ (many g x) _ s1.2.2.2.1 (by omega) hmn).mono ?_
  rintro e w8 ⟨v8, rfl, hv8, hm8⟩
  obtain ⟨D, hD⟩ : ∃ D, D = (but g.w x).drop (many g x) := ⟨_, rfl⟩
  rw [← hD] at hv8
  have HD := hid_mk hD
  clear hD
  obtain ⟨A8, cap8, rfl, _, _, _⟩ := ownsRow_shape hv8
  obtain ⟨z1, z2, z3, z4, z5, z6, z7, z8⟩ := store_w s1 hm8 hv8
  have ha8 := ha6.moved z2 (fun k hk => (own_lt hv6 k hk).2)
  have hv9 : Ids w4.heap.size _ _ _ := z2.row hv6 ha6
  have HZ1 := hid_mk z1
  have HZ2 := hid_mk z2
  have HA8 := hid_mk ha8
  have HV9 := hid_mk hv9
  clear z1 z2 ha8 hv9 ha6 hv6 hm8
  go_wp2_with fail
  go_ret
  exact ⟨_, rfl, ownsRow_base HV9.out hs4, _, ⟨_, _, rfl, by unfold leaveG; rw [← HD.out]; exact HZ1.out⟩, (Mv.of_below b0).trans (m7.trans HZ2.out), HA8.out⟩

/-! ### Two rows of numbers, as Same sees them -/
theorem same_true (a : List Int) (B1 B2 : Nat) (v1 v2 : Value) (w : World) (h1 : Ids B1 w v1 a) (h2 : Ids B2 w v2 a) :
    Calls Try.prog 9 #[v1, v2] w fun e w' => e = .returned (.bool true) ∧ Below w.heap.size w w' := by
  obtain ⟨A1, c1, rfl, hm, hcm1, hA1, hc1⟩ := h1.cells
  obtain ⟨A2, c2, rfl, _, _, hA2, hc2⟩ := h2.cells
  have hne : ((a.length : Int) == (a.length : Int)) = true := by simp
  have hne2 : ((a.length : Int) != (a.length : Int)) = false := by simp
  go_enter Try.func9, Try.ntmps9
  go_wp2_with fail
  go_loopw [13] (fun i wr => ∃ k : Nat, i = .int .i64 k ∧ k ≤ a.length ∧ Below w.heap.size w wr) (fun i _ => a.length - (intOf i).toNat)
  case atStart => exact ⟨0, rfl, Nat.zero_le _, Below.refl _ _⟩
  case round =>
    obtain ⟨k, rfl, hk, hb⟩ := hrel
    by_cases hlt : k < a.length
    · obtain ⟨g1, rfl, hg1, _⟩ := hA1 (by omega)
      obtain ⟨g2, rfl, hg2, _⟩ := hA2 (by omega)
      obtain ⟨x, hx⟩ : ∃ x, x = gi a k := ⟨_, rfl⟩
      have d1 := (hb.cell (p := ⟨g1, k, none⟩) hg1).trans (hc1 k hlt g1 rfl)
      have d2 := (hb.cell (p := ⟨g2, k, none⟩) hg2).trans (hc2 k hlt g2 rfl)
      rw [← hx] at d1 d2
      have q1 : (x == x) = true := by simp
      have q2 : (x != x) = false := by simp
      clear hc1 hc2 hA1 hA2 h1 h2 hx
      go_wp2_with fail
      go_quiet (fail)
      go_wp2_with fail
      exact ⟨⟨k + 1, by go_num, by omega, pw_below hb⟩, by simp [intOf]; omega⟩
    · go_wp2_with fail
      go_ret
      exact ⟨rfl, hb⟩

end Go.Proofs.Ytehcliogjnpehab
