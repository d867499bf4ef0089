/- A walk's next entry, falling. -/
import Derived.Test.YtanomhjekdefeaaWalkC
namespace Go.Proofs.Ytanomhjekdefeaa
open Go.RowKit
set_option linter.unusedVariables false
attribute [local go_sem ↓] Go.wp_at_zero Go.wp_at_succ

set_option maxHeartbeats 4000000 in
set_option maxRecDepth 100000 in
theorem down_any (B p tp : Nat) (L : List E) (F : Nat → Prop) (r : Rg) (m : Mk) (w : World) (X : Wk w p tp r m) (H : Tree B w tp L F) :
    Calls Try.prog 30 #[.pointer (some ⟨p, 0, none⟩)] w fun e w' => e = .returned (.tuple #[.agg #[.string (dnE L r m).1.key, .int .i64 (dnE L r m).1.id], .bool (dnE L r m).2]) ∧ Below w.heap.size w w' := by
  have hp := X.lt
  obtain ⟨c0, c1, c2, c3, c4, c5, c6⟩ := X.cells
  have HX := hid_mk X
  have HT := hid_mk H
  have m0 : ¬ w.heap.size = p := by omega
  have m1 : ¬ p = w.heap.size := by omega
  have X0 := hid_mk (heap_alloc_new w (.cells #[.string ⟨#[]⟩, .int .i64 0] 34))
  have bw : Below w.heap.size w (w.alloc (.cells #[.string ⟨#[]⟩, .int .i64 0] 34)) := balloc _
  obtain ⟨me, mb⟩ := m
  simp only at c4 c5 c6
  clear X H
  go_enter Try.func30, Try.ntmps30
  go_wp2_with fail
  refine (last_any B tp L F _ (HT.out.below bw)).mono ?_
  rintro e w1 ⟨rfl, b1⟩
  obtain ⟨x, hx⟩ : ∃ x, x = tl L := ⟨_, rfl⟩
  rw [← hx]
  have HXX := hid_mk hx
  have X1 := hid_mk (below_block b1 (by simp) X0.out)
  have hb1 := bthen bw b1
  have hs1 : w.heap.size < w1.heap.size := lt_of_block X1.out
  obtain ⟨a, ha⟩ : ∃ a, a = w1.heap.size := ⟨_, rfl⟩
  have n0 : ¬ w.heap.size = a := by omega
  have n1 : ¬ a = w.heap.size := by omega
  have n2 : ¬ p = a := by omega
  have n3 : ¬ a = p := by omega
  have bz : Below a w1 (w1.alloc (.cells #[.string x.1.key, .int .i64 x.1.id] 34)) := by rw [ha]; exact balloc _
  have Y := hid_mk (heap_alloc_new w1 (.cells #[.string x.1.key, .int .i64 x.1.id] 34))
  have HXa := hid_mk (HX.out.below (bthen hb1 (balloc (w := w1) (.cells #[.string x.1.key, .int .i64 x.1.id] 34))))
  have HTa := hid_mk (HT.out.below (bthen hb1 (balloc (w := w1) (.cells #[.string x.1.key, .int .i64 x.1.id] 34))))
  have d0 := keep_cell (bthen hb1 (balloc (w := w1) (.cells #[.string x.1.key, .int .i64 x.1.id] 34))) c0
  have d4 := keep_cell (bthen hb1 (balloc (w := w1) (.cells #[.string x.1.key, .int .i64 x.1.id] 34))) c4
  have d5 := keep_cell (bthen hb1 (balloc (w := w1) (.cells #[.string x.1.key, .int .i64 x.1.id] 34))) c5
  have d6 := keep_cell (bthen hb1 (balloc (w := w1) (.cells #[.string x.1.key, .int .i64 x.1.id] 34))) c6
  have HA := hid_mk ha
  clear hx b1 c0 c1 c3 c4 c5 c6 m0 m1
  go_upto_if 18 with fail
  obtain ⟨w2, hw2⟩ : ∃ w2, w2 = w1.alloc (.cells #[.string x.1.key, .int .i64 x.1.id] 34) := ⟨_, rfl⟩
  rw [← hw2, ← ha] at Y
  rw [← hw2] at bz HXa HTa d0 d4 d5 d6
  rw [← hw2, ← ha]
  have hsa : w.heap.size < a := by omega
  clear hw2 ha
  go_cut [5] (fun s5 wx => ∃ y : E × Bool, s5 = .bool y.2 ∧ Hid (y = lastE L ⟨me, mb⟩) ∧ Hid (wx.heap[a]? = some (.cells #[.string y.1.key, .int .i64 y.1.id] 34 (0, 0))) ∧ Hid (Below a w1 wx))
  case first =>
    clear c2 HX HXa hb1 bw d6
    cases mb with
    | false =>
      have HL : Hid (x = lastE L ⟨me, false⟩) := hid_mk (by unfold lastE; rw [if_neg (by simp)]; exact HXX.out)
      go_wp2_with fail
      go_meet
      case rel => exact ⟨x, rfl, HL, Y, hid_mk bz⟩
    | true =>
      obtain ⟨y, hy⟩ : ∃ y, y = tl (below me L) := ⟨_, rfl⟩
      have HL : Hid (y = lastE L ⟨me, true⟩) := hid_mk (by unfold lastE; rw [if_pos rfl]; exact hy)
      have HY := hid_mk hy
      have hbd : Below w2.heap.size w2 w2.drew := pw_below (n := 1) (Below.refl _ _)
      have hp2 : w2.drew.cell? ⟨p, 0, none⟩ = some (.pointer (some ⟨tp, 0, none⟩)) := d0
      have hp4 : w2.drew.cell? ⟨p, 4, none⟩ = some (.string me.key) := d4
      have hp5 : w2.drew.cell? ⟨p, 5, none⟩ = some (.int .i64 me.id) := d5
      clear d0 d4 d5 hy
      go_wp2_with fail
      go_region_held3 (fun w' => w'.cell? ⟨p, 0, none⟩ = some (.pointer (some ⟨tp, 0, none⟩)) ∧ w'.cell? ⟨p, 4, none⟩ = some (.string me.key) ∧ w'.cell? ⟨p, 5, none⟩ = some (.int .i64 me.id))
        ((first | go_keep | exact ⟨J0, J1, J2⟩ | (refine ⟨?_, ?_, ?_⟩ <;> (rw [World.cell?_setCell_other _ _ _ _ (by intro e9; injection e9 <;> omega), World.cell?_setCell_other _ _ _ _ (by intro e9; injection e9 <;> omega)]; assumption))))
        ((go_at_call 43; refine (before_any B tp L F me _ (HTa.out.below hbd)).mono ?_; rintro r w4 ⟨rfl, b4⟩; have J0 := keep_cell b4 hp2; have J1 := keep_cell b4 hp4; have J2 := keep_cell b4 hp5; rw [← HY.out];
          have b5 := cut_a b4;
          have X4 := below_block b5 (lt_of_block Y.out) Y.out;
          have k0 := (cell_of_row w4 _ 0 _ _ _ X4).trans rfl;
          have k1 := (cell_of_row w4 _ 1 _ _ _ X4).trans rfl;
          have kf0 : w4.frozen? ⟨a, 0, none⟩ = false := by simp [World.frozen?, X4];
          have kf1 : w4.frozen? ⟨a, 1, none⟩ = false := by simp [World.frozen?, X4];
          have HB4 := hid_mk (bz.trans (b5.mono (by rw [HA.out]; exact bz.size))); have HX4 := hid_mk X4; clear X4 b5))
      go_wp2_with fail
      go_meet
      case rel => exact ⟨y, rfl, HL, hid_mk (block_setCell (block_setCell HX4.out 0 _ (by simp)) 1 _ (by simp)), hid_mk ((HB4.out.setCell (by simp) _).setCell (by simp) _)⟩
  case rest =>
    obtain ⟨y, rfl, HL, Y2, hb⟩ := hcut
    clear Y bz HXa HTa d0 d4 d5 d6 HXX
    have hbw : Below w.heap.size w wc := hb1.trans (hb.out.mono (by omega))
    have X2 : wc.heap[w.heap.size]? = some (.cells #[.string ⟨#[]⟩, .int .i64 0] 34 (0, 0)) := (hb.out.block _ hsa).trans X1.out
    have hwa : a < wc.heap.size := lt_of_block Y2.out
    have d2 := keep_cell hbw c2
    have k0 := (cell_of_row wc _ 0 _ _ _ X2).trans rfl
    have k1 := (cell_of_row wc _ 1 _ _ _ X2).trans rfl
    have kf0 : wc.frozen? ⟨w.heap.size, 0, none⟩ = false := by simp [World.frozen?, X2]
    have kf1 : wc.frozen? ⟨w.heap.size, 1, none⟩ = false := by simp [World.frozen?, X2]
    have y0 := (cell_of_row wc _ 0 _ _ _ Y2.out).trans rfl
    have y1 := (cell_of_row wc _ 1 _ _ _ Y2.out).trans rfl
    have HB := hid_mk hbw
    have HX2 := hid_mk X2
    have HXc := hid_mk (HX.out.below hbw)
    have HTc := hid_mk (HT.out.below hbw)
    have q2 := bl_kc y.1.key r.t
    have q3 := emp_nil r.t
    obtain ⟨ye, yb⟩ := y
    simp only at y0 y1 q2 ⊢
    clear c2 hbw X2 Y2 hb HX HT X0 X1 bw hb1
    cases yb with
    | false =>
      have HF : Hid (dnE L r ⟨me, mb⟩ = (ye, false)) := hid_mk (by unfold dnE; rw [← HL.out]; simp)
      go_wp2_with fail
      go_quiet (fail)
      go_wp2_with fail
      (try simp only [Exit.inBlock, Exit.then])
      refine bodyPost_ret (v := .tuple #[.agg #[.string ye.key, .int .i64 ye.id], .bool false]) ?_ rfl ?_
      · simp [results, Try.results30, go_sem, *]
      · exact ⟨by rw [HF.out], ((pw_below HB.out).setCell (by simp) _).setCell (by simp) _⟩
    | true =>
      cases hn : decide (r.t = nil0) with
      | true =>
        rw [hn] at q3
        have HF : Hid (dnE L r ⟨me, mb⟩ = (ye, true)) := hid_mk (by unfold dnE; rw [← HL.out]; simp [ahead, hn])
        go_wp2_with fail
        go_quiet (fail)
        go_wp2_with fail
        (try simp only [Exit.inBlock, Exit.then])
        refine bodyPost_ret (v := .tuple #[.agg #[.string ye.key, .int .i64 ye.id], .bool true]) ?_ rfl ?_
        · simp [results, Try.results30, go_sem, *]
        · exact ⟨by rw [HF.out], ((pw_below HB.out).setCell (by simp) _).setCell (by simp) _⟩
      | false =>
        rw [hn] at q3
        cases hk : decide (kc ye.key r.t < 0) with
        | true =>
          rw [hk] at q2
          have HF : Hid (dnE L r ⟨me, mb⟩ = (ye, true)) := hid_mk (by unfold dnE; rw [← HL.out]; simp [ahead, hn, hk])
          go_wp2_with fail
          go_quiet (fail)
          go_wp2_with fail
          (try simp only [Exit.inBlock, Exit.then])
          refine bodyPost_ret (v := .tuple #[.agg #[.string ye.key, .int .i64 ye.id], .bool true]) ?_ rfl ?_
          · simp [results, Try.results30, go_sem, *]
          · exact ⟨by rw [HF.out], ((pw_below HB.out).setCell (by simp) _).setCell (by simp) _⟩
        | false =>
          rw [hk] at q2
          have HF : Hid (dnE L r ⟨me, mb⟩ = tl (below (low r.t) L)) := hid_mk (by unfold dnE; rw [← HL.out]; simp [ahead, hn, hk])
          go_wp2_with fail
          go_quiet (fail)
          go_wp2_with fail
          obtain ⟨z, hz⟩ : ∃ z, z = tl (below (low r.t) L) := ⟨_, rfl⟩
          rw [← hz] at HF
          have HZ := hid_mk hz
          obtain ⟨w6, hw6⟩ : ∃ w6, w6 = wc.drewN nq := ⟨_, rfl⟩
          have bq : Below wc.heap.size wc w6 := by rw [hw6]; exact pw_below (Below.refl _ _)
          rw [← hw6]
          have HB6 := hid_mk (bthen HB.out bq)
          have HX6 := hid_mk (below_block bq (by omega) HX2.out)
          have HT6 := hid_mk (HTc.out.below bq)
          have XW := (HXc.out.below bq).cells
          have v0 : w6.drew.cell? ⟨p, 0, none⟩ = some (.pointer (some ⟨tp, 0, none⟩)) := XW.c0
          have v2 : w6.drew.cell? ⟨p, 2, none⟩ = some (.string r.t) := XW.c2
          have hs6 : w.heap.size < w6.heap.size := lt_of_block HX6.out
          clear hw6 hz bq XW d2 k0 k1 kf0 kf1 y0 y1 q2 q3 hn hk HX2 HTc HXc HB
          go_region_held3 (fun w' => w'.cell? ⟨p, 0, none⟩ = some (.pointer (some ⟨tp, 0, none⟩)) ∧ w'.cell? ⟨p, 2, none⟩ = some (.string r.t))
            ((first | go_keep | exact ⟨J0, J1⟩ | exact ⟨I0, I1⟩ | (refine ⟨?_, ?_⟩ <;> (rw [World.cell?_setCell_other _ _ _ _ (by intro e9; injection e9 <;> omega), World.cell?_setCell_other _ _ _ _ (by intro e9; injection e9 <;> omega)]; assumption))))
            ((first
              | (go_at_call 44; refine (low_any r.t _).mono ?_; rintro e w7 ⟨rfl, b7⟩; have b77 := cut_a b7; have T7 := hid_mk (HT6.out.below b77); have I0 := keep_cell b7 v0; have I1 := keep_cell b7 v2; have X7 := hid_mk (below_block b77 hs6 HX6.out); have HB7 := hid_mk (bthen HB6.out b77); clear b77)
              | (go_at_call 43; refine (before_any B tp L F (low r.t) _ T7.out).mono ?_; rintro e w8 ⟨rfl, b8⟩; have J0 := keep_cell b8 I0; have J1 := keep_cell b8 I1; rw [← HZ.out];
                 have X8 := below_block b8 (lt_of_block X7.out) X7.out;
                 have k0 := (cell_of_row w8 _ 0 _ _ _ X8).trans rfl;
                 have k1 := (cell_of_row w8 _ 1 _ _ _ X8).trans rfl;
                 have kf0 : w8.frozen? ⟨w.heap.size, 0, none⟩ = false := by simp [World.frozen?, X8];
                 have kf1 : w8.frozen? ⟨w.heap.size, 1, none⟩ = false := by simp [World.frozen?, X8];
                 have HB8 := hid_mk (bthen HB7.out b8); clear X8)))
          go_wp2_with fail
          (try simp only [Exit.inBlock, Exit.then])
          refine bodyPost_ret (v := .tuple #[.agg #[.string z.1.key, .int .i64 z.1.id], .bool z.2]) ?_ rfl ?_
          · simp [results, Try.results30, go_sem, *]
          · exact ⟨by rw [HF.out], (HB8.out.setCell (by simp) _).setCell (by simp) _⟩

end Go.Proofs.Ytanomhjekdefeaa
