/- A deed, done to a heap and to a map of what it should hold. -/
import Derived.Test.YtlehgmfpblifkaaDoorHeapPr
import Derived.Deep.LoopGhost
import Derived.Deep.DeepCutAuto
namespace Go.Proofs.YtlehgmfpblifkaaDoor
open Go.RowKit
set_option linter.unusedVariables false
attribute [local go_sem ↓] Go.wp_at_zero Go.wp_at_succ

theorem zeroV7 : ∀ w, (zeroValue 36).run Tryd.prog w = .ok zR.agg w := fun w => by kernel_rfl
theorem rd_set5 {w4 : World} {lo b : Nat} {v : V} {r : Rv} (D : Rd (fun k => lo ≤ k ∧ k < w4.heap.size) 4 w4 v r) (h : b < lo) (u0 u1 u2 u3 u4 : Value) : RdW 4 (((((w4.setCell ⟨b, 0, none⟩ u0).setCell ⟨b, 1, none⟩ u1).setCell ⟨b, 2, none⟩ u2).setCell ⟨b, 3, none⟩ u3).setCell ⟨b, 4, none⟩ u4) v r := by
  refine Rd.stays (fun k hk => by simp; exact hk.2) (fun k hk => ?_) 4 v r D
  have hne : k ≠ b := by omega
  exact (heap_setCell_other _ _ k _ hne).trans ((heap_setCell_other _ _ k _ hne).trans ((heap_setCell_other _ _ k _ hne).trans ((heap_setCell_other _ _ k _ hne).trans (heap_setCell_other _ _ k _ hne))))
theorem cutA {W0 w4 : World} (b : Below W0.drew.heap.size W0.drew w4) : Below W0.heap.size W0 w4 := (pw_below (n := 1) (Below.refl W0.heap.size W0)).trans b
theorem cutB {W0 w4 : World} {o : Obj} (b : Below (W0.drew.alloc o).heap.size (W0.drew.alloc o) w4) : Below W0.heap.size W0 w4 := by
  have h : Below W0.heap.size W0 (W0.drew.alloc o) := Below.alloc (pw_below (n := 1) (Below.refl W0.heap.size W0)) (Nat.le_refl _) o
  exact h.trans (b.mono h.size)
theorem newB {W0 w4 : World} {cs : Array Value} {n : Nat} (hn : W0.heap.size = n) (b : Below (W0.drew.alloc (.cells cs 36)).heap.size (W0.drew.alloc (.cells cs 36)) w4) : w4.heap[n]? = some (.cells cs 36 (0, 0)) := by
  subst hn
  exact below_block b (by rw [World.size_alloc]; exact Nat.lt_succ_self _) (heap_alloc_new W0.drew (.cells cs 36))
theorem atA {W0 : World} : Below W0.heap.size W0 W0.drew := pw_below (n := 1) (Below.refl W0.heap.size W0)
theorem atB {W0 : World} {o : Obj} : Below W0.heap.size W0 (W0.drew.alloc o) := Below.alloc atA (Nat.le_refl _) o

set_option maxHeartbeats 2000000 in
set_option maxRecDepth 100000 in
theorem do_any (B p r : Nat) (ds : List Dc) (last : Int) (l : KV) (x : A7) (w : World) (H : Hm B w p r ds last l) (hx : x.ok w) (ht : Tabs w) (hl : ds.length < 400) (h0 : 0 ≤ last) (h1 : last < 1000000) :
    Calls Tryd.prog 15 #[.pointer (some ⟨p, 0, none⟩), .map (some r), .int .i64 last, .agg #[.int .u8 x.kind, .int .u8 x.id, .slice x.A x.n x.cap]] w fun e w' =>
      ∃ ds' last' l', e = .returned (.tuple #[.int .i64 last', .bool true]) ∧ Hm B w' p r ds' last' l' ∧ Below B w w' ∧ ds'.length ≤ ds.length + 1 ∧ last ≤ last' ∧ last' ≤ last + 1 := by
  obtain ⟨⟨hk0, hk255⟩, ⟨hi0, hi255⟩, hbytes⟩ := hx
  obtain ⟨W0, hW0⟩ : ∃ W0, W0 = w.alloc (.cells #[.int .u8 x.kind, .int .u8 x.id, .slice x.A x.n x.cap] 28) := ⟨_, rfl⟩
  have bw : Below w.heap.size w W0 := by rw [hW0]; exact balloc _
  have hs0 : W0.heap.size = w.heap.size + 1 := by rw [hW0]; simp
  have X0 : W0.heap[w.heap.size]? = some (.cells #[.int .u8 x.kind, .int .u8 x.id, .slice x.A x.n x.cap] 28) := by rw [hW0]; exact heap_alloc_new w _
  have HBY := hid_mk (Bytes.of_below hbytes bw)
  have HT := hid_mk (ht.below bw)
  have HH := hid_mk (H.below bw)
  have HB : Hid (B ≤ w.heap.size) := hid_mk (by obtain ⟨_, _, _, _, _, _, _, h⟩ := H; exact h)
  have BW := hid_mk bw
  have HX0 := hid_mk X0
  have q0 : 0 ≤ x.kind % 5 := Int.emod_nonneg _ (by omega)
  have q5 : x.kind % 5 < 5 := Int.emod_lt_of_pos _ (by omega)
  have j0 : 0 ≤ x.id % 24 := Int.emod_nonneg _ (by omega)
  have j5 : x.id % 24 < 24 := Int.emod_lt_of_pos _ (by omega)
  have hw1 : wrap64 (x.id % 24) = x.id % 24 := by unfold wrap64; omega
  have c0 := (cell_of_row W0 _ 0 _ _ _ X0).trans rfl
  have c1 := (cell_of_row W0 _ 1 _ _ _ X0).trans rfl
  have c2 := (cell_of_row W0 _ 2 _ _ _ X0).trans rfl
  clear hbytes ht H bw X0
  go_enter Tryd.func15, Tryd.ntmps15
  go_wp2_with fail
  rw [← hW0]
  clear hW0
  go_cut [10, 11] (fun s10 s11 wx => ∃ (a : Nat) (v : V) (rv : Rv), s10 = .pointer (some ⟨a, 0, none⟩) ∧ s11 = .int .i64 (x.id % 24) ∧ Hid (wx.heap[a]? = some (.cells #[.int .i64 rv.k, .int .i64 rv.i, .string rv.t, rv.l.v, rv.f.v] 36 (0, 0))) ∧ Hid (RdW 4 wx v rv) ∧ w.heap.size < a ∧ Hid (Below W0.heap.size W0 wx))
  case first =>
    have T1 : Hid (∀ z : World, Below W0.heap.size W0 z → Bytes z.heap.size z x.A x.n x.cap x.zs) := hid_mk fun z hz => Bytes.of_below HBY.out hz
    have T2 : Hid (∀ z : World, Below W0.heap.size W0 z → Tabs z) := hid_mk fun z hz => HT.out.below hz
    have HW := hid_mk (show IntKind.i64.wrap (x.id.tmod 24) = x.id % 24 by rw [Int.tmod_eq_emod_of_nonneg hi0, IntKind.wrap_i64]; omega)
    clear HH HB BW q0 q5 HBY HT
    have g1 : W0.drew.cell? ⟨w.heap.size, 1, none⟩ = some (.int .u8 x.id) := c1
    have g2 : W0.drew.cell? ⟨w.heap.size, 2, none⟩ = some (.slice x.A x.n x.cap) := c2
    have n0 : ¬ W0.heap.size = w.heap.size := by omega
    have n1 : ¬ w.heap.size = W0.heap.size := by omega
    go_region_held3 (fun w' => w'.cell? ⟨w.heap.size, 1, none⟩ = some (.int .u8 x.id) ∧ w'.cell? ⟨w.heap.size, 2, none⟩ = some (.slice x.A x.n x.cap))
      ((first | with_reducible exact ⟨K1, K2⟩ | go_keep))
      ((go_at_call 12; refine (of_any x.A x.n x.cap x.zs _ (T1.out _ (by first | exact atA | exact atB)) (T2.out _ (by first | exact atA | exact atB))).mono ?_; rintro e9 w4 ⟨v, ⟨rk, ri, rt, ⟨la, ln, lc⟩, ⟨fa, fn, fc⟩⟩, rfl, D4, G4, b4⟩; simp only [Rv.agg, Sl.v]; clear G4; (have HD4 := hid_mk D4); clear D4;
        (have B4 : Below W0.heap.size W0 w4 := (by first | exact cutA b4 | exact cutB b4)); (have HB4 := hid_mk B4);
        (have n2 : ¬ w4.heap.size = w.heap.size := (by have := B4.size; omega)); (have n3 : ¬ w.heap.size = w4.heap.size := (by have := B4.size; omega));
        (try have Z4 := newB hs0 b4); (try have kf0 : w4.frozen? ⟨w.heap.size + 1, 0, none⟩ = false := by simp [World.frozen?, Z4]); (try have kf1 : w4.frozen? ⟨w.heap.size + 1, 1, none⟩ = false := by simp [World.frozen?, Z4]); (try have kf2 : w4.frozen? ⟨w.heap.size + 1, 2, none⟩ = false := by simp [World.frozen?, Z4]); (try have kf3 : w4.frozen? ⟨w.heap.size + 1, 3, none⟩ = false := by simp [World.frozen?, Z4]); (try have kf4 : w4.frozen? ⟨w.heap.size + 1, 4, none⟩ = false := by simp [World.frozen?, Z4]);
        (try have k0 := (cell_of_row w4 _ 0 _ _ _ Z4).trans rfl); (try have k1 := (cell_of_row w4 _ 1 _ _ _ Z4).trans rfl); (try have k2 := (cell_of_row w4 _ 2 _ _ _ Z4).trans rfl); (try have k3 := (cell_of_row w4 _ 3 _ _ _ Z4).trans rfl); (try have k4 := (cell_of_row w4 _ 4 _ _ _ Z4).trans rfl);
        (have K1 := keep_cell B4 c1); (have K2 := keep_cell B4 c2); (have HB5 := hid_mk b4); clear b4 B4))
    · go_wp2_with fail
      go_meet
      case rel =>
        have q1 := hid_mk (heap_alloc_new w4 (.cells #[.int .i64 rk, .int .i64 ri, .string rt, .slice la ln lc, .slice fa fn fc] 36))
        have q2 := hid_mk (RdW.below (Rd.wider (fun _ h => h.2) HD4.out) (balloc (w := w4) (.cells #[.int .i64 rk, .int .i64 ri, .string rt, .slice la ln lc, .slice fa fn fc] 36)))
        have q3 : w.heap.size < w4.heap.size := by have := HB4.out.size; omega
        have q4 := hid_mk (HB4.out.trans ((balloc (w := w4) (.cells #[.int .i64 rk, .int .i64 ri, .string rt, .slice la ln lc, .slice fa fn fc] 36)).mono HB4.out.size))
        exact ⟨w4.heap.size, v, ⟨rk, ri, rt, ⟨la, ln, lc⟩, ⟨fa, fn, fc⟩⟩, rfl, by rw [HW.out], q1, q2, q3, q4⟩
    · go_wp2_with fail
      go_meet
      case rel =>
        have q1 := hid_mk (block_setCell (block_setCell (block_setCell (block_setCell (block_setCell Z4 0 (.int .i64 rk) (by simp)) 1 (.int .i64 ri) (by simp)) 2 (.string rt) (by simp)) 3 (.slice la ln lc) (by simp)) 4 (.slice fa fn fc) (by simp))
        have q2 := hid_mk (rd_set5 HD4.out (by show w.heap.size + 1 < (W0.heap.push _).size; rw [Array.size_push]; omega) (.int .i64 rk) (.int .i64 ri) (.string rt) (.slice la ln lc) (.slice fa fn fc))
        have q4 := hid_mk (set5 (B := W0.heap.size) (b := w.heap.size + 1) (by omega) HB4.out (v0 := .int .i64 rk) (v1 := .int .i64 ri) (v2 := .string rt) (v3 := .slice la ln lc) (v4 := .slice fa fn fc) 0)
        exact ⟨w.heap.size + 1, v, ⟨rk, ri, rt, ⟨la, ln, lc⟩, ⟨fa, fn, fc⟩⟩, rfl, by rw [HW.out], q1, q2, by omega, q4⟩
  case rest =>
    obtain ⟨a, v, ⟨rk, ri, rt, ⟨la, ln, lc⟩, ⟨fa, fn, fc⟩⟩, rfl, rfl, Y, R, ha, hb⟩ := hcut
    obtain ⟨F, H1, M1, P1, U1, R1, hBr, hBw⟩ := HH.out.below hb.out
    have hbw : Below w.heap.size w wc := bthen BW.out hb.out
    have Y1 : wc.heap[a]? = some (.cells #[.int .i64 rk, .int .i64 ri, .string rt, .slice la ln lc, .slice fa fn fc] 36 (0, 0)) := Y.out
    have X1 := below_block hb.out (by omega) HX0.out
    have hlk := run_look_ok (P := Tryd.prog) M1 Tryd.underlying46 Tryd.underlying2 zR.agg (zeroV7 _) (x.id % 24)
    obtain ⟨z, hz⟩ : ∃ z, z = (lookD ds (x.id % 24)).1 := ⟨_, rfl⟩
    rw [P1.look U1.1, P1.some_, ← hz] at hlk
    obtain ⟨zk, zi, zt, ⟨za, zn, zc⟩, ⟨ya, yn, yc⟩⟩ := z
    simp only [Rv.agg, Sl.v] at hlk
    have bz := balloc (w := wc) (.cells #[.int .i64 zk, .int .i64 zi, .string zt, .slice za zn zc, .slice ya yn yc] 36)
    have H2 := hid_mk (H1.below bz)
    have M2 := M1.below bz
    have R2 := hid_mk (R.out.below bz)
    have RA2 := hid_mk (R1.below bz)
    have Y2 := below_block bz (lt_of_block Y1) Y1
    have X2 := below_block bz (lt_of_block X1) X1
    have hb2 := hid_mk (bthen hbw bz)
    have y0 := (cell_of_row _ a 0 _ _ _ Y2).trans rfl
    have y1 := (cell_of_row _ a 1 _ _ _ Y2).trans rfl
    have y2 := (cell_of_row _ a 2 _ _ _ Y2).trans rfl
    have y3 := (cell_of_row _ a 3 _ _ _ Y2).trans rfl
    have y4 := (cell_of_row _ a 4 _ _ _ Y2).trans rfl
    have d0 := (cell_of_row _ w.heap.size 0 _ _ _ X2).trans rfl
    have HP1 := hid_mk P1
    have HU1 := hid_mk U1
    clear HH BW HX0 hb H1 M1 P1 U1 R1 R hbw Y Y1 X1 X2 hz bz HBY HT c0 c1 c2
    by_cases hk3 : x.kind % 5 = 3
    · clear q0 q5
      cases hh : hasD ds (x.id % 24) with
      | true =>
        rw [hh] at hlk
        have HHH := hid_mk hh
        clear hh
        go_wp2_with (refine wpList_put rfl (.tmp 35) (.tmp 36) (.tmp 37) 46 rfl M2 Tryd.underlying46 Tryd.underlying2 (x.id % 24) (.agg #[.int .i64 rk, .int .i64 ri, .string rt, .slice la ln lc, .slice fa fn fc]) rfl rfl rfl ?_; intro w3 hmap3 hg3; have Y3 := block_map hg3 M2 Y2; have z0 := (cell_of_row _ a 0 _ _ _ Y3).trans rfl; have z1 := (cell_of_row _ a 1 _ _ _ Y3).trans rfl; have z2 := (cell_of_row _ a 2 _ _ _ Y3).trans rfl; have z3 := (cell_of_row _ a 3 _ _ _ Y3).trans rfl; have z4 := (cell_of_row _ a 4 _ _ _ Y3).trans rfl; have H3 := hid_mk (H2.out.grown M2 hg3); have M3 := hid_mk hmap3; have R3 := hid_mk (R2.out.grown M2 hg3); have RA3 := hid_mk (RA2.out.grown M2 hg3); have hb3 := hid_mk (below_grown (hb2.out.mono HB.out) hBr (Nat.le_trans HB.out hb2.out.size) hg3); clear M2 hmap3 hg3 Y2 Y3 H2 R2 RA2 hb2 y0 y1 y2 y3 y4)
        refine (hset_any B p ds last (x.id % 24) F ⟨rk, ri, rt, ⟨la, ln, lc⟩, ⟨fa, fn, fc⟩⟩ _ H3.out HU1.out.1 (by omega)).mono ?_
        rintro e w4 ⟨rfl, H4, m4⟩
        rw [HHH.out]
        have HR : Hid (Hm B w4 p r (setD ds (x.id % 24) ⟨rk, ri, rt, ⟨la, ln, lc⟩, ⟨fa, fn, fc⟩⟩) last (kvPut l (x.id % 24) (.agg #[.int .i64 rk, .int .i64 ri, .string rt, .slice la ln lc, .slice fa fn fc])) ∧ Below B w w4) := hid_mk
          ⟨⟨F, H4, M3.out.mv m4 (H3.out.no_map M3.out), HP1.out.set HU1.out.1 HHH.out ⟨rk, ri, rt, ⟨la, ln, lc⟩, ⟨fa, fn, fc⟩⟩, HU1.out.set _ _, (RA3.out.mv H3.out m4).set HU1.out.1 (R3.out.mv H3.out m4) _, hBr, Nat.le_trans (Nat.le_trans HB.out hb3.out.size) m4.size⟩, hb3.out.trans (H3.out.moved m4 (Nat.le_trans HB.out hb3.out.size))⟩
        clear H4 m4 H3 M3 R3 RA3 hb3
        go_wp2_with fail
        go_ret2
        exact ⟨_, _, _, rfl, HR.out.1, HR.out.2, by have := congrArg List.length (setD_keys ds (x.id % 24) ⟨rk, ri, rt, ⟨la, ln, lc⟩, ⟨fa, fn, fc⟩⟩); simp at this; omega, Int.le_refl _, by omega⟩
      | false =>
        rw [hh] at hlk
        have HHH := hid_mk hh
        have HM2 := hid_mk M2
        clear hh M2 Y2
        go_wp2_with fail
        refine (hset_any B p ds last (x.id % 24) F ⟨rk, ri, rt, ⟨la, ln, lc⟩, ⟨fa, fn, fc⟩⟩ _ H2.out HU1.out.1 (by omega)).mono ?_
        rintro e w4 ⟨rfl, H4, m4⟩
        rw [HHH.out]
        have hse : setD ds (x.id % 24) ⟨rk, ri, rt, ⟨la, ln, lc⟩, ⟨fa, fn, fc⟩⟩ = ds := if_neg (by rw [HHH.out]; simp)
        rw [hse] at H4
        have HR : Hid (Hm B w4 p r ds last l ∧ Below B w w4) := hid_mk
          ⟨⟨F, H4, HM2.out.mv m4 (H2.out.no_map HM2.out), HP1.out, HU1.out, RA2.out.mv H2.out m4, hBr, Nat.le_trans (Nat.le_trans HB.out hb2.out.size) m4.size⟩, (hb2.out.mono HB.out).trans (H2.out.moved m4 (Nat.le_trans HB.out hb2.out.size))⟩
        clear H4 m4 H2 HM2 R2 RA2 hb2 hse
        go_wp2_with fail
        go_ret2
        exact ⟨_, _, _, rfl, HR.out.1, HR.out.2, by omega, Int.le_refl _, by omega⟩
    · have e3 : (x.kind % 5 == 3) = false := beq_eq_false_iff_ne.2 hk3
      by_cases hk4 : x.kind % 5 = 4
      · clear q0 q5
        have hh : hasD ds (x.id % 24) = hasD ds (x.id % 24) := rfl
        go_wp2_with (refine wpList_del rfl (.tmp 47) (.tmp 48) 46 rfl M2 Tryd.underlying46 Tryd.underlying2 (x.id % 24) rfl rfl ?_; intro w3 hmap3 hg3; have H3 := hid_mk (H2.out.grown M2 hg3); have M3 := hid_mk hmap3; have hnd := hid_mk M2.nodup; have RA3 := hid_mk (RA2.out.grown M2 hg3); have hb3 := hid_mk (below_grown (hb2.out.mono HB.out) hBr (Nat.le_trans HB.out hb2.out.size) hg3); clear M2 hmap3 hg3 Y2 H2 R2 RA2 hb2 y0 y1 y2 y3 y4)
        refine (hdel_any B p ds last (x.id % 24) F _ H3.out (Nat.le_trans HB.out hb3.out.size) HU1.out.1 (by omega)).mono ?_
        rintro e w4 ⟨rfl, F', H4, m4⟩
        have HR : Hid (Hm B w4 p r (delD ds (x.id % 24)) last (kvDel l (x.id % 24)) ∧ Below B w w4) := hid_mk
          ⟨⟨F', H4, M3.out.mv m4 (H3.out.no_map M3.out), HP1.out.del HU1.out.1 hnd.out _, HU1.out.del _, (RA3.out.mv H3.out m4).del _, hBr, Nat.le_trans (Nat.le_trans HB.out hb3.out.size) m4.size⟩, hb3.out.trans (H3.out.moved m4 (Nat.le_trans HB.out hb3.out.size))⟩
        have hdl := delD_le ds (x.id % 24)
        clear H4 m4 H3 M3 RA3 hb3 hnd
        go_wp2_with fail
        go_ret2
        exact ⟨_, _, _, by simp, HR.out.1, HR.out.2, by omega, Int.le_refl _, by omega⟩
      · have e4 : (x.kind % 5 == 4) = false := beq_eq_false_iff_ne.2 hk4
        have hwl : IntKind.i64.wrap (last + 1) = last + 1 := by rw [IntKind.wrap_i64]; omega
        have hwl2 : wrap64 (last + 1) = last + 1 := by unfold wrap64; omega
        have HM2 := hid_mk M2
        have HY2 := hid_mk Y2
        clear q0 q5 M2 Y2
        go_wp2_with fail
        refine (hins_any B p ds last F ⟨rk, ri, rt, ⟨la, ln, lc⟩, ⟨fa, fn, fc⟩⟩ _ H2.out (Nat.le_trans HB.out hb2.out.size) (by omega) h0 (by omega)).mono ?_
        rintro e w4 ⟨rfl, F', H4, m4⟩
        have hnF : ¬ F a := H2.out.no_val (.inl ⟨_, _, HY2.out⟩)
        have Y4 := m4.at_ HY2.out hnF
        have M4 := HM2.out.mv m4 (H2.out.no_map HM2.out)
        have R4 := hid_mk (R2.out.mv H2.out m4)
        have RA4 := hid_mk (RA2.out.mv H2.out m4)
        have HH4 := hid_mk H4
        have hb4 := hid_mk ((hb2.out.mono HB.out).trans (H2.out.moved m4 (Nat.le_trans HB.out hb2.out.size)))
        have hz4 : B ≤ w4.heap.size := Nat.le_trans (Nat.le_trans HB.out hb2.out.size) m4.size
        have z0 := (cell_of_row _ a 0 _ _ _ Y4).trans rfl
        have z1 := (cell_of_row _ a 1 _ _ _ Y4).trans rfl
        have z2 := (cell_of_row _ a 2 _ _ _ Y4).trans rfl
        have z3 := (cell_of_row _ a 3 _ _ _ Y4).trans rfl
        have z4 := (cell_of_row _ a 4 _ _ _ Y4).trans rfl
        clear H4 m4 H2 HM2 R2 RA2 hb2 HY2 hnF y0 y1 y2 y3 y4
        go_wp2_with (refine wpList_put rfl (.tmp 61) (.tmp 63) (.tmp 64) 46 rfl M4 Tryd.underlying46 Tryd.underlying2 (last + 1) (.agg #[.int .i64 rk, .int .i64 ri, .string rt, .slice la ln lc, .slice fa fn fc]) rfl rfl rfl ?_; intro w5 hmap5 hg5; have HR : Hid (Hm B w5 p r (ds ++ [⟨last + 1, ⟨rk, ri, rt, ⟨la, ln, lc⟩, ⟨fa, fn, fc⟩⟩⟩]) (last + 1) (kvPut l (last + 1) (.agg #[.int .i64 rk, .int .i64 ri, .string rt, .slice la ln lc, .slice fa fn fc])) ∧ Below B w w5) := hid_mk ⟨⟨F', HH4.out.grown M4 hg5, hmap5, HP1.out.ins HU1.out ⟨rk, ri, rt, ⟨la, ln, lc⟩, ⟨fa, fn, fc⟩⟩, HU1.out.ins _, (RA4.out.grown M4 hg5).ins (R4.out.grown M4 hg5) _, hBr, Nat.le_trans hz4 hg5.size⟩, below_grown hb4.out hBr hz4 hg5⟩; clear M4 hmap5 hg5 Y4 HH4 R4 RA4 hb4 z0 z1 z2 z3 z4)
        go_ret2
        exact ⟨_, _, _, rfl, HR.out.1, HR.out.2, by rw [List.length_append]; simp, by omega, by omega⟩

end Go.Proofs.YtlehgmfpblifkaaDoor
