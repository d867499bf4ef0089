/- A field that is taken away is there no more: the walk. -/
import Derived.Test.YtmeebjjdceokeaaDoorValueCmp
import Derived.Test.YtmeebjjdceokeaaDoorDoc03
namespace Go.Proofs.YtmeebjjdceokeaaDoor
open Go.RowKit
set_option linter.unusedVariables false
attribute [local go_sem ↓] Go.wp_at_zero Go.wp_at_succ

theorem box5c {w : World} {b : Nat} {k i : Int} {t : ByteArray} {l f : Value} (h : w.heap[b]? = some (.cells #[.int .i64 k, .int .i64 i, .string t, l, f] 28 (0, 0))) :
    w.cell? ⟨b, 0, none⟩ = some (.int .i64 k) ∧ w.cell? ⟨b, 1, none⟩ = some (.int .i64 i) ∧ w.cell? ⟨b, 2, none⟩ = some (.string t) ∧ w.cell? ⟨b, 3, none⟩ = some l ∧ w.cell? ⟨b, 4, none⟩ = some f :=
  ⟨(cell_of_row w _ 0 _ _ _ h).trans rfl, (cell_of_row w _ 1 _ _ _ h).trans rfl, (cell_of_row w _ 2 _ _ _ h).trans rfl, (cell_of_row w _ 3 _ _ _ h).trans rfl, (cell_of_row w _ 4 _ _ _ h).trans rfl⟩
theorem setV_k {v x : V} {name : ByteArray} (h : v.k = 5) : setV v name x = .mk v.k v.i v.t v.l (setF name x v.f) := if_pos h
theorem at_set (v x : V) (name : ByteArray) (h : v.k = 5) : decide (0 ≤ atV (setV v name x) name) = true := by
  have h9 : (setV v name x).k = 5 := by rw [setV_k h]; exact h
  rw [at_has _ _ h9, setV_k h]
  exact setF_has name x v.f
theorem at_del (v : V) (name : ByteArray) (h : v.k = 5) (hu : namesUp v.f) : decide (0 ≤ atV (delV v name) name) = false := by
  have h9 : (delV v name).k = 5 := by rw [delV_del v name h]; exact h
  rw [at_has _ _ h9, delV_del v name h]
  exact delF_gone name v.f hu
theorem del_back (v x : V) (name : ByteArray) (h : v.k = 5) (hu : namesUp v.f) : delV (setV (delV v name) name x) name = delV v name := by
  have h9 : (delV v name).k = 5 := by rw [delV_del v name h]; exact h
  have h8 : (setV (delV v name) name x).k = 5 := by rw [setV_k h9]; exact h9
  rw [delV_del _ _ h8, setV_k h9, delV_del v name h]
  show V.mk v.k v.i v.t v.l (delF name (setF name x (delF name v.f))) = _
  rw [del_set name x _ (delF_gone name v.f hu)]
theorem RdW.deeper {d : Nat} {w : World} {v : V} {r : Rv} (h : RdW d w v r) : RdW (d + 1) w v r := Rd.deeper d v r h
theorem RdW.flen {d : Nat} {w : World} {v : V} {r : Rv} (h : RdW (d + 1) w v r) : r.f.n = v.f.length := h.rows.2.2.2.2.at_.1

set_option maxHeartbeats 4000000 in
set_option maxRecDepth 100000 in
theorem del_walk (A0 : Option Addr) (n0 c0 : Nat) (z0 : List Int) (A1 : Option Addr) (n1 c1 : Nat) (z1 : List Int) (name : ByteArray) (w : World) (h0 : Bytes w.heap.size w A0 n0 c0 z0) (h1 : Bytes w.heap.size w A1 n1 c1 z1) (hn : name.size ≤ maxLen) (ht : Tabs w) :
    Calls Tryd.prog 7 #[.slice A0 n0 c0, .slice A1 n1 c1, .string name] w fun e w' => e = .returned (.bool true) ∧ Below w.heap.size w w' := by
  have H0 := hid_mk h0
  have H1 := hid_mk h1
  have HT := hid_mk ht
  clear h0 h1 ht hn
  go_enter Tryd.func7, Tryd.ntmps7
  go_wp2_with fail
  refine (awake03 w).mono ?_
  rintro e w1 ⟨rfl, b1⟩
  have HB1 := hid_mk b1
  clear b1
  go_wp2_with fail
  refine (doc_any A0 n0 c0 z0 w1 (H0.out.of_below HB1.out) (HT.out.below HB1.out)).mono ?_
  rintro e w2 ⟨o, ro, rfl, O2, GO, ok5, b2⟩
  have HB2 := hid_mk (bthen HB1.out b2)
  have HO2 := hid_mk O2
  have HOK := hid_mk (And.intro ok5 GO)
  clear O2 b2 HB1 ok5 GO
  go_wp2_with fail
  refine (of_w A1 n1 c1 z1 w2 (H1.out.of_below HB2.out) (HT.out.below HB2.out)).mono ?_
  rintro e w4 ⟨x, rx, rfl, X4, GX, b4⟩
  have HB4 := hid_mk (bthen HB2.out b4)
  have O4 := HO2.out.below b4
  obtain ⟨pk, pi, pt, ⟨pa, pn, pc⟩, ⟨pf, pg, ph⟩⟩ := ro
  obtain ⟨xk, xi, xt, ⟨xa, xn, xc⟩, ⟨xf, xg, xh⟩⟩ := rx
  obtain ⟨W5, hW5⟩ : ∃ W5, W5 = (w4.alloc (.cells #[.int .i64 pk, .int .i64 pi, .string pt, .slice pa pn pc, .slice pf pg ph] 28)).alloc (.cells #[.int .i64 xk, .int .i64 xi, .string xt, .slice xa xn xc, .slice xf xg xh] 28) := ⟨_, rfl⟩
  have b5 : Below w4.heap.size w4 W5 := by rw [hW5]; exact bthen (balloc _) (balloc _)
  obtain ⟨q0, q1⟩ := alloc2 w4 #[.int .i64 pk, .int .i64 pi, .string pt, .slice pa pn pc, .slice pf pg ph] #[.int .i64 xk, .int .i64 xi, .string xt, .slice xa xn xc, .slice xf xg xh] 28 28
  rw [← hW5] at q0 q1
  have HO := hid_mk (O4.below b5)
  have HX := hid_mk (X4.below b5)
  have HB5 := hid_mk (bthen HB4.out b5)
  have HQ := hid_mk (And.intro q0 q1)
  have HW5 := hid_mk hW5.symm
  simp only [Rv.agg, Sl.v]
  clear O4 X4 b5 q0 q1 hW5 b4 HO2 HB2 HB4 GX
  go_wp2_with fail
  rw [HW5.out]
  refine (del_any 3 o ⟨pk, pi, pt, ⟨pa, pn, pc⟩, ⟨pf, pg, ph⟩⟩ name _ HO.out (by have := HOK.out.2.2.2.2.2.2.2.2.2; omega)).mono ?_
  rintro e w6 ⟨rd, rfl, D6, b6⟩
  obtain ⟨dk, di, dt, ⟨da, dn, dc⟩, ⟨df, dg, dh⟩⟩ := rd
  obtain ⟨W7, hW7⟩ : ∃ W7, W7 = w6.alloc (.cells #[.int .i64 dk, .int .i64 di, .string dt, .slice da dn dc, .slice df dg dh] 28) := ⟨_, rfl⟩
  have b7 : Below w6.heap.size w6 W7 := by rw [hW7]; exact balloc _
  have b57 := bthen b6 b7
  have HD7 := hid_mk (D6.below b7)
  have HO7 := hid_mk (HO.out.below b57)
  have HX7 := hid_mk (HX.out.below b57)
  have HB7 := hid_mk (bthen HB5.out b57)
  have Z0 := below_block b57 (lt_of_block HQ.out.1) HQ.out.1
  have Z1 := below_block b57 (lt_of_block HQ.out.2) HQ.out.2
  have Z2 : W7.heap[w6.heap.size]? = some (.cells #[.int .i64 dk, .int .i64 di, .string dt, .slice da dn dc, .slice df dg dh] 28 (0, 0)) := by rw [hW7]; exact heap_alloc_new w6 _
  have HQ7 := hid_mk (And.intro Z0 (And.intro Z1 Z2))
  have HW7 := hid_mk hW7.symm
  have HHD : Hid (decide (0 ≤ atV o name) = hasF name o.f) := hid_mk (at_has o name HOK.out.1)
  rw [HHD.out]
  simp only [Rv.agg, Sl.v]
  clear D6 b6 b7 b57 HO HX HB5 HQ Z0 Z1 Z2 hW7
  go_wp2_with fail
  rw [HW7.out]
  refine (get_any 2 (delV o name) ⟨dk, di, dt, ⟨da, dn, dc⟩, ⟨df, dg, dh⟩⟩ name _ HD7.out).mono ?_
  rintro e w8 ⟨rg, rfl, G8, b8⟩
  rw [at_del o name HOK.out.1 HOK.out.2.2.2.2.2.2.2.1]
  obtain ⟨gk, gi, gt, ⟨ga, gn, gc⟩, ⟨gf, gg, gh⟩⟩ := rg
  obtain ⟨W9, hW9⟩ : ∃ W9, W9 = w8.alloc (.cells #[.int .i64 gk, .int .i64 gi, .string gt, .slice ga gn gc, .slice gf gg gh] 28) := ⟨_, rfl⟩
  have b9 : Below w8.heap.size w8 W9 := by rw [hW9]; exact balloc _
  have b79 := bthen b8 b9
  have HD9 := hid_mk (HD7.out.below b79)
  have HO9 := hid_mk (HO7.out.below b79)
  have HX9 := hid_mk (HX7.out.below b79)
  have HB9 := hid_mk (bthen HB7.out b79)
  have Z0 := below_block b79 (lt_of_block HQ7.out.1) HQ7.out.1
  have Z1 := below_block b79 (lt_of_block HQ7.out.2.1) HQ7.out.2.1
  have Z2 := below_block b79 (lt_of_block HQ7.out.2.2) HQ7.out.2.2
  have HQ9 := hid_mk (And.intro Z0 (And.intro Z1 Z2))
  obtain ⟨o0, o1, o2, o3, o4⟩ := box5c Z0
  have HW9 := hid_mk hW9.symm
  rw [hW9] at o0 o1 o2 o3 o4
  simp only [Rv.agg, Sl.v]
  clear G8 b8 b9 b79 HD7 HO7 HX7 HB7 HQ7 Z0 Z1 Z2 hW9
  go_wp2_with fail
  rw [HW9.out]
  refine (get_any 2 o ⟨pk, pi, pt, ⟨pa, pn, pc⟩, ⟨pf, pg, ph⟩⟩ name _ HO9.out).mono ?_
  rintro e wa ⟨rh, rfl, Ga, ba⟩
  rw [HHD.out]
  obtain ⟨hk, hi, ht', ⟨ha, hn', hc⟩, ⟨hf, hg, hh⟩⟩ := rh
  obtain ⟨Wb, hWb⟩ : ∃ Wb, Wb = wa.alloc (.cells #[.int .i64 hk, .int .i64 hi, .string ht', .slice ha hn' hc, .slice hf hg hh] 28) := ⟨_, rfl⟩
  have bb : Below wa.heap.size wa Wb := by rw [hWb]; exact balloc _
  have b9b := bthen ba bb
  have HDb := hid_mk (HD9.out.below b9b)
  have HOb := hid_mk (HO9.out.below b9b)
  have HXb := hid_mk (HX9.out.below b9b)
  have HBb := hid_mk (bthen HB9.out b9b)
  have Z0 := below_block b9b (lt_of_block HQ9.out.1) HQ9.out.1
  have Z1 := below_block b9b (lt_of_block HQ9.out.2.1) HQ9.out.2.1
  have Z2 := below_block b9b (lt_of_block HQ9.out.2.2) HQ9.out.2.2
  have HQb := hid_mk (And.intro Z0 (And.intro Z1 Z2))
  clear o0 o1 o2 o3 o4
  obtain ⟨o0, o1, o2, o3, o4⟩ := box5c Z0
  obtain ⟨x0, x1, x2, x3, x4⟩ := box5c Z1
  obtain ⟨d0, d1, d2, d3, d4⟩ := box5c Z2
  have HWb := hid_mk hWb.symm
  rw [hWb] at o0 o1 o2 o3 o4 x0 x1 x2 x3 x4 d0 d1 d2 d3 d4
  have hdg : dg = (delV o name).f.length := HDb.out.flen
  have hpg : pg = o.f.length := HOb.out.flen
  rw [delV_del o name HOK.out.1] at hdg
  have hdg' : dg = (delF name o.f).length := hdg
  simp only [Rv.agg, Sl.v]
  clear Ga ba bb b9b HD9 HO9 HX9 HB9 HQ9 Z0 Z1 Z2 hWb hdg
  have HUP := hid_mk HOK.out.2.2.2.2.2.2.2.1
  have HSB : Hid (cmpV 5 (delV (setV (delV o name) name x) name) (delV o name) = 0) := hid_mk (by rw [del_back o x name HOK.out.1 HUP.out]; exact cmp_self 5 _)
  have HDK : Hid ((delV o name).k = 5) := hid_mk (by rw [delV_del o name HOK.out.1]; exact HOK.out.1)
  have HLD : Hid ((delV o name).f.length < 1000000000) := hid_mk (by
    have h4 := HOK.out.2.2.2.2.2.2.2.2.2
    have h5 := (delF_sub name o.f).length_le
    rw [delV_del o name HOK.out.1]
    show (delF name o.f).length < _
    omega)
  have HLS : Hid ((setV (delV o name) name x).f.length < 1000000000) := hid_mk (by
    have h4 := HOK.out.2.2.2.2.2.2.2.2.2
    have h5 := (delF_sub name o.f).length_le
    have h6 := setF_len name x (delV o name).f
    rw [setV_k HDK.out]
    show (setF name x (delV o name).f).length < _
    rw [h6, delV_del o name HOK.out.1]
    show (if hasF name (delF name o.f) = true then (delF name o.f).length else (delF name o.f).length + 1) < _
    split <;> omega)
  cases hh9 : hasF name o.f with
  | false =>
    have HDO : Hid (cmpV 4 (delV o name) o = 0) := hid_mk (by
      have e : delV o name = o := by
        rw [delV_del o name HOK.out.1, delF_none name o.f hh9]; cases o; rfl
      rw [e]; exact cmp_self 4 _)
    clear hdg' hpg
    have HH9 := hid_mk hh9
    clear hh9
    go_wp2_with fail
    rw [HWb.out]
    refine (same_any 4 (delV o name) o ⟨dk, di, dt, ⟨da, dn, dc⟩, ⟨df, dg, dh⟩⟩ ⟨pk, pi, pt, ⟨pa, pn, pc⟩, ⟨pf, pg, ph⟩⟩ _ HDb.out HOb.out).mono ?_
    rintro e wc ⟨rfl, bc⟩
    rw [HDO.out]
    have HBC := hid_mk bc
    have Z1 := below_block bc (lt_of_block HQb.out.2.1) HQb.out.2.1
    have Z2 := below_block bc (lt_of_block HQb.out.2.2) HQb.out.2.2
    clear o0 o1 o2 o3 o4 x0 x1 x2 x3 x4 d0 d1 d2 d3 d4 bc
    obtain ⟨x0, x1, x2, x3, x4⟩ := box5c Z1
    obtain ⟨d0, d1, d2, d3, d4⟩ := box5c Z2
    clear Z1 Z2
    go_wp2_with fail
    refine (set_any 4 (delV o name) x ⟨dk, di, dt, ⟨da, dn, dc⟩, ⟨df, dg, dh⟩⟩ ⟨xk, xi, xt, ⟨xa, xn, xc⟩, ⟨xf, xg, xh⟩⟩ name _ (RdW.deeper (HDb.out.below HBC.out)) (HXb.out.below HBC.out) HLD.out).mono ?_
    rintro e we ⟨rs, rfl, Re, be⟩
    obtain ⟨sk, si, st, ⟨sa, sn, sc⟩, ⟨sf, sg, sh⟩⟩ := rs
    simp only [Rv.agg, Sl.v]
    have HRe := hid_mk Re
    have HBe := hid_mk (bthen HBC.out be)
    clear d0 d1 d2 d3 d4 x0 x1 x2 x3 x4 Re be
    go_wp2_with fail
    refine (del_any 4 (setV (delV o name) name x) ⟨sk, si, st, ⟨sa, sn, sc⟩, ⟨sf, sg, sh⟩⟩ name _ HRe.out HLS.out).mono ?_
    rintro e wf ⟨re, rfl, Rf, bf⟩
    rw [at_set _ _ _ HDK.out]
    obtain ⟨tk, ti, tt, ⟨ta, tn, tc⟩, ⟨tf, tg, th⟩⟩ := re
    obtain ⟨Wg, hWg⟩ : ∃ Wg, Wg = wf.alloc (.cells #[.int .i64 tk, .int .i64 ti, .string tt, .slice ta tn tc, .slice tf tg th] 28) := ⟨_, rfl⟩
    have bg : Below wf.heap.size wf Wg := by rw [hWg]; exact balloc _
    have bbg := bthen HBe.out (bthen bf bg)
    have HRg := hid_mk (Rf.below bg)
    have HDg := hid_mk (RdW.deeper (HDb.out.below bbg))
    have HBg := hid_mk (bthen HBb.out bbg)
    have Z2 := below_block bbg (lt_of_block HQb.out.2.2) HQb.out.2.2
    obtain ⟨d0, d1, d2, d3, d4⟩ := box5c Z2
    have HWg := hid_mk hWg.symm
    rw [hWg] at d0 d1 d2 d3 d4
    simp only [Rv.agg, Sl.v]
    clear Rf bf bg bbg Z2 hWg HRe HBe
    go_wp2_with fail
    rw [HWg.out]
    refine (same_any 5 (delV (setV (delV o name) name x) name) (delV o name) ⟨tk, ti, tt, ⟨ta, tn, tc⟩, ⟨tf, tg, th⟩⟩ ⟨dk, di, dt, ⟨da, dn, dc⟩, ⟨df, dg, dh⟩⟩ _ HRg.out HDg.out).mono ?_
    rintro e wh ⟨rfl, bh⟩
    rw [HSB.out]
    have HBh := hid_mk (bthen HBg.out bh)
    clear bh d0 d1 d2 d3 d4
    go_wp2_with fail
    go_ret
    exact ⟨by simp, HBh.out⟩
  | true =>
    have hlen := delF_len name o.f hh9
    have hdp : (dg : Int) = (pg : Int) - 1 := by rw [hdg', hpg]; omega
    have hp9 : 1 ≤ pg := by rw [hpg]; omega
    have hpb : pg ≤ 4 := by rw [hpg]; exact HOK.out.2.2.2.2.2.2.2.2.2
    obtain ⟨m, rfl⟩ : ∃ m, pg = m + 1 := ⟨pg - 1, by omega⟩
    obtain rfl : dg = m := by omega
    have HBC := hid_mk (Below.refl Wb.heap.size Wb)
    clear hdg' hpg hlen hdp
    have HH9 := hid_mk hh9
    clear hh9
    go_wp2_with fail
    rw [HWb.out]
    refine (set_any 4 (delV o name) x ⟨dk, di, dt, ⟨da, dn, dc⟩, ⟨df, dg, dh⟩⟩ ⟨xk, xi, xt, ⟨xa, xn, xc⟩, ⟨xf, xg, xh⟩⟩ name _ (RdW.deeper (HDb.out.below HBC.out)) (HXb.out.below HBC.out) HLD.out).mono ?_
    rintro e we ⟨rs, rfl, Re, be⟩
    obtain ⟨sk, si, st, ⟨sa, sn, sc⟩, ⟨sf, sg, sh⟩⟩ := rs
    simp only [Rv.agg, Sl.v]
    have HRe := hid_mk Re
    have HBe := hid_mk (bthen HBC.out be)
    clear d0 d1 d2 d3 d4 x0 x1 x2 x3 x4 Re be
    go_wp2_with fail
    refine (del_any 4 (setV (delV o name) name x) ⟨sk, si, st, ⟨sa, sn, sc⟩, ⟨sf, sg, sh⟩⟩ name _ HRe.out HLS.out).mono ?_
    rintro e wf ⟨re, rfl, Rf, bf⟩
    rw [at_set _ _ _ HDK.out]
    obtain ⟨tk, ti, tt, ⟨ta, tn, tc⟩, ⟨tf, tg, th⟩⟩ := re
    obtain ⟨Wg, hWg⟩ : ∃ Wg, Wg = wf.alloc (.cells #[.int .i64 tk, .int .i64 ti, .string tt, .slice ta tn tc, .slice tf tg th] 28) := ⟨_, rfl⟩
    have bg : Below wf.heap.size wf Wg := by rw [hWg]; exact balloc _
    have bbg := bthen HBe.out (bthen bf bg)
    have HRg := hid_mk (Rf.below bg)
    have HDg := hid_mk (RdW.deeper (HDb.out.below bbg))
    have HBg := hid_mk (bthen HBb.out bbg)
    have Z2 := below_block bbg (lt_of_block HQb.out.2.2) HQb.out.2.2
    obtain ⟨d0, d1, d2, d3, d4⟩ := box5c Z2
    have HWg := hid_mk hWg.symm
    rw [hWg] at d0 d1 d2 d3 d4
    simp only [Rv.agg, Sl.v]
    clear Rf bf bg bbg Z2 hWg HRe HBe
    go_wp2_with fail
    rw [HWg.out]
    refine (same_any 5 (delV (setV (delV o name) name x) name) (delV o name) ⟨tk, ti, tt, ⟨ta, tn, tc⟩, ⟨tf, tg, th⟩⟩ ⟨dk, di, dt, ⟨da, dn, dc⟩, ⟨df, dg, dh⟩⟩ _ HRg.out HDg.out).mono ?_
    rintro e wh ⟨rfl, bh⟩
    rw [HSB.out]
    have HBh := hid_mk (bthen HBg.out bh)
    clear bh d0 d1 d2 d3 d4
    go_wp2_with fail
    go_ret
    exact ⟨by simp, HBh.out⟩

end Go.Proofs.YtmeebjjdceokeaaDoor
