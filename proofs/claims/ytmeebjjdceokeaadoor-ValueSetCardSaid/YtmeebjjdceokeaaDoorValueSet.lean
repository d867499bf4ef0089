/- A field that is set is there, all others are as they were: the walk. -/
import Derived.Test.YtmeebjjdceokeaaDoorValueDel
import Derived.Deep.LoopGhost
namespace Go.Proofs.YtmeebjjdceokeaaDoor
open Go.RowKit
set_option linter.unusedVariables false
attribute [local go_sem ↓] Go.wp_at_zero Go.wp_at_succ

theorem box5o {w : World} {b : Nat} {k i : Int} {t : ByteArray} {l f : Value} {w' : World} (h : w.heap[b]? = some (.cells #[.int .i64 k, .int .i64 i, .string t, l, f] 28 (0, 0))) (hb : Below w.heap.size w w') :
    w'.heap[b]? = some (.cells #[.int .i64 k, .int .i64 i, .string t, l, f] 28 (0, 0)) := below_block hb (lt_of_block h) h
theorem get_set (o x : V) (name : ByteArray) (h : o.k = 5) : getV (setV o name x) name = x := by
  have h9 : (setV o name x).k = 5 := by rw [setV_k h]; exact h
  rw [getV_lk _ _ h9, setV_k h]
  exact setF_lk name x o.f
theorem get_other (o x : V) (name n : ByteArray) (h : o.k = 5) (hu : namesUp o.f) (f : ByteArray × V) (hf : f ∈ o.f) (he : f.1 = n) : decide (0 ≤ atV (setV o name x) n) = true ∧ (n ≠ name → getV (setV o name x) n = f.2) := by
  have h9 : (setV o name x).k = 5 := by rw [setV_k h]; exact h
  subst he
  have h1 := lk_at o.f hu f hf
  constructor
  · rw [at_has _ _ h9, setV_k h]
    show hasF f.1 (setF name x o.f) = true
    by_cases hn : f.1 = name
    · rw [hn]; exact setF_has name x o.f
    · rw [(setF_other name f.1 x o.f hn).1]; exact h1.1
  · intro hn
    rw [getV_lk _ _ h9, setV_k h]
    show lkF f.1 (setF name x o.f) = f.2
    rw [(setF_other name f.1 x o.f hn).2]; exact h1.2
theorem set_back_v (o x : V) (name : ByteArray) (h : o.k = 5) (hh : hasF name o.f = true) : setV (setV o name x) name (getV o name) = o := by
  have h9 : (setV o name x).k = 5 := by rw [setV_k h]; exact h
  rw [setV_k h9, getV_lk o name h, setV_k h]
  show V.mk o.k o.i o.t o.l (setF name (lkF name o.f) (setF name x o.f)) = o
  rw [set_back name x o.f hh]; cases o; rfl
theorem names_less {l : Fl} (hu : namesUp l) (i j : Nat) (hij : i < j) (hj : j < l.length) : Op.bytesLess (l[i]'(by omega)).1.toList (l[j]).1.toList = true := by
  rw [less_cb, Lib.toList_data, Lib.toList_data]
  exact decide_eq_true (List.pairwise_iff_getElem.1 hu i j (by omega) hj hij)

set_option maxHeartbeats 8000000 in
set_option maxRecDepth 100000 in
theorem set_walk (A0 : Option Addr) (n0 c0 : Nat) (z0 : List Int) (A1 : Option Addr) (n1 c1 : Nat) (z1 : List Int) (name : ByteArray) (w : World) (h0 : Bytes w.heap.size w A0 n0 c0 z0) (h1 : Bytes w.heap.size w A1 n1 c1 z1) (hn : name.size ≤ maxLen) (ht : Tabs w) :
    Calls Tryd.prog 6 #[.slice A0 n0 c0, .slice A1 n1 c1, .string name] w fun e w' => e = .returned (.bool true) ∧ Below w.heap.size w w' := by
  have H0 := hid_mk h0
  have H1 := hid_mk h1
  have HT := hid_mk ht
  clear h0 h1 ht hn
  go_enter Tryd.func6, Tryd.ntmps6
  go_wp2_with fail
  refine (awake03 w).mono ?_
  rintro e w1 ⟨rfl, b1⟩
  have HB1 := hid_mk b1
  clear b1
  go_wp2_with fail
  refine (doc_any A0 n0 c0 z0 w1 (H0.out.of_below HB1.out) (HT.out.below HB1.out)).mono ?_
  rintro e w2 ⟨o, ro, rfl, O2, GO, ok5, b2⟩
  have HB2 := hid_mk (bthen HB1.out b2)
  have HO2 := hid_mk O2
  have HOK := hid_mk (And.intro ok5 GO)
  clear O2 b2 HB1 ok5 GO
  go_wp2_with fail
  refine (of_w A1 n1 c1 z1 w2 (H1.out.of_below HB2.out) (HT.out.below HB2.out)).mono ?_
  rintro e w4 ⟨x, rx, rfl, X4, GX, b4⟩
  have HB4 := hid_mk (bthen HB2.out b4)
  have O4 := HO2.out.below b4
  obtain ⟨pk, pi, pt, ⟨pa, pn, pc⟩, ⟨pf, pg, ph⟩⟩ := ro
  obtain ⟨xk, xi, xt, ⟨xa, xn, xc⟩, ⟨xf, xg, xh⟩⟩ := rx
  obtain ⟨W5, hW5⟩ : ∃ W5, W5 = (w4.alloc (.cells #[.int .i64 pk, .int .i64 pi, .string pt, .slice pa pn pc, .slice pf pg ph] 28)).alloc (.cells #[.int .i64 xk, .int .i64 xi, .string xt, .slice xa xn xc, .slice xf xg xh] 28) := ⟨_, rfl⟩
  have b5 : Below w4.heap.size w4 W5 := by rw [hW5]; exact bthen (balloc _) (balloc _)
  obtain ⟨q0, q1⟩ := alloc2 w4 #[.int .i64 pk, .int .i64 pi, .string pt, .slice pa pn pc, .slice pf pg ph] #[.int .i64 xk, .int .i64 xi, .string xt, .slice xa xn xc, .slice xf xg xh] 28 28
  rw [← hW5] at q0 q1
  have HO := hid_mk (O4.below b5)
  have HX := hid_mk (X4.below b5)
  have HB5 := hid_mk (bthen HB4.out b5)
  have HQ := hid_mk (And.intro q0 q1)
  have HW5 := hid_mk hW5.symm
  simp only [Rv.agg, Sl.v]
  clear O4 X4 b5 q0 q1 hW5 b4 HO2 HB2 HB4 GX
  go_wp2_with fail
  rw [HW5.out]
  refine (set_any 4 o x ⟨pk, pi, pt, ⟨pa, pn, pc⟩, ⟨pf, pg, ph⟩⟩ ⟨xk, xi, xt, ⟨xa, xn, xc⟩, ⟨xf, xg, xh⟩⟩ name _ (RdW.deeper HO.out) HX.out (by have := HOK.out.2.2.2.2.2.2.2.2.2; omega)).mono ?_
  rintro e w6 ⟨rs, rfl, S6, b6⟩
  obtain ⟨S, hS⟩ : ∃ S, S = setV o name x := ⟨_, rfl⟩
  rw [← hS] at S6
  have HSD := hid_mk hS
  obtain ⟨sk, si, st, ⟨sa, sn, sc⟩, ⟨sf, sg, sh⟩⟩ := rs
  have hsk : sk = 5 := S6.rows.1.trans (by rw [hS, setV_k HOK.out.1]; exact HOK.out.1)
  subst hsk
  obtain ⟨W7, hW7⟩ : ∃ W7, W7 = w6.alloc (.cells #[.int .i64 5, .int .i64 si, .string st, .slice sa sn sc, .slice sf sg sh] 28) := ⟨_, rfl⟩
  have b7 : Below w6.heap.size w6 W7 := by rw [hW7]; exact balloc _
  have b57 := bthen b6 b7
  have HS7 := hid_mk (S6.below b7)
  have HO7 := hid_mk (HO.out.below b57)
  have HX7 := hid_mk (HX.out.below b57)
  have HB7 := hid_mk (bthen HB5.out b57)
  have HQ7 := hid_mk (And.intro (box5o HQ.out.1 b57) (And.intro (box5o HQ.out.2 b57) (show W7.heap[w6.heap.size]? = some (.cells #[.int .i64 5, .int .i64 si, .string st, .slice sa sn sc, .slice sf sg sh] 28 (0, 0)) by rw [hW7]; exact heap_alloc_new w6 _)))
  have HW7 := hid_mk hW7.symm
  simp only [Rv.agg, Sl.v]
  clear S6 b6 b7 b57 HO HX HB5 HQ hW7 hS
  go_wp2_with fail
  rw [HW7.out]
  refine (get_any 3 S ⟨5, si, st, ⟨sa, sn, sc⟩, ⟨sf, sg, sh⟩⟩ name _ HS7.out).mono ?_
  rintro e w8 ⟨rg, rfl, G8, b8⟩
  rw [show decide (0 ≤ atV S name) = true by rw [HSD.out]; exact at_set o x name HOK.out.1]
  obtain ⟨gk, gi, gt, ⟨ga, gn, gc⟩, ⟨gf, gg, gh⟩⟩ := rg
  obtain ⟨W9, hW9⟩ : ∃ W9, W9 = w8.alloc (.cells #[.int .i64 gk, .int .i64 gi, .string gt, .slice ga gn gc, .slice gf gg gh] 28) := ⟨_, rfl⟩
  have b9 : Below w8.heap.size w8 W9 := by rw [hW9]; exact balloc _
  have b79 := bthen b8 b9
  have HG9 := hid_mk (G8.below b9)
  have HS9 := hid_mk (HS7.out.below b79)
  have HO9 := hid_mk (HO7.out.below b79)
  have HX9 := hid_mk (HX7.out.below b79)
  have HB9 := hid_mk (bthen HB7.out b79)
  have HQ9 := hid_mk (And.intro (box5o HQ7.out.1 b79) (And.intro (box5o HQ7.out.2.1 b79) (box5o HQ7.out.2.2 b79)))
  obtain ⟨x0, x1, x2, x3, x4⟩ := box5c HQ9.out.2.1
  have HCG : Hid (cmpV 4 (getV S name) x = 0) := hid_mk (by rw [HSD.out, get_set o x name HOK.out.1]; exact cmp_self 4 x)
  have HW9 := hid_mk hW9.symm
  rw [hW9] at x0 x1 x2 x3 x4
  simp only [Rv.agg, Sl.v]
  clear G8 b8 b9 b79 HS7 HO7 HX7 HB7 HQ7 hW9
  go_wp2_with fail
  rw [HW9.out]
  refine (same_any 4 (getV S name) x ⟨gk, gi, gt, ⟨ga, gn, gc⟩, ⟨gf, gg, gh⟩⟩ ⟨xk, xi, xt, ⟨xa, xn, xc⟩, ⟨xf, xg, xh⟩⟩ _ HG9.out HX9.out).mono ?_
  rintro e wa ⟨rfl, ba⟩
  rw [HCG.out]
  have HSa := hid_mk (HS9.out.below ba)
  have HOa := hid_mk (HO9.out.below ba)
  have HBa := hid_mk (bthen HB9.out ba)
  have HQa := hid_mk (And.intro (box5o HQ9.out.1 ba) (box5o HQ9.out.2.2 ba))
  obtain ⟨o0, o1, o2, o3, o4⟩ := box5c HQa.out.1
  obtain ⟨s0, s1, s2, s3, s4⟩ := box5c HQa.out.2
  clear x0 x1 x2 x3 x4 ba HS9 HO9 HX9 HB9 HQ9 HG9
  go_wp2_with fail
  refine (get_any 2 o ⟨pk, pi, pt, ⟨pa, pn, pc⟩, ⟨pf, pg, ph⟩⟩ name _ HOa.out).mono ?_
  rintro e wc ⟨rw', rfl, Gc, bc⟩
  rw [at_has o name HOK.out.1]
  obtain ⟨hk', hi, ht', ⟨ha, hn', hc⟩, ⟨hf, hg, hh⟩⟩ := rw'
  obtain ⟨Wd, hWd⟩ : ∃ Wd, Wd = wc.alloc (.cells #[.int .i64 hk', .int .i64 hi, .string ht', .slice ha hn' hc, .slice hf hg hh] 28) := ⟨_, rfl⟩
  have bd : Below wc.heap.size wc Wd := by rw [hWd]; exact balloc _
  have bad := bthen bc bd
  have HGd := hid_mk (Gc.below bd)
  have HSd := hid_mk (HSa.out.below bad)
  have HOd := hid_mk (HOa.out.below bad)
  have HBd := hid_mk (bthen HBa.out bad)
  have HQd := hid_mk (And.intro (box5o HQa.out.1 bad) (And.intro (box5o HQa.out.2 bad) (show Wd.heap[wc.heap.size]? = some (.cells #[.int .i64 hk', .int .i64 hi, .string ht', .slice ha hn' hc, .slice hf hg hh] 28 (0, 0)) by rw [hWd]; exact heap_alloc_new wc _)))
  clear o0 o1 o2 o3 o4 s0 s1 s2 s3 s4
  obtain ⟨o0, o1, o2, o3, o4⟩ := box5c HQd.out.1
  obtain ⟨s0, s1, s2, s3, s4⟩ := box5c HQd.out.2.1
  have HWd := hid_mk hWd.symm
  rw [hWd] at o0 o1 o2 o3 o4 s0 s1 s2 s3 s4
  simp only [Rv.agg, Sl.v]
  have hSf : S.f = setF name x o.f := by rw [HSD.out, setV_k HOK.out.1]; rfl
  have hup := HOK.out.2.2.2.2.2.2.2.1
  have hus : namesUp S.f := by rw [hSf]; exact setF_up name x o.f hup
  have HUS := hid_mk hus
  have HUP := hid_mk hup
  have hlen : S.f.length = if hasF name o.f = true then o.f.length else o.f.length + 1 := by rw [hSf]; exact setF_len name x o.f
  have HLS : Hid (S.f.length < 1000000000) := hid_mk (by rw [hlen]; have := HOK.out.2.2.2.2.2.2.2.2.2; split <;> omega)
  have hsg : sg = S.f.length := HSd.out.flen
  have hpg : pg = o.f.length := HOd.out.flen
  rw [← hsg, ← hpg] at hlen
  obtain ⟨L, hL⟩ : ∃ L, L = S.f := ⟨_, rfl⟩
  obtain ⟨M, hM⟩ : ∃ M, M = o.f := ⟨_, rfl⟩
  have HLR : Hid (RowF 4 Wd L ⟨sf, sg, sh⟩) := hid_mk (by rw [hL]; exact HSd.out.rows.2.2.2.2)
  have HMR : Hid (RowF 3 Wd M ⟨pf, pg, ph⟩) := hid_mk (by rw [hM]; exact HOd.out.rows.2.2.2.2)
  rw [← hL] at hsg HUS
  have HL := hid_mk hL
  have HM := hid_mk hM
  rw [← hM] at hpg
  have hpb : pg ≤ 4 := by rw [hpg, hM]; exact HOK.out.2.2.2.2.2.2.2.2.2
  have hsb : sg ≤ 5 := by rw [hlen]; split <;> omega
  have HSG := hid_mk hsg
  have HPG := hid_mk hpg
  obtain ⟨e8, hLc, hLm, hLA⟩ := HLR.out.at_
  obtain ⟨e9, hMc, hMm, hMA⟩ := HMR.out.at_
  simp only at hLA hMA hLc hLm hMc hMm
  have HLA := hid_mk hLA
  have HMA := hid_mk hMA
  clear Gc bc bd bad HSa HOa HBa HQa hWd hSf hup hus hL hM hsg hpg hLA hMA hLc hLm hMc hMm e8 e9
  cases hh9 : hasF name o.f with
  | false =>
    rw [hh9] at hlen
    rw [if_neg (by decide)] at hlen
    have HH9 := hid_mk hh9
    subst hlen
    clear hh9
    go_wp2_with fail
    rw [HWd.out]
    clear o0 o1 o2 o3 o4 s0 s1 s2 s3 s4
    go_loopw [67] (fun iv wr => ∃ k : Nat, iv = .int .i64 k ∧ k ≤ (pg + 1) ∧ Hid (Below Wd.heap.size Wd wr)) (fun iv _ => (pg + 1) - (intOf iv).toNat)
    case atStart => exact ⟨0, rfl, Nat.zero_le _, hid_mk (Below.refl _ _)⟩
    case round =>
      obtain ⟨k, rfl, hk, hbr⟩ := hrel
      by_cases hlt : k < (pg + 1)
      · have hkL : k < L.length := by rw [← HSG.out]; exact hlt
        have k1 : (k : Int) < ((pg : Int) + 1) := by omega
        have k0 : (0 : Int) ≤ (k : Int) := by omega
        obtain ⟨g, rfl, hg, hcc⟩ := HLA.out (by omega)
        obtain ⟨r, hnm, hr, v0, v1, v2, v3, v4, v5⟩ := hcc k hkL
        obtain ⟨nm, uk, ui, ut, ⟨ua, un, uc⟩, ⟨uf, ug, uh⟩⟩ := r
        simp only [Sl.v] at v0 v1 v2 v3 v4 v5 hnm
        have c0 := keep_cell hbr.out v0
        have c1 := keep_cell hbr.out v1
        have c2 := keep_cell hbr.out v2
        have c3 := keep_cell hbr.out v3
        have c4 := keep_cell hbr.out v4
        have c5 := keep_cell hbr.out v5
        obtain ⟨Wx, hWx⟩ : ∃ Wx, Wx = wr.alloc (.cells #[.string nm, .int .i64 uk, .int .i64 ui, .string ut, .slice ua un uc, .slice uf ug uh] 31) := ⟨_, rfl⟩
        have bx : Below wr.heap.size wr Wx := by rw [hWx]; exact balloc _
        have hbx := hid_mk (hbr.out.trans (bx.mono hbr.out.size))
        have e0 : ∀ z : BW Wx, z.w.cell? ⟨wr.heap.size, 0, none⟩ = some (.string nm) := fun z => z.cell ((cell_of_row Wx _ 0 _ _ _ (by rw [hWx]; exact heap_alloc_new wr _)).trans rfl)
        have e4 := bwc hbx.out (box5c HQd.out.2.1).2.2.2.2
        have HWx := hid_mk hWx.symm
        rcases Nat.eq_zero_or_pos k with hk0 | hk0
        · subst hk0
          clear hWx bx v0 v1 v2 v3 v4 v5 hcc hr hnm
          go_wp2_with fail
          rw [HWx.out]
          refine wp_region_bw Wx (by kernel_rfl) (by kernel_rfl) (Below.refl _ _) ?_
          repeat (go_big_quiet_step (fail))
          refine wpQuiet_nil ?_
          rintro _ ⟨y, rfl⟩
          have hby := hid_mk (hbx.out.trans (y.h.mono hbx.out.size))
          clear e0 e4 c0 c1 c2 c3 c4 c5
          go_wp2_with fail
          exact ⟨⟨0 + 1, by go_num, by omega, hby⟩, by simp [intOf] <;> omega⟩
        · obtain ⟨j, hj⟩ : ∃ j, k = j + 1 := ⟨k - 1, by omega⟩
          have hjL : j < L.length := by omega
          obtain ⟨r2, hnm2, _, u0, _⟩ := hcc j hjL
          obtain ⟨nm2, r2⟩ := r2
          simp only at hnm2
          have e6 := bwc hbx.out u0
          have hle : Op.bytesLess nm2.toList nm.toList = true := by
            have h := names_less HUS.out j k (by omega) hkL
            rw [hnm, hnm2] at h; exact h
          have hwj : IntKind.i64.wrap ((k : Int) - 1) = (j : Int) := by rw [IntKind.wrap_i64]; omega
          have j0 : (0 : Int) ≤ (j : Int) := by omega
          have j1 : (j : Int) < ((pg : Int) + 1) := by omega
          have kpos : (0 : Int) < (k : Int) := by omega
          have HJ := hid_mk hj
          clear hWx bx v0 v1 v2 v3 v4 v5 hcc hr hnm hnm2 u0 hj
          go_wp2_with fail
          rw [HWx.out]
          refine wp_region_bw Wx (by kernel_rfl) (by kernel_rfl) (Below.refl _ _) ?_
          repeat (go_big_quiet_step (fail))
          refine wpQuiet_nil ?_
          rintro _ ⟨y, rfl⟩
          have hby := hid_mk (hbx.out.trans (y.h.mono hbx.out.size))
          clear e0 e4 e6 c0 c1 c2 c3 c4 c5 hwj
          go_wp2_with fail
          exact ⟨⟨k + 1, by go_num, by omega, hby⟩, by simp [intOf] <;> omega⟩
      · obtain rfl : (pg + 1) = k := by omega
        have o4 := keep_cell hbr.out (box5c HQd.out.1).2.2.2.2
        go_wp2_with fail
        clear o4
        go_loopw [90] (fun iv wx => ∃ k : Nat, iv = .int .i64 k ∧ k ≤ pg ∧ Hid (Below Wd.heap.size Wd wx)) (fun iv _ => pg - (intOf iv).toNat)
        case atStart => exact ⟨0, rfl, Nat.zero_le _, hbr⟩
        case round =>
          clear hbr hk
          obtain ⟨k, rfl, hk, hbr⟩ := hrel
          by_cases hlt : k < pg
          · have hkM : k < M.length := by rw [← HPG.out]; exact hlt
            have k1 : (k : Int) < (pg : Int) := by omega
            have k0 : (0 : Int) ≤ (k : Int) := by omega
            obtain ⟨g, rfl, hg, hcc⟩ := HMA.out (by omega)
            obtain ⟨r, hnm, hr, v0, v1, v2, v3, v4, v5⟩ := hcc k hkM
            obtain ⟨nm, uk, ui, ut, ⟨ua, un, uc⟩, ⟨uf, ug, uh⟩⟩ := r
            simp only [Sl.v] at v0 v1 v2 v3 v4 v5 hnm hr
            have c0 := keep_cell hbr.out v0
            have c1 := keep_cell hbr.out v1
            have c2 := keep_cell hbr.out v2
            have c3 := keep_cell hbr.out v3
            have c4 := keep_cell hbr.out v4
            have c5 := keep_cell hbr.out v5
            obtain ⟨Wx, hWx⟩ : ∃ Wx, Wx = wr.alloc (.cells #[.string nm, .int .i64 uk, .int .i64 ui, .string ut, .slice ua un uc, .slice uf ug uh] 31) := ⟨_, rfl⟩
            have bx : Below wr.heap.size wr Wx := by rw [hWx]; exact balloc _
            have hbx := hid_mk (hbr.out.trans (bx.mono hbr.out.size))
            have Zx : Wx.heap[wr.heap.size]? = some (.cells #[.string nm, .int .i64 uk, .int .i64 ui, .string ut, .slice ua un uc, .slice uf ug uh] 31 (0, 0)) := by rw [hWx]; exact heap_alloc_new wr _
            have HZx := hid_mk Zx
            obtain ⟨s0, s1, s2, s3, s4⟩ := box5c (box5o HQd.out.2.1 hbx.out)
            have HWx := hid_mk hWx.symm
            rw [hWx] at s0 s1 s2 s3 s4
            have hfind := get_other o x name nm HOK.out.1 HUP.out M[k] ((show ∀ z, z ∈ M → z ∈ o.f from fun z hz => by rw [← HM.out]; exact hz) _ (List.getElem_mem hkM)) hnm
            rw [← HSD.out] at hfind
            have HF := hid_mk hfind
            have HFR := hid_mk (RdW.deeper (hr.below hbx.out))
            clear hWx bx Zx v0 v1 v2 v3 v4 v5 hcc hr hnm hfind
            go_wp2_with fail
            rw [HWx.out]
            refine (get_any 3 S ⟨5, si, st, ⟨sa, sn, sc⟩, ⟨sf, (pg + 1), sh⟩⟩ nm _ (HSd.out.below hbx.out)).mono ?_
            rintro e wy ⟨ry, rfl, Gy, by_⟩
            rw [HF.out.1]
            obtain ⟨yk, yi, yt, ⟨ya, yn, yc⟩, ⟨yf, yg, yh⟩⟩ := ry
            obtain ⟨Wy, hWy⟩ : ∃ Wy, Wy = wy.alloc (.cells #[.int .i64 yk, .int .i64 yi, .string yt, .slice ya yn yc, .slice yf yg yh] 28) := ⟨_, rfl⟩
            have bWy : Below wy.heap.size wy Wy := by rw [hWy]; exact balloc _
            have bxy := bthen by_ bWy
            have HGy := hid_mk (Gy.below bWy)
            have HFy := hid_mk (HFR.out.below bxy)
            have hby := hid_mk (hbx.out.trans (bxy.mono hbx.out.size))
            have Zy := below_block bxy (lt_of_block HZx.out) HZx.out
            have f0 := (cell_of_row Wy _ 0 _ _ _ Zy).trans rfl
            have f1 := (cell_of_row Wy _ 1 _ _ _ Zy).trans rfl
            have f2 := (cell_of_row Wy _ 2 _ _ _ Zy).trans rfl
            have f3 := (cell_of_row Wy _ 3 _ _ _ Zy).trans rfl
            have f4 := (cell_of_row Wy _ 4 _ _ _ Zy).trans rfl
            have f5 := (cell_of_row Wy _ 5 _ _ _ Zy).trans rfl
            have HWy := hid_mk hWy.symm
            rw [hWy] at f0 f1 f2 f3 f4 f5
            simp only [Rv.agg, Sl.v]
            clear Gy by_ bWy bxy Zy hWy s0 s1 s2 s3 s4 c0 c1 c2 c3 c4 c5
            by_cases hne : nm = name
            · subst hne
              have q1 : (nm.toList == nm.toList) = true := by simp
              have q2 : (nm.toList != nm.toList) = false := by simp
              clear HF HFR HFy
              go_wp2_with fail
              rw [HWy.out]
              exact ⟨⟨k + 1, by go_num, by omega, hby⟩, by simp [intOf] <;> omega⟩
            · have q1 : (nm.toList == name.toList) = false := (isN_false name nm).2 hne
              have q2 : (nm.toList != name.toList) = true := by
                show (!(nm.toList == name.toList)) = true
                rw [q1]; rfl
              have HCF : Hid (cmpV 4 (getV S nm) M[k].2 = 0) := hid_mk (by rw [HF.out.2 hne]; exact cmp_self 4 _)
              clear HF HFR
              go_wp2_with fail
              rw [HWy.out]
              refine (same_any 4 (getV S nm) M[k].2 ⟨yk, yi, yt, ⟨ya, yn, yc⟩, ⟨yf, yg, yh⟩⟩ ⟨uk, ui, ut, ⟨ua, un, uc⟩, ⟨uf, ug, uh⟩⟩ _ HGy.out HFy.out).mono ?_
              rintro e wz ⟨rfl, bz⟩
              rw [HCF.out]
              have hbz := hid_mk (hby.out.trans (bz.mono hby.out.size))
              clear bz f0 f1 f2 f3 f4 f5
              go_wp2_with fail
              first
                | exact ⟨⟨k + 1, by go_num, by omega, hbz⟩, by simp [intOf] <;> omega⟩
                | (refine ⟨?_, by simp [intOf] <;> omega⟩; (repeat apply Exists.intro); exact ⟨⟨k + 1, by go_num, by omega, hbz⟩, rfl⟩)
          · obtain rfl : pg = k := by omega
            obtain ⟨s0, s1, s2, s3, s4⟩ := box5c (box5o HQd.out.2.1 hbr.out)
            obtain ⟨h0, h1, h2, h3, h4⟩ := box5c (box5o HQd.out.2.2 hbr.out)
            go_wp2_with fail
            refine (set_any 4 S (getV o name) ⟨5, si, st, ⟨sa, sn, sc⟩, ⟨sf, (pg + 1), sh⟩⟩ ⟨hk', hi, ht', ⟨ha, hn', hc⟩, ⟨hf, hg, hh⟩⟩ name _ (HSd.out.below hbr.out) (RdW.deeper (HGd.out.below hbr.out)) HLS.out).mono ?_
            rintro e wy ⟨rb, rfl, Rb, bw⟩
            obtain ⟨yk, yi, yt, ⟨ya, yn, yc⟩, ⟨yf, yg, yh⟩⟩ := rb
            obtain ⟨Wy, hWy⟩ : ∃ Wy, Wy = wy.alloc (.cells #[.int .i64 yk, .int .i64 yi, .string yt, .slice ya yn yc, .slice yf yg yh] 28) := ⟨_, rfl⟩
            have bWy : Below wy.heap.size wy Wy := by rw [hWy]; exact balloc _
            have bxy := bthen bw bWy
            have hby := hid_mk (hbr.out.trans (bxy.mono hbr.out.size))
            have HRb := hid_mk (Rb.below bWy)
            have HBy := hid_mk (bthen HBd.out hby.out)
            clear s0 s1 s2 s3 s4 h0 h1 h2 h3 h4
            obtain ⟨s0, s1, s2, s3, s4⟩ := box5c (box5o HQd.out.2.1 hby.out)
            obtain ⟨o0, o1, o2, o3, o4⟩ := box5c (box5o HQd.out.1 hby.out)
            have HWy := hid_mk hWy.symm
            rw [hWy] at s0 s1 s2 s3 s4 o0 o1 o2 o3 o4
            simp only [Rv.agg, Sl.v]
            clear Rb bw bWy bxy hWy
            go_wp2_with fail
            rw [HWy.out]
            go_ret
            exact ⟨by simp, HBy.out⟩
  | true =>
    rw [hh9] at hlen
    rw [if_pos rfl] at hlen
    have HH9 := hid_mk hh9
    subst hlen
    clear hh9
    go_wp2_with fail
    rw [HWd.out]
    clear o0 o1 o2 o3 o4 s0 s1 s2 s3 s4
    go_loopw [67] (fun iv wr => ∃ k : Nat, iv = .int .i64 k ∧ k ≤ sg ∧ Hid (Below Wd.heap.size Wd wr)) (fun iv _ => sg - (intOf iv).toNat)
    case atStart => exact ⟨0, rfl, Nat.zero_le _, hid_mk (Below.refl _ _)⟩
    case round =>
      obtain ⟨k, rfl, hk, hbr⟩ := hrel
      by_cases hlt : k < sg
      · have hkL : k < L.length := by rw [← HSG.out]; exact hlt
        have k1 : (k : Int) < (sg : Int) := by omega
        have k0 : (0 : Int) ≤ (k : Int) := by omega
        obtain ⟨g, rfl, hg, hcc⟩ := HLA.out (by omega)
        obtain ⟨r, hnm, hr, v0, v1, v2, v3, v4, v5⟩ := hcc k hkL
        obtain ⟨nm, uk, ui, ut, ⟨ua, un, uc⟩, ⟨uf, ug, uh⟩⟩ := r
        simp only [Sl.v] at v0 v1 v2 v3 v4 v5 hnm
        have c0 := keep_cell hbr.out v0
        have c1 := keep_cell hbr.out v1
        have c2 := keep_cell hbr.out v2
        have c3 := keep_cell hbr.out v3
        have c4 := keep_cell hbr.out v4
        have c5 := keep_cell hbr.out v5
        obtain ⟨Wx, hWx⟩ : ∃ Wx, Wx = wr.alloc (.cells #[.string nm, .int .i64 uk, .int .i64 ui, .string ut, .slice ua un uc, .slice uf ug uh] 31) := ⟨_, rfl⟩
        have bx : Below wr.heap.size wr Wx := by rw [hWx]; exact balloc _
        have hbx := hid_mk (hbr.out.trans (bx.mono hbr.out.size))
        have e0 : ∀ z : BW Wx, z.w.cell? ⟨wr.heap.size, 0, none⟩ = some (.string nm) := fun z => z.cell ((cell_of_row Wx _ 0 _ _ _ (by rw [hWx]; exact heap_alloc_new wr _)).trans rfl)
        have e4 := bwc hbx.out (box5c HQd.out.2.1).2.2.2.2
        have HWx := hid_mk hWx.symm
        rcases Nat.eq_zero_or_pos k with hk0 | hk0
        · subst hk0
          clear hWx bx v0 v1 v2 v3 v4 v5 hcc hr hnm
          go_wp2_with fail
          rw [HWx.out]
          refine wp_region_bw Wx (by kernel_rfl) (by kernel_rfl) (Below.refl _ _) ?_
          repeat (go_big_quiet_step (fail))
          refine wpQuiet_nil ?_
          rintro _ ⟨y, rfl⟩
          have hby := hid_mk (hbx.out.trans (y.h.mono hbx.out.size))
          clear e0 e4 c0 c1 c2 c3 c4 c5
          go_wp2_with fail
          exact ⟨⟨0 + 1, by go_num, by omega, hby⟩, by simp [intOf] <;> omega⟩
        · obtain ⟨j, hj⟩ : ∃ j, k = j + 1 := ⟨k - 1, by omega⟩
          have hjL : j < L.length := by omega
          obtain ⟨r2, hnm2, _, u0, _⟩ := hcc j hjL
          obtain ⟨nm2, r2⟩ := r2
          simp only at hnm2
          have e6 := bwc hbx.out u0
          have hle : Op.bytesLess nm2.toList nm.toList = true := by
            have h := names_less HUS.out j k (by omega) hkL
            rw [hnm, hnm2] at h; exact h
          have hwj : IntKind.i64.wrap ((k : Int) - 1) = (j : Int) := by rw [IntKind.wrap_i64]; omega
          have j0 : (0 : Int) ≤ (j : Int) := by omega
          have j1 : (j : Int) < (sg : Int) := by omega
          have kpos : (0 : Int) < (k : Int) := by omega
          have HJ := hid_mk hj
          clear hWx bx v0 v1 v2 v3 v4 v5 hcc hr hnm hnm2 u0 hj
          go_wp2_with fail
          rw [HWx.out]
          refine wp_region_bw Wx (by kernel_rfl) (by kernel_rfl) (Below.refl _ _) ?_
          repeat (go_big_quiet_step (fail))
          refine wpQuiet_nil ?_
          rintro _ ⟨y, rfl⟩
          have hby := hid_mk (hbx.out.trans (y.h.mono hbx.out.size))
          clear e0 e4 e6 c0 c1 c2 c3 c4 c5 hwj
          go_wp2_with fail
          exact ⟨⟨k + 1, by go_num, by omega, hby⟩, by simp [intOf] <;> omega⟩
      · obtain rfl : sg = k := by omega
        have o4 := keep_cell hbr.out (box5c HQd.out.1).2.2.2.2
        go_wp2_with fail
        clear o4
        go_loopw [90] (fun iv wx => ∃ k : Nat, iv = .int .i64 k ∧ k ≤ sg ∧ Hid (Below Wd.heap.size Wd wx)) (fun iv _ => sg - (intOf iv).toNat)
        case atStart => exact ⟨0, rfl, Nat.zero_le _, hbr⟩
        case round =>
          clear hbr hk
          obtain ⟨k, rfl, hk, hbr⟩ := hrel
          by_cases hlt : k < sg
          · have hkM : k < M.length := by rw [← HPG.out]; exact hlt
            have k1 : (k : Int) < (sg : Int) := by omega
            have k0 : (0 : Int) ≤ (k : Int) := by omega
            obtain ⟨g, rfl, hg, hcc⟩ := HMA.out (by omega)
            obtain ⟨r, hnm, hr, v0, v1, v2, v3, v4, v5⟩ := hcc k hkM
            obtain ⟨nm, uk, ui, ut, ⟨ua, un, uc⟩, ⟨uf, ug, uh⟩⟩ := r
            simp only [Sl.v] at v0 v1 v2 v3 v4 v5 hnm hr
            have c0 := keep_cell hbr.out v0
            have c1 := keep_cell hbr.out v1
            have c2 := keep_cell hbr.out v2
            have c3 := keep_cell hbr.out v3
            have c4 := keep_cell hbr.out v4
            have c5 := keep_cell hbr.out v5
            obtain ⟨Wx, hWx⟩ : ∃ Wx, Wx = wr.alloc (.cells #[.string nm, .int .i64 uk, .int .i64 ui, .string ut, .slice ua un uc, .slice uf ug uh] 31) := ⟨_, rfl⟩
            have bx : Below wr.heap.size wr Wx := by rw [hWx]; exact balloc _
            have hbx := hid_mk (hbr.out.trans (bx.mono hbr.out.size))
            have Zx : Wx.heap[wr.heap.size]? = some (.cells #[.string nm, .int .i64 uk, .int .i64 ui, .string ut, .slice ua un uc, .slice uf ug uh] 31 (0, 0)) := by rw [hWx]; exact heap_alloc_new wr _
            have HZx := hid_mk Zx
            obtain ⟨s0, s1, s2, s3, s4⟩ := box5c (box5o HQd.out.2.1 hbx.out)
            have HWx := hid_mk hWx.symm
            rw [hWx] at s0 s1 s2 s3 s4
            have hfind := get_other o x name nm HOK.out.1 HUP.out M[k] ((show ∀ z, z ∈ M → z ∈ o.f from fun z hz => by rw [← HM.out]; exact hz) _ (List.getElem_mem hkM)) hnm
            rw [← HSD.out] at hfind
            have HF := hid_mk hfind
            have HFR := hid_mk (RdW.deeper (hr.below hbx.out))
            clear hWx bx Zx v0 v1 v2 v3 v4 v5 hcc hr hnm hfind
            go_wp2_with fail
            rw [HWx.out]
            refine (get_any 3 S ⟨5, si, st, ⟨sa, sn, sc⟩, ⟨sf, sg, sh⟩⟩ nm _ (HSd.out.below hbx.out)).mono ?_
            rintro e wy ⟨ry, rfl, Gy, by_⟩
            rw [HF.out.1]
            obtain ⟨yk, yi, yt, ⟨ya, yn, yc⟩, ⟨yf, yg, yh⟩⟩ := ry
            obtain ⟨Wy, hWy⟩ : ∃ Wy, Wy = wy.alloc (.cells #[.int .i64 yk, .int .i64 yi, .string yt, .slice ya yn yc, .slice yf yg yh] 28) := ⟨_, rfl⟩
            have bWy : Below wy.heap.size wy Wy := by rw [hWy]; exact balloc _
            have bxy := bthen by_ bWy
            have HGy := hid_mk (Gy.below bWy)
            have HFy := hid_mk (HFR.out.below bxy)
            have hby := hid_mk (hbx.out.trans (bxy.mono hbx.out.size))
            have Zy := below_block bxy (lt_of_block HZx.out) HZx.out
            have f0 := (cell_of_row Wy _ 0 _ _ _ Zy).trans rfl
            have f1 := (cell_of_row Wy _ 1 _ _ _ Zy).trans rfl
            have f2 := (cell_of_row Wy _ 2 _ _ _ Zy).trans rfl
            have f3 := (cell_of_row Wy _ 3 _ _ _ Zy).trans rfl
            have f4 := (cell_of_row Wy _ 4 _ _ _ Zy).trans rfl
            have f5 := (cell_of_row Wy _ 5 _ _ _ Zy).trans rfl
            have HWy := hid_mk hWy.symm
            rw [hWy] at f0 f1 f2 f3 f4 f5
            simp only [Rv.agg, Sl.v]
            clear Gy by_ bWy bxy Zy hWy s0 s1 s2 s3 s4 c0 c1 c2 c3 c4 c5
            by_cases hne : nm = name
            · subst hne
              have q1 : (nm.toList == nm.toList) = true := by simp
              have q2 : (nm.toList != nm.toList) = false := by simp
              clear HF HFR HFy
              go_wp2_with fail
              rw [HWy.out]
              exact ⟨⟨k + 1, by go_num, by omega, hby⟩, by simp [intOf] <;> omega⟩
            · have q1 : (nm.toList == name.toList) = false := (isN_false name nm).2 hne
              have q2 : (nm.toList != name.toList) = true := by
                show (!(nm.toList == name.toList)) = true
                rw [q1]; rfl
              have HCF : Hid (cmpV 4 (getV S nm) M[k].2 = 0) := hid_mk (by rw [HF.out.2 hne]; exact cmp_self 4 _)
              clear HF HFR
              go_wp2_with fail
              rw [HWy.out]
              refine (same_any 4 (getV S nm) M[k].2 ⟨yk, yi, yt, ⟨ya, yn, yc⟩, ⟨yf, yg, yh⟩⟩ ⟨uk, ui, ut, ⟨ua, un, uc⟩, ⟨uf, ug, uh⟩⟩ _ HGy.out HFy.out).mono ?_
              rintro e wz ⟨rfl, bz⟩
              rw [HCF.out]
              have hbz := hid_mk (hby.out.trans (bz.mono hby.out.size))
              clear bz f0 f1 f2 f3 f4 f5
              go_wp2_with fail
              first
                | exact ⟨⟨k + 1, by go_num, by omega, hbz⟩, by simp [intOf] <;> omega⟩
                | (refine ⟨?_, by simp [intOf] <;> omega⟩; (repeat apply Exists.intro); exact ⟨⟨k + 1, by go_num, by omega, hbz⟩, rfl⟩)
          · obtain rfl : sg = k := by omega
            obtain ⟨s0, s1, s2, s3, s4⟩ := box5c (box5o HQd.out.2.1 hbr.out)
            obtain ⟨h0, h1, h2, h3, h4⟩ := box5c (box5o HQd.out.2.2 hbr.out)
            go_wp2_with fail
            refine (set_any 4 S (getV o name) ⟨5, si, st, ⟨sa, sn, sc⟩, ⟨sf, sg, sh⟩⟩ ⟨hk', hi, ht', ⟨ha, hn', hc⟩, ⟨hf, hg, hh⟩⟩ name _ (HSd.out.below hbr.out) (RdW.deeper (HGd.out.below hbr.out)) HLS.out).mono ?_
            rintro e wy ⟨rb, rfl, Rb, bw⟩
            obtain ⟨yk, yi, yt, ⟨ya, yn, yc⟩, ⟨yf, yg, yh⟩⟩ := rb
            obtain ⟨Wy, hWy⟩ : ∃ Wy, Wy = wy.alloc (.cells #[.int .i64 yk, .int .i64 yi, .string yt, .slice ya yn yc, .slice yf yg yh] 28) := ⟨_, rfl⟩
            have bWy : Below wy.heap.size wy Wy := by rw [hWy]; exact balloc _
            have bxy := bthen bw bWy
            have hby := hid_mk (hbr.out.trans (bxy.mono hbr.out.size))
            have HRb := hid_mk (Rb.below bWy)
            have HBy := hid_mk (bthen HBd.out hby.out)
            clear s0 s1 s2 s3 s4 h0 h1 h2 h3 h4
            obtain ⟨s0, s1, s2, s3, s4⟩ := box5c (box5o HQd.out.2.1 hby.out)
            obtain ⟨o0, o1, o2, o3, o4⟩ := box5c (box5o HQd.out.1 hby.out)
            have HWy := hid_mk hWy.symm
            rw [hWy] at s0 s1 s2 s3 s4 o0 o1 o2 o3 o4
            simp only [Rv.agg, Sl.v]
            clear Rb bw bWy bxy hWy
            go_wp2_with fail
            rw [HWy.out]
            have HCB : Hid (cmpV 5 (setV S name (getV o name)) o = 0) := hid_mk (by rw [HSD.out, set_back_v o x name HOK.out.1 HH9.out]; exact cmp_self 5 o)
            refine (same_any 5 (setV S name (getV o name)) o ⟨yk, yi, yt, ⟨ya, yn, yc⟩, ⟨yf, yg, yh⟩⟩ ⟨pk, pi, pt, ⟨pa, pn, pc⟩, ⟨pf, sg, ph⟩⟩ _ HRb.out (RdW.deeper (HOd.out.below hby.out))).mono ?_
            rintro e wz ⟨rfl, bz⟩
            rw [HCB.out]
            have HBz := hid_mk (bthen HBy.out bz)
            clear bz s0 s1 s2 s3 s4 o0 o1 o2 o3 o4
            go_wp2_with fail
            go_ret
            exact ⟨by simp, HBz.out⟩

end Go.Proofs.YtmeebjjdceokeaaDoor
