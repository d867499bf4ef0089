/- Values held against one another by the law's own definition. -/
import Derived.Test.YtmeebjjdceokeaaDoorSign
import Derived.Test.YtmeebjjdceokeaaDoorQuietB
import Derived.Deep.LoopGhost
namespace Go.Proofs.YtmeebjjdceokeaaDoor
open Go.RowKit
set_option linter.unusedVariables false
attribute [local go_sem ↓] Go.wp_at_zero Go.wp_at_succ

def Cmp03Said (d : Nat) : Prop := ∀ (a b : V) (ra rb : Rv) (w : World), RdW d w a ra → RdW d w b rb → Calls Tryd.prog 14 #[ra.agg, rb.agg] w fun e w' => e = .returned (.int .i64 (cmpV d a b)) ∧ Below w.heap.size w w'
theorem cmpL_out {α : Type} (c : α → α → Int) (a b : List α) (k : Nat) (ha : k ≤ a.length) (hb : k ≤ b.length) (h : k = a.length ∨ k = b.length) : cmpL c (a.drop k) (b.drop k) = sgn (a.length : Int) (b.length : Int) := by
  rcases h with rfl | rfl
  · rw [List.drop_length, cmpL_end1, List.length_drop]
    unfold sgn
    by_cases h : a.length < b.length
    · rw [if_pos (by omega), if_pos (by omega)]
    · rw [if_neg (by omega), if_neg (by omega), if_neg (by omega)]
  · rw [List.drop_length]
    by_cases h : b.length < a.length
    · rw [cmpL_end2 _ _ (by rw [List.length_drop]; omega)]
      unfold sgn
      rw [if_neg (by omega), if_pos (by omega)]
    · rw [List.drop_eq_nil_of_le (by omega), cmpL_end1, if_neg (by simp)]
      unfold sgn
      rw [if_neg (by omega), if_neg (by omega)]
theorem texts_bw {W : World} (a b : ByteArray) : ∀ y : BW W, Calls Tryd.prog 32 #[.string a, .string b] y.w fun e w' => e = .returned (.int .i64 (cb a.data.toList b.data.toList)) ∧ ∃ z : BW W, w' = z.w :=
  fun y => (texts_any a b y.w).mono (by rintro e w' ⟨h, rfl⟩; exact ⟨h, y, rfl⟩)
theorem cmp03_bw {d : Nat} (IH : Cmp03Said d) {W : World} {a b : V} {ra rb : Rv} (ha : RdW d W a ra) (hb : RdW d W b rb) : ∀ y : BW W, Calls Tryd.prog 14 #[Rv.agg ra, Rv.agg rb] y.w fun e w' => e = .returned (.int .i64 (cmpV d a b)) ∧ ∃ z : BW W, w' = z.w :=
  fun y => (IH a b ra rb y.w (ha.below y.h) (hb.below y.h)).mono (by rintro e w' ⟨h, b⟩; exact ⟨h, y.step b⟩)
/-- A cell, told in every world that is greater. -/
theorem bwc {W wr : World} (h : Below W.heap.size W wr) {a : Addr} {v : Value} (hc : W.cell? a = some v) : ∀ y : BW wr, y.w.cell? a = some v := fun y => y.cell (keep_cell h hc)

set_option maxHeartbeats 2000000 in
set_option maxRecDepth 100000 in
theorem cmp03_step (d : Nat) (IH : Cmp03Said d) : Cmp03Said (d + 1) := by
  intro a b ra rb w ha hb
  have HIH := hid_mk IH
  obtain ⟨W, hW⟩ : ∃ W, W = (w.alloc (.cells ra.cs.toArray 28)).alloc (.cells rb.cs.toArray 28) := ⟨_, rfl⟩
  have bW : Below w.heap.size w W := by rw [hW]; exact bthen (balloc _) (balloc _)
  obtain ⟨p1, p2, p3, p4, p5⟩ := ha.rows
  obtain ⟨q1, q2, q3, q4, q5⟩ := hb.rows
  have HP4 := hid_mk (p4.below bW)
  have HP5 := hid_mk (p5.below bW)
  have HQ4 := hid_mk (q4.below bW)
  have HQ5 := hid_mk (q5.below bW)
  have HC : Hid (cmpV (d + 1) a b = if ra.k = rb.k then
      if ra.k = 1 ∨ ra.k = 2 then sgn ra.i rb.i else if ra.k = 3 then cb ra.t.data.toList rb.t.data.toList
      else if ra.k = 4 then cmpL (cmpV d) a.l b.l else if ra.k = 5 then cmpL (cmpF (cmpV d)) a.f b.f else 0
    else sgn ra.k rb.k) := hid_mk (by rw [p1, p2, p3, q1, q2, q3]; rfl)
  clear p1 p2 p3 p4 p5 q1 q2 q3 q4 q5 ha hb IH
  have X0 : W.heap[w.heap.size]? = some (.cells ra.cs.toArray 28 (0, 0)) := by rw [hW]; exact below_block (balloc _) (by simp) (heap_alloc_new w _)
  have X1 : W.heap[w.heap.size + 1]? = some (.cells rb.cs.toArray 28 (0, 0)) := by
    have h := heap_alloc_new (w.alloc (.cells ra.cs.toArray 28)) (.cells rb.cs.toArray 28)
    rw [World.size_alloc, ← hW] at h; exact h
  obtain ⟨rk, ri, rt, ⟨la, ln, lc⟩, ⟨fa, fn, fc⟩⟩ := ra
  obtain ⟨rk2, ri2, rt2, ⟨la2, ln2, lc2⟩, ⟨fa2, fn2, fc2⟩⟩ := rb
  simp only [Rv.agg, Rv.cs, Sl.v] at *
  have x0 := (cell_of_row W _ 0 _ _ _ X0).trans rfl
  have x3 := (cell_of_row W _ 3 _ _ _ X0).trans rfl
  have x4 := (cell_of_row W _ 4 _ _ _ X0).trans rfl
  have y0 := (cell_of_row W _ 0 _ _ _ X1).trans rfl
  have y3 := (cell_of_row W _ 3 _ _ _ X1).trans rfl
  have y4 := (cell_of_row W _ 4 _ _ _ X1).trans rfl
  have HX3 := hid_mk x3
  have HX4 := hid_mk x4
  have HY3 := hid_mk y3
  have HY4 := hid_mk y4
  have BW := hid_mk bW
  have HW := hid_mk hW.symm
  clear X0 X1 bW hW
  by_cases hk : rk = rk2
  · subst hk
    rw [if_pos rfl] at HC
    have qk : (rk != rk) = false := by simp
    by_cases h1 : rk = 1
    · subst h1
      rw [if_pos (.inl rfl)] at HC
      go_enter Tryd.func14, Tryd.ntmps14
      go_wp2_with (go_at_call 31; refine (sign_any _ _ _).mono ?_; rintro e w' ⟨rfl, rfl⟩)
      go_ret
      exact ⟨ret_int HC.out.symm, by rw [HW.out]; exact BW.out⟩
    · by_cases h2 : rk = 2
      · subst h2
        rw [if_pos (.inr rfl)] at HC
        go_enter Tryd.func14, Tryd.ntmps14
        go_wp2_with (go_at_call 31; refine (sign_any _ _ _).mono ?_; rintro e w' ⟨rfl, rfl⟩)
        go_ret
        exact ⟨ret_int HC.out.symm, by rw [HW.out]; exact BW.out⟩
      · have g1 : (rk == 1) = false := beq_eq_false_iff_ne.2 h1
        have g2 : (rk == 2) = false := beq_eq_false_iff_ne.2 h2
        rw [if_neg (fun h => h.elim h1 h2)] at HC
        by_cases h3 : rk = 3
        · subst h3
          rw [if_pos rfl] at HC
          clear g1 g2 h1 h2
          go_enter Tryd.func14, Tryd.ntmps14
          go_wp2_with (go_at_call 32; refine (texts_any _ _ _).mono ?_; rintro e w' ⟨rfl, rfl⟩)
          go_ret
          exact ⟨ret_int HC.out.symm, by rw [HW.out]; exact BW.out⟩
        · rw [if_neg h3] at HC
          have g3 : (rk == 3) = false := beq_eq_false_iff_ne.2 h3
          by_cases h4 : rk = 4
          · subst h4
            rw [if_pos rfl] at HC
            obtain ⟨l, hl⟩ : ∃ l, l = a.l := ⟨_, rfl⟩
            obtain ⟨m, hm⟩ : ∃ m, m = b.l := ⟨_, rfl⟩
            rw [← hl] at HC HP4
            rw [← hm] at HC HQ4
            obtain ⟨e1, p1, p2, HA⟩ := HP4.out.at_
            obtain ⟨e2, p3, p4, HB⟩ := HQ4.out.at_
            simp only at e1 e2 p1 p2 p3 p4 HA HB
            subst e1 e2
            have HHA := hid_mk HA
            have HHB := hid_mk HB
            clear g1 g2 h1 h2 g3 h3 HA HB hl hm HP5 HQ5 qk x4 y4
            go_enter Tryd.func14, Tryd.ntmps14
            go_wp2_with fail
            rw [HW.out]
            clear x0 x3 y0 y3
            go_loopw [5] (fun iv wr => ∃ k : Nat, iv = .int .i64 k ∧ k ≤ l.length ∧ k ≤ m.length ∧ Hid (cmpL (cmpV d) l m = cmpL (cmpV d) (l.drop k) (m.drop k)) ∧ Hid (Below W.heap.size W wr)) (fun iv _ => l.length - (intOf iv).toNat)
            case atStart => exact ⟨0, rfl, Nat.zero_le _, Nat.zero_le _, hid_mk rfl, hid_mk (Below.refl _ _)⟩
            case round =>
              obtain ⟨k, rfl, hk, hk2, HCL, hbr⟩ := hrel
              have x3 := keep_cell hbr.out HX3.out
              have y3 := keep_cell hbr.out HY3.out
              by_cases hlt : k < l.length
              · have k1 : (k : Int) < (l.length : Int) := by omega
                have k0 : (0 : Int) ≤ (k : Int) := by omega
                by_cases hlt2 : k < m.length
                · have k2 : (k : Int) < (m.length : Int) := by omega
                  obtain ⟨g, rfl, hg, hcc⟩ := HHA.out (by omega)
                  obtain ⟨r, hr, c0, c1, c2, c3, c4⟩ := hcc k hlt
                  obtain ⟨sk, si, st, ⟨sa, sn, sc⟩, ⟨ta, tn, tc⟩⟩ := r
                  obtain ⟨g2, rfl, hg2, hcc2⟩ := HHB.out (by omega)
                  obtain ⟨r2, hr2, d0, d1, d2, d3, d4⟩ := hcc2 k hlt2
                  obtain ⟨sk2, si2, st2, ⟨sa2, sn2, sc2⟩, ⟨ta2, tn2, tc2⟩⟩ := r2
                  simp only [Sl.v] at c0 c1 c2 c3 c4 d0 d1 d2 d3 d4
                  have v0 := bwc hbr.out c0
                  have v1 := bwc hbr.out c1
                  have v2 := bwc hbr.out c2
                  have v3 := bwc hbr.out c3
                  have v4 := bwc hbr.out c4
                  have u0 := bwc hbr.out d0
                  have u1 := bwc hbr.out d1
                  have u2 := bwc hbr.out d2
                  have u3 := bwc hbr.out d3
                  have u4 := bwc hbr.out d4
                  have z3 := bwc hbr.out HX3.out
                  have z4 := bwc hbr.out HY3.out
                  have HST := hid_mk (cmpL_step (cmpV d) l m k hlt hlt2)
                  have HCC := hid_mk (cmp03_bw HIH.out (hr.below hbr.out) (hr2.below hbr.out))
                  obtain ⟨c, hc⟩ : ∃ c, c = cmpV d l[k] m[k] := ⟨_, rfl⟩
                  rw [← hc] at HST HCC
                  simp only [Rv.agg, Sl.v] at HCC
                  clear c0 c1 c2 c3 c4 d0 d1 d2 d3 d4 hcc hcc2 hr hr2 hc
                  go_wp2_with fail
                  refine wp_region_bw wr (by kernel_rfl) (by kernel_rfl) (Below.refl _ _) ?_
                  repeat (go_big_quiet_step ((with_reducible (exact HCC.out _))))
                  refine wpQuiet_nil ?_
                  rintro _ ⟨y, rfl⟩
                  have HBY := hid_mk (hbr.out.trans (y.h.mono hbr.out.size))
                  clear v0 v1 v2 v3 v4 u0 u1 u2 u3 u4 z3 z4 x3 y3
                  by_cases hz : c = 0
                  · have hq : (c != 0) = false := by simp [hz]
                    have HZ : Hid (cmpL (cmpV d) l m = cmpL (cmpV d) (l.drop (k + 1)) (m.drop (k + 1))) := hid_mk (by rw [HCL.out, HST.out, if_pos hz])
                    clear hz HCL HST HCC
                    go_wp2_with fail
                    exact ⟨⟨k + 1, by go_num, by omega, by omega, HZ, HBY⟩, by simp [intOf]; omega⟩
                  · have hq : (c != 0) = true := by simpa using hz
                    have HZ : Hid (cmpV (d + 1) a b = c) := hid_mk (by rw [HC.out, HCL.out, HST.out, if_neg hz])
                    clear hz HCL HST HCC
                    go_wp2_with fail
                    go_ret
                    exact ⟨ret_int HZ.out.symm, bthen BW.out HBY.out⟩
                · have hge : (m.length : Int) ≤ (k : Int) := by omega
                  have HZ : Hid (cmpV (d + 1) a b = sgn (l.length : Int) (m.length : Int)) := hid_mk (by rw [HC.out, HCL.out]; exact cmpL_out _ _ _ _ hk hk2 (.inr (by omega)))
                  clear HCL HC
                  go_wp2_with (go_at_call 31; refine (sign_any _ _ _).mono ?_; rintro e w' ⟨rfl, rfl⟩)
                  go_ret
                  exact ⟨ret_int HZ.out.symm, bthen BW.out hbr.out⟩
              · have hge : (l.length : Int) ≤ (k : Int) := by omega
                have HZ : Hid (cmpV (d + 1) a b = sgn (l.length : Int) (m.length : Int)) := hid_mk (by rw [HC.out, HCL.out]; exact cmpL_out _ _ _ _ hk hk2 (.inl (by omega)))
                clear HCL HC
                go_wp2_with (go_at_call 31; refine (sign_any _ _ _).mono ?_; rintro e w' ⟨rfl, rfl⟩)
                go_ret
                exact ⟨ret_int HZ.out.symm, bthen BW.out hbr.out⟩
          · rw [if_neg h4] at HC
            have g4 : (rk == 4) = false := beq_eq_false_iff_ne.2 h4
            by_cases h5 : rk = 5
            · subst h5
              rw [if_pos rfl] at HC
              obtain ⟨l, hl⟩ : ∃ l, l = a.f := ⟨_, rfl⟩
              obtain ⟨m, hm⟩ : ∃ m, m = b.f := ⟨_, rfl⟩
              rw [← hl] at HC HP5
              rw [← hm] at HC HQ5
              obtain ⟨e1, p1, p2, HA⟩ := HP5.out.at_
              obtain ⟨e2, p3, p4, HB⟩ := HQ5.out.at_
              simp only at e1 e2 p1 p2 p3 p4 HA HB
              subst e1 e2
              have HHA := hid_mk HA
              have HHB := hid_mk HB
              clear g1 g2 h1 h2 g3 h3 g4 h4 HA HB hl hm HP4 HQ4 qk x3 y3
              go_enter Tryd.func14, Tryd.ntmps14
              go_wp2_with fail
              rw [HW.out]
              clear x0 x4 y0 y4
              go_loopw [7] (fun iv wr => ∃ k : Nat, iv = .int .i64 k ∧ k ≤ l.length ∧ k ≤ m.length ∧ Hid (cmpL (cmpF (cmpV d)) l m = cmpL (cmpF (cmpV d)) (l.drop k) (m.drop k)) ∧ Hid (Below W.heap.size W wr)) (fun iv _ => l.length - (intOf iv).toNat)
              case atStart => exact ⟨0, rfl, Nat.zero_le _, Nat.zero_le _, hid_mk rfl, hid_mk (Below.refl _ _)⟩
              case round =>
                obtain ⟨k, rfl, hk, hk2, HCL, hbr⟩ := hrel
                have x4 := keep_cell hbr.out HX4.out
                have y4 := keep_cell hbr.out HY4.out
                by_cases hlt : k < l.length
                · have k1 : (k : Int) < (l.length : Int) := by omega
                  have k0 : (0 : Int) ≤ (k : Int) := by omega
                  by_cases hlt2 : k < m.length
                  · have k2 : (k : Int) < (m.length : Int) := by omega
                    obtain ⟨g, rfl, hg, hcc⟩ := HHA.out (by omega)
                    obtain ⟨r, hnm, hr, c0, c1, c2, c3, c4, c5⟩ := hcc k hlt
                    obtain ⟨nm, sk, si, st, ⟨sa, sn, sc⟩, ⟨ta, tn, tc⟩⟩ := r
                    obtain ⟨g2, rfl, hg2, hcc2⟩ := HHB.out (by omega)
                    obtain ⟨r2, hnm2, hr2, d0, d1, d2, d3, d4, d5⟩ := hcc2 k hlt2
                    obtain ⟨nm2, sk2, si2, st2, ⟨sa2, sn2, sc2⟩, ⟨ta2, tn2, tc2⟩⟩ := r2
                    simp only [Sl.v] at c0 c1 c2 c3 c4 c5 d0 d1 d2 d3 d4 d5 hnm hnm2
                    have v0 := bwc hbr.out c0
                    have v1 := bwc hbr.out c1
                    have v2 := bwc hbr.out c2
                    have v3 := bwc hbr.out c3
                    have v4 := bwc hbr.out c4
                    have v5 := bwc hbr.out c5
                    have u0 := bwc hbr.out d0
                    have u1 := bwc hbr.out d1
                    have u2 := bwc hbr.out d2
                    have u3 := bwc hbr.out d3
                    have u4 := bwc hbr.out d4
                    have u5 := bwc hbr.out d5
                    have z3 := bwc hbr.out HX4.out
                    have z4 := bwc hbr.out HY4.out
                    have HST := cmpL_step (cmpF (cmpV d)) l m k hlt hlt2
                    have hcf : cmpF (cmpV d) l[k] m[k] = orI (cb nm.data.toList nm2.data.toList) (cmpV d l[k].2 m[k].2) := by unfold cmpF; rw [hnm, hnm2]
                    rw [hcf] at HST
                    have HCC := hid_mk (cmp03_bw HIH.out (hr.below hbr.out) (hr2.below hbr.out))
                    have HTT := hid_mk (texts_bw (W := wr) nm nm2)
                    obtain ⟨c, hc⟩ : ∃ c, c = cmpV d l[k].2 m[k].2 := ⟨_, rfl⟩
                    rw [← hc] at HST HCC
                    obtain ⟨q, hq⟩ : ∃ q, q = cb nm.data.toList nm2.data.toList := ⟨_, rfl⟩
                    rw [← hq] at HST HTT
                    have HSS := hid_mk HST
                    simp only [Rv.agg, Sl.v] at HCC
                    clear c0 c1 c2 c3 c4 c5 d0 d1 d2 d3 d4 d5 hcc hcc2 hr hr2 hc hq HST hcf hnm hnm2
                    go_wp2_with fail
                    refine wp_region_bw wr (by kernel_rfl) (by kernel_rfl) (Below.refl _ _) ?_
                    repeat (go_big_quiet_step ((with_reducible (exact HTT.out _))))
                    refine wpQuiet_nil ?_
                    rintro _ ⟨y, rfl⟩
                    clear x4 y4
                    by_cases hz : q = 0
                    · have hqq : (q != 0) = false := by simp [hz]
                      have HZ0 := hid_mk hz
                      clear hz
                      go_wp2_with fail
                      refine wp_region_bw wr (by kernel_rfl) (by kernel_rfl) y.h ?_
                      repeat (go_big_quiet_step ((with_reducible (exact HCC.out _))))
                      refine wpQuiet_nil ?_
                      rintro _ ⟨z, rfl⟩
                      have HBZ := hid_mk (hbr.out.trans (z.h.mono hbr.out.size))
                      clear v0 v1 v2 v3 v4 v5 u0 u1 u2 u3 u4 u5 z3 z4
                      by_cases hz : c = 0
                      · have hq : (c != 0) = false := by simp [hz]
                        have HZ : Hid (cmpL (cmpF (cmpV d)) l m = cmpL (cmpF (cmpV d)) (l.drop (k + 1)) (m.drop (k + 1))) := hid_mk (by rw [HCL.out, HSS.out, orI_zero HZ0.out, if_pos hz])
                        clear hz HCL HSS HCC HZ0
                        go_wp2_with fail
                        exact ⟨⟨k + 1, by go_num, by omega, by omega, HZ, HBZ⟩, by simp [intOf]; omega⟩
                      · have hq : (c != 0) = true := by simpa using hz
                        have HZ : Hid (cmpV (d + 1) a b = c) := hid_mk (by rw [HC.out, HCL.out, HSS.out, orI_zero HZ0.out, if_neg hz])
                        clear hz HCL HSS HCC HZ0
                        go_wp2_with fail
                        go_ret
                        exact ⟨ret_int HZ.out.symm, bthen BW.out HBZ.out⟩
                    · have hqq : (q != 0) = true := by simpa using hz
                      have HBY := hid_mk (hbr.out.trans (y.h.mono hbr.out.size))
                      have HZ : Hid (cmpV (d + 1) a b = q) := hid_mk (by rw [HC.out, HCL.out, HSS.out, orI_ne hz, if_neg hz])
                      clear hz HCL HSS HCC v0 v1 v2 v3 v4 v5 u0 u1 u2 u3 u4 u5 z3 z4
                      go_wp2_with fail
                      go_ret
                      exact ⟨ret_int HZ.out.symm, bthen BW.out HBY.out⟩
                  · have hge : (m.length : Int) ≤ (k : Int) := by omega
                    have HZ : Hid (cmpV (d + 1) a b = sgn (l.length : Int) (m.length : Int)) := hid_mk (by rw [HC.out, HCL.out]; exact cmpL_out _ _ _ _ hk hk2 (.inr (by omega)))
                    clear HCL HC
                    go_wp2_with (go_at_call 31; refine (sign_any _ _ _).mono ?_; rintro e w' ⟨rfl, rfl⟩)
                    go_ret
                    exact ⟨ret_int HZ.out.symm, bthen BW.out hbr.out⟩
                · have hge : (l.length : Int) ≤ (k : Int) := by omega
                  have HZ : Hid (cmpV (d + 1) a b = sgn (l.length : Int) (m.length : Int)) := hid_mk (by rw [HC.out, HCL.out]; exact cmpL_out _ _ _ _ hk hk2 (.inl (by omega)))
                  clear HCL HC
                  go_wp2_with (go_at_call 31; refine (sign_any _ _ _).mono ?_; rintro e w' ⟨rfl, rfl⟩)
                  go_ret
                  exact ⟨ret_int HZ.out.symm, bthen BW.out hbr.out⟩
            · rw [if_neg h5] at HC
              have g5 : (rk == 5) = false := beq_eq_false_iff_ne.2 h5
              go_enter Tryd.func14, Tryd.ntmps14
              go_wp2_with fail
              go_ret
              exact ⟨ret_int HC.out.symm, by rw [HW.out]; exact BW.out⟩
  · rw [if_neg hk] at HC
    have qk : (rk != rk2) = true := by simpa using hk
    go_enter Tryd.func14, Tryd.ntmps14
    go_wp2_with (go_at_call 31; refine (sign_any _ _ _).mono ?_; rintro e w' ⟨rfl, rfl⟩)
    go_ret
    exact ⟨ret_int HC.out.symm, by rw [HW.out]; exact BW.out⟩
theorem cmp03_any : ∀ d, Cmp03Said d
  | 0 => fun _ _ _ _ _ h => h.elim
  | d + 1 => cmp03_step d (cmp03_any d)

end Go.Proofs.YtmeebjjdceokeaaDoor
