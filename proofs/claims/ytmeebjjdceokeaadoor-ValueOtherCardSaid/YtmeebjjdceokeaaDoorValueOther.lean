/- What is no object has no fields, and gets none: the walk. -/
import Derived.Test.YtmeebjjdceokeaaDoorValueCmp
namespace Go.Proofs.YtmeebjjdceokeaaDoor
open Go.RowKit
set_option linter.unusedVariables false
attribute [local go_sem ↓] Go.wp_at_zero Go.wp_at_succ

set_option maxHeartbeats 1000000 in
theorem set_plain (rk ri : Int) (rt : ByteArray) (la : Option Addr) (ln lc : Nat) (fa : Option Addr) (fn fc : Nat) (name : ByteArray) (rx : Rv) (w : World) (h : ¬ rk = 5) :
    Calls Tryd.prog 17 #[.agg #[.int .i64 rk, .int .i64 ri, .string rt, .slice la ln lc, .slice fa fn fc], .string name, rx.agg] w fun e w' => e = .returned (.agg #[.int .i64 rk, .int .i64 ri, .string rt, .slice la ln lc, .slice fa fn fc]) ∧ Below w.heap.size w w' := by
  obtain ⟨xk, xi, xt, ⟨xa, xn, xc⟩, ⟨ya, yn, yc⟩⟩ := rx
  have q : (rk != 5) = true := by simpa using h
  simp only [Rv.agg, Sl.v]
  go_enter Tryd.func17, Tryd.ntmps17
  go_wp2_with fail
  (try simp only [Exit.inBlock, Exit.then])
  refine bodyPost_ret (v := .agg #[.int .i64 rk, .int .i64 ri, .string rt, .slice la ln lc, .slice fa fn fc]) ?_ rfl ?_
  · simp [results, Tryd.results17, go_sem, *]
  · exact ⟨rfl, bthen (bthen (bthen (balloc _) (balloc _)) (balloc _)) (balloc _)⟩

set_option maxHeartbeats 2000000 in
set_option maxRecDepth 100000 in
theorem other_walk (A0 : Option Addr) (n0 c0 : Nat) (z0 : List Int) (name : ByteArray) (w : World) (h0 : Bytes w.heap.size w A0 n0 c0 z0) (hn : name.size ≤ maxLen) (ht : Tabs w) :
    Calls Tryd.prog 8 #[.slice A0 n0 c0, .string name] w fun e w' => e = .returned (.bool true) ∧ Below w.heap.size w w' := by
  have H0 := hid_mk h0
  have HT := hid_mk ht
  clear h0 ht hn
  go_enter Tryd.func8, Tryd.ntmps8
  go_wp2_with fail
  refine (awake03 w).mono ?_
  rintro e w1 ⟨rfl, b1⟩
  have HB1 := hid_mk b1
  clear b1
  go_wp2_with fail
  refine (of_w A0 n0 c0 z0 w1 (H0.out.of_below HB1.out) (HT.out.below HB1.out)).mono ?_
  rintro e w2 ⟨x, rx, rfl, X2, GX, b2⟩
  have HB2 := hid_mk (bthen HB1.out b2)
  have hkx := X2.rows.1
  have HGB : Hid (x.f.length ≤ 4) := hid_mk GX.2.2.2.2.2.2.2.2
  obtain ⟨xk, xi, xt, ⟨xa, xn, xc⟩, ⟨xf, xg, xh⟩⟩ := rx
  simp only at hkx
  obtain ⟨W3, hW3⟩ : ∃ W3, W3 = w2.alloc (.cells #[.int .i64 xk, .int .i64 xi, .string xt, .slice xa xn xc, .slice xf xg xh] 28) := ⟨_, rfl⟩
  have b3 : Below w2.heap.size w2 W3 := by rw [hW3]; exact balloc _
  have Y3 : W3.heap[w2.heap.size]? = some (.cells #[.int .i64 xk, .int .i64 xi, .string xt, .slice xa xn xc, .slice xf xg xh] 28 (0, 0)) := by rw [hW3]; exact heap_alloc_new w2 _
  have HX3 := hid_mk (X2.below b3)
  have HB3 := hid_mk (bthen HB2.out b3)
  have HY3 := hid_mk Y3
  have HW3 := hid_mk hW3.symm
  simp only [Rv.agg, Sl.v]
  clear X2 GX b2 HB1 HB2 b3 Y3 hW3
  by_cases h5 : xk = 5
  · subst h5
    clear hkx
    go_wp2_with fail
    go_ret
    exact ⟨rfl, by rw [HW3.out]; exact HB3.out⟩
  · have q5 : (xk == 5) = false := beq_eq_false_iff_ne.2 h5
    have hat : atV x name = -1 := if_neg (by rw [← hkx]; exact h5)
    have HG : Hid (getV x name = zV) := hid_mk (if_neg (by rw [hat]; omega))
    have HD : Hid (delV x name = x) := hid_mk (if_neg (by rw [hat]; omega))
    have HDC : Hid (decide (0 ≤ atV x name) = false) := hid_mk (by rw [hat]; rfl)
    have H5 := hid_mk h5
    clear hat hkx h5
    go_wp2_with fail
    rw [HW3.out]
    refine (get_any 2 x ⟨xk, xi, xt, ⟨xa, xn, xc⟩, ⟨xf, xg, xh⟩⟩ name _ HX3.out).mono ?_
    rintro e w4 ⟨rg, rfl, G4, b4⟩
    rw [HDC.out]
    obtain ⟨gk, gi, gt, ⟨ga, gn, gc⟩, ⟨gf, gg, gh⟩⟩ := rg
    obtain ⟨W5, hW5⟩ : ∃ W5, W5 = w4.alloc (.cells #[.int .i64 gk, .int .i64 gi, .string gt, .slice ga gn gc, .slice gf gg gh] 28) := ⟨_, rfl⟩
    have b5 : Below w4.heap.size w4 W5 := by rw [hW5]; exact balloc _
    have HX5 := hid_mk (HX3.out.below (bthen b4 b5))
    have HB5 := hid_mk (bthen HB3.out (bthen b4 b5))
    have Y5 := below_block (bthen b4 b5) (lt_of_block HY3.out) HY3.out
    have HY5 := hid_mk Y5
    have v0 := (cell_of_row W5 _ 0 _ _ _ Y5).trans rfl
    have v1 := (cell_of_row W5 _ 1 _ _ _ Y5).trans rfl
    have v2 := (cell_of_row W5 _ 2 _ _ _ Y5).trans rfl
    have v3 := (cell_of_row W5 _ 3 _ _ _ Y5).trans rfl
    have v4 := (cell_of_row W5 _ 4 _ _ _ Y5).trans rfl
    have HW5 := hid_mk hW5.symm
    rw [hW5] at v0 v1 v2 v3 v4
    simp only [Rv.agg, Sl.v]
    clear G4 b4 b5 hW5 HX3 HB3 HY3 Y5
    go_wp2_with fail
    rw [HW5.out]
    refine (del_any 3 x ⟨xk, xi, xt, ⟨xa, xn, xc⟩, ⟨xf, xg, xh⟩⟩ name _ HX5.out (by have := HGB.out; omega)).mono ?_
    rintro e w6 ⟨rd, rfl, D6, b6⟩
    rw [HDC.out]
    rw [HD.out] at D6
    obtain ⟨dk, di, dt, ⟨da, dn, dc⟩, ⟨df, dg, dh⟩⟩ := rd
    obtain ⟨W7, hW7⟩ : ∃ W7, W7 = w6.alloc (.cells #[.int .i64 dk, .int .i64 di, .string dt, .slice da dn dc, .slice df dg dh] 28) := ⟨_, rfl⟩
    have b7 : Below w6.heap.size w6 W7 := by rw [hW7]; exact balloc _
    have HX7 := hid_mk (HX5.out.below (bthen b6 b7))
    have HD7 := hid_mk (D6.below b7)
    have HB7 := hid_mk (bthen HB5.out (bthen b6 b7))
    have Y7 := box5 (below_block (bthen b6 b7) (lt_of_block HY5.out) HY5.out)
    have Z7 := box5 (w := W7) (b := w6.heap.size) (k := dk) (i := di) (t := dt) (l := .slice da dn dc) (f := .slice df dg dh) (by rw [hW7]; exact heap_alloc_new w6 _)
    have x0 := fun y => (Y7 y).1
    have x1 := fun y => (Y7 y).2.1
    have x2 := fun y => (Y7 y).2.2.1
    have x3 := fun y => (Y7 y).2.2.2.1
    have x4 := fun y => (Y7 y).2.2.2.2
    have y0 := fun y => (Z7 y).1
    have y1 := fun y => (Z7 y).2.1
    have y2 := fun y => (Z7 y).2.2.1
    have y3 := fun y => (Z7 y).2.2.2.1
    have y4 := fun y => (Z7 y).2.2.2.2
    have HS1 := hid_mk (same_bw HD7.out HX7.out)
    have HS2 := hid_mk (same_bw HX7.out HX7.out)
    rw [cmp_self] at HS1 HS2
    have HST : Hid (∀ y : BW W7, Calls Tryd.prog 17 #[.agg #[.int .i64 xk, .int .i64 xi, .string xt, .slice xa xn xc, .slice xf xg xh], .string name, .agg #[.int .i64 xk, .int .i64 xi, .string xt, .slice xa xn xc, .slice xf xg xh]] y.w fun e w' => e = .returned (.agg #[.int .i64 xk, .int .i64 xi, .string xt, .slice xa xn xc, .slice xf xg xh]) ∧ ∃ z : BW W7, w' = z.w) :=
      hid_mk fun y => (set_plain xk xi xt xa xn xc xf xg xh name ⟨xk, xi, xt, ⟨xa, xn, xc⟩, ⟨xf, xg, xh⟩⟩ y.w H5.out).mono (by rintro e w' ⟨h, b⟩; exact ⟨h, y.step b⟩)
    have HW7 := hid_mk hW7.symm
    simp only [Rv.agg, Sl.v] at HS1 HS2 ⊢
    clear D6 b6 b7 hW7 HX5 HB5 HY5 Y7 Z7 v0 v1 v2 v3 v4
    go_wp2_with fail
    rw [HW7.out]
    refine wp_region_bw W7 (by kernel_rfl) (by kernel_rfl) (Below.refl _ _) ?_
    repeat (go_big_quiet_step ((with_reducible (first | exact HS1.out _ | exact HS2.out _ | exact HST.out _))))
    refine wpQuiet_nil ?_
    rintro _ ⟨q, rfl⟩
    clear x0 x1 x2 x3 x4 y0 y1 y2 y3 y4
    go_wp2_with fail
    go_ret
    exact ⟨by simp, HB7.out.trans (q.h.mono HB7.out.size)⟩

end Go.Proofs.YtmeebjjdceokeaaDoor
